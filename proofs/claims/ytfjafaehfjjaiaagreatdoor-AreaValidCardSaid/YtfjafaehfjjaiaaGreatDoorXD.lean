/- part 4 -/
import Derived.Test.YtfjafaehfjjaiaaGreatDoorXC
set_option linter.unusedVariables false
set_option linter.unusedSimpArgs false
set_option maxRecDepth 10000
namespace Go.Tow
def El: Nat->Type
 | 0=>Rat
 | k+1=>El k×El k
def Tw: Nat->Type
 | 0=>Unit
 | k+1=>Tw k×El k
def toL: (k:Nat)->El k->List Rat
 | 0,x=>[x]
 | k+1,x=>toL k x.1++toL k x.2
def toT: (k:Nat)->Tw k->List (List Rat)
 | 0,_=>[]
 | k+1,t=>toT k t.1++[toL k t.2]
def zero: (k:Nat)->El k
 | 0=>(0:Rat)
 | k+1=>(zero k,zero k)
def rat: (k:Nat)->Rat->El k
 | 0,x=>x
 | k+1,x=>(rat k x,zero k)
def add: (k:Nat)->El k->El k->El k
 | 0=>λ(x y:Rat)=>x+y
 | k+1=>λx y=>(add k x.1 y.1,add k x.2 y.2)
def neg: (k:Nat)->El k->El k
 | 0=>λ(x:Rat)=>-x
 | k+1=>λx=>(neg k x.1,neg k x.2)
def mul: (k:Nat)->Tw k->El k->El k->El k
 | 0=>λ_ (x y:Rat)=>x*y
 | k+1=>λt x y=>(add k (mul k t.1 x.1 y.1) (mul k t.1 (mul k t.1 x.2 y.2) t.2),add k (mul k t.1 x.1 y.2) (mul k t.1 x.2 y.1))
instance decEl:(k:Nat)->DecidableEq (El k)
 | 0=>inferInstanceAs (DecidableEq Rat)
 | k+1=>@instDecidableEqProd _ _ (decEl k) (decEl k)
theorem Xab(k:Nat)(a:El k): (toL k a).length=2^k:=by
 induction k with
 | zero=>rfl
 | succ k ih=>simp only[toL,W0d,ih,W0y];omega
theorem Xaa(k:Nat)(t:Tw k): (toT k t).length=k:=by
 induction k with
 | zero=>rfl
 | succ k ih=>simp only[toT,W0d,ih,W6m]
theorem Xfo{α:Type}{a b c d:List α}(h:a.length=c.length)(e:a++b=c++d): a=c/\b=d:=List.append_inj e h
theorem Xgk{k:Nat}{a b:El k}(h:toL k a=toL k b): a=b:=by
 induction k with
 | zero=>exact(List.cons.inj h).1
 | succ k ih =>
  obtain⟨h1,h2⟩:=Xfo (by rw[Xab,Xab]) h
  exact W3j (ih h1) (ih h2)
theorem exE(k:Nat)(l:List Rat)(h:l.length=2^k): ∃a:El k,toL k a=l:=by
 induction k generalizing l with
 | zero =>
  match l,h with
  | [x],_=>exact⟨x,rfl⟩
 | succ k ih =>
  obtain⟨a,ha⟩:=ih (l.take (2^k)) (by rw[W0j,h,W0y];omega)
  obtain⟨b,hb⟩:=ih (l.drop (2^k)) (by rw[W1l,h,W0y];omega)
  exact⟨(a,b),by show toL k a++toL k b=l;rw[ha,hb,W4n]⟩
theorem Xav(k:Nat)(a b:El k): toL k (add k a b)=List.zipWith (·+·) (toL k a) (toL k b):=by
 induction k with
 | zero=>rfl
 | succ k ih =>
  simp only[toL,add,ih]
  rw[List.zipWith_append (by rw[Xab,Xab])]
theorem Xb6(k:Nat)(a:El k): toL k (neg k a)=(toL k a).map (- ·):=by
 induction k with
 | zero=>rfl
 | succ k ih=>simp only[toL,neg,ih,W2c]
theorem Xbn(k:Nat): toL k (zero k)=List.replicate (2^k) 0:=by
 induction k with
 | zero=>rfl
 | succ k ih =>
  simp only[toL,zero,ih]
  rw[W5g,W0y]
  congr 1
  omega
theorem Xcm(k:Nat)(x:Rat): toL k (rat k x)=x::List.replicate (2^k-1) 0:=by
 induction k with
 | zero=>rfl
 | succ k ih =>
  simp only[toL,rat,ih,Xbn,W5a]
  rw[W5g,W0y]
  congr 2
  have:=W0r k
  omega
theorem Xam(k:Nat)(a:El k): a=zero k↔∀x∈toL k a,x=0:=by
 constructor
 . rintro rfl x hx
   rw[Xbn] at hx
   exact W5y hx
 . intro h
   apply Xgk
   rw[Xbn]
   exact List.eq_replicate_iff.2 ⟨Xab k a,h⟩
theorem Xdx(k:Nat): rat k 0=zero k:=by
 induction k with
 | zero=>rfl
 | succ k ih=>simp only[rat,zero,ih];rfl
structure Laws {α:Type} (add mul:α->α->α) (neg:α->α) (zero one:α):Prop where
 ac:∀a b,add a b=add b a
 aa:∀a b c,add (add a b) c=add a (add b c)
 az:∀a,add a zero=a
 an:∀a,add a (neg a)=zero
 mc:∀a b,mul a b=mul b a
 ma:∀a b c,mul (mul a b) c=mul a (mul b c)
 mo:∀a,mul a one=a
 md:∀a b c,mul a (add b c)=add (mul a b) (mul a c)
section
variable{α:Type}{add mul:α->α->α}{neg:α->α}{zero one:α}(L:Laws add mul neg zero one)
include L
theorem Laws.alc(a b c:α): add a (add b c)=add b (add a c):=by rw[<-L.aa,L.ac a b,L.aa]
theorem Laws.mlc(a b c:α): mul a (mul b c)=mul b (mul a c):=by rw[<-L.ma,L.mc a b,L.ma]
theorem Laws.dm(a b c:α): mul (add a b) c=add (mul a c) (mul b c):=by rw[L.mc,L.md,L.mc c a,L.mc c b]
theorem Laws.za(a:α): add zero a=a:=by rw[L.ac,L.az]
theorem Laws.om(a:α): mul one a=a:=by rw[L.mc,L.mo]
theorem Laws.cancel{a b c:α}(h:add a c=add b c): a=b:=by
 have:add (add a c) (neg c)=add (add b c) (neg c):=by rw[h]
 rwa[L.aa,L.aa,L.an,L.az,L.az] at this
theorem Laws.mz(a:α): mul a zero=zero:=by
 refine L.cancel (c:=mul a zero) ?_
 rw[<-L.md,L.za,L.za]
theorem Laws.zm(a:α): mul zero a=zero:=by rw[L.mc,L.mz]
theorem Laws.na(a:α): add (neg a) a=zero:=by rw[L.ac,L.an]
theorem Laws.nu{a b:α}(h:add a b=zero): b=neg a:=L.cancel (c:=a) (by rw[L.ac,h,L.na])
theorem Laws.mn(a b:α): mul a (neg b)=neg (mul a b):=L.nu (by rw[<-L.md,L.an,L.mz])
theorem Laws.nm(a b:α): mul (neg a) b=neg (mul a b):=by rw[L.mc,L.mn,L.mc]
theorem Laws.nn(a:α): neg (neg a)=a:=(L.nu (L.na a)).symm
theorem Laws.nd(a b:α): neg (add a b)=add (neg a) (neg b):=(L.nu (by
 rw[L.aa,L.alc b,<-L.aa,L.an,L.za,L.an])).symm
theorem Laws.nz: neg zero=zero:=(L.nu (L.az zero)).symm
theorem Laws.sub_eq{a b c d:α}(h:add a d=add c b): add a (neg b)=add c (neg d):=by
 refine L.cancel (c:=add b d) ?_
 have e1:add (add a (neg b)) (add b d)=add a d:=by rw[L.aa,<-L.aa (neg b),L.na,L.za]
 have e2:add (add c (neg d)) (add b d)=add c b:=by rw[L.aa,L.alc (neg d),L.na,L.az]
 rw[e1,e2,h]
theorem Laws.quad(r:α): Laws (α:=α×α) (λx y=>(add x.1 y.1,add x.2 y.2)) (λx y=>(add (mul x.1 y.1) (mul (mul x.2 y.2) r),add (mul x.1 y.2) (mul x.2 y.1))) (λx=>(neg x.1,neg x.2)) (zero,zero) (one,zero) where
 ac:=λa b=>by simp only[L.ac]
 aa:=λa b c=>by simp only[L.aa]
 az:=λa=>by simp only[L.az]
 an:=λa=>by simp only[L.an]
 mc:=λa b=>by
  refine W3j ?_ ?_
  . simp only[L.mc]
  . simp only[L.mc,L.ac]
 ma:=λa b c=>by
  refine W3j ?_ ?_
  . simp only[L.md,L.dm,L.ma]
    simp only[L.mc,L.mlc,L.aa,L.ac,L.alc]
  . simp only[L.md,L.dm,L.ma]
    simp only[L.mc,L.mlc,L.aa,L.ac,L.alc]
 mo:=λa=>by
  refine W3j ?_ ?_
  . simp only[L.mo,L.mz,L.zm,L.az]
  . simp only[L.mo,L.mz,L.za]
 md:=λa b c=>by
  refine W3j ?_ ?_
  . simp only[L.md,L.dm]
    simp only[L.aa,L.ac,L.alc]
  . simp only[L.md,L.dm]
    simp only[L.aa,L.ac,L.alc]
end
theorem Xaz(k:Nat)(t:Tw k): Laws (add k) (mul k t) (neg k) (zero k) (rat k 1):=by
 induction k with
 | zero=>exact⟨Rat.add_comm,Rat.add_assoc,W7c,Rat.add_neg_cancel,Rat.mul_comm,Rat.mul_assoc,Rat.mul_one,Rat.mul_add⟩
 | succ k ih=>exact(ih t.1).quad t.2
def norm(k:Nat)(t:Tw (k+1))(a:El (k+1)): El k:=add k (mul k t.1 a.1 a.1) (neg k (mul k t.1 (mul k t.1 a.2 a.2) t.2))
def inv: (k:Nat)->Tw k->El k->Option (El k)
 | 0=>λ_ (x:Rat)=>if x=0 then none else some (1/x:Rat)
 | k+1=>λt a=>match inv k t.1 (norm k t a) with
  | none=>none
  | some n=>some (mul k t.1 a.1 n,neg k (mul k t.1 a.2 n))
theorem Xqi(k:Nat)(t:Tw (k+1))(a b:El (k+1)): norm k t (mul (k+1) t a b)=mul k t.1 (norm k t a) (norm k t b):=by
 have L:=Xaz k t.1
 have h:∀x y z w:El k,mul k t.1 (add k x (neg k y)) (add k z (neg k w))=add k (add k (mul k t.1 x z) (mul k t.1 y w)) (neg k (add k (mul k t.1 x w) (mul k t.1 y z))):=by
  intro x y z w
  simp only[L.md,L.dm,L.mn,L.nm,L.nn,L.nd]
  simp only[L.aa,L.ac,L.alc]
 simp only[norm,mul]
 rw[h]
 refine L.sub_eq ?_
 simp only[L.md,L.dm,L.ma]
 simp only[L.mc,L.mlc,L.aa,L.ac,L.alc]
theorem Xb9{k:Nat}{t:Tw k}{a b:El k}(h:inv k t a=some b): mul k t b a=rat k 1:=by
 induction k with
 | zero =>
  have h2:∀x b:Rat,(if x=0 then none else some (1/x))=some b->b*x=1:=by
   intro x b h
   split at h
   . cases h
   . rename_i hx
     injection h with h
     subst h
     exact W5e hx
  exact h2 a b h
 | succ k ih =>
  have L:=Xaz k t.1
  simp only[inv] at h
  split at h
  . cases h
  . rename_i n hn
    injection h with h
    subst h
    have:=ih hn
    refine W3j ?_ ?_
    . show add k (mul k t.1 (mul k t.1 a.1 n) a.1) (mul k t.1 (mul k t.1 (neg k (mul k t.1 a.2 n)) a.2) t.2)=rat k 1
      rw[<-this,norm]
      simp only[L.md,L.mn,L.nm]
      simp only[L.ma,L.mc,L.mlc]
    . show add k (mul k t.1 (mul k t.1 a.1 n) a.2) (mul k t.1 (neg k (mul k t.1 a.2 n)) a.1)=zero k
      simp only[L.nm]
      rw[show mul k t.1 (mul k t.1 a.2 n) a.1=mul k t.1 (mul k t.1 a.1 n) a.2 by simp only[L.ma,L.mc,L.mlc],L.an]
def pr{k:Nat}(a b:El k): El (k+1):=(a,b)
def up(k:Nat)(a:El k): El (k+1):=(a,zero k)
def Xcr: (k:Nat)->(i:Nat)->El k
 | 0,_=>(0:Rat)
 | k+1,i=>if i=k then pr (zero k) (rat k 1) else up k (Xcr k i)
theorem Xic(k:Nat)(t:Tw (k+1))(a b:El k): mul (k+1) t (up k a) (up k b)=up k (mul k t.1 a b):=by
 have L:=Xaz k t.1
 simp only[mul,up,L.mz,L.zm,L.az];rfl
theorem Xph{k i:Nat}(hi:i<k): toL k (Xcr k i)=(List.replicate (2^k) 0).set (2^i) 1:=by
 induction k with
 | zero=>omega
 | succ k ih =>
  have hp:2^(k+1)=2^k+2^k:=by rw[W0y];omega
  rw[hp,<-W5g]
  by_cases h:i=k
  . rw[Xcr,if_pos h]
    subst h
    simp only[toL,pr,Xbn,Xcm]
    rw[List.set_append_right _ _ (by simp),W1v,W3b]
    have h0:=W0r i
    obtain⟨m,hm⟩:∃m,2^i=m+1:=⟨2^i-1,by omega⟩
    rw[hm]
    rfl
  . have hik:i<k:=by omega
    have hlt:2^i<2^k:=W3s (by decide) hik
    rw[Xcr,if_neg h]
    simp only[toL,up,Xbn]
    rw[ih hik,List.set_append_left _ _ (by rw[W1v];exact hlt)]
end Go.Tow
namespace Go.Proofs.YtfjafaehfjjaiaaGreatDoor
open Go Go.Num Go.Tow Go.Vm
section
def IsD(d n:Nat)(l:List Rat): Prop:=∀x∈l,∃z:Int,x*(d:Rat)=(z:Rat)/\z.natAbs<n
theorem IsD.mono{d n m:Nat}{l:List Rat}(h:IsD d n l)(hm:n<=m): IsD d m l:=λx hx =>
 let ⟨z,h1,h2⟩:=h x hx;⟨z,h1,W0v h2 hm⟩
theorem IsD.scale{d n e:Nat}{l:List Rat}(h:IsD d n l)(he:0<e): IsD (d*e) (n*e) l:=λx hx=>by
 obtain⟨z,h1,h2⟩:=h x hx
 refine⟨z*(e:Int),?_,?_⟩
 . rw[W6c,<-Rat.mul_assoc,h1,W3t];rfl
 . rw[W3p,W1f]
   exact W3c h2 he
theorem IsD.append{d n:Nat}{l m:List Rat}(h:IsD d n l)(k:IsD d n m): IsD d n (l++m):=λx hx=>(W1s.1 hx).elim (h x) (k x)
theorem IsD.left{d n:Nat}{l m:List Rat}(h:IsD d n (l++m)): IsD d n l:=λx hx=>h x (W2k _ hx)
theorem IsD.right{d n:Nat}{l m:List Rat}(h:IsD d n (l++m)): IsD d n m:=λx hx=>h x (W1o _ hx)
theorem IsD.add{d n m:Nat}: ∀ {l l':List Rat},IsD d n l->IsD d m l'->IsD d (n+m) (List.zipWith (·+·) l l')
 | [],_,_,_=>λ_ h=>nomatch h
 | _::_,[],_,_=>λ_ h=>nomatch h
 | a::l,b::l',h,k=>λx hx=>by
  rcases W1j.1 hx with hx | hx
  . obtain⟨z,h1,h2⟩:=h a (W0l ..)
    obtain⟨w,k1,k2⟩:=k b (W0l ..)
    refine⟨z+w,by rw[hx,Rat.add_mul,h1,k1,W6d],?_⟩
    have:=Int.natAbs_add_le z w
    omega
  . exact IsD.add (λy hy=>h y (W0p _ hy)) (λy hy=>k y (W0p _ hy)) x hx
theorem IsD.neg{d n:Nat}{l:List Rat}(h:IsD d n l): IsD d n (l.map (- ·)):=λx hx=>by
 obtain⟨y,hy,rfl⟩:=W2y.1 hx
 obtain⟨z,h1,h2⟩:=h y hy
 exact⟨-z,by rw[Rat.neg_mul,h1,W7n],by rw[W5d];exact h2⟩
theorem IsD.mul1{d n e m:Nat}{x y:Rat}(h:IsD d n [x])(k:IsD e m [y]): IsD (d*e) (n*m) [x*y]:=λu hu=>by
 obtain rfl:=W0h.1 hu
 obtain⟨z,h1,h2⟩:=h x (W0l ..)
 obtain⟨w,k1,k2⟩:=k y (W0l ..)
 refine⟨z*w,?_,?_⟩
 . rw[W6c,W3t,<-h1,<-k1]
   grind
 . rw[W3p]
   exact W3i h2 k2
theorem Xk1(y:Rat): y*(y.den:Rat)=(y.num:Rat):=by
 have hd:((y.den:Nat):Rat)≠0:=by
  intro h
  have:((y.den:Nat):Rat).num=0:=by rw[h];rfl
  rw[Rat.num_natCast] at this
  have:=y.den_nz
  omega
 have e:y=(y.num:Rat)/(y.den:Rat):=by
  conv=>lhs;rw[<-Rat.num_divInt_den y,W5j]
  rfl
 conv=>lhs;lhs;rw[e]
 exact W5e hd
def Sz(p:Nat)(l:List Rat): Prop:=∃d:Nat,0<d/\d<2^p/\IsD d (2^p) l
theorem Sz.mono{p q:Nat}{l:List Rat}(h:Sz p l)(hp:p<=q): Sz q l:=by
 obtain⟨d,h0,h1,h2⟩:=h
 have:=W0m (n:=2) (by decide) hp
 exact⟨d,h0,by omega,h2.mono this⟩
theorem Sz.sub{p:Nat}{l m:List Rat}(h:Sz p l)(hs:∀x∈m,x∈l): Sz p m:=by
 obtain⟨d,h0,h1,h2⟩:=h
 exact⟨d,h0,h1,λx hx=>h2 x (hs x hx)⟩
theorem Sz.qs{p:Nat}{l:List Rat}(h:Sz p l){x:Rat}(hx:x∈l): Qs p x:=by
 obtain⟨d,h0,h1,h2⟩:=h
 obtain⟨z,h3,h4⟩:=h2 x hx
 have hd:((d:Nat):Rat)≠0:=by
  intro h
  have:(d:Rat).num=0:=by rw[h];rfl
  rw[Rat.num_natCast] at this
  omega
 have e:x=Rat.divInt z (d:Int):=by
  rw[W5j,<-h3]
  exact(Rat.mul_div_cancel hd).symm
 rw[e]
 exact Qs.divInt h4 (by unfold Zs;rw[W1f];exact h1) (by omega)
theorem Sz.nil: Sz 1 []:=⟨1,by decide,by decide,λ_ h=>nomatch h⟩
theorem _root_.Go.Num.Qs.isD{p:Nat}{x:Rat}(h:Qs p x): IsD x.den (2^p) [x]:=λy hy=>by
 obtain rfl:=W0h.1 hy
 exact⟨y.num,Xk1 y,h.n⟩
theorem Sz.one{p:Nat}{x:Rat}(h:Qs p x): Sz p [x]:=⟨x.den,W2m x.den_nz,by have:=h.d;unfold Zs at this;rwa[W1f] at this,h.isD⟩
theorem Sz.append{p q:Nat}{l m:List Rat}(h:Sz p l)(k:Sz q m): Sz (p+q) (l++m):=by
 obtain⟨d,h0,h1,h2⟩:=h
 obtain⟨e,k0,k1,k2⟩:=k
 have hp:=W0r p
 have hq:=W0r q
 refine⟨d*e,W1m h0 k0,by rw[W0x];exact W3i h1 k1,?_⟩
 refine IsD.append ((h2.scale k0).mono ?_) ?_
 . rw[W0x];exact W0t _ (W2h k1)
 . rw[W1i d e]
   refine(k2.scale h0).mono ?_
   rw[W0x,W1i]
   exact W0q _ (W2h h1)
theorem Sz.cons{p q:Nat}{x:Rat}{m:List Rat}(h:Qs p x)(k:Sz q m): Sz (p+q) (x::m):=(Sz.one h).append k
theorem Sz.all{p:Nat}: ∀ {l:List Rat},(∀x∈l,Qs p x)->Sz (p*l.length+1) l
 | [],_=>Sz.nil.mono (by omega)
 | x::l,h=>(Sz.cons (h x (W0l ..)) (Sz.all λy hy=>h y (W0p _ hy))).mono (by rw[W0s,Nat.mul_succ];omega)
theorem Sz.add{p q:Nat}{l m:List Rat}(h:Sz p l)(k:Sz q m): Sz (p+q+1) (List.zipWith (·+·) l m):=by
 obtain⟨d,h0,h1,h2⟩:=h
 obtain⟨e,k0,k1,k2⟩:=k
 have e1:=W3i h1 k1
 rw[<-W0x] at e1
 refine⟨d*e,W1m h0 k0,by rw[W0y];omega,?_⟩
 have a1:IsD (d*e) (2^(p+q)) l:=(h2.scale k0).mono (by rw[W0x];exact W0t _ (W2h k1))
 have a2:IsD (d*e) (2^(p+q)) m:=by
  rw[W1i d e]
  exact(k2.scale h0).mono (by rw[W0x,W1i];exact W0q _ (W2h h1))
 exact(a1.add a2).mono (by rw[W0y];omega)
theorem Sz.neg{p:Nat}{l:List Rat}(h:Sz p l): Sz p (l.map (- ·)):=by
 obtain⟨d,h0,h1,h2⟩:=h
 exact⟨d,h0,h1,h2.neg⟩
theorem Sz.left{p:Nat}{l m:List Rat}(h:Sz p (l++m)): Sz p l:=h.sub λ_=>W2k _
theorem Sz.right{p:Nat}{l m:List Rat}(h:Sz p (l++m)): Sz p m:=h.sub λ_=>W1o _
def TS(r:Nat): (k:Nat)->Tw k->Prop
 | 0,_=>True
 | k+1,t=>TS r k t.1/\Sz r (toL k t.2)
def cB(r:Nat): Nat->Nat
 | 0=>0
 | k+1=>2*cB r k+r+1
theorem Ymt(r k:Nat): cB r k<=cB r (k+1):=by show _<=2*cB r k+r+1;omega
theorem Xie{r k:Nat}{t:Tw k}(ht:TS r k t): ∃E,0<E/\E<=2^cB r k/\∀a b d e n m,0<d->0<e->IsD d n (toL k a)->IsD e m (toL k b)->IsD (d*e*E) (n*m*2^cB r k) (toL k (mul k t a b)):=by
 induction k with
 | zero =>
  refine⟨1,by decide,W0a 1,λa b d e n m _ _ h h'=>?_⟩
  rw[W4a,show 2^cB r 0=1 from rfl,W4a]
  exact h.mul1 h'
 | succ k ih =>
  obtain⟨E,h0,h1,h2⟩:=ih ht.1
  obtain⟨g,g0,g1,g2⟩:=ht.2
  have hC:=W0r (cB r k)
  have hR:=W0r r
  refine⟨E*(E*g),W1m h0 (W1m h0 g0),?_,λa b d e n m hd he h h'=>?_⟩
  . have e1:E*(E*g)<=2^cB r k*(2^cB r k*2^r):=W2b h1 (W2b h1 (W2h g1))
    rw[<-W0x,<-W0x] at e1
    exact W0k e1 (W0m (by decide) (by show _<=2*cB r k+r+1;omega))
  . have hg:E*g<=2^cB r k*2^r:=W2b h1 (W2h g1)
    have hEg:0<E*g:=W1m h0 g0
    have hc:n*m*2^cB r (k+1)=n*m*2^cB r k*(2^cB r k*2^r)+n*m*2^cB r k*(2^cB r k*2^r):=by
     rw[show cB r (k+1)=cB r k+(cB r k+r)+1 by show 2*cB r k+r+1=_;omega,W0y,W0x,W0x]
     rw[<-Nat.mul_two,W0w (n*m),W0w (n*m)]
    have scale:∀u v:El k,IsD d n (toL k u)->IsD e m (toL k v)->IsD (d*e*(E*(E*g))) (n*m*2^cB r k*(2^cB r k*2^r)) (toL k (mul k t.1 u v)):=by
     intro u v hu hv
     have:=(h2 u v d e n m hd he hu hv).scale hEg
     rw[W0w (d*e)] at this
     exact this.mono (W0t _ hg)
    show IsD _ _ (toL k (add k _ _)++toL k (add k _ _))
    rw[Xav,Xav,hc]
    refine IsD.append (IsD.add (scale _ _ h.left h'.left) ?_) (IsD.add (scale _ _ h.left h'.right) (scale _ _ h.right h'.left))
    have:=h2 _ _ (d*e*E) g _ _ (W1m (W1m hd he) h0) g0 (h2 _ _ d e n m hd he h.right h'.right) g2
    rw[show d*e*E*g*E=d*e*(E*(E*g)) by rw[W0w (d*e),W0w (d*e),W0w E g E,W1i g E]] at this
    rw[show n*m*2^cB r k*2^r*2^cB r k=n*m*2^cB r k*(2^cB r k*2^r) by rw[W0w (n*m*2^cB r k),W1i (2^r)]] at this
    exact this
theorem Sz.mul{r k p q:Nat}{t:Tw k}{a b:El k}(ht:TS r k t)(h:Sz p (toL k a))(h':Sz q (toL k b)): Sz (p+q+cB r k) (toL k (mul k t a b)):=by
 obtain⟨E,e0,e1,e2⟩:=Xie ht
 obtain⟨d,h0,h1,h2⟩:=h
 obtain⟨e,k0,k1,k2⟩:=h'
 have:=e2 a b d e _ _ h0 k0 h2 k2
 rw[<-W0x,<-W0x] at this
 refine⟨_,W1m (W1m h0 k0) e0,?_,this⟩
 rw[W0x,W0x]
 have h3:=W3i h1 k1
 exact W0v (W3c h3 e0) (W0t _ e1)
def nB(r k p:Nat): Nat:=4*p+3*cB r k+r+1
theorem Sz.norm{r k p:Nat}{t:Tw (k+1)}{a:El (k+1)}(ht:TS r (k+1) t)(h:Sz p (toL (k+1) a)): Sz (nB r k p) (toL k (Tow.norm k t a)):=by
 have hx:Sz p (toL k a.1):=Sz.left h
 have hy:Sz p (toL k a.2):=Sz.right h
 have h1:=Sz.mul ht.1 hx hx
 have h2:=Sz.mul ht.1 (Sz.mul ht.1 hy hy) ht.2
 rw[Tow.norm,Xav,Xb6]
 exact(h1.add h2.neg).mono (by unfold nB;omega)
def iB(r:Nat): Nat->Nat->Nat
 | 0,p=>p+1
 | k+1,p=>2*(p+iB r k (nB r k p)+cB r k)
theorem _root_.Go.Num.Qs.inv1{p:Nat}{x:Rat}(h:Qs p x): Qs (p+1) (1/x):=by
 by_cases h0:x=0
 . rw[h0,show (1/0:Rat)=((0:Int):Rat) by rw[Rat.div_def,Rat.inv_zero,Rat.mul_zero];rfl]
   exact Qs.int Zs.zero (by omega)
 . rw[Xj0 _ _ h0]
   refine Qs.divInt ?_ ?_ ?_
   . rw[show (1:Rat).num=1 from rfl,W5n];exact h.d.mono (by omega)
   . rw[show ((1:Rat).den:Int)=1 from rfl,W5n];exact h.n.mono (by omega)
   . rw[show ((1:Rat).den:Int)=1 from rfl,W5n]
     exact λe=>h0 (W6b.1 e)
theorem Sz.inv{r k p:Nat}{t:Tw k}{a b:El k}(ht:TS r k t)(h:Sz p (toL k a))(hb:Tow.inv k t a=some b): Sz (iB r k p) (toL k b):=by
 induction k generalizing p with
 | zero =>
  have h2:∀x b:Rat,(if x=0 then none else some (1/x))=some b->Qs p x->Sz (p+1) [b]:=by
   intro x b h hq
   split at h
   . cases h
   . injection h with h
     subst h
     exact Sz.one hq.inv1
  exact h2 a b hb (h.qs (W0h.2 rfl))
 | succ k ih =>
  simp only[Tow.inv] at hb
  split at hb
  . cases hb
  . rename_i n hn
    injection hb with hb
    subst hb
    have h1:=ih ht.1 (h.norm ht) hn
    have h2:=Sz.mul ht.1 (Sz.left h:Sz p (toL k a.1)) h1
    have h3:=Sz.mul ht.1 (Sz.right h:Sz p (toL k a.2)) h1
    show Sz _ (toL k _++toL k (Tow.neg k _))
    rw[Xb6]
    exact(h2.append h3.neg).mono (by show _<=2*(p+iB r k (nB r k p)+cB r k);omega)
theorem Xvv(r k p:Nat): p<=iB r k p:=by
 cases k with
 | zero=>show p<=p+1;omega
 | succ k=>show p<=2*_;omega
theorem Xr0(r k p:Nat): p<=nB r k p:=by unfold nB;omega
theorem Sz.zero(k:Nat): Sz 1 (toL k (Tow.zero k)):=by
 rw[Xbn]
 refine⟨1,by decide,by decide,λx hx=>?_⟩
 rw[W5y hx]
 exact⟨0,by rw[W4q];rfl,by decide⟩
theorem Sz.rat{p:Nat}(k:Nat){x:Rat}(h:Qs p x): Sz (p+1) (toL k (Tow.rat k x)):=by
 rw[Xcm]
 refine Sz.cons h ?_
 refine⟨1,by decide,by decide,λx hx=>?_⟩
 rw[W5y hx]
 exact⟨0,by rw[W4q];rfl,by decide⟩
end
section
def dqs(l:List Rat): D:=.sl 4 (l.map dq)
def dts(t:List (List Rat)): D:=.sl 1 (t.map dqs)
def fl(xs:List D)(z:D)(k:Nat): List D:=xs.take k++List.replicate (xs.length-k) z
theorem Xis{xs:List D}{z:D}{n:Nat}(h:xs.length=n): List.replicate n z=fl xs z 0:=by simp[fl,h]
theorem Xmr{xs:List D}{z:D}{k:Nat}(h:xs.length<=k): fl xs z k=xs:=by rw[fl,W0b h,show xs.length-k=0 by omega];simp
theorem Xjw{xs:List D}{z:D}{k:Nat}(h:k<=xs.length): (fl xs z k).length=xs.length:=by simp[fl];omega
theorem Xmq{xs:List D}{z u:D}{k:Nat}(h:xs[k]?=some u): (fl xs z k).set k u=fl xs z (k+1):=by
 have hk:=(W0n.1 h).1
 rw[fl,fl,List.set_append_right _ _ (by simp;omega),show k-(xs.take k).length=0 by simp;omega,show xs.length-k=(xs.length-(k+1))+1 by omega,W4i,List.set_cons_zero,W2d,h]
 simp
theorem lq(l:List Rat): (l.map dq).length=l.length:=W0i ..
theorem lt'(l:List (List Rat)): (l.map dqs).length=l.length:=W0i ..
theorem qat{l:List Rat}{k:Nat}(h:k<l.length): ∃x,l[k]?=some x:=⟨_,W0c h⟩
def Ycf(f:FuncId)(l:List Rat)(φ:Rat->Prop): Prop:=∀x∈l,C0 f [.d (dq x)] (·=.b (dc (φ x)))
abbrev fnD(f:FuncId): D:=.raw (.func (.func f) #[] #[])
theorem Xnh{f:FuncId}{l:List Rat}{φ:Rat->Prop}(hf:Ycf f l φ)(hl:l.length<=1099511627776): C0 323 [.d (dqs l),.d (fnD f)] λv=>∃i:Int,v=.d (.int .i64 i)/\(i>=0↔∃x∈l,φ x):=by
 refine En Tryz.func323 λ_ _ _=>?_
 refine Lo (λk:Nat=>[(0,.d (dqs l)),(1,.d (fnD f)),(7,.d (.int .i64 l.length)),(8,.d (.int .i64 k))]) (λ_=>[]) (λk=>k<=l.length/\∀x∈l.take k,¬φ x) (λk=>l.length-k) 0 [] rfl ⟨by omega,by simp⟩ (λk ⟨hk,hn⟩=>?_) (by exact⟨by simp only[lq];rfl,rfl,rfl,rfl,rfl⟩)
 refine By rfl (λh=>?_) λh=>?_
 . obtain⟨x,hx⟩:=qat (l:=l) (k:=k) (by omega)
   have hm:=W0f hx
   refine Ix k rfl (mp hx) ?_
   refine Ce rfl (hf x hm) ?_
   refine By rfl (λh1=>?_) λh1=>?_
   . exact Rt rfl (.one (.rf rfl) rfl rfl) ⟨k,rfl,⟨λ_=>⟨x,hm,h1⟩,λ_=>by omega⟩⟩
   . refine Ar (k+1:Nat) rfl ?_
     refine Bk (k+1) [] rfl ⟨by omega,λy hy=>?_⟩ (by show l.length-(k+1)<l.length-k;omega)
     rw[W2d,hx] at hy
     rcases W1s.1 hy with hy | hy
     . exact hn y hy
     . simp at hy;rw[hy];exact h1
 . refine Rt rfl (.one (.rf rfl) rfl rfl) ⟨-1,rfl,⟨λh=>absurd h (by decide),λ⟨x,hx,h1⟩=>?_⟩⟩
   rw[W0b (by omega)] at hn
   exact absurd h1 (hn x hx)
theorem Xep{f:FuncId}{l:List Rat}{φ:Rat->Prop}(hf:Ycf f l φ)(hl:l.length<=1099511627776): C0 270 [.d (dqs l),.d (fnD f)] (·=.b (dc (∃x∈l,φ x))):=by
 refine En Tryz.func270 λ_ _ _=>?_
 refine Ca rfl (Xnh hf hl) λv hv=>?_
 obtain⟨i,rfl,hi⟩:=hv
 exact R1 rfl (.bp (Xah.trans hi))
theorem Xtb{x:Rat}{p:Nat}(hx:Qs p x)(hp:p<=8796093022208): C0 293 [.d (dq x)] (·=.b (dc (x≠0))):=by
 refine En Tryz.func293 λ_ _ _=>?_
 refine Ce rfl (Xf2 hx hp) ?_
 refine R1 rfl (.bp ?_)
 have h0:=@W6b x
 rw[Xah]
 rcases Xaw x.num 0 with ⟨g1,g2⟩ | ⟨g1,g2⟩ | ⟨g1,g2⟩<;>rw[g2,ne_eq,ne_eq,<-h0]<;>omega
def Ps(p:Nat)(l:List Rat): Prop:=∀x∈l,Qs p x
theorem Xal{p:Prop}: (!dc p)=dc (¬p):=by rw[W5h,W1u,W6i,ne_eq,Xah,Xah]
theorem Xer{l:List Rat}{p:Nat}(hx:Ps p l)(hp:p<=8796093022208)(hl:l.length<=1099511627776): C0 229 [.d (dqs l)] (·=.b (dc (∀x∈l,x=0))):=by
 refine En Tryz.func229 λ_ _ _=>?_
 refine Ce rfl (Xep (φ:=(·≠0)) (λx hx'=>Xtb (hx x hx') hp) hl) ?_
 exact R1 rfl (.bp (by rw[Xal,Xah];simp))
theorem Xoa{x:Rat}{p:Nat}(hx:Qs p x)(hp:p<=8796093022208): C0 271 [.d (dq x)] (·=.b (dc False)):=by
 refine En Tryz.func271 λ_ _ _=>?_
 refine Ce rfl (Xma hx hp) ?_
 exact R1 rfl (.bp (by simp[Xah]))
theorem Xgq{l:List Rat}{p n:Nat}(hx:Ps p l)(hp:p<=8796093022208)(hl:l.length<=1099511627776)(hn:l.length=n): C0 210 [.d (dqs l),.d (.int .i64 n)] (·=.b true):=by
 refine En Tryz.func210 λ_ _ _=>?_
 refine Yes rfl (by simp only[lq,hn]) ?_
 refine Ce rfl (Xep (φ:=λ_=>False) (λx hx'=>Xoa (hx x hx') hp) hl) ?_
 exact R1 rfl (by exact(show (!dc (∃x∈l,False))=true by rw[Xal,Xah];simp) ▸ .rf rfl)
theorem Xbs{k:Nat}(hk:k<=40): arB .shl .i64 1 k (2^k:Nat):=by
 have h1:2^k<=2^40:=W0m (by decide) hk
 obtain⟨m,hm⟩:∃m,m=2^k:=⟨_,rfl⟩
 rw[<-hm] at h1 |-
 refine⟨by omega,?_⟩
 rw[W7f,W2f (by show k<=64;omega),show (1:Int)*2^k=(m:Int) by rw[hm,W7l];simp]
 exact wI (by omega)
def Pt(p:Nat)(t:List (List Rat)): Prop:=∀i r,t[i]?=some r->r.length=2^i/\Ps p r
theorem Ydn{k m:Nat}(h:k<=m): 2^k<=2^m:=W0m (by decide) h
theorem Xee{t:List (List Rat)}{p:Nat}(ht:Pt p t)(hp:p<=8796093022208)(hl:t.length<=40): C0 269 [.d (dts t)] (·=.b true):=by
 refine En Tryz.func269 λ_ _ _=>?_
 refine Lo (λk:Nat=>[(0,.d (dts t)),(5,.d (dts t)),(6,.d (.int .i64 t.length)),(7,.d (.int .i64 k))]) (λ_=>[]) (λk=>k<=t.length) (λk=>t.length-k) 0 [] rfl (by omega) (λk hk=>?_) (by exact⟨by simp only[lt'];rfl,rfl,rfl,rfl,rfl⟩)
 refine By rfl (λh=>?_) λh=>?_
 . obtain⟨r,hr⟩:∃r,t[k]?=some r:=⟨_,W0c (by omega)⟩
   obtain⟨h1,h2⟩:=ht k r hr
   have:=Ydn (show k<=40 by omega)
   refine Ix k rfl (mp hr) ?_
   refine Ar (2^k:Nat) rfl ?_ (Xbs (by omega))
   refine Ce rfl (Xgq h2 hp (by omega) h1) ?_
   refine No rfl (by simp) ?_
   refine Ar (k+1:Nat) rfl ?_
   exact Bk (k+1) [] rfl (show k+1<=t.length by omega) (by show t.length-(k+1)<t.length-k;omega)
 . exact R0
theorem Xje{t:List (List Rat)}{l:List Rat}{p q:Nat}(ht:Pt p t)(hp:p<=8796093022208)(hx:Ps q l)(hq:q<=8796093022208)(hl:t.length<=39)(hn:l.length=2^t.length): C0 209 [.d (dts t),.d (dqs l)] (·=.b true):=by
 have:=Ydn (show t.length<=39 by omega)
 refine En Tryz.func209 λ_ _ _=>?_
 refine Ce rfl (Xee ht hp (by omega)) ?_
 refine Yes rfl rfl ?_
 refine Ar (2^t.length:Nat) rfl ?_ (by simp only[lt'];exact Xbs (by omega))
 refine Ce rfl (Xgq hx hq (by omega) hn) ?_
 exact R0
theorem Xrl{t:List (List Rat)}{l m:List Rat}{p q r:Nat}(ht:Pt p t)(hp:p<=8796093022208)(hx:Ps q l)(hq:q<=8796093022208)(hy:Ps r m)(hr:r<=8796093022208)(hl:t.length<=39)(hn:l.length=2^t.length)(hm:m.length=2^t.length): C0 129 [.d (dts t),.d (dqs l),.d (dqs m)] (·=.b true):=by
 have:=Ydn (show t.length<=39 by omega)
 refine En Tryz.func129 λ_ _ _=>?_
 refine Ce rfl (Xje ht hp hx hq hl hn) ?_
 refine Yes rfl rfl ?_
 refine Ar (2^t.length:Nat) rfl ?_ (by simp only[lt'];exact Xbs (by omega))
 refine Ce rfl (Xgq hy hr (by omega) hm) ?_
 exact R0
theorem Xkb{n:Nat}(hn:n<=1073741824): CA0 292 [.d (.int .i64 n)] 4 ((List.replicate n (0:Rat)).map dq):=by
 obtain⟨xs,hxs⟩:∃xs,xs=(List.replicate n (0:Rat)).map dq:=⟨_,rfl⟩
 have hlen:xs.length=n:=by rw[hxs];simp
 rw[<-hxs]
 refine EnW Tryz.func292 λ_ _ _ _=>?_
 refine Mk n rfl (by omega) ?_
 refine Lo (λk:Nat=>[(3,.own 6 4 0 n),(8,.d (.int .i64 n)),(9,.d (.int .i64 k))]) (λk=>[(6,.arr 4 (fl xs rz k))]) (λk=>k<=n) (λk=>n-k) 0 [] rfl (by omega) (λk hk=>?_) (by exact⟨rfl,by rw[<-Xis hlen];rfl,rfl,rfl,rfl⟩)
 refine By rfl (λh=>?_) λh=>?_
 . refine Ce rfl (Xat (z:=0) (by decide)) ?_
   refine Eo k rfl (by omega) ?_
   refine Sto rfl (by rw[Xjw (by omega)];omega) (Xmq (u:=dq 0) (by rw[hxs,W1p,W4u,if_pos (by omega)];rfl)) ?_
   refine Ar (k+1:Nat) rfl ?_
   exact Bk (k+1) [] rfl (show k+1<=n by omega) (by show n-(k+1)<n-k;omega)
 . exact Rw [(6,1000000)] [(1000000,.arr 4 xs)] rfl (.one (.rf rfl) rfl rfl) ⟨_,rfl,by rw[hlen];rfl,rfl⟩ (by rw[Xmr (by omega)];rfl)
end
section
theorem Xnn{xs ys:List Rat}{p q:Nat}(hl:xs.length=ys.length)(hn:xs.length<=1073741824)(hx:Ps p xs)(hy:Ps q ys)(hp:p+q+1<=8796093022208): CA0 130 [.d (dqs xs),.d (dqs ys)] 4 ((List.zipWith (·+·) xs ys).map dq):=by
 obtain⟨zs,hzs⟩:∃zs,zs=(List.zipWith (·+·) xs ys).map dq:=⟨_,rfl⟩
 have hlen:zs.length=xs.length:=by rw[hzs];simp;omega
 rw[<-hzs]
 refine EnW Tryz.func130 λ_ _ _ _=>?_
 refine Mk xs.length rfl (by simp only[lq];omega) ?_ (by simp only[lq])
 refine Lo (λk:Nat=>[(0,.d (dqs xs)),(1,.d (dqs ys)),(5,.own 9 4 0 xs.length),(11,.d (.int .i64 xs.length)),(12,.d (.int .i64 k))]) (λk=>[(9,.arr 4 (fl zs rz k))]) (λk=>k<=xs.length) (λk=>xs.length-k) 0 [] rfl (by omega) (λk hk=>?_) (by exact⟨rfl,by rw[<-Xis hlen];rfl,rfl,rfl,rfl⟩)
 refine By rfl (λh=>?_) λh=>?_
 . obtain⟨x,hx'⟩:=qat (l:=xs) (k:=k) (by omega)
   obtain⟨y,hy'⟩:=qat (l:=ys) (k:=k) (by omega)
   refine Dw rfl ?_
   refine Ix k rfl (mp hx') ?_
   refine Ix k rfl (mp hy') ?_
   refine Ce rfl (Xdy (hx x (W0f hx')) (hy y (W0f hy')) hp) ?_
   refine Eo k rfl (by omega) ?_
   refine Sto rfl (by rw[Xjw (by omega)];omega) (Xmq (u:=dq (x+y)) (by rw[hzs,W1p,W5q,hx',hy'];rfl)) ?_
   refine Ar (k+1:Nat) rfl ?_
   exact Bk (k+1) [] rfl (show k+1<=xs.length by omega) (by show xs.length-(k+1)<xs.length-k;omega)
 . exact Rw [(9,1000000)] [(1000000,.arr 4 zs)] rfl (.one (.rf rfl) rfl rfl) ⟨_,rfl,by rw[hlen];rfl,rfl⟩ (by rw[Xmr (by omega)];rfl)
theorem Ycu{xs:List Rat}{p:Nat}(hn:xs.length<=1073741824)(hx:Ps p xs)(hp:p<=8796093022208): CA0 232 [.d (dqs xs)] 4 ((xs.map (- ·)).map dq):=by
 obtain⟨zs,hzs⟩:∃zs,zs=(xs.map (- ·)).map dq:=⟨_,rfl⟩
 have hlen:zs.length=xs.length:=by rw[hzs];simp
 rw[<-hzs]
 refine EnW Tryz.func232 λ_ _ _ _=>?_
 refine Mk xs.length rfl (by simp only[lq];omega) ?_ (by simp only[lq])
 refine Lo (λk:Nat=>[(3,.own 8 4 0 xs.length),(9,.d (dqs xs)),(10,.d (.int .i64 xs.length)),(11,.d (.int .i64 k))]) (λk=>[(8,.arr 4 (fl zs rz k))]) (λk=>k<=xs.length) (λk=>xs.length-k) 0 [] rfl (by omega) (λk hk=>?_) (by exact⟨by simp only[lq];rfl,by rw[<-Xis hlen];rfl,rfl,rfl,rfl⟩)
 refine By rfl (λh=>?_) λh=>?_
 . obtain⟨x,hx'⟩:=qat (l:=xs) (k:=k) (by omega)
   refine Ix k rfl (mp hx') ?_
   refine Ce rfl (Xff (hx x (W0f hx')) hp) ?_
   refine Eo k rfl (by omega) ?_
   refine Sto rfl (by rw[Xjw (by omega)];omega) (Xmq (u:=dq (-x)) (by rw[hzs,W1p,W1p,hx'];rfl)) ?_
   refine Ar (k+1:Nat) rfl ?_
   exact Bk (k+1) [] rfl (show k+1<=xs.length by omega) (by show xs.length-(k+1)<xs.length-k;omega)
 . exact Rw [(8,1000000)] [(1000000,.arr 4 zs)] rfl (.one (.rf rfl) rfl rfl) ⟨_,rfl,by rw[hlen];rfl,rfl⟩ (by rw[Xmr (by omega)];rfl)
theorem Ykl{m h:Nat}(e:m=2*h)(hh:h<=1073741824): arB .quo .i64 m 2 h:=show _/\_ from⟨by decide,by rw[show Int.tdiv (m:Int) 2=((m/2:Nat):Int) from rfl,show m/2=h by omega];exact wI (by omega)⟩
theorem Xio{l m:List Rat}(h:l.length=m.length)(hl:l.length<=1073741824): C0 295 [.d (dqs (l++m))] (·=.tup (.pr (.d (dqs l)) (.d (dqs m)))):=by
 have e:((l++m).map dq).length=2*l.length:=by rw[lq,W0d];omega
 refine En Tryz.func295 λ_ _ _=>?_
 refine Dw rfl ?_
 refine Ar l.length rfl ?_ (Ykl e hl)
 refine Tk l.length (l.map dq) rfl rfl (by omega) (by rw[<-W2e,W7d]) ?_
 refine Ar l.length rfl ?_ (Ykl e hl)
 refine Dp l.length (m.map dq) rfl rfl (by omega) (by rw[<-W4z,W7r]) ?_
 exact R0t
theorem Xpp{t:List (List Rat)}{r:List Rat}(hl:t.length<=1073741824): C0 294 [.d (dts (t++[r]))] (·=.tup (.pr (.d (dts t)) (.d (dqs r)))):=by
 have e:((t++[r]).map dqs).length=t.length+1:=by rw[lt',W0d];rfl
 refine En Tryz.func294 λ_ _ _=>?_
 refine Dw rfl ?_
 refine Ar t.length rfl ?_ (wr (by omega) (by simp only[inK];omega))
 refine Tk t.length (t.map dqs) rfl rfl (by omega) (by rw[<-W2e,W7d]) ?_
 refine Ar t.length rfl ?_ (wr (by omega) (by simp only[inK];omega))
 refine Ix t.length rfl (u:=dqs r) (mp (by simp)) ?_
 exact R0t
end
section
abbrev de{k:Nat}(a:El k): D:=dqs (toL k a)
abbrev dt{k:Nat}(t:Tw k): D:=dts (toT k t)
theorem _root_.Go.Proofs.YtfjafaehfjjaiaaGreatDoor.Sz.ps{p:Nat}{l:List Rat}(h:Sz p l): Ps p l:=λ_ hx=>h.qs hx
theorem Xsn{k:Nat}{t:Tw k}{a b:El k}(h:(∀x∈toL k a,x=0)\/(∀x∈toL k b,x=0)): toL k (mul k t a b)=List.replicate (2^k) 0:=by
 have L:=Xaz k t
 rcases h with h | h
 . rw[(Xam k a).2 h,L.zm,Xbn]
 . rw[(Xam k b).2 h,L.mz,Xbn]
theorem p16{k:Nat}(h:k<=16): 2^k<=65536:=Ydn h
def Ypb(k:Nat)(xs:List D)(v:AV)(H':Hpl): Prop:=(k=0/\v=.lit 4 xs/\H'=[])\/(v=.own 1000000 4 0 xs.length/\H'=[(1000000,.arr 4 xs)])
theorem Xpj: ∀ {k:Nat} {r s s':Nat} {t:Tw k} {a b:El k},TS r k t->Sz s (toL k a)->Sz s' (toL k b)->k<=16->s+s'+cB r k<=4398046511104->CW0 234 [.d (dt t),.d (de a),.d (de b)] [] (Ypb k ((toL k (mul k t a b)).map dq)):=by
 intro k
 induction k with
 | zero =>
  intro r s s' t a b hT ha hb hk hs
  refine EnW Tryz.func234 λ_ _ _ _=>?_
  refine Yes rfl rfl ?_
  refine Dw rfl ?_
  refine Ix 0 rfl (u:=dq a) rfl ?_
  refine Ix 0 rfl (u:=dq b) rfl ?_
  refine Ce rfl (Xef (ha.qs (W0h.2 rfl)) (hb.qs (W0h.2 rfl)) (by omega)) ?_
  exact Rw [] [] rfl (.one (.rf rfl) rfl rfl) (.inl ⟨rfl,rfl,rfl⟩)
 | succ k ih =>
  intro r s s' t a b hT ha hb hk hs
  have hp:=p16 hk
  have hp1:2^(k+1)=2*2^k:=by rw[W0y];omega
  have hcB:cB r (k+1)=2*cB r k+r+1:=rfl
  have hax:Sz s (toL k a.1):=Sz.left ha
  have hay:Sz s (toL k a.2):=Sz.right ha
  have hbx:Sz s' (toL k b.1):=Sz.left hb
  have hby:Sz s' (toL k b.2):=Sz.right hb
  have hlen:=Xab k
  have ihd:∀ {p q:Nat} {x y:El k},Sz p (toL k x)->Sz q (toL k y)->p+q+cB r k<=4398046511104->C0 234 [.d (dt t.1),.d (de x),.d (de y)] (·=.d (de (mul k t.1 x y))):=λhx hy h =>
   CW.data (ih hT.1 hx hy (by omega) h) rfl λv H' hv=>by
    rcases hv with ⟨_,rfl,rfl⟩ | ⟨rfl,rfl⟩
    . exact⟨_,.one (.lit rfl) rfl rfl,rfl⟩
    . exact⟨_,.one (.own rfl (by simp) (by rw[W1d,W2j])) rfl rfl,rfl⟩
  refine EnW Tryz.func234 λ_ _ _ _=>?_
  refine No rfl (by simp only[lt',Xaa];omega) ?_
  refine Cu (some 3) (λ(b':Bool)=>[(0,.d (dt t)),(1,.d (de a)),(2,.d (de b)),(26,.b b')]) (λ_=>[]) (λb'=>b'=true->(∀x∈toL (k+1) a,x=0)\/(∀x∈toL (k+1) b,x=0)) rfl ?_ λb' hb'=>?_
  . refine Ce rfl (Xer ha.ps (by omega) (by rw[Xab];omega)) ?_
    refine By rfl (λh=>?_) λh=>?_
    . exact Jn true [] rfl λ_=>.inl h
    . refine Ce rfl (Xer hb.ps (by omega) (by rw[Xab];omega)) ?_
      exact Jn (dc _) [] rfl λe=>.inr (Xah.1 e)
  refine By rfl (λh=>?_) λh=>?_
  . have hz:=Xsn (t:=t) (hb' h)
    refine Cr (sz:=4) (xs:=(List.replicate (2^(k+1)) (0:Rat)).map dq) rfl (by
     simp only[lq,Xab]
     exact Xkb (by omega)) ?_
    exact Rw [(35,1000000)] [(1000000,.arr 4 _)] rfl (.one (.rf rfl) rfl rfl) (.inr ⟨by rw[hz];rfl,by rw[hz]⟩)
  refine Ce rfl (Xpp (t:=toT k t.1) (r:=toL k t.2) (by rw[Xaa];omega)) ?_
  refine Ce rfl (Xio (l:=toL k a.1) (m:=toL k a.2) (by rw[hlen,hlen]) (by rw[hlen];omega)) ?_
  refine Ce rfl (Xio (l:=toL k b.1) (m:=toL k b.2) (by rw[hlen,hlen]) (by rw[hlen];omega)) ?_
  refine Ce rfl (ihd hax hbx (by omega)) ?_
  refine Ce rfl (ihd hay hby (by omega)) ?_
  refine Ce rfl (ihd (hay.mul hT.1 hby) hT.2 (by omega)) ?_
  refine Cr rfl (Xnn (by rw[hlen,hlen]) (by rw[hlen];omega) (hax.mul hT.1 hbx).ps ((hay.mul hT.1 hby).mul hT.1 hT.2).ps (by omega)) ?_
  refine Ce rfl (ihd hax hby (by omega)) ?_
  refine Ce rfl (ihd hay hbx (by omega)) ?_
  refine Ce rfl (CA.data (Xnn (by rw[hlen,hlen]) (by rw[hlen];omega) (hax.mul hT.1 hby).ps (hay.mul hT.1 hbx).ps (by omega))) ?_
  refine ApO ((toL (k+1) (mul (k+1) t a b)).map dq) rfl rfl rfl (by
   rw[<-W2c,<-Xav,<-Xav];rfl) (by rw[lq,Xab];omega) ?_
  exact Rw [(73,1000000)] [(1000000,.arr 4 _)] rfl (.one (.rf rfl) rfl rfl) (.inr ⟨rfl,rfl⟩)
end
section
theorem Xgl{k:Nat}{r s s':Nat}{t:Tw k}{a b:Tow.El k}(hT:TS r k t)(ha:Sz s (toL k a))(hb:Sz s' (toL k b))(hk:k<=16)(hs:s+s'+cB r k<=4398046511104): C0 234 [.d (dt t),.d (de a),.d (de b)] (·=.d (de (mul k t a b))) :=
 CW.data (Xpj hT ha hb hk hs) rfl λv H' hv=>by
  rcases hv with ⟨_,rfl,rfl⟩ | ⟨rfl,rfl⟩
  . exact⟨_,.one (.lit rfl) rfl rfl,rfl⟩
  . exact⟨_,.one (.own rfl (by simp) (by rw[W1d,W2j])) rfl rfl,rfl⟩
theorem Xno{k p q:Nat}{a b:Tow.El k}(hk:k<=16)(ha:Ps p (toL k a))(hb:Ps q (toL k b))(hp:p+q+1<=8796093022208): C0 130 [.d (de a),.d (de b)] (·=.d (de (Tow.add k a b))):=by
 have:=CA.data (Xnn (by rw[Xab,Xab]) (by rw[Xab];have:=p16 hk;omega) ha hb hp)
 rwa[<-Xav] at this
theorem Xhu{k p:Nat}{a:Tow.El k}(hk:k<=16)(ha:Ps p (toL k a))(hp:p<=8796093022208): C0 232 [.d (de a)] (·=.d (de (Tow.neg k a))):=by
 have:=CA.data (Ycu (by rw[Xab];have:=p16 hk;omega) ha hp)
 rwa[<-Xb6] at this
theorem Xpq{k:Nat}{t:Tw (k+1)}(hk:k<=16): C0 294 [.d (dt t)] (·=.tup (.pr (.d (dt t.1)) (.d (de t.2)))):=Xpp (by rw[Xaa];omega)
theorem Xmm{k:Nat}{a:Tow.El (k+1)}(hk:k<=16): C0 295 [.d (de a)] (·=.tup (.pr (.d (de a.1)) (.d (de a.2)))):=Xio (by rw[Xab,Xab]) (by rw[Xab];have:=p16 hk;omega)
theorem Xg3{k p:Nat}{a:Tow.El k}(h:Sz p (toL k a)): Sz p (toL k (Tow.neg k a)):=by rw[Xb6];exact h.neg
theorem Xpi{k r s:Nat}{t:Tw (k+1)}{a:Tow.El (k+1)}(hT:TS r (k+1) t)(ha:Sz s (toL (k+1) a))(hk:k+1<=16)(hs:nB r k s<=4398046511104): C0 367 [.d (dt t),.d (de a)] (·=.d (de (Tow.norm k t a))):=by
 have hn:nB r k s=4*s+3*cB r k+r+1:=rfl
 have hx:Sz s (toL k a.1):=Sz.left ha
 have hy:Sz s (toL k a.2):=Sz.right ha
 refine En Tryz.func367 λ_ _ _=>?_
 refine Ce rfl (Xpq (by omega)) ?_
 refine Ce rfl (Xmm (by omega)) ?_
 refine Ce rfl (Xgl hT.1 hx hx (by omega) (by omega)) ?_
 refine Ce rfl (Xgl hT.1 hy hy (by omega) (by omega)) ?_
 refine Ce rfl (Xgl hT.1 (hy.mul hT.1 hy) hT.2 (by omega) (by omega)) ?_
 refine Ce rfl (Xhu (by omega) ((hy.mul hT.1 hy).mul hT.1 hT.2).ps (by omega)) ?_
 refine Ce rfl (Xno (by omega) (hx.mul hT.1 hx).ps (Xg3 ((hy.mul hT.1 hy).mul hT.1 hT.2)).ps (by omega)) ?_
 exact R0
theorem Xvu{r k p q:Nat}(h:iB r (k+1) p<=q): nB r k p<=q/\p+iB r k (nB r k p)+cB r k<=q:=by
 have h1:=Xvv r k (nB r k p)
 have h2:iB r (k+1) p=2*(p+iB r k (nB r k p)+cB r k):=rfl
 omega
theorem Yl8(x:Rat): Tow.inv 0 () x=if x=0 then none else some (1/x:Rat):=rfl
theorem Xqr(y:Rat): (∃x,Tow.inv 0 () y=some x)↔y≠0:=by
 rw[Yl8]
 by_cases h:y=0
 . rw[if_pos h];exact⟨(λ⟨x,h⟩=>nomatch h),λh2=>absurd h h2⟩
 . rw[if_neg h];exact⟨λ_=>h,λ_=>⟨_,rfl⟩⟩
theorem Ylc{y:Rat}{s:Nat}(hq:Qs s y)(hs:s+1<=8796093022208): C0 360 [.d (dts []),.d (dqs [y])] λv=>∃w:D,v=.tup (.pr (.d w) (.b (dc (y≠0))))/\(y≠0->w=dqs [1/y]):=by
 have h1:Qs 1 (1:Rat):=Qs.int (z:=1) (Zs.one (W0a 1)) (W0a 1)
 refine En Tryz.func360 λ_ _ _=>?_
 refine Yes rfl rfl ?_
 refine Dw rfl ?_
 refine Ce rfl (Xat (z:=1) (by decide)) ?_
 refine Ix 0 rfl (u:=dq y) rfl ?_
 by_cases h0:y=0
 . refine Ce rfl (Xym h0) ?_
   exact Rt rfl (.tup (.cons (.lit rfl) (.one (by exact .bp ⟨λh=>absurd (Xah.1 h) (by decide),λh=>absurd h0 h⟩) (λ_ _ e=>by cases e) (λ_ _ e=>by cases e)))) ⟨_,rfl,λh=>absurd h0 h⟩
 . refine Ce rfl (Ydf h1 hq (by omega) h0) ?_
   exact Rt rfl (.tup (.cons (.lit rfl) (.one (by exact .bp ⟨λ_=>h0,λ_=>Xah.2 rfl⟩) (λ_ _ e=>by cases e) (λ_ _ e=>by cases e)))) ⟨_,rfl,λ_=>rfl⟩
theorem Xhv: ∀ {k:Nat} {r s:Nat} {t:Tw k} {a:Tow.El k},TS r k t->Sz s (toL k a)->k<=16->iB r k s<=4398046511104->C0 360 [.d (dt t),.d (de a)] λv=>∃w:D,v=.tup (.pr (.d w) (.b (dc (∃x,Tow.inv k t a=some x))))/\∀x,Tow.inv k t a=some x->w=de x:=by
 intro k
 induction k with
 | zero =>
  intro r s t a hT ha hk hs
  have hb:iB r 0 s=s+1:=rfl
  have key:∀y:Rat,Qs s y->C0 360 [.d (dts []),.d (dqs [y])] λv=>∃w:D,v=.tup (.pr (.d w) (.b (dc (∃x,Tow.inv 0 () y=some x))))/\∀x:Rat,Tow.inv 0 () y=some x->w=dqs [x]:=λy hq=>by
   refine C.mono (Ylc hq (by omega)) λv ⟨w,e,h⟩=>⟨w,by rw[e];congr 4;exact propext (Xqr y).symm,λx hx=>?_⟩
   have h0:=(Xqr y).1 ⟨x,hx⟩
   rw[h h0]
   rw[Yl8,if_neg h0] at hx
   injection hx with hx
   rw[<-hx]
  exact key a (ha.qs (W0h.2 rfl))
 | succ k ih =>
  intro r s t a hT ha hk hs
  have hx:Sz s (toL k a.1):=Sz.left ha
  have hy:Sz s (toL k a.2):=Sz.right ha
  obtain⟨hi1,hi2⟩:=Xvu hs
  have hN:=ha.norm hT
  have hge:=Xvv r k (nB r k s)
  have hinv:Tow.inv (k+1) t a=match Tow.inv k t.1 (Tow.norm k t a) with | none=>none | some x=>some (mul k t.1 a.1 x,Tow.neg k (mul k t.1 a.2 x)):=rfl
  refine En Tryz.func360 λ_ _ _=>?_
  refine No rfl (by simp only[lt',Xaa];omega) ?_
  refine Ce rfl (Xpq (by omega)) ?_
  refine Ce rfl (Xpi hT ha hk (by omega)) ?_
  refine Ca rfl (ih hT.1 hN (by omega) (by omega)) λv hv=>?_
  obtain⟨w,rfl,hw⟩:=hv
  refine By rfl (λh=>?_) λh=>?_
  . have h:¬ ∃x,Tow.inv k t.1 (Tow.norm k t a)=some x:=by simpa [Xal,Xah] using h
    have e0:Tow.inv (k+1) t a=none:=by
     rw[hinv]
     cases hh:Tow.inv k t.1 (Tow.norm k t a) with
     | none=>rfl
     | some x=>exact absurd ⟨x,hh⟩ h
    exact Rt rfl (.tup (.cons (.nil (sz:=4) rfl) (.one (by exact .bp (c:=false) (p:=∃x,Tow.inv (k+1) t a=some x) ⟨nofun,λ⟨x,h⟩=>by rw[e0] at h;cases h⟩) (λ_ _ e=>by cases e) (λ_ _ e=>by cases e)))) ⟨_,rfl,λx h=>by rw[e0] at h;cases h⟩
  . obtain⟨x,hx'⟩:∃x,Tow.inv k t.1 (Tow.norm k t a)=some x:=by simpa [Xal,Xah] using h
    obtain rfl:=hw x hx'
    rw[hx'] at hinv
    have hzx:=hN.inv hT.1 hx'
    have hpk:=p16 (show k<=16 by omega)
    refine Ce rfl (Xmm (by omega)) ?_
    refine Cw [] rfl (Xpj hT.1 hx hzx (by omega) (by omega)) λv H' _ hv=>?_
    have fin:∀ {zs:List D},zs=(toL k (mul k t.1 a.1 x)).map dq++(toL k (Tow.neg k (mul k t.1 a.2 x))).map dq->zs=(toL (k+1) (mul k t.1 a.1 x,Tow.neg k (mul k t.1 a.2 x))).map dq:=λh=>by rw[h,<-W2c];rfl
    have hb:(true=true↔∃x,Tow.inv (k+1) t a=some x):=⟨λ_=>⟨_,hinv⟩,λ_=>rfl⟩
    rcases hv with ⟨hk0,rfl,rfl⟩ | ⟨rfl,rfl⟩
    . refine Ce rfl (Xgl hT.1 hy hzx (by omega) (by omega)) ?_
      refine Ce rfl (Xhu (by omega) (hy.mul hT.1 hzx).ps (by omega)) ?_
      refine ApL _ rfl rfl (by rw[lq,Xab];exact W0r k) (by rw[W0d,lq,lq,Xab,Xab];omega) ?_
      exact Rt rfl (.tup (.cons (.own rfl (by rw[W1k];exact W0a _) rfl) (.one (by exact .bp (c:=true) hb) (λ_ _ e=>by cases e) (λ_ _ e=>by cases e)))) ⟨_,rfl,λy h=>by rw[hinv] at h;injection h with h;rw[<-h,W1d,W2j,fin rfl];rfl⟩
    . refine Ce rfl (Xgl hT.1 hy hzx (by omega) (by omega)) ?_
      refine Ce rfl (Xhu (by omega) (hy.mul hT.1 hzx).ps (by omega)) ?_
      refine ApO _ rfl rfl rfl rfl (by rw[W0d,lq,lq,Xab,Xab];omega) ?_
      exact Rt rfl (.tup (.cons (.own rfl (by rw[W1k];exact W0a _) rfl) (.one (by exact .bp (c:=true) hb) (λ_ _ e=>by cases e) (λ_ _ e=>by cases e)))) ⟨_,rfl,λy h=>by rw[hinv] at h;injection h with h;rw[<-h,W1d,W2j,fin rfl];rfl⟩
end
section
theorem Xkg: ∀ {k:Nat} {t:Tw k} {r:Nat},TS r k t->∀ {i:Nat} {l:List Rat},(toT k t)[i]?=some l->l.length=2^i/\Sz r l
 | 0,_,_,_,_,_,h=>by simp[toT] at h
 | k+1,t,r,hT,i,l,h=>by
  by_cases hi:i<k
  . rw[toT,W1a (by rw[Xaa];exact hi)] at h
    exact Xkg hT.1 h
  . have:=(W0n.1 h).1
    rw[Xaa] at this
    have hik:i=k:=by omega
    subst hik
    rw[toT,W0u (by rw[Xaa];exact W0a _),Xaa,W3b] at h
    simp at h
    rw[<-h]
    exact⟨Xab _ _,hT.2⟩
theorem TS.pt{k r:Nat}{t:Tw k}(h:TS r k t): Pt r (toT k t):=λi l hl=>⟨(Xkg h hl).1,(Xkg h hl).2.ps⟩
theorem Yfv{k:Nat}(t:Tw k)(a:Tow.El k): (toL k a).length=2^(toT k t).length:=by rw[Xab,Xaa]
section
variable{k r s s':Nat}{t:Tw k}{a b:Tow.El k}
theorem Xb0(hT:TS r k t)(ha:Sz s (toL k a))(hk:k<=16)(hs:s<=4398046511104)(hr:r<=4398046511104): C0 209 [.d (dt t),.d (de a)] (·=.b true):=Xje (TS.pt hT) (by omega) ha.ps (by omega) (by rw[Xaa];omega) (Yfv t a)
theorem Xgm(hT:TS r k t)(ha:Sz s (toL k a))(hb:Sz s' (toL k b))(hk:k<=16)(hs:s+s'<=4398046511104)(hr:r<=4398046511104): C0 129 [.d (dt t),.d (de a),.d (de b)] (·=.b true):=Xrl (TS.pt hT) (by omega) ha.ps (by omega) hb.ps (by omega) (by rw[Xaa];omega) (Yfv t a) (Yfv t b)
theorem Xhx(hT:TS r k t)(ha:Sz s (toL k a))(hb:Sz s' (toL k b))(hk:k<=16)(hs:s+s'<=4398046511104)(hr:r<=4398046511104): C0 74 [.d (dt t),.d (de a),.d (de b)] (·=.d (de (Tow.add k a b))):=by
 refine En Tryz.func74 λ_ _ _=>?_
 refine Ce rfl (Xgm hT ha hb hk hs hr) ?_
 refine No rfl (by simp) ?_
 refine Ce rfl (Xno hk ha.ps hb.ps (by omega)) ?_
 exact R0
theorem Xtc(hT:TS r k t)(ha:Sz s (toL k a))(hk:k<=16)(hs:s<=4398046511104)(hr:r<=4398046511104): C0 235 [.d (dt t),.d (de a)] (·=.d (de (Tow.neg k a))):=by
 refine En Tryz.func235 λ_ _ _=>?_
 refine Ce rfl (Xb0 hT ha hk hs hr) ?_
 refine No rfl (by simp) ?_
 refine Ce rfl (Xhu hk ha.ps (by omega)) ?_
 exact R0
theorem Xki(hT:TS r k t)(ha:Sz s (toL k a))(hb:Sz s' (toL k b))(hk:k<=16)(hs:s+s'<=4398046511104)(hr:r<=4398046511104): C0 151 [.d (dt t),.d (de a),.d (de b)] (·=.d (de (Tow.add k a (Tow.neg k b)))):=by
 refine En Tryz.func151 λ_ _ _=>?_
 refine Ce rfl (Xgm hT ha hb hk hs hr) ?_
 refine No rfl (by simp) ?_
 refine Ce rfl (Xhu hk hb.ps (by omega)) ?_
 refine Ce rfl (Xno hk ha.ps (Xg3 hb).ps (by omega)) ?_
 exact R0
theorem Xdv(hT:TS r k t)(ha:Sz s (toL k a))(hb:Sz s' (toL k b))(hk:k<=16)(hs:s+s'+cB r k<=4398046511104)(hr:r<=4398046511104): C0 160 [.d (dt t),.d (de a),.d (de b)] (·=.d (de (mul k t a b))):=by
 refine En Tryz.func160 λ_ _ _=>?_
 refine Ce rfl (Xgm hT ha hb hk (by omega) hr) ?_
 refine No rfl (by simp) ?_
 refine Ce rfl (Xgl hT ha hb hk hs) ?_
 exact R0
theorem Xnp(hT:TS r k t)(ha:Sz s (toL k a))(hk:k<=16)(hs:iB r k s<=4398046511104)(hr:r<=4398046511104){x:Tow.El k}(hx:Tow.inv k t a=some x): C0 345 [.d (dt t),.d (de a)] (·=.tup (.pr (.d (de x)) (.d (.int .i64 0)))):=by
 have hge:=Xvv r k s
 refine En Tryz.func345 λ_ _ _=>?_
 refine Ce rfl (Xb0 hT ha hk (by omega) hr) ?_
 refine No rfl (by simp) ?_
 refine Ca rfl (Xhv hT ha hk hs) λv hv=>?_
 obtain⟨w,rfl,hw⟩:=hv
 obtain rfl:=hw x hx
 refine No rfl (by simp[Xal,Xah,hx]) ?_
 exact R0t
theorem Xx3(hT:TS r k t)(ha:Sz s (toL k a))(hk:k<=16)(hs:iB r k s<=4398046511104)(hr:r<=4398046511104)(hx:Tow.inv k t a=none): C0 345 [.d (dt t),.d (de a)] (·=.tup (.pr (.d (dqs [])) (.d (.int .i64 6)))):=by
 have hge:=Xvv r k s
 refine En Tryz.func345 λ_ _ _=>?_
 refine Ce rfl (Xb0 hT ha hk (by omega) hr) ?_
 refine No rfl (by simp) ?_
 refine Ca rfl (Xhv hT ha hk hs) λv hv=>?_
 obtain⟨w,rfl,hw⟩:=hv
 refine Yes rfl (by simp[Xal,Xah,hx]) ?_
 exact RTt rfl (.cons (.nil rfl) (.one (.rf rfl) (λ_ _ e=>by cases e) (λ_ _ e=>by cases e)))
theorem Xx1{i:Nat}(hT:TS r k t)(hk:k<=16)(hr:r<=4398046511104)(hi:i<k): C0 291 [.d (dt t),.d (.int .i64 i)] (·=.d (de (Xcr k i))):=by
 have hp:=p16 hk
 have hpi:2^i<2^k:=W3s (by decide) hi
 refine En Tryz.func291 λ_ _ _=>?_
 refine Ce rfl (Xee (TS.pt hT) (by omega) (by rw[Xaa];omega)) ?_
 refine No rfl (by simp) ?_
 refine No rfl (by omega) ?_
 refine No rfl (by simp only[lt',Xaa];omega) ?_
 refine Ar (2^k:Nat) rfl ?_ (by simp only[lt',Xaa];exact Xbs (by omega))
 refine Cr rfl (Xkb (n:=2^k) (by omega)) ?_
 refine Dw rfl ?_
 refine Ar (2^i:Nat) rfl ?_ (Xbs (by omega))
 refine Ce rfl (Xat (z:=1) (by decide)) ?_
 refine Eo (2^i) rfl (by simp only[lq,W1v];omega) ?_
 refine Sto rfl (by simp only[lq,W1v];omega) (ms (f:=dq) (u:=1)) ?_
 refine R1 rfl (.own rfl (by simp) ?_)
 rw[W1d,<-Xph hi]
 exact W0b (by simp[Xab])
theorem Xcw{x:Rat}{p:Nat}(hT:TS r k t)(hk:k<=16)(hr:r<=4398046511104)(hx:Qs p x)(hp:p<=4398046511104): C0 228 [.d (dt t),.d (dq x)] (·=.d (de (rat k x))):=by
 have hpk:=p16 hk
 have h0:=W0r k
 refine En Tryz.func228 λ_ _ _=>?_
 refine Ce rfl (Xee (TS.pt hT) (by omega) (by rw[Xaa];omega)) ?_
 refine No rfl (by simp) ?_
 refine Ce rfl (Xma hx (by omega)) ?_
 refine No rfl (by simp) ?_
 refine Ar (2^k:Nat) rfl ?_ (by simp only[lt',Xaa];exact Xbs (by omega))
 refine Cr rfl (Xkb (n:=2^k) (by omega)) ?_
 refine Eo 0 rfl (by simp only[lq,W1v];omega) ?_
 refine Sto rfl (by simp only[lq,W1v];omega) (ms (f:=dq) (u:=x)) ?_
 refine R1 rfl (.own rfl (by simp) ?_)
 rw[W1d,Xcm]
 rw[W0b (by simp),show 2^k=2^k-1+1 by omega,W4i,List.set_cons_zero]
 rfl
theorem Xx2{k r s:Nat}{t:Tw (k+1)}{a:Tow.El (k+1)}(hT:TS r (k+1) t)(ha:Sz s (toL (k+1) a))(hk:k+1<=16)(hs:nB r k s<=4398046511104)(hr:r<=4398046511104): C0 355 [.d (dt t),.d (de a)] (·=.d (de (Tow.norm k t a))):=by
 have hn:nB r k s=4*s+3*cB r k+r+1:=rfl
 refine En Tryz.func355 λ_ _ _=>?_
 refine Ce rfl (Xb0 hT ha hk (by omega) hr) ?_
 refine No rfl (by simp) ?_
 refine No rfl (by simp only[lt',Xaa];omega) ?_
 refine Ce rfl (Xpi hT ha hk hs) ?_
 exact R0
end
end
end Go.Proofs.YtfjafaehfjjaiaaGreatDoor
namespace Go.Proofs.YtfjafaehfjjaiaaGreatDoor.R6
open Go Go.Vm Go.Num Go.Tow Go.Proofs.YtfjafaehfjjaiaaGreatDoor
theorem Xp3{l:List Rat}{p n:Nat}(hx:Ps p l)(hp:p<=8796093022208)(hl:l.length<=1099511627776)(hn:l.length=n): C0 224 [.d (dqs l),.d (.int .i64 n)] (·=.b true):=by
 refine En Tryz.func224 λ_ _ _=>?_
 refine Lo (λk:Nat=>[(0,.d (dqs l)),(1,.d (.int .i64 n)),(5,.d (.int .i64 k))]) (λ_=>[]) (λk=>k<=l.length) (λk=>l.length-k) 0 [] rfl (by omega) (λk hk=>?_)
 refine By rfl (λh=>?_) λh=>?_<;>simp only[lq] at h
 . obtain⟨x,hx'⟩:=qat (l:=l) (k:=k) (by omega)
   refine Ix k rfl (mp hx') ?_
   refine Ce rfl (R2.Valid_ok (hx x (W0f hx')) hp) ?_
   refine No rfl (by simp) ?_
   refine Ar (k+1:Nat) rfl ?_
   exact Bk (k+1) [] rfl (show k+1<=l.length by omega) (by show l.length-(k+1)<l.length-k;omega)
 . exact R1 rfl (by exact(show dc (((l.map dq).length:Int)=n)=true by rw[Xah,lq,hn]) ▸ .rf rfl)
theorem Tower_ok{t:List (List Rat)}{p:Nat}(ht:Pt p t)(hp:p<=8796093022208)(hl:t.length<=40): C0 223 [.d (dts t)] (·=.b true):=by
 refine En Tryz.func223 λ_ _ _=>?_
 refine Lo (λk:Nat=>[(0,.d (dts t)),(3,.d (.int .i64 k))]) (λ_=>[]) (λk=>k<=t.length) (λk=>t.length-k) 0 [] rfl (by omega) (λk hk=>?_)
 refine By rfl (λh=>?_) λh=>?_<;>simp only[lt'] at h
 . obtain⟨r,hr⟩:∃r,t[k]?=some r:=⟨_,W0c (by omega)⟩
   obtain⟨h1,h2⟩:=ht k r hr
   have:=Ydn (show k<=40 by omega)
   refine Dw rfl ?_
   refine Ix k rfl (mp hr) ?_
   refine Ar (2^k:Nat) rfl ?_ (Xbs (by omega))
   refine Ce rfl (Xp3 h2 hp (by omega) h1) ?_
   refine No rfl (by simp) ?_
   refine Ar (k+1:Nat) rfl ?_
   exact Bk (k+1) [] rfl (show k+1<=t.length by omega) (by show t.length-(k+1)<t.length-k;omega)
 . exact R0
theorem Formed_ok{t:List (List Rat)}{l:List Rat}{p q:Nat}(ht:Pt p t)(hp:p<=8796093022208)(hx:Ps q l)(hq:q<=8796093022208)(hl:t.length<=39)(hn:l.length=2^t.length): C0 138 [.d (dts t),.d (dqs l)] (·=.b true):=by
 have:=Ydn (show t.length<=39 by omega)
 refine En Tryz.func138 λ_ _ _=>?_
 refine Ce rfl (Tower_ok ht hp (by omega)) ?_
 refine Yes rfl rfl ?_
 refine Ar (2^t.length:Nat) rfl ?_ (by simp only[lt'];exact Xbs (by omega))
 refine Ce rfl (Xp3 hx hq (by omega) hn) ?_
 exact R0
theorem Zero_ok{l:List Rat}(hl:l.length<=1099511627776): C0 264 [.d (dqs l)] (·=.b (dc (∀x∈l,x=0))):=by
 refine En Tryz.func264 λ_ _ _=>?_
 refine Lo (λk:Nat=>[(0,.d (dqs l)),(3,.d (.int .i64 k))]) (λ_=>[]) (λk=>k<=l.length/\∀x∈l.take k,x=0) (λk=>l.length-k) 0 [] rfl ⟨by omega,by simp⟩ (λk ⟨hk,hz⟩=>?_)
 refine By rfl (λh=>?_) λh=>?_<;>simp only[lq] at h
 . obtain⟨x,hx⟩:=qat (l:=l) (k:=k) (by omega)
   refine Ix k rfl (mp hx) ?_
   refine By rfl (λh1=>?_) λh1=>?_
   . exact R1 rfl (.bp ⟨nofun,λe=>by
      rw[e x (W0f hx),lw] at h1
      simp[Xan] at h1⟩)
   . refine Ar (k+1:Nat) rfl ?_
     refine Bk (k+1) [] rfl ⟨by omega,λy hy=>?_⟩ (by show l.length-(k+1)<l.length-k;omega)
     rw[W2d,hx] at hy
     rcases W1s.1 hy with hy | hy
     . exact hz y hy
     . simp at hy;rw[hy];exact R2.zero_of (by omega)
 . rw[W0b (by omega)] at hz
   exact R1 rfl (.bp ⟨λ_=>hz,λ_=>rfl⟩)
theorem Neg_ok{T:List (List Rat)}{xs:List Rat}{p:Nat}(hn:xs.length<=1073741824)(hx:Ps p xs)(hp:p<=8796093022208): CG0 43 [.d (dts T),.d (dqs xs)] 4 ((xs.map (- ·)).map dq):=by
 refine EnW Tryz.func43 λ_ _ _ _=>?_
 refine Nl 5 5 4 rfl ?_
 refine Lo (λk:Nat=>[(1,.d (dqs xs)),(5,.gr 5 4 (((xs.take k).map (- ·)).map dq)),(6,.d (.int .i64 k))]) (λk=>[(5,.tok (((xs.take k).map (- ·)).map dq).length 4)]) (λk=>k<=xs.length) (λk=>xs.length-k) 0 [] rfl (by omega) (λk hk=>?_)
 refine By rfl (λh=>?_) λh=>?_<;>simp only[lq] at h
 . obtain⟨x,hx'⟩:=qat (l:=xs) (k:=k) (by omega)
   refine Ix k rfl (mp hx') ?_
   refine Ce rfl (R2.Neg_ok (hx x (W0f hx')) hp) ?_
   refine ApG (((xs.take (k+1)).map (- ·)).map dq) rfl (by rw[W2d,hx'];simp) (by simp;omega) ?_
   refine Ar (k+1:Nat) rfl ?_
   exact Bk (k+1) [(20,5)] rfl (show k+1<=xs.length by omega) (by show xs.length-(k+1)<xs.length-k;omega)
 . exact Rw [(5,1000000)] [(1000000,.tok ((xs.map (- ·)).map dq).length 4)] rfl (.one (.rf rfl) rfl rfl) ⟨_,rfl,by rw[W0b (by omega)];rfl,rfl⟩ (by rw[W0b (by omega)];rfl)
theorem Neg_el{T:List (List Rat)}{k p:Nat}{a:Tow.El k}(hk:k<=16)(ha:Ps p (toL k a))(hp:p<=8796093022208): C0 43 [.d (dts T),.d (de a)] (·=.d (de (Tow.neg k a))):=by
 have:=CG.data (Neg_ok (T:=T) (by rw[Xab];have:=p16 hk;omega) ha hp)
 rwa[<-Xb6] at this
theorem Add_ok{T:List (List Rat)}{xs ys:List Rat}{p q:Nat}(hl:xs.length=ys.length)(hn:xs.length<=1073741824)(hx:Ps p xs)(hy:Ps q ys)(hp:p+q+1<=8796093022208): CG0 79 [.d (dts T),.d (dqs xs),.d (dqs ys)] 4 ((List.zipWith (·+·) xs ys).map dq):=by
 have hz:(List.zipWith (·+·) xs ys).length=xs.length:=by simp;omega
 refine EnW Tryz.func79 λ_ _ _ _=>?_
 refine Nl 7 7 4 rfl ?_
 refine Lo (λk:Nat=>[(1,.d (dqs xs)),(2,.d (dqs ys)),(7,.gr 7 4 (((List.zipWith (·+·) xs ys).take k).map dq)),(8,.d (.int .i64 k))]) (λk=>[(7,.tok (((List.zipWith (·+·) xs ys).take k).map dq).length 4)]) (λk=>k<=xs.length) (λk=>xs.length-k) 0 [] rfl (by omega) (λk hk=>?_)
 refine By rfl (λh=>?_) λh=>?_<;>simp only[lq] at h
 . obtain⟨x,hx'⟩:=qat (l:=xs) (k:=k) (by omega)
   obtain⟨y,hy'⟩:=qat (l:=ys) (k:=k) (by omega)
   refine Dw rfl ?_
   refine Ix k rfl (mp hx') ?_
   refine Ix k rfl (mp hy') ?_
   refine Ce rfl (R2.Add_ok (hx x (W0f hx')) (hy y (W0f hy')) hp) ?_
   refine ApG (((List.zipWith (·+·) xs ys).take (k+1)).map dq) rfl (by rw[W2d,W5q,hx',hy'];simp) (by simp;omega) ?_
   refine Ar (k+1:Nat) rfl ?_
   exact Bk (k+1) [(26,7)] rfl (show k+1<=xs.length by omega) (by show xs.length-(k+1)<xs.length-k;omega)
 . exact Rw [(7,1000000)] [(1000000,.tok ((List.zipWith (·+·) xs ys).map dq).length 4)] rfl (.one (.rf rfl) rfl rfl) ⟨_,rfl,by rw[W0b (by omega)];rfl,rfl⟩ (by rw[W0b (by omega)];rfl)
theorem Add_el{T:List (List Rat)}{k p q:Nat}{a b:Tow.El k}(hk:k<=16)(ha:Ps p (toL k a))(hb:Ps q (toL k b))(hp:p+q+1<=8796093022208): C0 79 [.d (dts T),.d (de a),.d (de b)] (·=.d (de (Tow.add k a b))):=by
 have:=CG.data (Add_ok (T:=T) (by rw[Xab,Xab]) (by rw[Xab];have:=p16 hk;omega) ha hb hp)
 rwa[<-Xav] at this
theorem Sub_el{T:List (List Rat)}{k p q:Nat}{a b:Tow.El k}(hk:k<=16)(ha:Ps p (toL k a))(hb:Sz q (toL k b))(hp:p+q+1<=8796093022208): C0 268 [.d (dts T),.d (de a),.d (de b)] (·=.d (de (Tow.add k a (Tow.neg k b)))):=by
 refine En Tryz.func268 λ_ _ _=>?_
 refine Ce rfl (Neg_el hk hb.ps (by omega)) ?_
 refine Ce rfl (Add_el hk ha (Xg3 hb).ps hp) ?_
 exact R0
theorem Xi1{t:List (List Rat)}{x:Rat}(ht:t.length<=16)(h1:1<=t.length): CA0 265 [.d (dts t),.d (dq x)] 4 ((x::List.replicate (2^t.length-1) 0).map dq):=by
 have hp:=p16 ht
 have h2:2^1<=2^t.length:=Ydn h1
 obtain⟨n,hn⟩:∃n,n=2^t.length:=⟨_,rfl⟩
 rw[<-hn] at hp h2 |-
 refine EnW Tryz.func265 λ_ _ _ _=>?_
 refine Lo (λk:Nat=>[(0,.d (dts t)),(3,.ptr 3 0),(5,match k with | 0=>.lit 4 [dq x] | k+1=>.own 5 4 0 (k+2))]) (λk=>match k with | 0=>[(3,.var (.d (dq x)))] | k+1=>[(5,.arr 4 ((x::List.replicate (k+1) (0:Rat)).map dq)),(3,.var (.d (dq x)))]) (λk=>k+1<=n) (λk=>n-k) 0 [] rfl (by omega) (λk hk=>?_)
 cases k with
 | zero =>
  refine Ar n rfl ?_ (by rw[hn];simp only[lt'];exact Xbs (by omega))
  refine Yes rfl (by simp only[W0s,W4j];omega) ?_
  refine Ce rfl (R2.FromInt_ok (z:=0) (by decide)) ?_
  refine ApL ((x::List.replicate 1 0).map dq) rfl rfl (by decide) (by simp) ?_
  exact Bk 1 [(17,5)] rfl (show 1+1<=n by omega) (by show n-1<n-0;omega)
 | succ k =>
  refine Ar n rfl ?_ (by rw[hn];simp only[lt'];exact Xbs (by omega))
  refine By rfl (λh=>?_) λh=>?_
  . refine Ce rfl (R2.FromInt_ok (z:=0) (by decide)) ?_
    refine ApO ((x::List.replicate (k+1+1) 0).map dq) rfl rfl (by simp) (by rw[W6p (n:=k+1)];simp) (by simp;omega) ?_
    exact Bk (k+1+1) [(17,5)] rfl (show k+1+1+1<=n by omega) (by show n-(k+1+1)<n-(k+1);omega) (by exact⟨by simp only[W0i,W0s,W1v];rfl,rfl,rfl,rfl,rfl⟩)
  . have e:n-1=k+1:=by omega
    exact Rw [(5,1000000)] [(1000000,.arr 4 ((x::List.replicate (n-1) (0:Rat)).map dq))] rfl (.one (.rf rfl) rfl rfl) ⟨_,rfl,by rw[e];simp;rfl,rfl⟩ (by rw[e];rfl)
theorem Xo6{x:Rat}: C0 265 [.d (dts []),.d (dq x)] (·=.lit 4 [dq x]):=by
 refine En Tryz.func265 λ_ _ _=>?_
 refine Lo (λ_:Unit=>[(0,.d (dts [])),(5,.lit 4 [dq x])]) (λ_=>[]) (λ_=>True) (λ_=>0) () [] rfl trivial λ_ _=>?_
 refine Ar (1:Nat) rfl ?_ (Xbs (k:=0) (by decide))
 refine No rfl (by simp only[W0s,W4j];omega) ?_
 exact R0
theorem _root_.Go.Vm.C.lit{P:Program}[Gb P]{f:FuncId}{vs0:List AV}{sz:Nat}{xs:List D}(h:C P f vs0 (·=.lit sz xs)): C P f vs0 (·=.d (.sl sz xs)):=⟨h.1,λW vs hg ha=>(h.2 W vs hg ha).mono λe w' ⟨W',v,u,h1,h2,h3,h4,h5,h6⟩=>⟨W',_,u,h1,h2,h3,Xhn (h6 ▸ h4),λ_ h=>h.elim,rfl⟩⟩
theorem FromRat_ok{t:List (List Rat)}{x:Rat}(ht:t.length<=16): C0 265 [.d (dts t),.d (dq x)] (·=.d (dqs (x::List.replicate (2^t.length-1) 0))):=by
 cases t with
 | nil=>exact C.lit Xo6
 | cons r t=>exact CA.data (Xi1 ht (by simp))
end Go.Proofs.YtfjafaehfjjaiaaGreatDoor.R6
namespace Go.Vm
open Go
def GW.pub(W:GW)(b m:Nat): GW:=⟨W.w,λb' i=>(b'=b->m<=i)/\W.A b' i,λb' i k=>W.hA b' i k.2⟩
theorem Xub(W:GW)(b m:Nat): LeF W (W.pub b m):=λ_ _ _ k=>⟨k.1,λhA=>k.2 hA.2⟩
theorem Stp.pub{N:Nat->Prop}{W:GW}{θ:Loc}{g:Hp}(h:Obs W θ N g){o b sz:Nat}{xs:List D}(ho:g o=some (.arr sz xs))(hb:(θ o).1=some b):
 Stp N W (W.pub b (xs.length*sz)) θ θ g (upd g o (.tok xs.length sz)) where
 os:=_root_.rfl
 out:=_root_.rfl
 tape:=_root_.rfl
 size:=W0a _
 same:=λ_ _ _=>_root_.rfl
 A:=λb' _ hn i=>⟨λk=>k.2,λk=>⟨λe=>by subst e;exact absurd (h.new o _ _ ho _root_.rfl hb) hn,k⟩⟩
 le:=Xub W b _
 th:=λ_ _ _=>_root_.rfl
 hi:=λ_ _=>_root_.rfl
 obs:={
  r:=λo' z hz=>by
   rcases Xaf hz with ⟨e1,e2⟩ | ⟨e1,e2⟩
   . subst e1;subst e2
     obtain⟨b',cs,T',r1,r2,r3,r4,r5,r6,r7⟩:=h.r _ _ ho
     rw[hb] at r1;injection r1 with r1;subst r1
     exact⟨r5,r4,.inr ⟨b,cs,T',hb,r2,r3,λi hi=>⟨λ_=>hi,r7 i⟩⟩⟩
   . exact(h.r o' z e2).keep (Xub W b _) _root_.rfl (λ_ _=>_root_.rfl) λhl b' hb'=>⟨_root_.rfl,λi hA=>⟨λe=>by
      subst e
      exact absurd (h.dis o' o z _ _ e2 ho hl _root_.rfl hb' hb) e1,hA⟩⟩
  new:=λo' z b2 hz hl hb2=>by
   rcases Xaf hz with ⟨e1,e2⟩ | ⟨e1,e2⟩
   . subst e1;exact h.new _ _ b2 ho _root_.rfl hb2
   . exact h.new o' z b2 e2 hl hb2
  dis:=λo1 o2 y1 y2 b h1 h2 l1 l2 b1 b2=>by
   rcases Xaf h1 with ⟨e1,f1⟩ | ⟨e1,f1⟩<;>rcases Xaf h2 with ⟨e2,f2⟩ | ⟨e2,f2⟩
   . rw[e1,e2]
   . subst e1;exact h.dis _ _ _ _ b ho f2 _root_.rfl l2 b1 b2
   . subst e2;exact h.dis _ _ _ _ b f1 ho l1 _root_.rfl b1 b2
   . exact h.dis o1 o2 y1 y2 b f1 f2 l1 l2 b1 b2
  ids:=λo' z i hz hzi=>by
   have:∃w,g i=some w:=by
    rcases Xaf hz with ⟨e1,e2⟩ | ⟨e1,e2⟩
    . subst e2;exact hzi.elim
    . exact h.ids o' z i e2 hzi
   obtain⟨w,hw⟩:=this
   by_cases e:i=o
   . subst e;exact⟨_,Xaj _ _ _⟩
   . exact⟨w,by rw[Xak e];exact hw⟩ }
 dom:=λi y hy=>by
  by_cases e:i=o
  . subst e;exact⟨_,Xaj _ _ _⟩
  . exact⟨y,by rw[Xak e];exact hy⟩
section
variable{c:Cx}{s:St}
noncomputable def Yno(tb:Nat->Option TI)(n t:Nat)(s:St): Option (List Kt×Env×Hpl×Nat×Nat×Nat×List D):=match runN tb n 1000 s with
 | .j _ K E H=>match look E t with
  | some (.own o sz 0 n)=>match look H o with
   | some (.arr sz' xs)=>match Nat.beq sz sz' with
    | true=>some (K,E,H,o,sz,n,xs)
    | false=>none
   | _=>none
  | _=>none
 | _=>none
theorem Og(t:Nat){K:List Kt}{E:Env}{H:Hpl}{o sz n:Nat}{xs:List D}(h:Yno c.tb c.n t s=some (K,E,H,o,sz,n,xs))(hn:n=xs.length)(k:StP c (.j [] K ((t,.gr o sz xs)::E) ((o,.tok xs.length sz)::H))): StP c s:=by
 unfold Yno at h
 split at h<;>try cases h
 rename_i hr
 split at h<;>try cases h
 rename_i he
 split at h<;>try cases h
 rename_i ho
 split at h<;>cases h
 rename_i hz
 have hz:=W0e hz
 subst hz;subst hn
 refine go 1000 hr ?_
 rintro a w ⟨s0,W,θ,hw,hs,hθ,rfl⟩
 obtain⟨b,bs,T',r1,r2,r3,r4,r5,r6,r7⟩:=hs.obs.r _ _ ho
 have st:=Stp.pub hs.obs ho r1
 have h1:=hs.step0 st
 refine k a w ⟨_,W.pub b (xs.length*sz),θ,hw,?_,hθ,rfl⟩
 rw[show sem ((t,AV.gr o sz xs)::E) ((o,Ob.tok xs.length sz)::H)=(upd (look E) t (.gr o sz xs),upd (look H) o (.tok xs.length sz)) by rw[Xa2,Xa2]]
 refine⟨h1.fm,⟨h1.rel.defers,h1.rel.size,λq v hq=>?_⟩,h1.obs,λq v i hq hi=>?_⟩
 . rcases Xaf hq with ⟨e1,e2⟩ | ⟨e1,e2⟩
   . subst e1;subst e2
     have hv:=hs.rel.has q _ he
     obtain⟨b1,p,v1,v2,v3,e,v5⟩:=Xjb hv
     rw[r1] at v1;injection v1 with v1;subst v1
     rw[e]
     rw[W6l]
     refine Yef rfl rfl (.inr (by rw[v5 (.inl rfl),W4o,r1];rfl)) r5 r4 (.inr ⟨b,r1,?_⟩)
     have hlen:∀q u,(bs.take (xs.length*sz))[q]?=some u->q<xs.length*sz/\bs[q]?=some u:=λq u hu=>by
      rw[W1e] at hu
      split at hu
      . exact⟨by assumption,hu⟩
      . cases hu
     refine(AtL.mono (Xub W b _) (sz:=sz) (xs:=xs) (cs:=bs.take (xs.length*sz)) (AtL.ext r6 λq v hq hv=>by rw[W1e,if_pos hq];exact hv)).row λq u hq hu=>?_
     rw[W1k]
     exact⟨show W.w.cell? _=_ by rw[Xa9 r2];exact(hlen q u hu).2,λhA=>by have:=hA.1 rfl;omega⟩
   . exact h1.rel.has q v e2
 . rcases Xaf hq with ⟨e1,e2⟩ | ⟨e1,e2⟩
   . subst e2
     have hi:i=o:=hi
     subst hi
     exact⟨_,Xaj _ _ _⟩
   . exact h1.ids q v i e2 hi
end
end Go.Vm
namespace Go.Proofs.YtfjafaehfjjaiaaGreatDoor.R6
open Go Go.Vm Go.Num Go.Tow Go.Proofs.YtfjafaehfjjaiaaGreatDoor
theorem Yfp{x y:Rat}{p q:Nat}(hx:Qs p x)(hy:Qs q y)(h:p+q+1<=8796093022208): C0 203 [.d (dts []),.d (dqs [x]),.d (dqs [y])] (·=.lit 4 [dq (x*y)]):=by
 refine En Tryz.func203 λ_ _ _=>?_
 refine Yes rfl rfl ?_
 refine Dw rfl ?_
 refine Ix 0 rfl (u:=dq x) rfl ?_
 refine Ix 0 rfl (u:=dq y) rfl ?_
 refine Ce rfl (R2.Mul_ok hx hy h) ?_
 exact R0
theorem Yac{k:Nat}(muld:∀ {r s s':Nat} {t:Tw k} {a b:Tow.El k},TS r k t->Sz s (toL k a)->Sz s' (toL k b)->k<=16->s+s'+cB r k<=4398046511104->C0 203 [.d (dt t),.d (de a),.d (de b)] (·=.d (de (mul k t a b))))
 (ihk:∀ {r s s':Nat} {t:Tw k} {a b:Tow.El k},TS r k t->Sz s (toL k a)->Sz s' (toL k b)->k<=16->s+s'+cB r k<=4398046511104->C0 203 [.d (dt t),.d (de a),.d (de b)] (·=.lit 4 ((toL k (mul k t a b)).map dq))\/CG0 203 [.d (dt t),.d (de a),.d (de b)] 4 ((toL k (mul k t a b)).map dq))
 {r s s':Nat} {t:Tw (k+1)} {a b:Tow.El (k+1)} (hT:TS r (k+1) t) (ha:Sz s (toL (k+1) a)) (hb:Sz s' (toL (k+1) b)) (hk:k+1<=16) (hs:s+s'+cB r (k+1)<=4398046511104):CG0 203 [.d (dt t),.d (de a),.d (de b)] 4 ((toL (k+1) (mul (k+1) t a b)).map dq):=by
 have hp:=p16 hk
 have hp1:2^(k+1)=2*2^k:=by rw[W0y];omega
 have h0:=W0r k
 have hcB:cB r (k+1)=2*cB r k+r+1:=rfl
 have hax:Sz s (toL k a.1):=Sz.left ha
 have hay:Sz s (toL k a.2):=Sz.right ha
 have hbx:Sz s' (toL k b.1):=Sz.left hb
 have hby:Sz s' (toL k b.2):=Sz.right hb
 have hlen:=Xab k
 have L:=Xaz k t.1
 have m1:a.2=zero k->toL (k+1) (mul (k+1) t a b)=toL k (mul k t.1 a.1 b.1)++toL k (mul k t.1 a.1 b.2):=λe=>by
  show toL k (Tow.add k _ (mul k t.1 (mul k t.1 a.2 b.2) t.2))++toL k (Tow.add k _ (mul k t.1 a.2 b.1))=_
  rw[e,L.zm,L.zm,L.zm,L.az,L.az]
 have m2:b.2=zero k->toL (k+1) (mul (k+1) t a b)=toL k (mul k t.1 a.1 b.1)++toL k (mul k t.1 a.2 b.1):=λe=>by
  show toL k (Tow.add k _ (mul k t.1 (mul k t.1 a.2 b.2) t.2))++toL k (Tow.add k (mul k t.1 a.1 b.2) _)=_
  rw[e,L.mz,L.zm,L.mz,L.az,L.za]
 have m12:a.2=zero k->b.2=zero k->toL (k+1) (mul (k+1) t a b)=toL k (mul k t.1 a.1 b.1)++toL k (zero k):=λe e2=>by rw[m1 e,e2,L.mz]
 have la:((toL k a.1++toL k a.2).map dq).length=2*2^k:=by rw[lq,W0d,hlen,hlen];omega
 have lb:((toL k b.1++toL k b.2).map dq).length=2*2^k:=by rw[lq,W0d,hlen,hlen];omega
 have ta:((toL k a.1++toL k a.2).map dq).take (2^k)=(toL k a.1).map dq:=by rw[<-W2e,<-hlen a.1,W7d]
 have da:((toL k a.1++toL k a.2).map dq).drop (2^k)=(toL k a.2).map dq:=by rw[<-W4z,<-hlen a.1,W7r]
 have tb:((toL k b.1++toL k b.2).map dq).take (2^k)=(toL k b.1).map dq:=by rw[<-W2e,<-hlen b.1,W7d]
 have db:((toL k b.1++toL k b.2).map dq).drop (2^k)=(toL k b.2).map dq:=by rw[<-W4z,<-hlen b.1,W7r]
 have lt2:((toT k t.1++[toL k t.2]).map dqs).length=k+1:=by rw[lt',W0d,Xaa];rfl
 have tt:((toT k t.1++[toL k t.2]).map dqs).take k=(toT k t.1).map dqs:=by rw[<-W2e,W6e (Xaa k t.1)]
 have tu:((toT k t.1++[toL k t.2]).map dqs)[k]?=some (de t.2):=by rw[W1p,W0u (by rw[Xaa];exact W0a _),Xaa,W3b];rfl
 refine EnW Tryz.func203 λ_ _ _ _=>?_
 refine No rfl (by show ¬((((toT k t.1++[toL k t.2]).map dqs).length:Nat):Int)=0;omega) ?_
 refine Ar (2^k:Nat) rfl ?_ (Ykl la (by omega))
 refine Dw rfl ?_
 refine Ar k rfl ?_ (wr (by show ((((toT k t.1++[toL k t.2]).map dqs).length:Nat):Int)-1=k;omega) (by simp only[inK];omega))
 refine Tk k ((toT k t.1).map dqs) rfl rfl (by show k<=((toT k t.1++[toL k t.2]).map dqs).length;omega) tt ?_
 refine Ar k rfl ?_ (wr (by show ((((toT k t.1++[toL k t.2]).map dqs).length:Nat):Int)-1=k;omega) (by simp only[inK];omega))
 refine Ix k rfl tu ?_
 refine Dw rfl ?_
 refine Dp (2^k) ((toL k a.2).map dq) rfl rfl (by show _<=((toL k a.1++toL k a.2).map dq).length;omega) da ?_
 refine Ce rfl (Zero_ok (l:=toL k a.2) (by rw[hlen];omega)) ?_
 refine Dp (2^k) ((toL k b.2).map dq) rfl rfl (by show _<=((toL k b.1++toL k b.2).map dq).length;omega) db ?_
 refine Ce rfl (Zero_ok (l:=toL k b.2) (by rw[hlen];omega)) ?_
 refine Dw rfl ?_
 refine Tk (2^k) ((toL k a.1).map dq) rfl rfl (by show _<=((toL k a.1++toL k a.2).map dq).length;omega) ta ?_
 refine Tk (2^k) ((toL k b.1).map dq) rfl rfl (by show _<=((toL k b.1++toL k b.2).map dq).length;omega) tb ?_
 rcases ihk hT.1 hax hbx (by omega) (by omega) with hc | hc
 . refine Ce rfl hc ?_
   refine By rfl (λh1=>?_) λh1=>?_
   . have ea:=(Xam k a.2).2 h1
     refine By rfl (λh2=>?_) λh2=>?_
     . have eb:=(Xam k b.2).2 h2
       refine Ce rfl (R2.FromInt_ok (z:=0) (by decide)) ?_
       refine Ce rfl (FromRat_ok (t:=toT k t.1) (x:=0) (by rw[Xaa];omega)) ?_
       refine ApL ((toL (k+1) (mul (k+1) t a b)).map dq) rfl (by rw[m12 ea eb,<-W2c,Xaa];congr 2;rw[Xbn,<-W4i,show 2^k-1+1=2^k by omega]) (by simp only[lq,W0s,W1v,hlen];omega) (by rw[lq,Xab];omega) ?_
       refine Og 6 rfl rfl ?_
       exact Rw [(62,1000000)] [(1000000,.tok ((toL (k+1) (mul (k+1) t a b)).map dq).length 4)] rfl (.one (.rf rfl) rfl rfl) ⟨_,rfl,rfl,rfl⟩
     . refine Yes rfl h1 ?_
       refine Dw rfl ?_
       refine Tk (2^k) ((toL k a.1).map dq) rfl rfl (by show _<=((toL k a.1++toL k a.2).map dq).length;omega) ta ?_
       refine Dp (2^k) ((toL k b.2).map dq) rfl rfl (by show _<=((toL k b.1++toL k b.2).map dq).length;omega) db ?_
       refine Ce rfl (muld hT.1 hax hby (by omega) (by omega)) ?_
       refine ApL ((toL (k+1) (mul (k+1) t a b)).map dq) rfl (by rw[m1 ea,<-W2c]) (by simp only[lq,W0s,W1v,hlen];omega) (by rw[lq,Xab];omega) ?_
       refine Og 6 rfl rfl ?_
       exact Rw [(73,1000000)] [(1000000,.tok ((toL (k+1) (mul (k+1) t a b)).map dq).length 4)] rfl (.one (.rf rfl) rfl rfl) ⟨_,rfl,rfl,rfl⟩
   . refine No rfl h1 ?_
     refine By rfl (λh2=>?_) λh2=>?_
     . have eb:=(Xam k b.2).2 h2
       refine Dw rfl ?_
       refine Dp (2^k) ((toL k a.2).map dq) rfl rfl (by show _<=((toL k a.1++toL k a.2).map dq).length;omega) da ?_
       refine Tk (2^k) ((toL k b.1).map dq) rfl rfl (by show _<=((toL k b.1++toL k b.2).map dq).length;omega) tb ?_
       refine Ce rfl (muld hT.1 hay hbx (by omega) (by omega)) ?_
       refine ApL ((toL (k+1) (mul (k+1) t a b)).map dq) rfl (by rw[m2 eb,<-W2c]) (by simp only[lq,W0s,W1v,hlen];omega) (by rw[lq,Xab];omega) ?_
       refine Og 6 rfl rfl ?_
       exact Rw [(84,1000000)] [(1000000,.tok ((toL (k+1) (mul (k+1) t a b)).map dq).length 4)] rfl (.one (.rf rfl) rfl rfl) ⟨_,rfl,rfl,rfl⟩
     . refine Dw rfl ?_
       refine Dp (2^k) ((toL k a.2).map dq) rfl rfl (by show _<=((toL k a.1++toL k a.2).map dq).length;omega) da ?_
       refine Dp (2^k) ((toL k b.2).map dq) rfl rfl (by show _<=((toL k b.1++toL k b.2).map dq).length;omega) db ?_
       refine Ce rfl (muld hT.1 hay hby (by omega) (by omega)) ?_
       refine Ce rfl (muld hT.1 (hay.mul hT.1 hby) hT.2 (by omega) (by omega)) ?_
       refine Cg rfl (Add_ok (by rw[hlen,hlen]) (by rw[hlen];omega) (hax.mul hT.1 hbx).ps ((hay.mul hT.1 hby).mul hT.1 hT.2).ps (by omega)) ?_
       refine Dw rfl ?_
       refine Tk (2^k) ((toL k a.1).map dq) rfl rfl (by show _<=((toL k a.1++toL k a.2).map dq).length;omega) ta ?_
       refine Dp (2^k) ((toL k b.2).map dq) rfl rfl (by show _<=((toL k b.1++toL k b.2).map dq).length;omega) db ?_
       refine Ce rfl (muld hT.1 hax hby (by omega) (by omega)) ?_
       refine Dp (2^k) ((toL k a.2).map dq) rfl rfl (by show _<=((toL k a.1++toL k a.2).map dq).length;omega) da ?_
       refine Tk (2^k) ((toL k b.1).map dq) rfl rfl (by show _<=((toL k b.1++toL k b.2).map dq).length;omega) tb ?_
       refine Ce rfl (muld hT.1 hay hbx (by omega) (by omega)) ?_
       refine Ce rfl (Add_el (by omega) (hax.mul hT.1 hby).ps (hay.mul hT.1 hbx).ps (by omega)) ?_
       refine ApG ((toL (k+1) (mul (k+1) t a b)).map dq) rfl (by rw[<-W2c,<-Xav];rfl) (by rw[lq,Xab];omega) ?_
       exact Rw [(118,1000000)] [(1000000,.tok ((toL (k+1) (mul (k+1) t a b)).map dq).length 4)] rfl (.one (.rf rfl) rfl rfl) ⟨_,rfl,rfl,rfl⟩
 . refine Cg rfl hc ?_
   refine By rfl (λh1=>?_) λh1=>?_
   . have ea:=(Xam k a.2).2 h1
     refine By rfl (λh2=>?_) λh2=>?_
     . have eb:=(Xam k b.2).2 h2
       refine Ce rfl (R2.FromInt_ok (z:=0) (by decide)) ?_
       refine Ce rfl (FromRat_ok (t:=toT k t.1) (x:=0) (by rw[Xaa];omega)) ?_
       refine ApG ((toL (k+1) (mul (k+1) t a b)).map dq) rfl (by rw[m12 ea eb,<-W2c,Xaa];congr 2;rw[Xbn,<-W4i,show 2^k-1+1=2^k by omega]) (by rw[lq,Xab];omega) ?_
       exact Rw [(62,1000000)] [(1000000,.tok ((toL (k+1) (mul (k+1) t a b)).map dq).length 4)] rfl (.one (.rf rfl) rfl rfl) ⟨_,rfl,rfl,rfl⟩
     . refine Yes rfl h1 ?_
       refine Dw rfl ?_
       refine Tk (2^k) ((toL k a.1).map dq) rfl rfl (by show _<=((toL k a.1++toL k a.2).map dq).length;omega) ta ?_
       refine Dp (2^k) ((toL k b.2).map dq) rfl rfl (by show _<=((toL k b.1++toL k b.2).map dq).length;omega) db ?_
       refine Ce rfl (muld hT.1 hax hby (by omega) (by omega)) ?_
       refine ApG ((toL (k+1) (mul (k+1) t a b)).map dq) rfl (by rw[m1 ea,<-W2c]) (by rw[lq,Xab];omega) ?_
       exact Rw [(73,1000000)] [(1000000,.tok ((toL (k+1) (mul (k+1) t a b)).map dq).length 4)] rfl (.one (.rf rfl) rfl rfl) ⟨_,rfl,rfl,rfl⟩
   . refine No rfl h1 ?_
     refine By rfl (λh2=>?_) λh2=>?_
     . have eb:=(Xam k b.2).2 h2
       refine Dw rfl ?_
       refine Dp (2^k) ((toL k a.2).map dq) rfl rfl (by show _<=((toL k a.1++toL k a.2).map dq).length;omega) da ?_
       refine Tk (2^k) ((toL k b.1).map dq) rfl rfl (by show _<=((toL k b.1++toL k b.2).map dq).length;omega) tb ?_
       refine Ce rfl (muld hT.1 hay hbx (by omega) (by omega)) ?_
       refine ApG ((toL (k+1) (mul (k+1) t a b)).map dq) rfl (by rw[m2 eb,<-W2c]) (by rw[lq,Xab];omega) ?_
       exact Rw [(84,1000000)] [(1000000,.tok ((toL (k+1) (mul (k+1) t a b)).map dq).length 4)] rfl (.one (.rf rfl) rfl rfl) ⟨_,rfl,rfl,rfl⟩
     . refine Dw rfl ?_
       refine Dp (2^k) ((toL k a.2).map dq) rfl rfl (by show _<=((toL k a.1++toL k a.2).map dq).length;omega) da ?_
       refine Dp (2^k) ((toL k b.2).map dq) rfl rfl (by show _<=((toL k b.1++toL k b.2).map dq).length;omega) db ?_
       refine Ce rfl (muld hT.1 hay hby (by omega) (by omega)) ?_
       refine Ce rfl (muld hT.1 (hay.mul hT.1 hby) hT.2 (by omega) (by omega)) ?_
       refine Cg rfl (Add_ok (by rw[hlen,hlen]) (by rw[hlen];omega) (hax.mul hT.1 hbx).ps ((hay.mul hT.1 hby).mul hT.1 hT.2).ps (by omega)) ?_
       refine Dw rfl ?_
       refine Tk (2^k) ((toL k a.1).map dq) rfl rfl (by show _<=((toL k a.1++toL k a.2).map dq).length;omega) ta ?_
       refine Dp (2^k) ((toL k b.2).map dq) rfl rfl (by show _<=((toL k b.1++toL k b.2).map dq).length;omega) db ?_
       refine Ce rfl (muld hT.1 hax hby (by omega) (by omega)) ?_
       refine Dp (2^k) ((toL k a.2).map dq) rfl rfl (by show _<=((toL k a.1++toL k a.2).map dq).length;omega) da ?_
       refine Tk (2^k) ((toL k b.1).map dq) rfl rfl (by show _<=((toL k b.1++toL k b.2).map dq).length;omega) tb ?_
       refine Ce rfl (muld hT.1 hay hbx (by omega) (by omega)) ?_
       refine Ce rfl (Add_el (by omega) (hax.mul hT.1 hby).ps (hay.mul hT.1 hbx).ps (by omega)) ?_
       refine ApG ((toL (k+1) (mul (k+1) t a b)).map dq) rfl (by rw[<-W2c,<-Xav];rfl) (by rw[lq,Xab];omega) ?_
       exact Rw [(118,1000000)] [(1000000,.tok ((toL (k+1) (mul (k+1) t a b)).map dq).length 4)] rfl (.one (.rf rfl) rfl rfl) ⟨_,rfl,rfl,rfl⟩
theorem Xrf: ∀ {k:Nat} {r s s':Nat} {t:Tw k} {a b:Tow.El k},TS r k t->Sz s (toL k a)->Sz s' (toL k b)->k<=16->s+s'+cB r k<=4398046511104->C0 203 [.d (dt t),.d (de a),.d (de b)] (·=.lit 4 ((toL k (mul k t a b)).map dq))\/CG0 203 [.d (dt t),.d (de a),.d (de b)] 4 ((toL k (mul k t a b)).map dq):=by
 intro k
 induction k with
 | zero=>intro r s s' t a b hT ha hb hk hs;exact .inl (Yfp (ha.qs (W0h.2 rfl)) (hb.qs (W0h.2 rfl)) (by omega))
 | succ k ih=>intro r s s' t a b hT ha hb hk hs;exact .inr (Yac (λhT ha hb hk hs=>(ih hT ha hb hk hs).elim C.lit (λh=>CG.data h)) ih hT ha hb hk hs)
theorem Mul_el{k r s s':Nat}{t:Tw k}{a b:Tow.El k}(hT:TS r k t)(ha:Sz s (toL k a))(hb:Sz s' (toL k b))(hk:k<=16)(hs:s+s'+cB r k<=4398046511104): C0 203 [.d (dt t),.d (de a),.d (de b)] (·=.d (de (mul k t a b))):=(Xrf hT ha hb hk hs).elim C.lit (λh=>CG.data h)
end Go.Proofs.YtfjafaehfjjaiaaGreatDoor.R6
namespace Go.Tow
section
inductive Pe where
 | v (i:Nat)
 | z
 | o
 | add (a b:Pe)
 | mul (a b:Pe)
 | neg (a:Pe)
abbrev Xo5:=List (Bool×List Nat)
def ltM: List Nat->List Nat->Bool
 | [],[]=>false
 | [],_::_=>true
 | _::_,[]=>false
 | a::r,b::s=>match Nat.blt a b with
  | true=>true
  | false=>match Nat.beq a b with
   | true=>ltM r s
   | false=>false
def Yif(i:Nat): List Nat->List Nat
 | []=>[i]
 | j::r=>match Nat.ble i j with
  | true=>i::j::r
  | false=>j::Yif i r
def Yeb(t:Bool×List Nat): Xo5->Xo5
 | []=>[t]
 | h::r=>if t.2=h.2 then (if t.1=h.1 then t::h::r else r) else match ltM t.2 h.2 with
  | true=>t::h::r
  | false=>h::Yeb t r
def Ydv(m n:List Nat): List Nat:=m.foldr Yif n
def Yj3(p q:Xo5): Xo5:=p.foldr Yeb q
def Yfw(t:Bool×List Nat)(q acc:Xo5): Xo5:=q.foldr (λu a=>Yeb (t.1 != u.1,Ydv t.2 u.2) a) acc
def Yhv(p q:Xo5): Xo5:=p.foldr (λt acc=>Yfw t q acc) []
def nrm: Pe->Xo5
 | .v i=>[(false,[i])]
 | .z=>[]
 | .o=>[(false,[])]
 | .add a b=>Yj3 (nrm a) (nrm b)
 | .mul a b=>Yhv (nrm a) (nrm b)
 | .neg a=>(nrm a).map λt=>(!t.1,t.2)
def Laws.ev{α:Type}{add mul:α->α->α}{neg:α->α}{zero one:α}(L:Laws add mul neg zero one)(xs:List α): Pe->α
 | .v i=>xs.getD i zero
 | .z=>zero
 | .o=>one
 | .add a b=>add (Laws.ev L xs a) (Laws.ev L xs b)
 | .mul a b=>mul (Laws.ev L xs a) (Laws.ev L xs b)
 | .neg a=>neg (Laws.ev L xs a)
def Laws.eM{α:Type}{add mul:α->α->α}{neg:α->α}{zero one:α}(L:Laws add mul neg zero one)(xs:List α): List Nat->α
 | []=>one
 | i::r=>mul (xs.getD i zero) (Laws.eM L xs r)
def Laws.eT{α:Type}{add mul:α->α->α}{neg:α->α}{zero one:α}(L:Laws add mul neg zero one)(xs:List α)(t:Bool×List Nat): α:=match t.1 with
 | true=>neg (L.eM xs t.2)
 | false=>L.eM xs t.2
def Laws.eP{α:Type}{add mul:α->α->α}{neg:α->α}{zero one:α}(L:Laws add mul neg zero one)(xs:List α): Xo5->α
 | []=>zero
 | t::r=>add (L.eT xs t) (Laws.eP L xs r)
section
variable{α:Type}{add mul:α->α->α}{neg:α->α}{zero one:α}(L:Laws add mul neg zero one)(xs:List α)
include L
theorem Laws.eM_ins(i:Nat)(m:List Nat): L.eM xs (Yif i m)=mul (xs.getD i zero) (L.eM xs m):=by
 induction m with
 | nil=>rfl
 | cons j r ih =>
  simp only[Yif]
  split
  . rfl
  . simp only[eM];rw[ih,L.mlc]
theorem Laws.eM_mul(m n:List Nat): L.eM xs (Ydv m n)=mul (L.eM xs m) (L.eM xs n):=by
 induction m with
 | nil=>simp only[Ydv,W7s,eM,L.om]
 | cons i m ih =>
  have:Ydv (i::m) n=Yif i (Ydv m n):=rfl
  rw[this,L.eM_ins,ih,<-L.ma];rfl
theorem Laws.eP_ins(t:Bool×List Nat)(p:Xo5): L.eP xs (Yeb t p)=add (L.eT xs t) (L.eP xs p):=by
 induction p with
 | nil=>rfl
 | cons h r ih =>
  simp only[Yeb]
  split
  . rename_i h1
    split
    . rfl
    . rename_i h2
      obtain⟨s,m⟩:=t
      obtain⟨s',m'⟩:=h
      have h1':m=m':=h1
      subst h1'
      cases s<;>cases s'<;>first | exact absurd rfl h2 | skip
      . simp only[eP,eT];rw[<-L.aa,L.an,L.za]
      . simp only[eP,eT];rw[<-L.aa,L.na,L.za]
  . split
    . rfl
    . simp only[eP];rw[ih,L.alc]
theorem Laws.eP_add(p q:Xo5): L.eP xs (Yj3 p q)=add (L.eP xs p) (L.eP xs q):=by
 induction p with
 | nil=>simp only[Yj3,W7s,eP,L.za]
 | cons t p ih =>
  have:Yj3 (t::p) q=Yeb t (Yj3 p q):=rfl
  rw[this,L.eP_ins,ih];simp only[eP];rw[L.aa]
theorem Laws.eT_mul(t u:Bool×List Nat): L.eT xs (t.1 != u.1,Ydv t.2 u.2)=mul (L.eT xs t) (L.eT xs u):=by
 obtain⟨s,m⟩:=t
 obtain⟨s',m'⟩:=u
 cases s<;>cases s'<;>simp[eT,L.eM_mul,L.mn,L.nm,L.nn]
theorem Laws.eP_mulT(t:Bool×List Nat)(q acc:Xo5): L.eP xs (Yfw t q acc)=add (mul (L.eT xs t) (L.eP xs q)) (L.eP xs acc):=by
 induction q with
 | nil=>simp only[Yfw,W7s,eP,L.mz,L.za]
 | cons u q ih =>
  have:Yfw t (u::q) acc=Yeb (t.1 != u.1,Ydv t.2 u.2) (Yfw t q acc):=rfl
  rw[this,L.eP_ins,ih,L.eT_mul];simp only[eP];rw[L.md,L.aa]
theorem Laws.eP_mul(p q:Xo5): L.eP xs (Yhv p q)=mul (L.eP xs p) (L.eP xs q):=by
 induction p with
 | nil=>simp only[Yhv,W7s,eP,L.zm]
 | cons t p ih =>
  have:Yhv (t::p) q=Yfw t q (Yhv p q):=rfl
  rw[this,L.eP_mulT,ih];simp only[eP];rw[L.dm]
theorem Laws.eP_neg(p:Xo5): L.eP xs (p.map λt=>(!t.1,t.2))=neg (L.eP xs p):=by
 induction p with
 | nil=>simp only[List.map_nil,eP,L.nz]
 | cons t p ih =>
  obtain⟨s,m⟩:=t
  simp only[W4h,eP,L.nd,ih]
  cases s<;>simp[eT,L.nn]
theorem Laws.ev_nrm(e:Pe): L.ev xs e=L.eP xs (nrm e):=by
 induction e with
 | v i=>simp only[nrm,ev,eP,eT,eM,L.mo,L.az]
 | z=>rfl
 | o=>simp only[nrm,ev,eP,eT,eM,L.az]
 | add a b ha hb=>simp only[nrm,ev,L.eP_add,ha,hb]
 | mul a b ha hb=>simp only[nrm,ev,L.eP_mul,ha,hb]
 | neg a ha=>simp only[nrm,ev,L.eP_neg,ha]
theorem Laws.req(a b:Pe)(h:nrm a=nrm b): L.ev xs a=L.ev xs b:=by rw[L.ev_nrm,L.ev_nrm,h]
end
end
section
structure Sgn {α:Type} (add mul:α->α->α) (neg:α->α) (one:α) (σ:α->Int):Prop where
 tri:∀a,σ a=1\/σ a=0\/σ a=-1
 sn:∀a,σ (neg a)=- σ a
 sm:∀a b,σ (mul a b)=σ a*σ b
 sa:∀a b,0<=σ a->0<=σ b->0<=σ (add a b)
 sp:∀a b,σ a=1->0<=σ b->σ (add a b)=1
 s1:σ one=1
theorem Xeb{X:Int}(h:X=1\/X=0\/X=-1): 0<=X*X/\(X≠0->X*X=1)/\(X=0->X*X=0):=by
 rcases h with rfl | rfl | rfl<;>decide
section
variable{α:Type}{add mul:α->α->α}{neg:α->α}{zero one:α}{σ:α->Int}(L:Laws add mul neg zero one)(S:Sgn add mul neg one σ)
include L S
theorem Sgn.s0: σ zero=0:=by
 have:=S.sn zero
 rw[L.nz] at this
 omega
theorem Sgn.add0{a b:α}(ha:σ a=0): σ (add a b)=σ b:=by
 rcases S.tri b with hb | hb | hb
 . rw[hb,L.ac];exact S.sp b a hb (by omega)
 . have h1:=S.sa a b (by omega) (by omega)
   have h2:=S.sa (neg a) (neg b) (by rw[S.sn];omega) (by rw[S.sn];omega)
   rw[<-L.nd,S.sn] at h2
   omega
 . have h2:=S.sp (neg b) (neg a) (by rw[S.sn];omega) (by rw[S.sn];omega)
   rw[L.ac,<-L.nd,S.sn] at h2
   omega
theorem Sgn.add0'{a b:α}(hb:σ b=0): σ (add a b)=σ a:=by rw[L.ac,S.add0 L hb]
theorem Sgn.np{a b:α}(ha:σ a=-1)(hb:σ b<=0): σ (add a b)=-1:=by
 have h2:=S.sp (neg a) (neg b) (by rw[S.sn];omega) (by rw[S.sn];omega)
 rw[<-L.nd,S.sn] at h2
 omega
theorem Sgn.same{a b:α}(h:σ a=σ b): σ (add a b)=σ a:=by
 rcases S.tri a with ha | ha | ha
 . rw[ha];exact S.sp a b ha (by omega)
 . rw[S.add0 L ha,<-h]
 . rw[ha];exact S.np L ha (by omega)
theorem Sgn.eqv{a b:α}(h:σ (add a (neg b))=0): σ a=σ b:=by
 have e:a=add (add a (neg b)) b:=(Laws.req L [a,b] (.v 0) (.add (.add (.v 0) (.neg (.v 1))) (.v 1)) (by decide +kernel))
 rw[e,S.add0 L h]
theorem Sgn.dom{a b:α}(h:σ (add (mul a a) (neg (mul b b)))=1): σ (add a b)=σ a:=by
 have e:add (mul a a) (neg (mul b b))=mul (add a b) (add a (neg b)):=(Laws.req L [a,b] (.add (.mul (.v 0) (.v 0)) (.neg (.mul (.v 1) (.v 1)))) (.mul (.add (.v 0) (.v 1)) (.add (.v 0) (.neg (.v 1)))) (by decide +kernel))
 have e2:add a a=add (add a b) (add a (neg b)):=(Laws.req L [a,b] (.add (.v 0) (.v 0)) (.add (.add (.v 0) (.v 1)) (.add (.v 0) (.neg (.v 1)))) (by decide +kernel))
 rw[e,S.sm] at h
 have h2:σ (add a a)=σ a:=S.same L rfl
 rw[e2] at h2
 rcases S.tri (add a b) with h3 | h3 | h3<;>rcases S.tri (add a (neg b)) with h4 | h4 | h4<;>rw[h3,h4] at h<;>first | (exact absurd h (by decide)) | skip
 . rw[<-h2,h3];exact(S.sp _ _ h3 (by omega)).symm
 . rw[<-h2,h3];exact(S.np L h3 (by omega)).symm
theorem Sgn.dom0{a b:α}(h:σ (add (mul a a) (neg (mul b b)))=0): σ (add a b)=Int.sign (σ a+σ b):=by
 have e:add (mul a a) (neg (mul b b))=mul (add a b) (add a (neg b)):=(Laws.req L [a,b] (.add (.mul (.v 0) (.v 0)) (.neg (.mul (.v 1) (.v 1)))) (.mul (.add (.v 0) (.v 1)) (.add (.v 0) (.neg (.v 1)))) (by decide +kernel))
 rw[e,S.sm] at h
 rcases W7o.1 h with h1 | h1
 . have e2:a=add (add a b) (neg b):=(Laws.req L [a,b] (.v 0) (.add (.add (.v 0) (.v 1)) (.neg (.v 1))) (by decide +kernel))
   have h2:σ a=- σ b:=by
    conv=>lhs;rw[e2]
    rw[S.add0 L h1,S.sn]
   rw[h1,h2,show -σ b+σ b=0 by omega];rfl
 . have h2:=S.eqv L h1
   rw[S.same L h2,<-h2]
   rcases S.tri a with ha | ha | ha<;>rw[ha]<;>rfl
end
def Laws.nP{α:Type}{add mul:α->α->α}{neg:α->α}{zero one:α}(L:Laws add mul neg zero one)(d:α)(p:α×α): α:=add (mul p.1 p.1) (neg (mul (mul p.2 p.2) d))
def Laws.mQ{α:Type}{add mul:α->α->α}{neg:α->α}{zero one:α}(L:Laws add mul neg zero one)(d:α)(p q:α×α): α×α:=(add (mul p.1 q.1) (mul (mul p.2 q.2) d),add (mul p.1 q.2) (mul p.2 q.1))
def Laws.aQ{α:Type}{add mul:α->α->α}{neg:α->α}{zero one:α}(L:Laws add mul neg zero one)(p q:α×α): α×α:=(add p.1 q.1,add p.2 q.2)
def Laws.gQ{α:Type}{add mul:α->α->α}{neg:α->α}{zero one:α}(L:Laws add mul neg zero one)(p:α×α): α×α:=(neg p.1,neg p.2)
def Laws.sx{α:Type}{add mul:α->α->α}{neg:α->α}{zero one:α}(L:Laws add mul neg zero one)(d:α)(σ:α->Int)(p:α×α): Int :=
 if σ p.2=0\/σ p.1=σ p.2 then σ p.1 else if σ p.1=0 then σ p.2 else σ p.1*σ (L.nP d p)
theorem Ygj{X Y ν:Int}(h1:X=1\/X=0\/X=-1)(h2:Y=1\/Y=0\/Y=-1)(h3:ν=1\/ν=0\/ν=-1)(hx:X=0->ν=-(Y*Y))(hy:Y=0->ν=X*X):
 (if Y=0\/X=Y then X else if X=0 then Y else X*ν)=if ν=1 then X else if ν=-1 then Y else Int.sign (X+Y):=by
 rcases h1 with rfl | rfl | rfl<;>rcases h2 with rfl | rfl | rfl<;>rcases h3 with rfl | rfl | rfl <;>
  first | rfl | (exact absurd (hx rfl) (by decide)) | (exact absurd (hy rfl) (by decide)) | decide
section
variable{α:Type}{add mul:α->α->α}{neg:α->α}{zero one d:α}{σ:α->Int}(L:Laws add mul neg zero one)(S:Sgn add mul neg one σ)(hd:σ d=1)
include L S hd
theorem Sgn.n0x{p:α×α}(h:σ p.1=0): σ (L.nP d p)=-(σ p.2*σ p.2):=by
 unfold Laws.nP
 rw[S.add0 L (by rw[S.sm,h];rfl),S.sn,S.sm,S.sm,hd,W5m]
theorem Sgn.n0y{p:α×α}(h:σ p.2=0): σ (L.nP d p)=σ p.1*σ p.1:=by
 have _u:=hd
 unfold Laws.nP
 rw[S.add0' L (by rw[S.sn,S.sm,S.sm,h];simp),S.sm]
theorem Sgn.sx_eq(p:α×α): L.sx d σ p=if σ (L.nP d p)=1 then σ p.1 else if σ (L.nP d p)=-1 then σ p.2 else Int.sign (σ p.1+σ p.2) :=
 Ygj (S.tri _) (S.tri _) (S.tri _) (S.n0x L hd) (S.n0y L hd)
theorem Sgn.sx1{p:α×α}(h:σ (L.nP d p)=1): L.sx d σ p=σ p.1/\σ p.1≠0:=by
 refine⟨by rw[S.sx_eq L hd,if_pos h],λh0=>?_⟩
 have h1:=S.n0x L hd h0
 have:=(Xeb (S.tri p.2)).1
 omega
theorem Sgn.sxm{p:α×α}(h:σ (L.nP d p)=-1): L.sx d σ p=σ p.2/\σ p.2≠0:=by
 refine⟨by rw[S.sx_eq L hd,if_neg (by omega),if_pos h],λh0=>?_⟩
 have h1:=S.n0y L hd h0
 have:=(Xeb (S.tri p.1)).1
 omega
theorem Sgn.sxz{p:α×α}(h:σ (L.nP d p)=0): L.sx d σ p=Int.sign (σ p.1+σ p.2)/\(σ p.1=0↔σ p.2=0):=by
 refine⟨by rw[S.sx_eq L hd,if_neg (by omega),if_neg (by omega)],λh0=>?_,λh0=>?_⟩
 . have h1:=S.n0x L hd h0
   have h2:=(Xeb (S.tri p.2)).2.1
   exact W1b λh3=>by have:=h2 h3;omega
 . have h1:=S.n0y L hd h0
   have h2:=(Xeb (S.tri p.1)).2.1
   exact W1b λh3=>by have:=h2 h3;omega
theorem Sgn.sd(z:α): σ (mul d z)=σ z:=by
 have _u:=L
 rw[S.sm,hd,W5n]
theorem Sgn.mul_core(p q:α×α)(h:σ (L.nP d q)=0->σ (L.nP d p)=0): L.sx d σ (L.mQ d p q)=L.sx d σ p*L.sx d σ q:=by
 obtain⟨a1,b1⟩:=p
 obtain⟨a2,b2⟩:=q
 have hN:σ (L.nP d (L.mQ d (a1,b1) (a2,b2)))=σ (L.nP d (a1,b1))*σ (L.nP d (a2,b2)):=by
  rw[<-S.sm];congr 1
  exact(Laws.req L [a1,b1,a2,b2,d] (.add (.mul (.add (.mul (.v 0) (.v 2)) (.mul (.mul (.v 1) (.v 3)) (.v 4))) (.add (.mul (.v 0) (.v 2)) (.mul (.mul (.v 1) (.v 3)) (.v 4)))) (.neg (.mul (.mul (.add (.mul (.v 0) (.v 3)) (.mul (.v 1) (.v 2))) (.add (.mul (.v 0) (.v 3)) (.mul (.v 1) (.v 2)))) (.v 4)))) (.mul (.add (.mul (.v 0) (.v 0)) (.neg (.mul (.mul (.v 1) (.v 1)) (.v 4)))) (.add (.mul (.v 2) (.v 2)) (.neg (.mul (.mul (.v 3) (.v 3)) (.v 4))))) (by decide +kernel))
 have eX:∀n1 n2,n1=L.nP d (a1,b1)->n2=L.nP d (a2,b2)->add (mul (mul a1 a2) (mul a1 a2)) (neg (mul (mul (mul b1 b2) d) (mul (mul b1 b2) d)))=add (add (mul (mul a1 a1) n2) (mul (mul a2 a2) n1)) (neg (mul n1 n2)):=by
  rintro _ _ rfl rfl
  exact(Laws.req L [a1,b1,a2,b2,d] (.add (.mul (.mul (.v 0) (.v 2)) (.mul (.v 0) (.v 2))) (.neg (.mul (.mul (.mul (.v 1) (.v 3)) (.v 4)) (.mul (.mul (.v 1) (.v 3)) (.v 4))))) (.add (.add (.mul (.mul (.v 0) (.v 0)) (.add (.mul (.v 2) (.v 2)) (.neg (.mul (.mul (.v 3) (.v 3)) (.v 4))))) (.mul (.mul (.v 2) (.v 2)) (.add (.mul (.v 0) (.v 0)) (.neg (.mul (.mul (.v 1) (.v 1)) (.v 4)))))) (.neg (.mul (.add (.mul (.v 0) (.v 0)) (.neg (.mul (.mul (.v 1) (.v 1)) (.v 4)))) (.add (.mul (.v 2) (.v 2)) (.neg (.mul (.mul (.v 3) (.v 3)) (.v 4))))))) (by decide +kernel))
 have eX2:∀n1 n2,n1=L.nP d (a1,b1)->n2=L.nP d (a2,b2)->add (mul (mul a1 a2) (mul a1 a2)) (neg (mul (mul (mul b1 b2) d) (mul (mul b1 b2) d)))=add (mul (mul a1 a1) n2) (mul (mul d (mul b2 b2)) n1):=by
  rintro _ _ rfl rfl
  exact(Laws.req L [a1,b1,a2,b2,d] (.add (.mul (.mul (.v 0) (.v 2)) (.mul (.v 0) (.v 2))) (.neg (.mul (.mul (.mul (.v 1) (.v 3)) (.v 4)) (.mul (.mul (.v 1) (.v 3)) (.v 4))))) (.add (.mul (.mul (.v 0) (.v 0)) (.add (.mul (.v 2) (.v 2)) (.neg (.mul (.mul (.v 3) (.v 3)) (.v 4))))) (.mul (.mul (.v 4) (.mul (.v 3) (.v 3))) (.add (.mul (.v 0) (.v 0)) (.neg (.mul (.mul (.v 1) (.v 1)) (.v 4)))))) (by decide +kernel))
 have eXr:∀n1 n2,n1=L.nP d (a1,b1)->n2=L.nP d (a2,b2)->add (mul (mul (mul b1 b2) d) (mul (mul b1 b2) d)) (neg (mul (mul a1 a2) (mul a1 a2)))=add (add (neg (mul (mul a1 a1) n2)) (neg (mul (mul a2 a2) n1))) (mul n1 n2):=by
  rintro _ _ rfl rfl
  exact(Laws.req L [a1,b1,a2,b2,d] (.add (.mul (.mul (.mul (.v 1) (.v 3)) (.v 4)) (.mul (.mul (.v 1) (.v 3)) (.v 4))) (.neg (.mul (.mul (.v 0) (.v 2)) (.mul (.v 0) (.v 2))))) (.add (.add (.neg (.mul (.mul (.v 0) (.v 0)) (.add (.mul (.v 2) (.v 2)) (.neg (.mul (.mul (.v 3) (.v 3)) (.v 4)))))) (.neg (.mul (.mul (.v 2) (.v 2)) (.add (.mul (.v 0) (.v 0)) (.neg (.mul (.mul (.v 1) (.v 1)) (.v 4))))))) (.mul (.add (.mul (.v 0) (.v 0)) (.neg (.mul (.mul (.v 1) (.v 1)) (.v 4)))) (.add (.mul (.v 2) (.v 2)) (.neg (.mul (.mul (.v 3) (.v 3)) (.v 4)))))) (by decide +kernel))
 have eY:∀n1 n2,n1=L.nP d (a1,b1)->n2=L.nP d (a2,b2)->mul d (add (mul (mul a1 b2) (mul a1 b2)) (neg (mul (mul b1 a2) (mul b1 a2))))=add (neg (mul (mul a1 a1) n2)) (mul (mul a2 a2) n1):=by
  rintro _ _ rfl rfl
  exact(Laws.req L [a1,b1,a2,b2,d] (.mul (.v 4) (.add (.mul (.mul (.v 0) (.v 3)) (.mul (.v 0) (.v 3))) (.neg (.mul (.mul (.v 1) (.v 2)) (.mul (.v 1) (.v 2)))))) (.add (.neg (.mul (.mul (.v 0) (.v 0)) (.add (.mul (.v 2) (.v 2)) (.neg (.mul (.mul (.v 3) (.v 3)) (.v 4)))))) (.mul (.mul (.v 2) (.v 2)) (.add (.mul (.v 0) (.v 0)) (.neg (.mul (.mul (.v 1) (.v 1)) (.v 4)))))) (by decide +kernel))
 have eYr:∀n1 n2,n1=L.nP d (a1,b1)->n2=L.nP d (a2,b2)->mul d (add (mul (mul b1 a2) (mul b1 a2)) (neg (mul (mul a1 b2) (mul a1 b2))))=add (neg (mul (mul a2 a2) n1)) (mul (mul a1 a1) n2):=by
  rintro _ _ rfl rfl
  exact(Laws.req L [a1,b1,a2,b2,d] (.mul (.v 4) (.add (.mul (.mul (.v 1) (.v 2)) (.mul (.v 1) (.v 2))) (.neg (.mul (.mul (.v 0) (.v 3)) (.mul (.v 0) (.v 3)))))) (.add (.neg (.mul (.mul (.v 2) (.v 2)) (.add (.mul (.v 0) (.v 0)) (.neg (.mul (.mul (.v 1) (.v 1)) (.v 4)))))) (.mul (.mul (.v 0) (.v 0)) (.add (.mul (.v 2) (.v 2)) (.neg (.mul (.mul (.v 3) (.v 3)) (.v 4)))))) (by decide +kernel))
 have eX:=eX _ _ rfl rfl
 have eX2:=eX2 _ _ rfl rfl
 have eXr:=eXr _ _ rfl rfl
 have eY:=eY _ _ rfl rfl
 have eYr:=eYr _ _ rfl rfl
 have Sx:=@Sgn.sx1 _ _ _ _ _ _ d σ L S hd
 have Sm:=@Sgn.sxm _ _ _ _ _ _ d σ L S hd
 have Sz:=@Sgn.sxz _ _ _ _ _ _ d σ L S hd
 have ta1:=S.tri a1
 have tb1:=S.tri b1
 have ta2:=S.tri a2
 have tb2:=S.tri b2
 have sA:σ (mul (mul a1 a1) (L.nP d (a2,b2)))=σ a1*σ a1*σ (L.nP d (a2,b2)):=by rw[S.sm,S.sm]
 have sB:σ (mul (mul a2 a2) (L.nP d (a1,b1)))=σ a2*σ a2*σ (L.nP d (a1,b1)):=by rw[S.sm,S.sm]
 have sC:σ (mul (L.nP d (a1,b1)) (L.nP d (a2,b2)))=σ (L.nP d (a1,b1))*σ (L.nP d (a2,b2)):=S.sm _ _
 have sD:σ (mul (mul d (mul b2 b2)) (L.nP d (a1,b1)))=σ b2*σ b2*σ (L.nP d (a1,b1)):=by rw[S.sm,S.sd L hd,S.sm]
 have sb:σ (mul (mul b1 b2) d)=σ b1*σ b2:=by rw[S.sm,S.sm,hd,W5m]
 have qa1:=Xeb ta1
 have qa2:=Xeb ta2
 have qb2:=Xeb tb2
 rcases S.tri (L.nP d (a1,b1)) with h1 | h1 | h1<;>rcases S.tri (L.nP d (a2,b2)) with h2 | h2 | h2<;>simp only[h1,h2,W5m,Int.mul_zero,Int.mul_neg] at sA sB sC sD hN
 . obtain⟨k1,z1⟩:=Sx h1
   obtain⟨k2,z2⟩:=Sx h2
   have z1:σ a1≠0:=z1
   have:=S.dom L (a:=mul a1 a2) (b:=mul (mul b1 b2) d) (by rw[eX2];exact S.sp _ _ (by rw[sA,qa1.2.1 z1]) (by rw[sD];exact qb2.1))
   rw[(Sx hN).1,k1,k2]
   show σ (add (mul a1 a2) (mul (mul b1 b2) d))=σ a1*σ a2
   rw[this,S.sm]
 . exact absurd (h h2) (by omega)
 . obtain⟨k1,z1⟩:=Sx h1
   obtain⟨k2,z2⟩:=Sm h2
   have z1:σ a1≠0:=z1
   have z2:σ b2≠0:=z2
   have:=S.dom L (a:=mul a1 b2) (b:=mul b1 a2) (by rw[<-S.sd L hd,eY];exact S.sp _ _ (by rw[S.sn,sA,qa1.2.1 z1];rfl) (by rw[sB];exact qa2.1))
   rw[(Sm hN).1,k1,k2]
   show σ (add (mul a1 b2) (mul b1 a2))=σ a1*σ b2
   rw[this,S.sm]
 . obtain⟨k1,e1⟩:=Sz h1
   obtain⟨k2,z2⟩:=Sx h2
   have z2:σ a2≠0:=z2
   have e1:σ a1=0↔σ b1=0:=e1
   rw[(Sz hN).1,k1,k2]
   show Int.sign (σ (add (mul a1 a2) (mul (mul b1 b2) d))+σ (add (mul a1 b2) (mul b1 a2)))=Int.sign (σ a1+σ b1)*σ a2
   by_cases z1:σ a1=0
   . have zb:=e1.1 z1
     rw[S.add0 L (by rw[S.sm,z1,W5i]),S.add0 L (by rw[S.sm,z1,W5i]),sb,S.sm,z1,zb,W5i,W5i];simp
   . have g1:=S.dom L (a:=mul a1 a2) (b:=mul (mul b1 b2) d) (by rw[eX];exact S.sp _ _ (S.sp _ _ (by rw[sA,qa1.2.1 z1]) (by rw[sB];exact W7t _)) (by rw[S.sn,sC];decide))
     have g2:=S.dom L (a:=mul b1 a2) (b:=mul a1 b2) (by rw[<-S.sd L hd,eYr,L.ac];exact S.sp _ _ (by rw[sA,qa1.2.1 z1]) (by rw[S.sn,sB];decide))
     rw[g1,L.ac (mul a1 b2),g2,S.sm,S.sm]
     have zb:σ b1≠0:=λh=>z1 (e1.2 h)
     revert z1 z2 zb
     rcases ta1 with h | h | h<;>rcases tb1 with h' | h' | h'<;>rcases ta2 with h'' | h'' | h''<;>rw[h,h',h'']<;>decide
 . obtain⟨k1,e1⟩:=Sz h1
   obtain⟨k2,e2⟩:=Sz h2
   have e1:σ a1=0↔σ b1=0:=e1
   have e2:σ a2=0↔σ b2=0:=e2
   rw[(Sz hN).1,k1,k2]
   show Int.sign (σ (add (mul a1 a2) (mul (mul b1 b2) d))+σ (add (mul a1 b2) (mul b1 a2)))=Int.sign (σ a1+σ b1)*Int.sign (σ a2+σ b2)
   have g1:=S.dom0 L (a:=mul a1 a2) (b:=mul (mul b1 b2) d) (by rw[eX,S.add0' L (by rw[S.sn,sC];rfl),S.add0 L sA,sB])
   have g2:=S.dom0 L (a:=mul a1 b2) (b:=mul b1 a2) (by rw[<-S.sd L hd,eY,S.add0 L (by rw[S.sn,sA];rfl),sB])
   rw[g1,g2,sb,S.sm,S.sm,S.sm]
   revert e1 e2
   rcases ta1 with h | h | h<;>rcases tb1 with h' | h' | h'<;>rcases ta2 with h'' | h'' | h''<;>rcases tb2 with g | g | g<;>rw[h,h',h'',g]<;>decide
 . obtain⟨k1,e1⟩:=Sz h1
   obtain⟨k2,z2⟩:=Sm h2
   have z2:σ b2≠0:=z2
   have e1:σ a1=0↔σ b1=0:=e1
   rw[(Sz hN).1,k1,k2]
   show Int.sign (σ (add (mul a1 a2) (mul (mul b1 b2) d))+σ (add (mul a1 b2) (mul b1 a2)))=Int.sign (σ a1+σ b1)*σ b2
   by_cases z1:σ a1=0
   . have zb:=e1.1 z1
     rw[S.add0 L (by rw[S.sm,z1,W5i]),S.add0 L (by rw[S.sm,z1,W5i]),sb,S.sm,z1,zb,W5i,W5i];simp
   . have g1:=S.dom L (a:=mul (mul b1 b2) d) (b:=mul a1 a2) (by rw[eXr];exact S.sp _ _ (S.sp _ _ (by rw[S.sn,sA,qa1.2.1 z1];rfl) (by rw[S.sn,sB];decide)) (by rw[sC];decide))
     have g2:=S.dom L (a:=mul a1 b2) (b:=mul b1 a2) (by rw[<-S.sd L hd,eY];exact S.sp _ _ (by rw[S.sn,sA,qa1.2.1 z1];rfl) (by rw[sB];exact W7t _))
     rw[L.ac (mul a1 a2),g1,g2,sb,S.sm]
     have zb:σ b1≠0:=λh=>z1 (e1.2 h)
     revert z1 z2 zb
     rcases ta1 with h | h | h<;>rcases tb1 with h' | h' | h'<;>rcases tb2 with h'' | h'' | h''<;>rw[h,h',h'']<;>decide
 . obtain⟨k1,z1⟩:=Sm h1
   obtain⟨k2,z2⟩:=Sx h2
   have z2:σ a2≠0:=z2
   have:=S.dom L (a:=mul b1 a2) (b:=mul a1 b2) (by rw[<-S.sd L hd,eYr];exact S.sp _ _ (by rw[S.sn,sB,qa2.2.1 z2];rfl) (by rw[sA];exact qa1.1))
   rw[(Sm hN).1,k1,k2]
   show σ (add (mul a1 b2) (mul b1 a2))=σ b1*σ a2
   rw[L.ac,this,S.sm]
 . exact absurd (h h2) (by omega)
 . obtain⟨k1,z1⟩:=Sm h1
   obtain⟨k2,z2⟩:=Sm h2
   have:=S.dom L (a:=mul (mul b1 b2) d) (b:=mul a1 a2) (by rw[eXr,L.ac];exact S.sp _ _ (by rw[sC];rfl) (S.sa _ _ (by rw[S.sn,sA];have:=qa1.1;omega) (by rw[S.sn,sB];have:=qa2.1;omega)))
   rw[(Sx hN).1,k1,k2]
   show σ (add (mul a1 a2) (mul (mul b1 b2) d))=σ b1*σ b2
   rw[L.ac,this,sb]
theorem Sgn.smul(p q:α×α): L.sx d σ (L.mQ d p q)=L.sx d σ p*L.sx d σ q:=by
 by_cases h:σ (L.nP d q)=0->σ (L.nP d p)=0
 . exact S.mul_core L hd p q h
 . have h1:σ (L.nP d q)=0:=W1b λh2=>h λh3=>absurd h3 h2
   have e:L.mQ d p q=L.mQ d q p:=by
    obtain⟨a1,b1⟩:=p
    obtain⟨a2,b2⟩:=q
    exact W3j (Laws.req L [a1,b1,a2,b2,d] (.add (.mul (.v 0) (.v 2)) (.mul (.mul (.v 1) (.v 3)) (.v 4))) (.add (.mul (.v 2) (.v 0)) (.mul (.mul (.v 3) (.v 1)) (.v 4))) (by decide +kernel)) (Laws.req L [a1,b1,a2,b2,d] (.add (.mul (.v 0) (.v 3)) (.mul (.v 1) (.v 2))) (.add (.mul (.v 2) (.v 1)) (.mul (.v 3) (.v 0))) (by decide +kernel))
   rw[e,S.mul_core L hd q p λ_=>h1,Int.mul_comm]
theorem Sgn.sneg(p:α×α): L.sx d σ (L.gQ p)=- L.sx d σ p:=by
 have e:L.nP d (L.gQ p)=L.nP d p:=by
  obtain⟨a,b⟩:=p
  exact(Laws.req L [a,b,d] (.add (.mul (.neg (.v 0)) (.neg (.v 0))) (.neg (.mul (.mul (.neg (.v 1)) (.neg (.v 1))) (.v 2)))) (.add (.mul (.v 0) (.v 0)) (.neg (.mul (.mul (.v 1) (.v 1)) (.v 2)))) (by decide +kernel))
 rw[S.sx_eq L hd,S.sx_eq L hd,e]
 show (if σ (L.nP d p)=1 then σ (neg p.1) else if σ (L.nP d p)=-1 then σ (neg p.2) else Int.sign (σ (neg p.1)+σ (neg p.2)))=_
 rw[S.sn,S.sn]
 split
 . rfl
 . split
   . rfl
   . rw[<-Int.neg_add,Int.sign_neg]
def Laws.Rt{α:Type}{add mul:α->α->α}{neg:α->α}{zero one:α}(L:Laws add mul neg zero one)(d:α)(σ:α->Int)(p q:α): Prop:=σ p=1/\σ q=1/\σ (add (mul p p) (neg (mul d (mul q q))))=0
theorem Sgn.sx_rt{p q:α}(h:L.Rt d σ p q)(x:α×α): L.sx d σ x=σ (add (mul x.1 q) (mul x.2 p)):=by
 obtain⟨hp,hq,h0⟩:=h
 obtain⟨a,b⟩:=x
 show L.sx d σ (a,b)=σ (add (mul a q) (mul b p))
 have e1:∀n,n=L.nP d (a,b)->mul n (mul q q)=add (mul (mul b b) (add (mul p p) (neg (mul d (mul q q))))) (mul (add (mul a q) (mul b p)) (add (mul a q) (neg (mul b p)))):=by
  rintro _ rfl
  exact(Laws.req L [a,b,p,q,d] (.mul (.add (.mul (.v 0) (.v 0)) (.neg (.mul (.mul (.v 1) (.v 1)) (.v 4)))) (.mul (.v 3) (.v 3))) (.add (.mul (.mul (.v 1) (.v 1)) (.add (.mul (.v 2) (.v 2)) (.neg (.mul (.v 4) (.mul (.v 3) (.v 3)))))) (.mul (.add (.mul (.v 0) (.v 3)) (.mul (.v 1) (.v 2))) (.add (.mul (.v 0) (.v 3)) (.neg (.mul (.v 1) (.v 2)))))) (by decide +kernel))
 have e1:=e1 _ rfl
 have hN:σ (L.nP d (a,b))=σ (add (mul a q) (mul b p))*σ (add (mul a q) (neg (mul b p))):=by
  have e4:=congrArg σ e1
  rw[S.add0 L (a:=mul (mul b b) (add (mul p p) (neg (mul d (mul q q))))) (by rw[S.sm,h0,Int.mul_zero]),S.sm,S.sm,hq,W5m,W5m,S.sm] at e4
  exact e4
 have e2:add (mul a q) (mul a q)=add (add (mul a q) (mul b p)) (add (mul a q) (neg (mul b p))):=(Laws.req L [a,b,p,q] (.add (.mul (.v 0) (.v 3)) (.mul (.v 0) (.v 3))) (.add (.add (.mul (.v 0) (.v 3)) (.mul (.v 1) (.v 2))) (.add (.mul (.v 0) (.v 3)) (.neg (.mul (.v 1) (.v 2))))) (by decide +kernel))
 have e3:add (mul b p) (mul b p)=add (add (mul a q) (mul b p)) (neg (add (mul a q) (neg (mul b p)))):=(Laws.req L [a,b,p,q] (.add (.mul (.v 1) (.v 2)) (.mul (.v 1) (.v 2))) (.add (.add (.mul (.v 0) (.v 3)) (.mul (.v 1) (.v 2))) (.neg (.add (.mul (.v 0) (.v 3)) (.neg (.mul (.v 1) (.v 2)))))) (by decide +kernel))
 have hX:σ a=σ (add (add (mul a q) (mul b p)) (add (mul a q) (neg (mul b p)))):=by
  rw[<-e2,S.same L rfl,S.sm,hq,W5m]
 have hY:σ b=σ (add (add (mul a q) (mul b p)) (neg (add (mul a q) (neg (mul b p))))):=by
  rw[<-e3,S.same L rfl,S.sm,hp,W5m]
 generalize add (mul a q) (mul b p)=A at *
 generalize add (mul a q) (neg (mul b p))=B at *
 rw[S.sx_eq L hd]
 show (if σ (L.nP d (a,b))=1 then σ a else if σ (L.nP d (a,b))=-1 then σ b else Int.sign (σ a+σ b))=σ A
 rw[hN]
 rcases S.tri A with h | h | h<;>rcases S.tri B with h' | h' | h'
 . rw[h,h',if_pos (by decide),hX,S.same L (by omega),h]
 . rw[h,h',if_neg (by decide),if_neg (by decide),hX,hY,S.add0' L h',S.add0' L (by rw[S.sn];omega),h];rfl
 . rw[h,h',if_neg (by decide),if_pos (by decide),hY,S.same L (by rw[S.sn];omega),h]
 . rw[h,h',if_neg (by decide),if_neg (by decide),hX,hY,S.add0 L h,S.add0 L h,S.sn,h'];rfl
 . rw[h,h',if_neg (by decide),if_neg (by decide),hX,hY,S.add0 L h,S.add0 L h,S.sn,h'];rfl
 . rw[h,h',if_neg (by decide),if_neg (by decide),hX,hY,S.add0 L h,S.add0 L h,S.sn,h'];rfl
 . rw[h,h',if_neg (by decide),if_pos (by decide),hY,S.same L (by rw[S.sn];omega),h]
 . rw[h,h',if_neg (by decide),if_neg (by decide),hX,hY,S.add0' L h',S.add0' L (by rw[S.sn];omega),h];rfl
 . rw[h,h',if_pos (by decide),hX,S.same L (by omega),h]
theorem Sgn.no_rt(hE:∀p q,¬L.Rt d σ p q){x:α×α}(h:σ (L.nP d x)=0): σ x.1=0/\σ x.2=0:=by
 obtain⟨a,b⟩:=x
 have h0:=(S.sxz L hd h).2
 have h0:σ a=0↔σ b=0:=h0
 have e:∀n,n=L.nP d (a,b)->add (mul a a) (neg (mul d (mul b b)))=n/\add (mul (neg a) (neg a)) (neg (mul d (mul b b)))=n/\add (mul a a) (neg (mul d (mul (neg b) (neg b))))=n/\add (mul (neg a) (neg a)) (neg (mul d (mul (neg b) (neg b))))=n:=by
  rintro _ rfl
  exact⟨(Laws.req L [a,b,d] (.add (.mul (.v 0) (.v 0)) (.neg (.mul (.v 2) (.mul (.v 1) (.v 1))))) (.add (.mul (.v 0) (.v 0)) (.neg (.mul (.mul (.v 1) (.v 1)) (.v 2)))) (by decide +kernel)),(Laws.req L [a,b,d] (.add (.mul (.neg (.v 0)) (.neg (.v 0))) (.neg (.mul (.v 2) (.mul (.v 1) (.v 1))))) (.add (.mul (.v 0) (.v 0)) (.neg (.mul (.mul (.v 1) (.v 1)) (.v 2)))) (by decide +kernel)),(Laws.req L [a,b,d] (.add (.mul (.v 0) (.v 0)) (.neg (.mul (.v 2) (.mul (.neg (.v 1)) (.neg (.v 1)))))) (.add (.mul (.v 0) (.v 0)) (.neg (.mul (.mul (.v 1) (.v 1)) (.v 2)))) (by decide +kernel)),(Laws.req L [a,b,d] (.add (.mul (.neg (.v 0)) (.neg (.v 0))) (.neg (.mul (.v 2) (.mul (.neg (.v 1)) (.neg (.v 1)))))) (.add (.mul (.v 0) (.v 0)) (.neg (.mul (.mul (.v 1) (.v 1)) (.v 2)))) (by decide +kernel))⟩
 obtain⟨e1,e2,e3,e4⟩:=e _ rfl
 show σ a=0/\σ b=0
 rcases S.tri a with h1 | h1 | h1
 . rcases S.tri b with h2 | h2 | h2
   . exact absurd ⟨h1,h2,by rw[e1];exact h⟩ (hE a b)
   . omega
   . exact absurd ⟨h1,by rw[S.sn];omega,by rw[e3];exact h⟩ (hE a (neg b))
 . exact⟨h1,h0.1 h1⟩
 . rcases S.tri b with h2 | h2 | h2
   . exact absurd ⟨by rw[S.sn];omega,h2,by rw[e2];exact h⟩ (hE (neg a) b)
   . omega
   . exact absurd ⟨by rw[S.sn];omega,by rw[S.sn];omega,by rw[e4];exact h⟩ (hE (neg a) (neg b))
theorem Sgn.sx_n(hE:∀p q,¬L.Rt d σ p q){n a b:α}(hn:σ n=1)(h:0<=L.sx d σ (a,b)): L.sx d σ (add a n,b)=1:=by
 have Sx:=@Sgn.sx1 _ _ _ _ _ _ d σ L S hd
 have Sm:=@Sgn.sxm _ _ _ _ _ _ d σ L S hd
 rcases S.tri (L.nP d (a,b)) with h1 | h1 | h1
 . obtain⟨k1,z1⟩:=Sx h1
   have k1:L.sx d σ (a,b)=σ a:=k1
   have z1:σ a≠0:=z1
   have ha:σ a=1:=by rcases S.tri a with h | h | h<;>omega
   have hN:σ (L.nP d (add a n,b))=1:=by
    have e:∀m,m=L.nP d (a,b)->L.nP d (add a n,b)=add m (mul n (add (add a a) n)):=by
     rintro _ rfl
     exact(Laws.req L [a,b,n,d] (.add (.mul (.add (.v 0) (.v 2)) (.add (.v 0) (.v 2))) (.neg (.mul (.mul (.v 1) (.v 1)) (.v 3)))) (.add (.add (.mul (.v 0) (.v 0)) (.neg (.mul (.mul (.v 1) (.v 1)) (.v 3)))) (.mul (.v 2) (.add (.add (.v 0) (.v 0)) (.v 2)))) (by decide +kernel))
    rw[e _ rfl]
    exact S.sp _ _ h1 (by rw[S.sm,hn,S.sp _ _ (S.sp _ _ ha (by omega)) (by omega)];decide)
   rw[(Sx hN).1]
   exact S.sp _ _ ha (by omega)
 . obtain⟨k1,k2⟩:=S.no_rt L hd hE h1
   have k1:σ a=0:=k1
   have k2:σ b=0:=k2
   have:σ (add a n)=1:=by rw[S.add0 L k1,hn]
   unfold Laws.sx
   rw[if_pos (.inl k2)];exact this
 . obtain⟨k1,z1⟩:=Sm h1
   have k1:L.sx d σ (a,b)=σ b:=k1
   have z1:σ b≠0:=z1
   have hb:σ b=1:=by rcases S.tri b with h | h | h<;>omega
   rcases S.tri (L.nP d (add a n,b)) with h2 | h2 | h2
   . obtain⟨k3,z3⟩:=Sx h2
     rw[k3]
     show σ (add a n)=1
     have z3:σ (add a n)≠0:=z3
     rcases S.tri (add a n) with h | h | h
     . exact h
     . omega
     . exfalso
       have e:∀m,m=L.nP d (add a n,b)->L.nP d (a,b)=add m (mul n (add (neg (add a n)) (add (neg (add a n)) n))):=by
        rintro _ rfl
        exact(Laws.req L [a,b,n,d] (.add (.mul (.v 0) (.v 0)) (.neg (.mul (.mul (.v 1) (.v 1)) (.v 3)))) (.add (.add (.mul (.add (.v 0) (.v 2)) (.add (.v 0) (.v 2))) (.neg (.mul (.mul (.v 1) (.v 1)) (.v 3)))) (.mul (.v 2) (.add (.neg (.add (.v 0) (.v 2))) (.add (.neg (.add (.v 0) (.v 2))) (.v 2))))) (by decide +kernel))
       have g1:σ (neg (add a n))=1:=by rw[S.sn];omega
       rw[e _ rfl,S.sp _ _ h2 (by rw[S.sm,hn,S.sp _ _ g1 (by rw[S.sp _ _ g1 (by omega)];decide)];decide)] at h1
       omega
   . have:=(S.no_rt L hd hE h2).2
     have:σ b=0:=this
     omega
   . rw[(Sm h2).1];exact hb
theorem Sgn.ext: Sgn L.aQ (L.mQ d) L.gQ (one,zero) (L.sx d σ):=by
 have tri:∀p,L.sx d σ p=1\/L.sx d σ p=0\/L.sx d σ p=-1:=by
  intro p
  rw[S.sx_eq L hd]
  split
  . exact S.tri _
  . split
    . exact S.tri _
    . rcases S.tri p.1 with h | h | h<;>rcases S.tri p.2 with h' | h' | h'<;>rw[h,h']<;>decide
 have low:∀a b,σ b=0->L.sx d σ (a,b)=σ a:=by
  intro a b h
  unfold Laws.sx
  rw[if_pos (.inl h)]
 by_cases hE:∃p q,L.Rt d σ p q
 . obtain⟨p,q,h⟩:=hE
   have hadd:∀x y:α×α,add (mul (L.aQ x y).1 q) (mul (L.aQ x y).2 p)=add (add (mul x.1 q) (mul x.2 p)) (add (mul y.1 q) (mul y.2 p)):=by
    rintro⟨a,b⟩ ⟨a2,b2⟩
    exact(Laws.req L [a,b,a2,b2,p,q] (.add (.mul (.add (.v 0) (.v 2)) (.v 5)) (.mul (.add (.v 1) (.v 3)) (.v 4))) (.add (.add (.mul (.v 0) (.v 5)) (.mul (.v 1) (.v 4))) (.add (.mul (.v 2) (.v 5)) (.mul (.v 3) (.v 4)))) (by decide +kernel))
   refine⟨tri,S.sneg L hd,S.smul L hd,λx y hx hy=>?_,λx y hx hy=>?_,by rw[low _ _ (S.s0 L),S.s1]⟩
   . rw[S.sx_rt L hd h] at hx hy |-
     rw[hadd];exact S.sa _ _ hx hy
   . rw[S.sx_rt L hd h] at hx hy |-
     rw[hadd];exact S.sp _ _ hx hy
 . have hE:∀p q,¬L.Rt d σ p q:=λp q h=>hE ⟨p,q,h⟩
   have pos:∀x y:α×α,L.sx d σ x=1->0<=L.sx d σ y->L.sx d σ (L.aQ x y)=1:=by
    intro x y hx hy
    have hN:σ (L.nP d x)≠0:=λh0=>by
     have h1:=(S.sxz L hd h0).1
     have h2:=S.no_rt L hd hE h0
     rw[h2.1,h2.2] at h1
     rw[h1] at hx
     exact absurd hx (by decide)
    have ex:L.mQ d x (x.1,neg x.2)=(L.nP d x,zero):=by
     obtain⟨a,b⟩:=x
     exact W3j (Laws.req L [a,b,d] (.add (.mul (.v 0) (.v 0)) (.mul (.mul (.v 1) (.neg (.v 1))) (.v 2))) (.add (.mul (.v 0) (.v 0)) (.neg (.mul (.mul (.v 1) (.v 1)) (.v 2)))) (by decide +kernel)) (Laws.req L [a,b] (.add (.mul (.v 0) (.neg (.v 1))) (.mul (.v 1) (.v 0))) .z (by decide +kernel))
    have ey:L.mQ d (L.aQ x y) (x.1,neg x.2)=(add (L.mQ d y (x.1,neg x.2)).1 (L.nP d x),(L.mQ d y (x.1,neg x.2)).2):=by
     obtain⟨a,b⟩:=x
     obtain⟨a2,b2⟩:=y
     exact W3j (Laws.req L [a,b,a2,b2,d] (.add (.mul (.add (.v 0) (.v 2)) (.v 0)) (.mul (.mul (.add (.v 1) (.v 3)) (.neg (.v 1))) (.v 4))) (.add (.add (.mul (.v 2) (.v 0)) (.mul (.mul (.v 3) (.neg (.v 1))) (.v 4))) (.add (.mul (.v 0) (.v 0)) (.neg (.mul (.mul (.v 1) (.v 1)) (.v 4))))) (by decide +kernel)) (Laws.req L [a,b,a2,b2,d] (.add (.mul (.add (.v 0) (.v 2)) (.neg (.v 1))) (.mul (.add (.v 1) (.v 3)) (.v 0))) (.add (.mul (.v 2) (.neg (.v 1))) (.mul (.v 3) (.v 0))) (by decide +kernel))
    have hc:L.sx d σ (x.1,neg x.2)=σ (L.nP d x):=by
     have:=S.smul L hd x (x.1,neg x.2)
     rw[ex,low _ _ (S.s0 L),hx,W5n] at this
     exact this.symm
    have hyc:=S.smul L hd y (x.1,neg x.2)
    have hxy:=S.smul L hd (L.aQ x y) (x.1,neg x.2)
    rw[hc] at hyc hxy
    rcases S.tri (L.nP d x) with h1 | h1 | h1
    . rw[h1,W5m] at hyc hxy
      rw[<-hxy,ey]
      exact S.sx_n L hd hE h1 (by rw[<-hyc] at hy;exact hy)
    . exact absurd h1 hN
    . rw[h1] at hyc hxy
      have hg:=S.sneg L hd (L.mQ d (L.aQ x y) (x.1,neg x.2))
      have eg:L.gQ (L.mQ d (L.aQ x y) (x.1,neg x.2))=(add (L.gQ (L.mQ d y (x.1,neg x.2))).1 (neg (L.nP d x)),(L.gQ (L.mQ d y (x.1,neg x.2))).2):=by
       rw[ey]
       exact W3j (L.nd _ _) rfl
      have h2:=S.sx_n L hd hE (n:=neg (L.nP d x)) (a:=(L.gQ (L.mQ d y (x.1,neg x.2))).1) (b:=(L.gQ (L.mQ d y (x.1,neg x.2))).2) (by rw[S.sn];omega) (by
       show 0<=L.sx d σ (L.gQ (L.mQ d y (x.1,neg x.2)))
       rw[S.sneg L hd,hyc];omega)
      rw[<-eg] at h2
      omega
   refine⟨tri,S.sneg L hd,S.smul L hd,λx y hx hy=>?_,pos,by rw[low _ _ (S.s0 L),S.s1]⟩
   rcases tri x with h | h | h
   . rw[pos x y h hy];decide
   . rcases tri y with h' | h' | h'
     . have e:L.aQ x y=L.aQ y x:=W3j (L.ac _ _) (L.ac _ _)
       rw[e,pos y x h' hx];decide
     . have zz:∀p,L.sx d σ p=0->σ p.1=0/\σ p.2=0:=by
        intro p hp
        rcases S.tri (L.nP d p) with g | g | g
        . have:=S.sx1 L hd g;omega
        . exact S.no_rt L hd hE g
        . have:=S.sxm L hd g;omega
       have z1:=zz x h
       have z2:=zz y h'
       have:L.sx d σ (L.aQ x y)=0:=by
        rw[show L.aQ x y=(add x.1 y.1,add x.2 y.2) from rfl,low _ _ (by rw[S.add0 L z1.2,z2.2]),S.add0 L z1.1,z2.1]
       omega
     . omega
   . omega
end
end
section
def Xi5(x:Rat): Int:=if 0<x then 1 else if x<0 then -1 else 0
theorem Xbb(x:Rat): (0<x/\Xi5 x=1)\/(x=0/\Xi5 x=0)\/(x<0/\Xi5 x=-1):=by
 unfold Xi5
 by_cases h:0<x
 . left;exact⟨h,if_pos h⟩
 . by_cases h2:x<0
   . right;right;exact⟨h2,by rw[if_neg h,if_pos h2]⟩
   . right;left;exact⟨by grind,by rw[if_neg h,if_neg h2]⟩
theorem Xb7{x:Rat}(h:0<x): Xi5 x=1:=if_pos h
theorem Xet{x:Rat}(h:x<0): Xi5 x=-1:=by unfold Xi5;rw[if_neg (by grind),if_pos h]
theorem Xid{x y:Rat}(h:x<0)(k:0<y): x*y<0:=by
 have:=W4s (show 0 < -x by grind) k
 grind
theorem Xoc{x y:Rat}(h:x<0)(k:y<0): 0<x*y:=by
 have:=W4s (show 0 < -x by grind) (show 0 < -y by grind)
 grind
theorem Yc3: Sgn (α:=Rat) (λx y=>x+y) (λx y=>x*y) (λx=>-x) 1 Xi5:=by
 refine⟨λa=>?_,λa=>?_,λa b=>?_,λa b ha hb=>?_,λa b ha hb=>?_,by decide⟩
 . rcases Xbb a with h | h | h<;>simp[h.2]
 . rcases Xbb a with h | h | h
   . rw[h.2,Xet (by grind)]
   . rw[h.1,Rat.neg_zero];rfl
   . rw[h.2,Xb7 (by grind)];rfl
 . rcases Xbb a with h | h | h<;>rcases Xbb b with k | k | k<;>rw[h.2,k.2]
   . exact Xb7 (W4s h.1 k.1)
   . rw[k.1,Rat.mul_zero];rfl
   . rw[Rat.mul_comm];exact Xet (Xid k.1 h.1)
   . rw[h.1,W4q];rfl
   . rw[h.1,W4q];rfl
   . rw[h.1,W4q];rfl
   . exact Xet (Xid h.1 k.1)
   . rw[k.1,Rat.mul_zero];rfl
   . exact Xb7 (Xoc h.1 k.1)
 . rcases Xbb a with h | h | h<;>rcases Xbb b with k | k | k<;>rw[h.2] at ha<;>rw[k.2] at hb<;>first | (exact absurd ha (by decide)) | (exact absurd hb (by decide)) | skip
   . rw[Xb7 (by grind)];decide
   . rw[Xb7 (by grind)];decide
   . rw[Xb7 (by grind)];decide
   . rw[h.1,k.1,W7c];decide
 . rcases Xbb a with h | h | h<;>rcases Xbb b with k | k | k<;>rw[h.2] at ha<;>rw[k.2] at hb<;>first | (exact absurd ha (by decide)) | (exact absurd hb (by decide)) | exact Xb7 (by grind)
def sgn: (k:Nat)->Tw k->El k->Int
 | 0=>λ_ (x:Rat)=>Xi5 x
 | k+1=>λt a=>(Xaz k t.1).sx t.2 (sgn k t.1) a
def Xb4: (k:Nat)->Tw k->Prop
 | 0=>λ_=>True
 | k+1=>λt=>Xb4 k t.1/\sgn k t.1 t.2=1
theorem Xau: ∀ {k:Nat} {t:Tw k},Xb4 k t->Sgn (add k) (mul k t) (neg k) (rat k 1) (sgn k t)
 | 0,_,_=>Yc3
 | k+1,t,h=>(Xau h.1).ext (Xaz k t.1) h.2
section
variable{k:Nat}{t:Tw k}
theorem Xl3{t:Tw (k+1)}(a:El k)(h:Xb4 k t.1): sgn (k+1) t (up k a)=sgn k t.1 a:=by
 have hz:=(Xau h).s0 (Xaz k t.1)
 show (Xaz k t.1).sx t.2 (sgn k t.1) (a,zero k)=_
 unfold Laws.sx
 rw[if_pos (.inl hz)]
theorem Xec{x:Rat}(h:Xb4 k t): sgn k t (rat k x)=Xi5 x:=by
 induction k with
 | zero=>rfl
 | succ k ih=>rw[show rat (k+1) x=up k (rat k x) from rfl,Xl3 _ h.1,ih h.1]
theorem Xca: ∀ {k:Nat} (t:Tw k) (a:El k),sgn k t a=1\/sgn k t a=0\/sgn k t a=-1
 | 0,_,a=>by
  rcases Xbb a with h | h | h
  . exact .inl h.2
  . exact .inr (.inl h.2)
  . exact .inr (.inr h.2)
 | k+1,t,a=>by
  show (Xaz k t.1).sx t.2 (sgn k t.1) a=1\/(Xaz k t.1).sx t.2 (sgn k t.1) a=0\/(Xaz k t.1).sx t.2 (sgn k t.1) a=-1
  unfold Laws.sx
  split
  . exact Xca _ _
  . split
    . exact Xca _ _
    . rcases Xca t.1 a.1 with h | h | h<;>rcases Xca t.1 ((Xaz k t.1).nP t.2 a) with g | g | g<;>rw[h,g]<;>decide
def le(k:Nat)(t:Tw k)(a b:El k): Prop:=0<=sgn k t (add k b (neg k a))
end
end
section
section
variable{α:Type}{add mul:α->α->α}{neg:α->α}{zero one:α}{σ:α->Int}(L:Laws add mul neg zero one)(S:Sgn add mul neg one σ)
include L S
theorem Sgn.le_rf(a:α): 0<=σ (add a (neg a)):=by rw[L.an,S.s0 L];exact W7t _
theorem Sgn.le_tr{a b c:α}(h:0<=σ (add b (neg a)))(k:0<=σ (add c (neg b))): 0<=σ (add c (neg a)):=by
 have e:add c (neg a)=add (add c (neg b)) (add b (neg a)):=(Laws.req L [a,b,c] (.add (.v 2) (.neg (.v 0))) (.add (.add (.v 2) (.neg (.v 1))) (.add (.v 1) (.neg (.v 0)))) (by decide +kernel))
 rw[e];exact S.sa _ _ k h
theorem Sgn.le_ad{a b c d:α}(h:0<=σ (add b (neg a)))(k:0<=σ (add d (neg c))): 0<=σ (add (add b d) (neg (add a c))):=by
 have e:add (add b d) (neg (add a c))=add (add b (neg a)) (add d (neg c)):=(Laws.req L [a,b,c,d] (.add (.add (.v 1) (.v 3)) (.neg (.add (.v 0) (.v 2)))) (.add (.add (.v 1) (.neg (.v 0))) (.add (.v 3) (.neg (.v 2)))) (by decide +kernel))
 rw[e];exact S.sa _ _ h k
theorem Sgn.le_ml{a b c:α}(h:0<=σ (add b (neg a)))(hc:0<=σ c): 0<=σ (add (mul c b) (neg (mul c a))):=by
 have e:add (mul c b) (neg (mul c a))=mul c (add b (neg a)):=(Laws.req L [a,b,c] (.add (.mul (.v 2) (.v 1)) (.neg (.mul (.v 2) (.v 0)))) (.mul (.v 2) (.add (.v 1) (.neg (.v 0)))) (by decide +kernel))
 rw[e,S.sm];exact Int.mul_nonneg hc h
theorem Sgn.le_mn{a b c:α}(h:0<=σ (add b (neg a)))(hc:σ c<=0): 0<=σ (add (mul c a) (neg (mul c b))):=by
 have e:add (mul c a) (neg (mul c b))=mul (neg c) (add b (neg a)):=(Laws.req L [a,b,c] (.add (.mul (.v 2) (.v 0)) (.neg (.mul (.v 2) (.v 1)))) (.mul (.neg (.v 2)) (.add (.v 1) (.neg (.v 0)))) (by decide +kernel))
 rw[e,S.sm,S.sn];exact Int.mul_nonneg (by omega) h
theorem Sgn.le_sq{x y:α}(hx:0<=σ x)(hy:0<=σ y)(h:0<=σ (add (mul y y) (neg (mul x x)))): 0<=σ (add y (neg x)):=by
 have e:add (mul y y) (neg (mul x x))=mul (add y (neg x)) (add y x):=(Laws.req L [x,y] (.add (.mul (.v 1) (.v 1)) (.neg (.mul (.v 0) (.v 0)))) (.mul (.add (.v 1) (.neg (.v 0))) (.add (.v 1) (.v 0))) (by decide +kernel))
 rw[e,S.sm] at h
 rcases S.tri (add y (neg x)) with h1 | h1 | h1
 . omega
 . omega
 . have h2:σ (add x (neg y))=1:=by
    have e2:add x (neg y)=neg (add y (neg x)):=(Laws.req L [x,y] (.add (.v 0) (.neg (.v 1))) (.neg (.add (.v 1) (.neg (.v 0)))) (by decide +kernel))
    rw[e2,S.sn,h1];rfl
   have h3:=S.sp _ (add y y) h2 (S.sa _ _ hy hy)
   have e3:add (add x (neg y)) (add y y)=add y x:=(Laws.req L [x,y] (.add (.add (.v 0) (.neg (.v 1))) (.add (.v 1) (.v 1))) (.add (.v 1) (.v 0)) (by decide +kernel))
   rw[e3] at h3
   rw[h1,h3] at h
   exact absurd h (by decide)
end
def tw0: (k:Nat)->Tw k
 | 0=>()
 | k+1=>(tw0 k,zero k)
theorem Xfe: ∀(k:Nat) (x y:Rat),rat k (x+y)=add k (rat k x) (rat k y)
 | 0,_,_=>rfl
 | k+1,x,y=>by
  show (rat k (x+y),zero k)=(add k (rat k x) (rat k y),add k (zero k) (zero k))
  rw[Xfe k,(Xaz k (tw0 k)).az]
theorem Xn0: ∀(k:Nat) (x:Rat),rat k (-x)=neg k (rat k x)
 | 0,_=>rfl
 | k+1,x=>by
  show (rat k (-x),zero k)=(neg k (rat k x),neg k (zero k))
  rw[Xn0 k,(Xaz k (tw0 k)).nz]
theorem Xco: ∀(k:Nat) (t:Tw k) (x y:Rat),rat k (x*y)=mul k t (rat k x) (rat k y)
 | 0,_,_,_=>rfl
 | k+1,t,x,y=>by
  show up k (rat k (x*y))=mul (k+1) t (up k (rat k x)) (up k (rat k y))
  rw[Xic,Xco k t.1]
section
variable{k:Nat}{t:Tw k}
theorem Xbk(h:Xb4 k t){x y:Rat}: le k t (rat k x) (rat k y)↔x<=y:=by
 unfold le
 rw[<-Xn0,<-Xfe,Xec h]
 rcases Xbb (y+-x) with ⟨h1,e⟩ | ⟨h1,e⟩ | ⟨h1,e⟩<;>rw[e]
 . exact⟨λ_=>by grind,λ_=>by decide⟩
 . exact⟨λ_=>by grind,λ_=>by decide⟩
 . exact⟨λh=>absurd h (by decide),λh=>absurd h (by grind)⟩
theorem le_tr(h:Xb4 k t){a b c:El k}(h1:le k t a b)(h2:le k t b c): le k t a c:=(Xau h).le_tr (Xaz k t) h1 h2
theorem Xib(h:Xb4 k t){a:El k}: le k t (rat k 0) a↔0<=sgn k t a:=by
 unfold le
 rw[Xdx,(Xaz k t).nz,(Xaz k t).az]
def inI(k:Nat)(t:Tw k)(a:El k)(x y:Rat): Prop:=le k t (rat k x) a/\le k t a (rat k y)
theorem Xqs(h:Xb4 k t){a:El k}{x y x' y':Rat}(i:inI k t a x y)(hx:x'<=x)(hy:y<=y'): inI k t a x' y' :=
 ⟨le_tr h ((Xbk h).2 hx) i.1,le_tr h i.2 ((Xbk h).2 hy)⟩
theorem Ybx(h:Xb4 k t){a:El k}{x y:Rat}(i:inI k t a x y): x<=y:=(Xbk h).1 (le_tr h i.1 i.2)
theorem Xvp(h:Xb4 k t){a b:El k}{x y x' y':Rat}(i:inI k t a x y)(j:inI k t b x' y'): inI k t (add k a b) (x+x') (y+y'):=by
 refine⟨?_,?_⟩
 . rw[Xfe];exact(Xau h).le_ad (Xaz k t) i.1 j.1
 . rw[Xfe];exact(Xau h).le_ad (Xaz k t) i.2 j.2
theorem Xvo(h:Xb4 k t){v s:El k}{a b c d m M:Rat}(i:inI k t v a b)(j:inI k t s c d)(hc:0<=c)(h1:m<=a*c)(h2:m<=a*d)(h3:b*c<=M)(h4:b*d<=M): inI k t (mul k t v s) m M:=by
 have S:=Xau h
 have L:=Xaz k t
 have hs:0<=sgn k t s:=(Xib h).1 (le_tr h ((Xbk h).2 hc) j.1)
 have hsr:∀x:Rat,sgn k t (rat k x)=Xi5 x:=λx=>Xec h
 refine⟨?_,?_⟩
 . have e1:le k t (mul k t (rat k a) s) (mul k t v s):=by
    rw[L.mc _ s,L.mc _ s];exact S.le_ml L i.1 hs
   refine le_tr h ?_ e1
   by_cases ha:0<=a
   . refine le_tr h ((Xbk h).2 h1) ?_
     rw[Xco k t]
     exact S.le_ml L j.1 (by rw[hsr];rcases Xbb a with ⟨g,e⟩ | ⟨g,e⟩ | ⟨g,e⟩<;>rw[e]<;>first | decide | grind)
   . refine le_tr h ((Xbk h).2 h2) ?_
     rw[Xco k t]
     exact S.le_mn L j.2 (by rw[hsr,Xet (by grind)];decide)
 . have e1:le k t (mul k t v s) (mul k t (rat k b) s):=by
    rw[L.mc _ s,L.mc _ s];exact S.le_ml L i.2 hs
   refine le_tr h e1 ?_
   by_cases hb:0<=b
   . refine le_tr h ?_ ((Xbk h).2 h4)
     rw[Xco k t]
     exact S.le_ml L j.2 (by rw[hsr];rcases Xbb b with ⟨g,e⟩ | ⟨g,e⟩ | ⟨g,e⟩<;>rw[e]<;>first | decide | grind)
   . refine le_tr h ?_ ((Xbk h).2 h3)
     rw[Xco k t]
     exact S.le_mn L j.1 (by rw[hsr,Xet (by grind)];decide)
end
section
variable{k:Nat}{t:Tw (k+1)}
theorem Xml(h:Xb4 k t.1){a:El k}{x y:Rat}(i:inI k t.1 a x y): inI (k+1) t (up k a) x y:=by
 have e:∀a b:El k,add (k+1) (up k b) (neg (k+1) (up k a))=up k (add k b (neg k a)):=by
  intro a b
  show (add k b (neg k a),add k (zero k) (neg k (zero k)))=(add k b (neg k a),zero k)
  rw[(Xaz k t.1).an]
 refine⟨?_,?_⟩
 . show 0<=sgn (k+1) t (add (k+1) (up k a) (neg (k+1) (up k (rat k x))))
   rw[e,Xl3 _ h];exact i.1
 . show 0<=sgn (k+1) t (add (k+1) (up k (rat k y)) (neg (k+1) (up k a)))
   rw[e,Xl3 _ h];exact i.2
def rt1(k:Nat): El (k+1):=(zero k,rat k 1)
theorem Xji: mul (k+1) t (rt1 k) (rt1 k)=up k t.2:=by
 have L:=Xaz k t.1
 simp only[mul,up,rt1,L.mz,L.zm,L.az,L.za,L.mo,L.om];rfl
theorem Xnv(h:Xb4 k t.1): sgn (k+1) t (rt1 k)=1:=by
 have S:=Xau h
 have h1:sgn k t.1 (rat k 1)=1:=S.s1
 have h0:sgn k t.1 (zero k)=0:=S.s0 (Xaz k t.1)
 show (Xaz k t.1).sx t.2 (sgn k t.1) (zero k,rat k 1)=1
 unfold Laws.sx
 rw[if_neg (by rw[h1,h0];decide),if_pos h0,h1]
theorem Xq2(a:El (k+1)): a=add (k+1) (up k a.1) (mul (k+1) t (up k a.2) (rt1 k)):=by
 have L:=Xaz k t.1
 obtain⟨a,b⟩:=a
 simp only[add,mul,up,rt1,L.mz,L.zm,L.az,L.za,L.mo,L.om];rfl
theorem Xvn(h:Xb4 (k+1) t){r1 r2 c d:Rat}(i:inI k t.1 t.2 r1 r2)(hc:0<=c)(hd:0<=d)(h1:c*c<=r1\/c=0)(h2:r2<=d*d): inI (k+1) t (rt1 k) c d:=by
 have S:=Xau h
 have L:=Xaz (k+1) t
 have hr:=Xnv (t:=t) h.1
 have iu:=Xml h.1 i
 have hsr:∀x:Rat,0<=x->0<=sgn (k+1) t (rat (k+1) x):=λx hx=>by
  rw[Xec h];rcases Xbb x with ⟨g,e⟩ | ⟨g,e⟩ | ⟨g,e⟩<;>rw[e]<;>first | decide | grind
 refine⟨?_,?_⟩
 . rcases h1 with h1 | rfl
   . refine S.le_sq L (hsr c hc) (by omega) ?_
     rw[<-Xco,Xji]
     exact le_tr h ((Xbk h).2 h1) iu.1
   . exact(Xib h).2 (by omega)
 . refine S.le_sq L (by omega) (hsr d hd) ?_
   rw[<-Xco,Xji]
   exact le_tr h iu.2 ((Xbk h).2 h2)
end
end
section
section
variable{k:Nat}{w:Tw k}{x:El k}
def tsn{k:Nat}(w:Tw k)(y:El k): Tw (k+1):=(w,y)
end
end
section
def Xcp(k:Nat)(t:Tw k)(a:El k): Prop:=∃w,mul k t w w=a
def red: (k:Nat)->Tw k->Prop
 | 0=>λ_=>True
 | k+1=>λt=>red k t.1/\sgn k t.1 t.2=1/\¬Xcp k t.1 t.2
theorem Xad: ∀ {k:Nat} {t:Tw k},red k t->Xb4 k t
 | 0,_,_=>trivial
 | k+1,t,h=>⟨Xad h.1,h.2.1⟩
section
variable{α:Type}{add mul:α->α->α}{neg:α->α}{zero one:α}(L:Laws add mul neg zero one)
include L
theorem Laws.sub0{a b:α}(h:add a (neg b)=zero): a=b:=by
 have e:a=add (add a (neg b)) b:=(Laws.req L [a,b] (.v 0) (.add (.add (.v 0) (.neg (.v 1))) (.v 1)) (by decide +kernel))
 rw[e,h,L.za]
theorem Laws.sb{a b:α}(h:a=b): add a (neg b)=zero:=by rw[h,L.an]
theorem Laws.hi{h i m r u v x:α}(hh:add h h=one)(hx:mul x x=mul h (add u m))(hm:mul m m=add (mul u u) (neg (mul (mul v v) r)))(hi:mul i (add x x)=one):
 add (mul x x) (mul (mul (mul v i) (mul v i)) r)=u/\add (mul x (mul v i)) (mul (mul v i) x)=v:=by
 have e1:mul (mul v v) r=mul (add u (neg m)) (add u m):=by
  have:mul (mul v v) r=add (mul u u) (neg (mul m m)):=by
   rw[hm];exact(Laws.req L [u,v,r] (.mul (.mul (.v 1) (.v 1)) (.v 2)) (.add (.mul (.v 0) (.v 0)) (.neg (.add (.mul (.v 0) (.v 0)) (.neg (.mul (.mul (.v 1) (.v 1)) (.v 2)))))) (by decide +kernel))
  rw[this];exact(Laws.req L [u,m] (.add (.mul (.v 0) (.v 0)) (.neg (.mul (.v 1) (.v 1)))) (.mul (.add (.v 0) (.neg (.v 1))) (.add (.v 0) (.v 1))) (by decide +kernel))
 have e2:add u m=add (mul x x) (mul x x):=by
  rw[hx,<-L.dm,hh,L.om]
 have e3:mul (mul i i) (add (mul x x) (mul x x))=h:=by
  have:mul (mul i i) (add (mul x x) (mul x x))=mul h (mul (mul i (add x x)) (mul i (add x x))):=by
   have e4:mul h (mul (mul i (add x x)) (mul i (add x x)))=mul (add h h) (mul (mul i i) (add (mul x x) (mul x x))):=(Laws.req L [h,i,x] (.mul (.v 0) (.mul (.mul (.v 1) (.add (.v 2) (.v 2))) (.mul (.v 1) (.add (.v 2) (.v 2))))) (.mul (.add (.v 0) (.v 0)) (.mul (.mul (.v 1) (.v 1)) (.add (.mul (.v 2) (.v 2)) (.mul (.v 2) (.v 2))))) (by decide +kernel))
   rw[e4,hh,L.om]
  rw[this,hi,L.mo,L.mo]
 constructor
 . have e5:mul (mul (mul v i) (mul v i)) r=mul (add u (neg m)) h:=by
    have:mul (mul (mul v i) (mul v i)) r=mul (mul i i) (mul (mul v v) r):=(Laws.req L [v,i,r] (.mul (.mul (.mul (.v 0) (.v 1)) (.mul (.v 0) (.v 1))) (.v 2)) (.mul (.mul (.v 1) (.v 1)) (.mul (.mul (.v 0) (.v 0)) (.v 2))) (by decide +kernel))
    rw[this,e1]
    have:mul (mul i i) (mul (add u (neg m)) (add u m))=mul (add u (neg m)) (mul (mul i i) (add u m)):=(Laws.req L [u,m,i] (.mul (.mul (.v 2) (.v 2)) (.mul (.add (.v 0) (.neg (.v 1))) (.add (.v 0) (.v 1)))) (.mul (.add (.v 0) (.neg (.v 1))) (.mul (.mul (.v 2) (.v 2)) (.add (.v 0) (.v 1)))) (by decide +kernel))
    rw[this,e2,e3]
   rw[e5,hx]
   have:add (mul h (add u m)) (mul (add u (neg m)) h)=mul (add h h) u:=(Laws.req L [h,u,m] (.add (.mul (.v 0) (.add (.v 1) (.v 2))) (.mul (.add (.v 1) (.neg (.v 2))) (.v 0))) (.mul (.add (.v 0) (.v 0)) (.v 1)) (by decide +kernel))
   rw[this,hh,L.om]
 . have:add (mul x (mul v i)) (mul (mul v i) x)=mul v (mul i (add x x)):=(Laws.req L [x,v,i] (.add (.mul (.v 0) (.mul (.v 1) (.v 2))) (.mul (.mul (.v 1) (.v 2)) (.v 0))) (.mul (.v 1) (.mul (.v 2) (.add (.v 0) (.v 0)))) (by decide +kernel))
   rw[this,hi,L.mo]
end
section
variable{k:Nat}{t:Tw k}
theorem Xpv(h:Xb4 k t){a b:El k}(e:mul k t a b=zero k): sgn k t a=0\/sgn k t b=0:=by
 have:=(Xau h).sm a b
 rw[e,(Xau h).s0 (Xaz k t)] at this
 exact W7o.1 this.symm
theorem Xcn: ∀ {k:Nat} {t:Tw k},red k t->(∀a,sgn k t a=0->a=zero k)/\(∀a,a≠zero k->∃b,inv k t a=some b)
 | 0,_,_=>by
  refine⟨λa h=>?_,λa h=>?_⟩
  . rcases Xbb a with ⟨h1,e⟩ | ⟨h1,e⟩ | ⟨h1,e⟩
    . exact absurd (show Xi5 a=0 from h) (by rw[e];decide)
    . exact h1
    . exact absurd (show Xi5 a=0 from h) (by rw[e];decide)
  . have h2:∀x:Rat,¬x=0->∃b,(if x=0 then none else some (1/x))=some b:=λx h=>⟨1/x,if_neg h⟩
    exact h2 a h
 | k+1,t,h=>by
  obtain⟨f1,f2⟩:=Xcn h.1
  have R:=Xad h.1
  have L:=Xaz k t.1
  have S:=Xau R
  have key:∀x y:El k,norm k t (x,y)=zero k->x=zero k/\y=zero k:=by
   intro x y hn
   have hn:add k (mul k t.1 x x) (neg k (mul k t.1 (mul k t.1 y y) t.2))=zero k:=hn
   by_cases hy:y=zero k
   . subst hy
     rw[L.mz,L.zm,L.nz,L.az] at hn
     refine⟨f1 x ?_,rfl⟩
     rcases Xpv R hn with e | e<;>exact e
   . exfalso
     obtain⟨b,hb⟩:=f2 y hy
     have hb:=Xb9 hb
     refine h.2.2 ⟨mul k t.1 x b,?_⟩
     have e:=L.sub0 hn
     have e1:mul k t.1 (mul k t.1 x b) (mul k t.1 x b)=mul k t.1 (mul k t.1 b b) (mul k t.1 x x):=(Laws.req L [x,b] (.mul (.mul (.v 0) (.v 1)) (.mul (.v 0) (.v 1))) (.mul (.mul (.v 1) (.v 1)) (.mul (.v 0) (.v 0))) (by decide +kernel))
     have e2:mul k t.1 (mul k t.1 b b) (mul k t.1 (mul k t.1 y y) t.2)=mul k t.1 (mul k t.1 (mul k t.1 b y) (mul k t.1 b y)) t.2:=(Laws.req L [b,y,t.2] (.mul (.mul (.v 0) (.v 0)) (.mul (.mul (.v 1) (.v 1)) (.v 2))) (.mul (.mul (.mul (.v 0) (.v 1)) (.mul (.v 0) (.v 1))) (.v 2)) (by decide +kernel))
     rw[e1,e,e2,hb,L.mo,L.om]
  refine⟨λa ha=>?_,λa ha=>?_⟩
  . obtain⟨x,y⟩:=a
    have ha:L.sx t.2 (sgn k t.1) (x,y)=0:=ha
    have hz:x=zero k/\y=zero k:=by
     unfold Laws.sx at ha
     split at ha
     . rename_i h1
       have h1:sgn k t.1 y=0\/sgn k t.1 x=sgn k t.1 y:=h1
       have ha:sgn k t.1 x=0:=ha
       exact⟨f1 _ ha,f1 _ (by omega)⟩
     . rename_i h1
       have h1:¬(sgn k t.1 y=0\/sgn k t.1 x=sgn k t.1 y):=h1
       split at ha
       . have ha:sgn k t.1 y=0:=ha
         omega
       . rename_i h2
         have h2:¬sgn k t.1 x=0:=h2
         rcases W7o.1 ha with e | e
         . exact absurd e h2
         . exact key x y (f1 _ e)
    rw[hz.1,hz.2];rfl
  . have hn:norm k t a≠zero k:=λe=>ha (by
     obtain⟨x,y⟩:=a
     obtain⟨e1,e2⟩:=key x y e
     rw[e1,e2];rfl)
    obtain⟨b,hb⟩:=f2 _ hn
    refine⟨(mul k t.1 a.1 b,neg k (mul k t.1 a.2 b)),?_⟩
    show (match inv k t.1 (norm k t a) with | none=>none | some n=>some (mul k t.1 a.1 n,neg k (mul k t.1 a.2 n)))=_
    rw[hb];rfl
theorem Xbh(h:red k t){a:El k}: sgn k t a=0↔a=zero k :=
 ⟨(Xcn h).1 a,λe=>by rw[e];exact(Xau (Xad h)).s0 (Xaz k t)⟩
theorem Xhj(h:red k t){a b:El k}(e:mul k t a b=zero k): a=zero k\/b=zero k :=
 (Xpv (Xad h) e).imp (Xbh h).1 (Xbh h).1
theorem Xte(h:red k t){a b:El k}(e:mul k t a a=mul k t b b): a=b\/a=neg k b:=by
 have L:=Xaz k t
 have e1:mul k t (add k a (neg k b)) (add k a b)=add k (mul k t a a) (neg k (mul k t b b)):=(Laws.req L [a,b] (.mul (.add (.v 0) (.neg (.v 1))) (.add (.v 0) (.v 1))) (.add (.mul (.v 0) (.v 0)) (.neg (.mul (.v 1) (.v 1)))) (by decide +kernel))
 rw[L.sb e] at e1
 rcases Xhj h e1 with e2 | e2
 . exact .inl (L.sub0 e2)
 . right
   rw[L.ac] at e2
   exact L.nu e2
theorem Xjg(h:red k t){a b:El k}(e:mul k t a a=mul k t b b)(ha:0<=sgn k t a)(hb:0<=sgn k t b): a=b:=by
 rcases Xte h e with e1 | e1
 . exact e1
 . rw[e1,(Xau (Xad h)).sn] at ha
   have hb0:b=zero k:=(Xbh h).1 (by omega)
   rw[e1,hb0,(Xaz k t).nz]
theorem Yli(h:Xb4 k t){a:El k}(e:Xcp k t a): 0<=sgn k t a:=by
 obtain⟨w,rfl⟩:=e
 rw[(Xau h).sm]
 exact(Xeb (Xca t w)).1
theorem Yo6(h:red k t){a:El k}(e:add k a a=zero k): a=zero k:=by
 rw[<-Xbh h] at e |-
 rwa[(Xau (Xad h)).same (Xaz k t) rfl] at e
theorem Xgb: add k (rat k (1/2)) (rat k (1/2))=rat k 1:=by
 rw[<-Xfe];congr 1;grind
end
section
variable{k:Nat}{t:Tw (k+1)}
theorem Ygp{w u:El k}(e:mul k t.1 w w=u): mul (k+1) t (up k w) (up k w)=up k u:=by rw[Xic,e]
theorem Xtg{w u i:El k}(hi:mul k t.1 i t.2=rat k 1)(e:mul k t.1 w w=mul k t.1 u i): mul (k+1) t (zero k,w) (zero k,w)=up k u:=by
 have L:=Xaz k t.1
 have hi:=hi
 refine W3j ?_ ?_
 . show add k (mul k t.1 (zero k) (zero k)) (mul k t.1 (mul k t.1 w w) t.2)=u
   rw[e,L.mz,L.za,L.ma,hi,L.mo]
 . show add k (mul k t.1 (zero k) w) (mul k t.1 w (zero k))=zero k
   rw[L.mz,L.zm,L.az]
theorem Xlz(h:red k t.1){u i:El k}(hi:mul k t.1 i t.2=rat k 1)(h1:¬Xcp k t.1 u)(h2:¬Xcp k t.1 (mul k t.1 u i)): ¬Xcp (k+1) t (up k u):=by
 rintro⟨⟨p,q⟩,e⟩
 have L:=Xaz k t.1
 have e1:add k (mul k t.1 p p) (mul k t.1 (mul k t.1 q q) t.2)=u:=congrArg Prod.fst e
 have e2:add k (mul k t.1 p q) (mul k t.1 q p)=zero k:=congrArg Prod.snd e
 rw[L.mc q p] at e2
 rcases Xhj h (Yo6 h e2) with e3 | e3
 . refine h2 ⟨q,?_⟩
   rw[<-e1,e3,L.mz,L.za]
   have:mul k t.1 (mul k t.1 (mul k t.1 q q) t.2) i=mul k t.1 (mul k t.1 q q) (mul k t.1 i t.2):=(Laws.req L [q,t.2,i] (.mul (.mul (.mul (.v 0) (.v 0)) (.v 1)) (.v 2)) (.mul (.mul (.v 0) (.v 0)) (.mul (.v 2) (.v 1))) (by decide +kernel))
   rw[this,hi,L.mo]
 . exact h1 ⟨p,by rw[<-e1,e3,L.mz,L.zm,L.az]⟩
theorem Ygq{u v m w i:El k}(hm:mul k t.1 m m=norm k t (u,v))(hw:mul k t.1 w w=mul k t.1 (rat k (1/2)) (add k u m))(hi:mul k t.1 i (add k w w)=rat k 1):
 mul (k+1) t (w,mul k t.1 v i) (w,mul k t.1 v i)=(u,v):=by
 obtain⟨e1,e2⟩:=(Xaz k t.1).hi Xgb hw hm hi
 exact W3j e1 e2
theorem Xtf{a:El (k+1)}(h:Xcp (k+1) t a): Xcp k t.1 (norm k t a):=by
 obtain⟨w,rfl⟩:=h
 exact⟨norm k t w,by rw[Xqi]⟩
theorem Xpo(h:red k t.1){u v m:El k}(hv:v≠zero k)(hm:mul k t.1 m m=norm k t (u,v))(hs:Xcp (k+1) t (u,v)):
 ∃p,p≠zero k/\(mul k t.1 p p=mul k t.1 (rat k (1/2)) (add k u m)\/mul k t.1 p p=mul k t.1 (rat k (1/2)) (add k u (neg k m))):=by
 obtain⟨⟨p,q⟩,e⟩:=hs
 have L:=Xaz k t.1
 have e1:add k (mul k t.1 p p) (mul k t.1 (mul k t.1 q q) t.2)=u:=congrArg Prod.fst e
 have e2:add k (mul k t.1 p q) (mul k t.1 q p)=v:=congrArg Prod.snd e
 have hh:add k (rat k (1/2)) (rat k (1/2))=rat k 1:=Xgb
 refine⟨p,λe0=>hv (by rw[<-e2,e0,L.mz,L.zm,L.az]),?_⟩
 have key:mul k t.1 p p=mul k t.1 (rat k (1/2)) (add k u (norm k t (p,q))):=by
  rw[<-e1]
  show _=mul k t.1 (rat k (1/2)) (add k _ (add k (mul k t.1 p p) (neg k (mul k t.1 (mul k t.1 q q) t.2))))
  generalize rat k (1/2)=c at hh |-
  have e4:mul k t.1 c (add k (add k (mul k t.1 p p) (mul k t.1 (mul k t.1 q q) t.2)) (add k (mul k t.1 p p) (neg k (mul k t.1 (mul k t.1 q q) t.2))))=mul k t.1 (add k c c) (mul k t.1 p p):=(Laws.req L [c,p,q,t.2] (.mul (.v 0) (.add (.add (.mul (.v 1) (.v 1)) (.mul (.mul (.v 2) (.v 2)) (.v 3))) (.add (.mul (.v 1) (.v 1)) (.neg (.mul (.mul (.v 2) (.v 2)) (.v 3)))))) (.mul (.add (.v 0) (.v 0)) (.mul (.v 1) (.v 1))) (by decide +kernel))
  rw[e4,hh,L.om]
 have e3:mul k t.1 m m=mul k t.1 (norm k t (p,q)) (norm k t (p,q)):=by
  rw[hm,<-e]
  exact Xqi k t (pr p q) (pr p q)
 rcases Xte h e3 with e5 | e5
 . left;rw[e5];exact key
 . right;rw[e5,L.nn];exact key
end
theorem Xy2{k:Nat}{t:Tw k}{a b b':El k}(h:mul k t b a=rat k 1)(h':mul k t b' a=rat k 1): b=b':=by
 have L:=Xaz k t
 have e:mul k t b (mul k t b' a)=mul k t b' (mul k t b a):=(Laws.req L [a,b,b'] (.mul (.v 1) (.mul (.v 2) (.v 0))) (.mul (.v 2) (.mul (.v 1) (.v 0))) (by decide +kernel))
 rw[h,h',L.mo,L.mo] at e
 exact e
theorem Xy8{k:Nat}{t:Tw k}{w i:El k}(h:mul k t i w=rat k 1): mul k t (mul k t (rat k (1/2)) i) (add k w w)=rat k 1:=by
 have L:=Xaz k t
 have hh:add k (rat k (1/2)) (rat k (1/2))=rat k 1:=Xgb
 generalize rat k (1/2)=c at hh |-
 have e:mul k t (mul k t c i) (add k w w)=mul k t (add k c c) (mul k t i w):=(Laws.req L [c,i,w] (.mul (.mul (.v 0) (.v 1)) (.add (.v 2) (.v 2))) (.mul (.add (.v 0) (.v 0)) (.mul (.v 1) (.v 2))) (by decide +kernel))
 rw[e,h,L.mo,hh]
theorem Ygo{k:Nat}{t:Tw (k+1)}(h:red (k+1) t){u v m w:El k}(hv:v≠zero k)(hm:mul k t.1 m m=norm k t (u,v))(hw:mul k t.1 w w=mul k t.1 (rat k (1/2)) (add k u m)): w≠zero k:=by
 intro e
 have L:=Xaz k t.1
 have hh:add k (rat k (1/2)) (rat k (1/2))=rat k 1:=Xgb
 generalize rat k (1/2)=c at hh hw
 rw[e,L.mz] at hw
 have e1:add k u m=add k (mul k t.1 c (add k u m)) (mul k t.1 c (add k u m)):=by rw[<-L.dm,hh,L.om]
 rw[<-hw,L.az] at e1
 have hm':mul k t.1 m m=add k (mul k t.1 u u) (neg k (mul k t.1 (mul k t.1 v v) t.2)):=hm
 have e2:mul k t.1 (mul k t.1 v v) t.2=add k (mul k t.1 u u) (neg k (mul k t.1 m m)):=by
  rw[hm'];exact(Laws.req L [u,v,t.2] (.mul (.mul (.v 1) (.v 1)) (.v 2)) (.add (.mul (.v 0) (.v 0)) (.neg (.add (.mul (.v 0) (.v 0)) (.neg (.mul (.mul (.v 1) (.v 1)) (.v 2)))))) (by decide +kernel))
 have e3:add k (mul k t.1 u u) (neg k (mul k t.1 m m))=mul k t.1 (add k u (neg k m)) (add k u m):=(Laws.req L [u,m] (.add (.mul (.v 0) (.v 0)) (.neg (.mul (.v 1) (.v 1)))) (.mul (.add (.v 0) (.neg (.v 1))) (.add (.v 0) (.v 1))) (by decide +kernel))
 rw[e3,e1,L.mz] at e2
 have S:=Xau (Xad h.1)
 rcases Xhj h.1 e2 with e4 | e4
 . rcases Xhj h.1 e4 with e5 | e5<;>exact hv e5
 . have:=h.2.1
   rw[e4,S.s0 L] at this
   cases this
end
end Go.Tow
namespace Go.Proofs.YtfjafaehfjjaiaaGreatDoor
open Go Go.Num Go.Tow
def nS(r k p:Nat): Nat:=2*p+2*cB r k+r+1
theorem Sz.normS{r k p:Nat}{t:Tw (k+1)}{a:El (k+1)}(ht:TS r (k+1) t)(h:Sz p (toL (k+1) a)): Sz (nS r k p) (toL k (Tow.norm k t a)):=by
 obtain⟨E,e0,e1,e2⟩:=Xie ht.1
 obtain⟨d,d0,d1,d2⟩:=h
 obtain⟨g,g0,g1,g2⟩:=ht.2
 have hx:IsD d (2^p) (toL k a.1):=d2.left
 have hy:IsD d (2^p) (toL k a.2):=d2.right
 have h1:=(e2 _ _ d d _ _ d0 d0 hx hx).scale (W1m e0 g0)
 have h2:=e2 _ _ (d*d*E) g _ _ (W1m (W1m d0 d0) e0) g0 (e2 _ _ d d _ _ d0 d0 hy hy) g2
 rw[show d*d*E*g*E=d*d*E*(E*g) by rw[W0w (d*d*E),W1i g E]] at h2
 have hg:E*g<=2^cB r k*2^r:=W2b e1 (W2h g1)
 have hn:2^(2*p+2*cB r k+r)=2^p*2^p*2^cB r k*(2^cB r k*2^r):=by
  rw[<-W0x,<-W0x,<-W0x,<-W0x];congr 1;omega
 have h1':IsD (d*d*E*(E*g)) (2^(2*p+2*cB r k+r)) (toL k (Tow.mul k t.1 a.1 a.1)):=h1.mono (by rw[hn];exact W0t _ hg)
 have h2':IsD (d*d*E*(E*g)) (2^(2*p+2*cB r k+r)) (toL k (Tow.mul k t.1 (Tow.mul k t.1 a.2 a.2) t.2)):=h2.mono (by
  rw[hn,W0w (2^p*2^p*2^cB r k),W1i (2^r)];exact W0a _)
 rw[Tow.norm,Xav,Xb6]
 refine⟨d*d*E*(E*g),W1m (W1m (W1m d0 d0) e0) (W1m e0 g0),?_,(h1'.add h2'.neg).mono (by unfold nS;rw[W0y 2 (2*p+2*cB r k+r)];omega)⟩
 have h3:d*d*E*(E*g)<2^p*2^p*(2^cB r k*(2^cB r k*2^r)):=by
  rw[W0w (d*d)]
  refine W0v (W3c (W3i d1 d1) (W1m e0 (W1m e0 g0))) (W0t _ (W2b e1 hg))
 have h4:2^nS r k p=2^(2*p+2*cB r k+r)*2:=by unfold nS;rw[W0y]
 rw[h4,hn,W0w (2^p*2^p)]
 omega
theorem Sz.scal{r k p q:Nat}{t:Tw k}{x y n:El k}(ht:TS r k t)(h:Sz p (toL k x++toL k y))(hn:Sz q (toL k n)): Sz (p+q+cB r k) (toL k (Tow.mul k t x n)++toL k (Tow.mul k t y n)):=by
 obtain⟨E,e0,e1,e2⟩:=Xie ht
 obtain⟨d,d0,d1,d2⟩:=h
 obtain⟨e,k0,k1,k2⟩:=hn
 have h1:=e2 _ _ d e _ _ d0 k0 d2.left k2
 have h2:=e2 _ _ d e _ _ d0 k0 d2.right k2
 rw[<-W0x,<-W0x] at h1 h2
 refine⟨d*e*E,W1m (W1m d0 k0) e0,?_,h1.append h2⟩
 rw[W0x,W0x]
 exact W0v (W3c (W3i d1 k1) e0) (W0t _ e1)
def iS(r:Nat): Nat->Nat->Nat
 | 0,p=>p+1
 | k+1,p=>p+iS r k (nS r k p)+cB r k
theorem IsD.neg2{d n:Nat}{l m:List Rat}(h:IsD d n (l++m)): IsD d n (l++m.map (- ·)):=h.left.append h.right.neg
theorem Sz.neg2{p:Nat}{l m:List Rat}(h:Sz p (l++m)): Sz p (l++m.map (- ·)):=by
 obtain⟨d,h0,h1,h2⟩:=h
 exact⟨d,h0,h1,h2.neg2⟩
theorem Sz.invS{r k p:Nat}{t:Tw k}{a b:El k}(ht:TS r k t)(h:Sz p (toL k a))(hb:Tow.inv k t a=some b): Sz (iS r k p) (toL k b):=by
 induction k generalizing p with
 | zero=>exact h.inv ht hb
 | succ k ih =>
  simp only[Tow.inv] at hb
  split at hb
  . cases hb
  . rename_i n hn
    injection hb with hb
    subst hb
    have h1:=ih ht.1 (h.normS ht) hn
    show Sz _ (toL k _++toL k (Tow.neg k _))
    rw[Xb6]
    exact(Sz.scal ht.1 h h1).neg2
theorem Sz.dbl{p:Nat}{l:List Rat}(h:Sz p l): Sz (p+1) (List.zipWith (·+·) l l):=by
 obtain⟨d,h0,h1,h2⟩:=h
 exact⟨d,h0,by rw[W0y];omega,(h2.add h2).mono (by rw[W0y];omega)⟩
theorem Xow{r:Nat}{k:Nat}: ∀ {s:Nat},r<=s->cB r k<=cB s k:=by
 induction k with
 | zero=>intro s h;exact W0a _
 | succ k ih=>intro s h;have:=ih h;show 2*cB r k+r+1<=2*cB s k+s+1;omega
theorem Xup{r s k p q:Nat}(hr:r<=s)(h:p<=q): nS r k p<=nS s k q:=by have:=Xow (k:=k) hr;unfold nS;omega
theorem Xol{r s:Nat}(hr:r<=s): ∀ {k p q:Nat},p<=q->iS r k p<=iS s k q
 | 0,p,q,h=>by show p+1<=q+1;omega
 | k+1,p,q,h=>by
  have h1:=Xol hr (Xup (k:=k) hr h) (k:=k)
  have h2:=Xow (k:=k) hr
  show p+iS r k (nS r k p)+cB r k<=q+iS s k (nS s k q)+cB s k
  omega
theorem Xin{r s:Nat}(hr:r<=s): ∀ {k p q:Nat},p<=q->iB r k p<=iB s k q
 | 0,p,q,h=>by show p+1<=q+1;omega
 | k+1,p,q,h=>by
  have h2:=Xow (k:=k) hr
  have h1:=Xin hr (show nB r k p<=nB s k q by unfold nB;omega) (k:=k)
  show 2*(p+iB r k (nB r k p)+cB r k)<=2*(q+iB s k (nB s k q)+cB s k)
  omega
theorem Xl9(x:Rat): (x*x).num=x.num*x.num/\(x*x).den=x.den*x.den:=by
 have hc:(x.num*x.num).natAbs.gcd (x.den*x.den)=1:=by
  rw[W3p]
  exact Nat.Coprime.mul_right (Nat.Coprime.mul_left x.reduced x.reduced) (Nat.Coprime.mul_left x.reduced x.reduced)
 rw[Rat.num_mul,Rat.den_mul,hc]
 exact⟨Int.ediv_one _,Nat.div_one _⟩
theorem Yg2(n:Nat): rt (n*n)=n:=Yg4 (W0a _) (by rw[W1h,W1c];omega)
def sqN(n:Nat): Prop:=rt n*rt n=n
theorem Xkm{q:Rat}(h0:0<=q.num)(h1:sqN q.num.natAbs)(h2:sqN q.den): ∃x:Rat,x.num=(rt q.num.natAbs:Int)/\x.den=rt q.den/\x*x=q:=by
 have hd:rt q.den≠0:=λe=>q.den_nz (by rw[<-h2,e])
 have hc:(rt q.num.natAbs).Coprime (rt q.den):=by
  have:=q.reduced
  rw[<-h1,<-h2] at this
  exact Nat.Coprime.coprime_mul_right (Nat.Coprime.coprime_mul_right_right this)
 refine⟨⟨(rt q.num.natAbs:Int),rt q.den,hd,by rw[W1f];exact hc⟩,rfl,rfl,?_⟩
 refine Rat.ext ?_ ?_
 . rw[(Xl9 _).1]
   show (rt q.num.natAbs:Int)*(rt q.num.natAbs:Int)=q.num
   have:((rt q.num.natAbs*rt q.num.natAbs:Nat):Int)=(q.num.natAbs:Int):=by rw[h1]
   rw[W2p] at this
   rw[this];omega
 . rw[(Xl9 _).2];exact h2
theorem Xti{q:Rat}: (∃x:Rat,x*x=q)↔0<=q.num/\sqN q.num.natAbs/\sqN q.den:=by
 refine⟨?_,λ⟨h0,h1,h2⟩=>let ⟨x,_,_,h⟩:=Xkm h0 h1 h2;⟨x,h⟩⟩
 rintro⟨x,rfl⟩
 obtain⟨e1,e2⟩:=Xl9 x
 rw[e1,e2]
 refine⟨?_,?_,?_⟩
 . rcases Int.le_total 0 x.num with h | h
   . exact Int.mul_nonneg h h
   . exact Int.mul_nonneg_of_nonpos_of_nonpos h h
 . unfold sqN;rw[W3p,Yg2]
 . unfold sqN;rw[Yg2]
theorem Sz.half{k:Nat}: Sz 3 (toL k (Tow.rat k (1/2))):=Sz.rat (p:=2) k ⟨show (1/2:Rat).num.natAbs<2^2 by decide +kernel,show ((1/2:Rat).den:Int).natAbs<2^2 by decide +kernel⟩
open Go Go.Vm Go.Num Go.Tow
section
variable{k:Nat}
theorem hvL(a:Tow.El (k+1)): ((toL k a.1++toL k a.2).map dq).length=2*2^k:=by rw[lq,W0d,Xab,Xab];omega
theorem hvT(a:Tow.El (k+1)): ((toL k a.1++toL k a.2).map dq).take (2^k)=(toL k a.1).map dq:=by rw[<-W2e,<-Xab k a.1,W7d]
theorem hvD(a:Tow.El (k+1)): ((toL k a.1++toL k a.2).map dq).drop (2^k)=(toL k a.2).map dq:=by rw[<-W4z,<-Xab k a.1,W7r]
theorem Xcc(a:Tow.El (k+1)): 2^k<=((toL k a.1++toL k a.2).map dq).length:=by rw[hvL];have:=W0r k;omega
theorem twL(t:Tw (k+1)): ((toT k t.1++[toL k t.2]).map dqs).length=k+1:=by rw[lt',W0d,Xaa];rfl
theorem Xi6(t:Tw (k+1)): k<=((toT k t.1++[toL k t.2]).map dqs).length:=by rw[twL];omega
theorem twT(t:Tw (k+1)): ((toT k t.1++[toL k t.2]).map dqs).take k=(toT k t.1).map dqs:=by rw[<-W2e,W6e (Xaa k t.1)]
theorem twU(t:Tw (k+1)): ((toT k t.1++[toL k t.2]).map dqs)[k]?=some (de t.2):=by rw[W1p,W0u (by rw[Xaa];exact W0a _),Xaa,W3b];rfl
theorem hvq(a:Tow.El (k+1))(hk:k<=16): arB .quo .i64 (((toL k a.1++toL k a.2).map dq).length:Nat) 2 (2^k:Nat):=Ykl (hvL a) (W0k (p16 hk) (by decide))
theorem tw1(t:Tw (k+1))(hk:k<=16): arB .sub .i64 (((toT k t.1++[toL k t.2]).map dqs).length:Nat) 1 k:=wr (by rw[twL];omega) (by simp only[inK];omega)
end
end Go.Proofs.YtfjafaehfjjaiaaGreatDoor
namespace Go.Proofs.YtfjafaehfjjaiaaGreatDoor.R6
open Go Go.Vm Go.Num Go.Tow Go.Proofs.YtfjafaehfjjaiaaGreatDoor
theorem Norm_ok{k r s:Nat}{t:Tw (k+1)}{a:Tow.El (k+1)}(hT:TS r (k+1) t)(ha:Sz s (toL (k+1) a))(hk:k+1<=16)(hs:nB r k s<=4398046511104): C0 208 [.d (dt t),.d (de a)] (·=.d (de (Tow.norm k t a))):=by
 have hx:Sz s (toL k a.1):=Sz.left ha
 have hy:Sz s (toL k a.2):=Sz.right ha
 have hn:nB r k s=4*s+3*cB r k+r+1:=rfl
 refine En Tryz.func208 λ_ _ _=>?_
 refine Ar (2^k:Nat) rfl ?_ (hvq a (by omega))
 refine Dw rfl ?_
 refine Ar k rfl ?_ (tw1 t (by omega))
 refine Tk k ((toT k t.1).map dqs) rfl rfl (Xi6 t) (twT t) ?_
 refine Ar k rfl ?_ (tw1 t (by omega))
 refine Ix k rfl (twU t) ?_
 refine Dw rfl ?_
 refine Tk (2^k) ((toL k a.1).map dq) rfl rfl (Xcc a) (hvT a) ?_
 refine Tk (2^k) ((toL k a.1).map dq) rfl rfl (Xcc a) (hvT a) ?_
 refine Ce rfl (Mul_el hT.1 hx hx (by omega) (by omega)) ?_
 refine Dp (2^k) ((toL k a.2).map dq) rfl rfl (Xcc a) (hvD a) ?_
 refine Dp (2^k) ((toL k a.2).map dq) rfl rfl (Xcc a) (hvD a) ?_
 refine Ce rfl (Mul_el hT.1 hy hy (by omega) (by omega)) ?_
 refine Ce rfl (Mul_el hT.1 (hy.mul hT.1 hy) hT.2 (by omega) (by omega)) ?_
 refine Ce rfl (Sub_el (by omega) (hx.mul hT.1 hx).ps ((hy.mul hT.1 hy).mul hT.1 hT.2) (by omega)) ?_
 exact R0
theorem Root_ok{k i r:Nat}{t:Tw k}(hk:k<=16)(hi:i<k): C0 350 [.d (dt t),.d (.int .i64 i)] (·=.d (de (Xcr k i))):=by
 have hp:=p16 hk
 have hpi:2^i<2^k:=W3s (by decide) hi
 have h0:=W0r k
 have e:(0:Rat)::List.replicate (2^(toT k t).length-1) 0=List.replicate (2^k) 0:=by rw[Xaa,<-W4i,show 2^k-1+1=2^k by omega]
 refine En Tryz.func350 λ_ _ _=>?_
 refine Ce rfl (R2.FromInt_ok (z:=0) (by decide)) ?_
 refine Cr rfl (e ▸ Xi1 (t:=toT k t) (x:=0) (by rw[Xaa];omega) (by rw[Xaa];omega)) ?_
 refine Dw rfl ?_
 refine Ar (2^i:Nat) rfl ?_ (Xbs (by omega))
 refine Ce rfl (R2.FromInt_ok (z:=1) (by decide)) ?_
 refine Eo (2^i) rfl (by simp only[lq,W1v];omega) ?_
 refine Sto rfl (by simp only[lq,W1v];omega) (ms (f:=dq) (u:=1)) ?_
 refine R1 rfl (.own rfl (by simp) ?_)
 rw[W1d,<-Xph hi]
 exact W0b (by simp[Xab])
def Ypc(k:Nat)(zs:List D)(v:AV)(H':Hpl): Prop:=(k=0/\v=.tup (.pr (.lit 4 zs) (.d (.int .i64 0)))/\H'=[])\/(v=.tup (.pr (.gr 1000000 4 zs) (.d (.int .i64 0)))/\H'=[(1000000,.tok zs.length 4)])
theorem Yo2(x:Rat): x⁻¹=1/x:=by rw[Rat.div_def,Rat.one_mul]
theorem Ydd{k:Nat}{t:Tw k}(h:red k t){a:Tow.El k}(h0:a≠zero k): ∃b,Tow.inv k t a=some b:=(Xcn h).2 a h0
theorem Ydo{k:Nat}{t:Tw k}(h:red k t): zero k≠rat k 1:=λe=>by
 have h1:=Xec (x:=1) (Xad h)
 rw[<-e,(Xbh h).2 rfl,Xb7 (by decide)] at h1
 cases h1
theorem Xvk{k:Nat}{t:Tw k}(h:red k t){a b:Tow.El k}(e:Tow.inv k t a=some b): a≠zero k:=λh0=>by
 have h1:=Xb9 e
 rw[h0,(Xaz k t).mz] at h1
 exact Ydo h h1
theorem Yd8{k:Nat}{t:Tw (k+1)}{a:Tow.El (k+1)}{x:Tow.El k}{y:Tow.El (k+1)}(ha:a.2=zero k)(hx:Tow.inv k t.1 a.1=some x)(hy:Tow.inv (k+1) t a=some y): y=(x,zero k):=by
 refine Xy2 (t:=t) (a:=a) (Xb9 hy) ?_
 have e:a=up k a.1:=by show (a.1,a.2)=(a.1,zero k);rw[ha]
 rw[e]
 exact(Xic k t x a.1).trans (by rw[Xb9 hx];rfl)
theorem Yfr{k:Nat}: ∀ {r s:Nat} {t:Tw k} {a:Tow.El k},TS r k t->Sz s (toL k a)->red k t->a≠zero k->k<=16->iB r k s<=4398046511104->∃x,Tow.inv k t a=some x/\CW0 259 [.d (dt t),.d (de a)] [] (Ypc k ((toL k x).map dq)):=by
 induction k with
 | zero =>
  intro r s t a hT ha hR h0 hk hs
  have hs:s+1<=4398046511104:=hs
  have e:∀y:Rat,y≠0->Tow.inv 0 () y=some (1/y:Rat):=λy hy=>by rw[Yl8,if_neg hy]
  refine⟨_,e a h0,?_⟩
  refine EnW Tryz.func259 λ_ _ _ _=>?_
  refine Yes rfl rfl ?_
  refine Ix 0 rfl (u:=dq a) rfl ?_
  refine No rfl (λh=>h0 (R2.zero_of h)) ?_
  refine Ix 0 rfl (u:=dq a) rfl ?_
  refine Ce rfl (R2.Inv_ok (ha.qs (W0h.2 rfl)) (by omega) h0) ?_
  exact Rw [] [] rfl (.tup (.cons (.rf rfl) (.one (.rf rfl) (λ_ _ e=>by cases e) (λ_ _ e=>by cases e)))) (.inl ⟨rfl,by rw[Yo2 a];rfl,rfl⟩)
 | succ k ih =>
  intro r s t a hT ha hR h0 hk hs
  have hx:Sz s (toL k a.1):=Sz.left ha
  have hy:Sz s (toL k a.2):=Sz.right ha
  have hlen:=Xab k
  have hp:=p16 hk
  have hp1:2^(k+1)=2*2^k:=by rw[W0y];omega
  have hpk:=W0r k
  obtain⟨hi1,hi2⟩:=Xvu hs
  have hN:=ha.norm hT
  have hge:=Xvv r k (nB r k s)
  have hiB1:=Xin (W0a r) (Xr0 r k s) (k:=k)
  obtain⟨x,hinv⟩:=Ydd hR h0
  refine⟨x,hinv,?_⟩
  have fit:∀ {g:Hp} {K:Hpl} {o:Nat} {zs:List D},Xde K (.gr o 4 zs)=true->FitR g K (.tup (.pr (.gr o 4 zs) (.d (.int .i64 0)))) (.tup (.pr (.gr o 4 zs) (.d (.int .i64 0)))):=λh=>.tup (.cons (.rf h) (.one (.rf rfl) (λ_ _ e=>by cases e) (λ_ _ e=>by cases e)))
  refine EnW Tryz.func259 λ_ _ _ _=>?_
  refine No rfl (by show ¬((((toT k t.1++[toL k t.2]).map dqs).length:Nat):Int)=0;rw[twL];omega) ?_
  refine Ar (2^k:Nat) rfl ?_ (hvq a (by omega))
  refine Ar k rfl ?_ (tw1 t (by omega))
  refine Tk k ((toT k t.1).map dqs) rfl rfl (Xi6 t) (twT t) ?_
  refine Dp (2^k) ((toL k a.2).map dq) rfl rfl (Xcc a) (hvD a) ?_
  refine Ce rfl (Zero_ok (l:=toL k a.2) (by rw[hlen];omega)) ?_
  refine By rfl (λh1=>?_) λh1=>?_
  . have ea:=(Xam k a.2).2 h1
    have e1:a.1≠zero k:=λe=>h0 (by show (a.1,a.2)=(zero k,zero k);rw[e,ea])
    obtain⟨y,hy1,hc⟩:=ih hT.1 hx hR.1 e1 (by omega) (by omega)
    have ex:=Yd8 ea hy1 hinv
    have el:(toL (k+1) x).map dq=(toL k y).map dq++((0:Rat)::List.replicate (2^(toT k t.1).length-1) 0).map dq:=by
     rw[ex,<-W2c,Xaa,<-W4i,show 2^k-1+1=2^k by omega,<-Xbn];rfl
    have hll:((toL (k+1) x).map dq).length<=1048576:=by rw[lq,Xab];omega
    refine Tk (2^k) ((toL k a.1).map dq) rfl rfl (Xcc a) (hvT a) ?_
    refine Cw [] rfl hc λv H' _ hv=>?_
    rcases hv with ⟨_,rfl,rfl⟩ | ⟨rfl,rfl⟩
    . refine No rfl (by simp) ?_
      refine Ce rfl (R2.FromInt_ok (z:=0) (by decide)) ?_
      refine Ce rfl (FromRat_ok (t:=toT k t.1) (x:=0) (by rw[Xaa];omega)) ?_
      refine ApL ((toL (k+1) x).map dq) rfl el.symm (by simp only[lq,W0s];omega) (by omega) ?_
      refine Og 4 rfl rfl ?_
      exact Rw [(54,1000000)] [(1000000,.tok ((toL (k+1) x).map dq).length 4)] rfl (fit rfl) (.inr ⟨rfl,rfl⟩)
    . refine No rfl (by simp) ?_
      refine Ce rfl (R2.FromInt_ok (z:=0) (by decide)) ?_
      refine Ce rfl (FromRat_ok (t:=toT k t.1) (x:=0) (by rw[Xaa];omega)) ?_
      refine ApG ((toL (k+1) x).map dq) rfl el.symm (by omega) ?_
      exact Rw [(54,1000000)] [(1000000,.tok ((toL (k+1) x).map dq).length 4)] rfl (fit rfl) (.inr ⟨rfl,rfl⟩)
  . have hnz:Tow.norm k t a≠zero k:=by
     have hh:Tow.inv (k+1) t a=match Tow.inv k t.1 (Tow.norm k t a) with | none=>none | some x=>some (mul k t.1 a.1 x,Tow.neg k (mul k t.1 a.2 x)):=rfl
     cases h2:Tow.inv k t.1 (Tow.norm k t a) with
     | none=>rw[hinv,h2] at hh;cases hh
     | some y=>exact Xvk hR.1 h2
    obtain⟨y,hy1,hc⟩:=ih hT.1 hN hR.1 hnz (by omega) (by omega)
    have hzx:=hN.inv hT.1 hy1
    have ex:x=(mul k t.1 a.1 y,Tow.neg k (mul k t.1 a.2 y)):=by
     have hh:Tow.inv (k+1) t a=match Tow.inv k t.1 (Tow.norm k t a) with | none=>none | some x=>some (mul k t.1 a.1 x,Tow.neg k (mul k t.1 a.2 x)):=rfl
     rw[hinv,hy1] at hh;injection hh
    have en:Tow.neg k (mul k t.1 a.2 y)=mul k t.1 (Tow.neg k a.2) y:=((Xaz k t.1).nm _ _).symm
    have el:(toL (k+1) x).map dq=(toL k (mul k t.1 a.1 y)).map dq++(toL k (mul k t.1 (Tow.neg k a.2) y)).map dq:=by rw[ex,en,<-W2c];rfl
    have hll:((toL (k+1) x).map dq).length<=1048576:=by rw[lq,Xab];omega
    have hcd:C0 259 [.d (dt t.1),.d (de (Tow.norm k t a))] (·=.tup (.pr (.d (de y)) (.d (.int .i64 0)))):=CW.data hc rfl λv H' hv=>by
     rcases hv with ⟨_,rfl,rfl⟩ | ⟨rfl,rfl⟩
     . exact⟨_,.tup (.cons (.lit rfl) (.one (.rf rfl) (λ_ _ e=>by cases e) (λ_ _ e=>by cases e))),rfl⟩
     . exact⟨_,.tup (.cons (.gr rfl) (.one (.rf rfl) (λ_ _ e=>by cases e) (λ_ _ e=>by cases e))),rfl⟩
    refine Ce rfl (Norm_ok hT ha hk (by omega)) ?_
    refine Ce rfl hcd ?_
    refine No rfl (by simp) ?_
    refine Dw rfl ?_
    refine Tk (2^k) ((toL k a.1).map dq) rfl rfl (Xcc a) (hvT a) ?_
    rcases Xrf hT.1 hx hzx (by omega) (by omega) with hm | hm
    . refine Ce rfl hm ?_
      refine Dp (2^k) ((toL k a.2).map dq) rfl rfl (Xcc a) (hvD a) ?_
      refine Ce rfl (Neg_el (by omega) hy.ps (by omega)) ?_
      refine Ce rfl (Mul_el hT.1 (Xg3 hy) hzx (by omega) (by omega)) ?_
      refine ApL ((toL (k+1) x).map dq) rfl el.symm (by rw[lq,hlen];omega) (by omega) ?_
      refine Og 4 rfl rfl ?_
      exact Rw [(80,1000000)] [(1000000,.tok ((toL (k+1) x).map dq).length 4)] rfl (fit rfl) (.inr ⟨rfl,rfl⟩)
    . refine Cg rfl hm ?_
      refine Dp (2^k) ((toL k a.2).map dq) rfl rfl (Xcc a) (hvD a) ?_
      refine Ce rfl (Neg_el (by omega) hy.ps (by omega)) ?_
      refine Ce rfl (Mul_el hT.1 (Xg3 hy) hzx (by omega) (by omega)) ?_
      refine ApG ((toL (k+1) x).map dq) rfl el.symm (by omega) ?_
      exact Rw [(80,1000000)] [(1000000,.tok ((toL (k+1) x).map dq).length 4)] rfl (fit rfl) (.inr ⟨rfl,rfl⟩)
theorem Inv_ok{k r s:Nat}{t:Tw k}{a x:Tow.El k}(hT:TS r k t)(ha:Sz s (toL k a))(hR:red k t)(hx:Tow.inv k t a=some x)(hk:k<=16)(hs:iB r k s<=4398046511104): C0 259 [.d (dt t),.d (de a)] (·=.tup (.pr (.d (de x)) (.d (.int .i64 0)))):=by
 obtain⟨y,hy,hc⟩:=Yfr hT ha hR (Xvk hR hx) hk hs
 rw[hx] at hy
 injection hy with hy
 subst hy
 exact CW.data hc rfl λv H' hv=>by
  rcases hv with ⟨_,rfl,rfl⟩ | ⟨rfl,rfl⟩
  . exact⟨_,.tup (.cons (.lit rfl) (.one (.rf rfl) (λ_ _ e=>by cases e) (λ_ _ e=>by cases e))),rfl⟩
  . exact⟨_,.tup (.cons (.gr rfl) (.one (.rf rfl) (λ_ _ e=>by cases e) (λ_ _ e=>by cases e))),rfl⟩
theorem Inv0_ok{k:Nat}: ∀ {t:Tw k},k<=16->C0 259 [.d (dt t),.d (de (zero k))] (·=.tup (.pr (.d (dqs [])) (.d (.int .i64 6)))):=by
 induction k with
 | zero =>
  intro t hk
  refine En Tryz.func259 λ_ _ _=>?_
  refine Yes rfl rfl ?_
  refine Ix 0 rfl (u:=dq 0) rfl ?_
  refine Yes rfl (by decide +kernel) ?_
  exact RTt rfl (.cons (.nil rfl) (.one (.rf rfl) (λ_ _ e=>by cases e) (λ_ _ e=>by cases e)))
 | succ k ih =>
  intro t hk
  have hp:=p16 hk
  have hp1:2^(k+1)=2*2^k:=by rw[W0y];omega
  refine En Tryz.func259 λ_ _ _=>?_
  refine No rfl (by show ¬((((toT k t.1++[toL k t.2]).map dqs).length:Nat):Int)=0;rw[twL];omega) ?_
  refine Ar (2^k:Nat) rfl ?_ (hvq (zero k,zero k) (by omega))
  refine Ar k rfl ?_ (tw1 t (by omega))
  refine Tk k ((toT k t.1).map dqs) rfl rfl (Xi6 t) (twT t) ?_
  refine Dp (2^k) ((toL k (zero k)).map dq) rfl rfl (Xcc (zero k,zero k)) (hvD (zero k,zero k)) ?_
  refine Ce rfl (Zero_ok (l:=toL k (zero k)) (by rw[Xab];omega)) ?_
  refine Yes rfl ((Xam k _).1 rfl) ?_
  refine Tk (2^k) ((toL k (zero k)).map dq) rfl rfl (Xcc (zero k,zero k)) (hvT (zero k,zero k)) ?_
  refine Ce rfl (ih (t:=t.1) (by omega)) ?_
  refine Yes rfl (by decide) ?_
  exact RTt rfl (.cons (.nil rfl) (.one (.rf rfl) (λ_ _ e=>by cases e) (λ_ _ e=>by cases e)))
end Go.Proofs.YtfjafaehfjjaiaaGreatDoor.R6
namespace Go.Proofs.YtfjafaehfjjaiaaGreatDoor
open Go Go.Num Go.Tow
def gC(r:Nat): Nat->Nat
 | 0=>0
 | k+1=>2*gC r k+2*cB r k+r+iS r k r+2
theorem IsD.pw{d n a b:Nat}{l:List Rat}(h:IsD d (n*2^a) l)(hab:a<=b): IsD d (n*2^b) l:=h.mono (W0t _ (W0m (by decide) hab))
theorem IsD.sc{d n a b e:Nat}{l:List Rat}(h:IsD d (n*2^a) l)(he:0<e)(hb:e<=2^b): IsD (d*e) (n*2^(a+b)) l:=(h.scale he).mono (by rw[W0x,<-W0w];exact W0t _ hb)
theorem IsD.dbl{d n:Nat}{l:List Rat}(h:IsD d n (List.zipWith (·+·) l l)): IsD (d*2) n l:=λx hx=>by
 obtain⟨i,hi⟩:=W3a hx
 obtain⟨z,h1,h2⟩:=h (x+x) (W0f (i:=i) (by rw[W5q,hi]))
 refine⟨z,?_,h2⟩
 rw[<-h1,W6c]
 show x*(d*2)=_
 grind
theorem Xtz{x:Rat}{e n:Nat}(he:0<e)(h:IsD (e*e) (n*n) [x*x]): IsD e n [x]:=λy hy=>by
 obtain rfl:=W0h.1 hy
 obtain⟨z,h1,h2⟩:=h _ (W0l ..)
 have h3:(y*e)*(y*e)=(z:Rat):=by rw[<-h1,W6c];grind
 obtain⟨e1,e2⟩:=Xl9 (y*e)
 rw[h3] at e1 e2
 have e2:1=(y*e).den*(y*e).den:=e2
 have e1:z=(y*e).num*(y*e).num:=e1
 have hd:(y*e).den=1:=Nat.eq_one_of_mul_eq_one_left e2.symm
 refine⟨(y*e).num,?_,?_⟩
 . have:=Xk1 (y*e)
   rw[hd] at this
   rw[<-this];exact(Rat.mul_one _).symm
 . rw[e1,W3p] at h2
   exact Nat.lt_of_not_le λhle=>W7g _ (W0v h2 (W2b hle hle))
theorem Xp1: ∀ {k r:Nat} {t:Tw k},TS r k t->red k t->∃Δ,0<Δ/\Δ<=2^gC r k/\∀(s:El k) (e n:Nat),0<e->IsD (e*e) (n*n) (toL k (mul k t s s))->IsD (e*Δ) (n*2^gC r k) (toL k s)
 | 0,r,t,_,_=>⟨1,by decide,W0a 1,λs e n he h=>by rw[W4a,show 2^gC r 0=1 from rfl,W4a];exact Xtz he h⟩
 | k+1,r,t,hT,hR=>by
  obtain⟨E,E0,E1,E2⟩:=Xie hT.1
  obtain⟨g,g0,g1,g2⟩:=hT.2
  obtain⟨Δ,D0,D1,D2⟩:=Xp1 hT.1 hR.1
  have L:=Xaz k t.1
  obtain⟨i,hi⟩:=(Xcn hR.1).2 t.2 (show t.2≠zero k from λh0=>hR.2.2 ⟨zero k,by rw[h0,L.mz]⟩)
  obtain⟨f,f0,f1,f2⟩:=Sz.invS hT.1 hT.2 hi
  have hi:=Xb9 hi
  generalize hc:cB r k=c at *
  generalize hq:iS r k r=q at *
  generalize hG:gC r k=G at *
  have hg':gC r (k+1)=2*G+2*c+r+q+2:=by show 2*gC r k+2*cB r k+r+iS r k r+2=_;rw[hc,hq,hG]
  have g1:=W2h g1
  have f1:=W2h f1
  have Eg1:E*g<=2^(c+r):=by rw[W0x];exact W2b E1 g1
  have Eg0:=W1m E0 g0
  have M:∀ {a b:El k} {d e n m x y:Nat},0<d->0<e->IsD d (n*2^x) (toL k a)->IsD e (m*2^y) (toL k b)->IsD (d*e*E) (n*m*2^(x+y+c)) (toL k (mul k t.1 a b)):=λhd he h h'=>(E2 _ _ _ _ _ _ hd he h h').mono (by
   rw[W0x,W0x];exact Nat.le_of_eq (by ac_rfl))
  refine⟨2*(E*g*Δ)*Δ*(f*E),?_,?_,λs e n he h=>?_⟩
  . exact W1m (W1m (W1m (by decide) (W1m Eg0 D0)) D0) (W1m f0 E0)
  . have x1:=W2b (W2b (W2b (W0a 2) (W2b Eg1 D1)) D1) (W2b f1 E1)
    refine W0k x1 ?_
    rw[show (2:Nat)*(2^(c+r)*2^G)*2^G*(2^q*2^c)=2^(1+((c+r)+G)+G+(q+c)) by simp only[W0x]]
    exact W0m (by decide) (by omega)
  obtain⟨u,v⟩:=s
  have ha:IsD (e*e) (n*n) (toL k (add k (mul k t.1 u u) (mul k t.1 (mul k t.1 v v) t.2))):=h.left
  have hb:IsD (e*e) (n*n) (toL k (add k (mul k t.1 u v) (mul k t.1 v u))):=h.right
  generalize h1:add k (mul k t.1 u u) (mul k t.1 (mul k t.1 v v) t.2)=a1 at ha
  generalize h2:add k (mul k t.1 u v) (mul k t.1 v u)=a2 at hb
  have e0:=W1m he he
  have ha:IsD (e*e) (n*n*2^0) (toL k a1):=by simpa using ha
  have hb:IsD (e*e) (n*n*2^0) (toL k a2):=by simpa using hb
  have g2:IsD g (1*2^r) (toL k t.2):=by simpa using g2
  have f2:IsD f (1*2^q) (toL k i):=by simpa using f2
  obtain⟨N,hN⟩:∃N,N=add k (mul k t.1 u u) (neg k (mul k t.1 (mul k t.1 v v) t.2)):=⟨_,rfl⟩
  have hNN:mul k t.1 N N=add k (mul k t.1 a1 a1) (neg k (mul k t.1 (mul k t.1 a2 a2) t.2)):=by
   rw[hN,<-h1,<-h2]
   exact(Laws.req L [u,v,t.2] (.mul (.add (.mul (.v 0) (.v 0)) (.neg (.mul (.mul (.v 1) (.v 1)) (.v 2)))) (.add (.mul (.v 0) (.v 0)) (.neg (.mul (.mul (.v 1) (.v 1)) (.v 2))))) (.add (.mul (.add (.mul (.v 0) (.v 0)) (.mul (.mul (.v 1) (.v 1)) (.v 2))) (.add (.mul (.v 0) (.v 0)) (.mul (.mul (.v 1) (.v 1)) (.v 2)))) (.neg (.mul (.mul (.add (.mul (.v 0) (.v 1)) (.mul (.v 1) (.v 0))) (.add (.mul (.v 0) (.v 1)) (.mul (.v 1) (.v 0)))) (.v 2)))) (by decide +kernel))
  have n1:IsD (e*e*E*g*(e*e*E*g)) (n*n*2^(c+r+1)*(n*n*2^(c+r+1))) (toL k (mul k t.1 N N)):=by
   rw[hNN,Xav,Xb6]
   have x1:=(M e0 e0 ha ha).sc (W1m Eg0 g0) (show E*g*g<=2^(c+r+r) by rw[W0x 2 (c+r)];exact W2b Eg1 g1)
   have x2:=((M (W1m (W1m e0 e0) E0) g0 (M e0 e0 hb hb) g2).sc g0 g1).neg
   rw[W4a] at x2
   rw[show e*e*(e*e)*E*(E*g*g)=e*e*E*g*(e*e*E*g) by ac_rfl] at x1
   rw[show e*e*(e*e)*E*g*E*g=e*e*E*g*(e*e*E*g) by ac_rfl] at x2
   have x3:=x1.pw (show _<=2*c+2*r by omega)
   have x4:=x2.pw (show _<=2*c+2*r by omega)
   refine(x3.add x4).mono ?_
   rw[<-Nat.mul_two]
   have x5:2^(2*c+2*r)*2<=2^(c+r+1)*2^(c+r+1):=by
    rw[<-W0y,<-W0x];exact W0m (by decide) (by omega)
   have x6:=W0t (n*n*(n*n)) x5
   rw[show n*n*(n*n)*2^(2*c+2*r)*2=n*n*(n*n)*(2^(2*c+2*r)*2) by ac_rfl]
   exact W0k x6 (Nat.le_of_eq (by ac_rfl))
  have n2:=D2 N (e*e*E*g) (n*n*2^(c+r+1)) (W1m (W1m e0 E0) g0) n1
  rw[W0w (n*n),<-W0x] at n2
  have K0:0<E*g*Δ:=W1m Eg0 D0
  have K1:E*g*Δ<=2^(c+r+G):=by rw[W0x 2 (c+r)];exact W2b Eg1 D1
  have a':=ha.sc K0 K1
  rw[show e*e*E*g*Δ=e*e*(E*g*Δ) by ac_rfl] at n2
  have half:∀ {w S:El k},add k w w=S->IsD (e*e*(E*g*Δ)) (n*n*2^(c+r+G+2)) (toL k S)->IsD (e*e*(E*g*Δ)*2) (n*n*2^(c+r+G+2)) (toL k w):=λe h=>IsD.dbl (by rw[<-Xav,e];exact h)
  have s1:IsD (e*e*(E*g*Δ)) (n*n*2^(c+r+G+2)) (toL k (add k a1 N)):=by
   rw[Xav]
   refine((a'.pw (show _<=c+r+G+1 by omega)).add (n2.pw (show _<=c+r+G+1 by omega))).mono ?_
   rw[W0y 2 (c+r+G+1),<-W0w,Nat.mul_two];exact W0a _
  have s2:IsD (e*e*(E*g*Δ)) (n*n*2^(c+r+G+2)) (toL k (add k a1 (neg k N))):=by
   rw[Xav,Xb6]
   refine((a'.pw (show _<=c+r+G+1 by omega)).add ((n2.pw (show _<=c+r+G+1 by omega)).neg)).mono ?_
   rw[W0y 2 (c+r+G+1),<-W0w,Nat.mul_two];exact W0a _
  have u1:=half (w:=mul k t.1 u u) (by rw[<-h1,hN];exact(Laws.req L [u,v,t.2] (.add (.mul (.v 0) (.v 0)) (.mul (.v 0) (.v 0))) (.add (.add (.mul (.v 0) (.v 0)) (.mul (.mul (.v 1) (.v 1)) (.v 2))) (.add (.mul (.v 0) (.v 0)) (.neg (.mul (.mul (.v 1) (.v 1)) (.v 2))))) (by decide +kernel))) s1
  have v1:=half (w:=mul k t.1 (mul k t.1 v v) t.2) (by rw[<-h1,hN];exact(Laws.req L [u,v,t.2] (.add (.mul (.mul (.v 1) (.v 1)) (.v 2)) (.mul (.mul (.v 1) (.v 1)) (.v 2))) (.add (.add (.mul (.v 0) (.v 0)) (.mul (.mul (.v 1) (.v 1)) (.v 2))) (.neg (.add (.mul (.v 0) (.v 0)) (.neg (.mul (.mul (.v 1) (.v 1)) (.v 2)))))) (by decide +kernel))) s2
  have K2:0<E*g*Δ*2:=W1m K0 (by decide)
  have ek:0<e*(E*g*Δ*2):=W1m he K2
  have sq:∀ {w:El k} {x:Nat},x<=(c+r+G+2)+(c+r+G+2)->IsD (e*(E*g*Δ*2)*(e*(E*g*Δ*2))) (n*n*2^x) (toL k (mul k t.1 w w))->IsD (e*(E*g*Δ*2)*Δ) (n*2^(c+r+G+2+G)) (toL k w):=λ{w x} hx h=>by
   have h':=D2 w _ (n*2^(c+r+G+2)) ek ((h.pw hx).mono (by rw[W0x 2 (c+r+G+2) (c+r+G+2)];exact Nat.le_of_eq (by ac_rfl)))
   rwa[W0w n,<-W0x] at h'
  have u2:IsD (e*(E*g*Δ*2)*Δ) (n*2^(c+r+G+2+G)) (toL k u):=by
   refine sq (x:=c+r+G+2+(c+r+G+1)) (by omega) ?_
   have:=u1.sc K2 (show E*g*Δ*2<=2^(c+r+G+1) by rw[W0y];exact W0q _ K1)
   rwa[show e*e*(E*g*Δ)*2*(E*g*Δ*2)=e*(E*g*Δ*2)*(e*(E*g*Δ*2)) by ac_rfl] at this
  have v2:IsD (e*(E*g*Δ*2)*Δ) (n*2^(c+r+G+2+G)) (toL k (mul k t.1 v t.2)):=by
   refine sq (x:=c+r+G+2+r+c+(G+1)) (by omega) ?_
   have:=(M (W1m (W1m e0 K0) (by decide)) g0 v1 g2).sc (W1m D0 (by decide:0<2)) (show Δ*2<=2^(G+1) by rw[W0y];exact W0q _ D1)
   rw[W4a,show e*e*(E*g*Δ)*2*g*E*(Δ*2)=e*(E*g*Δ*2)*(e*(E*g*Δ*2)) by ac_rfl] at this
   rwa[show mul k t.1 (mul k t.1 v t.2) (mul k t.1 v t.2)=mul k t.1 (mul k t.1 (mul k t.1 v v) t.2) t.2 from(Laws.req L [v,t.2] (.mul (.mul (.v 0) (.v 1)) (.mul (.v 0) (.v 1))) (.mul (.mul (.mul (.v 0) (.v 0)) (.v 1)) (.v 1)) (by decide +kernel))]
  have v3:IsD (e*(E*g*Δ*2)*Δ*f*E) (n*1*2^(c+r+G+2+G+q+c)) (toL k v):=by
   have:=M (W1m ek D0) f0 v2 f2
   rwa[show mul k t.1 (mul k t.1 v t.2) i=v by rw[L.ma,L.mc t.2,hi,L.mo]] at this
  have u3:=u2.sc (W1m f0 E0) (show f*E<=2^(q+c) by rw[W0x];exact W2b f1 E1)
  rw[show e*(2*(E*g*Δ)*Δ*(f*E))=e*(E*g*Δ*2)*Δ*(f*E) by ac_rfl,hg']
  refine IsD.append (u3.pw (by omega)) ?_
  rw[W4a,W0w _ f E] at v3
  exact v3.pw (by omega)
theorem Sz.rootS{k r p:Nat}{t:Tw k}{s a:El k}(hT:TS r k t)(hR:red k t)(ha:Sz p (toL k a))(e:Tow.mul k t s s=a): Sz (p+gC r k) (toL k s):=by
 obtain⟨Δ,D0,D1,D2⟩:=Xp1 hT hR
 obtain⟨d,d0,d1,d2⟩:=ha
 subst e
 have:=D2 s d (2^p) d0 ((d2.scale d0).mono (W0t _ (W2h d1)))
 rw[<-W0x] at this
 refine⟨_,W1m d0 D0,?_,this⟩
 rw[W0x]
 exact W0v (W3c d1 D0) (W0t _ D1)
def sX(r k p:Nat): Nat:=p+nS r k p+gC r k+cB r k+iS r k r+4
def vB(r:Nat): Nat->Nat->Nat
 | 0,p=>p
 | k+1,p=>vB r k (nB r k p)
def qB(r:Nat): Nat->Nat->Nat
 | 0,p=>p
 | k+1,p=>p+vB r (k+1) p+vB r (k+1) r+nB r k p+qB r k (sX r k p)+iB r k (sX r k p+gC r k)+iS r k (sX r k p+gC r k)+iB r k r+2*cB r k+4
theorem Xur{r k p q:Nat}(h:p<=q): nB r k p<=nB r k q:=by unfold nB;omega
theorem Xcv{r:Nat}: ∀ {k s s':Nat},s<=s'->vB r k s<=vB r k s'
 | 0,_,_,h=>h
 | k+1,_,_,h=>Xcv (k:=k) (Xur h)
theorem Xds{r:Nat}: ∀(k s:Nat),s<=vB r k s
 | 0,_=>W0a _
 | k+1,s=>W0k (Xr0 r k s) (Xds k _)
theorem Xgj{r i k s:Nat}(h:i<=k): vB r i s<=vB r k s:=by
 induction k generalizing s with
 | zero=>rw[show i=0 by omega];exact W0a _
 | succ k ih =>
  by_cases e:i=k+1
  . rw[e];exact W0a _
  . exact W0k (ih (by omega)) (Xcv (k:=k) (Xr0 r k s))
theorem Yc8{r k p q:Nat}(h:p<=q): sX r k p<=sX r k q:=by
 have:=Xup (W0a r) h (k:=k)
 unfold sX;omega
theorem Xdd{r:Nat}: ∀ {k p q:Nat},p<=q->qB r k p<=qB r k q
 | 0,_,_,h=>h
 | k+1,p,q,h=>by
  have h1:=Xcv (r:=r) (k:=k+1) h
  have h2:=Xur (r:=r) (k:=k) h
  have h3:=Yc8 (r:=r) (k:=k) h
  have h4:=Xdd (r:=r) (k:=k) h3
  have h5:=Xin (W0a r) (k:=k) (show sX r k p+gC r k<=sX r k q+gC r k by omega)
  have h6:=Xol (W0a r) (k:=k) (show sX r k p+gC r k<=sX r k q+gC r k by omega)
  unfold qB;omega
theorem Ydg{r:Nat}: ∀ {k p:Nat},p<=qB r k p
 | 0,_=>W0a _
 | k+1,_=>by unfold qB;omega
theorem Xn2{r i k p:Nat}(h:i<=k): qB r i p<=qB r k p:=by
 induction k generalizing p with
 | zero=>rw[show i=0 by omega];exact W0a _
 | succ k ih =>
  by_cases e:i=k+1
  . rw[e];exact W0a _
  . have h1:=ih (p:=p) (by omega)
    have h2:qB r k p<=qB r k (sX r k p):=Xdd (by unfold sX;omega)
    have h3:qB r k (sX r k p) <= qB r (k + 1) p := by conv => rhs; unfold qB
                                                      omega
    omega
open Go Go.Vm Go.Num Go.Tow
theorem Xhg(x:Rat): Xba x.num 0=Xi5 x:=by
 rcases Xaw x.num 0 with ⟨h,e⟩ | ⟨h,e⟩ | ⟨h,e⟩<;>rw[e]
 . rw[Xet (by rw[Rat.lt_iff];show x.num*1<0*_;omega)]
 . rw[W6b.1 h];rfl
 . rw[Xb7 (by rw[Rat.lt_iff];show 0*_<x.num*1;omega)]
theorem Ya1{k:Nat}(t:Tw (k+1))(a:Tow.El (k+1)): sgn (k+1) t a=if sgn k t.1 a.2=0\/sgn k t.1 a.1=sgn k t.1 a.2 then sgn k t.1 a.1 else if sgn k t.1 a.1=0 then sgn k t.1 a.2 else sgn k t.1 a.1*sgn k t.1 (Tow.norm k t a):=rfl
theorem Xto{k:Nat}{t t':Tw k}{a b:Tow.El k}: arB .mul .i64 (sgn k t a) (sgn k t' b) (sgn k t a*sgn k t' b):=by
 rcases Xca t a with h | h | h<;>rcases Xca t' b with h' | h' | h'<;>rw[h,h']<;>exact wr rfl (by simp[inK])
theorem Xkc{k:Nat}: ∀ {r s:Nat} {t:Tw k} {a:Tow.El k},TS r k t->Sz s (toL k a)->k<=16->vB r k s<=4398046511104->r<=4398046511104->C0 150 [.d (dt t),.d (de a)] (·=.d (.int .i64 (sgn k t a))):=by
 induction k with
 | zero =>
  intro r s t a hT ha hk hs hr
  have hs:s<=4398046511104:=hs
  have key:∀y:Rat,Qs s y->C0 150 [.d (dts []),.d (dqs [y])] (·=.d (.int .i64 (Xi5 y))):=λy hy=>by
   refine En Tryz.func150 λ_ _ _=>?_
   refine Yes rfl rfl ?_
   refine Ix 0 rfl (u:=dq y) rfl ?_
   refine Ce rfl (Xf2 hy (by omega)) ?_
   rw[Xhg]
   exact R0
  exact key a (ha.qs (W0h.2 rfl))
 | succ k ih =>
  intro r s t a hT ha hk hs hr
  have hx:Sz s (toL k a.1):=Sz.left ha
  have hy:Sz s (toL k a.2):=Sz.right ha
  have hv:vB r k (nB r k s)<=4398046511104:=hs
  have hv1:=Xds (r:=r) k (nB r k s)
  have hv2:=Xcv (r:=r) (k:=k) (Xr0 r k s)
  have hn:nB r k s=4*s+3*cB r k+r+1:=rfl
  have hz:=ha.norm hT
  refine En Tryz.func150 λ_ _ _=>?_
  refine No rfl (by show ¬((((toT k t.1++[toL k t.2]).map dqs).length:Nat):Int)=0;rw[twL];omega) ?_
  refine Ar k rfl ?_ (tw1 t (by omega))
  refine Ar (2^k:Nat) rfl ?_ (hvq a (by omega))
  refine Dw rfl ?_
  refine Tk k ((toT k t.1).map dqs) rfl rfl (Xi6 t) (twT t) ?_
  refine Tk (2^k) ((toL k a.1).map dq) rfl rfl (Xcc a) (hvT a) ?_
  refine Dp (2^k) ((toL k a.2).map dq) rfl rfl (Xcc a) (hvD a) ?_
  refine Ce rfl (ih hT.1 hx (by omega) (by omega) hr) ?_
  refine Ce rfl (ih hT.1 hy (by omega) (by omega) hr) ?_
  rw[Ya1]
  refine By rfl (λh=>?_) λh=>?_
  . rw[if_pos (.inl h)]
    exact R0
  . refine By rfl (λh1=>?_) λh1=>?_
    . rw[if_pos (.inr h1)]
      exact R0
    . rw[if_neg (λe=>e.elim h h1)]
      refine By rfl (λh2=>?_) λh2=>?_
      . rw[if_pos h2]
        exact R0
      . rw[if_neg h2]
        refine Dw rfl ?_
        refine Ce rfl (Xdv hT.1 hx hx (by omega) (by omega) hr) ?_
        refine Ix k rfl (twU t) ?_
        refine Ce rfl (Xdv hT.1 hy hy (by omega) (by omega) hr) ?_
        refine Ce rfl (Xdv hT.1 hT.2 (hy.mul hT.1 hy) (by omega) (by omega) hr) ?_
        refine Ce rfl (Xki hT.1 (hx.mul hT.1 hx) (hT.2.mul hT.1 (hy.mul hT.1 hy)) (by omega) (by omega) hr) ?_
        rw[(Xaz k t.1).mc t.2]
        refine Ce rfl (ih hT.1 hz (by omega) hv hr) ?_
        refine Ar _ rfl ?_ Xto
        exact R0
theorem Tw.take{k:Nat}: ∀ {t:Tw k} {i:Nat},i<k->∃(w:Tw i) (x:Tow.El i),(toT k t).take i=toT i w/\(toT k t)[i]?=some (toL i x)/\(∀r,TS r k t->TS r i w/\Sz r (toL i x))/\(Xb4 k t->Xb4 i w/\sgn i w x=1)/\(red k t->red i w/\sgn i w x=1/\¬Xcp i w x):=by
 induction k with
 | zero=>intro t i h;omega
 | succ k ih =>
  intro t i h
  have hl:=Xaa k t.1
  by_cases e:i=k
  . subst e
    refine⟨t.1,t.2,W6e hl,?_,λr h=>h,λh=>h,λh=>h⟩
    show (toT i t.1++[toL i t.2])[i]?=_
    rw[W0u (by omega),hl,W3b];rfl
  . obtain⟨w,x,h1,h2,h3,h4,h5⟩:=ih (t:=t.1) (i:=i) (by omega)
    refine⟨w,x,?_,?_,λr h=>h3 r h.1,λh=>h4 h.1,λh=>h5 h.1⟩
    . show (toT k t.1++[toL k t.2]).take i=_
      rw[W6h (by omega),h1]
    . show (toT k t.1++[toL k t.2])[i]?=_
      rw[W1a (by omega),h2]
theorem qs0: Qs 1 0:=⟨show (0:Rat).num.natAbs<2^1 by decide +kernel,show ((0:Rat).den:Int).natAbs<2^1 by decide +kernel⟩
section
variable{k r s:Nat}{t:Tw k}{a:Tow.El k}
theorem Xo4(hT:TS r k t)(hR:Xb4 k t)(hk:k<=16)(hv:vB r k r<=4398046511104)(hr:r<=4398046511104): C0 231 [.d (dt t)] (·=.b true):=by
 refine En Tryz.func231 λ_ _ _=>?_
 refine Ce rfl (Xat (z:=0) (by decide)) ?_
 refine Ce rfl (Xcw (x:=0) (p:=1) hT hk hr qs0 (by decide)) ?_
 refine Ce rfl (Xb0 hT (Sz.rat (p:=1) k qs0) hk (by decide) hr) ?_
 refine No rfl (by simp) ?_
 refine Lo (λi:Nat=>[(0,.d (dt t)),(11,.d (dt t)),(12,.d (.int .i64 ((toT k t).map dqs).length)),(13,.d (.int .i64 i))]) (λ_=>[]) (λi=>i<=k) (λi=>k-i) 0 [] rfl (by omega) (λi hi=>?_)
 refine By rfl (λh=>?_) λh=>?_<;>simp only[lt',Xaa] at h
 . obtain⟨w,x,h1,h2,h3,h4,h5⟩:=Tw.take (t:=t) (i:=i) (by omega)
   have hx:=h3 r hT
   have h6:=Xgj (r:=r) (s:=r) (show i<=k by omega)
   refine Ix i rfl (mp h2) ?_
   refine Tk i ((toT i w).map dqs) rfl rfl (by rw[lt',Xaa];omega) (by rw[<-W2e,h1]) ?_
   refine Ce rfl (Xkc hx.1 hx.2 (by omega) (by omega) hr) ?_
   refine No rfl (by rw[(h4 hR).2];decide) ?_
   refine Ar (i+1:Nat) rfl ?_
   exact Bk (i+1) [] rfl (show i+1<=k by omega) (by show k-(i+1)<k-i;omega)
 . exact R0
theorem Xk9{l:List (List Rat)}(hT:TS r k t)(hR:Xb4 k t)(hk:k<=16)(hv:vB r k r<=4398046511104)(hr:r<=4398046511104)(hl:∀x∈l,∃a:Tow.El k,x=toL k a/\Sz s (toL k a))(hn:l.length<=1000)(hs:s<=4398046511104): C0 149 [.d (dt t),.d (dts l)] (·=.b true):=by
 refine En Tryz.func149 λ_ _ _=>?_
 refine Lo (λi:Nat=>[(0,.d (dt t)),(7,.d (dts l)),(8,.d (.int .i64 (l.map dqs).length)),(9,.d (.int .i64 i))]) (λ_=>[]) (λi=>i<=l.length) (λi=>l.length-i) 0 [] rfl (by omega) (λi hi=>?_)
 refine By rfl (λh=>?_) λh=>?_<;>simp only[lt'] at h
 . obtain⟨x,hx⟩:∃x,l[i]?=some x:=⟨_,W0c (by omega)⟩
   obtain⟨a,rfl,ha⟩:=hl x (W0f hx)
   refine Ix i rfl (mp hx) ?_
   refine Ce rfl (Xb0 hT ha hk hs hr) ?_
   refine No rfl (by simp) ?_
   refine Ar (i+1:Nat) rfl ?_
   exact Bk (i+1) [] rfl (show i+1<=l.length by omega) (by show l.length-(i+1)<l.length-i;omega)
 . refine Ce rfl (Xo4 hT hR hk hv hr) ?_
   exact R0
theorem Xlo(hT:TS r k t)(ha:Sz s (toL k a))(hR:Xb4 k t)(hk:k<=16)(hs:vB r k s<=4398046511104)(hv:vB r k r<=4398046511104)(hr:r<=4398046511104): C0 140 [.d (dt t),.d (de a)] (·=.d (.int .i64 (sgn k t a))):=by
 have:=Xds (r:=r) k s
 refine En Tryz.func140 λ_ _ _=>?_
 refine Ce rfl (Xk9 (l:=[toL k a]) (s:=s) hT hR hk hv hr (λx hx=>⟨a,W0h.1 hx,ha⟩) (by simp) (by omega)) ?_
 refine No rfl (by simp) ?_
 refine Ce rfl (Xkc hT ha hk hs hr) ?_
 exact R0
end
end Go.Proofs.YtfjafaehfjjaiaaGreatDoor
namespace Go.Proofs.YtfjafaehfjjaiaaGreatDoor.R7
open Go Go.Vm Go.Num Go.Tow Go.Proofs.YtfjafaehfjjaiaaGreatDoor
theorem Xnu{k:Nat}: ∀ {r s:Nat} {t:Tw k} {a:Tow.El k},TS r k t->Sz s (toL k a)->k<=16->vB r k s<=4398046511104->C0 128 [.d (dt t),.d (de a)] (·=.d (.int .i64 (sgn k t a))):=by
 induction k with
 | zero =>
  intro r s t a hT ha hk hs
  have hs:s<=4398046511104:=hs
  have key:∀y:Rat,Qs s y->C0 128 [.d (dts []),.d (dqs [y])] (·=.d (.int .i64 (Xi5 y))):=λy hy=>by
   refine En Tryz.func128 λ_ _ _=>?_
   refine Yes rfl rfl ?_
   refine Ix 0 rfl (u:=dq y) rfl ?_
   refine Ce rfl (R2.Sign_ok hy (by omega)) ?_
   rw[Xhg]
   exact R0
  exact key a (ha.qs (W0h.2 rfl))
 | succ k ih =>
  intro r s t a hT ha hk hs
  have hx:Sz s (toL k a.1):=Sz.left ha
  have hy:Sz s (toL k a.2):=Sz.right ha
  have hv:vB r k (nB r k s)<=4398046511104:=hs
  have hv1:=Xds (r:=r) k (nB r k s)
  have hv2:=Xcv (r:=r) (k:=k) (Xr0 r k s)
  have hz:=ha.norm hT
  refine En Tryz.func128 λ_ _ _=>?_
  refine No rfl (by show ¬((((toT k t.1++[toL k t.2]).map dqs).length:Nat):Int)=0;rw[twL];omega) ?_
  refine Ar k rfl ?_ (tw1 t (by omega))
  refine Dw rfl ?_
  refine Ar (2^k:Nat) rfl ?_ (hvq a (by omega))
  refine Tk (2^k) ((toL k a.1).map dq) rfl rfl (Xcc a) (hvT a) ?_
  refine Ar (2^k:Nat) rfl ?_ (hvq a (by omega))
  refine Dp (2^k) ((toL k a.2).map dq) rfl rfl (Xcc a) (hvD a) ?_
  refine Dw rfl ?_
  refine Tk k ((toT k t.1).map dqs) rfl rfl (Xi6 t) (twT t) ?_
  refine Ce rfl (ih hT.1 hx (by omega) (by omega)) ?_
  refine Tk k ((toT k t.1).map dqs) rfl rfl (Xi6 t) (twT t) ?_
  refine Ce rfl (ih hT.1 hy (by omega) (by omega)) ?_
  rw[Ya1]
  refine By rfl (λh=>?_) λh=>?_
  . rw[if_pos (.inl h)]
    exact R0
  . refine By rfl (λh1=>?_) λh1=>?_
    . rw[if_pos (.inr h1)]
      exact R0
    . rw[if_neg (λe=>e.elim h h1)]
      refine By rfl (λh2=>?_) λh2=>?_
      . rw[if_pos h2]
        exact R0
      . rw[if_neg h2]
        refine Dw rfl ?_
        refine Tk k ((toT k t.1).map dqs) rfl rfl (Xi6 t) (twT t) ?_
        refine Ce rfl (R6.Norm_ok hT ha hk (by omega)) ?_
        refine Ce rfl (ih hT.1 hz (by omega) hv) ?_
        refine Ar _ rfl ?_ Xto
        exact R0
section
variable{k r s:Nat}{t:Tw k}{a:Tow.El k}
theorem Xo4(hT:TS r k t)(hR:Xb4 k t)(hk:k<=16)(hv:vB r k r<=4398046511104): C0 285 [.d (dt t)] (·=.b true):=by
 have:=Xds (r:=r) k r
 refine En Tryz.func285 λ_ _ _=>?_
 refine Ce rfl (R6.Tower_ok (TS.pt hT) (by omega) (by rw[Xaa];omega)) ?_
 refine No rfl (by simp) ?_
 refine Lo (λi:Nat=>[(0,.d (dt t)),(3,.d (.int .i64 i))]) (λ_=>[]) (λi=>i<=k) (λi=>k-i) 0 [] rfl (by omega) (λi hi=>?_)
 refine By rfl (λh=>?_) λh=>?_<;>simp only[lt',Xaa] at h
 . obtain⟨w,x,h1,h2,h3,h4,h5⟩:=Tw.take (t:=t) (i:=i) (by omega)
   have hx:=h3 r hT
   have h6:=Xgj (r:=r) (s:=r) (show i<=k by omega)
   refine Dw rfl ?_
   refine Tk i ((toT i w).map dqs) rfl rfl (by rw[lt',Xaa];omega) (by rw[<-W2e,h1]) ?_
   refine Ix i rfl (mp h2) ?_
   refine Ce rfl (Xnu hx.1 hx.2 (by omega) (by omega)) ?_
   refine No rfl (by rw[(h4 hR).2];simp) ?_
   refine Ar (i+1:Nat) rfl ?_
   exact Bk (i+1) [] rfl (show i+1<=k by omega) (by show k-(i+1)<k-i;omega)
 . exact R0
theorem Sign_ok(hT:TS r k t)(ha:Sz s (toL k a))(hR:Xb4 k t)(hk:k<=16)(hs:vB r k s<=4398046511104)(hv:vB r k r<=4398046511104): C0 225 [.d (dt t),.d (de a)] (·=.d (.int .i64 (sgn k t a))):=by
 have:=Xds (r:=r) k s
 have:=Xds (r:=r) k r
 refine En Tryz.func225 λ_ _ _=>?_
 refine Ce rfl (R6.Formed_ok (TS.pt hT) (by omega) ha.ps (by omega) (by rw[Xaa];omega) (Yfv t a)) ?_
 refine No rfl (by simp) ?_
 refine Ce rfl (Xo4 hT hR hk hv) ?_
 refine No rfl (by simp) ?_
 refine Ce rfl (Xnu hT ha hk hs) ?_
 exact R0
theorem Fast_ok(hT:TS r k t)(ha:Sz s (toL k a))(hk:k<=16)(hs:vB r k s<=4398046511104): C0 72 [.d (dt t),.d (de a)] (·=.d (.int .i64 (sgn k t a))):=by
 refine En Tryz.func72 λ_ _ _=>?_
 refine Ce rfl (Xnu hT ha hk hs) ?_
 exact R0
end
end Go.Proofs.YtfjafaehfjjaiaaGreatDoor.R7
namespace Go.Num
theorem Zs.len2{p:Nat}{z:Int}(h:Zs p z)(hp:p<=4398046511104): (dig z.natAbs).length<=137438953473:=by
 have h1:z.natAbs<4294967296^(p/32+1):=by
  rw[show 4294967296=2^32 from rfl,<-W5w]
  exact W0v h (W0m (by decide) (by omega))
 have:=Xas h1
 omega
end Go.Num
namespace Go.Proofs.YtfjafaehfjjaiaaGreatDoor.R2
open Go Go.Vm Go.Num Go.Proofs.YtfjafaehfjjaiaaGreatDoor
def dR(b:Bool)(l:List Nat)(b':Bool)(l':List Nat): D:=.st (.pr (dS b l) (dS b' l'))
theorem Sqrt_ok{x:Rat}{p:Nat}(hx:Qs p x)(hp:p<=4398046511104): C0 286 [.d (dq x)] λv=>∃b l b' l',v=.tup (.pr (.d (dR b l b' l')) (.b (dc (∃y:Rat,y*y=x))))/\((∃y:Rat,y*y=x)->∃y:Rat,y*y=x/\dR b l b' l'=dq y):=by
 have h1:=hx.n.len2 hp
 have h2:=hx.d.len2 hp
 have hi:=Xti (q:=x)
 have no:¬(∃y:Rat,y*y=x)->∀ {g K},FitT g K (.b false) (.b (dc (∃y:Rat,y*y=x))):=λh _ _=>.one (by exact .bp (c:=false) ⟨nofun,λe=>absurd e h⟩) (λ_ _ e=>by cases e) (λ_ _ e=>by cases e)
 refine En Tryz.func286 λ_ _ _=>?_
 refine By rfl (λh=>?_) λh=>?_
 . exact Rt rfl (.tup (.cons (.sd (.pd (.sd (.pd (.bd rfl) (.nil rfl))) (.sd (.pd (.bd rfl) (.nil rfl)))))  (no λe=>by have:=(hi.1 e).1;omega))) ⟨false,[],false,[],rfl,λe=>by have:=(hi.1 e).1;omega⟩
 have hn:((x.num.natAbs:Nat):Int)=x.num:=by omega
 have hs:=R1.Sqrt_ok (a:=x.num.natAbs) (by omega)
 rw[hn] at hs
 have hd:=R1.Sqrt_ok (a:=x.den) (by rw[W1f] at h2;omega)
 have hr:∀n:Nat,n<2^p->Zs p (rt n:Int)/\Zs p ((rt n:Int)*(rt n:Int)):=λn hn=>by
  have:=(Xdc n).1
  have h3:rt n<=rt n*rt n:=Nat.le_mul_self _
  unfold Zs
  rw[W3p,W1f]
  omega
 obtain⟨r1,r2⟩:=hr _ (show x.num.natAbs<2^p from hx.n)
 obtain⟨r3,r4⟩:=hr x.den (by have:=hx.d;unfold Zs at this;rwa[W1f] at this)
 have r1:=r1.len2 hp
 have r2:=r2.len2 hp
 have r3:=r3.len2 hp
 have r4:=r4.len2 hp
 refine Ce rfl hs ?_
 refine Ce rfl hd ?_
 refine Dw rfl ?_
 refine Ce rfl (R1.Mul_ok (by omega) (by omega)) ?_
 refine Ce rfl (Xj8 (by omega)) ?_
 refine By rfl (λh=>?_) λh=>?_
 . have hno:¬ ∃y:Rat,y*y=x:=λe=>by
    have h3:=(hi.1 e).2.1
    unfold sqN at h3
    have h4:¬(rt x.num.natAbs:Int)*(rt x.num.natAbs:Int)=x.num:=by simpa [Xal,Xah] using h
    exact h4 (by rw[<-W2p,h3,hn])
   exact Rt rfl (.tup (.cons (.sd (.pd (.sd (.pd (.bd rfl) (.nil rfl))) (.sd (.pd (.bd rfl) (.nil rfl))))) (no hno))) ⟨false,[],false,[],rfl,λe=>absurd e hno⟩
 have k1:(rt x.num.natAbs:Int)*(rt x.num.natAbs:Int)=x.num:=by simpa [Xal,Xah] using h
 refine Ce rfl (R1.Mul_ok (by omega) (by omega)) ?_
 refine Ce rfl (Xj8 (by omega)) ?_
 refine By rfl (λh=>?_) λh=>?_
 . have hno:¬ ∃y:Rat,y*y=x:=λe=>by
    have h3:=(hi.1 e).2.2
    unfold sqN at h3
    have h4:¬(rt x.den:Int)*(rt x.den:Int)=x.den:=by simpa [Xal,Xah] using h
    exact h4 (by rw[<-W2p,h3])
   exact Rt rfl (.tup (.cons (.sd (.pd (.sd (.pd (.bd rfl) (.nil rfl))) (.sd (.pd (.bd rfl) (.nil rfl))))) (no hno))) ⟨false,[],false,[],rfl,λe=>absurd e hno⟩
 have k2:(rt x.den:Int)*(rt x.den:Int)=x.den:=by simpa [Xal,Xah] using h
 obtain⟨y,y1,y2,y3⟩:=Xkm (q:=x) (by omega) (by unfold sqN;omega) (by unfold sqN;omega)
 refine Rt rfl (.tup (.cons (.rf rfl) (.one (by exact .bp (c:=true) ⟨λ_=>⟨y,y3⟩,λ_=>rfl⟩) (λ_ _ e=>by cases e) (λ_ _ e=>by cases e)))) ⟨_,_,_,_,rfl,λ_=>⟨y,y3,?_⟩⟩
 show D.st (.pr (dz _) (dz _))=D.st (.pr (dz _) (dz _))
 rw[y1,y2]
end Go.Proofs.YtfjafaehfjjaiaaGreatDoor.R2
namespace Go.Proofs.YtfjafaehfjjaiaaGreatDoor
open Go Go.Vm Go.Num Go.Tow
theorem Xv7{p:Prop}(h:¬p){g:Hp}{K:Hpl}: FitT g K (.b false) (.b (dc p)):=.one (by exact .bp (c:=false) ⟨nofun,λe=>absurd e h⟩) (λ_ _ e=>by cases e) (λ_ _ e=>by cases e)
theorem Xxp{p:Prop}(h:p){g:Hp}{K:Hpl}: FitT g K (.b true) (.b (dc p)):=.one (by exact .bp (c:=true) ⟨λ_=>h,λ_=>rfl⟩) (λ_ _ e=>by cases e) (λ_ _ e=>by cases e)
theorem Xa7{n:Int}{g:Hp}{K:Hpl}: FitT g K (.d (.int .i64 n)) (.d (.int .i64 n)):=.one (.rf rfl) (λ_ _ e=>by cases e) (λ_ _ e=>by cases e)
def SqR(k:Nat)(t:Tw k)(a:Tow.El k)(v:AV): Prop:=∃w:D,v=.tup (.pr (.d w) (.b (dc (Xcp k t a))))/\(Xcp k t a->∃x,mul k t x x=a/\w=de x)
theorem Xvz: (Rat.divInt 1 2)=1/2:=by decide +kernel
end Go.Proofs.YtfjafaehfjjaiaaGreatDoor
namespace Go.Proofs.YtfjafaehfjjaiaaGreatDoor.R6
open Go Go.Vm Go.Num Go.Tow Go.Proofs.YtfjafaehfjjaiaaGreatDoor
theorem FromRat_el{k:Nat}{t:Tw k}{x:Rat}(hk:k<=16): C0 265 [.d (dt t),.d (dq x)] (·=.d (de (rat k x))):=by
 have:=FromRat_ok (t:=toT k t) (x:=x) (by rw[Xaa];omega)
 rwa[Xaa,<-Xcm] at this
theorem FromRat_z{k:Nat}{t:Tw k}(hk:k<=16): C0 265 [.d (dt t),.d (dq 0)] (·=.d (de (zero k))):=by
 have:=FromRat_el (t:=t) (x:=0) hk
 rwa[Xdx] at this
end Go.Proofs.YtfjafaehfjjaiaaGreatDoor.R6
namespace Go.Proofs.YtfjafaehfjjaiaaGreatDoor.R8
open Go Go.Vm Go.Num Go.Tow Go.Proofs.YtfjafaehfjjaiaaGreatDoor
theorem Yd6{l m:List Rat}(h0:0<l.length)(hl:l.length+m.length<=1048576): C0 287 [.d (dqs l),.d (dqs m)] (·=.d (dqs (l++m))):=by
 refine En Tryz.func287 λ_ _ _=>?_
 refine ApL (l.map dq) rfl rfl (by simp;omega) (by simp;omega) ?_
 refine ApO ((l++m).map dq) rfl rfl rfl (by simp) (by simp;omega) ?_
 exact R1 rfl (.own rfl (by simp) (by rw[W1d];exact W0b (by simp)))
theorem Xoh{k:Nat}{x y:Tow.El k}(hk:k<=16): C0 287 [.d (de x),.d (de y)] (·=.d (de (pr x y))) :=
 Yd6 (by rw[Xab];exact W0r k) (by rw[Xab,Xab];have:=p16 hk;omega)
theorem Xea{k:Nat}: ∀ {r p:Nat} {t:Tw k} {a:Tow.El k},TS r k t->Sz p (toL k a)->red k t->k<=16->qB r k p<=4398046511104->C0 226 [.d (dt t),.d (de a)] (SqR k t a):=by
 induction k with
 | zero =>
  intro r p t a hT ha hR hk hq
  have hq:p<=4398046511104:=hq
  have key:∀y:Rat,Qs p y->C0 226 [.d (dts []),.d (dqs [y])] λv=>∃w:D,v=.tup (.pr (.d w) (.b (dc (∃x:Rat,x*x=y))))/\((∃x:Rat,x*x=y)->∃x:Rat,x*x=y/\w=dqs [x]):=λy hy=>by
   refine En Tryz.func226 λ_ _ _=>?_
   refine Yes rfl rfl ?_
   refine Ix 0 rfl (u:=dq y) rfl ?_
   refine Ca rfl (R2.Sqrt_ok hy (by omega)) λv hv=>?_
   obtain⟨b,l,b',l',rfl,hw⟩:=hv
   exact Rt rfl (.tup (.cons (.lit rfl) (.one (.rf rfl) (λ_ _ e=>by cases e) (λ_ _ e=>by cases e)))) ⟨_,rfl,λh=>let ⟨y,h1,h2⟩:=hw h;⟨y,h1,by rw[show dqs [y]=D.sl 4 [dq y] from rfl,<-h2];rfl⟩⟩
  exact key a (ha.qs (W0h.2 rfl))
 | succ k ih =>
  intro r p t a hT ha hR hk hq
  have hx:Sz p (toL k a.1):=Sz.left ha
  have hy:Sz p (toL k a.2):=Sz.right ha
  have hlen:=Xab k
  have hpk:=p16 (show k<=16 by omega)
  have hz:=ha.normS hT
  have L:=Xaz k t.1
  have hqq:p+vB r (k+1) p+vB r (k+1) r+nB r k p+qB r k (sX r k p)+iB r k (sX r k p+gC r k)+iS r k (sX r k p+gC r k)+iB r k r+2*cB r k+4<=4398046511104:=hq
  have hX:sX r k p=p+nS r k p+gC r k+cB r k+iS r k r+4:=rfl
  have hN:nB r k p=4*p+3*cB r k+r+1:=rfl
  have q1:qB r k p<=qB r k (sX r k p):=Xdd (by omega)
  have q2:qB r k (nS r k p)<=qB r k (sX r k p):=Xdd (by omega)
  have q3:qB r k (p+iS r k r+cB r k)<=qB r k (sX r k p):=Xdd (by omega)
  have q4:sX r k p<=qB r k (sX r k p):=Ydg
  have hr0:t.2≠zero k:=λh0=>hR.2.2 ⟨zero k,by rw[h0,L.mz]⟩
  obtain⟨i,hi⟩:=(Xcn hR.1).2 t.2 hr0
  have him:=Xb9 hi
  have hiz:=Sz.invS hT.1 hT.2 hi
  refine En Tryz.func226 λ_ _ _=>?_
  refine No rfl (by show ¬((((toT k t.1++[toL k t.2]).map dqs).length:Nat):Int)=0;rw[twL];omega) ?_
  refine Ce rfl (R7.Sign_ok hT ha (Xad hR) hk (by omega) (by omega)) ?_
  refine By rfl (λh=>?_) λh=>?_
  . have no:¬Xcp (k+1) t a:=λe=>by have:=Yli (Xad hR) e;omega
    exact Rt rfl (.tup (.cons (.nil (sz:=4) rfl) (Xv7 no))) ⟨_,rfl,λe=>absurd e no⟩
  refine Ar k rfl ?_ (tw1 t (by omega))
  refine Dw rfl ?_
  refine Tk k ((toT k t.1).map dqs) rfl rfl (Xi6 t) (twT t) ?_
  refine Ix k rfl (twU t) ?_
  refine Ar (2^k:Nat) rfl ?_ (hvq a (by omega))
  refine Dw rfl ?_
  refine Tk (2^k) ((toL k a.1).map dq) rfl rfl (Xcc a) (hvT a) ?_
  refine Dp (2^k) ((toL k a.2).map dq) rfl rfl (Xcc a) (hvD a) ?_
  refine Ce rfl (R2.FromInt_ok (z:=0) (by decide)) ?_
  refine Ce rfl (R6.FromRat_z (t:=t.1) (by omega)) ?_
  refine Ce rfl (R6.Zero_ok (l:=toL k a.2) (by rw[hlen];omega)) ?_
  refine By rfl (λhv=>?_) λhv=>?_
  . have ev:=(Xam k a.2).2 hv
    have ea:a=up k a.1:=by show (a.1,a.2)=(a.1,zero k);rw[ev]
    refine Ca rfl (ih hT.1 hx hR.1 (by omega) (by omega)) λv hv=>?_
    obtain⟨w,rfl,hw⟩:=hv
    refine By rfl (λh1=>?_) λh1=>?_
    . obtain⟨x,hx1,rfl⟩:=hw h1
      have hs:mul (k+1) t (pr x (zero k)) (pr x (zero k))=a:=(Ygp hx1).trans ea.symm
      refine Ce rfl (Xoh (x:=x) (y:=zero k) (by omega)) ?_
      exact Rt rfl (.tup (.cons (.rf rfl) (Xxp ⟨_,hs⟩))) ⟨_,rfl,λ_=>⟨_,hs,rfl⟩⟩
    . refine Ce rfl (R6.Inv_ok hT.1 hT.2 hR.1 hi (by omega) (by omega)) ?_
      refine Ce rfl (R6.Mul_el hT.1 hx hiz (by omega) (by omega)) ?_
      refine Ca rfl (ih hT.1 (hx.mul hT.1 hiz) hR.1 (by omega) (by omega)) λv hv=>?_
      obtain⟨w,rfl,hw⟩:=hv
      refine By rfl (λh2=>?_) λh2=>?_
      . obtain⟨x,hx1,rfl⟩:=hw h2
        have hs:mul (k+1) t (pr (zero k) x) (pr (zero k) x)=a:=(Xtg him hx1).trans ea.symm
        refine Ce rfl (Xoh (x:=zero k) (y:=x) (by omega)) ?_
        exact Rt rfl (.tup (.cons (.rf rfl) (Xxp ⟨_,hs⟩))) ⟨_,rfl,λ_=>⟨_,hs,rfl⟩⟩
      . have no:¬Xcp (k+1) t a:=ea ▸ Xlz hR.1 him h1 h2
        exact Rt rfl (.tup (.cons (.nil (sz:=4) rfl) (Xv7 no))) ⟨_,rfl,λe=>absurd e no⟩
  have ev:a.2≠zero k:=λe=>hv ((Xam k a.2).1 e)
  refine Ce rfl (R6.Mul_el hT.1 hx hx (by omega) (by omega)) ?_
  refine Ce rfl (R6.Mul_el hT.1 hy hy (by omega) (by omega)) ?_
  refine Ce rfl (R6.Mul_el hT.1 hT.2 (hy.mul hT.1 hy) (by omega) (by omega)) ?_
  refine Ce rfl (R6.Sub_el (by omega) (hx.mul hT.1 hx).ps (hT.2.mul hT.1 (hy.mul hT.1 hy)) (by omega)) ?_
  rw[L.mc t.2]
  refine Ca rfl (ih hT.1 hz hR.1 (by omega) (by omega)) λv hv=>?_
  obtain⟨w,rfl,hw⟩:=hv
  refine By rfl (λh1=>?_) λh1=>?_
  . have no:¬Xcp (k+1) t a:=λe=>by
     exact h1 (Xtf e)
    exact Rt rfl (.tup (.cons (.nil (sz:=4) rfl) (Xv7 no))) ⟨_,rfl,λe=>absurd e no⟩
  obtain⟨m,hm,rfl⟩:=hw (W2g.1 h1)
  have hm:mul k t.1 m m=Tow.norm k t a:=hm
  have hmz:=hz.rootS hT.1 hR.1 hm
  refine Ce rfl (R2.Frac_ok (a:=1) (b:=2) (by decide) (by decide) (by decide)) ?_
  rw[Xvz]
  refine Ce rfl (R6.FromRat_el (t:=t.1) (x:=1/2) (by omega)) ?_
  refine Lo (λ(x:Nat×Tow.El k)=>[(9,.d (dt t.1)),(12,.d (de a.1)),(13,.d (de a.2)),(22,.d (de x.2)),(24,.d (de (rat k (1/2)))),(25,.d (.int .i64 x.1))]) (λ_=>[]) (λx=>(x.1=0/\x.2=m)\/(x.1=1/\x.2=Tow.neg k m/\¬Xcp k t.1 (mul k t.1 (rat k (1/2)) (Tow.add k a.1 m)))\/(x.1=2/\¬Xcp k t.1 (mul k t.1 (rat k (1/2)) (Tow.add k a.1 m))/\¬Xcp k t.1 (mul k t.1 (rat k (1/2)) (Tow.add k a.1 (Tow.neg k m))))) (λx=>2-x.1) (0,m) [] rfl (.inl ⟨rfl,rfl⟩) (λ(j,mm) hI=>?_)
  simp only at hI
  refine By rfl (λh2=>?_) λh2=>?_
  . have hmm:mul k t.1 mm mm=Tow.norm k t a/\Sz (nS r k p+gC r k) (toL k mm):=by
     rcases hI with ⟨_,rfl⟩ | ⟨_,rfl,_⟩ | ⟨rfl,_⟩
     . exact⟨hm,hmz⟩
     . exact⟨by rw[L.mn,L.nm,L.nn,hm],Xg3 hmz⟩
     . omega
    have hS:Sz (3+(p+(nS r k p+gC r k)+1)+cB r k) (toL k (mul k t.1 (rat k (1/2)) (Tow.add k a.1 mm))):=Sz.half.mul hT.1 (by rw[Xav];exact hx.add hmm.2)
    have q5:qB r k (3+(p+(nS r k p+gC r k)+1)+cB r k)<=qB r k (sX r k p):=Xdd (by omega)
    refine Ce rfl (R6.Add_el (by omega) hx.ps hmm.2.ps (by omega)) ?_
    refine Ce rfl (R6.Mul_el hT.1 Sz.half (by rw[Xav];exact hx.add hmm.2) (by omega) (by omega)) ?_
    refine Ca rfl (ih hT.1 hS hR.1 (by omega) (by omega)) λv hv=>?_
    obtain⟨w,rfl,hw⟩:=hv
    refine By rfl (λh3=>?_) λh3=>?_
    . obtain⟨w,hw1,rfl⟩:=hw h3
      have hw0:=Ygo hR ev hmm.1 hw1
      obtain⟨j,hj⟩:=(Xcn hR.1).2 w hw0
      have hwz:Sz (sX r k p+gC r k) (toL k w):=(hS.rootS hT.1 hR.1 hw1).mono (by omega)
      have hjz:=Sz.invS hT.1 hwz hj
      have hs:mul (k+1) t (pr w (mul k t.1 (rat k (1/2)) (mul k t.1 a.2 j))) (pr w (mul k t.1 (rat k (1/2)) (mul k t.1 a.2 j)))=a:=by
       have:=Ygq hmm.1 hw1 (Xy8 (Xb9 hj))
       rwa[show mul k t.1 a.2 (mul k t.1 (rat k (1/2)) j)=mul k t.1 (rat k (1/2)) (mul k t.1 a.2 j) from L.mlc _ _ _] at this
      refine Ce rfl (R6.Inv_ok hT.1 hwz hR.1 hj (by omega) (by omega)) ?_
      refine Ce rfl (R6.Mul_el hT.1 hy hjz (by omega) (by omega)) ?_
      refine Ce rfl (R6.Mul_el hT.1 Sz.half (hy.mul hT.1 hjz) (by omega) (by omega)) ?_
      refine Ce rfl (Xoh (by omega)) ?_
      exact Rt rfl (.tup (.cons (.rf rfl) (Xxp ⟨_,hs⟩))) ⟨_,rfl,λ_=>⟨_,hs,rfl⟩⟩
    . refine Ce rfl (R6.Neg_el (by omega) hmm.2.ps (by omega)) ?_
      refine Ar (j+1:Nat) rfl ?_
      refine Bk (j+1,Tow.neg k mm) [] rfl ?_ (by show 2-(j+1)<2-j;omega)
      rcases hI with ⟨rfl,rfl⟩ | ⟨rfl,rfl,h4⟩ | ⟨rfl,_⟩
      . exact .inr (.inl ⟨rfl,rfl,h3⟩)
      . exact .inr (.inr ⟨rfl,h4,h3⟩)
      . omega
  . have no:¬Xcp (k+1) t a:=λe=>by
     rcases hI with ⟨rfl,rfl⟩ | ⟨rfl,rfl,h4⟩ | ⟨rfl,h4,h5⟩
     . omega
     . omega
     . obtain⟨w,_,h6 | h6⟩:=Xpo hR.1 ev hm e
       . exact h4 ⟨w,h6⟩
       . exact h5 ⟨w,h6⟩
    exact Rt rfl (.tup (.cons (.nil (sz:=4) rfl) (Xv7 no))) ⟨_,rfl,λe=>absurd e no⟩
theorem Xkr{k r p:Nat}{t:Tw k}{a:Tow.El k}(hT:TS r k t)(ha:Sz p (toL k a))(hR:red k t)(hk:k<=16)(hq:qB r k p<=4398046511104)(hv:vB r k (p+gC r k)<=4398046511104)(hr:vB r k r<=4398046511104):
 C0 349 [.d (dt t),.d (de a)] λv=>∃w:D,v=.tup (.pr (.d w) (.b (dc (Xcp k t a))))/\(Xcp k t a->∃x,mul k t x x=a/\0<=sgn k t x/\w=de x):=by
 have L:=Xaz k t
 have S:=Xau (Xad hR)
 have:=Xds (r:=r) k (p+gC r k)
 refine En Tryz.func349 λ_ _ _=>?_
 refine Ca rfl (Xea hT ha hR hk hq) λv hv=>?_
 obtain⟨w,rfl,hw⟩:=hv
 refine By rfl (λh=>?_) λh=>?_
 . exact Rt rfl (.tup (.cons (.nil (sz:=4) rfl) (Xv7 h))) ⟨_,rfl,λe=>absurd e h⟩
 have h:=W2g.1 h
 obtain⟨x,hx,rfl⟩:=hw h
 have hz:=ha.rootS hT hR hx
 refine Ce rfl (R7.Sign_ok hT hz (Xad hR) hk hv hr) ?_
 refine By rfl (λh1=>?_) λh1=>?_
 . refine Ce rfl (R6.Neg_el hk hz.ps (by omega)) ?_
   exact Rt rfl (.tup (.cons (.rf rfl) (Xxp h))) ⟨_,rfl,λ_=>⟨Tow.neg k x,by rw[L.mn,L.nm,L.nn,hx],by rw[S.sn];omega,rfl⟩⟩
 . exact Rt rfl (.tup (.cons (.rf rfl) (Xxp h))) ⟨_,rfl,λ_=>⟨x,hx,by omega,rfl⟩⟩
theorem Reduced_ok{k r:Nat}{t:Tw k}(hT:TS r k t)(hR:red k t)(hk:k<=16)(hq:qB r k r<=4398046511104)(hv:vB r k r<=4398046511104): C0 139 [.d (dt t)] (·=.b true):=by
 have:=Xds (r:=r) k r
 refine En Tryz.func139 λ_ _ _=>?_
 refine Lo (λi:Nat=>[(0,.d (dt t)),(3,.d (.int .i64 i))]) (λ_=>[]) (λi=>i<=k) (λi=>k-i) 0 [] rfl (by omega) (λi hi=>?_)
 refine By rfl (λh=>?_) λh=>?_<;>simp only[lt',Xaa] at h
 . obtain⟨w,x,h1,h2,h3,h4,h5⟩:=Tw.take (t:=t) (i:=i) (by omega)
   have hx:=h3 r hT
   obtain⟨h6,h7,h8⟩:=h5 hR
   have q1:=Xn2 (r:=r) (p:=r) (show i<=k by omega)
   have v1:=Xgj (r:=r) (s:=r) (show i<=k by omega)
   refine Dw rfl ?_
   refine Tk i ((toT i w).map dqs) rfl rfl (by rw[lt',Xaa];omega) (by rw[<-W2e,h1]) ?_
   refine Ix i rfl (mp h2) ?_
   refine Ce rfl (R6.Formed_ok (TS.pt hx.1) (by omega) hx.2.ps (by omega) (by rw[Xaa];omega) (Yfv w x)) ?_
   refine No rfl (by simp) ?_
   refine Tk i ((toT i w).map dqs) rfl rfl (by rw[lt',Xaa];omega) (by rw[<-W2e,h1]) ?_
   refine Ix i rfl (mp h2) ?_
   refine Ce rfl (R7.Sign_ok hx.1 hx.2 (Xad h6) (by omega) (by omega) (by omega)) ?_
   refine No rfl (by omega) ?_
   refine Dw rfl ?_
   refine Tk i ((toT i w).map dqs) rfl rfl (by rw[lt',Xaa];omega) (by rw[<-W2e,h1]) ?_
   refine Ix i rfl (mp h2) ?_
   refine Ca rfl (Xea hx.1 hx.2 h6 (by omega) (by omega)) λv hv=>?_
   obtain⟨d,rfl,hd⟩:=hv
   refine No rfl h8 ?_
   refine Ar (i+1:Nat) rfl ?_
   exact Bk (i+1) [] rfl (show i+1<=k by omega) (by show k-(i+1)<k-i;omega)
 . exact R0
def AdjR(k:Nat)(t:Tw k)(a:Tow.El k)(v:AV): Prop :=
 (sgn k t a<0/\v=.tup (.pr (.d (dts [])) (.pr (.d (dqs [])) (.d (.int .i64 7))))) \/
 (∃x,mul k t x x=a/\0<=sgn k t x/\v=.tup (.pr (.d (dt t)) (.pr (.d (de x)) (.d (.int .i64 0))))) \/
 (0<=sgn k t a/\¬Xcp k t a/\k<8/\v=.tup (.pr (.d (dt (tsn t a))) (.pr (.d (de (Xcr (k+1) k))) (.d (.int .i64 0)))))
theorem Xxl{k r p:Nat}{t:Tw k}{a:Tow.El k}(hT:TS r k t)(ha:Sz p (toL k a))(hR:red k t)(hk:k<8)(hq:qB r k p<=4398046511104)(hv:vB r k (p+gC r k)<=4398046511104)(hr:vB r k r<=4398046511104):
 C0 322 [.d (dt t),.d (de a)] (AdjR k t a):=by
 have h0:=Xcv (r:=r) (k:=k) (show p<=p+gC r k by omega)
 have hlen:=Xaa k t
 refine En Tryz.func322 λ_ _ _=>?_
 refine Ce rfl (R7.Sign_ok hT ha (Xad hR) (by omega) (by omega) hr) ?_
 refine By rfl (λh=>?_) λh=>?_
 . exact Rt rfl (.tup (.cons (.nil rfl) (.cons (.nil rfl) Xa7))) (.inl ⟨h,rfl⟩)
 refine Ca rfl (Xkr hT ha hR (by omega) hq hv hr) λv hv=>?_
 obtain⟨w,rfl,hw⟩:=hv
 refine By rfl (λh1=>?_) λh1=>?_
 . obtain⟨x,x1,x2,rfl⟩:=hw h1
   exact Rt rfl (.tup (.cons (.rf rfl) (.cons (.rf rfl) Xa7))) (.inr (.inl ⟨x,x1,x2,rfl⟩))
 refine No rfl (by simp only[lt',hlen];omega) ?_
 have e:dt (tsn t a)=dts (toT k t++[toL k a]):=rfl
 have e2:(((toT k t).map dqs).length:Int)=k:=by simp[hlen]
 by_cases k0:k=0
 . subst k0
   refine ApE rfl rfl (by decide) ?_
   refine ApL ([toL 0 a].map dqs) rfl rfl (by simp) (by simp) ?_
   refine Fz 9 9 ([toL 0 a].map dqs) rfl (by simp) rfl ?_
   refine Ce rfl (R6.Root_ok (r:=r) (t:=tsn t a) (i:=0) (by omega) (by omega)) ?_
   exact Rt rfl (.tup (.cons (.rf rfl) (.cons (.rf rfl) Xa7))) (.inr (.inr ⟨by omega,h1,hk,rfl⟩))
 . refine ApL ((toT k t).map dqs) rfl rfl (by simp[hlen];omega) (by simp[hlen];omega) ?_
   refine ApO ((toT k t++[toL k a]).map dqs) rfl rfl rfl (by simp) (by simp[hlen];omega) ?_
   refine Fz 9 9 ((toT k t++[toL k a]).map dqs) rfl (by simp) (by rw[W1d];exact W0b (by simp)) ?_
   have hrt:=R6.Root_ok (r:=r) (t:=tsn t a) (i:=k) (by omega) (by omega)
   rw[<-e2] at hrt
   refine Ce rfl hrt ?_
   exact Rt rfl (.tup (.cons (.rf rfl) (.cons (.rf rfl) Xa7))) (.inr (.inr ⟨by omega,h1,hk,rfl⟩))
theorem Adjoin_ok{k r p:Nat}{t:Tw k}{a:Tow.El k}(hT:TS r k t)(ha:Sz p (toL k a))(hR:red k t)(hk:k<8)(hq:qB r k p<=4398046511104)(hq2:qB r k r<=4398046511104)(hv:vB r k (p+gC r k)<=4398046511104)(hr:vB r k r<=4398046511104):
 C0 260 [.d (dt t),.d (de a)] (AdjR k t a):=by
 have h0:=Xds (r:=r) k r
 have h1:=Xds (r:=r) k (p+gC r k)
 refine En Tryz.func260 λ_ _ _=>?_
 refine Ce rfl (Reduced_ok hT hR (by omega) hq2 hr) ?_
 refine No rfl (by simp) ?_
 refine Ce rfl (R6.Formed_ok (TS.pt hT) (by omega) ha.ps (by omega) (by rw[Xaa];omega) (Yfv t a)) ?_
 refine No rfl (by simp) ?_
 refine Ca rfl (Xxl hT ha hR hk hq hv hr) λv hv=>?_
 rcases hv with ⟨h1,rfl⟩ | ⟨x,h1,h2,rfl⟩ | ⟨h1,h2,h3,rfl⟩
 . exact Rt rfl (.tup (.cons (.rf rfl) (.cons (.rf rfl) Xa7))) (.inl ⟨h1,rfl⟩)
 . exact Rt rfl (.tup (.cons (.rf rfl) (.cons (.rf rfl) Xa7))) (.inr (.inl ⟨x,h1,h2,rfl⟩))
 . exact Rt rfl (.tup (.cons (.rf rfl) (.cons (.rf rfl) Xa7))) (.inr (.inr ⟨h1,h2,h3,rfl⟩))
end Go.Proofs.YtfjafaehfjjaiaaGreatDoor.R8
namespace Go.Tow
open Go Go.Num Go.Proofs.YtfjafaehfjjaiaaGreatDoor
section
def ev{K:Nat}(G:Tw K)(ρ:Nat->El K): (k:Nat)->El k->El K
 | 0,x=>rat K x
 | k+1,a=>add K (ev G ρ k a.1) (mul K G (ev G ρ k a.2) (ρ k))
def Hom{K:Nat}(G:Tw K)(ρ:Nat->El K): (k:Nat)->Tw k->Prop
 | 0,_=>True
 | k+1,t=>Hom G ρ k t.1/\mul K G (ρ k) (ρ k)=ev G ρ k t.2/\sgn K G (ρ k)=1
variable{K:Nat}{G:Tw K}{ρ σ:Nat->El K}
theorem Xa8: ∀ {k:Nat} {a:El k},(∀i,i<k->ρ i=σ i)->ev G ρ k a=ev G σ k a
 | 0,_,_=>rfl
 | k+1,a,h=>by
  show add K (ev G ρ k a.1) (mul K G (ev G ρ k a.2) (ρ k))=add K (ev G σ k a.1) (mul K G (ev G σ k a.2) (σ k))
  rw[Xa8 (k:=k) λi hi=>h i (by omega),Xa8 (k:=k) (a:=a.2) λi hi=>h i (by omega),h k (by omega)]
theorem Hom.congr: ∀ {k:Nat} {t:Tw k},Hom G ρ k t->(∀i,i<k->ρ i=σ i)->Hom G σ k t
 | 0,_,_,_=>trivial
 | k+1,t,⟨h1,h2,h3⟩,h=>⟨h1.congr λi hi=>h i (by omega),by rw[<-h k (by omega),h2];exact Xa8 λi hi=>h i (by omega),by rw[<-h k (by omega)];exact h3⟩
theorem Xd3: ∀ {k:Nat},ev G ρ k (zero k)=zero K
 | 0=>Xdx K
 | k+1=>by
  show add K (ev G ρ k (zero k)) (mul K G (ev G ρ k (zero k)) (ρ k))=zero K
  rw[Xd3,(Xaz K G).zm,(Xaz K G).az]
theorem Xct: ∀ {k:Nat} {a b:El k},ev G ρ k (add k a b)=add K (ev G ρ k a) (ev G ρ k b)
 | 0,a,b=>Xfe K a b
 | k+1,a,b=>by
  show add K (ev G ρ k (add k a.1 b.1)) (mul K G (ev G ρ k (add k a.2 b.2)) (ρ k))=add K (add K (ev G ρ k a.1) (mul K G (ev G ρ k a.2) (ρ k))) (add K (ev G ρ k b.1) (mul K G (ev G ρ k b.2) (ρ k)))
  rw[Xct,Xct]
  have L:=Xaz K G
  exact(Laws.req L [ev G ρ k a.1,ev G ρ k a.2,ev G ρ k b.1,ev G ρ k b.2,ρ k] (.add (.add (.v 0) (.v 2)) (.mul (.add (.v 1) (.v 3)) (.v 4))) (.add (.add (.v 0) (.mul (.v 1) (.v 4))) (.add (.v 2) (.mul (.v 3) (.v 4)))) (by decide +kernel))
theorem Xd5: ∀ {k:Nat} {a:El k},ev G ρ k (neg k a)=neg K (ev G ρ k a)
 | 0,a=>Xn0 K a
 | k+1,a=>by
  show add K (ev G ρ k (neg k a.1)) (mul K G (ev G ρ k (neg k a.2)) (ρ k))=neg K (add K (ev G ρ k a.1) (mul K G (ev G ρ k a.2) (ρ k)))
  rw[Xd5,Xd5,(Xaz K G).nm,(Xaz K G).nd]
theorem Xwb{k:Nat}{a:El k}: ev G ρ (k+1) (up k a)=ev G ρ k a:=by
 show add K (ev G ρ k a) (mul K G (ev G ρ k (zero k)) (ρ k))=_
 rw[Xd3,(Xaz K G).zm,(Xaz K G).az]
theorem Xc2: ∀ {k:Nat} {x:Rat},ev G ρ k (rat k x)=rat K x
 | 0,_=>rfl
 | k+1,x=>by rw[show rat (k+1) x=up k (rat k x) from rfl,Xwb,Xc2]
theorem Xa4: ∀ {k:Nat} {t:Tw k} {a b:El k},Hom G ρ k t->ev G ρ k (mul k t a b)=mul K G (ev G ρ k a) (ev G ρ k b)
 | 0,t,a,b,_=>Xco K G a b
 | k+1,t,a,b,h=>by
  show add K (ev G ρ k (add k (mul k t.1 a.1 b.1) (mul k t.1 (mul k t.1 a.2 b.2) t.2))) (mul K G (ev G ρ k (add k (mul k t.1 a.1 b.2) (mul k t.1 a.2 b.1))) (ρ k))=mul K G (add K (ev G ρ k a.1) (mul K G (ev G ρ k a.2) (ρ k))) (add K (ev G ρ k b.1) (mul K G (ev G ρ k b.2) (ρ k)))
  rw[Xct,Xct,Xa4 h.1,Xa4 h.1,Xa4 h.1,Xa4 h.1,Xa4 h.1,<-h.2.1]
  have L:=Xaz K G
  exact(Laws.req L [ev G ρ k a.1,ev G ρ k a.2,ev G ρ k b.1,ev G ρ k b.2,ρ k] (.add (.add (.mul (.v 0) (.v 2)) (.mul (.mul (.v 1) (.v 3)) (.mul (.v 4) (.v 4)))) (.mul (.add (.mul (.v 0) (.v 3)) (.mul (.v 1) (.v 2))) (.v 4))) (.mul (.add (.v 0) (.mul (.v 1) (.v 4))) (.add (.v 2) (.mul (.v 3) (.v 4)))) (by decide +kernel))
theorem Yeq{k:Nat}{t:Tw (k+1)}{a:El (k+1)}(h:Hom G ρ k t.1): ev G ρ k (norm k t a)=add K (mul K G (ev G ρ k a.1) (ev G ρ k a.1)) (neg K (mul K G (mul K G (ev G ρ k a.2) (ev G ρ k a.2)) (ev G ρ k t.2))):=by
 unfold norm
 rw[Xct,Xd5,Xa4 h,Xa4 h,Xa4 h]
theorem Xc8(hG:Xb4 K G): ∀ {k:Nat} {t:Tw k} {a:El k},Hom G ρ k t->sgn K G (ev G ρ k a)=sgn k t a
 | 0,t,a,_=>Xec hG
 | k+1,t,a,h=>by
  have L:=Xaz K G
  have S:=Xau hG
  have e:sgn (k+1) t a=L.sx (ev G ρ k t.2) (sgn K G) (ev G ρ k a.1,ev G ρ k a.2):=by
   show (if sgn k t.1 a.2=0\/sgn k t.1 a.1=sgn k t.1 a.2 then sgn k t.1 a.1 else if sgn k t.1 a.1=0 then sgn k t.1 a.2 else sgn k t.1 a.1*sgn k t.1 (norm k t a))=_
   rw[<-Xc8 hG h.1,<-Xc8 hG h.1 (a:=a.1),<-Xc8 hG h.1 (a:=norm k t a),Yeq h.1]
   rfl
  have hr:L.Rt (ev G ρ k t.2) (sgn K G) (ρ k) (rat K 1):=by
   refine⟨h.2.2,by rw[Xec hG];decide +kernel,?_⟩
   rw[h.2.1,L.mo,L.mo,L.an,S.s0 L]
  have hd:sgn K G (ev G ρ k t.2)=1:=by rw[<-h.2.1,S.sm,h.2.2];rfl
  rw[e,S.sx_rt L hd hr,L.mo]
  rfl
theorem Yer(hG:Xb4 K G){k:Nat}{t:Tw k}(h:Hom G ρ k t)(hr:red k t){a:El k}(e:ev G ρ k a=zero K): a=zero k:=by
 have:=Xc8 hG h (a:=a)
 rw[e,(Xau hG).s0 (Xaz K G)] at this
 exact(Xbh hr).1 this.symm
theorem Xcs(hG:Xb4 K G){k:Nat}{t:Tw k}(h:Hom G ρ k t)(hr:red k t){a b:El k}(e:ev G ρ k a=ev G ρ k b): a=b:=by
 refine(Xaz k t).sub0 (Yer hG h hr (a:=add k a (neg k b)) ?_)
 rw[Xct,Xd5,e,(Xaz K G).an]
theorem Hom.uniq(hG:red K G): ∀ {k:Nat} {t:Tw k},Hom G ρ k t->Hom G σ k t->∀i,i<k->ρ i=σ i
 | 0,_,_,_,i,hi=>by omega
 | k+1,t,h,h',i,hi=>by
  have ih:=h.1.uniq hG h'.1
  by_cases e:i=k
  . subst e
    refine Xjg hG (by rw[h.2.1,h'.2.1,Xa8 ih]) (by rw[h.2.2];decide) (by rw[h'.2.2];decide)
  . exact ih i (by omega)
theorem Xkq(i:Nat): Xcr (i+1) i=(pr (zero i) (rat i 1):El (i+1)):=by
 unfold Xcr;rw[if_pos rfl]
theorem Xp0{k i:Nat}(h:i≠k): Xcr (k+1) i=(up k (Xcr k i):El (k+1)):=by
 conv=>lhs;unfold Xcr
 rw[if_neg h]
theorem Xgt: ∀ {k i:Nat},i<k->ev G ρ k (Xcr k i)=ρ i
 | k+1,i,hi=>by
  by_cases e:i=k
  . subst e
    rw[Xkq]
    show add K (ev G ρ i (zero i)) (mul K G (ev G ρ i (rat i 1)) (ρ i))=_
    rw[Xd3,Xc2,(Xaz K G).om,(Xaz K G).za]
  . rw[Xp0 e,Xwb,Xgt (by omega)]
theorem Hom.ne(hG:Xb4 K G): ∀ {k:Nat} {t:Tw k},Hom G ρ k t->red k t->∀i j,i<j->j<k->ρ i≠ρ j
 | 0,_,_,_,i,j,_,h=>by omega
 | k+1,t,h,hr,i,j,hij,hj=>λe=>by
  by_cases ej:j=k
  . subst ej
    refine hr.2.2 ⟨Xcr j i,Xcs hG h.1 hr.1 ?_⟩
    rw[Xa4 h.1,Xgt hij,e,h.2.1]
  . exact h.1.ne hG hr.1 i j hij (by omega) e
theorem Xuc{α:Type}: ∀(k:Nat) (S:List α) (f:Nat->α),(∀i,i<k->f i∈S)->(∀i j,i<j->j<k->f i≠f j)->k<=S.length
 | 0,_,_,_,_=>W0z _
 | k+1,S,f,h1,h2=>by
  obtain⟨A,B,e⟩:=List.append_of_mem (h1 k (by omega))
  have:=Xuc k (A++B) f (λi hi=>by
   have h3:=h1 i (by omega)
   rw[e] at h3
   rcases W1s.1 h3 with h3 | h3
   . exact W2k _ h3
   . rcases W1j.1 h3 with h3 | h3
     . exact absurd h3 (h2 i k hi (by omega))
     . exact W1o _ h3) (λi j hi hj=>h2 i j hi (by omega))
  rw[e]
  simp only[W0d,W0s] at this |-
  omega
structure TOk {K:Nat} (G:Tw K) (S:List (El K)) (k:Nat) (t:Tw k) (ρ:Nat->El K):Prop where
 r:red k t
 h:Hom G ρ k t
 s:∀i,i<k->ρ i∈S
theorem TOk.le(hG:Xb4 K G){S:List (El K)}{k:Nat}{t:Tw k}(h:TOk G S k t ρ): k<=S.length:=Xuc k S ρ h.s (h.h.ne hG h.r)
theorem TOk.snoc(hG:Xb4 K G){S:List (El K)}{k:Nat}{t:Tw k}(h:TOk G S k t ρ){a:El k}(hn:¬Xcp k t a){s:El K}(hs:s∈S)(h1:mul K G s s=ev G ρ k a)(h2:sgn K G s=1): TOk G S (k+1) (tsn t a) (λi=>if i=k then s else ρ i) where
 r:=⟨h.r,by show sgn k t a=1;rw[<-Xc8 hG h.h,<-h1,(Xau hG).sm,h2];rfl,hn⟩
 h:=⟨h.h.congr λi hi=>(if_neg (by omega)).symm,by
  show mul K G (if k=k then s else ρ k) (if k=k then s else ρ k)=ev G _ k a
  rw[if_pos rfl,h1];exact Xa8 λi hi=>(if_neg (by omega)).symm,by
  show sgn K G (if k=k then s else ρ k)=1
  rw[if_pos rfl,h2]⟩
 s:=λi hi=>by
  show (if i=k then s else ρ i)∈S
  split
  . exact hs
  . exact h.s i (by omega)
theorem Xjz{v:El K}: ∀ {k:Nat} {a:El k},ev (tsn G v) (λi=>up K (ρ i)) k a=up K (ev G ρ k a)
 | 0,a=>rfl
 | k+1,a=>by
  show add (K+1) (ev (tsn G v) _ k a.1) (mul (K+1) (tsn G v) (ev (tsn G v) _ k a.2) (up K (ρ k)))=up K (add K (ev G ρ k a.1) (mul K G (ev G ρ k a.2) (ρ k)))
  rw[Xjz,Xjz,Xic]
  exact W3j rfl ((Xaz K G).az (zero K))
theorem Hom.tsn(hG:Xb4 K G){v:El K}: ∀ {k:Nat} {t:Tw k},Hom G ρ k t->Hom (tsn G v) (λi=>up K (ρ i)) k t
 | 0,_,_=>trivial
 | k+1,t,h=>⟨h.1.tsn hG,by rw[Xjz,<-h.2.1,Xic];rfl,by rw[Xl3 _ (show Xb4 K (Tow.tsn G v).1 from hG)];exact h.2.2⟩
end
section
variable{K:Nat}{G:Tw K}{ρ:Nat->El K}
def Lf{k m:Nat}(a:El k)(b:El m): Prop:=toL m b=toL k a++List.replicate (2^m-2^k) 0
theorem Lf.ex{k m:Nat}(h:k<=m)(a:El k): ∃b:El m,Lf a b:=by
 obtain⟨b,hb⟩:=exE m (toL k a++List.replicate (2^m-2^k) 0) (by
  have:=W0m (n:=2) (by decide) h
  rw[W0d,Xab,W1v];omega)
 exact⟨b,hb⟩
theorem Lf.rfl'{k:Nat}(a:El k): Lf a a:=by unfold Lf;rw[W3b];simp
theorem Lf.eq{k:Nat}{a b:El k}(h:Lf a b): b=a:=by
 unfold Lf at h;rw[W3b] at h
 exact Xgk (by simpa using h)
theorem Lf.ev{k:Nat}{a:El k}: ∀ {m:Nat} {b:El m},k<=m->Lf a b->ev G ρ m b=ev G ρ k a:=by
 intro m
 induction m with
 | zero=>intro b h hl;have:=Nat.le_zero.1 h;subst this;rw[hl.eq]
 | succ m ih =>
  intro b h hl
  by_cases e:k=m+1
  . subst e;rw[hl.eq]
  . have hp:=W0m (n:=2) (by decide) (show k<=m by omega)
    have hs:2^(m+1)-2^k=(2^m-2^k)+2^m:=by rw[W0y];omega
    have hl:toL m b.1++toL m b.2=(toL k a++List.replicate (2^m-2^k) 0)++List.replicate (2^m) 0:=by
     have:toL (m+1) b=_:=hl
     rw[hs,<-W5g,<-W4x] at this
     exact this
    obtain⟨h1,h2⟩:=Xfo (by rw[Xab,W0d,Xab,W1v];omega) hl
    have e2:b.2=zero m:=Xgk (by rw[h2,Xbn])
    show add K (Tow.ev G ρ m b.1) (mul K G (Tow.ev G ρ m b.2) (ρ m))=_
    rw[e2,Xd3,(Xaz K G).zm,(Xaz K G).az]
    exact ih (by omega) h1
theorem Lf.sz{k m p:Nat}{a:El k}{b:El m}(h:Lf a b)(ha:Sz p (toL k a)): Sz p (toL m b):=by
 obtain⟨d,d0,d1,d2⟩:=ha
 rw[h]
 exact⟨d,d0,d1,d2.append λx hx=>⟨0,by rw[(W5o.1 hx).2,W4q];rfl,W0r p⟩⟩
theorem Xht: ∀ {k:Nat} {t w:Tw k},toT k t=toT k w->t=w
 | 0,_,_,_=>rfl
 | k+1,t,w,h=>by
  have h:toT k t.1++[toL k t.2]=toT k w.1++[toL k w.2]:=h
  obtain⟨h1,h2⟩:=Xfo (by rw[Xaa,Xaa]) h
  exact W3j (Xht h1) (Xgk (by injection h2))
theorem Tw.cut{k:Nat}: ∀ {t:Tw k} {i:Nat},i<=k->∃w:Tw i,toT i w=(toT k t).take i/\(∀r,TS r k t->TS r i w)/\(red k t->red i w)/\∀ {K:Nat} {G:Tw K} {ρ:Nat->El K},Hom G ρ k t->Hom G ρ i w:=by
 induction k with
 | zero=>intro t i h;have:=Nat.le_zero.1 h;subst this;exact⟨t,rfl,λ_ h=>h,λh=>h,λh=>h⟩
 | succ k ih =>
  intro t i h
  by_cases e:i=k+1
  . subst e;exact⟨t,by rw[W0b (by rw[Xaa];exact W0a _)],λ_ h=>h,λh=>h,λh=>h⟩
  . obtain⟨w,h1,h2,h3,h4⟩:=ih (t:=t.1) (i:=i) (by omega)
    refine⟨w,?_,λr h=>h2 r h.1,λh=>h3 h.1,λh=>h4 h.1⟩
    show _=(toT k t.1++[toL k t.2]).take i
    rw[W6h (by rw[Xaa];omega),h1]
def Beg(k:Nat)(t:Tw k)(m:Nat)(T:Tw m): Prop:=(toT m T).take (toT k t).length=toT k t
theorem Beg.le{k m:Nat}{t:Tw k}{T:Tw m}(h:Beg k t m T): k<=m:=by
 have:=congrArg List.length h
 simp only[W0j,Xaa] at this;omega
theorem Beg.hom{k m:Nat}{t:Tw k}{T:Tw m}(h:Beg k t m T)(hT:Hom G ρ m T): Hom G ρ k t:=by
 obtain⟨w,h1,_,_,h4⟩:=Tw.cut (t:=T) h.le
 have:w=t:=Xht (by rw[h1];unfold Beg at h;rwa[Xaa] at h)
 rw[<-this];exact h4 hT
theorem Beg.rf{k:Nat}{t:Tw k}: Beg k t k t:=W0b (W0a _)
theorem Beg.tr{k l m:Nat}{t:Tw k}{u:Tw l}{w:Tw m}(h:Beg k t l u)(h':Beg l u m w): Beg k t m w:=by
 have h1:=h.le
 unfold Beg at *
 rw[<-h',List.take_take,Xaa,Xaa,W2f h1] at h
 rw[Xaa];exact h
theorem Beg.snoc{k:Nat}{t:Tw k}{a:El k}: Beg k t (k+1) (tsn t a):=W6e rfl
def imB(c z:Nat): Nat->Nat->Nat
 | 0,p=>p+1
 | j+1,p=>2*imB c z j p+z+c+1
theorem Xi9{k R z:Nat}{T:Tw k}{σ:Nat->El k}(hT:TS R k T): ∀ {j p:Nat} {a:El j},(∀i,i<j->Sz z (toL k (σ i)))->Sz p (toL j a)->Sz (imB (cB R k) z j p) (toL k (ev T σ j a))
 | 0,p,a,_,ha=>Sz.rat k (ha.qs (x:=a) (W0h.2 rfl))
 | j+1,p,a,hs,ha=>by
  have h1:=Xi9 hT (a:=a.1) (λi hi=>hs i (by omega)) (Sz.left ha)
  have h2:=Xi9 hT (a:=a.2) (λi hi=>hs i (by omega)) (Sz.right ha)
  have h3:=h2.mul hT (hs j (by omega))
  show Sz _ (toL k (add k (Tow.ev T σ j a.1) (mul k T (Tow.ev T σ j a.2) (σ j))))
  rw[Xav]
  exact(h1.add h3).mono (by show _<=2*imB (cB R k) z j p+z+cB R k+1;omega)
theorem Xit{k:Nat}{T:Tw k}{σ:Nat->El k}{ρ':Nat->El K}(hT:Hom G ρ k T): ∀ {j:Nat} {a:El j},(∀i,i<j->ev G ρ k (σ i)=ρ' i)->ev G ρ k (ev T σ j a)=ev G ρ' j a
 | 0,a,_=>Xc2
 | j+1,a,h=>by
  show ev G ρ k (add k (ev T σ j a.1) (mul k T (ev T σ j a.2) (σ j)))=add K (ev G ρ' j a.1) (mul K G (ev G ρ' j a.2) (ρ' j))
  rw[Xct,Xa4 hT,Xit hT λi hi=>h i (by omega),Xit hT (a:=a.2) λi hi=>h i (by omega),h j (by omega)]
end
section
theorem Tw.at{k:Nat}: ∀ {t:Tw k} {i:Nat},i<k->∃x:El i,(toT k t)[i]?=some (toL i x)/\(∀r,TS r k t->Sz r (toL i x))/\∀ {K:Nat} {G:Tw K} {ρ:Nat->El K},Hom G ρ k t->mul K G (ρ i) (ρ i)=ev G ρ i x/\sgn K G (ρ i)=1:=by
 induction k with
 | zero=>intro t i h;omega
 | succ k ih =>
  intro t i h
  have hl:=Xaa k t.1
  by_cases e:i=k
  . subst e
    refine⟨t.2,?_,λr h=>h.2,λh=>h.2⟩
    show (toT i t.1++[toL i t.2])[i]?=_
    rw[W0u (by omega),hl,W3b];rfl
  . obtain⟨x,h1,h2,h3⟩:=ih (t:=t.1) (i:=i) (by omega)
    refine⟨x,?_,λr h=>h2 r h.1,λh=>h3 h.1⟩
    show (toT k t.1++[toL k t.2])[i]?=_
    rw[W1a (by omega),h1]
theorem _root_.Go.Proofs.YtfjafaehfjjaiaaGreatDoor.TS.mono{r s:Nat}(h:r<=s): ∀ {k:Nat} {t:Tw k},TS r k t->TS s k t
 | 0,_,_=>trivial
 | k+1,t,ht=>⟨ht.1.mono h,ht.2.mono h⟩
theorem Xe4{r i k:Nat}(h:i<=k): cB r i<=cB r k:=by
 induction k with
 | zero=>rw[show i=0 by omega];exact W0a _
 | succ k ih =>
  by_cases e:i=k+1
  . rw[e];exact W0a _
  . exact W0k (ih (by omega)) (Ymt r k)
theorem Xv2{r i k:Nat}(h:i<=k): gC r i<=gC r k:=by
 induction k with
 | zero=>rw[show i=0 by omega];exact W0a _
 | succ k ih =>
  by_cases e:i=k+1
  . rw[e];exact W0a _
  . exact W0k (ih (by omega)) (by show _<=2*gC r k+2*cB r k+r+iS r k r+2;omega)
theorem Yik{r i k p:Nat}(h:i<=k): iB r i p<=iB r k p:=by
 induction k generalizing p with
 | zero=>rw[show i=0 by omega];exact W0a _
 | succ k ih =>
  by_cases e:i=k+1
  . rw[e];exact W0a _
  . have h1:=ih (p:=p) (by omega)
    have h2:=Xin (W0a r) (k:=k) (Xr0 r k p)
    exact W0k (W0k h1 h2) (by show _<=2*(p+iB r k (nB r k p)+cB r k);omega)
theorem Yed{r i k p:Nat}(h:i<=k): iS r i p<=iS r k p:=by
 induction k generalizing p with
 | zero=>rw[show i=0 by omega];exact W0a _
 | succ k ih =>
  by_cases e:i=k+1
  . rw[e];exact W0a _
  . have h1:=ih (p:=p) (by omega)
    have h2:=Xol (W0a r) (k:=k) (show p<=nS r k p by unfold nS;omega)
    exact W0k (W0k h1 h2) (by show _<=p+iS r k (nS r k p)+cB r k;omega)
theorem Xhk{c c' z z' p p':Nat}(h1:c<=c')(h2:z<=z')(h3:p<=p'): ∀ {j:Nat},imB c z j p<=imB c' z' j p'
 | 0=>by show p+1<=p'+1;omega
 | j+1=>by have:=Xhk h1 h2 h3 (j:=j);show 2*imB c z j p+z+c+1<=2*imB c' z' j p'+z'+c'+1;omega
theorem Ybz{c z p:Nat}: ∀ {j:Nat},p<=imB c z j p
 | 0=>by show p<=p+1;omega
 | j+1=>by have:=Ybz (c:=c) (z:=z) (p:=p) (j:=j);show _<=2*imB c z j p+z+c+1;omega
variable{K:Nat}{G:Tw K}{ρ ρ' ρu:Nat->El K}
def RtV(G:Tw K)(m z j:Nat)(rs:List (List Rat))(ρ ρu:Nat->El K): Prop:=∀i,i<j->∃(n:Nat) (s:El n),n<=m/\rs[i]?=some (toL n s)/\Sz z (toL n s)/\ev G ρ n s=ρu i
theorem RtV.mono{m m' z z' j:Nat}{rs:List (List Rat)}(h:RtV G m z j rs ρ ρu)(hm:m<=m')(hz:z<=z')(hr:∀i,i<m->ρ' i=ρ i): RtV G m' z' j rs ρ' ρu:=λi hi=>by
 obtain⟨n,s,h1,h2,h3,h4⟩:=h i hi
 exact⟨n,s,by omega,h2,h3.mono hz,by rw[<-h4];exact Xa8 λi hi=>hr i (by omega)⟩
theorem RtV.snoc{m z j n:Nat}{rs:List (List Rat)}(h:RtV G m z j rs ρ ρu)(hl:rs.length=j){s:El n}(hn:n<=m)(hz:Sz z (toL n s))(he:ev G ρ n s=ρu j): RtV G m z (j+1) (rs++[toL n s]) ρ ρu:=λi hi=>by
 by_cases e:i=j
 . subst e
   exact⟨n,s,hn,by rw[W0u (by omega),hl,W3b];rfl,hz,he⟩
 . obtain⟨n',s',h1,h2,h3,h4⟩:=h i (by omega)
   exact⟨n',s',h1,by rw[W1a (by omega),h2],h3,h4⟩
structure Nm where
 k:Nat
 t:Tw k
 a:El k
structure NOk (G:Tw K) (S:List (El K)) (r p:Nat) (x:Nm) (v:El K):Prop where
 ex:∃ρ,TOk G S x.k x.t ρ/\ev G ρ x.k x.a=v
 r:TS r x.k x.t
 p:Sz p (toL x.k x.a)
theorem NOk.mono{S:List (El K)}{r r' p p':Nat}{x:Nm}{v:El K}(h:NOk G S r p x v)(hr:r<=r')(hp:p<=p'): NOk G S r' p' x v:=⟨h.ex,h.r.mono hr,h.p.mono hp⟩
theorem NOk.le(hG:Xb4 K G){S:List (El K)}{r p:Nat}{x:Nm}{v:El K}{n:Nat}(h:NOk G S r p x v)(hS:S.length<=n): x.k<=n:=by
 obtain⟨ρ,h1,_⟩:=h.ex
 exact W0k (h1.le hG) hS
theorem NOk.sgn(hG:Xb4 K G){S:List (El K)}{r p:Nat}{x:Nm}{v:El K}(h:NOk G S r p x v): sgn K G v=sgn x.k x.t x.a:=by
 obtain⟨ρ,h1,h2⟩:=h.ex
 rw[<-h2,Xc8 hG h1.h]
theorem NOk.neg{S:List (El K)}{r p:Nat}{x:Nm}{v:El K}(h:NOk G S r p x v): NOk G S r p ⟨x.k,x.t,Tow.neg x.k x.a⟩ (Tow.neg K v):=by
 obtain⟨ρ,h1,h2⟩:=h.ex
 exact⟨⟨ρ,h1,by rw[<-h2];exact Xd5⟩,h.r,by rw[Xb6];exact h.p.neg⟩
end
end Go.Tow
namespace Go.Vm
open Go
section
variable{c:Cx}{s:St}{p:Pl}
noncomputable def Ykn(tb:Nat->Option TI)(n:Nat)(s:St): Option (Pl×AV×Int×Int):=match nxA tb n s with
 | some (p,o,args)=>match o.op with
  | .slice T _ lo hi mx=>match tb T with
   | some ti=>match ti.z,Xjh lo hi mx args with
    | .sl _ _,some (a,none,some h,some m)=>some (p,a,h,m)
    | _,_=>none
   | none=>none
  | _=>none
 | none=>none
theorem S3(i:Nat){o sz l n:Nat}{h' m:Int}{a:AV}(h:Ykn c.tb c.n s=some (p,a,h',m))(ha:a=.own o sz l n\/a=.ow3 o sz l n)(h0:0<i)(hi:i<=n)(k:p.nx c (.ow3 o sz l i))(e1:h'=i:=by first | exact rfl | omega)(e2:m=i:=by first | exact rfl | omega): StP c s:=by
 subst e1;subst e2
 unfold Ykn at h
 split at h<;>try cases h
 rename_i hA
 split at h<;>try cases h
 rename_i ho
 split at h<;>try cases h
 rename_i ti ht
 split at h<;>cases h
 rename_i hz hs
 refine Xbr (us:=[]) hA ?_ (Pl.nx_nil k)
 rw[ho]
 have hr:sl3 (i:Int) (i:Int) a=some (.ow3 o sz l i):=by rcases ha with rfl | rfl<;>(rw[sl3,if_pos ⟨by omega,by omega,rfl⟩];simp)
 simp only[F,Fp,ht,hz,hs,hr]
 rw[if_neg (λh=>by omega)]
theorem S30{a:AV}{h' m:Int}(h:Ykn c.tb c.n s=some (p,a,h',m))(ha:Yd7 a=true)(k:p.nx c .nil)(e1:h'=0:=by first | exact rfl | omega)(e2:m=0:=by first | exact rfl | omega): StP c s:=by
 subst e1;subst e2
 unfold Ykn at h
 split at h<;>try cases h
 rename_i hA
 split at h<;>try cases h
 rename_i ho
 split at h<;>try cases h
 rename_i ti ht
 split at h<;>cases h
 rename_i hz hs
 refine Xbr (us:=[]) hA ?_ (Pl.nx_nil k)
 rw[ho]
 simp only[F,Fp,ht,hz,hs]
 simp only[ha,true_and,and_self,if_true]
theorem D3(i:Nat){o sz l n:Nat}{i':Int}(h:nxS c.tb c.n s=some (p,.ow3 o sz l n,some i',none))(hi:i<=n)(k:p.nx c (.ow3 o sz (l+i) (n-i)))(e:i'=i:=by first | exact rfl | omega): StP c s:=by
 subst e
 refine Xmd h ?_ k
 rw[slA,if_pos ⟨by omega,by omega⟩];simp
noncomputable def Yn1(tb:Nat->Option TI)(n:Nat)(s:St): Option (Pl×Nat×Nat×Nat×Nat×Int):=match nxA tb n s with
 | some (p,o,[.ow3 q sz l m,.d (.int _ j)])=>match o.op with
  | .indexAddr T _ _=>match tb T with
   | some ti=>match ti.z,Nat.beq sz ti.e.size with
    | .sl _ _,true=>some (p,q,sz,l,m,j)
    | _,_=>none
   | none=>none
  | _=>none
 | _=>none
theorem E3(i:Nat){q sz m:Nat}{j:Int}(h:Yn1 c.tb c.n s=some (p,q,sz,0,m,j))(hi:i<m)(k:p.nx c (.el q sz i 0))(hj:j=i:=by first | exact rfl | omega): StP c s:=by
 subst hj
 unfold Yn1 at h
 split at h<;>try cases h
 rename_i hA
 split at h<;>try cases h
 rename_i ho
 split at h<;>try cases h
 rename_i ti ht
 split at h<;>cases h
 rename_i hz hb
 refine Xbr (us:=[]) hA ?_ (Pl.nx_nil k)
 rw[ho]
 simp only[F,Fp,ht,hz,ixA]
 rw[if_pos ⟨by omega,by omega,W0e hb⟩]
 simp
theorem Nd(t sz:Nat){K:List Kt}{E:Env}{H:Hpl}(h:nxJ c.tb c.n s=some (K,E,H))(k:StP c (.j [] K ((t,.d (.sl sz []))::E) H))(hv:look E t=some .nil:=by exact rfl): StP c s:=by
 unfold nxJ at h
 split at h<;>cases h
 rename_i hr
 refine go 1000 hr ?_
 rintro a w ⟨s0,W,θ,hw,hs,hθ,rfl⟩
 refine k a w ⟨_,W,θ,hw,?_,hθ,rfl⟩
 rw[show sem ((t,AV.d (.sl sz []))::E) H=(upd (look E) t (.d (.sl sz [])),look H) by rw[Xa2]]
 refine⟨hs.fm,⟨hs.rel.defers,hs.rel.size,λq v hq=>?_⟩,hs.obs,λq v i hq hi=>?_⟩
 . rcases Xaf hq with ⟨e1,e2⟩ | ⟨e1,e2⟩
   . subst e1;subst e2
     obtain⟨p,e⟩:=Xng (hs.rel.has q _ hv)
     rw[e]
     exact Ylk rfl (W0a _) (by decide) (.inl rfl)
   . exact hs.rel.has q v e2
 . rcases Xaf hq with ⟨e1,e2⟩ | ⟨e1,e2⟩
   . subst e2;exact hi.elim
   . exact hs.ids q v i e2 hi
end
end Go.Vm
namespace Go.Proofs.YtfjafaehfjjaiaaGreatDoor.R9
open Go Go.Vm Go.Num Go.Tow Go.Proofs.YtfjafaehfjjaiaaGreatDoor
theorem cmpQ_ne{x y:Rat}: Xm3 x y≠0↔x≠y:=by
 unfold Xm3
 split
 . exact⟨λ_ e=>by subst e;exact absurd ‹_› (Rat.lt_irrefl),λ_=>by decide⟩
 . split
   . exact⟨λ_ e=>by subst e;exact absurd ‹_› (Rat.lt_irrefl),λ_=>by decide⟩
   . exact⟨λh=>absurd rfl h,λh=>by grind⟩
theorem Yc6{l m:List Rat}{p q:Nat}(hl:Ps p l)(hm:Ps q m)(hp:p+q<=8796093022208)(hn:l.length<=1048576): C0 274 [.d (dqs l),.d (dqs m)] (·=.b (dc (l=m))):=by
 refine En Tryz.func274 λ_ _ _=>?_
 refine By rfl (λh=>?_) λh=>?_<;>simp only[lq] at h
 . exact R1 rfl (.bp ⟨nofun,λe=>absurd (by rw[e]) h⟩)
 have h:l.length=m.length:=by omega
 refine Lo (λk:Nat=>[(0,.d (dqs l)),(1,.d (dqs m)),(5,.d (.int .i64 k))]) (λ_=>[]) (λk=>k<=l.length/\l.take k=m.take k) (λk=>l.length-k) 0 [] rfl ⟨by omega,rfl⟩ λk ⟨hk,ht⟩=>?_
 refine By rfl (λh2=>?_) λh2=>?_<;>simp only[lq] at h2
 . obtain⟨x,hx⟩:=qat (l:=l) (k:=k) (by omega)
   obtain⟨y,hy⟩:=qat (l:=m) (k:=k) (by omega)
   refine Dw rfl ?_
   refine Ix k rfl (mp hx) ?_
   refine Ix k rfl (mp hy) ?_
   refine Ce rfl (R2.Cmp_ok (hl x (W0f hx)) (hm y (W0f hy)) hp) ?_
   refine By rfl (λh3=>?_) λh3=>?_
   . exact R1 rfl (.bp ⟨nofun,λe=>by subst e;rw[hx] at hy;injection hy with hy;exact absurd hy (cmpQ_ne.1 h3)⟩)
   . have e:x=y:=W1b λh=>h3 (cmpQ_ne.2 h)
     refine Ar (k+1:Nat) rfl ?_
     exact Bk (k+1) [] rfl ⟨by omega,by rw[W2d,W2d,hx,hy,ht,e]⟩ (by show l.length-(k+1)<l.length-k;omega)
 . rw[W0b (by omega),W0b (by omega)] at ht
   exact R1 rfl (.bp ⟨λ_=>ht,λ_=>rfl⟩)
theorem begins_ok{T U:List (List Rat)}{p q:Nat}(hT:Pt p T)(hU:Pt q U)(hp:p+q<=8796093022208)(hl:T.length<=16): C0 213 [.d (dts T),.d (dts U)] (·=.b (dc (T.take U.length=U))):=by
 refine En Tryz.func213 λ_ _ _=>?_
 refine By rfl (λh=>?_) λh=>?_<;>simp only[lt'] at h
 . exact R1 rfl (.bp ⟨nofun,λe=>absurd (congrArg List.length e) (by rw[W0j];omega)⟩)
 refine Lo (λk:Nat=>[(0,.d (dts T)),(1,.d (dts U)),(5,.d (.int .i64 k))]) (λ_=>[]) (λk=>k<=U.length/\T.take k=U.take k) (λk=>U.length-k) 0 [] rfl ⟨by omega,rfl⟩ λk ⟨hk,ht⟩=>?_
 refine By rfl (λh2=>?_) λh2=>?_<;>simp only[lt'] at h2
 . obtain⟨x,hx⟩:∃x,T[k]?=some x:=⟨_,W0c (by omega)⟩
   obtain⟨y,hy⟩:∃y,U[k]?=some y:=⟨_,W0c (by omega)⟩
   obtain⟨x1,x2⟩:=hT k x hx
   obtain⟨y1,y2⟩:=hU k y hy
   have:=p16 (show k<=16 by omega)
   refine Dw rfl ?_
   refine Ix k rfl (mp hx) ?_
   refine Ix k rfl (mp hy) ?_
   refine Ce rfl (Yc6 x2 y2 hp (by omega)) ?_
   refine By rfl (λh3=>?_) λh3=>?_
   . exact R1 rfl (.bp ⟨nofun,λe=>by
      have:U[k]?=some x:=by rw[<-e,W1e,if_pos (by omega),hx]
      rw[hy] at this;injection this with this
      exact absurd this.symm (by simpa [Xal,Xah] using h3)⟩)
   . have e:x=y:=by simpa [Xal,Xah] using h3
     refine Ar (k+1:Nat) rfl ?_
     exact Bk (k+1) [] rfl ⟨by omega,by rw[W2d,W2d,hx,hy,ht,e]⟩ (by show U.length-(k+1)<U.length-k;omega)
 . have e:k=U.length:=by omega
   subst e
   rw[W2j] at ht
   exact R1 rfl (.bp ⟨λ_=>ht,λ_=>rfl⟩)
theorem Yd2{T:List (List Rat)}{l:List Rat}(h0:0<l.length)(hT:T.length<=16)(hl:l.length<=2^T.length): C0 215 [.d (dts T),.d (dqs l)] (·=.d (dqs (l++List.replicate (2^T.length-l.length) 0))):=by
 have hp:=p16 hT
 obtain⟨n,hn⟩:∃n,n=2^T.length:=⟨_,rfl⟩
 rw[<-hn] at hp hl |-
 refine En Tryz.func215 λ_ _ _=>?_
 refine ApL ((l++List.replicate 0 0).map dq) rfl (by simp) (by simpa using h0) (by simp;omega) ?_
 refine Lo (λk:Nat=>[(0,.d (dts T)),(5,.own 6 4 0 ((l++List.replicate k 0).map dq).length)]) (λk=>[(6,.arr 4 ((l++List.replicate k 0).map dq))]) (λk=>l.length+k<=n) (λk=>n-k) 0 [(8,6)] rfl (by omega) λk hk=>?_
 refine Ar n rfl ?_ (by rw[hn];simp only[lt'];exact Xbs (by omega))
 refine By rfl (λh=>?_) λh=>?_<;>simp only[lq,W0d,W1v] at h
 . refine Ce rfl (R2.FromInt_ok (z:=0) (by decide)) ?_
   refine ApO ((l++List.replicate (k+1) 0).map dq) rfl rfl rfl (by rw[W6p];simp) (by simp;omega) ?_
   exact Bk (k+1) [(18,6)] rfl (show l.length+(k+1)<=n by omega) (by show n-(k+1)<n-k;omega)
 . refine R1 rfl (.own rfl (by omega) ?_)
   rw[W1d,show n-l.length=k by omega]
   exact W0b (by simp)
theorem Xod{k m:Nat}{s:Tow.El k}{b:Tow.El m}{T:Tw m}(h:Lf s b)(hk:k<=m)(hm:m<=16): C0 215 [.d (dt T),.d (de s)] (·=.d (de b)):=by
 have:=Yd2 (T:=toT m T) (l:=toL k s) (by rw[Xab];exact W0r k) (by rw[Xaa];omega) (by rw[Xab,Xaa];exact W0m (by decide) hk)
 rw[Xaa,Xab,<-h] at this
 exact this
def Rts(k z j:Nat)(rs:List (List Rat))(σ:Nat->Tow.El k): Prop:=∀i,i<j->∃(m:Nat) (s:Tow.El m),m<=k/\rs[i]?=some (toL m s)/\Lf s (σ i)/\Sz z (toL k (σ i))
theorem Xd2{k R z:Nat}{T:Tw k}{rs:List (List Rat)}{σ:Nat->Tow.El k}(hT:TS R k T)(hk:k<=16): ∀ {j p:Nat} {a:Tow.El j},Rts k z j rs σ->Sz p (toL j a)->j<=16->imB (cB R k) z j p<=4398046511104 ->
 C0 216 [.d (dt T),.d (dts rs),.d (de a)] (·=.d (de (ev T σ j a))):=by
 intro j
 induction j with
 | zero =>
  intro p a _ ha hj hb
  have key:∀y:Rat,Qs p y->C0 216 [.d (dt T),.d (dts rs),.d (dqs [y])] (·=.d (de (rat k y))):=λy hy=>by
   refine En Tryz.func216 λ_ _ _=>?_
   refine Yes rfl rfl ?_
   refine Ix 0 rfl (u:=dq y) rfl ?_
   refine Ce rfl (R6.FromRat_el hk) ?_
   exact R0
  exact key a (ha.qs (W0h.2 rfl))
 | succ j ih =>
  intro p a hr ha hj hb
  have hb':2*imB (cB R k) z j p+z+cB R k+1<=4398046511104:=hb
  have hr':Rts k z j rs σ:=λi hi=>hr i (by omega)
  have hpj:=p16 (show j<=16 by omega)
  have hp0:=W0r j
  have hs:∀i,i<j->Sz z (toL k (σ i)):=λi hi=>(hr' i hi).elim λ_ h=>h.elim λ_ h=>h.2.2.2
  have h1:=Xi9 hT (a:=a.1) hs (Sz.left ha)
  have h2:=Xi9 hT (a:=a.2) hs (Sz.right ha)
  obtain⟨m,s,m1,m2,m3,m4⟩:=hr j (by omega)
  refine En Tryz.func216 λ_ _ _=>?_
  refine No rfl (by show ¬((((toL j a.1++toL j a.2).map dq).length:Nat):Int)=1;rw[hvL];omega) ?_
  refine Ar (2^j:Nat) rfl ?_ (hvq a (by omega))
  refine Lo (λi:Nat=>[(0,.d (dt T)),(1,.d (dts rs)),(2,.d (de a)),(7,.d (.int .i64 (2^j:Nat))),(8,.d (.int .i64 i))]) (λ_=>[]) (λi=>i<=j) (λi=>j-i) 0 [] rfl (by omega) λi hi=>?_
  refine Ar (i+1:Nat) rfl ?_
  refine Ar (2^(i+1):Nat) rfl ?_ (Xbs (by omega))
  refine By rfl (λh=>?_) λh=>?_
  . have h:((2^(i+1):Nat):Int)<(((toL j a.1++toL j a.2).map dq).length:Nat):=h
    rw[hvL,<-Nat.pow_succ'] at h
    have h:i+1<j+1:=(W2v (by decide:1<2)).1 (by omega)
    refine Ar (i+1:Nat) rfl ?_
    exact Bk (i+1) [] rfl (show i+1<=j by omega) (by show j-(i+1)<j-i;omega)
  . have h:¬((2^(i+1):Nat):Int)<(((toL j a.1++toL j a.2).map dq).length:Nat):=h
    rw[hvL,<-Nat.pow_succ'] at h
    have h:¬i+1<j+1:=λe=>h (by have:=(W2v (by decide:1<2)).2 e;omega)
    obtain rfl:i=j:=by omega
    refine Dw rfl ?_
    refine Tk (2^i) ((toL i a.1).map dq) rfl rfl (Xcc a) (hvT a) ?_
    refine Ce rfl (ih hr' (Sz.left ha) (by omega) (by omega)) ?_
    refine Dp (2^i) ((toL i a.2).map dq) rfl rfl (Xcc a) (hvD a) ?_
    refine Ce rfl (ih hr' (Sz.right ha) (by omega) (by omega)) ?_
    refine Ix i rfl (mp m2) ?_
    refine Ce rfl (Xod (T:=T) m3 m1 hk) ?_
    refine Ce rfl (R6.Mul_el hT h2 m4 hk (by omega)) ?_
    refine Ce rfl (R6.Add_el hk h1.ps (h2.mul hT m4).ps (by omega)) ?_
    exact R0
end Go.Proofs.YtfjafaehfjjaiaaGreatDoor.R9
namespace Go.Tow
open Go Go.Num Go.Proofs.YtfjafaehfjjaiaaGreatDoor
section
def woA{α:Type}(i:Nat): Nat->List α->List α
 | _,[]=>[]
 | p,x::l=>if p/2^i%2=0 then x::woA i (p+1) l else woA i (p+1) l
def wo{α:Type}(l:List α)(i:Nat): List α:=woA i 0 l
theorem Xnl{α:Type}{i:Nat}{l m:List α}: ∀ {p:Nat},woA i p (l++m)=woA i p l++woA i (p+l.length) m:=by
 induction l with
 | nil=>intro p;rfl
 | cons x l ih =>
  intro p
  simp only[W5a,woA,ih,W0s,show p+1+l.length=p+(l.length+1) by omega]
  split<;>rfl
theorem Xe6{α:Type}{i:Nat}{l:List α}: ∀ {p:Nat} {x:α},x∈woA i p l->x∈l:=by
 induction l with
 | nil=>intro p x h;exact h
 | cons y l ih =>
  intro p x h
  simp only[woA] at h
  split at h
  . rcases W1j.1 h with h | h
    . rw[h];exact W0l ..
    . exact W0p _ (ih h)
  . exact W0p _ (ih h)
theorem Ycm{α:Type}{i:Nat}{l:List α}: ∀ {p:Nat},p+l.length<=2^i->woA i p l=l:=by
 induction l with
 | nil=>intro p _;rfl
 | cons x l ih =>
  intro p h
  simp only[W0s] at h
  simp only[woA]
  rw[if_pos (by rw[W4g (by omega)]),ih (by omega)]
theorem Xxu{α:Type}{i:Nat}{l:List α}: ∀ {p:Nat},2^i<=p->p+l.length<=2*2^i->woA i p l=[]:=by
 induction l with
 | nil=>intro p _ _;rfl
 | cons x l ih =>
  intro p h1 h2
  simp only[W0s] at h2
  simp only[woA]
  have:p/2^i=1:=by rw[Nat.div_eq_iff (W0r i)];omega
  rw[this,if_neg (by decide),ih (by omega) (by omega)]
theorem Yk7{α:Type}{i:Nat}{l:List α}: ∀ {p q:Nat},woA i (p+2^(i+1)*q) l=woA i p l:=by
 induction l with
 | nil=>intro p q;rfl
 | cons x l ih =>
  intro p q
  have h:(p+2^(i+1)*q)/2^i%2=p/2^i%2:=by
   rw[W0y,W0w,W6o _ _ (W0r i),W5f]
  simp only[woA,h,show p+2^(i+1)*q+1=p+1+2^(i+1)*q by omega,ih]
def oc(l:List Rat)(i:Nat): Prop:=∃p x,l[p]?=some x/\p/2^i%2=1/\x≠0
def rm: (k:Nat)->Nat->El (k+1)->El k
 | 0,_,a=>a.1
 | k+1,i,a=>if i=k+1 then a.1 else pr (rm k i a.1) (rm k i a.2)
def rmT: (k:Nat)->Nat->Tw (k+1)->Tw k
 | 0,_,_=>()
 | k+1,i,t=>if i=k+1 then t.1 else tsn (rmT k i t.1) (rm k i t.2)
theorem Xfy: ∀ {k i:Nat} {a:El (k+1)},i<=k->toL k (rm k i a)=wo (toL (k+1) a) i:=by
 have top:∀ {k:Nat} {a:El (k+1)},toL k a.1=wo (toL (k+1) a) k:=by
  intro k a
  show _=woA k 0 (toL k a.1++toL k a.2)
  rw[Xnl,Ycm (by rw[Xab];omega),Xxu (by rw[Xab];omega) (by rw[Xab,Xab];omega),W4l]
 intro k
 induction k with
 | zero=>intro i a h;rw[show i=0 by omega];exact top
 | succ k ih =>
  intro i a h
  by_cases e:i=k+1
  . subst e
    rw[show rm (k+1) (k+1) a=a.1 from if_pos rfl];exact top
  . rw[show rm (k+1) i a=pr (rm k i a.1) (rm k i a.2) from if_neg e]
    show toL k (rm k i a.1)++toL k (rm k i a.2)=woA i 0 (toL (k+1) a.1++toL (k+1) a.2)
    rw[ih (by omega),ih (by omega),Xnl,Xab]
    congr 1
    obtain⟨d,hd⟩:∃d,k+1=i+1+d:=⟨k-i,by omega⟩
    have hp:2^(k+1)=2^(i+1)*2^d:=by rw[hd,W0x]
    rw[show wo (toL (k+1) a.2) i=woA i 0 (toL (k+1) a.2) from rfl,hp]
    exact Yk7.symm
theorem Xkf: ∀ {k i:Nat} {t:Tw (k+1)},i<=k->toT k (rmT k i t)=(toT (k+1) t).take i++((toT (k+1) t).drop (i+1)).map λl=>wo l i:=by
 intro k
 induction k with
 | zero=>intro i t h;rw[show i=0 by omega];rfl
 | succ k ih =>
  intro i t h
  by_cases e:i=k+1
  . subst e
    rw[show rmT (k+1) (k+1) t=t.1 from if_pos rfl]
    show _=(toT (k+1) t.1++[toL (k+1) t.2]).take (k+1)++((toT (k+1) t.1++[toL (k+1) t.2]).drop (k+1+1)).map _
    rw[W6e (Xaa _ _),List.drop_of_length_le (by rw[W0d,Xaa];exact W0a _)]
    simp
  . rw[show rmT (k+1) i t=tsn (rmT k i t.1) (rm k i t.2) from if_neg e]
    show toT k (rmT k i t.1)++[toL k (rm k i t.2)]=(toT (k+1) t.1++[toL (k+1) t.2]).take i++((toT (k+1) t.1++[toL (k+1) t.2]).drop (i+1)).map _
    rw[ih (by omega),Xfy (by omega),W6h (by rw[Xaa];omega),List.drop_append_of_le_length (by rw[Xaa];omega)]
    simp
theorem _root_.Go.Proofs.YtfjafaehfjjaiaaGreatDoor.TS.rm{r:Nat}: ∀ {k i:Nat} {t:Tw (k+1)},i<=k->TS r (k+1) t->TS r k (rmT k i t):=by
 intro k
 induction k with
 | zero=>intro i t _ _;trivial
 | succ k ih =>
  intro i t h ht
  by_cases e:i=k+1
  . rw[show rmT (k+1) i t=t.1 from if_pos e];exact ht.1
  . rw[show rmT (k+1) i t=tsn (rmT k i t.1) (Tow.rm k i t.2) from if_neg e]
    exact⟨ih (by omega) ht.1,ht.2.sub λx hx=>by
     have hx:x∈toL k (Tow.rm k i t.2):=hx
     rw[Xfy (by omega)] at hx
     exact Xe6 hx⟩
variable{K:Nat}{G:Tw K}{ρ:Nat->El K}
def skip{α:Type}(i:Nat)(ρ:Nat->α): Nat->α:=λj=>if j<i then ρ j else ρ (j+1)
theorem Xdl{k i:Nat}{a:El (k+1)}(h:¬oc (toL (k+1) a) i): (i=k->a.2=zero k)/\(i<k->¬oc (toL k a.1) i/\¬oc (toL k a.2) i):=by
 have hr:∀ {p:Nat} {x:Rat},(toL k a.2)[p]?=some x->(toL (k+1) a)[2^k+p]?=some x:=λ{p x} hx=>by
  show (toL k a.1++toL k a.2)[2^k+p]?=_
  rw[W0u (by rw[Xab];omega),Xab,W3n,hx]
 refine⟨λe=>(Xam k a.2).2 λx hx=>W1b λh0=>h ?_,λhi=>⟨λ⟨p,x,h1,h2,h3⟩=>h ⟨p,x,?_,h2,h3⟩,λ⟨p,x,h1,h2,h3⟩=>h ⟨2^k+p,x,hr h1,?_,h3⟩⟩⟩
 . obtain⟨p,hp⟩:=W3a hx
   have hlt:=(W0n.1 hp).1
   rw[Xab] at hlt
   refine⟨2^k+p,x,hr hp,?_,h0⟩
   rw[e,show (2^k+p)/2^k=1 by rw[Nat.div_eq_iff (W0r k)];omega]
 . show (toL k a.1++toL k a.2)[p]?=_
   rw[W1a (W0n.1 h1).1,h1]
 . obtain⟨d,hd⟩:∃d,k=i+1+d:=⟨k-i-1,by omega⟩
   rw[hd,W0x,W0y,Nat.add_comm,W0w,W6o _ _ (W0r i),W5f]
   exact h2
theorem Yep: ∀ {k i:Nat} {a:El (k+1)},i<=k->¬oc (toL (k+1) a) i->ev G (skip i ρ) k (rm k i a)=ev G ρ (k+1) a:=by
 have top:∀ {k:Nat} {a:El (k+1)},¬oc (toL (k+1) a) k->ev G (skip k ρ) k a.1=ev G ρ (k+1) a:=by
  intro k a h
  show _=add K (ev G ρ k a.1) (mul K G (ev G ρ k a.2) (ρ k))
  rw[(Xdl h).1 rfl,Xd3,(Xaz K G).zm,(Xaz K G).az]
  exact Xa8 λj hj=>if_pos hj
 intro k
 induction k with
 | zero => intro i a h ho; obtain rfl:i = 0 := by omega
           exact top ho
 | succ k ih =>
  intro i a h ho
  by_cases e:i=k+1
  . subst e
    rw[show rm (k+1) (k+1) a=a.1 from if_pos rfl];exact top ho
  . rw[show rm (k+1) i a=pr (rm k i a.1) (rm k i a.2) from if_neg e]
    obtain⟨h1,h2⟩:=(Xdl ho).2 (by omega)
    show add K (ev G (skip i ρ) k (rm k i a.1)) (mul K G (ev G (skip i ρ) k (rm k i a.2)) (skip i ρ k))=add K (ev G ρ (k+1) a.1) (mul K G (ev G ρ (k+1) a.2) (ρ (k+1)))
    rw[ih (by omega) h1,ih (by omega) h2,show skip i ρ k=ρ (k+1) from if_neg (by omega)]
theorem Yi0: ∀ {k i:Nat},i<=k->∀w:El k,∃w':El (k+1),ev G ρ (k+1) w'=ev G (skip i ρ) k w:=by
 intro k
 induction k with
 | zero=>intro i h w;exact⟨up 0 w,Xwb⟩
 | succ k ih =>
  intro i h w
  by_cases e:i=k+1
  . exact⟨up (k+1) w,by rw[Xwb];exact Xa8 λj hj=>(if_pos (by omega)).symm⟩
  . obtain⟨w1,h1⟩:=ih (i:=i) (by omega) w.1
    obtain⟨w2,h2⟩:=ih (i:=i) (by omega) w.2
    refine⟨pr w1 w2,?_⟩
    show add K (ev G ρ (k+1) w1) (mul K G (ev G ρ (k+1) w2) (ρ (k+1)))=add K (ev G (skip i ρ) k w.1) (mul K G (ev G (skip i ρ) k w.2) (skip i ρ k))
    rw[h1,h2,show skip i ρ k=ρ (k+1) from if_neg (by omega)]
theorem TOk.rm(hG:Xb4 K G){S:List (El K)}: ∀ {k i:Nat} {t:Tw (k+1)},i<=k->TOk G S (k+1) t ρ->(∀j l,i<j->(toT (k+1) t)[j]?=some l->¬oc l i)->TOk G S k (rmT k i t) (skip i ρ):=by
 have top:∀ {k:Nat} {t:Tw (k+1)},TOk G S (k+1) t ρ->TOk G S k t.1 (skip k ρ):=λ{k t} h =>
  ⟨h.r.1,h.h.1.congr λi hi=>(if_pos hi).symm,λi hi=>by show (if i<k then ρ i else ρ (i+1))∈S;rw[if_pos hi];exact h.s i (by omega)⟩
 intro k
 induction k with
 | zero => intro i t h ht ho; obtain rfl:i = 0 := by omega
           exact top ht
 | succ k ih =>
  intro i t h ht ho
  by_cases e:i=k+1
  . subst e
    rw[show rmT (k+1) (k+1) t=t.1 from if_pos rfl];exact top ht
  . rw[show rmT (k+1) i t=tsn (rmT k i t.1) (Tow.rm k i t.2) from if_neg e]
    have ht1:TOk G S (k+1) t.1 ρ:=⟨ht.r.1,ht.h.1,λi hi=>ht.s i (by omega)⟩
    have hget:∀j:Nat,(toT (k+2) t)[j]?=(toT (k+1) t.1++[toL (k+1) t.2])[j]?:=λ_=>rfl
    have hi:=ih (by omega) ht1 λj l hj hl=>ho j l hj (by rw[hget,W1a (W0n.1 hl).1,hl])
    have h2:¬oc (toL (k+1) t.2) i:=ho (k+1) _ (by omega) (by rw[hget,W0u (by rw[Xaa];exact W0a _),Xaa,W3b];rfl)
    have hv:=Yep (G:=G) (ρ:=ρ) (a:=t.2) (show i<=k by omega) h2
    have hs:skip i ρ k=ρ (k+1):=if_neg (by omega)
    refine⟨⟨hi.r,?_,λ⟨w,hw⟩=>?_⟩,⟨hi.h,?_,?_⟩,λj hj=>?_⟩
    . show sgn k (rmT k i t.1) (Tow.rm k i t.2)=1
      rw[<-Xc8 hG hi.h,hv,Xc8 hG ht1.h];exact ht.r.2.1
    . have hw:mul k (rmT k i t.1) w w=Tow.rm k i t.2:=hw
      obtain⟨w',hw'⟩:=Yi0 (G:=G) (ρ:=ρ) (show i<=k by omega) w
      refine ht.r.2.2 ⟨w',Xcs hG ht1.h ht1.r ?_⟩
      rw[Xa4 ht1.h,hw',<-Xa4 hi.h,hw,hv]
    . show mul K G (skip i ρ k) (skip i ρ k)=ev G (skip i ρ) k (Tow.rm k i t.2)
      rw[hs,hv];exact ht.h.2.1
    . rw[hs];exact ht.h.2.2
    . show (if j<i then ρ j else ρ (j+1))∈S
      split
      . exact ht.s j (by omega)
      . exact ht.s (j+1) (by omega)
end
section
def nO(p:Nat): (m:Nat)->El m->Prop
 | 0,_=>True
 | m+1,x=>(p=m->x.2=zero m)/\(p≠m->nO p m x.1/\nO p m x.2)
def yO(p:Nat): (m:Nat)->El m->Prop
 | 0,x=>x=zero 0
 | m+1,x=>(p=m->x.1=zero m)/\(p≠m->yO p m x.1/\yO p m x.2)
theorem Xk0{p:Nat}: ∀ {m:Nat},nO p m (zero m)
 | 0=>trivial
 | m+1=>⟨λ_=>rfl,λ_=>⟨Xk0,Xk0⟩⟩
theorem Ybp{p:Nat}{x:Rat}: ∀ {m:Nat},nO p m (rat m x)
 | 0=>trivial
 | m+1=>⟨λ_=>rfl,λ_=>⟨Ybp,Xk0⟩⟩
theorem Ykz(m:Nat)(a:El m): add m a (zero m)=a:=by
 cases m with
 | zero=>exact W7c a
 | succ m=>exact W3j (Ykz m _) (Ykz m _)
theorem Yk5(m:Nat)(a:El m): add m (zero m) a=a:=by
 cases m with
 | zero=>exact Rat.zero_add a
 | succ m=>exact W3j (Yk5 m _) (Yk5 m _)
theorem Xuq{p:Nat}: ∀ {m:Nat} {x y:El m},nO p m x->nO p m y->nO p m (add m x y)
 | 0,_,_,_,_=>trivial
 | m+1,x,y,h,k=>⟨λe=>by show add m x.2 y.2=_;rw[h.1 e,k.1 e];exact Ykz m _,λe=>⟨Xuq (h.2 e).1 (k.2 e).1,Xuq (h.2 e).2 (k.2 e).2⟩⟩
theorem Xqq{d n:Nat}(hn:0<n){m:Nat}: IsD d n (toL m (zero m)):=by
 rw[Xbn]
 exact λx hx=>⟨0,by rw[(W5o.1 hx).2,W4q];rfl,hn⟩
theorem Xvg{d n:Nat}(hn:0<n){x:Rat}(h:IsD d n [x]): ∀ {m:Nat},IsD d n (toL m (rat m x))
 | 0=>h
 | m+1=>by show IsD d n (toL m (rat m x)++toL m (zero m));exact(Xvg hn h).append (Xqq hn)
theorem Xoi{d n p:Nat}: ∀ {m:Nat} {x y:El m},p<m->nO p m x->yO p m y->IsD d n (toL m x)->IsD d n (toL m y)->IsD d n (toL m (add m x y))
 | m+1,x,y,hp,hx,hy,h,k=>by
  by_cases e:p=m
  . have e1:=hx.1 e
    have e2:=hy.1 e
    show IsD d n (toL m (add m x.1 y.1)++toL m (add m x.2 y.2))
    have ax:add m x.1 (zero m)=x.1:=Ykz m _
    have az:add m (zero m) y.2=y.2:=Yk5 m _
    rw[e1,e2,ax,az]
    exact(IsD.left (m:=toL m x.2) h).append (IsD.right (l:=toL m y.1) k)
  . show IsD d n (toL m (add m x.1 y.1)++toL m (add m x.2 y.2))
    exact(Xoi (by omega) (hx.2 e).1 (hy.2 e).1 (IsD.left (m:=toL m x.2) h) (IsD.left (m:=toL m y.2) k)).append (Xoi (by omega) (hx.2 e).2 (hy.2 e).2 (IsD.right (l:=toL m x.1) h) (IsD.right (l:=toL m y.1) k))
theorem Xus{d n p:Nat}(hn:0<n): ∀ {m:Nat} {T:Tw m} {x:El m},p<m->nO p m x->yO p m (mul m T (Xcr m p) x)/\(∀q,q≠p->nO q m x->nO q m (mul m T (Xcr m p) x))/\(IsD d n (toL m x)->IsD d n (toL m (mul m T (Xcr m p) x)))
 | m+1,T,x,hp,hx=>by
  have L:=Xaz m T.1
  by_cases e:p=m
  . subst e
    have e1:=hx.1 rfl
    have em:mul (p+1) T (Xcr (p+1) p) x=(pr (zero p) x.1:El (p+1)):=by
     rw[Xkq]
     refine W3j ?_ ?_
     . show add p (mul p T.1 (zero p) x.1) (mul p T.1 (mul p T.1 (rat p 1) x.2) T.2)=zero p
       rw[e1,L.mz,L.zm,L.zm,L.az]
     . show add p (mul p T.1 (zero p) x.2) (mul p T.1 (rat p 1) x.1)=x.1
       rw[L.zm,L.om,L.za]
    rw[em]
    refine⟨⟨λ_=>rfl,λh=>absurd rfl h⟩,λq hq h=>⟨λh2=>absurd h2 hq,λ_=>⟨Xk0,(h.2 hq).1⟩⟩,λh=>?_⟩
    show IsD d n (toL p (zero p)++toL p x.1)
    exact(Xqq hn).append (IsD.left (m:=toL p x.2) h)
  . obtain⟨a1,a2,a3⟩:=Xus (d:=d) hn (T:=T.1) (by omega) (hx.2 e).1
    obtain⟨b1,b2,b3⟩:=Xus (d:=d) hn (T:=T.1) (by omega) (hx.2 e).2
    have em:mul (m+1) T (Xcr (m+1) p) x=(pr (mul m T.1 (Xcr m p) x.1) (mul m T.1 (Xcr m p) x.2):El (m+1)):=by
     rw[Xp0 e]
     refine W3j ?_ ?_
     . show add m (mul m T.1 (Xcr m p) x.1) (mul m T.1 (mul m T.1 (zero m) x.2) T.2)=_
       rw[L.zm,L.zm,L.az];rfl
     . show add m (mul m T.1 (Xcr m p) x.2) (mul m T.1 (zero m) x.1)=_
       rw[L.zm,L.az];rfl
    rw[em]
    refine⟨⟨λh=>absurd h e,λ_=>⟨a1,b1⟩⟩,λq hq h=>⟨λh2=>?_,λh2=>⟨a2 q hq (h.2 h2).1,b2 q hq (h.2 h2).2⟩⟩,λh=>?_⟩
    . show mul m T.1 (Xcr m p) x.2=zero m
      rw[h.1 h2,L.mz]
    . show IsD d n (toL m (mul m T.1 (Xcr m p) x.1)++toL m (mul m T.1 (Xcr m p) x.2))
      exact(a3 (IsD.left (m:=toL m x.2) h)).append (b3 (IsD.right (l:=toL m x.1) h))
theorem Xoq{d n m:Nat}(hn:0<n){T:Tw m}{π:Nat->Nat}: ∀ {j:Nat} {a:El j},(∀i,i<j->π i<m)->(∀i i',i<i'->i'<j->π i≠π i') ->
 (IsD d n (toL j a)->IsD d n (toL m (ev T (λi=>Xcr m (π i)) j a)))/\∀q,(∀i,i<j->q≠π i)->nO q m (ev T (λi=>Xcr m (π i)) j a)
 | 0,a,_,_=>⟨λh=>Xvg hn h,λq _=>Ybp⟩
 | j+1,a,h1,h2=>by
  have L:=Xaz m T
  obtain⟨a1,a2⟩:=Xoq (d:=d) hn (T:=T) (a:=a.1) (λi hi=>h1 i (by omega)) (λi i' hi hi'=>h2 i i' hi (by omega))
  obtain⟨b1,b2⟩:=Xoq (d:=d) hn (T:=T) (a:=a.2) (λi hi=>h1 i (by omega)) (λi i' hi hi'=>h2 i i' hi (by omega))
  have hp:=h1 j (by omega)
  have hd:∀i,i<j->π j≠π i:=λi hi e=>h2 i j hi (by omega) e.symm
  obtain⟨c1,c2,c3⟩:=Xus (d:=d) hn (T:=T) hp (b2 (π j) hd)
  have e:ev T (λi=>Xcr m (π i)) (j+1) a=add m (ev T (λi=>Xcr m (π i)) j a.1) (mul m T (Xcr m (π j)) (ev T (λi=>Xcr m (π i)) j a.2)):=by
   show add m _ (mul m T _ _)=_
   rw[L.mc]
  rw[e]
  exact⟨λh=>Xoi hp (a2 (π j) hd) c1 (a1 (IsD.left (m:=toL j a.2) h)) (c3 (b1 (IsD.right (l:=toL j a.1) h))),λq hq=>Xuq (a2 q λi hi=>hq i (by omega)) (c2 q (hq j (by omega)) (b2 q λi hi=>hq i (by omega)))⟩
end
section
theorem Xhf{b:Rat}: ∀ {m:Nat} {t:Tw m} {y:El m},toL m (mul m t (rat m b) y)=(toL m y).map (b*·)
 | 0,_,_=>rfl
 | m+1,t,y=>by
  have L:=Xaz m t.1
  show toL m (add m (mul m t.1 (rat m b) y.1) (mul m t.1 (mul m t.1 (zero m) y.2) t.2))++toL m (add m (mul m t.1 (rat m b) y.2) (mul m t.1 (zero m) y.1))=(toL m y.1++toL m y.2).map _
  rw[L.zm,L.zm,L.zm,L.az,L.az,Xhf,Xhf,W2c]
theorem Ydz{m:Nat}{x:Rat}: x∈toL m (rat m x):=by rw[Xcm];exact W0l ..
theorem Xt8{m:Nat}{x y:Rat}(h:rat m x=rat m y): x=y:=by
 have:=congrArg (toL m) h
 rw[Xcm,Xcm] at this
 injection this
variable{K:Nat}{G:Tw K}{S:List (El K)}{r p:Nat}{ρ:Nat->El K}
def Yce(G:Tw K)(S:List (El K))(r p:Nat): Prop:=∀g∈S,∃z,NOk G S r p z (mul K G g g)
theorem TOk.low{k:Nat}{T:Tw (k+1)}(h:TOk G S (k+1) T ρ): TOk G S k T.1 ρ:=⟨h.r.1,h.h.1,λi hi=>h.s i (by omega)⟩
theorem Xt7(hG:red K G){z:Nm}{x:Rat}(hz:NOk G S r p z (rat K x)): Sz p [x]:=by
 obtain⟨ρz,h1,h2⟩:=hz.ex
 have:z.a=rat z.k x:=Xcs (Xad hG) h1.h h1.r (by rw[h2,Xc2])
 have h3:=hz.p
 rw[this] at h3
 exact h3.sub λy hy=>by rw[W0h.1 hy];exact Ydz
theorem Ynn(hG:red K G)(hq:Yce G S r p){T:Tw 1}(h:TOk G S 1 T ρ): Sz p [(T.2:Rat)]:=by
 obtain⟨z,hz⟩:=hq _ (h.s 0 (by decide))
 rw[h.h.2.1] at hz
 exact Xt7 hG hz
theorem Xs1{a b y0 u:Rat}{d e:Nat}{Z0 Z1 Y0 U:Int}{p P:Nat}(d0:0<d)(d1:d<2^p)(e1:e<2^P)(e0:0<e)(z01:(a+b*y0)*(d:Rat)=(Z0:Rat))(z02:Z0.natAbs<2^p)(z11:b*u*(d:Rat)=(Z1:Rat))(z12:Z1.natAbs<2^p)
 (y01:y0*(e:Rat)=(Y0:Rat)) (y02:Y0.natAbs<2^P) (u01:u*(e:Rat)=(U:Rat)) (u02:U.natAbs<2^P) (hu0:u≠0):Sz (p+P+1) [a,b]:=by
 have hU:U≠0:=λh=>by
  rw[h] at u01
  have:(e:Rat)≠0:=λh=>by
   have:(e:Rat).num=0:=by rw[h];rfl
   rw[Rat.num_natCast] at this
   omega
  rcases Rat.mul_eq_zero.1 u01 with h | h
  . exact hu0 h
  . exact this h
 have hUn:0<U.natAbs:=by omega
 have hpp:2^(p+P+1)=2*(2^p*2^P):=by rw[W0y,W0x];omega
 have hpos:=W0r p
 have hposP:=W0r P
 have hab:a*((d:Rat)*(U:Rat))=((Z0*U-Z1*Y0:Int):Rat):=by
  rw[Rat.intCast_sub,W3t,W3t];grind
 have hbb:b*((d:Rat)*(U:Rat))=((Z1*(e:Int):Int):Rat):=by
  rw[W3t,show (((e:Int)):Rat)=(e:Rat) from rfl];grind
 have key:∀ {x:Rat} {w:Int},x*((d:Rat)*(U:Rat))=(w:Rat)->∃w':Int,x*((d*U.natAbs:Nat):Rat)=(w':Rat)/\w'.natAbs=w.natAbs:=λ{x w} hx=>by
  rcases Int.natAbs_eq U with h | h
  . refine⟨w,?_,rfl⟩
    rw[<-hx,W6c]
    congr 2
    exact(congrArg (λn:Int=>(n:Rat)) h).symm
  . refine⟨-w,?_,W5d w⟩
    rw[W7n,<-hx,W6c]
    have:(U:Rat)=-((U.natAbs:Nat):Rat):=by
     conv=>lhs;rw[h]
     rw[W7n];rfl
    rw[this];grind
 refine⟨d*U.natAbs,W1m d0 hUn,?_,λx hx=>?_⟩
 . have:=W3i d1 u02
   omega
 . rcases W1j.1 hx with hx | hx
   . obtain⟨w,w1,w2⟩:=key hab
     refine⟨w,by rw[hx];exact w1,?_⟩
     have a1:=W3i z02 u02
     have a2:=W3i z12 y02
     rw[<-W3p] at a1 a2
     rw[w2];omega
   . obtain⟨w,w1,w2⟩:=key hbb
     refine⟨w,by rw[W0h.1 hx];exact w1,?_⟩
     have a2:=W3i z12 e1
     rw[w2,W3p,W1f];omega
theorem Ylq(hG:red K G)(hS:S.length<=3){g:El K}(q a b:Rat){z:Nm}(hz:NOk G S r p z (add K (rat K a) (mul K G (rat K b) g)))(hq0:mul K G g g=rat K q)(hq1:Sz p [q])(hns:¬ ∃y:Rat,y*y=q): Sz (p+(p+1+gC r 3)+1) [a,b]:=by
 have hGr:=Xad hG
 have L:=Xaz K G
 by_cases hb:b=(0:Rat)
 . rw[hb,Xdx,L.zm,L.az] at hz
   have:=Xt7 hG hz
   rw[hb]
   obtain⟨d,d0,d1,d2⟩:=this
   have hp:=W0m (n:=2) (by decide) (show p<=p+(p+1+gC r 3)+1 by omega)
   exact⟨d,d0,by omega,λx hx=>by
    rcases W1j.1 hx with hx | hx
    . obtain⟨w,w1,w2⟩:=d2 x (by rw[hx];exact W0h.2 rfl)
      exact⟨w,w1,by omega⟩
    . exact⟨0,by rw[W0h.1 hx,W4q];rfl,W0r _⟩⟩
 obtain⟨ρz,h1,h2⟩:=hz.ex
 have hz3:=hz.le hGr hS
 have hb1:mul K G (rat K (1/b)) (rat K b)=rat K 1:=by rw[<-Xco,W5e hb]
 obtain⟨y,hy⟩:∃y,y=mul z.k z.t (rat z.k (1/b)) (add z.k z.a (neg z.k (rat z.k a))):=⟨_,rfl⟩
 have hyv:ev G ρz z.k y=g:=by
  rw[hy,Xa4 h1.h,Xc2,Xct,Xd5,Xc2,h2]
  have e1:add K (add K (rat K a) (mul K G (rat K b) g)) (neg K (rat K a))=mul K G (rat K b) g:=(Laws.req L [rat K a,mul K G (rat K b) g] (.add (.add (.v 0) (.v 1)) (.neg (.v 0))) (.v 1) (by decide +kernel))
  rw[e1,<-L.ma,hb1,L.om]
 have hyy:mul z.k z.t y y=rat z.k q:=Xcs hGr h1.h h1.r (by rw[Xa4 h1.h,hyv,hq0,Xc2])
 have hys:Sz (p+1+gC r 3) (toL z.k y):=(Sz.rootS hz.r h1.r (Sz.rat z.k (hq1.qs (W0h.2 rfl))) hyy).mono (by have:=Xv2 (r:=r) hz3;omega)
 have hza:z.a=add z.k (rat z.k a) (mul z.k z.t (rat z.k b) y):=Xcs hGr h1.h h1.r (by rw[h2,Xct,Xc2,Xa4 h1.h,Xc2,hyv])
 have hzl:toL z.k z.a=List.zipWith (·+·) (a::List.replicate (2^z.k-1) 0) ((toL z.k y).map (b*·)):=by rw[hza,Xav,Xcm,Xhf]
 have hyl:=Xab z.k y
 have hk0:=W0r z.k
 obtain⟨y0,ys,hyc⟩:∃y0 ys,toL z.k y=y0::ys:=by
  cases e:toL z.k y with
  | nil=>rw[e] at hyl;simp at hyl;omega
  | cons y0 ys=>exact⟨_,_,rfl⟩
 have hu:∃u∈ys,u≠0:=W1b λhn=>by
  have hys0:ys=List.replicate (2^z.k-1) 0:=List.eq_replicate_iff.2 ⟨by rw[hyc] at hyl;simp at hyl;omega,λu hu=>W1b λh=>hn ⟨u,hu,h⟩⟩
  have e:y=rat z.k y0:=Xgk (by rw[hyc,hys0,Xcm])
  rw[e,<-Xco] at hyy
  exact hns ⟨y0,Xt8 hyy⟩
 obtain⟨u,hu1,hu0⟩:=hu
 obtain⟨i,hi⟩:=W3a hu1
 have hil:=(W0n.1 hi).1
 have hm0:a+b*y0∈toL z.k z.a:=by rw[hzl,hyc];simp
 have hm1:b*u∈toL z.k z.a:=by
  rw[hzl,hyc]
  refine W0f (i:=i+1) ?_
  have hyl2:ys.length=2^z.k-1:=by rw[hyc] at hyl;simp at hyl;omega
  simp[W5q,hi,W4u,show i<2^z.k-1 by omega,Rat.zero_add]
 obtain⟨d,d0,d1,d2⟩:=hz.p
 obtain⟨e,e0,e1,e2⟩:=hys
 obtain⟨Z0,z01,z02⟩:=d2 _ hm0
 obtain⟨Z1,z11,z12⟩:=d2 _ hm1
 obtain⟨Y0,y01,y02⟩:=e2 y0 (by rw[hyc];exact W0l ..)
 obtain⟨U,u01,u02⟩:=e2 u (by rw[hyc];exact W0p _ hu1)
 exact Xs1 d0 d1 e1 e0 z01 z02 z11 z12 y01 y02 u01 u02 hu0
theorem You(hG:red K G)(hS:S.length<=3)(hq:Yce G S r p){T:Tw 2}(h:TOk G S 2 T ρ): Sz (p+(p+1+gC r 3)+1) (toL 1 T.2):=by
 obtain⟨z,hz⟩:=hq _ (h.s 1 (by decide))
 rw[h.h.2.1] at hz
 exact Ylq hG hS (g:=ρ 0) T.1.2 T.2.1 T.2.2 hz h.h.1.2.1 (Ynn hG hq h.low) h.r.1.2.2
theorem Yld(hG:red K G){k:Nat}{T:Tw k}(h:TOk G S k T ρ)(hS:S.length<=k){s:El K}(hs:s∈S): ∃i,i<k/\ρ i=s:=W1b λhn=>by
 have:=Xuc (k+1) S (λi=>if i=k then s else ρ i) (λi hi=>by
  by_cases e:i=k
  . simp only[if_pos e];exact hs
  . simp only[if_neg e];exact h.s i (by omega)) (λi j hij hj=>by
  have hi:¬i=k:=by omega
  by_cases e:j=k
  . simp only[if_pos e,if_neg hi];exact λh=>hn ⟨i,by omega,h⟩
  . simp only[if_neg e,if_neg hi];exact h.h.ne (Xad hG) h.r i j hij (by omega))
 omega
theorem Yot(hG:red K G)(hS:S.length<=3)(hq:Yce G S r p){T:Tw 3}(h:TOk G S 3 T ρ): Sz p (toL 2 T.2):=by
 have hGr:=Xad hG
 obtain⟨z,hz⟩:=hq _ (h.s 2 (by decide))
 rw[h.h.2.1] at hz
 obtain⟨ρz,h1,h2⟩:=hz.ex
 have:∀i,∃j,i<z.k->j<3/\ρ j=ρz i:=λi=>by
  by_cases hi:i<z.k
  . obtain⟨j,j1,j2⟩:=Yld hG h hS (h1.s i hi);exact⟨j,λ_=>⟨j1,j2⟩⟩
  . exact⟨0,λh=>absurd h hi⟩
 obtain⟨π,hπ⟩:=W4v this
 have hb:ev G ρ 3 (ev T (λi=>Xcr 3 (π i)) z.k z.a)=ev G ρ 3 (up 2 T.2):=by
  rw[Xit h.h (ρ':=ρz) (λi hi=>by rw[Xgt (hπ i hi).1,(hπ i hi).2]),h2,Xwb]
 have hb:=Xcs hGr h.h h.r hb
 obtain⟨d,d0,d1,d2⟩:=hz.p
 have:=(Xoq (d:=d) (n:=2^p) (W0r p) (T:=T) (π:=π) (a:=z.a) (λi hi=>(hπ i hi).1) (λi i' hi hi' e=>h1.h.ne hGr h1.r i i' hi hi' (by rw[<-(hπ i (by omega)).2,<-(hπ i' hi').2,e]))).1 d2
 rw[hb] at this
 exact⟨d,d0,d1,IsD.left (m:=toL 2 (zero 2)) this⟩
theorem Xpe(hG:red K G)(hS:S.length<=3)(hq:Yce G S r p): ∀ {m:Nat} {T:Tw m},TOk G S m T ρ->TS (p+(p+1+gC r 3)+1) m T
 | 0,_,_=>trivial
 | 1,T,h=>⟨trivial,(Ynn hG hq h).mono (by omega)⟩
 | 2,T,h=>⟨Xpe hG hS hq h.low,You hG hS hq h⟩
 | 3,T,h=>⟨Xpe hG hS hq h.low,(Yot hG hS hq h).mono (by omega)⟩
 | m+4,T,h=>absurd (h.le (Xad hG)) (by omega)
end
section
def zM(R:Nat): Nat->Nat
 | 0=>3
 | i+1=>zM R i+imB (cB R 3) (zM R i) i R+gC R 3
theorem Yci{R:Nat}: ∀ {i j:Nat},i<=j->zM R i<=zM R j
 | i,0,h=>by rw[show i=0 by omega];exact W0a _
 | i,j+1,h=>by
  by_cases e:i=j+1
  . rw[e];exact W0a _
  . exact W0k (Yci (show i<=j by omega)) (by show _<=zM R j+imB (cB R 3) (zM R j) j R+gC R 3;omega)
variable{K:Nat}{G:Tw K}{S:List (El K)}{R r p:Nat}{ρ:Nat->El K}
structure Fg where
 H:Nat
 R:Nat
 z:Nat->Nat
 Z:Nat
def Fg.E(c:Fg): Nat:=imB (cB c.R c.H) c.Z (c.H-1) c.R
def jW(c:Fg)(p:Nat): Nat:=imB (cB c.R c.H) c.Z c.H p
def oW(c:Fg)(p:Nat): Nat:=2*jW c p+cB c.R c.H+1
structure Fg.Ok (c:Fg):Prop where
 h:1<=c.H/\c.H<=7
 r:c.R<=1000000000
 z:∀i,i<c.H->c.z i<=c.Z
 z3:3<=c.Z
 q1:qB c.R c.H c.E<=4398046511104
 q2:qB c.R c.H c.R<=4398046511104
 q3:vB c.R c.H (c.E+gC c.R c.H)<=4398046511104
 q4:vB c.R c.H c.R<=4398046511104
theorem Fg.Ok.e{c:Fg}(h:c.Ok): c.E<=4398046511104:=W0k Ydg h.q1
theorem Yec{c z j p:Nat}: p<=imB c z j p:=by
 induction j with
 | zero=>exact Nat.le_succ _
 | succ j ih=>show p<=2*imB c z j p+z+c+1;omega
theorem Xvq{c z p:Nat}: ∀ {i j:Nat},i<=j->imB c z i p<=imB c z j p
 | i,0,h=>by rw[show i=0 by omega];exact W0a _
 | i,j+1,h=>by
  by_cases e:i=j+1
  . rw[e];exact W0a _
  . exact W0k (Xvq (show i<=j by omega)) (by show _<=2*imB c z j p+z+c+1;omega)
theorem Xvd{c:Fg}{p:Nat}: p<=jW c p:=Yec
theorem Xvc{c:Fg}{m i p:Nat}(hm:m<=c.H)(hi:i<=c.H): imB (cB c.R m) c.Z i p<=jW c p :=
 W0k (Xhk (Xe4 hm) (W0a _) (W0a _)) (Xvq hi)
theorem Xxy{c:Fg}{m i:Nat}(hm:m<=c.H)(hi:i<c.H): imB (cB c.R m) c.Z i c.R<=c.E :=
 W0k (Xhk (Xe4 hm) (W0a _) (W0a _)) (Xvq (by omega))
structure Wy (c:Fg) (G:Tw K) (S:List (El K)):Prop where
 k:c.Ok
 g:red K G
 s:S.length<=c.H
 t:∀ {m:Nat} {T:Tw m} {ρ:Nat->El K},TOk G S m T ρ->TS c.R m T
 z:∀ {m l:Nat} {T:Tw m} {u:Tw l} {ρ ρu:Nat->El K},TOk G S m T ρ->TOk G S l u ρu->∀i,i<l->(∀j,j<i->∃e:El m,ev G ρ m e=ρu j)->∀e:El m,ev G ρ m e=ρu i->Sz (c.z i) (toL m e)
theorem Wy.le{c:Fg}(W:Wy c G S){m:Nat}{T:Tw m}(h:TOk G S m T ρ): m<=c.H:=W0k (h.le (Xad W.g)) W.s
theorem choose{m:Nat}{P:Nat->Prop}{ρu:Nat->El K}(h:∀j,P j->∃e:El m,ev G ρ m e=ρu j): ∃σ:Nat->El m,∀j,P j->ev G ρ m (σ j)=ρu j:=by
 have:∀j,∃e:El m,P j->ev G ρ m e=ρu j:=λj=>by
  by_cases hj:P j
  . obtain⟨e,he⟩:=h j hj;exact⟨e,λ_=>he⟩
  . exact⟨zero m,λh=>absurd h hj⟩
 exact W4v this
theorem Yg1(hG:red K G)(hS:S.length<=3)(ht:∀ {m:Nat} {T:Tw m} {ρ:Nat->El K},TOk G S m T ρ->TS R m T){m l:Nat}{T:Tw m}{u:Tw l}{ρu:Nat->El K}(hT:TOk G S m T ρ)(hu:TOk G S l u ρu): ∀i,i<l->(∀j,j<i->∃e:El m,ev G ρ m e=ρu j)->∀e:El m,ev G ρ m e=ρu i->Sz (zM R (i+1)) (toL m e):=λi=>by
 have hGr:=Xad hG
 have hm:=W0k (hT.le hGr) hS
 induction i using Nat.strongRecOn with
 | _ i ih =>
  intro hi hj e he
  obtain⟨σ,hσ⟩:=choose (P:=(·<i)) hj
  obtain⟨x,_,x2,x3⟩:=Tw.at (t:=u) hi
  have hx:=x2 R (ht hu)
  obtain⟨x3,_⟩:=x3 hu.h
  have hs:∀j,j<i->Sz (zM R i) (toL m (σ j)):=λj h=>(ih j h (by omega) (λj' h'=>hj j' (by omega)) _ (hσ j h)).mono (Yci h)
  have hsz:=(Xi9 (ht hT) (a:=x) hs hx).mono (Xhk (Xe4 hm) (W0a _) (W0a _))
  have hee:mul m T e e=ev T σ i x:=Xcs hGr hT.h hT.r (by rw[Xa4 hT.h,he,x3,Xit hT.h hσ])
  exact(Sz.rootS (ht hT) hT.r hsz hee).mono (by have:=Xv2 (r:=R) hm;show _<=zM R i+imB (cB R 3) (zM R i) i R+gC R 3;omega)
theorem Xzi(hG:red K G){m:Nat}{T:Tw m}(hT:TOk G S m T ρ){g:El K}(hg:g∈S)(h1:sgn K G g=1){e:El m}(he:ev G ρ m e=mul K G g g): ∃(m':Nat) (T':Tw m') (ρ':Nat->El K),TOk G S m' T' ρ'/\Beg m T m' T'/\(∀i,i<m->ρ' i=ρ i)/\∃e':El m',ev G ρ' m' e'=g:=by
 have hGr:=Xad hG
 have L:=Xaz K G
 have Sg:=Xau hGr
 by_cases hs:Xcp m T e
 . obtain⟨y,hy⟩:=hs
   refine⟨m,T,ρ,hT,Beg.rf,λ_ _=>rfl,?_⟩
   have h2:mul K G (ev G ρ m y) (ev G ρ m y)=mul K G g g:=by rw[<-Xa4 hT.h,hy,he]
   by_cases h0:0<=sgn K G (ev G ρ m y)
   . exact⟨y,Xjg hG h2 h0 (by rw[h1];decide)⟩
   . refine⟨neg m y,Xjg hG ?_ (by rw[Xd5,Sg.sn];omega) (by rw[h1];decide)⟩
     rw[Xd5,L.mn,L.nm,L.nn,h2]
 . refine⟨m+1,tsn T e,_,hT.snoc hGr hs hg he.symm h1,Beg.snoc,λi hi=>if_neg (by omega),Xcr (m+1) m,?_⟩
   rw[Xgt (by omega)]
   exact if_pos rfl
theorem Xwd{m m' k:Nat}{T:Tw m}{T':Tw m'}{ρ':Nat->El K}(hB:Beg m T m' T')(ha:∀i,i<m->ρ' i=ρ i){g:El K}(h:∃e:El m,ev G ρ m e=g): ∃e:El m',ev G ρ' m' e=g:=by
 obtain⟨e,he⟩:=h
 obtain⟨b,hb⟩:=Lf.ex hB.le e
 exact⟨b,by rw[hb.ev hB.le,Xa8 ha,he]⟩
theorem Yiz(hG:red K G){m l:Nat}{T:Tw m}{u:Tw l}{ρu:Nat->El K}(hT:TOk G S m T ρ)(hu:TOk G S l u ρu): ∀i,i<=l->∃(m':Nat) (T':Tw m') (ρ':Nat->El K),TOk G S m' T' ρ'/\Beg m T m' T'/\(∀i,i<m->ρ' i=ρ i)/\∀j,j<i->∃e:El m',ev G ρ' m' e=ρu j:=λi=>by
 induction i with
 | zero=>exact λ_=>⟨m,T,ρ,hT,Beg.rf,λ_ _=>rfl,λj hj=>absurd hj (W3h _)⟩
 | succ i ih =>
  intro hi
  obtain⟨m1,T1,ρ1,a1,a2,a3,a4⟩:=ih (by omega)
  obtain⟨σ,hσ⟩:=choose (P:=(·<i)) a4
  obtain⟨x,_,_,x3⟩:=Tw.at (t:=u) (show i<l by omega)
  obtain⟨x3,x4⟩:=x3 hu.h
  obtain⟨m2,T2,ρ2,b1,b2,b3,b4⟩:=Xzi hG a1 (hu.s i (by omega)) x4 (e:=ev T1 σ i x) (by rw[Xit a1.h hσ,x3])
  refine⟨m2,T2,ρ2,b1,a2.tr b2,λj hj=>by rw[b3 j (by have:=a2.le;omega),a3 j hj],λj hj=>?_⟩
  by_cases e:j=i
  . rw[e];exact b4
  . exact Xwd (k:=0) b2 b3 (a4 j (by omega))
def Fl(G:Tw K)(S:List (El K))(N:List Nm)(m:Nat)(T:Tw m)(ρ:Nat->El K): Prop:=TOk G S m T ρ/\∀z∈N,∀ρz,TOk G S z.k z.t ρz->∀j,j<z.k->∃e:El m,ev G ρ m e=ρz j
theorem Fl.ex(hG:red K G){m:Nat}{T:Tw m}(hT:TOk G S m T ρ): ∀ {N:List Nm},(∀z∈N,∃ρz,TOk G S z.k z.t ρz)->∃(m':Nat) (T':Tw m') (ρ':Nat->El K),Fl G S N m' T' ρ'/\Beg m T m' T'/\(∀i,i<m->ρ' i=ρ i)
 | [],_=>⟨m,T,ρ,⟨hT,λz h=>nomatch h⟩,Beg.rf,λ_ _=>rfl⟩
 | z::N,h=>by
  obtain⟨m1,T1,ρ1,⟨a1,a2⟩,a3,a4⟩:=Fl.ex hG hT (N:=N) λz hz=>h z (W0p _ hz)
  obtain⟨ρz,hz⟩:=h z (W0l ..)
  obtain⟨m2,T2,ρ2,b1,b2,b3,b4⟩:=Yiz hG a1 hz z.k (W0a _)
  refine⟨m2,T2,ρ2,⟨b1,λy hy ρy hy1 j hj=>?_⟩,a3.tr b2,λi hi=>by rw[b3 i (by have:=a3.le;omega),a4 i hi]⟩
  rcases W1j.1 hy with e | hy
  . subst e
    rw[hy1.h.uniq hG hz.h j hj];exact b4 j hj
  . exact Xwd (k:=0) b2 b3 (a2 y hy ρy hy1 j hj)
def Gs(G:Tw K)(S:List (El K))(N:List Nm)(b:Nat)(v:El K): Prop:=∀(m:Nat) (T:Tw m) (ρ:Nat->El K),Fl G S N m T ρ->∃a:El m,ev G ρ m a=v/\Sz b (toL m a)
variable{N:List Nm}{b c:Nat}{v w:El K}
theorem Gs.mono(h:Gs G S N b v)(hb:b<=c): Gs G S N c v:=λm T ρ hF=>let ⟨a,h1,h2⟩:=h m T ρ hF;⟨a,h1,h2.mono hb⟩
def imS(c:Nat)(z:Nat->Nat): Nat->Nat->Nat
 | 0,p=>p+1
 | j+1,p=>2*imS c z j p+z j+c+1
theorem Xwc{k R:Nat}{z:Nat->Nat}{T:Tw k}{σ:Nat->El k}(hT:TS R k T): ∀ {j p:Nat} {a:El j},(∀i,i<j->Sz (z i) (toL k (σ i)))->Sz p (toL j a)->Sz (imS (cB R k) z j p) (toL k (ev T σ j a))
 | 0,p,a,_,ha=>Sz.rat k (ha.qs (x:=a) (W0h.2 rfl))
 | j+1,p,a,hs,ha=>by
  have h1:=Xwc hT (a:=a.1) (λi hi=>hs i (by omega)) (Sz.left ha)
  have h2:=Xwc hT (a:=a.2) (λi hi=>hs i (by omega)) (Sz.right ha)
  have h3:=h2.mul hT (hs j (by omega))
  show Sz _ (toL k (add k (Tow.ev T σ j a.1) (mul k T (Tow.ev T σ j a.2) (σ j))))
  rw[Xav]
  exact(h1.add h3).mono (by show _<=2*imS (cB R k) z j p+z j+cB R k+1;omega)
theorem Yih{c d:Nat}{z:Nat->Nat}(h:c<=d): ∀ {j p:Nat},imS c z j p<=imS d z j p
 | 0,p=>W0a _
 | j+1,p=>by
  have:=Yih (z:=z) h (j:=j) (p:=p)
  show 2*imS c z j p+z j+c+1<=2*imS d z j p+z j+d+1
  omega
theorem Yby{c:Nat}{z:Nat->Nat}{p:Nat}: ∀ {i j:Nat},i<=j->imS c z i p<=imS c z j p
 | i,0,h=>by rw[show i=0 by omega];exact W0a _
 | i,j+1,h=>by
  by_cases e:i=j+1
  . rw[e];exact W0a _
  . exact W0k (Yby (show i<=j by omega)) (by show _<=2*imS c z j p+z j+c+1;omega)
theorem Gs.short{c:Fg}(W:Wy c G S){z:Nm}(hz:NOk G S r p z v)(hN:z∈N){n:Nat}(hn:z.k<=n): Gs G S N (imS (cB c.R c.H) c.z n p) v:=λm T ρ hF=>by
 obtain⟨ρz,h1,h2⟩:=hz.ex
 obtain⟨σ,hσ⟩:=choose (P:=(·<z.k)) (hF.2 z hN ρz h1)
 have hs:∀j,j<z.k->Sz (c.z j) (toL m (σ j)):=λj h=>W.z hF.1 h1 j h (λj' h'=>⟨_,hσ j' (by omega)⟩) _ (hσ j h)
 exact⟨ev T σ z.k z.a,by rw[Xit hF.1.h hσ,h2],(Xwc (z:=c.z) (W.t hF.1) hs hz.p).mono (W0k (Yih (Xe4 (W.le hF.1))) (Yby hn))⟩
theorem Gs.add(h:Gs G S N b v)(k:Gs G S N c w): Gs G S N (b+c+1) (Tow.add K v w):=λm T ρ hF=>by
 obtain⟨x,h1,h2⟩:=h m T ρ hF
 obtain⟨y,k1,k2⟩:=k m T ρ hF
 exact⟨Tow.add m x y,by rw[Xct,h1,k1],by rw[Xav];exact h2.add k2⟩
theorem Gs.neg(h:Gs G S N b v): Gs G S N b (Tow.neg K v):=λm T ρ hF=>by
 obtain⟨x,h1,h2⟩:=h m T ρ hF
 exact⟨Tow.neg m x,by rw[Xd5,h1],by rw[Xb6];exact h2.neg⟩
theorem Gs.mul{f:Fg}(W:Wy f G S)(h:Gs G S N b v)(k:Gs G S N c w): Gs G S N (b+c+cB f.R f.H) (Tow.mul K G v w):=λm T ρ hF=>by
 obtain⟨x,h1,h2⟩:=h m T ρ hF
 obtain⟨y,k1,k2⟩:=k m T ρ hF
 exact⟨Tow.mul m T x y,by rw[Xa4 hF.1.h,h1,k1],(h2.mul (W.t hF.1) k2).mono (by have:=Xe4 (r:=f.R) (W.le hF.1);omega)⟩
theorem Gs.rat{q:Rat}(h:Qs p q): Gs G S N (p+1) (Tow.rat K q):=λm T ρ hF=>⟨Tow.rat m q,Xc2,Sz.rat m h⟩
theorem Yhg{k:Nat}(h:Tow.rat k 1=zero k): False:=by
 have:=congrArg (toL k) h
 rw[Xcm,Xbn] at this
 have h0:=W0r k
 rw[show 2^k=2^k-1+1 by omega,W4i] at this
 injection this with h1
 exact absurd h1 (by decide)
theorem Gs.inv{f:Fg}(W:Wy f G S)(h:Gs G S N b v)(hw:Tow.mul K G w v=Tow.rat K 1): Gs G S N (iS f.R f.H b) w:=λm T ρ hF=>by
 have L:=Xaz K G
 obtain⟨x,h1,h2⟩:=h m T ρ hF
 have hx:x≠zero m:=λe=>by
  rw[e,Xd3] at h1
  rw[<-h1,L.mz] at hw
  exact Yhg hw.symm
 obtain⟨i,hi⟩:=(Xcn hF.1.r).2 x hx
 refine⟨i,?_,(Sz.invS (W.t hF.1) h2 hi).mono (Yed (W.le hF.1))⟩
 have e1:Tow.mul K G (ev G ρ m i) v=Tow.rat K 1:=by rw[<-h1,<-Xa4 hF.1.h,Xb9 hi,Xc2]
 rw[<-L.mo (ev G ρ m i),<-hw,L.mc w,<-L.ma,e1,L.om]
theorem Gs.sz(hG:red K G)(hN:∀z∈N,∃ρz,TOk G S z.k z.t ρz)(h:Gs G S N b v){m:Nat}{T:Tw m}(hT:TOk G S m T ρ){a:El m}(ha:ev G ρ m a=v): Sz b (toL m a):=by
 obtain⟨m',T',ρ',h1,h2,h3⟩:=Fl.ex hG hT hN
 obtain⟨x,x1,x2⟩:=h m' T' ρ' h1
 obtain⟨y,hy⟩:=Lf.ex h2.le a
 have e:y=x:=Xcs (Xad hG) h1.1.h h1.1.r (by rw[hy.ev h2.le,Xa8 h3,ha,x1])
 rw[<-e,hy] at x2
 exact Sz.left x2
theorem NOk.re{f:Fg}(W:Wy f G S)(hN:∀z∈N,∃ρz,TOk G S z.k z.t ρz){x:Nm}(hx:NOk G S r p x v)(h:Gs G S N b v): NOk G S f.R b x v:=by
 obtain⟨ρx,h1,h2⟩:=hx.ex
 exact⟨⟨ρx,h1,h2⟩,W.t h1,h.sz W.g hN h1 h2⟩
end
section
def wR: Nat:=15346
def gF: Fg:=⟨3,wR,λi=>zM wR (i+1),zM wR 3⟩
theorem Ymd: gF.Ok:=⟨by decide,by decide,λi hi=>Yci hi,by decide +kernel,by decide +kernel,by decide +kernel,by decide +kernel,by decide +kernel⟩
variable{K:Nat}{G:Tw K}{S:List (El K)}{p:Nat}
theorem Yce.wd(hG:red K G)(hS:S.length<=3)(hq:Yce G S 300 600): Wy gF G S:=⟨Ymd,hG,hS,λh=>Xpe hG hS hq h,λhT hu i hi hj e he=>Yg1 hG hS (λh=>Xpe hG hS hq h) hT hu i hi hj e he⟩
end
end Go.Tow
namespace Go.Proofs.YtfjafaehfjjaiaaGreatDoor.R9
open Go Go.Vm Go.Num Go.Tow Go.Proofs.YtfjafaehfjjaiaaGreatDoor
theorem _root_.Go.Tow.RtV.sig{K:Nat}{G:Tw K}{m z j:Nat}{rs:List (List Rat)}{ρ ρu:Nat->Tow.El K}(h:RtV G m z j rs ρ ρu): ∃σ:Nat->Tow.El m,Rts m z j rs σ/\∀i,i<j->ev G ρ m (σ i)=ρu i:=by
 have:∀i,∃b:Tow.El m,i<j->(∃(n:Nat) (s:Tow.El n),n<=m/\rs[i]?=some (toL n s)/\Lf s b/\Sz z (toL m b))/\ev G ρ m b=ρu i:=λi=>by
  by_cases hi:i<j
  . obtain⟨n,s,h1,h2,h3,h4⟩:=h i hi
    obtain⟨b,hb⟩:=Lf.ex h1 s
    exact⟨b,λ_=>⟨⟨n,s,h1,h2,hb,hb.sz h3⟩,by rw[hb.ev h1,h4]⟩⟩
  . exact⟨zero m,λh=>absurd h hi⟩
 obtain⟨σ,hσ⟩:=W4v this
 exact⟨σ,λi hi=>(hσ i hi).1,λi hi=>(hσ i hi).2⟩
theorem Xty(m:Nat): Sz 3 (toL (m+1) (Xcr (m+1) m)):=by
 rw[Xkq]
 exact((Sz.zero m).append (Sz.rat m (x:=1) (p:=1) ⟨show (1:Rat).num.natAbs<2^1 by decide +kernel,show ((1:Rat).den:Int).natAbs<2^1 by decide +kernel⟩)).mono (by omega)
section
variable{c:Fg}{K:Nat}{G:Tw K}{S:List (Tow.El K)}{k l:Nat}{t:Tw k}{u:Tw l}{ρ ρu:Nat->Tow.El K}
def ExQ(c:Fg)(G:Tw K)(S:List (Tow.El K))(l k:Nat)(t:Tw k)(ρ ρu:Nat->Tow.El K)(f:D->D->AV)(v:AV): Prop:=∃(m:Nat) (T:Tw m) (rs:List (List Rat)) (ρ':Nat->Tow.El K),v=f (dt T) (dts rs) /\
 TOk G S m T ρ'/\Beg k t m T/\(∀i,i<k->ρ' i=ρ i)/\RtV G m c.Z l rs ρ' ρu/\((∀i,i<l->∃e:Tow.El k,ev G ρ k e=ρu i)->toT m T=toT k t)
def ExI(c:Fg)(G:Tw K)(S:List (Tow.El K))(l k:Nat)(t:Tw k)(ρ ρu:Nat->Tow.El K)(x:Nat×(Σ m,Tw m)×List (List Rat)): Prop:=x.1<=l/\x.2.2.length=x.1/\∃ρ':Nat->Tow.El K,TOk G S x.2.1.1 x.2.1.2 ρ'/\Beg k t x.2.1.1 x.2.1.2/\(∀i,i<k->ρ' i=ρ i)/\RtV G x.2.1.1 c.Z x.1 x.2.2 ρ' ρu/\((∀i,i<l->∃e:Tow.El k,ev G ρ k e=ρu i)->toT x.2.1.1 x.2.1.2=toT k t)
theorem ExI.sq(W:Wy c G S)(hu:TOk G S l u ρu){i m:Nat}{T:Tw m}{rs:List (List Rat)}{x:Tow.El i}(h:ExI c G S l k t ρ ρu (i,⟨m,T⟩,rs))(hil:i<l){σ:Nat->Tow.El m}{ρ':Nat->Tow.El K}(hT:TOk G S m T ρ')(hB:Beg k t m T)(ha:∀i,i<k->ρ' i=ρ i)(hrt:RtV G m c.Z i rs ρ' ρu)(hc:(∀i,i<l->∃e:Tow.El k,ev G ρ k e=ρu i)->toT m T=toT k t)(s2:∀j,j<i->ev G ρ' m (σ j)=ρu j)(hev:ev G ρ' m (ev T σ i x)=mul K G (ρu i) (ρu i))(x4:sgn K G (ρu i)=1){y:Tow.El m}(h1:mul m T y y=ev T σ i x)(h2:0<=sgn m T y): ExI c G S l k t ρ ρu (i+1,⟨m,T⟩,rs++[toL m y]):=by
 have hG:=W.g
 have hGr:=Xad hG
 have hl3:=W.le hu
 obtain⟨_,hrl,_⟩:=h
 have hrl:rs.length=i:=hrl
 have hy:ev G ρ' m y=ρu i:=Xjg hG (by rw[<-Xa4 hT.h,h1,hev]) (by rw[Xc8 hGr hT.h];exact h2) (by rw[x4];decide)
 exact⟨hil,by simp[hrl],ρ',hT,hB,ha,hrt.snoc hrl (W0a _) ((W.z hT hu i hil (λj hj=>⟨σ j,s2 j hj⟩) y hy).mono (W.k.z i (by omega))) hy,hc⟩
theorem ExI.new(W:Wy c G S)(hu:TOk G S l u ρu){i m:Nat}{T:Tw m}{rs:List (List Rat)}{x:Tow.El i}(h:ExI c G S l k t ρ ρu (i,⟨m,T⟩,rs))(hil:i<l){σ:Nat->Tow.El m}{ρ':Nat->Tow.El K}(hT:TOk G S m T ρ')(hB:Beg k t m T)(ha:∀i,i<k->ρ' i=ρ i)(hrt:RtV G m c.Z i rs ρ' ρu)(hev:ev G ρ' m (ev T σ i x)=mul K G (ρu i) (ρu i))(x4:sgn K G (ρu i)=1)(h2:¬Xcp m T (ev T σ i x)): ExI c G S l k t ρ ρu (i+1,⟨m+1,tsn T (ev T σ i x)⟩,rs++[toL (m+1) (Xcr (m+1) m)]):=by
 have hG:=W.g
 have hGr:=Xad hG
 obtain⟨_,hrl,_⟩:=h
 have hrl:rs.length=i:=hrl
 have hT':=hT.snoc hGr h2 (hu.s i hil) (a:=ev T σ i x) hev.symm x4
 refine⟨hil,by simp[hrl],_,hT',hB.tr Beg.snoc,λj hj=>?_,?_,λhh=>?_⟩
 . have:=hB.le
   show (if j=m then ρu i else ρ' j)=ρ j
   rw[if_neg (by omega),ha j hj]
 . refine(hrt.mono (Nat.le_succ _) (W0a _) (λj hj=>if_neg (by omega))).snoc hrl (W0a _) ((Xty m).mono W.k.z3) ?_
   rw[Xgt (by omega)];exact if_pos rfl
 . obtain⟨b,hb⟩:=hh i hil
   obtain⟨b',hb'⟩:=Lf.ex hB.le b
   refine absurd ⟨b',Xcs hGr hT.h hT.r ?_⟩ h2
   rw[Xa4 hT.h,hb'.ev hB.le,Xa8 ha,hb,hev]
def ExB(c:Fg)(m:Nat): Prop:=qB c.R m c.E<=4398046511104/\qB c.R m c.R<=4398046511104/\vB c.R m (c.E+gC c.R m)<=4398046511104/\vB c.R m c.R<=4398046511104
theorem exB(h:c.Ok){m:Nat}(hm:m<=c.H): ExB c m:=by
 have p1:=Xn2 (r:=c.R) (p:=c.E) hm
 have p2:=Xn2 (r:=c.R) (p:=c.R) hm
 have p3:=Xv2 (r:=c.R) hm
 have p4:=Xcv (r:=c.R) (k:=m) (show c.E+gC c.R m<=c.E+gC c.R c.H by omega)
 have p5:=Xgj (r:=c.R) (s:=c.E+gC c.R c.H) hm
 have p6:=Xgj (r:=c.R) (s:=c.R) hm
 have q1:=h.q1
 have q2:=h.q2
 have q3:=h.q3
 have q4:=h.q4
 exact⟨by omega,by omega,by omega,by omega⟩
theorem ExI.rad(W:Wy c G S)(hu:TOk G S l u ρu){i m:Nat}{T:Tw m}{rs:List (List Rat)}{ρ':Nat->Tow.El K}(hil:i<l)(hT:TOk G S m T ρ')(hrt:RtV G m c.Z i rs ρ' ρu): ∃(x:Tow.El i) (σ:Nat->Tow.El m),(toT l u)[i]?=some (toL i x)/\Sz c.R (toL i x)/\Rts m c.Z i rs σ/\(∀j,j<i->ev G ρ' m (σ j)=ρu j)/\ev G ρ' m (ev T σ i x)=mul K G (ρu i) (ρu i)/\sgn K G (ρu i)=1/\Sz c.E (toL m (ev T σ i x)):=by
 have hl3:=W.le hu
 have hm3:=W.le hT
 obtain⟨x,x1,x2,x3⟩:=Tw.at (t:=u) hil
 have x2:=x2 c.R (W.t hu)
 obtain⟨x3,x4⟩:=x3 hu.h
 obtain⟨σ,s1,s2⟩:=hrt.sig
 exact⟨x,σ,x1,x2,s1,s2,by rw[Xit hT.h s2,x3],x4,(Xi9 (W.t hT) (a:=x) (λi' h'=>(s1 i' h').elim λ_ h=>h.elim λ_ h=>h.2.2.2) x2).mono (Xxy hm3 (by omega))⟩
theorem Xc1(W:Wy c G S)(ht:TOk G S k t ρ)(hu:TOk G S l u ρu): C0 214 [.d (dt t),.d (dt u)] (ExQ c G S l k t ρ ρu λT rs=>.tup (.pr (.d T) (.pr (.d rs) (.d (.int .i64 0))))):=by
 have hl3:=W.le hu
 have hH:=W.k.h
 refine En Tryz.func214 λ_ _ _=>?_
 refine Nl 7 7 1 rfl ?_
 refine Lo (λ(x:Nat×(Σ m,Tw m)×List (List Rat))=>[(0,.d (dt x.2.1.2)),(1,.d (dt u)),(7,.gr 7 1 (x.2.2.map dqs)),(8,.d (.int .i64 x.1))]) (λx=>[(7,.tok (x.2.2.map dqs).length 1)])
  (ExI c G S l k t ρ ρu) (λx=>l-x.1) (0,⟨k,t⟩,[]) [] rfl ⟨W0z _,rfl,ρ,ht,Beg.rf,λ_ _=>rfl,λi hi=>by omega,λ_=>rfl⟩ (λ(i,⟨m,T⟩,rs) hI=>?_)
 have hI':=hI
 obtain⟨hi,hrl,ρ',hT,hB,ha,hrt,hc⟩:=hI
 simp only at hi hrl hT hB ha hrt hc
 have hm3:=W.le hT
 have hz:=W.t hT
 refine By rfl (λh=>?_) λh=>?_<;>simp only[lt',Xaa] at h
 . have hil:i<l:=by omega
   obtain⟨x,σ,x1,x2,s1,s2,hev,x4,hsz⟩:=ExI.rad W hu hil hT hrt
   obtain⟨q1,q2,q3,q4⟩:=exB W.k hm3
   have hE:=Xxy hm3 (show i<c.H by omega)
   have hR:=W.k.r
   have hE':=W.k.e
   have hlen:(rs.map dqs).length<=c.H:=by rw[W0i];omega
   refine Ix i rfl (mp x1) ?_
   refine Ce rfl (Xd2 (k:=m) (T:=T) hz (by omega) s1 x2 (by omega) (by omega)) ?_
   refine Ca rfl (R8.Adjoin_ok (k:=m) (t:=T) hz hsz hT.r (by omega) q1 q2 q3 q4) λv hv=>?_
   rcases hv with ⟨h1,rfl⟩ | ⟨y,h1,h2,rfl⟩ | ⟨h1,h2,h3,rfl⟩
   . have:=Xc8 (Xad W.g) hT.h (a:=ev T σ i x)
     rw[hev,(Xau (Xad W.g)).sm,x4] at this
     omega
   . refine No rfl (by simp) ?_
     refine ApG ((rs++[toL m y]).map dqs) rfl (by simp) (by simp at hlen |-;omega) ?_
     refine Ar (i+1:Nat) rfl ?_
     exact Bk (i+1,⟨m,T⟩,rs++[toL m y]) [(38,7)] rfl (hI'.sq W hu hil hT hB ha hrt hc s2 hev x4 h1 h2) (by show l-(i+1)<l-i;omega)
   . refine No rfl (by simp) ?_
     refine ApG ((rs++[toL (m+1) (Xcr (m+1) m)]).map dqs) rfl (by simp) (by simp at hlen |-;omega) ?_
     refine Ar (i+1:Nat) rfl ?_
     exact Bk (i+1,⟨m+1,tsn T (ev T σ i x)⟩,rs++[toL (m+1) (Xcr (m+1) m)]) [(38,7)] rfl (hI'.new W hu hil hT hB ha hrt hev x4 h2) (by show l-(i+1)<l-i;omega)
 . obtain rfl:i=l:=by omega
   exact Rt rfl (.tup (.cons (.rf rfl) (.cons (.gr rfl) Xa7))) ⟨m,T,rs,ρ',rfl,hT,hB,ha,hrt,hc⟩
end
end Go.Proofs.YtfjafaehfjjaiaaGreatDoor.R9
namespace Go.Proofs.YtfjafaehfjjaiaaGreatDoor
open Go Go.Vm Go.Num Go.Tow
abbrev dN(x:Nm): D:=.st (.pr (dt x.t) (de x.a))
abbrev dNs(l:List Nm): D:=.sl 2 (l.map dN)
end Go.Proofs.YtfjafaehfjjaiaaGreatDoor
namespace Go.Proofs.YtfjafaehfjjaiaaGreatDoor.R9
open Go Go.Vm Go.Num Go.Tow Go.Proofs.YtfjafaehfjjaiaaGreatDoor
section
variable{c:Fg}{K:Nat}{G:Tw K}{S:List (Tow.El K)}{r p:Nat}{x y:Nm}{vx vy:Tow.El K}
def CmP(G:Tw K)(S:List (Tow.El K))(x y:Nm)(m:Nat)(T:Tw m): Prop:=∃ρ,TOk G S m T ρ/\∀z∈[x,y],∀ρz,TOk G S z.k z.t ρz->∀j,j<z.k->∃e:Tow.El m,ev G ρ m e=ρz j
theorem CmP.mk(hG:red K G){ρx ρy:Nat->Tow.El K}(hx1:TOk G S x.k x.t ρx)(hy1:TOk G S y.k y.t ρy){m:Nat}{T:Tw m}{ρ:Nat->Tow.El K}(h1:TOk G S m T ρ)(h3:∀j,j<x.k->∃e:Tow.El m,ev G ρ m e=ρx j)(h4:∀j,j<y.k->∃e:Tow.El m,ev G ρ m e=ρy j): CmP G S x y m T:=⟨_,h1,λz hz ρz hρ j hj=>by
 rcases W1j.1 hz with rfl | hz
 . obtain⟨e,he⟩:=h3 j hj;exact⟨e,by rw[he];exact hx1.h.uniq hG hρ.h j hj⟩
 . obtain rfl:=W0h.1 hz
   obtain⟨e,he⟩:=h4 j hj;exact⟨e,by rw[he];exact hy1.h.uniq hG hρ.h j hj⟩⟩
theorem beg_ag(hG:red K G){k m:Nat}{t:Tw k}{T:Tw m}{ρ ρ':Nat->Tow.El K}(h:Beg k t m T)(h1:TOk G S k t ρ)(h2:TOk G S m T ρ'): ∀i,i<k->ρ' i=ρ i:=(h.hom h2.h).uniq hG h1.h
theorem rts{k:Nat}{ρ:Nat->Tow.El K}(j:Nat)(hj:j<k): ∃e:Tow.El k,ev G ρ k e=ρ j:=⟨Xcr _ j,Xgt hj⟩
theorem beg_rt(hG:red K G){k m:Nat}{t:Tw k}{T:Tw m}{ρ ρ':Nat->Tow.El K}(h:Beg k t m T)(h1:TOk G S k t ρ)(h2:TOk G S m T ρ')(j:Nat)(hj:j<k): ∃e:Tow.El m,ev G ρ' m e=ρ j:=by
 obtain⟨e,he⟩:=rts (G:=G) (k:=m) (ρ:=ρ') j (W0v hj h.le)
 exact⟨e,by rw[he];exact beg_ag hG h h1 h2 j hj⟩
theorem CmP.ext(hG:red K G){ρx ρy:Nat->Tow.El K}(hx1:TOk G S x.k x.t ρx)(hy1:TOk G S y.k y.t ρy){m z:Nat}{T:Tw m}{rs:List (List Rat)}{ρ':Nat->Tow.El K}(g1:TOk G S m T ρ')(g2:Beg x.k x.t m T)(g5:RtV G m z y.k rs ρ' ρy): CmP G S x y m T:=.mk hG hx1 hy1 g1 (beg_rt hG g2 hx1 g1) λj hj=>by
 obtain⟨n,s,s1,_,_,s4⟩:=g5 j hj
 obtain⟨b,hb⟩:=Lf.ex s1 s
 exact⟨b,by rw[hb.ev s1,s4]⟩
theorem both(hx:NOk G S r p x vx)(hy:NOk G S r p y vy)(i:Nat)(hi:i<2): ∃(z:Nm) (v:Tow.El K) (ρz:Nat->Tow.El K),[x,y][i]?=some z/\[vx,vy][i]?=some v/\TOk G S z.k z.t ρz/\ev G ρz z.k z.a=v/\Sz p (toL z.k z.a):=by
 have:i=0\/i=1:=by omega
 rcases this with rfl | rfl
 . obtain⟨ρ,h1,h2⟩:=hx.ex;exact⟨x,vx,ρ,rfl,rfl,h1,h2,hx.p⟩
 . obtain⟨ρ,h1,h2⟩:=hy.ex;exact⟨y,vy,ρ,rfl,rfl,h1,h2,hy.p⟩
def JnR(c:Fg)(G:Tw K)(S:List (Tow.El K))(p:Nat)(vx vy:Tow.El K)(m:Nat)(T:Tw m)(a b:Tow.El m): Prop:=∃ρ,TOk G S m T ρ/\ev G ρ m a=vx/\ev G ρ m b=vy/\Sz (jW c p) (toL m a)/\Sz (jW c p) (toL m b)
def JnI(c:Fg)(G:Tw K)(p m:Nat)(ρ:Nat->Tow.El K)(vx vy:Tow.El K)(s:Nat×List (Tow.El m)): Prop:=s.1<=2/\s.2.length=s.1/\∀i,i<s.1->∃a v,s.2[i]?=some a/\[vx,vy][i]?=some v/\ev G ρ m a=v/\Sz (jW c p) (toL m a)
theorem JnI.step{m:Nat}{ρ:Nat->Tow.El K}{j:Nat}{bs:List (Tow.El m)}{v:Tow.El K}(h:JnI c G p m ρ vx vy (j,bs))(hj:j<2)(z2:[vx,vy][j]?=some v){b:Tow.El m}(h1:ev G ρ m b=v)(h2:Sz (jW c p) (toL m b)): JnI c G p m ρ vx vy (j+1,bs++[b]):=by
 obtain⟨_,hjl,has⟩:=h
 have hjl:bs.length=j:=hjl
 refine⟨hj,by simp[hjl],λi hi=>?_⟩
 by_cases e:i=j
 . subst e
   exact⟨b,v,by rw[W0u (by omega),hjl,W3b];rfl,z2,h1,h2⟩
 . obtain⟨a,w,g1,g2⟩:=has i (by have:i<j+1:=hi;show i<j;omega)
   exact⟨a,w,by rw[W1a (by omega),g1],g2⟩
theorem JnI.done{m:Nat}{T:Tw m}{ρ:Nat->Tow.El K}{bs:List (Tow.El m)}(hT:TOk G S m T ρ)(h:JnI c G p m ρ vx vy (2,bs)): ∃a b,bs=[a,b]/\JnR c G S p vx vy m T a b:=by
 obtain⟨_,hjl,has⟩:=h
 match bs,hjl with
 | [a,b],_ =>
  obtain⟨a',v,a1,a2,a3,a4⟩:=has 0 (show 0<2 by decide)
  obtain⟨b',w,b1,b2,b3,b4⟩:=has 1 (show 1<2 by decide)
  cases a1;cases a2;cases b1;cases b2
  exact⟨a,b,rfl,ρ,hT,a3,b3,a4,b4⟩
theorem img(W:Wy c G S){m l:Nat}{T:Tw m}{u:Tw l}{ρ ρz:Nat->Tow.El K}(hT:TOk G S m T ρ)(hu:TOk G S l u ρz){rs:List (List Rat)}{σ:Nat->Tow.El m}(s1:Rts m c.Z l rs σ){a:Tow.El l}(ha:Sz p (toL l a)): Sz (jW c p) (toL m (ev T σ l a)):=(Xi9 (W.t hT) (λi h=>(s1 i h).elim λ_ h=>h.elim λ_ h=>h.2.2.2) ha).mono (Xvc (W.le hT) (W.le hu))
theorem Join_ok(W:Wy c G S)(hx:NOk G S r p x vx)(hy:NOk G S r p y vy)(hp:oW c p<=4398046511104): C0 135 [.d (dNs [x,y])] λv=>∃m T a b,v=.tup (.pr (.d (dNs [⟨m,T,a⟩,⟨m,T,b⟩])) (.d (.int .i64 0)))/\JnR c G S p vx vy m T a b:=by
 have hG:=W.g
 have hR:=W.k.r
 have hH:=W.k.h
 have hO:oW c p=2*jW c p+cB c.R c.H+1:=rfl
 have hpj:p<=jW c p:=Xvd
 obtain⟨ρx,hx1,hx2⟩:=hx.ex
 obtain⟨ρy,hy1,hy2⟩:=hy.ex
 have hx3:=W.le hx1
 have hy3:=W.le hy1
 have hxr:=W.t hx1
 have hyr:=W.t hy1
 refine En Tryz.func135 λ_ _ _=>?_
 refine Nd 4 1 rfl ?_
 refine Lo (λ(s:Nat×(Σ m,Tw m))=>[(0,.d (dNs [x,y])),(4,.d (dt s.2.2)),(5,.d (.int .i64 s.1))]) (λ_=>[]) (λs=>(s.1=0/\s.2=⟨0,()⟩)\/(s.1=1/\s.2=⟨x.k,x.t⟩)\/(s.1=2/\CmP G S x y s.2.1 s.2.2)) (λs=>2-s.1) (0,⟨0,()⟩) [] rfl (.inl ⟨rfl,rfl⟩) (λ(i,⟨m,T⟩) hI=>?_)
 simp only at hI
 rcases hI with ⟨rfl,e⟩ | ⟨rfl,e⟩ | ⟨rfl,hP⟩
 . cases e
   refine Yes rfl (show (0:Int)<2 by decide) ?_
   refine Ix 0 rfl (u:=dN x) rfl ?_
   refine By rfl (λh=>?_) λh=>?_
   . refine Ix 0 rfl (u:=dN x) rfl ?_
     refine Ce rfl (begins_ok (U:=[]) (q:=1) (TS.pt hxr) (λi r h=>by simp at h) (by omega) (by rw[Xaa];omega)) ?_
     refine Yes rfl (by simp) ?_
     refine Ix 0 rfl (u:=dN x) rfl ?_
     refine Ar (0+1:Nat) rfl ?_
     exact Bk (1,⟨x.k,x.t⟩) [] rfl (.inr (.inl ⟨rfl,rfl⟩)) (show 1<2 by decide)
   . obtain⟨kx,tx,ax⟩:=x
     have h:¬(((toT kx tx).map dqs).length:Int)>0:=h
     obtain rfl:kx=0:=by rw[lt',Xaa] at h;omega
     refine Ix 0 rfl (u:=dN ⟨0,tx,ax⟩) rfl ?_
     refine Ce rfl (begins_ok (T:=[]) (U:=[]) (p:=1) (q:=1) (λi r h=>by simp at h) (λi r h=>by simp at h) (by omega) (by decide)) ?_
     refine No rfl (by simp) ?_
     refine Ar (0+1:Nat) rfl ?_
     exact Bk (1,⟨0,tx⟩) [] rfl (.inr (.inl ⟨rfl,rfl⟩)) (show 1<2 by decide)
 . cases e
   have last:∀h:(toT x.k x.t).take (toT y.k y.t).length=toT y.k y.t,CmP G S x y x.k x.t:=λh=>.mk hG hx1 hy1 hx1 rts (beg_rt hG (show Beg y.k y.t x.k x.t from h) hy1 hx1)
   refine Yes rfl (show (1:Int)<2 by decide) ?_
   refine Ix 1 rfl (u:=dN y) rfl ?_
   refine By rfl (λh=>?_) λh=>?_
   . refine Ix 1 rfl (u:=dN y) rfl ?_
     refine Ce rfl (begins_ok (T:=toT y.k y.t) (U:=toT x.k x.t) (TS.pt hyr) (TS.pt hxr) (by omega) (by rw[Xaa];omega)) ?_
     refine By rfl (λh1=>?_) λh1=>?_
     . have hb:Beg x.k x.t y.k y.t:=h1
       refine Ix 1 rfl (u:=dN y) rfl ?_
       refine Ar (1+1:Nat) rfl ?_
       exact Bk (2,⟨y.k,y.t⟩) [] rfl (.inr (.inr ⟨rfl,.mk hG hx1 hy1 hy1 (beg_rt hG hb hx1 hy1) rts⟩)) (show 0<1 by decide)
     . refine Ix 1 rfl (u:=dN y) rfl ?_
       refine Ce rfl (begins_ok (T:=toT x.k x.t) (U:=toT y.k y.t) (TS.pt hxr) (TS.pt hyr) (by omega) (by rw[Xaa];omega)) ?_
       refine By rfl (λh2=>?_) λh2=>?_
       . refine Ix 1 rfl (u:=dN y) rfl ?_
         refine Ca rfl (Xc1 W hx1 hy1) λv hv=>?_
         obtain⟨m,T,rs,ρ',rfl,g1,g2,g3,g5,g6⟩:=hv
         refine No rfl (by simp) ?_
         refine Ar (1+1:Nat) rfl ?_
         exact Bk (2,⟨m,T⟩) [] rfl (.inr (.inr ⟨rfl,.ext hG hx1 hy1 g1 g2 g5⟩)) (show 0<1 by decide)
       . refine Ar (1+1:Nat) rfl ?_
         exact Bk (2,⟨x.k,x.t⟩) [] rfl (.inr (.inr ⟨rfl,last (by simpa [Xal,Xah] using h2)⟩)) (show 0<1 by decide)
   . refine Ix 1 rfl (u:=dN y) rfl ?_
     refine Ce rfl (begins_ok (T:=toT x.k x.t) (U:=toT y.k y.t) (TS.pt hxr) (TS.pt hyr) (by omega) (by rw[Xaa];omega)) ?_
     refine By rfl (λh2=>?_) λh2=>?_
     . refine Ix 1 rfl (u:=dN y) rfl ?_
       refine Ca rfl (Xc1 W hx1 hy1) λv hv=>?_
       obtain⟨m,T,rs,ρ',rfl,g1,g2,g3,g5,g6⟩:=hv
       refine No rfl (by simp) ?_
       refine Ar (1+1:Nat) rfl ?_
       exact Bk (2,⟨m,T⟩) [] rfl (.inr (.inr ⟨rfl,.ext hG hx1 hy1 g1 g2 g5⟩)) (show 0<1 by decide)
     . refine Ar (1+1:Nat) rfl ?_
       exact Bk (2,⟨x.k,x.t⟩) [] rfl (.inr (.inr ⟨rfl,last (by simpa [Xal,Xah] using h2)⟩)) (show 0<1 by decide)
 . obtain⟨ρ,hT,hcon⟩:=hP
   have hTr:=W.t hT
   have hm3:=W.le hT
   refine No rfl (show ¬(2:Int)<2 by decide) ?_
   refine Nl 9 9 2 rfl ?_
   refine Lo (λ(s:Nat×List (Tow.El m))=>[(0,.d (dNs [x,y])),(4,.d (dt T)),(9,.gr 9 2 (s.2.map λa=>dN ⟨m,T,a⟩)),(10,.d (.int .i64 s.1))]) (λs=>[(9,.tok (s.2.map λa=>dN ⟨m,T,a⟩).length 2)])
    (JnI c G p m ρ vx vy) (λs=>2-s.1) (0,[]) [] rfl ⟨W0z _,rfl,λi hi=>absurd hi (W3h _)⟩ (λ(j,bs) hI=>?_)
   have hI':=hI
   obtain⟨hj,hjl,has⟩:=hI
   simp only at hj hjl has
   refine By rfl (λh=>?_) λh=>?_
   . have h:(j:Int)<2:=h
     obtain⟨z,v,ρz,z1,z2,z3,z4,z6⟩:=both hx hy j (by omega)
     have z5:=W.t z3
     have hzu:([x,y].map dN)[j]?=some (dN z):=by rw[W1p,z1];rfl
     have hzm:=hcon z (W0f z1) ρz z3
     have hz3:=W.le z3
     refine Ix j rfl hzu ?_
     refine Ce rfl (begins_ok (T:=toT m T) (U:=toT z.k z.t) (TS.pt hTr) (TS.pt z5) (by omega) (by rw[Xaa];omega)) ?_
     refine By rfl (λh1=>?_) λh1=>?_
     . have hb:Beg z.k z.t m T:=h1
       obtain⟨b,hlb⟩:=Lf.ex hb.le z.a
       have hv1:ev G ρ m b=v:=by rw[hlb.ev hb.le,Xa8 (beg_ag hG hb z3 hT),z4]
       refine Ix j rfl hzu ?_
       refine Ce rfl (Xod (T:=T) hlb hb.le (by omega)) ?_
       refine ApG ((bs++[b]).map λa=>dN ⟨m,T,a⟩) rfl (by simp) (by simp;omega) ?_
       refine Ar (j+1:Nat) rfl ?_
       exact Bk (j+1,bs++[b]) [(113,9)] rfl (hI'.step (by omega) z2 hv1 ((hlb.sz z6).mono hpj)) (by show 2-(j+1)<2-j;omega)
     . refine Ix j rfl hzu ?_
       refine Ca rfl (Xc1 W hT z3) λv' hv=>?_
       obtain⟨m',T',rs,ρ',rfl,g1,g2,g3,g5,g6⟩:=hv
       obtain rfl:m'=m:=by have:=congrArg List.length (g6 hzm);rwa[Xaa,Xaa] at this
       have g5:RtV G m' c.Z z.k rs ρ ρz:=g5.mono (W0a _) (W0a _) (λi hi=>(g3 i hi).symm)
       obtain⟨σ,s1,s2⟩:=g5.sig
       have hbd:=Xvc (p:=p) hm3 hz3
       refine Ix j rfl hzu ?_
       refine Ce rfl (Xd2 hTr (by omega) s1 z6 (by omega) (by omega)) ?_
       refine ApG ((bs++[ev T σ z.k z.a]).map λa=>dN ⟨m',T,a⟩) rfl (by simp) (by simp;omega) ?_
       refine Ar (j+1:Nat) rfl ?_
       exact Bk (j+1,bs++[ev T σ z.k z.a]) [(113,9)] rfl (hI'.step (by omega) z2 (by rw[Xit hT.h s2,z4]) (img W hT z3 s1 z6)) (by show 2-(j+1)<2-j;omega)
   . have h:¬(j:Int)<2:=h
     obtain rfl:j=2:=by omega
     obtain⟨a,b,rfl,hJ⟩:=hI'.done hT
     exact Rt rfl (.tup (.cons (.gr rfl) Xa7)) ⟨m,T,a,b,rfl,hJ⟩
end
end Go.Proofs.YtfjafaehfjjaiaaGreatDoor.R9

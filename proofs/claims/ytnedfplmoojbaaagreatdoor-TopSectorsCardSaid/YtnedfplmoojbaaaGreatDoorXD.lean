/- part 4 -/
import Derived.Test.YtnedfplmoojbaaaGreatDoorXC
set_option linter.unusedVariables false
set_option linter.unusedSimpArgs false
set_option maxRecDepth 10000
namespace Go.Tow
def El: Nat->Type
 | 0=>Rat
 | k+1=>El k×El k
def Tw: Nat->Type
 | 0=>Unit
 | k+1=>Tw k×El k
def toL: (k:Nat)->El k->List Rat
 | 0,x=>[x]
 | k+1,x=>toL k x.1++toL k x.2
def toT: (k:Nat)->Tw k->List (List Rat)
 | 0,_=>[]
 | k+1,t=>toT k t.1++[toL k t.2]
def zero: (k:Nat)->El k
 | 0=>(0:Rat)
 | k+1=>(zero k,zero k)
def rat: (k:Nat)->Rat->El k
 | 0,x=>x
 | k+1,x=>(rat k x,zero k)
def add: (k:Nat)->El k->El k->El k
 | 0=>λ(x y:Rat)=>x+y
 | k+1=>λx y=>(add k x.1 y.1,add k x.2 y.2)
def neg: (k:Nat)->El k->El k
 | 0=>λ(x:Rat)=>-x
 | k+1=>λx=>(neg k x.1,neg k x.2)
def mul: (k:Nat)->Tw k->El k->El k->El k
 | 0=>λ_ (x y:Rat)=>x*y
 | k+1=>λt x y=>(add k (mul k t.1 x.1 y.1) (mul k t.1 (mul k t.1 x.2 y.2) t.2),add k (mul k t.1 x.1 y.2) (mul k t.1 x.2 y.1))
instance decEl:(k:Nat)->DecidableEq (El k)
 | 0=>inferInstanceAs (DecidableEq Rat)
 | k+1=>@instDecidableEqProd _ _ (decEl k) (decEl k)
theorem Xab(k:Nat)(a:El k): (toL k a).length=2^k:=by
 induction k with
 | zero=>rfl
 | succ k h=>simp only[toL,W0i,h,W0z];omega
theorem Xaa(k:Nat)(t:Tw k): (toT k t).length=k:=by
 induction k with
 | zero=>rfl
 | succ k h=>simp only[toT,W0i,h,List.length_singleton]
theorem Xfy{α:Type}{a b c d:List α}(h:a.length=c.length)(e:a++b=c++d): a=c/\b=d:=List.append_inj e h
theorem Xg1{k:Nat}{a b:El k}(h:toL k a=toL k b): a=b:=by
 induction k with
 | zero=>exact(List.cons.inj h).1
 | succ k i =>
  obtain⟨j,o⟩:=Xfy (by rw[Xab,Xab]) h
  exact W3f (i j) (i o)
theorem exE(k:Nat)(l:List Rat)(h:l.length=2^k): ∃a:El k,toL k a=l:=by
 induction k generalizing l with
 | zero =>
  match l,h with
  | [x],_=>exact⟨x,rfl⟩
 | succ k i =>
  obtain⟨a,ha⟩:=i (l.take (2^k)) (by rw[W0k,h,W0z];omega)
  obtain⟨b,hb⟩:=i (l.drop (2^k)) (by rw[W1u,h,W0z];omega)
  exact⟨(a,b),by show toL k a++toL k b=l;rw[ha,hb,W6c]⟩
theorem Xa0(k:Nat)(a b:El k): toL k (add k a b)=List.zipWith (·+·) (toL k a) (toL k b):=by
 induction k with
 | zero=>rfl
 | succ k h =>
  simp only[toL,add,h]
  rw[List.zipWith_append (by rw[Xab,Xab])]
theorem Xb7(k:Nat)(a:El k): toL k (neg k a)=(toL k a).map (- ·):=by
 induction k with
 | zero=>rfl
 | succ k h=>simp only[toL,neg,h,W2j]
theorem Xbu(k:Nat): toL k (zero k)=List.replicate (2^k) 0:=by
 induction k with
 | zero=>rfl
 | succ k h =>
  simp only[toL,zero,h]
  rw[W4s,W0z]
  congr 1
  omega
theorem Xda(k:Nat)(x:Rat): toL k (rat k x)=x::List.replicate (2^k-1) 0:=by
 induction k with
 | zero=>rfl
 | succ k h =>
  simp only[toL,rat,h,Xbu,W4g]
  rw[W4s,W0z]
  congr 2
  have:=W0p k
  omega
theorem Xam(k:Nat)(a:El k): a=zero k↔∀x∈toL k a,x=0:=by
 constructor
 rintro rfl x i
 rw[Xbu] at i
 exact W5q i
 intro h
 apply Xg1
 rw[Xbu]
 exact List.eq_replicate_iff.2 ⟨Xab k a,h⟩
theorem Xc7(k:Nat): rat k 0=zero k:=by
 induction k with
 | zero=>rfl
 | succ k h=>simp only[rat,zero,h];rfl
structure Laws {α:Type} (add mul:α->α->α) (neg:α->α) (zero one:α):Prop where
 ac:∀a b,add a b=add b a
 aa:∀a b c,add (add a b) c=add a (add b c)
 az:∀a,add a zero=a
 an:∀a,add a (neg a)=zero
 mc:∀a b,mul a b=mul b a
 ma:∀a b c,mul (mul a b) c=mul a (mul b c)
 mo:∀a,mul a one=a
 md:∀a b c,mul a (add b c)=add (mul a b) (mul a c)
section
variable{α:Type}{add mul:α->α->α}{neg:α->α}{zero one:α}(L:Laws add mul neg zero one)
include L
theorem Laws.alc(a b c:α): add a (add b c)=add b (add a c):=by rw[<-L.aa,L.ac a b,L.aa]
theorem Laws.mlc(a b c:α): mul a (mul b c)=mul b (mul a c):=by rw[<-L.ma,L.mc a b,L.ma]
theorem Laws.dm(a b c:α): mul (add a b) c=add (mul a c) (mul b c):=by rw[L.mc,L.md,L.mc c a,L.mc c b]
theorem Laws.za(a:α): add zero a=a:=by rw[L.ac,L.az]
theorem Laws.om(a:α): mul one a=a:=by rw[L.mc,L.mo]
theorem Laws.cancel{a b c:α}(h:add a c=add b c): a=b:=by
 have:add (add a c) (neg c)=add (add b c) (neg c):=by rw[h]
 rwa[L.aa,L.aa,L.an,L.az,L.az] at this
theorem Laws.mz(a:α): mul a zero=zero:=by
 refine L.cancel (c:=mul a zero) ?_
 rw[<-L.md,L.za,L.za]
theorem Laws.zm(a:α): mul zero a=zero:=by rw[L.mc,L.mz]
theorem Laws.na(a:α): add (neg a) a=zero:=by rw[L.ac,L.an]
theorem Laws.nu{a b:α}(h:add a b=zero): b=neg a:=L.cancel (c:=a) (by rw[L.ac,h,L.na])
theorem Laws.mn(a b:α): mul a (neg b)=neg (mul a b):=L.nu (by rw[<-L.md,L.an,L.mz])
theorem Laws.nm(a b:α): mul (neg a) b=neg (mul a b):=by rw[L.mc,L.mn,L.mc]
theorem Laws.nn(a:α): neg (neg a)=a:=(L.nu (L.na a)).symm
theorem Laws.nd(a b:α): neg (add a b)=add (neg a) (neg b):=(L.nu (by
 rw[L.aa,L.alc b,<-L.aa,L.an,L.za,L.an])).symm
theorem Laws.nz: neg zero=zero:=(L.nu (L.az zero)).symm
theorem Laws.sub_eq{a b c d:α}(h:add a d=add c b): add a (neg b)=add c (neg d):=by
 refine L.cancel (c:=add b d) ?_
 have i:add (add a (neg b)) (add b d)=add a d:=by rw[L.aa,<-L.aa (neg b),L.na,L.za]
 have j:add (add c (neg d)) (add b d)=add c b:=by rw[L.aa,L.alc (neg d),L.na,L.az]
 rw[i,j,h]
theorem Laws.quad(r:α): Laws (α:=α×α) (λx y=>(add x.1 y.1,add x.2 y.2)) (λx y=>(add (mul x.1 y.1) (mul (mul x.2 y.2) r),add (mul x.1 y.2) (mul x.2 y.1))) (λx=>(neg x.1,neg x.2)) (zero,zero) (one,zero) where
 ac:=λa b=>by simp only[L.ac]
 aa:=λa b c=>by simp only[L.aa]
 az:=λa=>by simp only[L.az]
 an:=λa=>by simp only[L.an]
 mc:=λa b=>by
  refine W3f ?_ ?_
  simp only[L.mc]
  simp only[L.mc,L.ac]
 ma:=λa b c=>by
  refine W3f ?_ ?_
  simp only[L.md,L.dm,L.ma]
  simp only[L.mc,L.mlc,L.aa,L.ac,L.alc]
  simp only[L.md,L.dm,L.ma]
  simp only[L.mc,L.mlc,L.aa,L.ac,L.alc]
 mo:=λa=>by
  refine W3f ?_ ?_
  simp only[L.mo,L.mz,L.zm,L.az]
  simp only[L.mo,L.mz,L.za]
 md:=λa b c=>by
  refine W3f ?_ ?_
  simp only[L.md,L.dm]
  simp only[L.aa,L.ac,L.alc]
  simp only[L.md,L.dm]
  simp only[L.aa,L.ac,L.alc]
end
theorem Xax(k:Nat)(t:Tw k): Laws (add k) (mul k t) (neg k) (zero k) (rat k 1):=by
 induction k with
 | zero=>exact⟨Rat.add_comm,Rat.add_assoc,W6k,Rat.add_neg_cancel,W8b,W4i,W5w,Rat.mul_add⟩
 | succ k h=>exact(h t.1).quad t.2
def norm(k:Nat)(t:Tw (k+1))(a:El (k+1)): El k:=add k (mul k t.1 a.1 a.1) (neg k (mul k t.1 (mul k t.1 a.2 a.2) t.2))
def inv: (k:Nat)->Tw k->El k->Option (El k)
 | 0=>λ_ (x:Rat)=>if x=0 then none else some (1/x:Rat)
 | k+1=>λt a=>match inv k t.1 (norm k t a) with
  | none=>none
  | some n=>some (mul k t.1 a.1 n,neg k (mul k t.1 a.2 n))
theorem Xr0(k:Nat)(t:Tw (k+1))(a b:El (k+1)): norm k t (mul (k+1) t a b)=mul k t.1 (norm k t a) (norm k t b):=by
 have L:=Xax k t.1
 have h:∀x y z w:El k,mul k t.1 (add k x (neg k y)) (add k z (neg k w))=add k (add k (mul k t.1 x z) (mul k t.1 y w)) (neg k (add k (mul k t.1 x w) (mul k t.1 y z))):=by
  intro x y z w
  simp only[L.md,L.dm,L.mn,L.nm,L.nn,L.nd]
  simp only[L.aa,L.ac,L.alc]
 simp only[norm,mul]
 rw[h]
 refine L.sub_eq ?_
 simp only[L.md,L.dm,L.ma]
 simp only[L.mc,L.mlc,L.aa,L.ac,L.alc]
theorem Xb9{k:Nat}{t:Tw k}{a b:El k}(h:inv k t a=some b): mul k t b a=rat k 1:=by
 induction k with
 | zero =>
  have i:∀x b:Rat,(if x=0 then none else some (1/x))=some b->b*x=1:=by
   intro x b h
   split at h
   cases h
   rename_i j
   injection h with h
   subst h
   exact W5y j
  exact i a b h
 | succ k o =>
  have L:=Xax k t.1
  simp only[inv] at h
  split at h
  cases h
  rename_i n I
  injection h with h
  subst h
  have:=o I
  refine W3f ?_ ?_
  show add k (mul k t.1 (mul k t.1 a.1 n) a.1) (mul k t.1 (mul k t.1 (neg k (mul k t.1 a.2 n)) a.2) t.2)=rat k 1
  rw[<-this,norm]
  simp only[L.md,L.mn,L.nm]
  simp only[L.ma,L.mc,L.mlc]
  show add k (mul k t.1 (mul k t.1 a.1 n) a.2) (mul k t.1 (neg k (mul k t.1 a.2 n)) a.1)=zero k
  simp only[L.nm]
  rw[show mul k t.1 (mul k t.1 a.2 n) a.1=mul k t.1 (mul k t.1 a.1 n) a.2 by simp only[L.ma,L.mc,L.mlc],L.an]
def pr{k:Nat}(a b:El k): El (k+1):=(a,b)
def up(k:Nat)(a:El k): El (k+1):=(a,zero k)
def Xdi: (k:Nat)->(i:Nat)->El k
 | 0,_=>(0:Rat)
 | k+1,i=>if i=k then pr (zero k) (rat k 1) else up k (Xdi k i)
theorem Xkj(k:Nat)(t:Tw (k+1))(a b:El k): mul (k+1) t (up k a) (up k b)=up k (mul k t.1 a b):=by
 have L:=Xax k t.1
 simp only[mul,up,L.mz,L.zm,L.az];rfl
theorem Xqt{k i:Nat}(hi:i<k): toL k (Xdi k i)=(List.replicate (2^k) 0).set (2^i) 1:=by
 induction k with
 | zero=>omega
 | succ k I =>
  have hp:2^(k+1)=2^k+2^k:=by rw[W0z];omega
  rw[hp,<-W4s]
  by_cases h:i=k
  rw[Xdi,if_pos h]
  subst h
  simp only[toL,pr,Xbu,Xda]
  rw[W6w _ _ (by simp),W1o,W3a]
  have h0:=W0p i
  obtain⟨m,M⟩:∃m,2^i=m+1:=⟨2^i-1,by omega⟩
  rw[M]
  rfl
  have j:i<k:=by omega
  have o:2^i<2^k:=W4f (by decide) j
  rw[Xdi,if_neg h]
  simp only[toL,up,Xbu]
  rw[I j,List.set_append_left _ _ (by rw[W1o];exact o)]
end Go.Tow
namespace Go.Proofs.YtnedfplmoojbaaaGreatDoor
open Go Go.Num Go.Tow Go.Vm
section
def IsD(d n:Nat)(l:List Rat): Prop:=∀x∈l,∃z:Int,x*(d:Rat)=(z:Rat)/\z.natAbs<n
theorem IsD.mono{d n m:Nat}{l:List Rat}(h:IsD d n l)(i:n<=m): IsD d m l:=λx j =>
 let ⟨z,o,I⟩:=h x j;⟨z,o,W0y I i⟩
theorem IsD.scale{d n e:Nat}{l:List Rat}(h:IsD d n l)(i:0<e): IsD (d*e) (n*e) l:=λx j=>by
 obtain⟨z,o,I⟩:=h x j
 refine⟨z*(e:Int),?_,?_⟩
 rw[W6p,<-W4i,o,W4b];rfl
 rw[W4d,W1b]
 exact W3g I i
theorem IsD.append{d n:Nat}{l m:List Rat}(h:IsD d n l)(k:IsD d n m): IsD d n (l++m):=λx i=>(W2p.1 i).elim (h x) (k x)
theorem IsD.left{d n:Nat}{l m:List Rat}(h:IsD d n (l++m)): IsD d n l:=λx i=>h x (W2y _ i)
theorem IsD.right{d n:Nat}{l m:List Rat}(h:IsD d n (l++m)): IsD d n m:=λx i=>h x (W1z _ i)
theorem IsD.add{d n m:Nat}: ∀ {l j:List Rat},IsD d n l->IsD d m j->IsD d (n+m) (List.zipWith (·+·) l j)
 | [],_,_,_=>λ_ h=>nomatch h
 | _::_,[],_,_=>λ_ h=>nomatch h
 | a::l,b::j,h,k=>λx i=>by
  rcases W1s.1 i with i | i
  obtain⟨z,I,O⟩:=h a (W0w ..)
  obtain⟨w,M,T⟩:=k b (W0w ..)
  refine⟨z+w,by rw[i,Rat.add_mul,I,M,W5s],?_⟩
  have:=Int.natAbs_add_le z w
  omega
  exact IsD.add (λy o=>h y (W1c _ o)) (λy o=>k y (W1c _ o)) x i
theorem IsD.neg{d n:Nat}{l:List Rat}(h:IsD d n l): IsD d n (l.map (- ·)):=λx i=>by
 obtain⟨y,j,rfl⟩:=W4r.1 i
 obtain⟨z,o,I⟩:=h y j
 exact⟨-z,by rw[Rat.neg_mul,o,W5t],by rw[W5l];exact I⟩
theorem IsD.mul1{d n e m:Nat}{x y:Rat}(h:IsD d n [x])(k:IsD e m [y]): IsD (d*e) (n*m) [x*y]:=λu i=>by
 obtain rfl:=W0g.1 i
 obtain⟨z,j,o⟩:=h x (W0w ..)
 obtain⟨w,I,M⟩:=k y (W0w ..)
 refine⟨z*w,?_,?_⟩
 rw[W6p,W4b,<-j,<-I]
 grind
 rw[W4d]
 exact W3u o M
theorem Xl4(y:Rat): y*(y.den:Rat)=(y.num:Rat):=by
 have hd:((y.den:Nat):Rat)≠0:=by
  intro h
  have:((y.den:Nat):Rat).num=0:=by rw[h];rfl
  rw[Rat.num_natCast] at this
  have:=y.den_nz
  omega
 have e:y=(y.num:Rat)/(y.den:Rat):=by
  conv=>lhs;rw[<-Rat.num_divInt_den y,W4u]
  rfl
 conv=>lhs;lhs;rw[e]
 exact W5y hd
def Sz(p:Nat)(l:List Rat): Prop:=∃d:Nat,0<d/\d<2^p/\IsD d (2^p) l
theorem Sz.mono{p q:Nat}{l:List Rat}(h:Sz p l)(hp:p<=q): Sz q l:=by
 obtain⟨d,h0,j,i⟩:=h
 have:=W0o (n:=2) (by decide) hp
 exact⟨d,h0,by omega,i.mono this⟩
theorem Sz.sub{p:Nat}{l m:List Rat}(h:Sz p l)(i:∀x∈m,x∈l): Sz p m:=by
 obtain⟨d,h0,j,o⟩:=h
 exact⟨d,h0,j,λx I=>o x (i x I)⟩
theorem Sz.qs{p:Nat}{l:List Rat}(h:Sz p l){x:Rat}(i:x∈l): Qs p x:=by
 obtain⟨d,h0,j,o⟩:=h
 obtain⟨z,I,M⟩:=o x i
 have hd:((d:Nat):Rat)≠0:=by
  intro h
  have:(d:Rat).num=0:=by rw[h];rfl
  rw[Rat.num_natCast] at this
  omega
 have e:x=Rat.divInt z (d:Int):=by
  rw[W4u,<-I]
  exact(Rat.mul_div_cancel hd).symm
 rw[e]
 exact Qs.divInt M (by unfold Zs;rw[W1b];exact j) (by omega)
theorem Sz.nil: Sz 1 []:=⟨1,by decide,by decide,λ_ h=>nomatch h⟩
theorem _root_.Go.Num.Qs.isD{p:Nat}{x:Rat}(h:Qs p x): IsD x.den (2^p) [x]:=λy i=>by
 obtain rfl:=W0g.1 i
 exact⟨y.num,Xl4 y,h.n⟩
theorem Sz.one{p:Nat}{x:Rat}(h:Qs p x): Sz p [x]:=⟨x.den,W2q x.den_nz,by have:=h.d;unfold Zs at this;rwa[W1b] at this,h.isD⟩
theorem Sz.append{p q:Nat}{l m:List Rat}(h:Sz p l)(k:Sz q m): Sz (p+q) (l++m):=by
 obtain⟨d,h0,i,I⟩:=h
 obtain⟨e,j,o,M⟩:=k
 have hp:=W0p p
 have hq:=W0p q
 refine⟨d*e,W1p h0 j,by rw[W0x];exact W3u i o,?_⟩
 refine IsD.append ((I.scale j).mono ?_) ?_
 rw[W0x];exact W0u _ (W2k o)
 rw[W1g d e]
 refine(M.scale h0).mono ?_
 rw[W0x,W1g]
 exact W0l _ (W2k i)
theorem Sz.cons{p q:Nat}{x:Rat}{m:List Rat}(h:Qs p x)(k:Sz q m): Sz (p+q) (x::m):=(Sz.one h).append k
theorem Sz.all{p:Nat}: ∀ {l:List Rat},(∀x∈l,Qs p x)->Sz (p*l.length+1) l
 | [],_=>Sz.nil.mono (by omega)
 | x::l,h=>(Sz.cons (h x (W0w ..)) (Sz.all λy i=>h y (W1c _ i))).mono (by rw[W1j,Nat.mul_succ];omega)
theorem Sz.add{p q:Nat}{l m:List Rat}(h:Sz p l)(k:Sz q m): Sz (p+q+1) (List.zipWith (·+·) l m):=by
 obtain⟨d,h0,i,I⟩:=h
 obtain⟨e,j,o,M⟩:=k
 have O:=W3u i o
 rw[<-W0x] at O
 refine⟨d*e,W1p h0 j,by rw[W0z];omega,?_⟩
 have T:IsD (d*e) (2^(p+q)) l:=(I.scale j).mono (by rw[W0x];exact W0u _ (W2k o))
 have U:IsD (d*e) (2^(p+q)) m:=by
  rw[W1g d e]
  exact(M.scale h0).mono (by rw[W0x,W1g];exact W0l _ (W2k i))
 exact(T.add U).mono (by rw[W0z];omega)
theorem Sz.neg{p:Nat}{l:List Rat}(h:Sz p l): Sz p (l.map (- ·)):=by
 obtain⟨d,h0,i,j⟩:=h
 exact⟨d,h0,i,j.neg⟩
theorem Sz.left{p:Nat}{l m:List Rat}(h:Sz p (l++m)): Sz p l:=h.sub λ_=>W2y _
theorem Sz.right{p:Nat}{l m:List Rat}(h:Sz p (l++m)): Sz p m:=h.sub λ_=>W1z _
def TS(r:Nat): (k:Nat)->Tw k->Prop
 | 0,_=>True
 | k+1,t=>TS r k t.1/\Sz r (toL k t.2)
def cB(r:Nat): Nat->Nat
 | 0=>0
 | k+1=>2*cB r k+r+1
theorem Ypn(r k:Nat): cB r k<=cB r (k+1):=by show _<=2*cB r k+r+1;omega
theorem Xi7{r k:Nat}{t:Tw k}(O:TS r k t): ∃E,0<E/\E<=2^cB r k/\∀a b d e n m,0<d->0<e->IsD d n (toL k a)->IsD e m (toL k b)->IsD (d*e*E) (n*m*2^cB r k) (toL k (mul k t a b)):=by
 induction k with
 | zero =>
  refine⟨1,by decide,W0a 1,λa b d e n m _ _ h i=>?_⟩
  rw[W4j,show 2^cB r 0=1 from rfl,W4j]
  exact h.mul1 i
 | succ k V =>
  obtain⟨E,h0,j,o⟩:=V O.1
  obtain⟨g,g0,T,Z⟩:=O.2
  have hC:=W0p (cB r k)
  have hR:=W0p r
  refine⟨E*(E*g),W1p h0 (W1p h0 g0),?_,λa b d e n m hd I h i=>?_⟩
  have U:E*(E*g)<=2^cB r k*(2^cB r k*2^r):=W2b j (W2b j (W2k T))
  rw[<-W0x,<-W0x] at U
  exact W0j U (W0o (by decide) (by show _<=2*cB r k+r+1;omega))
  have hg:E*g<=2^cB r k*2^r:=W2b j (W2k T)
  have M:0<E*g:=W1p h0 g0
  have hc:n*m*2^cB r (k+1)=n*m*2^cB r k*(2^cB r k*2^r)+n*m*2^cB r k*(2^cB r k*2^r):=by
   rw[show cB r (k+1)=cB r k+(cB r k+r)+1 by show 2*cB r k+r+1=_;omega,W0z,W0x,W0x]
   rw[<-Nat.mul_two,W0v (n*m),W0v (n*m)]
  have scale:∀u v:El k,IsD d n (toL k u)->IsD e m (toL k v)->IsD (d*e*(E*(E*g))) (n*m*2^cB r k*(2^cB r k*2^r)) (toL k (mul k t.1 u v)):=by
   intro u v hu hv
   have:=(o u v d e n m hd I hu hv).scale M
   rw[W0v (d*e)] at this
   exact this.mono (W0u _ hg)
  show IsD _ _ (toL k (add k _ _)++toL k (add k _ _))
  rw[Xa0,Xa0,hc]
  refine IsD.append (IsD.add (scale _ _ h.left i.left) ?_) (IsD.add (scale _ _ h.left i.right) (scale _ _ h.right i.left))
  have:=o _ _ (d*e*E) g _ _ (W1p (W1p hd I) h0) g0 (o _ _ d e n m hd I h.right i.right) Z
  rw[show d*e*E*g*E=d*e*(E*(E*g)) by rw[W0v (d*e),W0v (d*e),W0v E g E,W1g g E]] at this
  rw[show n*m*2^cB r k*2^r*2^cB r k=n*m*2^cB r k*(2^cB r k*2^r) by rw[W0v (n*m*2^cB r k),W1g (2^r)]] at this
  exact this
theorem Sz.mul{r k p q:Nat}{t:Tw k}{a b:El k}(o:TS r k t)(h:Sz p (toL k a))(I:Sz q (toL k b)): Sz (p+q+cB r k) (toL k (mul k t a b)):=by
 obtain⟨E,i,M,O⟩:=Xi7 o
 obtain⟨d,h0,T,U⟩:=h
 obtain⟨e,j,V,Z⟩:=I
 have:=O a b d e _ _ h0 j U Z
 rw[<-W0x,<-W0x] at this
 refine⟨_,W1p (W1p h0 j) i,?_,this⟩
 rw[W0x,W0x]
 have h3:=W3u T V
 exact W0y (W3g h3 i) (W0u _ M)
def nB(r k p:Nat): Nat:=4*p+3*cB r k+r+1
theorem Sz.norm{r k p:Nat}{t:Tw (k+1)}{a:El (k+1)}(i:TS r (k+1) t)(h:Sz p (toL (k+1) a)): Sz (nB r k p) (toL k (Tow.norm k t a)):=by
 have j:Sz p (toL k a.1):=Sz.left h
 have o:Sz p (toL k a.2):=Sz.right h
 have I:=Sz.mul i.1 j j
 have M:=Sz.mul i.1 (Sz.mul i.1 o o) i.2
 rw[Tow.norm,Xa0,Xb7]
 exact(I.add M.neg).mono (by unfold nB;omega)
def iB(r:Nat): Nat->Nat->Nat
 | 0,p=>p+1
 | k+1,p=>2*(p+iB r k (nB r k p)+cB r k)
theorem _root_.Go.Num.Qs.inv1{p:Nat}{x:Rat}(h:Qs p x): Qs (p+1) (1/x):=by
 by_cases h0:x=0
 rw[h0,show (1/0:Rat)=((0:Int):Rat) by rw[W5n,Rat.inv_zero,W7j];rfl]
 exact Qs.int Zs.zero (by omega)
 rw[Xkv _ _ h0]
 refine Qs.divInt ?_ ?_ ?_
 rw[show (1:Rat).num=1 from rfl,W3e];exact h.d.mono (by omega)
 rw[show ((1:Rat).den:Int)=1 from rfl,W3e];exact h.n.mono (by omega)
 rw[show ((1:Rat).den:Int)=1 from rfl,W3e]
 exact λe=>h0 (W5g.1 e)
theorem Sz.inv{r k p:Nat}{t:Tw k}{a b:El k}(i:TS r k t)(h:Sz p (toL k a))(hb:Tow.inv k t a=some b): Sz (iB r k p) (toL k b):=by
 induction k generalizing p with
 | zero =>
  have j:∀x b:Rat,(if x=0 then none else some (1/x))=some b->Qs p x->Sz (p+1) [b]:=by
   intro x b h hq
   split at h
   cases h
   injection h with h
   subst h
   exact Sz.one hq.inv1
  exact j a b hb (h.qs (W0g.2 rfl))
 | succ k I =>
  simp only[Tow.inv] at hb
  split at hb
  cases hb
  rename_i n M
  injection hb with hb
  subst hb
  have o:=I i.1 (h.norm i) M
  have j:=Sz.mul i.1 (Sz.left h:Sz p (toL k a.1)) o
  have O:=Sz.mul i.1 (Sz.right h:Sz p (toL k a.2)) o
  show Sz _ (toL k _++toL k (Tow.neg k _))
  rw[Xb7]
  exact(j.append O.neg).mono (by show _<=2*(p+iB r k (nB r k p)+cB r k);omega)
theorem Xw3(r k p:Nat): p<=iB r k p:=by
 cases k with
 | zero=>show p<=p+1;omega
 | succ k=>show p<=2*_;omega
theorem Xtp(r k p:Nat): p<=nB r k p:=by unfold nB;omega
theorem Sz.zero(k:Nat): Sz 1 (toL k (Tow.zero k)):=by
 rw[Xbu]
 refine⟨1,by decide,by decide,λx h=>?_⟩
 rw[W5q h]
 exact⟨0,by rw[W3p];rfl,by decide⟩
theorem Sz.rat{p:Nat}(k:Nat){x:Rat}(h:Qs p x): Sz (p+1) (toL k (Tow.rat k x)):=by
 rw[Xda]
 refine Sz.cons h ?_
 refine⟨1,by decide,by decide,λx i=>?_⟩
 rw[W5q i]
 exact⟨0,by rw[W3p];rfl,by decide⟩
end
section
def dqs(l:List Rat): D:=.sl 4 (l.map dq)
def dts(t:List (List Rat)): D:=.sl 1 (t.map dqs)
def fl(xs:List D)(z:D)(k:Nat): List D:=xs.take k++List.replicate (xs.length-k) z
theorem Xjn{xs:List D}{z:D}{n:Nat}(h:xs.length=n): List.replicate n z=fl xs z 0:=by simp[fl,h]
theorem Xnv{xs:List D}{z:D}{k:Nat}(h:xs.length<=k): fl xs z k=xs:=by rw[fl,W0b h,show xs.length-k=0 by omega];simp
theorem Xkq{xs:List D}{z:D}{k:Nat}(h:k<=xs.length): (fl xs z k).length=xs.length:=by simp[fl];omega
theorem Xnu{xs:List D}{z u:D}{k:Nat}(h:xs[k]?=some u): (fl xs z k).set k u=fl xs z (k+1):=by
 have i:=(W0s.1 h).1
 rw[fl,fl,W6w _ _ (by simp;omega),show k-(xs.take k).length=0 by simp;omega,show xs.length-k=(xs.length-(k+1))+1 by omega,W4h,List.set_cons_zero,W1w,h]
 simp
theorem lq(l:List Rat): (l.map dq).length=l.length:=W1k ..
theorem lt'(l:List (List Rat)): (l.map dqs).length=l.length:=W1k ..
theorem qat{l:List Rat}{k:Nat}(h:k<l.length): ∃x,l[k]?=some x:=⟨_,W0e h⟩
def Yee(f:FuncId)(l:List Rat)(φ:Rat->Prop): Prop:=∀x∈l,C0 f [.d (dq x)] (·=.b (dc (φ x)))
abbrev fnD(f:FuncId): D:=.raw (.func (.func f) #[] #[])
theorem Xop{f:FuncId}{l:List Rat}{φ:Rat->Prop}(hf:Yee f l φ)(T:l.length<=1099511627776): C0 317 [.d (dqs l),.d (fnD f)] λv=>∃i:Int,v=.d (.int .i64 i)/\(i>=0↔∃x∈l,φ x):=by
 refine En Tryz.func317 λ_ _ _=>?_
 refine Lo (λk:Nat=>[(0,.d (dqs l)),(1,.d (fnD f)),(7,.d (.int .i64 l.length)),(8,.d (.int .i64 k))]) (λ_=>[]) (λk=>k<=l.length/\∀x∈l.take k,¬φ x) (λk=>l.length-k) 0 [] rfl ⟨by omega,by simp⟩ (λk ⟨U,M⟩=>?_) (by exact⟨by simp only[lq];rfl,rfl,rfl,rfl,rfl⟩)
 refine By rfl (λh=>?_) λh=>?_
 obtain⟨x,o⟩:=qat (l:=l) (k:=k) (by omega)
 have O:=W0h o
 refine Ix k rfl (mp o)<|Ce rfl (hf x O)<|By rfl (λI=>?_) λI=>?_
 exact Rt rfl (.one (.rf rfl) rfl rfl) ⟨k,rfl,⟨λ_=>⟨x,O,I⟩,λ_=>by omega⟩⟩
 refine Ar (k+1:Nat) rfl ?_
 refine Bk (k+1) [] rfl ⟨by omega,λy j=>?_⟩ (by show l.length-(k+1)<l.length-k;omega)
 rw[W1w,o] at j
 rcases W2p.1 j with j | j
 exact M y j
 simp at j;rw[j];exact I
 refine Rt rfl (.one (.rf rfl) rfl rfl) ⟨-1,rfl,⟨λh=>absurd h (by decide),λ⟨x,o,I⟩=>?_⟩⟩
 rw[W0b (by omega)] at M
 exact absurd I (M x o)
theorem Xe8{f:FuncId}{l:List Rat}{φ:Rat->Prop}(hf:Yee f l φ)(h:l.length<=1099511627776): C0 235 [.d (dqs l),.d (fnD f)] (·=.b (dc (∃x∈l,φ x))):=by
 refine En Tryz.func235 λ_ _ _=>?_
 refine Ca rfl (Xop hf h) λv j=>?_
 obtain⟨i,rfl,hi⟩:=j
 exact R1 rfl (.bp (Xaj.trans hi))
theorem Xu0{x:Rat}{p:Nat}(j:Qs p x)(hp:p<=8796093022208): C0 236 [.d (dq x)] (·=.b (dc (x≠0))):=by
 refine En Tryz.func236 λ_ _ _=>?_
 refine Ce rfl (Xbv j hp)<|R1 rfl (.bp ?_)
 have h0:=@W5g x
 rw[Xaj]
 rcases Xay x.num 0 with ⟨i,h⟩ | ⟨i,h⟩ | ⟨i,h⟩<;>rw[h,ne_eq,ne_eq,<-h0]<;>omega
def Ps(p:Nat)(l:List Rat): Prop:=∀x∈l,Qs p x
theorem Xas{p:Prop}: (!dc p)=dc (¬p):=by rw[W4w,W1v,W6e,ne_eq,Xaj,Xaj]
theorem Xc5{l:List Rat}{p:Nat}(i:Ps p l)(hp:p<=8796093022208)(j:l.length<=1099511627776): C0 143 [.d (dqs l)] (·=.b (dc (∀x∈l,x=0))):=by
 refine En Tryz.func143 λ_ _ _=>?_
 exact Ce rfl (Xe8 (φ:=(·≠0)) (λx h=>Xu0 (i x h) hp) j)<|R1 rfl (.bp (by rw[Xas,Xaj];simp))
theorem Xpi{x:Rat}{p:Nat}(h:Qs p x)(hp:p<=8796093022208): C0 319 [.d (dq x)] (·=.b (dc False)):=by
 refine En Tryz.func319 λ_ _ _=>?_
 exact Ce rfl (Xnc h hp)<|R1 rfl (.bp (by simp[Xaj]))
theorem Xhb{l:List Rat}{p n:Nat}(i:Ps p l)(hp:p<=8796093022208)(j:l.length<=1099511627776)(o:l.length=n): C0 237 [.d (dqs l),.d (.int .i64 n)] (·=.b true):=by
 refine En Tryz.func237 λ_ _ _=>?_
 exact Yes rfl (by simp only[lq,o])<|Ce rfl (Xe8 (φ:=λ_=>False) (λx h=>Xpi (i x h) hp) j)<|R1 rfl (by exact(show (!dc (∃x∈l,False))=true by rw[Xas,Xaj];simp) ▸ .rf rfl)
theorem Xb1{k:Nat}(i:k<=40): arB .shl .i64 1 k (2^k:Nat):=by
 have j:2^k<=2^40:=W0o (by decide) i
 obtain⟨m,h⟩:∃m,m=2^k:=⟨_,rfl⟩
 rw[<-h] at j |-
 refine⟨by omega,?_⟩
 rw[W7m,W2h (by show k<=64;omega),show (1:Int)*2^k=(m:Int) by rw[h,W7x];simp]
 exact wI (by omega)
def Pt(p:Nat)(t:List (List Rat)): Prop:=∀i r,t[i]?=some r->r.length=2^i/\Ps p r
theorem Yfr{k m:Nat}(h:k<=m): 2^k<=2^m:=W0o (by decide) h
theorem Xet{t:List (List Rat)}{p:Nat}(j:Pt p t)(hp:p<=8796093022208)(M:t.length<=40): C0 144 [.d (dts t)] (·=.b true):=by
 refine En Tryz.func144 λ_ _ _=>?_
 refine Lo (λk:Nat=>[(0,.d (dts t)),(5,.d (dts t)),(6,.d (.int .i64 t.length)),(7,.d (.int .i64 k))]) (λ_=>[]) (λk=>k<=t.length) (λk=>t.length-k) 0 [] rfl (by omega) (λk O=>?_) (by exact⟨by simp only[lt'];rfl,rfl,rfl,rfl,rfl⟩)
 refine By rfl (λh=>?_) λh=>?_
 obtain⟨r,i⟩:∃r,t[k]?=some r:=⟨_,W0e (by omega)⟩
 obtain⟨o,I⟩:=j k r i
 have:=Yfr (by omega:k<=40)
 refine Ix k rfl (mp i)<|Ar (2^k:Nat) rfl ?_ (Xb1 (by omega))
 refine Ce rfl (Xhb I hp (by omega) o)<|No rfl (by simp)<|Ar (k+1:Nat) rfl ?_
 exact Bk (k+1) [] rfl (by omega:k+1<=t.length) (by show t.length-(k+1)<t.length-k;omega)
 exact R0
theorem Xj8{t:List (List Rat)}{l:List Rat}{p q:Nat}(h:Pt p t)(hp:p<=8796093022208)(i:Ps q l)(hq:q<=8796093022208)(o:t.length<=39)(j:l.length=2^t.length): C0 247 [.d (dts t),.d (dqs l)] (·=.b true):=by
 have:=Yfr (by omega:t.length<=39)
 refine En Tryz.func247 λ_ _ _=>?_
 refine Ce rfl (Xet h hp (by omega))<|Yes rfl rfl<|Ar (2^t.length:Nat) rfl ?_ (by simp only[lt'];exact Xb1 (by omega))
 exact Ce rfl (Xhb i hq (by omega) j)<|R0
theorem Xtb{t:List (List Rat)}{l m:List Rat}{p q r:Nat}(h:Pt p t)(hp:p<=8796093022208)(i:Ps q l)(hq:q<=8796093022208)(j:Ps r m)(hr:r<=8796093022208)(o:t.length<=39)(I:l.length=2^t.length)(M:m.length=2^t.length): C0 164 [.d (dts t),.d (dqs l),.d (dqs m)] (·=.b true):=by
 have:=Yfr (by omega:t.length<=39)
 refine En Tryz.func164 λ_ _ _=>?_
 refine Ce rfl (Xj8 h hp i hq o I)<|Yes rfl rfl<|Ar (2^t.length:Nat) rfl ?_ (by simp only[lt'];exact Xb1 (by omega))
 exact Ce rfl (Xhb j hr (by omega) M)<|R0
theorem Xf3{n:Nat}(o:n<=1073741824): CA0 146 [.d (.int .i64 n)] 4 ((List.replicate n (0:Rat)).map dq):=by
 obtain⟨xs,j⟩:∃xs,xs=(List.replicate n (0:Rat)).map dq:=⟨_,rfl⟩
 have i:xs.length=n:=by rw[j];simp
 rw[<-j]
 refine EnW Tryz.func146 λ_ _ _ _=>?_
 refine Mk n rfl (by omega) ?_
 refine Lo (λk:Nat=>[(3,.own 6 4 0 n),(8,.d (.int .i64 n)),(9,.d (.int .i64 k))]) (λk=>[(6,.arr 4 (fl xs rz k))]) (λk=>k<=n) (λk=>n-k) 0 [] rfl (by omega) (λk I=>?_) (by exact⟨rfl,by rw[<-Xjn i];rfl,rfl,rfl,rfl⟩)
 refine By rfl (λh=>?_) λh=>?_
 refine Ce rfl (Xah (z:=0) (by decide))<|Eo k rfl (by omega)<|Sto rfl (by rw[Xkq (by omega)];omega) (Xnu (u:=dq 0) (by rw[j,W2c,W4l,if_pos (by omega)];rfl)) ?_
 refine Ar (k+1:Nat) rfl ?_
 exact Bk (k+1) [] rfl (by omega:k+1<=n) (by show n-(k+1)<n-k;omega)
 exact Rw [(6,1000000)] [(1000000,.arr 4 xs)] rfl (.one (.rf rfl) rfl rfl) ⟨_,rfl,by rw[i];rfl,rfl⟩ (by rw[Xnv (by omega)];rfl)
end
section
theorem Xo1{xs ys:List Rat}{p q:Nat}(U:xs.length=ys.length)(V:xs.length<=1073741824)(O:Ps p xs)(T:Ps q ys)(hp:p+q+1<=8796093022208): CA0 165 [.d (dqs xs),.d (dqs ys)] 4 ((List.zipWith (·+·) xs ys).map dq):=by
 obtain⟨M,j⟩:∃M,M=(List.zipWith (·+·) xs ys).map dq:=⟨_,rfl⟩
 have i:M.length=xs.length:=by rw[j];simp;omega
 rw[<-j]
 refine EnW Tryz.func165 λ_ _ _ _=>?_
 refine Mk xs.length rfl (by simp only[lq];omega) ?_ (by simp only[lq])
 refine Lo (λk:Nat=>[(0,.d (dqs xs)),(1,.d (dqs ys)),(5,.own 9 4 0 xs.length),(11,.d (.int .i64 xs.length)),(12,.d (.int .i64 k))]) (λk=>[(9,.arr 4 (fl M rz k))]) (λk=>k<=xs.length) (λk=>xs.length-k) 0 [] rfl (by omega) (λk Z=>?_) (by exact⟨rfl,by rw[<-Xjn i];rfl,rfl,rfl,rfl⟩)
 refine By rfl (λh=>?_) λh=>?_
 obtain⟨x,o⟩:=qat (l:=xs) (k:=k) (by omega)
 obtain⟨y,I⟩:=qat (l:=ys) (k:=k) (by omega)
 refine Dw rfl<|Ix k rfl (mp o)<|Ix k rfl (mp I)<|Ce rfl (Xc0 (O x (W0h o)) (T y (W0h I)) hp)<|Eo k rfl (by omega)<|Sto rfl (by rw[Xkq (by omega)];omega) (Xnu (u:=dq (x+y)) (by rw[j,W2c,W6x,o,I];rfl)) ?_
 refine Ar (k+1:Nat) rfl ?_
 exact Bk (k+1) [] rfl (by omega:k+1<=xs.length) (by show xs.length-(k+1)<xs.length-k;omega)
 exact Rw [(9,1000000)] [(1000000,.arr 4 M)] rfl (.one (.rf rfl) rfl rfl) ⟨_,rfl,by rw[i];rfl,rfl⟩ (by rw[Xnv (by omega)];rfl)
theorem Ye1{xs:List Rat}{p:Nat}(O:xs.length<=1073741824)(M:Ps p xs)(hp:p<=8796093022208): CA0 249 [.d (dqs xs)] 4 ((xs.map (- ·)).map dq):=by
 obtain⟨I,j⟩:∃I,I=(xs.map (- ·)).map dq:=⟨_,rfl⟩
 have i:I.length=xs.length:=by rw[j];simp
 rw[<-j]
 refine EnW Tryz.func249 λ_ _ _ _=>?_
 refine Mk xs.length rfl (by simp only[lq];omega) ?_ (by simp only[lq])
 refine Lo (λk:Nat=>[(3,.own 8 4 0 xs.length),(9,.d (dqs xs)),(10,.d (.int .i64 xs.length)),(11,.d (.int .i64 k))]) (λk=>[(8,.arr 4 (fl I rz k))]) (λk=>k<=xs.length) (λk=>xs.length-k) 0 [] rfl (by omega) (λk T=>?_) (by exact⟨by simp only[lq];rfl,by rw[<-Xjn i];rfl,rfl,rfl,rfl⟩)
 refine By rfl (λh=>?_) λh=>?_
 obtain⟨x,o⟩:=qat (l:=xs) (k:=k) (by omega)
 refine Ix k rfl (mp o)<|Ce rfl (Xea (M x (W0h o)) hp)<|Eo k rfl (by omega)<|Sto rfl (by rw[Xkq (by omega)];omega) (Xnu (u:=dq (-x)) (by rw[j,W2c,W2c,o];rfl)) ?_
 refine Ar (k+1:Nat) rfl ?_
 exact Bk (k+1) [] rfl (by omega:k+1<=xs.length) (by show xs.length-(k+1)<xs.length-k;omega)
 exact Rw [(8,1000000)] [(1000000,.arr 4 I)] rfl (.one (.rf rfl) rfl rfl) ⟨_,rfl,by rw[i];rfl,rfl⟩ (by rw[Xnv (by omega)];rfl)
theorem Ync{m h:Nat}(e:m=2*h)(hh:h<=1073741824): arB .quo .i64 m 2 h:=show _/\_ from⟨by decide,by rw[show Int.tdiv (m:Int) 2=((m/2:Nat):Int) from rfl,show m/2=h by omega];exact wI (by omega)⟩
theorem Xjj{l m:List Rat}(h:l.length=m.length)(i:l.length<=1073741824): C0 274 [.d (dqs (l++m))] (·=.tup (.pr (.d (dqs l)) (.d (dqs m)))):=by
 have e:((l++m).map dq).length=2*l.length:=by rw[lq,W0i];omega
 refine En Tryz.func274 λ_ _ _=>?_
 refine Dw rfl<|Ar l.length rfl ?_ (Ync e i)
 refine Tk l.length (l.map dq) rfl rfl (by omega) (by rw[<-W2f,W7k]) ?_
 refine Ar l.length rfl ?_ (Ync e i)
 refine Dp l.length (m.map dq) rfl rfl (by omega) (by rw[<-W5i,W8i]) ?_
 exact R0t
theorem Xq2{t:List (List Rat)}{r:List Rat}(h:t.length<=1073741824): C0 273 [.d (dts (t++[r]))] (·=.tup (.pr (.d (dts t)) (.d (dqs r)))):=by
 have e:((t++[r]).map dqs).length=t.length+1:=by rw[lt',W0i];rfl
 refine En Tryz.func273 λ_ _ _=>?_
 refine Dw rfl<|Ar t.length rfl ?_ (wr (by omega) (by simp only[inK];omega))
 refine Tk t.length (t.map dqs) rfl rfl (by omega) (by rw[<-W2f,W7k]) ?_
 refine Ar t.length rfl ?_ (wr (by omega) (by simp only[inK];omega))
 exact Ix t.length rfl (u:=dqs r) (mp (by simp))<|R0t
end
section
abbrev de{k:Nat}(a:El k): D:=dqs (toL k a)
abbrev dt{k:Nat}(t:Tw k): D:=dts (toT k t)
theorem _root_.Go.Proofs.YtnedfplmoojbaaaGreatDoor.Sz.ps{p:Nat}{l:List Rat}(h:Sz p l): Ps p l:=λ_ i=>h.qs i
theorem Xug{k:Nat}{t:Tw k}{a b:El k}(h:(∀x∈toL k a,x=0)\/(∀x∈toL k b,x=0)): toL k (mul k t a b)=List.replicate (2^k) 0:=by
 have L:=Xax k t
 rcases h with h | h
 rw[(Xam k a).2 h,L.zm,Xbu]
 rw[(Xam k b).2 h,L.mz,Xbu]
theorem p16{k:Nat}(h:k<=16): 2^k<=65536:=Yfr h
def Ysf(k:Nat)(xs:List D)(v:AV)(H':Hpl): Prop:=(k=0/\v=.lit 4 xs/\H'=[])\/(v=.own 1000000 4 0 xs.length/\H'=[(1000000,.arr 4 xs)])
theorem Xqv: ∀ {k:Nat} {r s s':Nat} {t:Tw k} {a b:El k},TS r k t->Sz s (toL k a)->Sz s' (toL k b)->k<=16->s+s'+cB r k<=4398046511104->CW0 177 [.d (dt t),.d (de a),.d (de b)] [] (Ysf k ((toL k (mul k t a b)).map dq)):=by
 intro k
 induction k with
 | zero =>
  intro r s s' t a b M ha hb Z hs
  refine EnW Tryz.func177 λ_ _ _ _=>?_
  exact Yes rfl rfl<|Dw rfl<|Ix 0 rfl (u:=dq a) rfl<|Ix 0 rfl (u:=dq b) rfl<|Ce rfl (Xby (ha.qs (W0g.2 rfl)) (hb.qs (W0g.2 rfl)) (by omega))<|Rw [] [] rfl (.one (.rf rfl) rfl rfl) (.inl ⟨rfl,rfl,rfl⟩)
 | succ k ih =>
  intro r s s' t a b M ha hb Z hs
  have hp:=p16 Z
  have hp1:2^(k+1)=2*2^k:=by rw[W0z];omega
  have hcB:cB r (k+1)=2*cB r k+r+1:=rfl
  have O:Sz s (toL k a.1):=Sz.left ha
  have j:Sz s (toL k a.2):=Sz.right ha
  have T:Sz s' (toL k b.1):=Sz.left hb
  have o:Sz s' (toL k b.2):=Sz.right hb
  have i:=Xab k
  have I:∀ {p q:Nat} {x y:El k},Sz p (toL k x)->Sz q (toL k y)->p+q+cB r k<=4398046511104->C0 177 [.d (dt t.1),.d (de x),.d (de y)] (·=.d (de (mul k t.1 x y))):=λhx hy h =>
   CW.data (ih M.1 hx hy (by omega) h) rfl λv H' hv=>by
    rcases hv with ⟨_,rfl,rfl⟩ | ⟨rfl,rfl⟩
    exact⟨_,.one (.lit rfl) rfl rfl,rfl⟩
    exact⟨_,.one (.own rfl (by simp) (by rw[W1i,W2u])) rfl rfl,rfl⟩
  refine EnW Tryz.func177 λ_ _ _ _=>?_
  refine No rfl (by simp only[lt',Xaa];omega)<|Cu (some 3) (λ(U:Bool)=>[(0,.d (dt t)),(1,.d (de a)),(2,.d (de b)),(26,.b U)]) (λ_=>[]) (λU=>U=true->(∀x∈toL (k+1) a,x=0)\/(∀x∈toL (k+1) b,x=0)) rfl ?_ λU V=>?_
  refine Ce rfl (Xc5 ha.ps (by omega) (by rw[Xab];omega))<|By rfl (λh=>?_) λh=>?_
  exact Jn true [] rfl λ_=>.inl h
  exact Ce rfl (Xc5 hb.ps (by omega) (by rw[Xab];omega))<|Jn (dc _) [] rfl λe=>.inr (Xaj.1 e)
  refine By rfl (λh=>?_) λh=>?_
  have hz:=Xug (t:=t) (V h)
  refine Cr (sz:=4) (xs:=(List.replicate (2^(k+1)) (0:Rat)).map dq) rfl (by
   simp only[lq,Xab]
   exact Xf3 (by omega)) ?_
  exact Rw [(35,1000000)] [(1000000,.arr 4 _)] rfl (.one (.rf rfl) rfl rfl) (.inr ⟨by rw[hz];rfl,by rw[hz]⟩)
  refine Ce rfl (Xq2 (t:=toT k t.1) (r:=toL k t.2) (by rw[Xaa];omega))<|Ce rfl (Xjj (l:=toL k a.1) (m:=toL k a.2) (by rw[i,i]) (by rw[i];omega))<|Ce rfl (Xjj (l:=toL k b.1) (m:=toL k b.2) (by rw[i,i]) (by rw[i];omega))<|Ce rfl (I O T (by omega))<|Ce rfl (I j o (by omega))<|Ce rfl (I (j.mul M.1 o) M.2 (by omega))<|Cr rfl (Xo1 (by rw[i,i]) (by rw[i];omega) (O.mul M.1 T).ps ((j.mul M.1 o).mul M.1 M.2).ps (by omega)) ?_
  refine Ce rfl (I O o (by omega))<|Ce rfl (I j T (by omega))<|Ce rfl (CA.data (Xo1 (by rw[i,i]) (by rw[i];omega) (O.mul M.1 o).ps (j.mul M.1 T).ps (by omega)))<|ApO ((toL (k+1) (mul (k+1) t a b)).map dq) rfl rfl rfl (by
   rw[<-W2j,<-Xa0,<-Xa0];rfl) (by rw[lq,Xab];omega) ?_
  exact Rw [(73,1000000)] [(1000000,.arr 4 _)] rfl (.one (.rf rfl) rfl rfl) (.inr ⟨rfl,rfl⟩)
end
section
theorem Xg2{k:Nat}{r s s':Nat}{t:Tw k}{a b:Tow.El k}(h:TS r k t)(ha:Sz s (toL k a))(hb:Sz s' (toL k b))(i:k<=16)(j:s+s'+cB r k<=4398046511104): C0 177 [.d (dt t),.d (de a),.d (de b)] (·=.d (de (mul k t a b))) :=
 CW.data (Xqv h ha hb i j) rfl λv H' o=>by
  rcases o with ⟨_,rfl,rfl⟩ | ⟨rfl,rfl⟩
  exact⟨_,.one (.lit rfl) rfl rfl,rfl⟩
  exact⟨_,.one (.own rfl (by simp) (by rw[W1i,W2u])) rfl rfl,rfl⟩
theorem Xo2{k p q:Nat}{a b:Tow.El k}(h:k<=16)(ha:Ps p (toL k a))(hb:Ps q (toL k b))(hp:p+q+1<=8796093022208): C0 165 [.d (de a),.d (de b)] (·=.d (de (Tow.add k a b))):=by
 have:=CA.data (Xo1 (by rw[Xab,Xab]) (by rw[Xab];have:=p16 h;omega) ha hb hp)
 rwa[<-Xa0] at this
theorem Xik{k p:Nat}{a:Tow.El k}(h:k<=16)(ha:Ps p (toL k a))(hp:p<=8796093022208): C0 249 [.d (de a)] (·=.d (de (Tow.neg k a))):=by
 have:=CA.data (Ye1 (by rw[Xab];have:=p16 h;omega) ha hp)
 rwa[<-Xb7] at this
theorem Xq3{k:Nat}{t:Tw (k+1)}(h:k<=16): C0 273 [.d (dt t)] (·=.tup (.pr (.d (dt t.1)) (.d (de t.2)))):=Xq2 (by rw[Xaa];omega)
theorem Xnr{k:Nat}{a:Tow.El (k+1)}(h:k<=16): C0 274 [.d (de a)] (·=.tup (.pr (.d (de a.1)) (.d (de a.2)))):=Xjj (by rw[Xab,Xab]) (by rw[Xab];have:=p16 h;omega)
theorem Xhr{k p:Nat}{a:Tow.El k}(h:Sz p (toL k a)): Sz p (toL k (Tow.neg k a)):=by rw[Xb7];exact h.neg
theorem Xqu{k r s:Nat}{t:Tw (k+1)}{a:Tow.El (k+1)}(h:TS r (k+1) t)(ha:Sz s (toL (k+1) a))(o:k+1<=16)(I:nB r k s<=4398046511104): C0 340 [.d (dt t),.d (de a)] (·=.d (de (Tow.norm k t a))):=by
 have M:nB r k s=4*s+3*cB r k+r+1:=rfl
 have j:Sz s (toL k a.1):=Sz.left ha
 have i:Sz s (toL k a.2):=Sz.right ha
 refine En Tryz.func340 λ_ _ _=>?_
 exact Ce rfl (Xq3 (by omega))<|Ce rfl (Xnr (by omega))<|Ce rfl (Xg2 h.1 j j (by omega) (by omega))<|Ce rfl (Xg2 h.1 i i (by omega) (by omega))<|Ce rfl (Xg2 h.1 (i.mul h.1 i) h.2 (by omega) (by omega))<|Ce rfl (Xik (by omega) ((i.mul h.1 i).mul h.1 h.2).ps (by omega))<|Ce rfl (Xo2 (by omega) (j.mul h.1 j).ps (Xhr ((i.mul h.1 i).mul h.1 h.2)).ps (by omega))<|R0
theorem Xw2{r k p q:Nat}(h:iB r (k+1) p<=q): nB r k p<=q/\p+iB r k (nB r k p)+cB r k<=q:=by
 have i:=Xw3 r k (nB r k p)
 have j:iB r (k+1) p=2*(p+iB r k (nB r k p)+cB r k):=rfl
 omega
theorem Yo2(x:Rat): Tow.inv 0 () x=if x=0 then none else some (1/x:Rat):=rfl
theorem Xsa(y:Rat): (∃x,Tow.inv 0 () y=some x)↔y≠0:=by
 rw[Yo2]
 by_cases h:y=0
 rw[if_pos h];exact⟨(λ⟨x,h⟩=>nomatch h),λi=>absurd h i⟩
 rw[if_neg h];exact⟨λ_=>h,λ_=>⟨_,rfl⟩⟩
theorem Yn6{y:Rat}{s:Nat}(hq:Qs s y)(j:s+1<=8796093022208): C0 280 [.d (dts []),.d (dqs [y])] λv=>∃w:D,v=.tup (.pr (.d w) (.b (dc (y≠0))))/\(y≠0->w=dqs [1/y]):=by
 have i:Qs 1 (1:Rat):=Qs.int (z:=1) (Zs.one (W0a 1)) (W0a 1)
 refine En Tryz.func280 λ_ _ _=>?_
 refine Yes rfl rfl<|Dw rfl<|Ce rfl (Xah (z:=1) (by decide))<|Ix 0 rfl (u:=dq y) rfl ?_
 by_cases h0:y=0
 exact Ce rfl (Xz1 h0)<|Rt rfl (.tup (.cons (.lit rfl) (.one (by exact .bp ⟨λh=>absurd (Xaj.1 h) (by decide),λh=>absurd h0 h⟩) (λ_ _ e=>by cases e) (λ_ _ e=>by cases e)))) ⟨_,rfl,λh=>absurd h0 h⟩
 exact Ce rfl (Xg9 i hq (by omega) h0)<|Rt rfl (.tup (.cons (.lit rfl) (.one (by exact .bp ⟨λ_=>h0,λ_=>Xaj.2 rfl⟩) (λ_ _ e=>by cases e) (λ_ _ e=>by cases e)))) ⟨_,rfl,λ_=>rfl⟩
theorem Xim: ∀ {k:Nat} {r s:Nat} {t:Tw k} {a:Tow.El k},TS r k t->Sz s (toL k a)->k<=16->iB r k s<=4398046511104->C0 280 [.d (dt t),.d (de a)] λv=>∃w:D,v=.tup (.pr (.d w) (.b (dc (∃x,Tow.inv k t a=some x))))/\∀x,Tow.inv k t a=some x->w=de x:=by
 intro k
 induction k with
 | zero =>
  intro r s t a o ha Z hs
  have hb:iB r 0 s=s+1:=rfl
  have U:∀y:Rat,Qs s y->C0 280 [.d (dts []),.d (dqs [y])] λv=>∃w:D,v=.tup (.pr (.d w) (.b (dc (∃x,Tow.inv 0 () y=some x))))/\∀x:Rat,Tow.inv 0 () y=some x->w=dqs [x]:=λy hq=>by
   refine C.mono (Yn6 hq (by omega)) λv ⟨w,e,h⟩=>⟨w,by rw[e];congr 4;exact propext (Xsa y).symm,λx I=>?_⟩
   have h0:=(Xsa y).1 ⟨x,I⟩
   rw[h h0]
   rw[Yo2,if_neg h0] at I
   injection I with I
   rw[<-I]
  exact U a (ha.qs (W0g.2 rfl))
 | succ k ih =>
  intro r s t a o ha Z hs
  have I:Sz s (toL k a.1):=Sz.left ha
  have T:Sz s (toL k a.2):=Sz.right ha
  obtain⟨hi1,hi2⟩:=Xw2 hs
  have hN:=ha.norm o
  have hge:=Xw3 r k (nB r k s)
  have i:Tow.inv (k+1) t a=match Tow.inv k t.1 (Tow.norm k t a) with | none=>none | some x=>some (mul k t.1 a.1 x,Tow.neg k (mul k t.1 a.2 x)):=rfl
  refine En Tryz.func280 λ_ _ _=>?_
  refine No rfl (by simp only[lt',Xaa];omega)<|Ce rfl (Xq3 (by omega))<|Ce rfl (Xqu o ha Z (by omega))<|Ca rfl (ih o.1 hN (by omega) (by omega)) λv V=>?_
  obtain⟨w,rfl,hw⟩:=V
  refine By rfl (λh=>?_) λh=>?_
  have h:¬ ∃x,Tow.inv k t.1 (Tow.norm k t a)=some x:=by simpa [Xas,Xaj] using h
  have e0:Tow.inv (k+1) t a=none:=by
   rw[i]
   cases hh:Tow.inv k t.1 (Tow.norm k t a) with
   | none=>rfl
   | some x=>exact absurd ⟨x,hh⟩ h
  exact Rt rfl (.tup (.cons (.nil (sz:=4) rfl) (.one (by exact .bp (c:=false) (p:=∃x,Tow.inv (k+1) t a=some x) ⟨nofun,λ⟨x,h⟩=>by rw[e0] at h;cases h⟩) (λ_ _ e=>by cases e) (λ_ _ e=>by cases e)))) ⟨_,rfl,λx h=>by rw[e0] at h;cases h⟩
  obtain⟨x,M⟩:∃x,Tow.inv k t.1 (Tow.norm k t a)=some x:=by simpa [Xas,Xaj] using h
  obtain rfl:=hw x M
  rw[M] at i
  have j:=hN.inv o.1 M
  have hpk:=p16 (by omega:k<=16)
  refine Ce rfl (Xnr (by omega))<|Cw [] rfl (Xqv o.1 I j (by omega) (by omega)) λv H' _ V=>?_
  have O:∀ {zs:List D},zs=(toL k (mul k t.1 a.1 x)).map dq++(toL k (Tow.neg k (mul k t.1 a.2 x))).map dq->zs=(toL (k+1) (mul k t.1 a.1 x,Tow.neg k (mul k t.1 a.2 x))).map dq:=λh=>by rw[h,<-W2j];rfl
  have hb:(true=true↔∃x,Tow.inv (k+1) t a=some x):=⟨λ_=>⟨_,i⟩,λ_=>rfl⟩
  rcases V with ⟨hk0,rfl,rfl⟩ | ⟨rfl,rfl⟩
  refine Ce rfl (Xg2 o.1 T j (by omega) (by omega))<|Ce rfl (Xik (by omega) (T.mul o.1 j).ps (by omega))<|ApL _ rfl rfl (by rw[lq,Xab];exact W0p k) (by rw[W0i,lq,lq,Xab,Xab];omega) ?_
  exact Rt rfl (.tup (.cons (.own rfl (by rw[W1l];exact W0a _) rfl) (.one (by exact .bp (c:=true) hb) (λ_ _ e=>by cases e) (λ_ _ e=>by cases e)))) ⟨_,rfl,λy h=>by rw[i] at h;injection h with h;rw[<-h,W1i,W2u,O rfl];rfl⟩
  refine Ce rfl (Xg2 o.1 T j (by omega) (by omega))<|Ce rfl (Xik (by omega) (T.mul o.1 j).ps (by omega))<|ApO _ rfl rfl rfl rfl (by rw[W0i,lq,lq,Xab,Xab];omega) ?_
  exact Rt rfl (.tup (.cons (.own rfl (by rw[W1l];exact W0a _) rfl) (.one (by exact .bp (c:=true) hb) (λ_ _ e=>by cases e) (λ_ _ e=>by cases e)))) ⟨_,rfl,λy h=>by rw[i] at h;injection h with h;rw[<-h,W1i,W2u,O rfl];rfl⟩
end
section
theorem Xlc: ∀ {k:Nat} {t:Tw k} {r:Nat},TS r k t->∀ {i:Nat} {l:List Rat},(toT k t)[i]?=some l->l.length=2^i/\Sz r l
 | 0,_,_,_,_,_,h=>by simp[toT] at h
 | k+1,t,r,o,i,l,h=>by
  by_cases hi:i<k
  rw[toT,W0q (by rw[Xaa];exact hi)] at h
  exact Xlc o.1 h
  have:=(W0s.1 h).1
  rw[Xaa] at this
  have j:i=k:=by omega
  subst j
  rw[toT,W0n (by rw[Xaa];exact W0a _),Xaa,W3a] at h
  simp at h
  rw[<-h]
  exact⟨Xab _ _,o.2⟩
theorem TS.pt{k r:Nat}{t:Tw k}(h:TS r k t): Pt r (toT k t):=λi l j=>⟨(Xlc h j).1,(Xlc h j).2.ps⟩
theorem Yic{k:Nat}(t:Tw k)(a:Tow.El k): (toL k a).length=2^(toT k t).length:=by rw[Xab,Xaa]
section
variable{k r s s':Nat}{t:Tw k}{a b:Tow.El k}
theorem Xcc(h:TS r k t)(ha:Sz s (toL k a))(i:k<=16)(j:s<=4398046511104)(hr:r<=4398046511104): C0 247 [.d (dt t),.d (de a)] (·=.b true):=Xj8 (TS.pt h) (by omega) ha.ps (by omega) (by rw[Xaa];omega) (Yic t a)
theorem Xg3(h:TS r k t)(ha:Sz s (toL k a))(hb:Sz s' (toL k b))(i:k<=16)(j:s+s'<=4398046511104)(hr:r<=4398046511104): C0 164 [.d (dt t),.d (de a),.d (de b)] (·=.b true):=Xtb (TS.pt h) (by omega) ha.ps (by omega) hb.ps (by omega) (by rw[Xaa];omega) (Yic t a) (Yic t b)
theorem Xip(i:TS r k t)(ha:Sz s (toL k a))(hb:Sz s' (toL k b))(h:k<=16)(j:s+s'<=4398046511104)(hr:r<=4398046511104): C0 80 [.d (dt t),.d (de a),.d (de b)] (·=.d (de (Tow.add k a b))):=by
 refine En Tryz.func80 λ_ _ _=>?_
 exact Ce rfl (Xg3 i ha hb h j hr)<|No rfl (by simp)<|Ce rfl (Xo2 h ha.ps hb.ps (by omega))<|R0
theorem Xu1(i:TS r k t)(ha:Sz s (toL k a))(h:k<=16)(j:s<=4398046511104)(hr:r<=4398046511104): C0 193 [.d (dt t),.d (de a)] (·=.d (de (Tow.neg k a))):=by
 refine En Tryz.func193 λ_ _ _=>?_
 exact Ce rfl (Xcc i ha h j hr)<|No rfl (by simp)<|Ce rfl (Xik h ha.ps (by omega))<|R0
theorem Xio(i:TS r k t)(ha:Sz s (toL k a))(hb:Sz s' (toL k b))(h:k<=16)(j:s+s'<=4398046511104)(hr:r<=4398046511104): C0 153 [.d (dt t),.d (de a),.d (de b)] (·=.d (de (Tow.add k a (Tow.neg k b)))):=by
 refine En Tryz.func153 λ_ _ _=>?_
 exact Ce rfl (Xg3 i ha hb h j hr)<|No rfl (by simp)<|Ce rfl (Xik h hb.ps (by omega))<|Ce rfl (Xo2 h ha.ps (Xhr hb).ps (by omega))<|R0
theorem Xdo(h:TS r k t)(ha:Sz s (toL k a))(hb:Sz s' (toL k b))(i:k<=16)(j:s+s'+cB r k<=4398046511104)(hr:r<=4398046511104): C0 89 [.d (dt t),.d (de a),.d (de b)] (·=.d (de (mul k t a b))):=by
 refine En Tryz.func89 λ_ _ _=>?_
 exact Ce rfl (Xg3 h ha hb i (by omega) hr)<|No rfl (by simp)<|Ce rfl (Xg2 h ha hb i j)<|R0
theorem Xo3(h:TS r k t)(ha:Sz s (toL k a))(i:k<=16)(o:iB r k s<=4398046511104)(hr:r<=4398046511104){x:Tow.El k}(j:Tow.inv k t a=some x): C0 195 [.d (dt t),.d (de a)] (·=.tup (.pr (.d (de x)) (.d (.int .i64 0)))):=by
 have I:=Xw3 r k s
 refine En Tryz.func195 λ_ _ _=>?_
 refine Ce rfl (Xcc h ha i (by omega) hr)<|No rfl (by simp)<|Ca rfl (Xim h ha i o) λv M=>?_
 obtain⟨w,rfl,O⟩:=M
 obtain rfl:=O x j
 exact No rfl (by simp[Xas,Xaj,j])<|R0t
theorem Xzk(h:TS r k t)(ha:Sz s (toL k a))(i:k<=16)(j:iB r k s<=4398046511104)(hr:r<=4398046511104)(o:Tow.inv k t a=none): C0 195 [.d (dt t),.d (de a)] (·=.tup (.pr (.d (dqs [])) (.d (.int .i64 6)))):=by
 have I:=Xw3 r k s
 refine En Tryz.func195 λ_ _ _=>?_
 refine Ce rfl (Xcc h ha i (by omega) hr)<|No rfl (by simp)<|Ca rfl (Xim h ha i j) λv M=>?_
 obtain⟨w,rfl,O⟩:=M
 exact Yes rfl (by simp[Xas,Xaj,o])<|RTt rfl (.cons (.nil rfl) (.one (.rf rfl) (λ_ _ e=>by cases e) (λ_ _ e=>by cases e)))
theorem Xzi{i:Nat}(h:TS r k t)(j:k<=16)(hr:r<=4398046511104)(hi:i<k): C0 361 [.d (dt t),.d (.int .i64 i)] (·=.d (de (Xdi k i))):=by
 have hp:=p16 j
 have o:2^i<2^k:=W4f (by decide) hi
 refine En Tryz.func361 λ_ _ _=>?_
 refine Ce rfl (Xet (TS.pt h) (by omega) (by rw[Xaa];omega))<|No rfl (by simp)<|No rfl (by omega)<|No rfl (by simp only[lt',Xaa];omega)<|Ar (2^k:Nat) rfl ?_ (by simp only[lt',Xaa];exact Xb1 (by omega))
 refine Cr rfl (Xf3 (n:=2^k) (by omega)) ?_
 refine Dw rfl<|Ar (2^i:Nat) rfl ?_ (Xb1 (by omega))
 refine Ce rfl (Xah (z:=1) (by decide))<|Eo (2^i) rfl (by simp only[lq,W1o];omega)<|Sto rfl (by simp only[lq,W1o];omega) (ms (f:=dq) (u:=1)) ?_
 refine R1 rfl (.own rfl (by simp) ?_)
 rw[W1i,<-Xqt hi]
 exact W0b (by simp[Xab])
theorem Xb8{x:Rat}{p:Nat}(h:TS r k t)(i:k<=16)(hr:r<=4398046511104)(j:Qs p x)(hp:p<=4398046511104): C0 67 [.d (dt t),.d (dq x)] (·=.d (de (rat k x))):=by
 have o:=p16 i
 have h0:=W0p k
 refine En Tryz.func67 λ_ _ _=>?_
 refine Ce rfl (Xet (TS.pt h) (by omega) (by rw[Xaa];omega))<|No rfl (by simp)<|Ce rfl (Xnc j (by omega))<|No rfl (by simp)<|Ar (2^k:Nat) rfl ?_ (by simp only[lt',Xaa];exact Xb1 (by omega))
 refine Cr rfl (Xf3 (n:=2^k) (by omega)) ?_
 refine Eo 0 rfl (by simp only[lq,W1o];omega)<|Sto rfl (by simp only[lq,W1o];omega) (ms (f:=dq) (u:=x)) ?_
 refine R1 rfl (.own rfl (by simp) ?_)
 rw[W1i,Xda]
 rw[W0b (by simp),show 2^k=2^k-1+1 by omega,W4h,List.set_cons_zero]
 rfl
theorem Xzj{k r s:Nat}{t:Tw (k+1)}{a:Tow.El (k+1)}(h:TS r (k+1) t)(ha:Sz s (toL (k+1) a))(i:k+1<=16)(j:nB r k s<=4398046511104)(hr:r<=4398046511104): C0 378 [.d (dt t),.d (de a)] (·=.d (de (Tow.norm k t a))):=by
 have o:nB r k s=4*s+3*cB r k+r+1:=rfl
 refine En Tryz.func378 λ_ _ _=>?_
 exact Ce rfl (Xcc h ha i (by omega) hr)<|No rfl (by simp)<|No rfl (by simp only[lt',Xaa];omega)<|Ce rfl (Xqu h ha i j)<|R0
end
end
end Go.Proofs.YtnedfplmoojbaaaGreatDoor
namespace Go.Proofs.YtnedfplmoojbaaaGreatDoor.R6
open Go Go.Vm Go.Num Go.Tow Go.Proofs.YtnedfplmoojbaaaGreatDoor
theorem Xri{l:List Rat}{p n:Nat}(j:Ps p l)(hp:p<=8796093022208)(I:l.length<=1099511627776)(o:l.length=n): C0 221 [.d (dqs l),.d (.int .i64 n)] (·=.b true):=by
 refine En Tryz.func221 λ_ _ _=>?_
 refine Lo (λk:Nat=>[(0,.d (dqs l)),(1,.d (.int .i64 n)),(5,.d (.int .i64 k))]) (λ_=>[]) (λk=>k<=l.length) (λk=>l.length-k) 0 [] rfl (by omega) (λk M=>?_)
 refine By rfl (λh=>?_) λh=>?_<;>simp only[lq] at h
 obtain⟨x,i⟩:=qat (l:=l) (k:=k) (by omega)
 refine Ix k rfl (mp i)<|Ce rfl (R2.Valid_ok (j x (W0h i)) hp)<|No rfl (by simp)<|Ar (k+1:Nat) rfl ?_
 exact Bk (k+1) [] rfl (by omega:k+1<=l.length) (by show l.length-(k+1)<l.length-k;omega)
 exact R1 rfl (by exact(show dc (((l.map dq).length:Int)=n)=true by rw[Xaj,lq,o]) ▸ .rf rfl)
theorem Tower_ok{t:List (List Rat)}{p:Nat}(j:Pt p t)(hp:p<=8796093022208)(M:t.length<=40): C0 220 [.d (dts t)] (·=.b true):=by
 refine En Tryz.func220 λ_ _ _=>?_
 refine Lo (λk:Nat=>[(0,.d (dts t)),(3,.d (.int .i64 k))]) (λ_=>[]) (λk=>k<=t.length) (λk=>t.length-k) 0 [] rfl (by omega) (λk O=>?_)
 refine By rfl (λh=>?_) λh=>?_<;>simp only[lt'] at h
 obtain⟨r,i⟩:∃r,t[k]?=some r:=⟨_,W0e (by omega)⟩
 obtain⟨o,I⟩:=j k r i
 have:=Yfr (by omega:k<=40)
 refine Dw rfl<|Ix k rfl (mp i)<|Ar (2^k:Nat) rfl ?_ (Xb1 (by omega))
 refine Ce rfl (Xri I hp (by omega) o)<|No rfl (by simp)<|Ar (k+1:Nat) rfl ?_
 exact Bk (k+1) [] rfl (by omega:k+1<=t.length) (by show t.length-(k+1)<t.length-k;omega)
 exact R0
theorem Formed_ok{t:List (List Rat)}{l:List Rat}{p q:Nat}(h:Pt p t)(hp:p<=8796093022208)(i:Ps q l)(hq:q<=8796093022208)(o:t.length<=39)(j:l.length=2^t.length): C0 126 [.d (dts t),.d (dqs l)] (·=.b true):=by
 have:=Yfr (by omega:t.length<=39)
 refine En Tryz.func126 λ_ _ _=>?_
 refine Ce rfl (Tower_ok h hp (by omega))<|Yes rfl rfl<|Ar (2^t.length:Nat) rfl ?_ (by simp only[lt'];exact Xb1 (by omega))
 exact Ce rfl (Xri i hq (by omega) j)<|R0
theorem Zero_ok{l:List Rat}(M:l.length<=1099511627776): C0 305 [.d (dqs l)] (·=.b (dc (∀x∈l,x=0))):=by
 refine En Tryz.func305 λ_ _ _=>?_
 refine Lo (λk:Nat=>[(0,.d (dqs l)),(3,.d (.int .i64 k))]) (λ_=>[]) (λk=>k<=l.length/\∀x∈l.take k,x=0) (λk=>l.length-k) 0 [] rfl ⟨by omega,by simp⟩ (λk ⟨O,j⟩=>?_)
 refine By rfl (λh=>?_) λh=>?_<;>simp only[lq] at h
 obtain⟨x,o⟩:=qat (l:=l) (k:=k) (by omega)
 refine Ix k rfl (mp o)<|By rfl (λI=>?_) λI=>?_
 exact R1 rfl (.bp ⟨nofun,λe=>by
  rw[e x (W0h o),lw] at I
  simp[Xap] at I⟩)
 refine Ar (k+1:Nat) rfl ?_
 refine Bk (k+1) [] rfl ⟨by omega,λy i=>?_⟩ (by show l.length-(k+1)<l.length-k;omega)
 rw[W1w,o] at i
 rcases W2p.1 i with i | i
 exact j y i
 simp at i;rw[i];exact R2.zero_of (by omega)
 rw[W0b (by omega)] at j
 exact R1 rfl (.bp ⟨λ_=>j,λ_=>rfl⟩)
theorem Neg_ok{T:List (List Rat)}{xs:List Rat}{p:Nat}(o:xs.length<=1073741824)(j:Ps p xs)(hp:p<=8796093022208): CG0 298 [.d (dts T),.d (dqs xs)] 4 ((xs.map (- ·)).map dq):=by
 refine EnW Tryz.func298 λ_ _ _ _=>?_
 refine Nl 5 5 4 rfl ?_
 refine Lo (λk:Nat=>[(1,.d (dqs xs)),(5,.gr 5 4 (((xs.take k).map (- ·)).map dq)),(6,.d (.int .i64 k))]) (λk=>[(5,.tok (((xs.take k).map (- ·)).map dq).length 4)]) (λk=>k<=xs.length) (λk=>xs.length-k) 0 [] rfl (by omega) (λk I=>?_)
 refine By rfl (λh=>?_) λh=>?_<;>simp only[lq] at h
 obtain⟨x,i⟩:=qat (l:=xs) (k:=k) (by omega)
 refine Ix k rfl (mp i)<|Ce rfl (R2.Neg_ok (j x (W0h i)) hp)<|ApG (((xs.take (k+1)).map (- ·)).map dq) rfl (by rw[W1w,i];simp) (by simp;omega) ?_
 refine Ar (k+1:Nat) rfl ?_
 exact Bk (k+1) [(20,5)] rfl (by omega:k+1<=xs.length) (by show xs.length-(k+1)<xs.length-k;omega)
 exact Rw [(5,1000000)] [(1000000,.tok ((xs.map (- ·)).map dq).length 4)] rfl (.one (.rf rfl) rfl rfl) ⟨_,rfl,by rw[W0b (by omega)];rfl,rfl⟩ (by rw[W0b (by omega)];rfl)
theorem Neg_el{T:List (List Rat)}{k p:Nat}{a:Tow.El k}(h:k<=16)(ha:Ps p (toL k a))(hp:p<=8796093022208): C0 298 [.d (dts T),.d (de a)] (·=.d (de (Tow.neg k a))):=by
 have:=CG.data (Neg_ok (T:=T) (by rw[Xab];have:=p16 h;omega) ha hp)
 rwa[<-Xb7] at this
theorem Add_ok{T:List (List Rat)}{xs ys:List Rat}{p q:Nat}(M:xs.length=ys.length)(O:xs.length<=1073741824)(o:Ps p xs)(I:Ps q ys)(hp:p+q+1<=8796093022208): CG0 296 [.d (dts T),.d (dqs xs),.d (dqs ys)] 4 ((List.zipWith (·+·) xs ys).map dq):=by
 have U:(List.zipWith (·+·) xs ys).length=xs.length:=by simp;omega
 refine EnW Tryz.func296 λ_ _ _ _=>?_
 refine Nl 7 7 4 rfl ?_
 refine Lo (λk:Nat=>[(1,.d (dqs xs)),(2,.d (dqs ys)),(7,.gr 7 4 (((List.zipWith (·+·) xs ys).take k).map dq)),(8,.d (.int .i64 k))]) (λk=>[(7,.tok (((List.zipWith (·+·) xs ys).take k).map dq).length 4)]) (λk=>k<=xs.length) (λk=>xs.length-k) 0 [] rfl (by omega) (λk V=>?_)
 refine By rfl (λh=>?_) λh=>?_<;>simp only[lq] at h
 obtain⟨x,i⟩:=qat (l:=xs) (k:=k) (by omega)
 obtain⟨y,j⟩:=qat (l:=ys) (k:=k) (by omega)
 refine Dw rfl<|Ix k rfl (mp i)<|Ix k rfl (mp j)<|Ce rfl (R2.Add_ok (o x (W0h i)) (I y (W0h j)) hp)<|ApG (((List.zipWith (·+·) xs ys).take (k+1)).map dq) rfl (by rw[W1w,W6x,i,j];simp) (by simp;omega) ?_
 refine Ar (k+1:Nat) rfl ?_
 exact Bk (k+1) [(26,7)] rfl (by omega:k+1<=xs.length) (by show xs.length-(k+1)<xs.length-k;omega)
 exact Rw [(7,1000000)] [(1000000,.tok ((List.zipWith (·+·) xs ys).map dq).length 4)] rfl (.one (.rf rfl) rfl rfl) ⟨_,rfl,by rw[W0b (by omega)];rfl,rfl⟩ (by rw[W0b (by omega)];rfl)
theorem Add_el{T:List (List Rat)}{k p q:Nat}{a b:Tow.El k}(h:k<=16)(ha:Ps p (toL k a))(hb:Ps q (toL k b))(hp:p+q+1<=8796093022208): C0 296 [.d (dts T),.d (de a),.d (de b)] (·=.d (de (Tow.add k a b))):=by
 have:=CG.data (Add_ok (T:=T) (by rw[Xab,Xab]) (by rw[Xab];have:=p16 h;omega) ha hb hp)
 rwa[<-Xa0] at this
theorem Sub_el{T:List (List Rat)}{k p q:Nat}{a b:Tow.El k}(h:k<=16)(ha:Ps p (toL k a))(hb:Sz q (toL k b))(hp:p+q+1<=8796093022208): C0 307 [.d (dts T),.d (de a),.d (de b)] (·=.d (de (Tow.add k a (Tow.neg k b)))):=by
 refine En Tryz.func307 λ_ _ _=>?_
 exact Ce rfl (Neg_el h hb.ps (by omega))<|Ce rfl (Add_el h ha (Xhr hb).ps hp)<|R0
theorem Xjv{t:List (List Rat)}{x:Rat}(j:t.length<=16)(o:1<=t.length): CA0 304 [.d (dts t),.d (dq x)] 4 ((x::List.replicate (2^t.length-1) 0).map dq):=by
 have hp:=p16 j
 have I:2^1<=2^t.length:=Yfr o
 obtain⟨n,i⟩:∃n,n=2^t.length:=⟨_,rfl⟩
 rw[<-i] at hp I |-
 refine EnW Tryz.func304 λ_ _ _ _=>?_
 refine Lo (λk:Nat=>[(0,.d (dts t)),(3,.ptr 3 0),(5,match k with | 0=>.lit 4 [dq x] | k+1=>.own 5 4 0 (k+2))]) (λk=>match k with | 0=>[(3,.var (.d (dq x)))] | k+1=>[(5,.arr 4 ((x::List.replicate (k+1) (0:Rat)).map dq)),(3,.var (.d (dq x)))]) (λk=>k+1<=n) (λk=>n-k) 0 [] rfl (by omega) (λk M=>?_)
 cases k with
 | zero =>
  refine Ar n rfl ?_ (by rw[i];simp only[lt'];exact Xb1 (by omega))
  refine Yes rfl (by simp only[W1j,W3r];omega)<|Ce rfl (R2.FromInt_ok (z:=0) (by decide))<|ApL ((x::List.replicate 1 0).map dq) rfl rfl (by decide) (by simp) ?_
  exact Bk 1 [(17,5)] rfl (by omega:1+1<=n) (by show n-1<n-0;omega)
 | succ k =>
  refine Ar n rfl ?_ (by rw[i];simp only[lt'];exact Xb1 (by omega))
  refine By rfl (λh=>?_) λh=>?_
  refine Ce rfl (R2.FromInt_ok (z:=0) (by decide))<|ApO ((x::List.replicate (k+1+1) 0).map dq) rfl rfl (by simp) (by rw[W7b (n:=k+1)];simp) (by simp;omega) ?_
  exact Bk (k+1+1) [(17,5)] rfl (by omega:k+1+1+1<=n) (by show n-(k+1+1)<n-(k+1);omega) (by exact⟨by simp only[W1k,W1j,W1o];rfl,rfl,rfl,rfl,rfl⟩)
  have e:n-1=k+1:=by omega
  exact Rw [(5,1000000)] [(1000000,.arr 4 ((x::List.replicate (n-1) (0:Rat)).map dq))] rfl (.one (.rf rfl) rfl rfl) ⟨_,rfl,by rw[e];simp;rfl,rfl⟩ (by rw[e];rfl)
theorem Xqg{x:Rat}: C0 304 [.d (dts []),.d (dq x)] (·=.lit 4 [dq x]):=by
 refine En Tryz.func304 λ_ _ _=>?_
 refine Lo (λ_:Unit=>[(0,.d (dts [])),(5,.lit 4 [dq x])]) (λ_=>[]) (λ_=>True) (λ_=>0) () [] rfl trivial λ_ _=>?_
 refine Ar (1:Nat) rfl ?_ (Xb1 (k:=0) (by decide))
 exact No rfl (by simp only[W1j,W3r];omega)<|R0
theorem _root_.Go.Vm.C.lit{P:Program}[Gb P]{f:FuncId}{i:List AV}{sz:Nat}{xs:List D}(h:C P f i (·=.lit sz xs)): C P f i (·=.d (.sl sz xs)):=⟨h.1,λW j o ha=>(h.2 W j o ha).mono λe V ⟨W',v,u,I,M,O,T,Z,U⟩=>⟨W',_,u,I,M,O,Xid (U ▸ T),λ_ h=>h.elim,rfl⟩⟩
theorem FromRat_ok{t:List (List Rat)}{x:Rat}(h:t.length<=16): C0 304 [.d (dts t),.d (dq x)] (·=.d (dqs (x::List.replicate (2^t.length-1) 0))):=by
 cases t with
 | nil=>exact C.lit Xqg
 | cons r t=>exact CA.data (Xjv h (by simp))
end Go.Proofs.YtnedfplmoojbaaaGreatDoor.R6
namespace Go.Vm
open Go
def GW.pub(W:GW)(b m:Nat): GW:=⟨W.w,λh i=>(h=b->m<=i)/\W.A h i,λh i k=>W.hA h i k.2⟩
theorem Xv2(W:GW)(b m:Nat): LeF W (W.pub b m):=λ_ _ _ k=>⟨k.1,λh=>k.2 h.2⟩
theorem Stp.pub{N:Nat->Prop}{W:GW}{θ:Loc}{g:Hp}(h:Obs W θ N g){o b sz:Nat}{xs:List D}(M:g o=some (.arr sz xs))(hb:(θ o).1=some b):
 Stp N W (W.pub b (xs.length*sz)) θ θ g (upd g o (.tok xs.length sz)) where
 os:=_root_.rfl
 out:=_root_.rfl
 tape:=_root_.rfl
 size:=W0a _
 same:=λ_ _ _=>_root_.rfl
 A:=λb' _ hn i=>⟨λk=>k.2,λk=>⟨λe=>by subst e;exact absurd (h.new o _ _ M _root_.rfl hb) hn,k⟩⟩
 le:=Xv2 W b _
 th:=λ_ _ _=>_root_.rfl
 hi:=λ_ _=>_root_.rfl
 obs:={
  r:=λO z U=>by
   rcases Xae U with ⟨I,j⟩ | ⟨I,j⟩
   subst I;subst j
   obtain⟨b',cs,T',r1,r2,r3,r4,r5,r6,r7⟩:=h.r _ _ M
   rw[hb] at r1;injection r1 with r1;subst r1
   exact⟨r5,r4,.inr ⟨b,cs,T',hb,r2,r3,λi hi=>⟨λ_=>hi,r7 i⟩⟩⟩
   exact(h.r O z j).keep (Xv2 W b _) _root_.rfl (λ_ _=>_root_.rfl) λhl b' hb'=>⟨_root_.rfl,λi hA=>⟨λe=>by
    subst e
    exact absurd (h.dis O o z _ _ j M hl _root_.rfl hb' hb) I,hA⟩⟩
  new:=λO z T U hl V=>by
   rcases Xae U with ⟨I,j⟩ | ⟨I,j⟩
   subst I;exact h.new _ _ T M _root_.rfl V
   exact h.new O z T j hl V
  dis:=λo1 o2 y1 y2 b h1 h2 l1 l2 b1 T=>by
   rcases Xae h1 with ⟨I,f1⟩ | ⟨I,f1⟩<;>rcases Xae h2 with ⟨j,f2⟩ | ⟨j,f2⟩
   rw[I,j]
   subst I;exact h.dis _ _ _ _ b M f2 _root_.rfl l2 b1 T
   subst j;exact h.dis _ _ _ _ b f1 M l1 _root_.rfl b1 T
   exact h.dis o1 o2 y1 y2 b f1 f2 l1 l2 b1 T
  ids:=λO z i U Z=>by
   have:∃w,g i=some w:=by
    rcases Xae U with ⟨I,j⟩ | ⟨I,j⟩
    subst j;exact Z.elim
    exact h.ids O z i j Z
   obtain⟨w,hw⟩:=this
   by_cases e:i=o
   subst e;exact⟨_,Xai _ _ _⟩
   exact⟨w,by rw[Xak e];exact hw⟩ }
 dom:=λi y hy=>by
  by_cases e:i=o
  subst e;exact⟨_,Xai _ _ _⟩
  exact⟨y,by rw[Xak e];exact hy⟩
section
variable{c:Cx}{s:St}
noncomputable def Yqi(tb:Nat->Option TI)(n t:Nat)(s:St): Option (List Kt×Env×Hpl×Nat×Nat×Nat×List D):=match runN tb n 1000 s with
 | .j _ K E H=>match look E t with
  | some (.own o sz 0 n)=>match look H o with
   | some (.arr h xs)=>match Nat.beq sz h with
    | true=>some (K,E,H,o,sz,n,xs)
    | false=>none
   | _=>none
  | _=>none
 | _=>none
theorem Og(t:Nat){K:List Kt}{E:Env}{H:Hpl}{o sz n:Nat}{xs:List D}(h:Yqi c.tb c.n t s=some (K,E,H,o,sz,n,xs))(hn:n=xs.length)(k:StP c (.j [] K ((t,.gr o sz xs)::E) ((o,.tok xs.length sz)::H))): StP c s:=by
 unfold Yqi at h
 split at h<;>try cases h
 rename_i hr
 split at h<;>try cases h
 rename_i he
 split at h<;>try cases h
 rename_i ho
 split at h<;>cases h
 rename_i hz
 have hz:=W0c hz
 subst hz;subst hn
 refine go 1000 hr ?_
 rintro a w ⟨s0,W,θ,hw,U,hθ,rfl⟩
 obtain⟨b,bs,T',r1,r2,r3,r4,r5,r6,r7⟩:=U.obs.r _ _ ho
 have st:=Stp.pub U.obs ho r1
 have M:=U.step0 st
 refine k a w ⟨_,W.pub b (xs.length*sz),θ,hw,?_,hθ,rfl⟩
 rw[show sem ((t,AV.gr o sz xs)::E) ((o,Ob.tok xs.length sz)::H)=(upd (look E) t (.gr o sz xs),upd (look H) o (.tok xs.length sz)) by rw[Xa4,Xa4]]
 refine⟨M.fm,⟨M.rel.defers,M.rel.size,λq v hq=>?_⟩,M.obs,λq v i hq hi=>?_⟩
 rcases Xae hq with ⟨V,I⟩ | ⟨V,I⟩
 subst V;subst I
 have hv:=U.rel.has q _ he
 obtain⟨b1,p,Z,v2,v3,e,v5⟩:=Xf1 hv
 rw[r1] at Z;injection Z with Z;subst Z
 rw[e]
 rw[W6j]
 refine Ygs rfl rfl (.inr (by rw[v5 (.inl rfl),W4y,r1];rfl)) r5 r4 (.inr ⟨b,r1,?_⟩)
 have T:∀q u,(bs.take (xs.length*sz))[q]?=some u->q<xs.length*sz/\bs[q]?=some u:=λq u O=>by
  rw[W1h] at O
  split at O
  exact⟨by assumption,O⟩
  cases O
 refine(AtL.mono (Xv2 W b _) (sz:=sz) (xs:=xs) (cs:=bs.take (xs.length*sz)) (AtL.ext r6 λq v hq hv=>by rw[W1h,if_pos hq];exact hv)).row λq u hq O=>?_
 rw[W1l]
 exact⟨show W.w.cell? _=_ by rw[Xbd r2];exact(T q u O).2,λhA=>by have:=hA.1 rfl;omega⟩
 exact M.rel.has q v I
 rcases Xae hq with ⟨V,I⟩ | ⟨V,I⟩
 subst I
 have hi:i=o:=hi
 subst hi
 exact⟨_,Xai _ _ _⟩
 exact M.ids q v i I hi
end
end Go.Vm
namespace Go.Proofs.YtnedfplmoojbaaaGreatDoor.R6
open Go Go.Vm Go.Num Go.Tow Go.Proofs.YtnedfplmoojbaaaGreatDoor
theorem Yh1{x y:Rat}{p q:Nat}(i:Qs p x)(j:Qs q y)(h:p+q+1<=8796093022208): C0 256 [.d (dts []),.d (dqs [x]),.d (dqs [y])] (·=.lit 4 [dq (x*y)]):=by
 refine En Tryz.func256 λ_ _ _=>?_
 exact Yes rfl rfl<|Dw rfl<|Ix 0 rfl (u:=dq x) rfl<|Ix 0 rfl (u:=dq y) rfl<|Ce rfl (R2.Mul_ok i j h)<|R0
theorem Yb5{k:Nat}(i:∀ {r s s':Nat} {t:Tw k} {a b:Tow.El k},TS r k t->Sz s (toL k a)->Sz s' (toL k b)->k<=16->s+s'+cB r k<=4398046511104->C0 256 [.d (dt t),.d (de a),.d (de b)] (·=.d (de (mul k t a b))))
 (ihk:∀ {r s s':Nat} {t:Tw k} {a b:Tow.El k},TS r k t->Sz s (toL k a)->Sz s' (toL k b)->k<=16->s+s'+cB r k<=4398046511104->C0 256 [.d (dt t),.d (de a),.d (de b)] (·=.lit 4 ((toL k (mul k t a b)).map dq))\/CG0 256 [.d (dt t),.d (de a),.d (de b)] 4 ((toL k (mul k t a b)).map dq))
 {r s s':Nat} {t:Tw (k+1)} {a b:Tow.El (k+1)} (j:TS r (k+1) t) (ha:Sz s (toL (k+1) a)) (hb:Sz s' (toL (k+1) b)) (hk:k+1<=16) (hs:s+s'+cB r (k+1)<=4398046511104):CG0 256 [.d (dt t),.d (de a),.d (de b)] 4 ((toL (k+1) (mul (k+1) t a b)).map dq):=by
 have hp:=p16 hk
 have hp1:2^(k+1)=2*2^k:=by rw[W0z];omega
 have h0:=W0p k
 have hcB:cB r (k+1)=2*cB r k+r+1:=rfl
 have M:Sz s (toL k a.1):=Sz.left ha
 have o:Sz s (toL k a.2):=Sz.right ha
 have O:Sz s' (toL k b.1):=Sz.left hb
 have I:Sz s' (toL k b.2):=Sz.right hb
 have h:=Xab k
 have L:=Xax k t.1
 have m1:a.2=zero k->toL (k+1) (mul (k+1) t a b)=toL k (mul k t.1 a.1 b.1)++toL k (mul k t.1 a.1 b.2):=λe=>by
  show toL k (Tow.add k _ (mul k t.1 (mul k t.1 a.2 b.2) t.2))++toL k (Tow.add k _ (mul k t.1 a.2 b.1))=_
  rw[e,L.zm,L.zm,L.zm,L.az,L.az]
 have m2:b.2=zero k->toL (k+1) (mul (k+1) t a b)=toL k (mul k t.1 a.1 b.1)++toL k (mul k t.1 a.2 b.1):=λe=>by
  show toL k (Tow.add k _ (mul k t.1 (mul k t.1 a.2 b.2) t.2))++toL k (Tow.add k (mul k t.1 a.1 b.2) _)=_
  rw[e,L.mz,L.zm,L.mz,L.az,L.za]
 have m12:a.2=zero k->b.2=zero k->toL (k+1) (mul (k+1) t a b)=toL k (mul k t.1 a.1 b.1)++toL k (zero k):=λe e2=>by rw[m1 e,e2,L.mz]
 have la:((toL k a.1++toL k a.2).map dq).length=2*2^k:=by rw[lq,W0i,h,h];omega
 have lb:((toL k b.1++toL k b.2).map dq).length=2*2^k:=by rw[lq,W0i,h,h];omega
 have ta:((toL k a.1++toL k a.2).map dq).take (2^k)=(toL k a.1).map dq:=by rw[<-W2f,<-h a.1,W7k]
 have V:((toL k a.1++toL k a.2).map dq).drop (2^k)=(toL k a.2).map dq:=by rw[<-W5i,<-h a.1,W8i]
 have tb:((toL k b.1++toL k b.2).map dq).take (2^k)=(toL k b.1).map dq:=by rw[<-W2f,<-h b.1,W7k]
 have Z:((toL k b.1++toL k b.2).map dq).drop (2^k)=(toL k b.2).map dq:=by rw[<-W5i,<-h b.1,W8i]
 have lt2:((toT k t.1++[toL k t.2]).map dqs).length=k+1:=by rw[lt',W0i,Xaa];rfl
 have tt:((toT k t.1++[toL k t.2]).map dqs).take k=(toT k t.1).map dqs:=by rw[<-W2f,W7f (Xaa k t.1)]
 have tu:((toT k t.1++[toL k t.2]).map dqs)[k]?=some (de t.2):=by rw[W2c,W0n (by rw[Xaa];exact W0a _),Xaa,W3a];rfl
 refine EnW Tryz.func256 λ_ _ _ _=>?_
 refine No rfl (by show ¬((((toT k t.1++[toL k t.2]).map dqs).length:Nat):Int)=0;omega)<|Ar (2^k:Nat) rfl ?_ (Ync la (by omega))
 refine Dw rfl<|Ar k rfl ?_ (wr (by show ((((toT k t.1++[toL k t.2]).map dqs).length:Nat):Int)-1=k;omega) (by simp only[inK];omega))
 refine Tk k ((toT k t.1).map dqs) rfl rfl (by show k<=((toT k t.1++[toL k t.2]).map dqs).length;omega) tt ?_
 refine Ar k rfl ?_ (wr (by show ((((toT k t.1++[toL k t.2]).map dqs).length:Nat):Int)-1=k;omega) (by simp only[inK];omega))
 refine Ix k rfl tu<|Dw rfl<|Dp (2^k) ((toL k a.2).map dq) rfl rfl (by show _<=((toL k a.1++toL k a.2).map dq).length;omega) V ?_
 refine Ce rfl (Zero_ok (l:=toL k a.2) (by rw[h];omega))<|Dp (2^k) ((toL k b.2).map dq) rfl rfl (by show _<=((toL k b.1++toL k b.2).map dq).length;omega) Z ?_
 refine Ce rfl (Zero_ok (l:=toL k b.2) (by rw[h];omega))<|Dw rfl<|Tk (2^k) ((toL k a.1).map dq) rfl rfl (by show _<=((toL k a.1++toL k a.2).map dq).length;omega) ta ?_
 refine Tk (2^k) ((toL k b.1).map dq) rfl rfl (by show _<=((toL k b.1++toL k b.2).map dq).length;omega) tb ?_
 rcases ihk j.1 M O (by omega) (by omega) with hc | hc
 refine Ce rfl hc<|By rfl (λU=>?_) λU=>?_
 have ea:=(Xam k a.2).2 U
 refine By rfl (λT=>?_) λT=>?_
 have eb:=(Xam k b.2).2 T
 refine Ce rfl (R2.FromInt_ok (z:=0) (by decide))<|Ce rfl (FromRat_ok (t:=toT k t.1) (x:=0) (by rw[Xaa];omega))<|ApL ((toL (k+1) (mul (k+1) t a b)).map dq) rfl (by rw[m12 ea eb,<-W2j,Xaa];congr 2;rw[Xbu,<-W4h,show 2^k-1+1=2^k by omega]) (by simp only[lq,W1j,W1o,h];omega) (by rw[lq,Xab];omega) ?_
 refine Og 6 rfl rfl ?_
 exact Rw [(62,1000000)] [(1000000,.tok ((toL (k+1) (mul (k+1) t a b)).map dq).length 4)] rfl (.one (.rf rfl) rfl rfl) ⟨_,rfl,rfl,rfl⟩
 refine Yes rfl U<|Dw rfl<|Tk (2^k) ((toL k a.1).map dq) rfl rfl (by show _<=((toL k a.1++toL k a.2).map dq).length;omega) ta ?_
 refine Dp (2^k) ((toL k b.2).map dq) rfl rfl (by show _<=((toL k b.1++toL k b.2).map dq).length;omega) Z ?_
 refine Ce rfl (i j.1 M I (by omega) (by omega))<|ApL ((toL (k+1) (mul (k+1) t a b)).map dq) rfl (by rw[m1 ea,<-W2j]) (by simp only[lq,W1j,W1o,h];omega) (by rw[lq,Xab];omega) ?_
 refine Og 6 rfl rfl ?_
 exact Rw [(73,1000000)] [(1000000,.tok ((toL (k+1) (mul (k+1) t a b)).map dq).length 4)] rfl (.one (.rf rfl) rfl rfl) ⟨_,rfl,rfl,rfl⟩
 refine No rfl U<|By rfl (λT=>?_) λT=>?_
 have eb:=(Xam k b.2).2 T
 refine Dw rfl<|Dp (2^k) ((toL k a.2).map dq) rfl rfl (by show _<=((toL k a.1++toL k a.2).map dq).length;omega) V ?_
 refine Tk (2^k) ((toL k b.1).map dq) rfl rfl (by show _<=((toL k b.1++toL k b.2).map dq).length;omega) tb ?_
 refine Ce rfl (i j.1 o O (by omega) (by omega))<|ApL ((toL (k+1) (mul (k+1) t a b)).map dq) rfl (by rw[m2 eb,<-W2j]) (by simp only[lq,W1j,W1o,h];omega) (by rw[lq,Xab];omega) ?_
 refine Og 6 rfl rfl ?_
 exact Rw [(84,1000000)] [(1000000,.tok ((toL (k+1) (mul (k+1) t a b)).map dq).length 4)] rfl (.one (.rf rfl) rfl rfl) ⟨_,rfl,rfl,rfl⟩
 refine Dw rfl<|Dp (2^k) ((toL k a.2).map dq) rfl rfl (by show _<=((toL k a.1++toL k a.2).map dq).length;omega) V ?_
 refine Dp (2^k) ((toL k b.2).map dq) rfl rfl (by show _<=((toL k b.1++toL k b.2).map dq).length;omega) Z ?_
 refine Ce rfl (i j.1 o I (by omega) (by omega))<|Ce rfl (i j.1 (o.mul j.1 I) j.2 (by omega) (by omega))<|Cg rfl (Add_ok (by rw[h,h]) (by rw[h];omega) (M.mul j.1 O).ps ((o.mul j.1 I).mul j.1 j.2).ps (by omega)) ?_
 refine Dw rfl<|Tk (2^k) ((toL k a.1).map dq) rfl rfl (by show _<=((toL k a.1++toL k a.2).map dq).length;omega) ta ?_
 refine Dp (2^k) ((toL k b.2).map dq) rfl rfl (by show _<=((toL k b.1++toL k b.2).map dq).length;omega) Z ?_
 refine Ce rfl (i j.1 M I (by omega) (by omega))<|Dp (2^k) ((toL k a.2).map dq) rfl rfl (by show _<=((toL k a.1++toL k a.2).map dq).length;omega) V ?_
 refine Tk (2^k) ((toL k b.1).map dq) rfl rfl (by show _<=((toL k b.1++toL k b.2).map dq).length;omega) tb ?_
 refine Ce rfl (i j.1 o O (by omega) (by omega))<|Ce rfl (Add_el (by omega) (M.mul j.1 I).ps (o.mul j.1 O).ps (by omega))<|ApG ((toL (k+1) (mul (k+1) t a b)).map dq) rfl (by rw[<-W2j,<-Xa0];rfl) (by rw[lq,Xab];omega) ?_
 exact Rw [(118,1000000)] [(1000000,.tok ((toL (k+1) (mul (k+1) t a b)).map dq).length 4)] rfl (.one (.rf rfl) rfl rfl) ⟨_,rfl,rfl,rfl⟩
 refine Cg rfl hc ?_
 refine By rfl (λU=>?_) λU=>?_
 have ea:=(Xam k a.2).2 U
 refine By rfl (λT=>?_) λT=>?_
 have eb:=(Xam k b.2).2 T
 refine Ce rfl (R2.FromInt_ok (z:=0) (by decide))<|Ce rfl (FromRat_ok (t:=toT k t.1) (x:=0) (by rw[Xaa];omega))<|ApG ((toL (k+1) (mul (k+1) t a b)).map dq) rfl (by rw[m12 ea eb,<-W2j,Xaa];congr 2;rw[Xbu,<-W4h,show 2^k-1+1=2^k by omega]) (by rw[lq,Xab];omega) ?_
 exact Rw [(62,1000000)] [(1000000,.tok ((toL (k+1) (mul (k+1) t a b)).map dq).length 4)] rfl (.one (.rf rfl) rfl rfl) ⟨_,rfl,rfl,rfl⟩
 refine Yes rfl U<|Dw rfl<|Tk (2^k) ((toL k a.1).map dq) rfl rfl (by show _<=((toL k a.1++toL k a.2).map dq).length;omega) ta ?_
 refine Dp (2^k) ((toL k b.2).map dq) rfl rfl (by show _<=((toL k b.1++toL k b.2).map dq).length;omega) Z ?_
 refine Ce rfl (i j.1 M I (by omega) (by omega))<|ApG ((toL (k+1) (mul (k+1) t a b)).map dq) rfl (by rw[m1 ea,<-W2j]) (by rw[lq,Xab];omega) ?_
 exact Rw [(73,1000000)] [(1000000,.tok ((toL (k+1) (mul (k+1) t a b)).map dq).length 4)] rfl (.one (.rf rfl) rfl rfl) ⟨_,rfl,rfl,rfl⟩
 refine No rfl U<|By rfl (λT=>?_) λT=>?_
 have eb:=(Xam k b.2).2 T
 refine Dw rfl<|Dp (2^k) ((toL k a.2).map dq) rfl rfl (by show _<=((toL k a.1++toL k a.2).map dq).length;omega) V ?_
 refine Tk (2^k) ((toL k b.1).map dq) rfl rfl (by show _<=((toL k b.1++toL k b.2).map dq).length;omega) tb ?_
 refine Ce rfl (i j.1 o O (by omega) (by omega))<|ApG ((toL (k+1) (mul (k+1) t a b)).map dq) rfl (by rw[m2 eb,<-W2j]) (by rw[lq,Xab];omega) ?_
 exact Rw [(84,1000000)] [(1000000,.tok ((toL (k+1) (mul (k+1) t a b)).map dq).length 4)] rfl (.one (.rf rfl) rfl rfl) ⟨_,rfl,rfl,rfl⟩
 refine Dw rfl<|Dp (2^k) ((toL k a.2).map dq) rfl rfl (by show _<=((toL k a.1++toL k a.2).map dq).length;omega) V ?_
 refine Dp (2^k) ((toL k b.2).map dq) rfl rfl (by show _<=((toL k b.1++toL k b.2).map dq).length;omega) Z ?_
 refine Ce rfl (i j.1 o I (by omega) (by omega))<|Ce rfl (i j.1 (o.mul j.1 I) j.2 (by omega) (by omega))<|Cg rfl (Add_ok (by rw[h,h]) (by rw[h];omega) (M.mul j.1 O).ps ((o.mul j.1 I).mul j.1 j.2).ps (by omega)) ?_
 refine Dw rfl<|Tk (2^k) ((toL k a.1).map dq) rfl rfl (by show _<=((toL k a.1++toL k a.2).map dq).length;omega) ta ?_
 refine Dp (2^k) ((toL k b.2).map dq) rfl rfl (by show _<=((toL k b.1++toL k b.2).map dq).length;omega) Z ?_
 refine Ce rfl (i j.1 M I (by omega) (by omega))<|Dp (2^k) ((toL k a.2).map dq) rfl rfl (by show _<=((toL k a.1++toL k a.2).map dq).length;omega) V ?_
 refine Tk (2^k) ((toL k b.1).map dq) rfl rfl (by show _<=((toL k b.1++toL k b.2).map dq).length;omega) tb ?_
 refine Ce rfl (i j.1 o O (by omega) (by omega))<|Ce rfl (Add_el (by omega) (M.mul j.1 I).ps (o.mul j.1 O).ps (by omega))<|ApG ((toL (k+1) (mul (k+1) t a b)).map dq) rfl (by rw[<-W2j,<-Xa0];rfl) (by rw[lq,Xab];omega) ?_
 exact Rw [(118,1000000)] [(1000000,.tok ((toL (k+1) (mul (k+1) t a b)).map dq).length 4)] rfl (.one (.rf rfl) rfl rfl) ⟨_,rfl,rfl,rfl⟩
theorem Xs4: ∀ {k:Nat} {r s s':Nat} {t:Tw k} {a b:Tow.El k},TS r k t->Sz s (toL k a)->Sz s' (toL k b)->k<=16->s+s'+cB r k<=4398046511104->C0 256 [.d (dt t),.d (de a),.d (de b)] (·=.lit 4 ((toL k (mul k t a b)).map dq))\/CG0 256 [.d (dt t),.d (de a),.d (de b)] 4 ((toL k (mul k t a b)).map dq):=by
 intro k
 induction k with
 | zero=>intro r s s' t a b i ha hb j o;exact .inl (Yh1 (ha.qs (W0g.2 rfl)) (hb.qs (W0g.2 rfl)) (by omega))
 | succ k I=>intro r s s' t a b i ha hb j o;exact .inr (Yb5 (λi ha hb j o=>(I i ha hb j o).elim C.lit (λh=>CG.data h)) I i ha hb j o)
theorem Mul_el{k r s s':Nat}{t:Tw k}{a b:Tow.El k}(i:TS r k t)(ha:Sz s (toL k a))(hb:Sz s' (toL k b))(j:k<=16)(o:s+s'+cB r k<=4398046511104): C0 256 [.d (dt t),.d (de a),.d (de b)] (·=.d (de (mul k t a b))):=(Xs4 i ha hb j o).elim C.lit (λh=>CG.data h)
end Go.Proofs.YtnedfplmoojbaaaGreatDoor.R6
namespace Go.Tow
section
inductive Pe where
 | v (i:Nat)
 | z
 | o
 | add (a b:Pe)
 | mul (a b:Pe)
 | neg (a:Pe)
abbrev Xqf:=List (Bool×List Nat)
def ltM: List Nat->List Nat->Bool
 | [],[]=>false
 | [],_::_=>true
 | _::_,[]=>false
 | a::r,b::s=>match Nat.blt a b with
  | true=>true
  | false=>match Nat.beq a b with
   | true=>ltM r s
   | false=>false
def Yk1(i:Nat): List Nat->List Nat
 | []=>[i]
 | j::r=>match Nat.ble i j with
  | true=>i::j::r
  | false=>j::Yk1 i r
def Ygl(t:Bool×List Nat): Xqf->Xqf
 | []=>[t]
 | h::r=>if t.2=h.2 then (if t.1=h.1 then t::h::r else r) else match ltM t.2 h.2 with
  | true=>t::h::r
  | false=>h::Ygl t r
def Yfz(m n:List Nat): List Nat:=m.foldr Yk1 n
def Ymr(p q:Xqf): Xqf:=p.foldr Ygl q
def Yid(t:Bool×List Nat)(q acc:Xqf): Xqf:=q.foldr (λu a=>Ygl (t.1 != u.1,Yfz t.2 u.2) a) acc
def Ykj(p q:Xqf): Xqf:=p.foldr (λt acc=>Yid t q acc) []
def nrm: Pe->Xqf
 | .v i=>[(false,[i])]
 | .z=>[]
 | .o=>[(false,[])]
 | .add a b=>Ymr (nrm a) (nrm b)
 | .mul a b=>Ykj (nrm a) (nrm b)
 | .neg a=>(nrm a).map λt=>(!t.1,t.2)
def Laws.ev{α:Type}{add mul:α->α->α}{neg:α->α}{zero one:α}(L:Laws add mul neg zero one)(xs:List α): Pe->α
 | .v i=>xs.getD i zero
 | .z=>zero
 | .o=>one
 | .add a b=>add (Laws.ev L xs a) (Laws.ev L xs b)
 | .mul a b=>mul (Laws.ev L xs a) (Laws.ev L xs b)
 | .neg a=>neg (Laws.ev L xs a)
def Laws.eM{α:Type}{add mul:α->α->α}{neg:α->α}{zero one:α}(L:Laws add mul neg zero one)(xs:List α): List Nat->α
 | []=>one
 | i::r=>mul (xs.getD i zero) (Laws.eM L xs r)
def Laws.eT{α:Type}{add mul:α->α->α}{neg:α->α}{zero one:α}(L:Laws add mul neg zero one)(xs:List α)(t:Bool×List Nat): α:=match t.1 with
 | true=>neg (L.eM xs t.2)
 | false=>L.eM xs t.2
def Laws.eP{α:Type}{add mul:α->α->α}{neg:α->α}{zero one:α}(L:Laws add mul neg zero one)(xs:List α): Xqf->α
 | []=>zero
 | t::r=>add (L.eT xs t) (Laws.eP L xs r)
section
variable{α:Type}{add mul:α->α->α}{neg:α->α}{zero one:α}(L:Laws add mul neg zero one)(xs:List α)
include L
theorem Laws.eM_ins(i:Nat)(m:List Nat): L.eM xs (Yk1 i m)=mul (xs.getD i zero) (L.eM xs m):=by
 induction m with
 | nil=>rfl
 | cons j r h =>
  simp only[Yk1]
  split
  rfl
  simp only[eM];rw[h,L.mlc]
theorem Laws.eM_mul(m n:List Nat): L.eM xs (Yfz m n)=mul (L.eM xs m) (L.eM xs n):=by
 induction m with
 | nil=>simp only[Yfz,W8j,eM,L.om]
 | cons i m h =>
  have:Yfz (i::m) n=Yk1 i (Yfz m n):=rfl
  rw[this,L.eM_ins,h,<-L.ma];rfl
theorem Laws.eP_ins(t:Bool×List Nat)(p:Xqf): L.eP xs (Ygl t p)=add (L.eT xs t) (L.eP xs p):=by
 induction p with
 | nil=>rfl
 | cons h r j =>
  simp only[Ygl]
  split
  . rename_i o
    split
    rfl
    . rename_i I
      obtain⟨s,m⟩:=t
      obtain⟨s',M⟩:=h
      have i:m=M:=o
      subst i
      cases s<;>cases s'<;>first | exact absurd rfl I | skip
      simp only[eP,eT];rw[<-L.aa,L.an,L.za]
      simp only[eP,eT];rw[<-L.aa,L.na,L.za]
  split
  rfl
  simp only[eP];rw[j,L.alc]
theorem Laws.eP_add(p q:Xqf): L.eP xs (Ymr p q)=add (L.eP xs p) (L.eP xs q):=by
 induction p with
 | nil=>simp only[Ymr,W8j,eP,L.za]
 | cons t p h =>
  have:Ymr (t::p) q=Ygl t (Ymr p q):=rfl
  rw[this,L.eP_ins,h];simp only[eP];rw[L.aa]
theorem Laws.eT_mul(t u:Bool×List Nat): L.eT xs (t.1 != u.1,Yfz t.2 u.2)=mul (L.eT xs t) (L.eT xs u):=by
 obtain⟨s,m⟩:=t
 obtain⟨s',h⟩:=u
 cases s<;>cases s'<;>simp[eT,L.eM_mul,L.mn,L.nm,L.nn]
theorem Laws.eP_mulT(t:Bool×List Nat)(q acc:Xqf): L.eP xs (Yid t q acc)=add (mul (L.eT xs t) (L.eP xs q)) (L.eP xs acc):=by
 induction q with
 | nil=>simp only[Yid,W8j,eP,L.mz,L.za]
 | cons u q h =>
  have:Yid t (u::q) acc=Ygl (t.1 != u.1,Yfz t.2 u.2) (Yid t q acc):=rfl
  rw[this,L.eP_ins,h,L.eT_mul];simp only[eP];rw[L.md,L.aa]
theorem Laws.eP_mul(p q:Xqf): L.eP xs (Ykj p q)=mul (L.eP xs p) (L.eP xs q):=by
 induction p with
 | nil=>simp only[Ykj,W8j,eP,L.zm]
 | cons t p h =>
  have:Ykj (t::p) q=Yid t q (Ykj p q):=rfl
  rw[this,L.eP_mulT,h];simp only[eP];rw[L.dm]
theorem Laws.eP_neg(p:Xqf): L.eP xs (p.map λt=>(!t.1,t.2))=neg (L.eP xs p):=by
 induction p with
 | nil=>simp only[List.map_nil,eP,L.nz]
 | cons t p h =>
  obtain⟨s,m⟩:=t
  simp only[W5a,eP,L.nd,h]
  cases s<;>simp[eT,L.nn]
theorem Laws.ev_nrm(e:Pe): L.ev xs e=L.eP xs (nrm e):=by
 induction e with
 | v i=>simp only[nrm,ev,eP,eT,eM,L.mo,L.az]
 | z=>rfl
 | o=>simp only[nrm,ev,eP,eT,eM,L.az]
 | add a b ha hb=>simp only[nrm,ev,L.eP_add,ha,hb]
 | mul a b ha hb=>simp only[nrm,ev,L.eP_mul,ha,hb]
 | neg a ha=>simp only[nrm,ev,L.eP_neg,ha]
theorem Laws.req(a b:Pe)(h:nrm a=nrm b): L.ev xs a=L.ev xs b:=by rw[L.ev_nrm,L.ev_nrm,h]
end
end
section
structure Sgn {α:Type} (add mul:α->α->α) (neg:α->α) (one:α) (σ:α->Int):Prop where
 tri:∀a,σ a=1\/σ a=0\/σ a=-1
 sn:∀a,σ (neg a)=- σ a
 sm:∀a b,σ (mul a b)=σ a*σ b
 sa:∀a b,0<=σ a->0<=σ b->0<=σ (add a b)
 sp:∀a b,σ a=1->0<=σ b->σ (add a b)=1
 s1:σ one=1
theorem Xei{X:Int}(h:X=1\/X=0\/X=-1): 0<=X*X/\(X≠0->X*X=1)/\(X=0->X*X=0):=by
 rcases h with rfl | rfl | rfl<;>decide
section
variable{α:Type}{add mul:α->α->α}{neg:α->α}{zero one:α}{σ:α->Int}(L:Laws add mul neg zero one)(S:Sgn add mul neg one σ)
include L S
theorem Sgn.s0: σ zero=0:=by
 have:=S.sn zero
 rw[L.nz] at this
 omega
theorem Sgn.add0{a b:α}(ha:σ a=0): σ (add a b)=σ b:=by
 rcases S.tri b with hb | hb | hb
 rw[hb,L.ac];exact S.sp b a hb (by omega)
 have i:=S.sa a b (by omega) (by omega)
 have h:=S.sa (neg a) (neg b) (by rw[S.sn];omega) (by rw[S.sn];omega)
 rw[<-L.nd,S.sn] at h
 omega
 have h:=S.sp (neg b) (neg a) (by rw[S.sn];omega) (by rw[S.sn];omega)
 rw[L.ac,<-L.nd,S.sn] at h
 omega
theorem Sgn.add0'{a b:α}(hb:σ b=0): σ (add a b)=σ a:=by rw[L.ac,S.add0 L hb]
theorem Sgn.np{a b:α}(ha:σ a=-1)(hb:σ b<=0): σ (add a b)=-1:=by
 have h:=S.sp (neg a) (neg b) (by rw[S.sn];omega) (by rw[S.sn];omega)
 rw[<-L.nd,S.sn] at h
 omega
theorem Sgn.same{a b:α}(h:σ a=σ b): σ (add a b)=σ a:=by
 rcases S.tri a with ha | ha | ha
 rw[ha];exact S.sp a b ha (by omega)
 rw[S.add0 L ha,<-h]
 rw[ha];exact S.np L ha (by omega)
theorem Sgn.eqv{a b:α}(h:σ (add a (neg b))=0): σ a=σ b:=by
 have e:a=add (add a (neg b)) b:=(Laws.req L [a,b] (.v 0) (.add (.add (.v 0) (.neg (.v 1))) (.v 1)) (by decide +kernel))
 rw[e,S.add0 L h]
theorem Sgn.dom{a b:α}(h:σ (add (mul a a) (neg (mul b b)))=1): σ (add a b)=σ a:=by
 have e:add (mul a a) (neg (mul b b))=mul (add a b) (add a (neg b)):=(Laws.req L [a,b] (.add (.mul (.v 0) (.v 0)) (.neg (.mul (.v 1) (.v 1)))) (.mul (.add (.v 0) (.v 1)) (.add (.v 0) (.neg (.v 1)))) (by decide +kernel))
 have I:add a a=add (add a b) (add a (neg b)):=(Laws.req L [a,b] (.add (.v 0) (.v 0)) (.add (.add (.v 0) (.v 1)) (.add (.v 0) (.neg (.v 1)))) (by decide +kernel))
 rw[e,S.sm] at h
 have j:σ (add a a)=σ a:=S.same L rfl
 rw[I] at j
 rcases S.tri (add a b) with i | i | i<;>rcases S.tri (add a (neg b)) with o | o | o<;>rw[i,o] at h<;>first | (exact absurd h (by decide)) | skip
 rw[<-j,i];exact(S.sp _ _ i (by omega)).symm
 rw[<-j,i];exact(S.np L i (by omega)).symm
theorem Sgn.dom0{a b:α}(h:σ (add (mul a a) (neg (mul b b)))=0): σ (add a b)=Int.sign (σ a+σ b):=by
 have e:add (mul a a) (neg (mul b b))=mul (add a b) (add a (neg b)):=(Laws.req L [a,b] (.add (.mul (.v 0) (.v 0)) (.neg (.mul (.v 1) (.v 1)))) (.mul (.add (.v 0) (.v 1)) (.add (.v 0) (.neg (.v 1)))) (by decide +kernel))
 rw[e,S.sm] at h
 rcases W8c.1 h with i | i
 have o:a=add (add a b) (neg b):=(Laws.req L [a,b] (.v 0) (.add (.add (.v 0) (.v 1)) (.neg (.v 1))) (by decide +kernel))
 have j:σ a=- σ b:=by
  conv=>lhs;rw[o]
  rw[S.add0 L i,S.sn]
 rw[i,j,show -σ b+σ b=0 by omega];rfl
 have j:=S.eqv L i
 rw[S.same L j,<-j]
 rcases S.tri a with ha | ha | ha<;>rw[ha]<;>rfl
end
def Laws.nP{α:Type}{add mul:α->α->α}{neg:α->α}{zero one:α}(L:Laws add mul neg zero one)(d:α)(p:α×α): α:=add (mul p.1 p.1) (neg (mul (mul p.2 p.2) d))
def Laws.mQ{α:Type}{add mul:α->α->α}{neg:α->α}{zero one:α}(L:Laws add mul neg zero one)(d:α)(p q:α×α): α×α:=(add (mul p.1 q.1) (mul (mul p.2 q.2) d),add (mul p.1 q.2) (mul p.2 q.1))
def Laws.aQ{α:Type}{add mul:α->α->α}{neg:α->α}{zero one:α}(L:Laws add mul neg zero one)(p q:α×α): α×α:=(add p.1 q.1,add p.2 q.2)
def Laws.gQ{α:Type}{add mul:α->α->α}{neg:α->α}{zero one:α}(L:Laws add mul neg zero one)(p:α×α): α×α:=(neg p.1,neg p.2)
def Laws.sx{α:Type}{add mul:α->α->α}{neg:α->α}{zero one:α}(L:Laws add mul neg zero one)(d:α)(σ:α->Int)(p:α×α): Int :=
 if σ p.2=0\/σ p.1=σ p.2 then σ p.1 else if σ p.1=0 then σ p.2 else σ p.1*σ (L.nP d p)
theorem Yi5{X Y h:Int}(i:X=1\/X=0\/X=-1)(j:Y=1\/Y=0\/Y=-1)(o:h=1\/h=0\/h=-1)(I:X=0->h=-(Y*Y))(M:Y=0->h=X*X):
 (if Y=0\/X=Y then X else if X=0 then Y else X*h)=if h=1 then X else if h=-1 then Y else Int.sign (X+Y):=by
 rcases i with rfl | rfl | rfl<;>rcases j with rfl | rfl | rfl<;>rcases o with rfl | rfl | rfl <;>
  first | rfl | (exact absurd (I rfl) (by decide)) | (exact absurd (M rfl) (by decide)) | decide
section
variable{α:Type}{add mul:α->α->α}{neg:α->α}{zero one d:α}{σ:α->Int}(L:Laws add mul neg zero one)(S:Sgn add mul neg one σ)(hd:σ d=1)
include L S hd
theorem Sgn.n0x{p:α×α}(h:σ p.1=0): σ (L.nP d p)=-(σ p.2*σ p.2):=by
 unfold Laws.nP
 rw[S.add0 L (by rw[S.sm,h];rfl),S.sn,S.sm,S.sm,hd,W4c]
theorem Sgn.n0y{p:α×α}(h:σ p.2=0): σ (L.nP d p)=σ p.1*σ p.1:=by
 have _u:=hd
 unfold Laws.nP
 rw[S.add0' L (by rw[S.sn,S.sm,S.sm,h];simp),S.sm]
theorem Sgn.sx_eq(p:α×α): L.sx d σ p=if σ (L.nP d p)=1 then σ p.1 else if σ (L.nP d p)=-1 then σ p.2 else Int.sign (σ p.1+σ p.2) :=
 Yi5 (S.tri _) (S.tri _) (S.tri _) (S.n0x L hd) (S.n0y L hd)
theorem Sgn.sx1{p:α×α}(h:σ (L.nP d p)=1): L.sx d σ p=σ p.1/\σ p.1≠0:=by
 refine⟨by rw[S.sx_eq L hd,if_pos h],λh0=>?_⟩
 have i:=S.n0x L hd h0
 have:=(Xei (S.tri p.2)).1
 omega
theorem Sgn.sxm{p:α×α}(h:σ (L.nP d p)=-1): L.sx d σ p=σ p.2/\σ p.2≠0:=by
 refine⟨by rw[S.sx_eq L hd,if_neg (by omega),if_pos h],λh0=>?_⟩
 have i:=S.n0y L hd h0
 have:=(Xei (S.tri p.1)).1
 omega
theorem Sgn.sxz{p:α×α}(h:σ (L.nP d p)=0): L.sx d σ p=Int.sign (σ p.1+σ p.2)/\(σ p.1=0↔σ p.2=0):=by
 refine⟨by rw[S.sx_eq L hd,if_neg (by omega),if_neg (by omega)],λh0=>?_,λh0=>?_⟩
 have o:=S.n0x L hd h0
 have i:=(Xei (S.tri p.2)).2.1
 exact W0t λj=>by have:=i j;omega
 have o:=S.n0y L hd h0
 have i:=(Xei (S.tri p.1)).2.1
 exact W0t λj=>by have:=i j;omega
theorem Sgn.sd(z:α): σ (mul d z)=σ z:=by
 have _u:=L
 rw[S.sm,hd,W3e]
theorem Sgn.mul_core(p q:α×α)(h:σ (L.nP d q)=0->σ (L.nP d p)=0): L.sx d σ (L.mQ d p q)=L.sx d σ p*L.sx d σ q:=by
 obtain⟨i,I⟩:=p
 obtain⟨j,o⟩:=q
 have hN:σ (L.nP d (L.mQ d (i,I) (j,o)))=σ (L.nP d (i,I))*σ (L.nP d (j,o)):=by
  rw[<-S.sm];congr 1
  exact(Laws.req L [i,I,j,o,d] (.add (.mul (.add (.mul (.v 0) (.v 2)) (.mul (.mul (.v 1) (.v 3)) (.v 4))) (.add (.mul (.v 0) (.v 2)) (.mul (.mul (.v 1) (.v 3)) (.v 4)))) (.neg (.mul (.mul (.add (.mul (.v 0) (.v 3)) (.mul (.v 1) (.v 2))) (.add (.mul (.v 0) (.v 3)) (.mul (.v 1) (.v 2)))) (.v 4)))) (.mul (.add (.mul (.v 0) (.v 0)) (.neg (.mul (.mul (.v 1) (.v 1)) (.v 4)))) (.add (.mul (.v 2) (.v 2)) (.neg (.mul (.mul (.v 3) (.v 3)) (.v 4))))) (by decide +kernel))
 have eX:∀n1 U,n1=L.nP d (i,I)->U=L.nP d (j,o)->add (mul (mul i j) (mul i j)) (neg (mul (mul (mul I o) d) (mul (mul I o) d)))=add (add (mul (mul i i) U) (mul (mul j j) n1)) (neg (mul n1 U)):=by
  rintro _ _ rfl rfl
  exact(Laws.req L [i,I,j,o,d] (.add (.mul (.mul (.v 0) (.v 2)) (.mul (.v 0) (.v 2))) (.neg (.mul (.mul (.mul (.v 1) (.v 3)) (.v 4)) (.mul (.mul (.v 1) (.v 3)) (.v 4))))) (.add (.add (.mul (.mul (.v 0) (.v 0)) (.add (.mul (.v 2) (.v 2)) (.neg (.mul (.mul (.v 3) (.v 3)) (.v 4))))) (.mul (.mul (.v 2) (.v 2)) (.add (.mul (.v 0) (.v 0)) (.neg (.mul (.mul (.v 1) (.v 1)) (.v 4)))))) (.neg (.mul (.add (.mul (.v 0) (.v 0)) (.neg (.mul (.mul (.v 1) (.v 1)) (.v 4)))) (.add (.mul (.v 2) (.v 2)) (.neg (.mul (.mul (.v 3) (.v 3)) (.v 4))))))) (by decide +kernel))
 have eX2:∀n1 U,n1=L.nP d (i,I)->U=L.nP d (j,o)->add (mul (mul i j) (mul i j)) (neg (mul (mul (mul I o) d) (mul (mul I o) d)))=add (mul (mul i i) U) (mul (mul d (mul o o)) n1):=by
  rintro _ _ rfl rfl
  exact(Laws.req L [i,I,j,o,d] (.add (.mul (.mul (.v 0) (.v 2)) (.mul (.v 0) (.v 2))) (.neg (.mul (.mul (.mul (.v 1) (.v 3)) (.v 4)) (.mul (.mul (.v 1) (.v 3)) (.v 4))))) (.add (.mul (.mul (.v 0) (.v 0)) (.add (.mul (.v 2) (.v 2)) (.neg (.mul (.mul (.v 3) (.v 3)) (.v 4))))) (.mul (.mul (.v 4) (.mul (.v 3) (.v 3))) (.add (.mul (.v 0) (.v 0)) (.neg (.mul (.mul (.v 1) (.v 1)) (.v 4)))))) (by decide +kernel))
 have eXr:∀n1 U,n1=L.nP d (i,I)->U=L.nP d (j,o)->add (mul (mul (mul I o) d) (mul (mul I o) d)) (neg (mul (mul i j) (mul i j)))=add (add (neg (mul (mul i i) U)) (neg (mul (mul j j) n1))) (mul n1 U):=by
  rintro _ _ rfl rfl
  exact(Laws.req L [i,I,j,o,d] (.add (.mul (.mul (.mul (.v 1) (.v 3)) (.v 4)) (.mul (.mul (.v 1) (.v 3)) (.v 4))) (.neg (.mul (.mul (.v 0) (.v 2)) (.mul (.v 0) (.v 2))))) (.add (.add (.neg (.mul (.mul (.v 0) (.v 0)) (.add (.mul (.v 2) (.v 2)) (.neg (.mul (.mul (.v 3) (.v 3)) (.v 4)))))) (.neg (.mul (.mul (.v 2) (.v 2)) (.add (.mul (.v 0) (.v 0)) (.neg (.mul (.mul (.v 1) (.v 1)) (.v 4))))))) (.mul (.add (.mul (.v 0) (.v 0)) (.neg (.mul (.mul (.v 1) (.v 1)) (.v 4)))) (.add (.mul (.v 2) (.v 2)) (.neg (.mul (.mul (.v 3) (.v 3)) (.v 4)))))) (by decide +kernel))
 have eY:∀n1 U,n1=L.nP d (i,I)->U=L.nP d (j,o)->mul d (add (mul (mul i o) (mul i o)) (neg (mul (mul I j) (mul I j))))=add (neg (mul (mul i i) U)) (mul (mul j j) n1):=by
  rintro _ _ rfl rfl
  exact(Laws.req L [i,I,j,o,d] (.mul (.v 4) (.add (.mul (.mul (.v 0) (.v 3)) (.mul (.v 0) (.v 3))) (.neg (.mul (.mul (.v 1) (.v 2)) (.mul (.v 1) (.v 2)))))) (.add (.neg (.mul (.mul (.v 0) (.v 0)) (.add (.mul (.v 2) (.v 2)) (.neg (.mul (.mul (.v 3) (.v 3)) (.v 4)))))) (.mul (.mul (.v 2) (.v 2)) (.add (.mul (.v 0) (.v 0)) (.neg (.mul (.mul (.v 1) (.v 1)) (.v 4)))))) (by decide +kernel))
 have eYr:∀n1 U,n1=L.nP d (i,I)->U=L.nP d (j,o)->mul d (add (mul (mul I j) (mul I j)) (neg (mul (mul i o) (mul i o))))=add (neg (mul (mul j j) n1)) (mul (mul i i) U):=by
  rintro _ _ rfl rfl
  exact(Laws.req L [i,I,j,o,d] (.mul (.v 4) (.add (.mul (.mul (.v 1) (.v 2)) (.mul (.v 1) (.v 2))) (.neg (.mul (.mul (.v 0) (.v 3)) (.mul (.v 0) (.v 3)))))) (.add (.neg (.mul (.mul (.v 2) (.v 2)) (.add (.mul (.v 0) (.v 0)) (.neg (.mul (.mul (.v 1) (.v 1)) (.v 4)))))) (.mul (.mul (.v 0) (.v 0)) (.add (.mul (.v 2) (.v 2)) (.neg (.mul (.mul (.v 3) (.v 3)) (.v 4)))))) (by decide +kernel))
 have eX:=eX _ _ rfl rfl
 have eX2:=eX2 _ _ rfl rfl
 have eXr:=eXr _ _ rfl rfl
 have eY:=eY _ _ rfl rfl
 have eYr:=eYr _ _ rfl rfl
 have Sx:=@Sgn.sx1 _ _ _ _ _ _ d σ L S hd
 have Sm:=@Sgn.sxm _ _ _ _ _ _ d σ L S hd
 have Sz:=@Sgn.sxz _ _ _ _ _ _ d σ L S hd
 have ta1:=S.tri i
 have tb1:=S.tri I
 have ta2:=S.tri j
 have tb2:=S.tri o
 have sA:σ (mul (mul i i) (L.nP d (j,o)))=σ i*σ i*σ (L.nP d (j,o)):=by rw[S.sm,S.sm]
 have sB:σ (mul (mul j j) (L.nP d (i,I)))=σ j*σ j*σ (L.nP d (i,I)):=by rw[S.sm,S.sm]
 have sC:σ (mul (L.nP d (i,I)) (L.nP d (j,o)))=σ (L.nP d (i,I))*σ (L.nP d (j,o)):=S.sm _ _
 have sD:σ (mul (mul d (mul o o)) (L.nP d (i,I)))=σ o*σ o*σ (L.nP d (i,I)):=by rw[S.sm,S.sd L hd,S.sm]
 have sb:σ (mul (mul I o) d)=σ I*σ o:=by rw[S.sm,S.sm,hd,W4c]
 have T:=Xei ta1
 have qa2:=Xei ta2
 have qb2:=Xei tb2
 rcases S.tri (L.nP d (i,I)) with h1 | h1 | h1<;>rcases S.tri (L.nP d (j,o)) with h2 | h2 | h2<;>simp only[h1,h2,W4c,Int.mul_zero,Int.mul_neg] at sA sB sC sD hN
 obtain⟨Z,M⟩:=Sx h1
 obtain⟨k2,V⟩:=Sx h2
 have M:σ i≠0:=M
 have:=S.dom L (a:=mul i j) (b:=mul (mul I o) d) (by rw[eX2];exact S.sp _ _ (by rw[sA,T.2.1 M]) (by rw[sD];exact qb2.1))
 rw[(Sx hN).1,Z,k2]
 show σ (add (mul i j) (mul (mul I o) d))=σ i*σ j
 rw[this,S.sm]
 exact absurd (h h2) (by omega)
 obtain⟨Z,M⟩:=Sx h1
 obtain⟨k2,V⟩:=Sm h2
 have M:σ i≠0:=M
 have V:σ o≠0:=V
 have:=S.dom L (a:=mul i o) (b:=mul I j) (by rw[<-S.sd L hd,eY];exact S.sp _ _ (by rw[S.sn,sA,T.2.1 M];rfl) (by rw[sB];exact qa2.1))
 rw[(Sm hN).1,Z,k2]
 show σ (add (mul i o) (mul I j))=σ i*σ o
 rw[this,S.sm]
 obtain⟨Z,e1⟩:=Sz h1
 obtain⟨k2,V⟩:=Sx h2
 have V:σ j≠0:=V
 have e1:σ i=0↔σ I=0:=e1
 rw[(Sz hN).1,Z,k2]
 show Int.sign (σ (add (mul i j) (mul (mul I o) d))+σ (add (mul i o) (mul I j)))=Int.sign (σ i+σ I)*σ j
 by_cases M:σ i=0
 have zb:=e1.1 M
 rw[S.add0 L (by rw[S.sm,M,W5r]),S.add0 L (by rw[S.sm,M,W5r]),sb,S.sm,M,zb,W5r,W5r];simp
 have g1:=S.dom L (a:=mul i j) (b:=mul (mul I o) d) (by rw[eX];exact S.sp _ _ (S.sp _ _ (by rw[sA,T.2.1 M]) (by rw[sB];exact W7p _)) (by rw[S.sn,sC];decide))
 have g2:=S.dom L (a:=mul I j) (b:=mul i o) (by rw[<-S.sd L hd,eYr,L.ac];exact S.sp _ _ (by rw[sA,T.2.1 M]) (by rw[S.sn,sB];decide))
 rw[g1,L.ac (mul i o),g2,S.sm,S.sm]
 have zb:σ I≠0:=λh=>M (e1.2 h)
 revert M V zb
 rcases ta1 with h | h | h<;>rcases tb1 with h' | h' | h'<;>rcases ta2 with O | O | O<;>rw[h,h',O]<;>decide
 obtain⟨Z,e1⟩:=Sz h1
 obtain⟨k2,e2⟩:=Sz h2
 have e1:σ i=0↔σ I=0:=e1
 have e2:σ j=0↔σ o=0:=e2
 rw[(Sz hN).1,Z,k2]
 show Int.sign (σ (add (mul i j) (mul (mul I o) d))+σ (add (mul i o) (mul I j)))=Int.sign (σ i+σ I)*Int.sign (σ j+σ o)
 have g1:=S.dom0 L (a:=mul i j) (b:=mul (mul I o) d) (by rw[eX,S.add0' L (by rw[S.sn,sC];rfl),S.add0 L sA,sB])
 have g2:=S.dom0 L (a:=mul i o) (b:=mul I j) (by rw[<-S.sd L hd,eY,S.add0 L (by rw[S.sn,sA];rfl),sB])
 rw[g1,g2,sb,S.sm,S.sm,S.sm]
 revert e1 e2
 rcases ta1 with h | h | h<;>rcases tb1 with h' | h' | h'<;>rcases ta2 with O | O | O<;>rcases tb2 with g | g | g<;>rw[h,h',O,g]<;>decide
 obtain⟨Z,e1⟩:=Sz h1
 obtain⟨k2,V⟩:=Sm h2
 have V:σ o≠0:=V
 have e1:σ i=0↔σ I=0:=e1
 rw[(Sz hN).1,Z,k2]
 show Int.sign (σ (add (mul i j) (mul (mul I o) d))+σ (add (mul i o) (mul I j)))=Int.sign (σ i+σ I)*σ o
 by_cases M:σ i=0
 have zb:=e1.1 M
 rw[S.add0 L (by rw[S.sm,M,W5r]),S.add0 L (by rw[S.sm,M,W5r]),sb,S.sm,M,zb,W5r,W5r];simp
 have g1:=S.dom L (a:=mul (mul I o) d) (b:=mul i j) (by rw[eXr];exact S.sp _ _ (S.sp _ _ (by rw[S.sn,sA,T.2.1 M];rfl) (by rw[S.sn,sB];decide)) (by rw[sC];decide))
 have g2:=S.dom L (a:=mul i o) (b:=mul I j) (by rw[<-S.sd L hd,eY];exact S.sp _ _ (by rw[S.sn,sA,T.2.1 M];rfl) (by rw[sB];exact W7p _))
 rw[L.ac (mul i j),g1,g2,sb,S.sm]
 have zb:σ I≠0:=λh=>M (e1.2 h)
 revert M V zb
 rcases ta1 with h | h | h<;>rcases tb1 with h' | h' | h'<;>rcases tb2 with O | O | O<;>rw[h,h',O]<;>decide
 obtain⟨Z,M⟩:=Sm h1
 obtain⟨k2,V⟩:=Sx h2
 have V:σ j≠0:=V
 have:=S.dom L (a:=mul I j) (b:=mul i o) (by rw[<-S.sd L hd,eYr];exact S.sp _ _ (by rw[S.sn,sB,qa2.2.1 V];rfl) (by rw[sA];exact T.1))
 rw[(Sm hN).1,Z,k2]
 show σ (add (mul i o) (mul I j))=σ I*σ j
 rw[L.ac,this,S.sm]
 exact absurd (h h2) (by omega)
 obtain⟨Z,M⟩:=Sm h1
 obtain⟨k2,V⟩:=Sm h2
 have:=S.dom L (a:=mul (mul I o) d) (b:=mul i j) (by rw[eXr,L.ac];exact S.sp _ _ (by rw[sC];rfl) (S.sa _ _ (by rw[S.sn,sA];have:=T.1;omega) (by rw[S.sn,sB];have:=qa2.1;omega)))
 rw[(Sx hN).1,Z,k2]
 show σ (add (mul i j) (mul (mul I o) d))=σ I*σ o
 rw[L.ac,this,sb]
theorem Sgn.smul(p q:α×α): L.sx d σ (L.mQ d p q)=L.sx d σ p*L.sx d σ q:=by
 by_cases h:σ (L.nP d q)=0->σ (L.nP d p)=0
 exact S.mul_core L hd p q h
 have M:σ (L.nP d q)=0:=W0t λO=>h λT=>absurd T O
 have e:L.mQ d p q=L.mQ d q p:=by
  obtain⟨i,j⟩:=p
  obtain⟨o,I⟩:=q
  exact W3f (Laws.req L [i,j,o,I,d] (.add (.mul (.v 0) (.v 2)) (.mul (.mul (.v 1) (.v 3)) (.v 4))) (.add (.mul (.v 2) (.v 0)) (.mul (.mul (.v 3) (.v 1)) (.v 4))) (by decide +kernel)) (Laws.req L [i,j,o,I,d] (.add (.mul (.v 0) (.v 3)) (.mul (.v 1) (.v 2))) (.add (.mul (.v 2) (.v 1)) (.mul (.v 3) (.v 0))) (by decide +kernel))
 rw[e,S.mul_core L hd q p λ_=>M,Int.mul_comm]
theorem Sgn.sneg(p:α×α): L.sx d σ (L.gQ p)=- L.sx d σ p:=by
 have e:L.nP d (L.gQ p)=L.nP d p:=by
  obtain⟨a,b⟩:=p
  exact(Laws.req L [a,b,d] (.add (.mul (.neg (.v 0)) (.neg (.v 0))) (.neg (.mul (.mul (.neg (.v 1)) (.neg (.v 1))) (.v 2)))) (.add (.mul (.v 0) (.v 0)) (.neg (.mul (.mul (.v 1) (.v 1)) (.v 2)))) (by decide +kernel))
 rw[S.sx_eq L hd,S.sx_eq L hd,e]
 show (if σ (L.nP d p)=1 then σ (neg p.1) else if σ (L.nP d p)=-1 then σ (neg p.2) else Int.sign (σ (neg p.1)+σ (neg p.2)))=_
 rw[S.sn,S.sn]
 split
 rfl
 split
 rfl
 rw[<-Int.neg_add,Int.sign_neg]
def Laws.Rt{α:Type}{add mul:α->α->α}{neg:α->α}{zero one:α}(L:Laws add mul neg zero one)(d:α)(σ:α->Int)(p q:α): Prop:=σ p=1/\σ q=1/\σ (add (mul p p) (neg (mul d (mul q q))))=0
theorem Sgn.sx_rt{p q:α}(h:L.Rt d σ p q)(x:α×α): L.sx d σ x=σ (add (mul x.1 q) (mul x.2 p)):=by
 obtain⟨hp,hq,h0⟩:=h
 obtain⟨a,b⟩:=x
 show L.sx d σ (a,b)=σ (add (mul a q) (mul b p))
 have I:∀n,n=L.nP d (a,b)->mul n (mul q q)=add (mul (mul b b) (add (mul p p) (neg (mul d (mul q q))))) (mul (add (mul a q) (mul b p)) (add (mul a q) (neg (mul b p)))):=by
  rintro _ rfl
  exact(Laws.req L [a,b,p,q,d] (.mul (.add (.mul (.v 0) (.v 0)) (.neg (.mul (.mul (.v 1) (.v 1)) (.v 4)))) (.mul (.v 3) (.v 3))) (.add (.mul (.mul (.v 1) (.v 1)) (.add (.mul (.v 2) (.v 2)) (.neg (.mul (.v 4) (.mul (.v 3) (.v 3)))))) (.mul (.add (.mul (.v 0) (.v 3)) (.mul (.v 1) (.v 2))) (.add (.mul (.v 0) (.v 3)) (.neg (.mul (.v 1) (.v 2)))))) (by decide +kernel))
 have I:=I _ rfl
 have O:σ (L.nP d (a,b))=σ (add (mul a q) (mul b p))*σ (add (mul a q) (neg (mul b p))):=by
  have M:=congrArg σ I
  rw[S.add0 L (a:=mul (mul b b) (add (mul p p) (neg (mul d (mul q q))))) (by rw[S.sm,h0,Int.mul_zero]),S.sm,S.sm,hq,W4c,W4c,S.sm] at M
  exact M
 have T:add (mul a q) (mul a q)=add (add (mul a q) (mul b p)) (add (mul a q) (neg (mul b p))):=(Laws.req L [a,b,p,q] (.add (.mul (.v 0) (.v 3)) (.mul (.v 0) (.v 3))) (.add (.add (.mul (.v 0) (.v 3)) (.mul (.v 1) (.v 2))) (.add (.mul (.v 0) (.v 3)) (.neg (.mul (.v 1) (.v 2))))) (by decide +kernel))
 have U:add (mul b p) (mul b p)=add (add (mul a q) (mul b p)) (neg (add (mul a q) (neg (mul b p)))):=(Laws.req L [a,b,p,q] (.add (.mul (.v 1) (.v 2)) (.mul (.v 1) (.v 2))) (.add (.add (.mul (.v 0) (.v 3)) (.mul (.v 1) (.v 2))) (.neg (.add (.mul (.v 0) (.v 3)) (.neg (.mul (.v 1) (.v 2)))))) (by decide +kernel))
 have j:σ a=σ (add (add (mul a q) (mul b p)) (add (mul a q) (neg (mul b p)))):=by
  rw[<-T,S.same L rfl,S.sm,hq,W4c]
 have o:σ b=σ (add (add (mul a q) (mul b p)) (neg (add (mul a q) (neg (mul b p))))):=by
  rw[<-U,S.same L rfl,S.sm,hp,W4c]
 generalize add (mul a q) (mul b p)=A at *
 generalize add (mul a q) (neg (mul b p))=B at *
 rw[S.sx_eq L hd]
 show (if σ (L.nP d (a,b))=1 then σ a else if σ (L.nP d (a,b))=-1 then σ b else Int.sign (σ a+σ b))=σ A
 rw[O]
 rcases S.tri A with h | h | h<;>rcases S.tri B with i | i | i
 rw[h,i,if_pos (by decide),j,S.same L (by omega),h]
 rw[h,i,if_neg (by decide),if_neg (by decide),j,o,S.add0' L i,S.add0' L (by rw[S.sn];omega),h];rfl
 rw[h,i,if_neg (by decide),if_pos (by decide),o,S.same L (by rw[S.sn];omega),h]
 rw[h,i,if_neg (by decide),if_neg (by decide),j,o,S.add0 L h,S.add0 L h,S.sn,i];rfl
 rw[h,i,if_neg (by decide),if_neg (by decide),j,o,S.add0 L h,S.add0 L h,S.sn,i];rfl
 rw[h,i,if_neg (by decide),if_neg (by decide),j,o,S.add0 L h,S.add0 L h,S.sn,i];rfl
 rw[h,i,if_neg (by decide),if_pos (by decide),o,S.same L (by rw[S.sn];omega),h]
 rw[h,i,if_neg (by decide),if_neg (by decide),j,o,S.add0' L i,S.add0' L (by rw[S.sn];omega),h];rfl
 rw[h,i,if_pos (by decide),j,S.same L (by omega),h]
theorem Sgn.no_rt(o:∀p q,¬L.Rt d σ p q){x:α×α}(h:σ (L.nP d x)=0): σ x.1=0/\σ x.2=0:=by
 obtain⟨a,b⟩:=x
 have h0:=(S.sxz L hd h).2
 have h0:σ a=0↔σ b=0:=h0
 have e:∀n,n=L.nP d (a,b)->add (mul a a) (neg (mul d (mul b b)))=n/\add (mul (neg a) (neg a)) (neg (mul d (mul b b)))=n/\add (mul a a) (neg (mul d (mul (neg b) (neg b))))=n/\add (mul (neg a) (neg a)) (neg (mul d (mul (neg b) (neg b))))=n:=by
  rintro _ rfl
  exact⟨(Laws.req L [a,b,d] (.add (.mul (.v 0) (.v 0)) (.neg (.mul (.v 2) (.mul (.v 1) (.v 1))))) (.add (.mul (.v 0) (.v 0)) (.neg (.mul (.mul (.v 1) (.v 1)) (.v 2)))) (by decide +kernel)),(Laws.req L [a,b,d] (.add (.mul (.neg (.v 0)) (.neg (.v 0))) (.neg (.mul (.v 2) (.mul (.v 1) (.v 1))))) (.add (.mul (.v 0) (.v 0)) (.neg (.mul (.mul (.v 1) (.v 1)) (.v 2)))) (by decide +kernel)),(Laws.req L [a,b,d] (.add (.mul (.v 0) (.v 0)) (.neg (.mul (.v 2) (.mul (.neg (.v 1)) (.neg (.v 1)))))) (.add (.mul (.v 0) (.v 0)) (.neg (.mul (.mul (.v 1) (.v 1)) (.v 2)))) (by decide +kernel)),(Laws.req L [a,b,d] (.add (.mul (.neg (.v 0)) (.neg (.v 0))) (.neg (.mul (.v 2) (.mul (.neg (.v 1)) (.neg (.v 1)))))) (.add (.mul (.v 0) (.v 0)) (.neg (.mul (.mul (.v 1) (.v 1)) (.v 2)))) (by decide +kernel))⟩
 obtain⟨I,M,O,T⟩:=e _ rfl
 show σ a=0/\σ b=0
 rcases S.tri a with j | j | j
 rcases S.tri b with i | i | i
 exact absurd ⟨j,i,by rw[I];exact h⟩ (o a b)
 omega
 exact absurd ⟨j,by rw[S.sn];omega,by rw[O];exact h⟩ (o a (neg b))
 exact⟨j,h0.1 j⟩
 rcases S.tri b with i | i | i
 exact absurd ⟨by rw[S.sn];omega,i,by rw[M];exact h⟩ (o (neg a) b)
 omega
 exact absurd ⟨by rw[S.sn];omega,by rw[S.sn];omega,by rw[T];exact h⟩ (o (neg a) (neg b))
theorem Sgn.sx_n(T:∀p q,¬L.Rt d σ p q){n a b:α}(M:σ n=1)(h:0<=L.sx d σ (a,b)): L.sx d σ (add a n,b)=1:=by
 have Sx:=@Sgn.sx1 _ _ _ _ _ _ d σ L S hd
 have Sm:=@Sgn.sxm _ _ _ _ _ _ d σ L S hd
 rcases S.tri (L.nP d (a,b)) with j | j | j
 obtain⟨i,I⟩:=Sx j
 have i:L.sx d σ (a,b)=σ a:=i
 have I:σ a≠0:=I
 have ha:σ a=1:=by rcases S.tri a with h | h | h<;>omega
 have Z:σ (L.nP d (add a n,b))=1:=by
  have e:∀m,m=L.nP d (a,b)->L.nP d (add a n,b)=add m (mul n (add (add a a) n)):=by
   rintro _ rfl
   exact(Laws.req L [a,b,n,d] (.add (.mul (.add (.v 0) (.v 2)) (.add (.v 0) (.v 2))) (.neg (.mul (.mul (.v 1) (.v 1)) (.v 3)))) (.add (.add (.mul (.v 0) (.v 0)) (.neg (.mul (.mul (.v 1) (.v 1)) (.v 3)))) (.mul (.v 2) (.add (.add (.v 0) (.v 0)) (.v 2)))) (by decide +kernel))
  rw[e _ rfl]
  exact S.sp _ _ j (by rw[S.sm,M,S.sp _ _ (S.sp _ _ ha (by omega)) (by omega)];decide)
 rw[(Sx Z).1]
 exact S.sp _ _ ha (by omega)
 obtain⟨i,O⟩:=S.no_rt L hd T j
 have i:σ a=0:=i
 have O:σ b=0:=O
 have:σ (add a n)=1:=by rw[S.add0 L i,M]
 unfold Laws.sx
 rw[if_pos (.inl O)];exact this
 obtain⟨i,I⟩:=Sm j
 have i:L.sx d σ (a,b)=σ b:=i
 have I:σ b≠0:=I
 have hb:σ b=1:=by rcases S.tri b with h | h | h<;>omega
 rcases S.tri (L.nP d (add a n,b)) with o | o | o
 obtain⟨k3,U⟩:=Sx o
 rw[k3]
 show σ (add a n)=1
 have U:σ (add a n)≠0:=U
 rcases S.tri (add a n) with h | h | h
 exact h
 omega
 exfalso
 have e:∀m,m=L.nP d (add a n,b)->L.nP d (a,b)=add m (mul n (add (neg (add a n)) (add (neg (add a n)) n))):=by
  rintro _ rfl
  exact(Laws.req L [a,b,n,d] (.add (.mul (.v 0) (.v 0)) (.neg (.mul (.mul (.v 1) (.v 1)) (.v 3)))) (.add (.add (.mul (.add (.v 0) (.v 2)) (.add (.v 0) (.v 2))) (.neg (.mul (.mul (.v 1) (.v 1)) (.v 3)))) (.mul (.v 2) (.add (.neg (.add (.v 0) (.v 2))) (.add (.neg (.add (.v 0) (.v 2))) (.v 2))))) (by decide +kernel))
 have V:σ (neg (add a n))=1:=by rw[S.sn];omega
 rw[e _ rfl,S.sp _ _ o (by rw[S.sm,M,S.sp _ _ V (by rw[S.sp _ _ V (by omega)];decide)];decide)] at j
 omega
 have:=(S.no_rt L hd T o).2
 have:σ b=0:=this
 omega
 rw[(Sm o).1];exact hb
theorem Sgn.ext: Sgn L.aQ (L.mQ d) L.gQ (one,zero) (L.sx d σ):=by
 have tri:∀p,L.sx d σ p=1\/L.sx d σ p=0\/L.sx d σ p=-1:=by
  intro p
  rw[S.sx_eq L hd]
  split
  exact S.tri _
  split
  exact S.tri _
  rcases S.tri p.1 with h | h | h<;>rcases S.tri p.2 with O | O | O<;>rw[h,O]<;>decide
 have low:∀a b,σ b=0->L.sx d σ (a,b)=σ a:=by
  intro a b h
  unfold Laws.sx
  rw[if_pos (.inl h)]
 by_cases U:∃p q,L.Rt d σ p q
 obtain⟨p,q,h⟩:=U
 have T:∀x y:α×α,add (mul (L.aQ x y).1 q) (mul (L.aQ x y).2 p)=add (add (mul x.1 q) (mul x.2 p)) (add (mul y.1 q) (mul y.2 p)):=by
  rintro⟨a,b⟩ ⟨V,Z⟩
  exact(Laws.req L [a,b,V,Z,p,q] (.add (.mul (.add (.v 0) (.v 2)) (.v 5)) (.mul (.add (.v 1) (.v 3)) (.v 4))) (.add (.add (.mul (.v 0) (.v 5)) (.mul (.v 1) (.v 4))) (.add (.mul (.v 2) (.v 5)) (.mul (.v 3) (.v 4)))) (by decide +kernel))
 refine⟨tri,S.sneg L hd,S.smul L hd,λx y i o=>?_,λx y i o=>?_,by rw[low _ _ (S.s0 L),S.s1]⟩
 rw[S.sx_rt L hd h] at i o |-
 rw[T];exact S.sa _ _ i o
 rw[S.sx_rt L hd h] at i o |-
 rw[T];exact S.sp _ _ i o
 have U:∀p q,¬L.Rt d σ p q:=λp q h=>U ⟨p,q,h⟩
 have pos:∀x y:α×α,L.sx d σ x=1->0<=L.sx d σ y->L.sx d σ (L.aQ x y)=1:=by
  intro x y i o
  have hN:σ (L.nP d x)≠0:=λh0=>by
   have I:=(S.sxz L hd h0).1
   have h2:=S.no_rt L hd U h0
   rw[h2.1,h2.2] at I
   rw[I] at i
   exact absurd i (by decide)
  have ex:L.mQ d x (x.1,neg x.2)=(L.nP d x,zero):=by
   obtain⟨a,b⟩:=x
   exact W3f (Laws.req L [a,b,d] (.add (.mul (.v 0) (.v 0)) (.mul (.mul (.v 1) (.neg (.v 1))) (.v 2))) (.add (.mul (.v 0) (.v 0)) (.neg (.mul (.mul (.v 1) (.v 1)) (.v 2)))) (by decide +kernel)) (Laws.req L [a,b] (.add (.mul (.v 0) (.neg (.v 1))) (.mul (.v 1) (.v 0))) .z (by decide +kernel))
  have ey:L.mQ d (L.aQ x y) (x.1,neg x.2)=(add (L.mQ d y (x.1,neg x.2)).1 (L.nP d x),(L.mQ d y (x.1,neg x.2)).2):=by
   obtain⟨a,b⟩:=x
   obtain⟨V,Z⟩:=y
   exact W3f (Laws.req L [a,b,V,Z,d] (.add (.mul (.add (.v 0) (.v 2)) (.v 0)) (.mul (.mul (.add (.v 1) (.v 3)) (.neg (.v 1))) (.v 4))) (.add (.add (.mul (.v 2) (.v 0)) (.mul (.mul (.v 3) (.neg (.v 1))) (.v 4))) (.add (.mul (.v 0) (.v 0)) (.neg (.mul (.mul (.v 1) (.v 1)) (.v 4))))) (by decide +kernel)) (Laws.req L [a,b,V,Z,d] (.add (.mul (.add (.v 0) (.v 2)) (.neg (.v 1))) (.mul (.add (.v 1) (.v 3)) (.v 0))) (.add (.mul (.v 2) (.neg (.v 1))) (.mul (.v 3) (.v 0))) (by decide +kernel))
  have hc:L.sx d σ (x.1,neg x.2)=σ (L.nP d x):=by
   have:=S.smul L hd x (x.1,neg x.2)
   rw[ex,low _ _ (S.s0 L),i,W3e] at this
   exact this.symm
  have j:=S.smul L hd y (x.1,neg x.2)
  have M:=S.smul L hd (L.aQ x y) (x.1,neg x.2)
  rw[hc] at j M
  rcases S.tri (L.nP d x) with I | I | I
  rw[I,W4c] at j M
  rw[<-M,ey]
  exact S.sx_n L hd U I (by rw[<-j] at o;exact o)
  exact absurd I hN
  rw[I] at j M
  have hg:=S.sneg L hd (L.mQ d (L.aQ x y) (x.1,neg x.2))
  have eg:L.gQ (L.mQ d (L.aQ x y) (x.1,neg x.2))=(add (L.gQ (L.mQ d y (x.1,neg x.2))).1 (neg (L.nP d x)),(L.gQ (L.mQ d y (x.1,neg x.2))).2):=by
   rw[ey]
   exact W3f (L.nd _ _) rfl
  have h2:=S.sx_n L hd U (n:=neg (L.nP d x)) (a:=(L.gQ (L.mQ d y (x.1,neg x.2))).1) (b:=(L.gQ (L.mQ d y (x.1,neg x.2))).2) (by rw[S.sn];omega) (by
   show 0<=L.sx d σ (L.gQ (L.mQ d y (x.1,neg x.2)))
   rw[S.sneg L hd,j];omega)
  rw[<-eg] at h2
  omega
 refine⟨tri,S.sneg L hd,S.smul L hd,λx y i o=>?_,pos,by rw[low _ _ (S.s0 L),S.s1]⟩
 rcases tri x with h | h | h
 rw[pos x y h o];decide
 rcases tri y with O | O | O
 have e:L.aQ x y=L.aQ y x:=W3f (L.ac _ _) (L.ac _ _)
 rw[e,pos y x O i];decide
 have zz:∀p,L.sx d σ p=0->σ p.1=0/\σ p.2=0:=by
  intro p hp
  rcases S.tri (L.nP d p) with g | g | g
  have:=S.sx1 L hd g;omega
  exact S.no_rt L hd U g
  have:=S.sxm L hd g;omega
 have z1:=zz x h
 have z2:=zz y O
 have:L.sx d σ (L.aQ x y)=0:=by
  rw[show L.aQ x y=(add x.1 y.1,add x.2 y.2) from rfl,low _ _ (by rw[S.add0 L z1.2,z2.2]),S.add0 L z1.1,z2.1]
 omega
 omega
 omega
end
end
section
def Xjz(x:Rat): Int:=if 0<x then 1 else if x<0 then -1 else 0
theorem Xbc(x:Rat): (0<x/\Xjz x=1)\/(x=0/\Xjz x=0)\/(x<0/\Xjz x=-1):=by
 unfold Xjz
 by_cases h:0<x
 left;exact⟨h,if_pos h⟩
 by_cases i:x<0
 right;right;exact⟨i,by rw[if_neg h,if_pos i]⟩
 right;left;exact⟨by grind,by rw[if_neg h,if_neg i]⟩
theorem Xb5{x:Rat}(h:0<x): Xjz x=1:=if_pos h
theorem Xfd{x:Rat}(h:x<0): Xjz x=-1:=by unfold Xjz;rw[if_neg (by grind),if_pos h]
theorem Xi6{x y:Rat}(h:x<0)(k:0<y): x*y<0:=by
 have:=W5o (show 0 < -x by grind) k
 grind
theorem Xpk{x y:Rat}(h:x<0)(k:y<0): 0<x*y:=by
 have:=W5o (show 0 < -x by grind) (show 0 < -y by grind)
 grind
theorem Ye8: Sgn (α:=Rat) (λx y=>x+y) (λx y=>x*y) (λx=>-x) 1 Xjz:=by
 refine⟨λa=>?_,λa=>?_,λa b=>?_,λa b ha hb=>?_,λa b ha hb=>?_,by decide⟩
 rcases Xbc a with h | h | h<;>simp[h.2]
 rcases Xbc a with h | h | h
 rw[h.2,Xfd (by grind)]
 rw[h.1,Rat.neg_zero];rfl
 rw[h.2,Xb5 (by grind)];rfl
 rcases Xbc a with h | h | h<;>rcases Xbc b with k | k | k<;>rw[h.2,k.2]
 exact Xb5 (W5o h.1 k.1)
 rw[k.1,W7j];rfl
 rw[W8b];exact Xfd (Xi6 k.1 h.1)
 rw[h.1,W3p];rfl
 rw[h.1,W3p];rfl
 rw[h.1,W3p];rfl
 exact Xfd (Xi6 h.1 k.1)
 rw[k.1,W7j];rfl
 exact Xb5 (Xpk h.1 k.1)
 . rcases Xbc a with h | h | h<;>rcases Xbc b with k | k | k<;>rw[h.2] at ha<;>rw[k.2] at hb<;>first | (exact absurd ha (by decide)) | (exact absurd hb (by decide)) | skip
   rw[Xb5 (by grind)];decide
   rw[Xb5 (by grind)];decide
   rw[Xb5 (by grind)];decide
   rw[h.1,k.1,W6k];decide
 rcases Xbc a with h | h | h<;>rcases Xbc b with k | k | k<;>rw[h.2] at ha<;>rw[k.2] at hb<;>first | (exact absurd ha (by decide)) | (exact absurd hb (by decide)) | exact Xb5 (by grind)
def sgn: (k:Nat)->Tw k->El k->Int
 | 0=>λ_ (x:Rat)=>Xjz x
 | k+1=>λt a=>(Xax k t.1).sx t.2 (sgn k t.1) a
def Xcg: (k:Nat)->Tw k->Prop
 | 0=>λ_=>True
 | k+1=>λt=>Xcg k t.1/\sgn k t.1 t.2=1
theorem Xao: ∀ {k:Nat} {t:Tw k},Xcg k t->Sgn (add k) (mul k t) (neg k) (rat k 1) (sgn k t)
 | 0,_,_=>Ye8
 | k+1,t,h=>(Xao h.1).ext (Xax k t.1) h.2
section
variable{k:Nat}{t:Tw k}
theorem Xq8{t:Tw (k+1)}(a:El k)(h:Xcg k t.1): sgn (k+1) t (up k a)=sgn k t.1 a:=by
 have i:=(Xao h).s0 (Xax k t.1)
 show (Xax k t.1).sx t.2 (sgn k t.1) (a,zero k)=_
 unfold Laws.sx
 rw[if_pos (.inl i)]
theorem Xcy{x:Rat}(h:Xcg k t): sgn k t (rat k x)=Xjz x:=by
 induction k with
 | zero=>rfl
 | succ k i=>rw[show rat (k+1) x=up k (rat k x) from rfl,Xq8 _ h.1,i h.1]
theorem Xco: ∀ {k:Nat} (t:Tw k) (a:El k),sgn k t a=1\/sgn k t a=0\/sgn k t a=-1
 | 0,_,a=>by
  rcases Xbc a with h | h | h
  exact .inl h.2
  exact .inr (.inl h.2)
  exact .inr (.inr h.2)
 | k+1,t,a=>by
  show (Xax k t.1).sx t.2 (sgn k t.1) a=1\/(Xax k t.1).sx t.2 (sgn k t.1) a=0\/(Xax k t.1).sx t.2 (sgn k t.1) a=-1
  unfold Laws.sx
  split
  exact Xco _ _
  split
  exact Xco _ _
  rcases Xco t.1 a.1 with h | h | h<;>rcases Xco t.1 ((Xax k t.1).nP t.2 a) with g | g | g<;>rw[h,g]<;>decide
def le(k:Nat)(t:Tw k)(a b:El k): Prop:=0<=sgn k t (add k b (neg k a))
end
end
section
section
variable{α:Type}{add mul:α->α->α}{neg:α->α}{zero one:α}{σ:α->Int}(L:Laws add mul neg zero one)(S:Sgn add mul neg one σ)
include L S
theorem Sgn.le_rf(a:α): 0<=σ (add a (neg a)):=by rw[L.an,S.s0 L];exact W7p _
theorem Sgn.le_tr{a b c:α}(h:0<=σ (add b (neg a)))(k:0<=σ (add c (neg b))): 0<=σ (add c (neg a)):=by
 have e:add c (neg a)=add (add c (neg b)) (add b (neg a)):=(Laws.req L [a,b,c] (.add (.v 2) (.neg (.v 0))) (.add (.add (.v 2) (.neg (.v 1))) (.add (.v 1) (.neg (.v 0)))) (by decide +kernel))
 rw[e];exact S.sa _ _ k h
theorem Sgn.le_ad{a b c d:α}(h:0<=σ (add b (neg a)))(k:0<=σ (add d (neg c))): 0<=σ (add (add b d) (neg (add a c))):=by
 have e:add (add b d) (neg (add a c))=add (add b (neg a)) (add d (neg c)):=(Laws.req L [a,b,c,d] (.add (.add (.v 1) (.v 3)) (.neg (.add (.v 0) (.v 2)))) (.add (.add (.v 1) (.neg (.v 0))) (.add (.v 3) (.neg (.v 2)))) (by decide +kernel))
 rw[e];exact S.sa _ _ h k
theorem Sgn.le_ml{a b c:α}(h:0<=σ (add b (neg a)))(i:0<=σ c): 0<=σ (add (mul c b) (neg (mul c a))):=by
 have e:add (mul c b) (neg (mul c a))=mul c (add b (neg a)):=(Laws.req L [a,b,c] (.add (.mul (.v 2) (.v 1)) (.neg (.mul (.v 2) (.v 0)))) (.mul (.v 2) (.add (.v 1) (.neg (.v 0)))) (by decide +kernel))
 rw[e,S.sm];exact W6y i h
theorem Sgn.le_mn{a b c:α}(h:0<=σ (add b (neg a)))(i:σ c<=0): 0<=σ (add (mul c a) (neg (mul c b))):=by
 have e:add (mul c a) (neg (mul c b))=mul (neg c) (add b (neg a)):=(Laws.req L [a,b,c] (.add (.mul (.v 2) (.v 0)) (.neg (.mul (.v 2) (.v 1)))) (.mul (.neg (.v 2)) (.add (.v 1) (.neg (.v 0)))) (by decide +kernel))
 rw[e,S.sm,S.sn];exact W6y (by omega) h
theorem Sgn.le_sq{x y:α}(T:0<=σ x)(j:0<=σ y)(h:0<=σ (add (mul y y) (neg (mul x x)))): 0<=σ (add y (neg x)):=by
 have e:add (mul y y) (neg (mul x x))=mul (add y (neg x)) (add y x):=(Laws.req L [x,y] (.add (.mul (.v 1) (.v 1)) (.neg (.mul (.v 0) (.v 0)))) (.mul (.add (.v 1) (.neg (.v 0))) (.add (.v 1) (.v 0))) (by decide +kernel))
 rw[e,S.sm] at h
 rcases S.tri (add y (neg x)) with i | i | i
 omega
 omega
 have I:σ (add x (neg y))=1:=by
  have M:add x (neg y)=neg (add y (neg x)):=(Laws.req L [x,y] (.add (.v 0) (.neg (.v 1))) (.neg (.add (.v 1) (.neg (.v 0)))) (by decide +kernel))
  rw[M,S.sn,i];rfl
 have o:=S.sp _ (add y y) I (S.sa _ _ j j)
 have O:add (add x (neg y)) (add y y)=add y x:=(Laws.req L [x,y] (.add (.add (.v 0) (.neg (.v 1))) (.add (.v 1) (.v 1))) (.add (.v 1) (.v 0)) (by decide +kernel))
 rw[O] at o
 rw[i,o] at h
 exact absurd h (by decide)
end
def tw0: (k:Nat)->Tw k
 | 0=>()
 | k+1=>(tw0 k,zero k)
theorem Xdq: ∀(k:Nat) (x y:Rat),rat k (x+y)=add k (rat k x) (rat k y)
 | 0,_,_=>rfl
 | k+1,x,y=>by
  show (rat k (x+y),zero k)=(add k (rat k x) (rat k y),add k (zero k) (zero k))
  rw[Xdq k,(Xax k (tw0 k)).az]
theorem Xft: ∀(k:Nat) (x:Rat),rat k (-x)=neg k (rat k x)
 | 0,_=>rfl
 | k+1,x=>by
  show (rat k (-x),zero k)=(neg k (rat k x),neg k (zero k))
  rw[Xft k,(Xax k (tw0 k)).nz]
theorem Xcz: ∀(k:Nat) (t:Tw k) (x y:Rat),rat k (x*y)=mul k t (rat k x) (rat k y)
 | 0,_,_,_=>rfl
 | k+1,t,x,y=>by
  show up k (rat k (x*y))=mul (k+1) t (up k (rat k x)) (up k (rat k y))
  rw[Xkj,Xcz k t.1]
section
variable{k:Nat}{t:Tw k}
theorem Xbr(h:Xcg k t){x y:Rat}: le k t (rat k x) (rat k y)↔x<=y:=by
 unfold le
 rw[<-Xft,<-Xdq,Xcy h]
 rcases Xbc (y+-x) with ⟨i,e⟩ | ⟨i,e⟩ | ⟨i,e⟩<;>rw[e]
 exact⟨λ_=>by grind,λ_=>by decide⟩
 exact⟨λ_=>by grind,λ_=>by decide⟩
 exact⟨λh=>absurd h (by decide),λh=>absurd h (by grind)⟩
theorem le_tr(h:Xcg k t){a b c:El k}(i:le k t a b)(j:le k t b c): le k t a c:=(Xao h).le_tr (Xax k t) i j
theorem Xi3(h:Xcg k t){a:El k}: le k t (rat k 0) a↔0<=sgn k t a:=by
 unfold le
 rw[Xc7,(Xax k t).nz,(Xax k t).az]
def inI(k:Nat)(t:Tw k)(a:El k)(x y:Rat): Prop:=le k t (rat k x) a/\le k t a (rat k y)
theorem Yak(h:Xcg k t){a:El k}{x y j o:Rat}(i:inI k t a x y)(I:j<=x)(M:y<=o): inI k t a j o :=
 ⟨le_tr h ((Xbr h).2 I) i.1,le_tr h i.2 ((Xbr h).2 M)⟩
theorem Yk4(h:Xcg k t){a:El k}{x y:Rat}(i:inI k t a x y): x<=y:=(Xbr h).1 (le_tr h i.1 i.2)
theorem Ygo(h:Xcg k t){a b:El k}{x y o I:Rat}(i:inI k t a x y)(j:inI k t b o I): inI k t (add k a b) (x+o) (y+I):=by
 refine⟨?_,?_⟩
 rw[Xdq];exact(Xao h).le_ad (Xax k t) i.1 j.1
 rw[Xdq];exact(Xao h).le_ad (Xax k t) i.2 j.2
theorem Ygn(h:Xcg k t){v s:El k}{a b c d m M:Rat}(i:inI k t v a b)(j:inI k t s c d)(T:0<=c)(U:m<=a*c)(V:m<=a*d)(Z:b*c<=M)(h4:b*d<=M): inI k t (mul k t v s) m M:=by
 have S:=Xao h
 have L:=Xax k t
 have O:0<=sgn k t s:=(Xi3 h).1 (le_tr h ((Xbr h).2 T) j.1)
 have o:∀x:Rat,sgn k t (rat k x)=Xjz x:=λx=>Xcy h
 refine⟨?_,?_⟩
 have I:le k t (mul k t (rat k a) s) (mul k t v s):=by
  rw[L.mc _ s,L.mc _ s];exact S.le_ml L i.1 O
 refine le_tr h ?_ I
 by_cases ha:0<=a
 refine le_tr h ((Xbr h).2 U) ?_
 rw[Xcz k t]
 exact S.le_ml L j.1 (by rw[o];rcases Xbc a with ⟨g,e⟩ | ⟨g,e⟩ | ⟨g,e⟩<;>rw[e]<;>first | decide | grind)
 refine le_tr h ((Xbr h).2 V) ?_
 rw[Xcz k t]
 exact S.le_mn L j.2 (by rw[o,Xfd (by grind)];decide)
 have I:le k t (mul k t v s) (mul k t (rat k b) s):=by
  rw[L.mc _ s,L.mc _ s];exact S.le_ml L i.2 O
 refine le_tr h I ?_
 by_cases hb:0<=b
 refine le_tr h ?_ ((Xbr h).2 h4)
 rw[Xcz k t]
 exact S.le_ml L j.2 (by rw[o];rcases Xbc b with ⟨g,e⟩ | ⟨g,e⟩ | ⟨g,e⟩<;>rw[e]<;>first | decide | grind)
 refine le_tr h ?_ ((Xbr h).2 Z)
 rw[Xcz k t]
 exact S.le_mn L j.1 (by rw[o,Xfd (by grind)];decide)
end
section
variable{k:Nat}{t:Tw (k+1)}
theorem Xwy(h:Xcg k t.1){a:El k}{x y:Rat}(i:inI k t.1 a x y): inI (k+1) t (up k a) x y:=by
 have e:∀a b:El k,add (k+1) (up k b) (neg (k+1) (up k a))=up k (add k b (neg k a)):=by
  intro a b
  show (add k b (neg k a),add k (zero k) (neg k (zero k)))=(add k b (neg k a),zero k)
  rw[(Xax k t.1).an]
 refine⟨?_,?_⟩
 show 0<=sgn (k+1) t (add (k+1) (up k a) (neg (k+1) (up k (rat k x))))
 rw[e,Xq8 _ h];exact i.1
 show 0<=sgn (k+1) t (add (k+1) (up k (rat k y)) (neg (k+1) (up k a)))
 rw[e,Xq8 _ h];exact i.2
def rt1(k:Nat): El (k+1):=(zero k,rat k 1)
theorem Xrd: mul (k+1) t (rt1 k) (rt1 k)=up k t.2:=by
 have L:=Xax k t.1
 simp only[mul,up,rt1,L.mz,L.zm,L.az,L.za,L.mo,L.om];rfl
theorem Xve(h:Xcg k t.1): sgn (k+1) t (rt1 k)=1:=by
 have S:=Xao h
 have i:sgn k t.1 (rat k 1)=1:=S.s1
 have h0:sgn k t.1 (zero k)=0:=S.s0 (Xax k t.1)
 show (Xax k t.1).sx t.2 (sgn k t.1) (zero k,rat k 1)=1
 unfold Laws.sx
 rw[if_neg (by rw[i,h0];decide),if_pos h0,i]
theorem Ya4(a:El (k+1)): a=add (k+1) (up k a.1) (mul (k+1) t (up k a.2) (rt1 k)):=by
 have L:=Xax k t.1
 obtain⟨a,b⟩:=a
 simp only[add,mul,up,rt1,L.mz,L.zm,L.az,L.za,L.mo,L.om];rfl
theorem Ygm(h:Xcg (k+1) t){r1 I c d:Rat}(i:inI k t.1 t.2 r1 I)(O:0<=c)(hd:0<=d)(o:c*c<=r1\/c=0)(T:I<=d*d): inI (k+1) t (rt1 k) c d:=by
 have S:=Xao h
 have L:=Xax (k+1) t
 have U:=Xve (t:=t) h.1
 have M:=Xwy h.1 i
 have j:∀x:Rat,0<=x->0<=sgn (k+1) t (rat (k+1) x):=λx V=>by
  rw[Xcy h];rcases Xbc x with ⟨g,e⟩ | ⟨g,e⟩ | ⟨g,e⟩<;>rw[e]<;>first | decide | grind
 refine⟨?_,?_⟩
 rcases o with o | rfl
 refine S.le_sq L (j c O) (by omega) ?_
 rw[<-Xcz,Xrd]
 exact le_tr h ((Xbr h).2 o) M.1
 exact(Xi3 h).2 (by omega)
 refine S.le_sq L (by omega) (j d hd) ?_
 rw[<-Xcz,Xrd]
 exact le_tr h M.2 ((Xbr h).2 T)
end
end
section
section
variable{k:Nat}{w:Tw k}{x:El k}
def tsn{k:Nat}(w:Tw k)(y:El k): Tw (k+1):=(w,y)
end
end
section
def Xde(k:Nat)(t:Tw k)(a:El k): Prop:=∃w,mul k t w w=a
def red: (k:Nat)->Tw k->Prop
 | 0=>λ_=>True
 | k+1=>λt=>red k t.1/\sgn k t.1 t.2=1/\¬Xde k t.1 t.2
theorem Xad: ∀ {k:Nat} {t:Tw k},red k t->Xcg k t
 | 0,_,_=>trivial
 | k+1,t,h=>⟨Xad h.1,h.2.1⟩
section
variable{α:Type}{add mul:α->α->α}{neg:α->α}{zero one:α}(L:Laws add mul neg zero one)
include L
theorem Laws.sub0{a b:α}(h:add a (neg b)=zero): a=b:=by
 have e:a=add (add a (neg b)) b:=(Laws.req L [a,b] (.v 0) (.add (.add (.v 0) (.neg (.v 1))) (.v 1)) (by decide +kernel))
 rw[e,h,L.za]
theorem Laws.sb{a b:α}(h:a=b): add a (neg b)=zero:=by rw[h,L.an]
theorem Laws.hi{h i m r u v x:α}(hh:add h h=one)(j:mul x x=mul h (add u m))(o:mul m m=add (mul u u) (neg (mul (mul v v) r)))(hi:mul i (add x x)=one):
 add (mul x x) (mul (mul (mul v i) (mul v i)) r)=u/\add (mul x (mul v i)) (mul (mul v i) x)=v:=by
 have I:mul (mul v v) r=mul (add u (neg m)) (add u m):=by
  have:mul (mul v v) r=add (mul u u) (neg (mul m m)):=by
   rw[o];exact(Laws.req L [u,v,r] (.mul (.mul (.v 1) (.v 1)) (.v 2)) (.add (.mul (.v 0) (.v 0)) (.neg (.add (.mul (.v 0) (.v 0)) (.neg (.mul (.mul (.v 1) (.v 1)) (.v 2)))))) (by decide +kernel))
  rw[this];exact(Laws.req L [u,m] (.add (.mul (.v 0) (.v 0)) (.neg (.mul (.v 1) (.v 1)))) (.mul (.add (.v 0) (.neg (.v 1))) (.add (.v 0) (.v 1))) (by decide +kernel))
 have M:add u m=add (mul x x) (mul x x):=by
  rw[j,<-L.dm,hh,L.om]
 have O:mul (mul i i) (add (mul x x) (mul x x))=h:=by
  have:mul (mul i i) (add (mul x x) (mul x x))=mul h (mul (mul i (add x x)) (mul i (add x x))):=by
   have T:mul h (mul (mul i (add x x)) (mul i (add x x)))=mul (add h h) (mul (mul i i) (add (mul x x) (mul x x))):=(Laws.req L [h,i,x] (.mul (.v 0) (.mul (.mul (.v 1) (.add (.v 2) (.v 2))) (.mul (.v 1) (.add (.v 2) (.v 2))))) (.mul (.add (.v 0) (.v 0)) (.mul (.mul (.v 1) (.v 1)) (.add (.mul (.v 2) (.v 2)) (.mul (.v 2) (.v 2))))) (by decide +kernel))
   rw[T,hh,L.om]
  rw[this,hi,L.mo,L.mo]
 constructor
 have U:mul (mul (mul v i) (mul v i)) r=mul (add u (neg m)) h:=by
  have:mul (mul (mul v i) (mul v i)) r=mul (mul i i) (mul (mul v v) r):=(Laws.req L [v,i,r] (.mul (.mul (.mul (.v 0) (.v 1)) (.mul (.v 0) (.v 1))) (.v 2)) (.mul (.mul (.v 1) (.v 1)) (.mul (.mul (.v 0) (.v 0)) (.v 2))) (by decide +kernel))
  rw[this,I]
  have:mul (mul i i) (mul (add u (neg m)) (add u m))=mul (add u (neg m)) (mul (mul i i) (add u m)):=(Laws.req L [u,m,i] (.mul (.mul (.v 2) (.v 2)) (.mul (.add (.v 0) (.neg (.v 1))) (.add (.v 0) (.v 1)))) (.mul (.add (.v 0) (.neg (.v 1))) (.mul (.mul (.v 2) (.v 2)) (.add (.v 0) (.v 1)))) (by decide +kernel))
  rw[this,M,O]
 rw[U,j]
 have:add (mul h (add u m)) (mul (add u (neg m)) h)=mul (add h h) u:=(Laws.req L [h,u,m] (.add (.mul (.v 0) (.add (.v 1) (.v 2))) (.mul (.add (.v 1) (.neg (.v 2))) (.v 0))) (.mul (.add (.v 0) (.v 0)) (.v 1)) (by decide +kernel))
 rw[this,hh,L.om]
 have:add (mul x (mul v i)) (mul (mul v i) x)=mul v (mul i (add x x)):=(Laws.req L [x,v,i] (.add (.mul (.v 0) (.mul (.v 1) (.v 2))) (.mul (.mul (.v 1) (.v 2)) (.v 0))) (.mul (.v 1) (.mul (.v 2) (.add (.v 0) (.v 0)))) (by decide +kernel))
 rw[this,hi,L.mo]
end
section
variable{k:Nat}{t:Tw k}
theorem Xq9(h:Xcg k t){a b:El k}(e:mul k t a b=zero k): sgn k t a=0\/sgn k t b=0:=by
 have:=(Xao h).sm a b
 rw[e,(Xao h).s0 (Xax k t)] at this
 exact W8c.1 this.symm
theorem Xcp: ∀ {k:Nat} {t:Tw k},red k t->(∀a,sgn k t a=0->a=zero k)/\(∀a,a≠zero k->∃b,inv k t a=some b)
 | 0,_,_=>by
  refine⟨λa h=>?_,λa h=>?_⟩
  rcases Xbc a with ⟨i,e⟩ | ⟨i,e⟩ | ⟨i,e⟩
  exact absurd (show Xjz a=0 from h) (by rw[e];decide)
  exact i
  exact absurd (show Xjz a=0 from h) (by rw[e];decide)
  have o:∀x:Rat,¬x=0->∃b,(if x=0 then none else some (1/x))=some b:=λx h=>⟨1/x,if_neg h⟩
  exact o a h
 | k+1,t,h=>by
  obtain⟨M,U⟩:=Xcp h.1
  have R:=Xad h.1
  have L:=Xax k t.1
  have S:=Xao R
  have I:∀x y:El k,norm k t (x,y)=zero k->x=zero k/\y=zero k:=by
   intro x y j
   have j:add k (mul k t.1 x x) (neg k (mul k t.1 (mul k t.1 y y) t.2))=zero k:=j
   by_cases V:y=zero k
   subst V
   rw[L.mz,L.zm,L.nz,L.az] at j
   refine⟨M x ?_,rfl⟩
   rcases Xq9 R j with e | e<;>exact e
   exfalso
   obtain⟨b,hb⟩:=U y V
   have hb:=Xb9 hb
   refine h.2.2 ⟨mul k t.1 x b,?_⟩
   have e:=L.sub0 j
   have O:mul k t.1 (mul k t.1 x b) (mul k t.1 x b)=mul k t.1 (mul k t.1 b b) (mul k t.1 x x):=(Laws.req L [x,b] (.mul (.mul (.v 0) (.v 1)) (.mul (.v 0) (.v 1))) (.mul (.mul (.v 1) (.v 1)) (.mul (.v 0) (.v 0))) (by decide +kernel))
   have T:mul k t.1 (mul k t.1 b b) (mul k t.1 (mul k t.1 y y) t.2)=mul k t.1 (mul k t.1 (mul k t.1 b y) (mul k t.1 b y)) t.2:=(Laws.req L [b,y,t.2] (.mul (.mul (.v 0) (.v 0)) (.mul (.mul (.v 1) (.v 1)) (.v 2))) (.mul (.mul (.mul (.v 0) (.v 1)) (.mul (.v 0) (.v 1))) (.v 2)) (by decide +kernel))
   rw[O,e,T,hb,L.mo,L.om]
  refine⟨λa ha=>?_,λa ha=>?_⟩
  obtain⟨x,y⟩:=a
  have ha:L.sx t.2 (sgn k t.1) (x,y)=0:=ha
  have Z:x=zero k/\y=zero k:=by
   unfold Laws.sx at ha
   split at ha
   rename_i i
   have i:sgn k t.1 y=0\/sgn k t.1 x=sgn k t.1 y:=i
   have ha:sgn k t.1 x=0:=ha
   exact⟨M _ ha,M _ (by omega)⟩
   rename_i i
   have i:¬(sgn k t.1 y=0\/sgn k t.1 x=sgn k t.1 y):=i
   split at ha
   have ha:sgn k t.1 y=0:=ha
   omega
   rename_i o
   have o:¬sgn k t.1 x=0:=o
   rcases W8c.1 ha with e | e
   exact absurd e o
   exact I x y (M _ e)
  rw[Z.1,Z.2];rfl
  have j:norm k t a≠zero k:=λe=>ha (by
   obtain⟨x,y⟩:=a
   obtain⟨O,T⟩:=I x y e
   rw[O,T];rfl)
  obtain⟨b,hb⟩:=U _ j
  refine⟨(mul k t.1 a.1 b,neg k (mul k t.1 a.2 b)),?_⟩
  show (match inv k t.1 (norm k t a) with | none=>none | some n=>some (mul k t.1 a.1 n,neg k (mul k t.1 a.2 n)))=_
  rw[hb];rfl
theorem Xat(h:red k t){a:El k}: sgn k t a=0↔a=zero k :=
 ⟨(Xcp h).1 a,λe=>by rw[e];exact(Xao (Xad h)).s0 (Xax k t)⟩
theorem Xh7(h:red k t){a b:El k}(e:mul k t a b=zero k): a=zero k\/b=zero k :=
 (Xq9 (Xad h) e).imp (Xat h).1 (Xat h).1
theorem Xu5(h:red k t){a b:El k}(e:mul k t a a=mul k t b b): a=b\/a=neg k b:=by
 have L:=Xax k t
 have j:mul k t (add k a (neg k b)) (add k a b)=add k (mul k t a a) (neg k (mul k t b b)):=(Laws.req L [a,b] (.mul (.add (.v 0) (.neg (.v 1))) (.add (.v 0) (.v 1))) (.add (.mul (.v 0) (.v 0)) (.neg (.mul (.v 1) (.v 1)))) (by decide +kernel))
 rw[L.sb e] at j
 rcases Xh7 h j with i | i
 exact .inl (L.sub0 i)
 right
 rw[L.ac] at i
 exact L.nu i
theorem Xq0(h:red k t){a b:El k}(e:mul k t a a=mul k t b b)(ha:0<=sgn k t a)(hb:0<=sgn k t b): a=b:=by
 rcases Xu5 h e with i | i
 exact i
 rw[i,(Xao (Xad h)).sn] at ha
 have j:b=zero k:=(Xat h).1 (by omega)
 rw[i,j,(Xax k t).nz]
theorem Yob(h:Xcg k t){a:El k}(e:Xde k t a): 0<=sgn k t a:=by
 obtain⟨w,rfl⟩:=e
 rw[(Xao h).sm]
 exact(Xei (Xco t w)).1
theorem Yr9(h:red k t){a:El k}(e:add k a a=zero k): a=zero k:=by
 rw[<-Xat h] at e |-
 rwa[(Xao (Xad h)).same (Xax k t) rfl] at e
theorem Xgq: add k (rat k (1/2)) (rat k (1/2))=rat k 1:=by
 rw[<-Xdq];congr 1;grind
end
section
variable{k:Nat}{t:Tw (k+1)}
theorem Yjb{w u:El k}(e:mul k t.1 w w=u): mul (k+1) t (up k w) (up k w)=up k u:=by rw[Xkj,e]
theorem Xu7{w u i:El k}(hi:mul k t.1 i t.2=rat k 1)(e:mul k t.1 w w=mul k t.1 u i): mul (k+1) t (zero k,w) (zero k,w)=up k u:=by
 have L:=Xax k t.1
 have hi:=hi
 refine W3f ?_ ?_
 show add k (mul k t.1 (zero k) (zero k)) (mul k t.1 (mul k t.1 w w) t.2)=u
 rw[e,L.mz,L.za,L.ma,hi,L.mo]
 show add k (mul k t.1 (zero k) w) (mul k t.1 w (zero k))=zero k
 rw[L.mz,L.zm,L.az]
theorem Xm3(h:red k t.1){u i:El k}(hi:mul k t.1 i t.2=rat k 1)(M:¬Xde k t.1 u)(O:¬Xde k t.1 (mul k t.1 u i)): ¬Xde (k+1) t (up k u):=by
 rintro⟨⟨p,q⟩,e⟩
 have L:=Xax k t.1
 have o:add k (mul k t.1 p p) (mul k t.1 (mul k t.1 q q) t.2)=u:=congrArg Prod.fst e
 have I:add k (mul k t.1 p q) (mul k t.1 q p)=zero k:=congrArg Prod.snd e
 rw[L.mc q p] at I
 rcases Xh7 h (Yr9 h I) with j | j
 refine O ⟨q,?_⟩
 rw[<-o,j,L.mz,L.za]
 have:mul k t.1 (mul k t.1 (mul k t.1 q q) t.2) i=mul k t.1 (mul k t.1 q q) (mul k t.1 i t.2):=(Laws.req L [q,t.2,i] (.mul (.mul (.mul (.v 0) (.v 0)) (.v 1)) (.v 2)) (.mul (.mul (.v 0) (.v 0)) (.mul (.v 2) (.v 1))) (by decide +kernel))
 rw[this,hi,L.mo]
 exact M ⟨p,by rw[<-o,j,L.mz,L.zm,L.az]⟩
theorem Yjc{u v m w i:El k}(h:mul k t.1 m m=norm k t (u,v))(j:mul k t.1 w w=mul k t.1 (rat k (1/2)) (add k u m))(hi:mul k t.1 i (add k w w)=rat k 1):
 mul (k+1) t (w,mul k t.1 v i) (w,mul k t.1 v i)=(u,v):=by
 obtain⟨o,I⟩:=(Xax k t.1).hi Xgq j h hi
 exact W3f o I
theorem Xu6{a:El (k+1)}(h:Xde (k+1) t a): Xde k t.1 (norm k t a):=by
 obtain⟨w,rfl⟩:=h
 exact⟨norm k t w,by rw[Xr0]⟩
theorem Xq1(h:red k t.1){u v m:El k}(I:v≠zero k)(M:mul k t.1 m m=norm k t (u,v))(O:Xde (k+1) t (u,v)):
 ∃p,p≠zero k/\(mul k t.1 p p=mul k t.1 (rat k (1/2)) (add k u m)\/mul k t.1 p p=mul k t.1 (rat k (1/2)) (add k u (neg k m))):=by
 obtain⟨⟨p,q⟩,e⟩:=O
 have L:=Xax k t.1
 have T:add k (mul k t.1 p p) (mul k t.1 (mul k t.1 q q) t.2)=u:=congrArg Prod.fst e
 have U:add k (mul k t.1 p q) (mul k t.1 q p)=v:=congrArg Prod.snd e
 have o:add k (rat k (1/2)) (rat k (1/2))=rat k 1:=Xgq
 refine⟨p,λV=>I (by rw[<-U,V,L.mz,L.zm,L.az]),?_⟩
 have i:mul k t.1 p p=mul k t.1 (rat k (1/2)) (add k u (norm k t (p,q))):=by
  rw[<-T]
  show _=mul k t.1 (rat k (1/2)) (add k _ (add k (mul k t.1 p p) (neg k (mul k t.1 (mul k t.1 q q) t.2))))
  generalize rat k (1/2)=c at o |-
  have Z:mul k t.1 c (add k (add k (mul k t.1 p p) (mul k t.1 (mul k t.1 q q) t.2)) (add k (mul k t.1 p p) (neg k (mul k t.1 (mul k t.1 q q) t.2))))=mul k t.1 (add k c c) (mul k t.1 p p):=(Laws.req L [c,p,q,t.2] (.mul (.v 0) (.add (.add (.mul (.v 1) (.v 1)) (.mul (.mul (.v 2) (.v 2)) (.v 3))) (.add (.mul (.v 1) (.v 1)) (.neg (.mul (.mul (.v 2) (.v 2)) (.v 3)))))) (.mul (.add (.v 0) (.v 0)) (.mul (.v 1) (.v 1))) (by decide +kernel))
  rw[Z,o,L.om]
 have e3:mul k t.1 m m=mul k t.1 (norm k t (p,q)) (norm k t (p,q)):=by
  rw[M,<-e]
  exact Xr0 k t (pr p q) (pr p q)
 rcases Xu5 h e3 with j | j
 left;rw[j];exact i
 right;rw[j,L.nn];exact i
end
theorem Yae{k:Nat}{t:Tw k}{a b i:El k}(h:mul k t b a=rat k 1)(j:mul k t i a=rat k 1): b=i:=by
 have L:=Xax k t
 have e:mul k t b (mul k t i a)=mul k t i (mul k t b a):=(Laws.req L [a,b,i] (.mul (.v 1) (.mul (.v 2) (.v 0))) (.mul (.v 2) (.mul (.v 1) (.v 0))) (by decide +kernel))
 rw[h,j,L.mo,L.mo] at e
 exact e
theorem Yam{k:Nat}{t:Tw k}{w i:El k}(h:mul k t i w=rat k 1): mul k t (mul k t (rat k (1/2)) i) (add k w w)=rat k 1:=by
 have L:=Xax k t
 have j:add k (rat k (1/2)) (rat k (1/2))=rat k 1:=Xgq
 generalize rat k (1/2)=c at j |-
 have e:mul k t (mul k t c i) (add k w w)=mul k t (add k c c) (mul k t i w):=(Laws.req L [c,i,w] (.mul (.mul (.v 0) (.v 1)) (.add (.v 2) (.v 2))) (.mul (.add (.v 0) (.v 0)) (.mul (.v 1) (.v 2))) (by decide +kernel))
 rw[e,h,L.mo,j]
theorem Yja{k:Nat}{t:Tw (k+1)}(h:red (k+1) t){u v m w:El k}(U:v≠zero k)(V:mul k t.1 m m=norm k t (u,v))(i:mul k t.1 w w=mul k t.1 (rat k (1/2)) (add k u m)): w≠zero k:=by
 intro e
 have L:=Xax k t.1
 have I:add k (rat k (1/2)) (rat k (1/2))=rat k 1:=Xgq
 generalize rat k (1/2)=c at I i
 rw[e,L.mz] at i
 have M:add k u m=add k (mul k t.1 c (add k u m)) (mul k t.1 c (add k u m)):=by rw[<-L.dm,I,L.om]
 rw[<-i,L.az] at M
 have j:mul k t.1 m m=add k (mul k t.1 u u) (neg k (mul k t.1 (mul k t.1 v v) t.2)):=V
 have O:mul k t.1 (mul k t.1 v v) t.2=add k (mul k t.1 u u) (neg k (mul k t.1 m m)):=by
  rw[j];exact(Laws.req L [u,v,t.2] (.mul (.mul (.v 1) (.v 1)) (.v 2)) (.add (.mul (.v 0) (.v 0)) (.neg (.add (.mul (.v 0) (.v 0)) (.neg (.mul (.mul (.v 1) (.v 1)) (.v 2)))))) (by decide +kernel))
 have Z:add k (mul k t.1 u u) (neg k (mul k t.1 m m))=mul k t.1 (add k u (neg k m)) (add k u m):=(Laws.req L [u,m] (.add (.mul (.v 0) (.v 0)) (.neg (.mul (.v 1) (.v 1)))) (.mul (.add (.v 0) (.neg (.v 1))) (.add (.v 0) (.v 1))) (by decide +kernel))
 rw[Z,M,L.mz] at O
 have S:=Xao (Xad h.1)
 rcases Xh7 h.1 O with o | o
 rcases Xh7 h.1 o with T | T<;>exact U T
 have:=h.2.1
 rw[o,S.s0 L] at this
 cases this
end
end Go.Tow
namespace Go.Proofs.YtnedfplmoojbaaaGreatDoor
open Go Go.Num Go.Tow
def nS(r k p:Nat): Nat:=2*p+2*cB r k+r+1
theorem Sz.normS{r k p:Nat}{t:Tw (k+1)}{a:El (k+1)}(T:TS r (k+1) t)(h:Sz p (toL (k+1) a)): Sz (nS r k p) (toL k (Tow.norm k t a)):=by
 obtain⟨E,j,U,o⟩:=Xi7 T.1
 obtain⟨d,i,V,d2⟩:=h
 obtain⟨g,g0,g1,g2⟩:=T.2
 have Z:IsD d (2^p) (toL k a.1):=d2.left
 have hy:IsD d (2^p) (toL k a.2):=d2.right
 have h1:=(o _ _ d d _ _ i i Z Z).scale (W1p j g0)
 have h2:=o _ _ (d*d*E) g _ _ (W1p (W1p i i) j) g0 (o _ _ d d _ _ i i hy hy) g2
 rw[show d*d*E*g*E=d*d*E*(E*g) by rw[W0v (d*d*E),W1g g E]] at h2
 have hg:E*g<=2^cB r k*2^r:=W2b U (W2k g1)
 have I:2^(2*p+2*cB r k+r)=2^p*2^p*2^cB r k*(2^cB r k*2^r):=by
  rw[<-W0x,<-W0x,<-W0x,<-W0x];congr 1;omega
 have M:IsD (d*d*E*(E*g)) (2^(2*p+2*cB r k+r)) (toL k (Tow.mul k t.1 a.1 a.1)):=h1.mono (by rw[I];exact W0u _ hg)
 have O:IsD (d*d*E*(E*g)) (2^(2*p+2*cB r k+r)) (toL k (Tow.mul k t.1 (Tow.mul k t.1 a.2 a.2) t.2)):=h2.mono (by
  rw[I,W0v (2^p*2^p*2^cB r k),W1g (2^r)];exact W0a _)
 rw[Tow.norm,Xa0,Xb7]
 refine⟨d*d*E*(E*g),W1p (W1p (W1p i i) j) (W1p j g0),?_,(M.add O.neg).mono (by unfold nS;rw[W0z 2 (2*p+2*cB r k+r)];omega)⟩
 have h3:d*d*E*(E*g)<2^p*2^p*(2^cB r k*(2^cB r k*2^r)):=by
  rw[W0v (d*d)]
  refine W0y (W3g (W3u V V) (W1p j (W1p j g0))) (W0u _ (W2b U hg))
 have h4:2^nS r k p=2^(2*p+2*cB r k+r)*2:=by unfold nS;rw[W0z]
 rw[h4,I,W0v (2^p*2^p)]
 omega
theorem Sz.scal{r k p q:Nat}{t:Tw k}{x y n:El k}(U:TS r k t)(h:Sz p (toL k x++toL k y))(V:Sz q (toL k n)): Sz (p+q+cB r k) (toL k (Tow.mul k t x n)++toL k (Tow.mul k t y n)):=by
 obtain⟨E,o,Z,I⟩:=Xi7 U
 obtain⟨d,i,d1,d2⟩:=h
 obtain⟨e,j,k1,M⟩:=V
 have O:=I _ _ d e _ _ i j d2.left M
 have T:=I _ _ d e _ _ i j d2.right M
 rw[<-W0x,<-W0x] at O T
 refine⟨d*e*E,W1p (W1p i j) o,?_,O.append T⟩
 rw[W0x,W0x]
 exact W0y (W3g (W3u d1 k1) o) (W0u _ Z)
def iS(r:Nat): Nat->Nat->Nat
 | 0,p=>p+1
 | k+1,p=>p+iS r k (nS r k p)+cB r k
theorem IsD.neg2{d n:Nat}{l m:List Rat}(h:IsD d n (l++m)): IsD d n (l++m.map (- ·)):=h.left.append h.right.neg
theorem Sz.neg2{p:Nat}{l m:List Rat}(h:Sz p (l++m)): Sz p (l++m.map (- ·)):=by
 obtain⟨d,h0,i,j⟩:=h
 exact⟨d,h0,i,j.neg2⟩
theorem Sz.invS{r k p:Nat}{t:Tw k}{a b:El k}(i:TS r k t)(h:Sz p (toL k a))(hb:Tow.inv k t a=some b): Sz (iS r k p) (toL k b):=by
 induction k generalizing p with
 | zero=>exact h.inv i hb
 | succ k j =>
  simp only[Tow.inv] at hb
  split at hb
  cases hb
  rename_i n o
  injection hb with hb
  subst hb
  have I:=j i.1 (h.normS i) o
  show Sz _ (toL k _++toL k (Tow.neg k _))
  rw[Xb7]
  exact(Sz.scal i.1 h I).neg2
theorem Sz.dbl{p:Nat}{l:List Rat}(h:Sz p l): Sz (p+1) (List.zipWith (·+·) l l):=by
 obtain⟨d,h0,j,i⟩:=h
 exact⟨d,h0,by rw[W0z];omega,(i.add i).mono (by rw[W0z];omega)⟩
theorem Xqb{r:Nat}{k:Nat}: ∀ {s:Nat},r<=s->cB r k<=cB s k:=by
 induction k with
 | zero=>intro s h;exact W0a _
 | succ k i=>intro s h;have:=i h;show 2*cB r k+r+1<=2*cB s k+s+1;omega
theorem Xwe{r s k p q:Nat}(hr:r<=s)(h:p<=q): nS r k p<=nS s k q:=by have:=Xqb (k:=k) hr;unfold nS;omega
theorem Xpy{r s:Nat}(hr:r<=s): ∀ {k p q:Nat},p<=q->iS r k p<=iS s k q
 | 0,p,q,h=>by show p+1<=q+1;omega
 | k+1,p,q,h=>by
  have i:=Xpy hr (Xwe (k:=k) hr h) (k:=k)
  have j:=Xqb (k:=k) hr
  show p+iS r k (nS r k p)+cB r k<=q+iS s k (nS s k q)+cB s k
  omega
theorem Xji{r s:Nat}(hr:r<=s): ∀ {k p q:Nat},p<=q->iB r k p<=iB s k q
 | 0,p,q,h=>by show p+1<=q+1;omega
 | k+1,p,q,h=>by
  have i:=Xqb (k:=k) hr
  have j:=Xji hr (show nB r k p<=nB s k q by unfold nB;omega) (k:=k)
  show 2*(p+iB r k (nB r k p)+cB r k)<=2*(q+iB s k (nB s k q)+cB s k)
  omega
theorem Xro(x:Rat): (x*x).num=x.num*x.num/\(x*x).den=x.den*x.den:=by
 have h:(x.num*x.num).natAbs.gcd (x.den*x.den)=1:=by
  rw[W4d]
  exact Nat.Coprime.mul_right (Nat.Coprime.mul_left x.reduced x.reduced) (Nat.Coprime.mul_left x.reduced x.reduced)
 rw[Rat.num_mul,Rat.den_mul,h]
 exact⟨Int.ediv_one _,Nat.div_one _⟩
theorem Yjn(n:Nat): rt (n*n)=n:=Yjp (W0a _) (by rw[W1f,W1d];omega)
def sqN(n:Nat): Prop:=rt n*rt n=n
theorem Xlh{q:Rat}(h0:0<=q.num)(i:sqN q.num.natAbs)(h:sqN q.den): ∃x:Rat,x.num=(rt q.num.natAbs:Int)/\x.den=rt q.den/\x*x=q:=by
 have hd:rt q.den≠0:=λe=>q.den_nz (by rw[<-h,e])
 have j:(rt q.num.natAbs).Coprime (rt q.den):=by
  have:=q.reduced
  rw[<-i,<-h] at this
  exact Nat.Coprime.coprime_mul_right (Nat.Coprime.coprime_mul_right_right this)
 refine⟨⟨(rt q.num.natAbs:Int),rt q.den,hd,by rw[W1b];exact j⟩,rfl,rfl,?_⟩
 refine Rat.ext ?_ ?_
 rw[(Xro _).1]
 show (rt q.num.natAbs:Int)*(rt q.num.natAbs:Int)=q.num
 have:((rt q.num.natAbs*rt q.num.natAbs:Nat):Int)=(q.num.natAbs:Int):=by rw[i]
 rw[W2r] at this
 rw[this];omega
 rw[(Xro _).2];exact h
theorem Xo5{q:Rat}: (∃x:Rat,x*x=q)↔0<=q.num/\sqN q.num.natAbs/\sqN q.den:=by
 refine⟨?_,λ⟨h0,i,j⟩=>let ⟨x,_,_,h⟩:=Xlh h0 i j;⟨x,h⟩⟩
 rintro⟨x,rfl⟩
 obtain⟨o,I⟩:=Xro x
 rw[o,I]
 refine⟨?_,?_,?_⟩
 rcases Int.le_total 0 x.num with h | h
 exact W6y h h
 exact Int.mul_nonneg_of_nonpos_of_nonpos h h
 unfold sqN;rw[W4d,Yjn]
 unfold sqN;rw[Yjn]
theorem Sz.half{k:Nat}: Sz 3 (toL k (Tow.rat k (1/2))):=Sz.rat (p:=2) k ⟨show (1/2:Rat).num.natAbs<2^2 by decide +kernel,show ((1/2:Rat).den:Int).natAbs<2^2 by decide +kernel⟩
open Go Go.Vm Go.Num Go.Tow
section
variable{k:Nat}
theorem hvL(a:Tow.El (k+1)): ((toL k a.1++toL k a.2).map dq).length=2*2^k:=by rw[lq,W0i,Xab,Xab];omega
theorem hvT(a:Tow.El (k+1)): ((toL k a.1++toL k a.2).map dq).take (2^k)=(toL k a.1).map dq:=by rw[<-W2f,<-Xab k a.1,W7k]
theorem hvD(a:Tow.El (k+1)): ((toL k a.1++toL k a.2).map dq).drop (2^k)=(toL k a.2).map dq:=by rw[<-W5i,<-Xab k a.1,W8i]
theorem Xcq(a:Tow.El (k+1)): 2^k<=((toL k a.1++toL k a.2).map dq).length:=by rw[hvL];have:=W0p k;omega
theorem twL(t:Tw (k+1)): ((toT k t.1++[toL k t.2]).map dqs).length=k+1:=by rw[lt',W0i,Xaa];rfl
theorem Xj0(t:Tw (k+1)): k<=((toT k t.1++[toL k t.2]).map dqs).length:=by rw[twL];omega
theorem twT(t:Tw (k+1)): ((toT k t.1++[toL k t.2]).map dqs).take k=(toT k t.1).map dqs:=by rw[<-W2f,W7f (Xaa k t.1)]
theorem twU(t:Tw (k+1)): ((toT k t.1++[toL k t.2]).map dqs)[k]?=some (de t.2):=by rw[W2c,W0n (by rw[Xaa];exact W0a _),Xaa,W3a];rfl
theorem hvq(a:Tow.El (k+1))(h:k<=16): arB .quo .i64 (((toL k a.1++toL k a.2).map dq).length:Nat) 2 (2^k:Nat):=Ync (hvL a) (W0j (p16 h) (by decide))
theorem tw1(t:Tw (k+1))(h:k<=16): arB .sub .i64 (((toT k t.1++[toL k t.2]).map dqs).length:Nat) 1 k:=wr (by rw[twL];omega) (by simp only[inK];omega)
end
end Go.Proofs.YtnedfplmoojbaaaGreatDoor
namespace Go.Proofs.YtnedfplmoojbaaaGreatDoor.R6
open Go Go.Vm Go.Num Go.Tow Go.Proofs.YtnedfplmoojbaaaGreatDoor
theorem Norm_ok{k r s:Nat}{t:Tw (k+1)}{a:Tow.El (k+1)}(h:TS r (k+1) t)(ha:Sz s (toL (k+1) a))(o:k+1<=16)(I:nB r k s<=4398046511104): C0 342 [.d (dt t),.d (de a)] (·=.d (de (Tow.norm k t a))):=by
 have j:Sz s (toL k a.1):=Sz.left ha
 have i:Sz s (toL k a.2):=Sz.right ha
 have M:nB r k s=4*s+3*cB r k+r+1:=rfl
 refine En Tryz.func342 λ_ _ _=>?_
 refine Ar (2^k:Nat) rfl ?_ (hvq a (by omega))
 refine Dw rfl<|Ar k rfl ?_ (tw1 t (by omega))
 refine Tk k ((toT k t.1).map dqs) rfl rfl (Xj0 t) (twT t) ?_
 refine Ar k rfl ?_ (tw1 t (by omega))
 refine Ix k rfl (twU t)<|Dw rfl<|Tk (2^k) ((toL k a.1).map dq) rfl rfl (Xcq a) (hvT a) ?_
 refine Tk (2^k) ((toL k a.1).map dq) rfl rfl (Xcq a) (hvT a) ?_
 refine Ce rfl (Mul_el h.1 j j (by omega) (by omega))<|Dp (2^k) ((toL k a.2).map dq) rfl rfl (Xcq a) (hvD a) ?_
 refine Dp (2^k) ((toL k a.2).map dq) rfl rfl (Xcq a) (hvD a) ?_
 exact Ce rfl (Mul_el h.1 i i (by omega) (by omega))<|Ce rfl (Mul_el h.1 (i.mul h.1 i) h.2 (by omega) (by omega))<|Ce rfl (Sub_el (by omega) (j.mul h.1 j).ps ((i.mul h.1 i).mul h.1 h.2) (by omega))<|R0
theorem Root_ok{k i r:Nat}{t:Tw k}(h:k<=16)(hi:i<k): C0 223 [.d (dt t),.d (.int .i64 i)] (·=.d (de (Xdi k i))):=by
 have hp:=p16 h
 have j:2^i<2^k:=W4f (by decide) hi
 have h0:=W0p k
 have e:(0:Rat)::List.replicate (2^(toT k t).length-1) 0=List.replicate (2^k) 0:=by rw[Xaa,<-W4h,show 2^k-1+1=2^k by omega]
 refine En Tryz.func223 λ_ _ _=>?_
 refine Ce rfl (R2.FromInt_ok (z:=0) (by decide))<|Cr rfl (e ▸ Xjv (t:=toT k t) (x:=0) (by rw[Xaa];omega) (by rw[Xaa];omega)) ?_
 refine Dw rfl<|Ar (2^i:Nat) rfl ?_ (Xb1 (by omega))
 refine Ce rfl (R2.FromInt_ok (z:=1) (by decide))<|Eo (2^i) rfl (by simp only[lq,W1o];omega)<|Sto rfl (by simp only[lq,W1o];omega) (ms (f:=dq) (u:=1)) ?_
 refine R1 rfl (.own rfl (by simp) ?_)
 rw[W1i,<-Xqt hi]
 exact W0b (by simp[Xab])
def Ysg(k:Nat)(zs:List D)(v:AV)(H':Hpl): Prop:=(k=0/\v=.tup (.pr (.lit 4 zs) (.d (.int .i64 0)))/\H'=[])\/(v=.tup (.pr (.gr 1000000 4 zs) (.d (.int .i64 0)))/\H'=[(1000000,.tok zs.length 4)])
theorem Yr4(x:Rat): x⁻¹=1/x:=by rw[W5n,W5p]
theorem Yfi{k:Nat}{t:Tw k}(h:red k t){a:Tow.El k}(h0:a≠zero k): ∃b,Tow.inv k t a=some b:=(Xcp h).2 a h0
theorem Yfs{k:Nat}{t:Tw k}(h:red k t): zero k≠rat k 1:=λe=>by
 have i:=Xcy (x:=1) (Xad h)
 rw[<-e,(Xat h).2 rfl,Xb5 (by decide)] at i
 cases i
theorem Xww{k:Nat}{t:Tw k}(h:red k t){a b:Tow.El k}(e:Tow.inv k t a=some b): a≠zero k:=λh0=>by
 have i:=Xb9 e
 rw[h0,(Xax k t).mz] at i
 exact Yfs h i
theorem Ygj{k:Nat}{t:Tw (k+1)}{a:Tow.El (k+1)}{x:Tow.El k}{y:Tow.El (k+1)}(ha:a.2=zero k)(h:Tow.inv k t.1 a.1=some x)(i:Tow.inv (k+1) t a=some y): y=(x,zero k):=by
 refine Yae (t:=t) (a:=a) (Xb9 i) ?_
 have e:a=up k a.1:=by show (a.1,a.2)=(a.1,zero k);rw[ha]
 rw[e]
 exact(Xkj k t x a.1).trans (by rw[Xb9 h];rfl)
theorem Yh2{k:Nat}: ∀ {r s:Nat} {t:Tw k} {a:Tow.El k},TS r k t->Sz s (toL k a)->red k t->a≠zero k->k<=16->iB r k s<=4398046511104->∃x,Tow.inv k t a=some x/\CW0 297 [.d (dt t),.d (de a)] [] (Ysg k ((toL k x).map dq)):=by
 induction k with
 | zero =>
  intro r s t a j ha U h0 hk Z
  have Z:s+1<=4398046511104:=Z
  have e:∀y:Rat,y≠0->Tow.inv 0 () y=some (1/y:Rat):=λy T=>by rw[Yo2,if_neg T]
  refine⟨_,e a h0,?_⟩
  refine EnW Tryz.func297 λ_ _ _ _=>?_
  exact Yes rfl rfl<|Ix 0 rfl (u:=dq a) rfl<|No rfl (λh=>h0 (R2.zero_of h))<|Ix 0 rfl (u:=dq a) rfl<|Ce rfl (R2.Inv_ok (ha.qs (W0g.2 rfl)) (by omega) h0)<|Rw [] [] rfl (.tup (.cons (.rf rfl) (.one (.rf rfl) (λ_ _ e=>by cases e) (λ_ _ e=>by cases e)))) (.inl ⟨rfl,by rw[Yr4 a];rfl,rfl⟩)
 | succ k ih =>
  intro r s t a j ha U h0 hk Z
  have hx:Sz s (toL k a.1):=Sz.left ha
  have T:Sz s (toL k a.2):=Sz.right ha
  have M:=Xab k
  have hp:=p16 hk
  have hp1:2^(k+1)=2*2^k:=by rw[W0z];omega
  have hpk:=W0p k
  obtain⟨hi1,hi2⟩:=Xw2 Z
  have hN:=ha.norm j
  have hge:=Xw3 r k (nB r k s)
  have hiB1:=Xji (W0a r) (Xtp r k s) (k:=k)
  obtain⟨x,i⟩:=Yfi U h0
  refine⟨x,i,?_⟩
  have fit:∀ {g:Hp} {K:Hpl} {o:Nat} {zs:List D},Xds K (.gr o 4 zs)=true->FitR g K (.tup (.pr (.gr o 4 zs) (.d (.int .i64 0)))) (.tup (.pr (.gr o 4 zs) (.d (.int .i64 0)))):=λh=>.tup (.cons (.rf h) (.one (.rf rfl) (λ_ _ e=>by cases e) (λ_ _ e=>by cases e)))
  refine EnW Tryz.func297 λ_ _ _ _=>?_
  refine No rfl (by show ¬((((toT k t.1++[toL k t.2]).map dqs).length:Nat):Int)=0;rw[twL];omega)<|Ar (2^k:Nat) rfl ?_ (hvq a (by omega))
  refine Ar k rfl ?_ (tw1 t (by omega))
  refine Tk k ((toT k t.1).map dqs) rfl rfl (Xj0 t) (twT t) ?_
  refine Dp (2^k) ((toL k a.2).map dq) rfl rfl (Xcq a) (hvD a) ?_
  refine Ce rfl (Zero_ok (l:=toL k a.2) (by rw[M];omega))<|By rfl (λh1=>?_) λh1=>?_
  have ea:=(Xam k a.2).2 h1
  have e1:a.1≠zero k:=λe=>h0 (by show (a.1,a.2)=(zero k,zero k);rw[e,ea])
  obtain⟨y,I,hc⟩:=ih j.1 hx U.1 e1 (by omega) (by omega)
  have ex:=Ygj ea I i
  have el:(toL (k+1) x).map dq=(toL k y).map dq++((0:Rat)::List.replicate (2^(toT k t.1).length-1) 0).map dq:=by
   rw[ex,<-W2j,Xaa,<-W4h,show 2^k-1+1=2^k by omega,<-Xbu];rfl
  have hll:((toL (k+1) x).map dq).length<=1048576:=by rw[lq,Xab];omega
  refine Tk (2^k) ((toL k a.1).map dq) rfl rfl (Xcq a) (hvT a) ?_
  refine Cw [] rfl hc λv H' _ hv=>?_
  rcases hv with ⟨_,rfl,rfl⟩ | ⟨rfl,rfl⟩
  refine No rfl (by simp)<|Ce rfl (R2.FromInt_ok (z:=0) (by decide))<|Ce rfl (FromRat_ok (t:=toT k t.1) (x:=0) (by rw[Xaa];omega))<|ApL ((toL (k+1) x).map dq) rfl el.symm (by simp only[lq,W1j];omega) (by omega) ?_
  refine Og 4 rfl rfl ?_
  exact Rw [(54,1000000)] [(1000000,.tok ((toL (k+1) x).map dq).length 4)] rfl (fit rfl) (.inr ⟨rfl,rfl⟩)
  refine No rfl (by simp)<|Ce rfl (R2.FromInt_ok (z:=0) (by decide))<|Ce rfl (FromRat_ok (t:=toT k t.1) (x:=0) (by rw[Xaa];omega))<|ApG ((toL (k+1) x).map dq) rfl el.symm (by omega) ?_
  exact Rw [(54,1000000)] [(1000000,.tok ((toL (k+1) x).map dq).length 4)] rfl (fit rfl) (.inr ⟨rfl,rfl⟩)
  have hnz:Tow.norm k t a≠zero k:=by
   have V:Tow.inv (k+1) t a=match Tow.inv k t.1 (Tow.norm k t a) with | none=>none | some x=>some (mul k t.1 a.1 x,Tow.neg k (mul k t.1 a.2 x)):=rfl
   cases h2:Tow.inv k t.1 (Tow.norm k t a) with
   | none=>rw[i,h2] at V;cases V
   | some y=>exact Xww U.1 h2
  obtain⟨y,I,hc⟩:=ih j.1 hN U.1 hnz (by omega) (by omega)
  have O:=hN.inv j.1 I
  have ex:x=(mul k t.1 a.1 y,Tow.neg k (mul k t.1 a.2 y)):=by
   have V:Tow.inv (k+1) t a=match Tow.inv k t.1 (Tow.norm k t a) with | none=>none | some x=>some (mul k t.1 a.1 x,Tow.neg k (mul k t.1 a.2 x)):=rfl
   rw[i,I] at V;injection V
  have en:Tow.neg k (mul k t.1 a.2 y)=mul k t.1 (Tow.neg k a.2) y:=((Xax k t.1).nm _ _).symm
  have el:(toL (k+1) x).map dq=(toL k (mul k t.1 a.1 y)).map dq++(toL k (mul k t.1 (Tow.neg k a.2) y)).map dq:=by rw[ex,en,<-W2j];rfl
  have hll:((toL (k+1) x).map dq).length<=1048576:=by rw[lq,Xab];omega
  have hcd:C0 297 [.d (dt t.1),.d (de (Tow.norm k t a))] (·=.tup (.pr (.d (de y)) (.d (.int .i64 0)))):=CW.data hc rfl λv H' hv=>by
   rcases hv with ⟨_,rfl,rfl⟩ | ⟨rfl,rfl⟩
   exact⟨_,.tup (.cons (.lit rfl) (.one (.rf rfl) (λ_ _ e=>by cases e) (λ_ _ e=>by cases e))),rfl⟩
   exact⟨_,.tup (.cons (.gr rfl) (.one (.rf rfl) (λ_ _ e=>by cases e) (λ_ _ e=>by cases e))),rfl⟩
  refine Ce rfl (Norm_ok j ha hk (by omega))<|Ce rfl hcd<|No rfl (by simp)<|Dw rfl<|Tk (2^k) ((toL k a.1).map dq) rfl rfl (Xcq a) (hvT a) ?_
  rcases Xs4 j.1 hx O (by omega) (by omega) with hm | hm
  refine Ce rfl hm<|Dp (2^k) ((toL k a.2).map dq) rfl rfl (Xcq a) (hvD a) ?_
  refine Ce rfl (Neg_el (by omega) T.ps (by omega))<|Ce rfl (Mul_el j.1 (Xhr T) O (by omega) (by omega))<|ApL ((toL (k+1) x).map dq) rfl el.symm (by rw[lq,M];omega) (by omega) ?_
  refine Og 4 rfl rfl ?_
  exact Rw [(80,1000000)] [(1000000,.tok ((toL (k+1) x).map dq).length 4)] rfl (fit rfl) (.inr ⟨rfl,rfl⟩)
  refine Cg rfl hm ?_
  refine Dp (2^k) ((toL k a.2).map dq) rfl rfl (Xcq a) (hvD a) ?_
  refine Ce rfl (Neg_el (by omega) T.ps (by omega))<|Ce rfl (Mul_el j.1 (Xhr T) O (by omega) (by omega))<|ApG ((toL (k+1) x).map dq) rfl el.symm (by omega) ?_
  exact Rw [(80,1000000)] [(1000000,.tok ((toL (k+1) x).map dq).length 4)] rfl (fit rfl) (.inr ⟨rfl,rfl⟩)
theorem Inv_ok{k r s:Nat}{t:Tw k}{a x:Tow.El k}(o:TS r k t)(ha:Sz s (toL k a))(i:red k t)(j:Tow.inv k t a=some x)(I:k<=16)(M:iB r k s<=4398046511104): C0 297 [.d (dt t),.d (de a)] (·=.tup (.pr (.d (de x)) (.d (.int .i64 0)))):=by
 obtain⟨y,h,O⟩:=Yh2 o ha i (Xww i j) I M
 rw[j] at h
 injection h with h
 subst h
 exact CW.data O rfl λv H' T=>by
  rcases T with ⟨_,rfl,rfl⟩ | ⟨rfl,rfl⟩
  exact⟨_,.tup (.cons (.lit rfl) (.one (.rf rfl) (λ_ _ e=>by cases e) (λ_ _ e=>by cases e))),rfl⟩
  exact⟨_,.tup (.cons (.gr rfl) (.one (.rf rfl) (λ_ _ e=>by cases e) (λ_ _ e=>by cases e))),rfl⟩
theorem Inv0_ok{k:Nat}: ∀ {t:Tw k},k<=16->C0 297 [.d (dt t),.d (de (zero k))] (·=.tup (.pr (.d (dqs [])) (.d (.int .i64 6)))):=by
 induction k with
 | zero =>
  intro t h
  refine En Tryz.func297 λ_ _ _=>?_
  exact Yes rfl rfl<|Ix 0 rfl (u:=dq 0) rfl<|Yes rfl (by decide +kernel)<|RTt rfl (.cons (.nil rfl) (.one (.rf rfl) (λ_ _ e=>by cases e) (λ_ _ e=>by cases e)))
 | succ k i =>
  intro t h
  have hp:=p16 h
  have j:2^(k+1)=2*2^k:=by rw[W0z];omega
  refine En Tryz.func297 λ_ _ _=>?_
  refine No rfl (by show ¬((((toT k t.1++[toL k t.2]).map dqs).length:Nat):Int)=0;rw[twL];omega)<|Ar (2^k:Nat) rfl ?_ (hvq (zero k,zero k) (by omega))
  refine Ar k rfl ?_ (tw1 t (by omega))
  refine Tk k ((toT k t.1).map dqs) rfl rfl (Xj0 t) (twT t) ?_
  refine Dp (2^k) ((toL k (zero k)).map dq) rfl rfl (Xcq (zero k,zero k)) (hvD (zero k,zero k)) ?_
  refine Ce rfl (Zero_ok (l:=toL k (zero k)) (by rw[Xab];omega))<|Yes rfl ((Xam k _).1 rfl)<|Tk (2^k) ((toL k (zero k)).map dq) rfl rfl (Xcq (zero k,zero k)) (hvT (zero k,zero k)) ?_
  exact Ce rfl (i (t:=t.1) (by omega))<|Yes rfl (by decide)<|RTt rfl (.cons (.nil rfl) (.one (.rf rfl) (λ_ _ e=>by cases e) (λ_ _ e=>by cases e)))
end Go.Proofs.YtnedfplmoojbaaaGreatDoor.R6
namespace Go.Proofs.YtnedfplmoojbaaaGreatDoor
open Go Go.Num Go.Tow
def gC(r:Nat): Nat->Nat
 | 0=>0
 | k+1=>2*gC r k+2*cB r k+r+iS r k r+2
theorem IsD.pw{d n a b:Nat}{l:List Rat}(h:IsD d (n*2^a) l)(i:a<=b): IsD d (n*2^b) l:=h.mono (W0u _ (W0o (by decide) i))
theorem IsD.sc{d n a b e:Nat}{l:List Rat}(h:IsD d (n*2^a) l)(i:0<e)(hb:e<=2^b): IsD (d*e) (n*2^(a+b)) l:=(h.scale i).mono (by rw[W0x,<-W0v];exact W0u _ hb)
theorem IsD.dbl{d n:Nat}{l:List Rat}(h:IsD d n (List.zipWith (·+·) l l)): IsD (d*2) n l:=λx j=>by
 obtain⟨i,hi⟩:=W3d j
 obtain⟨z,o,I⟩:=h (x+x) (W0h (i:=i) (by rw[W6x,hi]))
 refine⟨z,?_,I⟩
 rw[<-o,W6p]
 show x*(d*2)=_
 grind
theorem Xvs{x:Rat}{e n:Nat}(U:0<e)(h:IsD (e*e) (n*n) [x*x]): IsD e n [x]:=λy M=>by
 obtain rfl:=W0g.1 M
 obtain⟨z,O,I⟩:=h _ (W0w ..)
 have T:(y*e)*(y*e)=(z:Rat):=by rw[<-O,W6p];grind
 obtain⟨j,o⟩:=Xro (y*e)
 rw[T] at j o
 have o:1=(y*e).den*(y*e).den:=o
 have j:z=(y*e).num*(y*e).num:=j
 have hd:(y*e).den=1:=Nat.eq_one_of_mul_eq_one_left o.symm
 refine⟨(y*e).num,?_,?_⟩
 have:=Xl4 (y*e)
 rw[hd] at this
 rw[<-this];exact(W5w _).symm
 rw[j,W4d] at I
 exact Nat.lt_of_not_le λi=>W7q _ (W0y I (W2b i i))
theorem Xrg: ∀ {k r:Nat} {t:Tw k},TS r k t->red k t->∃j,0<j/\j<=2^gC r k/\∀(s:El k) (e n:Nat),0<e->IsD (e*e) (n*n) (toL k (mul k t s s))->IsD (e*j) (n*2^gC r k) (toL k s)
 | 0,r,t,_,_=>⟨1,by decide,W0a 1,λs e n I h=>by rw[W4j,show 2^gC r 0=1 from rfl,W4j];exact Xvs I h⟩
 | k+1,r,t,O,hR=>by
  obtain⟨E,E0,E1,E2⟩:=Xi7 O.1
  obtain⟨g,g0,T,V⟩:=O.2
  obtain⟨j,D0,D1,D2⟩:=Xrg O.1 hR.1
  have L:=Xax k t.1
  obtain⟨i,hi⟩:=(Xcp hR.1).2 t.2 (show t.2≠zero k from λh0=>hR.2.2 ⟨zero k,by rw[h0,L.mz]⟩)
  obtain⟨f,f0,Z,f2⟩:=Sz.invS O.1 O.2 hi
  have hi:=Xb9 hi
  generalize hc:cB r k=c at *
  generalize hq:iS r k r=q at *
  generalize hG:gC r k=G at *
  have hg':gC r (k+1)=2*G+2*c+r+q+2:=by show 2*gC r k+2*cB r k+r+iS r k r+2=_;rw[hc,hq,hG]
  have T:=W2k T
  have Z:=W2k Z
  have Eg1:E*g<=2^(c+r):=by rw[W0x];exact W2b E1 T
  have Eg0:=W1p E0 g0
  have M:∀ {a b:El k} {d e n m x y:Nat},0<d->0<e->IsD d (n*2^x) (toL k a)->IsD e (m*2^y) (toL k b)->IsD (d*e*E) (n*m*2^(x+y+c)) (toL k (mul k t.1 a b)):=λhd I h h'=>(E2 _ _ _ _ _ _ hd I h h').mono (by
   rw[W0x,W0x];exact Nat.le_of_eq (by ac_rfl))
  refine⟨2*(E*g*j)*j*(f*E),?_,?_,λs e n I h=>?_⟩
  exact W1p (W1p (W1p (by decide) (W1p Eg0 D0)) D0) (W1p f0 E0)
  have x1:=W2b (W2b (W2b (W0a 2) (W2b Eg1 D1)) D1) (W2b Z E1)
  refine W0j x1 ?_
  rw[show (2:Nat)*(2^(c+r)*2^G)*2^G*(2^q*2^c)=2^(1+((c+r)+G)+G+(q+c)) by simp only[W0x]]
  exact W0o (by decide) (by omega)
  obtain⟨u,v⟩:=s
  have ha:IsD (e*e) (n*n) (toL k (add k (mul k t.1 u u) (mul k t.1 (mul k t.1 v v) t.2))):=h.left
  have hb:IsD (e*e) (n*n) (toL k (add k (mul k t.1 u v) (mul k t.1 v u))):=h.right
  generalize h1:add k (mul k t.1 u u) (mul k t.1 (mul k t.1 v v) t.2)=U at ha
  generalize h2:add k (mul k t.1 u v) (mul k t.1 v u)=a2 at hb
  have o:=W1p I I
  have ha:IsD (e*e) (n*n*2^0) (toL k U):=by simpa using ha
  have hb:IsD (e*e) (n*n*2^0) (toL k a2):=by simpa using hb
  have V:IsD g (1*2^r) (toL k t.2):=by simpa using V
  have f2:IsD f (1*2^q) (toL k i):=by simpa using f2
  obtain⟨N,hN⟩:∃N,N=add k (mul k t.1 u u) (neg k (mul k t.1 (mul k t.1 v v) t.2)):=⟨_,rfl⟩
  have hNN:mul k t.1 N N=add k (mul k t.1 U U) (neg k (mul k t.1 (mul k t.1 a2 a2) t.2)):=by
   rw[hN,<-h1,<-h2]
   exact(Laws.req L [u,v,t.2] (.mul (.add (.mul (.v 0) (.v 0)) (.neg (.mul (.mul (.v 1) (.v 1)) (.v 2)))) (.add (.mul (.v 0) (.v 0)) (.neg (.mul (.mul (.v 1) (.v 1)) (.v 2))))) (.add (.mul (.add (.mul (.v 0) (.v 0)) (.mul (.mul (.v 1) (.v 1)) (.v 2))) (.add (.mul (.v 0) (.v 0)) (.mul (.mul (.v 1) (.v 1)) (.v 2)))) (.neg (.mul (.mul (.add (.mul (.v 0) (.v 1)) (.mul (.v 1) (.v 0))) (.add (.mul (.v 0) (.v 1)) (.mul (.v 1) (.v 0)))) (.v 2)))) (by decide +kernel))
  have n1:IsD (e*e*E*g*(e*e*E*g)) (n*n*2^(c+r+1)*(n*n*2^(c+r+1))) (toL k (mul k t.1 N N)):=by
   rw[hNN,Xa0,Xb7]
   have x1:=(M o o ha ha).sc (W1p Eg0 g0) (show E*g*g<=2^(c+r+r) by rw[W0x 2 (c+r)];exact W2b Eg1 T)
   have x2:=((M (W1p (W1p o o) E0) g0 (M o o hb hb) V).sc g0 T).neg
   rw[W4j] at x2
   rw[show e*e*(e*e)*E*(E*g*g)=e*e*E*g*(e*e*E*g) by ac_rfl] at x1
   rw[show e*e*(e*e)*E*g*E*g=e*e*E*g*(e*e*E*g) by ac_rfl] at x2
   have x3:=x1.pw (by omega:_<=2*c+2*r)
   have x4:=x2.pw (by omega:_<=2*c+2*r)
   refine(x3.add x4).mono ?_
   rw[<-Nat.mul_two]
   have x5:2^(2*c+2*r)*2<=2^(c+r+1)*2^(c+r+1):=by
    rw[<-W0z,<-W0x];exact W0o (by decide) (by omega)
   have x6:=W0u (n*n*(n*n)) x5
   rw[show n*n*(n*n)*2^(2*c+2*r)*2=n*n*(n*n)*(2^(2*c+2*r)*2) by ac_rfl]
   exact W0j x6 (Nat.le_of_eq (by ac_rfl))
  have n2:=D2 N (e*e*E*g) (n*n*2^(c+r+1)) (W1p (W1p o E0) g0) n1
  rw[W0v (n*n),<-W0x] at n2
  have K0:0<E*g*j:=W1p Eg0 D0
  have K1:E*g*j<=2^(c+r+G):=by rw[W0x 2 (c+r)];exact W2b Eg1 D1
  have a':=ha.sc K0 K1
  rw[show e*e*E*g*j=e*e*(E*g*j) by ac_rfl] at n2
  have half:∀ {w S:El k},add k w w=S->IsD (e*e*(E*g*j)) (n*n*2^(c+r+G+2)) (toL k S)->IsD (e*e*(E*g*j)*2) (n*n*2^(c+r+G+2)) (toL k w):=λe h=>IsD.dbl (by rw[<-Xa0,e];exact h)
  have s1:IsD (e*e*(E*g*j)) (n*n*2^(c+r+G+2)) (toL k (add k U N)):=by
   rw[Xa0]
   refine((a'.pw (by omega:_<=c+r+G+1)).add (n2.pw (by omega:_<=c+r+G+1))).mono ?_
   rw[W0z 2 (c+r+G+1),<-W0v,Nat.mul_two];exact W0a _
  have s2:IsD (e*e*(E*g*j)) (n*n*2^(c+r+G+2)) (toL k (add k U (neg k N))):=by
   rw[Xa0,Xb7]
   refine((a'.pw (by omega:_<=c+r+G+1)).add ((n2.pw (by omega:_<=c+r+G+1)).neg)).mono ?_
   rw[W0z 2 (c+r+G+1),<-W0v,Nat.mul_two];exact W0a _
  have u1:=half (w:=mul k t.1 u u) (by rw[<-h1,hN];exact(Laws.req L [u,v,t.2] (.add (.mul (.v 0) (.v 0)) (.mul (.v 0) (.v 0))) (.add (.add (.mul (.v 0) (.v 0)) (.mul (.mul (.v 1) (.v 1)) (.v 2))) (.add (.mul (.v 0) (.v 0)) (.neg (.mul (.mul (.v 1) (.v 1)) (.v 2))))) (by decide +kernel))) s1
  have v1:=half (w:=mul k t.1 (mul k t.1 v v) t.2) (by rw[<-h1,hN];exact(Laws.req L [u,v,t.2] (.add (.mul (.mul (.v 1) (.v 1)) (.v 2)) (.mul (.mul (.v 1) (.v 1)) (.v 2))) (.add (.add (.mul (.v 0) (.v 0)) (.mul (.mul (.v 1) (.v 1)) (.v 2))) (.neg (.add (.mul (.v 0) (.v 0)) (.neg (.mul (.mul (.v 1) (.v 1)) (.v 2)))))) (by decide +kernel))) s2
  have K2:0<E*g*j*2:=W1p K0 (by decide)
  have ek:0<e*(E*g*j*2):=W1p I K2
  have sq:∀ {w:El k} {x:Nat},x<=(c+r+G+2)+(c+r+G+2)->IsD (e*(E*g*j*2)*(e*(E*g*j*2))) (n*n*2^x) (toL k (mul k t.1 w w))->IsD (e*(E*g*j*2)*j) (n*2^(c+r+G+2+G)) (toL k w):=λ{w x} hx h=>by
   have h':=D2 w _ (n*2^(c+r+G+2)) ek ((h.pw hx).mono (by rw[W0x 2 (c+r+G+2) (c+r+G+2)];exact Nat.le_of_eq (by ac_rfl)))
   rwa[W0v n,<-W0x] at h'
  have u2:IsD (e*(E*g*j*2)*j) (n*2^(c+r+G+2+G)) (toL k u):=by
   refine sq (x:=c+r+G+2+(c+r+G+1)) (by omega) ?_
   have:=u1.sc K2 (show E*g*j*2<=2^(c+r+G+1) by rw[W0z];exact W0l _ K1)
   rwa[show e*e*(E*g*j)*2*(E*g*j*2)=e*(E*g*j*2)*(e*(E*g*j*2)) by ac_rfl] at this
  have v2:IsD (e*(E*g*j*2)*j) (n*2^(c+r+G+2+G)) (toL k (mul k t.1 v t.2)):=by
   refine sq (x:=c+r+G+2+r+c+(G+1)) (by omega) ?_
   have:=(M (W1p (W1p o K0) (by decide)) g0 v1 V).sc (W1p D0 (by decide:0<2)) (show j*2<=2^(G+1) by rw[W0z];exact W0l _ D1)
   rw[W4j,show e*e*(E*g*j)*2*g*E*(j*2)=e*(E*g*j*2)*(e*(E*g*j*2)) by ac_rfl] at this
   rwa[show mul k t.1 (mul k t.1 v t.2) (mul k t.1 v t.2)=mul k t.1 (mul k t.1 (mul k t.1 v v) t.2) t.2 from(Laws.req L [v,t.2] (.mul (.mul (.v 0) (.v 1)) (.mul (.v 0) (.v 1))) (.mul (.mul (.mul (.v 0) (.v 0)) (.v 1)) (.v 1)) (by decide +kernel))]
  have v3:IsD (e*(E*g*j*2)*j*f*E) (n*1*2^(c+r+G+2+G+q+c)) (toL k v):=by
   have:=M (W1p ek D0) f0 v2 f2
   rwa[show mul k t.1 (mul k t.1 v t.2) i=v by rw[L.ma,L.mc t.2,hi,L.mo]] at this
  have u3:=u2.sc (W1p f0 E0) (show f*E<=2^(q+c) by rw[W0x];exact W2b Z E1)
  rw[show e*(2*(E*g*j)*j*(f*E))=e*(E*g*j*2)*j*(f*E) by ac_rfl,hg']
  refine IsD.append (u3.pw (by omega)) ?_
  rw[W4j,W0v _ f E] at v3
  exact v3.pw (by omega)
theorem Sz.rootS{k r p:Nat}{t:Tw k}{s a:El k}(j:TS r k t)(o:red k t)(ha:Sz p (toL k a))(e:Tow.mul k t s s=a): Sz (p+gC r k) (toL k s):=by
 obtain⟨I,D0,D1,D2⟩:=Xrg j o
 obtain⟨d,h,i,d2⟩:=ha
 subst e
 have:=D2 s d (2^p) h ((d2.scale h).mono (W0u _ (W2k i)))
 rw[<-W0x] at this
 refine⟨_,W1p h D0,?_,this⟩
 rw[W0x]
 exact W0y (W3g i D0) (W0u _ D1)
def sX(r k p:Nat): Nat:=p+nS r k p+gC r k+cB r k+iS r k r+4
def vB(r:Nat): Nat->Nat->Nat
 | 0,p=>p
 | k+1,p=>vB r k (nB r k p)
def qB(r:Nat): Nat->Nat->Nat
 | 0,p=>p
 | k+1,p=>p+vB r (k+1) p+vB r (k+1) r+nB r k p+qB r k (sX r k p)+iB r k (sX r k p+gC r k)+iS r k (sX r k p+gC r k)+iB r k r+2*cB r k+4
theorem Xwg{r k p q:Nat}(h:p<=q): nB r k p<=nB r k q:=by unfold nB;omega
theorem Xc9{r:Nat}: ∀ {k s s':Nat},s<=s'->vB r k s<=vB r k s'
 | 0,_,_,h=>h
 | k+1,_,_,h=>Xc9 (k:=k) (Xwg h)
theorem Xdv{r:Nat}: ∀(k s:Nat),s<=vB r k s
 | 0,_=>W0a _
 | k+1,s=>W0j (Xtp r k s) (Xdv k _)
theorem Xg0{r i k s:Nat}(h:i<=k): vB r i s<=vB r k s:=by
 induction k generalizing s with
 | zero=>rw[show i=0 by omega];exact W0a _
 | succ k j =>
  by_cases e:i=k+1
  rw[e];exact W0a _
  exact W0j (j (by omega)) (Xc9 (k:=k) (Xtp r k s))
theorem Yfc{r k p q:Nat}(h:p<=q): sX r k p<=sX r k q:=by
 have:=Xwe (W0a r) h (k:=k)
 unfold sX;omega
theorem Xdr{r:Nat}: ∀ {k p q:Nat},p<=q->qB r k p<=qB r k q
 | 0,_,_,h=>h
 | k+1,p,q,h=>by
  have j:=Xc9 (r:=r) (k:=k+1) h
  have o:=Xwg (r:=r) (k:=k) h
  have i:=Yfc (r:=r) (k:=k) h
  have I:=Xdr (r:=r) (k:=k) i
  have M:=Xji (W0a r) (k:=k) (by omega:sX r k p+gC r k<=sX r k q+gC r k)
  have O:=Xpy (W0a r) (k:=k) (by omega:sX r k p+gC r k<=sX r k q+gC r k)
  unfold qB;omega
theorem Yfm{r:Nat}: ∀ {k p:Nat},p<=qB r k p
 | 0,_=>W0a _
 | k+1,_=>by unfold qB;omega
theorem Xpc{r i k p:Nat}(h:i<=k): qB r i p<=qB r k p:=by
 induction k generalizing p with
 | zero=>rw[show i=0 by omega];exact W0a _
 | succ k j =>
  by_cases e:i=k+1
  rw[e];exact W0a _
  have o:=j (p:=p) (by omega)
  have I:qB r k p<=qB r k (sX r k p):=Xdr (by unfold sX;omega)
  have M:qB r k (sX r k p) <= qB r (k + 1) p := by conv => rhs; unfold qB
                                                   omega
  omega
open Go Go.Vm Go.Num Go.Tow
theorem Xh4(x:Rat): Xa9 x.num 0=Xjz x:=by
 rcases Xay x.num 0 with ⟨h,e⟩ | ⟨h,e⟩ | ⟨h,e⟩<;>rw[e]
 rw[Xfd (by rw[Rat.lt_iff];show x.num*1<0*_;omega)]
 rw[W5g.1 h];rfl
 rw[Xb5 (by rw[Rat.lt_iff];show 0*_<x.num*1;omega)]
theorem Ycq{k:Nat}(t:Tw (k+1))(a:Tow.El (k+1)): sgn (k+1) t a=if sgn k t.1 a.2=0\/sgn k t.1 a.1=sgn k t.1 a.2 then sgn k t.1 a.1 else if sgn k t.1 a.1=0 then sgn k t.1 a.2 else sgn k t.1 a.1*sgn k t.1 (Tow.norm k t a):=rfl
theorem Xvf{k:Nat}{t i:Tw k}{a b:Tow.El k}: arB .mul .i64 (sgn k t a) (sgn k i b) (sgn k t a*sgn k i b):=by
 rcases Xco t a with h | h | h<;>rcases Xco i b with j | j | j<;>rw[h,j]<;>exact wr rfl (by simp[inK])
theorem Xhz{k:Nat}: ∀ {r s:Nat} {t:Tw k} {a:Tow.El k},TS r k t->Sz s (toL k a)->k<=16->vB r k s<=4398046511104->r<=4398046511104->C0 152 [.d (dt t),.d (de a)] (·=.d (.int .i64 (sgn k t a))):=by
 induction k with
 | zero =>
  intro r s t a i ha Z M o
  have M:s<=4398046511104:=M
  have O:∀y:Rat,Qs s y->C0 152 [.d (dts []),.d (dqs [y])] (·=.d (.int .i64 (Xjz y))):=λy j=>by
   refine En Tryz.func152 λ_ _ _=>?_
   refine Yes rfl rfl<|Ix 0 rfl (u:=dq y) rfl<|Ce rfl (Xbv j (by omega)) ?_
   rw[Xh4]
   exact R0
  exact O a (ha.qs (W0g.2 rfl))
 | succ k T =>
  intro r s t a i ha Z M o
  have I:Sz s (toL k a.1):=Sz.left ha
  have j:Sz s (toL k a.2):=Sz.right ha
  have hv:vB r k (nB r k s)<=4398046511104:=M
  have hv1:=Xdv (r:=r) k (nB r k s)
  have hv2:=Xc9 (r:=r) (k:=k) (Xtp r k s)
  have hn:nB r k s=4*s+3*cB r k+r+1:=rfl
  have hz:=ha.norm i
  refine En Tryz.func152 λ_ _ _=>?_
  refine No rfl (by show ¬((((toT k t.1++[toL k t.2]).map dqs).length:Nat):Int)=0;rw[twL];omega)<|Ar k rfl ?_ (tw1 t (by omega))
  refine Ar (2^k:Nat) rfl ?_ (hvq a (by omega))
  refine Dw rfl<|Tk k ((toT k t.1).map dqs) rfl rfl (Xj0 t) (twT t) ?_
  refine Tk (2^k) ((toL k a.1).map dq) rfl rfl (Xcq a) (hvT a) ?_
  refine Dp (2^k) ((toL k a.2).map dq) rfl rfl (Xcq a) (hvD a) ?_
  refine Ce rfl (T i.1 I (by omega) (by omega) o)<|Ce rfl (T i.1 j (by omega) (by omega) o) ?_
  rw[Ycq]
  refine By rfl (λh=>?_) λh=>?_
  rw[if_pos (.inl h)]
  exact R0
  refine By rfl (λU=>?_) λU=>?_
  rw[if_pos (.inr U)]
  exact R0
  rw[if_neg (λe=>e.elim h U)]
  refine By rfl (λV=>?_) λV=>?_
  rw[if_pos V]
  exact R0
  rw[if_neg V]
  refine Dw rfl<|Ce rfl (Xdo i.1 I I (by omega) (by omega) o)<|Ix k rfl (twU t)<|Ce rfl (Xdo i.1 j j (by omega) (by omega) o)<|Ce rfl (Xdo i.1 i.2 (j.mul i.1 j) (by omega) (by omega) o)<|Ce rfl (Xio i.1 (I.mul i.1 I) (i.2.mul i.1 (j.mul i.1 j)) (by omega) (by omega) o) ?_
  rw[(Xax k t.1).mc t.2]
  refine Ce rfl (T i.1 hz (by omega) hv o)<|Ar _ rfl ?_ Xvf
  exact R0
theorem Tw.take{k:Nat}: ∀ {t:Tw k} {i:Nat},i<k->∃(w:Tw i) (x:Tow.El i),(toT k t).take i=toT i w/\(toT k t)[i]?=some (toL i x)/\(∀r,TS r k t->TS r i w/\Sz r (toL i x))/\(Xcg k t->Xcg i w/\sgn i w x=1)/\(red k t->red i w/\sgn i w x=1/\¬Xde i w x):=by
 induction k with
 | zero=>intro t i h;omega
 | succ k o =>
  intro t i h
  have j:=Xaa k t.1
  by_cases e:i=k
  subst e
  refine⟨t.1,t.2,W7f j,?_,λr h=>h,λh=>h,λh=>h⟩
  show (toT i t.1++[toL i t.2])[i]?=_
  rw[W0n (by omega),j,W3a];rfl
  obtain⟨w,x,I,M,O,T,U⟩:=o (t:=t.1) (i:=i) (by omega)
  refine⟨w,x,?_,?_,λr h=>O r h.1,λh=>T h.1,λh=>U h.1⟩
  show (toT k t.1++[toL k t.2]).take i=_
  rw[W2s (by omega),I]
  show (toT k t.1++[toL k t.2])[i]?=_
  rw[W0q (by omega),M]
theorem qs0: Qs 1 0:=⟨show (0:Rat).num.natAbs<2^1 by decide +kernel,show ((0:Rat).den:Int).natAbs<2^1 by decide +kernel⟩
section
variable{k r s:Nat}{t:Tw k}{a:Tow.El k}
theorem Xqe(j:TS r k t)(M:Xcg k t)(o:k<=16)(Z:vB r k r<=4398046511104)(hr:r<=4398046511104): C0 248 [.d (dt t)] (·=.b true):=by
 refine En Tryz.func248 λ_ _ _=>?_
 refine Ce rfl (Xah (z:=0) (by decide))<|Ce rfl (Xb8 (x:=0) (p:=1) j o hr qs0 (by decide))<|Ce rfl (Xcc j (Sz.rat (p:=1) k qs0) o (by decide) hr)<|No rfl (by simp)<|Lo (λi:Nat=>[(0,.d (dt t)),(11,.d (dt t)),(12,.d (.int .i64 ((toT k t).map dqs).length)),(13,.d (.int .i64 i))]) (λ_=>[]) (λi=>i<=k) (λi=>k-i) 0 [] rfl (by omega) (λi hi=>?_)
 refine By rfl (λh=>?_) λh=>?_<;>simp only[lt',Xaa] at h
 obtain⟨w,x,O,T,U,V,h5⟩:=Tw.take (t:=t) (i:=i) (by omega)
 have I:=U r j
 have h6:=Xg0 (r:=r) (s:=r) (by omega:i<=k)
 refine Ix i rfl (mp T)<|Tk i ((toT i w).map dqs) rfl rfl (by rw[lt',Xaa];omega) (by rw[<-W2f,O]) ?_
 refine Ce rfl (Xhz I.1 I.2 (by omega) (by omega) hr)<|No rfl (by rw[(V M).2];decide)<|Ar (i+1:Nat) rfl ?_
 exact Bk (i+1) [] rfl (by omega:i+1<=k) (by show k-(i+1)<k-i;omega)
 exact R0
theorem Xjl{l:List (List Rat)}(j:TS r k t)(M:Xcg k t)(o:k<=16)(O:vB r k r<=4398046511104)(hr:r<=4398046511104)(T:∀x∈l,∃a:Tow.El k,x=toL k a/\Sz s (toL k a))(V:l.length<=1000)(U:s<=4398046511104): C0 151 [.d (dt t),.d (dts l)] (·=.b true):=by
 refine En Tryz.func151 λ_ _ _=>?_
 refine Lo (λi:Nat=>[(0,.d (dt t)),(7,.d (dts l)),(8,.d (.int .i64 (l.map dqs).length)),(9,.d (.int .i64 i))]) (λ_=>[]) (λi=>i<=l.length) (λi=>l.length-i) 0 [] rfl (by omega) (λi hi=>?_)
 refine By rfl (λh=>?_) λh=>?_<;>simp only[lt'] at h
 obtain⟨x,I⟩:∃x,l[i]?=some x:=⟨_,W0e (by omega)⟩
 obtain⟨a,rfl,ha⟩:=T x (W0h I)
 refine Ix i rfl (mp I)<|Ce rfl (Xcc j ha o U hr)<|No rfl (by simp)<|Ar (i+1:Nat) rfl ?_
 exact Bk (i+1) [] rfl (by omega:i+1<=l.length) (by show l.length-(i+1)<l.length-i;omega)
 exact Ce rfl (Xqe j M o O hr)<|R0
theorem Xmt(h:TS r k t)(ha:Sz s (toL k a))(j:Xcg k t)(i:k<=16)(o:vB r k s<=4398046511104)(I:vB r k r<=4398046511104)(hr:r<=4398046511104): C0 158 [.d (dt t),.d (de a)] (·=.d (.int .i64 (sgn k t a))):=by
 have:=Xdv (r:=r) k s
 refine En Tryz.func158 λ_ _ _=>?_
 exact Ce rfl (Xjl (l:=[toL k a]) (s:=s) h j i I hr (λx M=>⟨a,W0g.1 M,ha⟩) (by simp) (by omega))<|No rfl (by simp)<|Ce rfl (Xhz h ha i o hr)<|R0
end
end Go.Proofs.YtnedfplmoojbaaaGreatDoor
namespace Go.Proofs.YtnedfplmoojbaaaGreatDoor.R7
open Go Go.Vm Go.Num Go.Tow Go.Proofs.YtnedfplmoojbaaaGreatDoor
theorem Xo7{k:Nat}: ∀ {r s:Nat} {t:Tw k} {a:Tow.El k},TS r k t->Sz s (toL k a)->k<=16->vB r k s<=4398046511104->C0 301 [.d (dt t),.d (de a)] (·=.d (.int .i64 (sgn k t a))):=by
 induction k with
 | zero =>
  intro r s t a i ha U j
  have j:s<=4398046511104:=j
  have o:∀y:Rat,Qs s y->C0 301 [.d (dts []),.d (dqs [y])] (·=.d (.int .i64 (Xjz y))):=λy I=>by
   refine En Tryz.func301 λ_ _ _=>?_
   refine Yes rfl rfl<|Ix 0 rfl (u:=dq y) rfl<|Ce rfl (R2.Sign_ok I (by omega)) ?_
   rw[Xh4]
   exact R0
  exact o a (ha.qs (W0g.2 rfl))
 | succ k M =>
  intro r s t a i ha U j
  have V:Sz s (toL k a.1):=Sz.left ha
  have I:Sz s (toL k a.2):=Sz.right ha
  have Z:vB r k (nB r k s)<=4398046511104:=j
  have hv1:=Xdv (r:=r) k (nB r k s)
  have hv2:=Xc9 (r:=r) (k:=k) (Xtp r k s)
  have hz:=ha.norm i
  refine En Tryz.func301 λ_ _ _=>?_
  refine No rfl (by show ¬((((toT k t.1++[toL k t.2]).map dqs).length:Nat):Int)=0;rw[twL];omega)<|Ar k rfl ?_ (tw1 t (by omega))
  refine Dw rfl<|Ar (2^k:Nat) rfl ?_ (hvq a (by omega))
  refine Tk (2^k) ((toL k a.1).map dq) rfl rfl (Xcq a) (hvT a) ?_
  refine Ar (2^k:Nat) rfl ?_ (hvq a (by omega))
  refine Dp (2^k) ((toL k a.2).map dq) rfl rfl (Xcq a) (hvD a) ?_
  refine Dw rfl<|Tk k ((toT k t.1).map dqs) rfl rfl (Xj0 t) (twT t) ?_
  refine Ce rfl (M i.1 V (by omega) (by omega))<|Tk k ((toT k t.1).map dqs) rfl rfl (Xj0 t) (twT t) ?_
  refine Ce rfl (M i.1 I (by omega) (by omega)) ?_
  rw[Ycq]
  refine By rfl (λh=>?_) λh=>?_
  rw[if_pos (.inl h)]
  exact R0
  refine By rfl (λO=>?_) λO=>?_
  rw[if_pos (.inr O)]
  exact R0
  rw[if_neg (λe=>e.elim h O)]
  refine By rfl (λT=>?_) λT=>?_
  rw[if_pos T]
  exact R0
  rw[if_neg T]
  refine Dw rfl<|Tk k ((toT k t.1).map dqs) rfl rfl (Xj0 t) (twT t) ?_
  refine Ce rfl (R6.Norm_ok i ha U (by omega))<|Ce rfl (M i.1 hz (by omega) Z)<|Ar _ rfl ?_ Xvf
  exact R0
section
variable{k r s:Nat}{t:Tw k}{a:Tow.El k}
theorem Xqe(j:TS r k t)(I:Xcg k t)(V:k<=16)(Z:vB r k r<=4398046511104): C0 302 [.d (dt t)] (·=.b true):=by
 have:=Xdv (r:=r) k r
 refine En Tryz.func302 λ_ _ _=>?_
 refine Ce rfl (R6.Tower_ok (TS.pt j) (by omega) (by rw[Xaa];omega))<|No rfl (by simp)<|Lo (λi:Nat=>[(0,.d (dt t)),(3,.d (.int .i64 i))]) (λ_=>[]) (λi=>i<=k) (λi=>k-i) 0 [] rfl (by omega) (λi hi=>?_)
 refine By rfl (λh=>?_) λh=>?_<;>simp only[lt',Xaa] at h
 obtain⟨w,x,M,O,T,U,h5⟩:=Tw.take (t:=t) (i:=i) (by omega)
 have o:=T r j
 have h6:=Xg0 (r:=r) (s:=r) (by omega:i<=k)
 refine Dw rfl<|Tk i ((toT i w).map dqs) rfl rfl (by rw[lt',Xaa];omega) (by rw[<-W2f,M]) ?_
 refine Ix i rfl (mp O)<|Ce rfl (Xo7 o.1 o.2 (by omega) (by omega))<|No rfl (by rw[(U I).2];simp)<|Ar (i+1:Nat) rfl ?_
 exact Bk (i+1) [] rfl (by omega:i+1<=k) (by show k-(i+1)<k-i;omega)
 exact R0
theorem Sign_ok(h:TS r k t)(ha:Sz s (toL k a))(j:Xcg k t)(i:k<=16)(o:vB r k s<=4398046511104)(I:vB r k r<=4398046511104): C0 218 [.d (dt t),.d (de a)] (·=.d (.int .i64 (sgn k t a))):=by
 have:=Xdv (r:=r) k s
 have:=Xdv (r:=r) k r
 refine En Tryz.func218 λ_ _ _=>?_
 exact Ce rfl (R6.Formed_ok (TS.pt h) (by omega) ha.ps (by omega) (by rw[Xaa];omega) (Yic t a))<|No rfl (by simp)<|Ce rfl (Xqe h j i I)<|No rfl (by simp)<|Ce rfl (Xo7 h ha i o)<|R0
theorem Fast_ok(h:TS r k t)(ha:Sz s (toL k a))(i:k<=16)(j:vB r k s<=4398046511104): C0 217 [.d (dt t),.d (de a)] (·=.d (.int .i64 (sgn k t a))):=by
 refine En Tryz.func217 λ_ _ _=>?_
 exact Ce rfl (Xo7 h ha i j)<|R0
end
end Go.Proofs.YtnedfplmoojbaaaGreatDoor.R7
namespace Go.Num
theorem Zs.len2{p:Nat}{z:Int}(h:Zs p z)(hp:p<=4398046511104): (dig z.natAbs).length<=137438953473:=by
 have i:z.natAbs<4294967296^(p/32+1):=by
  rw[show 4294967296=2^32 from rfl,<-W6q]
  exact W0y h (W0o (by decide) (by omega))
 have:=Xaq i
 omega
end Go.Num
namespace Go.Proofs.YtnedfplmoojbaaaGreatDoor.R2
open Go Go.Vm Go.Num Go.Proofs.YtnedfplmoojbaaaGreatDoor
def dR(b:Bool)(l:List Nat)(h:Bool)(i:List Nat): D:=.st (.pr (dS b l) (dS h i))
theorem Sqrt_ok{x:Rat}{p:Nat}(o:Qs p x)(hp:p<=4398046511104): C0 303 [.d (dq x)] λv=>∃b l O T,v=.tup (.pr (.d (dR b l O T)) (.b (dc (∃y:Rat,y*y=x))))/\((∃y:Rat,y*y=x)->∃y:Rat,y*y=x/\dR b l O T=dq y):=by
 have h1:=o.n.len2 hp
 have h2:=o.d.len2 hp
 have hi:=Xo5 (q:=x)
 have no:¬(∃y:Rat,y*y=x)->∀ {g K},FitT g K (.b false) (.b (dc (∃y:Rat,y*y=x))):=λh _ _=>.one (by exact .bp (c:=false) ⟨nofun,λe=>absurd e h⟩) (λ_ _ e=>by cases e) (λ_ _ e=>by cases e)
 refine En Tryz.func303 λ_ _ _=>?_
 refine By rfl (λh=>?_) λh=>?_
 exact Rt rfl (.tup (.cons (.sd (.pd (.sd (.pd (.bd rfl) (.nil rfl))) (.sd (.pd (.bd rfl) (.nil rfl)))))  (no λe=>by have:=(hi.1 e).1;omega))) ⟨false,[],false,[],rfl,λe=>by have:=(hi.1 e).1;omega⟩
 have I:((x.num.natAbs:Nat):Int)=x.num:=by omega
 have U:=R1.Sqrt_ok (a:=x.num.natAbs) (by omega)
 rw[I] at U
 have hd:=R1.Sqrt_ok (a:=x.den) (by rw[W1b] at h2;omega)
 have V:∀n:Nat,n<2^p->Zs p (rt n:Int)/\Zs p ((rt n:Int)*(rt n:Int)):=λn I=>by
  have:=(Xdp n).1
  have j:rt n<=rt n*rt n:=Nat.le_mul_self _
  unfold Zs
  rw[W4d,W1b]
  omega
 obtain⟨r1,Z⟩:=V _ (show x.num.natAbs<2^p from o.n)
 obtain⟨r3,r4⟩:=V x.den (by have:=o.d;unfold Zs at this;rwa[W1b] at this)
 have r1:=r1.len2 hp
 have Z:=Z.len2 hp
 have r3:=r3.len2 hp
 have r4:=r4.len2 hp
 refine Ce rfl U<|Ce rfl hd<|Dw rfl<|Ce rfl (R1.Mul_ok (by omega) (by omega))<|Ce rfl (Xk1 (by omega))<|By rfl (λh=>?_) λh=>?_
 have i:¬ ∃y:Rat,y*y=x:=λe=>by
  have j:=(hi.1 e).2.1
  unfold sqN at j
  have M:¬(rt x.num.natAbs:Int)*(rt x.num.natAbs:Int)=x.num:=by simpa [Xas,Xaj] using h
  exact M (by rw[<-W2r,j,I])
 exact Rt rfl (.tup (.cons (.sd (.pd (.sd (.pd (.bd rfl) (.nil rfl))) (.sd (.pd (.bd rfl) (.nil rfl))))) (no i))) ⟨false,[],false,[],rfl,λe=>absurd e i⟩
 have k1:(rt x.num.natAbs:Int)*(rt x.num.natAbs:Int)=x.num:=by simpa [Xas,Xaj] using h
 refine Ce rfl (R1.Mul_ok (by omega) (by omega))<|Ce rfl (Xk1 (by omega))<|By rfl (λh=>?_) λh=>?_
 have i:¬ ∃y:Rat,y*y=x:=λe=>by
  have j:=(hi.1 e).2.2
  unfold sqN at j
  have M:¬(rt x.den:Int)*(rt x.den:Int)=x.den:=by simpa [Xas,Xaj] using h
  exact M (by rw[<-W2r,j])
 exact Rt rfl (.tup (.cons (.sd (.pd (.sd (.pd (.bd rfl) (.nil rfl))) (.sd (.pd (.bd rfl) (.nil rfl))))) (no i))) ⟨false,[],false,[],rfl,λe=>absurd e i⟩
 have k2:(rt x.den:Int)*(rt x.den:Int)=x.den:=by simpa [Xas,Xaj] using h
 obtain⟨y,y1,y2,y3⟩:=Xlh (q:=x) (by omega) (by unfold sqN;omega) (by unfold sqN;omega)
 refine Rt rfl (.tup (.cons (.rf rfl) (.one (by exact .bp (c:=true) ⟨λ_=>⟨y,y3⟩,λ_=>rfl⟩) (λ_ _ e=>by cases e) (λ_ _ e=>by cases e)))) ⟨_,_,_,_,rfl,λ_=>⟨y,y3,?_⟩⟩
 show D.st (.pr (dz _) (dz _))=D.st (.pr (dz _) (dz _))
 rw[y1,y2]
end Go.Proofs.YtnedfplmoojbaaaGreatDoor.R2
namespace Go.Proofs.YtnedfplmoojbaaaGreatDoor
open Go Go.Vm Go.Num Go.Tow
theorem Xxf{p:Prop}(h:¬p){g:Hp}{K:Hpl}: FitT g K (.b false) (.b (dc p)):=.one (by exact .bp (c:=false) ⟨nofun,λe=>absurd e h⟩) (λ_ _ e=>by cases e) (λ_ _ e=>by cases e)
theorem Xy4{p:Prop}(h:p){g:Hp}{K:Hpl}: FitT g K (.b true) (.b (dc p)):=.one (by exact .bp (c:=true) ⟨λ_=>h,λ_=>rfl⟩) (λ_ _ e=>by cases e) (λ_ _ e=>by cases e)
theorem Xbs{n:Int}{g:Hp}{K:Hpl}: FitT g K (.d (.int .i64 n)) (.d (.int .i64 n)):=.one (.rf rfl) (λ_ _ e=>by cases e) (λ_ _ e=>by cases e)
def SqR(k:Nat)(t:Tw k)(a:Tow.El k)(v:AV): Prop:=∃w:D,v=.tup (.pr (.d w) (.b (dc (Xde k t a))))/\(Xde k t a->∃x,mul k t x x=a/\w=de x)
theorem Xw5: (Rat.divInt 1 2)=1/2:=by decide +kernel
end Go.Proofs.YtnedfplmoojbaaaGreatDoor
namespace Go.Proofs.YtnedfplmoojbaaaGreatDoor.R6
open Go Go.Vm Go.Num Go.Tow Go.Proofs.YtnedfplmoojbaaaGreatDoor
theorem FromRat_el{k:Nat}{t:Tw k}{x:Rat}(h:k<=16): C0 304 [.d (dt t),.d (dq x)] (·=.d (de (rat k x))):=by
 have:=FromRat_ok (t:=toT k t) (x:=x) (by rw[Xaa];omega)
 rwa[Xaa,<-Xda] at this
theorem FromRat_z{k:Nat}{t:Tw k}(h:k<=16): C0 304 [.d (dt t),.d (dq 0)] (·=.d (de (zero k))):=by
 have:=FromRat_el (t:=t) (x:=0) h
 rwa[Xc7] at this
end Go.Proofs.YtnedfplmoojbaaaGreatDoor.R6
namespace Go.Proofs.YtnedfplmoojbaaaGreatDoor.R8
open Go Go.Vm Go.Num Go.Tow Go.Proofs.YtnedfplmoojbaaaGreatDoor
theorem Yge{l m:List Rat}(h0:0<l.length)(h:l.length+m.length<=1048576): C0 306 [.d (dqs l),.d (dqs m)] (·=.d (dqs (l++m))):=by
 refine En Tryz.func306 λ_ _ _=>?_
 refine ApL (l.map dq) rfl rfl (by simp;omega) (by simp;omega) ?_
 refine ApO ((l++m).map dq) rfl rfl rfl (by simp) (by simp;omega) ?_
 exact R1 rfl (.own rfl (by simp) (by rw[W1i];exact W0b (by simp)))
theorem Xpt{k:Nat}{x y:Tow.El k}(h:k<=16): C0 306 [.d (de x),.d (de y)] (·=.d (de (pr x y))) :=
 Yge (by rw[Xab];exact W0p k) (by rw[Xab,Xab];have:=p16 h;omega)
theorem Xeq{k:Nat}: ∀ {r p:Nat} {t:Tw k} {a:Tow.El k},TS r k t->Sz p (toL k a)->red k t->k<=16->qB r k p<=4398046511104->C0 219 [.d (dt t),.d (de a)] (SqR k t a):=by
 induction k with
 | zero =>
  intro r p t a o ha I hk hq
  have hq:p<=4398046511104:=hq
  have key:∀y:Rat,Qs p y->C0 219 [.d (dts []),.d (dqs [y])] λv=>∃w:D,v=.tup (.pr (.d w) (.b (dc (∃x:Rat,x*x=y))))/\((∃x:Rat,x*x=y)->∃x:Rat,x*x=y/\w=dqs [x]):=λy T=>by
   refine En Tryz.func219 λ_ _ _=>?_
   refine Yes rfl rfl<|Ix 0 rfl (u:=dq y) rfl<|Ca rfl (R2.Sqrt_ok T (by omega)) λv M=>?_
   obtain⟨b,l,b',l',rfl,V⟩:=M
   exact Rt rfl (.tup (.cons (.lit rfl) (.one (.rf rfl) (λ_ _ e=>by cases e) (λ_ _ e=>by cases e)))) ⟨_,rfl,λh=>let ⟨y,Z,h2⟩:=V h;⟨y,Z,by rw[show dqs [y]=D.sl 4 [dq y] from rfl,<-h2];rfl⟩⟩
  exact key a (ha.qs (W0g.2 rfl))
 | succ k ih =>
  intro r p t a o ha I hk hq
  have U:Sz p (toL k a.1):=Sz.left ha
  have T:Sz p (toL k a.2):=Sz.right ha
  have hlen:=Xab k
  have hpk:=p16 (by omega:k<=16)
  have hz:=ha.normS o
  have L:=Xax k t.1
  have hqq:p+vB r (k+1) p+vB r (k+1) r+nB r k p+qB r k (sX r k p)+iB r k (sX r k p+gC r k)+iS r k (sX r k p+gC r k)+iB r k r+2*cB r k+4<=4398046511104:=hq
  have hX:sX r k p=p+nS r k p+gC r k+cB r k+iS r k r+4:=rfl
  have hN:nB r k p=4*p+3*cB r k+r+1:=rfl
  have q1:qB r k p<=qB r k (sX r k p):=Xdr (by omega)
  have q2:qB r k (nS r k p)<=qB r k (sX r k p):=Xdr (by omega)
  have q3:qB r k (p+iS r k r+cB r k)<=qB r k (sX r k p):=Xdr (by omega)
  have q4:sX r k p<=qB r k (sX r k p):=Yfm
  have hr0:t.2≠zero k:=λh0=>I.2.2 ⟨zero k,by rw[h0,L.mz]⟩
  obtain⟨i,hi⟩:=(Xcp I.1).2 t.2 hr0
  have him:=Xb9 hi
  have hiz:=Sz.invS o.1 o.2 hi
  refine En Tryz.func219 λ_ _ _=>?_
  refine No rfl (by show ¬((((toT k t.1++[toL k t.2]).map dqs).length:Nat):Int)=0;rw[twL];omega)<|Ce rfl (R7.Sign_ok o ha (Xad I) hk (by omega) (by omega))<|By rfl (λh=>?_) λh=>?_
  have no:¬Xde (k+1) t a:=λe=>by have:=Yob (Xad I) e;omega
  exact Rt rfl (.tup (.cons (.nil (sz:=4) rfl) (Xxf no))) ⟨_,rfl,λe=>absurd e no⟩
  refine Ar k rfl ?_ (tw1 t (by omega))
  refine Dw rfl<|Tk k ((toT k t.1).map dqs) rfl rfl (Xj0 t) (twT t) ?_
  refine Ix k rfl (twU t)<|Ar (2^k:Nat) rfl ?_ (hvq a (by omega))
  refine Dw rfl<|Tk (2^k) ((toL k a.1).map dq) rfl rfl (Xcq a) (hvT a) ?_
  refine Dp (2^k) ((toL k a.2).map dq) rfl rfl (Xcq a) (hvD a) ?_
  refine Ce rfl (R2.FromInt_ok (z:=0) (by decide))<|Ce rfl (R6.FromRat_z (t:=t.1) (by omega))<|Ce rfl (R6.Zero_ok (l:=toL k a.2) (by rw[hlen];omega))<|By rfl (λM=>?_) λM=>?_
  have ev:=(Xam k a.2).2 M
  have ea:a=up k a.1:=by show (a.1,a.2)=(a.1,zero k);rw[ev]
  refine Ca rfl (ih o.1 U I.1 (by omega) (by omega)) λv M=>?_
  obtain⟨w,rfl,V⟩:=M
  refine By rfl (λZ=>?_) λZ=>?_
  obtain⟨x,hx1,rfl⟩:=V Z
  have hs:mul (k+1) t (pr x (zero k)) (pr x (zero k))=a:=(Yjb hx1).trans ea.symm
  exact Ce rfl (Xpt (x:=x) (y:=zero k) (by omega))<|Rt rfl (.tup (.cons (.rf rfl) (Xy4 ⟨_,hs⟩))) ⟨_,rfl,λ_=>⟨_,hs,rfl⟩⟩
  refine Ce rfl (R6.Inv_ok o.1 o.2 I.1 hi (by omega) (by omega))<|Ce rfl (R6.Mul_el o.1 U hiz (by omega) (by omega))<|Ca rfl (ih o.1 (U.mul o.1 hiz) I.1 (by omega) (by omega)) λv M=>?_
  obtain⟨w,rfl,V⟩:=M
  refine By rfl (λh2=>?_) λh2=>?_
  obtain⟨x,hx1,rfl⟩:=V h2
  have hs:mul (k+1) t (pr (zero k) x) (pr (zero k) x)=a:=(Xu7 him hx1).trans ea.symm
  exact Ce rfl (Xpt (x:=zero k) (y:=x) (by omega))<|Rt rfl (.tup (.cons (.rf rfl) (Xy4 ⟨_,hs⟩))) ⟨_,rfl,λ_=>⟨_,hs,rfl⟩⟩
  have no:¬Xde (k+1) t a:=ea ▸ Xm3 I.1 him Z h2
  exact Rt rfl (.tup (.cons (.nil (sz:=4) rfl) (Xxf no))) ⟨_,rfl,λe=>absurd e no⟩
  have ev:a.2≠zero k:=λe=>M ((Xam k a.2).1 e)
  refine Ce rfl (R6.Mul_el o.1 U U (by omega) (by omega))<|Ce rfl (R6.Mul_el o.1 T T (by omega) (by omega))<|Ce rfl (R6.Mul_el o.1 o.2 (T.mul o.1 T) (by omega) (by omega))<|Ce rfl (R6.Sub_el (by omega) (U.mul o.1 U).ps (o.2.mul o.1 (T.mul o.1 T)) (by omega)) ?_
  rw[L.mc t.2]
  refine Ca rfl (ih o.1 hz I.1 (by omega) (by omega)) λv M=>?_
  obtain⟨w,rfl,V⟩:=M
  refine By rfl (λZ=>?_) λZ=>?_
  have no:¬Xde (k+1) t a:=λe=>by
   exact Z (Xu6 e)
  exact Rt rfl (.tup (.cons (.nil (sz:=4) rfl) (Xxf no))) ⟨_,rfl,λe=>absurd e no⟩
  obtain⟨m,hm,rfl⟩:=V (W3j.1 Z)
  have hm:mul k t.1 m m=Tow.norm k t a:=hm
  have hmz:=hz.rootS o.1 I.1 hm
  refine Ce rfl (R2.Frac_ok (a:=1) (b:=2) (by decide) (by decide) (by decide)) ?_
  rw[Xw5]
  refine Ce rfl (R6.FromRat_el (t:=t.1) (x:=1/2) (by omega))<|Lo (λ(x:Nat×Tow.El k)=>[(9,.d (dt t.1)),(12,.d (de a.1)),(13,.d (de a.2)),(22,.d (de x.2)),(24,.d (de (rat k (1/2)))),(25,.d (.int .i64 x.1))]) (λ_=>[]) (λx=>(x.1=0/\x.2=m)\/(x.1=1/\x.2=Tow.neg k m/\¬Xde k t.1 (mul k t.1 (rat k (1/2)) (Tow.add k a.1 m)))\/(x.1=2/\¬Xde k t.1 (mul k t.1 (rat k (1/2)) (Tow.add k a.1 m))/\¬Xde k t.1 (mul k t.1 (rat k (1/2)) (Tow.add k a.1 (Tow.neg k m))))) (λx=>2-x.1) (0,m) [] rfl (.inl ⟨rfl,rfl⟩) (λ(j,mm) hI=>?_)
  simp only at hI
  refine By rfl (λh2=>?_) λh2=>?_
  have O:mul k t.1 mm mm=Tow.norm k t a/\Sz (nS r k p+gC r k) (toL k mm):=by
   rcases hI with ⟨_,rfl⟩ | ⟨_,rfl,_⟩ | ⟨rfl,_⟩
   exact⟨hm,hmz⟩
   exact⟨by rw[L.mn,L.nm,L.nn,hm],Xhr hmz⟩
   omega
  have hS:Sz (3+(p+(nS r k p+gC r k)+1)+cB r k) (toL k (mul k t.1 (rat k (1/2)) (Tow.add k a.1 mm))):=Sz.half.mul o.1 (by rw[Xa0];exact U.add O.2)
  have q5:qB r k (3+(p+(nS r k p+gC r k)+1)+cB r k)<=qB r k (sX r k p):=Xdr (by omega)
  refine Ce rfl (R6.Add_el (by omega) U.ps O.2.ps (by omega))<|Ce rfl (R6.Mul_el o.1 Sz.half (by rw[Xa0];exact U.add O.2) (by omega) (by omega))<|Ca rfl (ih o.1 hS I.1 (by omega) (by omega)) λv M=>?_
  obtain⟨w,rfl,V⟩:=M
  refine By rfl (λh3=>?_) λh3=>?_
  obtain⟨w,hw1,rfl⟩:=V h3
  have hw0:=Yja I ev O.1 hw1
  obtain⟨j,hj⟩:=(Xcp I.1).2 w hw0
  have hwz:Sz (sX r k p+gC r k) (toL k w):=(hS.rootS o.1 I.1 hw1).mono (by omega)
  have hjz:=Sz.invS o.1 hwz hj
  have hs:mul (k+1) t (pr w (mul k t.1 (rat k (1/2)) (mul k t.1 a.2 j))) (pr w (mul k t.1 (rat k (1/2)) (mul k t.1 a.2 j)))=a:=by
   have:=Yjc O.1 hw1 (Yam (Xb9 hj))
   rwa[show mul k t.1 a.2 (mul k t.1 (rat k (1/2)) j)=mul k t.1 (rat k (1/2)) (mul k t.1 a.2 j) from L.mlc _ _ _] at this
  exact Ce rfl (R6.Inv_ok o.1 hwz I.1 hj (by omega) (by omega))<|Ce rfl (R6.Mul_el o.1 T hjz (by omega) (by omega))<|Ce rfl (R6.Mul_el o.1 Sz.half (T.mul o.1 hjz) (by omega) (by omega))<|Ce rfl (Xpt (by omega))<|Rt rfl (.tup (.cons (.rf rfl) (Xy4 ⟨_,hs⟩))) ⟨_,rfl,λ_=>⟨_,hs,rfl⟩⟩
  refine Ce rfl (R6.Neg_el (by omega) O.2.ps (by omega))<|Ar (j+1:Nat) rfl ?_
  refine Bk (j+1,Tow.neg k mm) [] rfl ?_ (by show 2-(j+1)<2-j;omega)
  rcases hI with ⟨rfl,rfl⟩ | ⟨rfl,rfl,h4⟩ | ⟨rfl,_⟩
  exact .inr (.inl ⟨rfl,rfl,h3⟩)
  exact .inr (.inr ⟨rfl,h4,h3⟩)
  omega
  have no:¬Xde (k+1) t a:=λe=>by
   rcases hI with ⟨rfl,rfl⟩ | ⟨rfl,rfl,h4⟩ | ⟨rfl,h4,h5⟩
   omega
   omega
   obtain⟨w,_,h6 | h6⟩:=Xq1 I.1 ev hm e
   exact h4 ⟨w,h6⟩
   exact h5 ⟨w,h6⟩
  exact Rt rfl (.tup (.cons (.nil (sz:=4) rfl) (Xxf no))) ⟨_,rfl,λe=>absurd e no⟩
theorem Xlq{k r p:Nat}{t:Tw k}{a:Tow.El k}(j:TS r k t)(ha:Sz p (toL k a))(i:red k t)(o:k<=16)(hq:qB r k p<=4398046511104)(I:vB r k (p+gC r k)<=4398046511104)(hr:vB r k r<=4398046511104):
 C0 222 [.d (dt t),.d (de a)] λv=>∃w:D,v=.tup (.pr (.d w) (.b (dc (Xde k t a))))/\(Xde k t a->∃x,mul k t x x=a/\0<=sgn k t x/\w=de x):=by
 have L:=Xax k t
 have S:=Xao (Xad i)
 have:=Xdv (r:=r) k (p+gC r k)
 refine En Tryz.func222 λ_ _ _=>?_
 refine Ca rfl (Xeq j ha i o hq) λv I=>?_
 obtain⟨w,rfl,T⟩:=I
 refine By rfl (λh=>?_) λh=>?_
 exact Rt rfl (.tup (.cons (.nil (sz:=4) rfl) (Xxf h))) ⟨_,rfl,λe=>absurd e h⟩
 have h:=W3j.1 h
 obtain⟨x,M,rfl⟩:=T h
 have O:=ha.rootS j i M
 refine Ce rfl (R7.Sign_ok j O (Xad i) o I hr)<|By rfl (λU=>?_) λU=>?_
 exact Ce rfl (R6.Neg_el o O.ps (by omega))<|Rt rfl (.tup (.cons (.rf rfl) (Xy4 h))) ⟨_,rfl,λ_=>⟨Tow.neg k x,by rw[L.mn,L.nm,L.nn,M],by rw[S.sn];omega,rfl⟩⟩
 exact Rt rfl (.tup (.cons (.rf rfl) (Xy4 h))) ⟨_,rfl,λ_=>⟨x,M,by omega,rfl⟩⟩
theorem Reduced_ok{k r:Nat}{t:Tw k}(T:TS r k t)(U:red k t)(hk:k<=16)(hq:qB r k r<=4398046511104)(M:vB r k r<=4398046511104): C0 125 [.d (dt t)] (·=.b true):=by
 have:=Xdv (r:=r) k r
 refine En Tryz.func125 λ_ _ _=>?_
 refine Lo (λi:Nat=>[(0,.d (dt t)),(3,.d (.int .i64 i))]) (λ_=>[]) (λi=>i<=k) (λi=>k-i) 0 [] rfl (by omega) (λi hi=>?_)
 refine By rfl (λh=>?_) λh=>?_<;>simp only[lt',Xaa] at h
 obtain⟨w,x,o,I,V,h4,Z⟩:=Tw.take (t:=t) (i:=i) (by omega)
 have j:=V r T
 obtain⟨O,h7,h8⟩:=Z U
 have q1:=Xpc (r:=r) (p:=r) (by omega:i<=k)
 have v1:=Xg0 (r:=r) (s:=r) (by omega:i<=k)
 refine Dw rfl<|Tk i ((toT i w).map dqs) rfl rfl (by rw[lt',Xaa];omega) (by rw[<-W2f,o]) ?_
 refine Ix i rfl (mp I)<|Ce rfl (R6.Formed_ok (TS.pt j.1) (by omega) j.2.ps (by omega) (by rw[Xaa];omega) (Yic w x))<|No rfl (by simp)<|Tk i ((toT i w).map dqs) rfl rfl (by rw[lt',Xaa];omega) (by rw[<-W2f,o]) ?_
 refine Ix i rfl (mp I)<|Ce rfl (R7.Sign_ok j.1 j.2 (Xad O) (by omega) (by omega) (by omega))<|No rfl (by omega)<|Dw rfl<|Tk i ((toT i w).map dqs) rfl rfl (by rw[lt',Xaa];omega) (by rw[<-W2f,o]) ?_
 refine Ix i rfl (mp I)<|Ca rfl (Xeq j.1 j.2 O (by omega) (by omega)) λv M=>?_
 obtain⟨d,rfl,hd⟩:=M
 refine No rfl h8<|Ar (i+1:Nat) rfl ?_
 exact Bk (i+1) [] rfl (by omega:i+1<=k) (by show k-(i+1)<k-i;omega)
 exact R0
def AdjR(k:Nat)(t:Tw k)(a:Tow.El k)(v:AV): Prop :=
 (sgn k t a<0/\v=.tup (.pr (.d (dts [])) (.pr (.d (dqs [])) (.d (.int .i64 7))))) \/
 (∃x,mul k t x x=a/\0<=sgn k t x/\v=.tup (.pr (.d (dt t)) (.pr (.d (de x)) (.d (.int .i64 0))))) \/
 (0<=sgn k t a/\¬Xde k t a/\k<8/\v=.tup (.pr (.d (dt (tsn t a))) (.pr (.d (de (Xdi (k+1) k))) (.d (.int .i64 0)))))
theorem Xyx{k r p:Nat}{t:Tw k}{a:Tow.El k}(O:TS r k t)(ha:Sz p (toL k a))(T:red k t)(U:k<8)(hq:qB r k p<=4398046511104)(M:vB r k (p+gC r k)<=4398046511104)(hr:vB r k r<=4398046511104):
 C0 127 [.d (dt t),.d (de a)] (AdjR k t a):=by
 have h0:=Xc9 (r:=r) (k:=k) (by omega:p<=p+gC r k)
 have j:=Xaa k t
 refine En Tryz.func127 λ_ _ _=>?_
 refine Ce rfl (R7.Sign_ok O ha (Xad T) (by omega) (by omega) hr)<|By rfl (λh=>?_) λh=>?_
 exact Rt rfl (.tup (.cons (.nil rfl) (.cons (.nil rfl) Xbs))) (.inl ⟨h,rfl⟩)
 refine Ca rfl (Xlq O ha T (by omega) hq M hr) λv M=>?_
 obtain⟨w,rfl,V⟩:=M
 refine By rfl (λI=>?_) λI=>?_
 obtain⟨x,Z,x2,rfl⟩:=V I
 exact Rt rfl (.tup (.cons (.rf rfl) (.cons (.rf rfl) Xbs))) (.inr (.inl ⟨x,Z,x2,rfl⟩))
 refine No rfl (by simp only[lt',j];omega) ?_
 have e:dt (tsn t a)=dts (toT k t++[toL k a]):=rfl
 have e2:(((toT k t).map dqs).length:Int)=k:=by simp[j]
 by_cases k0:k=0
 subst k0
 refine ApE rfl rfl (by decide) ?_
 refine ApL ([toL 0 a].map dqs) rfl rfl (by simp) (by simp) ?_
 refine Fz 9 9 ([toL 0 a].map dqs) rfl (by simp) rfl ?_
 exact Ce rfl (R6.Root_ok (r:=r) (t:=tsn t a) (i:=0) (by omega) (by omega))<|Rt rfl (.tup (.cons (.rf rfl) (.cons (.rf rfl) Xbs))) (.inr (.inr ⟨by omega,I,U,rfl⟩))
 refine ApL ((toT k t).map dqs) rfl rfl (by simp[j];omega) (by simp[j];omega) ?_
 refine ApO ((toT k t++[toL k a]).map dqs) rfl rfl rfl (by simp) (by simp[j];omega) ?_
 refine Fz 9 9 ((toT k t++[toL k a]).map dqs) rfl (by simp) (by rw[W1i];exact W0b (by simp)) ?_
 have o:=R6.Root_ok (r:=r) (t:=tsn t a) (i:=k) (by omega) (by omega)
 rw[<-e2] at o
 exact Ce rfl o<|Rt rfl (.tup (.cons (.rf rfl) (.cons (.rf rfl) Xbs))) (.inr (.inr ⟨by omega,I,U,rfl⟩))
theorem Adjoin_ok{k r p:Nat}{t:Tw k}{a:Tow.El k}(i:TS r k t)(ha:Sz p (toL k a))(M:red k t)(O:k<8)(hq:qB r k p<=4398046511104)(j:qB r k r<=4398046511104)(o:vB r k (p+gC r k)<=4398046511104)(hr:vB r k r<=4398046511104):
 C0 60 [.d (dt t),.d (de a)] (AdjR k t a):=by
 have h0:=Xdv (r:=r) k r
 have h:=Xdv (r:=r) k (p+gC r k)
 refine En Tryz.func60 λ_ _ _=>?_
 refine Ce rfl (Reduced_ok i M (by omega) j hr)<|No rfl (by simp)<|Ce rfl (R6.Formed_ok (TS.pt i) (by omega) ha.ps (by omega) (by rw[Xaa];omega) (Yic t a))<|No rfl (by simp)<|Ca rfl (Xyx i ha M O hq o hr) λv o=>?_
 rcases o with ⟨h,rfl⟩ | ⟨x,h,I,rfl⟩ | ⟨h,I,T,rfl⟩
 exact Rt rfl (.tup (.cons (.rf rfl) (.cons (.rf rfl) Xbs))) (.inl ⟨h,rfl⟩)
 exact Rt rfl (.tup (.cons (.rf rfl) (.cons (.rf rfl) Xbs))) (.inr (.inl ⟨x,h,I,rfl⟩))
 exact Rt rfl (.tup (.cons (.rf rfl) (.cons (.rf rfl) Xbs))) (.inr (.inr ⟨h,I,T,rfl⟩))
end Go.Proofs.YtnedfplmoojbaaaGreatDoor.R8
namespace Go.Tow
open Go Go.Num Go.Proofs.YtnedfplmoojbaaaGreatDoor
section
def ev{K:Nat}(G:Tw K)(ρ:Nat->El K): (k:Nat)->El k->El K
 | 0,x=>rat K x
 | k+1,a=>add K (ev G ρ k a.1) (mul K G (ev G ρ k a.2) (ρ k))
def Hom{K:Nat}(G:Tw K)(ρ:Nat->El K): (k:Nat)->Tw k->Prop
 | 0,_=>True
 | k+1,t=>Hom G ρ k t.1/\mul K G (ρ k) (ρ k)=ev G ρ k t.2/\sgn K G (ρ k)=1
variable{K:Nat}{G:Tw K}{ρ σ:Nat->El K}
theorem Xbw: ∀ {k:Nat} {a:El k},(∀i,i<k->ρ i=σ i)->ev G ρ k a=ev G σ k a
 | 0,_,_=>rfl
 | k+1,a,h=>by
  show add K (ev G ρ k a.1) (mul K G (ev G ρ k a.2) (ρ k))=add K (ev G σ k a.1) (mul K G (ev G σ k a.2) (σ k))
  rw[Xbw (k:=k) λi hi=>h i (by omega),Xbw (k:=k) (a:=a.2) λi hi=>h i (by omega),h k (by omega)]
theorem Hom.congr: ∀ {k:Nat} {t:Tw k},Hom G ρ k t->(∀i,i<k->ρ i=σ i)->Hom G σ k t
 | 0,_,_,_=>trivial
 | k+1,t,⟨j,o,I⟩,h=>⟨j.congr λi hi=>h i (by omega),by rw[<-h k (by omega),o];exact Xbw λi hi=>h i (by omega),by rw[<-h k (by omega)];exact I⟩
theorem Xef: ∀ {k:Nat},ev G ρ k (zero k)=zero K
 | 0=>Xc7 K
 | k+1=>by
  show add K (ev G ρ k (zero k)) (mul K G (ev G ρ k (zero k)) (ρ k))=zero K
  rw[Xef,(Xax K G).zm,(Xax K G).az]
theorem Xcv: ∀ {k:Nat} {a b:El k},ev G ρ k (add k a b)=add K (ev G ρ k a) (ev G ρ k b)
 | 0,a,b=>Xdq K a b
 | k+1,a,b=>by
  show add K (ev G ρ k (add k a.1 b.1)) (mul K G (ev G ρ k (add k a.2 b.2)) (ρ k))=add K (add K (ev G ρ k a.1) (mul K G (ev G ρ k a.2) (ρ k))) (add K (ev G ρ k b.1) (mul K G (ev G ρ k b.2) (ρ k)))
  rw[Xcv,Xcv]
  have L:=Xax K G
  exact(Laws.req L [ev G ρ k a.1,ev G ρ k a.2,ev G ρ k b.1,ev G ρ k b.2,ρ k] (.add (.add (.v 0) (.v 2)) (.mul (.add (.v 1) (.v 3)) (.v 4))) (.add (.add (.v 0) (.mul (.v 1) (.v 4))) (.add (.v 2) (.mul (.v 3) (.v 4)))) (by decide +kernel))
theorem Xdm: ∀ {k:Nat} {a:El k},ev G ρ k (neg k a)=neg K (ev G ρ k a)
 | 0,a=>Xft K a
 | k+1,a=>by
  show add K (ev G ρ k (neg k a.1)) (mul K G (ev G ρ k (neg k a.2)) (ρ k))=neg K (add K (ev G ρ k a.1) (mul K G (ev G ρ k a.2) (ρ k)))
  rw[Xdm,Xdm,(Xax K G).nm,(Xax K G).nd]
theorem Xxj{k:Nat}{a:El k}: ev G ρ (k+1) (up k a)=ev G ρ k a:=by
 show add K (ev G ρ k a) (mul K G (ev G ρ k (zero k)) (ρ k))=_
 rw[Xef,(Xax K G).zm,(Xax K G).az]
theorem Xdf: ∀ {k:Nat} {x:Rat},ev G ρ k (rat k x)=rat K x
 | 0,_=>rfl
 | k+1,x=>by rw[show rat (k+1) x=up k (rat k x) from rfl,Xxj,Xdf]
theorem Xbg: ∀ {k:Nat} {t:Tw k} {a b:El k},Hom G ρ k t->ev G ρ k (mul k t a b)=mul K G (ev G ρ k a) (ev G ρ k b)
 | 0,t,a,b,_=>Xcz K G a b
 | k+1,t,a,b,h=>by
  show add K (ev G ρ k (add k (mul k t.1 a.1 b.1) (mul k t.1 (mul k t.1 a.2 b.2) t.2))) (mul K G (ev G ρ k (add k (mul k t.1 a.1 b.2) (mul k t.1 a.2 b.1))) (ρ k))=mul K G (add K (ev G ρ k a.1) (mul K G (ev G ρ k a.2) (ρ k))) (add K (ev G ρ k b.1) (mul K G (ev G ρ k b.2) (ρ k)))
  rw[Xcv,Xcv,Xbg h.1,Xbg h.1,Xbg h.1,Xbg h.1,Xbg h.1,<-h.2.1]
  have L:=Xax K G
  exact(Laws.req L [ev G ρ k a.1,ev G ρ k a.2,ev G ρ k b.1,ev G ρ k b.2,ρ k] (.add (.add (.mul (.v 0) (.v 2)) (.mul (.mul (.v 1) (.v 3)) (.mul (.v 4) (.v 4)))) (.mul (.add (.mul (.v 0) (.v 3)) (.mul (.v 1) (.v 2))) (.v 4))) (.mul (.add (.v 0) (.mul (.v 1) (.v 4))) (.add (.v 2) (.mul (.v 3) (.v 4)))) (by decide +kernel))
theorem Yg2{k:Nat}{t:Tw (k+1)}{a:El (k+1)}(h:Hom G ρ k t.1): ev G ρ k (norm k t a)=add K (mul K G (ev G ρ k a.1) (ev G ρ k a.1)) (neg K (mul K G (mul K G (ev G ρ k a.2) (ev G ρ k a.2)) (ev G ρ k t.2))):=by
 unfold norm
 rw[Xcv,Xdm,Xbg h,Xbg h,Xbg h]
theorem Xdl(hG:Xcg K G): ∀ {k:Nat} {t:Tw k} {a:El k},Hom G ρ k t->sgn K G (ev G ρ k a)=sgn k t a
 | 0,t,a,_=>Xcy hG
 | k+1,t,a,h=>by
  have L:=Xax K G
  have S:=Xao hG
  have e:sgn (k+1) t a=L.sx (ev G ρ k t.2) (sgn K G) (ev G ρ k a.1,ev G ρ k a.2):=by
   show (if sgn k t.1 a.2=0\/sgn k t.1 a.1=sgn k t.1 a.2 then sgn k t.1 a.1 else if sgn k t.1 a.1=0 then sgn k t.1 a.2 else sgn k t.1 a.1*sgn k t.1 (norm k t a))=_
   rw[<-Xdl hG h.1,<-Xdl hG h.1 (a:=a.1),<-Xdl hG h.1 (a:=norm k t a),Yg2 h.1]
   rfl
  have i:L.Rt (ev G ρ k t.2) (sgn K G) (ρ k) (rat K 1):=by
   refine⟨h.2.2,by rw[Xcy hG];decide +kernel,?_⟩
   rw[h.2.1,L.mo,L.mo,L.an,S.s0 L]
  have hd:sgn K G (ev G ρ k t.2)=1:=by rw[<-h.2.1,S.sm,h.2.2];rfl
  rw[e,S.sx_rt L hd i,L.mo]
  rfl
theorem Yg3(hG:Xcg K G){k:Nat}{t:Tw k}(h:Hom G ρ k t)(hr:red k t){a:El k}(e:ev G ρ k a=zero K): a=zero k:=by
 have:=Xdl hG h (a:=a)
 rw[e,(Xao hG).s0 (Xax K G)] at this
 exact(Xat hr).1 this.symm
theorem Xfn(hG:Xcg K G){k:Nat}{t:Tw k}(h:Hom G ρ k t)(hr:red k t){a b:El k}(e:ev G ρ k a=ev G ρ k b): a=b:=by
 refine(Xax k t).sub0 (Yg3 hG h hr (a:=add k a (neg k b)) ?_)
 rw[Xcv,Xdm,e,(Xax K G).an]
theorem Hom.uniq(hG:red K G): ∀ {k:Nat} {t:Tw k},Hom G ρ k t->Hom G σ k t->∀i,i<k->ρ i=σ i
 | 0,_,_,_,i,hi=>by omega
 | k+1,t,h,j,i,hi=>by
  have o:=h.1.uniq hG j.1
  by_cases e:i=k
  subst e
  refine Xq0 hG (by rw[h.2.1,j.2.1,Xbw o]) (by rw[h.2.2];decide) (by rw[j.2.2];decide)
  exact o i (by omega)
theorem Xlp(i:Nat): Xdi (i+1) i=(pr (zero i) (rat i 1):El (i+1)):=by
 unfold Xdi;rw[if_pos rfl]
theorem Xrf{k i:Nat}(h:i≠k): Xdi (k+1) i=(up k (Xdi k i):El (k+1)):=by
 conv=>lhs;unfold Xdi
 rw[if_neg h]
theorem Xhg: ∀ {k i:Nat},i<k->ev G ρ k (Xdi k i)=ρ i
 | k+1,i,hi=>by
  by_cases e:i=k
  subst e
  rw[Xlp]
  show add K (ev G ρ i (zero i)) (mul K G (ev G ρ i (rat i 1)) (ρ i))=_
  rw[Xef,Xdf,(Xax K G).om,(Xax K G).za]
  rw[Xrf e,Xxj,Xhg (by omega)]
theorem Hom.ne(hG:Xcg K G): ∀ {k:Nat} {t:Tw k},Hom G ρ k t->red k t->∀i j,i<j->j<k->ρ i≠ρ j
 | 0,_,_,_,i,j,_,h=>by omega
 | k+1,t,h,I,i,j,o,O=>λe=>by
  by_cases M:j=k
  subst M
  refine I.2.2 ⟨Xdi j i,Xfn hG h.1 I.1 ?_⟩
  rw[Xbg h.1,Xhg o,e,h.2.1]
  exact h.1.ne hG I.1 i j o (by omega) e
theorem Xv4{α:Type}: ∀(k:Nat) (S:List α) (f:Nat->α),(∀i,i<k->f i∈S)->(∀i j,i<j->j<k->f i≠f j)->k<=S.length
 | 0,_,_,_,_=>W0r _
 | k+1,S,f,o,I=>by
  obtain⟨A,B,e⟩:=List.append_of_mem (o k (by omega))
  have:=Xv4 k (A++B) f (λi hi=>by
   have h:=o i (by omega)
   rw[e] at h
   rcases W2p.1 h with h | h
   exact W2y _ h
   rcases W1s.1 h with h | h
   exact absurd h (I i k hi (by omega))
   exact W1z _ h) (λi j hi M=>I i j hi (by omega))
  rw[e]
  simp only[W0i,W1j] at this |-
  omega
structure TOk {K:Nat} (G:Tw K) (S:List (El K)) (k:Nat) (t:Tw k) (ρ:Nat->El K):Prop where
 r:red k t
 h:Hom G ρ k t
 s:∀i,i<k->ρ i∈S
theorem TOk.le(hG:Xcg K G){S:List (El K)}{k:Nat}{t:Tw k}(h:TOk G S k t ρ): k<=S.length:=Xv4 k S ρ h.s (h.h.ne hG h.r)
theorem TOk.snoc(hG:Xcg K G){S:List (El K)}{k:Nat}{t:Tw k}(h:TOk G S k t ρ){a:El k}(I:¬Xde k t a){s:El K}(M:s∈S)(j:mul K G s s=ev G ρ k a)(o:sgn K G s=1): TOk G S (k+1) (tsn t a) (λi=>if i=k then s else ρ i) where
 r:=⟨h.r,by show sgn k t a=1;rw[<-Xdl hG h.h,<-j,(Xao hG).sm,o];rfl,I⟩
 h:=⟨h.h.congr λi hi=>(if_neg (by omega)).symm,by
  show mul K G (if k=k then s else ρ k) (if k=k then s else ρ k)=ev G _ k a
  rw[if_pos rfl,j];exact Xbw λi hi=>(if_neg (by omega)).symm,by
  show sgn K G (if k=k then s else ρ k)=1
  rw[if_pos rfl,o]⟩
 s:=λi hi=>by
  show (if i=k then s else ρ i)∈S
  split
  exact M
  exact h.s i (by omega)
theorem Xkt{v:El K}: ∀ {k:Nat} {a:El k},ev (tsn G v) (λi=>up K (ρ i)) k a=up K (ev G ρ k a)
 | 0,a=>rfl
 | k+1,a=>by
  show add (K+1) (ev (tsn G v) _ k a.1) (mul (K+1) (tsn G v) (ev (tsn G v) _ k a.2) (up K (ρ k)))=up K (add K (ev G ρ k a.1) (mul K G (ev G ρ k a.2) (ρ k)))
  rw[Xkt,Xkt,Xkj]
  exact W3f rfl ((Xax K G).az (zero K))
theorem Hom.tsn(hG:Xcg K G){v:El K}: ∀ {k:Nat} {t:Tw k},Hom G ρ k t->Hom (tsn G v) (λi=>up K (ρ i)) k t
 | 0,_,_=>trivial
 | k+1,t,h=>⟨h.1.tsn hG,by rw[Xkt,<-h.2.1,Xkj];rfl,by rw[Xq8 _ (show Xcg K (Tow.tsn G v).1 from hG)];exact h.2.2⟩
end
section
variable{K:Nat}{G:Tw K}{ρ:Nat->El K}
def Lf{k m:Nat}(a:El k)(b:El m): Prop:=toL m b=toL k a++List.replicate (2^m-2^k) 0
theorem Lf.ex{k m:Nat}(h:k<=m)(a:El k): ∃b:El m,Lf a b:=by
 obtain⟨b,hb⟩:=exE m (toL k a++List.replicate (2^m-2^k) 0) (by
  have:=W0o (n:=2) (by decide) h
  rw[W0i,Xab,W1o];omega)
 exact⟨b,hb⟩
theorem Lf.rfl'{k:Nat}(a:El k): Lf a a:=by unfold Lf;rw[W3a];simp
theorem Lf.eq{k:Nat}{a b:El k}(h:Lf a b): b=a:=by
 unfold Lf at h;rw[W3a] at h
 exact Xg1 (by simpa using h)
theorem Lf.ev{k:Nat}{a:El k}: ∀ {m:Nat} {b:El m},k<=m->Lf a b->ev G ρ m b=ev G ρ k a:=by
 intro m
 induction m with
 | zero=>intro b h i;have:=Nat.le_zero.1 h;subst this;rw[i.eq]
 | succ m j =>
  intro b h i
  by_cases e:k=m+1
  subst e;rw[i.eq]
  have hp:=W0o (n:=2) (by decide) (by omega:k<=m)
  have o:2^(m+1)-2^k=(2^m-2^k)+2^m:=by rw[W0z];omega
  have i:toL m b.1++toL m b.2=(toL k a++List.replicate (2^m-2^k) 0)++List.replicate (2^m) 0:=by
   have:toL (m+1) b=_:=i
   rw[o,<-W4s,<-W6u] at this
   exact this
  obtain⟨I,M⟩:=Xfy (by rw[Xab,W0i,Xab,W1o];omega) i
  have O:b.2=zero m:=Xg1 (by rw[M,Xbu])
  show add K (Tow.ev G ρ m b.1) (mul K G (Tow.ev G ρ m b.2) (ρ m))=_
  rw[O,Xef,(Xax K G).zm,(Xax K G).az]
  exact j (by omega) I
theorem Lf.sz{k m p:Nat}{a:El k}{b:El m}(h:Lf a b)(ha:Sz p (toL k a)): Sz p (toL m b):=by
 obtain⟨d,i,j,d2⟩:=ha
 rw[h]
 exact⟨d,i,j,d2.append λx o=>⟨0,by rw[(W6n.1 o).2,W3p];rfl,W0p p⟩⟩
theorem Xlb: ∀ {k:Nat} {t w:Tw k},toT k t=toT k w->t=w
 | 0,_,_,_=>rfl
 | k+1,t,w,h=>by
  have h:toT k t.1++[toL k t.2]=toT k w.1++[toL k w.2]:=h
  obtain⟨i,j⟩:=Xfy (by rw[Xaa,Xaa]) h
  exact W3f (Xlb i) (Xg1 (by injection j))
theorem Tw.cut{k:Nat}: ∀ {t:Tw k} {i:Nat},i<=k->∃w:Tw i,toT i w=(toT k t).take i/\(∀r,TS r k t->TS r i w)/\(red k t->red i w)/\∀ {K:Nat} {G:Tw K} {ρ:Nat->El K},Hom G ρ k t->Hom G ρ i w:=by
 induction k with
 | zero=>intro t i h;have:=Nat.le_zero.1 h;subst this;exact⟨t,rfl,λ_ h=>h,λh=>h,λh=>h⟩
 | succ k j =>
  intro t i h
  by_cases e:i=k+1
  subst e;exact⟨t,by rw[W0b (by rw[Xaa];exact W0a _)],λ_ h=>h,λh=>h,λh=>h⟩
  obtain⟨w,o,I,M,O⟩:=j (t:=t.1) (i:=i) (by omega)
  refine⟨w,?_,λr h=>I r h.1,λh=>M h.1,λh=>O h.1⟩
  show _=(toT k t.1++[toL k t.2]).take i
  rw[W2s (by rw[Xaa];omega),o]
def Beg(k:Nat)(t:Tw k)(m:Nat)(T:Tw m): Prop:=(toT m T).take (toT k t).length=toT k t
theorem Beg.le{k m:Nat}{t:Tw k}{T:Tw m}(h:Beg k t m T): k<=m:=by
 have:=congrArg List.length h
 simp only[W0k,Xaa] at this;omega
theorem Beg.hom{k m:Nat}{t:Tw k}{T:Tw m}(h:Beg k t m T)(i:Hom G ρ m T): Hom G ρ k t:=by
 obtain⟨w,j,_,_,o⟩:=Tw.cut (t:=T) h.le
 have:w=t:=Xlb (by rw[j];unfold Beg at h;rwa[Xaa] at h)
 rw[<-this];exact o i
theorem Beg.rf{k:Nat}{t:Tw k}: Beg k t k t:=W0b (W0a _)
theorem Beg.tr{k l m:Nat}{t:Tw k}{u:Tw l}{w:Tw m}(h:Beg k t l u)(i:Beg l u m w): Beg k t m w:=by
 have j:=h.le
 unfold Beg at *
 rw[<-i,List.take_take,Xaa,Xaa,W2h j] at h
 rw[Xaa];exact h
theorem Beg.snoc{k:Nat}{t:Tw k}{a:El k}: Beg k t (k+1) (tsn t a):=W7f rfl
def imB(c z:Nat): Nat->Nat->Nat
 | 0,p=>p+1
 | j+1,p=>2*imB c z j p+z+c+1
theorem Xme{k R z:Nat}{T:Tw k}{σ:Nat->El k}(h:TS R k T): ∀ {j p:Nat} {a:El j},(∀i,i<j->Sz z (toL k (σ i)))->Sz p (toL j a)->Sz (imB (cB R k) z j p) (toL k (ev T σ j a))
 | 0,p,a,_,ha=>Sz.rat k (ha.qs (x:=a) (W0g.2 rfl))
 | j+1,p,a,o,ha=>by
  have I:=Xme h (a:=a.1) (λi hi=>o i (by omega)) (Sz.left ha)
  have M:=Xme h (a:=a.2) (λi hi=>o i (by omega)) (Sz.right ha)
  have O:=M.mul h (o j (by omega))
  show Sz _ (toL k (add k (Tow.ev T σ j a.1) (mul k T (Tow.ev T σ j a.2) (σ j))))
  rw[Xa0]
  exact(I.add O).mono (by show _<=2*imB (cB R k) z j p+z+cB R k+1;omega)
theorem Xmf{k:Nat}{T:Tw k}{σ:Nat->El k}{ρ':Nat->El K}(o:Hom G ρ k T): ∀ {j:Nat} {a:El j},(∀i,i<j->ev G ρ k (σ i)=ρ' i)->ev G ρ k (ev T σ j a)=ev G ρ' j a
 | 0,a,_=>Xdf
 | j+1,a,h=>by
  show ev G ρ k (add k (ev T σ j a.1) (mul k T (ev T σ j a.2) (σ j)))=add K (ev G ρ' j a.1) (mul K G (ev G ρ' j a.2) (ρ' j))
  rw[Xcv,Xbg o,Xmf o λi hi=>h i (by omega),Xmf o (a:=a.2) λi hi=>h i (by omega),h j (by omega)]
end
section
theorem Tw.at{k:Nat}: ∀ {t:Tw k} {i:Nat},i<k->∃x:El i,(toT k t)[i]?=some (toL i x)/\(∀r,TS r k t->Sz r (toL i x))/\∀ {K:Nat} {G:Tw K} {ρ:Nat->El K},Hom G ρ k t->mul K G (ρ i) (ρ i)=ev G ρ i x/\sgn K G (ρ i)=1:=by
 induction k with
 | zero=>intro t i h;omega
 | succ k j =>
  intro t i h
  have o:=Xaa k t.1
  by_cases e:i=k
  subst e
  refine⟨t.2,?_,λr h=>h.2,λh=>h.2⟩
  show (toT i t.1++[toL i t.2])[i]?=_
  rw[W0n (by omega),o,W3a];rfl
  obtain⟨x,I,M,O⟩:=j (t:=t.1) (i:=i) (by omega)
  refine⟨x,?_,λr h=>M r h.1,λh=>O h.1⟩
  show (toT k t.1++[toL k t.2])[i]?=_
  rw[W0q (by omega),I]
theorem _root_.Go.Proofs.YtnedfplmoojbaaaGreatDoor.TS.mono{r s:Nat}(h:r<=s): ∀ {k:Nat} {t:Tw k},TS r k t->TS s k t
 | 0,_,_=>trivial
 | k+1,t,i=>⟨i.1.mono h,i.2.mono h⟩
theorem Xgv{r i k:Nat}(h:i<=k): cB r i<=cB r k:=by
 induction k with
 | zero=>rw[show i=0 by omega];exact W0a _
 | succ k j =>
  by_cases e:i=k+1
  rw[e];exact W0a _
  exact W0j (j (by omega)) (Ypn r k)
theorem Xxa{r i k:Nat}(h:i<=k): gC r i<=gC r k:=by
 induction k with
 | zero=>rw[show i=0 by omega];exact W0a _
 | succ k j =>
  by_cases e:i=k+1
  rw[e];exact W0a _
  exact W0j (j (by omega)) (by show _<=2*gC r k+2*cB r k+r+iS r k r+2;omega)
theorem Yk9{r i k p:Nat}(h:i<=k): iB r i p<=iB r k p:=by
 induction k generalizing p with
 | zero=>rw[show i=0 by omega];exact W0a _
 | succ k j =>
  by_cases e:i=k+1
  rw[e];exact W0a _
  have o:=j (p:=p) (by omega)
  have I:=Xji (W0a r) (k:=k) (Xtp r k p)
  exact W0j (W0j o I) (by show _<=2*(p+iB r k (nB r k p)+cB r k);omega)
theorem Ygq{r i k p:Nat}(h:i<=k): iS r i p<=iS r k p:=by
 induction k generalizing p with
 | zero=>rw[show i=0 by omega];exact W0a _
 | succ k j =>
  by_cases e:i=k+1
  rw[e];exact W0a _
  have o:=j (p:=p) (by omega)
  have I:=Xpy (W0a r) (k:=k) (show p<=nS r k p by unfold nS;omega)
  exact W0j (W0j o I) (by show _<=p+iS r k (nS r k p)+cB r k;omega)
theorem Xh9{c c' z h p i:Nat}(o:c<=c')(I:z<=h)(M:p<=i): ∀ {j:Nat},imB c z j p<=imB c' h j i
 | 0=>by show p+1<=i+1;omega
 | j+1=>by have:=Xh9 o I M (j:=j);show 2*imB c z j p+z+c+1<=2*imB c' h j i+h+c'+1;omega
theorem Ydu{c z p:Nat}: ∀ {j:Nat},p<=imB c z j p
 | 0=>by show p<=p+1;omega
 | j+1=>by have:=Ydu (c:=c) (z:=z) (p:=p) (j:=j);show _<=2*imB c z j p+z+c+1;omega
variable{K:Nat}{G:Tw K}{ρ ρ' ρu:Nat->El K}
def RtV(G:Tw K)(m z j:Nat)(h:List (List Rat))(ρ ρu:Nat->El K): Prop:=∀i,i<j->∃(n:Nat) (s:El n),n<=m/\h[i]?=some (toL n s)/\Sz z (toL n s)/\ev G ρ n s=ρu i
theorem RtV.mono{m o z I j:Nat}{M:List (List Rat)}(h:RtV G m z j M ρ ρu)(Z:m<=o)(O:z<=I)(hr:∀i,i<m->ρ' i=ρ i): RtV G o I j M ρ' ρu:=λi hi=>by
 obtain⟨n,s,h1,T,U,V⟩:=h i hi
 exact⟨n,s,by omega,T,U.mono O,by rw[<-V];exact Xbw λi hi=>hr i (by omega)⟩
theorem RtV.snoc{m z j n:Nat}{o:List (List Rat)}(h:RtV G m z j o ρ ρu)(I:o.length=j){s:El n}(M:n<=m)(O:Sz z (toL n s))(T:ev G ρ n s=ρu j): RtV G m z (j+1) (o++[toL n s]) ρ ρu:=λi hi=>by
 by_cases e:i=j
 subst e
 exact⟨n,s,M,by rw[W0n (by omega),I,W3a];rfl,O,T⟩
 obtain⟨U,s',V,Z,h3,h4⟩:=h i (by omega)
 exact⟨U,s',V,by rw[W0q (by omega),Z],h3,h4⟩
structure Nm where
 k:Nat
 t:Tw k
 a:El k
structure NOk (G:Tw K) (S:List (El K)) (r p:Nat) (x:Nm) (v:El K):Prop where
 ex:∃ρ,TOk G S x.k x.t ρ/\ev G ρ x.k x.a=v
 r:TS r x.k x.t
 p:Sz p (toL x.k x.a)
theorem NOk.mono{S:List (El K)}{r i p j:Nat}{x:Nm}{v:El K}(h:NOk G S r p x v)(hr:r<=i)(hp:p<=j): NOk G S i j x v:=⟨h.ex,h.r.mono hr,h.p.mono hp⟩
theorem NOk.le(hG:Xcg K G){S:List (El K)}{r p:Nat}{x:Nm}{v:El K}{n:Nat}(h:NOk G S r p x v)(i:S.length<=n): x.k<=n:=by
 obtain⟨ρ,j,_⟩:=h.ex
 exact W0j (j.le hG) i
theorem NOk.sgn(hG:Xcg K G){S:List (El K)}{r p:Nat}{x:Nm}{v:El K}(h:NOk G S r p x v): sgn K G v=sgn x.k x.t x.a:=by
 obtain⟨ρ,i,j⟩:=h.ex
 rw[<-j,Xdl hG i.h]
theorem NOk.neg{S:List (El K)}{r p:Nat}{x:Nm}{v:El K}(h:NOk G S r p x v): NOk G S r p ⟨x.k,x.t,Tow.neg x.k x.a⟩ (Tow.neg K v):=by
 obtain⟨ρ,i,j⟩:=h.ex
 exact⟨⟨ρ,i,by rw[<-j];exact Xdm⟩,h.r,by rw[Xb7];exact h.p.neg⟩
end
end Go.Tow
namespace Go.Vm
open Go
section
variable{c:Cx}{s:St}{p:Pl}
noncomputable def Ynf(tb:Nat->Option TI)(n:Nat)(s:St): Option (Pl×AV×Int×Int):=match nxA tb n s with
 | some (p,o,args)=>match o.op with
  | .slice T _ lo hi i=>match tb T with
   | some j=>match j.z,Xkb lo hi i args with
    | .sl _ _,some (a,none,some h,some m)=>some (p,a,h,m)
    | _,_=>none
   | none=>none
  | _=>none
 | none=>none
theorem S3(i:Nat){o sz l n:Nat}{j m:Int}{a:AV}(h:Ynf c.tb c.n s=some (p,a,j,m))(ha:a=.own o sz l n\/a=.ow3 o sz l n)(h0:0<i)(hi:i<=n)(k:p.nx c (.ow3 o sz l i))(I:j=i:=by first | exact rfl | omega)(M:m=i:=by first | exact rfl | omega): StP c s:=by
 subst I;subst M
 unfold Ynf at h
 split at h<;>try cases h
 rename_i O
 split at h<;>try cases h
 rename_i T
 split at h<;>try cases h
 rename_i ti U
 split at h<;>cases h
 rename_i V Z
 refine Xbl (us:=[]) O ?_ (Pl.nx_nil k)
 rw[T]
 have hr:sl3 (i:Int) (i:Int) a=some (.ow3 o sz l i):=by rcases ha with rfl | rfl<;>(rw[sl3,if_pos ⟨by omega,by omega,rfl⟩];simp)
 simp only[F,Fp,U,V,Z,hr]
 rw[if_neg (λh=>by omega)]
theorem S30{a:AV}{i m:Int}(h:Ynf c.tb c.n s=some (p,a,i,m))(ha:Ygh a=true)(k:p.nx c .nil)(j:i=0:=by first | exact rfl | omega)(o:m=0:=by first | exact rfl | omega): StP c s:=by
 subst j;subst o
 unfold Ynf at h
 split at h<;>try cases h
 rename_i I
 split at h<;>try cases h
 rename_i M
 split at h<;>try cases h
 rename_i V O
 split at h<;>cases h
 rename_i T U
 refine Xbl (us:=[]) I ?_ (Pl.nx_nil k)
 rw[M]
 simp only[F,Fp,O,T,U]
 simp only[ha,true_and,and_self,if_true]
theorem D3(i:Nat){o sz l n:Nat}{j:Int}(h:nxS c.tb c.n s=some (p,.ow3 o sz l n,some j,none))(hi:i<=n)(k:p.nx c (.ow3 o sz (l+i) (n-i)))(e:j=i:=by first | exact rfl | omega): StP c s:=by
 subst e
 refine Xkh h ?_ k
 rw[slA,if_pos ⟨by omega,by omega⟩];simp
noncomputable def Yqx(tb:Nat->Option TI)(n:Nat)(s:St): Option (Pl×Nat×Nat×Nat×Nat×Int):=match nxA tb n s with
 | some (p,o,[.ow3 q sz l m,.d (.int _ j)])=>match o.op with
  | .indexAddr T _ _=>match tb T with
   | some h=>match h.z,Nat.beq sz h.e.size with
    | .sl _ _,true=>some (p,q,sz,l,m,j)
    | _,_=>none
   | none=>none
  | _=>none
 | _=>none
theorem E3(i:Nat){q sz m:Nat}{j:Int}(h:Yqx c.tb c.n s=some (p,q,sz,0,m,j))(hi:i<m)(k:p.nx c (.el q sz i 0))(o:j=i:=by first | exact rfl | omega): StP c s:=by
 subst o
 unfold Yqx at h
 split at h<;>try cases h
 rename_i I
 split at h<;>try cases h
 rename_i M
 split at h<;>try cases h
 rename_i U O
 split at h<;>cases h
 rename_i T hb
 refine Xbl (us:=[]) I ?_ (Pl.nx_nil k)
 rw[M]
 simp only[F,Fp,O,T,ixA]
 rw[if_pos ⟨by omega,by omega,W0c hb⟩]
 simp
theorem Nd(t sz:Nat){K:List Kt}{E:Env}{H:Hpl}(h:nxJ c.tb c.n s=some (K,E,H))(k:StP c (.j [] K ((t,.d (.sl sz []))::E) H))(T:look E t=some .nil:=by exact rfl): StP c s:=by
 unfold nxJ at h
 split at h<;>cases h
 rename_i U
 refine go 1000 U ?_
 rintro a w ⟨s0,W,θ,V,o,O,rfl⟩
 refine k a w ⟨_,W,θ,V,?_,O,rfl⟩
 rw[show sem ((t,AV.d (.sl sz []))::E) H=(upd (look E) t (.d (.sl sz [])),look H) by rw[Xa4]]
 refine⟨o.fm,⟨o.rel.defers,o.rel.size,λq v hq=>?_⟩,o.obs,λq v i hq hi=>?_⟩
 rcases Xae hq with ⟨M,I⟩ | ⟨M,I⟩
 subst M;subst I
 obtain⟨p,e⟩:=Xol (o.rel.has q _ T)
 rw[e]
 exact Yoc rfl (W0a _) (by decide) (.inl rfl)
 exact o.rel.has q v I
 rcases Xae hq with ⟨M,I⟩ | ⟨M,I⟩
 subst I;exact hi.elim
 exact o.ids q v i I hi
end
end Go.Vm
namespace Go.Proofs.YtnedfplmoojbaaaGreatDoor.R9
open Go Go.Vm Go.Num Go.Tow Go.Proofs.YtnedfplmoojbaaaGreatDoor
theorem cmpQ_ne{x y:Rat}: Xmw x y≠0↔x≠y:=by
 unfold Xmw
 split
 exact⟨λ_ e=>by subst e;exact absurd ‹_› (Rat.lt_irrefl),λ_=>by decide⟩
 split
 exact⟨λ_ e=>by subst e;exact absurd ‹_› (Rat.lt_irrefl),λ_=>by decide⟩
 exact⟨λh=>absurd rfl h,λh=>by grind⟩
theorem Yfb{l m:List Rat}{p q:Nat}(O:Ps p l)(T:Ps q m)(hp:p+q<=8796093022208)(U:l.length<=1048576): C0 370 [.d (dqs l),.d (dqs m)] (·=.b (dc (l=m))):=by
 refine En Tryz.func370 λ_ _ _=>?_
 refine By rfl (λh=>?_) λh=>?_<;>simp only[lq] at h
 exact R1 rfl (.bp ⟨nofun,λe=>absurd (by rw[e]) h⟩)
 have h:l.length=m.length:=by omega
 refine Lo (λk:Nat=>[(0,.d (dqs l)),(1,.d (dqs m)),(5,.d (.int .i64 k))]) (λ_=>[]) (λk=>k<=l.length/\l.take k=m.take k) (λk=>l.length-k) 0 [] rfl ⟨by omega,rfl⟩ λk ⟨V,o⟩=>?_
 refine By rfl (λM=>?_) λM=>?_<;>simp only[lq] at M
 obtain⟨x,j⟩:=qat (l:=l) (k:=k) (by omega)
 obtain⟨y,i⟩:=qat (l:=m) (k:=k) (by omega)
 refine Dw rfl<|Ix k rfl (mp j)<|Ix k rfl (mp i)<|Ce rfl (R2.Cmp_ok (O x (W0h j)) (T y (W0h i)) hp)<|By rfl (λI=>?_) λI=>?_
 exact R1 rfl (.bp ⟨nofun,λe=>by subst e;rw[j] at i;injection i with i;exact absurd i (cmpQ_ne.1 I)⟩)
 have e:x=y:=W0t λh=>I (cmpQ_ne.2 h)
 refine Ar (k+1:Nat) rfl ?_
 exact Bk (k+1) [] rfl ⟨by omega,by rw[W1w,W1w,j,i,o,e]⟩ (by show l.length-(k+1)<l.length-k;omega)
 rw[W0b (by omega),W0b (by omega)] at o
 exact R1 rfl (.bp ⟨λ_=>o,λ_=>rfl⟩)
theorem begins_ok{T U:List (List Rat)}{p q:Nat}(O:Pt p T)(V:Pt q U)(hp:p+q<=8796093022208)(hl:T.length<=16): C0 354 [.d (dts T),.d (dts U)] (·=.b (dc (T.take U.length=U))):=by
 refine En Tryz.func354 λ_ _ _=>?_
 refine By rfl (λh=>?_) λh=>?_<;>simp only[lt'] at h
 exact R1 rfl (.bp ⟨nofun,λe=>absurd (congrArg List.length e) (by rw[W0k];omega)⟩)
 refine Lo (λk:Nat=>[(0,.d (dts T)),(1,.d (dts U)),(5,.d (.int .i64 k))]) (λ_=>[]) (λk=>k<=U.length/\T.take k=U.take k) (λk=>U.length-k) 0 [] rfl ⟨by omega,rfl⟩ λk ⟨hk,o⟩=>?_
 refine By rfl (λM=>?_) λM=>?_<;>simp only[lt'] at M
 obtain⟨x,i⟩:∃x,T[k]?=some x:=⟨_,W0e (by omega)⟩
 obtain⟨y,j⟩:∃y,U[k]?=some y:=⟨_,W0e (by omega)⟩
 obtain⟨x1,Z⟩:=O k x i
 obtain⟨y1,y2⟩:=V k y j
 have:=p16 (by omega:k<=16)
 refine Dw rfl<|Ix k rfl (mp i)<|Ix k rfl (mp j)<|Ce rfl (Yfb Z y2 hp (by omega))<|By rfl (λI=>?_) λI=>?_
 exact R1 rfl (.bp ⟨nofun,λe=>by
  have:U[k]?=some x:=by rw[<-e,W1h,if_pos (by omega),i]
  rw[j] at this;injection this with this
  exact absurd this.symm (by simpa [Xas,Xaj] using I)⟩)
 have e:x=y:=by simpa [Xas,Xaj] using I
 refine Ar (k+1:Nat) rfl ?_
 exact Bk (k+1) [] rfl ⟨by omega,by rw[W1w,W1w,i,j,o,e]⟩ (by show U.length-(k+1)<U.length-k;omega)
 have e:k=U.length:=by omega
 subst e
 rw[W2u] at o
 exact R1 rfl (.bp ⟨λ_=>o,λ_=>rfl⟩)
theorem Yf9{T:List (List Rat)}{l:List Rat}(h0:0<l.length)(j:T.length<=16)(o:l.length<=2^T.length): C0 356 [.d (dts T),.d (dqs l)] (·=.d (dqs (l++List.replicate (2^T.length-l.length) 0))):=by
 have hp:=p16 j
 obtain⟨n,i⟩:∃n,n=2^T.length:=⟨_,rfl⟩
 rw[<-i] at hp o |-
 refine En Tryz.func356 λ_ _ _=>?_
 refine ApL ((l++List.replicate 0 0).map dq) rfl (by simp) (by simpa using h0) (by simp;omega) ?_
 refine Lo (λk:Nat=>[(0,.d (dts T)),(5,.own 6 4 0 ((l++List.replicate k 0).map dq).length)]) (λk=>[(6,.arr 4 ((l++List.replicate k 0).map dq))]) (λk=>l.length+k<=n) (λk=>n-k) 0 [(8,6)] rfl (by omega) λk I=>?_
 refine Ar n rfl ?_ (by rw[i];simp only[lt'];exact Xb1 (by omega))
 refine By rfl (λh=>?_) λh=>?_<;>simp only[lq,W0i,W1o] at h
 refine Ce rfl (R2.FromInt_ok (z:=0) (by decide))<|ApO ((l++List.replicate (k+1) 0).map dq) rfl rfl rfl (by rw[W7b];simp) (by simp;omega) ?_
 exact Bk (k+1) [(18,6)] rfl (by omega:l.length+(k+1)<=n) (by show n-(k+1)<n-k;omega)
 refine R1 rfl (.own rfl (by omega) ?_)
 rw[W1i,show n-l.length=k by omega]
 exact W0b (by simp)
theorem Xwo{k m:Nat}{s:Tow.El k}{b:Tow.El m}{T:Tw m}(h:Lf s b)(i:k<=m)(j:m<=16): C0 356 [.d (dt T),.d (de s)] (·=.d (de b)):=by
 have:=Yf9 (T:=toT m T) (l:=toL k s) (by rw[Xab];exact W0p k) (by rw[Xaa];omega) (by rw[Xab,Xaa];exact W0o (by decide) i)
 rw[Xaa,Xab,<-h] at this
 exact this
def Rts(k z j:Nat)(h:List (List Rat))(σ:Nat->Tow.El k): Prop:=∀i,i<j->∃(m:Nat) (s:Tow.El m),m<=k/\h[i]?=some (toL m s)/\Lf s (σ i)/\Sz z (toL k (σ i))
theorem Xgn{k R z:Nat}{T:Tw k}{I:List (List Rat)}{σ:Nat->Tow.El k}(M:TS R k T)(O:k<=16): ∀ {j p:Nat} {a:Tow.El j},Rts k z j I σ->Sz p (toL j a)->j<=16->imB (cB R k) z j p<=4398046511104 ->
 C0 357 [.d (dt T),.d (dts I),.d (de a)] (·=.d (de (ev T σ j a))):=by
 intro j
 induction j with
 | zero =>
  intro p a _ ha hj hb
  have U:∀y:Rat,Qs p y->C0 357 [.d (dt T),.d (dts I),.d (dqs [y])] (·=.d (de (rat k y))):=λy hy=>by
   refine En Tryz.func357 λ_ _ _=>?_
   exact Yes rfl rfl<|Ix 0 rfl (u:=dq y) rfl<|Ce rfl (R6.FromRat_el O)<|R0
  exact U a (ha.qs (W0g.2 rfl))
 | succ j V =>
  intro p a Z ha hj hb
  have hb':2*imB (cB R k) z j p+z+cB R k+1<=4398046511104:=hb
  have o:Rts k z j I σ:=λi hi=>Z i (by omega)
  have hpj:=p16 (by omega:j<=16)
  have hp0:=W0p j
  have hs:∀i,i<j->Sz z (toL k (σ i)):=λi hi=>(o i hi).elim λ_ h=>h.elim λ_ h=>h.2.2.2
  have h1:=Xme M (a:=a.1) hs (Sz.left ha)
  have h2:=Xme M (a:=a.2) hs (Sz.right ha)
  obtain⟨m,s,m1,m2,m3,m4⟩:=Z j (by omega)
  refine En Tryz.func357 λ_ _ _=>?_
  refine No rfl (by show ¬((((toL j a.1++toL j a.2).map dq).length:Nat):Int)=1;rw[hvL];omega)<|Ar (2^j:Nat) rfl ?_ (hvq a (by omega))
  refine Lo (λi:Nat=>[(0,.d (dt T)),(1,.d (dts I)),(2,.d (de a)),(7,.d (.int .i64 (2^j:Nat))),(8,.d (.int .i64 i))]) (λ_=>[]) (λi=>i<=j) (λi=>j-i) 0 [] rfl (by omega) λi hi=>?_
  refine Ar (i+1:Nat) rfl ?_
  refine Ar (2^(i+1):Nat) rfl ?_ (Xb1 (by omega))
  refine By rfl (λh=>?_) λh=>?_
  have h:((2^(i+1):Nat):Int)<(((toL j a.1++toL j a.2).map dq).length:Nat):=h
  rw[hvL,<-Nat.pow_succ'] at h
  have h:i+1<j+1:=(W3i (by decide:1<2)).1 (by omega)
  refine Ar (i+1:Nat) rfl ?_
  exact Bk (i+1) [] rfl (by omega:i+1<=j) (by show j-(i+1)<j-i;omega)
  have h:¬((2^(i+1):Nat):Int)<(((toL j a.1++toL j a.2).map dq).length:Nat):=h
  rw[hvL,<-Nat.pow_succ'] at h
  have h:¬i+1<j+1:=λe=>h (by have:=(W3i (by decide:1<2)).2 e;omega)
  obtain rfl:i=j:=by omega
  refine Dw rfl<|Tk (2^i) ((toL i a.1).map dq) rfl rfl (Xcq a) (hvT a) ?_
  refine Ce rfl (V o (Sz.left ha) (by omega) (by omega))<|Dp (2^i) ((toL i a.2).map dq) rfl rfl (Xcq a) (hvD a) ?_
  exact Ce rfl (V o (Sz.right ha) (by omega) (by omega))<|Ix i rfl (mp m2)<|Ce rfl (Xwo (T:=T) m3 m1 O)<|Ce rfl (R6.Mul_el M h2 m4 O (by omega))<|Ce rfl (R6.Add_el O h1.ps (h2.mul M m4).ps (by omega))<|R0
end Go.Proofs.YtnedfplmoojbaaaGreatDoor.R9
namespace Go.Tow
open Go Go.Num Go.Proofs.YtnedfplmoojbaaaGreatDoor
section
def woA{α:Type}(i:Nat): Nat->List α->List α
 | _,[]=>[]
 | p,x::l=>if p/2^i%2=0 then x::woA i (p+1) l else woA i (p+1) l
def wo{α:Type}(l:List α)(i:Nat): List α:=woA i 0 l
theorem Xou{α:Type}{i:Nat}{l m:List α}: ∀ {p:Nat},woA i p (l++m)=woA i p l++woA i (p+l.length) m:=by
 induction l with
 | nil=>intro p;rfl
 | cons x l h =>
  intro p
  simp only[W4g,woA,h,W1j,show p+1+l.length=p+(l.length+1) by omega]
  split<;>rfl
theorem Xif{α:Type}{i:Nat}{l:List α}: ∀ {p:Nat} {x:α},x∈woA i p l->x∈l:=by
 induction l with
 | nil=>intro p x h;exact h
 | cons y l j =>
  intro p x h
  simp only[woA] at h
  split at h
  rcases W1s.1 h with h | h
  rw[h];exact W0w ..
  exact W1c _ (j h)
  exact W1c _ (j h)
theorem Yej{α:Type}{i:Nat}{l:List α}: ∀ {p:Nat},p+l.length<=2^i->woA i p l=l:=by
 induction l with
 | nil=>intro p _;rfl
 | cons x l j =>
  intro p h
  simp only[W1j] at h
  simp only[woA]
  rw[if_pos (by rw[W4o (by omega)]),j (by omega)]
theorem Xy7{α:Type}{i:Nat}{l:List α}: ∀ {p:Nat},2^i<=p->p+l.length<=2*2^i->woA i p l=[]:=by
 induction l with
 | nil=>intro p _ _;rfl
 | cons x l h =>
  intro p o j
  simp only[W1j] at j
  simp only[woA]
  have:p/2^i=1:=by rw[Nat.div_eq_iff (W0p i)];omega
  rw[this,if_neg (by decide),h (by omega) (by omega)]
theorem Yny{α:Type}{i:Nat}{l:List α}: ∀ {p q:Nat},woA i (p+2^(i+1)*q) l=woA i p l:=by
 induction l with
 | nil=>intro p q;rfl
 | cons x l j =>
  intro p q
  have h:(p+2^(i+1)*q)/2^i%2=p/2^i%2:=by
   rw[W0z,W0v,W7a _ _ (W0p i),W5m]
  simp only[woA,h,show p+2^(i+1)*q+1=p+1+2^(i+1)*q by omega,j]
def oc(l:List Rat)(i:Nat): Prop:=∃p x,l[p]?=some x/\p/2^i%2=1/\x≠0
def rm: (k:Nat)->Nat->El (k+1)->El k
 | 0,_,a=>a.1
 | k+1,i,a=>if i=k+1 then a.1 else pr (rm k i a.1) (rm k i a.2)
def rmT: (k:Nat)->Nat->Tw (k+1)->Tw k
 | 0,_,_=>()
 | k+1,i,t=>if i=k+1 then t.1 else tsn (rmT k i t.1) (rm k i t.2)
theorem Xgb: ∀ {k i:Nat} {a:El (k+1)},i<=k->toL k (rm k i a)=wo (toL (k+1) a) i:=by
 have j:∀ {k:Nat} {a:El (k+1)},toL k a.1=wo (toL (k+1) a) k:=by
  intro k a
  show _=woA k 0 (toL k a.1++toL k a.2)
  rw[Xou,Yej (by rw[Xab];omega),Xy7 (by rw[Xab];omega) (by rw[Xab,Xab];omega),W4x]
 intro k
 induction k with
 | zero=>intro i a h;rw[show i=0 by omega];exact j
 | succ k o =>
  intro i a h
  by_cases e:i=k+1
  subst e
  rw[show rm (k+1) (k+1) a=a.1 from if_pos rfl];exact j
  rw[show rm (k+1) i a=pr (rm k i a.1) (rm k i a.2) from if_neg e]
  show toL k (rm k i a.1)++toL k (rm k i a.2)=woA i 0 (toL (k+1) a.1++toL (k+1) a.2)
  rw[o (by omega),o (by omega),Xou,Xab]
  congr 1
  obtain⟨d,hd⟩:∃d,k+1=i+1+d:=⟨k-i,by omega⟩
  have hp:2^(k+1)=2^(i+1)*2^d:=by rw[hd,W0x]
  rw[show wo (toL (k+1) a.2) i=woA i 0 (toL (k+1) a.2) from rfl,hp]
  exact Yny.symm
theorem Xo0: ∀ {k i:Nat} {t:Tw (k+1)},i<=k->toT k (rmT k i t)=(toT (k+1) t).take i++((toT (k+1) t).drop (i+1)).map λl=>wo l i:=by
 intro k
 induction k with
 | zero=>intro i t h;rw[show i=0 by omega];rfl
 | succ k j =>
  intro i t h
  by_cases e:i=k+1
  subst e
  rw[show rmT (k+1) (k+1) t=t.1 from if_pos rfl]
  show _=(toT (k+1) t.1++[toL (k+1) t.2]).take (k+1)++((toT (k+1) t.1++[toL (k+1) t.2]).drop (k+1+1)).map _
  rw[W7f (Xaa _ _),List.drop_of_length_le (by rw[W0i,Xaa];exact W0a _)]
  simp
  rw[show rmT (k+1) i t=tsn (rmT k i t.1) (rm k i t.2) from if_neg e]
  show toT k (rmT k i t.1)++[toL k (rm k i t.2)]=(toT (k+1) t.1++[toL (k+1) t.2]).take i++((toT (k+1) t.1++[toL (k+1) t.2]).drop (i+1)).map _
  rw[j (by omega),Xgb (by omega),W2s (by rw[Xaa];omega),W6s (by rw[Xaa];omega)]
  simp
theorem _root_.Go.Proofs.YtnedfplmoojbaaaGreatDoor.TS.rm{r:Nat}: ∀ {k i:Nat} {t:Tw (k+1)},i<=k->TS r (k+1) t->TS r k (rmT k i t):=by
 intro k
 induction k with
 | zero=>intro i t _ _;trivial
 | succ k I =>
  intro i t h o
  by_cases e:i=k+1
  rw[show rmT (k+1) i t=t.1 from if_pos e];exact o.1
  rw[show rmT (k+1) i t=tsn (rmT k i t.1) (Tow.rm k i t.2) from if_neg e]
  exact⟨I (by omega) o.1,o.2.sub λx j=>by
   have j:x∈toL k (Tow.rm k i t.2):=j
   rw[Xgb (by omega)] at j
   exact Xif j⟩
variable{K:Nat}{G:Tw K}{ρ:Nat->El K}
def skip{α:Type}(i:Nat)(ρ:Nat->α): Nat->α:=λj=>if j<i then ρ j else ρ (j+1)
theorem Xdx{k i:Nat}{a:El (k+1)}(h:¬oc (toL (k+1) a) i): (i=k->a.2=zero k)/\(i<k->¬oc (toL k a.1) i/\¬oc (toL k a.2) i):=by
 have T:∀ {p:Nat} {x:Rat},(toL k a.2)[p]?=some x->(toL (k+1) a)[2^k+p]?=some x:=λ{p x} o=>by
  show (toL k a.1++toL k a.2)[2^k+p]?=_
  rw[W0n (by rw[Xab];omega),Xab,W3v,o]
 refine⟨λe=>(Xam k a.2).2 λx o=>W0t λh0=>h ?_,λhi=>⟨λ⟨p,x,j,I,M⟩=>h ⟨p,x,?_,I,M⟩,λ⟨p,x,j,I,M⟩=>h ⟨2^k+p,x,T j,?_,M⟩⟩⟩
 obtain⟨p,hp⟩:=W3d o
 have O:=(W0s.1 hp).1
 rw[Xab] at O
 refine⟨2^k+p,x,T hp,?_,h0⟩
 rw[e,show (2^k+p)/2^k=1 by rw[Nat.div_eq_iff (W0p k)];omega]
 show (toL k a.1++toL k a.2)[p]?=_
 rw[W0q (W0s.1 j).1,j]
 obtain⟨d,hd⟩:∃d,k=i+1+d:=⟨k-i-1,by omega⟩
 rw[hd,W0x,W0z,Nat.add_comm,W0v,W7a _ _ (W0p i),W5m]
 exact I
theorem Yg1: ∀ {k i:Nat} {a:El (k+1)},i<=k->¬oc (toL (k+1) a) i->ev G (skip i ρ) k (rm k i a)=ev G ρ (k+1) a:=by
 have o:∀ {k:Nat} {a:El (k+1)},¬oc (toL (k+1) a) k->ev G (skip k ρ) k a.1=ev G ρ (k+1) a:=by
  intro k a h
  show _=add K (ev G ρ k a.1) (mul K G (ev G ρ k a.2) (ρ k))
  rw[(Xdx h).1 rfl,Xef,(Xax K G).zm,(Xax K G).az]
  exact Xbw λj O=>if_pos O
 intro k
 induction k with
 | zero => intro i a h I; obtain rfl:i = 0 := by omega
           exact o I
 | succ k M =>
  intro i a h I
  by_cases e:i=k+1
  subst e
  rw[show rm (k+1) (k+1) a=a.1 from if_pos rfl];exact o I
  . rw[show rm (k+1) i a=pr (rm k i a.1) (rm k i a.2) from if_neg e]
    obtain⟨T,U⟩:=(Xdx I).2 (by omega)
    show add K (ev G (skip i ρ) k (rm k i a.1)) (mul K G (ev G (skip i ρ) k (rm k i a.2)) (skip i ρ k))=add K (ev G ρ (k+1) a.1) (mul K G (ev G ρ (k+1) a.2) (ρ (k+1)))
    rw[M (by omega) T,M (by omega) U,show skip i ρ k=ρ (k+1) from if_neg (by omega)]
theorem Yls: ∀ {k i:Nat},i<=k->∀w:El k,∃O:El (k+1),ev G ρ (k+1) O=ev G (skip i ρ) k w:=by
 intro k
 induction k with
 | zero=>intro i h w;exact⟨up 0 w,Xxj⟩
 | succ k o =>
  intro i h w
  by_cases e:i=k+1
  exact⟨up (k+1) w,by rw[Xxj];exact Xbw λj V=>(if_pos (by omega)).symm⟩
  . obtain⟨I,T⟩:=o (i:=i) (by omega) w.1
    obtain⟨M,U⟩:=o (i:=i) (by omega) w.2
    refine⟨pr I M,?_⟩
    show add K (ev G ρ (k+1) I) (mul K G (ev G ρ (k+1) M) (ρ (k+1)))=add K (ev G (skip i ρ) k w.1) (mul K G (ev G (skip i ρ) k w.2) (skip i ρ k))
    rw[T,U,show skip i ρ k=ρ (k+1) from if_neg (by omega)]
theorem TOk.rm(hG:Xcg K G){S:List (El K)}: ∀ {k i:Nat} {t:Tw (k+1)},i<=k->TOk G S (k+1) t ρ->(∀j l,i<j->(toT (k+1) t)[j]?=some l->¬oc l i)->TOk G S k (rmT k i t) (skip i ρ):=by
 have O:∀ {k:Nat} {t:Tw (k+1)},TOk G S (k+1) t ρ->TOk G S k t.1 (skip k ρ):=λ{k t} h =>
  ⟨h.r.1,h.h.1.congr λi hi=>(if_pos hi).symm,λi hi=>by show (if i<k then ρ i else ρ (i+1))∈S;rw[if_pos hi];exact h.s i (by omega)⟩
 intro k
 induction k with
 | zero => intro i t h o T; obtain rfl:i = 0 := by omega
           exact O o
 | succ k ih =>
  intro i t h o T
  by_cases e:i=k+1
  subst e
  rw[show rmT (k+1) (k+1) t=t.1 from if_pos rfl];exact O o
  . rw[show rmT (k+1) i t=tsn (rmT k i t.1) (Tow.rm k i t.2) from if_neg e]
    have I:TOk G S (k+1) t.1 ρ:=⟨o.r.1,o.h.1,λi hi=>o.s i (by omega)⟩
    have M:∀j:Nat,(toT (k+2) t)[j]?=(toT (k+1) t.1++[toL (k+1) t.2])[j]?:=λ_=>rfl
    have hi:=ih (by omega) I λj l hj hl=>T j l hj (by rw[M,W0q (W0s.1 hl).1,hl])
    have h2:¬oc (toL (k+1) t.2) i:=T (k+1) _ (by omega) (by rw[M,W0n (by rw[Xaa];exact W0a _),Xaa,W3a];rfl)
    have U:=Yg1 (G:=G) (ρ:=ρ) (a:=t.2) (by omega:i<=k) h2
    have hs:skip i ρ k=ρ (k+1):=if_neg (by omega)
    refine⟨⟨hi.r,?_,λ⟨w,V⟩=>?_⟩,⟨hi.h,?_,?_⟩,λj hj=>?_⟩
    show sgn k (rmT k i t.1) (Tow.rm k i t.2)=1
    rw[<-Xdl hG hi.h,U,Xdl hG I.h];exact o.r.2.1
    have V:mul k (rmT k i t.1) w w=Tow.rm k i t.2:=V
    obtain⟨w',Z⟩:=Yls (G:=G) (ρ:=ρ) (by omega:i<=k) w
    refine o.r.2.2 ⟨w',Xfn hG I.h I.r ?_⟩
    rw[Xbg I.h,Z,<-Xbg hi.h,V,U]
    . show mul K G (skip i ρ k) (skip i ρ k)=ev G (skip i ρ) k (Tow.rm k i t.2)
      rw[hs,U];exact o.h.2.1
    rw[hs];exact o.h.2.2
    show (if j<i then ρ j else ρ (j+1))∈S
    split
    exact o.s j (by omega)
    exact o.s (j+1) (by omega)
end
section
def nO(p:Nat): (m:Nat)->El m->Prop
 | 0,_=>True
 | m+1,x=>(p=m->x.2=zero m)/\(p≠m->nO p m x.1/\nO p m x.2)
def yO(p:Nat): (m:Nat)->El m->Prop
 | 0,x=>x=zero 0
 | m+1,x=>(p=m->x.1=zero m)/\(p≠m->yO p m x.1/\yO p m x.2)
theorem Xl3{p:Nat}: ∀ {m:Nat},nO p m (zero m)
 | 0=>trivial
 | m+1=>⟨λ_=>rfl,λ_=>⟨Xl3,Xl3⟩⟩
theorem Ydj{p:Nat}{x:Rat}: ∀ {m:Nat},nO p m (rat m x)
 | 0=>trivial
 | m+1=>⟨λ_=>rfl,λ_=>⟨Ydj,Xl3⟩⟩
theorem Ynp(m:Nat)(a:El m): add m a (zero m)=a:=by
 cases m with
 | zero=>exact W6k a
 | succ m=>exact W3f (Ynp m _) (Ynp m _)
theorem Ynw(m:Nat)(a:El m): add m (zero m) a=a:=by
 cases m with
 | zero=>exact Rat.zero_add a
 | succ m=>exact W3f (Ynw m _) (Ynw m _)
theorem Xwf{p:Nat}: ∀ {m:Nat} {x y:El m},nO p m x->nO p m y->nO p m (add m x y)
 | 0,_,_,_,_=>trivial
 | m+1,x,y,h,k=>⟨λe=>by show add m x.2 y.2=_;rw[h.1 e,k.1 e];exact Ynp m _,λe=>⟨Xwf (h.2 e).1 (k.2 e).1,Xwf (h.2 e).2 (k.2 e).2⟩⟩
theorem Xr9{d n:Nat}(h:0<n){m:Nat}: IsD d n (toL m (zero m)):=by
 rw[Xbu]
 exact λx i=>⟨0,by rw[(W6n.1 i).2,W3p];rfl,h⟩
theorem Xwt{d n:Nat}(i:0<n){x:Rat}(h:IsD d n [x]): ∀ {m:Nat},IsD d n (toL m (rat m x))
 | 0=>h
 | m+1=>by show IsD d n (toL m (rat m x)++toL m (zero m));exact(Xwt i h).append (Xr9 i)
theorem Xpu{d n p:Nat}: ∀ {m:Nat} {x y:El m},p<m->nO p m x->yO p m y->IsD d n (toL m x)->IsD d n (toL m y)->IsD d n (toL m (add m x y))
 | m+1,x,y,hp,i,j,h,k=>by
  by_cases e:p=m
  have o:=i.1 e
  have I:=j.1 e
  show IsD d n (toL m (add m x.1 y.1)++toL m (add m x.2 y.2))
  have M:add m x.1 (zero m)=x.1:=Ynp m _
  have O:add m (zero m) y.2=y.2:=Ynw m _
  rw[o,I,M,O]
  exact(IsD.left (m:=toL m x.2) h).append (IsD.right (l:=toL m y.1) k)
  show IsD d n (toL m (add m x.1 y.1)++toL m (add m x.2 y.2))
  exact(Xpu (by omega) (i.2 e).1 (j.2 e).1 (IsD.left (m:=toL m x.2) h) (IsD.left (m:=toL m y.2) k)).append (Xpu (by omega) (i.2 e).2 (j.2 e).2 (IsD.right (l:=toL m x.1) h) (IsD.right (l:=toL m y.1) k))
theorem Xwi{d n p:Nat}(j:0<n): ∀ {m:Nat} {T:Tw m} {x:El m},p<m->nO p m x->yO p m (mul m T (Xdi m p) x)/\(∀q,q≠p->nO q m x->nO q m (mul m T (Xdi m p) x))/\(IsD d n (toL m x)->IsD d n (toL m (mul m T (Xdi m p) x)))
 | m+1,T,x,hp,o=>by
  have L:=Xax m T.1
  by_cases e:p=m
  subst e
  have I:=o.1 rfl
  have em:mul (p+1) T (Xdi (p+1) p) x=(pr (zero p) x.1:El (p+1)):=by
   rw[Xlp]
   refine W3f ?_ ?_
   show add p (mul p T.1 (zero p) x.1) (mul p T.1 (mul p T.1 (rat p 1) x.2) T.2)=zero p
   rw[I,L.mz,L.zm,L.zm,L.az]
   show add p (mul p T.1 (zero p) x.2) (mul p T.1 (rat p 1) x.1)=x.1
   rw[L.zm,L.om,L.za]
  rw[em]
  refine⟨⟨λ_=>rfl,λh=>absurd rfl h⟩,λq hq h=>⟨λi=>absurd i hq,λ_=>⟨Xl3,(h.2 hq).1⟩⟩,λh=>?_⟩
  show IsD d n (toL p (zero p)++toL p x.1)
  exact(Xr9 j).append (IsD.left (m:=toL p x.2) h)
  obtain⟨M,O,U⟩:=Xwi (d:=d) j (T:=T.1) (by omega) (o.2 e).1
  obtain⟨V,Z,b3⟩:=Xwi (d:=d) j (T:=T.1) (by omega) (o.2 e).2
  have em:mul (m+1) T (Xdi (m+1) p) x=(pr (mul m T.1 (Xdi m p) x.1) (mul m T.1 (Xdi m p) x.2):El (m+1)):=by
   rw[Xrf e]
   refine W3f ?_ ?_
   show add m (mul m T.1 (Xdi m p) x.1) (mul m T.1 (mul m T.1 (zero m) x.2) T.2)=_
   rw[L.zm,L.zm,L.az];rfl
   show add m (mul m T.1 (Xdi m p) x.2) (mul m T.1 (zero m) x.1)=_
   rw[L.zm,L.az];rfl
  rw[em]
  refine⟨⟨λh=>absurd h e,λ_=>⟨M,V⟩⟩,λq hq h=>⟨λi=>?_,λi=>⟨O q hq (h.2 i).1,Z q hq (h.2 i).2⟩⟩,λh=>?_⟩
  show mul m T.1 (Xdi m p) x.2=zero m
  rw[h.1 i,L.mz]
  show IsD d n (toL m (mul m T.1 (Xdi m p) x.1)++toL m (mul m T.1 (Xdi m p) x.2))
  exact(U (IsD.left (m:=toL m x.2) h)).append (b3 (IsD.right (l:=toL m x.1) h))
theorem Xp4{d n m:Nat}(I:0<n){T:Tw m}{π:Nat->Nat}: ∀ {j:Nat} {a:El j},(∀i,i<j->π i<m)->(∀i o,i<o->o<j->π i≠π o) ->
 (IsD d n (toL j a)->IsD d n (toL m (ev T (λi=>Xdi m (π i)) j a)))/\∀q,(∀i,i<j->q≠π i)->nO q m (ev T (λi=>Xdi m (π i)) j a)
 | 0,a,_,_=>⟨λh=>Xwt I h,λq _=>Ydj⟩
 | j+1,a,M,O=>by
  have L:=Xax m T
  obtain⟨a1,V⟩:=Xp4 (d:=d) I (T:=T) (a:=a.1) (λi hi=>M i (by omega)) (λi o hi U=>O i o hi (by omega))
  obtain⟨b1,Z⟩:=Xp4 (d:=d) I (T:=T) (a:=a.2) (λi hi=>M i (by omega)) (λi o hi U=>O i o hi (by omega))
  have hp:=M j (by omega)
  have hd:∀i,i<j->π j≠π i:=λi hi e=>O i j hi (by omega) e.symm
  obtain⟨c1,c2,c3⟩:=Xwi (d:=d) I (T:=T) hp (Z (π j) hd)
  have e:ev T (λi=>Xdi m (π i)) (j+1) a=add m (ev T (λi=>Xdi m (π i)) j a.1) (mul m T (Xdi m (π j)) (ev T (λi=>Xdi m (π i)) j a.2)):=by
   show add m _ (mul m T _ _)=_
   rw[L.mc]
  rw[e]
  exact⟨λh=>Xpu hp (V (π j) hd) c1 (a1 (IsD.left (m:=toL j a.2) h)) (c3 (b1 (IsD.right (l:=toL j a.1) h))),λq hq=>Xwf (V q λi hi=>hq i (by omega)) (c2 q (hq j (by omega)) (Z q λi hi=>hq i (by omega)))⟩
end
section
theorem Xld{b:Rat}: ∀ {m:Nat} {t:Tw m} {y:El m},toL m (mul m t (rat m b) y)=(toL m y).map (b*·)
 | 0,_,_=>rfl
 | m+1,t,y=>by
  have L:=Xax m t.1
  show toL m (add m (mul m t.1 (rat m b) y.1) (mul m t.1 (mul m t.1 (zero m) y.2) t.2))++toL m (add m (mul m t.1 (rat m b) y.2) (mul m t.1 (zero m) y.1))=(toL m y.1++toL m y.2).map _
  rw[L.zm,L.zm,L.zm,L.az,L.az,Xld,Xld,W2j]
theorem Yf5{m:Nat}{x:Rat}: x∈toL m (rat m x):=by rw[Xda];exact W0w ..
theorem Yfj{m:Nat}{x y:Rat}(h:rat m x=rat m y): x=y:=by
 have:=congrArg (toL m) h
 rw[Xda,Xda] at this
 injection this
variable{K:Nat}{G:Tw K}{S:List (El K)}{r p:Nat}{ρ:Nat->El K}
def Yhy(G:Tw K)(S:List (El K))(r p:Nat): Prop:=∀g∈S,∃z,NOk G S r p z (mul K G g g)
theorem TOk.low{k:Nat}{T:Tw (k+1)}(h:TOk G S (k+1) T ρ): TOk G S k T.1 ρ:=⟨h.r.1,h.h.1,λi hi=>h.s i (by omega)⟩
theorem Xvz(hG:red K G){z:Nm}{x:Rat}(i:NOk G S r p z (rat K x)): Sz p [x]:=by
 obtain⟨I,j,M⟩:=i.ex
 have:z.a=rat z.k x:=Xfn (Xad hG) j.h j.r (by rw[M,Xdf])
 have o:=i.p
 rw[this] at o
 exact o.sub λy O=>by rw[W0g.1 O];exact Yf5
theorem Yqf(hG:red K G)(hq:Yhy G S r p){T:Tw 1}(h:TOk G S 1 T ρ): Sz p [(T.2:Rat)]:=by
 obtain⟨z,i⟩:=hq _ (h.s 0 (by decide))
 rw[h.h.2.1] at i
 exact Xvz hG i
theorem Xuu{a b y0 u:Rat}{d e:Nat}{Z0 Z1 Y0 U:Int}{p P:Nat}(d0:0<d)(d1:d<2^p)(e1:e<2^P)(e0:0<e)(z01:(a+b*y0)*(d:Rat)=(Z0:Rat))(O:Z0.natAbs<2^p)(z11:b*u*(d:Rat)=(Z1:Rat))(j:Z1.natAbs<2^p)
 (y01:y0*(e:Rat)=(Y0:Rat)) (T:Y0.natAbs<2^P) (o:u*(e:Rat)=(U:Rat)) (I:U.natAbs<2^P) (V:u≠0):Sz (p+P+1) [a,b]:=by
 have hU:U≠0:=λh=>by
  rw[h] at o
  have:(e:Rat)≠0:=λh=>by
   have:(e:Rat).num=0:=by rw[h];rfl
   rw[Rat.num_natCast] at this
   omega
  rcases Rat.mul_eq_zero.1 o with h | h
  exact V h
  exact this h
 have Z:0<U.natAbs:=by omega
 have hpp:2^(p+P+1)=2*(2^p*2^P):=by rw[W0z,W0x];omega
 have hpos:=W0p p
 have hposP:=W0p P
 have hab:a*((d:Rat)*(U:Rat))=((Z0*U-Z1*Y0:Int):Rat):=by
  rw[W8d,W4b,W4b];grind
 have hbb:b*((d:Rat)*(U:Rat))=((Z1*(e:Int):Int):Rat):=by
  rw[W4b,show (((e:Int)):Rat)=(e:Rat) from rfl];grind
 have M:∀ {x:Rat} {w:Int},x*((d:Rat)*(U:Rat))=(w:Rat)->∃w':Int,x*((d*U.natAbs:Nat):Rat)=(w':Rat)/\w'.natAbs=w.natAbs:=λ{x w} i=>by
  rcases Int.natAbs_eq U with h | h
  refine⟨w,?_,rfl⟩
  rw[<-i,W6p]
  congr 2
  exact(congrArg (λn:Int=>(n:Rat)) h).symm
  refine⟨-w,?_,W5l w⟩
  rw[W5t,<-i,W6p]
  have:(U:Rat)=-((U.natAbs:Nat):Rat):=by
   conv=>lhs;rw[h]
   rw[W5t];rfl
  rw[this];grind
 refine⟨d*U.natAbs,W1p d0 Z,?_,λx i=>?_⟩
 have:=W3u d1 I
 omega
 rcases W1s.1 i with i | i
 obtain⟨w,w1,w2⟩:=M hab
 refine⟨w,by rw[i];exact w1,?_⟩
 have a1:=W3u O I
 have a2:=W3u j T
 rw[<-W4d] at a1 a2
 rw[w2];omega
 obtain⟨w,w1,w2⟩:=M hbb
 refine⟨w,by rw[W0g.1 i];exact w1,?_⟩
 have a2:=W3u j e1
 rw[w2,W4d,W1b];omega
theorem Yoj(hG:red K G)(hS:S.length<=3){g:El K}(q a b:Rat){z:Nm}(V:NOk G S r p z (add K (rat K a) (mul K G (rat K b) g)))(hq0:mul K G g g=rat K q)(hq1:Sz p [q])(hns:¬ ∃y:Rat,y*y=q): Sz (p+(p+1+gC r 3)+1) [a,b]:=by
 have M:=Xad hG
 have L:=Xax K G
 by_cases hb:b=(0:Rat)
 rw[hb,Xc7,L.zm,L.az] at V
 have:=Xvz hG V
 rw[hb]
 obtain⟨d,d0,d1,d2⟩:=this
 have hp:=W0o (n:=2) (by decide) (by omega:p<=p+(p+1+gC r 3)+1)
 exact⟨d,d0,by omega,λx hx=>by
  rcases W1s.1 hx with hx | hx
  obtain⟨w,w1,w2⟩:=d2 x (by rw[hx];exact W0g.2 rfl)
  exact⟨w,w1,by omega⟩
  exact⟨0,by rw[W0g.1 hx,W3p];rfl,W0p _⟩⟩
 obtain⟨ρz,I,h2⟩:=V.ex
 have hz3:=V.le M hS
 have hb1:mul K G (rat K (1/b)) (rat K b)=rat K 1:=by rw[<-Xcz,W5y hb]
 obtain⟨y,hy⟩:∃y,y=mul z.k z.t (rat z.k (1/b)) (add z.k z.a (neg z.k (rat z.k a))):=⟨_,rfl⟩
 have hyv:ev G ρz z.k y=g:=by
  rw[hy,Xbg I.h,Xdf,Xcv,Xdm,Xdf,h2]
  have e1:add K (add K (rat K a) (mul K G (rat K b) g)) (neg K (rat K a))=mul K G (rat K b) g:=(Laws.req L [rat K a,mul K G (rat K b) g] (.add (.add (.v 0) (.v 1)) (.neg (.v 0))) (.v 1) (by decide +kernel))
  rw[e1,<-L.ma,hb1,L.om]
 have O:mul z.k z.t y y=rat z.k q:=Xfn M I.h I.r (by rw[Xbg I.h,hyv,hq0,Xdf])
 have hys:Sz (p+1+gC r 3) (toL z.k y):=(Sz.rootS V.r I.r (Sz.rat z.k (hq1.qs (W0g.2 rfl))) O).mono (by have:=Xxa (r:=r) hz3;omega)
 have hza:z.a=add z.k (rat z.k a) (mul z.k z.t (rat z.k b) y):=Xfn M I.h I.r (by rw[h2,Xcv,Xdf,Xbg I.h,Xdf,hyv])
 have hzl:toL z.k z.a=List.zipWith (·+·) (a::List.replicate (2^z.k-1) 0) ((toL z.k y).map (b*·)):=by rw[hza,Xa0,Xda,Xld]
 have o:=Xab z.k y
 have hk0:=W0p z.k
 obtain⟨T,Z,j⟩:∃T Z,toL z.k y=T::Z:=by
  cases e:toL z.k y with
  | nil=>rw[e] at o;simp at o;omega
  | cons T Z=>exact⟨_,_,rfl⟩
 have hu:∃u∈Z,u≠0:=W0t λhn=>by
  have hys0:Z=List.replicate (2^z.k-1) 0:=List.eq_replicate_iff.2 ⟨by rw[j] at o;simp at o;omega,λu hu=>W0t λh=>hn ⟨u,hu,h⟩⟩
  have e:y=rat z.k T:=Xg1 (by rw[j,hys0,Xda])
  rw[e,<-Xcz] at O
  exact hns ⟨T,Yfj O⟩
 obtain⟨u,hu1,hu0⟩:=hu
 obtain⟨i,hi⟩:=W3d hu1
 have hil:=(W0s.1 hi).1
 have hm0:a+b*T∈toL z.k z.a:=by rw[hzl,j];simp
 have hm1:b*u∈toL z.k z.a:=by
  rw[hzl,j]
  refine W0h (i:=i+1) ?_
  have hyl2:Z.length=2^z.k-1:=by rw[j] at o;simp at o;omega
  simp[W6x,hi,W4l,show i<2^z.k-1 by omega,Rat.zero_add]
 obtain⟨d,d0,d1,d2⟩:=V.p
 obtain⟨e,e0,e1,e2⟩:=hys
 obtain⟨Z0,z01,z02⟩:=d2 _ hm0
 obtain⟨Z1,z11,z12⟩:=d2 _ hm1
 obtain⟨Y0,y01,y02⟩:=e2 T (by rw[j];exact W0w ..)
 obtain⟨U,u01,u02⟩:=e2 u (by rw[j];exact W1c _ hu1)
 exact Xuu d0 d1 e1 e0 z01 z02 z11 z12 y01 y02 u01 u02 hu0
theorem Yrv(hG:red K G)(j:S.length<=3)(hq:Yhy G S r p){T:Tw 2}(h:TOk G S 2 T ρ): Sz (p+(p+1+gC r 3)+1) (toL 1 T.2):=by
 obtain⟨z,i⟩:=hq _ (h.s 1 (by decide))
 rw[h.h.2.1] at i
 exact Yoj hG j (g:=ρ 0) T.1.2 T.2.1 T.2.2 i h.h.1.2.1 (Yqf hG hq h.low) h.r.1.2.2
theorem Yn7(hG:red K G){k:Nat}{T:Tw k}(h:TOk G S k T ρ)(O:S.length<=k){s:El K}(I:s∈S): ∃i,i<k/\ρ i=s:=W0t λM=>by
 have:=Xv4 (k+1) S (λi=>if i=k then s else ρ i) (λi hi=>by
  by_cases e:i=k
  simp only[if_pos e];exact I
  simp only[if_neg e];exact h.s i (by omega)) (λi j o U=>by
  have hi:¬i=k:=by omega
  by_cases e:j=k
  simp only[if_pos e,if_neg hi];exact λh=>M ⟨i,by omega,h⟩
  simp only[if_neg e,if_neg hi];exact h.h.ne (Xad hG) h.r i j o (by omega))
 omega
theorem Yru(hG:red K G)(hS:S.length<=3)(hq:Yhy G S r p){T:Tw 3}(h:TOk G S 3 T ρ): Sz p (toL 2 T.2):=by
 have I:=Xad hG
 obtain⟨z,U⟩:=hq _ (h.s 2 (by decide))
 rw[h.h.2.1] at U
 obtain⟨M,V,h2⟩:=U.ex
 have:∀i,∃j,i<z.k->j<3/\ρ j=M i:=λi=>by
  by_cases hi:i<z.k
  obtain⟨j,j1,j2⟩:=Yn7 hG h hS (V.s i hi);exact⟨j,λ_=>⟨j1,j2⟩⟩
  exact⟨0,λh=>absurd h hi⟩
 obtain⟨π,o⟩:=W6m this
 have hb:ev G ρ 3 (ev T (λi=>Xdi 3 (π i)) z.k z.a)=ev G ρ 3 (up 2 T.2):=by
  rw[Xmf h.h (ρ':=M) (λi hi=>by rw[Xhg (o i hi).1,(o i hi).2]),h2,Xxj]
 have hb:=Xfn I h.h h.r hb
 obtain⟨d,d0,d1,d2⟩:=U.p
 have:=(Xp4 (d:=d) (n:=2^p) (W0p p) (T:=T) (π:=π) (a:=z.a) (λi hi=>(o i hi).1) (λi Z hi O e=>V.h.ne I V.r i Z hi O (by rw[<-(o i (by omega)).2,<-(o Z O).2,e]))).1 d2
 rw[hb] at this
 exact⟨d,d0,d1,IsD.left (m:=toL 2 (zero 2)) this⟩
theorem Xqr(hG:red K G)(i:S.length<=3)(hq:Yhy G S r p): ∀ {m:Nat} {T:Tw m},TOk G S m T ρ->TS (p+(p+1+gC r 3)+1) m T
 | 0,_,_=>trivial
 | 1,T,h=>⟨trivial,(Yqf hG hq h).mono (by omega)⟩
 | 2,T,h=>⟨Xqr hG i hq h.low,Yrv hG i hq h⟩
 | 3,T,h=>⟨Xqr hG i hq h.low,(Yru hG i hq h).mono (by omega)⟩
 | m+4,T,h=>absurd (h.le (Xad hG)) (by omega)
end
section
def zM(R:Nat): Nat->Nat
 | 0=>3
 | i+1=>zM R i+imB (cB R 3) (zM R i) i R+gC R 3
theorem Yef{R:Nat}: ∀ {i j:Nat},i<=j->zM R i<=zM R j
 | i,0,h=>by rw[show i=0 by omega];exact W0a _
 | i,j+1,h=>by
  by_cases e:i=j+1
  rw[e];exact W0a _
  exact W0j (Yef (by omega:i<=j)) (by show _<=zM R j+imB (cB R 3) (zM R j) j R+gC R 3;omega)
variable{K:Nat}{G:Tw K}{S:List (El K)}{R r p:Nat}{ρ:Nat->El K}
structure Fg where
 H:Nat
 R:Nat
 z:Nat->Nat
 Z:Nat
def Fg.E(c:Fg): Nat:=imB (cB c.R c.H) c.Z (c.H-1) c.R
def jW(c:Fg)(p:Nat): Nat:=imB (cB c.R c.H) c.Z c.H p
def oW(c:Fg)(p:Nat): Nat:=2*jW c p+cB c.R c.H+1
structure Fg.Ok (c:Fg):Prop where
 h:1<=c.H/\c.H<=7
 r:c.R<=1000000000
 z:∀i,i<c.H->c.z i<=c.Z
 z3:3<=c.Z
 q1:qB c.R c.H c.E<=4398046511104
 q2:qB c.R c.H c.R<=4398046511104
 q3:vB c.R c.H (c.E+gC c.R c.H)<=4398046511104
 q4:vB c.R c.H c.R<=4398046511104
theorem Fg.Ok.e{c:Fg}(h:c.Ok): c.E<=4398046511104:=W0j Yfm h.q1
theorem Ygp{c z j p:Nat}: p<=imB c z j p:=by
 induction j with
 | zero=>exact Nat.le_succ _
 | succ j h=>show p<=2*imB c z j p+z+c+1;omega
theorem Xwz{c z p:Nat}: ∀ {i j:Nat},i<=j->imB c z i p<=imB c z j p
 | i,0,h=>by rw[show i=0 by omega];exact W0a _
 | i,j+1,h=>by
  by_cases e:i=j+1
  rw[e];exact W0a _
  exact W0j (Xwz (by omega:i<=j)) (by show _<=2*imB c z j p+z+c+1;omega)
theorem Ygg{c:Fg}{p:Nat}: p<=jW c p:=Ygp
theorem Ygf{c:Fg}{m i p:Nat}(h:m<=c.H)(hi:i<=c.H): imB (cB c.R m) c.Z i p<=jW c p :=
 W0j (Xh9 (Xgv h) (W0a _) (W0a _)) (Xwz hi)
theorem Yel{c:Fg}{m i:Nat}(h:m<=c.H)(hi:i<c.H): imB (cB c.R m) c.Z i c.R<=c.E :=
 W0j (Xh9 (Xgv h) (W0a _) (W0a _)) (Xwz (by omega))
structure Wy (c:Fg) (G:Tw K) (S:List (El K)):Prop where
 k:c.Ok
 g:red K G
 s:S.length<=c.H
 t:∀ {m:Nat} {T:Tw m} {ρ:Nat->El K},TOk G S m T ρ->TS c.R m T
 z:∀ {m l:Nat} {T:Tw m} {u:Tw l} {ρ ρu:Nat->El K},TOk G S m T ρ->TOk G S l u ρu->∀i,i<l->(∀j,j<i->∃e:El m,ev G ρ m e=ρu j)->∀e:El m,ev G ρ m e=ρu i->Sz (c.z i) (toL m e)
theorem Wy.le{c:Fg}(W:Wy c G S){m:Nat}{T:Tw m}(h:TOk G S m T ρ): m<=c.H:=W0j (h.le (Xad W.g)) W.s
theorem choose{m:Nat}{P:Nat->Prop}{ρu:Nat->El K}(h:∀j,P j->∃e:El m,ev G ρ m e=ρu j): ∃σ:Nat->El m,∀j,P j->ev G ρ m (σ j)=ρu j:=by
 have:∀j,∃e:El m,P j->ev G ρ m e=ρu j:=λj=>by
  by_cases i:P j
  obtain⟨e,o⟩:=h j i;exact⟨e,λ_=>o⟩
  exact⟨zero m,λh=>absurd h i⟩
 exact W6m this
theorem Yjm(hG:red K G)(hS:S.length<=3)(O:∀ {m:Nat} {T:Tw m} {ρ:Nat->El K},TOk G S m T ρ->TS R m T){m l:Nat}{T:Tw m}{u:Tw l}{ρu:Nat->El K}(o:TOk G S m T ρ)(hu:TOk G S l u ρu): ∀i,i<l->(∀j,j<i->∃e:El m,ev G ρ m e=ρu j)->∀e:El m,ev G ρ m e=ρu i->Sz (zM R (i+1)) (toL m e):=λi=>by
 have I:=Xad hG
 have hm:=W0j (o.le I) hS
 induction i using Nat.strongRecOn with
 | _ i ih =>
  intro hi hj e he
  obtain⟨σ,M⟩:=choose (P:=(·<i)) hj
  obtain⟨x,_,x2,U⟩:=Tw.at (t:=u) hi
  have hx:=x2 R (O hu)
  obtain⟨U,_⟩:=U hu.h
  have hs:∀j,j<i->Sz (zM R i) (toL m (σ j)):=λj h=>(ih j h (by omega) (λj' h'=>hj j' (by omega)) _ (M j h)).mono (Yef h)
  have V:=(Xme (O o) (a:=x) hs hx).mono (Xh9 (Xgv hm) (W0a _) (W0a _))
  have Z:mul m T e e=ev T σ i x:=Xfn I o.h o.r (by rw[Xbg o.h,he,U,Xmf o.h M])
  exact(Sz.rootS (O o) o.r V Z).mono (by have:=Xxa (r:=R) hm;show _<=zM R i+imB (cB R 3) (zM R i) i R+gC R 3;omega)
theorem Yay(hG:red K G){m:Nat}{T:Tw m}(I:TOk G S m T ρ){g:El K}(Z:g∈S)(M:sgn K G g=1){e:El m}(O:ev G ρ m e=mul K G g g): ∃(j:Nat) (T':Tw j) (ρ':Nat->El K),TOk G S j T' ρ'/\Beg m T j T'/\(∀i,i<m->ρ' i=ρ i)/\∃e':El j,ev G ρ' j e'=g:=by
 have o:=Xad hG
 have L:=Xax K G
 have Sg:=Xao o
 by_cases U:Xde m T e
 obtain⟨y,hy⟩:=U
 refine⟨m,T,ρ,I,Beg.rf,λ_ _=>rfl,?_⟩
 have V:mul K G (ev G ρ m y) (ev G ρ m y)=mul K G g g:=by rw[<-Xbg I.h,hy,O]
 by_cases h0:0<=sgn K G (ev G ρ m y)
 exact⟨y,Xq0 hG V h0 (by rw[M];decide)⟩
 refine⟨neg m y,Xq0 hG ?_ (by rw[Xdm,Sg.sn];omega) (by rw[M];decide)⟩
 rw[Xdm,L.mn,L.nm,L.nn,V]
 refine⟨m+1,tsn T e,_,I.snoc o U Z O.symm M,Beg.snoc,λi hi=>if_neg (by omega),Xdi (m+1) m,?_⟩
 rw[Xhg (by omega)]
 exact if_pos rfl
theorem Xxl{m j k:Nat}{T:Tw m}{T':Tw j}{ρ':Nat->El K}(o:Beg m T j T')(ha:∀i,i<m->ρ' i=ρ i){g:El K}(h:∃e:El m,ev G ρ m e=g): ∃e:El j,ev G ρ' j e=g:=by
 obtain⟨e,I⟩:=h
 obtain⟨b,hb⟩:=Lf.ex o.le e
 exact⟨b,by rw[hb.ev o.le,Xbw ha,I]⟩
theorem Ylq(hG:red K G){m l:Nat}{T:Tw m}{u:Tw l}{ρu:Nat->El K}(hT:TOk G S m T ρ)(V:TOk G S l u ρu): ∀i,i<=l->∃(o:Nat) (T':Tw o) (ρ':Nat->El K),TOk G S o T' ρ'/\Beg m T o T'/\(∀i,i<m->ρ' i=ρ i)/\∀j,j<i->∃e:El o,ev G ρ' o e=ρu j:=λi=>by
 induction i with
 | zero=>exact λ_=>⟨m,T,ρ,hT,Beg.rf,λ_ _=>rfl,λj I=>absurd I (W3t _)⟩
 | succ i ih =>
  intro hi
  obtain⟨m1,T1,ρ1,Z,a2,a3,a4⟩:=ih (by omega)
  obtain⟨σ,M⟩:=choose (P:=(·<i)) a4
  obtain⟨x,_,_,O⟩:=Tw.at (t:=u) (by omega:i<l)
  obtain⟨O,x4⟩:=O V.h
  obtain⟨m2,T2,U,b1,b2,b3,b4⟩:=Yay hG Z (V.s i (by omega)) x4 (e:=ev T1 σ i x) (by rw[Xmf Z.h M,O])
  refine⟨m2,T2,U,b1,a2.tr b2,λj I=>by rw[b3 j (by have:=a2.le;omega),a3 j I],λj I=>?_⟩
  by_cases e:j=i
  rw[e];exact b4
  exact Xxl (k:=0) b2 b3 (a4 j (by omega))
def Fl(G:Tw K)(S:List (El K))(N:List Nm)(m:Nat)(T:Tw m)(ρ:Nat->El K): Prop:=TOk G S m T ρ/\∀z∈N,∀h,TOk G S z.k z.t h->∀j,j<z.k->∃e:El m,ev G ρ m e=h j
theorem Fl.ex(hG:red K G){m:Nat}{T:Tw m}(hT:TOk G S m T ρ): ∀ {N:List Nm},(∀z∈N,∃o,TOk G S z.k z.t o)->∃(O:Nat) (T':Tw O) (ρ':Nat->El K),Fl G S N O T' ρ'/\Beg m T O T'/\(∀i,i<m->ρ' i=ρ i)
 | [],_=>⟨m,T,ρ,⟨hT,λz h=>nomatch h⟩,Beg.rf,λ_ _=>rfl⟩
 | z::N,h=>by
  obtain⟨m1,T1,ρ1,⟨a1,a2⟩,a3,a4⟩:=Fl.ex hG hT (N:=N) λz M=>h z (W1c _ M)
  obtain⟨o,M⟩:=h z (W0w ..)
  obtain⟨m2,T2,U,b1,b2,b3,b4⟩:=Ylq hG a1 M z.k (W0a _)
  refine⟨m2,T2,U,⟨b1,λy V Z I j hj=>?_⟩,a3.tr b2,λi hi=>by rw[b3 i (by have:=a3.le;omega),a4 i hi]⟩
  rcases W1s.1 V with e | V
  subst e
  rw[I.h.uniq hG M.h j hj];exact b4 j hj
  exact Xxl (k:=0) b2 b3 (a2 y V Z I j hj)
def Gs(G:Tw K)(S:List (El K))(N:List Nm)(b:Nat)(v:El K): Prop:=∀(m:Nat) (T:Tw m) (ρ:Nat->El K),Fl G S N m T ρ->∃a:El m,ev G ρ m a=v/\Sz b (toL m a)
variable{N:List Nm}{b c:Nat}{v w:El K}
theorem Gs.mono(h:Gs G S N b v)(hb:b<=c): Gs G S N c v:=λm T ρ i=>let ⟨a,j,o⟩:=h m T ρ i;⟨a,j,o.mono hb⟩
def imS(c:Nat)(z:Nat->Nat): Nat->Nat->Nat
 | 0,p=>p+1
 | j+1,p=>2*imS c z j p+z j+c+1
theorem Xxk{k R:Nat}{z:Nat->Nat}{T:Tw k}{σ:Nat->El k}(h:TS R k T): ∀ {j p:Nat} {a:El j},(∀i,i<j->Sz (z i) (toL k (σ i)))->Sz p (toL j a)->Sz (imS (cB R k) z j p) (toL k (ev T σ j a))
 | 0,p,a,_,ha=>Sz.rat k (ha.qs (x:=a) (W0g.2 rfl))
 | j+1,p,a,o,ha=>by
  have I:=Xxk h (a:=a.1) (λi hi=>o i (by omega)) (Sz.left ha)
  have M:=Xxk h (a:=a.2) (λi hi=>o i (by omega)) (Sz.right ha)
  have O:=M.mul h (o j (by omega))
  show Sz _ (toL k (add k (Tow.ev T σ j a.1) (mul k T (Tow.ev T σ j a.2) (σ j))))
  rw[Xa0]
  exact(I.add O).mono (by show _<=2*imS (cB R k) z j p+z j+cB R k+1;omega)
theorem Yk5{c d:Nat}{z:Nat->Nat}(h:c<=d): ∀ {j p:Nat},imS c z j p<=imS d z j p
 | 0,p=>W0a _
 | j+1,p=>by
  have:=Yk5 (z:=z) h (j:=j) (p:=p)
  show 2*imS c z j p+z j+c+1<=2*imS d z j p+z j+d+1
  omega
theorem Ydt{c:Nat}{z:Nat->Nat}{p:Nat}: ∀ {i j:Nat},i<=j->imS c z i p<=imS c z j p
 | i,0,h=>by rw[show i=0 by omega];exact W0a _
 | i,j+1,h=>by
  by_cases e:i=j+1
  rw[e];exact W0a _
  exact W0j (Ydt (by omega:i<=j)) (by show _<=2*imS c z j p+z j+c+1;omega)
theorem Gs.short{c:Fg}(W:Wy c G S){z:Nm}(M:NOk G S r p z v)(hN:z∈N){n:Nat}(U:z.k<=n): Gs G S N (imS (cB c.R c.H) c.z n p) v:=λm T ρ o=>by
 obtain⟨I,O,V⟩:=M.ex
 obtain⟨σ,i⟩:=choose (P:=(·<z.k)) (o.2 z hN I O)
 have Z:∀j,j<z.k->Sz (c.z j) (toL m (σ j)):=λj h=>W.z o.1 O j h (λj' h'=>⟨_,i j' (by omega)⟩) _ (i j h)
 exact⟨ev T σ z.k z.a,by rw[Xmf o.1.h i,V],(Xxk (z:=c.z) (W.t o.1) Z M.p).mono (W0j (Yk5 (Xgv (W.le o.1))) (Ydt U))⟩
theorem Gs.add(h:Gs G S N b v)(k:Gs G S N c w): Gs G S N (b+c+1) (Tow.add K v w):=λm T ρ i=>by
 obtain⟨x,j,o⟩:=h m T ρ i
 obtain⟨y,I,M⟩:=k m T ρ i
 exact⟨Tow.add m x y,by rw[Xcv,j,I],by rw[Xa0];exact o.add M⟩
theorem Gs.neg(h:Gs G S N b v): Gs G S N b (Tow.neg K v):=λm T ρ i=>by
 obtain⟨x,j,o⟩:=h m T ρ i
 exact⟨Tow.neg m x,by rw[Xdm,j],by rw[Xb7];exact o.neg⟩
theorem Gs.mul{f:Fg}(W:Wy f G S)(h:Gs G S N b v)(k:Gs G S N c w): Gs G S N (b+c+cB f.R f.H) (Tow.mul K G v w):=λm T ρ i=>by
 obtain⟨x,j,o⟩:=h m T ρ i
 obtain⟨y,I,M⟩:=k m T ρ i
 exact⟨Tow.mul m T x y,by rw[Xbg i.1.h,j,I],(o.mul (W.t i.1) M).mono (by have:=Xgv (r:=f.R) (W.le i.1);omega)⟩
theorem Gs.rat{q:Rat}(h:Qs p q): Gs G S N (p+1) (Tow.rat K q):=λm T ρ i=>⟨Tow.rat m q,Xdf,Sz.rat m h⟩
theorem Yj5{k:Nat}(h:Tow.rat k 1=zero k): False:=by
 have:=congrArg (toL k) h
 rw[Xda,Xbu] at this
 have h0:=W0p k
 rw[show 2^k=2^k-1+1 by omega,W4h] at this
 injection this with i
 exact absurd i (by decide)
theorem Gs.inv{f:Fg}(W:Wy f G S)(h:Gs G S N b v)(o:Tow.mul K G w v=Tow.rat K 1): Gs G S N (iS f.R f.H b) w:=λm T ρ j=>by
 have L:=Xax K G
 obtain⟨x,I,M⟩:=h m T ρ j
 have O:x≠zero m:=λe=>by
  rw[e,Xef] at I
  rw[<-I,L.mz] at o
  exact Yj5 o.symm
 obtain⟨i,hi⟩:=(Xcp j.1.r).2 x O
 refine⟨i,?_,(Sz.invS (W.t j.1) M hi).mono (Ygq (W.le j.1))⟩
 have U:Tow.mul K G (ev G ρ m i) v=Tow.rat K 1:=by rw[<-I,<-Xbg j.1.h,Xb9 hi,Xdf]
 rw[<-L.mo (ev G ρ m i),<-o,L.mc w,<-L.ma,U,L.om]
theorem Gs.sz(hG:red K G)(hN:∀z∈N,∃i,TOk G S z.k z.t i)(h:Gs G S N b v){m:Nat}{T:Tw m}(O:TOk G S m T ρ){a:El m}(ha:ev G ρ m a=v): Sz b (toL m a):=by
 obtain⟨U,T',ρ',j,o,V⟩:=Fl.ex hG O hN
 obtain⟨x,Z,I⟩:=h U T' ρ' j
 obtain⟨y,M⟩:=Lf.ex o.le a
 have e:y=x:=Xfn (Xad hG) j.1.h j.1.r (by rw[M.ev o.le,Xbw V,ha,Z])
 rw[<-e,M] at I
 exact Sz.left I
theorem NOk.re{f:Fg}(W:Wy f G S)(hN:∀z∈N,∃i,TOk G S z.k z.t i){x:Nm}(M:NOk G S r p x v)(h:Gs G S N b v): NOk G S f.R b x v:=by
 obtain⟨j,o,I⟩:=M.ex
 exact⟨⟨j,o,I⟩,W.t o,h.sz W.g hN o I⟩
end
section
def wR: Nat:=15346
def gF: Fg:=⟨3,wR,λi=>zM wR (i+1),zM wR 3⟩
theorem Yo6: gF.Ok:=⟨by decide,by decide,λi hi=>Yef hi,by decide +kernel,by decide +kernel,by decide +kernel,by decide +kernel,by decide +kernel⟩
variable{K:Nat}{G:Tw K}{S:List (El K)}{p:Nat}
theorem Yhy.wd(hG:red K G)(j:S.length<=3)(hq:Yhy G S 300 600): Wy gF G S:=⟨Yo6,hG,j,λh=>Xqr hG j hq h,λo I i hi M e O=>Yjm hG j (λh=>Xqr hG j hq h) o I i hi M e O⟩
end
end Go.Tow
namespace Go.Proofs.YtnedfplmoojbaaaGreatDoor.R9
open Go Go.Vm Go.Num Go.Tow Go.Proofs.YtnedfplmoojbaaaGreatDoor
theorem _root_.Go.Tow.RtV.sig{K:Nat}{G:Tw K}{m z j:Nat}{I:List (List Rat)}{ρ ρu:Nat->Tow.El K}(h:RtV G m z j I ρ ρu): ∃σ:Nat->Tow.El m,Rts m z j I σ/\∀i,i<j->ev G ρ m (σ i)=ρu i:=by
 have:∀i,∃b:Tow.El m,i<j->(∃(n:Nat) (s:Tow.El n),n<=m/\I[i]?=some (toL n s)/\Lf s b/\Sz z (toL m b))/\ev G ρ m b=ρu i:=λi=>by
  by_cases hi:i<j
  obtain⟨n,s,M,O,T,U⟩:=h i hi
  obtain⟨b,hb⟩:=Lf.ex M s
  exact⟨b,λ_=>⟨⟨n,s,M,O,hb,hb.sz T⟩,by rw[hb.ev M,U]⟩⟩
  exact⟨zero m,λh=>absurd h hi⟩
 obtain⟨σ,o⟩:=W6m this
 exact⟨σ,λi hi=>(o i hi).1,λi hi=>(o i hi).2⟩
theorem Xvr(m:Nat): Sz 3 (toL (m+1) (Xdi (m+1) m)):=by
 rw[Xlp]
 exact((Sz.zero m).append (Sz.rat m (x:=1) (p:=1) ⟨show (1:Rat).num.natAbs<2^1 by decide +kernel,show ((1:Rat).den:Int).natAbs<2^1 by decide +kernel⟩)).mono (by omega)
section
variable{c:Fg}{K:Nat}{G:Tw K}{S:List (Tow.El K)}{k l:Nat}{t:Tw k}{u:Tw l}{ρ ρu:Nat->Tow.El K}
def ExQ(c:Fg)(G:Tw K)(S:List (Tow.El K))(l k:Nat)(t:Tw k)(ρ ρu:Nat->Tow.El K)(f:D->D->AV)(v:AV): Prop:=∃(m:Nat) (T:Tw m) (h:List (List Rat)) (ρ':Nat->Tow.El K),v=f (dt T) (dts h) /\
 TOk G S m T ρ'/\Beg k t m T/\(∀i,i<k->ρ' i=ρ i)/\RtV G m c.Z l h ρ' ρu/\((∀i,i<l->∃e:Tow.El k,ev G ρ k e=ρu i)->toT m T=toT k t)
def ExI(c:Fg)(G:Tw K)(S:List (Tow.El K))(l k:Nat)(t:Tw k)(ρ ρu:Nat->Tow.El K)(x:Nat×(Σ m,Tw m)×List (List Rat)): Prop:=x.1<=l/\x.2.2.length=x.1/\∃ρ':Nat->Tow.El K,TOk G S x.2.1.1 x.2.1.2 ρ'/\Beg k t x.2.1.1 x.2.1.2/\(∀i,i<k->ρ' i=ρ i)/\RtV G x.2.1.1 c.Z x.1 x.2.2 ρ' ρu/\((∀i,i<l->∃e:Tow.El k,ev G ρ k e=ρu i)->toT x.2.1.1 x.2.1.2=toT k t)
theorem ExI.sq(W:Wy c G S)(hu:TOk G S l u ρu){i m:Nat}{T:Tw m}{M:List (List Rat)}{x:Tow.El i}(h:ExI c G S l k t ρ ρu (i,⟨m,T⟩,M))(I:i<l){σ:Nat->Tow.El m}{ρ':Nat->Tow.El K}(O:TOk G S m T ρ')(hB:Beg k t m T)(ha:∀i,i<k->ρ' i=ρ i)(U:RtV G m c.Z i M ρ' ρu)(hc:(∀i,i<l->∃e:Tow.El k,ev G ρ k e=ρu i)->toT m T=toT k t)(s2:∀j,j<i->ev G ρ' m (σ j)=ρu j)(V:ev G ρ' m (ev T σ i x)=mul K G (ρu i) (ρu i))(x4:sgn K G (ρu i)=1){y:Tow.El m}(h1:mul m T y y=ev T σ i x)(h2:0<=sgn m T y): ExI c G S l k t ρ ρu (i+1,⟨m,T⟩,M++[toL m y]):=by
 have hG:=W.g
 have hGr:=Xad hG
 have hl3:=W.le hu
 obtain⟨_,o,_⟩:=h
 have o:M.length=i:=o
 have hy:ev G ρ' m y=ρu i:=Xq0 hG (by rw[<-Xbg O.h,h1,V]) (by rw[Xdl hGr O.h];exact h2) (by rw[x4];decide)
 exact⟨I,by simp[o],ρ',O,hB,ha,U.snoc o (W0a _) ((W.z O hu i I (λj hj=>⟨σ j,s2 j hj⟩) y hy).mono (W.k.z i (by omega))) hy,hc⟩
theorem ExI.new(W:Wy c G S)(hu:TOk G S l u ρu){i m:Nat}{T:Tw m}{U:List (List Rat)}{x:Tow.El i}(h:ExI c G S l k t ρ ρu (i,⟨m,T⟩,U))(I:i<l){σ:Nat->Tow.El m}{ρ':Nat->Tow.El K}(V:TOk G S m T ρ')(hB:Beg k t m T)(ha:∀i,i<k->ρ' i=ρ i)(hrt:RtV G m c.Z i U ρ' ρu)(M:ev G ρ' m (ev T σ i x)=mul K G (ρu i) (ρu i))(x4:sgn K G (ρu i)=1)(h2:¬Xde m T (ev T σ i x)): ExI c G S l k t ρ ρu (i+1,⟨m+1,tsn T (ev T σ i x)⟩,U++[toL (m+1) (Xdi (m+1) m)]):=by
 have hG:=W.g
 have O:=Xad hG
 obtain⟨_,o,_⟩:=h
 have o:U.length=i:=o
 have hT':=V.snoc O h2 (hu.s i I) (a:=ev T σ i x) M.symm x4
 refine⟨I,by simp[o],_,hT',hB.tr Beg.snoc,λj hj=>?_,?_,λhh=>?_⟩
 have:=hB.le
 show (if j=m then ρu i else ρ' j)=ρ j
 rw[if_neg (by omega),ha j hj]
 refine(hrt.mono (Nat.le_succ _) (W0a _) (λj hj=>if_neg (by omega))).snoc o (W0a _) ((Xvr m).mono W.k.z3) ?_
 rw[Xhg (by omega)];exact if_pos rfl
 obtain⟨b,hb⟩:=hh i I
 obtain⟨b',hb'⟩:=Lf.ex hB.le b
 refine absurd ⟨b',Xfn O V.h V.r ?_⟩ h2
 rw[Xbg V.h,hb'.ev hB.le,Xbw ha,hb,M]
def ExB(c:Fg)(m:Nat): Prop:=qB c.R m c.E<=4398046511104/\qB c.R m c.R<=4398046511104/\vB c.R m (c.E+gC c.R m)<=4398046511104/\vB c.R m c.R<=4398046511104
theorem exB(h:c.Ok){m:Nat}(i:m<=c.H): ExB c m:=by
 have j:=Xpc (r:=c.R) (p:=c.E) i
 have o:=Xpc (r:=c.R) (p:=c.R) i
 have I:=Xxa (r:=c.R) i
 have M:=Xc9 (r:=c.R) (k:=m) (by omega:c.E+gC c.R m<=c.E+gC c.R c.H)
 have O:=Xg0 (r:=c.R) (s:=c.E+gC c.R c.H) i
 have T:=Xg0 (r:=c.R) (s:=c.R) i
 have q1:=h.q1
 have q2:=h.q2
 have U:=h.q3
 have q4:=h.q4
 exact⟨by omega,by omega,by omega,by omega⟩
theorem ExI.rad(W:Wy c G S)(I:TOk G S l u ρu){i m:Nat}{T:Tw m}{rs:List (List Rat)}{ρ':Nat->Tow.El K}(M:i<l)(O:TOk G S m T ρ')(U:RtV G m c.Z i rs ρ' ρu): ∃(x:Tow.El i) (σ:Nat->Tow.El m),(toT l u)[i]?=some (toL i x)/\Sz c.R (toL i x)/\Rts m c.Z i rs σ/\(∀j,j<i->ev G ρ' m (σ j)=ρu j)/\ev G ρ' m (ev T σ i x)=mul K G (ρu i) (ρu i)/\sgn K G (ρu i)=1/\Sz c.E (toL m (ev T σ i x)):=by
 have hl3:=W.le I
 have V:=W.le O
 obtain⟨x,x1,o,x3⟩:=Tw.at (t:=u) M
 have o:=o c.R (W.t I)
 obtain⟨x3,x4⟩:=x3 I.h
 obtain⟨σ,s1,s2⟩:=U.sig
 exact⟨x,σ,x1,o,s1,s2,by rw[Xmf O.h s2,x3],x4,(Xme (W.t O) (a:=x) (λi' h'=>(s1 i' h').elim λ_ h=>h.elim λ_ h=>h.2.2.2) o).mono (Yel V (by omega))⟩
theorem Xd1(W:Wy c G S)(ht:TOk G S k t ρ)(hu:TOk G S l u ρu): C0 355 [.d (dt t),.d (dt u)] (ExQ c G S l k t ρ ρu λT I=>.tup (.pr (.d T) (.pr (.d I) (.d (.int .i64 0))))):=by
 have hl3:=W.le hu
 have hH:=W.k.h
 refine En Tryz.func355 λ_ _ _=>?_
 refine Nl 7 7 1 rfl ?_
 refine Lo (λ(x:Nat×(Σ m,Tw m)×List (List Rat))=>[(0,.d (dt x.2.1.2)),(1,.d (dt u)),(7,.gr 7 1 (x.2.2.map dqs)),(8,.d (.int .i64 x.1))]) (λx=>[(7,.tok (x.2.2.map dqs).length 1)])
  (ExI c G S l k t ρ ρu) (λx=>l-x.1) (0,⟨k,t⟩,[]) [] rfl ⟨W0r _,rfl,ρ,ht,Beg.rf,λ_ _=>rfl,λi hi=>by omega,λ_=>rfl⟩ (λ(i,⟨m,T⟩,I) hI=>?_)
 have V:=hI
 obtain⟨hi,hrl,ρ',o,hB,ha,j,hc⟩:=hI
 simp only at hi hrl o hB ha j hc
 have Z:=W.le o
 have hz:=W.t o
 refine By rfl (λh=>?_) λh=>?_<;>simp only[lt',Xaa] at h
 have O:i<l:=by omega
 obtain⟨x,σ,x1,x2,s1,s2,U,x4,hsz⟩:=ExI.rad W hu O o j
 obtain⟨q1,q2,q3,q4⟩:=exB W.k Z
 have hE:=Yel Z (by omega:i<c.H)
 have hR:=W.k.r
 have hE':=W.k.e
 have M:(I.map dqs).length<=c.H:=by rw[W1k];omega
 refine Ix i rfl (mp x1)<|Ce rfl (Xgn (k:=m) (T:=T) hz (by omega) s1 x2 (by omega) (by omega))<|Ca rfl (R8.Adjoin_ok (k:=m) (t:=T) hz hsz o.r (by omega) q1 q2 q3 q4) λv hv=>?_
 rcases hv with ⟨h1,rfl⟩ | ⟨y,h1,h2,rfl⟩ | ⟨h1,h2,h3,rfl⟩
 have:=Xdl (Xad W.g) o.h (a:=ev T σ i x)
 rw[U,(Xao (Xad W.g)).sm,x4] at this
 omega
 refine No rfl (by simp)<|ApG ((I++[toL m y]).map dqs) rfl (by simp) (by simp at M |-;omega) ?_
 refine Ar (i+1:Nat) rfl ?_
 exact Bk (i+1,⟨m,T⟩,I++[toL m y]) [(38,7)] rfl (V.sq W hu O o hB ha j hc s2 U x4 h1 h2) (by show l-(i+1)<l-i;omega)
 refine No rfl (by simp)<|ApG ((I++[toL (m+1) (Xdi (m+1) m)]).map dqs) rfl (by simp) (by simp at M |-;omega) ?_
 refine Ar (i+1:Nat) rfl ?_
 exact Bk (i+1,⟨m+1,tsn T (ev T σ i x)⟩,I++[toL (m+1) (Xdi (m+1) m)]) [(38,7)] rfl (V.new W hu O o hB ha j U x4 h2) (by show l-(i+1)<l-i;omega)
 obtain rfl:i=l:=by omega
 exact Rt rfl (.tup (.cons (.rf rfl) (.cons (.gr rfl) Xbs))) ⟨m,T,I,ρ',rfl,o,hB,ha,j,hc⟩
end
end Go.Proofs.YtnedfplmoojbaaaGreatDoor.R9
namespace Go.Proofs.YtnedfplmoojbaaaGreatDoor
open Go Go.Vm Go.Num Go.Tow
abbrev dN(x:Nm): D:=.st (.pr (dt x.t) (de x.a))
abbrev dNs(l:List Nm): D:=.sl 2 (l.map dN)
end Go.Proofs.YtnedfplmoojbaaaGreatDoor
namespace Go.Proofs.YtnedfplmoojbaaaGreatDoor.R9
open Go Go.Vm Go.Num Go.Tow Go.Proofs.YtnedfplmoojbaaaGreatDoor
section
variable{c:Fg}{K:Nat}{G:Tw K}{S:List (Tow.El K)}{r p:Nat}{x y:Nm}{vx vy:Tow.El K}
def CmP(G:Tw K)(S:List (Tow.El K))(x y:Nm)(m:Nat)(T:Tw m): Prop:=∃ρ,TOk G S m T ρ/\∀z∈[x,y],∀h,TOk G S z.k z.t h->∀j,j<z.k->∃e:Tow.El m,ev G ρ m e=h j
theorem CmP.mk(hG:red K G){i o:Nat->Tow.El K}(O:TOk G S x.k x.t i)(U:TOk G S y.k y.t o){m:Nat}{T:Tw m}{ρ:Nat->Tow.El K}(h1:TOk G S m T ρ)(h3:∀j,j<x.k->∃e:Tow.El m,ev G ρ m e=i j)(h4:∀j,j<y.k->∃e:Tow.El m,ev G ρ m e=o j): CmP G S x y m T:=⟨_,h1,λz V ρz I j M=>by
 rcases W1s.1 V with rfl | V
 obtain⟨e,Z⟩:=h3 j M;exact⟨e,by rw[Z];exact O.h.uniq hG I.h j M⟩
 obtain rfl:=W0g.1 V
 obtain⟨e,Z⟩:=h4 j M;exact⟨e,by rw[Z];exact U.h.uniq hG I.h j M⟩⟩
theorem beg_ag(hG:red K G){k m:Nat}{t:Tw k}{T:Tw m}{ρ ρ':Nat->Tow.El K}(h:Beg k t m T)(j:TOk G S k t ρ)(o:TOk G S m T ρ'): ∀i,i<k->ρ' i=ρ i:=(h.hom o.h).uniq hG j.h
theorem rts{k:Nat}{ρ:Nat->Tow.El K}(j:Nat)(h:j<k): ∃e:Tow.El k,ev G ρ k e=ρ j:=⟨Xdi _ j,Xhg h⟩
theorem beg_rt(hG:red K G){k m:Nat}{t:Tw k}{T:Tw m}{ρ ρ':Nat->Tow.El K}(h:Beg k t m T)(o:TOk G S k t ρ)(I:TOk G S m T ρ')(j:Nat)(i:j<k): ∃e:Tow.El m,ev G ρ' m e=ρ j:=by
 obtain⟨e,M⟩:=rts (G:=G) (k:=m) (ρ:=ρ') j (W0y i h.le)
 exact⟨e,by rw[M];exact beg_ag hG h o I j i⟩
theorem CmP.ext(hG:red K G){o h:Nat->Tow.El K}(i:TOk G S x.k x.t o)(I:TOk G S y.k y.t h){m z:Nat}{T:Tw m}{O:List (List Rat)}{ρ':Nat->Tow.El K}(M:TOk G S m T ρ')(U:Beg x.k x.t m T)(V:RtV G m z y.k O ρ' h): CmP G S x y m T:=.mk hG i I M (beg_rt hG U i M) λj Z=>by
 obtain⟨n,s,s1,_,_,s4⟩:=V j Z
 obtain⟨b,hb⟩:=Lf.ex s1 s
 exact⟨b,by rw[hb.ev s1,s4]⟩
theorem both(I:NOk G S r p x vx)(M:NOk G S r p y vy)(i:Nat)(hi:i<2): ∃(z:Nm) (v:Tow.El K) (h:Nat->Tow.El K),[x,y][i]?=some z/\[vx,vy][i]?=some v/\TOk G S z.k z.t h/\ev G h z.k z.a=v/\Sz p (toL z.k z.a):=by
 have:i=0\/i=1:=by omega
 rcases this with rfl | rfl
 obtain⟨ρ,j,o⟩:=I.ex;exact⟨x,vx,ρ,rfl,rfl,j,o,I.p⟩
 obtain⟨ρ,j,o⟩:=M.ex;exact⟨y,vy,ρ,rfl,rfl,j,o,M.p⟩
def JnR(c:Fg)(G:Tw K)(S:List (Tow.El K))(p:Nat)(vx vy:Tow.El K)(m:Nat)(T:Tw m)(a b:Tow.El m): Prop:=∃ρ,TOk G S m T ρ/\ev G ρ m a=vx/\ev G ρ m b=vy/\Sz (jW c p) (toL m a)/\Sz (jW c p) (toL m b)
def JnI(c:Fg)(G:Tw K)(p m:Nat)(ρ:Nat->Tow.El K)(vx vy:Tow.El K)(s:Nat×List (Tow.El m)): Prop:=s.1<=2/\s.2.length=s.1/\∀i,i<s.1->∃a v,s.2[i]?=some a/\[vx,vy][i]?=some v/\ev G ρ m a=v/\Sz (jW c p) (toL m a)
theorem JnI.step{m:Nat}{ρ:Nat->Tow.El K}{j:Nat}{I:List (Tow.El m)}{v:Tow.El K}(h:JnI c G p m ρ vx vy (j,I))(O:j<2)(T:[vx,vy][j]?=some v){b:Tow.El m}(U:ev G ρ m b=v)(V:Sz (jW c p) (toL m b)): JnI c G p m ρ vx vy (j+1,I++[b]):=by
 obtain⟨_,o,M⟩:=h
 have o:I.length=j:=o
 refine⟨O,by simp[o],λi hi=>?_⟩
 by_cases e:i=j
 subst e
 exact⟨b,v,by rw[W0n (by omega),o,W3a];rfl,T,U,V⟩
 obtain⟨a,w,Z,g2⟩:=M i (by have:i<j+1:=hi;show i<j;omega)
 exact⟨a,w,by rw[W0q (by omega),Z],g2⟩
theorem JnI.done{m:Nat}{T:Tw m}{ρ:Nat->Tow.El K}{j:List (Tow.El m)}(I:TOk G S m T ρ)(h:JnI c G p m ρ vx vy (2,j)): ∃a b,j=[a,b]/\JnR c G S p vx vy m T a b:=by
 obtain⟨_,o,i⟩:=h
 match j,o with
 | [a,b],_ =>
  obtain⟨a',v,M,O,U,V⟩:=i 0 (by decide:0<2)
  obtain⟨b',w,Z,b2,b3,b4⟩:=i 1 (by decide:1<2)
  cases M;cases O;cases Z;cases b2
  exact⟨a,b,rfl,ρ,I,U,b3,V,b4⟩
theorem img(W:Wy c G S){m l:Nat}{T:Tw m}{u:Tw l}{ρ j:Nat->Tow.El K}(o:TOk G S m T ρ)(I:TOk G S l u j){M:List (List Rat)}{σ:Nat->Tow.El m}(s1:Rts m c.Z l M σ){a:Tow.El l}(ha:Sz p (toL l a)): Sz (jW c p) (toL m (ev T σ l a)):=(Xme (W.t o) (λi h=>(s1 i h).elim λ_ h=>h.elim λ_ h=>h.2.2.2) ha).mono (Ygf (W.le o) (W.le I))
theorem Join_ok(W:Wy c G S)(hx:NOk G S r p x vx)(hy:NOk G S r p y vy)(hp:oW c p<=4398046511104): C0 329 [.d (dNs [x,y])] λv=>∃m T a b,v=.tup (.pr (.d (dNs [⟨m,T,a⟩,⟨m,T,b⟩])) (.d (.int .i64 0)))/\JnR c G S p vx vy m T a b:=by
 have hG:=W.g
 have hR:=W.k.r
 have hH:=W.k.h
 have hO:oW c p=2*jW c p+cB c.R c.H+1:=rfl
 have hpj:p<=jW c p:=Ygg
 obtain⟨ρx,o,hx2⟩:=hx.ex
 obtain⟨ρy,I,hy2⟩:=hy.ex
 have hx3:=W.le o
 have hy3:=W.le I
 have M:=W.t o
 have hyr:=W.t I
 refine En Tryz.func329 λ_ _ _=>?_
 refine Nd 4 1 rfl ?_
 refine Lo (λ(s:Nat×(Σ m,Tw m))=>[(0,.d (dNs [x,y])),(4,.d (dt s.2.2)),(5,.d (.int .i64 s.1))]) (λ_=>[]) (λs=>(s.1=0/\s.2=⟨0,()⟩)\/(s.1=1/\s.2=⟨x.k,x.t⟩)\/(s.1=2/\CmP G S x y s.2.1 s.2.2)) (λs=>2-s.1) (0,⟨0,()⟩) [] rfl (.inl ⟨rfl,rfl⟩) (λ(i,⟨m,T⟩) hI=>?_)
 simp only at hI
 rcases hI with ⟨rfl,e⟩ | ⟨rfl,e⟩ | ⟨rfl,hP⟩
 cases e
 refine Yes rfl (by decide:(0:Int)<2)<|Ix 0 rfl (u:=dN x) rfl<|By rfl (λh=>?_) λh=>?_
 refine Ix 0 rfl (u:=dN x) rfl<|Ce rfl (begins_ok (U:=[]) (q:=1) (TS.pt M) (λi r h=>by simp at h) (by omega) (by rw[Xaa];omega))<|Yes rfl (by simp)<|Ix 0 rfl (u:=dN x) rfl<|Ar (0+1:Nat) rfl ?_
 exact Bk (1,⟨x.k,x.t⟩) [] rfl (.inr (.inl ⟨rfl,rfl⟩)) (by decide:1<2)
 obtain⟨kx,tx,ax⟩:=x
 have h:¬(((toT kx tx).map dqs).length:Int)>0:=h
 obtain rfl:kx=0:=by rw[lt',Xaa] at h;omega
 refine Ix 0 rfl (u:=dN ⟨0,tx,ax⟩) rfl<|Ce rfl (begins_ok (T:=[]) (U:=[]) (p:=1) (q:=1) (λi r h=>by simp at h) (λi r h=>by simp at h) (by omega) (by decide))<|No rfl (by simp)<|Ar (0+1:Nat) rfl ?_
 exact Bk (1,⟨0,tx⟩) [] rfl (.inr (.inl ⟨rfl,rfl⟩)) (by decide:1<2)
 cases e
 have V:∀h:(toT x.k x.t).take (toT y.k y.t).length=toT y.k y.t,CmP G S x y x.k x.t:=λh=>.mk hG o I o rts (beg_rt hG (show Beg y.k y.t x.k x.t from h) I o)
 refine Yes rfl (by decide:(1:Int)<2)<|Ix 1 rfl (u:=dN y) rfl<|By rfl (λh=>?_) λh=>?_
 refine Ix 1 rfl (u:=dN y) rfl<|Ce rfl (begins_ok (T:=toT y.k y.t) (U:=toT x.k x.t) (TS.pt hyr) (TS.pt M) (by omega) (by rw[Xaa];omega))<|By rfl (λh1=>?_) λh1=>?_
 have hb:Beg x.k x.t y.k y.t:=h1
 refine Ix 1 rfl (u:=dN y) rfl<|Ar (1+1:Nat) rfl ?_
 exact Bk (2,⟨y.k,y.t⟩) [] rfl (.inr (.inr ⟨rfl,.mk hG o I I (beg_rt hG hb o I) rts⟩)) (by decide:0<1)
 refine Ix 1 rfl (u:=dN y) rfl<|Ce rfl (begins_ok (T:=toT x.k x.t) (U:=toT y.k y.t) (TS.pt M) (TS.pt hyr) (by omega) (by rw[Xaa];omega))<|By rfl (λh2=>?_) λh2=>?_
 refine Ix 1 rfl (u:=dN y) rfl<|Ca rfl (Xd1 W o I) λv hv=>?_
 obtain⟨m,T,rs,ρ',rfl,g1,g2,g3,g5,g6⟩:=hv
 refine No rfl (by simp)<|Ar (1+1:Nat) rfl ?_
 exact Bk (2,⟨m,T⟩) [] rfl (.inr (.inr ⟨rfl,.ext hG o I g1 g2 g5⟩)) (by decide:0<1)
 refine Ar (1+1:Nat) rfl ?_
 exact Bk (2,⟨x.k,x.t⟩) [] rfl (.inr (.inr ⟨rfl,V (by simpa [Xas,Xaj] using h2)⟩)) (by decide:0<1)
 refine Ix 1 rfl (u:=dN y) rfl<|Ce rfl (begins_ok (T:=toT x.k x.t) (U:=toT y.k y.t) (TS.pt M) (TS.pt hyr) (by omega) (by rw[Xaa];omega))<|By rfl (λh2=>?_) λh2=>?_
 refine Ix 1 rfl (u:=dN y) rfl<|Ca rfl (Xd1 W o I) λv hv=>?_
 obtain⟨m,T,rs,ρ',rfl,g1,g2,g3,g5,g6⟩:=hv
 refine No rfl (by simp)<|Ar (1+1:Nat) rfl ?_
 exact Bk (2,⟨m,T⟩) [] rfl (.inr (.inr ⟨rfl,.ext hG o I g1 g2 g5⟩)) (by decide:0<1)
 refine Ar (1+1:Nat) rfl ?_
 exact Bk (2,⟨x.k,x.t⟩) [] rfl (.inr (.inr ⟨rfl,V (by simpa [Xas,Xaj] using h2)⟩)) (by decide:0<1)
 . obtain⟨ρ,hT,hcon⟩:=hP
   have hTr:=W.t hT
   have hm3:=W.le hT
   refine No rfl (by decide:¬(2:Int)<2)<|Nl 9 9 2 rfl ?_
   refine Lo (λ(s:Nat×List (Tow.El m))=>[(0,.d (dNs [x,y])),(4,.d (dt T)),(9,.gr 9 2 (s.2.map λa=>dN ⟨m,T,a⟩)),(10,.d (.int .i64 s.1))]) (λs=>[(9,.tok (s.2.map λa=>dN ⟨m,T,a⟩).length 2)])
    (JnI c G p m ρ vx vy) (λs=>2-s.1) (0,[]) [] rfl ⟨W0r _,rfl,λi hi=>absurd hi (W3t _)⟩ (λ(j,bs) hI=>?_)
   have hI':=hI
   obtain⟨hj,hjl,has⟩:=hI
   simp only at hj hjl has
   refine By rfl (λh=>?_) λh=>?_
   have h:(j:Int)<2:=h
   obtain⟨z,v,ρz,z1,z2,z3,z4,z6⟩:=both hx hy j (by omega)
   have z5:=W.t z3
   have O:([x,y].map dN)[j]?=some (dN z):=by rw[W2c,z1];rfl
   have hzm:=hcon z (W0h z1) ρz z3
   have hz3:=W.le z3
   refine Ix j rfl O<|Ce rfl (begins_ok (T:=toT m T) (U:=toT z.k z.t) (TS.pt hTr) (TS.pt z5) (by omega) (by rw[Xaa];omega))<|By rfl (λh1=>?_) λh1=>?_
   have hb:Beg z.k z.t m T:=h1
   obtain⟨b,hlb⟩:=Lf.ex hb.le z.a
   have hv1:ev G ρ m b=v:=by rw[hlb.ev hb.le,Xbw (beg_ag hG hb z3 hT),z4]
   refine Ix j rfl O<|Ce rfl (Xwo (T:=T) hlb hb.le (by omega))<|ApG ((bs++[b]).map λa=>dN ⟨m,T,a⟩) rfl (by simp) (by simp;omega) ?_
   refine Ar (j+1:Nat) rfl ?_
   exact Bk (j+1,bs++[b]) [(113,9)] rfl (hI'.step (by omega) z2 hv1 ((hlb.sz z6).mono hpj)) (by show 2-(j+1)<2-j;omega)
   refine Ix j rfl O<|Ca rfl (Xd1 W hT z3) λv' hv=>?_
   obtain⟨m',T',rs,ρ',rfl,g1,g2,g3,g5,g6⟩:=hv
   obtain rfl:m'=m:=by have:=congrArg List.length (g6 hzm);rwa[Xaa,Xaa] at this
   have g5:RtV G m' c.Z z.k rs ρ ρz:=g5.mono (W0a _) (W0a _) (λi hi=>(g3 i hi).symm)
   obtain⟨σ,s1,s2⟩:=g5.sig
   have hbd:=Ygf (p:=p) hm3 hz3
   refine Ix j rfl O<|Ce rfl (Xgn hTr (by omega) s1 z6 (by omega) (by omega))<|ApG ((bs++[ev T σ z.k z.a]).map λa=>dN ⟨m',T,a⟩) rfl (by simp) (by simp;omega) ?_
   refine Ar (j+1:Nat) rfl ?_
   exact Bk (j+1,bs++[ev T σ z.k z.a]) [(113,9)] rfl (hI'.step (by omega) z2 (by rw[Xmf hT.h s2,z4]) (img W hT z3 s1 z6)) (by show 2-(j+1)<2-j;omega)
   . have h:¬(j:Int)<2:=h
     obtain rfl:j=2:=by omega
     obtain⟨a,b,rfl,hJ⟩:=hI'.done hT
     exact Rt rfl (.tup (.cons (.gr rfl) Xbs)) ⟨m,T,a,b,rfl,hJ⟩
end
end Go.Proofs.YtnedfplmoojbaaaGreatDoor.R9

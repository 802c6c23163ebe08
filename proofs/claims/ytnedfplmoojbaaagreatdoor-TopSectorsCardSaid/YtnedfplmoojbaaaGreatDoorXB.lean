/- part 2 -/
import Derived.Test.YtnedfplmoojbaaaGreatDoorXA
import Derived.KernelRfl
import Derived.ProofKit
import Derived.OpenShut
import Derived.Test.YtnedfplmoojbaaaGreatDoorChecked
import Derived.Test.YtnedfplmoojbaaaGreatDoorRows
set_option linter.unusedVariables false
set_option linter.unusedSimpArgs false
set_option maxRecDepth 10000
namespace Go.Vm
open Go
section
section
variable{P:Program}{N:Nat->Prop}{W:GW}{θ:Loc}{g:Hp}{ρ:Operand->Value}
variable{tb:Nat->Option TI}{dd:Nat}{d:Option Nat}{ty:TypeId}{pos:String}{aft:Array Edge}{gd:Option (Nat×Bool)}{args:List AV}{v:AV}{us:List (Nat×Ob)}
theorem Stp.new0(h:Obs W θ N g){d:Nat}(hB:d<1000000)(hd:g d=none){x:Ob}(hx:x.R W (λi=>if i=d then (none,0) else θ i) d)(hi:∀i,¬x.ids i): Stp N W W θ (λi=>if i=d then (none,0) else θ i) g (upd g d x) where
 os:=_root_.rfl
 out:=_root_.rfl
 tape:=_root_.rfl
 size:=W0a _
 same:=λ_ _ _=>_root_.rfl
 A:=λ_ _ _ _=>W4a
 le:=LeF.refl W
 th:=λi y I=>if_neg λe=>by rw[e,hd] at I;cases I
 hi:=λi h=>if_neg (by omega)
 obs:={
  r:=λM y I=>by
   rcases Xae I with ⟨o,j⟩ | ⟨o,j⟩
   subst o;subst j;exact hx
   exact(h.r M y j).keep (LeF.refl W) (if_neg o) (λi hi=>if_neg λe=>by obtain⟨z,O⟩:=h.ids M y i j hi;rw[e,hd] at O;cases O) λ_ _ _=>⟨_root_.rfl,λ_ h=>h⟩
  new:=λM y b I hl hb=>by
   rcases Xae I with ⟨o,j⟩ | ⟨o,j⟩
   subst o;rw[if_pos _root_.rfl] at hb;cases hb
   rw[if_neg o] at hb;exact h.new M y b j hl hb
  dis:=λo1 o2 y1 y2 b h1 h2 l1 l2 U V=>by
   rcases Xae h1 with ⟨o,Z⟩ | ⟨o,Z⟩
   rw[if_pos o] at U;cases U
   rcases Xae h2 with ⟨j,f2⟩ | ⟨j,f2⟩
   rw[if_pos j] at V;cases V
   rw[if_neg o] at U;rw[if_neg j] at V;exact h.dis o1 o2 y1 y2 b Z f2 l1 l2 U V
  ids:=λM y i I T=>by
   rcases Xae I with ⟨o,j⟩ | ⟨o,j⟩
   subst j;exact absurd T (hi i)
   obtain⟨z,O⟩:=h.ids M y i j T
   exact⟨z,by rw[Xak (λe=>by rw[e,hd] at O;cases O)];exact O⟩ }
 dom:=λi y I=>⟨y,by rw[Xak (λe=>by rw[e,hd] at I;cases I)];exact I⟩
theorem Stp.kill(h:Obs W θ N g){o:Nat}{y:Ob}(ho:g o=some y): Stp N W W θ θ g (upd g o .dead) where
 os:=_root_.rfl
 out:=_root_.rfl
 tape:=_root_.rfl
 size:=W0a _
 same:=λ_ _ _=>_root_.rfl
 A:=λ_ _ _ _=>W4a
 le:=LeF.refl W
 th:=λ_ _ _=>_root_.rfl
 hi:=λ_ _=>_root_.rfl
 obs:={
  r:=λO z I=>by
   rcases Xae I with ⟨M,j⟩ | ⟨M,j⟩
   subst j;trivial
   exact h.r O z j
  new:=λO z b I Z hb=>by
   rcases Xae I with ⟨M,j⟩ | ⟨M,j⟩
   subst j;cases Z
   exact h.new O z b j Z hb
  dis:=λo1 o2 y1 y2 b h1 h2 l1 l2 b1 b2=>by
   rcases Xae h1 with ⟨M,U⟩ | ⟨M,U⟩
   subst U;cases l1
   rcases Xae h2 with ⟨j,V⟩ | ⟨j,V⟩
   subst V;cases l2
   exact h.dis o1 o2 y1 y2 b U V l1 l2 b1 b2
  ids:=λO z i I T=>by
   have:∃w,g i=some w:=by
    rcases Xae I with ⟨M,j⟩ | ⟨M,j⟩
    subst j;exact T.elim
    exact h.ids O z i j T
   obtain⟨w,hw⟩:=this
   by_cases e:i=o
   subst e;exact⟨_,Xai _ _ _⟩
   exact⟨w,by rw[Xak e];exact hw⟩ }
 dom:=λi z I=>by
  by_cases e:i=o
  subst e;exact⟨_,Xai _ _ _⟩
  exact⟨z,by rw[Xak e];exact I⟩
theorem Ygs{o sz c n:Nat}{xs:List D}{p:Option Addr}(h:n=xs.length)(i:(θ o).2=c)(j:(θ o).2=0\/p=ad (θ o).1)(I:xs.length<=(θ o).2)(M:(θ o).2<9223372036854775808)(O:xs=[]\/∃b,(θ o).1=some b/\D.Row W b sz 0 xs):
 AV.V W θ (.gr o sz xs) (.slice p n c):=by subst h;subst i;exact⟨_,⟨p,rfl,j,I,M,O⟩,rfl⟩
theorem Xsf(M:Obs W θ N g)(hN:∀b,W.size<=b->N b)(O:dd<1000000)(hd:g dd=none){sz c:Nat}{E:TypeId}{xs:List D}{cs zs:List Value}(ha:AtL W sz xs cs)(U:cs.length=xs.length*sz)(o:xs.length<=c)(I:c<9223372036854775808)(T:(cs++zs).length=c*sz):
 ∃W' θ',W'.w=W.w.alloc (.cells (cs++zs).toArray E)/\Stp N W W' θ θ' g (upd g dd (.tok xs.length sz))/\AV.V W' θ' (.gr dd sz xs) (.slice (some ⟨W.size,0,none⟩) xs.length c):=by
 have hp:∀q u,(cs++zs)[q]?=some u->(W.push (.cells (cs++zs).toArray E) (λi=>xs.length*sz<=i)).w.cell? ⟨W.size,q,none⟩=some u:=λq u j=>by
  rw[<-j];exact Xbd (Xbh ..) q
 refine⟨W.push (.cells (cs++zs).toArray E) (λi=>xs.length*sz<=i),_,rfl,Stp.push (c:=c) M hN O hd _ _ (x:=.tok xs.length sz) ⟨by simpa using o,by simpa using I,.inr ⟨W.size,cs++zs,E,by simp,Xbh ..,by simpa using T,λi hi=>.inr ⟨rfl,hi⟩⟩⟩ (λi hi=>hi.elim),
  Ygs rfl (by simp) (.inr (by simp[ad])) (by simpa using o) (by simpa using I) (.inr ⟨W.size,by simp,?_⟩)⟩
 refine(ha.mono (Xew _ _ _)).row λq u hq j=>?_
 rw[W1l]
 refine⟨hp q u (by rw[W0q (by omega)];exact j),?_⟩
 rintro(h | ⟨_,h⟩)
 exact absurd (W.hA _ _ h) (W7q _)
 exact absurd h (by omega)
theorem Xz6{o sz c n b:Nat}{xs:List D}(h:(θ o).1=some b)(i:(θ o).2=c)(I:n<=(θ o).2)(j:(θ o).2<9223372036854775808): AV.V W θ (.own o sz 0 n) (.slice (some ⟨b,0,none⟩) n c):=by
 subst i;exact⟨_,⟨b,_,h,by omega,j,rfl,λ_=>by rw[W4y]⟩,rfl⟩
theorem Xly(I:Obs W θ N g)(hN:∀b,W.size<=b->N b)(M:dd<1000000)(hd:g dd=none){sz c:Nat}{E:TypeId}{xs:List D}{cs zs:List Value}(ha:AtL W sz xs cs)(U:cs.length=xs.length*sz)(h:xs.length<=c)(j:c<9223372036854775808)(O:(cs++zs).length=c*sz):
 ∃W' θ',W'.w=W.w.alloc (.cells (cs++zs).toArray E)/\Stp N W W' θ θ' g (upd g dd (.arr sz xs))/\AV.V W' θ' (.own dd sz 0 xs.length) (.slice (some ⟨W.size,0,none⟩) xs.length c):=by
 refine⟨W.push (.cells (cs++zs).toArray E) (λi=>True),_,rfl,Stp.push (c:=c) I hN M hd _ _ (x:=.arr sz xs) ⟨W.size,cs++zs,E,by simp,Xbh ..,by simpa using O,by simpa using j,by simpa using h,?_,λi=>.inr ⟨rfl,trivial⟩⟩ (λi hi=>hi.elim),
  Xz6 (o:=dd) (xs:=xs) (by simp) (by simp) (by simpa using h) (by simpa using j)⟩
 exact(ha.mono (Xew _ _ _)).ext λq v hq T=>by rw[W0q (by omega)];exact T
theorem Xct{T:TypeId}{x y:Operand}{r:Value}{i:World}(h:(Builtin.append_ #[T,T] ty #[ρ x,ρ y]).run P W.w=.ok r i):
 (execOp ρ ⟨d,.call ⟨.builtin .append,#[x,y],#[T,T]⟩,ty,pos,aft,gd⟩).run P W.w=.ok (.value r) i:=by
 have j:(execOp ρ ⟨d,.call ⟨.builtin .append,#[x,y],#[T,T]⟩,ty,pos,aft,gd⟩)=(Builtin.append_ #[T,T] ty #[ρ x,ρ y] >>= λv=>pure (.value v)):=by
  simp[execOp,resolve,invoke,builtin]
 rw[j,Sem.run_bind,h];rfl
theorem Xr7{W:GW}{p:Option Addr}{sz:Nat}{xs:List D}(h:xs=[]\/∃b,p=some ⟨b,0,none⟩/\D.Row W b sz 0 xs): ∃olds:List Value,olds.length=xs.length*sz/\(xs.length=0\/∃b,p=some ⟨b,0,none⟩)/\(∀b,p=some ⟨b,0,none⟩->∀j u,olds[j]?=some u->Fr W b (0+j) u)/\AtL W sz xs olds:=by
 rcases h with rfl | ⟨b,rfl,h⟩
 exact⟨[],by simp,.inl rfl,λ_ _ j u h=>by simp at h,λi x h=>by simp at h⟩
 obtain⟨olds,I,M,_,O⟩:=Xh6 h
 exact⟨olds,I,.inr ⟨b,rfl⟩,λU o j u T=>by injection o with o;injection o with o;subst o;exact M j u T,O⟩
theorem Xt3{T E:TypeId}{ti:TI}{M:TypeInfo}(u1:P.underlying T=some (.slice E))(i1:P.info? E=some M)(i2:M.size=ti.e.size){b m c k c2:Nat}{q:Option Addr}{news:List Value}(hn:news.length=k*ti.e.size)
 (Z:k=0\/∃b off,q=some ⟨b,off,none⟩/\∀j u,news[j]?=some u->W.w.cell? ⟨b,off+j,none⟩=some u) (O:∀u∈news,Xfi u=true) (hk:0<k) (i:m+k<=c) {cs:List Value} {T':TypeId}
 (hb:W.w.heap[b]?=some (.cells cs.toArray T' (0,0))) (hl:cs.length=c*ti.e.size) :
 (Builtin.append_ #[T,T] ty #[.slice (some ⟨b,0,none⟩) m c,.slice q k c2]).run P W.w=.ok (.slice (some ⟨b,0,none⟩) (m+k) c) (Xg6 W.w b (.cells (spl cs (m*ti.e.size) news).toArray T' (0,0))):=by
 rcases Z with h | ⟨b2,o,hq,hnc⟩
 omega
 subst hq
 have I:news.length=k*M.size:=by rw[hn,i2]
 have U:∀j u,news[j]?=some u->W.w.cell? ((⟨b2,o,none⟩:Addr).add j)=some u:=λj u hj=>by rw[add0];exact hnc j u hj
 have hfit:m*M.size+news.length<=cs.length:=by
  rw[I,hl,i2,<-W1f];exact W0l _ i
 have hf:=run_firstCells_some (P:=P) W.w M.size k ⟨b2,o,none⟩ k c2 news I U
 have V:=Xb4 (P:=P) (off:=0+m*M.size) news W.w 0 cs hb (by omega) O
 simp only[W2e,W1l] at V
 rw[<-i2]
 simp[Builtin.append_,run_underlying u1,sizeOf,typeInfo,i1,Builtin.lenOf,i,hf,add0,V]
theorem Ymo{T T':TypeId}{x y:Operand}(hT:∀T ti,tb T=some ti->TyOk P T ti/\∀a c,ti.z≠.pr a c)(hO:Obs W θ N g)(hN:∀b,W.size<=b->N b)(hB:dd<1000000)(hF:F tb dd g (.call ⟨.builtin .append,#[x,y],#[T,T']⟩) args=some (v,us))(ha:Xbq W θ g ρ [x,y] args):
 Good P N W θ g ρ ⟨d,.call ⟨.builtin .append,#[x,y],#[T,T']⟩,ty,pos,aft,gd⟩ v (Xbj g us):=by
 simp only[F] at hF
 split at hF<;>try cases hF
 rename_i a c
 split at hF<;>try cases hF
 rename_i hTT
 subst hTT
 split at hF<;>try cases hF
 rename_i ti hti hd
 obtain⟨hk,hp⟩:=hT _ _ hti
 obtain⟨t,u1,_,u3⟩:=hk.u
 split at hF<;>try cases hF
 rename_i sz xs0 hz
 rw[hz] at u3
 obtain⟨E,e,O,hez,ii,v0,i1,i2,i3,i4,i5⟩:=u3
 subst e
 split at hF<;>try cases hF
 rename_i Z hys
 obtain⟨q,c2,news,ey,hk2,hnl,hnr,hn1,hna⟩:=Xu4 hO hys ha.2.1.1
 rw[O] at hnl
 have hgd:∀ {o:Nat} {y:Ob},g o=some y->o≠dd:=λh e=>by rw[e,hd] at h;cases h
 unfold Xj3 at hF
 split at hF<;>try cases hF
 split at hF<;>cases hF
 rename_i hr
 obtain⟨p,ex⟩:=Xol ha.1.1
 have I:=Xfz (P:=P) (W:=W) (ty:=ty) (ti:=ti) u1 i1 i2 i3 i4 i5 (p:=p) (m:=0) (c:=0) (k:=Z.length) (c2:=c2) (q:=q) (olds:=[]) (news:=news) (W0a _) (.inl rfl) (by simp) (λb _ j u hj=>by simp at hj) hnl hnr hn1 (by simpa using hr) hk2
 rcases I with ⟨h0,I⟩ | ⟨h0,h1,_⟩ | ⟨h0,c',zs,h1,h2,h3,I⟩
 have hy0:Z=[]:=W0m h0
 subst hy0
 refine⟨W,_,_,Xct (by rw[ex,ey];exact I),Stp.new0 (d:=dd) hO hB hd (x:=.tok 0 sz) ⟨by simp,by simp,.inl (by simp)⟩ (λi h=>h),.inr ⟨_,rfl,Ygs (o:=dd) (c:=0) (θ:=λi=>if i=dd then (none,0) else θ i) rfl (by simp) (.inl (by simp)) (by simp) (by simp) (.inl rfl)⟩,λi hi=>⟨_,by subst hi;exact Xai _ _ _⟩⟩
 omega
 simp only[W1l,W3s] at I h1 h3
 obtain⟨W',θ',e1,e2,e3⟩:=Xsf (W:=W.tick) (θ:=θ) (g:=g) (dd:=dd) (E:=E) (zs:=zs) (Stp.tick hO).obs hN hB hd (hna.mono (Xfp W)) (by rw[hnl,O]) h1 h2 (by rw[O];exact h3)
 exact⟨W',θ',_,by rw[e1];exact Xct (by rw[ex,ey];exact I),(Stp.tick hO).trans e2,.inr ⟨_,rfl,e3⟩,λi hi=>⟨_,by subst hi;exact Xai _ _ _⟩⟩
 rename_i s xs
 split at hF
 cases hF
 rename_i hc
 obtain⟨hr,hy0,hs1⟩:=hc
 subst hs1
 obtain⟨b,ex,hxc,hrow⟩:=Xt5 ha.1.1
 obtain⟨olds,k1,k0,k2,k4⟩:=Xr7 hrow
 have hol:olds.length=xs.length*ti.e.size:=by rw[k1,O]
 have M:(xs++Z).length=xs.length+Z.length:=W0i
 have I:=Xfz (P:=P) (W:=W) (ty:=ty) (ti:=ti) u1 i1 i2 i3 i4 i5 (p:=b) (m:=xs.length) (c:=xs.length) (k:=Z.length) (c2:=c2) (q:=q) (olds:=olds) (news:=news) (W0a _) k0 hol (λb' U j u hj=>by
  have h2:=(k2 b' U j u hj).1
  rwa[W1l] at h2) hnl hnr hn1 hr hk2
 rcases I with ⟨h0,_⟩ | ⟨h0,h1,_⟩ | ⟨h0,c',zs,h1,h2,h3,I⟩
 omega
 omega
 obtain⟨W',θ',e1,e2,e3⟩:=Xly (W:=W.tick) (θ:=θ) (g:=g) (dd:=dd) (E:=E) (sz:=s) (xs:=xs++Z) (cs:=olds++news) (c:=c') (zs:=zs) (Stp.tick hO).obs hN hB hd ((k4.app hna (by rw[hol,O])).mono (Xfp W)) (by rw[W0i,hol,hnl,M,W1f,O]) (by rw[M];exact h1) h2 (by rw[O];exact h3)
 rw[M] at e3
 exact⟨W',θ',_,by rw[e1];exact Xct (by rw[ex,ey];exact I),(Stp.tick hO).trans e2,.inr ⟨_,rfl,e3⟩,λi hi=>⟨_,by subst hi;exact Xai _ _ _⟩⟩
 split at hF<;>cases hF
 rename_i hc
 obtain⟨hr,hy0,hs1⟩:=hc
 subst hs1
 obtain⟨b,ex,hxc,hrow⟩:=Xt5 ha.1.1
 obtain⟨olds,k1,k0,k2,k4⟩:=Xr7 hrow
 have hol:olds.length=xs.length*ti.e.size:=by rw[k1,O]
 have M:(xs++Z).length=xs.length+Z.length:=W0i
 have I:=Xfz (P:=P) (W:=W) (ty:=ty) (ti:=ti) u1 i1 i2 i3 i4 i5 (p:=b) (m:=xs.length) (c:=xs.length) (k:=Z.length) (c2:=c2) (q:=q) (olds:=olds) (news:=news) (W0a _) k0 hol (λb' U j u hj=>by
  have h2:=(k2 b' U j u hj).1
  rwa[W1l] at h2) hnl hnr hn1 hr hk2
 rcases I with ⟨h0,I⟩ | ⟨h0,h1,_⟩ | ⟨h0,c',zs,h1,h2,h3,I⟩
 exact⟨W,θ,_,Xct (by rw[ex,ey];exact I),Stp.rfl hO,.inr ⟨_,rfl,ex ▸ ha.1.1⟩,λi hi=>hi.elim⟩
 omega
 omega
 rename_i o s xs
 split at hF<;>try cases hF
 rename_i n s' hg
 split at hF<;>cases hF
 rename_i hc
 obtain⟨hr,rfl,hs1,hs2⟩:=hc
 subst hs2;subst hs1
 obtain⟨p,ex,hpc,hxc,hc63,hrow⟩:=Yp0 ha.1.1
 obtain⟨_,_,htok⟩:=hO.r _ _ hg
 have hod:=hgd hg
 have hx:∃olds:List Value,olds.length=xs.length*ti.e.size/\(∀b,p=some ⟨b,0,none⟩->∀j u,olds[j]?=some u->W.w.cell? ⟨b,j,none⟩=some u)/\AtL W s xs olds:=by
  rcases hrow with h | ⟨b,hb,hr⟩
  subst h;exact⟨[],by simp,λb _ j u hj=>by simp at hj,λi x h=>by simp at h⟩
  obtain⟨cs,k1,k2,_,k4⟩:=Xh6 hr
  refine⟨cs,by rw[k1,O],λb' U j u hj=>?_,k4⟩
  have h2:=(k2 j u hj).1
  rw[W1l] at h2
  rcases hpc with h | h
  have:xs.length=0:=by omega
  rw[this] at k1
  have:=Xbe hj
  omega
  rw[h,hb] at U;injection U with U;injection U with U;rw[<-U];exact h2
 obtain⟨olds,hol,hor,hoa⟩:=hx
 have hpc':(θ o).2=0\/∃b,p=some ⟨b,0,none⟩:=by
  rcases htok with ⟨h1,h2⟩ | ⟨b,cs,T',h1,_⟩
  exact .inl h2
  rcases hpc with h | h
  exact .inl h
  exact .inr ⟨b,by rw[h,h1];rfl⟩
 have I:=Xfz (P:=P) (W:=W) (ty:=ty) (ti:=ti) u1 i1 i2 i3 i4 i5 (p:=p) (m:=xs.length) (c:=(θ o).2) (k:=Z.length) (c2:=c2) (q:=q) (olds:=olds) (news:=news) hxc hpc' hol hor hnl hnr hn1 hr hk2
 have hkill:=Stp.kill hO hg
 have hdk:upd g o .dead dd=none:=by rw[Xak (λh=>hod h.symm)];exact hd
 have M:(xs++Z).length=xs.length+Z.length:=W0i
 have fin:∀ {W':GW} {θ':Loc} {r:Value},(Builtin.append_ #[T,T] ty #[ρ x,ρ y]).run P W.w=.ok r W'.w->Stp N W W' θ θ' g (upd (upd g o .dead) dd (.tok (xs.length+Z.length) s))->AV.V W' θ' (.gr dd s (xs++Z)) r ->
  Good P N W θ g ρ ⟨d,.call ⟨.builtin .append,#[x,y],#[T,T]⟩,ty,pos,aft,gd⟩ (.gr dd s (xs++Z)) (Xbj g [(dd,.tok (xs.length+Z.length) s),(o,.dead)]):=λh1 h2 h3 =>
  ⟨_,_,_,Xct h1,h2,.inr ⟨_,rfl,h3⟩,λi hi=>⟨_,by subst hi;exact Xai _ _ _⟩⟩
 have hgp:∀i z,upd (upd g o .dead) dd (.tok (xs.length+Z.length) s) i=some z->(i=dd/\z=.tok (xs.length+Z.length) s)\/z=.dead\/(g i=some z/\i≠o):=λi z hz=>by
  rcases Xae hz with h | ⟨h1,h2⟩
  exact .inl h
  rcases Xae h2 with ⟨_,h⟩ | ⟨h3,h4⟩
  exact .inr (.inl h)
  exact .inr (.inr ⟨h4,h3⟩)
 have hdm:∀i z,g i=some z->∃z',upd (upd g o .dead) dd (.tok (xs.length+Z.length) s) i=some z':=λi z hz=>by
  have:i≠dd:=λh=>by rw[h,hd] at hz;cases hz
  rw[Xak this]
  by_cases e:i=o
  subst e;exact⟨_,Xai _ _ _⟩
  exact⟨z,by rw[Xak e];exact hz⟩
 have hth:∀i z,g i=some z->(λi=>if i=dd then θ o else θ i) i=θ i:=λi z hz=>if_neg λh=>by rw[h,hd] at hz;cases hz
 have hpos:0<ti.e.size:=D.size_pos _
 have inpl:∀ {b:Nat} {cs:List Value} {T':TypeId},(θ o).1=some b->W.w.heap[b]?=some (.cells cs.toArray T' (0,0))->cs.length=(θ o).2*s->(∀i,xs.length*s<=i->W.A b i)->p=some ⟨b,0,none⟩->xs.length+Z.length<=(θ o).2 ->
  (Builtin.append_ #[T,T] ty #[ρ x,ρ y]).run P W.w=.ok (.slice p (xs.length+Z.length) (θ o).2) (Xg6 W.w b (.cells (spl cs (xs.length*ti.e.size) news).toArray T' (0,0))) ->
  Good P N W θ g ρ ⟨d,.call ⟨.builtin .append,#[x,y],#[T,T]⟩,ty,pos,aft,gd⟩ (.gr dd s (xs++Z)) (Xbj g [(dd,.tok (xs.length+Z.length) s),(o,.dead)]):=by
  intro b cs T' h1 h2 h3 h4 hp' hroom I
  have hfit:xs.length*s+news.length<=cs.length:=by
   rw[hnl,<-O,h3,<-W1f];exact W0l _ hroom
  have hsp:∀q,(spl cs (xs.length*s) news)[q]?=if xs.length*s<=q/\q<xs.length*s+news.length then news[q-xs.length*s]? else cs[q]?:=λq=>Xd7 _ _ _ _ hfit
  have hs':∀i v,¬W.A b i->cs[i]?=some v->(spl cs (xs.length*s) news)[i]?=some v:=λi v hA hv=>by
   rw[hsp,if_neg (λh=>hA (h4 i h.1))];exact hv
  have hle:=Xfl W b cs (spl cs (xs.length*s) news) T' (λi=>(xs.length+Z.length)*s<=i) h2 hs'
  have hput:=Stp.put hO (t:=dd) (x:=.tok (xs.length+Z.length) s) (B:=λi=>(xs.length+Z.length)*s<=i) hg rfl h1 h2 hs' (θ':=λi=>if i=dd then θ o else θ i) hth (λi h=>if_neg (by omega)) (by simp[h1]) hgp hdm
   ⟨by simpa using hroom,by simpa using hc63,.inr ⟨b,_,T',by simp[h1],Xa1 _ _ _ (Xa2 h2),by simp[Xcn,h3],λi hi=>⟨h4 i (W0j (W0l _ (W6i _ _)) hi),λ_=>hi⟩⟩⟩ (λi hi=>hi.elim)
  rw[<-O] at I
  refine fin I hput (Ygs (θ:=λi=>if i=dd then θ o else θ i) M.symm (by simp) (.inr (by simp[hp',h1,ad])) (by rw[M];simpa using hroom) (by simpa using hc63) (.inr ⟨b,by simp[h1],?_⟩))
  refine D.row_app (D.row_mono hle b s xs 0 (by
   rcases hrow with h | ⟨b',U,hr⟩
   subst h;trivial
   rw[h1] at U;injection U with U;subst U;exact hr)) ((hna.mono hle).row λq u hq hu=>⟨?_,?_⟩)
  rw[show (W.put b (.cells (spl cs (xs.length*s) news).toArray T' (0,0)) (λi=>(xs.length+Z.length)*s<=i)).w.cell? ⟨b,0+xs.length*s+q,none⟩=_ from Xbd (Xa1 _ _ _ (Xa2 h2)) _,W1l,hsp,if_pos (by have:=Xbe hu;omega),W3v]
  exact hu
  rintro⟨_,h⟩
  have:=h rfl
  rw[W1f] at this
  omega
 rcases I with ⟨h0,I⟩ | ⟨h0,h1,I⟩ | ⟨h0,c',zs,h1,h2,h3,I⟩
 have hy0:Z=[]:=W0m h0
 subst hy0
 have hn0:news=[]:=W0m (by simpa using hnl)
 subst hn0
 rcases htok with ⟨k1,k2⟩ | ⟨b,cs,T',k1,k2,k3,k4⟩
 have hx0:xs=[]:=W0m (by omega)
 subst hx0
 exact fin (by rw[ex,ey];exact I) (hkill.trans (Stp.new0 (d:=dd) hkill.obs hB hdk (x:=.tok (([]:List D).length+([]:List D).length) s) ⟨by simp,by simp,.inl (by simp)⟩ (λi h=>h)))
  (Ygs (o:=dd) (θ:=λi=>if i=dd then (none,0) else θ i) rfl (by simp[k2]) (.inl (by simp)) (by simp) (by simp) (.inl rfl))
 rcases hpc with k5 | k5
 have hx0:xs=[]:=W0m (by omega)
 subst hx0
 refine fin (by rw[ex,ey];exact I) (hkill.trans (Stp.new0 (d:=dd) hkill.obs hB hdk (x:=.tok (([]:List D).length+([]:List D).length) s) ⟨by simp,by simp,.inl (by simp)⟩ (λi h=>h)))
  (Ygs (o:=dd) (θ:=λi=>if i=dd then (none,0) else θ i) rfl (by simp[k5]) (.inl (by simp)) (by simp) (by simp) (.inl rfl))
 exact inpl k1 k2 k3 k4 (by rw[k5,k1];rfl) (by simpa using hxc) (by simp only[spl];rw[Xiu k2,ex,ey];simpa using I)
 rcases htok with ⟨k1,k2⟩ | ⟨b,cs,T',k1,k2,k3,k4⟩
 omega
 have hpb:p=some ⟨b,0,none⟩:=by
  rcases hpc with k5 | k5
  omega
  rw[k5,k1];rfl
 exact inpl k1 k2 k3 k4 hpb h1 (by rw[ex,ey];exact I b cs T' hpb k2 (by rw[k3,O]))
 obtain⟨W',θ',e1,e2,e3⟩:=Xsf (W:=W.tick) (θ:=θ) (g:=upd g o .dead) (dd:=dd) (E:=E) (sz:=s) (xs:=xs++Z) (cs:=olds++news) (c:=c') (zs:=zs) (Stp.tick hkill.obs).obs hN hB hdk ((hoa.app hna (by rw[hol,O])).mono (Xfp W)) (by rw[W0i,hol,hnl,M,W1f,O]) (by rw[M];exact h1) h2 (by rw[O];exact h3)
 rw[M] at e2 e3
 exact fin (by rw[e1,ex,ey];exact I) ((hkill.trans (Stp.tick hkill.obs)).trans e2) e3
 . rename_i o s l n
   split at hF<;>try cases hF
   rename_i s' xs hg
   split at hF
   rotate_left
   split at hF<;>cases hF
   rename_i hc
   obtain⟨hr,rfl,hnn,hs1,hs2⟩:=hc
   subst hs2;subst hs1
   obtain⟨b,p,h1,hxc,hc63,ex,hp5⟩:=Xf1 ha.1.1
   have hpb:=hp5 (.inl rfl)
   rw[W4y] at hpb
   rw[W6j] at ex
   rw[W1l] at hxc
   obtain⟨b',cs,T',r1,h2,h3,r4,r5,r6,r7⟩:=hO.r _ _ hg
   rw[h1] at r1;injection r1 with r1;subst r1
   have hroom:n+Z.length<=(θ o).2:=by omega
   by_cases hy:Z.length=0
   have hcn:n*s<=cs.length:=by rw[h3];exact W0l _ hxc
   have hol:(cs.take (n*s)).length=n*ti.e.size:=by rw[W0k,<-O];omega
   have I:=Xfz (P:=P) (W:=W) (ty:=ty) (ti:=ti) u1 i1 i2 i3 i4 i5 (p:=p) (m:=n) (c:=(θ o).2) (k:=Z.length) (c2:=c2) (q:=q) (olds:=cs.take (n*s)) (news:=news) hxc (.inr ⟨b,hpb⟩) hol (λb' U j u hj=>by
    rw[hpb] at U;injection U with U;injection U with U;subst U
    rw[W1h] at hj
    split at hj
    rw[Xbd h2];exact hj
    cases hj) hnl hnr hn1 hr hk2
   rcases I with ⟨_,I⟩ | ⟨h0,_⟩ | ⟨h0,_⟩
   have hy0:Z=[]:=W0m hy
   subst hy0
   have e1:xs.take n++[]++xs.drop (n+([]:List D).length)=xs:=by simp
   have e2:Xbj g [(o,Ob.arr s (xs.take n++[]++xs.drop (n+([]:List D).length)))]=g:=by
    rw[e1]
    funext i
    show upd g o (.arr s xs) i=g i
    by_cases hio:i=o
    subst hio;rw[Xai];exact hg.symm
    exact Xak hio
   rw[e2]
   exact⟨W,θ,_,Xct (by rw[ex,ey];exact I),Stp.rfl hO,.inr ⟨_,rfl,ex ▸ ha.1.1⟩,λi hi=>⟨_,by have hi:i=o:=hi;subst hi;exact hg⟩⟩
   omega
   omega
   have hk0:0<Z.length:=by omega
   have I:=Xt3 (P:=P) (W:=W) (ty:=ty) (ti:=ti) u1 i1 i2 (b:=b) (m:=n) (c:=(θ o).2) (c2:=c2) hnl hnr hn1 hk0 hroom h2 (by rw[h3,O])
   rw[<-O] at I
   have hfit:n*s+news.length<=cs.length:=by
    rw[hnl,<-O,h3,<-W1f];exact W0l _ hroom
   have hsp:∀q,(spl cs (n*s) news)[q]?=if n*s<=q/\q<n*s+news.length then news[q-n*s]? else cs[q]?:=λq=>Xd7 _ _ _ _ hfit
   have hs':∀i v,¬W.A b i->cs[i]?=some v->(spl cs (n*s) news)[i]?=some v:=λi v hA hv=>absurd (r7 i) hA
   have hle:=Xfl W b cs (spl cs (n*s) news) T' (λ_=>True) h2 hs'
   have hnw:(xs.take n++Z++xs.drop (n+Z.length)).length=xs.length:=by
    rw[W0i,W0i,W0k,W1u];omega
   have hput:=Stp.put hO (t:=o) (x:=.arr s (xs.take n++Z++xs.drop (n+Z.length))) (B:=λ_=>True) hg rfl h1 h2 hs' (θ':=θ) (g':=Xbj g [(o,Ob.arr s (xs.take n++Z++xs.drop (n+Z.length)))]) (λ_ _ _=>_root_.rfl) (λ_ _=>_root_.rfl) h1 (λi z hz=>by
    rcases Xae hz with ⟨f1,f2⟩ | ⟨f1,f2⟩
    exact .inl ⟨f1,f2⟩
    exact .inr (.inr ⟨f2,f1⟩)) (λi z hz=>by
    by_cases hio:i=o
    subst hio;exact⟨_,Xai _ _ _⟩
    exact⟨z,by rw[show Xbj g [(o,Ob.arr s (xs.take n++Z++xs.drop (n+Z.length)))]=upd g o (.arr s (xs.take n++Z++xs.drop (n+Z.length))) from _root_.rfl,Xak hio];exact hz⟩)
    ⟨b,_,T',h1,Xa1 _ _ _ (Xa2 h2),by rw[Xcn];exact h3,r4,by rw[hnw];exact r5,λi x hx=>by
     have hi:=Xbe hx
     rw[hnw] at hi
     by_cases ha':i<n
     rw[W0q (by rw[W0i,W0k];omega),W0q (by rw[W0k];omega),W1h,if_pos ha'] at hx
     obtain⟨e1,e2,e3,e4⟩:=r6 i x hx
     refine⟨e1,D.mono hle _ e2,e3,λj v hj=>?_⟩
     have hjl:=Xbe hj
     rw[D.at_len x e2,e3] at hjl
     have:i*s+s<=n*s:=by rw[<-W2m];exact W0l _ ha'
     rw[hsp,if_neg (by omega)]
     exact e4 j v hj
     by_cases U:i<n+Z.length
     rw[W0q (by rw[W0i,W0k];omega),W0n (by rw[W0k];omega),W0k,show min n xs.length=n by omega] at hx
     obtain⟨e1,e2,e3,e4⟩:=hna _ _ hx
     refine⟨e1,D.mono hle _ e2,e3,λj v hj=>?_⟩
     have hjl:=Xbe hj
     rw[D.at_len x e2,e3] at hjl
     have m1:n*s<=i*s:=W0l _ (by omega)
     have m2:i*s+s<=n*s+Z.length*s:=by rw[<-W2m,<-W1f];exact W0l _ (by omega)
     rw[hsp,if_pos (by rw[hnl,<-O];omega),show i*s+j-n*s=(i-n)*s+j by rw[W1g (i-n),Nat.mul_sub,W1g s i,W1g s n];omega]
     exact e4 j v hj
     rw[W0n (by rw[W0i,W0k];omega),W0i,W0k,show min n xs.length=n by omega,W1t,show n+Z.length+(i-(n+Z.length))=i by omega] at hx
     obtain⟨e1,e2,e3,e4⟩:=r6 i x hx
     refine⟨e1,D.mono hle _ e2,e3,λj v hj=>?_⟩
     have m2:n*s+Z.length*s<=i*s:=by rw[<-W1f];exact W0l _ (by omega)
     rw[hsp,if_neg (by rw[hnl,<-O];omega)]
     exact e4 j v hj,λi=>⟨r7 i,λ_=>trivial⟩⟩ (λi hi=>hi.elim)
   refine⟨_,θ,_,Xct (by rw[ex,ey,hpb];exact I),hput,.inr ⟨_,_root_.rfl,?_⟩,λi hi=>⟨_,by have hi:i=o:=hi;subst hi;exact Xai _ _ _⟩⟩
   exact Xz6 (xs:=xs) h1 _root_.rfl hroom hc63
   rename_i hc
   cases hF
   obtain⟨hr,rfl,rfl,hs1,hs2⟩:=hc
   subst hs2;subst hs1
   obtain⟨b,p,h1,hxc,hc63,ex,hp5⟩:=Xf1 ha.1.1
   have hpb:=hp5 (.inl rfl)
   rw[W4y] at hpb
   rw[W6j] at ex
   rw[W1l] at hxc
   obtain⟨b',cs,T',r1,h2,h3,r4,r5,r6,r7⟩:=hO.r _ _ hg
   rw[h1] at r1;injection r1 with r1;subst r1
   have hod:=hgd hg
   have hmc:xs.length*s<=cs.length:=by rw[h3];exact W0l _ hxc
   have hol:(cs.take (xs.length*s)).length=xs.length*ti.e.size:=by rw[W0k,<-O];omega
   have hoa:AtL W s xs (cs.take (xs.length*s)):=AtL.ext r6 λq v hq hv=>by rw[W1h,if_pos hq];exact hv
   have I:=Xfz (P:=P) (W:=W) (ty:=ty) (ti:=ti) u1 i1 i2 i3 i4 i5 (p:=p) (m:=xs.length) (c:=(θ o).2) (k:=Z.length) (c2:=c2) (q:=q) (olds:=cs.take (xs.length*s)) (news:=news) hxc (.inr ⟨b,hpb⟩) hol (λb' U j u hj=>by
    rw[hpb] at U;injection U with U;injection U with U;subst U
    rw[W1h] at hj
    split at hj
    rw[Xbd h2];exact hj
    cases hj) hnl hnr hn1 hr hk2
   have hkill:=Stp.kill hO hg
   have hdk:upd g o .dead dd=none:=by rw[Xak (λh=>hod h.symm)];exact hd
   have M:(xs++Z).length=xs.length+Z.length:=W0i
   have fin:∀ {W':GW} {θ':Loc} {r:Value},(Builtin.append_ #[T,T] ty #[ρ x,ρ y]).run P W.w=.ok r W'.w->Stp N W W' θ θ' g (upd (upd g o .dead) dd (.arr s (xs++Z)))->AV.V W' θ' (.own dd s 0 (xs.length+Z.length)) r ->
    Good P N W θ g ρ ⟨d,.call ⟨.builtin .append,#[x,y],#[T,T]⟩,ty,pos,aft,gd⟩ (.own dd s 0 (xs.length+Z.length)) (Xbj g [(dd,.arr s (xs++Z)),(o,.dead)]):=λh1 h2 h3 =>
    ⟨_,_,_,Xct h1,h2,.inr ⟨_,rfl,h3⟩,λi hi=>⟨_,by subst hi;exact Xai _ _ _⟩⟩
   have hgp:∀i z,upd (upd g o .dead) dd (.arr s (xs++Z)) i=some z->(i=dd/\z=.arr s (xs++Z))\/z=.dead\/(g i=some z/\i≠o):=λi z hz=>by
    rcases Xae hz with h | ⟨h1,h2⟩
    exact .inl h
    rcases Xae h2 with ⟨_,h⟩ | ⟨h3,h4⟩
    exact .inr (.inl h)
    exact .inr (.inr ⟨h4,h3⟩)
   have hdm:∀i z,g i=some z->∃z',upd (upd g o .dead) dd (.arr s (xs++Z)) i=some z':=λi z hz=>by
    have:i≠dd:=λh=>by rw[h,hd] at hz;cases hz
    rw[Xak this]
    by_cases e:i=o
    subst e;exact⟨_,Xai _ _ _⟩
    exact⟨z,by rw[Xak e];exact hz⟩
   have hth:∀i z,g i=some z->(λi=>if i=dd then θ o else θ i) i=θ i:=λi z hz=>if_neg λh=>by rw[h,hd] at hz;cases hz
   have inpl:xs.length+Z.length<=(θ o).2->(Builtin.append_ #[T,T] ty #[ρ x,ρ y]).run P W.w=.ok (.slice p (xs.length+Z.length) (θ o).2) (Xg6 W.w b (.cells (spl cs (xs.length*ti.e.size) news).toArray T' (0,0))) ->
    Good P N W θ g ρ ⟨d,.call ⟨.builtin .append,#[x,y],#[T,T]⟩,ty,pos,aft,gd⟩ (.own dd s 0 (xs.length+Z.length)) (Xbj g [(dd,.arr s (xs++Z)),(o,.dead)]):=by
    intro hroom I
    have hfit:xs.length*s+news.length<=cs.length:=by
     rw[hnl,<-O,h3,<-W1f];exact W0l _ hroom
    have hsp:∀q,(spl cs (xs.length*s) news)[q]?=if xs.length*s<=q/\q<xs.length*s+news.length then news[q-xs.length*s]? else cs[q]?:=λq=>Xd7 _ _ _ _ hfit
    have hs':∀i v,¬W.A b i->cs[i]?=some v->(spl cs (xs.length*s) news)[i]?=some v:=λi v hA hv=>absurd (r7 i) hA
    have hle:=Xfl W b cs (spl cs (xs.length*s) news) T' (λ_=>True) h2 hs'
    rw[<-O] at I
    refine fin I (Stp.put hO (t:=dd) (x:=.arr s (xs++Z)) (B:=λ_=>True) hg rfl h1 h2 hs' (θ':=λi=>if i=dd then θ o else θ i) hth (λi h=>if_neg (by omega)) (by simp[h1]) hgp hdm
     ⟨b,_,T',by simp[h1],Xa1 _ _ _ (Xa2 h2),by simp[Xcn,h3],by simpa using hc63,by rw[M];simpa using hroom,?_,λi=>⟨r7 i,λ_=>trivial⟩⟩ (λi hi=>hi.elim))
     (by rw[hpb];exact Xz6 (o:=dd) (xs:=xs) (θ:=λi=>if i=dd then θ o else θ i) (by simp[h1]) (by simp) (by simpa using hroom) (by simpa using hc63))
    have:=(hoa.mono hle).app (hna.mono hle) (by rw[hol,O])
    refine AtL.ext this λq v hq hv=>?_
    rw[M,W1f] at hq
    rw[hsp]
    by_cases hlt:q<xs.length*s
    rw[if_neg (by omega)]
    rw[W0q (by rw[hol,<-O];exact hlt),W1h,if_pos hlt] at hv
    exact hv
    rw[if_pos (by rw[hnl,<-O];omega)]
    rw[W0n (by rw[hol,<-O];omega),hol,<-O] at hv
    exact hv
   rcases I with ⟨h0,I⟩ | ⟨h0,k1,I⟩ | ⟨h0,c',zs,k1,k2,k3,I⟩
   have hy0:Z=[]:=W0m h0
   subst hy0
   have hn0:news=[]:=W0m (by simpa using hnl)
   subst hn0
   exact inpl (by simpa using hxc) (by simp only[spl];rw[Xiu h2,ex,ey];simpa using I)
   exact inpl k1 (by rw[ex,ey];exact I b cs T' hpb h2 (by rw[h3,O]))
   obtain⟨W',θ',e1,e2,e3⟩:=Xly (W:=W.tick) (θ:=θ) (g:=upd g o .dead) (dd:=dd) (E:=E) (sz:=s) (xs:=xs++Z) (cs:=cs.take (xs.length*s)++news) (c:=c') (zs:=zs) (Stp.tick hkill.obs).obs hN hB hdk ((hoa.app hna (by rw[hol,O])).mono (Xfp W)) (by rw[W0i,hol,hnl,M,W1f,O]) (by rw[M];exact k1) k2 (by rw[O];exact O ▸ k3)
   rw[M] at e3
   exact fin (by rw[e1,ex,ey];exact I) ((hkill.trans (Stp.tick hkill.obs)).trans e2) e3
 rename_i o s l n
 split at hF<;>try cases hF
 rename_i s' xs hg
 split at hF<;>try cases hF
 rename_i hc
 obtain⟨hr,rfl,hn,hs1,hs2⟩:=hc
 subst hs2;subst hs1
 obtain⟨b,p,h1,hnc,hc63,ex,h5⟩:=Xqd ha.1.1
 obtain⟨b',cs,T',r1,h2,h3,r4,r5,r6,r7⟩:=hO.r _ _ hg
 rw[h1] at r1;injection r1 with r1;subst r1
 have hpb:p=some ⟨b,0,none⟩:=by rw[h5 (.inl rfl),W4y]
 have hlt:(xs.take n).length=n:=by simp;omega
 have M:(xs.take n++Z).length=n+Z.length:=by rw[W0i,hlt]
 have hcn:n*s<=cs.length:=by rw[h3];exact W0l _ (by omega)
 have hol:(cs.take (n*s)).length=n*ti.e.size:=by rw[W0k,O];rw[<-O] at *;omega
 have hoa:AtL W s (xs.take n) (cs.take (n*s)):=AtL.ext (cs:=cs) (λi x hx=>r6 i x (by
  rw[W1h] at hx
  split at hx
  exact hx
  cases hx)) λq v hq hv=>by rw[hlt] at hq;rw[W1h,if_pos hq];exact hv
 have I:=Xfz (P:=P) (W:=W) (ty:=ty) (ti:=ti) u1 i1 i2 i3 i4 i5 (p:=p) (m:=n) (c:=n) (k:=Z.length) (c2:=c2) (q:=q) (olds:=cs.take (n*s)) (news:=news) (W0a _) (.inr ⟨b,hpb⟩) hol (λb' U j u hj=>by
  rw[hpb] at U;injection U with U;injection U with U;subst U
  rw[W1h] at hj
  split at hj
  rw[Xbd h2];exact hj
  cases hj) hnl hnr hn1 hr hk2
 by_cases hy0:Z.length=0
 rw[if_pos hy0] at hF
 cases hF
 rcases I with ⟨h0,I⟩ | ⟨h0,_⟩ | ⟨h0,_⟩
 exact⟨W,θ,_,Xct (by rw[ex,ey];exact I),Stp.rfl hO,.inr ⟨_,rfl,ex ▸ ha.1.1⟩,λi hi=>⟨_,by have hi:i=o:=hi;subst hi;exact hg⟩⟩
 omega
 omega
 rw[if_neg hy0] at hF
 cases hF
 rcases I with ⟨h0,_⟩ | ⟨h0,h4,_⟩ | ⟨h0,c',zs,k1,k2,k3,I⟩
 omega
 omega
 obtain⟨W',θ',e1,e2,e3⟩:=Xly (W:=W.tick) (θ:=θ) (g:=g) (dd:=dd) (E:=E) (sz:=s) (xs:=xs.take n++Z) (cs:=cs.take (n*s)++news) (c:=c') (zs:=zs) (Stp.tick hO).obs hN hB hd ((hoa.app hna (by rw[hol,O,hlt])).mono (Xfp W)) (by rw[W0i,hol,hnl,M,W1f,O]) (by rw[M];exact k1) k2 (by rw[k3,O])
 rw[M] at e3
 exact⟨W',θ',_,by rw[e1];exact Xct (by rw[ex,ey];exact I),(Stp.tick hO).trans e2,.inr ⟨_,rfl,e3⟩,λi hi=>⟨_,by subst hi;exact Xai _ _ _⟩⟩
end
end
section
section
variable{P:Program}{N:Nat->Prop}{W:GW}{θ:Loc}{g:Hp}{ρ:Operand->Value}
variable{tb:Nat->Option TI}{dd:Nat}{d:Option Nat}{ty:TypeId}{pos:String}{aft:Array Edge}{gd:Option (Nat×Bool)}{args:List AV}{v:AV}{us:List (Nat×Ob)}
theorem Ye7{z:D}{sz n:Nat}{c:AV}{ys:List D}{u:Value}(T:Obs W θ N g)(h:Yi9 g z sz n c=some ys)(hn:ys.length<=n)(U:AV.V W θ c u):
 ∃q m c2 news,u=.slice q m c2/\min m n=ys.length/\(news:List Value).length=ys.length*sz/\(ys.length=0\/∃b off,q=some ⟨b,off,none⟩/\∀j u,news[j]?=some u->W.w.cell? ⟨b,off+j,none⟩=some u)/\(∀u∈news,Xfi u=true)/\AtL W sz ys news:=by
 have i:Xh3 g z sz c=some ys->∃q m c2 news,u=.slice q m c2/\min m n=ys.length/\(news:List Value).length=ys.length*sz/\(ys.length=0\/∃b off,q=some ⟨b,off,none⟩/\∀j u,news[j]?=some u->W.w.cell? ⟨b,off+j,none⟩=some u)/\(∀u∈news,Xfi u=true)/\AtL W sz ys news:=λh=>by
  obtain⟨q,c2,news,e,_,Z,I,h4,M⟩:=Xu4 T h U
  exact⟨q,_,c2,news,e,W2h hn,Z,I,h4,M⟩
 cases c with
 | own o s l m =>
  unfold Yi9 at h
  simp only at h
  split at h<;>try cases h
  rename_i s' xs hg
  split at h<;>cases h
  rename_i hc
  obtain⟨b,p,h1,Z,I,e,M⟩:=Xf1 U
  have O:AV.V W θ (.own o s l (min m n)) (.slice p (min m n) ((θ o).2-l)):=⟨_,⟨b,p,h1,by omega,I,rfl,M⟩,rfl⟩
  obtain⟨q,c2,news,e',_,k2,k3,k4,k5⟩:=Xu4 (z:=z) (sz:=sz) (c:=.own o s l (min m n)) (ys:=(xs.drop l).take (min m n)) T (by simp only[Xh3,hg];rw[if_pos hc]) O
  injection e' with e1 e2 e3
  subst e1
  exact⟨p,m,_,news,e,e2,k2,k3,k4,k5⟩
 | _=>exact i h
theorem Yl9{T T':TypeId}{x y:Operand}(hT:∀T ti,tb T=some ti->TyOk P T ti/\∀a c,ti.z≠.pr a c)(hO:Obs W θ N g)(I:F tb dd g (.call ⟨.builtin .copy,#[x,y],#[T,T']⟩) args=some (v,us))(ha:Xbq W θ g ρ [x,y] args):
 Good P N W θ g ρ ⟨d,.call ⟨.builtin .copy,#[x,y],#[T,T']⟩,ty,pos,aft,gd⟩ v (Xbj g us):=by
 simp only[F] at I
 split at I<;>try cases I
 rename_i o s l n c
 split at I<;>try cases I
 rename_i hTT
 subst hTT
 split at I<;>try cases I
 rename_i ti hti
 obtain⟨hk,hp⟩:=hT _ _ hti
 obtain⟨t,u1,_,u3⟩:=hk.u
 split at I<;>try cases I
 rename_i sz xs0 hz
 rw[hz] at u3
 obtain⟨E,e,hsz,hez,ii,v0,i1,i2,i3,i4,i5⟩:=u3
 subst e
 split at I<;>try cases I
 rename_i M hys
 unfold Yno at I
 simp only at I
 split at I<;>try cases I
 rename_i s' xs hg
 split at I<;>cases I
 rename_i hc
 obtain⟨hs1,hs2,hlx,hyn,hy0⟩:=hc
 subst hs2;subst hs1
 obtain⟨q,m,c2,h,ey,hmin,O,hnr,hn1,hna⟩:=Ye7 hO hys hyn ha.2.1.1
 obtain⟨b,p,h1,hln,hc63,ex,hp5⟩:=Xf1 ha.1.1
 obtain⟨b',cs,T',r1,h2,h3,r4,r5,r6,r7⟩:=hO.r _ _ hg
 rw[h1] at r1;injection r1 with r1;subst r1
 have hpb:=hp5 (by omega)
 obtain⟨b2,off2,hq,hnc⟩:=hnr.resolve_left (by omega)
 have hfit:l*s+h.length<=cs.length:=by
  rw[O,h3,<-W1f];exact W0l _ (by omega)
 have hst:=Xb4 (P:=P) (off:=l*s) h W.w 0 cs h2 (by omega) hn1
 rw[W2e] at hst
 have hf:=run_firstCells_some (P:=P) W.w ii.size M.length ⟨b2,off2,none⟩ m c2 h (by rw[O,i2,hsz]) (λj v U=>by rw[add0];exact hnc j v U)
 have Z:Nat.min m n=M.length:=hmin
 have hrun:(execOp ρ ⟨d,.call ⟨.builtin .copy,#[x,y],#[T,T]⟩,ty,pos,aft,gd⟩).run P W.w=.ok (.value (.int .i64 M.length)) (Xg6 W.w b (.cells (spl cs (l*s) h).toArray T' (0,0))):=by
  have e1:(execOp ρ ⟨d,.call ⟨.builtin .copy,#[x,y],#[T,T]⟩,ty,pos,aft,gd⟩)=(Builtin.copy_ #[T,T] ty #[ρ x,ρ y] >>= λv=>pure (.value v)):=by
   simp[execOp,resolve,invoke,builtin]
  have V:(Builtin.copy_ #[T,T] ty #[ρ x,ρ y]).run P W.w=.ok (.int .i64 M.length) (Xg6 W.w b (.cells (spl cs (l*s) h).toArray T' (0,0))):=by
   rw[ex,ey,hpb,hq]
   simp[Builtin.copy_,run_underlying u1,sizeOf,typeInfo,i1,Builtin.lenOf,Z,hf,hst,goInt]
  rw[e1,Sem.run_bind,V];rfl
 have hsp:∀q,(spl cs (l*s) h)[q]?=if l*s<=q/\q<l*s+h.length then h[q-l*s]? else cs[q]?:=λq=>Xd7 _ _ _ _ hfit
 have hs':∀i v,¬W.A b i->cs[i]?=some v->(spl cs (l*s) h)[i]?=some v:=λi v hA hv=>absurd (r7 i) hA
 have hle:=Xfl W b cs (spl cs (l*s) h) T' (λ_=>True) h2 hs'
 have hnw:(xs.take l++M++xs.drop (l+M.length)).length<=(θ o).2:=by
  rw[W0i,W0i,W0k,W1u];omega
 refine⟨_,θ,_,hrun,Stp.put hO (t:=o) (x:=.arr s (xs.take l++M++xs.drop (l+M.length))) (B:=λ_=>True) hg rfl h1 h2 hs' (θ':=θ) (λ_ _ _=>rfl) (λ_ _=>rfl) h1 (λi z hz=>?_) (λi z hz=>?_)
  ⟨b,_,T',h1,Xa1 _ _ _ (Xa2 h2),by rw[Xcn];exact h3,r4,hnw,λi x hx=>?_,λi=>⟨r7 i,λ_=>trivial⟩⟩ (λi hi=>hi.elim),.inr ⟨_,rfl,int_V (by show IntKind.i64.wrap _=_;rw[IntKind.wrap_i64];omega)⟩,λi hi=>hi.elim⟩
 rcases Xae hz with ⟨f1,f2⟩ | ⟨f1,f2⟩
 exact .inl ⟨f1,f2⟩
 exact .inr (.inr ⟨f2,f1⟩)
 by_cases hio:i=o
 subst hio;exact⟨_,Xai _ _ _⟩
 exact⟨z,(Xak hio).trans hz⟩
 by_cases ha':i<l
 rw[W0q (by rw[W0i,W0k];omega),W0q (by rw[W0k];omega),W1h,if_pos ha'] at hx
 obtain⟨e1,V,e3,e4⟩:=r6 i x hx
 refine⟨e1,D.mono hle _ V,e3,λj v U=>?_⟩
 have hjl:=Xbe U
 rw[D.at_len x V,e3] at hjl
 have:i*s+s<=l*s:=by rw[<-W2m];exact W0l _ ha'
 rw[hsp,if_neg (by omega)]
 exact e4 j v U
 by_cases hb':i<l+M.length
 rw[W0q (by rw[W0i,W0k];omega),W0n (by rw[W0k];omega),W0k,show min l xs.length=l by omega] at hx
 obtain⟨e1,V,e3,e4⟩:=hna _ _ hx
 refine⟨e1,D.mono hle _ V,e3,λj v U=>?_⟩
 have hjl:=Xbe U
 rw[D.at_len x V,e3] at hjl
 have m1:l*s<=i*s:=W0l _ (by omega)
 have m2:i*s+s<=l*s+M.length*s:=by rw[<-W2m,<-W1f];exact W0l _ (by omega)
 rw[hsp,if_pos (by rw[O];omega),show i*s+j-l*s=(i-l)*s+j by rw[W1g (i-l),Nat.mul_sub,W1g s i,W1g s l];omega]
 exact e4 j v U
 rw[W0n (by rw[W0i,W0k];omega),W0i,W0k,show min l xs.length=l by omega,W1t,show l+M.length+(i-(l+M.length))=i by omega] at hx
 obtain⟨e1,V,e3,e4⟩:=r6 i x hx
 refine⟨e1,D.mono hle _ V,e3,λj v U=>?_⟩
 have m2:l*s+M.length*s<=i*s:=by rw[<-W1f];exact W0l _ (by omega)
 rw[hsp,if_neg (by rw[O];omega)]
 exact e4 j v U
end
end
section
section
variable{P:Program}{N:Nat->Prop}{W:GW}{θ:Loc}{g:Hp}{ρ:Operand->Value}
variable{tb:Nat->Option TI}{dd:Nat}{args:List AV}{v:AV}{us:List (Nat×Ob)}
theorem Ymm{l:List Operand}{a:AV}(h:Xbq W θ g ρ l [a]): ∃x,l=[x]:=by
 match l,h with
 | [x],_=>exact⟨x,rfl⟩
theorem Ybu{l:List Operand}{a b:AV}(h:Xbq W θ g ρ l [a,b]): ∃x y,l=[x,y]:=by
 match l,h with
 | [x,y],_=>exact⟨x,y,rfl⟩
 | [_],h=>exact h.2.elim
 | _::_::_::_,h=>exact h.2.2.elim
def Xed: Op->Bool
 | .store _ _ _=>true
 | _=>false
theorem Ysh(hT:∀T ti,tb T=some ti->TyOk P T ti/\∀a c,ti.z≠.pr a c)(M:Obs W θ N g)(hN:∀b,W.size<=b->N b)(hB:dd<1000000)(hy:∀u,ρ (.const u)=u){d:Option Nat}{op:Op}{ty:TypeId}{pos:String}{aft:Array Edge}{gd:Option (Nat×Bool)}
 (hs:Xed op=true->d=none) (j:F tb dd g op args=some (v,us)) (ha:Xbq W θ g ρ op.operands.toList args):Good P N W θ g ρ ⟨d,op,ty,pos,aft,gd⟩ v (Xbj g us):=by
 have U:∀T ti,tb T=some ti->TyOk P T ti:=λT ti h=>(hT T ti h).1
 have V:∀ {op:Op},F tb dd g op args=(match Fp tb op args with | some v=>some (v,[]) | none=>none)->F tb dd g op args=some (v,us)->Fp tb op args=some v/\us=[]:=by
  intro op h1 h2
  rw[h1] at h2
  split at h2<;>cases h2
  rename_i h;exact⟨h,rfl⟩
 cases op with
 | load T x=>obtain⟨rfl,h⟩:=Yo0 (d:=d) (ty:=ty) (pos:=pos) (aft:=aft) (gd:=gd) hT M j ha;exact h
 | store T x y=>have:=hs rfl;subst this;exact Yoa hT M j ha
 | alloc T =>
  have:args=[]:=by
   match args,ha with
   | [],_=>rfl
  subst this;exact Ypw hT M hN hB j
 | box T x=>exact Ypp M hN hB j ha
 | makeSlice T x y=>exact Yoz hT M hN hB j ha
 | move x=>obtain⟨h,rfl⟩:=V rfl j;exact You M h ha
 | assign x=>obtain⟨h,rfl⟩:=V rfl j;exact Ypv M h ha
 | pick c x y=>obtain⟨h,rfl⟩:=V rfl j;exact Yfq M h ha
 | extract x i=>obtain⟨h,rfl⟩:=V rfl j;exact Ylp M h ha
 | unOp u T x=>obtain⟨h,rfl⟩:=V rfl j;exact Yn4 M h ha
 | binOp o T x y T'=>obtain⟨h,rfl⟩:=V rfl j;exact Ymk U M h ha (λu e=>by rw[e];exact hy u)
 | convert S T x=>obtain⟨h,rfl⟩:=V rfl j;exact Yha U M h ha
 | nilCheck x=>obtain⟨h,rfl⟩:=V rfl j;exact Yfw M h ha
 | fieldAddr T x f=>obtain⟨h,rfl⟩:=V rfl j;exact Ylo U M h ha
 | field T x f=>obtain⟨h,rfl⟩:=V rfl j;exact Yli U M h ha
 | indexAddr T x y=>obtain⟨h,rfl⟩:=V rfl j;exact Yk7 U M h ha
 | index T x y=>obtain⟨h,rfl⟩:=V rfl j;exact Yk2 U M h ha
 | slice T x lo hi mx =>
  obtain⟨h,rfl⟩:=V rfl j
  exact Yje U M h (by simpa [Op.operands] using ha)
 | build T ps =>
  obtain⟨h,rfl⟩:=V rfl j
  exact Ymi U M h (by simpa [Op.operands] using ha)
 | buildSlice T n ps =>
  obtain⟨h,rfl⟩:=V rfl j
  exact Ypr hT M h (by simpa [Op.operands] using ha)
 | makeFunc fn a b =>
  obtain⟨h,rfl⟩:=V rfl j
  obtain⟨a⟩:=a
  obtain⟨b⟩:=b
  cases a with
  | cons x l=>simp[Fp] at h
  | nil=>cases b with
   | cons x l =>
    simp only[Fp] at h
    split at h
    rename_i e;cases e
    rename_i e
    cases e
    injection h with h
    subst h
    exact Yf4 M (by simpa [Op.operands] using ha)
    rename_i e
    cases e
    split at h<;>cases h
    rename_i hc
    exact Yf3 M (by simpa [Op.operands] using ha) hc
    cases h
   | nil=>exact Ykk (tb:=tb) (args:=args) M h
 | call c =>
  obtain⟨cal,asx,tys⟩:=c
  cases cal with
  | builtin b =>
   have I:Xbq W θ g ρ asx.toList args:=by simpa [Op.operands,Call.operands] using ha
   have O:asx=asx.toList.toArray:=by simp
   cases b with
   | len =>
    obtain⟨h,rfl⟩:=V rfl j
    have:∃a,args=[a]:=by
     simp only[Fp] at h
     split at h<;>try cases h
     exact⟨_,rfl⟩
    obtain⟨a,rfl⟩:=this
    obtain⟨x,Z⟩:=Ymm I
    rw[Z] at O I;subst O
    exact Ykr U M h I
   | cap =>
    obtain⟨h,rfl⟩:=V rfl j
    have:∃a,args=[a]:=by
     simp only[Fp] at h
     split at h<;>try cases h
     exact⟨_,rfl⟩
    obtain⟨a,rfl⟩:=this
    obtain⟨x,Z⟩:=Ymm I
    rw[Z] at O I;subst O
    exact Ymf U M h I
   | min =>
    obtain⟨h,rfl⟩:=V rfl j
    have:∃a c,args=[a,c]:=by
     simp only[Fp] at h
     split at h<;>try cases h
     exact⟨_,_,rfl⟩
    obtain⟨a,c,rfl⟩:=this
    obtain⟨x,y,Z⟩:=Ybu I
    rw[Z] at O I;subst O
    exact Ykm M h I
   | max =>
    obtain⟨h,rfl⟩:=V rfl j
    have:∃a c,args=[a,c]:=by
     simp only[Fp] at h
     split at h<;>try cases h
     exact⟨_,_,rfl⟩
    obtain⟨a,c,rfl⟩:=this
    obtain⟨x,y,Z⟩:=Ybu I
    rw[Z] at O I;subst O
    exact Yko M h I
   | append =>
    have:∃a c T T',args=[a,c]/\tys=#[T,T']:=by
     obtain⟨tl⟩:=tys
     match tl,j with
     | [T,T'],j =>
      simp only[F] at j
      split at j<;>try cases j
      exact⟨_,_,T,T',rfl,rfl⟩
     | [],j=>simp[F,Fp] at j
     | [_],j=>simp[F,Fp] at j
     | _::_::_::_,j=>simp[F,Fp] at j
    obtain⟨a,c,T,T',rfl,rfl⟩:=this
    obtain⟨x,y,Z⟩:=Ybu I
    rw[Z] at O I;subst O
    exact Ymo hT M hN hB j I
   | copy =>
    have:∃a c T T',args=[a,c]/\tys=#[T,T']:=by
     obtain⟨tl⟩:=tys
     match tl,j with
     | [T,T'],j =>
      simp only[F] at j
      split at j<;>try cases j
      exact⟨_,_,T,T',rfl,rfl⟩
     | [],j=>simp[F,Fp] at j
     | [_],j=>simp[F,Fp] at j
     | _::_::_::_,j=>simp[F,Fp] at j
    obtain⟨a,c,T,T',rfl,rfl⟩:=this
    obtain⟨x,y,Z⟩:=Ybu I
    rw[Z] at O I;subst O
    exact Yl9 hT M j I
   | _=>simp[F,Fp] at j
  | _=>simp[F,Fp] at j
 | _=>simp[F,Fp] at j
end
end
section
def ofV: Value->Option AV
 | .int k z=>match k.wrap z==z with
  | true=>some (.d (.int k z))
  | false=>none
 | .bool c=>some (.b c)
 | .string ⟨⟨s⟩⟩=>match Nat.blt s.length 9223372036854775808 with
  | true=>some (.d (.str s))
  | false=>none
 | .slice none 0 0=>some .nil
 | .func f a b=>some (.d (.raw (.func f a b)))
 | .pointer none=>some (.d (.raw (.pointer none)))
 | .nilFunc=>some (.d (.raw .nilFunc))
 | _=>none
def Xb6(e:Ev): Operand->Option AV
 | .tmp t=>e t
 | .const v=>ofV v
 | .func f=>some (.d (.raw (.func (.func f) #[] #[])))
 | .global _=>none
def getEs(e:Ev): List Operand->Option (List AV)
 | []=>some []
 | x::l=>match Xb6 e x with
  | none=>none
  | some a=>match getEs e l with
   | none=>none
   | some asx=>some (a::asx)
abbrev S:=Ev×Hp
def S.put(s:S)(d:Option Nat)(v:AV): S:=match d with
 | some d=>(upd s.1 d v,s.2)
 | none=>s
noncomputable def eff(tb:Nat->Option TI)(o:Oper)(s:S): Option (AV×List (Nat×Ob)) :=
 match getEs s.1 o.op.operands.toList with
 | none=>none
 | some asx=>match Xed o.op&&o.dst.isSome with
  | true=>none
  | false=>F tb (o.dst.getD 0) s.2 o.op asx
def Xn0(h:List Oper)(j:Nat): Option Nat:=match h,j with
 | [],_=>none
 | o::_,0=>o.dst
 | _::l,j+1=>Xn0 l j
def want(L:List Oper)(o:Oper)(s:S): Option Bool:=match o.guard with
 | none=>some true
 | some (j,b)=>match Xn0 L j with
  | none=>none
  | some t=>match s.1 t with
   | some (.b c)=>some (c==b)
   | some .un=>some false
   | _=>none
def Xjy(W:GW)(θ:Loc): List AV->List Value->Prop
 | [],[]=>True
 | a::asx,v::h=>AV.V W θ a v/\Xjy W θ asx h
 | _,_=>False
def Yp3 (P : Program) (f : FuncId) : Prop := ∃ fn, P.funcs[f]? = some fn ∧ (fn.name == "runtime.NumGoroutine") = false ∧ fn.body.isSome = true
class Gb (P:Program) where
 g:GW->Prop
 mono:∀W W',LeF W W'->g W->g W'
def CS(P:Program)[Gb P](f:FuncId)(asx:List AV)(g:Hp)(Post:AV->Hp->Prop): Prop :=
 Yp3 P f/\∀(N:Nat->Prop) W θ o,Gb.g P W->Obs W θ N g->(∀b,W.size<=b->N b)->(∀a∈asx,∀i,a.ids i->∃y,g i=some y)->Xjy W θ asx o ->
  Calls P f o.toArray W.w λe I=>∃W' h v u j,e=.returned u/\W'.w=I/\Stp N W W' θ h g j/\AV.V W' h v u/\(∀i,v.ids i->∃y,j i=some y)/\Post v j
noncomputable def Xj2(tb:Nat->Option TI): List TypeId->List AV->List AV
 | T::Ts,a::asx=>(match tb T with
  | some h=>match plain a,toD h.z a with
   | true,some x=>.d x
   | _,_=>a
  | none=>a)::Xj2 tb Ts asx
 | _,asx=>asx
def callee(e:Ev)(x:Operand): Option (FuncId×List AV):=match Xb6 e x with
 | some (.d (.raw (.func (.func f) ⟨[]⟩ ⟨[]⟩)))=>some (f,[])
 | some (.fn f o)=>some (f,[.ptr o 0])
 | some (.fm f a)=>match okA a with
  | true=>some (f,unA a)
  | false=>none
 | _=>none
def aft(s:S)(o:Oper)(r:AV×List (Nat×Ob)): S:=S.put (s.1,Xbj s.2 r.2) o.dst r.1
def Nu(h:Bool)(o:Oper)(us:List (Nat×Ob)): Prop:=us=[]\/(h=true/\∃d i,o.dst=some d/\us=[(d,i)])
def Cd(P:Program)[Gb P](f:FuncId)(asx:List AV)(o:Oper)(g:Hp)(h:Bool)(H0:Hp)(Q:AV×List (Nat×Ob)->Prop): Prop :=
 (h=true->∃d,o.dst=some d/\g d=none)/\(∀i y,H0 i=some y->g i=some y/\∃a∈asx,a.ids i) /\
 ∀g,(∀i y,H0 i=some y->g i=some y)->(h=true->∀d,o.dst=some d->g d=none)->CS P f asx g λv j=>∃us,Nu h o us/\j=Xbj g us/\Q (v,us)
def Raw(P:Program)[Gb P](o:Oper)(s:S)(r:AV×List (Nat×Ob)): Prop :=
 ∀(N:Nat->Prop) (W:GW) (θ:Loc) (ρ:Operand->Value),(Gb.g P W/\∀g,ρ (.global g)=.pointer (some ⟨g,0,none⟩))->Obs W θ N s.2->(∀b,W.size<=b->N b)->o.dst.getD 0<1000000->(∀x v,Xb6 s.1 x=some v->AV.V W θ v (ρ x))->Good P N W θ s.2 ρ o r.1 (Xbj s.2 r.2)
def Yrf(P:Program)[Gb P](o:Oper)(s:S)(Q:AV×List (Nat×Ob)->Prop): Prop :=
 ∀(N:Nat->Prop) (W:GW) (θ:Loc) (ρ:Operand->Value),(Gb.g P W/\∀g,ρ (.global g)=.pointer (some ⟨g,0,none⟩))->Obs W θ N s.2->(∀b,W.size<=b->N b)->o.dst.getD 0<1000000->(∀x v,Xb6 s.1 x=some v->AV.V W θ v (ρ x))->∃r,Q r/\Good P N W θ s.2 ρ o r.1 (Xbj s.2 r.2)
def Wb(P:Program)[Gb P](tb:Nat->Option TI)(dr:Bool)(o:Oper)(R:S->Prop)(s:S): Prop :=
 (match o.op with
 | .call ⟨.value x,asx,i⟩=>∃f ex j,callee s.1 x=some (f,ex)/\getEs s.1 asx.toList=some j/\match dr with
  | true=>∃I H0 Q,Cd P f (Xj2 tb i.toList j++ex) o s.2 I H0 Q/\∀r,Nu I o r.2->Q r->R (aft s o r)
  | false=>∃h Post,(h=Xj2 tb i.toList j\/h=j)/\CS P f (h++ex) s.2 Post/\∀v M,Post v M->R (S.put (s.1,M) o.dst v)
 | _=>∃r,eff tb o s=some r/\R (S.put (s.1,Xbj s.2 r.2) o.dst r.1))\/(dr=false/\∃Q,Yrf P o s Q/\∀r,Q r->R (S.put (s.1,Xbj s.2 r.2) o.dst r.1))
def Wo(P:Program)[Gb P](tb:Nat->Option TI)(dr:Bool)(L:List Oper)(o:Oper)(R:S->Prop)(s:S): Prop :=
 (want L o s=some true/\Wb P tb dr o R s)\/(want L o s=some false/\∃d,o.dst=some d/\R (s.put (some d) .un))
section
variable{P:Program}{tb:Nat->Option TI}{W:GW}{θ:Loc}{n:Nat}
theorem Yj6{v:Value}{a:AV}(h:ofV v=some a): AV.V W θ a v/\∀i,¬a.ids i:=by
 unfold ofV at h
 split at h<;>try cases h
 split at h<;>cases h
 rename_i j
 exact⟨int_V (by unfold inR;simpa using j),λ_ h=>h⟩
 exact⟨b_V _,λ_ h=>h⟩
 split at h<;>cases h
 rename_i hb
 exact⟨Xte (by simpa [Nat.blt_eq] using hb),λ_ h=>h⟩
 exact⟨⟨_,⟨_,rfl⟩,rfl⟩,λ_ h=>h⟩
 exact⟨⟨_,⟨rfl,rfl⟩,rfl⟩,λ_ h=>h⟩
 exact⟨⟨_,⟨rfl,rfl⟩,rfl⟩,λ_ h=>h⟩
 exact⟨⟨_,⟨rfl,rfl⟩,rfl⟩,λ_ h=>h⟩
theorem Xjm{W0:GW}{X:Nat->Prop}{s:S}{a:Act}(h:Sat W0 X n s a W θ){x:Operand}{v:AV}(j:Xb6 s.1 x=some v): AV.V W θ v (a.eval x)/\∀i,v.ids i->∃y,s.2 i=some y:=by
 cases x with
 | tmp t=>exact⟨h.rel.has t v j,λi hi=>h.ids t v i j hi⟩
 | const c=>have k:=Yj6 (W:=W) (θ:=θ) j;exact⟨k.1,λi hi=>absurd hi (k.2 i)⟩
 | func f=>simp only[Xb6,Option.some.injEq] at j;subst j;exact⟨⟨_,⟨rfl,rfl⟩,rfl⟩,λ_ h=>h.elim⟩
 | global g=>simp[Xb6] at j
theorem Xp2{W0:GW}{X:Nat->Prop}{s:S}{a:Act}(h:Sat W0 X n s a W θ): ∀ {l:List Operand} {vs:List AV},getEs s.1 l=some vs->Xbq W θ s.2 a.eval l vs
 | [],vs,i=>by simp only[getEs] at i;injection i with i;subst i;trivial
 | x::l,vs,i=>by
  simp only[getEs] at i
  split at i<;>try cases i
  rename_i v o
  split at i<;>cases i
  rename_i asx j
  exact⟨Xjm h o,Xp2 h j⟩
theorem Xj5{W0:GW}{X:Nat->Prop}{s:S}{a:Act}(h:Sat W0 X n s a W θ){L:List Oper}{o:Oper}{c:Bool}(i:want L o s=some c): Region.wanted o (yielded L.toArray a.tmps)=c:=by
 unfold want at i
 unfold Region.wanted
 split at i
 rename_i T;injection i with i;subst i;rw[T]
 rename_i j b T
 rw[T]
 split at i<;>try cases i
 rename_i t U
 have hd:∀(l:List Oper) j,Xn0 l j=(l[j]?).bind (·.dst):=by
  intro l
  induction l with
  | nil=>intro j;simp[Xn0]
  | cons o l Z=>intro j;cases j with
   | zero=>rfl
   | succ j=>simp[Xn0,Z]
 rw[hd] at U
 split at i<;>cases i
 rename_i cc V
 have M:=V_b (h.rel.has t _ V)
 have O:a.tmps[t]?=some (.bool cc):=by
  simp only[Array.getD] at M
  split at M
  rename_i I
  rw[W6g I]
  exact congrArg some M
  simp[undef] at M
 simp[yielded,U,O]
 rename_i V
 have M:a.tmps.getD t undef=undef:=h.rel.has t _ V
 have O:a.tmps[t]?=none\/a.tmps[t]?=some undef:=by
  simp only[Array.getD] at M
  split at M
  rename_i I
  rw[W6g I]
  exact .inr (congrArg some M)
  rename_i I;exact .inl (W3y (by omega))
 rcases O with O | O<;>simp[yielded,U,O,undef]
theorem Yi4{z:D}{a:AV}{x:D}(h:toD z a=some x)(hp:plain a=true): a.ag=x.ag:=by
 unfold toD at h
 split at h
 all_goals first
  | (injection h with h;subst h;rfl)
  | (cases hp;done)
  | (cases h;done)
  | (split at h<;>cases h;rfl)
theorem Xrz{g:Hp}{ρ:Operand->Value}(I:∀T ti,tb T=some ti->TyOk P T ti/\∀a c,ti.z≠.pr a c): ∀ {Ts:List TypeId} {l:List Operand} {asx:List AV},Xbq W θ g ρ l asx ->
 Xjy W θ (Xj2 tb Ts asx) (l.map ρ)/\∀a∈Xj2 tb Ts asx,∀i,a.ids i->∃y,g i=some y
 | [],[],[],_=>⟨trivial,λa h=>by simp[Xj2] at h⟩
 | T::Ts,[],[],_=>⟨trivial,λa h=>by simp[Xj2] at h⟩
 | [],x::l,a::asx,h=>by
  have k:=Xrz (Ts:=[]) I h.2
  simp only[Xj2] at k |-
  exact⟨⟨h.1.1,k.1⟩,λb hb=>by
   rcases W1s.1 hb with e | e
   subst e;exact h.1.2
   exact k.2 b e⟩
 | T::Ts,x::l,a::asx,h=>by
  have k:=Xrz (Ts:=Ts) I h.2
  have o:∀b,b=a\/(∃x,b=.d x/\plain a=true/\∃z,toD z a=some x)->Xjy W θ (b::Xj2 tb Ts asx) ((x::l).map ρ)/\∀c∈b::Xj2 tb Ts asx,∀i,c.ids i->∃y,g i=some y:=by
   intro b hb
   rcases hb with rfl | ⟨y,rfl,hp,z,M⟩
   exact⟨⟨h.1.1,k.1⟩,λc j=>by
    rcases W1s.1 j with e | e
    subst e;exact h.1.2
    exact k.2 c e⟩
   refine⟨⟨?_,k.1⟩,λc j=>by
    rcases W1s.1 j with e | e
    subst e;exact λ_ h=>h.elim
    exact k.2 c e⟩
   obtain⟨cs,j,e⟩:=V_c h.1.1 (λb e=>by subst e;cases hp) (λe=>by subst e;cases hp)
   have O:=Xm2 M j
   refine⟨cs,O,?_⟩
   show ρ x=_
   rw[e]
   have:a.ag=y.ag:=Yi4 M hp
   rw[this];rfl
  simp only[Xj2]
  refine o _ ?_
  split
  split
  rename_i hp U;exact .inr ⟨_,rfl,hp,_,U⟩
  exact .inl rfl
  exact .inl rfl
 | _,[],_::_,h=>h.elim
 | _,_::_,[],h=>h.elim
end
end
section
def Nx(W0:GW)(X:Nat->Prop)(θ0:Loc)(n:Nat)(R:S->Prop)(a:Act)(w:World): Prop :=
 ∃s W θ,W.w=w/\Sat W0 X n s a W θ/\(∀i,1000000<=i->θ i=θ0 i)/\R s
theorem Nx.mono{W0:GW}{X:Nat->Prop}{θ0:Loc}{n:Nat}{R R':S->Prop}{a:Act}{w:World}(h:Nx W0 X θ0 n R a w)(k:∀s,R s->R' s): Nx W0 X θ0 n R' a w :=
 let ⟨s,W,θ,i,j,o,I⟩:=h;⟨s,W,θ,i,j,o,k s I⟩
def Xe4(n:Nat)(o:Oper): Bool:=match o.dst with
 | none=>true
 | some d=>Nat.blt d n
section
variable{P:Program}[Gb P]{tb:Nat->Option TI}{W0:GW}{X:Nat->Prop}{θ0:Loc}{n:Nat}
theorem Xvj{s:S}{a:Act}{W W':GW}{θ θ':Loc}{g':Hp}{v:AV}{u:Value}{o:Oper}(h:Sat W0 X n s a W θ)(k:Stp (λb=>W0.size<=b\/X b) W W' θ θ' s.2 g')(hd:Xe4 n o=true)(I:AV.V W' θ' v u)
 (hi:∀i,v.ids i->∃y,g' i=some y):Sat W0 X n (S.put (s.1,g') o.dst v) (a.put o.dst u) W' θ':=by
 have j:=h.step0 k
 unfold Xe4 at hd
 cases e:o.dst with
 | none=>exact j
 | some d =>
  rw[e] at hd
  exact j.put (Xr2 hd) I hi
theorem Yda{a:AV}{W:GW}{θ:Loc}{cs:List Value}(h:Ydc a=true)(i:AV.C W θ a cs): ∃v,cs=[v]/\AV.V W θ a v:=by
 unfold Ydc at h
 split at h<;>try cases h
 all_goals first
  | (obtain⟨b,j,o⟩:=i;exact⟨_,o,⟨_,⟨b,j,rfl⟩,rfl⟩⟩)
  | (obtain⟨j,o⟩:=i;exact⟨_,j,⟨_,⟨rfl,o⟩,rfl⟩⟩)
  | (exact⟨_,i,⟨_,rfl,rfl⟩⟩)
theorem Yn5{W:GW}{θ:Loc}: ∀ {a:AV} {vs:List Value},okA a=true->AV.C W θ a vs->Xjy W θ (unA a) vs/\∀b∈unA a,∀i,b.ids i->a.ids i:=by
 intro a
 induction a with
 | pr a c _ o =>
  intro vs h ⟨u,v,e,I,M⟩
  simp only[okA,W0d] at h
  obtain⟨w,rfl,j⟩:=Yda h.1 I
  obtain⟨O,T⟩:=o h.2 M
  subst e
  exact⟨⟨j,O⟩,λb hb i hi=>(W1s.1 hb).elim (λe=>.inl (e ▸ hi)) λhb=>.inr (T b hb i hi)⟩
 | _ =>
  intro vs h U
  obtain⟨w,rfl,j⟩:=Yda h U
  exact⟨⟨j,trivial⟩,λb hb i hi=>by rcases W0g.1 hb with rfl;exact hi⟩
theorem Ypz(hT:∀T ti,tb T=some ti->TyOk P T ti/\∀a c,ti.z≠.pr a c)(hn:n<=1000000/\Gb.g P W0){dr:Bool}{o:Oper}(hd:Xe4 n o=true){R:S->Prop}{Q:Exit->Act->World->Prop}{s:S}{a:Act}{W:GW}{θ:Loc}(hs:Sat W0 X n s a W θ)
 (hθ:∀i,1000000<=i->θ i=θ0 i) (h:Wb P tb dr o R s):o.wp P a W.w (Nx W0 X θ0 n R) Q:=by
 have hN:∀b,W.size<=b->(λb=>W0.size<=b\/X b) b:=λb hb=>.inl (W0j hs.fm.size hb)
 have hdB:o.dst.getD 0<1000000:=by
  unfold Xe4 at hd
  cases e:o.dst with
  | none=>exact W7r _
  | some d=>rw[e] at hd;exact W0y (Xr2 hd) hn.1
 have fin:∀ {v:AV} {us:List (Nat×Ob)},Good P (λb=>W0.size<=b\/X b) W θ s.2 a.eval ⟨o.dst,o.op,o.type,o.pos,o.after,o.guard⟩ v (Xbj s.2 us)->R (S.put (s.1,Xbj s.2 us) o.dst v)->o.wp P a W.w (Nx W0 X θ0 n R) Q:=by
  rintro v us ⟨W',θ',r,hrun,hstp,hres,hi⟩ hR
  unfold Oper.wp
  rw[show (execOp a.eval o).run P W.w=.ok r W'.w from hrun]
  rcases hres with ⟨rfl,h0⟩ | ⟨u,rfl,hv⟩
  rw[Oper.upon_skip]
  have h0:o.dst=none:=h0
  rw[h0] at hR |-
  exact⟨_,W',θ',rfl,hs.step0 hstp,λi hi=>(hstp.hi i hi).trans (hθ i hi),hR⟩
  rw[Oper.upon_value]
  exact⟨_,W',θ',rfl,Xvj hs hstp hd hv hi,λi hi=>(hstp.hi i hi).trans (hθ i hi),hR⟩
 unfold Wb at h
 rcases h with h | ⟨_,Q',hw,hR⟩
 split at h
 rename_i x asx tys he
 obtain⟨f,ex,vs,hc,hg,h⟩:=h
 have h:∃as' Post,(as'=Xj2 tb tys.toList vs\/as'=vs)/\CS P f (as'++ex) s.2 Post/\∀v g',Post v g'->R (S.put (s.1,g') o.dst v):=by
  cases dr with
  | true =>
   obtain⟨nw,H0,Q,⟨h1,h2,h3⟩,h4⟩:=h
   exact⟨_,_,.inl rfl,h3 s.2 (λi y hi=>(h2 i y hi).1) (λhn d hd=>by obtain⟨d',e,k⟩:=h1 hn;rw[hd] at e;injection e with e;subst e;exact k),λv g' ⟨us,u1,u2,u3⟩=>by rw[u2];exact h4 (v,us) u1 u3⟩
  | false=>exact h
 obtain⟨as',Post,has',⟨⟨fn,f1,f2,f3⟩,hcs⟩,hR⟩:=h
 have ha:=Xp2 hs hg
 have hna:Xjy W θ as' (asx.toList.map a.eval)/\∀a∈as',∀i,a.ids i->∃y,s.2 i=some y:=by
  rcases has' with rfl | rfl
  exact Xrz (Ts:=tys.toList) hT ha
  have:=Xrz (Ts:=[]) hT ha
  simpa only [Xj2] using this
 have hb:¬fn.body=none:=λh=>by rw[h] at f3;cases f3
 have h2' : ¬ fn.name = "runtime.NumGoroutine" := by simpa using f2
 obtain⟨exs,hr,hex⟩:∃exs:List Value,(execOp a.eval o).run P W.w=.ok (.enter f (asx.toList.map a.eval++exs).toArray) W.w/\Xjy W θ ex exs/\∀a∈ex,∀i,a.ids i->∃y,s.2 i=some y:=by
  unfold callee at hc
  split at hc<;>try cases hc
  rename_i hx
  have hx:a.eval x=.func (.func f) #[] #[]:=by
   obtain⟨⟨cs,⟨h1,_⟩,h2⟩,_⟩:=Xjm hs hx
   rw[h2,h1];rfl
  refine⟨[],?_,trivial,λa h=>by cases h⟩
  simp only[execOp,he,resolve,hx,Deferred.ofValue]
  simp[invoke,callFunc,program,bind,Sem.bind,Sem.run,pure,f1,h2',hb]
  apply Array.ext';simp
  rename_i o' hx
  obtain⟨⟨cs,⟨b,h1,h2⟩,h3⟩,h4⟩:=Xjm hs hx
  have hx:a.eval x=.func (.func f) #[] #[.pointer (some ⟨b,0,none⟩)]:=by rw[h3,h2];rfl
  refine⟨[.pointer (some ⟨b,0,none⟩)],?_,⟨Xtm h1,trivial⟩,λa h i hi=>by rcases W0g.1 h with rfl;exact h4 i hi⟩
  simp only[execOp,he,resolve,hx,Deferred.ofValue]
  simp[invoke,callFunc,program,bind,Sem.bind,Sem.run,pure,f1,h2',hb]
  apply Array.ext';simp
  rename_i a' hx
  split at hc<;>cases hc
  rename_i hq
  obtain⟨⟨cs,⟨vs',h1,h2⟩,h3⟩,h4⟩:=Xjm hs hx
  have hx:a.eval x=.func (.func f) #[] vs'.toArray:=by rw[h3,h2];rfl
  obtain⟨k1,k2⟩:=Yn5 hq h1
  refine⟨vs',?_,k1,λa h i hi=>h4 i (k2 a h i hi)⟩
  simp only[execOp,he,resolve,hx,Deferred.ofValue]
  simp[invoke,callFunc,program,bind,Sem.bind,Sem.run,pure,f1,h2',hb]
 have happ:∀ {l:List AV} {m:List Value},Xjy W θ l m->Xjy W θ (l++ex) (m++exs):=by
  intro l
  induction l with
  | nil=>intro m hm;cases m with
   | nil=>exact hex.1
   | cons _ _=>exact hm.elim
  | cons a l ih=>intro m hm;cases m with
   | nil=>exact hm.elim
   | cons _ _=>exact⟨hm.1,ih hm.2⟩
 unfold Oper.wp
 rw[hr,Oper.upon_enter]
 refine(hcs (λb=>W0.size<=b\/X b) W θ _ (Gb.mono W0 W hs.fm.le hn.2) hs.obs hN (λa ha=>(W2p.1 ha).elim (hna.2 a) (hex.2 a)) (happ hna.1)).mono ?_
 rintro e w' ⟨W',θ',v,u,g',rfl,rfl,hst,hv,hi,hp⟩
 exact⟨_,W',θ',rfl,Xvj hs hst hd hv hi,λi hi=>(hst.hi i hi).trans (hθ i hi),hR v g' hp⟩
 obtain⟨⟨v,us⟩,he,hR⟩:=h
 unfold eff at he
 split at he<;>try cases he
 rename_i asx has
 split at he<;>try cases he
 rename_i hst
 exact fin (Ysh hT hs.obs hN hdB (λ_=>rfl) (λh=>by
  rw[h,Bool.true_and] at hst
  cases e:o.dst with
  | none=>rfl
  | some d=>rw[e] at hst;cases hst) he (Xp2 hs has)) hR
 obtain⟨⟨v,us⟩,hq,hg⟩:=hw _ W θ _ ⟨Gb.mono W0 W hs.fm.le hn.2,λ_=>rfl⟩ hs.obs hN hdB λx v hx=>(Xjm hs hx).1
 exact fin hg (hR _ hq)
theorem Yhu(O:∀T ti,tb T=some ti->TyOk P T ti/\∀a c,ti.z≠.pr a c)(U:n<=1000000/\Gb.g P W0){dr:Bool}{L:List Oper}{o:Oper}(hd:Xe4 n o=true){R:S->Prop}{Q:Exit->Act->World->Prop}{a:Act}{w:World}
 (h:Nx W0 X θ0 n (Wo P tb dr L o R) a w):if Region.wanted o (yielded L.toArray a.tmps) then o.wp P a w (Nx W0 X θ0 n R) Q else Nx W0 X θ0 n R (a.put o.dst undef) w:=by
 obtain⟨s,W,θ,rfl,j,i,h⟩:=h
 rcases h with ⟨I,M⟩ | ⟨I,d,M,V⟩
 rw[if_pos (Xj5 j I)]
 exact Ypz O U hd j i M
 rw[Xj5 j I]
 unfold Xe4 at hd
 rw[M] at hd |-
 exact⟨_,W,θ,rfl,j.put (v:=.un) (Xr2 hd) rfl (λ_ h=>h.elim),i,V⟩
omit [Gb P] in
theorem Ynx{o:Oper}{a:Act}{w:World}{K:Act->World->Prop}(h:o.wp P a w K (λ_ _ _=>False)): ∃I j,K I j:=by
 unfold Oper.wp at h
 generalize (execOp a.eval o).run P w=r at *
 cases r with
 | ok x j =>
  cases x<;>simp only[Oper.upon] at h
  all_goals first
   | exact⟨_,_,h⟩
   | (obtain⟨e, M, fr, i, _⟩ := h []
      cases e with
      | returned v=>exact⟨_,_,i⟩
      | panicked c=>exact i.elim
      | outgrown=>obtain⟨_,_,h⟩:=i;exact h.elim)
   | (obtain⟨v, M, i, _⟩ := h default []
      exact⟨_,_,i⟩)
   | exact h.elim
 | halt x j=>cases x<;>simp only[Oper.upon] at h<;>exact h.elim
theorem Nx.next(i:∀T ti,tb T=some ti->TyOk P T ti/\∀a c,ti.z≠.pr a c)(j:n<=1000000/\Gb.g P W0){dr:Bool}{L:List Oper}{o:Oper}(hd:Xe4 n o=true){R:S->Prop}{a:Act}{w:World}(h:Nx W0 X θ0 n (Wo P tb dr L o R) a w):
 ∃I M,Nx W0 X θ0 n R I M:=by
 have:=Yhu (Q:=λ_ _ _=>False) i j hd h
 split at this
 exact Ynx this
 exact⟨_,_,this⟩
def WL(P:Program)[Gb P](tb:Nat->Option TI)(dr:Bool)(L:List Oper)(R:S->Prop): List Oper->S->Prop
 | [],s=>R s
 | o::l,s=>Wo P tb dr L o (WL P tb dr L R l) s
theorem Xy6(V:∀T ti,tb T=some ti->TyOk P T ti/\∀a c,ti.z≠.pr a c)(Z:n<=1000000/\Gb.g P W0){L:List Oper}{R:S->Prop}{Q:Exit->Act->World->Prop}(hQ:∀a w,Nx W0 X θ0 n R a w->Q .normal a w)(l:List Oper):
 ∀(i:Nat) (a:Act) (w:World),L.drop i=l->(l.all (Xe4 n))=true->Nx W0 X θ0 n (WL P tb false L R l) a w->wpOps P L.toArray Q (List.range' i l.length) a w:=by
 induction l with
 | nil=>intro i a w _ _ h;exact hQ a w h
 | cons o l M =>
  intro i a w hd j h
  rw[List.all_cons,W0d] at j
  have ho:L.toArray[i]?=some o:=by
   have O:(L.drop i)[0]?=some o:=by rw[hd];rfl
   rw[W1t] at O
   simpa using O
  have U:L.drop (i+1)=l:=by
   have:(L.drop i).drop 1=l:=by rw[hd];rfl
   rwa[W6v] at this
  rw[W1j,List.range'_succ]
  simp only[wpOps,ho]
  have:=Yhu (Q:=Q) V Z j.1 h
  split at this
  rename_i I
  rw[if_pos I]
  exact .inl (Oper.wp_mono (λa w h=>M (i+1) a w U j.2 h) this)
  rename_i I
  rw[if_neg I]
  exact M (i+1) _ w U j.2 this
end
end
section
def Xg4: List Operand->List Nat
 | []=>[]
 | .tmp t::l=>t::Xg4 l
 | _::l=>Xg4 l
def inL(d:Nat): List Nat->Bool
 | []=>false
 | x::l=>Nat.beq d x||inL d l
def Xpb(L:List Oper)(o:Oper): List Nat:=(match o.guard with
 | none=>[]
 | some (j,_)=>(Xn0 L j).toList)++Xg4 o.op.operands.toList
def cls: Op->Nat
 | .load _ _=>1
 | .alloc _ | .box _ _ | .makeSlice _ _ _=>2
 | .store _ _ _=>3
 | .call ⟨.builtin .append,_,_⟩=>3
 | .call ⟨.builtin .copy,_,_⟩=>3
 | .call ⟨.value _,_,_⟩=>4
 | _=>0
def Ybj: Nat->Nat->Bool
 | 0,_=>true
 | _,0=>true
 | 1,1 | 1,2 | 2,1 | 2,2=>true
 | 4,1 | 4,2 | 1,4 | 2,4=>true
 | _,_=>false
def Xca(L:List Oper)(d:Option Nat)(o:Oper): Bool:=match d with
 | none=>true
 | some d=>!inL d (Xpb L o) && !inL d o.dst.toList
def Xl8(L:List Oper)(k i:Oper): Bool:=Xca L k.dst i&&Xca L i.dst k&&Ybj (cls k.op) (cls i.op)&&(!(Nat.beq (cls k.op) 2)||k.dst.isSome)&&(!(Nat.beq (cls i.op) 2)||i.dst.isSome)
theorem Yo3{d:Nat}{l:List Nat}: inL d l=true↔d∈l:=by
 induction l with
 | nil=>simp[inL]
 | cons x l h=>simp[inL,h,Nat.beq_eq]
section
variable{P:Program}[Gb P]{tb:Nat->Option TI}
theorem Yan{e:Ev}{d:Nat}{v:AV}{x:Operand}(h:d ∉ Xg4 [x]): Xb6 (upd e d v) x=Xb6 e x:=by
 cases x with
 | tmp t=>simp only[Xg4,W0g] at h;exact Xak (λe=>h e.symm)
 | _=>rfl
theorem Xcb(x:Operand)(l:List Operand): Xg4 (x::l)=Xg4 [x]++Xg4 l:=by cases x<;>rfl
theorem Xns{e:Ev}{d:Nat}{v:AV}: ∀ {l:List Operand},d ∉ Xg4 l->getEs (upd e d v) l=getEs e l
 | [],_=>rfl
 | x::l,h=>by
  rw[Xcb] at h
  simp only[getEs]
  rw[Yan (λk=>h (W2y _ k)),Xns (λk=>h (W1z _ k))]
theorem Xy8{L:List Oper}{o:Oper}{s:S}{d:Option Nat}{v:AV}{g:Hp}(h:Xca L d o=true): want L o (S.put (s.1,g) d v)=want L o s:=by
 cases d with
 | none=>rfl
 | some d =>
  simp only[Xca,W0d,W1v] at h
  unfold want
  split
  rfl
  rename_i j b i
  split
  rfl
  rename_i t I
  have:t≠d:=λe=>by
   have M:d ∉ Xpb L o:=λO=>by rw[Yo3.2 O] at h;exact absurd h.1 (by simp)
   apply M
   simp[Xpb,i,I,e]
  simp only[S.put]
  rw[Xak this]
theorem Yg6{L:List Oper}{o:Oper}{s:S}{d:Option Nat}{v:AV}{g:Hp}(h:Xca L d o=true): eff tb o (S.put (s.1,g) d v)=eff tb o (s.1,g):=by
 cases d with
 | none=>rfl
 | some d =>
  simp only[Xca,W0d,W1v] at h
  have i:d ∉ Xg4 o.op.operands.toList:=λj=>by
   rw[show inL d (Xpb L o)=true from Yo3.2 (W1z _ j)] at h;exact absurd h.1 (by simp)
  unfold eff
  simp only[S.put]
  rw[Xns i]
noncomputable def efw(tb:Nat->Option TI)(L:List Oper)(o:Oper)(s:S): Option (AV×List (Nat×Ob)):=match want L o s with
 | some true=>eff tb o s
 | some false=>match o.dst with
  | some _=>some (.un,[])
  | none=>none
 | none=>none
def Xal(o:Oper): Bool:=Nat.beq (cls o.op) 4
theorem Xqc{dr:Bool}{o:Oper}(h:Xal o=false){R:S->Prop}{s:S}: Wb P tb dr o R s↔(∃r,eff tb o s=some r/\R (aft s o r))\/(dr=false/\∃Q,Yrf P o s Q/\∀r,Q r->R (aft s o r)):=by
 unfold Wb
 split
 rename_i x asx i j
 simp[Xal,cls,j] at h
 exact W4a
theorem Ymt{o:Oper}(h:Xal o=false){R:S->Prop}{s:S}: Wb P tb true o R s↔∃r,eff tb o s=some r/\R (aft s o r) :=
 (Xqc h).trans ⟨λh=>h.elim id λh=>(nomatch h.1),.inl⟩
theorem Xfo{L:List Oper}{o:Oper}(h:Xal o=false){R:S->Prop}{s:S}: Wo P tb true L o R s↔∃r,efw tb L o s=some r/\R (aft s o r):=by
 unfold Wo efw
 cases i:want L o s with
 | none=>simp
 | some c =>
  cases c with
  | true=>simp[Ymt h]
  | false =>
   cases hd:o.dst with
   | none=>simp
   | some d=>simp[aft,S.put,Xbj,hd]
theorem Yg5{L:List Oper}{o:Oper}{s:S}{d:Option Nat}{v:AV}{g:Hp}(h:Xca L d o=true): efw tb L o (S.put (s.1,g) d v)=efw tb L o (s.1,g):=by
 unfold efw
 rw[Xy8 h,Yg6 h]
 rfl
theorem Xmn(c:Call): cls (.call c)=0\/cls (.call c)=3\/cls (.call c)=4:=by
 obtain⟨cal,asx,h⟩:=c
 cases cal with
 | builtin b=>cases b<;>first | exact .inl rfl | exact .inr (.inl rfl)
 | value x=>exact .inr (.inr rfl)
 | invoke x m=>exact .inl rfl
theorem Yr8{o:Oper}(M:cls o.op=0){e:Ev}{g:Hp}{r:AV×List (Nat×Ob)}(h:eff tb o (e,g)=some r): r.2=[]/\∀g',eff tb o (e,g')=some r:=by
 unfold eff at h |-
 split at h<;>try cases h
 rename_i asx j
 split at h<;>try cases h
 rename_i I
 have i:∀g,F tb (o.dst.getD 0) g o.op asx=(match Fp tb o.op asx with | some v=>some (v,[]) | none=>none):=by
  intro g
  unfold F
  split<;>first | rfl | (rename_i O;rw[O] at M;cases M)
 rw[i] at h
 split at h<;>cases h
 rename_i v T
 refine⟨rfl,λg'=>?_⟩
 simp only[j,I,i,T]
theorem Ype{o:Oper}(V:cls o.op=1){e:Ev}{g:Hp}{r:AV×List (Nat×Ob)}(h:eff tb o (e,g)=some r): r.2=[]/\(∀d M,g d=none->eff tb o (e,upd g d M)=some r):=by
 unfold eff at h |-
 split at h<;>try cases h
 rename_i asx j
 split at h<;>try cases h
 rename_i Z
 have:∃T x,o.op=.load T x:=by
  cases i:o.op<;>rw[i] at V<;>first | exact⟨_,_,rfl⟩ | (cases V;done) | (rename_i c;have:=Xmn c;omega)
 obtain⟨T,x,i⟩:=this
 simp only[i] at h j |-
 simp only[F] at h
 split at h<;>try cases h
 rename_i ti I
 split at h<;>try cases h
 split at h<;>cases h
 rename_i hf
 exact⟨rfl,λd M O=>by simp[j,F,I,hf,Xed]⟩
 split at h<;>try cases h
 rename_i a ha
 split at h<;>cases h
 rename_i y U
 refine⟨rfl,λd M O=>?_⟩
 have:∀ {o},g o=some (.var a)->upd g d M o=some (.var a):=λi=>by rw[Xak (λe=>by rw[e,O] at i;cases i)];exact i
 simp[j,F,I,this ha,U,Xed]
 split at h<;>try cases h
 rename_i sz xs ha
 split at h<;>try cases h
 rename_i hs
 split at h<;>try cases h
 rename_i x' hx
 split at h<;>cases h
 rename_i y U
 refine⟨rfl,λd M O=>?_⟩
 have:∀ {o sz xs},g o=some (.arr sz xs)->upd g d M o=some (.arr sz xs):=λi=>by rw[Xak (λe=>by rw[e,O] at i;cases i)];exact i
 simp[j,F,I,this ha,hs,hx,U,Xed]
theorem Xw0{e:Ev}{g:Hp}(M:∀t v i,e t=some v->v.ids i->∃y,g i=some y): ∀ {l:List Operand} {asx:List AV},getEs e l=some asx->∀a∈asx,∀i,a.ids i->∃y,g i=some y
 | [],asx,h,a,ha=>by simp only[getEs] at h;injection h with h;subst h;cases ha
 | x::l,asx,h,a,ha=>by
  simp only[getEs] at h
  split at h<;>try cases h
  rename_i v j
  split at h<;>cases h
  rename_i O o
  rcases W1s.1 ha with I | I
  subst I
  intro i hi
  cases x with
  | tmp t=>exact M t a i j hi
  | const c=>exact absurd hi ((Yj6 (W:=⟨default,λ_ _=>False,λ_ _ h=>h.elim⟩) (θ:=λ_=>(none,0)) j).2 i)
  | func f=>simp only[Xb6,Option.some.injEq] at j;subst j;exact hi.elim
  | global g=>simp[Xb6] at j
  exact Xw0 M o a I
theorem Ylx{o:Oper}(hc:cls o.op=1){e:Ev}{g:Hp}{d:Nat}{O:Ob}{r:AV×List (Nat×Ob)}(hd:g d=none)(U:∀t v i,e t=some v->v.ids i->∃y,g i=some y)(h:eff tb o (e,upd g d O)=some r): eff tb o (e,g)=some r:=by
 unfold eff at h |-
 split at h<;>try cases h
 rename_i asx j
 have I:=Xw0 U j
 split at h<;>try cases h
 rename_i hst
 have:∃T x,o.op=.load T x:=by
  cases V:o.op<;>rw[V] at hc<;>first | exact⟨_,_,rfl⟩ | (cases hc;done) | (rename_i c;have:=Xmn c;omega)
 obtain⟨T,x,V⟩:=this
 simp only[V] at h j |-
 have M:∀ {a:AV} {i:Nat},a∈asx->a.ids i->upd g d O i=g i:=λha hi=>Xak λe=>by
  obtain⟨y,hy⟩:=I _ ha _ hi
  rw[e,hd] at hy;cases hy
 have Z:∀ {dd:Nat},F tb dd (upd g d O) (.load T x) asx=some r->F tb dd g (.load T x) asx=some r:=by
  intro dd h
  simp only[F] at h |-
  split at h<;>try cases h
  rename_i ti hti
  split at h<;>try cases h
  exact h
  rw[M (W0g.2 rfl) rfl] at h
  exact h
  rw[M (W0g.2 rfl) rfl] at h
  exact h
 simp only[j,Xed,Bool.false_and]
 exact Z h
theorem Yq8{o:Oper}(V:cls o.op=2){e:Ev}{g:Hp}{r:AV×List (Nat×Ob)}(h:eff tb o (e,g)=some r): ∃Z,r.2=[(o.dst.getD 0,Z)]/\g (o.dst.getD 0)=none/\∀g',g' (o.dst.getD 0)=none->eff tb o (e,g')=some r:=by
 unfold eff at h |-
 split at h<;>try cases h
 rename_i asx M
 split at h<;>try cases h
 rename_i O
 simp only[M,O]
 have:(∃T,o.op=.alloc T)\/(∃T x,o.op=.box T x)\/∃T x y,o.op=.makeSlice T x y:=by
  cases j:o.op<;>rw[j] at V<;>first | exact .inl ⟨_,rfl⟩ | exact .inr (.inl ⟨_,_,rfl⟩) | exact .inr (.inr ⟨_,_,_,rfl⟩) | (cases V;done) | (rename_i c;have:=Xmn c;omega)
 rcases this with ⟨T,j⟩ | ⟨T,x,j⟩ | ⟨T,x,y,j⟩
 rw[j] at h |-
 simp only[F] at h |-
 split at h<;>cases h
 rename_i ti U I
 exact⟨_,rfl,I,λg' i=>by simp[U,i]⟩
 rw[j] at h |-
 simp only[F] at h |-
 split at h<;>try cases h
 rename_i a I
 split at h<;>cases h
 rename_i hp
 exact⟨_,rfl,I,λg' i=>by simp[i,hp]⟩
 rw[j] at h |-
 simp only[F] at h |-
 split at h<;>try cases h
 rename_i ti _ m _ c U I
 split at h<;>try cases h
 rename_i sz xs hz
 split at h<;>cases h
 rename_i hr
 exact⟨_,rfl,I,λg' i=>by simp only[U,i,hz,if_pos hr]⟩
end
end
section
section
variable{P:Program}[Gb P]{tb:Nat->Option TI}
theorem Xa8{L:List Oper}{o:Oper}{s:S}{r:AV×List (Nat×Ob)}(h:efw tb L o s=some r):
 (want L o s=some false/\r.2=[]/\∀g',efw tb L o (s.1,g')=some r)\/(want L o s=some true/\eff tb o s=some r):=by
 unfold efw at h
 split at h
 rename_i i;exact .inr ⟨i,h⟩
 rename_i i
 split at h<;>cases h
 rename_i d hd
 refine .inl ⟨i,rfl,λg'=>?_⟩
 unfold efw
 rw[show want L o (s.1,g')=some false from i]
 simp[hd]
 cases h
theorem Xe3{L:List Oper}{o:Oper}{s:S}{g':Hp}{r:AV×List (Nat×Ob)}(i:want L o s=some true)(h:eff tb o (s.1,g')=some r): efw tb L o (s.1,g')=some r:=by
 unfold efw
 rw[show want L o (s.1,g')=some true from i]
 exact h
theorem Xcs{L:List Oper}{o:Oper}{s:S}{r:AV×List (Nat×Ob)}(U:Xal o=false)(h:efw tb L o s=some r):
 (r.2=[]/\∀g',efw tb L o (s.1,g')=some r)\/(cls o.op=1/\r.2=[]/\(∀d i,s.2 d=none->efw tb L o (s.1,upd s.2 d i)=some r)) \/
 (cls o.op=2/\∃i,r.2=[(o.dst.getD 0,i)]/\s.2 (o.dst.getD 0)=none/\∀g',g' (o.dst.getD 0)=none->efw tb L o (s.1,g')=some r)\/cls o.op=3:=by
 rcases Xa8 h with ⟨_,V,Z⟩ | ⟨O,T⟩
 exact .inl ⟨V,Z⟩
 have h4:cls o.op≠4:=λe=>by simp[Xal,e] at U
 have j:cls o.op=0\/cls o.op=1\/cls o.op=2\/cls o.op=3\/cls o.op=4:=by
  unfold cls;split<;>simp
 rcases j with e | e | e | e | e
 obtain⟨I,M⟩:=Yr8 (e:=s.1) (g:=s.2) e T
 exact .inl ⟨I,λg'=>Xe3 O (M g')⟩
 obtain⟨I,M⟩:=Ype (e:=s.1) (g:=s.2) e T
 exact .inr (.inl ⟨e,I,λd i hd=>Xe3 O (M d i hd)⟩)
 obtain⟨i,I,M,a3⟩:=Yq8 (e:=s.1) (g:=s.2) e T
 exact .inr (.inr (.inl ⟨e,i,I,M,λg' hg=>Xe3 O (a3 g' hg)⟩))
 exact .inr (.inr (.inr e))
 exact absurd e h4
theorem Xjg{L:List Oper}{k i:Oper}(h:Xl8 L k i=true): Xca L k.dst i=true/\Xca L i.dst k=true/\Ybj (cls k.op) (cls i.op)=true/\(cls k.op=2->k.dst.isSome=true)/\(cls i.op=2->i.dst.isSome=true):=by
 simp only[Xl8,W0d,W4e,W1v] at h
 obtain⟨⟨⟨⟨j,o⟩,I⟩,M⟩,O⟩:=h
 exact⟨j,o,I,λe=>M.resolve_left (λn=>by rw[e] at n;cases n),λe=>O.resolve_left (λn=>by rw[e] at n;cases n)⟩
theorem Xgs{L:List Oper}{k i:Oper}{a b:Nat}(h:Xca L k.dst i=true)(ha:k.dst=some a)(hb:i.dst=some b): a≠b:=by
 intro e
 subst e
 rw[ha] at h
 simp[Xca,hb,inL] at h
theorem Xlu{s:S}{d t:Option Nat}{x y:AV}{g i j:Hp}(h:∀a b,d=some a->t=some b->a≠b)(o:i=j): S.put ((S.put (s.1,g) d x).1,i) t y=S.put ((S.put (s.1,g) t y).1,j) d x:=by
 subst o
 cases d with
 | none=>cases t<;>rfl
 | some a=>cases t with
  | none=>rfl
  | some b=>simp only[S.put];rw[Xh0 (h a b rfl rfl)]
theorem S.put_g{s:S}{g:Hp}{d:Option Nat}{v:AV}: (S.put (s.1,g) d v).2=g:=by cases d<;>rfl
theorem S.put_e{s:S}{g g':Hp}{d:Option Nat}{v:AV}: (S.put (s.1,g) d v).1=(S.put (s.1,g') d v).1:=by cases d<;>rfl
theorem Xbt{L:List Oper}{k i:Oper}{s:S}{r:AV×List (Nat×Ob)}(h:Xca L k.dst i=true): efw tb L i (aft s k r)=efw tb L i (s.1,Xbj s.2 r.2):=Yg5 (s:=s) h
theorem par{L:List Oper}{k i:Oper}(hi:Xl8 L k i=true)(ck:Xal k=false)(ci:Xal i=false){s:S}{M O:AV×List (Nat×Ob)}(h1:efw tb L k s=some M)(h2:efw tb L i s=some O):
 efw tb L i (aft s k M)=some O/\efw tb L k (aft s i O)=some M/\aft (aft s i O) k M=aft (aft s k M) i O:=by
 obtain⟨a1,a2,U,a4,a5⟩:=Xjg hi
 have I:Xbj (Xbj s.2 O.2) M.2=Xbj (Xbj s.2 M.2) O.2->aft (aft s i O) k M=aft (aft s k M) i O:=λhg=>by
  unfold aft
  rw[S.put_g,S.put_g,hg]
  have e1:=S.put_e (s:=s) (g:=Xbj s.2 O.2) (g':=s.2) (d:=i.dst) (v:=O.1)
  have e2:=S.put_e (s:=s) (g:=Xbj s.2 M.2) (g':=s.2) (d:=k.dst) (v:=M.1)
  rw[e1,e2]
  exact Xlu (s:=s) (λa b ha hb=>Xgs a2 ha hb) rfl
 rw[Xbt a1,Xbt a2]
 rcases Xcs ck h1 with ⟨T,V⟩ | ⟨Z,T,V⟩ | ⟨Z,ob,T,V,b3⟩ | Z
 rw[T]
 exact⟨h2,V _,I (by rw[T];rfl)⟩
 rw[T]
 refine⟨h2,?_,I (by rw[T];rfl)⟩
 rcases Xcs ci h2 with ⟨h,j⟩ | ⟨o,h,j⟩ | ⟨o,oc,h,j,c3⟩ | o
 rw[h];exact h1
 rw[h];exact h1
 rw[h];exact V _ _ j
 rw[Z,o] at U;cases U
 rcases Xcs ci h2 with ⟨h,j⟩ | ⟨o,h,j⟩ | ⟨o,oc,h,j,c3⟩ | o
 rw[h];exact⟨j _,h1,I (by rw[h];rfl)⟩
 rw[h,T];exact⟨j _ _ V,h1,I (by rw[h];rfl)⟩
 obtain⟨dk,hdk⟩:=W3o.1 (a4 Z)
 obtain⟨di,hdi⟩:=W3o.1 (a5 o)
 have hne:=Xgs a1 hdk hdi
 rw[hdk] at T V b3
 rw[hdi] at h j c3
 simp only[W4m] at T V b3 h j c3
 rw[T,h]
 refine⟨c3 _ (by show upd s.2 dk ob di=none;rw[Xak (λe=>hne e.symm)];exact j),b3 _ (by show upd s.2 di oc dk=none;rw[Xak hne];exact V),I ?_⟩
 rw[T,h]
 exact Xh0 (λe=>hne e.symm)
 rw[Z,o] at U;cases U
 rcases Xcs ci h2 with ⟨h,j⟩ | ⟨o,h,j⟩ | ⟨o,oc,h,j,c3⟩ | o
 rw[h];exact⟨j _,h1,I (by rw[h];rfl)⟩
 rw[Z,o] at U;cases U
 rw[Z,o] at U;cases U
 rw[Z,o] at U;cases U
theorem back{L:List Oper}{k i:Oper}(hi:Xl8 L k i=true)(ck:Xal k=false)(ci:Xal i=false){s:S}(hcl:∀t v j,s.1 t=some v->v.ids j->∃y,s.2 j=some y){rk ri:AV×List (Nat×Ob)}(h1:efw tb L k s=some rk)(M:efw tb L i (aft s k rk)=some ri):
 efw tb L i s=some ri:=by
 obtain⟨a1,a2,O,a4,a5⟩:=Xjg hi
 rw[Xbt a1] at M
 rcases Xcs ck h1 with ⟨T,b2⟩ | ⟨U,T,b2⟩ | ⟨U,ob,T,b2,b3⟩ | U
 rw[T] at M;exact M
 rw[T] at M;exact M
 rcases Xcs (s:=(s.1,Xbj s.2 rk.2)) ci M with ⟨V,h⟩ | ⟨I,V,h⟩ | ⟨I,oc,V,h,c3⟩ | I
 exact h s.2
 rcases Xa8 M with ⟨_,_,d3⟩ | ⟨d1,d2⟩
 exact d3 s.2
 rw[T] at d2
 have d1:want L i s=some true:=d1
 have:=Ylx (o:=i) I b2 hcl d2
 exact Xe3 (s:=s) d1 this
 obtain⟨dk,Z⟩:=W3o.1 (a4 U)
 obtain⟨di,hdi⟩:=W3o.1 (a5 I)
 have hne:=Xgs a1 Z hdi
 rw[Z] at T
 rw[hdi] at h c3
 simp only[W4m] at T h c3
 refine c3 s.2 ?_
 rw[T] at h
 have h:upd s.2 dk ob di=none:=h
 rwa[Xak (λe=>hne e.symm)] at h
 rw[U,I] at O;cases O
 rcases Xcs (s:=(s.1,Xbj s.2 rk.2)) ci M with ⟨V,h⟩ | ⟨I,V,h⟩ | ⟨I,oc,V,h,c3⟩ | I
 exact h s.2
 rw[U,I] at O;cases O
 rw[U,I] at O;cases O
 rw[U,I] at O;cases O
end
end
section
section
variable{P:Program}[Gb P]{tb:Nat->Option TI}
def Xqi(L:List Oper)(o:Oper)(s s':S): Prop:=∀t∈Xpb L o,s.1 t=s'.1 t
theorem Xqi.symm{L:List Oper}{o:Oper}{s s':S}(h:Xqi L o s s'): Xqi L o s' s:=λt i=>(h t i).symm
theorem Xok{L:List Oper}{o:Oper}{s:S}{d:Option Nat}{v:AV}{g:Hp}(h:Xca L d o=true): Xqi L o (S.put (s.1,g) d v) s:=by
 cases d with
 | none=>exact λ_ _=>rfl
 | some d =>
  intro t i
  simp only[Xca,W0d,W1v] at h
  refine Xak λe=>?_
  subst e
  rw[Yo3.2 i] at h
  exact absurd h.1 (by simp)
theorem Xqi.getEs{L:List Oper}{o:Oper}{s s':S}(h:Xqi L o s s'): ∀ {l:List Operand},(∀t∈Xg4 l,t∈Xg4 o.op.operands.toList)->Vm.getEs s.1 l=Vm.getEs s'.1 l
 | [],_=>rfl
 | x::l,i=>by
  have j:Xb6 s.1 x=Xb6 s'.1 x:=by
   cases x with
   | tmp t=>exact h t (W1z _ (i t (by rw[Xcb];exact W2y _ (W0g.2 rfl))))
   | _=>rfl
  simp only[Vm.getEs]
  rw[j,Xqi.getEs h (l:=l) λt I=>i t (by rw[Xcb];exact W1z _ I)]
theorem Xqi.want{L:List Oper}{o:Oper}{s s':S}(h:Xqi L o s s'): Vm.want L o s=Vm.want L o s':=by
 unfold Vm.want
 split
 rfl
 rename_i j b i
 split
 rfl
 rename_i t I
 rw[h t (W2y _ (by simp[i,I]))]
theorem Xjf{o:Oper}(i:Xal o=true): ∃x asx h,o.op=.call ⟨.value x,asx,h⟩:=by
 cases j:o.op<;>simp only[Xal,j,cls] at i<;>first | (cases i;done) | skip
 rename_i c
 obtain⟨cal,asx,h⟩:=c
 cases cal with
 | builtin b=>cases b<;>cases i
 | value x=>exact⟨_,_,_,rfl⟩
 | invoke x m=>cases i
theorem Xph{v:Value}{a:AV}(h:ofV v=some a)(i:Nat): ¬a.ids i:=by
 unfold ofV at h
 split at h<;>first | (cases h;done) | (injection h with h;subst h;exact id) | (split at h<;>cases h;exact id)
theorem Yev: ∀ {a:AV} (b:AV),b∈unA a->∀ {i:Nat},b.ids i->a.ids i:=by
 intro a
 induction a with
 | pr a c _ h=>exact λb hb i hi=>(W1s.1 hb).elim (λe=>.inl (e ▸ hi)) λhb=>.inr (h b hb hi)
 | _=>exact λb hb i hi=>by rcases W0g.1 hb with rfl;exact hi
theorem Xtv{e:Ev}{x:Operand}{f:FuncId}{ex:List AV}(h:callee e x=some (f,ex)){a:AV}(ha:a∈ex){i:Nat}(hi:a.ids i): ∃t v,x=.tmp t/\e t=some v/\v.ids i:=by
 unfold callee at h
 split at h
 injection h with h;injection h with M o;subst o;cases ha
 rename_i I O j
 injection h with h;injection h with M o;subst o
 rcases W0g.1 ha with rfl
 cases x with
 | tmp t=>exact⟨t,_,rfl,j,hi⟩
 | const c=>exact absurd (show (AV.fn I O).ids i from hi) (Xph j i)
 | func f=>simp[Xb6] at j
 | global g=>simp[Xb6] at j
 rename_i I T j
 split at h<;>try cases h
 have hi:=Yev a ha hi
 cases x with
 | tmp t=>exact⟨t,_,rfl,j,hi⟩
 | const c=>exact absurd (show (AV.fm f T).ids i from hi) (Xph j i)
 | func f=>simp[Xb6] at j
 | global g=>simp[Xb6] at j
 cases h
theorem Xnt{e:Ev}{i:Nat}: ∀ {l:List Operand} {vs:List AV},getEs e l=some vs->∀a∈vs,a.ids i->∃t∈Xg4 l,∃v,e t=some v/\v.ids i
 | [],vs,h,a,ha,_=>by simp only[getEs] at h;injection h with h;subst h;cases ha
 | x::l,vs,h,a,ha,hi=>by
  simp only[getEs] at h
  split at h<;>try cases h
  rename_i v j
  split at h<;>cases h
  rename_i asx o
  rw[Xcb]
  rcases W1s.1 ha with rfl | ha
  cases x with
  | tmp t=>exact⟨t,W2y _ (W0g.2 rfl),_,j,hi⟩
  | const c=>exact absurd hi (Xph j i)
  | func f=>simp only[Xb6,Option.some.injEq] at j;subst j;exact hi.elim
  | global g=>simp[Xb6] at j
  obtain⟨t,I,M⟩:=Xnt o a ha hi
  exact⟨t,W1z _ I,M⟩
theorem Xry{i:Nat}: ∀ {Ts:List TypeId} {asx:List AV},∀a∈Xj2 tb Ts asx,a.ids i->∃b∈asx,b.ids i
 | [],asx,a,ha,hi=>⟨a,by simpa [Xj2] using ha,hi⟩
 | T::Ts,[],a,ha,hi=>by simp[Xj2] at ha
 | T::Ts,c::asx,a,ha,hi=>by
  simp only[Xj2] at ha
  rcases W1s.1 ha with e | ha
  have:a=c\/∃x,a=.d x:=by
   split at e
   split at e
   exact .inr ⟨_,e⟩
   exact .inl e
   exact .inl e
  rcases this with rfl | ⟨x,rfl⟩
  exact⟨_,W0w ..,hi⟩
  exact hi.elim
  obtain⟨b,h,j⟩:=Xry a ha hi
  exact⟨b,W1c _ h,j⟩
theorem Yhs{s:S}{o:Oper}{d:Nat}(h:o.dst=some d): s.put (some d) .un=aft s o (.un,[]):=by unfold aft;rw[h];rfl
theorem Xgu{L:List Oper}{o:Oper}(hc:Xal o=true){s s':S}(h:Xqi L o s s'){R R':S->Prop}(hw:Wo P tb true L o R s)
 (hg:∀i y,s.2 i=some y->(∃t∈Xpb L o,∃v,s.1 t=some v/\v.ids i)->s'.2 i=some y) (hn:∀d,o.dst=some d->s.2 d=none->s'.2 d=none)
 (hR:∀r,(r.2=[]\/∃d U,o.dst=some d/\r.2=[(d,U)]/\s.2 d=none)->R (aft s o r)->R' (aft s' o r)):Wo P tb true L o R' s':=by
 rcases hw with ⟨V,M⟩ | ⟨V,d,M,h3⟩
 refine .inl ⟨by rw[<-h.want];exact V,?_⟩
 obtain⟨x,asx,Z,he⟩:=Xjf hc
 unfold Wb at M |-
 rw[he] at M |-
 obtain⟨f,ex,vs,a1,a2,nw,H0,Q,⟨a3,a4,a5⟩,a6⟩:=M.resolve_right λh=>nomatch h.1
 have j:o.op.operands.toList=x::asx.toList:=by rw[he];simp[Op.operands,Call.operands]
 have e1:Xb6 s.1 x=Xb6 s'.1 x:=by
  cases x with
  | tmp t=>exact h t (W1z _ (by rw[j,Xcb];exact W2y _ (W0g.2 rfl)))
  | _=>rfl
 have O:∀i,(∃a∈Xj2 tb Z.toList vs++ex,a.ids i)->∃t∈Xpb L o,∃v,s.1 t=some v/\v.ids i:=by
  rintro i ⟨a,ha,hi⟩
  rcases W2p.1 ha with ha | ha
  obtain⟨b,hb,hbi⟩:=Xry a ha hi
  obtain⟨t,t1,t2⟩:=Xnt a2 b hb hbi
  exact⟨t,W1z _ (by rw[j,Xcb];exact W1z _ t1),t2⟩
  obtain⟨t,v,rfl,t1,t2⟩:=Xtv a1 ha hi
  exact⟨t,W1z _ (by rw[j,Xcb];exact W2y _ (W0g.2 rfl)),v,t1,t2⟩
 refine .inl ⟨f,ex,vs,by unfold callee at a1 |-;rw[<-e1];exact a1,by rw[<-h.getEs (λt ht=>by rw[j,Xcb];exact W1z _ ht)];exact a2,nw,H0,Q,⟨λhh=>?_,λi y hy=>?_,a5⟩,λr T hq=>hR r ?_ (a6 r T hq)⟩
 obtain⟨d,I,d2⟩:=a3 hh;exact⟨d,I,hn d I d2⟩
 obtain⟨b1,b2⟩:=a4 i y hy;exact⟨hg i y b1 (O i b2),b2⟩
 rcases T with T | ⟨hh,d,U,u1,u2⟩
 exact .inl T
 obtain⟨d',I,d2⟩:=a3 hh
 rw[u1] at I;injection I with I;subst I
 exact .inr ⟨_,U,u1,u2,d2⟩
 refine .inr ⟨by rw[<-h.want];exact V,d,M,?_⟩
 rw[Yhs M] at h3 |-
 exact hR _ (.inl rfl) h3
theorem Ybl{L:List Oper}{o:Oper}(i:Xal o=true){s:S}{R:S->Prop}(j:Wo P tb true L o R s): Wo P tb true L o (λs'=>R s'/\∃r,(r.2=[]\/∃d I,o.dst=some d/\r.2=[(d,I)]/\s.2 d=none)/\s'=aft s o r) s :=
 Xgu i (λ_ _=>rfl) j (λ_ _ h _=>h) (λ_ _ h=>h) λr M h=>⟨h,r,M,rfl⟩
theorem Yd9{L:List Oper}{i:Oper}(V:Xal i=false){s:S}{T:AV×List (Nat×Ob)}{us:List (Nat×Ob)}(Z:cls i.op≠3)(h2:cls i.op=2->i.dst.isSome=true)(hu:us=[]\/∃d I,us=[(d,I)]/\s.2 d=none/\i.dst≠some d)(h:efw tb L i s=some T):
 efw tb L i (s.1,Xbj s.2 us)=some T:=by
 rcases hu with rfl | ⟨d,I,rfl,hd,o⟩
 exact h
 rcases Xcs V h with ⟨_,j⟩ | ⟨_,_,j⟩ | ⟨M,oc,_,j,U⟩ | M
 exact j _
 exact j _ _ hd
 obtain⟨di,O⟩:=W3o.1 (h2 M)
 rw[O] at j U o
 exact U _ (by show upd s.2 d I di=none;rw[Xak (λe=>o (by rw[e]))];exact j)
 exact absurd M Z
theorem Ya5{L:List Oper}{i:Oper}(ci:Xal i=false){s:S}{ri:AV×List (Nat×Ob)}{us:List (Nat×Ob)}(hc:cls i.op≠3)(h2:cls i.op=2->i.dst.isSome=true)(U:∀t v j,s.1 t=some v->v.ids j->∃y,s.2 j=some y)(hu:us=[]\/∃d T,us=[(d,T)]/\s.2 d=none/\i.dst≠some d)
 (h:efw tb L i (s.1,Xbj s.2 us)=some ri):efw tb L i s=some ri:=by
 rcases hu with rfl | ⟨d,T,rfl,hd,M⟩
 exact h
 rcases Xcs (s:=(s.1,Xbj s.2 [(d,T)])) ci h with ⟨_,I⟩ | ⟨O,_,I⟩ | ⟨O,oc,_,I,c3⟩ | O
 exact I s.2
 rcases Xa8 h with ⟨_,_,d3⟩ | ⟨V,d2⟩
 exact d3 s.2
 have V:want L i s=some true:=V
 exact Xe3 (s:=s) V (Ylx (o:=i) O hd U d2)
 obtain⟨di,Z⟩:=W3o.1 (h2 O)
 rw[Z] at I c3 M
 refine c3 s.2 ?_
 have I:upd s.2 d T di=none:=I
 rwa[Xak (λe=>M (by rw[e]))] at I
 exact absurd O hc
theorem Xyp{s:S}{k i:Oper}{r q:AV×List (Nat×Ob)}(hd:∀a b,k.dst=some a->i.dst=some b->a≠b)(hr:r.2=[]\/∃d h,k.dst=some d/\r.2=[(d,h)])(hq:q.2=[]\/∃d h,i.dst=some d/\q.2=[(d,h)]):
 aft (aft s k r) i q=aft (aft s i q) k r:=by
 have j:Xbj (Xbj s.2 r.2) q.2=Xbj (Xbj s.2 q.2) r.2:=by
  rcases hr with hr | ⟨a,oa,ha,hr⟩<;>rcases hq with hq | ⟨b,h,hb,hq⟩<;>rw[hr,hq]<;>try rfl
  exact Xh0 (hd a b ha hb)
 unfold aft
 rw[S.put_g,S.put_g,j]
 have o:=S.put_e (s:=s) (g:=Xbj s.2 q.2) (g':=s.2) (d:=i.dst) (v:=q.1)
 have I:=S.put_e (s:=s) (g:=Xbj s.2 r.2) (g':=s.2) (d:=k.dst) (v:=r.1)
 rw[o,I]
 exact Xlu (s:=s) hd rfl
theorem Yd8{L:List Oper}{i:Oper}(T:Xal i=false){s:S}{I:AV×List (Nat×Ob)}(U:cls i.op≠3)(V:cls i.op=2->i.dst.isSome=true)(h:efw tb L i s=some I): I.2=[]\/∃d Z,i.dst=some d/\I.2=[(d,Z)]/\s.2 d=none:=by
 rcases Xcs T h with ⟨j,_⟩ | ⟨_,j,_⟩ | ⟨M,oc,j,O,_⟩ | M
 exact .inl j
 exact .inl j
 obtain⟨di,o⟩:=W3o.1 (V M)
 rw[o] at j O
 exact .inr ⟨di,oc,o,j,O⟩
 exact absurd M U
theorem Xsg{s:S}{o:Oper}{us:List (Nat×Ob)}(h:us=[]\/∃d i,o.dst=some d/\us=[(d,i)]/\s.2 d=none): us=[]\/∃d i,o.dst=some d/\us=[(d,i)]:=h.imp id λ⟨d,i,j,I,_⟩=>⟨d,i,j,I⟩
theorem Ymd{a b:Nat}(h:Ybj a b=true)(hb:b=4): a≠3/\a≠4:=by
 subst hb;constructor<;>(intro e;subst e;cases h)
theorem Xx6{a b:Nat}(h:Ybj a b=true)(hb:a=4): b≠3/\b≠4:=by
 subst hb;constructor<;>(intro e;subst e;cases h)
structure Dm (tb:Nat->Option TI) (L:List Oper) (sp:Oper->Oper->Bool) (Z:S->Prop):Prop where
 nc:∀ {k i},sp k i=true->Xal k=false/\Xal i=false
 par:∀ {k i:Oper} {s:S} {rk ri:AV×List (Nat×Ob)},sp k i=true->Z s->efw tb L k s=some rk->efw tb L i s=some ri->efw tb L i (aft s k rk)=some ri/\efw tb L k (aft s i ri)=some rk/\aft (aft s i ri) k rk=aft (aft s k rk) i ri
 back:∀ {k i:Oper} {s:S} {rk ri:AV×List (Nat×Ob)},sp k i=true->Z s->efw tb L k s=some rk->efw tb L i (aft s k rk)=some ri->efw tb L i s=some ri
 clo:∀ {k:Oper} {s:S} {r:AV×List (Nat×Ob)},k∈L->Xal k=false->Z s->efw tb L k s=some r->Z (aft s k r)
 cloC:∀ {k:Oper} {s:S} {r:AV×List (Nat×Ob)},k∈L->Xal k=true->Z s->(r.2=[]\/∃d ob,k.dst=some d/\r.2=[(d,ob)]/\s.2 d=none)->Z (aft s k r)
theorem Dm.no{tb:Nat->Option TI}{L:List Oper}: Dm tb L (λ_ _=>false) λ_=>True:=⟨nofun,nofun,nofun,λ_ _ _ _=>trivial,λ_ _ _ _=>trivial⟩
def Ind(L:List Oper)(sp:Oper->Oper->Bool)(k i:Oper): Prop:=k∈L/\(Xl8 L k i=true\/sp k i=true)
theorem Yfo{L:List Oper}{sp:Oper->Oper->Bool}{Z:S->Prop}(D:Dm tb L sp Z){R:S->Prop}{i:Oper}(V:Xal i=false){v:List Oper}{o:AV×List (Nat×Ob)}: ∀ {u:List Oper},(∀k∈u,Ind L sp k i)->∀ {s:S},Z s->efw tb L i s=some o->WL P tb true L R (u++i::v) s->WL P tb true L R (u++v) (aft s i o)
 | [],_,s,_,h,hw=>by
  obtain⟨r,I,h2⟩:=(Xfo V).1 hw
  rw[h] at I;injection I with I;subst I;exact h2
 | k::u,hu,s,hz,h,hw=>by
  obtain⟨hkL,M⟩:=hu k (W0w ..)
  have hu':∀k∈u,Ind L sp k i:=λk M=>hu k (W1c _ M)
  cases O:Xal k with
  | false =>
   obtain⟨rk,I,h2⟩:=(Xfo O).1 hw
   obtain⟨p1,p2,p3⟩:efw tb L i (aft s k rk)=some o/\efw tb L k (aft s i o)=some rk/\aft (aft s i o) k rk=aft (aft s k rk) i o:=M.elim (λM=>par M O V I h) λM=>D.par M hz I h
   refine(Xfo O).2 ⟨rk,p2,?_⟩
   rw[p3]
   exact Yfo D V hu' (D.clo hkL O hz I) p1 h2
  | true =>
   have M:=M.resolve_right λh=>by rw[(D.nc h).1] at O;cases O
   obtain⟨a1,a2,a3,a4,a5⟩:=Xjg M
   have c3:=(Xx6 a3 (W0c O)).1
   have U:=Yd8 V c3 a5 h
   have hd:∀a b,k.dst=some a->i.dst=some b->a≠b:=λa b ha hb=>Xgs a1 ha hb
   have hg2:(aft s i o).2=Xbj s.2 o.2:=S.put_g (s:=s)
   refine Xgu O (s:=s) (s':=aft s i o) (Xqi.symm (Xok a2)) hw (λj y hy _=>?_) (λd hkd T=>?_) λx hx hx2=>?_
   rw[hg2]
   rcases U with e | ⟨d,ob,_,e,T⟩
   rw[e];exact hy
   rw[e];show upd s.2 d ob j=_;rw[Xak (λe=>by rw[e,T] at hy;cases hy)];exact hy
   rw[hg2]
   rcases U with e | ⟨d',ob,hid,e,_⟩
   rw[e];exact T
   rw[e];show upd s.2 d' ob d=_;rw[Xak (hd d d' hkd hid)];exact T
   have e1:efw tb L i (aft s k x)=some o:=by
    rw[Xbt a1]
    exact Yd9 V c3 a5 (hx.imp id λ⟨d,ob,I,h2,h3⟩=>⟨d,ob,h2,h3,λe=>hd d d I e rfl⟩) h
   have:=Yfo D V hu' (D.cloC hkL O hz hx) e1 hx2
   rwa[Xyp hd (Xsg (s:=s) hx) (Xsg (s:=s) U)] at this
variable{W0:GW}{X:Nat->Prop}{θ0:Loc}{n:Nat}
theorem Xp7(hT:∀T ti,tb T=some ti->TyOk P T ti/\∀a c,ti.z≠.pr a c)(hn:n<=1000000/\Gb.g P W0){L:List Oper}{sp:Oper->Oper->Bool}{Z:S->Prop}(D:Dm tb L sp Z){R:S->Prop}{i:Oper}(ci:Xal i=false){v:List Oper}: ∀ {u:List Oper},(∀k∈u,Ind L sp k i)->(∀k∈u,Xe4 n k=true) ->
 ∀ {s:S} {a:Act} {W:GW} {θ:Loc},Z s->Sat W0 X n s a W θ->(∀i,1000000<=i->θ i=θ0 i)->WL P tb true L R (u++i::v) s->∃ri,efw tb L i s=some ri
 | [],_,_,s,a,W,θ,_,_,_,hw=>by
  obtain⟨r,O,_⟩:=(Xfo ci).1 hw
  exact⟨r,O⟩
 | k::u,hu,hd,s,a,W,θ,hz,hs,hθ,hw=>by
  obtain⟨hkL,j⟩:=hu k (W0w ..)
  have hu':∀k∈u,Ind L sp k i:=λk j=>hu k (W1c _ j)
  have hd':∀k∈u,Xe4 n k=true:=λk j=>hd k (W1c _ j)
  cases M:Xal k with
  | false =>
   obtain⟨rk,O,h2⟩:=(Xfo M).1 hw
   obtain⟨a',w',s',W',θ',_,U,o,rfl,V⟩:=Nx.next (R:=λs'=>s'=aft s k rk/\WL P tb true L R (u++i::v) s') hT hn (hd k (W0w ..)) ⟨s,W,θ,rfl,hs,hθ,(Xfo M).2 ⟨rk,O,rfl,h2⟩⟩
   obtain⟨ri,I⟩:=Xp7 hT hn D ci hu' hd' (D.clo hkL M hz O) U o V
   exact⟨ri,j.elim (λj=>back j M ci hs.ids O I) λj=>D.back j hz O I⟩
  | true =>
   have j:=j.resolve_right λh=>by rw[(D.nc h).1] at M;cases M
   obtain⟨a1,a2,a3,a4,a5⟩:=Xjg j
   have c3:=(Xx6 a3 (W0c M)).1
   obtain⟨a',w',s',W',θ',_,U,o,V,x,hx,rfl⟩:=Nx.next hT hn (hd k (W0w ..)) ⟨s,W,θ,rfl,hs,hθ,Ybl M hw⟩
   obtain⟨ri,I⟩:=Xp7 hT hn D ci hu' hd' (D.cloC hkL M hz hx) U o V
   rw[Xbt a1] at I
   exact⟨ri,Ya5 ci c3 a5 hs.ids (hx.imp id λ⟨d,ob,O,h2,h3⟩=>⟨d,ob,h2,h3,λe=>Xgs a1 O e rfl⟩) I⟩
theorem Yjy(hT:∀T ti,tb T=some ti->TyOk P T ti/\∀a c,ti.z≠.pr a c)(hn:n<=1000000/\Gb.g P W0){L:List Oper}{sp:Oper->Oper->Bool}{Z:S->Prop}(D:Dm tb L sp Z){R:S->Prop}{i:Oper}(ci:Xal i=true){v:List Oper}: ∀ {u:List Oper},(∀k∈u,Ind L sp k i)->(∀k∈u,Xe4 n k=true) ->
 ∀ {s:S} {a:Act} {W:GW} {θ:Loc},Sat W0 X n s a W θ->(∀i,1000000<=i->θ i=θ0 i)->WL P tb true L R (u++i::v) s->Wo P tb true L i (WL P tb true L R (u++v)) s
 | [],_,_,s,a,W,θ,_,_,hw=>hw
 | k::u,hu,hd,s,a,W,θ,hs,hθ,hw=>by
  have hk:=(hu k (W0w ..)).2.resolve_right λh=>by rw[(D.nc h).2] at ci;cases ci
  have hu':∀k∈u,Ind L sp k i:=λk hk=>hu k (W1c _ hk)
  have hd':∀k∈u,Xe4 n k=true:=λk hk=>hd k (W1c _ hk)
  obtain⟨a1,a2,a3,a4,a5⟩:=Xjg hk
  obtain⟨c3,c4⟩:=Ymd a3 (W0c ci)
  have V:Xal k=false:=by
   cases V:Xal k with
   | false=>rfl
   | true=>exact absurd (W0c V) c4
  obtain⟨rk,h1,h2⟩:=(Xfo V).1 hw
  obtain⟨a',w',s',W',θ',_,hs',hθ',rfl,hw'⟩:=Nx.next (R:=λs'=>s'=aft s k rk/\WL P tb true L R (u++i::v) s') hT hn (hd k (W0w ..)) ⟨s,W,θ,rfl,hs,hθ,(Xfo V).2 ⟨rk,h1,rfl,h2⟩⟩
  have ih:=Yjy hT hn D ci hu' hd' hs' hθ' h2
  have I:=Yd8 V c3 a4 h1
  have M:∀a b,k.dst=some a->i.dst=some b->a≠b:=λa b ha hb=>Xgs a1 ha hb
  have hg2:(aft s k rk).2=Xbj s.2 rk.2:=S.put_g (s:=s)
  have hag:Xqi L i (aft s k rk) s:=Xok a1
  refine Xgu ci hag ih (λj y hy ⟨t,ht,q,hq,hqj⟩=>?_) (λd hid o=>?_) λx hx hx2=>?_
  rw[hag t ht] at hq
  obtain⟨y',hy'⟩:=hs.ids t q j hq hqj
  rw[hg2] at hy
  rcases I with e | ⟨d,O,_,e,o⟩
  rw[e] at hy;exact hy
  rw[e] at hy
  have hy:upd s.2 d O j=some y:=hy
  rwa[Xak (λe=>by rw[e,o] at hy';cases hy')] at hy
  rw[hg2] at o
  rcases I with e | ⟨d',O,hkd,e,_⟩
  rw[e] at o;exact o
  rw[e] at o
  have o:upd s.2 d' O d=none:=o
  rwa[Xak (λe=>M d' d hkd hid e.symm)] at o
  have hx':x.2=[]\/∃d O,i.dst=some d/\x.2=[(d,O)]/\s.2 d=none:=hx.imp id λ⟨d,O,e1,e2,U⟩=>⟨d,O,e1,e2,by
   rw[hg2] at U
   rcases I with e | ⟨d',ob',hkd,e,_⟩
   rw[e] at U;exact U
   rw[e] at U
   have U:upd s.2 d' ob' d=none:=U
   rwa[Xak (λe=>M d' d hkd e1 e.symm)] at U⟩
  refine(Xfo V).2 ⟨rk,?_,?_⟩
  rw[Xbt a2]
  exact Yd9 V c3 a4 (hx'.imp id λ⟨d,O,e1,e2,U⟩=>⟨d,O,e2,U,λe=>M d d e e1 rfl⟩) h1
  rw[<-Xyp M (Xsg (s:=s) I) (Xsg (s:=s) hx')]
  exact hx2
theorem Yrw(V:∀T ti,tb T=some ti->TyOk P T ti/\∀a c,ti.z≠.pr a c)(hn:n<=1000000/\Gb.g P W0){L:List Oper}{sp:Oper->Oper->Bool}{Z:S->Prop}(D:Dm tb L sp Z){R:S->Prop}{i:Oper}(hi:i∈L){u v:List Oper}(O:∀k∈u,Ind L sp k i)(hd:∀k∈u,Xe4 n k=true){a:Act}{w:World}
 (h:Nx W0 X θ0 n (λs=>Z s/\WL P tb true L R (u++i::v) s) a w):Nx W0 X θ0 n (Wo P tb true L i λs=>Z s/\WL P tb true L R (u++v) s) a w:=by
 obtain⟨s,W,θ,hw,U,j,M,h⟩:=h
 refine⟨s,W,θ,hw,U,j,?_⟩
 cases o:Xal i with
 | true=>exact Xgu o (λ_ _=>rfl) (Yjy V hn D o O hd U j h) (λ_ _ h _=>h) (λ_ _ h=>h) λr hr h=>⟨D.cloC hi o M hr,h⟩
 | false =>
  obtain⟨ri,I⟩:=Xp7 V hn D o O hd M U j h
  exact(Xfo o).2 ⟨ri,I,D.clo hi o M I,Yfo D o O M I h⟩
end
end
section
class Mx (P:Program):Prop where
 h:P.follows .mixedOrders=true
theorem Yle(m:Region.Mode)(h:Array Oper)(f:Nat): ∀(t:Nat) (ls:Array Bool) (acc:List Nat),Region.linearise.go m h f t ls acc=acc.reverse++Region.linearise.go m h f t ls []:=by
 induction f with
 | zero=>intro t ls acc;simp[Region.linearise.go]
 | succ f j =>
  intro t ls acc
  simp only[Region.linearise.go]
  split
  rename_i i hi
  rw[j _ _ (i::acc),j _ _ [i]]
  simp
  simp
def Xfx(o:Oper): List Nat:=(o.after.toList.filter (Region.binds .any)).map (·.on)
def rdy(L:List Oper)(ls:Array Bool): List Nat :=
 (List.range L.toArray.size).filter λi=>!ls.getD i true&&((L.toArray[i]?).map (·.after.all λe=>!Region.binds .any e||ls.getD e.on false)).getD false
theorem Xvy{L:List Oper}{ls:Array Bool}(Z:ls.size=L.length){i:Nat}: i∈rdy L ls↔∃o,L[i]?=some o/\ls.getD i false=false/\∀j∈Xfx o,ls.getD j false=true:=by
 unfold rdy
 rw[List.mem_filter]
 constructor
 rintro⟨V,h⟩
 have hi:i<L.length:=by simpa using List.mem_range.1 V
 rw[W0d] at h
 obtain⟨h,M⟩:=h
 have O:L[i]?=some L[i]:=W0e hi
 refine⟨L[i],O,?_,?_⟩
 have:i<ls.size:=by omega
 simp[Array.getD,this] at h |-
 exact h
 intro j U
 have I:L.toArray[i]?=some L[i]:=by simp
 rw[I] at M
 simp only[W3m,W4m] at M
 rw[Array.all_eq_true'] at M
 simp only[Xfx,W4r,List.mem_filter] at U
 obtain⟨e,⟨T,hb⟩,rfl⟩:=U
 have:=M e (by simpa using T)
 rw[hb] at this
 simpa using this
 rintro⟨o,O,h,M⟩
 have hi:i<L.length:=Xbe O
 refine⟨by simpa using hi,?_⟩
 rw[W0d]
 refine⟨?_,?_⟩
 have:i<ls.size:=by omega
 simp[Array.getD,this] at h |-
 exact h
 have I:L.toArray[i]?=some o:=by simpa using O
 rw[I]
 simp only[W3m,W4m]
 rw[Array.all_eq_true']
 intro e T
 cases hb:Region.binds .any e with
 | false=>rfl
 | true =>
  have:=M e.on (by simp only[Xfx,W4r,List.mem_filter];exact⟨e,⟨by simpa using T,hb⟩,rfl⟩)
  simp[this]
def msk(M:List Nat)(h:List Nat): Nat:=match h with
 | []=>0
 | j::h=>msk M h|||(2^j|||M.getD j 0)
def Xsz(L:List Oper)(sp:Oper->Oper->Bool)(o:Oper)(m:Nat): Nat->List Oper->Bool
 | _,[]=>true
 | k,x::l=>(m.testBit k||Xl8 L x o||sp x o)&&Xsz L sp o m (k+1) l
def Xht(L:List Oper)(sp:Oper->Oper->Bool): List Nat->List Oper->List Oper->Bool
 | _,_,[]=>true
 | M,pre,o::l=>(Xfx o).all (λj=>Nat.blt j pre.length)&&Xsz L sp o (msk M (Xfx o)) 0 pre&&Xht L sp (M++[msk M (Xfx o)]) (pre++[o]) l
def Xot(L:List Oper)(p:Nat->Prop): Prop:=∀m o,L[m]?=some o->p m->∀j∈Xfx o,p j
theorem Xky{L:List Oper}{sp:Oper->Oper->Bool}{o:Oper}{m:Nat}: ∀ {l:List Oper} {k:Nat},Xsz L sp o m k l=true->∀ {q:Nat} {x:Oper},l[q]?=some x->m.testBit (k+q)=true\/Xl8 L x o=true\/sp x o=true
 | [],_,_,q,x,h=>by simp at h
 | y::l,k,i,q,x,h=>by
  simp only[Xsz,W0d,W4e] at i
  cases q with
  | zero=>simp at h;subst h;exact or_assoc.1 i.1
  | succ q =>
   have:=Xky i.2 (q:=q) (x:=x) (by simpa using h)
   rwa[show k+1+q=k+(q+1) by omega] at this
theorem Xwj{M:List Nat}{k:Nat}: ∀ {o:List Nat},(msk M o).testBit k=true->∃j∈o,k=j\/(M.getD j 0).testBit k=true
 | [],h=>by simp[msk] at h
 | j::o,h=>by
  simp only[msk,Nat.testBit_or,W4e] at h
  rcases h with h | h | h
  obtain⟨i,I,O⟩:=Xwj h
  exact⟨i,W1c _ I,O⟩
  rw[Nat.testBit_two_pow] at h
  exact⟨j,W0w ..,.inl (of_decide_eq_true h).symm⟩
  exact⟨j,W0w ..,.inr h⟩
theorem Xkz{L:List Oper}{sp:Oper->Oper->Bool}: ∀ {l pre:List Oper} {M:List Nat},L=pre++l->M.length=pre.length->(∀m o,pre[m]?=some o->∀k,(M.getD m 0).testBit k=true->∀p,Xot L p->(∀j∈Xfx o,p j)->p k)->Xht L sp M pre l=true ->
 ∀ {i:Nat} {o:Oper},pre.length<=i->L[i]?=some o->(∀j∈Xfx o,j<i)/\∀ {k:Nat} {x:Oper},k<i->L[k]?=some x->(∀p,Xot L p->(∀j∈Xfx o,p j)->p k)\/Xl8 L x o=true\/sp x o=true
 | [],pre,M,U,hM,hb,hc,i,o,hi,Z=>by
  have:=Xbe Z
  rw[U] at this;simp at this;omega
 | y::l,pre,M,U,hM,hb,hc,i,o,hi,Z=>by
  simp only[Xht,W0d] at hc
  obtain⟨⟨hc1,hc2⟩,hc3⟩:=hc
  have I:∀k,(msk M (Xfx y)).testBit k=true->∀p,Xot L p->(∀j∈Xfx y,p j)->p k:=by
   intro k O p hp hj
   obtain⟨j,h1,h2⟩:=Xwj O
   rcases h2 with h2 | h2
   rw[h2];exact hj j h1
   have T:j<pre.length:=Xr2 (W1q.1 hc1 j h1)
   have hjo:L[j]?=some pre[j]:=by rw[U,W0q T,W0e T]
   exact hb j _ (W0e T) k h2 p hp (hp j _ hjo (hj j h1))
  by_cases hii:i=pre.length
  subst hii
  have hoy:o=y:=by
   rw[U,W0n (W0a _),W3a] at Z
   simpa using Z.symm
  subst hoy
  refine⟨λj hj=>Xr2 (W1q.1 hc1 j hj),λ{k x} O hx=>?_⟩
  rw[U,W0q O] at hx
  rcases Xky hc2 hx with h | h
  rw[W1l] at h
  exact .inl (I k h)
  exact .inr h
  refine Xkz (l:=l) (pre:=pre++[y]) (M:=M++[msk M (Xfx y)]) (by rw[U];simp) (by simp[hM]) (λm o V k O=>?_) hc3 (by simp;omega) Z
  by_cases hml:m<pre.length
  rw[W0q hml] at V
  rw[W2g,W0q (by omega),<-W2g] at O
  exact hb m o V k O
  have hme:m=pre.length:=by
   have:=Xbe V;simp at this;omega
  subst hme
  rw[W0n (W0a _),W3a] at V
  simp at V;subst V
  rw[W2g,W0n (by omega),hM,W3a] at O
  exact I k O
def Xke(ls:Array Bool): Nat->List Oper->List Oper
 | _,[]=>[]
 | k,o::l=>match ls.getD k false with
  | true=>Xke ls (k+1) l
  | false=>o::Xke ls (k+1) l
theorem Xfg{ls:Array Bool}{i k:Nat}(h:k<ls.size): (ls.setIfInBounds i true).getD k false=if i=k then true else ls.getD k false:=by
 simp only[Array.getD_eq_getD_getElem?,W3z]
 by_cases e:i=k
 subst e;simp[h]
 simp[e]
theorem Xvv{ls:Array Bool}{i:Nat}: ∀ {l:List Oper} {k:Nat},i<k->k+l.length<=ls.size->Xke (ls.setIfInBounds i true) k l=Xke ls k l
 | [],_,_,_=>rfl
 | o::l,k,h,j=>by
  simp only[W1j] at j
  simp only[Xke]
  rw[Xfg (by omega),if_neg (by omega),Xvv (by omega) (by omega)]
theorem Xkd{ls:Array Bool}{i:Nat}{o:Oper}: ∀ {l:List Oper} {k:Nat},k<=i->k+l.length<=ls.size->l[i-k]?=some o->ls.getD i false=false ->
 ∃u v,Xke ls k l=u++o::v/\Xke (ls.setIfInBounds i true) k l=u++v/\∀x∈u,∃q,q+k<i/\l[q]?=some x/\ls.getD (q+k) false=false
 | [],_,_,_,h,_=>by simp at h
 | y::l,k,hk,Z,j,hi=>by
  simp only[W1j] at Z
  by_cases e:k=i
  subst e
  rw[W3a] at j
  simp at j;subst j
  refine⟨[],Xke ls (k+1) l,by simp[Xke,hi],?_,λx I=>by cases I⟩
  simp only[Xke,Xfg (by omega:k<ls.size),if_pos]
  rw[Xvv (by omega) (by omega)];rfl
  obtain⟨u,v,U,V,h3⟩:=Xkd (l:=l) (k:=k+1) (by omega) (by omega) (by rw[show i-k=(i-(k+1))+1 by omega] at j;simpa using j) hi
  have M:(ls.setIfInBounds i true).getD k false=ls.getD k false:=by rw[Xfg (by omega),if_neg (λh=>e h.symm)]
  have O:∀x∈u,∃q,q+k<i/\(y::l)[q]?=some x/\ls.getD (q+k) false=false:=λx I=>by
   obtain⟨q,q1,q2,q3⟩:=h3 x I
   exact⟨q+1,by omega,by simpa using q2,by rw[show q+1+k=q+(k+1) by omega];exact q3⟩
  cases T:ls.getD k false with
  | true=>exact⟨u,v,by simp only[Xke,T];exact U,by simp only[Xke,M,T];exact V,O⟩
  | false =>
   refine⟨y::u,v,by simp only[Xke,T];rw[U];rfl,by simp only[Xke,M,T];rw[V];rfl,λx I=>?_⟩
   rcases W1s.1 I with h | h
   subst h;exact⟨0,by omega,rfl,by simpa using T⟩
   exact O x h
theorem Xrm{ls:Array Bool}: ∀ {l:List Oper} {k:Nat},(∀q,q<l.length->ls.getD (k+q) false=true)->Xke ls k l=[]
 | [],_,_=>rfl
 | o::l,k,h=>by
  have h0:=h 0 (by simp)
  rw[W2e] at h0
  simp only[Xke,h0]
  exact Xrm λq hq=>by have:=h (q+1) (by simp;omega);rwa[show k+(q+1)=k+1+q by omega] at this
section
variable{P:Program}[Gb P]{tb:Nat->Option TI}{W0:GW}{X:Nat->Prop}{θ0:Loc}{n:Nat}
theorem Yg8(hT:∀T ti,tb T=some ti->TyOk P T ti/\∀a c,ti.z≠.pr a c)(hn:n<=1000000/\Gb.g P W0){L:List Oper}{sp:Oper->Oper->Bool}{Z:S->Prop}(D:Dm tb L sp Z){R:S->Prop}{Q:Exit->Act->World->Prop}(hQ:∀a w,Nx W0 X θ0 n R a w->Q .normal a w)
 (hok:(L.all (Xe4 n))=true) (hchk:Xht L sp [] [] L=true):∀(f t:Nat) (ls:Array Bool) (a:Act) (w:World),ls.size=L.length->Xot L (λm=>ls.getD m false=true) ->
 (∃I:List Nat,I.length=f/\I.Nodup/\∀q,q∈I↔q<L.length/\ls.getD q false=false)->Nx W0 X θ0 n (λs=>Z s/\WL P tb true L R (Xke ls 0 L) s) a w ->
 wpOps P L.toArray Q (Region.linearise.go .any L.toArray f t ls []) a w:=by
 intro f
 induction f with
 | zero =>
  rintro t ls a w hs hc ⟨I,hf,_,hq⟩ h
  have hfr:I=[]:=W0m hf
  rw[Xrm (λq hql=>by
   cases e:ls.getD (0+q) false with
   | true=>rfl
   | false =>
    rw[W1l] at e
    have:=(hq q).2 ⟨hql,e⟩
    rw[hfr] at this;cases this)] at h
  exact hQ a w (h.mono λ_ h=>h.2)
 | succ f ih =>
  rintro t ls a w hs hc ⟨I,hf,hnd,hq⟩ h
  have hgo:Region.linearise.go .any L.toArray (f+1) t ls []=match (rdy L ls)[t%(rdy L ls).length]? with | some i=>Region.linearise.go .any L.toArray f (t/(rdy L ls).length) (ls.setIfInBounds i true) [i] | none=>[]:=rfl
  have U:∀ {i:Nat} {o:Oper},L[i]?=some o->(∀j∈Xfx o,j<i)/\∀ {k:Nat} {x:Oper},k<i->L[k]?=some x->(∀p,Xot L p->(∀j∈Xfx o,p j)->p k)\/Xl8 L x o=true\/sp x o=true:=λho =>
   Xkz (L:=L) (l:=L) (pre:=[]) (M:=[]) rfl rfl (λm o hm=>by simp at hm) hchk (W0r _) ho
  have hne:∃i,i∈rdy L ls:=by
   have hlow:∀b,(∃q,q<b/\q∈I)->∃q∈I,∀r,r<q->r ∉ I:=by
    intro b
    induction b with
    | zero=>rintro⟨q,h,_⟩;omega
    | succ b ihb =>
     rintro⟨q,h1,O⟩
     by_cases hb:∃q,q<b/\q∈I
     exact ihb hb
     have:q=b:=by
      by_cases h:q<b
      exact absurd ⟨q,h,O⟩ hb
      omega
     subst this
     exact⟨q,O,λr hr hrf=>hb ⟨r,hr,hrf⟩⟩
   have hmem:∃q,q∈I:=by
    cases I with
    | nil=>simp at hf
    | cons x l=>exact⟨x,W0w ..⟩
   obtain⟨q0,hq0⟩:=hmem
   obtain⟨q,h1,O⟩:=hlow (q0+1) ⟨q0,by omega,hq0⟩
   obtain⟨h3,h4⟩:=(hq q).1 h1
   refine⟨q,(Xvy hs).2 ⟨L[q],W0e h3,h4,λj hj=>?_⟩⟩
   have hjq:=(U (W0e h3)).1 j hj
   cases e:ls.getD j false with
   | true=>rfl
   | false=>exact absurd ((hq j).2 ⟨by omega,e⟩) (O j hjq)
  have hpos:0<(rdy L ls).length:=by
   obtain⟨i,hi⟩:=hne
   exact List.length_pos_of_mem hi
  have hlt:t%(rdy L ls).length<(rdy L ls).length:=W2o _ hpos
  rw[hgo,W0e hlt]
  simp only[]
  generalize hi:(rdy L ls)[t%(rdy L ls).length]=i
  have hir:i∈rdy L ls:=by rw[<-hi];exact W6z hlt
  obtain⟨o,ho,hif,hdep⟩:=(Xvy hs).1 hir
  rw[Yle]
  obtain⟨u,v,r1,r2,r3⟩:=Xkd (ls:=ls) (i:=i) (o:=o) (l:=L) (k:=0) (W0r _) (by omega) (by simpa using ho) hif
  rw[r1] at h
  have hu:∀k∈u,Ind L sp k o:=λx hx=>by
   obtain⟨q,q1,q2,q3⟩:=r3 x hx
   rcases(U ho).2 (by simpa using q1) q2 with h | h
   have:=h _ hc hdep
   simp at q3 this
   rw[this] at q3;cases q3
   exact⟨W0h q2,h⟩
  have hd:∀k∈u,Xe4 n k=true:=λx hx=>by
   obtain⟨q,_,q2,_⟩:=r3 x hx
   exact W1q.1 hok x (W0h q2)
  have hp:=Yrw hT hn D (W0h ho) hu hd h
  rw[<-r2] at hp
  have hw:=Yhu (Q:=Q) hT hn (W1q.1 hok o (W0h ho)) hp
  have hil:i<L.length:=Xbe ho
  have next:∀a w,Nx W0 X θ0 n (λs=>Z s/\WL P tb true L R (Xke (ls.setIfInBounds i true) 0 L) s) a w->wpOps P L.toArray Q (Region.linearise.go .any L.toArray f (t/(rdy L ls).length) (ls.setIfInBounds i true) []) a w:=by
   intro a w hN
   refine ih _ _ a w (by simpa using hs) (λm x hm V j hj=>?_) ⟨I.erase i,?_,hnd.erase i,λq=>?_⟩ hN
   have hx:=(U hm).1 j hj
   have hmL:=Xbe hm
   have V:(ls.setIfInBounds i true).getD m false=true:=V
   show (ls.setIfInBounds i true).getD j false=true
   rw[Xfg (by omega)] at V |-
   by_cases e:i=j
   rw[if_pos e]
   rw[if_neg e]
   by_cases e2:i=m
   subst e2
   rw[ho] at hm;injection hm with hm;subst hm
   exact hdep j hj
   rw[if_neg e2] at V
   exact hc m x hm V j hj
   rw[List.length_erase_of_mem ((hq i).2 ⟨hil,hif⟩),hf];rfl
   rw[hnd.mem_erase_iff,hq q]
   constructor
   rintro⟨h1,O,h3⟩
   exact⟨O,by rw[Xfg (by omega),if_neg (λe=>h1 e.symm)];exact h3⟩
   rintro⟨h1,O⟩
   rw[Xfg (by omega)] at O
   by_cases e:i=q
   rw[if_pos e] at O;cases O
   rw[if_neg e] at O;exact⟨λh=>e h.symm,h1,O⟩
  have hoa:L.toArray[i]?=some o:=by simpa using ho
  simp only[List.reverse_cons,List.reverse_nil,W3s,List.singleton_append,wpOps,hoa]
  split at hw
  . rename_i hwn
    rw[if_pos hwn]
    exact .inl (Oper.wp_mono (λa w h=>next a w h) hw)
  . rename_i hwn
    rw[if_neg hwn]
    exact next _ _ hw
end
end
section
inductive Kt where
 | c (c:Code)
 | b (id:Nat)
 | l (I:S->Prop)
structure Cx where
 P:Program
 gb:Gb P
 tb:Nat->Option TI
 hT:∀T ti,tb T=some ti->TyOk P T ti/\∀a c,ti.z≠.pr a c
 mx:Mx P
 n:Nat
 hn:n<=1000000
 W0:GW
 X:Nat->Prop
 θ0:Loc
 fin:Exit->Act->World->Prop
 hg:gb.g W0
attribute [instance] Cx.gb
abbrev Cx.Nx(c:Cx)(R:S->Prop)(a:Act)(w:World): Prop:=Vm.Nx c.W0 c.X c.θ0 c.n R a w
def Xs6(c:Cx): List Kt->Exit->Act->World->Prop
 | [],e,a,w=>c.fin e a w
 | .c x::K,e,a,w=>match e with
  | .normal=>x.wp c.P (Xs6 c K) a w
  | e=>Xs6 c K e a w
 | .b id::K,e,a,w=>match e with
  | .exit h=>if h=id then Xs6 c K .normal a w else Xs6 c K (.exit h) a w
  | e=>Xs6 c K e a w
 | .l I::K,e,a,w=>match e with
  | .normal=>c.Nx I a w
  | e=>Xs6 c K e a w
def J(c:Cx)(K:List Kt)(s:S): Prop:=∀a w,c.Nx (λs'=>s'=s) a w->Xs6 c K .normal a w
def Yc7(id:Nat): List Kt->Option (List Kt)
 | []=>none
 | .b i::K=>match Nat.beq id i with
  | true=>some K
  | false=>Yc7 id K
 | _::K=>Yc7 id K
section
variable{c:Cx}{K:List Kt}{s:S}
theorem J.use{a:Act}{w:World}(h:c.Nx (J c K) a w): Xs6 c K .normal a w:=by
 obtain⟨s,W,θ,i,j,o,I⟩:=h
 exact I a w ⟨s,W,θ,i,j,o,rfl⟩
theorem J.seq{x y:Code}(k:J c (.c x::.c y::K) s): J c (.c (.seq x y)::K) s:=λa w ha=>wp_seq (wp_mono (k a w ha) λe a w h=>by cases e<;>exact h)
theorem J.skip(k:J c K s): J c (.c .skip::K) s:=λa w ha=>wp_skip (k a w ha)
theorem J.block{id:Nat}{x:Code}(k:J c (.c x::.b id::K) s): J c (.c (.block id x)::K) s:=λa w ha=>wp_block (wp_mono (k a w ha) λe a w h=>by cases e<;>exact h)
theorem J.bend{id:Nat}(k:J c K s): J c (.b id::K) s:=λa w ha=>k a w ha
theorem Xxq{id:Nat}{K K':List Kt}(h:Yc7 id K=some K'){a:Act}{w:World}(hd:Xs6 c K' .normal a w): Xs6 c K (.exit id) a w:=by
 induction K with
 | nil=>simp[Yc7] at h
 | cons x K j =>
  cases x with
  | c c=>exact j h
  | l I=>exact j h
  | b i =>
   by_cases hi:id=i
   subst hi
   simp[Yc7] at h
   subst h
   simp[Xs6]
   exact hd
   simp only[Yc7,Ydi hi] at h
   simp only[Xs6,if_neg hi]
   exact j h
theorem J.exit{id:Nat}{K':List Kt}(h:Yc7 id K=some K')(k:J c K' s): J c (.c (.exit id)::K) s:=λa w ha=>wp_exit (Xxq h (k a w ha))
theorem Ya7{K:List Kt}{a:Act}{w:World}(h:c.fin .ret a w): Xs6 c K .ret a w:=by
 induction K with
 | nil=>exact h
 | cons x K i=>cases x<;>exact i
theorem J.ret(k:∀a w,c.Nx (λs'=>s'=s) a w->c.fin .ret a w): J c (.c .ret::K) s:=λa w ha=>wp_ret (Ya7 (k a w ha))
theorem J.cond{x:Operand}{p q:Code}{pr:Prop}{v:AV}(I:Xb6 s.1 x=some v)(hp:asP v=some pr)(M:pr->J c (.c p::K) s)(O:¬pr->J c (.c q::K) s): J c (.c (.cond x p q)::K) s:=by
 intro a w ha
 have i:=ha
 obtain⟨s',W,θ,V,T,U,rfl⟩:=i
 obtain⟨b,j,o⟩:=Yhm hp (Xjm T I).1
 cases b with
 | true=>exact wp_cond_true j (M (o.1 rfl) a w ha)
 | false=>exact wp_cond_false j (O (λh=>by cases o.2 h) a w ha)
theorem J.condU{x:Operand}{p q:Code}{pr:Prop}(j:Xb6 s.1 x=some (.ub pr))(o:pr->J c (.c p::K) s)(I:J c (.c q::K) s): J c (.c (.cond x p q)::K) s:=by
 intro a w ha
 have h:=ha
 obtain⟨s',W,θ,V,M,O,rfl⟩:=h
 obtain⟨cs,⟨b,T,U⟩,i⟩:=(Xjm M j).1
 rw[T] at i
 cases b with
 | true=>exact wp_cond_true i (o (U rfl) a w ha)
 | false=>exact wp_cond_false i (I a w ha)
theorem J.condT{x:Operand}{p q:Code}(i:Xb6 s.1 x=some (.b true))(k:J c (.c p::K) s): J c (.c (.cond x p q)::K) s:=J.cond i rfl (λ_=>k) (λh=>absurd rfl h)
theorem J.condF{x:Operand}{p q:Code}(i:Xb6 s.1 x=some (.b false))(k:J c (.c q::K) s): J c (.c (.cond x p q)::K) s:=J.cond i rfl (λh=>by cases h) (λ_=>k)
def Xpg(n:Nat): List Oper->Bool
 | []=>true
 | o::l=>match Xe4 n o with
  | true=>Xpg n l
  | false=>false
theorem Xi2{n:Nat}: ∀ {l:List Oper},Xpg n l=true->(l.all (Xe4 n))=true
 | [],_=>rfl
 | o::l,h=>by
  simp only[Xpg] at h
  split at h
  rename_i i;rw[List.all_cons,i,Xi2 h];rfl
  cases h
theorem J.reg{id:Nat}{L:List Oper}(i:Xpg c.n L=true)(k:WL c.P c.tb false L (J c K) L s): J c (.c (.region id L.toArray false)::K) s:=by
 intro a w ha
 refine wp_region ?_
 have:=Xy6 (Q:=Xs6 c K) c.hT ⟨c.hn,c.hg⟩ (λa w h=>J.use h) L 0 a w rfl (Xi2 i) (ha.mono λs' e=>by rw[e];exact k)
 rw[<-List.range_eq_range'] at this
 simpa using this
theorem Nx.tick{R:S->Prop}{a:Act}{w:World}(h:c.Nx R a w): c.Nx R a w.drew:=by
 obtain⟨s,W,θ,j,i,o,I⟩:=h
 exact⟨s,W.tick,θ,by rw[<-j];rfl,i.step0 (Stp.tick i.obs),o,I⟩
theorem J.draw{id:Nat}{L:List Oper}{sp:Oper->Oper->Bool}{Z:S->Prop}(D:Dm c.tb L sp Z)(O:Z s)(M:Xpg c.n L=true)(j:Xht L sp [] [] L=true)(k:WL c.P c.tb true L (J c K) L s): J c (.c (.region id L.toArray true)::K) s:=by
 intro a w ha
 refine wp_region_draw λt=>?_
 have T:Region.schedule (c.P.follows .mixedOrders) L.toArray t=Region.linearise.go .any L.toArray L.length t (Array.replicate L.length false) []:=by
  rw[c.mx.h]
  simp[Region.schedule,Region.linearise]
 rw[T]
 have hf:∀i,(Array.replicate L.length false).getD i false=false:=by
  intro i
  by_cases h:i<L.length<;>simp[Array.getD,h]
 have I:∀(l:List Oper) k,Xke (Array.replicate L.length false) k l=l:=by
  intro l
  induction l with
  | nil=>intro k;rfl
  | cons o l U=>intro k;simp only[Xke,hf];rw[U]
 refine Yg8 c.hT ⟨c.hn,c.hg⟩ D (λa w h=>J.use h) (Xi2 M) j L.length t _ a _ (by simp) (λm o _ h=>by have h:(Array.replicate L.length false).getD m false=true:=h;rw[hf] at h;cases h) ⟨List.range L.length,by simp,List.nodup_range,λq=>by rw[hf];simp⟩ ?_
 rw[I]
 exact Nx.tick (ha.mono λs' e=>by rw[e];exact⟨O,k⟩)
theorem Xks(p:Nat->Prop)(h:∃n,p n): ∃n,p n/\∀m,p m->n<=m:=by
 obtain⟨n,I⟩:=h
 induction n using Nat.strongRecOn with
 | _ n M =>
  by_cases o:∃m,m<n/\p m
  obtain⟨m,i,hp⟩:=o;exact M m i hp
  exact⟨n,I,λm i=>W4n λj=>o ⟨m,j,i⟩⟩
open Classical in
noncomputable def least(p:Nat->Prop): Nat:=if h:∃n,p n then Classical.choose (Xks p h) else 0
theorem Xko{p:Nat->Prop}(h:∃n,p n): p (least p)/\∀m,p m->least p<=m:=by
 unfold least;rw[dif_pos h];exact Classical.choose_spec (Xks p h)
theorem J.loop{x:Code}(I:S->Nat->Prop)(i:Nat)(h0:I s i)(k:∀s i,I s i->J c (.c x::.l (λs'=>∃j,j<i/\I s' j)::K) s): J c (.c (.loop x)::K) s:=by
 intro a w ha
 refine wp_loop (λa w=>∃i,c.Nx (λs=>I s i) a w) (λa w=>least λi=>c.Nx (λs=>I s i) a w) ⟨i,ha.mono λs' e=>by rw[e];exact h0⟩ ?_
 rintro a w hI
 obtain⟨⟨s,W,θ,hw,hs,M,hi⟩,hmin⟩:=Xko (p:=λi=>c.Nx (λs=>I s i) a w) hI
 refine wp_mono (k s _ hi a w ⟨s,W,θ,hw,hs,M,rfl⟩) ?_
 intro e a' w' h
 cases e<;>first | exact h | skip
 obtain⟨s',W',O,T,U,o,j,V,Z⟩:=h
 have hN:c.Nx (λs=>I s j) a' w':=⟨s',W',O,T,U,o,Z⟩
 exact⟨⟨j,hN⟩,W2a ((Xko (p:=λi=>c.Nx (λs=>I s i) a' w') ⟨j,hN⟩).2 _ hN) V⟩
theorem J.at'{I:S->Prop}(h:I s): J c (.l I::K) s:=λa w ha=>ha.mono λs' e=>by rw[e];exact h
theorem J.cut{x:Code}(I:S->Prop)(i:J c (.c x::.l I::K) s)(j:∀s,I s->J c K s): J c (.c x::K) s:=by
 intro a w ha
 refine wp_mono (i a w ha) ?_
 intro e M O h
 cases e<;>first | exact h | skip
 exact J.use (h.mono λs o=>j s o)
def Xy1(s:S): Prop:=(∀t v i,s.1 t=some v->v.ids i->∃y,s.2 i=some y)/\∀o x i,s.2 o=some x->x.ids i->∃y,s.2 i=some y
theorem J.sub(s':S)(V:∀t v,s'.1 t=some v->s.1 t=some v)(j:∀o x,s'.2 o=some x->s.2 o=some x)(O:Xy1 s')(k:J c K s'): J c K s:=by
 rintro a w ⟨s0,W,θ,Z,h,I,rfl⟩
 exact k a w ⟨s',W,θ,Z,⟨h.fm,⟨h.rel.defers,h.rel.size,λt v ht=>h.rel.has t v (V t v ht)⟩,
  ⟨λo x i=>h.obs.r o x (j o x i),λo x b i=>h.obs.new o x b (j o x i),λo T x U b i M=>h.obs.dis o T x U b (j o x i) (j T U M),O.2⟩,O.1⟩,I,rfl⟩
end
end
section
def θe: Loc:=λ_=>(none,0)
abbrev Env:=List (Nat×AV)
abbrev Hpl:=List (Nat×Ob)
def look{α:Type _}: List (Nat×α)->Nat->Option α
 | [],_=>none
 | (s,v)::e,t=>match Nat.beq t s with
  | true=>some v
  | false=>look e t
def Xl2: AV->Bool
 | .st a=>Xl2 a
 | .pr a c=>Xl2 a&&Xl2 c
 | .tup a=>Xl2 a
 | .ptr _ _ | .own _ _ _ _ | .ow3 _ _ _ _ | .gr _ _ _ | .el _ _ _ _ | .fn _ _ | .ap _ _ | .cx _ _ _=>false
 | .fm _ a=>Xl2 a
 | _=>true
theorem Xl1: ∀ {a:AV},Xl2 a=true->∀i,¬a.ids i:=by
 intro a
 induction a with
 | st a j=>exact λh i=>j h i
 | tup a j=>exact λh i=>j h i
 | fm f a j=>exact λh i=>j h i
 | pr a c o I =>
  intro h i hi
  simp only[Xl2,W0d] at h
  exact hi.elim (o h.1 i) (I h.2 i)
 | _=>intro h i hi;first | exact hi | cases h
def Ret(W0:GW)(Q:AV->Prop)(e:Ending)(h:World): Prop:=∃W' v u,e=.returned u/\W'.w=h/\Fm W0 W' (λ_=>False)/\AV.V W' θe v u/\(∀i,¬v.ids i)/\Q v
def C(P:Program)[Gb P](f:FuncId)(args:List AV)(Q:AV->Prop): Prop:=Yp3 P f/\∀W h,Gb.g P W->Xjy W θe args h->Calls P f h.toArray W.w (Ret W Q)
theorem Xjy.mono{W W':GW}{θ θ':Loc}(l:LeF W W'): ∀ {asx:List AV} {vs:List Value},(∀a∈asx,∀i,a.ids i->θ' i=θ i)->Xjy W θ asx vs->Xjy W' θ' asx vs
 | [],[],_,_=>trivial
 | a::asx,v::vs,hi,h=>⟨h.1.mono l (hi a (W0w ..)),h.2.mono l λa ha=>hi a (W1c _ ha)⟩
 | [],_::_,_,h=>h.elim
 | _::_,[],_,h=>h.elim
theorem C.cs{P:Program}[Gb P]{f:FuncId}{args:List AV}{Q:AV->Prop}(h:C P f args Q)(O:(args.all Xl2)=true)(g:Hp): CS P f args g λv g'=>g'=g/\Q v:=by
 refine⟨h.1,λN W θ T U j hN _ ha=>(h.2 W T U (ha.mono (LeF.refl W) λa V i hi=>absurd hi (Xl1 (W1q.1 O a V) i))).mono ?_⟩
 rintro e w' ⟨W',v,u,rfl,rfl,hf,Z,hi,hq⟩
 refine⟨W',θ,v,u,g,rfl,rfl,?_,Z.mono (LeF.refl _) λi h=>absurd h (hi i),λi h=>absurd h (hi i),rfl,hq⟩
 exact {
  os:=hf.os,out:=hf.out,tape:=hf.tape,size:=hf.size
  same:=λb hb _=>hf.same b hb id
  A:=λb hb _ i=>hf.A b hb id i
  le:=hf.le
  th:=λ_ _ _=>rfl
  hi:=λ_ _=>rfl
  obs:=⟨λo x I=>(j.r o x I).keep hf.le rfl (λ_ _=>rfl) λM b hb=>⟨hf.same b (j.lt I M hb) id,λi hA=>(hf.A b (j.lt I M hb) id i).2 hA⟩,j.new,j.dis,j.ids⟩
  dom:=λ_ y h=>⟨y,h⟩ }
def Xcl{α:Type _}(H:List (Nat×α))(i:Nat): Bool:=match look H i with
 | some _=>true
 | none=>false
def Xds(H:Hpl): AV->Bool
 | .st a=>Xds H a
 | .pr a c=>Xds H a&&Xds H c
 | .tup a=>Xds H a
 | .fm _ a=>Xds H a
 | .ptr o _ | .own o _ _ _ | .ow3 o _ _ _ | .gr o _ _ | .el o _ _ _ | .fn _ o | .ap o _ | .cx o _ _=>Xcl H o
 | _=>true
theorem Xgo{H:Hpl}: ∀ {a:AV},Xds H a=true->∀i,a.ids i->∃y,look H i=some y:=by
 have O:∀o,Xcl H o=true->∃y,look H o=some y:=λo h=>by
  unfold Xcl at h;split at h
  rename_i y T;exact⟨y,T⟩
  cases h
 intro a
 induction a with
 | st a j=>exact j
 | tup a j=>exact j
 | fm f a j=>exact j
 | pr a c I M =>
  intro h i hi
  simp only[Xds,W0d] at h
  exact hi.elim (I h.1 i) (M h.2 i)
 | _=>intro h i hi;first | exact hi.elim | (have hi:i=_:=hi;subst hi;exact O _ h)
inductive Fit (g:Hp) (K:Hpl):AV->AV->Prop where
 | rf {a:AV} (h:Xds K a=true):Fit g K a a
 | eq {x y:D} (h:x=y):Fit g K (.d x) (.d y)
 | nil {sz:Nat} {ys:List D} (h:ys=[]):Fit g K .nil (.d (.sl sz ys))
 | lit {sz:Nat} {xs ys:List D} (h:xs=ys):Fit g K (.lit sz xs) (.d (.sl sz ys))
 | gr {o sz:Nat} {xs ys:List D} (h:xs=ys):Fit g K (.gr o sz xs) (.d (.sl sz ys))
 | own {o sz l n:Nat} {xs ys:List D} (h:g o=some (.arr sz xs)) (hn:l+n<=xs.length) (hy:(xs.drop l).take n=ys) (hk:Xcl K o=false:=by exact rfl):Fit g K (.own o sz l n) (.d (.sl sz ys))
 | ow3 {o sz l n:Nat} {xs ys:List D} (h:g o=some (.arr sz xs)) (hn:l+n<=xs.length) (hy:(xs.drop l).take n=ys) (hk:Xcl K o=false:=by exact rfl):Fit g K (.ow3 o sz l n) (.d (.sl sz ys))
 | bq {c:Bool} {p:Prop} (h:c=true↔p):Fit g K (.b c) (.q p)
 | qq {p q:Prop} (h:p↔q):Fit g K (.q p) (.q q)
 | bp {c:Bool} {p:Prop} (h:c=true↔p):Fit g K (.b c) (.b (dc p))
 | bd {c e:Bool} (h:c=e):Fit g K (.b c) (.d (.bool e))
 | qd {p:Prop} {e:Bool} (h:p↔e=true):Fit g K (.q p) (.d (.bool e))
 | dq {c:Bool} {p:Prop} (h:c=true↔p):Fit g K (.d (.bool c)) (.q p)
 | st {a b:AV} (h:Fit g K a b):Fit g K (.st a) (.st b)
 | sd {a:AV} {x:D} (h:Fit g K a (.d x)):Fit g K (.st a) (.d (.st x))
 | pr {a b c e:AV} (h:Fit g K a b) (k:Fit g K c e):Fit g K (.pr a c) (.pr b e)
 | pd {a c:AV} {x y:D} (h:Fit g K a (.d x)) (k:Fit g K c (.d y)):Fit g K (.pr a c) (.d (.pr x y))
inductive FitT (g:Hp) (K:Hpl):AV->AV->Prop where
 | one {a b:AV} (h:Fit g K a b) (ha:∀u v,a≠.pr u v) (hb:∀u v,b≠.pr u v):FitT g K a b
 | cons {a b c e:AV} (h:Fit g K a b) (k:FitT g K c e):FitT g K (.pr a c) (.pr b e)
inductive FitR (g:Hp) (K:Hpl):AV->AV->Prop where
 | one {a b:AV} (h:Fit g K a b) (ha:plain a=true) (hb:plain b=true):FitR g K a b
 | tup {a b:AV} (h:FitT g K a b):FitR g K (.tup a) (.tup b)
structure Exi (W W':GW) (N:Nat->Prop) (θ:Loc) (g:Hp) (K:Hpl):Prop where
 o:Obs W θ N g
 l:LeF W W'
 n:∀o x b,g o=some x->x.live=true->(θ o).1=some b->Xcl K o=false->∀i v,W.w.cell? ⟨b,i,none⟩=some v->Fr W' b i v
theorem Yat{W W':GW}{N:Nat->Prop}{θ:Loc}{g:Hp}{K:Hpl}(E:Exi W W' N θ g K){a b:AV}(h:Fit g K a b): (∀ {cs:List Value},AV.C W θ a cs->AV.C W' θ b cs)/\a.ag=b.ag/\∀i,b.ids i->∃y,look K i=some y:=by
 induction h with
 | rf h=>exact⟨λj=>AV.c_mono E.l _ (λ_ _=>rfl) j,rfl,Xgo h⟩
 | eq h=>subst h;exact⟨λj=>D.mono E.l _ j,rfl,λ_ h=>h.elim⟩
 | nil h=>subst h;exact⟨λ⟨p,e⟩=>⟨p,0,e,W0a _,by decide,.inl rfl⟩,rfl,λ_ h=>h.elim⟩
 | @lit sz xs ys h =>
  subst h
  exact⟨λ{cs} j=>D.mono E.l (.sl sz xs) (Xm2 (θ:=θ) (z:=.sl sz []) (a:=.lit sz xs) rfl j),rfl,λ_ h=>h.elim⟩
 | @gr o sz xs ys h =>
  subst h
  exact⟨λ{cs} j=>D.mono E.l (.sl sz xs) (Xm2 (θ:=θ) (z:=.sl sz []) (a:=.gr o sz xs) rfl j),rfl,λ_ h=>h.elim⟩
 | @own o sz l n xs ys h hn hy hk =>
  subst hy
  refine⟨λ{cs} j=>?_,rfl,λ_ h=>h.elim⟩
  obtain⟨b,p,T,Z,h3,e,h5⟩:=j
  obtain⟨b',bs,T',r1,r2,r3,r4,r5,r6,r7⟩:=E.o.r _ _ h
  rw[T] at r1;injection r1 with r1;subst r1
  have I:((xs.drop l).take n).length=n:=by simp;omega
  refine⟨p,(θ o).2-l,by rw[I];exact e,by omega,by omega,?_⟩
  rcases W2t n with M | M
  exact .inl (W5b.1 (by rw[I,M]))
  refine .inr ⟨b,l*sz,h5 (by omega),?_⟩
  have O:D.Row W' b sz 0 xs:=(AtL.mono E.l (sz:=sz) (xs:=xs) (cs:=bs) r6).row λq v _ hv=>by
   rw[W1l]
   exact E.n o _ b h rfl T hk q v (by rw[Xbd r2];exact hv)
  have:=D.row_sub O l n
  rwa[W1l] at this
 | @ow3 o sz l n xs ys h hn hy hk =>
  subst hy
  refine⟨λ{cs} j=>?_,rfl,λ_ h=>h.elim⟩
  obtain⟨b,p,T,Z,h3,e,h5⟩:=j
  obtain⟨b',bs,T',r1,r2,r3,r4,r5,r6,r7⟩:=E.o.r _ _ h
  rw[T] at r1;injection r1 with r1;subst r1
  have I:((xs.drop l).take n).length=n:=by simp;omega
  refine⟨p,n,by rw[I];exact e,by omega,by omega,?_⟩
  rcases W2t n with M | M
  exact .inl (W5b.1 (by rw[I,M]))
  refine .inr ⟨b,l*sz,h5 (by omega),?_⟩
  have O:D.Row W' b sz 0 xs:=(AtL.mono E.l (sz:=sz) (xs:=xs) (cs:=bs) r6).row λq v _ hv=>by
   rw[W1l]
   exact E.n o _ b h rfl T hk q v (by rw[Xbd r2];exact hv)
  have:=D.row_sub O l n
  rwa[W1l] at this
 | bq h=>exact⟨λj=>⟨_,j,h⟩,rfl,λ_ h=>h.elim⟩
 | qq h=>exact⟨λ⟨c,e,hp⟩=>⟨c,e,hp.trans h⟩,rfl,λ_ h=>h.elim⟩
 | @bp c p h =>
  have:c=dc p:=W4w.2 (h.trans Xaj.symm)
  subst this
  exact⟨λj=>j,rfl,λ_ h=>h.elim⟩
 | bd h=>subst h;exact⟨λj=>j,rfl,λ_ h=>h.elim⟩
 | @qd p e h =>
  refine⟨λ⟨c,e1,hp⟩=>?_,rfl,λ_ h=>h.elim⟩
  have:c=e:=W4w.2 (hp.trans h)
  subst this;exact e1
 | dq h=>exact⟨λj=>⟨_,j,h⟩,rfl,λ_ h=>h.elim⟩
 | st h ih=>exact⟨λj=>ih.1 j,rfl,ih.2.2⟩
 | sd h ih=>exact⟨λj=>ih.1 j,rfl,λ_ h=>h.elim⟩
 | pr h k U V=>exact⟨λ⟨u,v,e,T,Z⟩=>⟨u,v,e,U.1 T,V.1 Z⟩,rfl,λi hi=>hi.elim (U.2.2 i) (V.2.2 i)⟩
 | pd h k U V=>exact⟨λ⟨u,v,e,T,Z⟩=>⟨u,v,e,U.1 T,V.1 Z⟩,rfl,λ_ h=>h.elim⟩
theorem Yd1{W W':GW}{N:Nat->Prop}{θ:Loc}{g:Hp}{K:Hpl}(E:Exi W W' N θ g K){a b:AV}(h:Fit g K a b){v:Value}(i:AV.V1 W θ a v): AV.V1 W' θ b v:=by
 obtain⟨cs,j,e⟩:=i
 obtain⟨o,I,M⟩:=Yat E h
 exact⟨cs,o j,by rw[e,I]⟩
theorem Yo9{W W':GW}{N:Nat->Prop}{θ:Loc}{g:Hp}{K:Hpl}(E:Exi W W' N θ g K){a b:AV}(h:FitT g K a b): (∀ {vs:List Value},AV.T W θ a vs->AV.T W' θ b vs)/\∀i,b.ids i->∃y,look K i=some y:=by
 induction h with
 | @one a b h ha hb =>
  refine⟨λ{vs} j=>?_,(Yat E h).2.2⟩
  by_cases o:a=.un\/b=.un
  have:a=.un/\b=.un:=by
   rcases o with rfl | rfl
   cases h;exact⟨rfl,rfl⟩
   cases h;exact⟨rfl,rfl⟩
  obtain⟨rfl,rfl⟩:=this
  match vs,j with
  | [],_=>trivial
  | [v],⟨_,h,_⟩=>exact h.elim
  have M:a≠.un:=λe=>o (.inl e)
  have O:b≠.un:=λe=>o (.inr e)
  have I:∀ {W:GW} {θ:Loc} {a:AV},a≠.un->(∀u v,a≠.pr u v)->(AV.T W θ a vs↔∃v,vs=[v]/\AV.V1 W θ a v):=by
   intro W θ a o ha
   cases a<;>first | exact absurd rfl (ha _ _) | exact absurd rfl o | skip
   all_goals
    match vs with
    | []=>exact⟨λh=>h.elim,λ⟨v,h,_⟩=>by cases h⟩
    | [v]=>exact⟨λh=>⟨v,rfl,h⟩,λ⟨w,h,k⟩=>by injection h with h;subst h;exact k⟩
    | _::_::_=>exact⟨λh=>h.elim,λ⟨v,h,_⟩=>by cases h⟩
  obtain⟨v,e,V⟩:=(I M ha).1 j
  exact(I O hb).2 ⟨v,e,Yd1 E h V⟩
 | cons h k U =>
  refine⟨λ{vs} j=>?_,λi hi=>hi.elim ((Yat E h).2.2 i) (U.2 i)⟩
  match vs,j with
  | v::vs,j=>exact⟨Yd1 E h j.1,U.1 j.2⟩
theorem Ygw{W W':GW}{N:Nat->Prop}{θ:Loc}{g:Hp}{K:Hpl}(E:Exi W W' N θ g K){a b:AV}(h:FitR g K a b){v:Value}(I:AV.V W θ a v): AV.V W' θ b v/\∀i,b.ids i->∃y,look K i=some y:=by
 cases h with
 | one h ha hb =>
  obtain⟨cs,M,e⟩:=V_c I (λ_ e=>by subst e;cases ha) (λe=>by subst e;cases ha)
  obtain⟨j,o,O⟩:=Yat E h
  have:=Ymu (j M)
  rw[<-o,<-e] at this
  exact⟨this,O⟩
 | tup h =>
  obtain⟨T,e,U⟩:=I
  obtain⟨j,o⟩:=Yo9 E h
  exact⟨⟨T,e,j U⟩,o⟩
def Ynb(tb:Nat->Option TI)(s:S): ResultVar->Option AV
 | .tmp t=>match s.1 t with
  | some a=>match plain a with
   | true=>some a
   | false=>none
  | none=>none
 | .cell t T=>match tb T,s.1 t with
  | some h,some (.ptr o 0)=>match s.2 o with
   | some (.var a)=>match plain a&&Yau h.z.size h.z.ag a with
    | true=>some a
    | false=>none
   | _=>none
  | _,_=>none
def Xtj(tb:Nat->Option TI)(s:S): List ResultVar->Option (List AV)
 | []=>some []
 | r::l=>match Ynb tb s r,Xtj tb s l with
  | some a,some asx=>some (a::asx)
  | _,_=>none
def mkT: List AV->AV
 | []=>.un
 | [a]=>a
 | a::l=>.pr a (mkT l)
def Xy3(tb:Nat->Option TI)(s:S)(h:List ResultVar): Option AV:=match h,Xtj tb s h with
 | [_],some [a]=>some a
 | _::_::_,some asx=>some (.tup (mkT asx))
 | [],some []=>some (.tup .un)
 | _,_=>none
def Xrk(tmps:Array Value): ResultVar->Sem Value
 | .tmp t=>pure (tmps.getD t undef)
 | .cell a t=>do loadVar t (<-asAddr (tmps.getD a undef))
section
variable{c:Cx}{K:List Kt}{s:S}
theorem Xz5{W:GW}{θ:Loc}{a:AV}{v:Value}(h:AV.V W θ a v)(hp:plain a=true): AV.V1 W θ a v:=V_c h (λ_ e=>by subst e;cases hp) (λe=>by subst e;cases hp)
theorem Xzx{W0:GW}{X:Nat->Prop}{n:Nat}{a:Act}{W:GW}{θ:Loc}(hT:∀T ti,c.tb T=some ti->TyOk c.P T ti/\∀a c,ti.z≠.pr a c)(i:Sat W0 X n s a W θ){r:ResultVar}{v:AV}(h:Ynb c.tb s r=some v):
 ∃u,(Xrk a.tmps r).run c.P W.w=.ok u W.w/\AV.V1 W θ v u/\plain v=true:=by
 cases r with
 | tmp t =>
  simp only[Ynb] at h
  split at h<;>try cases h
  rename_i b hb
  split at h<;>cases h
  rename_i hp
  exact⟨_,rfl,Xz5 (i.rel.has t _ hb) hp,hp⟩
 | cell t T =>
  simp only[Ynb] at h
  split at h<;>try cases h
  rename_i ti o I ht
  split at h<;>try cases h
  rename_i b hg
  split at h<;>cases h
  rename_i hp
  rw[W0d] at hp
  obtain⟨M,O⟩:=hp
  obtain⟨V,Z⟩:=Xdt O
  obtain⟨hk,U⟩:=hT _ _ I
  obtain⟨bb,h1,e⟩:=Xj4 (i.rel.has t _ ht)
  obtain⟨b',cs,T',r1,r2,r3,r4⟩:=i.obs.r _ _ hg
  rw[h1] at r1;injection r1 with r1;subst r1
  have:=Xiv hk (off:=0) r3 V Z (λe=>by rw[V];exact ag1 hk (by rw[<-Z];exact e) U) (λj u hj=>by rw[Xbd r2,W1l];exact hj)
  refine⟨_,?_,Ymv r3,M⟩
  simp only[Xrk,e,asAddr]
  rw[Sem.run_bind]
  show Result.andThen (Result.ok _ _) _=_
  simp only[Result.andThen_ok]
  exact this
theorem Xm9{W0:GW}{X:Nat->Prop}{n:Nat}{a:Act}{W:GW}{θ:Loc}(j:∀T ti,c.tb T=some ti->TyOk c.P T ti/\∀a c,ti.z≠.pr a c)(o:Sat W0 X n s a W θ): ∀ {l:List ResultVar} {asx:List AV},Xtj c.tb s l=some asx ->
 ∃us,(l.mapM (Xrk a.tmps)).run c.P W.w=.ok us W.w/\us.length=asx.length/\asx.length=l.length/\(∀(i:Nat) (v:AV),asx[i]?=some v->∃u,us[i]?=some u/\AV.V1 W θ v u/\plain v=true)
 | [],asx,h=>by simp only[Xtj] at h;injection h with h;subst h;exact⟨[],rfl,rfl,rfl,λi v h=>by simp at h⟩
 | r::l,asx,h=>by
  simp only[Xtj] at h
  split at h<;>cases h
  rename_i b bs I M
  obtain⟨u,O,U,V⟩:=Xzx j o I
  obtain⟨us,Z,k2,k3,k4⟩:=Xm9 j o M
  refine⟨u::us,?_,by simp[k2],by simp[k3],λi v hi=>?_⟩
  rw[List.mapM_cons,Sem.run_bind,O]
  simp only[Result.andThen_ok]
  rw[Sem.run_bind,Z]
  rfl
  cases i with
  | zero=>simp at hi;subst hi;exact⟨u,rfl,U,V⟩
  | succ i=>simpa using k4 i v (by simpa using hi)
theorem Ykl{W:GW}{θ:Loc}: ∀ {asx:List AV} {us:List Value},us.length=asx.length->0<asx.length->(∀(i:Nat) (v:AV),asx[i]?=some v->∃u,us[i]?=some u/\AV.V1 W θ v u/\plain v=true)->AV.T W θ (mkT asx) us
 | [a],[u],_,_,h=>by
  obtain⟨w,j,o,I⟩:=h 0 a rfl
  simp at j;subst j
  show AV.T W θ a [u]
  cases a<;>first | exact o | cases I
 | a::b::l,u::us,M,_,h=>by
  obtain⟨w,j,o,_⟩:=h 0 a rfl
  simp at j;subst j
  exact⟨o,Ykl (asx:=b::l) (by simpa using M) (by simp) λi v hi=>by
   have:=h (i+1) v (by simpa using hi)
   simpa using this⟩
 | [],_,_,h,_=>by simp at h
 | [_],[],h,_,_=>by simp at h
 | [_],_::_::_,h,_,_=>by simp at h
 | _::_::_,[],h,_,_=>by simp at h
theorem Xrj{W0:GW}{X:Nat->Prop}{n:Nat}{a:Act}{W:GW}{θ:Loc}(hT:∀T ti,c.tb T=some ti->TyOk c.P T ti/\∀a c,ti.z≠.pr a c)(hs:Sat W0 X n s a W θ){fn:Func}{v:AV}(h:Xy3 c.tb s fn.results.toList=some v):
 ∃u,(results fn a.tmps).run c.P W.w=.ok u W.w/\AV.V W θ v u:=by
 have M:∀ {asx:List AV},Xtj c.tb s fn.results.toList=some asx->∃us:List Value,(results fn a.tmps).run c.P W.w=.ok (if h:us.toArray.size=1 then us.toArray[0] else .tuple us.toArray) W.w/\us.length=asx.length/\asx.length=fn.results.toList.length/\(∀(i:Nat) (v:AV),asx[i]?=some v->∃u,us[i]?=some u/\AV.V1 W θ v u/\plain v=true):=by
  intro asx j
  obtain⟨us,o,I,Z,U⟩:=Xm9 hT hs j
  refine⟨us,?_,I,Z,U⟩
  unfold results
  have hr:fn.results=fn.results.toList.toArray:=by simp
  have hm:(fn.results.mapM (Xrk a.tmps)).run c.P W.w=.ok us.toArray W.w:=by
   rw[hr,List.mapM_toArray,Sem.run_map,o]
   rfl
  rw[Sem.run_bind]
  erw[hm]
  rfl
 unfold Xy3 at h
 split at h<;>cases h
 rename_i r O j
 obtain⟨us,o,I,Z,U⟩:=M j
 match us,I,o with
 | [u],_,o =>
  obtain⟨w,h1,h2,h3⟩:=U 0 _ rfl
  simp at h1;subst h1
  exact⟨u,by rw[o];rfl,V1.V h2⟩
 rename_i r1 r2 rs asx O j
 obtain⟨us,o,I,Z,U⟩:=M j
 have hl:2<=us.length:=by rw[I,Z,O];simp
 exact⟨.tuple us.toArray,by rw[o,dif_neg (by simp;omega)],us,rfl,Ykl I (by omega) U⟩
 rename_i O j
 obtain⟨us,o,I,Z,U⟩:=M j
 have hl:us=[]:=W0m (by rw[I];rfl)
 subst hl
 exact⟨.tuple #[],by rw[o];rfl,[],rfl,trivial⟩
theorem Xxi{fn:Func}{Q:AV->Prop}(hX:c.X=λ_=>False){v O:AV}(hr:Xy3 c.tb s fn.results.toList=some v)(hf:FitR s.2 [] v O)(hq:Q O){a:Act}{w:World}(h:c.Nx (λs'=>s'=s) a w):
 a.defers=[]/\∃u,(results fn a.tmps).run c.P w=.ok u w/\Ret c.W0 Q (.returned u) w:=by
 obtain⟨s',W,θ,rfl,T,hθ,rfl⟩:=h
 obtain⟨u,hu,hv⟩:=Xrj c.hT T hr
 have j:=T.fm
 have I:=T.obs
 rw[hX] at j I
 refine⟨T.rel.defers,u,hu,?_⟩
 let W':GW:=⟨W.w,c.W0.A,λb i h=>W0y (c.W0.hA b i h) j.size⟩
 have Z:LeF W W':=λb i x M=>⟨M.1,λU=>M.2 ((j.A b (c.W0.hA b i U) id i).2 U)⟩
 have E:Exi W W' (λb=>c.W0.size<=b\/False) θ s'.2 []:=⟨I,Z,λo x b ho hl hb _ i y hy=>⟨hy,λU=>absurd (c.W0.hA b i U) (W6f.2 ((I.new o x b ho hl hb).resolve_right id))⟩⟩
 obtain⟨f1,V⟩:=Ygw E hf hv
 have V:∀i,¬O.ids i:=λi hi=>by obtain⟨y,hy⟩:=V i hi;cases hy
 exact⟨W',O,u,rfl,rfl,⟨j.os,j.out,j.tape,j.size,j.same,λ_ _ _ _=>W4a,λb i x M=>⟨(j.le b i x M).1,M.2⟩⟩,f1.mono (LeF.refl W') λi hi=>absurd hi (V i),V,hq⟩
theorem J.retC{fn:Func}{Q:AV->Prop}(o:c.X=λ_=>False)(i:c.fin=bodyPost c.P fn (Ret c.W0 Q)){v j:AV}(hr:Xy3 c.tb s fn.results.toList=some v)(hf:FitR s.2 [] v j)(hq:Q j): J c (.c .ret::K) s :=
 J.ret λa w h=>by rw[i];exact Xxi o hr hf hq h
theorem J.endC{fn:Func}{Q:AV->Prop}(o:c.X=λ_=>False)(i:c.fin=bodyPost c.P fn (Ret c.W0 Q)){v j:AV}(hr:Xy3 c.tb s fn.results.toList=some v)(hf:FitR s.2 [] v j)(hq:Q j): J c [] s :=
 λa w h=>by show c.fin .normal a w;rw[i];exact Xxi o hr hf hq h
end
def Ybw: Nat->List AV->Ev
 | _,[]=>λ_=>none
 | i,v::h=>upd (Ybw (i+1) h) i v
theorem Xoi{W:GW}: ∀ {asx:List AV} {vs:List Value} {i t:Nat} {v:AV},Xjy W θe asx vs->Ybw i asx t=some v->i<=t/\∃u,vs[t-i]?=some u/\AV.V W θe v u/\v∈asx
 | [],[],i,t,v,_,h=>by simp[Ybw] at h
 | a::asx,u::vs,i,t,v,ha,h=>by
  rcases Xae h with ⟨o,j⟩ | ⟨o,j⟩
  subst o;subst j;exact⟨W0a _,u,by simp,ha.1,W0w ..⟩
  obtain⟨T,w,I,M,O⟩:=Xoi ha.2 j
  exact⟨by omega,w,by rw[show t-i=(t-(i+1))+1 by omega];simpa using I,M,W1c _ O⟩
 | [],_::_,_,_,_,h,_=>h.elim
 | _::_,[],_,_,_,h,_=>h.elim
theorem Xjy.len{W:GW}{θ:Loc}: ∀ {asx:List AV} {vs:List Value},Xjy W θ asx vs->asx.length=vs.length
 | [],[],_=>rfl
 | _::_,_::_,h=>by simp[h.2.len]
 | [],_::_,h=>h.elim
 | _::_,[],h=>h.elim
theorem C.enter {P : Program} [gb : Gb P] [t : Tab P] (hpr : ∀ T ti, t.tb T = some ti → ∀ a c, ti.z ≠ .pr a c) [m : Mx P] {f n : Nat} {fn : Func} {x : Code} {args : List AV} {Q : AV → Prop} (hf : P.funcs[f]? = some fn) (hname : (fn.name == "runtime.NumGoroutine") = false) (hb : fn.body = some x)
 (hN:fn.ntmps=n) (hl:(Nat.ble args.length n&&Nat.ble n 1000000&&args.all Xl2)=true)
 (h:∀W (hg:gb.g W),J ⟨P,gb,t.tb,λT ti h=>⟨t.ok T ti h,hpr T ti h⟩,m,n,by simp only[W0d] at hl;exact W1e hl.1.2,W,λ_=>False,θe,bodyPost P fn (Ret W Q),hg⟩ [.c x] (Ybw 0 args,λ_=>none)):C P f args Q:=by
 refine⟨⟨fn,hf,hname,by rw[hb];rfl⟩,λW vs hg ha=>calls_of_wp hf hb ?_⟩
 simp only[W0d] at hl
 obtain⟨⟨hl1,hl2⟩,hl3⟩:=hl
 have hl1:=W1e hl1
 have hlen:=ha.len
 refine wp_mono (h W hg _ W.w ⟨_,W,θe,rfl,⟨Fm.refl W _,⟨rfl,by simp[hN];omega,λt v ht=>?_⟩,⟨λo x h=>by simp at h,λo x b h=>by simp at h,λo o' x x' b h=>by simp at h,λo x i h=>by simp at h⟩,λt v i ht hi=>?_⟩,λ_ _=>rfl,rfl⟩) λe a w h=>by cases e<;>exact h
 obtain⟨_,u,h2,h3,_⟩:=Xoi ha ht
 rw[W6j] at h2
 have hlt:=Xbe h2
 rw[W0e hlt] at h2
 injection h2 with h2
 simp only[Array.getD]
 rw[dif_pos (by simp;omega)]
 simp[W7d,hlt,h2]
 exact h3
 obtain⟨_,u,_,_,h4⟩:=Xoi ha ht
 exact absurd hi (Xl1 (W1q.1 hl3 v h4) i)
end
section
abbrev sem(E:Env)(H:Hpl): S:=(look E,look H)
theorem Xa4{α:Type _}(E:List (Nat×α))(d:Nat)(v:α): upd (look E) d v=look ((d,v)::E):=by funext t;simp only[upd,look];cases Nat.beq t d<;>rfl
theorem Xjc(H:Hpl): ∀us:List (Nat×Ob),Xbj (look H) us=look (us++H)
 | []=>rfl
 | (o,x)::us=>by rw[Xbj,Xjc H us,Xa4];rfl
def Xud(E:Env)(d:Option Nat)(v:AV): Env:=match d with
 | some d=>(d,v)::E
 | none=>E
theorem Xfr(E:Env)(H:Hpl)(us:List (Nat×Ob))(d:Option Nat)(v:AV): S.put ((sem E H).1,Xbj (sem E H).2 us) d v=sem (Xud E d v) (us++H):=by
 cases d with
 | none=>simp only[S.put,Xud,sem,Xjc]
 | some d=>simp only[S.put,Xud,sem,Xjc,Xa4]
def stops: Op->Bool
 | .binOp op _ _ _ _=>match op with
  | .eql | .neq | .lss | .leq | .gtr | .geq=>false
  | _=>true
 | .unOp op _ _=>match op with
  | .not=>false
  | _=>true
 | .convert _ _ _ | .index _ _ _ | .indexAddr _ _ _ | .slice _ _ _ _ _ | .makeSlice _ _ _=>true
 | .call c=>match c.callee with
  | .builtin .len=>false
  | _=>true
 | _=>false
def Yn8(E:Env): Op->Bool
 | .load _ x=>match Xb6 (look E) x with
  | some (.el _ _ _ _)=>true
  | _=>false
 | .store _ x _=>match Xb6 (look E) x with
  | some (.el _ _ _ _)=>true
  | _=>false
 | _=>false
def Yq9(G:List (Nat×Bool)): Option Nat->List (Nat×Bool)
 | none=>G
 | some d=>(d,false)::G
inductive St where
 | j (G:List (Nat×Bool)) (K:List Kt) (E:Env) (H:Hpl)
 | o (G:List (Nat×Bool)) (dr:Bool) (L l:List Oper) (K:List Kt) (E:Env) (H:Hpl)
def StP(c:Cx): St->Prop
 | .j _ K E H=>J c K (sem E H)
 | .o _ dr L l K E H=>WL c.P c.tb dr L (J c K) l (sem E H)
def inG: List (Nat×Bool)->Nat->Bool
 | [],_=>false
 | (s,b)::G,t=>match Nat.beq s t with
  | true=>b
  | false=>inG G t
def Yie(G:List (Nat×Bool)): Operand->Bool
 | .const (.bool _)=>true
 | .tmp t=>inG G t
 | _=>false
def Yr1(G:List (Nat×Bool))(E:Env): Op->Bool
 | .assign x | .move x=>Yie G x
 | .unOp op _ x=>match op with
  | .not=>Yie G x
  | _=>false
 | .pick x a b=>match Xb6 (look E) x with
  | some (.b true)=>Yie G a
  | some (.b false)=>Yie G b
  | _=>false
 | _=>false
def Yfa(G:List (Nat×Bool))(L:List Oper)(E:Env)(o:Oper): Bool:=match o.guard with
 | none=>true
 | some (j,_)=>match Xn0 L j with
  | none=>false
  | some t=>match look E t with
   | some .un=>true
   | _=>inG G t
def Yoo(G:List (Nat×Bool)): Op->Bool
 | .pick x _ _=>Yie G x
 | _=>true
def nfA{α:Type}: AV->(AV->α)->α
 | .d x,k=>k (.d x)
 | .q p,k=>k (.q p)
 | .b c,k=>k (.b c)
 | .ub p,k=>k (.ub p)
 | .nil,k=>k .nil
 | .lit sz xs,k=>k (.lit sz xs)
 | .st a,k=>nfA a λa=>k (.st a)
 | .pr a c,k=>nfA a λa=>nfA c λc=>k (.pr a c)
 | .tup a,k=>nfA a λa=>k (.tup a)
 | .fm f a,k=>nfA a λa=>k (.fm f a)
 | .at x,k=>k (.at x)
 | .ptr o f,k=>k (.ptr o f)
 | .own o sz l n,k=>k (.own o sz l n)
 | .ow3 o sz l n,k=>k (.ow3 o sz l n)
 | .gr o sz xs,k=>k (.gr o sz xs)
 | .el o sz j f,k=>k (.el o sz j f)
 | .fn f o,k=>k (.fn f o)
 | .ap o n,k=>k (.ap o n)
 | .cx o l n,k=>k (.cx o l n)
 | .an,k=>k .an
 | .un,k=>k .un
theorem Ydg{α:Type}: ∀(a:AV) (k:AV->α),nfA a k=k a:=by
 intro a
 induction a with
 | st a h=>intro k;exact h _
 | tup a h=>intro k;exact h _
 | fm f a h=>intro k;exact h _
 | pr a c i j=>intro k;show nfA a _=_;rw[i,j]
 | _=>intro k;rfl
def nfO{α:Type}: Ob->(Ob->α)->α
 | .var a,k=>nfA a λa=>k (.var a)
 | .arr sz xs,k=>k (.arr sz xs)
 | .tok n sz,k=>k (.tok n sz)
 | .dead,k=>k .dead
theorem Ykf{α:Type}(x:Ob)(k:Ob->α): nfO x k=k x:=by
 cases x with
 | var a=>exact Ydg a _
 | _=>rfl
def apH{α:Type}: Hpl->Hpl->(Hpl->α)->α
 | [],H,k=>k H
 | (o,x)::us,H,k=>nfO x λx=>apH us H λH=>k ((o,x)::H)
theorem Xyo{α:Type}: ∀(us H:Hpl) (k:Hpl->α),apH us H k=k (us++H)
 | [],_,_=>rfl
 | (o,x)::us,H,k=>by show nfO x _=_;rw[Ykf,Xyo us];rfl
noncomputable def Yna(tb:Nat->Option TI)(n:Nat): St->Option St
 | .j G (.c (.seq x y)::K) E H=>some (.j G (.c x::.c y::K) E H)
 | .j G (.c .skip::K) E H=>some (.j G K E H)
 | .j G (.c (.block id x)::K) E H=>some (.j G (.c x::.b id::K) E H)
 | .j G (.b _::K) E H=>some (.j G K E H)
 | .j G (.c (.exit id)::K) E H=>match Yc7 id K with
  | some K'=>some (.j G K' E H)
  | none=>none
 | .j G (.c (.region _ ⟨l⟩ false)::K) E H=>match Xpg n l with
  | true=>some (.o G false l l K E H)
  | false=>none
 | .j G (.c (.cond x p q)::K) E H=>match Yie G x with
  | false=>none
  | true=>match Xb6 (look E) x with
   | some (.b true)=>some (.j G (.c p::K) E H)
   | some (.b false)=>some (.j G (.c q::K) E H)
   | _=>none
 | .o G _ _ [] K E H=>some (.j G K E H)
 | .o G dr L (o::l) K E H=>match Yfa G L E o with
  | false=>none
  | true=>match want L o (sem E H) with
   | none=>none
   | some false=>match o.dst with
    | some d=>some (.o ((d,false)::G) dr L l K ((d,.un)::E) H)
    | none=>none
   | some true=>match Yoo G o.op,stops o.op||Yn8 E o.op with
    | true,false=>match eff tb o (sem E H) with
     | some (v,us)=>nfA v λv=>apH us H λH=>match o.dst with
      | none=>some (.o G dr L l K E H)
      | some d=>match Yr1 G E o.op with
       | true=>some (.o ((d,true)::G) dr L l K ((d,v)::E) H)
       | false=>some (.o ((d,false)::G) dr L l K ((d,v)::E) H)
     | none=>none
    | _,_=>none
 | _=>none
noncomputable def runN(tb:Nat->Option TI)(n:Nat): Nat->St->St
 | 0,s=>s
 | m+1,s=>match Yna tb n s with
  | some s'=>runN tb n m s'
  | none=>s
section
variable{c:Cx}
theorem Xka{o:Oper}(h:stops o.op=false): Xal o=false:=by
 unfold Xal
 cases i:o.op<;>first
  | rfl
  | (rename_i c
     obtain⟨cal,asx,j⟩:=c
     rw[i] at h
     cases cal with
     | builtin b=>cases b<;>rfl
     | value x=>cases h
     | invoke x m=>rfl)
theorem Xmj{dr:Bool}{L:List Oper}{o:Oper}{E:Env}{H:Hpl}{v:AV}{us:List (Nat×Ob)}{R:S->Prop}(h:want L o (sem E H)=some true)(i:Xal o=false)(j:eff c.tb o (sem E H)=some (v,us))(k:R (sem (Xud E o.dst v) (us++H))): Wo c.P c.tb dr L o R (sem E H) :=
 .inl ⟨h,(Xqc i).2 (.inl ⟨(v,us),j,by unfold aft;rw[Xfr];exact k⟩)⟩
theorem Xva{dr:Bool}{L:List Oper}{o:Oper}{E:Env}{H:Hpl}{d:Nat}{R:S->Prop}(h:want L o (sem E H)=some false)(hd:o.dst=some d)(k:R (sem ((d,.un)::E) H)): Wo c.P c.tb dr L o R (sem E H) :=
 .inr ⟨h,d,hd,by show R (upd (look E) d .un,look H);rw[Xa4];exact k⟩
theorem Xvo{s s':St}(h:Yna c.tb c.n s=some s')(k:StP c s'): StP c s:=by
 unfold Yna at h
 split at h
 injection h with h;subst h;exact J.seq k
 . injection h with h;subst h;exact J.skip k
 injection h with h;subst h;exact J.block k
 injection h with h;subst h;exact J.bend k
 split at h<;>cases h
 rename_i hp;exact J.exit hp k
 split at h<;>cases h
 rename_i hp;exact J.reg hp k
 split at h<;>try cases h
 split at h<;>cases h
 rename_i o;exact J.condT o k
 rename_i o;exact J.condF o k
 injection h with h;subst h;exact k
 split at h<;>try cases h
 split at h<;>try cases h
 rename_i j
 split at h<;>cases h
 rename_i d hd
 exact Xva j hd k
 rename_i j
 split at h<;>try cases h
 rename_i i
 rw[Bool.or_eq_false_iff] at i
 split at h
 rename_i v us I
 rw[Ydg,Xyo] at h
 split at h
 rename_i hd
 injection h with h;subst h
 exact Xmj j (Xka i.1) I (by rw[hd];exact k)
 rename_i d hd
 split at h<;>(injection h with h;subst h;exact Xmj j (Xka i.1) I (by rw[hd];exact k))
 cases h
 cases h
theorem Xvn: ∀(m:Nat) {s:St},StP c (runN c.tb c.n m s)->StP c s
 | 0,_,k=>k
 | m+1,s,k=>by
  unfold runN at k
  split at k
  rename_i s' h;exact Xvo h (Xvn m k)
  exact k
theorem go{s:St}(m:Nat){s':St}(h:runN c.tb c.n m s=s')(k:StP c s'): StP c s:=Xvn m (by rw[h];exact k)
variable{s:St}{K:List Kt}{E:Env}{H:Hpl}
class Dc (b:Bool) (p:outParam Prop):Prop where
 h:b=true↔p
instance {p:Prop}:Dc (dc p) p:=⟨Xaj⟩
instance {b:Bool} {p:Prop} [h:Dc b p]:Dc (!b) (¬p):=⟨by rw[<-h.h];cases b<;>simp⟩
instance (priority:=low) {b:Bool}:Dc b (b=true):=⟨W4a⟩
theorem Xrc{t:Nat}{v:AV}(h:look E t=some v): sem ((t,v)::E) H=sem E H:=by
 unfold sem
 congr 1
 funext u
 simp only[look]
 split
 rename_i e;rw[W0c e,h]
 rfl
noncomputable def nxG(tb:Nat->Option TI)(n:Nat)(s:St): Option (Nat×Bool×St×(Bool->St)):=match runN tb n 1000 s with
 | .j G (.c (.cond (.tmp t) p q)::K) E H=>match look E t with
  | some (.b b)=>some (t,b,.j G (.c (.cond (.tmp t) p q)::K) E H,λb=>.j ((t,true)::G) (.c (.cond (.tmp t) p q)::K) ((t,.b b)::E) H)
  | _=>none
 | .o G dr L (o::l) K E H=>match o.op,Yfa G L E o with
  | .pick (.tmp t) _ _,true=>match look E t with
   | some (.b b)=>some (t,b,.o G dr L (o::l) K E H,λb=>.o ((t,true)::G) dr L (o::l) K ((t,.b b)::E) H)
   | _=>none
  | _,false=>match o.guard with
   | some (j,_)=>match Xn0 L j with
    | some t=>match look E t with
     | some (.b b)=>some (t,b,.o G dr L (o::l) K E H,λb=>.o ((t,true)::G) dr L (o::l) K ((t,.b b)::E) H)
     | _=>none
    | none=>none
   | none=>none
  | _,_=>none
 | _=>none
theorem Ydf{t:Nat}{b:Bool}{s0:St}{f:Bool->St}(h:nxG c.tb c.n s=some (t,b,s0,f))(k:StP c (f b)): StP c s:=by
 unfold nxG at h
 split at h<;>try cases h
 rename_i I
 split at h<;>cases h
 rename_i i
 refine go 1000 I ?_
 have k:J c _ (sem _ _):=k
 rw[Xrc i] at k
 exact k
 rename_i I
 have j:∀ {G dr L l K E H t b},look E t=some (.b b)->StP c (.o ((t,true)::G) dr L l K ((t,.b b)::E) H)->StP c (.o G dr L l K E H):=by
  intro G dr L l K E H t b i k
  have k:WL _ _ _ _ _ _ (sem _ _):=k
  rw[Xrc i] at k
  exact k
 split at h<;>try cases h
 split at h<;>cases h
 rename_i i
 exact go 1000 I (j i k)
 split at h<;>try cases h
 split at h<;>try cases h
 split at h<;>cases h
 rename_i i
 exact go 1000 I (j i k)
theorem By{t:Nat}{b:Bool}{s0:St}{f:Bool->St}{p:Prop}[d:Dc b p](h:nxG c.tb c.n s=some (t,b,s0,f))(i:p->StP c (f true))(j:¬p->StP c (f false)): StP c s:=by
 have:=d.h
 cases b with
 | true=>exact Ydf h (i (this.1 rfl))
 | false=>exact Ydf h (j λhp=>by cases this.2 hp)
theorem Yes{t:Nat}{b:Bool}{s0:St}{f:Bool->St}{p:Prop}[d:Dc b p](h:nxG c.tb c.n s=some (t,b,s0,f))(hp:p)(k:StP c (f true)): StP c s:=By h (λ_=>k) λi=>absurd hp i
theorem No{t:Nat}{b:Bool}{s0:St}{f:Bool->St}{p:Prop}[d:Dc b p](h:nxG c.tb c.n s=some (t,b,s0,f))(hp:¬p)(k:StP c (f false)): StP c s:=By h (λh=>absurd h hp) λ_=>k
noncomputable def nxU(tb:Nat->Option TI)(n:Nat)(s:St): Option (Prop×St×St):=match runN tb n 1000 s with
 | .j G (.c (.cond x p q)::K) E H=>match Xb6 (look E) x with
  | some (.ub r)=>some (r,.j G (.c p::K) E H,.j G (.c q::K) E H)
  | _=>none
 | _=>none
theorem Ub{r:Prop}{s1 i:St}(h:nxU c.tb c.n s=some (r,s1,i))(j:r->StP c s1)(o:StP c i): StP c s:=by
 unfold nxU at h
 split at h<;>try cases h
 rename_i I
 split at h<;>cases h
 rename_i M
 exact go 1000 I (J.condU M j o)
noncomputable def nxD(tb:Nat->Option TI)(n:Nat)(s:St): Option St:=match runN tb n 1000 s with
 | .j G (.c (.region _ ⟨L⟩ true)::K) E H=>match Xpg n L with
  | true=>some (.o G true L L K E H)
  | false=>none
 | _=>none
def Ysc: St->Bool
 | .o _ _ L _ _ _ _=>Xht L (λ_ _=>false) [] [] L
 | _=>false
theorem Dw{s':St}(h:nxD c.tb c.n s=some s')(k:StP c s')(i:Ysc s'=true:=by exact rfl): StP c s:=by
 unfold nxD at h
 split at h<;>try cases h
 rename_i o
 split at h<;>cases h
 rename_i j
 exact go 1000 o (J.draw Dm.no trivial j i k)
class Wk (c:Cx) (fn:outParam Func) (Q:outParam (AV->Prop)):Prop where
 x:c.X=λ_=>False
 f:c.fin=bodyPost c.P fn (Ret c.W0 Q)
noncomputable def nxR(tb:Nat->Option TI)(n:Nat)(h:List ResultVar)(s:St): Option (AV×Hpl):=match runN tb n 1000 s with
 | .j _ (.c .ret::_) E H=>match Xy3 tb (sem E H) h with
  | some v=>some (v,H)
  | none=>none
 | .j _ [] E H=>match Xy3 tb (sem E H) h with
  | some v=>some (v,H)
  | none=>none
 | _=>none
theorem Rt{fn:Func}{Q:AV->Prop}[w:Wk c fn Q]{v o:AV}(h:nxR c.tb c.n fn.results.toList s=some (v,H))(hf:FitR (look H) [] v o)(hq:Q o): StP c s:=by
 unfold nxR at h
 split at h<;>try cases h
 rename_i i
 split at h<;>cases h
 rename_i j
 exact go 1000 i (J.retC w.x w.f j hf hq)
 rename_i i
 split at h<;>cases h
 rename_i j
 exact go 1000 i (J.endC w.x w.f j hf hq)
theorem R1{fn:Func}{r:AV}[w:Wk c fn (·=r)]{v:AV}(h:nxR c.tb c.n fn.results.toList s=some (v,H))(hf:Fit (look H) [] v r)(hp:(plain v&&plain r)=true:=by exact rfl): StP c s:=by
 rw[W0d] at hp
 exact Rt (Q:=(·=r)) h (.one hf hp.1 hp.2) rfl
theorem Xwc: ∀ {a:AV},Xl2 a=true->Xds [] a=true:=by
 intro a
 induction a with
 | st a i=>exact i
 | tup a i=>exact i
 | fm f a i=>exact i
 | pr a c j o=>intro h;simp only[Xl2,W0d] at h;simp only[Xds,W0d];exact⟨j h.1,o h.2⟩
 | _=>intro h;first | rfl | cases h
theorem R0{fn:Func}{r:AV}[w:Wk c fn (·=r)](h:nxR c.tb c.n fn.results.toList s=some (r,H):=by exact rfl)(hp:(plain r&&Xl2 r)=true:=by exact rfl): StP c s:=by
 rw[W0d] at hp
 exact Rt (Q:=(·=r)) h (.one (.rf (Xwc hp.2)) hp.1 hp.1) rfl
end
theorem Ygx{g:Hp}{K:Hpl}: ∀ {a:AV},Xds K a=true->FitT g K a a:=by
 intro a
 induction a with
 | pr a c _ i=>intro h;simp only[Xds,W0d] at h;exact .cons (.rf h.1) (i h.2)
 | _=>intro h;exact .one (.rf h) nofun nofun
theorem R0t{c:Cx}{s:St}{H:Hpl}{fn:Func}{r:AV}[w:Wk c fn (·=.tup r)](h:nxR c.tb c.n fn.results.toList s=some (.tup r,H):=by exact rfl)(hp:Xl2 r=true:=by exact rfl): StP c s :=
 Rt (Q:=(·=.tup r)) h (.tup (Ygx (Xwc hp))) rfl
theorem RTt{c:Cx}{s:St}{H:Hpl}{fn:Func}{a r:AV}[w:Wk c fn (·=.tup r)](h:nxR c.tb c.n fn.results.toList s=some (.tup a,H))(hf:FitT (look H) [] a r): StP c s :=
 Rt (Q:=(·=.tup r)) h (.tup hf) rfl
def Yig: Nat->List AV->Env
 | _,[]=>[]
 | i,v::h=>(i,v)::Yig (i+1) h
theorem Xms: ∀(asx:List AV) (i:Nat),Ybw i asx=look (Yig i asx)
 | [],i=>rfl
 | a::asx,i=>by rw[Ybw,Xms asx,Xa4];rfl
abbrev cx(P:Program)(gb:Gb P)(t:Tab P)(m:Mx P)(i:∀T ti,t.tb T=some ti->∀a c,ti.z≠.pr a c)(n:Nat)(j:n<=1000000)(fn:Func)(W:GW)(Q:AV->Prop)(o:gb.g W): Cx:=⟨P,gb,t.tb,λT ti h=>⟨t.ok T ti h,i T ti h⟩,m,n,j,W,λ_=>False,θe,bodyPost P fn (Ret W Q),o⟩
instance {P gb t m h n i fn W Q j}:Wk (cx P gb t m h n i fn W Q j) fn Q:=⟨rfl,rfl⟩
class Npr (P:Program) [t:Tab P]:Prop where
 h:∀T ti,t.tb T=some ti->∀a c,ti.z≠.pr a c
theorem En {P : Program} [gb : Gb P] [t : Tab P] [hp : Npr P] [m : Mx P] {f n : Nat} {fn : Func} {x : Code} {args : List AV} {Q : AV → Prop} (hf : P.funcs[f]? = some fn) (h : ∀ W hg hn, StP (cx P gb t m hp.h n hn fn W Q hg) (.j [] [.c x] (Yig 0 args) [])) (hname : (fn.name == "runtime.NumGoroutine") = false := by exact rfl) (hb : fn.body = some x := by exact rfl)
 (hN:fn.ntmps=n:=by exact rfl) (hl:(Nat.ble args.length n&&Nat.ble n 1000000&&args.all Xl2)=true:=by exact rfl):C P f args Q :=
 C.enter hp.h hf hname hb hN hl λW hg=>by
  have:=h W hg (by simp only[W0d] at hl;exact W1e hl.1.2)
  simp only[StP,sem,<-Xms] at this
  exact this
end
section
def chD(x:D): Nat->D
 | 0=>x
 | n+1=>.pr x (chD x n)
def eqV: Value->Value->Bool
 | .int k z,.int h i=>k==h&&z==i
 | .bool b,.bool j=>b==j
 | .string s,.string s'=>Nat.beq s.size 0&&Nat.beq s'.size 0
 | .slice none 0 0,.slice none 0 0=>true
 | .pointer none,.pointer none=>true
 | .nilFunc,.nilFunc=>true
 | .nilIface,.nilIface=>true
 | _,_=>false
def Ylv: List Value->List Value->Bool
 | [],[]=>true
 | v::h,w::ws=>eqV v w&&Ylv h ws
 | _,_=>false
theorem Yjg{s:ByteArray}(h:s.size=0): s=ByteArray.empty:=by
 cases s with | mk d =>
 have:d=#[]:=Array.eq_empty_of_size_eq_zero h
 subst this;rfl
theorem Ylw{v w:Value}(h:eqV v w=true): v=w:=by
 unfold eqV at h
 split at h<;>first
  | rfl
  | (cases h;done)
  | (simp only[W0d,beq_iff_eq] at h;obtain⟨i,j⟩:=h;first | (rw[i,j];done) | (rw[Yjg (W0c i),Yjg (W0c j)]))
  | (simp only[beq_iff_eq] at h;rw[h])
theorem Xp5: ∀ {v w:List Value},Ylv v w=true->v=w
 | [],[],_=>rfl
 | v::i,w::ws,h=>by
  simp only[Ylv,W0d] at h
  rw[Ylw h.1,Xp5 h.2]
 | [],_::_,h=>by cases h
 | _::_,[],h=>by cases h
def Ya3(P:Program)(E:TypeId)(z:D)(h:Nat): Bool:=match P.info? E with
 | some i=>Nat.beq i.size z.size&&Nat.beq i.bytes h&&(match i.zero with
  | some v=>Ylv v.cells.toList z.zc
  | none=>false)
 | none=>false
def Xmd(P:Program): Nat->List Field->List D->Bool
 | _,[],[]=>true
 | o,f::h,c::l=>Nat.beq f.offset o&&(match P.info? f.type,P.underlying f.type with
  | some i,some t=>Nat.beq i.size c.size&&(Ybz t==c.ag)&&(c.ag||Nat.beq c.size 1)
  | _,_=>false)&&Xmd P (o+c.size) h l
 | _,_,_=>false
def Yr3: D->Bool
 | .pr _ _=>true
 | _=>false
def Xwv: Value->Bool
 | .agg _=>true
 | _=>false
def Ykz(P:Program)(ti:TI)(t:TypeDesc): Bool:=match ti.e,t with
 | .int k _,.slice E=>match P.underlying E with
  | some (.int h)=>k==h
  | _=>false
 | _,_=>true
def Ycp(P:Program)(ti:TI)(t:TypeDesc): Bool:=match ti.z,t with
 | .int k _,.int h=>k==h
 | .bool _,.bool=>true
 | .str _,.string=>true
 | .sl sz _,.slice E=>Nat.beq sz ti.e.size&&ti.e.isZ&&Ya3 P E ti.e ti.eb
 | .st z,.struct i=>Nat.beq ti.arr 0&&Xmd P 0 i.toList z.comps
 | .st _,.array n E=>Nat.beq n ti.arr && !(Nat.beq n 0)&&Ya3 P E ti.e ti.eb
 | .raw _,_=>true
 | _,_=>false
def tyB(P:Program)(T:TypeId)(ti:TI): Bool:=match P.info? T,P.underlying T with
 | some i,some t=>Nat.beq i.size ti.z.size&&(match i.zero with
  | some v=>Ylv v.cells.toList ti.z.zc&&(Xwv v==ti.z.ag)
  | none=>false)&&ti.z.isZ&&(Ybz t==ti.z.ag)&&Ycp P ti t && !(Yr3 ti.z)&&Ykz P ti t
 | _,_=>false
section
variable{P:Program}
theorem Xsp{E:TypeId}{z:D}{b:Nat}(h:Ya3 P E z b=true): Yp5 P E z b:=by
 unfold Ya3 at h
 split at h<;>try cases h
 rename_i i hi
 simp only[W0d] at h
 obtain⟨⟨o,I⟩,j⟩:=h
 split at j<;>try cases j
 rename_i v M
 exact⟨i,v,hi,W0c o,W0c I,M,Xp5 j⟩
theorem Xkr: ∀ {fs:List Field} {l:List D} {o:Nat},Xmd P o fs l=true->fs.length=l.length/\∀(f:Nat) c,l[f]?=some c ->
 ∃g i,fs[f]?=some g/\g.offset=o+Xhv l f/\P.info? g.type=some i/\i.size=c.size/\∃t,P.underlying g.type=some t/\Ybz t=c.ag/\(c.ag=false->c.size=1)
 | [],[],_,_=>⟨rfl,λf c h=>by simp at h⟩
 | f::fs,x::l,o,h=>by
  simp only[Xmd,W0d] at h
  obtain⟨⟨O,I⟩,T⟩:=h
  obtain⟨U,V⟩:=Xkr T
  refine⟨by simp[U],λn c M=>?_⟩
  cases n with
  | zero =>
   simp at M;subst M
   split at I<;>try cases I
   rename_i i t hi Z
   simp only[W0d,W4e,beq_iff_eq] at I
   obtain⟨⟨a1,a2⟩,j⟩:=I
   exact⟨f,i,rfl,by rw[W0c O];rfl,hi,W0c a1,t,Z,a2,λe=>by
    rcases j with j | j
    rw[e] at j;cases j
    exact W0c j⟩
  | succ n =>
   obtain⟨g,i,b1,b2,b3⟩:=V n c (by simpa using M)
   exact⟨g,i,by simpa using b1,by rw[b2,Xhv];omega,b3⟩
 | [],_::_,_,h=>by cases h
 | _::_,[],_,h=>by cases h
theorem Yi1{T:TypeId}{ti:TI}(h:tyB P T ti=true): TyOk P T ti/\∀a c,ti.z≠.pr a c:=by
 unfold tyB at h
 split at h<;>try cases h
 rename_i i t hi ht
 simp only[W0d,beq_iff_eq,W1v] at h
 obtain⟨⟨⟨⟨⟨⟨h1,O⟩,h3⟩,h4⟩,j⟩,h6⟩,o⟩:=h
 split at O<;>try cases O
 rename_i v hv
 obtain⟨I,U⟩:=(W0d _ _).mp O
 have I:=Xp5 I
 have U:Xwv v=ti.z.ag:=by simpa using U
 have V:∀E k z,P.underlying T=some (.slice E)->ti.e=.int k z->P.underlying E=some (.int k):=λE k z M he=>by
  rw[ht] at M;injection M with M;subst M
  unfold Ykz at o
  rw[he] at o
  simp only at o
  split at o
  rename_i h;rw[h];simp only[beq_iff_eq] at o;rw[o]
  cases o
 refine⟨⟨V,⟨i,v,hi,W0c h1,hv,I,?_⟩,h3,t,ht,h4,?_⟩,λa c e=>by rw[e] at h6;cases h6⟩
 rw[<-U,<-I]
 cases v<;>simp[Xwv,mkv,Value.cells]
 unfold Ycp at j
 split at j
 rename_i e;rw[e];simp only[beq_iff_eq] at j;rw[j]
 rename_i e;rw[e]
 rename_i e;rw[e]
 rename_i e;rw[e]
 simp only[W0d] at j
 exact⟨_,rfl,W0c j.1.1,j.1.2,Xsp j.2⟩
 rename_i fs e;rw[e]
 simp only[W0d] at j
 have Z:=W0c j.1
 obtain⟨k1,k2⟩:=Xkr j.2
 simp only[Z,if_true]
 exact⟨_,rfl,by simpa using k1,λf c hc=>by
  obtain⟨g,i,b1,b2,b3⟩:=k2 f c hc
  exact⟨g,i,by simpa using b1,by rw[b2];omega,b3⟩⟩
 rename_i n E e;rw[e]
 simp only[W0d,W1v] at j
 have Z:=W0c j.1.1
 have e1:n≠0:=λe=>by rw[e] at j;exact absurd j.1.2 (by decide)
 simp only[<-Z,e1,if_false]
 exact⟨_,rfl,Xsp j.2⟩
 rename_i e;rw[e];trivial
 cases j
theorem Ycl{l:List (Nat×TI)}(h:(l.all λx=>tyB P x.1 x.2)=true): ∀T ti,look l T=some ti->TyOk P T ti/\∀a c,ti.z≠.pr a c:=by
 intro T ti i
 have:(T,ti)∈l:=by
  clear h
  induction l with
  | nil=>simp[look] at i
  | cons x l j =>
   obtain⟨S,o⟩:=x
   simp only[look] at i
   split at i
   rename_i hb;injection i with i;subst i;rw[W0c hb];exact W0w ..
   exact W1c _ (j i)
 exact Yi1 (W1q.1 h _ this)
end
end
section
structure Pl where
 G:List (Nat×Bool)
 dr:Bool
 L:List Oper
 l:List Oper
 K:List Kt
 E:Env
 H:Hpl
 d:Option Nat
def Pl.st: Pl->AV->St
 | ⟨G,dr,L,l,K,E,H,some d⟩,v=>.o ((d,false)::G) dr L l K ((d,v)::E) H
 | ⟨G,dr,L,l,K,E,H,none⟩,v=>.o G dr L l K E H
def Pl.st': Pl->AV->Hpl->St
 | ⟨G,dr,L,l,K,E,H,some d⟩,v,us=>apH us H λH=>.o ((d,false)::G) dr L l K ((d,v)::E) H
 | ⟨G,dr,L,l,K,E,H,none⟩,v,us=>apH us H λH=>.o G dr L l K E H
def Pl.nx(c:Cx)(p:Pl)(v:AV): Prop:=StP c (p.st v)
def Pl.nx'(c:Cx)(p:Pl)(v:AV)(us:Hpl): Prop:=StP c (p.st' v us)
theorem Pl.nx_eq{c:Cx}{p:Pl}{v:AV}: p.nx c v↔StP c (.o (Yq9 p.G p.d) p.dr p.L p.l p.K (Xud p.E p.d v) p.H):=by
 obtain⟨G,dr,L,l,K,E,H,d⟩:=p
 cases d<;>exact W4a
theorem Pl.nx'_eq{c:Cx}{p:Pl}{v:AV}{us:Hpl}: p.nx' c v us↔StP c (.o (Yq9 p.G p.d) p.dr p.L p.l p.K (Xud p.E p.d v) (us++p.H)):=by
 obtain⟨G,dr,L,l,K,E,H,d⟩:=p
 cases d<;>(simp only[Pl.nx',Pl.st',Xyo];exact W4a)
theorem Pl.nx_nil{c:Cx}{p:Pl}{v:AV}(h:p.nx c v): p.nx' c v []:=by
 obtain⟨G,dr,L,l,K,E,H,d⟩:=p
 cases d<;>exact h
noncomputable def nxO(tb:Nat->Option TI)(n:Nat)(s:St): Option (Pl×Oper):=match runN tb n 1000 s with
 | .o G dr L (o::l) K E H=>match Yfa G L E o with
  | true=>match want L o (sem E H) with
   | some true=>some (⟨G,dr,L,l,K,E,H,o.dst⟩,o)
   | _=>none
  | false=>none
 | _=>none
noncomputable def nxC(tb:Nat->Option TI)(n:Nat)(s:St): Option (Pl×FuncId×List AV):=match nxO tb n s with
 | some (p,o)=>match o.op with
  | .call ⟨.value x,asx,h⟩=>match callee (look p.E) x,getEs (look p.E) asx.toList with
   | some (f,[]),some i=>match (Xj2 tb h.toList i).all Xl2 with
    | true=>some (p,f,Xj2 tb h.toList i)
    | false=>none
   | _,_=>none
  | _=>none
 | none=>none
section
variable{c:Cx}{s:St}{p:Pl}
theorem Xnf{o:Oper}(h:nxO c.tb c.n s=some (p,o))(k:Wo c.P c.tb p.dr p.L o (WL c.P c.tb p.dr p.L (J c p.K) p.l) (sem p.E p.H)): StP c s:=by
 unfold nxO at h
 split at h<;>try cases h
 rename_i i
 split at h<;>try cases h
 split at h<;>cases h
 exact go 1000 i k
theorem Xwa{o:Oper}(h:nxO c.tb c.n s=some (p,o)): want p.L o (sem p.E p.H)=some true/\p.d=o.dst:=by
 unfold nxO at h
 split at h<;>try cases h
 split at h<;>try cases h
 split at h<;>cases h
 rename_i i
 exact⟨i,rfl⟩
theorem Ca{f:FuncId}{args:List AV}{Q:AV->Prop}(h:nxC c.tb c.n s=some (p,f,args))(V:C c.P f args Q)(k:∀v,Q v->p.nx c v): StP c s:=by
 unfold nxC at h
 split at h<;>try cases h
 rename_i p' o Z
 obtain⟨hw,hd⟩:=Xwa Z
 split at h<;>try cases h
 rename_i x asx tys he
 split at h<;>try cases h
 rename_i f' I hf M
 split at h<;>cases h
 rename_i hi
 refine Xnf Z (.inl ⟨hw,?_⟩)
 unfold Wb
 rw[he]
 refine .inl ⟨f,[],I,hf,M,?_⟩
 rw[W4x]
 have O:∀v,Q v->WL c.P c.tb p.dr p.L (J c p.K) p.l (S.put (sem p.E p.H) o.dst v):=λv j=>by
  have:=Xfr p.E p.H [] o.dst v
  rw[show S.put (sem p.E p.H) o.dst v=sem (Xud p.E o.dst v) p.H from this,<-hd]
  exact Pl.nx_eq.1 (k v j)
 generalize WL c.P c.tb p.dr p.L (J c p.K) p.l=R at O |-
 cases p.dr with
 | true =>
  refine⟨false,λ_=>none,λr=>Q r.1,⟨λh=>(nomatch h),λi y h=>(nomatch h),λg _ _=>?_⟩,λr T hq=>?_⟩
  obtain⟨h1,h2⟩:=V.cs hi g
  refine⟨h1,λN W θ I a0 a1 a2 a3 a4=>(h2 N W θ I a0 a1 a2 a3 a4).mono ?_⟩
  rintro e w' ⟨W',U,v,u,g',b1,b2,b3,b4,b5,rfl,b6⟩
  exact⟨W',U,v,u,_,b1,b2,b3,b4,b5,[],.inl rfl,rfl,b6⟩
  rcases T with T | ⟨h,_⟩
  unfold aft;rw[T];exact O r.1 hq
  cases h
 | false=>exact⟨_,_,.inl rfl,by rw[W4x];exact V.cs hi _,λv g' j=>by rw[j.1];exact O v j.2⟩
theorem Ce{f:FuncId}{args:List AV}{r:AV}(h:nxC c.tb c.n s=some (p,f,args))(i:C c.P f args (·=r))(k:p.nx c r): StP c s:=Ca h i λv j=>by rw[show v=r from j];exact k
theorem Yj9{o:Oper}{v:AV}{us:Hpl}(h:nxO c.tb c.n s=some (p,o))(i:Xal o=false)(j:eff c.tb o (sem p.E p.H)=some (v,us))(k:p.nx' c v us): StP c s:=by
 obtain⟨I,hd⟩:=Xwa h
 refine Xnf h (Xmj I i j ?_)
 rw[<-hd];exact Pl.nx'_eq.1 k
noncomputable def nxA(tb:Nat->Option TI)(n:Nat)(s:St): Option (Pl×Oper×List AV):=match nxO tb n s with
 | some (p,o)=>match getEs (look p.E) o.op.operands.toList,Xal o||(Xed o.op&&o.dst.isSome) with
  | some asx,false=>some (p,o,asx)
  | _,_=>none
 | none=>none
theorem Xbl{o:Oper}{asx:List AV}{v:AV}{us:Hpl}(h:nxA c.tb c.n s=some (p,o,asx))(j:F c.tb (o.dst.getD 0) (look p.H) o.op asx=some (v,us))(k:p.nx' c v us): StP c s:=by
 unfold nxA at h
 split at h<;>try cases h
 rename_i M O I
 split at h<;>cases h
 rename_i hb i
 rw[Bool.or_eq_false_iff] at hb
 refine Yj9 I hb.1 ?_ k
 unfold eff
 rw[i]
 simp only[hb.2]
 exact j
def inK: IntKind->Int->Prop
 | .i8,x=>-128<=x/\x<128
 | .i16,x=>-32768<=x/\x<32768
 | .i32,x=>-2147483648<=x/\x<2147483648
 | .i64,x=>-9223372036854775808<=x/\x<9223372036854775808
 | .u8,x=>0<=x/\x<256
 | .u16,x=>0<=x/\x<65536
 | .u32,x=>0<=x/\x<4294967296
 | .u64,x=>0<=x/\x<18446744073709551616
theorem wr{k:IntKind}{x r:Int}(e:x=r)(h:inK k r): k.wrap x=r:=by
 subst e
 cases k<;>simp only[inK] at h<;>simp[IntKind.wrap,IntKind.bits,IntKind.signed]<;>omega
def arB(op:BinOp)(k:IntKind)(a b r:Int): Prop:=match op with
 | .add=>k.wrap (a+b)=r
 | .sub=>k.wrap (a-b)=r
 | .mul=>k.wrap (a*b)=r
 | .quo=>b≠0/\k.wrap (a.tdiv b)=r
 | .rem=>b≠0/\a.tmod b=r
 | .and=>k.wrap (BitVec.ofInt k.bits a&&&BitVec.ofInt k.bits b).toNat=r
 | .andNot=>k.wrap (BitVec.ofInt k.bits a &&& ~~~BitVec.ofInt k.bits b).toNat=r
 | .or=>k.wrap (BitVec.ofInt k.bits a|||BitVec.ofInt k.bits b).toNat=r
 | .shl=>0<=b/\k.wrap (a*2^(min b.toNat k.bits))=r
 | .shr=>0<=b/\a.fdiv (2^(min b.toNat k.bits))=r
 | _=>False
noncomputable def nxI(tb:Nat->Option TI)(n:Nat)(s:St): Option (Pl×BinOp×IntKind×Int×Int):=match nxA tb n s with
 | some (p,o,[.d (.int k a),.d (.int h b)])=>match o.op with
  | .binOp op _ _ _ _=>match op with
   | .shl=>some (p,op,k,a,b)
   | .shr=>some (p,op,k,a,b)
   | op=>if k=h then some (p,op,k,a,b) else none
  | _=>none
 | _=>none
theorem Ar{op:BinOp}{k:IntKind}{a b:Int}(r:Int)(h:nxI c.tb c.n s=some (p,op,k,a,b))(U:p.nx c (.d (.int k r)))(hr:arB op k a b r:=by exact wr (by omega) (by simp only[inK];omega)): StP c s:=by
 have i:∀ {o:Oper} {j:IntKind},nxA c.tb c.n s=some (p,o,[.d (.int k a),.d (.int j b)])->(∃T x y T',o.op=.binOp op T x y T')->(op=.shl\/op=.shr\/k=j)->StP c s:=by
  rintro o j I ⟨T,x,y,T',M⟩ O
  refine Xbl (v:=.d (.int k r)) (us:=[]) I ?_ (Pl.nx_nil U)
  rw[M]
  show (match Fp c.tb (.binOp op T x y T') [.d (.int k a),.d (.int j b)] with | some v=>some (v,[]) | none=>none)=_
  have:Fp c.tb (.binOp op T x y T') [.d (.int k a),.d (.int j b)]=some (.d (.int k r)):=by
   show Yb6 (c.tb T) op y (.d (.int k a)) (.d (.int j b))=_
   cases op<;>simp only[arB] at hr<;>first | exact hr.elim | skip
   all_goals simp only[Yb6,Ynk]
   case shl=>rw[if_neg (by omega),hr.2]
   case shr=>rw[if_neg (by omega),hr.2]
   case quo=>rw[if_pos ((O.resolve_left nofun).resolve_left nofun),if_neg hr.1,hr.2]
   case rem=>rw[if_pos ((O.resolve_left nofun).resolve_left nofun),if_neg hr.1,hr.2]
   all_goals rw[if_pos ((O.resolve_left nofun).resolve_left nofun),hr]
  rw[this]
 unfold nxI at h
 split at h<;>try cases h
 rename_i Z o k1 a1 k2 b1 I
 split at h<;>try cases h
 rename_i V T x y T' M
 split at h
 cases h;exact i I ⟨_,_,_,_,M⟩ (.inl rfl)
 cases h;exact i I ⟨_,_,_,_,M⟩ (.inr (.inl rfl))
 split at h<;>cases h
 rename_i O
 exact i I ⟨_,_,_,_,M⟩ (.inr (.inr O))
noncomputable def nxV(tb:Nat->Option TI)(n:Nat)(s:St): Option (Pl×IntKind×Int):=match nxA tb n s with
 | some (p,o,[.d (.int _ a)])=>match o.op with
  | .convert S T _=>match tb S,tb T with
   | some _,some ⟨.int k _,_,_,_⟩=>some (p,k,a)
   | _,_=>none
  | _=>none
 | _=>none
theorem Cv{k:IntKind}{a:Int}(r:Int)(h:nxV c.tb c.n s=some (p,k,a))(i:p.nx c (.d (.int k r)))(hr:k.wrap a=r:=by exact wr (by omega) (by simp only[inK];omega)): StP c s:=by
 unfold nxV at h
 split at h<;>try cases h
 rename_i U o V Z j
 split at h<;>try cases h
 rename_i S T x I
 split at h<;>cases h
 rename_i M O
 refine Xbl (v:=.d (.int k r)) (us:=[]) j ?_ (Pl.nx_nil i)
 rw[I]
 simp only[F,Fp,M,O,hr]
noncomputable def nxX(tb:Nat->Option TI)(n:Nat)(s:St): Option (Pl×List D×Int):=match nxA tb n s with
 | some (p,o,[a,.d (.int _ j)])=>match o.op with
  | .indexAddr T _ _=>match tb T with
   | some ⟨.sl _ _,e,_,_⟩=>match a with
    | .d (.sl sz xs)=>match Nat.beq sz e.size with
     | true=>some (p,xs,j)
     | false=>none
    | .gr _ sz xs=>match Nat.beq sz e.size with
     | true=>some (p,xs,j)
     | false=>none
    | .lit sz xs=>match Nat.beq sz e.size with
     | true=>some (p,xs,j)
     | false=>none
    | _=>none
   | _=>none
  | _=>none
 | _=>none
theorem Ix(i:Nat){xs:List D}{j:Int}{u:D}(h:nxX c.tb c.n s=some (p,xs,j))(M:xs[i]?=some u)(O:p.nx c (.at u))(U:j=(i:Int):=by first | exact rfl | omega): StP c s:=by
 subst U
 unfold nxX at h
 split at h<;>try cases h
 rename_i p' o a k1 j1 V
 split at h<;>try cases h
 rename_i T x y Z
 split at h<;>try cases h
 rename_i e eb ar ht
 split at h<;>try cases h
 all_goals
  split at h<;>cases h
  rename_i I
  have I:=W0c I
  refine Xbl (v:=.at u) (us:=[]) V ?_ (Pl.nx_nil O)
  rw[Z]
  simp[F,Fp,ht,ixA,ixA.ixL,I,M]
end
end
section
section
variable{c:Cx}{s:St}{p:Pl}
noncomputable def nxP(tb:Nat->Option TI)(n:Nat)(s:St): Option (Pl×Nat×Nat×List D×AV):=match nxA tb n s with
 | some (p,o,[a,b])=>match o.op with
  | .call ⟨.builtin .append,_,⟨[T,T']⟩⟩=>match Nat.beq T T',tb T,look p.H (o.dst.getD 0) with
   | true,some i,none=>match Nat.ble i.eb 128,i.z,b with
    | true,.sl sz _,.d (.sl s h)=>match Nat.beq s sz with
     | true=>some (p,o.dst.getD 0,sz,h,a)
     | false=>none
    | true,.sl sz _,.nil=>some (p,o.dst.getD 0,sz,[],a)
    | true,.sl sz _,.gr _ s h=>match Nat.beq s sz with
     | true=>some (p,o.dst.getD 0,sz,h,a)
     | false=>none
    | true,.sl sz _,.lit s h=>match Nat.beq s sz with
     | true=>some (p,o.dst.getD 0,sz,h,a)
     | false=>none
    | _,_,_=>none
   | _,_,_=>none
  | _=>none
 | _=>none
theorem Xrv{d sz:Nat}{ys:List D}{a v:AV}{us:Hpl}(h:nxP c.tb c.n s=some (p,d,sz,ys,a))(hF:∀ti:TI,ti.eb<=128->Xj3 d (look p.H) ti sz ys a=some (v,us))(k:p.nx' c v us): StP c s:=by
 unfold nxP at h
 split at h<;>try cases h
 rename_i p' o a' b hA
 split at h<;>try cases h
 rename_i asx T T' ho
 split at h<;>try cases h
 rename_i ti Z hti hd
 have Z:=W0c Z
 subst Z
 have I:∀ {M U V},ti.eb<=128->ti.z=.sl M V->Xh3 (look p'.H) ti.z M b=some U->(p',o.dst.getD 0,M,U,a')=(p,d,sz,ys,a)->StP c s:=by
  intro M U V O j i e
  injection e with e1 e2;injection e2 with e2 e3;injection e3 with e3 e4;injection e4 with e4 e5
  subst e1;subst e2;subst e3;subst e4;subst e5
  refine Xbl hA ?_ k
  rw[ho]
  simp only[F,if_true,hti,hd,j]
  rw[j] at i
  rw[i]
  exact hF ti O
 split at h
 rename_i O j
 split at h<;>cases h
 rename_i i
 have i:=W0c i
 exact I (W1e O) j (by simp[Xh3,toD,i]) rfl
 rename_i O j
 cases h
 exact I (W1e O) j (by simp[Xh3,j,toD]) rfl
 rename_i O j
 split at h<;>cases h
 rename_i i
 have i:=W0c i
 exact I (W1e O) j (by simp[Xh3,toD,i]) rfl
 rename_i O j
 split at h<;>cases h
 rename_i i
 have i:=W0c i
 exact I (W1e O) j (by simp[Xh3,toD,i]) rfl
 cases h
theorem Xc6{n:Nat}{ti:TI}(h:n<=1099511627776)(i:ti.eb<=128): Xiw n ti:=⟨by
 have:=W2b h i;omega,by omega⟩
theorem ApG{d sz o:Nat}{xs ys:List D}(zs:List D)(h:nxP c.tb c.n s=some (p,d,sz,ys,.gr o sz xs))(i:xs++ys=zs)(hr:zs.length<=1099511627776)(k:p.nx' c (.gr d sz zs) [(d,.tok zs.length sz),(o,.dead)])(j:look p.H o=some (.tok xs.length sz):=by exact rfl): StP c s:=by
 subst i
 exact Xrv h (λM I=>by simp[Xj3,j,Xc6 (by simpa using hr) I]) k
theorem ApL{d sz:Nat}{xs ys:List D}(zs:List D)(h:nxP c.tb c.n s=some (p,d,sz,ys,.lit sz xs))(i:xs++ys=zs)(h0:0<ys.length)(hr:zs.length<=1099511627776)(k:p.nx' c (.own d sz 0 zs.length) [(d,.arr sz zs)]): StP c s:=by
 subst i
 exact Xrv h (λo j=>by simp[Xj3,h0,Xc6 (by simpa using hr) j]) k
theorem ApE{d sz:Nat}{xs ys:List D}(h:nxP c.tb c.n s=some (p,d,sz,ys,.lit sz xs))(h0:ys.length=0)(hr:xs.length<=1099511627776)(k:p.nx' c (.lit sz xs) []): StP c s :=
 Xrv h (λj i=>by simp[Xj3,h0,Xc6 (by simpa using hr) i]) k
theorem ApO{d sz o n:Nat}{xs ys:List D}(zs:List D)(h:nxP c.tb c.n s=some (p,d,sz,ys,.own o sz 0 n))(i:look p.H o=some (.arr sz xs))(j:n=xs.length)(I:xs++ys=zs)(hr:zs.length<=1099511627776)(k:p.nx' c (.own d sz 0 zs.length) [(d,.arr sz zs),(o,.dead)]): StP c s:=by
 subst I
 exact Xrv h (λO M=>by subst j;simp[Xj3,i,Xc6 (by simpa using hr) M]) k
def Xua{α:Type _}(E E':List (Nat×α)): Prop:=E'.map (λx=>look E x.1)=E'.map λx=>some x.2
theorem Xbi{α:Type _}: ∀ {E:List (Nat×α)} {t:Nat} {v:α},look E t=some v->(t,v)∈E
 | [],_,_,h=>by simp[look] at h
 | (s,w)::E,t,v,h=>by
  simp only[look] at h
  split at h
  rename_i hb;injection h with h;subst h;rw[W0c hb];exact W0w ..
  exact W1c _ (Xbi h)
theorem Xlf{α:Type _}{E E':List (Nat×α)}(h:Xua E E'){t:Nat}{v:α}(i:look E' t=some v): look E t=some v:=by
 have j:=Xbi i
 unfold Xua at h
 have:=W6t.1 h _ j
 exact this
def Xjh(H:Hpl): Ob->Bool
 | .var a=>Xds H a
 | _=>true
def Xob(E:Env)(H:Hpl): Bool:=(E.all λx=>Xds H x.2)&&H.all λx=>Xjh H x.2
theorem Xoa{E:Env}{H:Hpl}(h:Xob E H=true): Xy1 (sem E H):=by
 simp only[Xob,W0d] at h
 refine⟨λt v i j hi=>Xgo (W1q.1 h.1 _ (Xbi j)) i hi,λo x i I hi=>?_⟩
 have:=W1q.1 h.2 _ (Xbi I)
 cases x with
 | var a=>exact Xgo (a:=a) this i hi
 | _=>exact hi.elim
theorem Yro{K:List Kt}{E E':Env}{H H':Hpl}(i:Xua E E')(j:Xua H H')(I:Xob E' H'=true)(k:J c K (sem E' H')): J c K (sem E H) :=
 J.sub _ (λt v h=>Xlf i h) (λo x h=>Xlf j h) (Xoa I) k
def rnN(o h i:Nat): Nat:=match Nat.beq i o with
 | true=>h
 | false=>i
def AV.ren(o h:Nat): AV->AV
 | .st a=>.st (a.ren o h)
 | .pr a c=>.pr (a.ren o h) (c.ren o h)
 | .tup a=>.tup (a.ren o h)
 | .fm f a=>.fm f (a.ren o h)
 | .ptr i f=>.ptr (rnN o h i) f
 | .own i sz l n=>.own (rnN o h i) sz l n
 | .ow3 i sz l n=>.ow3 (rnN o h i) sz l n
 | .gr i sz xs=>.gr (rnN o h i) sz xs
 | .el i sz j f=>.el (rnN o h i) sz j f
 | .fn f i=>.fn f (rnN o h i)
 | .ap i n=>.ap (rnN o h i) n
 | .cx i l n=>.cx (rnN o h i) l n
 | a=>a
def Ob.ren(o h:Nat): Ob->Ob
 | .var a=>.var (a.ren o h)
 | x=>x
def Yc4(o h:Nat)(E:Env): Env:=E.map λx=>(x.1,x.2.ren o h)
def Xuc(o h:Nat)(H:Hpl): Hpl:=H.map λx=>(rnN o h x.1,x.2.ren o h)
def rnθ(o h:Nat)(θ:Loc): Loc:=λi=>if i=h then θ o else θ i
theorem Xba{o j i:Nat}{θ:Loc}(h:i≠j): rnθ o j θ (rnN o j i)=θ i:=by
 unfold rnθ rnN
 cases e:Nat.beq i o with
 | true=>rw[W0c e];simp
 | false=>exact if_neg h
theorem Yjv{W:GW}{θ:Loc}{o V:Nat}: ∀ {a:AV} {cs:List Value},¬a.ids V->AV.C W θ a cs->AV.C W (rnθ o V θ) (a.ren o V) cs:=by
 intro a
 induction a with
 | st a Z=>intro cs hi h;exact Z hi h
 | pr a c iha ihc=>intro cs hi ⟨u,v,e,I,M⟩;exact⟨u,v,e,iha (λh=>hi (.inl h)) I,ihc (λh=>hi (.inr h)) M⟩
 | ptr i f=>intro cs hi ⟨b,I,M⟩;exact⟨b,by rw[Xba (λe=>hi e.symm)];exact I,M⟩
 | own i sz l n=>intro cs hi ⟨b,p,I,M,O,T,U⟩;exact⟨b,p,by rw[Xba (λe=>hi e.symm)];exact I,by rw[Xba (λe=>hi e.symm)];exact M,by rw[Xba (λe=>hi e.symm)];exact O,by rw[Xba (λe=>hi e.symm)];exact T,by rw[Xba (λe=>hi e.symm)];exact U⟩
 | ow3 i sz l n=>intro cs hi ⟨b,p,I,M,O,T,U⟩;exact⟨b,p,by rw[Xba (λe=>hi e.symm)];exact I,by rw[Xba (λe=>hi e.symm)];exact M,by rw[Xba (λe=>hi e.symm)];exact O,T,U⟩
 | gr i sz xs=>intro cs hi ⟨p,I,M,O,T,U⟩;exact⟨p,by rw[Xba (λe=>hi e.symm)];exact I,by rw[Xba (λe=>hi e.symm)];exact M,by rw[Xba (λe=>hi e.symm)];exact O,by rw[Xba (λe=>hi e.symm)];exact T,by rw[Xba (λe=>hi e.symm)];exact U⟩
 | el i sz j f=>intro cs hi ⟨b,I,M⟩;exact⟨b,by rw[Xba (λe=>hi e.symm)];exact I,M⟩
 | fn f i=>intro cs hi ⟨b,I,M⟩;exact⟨b,by rw[Xba (λe=>hi e.symm)];exact I,M⟩
 | fm f a Z=>intro cs hi ⟨vs,I,M⟩;exact⟨vs,Z hi I,M⟩
 | ap i n=>intro cs hi ⟨b,I,M,O⟩;exact⟨b,by rw[Xba (λe=>hi e.symm)];exact I,by rw[Xba (λe=>hi e.symm)];exact M,O⟩
 | cx i l n=>intro cs hi ⟨I,M⟩;exact⟨I,by rw[Xba (λe=>hi e.symm)];exact M⟩
 | _=>intro cs hi h;exact h
theorem Yjw{o h:Nat}(a:AV): (a.ren o h).ag=a.ag:=by cases a<;>rfl
theorem Xrl{W:GW}{θ:Loc}{o i:Nat}{a:AV}{v:Value}(hi:¬a.ids i)(h:AV.V1 W θ a v): AV.V1 W (rnθ o i θ) (a.ren o i) v:=by
 obtain⟨cs,j,e⟩:=h;exact⟨cs,Yjv hi j,by rw[e,Yjw]⟩
theorem Yoi{W:GW}{θ:Loc}{o i:Nat}: ∀ {a:AV} {vs:List Value},¬a.ids i->AV.T W θ a vs->AV.T W (rnθ o i θ) (a.ren o i) vs:=by
 intro a
 induction a with
 | pr a c _ j =>
  intro vs hi h
  match vs,h with
  | v::vs,h=>exact⟨Xrl (λh=>hi (.inl h)) h.1,j (λh=>hi (.inr h)) h.2⟩
 | un =>
  intro vs hi h
  match vs,h with
  | [],h=>exact h
  | [v],h=>exact Xrl hi h
 | _ =>
  intro vs hi h
  match vs,h with
  | [v],h=>exact Xrl hi h
theorem Yjx{W:GW}{θ:Loc}{o i:Nat}{a:AV}{v:Value}(hi:¬a.ids i)(h:AV.V W θ a v): AV.V W (rnθ o i θ) (a.ren o i) v:=by
 cases a with
 | tup a=>obtain⟨j,e,h⟩:=h;exact⟨j,e,Yoi hi h⟩
 | un=>exact h
 | _=>exact Xrl hi h
theorem Xls{o V i:Nat}: ∀ {a:AV},(a.ren o V).ids i->∃j,a.ids j/\i=rnN o V j:=by
 intro a
 induction a with
 | st a I=>exact I
 | tup a I=>exact I
 | fm f a I=>exact I
 | pr a c M O =>
  intro h
  rcases h with h | h
  obtain⟨j,T,U⟩:=M h;exact⟨j,.inl T,U⟩
  obtain⟨j,T,U⟩:=O h;exact⟨j,.inr T,U⟩
 | _=>intro h;first | exact h.elim | exact⟨_,rfl,h⟩
theorem Xex{o i:Nat}: ∀ {E:Env} {t:Nat} {v:AV},look (Yc4 o i E) t=some v->∃w,look E t=some w/\v=w.ren o i
 | [],t,v,h=>by simp[Yc4,look] at h
 | (s,w)::E,t,v,h=>by
  simp only[Yc4,W5a,look] at h |-
  split at h
  injection h with h;exact⟨w,rfl,h.symm⟩
  exact Xex h
theorem Xbz{o I:Nat}: ∀ {H:Hpl} {i:Nat} {x:Ob},look H I=none->look (Xuc o I H) i=some x->∃j y,look H j=some y/\i=rnN o I j/\x=y.ren o I
 | [],i,x,_,h=>by simp[Xuc,look] at h
 | (s,w)::H,i,x,M,h=>by
  simp only[look] at M
  split at M<;>try cases M
  rename_i V
  simp only[Xuc,W5a,look] at h
  split at h
  rename_i hb
  injection h with h
  exact⟨s,w,by simp[look],W0c hb,h.symm⟩
  rename_i hb
  obtain⟨j,y,T,O,U⟩:=Xbz M h
  have:j≠s:=λe=>by
   subst e
   rw[O] at hb
   simp at hb
  exact⟨j,y,by simp only[look,Ydi this];exact T,O,U⟩
theorem Xdd{o i:Nat}: ∀ {H:Hpl} {j:Nat} {y:Ob},look H i=none->look H j=some y->∃x,look (Xuc o i H) (rnN o i j)=some x
 | [],_,_,_,h=>by simp[look] at h
 | (s,w)::H,j,y,I,h=>by
  simp only[Xuc,W5a,look]
  by_cases e:j=s
  subst e;exact⟨w.ren o i,by simp⟩
  simp only[look,Ydi e] at h
  simp only[look] at I
  split at I<;>try cases I
  obtain⟨x,M⟩:=Xdd I h
  split
  exact⟨_,rfl⟩
  exact⟨x,M⟩
theorem Yde{W:GW}{θ:Loc}{o I j:Nat}{y:Ob}(i:j≠I)(hi:¬y.ids I)(h:y.R W θ j): (y.ren o I).R W (rnθ o I θ) (rnN o I j):=by
 cases y with
 | var a=>obtain⟨b,cs,T,M,O,U,V⟩:=h;exact⟨b,cs,T,by rw[Xba i];exact M,O,Yjv hi U,V⟩
 | arr sz xs=>obtain⟨b,cs,T,M,O,U,V,Z,h6⟩:=h;exact⟨b,cs,T,by rw[Xba i];exact M,O,by rw[Xba i];exact U,by rw[Xba i];exact V,by rw[Xba i];exact Z,h6⟩
 | tok n sz=>obtain⟨M,O,U⟩:=h;exact⟨by rw[Xba i];exact M,by rw[Xba i];exact O,by rw[Xba i];exact U⟩
 | dead=>trivial
theorem Yqd{K:List Kt}{E:Env}{H:Hpl}(o O:Nat)(hb:(Nat.blt o 1000000&&Nat.blt O 1000000 && !Xcl H O)=true)(k:J c K (sem (Yc4 o O E) (Xuc o O H))): J c K (sem E H):=by
 simp only[W0d,W1v] at hb
 obtain⟨⟨hb1,hb2⟩,Z⟩:=hb
 have hb1:=Xr2 hb1
 have hb2:=Xr2 hb2
 have U:look H O=none:=by
  unfold Xcl at Z;split at Z<;>first | assumption | cases Z
 rintro a w ⟨s0,W,θ,hw,T,hθ,rfl⟩
 have M:∀ {i y},look H i=some y->i≠O:=λh e=>by rw[e,U] at h;cases h
 have hni:∀ {v:AV},(∀i,v.ids i->∃y,look H i=some y)->¬v.ids O:=λh hi=>by obtain⟨y,hy⟩:=h O hi;rw[U] at hy;cases hy
 refine k a w ⟨_,W,rnθ o O θ,hw,⟨T.fm,⟨T.rel.defers,T.rel.size,λt v ht=>?_⟩,⟨λi x hx=>?_,λi x b hx hl hb=>?_,λi j x x' b hx hx' hl hl' I h2=>?_,λi x q hx hq=>?_⟩,λt v i ht hi=>?_⟩,λi hi=>?_,rfl⟩
 obtain⟨u,I,rfl⟩:=Xex ht
 exact Yjx (hni λi hi=>T.ids t u i I hi) (T.rel.has t u I)
 obtain⟨j,y,I,rfl,rfl⟩:=Xbz U hx
 exact Yde (M I) (λhi=>by obtain⟨z,V⟩:=T.obs.ids j y O I hi;have V:look H O=some z:=V;rw[U] at V;cases V) (T.obs.r j y I)
 obtain⟨j,y,I,rfl,rfl⟩:=Xbz U hx
 rw[Xba (M I)] at hb
 exact T.obs.new j y b I (by cases y<;>first | rfl | cases hl) hb
 obtain⟨q,y,k1,rfl,rfl⟩:=Xbz U hx
 obtain⟨q',y',k1',rfl,rfl⟩:=Xbz U hx'
 rw[Xba (M k1)] at I
 rw[Xba (M k1')] at h2
 rw[T.obs.dis q q' y y' b k1 k1' (by cases y<;>first | rfl | cases hl) (by cases y'<;>first | rfl | cases hl') I h2]
 obtain⟨j,y,I,rfl,rfl⟩:=Xbz U hx
 cases y with
 | var a =>
  obtain⟨r,h2,rfl⟩:=Xls (a:=a) hq
  obtain⟨z,V⟩:=T.obs.ids j _ r I h2
  exact Xdd U V
 | _=>exact hq.elim
 obtain⟨u,I,rfl⟩:=Xex ht
 obtain⟨r,h2,rfl⟩:=Xls hi
 obtain⟨z,V⟩:=T.ids t u r I h2
 exact Xdd U V
 show (if i=O then θ o else θ i)=_
 rw[if_neg (by omega)];exact hθ i hi
theorem Yr0{K:List Kt}{E:Env}{H:Hpl}(t j sz:Nat)(hv:look E t=some .nil)(hb:(Nat.blt j 1000000 && !Xcl H j)=true)(k:J c K (sem ((t,.gr j sz [])::E) ((j,.tok 0 sz)::H))): J c K (sem E H):=by
 simp only[W0d,W1v] at hb
 have U:=Xr2 hb.1
 have hn:look H j=none:=by
  have I:=hb.2
  unfold Xcl at I;split at I<;>first | assumption | cases I
 rintro a w ⟨s0,W,θ,hw,Z,V,rfl⟩
 have st:=Stp.new0 (d:=j) Z.obs U hn (x:=.tok 0 sz) ⟨by simp,by simp,.inl (by simp)⟩ (λi h=>h)
 have M:=Z.step0 st
 refine k a w ⟨_,W,_,hw,?_,λi hi=>(st.hi i hi).trans (V i hi),rfl⟩
 rw[show sem ((t,AV.gr j sz [])::E) ((j,Ob.tok 0 sz)::H)=(upd (look E) t (.gr j sz []),upd (look H) j (.tok 0 sz)) by rw[Xa4,Xa4]]
 refine⟨M.fm,⟨M.rel.defers,M.rel.size,λq v hq=>?_⟩,M.obs,λq v i hq hi=>?_⟩
 rcases Xae hq with ⟨T,O⟩ | ⟨T,O⟩
 subst T;subst O
 obtain⟨p,e⟩:=Xol (M.rel.has q _ hv)
 rw[e]
 exact Ygs (o:=j) (θ:=λi=>if i=j then (none,0) else θ i) rfl (by simp) (.inl (by simp)) (by simp) (by simp) (.inl rfl)
 exact M.rel.has q v O
 rcases Xae hq with ⟨T,O⟩ | ⟨T,O⟩
 subst O;have hi:i=j:=hi;subst hi;exact⟨_,Xai _ _ _⟩
 exact M.ids q v i O hi
def rnE: List (Nat×Nat)->Env->Env
 | [],E=>E
 | (o,h)::r,E=>rnE r (Yc4 o h E)
def rnH: List (Nat×Nat)->Hpl->Hpl
 | [],H=>H
 | (o,h)::r,H=>rnH r (Xuc o h H)
def unE: List (Nat×Nat)->Env->Env
 | [],E=>E
 | (o,h)::r,E=>Yc4 h o (unE r E)
def unH: List (Nat×Nat)->Hpl->Hpl
 | [],H=>H
 | (o,h)::r,H=>Xuc h o (unH r H)
def okR: List (Nat×Nat)->Hpl->Bool
 | [],_=>true
 | (o,h)::r,H=>Nat.blt o 1000000&&Nat.blt h 1000000 && !Xcl H h&&okR r (Xuc o h H)
theorem rnS{K:List Kt}: ∀ {r:List (Nat×Nat)} {E:Env} {H:Hpl},okR r H=true->StP c (.j [] K (rnE r E) (rnH r H))->StP c (.j [] K E H)
 | [],_,_,_,k=>k
 | (o,i)::r,E,H,h,k=>by
  simp only[okR,W0d] at h
  exact Yqd o i (by simp only[W0d];exact h.1) (rnS h.2 k)
def Ynu(r:List (Nat×Nat))(E E':Env)(H H':Hpl): Prop:=Xua E (unE r E')/\Xua H (unH r H')/\(Xob (unE r E') (unH r H')&&okR r (unH r H'))=true/\rnE r (unE r E')=E'/\rnH r (unH r H')=H'
theorem Ypa{K:List Kt}{r:List (Nat×Nat)}{E E':Env}{H H':Hpl}(h:Ynu r E E' H H')(k:StP c (.j [] K E' H')): StP c (.j [] K E H):=by
 obtain⟨o,I,i,M,O⟩:=h
 rw[W0d] at i
 exact Yro o I i.1 (rnS i.2 (by rw[M,O];exact k))
def Yp6{α:Type}(E':α->Env)(H':α->Hpl)(I:α->Prop)(h:α->Nat)(s:S)(m:Nat): Prop:=∃x,s=sem (E' x) (H' x)/\I x/\h x=m
noncomputable def nxL(tb:Nat->Option TI)(n:Nat)(s:St): Option (Code×List Kt×Env×Hpl):=match runN tb n 1000 s with
 | .j _ (.c (.loop b)::K) E H=>some (b,K,E,H)
 | _=>none
theorem Lo{α:Type}(E':α->Env)(H':α->Hpl)(I:α->Prop)(o:α->Nat)(x:α)(r:List (Nat×Nat)){b:Code}{K:List Kt}{E:Env}{H:Hpl}(h:nxL c.tb c.n s=some (b,K,E,H))(h0:I x)
 (k:∀x,I x->StP c (.j [] (.c b::.l (λs'=>∃i,i<o x/\Yp6 E' H' I o s' i)::K) (E' x) (H' x))) (hf:Ynu r E (E' x) H (H' x):=by exact⟨rfl,rfl,rfl,rfl,rfl⟩):StP c s:=by
 unfold nxL at h
 split at h<;>cases h
 rename_i M
 refine go 1000 M (Ypa hf (J.loop (Yp6 E' H' I o) (o x) ⟨x,rfl,h0,rfl⟩ ?_))
 rintro s m ⟨x,rfl,O,rfl⟩
 exact k x O
noncomputable def nxB(tb:Nat->Option TI)(n:Nat)(s:St): Option ((S->Prop)×List Kt×Env×Hpl):=match runN tb n 1000 s with
 | .j _ (.l I::K) E H=>some (I,K,E,H)
 | _=>none
theorem Bk{α:Type}{E':α->Env}{H':α->Hpl}{I:α->Prop}{j:α->Nat}{m:Nat}{K:List Kt}{E:Env}{H:Hpl}(x:α)(r:List (Nat×Nat))(h:nxB c.tb c.n s=some ((λs'=>∃i,i<m/\Yp6 E' H' I j s' i),K,E,H))(hI:I x)(o:j x<m)(hf:Ynu r E (E' x) H (H' x):=by exact⟨rfl,rfl,rfl,rfl,rfl⟩): StP c s:=by
 unfold nxB at h
 split at h<;>try cases h
 rename_i M
 exact go 1000 M (Ypa hf (J.at' ⟨_,o,x,rfl,hI,rfl⟩))
noncomputable def nxJ(tb:Nat->Option TI)(n:Nat)(s:St): Option (List Kt×Env×Hpl):=match runN tb n 1000 s with
 | .j _ K E H=>some (K,E,H)
 | _=>none
theorem Re{K:List Kt}{E:Env}{H:Hpl}(o i:Nat)(h:nxJ c.tb c.n s=some (K,E,H))(k:StP c (.j [] K (Yc4 o i E) (Xuc o i H)))(hb:(Nat.blt o 1000000&&Nat.blt i 1000000 && !Xcl H i)=true:=by exact rfl): StP c s:=by
 unfold nxJ at h
 split at h<;>cases h
 rename_i I
 exact go 1000 I (Yqd o i hb k)
theorem Nl{K:List Kt}{E:Env}{H:Hpl}(t i sz:Nat)(h:nxJ c.tb c.n s=some (K,E,H))(k:StP c (.j [] K ((t,.gr i sz [])::E) ((i,.tok 0 sz)::H)))(o:look E t=some .nil:=by exact rfl)(hb:(Nat.blt i 1000000 && !Xcl H i)=true:=by exact rfl): StP c s:=by
 unfold nxJ at h
 split at h<;>cases h
 rename_i I
 exact go 1000 I (Yr0 t i sz o hb k)
end
end
open Go
def GW.fz(W:GW)(b:Nat): GW:=⟨W.w,λh i=>h≠b/\W.A h i,λh i k=>W.hA h i k.2⟩
theorem Xmb(W:GW)(b:Nat): LeF W (W.fz b):=λ_ _ _ k=>⟨k.1,λh=>k.2 h.2⟩
theorem Stp.freeze{N:Nat->Prop}{W:GW}{θ:Loc}{g:Hp}(h:Obs W θ N g){o b sz:Nat}{xs:List D}(ho:g o=some (.arr sz xs))(hb:(θ o).1=some b):
 Stp N W (W.fz b) θ θ g (upd g o .dead) where
 os:=_root_.rfl
 out:=_root_.rfl
 tape:=_root_.rfl
 size:=W0a _
 same:=λ_ _ _=>_root_.rfl
 A:=λV _ hn i=>⟨λk=>k.2,λk=>⟨λe=>by subst e;exact hn (h.new o _ _ ho _root_.rfl hb),k⟩⟩
 le:=Xmb W b
 th:=λ_ _ _=>_root_.rfl
 hi:=λ_ _=>_root_.rfl
 obs:={
  r:=λM z O=>by
   rcases Xae O with ⟨I,j⟩ | ⟨I,j⟩
   subst j;trivial
   exact(h.r M z j).keep (Xmb W b) _root_.rfl (λ_ _=>_root_.rfl) λU V Z=>⟨_root_.rfl,λi hA=>show V≠b/\W.A V i from⟨λe=>by
    subst e
    exact I (h.dis M o z _ _ j ho U _root_.rfl Z hb),hA⟩⟩
  new:=λM z b O U hb=>by
   rcases Xae O with ⟨I,j⟩ | ⟨I,j⟩
   subst j;cases U
   exact h.new M z b j U hb
  dis:=λo1 o2 y1 y2 b h1 h2 l1 l2 b1 b2=>by
   rcases Xae h1 with ⟨I,f1⟩ | ⟨I,f1⟩
   subst f1;cases l1
   rcases Xae h2 with ⟨j,f2⟩ | ⟨j,f2⟩
   subst f2;cases l2
   exact h.dis o1 o2 y1 y2 b f1 f2 l1 l2 b1 b2
  ids:=λM z i O T=>by
   have:∃w,g i=some w:=by
    rcases Xae O with ⟨I,j⟩ | ⟨I,j⟩
    subst j;exact T.elim
    exact h.ids M z i j T
   obtain⟨w,hw⟩:=this
   by_cases e:i=o
   subst e;exact⟨_,Xai _ _ _⟩
   exact⟨w,by rw[Xak e];exact hw⟩ }
 dom:=λi y hy=>by
  by_cases e:i=o
  subst e;exact⟨_,Xai _ _ _⟩
  exact⟨y,by rw[Xak e];exact hy⟩
theorem Yap{N:Nat->Prop}{W:GW}{θ:Loc}{g:Hp}(h:Obs W θ N g){o b sz l n:Nat}{xs:List D}{v:Value}(T:g o=some (.arr sz xs))(hb:(θ o).1=some b)(hn:l+n<=xs.length)(O:AV.V W θ (.own o sz l n) v):
 AV.V (W.fz b) θ (.d (.sl sz ((xs.drop l).take n))) v:=by
 obtain⟨cs,⟨b1,p,M,h2,h3,e,U⟩,Z⟩:=O
 refine⟨cs,?_,Z⟩
 obtain⟨b',bs,T',r1,r2,r3,r4,r5,r6,r7⟩:=h.r _ _ T
 rw[hb] at r1 M;injection r1 with r1;injection M with M;subst r1;subst M
 have i:((xs.drop l).take n).length=n:=by simp;omega
 refine⟨p,(θ o).2-l,by rw[i];exact e,by omega,by omega,?_⟩
 rcases W2t n with j | j
 exact .inl (W5b.1 (by rw[i,j]))
 refine .inr ⟨b,l*sz,U (by omega),?_⟩
 have I:D.Row (W.fz b) b sz 0 xs:=(AtL.mono (Xmb W b) (sz:=sz) (xs:=xs) (cs:=bs) r6).row λq v _ O=>by
  rw[W1l]
  exact⟨show W.w.cell? _=_ by rw[Xbd r2];exact O,λhA=>hA.1 rfl⟩
 have:=D.row_sub I l n
 rwa[W1l] at this
def isR(id:Nat): St->Bool
 | .j _ (.c (.region i _ _)::_) _ _=>Nat.beq id i
 | .j _ (.c (.block i _)::_) _ _=>Nat.beq id (i+1000000)
 | _=>false
noncomputable def runT(tb:Nat->Option TI)(n id:Nat): Nat->St->St
 | 0,s=>s
 | m+1,s=>match isR id s with
  | true=>s
  | false=>match Yna tb n s with
   | some s'=>runT tb n id m s'
   | none=>s
section
variable{c:Cx}{s:St}{p:Pl}
theorem Xfs{id:Nat}: ∀(m:Nat) {s:St},StP c (runT c.tb c.n id m s)->StP c s
 | 0,_,k=>k
 | m+1,s,k=>by
  unfold runT at k
  split at k
  exact k
  split at k
  rename_i s' h;exact Xvo h (Xfs m k)
  exact k
noncomputable def nxF(tb:Nat->Option TI)(n id t:Nat)(s:St): Option (List Kt×Env×Hpl×Nat×Nat×Nat×Nat×List D):=match runT tb n id 1000 s with
 | .j _ K E H=>match look E t with
  | some (.own o sz l n)=>match look H o with
   | some (.arr h xs)=>match Nat.beq sz h with
    | true=>some (K,E,H,o,sz,l,n,xs)
    | false=>none
   | _=>none
  | _=>none
 | _=>none
theorem Fz(id t:Nat)(ys:List D){K:List Kt}{E:Env}{H:Hpl}{o sz l n:Nat}{xs:List D}(h:nxF c.tb c.n id t s=some (K,E,H,o,sz,l,n,xs))(hn:l+n<=xs.length)(hy:(xs.drop l).take n=ys)(k:StP c (.j [] K ((t,.d (.sl sz ys))::E) ((o,.dead)::H))): StP c s:=by
 unfold nxF at h
 split at h<;>try cases h
 rename_i hr
 split at h<;>try cases h
 rename_i he
 split at h<;>try cases h
 rename_i U
 split at h<;>cases h
 rename_i V
 have V:=W0c V
 subst V;subst hy
 refine Xfs (id:=id) 1000 ?_
 rw[hr]
 rintro a w ⟨s0,W,θ,hw,O,Z,rfl⟩
 obtain⟨b,bs,T',r1,_⟩:=O.obs.r _ _ U
 have st:=Stp.freeze O.obs U r1
 have M:=O.step0 st
 refine k a w ⟨_,W.fz b,θ,hw,?_,Z,rfl⟩
 rw[show sem ((t,AV.d (.sl sz ((xs.drop l).take n)))::E) ((o,Ob.dead)::H)=(upd (look E) t (.d (.sl sz ((xs.drop l).take n))),upd (look H) o .dead) by rw[Xa4,Xa4]]
 refine⟨M.fm,⟨M.rel.defers,M.rel.size,λq v hq=>?_⟩,M.obs,λq v i hq hi=>?_⟩
 rcases Xae hq with ⟨T,I⟩ | ⟨T,I⟩
 subst T;subst I
 exact Yap O.obs U r1 hn (O.rel.has q _ he)
 exact M.rel.has q v I
 rcases Xae hq with ⟨T,I⟩ | ⟨T,I⟩
 subst I;exact hi.elim
 exact M.ids q v i I hi
noncomputable def nxM(tb:Nat->Option TI)(n:Nat)(s:St): Option (Pl×Nat×Nat×D×Int×Int):=match nxA tb n s with
 | some (p,o,[.d (.int _ m),.d (.int _ q)])=>match o.op with
  | .makeSlice T _ _=>match tb T with
   | some h=>match h.z,Nat.ble h.eb 128,look p.H (o.dst.getD 0) with
    | .sl sz _,true,none=>some (p,o.dst.getD 0,sz,h.e,m,q)
    | _,_,_=>none
   | none=>none
  | _=>none
 | _=>none
theorem Mk(n:Nat){d sz:Nat}{e:D}{m q:Int}(h:nxM c.tb c.n s=some (p,d,sz,e,m,q))(T:(n:Int)<=q/\q<=1099511627776)(k:p.nx' c (.own d sz 0 n) [(d,.arr sz (List.replicate n e))])(i:m=n:=by first | exact rfl | omega): StP c s:=by
 subst i
 unfold nxM at h
 split at h<;>try cases h
 rename_i j
 split at h<;>try cases h
 rename_i o
 split at h<;>try cases h
 rename_i ti I
 split at h<;>cases h
 rename_i M hd O
 refine Xbl j ?_ k
 rw[o]
 simp only[F,I,hd,O]
 rw[if_pos ⟨by omega,by omega,Xc6 (ti:=ti) (by omega) (W1e M)⟩]
 simp
noncomputable def nxS(tb:Nat->Option TI)(n:Nat)(s:St): Option (Pl×AV×Option Int×Option Int):=match nxA tb n s with
 | some (p,o,asx)=>match o.op with
  | .slice T _ lo hi j=>match tb T with
   | some i=>match i.z,Xkb lo hi j asx with
    | .sl _ _,some (a,l,h,none)=>match Yqa i.e.size a with
     | true=>some (p,a,l,h)
     | false=>none
    | _,_=>none
   | none=>none
  | _=>none
 | none=>none
theorem Xkh{a r:AV}{l i:Option Int}(h:nxS c.tb c.n s=some (p,a,l,i))(hr:slA l i a=some r)(k:p.nx c r): StP c s:=by
 unfold nxS at h
 split at h<;>try cases h
 rename_i j
 split at h<;>try cases h
 rename_i o
 split at h<;>try cases h
 rename_i U I
 split at h<;>try cases h
 rename_i M O
 split at h<;>cases h
 rename_i T
 refine Xbl (us:=[]) j ?_ (Pl.nx_nil k)
 rw[o]
 simp only[F,Fp,I,M,O,T,hr]
def Ynn: AV->Option (Nat×List D)
 | .d (.sl sz xs)=>some (sz,xs)
 | .gr _ sz xs=>some (sz,xs)
 | .lit sz xs=>some (sz,xs)
 | _=>none
theorem Xsv{a:AV}{sz:Nat}{xs:List D}(h:Ynn a=some (sz,xs))(l i:Option Int): slA l i a=slA.slL sz xs l i:=by
 unfold Ynn at h
 split at h<;>cases h<;>rfl
theorem Tk(j:Nat)(zs:List D){a:AV}{i:Int}{sz:Nat}{xs:List D}(h:nxS c.tb c.n s=some (p,a,none,some i))(ha:Ynn a=some (sz,xs))(M:j<=xs.length)(o:xs.take j=zs)(k:p.nx c (.d (.sl sz zs)))(I:i=j:=by first | exact rfl | omega): StP c s:=by
 subst I;subst o
 refine Xkh h ?_ k
 rw[Xsv ha,slA.slL,if_pos ⟨by omega,by omega⟩];simp
theorem Dp(j:Nat)(zs:List D){a:AV}{i:Int}{sz:Nat}{xs:List D}(h:nxS c.tb c.n s=some (p,a,some i,none))(ha:Ynn a=some (sz,xs))(M:j<=xs.length)(o:xs.drop j=zs)(k:p.nx c (.d (.sl sz zs)))(I:i=j:=by first | exact rfl | omega): StP c s:=by
 subst I;subst o
 refine Xkh h ?_ k
 rw[Xsv ha,slA.slL,if_pos ⟨by omega,by omega⟩];simp
theorem Sw(i j:Nat){l I:Option Int}{o sz q n:Nat}(h:nxS c.tb c.n s=some (p,.own o sz q n,l,I))(hi:i<=j)(O:j<=n)(k:p.nx c (.own o sz (q+i) (j-i)))(M:l.getD 0=i:=by first | exact rfl | (simp only[Option.getD];omega))(hh:I.getD n=j:=by first | exact rfl | (simp only[Option.getD];omega)): StP c s:=by
 refine Xkh h ?_ k
 cases l<;>cases I<;>simp only[Option.getD] at M hh
 have:i=0:=by omega
 have:j=n:=by omega
 subst i;subst j;simp[slA]
 have:i=0:=by omega
 subst i
 rw[slA,if_pos ⟨by omega,by omega⟩,hh];simp
 have:j=n:=by omega
 subst j
 rw[slA,if_pos ⟨by omega,by omega⟩,M];simp
 rw[slA,if_pos ⟨by omega,by omega,by omega⟩,M,hh];simp
noncomputable def nxE(tb:Nat->Option TI)(n:Nat)(s:St): Option (Pl×Nat×Nat×Nat×Nat×Int):=match nxA tb n s with
 | some (p,o,[.own q sz l m,.d (.int _ j)])=>match o.op with
  | .indexAddr T _ _=>match tb T with
   | some h=>match h.z,Nat.beq sz h.e.size with
    | .sl _ _,true=>some (p,q,sz,l,m,j)
    | _,_=>none
   | none=>none
  | _=>none
 | _=>none
theorem El(i:Nat){q sz l m:Nat}{j:Int}(h:nxE c.tb c.n s=some (p,q,sz,l,m,j))(hi:i<m)(k:p.nx c (.el q sz (l+i) 0))(o:j=i:=by first | exact rfl | omega): StP c s:=by
 subst o
 unfold nxE at h
 split at h<;>try cases h
 rename_i I
 split at h<;>try cases h
 rename_i M
 split at h<;>try cases h
 rename_i U O
 split at h<;>cases h
 rename_i T hb
 refine Xbl (us:=[]) I ?_ (Pl.nx_nil k)
 rw[M]
 simp only[F,Fp,O,T,ixA]
 rw[if_pos ⟨by omega,by omega,W0c hb⟩]
 simp
theorem Eo(i:Nat){q sz m:Nat}{j:Int}(h:nxE c.tb c.n s=some (p,q,sz,0,m,j))(hi:i<m)(k:p.nx c (.el q sz i 0))(o:j=i:=by first | exact rfl | omega): StP c s :=
 El i h hi (by rw[W1l];exact k) o
noncomputable def Yqr(tb:Nat->Option TI)(n:Nat)(s:St): Option (Pl×Nat×Bool×List D×Nat×Nat):=match nxA tb n s with
 | some (p,o,[.el q sz j off])=>match o.op with
  | .load T _=>match tb T,look p.H q with
   | some i,some (.arr h xs)=>match Nat.beq sz h with
    | true=>some (p,i.z.size,i.z.ag,xs,j,off)
    | false=>none
   | _,_=>none
  | _=>none
 | _=>none
theorem Ld(u:D){z g xs j off y}(h:Yqr c.tb c.n s=some (p,z,g,xs,j,off))(o:xs[j]?=some u)(k:p.nx c (nb y))(I:Xqw z g u off=some y:=by exact rfl): StP c s:=by
 unfold Yqr at h
 split at h<;>try cases h
 rename_i M
 split at h<;>try cases h
 rename_i O
 split at h<;>try cases h
 rename_i U T hq
 split at h<;>cases h
 rename_i i
 have i:=W0c i
 refine Xbl (us:=[]) M ?_ (Pl.nx_nil k)
 rw[O]
 simp only[F,T,hq,i,if_true,o,I]
noncomputable def Yoq(tb:Nat->Option TI)(n:Nat)(s:St): Option (Pl×Nat×Nat×List D×Nat×D):=match nxA tb n s with
 | some (p,o,[.el q sz j 0,v])=>match o.op with
  | .store T _ _=>match tb T,look p.H q with
   | some i,some (.arr h xs)=>match toD i.z v with
    | some x=>match plain v&&Nat.beq sz h&&Nat.beq v.size sz&&Nat.beq x.size sz&&Nat.beq i.z.size sz with
     | true=>some (p,q,sz,xs,j,x)
     | false=>none
    | none=>none
   | _,_=>none
  | _=>none
 | _=>none
theorem Sto{zs:List D}{q sz xs j x}(h:Yoq c.tb c.n s=some (p,q,sz,xs,j,x))(i:j<xs.length)(o:xs.set j x=zs)(k:p.nx' c (.ub True) [(q,.arr sz zs)]): StP c s:=by
 subst o
 unfold Yoq at h
 split at h<;>try cases h
 rename_i I
 split at h<;>try cases h
 rename_i M
 split at h<;>try cases h
 rename_i U O hq
 split at h<;>try cases h
 rename_i T
 split at h<;>cases h
 rename_i hb
 simp only[W0d] at hb
 refine Xbl I ?_ k
 rw[M]
 simp only[F,O,hq,T]
 rw[if_pos ⟨hb.1.1.1.1,W0c hb.1.1.1.2,W0c hb.1.1.2,W0c hb.1.2,W0c hb.2,i⟩]
noncomputable def nxN(tb:Nat->Option TI)(n:Nat)(s:St): Option (Pl×IntKind×Int):=match nxA tb n s with
 | some (p,o,[.d (.int k a)])=>match o.op with
  | .unOp op _ _=>match op with
   | .neg=>some (p,k,a)
   | _=>none
  | _=>none
 | _=>none
theorem Ne{k:IntKind}{a:Int}(r:Int)(h:nxN c.tb c.n s=some (p,k,a))(i:p.nx c (.d (.int k r)))(hr:k.wrap (0-a)=r:=by exact wr (by omega) (by simp only[inK];omega)): StP c s:=by
 unfold nxN at h
 split at h<;>try cases h
 rename_i j
 split at h<;>try cases h
 rename_i o
 split at h<;>cases h
 refine Xbl (us:=[]) j ?_ (Pl.nx_nil i)
 rw[o]
 simp only[F,Fp,hr]
end
end Go.Vm
namespace Go.Num
theorem wI{x:Int}(h:-9223372036854775808<=x/\x<9223372036854775808): IntKind.i64.wrap x=x:=by
 have e:IntKind.i64.wrap x=if x%18446744073709551616>=9223372036854775808 then x%18446744073709551616-18446744073709551616 else x%18446744073709551616:=by
  simp[IntKind.wrap,IntKind.bits,IntKind.signed]
 rw[e];split<;>omega
theorem wU{x:Int}(h:0<=x/\x<18446744073709551616): IntKind.u64.wrap x=x:=by
 have e:IntKind.u64.wrap x=x%18446744073709551616:=by simp[IntKind.wrap,IntKind.bits,IntKind.signed]
 rw[e];omega
theorem wUm(x:Int): IntKind.u64.wrap x=x%18446744073709551616:=by simp[IntKind.wrap,IntKind.bits,IntKind.signed]
theorem wW{x:Int}(h:0<=x/\x<4294967296): IntKind.u32.wrap x=x:=by
 have e:IntKind.u32.wrap x=x%4294967296:=by simp[IntKind.wrap,IntKind.bits,IntKind.signed]
 rw[e];omega
theorem wWm(x:Int): IntKind.u32.wrap x=x%4294967296:=by simp[IntKind.wrap,IntKind.bits,IntKind.signed]
def val: List Nat->Nat
 | []=>0
 | x::l=>x+4294967296*val l
def dig(n:Nat): List Nat:=if h:n=0 then [] else (n%4294967296)::dig (n/4294967296)
termination_by n
decreasing_by omega
def Xav(l:List Nat): Prop:=∀x∈l,x<4294967296
theorem Xav.nil: Xav []:=λ_ h=>by cases h
theorem Xav.cons{x:Nat}{l:List Nat}(h:x<4294967296)(k:Xav l): Xav (x::l):=λy i=>by
 rcases W1s.1 i with rfl | i
 exact h
 exact k y i
theorem Xav.hd{x:Nat}{l:List Nat}(h:Xav (x::l)): x<4294967296:=h x (W0w ..)
theorem Xav.tl{x:Nat}{l:List Nat}(h:Xav (x::l)): Xav l:=λy i=>h y (W1c _ i)
theorem Xav.app{l m:List Nat}(h:Xav l)(k:Xav m): Xav (l++m):=λy i=>(W2p.1 i).elim (h y) (k y)
theorem Xav.take{l:List Nat}(h:Xav l)(k:Nat): Xav (l.take k):=λy i=>h y (W7v i)
theorem Xav.drop{l:List Nat}(h:Xav l)(k:Nat): Xav (l.drop k):=λy i=>h y (W7w i)
theorem Xap: dig 0=[]:=by rw[dig];simp
theorem Xfw{n:Nat}(h:n≠0): dig n=(n%4294967296)::dig (n/4294967296):=by rw[dig];simp[h]
theorem Xag(n:Nat): val (dig n)=n:=by
 induction n using Nat.strongRecOn with
 | _ n i =>
  by_cases h:n=0
  subst h;rw[Xap];rfl
  rw[Xfw h,val,i _ (by omega)];omega
theorem Xaf(n:Nat): Xav (dig n):=by
 induction n using Nat.strongRecOn with
 | _ n i =>
  by_cases h:n=0
  subst h;rw[Xap];exact .nil
  rw[Xfw h];exact .cons (by omega) (i _ (by omega))
theorem Xtu{n:Nat}: dig n=[]↔n=0:=by
 constructor
 intro h;have:=Xag n;rw[h] at this;exact this.symm
 rintro rfl;exact Xap
theorem Xfb(l m:List Nat): val (l++m)=val l+4294967296^l.length*val m:=by
 induction l with
 | nil=>simp[val]
 | cons x l h =>
  rw[W4g,val,h,val,W1j,W0z,W1d,W4z,
   W1g (4294967296^l.length) 4294967296,W0v]
theorem Xci{l:List Nat}(h:Xav l): val l<4294967296^l.length:=by
 induction l with
 | nil=>simp[val]
 | cons x l i =>
  have j:=i h.tl
  have o:=h.hd
  rw[val,W1j,W0z]
  omega
theorem Xac{l:List Nat}{k x:Nat}(h:l[k]?=some x): val (l.take (k+1))=val (l.take k)+4294967296^k*x:=by
 have i:k<l.length:=by
  by_cases j:k<l.length
  exact j
  rw[W1y (by omega)] at h;cases h
 rw[W1w,h,Xfb]
 simp[val,W0k,W2h (W2k i)]
def Ynr(l:List Nat): Prop:=l=[]\/∃x,l[l.length-1]?=some x/\x≠0
theorem Xe5{l:List Nat}(O:Xav l)(U:Ynr l): dig (val l)=l:=by
 induction l with
 | nil=>exact Xap
 | cons x l V =>
  have T:=O.hd
  rcases U with h | ⟨y,o,j⟩
  cases h
  by_cases I:l=[]
  subst I
  simp at o
  subst o
  rw[Xfw (by simp[val,j])]
  simp only[val,W3l,W2e]
  rw[W5j T,W4o T,Xap]
  have M:Ynr l:=by
   refine .inr ⟨y,?_,j⟩
   have:l.length≠0:=λh=>I (W0m h)
   rw[W1j,show l.length+1-1=(l.length-1)+1 by omega] at o
   simpa using o
  have i:=V O.tl M
  have Z:val l≠0:=by
   intro h0
   rw[h0,Xap] at i
   exact I i.symm
  rw[val,Xfw (by omega),show (x+4294967296*val l)%4294967296=x by omega,show (x+4294967296*val l)/4294967296=val l by omega,i]
theorem Xh2(n:Nat): Ynr (dig n):=by
 induction n using Nat.strongRecOn with
 | _ n o =>
  by_cases h:n=0
  subst h;rw[Xap];exact .inl rfl
  rw[Xfw h]
  by_cases i:n/4294967296=0
  rw[i,Xap]
  exact .inr ⟨n%4294967296,rfl,by omega⟩
  rcases o (n/4294967296) (by omega) with j | ⟨x,j,I⟩
  exact absurd (Xtu.1 j) i
  refine .inr ⟨x,?_,I⟩
  have:(dig (n/4294967296)).length≠0:=λh=>i (Xtu.1 (W0m h))
  rw[W1j,show (dig (n/4294967296)).length+1-1=((dig (n/4294967296)).length-1)+1 by omega]
  simpa using j
theorem Xsr{n:Nat}(h:n≠0): 4294967296^((dig n).length-1)<=n:=by
 induction n using Nat.strongRecOn with
 | _ n j =>
  rw[Xfw h,W1j,W7h]
  by_cases i:n/4294967296=0
  rw[i,Xap];simp;omega
  have o:=j (n/4294967296) (by omega) i
  have M:(dig (n/4294967296)).length≠0:=λI=>i (Xtu.1 (W0m I))
  rw[show (dig (n/4294967296)).length=(dig (n/4294967296)).length-1+1 by omega,W0z]
  exact W0j (W0l _ o) (W7c ..)
theorem Xd2(n:Nat): n<4294967296^(dig n).length:=by
 have:=Xci (Xaf n)
 rwa[Xag] at this
theorem Xaq{n k:Nat}(h:n<4294967296^k): (dig n).length<=k:=by
 by_cases h0:n=0
 subst h0;rw[Xap];simp
 have i:=Xsr h0
 apply W0t
 intro j
 have:4294967296^k<=4294967296^((dig n).length-1):=W0o (by decide) (by omega)
 omega
theorem Xau{m n:Nat}(h:m<=n): (dig m).length<=(dig n).length:=Xaq (W2a h (Xd2 n))
theorem Xdy{m n:Nat}(h:(dig m).length<(dig n).length): m<n:=by
 apply W0t
 intro i
 have:=Xau (m:=n) (n:=m) (by omega)
 omega
theorem Xla{l:List Nat}(j:Xav l)(h0:0<l.length)(h:4294967296^(l.length-1)<=val l): Ynr l:=by
 have i:l.length-1<l.length:=by omega
 refine .inr ⟨l[l.length-1],W0e i,λo=>?_⟩
 have I:=Xac (l:=l) (W0e i)
 rw[show l.length-1+1=l.length by omega,W2u,o,W3l,W2e] at I
 have M:=Xci (j.take (l.length-1))
 rw[W0k,W2h (by omega)] at M
 omega
theorem Xhe(x y:Nat): (dig (x+y)).length<=max (dig x).length (dig y).length+1:=by
 apply Xaq
 have h:=Xd2 x
 have i:=Xd2 y
 have j:4294967296^(dig x).length<=4294967296^max (dig x).length (dig y).length:=W0o (by decide) (Nat.le_max_left ..)
 have o:4294967296^(dig y).length<=4294967296^max (dig x).length (dig y).length:=W0o (by decide) (Nat.le_max_right ..)
 rw[W0z]
 omega
theorem Xl6(x y:Nat): (dig (x*y)).length<=(dig x).length+(dig y).length:=by
 apply Xaq
 rw[W0x]
 exact W3u (Xd2 x) (Xd2 y)
theorem Yjh(s:Nat): Int.fdiv (s:Int) (2^(min (Int.toNat 32) (IntKind.bits .u64)))=((s/4294967296:Nat):Int):=by
 have e:(2:Int)^(min (Int.toNat 32) (IntKind.bits .u64))=4294967296:=by decide
 rw[e,W1r _ (by omega)]
 rfl
theorem Xg5{l:List Nat}{k:Nat}(h:l.length<=k): l.take (k+1)=l.take k:=by
 rw[W0b h,W0b (by omega)]
theorem Xbn{l:List Nat}{k d:Nat}(h:k<l.length): val ((l.set k d).take (k+1))=val (l.take k)+4294967296^k*d:=by
 have:=Xac (l:=l.set k d) (k:=k) (x:=d) (by rw[W2n h])
 rw[this,List.take_set_of_le (W0a k)]
theorem Xbx(l:List Nat)(k:Nat)(h:k<=l.length): val l=val (l.take k)+4294967296^k*val (l.drop k):=by
 conv=>lhs;rw[<-W6c k l]
 rw[Xfb,W0k,W2h h]
def Xa9(a b:Int): Int:=if a<b then -1 else if a>b then 1 else 0
theorem Xkl{l m:List Nat}(i:Xav l){k x y:Nat}(T:k<l.length)(j:k<m.length)(o:l[k]?=some x)(I:m[k]?=some y)(hd:l.drop (k+1)=m.drop (k+1))(h:x<y): val l<val m:=by
 rw[Xbx l (k+1) (by omega),Xbx m (k+1) (by omega),hd,Xac o,Xac I]
 have M:=Xci (i.take k)
 rw[W0k,W2h (by omega)] at M
 have O:4294967296^k*(x+1)<=4294967296^k*y:=W0u _ h
 rw[W1d] at O
 omega
theorem Xb3(n:Nat): val (List.replicate n 0)=0:=by
 induction n with
 | zero=>rfl
 | succ n h=>rw[W4h,val,h]
theorem Yji{u n:Nat}(h:u*2^n<18446744073709551616)(i:n<=64): IntKind.u64.wrap ((u:Int)*2^(min (Int.toNat (n:Int)) (IntKind.bits .u64)))=((u*2^n:Nat):Int):=by
 have e:min (Int.toNat (n:Int)) (IntKind.bits .u64)=n:=by
  rw[W7m];exact W2h i
 rw[e]
 have j:(u:Int)*2^n=((u*2^n:Nat):Int):=by rw[W2r,W7x];rfl
 rw[j]
 exact wU ⟨by omega,by omega⟩
theorem Xej(a b n:Nat)(h:a<2^n): b*2^n|||a=b*2^n+a:=by
 have:=Nat.shiftLeft_add_eq_or_of_lt h b
 rw[Nat.shiftLeft_eq] at this
 exact this.symm
theorem Xeb(u n:Nat)(h:n<=32): u*2^n%4294967296=(u%2^(32-n))*2^n:=by
 have e:4294967296=2^(32-n)*2^n:=by rw[<-W0x,show 32-n+n=32 by omega]
 rw[e,Nat.mul_mod_mul_right]
theorem Xcj{l:List Nat}{k x:Nat}(h:l[k]?=some x): val (l.drop k)=x+4294967296*val (l.drop (k+1)):=by
 have i:k<l.length:=by
  by_cases j:k<l.length
  exact j
  rw[W1y (by omega)] at h;cases h
 rw[W3w i,val]
 rw[W0e i] at h
 injection h with h
 rw[h]
theorem drop_set{l:List Nat}{k d:Nat}(h:k<l.length): (l.set k d).drop k=d::l.drop (k+1):=by
 rw[W3w (by simpa using h)]
 simp[List.drop_set]
def bl(n:Nat): Nat:=if n=0 then 0 else Nat.log2 n+1
theorem Ylm{p:Nat->Prop}(h:∀j:Fin 256,p j.val)(x:Nat)(i:x<256): p x:=h ⟨x,i⟩
theorem Xdh{n:Nat}(h:n≠0): 2^(bl n-1)<=n/\n<2^bl n/\0<bl n:=by
 rw[bl,if_neg h]
 exact⟨Nat.log2_self_le h,Nat.lt_log2_self,Nat.succ_pos _⟩
theorem Yps{n k:Nat}(h:2^k<=n)(i:n<2^(k+1)): bl n=k+1:=by
 have h0:n≠0:=by have:=W0p k;omega
 obtain⟨a,b,c⟩:=Xdh h0
 have j:k<bl n:=(W3i (by decide:1<2)).1 (W2a h b)
 have o:bl n-1<k+1:=(W3i (by decide:1<2)).1 (W2a a i)
 omega
theorem Xmq{n k:Nat}(h:n/2^k≠0): bl n=bl (n/2^k)+k:=by
 obtain⟨a,b,c⟩:=Xdh h
 have hp:=W0p k
 have e:bl (n/2^k)+k=(bl (n/2^k)-1+k)+1:=by omega
 rw[e]
 apply Yps
 rw[W0x]
 exact(Nat.le_div_iff_mul_le hp).1 a
 rw[show bl (n/2^k)-1+k+1=bl (n/2^k)+k by omega,W0x]
 exact(W3b hp).1 b
theorem Xih(l:List Nat)(n:Nat)(h:n<=32): val l%2^n=l.getD 0 0%2^n:=by
 cases l with
 | nil=>rfl
 | cons x l =>
  have e:4294967296=2^n*2^(32-n):=by rw[<-W0x,show n+(32-n)=32 by omega]
  simp only[val,List.getD_cons_zero]
  rw[e,W0v,W5m]
theorem Yez(s y:Nat)(h:s<18446744073709551616): IntKind.u64.wrap (Int.tdiv (s:Int) (y:Int))=((s/y:Nat):Int):=by
 have e:Int.tdiv (s:Int) (y:Int)=((s/y:Nat):Int):=rfl
 rw[e]
 have i:s/y<18446744073709551616:=W2a (W3n s y) h
 exact wU ⟨W5x _,W7y.2 i⟩
theorem Xta(s y:Nat): Int.tmod (s:Int) (y:Int)=((s%y:Nat):Int):=rfl
theorem wB{x:Int}(h:0<=x/\x<256): IntKind.u8.wrap x=x:=by
 have e:IntKind.u8.wrap x=x%256:=by simp[IntKind.wrap,IntKind.bits,IntKind.signed]
 rw[e];omega
theorem Yi0{n:Nat}(h:n<256): (((UInt8.ofNat n).toNat:Nat):Int)=(n:Int):=by
 rw[UInt8.toNat_ofNat_of_lt' h]
theorem Ylu{U Y d:Nat}(i:U<4294967296*Y)(j:0<Y)(h:4294967296<=d): U/Y<d:=by
 have:U/Y<4294967296:=by rw[W3b j];exact i
 omega
theorem Ylt{low o j i next high M d r:Nat}(I:low<M)(hM:0<M)(O:d*high+r=j)(h:r*4294967296+o<d*next)(T:0<i+M*(next+4294967296*high)):
 (low+M*(o+4294967296*j))/(i+M*(next+4294967296*high))<d:=by
 rw[W3b T]
 have U:d*(next+4294967296*high)=d*next+4294967296*(d*high):=by rw[W1d,W5d]
 have V:o+4294967296*j+1<=d*(next+4294967296*high):=by rw[U,<-O];omega
 have Z:=W0u M V
 rw[W1d M _ 1,W4j] at Z
 have h4:d*(i+M*(next+4294967296*high))=d*i+M*(d*(next+4294967296*high)):=by rw[W1d,W5d]
 omega
theorem Yd5{low o j i next high M d r:Nat}(T:0<M)(V:i<M)(Z:d*high+r=j)(h:d*next<=r*4294967296+o)(hd:d<4294967296)(hh:0<high):
 d<=(low+M*(o+4294967296*j))/(i+M*(next+4294967296*high))+1:=by
 generalize O:i+M*(next+4294967296*high)=Y
 generalize hU:low+M*(o+4294967296*j)=U
 have hYp:4294967296*M<=Y:=by
  rw[<-O,W1d]
  have:M*(4294967296*1)<=M*(4294967296*high):=W0u _ (W0u _ hh)
  omega
 have h1:d*(next+4294967296*high)=d*next+4294967296*(d*high):=by rw[W1d,W5d]
 have h2:d*(next+4294967296*high)<=o+4294967296*j:=by rw[h1,<-Z];omega
 have h3:=W0u M h2
 have h4:d*Y=d*i+M*(d*(next+4294967296*high)):=by rw[<-O,W1d,W5d]
 have h5:d*i<=d*M:=W0u _ (W2k V)
 have h6:d*M<4294967296*M:=W3g hd T
 have h7:d*Y<U+Y:=by omega
 have h8:=W2x U Y
 have h9:=W2o U (by omega:0<Y)
 apply W0t
 intro hn
 have I:(U/Y+2)*Y<=d*Y:=W0l _ (by omega)
 rw[W1f,W1g (U/Y)] at I
 omega
theorem Ye5{U Y d U1 c P:Nat}(i:0<Y)(T:U/Y<=d)(V:d<=U/Y+1)(h:U1+Y*d=U+P*c)(Z:c<=1)(j:U1<P)(hU:U<P):
 (c=0->d=U/Y/\U1=U%Y)/\(c=1->d=U/Y+1/\∀U2 e,U2<P->U2+P*e=U1+Y->e<=1->U2=U%Y):=by
 have o:=W2x U Y
 have hm:=W2o U i
 refine⟨λh0=>?_,λh0=>?_⟩
 subst h0
 have hd:d=U/Y:=by
  apply W0t
  intro I
  have:d=U/Y+1:=by omega
  rw[this,W1d,W4j] at h
  omega
 rw[hd] at h
 exact⟨hd,by omega⟩
 subst h0
 have hd:d=U/Y+1:=by
  apply W0t
  intro I
  have:d=U/Y:=by omega
  rw[this] at h
  omega
 refine⟨hd,λU2 e M he O=>?_⟩
 rw[hd,W1d,W4j] at h
 rcases W2t e with h0 | h0
 subst h0;omega
 have:e=1:=by omega
 subst this;omega
theorem Xf8{l:List Nat}{q i x:Nat}(h:q+i<l.length): val (((l.set (q+i) x).drop q).take (i+1))=val ((l.drop q).take i)+4294967296^i*x:=by
 have e:(l.set (q+i) x).drop q=(l.drop q).set i x:=by
  rw[List.drop_set,if_neg (by omega),W3v]
 rw[e,Xbn (by rw[W1u];omega)]
theorem Xch{l:List Nat}{q i u:Nat}(h:l[q+i]?=some u): val ((l.drop q).take (i+1))=val ((l.drop q).take i)+4294967296^i*u :=
 Xac (by rw[W1t];exact h)
end Go.Num
namespace Go.Vm
open Go
def gw0(w:World): GW:=⟨w,λ_ _=>False,λ_ _ h=>h.elim⟩
def Reads(P:Program)(t:TypeId)(r:D->Prop): Prop:=∀(w:World) {H:Type} {enc:TypeId×Value->H} {spare:Nat->Bool} {held:Bool} {h:Nat} {cs:List Value} {x:DataW H×List MemPlace},
 DataW.trod enc P w 0 spare held h t cs=some x->∃d,r d/\D.At (gw0 w) d cs
theorem Reads.mono{P:Program}{t:TypeId}{r s:D->Prop}(h:Reads P t r)(hr:∀d,r d->s d): Reads P t s:=λw _ _ _ _ _ _ _ i=>let ⟨d,j,o⟩:=h w i;⟨d,hr d j,o⟩
theorem Xiy{P:Program}{t:TypeId}{k:IntKind}(j:P.underlying t=some (.int k))(o:∀n,(Lit.int k n).wf=true->inR k n): Reads P t λd=>∃z,d=.int k z/\(Lit.int k z).wf=true:=λw _ _ _ _ _ _ _ h =>
 let ⟨n,I,_,i⟩:=DataW.trod_int j h
 ⟨_,⟨n,rfl,i⟩,I,o n i⟩
theorem Yek{n:Int}(h:(Lit.int .u8 n).wf=true): 0<=n/\n<256:=by
 simp[Lit.wf,IntKind.min,IntKind.max,IntKind.signed,IntKind.bits] at h;omega
theorem Yik{n:Int}(h:(Lit.int .i8 n).wf=true): -128<=n/\n<128:=by
 simp[Lit.wf,IntKind.min,IntKind.max,IntKind.signed,IntKind.bits] at h;omega
theorem Ycd{n:Int}(h:(Lit.int .i64 n).wf=true): -9223372036854775808<=n/\n<9223372036854775808:=by
 simp[Lit.wf,IntKind.min,IntKind.max,IntKind.signed,IntKind.bits] at h;omega
theorem Xgf{P:Program}{t:TypeId}(i:P.underlying t=some (.int .u8)): Reads P t λd=>∃n:Nat,d=.int .u8 n/\n<256 :=
 (Xiy i λn h=>by
  have:=Yek h
  show IntKind.u8.wrap n=n
  simp[IntKind.wrap,IntKind.bits,IntKind.signed];omega).mono λd ⟨z,e,h⟩=>⟨z.toNat,by rw[e,W2w (Yek h).1],by have:=Yek h;omega⟩
theorem Xrn{P:Program}{t:TypeId}(i:P.underlying t=some (.int .i8)): Reads P t λd=>∃n:Int,d=.int .i8 n/\-128<=n/\n<128 :=
 (Xiy i λn h=>by
  have:=Yik h
  have e:IntKind.i8.wrap n=if n%256>=128 then n%256-256 else n%256:=by simp[IntKind.wrap,IntKind.bits,IntKind.signed]
  show IntKind.i8.wrap n=n
  rw[e];split<;>omega).mono λd ⟨z,e,h⟩=>⟨z,e,Yik h⟩
theorem Xvx{P:Program}{t:TypeId}(i:P.underlying t=some (.int .i64)): Reads P t λd=>∃n:Int,d=.int .i64 n/\-9223372036854775808<=n/\n<9223372036854775808 :=
 (Xiy i λn h=>Num.wI (Ycd h)).mono λd ⟨z,e,h⟩=>⟨z,e,Ycd h⟩
theorem Xix{P:Program}{t e:TypeId}{r:D->Prop}{sz:Nat}(ht:P.underlying t=some (.slice e))(he:Reads P e r)(hs:P.cellsOf e=sz)(h0:0<sz): Reads P t λd=>∃l:List D,d=.sl sz l/\l.length<9223372036854775808/\∀y∈l,r y:=by
 intro w H enc spare held fuel cs x h
 rcases DataW.trod_slice ht h with ⟨V,_⟩ | ⟨a,len,cap,elems,rest,n,_,V,_,hb,hl,hm,hlen,hel,_,_⟩
 exact⟨_,⟨[],rfl,by decide,λy hy=>nomatch hy⟩,none,0,V,by decide,by decide,.inl rfl⟩
 have hcap:cap<9223372036854775808:=by
  have:maxLen<9223372036854775808:=by decide
  omega
 have hdat:∀i,i<len->∃I y,w.cells? 0 (a.add (i*P.cellsOf e)) (P.cellsOf e)=some I/\r y/\D.At (gw0 w) y I:=λi hi=>by
  have h2:=hel i hi
  rw[W0e (by omega)] at h2
  obtain⟨I,h3,h4⟩:=Option.bind_eq_some_iff.1 h2
  obtain⟨y,O,Z⟩:=he w h4
  exact⟨I,y,h3,O,Z⟩
 have T:∀k,k<=len->∃ys:List D,ys.length=k/\∀i y,ys[i]?=some y->r y/\∃I,w.cells? 0 (a.add (i*P.cellsOf e)) (P.cellsOf e)=some I/\D.At (gw0 w) y I:=by
  intro k
  induction k with
  | zero=>intro _;exact⟨[],rfl,λi y h=>nomatch h⟩
  | succ k ih =>
   intro hk
   obtain⟨ys,V,h2⟩:=ih (by omega)
   obtain⟨I,y,h3,h4,O⟩:=hdat k (by omega)
   refine⟨ys++[y],by simp[V],λi z M=>?_⟩
   by_cases hik:i<k
   rw[W0q (by omega)] at M;exact h2 i z M
   rw[W0n (by omega)] at M
   by_cases hie:i=k
   subst hie
   rw[V,W3a] at M
   injection M with M
   subst M
   exact⟨h4,I,h3,O⟩
   rw[W1y (by simp;omega)] at M;cases M
 obtain⟨ys,hy1,U⟩:=T len (W0a _)
 refine⟨_,⟨ys,rfl,by omega,λy hy=>?_⟩,some a,cap,by rw[V,hy1],by omega,by omega,?_⟩
 obtain⟨i,hi⟩:=W3d hy
 exact(U i y hi).1
 by_cases M:len=0
 exact .inl (W0m (by omega))
 obtain⟨y0,hy0⟩:∃y,ys[0]?=some y:=⟨_,W0e (by omega)⟩
 obtain⟨_,cs0,h3,h4⟩:=U 0 y0 hy0
 obtain⟨_,hl0,hc0⟩:=World.cells?_some h3
 have o:=hc0 0 (by omega)
 have e0:(a.add (0*P.cellsOf e)).add 0=a:=by rw[W4y];rfl
 rw[e0] at o
 obtain⟨v0,hv0⟩:∃v,cs0[0]?=some v:=⟨_,W0e (by omega)⟩
 rw[hv0] at o
 have hsp:a.spot=none:=by
  unfold World.cell? at o
  split at o
  split at o
  cases o
  rename_i hs;cases hh:a.spot with
  | none=>rfl
  | some s=>rw[hh] at hs;simp at hs
  cases o
 obtain⟨b,off,sp⟩:=a
 have hsp':sp=none:=hsp
 subst hsp'
 have add0:∀(b off k:Nat),(⟨b,off,none⟩:Addr).add k=⟨b,off+k,none⟩:=λb off k=>by
  unfold Addr.add;split
  rename_i h;subst h;rfl
  rfl
 refine .inr ⟨b,off,rfl,?_⟩
 have row:∀(ys:List D) (k:Nat),(∀i y,ys[i]?=some y->∃I,w.cells? 0 ((⟨b,off,none⟩:Addr).add ((k+i)*P.cellsOf e)) (P.cellsOf e)=some I/\D.At (gw0 w) y I)->D.Row (gw0 w) b sz (off+k*sz) ys:=by
  intro ys
  induction ys with
  | nil=>intro k _;trivial
  | cons y ys ih =>
   intro k hh
   obtain⟨I,O,Z⟩:=hh 0 y rfl
   obtain⟨_,hl1,hc1⟩:=World.cells?_some O
   refine⟨⟨I,Z,by rw[<-D.at_len y Z,hl1,hs],λj v hj=>⟨?_,λh=>h⟩⟩,?_⟩
   have hjl:j<P.cellsOf e:=by
    rw[<-hl1]
    by_cases h:j<I.length
    exact h
    rw[W1y (by omega)] at hj;cases hj
   have:=hc1 j hjl
   rw[add0,add0,hj,hs,W2e] at this
   exact this
   have:=ih (k+1) λi y hi=>by
    obtain⟨I,O,Z⟩:=hh (i+1) y hi
    exact⟨I,by rw[show k+1+i=k+(i+1) by omega];exact O,Z⟩
   rw[W1f,W7n,<-W4z] at this
   exact this
 have:=row ys 0 λi y hi=>by
  rw[W1l];exact(U i y hi).2
 rw[W4y,W2e] at this
 exact this
inductive FieldsRd (P:Program):List Field->Nat->(D->Prop)->Prop where
 | one {f:Field} {o:Nat} {r:D->Prop} (h1:f.offset=o) (h2:Reads P f.type r):FieldsRd P [f] o r
 | cons {f:Field} {fs:List Field} {o n:Nat} {r s:D->Prop} (h1:f.offset=o) (h2:Reads P f.type r) (h3:P.cellsOf f.type=n) (h4:FieldsRd P fs (o+n) s):FieldsRd P (f::fs) o (λd=>∃a c,d=.pr a c/\r a/\s c)
theorem FieldsRd.read{P:Program}{fs:List Field}{o:Nat}{r:D->Prop}(hf:FieldsRd P fs o r){w:World}{H:Type}{enc:TypeId×Value->H}{spare:Nat->Bool}{held:Bool}{n:Nat}{cs:List Value}
 (h:∀f∈fs,∃x,DataW.trod enc P w 0 spare held n f.type ((cs.drop f.offset).take (P.cellsOf f.type))=some x) (Z:∀f∈fs.getLast?,cs.length=f.offset+P.cellsOf f.type):∃d,r d/\D.At (gw0 w) d (cs.drop o):=by
 induction hf with
 | @one f o r M O =>
  obtain⟨x,I⟩:=h f (W0w ..)
  have:=Z f rfl
  rw[W0b (by rw[W1u];omega),M] at I
  exact O w I
 | @cons f fs o n r s M O h3 h4 ih =>
  obtain⟨x,I⟩:=h f (W0w ..)
  rw[M,h3] at I
  obtain⟨i,hi,T⟩:=O w I
  obtain⟨j,hj,U⟩:=ih (λg V=>h g (W1c _ V)) λg V=>Z g (by cases fs with | nil=>cases V | cons y ys=>rwa[List.getLast?_cons_cons])
  exact⟨.pr i j,⟨i,j,rfl,hi,hj⟩,_,_,by rw[<-W6v,W6c],T,U⟩
theorem Xes{P:Program}{t:TypeId}{fs:Array Field}{r:D->Prop}(M:P.underlying t=some (.struct fs))(hf:FieldsRd P fs.toList 0 r)(O:∀f∈fs.toList.getLast?,P.cellsOf t=f.offset+P.cellsOf f.type): Reads P t λd=>∃a,d=.st a/\r a:=by
 intro w H enc spare held I cs x h
 obtain⟨xs,n,_,_,T,U,V⟩:=DataW.trod_struct M h
 obtain⟨d,Z,h2⟩:=hf.read (w:=w) (enc:=enc) (spare:=spare) (held:=held) (n:=n) (cs:=cs) (λf o=>by
  obtain⟨i,hi⟩:=W3d o
  have j:fs[i]?=some f:=by simpa using hi
  have hil:i<fs.size:=by
   by_cases h:i<fs.size
   exact h
   rw[W3y (by omega)] at j;cases j
  exact⟨_,(V i f j).trans (W0e (by omega))⟩) (λf hf=>by rw[T,O f hf])
 exact⟨.st d,⟨d,rfl,Z⟩,h2⟩
theorem Xna{P:Program}{t e:TypeId}{r:D->Prop}(V:P.underlying t=some (.array 3 e))(i:Reads P e r)(Z:P.cellsOf e=1)(h3:P.cellsOf t=3): Reads P t λd=>∃a b c,d=.st (.pr a (.pr b c))/\r a/\r b/\r c:=by
 intro w H enc j I M cs x h
 obtain⟨xs,m,_,_,O,hxl,o⟩:=DataW.trod_array V h
 rw[h3] at O
 match cs,O with
 | [u,v,z],_ =>
  have g0:=o 0 (by decide)
  have T:=o 1 (by decide)
  have U:=o 2 (by decide)
  rw[Z,W0e (by omega)] at g0 T U
  obtain⟨a,a1,a2⟩:=i w g0
  obtain⟨b,b1,b2⟩:=i w T
  obtain⟨c,c1,c2⟩:=i w U
  exact⟨_,⟨a,b,c,rfl,a1,b1,c1⟩,[u],[v,z],rfl,a2,[v],[z],rfl,b2,c2⟩
end Go.Vm
namespace Go.Proofs.YtnedfplmoojbaaaGreatDoor
open Go Go.Vm
def Yrn: List (Nat×TI):=[(2,⟨.int .i64 0,.bool false,0,0⟩),(3,⟨.int .i64 0,.bool false,0,0⟩),(4,⟨.bool false,.bool false,0,0⟩),(5,⟨.int .u8 0,.bool false,0,0⟩),(9,⟨.str [],.bool false,0,0⟩),(23,⟨.sl 5 [],.st (.pr (.int .u8 0) (.pr (.int .u8 0) (.pr (.int .u8 0) (.pr (.int .i8 0) (.int .u8 0))))),5,0⟩),(24,⟨.sl 1 [],.int .u8 0,1,0⟩),(26,⟨.st (.pr (.sl 5 []) (.sl 1 [])),.bool false,0,0⟩),(27,⟨.st (.pr (.int .i64 0) (.pr (.int .i64 0) (.int .i64 0))),.int .i64 0,8,3⟩),(29,⟨.st (.pr (.st (.pr (.sl 5 []) (.sl 1 []))) (.st (.pr (.int .i64 0) (.pr (.int .i64 0) (.int .i64 0))))),.bool false,0,0⟩),(30,⟨.int .i8 0,.bool false,0,0⟩),(31,⟨.sl 5 [],.st (.pr (.st (.pr (.st (.pr (.sl 1 []) (.sl 4 []))) (.st (.pr (.sl 1 []) (.sl 4 []))))) (.int .i64 0)),104,0⟩),(35,⟨.sl 1 [],.sl 4 [],24,0⟩),(36,⟨.sl 4 [],.st (.pr (.st (.pr (.bool false) (.sl 1 []))) (.st (.pr (.bool false) (.sl 1 [])))),64,0⟩),(38,⟨.st (.pr (.sl 1 []) (.sl 4 [])),.bool false,0,0⟩),(40,⟨.st (.pr (.st (.pr (.sl 1 []) (.sl 4 []))) (.st (.pr (.sl 1 []) (.sl 4 [])))),.bool false,0,0⟩),(42,⟨.st (.pr (.st (.pr (.st (.pr (.sl 1 []) (.sl 4 []))) (.st (.pr (.sl 1 []) (.sl 4 []))))) (.int .i64 0)),.bool false,0,0⟩),(44,⟨.sl 7 [],.st (.pr (.st (.pr (.sl 1 []) (.sl 4 []))) (.st (.pr (.st (.pr (.st (.pr (.sl 1 []) (.sl 4 []))) (.st (.pr (.sl 1 []) (.sl 4 []))))) (.int .i64 0)))),152,0⟩),(46,⟨.st (.pr (.st (.pr (.sl 1 []) (.sl 4 []))) (.sl 7 [])),.bool false,0,0⟩),(47,⟨.int .i64 0,.bool false,0,0⟩)]
def Yrm: List (Nat×TI):=[(56,⟨.sl 1 [],.int .u32 0,4,0⟩),(58,⟨.st (.pr (.bool false) (.sl 1 [])),.bool false,0,0⟩),(60,⟨.st (.pr (.st (.pr (.bool false) (.sl 1 []))) (.st (.pr (.bool false) (.sl 1 [])))),.bool false,0,0⟩),(62,⟨.st (.pr (.st (.pr (.st (.pr (.bool false) (.sl 1 []))) (.st (.pr (.bool false) (.sl 1 []))))) (.st (.pr (.st (.pr (.bool false) (.sl 1 []))) (.st (.pr (.bool false) (.sl 1 [])))))),.bool false,0,0⟩),(71,⟨.sl 4 [],.st (.pr (.st (.pr (.sl 1 []) (.sl 4 []))) (.st (.pr (.sl 1 []) (.sl 4 [])))),96,0⟩),(79,⟨.sl 2 [],.st (.pr (.bool false) (.sl 1 [])),32,0⟩),(81,⟨.st (.pr (.sl 2 []) (.int .i64 0)),.bool false,0,0⟩),(90,⟨.st (.pr (.st (.pr (.sl 1 []) (.sl 4 []))) (.st (.pr (.st (.pr (.st (.pr (.sl 1 []) (.sl 4 []))) (.st (.pr (.sl 1 []) (.sl 4 []))))) (.int .i64 0)))),.bool false,0,0⟩),(92,⟨.raw .nilFunc,.bool false,0,0⟩),(105,⟨.sl 8 [],.st (.pr (.st (.pr (.st (.pr (.bool false) (.sl 1 []))) (.st (.pr (.bool false) (.sl 1 []))))) (.st (.pr (.st (.pr (.bool false) (.sl 1 []))) (.st (.pr (.bool false) (.sl 1 [])))))),128,0⟩),(137,⟨.raw .nilFunc,.bool false,0,0⟩),(152,⟨.raw .nilFunc,.bool false,0,0⟩),(157,⟨.int .u64 0,.bool false,0,0⟩),(158,⟨.sl 2 [],.st (.pr (.sl 1 []) (.sl 4 [])),48,0⟩),(166,⟨.int .u32 0,.bool false,0,0⟩),(167,⟨.int .u64 0,.bool false,0,0⟩),(168,⟨.raw (.pointer none),.bool false,0,0⟩),(170,⟨.st (.pr (.raw (.pointer none)) (.sl 1 [])),.bool false,0,0⟩),(186,⟨.sl 2 [],.st (.pr (.sl 4 []) (.sl 4 [])),48,0⟩),(189,⟨.st (.pr (.sl 4 []) (.sl 4 [])),.bool false,0,0⟩)]
def Yrl: List (Nat×TI):=[(191,⟨.raw .nilFunc,.bool false,0,0⟩),(207,⟨.raw .nilFunc,.bool false,0,0⟩),(213,⟨.raw (.pointer none),.bool false,0,0⟩),(215,⟨.st (.int .i64 0),.bool false,0,0⟩),(229,⟨.st (.pr (.int .u8 0) (.pr (.int .u8 0) (.pr (.int .u8 0) (.pr (.int .i8 0) (.int .u8 0))))),.bool false,0,0⟩),(239,⟨.raw (.pointer none),.bool false,0,0⟩),(259,⟨.st (.pr (.sl 1 []) (.sl 1 [])),.bool false,0,0⟩),(264,⟨.raw .nilFunc,.bool false,0,0⟩),(290,⟨.st (.pr (.int .u8 0) (.pr (.int .u8 0) (.pr (.int .u8 0) (.pr (.int .u8 0) (.pr (.int .u8 0) (.pr (.int .u8 0) (.pr (.int .u8 0) (.pr (.int .u8 0) (.pr (.int .u8 0) (.pr (.int .u8 0) (.pr (.int .u8 0) (.pr (.int .u8 0) (.pr (.int .u8 0) (.pr (.int .u8 0) (.pr (.int .u8 0) (.pr (.int .u8 0) (.pr (.int .u8 0) (.pr (.int .u8 0) (.pr (.int .u8 0) (.pr (.int .u8 0) (.pr (.int .u8 0) (.pr (.int .u8 0) (.pr (.int .u8 0) (.int .u8 0)))))))))))))))))))))))),.int .u8 0,1,24⟩),(314,⟨.st (.pr (.int .u64 0) (.pr (.int .u64 0) (.pr (.int .u64 0) (.pr (.int .u64 0) (.pr (.int .u64 0) (.pr (.int .u64 0) (.pr (.int .u64 0) (.pr (.int .u64 0) (.pr (.int .u64 0) (.pr (.int .u64 0) (.pr (.int .u64 0) (.pr (.int .u64 0) (.pr (.int .u64 0) (.pr (.int .u64 0) (.pr (.int .u64 0) (.pr (.int .u64 0) (.pr (.int .u64 0) (.pr (.int .u64 0) (.pr (.int .u64 0) (.int .u64 0)))))))))))))))))))),.int .u64 0,8,20⟩),(315,⟨.st (chD (.int .u8 0) 64),.int .u8 0,1,65⟩),(324,⟨.st (chD (.int .u8 0) 31),.int .u8 0,1,32⟩),(325,⟨.st (chD (.int .u8 0) 63),.int .u8 0,1,64⟩)]
def Yrk: List (Nat×TI):=Yrn++Yrm++Yrl
theorem Xuz: (Yrk.all λx=>tyB Tryz.prog x.1 x.2)=true:=by kernel_rfl
instance:Mx Tryz.prog:=⟨Checked.mixed Tryz.checked⟩
instance:Gb Tryz.prog:=⟨λW=>∀i,i<20->Fr W 0 i (.int .u64 ((10^i:Nat):Int)),λ_ _ l h i hi=>l _ _ _ (h i hi)⟩
instance:Tab Tryz.prog:=⟨Vm.look Yrk,λT i h=>(Ycl Xuz T i h).1⟩
instance:Npr Tryz.prog:=⟨λT i h=>(Ycl Xuz T i h).2⟩
end Go.Proofs.YtnedfplmoojbaaaGreatDoor
namespace Go.Vm
open Go Go.ChangeShapes Go.WideShapes Go.ChangeAt Go.RowKit
def Arg(P:Program)(t:TypeId)(r:D->Prop): Prop:=∀(W:World) (h:Nat) {H:Type} {enc:TypeId×Value->H} {spare:Nat->Bool} {held:Bool} {v:Value} {d:DataW H} {p:List MemPlace},
 Value.okWide P W .any h t v->DataW.Trod enc P W 0 spare held t v d p->∃x,r x/\AV.V (gw0 W) θe (.d x) v
theorem Xt2{P:Program}{t:TypeId}{fs:Array Field}{r:D->Prop}(M:P.underlying t=some (.struct fs))(hr:Reads P t r)(O:∀x,r x->x.ag=true): Arg P t r:=λW j _ _ _ _ v d p i h=>by
 unfold Value.okWide at i
 rw[M] at i
 obtain⟨cs,rfl,_⟩:=i
 obtain⟨o,h⟩:=h
 obtain⟨x,I,T⟩:=hr W h
 exact⟨x,I,cs.toList,T,by rw[show AV.ag (.d x)=true from O x I];simp[mkv]⟩
theorem Yhn{P:Program}{t:TypeId}{k:IntKind}{r:D->Prop}(M:P.underlying t=some (.int k))(hr:Reads P t r)(O:∀x,r x->x.ag=false): Arg P t r:=λW j _ _ _ _ v d p i h=>by
 obtain⟨z,rfl⟩:=okWide_int M i
 obtain⟨o,h⟩:=h
 obtain⟨x,I,T⟩:=hr W h
 exact⟨x,I,_,T,by rw[show AV.ag (.d x)=false from O x I];rfl⟩
inductive Args (P:Program):List TypeId->(List D->Prop)->Prop where
 | nil:Args P [] (·=[])
 | cons {t:TypeId} {ts:List TypeId} {r:D->Prop} {R:List D->Prop} (h:Arg P t r) (hc:P.readableRec t=true) (hl:t<P.types.size) (k:Args P ts R):Args P (t::ts) λds=>∃x xs,ds=x::xs/\r x/\R xs
theorem Args.read{P:Program}{ts:List TypeId}{R:List D->Prop}(ha:Args P ts R){W:World}{i:Nat}{H:Type}{enc:TypeId×Value->H}{spare:Nat->Bool}{held:Bool}: ∀ {vs:List Value} {o:List (DataW H)} {p:List MemPlace},
 (∀(j:Nat) t v,ts[j]?=some t->vs[j]?=some v->Value.okWide P W .any i t v)->DataW.TrodAll enc P W 0 spare held ts vs o p->∃xs,R xs/\Xjy (gw0 W) θe (xs.map .d) vs:=by
 induction ha with
 | nil=>intro vs o p _ h;obtain⟨rfl,_⟩:=trodAll_nil h;exact⟨[],rfl,trivial⟩
 | cons h hc hl k M =>
  intro vs o p I O
  obtain⟨v,vs,d,T,p,q,rfl,rfl,rfl,hd,U⟩:=trodAll_cons O
  obtain⟨x,V,Z⟩:=h W i (I 0 _ v rfl rfl) hd
  obtain⟨xs,h3,h4⟩:=M (λj t v h5 h6=>I (j+1) t v h5 h6) U
  exact⟨x::xs,⟨x,xs,rfl,V,h3⟩,Z,h4⟩
theorem Args.stay{P:Program}(O:laidOutB P=true){ts:List TypeId}{R:List D->Prop}(ha:Args P ts R){W W':World}{H:Type}{enc:TypeId×Value->H}{i:Nat->Bool}(hb:Below W.heap.size W W'): ∀ {vs:List Value} {o:List (DataW H)} {p:List MemPlace},
 (∀x∈p,x.block<W.heap.size)->(∀x∈p,i x.block=true)->DataW.TrodAll enc P W 0 (λ_=>true) true ts vs o p->DataW.TrodAll enc P W' 0 i true ts vs o p:=by
 induction ha with
 | nil=>intro vs o p _ _ h;obtain⟨rfl,rfl,rfl⟩:=trodAll_nil h;rfl
 | cons h T U k V =>
  intro vs o p I M Z
  obtain⟨v,vs,d,ds',p,q,rfl,rfl,rfl,hd,hr⟩:=trodAll_cons Z
  exact⟨p,q,WideElems.Trod_stays O T U hd (λx j=>hb.same (I x (by simp[j]))) (λx j=>M x (by simp[j])),V (λx j=>I x (by simp[j])) (λx j=>M x (by simp[j])) hr,rfl⟩
theorem Xlw{H:Type}{enc:TypeId×Value->H}{P:Program}{f:Func}{s:ChangeSpec}{Xca U i V:Bool}{W W':World}{args:Array Value}{v:Value}{Z gs:List (DataW H)}{h pa pv:List MemPlace}
 (hW:DataW.Whole enc P f.params.toList s.vars Xca W args.toList Z gs h)
 (O:∀(b:Nat) (sp:Nat->Bool) (hd:Bool),DataW.TrodAll enc P W' b sp hd f.resultTypes.toList (v.resultList f.resultTypes.size) (s.fn H (Z++gs)).results [])
 (o:∀sp:Nat->Bool,(∀p∈h,sp p.block=true)->DataW.TrodAll enc P W' 0 sp true f.params.toList args.toList (s.fn H (Z++gs)).args pa)
 (I:∀sp:Nat->Bool,(∀p∈h,sp p.block=true)->DataW.TrodVars enc P W' sp s.vars (s.fn H (Z++gs)).vars pv)
 (M:h=pa++pv) (hb:Below W.heap.size W W')
 (hok:∀(j:Nat) (t:TypeId) (r:Value),f.resultTypes[j]?=some t->(v.resultList f.resultTypes.size)[j]?=some r->Value.okWide P W' .any 0 t r) :
 s.post enc P f Xca U i V W args v W':=by
 have hlt:=hW.lt
 have T:∀p∈h,(λb=>decide (b<W.heap.size)) p.block=true:=λp hp=>by simpa using hlt p hp
 refine⟨Z,gs,h,[],pa,pv,hW,O _ _ _,o _ T,I _ T,World.keptBut_mono (λp hp=>⟨hp,?_⟩) (hb.frame (·∈h)),λ_=>?_⟩
 rw[M,W2p] at hp
 exact Or.inr hp
 obtain⟨_,_,_,_,_,hz,hn⟩:=hW
 refine⟨hok,_,_,([]++pa)++pv,⟨[]++pa,pv,trodAll_append (o _ (λ_ _=>rfl)) (O _ _ _),I _ (λ_ _=>rfl),rfl,?_,?_⟩,?_⟩
 intro b off hp
 have hp':MemPlace.cell b off∈h:=by rw[M];simpa using hp
 rw[hb.frozen (hlt _ hp')]
 exact hz b off hp'
 intro ha
 have:=hn ha
 rw[M] at this
 simpa using this
 intro p hp _
 rw[M]
 simpa using hp
theorem Yr2{P:Program}[gb:Gb P](hP:laidOutB P=true){tB:TypeId}(hB:P.underlying tB=some .bool){f:FuncId}{fn:Func}{s:ChangeSpec}{H:Type}{enc:TypeId×Value->H}{R:List D->Prop}(hp:Args P fn.params.toList R)(hr:fn.resultTypes=#[tB])(M:s.vars=[])
 (hs:∀i:List (DataW H),i.length=fn.params.size->s.fn H i={ results:=[.lit (.bool true)],args:=i })
 (law:∀xs,R xs->C P f (xs.map .d) (·=.b true))
 (W:World) (O:Nat) (args:Array Value) (i gs:List (DataW H)) (o:List MemPlace)
 (T:∀(j:Nat) t v,fn.params[j]?=some t->args[j]?=some v->Value.okWide P W .any O t v)
 (Z:DataW.Whole enc P fn.params.toList s.vars false W args.toList i gs o) (hgb:gb.g (gw0 W)) :
 Calls P f args W λe W'=>∃v,e=.returned v/\s.post enc P fn false true false false W args v W':=by
 have hW':=Z
 have hlt:=Z.lt
 rw[M] at Z
 obtain⟨p,q,hA,hV,rfl,hfz,hnd⟩:=Z
 obtain⟨rfl,rfl⟩:=trodVars_none hV
 obtain⟨xs,h1,h2⟩:=hp.read (λj t v ht hv=>T j t v (by simpa using ht) (by simpa using hv)) hA
 have U:i.length=fn.params.size:=by
  have:∀ {sp:Nat->Bool} {hd:Bool} {ts:List TypeId} {vs:List Value} {i:List (DataW H)} {p:List MemPlace},DataW.TrodAll enc P W 0 sp hd ts vs i p->i.length=ts.length:=by
   intro sp hd ts
   induction ts with
   | nil=>intro vs i p h;obtain⟨_,rfl,_⟩:=trodAll_nil h;rfl
   | cons t ts ih=>intro vs i p h;obtain⟨_,_,_,_,_,_,_,rfl,_,_,h⟩:=trodAll_cons h;simp[ih h]
  rw[this hA];simp
 have I:s.fn H (i++[])={ results:=[.lit (.bool true)],args:=i }:=by rw[W4x];exact hs i U
 have hc:=(law xs h1).2 (gw0 W) args.toList hgb h2
 rw[show args.toList.toArray=args by simp] at hc
 refine hc.mono ?_
 rintro e w' ⟨W1,v1,u,rfl,rfl,V,hv,_,rfl⟩
 have hb:Below W.heap.size W W1.w:=⟨V.os,V.tape,V.out,V.size,λk hk=>V.same k hk id⟩
 have hu:u=.bool true:=by
  obtain⟨cs,h3,h4⟩:=hv
  have h3:cs=[.bool true]:=h3
  rw[h4,h3];rfl
 subst hu
 refine⟨_,rfl,Xlw (pa:=p) (pv:=[]) hW' (λ_ _ _=>?_) (λsp hsp=>?_) (λ_ _=>?_) (by simp) hb (ok_one hr rfl (okWide_bool_mk hB _))⟩
 rw[hr,I]
 exact trodAll_mk1 (shut_bool hB _)
 rw[I]
 exact hp.stay hP hb (λx hx=>hlt x (by simpa using hx)) (λx hx=>hsp x (by simpa using hx)) hA
 rw[M,I];rfl
theorem Yax{P:Program}{f:FuncId}{fn:Func}{s:ChangeSpec}{c:OpenClaim}
 (M:(c.wf (OpenSpec.ofChange s)&&laidOutB P&&mapsRowed P)=true)
 (i:(fn.params.all (P.readableRec ·)&&namedTie P c.named s.vars&&(c.stops == [])&&(P.stops == [])&&(c.knobs == [])&&(P.stopKnobs == []))=true)
 (O:(c.inPlace==P.inPlace f)=true) (T:(c.unfollowed==P.unfollowed f)=true) (U:(c.recurses==P.recurses f)=true) (V:(c.named==P.varsNamed f)=true)
 (o:((c.maps==(fn.params.toList++s.plain.varTypes P).any (P.mapsRec ·))&&(c.ifaces==(fn.params.toList++s.plain.varTypes P).any (P.ifacesRec ·))&&(c.mapsOut==P.mapsAmong fn.resultTypes.toList) &&
  (c.loops==(fn.params.toList++s.plain.varTypes P).any (P.loopsFrom ·))&&(c.wideKeys==(fn.params.toList++s.plain.varTypes P++fn.resultTypes.toList).any (P.wideKeysFrom ·)))=true)
 (h:(s.vars.all (P.varReadable ·)&&fn.resultTypes.all (λt=>P.readableRec t&&decide (t<P.types.size))&&(c.ifacesOut==fn.resultTypes.toList.any (P.ifacesRec ·))&&(c.loopsOut==fn.resultTypes.toList.any (P.loopsFrom ·))&&(c.plainKeys==P.plainKeys)&&c.shortTexts.isNone&&P.stopsHeard&&P.mayEnter)=true)
 (I:((c.lifted==P.liftsFinal)&&(P.make==some c.make)&&(c.kinds==(if c.domain.isEmpty then [] else fn.params.toList.map λt=>match P.underlying t with | some (.int k)=>some k | _=>none))&&(c.pinned==c.pinnedBy))=true)
 (j:((c.veiled==(fn.params.toList++s.plain.varTypes P++fn.resultTypes.toList).any (P.veiledRec ·))&&c.veiledFits P fn.params.toList (fn.params.toList++s.plain.varTypes P++fn.resultTypes.toList))=true):joinedFacts P f fn s c=true:=by
 unfold joinedFacts
 rw[W0d] at j
 simp only[W0d] at M i o h I |-
 exact⟨⟨⟨⟨⟨⟨⟨⟨⟨⟨⟨⟨⟨⟨⟨⟨⟨⟨⟨⟨⟨⟨⟨⟨⟨⟨⟨⟨⟨⟨⟨M.1.1,M.1.2⟩,M.2⟩,i.1.1.1.1.1⟩,i.1.1.1.1.2⟩,i.1.1.1.2⟩,i.1.1.2⟩,i.1.2⟩,i.2⟩,O⟩,T⟩,U⟩,V⟩,o.1.1.1.1⟩,o.1.1.1.2⟩,o.1.1.2⟩,o.1.2⟩,o.2⟩,h.1.1.1.1.1.1.1⟩,h.1.1.1.1.1.1.2⟩,h.1.1.1.1.1.2⟩,h.1.1.1.1.2⟩,h.1.1.1.2⟩,h.1.1.2⟩,h.1.2⟩,h.2⟩,I.1.1.1⟩,I.1.1.2⟩,I.1.2⟩,I.2⟩,j.1⟩,j.2⟩
end Go.Vm
namespace Go.Proofs.YtnedfplmoojbaaaGreatDoor
open Go Go.Vm Go.Num
theorem own: ownKnob Tryz.prog.godebug=none:=by kernel_rfl
theorem Ygc: laidOutB Tryz.prog=true:=by kernel_rfl
end Go.Proofs.YtnedfplmoojbaaaGreatDoor

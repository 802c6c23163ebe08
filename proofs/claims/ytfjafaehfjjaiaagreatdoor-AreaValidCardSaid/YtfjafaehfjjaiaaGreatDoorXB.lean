/- part 2 -/
import Derived.Test.YtfjafaehfjjaiaaGreatDoorXA
import Derived.KernelRfl
import Derived.ProofKit
import Derived.OpenShut
import Derived.Test.YtfjafaehfjjaiaaGreatDoorChecked
import Derived.Test.YtfjafaehfjjaiaaGreatDoorRows
set_option linter.unusedVariables false
set_option linter.unusedSimpArgs false
set_option maxRecDepth 10000
namespace Go.Vm
open Go
section
section
variable{P:Program}{N:Nat->Prop}{W:GW}{θ:Loc}{g:Hp}{ρ:Operand->Value}
variable{tb:Nat->Option TI}{dd:Nat}{d:Option Nat}{ty:TypeId}{pos:String}{aft:Array Edge}{gd:Option (Nat×Bool)}{args:List AV}{v:AV}{us:List (Nat×Ob)}
theorem Stp.new0(h:Obs W θ N g){d:Nat}(hB:d<1000000)(hd:g d=none){x:Ob}(hx:x.R W (λi=>if i=d then (none,0) else θ i) d)(hi:∀i,¬x.ids i): Stp N W W θ (λi=>if i=d then (none,0) else θ i) g (upd g d x) where
 os:=_root_.rfl
 out:=_root_.rfl
 tape:=_root_.rfl
 size:=W0a _
 same:=λ_ _ _=>_root_.rfl
 A:=λ_ _ _ _=>W3x
 le:=LeF.refl W
 th:=λi y hy=>if_neg λe=>by rw[e,hd] at hy;cases hy
 hi:=λi h=>if_neg (by omega)
 obs:={
  r:=λo' y hy=>by
   rcases Xaf hy with ⟨e1,e2⟩ | ⟨e1,e2⟩
   . subst e1;subst e2;exact hx
   . exact(h.r o' y e2).keep (LeF.refl W) (if_neg e1) (λi hi=>if_neg λe=>by obtain⟨z,hz⟩:=h.ids o' y i e2 hi;rw[e,hd] at hz;cases hz) λ_ _ _=>⟨_root_.rfl,λ_ h=>h⟩
  new:=λo' y b hy hl hb=>by
   rcases Xaf hy with ⟨e1,e2⟩ | ⟨e1,e2⟩
   . subst e1;rw[if_pos _root_.rfl] at hb;cases hb
   . rw[if_neg e1] at hb;exact h.new o' y b e2 hl hb
  dis:=λo1 o2 y1 y2 b h1 h2 l1 l2 b1 b2=>by
   rcases Xaf h1 with ⟨e1,f1⟩ | ⟨e1,f1⟩
   . rw[if_pos e1] at b1;cases b1
   . rcases Xaf h2 with ⟨e2,f2⟩ | ⟨e2,f2⟩
     . rw[if_pos e2] at b2;cases b2
     . rw[if_neg e1] at b1;rw[if_neg e2] at b2;exact h.dis o1 o2 y1 y2 b f1 f2 l1 l2 b1 b2
  ids:=λo' y i hy hyi=>by
   rcases Xaf hy with ⟨e1,e2⟩ | ⟨e1,e2⟩
   . subst e2;exact absurd hyi (hi i)
   . obtain⟨z,hz⟩:=h.ids o' y i e2 hyi
     exact⟨z,by rw[Xak (λe=>by rw[e,hd] at hz;cases hz)];exact hz⟩ }
 dom:=λi y hy=>⟨y,by rw[Xak (λe=>by rw[e,hd] at hy;cases hy)];exact hy⟩
theorem Stp.kill(h:Obs W θ N g){o:Nat}{y:Ob}(ho:g o=some y): Stp N W W θ θ g (upd g o .dead) where
 os:=_root_.rfl
 out:=_root_.rfl
 tape:=_root_.rfl
 size:=W0a _
 same:=λ_ _ _=>_root_.rfl
 A:=λ_ _ _ _=>W3x
 le:=LeF.refl W
 th:=λ_ _ _=>_root_.rfl
 hi:=λ_ _=>_root_.rfl
 obs:={
  r:=λo' z hz=>by
   rcases Xaf hz with ⟨e1,e2⟩ | ⟨e1,e2⟩
   . subst e2;trivial
   . exact h.r o' z e2
  new:=λo' z b hz hl hb=>by
   rcases Xaf hz with ⟨e1,e2⟩ | ⟨e1,e2⟩
   . subst e2;cases hl
   . exact h.new o' z b e2 hl hb
  dis:=λo1 o2 y1 y2 b h1 h2 l1 l2 b1 b2=>by
   rcases Xaf h1 with ⟨e1,f1⟩ | ⟨e1,f1⟩
   . subst f1;cases l1
   . rcases Xaf h2 with ⟨e2,f2⟩ | ⟨e2,f2⟩
     . subst f2;cases l2
     . exact h.dis o1 o2 y1 y2 b f1 f2 l1 l2 b1 b2
  ids:=λo' z i hz hzi=>by
   have:∃w,g i=some w:=by
    rcases Xaf hz with ⟨e1,e2⟩ | ⟨e1,e2⟩
    . subst e2;exact hzi.elim
    . exact h.ids o' z i e2 hzi
   obtain⟨w,hw⟩:=this
   by_cases e:i=o
   . subst e;exact⟨_,Xaj _ _ _⟩
   . exact⟨w,by rw[Xak e];exact hw⟩ }
 dom:=λi z hz=>by
  by_cases e:i=o
  . subst e;exact⟨_,Xaj _ _ _⟩
  . exact⟨z,by rw[Xak e];exact hz⟩
theorem Yef{o sz c n:Nat}{xs:List D}{p:Option Addr}(hn:n=xs.length)(hc:(θ o).2=c)(h1:(θ o).2=0\/p=ad (θ o).1)(h2:xs.length<=(θ o).2)(h3:(θ o).2<9223372036854775808)(h4:xs=[]\/∃b,(θ o).1=some b/\D.Row W b sz 0 xs):
 AV.V W θ (.gr o sz xs) (.slice p n c):=by subst hn;subst hc;exact⟨_,⟨p,rfl,h1,h2,h3,h4⟩,rfl⟩
theorem Xqu(hO:Obs W θ N g)(hN:∀b,W.size<=b->N b)(hB:dd<1000000)(hd:g dd=none){sz c:Nat}{E:TypeId}{xs:List D}{cs zs:List Value}(ha:AtL W sz xs cs)(hl:cs.length=xs.length*sz)(hx:xs.length<=c)(hc:c<9223372036854775808)(hz:(cs++zs).length=c*sz):
 ∃W' θ',W'.w=W.w.alloc (.cells (cs++zs).toArray E)/\Stp N W W' θ θ' g (upd g dd (.tok xs.length sz))/\AV.V W' θ' (.gr dd sz xs) (.slice (some ⟨W.size,0,none⟩) xs.length c):=by
 have hp:∀q u,(cs++zs)[q]?=some u->(W.push (.cells (cs++zs).toArray E) (λi=>xs.length*sz<=i)).w.cell? ⟨W.size,q,none⟩=some u:=λq u hu=>by
  rw[<-hu];exact Xa9 (Xbc ..) q
 refine⟨W.push (.cells (cs++zs).toArray E) (λi=>xs.length*sz<=i),_,rfl,Stp.push (c:=c) hO hN hB hd _ _ (x:=.tok xs.length sz) ⟨by simpa using hx,by simpa using hc,.inr ⟨W.size,cs++zs,E,by simp,Xbc ..,by simpa using hz,λi hi=>.inr ⟨rfl,hi⟩⟩⟩ (λi hi=>hi.elim),
  Yef rfl (by simp) (.inr (by simp[ad])) (by simpa using hx) (by simpa using hc) (.inr ⟨W.size,by simp,?_⟩)⟩
 refine(ha.mono (Xeg _ _ _)).row λq u hq hu=>?_
 rw[W1k]
 refine⟨hp q u (by rw[W1a (by omega)];exact hu),?_⟩
 rintro(h | ⟨_,h⟩)
 . exact absurd (W.hA _ _ h) (W7g _)
 . exact absurd h (by omega)
theorem Xyt{o sz c n b:Nat}{xs:List D}(h1:(θ o).1=some b)(hc:(θ o).2=c)(h2:n<=(θ o).2)(h3:(θ o).2<9223372036854775808): AV.V W θ (.own o sz 0 n) (.slice (some ⟨b,0,none⟩) n c):=by
 subst hc;exact⟨_,⟨b,_,h1,by omega,h3,rfl,λ_=>by rw[W4o]⟩,rfl⟩
theorem Xkw(hO:Obs W θ N g)(hN:∀b,W.size<=b->N b)(hB:dd<1000000)(hd:g dd=none){sz c:Nat}{E:TypeId}{xs:List D}{cs zs:List Value}(ha:AtL W sz xs cs)(hl:cs.length=xs.length*sz)(hx:xs.length<=c)(hc:c<9223372036854775808)(hz:(cs++zs).length=c*sz):
 ∃W' θ',W'.w=W.w.alloc (.cells (cs++zs).toArray E)/\Stp N W W' θ θ' g (upd g dd (.arr sz xs))/\AV.V W' θ' (.own dd sz 0 xs.length) (.slice (some ⟨W.size,0,none⟩) xs.length c):=by
 refine⟨W.push (.cells (cs++zs).toArray E) (λi=>True),_,rfl,Stp.push (c:=c) hO hN hB hd _ _ (x:=.arr sz xs) ⟨W.size,cs++zs,E,by simp,Xbc ..,by simpa using hz,by simpa using hc,by simpa using hx,?_,λi=>.inr ⟨rfl,trivial⟩⟩ (λi hi=>hi.elim),
  Xyt (o:=dd) (xs:=xs) (by simp) (by simp) (by simpa using hx) (by simpa using hc)⟩
 exact(ha.mono (Xeg _ _ _)).ext λq v hq hv=>by rw[W1a (by omega)];exact hv
theorem Xch{T:TypeId}{x y:Operand}{r:Value}{w':World}(h:(Builtin.append_ #[T,T] ty #[ρ x,ρ y]).run P W.w=.ok r w'):
 (execOp ρ ⟨d,.call ⟨.builtin .append,#[x,y],#[T,T]⟩,ty,pos,aft,gd⟩).run P W.w=.ok (.value r) w':=by
 have h1:(execOp ρ ⟨d,.call ⟨.builtin .append,#[x,y],#[T,T]⟩,ty,pos,aft,gd⟩)=(Builtin.append_ #[T,T] ty #[ρ x,ρ y] >>= λv=>pure (.value v)):=by
  simp[execOp,resolve,invoke,builtin]
 rw[h1,Sem.run_bind,h];rfl
theorem Xqo{W:GW}{p:Option Addr}{sz:Nat}{xs:List D}(h:xs=[]\/∃b,p=some ⟨b,0,none⟩/\D.Row W b sz 0 xs): ∃olds:List Value,olds.length=xs.length*sz/\(xs.length=0\/∃b,p=some ⟨b,0,none⟩)/\(∀b,p=some ⟨b,0,none⟩->∀j u,olds[j]?=some u->Fr W b (0+j) u)/\AtL W sz xs olds:=by
 rcases h with rfl | ⟨b,rfl,h⟩
 . exact⟨[],by simp,.inl rfl,λ_ _ j u h=>by simp at h,λi x h=>by simp at h⟩
 . obtain⟨olds,k1,k2,_,k4⟩:=Xhi h
   exact⟨olds,k1,.inr ⟨b,rfl⟩,λb' hb' j u hj=>by injection hb' with hb';injection hb' with hb';subst hb';exact k2 j u hj,k4⟩
theorem Xsf{T E:TypeId}{ti:TI}{ii:TypeInfo}(u1:P.underlying T=some (.slice E))(i1:P.info? E=some ii)(i2:ii.size=ti.e.size){b m c k c2:Nat}{q:Option Addr}{news:List Value}(hn:news.length=k*ti.e.size)
 (hnr:k=0\/∃b off,q=some ⟨b,off,none⟩/\∀j u,news[j]?=some u->W.w.cell? ⟨b,off+j,none⟩=some u) (hone:∀u∈news,Xf4 u=true) (hk:0<k) (hroom:m+k<=c) {cs:List Value} {T':TypeId}
 (hb:W.w.heap[b]?=some (.cells cs.toArray T' (0,0))) (hl:cs.length=c*ti.e.size) :
 (Builtin.append_ #[T,T] ty #[.slice (some ⟨b,0,none⟩) m c,.slice q k c2]).run P W.w=.ok (.slice (some ⟨b,0,none⟩) (m+k) c) (Xh2 W.w b (.cells (spl cs (m*ti.e.size) news).toArray T' (0,0))):=by
 rcases hnr with h | ⟨b2,off2,hq,hnc⟩
 . omega
 subst hq
 have hnl':news.length=k*ii.size:=by rw[hn,i2]
 have hnc':∀j u,news[j]?=some u->W.w.cell? ((⟨b2,off2,none⟩:Addr).add j)=some u:=λj u hj=>by rw[add0];exact hnc j u hj
 have hfit:m*ii.size+news.length<=cs.length:=by
  rw[hnl',hl,i2,<-W1h];exact W0q _ hroom
 have hf:=run_firstCells_some (P:=P) W.w ii.size k ⟨b2,off2,none⟩ k c2 news hnl' hnc'
 have hst:=Xdb (P:=P) (off:=0+m*ii.size) news W.w 0 cs hb (by omega) hone
 simp only[W2n,W1k] at hst
 rw[<-i2]
 simp[Builtin.append_,run_underlying u1,sizeOf,typeInfo,i1,Builtin.lenOf,hroom,hf,add0,hst]
theorem Yj1{T T':TypeId}{x y:Operand}(hT:∀T ti,tb T=some ti->TyOk P T ti/\∀a c,ti.z≠.pr a c)(hO:Obs W θ N g)(hN:∀b,W.size<=b->N b)(hB:dd<1000000)(hF:F tb dd g (.call ⟨.builtin .append,#[x,y],#[T,T']⟩) args=some (v,us))(ha:Xbm W θ g ρ [x,y] args):
 Good P N W θ g ρ ⟨d,.call ⟨.builtin .append,#[x,y],#[T,T']⟩,ty,pos,aft,gd⟩ v (Xbe g us):=by
 simp only[F] at hF
 split at hF<;>try cases hF
 rename_i a c
 split at hF<;>try cases hF
 rename_i hTT
 subst hTT
 split at hF<;>try cases hF
 rename_i ti hti hd
 obtain⟨hk,hp⟩:=hT _ _ hti
 obtain⟨t,u1,_,u3⟩:=hk.u
 split at hF<;>try cases hF
 rename_i sz xs0 hz
 rw[hz] at u3
 obtain⟨E,e,hsz,hez,ii,v0,i1,i2,i3,i4,i5⟩:=u3
 subst e
 split at hF<;>try cases hF
 rename_i ys hys
 obtain⟨q,c2,news,ey,hk2,hnl,hnr,hn1,hna⟩:=Ygm hO hys ha.2.1.1
 rw[hsz] at hnl
 have hgd:∀ {o:Nat} {y:Ob},g o=some y->o≠dd:=λh e=>by rw[e,hd] at h;cases h
 unfold Xlt at hF
 split at hF<;>try cases hF
 . split at hF<;>cases hF
   rename_i hr
   obtain⟨p,ex⟩:=Xng ha.1.1
   have hrun:=Xfp (P:=P) (W:=W) (ty:=ty) (ti:=ti) u1 i1 i2 i3 i4 i5 (p:=p) (m:=0) (c:=0) (k:=ys.length) (c2:=c2) (q:=q) (olds:=[]) (news:=news) (W0a _) (.inl rfl) (by simp) (λb _ j u hj=>by simp at hj) hnl hnr hn1 (by simpa using hr) hk2
   rcases hrun with ⟨h0,hrun⟩ | ⟨h0,h1,_⟩ | ⟨h0,c',zs,h1,h2,h3,hrun⟩
   . have hy0:ys=[]:=W0o h0
     subst hy0
     refine⟨W,_,_,Xch (by rw[ex,ey];exact hrun),Stp.new0 (d:=dd) hO hB hd (x:=.tok 0 sz) ⟨by simp,by simp,.inl (by simp)⟩ (λi h=>h),.inr ⟨_,rfl,Yef (o:=dd) (c:=0) (θ:=λi=>if i=dd then (none,0) else θ i) rfl (by simp) (.inl (by simp)) (by simp) (by simp) (.inl rfl)⟩,λi hi=>⟨_,by subst hi;exact Xaj _ _ _⟩⟩
   . omega
   . simp only[W1k,W3z] at hrun h1 h3
     obtain⟨W',θ',e1,e2,e3⟩:=Xqu (W:=W.tick) (θ:=θ) (g:=g) (dd:=dd) (E:=E) (zs:=zs) (Stp.tick hO).obs hN hB hd (hna.mono (Xe7 W)) (by rw[hnl,hsz]) h1 h2 (by rw[hsz];exact h3)
     exact⟨W',θ',_,by rw[e1];exact Xch (by rw[ex,ey];exact hrun),(Stp.tick hO).trans e2,.inr ⟨_,rfl,e3⟩,λi hi=>⟨_,by subst hi;exact Xaj _ _ _⟩⟩
 . rename_i s xs
   split at hF
   . cases hF
     rename_i hc
     obtain⟨hr,hy0,hs1⟩:=hc
     subst hs1
     obtain⟨b,ex,hxc,hrow⟩:=Xxg ha.1.1
     obtain⟨olds,k1,k0,k2,k4⟩:=Xqo hrow
     have hol:olds.length=xs.length*ti.e.size:=by rw[k1,hsz]
     have hlenA:(xs++ys).length=xs.length+ys.length:=W0d
     have hrun:=Xfp (P:=P) (W:=W) (ty:=ty) (ti:=ti) u1 i1 i2 i3 i4 i5 (p:=b) (m:=xs.length) (c:=xs.length) (k:=ys.length) (c2:=c2) (q:=q) (olds:=olds) (news:=news) (W0a _) k0 hol (λb' hb' j u hj=>by
      have h2:=(k2 b' hb' j u hj).1
      rwa[W1k] at h2) hnl hnr hn1 hr hk2
     rcases hrun with ⟨h0,_⟩ | ⟨h0,h1,_⟩ | ⟨h0,c',zs,h1,h2,h3,hrun⟩
     . omega
     . omega
     . obtain⟨W',θ',e1,e2,e3⟩:=Xkw (W:=W.tick) (θ:=θ) (g:=g) (dd:=dd) (E:=E) (sz:=s) (xs:=xs++ys) (cs:=olds++news) (c:=c') (zs:=zs) (Stp.tick hO).obs hN hB hd ((k4.app hna (by rw[hol,hsz])).mono (Xe7 W)) (by rw[W0d,hol,hnl,hlenA,W1h,hsz]) (by rw[hlenA];exact h1) h2 (by rw[hsz];exact h3)
       rw[hlenA] at e3
       exact⟨W',θ',_,by rw[e1];exact Xch (by rw[ex,ey];exact hrun),(Stp.tick hO).trans e2,.inr ⟨_,rfl,e3⟩,λi hi=>⟨_,by subst hi;exact Xaj _ _ _⟩⟩
   . split at hF<;>cases hF
     rename_i hc
     obtain⟨hr,hy0,hs1⟩:=hc
     subst hs1
     obtain⟨b,ex,hxc,hrow⟩:=Xxg ha.1.1
     obtain⟨olds,k1,k0,k2,k4⟩:=Xqo hrow
     have hol:olds.length=xs.length*ti.e.size:=by rw[k1,hsz]
     have hlenA:(xs++ys).length=xs.length+ys.length:=W0d
     have hrun:=Xfp (P:=P) (W:=W) (ty:=ty) (ti:=ti) u1 i1 i2 i3 i4 i5 (p:=b) (m:=xs.length) (c:=xs.length) (k:=ys.length) (c2:=c2) (q:=q) (olds:=olds) (news:=news) (W0a _) k0 hol (λb' hb' j u hj=>by
      have h2:=(k2 b' hb' j u hj).1
      rwa[W1k] at h2) hnl hnr hn1 hr hk2
     rcases hrun with ⟨h0,hrun⟩ | ⟨h0,h1,_⟩ | ⟨h0,c',zs,h1,h2,h3,hrun⟩
     . exact⟨W,θ,_,Xch (by rw[ex,ey];exact hrun),Stp.rfl hO,.inr ⟨_,rfl,ex ▸ ha.1.1⟩,λi hi=>hi.elim⟩
     . omega
     . omega
 . rename_i o s xs
   split at hF<;>try cases hF
   rename_i n s' hg
   split at hF<;>cases hF
   rename_i hc
   obtain⟨hr,rfl,hs1,hs2⟩:=hc
   subst hs2;subst hs1
   obtain⟨p,ex,hpc,hxc,hc63,hrow⟩:=Ym6 ha.1.1
   obtain⟨_,_,htok⟩:=hO.r _ _ hg
   have hod:=hgd hg
   have hx:∃olds:List Value,olds.length=xs.length*ti.e.size/\(∀b,p=some ⟨b,0,none⟩->∀j u,olds[j]?=some u->W.w.cell? ⟨b,j,none⟩=some u)/\AtL W s xs olds:=by
    rcases hrow with h | ⟨b,hb,hr⟩
    . subst h;exact⟨[],by simp,λb _ j u hj=>by simp at hj,λi x h=>by simp at h⟩
    . obtain⟨cs,k1,k2,_,k4⟩:=Xhi hr
      refine⟨cs,by rw[k1,hsz],λb' hb' j u hj=>?_,k4⟩
      have h2:=(k2 j u hj).1
      rw[W1k] at h2
      rcases hpc with h | h
      . have:xs.length=0:=by omega
        rw[this] at k1
        have:=Xbj hj
        omega
      . rw[h,hb] at hb';injection hb' with hb';injection hb' with hb';rw[<-hb'];exact h2
   obtain⟨olds,hol,hor,hoa⟩:=hx
   have hpc':(θ o).2=0\/∃b,p=some ⟨b,0,none⟩:=by
    rcases htok with ⟨h1,h2⟩ | ⟨b,cs,T',h1,_⟩
    . exact .inl h2
    . rcases hpc with h | h
      . exact .inl h
      . exact .inr ⟨b,by rw[h,h1];rfl⟩
   have hrun:=Xfp (P:=P) (W:=W) (ty:=ty) (ti:=ti) u1 i1 i2 i3 i4 i5 (p:=p) (m:=xs.length) (c:=(θ o).2) (k:=ys.length) (c2:=c2) (q:=q) (olds:=olds) (news:=news) hxc hpc' hol hor hnl hnr hn1 hr hk2
   have hkill:=Stp.kill hO hg
   have hdk:upd g o .dead dd=none:=by rw[Xak (λh=>hod h.symm)];exact hd
   have hlenA:(xs++ys).length=xs.length+ys.length:=W0d
   have fin:∀ {W':GW} {θ':Loc} {r:Value},(Builtin.append_ #[T,T] ty #[ρ x,ρ y]).run P W.w=.ok r W'.w->Stp N W W' θ θ' g (upd (upd g o .dead) dd (.tok (xs.length+ys.length) s))->AV.V W' θ' (.gr dd s (xs++ys)) r ->
    Good P N W θ g ρ ⟨d,.call ⟨.builtin .append,#[x,y],#[T,T]⟩,ty,pos,aft,gd⟩ (.gr dd s (xs++ys)) (Xbe g [(dd,.tok (xs.length+ys.length) s),(o,.dead)]):=λh1 h2 h3 =>
    ⟨_,_,_,Xch h1,h2,.inr ⟨_,rfl,h3⟩,λi hi=>⟨_,by subst hi;exact Xaj _ _ _⟩⟩
   have hgp:∀i z,upd (upd g o .dead) dd (.tok (xs.length+ys.length) s) i=some z->(i=dd/\z=.tok (xs.length+ys.length) s)\/z=.dead\/(g i=some z/\i≠o):=λi z hz=>by
    rcases Xaf hz with h | ⟨h1,h2⟩
    . exact .inl h
    . rcases Xaf h2 with ⟨_,h⟩ | ⟨h3,h4⟩
      . exact .inr (.inl h)
      . exact .inr (.inr ⟨h4,h3⟩)
   have hdm:∀i z,g i=some z->∃z',upd (upd g o .dead) dd (.tok (xs.length+ys.length) s) i=some z':=λi z hz=>by
    have:i≠dd:=λh=>by rw[h,hd] at hz;cases hz
    rw[Xak this]
    by_cases e:i=o
    . subst e;exact⟨_,Xaj _ _ _⟩
    . exact⟨z,by rw[Xak e];exact hz⟩
   have hth:∀i z,g i=some z->(λi=>if i=dd then θ o else θ i) i=θ i:=λi z hz=>if_neg λh=>by rw[h,hd] at hz;cases hz
   have hpos:0<ti.e.size:=D.size_pos _
   have inpl:∀ {b:Nat} {cs:List Value} {T':TypeId},(θ o).1=some b->W.w.heap[b]?=some (.cells cs.toArray T' (0,0))->cs.length=(θ o).2*s->(∀i,xs.length*s<=i->W.A b i)->p=some ⟨b,0,none⟩->xs.length+ys.length<=(θ o).2 ->
    (Builtin.append_ #[T,T] ty #[ρ x,ρ y]).run P W.w=.ok (.slice p (xs.length+ys.length) (θ o).2) (Xh2 W.w b (.cells (spl cs (xs.length*ti.e.size) news).toArray T' (0,0))) ->
    Good P N W θ g ρ ⟨d,.call ⟨.builtin .append,#[x,y],#[T,T]⟩,ty,pos,aft,gd⟩ (.gr dd s (xs++ys)) (Xbe g [(dd,.tok (xs.length+ys.length) s),(o,.dead)]):=by
    intro b cs T' h1 h2 h3 h4 hp' hroom hrun
    have hfit:xs.length*s+news.length<=cs.length:=by
     rw[hnl,<-hsz,h3,<-W1h];exact W0q _ hroom
    have hsp:∀q,(spl cs (xs.length*s) news)[q]?=if xs.length*s<=q/\q<xs.length*s+news.length then news[q-xs.length*s]? else cs[q]?:=λq=>Xe9 _ _ _ _ hfit
    have hs':∀i v,¬W.A b i->cs[i]?=some v->(spl cs (xs.length*s) news)[i]?=some v:=λi v hA hv=>by
     rw[hsp,if_neg (λh=>hA (h4 i h.1))];exact hv
    have hle:=Xg2 W b cs (spl cs (xs.length*s) news) T' (λi=>(xs.length+ys.length)*s<=i) h2 hs'
    have hput:=Stp.put hO (t:=dd) (x:=.tok (xs.length+ys.length) s) (B:=λi=>(xs.length+ys.length)*s<=i) hg rfl h1 h2 hs' (θ':=λi=>if i=dd then θ o else θ i) hth (λi h=>if_neg (by omega)) (by simp[h1]) hgp hdm
     ⟨by simpa using hroom,by simpa using hc63,.inr ⟨b,_,T',by simp[h1],Xa6 _ _ _ (Xa1 h2),by simp[Xdj,h3],λi hi=>⟨h4 i (W0k (W0q _ (W5l _ _)) hi),λ_=>hi⟩⟩⟩ (λi hi=>hi.elim)
    rw[<-hsz] at hrun
    refine fin hrun hput (Yef (θ:=λi=>if i=dd then θ o else θ i) hlenA.symm (by simp) (.inr (by simp[hp',h1,ad])) (by rw[hlenA];simpa using hroom) (by simpa using hc63) (.inr ⟨b,by simp[h1],?_⟩))
    refine D.row_app (D.row_mono hle b s xs 0 (by
     rcases hrow with h | ⟨b',hb',hr⟩
     . subst h;trivial
     . rw[h1] at hb';injection hb' with hb';subst hb';exact hr)) ((hna.mono hle).row λq u hq hu=>⟨?_,?_⟩)
    . rw[show (W.put b (.cells (spl cs (xs.length*s) news).toArray T' (0,0)) (λi=>(xs.length+ys.length)*s<=i)).w.cell? ⟨b,0+xs.length*s+q,none⟩=_ from Xa9 (Xa6 _ _ _ (Xa1 h2)) _,W1k,hsp,if_pos (by have:=Xbj hu;omega),W3n]
      exact hu
    . rintro⟨_,h⟩
      have:=h rfl
      rw[W1h] at this
      omega
   rcases hrun with ⟨h0,hrun⟩ | ⟨h0,h1,hrun⟩ | ⟨h0,c',zs,h1,h2,h3,hrun⟩
   . have hy0:ys=[]:=W0o h0
     subst hy0
     have hn0:news=[]:=W0o (by simpa using hnl)
     subst hn0
     rcases htok with ⟨k1,k2⟩ | ⟨b,cs,T',k1,k2,k3,k4⟩
     . have hx0:xs=[]:=W0o (by omega)
       subst hx0
       exact fin (by rw[ex,ey];exact hrun) (hkill.trans (Stp.new0 (d:=dd) hkill.obs hB hdk (x:=.tok (([]:List D).length+([]:List D).length) s) ⟨by simp,by simp,.inl (by simp)⟩ (λi h=>h)))
        (Yef (o:=dd) (θ:=λi=>if i=dd then (none,0) else θ i) rfl (by simp[k2]) (.inl (by simp)) (by simp) (by simp) (.inl rfl))
     . rcases hpc with k5 | k5
       . have hx0:xs=[]:=W0o (by omega)
         subst hx0
         refine fin (by rw[ex,ey];exact hrun) (hkill.trans (Stp.new0 (d:=dd) hkill.obs hB hdk (x:=.tok (([]:List D).length+([]:List D).length) s) ⟨by simp,by simp,.inl (by simp)⟩ (λi h=>h)))
          (Yef (o:=dd) (θ:=λi=>if i=dd then (none,0) else θ i) rfl (by simp[k5]) (.inl (by simp)) (by simp) (by simp) (.inl rfl))
       . exact inpl k1 k2 k3 k4 (by rw[k5,k1];rfl) (by simpa using hxc) (by simp only[spl];rw[Xh1 k2,ex,ey];simpa using hrun)
   . rcases htok with ⟨k1,k2⟩ | ⟨b,cs,T',k1,k2,k3,k4⟩
     . omega
     . have hpb:p=some ⟨b,0,none⟩:=by
        rcases hpc with k5 | k5
        . omega
        . rw[k5,k1];rfl
       exact inpl k1 k2 k3 k4 hpb h1 (by rw[ex,ey];exact hrun b cs T' hpb k2 (by rw[k3,hsz]))
   . obtain⟨W',θ',e1,e2,e3⟩:=Xqu (W:=W.tick) (θ:=θ) (g:=upd g o .dead) (dd:=dd) (E:=E) (sz:=s) (xs:=xs++ys) (cs:=olds++news) (c:=c') (zs:=zs) (Stp.tick hkill.obs).obs hN hB hdk ((hoa.app hna (by rw[hol,hsz])).mono (Xe7 W)) (by rw[W0d,hol,hnl,hlenA,W1h,hsz]) (by rw[hlenA];exact h1) h2 (by rw[hsz];exact h3)
     rw[hlenA] at e2 e3
     exact fin (by rw[e1,ex,ey];exact hrun) ((hkill.trans (Stp.tick hkill.obs)).trans e2) e3
 . rename_i o s l n
   split at hF<;>try cases hF
   rename_i s' xs hg
   split at hF
   rotate_left
   . split at hF<;>cases hF
     rename_i hc
     obtain⟨hr,rfl,hnn,hs1,hs2⟩:=hc
     subst hs2;subst hs1
     obtain⟨b,p,h1,hxc,hc63,ex,hp5⟩:=Xjb ha.1.1
     have hpb:=hp5 (.inl rfl)
     rw[W4o] at hpb
     rw[W6l] at ex
     rw[W1k] at hxc
     obtain⟨b',cs,T',r1,h2,h3,r4,r5,r6,r7⟩:=hO.r _ _ hg
     rw[h1] at r1;injection r1 with r1;subst r1
     have hroom:n+ys.length<=(θ o).2:=by omega
     by_cases hy:ys.length=0
     . have hcn:n*s<=cs.length:=by rw[h3];exact W0q _ hxc
       have hol:(cs.take (n*s)).length=n*ti.e.size:=by rw[W0j,<-hsz];omega
       have hrun:=Xfp (P:=P) (W:=W) (ty:=ty) (ti:=ti) u1 i1 i2 i3 i4 i5 (p:=p) (m:=n) (c:=(θ o).2) (k:=ys.length) (c2:=c2) (q:=q) (olds:=cs.take (n*s)) (news:=news) hxc (.inr ⟨b,hpb⟩) hol (λb' hb' j u hj=>by
        rw[hpb] at hb';injection hb' with hb';injection hb' with hb';subst hb'
        rw[W1e] at hj
        split at hj
        . rw[Xa9 h2];exact hj
        . cases hj) hnl hnr hn1 hr hk2
       rcases hrun with ⟨_,hrun⟩ | ⟨h0,_⟩ | ⟨h0,_⟩
       . have hy0:ys=[]:=W0o hy
         subst hy0
         have e1:xs.take n++[]++xs.drop (n+([]:List D).length)=xs:=by simp
         have e2:Xbe g [(o,Ob.arr s (xs.take n++[]++xs.drop (n+([]:List D).length)))]=g:=by
          rw[e1]
          funext i
          show upd g o (.arr s xs) i=g i
          by_cases hio:i=o
          . subst hio;rw[Xaj];exact hg.symm
          . exact Xak hio
         rw[e2]
         exact⟨W,θ,_,Xch (by rw[ex,ey];exact hrun),Stp.rfl hO,.inr ⟨_,rfl,ex ▸ ha.1.1⟩,λi hi=>⟨_,by have hi:i=o:=hi;subst hi;exact hg⟩⟩
       . omega
       . omega
     have hk0:0<ys.length:=by omega
     have hrun:=Xsf (P:=P) (W:=W) (ty:=ty) (ti:=ti) u1 i1 i2 (b:=b) (m:=n) (c:=(θ o).2) (c2:=c2) hnl hnr hn1 hk0 hroom h2 (by rw[h3,hsz])
     rw[<-hsz] at hrun
     have hfit:n*s+news.length<=cs.length:=by
      rw[hnl,<-hsz,h3,<-W1h];exact W0q _ hroom
     have hsp:∀q,(spl cs (n*s) news)[q]?=if n*s<=q/\q<n*s+news.length then news[q-n*s]? else cs[q]?:=λq=>Xe9 _ _ _ _ hfit
     have hs':∀i v,¬W.A b i->cs[i]?=some v->(spl cs (n*s) news)[i]?=some v:=λi v hA hv=>absurd (r7 i) hA
     have hle:=Xg2 W b cs (spl cs (n*s) news) T' (λ_=>True) h2 hs'
     have hnw:(xs.take n++ys++xs.drop (n+ys.length)).length=xs.length:=by
      rw[W0d,W0d,W0j,W1l];omega
     have hput:=Stp.put hO (t:=o) (x:=.arr s (xs.take n++ys++xs.drop (n+ys.length))) (B:=λ_=>True) hg rfl h1 h2 hs' (θ':=θ) (g':=Xbe g [(o,Ob.arr s (xs.take n++ys++xs.drop (n+ys.length)))]) (λ_ _ _=>_root_.rfl) (λ_ _=>_root_.rfl) h1 (λi z hz=>by
      rcases Xaf hz with ⟨f1,f2⟩ | ⟨f1,f2⟩
      . exact .inl ⟨f1,f2⟩
      . exact .inr (.inr ⟨f2,f1⟩)) (λi z hz=>by
      by_cases hio:i=o
      . subst hio;exact⟨_,Xaj _ _ _⟩
      . exact⟨z,by rw[show Xbe g [(o,Ob.arr s (xs.take n++ys++xs.drop (n+ys.length)))]=upd g o (.arr s (xs.take n++ys++xs.drop (n+ys.length))) from _root_.rfl,Xak hio];exact hz⟩)
      ⟨b,_,T',h1,Xa6 _ _ _ (Xa1 h2),by rw[Xdj];exact h3,r4,by rw[hnw];exact r5,λi x hx=>by
       have hi:=Xbj hx
       rw[hnw] at hi
       by_cases ha':i<n
       . rw[W1a (by rw[W0d,W0j];omega),W1a (by rw[W0j];omega),W1e,if_pos ha'] at hx
         obtain⟨e1,e2,e3,e4⟩:=r6 i x hx
         refine⟨e1,D.mono hle _ e2,e3,λj v hj=>?_⟩
         have hjl:=Xbj hj
         rw[D.at_len x e2,e3] at hjl
         have:i*s+s<=n*s:=by rw[<-W2t];exact W0q _ ha'
         rw[hsp,if_neg (by omega)]
         exact e4 j v hj
       . by_cases hb':i<n+ys.length
         . rw[W1a (by rw[W0d,W0j];omega),W0u (by rw[W0j];omega),W0j,show min n xs.length=n by omega] at hx
           obtain⟨e1,e2,e3,e4⟩:=hna _ _ hx
           refine⟨e1,D.mono hle _ e2,e3,λj v hj=>?_⟩
           have hjl:=Xbj hj
           rw[D.at_len x e2,e3] at hjl
           have m1:n*s<=i*s:=W0q _ (by omega)
           have m2:i*s+s<=n*s+ys.length*s:=by rw[<-W2t,<-W1h];exact W0q _ (by omega)
           rw[hsp,if_pos (by rw[hnl,<-hsz];omega),show i*s+j-n*s=(i-n)*s+j by rw[W1i (i-n),Nat.mul_sub,W1i s i,W1i s n];omega]
           exact e4 j v hj
         . rw[W0u (by rw[W0d,W0j];omega),W0d,W0j,show min n xs.length=n by omega,W1y,show n+ys.length+(i-(n+ys.length))=i by omega] at hx
           obtain⟨e1,e2,e3,e4⟩:=r6 i x hx
           refine⟨e1,D.mono hle _ e2,e3,λj v hj=>?_⟩
           have m2:n*s+ys.length*s<=i*s:=by rw[<-W1h];exact W0q _ (by omega)
           rw[hsp,if_neg (by rw[hnl,<-hsz];omega)]
           exact e4 j v hj,λi=>⟨r7 i,λ_=>trivial⟩⟩ (λi hi=>hi.elim)
     refine⟨_,θ,_,Xch (by rw[ex,ey,hpb];exact hrun),hput,.inr ⟨_,_root_.rfl,?_⟩,λi hi=>⟨_,by have hi:i=o:=hi;subst hi;exact Xaj _ _ _⟩⟩
     exact Xyt (xs:=xs) h1 _root_.rfl hroom hc63
   rename_i hc
   cases hF
   obtain⟨hr,rfl,rfl,hs1,hs2⟩:=hc
   subst hs2;subst hs1
   obtain⟨b,p,h1,hxc,hc63,ex,hp5⟩:=Xjb ha.1.1
   have hpb:=hp5 (.inl rfl)
   rw[W4o] at hpb
   rw[W6l] at ex
   rw[W1k] at hxc
   obtain⟨b',cs,T',r1,h2,h3,r4,r5,r6,r7⟩:=hO.r _ _ hg
   rw[h1] at r1;injection r1 with r1;subst r1
   have hod:=hgd hg
   have hmc:xs.length*s<=cs.length:=by rw[h3];exact W0q _ hxc
   have hol:(cs.take (xs.length*s)).length=xs.length*ti.e.size:=by rw[W0j,<-hsz];omega
   have hoa:AtL W s xs (cs.take (xs.length*s)):=AtL.ext r6 λq v hq hv=>by rw[W1e,if_pos hq];exact hv
   have hrun:=Xfp (P:=P) (W:=W) (ty:=ty) (ti:=ti) u1 i1 i2 i3 i4 i5 (p:=p) (m:=xs.length) (c:=(θ o).2) (k:=ys.length) (c2:=c2) (q:=q) (olds:=cs.take (xs.length*s)) (news:=news) hxc (.inr ⟨b,hpb⟩) hol (λb' hb' j u hj=>by
    rw[hpb] at hb';injection hb' with hb';injection hb' with hb';subst hb'
    rw[W1e] at hj
    split at hj
    . rw[Xa9 h2];exact hj
    . cases hj) hnl hnr hn1 hr hk2
   have hkill:=Stp.kill hO hg
   have hdk:upd g o .dead dd=none:=by rw[Xak (λh=>hod h.symm)];exact hd
   have hlenA:(xs++ys).length=xs.length+ys.length:=W0d
   have fin:∀ {W':GW} {θ':Loc} {r:Value},(Builtin.append_ #[T,T] ty #[ρ x,ρ y]).run P W.w=.ok r W'.w->Stp N W W' θ θ' g (upd (upd g o .dead) dd (.arr s (xs++ys)))->AV.V W' θ' (.own dd s 0 (xs.length+ys.length)) r ->
    Good P N W θ g ρ ⟨d,.call ⟨.builtin .append,#[x,y],#[T,T]⟩,ty,pos,aft,gd⟩ (.own dd s 0 (xs.length+ys.length)) (Xbe g [(dd,.arr s (xs++ys)),(o,.dead)]):=λh1 h2 h3 =>
    ⟨_,_,_,Xch h1,h2,.inr ⟨_,rfl,h3⟩,λi hi=>⟨_,by subst hi;exact Xaj _ _ _⟩⟩
   have hgp:∀i z,upd (upd g o .dead) dd (.arr s (xs++ys)) i=some z->(i=dd/\z=.arr s (xs++ys))\/z=.dead\/(g i=some z/\i≠o):=λi z hz=>by
    rcases Xaf hz with h | ⟨h1,h2⟩
    . exact .inl h
    . rcases Xaf h2 with ⟨_,h⟩ | ⟨h3,h4⟩
      . exact .inr (.inl h)
      . exact .inr (.inr ⟨h4,h3⟩)
   have hdm:∀i z,g i=some z->∃z',upd (upd g o .dead) dd (.arr s (xs++ys)) i=some z':=λi z hz=>by
    have:i≠dd:=λh=>by rw[h,hd] at hz;cases hz
    rw[Xak this]
    by_cases e:i=o
    . subst e;exact⟨_,Xaj _ _ _⟩
    . exact⟨z,by rw[Xak e];exact hz⟩
   have hth:∀i z,g i=some z->(λi=>if i=dd then θ o else θ i) i=θ i:=λi z hz=>if_neg λh=>by rw[h,hd] at hz;cases hz
   have inpl:xs.length+ys.length<=(θ o).2->(Builtin.append_ #[T,T] ty #[ρ x,ρ y]).run P W.w=.ok (.slice p (xs.length+ys.length) (θ o).2) (Xh2 W.w b (.cells (spl cs (xs.length*ti.e.size) news).toArray T' (0,0))) ->
    Good P N W θ g ρ ⟨d,.call ⟨.builtin .append,#[x,y],#[T,T]⟩,ty,pos,aft,gd⟩ (.own dd s 0 (xs.length+ys.length)) (Xbe g [(dd,.arr s (xs++ys)),(o,.dead)]):=by
    intro hroom hrun
    have hfit:xs.length*s+news.length<=cs.length:=by
     rw[hnl,<-hsz,h3,<-W1h];exact W0q _ hroom
    have hsp:∀q,(spl cs (xs.length*s) news)[q]?=if xs.length*s<=q/\q<xs.length*s+news.length then news[q-xs.length*s]? else cs[q]?:=λq=>Xe9 _ _ _ _ hfit
    have hs':∀i v,¬W.A b i->cs[i]?=some v->(spl cs (xs.length*s) news)[i]?=some v:=λi v hA hv=>absurd (r7 i) hA
    have hle:=Xg2 W b cs (spl cs (xs.length*s) news) T' (λ_=>True) h2 hs'
    rw[<-hsz] at hrun
    refine fin hrun (Stp.put hO (t:=dd) (x:=.arr s (xs++ys)) (B:=λ_=>True) hg rfl h1 h2 hs' (θ':=λi=>if i=dd then θ o else θ i) hth (λi h=>if_neg (by omega)) (by simp[h1]) hgp hdm
     ⟨b,_,T',by simp[h1],Xa6 _ _ _ (Xa1 h2),by simp[Xdj,h3],by simpa using hc63,by rw[hlenA];simpa using hroom,?_,λi=>⟨r7 i,λ_=>trivial⟩⟩ (λi hi=>hi.elim))
     (by rw[hpb];exact Xyt (o:=dd) (xs:=xs) (θ:=λi=>if i=dd then θ o else θ i) (by simp[h1]) (by simp) (by simpa using hroom) (by simpa using hc63))
    have:=(hoa.mono hle).app (hna.mono hle) (by rw[hol,hsz])
    refine AtL.ext this λq v hq hv=>?_
    rw[hlenA,W1h] at hq
    rw[hsp]
    by_cases hlt:q<xs.length*s
    . rw[if_neg (by omega)]
      rw[W1a (by rw[hol,<-hsz];exact hlt),W1e,if_pos hlt] at hv
      exact hv
    . rw[if_pos (by rw[hnl,<-hsz];omega)]
      rw[W0u (by rw[hol,<-hsz];omega),hol,<-hsz] at hv
      exact hv
   rcases hrun with ⟨h0,hrun⟩ | ⟨h0,k1,hrun⟩ | ⟨h0,c',zs,k1,k2,k3,hrun⟩
   . have hy0:ys=[]:=W0o h0
     subst hy0
     have hn0:news=[]:=W0o (by simpa using hnl)
     subst hn0
     exact inpl (by simpa using hxc) (by simp only[spl];rw[Xh1 h2,ex,ey];simpa using hrun)
   . exact inpl k1 (by rw[ex,ey];exact hrun b cs T' hpb h2 (by rw[h3,hsz]))
   . obtain⟨W',θ',e1,e2,e3⟩:=Xkw (W:=W.tick) (θ:=θ) (g:=upd g o .dead) (dd:=dd) (E:=E) (sz:=s) (xs:=xs++ys) (cs:=cs.take (xs.length*s)++news) (c:=c') (zs:=zs) (Stp.tick hkill.obs).obs hN hB hdk ((hoa.app hna (by rw[hol,hsz])).mono (Xe7 W)) (by rw[W0d,hol,hnl,hlenA,W1h,hsz]) (by rw[hlenA];exact k1) k2 (by rw[hsz];exact hsz ▸ k3)
     rw[hlenA] at e3
     exact fin (by rw[e1,ex,ey];exact hrun) ((hkill.trans (Stp.tick hkill.obs)).trans e2) e3
 . rename_i o s l n
   split at hF<;>try cases hF
   rename_i s' xs hg
   split at hF<;>try cases hF
   rename_i hc
   obtain⟨hr,rfl,hn,hs1,hs2⟩:=hc
   subst hs2;subst hs1
   obtain⟨b,p,h1,hnc,hc63,ex,h5⟩:=Xo2 ha.1.1
   obtain⟨b',cs,T',r1,h2,h3,r4,r5,r6,r7⟩:=hO.r _ _ hg
   rw[h1] at r1;injection r1 with r1;subst r1
   have hpb:p=some ⟨b,0,none⟩:=by rw[h5 (.inl rfl),W4o]
   have hlt:(xs.take n).length=n:=by simp;omega
   have hlenA:(xs.take n++ys).length=n+ys.length:=by rw[W0d,hlt]
   have hcn:n*s<=cs.length:=by rw[h3];exact W0q _ (by omega)
   have hol:(cs.take (n*s)).length=n*ti.e.size:=by rw[W0j,hsz];rw[<-hsz] at *;omega
   have hoa:AtL W s (xs.take n) (cs.take (n*s)):=AtL.ext (cs:=cs) (λi x hx=>r6 i x (by
    rw[W1e] at hx
    split at hx
    . exact hx
    . cases hx)) λq v hq hv=>by rw[hlt] at hq;rw[W1e,if_pos hq];exact hv
   have hrun:=Xfp (P:=P) (W:=W) (ty:=ty) (ti:=ti) u1 i1 i2 i3 i4 i5 (p:=p) (m:=n) (c:=n) (k:=ys.length) (c2:=c2) (q:=q) (olds:=cs.take (n*s)) (news:=news) (W0a _) (.inr ⟨b,hpb⟩) hol (λb' hb' j u hj=>by
    rw[hpb] at hb';injection hb' with hb';injection hb' with hb';subst hb'
    rw[W1e] at hj
    split at hj
    . rw[Xa9 h2];exact hj
    . cases hj) hnl hnr hn1 hr hk2
   by_cases hy0:ys.length=0
   . rw[if_pos hy0] at hF
     cases hF
     rcases hrun with ⟨h0,hrun⟩ | ⟨h0,_⟩ | ⟨h0,_⟩
     . exact⟨W,θ,_,Xch (by rw[ex,ey];exact hrun),Stp.rfl hO,.inr ⟨_,rfl,ex ▸ ha.1.1⟩,λi hi=>⟨_,by have hi:i=o:=hi;subst hi;exact hg⟩⟩
     . omega
     . omega
   . rw[if_neg hy0] at hF
     cases hF
     rcases hrun with ⟨h0,_⟩ | ⟨h0,h4,_⟩ | ⟨h0,c',zs,k1,k2,k3,hrun⟩
     . omega
     . omega
     . obtain⟨W',θ',e1,e2,e3⟩:=Xkw (W:=W.tick) (θ:=θ) (g:=g) (dd:=dd) (E:=E) (sz:=s) (xs:=xs.take n++ys) (cs:=cs.take (n*s)++news) (c:=c') (zs:=zs) (Stp.tick hO).obs hN hB hd ((hoa.app hna (by rw[hol,hsz,hlt])).mono (Xe7 W)) (by rw[W0d,hol,hnl,hlenA,W1h,hsz]) (by rw[hlenA];exact k1) k2 (by rw[k3,hsz])
       rw[hlenA] at e3
       exact⟨W',θ',_,by rw[e1];exact Xch (by rw[ex,ey];exact hrun),(Stp.tick hO).trans e2,.inr ⟨_,rfl,e3⟩,λi hi=>⟨_,by subst hi;exact Xaj _ _ _⟩⟩
end
end
section
section
variable{P:Program}{N:Nat->Prop}{W:GW}{θ:Loc}{g:Hp}{ρ:Operand->Value}
variable{tb:Nat->Option TI}{dd:Nat}{args:List AV}{v:AV}{us:List (Nat×Ob)}
theorem Yjw{l:List Operand}{a:AV}(h:Xbm W θ g ρ l [a]): ∃x,l=[x]:=by
 match l,h with
 | [x],_=>exact⟨x,rfl⟩
theorem Yfe{l:List Operand}{a b:AV}(h:Xbm W θ g ρ l [a,b]): ∃x y,l=[x,y]:=by
 match l,h with
 | [x,y],_=>exact⟨x,y,rfl⟩
 | [_],h=>exact h.2.elim
 | _::_::_::_,h=>exact h.2.2.elim
def Xd1: Op->Bool
 | .store _ _ _=>true
 | _=>false
theorem Ypd(hT:∀T ti,tb T=some ti->TyOk P T ti/\∀a c,ti.z≠.pr a c)(hO:Obs W θ N g)(hN:∀b,W.size<=b->N b)(hB:dd<1000000)(hy:∀u,ρ (.const u)=u){d:Option Nat}{op:Op}{ty:TypeId}{pos:String}{aft:Array Edge}{gd:Option (Nat×Bool)}
 (hs:Xd1 op=true->d=none) (hF:F tb dd g op args=some (v,us)) (ha:Xbm W θ g ρ op.operands.toList args):Good P N W θ g ρ ⟨d,op,ty,pos,aft,gd⟩ v (Xbe g us):=by
 have hT1:∀T ti,tb T=some ti->TyOk P T ti:=λT ti h=>(hT T ti h).1
 have pp:∀ {op:Op},F tb dd g op args=(match Fp tb op args with | some v=>some (v,[]) | none=>none)->F tb dd g op args=some (v,us)->Fp tb op args=some v/\us=[]:=by
  intro op h1 h2
  rw[h1] at h2
  split at h2<;>cases h2
  rename_i h;exact⟨h,rfl⟩
 cases op with
 | load T x=>obtain⟨rfl,h⟩:=Yl5 (d:=d) (ty:=ty) (pos:=pos) (aft:=aft) (gd:=gd) hT hO hF ha;exact h
 | store T x y=>have:=hs rfl;subst this;exact Ylh hT hO hF ha
 | alloc T =>
  have:args=[]:=by
   match args,ha with
   | [],_=>rfl
  subst this;exact Ym2 hT hO hN hB hF
 | box T x=>exact Ymv hO hN hB hF ha
 | makeSlice T x y=>exact Yl1 hT hO hN hB hF ha
 | move x=>obtain⟨h,rfl⟩:=pp rfl hF;exact Yly hO h ha
 | assign x=>obtain⟨h,rfl⟩:=pp rfl hF;exact Ym1 hO h ha
 | pick c x y=>obtain⟨h,rfl⟩:=pp rfl hF;exact Ydl hO h ha
 | extract x i=>obtain⟨h,rfl⟩:=pp rfl hF;exact Yiy hO h ha
 | unOp u T x=>obtain⟨h,rfl⟩:=pp rfl hF;exact Yla hO h ha
 | binOp o T x y T'=>obtain⟨h,rfl⟩:=pp rfl hF;exact Yju hT1 hO h ha (λu e=>by rw[e];exact hy u)
 | convert S T x=>obtain⟨h,rfl⟩:=pp rfl hF;exact Ye1 hT1 hO h ha
 | nilCheck x=>obtain⟨h,rfl⟩:=pp rfl hF;exact Yds hO h ha
 | fieldAddr T x f=>obtain⟨h,rfl⟩:=pp rfl hF;exact Yix hT1 hO h ha
 | field T x f=>obtain⟨h,rfl⟩:=pp rfl hF;exact Yir hT1 hO h ha
 | indexAddr T x y=>obtain⟨h,rfl⟩:=pp rfl hF;exact Yij hT1 hO h ha
 | index T x y=>obtain⟨h,rfl⟩:=pp rfl hF;exact Yig hT1 hO h ha
 | slice T x lo hi mx =>
  obtain⟨h,rfl⟩:=pp rfl hF
  exact Ygr hT1 hO h (by simpa [Op.operands] using ha)
 | build T ps =>
  obtain⟨h,rfl⟩:=pp rfl hF
  exact Yjr hT1 hO h (by simpa [Op.operands] using ha)
 | buildSlice T n ps =>
  obtain⟨h,rfl⟩:=pp rfl hF
  exact Ymx hT hO h (by simpa [Op.operands] using ha)
 | makeFunc fn a b =>
  obtain⟨h,rfl⟩:=pp rfl hF
  obtain⟨a⟩:=a
  obtain⟨b⟩:=b
  cases a with
  | cons x l=>simp[Fp] at h
  | nil=>cases b with
   | cons x l =>
    simp only[Fp] at h
    split at h
    . rename_i e;cases e
    . rename_i e
      cases e
      injection h with h
      subst h
      exact Ydx hO (by simpa [Op.operands] using ha)
    . rename_i e
      cases e
      split at h<;>cases h
      rename_i hc
      exact Ydw hO (by simpa [Op.operands] using ha) hc
    . cases h
   | nil=>exact Yhw (tb:=tb) (args:=args) hO h
 | call c =>
  obtain⟨cal,asx,tys⟩:=c
  cases cal with
  | builtin b =>
   have ha':Xbm W θ g ρ asx.toList args:=by simpa [Op.operands,Call.operands] using ha
   have has:asx=asx.toList.toArray:=by simp
   cases b with
   | len =>
    obtain⟨h,rfl⟩:=pp rfl hF
    have:∃a,args=[a]:=by
     simp only[Fp] at h
     split at h<;>try cases h
     exact⟨_,rfl⟩
    obtain⟨a,rfl⟩:=this
    obtain⟨x,hx⟩:=Yjw ha'
    rw[hx] at has ha';subst has
    exact Yh5 hT1 hO h ha'
   | cap =>
    obtain⟨h,rfl⟩:=pp rfl hF
    have:∃a,args=[a]:=by
     simp only[Fp] at h
     split at h<;>try cases h
     exact⟨_,rfl⟩
    obtain⟨a,rfl⟩:=this
    obtain⟨x,hx⟩:=Yjw ha'
    rw[hx] at has ha';subst has
    exact Yjn hT1 hO h ha'
   | min =>
    obtain⟨h,rfl⟩:=pp rfl hF
    have:∃a c,args=[a,c]:=by
     simp only[Fp] at h
     split at h<;>try cases h
     exact⟨_,_,rfl⟩
    obtain⟨a,c,rfl⟩:=this
    obtain⟨x,y,hx⟩:=Yfe ha'
    rw[hx] at has ha';subst has
    exact Yhy hO h ha'
   | max =>
    obtain⟨h,rfl⟩:=pp rfl hF
    have:∃a c,args=[a,c]:=by
     simp only[Fp] at h
     split at h<;>try cases h
     exact⟨_,_,rfl⟩
    obtain⟨a,c,rfl⟩:=this
    obtain⟨x,y,hx⟩:=Yfe ha'
    rw[hx] at has ha';subst has
    exact Yh1 hO h ha'
   | append =>
    have:∃a c T T',args=[a,c]/\tys=#[T,T']:=by
     obtain⟨tl⟩:=tys
     match tl,hF with
     | [T,T'],hF =>
      simp only[F] at hF
      split at hF<;>try cases hF
      exact⟨_,_,T,T',rfl,rfl⟩
     | [],hF=>simp[F,Fp] at hF
     | [_],hF=>simp[F,Fp] at hF
     | _::_::_::_,hF=>simp[F,Fp] at hF
    obtain⟨a,c,T,T',rfl,rfl⟩:=this
    obtain⟨x,y,hx⟩:=Yfe ha'
    rw[hx] at has ha';subst has
    exact Yj1 hT hO hN hB hF ha'
   | _=>simp[F,Fp] at hF
  | _=>simp[F,Fp] at hF
 | _=>simp[F,Fp] at hF
end
end
section
def ofV: Value->Option AV
 | .int k z=>match k.wrap z==z with
  | true=>some (.d (.int k z))
  | false=>none
 | .bool c=>some (.b c)
 | .string ⟨⟨s⟩⟩=>match Nat.blt s.length 9223372036854775808 with
  | true=>some (.d (.str s))
  | false=>none
 | .slice none 0 0=>some .nil
 | .func f a b=>some (.d (.raw (.func f a b)))
 | .pointer none=>some (.d (.raw (.pointer none)))
 | .nilFunc=>some (.d (.raw .nilFunc))
 | _=>none
def Xc4(e:Ev): Operand->Option AV
 | .tmp t=>e t
 | .const v=>ofV v
 | .func f=>some (.d (.raw (.func (.func f) #[] #[])))
 | .global _=>none
def getEs(e:Ev): List Operand->Option (List AV)
 | []=>some []
 | x::l=>match Xc4 e x with
  | none=>none
  | some a=>match getEs e l with
   | none=>none
   | some asx=>some (a::asx)
abbrev S:=Ev×Hp
def S.put(s:S)(d:Option Nat)(v:AV): S:=match d with
 | some d=>(upd s.1 d v,s.2)
 | none=>s
noncomputable def eff(tb:Nat->Option TI)(o:Oper)(s:S): Option (AV×List (Nat×Ob)) :=
 match getEs s.1 o.op.operands.toList with
 | none=>none
 | some asx=>match Xd1 o.op&&o.dst.isSome with
  | true=>none
  | false=>F tb (o.dst.getD 0) s.2 o.op asx
def Xmy(ops:List Oper)(j:Nat): Option Nat:=match ops,j with
 | [],_=>none
 | o::_,0=>o.dst
 | _::l,j+1=>Xmy l j
def want(L:List Oper)(o:Oper)(s:S): Option Bool:=match o.guard with
 | none=>some true
 | some (j,b)=>match Xmy L j with
  | none=>none
  | some t=>match s.1 t with
   | some (.b c)=>some (c==b)
   | some .un=>some false
   | _=>none
def Xi3(W:GW)(θ:Loc): List AV->List Value->Prop
 | [],[]=>True
 | a::asx,v::vs=>AV.V W θ a v/\Xi3 W θ asx vs
 | _,_=>False
def Ym9 (P : Program) (f : FuncId) : Prop := ∃ fn, P.funcs[f]? = some fn ∧ (fn.name == "runtime.NumGoroutine") = false ∧ fn.body.isSome = true
class Gb (P:Program) where
 g:GW->Prop
 mono:∀W W',LeF W W'->g W->g W'
def CS(P:Program)[Gb P](f:FuncId)(asx:List AV)(g:Hp)(Post:AV->Hp->Prop): Prop :=
 Ym9 P f/\∀(N:Nat->Prop) W θ vs,Gb.g P W->Obs W θ N g->(∀b,W.size<=b->N b)->(∀a∈asx,∀i,a.ids i->∃y,g i=some y)->Xi3 W θ asx vs ->
  Calls P f vs.toArray W.w λe w'=>∃W' θ' v u g',e=.returned u/\W'.w=w'/\Stp N W W' θ θ' g g'/\AV.V W' θ' v u/\(∀i,v.ids i->∃y,g' i=some y)/\Post v g'
noncomputable def Xi8(tb:Nat->Option TI): List TypeId->List AV->List AV
 | T::Ts,a::asx=>(match tb T with
  | some ti=>match plain a,toD ti.z a with
   | true,some x=>.d x
   | _,_=>a
  | none=>a)::Xi8 tb Ts asx
 | _,asx=>asx
def callee(e:Ev)(x:Operand): Option (FuncId×List AV):=match Xc4 e x with
 | some (.d (.raw (.func (.func f) ⟨[]⟩ ⟨[]⟩)))=>some (f,[])
 | some (.fn f o)=>some (f,[.ptr o 0])
 | some (.fm f a)=>match okA a with
  | true=>some (f,unA a)
  | false=>none
 | _=>none
def aft(s:S)(o:Oper)(r:AV×List (Nat×Ob)): S:=S.put (s.1,Xbe s.2 r.2) o.dst r.1
def Nu(nw:Bool)(o:Oper)(us:List (Nat×Ob)): Prop:=us=[]\/(nw=true/\∃d ob,o.dst=some d/\us=[(d,ob)])
def Cd(P:Program)[Gb P](f:FuncId)(asx:List AV)(o:Oper)(g:Hp)(nw:Bool)(H0:Hp)(Q:AV×List (Nat×Ob)->Prop): Prop :=
 (nw=true->∃d,o.dst=some d/\g d=none)/\(∀i y,H0 i=some y->g i=some y/\∃a∈asx,a.ids i) /\
 ∀g,(∀i y,H0 i=some y->g i=some y)->(nw=true->∀d,o.dst=some d->g d=none)->CS P f asx g λv g'=>∃us,Nu nw o us/\g'=Xbe g us/\Q (v,us)
def Raw(P:Program)[Gb P](o:Oper)(s:S)(r:AV×List (Nat×Ob)): Prop :=
 ∀(N:Nat->Prop) (W:GW) (θ:Loc) (ρ:Operand->Value),(Gb.g P W/\∀g,ρ (.global g)=.pointer (some ⟨g,0,none⟩))->Obs W θ N s.2->(∀b,W.size<=b->N b)->o.dst.getD 0<1000000->(∀x v,Xc4 s.1 x=some v->AV.V W θ v (ρ x))->Good P N W θ s.2 ρ o r.1 (Xbe s.2 r.2)
def Wb(P:Program)[Gb P](tb:Nat->Option TI)(dr:Bool)(o:Oper)(R:S->Prop)(s:S): Prop :=
 match o.op with
 | .call ⟨.value x,asx,tys⟩=>∃f ex vs,callee s.1 x=some (f,ex)/\getEs s.1 asx.toList=some vs/\match dr with
  | true=>∃nw H0 Q,Cd P f (Xi8 tb tys.toList vs++ex) o s.2 nw H0 Q/\∀r,Nu nw o r.2->Q r->R (aft s o r)
  | false=>∃as' Post,(as'=Xi8 tb tys.toList vs\/as'=vs)/\CS P f (as'++ex) s.2 Post/\∀v g',Post v g'->R (S.put (s.1,g') o.dst v)
 | _=>(∃r,eff tb o s=some r/\R (S.put (s.1,Xbe s.2 r.2) o.dst r.1))\/(dr=false/\∃r,Raw P o s r/\R (S.put (s.1,Xbe s.2 r.2) o.dst r.1))
def Wo(P:Program)[Gb P](tb:Nat->Option TI)(dr:Bool)(L:List Oper)(o:Oper)(R:S->Prop)(s:S): Prop :=
 (want L o s=some true/\Wb P tb dr o R s)\/(want L o s=some false/\∃d,o.dst=some d/\R (s.put (some d) .un))
section
variable{P:Program}{tb:Nat->Option TI}{W:GW}{θ:Loc}{n:Nat}
theorem Yhh{v:Value}{a:AV}(h:ofV v=some a): AV.V W θ a v/\∀i,¬a.ids i:=by
 unfold ofV at h
 split at h<;>try cases h
 . split at h<;>cases h
   rename_i hw
   exact⟨int_V (by unfold inR;simpa using hw),λ_ h=>h⟩
 . exact⟨b_V _,λ_ h=>h⟩
 . split at h<;>cases h
   rename_i hb
   exact⟨Xnr (by simpa [Nat.blt_eq] using hb),λ_ h=>h⟩
 . exact⟨⟨_,⟨_,rfl⟩,rfl⟩,λ_ h=>h⟩
 . exact⟨⟨_,⟨rfl,rfl⟩,rfl⟩,λ_ h=>h⟩
 . exact⟨⟨_,⟨rfl,rfl⟩,rfl⟩,λ_ h=>h⟩
 . exact⟨⟨_,⟨rfl,rfl⟩,rfl⟩,λ_ h=>h⟩
theorem Xiq{W0:GW}{X:Nat->Prop}{s:S}{a:Act}(h:Sat W0 X n s a W θ){x:Operand}{v:AV}(hx:Xc4 s.1 x=some v): AV.V W θ v (a.eval x)/\∀i,v.ids i->∃y,s.2 i=some y:=by
 cases x with
 | tmp t=>exact⟨h.rel.has t v hx,λi hi=>h.ids t v i hx hi⟩
 | const c=>have k:=Yhh (W:=W) (θ:=θ) hx;exact⟨k.1,λi hi=>absurd hi (k.2 i)⟩
 | func f=>simp only[Xc4,Option.some.injEq] at hx;subst hx;exact⟨⟨_,⟨rfl,rfl⟩,rfl⟩,λ_ h=>h.elim⟩
 | global g=>simp[Xc4] at hx
theorem Xoo{W0:GW}{X:Nat->Prop}{s:S}{a:Act}(h:Sat W0 X n s a W θ): ∀ {l:List Operand} {vs:List AV},getEs s.1 l=some vs->Xbm W θ s.2 a.eval l vs
 | [],vs,hx=>by simp only[getEs] at hx;injection hx with hx;subst hx;trivial
 | x::l,vs,hx=>by
  simp only[getEs] at hx
  split at hx<;>try cases hx
  rename_i v hv
  split at hx<;>cases hx
  rename_i asx has
  exact⟨Xiq h hv,Xoo h has⟩
theorem Xjc{W0:GW}{X:Nat->Prop}{s:S}{a:Act}(h:Sat W0 X n s a W θ){L:List Oper}{o:Oper}{c:Bool}(hw:want L o s=some c): Region.wanted o (yielded L.toArray a.tmps)=c:=by
 unfold want at hw
 unfold Region.wanted
 split at hw
 . rename_i hg;injection hw with hw;subst hw;rw[hg]
 . rename_i j b hg
   rw[hg]
   split at hw<;>try cases hw
   rename_i t ht
   have hd:∀(l:List Oper) j,Xmy l j=(l[j]?).bind (·.dst):=by
    intro l
    induction l with
    | nil=>intro j;simp[Xmy]
    | cons o l ih=>intro j;cases j with
     | zero=>rfl
     | succ j=>simp[Xmy,ih]
   rw[hd] at ht
   split at hw<;>cases hw
   . rename_i cc hv
     have h1:=V_b (h.rel.has t _ hv)
     have h2:a.tmps[t]?=some (.bool cc):=by
      simp only[Array.getD] at h1
      split at h1
      . rename_i hlt
        rw[W6u hlt]
        exact congrArg some h1
      . simp[undef] at h1
     simp[yielded,ht,h2]
   . rename_i hv
     have h1:a.tmps.getD t undef=undef:=h.rel.has t _ hv
     have h2:a.tmps[t]?=none\/a.tmps[t]?=some undef:=by
      simp only[Array.getD] at h1
      split at h1
      . rename_i hlt
        rw[W6u hlt]
        exact .inr (congrArg some h1)
      . rename_i hlt;exact .inl (W3u (by omega))
     rcases h2 with h2 | h2<;>simp[yielded,ht,h2,undef]
theorem Ygh{z:D}{a:AV}{x:D}(h:toD z a=some x)(hp:plain a=true): a.ag=x.ag:=by
 unfold toD at h
 split at h
 all_goals first
  | (injection h with h;subst h;rfl)
  | (cases hp;done)
  | (cases h;done)
  | (split at h<;>cases h;rfl)
theorem Xqh{g:Hp}{ρ:Operand->Value}(hT:∀T ti,tb T=some ti->TyOk P T ti/\∀a c,ti.z≠.pr a c): ∀ {Ts:List TypeId} {l:List Operand} {asx:List AV},Xbm W θ g ρ l asx ->
 Xi3 W θ (Xi8 tb Ts asx) (l.map ρ)/\∀a∈Xi8 tb Ts asx,∀i,a.ids i->∃y,g i=some y
 | [],[],[],_=>⟨trivial,λa h=>by simp[Xi8] at h⟩
 | T::Ts,[],[],_=>⟨trivial,λa h=>by simp[Xi8] at h⟩
 | [],x::l,a::asx,h=>by
  have k:=Xqh (Ts:=[]) hT h.2
  simp only[Xi8] at k |-
  exact⟨⟨h.1.1,k.1⟩,λb hb=>by
   rcases W1j.1 hb with e | e
   . subst e;exact h.1.2
   . exact k.2 b e⟩
 | T::Ts,x::l,a::asx,h=>by
  have k:=Xqh (Ts:=Ts) hT h.2
  have key:∀b,b=a\/(∃x,b=.d x/\plain a=true/\∃z,toD z a=some x)->Xi3 W θ (b::Xi8 tb Ts asx) ((x::l).map ρ)/\∀c∈b::Xi8 tb Ts asx,∀i,c.ids i->∃y,g i=some y:=by
   intro b hb
   rcases hb with rfl | ⟨y,rfl,hp,z,hz⟩
   . exact⟨⟨h.1.1,k.1⟩,λc hc=>by
      rcases W1j.1 hc with e | e
      . subst e;exact h.1.2
      . exact k.2 c e⟩
   . refine⟨⟨?_,k.1⟩,λc hc=>by
      rcases W1j.1 hc with e | e
      . subst e;exact λ_ h=>h.elim
      . exact k.2 c e⟩
     obtain⟨cs,hc,e⟩:=V_c h.1.1 (λb e=>by subst e;cases hp) (λe=>by subst e;cases hp)
     have h1:=Xly hz hc
     refine⟨cs,h1,?_⟩
     show ρ x=_
     rw[e]
     have:a.ag=y.ag:=Ygh hz hp
     rw[this];rfl
  simp only[Xi8]
  refine key _ ?_
  split
  . split
    . rename_i hp hx;exact .inr ⟨_,rfl,hp,_,hx⟩
    . exact .inl rfl
  . exact .inl rfl
 | _,[],_::_,h=>h.elim
 | _,_::_,[],h=>h.elim
end
end
section
def Nx(W0:GW)(X:Nat->Prop)(θ0:Loc)(n:Nat)(R:S->Prop)(a:Act)(w:World): Prop :=
 ∃s W θ,W.w=w/\Sat W0 X n s a W θ/\(∀i,1000000<=i->θ i=θ0 i)/\R s
theorem Nx.mono{W0:GW}{X:Nat->Prop}{θ0:Loc}{n:Nat}{R R':S->Prop}{a:Act}{w:World}(h:Nx W0 X θ0 n R a w)(k:∀s,R s->R' s): Nx W0 X θ0 n R' a w :=
 let ⟨s,W,θ,h1,h2,h3,h4⟩:=h;⟨s,W,θ,h1,h2,h3,k s h4⟩
def Xen(n:Nat)(o:Oper): Bool:=match o.dst with
 | none=>true
 | some d=>Nat.blt d n
section
variable{P:Program}[Gb P]{tb:Nat->Option TI}{W0:GW}{X:Nat->Prop}{θ0:Loc}{n:Nat}
theorem Xtq{s:S}{a:Act}{W W':GW}{θ θ':Loc}{g':Hp}{v:AV}{u:Value}{o:Oper}(h:Sat W0 X n s a W θ)(k:Stp (λb=>W0.size<=b\/X b) W W' θ θ' s.2 g')(hd:Xen n o=true)(hv:AV.V W' θ' v u)
 (hi:∀i,v.ids i->∃y,g' i=some y):Sat W0 X n (S.put (s.1,g') o.dst v) (a.put o.dst u) W' θ':=by
 have h1:=h.step0 k
 unfold Xen at hd
 cases e:o.dst with
 | none=>exact h1
 | some d =>
  rw[e] at hd
  exact h1.put (Xqk hd) hv hi
theorem Ybg{a:AV}{W:GW}{θ:Loc}{cs:List Value}(h:Ybi a=true)(hc:AV.C W θ a cs): ∃v,cs=[v]/\AV.V W θ a v:=by
 unfold Ybi at h
 split at h<;>try cases h
 all_goals first
  | (obtain⟨b,h1,h2⟩:=hc;exact⟨_,h2,⟨_,⟨b,h1,rfl⟩,rfl⟩⟩)
  | (obtain⟨h1,h2⟩:=hc;exact⟨_,h1,⟨_,⟨rfl,h2⟩,rfl⟩⟩)
  | (exact⟨_,hc,⟨_,rfl,rfl⟩⟩)
theorem Ylb{W:GW}{θ:Loc}: ∀ {a:AV} {vs:List Value},okA a=true->AV.C W θ a vs->Xi3 W θ (unA a) vs/\∀b∈unA a,∀i,b.ids i->a.ids i:=by
 intro a
 induction a with
 | pr a c _ ih =>
  intro vs h ⟨u,v,e,h1,h2⟩
  simp only[okA,W0g] at h
  obtain⟨w,rfl,hw⟩:=Ybg h.1 h1
  obtain⟨k1,k2⟩:=ih h.2 h2
  subst e
  exact⟨⟨hw,k1⟩,λb hb i hi=>(W1j.1 hb).elim (λe=>.inl (e ▸ hi)) λhb=>.inr (k2 b hb i hi)⟩
 | _ =>
  intro vs h hc
  obtain⟨w,rfl,hw⟩:=Ybg h hc
  exact⟨⟨hw,trivial⟩,λb hb i hi=>by rcases W0h.1 hb with rfl;exact hi⟩
theorem Ym5(hT:∀T ti,tb T=some ti->TyOk P T ti/\∀a c,ti.z≠.pr a c)(hn:n<=1000000/\Gb.g P W0){dr:Bool}{o:Oper}(hd:Xen n o=true){R:S->Prop}{Q:Exit->Act->World->Prop}{s:S}{a:Act}{W:GW}{θ:Loc}(hs:Sat W0 X n s a W θ)
 (hθ:∀i,1000000<=i->θ i=θ0 i) (h:Wb P tb dr o R s):o.wp P a W.w (Nx W0 X θ0 n R) Q:=by
 have hN:∀b,W.size<=b->(λb=>W0.size<=b\/X b) b:=λb hb=>.inl (W0k hs.fm.size hb)
 unfold Wb at h
 split at h
 . rename_i x asx tys he
   obtain⟨f,ex,vs,hc,hg,h⟩:=h
   have h:∃as' Post,(as'=Xi8 tb tys.toList vs\/as'=vs)/\CS P f (as'++ex) s.2 Post/\∀v g',Post v g'->R (S.put (s.1,g') o.dst v):=by
    cases dr with
    | true =>
     obtain⟨nw,H0,Q,⟨h1,h2,h3⟩,h4⟩:=h
     exact⟨_,_,.inl rfl,h3 s.2 (λi y hi=>(h2 i y hi).1) (λhn d hd=>by obtain⟨d',e,k⟩:=h1 hn;rw[hd] at e;injection e with e;subst e;exact k),λv g' ⟨us,u1,u2,u3⟩=>by rw[u2];exact h4 (v,us) u1 u3⟩
    | false=>exact h
   obtain⟨as',Post,has',⟨⟨fn,f1,f2,f3⟩,hcs⟩,hR⟩:=h
   have ha:=Xoo hs hg
   have hna:Xi3 W θ as' (asx.toList.map a.eval)/\∀a∈as',∀i,a.ids i->∃y,s.2 i=some y:=by
    rcases has' with rfl | rfl
    . exact Xqh (Ts:=tys.toList) hT ha
    . have:=Xqh (Ts:=[]) hT ha
      simpa only [Xi8] using this
   have hb:¬fn.body=none:=λh=>by rw[h] at f3;cases f3
   have h2' : ¬ fn.name = "runtime.NumGoroutine" := by simpa using f2
   obtain⟨exs,hr,hex⟩:∃exs:List Value,(execOp a.eval o).run P W.w=.ok (.enter f (asx.toList.map a.eval++exs).toArray) W.w/\Xi3 W θ ex exs/\∀a∈ex,∀i,a.ids i->∃y,s.2 i=some y:=by
    unfold callee at hc
    split at hc<;>try cases hc
    . rename_i hx
      have hx:a.eval x=.func (.func f) #[] #[]:=by
       obtain⟨⟨cs,⟨h1,_⟩,h2⟩,_⟩:=Xiq hs hx
       rw[h2,h1];rfl
      refine⟨[],?_,trivial,λa h=>by cases h⟩
      simp only[execOp,he,resolve,hx,Deferred.ofValue]
      simp[invoke,callFunc,program,bind,Sem.bind,Sem.run,pure,f1,h2',hb]
      apply Array.ext';simp
    . rename_i o' hx
      obtain⟨⟨cs,⟨b,h1,h2⟩,h3⟩,h4⟩:=Xiq hs hx
      have hx:a.eval x=.func (.func f) #[] #[.pointer (some ⟨b,0,none⟩)]:=by rw[h3,h2];rfl
      refine⟨[.pointer (some ⟨b,0,none⟩)],?_,⟨Xrw h1,trivial⟩,λa h i hi=>by rcases W0h.1 h with rfl;exact h4 i hi⟩
      simp only[execOp,he,resolve,hx,Deferred.ofValue]
      simp[invoke,callFunc,program,bind,Sem.bind,Sem.run,pure,f1,h2',hb]
      apply Array.ext';simp
    . rename_i a' hx
      split at hc<;>cases hc
      rename_i hq
      obtain⟨⟨cs,⟨vs',h1,h2⟩,h3⟩,h4⟩:=Xiq hs hx
      have hx:a.eval x=.func (.func f) #[] vs'.toArray:=by rw[h3,h2];rfl
      obtain⟨k1,k2⟩:=Ylb hq h1
      refine⟨vs',?_,k1,λa h i hi=>h4 i (k2 a h i hi)⟩
      simp only[execOp,he,resolve,hx,Deferred.ofValue]
      simp[invoke,callFunc,program,bind,Sem.bind,Sem.run,pure,f1,h2',hb]
   have happ:∀ {l:List AV} {m:List Value},Xi3 W θ l m->Xi3 W θ (l++ex) (m++exs):=by
    intro l
    induction l with
    | nil=>intro m hm;cases m with
     | nil=>exact hex.1
     | cons _ _=>exact hm.elim
    | cons a l ih=>intro m hm;cases m with
     | nil=>exact hm.elim
     | cons _ _=>exact⟨hm.1,ih hm.2⟩
   unfold Oper.wp
   rw[hr,Oper.upon_enter]
   refine(hcs (λb=>W0.size<=b\/X b) W θ _ (Gb.mono W0 W hs.fm.le hn.2) hs.obs hN (λa ha=>(W1s.1 ha).elim (hna.2 a) (hex.2 a)) (happ hna.1)).mono ?_
   rintro e w' ⟨W',θ',v,u,g',rfl,rfl,hst,hv,hi,hp⟩
   exact⟨_,W',θ',rfl,Xtq hs hst hd hv hi,λi hi=>(hst.hi i hi).trans (hθ i hi),hR v g' hp⟩
 . have hdB:o.dst.getD 0<1000000:=by
    unfold Xen at hd
    cases e:o.dst with
    | none=>exact W4p _
    | some d=>rw[e] at hd;exact W0v (Xqk hd) hn.1
   have hg:∃v us,Good P (λb=>W0.size<=b\/X b) W θ s.2 a.eval ⟨o.dst,o.op,o.type,o.pos,o.after,o.guard⟩ v (Xbe s.2 us)/\R (S.put (s.1,Xbe s.2 us) o.dst v):=by
    rcases h with ⟨⟨v,us⟩,he,hR⟩ | ⟨_,⟨v,us⟩,hw,hR⟩
    . unfold eff at he
      split at he<;>try cases he
      rename_i asx has
      split at he<;>try cases he
      rename_i hst
      exact⟨v,us,Ypd hT hs.obs hN hdB (λ_=>rfl) (λh=>by
       rw[h,Bool.true_and] at hst
       cases e:o.dst with
       | none=>rfl
       | some d=>rw[e] at hst;cases hst) he (Xoo hs has),hR⟩
    . exact⟨v,us,hw _ W θ _ ⟨Gb.mono W0 W hs.fm.le hn.2,λ_=>rfl⟩ hs.obs hN hdB λx v hx=>(Xiq hs hx).1,hR⟩
   obtain⟨v,us,hg,hR⟩:=hg
   obtain⟨W',θ',r,hrun,hstp,hres,hi⟩:=hg
   unfold Oper.wp
   rw[show (execOp a.eval o).run P W.w=.ok r W'.w from hrun]
   rcases hres with ⟨rfl,h0⟩ | ⟨u,rfl,hv⟩
   . rw[Oper.upon_skip]
     have h0:o.dst=none:=h0
     rw[h0] at hR |-
     exact⟨_,W',θ',rfl,hs.step0 hstp,λi hi=>(hstp.hi i hi).trans (hθ i hi),hR⟩
   . rw[Oper.upon_value]
     exact⟨_,W',θ',rfl,Xtq hs hstp hd hv hi,λi hi=>(hstp.hi i hi).trans (hθ i hi),hR⟩
theorem Yfl(hT:∀T ti,tb T=some ti->TyOk P T ti/\∀a c,ti.z≠.pr a c)(hn:n<=1000000/\Gb.g P W0){dr:Bool}{L:List Oper}{o:Oper}(hd:Xen n o=true){R:S->Prop}{Q:Exit->Act->World->Prop}{a:Act}{w:World}
 (h:Nx W0 X θ0 n (Wo P tb dr L o R) a w):if Region.wanted o (yielded L.toArray a.tmps) then o.wp P a w (Nx W0 X θ0 n R) Q else Nx W0 X θ0 n R (a.put o.dst undef) w:=by
 obtain⟨s,W,θ,rfl,hs,hθ,h⟩:=h
 rcases h with ⟨h1,h2⟩ | ⟨h1,d,h2,h3⟩
 . rw[if_pos (Xjc hs h1)]
   exact Ym5 hT hn hd hs hθ h2
 . rw[Xjc hs h1]
   unfold Xen at hd
   rw[h2] at hd |-
   exact⟨_,W,θ,rfl,hs.put (v:=.un) (Xqk hd) rfl (λ_ h=>h.elim),hθ,h3⟩
omit [Gb P] in
theorem Yk6{o:Oper}{a:Act}{w:World}{K:Act->World->Prop}(h:o.wp P a w K (λ_ _ _=>False)): ∃a' w',K a' w':=by
 unfold Oper.wp at h
 generalize (execOp a.eval o).run P w=r at *
 cases r with
 | ok x w' =>
  cases x<;>simp only[Oper.upon] at h
  all_goals first
   | exact⟨_,_,h⟩
   | (obtain⟨e, w2, fr, hR, _⟩ := h []
      cases e with
      | returned v=>exact⟨_,_,hR⟩
      | panicked c=>exact hR.elim
      | outgrown=>obtain⟨_,_,h⟩:=hR;exact h.elim)
   | (obtain⟨v, w2, hR, _⟩ := h default []
      exact⟨_,_,hR⟩)
   | exact h.elim
 | halt x w'=>cases x<;>simp only[Oper.upon] at h<;>exact h.elim
theorem Nx.next(hT:∀T ti,tb T=some ti->TyOk P T ti/\∀a c,ti.z≠.pr a c)(hn:n<=1000000/\Gb.g P W0){dr:Bool}{L:List Oper}{o:Oper}(hd:Xen n o=true){R:S->Prop}{a:Act}{w:World}(h:Nx W0 X θ0 n (Wo P tb dr L o R) a w):
 ∃a' w',Nx W0 X θ0 n R a' w':=by
 have:=Yfl (Q:=λ_ _ _=>False) hT hn hd h
 split at this
 . exact Yk6 this
 . exact⟨_,_,this⟩
def WL(P:Program)[Gb P](tb:Nat->Option TI)(dr:Bool)(L:List Oper)(R:S->Prop): List Oper->S->Prop
 | [],s=>R s
 | o::l,s=>Wo P tb dr L o (WL P tb dr L R l) s
theorem Xxt(hT:∀T ti,tb T=some ti->TyOk P T ti/\∀a c,ti.z≠.pr a c)(hn:n<=1000000/\Gb.g P W0){L:List Oper}{R:S->Prop}{Q:Exit->Act->World->Prop}(hQ:∀a w,Nx W0 X θ0 n R a w->Q .normal a w)(l:List Oper):
 ∀(i:Nat) (a:Act) (w:World),L.drop i=l->(l.all (Xen n))=true->Nx W0 X θ0 n (WL P tb false L R l) a w->wpOps P L.toArray Q (List.range' i l.length) a w:=by
 induction l with
 | nil=>intro i a w _ _ h;exact hQ a w h
 | cons o l ih =>
  intro i a w hd hok h
  rw[List.all_cons,W0g] at hok
  have ho:L.toArray[i]?=some o:=by
   have h1:(L.drop i)[0]?=some o:=by rw[hd];rfl
   rw[W1y] at h1
   simpa using h1
  have hl:L.drop (i+1)=l:=by
   have:(L.drop i).drop 1=l:=by rw[hd];rfl
   rwa[W5x] at this
  rw[W0s,List.range'_succ]
  simp only[wpOps,ho]
  have:=Yfl (Q:=Q) hT hn hok.1 h
  split at this
  . rename_i hw
    rw[if_pos hw]
    exact .inl (Oper.wp_mono (λa w h=>ih (i+1) a w hl hok.2 h) this)
  . rename_i hw
    rw[if_neg hw]
    exact ih (i+1) _ w hl hok.2 this
end
end
section
def Xgn: List Operand->List Nat
 | []=>[]
 | .tmp t::l=>t::Xgn l
 | _::l=>Xgn l
def inL(d:Nat): List Nat->Bool
 | []=>false
 | x::l=>Nat.beq d x||inL d l
def Xnz(L:List Oper)(o:Oper): List Nat:=(match o.guard with
 | none=>[]
 | some (j,_)=>(Xmy L j).toList)++Xgn o.op.operands.toList
def cls: Op->Nat
 | .load _ _=>1
 | .alloc _ | .box _ _ | .makeSlice _ _ _=>2
 | .store _ _ _=>3
 | .call ⟨.builtin .append,_,_⟩=>3
 | .call ⟨.value _,_,_⟩=>4
 | _=>0
def Xzx: Nat->Nat->Bool
 | 0,_=>true
 | _,0=>true
 | 1,1 | 1,2 | 2,1 | 2,2=>true
 | 4,1 | 4,2 | 1,4 | 2,4=>true
 | _,_=>false
def Xby(L:List Oper)(d:Option Nat)(o:Oper): Bool:=match d with
 | none=>true
 | some d=>!inL d (Xnz L o) && !inL d o.dst.toList
def Xk6(L:List Oper)(k i:Oper): Bool:=Xby L k.dst i&&Xby L i.dst k&&Xzx (cls k.op) (cls i.op)&&(!(Nat.beq (cls k.op) 2)||k.dst.isSome)&&(!(Nat.beq (cls i.op) 2)||i.dst.isSome)
theorem Yl9{d:Nat}{l:List Nat}: inL d l=true↔d∈l:=by
 induction l with
 | nil=>simp[inL]
 | cons x l ih=>simp[inL,ih,Nat.beq_eq]
section
variable{P:Program}[Gb P]{tb:Nat->Option TI}
theorem Xy9{e:Ev}{d:Nat}{v:AV}{x:Operand}(h:d ∉ Xgn [x]): Xc4 (upd e d v) x=Xc4 e x:=by
 cases x with
 | tmp t=>simp only[Xgn,W0h] at h;exact Xak (λe=>h e.symm)
 | _=>rfl
theorem Xbz(x:Operand)(l:List Operand): Xgn (x::l)=Xgn [x]++Xgn l:=by cases x<;>rfl
theorem Xmn{e:Ev}{d:Nat}{v:AV}: ∀ {l:List Operand},d ∉ Xgn l->getEs (upd e d v) l=getEs e l
 | [],_=>rfl
 | x::l,h=>by
  rw[Xbz] at h
  simp only[getEs]
  rw[Xy9 (λk=>h (W2k _ k)),Xmn (λk=>h (W1o _ k))]
theorem Xxx{L:List Oper}{o:Oper}{s:S}{d:Option Nat}{v:AV}{g:Hp}(h:Xby L d o=true): want L o (S.put (s.1,g) d v)=want L o s:=by
 cases d with
 | none=>rfl
 | some d =>
  simp only[Xby,W0g,W1u] at h
  unfold want
  split
  . rfl
  . rename_i j b hg
    split
    . rfl
    . rename_i t ht
      have:t≠d:=λe=>by
       have h1:d ∉ Xnz L o:=λhh=>by rw[Yl9.2 hh] at h;exact absurd h.1 (by simp)
       apply h1
       simp[Xnz,hg,ht,e]
      simp only[S.put]
      rw[Xak this]
theorem Yev{L:List Oper}{o:Oper}{s:S}{d:Option Nat}{v:AV}{g:Hp}(h:Xby L d o=true): eff tb o (S.put (s.1,g) d v)=eff tb o (s.1,g):=by
 cases d with
 | none=>rfl
 | some d =>
  simp only[Xby,W0g,W1u] at h
  have h1:d ∉ Xgn o.op.operands.toList:=λhh=>by
   rw[show inL d (Xnz L o)=true from Yl9.2 (W1o _ hh)] at h;exact absurd h.1 (by simp)
  unfold eff
  simp only[S.put]
  rw[Xmn h1]
noncomputable def efw(tb:Nat->Option TI)(L:List Oper)(o:Oper)(s:S): Option (AV×List (Nat×Ob)):=match want L o s with
 | some true=>eff tb o s
 | some false=>match o.dst with
  | some _=>some (.un,[])
  | none=>none
 | none=>none
def Xap(o:Oper): Bool:=Nat.beq (cls o.op) 4
theorem Xo1{dr:Bool}{o:Oper}(h:Xap o=false){R:S->Prop}{s:S}: Wb P tb dr o R s↔(∃r,eff tb o s=some r/\R (aft s o r))\/(dr=false/\∃r,Raw P o s r/\R (aft s o r)):=by
 unfold Wb
 split
 . rename_i x asx tys he
   simp[Xap,cls,he] at h
 . exact W3x
theorem Yj5{o:Oper}(h:Xap o=false){R:S->Prop}{s:S}: Wb P tb true o R s↔∃r,eff tb o s=some r/\R (aft s o r) :=
 (Xo1 h).trans ⟨λh=>h.elim id λh=>(nomatch h.1),.inl⟩
theorem Xe5{L:List Oper}{o:Oper}(h:Xap o=false){R:S->Prop}{s:S}: Wo P tb true L o R s↔∃r,efw tb L o s=some r/\R (aft s o r):=by
 unfold Wo efw
 cases hw:want L o s with
 | none=>simp
 | some c =>
  cases c with
  | true=>simp[Yj5 h]
  | false =>
   cases hd:o.dst with
   | none=>simp
   | some d=>simp[aft,S.put,Xbe,hd]
theorem Yeu{L:List Oper}{o:Oper}{s:S}{d:Option Nat}{v:AV}{g:Hp}(h:Xby L d o=true): efw tb L o (S.put (s.1,g) d v)=efw tb L o (s.1,g):=by
 unfold efw
 rw[Xxx h,Yev h]
 rfl
theorem Xlj(c:Call): cls (.call c)=0\/cls (.call c)=3\/cls (.call c)=4:=by
 obtain⟨cal,asx,tys⟩:=c
 cases cal with
 | builtin b=>cases b<;>first | exact .inl rfl | exact .inr (.inl rfl)
 | value x=>exact .inr (.inr rfl)
 | invoke x m=>exact .inl rfl
theorem Yo5{o:Oper}(hc:cls o.op=0){e:Ev}{g:Hp}{r:AV×List (Nat×Ob)}(h:eff tb o (e,g)=some r): r.2=[]/\∀g',eff tb o (e,g')=some r:=by
 unfold eff at h |-
 split at h<;>try cases h
 rename_i asx has
 split at h<;>try cases h
 rename_i hst
 have key:∀g,F tb (o.dst.getD 0) g o.op asx=(match Fp tb o.op asx with | some v=>some (v,[]) | none=>none):=by
  intro g
  unfold F
  split<;>first | rfl | (rename_i he;rw[he] at hc;cases hc)
 rw[key] at h
 split at h<;>cases h
 rename_i v hv
 refine⟨rfl,λg'=>?_⟩
 simp only[has,hst,key,hv]
theorem Ymo{o:Oper}(hc:cls o.op=1){e:Ev}{g:Hp}{r:AV×List (Nat×Ob)}(h:eff tb o (e,g)=some r): r.2=[]/\(∀d ob,g d=none->eff tb o (e,upd g d ob)=some r):=by
 unfold eff at h |-
 split at h<;>try cases h
 rename_i asx has
 split at h<;>try cases h
 rename_i hst
 have:∃T x,o.op=.load T x:=by
  cases ho:o.op<;>rw[ho] at hc<;>first | exact⟨_,_,rfl⟩ | (cases hc;done) | (rename_i c;have:=Xlj c;omega)
 obtain⟨T,x,ho⟩:=this
 simp only[ho] at h has |-
 simp only[F] at h
 split at h<;>try cases h
 rename_i ti hti
 split at h<;>try cases h
 . split at h<;>cases h
   rename_i hf
   exact⟨rfl,λd ob hg=>by simp[has,F,hti,hf,Xd1]⟩
 . split at h<;>try cases h
   rename_i a ha
   split at h<;>cases h
   rename_i y hy
   refine⟨rfl,λd ob hg=>?_⟩
   have:∀ {o},g o=some (.var a)->upd g d ob o=some (.var a):=λho=>by rw[Xak (λe=>by rw[e,hg] at ho;cases ho)];exact ho
   simp[has,F,hti,this ha,hy,Xd1]
 . split at h<;>try cases h
   rename_i sz xs ha
   split at h<;>try cases h
   rename_i hs
   split at h<;>try cases h
   rename_i x' hx
   split at h<;>cases h
   rename_i y hy
   refine⟨rfl,λd ob hg=>?_⟩
   have:∀ {o sz xs},g o=some (.arr sz xs)->upd g d ob o=some (.arr sz xs):=λho=>by rw[Xak (λe=>by rw[e,hg] at ho;cases ho)];exact ho
   simp[has,F,hti,this ha,hs,hx,hy,Xd1]
theorem Xvr{e:Ev}{g:Hp}(hc:∀t v i,e t=some v->v.ids i->∃y,g i=some y): ∀ {l:List Operand} {asx:List AV},getEs e l=some asx->∀a∈asx,∀i,a.ids i->∃y,g i=some y
 | [],asx,h,a,ha=>by simp only[getEs] at h;injection h with h;subst h;cases ha
 | x::l,asx,h,a,ha=>by
  simp only[getEs] at h
  split at h<;>try cases h
  rename_i v hv
  split at h<;>cases h
  rename_i bs hbs
  rcases W1j.1 ha with e1 | e1
  . subst e1
    intro i hi
    cases x with
    | tmp t=>exact hc t a i hv hi
    | const c=>exact absurd hi ((Yhh (W:=⟨default,λ_ _=>False,λ_ _ h=>h.elim⟩) (θ:=λ_=>(none,0)) hv).2 i)
    | func f=>simp only[Xc4,Option.some.injEq] at hv;subst hv;exact hi.elim
    | global g=>simp[Xc4] at hv
  . exact Xvr hc hbs a e1
theorem Yi5{o:Oper}(hc:cls o.op=1){e:Ev}{g:Hp}{d:Nat}{ob:Ob}{r:AV×List (Nat×Ob)}(hd:g d=none)(hcl:∀t v i,e t=some v->v.ids i->∃y,g i=some y)(h:eff tb o (e,upd g d ob)=some r): eff tb o (e,g)=some r:=by
 unfold eff at h |-
 split at h<;>try cases h
 rename_i asx has
 have hids:=Xvr hcl has
 split at h<;>try cases h
 rename_i hst
 have:∃T x,o.op=.load T x:=by
  cases ho:o.op<;>rw[ho] at hc<;>first | exact⟨_,_,rfl⟩ | (cases hc;done) | (rename_i c;have:=Xlj c;omega)
 obtain⟨T,x,ho⟩:=this
 simp only[ho] at h has |-
 have hne:∀ {a:AV} {i:Nat},a∈asx->a.ids i->upd g d ob i=g i:=λha hi=>Xak λe=>by
  obtain⟨y,hy⟩:=hids _ ha _ hi
  rw[e,hd] at hy;cases hy
 have key:∀ {dd:Nat},F tb dd (upd g d ob) (.load T x) asx=some r->F tb dd g (.load T x) asx=some r:=by
  intro dd h
  simp only[F] at h |-
  split at h<;>try cases h
  rename_i ti hti
  split at h<;>try cases h
  . exact h
  . rw[hne (W0h.2 rfl) rfl] at h
    exact h
  . rw[hne (W0h.2 rfl) rfl] at h
    exact h
 simp only[has,Xd1,Bool.false_and]
 exact key h
theorem Yoa{o:Oper}(hc:cls o.op=2){e:Ev}{g:Hp}{r:AV×List (Nat×Ob)}(h:eff tb o (e,g)=some r): ∃ob,r.2=[(o.dst.getD 0,ob)]/\g (o.dst.getD 0)=none/\∀g',g' (o.dst.getD 0)=none->eff tb o (e,g')=some r:=by
 unfold eff at h |-
 split at h<;>try cases h
 rename_i asx has
 split at h<;>try cases h
 rename_i hst
 simp only[has,hst]
 have:(∃T,o.op=.alloc T)\/(∃T x,o.op=.box T x)\/∃T x y,o.op=.makeSlice T x y:=by
  cases ho:o.op<;>rw[ho] at hc<;>first | exact .inl ⟨_,rfl⟩ | exact .inr (.inl ⟨_,_,rfl⟩) | exact .inr (.inr ⟨_,_,_,rfl⟩) | (cases hc;done) | (rename_i c;have:=Xlj c;omega)
 rcases this with ⟨T,ho⟩ | ⟨T,x,ho⟩ | ⟨T,x,y,ho⟩
 . rw[ho] at h |-
   simp only[F] at h |-
   split at h<;>cases h
   rename_i ti h1 h2
   exact⟨_,rfl,h2,λg' hg'=>by simp[h1,hg']⟩
 . rw[ho] at h |-
   simp only[F] at h |-
   split at h<;>try cases h
   rename_i a h2
   split at h<;>cases h
   rename_i hp
   exact⟨_,rfl,h2,λg' hg'=>by simp[hg',hp]⟩
 . rw[ho] at h |-
   simp only[F] at h |-
   split at h<;>try cases h
   rename_i ti _ m _ c h1 h2
   split at h<;>try cases h
   rename_i sz xs hz
   split at h<;>cases h
   rename_i hr
   exact⟨_,rfl,h2,λg' hg'=>by simp only[h1,hg',hz,if_pos hr]⟩
end
end
section
section
variable{P:Program}[Gb P]{tb:Nat->Option TI}
theorem Xay{L:List Oper}{o:Oper}{s:S}{r:AV×List (Nat×Ob)}(h:efw tb L o s=some r):
 (want L o s=some false/\r.2=[]/\∀g',efw tb L o (s.1,g')=some r)\/(want L o s=some true/\eff tb o s=some r):=by
 unfold efw at h
 split at h
 . rename_i hw;exact .inr ⟨hw,h⟩
 . rename_i hw
   split at h<;>cases h
   rename_i d hd
   refine .inl ⟨hw,rfl,λg'=>?_⟩
   unfold efw
   rw[show want L o (s.1,g')=some false from hw]
   simp[hd]
 . cases h
theorem Xem{L:List Oper}{o:Oper}{s:S}{g':Hp}{r:AV×List (Nat×Ob)}(hw:want L o s=some true)(h:eff tb o (s.1,g')=some r): efw tb L o (s.1,g')=some r:=by
 unfold efw
 rw[show want L o (s.1,g')=some true from hw]
 exact h
theorem Xcg{L:List Oper}{o:Oper}{s:S}{r:AV×List (Nat×Ob)}(hc:Xap o=false)(h:efw tb L o s=some r):
 (r.2=[]/\∀g',efw tb L o (s.1,g')=some r)\/(cls o.op=1/\r.2=[]/\(∀d ob,s.2 d=none->efw tb L o (s.1,upd s.2 d ob)=some r)) \/
 (cls o.op=2/\∃ob,r.2=[(o.dst.getD 0,ob)]/\s.2 (o.dst.getD 0)=none/\∀g',g' (o.dst.getD 0)=none->efw tb L o (s.1,g')=some r)\/cls o.op=3:=by
 rcases Xay h with ⟨_,h1,h2⟩ | ⟨hw,he⟩
 . exact .inl ⟨h1,h2⟩
 . have h4:cls o.op≠4:=λe=>by simp[Xap,e] at hc
   have hcase:cls o.op=0\/cls o.op=1\/cls o.op=2\/cls o.op=3\/cls o.op=4:=by
    unfold cls;split<;>simp
   rcases hcase with e | e | e | e | e
   . obtain⟨a1,a2⟩:=Yo5 (e:=s.1) (g:=s.2) e he
     exact .inl ⟨a1,λg'=>Xem hw (a2 g')⟩
   . obtain⟨a1,a2⟩:=Ymo (e:=s.1) (g:=s.2) e he
     exact .inr (.inl ⟨e,a1,λd ob hd=>Xem hw (a2 d ob hd)⟩)
   . obtain⟨ob,a1,a2,a3⟩:=Yoa (e:=s.1) (g:=s.2) e he
     exact .inr (.inr (.inl ⟨e,ob,a1,a2,λg' hg=>Xem hw (a3 g' hg)⟩))
   . exact .inr (.inr (.inr e))
   . exact absurd e h4
theorem Xil{L:List Oper}{k i:Oper}(h:Xk6 L k i=true): Xby L k.dst i=true/\Xby L i.dst k=true/\Xzx (cls k.op) (cls i.op)=true/\(cls k.op=2->k.dst.isSome=true)/\(cls i.op=2->i.dst.isSome=true):=by
 simp only[Xk6,W0g,W3q,W1u] at h
 obtain⟨⟨⟨⟨h1,h2⟩,h3⟩,h4⟩,h5⟩:=h
 exact⟨h1,h2,h3,λe=>h4.resolve_left (λn=>by rw[e] at n;cases n),λe=>h5.resolve_left (λn=>by rw[e] at n;cases n)⟩
theorem Xgc{L:List Oper}{k i:Oper}{a b:Nat}(h:Xby L k.dst i=true)(ha:k.dst=some a)(hb:i.dst=some b): a≠b:=by
 intro e
 subst e
 rw[ha] at h
 simp[Xby,hb,inL] at h
theorem Xkt{s:S}{d t:Option Nat}{x y:AV}{g g1 g2:Hp}(h:∀a b,d=some a->t=some b->a≠b)(hg:g1=g2): S.put ((S.put (s.1,g) d x).1,g1) t y=S.put ((S.put (s.1,g) t y).1,g2) d x:=by
 subst hg
 cases d with
 | none=>cases t<;>rfl
 | some a=>cases t with
  | none=>rfl
  | some b=>simp only[S.put];rw[Xhc (h a b rfl rfl)]
theorem S.put_g{s:S}{g:Hp}{d:Option Nat}{v:AV}: (S.put (s.1,g) d v).2=g:=by cases d<;>rfl
theorem S.put_e{s:S}{g g':Hp}{d:Option Nat}{v:AV}: (S.put (s.1,g) d v).1=(S.put (s.1,g') d v).1:=by cases d<;>rfl
theorem Xbl{L:List Oper}{k i:Oper}{s:S}{r:AV×List (Nat×Ob)}(h:Xby L k.dst i=true): efw tb L i (aft s k r)=efw tb L i (s.1,Xbe s.2 r.2):=Yeu (s:=s) h
theorem par{L:List Oper}{k i:Oper}(hi:Xk6 L k i=true)(ck:Xap k=false)(ci:Xap i=false){s:S}{rk ri:AV×List (Nat×Ob)}(h1:efw tb L k s=some rk)(h2:efw tb L i s=some ri):
 efw tb L i (aft s k rk)=some ri/\efw tb L k (aft s i ri)=some rk/\aft (aft s i ri) k rk=aft (aft s k rk) i ri:=by
 obtain⟨a1,a2,a3,a4,a5⟩:=Xil hi
 have fin:Xbe (Xbe s.2 ri.2) rk.2=Xbe (Xbe s.2 rk.2) ri.2->aft (aft s i ri) k rk=aft (aft s k rk) i ri:=λhg=>by
  unfold aft
  rw[S.put_g,S.put_g,hg]
  have e1:=S.put_e (s:=s) (g:=Xbe s.2 ri.2) (g':=s.2) (d:=i.dst) (v:=ri.1)
  have e2:=S.put_e (s:=s) (g:=Xbe s.2 rk.2) (g':=s.2) (d:=k.dst) (v:=rk.1)
  rw[e1,e2]
  exact Xkt (s:=s) (λa b ha hb=>Xgc a2 ha hb) rfl
 rw[Xbl a1,Xbl a2]
 rcases Xcg ck h1 with ⟨b1,b2⟩ | ⟨b0,b1,b2⟩ | ⟨b0,ob,b1,b2,b3⟩ | b0
 . rw[b1]
   exact⟨h2,b2 _,fin (by rw[b1];rfl)⟩
 . rw[b1]
   refine⟨h2,?_,fin (by rw[b1];rfl)⟩
   rcases Xcg ci h2 with ⟨c1,c2⟩ | ⟨c0,c1,c2⟩ | ⟨c0,oc,c1,c2,c3⟩ | c0
   . rw[c1];exact h1
   . rw[c1];exact h1
   . rw[c1];exact b2 _ _ c2
   . rw[b0,c0] at a3;cases a3
 . rcases Xcg ci h2 with ⟨c1,c2⟩ | ⟨c0,c1,c2⟩ | ⟨c0,oc,c1,c2,c3⟩ | c0
   . rw[c1];exact⟨c2 _,h1,fin (by rw[c1];rfl)⟩
   . rw[c1,b1];exact⟨c2 _ _ b2,h1,fin (by rw[c1];rfl)⟩
   . obtain⟨dk,hdk⟩:=W3g.1 (a4 b0)
     obtain⟨di,hdi⟩:=W3g.1 (a5 c0)
     have hne:=Xgc a1 hdk hdi
     rw[hdk] at b1 b2 b3
     rw[hdi] at c1 c2 c3
     simp only[W3v] at b1 b2 b3 c1 c2 c3
     rw[b1,c1]
     refine⟨c3 _ (by show upd s.2 dk ob di=none;rw[Xak (λe=>hne e.symm)];exact c2),b3 _ (by show upd s.2 di oc dk=none;rw[Xak hne];exact b2),fin ?_⟩
     rw[b1,c1]
     exact Xhc (λe=>hne e.symm)
   . rw[b0,c0] at a3;cases a3
 . rcases Xcg ci h2 with ⟨c1,c2⟩ | ⟨c0,c1,c2⟩ | ⟨c0,oc,c1,c2,c3⟩ | c0
   . rw[c1];exact⟨c2 _,h1,fin (by rw[c1];rfl)⟩
   . rw[b0,c0] at a3;cases a3
   . rw[b0,c0] at a3;cases a3
   . rw[b0,c0] at a3;cases a3
theorem back{L:List Oper}{k i:Oper}(hi:Xk6 L k i=true)(ck:Xap k=false)(ci:Xap i=false){s:S}(hcl:∀t v j,s.1 t=some v->v.ids j->∃y,s.2 j=some y){rk ri:AV×List (Nat×Ob)}(h1:efw tb L k s=some rk)(h2:efw tb L i (aft s k rk)=some ri):
 efw tb L i s=some ri:=by
 obtain⟨a1,a2,a3,a4,a5⟩:=Xil hi
 rw[Xbl a1] at h2
 rcases Xcg ck h1 with ⟨b1,b2⟩ | ⟨b0,b1,b2⟩ | ⟨b0,ob,b1,b2,b3⟩ | b0
 . rw[b1] at h2;exact h2
 . rw[b1] at h2;exact h2
 . rcases Xcg (s:=(s.1,Xbe s.2 rk.2)) ci h2 with ⟨c1,c2⟩ | ⟨c0,c1,c2⟩ | ⟨c0,oc,c1,c2,c3⟩ | c0
   . exact c2 s.2
   . rcases Xay h2 with ⟨_,_,d3⟩ | ⟨d1,d2⟩
     . exact d3 s.2
     . rw[b1] at d2
       have d1:want L i s=some true:=d1
       have:=Yi5 (o:=i) c0 b2 hcl d2
       exact Xem (s:=s) d1 this
   . obtain⟨dk,hdk⟩:=W3g.1 (a4 b0)
     obtain⟨di,hdi⟩:=W3g.1 (a5 c0)
     have hne:=Xgc a1 hdk hdi
     rw[hdk] at b1
     rw[hdi] at c2 c3
     simp only[W3v] at b1 c2 c3
     refine c3 s.2 ?_
     rw[b1] at c2
     have c2:upd s.2 dk ob di=none:=c2
     rwa[Xak (λe=>hne e.symm)] at c2
   . rw[b0,c0] at a3;cases a3
 . rcases Xcg (s:=(s.1,Xbe s.2 rk.2)) ci h2 with ⟨c1,c2⟩ | ⟨c0,c1,c2⟩ | ⟨c0,oc,c1,c2,c3⟩ | c0
   . exact c2 s.2
   . rw[b0,c0] at a3;cases a3
   . rw[b0,c0] at a3;cases a3
   . rw[b0,c0] at a3;cases a3
end
end
section
section
variable{P:Program}[Gb P]{tb:Nat->Option TI}
def Xpa(L:List Oper)(o:Oper)(s s':S): Prop:=∀t∈Xnz L o,s.1 t=s'.1 t
theorem Xpa.symm{L:List Oper}{o:Oper}{s s':S}(h:Xpa L o s s'): Xpa L o s' s:=λt ht=>(h t ht).symm
theorem Xnf{L:List Oper}{o:Oper}{s:S}{d:Option Nat}{v:AV}{g:Hp}(h:Xby L d o=true): Xpa L o (S.put (s.1,g) d v) s:=by
 cases d with
 | none=>exact λ_ _=>rfl
 | some d =>
  intro t ht
  simp only[Xby,W0g,W1u] at h
  refine Xak λe=>?_
  subst e
  rw[Yl9.2 ht] at h
  exact absurd h.1 (by simp)
theorem Xpa.getEs{L:List Oper}{o:Oper}{s s':S}(h:Xpa L o s s'): ∀ {l:List Operand},(∀t∈Xgn l,t∈Xgn o.op.operands.toList)->Vm.getEs s.1 l=Vm.getEs s'.1 l
 | [],_=>rfl
 | x::l,hl=>by
  have h1:Xc4 s.1 x=Xc4 s'.1 x:=by
   cases x with
   | tmp t=>exact h t (W1o _ (hl t (by rw[Xbz];exact W2k _ (W0h.2 rfl))))
   | _=>rfl
  simp only[Vm.getEs]
  rw[h1,Xpa.getEs h (l:=l) λt ht=>hl t (by rw[Xbz];exact W1o _ ht)]
theorem Xpa.want{L:List Oper}{o:Oper}{s s':S}(h:Xpa L o s s'): Vm.want L o s=Vm.want L o s':=by
 unfold Vm.want
 split
 . rfl
 . rename_i j b hg
   split
   . rfl
   . rename_i t ht
     rw[h t (W2k _ (by simp[hg,ht]))]
theorem Xik{o:Oper}(hc:Xap o=true): ∃x asx tys,o.op=.call ⟨.value x,asx,tys⟩:=by
 cases ho:o.op<;>simp only[Xap,ho,cls] at hc<;>first | (cases hc;done) | skip
 rename_i c
 obtain⟨cal,asx,tys⟩:=c
 cases cal with
 | builtin b=>cases b<;>cases hc
 | value x=>exact⟨_,_,_,rfl⟩
 | invoke x m=>cases hc
theorem Xn6{v:Value}{a:AV}(h:ofV v=some a)(i:Nat): ¬a.ids i:=by
 unfold ofV at h
 split at h<;>first | (cases h;done) | (injection h with h;subst h;exact id) | (split at h<;>cases h;exact id)
theorem Ycq: ∀ {a:AV} (b:AV),b∈unA a->∀ {i:Nat},b.ids i->a.ids i:=by
 intro a
 induction a with
 | pr a c _ ih=>exact λb hb i hi=>(W1j.1 hb).elim (λe=>.inl (e ▸ hi)) λhb=>.inr (ih b hb hi)
 | _=>exact λb hb i hi=>by rcases W0h.1 hb with rfl;exact hi
theorem Xr8{e:Ev}{x:Operand}{f:FuncId}{ex:List AV}(h:callee e x=some (f,ex)){a:AV}(ha:a∈ex){i:Nat}(hi:a.ids i): ∃t v,x=.tmp t/\e t=some v/\v.ids i:=by
 unfold callee at h
 split at h
 . injection h with h;injection h with h1 h2;subst h2;cases ha
 . rename_i f' o' hx
   injection h with h;injection h with h1 h2;subst h2
   rcases W0h.1 ha with rfl
   cases x with
   | tmp t=>exact⟨t,_,rfl,hx,hi⟩
   | const c=>exact absurd (show (AV.fn f' o').ids i from hi) (Xn6 hx i)
   | func f=>simp[Xc4] at hx
   | global g=>simp[Xc4] at hx
 . rename_i f' a' hx
   split at h<;>try cases h
   have hi:=Ycq a ha hi
   cases x with
   | tmp t=>exact⟨t,_,rfl,hx,hi⟩
   | const c=>exact absurd (show (AV.fm f a').ids i from hi) (Xn6 hx i)
   | func f=>simp[Xc4] at hx
   | global g=>simp[Xc4] at hx
 . cases h
theorem Xmo{e:Ev}{i:Nat}: ∀ {l:List Operand} {vs:List AV},getEs e l=some vs->∀a∈vs,a.ids i->∃t∈Xgn l,∃v,e t=some v/\v.ids i
 | [],vs,h,a,ha,_=>by simp only[getEs] at h;injection h with h;subst h;cases ha
 | x::l,vs,h,a,ha,hi=>by
  simp only[getEs] at h
  split at h<;>try cases h
  rename_i v hv
  split at h<;>cases h
  rename_i asx has
  rw[Xbz]
  rcases W1j.1 ha with rfl | ha
  . cases x with
    | tmp t=>exact⟨t,W2k _ (W0h.2 rfl),_,hv,hi⟩
    | const c=>exact absurd hi (Xn6 hv i)
    | func f=>simp only[Xc4,Option.some.injEq] at hv;subst hv;exact hi.elim
    | global g=>simp[Xc4] at hv
  . obtain⟨t,h1,h2⟩:=Xmo has a ha hi
    exact⟨t,W1o _ h1,h2⟩
theorem Xqg{i:Nat}: ∀ {Ts:List TypeId} {asx:List AV},∀a∈Xi8 tb Ts asx,a.ids i->∃b∈asx,b.ids i
 | [],asx,a,ha,hi=>⟨a,by simpa [Xi8] using ha,hi⟩
 | T::Ts,[],a,ha,hi=>by simp[Xi8] at ha
 | T::Ts,c::asx,a,ha,hi=>by
  simp only[Xi8] at ha
  rcases W1j.1 ha with e | ha
  . have:a=c\/∃x,a=.d x:=by
     split at e
     . split at e
       . exact .inr ⟨_,e⟩
       . exact .inl e
     . exact .inl e
    rcases this with rfl | ⟨x,rfl⟩
    . exact⟨_,W0l ..,hi⟩
    . exact hi.elim
  . obtain⟨b,h1,h2⟩:=Xqg a ha hi
    exact⟨b,W0p _ h1,h2⟩
theorem Yfj{s:S}{o:Oper}{d:Nat}(h:o.dst=some d): s.put (some d) .un=aft s o (.un,[]):=by unfold aft;rw[h];rfl
theorem Xgf{L:List Oper}{o:Oper}(hc:Xap o=true){s s':S}(h:Xpa L o s s'){R R':S->Prop}(hw:Wo P tb true L o R s)
 (hg:∀i y,s.2 i=some y->(∃t∈Xnz L o,∃v,s.1 t=some v/\v.ids i)->s'.2 i=some y) (hn:∀d,o.dst=some d->s.2 d=none->s'.2 d=none)
 (hR:∀r,(r.2=[]\/∃d ob,o.dst=some d/\r.2=[(d,ob)]/\s.2 d=none)->R (aft s o r)->R' (aft s' o r)):Wo P tb true L o R' s':=by
 rcases hw with ⟨h1,h2⟩ | ⟨h1,d,h2,h3⟩
 . refine .inl ⟨by rw[<-h.want];exact h1,?_⟩
   obtain⟨x,asx,tys,he⟩:=Xik hc
   unfold Wb at h2 |-
   rw[he] at h2 |-
   obtain⟨f,ex,vs,a1,a2,nw,H0,Q,⟨a3,a4,a5⟩,a6⟩:=h2
   have hop:o.op.operands.toList=x::asx.toList:=by rw[he];simp[Op.operands,Call.operands]
   have e1:Xc4 s.1 x=Xc4 s'.1 x:=by
    cases x with
    | tmp t=>exact h t (W1o _ (by rw[hop,Xbz];exact W2k _ (W0h.2 rfl)))
    | _=>rfl
   have hids:∀i,(∃a∈Xi8 tb tys.toList vs++ex,a.ids i)->∃t∈Xnz L o,∃v,s.1 t=some v/\v.ids i:=by
    rintro i ⟨a,ha,hi⟩
    rcases W1s.1 ha with ha | ha
    . obtain⟨b,hb,hbi⟩:=Xqg a ha hi
      obtain⟨t,t1,t2⟩:=Xmo a2 b hb hbi
      exact⟨t,W1o _ (by rw[hop,Xbz];exact W1o _ t1),t2⟩
    . obtain⟨t,v,rfl,t1,t2⟩:=Xr8 a1 ha hi
      exact⟨t,W1o _ (by rw[hop,Xbz];exact W2k _ (W0h.2 rfl)),v,t1,t2⟩
   refine⟨f,ex,vs,by unfold callee at a1 |-;rw[<-e1];exact a1,by rw[<-h.getEs (λt ht=>by rw[hop,Xbz];exact W1o _ ht)];exact a2,nw,H0,Q,⟨λhh=>?_,λi y hy=>?_,a5⟩,λr hu hq=>hR r ?_ (a6 r hu hq)⟩
   . obtain⟨d,d1,d2⟩:=a3 hh;exact⟨d,d1,hn d d1 d2⟩
   . obtain⟨b1,b2⟩:=a4 i y hy;exact⟨hg i y b1 (hids i b2),b2⟩
   . rcases hu with hu | ⟨hh,d,ob,u1,u2⟩
     . exact .inl hu
     . obtain⟨d',d1,d2⟩:=a3 hh
       rw[u1] at d1;injection d1 with d1;subst d1
       exact .inr ⟨_,ob,u1,u2,d2⟩
 . refine .inr ⟨by rw[<-h.want];exact h1,d,h2,?_⟩
   rw[Yfj h2] at h3 |-
   exact hR _ (.inl rfl) h3
theorem Xzy{L:List Oper}{o:Oper}(hc:Xap o=true){s:S}{R:S->Prop}(hw:Wo P tb true L o R s): Wo P tb true L o (λs'=>R s'/\∃r,(r.2=[]\/∃d ob,o.dst=some d/\r.2=[(d,ob)]/\s.2 d=none)/\s'=aft s o r) s :=
 Xgf hc (λ_ _=>rfl) hw (λ_ _ h _=>h) (λ_ _ h=>h) λr hr h=>⟨h,r,hr,rfl⟩
theorem Yca{L:List Oper}{i:Oper}(ci:Xap i=false){s:S}{ri:AV×List (Nat×Ob)}{us:List (Nat×Ob)}(hc:cls i.op≠3)(h2:cls i.op=2->i.dst.isSome=true)(hu:us=[]\/∃d ob,us=[(d,ob)]/\s.2 d=none/\i.dst≠some d)(h:efw tb L i s=some ri):
 efw tb L i (s.1,Xbe s.2 us)=some ri:=by
 rcases hu with rfl | ⟨d,ob,rfl,hd,hne⟩
 . exact h
 . rcases Xcg ci h with ⟨_,c2⟩ | ⟨_,_,c2⟩ | ⟨c0,oc,_,c2,c3⟩ | c0
   . exact c2 _
   . exact c2 _ _ hd
   . obtain⟨di,hdi⟩:=W3g.1 (h2 c0)
     rw[hdi] at c2 c3 hne
     exact c3 _ (by show upd s.2 d ob di=none;rw[Xak (λe=>hne (by rw[e]))];exact c2)
   . exact absurd c0 hc
theorem Xzm{L:List Oper}{i:Oper}(ci:Xap i=false){s:S}{ri:AV×List (Nat×Ob)}{us:List (Nat×Ob)}(hc:cls i.op≠3)(h2:cls i.op=2->i.dst.isSome=true)(hcl:∀t v j,s.1 t=some v->v.ids j->∃y,s.2 j=some y)(hu:us=[]\/∃d ob,us=[(d,ob)]/\s.2 d=none/\i.dst≠some d)
 (h:efw tb L i (s.1,Xbe s.2 us)=some ri):efw tb L i s=some ri:=by
 rcases hu with rfl | ⟨d,ob,rfl,hd,hne⟩
 . exact h
 . rcases Xcg (s:=(s.1,Xbe s.2 [(d,ob)])) ci h with ⟨_,c2⟩ | ⟨c0,_,c2⟩ | ⟨c0,oc,_,c2,c3⟩ | c0
   . exact c2 s.2
   . rcases Xay h with ⟨_,_,d3⟩ | ⟨d1,d2⟩
     . exact d3 s.2
     . have d1:want L i s=some true:=d1
       exact Xem (s:=s) d1 (Yi5 (o:=i) c0 hd hcl d2)
   . obtain⟨di,hdi⟩:=W3g.1 (h2 c0)
     rw[hdi] at c2 c3 hne
     refine c3 s.2 ?_
     have c2:upd s.2 d ob di=none:=c2
     rwa[Xak (λe=>hne (by rw[e]))] at c2
   . exact absurd c0 hc
theorem Xxe{s:S}{k i:Oper}{r q:AV×List (Nat×Ob)}(hd:∀a b,k.dst=some a->i.dst=some b->a≠b)(hr:r.2=[]\/∃d ob,k.dst=some d/\r.2=[(d,ob)])(hq:q.2=[]\/∃d ob,i.dst=some d/\q.2=[(d,ob)]):
 aft (aft s k r) i q=aft (aft s i q) k r:=by
 have hg:Xbe (Xbe s.2 r.2) q.2=Xbe (Xbe s.2 q.2) r.2:=by
  rcases hr with hr | ⟨a,oa,ha,hr⟩<;>rcases hq with hq | ⟨b,ob,hb,hq⟩<;>rw[hr,hq]<;>try rfl
  exact Xhc (hd a b ha hb)
 unfold aft
 rw[S.put_g,S.put_g,hg]
 have e1:=S.put_e (s:=s) (g:=Xbe s.2 q.2) (g':=s.2) (d:=i.dst) (v:=q.1)
 have e2:=S.put_e (s:=s) (g:=Xbe s.2 r.2) (g':=s.2) (d:=k.dst) (v:=r.1)
 rw[e1,e2]
 exact Xkt (s:=s) hd rfl
theorem Yb9{L:List Oper}{i:Oper}(ci:Xap i=false){s:S}{ri:AV×List (Nat×Ob)}(hc:cls i.op≠3)(h2:cls i.op=2->i.dst.isSome=true)(h:efw tb L i s=some ri): ri.2=[]\/∃d ob,i.dst=some d/\ri.2=[(d,ob)]/\s.2 d=none:=by
 rcases Xcg ci h with ⟨c1,_⟩ | ⟨_,c1,_⟩ | ⟨c0,oc,c1,c2,_⟩ | c0
 . exact .inl c1
 . exact .inl c1
 . obtain⟨di,hdi⟩:=W3g.1 (h2 c0)
   rw[hdi] at c1 c2
   exact .inr ⟨di,oc,hdi,c1,c2⟩
 . exact absurd c0 hc
theorem Xqv{s:S}{o:Oper}{us:List (Nat×Ob)}(h:us=[]\/∃d ob,o.dst=some d/\us=[(d,ob)]/\s.2 d=none): us=[]\/∃d ob,o.dst=some d/\us=[(d,ob)]:=h.imp id λ⟨d,ob,h1,h2,_⟩=>⟨d,ob,h1,h2⟩
theorem Yjk{a b:Nat}(h:Xzx a b=true)(hb:b=4): a≠3/\a≠4:=by
 subst hb;constructor<;>(intro e;subst e;cases h)
theorem Xw0{a b:Nat}(h:Xzx a b=true)(hb:a=4): b≠3/\b≠4:=by
 subst hb;constructor<;>(intro e;subst e;cases h)
structure Dm (tb:Nat->Option TI) (L:List Oper) (sp:Oper->Oper->Bool) (Z:S->Prop):Prop where
 nc:∀ {k i},sp k i=true->Xap k=false/\Xap i=false
 par:∀ {k i:Oper} {s:S} {rk ri:AV×List (Nat×Ob)},sp k i=true->Z s->efw tb L k s=some rk->efw tb L i s=some ri->efw tb L i (aft s k rk)=some ri/\efw tb L k (aft s i ri)=some rk/\aft (aft s i ri) k rk=aft (aft s k rk) i ri
 back:∀ {k i:Oper} {s:S} {rk ri:AV×List (Nat×Ob)},sp k i=true->Z s->efw tb L k s=some rk->efw tb L i (aft s k rk)=some ri->efw tb L i s=some ri
 clo:∀ {k:Oper} {s:S} {r:AV×List (Nat×Ob)},k∈L->Xap k=false->Z s->efw tb L k s=some r->Z (aft s k r)
 cloC:∀ {k:Oper} {s:S} {r:AV×List (Nat×Ob)},k∈L->Xap k=true->Z s->(r.2=[]\/∃d ob,k.dst=some d/\r.2=[(d,ob)]/\s.2 d=none)->Z (aft s k r)
theorem Dm.no{tb:Nat->Option TI}{L:List Oper}: Dm tb L (λ_ _=>false) λ_=>True:=⟨nofun,nofun,nofun,λ_ _ _ _=>trivial,λ_ _ _ _=>trivial⟩
def Ind(L:List Oper)(sp:Oper->Oper->Bool)(k i:Oper): Prop:=k∈L/\(Xk6 L k i=true\/sp k i=true)
theorem Ydi{L:List Oper}{sp:Oper->Oper->Bool}{Z:S->Prop}(D:Dm tb L sp Z){R:S->Prop}{i:Oper}(ci:Xap i=false){v:List Oper}{ri:AV×List (Nat×Ob)}: ∀ {u:List Oper},(∀k∈u,Ind L sp k i)->∀ {s:S},Z s->efw tb L i s=some ri->WL P tb true L R (u++i::v) s->WL P tb true L R (u++v) (aft s i ri)
 | [],_,s,_,h,hw=>by
  obtain⟨r,h1,h2⟩:=(Xe5 ci).1 hw
  rw[h] at h1;injection h1 with h1;subst h1;exact h2
 | k::u,hu,s,hz,h,hw=>by
  obtain⟨hkL,hk⟩:=hu k (W0l ..)
  have hu':∀k∈u,Ind L sp k i:=λk hk=>hu k (W0p _ hk)
  cases ck:Xap k with
  | false =>
   obtain⟨rk,h1,h2⟩:=(Xe5 ck).1 hw
   obtain⟨p1,p2,p3⟩:efw tb L i (aft s k rk)=some ri/\efw tb L k (aft s i ri)=some rk/\aft (aft s i ri) k rk=aft (aft s k rk) i ri:=hk.elim (λhk=>par hk ck ci h1 h) λhk=>D.par hk hz h1 h
   refine(Xe5 ck).2 ⟨rk,p2,?_⟩
   rw[p3]
   exact Ydi D ci hu' (D.clo hkL ck hz h1) p1 h2
  | true =>
   have hk:=hk.resolve_right λh=>by rw[(D.nc h).1] at ck;cases ck
   obtain⟨a1,a2,a3,a4,a5⟩:=Xil hk
   have c3:=(Xw0 a3 (W0e ck)).1
   have hus:=Yb9 ci c3 a5 h
   have hd:∀a b,k.dst=some a->i.dst=some b->a≠b:=λa b ha hb=>Xgc a1 ha hb
   have hg2:(aft s i ri).2=Xbe s.2 ri.2:=S.put_g (s:=s)
   refine Xgf ck (s:=s) (s':=aft s i ri) (Xpa.symm (Xnf a2)) hw (λj y hy _=>?_) (λd hkd hdn=>?_) λx hx hx2=>?_
   . rw[hg2]
     rcases hus with e | ⟨d,ob,_,e,hdn⟩
     . rw[e];exact hy
     . rw[e];show upd s.2 d ob j=_;rw[Xak (λe=>by rw[e,hdn] at hy;cases hy)];exact hy
   . rw[hg2]
     rcases hus with e | ⟨d',ob,hid,e,_⟩
     . rw[e];exact hdn
     . rw[e];show upd s.2 d' ob d=_;rw[Xak (hd d d' hkd hid)];exact hdn
   . have e1:efw tb L i (aft s k x)=some ri:=by
      rw[Xbl a1]
      exact Yca ci c3 a5 (hx.imp id λ⟨d,ob,h1,h2,h3⟩=>⟨d,ob,h2,h3,λe=>hd d d h1 e rfl⟩) h
     have:=Ydi D ci hu' (D.cloC hkL ck hz hx) e1 hx2
     rwa[Xxe hd (Xqv (s:=s) hx) (Xqv (s:=s) hus)] at this
variable{W0:GW}{X:Nat->Prop}{θ0:Loc}{n:Nat}
theorem Xos(hT:∀T ti,tb T=some ti->TyOk P T ti/\∀a c,ti.z≠.pr a c)(hn:n<=1000000/\Gb.g P W0){L:List Oper}{sp:Oper->Oper->Bool}{Z:S->Prop}(D:Dm tb L sp Z){R:S->Prop}{i:Oper}(ci:Xap i=false){v:List Oper}: ∀ {u:List Oper},(∀k∈u,Ind L sp k i)->(∀k∈u,Xen n k=true) ->
 ∀ {s:S} {a:Act} {W:GW} {θ:Loc},Z s->Sat W0 X n s a W θ->(∀i,1000000<=i->θ i=θ0 i)->WL P tb true L R (u++i::v) s->∃ri,efw tb L i s=some ri
 | [],_,_,s,a,W,θ,_,_,_,hw=>by
  obtain⟨r,h1,_⟩:=(Xe5 ci).1 hw
  exact⟨r,h1⟩
 | k::u,hu,hd,s,a,W,θ,hz,hs,hθ,hw=>by
  obtain⟨hkL,hk⟩:=hu k (W0l ..)
  have hu':∀k∈u,Ind L sp k i:=λk hk=>hu k (W0p _ hk)
  have hd':∀k∈u,Xen n k=true:=λk hk=>hd k (W0p _ hk)
  cases ck:Xap k with
  | false =>
   obtain⟨rk,h1,h2⟩:=(Xe5 ck).1 hw
   obtain⟨a',w',s',W',θ',_,hs',hθ',rfl,hw'⟩:=Nx.next (R:=λs'=>s'=aft s k rk/\WL P tb true L R (u++i::v) s') hT hn (hd k (W0l ..)) ⟨s,W,θ,rfl,hs,hθ,(Xe5 ck).2 ⟨rk,h1,rfl,h2⟩⟩
   obtain⟨ri,hri⟩:=Xos hT hn D ci hu' hd' (D.clo hkL ck hz h1) hs' hθ' hw'
   exact⟨ri,hk.elim (λhk=>back hk ck ci hs.ids h1 hri) λhk=>D.back hk hz h1 hri⟩
  | true =>
   have hk:=hk.resolve_right λh=>by rw[(D.nc h).1] at ck;cases ck
   obtain⟨a1,a2,a3,a4,a5⟩:=Xil hk
   have c3:=(Xw0 a3 (W0e ck)).1
   obtain⟨a',w',s',W',θ',_,hs',hθ',hw',x,hx,rfl⟩:=Nx.next hT hn (hd k (W0l ..)) ⟨s,W,θ,rfl,hs,hθ,Xzy ck hw⟩
   obtain⟨ri,hri⟩:=Xos hT hn D ci hu' hd' (D.cloC hkL ck hz hx) hs' hθ' hw'
   rw[Xbl a1] at hri
   exact⟨ri,Xzm ci c3 a5 hs.ids (hx.imp id λ⟨d,ob,h1,h2,h3⟩=>⟨d,ob,h2,h3,λe=>Xgc a1 h1 e rfl⟩) hri⟩
theorem Yhc(hT:∀T ti,tb T=some ti->TyOk P T ti/\∀a c,ti.z≠.pr a c)(hn:n<=1000000/\Gb.g P W0){L:List Oper}{sp:Oper->Oper->Bool}{Z:S->Prop}(D:Dm tb L sp Z){R:S->Prop}{i:Oper}(ci:Xap i=true){v:List Oper}: ∀ {u:List Oper},(∀k∈u,Ind L sp k i)->(∀k∈u,Xen n k=true) ->
 ∀ {s:S} {a:Act} {W:GW} {θ:Loc},Sat W0 X n s a W θ->(∀i,1000000<=i->θ i=θ0 i)->WL P tb true L R (u++i::v) s->Wo P tb true L i (WL P tb true L R (u++v)) s
 | [],_,_,s,a,W,θ,_,_,hw=>hw
 | k::u,hu,hd,s,a,W,θ,hs,hθ,hw=>by
  have hk:=(hu k (W0l ..)).2.resolve_right λh=>by rw[(D.nc h).2] at ci;cases ci
  have hu':∀k∈u,Ind L sp k i:=λk hk=>hu k (W0p _ hk)
  have hd':∀k∈u,Xen n k=true:=λk hk=>hd k (W0p _ hk)
  obtain⟨a1,a2,a3,a4,a5⟩:=Xil hk
  obtain⟨c3,c4⟩:=Yjk a3 (W0e ci)
  have ck:Xap k=false:=by
   cases ck:Xap k with
   | false=>rfl
   | true=>exact absurd (W0e ck) c4
  obtain⟨rk,h1,h2⟩:=(Xe5 ck).1 hw
  obtain⟨a',w',s',W',θ',_,hs',hθ',rfl,hw'⟩:=Nx.next (R:=λs'=>s'=aft s k rk/\WL P tb true L R (u++i::v) s') hT hn (hd k (W0l ..)) ⟨s,W,θ,rfl,hs,hθ,(Xe5 ck).2 ⟨rk,h1,rfl,h2⟩⟩
  have ih:=Yhc hT hn D ci hu' hd' hs' hθ' h2
  have hus:=Yb9 ck c3 a4 h1
  have hdd:∀a b,k.dst=some a->i.dst=some b->a≠b:=λa b ha hb=>Xgc a1 ha hb
  have hg2:(aft s k rk).2=Xbe s.2 rk.2:=S.put_g (s:=s)
  have hag:Xpa L i (aft s k rk) s:=Xnf a1
  refine Xgf ci hag ih (λj y hy ⟨t,ht,q,hq,hqj⟩=>?_) (λd hid hdn=>?_) λx hx hx2=>?_
  . rw[hag t ht] at hq
    obtain⟨y',hy'⟩:=hs.ids t q j hq hqj
    rw[hg2] at hy
    rcases hus with e | ⟨d,ob,_,e,hdn⟩
    . rw[e] at hy;exact hy
    . rw[e] at hy
      have hy:upd s.2 d ob j=some y:=hy
      rwa[Xak (λe=>by rw[e,hdn] at hy';cases hy')] at hy
  . rw[hg2] at hdn
    rcases hus with e | ⟨d',ob,hkd,e,_⟩
    . rw[e] at hdn;exact hdn
    . rw[e] at hdn
      have hdn:upd s.2 d' ob d=none:=hdn
      rwa[Xak (λe=>hdd d' d hkd hid e.symm)] at hdn
  . have hx':x.2=[]\/∃d ob,i.dst=some d/\x.2=[(d,ob)]/\s.2 d=none:=hx.imp id λ⟨d,ob,e1,e2,e3⟩=>⟨d,ob,e1,e2,by
     rw[hg2] at e3
     rcases hus with e | ⟨d',ob',hkd,e,_⟩
     . rw[e] at e3;exact e3
     . rw[e] at e3
       have e3:upd s.2 d' ob' d=none:=e3
       rwa[Xak (λe=>hdd d' d hkd e1 e.symm)] at e3⟩
    refine(Xe5 ck).2 ⟨rk,?_,?_⟩
    . rw[Xbl a2]
      exact Yca ck c3 a4 (hx'.imp id λ⟨d,ob,e1,e2,e3⟩=>⟨d,ob,e2,e3,λe=>hdd d d e e1 rfl⟩) h1
    . rw[<-Xxe hdd (Xqv (s:=s) hus) (Xqv (s:=s) hx')]
      exact hx2
theorem Yow(hT:∀T ti,tb T=some ti->TyOk P T ti/\∀a c,ti.z≠.pr a c)(hn:n<=1000000/\Gb.g P W0){L:List Oper}{sp:Oper->Oper->Bool}{Z:S->Prop}(D:Dm tb L sp Z){R:S->Prop}{i:Oper}(hi:i∈L){u v:List Oper}(hu:∀k∈u,Ind L sp k i)(hd:∀k∈u,Xen n k=true){a:Act}{w:World}
 (h:Nx W0 X θ0 n (λs=>Z s/\WL P tb true L R (u++i::v) s) a w):Nx W0 X θ0 n (Wo P tb true L i λs=>Z s/\WL P tb true L R (u++v) s) a w:=by
 obtain⟨s,W,θ,hw,hs,hθ,hz,h⟩:=h
 refine⟨s,W,θ,hw,hs,hθ,?_⟩
 cases ci:Xap i with
 | true=>exact Xgf ci (λ_ _=>rfl) (Yhc hT hn D ci hu hd hs hθ h) (λ_ _ h _=>h) (λ_ _ h=>h) λr hr h=>⟨D.cloC hi ci hz hr,h⟩
 | false =>
  obtain⟨ri,hri⟩:=Xos hT hn D ci hu hd hz hs hθ h
  exact(Xe5 ci).2 ⟨ri,hri,D.clo hi ci hz hri,Ydi D ci hu hz hri h⟩
end
end
section
class Mx (P:Program):Prop where
 h:P.follows .mixedOrders=true
theorem Yio(m:Region.Mode)(ops:Array Oper)(f:Nat): ∀(t:Nat) (ls:Array Bool) (acc:List Nat),Region.linearise.go m ops f t ls acc=acc.reverse++Region.linearise.go m ops f t ls []:=by
 induction f with
 | zero=>intro t ls acc;simp[Region.linearise.go]
 | succ f ih =>
  intro t ls acc
  simp only[Region.linearise.go]
  split
  . rename_i i hi
    rw[ih _ _ (i::acc),ih _ _ [i]]
    simp
  . simp
def Xfl(o:Oper): List Nat:=(o.after.toList.filter (Region.binds .any)).map (·.on)
def rdy(L:List Oper)(ls:Array Bool): List Nat :=
 (List.range L.toArray.size).filter λi=>!ls.getD i true&&((L.toArray[i]?).map (·.after.all λe=>!Region.binds .any e||ls.getD e.on false)).getD false
theorem Xt6{L:List Oper}{ls:Array Bool}(hs:ls.size=L.length){i:Nat}: i∈rdy L ls↔∃o,L[i]?=some o/\ls.getD i false=false/\∀j∈Xfl o,ls.getD j false=true:=by
 unfold rdy
 rw[W6v]
 constructor
 . rintro⟨h1,h2⟩
   have hi:i<L.length:=by simpa using List.mem_range.1 h1
   rw[W0g] at h2
   obtain⟨h2,h3⟩:=h2
   have ho:L[i]?=some L[i]:=W0c hi
   refine⟨L[i],ho,?_,?_⟩
   . have:i<ls.size:=by omega
     simp[Array.getD,this] at h2 |-
     exact h2
   . intro j hj
     have ho':L.toArray[i]?=some L[i]:=by simp
     rw[ho'] at h3
     simp only[W4k,W3v] at h3
     rw[Array.all_eq_true'] at h3
     simp only[Xfl,W2y,W6v] at hj
     obtain⟨e,⟨he,hb⟩,rfl⟩:=hj
     have:=h3 e (by simpa using he)
     rw[hb] at this
     simpa using this
 . rintro⟨o,ho,h2,h3⟩
   have hi:i<L.length:=Xbj ho
   refine⟨by simpa using hi,?_⟩
   rw[W0g]
   refine⟨?_,?_⟩
   . have:i<ls.size:=by omega
     simp[Array.getD,this] at h2 |-
     exact h2
   . have ho':L.toArray[i]?=some o:=by simpa using ho
     rw[ho']
     simp only[W4k,W3v]
     rw[Array.all_eq_true']
     intro e he
     cases hb:Region.binds .any e with
     | false=>rfl
     | true =>
      have:=h3 e.on (by simp only[Xfl,W2y,W6v];exact⟨e,⟨by simpa using he,hb⟩,rfl⟩)
      simp[this]
def msk(M:List Nat)(ds:List Nat): Nat:=match ds with
 | []=>0
 | j::ds=>msk M ds|||(2^j|||M.getD j 0)
def Xrd(L:List Oper)(sp:Oper->Oper->Bool)(o:Oper)(m:Nat): Nat->List Oper->Bool
 | _,[]=>true
 | k,x::l=>(m.testBit k||Xk6 L x o||sp x o)&&Xrd L sp o m (k+1) l
def Xg6(L:List Oper)(sp:Oper->Oper->Bool): List Nat->List Oper->List Oper->Bool
 | _,_,[]=>true
 | M,pre,o::l=>(Xfl o).all (λj=>Nat.blt j pre.length)&&Xrd L sp o (msk M (Xfl o)) 0 pre&&Xg6 L sp (M++[msk M (Xfl o)]) (pre++[o]) l
def Xnj(L:List Oper)(p:Nat->Prop): Prop:=∀m o,L[m]?=some o->p m->∀j∈Xfl o,p j
theorem Xj4{L:List Oper}{sp:Oper->Oper->Bool}{o:Oper}{m:Nat}: ∀ {l:List Oper} {k:Nat},Xrd L sp o m k l=true->∀ {q:Nat} {x:Oper},l[q]?=some x->m.testBit (k+q)=true\/Xk6 L x o=true\/sp x o=true
 | [],_,_,q,x,h=>by simp at h
 | y::l,k,hc,q,x,h=>by
  simp only[Xrd,W0g,W3q] at hc
  cases q with
  | zero=>simp at h;subst h;exact or_assoc.1 hc.1
  | succ q =>
   have:=Xj4 hc.2 (q:=q) (x:=x) (by simpa using h)
   rwa[show k+1+q=k+(q+1) by omega] at this
theorem Xuu{M:List Nat}{k:Nat}: ∀ {ds:List Nat},(msk M ds).testBit k=true->∃j∈ds,k=j\/(M.getD j 0).testBit k=true
 | [],h=>by simp[msk] at h
 | j::ds,h=>by
  simp only[msk,Nat.testBit_or,W3q] at h
  rcases h with h | h | h
  . obtain⟨i,h1,h2⟩:=Xuu h
    exact⟨i,W0p _ h1,h2⟩
  . rw[Nat.testBit_two_pow] at h
    exact⟨j,W0l ..,.inl (of_decide_eq_true h).symm⟩
  . exact⟨j,W0l ..,.inr h⟩
theorem Xj5{L:List Oper}{sp:Oper->Oper->Bool}: ∀ {l pre:List Oper} {M:List Nat},L=pre++l->M.length=pre.length->(∀m o,pre[m]?=some o->∀k,(M.getD m 0).testBit k=true->∀p,Xnj L p->(∀j∈Xfl o,p j)->p k)->Xg6 L sp M pre l=true ->
 ∀ {i:Nat} {o:Oper},pre.length<=i->L[i]?=some o->(∀j∈Xfl o,j<i)/\∀ {k:Nat} {x:Oper},k<i->L[k]?=some x->(∀p,Xnj L p->(∀j∈Xfl o,p j)->p k)\/Xk6 L x o=true\/sp x o=true
 | [],pre,M,hL,hM,hb,hc,i,o,hi,ho=>by
  have:=Xbj ho
  rw[hL] at this;simp at this;omega
 | y::l,pre,M,hL,hM,hb,hc,i,o,hi,ho=>by
  simp only[Xg6,W0g] at hc
  obtain⟨⟨hc1,hc2⟩,hc3⟩:=hc
  have hbit:∀k,(msk M (Xfl y)).testBit k=true->∀p,Xnj L p->(∀j∈Xfl y,p j)->p k:=by
   intro k hk p hp hj
   obtain⟨j,h1,h2⟩:=Xuu hk
   rcases h2 with h2 | h2
   . rw[h2];exact hj j h1
   . have hjl:j<pre.length:=Xqk (W1n.1 hc1 j h1)
     have hjo:L[j]?=some pre[j]:=by rw[hL,W1a hjl,W0c hjl]
     exact hb j _ (W0c hjl) k h2 p hp (hp j _ hjo (hj j h1))
  by_cases hii:i=pre.length
  . subst hii
    have hoy:o=y:=by
     rw[hL,W0u (W0a _),W3b] at ho
     simpa using ho.symm
    subst hoy
    refine⟨λj hj=>Xqk (W1n.1 hc1 j hj),λ{k x} hk hx=>?_⟩
    rw[hL,W1a hk] at hx
    rcases Xj4 hc2 hx with h | h
    . rw[W1k] at h
      exact .inl (hbit k h)
    . exact .inr h
  . refine Xj5 (l:=l) (pre:=pre++[y]) (M:=M++[msk M (Xfl y)]) (by rw[hL];simp) (by simp[hM]) (λm o hm k hk=>?_) hc3 (by simp;omega) ho
    by_cases hml:m<pre.length
    . rw[W1a hml] at hm
      rw[W2l,W1a (by omega),<-W2l] at hk
      exact hb m o hm k hk
    . have hme:m=pre.length:=by
       have:=Xbj hm;simp at this;omega
      subst hme
      rw[W0u (W0a _),W3b] at hm
      simp at hm;subst hm
      rw[W2l,W0u (by omega),hM,W3b] at hk
      exact hbit k hk
def Xjk(ls:Array Bool): Nat->List Oper->List Oper
 | _,[]=>[]
 | k,o::l=>match ls.getD k false with
  | true=>Xjk ls (k+1) l
  | false=>o::Xjk ls (k+1) l
theorem Xex{ls:Array Bool}{i k:Nat}(h:k<ls.size): (ls.setIfInBounds i true).getD k false=if i=k then true else ls.getD k false:=by
 simp only[Array.getD_eq_getD_getElem?,W3l]
 by_cases e:i=k
 . subst e;simp[h]
 . simp[e]
theorem Xt3{ls:Array Bool}{i:Nat}: ∀ {l:List Oper} {k:Nat},i<k->k+l.length<=ls.size->Xjk (ls.setIfInBounds i true) k l=Xjk ls k l
 | [],_,_,_=>rfl
 | o::l,k,h,hs=>by
  simp only[W0s] at hs
  simp only[Xjk]
  rw[Xex (by omega),if_neg (by omega),Xt3 (by omega) (by omega)]
theorem Xjj{ls:Array Bool}{i:Nat}{o:Oper}: ∀ {l:List Oper} {k:Nat},k<=i->k+l.length<=ls.size->l[i-k]?=some o->ls.getD i false=false ->
 ∃u v,Xjk ls k l=u++o::v/\Xjk (ls.setIfInBounds i true) k l=u++v/\∀x∈u,∃q,q+k<i/\l[q]?=some x/\ls.getD (q+k) false=false
 | [],_,_,_,h,_=>by simp at h
 | y::l,k,hk,hs,ho,hi=>by
  simp only[W0s] at hs
  by_cases e:k=i
  . subst e
    rw[W3b] at ho
    simp at ho;subst ho
    refine⟨[],Xjk ls (k+1) l,by simp[Xjk,hi],?_,λx hx=>by cases hx⟩
    simp only[Xjk,Xex (show k<ls.size by omega),if_pos]
    rw[Xt3 (by omega) (by omega)];rfl
  . obtain⟨u,v,h1,h2,h3⟩:=Xjj (l:=l) (k:=k+1) (by omega) (by omega) (by rw[show i-k=(i-(k+1))+1 by omega] at ho;simpa using ho) hi
    have hgd:(ls.setIfInBounds i true).getD k false=ls.getD k false:=by rw[Xex (by omega),if_neg (λh=>e h.symm)]
    have h3':∀x∈u,∃q,q+k<i/\(y::l)[q]?=some x/\ls.getD (q+k) false=false:=λx hx=>by
     obtain⟨q,q1,q2,q3⟩:=h3 x hx
     exact⟨q+1,by omega,by simpa using q2,by rw[show q+1+k=q+(k+1) by omega];exact q3⟩
    cases hg:ls.getD k false with
    | true=>exact⟨u,v,by simp only[Xjk,hg];exact h1,by simp only[Xjk,hgd,hg];exact h2,h3'⟩
    | false =>
     refine⟨y::u,v,by simp only[Xjk,hg];rw[h1];rfl,by simp only[Xjk,hgd,hg];rw[h2];rfl,λx hx=>?_⟩
     rcases W1j.1 hx with h | h
     . subst h;exact⟨0,by omega,rfl,by simpa using hg⟩
     . exact h3' x h
theorem Xp8{ls:Array Bool}: ∀ {l:List Oper} {k:Nat},(∀q,q<l.length->ls.getD (k+q) false=true)->Xjk ls k l=[]
 | [],_,_=>rfl
 | o::l,k,h=>by
  have h0:=h 0 (by simp)
  rw[W2n] at h0
  simp only[Xjk,h0]
  exact Xp8 λq hq=>by have:=h (q+1) (by simp;omega);rwa[show k+(q+1)=k+1+q by omega] at this
section
variable{P:Program}[Gb P]{tb:Nat->Option TI}{W0:GW}{X:Nat->Prop}{θ0:Loc}{n:Nat}
theorem Yey(hT:∀T ti,tb T=some ti->TyOk P T ti/\∀a c,ti.z≠.pr a c)(hn:n<=1000000/\Gb.g P W0){L:List Oper}{sp:Oper->Oper->Bool}{Z:S->Prop}(D:Dm tb L sp Z){R:S->Prop}{Q:Exit->Act->World->Prop}(hQ:∀a w,Nx W0 X θ0 n R a w->Q .normal a w)
 (hok:(L.all (Xen n))=true) (hchk:Xg6 L sp [] [] L=true):∀(f t:Nat) (ls:Array Bool) (a:Act) (w:World),ls.size=L.length->Xnj L (λm=>ls.getD m false=true) ->
 (∃free:List Nat,free.length=f/\free.Nodup/\∀q,q∈free↔q<L.length/\ls.getD q false=false)->Nx W0 X θ0 n (λs=>Z s/\WL P tb true L R (Xjk ls 0 L) s) a w ->
 wpOps P L.toArray Q (Region.linearise.go .any L.toArray f t ls []) a w:=by
 intro f
 induction f with
 | zero =>
  rintro t ls a w hs hc ⟨free,hf,_,hq⟩ h
  have hfr:free=[]:=W0o hf
  rw[Xp8 (λq hql=>by
   cases e:ls.getD (0+q) false with
   | true=>rfl
   | false =>
    rw[W1k] at e
    have:=(hq q).2 ⟨hql,e⟩
    rw[hfr] at this;cases this)] at h
  exact hQ a w (h.mono λ_ h=>h.2)
 | succ f ih =>
  rintro t ls a w hs hc ⟨free,hf,hnd,hq⟩ h
  have hgo:Region.linearise.go .any L.toArray (f+1) t ls []=match (rdy L ls)[t%(rdy L ls).length]? with | some i=>Region.linearise.go .any L.toArray f (t/(rdy L ls).length) (ls.setIfInBounds i true) [i] | none=>[]:=rfl
  have hall:∀ {i:Nat} {o:Oper},L[i]?=some o->(∀j∈Xfl o,j<i)/\∀ {k:Nat} {x:Oper},k<i->L[k]?=some x->(∀p,Xnj L p->(∀j∈Xfl o,p j)->p k)\/Xk6 L x o=true\/sp x o=true:=λho =>
   Xj5 (L:=L) (l:=L) (pre:=[]) (M:=[]) rfl rfl (λm o hm=>by simp at hm) hchk (W0z _) ho
  have hne:∃i,i∈rdy L ls:=by
   have hlow:∀b,(∃q,q<b/\q∈free)->∃q∈free,∀r,r<q->r ∉ free:=by
    intro b
    induction b with
    | zero=>rintro⟨q,h,_⟩;omega
    | succ b ihb =>
     rintro⟨q,h1,h2⟩
     by_cases hb:∃q,q<b/\q∈free
     . exact ihb hb
     . have:q=b:=by
        by_cases h:q<b
        . exact absurd ⟨q,h,h2⟩ hb
        . omega
       subst this
       exact⟨q,h2,λr hr hrf=>hb ⟨r,hr,hrf⟩⟩
   have hmem:∃q,q∈free:=by
    cases free with
    | nil=>simp at hf
    | cons x l=>exact⟨x,W0l ..⟩
   obtain⟨q0,hq0⟩:=hmem
   obtain⟨q,h1,h2⟩:=hlow (q0+1) ⟨q0,by omega,hq0⟩
   obtain⟨h3,h4⟩:=(hq q).1 h1
   refine⟨q,(Xt6 hs).2 ⟨L[q],W0c h3,h4,λj hj=>?_⟩⟩
   have hjq:=(hall (W0c h3)).1 j hj
   cases e:ls.getD j false with
   | true=>rfl
   | false=>exact absurd ((hq j).2 ⟨by omega,e⟩) (h2 j hjq)
  have hpos:0<(rdy L ls).length:=by
   obtain⟨i,hi⟩:=hne
   exact List.length_pos_of_mem hi
  have hlt:t%(rdy L ls).length<(rdy L ls).length:=W1q _ hpos
  rw[hgo,W0c hlt]
  simp only[]
  generalize hi:(rdy L ls)[t%(rdy L ls).length]=i
  have hir:i∈rdy L ls:=by rw[<-hi];exact W6n hlt
  obtain⟨o,ho,hif,hdep⟩:=(Xt6 hs).1 hir
  rw[Yio]
  obtain⟨u,v,r1,r2,r3⟩:=Xjj (ls:=ls) (i:=i) (o:=o) (l:=L) (k:=0) (W0z _) (by omega) (by simpa using ho) hif
  rw[r1] at h
  have hu:∀k∈u,Ind L sp k o:=λx hx=>by
   obtain⟨q,q1,q2,q3⟩:=r3 x hx
   rcases(hall ho).2 (by simpa using q1) q2 with h | h
   . have:=h _ hc hdep
     simp at q3 this
     rw[this] at q3;cases q3
   . exact⟨W0f q2,h⟩
  have hd:∀k∈u,Xen n k=true:=λx hx=>by
   obtain⟨q,_,q2,_⟩:=r3 x hx
   exact W1n.1 hok x (W0f q2)
  have hp:=Yow hT hn D (W0f ho) hu hd h
  rw[<-r2] at hp
  have hw:=Yfl (Q:=Q) hT hn (W1n.1 hok o (W0f ho)) hp
  have hil:i<L.length:=Xbj ho
  have next:∀a w,Nx W0 X θ0 n (λs=>Z s/\WL P tb true L R (Xjk (ls.setIfInBounds i true) 0 L) s) a w->wpOps P L.toArray Q (Region.linearise.go .any L.toArray f (t/(rdy L ls).length) (ls.setIfInBounds i true) []) a w:=by
   intro a w hN
   refine ih _ _ a w (by simpa using hs) (λm x hm hml j hj=>?_) ⟨free.erase i,?_,hnd.erase i,λq=>?_⟩ hN
   . have hx:=(hall hm).1 j hj
     have hmL:=Xbj hm
     have hml:(ls.setIfInBounds i true).getD m false=true:=hml
     show (ls.setIfInBounds i true).getD j false=true
     rw[Xex (by omega)] at hml |-
     by_cases e:i=j
     . rw[if_pos e]
     . rw[if_neg e]
       by_cases e2:i=m
       . subst e2
         rw[ho] at hm;injection hm with hm;subst hm
         exact hdep j hj
       . rw[if_neg e2] at hml
         exact hc m x hm hml j hj
   . rw[List.length_erase_of_mem ((hq i).2 ⟨hil,hif⟩),hf];rfl
   . rw[hnd.mem_erase_iff,hq q]
     constructor
     . rintro⟨h1,h2,h3⟩
       exact⟨h2,by rw[Xex (by omega),if_neg (λe=>h1 e.symm)];exact h3⟩
     . rintro⟨h1,h2⟩
       rw[Xex (by omega)] at h2
       by_cases e:i=q
       . rw[if_pos e] at h2;cases h2
       . rw[if_neg e] at h2;exact⟨λh=>e h.symm,h1,h2⟩
  have hoa:L.toArray[i]?=some o:=by simpa using ho
  simp only[List.reverse_cons,List.reverse_nil,W3z,List.singleton_append,wpOps,hoa]
  split at hw
  . rename_i hwn
    rw[if_pos hwn]
    exact .inl (Oper.wp_mono (λa w h=>next a w h) hw)
  . rename_i hwn
    rw[if_neg hwn]
    exact next _ _ hw
end
end
section
inductive Kt where
 | c (c:Code)
 | b (id:Nat)
 | l (I:S->Prop)
structure Cx where
 P:Program
 gb:Gb P
 tb:Nat->Option TI
 hT:∀T ti,tb T=some ti->TyOk P T ti/\∀a c,ti.z≠.pr a c
 mx:Mx P
 n:Nat
 hn:n<=1000000
 W0:GW
 X:Nat->Prop
 θ0:Loc
 fin:Exit->Act->World->Prop
 hg:gb.g W0
attribute [instance] Cx.gb
abbrev Cx.Nx(c:Cx)(R:S->Prop)(a:Act)(w:World): Prop:=Vm.Nx c.W0 c.X c.θ0 c.n R a w
def Xrh(c:Cx): List Kt->Exit->Act->World->Prop
 | [],e,a,w=>c.fin e a w
 | .c x::K,e,a,w=>match e with
  | .normal=>x.wp c.P (Xrh c K) a w
  | e=>Xrh c K e a w
 | .b id::K,e,a,w=>match e with
  | .exit id'=>if id'=id then Xrh c K .normal a w else Xrh c K (.exit id') a w
  | e=>Xrh c K e a w
 | .l I::K,e,a,w=>match e with
  | .normal=>c.Nx I a w
  | e=>Xrh c K e a w
def J(c:Cx)(K:List Kt)(s:S): Prop:=∀a w,c.Nx (λs'=>s'=s) a w->Xrh c K .normal a w
def Ybe(id:Nat): List Kt->Option (List Kt)
 | []=>none
 | .b i::K=>match Nat.beq id i with
  | true=>some K
  | false=>Ybe id K
 | _::K=>Ybe id K
section
variable{c:Cx}{K:List Kt}{s:S}
theorem J.use{a:Act}{w:World}(h:c.Nx (J c K) a w): Xrh c K .normal a w:=by
 obtain⟨s,W,θ,h1,h2,h3,h4⟩:=h
 exact h4 a w ⟨s,W,θ,h1,h2,h3,rfl⟩
theorem J.seq{x y:Code}(k:J c (.c x::.c y::K) s): J c (.c (.seq x y)::K) s:=λa w ha=>wp_seq (wp_mono (k a w ha) λe a w h=>by cases e<;>exact h)
theorem J.skip(k:J c K s): J c (.c .skip::K) s:=λa w ha=>wp_skip (k a w ha)
theorem J.block{id:Nat}{x:Code}(k:J c (.c x::.b id::K) s): J c (.c (.block id x)::K) s:=λa w ha=>wp_block (wp_mono (k a w ha) λe a w h=>by cases e<;>exact h)
theorem J.bend{id:Nat}(k:J c K s): J c (.b id::K) s:=λa w ha=>k a w ha
theorem Xwi{id:Nat}{K K':List Kt}(h:Ybe id K=some K'){a:Act}{w:World}(hd:Xrh c K' .normal a w): Xrh c K (.exit id) a w:=by
 induction K with
 | nil=>simp[Ybe] at h
 | cons x K ih =>
  cases x with
  | c c=>exact ih h
  | l I=>exact ih h
  | b i =>
   by_cases hi:id=i
   . subst hi
     simp[Ybe] at h
     subst h
     simp[Xrh]
     exact hd
   . simp only[Ybe,Ybo hi] at h
     simp only[Xrh,if_neg hi]
     exact ih h
theorem J.exit{id:Nat}{K':List Kt}(h:Ybe id K=some K')(k:J c K' s): J c (.c (.exit id)::K) s:=λa w ha=>wp_exit (Xwi h (k a w ha))
theorem Xzp{K:List Kt}{a:Act}{w:World}(h:c.fin .ret a w): Xrh c K .ret a w:=by
 induction K with
 | nil=>exact h
 | cons x K ih=>cases x<;>exact ih
theorem J.ret(k:∀a w,c.Nx (λs'=>s'=s) a w->c.fin .ret a w): J c (.c .ret::K) s:=λa w ha=>wp_ret (Xzp (k a w ha))
theorem J.cond{x:Operand}{p q:Code}{pr:Prop}{v:AV}(hv:Xc4 s.1 x=some v)(hp:asP v=some pr)(k1:pr->J c (.c p::K) s)(k2:¬pr->J c (.c q::K) s): J c (.c (.cond x p q)::K) s:=by
 intro a w ha
 have ha':=ha
 obtain⟨s',W,θ,hw,hs,hθ,rfl⟩:=ha'
 obtain⟨b,e1,e2⟩:=Yfd hp (Xiq hs hv).1
 cases b with
 | true=>exact wp_cond_true e1 (k1 (e2.1 rfl) a w ha)
 | false=>exact wp_cond_false e1 (k2 (λh=>by cases e2.2 h) a w ha)
theorem J.condU{x:Operand}{p q:Code}{pr:Prop}(hv:Xc4 s.1 x=some (.ub pr))(k1:pr->J c (.c p::K) s)(k2:J c (.c q::K) s): J c (.c (.cond x p q)::K) s:=by
 intro a w ha
 have ha':=ha
 obtain⟨s',W,θ,hw,hs,hθ,rfl⟩:=ha'
 obtain⟨cs,⟨b,h1,h3⟩,h2⟩:=(Xiq hs hv).1
 rw[h1] at h2
 cases b with
 | true=>exact wp_cond_true h2 (k1 (h3 rfl) a w ha)
 | false=>exact wp_cond_false h2 (k2 a w ha)
theorem J.condT{x:Operand}{p q:Code}(hv:Xc4 s.1 x=some (.b true))(k:J c (.c p::K) s): J c (.c (.cond x p q)::K) s:=J.cond hv rfl (λ_=>k) (λh=>absurd rfl h)
theorem J.condF{x:Operand}{p q:Code}(hv:Xc4 s.1 x=some (.b false))(k:J c (.c q::K) s): J c (.c (.cond x p q)::K) s:=J.cond hv rfl (λh=>by cases h) (λ_=>k)
def Xn5(n:Nat): List Oper->Bool
 | []=>true
 | o::l=>match Xen n o with
  | true=>Xn5 n l
  | false=>false
theorem Xia{n:Nat}: ∀ {l:List Oper},Xn5 n l=true->(l.all (Xen n))=true
 | [],_=>rfl
 | o::l,h=>by
  simp only[Xn5] at h
  split at h
  . rename_i h1;rw[List.all_cons,h1,Xia h];rfl
  . cases h
theorem J.reg{id:Nat}{L:List Oper}(hok:Xn5 c.n L=true)(k:WL c.P c.tb false L (J c K) L s): J c (.c (.region id L.toArray false)::K) s:=by
 intro a w ha
 refine wp_region ?_
 have:=Xxt (Q:=Xrh c K) c.hT ⟨c.hn,c.hg⟩ (λa w h=>J.use h) L 0 a w rfl (Xia hok) (ha.mono λs' e=>by rw[e];exact k)
 rw[<-List.range_eq_range'] at this
 simpa using this
theorem Nx.tick{R:S->Prop}{a:Act}{w:World}(h:c.Nx R a w): c.Nx R a w.drew:=by
 obtain⟨s,W,θ,h1,h2,h3,h4⟩:=h
 exact⟨s,W.tick,θ,by rw[<-h1];rfl,h2.step0 (Stp.tick h2.obs),h3,h4⟩
theorem J.draw{id:Nat}{L:List Oper}{sp:Oper->Oper->Bool}{Z:S->Prop}(D:Dm c.tb L sp Z)(hz:Z s)(hok:Xn5 c.n L=true)(hchk:Xg6 L sp [] [] L=true)(k:WL c.P c.tb true L (J c K) L s): J c (.c (.region id L.toArray true)::K) s:=by
 intro a w ha
 refine wp_region_draw λt=>?_
 have hs:Region.schedule (c.P.follows .mixedOrders) L.toArray t=Region.linearise.go .any L.toArray L.length t (Array.replicate L.length false) []:=by
  rw[c.mx.h]
  simp[Region.schedule,Region.linearise]
 rw[hs]
 have hf:∀i,(Array.replicate L.length false).getD i false=false:=by
  intro i
  by_cases h:i<L.length<;>simp[Array.getD,h]
 have hrem:∀(l:List Oper) k,Xjk (Array.replicate L.length false) k l=l:=by
  intro l
  induction l with
  | nil=>intro k;rfl
  | cons o l ih=>intro k;simp only[Xjk,hf];rw[ih]
 refine Yey c.hT ⟨c.hn,c.hg⟩ D (λa w h=>J.use h) (Xia hok) hchk L.length t _ a _ (by simp) (λm o _ h=>by have h:(Array.replicate L.length false).getD m false=true:=h;rw[hf] at h;cases h) ⟨List.range L.length,by simp,List.nodup_range,λq=>by rw[hf];simp⟩ ?_
 rw[hrem]
 exact Nx.tick (ha.mono λs' e=>by rw[e];exact⟨hz,k⟩)
theorem Xjy(p:Nat->Prop)(h:∃n,p n): ∃n,p n/\∀m,p m->n<=m:=by
 obtain⟨n,hn⟩:=h
 induction n using Nat.strongRecOn with
 | _ n ih =>
  by_cases hs:∃m,m<n/\p m
  . obtain⟨m,hm,hp⟩:=hs;exact ih m hm hp
  . exact⟨n,hn,λm hm=>W4d λhlt=>hs ⟨m,hlt,hm⟩⟩
open Classical in
noncomputable def least(p:Nat->Prop): Nat:=if h:∃n,p n then Classical.choose (Xjy p h) else 0
theorem Xju{p:Nat->Prop}(h:∃n,p n): p (least p)/\∀m,p m->least p<=m:=by
 unfold least;rw[dif_pos h];exact Classical.choose_spec (Xjy p h)
theorem J.loop{x:Code}(I:S->Nat->Prop)(μ:Nat)(h0:I s μ)(k:∀s μ,I s μ->J c (.c x::.l (λs'=>∃μ',μ'<μ/\I s' μ')::K) s): J c (.c (.loop x)::K) s:=by
 intro a w ha
 refine wp_loop (λa w=>∃μ,c.Nx (λs=>I s μ) a w) (λa w=>least λμ=>c.Nx (λs=>I s μ) a w) ⟨μ,ha.mono λs' e=>by rw[e];exact h0⟩ ?_
 rintro a w hI
 obtain⟨⟨s,W,θ,hw,hs,hθ,hi⟩,hmin⟩:=Xju (p:=λμ=>c.Nx (λs=>I s μ) a w) hI
 refine wp_mono (k s _ hi a w ⟨s,W,θ,hw,hs,hθ,rfl⟩) ?_
 intro e a' w' h
 cases e<;>first | exact h | skip
 obtain⟨s',W',θ',hw',hs',hθ',μ',hlt,hi'⟩:=h
 have hN:c.Nx (λs=>I s μ') a' w':=⟨s',W',θ',hw',hs',hθ',hi'⟩
 exact⟨⟨μ',hN⟩,W1t ((Xju (p:=λμ=>c.Nx (λs=>I s μ) a' w') ⟨μ',hN⟩).2 _ hN) hlt⟩
theorem J.at'{I:S->Prop}(h:I s): J c (.l I::K) s:=λa w ha=>ha.mono λs' e=>by rw[e];exact h
theorem J.cut{x:Code}(I:S->Prop)(k1:J c (.c x::.l I::K) s)(k2:∀s,I s->J c K s): J c (.c x::K) s:=by
 intro a w ha
 refine wp_mono (k1 a w ha) ?_
 intro e a' w' h
 cases e<;>first | exact h | skip
 exact J.use (h.mono λs hs=>k2 s hs)
def Xxm(s:S): Prop:=(∀t v i,s.1 t=some v->v.ids i->∃y,s.2 i=some y)/\∀o x i,s.2 o=some x->x.ids i->∃y,s.2 i=some y
theorem J.sub(s':S)(h1:∀t v,s'.1 t=some v->s.1 t=some v)(h2:∀o x,s'.2 o=some x->s.2 o=some x)(h3:Xxm s')(k:J c K s'): J c K s:=by
 rintro a w ⟨s0,W,θ,hw,hs,hθ,rfl⟩
 exact k a w ⟨s',W,θ,hw,⟨hs.fm,⟨hs.rel.defers,hs.rel.size,λt v ht=>hs.rel.has t v (h1 t v ht)⟩,
  ⟨λo x hx=>hs.obs.r o x (h2 o x hx),λo x b hx=>hs.obs.new o x b (h2 o x hx),λo o' x x' b hx hx'=>hs.obs.dis o o' x x' b (h2 o x hx) (h2 o' x' hx'),h3.2⟩,h3.1⟩,hθ,rfl⟩
end
end
section
def θe: Loc:=λ_=>(none,0)
abbrev Env:=List (Nat×AV)
abbrev Hpl:=List (Nat×Ob)
def look{α:Type _}: List (Nat×α)->Nat->Option α
 | [],_=>none
 | (s,v)::e,t=>match Nat.beq t s with
  | true=>some v
  | false=>look e t
def Xkz: AV->Bool
 | .st a=>Xkz a
 | .pr a c=>Xkz a&&Xkz c
 | .tup a=>Xkz a
 | .ptr _ _ | .own _ _ _ _ | .ow3 _ _ _ _ | .gr _ _ _ | .el _ _ _ _ | .fn _ _ | .ap _ _ | .cx _ _ _=>false
 | .fm _ a=>Xkz a
 | _=>true
theorem Xky: ∀ {a:AV},Xkz a=true->∀i,¬a.ids i:=by
 intro a
 induction a with
 | st a ih=>exact λh i=>ih h i
 | tup a ih=>exact λh i=>ih h i
 | fm f a ih=>exact λh i=>ih h i
 | pr a c iha ihc =>
  intro h i hi
  simp only[Xkz,W0g] at h
  exact hi.elim (iha h.1 i) (ihc h.2 i)
 | _=>intro h i hi;first | exact hi | cases h
def Ret(W0:GW)(Q:AV->Prop)(e:Ending)(w':World): Prop:=∃W' v u,e=.returned u/\W'.w=w'/\Fm W0 W' (λ_=>False)/\AV.V W' θe v u/\(∀i,¬v.ids i)/\Q v
def C(P:Program)[Gb P](f:FuncId)(args:List AV)(Q:AV->Prop): Prop:=Ym9 P f/\∀W vs,Gb.g P W->Xi3 W θe args vs->Calls P f vs.toArray W.w (Ret W Q)
theorem Xi3.mono{W W':GW}{θ θ':Loc}(l:LeF W W'): ∀ {asx:List AV} {vs:List Value},(∀a∈asx,∀i,a.ids i->θ' i=θ i)->Xi3 W θ asx vs->Xi3 W' θ' asx vs
 | [],[],_,_=>trivial
 | a::asx,v::vs,hi,h=>⟨h.1.mono l (hi a (W0l ..)),h.2.mono l λa ha=>hi a (W0p _ ha)⟩
 | [],_::_,_,h=>h.elim
 | _::_,[],_,h=>h.elim
theorem C.cs{P:Program}[Gb P]{f:FuncId}{args:List AV}{Q:AV->Prop}(h:C P f args Q)(hn:(args.all Xkz)=true)(g:Hp): CS P f args g λv g'=>g'=g/\Q v:=by
 refine⟨h.1,λN W θ vs hg hO hN _ ha=>(h.2 W vs hg (ha.mono (LeF.refl W) λa hm i hi=>absurd hi (Xky (W1n.1 hn a hm) i))).mono ?_⟩
 rintro e w' ⟨W',v,u,rfl,rfl,hf,hv,hi,hq⟩
 refine⟨W',θ,v,u,g,rfl,rfl,?_,hv.mono (LeF.refl _) λi h=>absurd h (hi i),λi h=>absurd h (hi i),rfl,hq⟩
 exact {
  os:=hf.os,out:=hf.out,tape:=hf.tape,size:=hf.size
  same:=λb hb _=>hf.same b hb id
  A:=λb hb _ i=>hf.A b hb id i
  le:=hf.le
  th:=λ_ _ _=>rfl
  hi:=λ_ _=>rfl
  obs:=⟨λo x hx=>(hO.r o x hx).keep hf.le rfl (λ_ _=>rfl) λhl b hb=>⟨hf.same b (hO.lt hx hl hb) id,λi hA=>(hf.A b (hO.lt hx hl hb) id i).2 hA⟩,hO.new,hO.dis,hO.ids⟩
  dom:=λ_ y h=>⟨y,h⟩ }
def Xcd{α:Type _}(H:List (Nat×α))(i:Nat): Bool:=match look H i with
 | some _=>true
 | none=>false
def Xde(H:Hpl): AV->Bool
 | .st a=>Xde H a
 | .pr a c=>Xde H a&&Xde H c
 | .tup a=>Xde H a
 | .fm _ a=>Xde H a
 | .ptr o _ | .own o _ _ _ | .ow3 o _ _ _ | .gr o _ _ | .el o _ _ _ | .fn _ o | .ap o _ | .cx o _ _=>Xcd H o
 | _=>true
theorem Xf9{H:Hpl}: ∀ {a:AV},Xde H a=true->∀i,a.ids i->∃y,look H i=some y:=by
 have hk:∀o,Xcd H o=true->∃y,look H o=some y:=λo h=>by
  unfold Xcd at h;split at h
  . rename_i y hy;exact⟨y,hy⟩
  . cases h
 intro a
 induction a with
 | st a ih=>exact ih
 | tup a ih=>exact ih
 | fm f a ih=>exact ih
 | pr a c iha ihc =>
  intro h i hi
  simp only[Xde,W0g] at h
  exact hi.elim (iha h.1 i) (ihc h.2 i)
 | _=>intro h i hi;first | exact hi.elim | (have hi:i=_:=hi;subst hi;exact hk _ h)
inductive Fit (g:Hp) (K:Hpl):AV->AV->Prop where
 | rf {a:AV} (h:Xde K a=true):Fit g K a a
 | eq {x y:D} (h:x=y):Fit g K (.d x) (.d y)
 | nil {sz:Nat} {ys:List D} (h:ys=[]):Fit g K .nil (.d (.sl sz ys))
 | lit {sz:Nat} {xs ys:List D} (h:xs=ys):Fit g K (.lit sz xs) (.d (.sl sz ys))
 | gr {o sz:Nat} {xs ys:List D} (h:xs=ys):Fit g K (.gr o sz xs) (.d (.sl sz ys))
 | own {o sz l n:Nat} {xs ys:List D} (h:g o=some (.arr sz xs)) (hn:l+n<=xs.length) (hy:(xs.drop l).take n=ys) (hk:Xcd K o=false:=by exact rfl):Fit g K (.own o sz l n) (.d (.sl sz ys))
 | ow3 {o sz l n:Nat} {xs ys:List D} (h:g o=some (.arr sz xs)) (hn:l+n<=xs.length) (hy:(xs.drop l).take n=ys) (hk:Xcd K o=false:=by exact rfl):Fit g K (.ow3 o sz l n) (.d (.sl sz ys))
 | bq {c:Bool} {p:Prop} (h:c=true↔p):Fit g K (.b c) (.q p)
 | qq {p q:Prop} (h:p↔q):Fit g K (.q p) (.q q)
 | bp {c:Bool} {p:Prop} (h:c=true↔p):Fit g K (.b c) (.b (dc p))
 | bd {c e:Bool} (h:c=e):Fit g K (.b c) (.d (.bool e))
 | qd {p:Prop} {e:Bool} (h:p↔e=true):Fit g K (.q p) (.d (.bool e))
 | dq {c:Bool} {p:Prop} (h:c=true↔p):Fit g K (.d (.bool c)) (.q p)
 | st {a b:AV} (h:Fit g K a b):Fit g K (.st a) (.st b)
 | sd {a:AV} {x:D} (h:Fit g K a (.d x)):Fit g K (.st a) (.d (.st x))
 | pr {a b c e:AV} (h:Fit g K a b) (k:Fit g K c e):Fit g K (.pr a c) (.pr b e)
 | pd {a c:AV} {x y:D} (h:Fit g K a (.d x)) (k:Fit g K c (.d y)):Fit g K (.pr a c) (.d (.pr x y))
inductive FitT (g:Hp) (K:Hpl):AV->AV->Prop where
 | one {a b:AV} (h:Fit g K a b) (ha:∀u v,a≠.pr u v) (hb:∀u v,b≠.pr u v):FitT g K a b
 | cons {a b c e:AV} (h:Fit g K a b) (k:FitT g K c e):FitT g K (.pr a c) (.pr b e)
inductive FitR (g:Hp) (K:Hpl):AV->AV->Prop where
 | one {a b:AV} (h:Fit g K a b) (ha:plain a=true) (hb:plain b=true):FitR g K a b
 | tup {a b:AV} (h:FitT g K a b):FitR g K (.tup a) (.tup b)
structure Exi (W W':GW) (N:Nat->Prop) (θ:Loc) (g:Hp) (K:Hpl):Prop where
 o:Obs W θ N g
 l:LeF W W'
 n:∀o x b,g o=some x->x.live=true->(θ o).1=some b->Xcd K o=false->∀i v,W.w.cell? ⟨b,i,none⟩=some v->Fr W' b i v
theorem Xzd{W W':GW}{N:Nat->Prop}{θ:Loc}{g:Hp}{K:Hpl}(E:Exi W W' N θ g K){a b:AV}(h:Fit g K a b): (∀ {cs:List Value},AV.C W θ a cs->AV.C W' θ b cs)/\a.ag=b.ag/\∀i,b.ids i->∃y,look K i=some y:=by
 induction h with
 | rf h=>exact⟨λhc=>AV.c_mono E.l _ (λ_ _=>rfl) hc,rfl,Xf9 h⟩
 | eq h=>subst h;exact⟨λhc=>D.mono E.l _ hc,rfl,λ_ h=>h.elim⟩
 | nil h=>subst h;exact⟨λ⟨p,e⟩=>⟨p,0,e,W0a _,by decide,.inl rfl⟩,rfl,λ_ h=>h.elim⟩
 | @lit sz xs ys h =>
  subst h
  exact⟨λ{cs} hc=>D.mono E.l (.sl sz xs) (Xly (θ:=θ) (z:=.sl sz []) (a:=.lit sz xs) rfl hc),rfl,λ_ h=>h.elim⟩
 | @gr o sz xs ys h =>
  subst h
  exact⟨λ{cs} hc=>D.mono E.l (.sl sz xs) (Xly (θ:=θ) (z:=.sl sz []) (a:=.gr o sz xs) rfl hc),rfl,λ_ h=>h.elim⟩
 | @own o sz l n xs ys h hn hy hk =>
  subst hy
  refine⟨λ{cs} hc=>?_,rfl,λ_ h=>h.elim⟩
  obtain⟨b,p,h1,h2,h3,e,h5⟩:=hc
  obtain⟨b',bs,T',r1,r2,r3,r4,r5,r6,r7⟩:=E.o.r _ _ h
  rw[h1] at r1;injection r1 with r1;subst r1
  have hlen:((xs.drop l).take n).length=n:=by simp;omega
  refine⟨p,(θ o).2-l,by rw[hlen];exact e,by omega,by omega,?_⟩
  rcases W2u n with hn0 | hn0
  . exact .inl (W4b.1 (by rw[hlen,hn0]))
  . refine .inr ⟨b,l*sz,h5 (by omega),?_⟩
    have hrow:D.Row W' b sz 0 xs:=(AtL.mono E.l (sz:=sz) (xs:=xs) (cs:=bs) r6).row λq v _ hv=>by
     rw[W1k]
     exact E.n o _ b h rfl h1 hk q v (by rw[Xa9 r2];exact hv)
    have:=D.row_sub hrow l n
    rwa[W1k] at this
 | @ow3 o sz l n xs ys h hn hy hk =>
  subst hy
  refine⟨λ{cs} hc=>?_,rfl,λ_ h=>h.elim⟩
  obtain⟨b,p,h1,h2,h3,e,h5⟩:=hc
  obtain⟨b',bs,T',r1,r2,r3,r4,r5,r6,r7⟩:=E.o.r _ _ h
  rw[h1] at r1;injection r1 with r1;subst r1
  have hlen:((xs.drop l).take n).length=n:=by simp;omega
  refine⟨p,n,by rw[hlen];exact e,by omega,by omega,?_⟩
  rcases W2u n with hn0 | hn0
  . exact .inl (W4b.1 (by rw[hlen,hn0]))
  . refine .inr ⟨b,l*sz,h5 (by omega),?_⟩
    have hrow:D.Row W' b sz 0 xs:=(AtL.mono E.l (sz:=sz) (xs:=xs) (cs:=bs) r6).row λq v _ hv=>by
     rw[W1k]
     exact E.n o _ b h rfl h1 hk q v (by rw[Xa9 r2];exact hv)
    have:=D.row_sub hrow l n
    rwa[W1k] at this
 | bq h=>exact⟨λhc=>⟨_,hc,h⟩,rfl,λ_ h=>h.elim⟩
 | qq h=>exact⟨λ⟨c,e,hp⟩=>⟨c,e,hp.trans h⟩,rfl,λ_ h=>h.elim⟩
 | @bp c p h =>
  have:c=dc p:=W5h.2 (h.trans Xah.symm)
  subst this
  exact⟨λhc=>hc,rfl,λ_ h=>h.elim⟩
 | bd h=>subst h;exact⟨λhc=>hc,rfl,λ_ h=>h.elim⟩
 | @qd p e h =>
  refine⟨λ⟨c,e1,hp⟩=>?_,rfl,λ_ h=>h.elim⟩
  have:c=e:=W5h.2 (hp.trans h)
  subst this;exact e1
 | dq h=>exact⟨λhc=>⟨_,hc,h⟩,rfl,λ_ h=>h.elim⟩
 | st h ih=>exact⟨λhc=>ih.1 hc,rfl,ih.2.2⟩
 | sd h ih=>exact⟨λhc=>ih.1 hc,rfl,λ_ h=>h.elim⟩
 | pr h k ih1 ih2=>exact⟨λ⟨u,v,e,h1,h2⟩=>⟨u,v,e,ih1.1 h1,ih2.1 h2⟩,rfl,λi hi=>hi.elim (ih1.2.2 i) (ih2.2.2 i)⟩
 | pd h k ih1 ih2=>exact⟨λ⟨u,v,e,h1,h2⟩=>⟨u,v,e,ih1.1 h1,ih2.1 h2⟩,rfl,λ_ h=>h.elim⟩
theorem Yb3{W W':GW}{N:Nat->Prop}{θ:Loc}{g:Hp}{K:Hpl}(E:Exi W W' N θ g K){a b:AV}(h:Fit g K a b){v:Value}(hv:AV.V1 W θ a v): AV.V1 W' θ b v:=by
 obtain⟨cs,hc,e⟩:=hv
 obtain⟨f1,f2,f3⟩:=Xzd E h
 exact⟨cs,f1 hc,by rw[e,f2]⟩
theorem Ymh{W W':GW}{N:Nat->Prop}{θ:Loc}{g:Hp}{K:Hpl}(E:Exi W W' N θ g K){a b:AV}(h:FitT g K a b): (∀ {vs:List Value},AV.T W θ a vs->AV.T W' θ b vs)/\∀i,b.ids i->∃y,look K i=some y:=by
 induction h with
 | @one a b h ha hb =>
  refine⟨λ{vs} hv=>?_,(Xzd E h).2.2⟩
  by_cases hu:a=.un\/b=.un
  . have:a=.un/\b=.un:=by
     rcases hu with rfl | rfl
     . cases h;exact⟨rfl,rfl⟩
     . cases h;exact⟨rfl,rfl⟩
    obtain⟨rfl,rfl⟩:=this
    match vs,hv with
    | [],_=>trivial
    | [v],⟨_,h,_⟩=>exact h.elim
  have hua:a≠.un:=λe=>hu (.inl e)
  have hub:b≠.un:=λe=>hu (.inr e)
  have key:∀ {W:GW} {θ:Loc} {a:AV},a≠.un->(∀u v,a≠.pr u v)->(AV.T W θ a vs↔∃v,vs=[v]/\AV.V1 W θ a v):=by
   intro W θ a hu ha
   cases a<;>first | exact absurd rfl (ha _ _) | exact absurd rfl hu | skip
   all_goals
    match vs with
    | []=>exact⟨λh=>h.elim,λ⟨v,h,_⟩=>by cases h⟩
    | [v]=>exact⟨λh=>⟨v,rfl,h⟩,λ⟨w,h,k⟩=>by injection h with h;subst h;exact k⟩
    | _::_::_=>exact⟨λh=>h.elim,λ⟨v,h,_⟩=>by cases h⟩
  obtain⟨v,e,h1⟩:=(key hua ha).1 hv
  exact(key hub hb).2 ⟨v,e,Yb3 E h h1⟩
 | cons h k ih =>
  refine⟨λ{vs} hv=>?_,λi hi=>hi.elim ((Xzd E h).2.2 i) (ih.2 i)⟩
  match vs,hv with
  | v::vs,hv=>exact⟨Yb3 E h hv.1,ih.1 hv.2⟩
theorem Yek{W W':GW}{N:Nat->Prop}{θ:Loc}{g:Hp}{K:Hpl}(E:Exi W W' N θ g K){a b:AV}(h:FitR g K a b){v:Value}(hv:AV.V W θ a v): AV.V W' θ b v/\∀i,b.ids i->∃y,look K i=some y:=by
 cases h with
 | one h ha hb =>
  obtain⟨cs,hc,e⟩:=V_c hv (λ_ e=>by subst e;cases ha) (λe=>by subst e;cases ha)
  obtain⟨f1,f2,f3⟩:=Xzd E h
  have:=Yj6 (f1 hc)
  rw[<-f2,<-e] at this
  exact⟨this,f3⟩
 | tup h =>
  obtain⟨vs,e,ht⟩:=hv
  obtain⟨f1,f2⟩:=Ymh E h
  exact⟨⟨vs,e,f1 ht⟩,f2⟩
def Ykk(tb:Nat->Option TI)(s:S): ResultVar->Option AV
 | .tmp t=>match s.1 t with
  | some a=>match plain a with
   | true=>some a
   | false=>none
  | none=>none
 | .cell t T=>match tb T,s.1 t with
  | some ti,some (.ptr o 0)=>match s.2 o with
   | some (.var a)=>match plain a&&Xze ti.z.size ti.z.ag a with
    | true=>some a
    | false=>none
   | _=>none
  | _,_=>none
def Xrr(tb:Nat->Option TI)(s:S): List ResultVar->Option (List AV)
 | []=>some []
 | r::l=>match Ykk tb s r,Xrr tb s l with
  | some a,some asx=>some (a::asx)
  | _,_=>none
def mkT: List AV->AV
 | []=>.un
 | [a]=>a
 | a::l=>.pr a (mkT l)
def Xxo(tb:Nat->Option TI)(s:S)(rs:List ResultVar): Option AV:=match rs,Xrr tb s rs with
 | [_],some [a]=>some a
 | _::_::_,some asx=>some (.tup (mkT asx))
 | [],some []=>some (.tup .un)
 | _,_=>none
def Xp5(tmps:Array Value): ResultVar->Sem Value
 | .tmp t=>pure (tmps.getD t undef)
 | .cell a t=>do loadVar t (<-asAddr (tmps.getD a undef))
section
variable{c:Cx}{K:List Kt}{s:S}
theorem Xys{W:GW}{θ:Loc}{a:AV}{v:Value}(h:AV.V W θ a v)(hp:plain a=true): AV.V1 W θ a v:=V_c h (λ_ e=>by subst e;cases hp) (λe=>by subst e;cases hp)
theorem Xyh{W0:GW}{X:Nat->Prop}{n:Nat}{a:Act}{W:GW}{θ:Loc}(hT:∀T ti,c.tb T=some ti->TyOk c.P T ti/\∀a c,ti.z≠.pr a c)(hs:Sat W0 X n s a W θ){r:ResultVar}{v:AV}(h:Ykk c.tb s r=some v):
 ∃u,(Xp5 a.tmps r).run c.P W.w=.ok u W.w/\AV.V1 W θ v u/\plain v=true:=by
 cases r with
 | tmp t =>
  simp only[Ykk] at h
  split at h<;>try cases h
  rename_i b hb
  split at h<;>cases h
  rename_i hp
  exact⟨_,rfl,Xys (hs.rel.has t _ hb) hp,hp⟩
 | cell t T =>
  simp only[Ykk] at h
  split at h<;>try cases h
  rename_i ti o hti ht
  split at h<;>try cases h
  rename_i b hg
  split at h<;>cases h
  rename_i hp
  rw[W0g] at hp
  obtain⟨hp1,hp2⟩:=hp
  obtain⟨f1,f2⟩:=Xdf hp2
  obtain⟨hk,hpr⟩:=hT _ _ hti
  obtain⟨bb,h1,e⟩:=Xja (hs.rel.has t _ ht)
  obtain⟨b',cs,T',r1,r2,r3,r4⟩:=hs.obs.r _ _ hg
  rw[h1] at r1;injection r1 with r1;subst r1
  have:=Xh3 hk (off:=0) r3 f1 f2 (λe=>by rw[f1];exact ag1 hk (by rw[<-f2];exact e) hpr) (λj u hj=>by rw[Xa9 r2,W1k];exact hj)
  refine⟨_,?_,Yj7 r3,hp1⟩
  simp only[Xp5,e,asAddr]
  rw[Sem.run_bind]
  show Result.andThen (Result.ok _ _) _=_
  simp only[Result.andThen_ok]
  exact this
theorem Xl8{W0:GW}{X:Nat->Prop}{n:Nat}{a:Act}{W:GW}{θ:Loc}(hT:∀T ti,c.tb T=some ti->TyOk c.P T ti/\∀a c,ti.z≠.pr a c)(hs:Sat W0 X n s a W θ): ∀ {l:List ResultVar} {asx:List AV},Xrr c.tb s l=some asx ->
 ∃us,(l.mapM (Xp5 a.tmps)).run c.P W.w=.ok us W.w/\us.length=asx.length/\asx.length=l.length/\(∀(i:Nat) (v:AV),asx[i]?=some v->∃u,us[i]?=some u/\AV.V1 W θ v u/\plain v=true)
 | [],asx,h=>by simp only[Xrr] at h;injection h with h;subst h;exact⟨[],rfl,rfl,rfl,λi v h=>by simp at h⟩
 | r::l,asx,h=>by
  simp only[Xrr] at h
  split at h<;>cases h
  rename_i b bs h1 h2
  obtain⟨u,e1,e2,e3⟩:=Xyh hT hs h1
  obtain⟨us,k1,k2,k3,k4⟩:=Xl8 hT hs h2
  refine⟨u::us,?_,by simp[k2],by simp[k3],λi v hi=>?_⟩
  . rw[List.mapM_cons,Sem.run_bind,e1]
    simp only[Result.andThen_ok]
    rw[Sem.run_bind,k1]
    rfl
  . cases i with
    | zero=>simp at hi;subst hi;exact⟨u,rfl,e2,e3⟩
    | succ i=>simpa using k4 i v (by simpa using hi)
theorem Yhx{W:GW}{θ:Loc}: ∀ {asx:List AV} {us:List Value},us.length=asx.length->0<asx.length->(∀(i:Nat) (v:AV),asx[i]?=some v->∃u,us[i]?=some u/\AV.V1 W θ v u/\plain v=true)->AV.T W θ (mkT asx) us
 | [a],[u],_,_,h=>by
  obtain⟨w,h1,h2,h3⟩:=h 0 a rfl
  simp at h1;subst h1
  show AV.T W θ a [u]
  cases a<;>first | exact h2 | cases h3
 | a::b::l,u::us,hl,_,h=>by
  obtain⟨w,h1,h2,_⟩:=h 0 a rfl
  simp at h1;subst h1
  exact⟨h2,Yhx (asx:=b::l) (by simpa using hl) (by simp) λi v hi=>by
   have:=h (i+1) v (by simpa using hi)
   simpa using this⟩
 | [],_,_,h,_=>by simp at h
 | [_],[],h,_,_=>by simp at h
 | [_],_::_::_,h,_,_=>by simp at h
 | _::_::_,[],h,_,_=>by simp at h
theorem Xp4{W0:GW}{X:Nat->Prop}{n:Nat}{a:Act}{W:GW}{θ:Loc}(hT:∀T ti,c.tb T=some ti->TyOk c.P T ti/\∀a c,ti.z≠.pr a c)(hs:Sat W0 X n s a W θ){fn:Func}{v:AV}(h:Xxo c.tb s fn.results.toList=some v):
 ∃u,(results fn a.tmps).run c.P W.w=.ok u W.w/\AV.V W θ v u:=by
 have key:∀ {asx:List AV},Xrr c.tb s fn.results.toList=some asx->∃us:List Value,(results fn a.tmps).run c.P W.w=.ok (if h:us.toArray.size=1 then us.toArray[0] else .tuple us.toArray) W.w/\us.length=asx.length/\asx.length=fn.results.toList.length/\(∀(i:Nat) (v:AV),asx[i]?=some v->∃u,us[i]?=some u/\AV.V1 W θ v u/\plain v=true):=by
  intro asx has
  obtain⟨us,k1,k2,k3,k4⟩:=Xl8 hT hs has
  refine⟨us,?_,k2,k3,k4⟩
  unfold results
  have hr:fn.results=fn.results.toList.toArray:=by simp
  have hm:(fn.results.mapM (Xp5 a.tmps)).run c.P W.w=.ok us.toArray W.w:=by
   rw[hr,List.mapM_toArray,Sem.run_map,k1]
   rfl
  rw[Sem.run_bind]
  erw[hm]
  rfl
 unfold Xxo at h
 split at h<;>cases h
 . rename_i r hrs has
   obtain⟨us,k1,k2,k3,k4⟩:=key has
   match us,k2,k1 with
   | [u],_,k1 =>
    obtain⟨w,h1,h2,h3⟩:=k4 0 _ rfl
    simp at h1;subst h1
    exact⟨u,by rw[k1];rfl,V1.V h2⟩
 . rename_i r1 r2 rs asx hrs has
   obtain⟨us,k1,k2,k3,k4⟩:=key has
   have hl:2<=us.length:=by rw[k2,k3,hrs];simp
   exact⟨.tuple us.toArray,by rw[k1,dif_neg (by simp;omega)],us,rfl,Yhx k2 (by omega) k4⟩
 . rename_i hrs has
   obtain⟨us,k1,k2,k3,k4⟩:=key has
   have hl:us=[]:=W0o (by rw[k2];rfl)
   subst hl
   exact⟨.tuple #[],by rw[k1];rfl,[],rfl,trivial⟩
theorem Xwa{fn:Func}{Q:AV->Prop}(hX:c.X=λ_=>False){v v':AV}(hr:Xxo c.tb s fn.results.toList=some v)(hf:FitR s.2 [] v v')(hq:Q v'){a:Act}{w:World}(h:c.Nx (λs'=>s'=s) a w):
 a.defers=[]/\∃u,(results fn a.tmps).run c.P w=.ok u w/\Ret c.W0 Q (.returned u) w:=by
 obtain⟨s',W,θ,rfl,hs,hθ,rfl⟩:=h
 obtain⟨u,hu,hv⟩:=Xp4 c.hT hs hr
 have hfm:=hs.fm
 have hobs:=hs.obs
 rw[hX] at hfm hobs
 refine⟨hs.rel.defers,u,hu,?_⟩
 let W':GW:=⟨W.w,c.W0.A,λb i h=>W0v (c.W0.hA b i h) hfm.size⟩
 have hle:LeF W W':=λb i x hx=>⟨hx.1,λhA=>hx.2 ((hfm.A b (c.W0.hA b i hA) id i).2 hA)⟩
 have E:Exi W W' (λb=>c.W0.size<=b\/False) θ s'.2 []:=⟨hobs,hle,λo x b ho hl hb _ i y hy=>⟨hy,λhA=>absurd (c.W0.hA b i hA) (W5t.2 ((hobs.new o x b ho hl hb).resolve_right id))⟩⟩
 obtain⟨f1,f2⟩:=Yek E hf hv
 have f2:∀i,¬v'.ids i:=λi hi=>by obtain⟨y,hy⟩:=f2 i hi;cases hy
 exact⟨W',v',u,rfl,rfl,⟨hfm.os,hfm.out,hfm.tape,hfm.size,hfm.same,λ_ _ _ _=>W3x,λb i x hx=>⟨(hfm.le b i x hx).1,hx.2⟩⟩,f1.mono (LeF.refl W') λi hi=>absurd hi (f2 i),f2,hq⟩
theorem J.retC{fn:Func}{Q:AV->Prop}(hX:c.X=λ_=>False)(hfin:c.fin=bodyPost c.P fn (Ret c.W0 Q)){v v':AV}(hr:Xxo c.tb s fn.results.toList=some v)(hf:FitR s.2 [] v v')(hq:Q v'): J c (.c .ret::K) s :=
 J.ret λa w h=>by rw[hfin];exact Xwa hX hr hf hq h
theorem J.endC{fn:Func}{Q:AV->Prop}(hX:c.X=λ_=>False)(hfin:c.fin=bodyPost c.P fn (Ret c.W0 Q)){v v':AV}(hr:Xxo c.tb s fn.results.toList=some v)(hf:FitR s.2 [] v v')(hq:Q v'): J c [] s :=
 λa w h=>by show c.fin .normal a w;rw[hfin];exact Xwa hX hr hf hq h
end
def Xz4: Nat->List AV->Ev
 | _,[]=>λ_=>none
 | i,v::vs=>upd (Xz4 (i+1) vs) i v
theorem Xne{W:GW}: ∀ {asx:List AV} {vs:List Value} {i t:Nat} {v:AV},Xi3 W θe asx vs->Xz4 i asx t=some v->i<=t/\∃u,vs[t-i]?=some u/\AV.V W θe v u/\v∈asx
 | [],[],i,t,v,_,h=>by simp[Xz4] at h
 | a::asx,u::vs,i,t,v,ha,h=>by
  rcases Xaf h with ⟨e1,e2⟩ | ⟨e1,e2⟩
  . subst e1;subst e2;exact⟨W0a _,u,by simp,ha.1,W0l ..⟩
  . obtain⟨h1,w,h2,h3,h4⟩:=Xne ha.2 e2
    exact⟨by omega,w,by rw[show t-i=(t-(i+1))+1 by omega];simpa using h2,h3,W0p _ h4⟩
 | [],_::_,_,_,_,h,_=>h.elim
 | _::_,[],_,_,_,h,_=>h.elim
theorem Xi3.len{W:GW}{θ:Loc}: ∀ {asx:List AV} {vs:List Value},Xi3 W θ asx vs->asx.length=vs.length
 | [],[],_=>rfl
 | _::_,_::_,h=>by simp[h.2.len]
 | [],_::_,h=>h.elim
 | _::_,[],h=>h.elim
theorem C.enter {P : Program} [gb : Gb P] [t : Tab P] (hpr : ∀ T ti, t.tb T = some ti → ∀ a c, ti.z ≠ .pr a c) [m : Mx P] {f n : Nat} {fn : Func} {x : Code} {args : List AV} {Q : AV → Prop} (hf : P.funcs[f]? = some fn) (hname : (fn.name == "runtime.NumGoroutine") = false) (hb : fn.body = some x)
 (hN:fn.ntmps=n) (hl:(Nat.ble args.length n&&Nat.ble n 1000000&&args.all Xkz)=true)
 (h:∀W (hg:gb.g W),J ⟨P,gb,t.tb,λT ti h=>⟨t.ok T ti h,hpr T ti h⟩,m,n,by simp only[W0g] at hl;exact W1g hl.1.2,W,λ_=>False,θe,bodyPost P fn (Ret W Q),hg⟩ [.c x] (Xz4 0 args,λ_=>none)):C P f args Q:=by
 refine⟨⟨fn,hf,hname,by rw[hb];rfl⟩,λW vs hg ha=>calls_of_wp hf hb ?_⟩
 simp only[W0g] at hl
 obtain⟨⟨hl1,hl2⟩,hl3⟩:=hl
 have hl1:=W1g hl1
 have hlen:=ha.len
 refine wp_mono (h W hg _ W.w ⟨_,W,θe,rfl,⟨Fm.refl W _,⟨rfl,by simp[hN];omega,λt v ht=>?_⟩,⟨λo x h=>by simp at h,λo x b h=>by simp at h,λo o' x x' b h=>by simp at h,λo x i h=>by simp at h⟩,λt v i ht hi=>?_⟩,λ_ _=>rfl,rfl⟩) λe a w h=>by cases e<;>exact h
 . obtain⟨_,u,h2,h3,_⟩:=Xne ha ht
   rw[W6l] at h2
   have hlt:=Xbj h2
   rw[W0c hlt] at h2
   injection h2 with h2
   simp only[Array.getD]
   rw[dif_pos (by simp;omega)]
   simp[W6w,hlt,h2]
   exact h3
 . obtain⟨_,u,_,_,h4⟩:=Xne ha ht
   exact absurd hi (Xky (W1n.1 hl3 v h4) i)
end
section
abbrev sem(E:Env)(H:Hpl): S:=(look E,look H)
theorem Xa2{α:Type _}(E:List (Nat×α))(d:Nat)(v:α): upd (look E) d v=look ((d,v)::E):=by funext t;simp only[upd,look];cases Nat.beq t d<;>rfl
theorem Xih(H:Hpl): ∀us:List (Nat×Ob),Xbe (look H) us=look (us++H)
 | []=>rfl
 | (o,x)::us=>by rw[Xbe,Xih H us,Xa2];rfl
def Xsl(E:Env)(d:Option Nat)(v:AV): Env:=match d with
 | some d=>(d,v)::E
 | none=>E
theorem Xfa(E:Env)(H:Hpl)(us:List (Nat×Ob))(d:Option Nat)(v:AV): S.put ((sem E H).1,Xbe (sem E H).2 us) d v=sem (Xsl E d v) (us++H):=by
 cases d with
 | none=>simp only[S.put,Xsl,sem,Xih]
 | some d=>simp only[S.put,Xsl,sem,Xih,Xa2]
def stops: Op->Bool
 | .binOp op _ _ _ _=>match op with
  | .eql | .neq | .lss | .leq | .gtr | .geq=>false
  | _=>true
 | .unOp op _ _=>match op with
  | .not=>false
  | _=>true
 | .convert _ _ _ | .index _ _ _ | .indexAddr _ _ _ | .slice _ _ _ _ _ | .makeSlice _ _ _=>true
 | .call c=>match c.callee with
  | .builtin .len=>false
  | _=>true
 | _=>false
def Ylf(E:Env): Op->Bool
 | .load _ x=>match Xc4 (look E) x with
  | some (.el _ _ _ _)=>true
  | _=>false
 | .store _ x _=>match Xc4 (look E) x with
  | some (.el _ _ _ _)=>true
  | _=>false
 | _=>false
def Yob(G:List (Nat×Bool)): Option Nat->List (Nat×Bool)
 | none=>G
 | some d=>(d,false)::G
inductive St where
 | j (G:List (Nat×Bool)) (K:List Kt) (E:Env) (H:Hpl)
 | o (G:List (Nat×Bool)) (dr:Bool) (L l:List Oper) (K:List Kt) (E:Env) (H:Hpl)
def StP(c:Cx): St->Prop
 | .j _ K E H=>J c K (sem E H)
 | .o _ dr L l K E H=>WL c.P c.tb dr L (J c K) l (sem E H)
def inG: List (Nat×Bool)->Nat->Bool
 | [],_=>false
 | (s,b)::G,t=>match Nat.beq s t with
  | true=>b
  | false=>inG G t
def Yfx(G:List (Nat×Bool)): Operand->Bool
 | .const (.bool _)=>true
 | .tmp t=>inG G t
 | _=>false
def Yoz(G:List (Nat×Bool))(E:Env): Op->Bool
 | .assign x | .move x=>Yfx G x
 | .unOp op _ x=>match op with
  | .not=>Yfx G x
  | _=>false
 | .pick x a b=>match Xc4 (look E) x with
  | some (.b true)=>Yfx G a
  | some (.b false)=>Yfx G b
  | _=>false
 | _=>false
def Yc5(G:List (Nat×Bool))(L:List Oper)(E:Env)(o:Oper): Bool:=match o.guard with
 | none=>true
 | some (j,_)=>match Xmy L j with
  | none=>false
  | some t=>match look E t with
   | some .un=>true
   | _=>inG G t
def Ylu(G:List (Nat×Bool)): Op->Bool
 | .pick x _ _=>Yfx G x
 | _=>true
def nfA{α:Type}: AV->(AV->α)->α
 | .d x,k=>k (.d x)
 | .q p,k=>k (.q p)
 | .b c,k=>k (.b c)
 | .ub p,k=>k (.ub p)
 | .nil,k=>k .nil
 | .lit sz xs,k=>k (.lit sz xs)
 | .st a,k=>nfA a λa=>k (.st a)
 | .pr a c,k=>nfA a λa=>nfA c λc=>k (.pr a c)
 | .tup a,k=>nfA a λa=>k (.tup a)
 | .fm f a,k=>nfA a λa=>k (.fm f a)
 | .at x,k=>k (.at x)
 | .ptr o f,k=>k (.ptr o f)
 | .own o sz l n,k=>k (.own o sz l n)
 | .ow3 o sz l n,k=>k (.ow3 o sz l n)
 | .gr o sz xs,k=>k (.gr o sz xs)
 | .el o sz j f,k=>k (.el o sz j f)
 | .fn f o,k=>k (.fn f o)
 | .ap o n,k=>k (.ap o n)
 | .cx o l n,k=>k (.cx o l n)
 | .an,k=>k .an
 | .un,k=>k .un
theorem Ybm{α:Type}: ∀(a:AV) (k:AV->α),nfA a k=k a:=by
 intro a
 induction a with
 | st a ih=>intro k;exact ih _
 | tup a ih=>intro k;exact ih _
 | fm f a ih=>intro k;exact ih _
 | pr a c iha ihc=>intro k;show nfA a _=_;rw[iha,ihc]
 | _=>intro k;rfl
def nfO{α:Type}: Ob->(Ob->α)->α
 | .var a,k=>nfA a λa=>k (.var a)
 | .arr sz xs,k=>k (.arr sz xs)
 | .tok n sz,k=>k (.tok n sz)
 | .dead,k=>k .dead
theorem Yhq{α:Type}(x:Ob)(k:Ob->α): nfO x k=k x:=by
 cases x with
 | var a=>exact Ybm a _
 | _=>rfl
def apH{α:Type}: Hpl->Hpl->(Hpl->α)->α
 | [],H,k=>k H
 | (o,x)::us,H,k=>nfO x λx=>apH us H λH=>k ((o,x)::H)
theorem Xxd{α:Type}: ∀(us H:Hpl) (k:Hpl->α),apH us H k=k (us++H)
 | [],_,_=>rfl
 | (o,x)::us,H,k=>by show nfO x _=_;rw[Yhq,Xxd us];rfl
noncomputable def Ykj(tb:Nat->Option TI)(n:Nat): St->Option St
 | .j G (.c (.seq x y)::K) E H=>some (.j G (.c x::.c y::K) E H)
 | .j G (.c .skip::K) E H=>some (.j G K E H)
 | .j G (.c (.block id x)::K) E H=>some (.j G (.c x::.b id::K) E H)
 | .j G (.b _::K) E H=>some (.j G K E H)
 | .j G (.c (.exit id)::K) E H=>match Ybe id K with
  | some K'=>some (.j G K' E H)
  | none=>none
 | .j G (.c (.region _ ⟨l⟩ false)::K) E H=>match Xn5 n l with
  | true=>some (.o G false l l K E H)
  | false=>none
 | .j G (.c (.cond x p q)::K) E H=>match Yfx G x with
  | false=>none
  | true=>match Xc4 (look E) x with
   | some (.b true)=>some (.j G (.c p::K) E H)
   | some (.b false)=>some (.j G (.c q::K) E H)
   | _=>none
 | .o G _ _ [] K E H=>some (.j G K E H)
 | .o G dr L (o::l) K E H=>match Yc5 G L E o with
  | false=>none
  | true=>match want L o (sem E H) with
   | none=>none
   | some false=>match o.dst with
    | some d=>some (.o ((d,false)::G) dr L l K ((d,.un)::E) H)
    | none=>none
   | some true=>match Ylu G o.op,stops o.op||Ylf E o.op with
    | true,false=>match eff tb o (sem E H) with
     | some (v,us)=>nfA v λv=>apH us H λH=>match o.dst with
      | none=>some (.o G dr L l K E H)
      | some d=>match Yoz G E o.op with
       | true=>some (.o ((d,true)::G) dr L l K ((d,v)::E) H)
       | false=>some (.o ((d,false)::G) dr L l K ((d,v)::E) H)
     | none=>none
    | _,_=>none
 | _=>none
noncomputable def runN(tb:Nat->Option TI)(n:Nat): Nat->St->St
 | 0,s=>s
 | m+1,s=>match Ykj tb n s with
  | some s'=>runN tb n m s'
  | none=>s
section
variable{c:Cx}
theorem Xjf{o:Oper}(h:stops o.op=false): Xap o=false:=by
 unfold Xap
 cases ho:o.op<;>first
  | rfl
  | (rename_i c
     obtain⟨cal,asx,tys⟩:=c
     rw[ho] at h
     cases cal with
     | builtin b=>cases b<;>rfl
     | value x=>cases h
     | invoke x m=>rfl)
theorem Xle{dr:Bool}{L:List Oper}{o:Oper}{E:Env}{H:Hpl}{v:AV}{us:List (Nat×Ob)}{R:S->Prop}(hw:want L o (sem E H)=some true)(hc:Xap o=false)(he:eff c.tb o (sem E H)=some (v,us))(k:R (sem (Xsl E o.dst v) (us++H))): Wo c.P c.tb dr L o R (sem E H) :=
 .inl ⟨hw,(Xo1 hc).2 (.inl ⟨(v,us),he,by unfold aft;rw[Xfa];exact k⟩)⟩
theorem Xtm{dr:Bool}{L:List Oper}{o:Oper}{E:Env}{H:Hpl}{d:Nat}{R:S->Prop}(hw:want L o (sem E H)=some false)(hd:o.dst=some d)(k:R (sem ((d,.un)::E) H)): Wo c.P c.tb dr L o R (sem E H) :=
 .inr ⟨hw,d,hd,by show R (upd (look E) d .un,look H);rw[Xa2];exact k⟩
theorem Xtv{s s':St}(h:Ykj c.tb c.n s=some s')(k:StP c s'): StP c s:=by
 unfold Ykj at h
 split at h
 . injection h with h;subst h;exact J.seq k
 . injection h with h;subst h;exact J.skip k
 . injection h with h;subst h;exact J.block k
 . injection h with h;subst h;exact J.bend k
 . split at h<;>cases h
   rename_i hp;exact J.exit hp k
 . split at h<;>cases h
   rename_i hp;exact J.reg hp k
 . split at h<;>try cases h
   split at h<;>cases h
   . rename_i hv;exact J.condT hv k
   . rename_i hv;exact J.condF hv k
 . injection h with h;subst h;exact k
 . split at h<;>try cases h
   split at h<;>try cases h
   . rename_i hw
     split at h<;>cases h
     rename_i d hd
     exact Xtm hw hd k
   . rename_i hw
     split at h<;>try cases h
     rename_i hst
     rw[Bool.or_eq_false_iff] at hst
     split at h
     . rename_i v us he
       rw[Ybm,Xxd] at h
       split at h
       . rename_i hd
         injection h with h;subst h
         exact Xle hw (Xjf hst.1) he (by rw[hd];exact k)
       . rename_i d hd
         split at h<;>(injection h with h;subst h;exact Xle hw (Xjf hst.1) he (by rw[hd];exact k))
     . cases h
 . cases h
theorem Xtu: ∀(m:Nat) {s:St},StP c (runN c.tb c.n m s)->StP c s
 | 0,_,k=>k
 | m+1,s,k=>by
  unfold runN at k
  split at k
  . rename_i s' h;exact Xtv h (Xtu m k)
  . exact k
theorem go{s:St}(m:Nat){s':St}(h:runN c.tb c.n m s=s')(k:StP c s'): StP c s:=Xtu m (by rw[h];exact k)
variable{s:St}{K:List Kt}{E:Env}{H:Hpl}
class Dc (b:Bool) (p:outParam Prop):Prop where
 h:b=true↔p
instance {p:Prop}:Dc (dc p) p:=⟨Xah⟩
instance {b:Bool} {p:Prop} [h:Dc b p]:Dc (!b) (¬p):=⟨by rw[<-h.h];cases b<;>simp⟩
instance (priority:=low) {b:Bool}:Dc b (b=true):=⟨W3x⟩
theorem Xpy{t:Nat}{v:AV}(h:look E t=some v): sem ((t,v)::E) H=sem E H:=by
 unfold sem
 congr 1
 funext u
 simp only[look]
 split
 . rename_i e;rw[W0e e,h]
 . rfl
noncomputable def nxG(tb:Nat->Option TI)(n:Nat)(s:St): Option (Nat×Bool×St×(Bool->St)):=match runN tb n 1000 s with
 | .j G (.c (.cond (.tmp t) p q)::K) E H=>match look E t with
  | some (.b b)=>some (t,b,.j G (.c (.cond (.tmp t) p q)::K) E H,λb=>.j ((t,true)::G) (.c (.cond (.tmp t) p q)::K) ((t,.b b)::E) H)
  | _=>none
 | .o G dr L (o::l) K E H=>match o.op,Yc5 G L E o with
  | .pick (.tmp t) _ _,true=>match look E t with
   | some (.b b)=>some (t,b,.o G dr L (o::l) K E H,λb=>.o ((t,true)::G) dr L (o::l) K ((t,.b b)::E) H)
   | _=>none
  | _,false=>match o.guard with
   | some (j,_)=>match Xmy L j with
    | some t=>match look E t with
     | some (.b b)=>some (t,b,.o G dr L (o::l) K E H,λb=>.o ((t,true)::G) dr L (o::l) K ((t,.b b)::E) H)
     | _=>none
    | none=>none
   | none=>none
  | _,_=>none
 | _=>none
theorem Ybl{t:Nat}{b:Bool}{s0:St}{f:Bool->St}(h:nxG c.tb c.n s=some (t,b,s0,f))(k:StP c (f b)): StP c s:=by
 unfold nxG at h
 split at h<;>try cases h
 . rename_i hr
   split at h<;>cases h
   rename_i hv
   refine go 1000 hr ?_
   have k:J c _ (sem _ _):=k
   rw[Xpy hv] at k
   exact k
 . rename_i hr
   have fin:∀ {G dr L l K E H t b},look E t=some (.b b)->StP c (.o ((t,true)::G) dr L l K ((t,.b b)::E) H)->StP c (.o G dr L l K E H):=by
    intro G dr L l K E H t b hv k
    have k:WL _ _ _ _ _ _ (sem _ _):=k
    rw[Xpy hv] at k
    exact k
   split at h<;>try cases h
   . split at h<;>cases h
     rename_i hv
     exact go 1000 hr (fin hv k)
   . split at h<;>try cases h
     split at h<;>try cases h
     split at h<;>cases h
     rename_i hv
     exact go 1000 hr (fin hv k)
theorem By{t:Nat}{b:Bool}{s0:St}{f:Bool->St}{p:Prop}[d:Dc b p](h:nxG c.tb c.n s=some (t,b,s0,f))(k1:p->StP c (f true))(k2:¬p->StP c (f false)): StP c s:=by
 have:=d.h
 cases b with
 | true=>exact Ybl h (k1 (this.1 rfl))
 | false=>exact Ybl h (k2 λhp=>by cases this.2 hp)
theorem Yes{t:Nat}{b:Bool}{s0:St}{f:Bool->St}{p:Prop}[d:Dc b p](h:nxG c.tb c.n s=some (t,b,s0,f))(hp:p)(k:StP c (f true)): StP c s:=By h (λ_=>k) λhn=>absurd hp hn
theorem No{t:Nat}{b:Bool}{s0:St}{f:Bool->St}{p:Prop}[d:Dc b p](h:nxG c.tb c.n s=some (t,b,s0,f))(hp:¬p)(k:StP c (f false)): StP c s:=By h (λh=>absurd h hp) λ_=>k
noncomputable def nxU(tb:Nat->Option TI)(n:Nat)(s:St): Option (Prop×St×St):=match runN tb n 1000 s with
 | .j G (.c (.cond x p q)::K) E H=>match Xc4 (look E) x with
  | some (.ub r)=>some (r,.j G (.c p::K) E H,.j G (.c q::K) E H)
  | _=>none
 | _=>none
theorem Ub{r:Prop}{s1 s2:St}(h:nxU c.tb c.n s=some (r,s1,s2))(k1:r->StP c s1)(k2:StP c s2): StP c s:=by
 unfold nxU at h
 split at h<;>try cases h
 rename_i hr
 split at h<;>cases h
 rename_i hv
 exact go 1000 hr (J.condU hv k1 k2)
noncomputable def nxD(tb:Nat->Option TI)(n:Nat)(s:St): Option St:=match runN tb n 1000 s with
 | .j G (.c (.region _ ⟨L⟩ true)::K) E H=>match Xn5 n L with
  | true=>some (.o G true L L K E H)
  | false=>none
 | _=>none
def Yo8: St->Bool
 | .o _ _ L _ _ _ _=>Xg6 L (λ_ _=>false) [] [] L
 | _=>false
theorem Dw{s':St}(h:nxD c.tb c.n s=some s')(k:StP c s')(hchk:Yo8 s'=true:=by exact rfl): StP c s:=by
 unfold nxD at h
 split at h<;>try cases h
 rename_i hr
 split at h<;>cases h
 rename_i hok
 exact go 1000 hr (J.draw Dm.no trivial hok hchk k)
class Wk (c:Cx) (fn:outParam Func) (Q:outParam (AV->Prop)):Prop where
 x:c.X=λ_=>False
 f:c.fin=bodyPost c.P fn (Ret c.W0 Q)
noncomputable def nxR(tb:Nat->Option TI)(n:Nat)(rs:List ResultVar)(s:St): Option (AV×Hpl):=match runN tb n 1000 s with
 | .j _ (.c .ret::_) E H=>match Xxo tb (sem E H) rs with
  | some v=>some (v,H)
  | none=>none
 | .j _ [] E H=>match Xxo tb (sem E H) rs with
  | some v=>some (v,H)
  | none=>none
 | _=>none
theorem Rt{fn:Func}{Q:AV->Prop}[w:Wk c fn Q]{v v':AV}(h:nxR c.tb c.n fn.results.toList s=some (v,H))(hf:FitR (look H) [] v v')(hq:Q v'): StP c s:=by
 unfold nxR at h
 split at h<;>try cases h
 . rename_i hr
   split at h<;>cases h
   rename_i hv
   exact go 1000 hr (J.retC w.x w.f hv hf hq)
 . rename_i hr
   split at h<;>cases h
   rename_i hv
   exact go 1000 hr (J.endC w.x w.f hv hf hq)
theorem R1{fn:Func}{r:AV}[w:Wk c fn (·=r)]{v:AV}(h:nxR c.tb c.n fn.results.toList s=some (v,H))(hf:Fit (look H) [] v r)(hp:(plain v&&plain r)=true:=by exact rfl): StP c s:=by
 rw[W0g] at hp
 exact Rt (Q:=(·=r)) h (.one hf hp.1 hp.2) rfl
theorem Xun: ∀ {a:AV},Xkz a=true->Xde [] a=true:=by
 intro a
 induction a with
 | st a ih=>exact ih
 | tup a ih=>exact ih
 | fm f a ih=>exact ih
 | pr a c iha ihc=>intro h;simp only[Xkz,W0g] at h;simp only[Xde,W0g];exact⟨iha h.1,ihc h.2⟩
 | _=>intro h;first | rfl | cases h
theorem R0{fn:Func}{r:AV}[w:Wk c fn (·=r)](h:nxR c.tb c.n fn.results.toList s=some (r,H):=by exact rfl)(hp:(plain r&&Xkz r)=true:=by exact rfl): StP c s:=by
 rw[W0g] at hp
 exact Rt (Q:=(·=r)) h (.one (.rf (Xun hp.2)) hp.1 hp.1) rfl
end
theorem Yel{g:Hp}{K:Hpl}: ∀ {a:AV},Xde K a=true->FitT g K a a:=by
 intro a
 induction a with
 | pr a c _ ih=>intro h;simp only[Xde,W0g] at h;exact .cons (.rf h.1) (ih h.2)
 | _=>intro h;exact .one (.rf h) nofun nofun
theorem R0t{c:Cx}{s:St}{H:Hpl}{fn:Func}{r:AV}[w:Wk c fn (·=.tup r)](h:nxR c.tb c.n fn.results.toList s=some (.tup r,H):=by exact rfl)(hp:Xkz r=true:=by exact rfl): StP c s :=
 Rt (Q:=(·=.tup r)) h (.tup (Yel (Xun hp))) rfl
theorem RTt{c:Cx}{s:St}{H:Hpl}{fn:Func}{a r:AV}[w:Wk c fn (·=.tup r)](h:nxR c.tb c.n fn.results.toList s=some (.tup a,H))(hf:FitT (look H) [] a r): StP c s :=
 Rt (Q:=(·=.tup r)) h (.tup hf) rfl
def Yf0: Nat->List AV->Env
 | _,[]=>[]
 | i,v::vs=>(i,v)::Yf0 (i+1) vs
theorem Xlm: ∀(asx:List AV) (i:Nat),Xz4 i asx=look (Yf0 i asx)
 | [],i=>rfl
 | a::asx,i=>by rw[Xz4,Xlm asx,Xa2];rfl
abbrev cx(P:Program)(gb:Gb P)(t:Tab P)(m:Mx P)(hpr:∀T ti,t.tb T=some ti->∀a c,ti.z≠.pr a c)(n:Nat)(hn:n<=1000000)(fn:Func)(W:GW)(Q:AV->Prop)(hg:gb.g W): Cx:=⟨P,gb,t.tb,λT ti h=>⟨t.ok T ti h,hpr T ti h⟩,m,n,hn,W,λ_=>False,θe,bodyPost P fn (Ret W Q),hg⟩
instance {P gb t m hpr n hn fn W Q hg}:Wk (cx P gb t m hpr n hn fn W Q hg) fn Q:=⟨rfl,rfl⟩
class Npr (P:Program) [t:Tab P]:Prop where
 h:∀T ti,t.tb T=some ti->∀a c,ti.z≠.pr a c
theorem En {P : Program} [gb : Gb P] [t : Tab P] [hp : Npr P] [m : Mx P] {f n : Nat} {fn : Func} {x : Code} {args : List AV} {Q : AV → Prop} (hf : P.funcs[f]? = some fn) (h : ∀ W hg hn, StP (cx P gb t m hp.h n hn fn W Q hg) (.j [] [.c x] (Yf0 0 args) [])) (hname : (fn.name == "runtime.NumGoroutine") = false := by exact rfl) (hb : fn.body = some x := by exact rfl)
 (hN:fn.ntmps=n:=by exact rfl) (hl:(Nat.ble args.length n&&Nat.ble n 1000000&&args.all Xkz)=true:=by exact rfl):C P f args Q :=
 C.enter hp.h hf hname hb hN hl λW hg=>by
  have:=h W hg (by simp only[W0g] at hl;exact W1g hl.1.2)
  simp only[StP,sem,<-Xlm] at this
  exact this
end
section
def chD(x:D): Nat->D
 | 0=>x
 | n+1=>.pr x (chD x n)
def eqV: Value->Value->Bool
 | .int k z,.int k' z'=>k==k'&&z==z'
 | .bool b,.bool b'=>b==b'
 | .string s,.string s'=>Nat.beq s.size 0&&Nat.beq s'.size 0
 | .slice none 0 0,.slice none 0 0=>true
 | .pointer none,.pointer none=>true
 | .nilFunc,.nilFunc=>true
 | .nilIface,.nilIface=>true
 | _,_=>false
def Yi3: List Value->List Value->Bool
 | [],[]=>true
 | v::vs,w::ws=>eqV v w&&Yi3 vs ws
 | _,_=>false
theorem Ygt{s:ByteArray}(h:s.size=0): s=ByteArray.empty:=by
 cases s with | mk d =>
 have:d=#[]:=Array.eq_empty_of_size_eq_zero h
 subst this;rfl
theorem Yi4{v w:Value}(h:eqV v w=true): v=w:=by
 unfold eqV at h
 split at h<;>first
  | rfl
  | (cases h;done)
  | (simp only[W0g,beq_iff_eq] at h;obtain⟨h1,h2⟩:=h;first | (rw[h1,h2];done) | (rw[Ygt (W0e h1),Ygt (W0e h2)]))
  | (simp only[beq_iff_eq] at h;rw[h])
theorem Xor: ∀ {v w:List Value},Yi3 v w=true->v=w
 | [],[],_=>rfl
 | v::vs,w::ws,h=>by
  simp only[Yi3,W0g] at h
  rw[Yi4 h.1,Xor h.2]
 | [],_::_,h=>by cases h
 | _::_,[],h=>by cases h
def Xzl(P:Program)(E:TypeId)(z:D)(by':Nat): Bool:=match P.info? E with
 | some i=>Nat.beq i.size z.size&&Nat.beq i.bytes by'&&(match i.zero with
  | some v=>Yi3 v.cells.toList z.zc
  | none=>false)
 | none=>false
def Xlc(P:Program): Nat->List Field->List D->Bool
 | _,[],[]=>true
 | o,f::fs,c::l=>Nat.beq f.offset o&&(match P.info? f.type,P.underlying f.type with
  | some i,some t=>Nat.beq i.size c.size&&(Xz6 t==c.ag)&&(c.ag||Nat.beq c.size 1)
  | _,_=>false)&&Xlc P (o+c.size) fs l
 | _,_,_=>false
def Yo1: D->Bool
 | .pr _ _=>true
 | _=>false
def Xvj: Value->Bool
 | .agg _=>true
 | _=>false
def Yic(P:Program)(ti:TI)(t:TypeDesc): Bool:=match ti.e,t with
 | .int k _,.slice E=>match P.underlying E with
  | some (.int k')=>k==k'
  | _=>false
 | _,_=>true
def Ya0(P:Program)(ti:TI)(t:TypeDesc): Bool:=match ti.z,t with
 | .int k _,.int k'=>k==k'
 | .bool _,.bool=>true
 | .str _,.string=>true
 | .sl sz _,.slice E=>Nat.beq sz ti.e.size&&ti.e.isZ&&Xzl P E ti.e ti.eb
 | .st z,.struct fs=>Nat.beq ti.arr 0&&Xlc P 0 fs.toList z.comps
 | .st _,.array n E=>Nat.beq n ti.arr && !(Nat.beq n 0)&&Xzl P E ti.e ti.eb
 | .raw _,_=>true
 | _,_=>false
def tyB(P:Program)(T:TypeId)(ti:TI): Bool:=match P.info? T,P.underlying T with
 | some i,some t=>Nat.beq i.size ti.z.size&&(match i.zero with
  | some v=>Yi3 v.cells.toList ti.z.zc&&(Xvj v==ti.z.ag)
  | none=>false)&&ti.z.isZ&&(Xz6 t==ti.z.ag)&&Ya0 P ti t && !(Yo1 ti.z)&&Yic P ti t
 | _,_=>false
section
variable{P:Program}
theorem Xq1{E:TypeId}{z:D}{b:Nat}(h:Xzl P E z b=true): Yna P E z b:=by
 unfold Xzl at h
 split at h<;>try cases h
 rename_i i hi
 simp only[W0g] at h
 obtain⟨⟨h1,h2⟩,h3⟩:=h
 split at h3<;>try cases h3
 rename_i v hv
 exact⟨i,v,hi,W0e h1,W0e h2,hv,Xor h3⟩
theorem Xjx: ∀ {fs:List Field} {l:List D} {o:Nat},Xlc P o fs l=true->fs.length=l.length/\∀(f:Nat) c,l[f]?=some c ->
 ∃g i,fs[f]?=some g/\g.offset=o+Xha l f/\P.info? g.type=some i/\i.size=c.size/\∃t,P.underlying g.type=some t/\Xz6 t=c.ag/\(c.ag=false->c.size=1)
 | [],[],_,_=>⟨rfl,λf c h=>by simp at h⟩
 | f::fs,x::l,o,h=>by
  simp only[Xlc,W0g] at h
  obtain⟨⟨h1,h2⟩,h3⟩:=h
  obtain⟨k1,k2⟩:=Xjx h3
  refine⟨by simp[k1],λn c hc=>?_⟩
  cases n with
  | zero =>
   simp at hc;subst hc
   split at h2<;>try cases h2
   rename_i i t hi ht
   simp only[W0g,W3q,beq_iff_eq] at h2
   obtain⟨⟨a1,a2⟩,a3⟩:=h2
   exact⟨f,i,rfl,by rw[W0e h1];rfl,hi,W0e a1,t,ht,a2,λe=>by
    rcases a3 with a3 | a3
    . rw[e] at a3;cases a3
    . exact W0e a3⟩
  | succ n =>
   obtain⟨g,i,b1,b2,b3⟩:=k2 n c (by simpa using hc)
   exact⟨g,i,by simpa using b1,by rw[b2,Xha];omega,b3⟩
 | [],_::_,_,h=>by cases h
 | _::_,[],_,h=>by cases h
theorem Yge{T:TypeId}{ti:TI}(h:tyB P T ti=true): TyOk P T ti/\∀a c,ti.z≠.pr a c:=by
 unfold tyB at h
 split at h<;>try cases h
 rename_i i t hi ht
 simp only[W0g,beq_iff_eq,W1u] at h
 obtain⟨⟨⟨⟨⟨⟨h1,h2⟩,h3⟩,h4⟩,h5⟩,h6⟩,hk⟩:=h
 split at h2<;>try cases h2
 rename_i v hv
 obtain⟨h7,h8⟩:=(W0g _ _).mp h2
 have h7:=Xor h7
 have h8:Xvj v=ti.z.ag:=by simpa using h8
 have hkk:∀E k z,P.underlying T=some (.slice E)->ti.e=.int k z->P.underlying E=some (.int k):=λE k z hE he=>by
  rw[ht] at hE;injection hE with hE;subst hE
  unfold Yic at hk
  rw[he] at hk
  simp only at hk
  split at hk
  . rename_i h;rw[h];simp only[beq_iff_eq] at hk;rw[hk]
  . cases hk
 refine⟨⟨hkk,⟨i,v,hi,W0e h1,hv,h7,?_⟩,h3,t,ht,h4,?_⟩,λa c e=>by rw[e] at h6;cases h6⟩
 . rw[<-h8,<-h7]
   cases v<;>simp[Xvj,mkv,Value.cells]
 . unfold Ya0 at h5
   split at h5
   . rename_i e;rw[e];simp only[beq_iff_eq] at h5;rw[h5]
   . rename_i e;rw[e]
   . rename_i e;rw[e]
   . rename_i e;rw[e]
     simp only[W0g] at h5
     exact⟨_,rfl,W0e h5.1.1,h5.1.2,Xq1 h5.2⟩
   . rename_i fs e;rw[e]
     simp only[W0g] at h5
     have e0:=W0e h5.1
     obtain⟨k1,k2⟩:=Xjx h5.2
     simp only[e0,if_true]
     exact⟨_,rfl,by simpa using k1,λf c hc=>by
      obtain⟨g,i,b1,b2,b3⟩:=k2 f c hc
      exact⟨g,i,by simpa using b1,by rw[b2];omega,b3⟩⟩
   . rename_i n E e;rw[e]
     simp only[W0g,W1u] at h5
     have e0:=W0e h5.1.1
     have e1:n≠0:=λe=>by rw[e] at h5;exact absurd h5.1.2 (by decide)
     simp only[<-e0,e1,if_false]
     exact⟨_,rfl,Xq1 h5.2⟩
   . rename_i e;rw[e];trivial
   . cases h5
theorem Yaw{l:List (Nat×TI)}(h:(l.all λx=>tyB P x.1 x.2)=true): ∀T ti,look l T=some ti->TyOk P T ti/\∀a c,ti.z≠.pr a c:=by
 intro T ti ht
 have:(T,ti)∈l:=by
  clear h
  induction l with
  | nil=>simp[look] at ht
  | cons x l ih =>
   obtain⟨S,si⟩:=x
   simp only[look] at ht
   split at ht
   . rename_i hb;injection ht with ht;subst ht;rw[W0e hb];exact W0l ..
   . exact W0p _ (ih ht)
 exact Yge (W1n.1 h _ this)
end
end
section
structure Pl where
 G:List (Nat×Bool)
 dr:Bool
 L:List Oper
 l:List Oper
 K:List Kt
 E:Env
 H:Hpl
 d:Option Nat
def Pl.st: Pl->AV->St
 | ⟨G,dr,L,l,K,E,H,some d⟩,v=>.o ((d,false)::G) dr L l K ((d,v)::E) H
 | ⟨G,dr,L,l,K,E,H,none⟩,v=>.o G dr L l K E H
def Pl.st': Pl->AV->Hpl->St
 | ⟨G,dr,L,l,K,E,H,some d⟩,v,us=>apH us H λH=>.o ((d,false)::G) dr L l K ((d,v)::E) H
 | ⟨G,dr,L,l,K,E,H,none⟩,v,us=>apH us H λH=>.o G dr L l K E H
def Pl.nx(c:Cx)(p:Pl)(v:AV): Prop:=StP c (p.st v)
def Pl.nx'(c:Cx)(p:Pl)(v:AV)(us:Hpl): Prop:=StP c (p.st' v us)
theorem Pl.nx_eq{c:Cx}{p:Pl}{v:AV}: p.nx c v↔StP c (.o (Yob p.G p.d) p.dr p.L p.l p.K (Xsl p.E p.d v) p.H):=by
 obtain⟨G,dr,L,l,K,E,H,d⟩:=p
 cases d<;>exact W3x
theorem Pl.nx'_eq{c:Cx}{p:Pl}{v:AV}{us:Hpl}: p.nx' c v us↔StP c (.o (Yob p.G p.d) p.dr p.L p.l p.K (Xsl p.E p.d v) (us++p.H)):=by
 obtain⟨G,dr,L,l,K,E,H,d⟩:=p
 cases d<;>(simp only[Pl.nx',Pl.st',Xxd];exact W3x)
theorem Pl.nx_nil{c:Cx}{p:Pl}{v:AV}(h:p.nx c v): p.nx' c v []:=by
 obtain⟨G,dr,L,l,K,E,H,d⟩:=p
 cases d<;>exact h
noncomputable def nxO(tb:Nat->Option TI)(n:Nat)(s:St): Option (Pl×Oper):=match runN tb n 1000 s with
 | .o G dr L (o::l) K E H=>match Yc5 G L E o with
  | true=>match want L o (sem E H) with
   | some true=>some (⟨G,dr,L,l,K,E,H,o.dst⟩,o)
   | _=>none
  | false=>none
 | _=>none
noncomputable def nxC(tb:Nat->Option TI)(n:Nat)(s:St): Option (Pl×FuncId×List AV):=match nxO tb n s with
 | some (p,o)=>match o.op with
  | .call ⟨.value x,asx,tys⟩=>match callee (look p.E) x,getEs (look p.E) asx.toList with
   | some (f,[]),some vs=>match (Xi8 tb tys.toList vs).all Xkz with
    | true=>some (p,f,Xi8 tb tys.toList vs)
    | false=>none
   | _,_=>none
  | _=>none
 | none=>none
section
variable{c:Cx}{s:St}{p:Pl}
theorem Xme{o:Oper}(h:nxO c.tb c.n s=some (p,o))(k:Wo c.P c.tb p.dr p.L o (WL c.P c.tb p.dr p.L (J c p.K) p.l) (sem p.E p.H)): StP c s:=by
 unfold nxO at h
 split at h<;>try cases h
 rename_i hr
 split at h<;>try cases h
 split at h<;>cases h
 exact go 1000 hr k
theorem Xul{o:Oper}(h:nxO c.tb c.n s=some (p,o)): want p.L o (sem p.E p.H)=some true/\p.d=o.dst:=by
 unfold nxO at h
 split at h<;>try cases h
 split at h<;>try cases h
 split at h<;>cases h
 rename_i hw
 exact⟨hw,rfl⟩
theorem Ca{f:FuncId}{args:List AV}{Q:AV->Prop}(h:nxC c.tb c.n s=some (p,f,args))(hc:C c.P f args Q)(k:∀v,Q v->p.nx c v): StP c s:=by
 unfold nxC at h
 split at h<;>try cases h
 rename_i p' o ho
 obtain⟨hw,hd⟩:=Xul ho
 split at h<;>try cases h
 rename_i x asx tys he
 split at h<;>try cases h
 rename_i f' vs hf hvs
 split at h<;>cases h
 rename_i hi
 refine Xme ho (.inl ⟨hw,?_⟩)
 unfold Wb
 rw[he]
 refine⟨f,[],vs,hf,hvs,?_⟩
 rw[W4l]
 have kk:∀v,Q v->WL c.P c.tb p.dr p.L (J c p.K) p.l (S.put (sem p.E p.H) o.dst v):=λv hv=>by
  have:=Xfa p.E p.H [] o.dst v
  rw[show S.put (sem p.E p.H) o.dst v=sem (Xsl p.E o.dst v) p.H from this,<-hd]
  exact Pl.nx_eq.1 (k v hv)
 generalize WL c.P c.tb p.dr p.L (J c p.K) p.l=R at kk |-
 cases p.dr with
 | true =>
  refine⟨false,λ_=>none,λr=>Q r.1,⟨λh=>(nomatch h),λi y h=>(nomatch h),λg _ _=>?_⟩,λr hr hq=>?_⟩
  . obtain⟨h1,h2⟩:=hc.cs hi g
    refine⟨h1,λN W θ vs a0 a1 a2 a3 a4=>(h2 N W θ vs a0 a1 a2 a3 a4).mono ?_⟩
    rintro e w' ⟨W',θ',v,u,g',b1,b2,b3,b4,b5,rfl,b6⟩
    exact⟨W',θ',v,u,_,b1,b2,b3,b4,b5,[],.inl rfl,rfl,b6⟩
  . rcases hr with hr | ⟨h,_⟩
    . unfold aft;rw[hr];exact kk r.1 hq
    . cases h
 | false=>exact⟨_,_,.inl rfl,by rw[W4l];exact hc.cs hi _,λv g' hv=>by rw[hv.1];exact kk v hv.2⟩
theorem Ce{f:FuncId}{args:List AV}{r:AV}(h:nxC c.tb c.n s=some (p,f,args))(hc:C c.P f args (·=r))(k:p.nx c r): StP c s:=Ca h hc λv hv=>by rw[show v=r from hv];exact k
theorem Yhl{o:Oper}{v:AV}{us:Hpl}(h:nxO c.tb c.n s=some (p,o))(hc:Xap o=false)(he:eff c.tb o (sem p.E p.H)=some (v,us))(k:p.nx' c v us): StP c s:=by
 obtain⟨hw,hd⟩:=Xul h
 refine Xme h (Xle hw hc he ?_)
 rw[<-hd];exact Pl.nx'_eq.1 k
noncomputable def nxA(tb:Nat->Option TI)(n:Nat)(s:St): Option (Pl×Oper×List AV):=match nxO tb n s with
 | some (p,o)=>match getEs (look p.E) o.op.operands.toList,Xap o||(Xd1 o.op&&o.dst.isSome) with
  | some asx,false=>some (p,o,asx)
  | _,_=>none
 | none=>none
theorem Xbr{o:Oper}{asx:List AV}{v:AV}{us:Hpl}(h:nxA c.tb c.n s=some (p,o,asx))(hF:F c.tb (o.dst.getD 0) (look p.H) o.op asx=some (v,us))(k:p.nx' c v us): StP c s:=by
 unfold nxA at h
 split at h<;>try cases h
 rename_i p' o' ho
 split at h<;>cases h
 rename_i hb has
 rw[Bool.or_eq_false_iff] at hb
 refine Yhl ho hb.1 ?_ k
 unfold eff
 rw[has]
 simp only[hb.2]
 exact hF
def inK: IntKind->Int->Prop
 | .i8,x=>-128<=x/\x<128
 | .i16,x=>-32768<=x/\x<32768
 | .i32,x=>-2147483648<=x/\x<2147483648
 | .i64,x=>-9223372036854775808<=x/\x<9223372036854775808
 | .u8,x=>0<=x/\x<256
 | .u16,x=>0<=x/\x<65536
 | .u32,x=>0<=x/\x<4294967296
 | .u64,x=>0<=x/\x<18446744073709551616
theorem wr{k:IntKind}{x r:Int}(e:x=r)(h:inK k r): k.wrap x=r:=by
 subst e
 cases k<;>simp only[inK] at h<;>simp[IntKind.wrap,IntKind.bits,IntKind.signed]<;>omega
def arB(op:BinOp)(k:IntKind)(a b r:Int): Prop:=match op with
 | .add=>k.wrap (a+b)=r
 | .sub=>k.wrap (a-b)=r
 | .mul=>k.wrap (a*b)=r
 | .quo=>b≠0/\k.wrap (a.tdiv b)=r
 | .rem=>b≠0/\a.tmod b=r
 | .and=>k.wrap (BitVec.ofInt k.bits a&&&BitVec.ofInt k.bits b).toNat=r
 | .andNot=>k.wrap (BitVec.ofInt k.bits a &&& ~~~BitVec.ofInt k.bits b).toNat=r
 | .or=>k.wrap (BitVec.ofInt k.bits a|||BitVec.ofInt k.bits b).toNat=r
 | .shl=>0<=b/\k.wrap (a*2^(min b.toNat k.bits))=r
 | .shr=>0<=b/\a.fdiv (2^(min b.toNat k.bits))=r
 | _=>False
noncomputable def nxI(tb:Nat->Option TI)(n:Nat)(s:St): Option (Pl×BinOp×IntKind×Int×Int):=match nxA tb n s with
 | some (p,o,[.d (.int k a),.d (.int k' b)])=>match o.op with
  | .binOp op _ _ _ _=>match op with
   | .shl=>some (p,op,k,a,b)
   | .shr=>some (p,op,k,a,b)
   | op=>if k=k' then some (p,op,k,a,b) else none
  | _=>none
 | _=>none
theorem Ar{op:BinOp}{k:IntKind}{a b:Int}(r:Int)(h:nxI c.tb c.n s=some (p,op,k,a,b))(kk:p.nx c (.d (.int k r)))(hr:arB op k a b r:=by exact wr (by omega) (by simp only[inK];omega)): StP c s:=by
 have key:∀ {o:Oper} {k':IntKind},nxA c.tb c.n s=some (p,o,[.d (.int k a),.d (.int k' b)])->(∃T x y T',o.op=.binOp op T x y T')->(op=.shl\/op=.shr\/k=k')->StP c s:=by
  rintro o k' hA ⟨T,x,y,T',ho⟩ hk
  refine Xbr (v:=.d (.int k r)) (us:=[]) hA ?_ (Pl.nx_nil kk)
  rw[ho]
  show (match Fp c.tb (.binOp op T x y T') [.d (.int k a),.d (.int k' b)] with | some v=>some (v,[]) | none=>none)=_
  have:Fp c.tb (.binOp op T x y T') [.d (.int k a),.d (.int k' b)]=some (.d (.int k r)):=by
   show Yaf (c.tb T) op y (.d (.int k a)) (.d (.int k' b))=_
   cases op<;>simp only[arB] at hr<;>first | exact hr.elim | skip
   all_goals simp only[Yaf,Yks]
   case shl=>rw[if_neg (by omega),hr.2]
   case shr=>rw[if_neg (by omega),hr.2]
   case quo=>rw[if_pos ((hk.resolve_left nofun).resolve_left nofun),if_neg hr.1,hr.2]
   case rem=>rw[if_pos ((hk.resolve_left nofun).resolve_left nofun),if_neg hr.1,hr.2]
   all_goals rw[if_pos ((hk.resolve_left nofun).resolve_left nofun),hr]
  rw[this]
 unfold nxI at h
 split at h<;>try cases h
 rename_i p' o k1 a1 k2 b1 hA
 split at h<;>try cases h
 rename_i op' T x y T' ho
 split at h
 . cases h;exact key hA ⟨_,_,_,_,ho⟩ (.inl rfl)
 . cases h;exact key hA ⟨_,_,_,_,ho⟩ (.inr (.inl rfl))
 . split at h<;>cases h
   rename_i hk
   exact key hA ⟨_,_,_,_,ho⟩ (.inr (.inr hk))
noncomputable def nxV(tb:Nat->Option TI)(n:Nat)(s:St): Option (Pl×IntKind×Int):=match nxA tb n s with
 | some (p,o,[.d (.int _ a)])=>match o.op with
  | .convert S T _=>match tb S,tb T with
   | some _,some ⟨.int k _,_,_,_⟩=>some (p,k,a)
   | _,_=>none
  | _=>none
 | _=>none
theorem Cv{k:IntKind}{a:Int}(r:Int)(h:nxV c.tb c.n s=some (p,k,a))(kk:p.nx c (.d (.int k r)))(hr:k.wrap a=r:=by exact wr (by omega) (by simp only[inK];omega)): StP c s:=by
 unfold nxV at h
 split at h<;>try cases h
 rename_i p' o k1 a1 hA
 split at h<;>try cases h
 rename_i S T x ho
 split at h<;>cases h
 rename_i h1 h2
 refine Xbr (v:=.d (.int k r)) (us:=[]) hA ?_ (Pl.nx_nil kk)
 rw[ho]
 simp only[F,Fp,h1,h2,hr]
noncomputable def nxX(tb:Nat->Option TI)(n:Nat)(s:St): Option (Pl×List D×Int):=match nxA tb n s with
 | some (p,o,[a,.d (.int _ j)])=>match o.op with
  | .indexAddr T _ _=>match tb T with
   | some ⟨.sl _ _,e,_,_⟩=>match a with
    | .d (.sl sz xs)=>match Nat.beq sz e.size with
     | true=>some (p,xs,j)
     | false=>none
    | .gr _ sz xs=>match Nat.beq sz e.size with
     | true=>some (p,xs,j)
     | false=>none
    | .lit sz xs=>match Nat.beq sz e.size with
     | true=>some (p,xs,j)
     | false=>none
    | _=>none
   | _=>none
  | _=>none
 | _=>none
theorem Ix(i:Nat){xs:List D}{j:Int}{u:D}(h:nxX c.tb c.n s=some (p,xs,j))(hu:xs[i]?=some u)(kk:p.nx c (.at u))(hj:j=(i:Int):=by first | exact rfl | omega): StP c s:=by
 subst hj
 unfold nxX at h
 split at h<;>try cases h
 rename_i p' o a k1 j1 hA
 split at h<;>try cases h
 rename_i T x y ho
 split at h<;>try cases h
 rename_i e eb ar ht
 split at h<;>try cases h
 all_goals
  split at h<;>cases h
  rename_i hz
  have hz:=W0e hz
  refine Xbr (v:=.at u) (us:=[]) hA ?_ (Pl.nx_nil kk)
  rw[ho]
  simp[F,Fp,ht,ixA,ixA.ixL,hz,hu]
end
end
section
section
variable{c:Cx}{s:St}{p:Pl}
noncomputable def nxP(tb:Nat->Option TI)(n:Nat)(s:St): Option (Pl×Nat×Nat×List D×AV):=match nxA tb n s with
 | some (p,o,[a,b])=>match o.op with
  | .call ⟨.builtin .append,_,⟨[T,T']⟩⟩=>match Nat.beq T T',tb T,look p.H (o.dst.getD 0) with
   | true,some ti,none=>match Nat.ble ti.eb 128,ti.z,b with
    | true,.sl sz _,.d (.sl s ys)=>match Nat.beq s sz with
     | true=>some (p,o.dst.getD 0,sz,ys,a)
     | false=>none
    | true,.sl sz _,.nil=>some (p,o.dst.getD 0,sz,[],a)
    | true,.sl sz _,.gr _ s ys=>match Nat.beq s sz with
     | true=>some (p,o.dst.getD 0,sz,ys,a)
     | false=>none
    | true,.sl sz _,.lit s ys=>match Nat.beq s sz with
     | true=>some (p,o.dst.getD 0,sz,ys,a)
     | false=>none
    | _,_,_=>none
   | _,_,_=>none
  | _=>none
 | _=>none
theorem Xqd{d sz:Nat}{ys:List D}{a v:AV}{us:Hpl}(h:nxP c.tb c.n s=some (p,d,sz,ys,a))(hF:∀ti:TI,ti.eb<=128->Xlt d (look p.H) ti sz ys a=some (v,us))(k:p.nx' c v us): StP c s:=by
 unfold nxP at h
 split at h<;>try cases h
 rename_i p' o a' b hA
 split at h<;>try cases h
 rename_i asx T T' ho
 split at h<;>try cases h
 rename_i ti hT hti hd
 have hT:=W0e hT
 subst hT
 have fin:∀ {sz' ys' xs0},ti.eb<=128->ti.z=.sl sz' xs0->Xkl (look p'.H) ti.z sz' b=some ys'->(p',o.dst.getD 0,sz',ys',a')=(p,d,sz,ys,a)->StP c s:=by
  intro sz' ys' xs0 he hz hs e
  injection e with e1 e2;injection e2 with e2 e3;injection e3 with e3 e4;injection e4 with e4 e5
  subst e1;subst e2;subst e3;subst e4;subst e5
  refine Xbr hA ?_ k
  rw[ho]
  simp only[F,if_true,hti,hd,hz]
  rw[hz] at hs
  rw[hs]
  exact hF ti he
 split at h
 . rename_i he hz
   split at h<;>cases h
   rename_i hs
   have hs:=W0e hs
   exact fin (W1g he) hz (by simp[Xkl,toD,hs]) rfl
 . rename_i he hz
   cases h
   exact fin (W1g he) hz (by simp[Xkl,hz,toD]) rfl
 . rename_i he hz
   split at h<;>cases h
   rename_i hs
   have hs:=W0e hs
   exact fin (W1g he) hz (by simp[Xkl,toD,hs]) rfl
 . rename_i he hz
   split at h<;>cases h
   rename_i hs
   have hs:=W0e hs
   exact fin (W1g he) hz (by simp[Xkl,toD,hs]) rfl
 . cases h
theorem Xc6{n:Nat}{ti:TI}(h:n<=1099511627776)(he:ti.eb<=128): Xh5 n ti:=⟨by
 have:=W2b h he;omega,by omega⟩
theorem ApG{d sz o:Nat}{xs ys:List D}(zs:List D)(h:nxP c.tb c.n s=some (p,d,sz,ys,.gr o sz xs))(hz:xs++ys=zs)(hr:zs.length<=1099511627776)(k:p.nx' c (.gr d sz zs) [(d,.tok zs.length sz),(o,.dead)])(ht:look p.H o=some (.tok xs.length sz):=by exact rfl): StP c s:=by
 subst hz
 exact Xqd h (λti he=>by simp[Xlt,ht,Xc6 (by simpa using hr) he]) k
theorem ApL{d sz:Nat}{xs ys:List D}(zs:List D)(h:nxP c.tb c.n s=some (p,d,sz,ys,.lit sz xs))(hz:xs++ys=zs)(h0:0<ys.length)(hr:zs.length<=1099511627776)(k:p.nx' c (.own d sz 0 zs.length) [(d,.arr sz zs)]): StP c s:=by
 subst hz
 exact Xqd h (λti he=>by simp[Xlt,h0,Xc6 (by simpa using hr) he]) k
theorem ApE{d sz:Nat}{xs ys:List D}(h:nxP c.tb c.n s=some (p,d,sz,ys,.lit sz xs))(h0:ys.length=0)(hr:xs.length<=1099511627776)(k:p.nx' c (.lit sz xs) []): StP c s :=
 Xqd h (λti he=>by simp[Xlt,h0,Xc6 (by simpa using hr) he]) k
theorem ApO{d sz o n:Nat}{xs ys:List D}(zs:List D)(h:nxP c.tb c.n s=some (p,d,sz,ys,.own o sz 0 n))(ht:look p.H o=some (.arr sz xs))(hn:n=xs.length)(hz:xs++ys=zs)(hr:zs.length<=1099511627776)(k:p.nx' c (.own d sz 0 zs.length) [(d,.arr sz zs),(o,.dead)]): StP c s:=by
 subst hz
 exact Xqd h (λti he=>by subst hn;simp[Xlt,ht,Xc6 (by simpa using hr) he]) k
def Xsj{α:Type _}(E E':List (Nat×α)): Prop:=E'.map (λx=>look E x.1)=E'.map λx=>some x.2
theorem Xbd{α:Type _}: ∀ {E:List (Nat×α)} {t:Nat} {v:α},look E t=some v->(t,v)∈E
 | [],_,_,h=>by simp[look] at h
 | (s,w)::E,t,v,h=>by
  simp only[look] at h
  split at h
  . rename_i hb;injection h with h;subst h;rw[W0e hb];exact W0l ..
  . exact W0p _ (Xbd h)
theorem Xkj{α:Type _}{E E':List (Nat×α)}(h:Xsj E E'){t:Nat}{v:α}(hv:look E' t=some v): look E t=some v:=by
 have hm:=Xbd hv
 unfold Xsj at h
 have:=W5s.1 h _ hm
 exact this
def Xim(H:Hpl): Ob->Bool
 | .var a=>Xde H a
 | _=>true
def Xm8(E:Env)(H:Hpl): Bool:=(E.all λx=>Xde H x.2)&&H.all λx=>Xim H x.2
theorem Xm7{E:Env}{H:Hpl}(h:Xm8 E H=true): Xxm (sem E H):=by
 simp only[Xm8,W0g] at h
 refine⟨λt v i hv hi=>Xf9 (W1n.1 h.1 _ (Xbd hv)) i hi,λo x i hx hi=>?_⟩
 have:=W1n.1 h.2 _ (Xbd hx)
 cases x with
 | var a=>exact Xf9 (a:=a) this i hi
 | _=>exact hi.elim
theorem Yon{K:List Kt}{E E':Env}{H H':Hpl}(hE:Xsj E E')(hH:Xsj H H')(hc:Xm8 E' H'=true)(k:J c K (sem E' H')): J c K (sem E H) :=
 J.sub _ (λt v h=>Xkj hE h) (λo x h=>Xkj hH h) (Xm7 hc) k
def rnN(o o' i:Nat): Nat:=match Nat.beq i o with
 | true=>o'
 | false=>i
def AV.ren(o o':Nat): AV->AV
 | .st a=>.st (a.ren o o')
 | .pr a c=>.pr (a.ren o o') (c.ren o o')
 | .tup a=>.tup (a.ren o o')
 | .fm f a=>.fm f (a.ren o o')
 | .ptr i f=>.ptr (rnN o o' i) f
 | .own i sz l n=>.own (rnN o o' i) sz l n
 | .ow3 i sz l n=>.ow3 (rnN o o' i) sz l n
 | .gr i sz xs=>.gr (rnN o o' i) sz xs
 | .el i sz j f=>.el (rnN o o' i) sz j f
 | .fn f i=>.fn f (rnN o o' i)
 | .ap i n=>.ap (rnN o o' i) n
 | .cx i l n=>.cx (rnN o o' i) l n
 | a=>a
def Ob.ren(o o':Nat): Ob->Ob
 | .var a=>.var (a.ren o o')
 | x=>x
def Ydc(o o':Nat)(E:Env): Env:=E.map λx=>(x.1,x.2.ren o o')
def Xt2(o o':Nat)(H:Hpl): Hpl:=H.map λx=>(rnN o o' x.1,x.2.ren o o')
def rnθ(o o':Nat)(θ:Loc): Loc:=λi=>if i=o' then θ o else θ i
theorem Xa3{o o' i:Nat}{θ:Loc}(h:i≠o'): rnθ o o' θ (rnN o o' i)=θ i:=by
 unfold rnθ rnN
 cases e:Nat.beq i o with
 | true=>rw[W0e e];simp
 | false=>exact if_neg h
theorem Yg9{W:GW}{θ:Loc}{o o':Nat}: ∀ {a:AV} {cs:List Value},¬a.ids o'->AV.C W θ a cs->AV.C W (rnθ o o' θ) (a.ren o o') cs:=by
 intro a
 induction a with
 | st a ih=>intro cs hi h;exact ih hi h
 | pr a c iha ihc=>intro cs hi ⟨u,v,e,h1,h2⟩;exact⟨u,v,e,iha (λh=>hi (.inl h)) h1,ihc (λh=>hi (.inr h)) h2⟩
 | ptr i f=>intro cs hi ⟨b,h1,h2⟩;exact⟨b,by rw[Xa3 (λe=>hi e.symm)];exact h1,h2⟩
 | own i sz l n=>intro cs hi ⟨b,p,h1,h2,h3,h4,h5⟩;exact⟨b,p,by rw[Xa3 (λe=>hi e.symm)];exact h1,by rw[Xa3 (λe=>hi e.symm)];exact h2,by rw[Xa3 (λe=>hi e.symm)];exact h3,by rw[Xa3 (λe=>hi e.symm)];exact h4,by rw[Xa3 (λe=>hi e.symm)];exact h5⟩
 | ow3 i sz l n=>intro cs hi ⟨b,p,h1,h2,h3,h4,h5⟩;exact⟨b,p,by rw[Xa3 (λe=>hi e.symm)];exact h1,by rw[Xa3 (λe=>hi e.symm)];exact h2,by rw[Xa3 (λe=>hi e.symm)];exact h3,h4,h5⟩
 | gr i sz xs=>intro cs hi ⟨p,h1,h2,h3,h4,h5⟩;exact⟨p,by rw[Xa3 (λe=>hi e.symm)];exact h1,by rw[Xa3 (λe=>hi e.symm)];exact h2,by rw[Xa3 (λe=>hi e.symm)];exact h3,by rw[Xa3 (λe=>hi e.symm)];exact h4,by rw[Xa3 (λe=>hi e.symm)];exact h5⟩
 | el i sz j f=>intro cs hi ⟨b,h1,h2⟩;exact⟨b,by rw[Xa3 (λe=>hi e.symm)];exact h1,h2⟩
 | fn f i=>intro cs hi ⟨b,h1,h2⟩;exact⟨b,by rw[Xa3 (λe=>hi e.symm)];exact h1,h2⟩
 | fm f a ih=>intro cs hi ⟨vs,h1,h2⟩;exact⟨vs,ih hi h1,h2⟩
 | ap i n=>intro cs hi ⟨b,h1,h2,h3⟩;exact⟨b,by rw[Xa3 (λe=>hi e.symm)];exact h1,by rw[Xa3 (λe=>hi e.symm)];exact h2,h3⟩
 | cx i l n=>intro cs hi ⟨h1,h2⟩;exact⟨h1,by rw[Xa3 (λe=>hi e.symm)];exact h2⟩
 | _=>intro cs hi h;exact h
theorem Yha{o o':Nat}(a:AV): (a.ren o o').ag=a.ag:=by cases a<;>rfl
theorem Xp7{W:GW}{θ:Loc}{o o':Nat}{a:AV}{v:Value}(hi:¬a.ids o')(h:AV.V1 W θ a v): AV.V1 W (rnθ o o' θ) (a.ren o o') v:=by
 obtain⟨cs,hc,e⟩:=h;exact⟨cs,Yg9 hi hc,by rw[e,Yha]⟩
theorem Ylp{W:GW}{θ:Loc}{o o':Nat}: ∀ {a:AV} {vs:List Value},¬a.ids o'->AV.T W θ a vs->AV.T W (rnθ o o' θ) (a.ren o o') vs:=by
 intro a
 induction a with
 | pr a c _ ih =>
  intro vs hi h
  match vs,h with
  | v::vs,h=>exact⟨Xp7 (λh=>hi (.inl h)) h.1,ih (λh=>hi (.inr h)) h.2⟩
 | un =>
  intro vs hi h
  match vs,h with
  | [],h=>exact h
  | [v],h=>exact Xp7 hi h
 | _ =>
  intro vs hi h
  match vs,h with
  | [v],h=>exact Xp7 hi h
theorem Yhb{W:GW}{θ:Loc}{o o':Nat}{a:AV}{v:Value}(hi:¬a.ids o')(h:AV.V W θ a v): AV.V W (rnθ o o' θ) (a.ren o o') v:=by
 cases a with
 | tup a=>obtain⟨vs,e,h⟩:=h;exact⟨vs,e,Ylp hi h⟩
 | un=>exact h
 | _=>exact Xp7 hi h
theorem Xks{o o' i:Nat}: ∀ {a:AV},(a.ren o o').ids i->∃j,a.ids j/\i=rnN o o' j:=by
 intro a
 induction a with
 | st a ih=>exact ih
 | tup a ih=>exact ih
 | fm f a ih=>exact ih
 | pr a c iha ihc =>
  intro h
  rcases h with h | h
  . obtain⟨j,h1,h2⟩:=iha h;exact⟨j,.inl h1,h2⟩
  . obtain⟨j,h1,h2⟩:=ihc h;exact⟨j,.inr h1,h2⟩
 | _=>intro h;first | exact h.elim | exact⟨_,rfl,h⟩
theorem Xeh{o o':Nat}: ∀ {E:Env} {t:Nat} {v:AV},look (Ydc o o' E) t=some v->∃w,look E t=some w/\v=w.ren o o'
 | [],t,v,h=>by simp[Ydc,look] at h
 | (s,w)::E,t,v,h=>by
  simp only[Ydc,W4h,look] at h |-
  split at h
  . injection h with h;exact⟨w,rfl,h.symm⟩
  . exact Xeh h
theorem Xbp{o o':Nat}: ∀ {H:Hpl} {i:Nat} {x:Ob},look H o'=none->look (Xt2 o o' H) i=some x->∃j y,look H j=some y/\i=rnN o o' j/\x=y.ren o o'
 | [],i,x,_,h=>by simp[Xt2,look] at h
 | (s,w)::H,i,x,hn,h=>by
  simp only[look] at hn
  split at hn<;>try cases hn
  rename_i hs
  simp only[Xt2,W4h,look] at h
  split at h
  . rename_i hb
    injection h with h
    exact⟨s,w,by simp[look],W0e hb,h.symm⟩
  . rename_i hb
    obtain⟨j,y,h1,h2,h3⟩:=Xbp hn h
    have:j≠s:=λe=>by
     subst e
     rw[h2] at hb
     simp at hb
    exact⟨j,y,by simp only[look,Ybo this];exact h1,h2,h3⟩
theorem Xc0{o o':Nat}: ∀ {H:Hpl} {j:Nat} {y:Ob},look H o'=none->look H j=some y->∃x,look (Xt2 o o' H) (rnN o o' j)=some x
 | [],_,_,_,h=>by simp[look] at h
 | (s,w)::H,j,y,hn,h=>by
  simp only[Xt2,W4h,look]
  by_cases e:j=s
  . subst e;exact⟨w.ren o o',by simp⟩
  . simp only[look,Ybo e] at h
    simp only[look] at hn
    split at hn<;>try cases hn
    obtain⟨x,hx⟩:=Xc0 hn h
    split
    . exact⟨_,rfl⟩
    . exact⟨x,hx⟩
theorem Ybk{W:GW}{θ:Loc}{o o' j:Nat}{y:Ob}(hj:j≠o')(hi:¬y.ids o')(h:y.R W θ j): (y.ren o o').R W (rnθ o o' θ) (rnN o o' j):=by
 cases y with
 | var a=>obtain⟨b,cs,T,h1,h2,h3,h4⟩:=h;exact⟨b,cs,T,by rw[Xa3 hj];exact h1,h2,Yg9 hi h3,h4⟩
 | arr sz xs=>obtain⟨b,cs,T,h1,h2,h3,h4,h5,h6⟩:=h;exact⟨b,cs,T,by rw[Xa3 hj];exact h1,h2,by rw[Xa3 hj];exact h3,by rw[Xa3 hj];exact h4,by rw[Xa3 hj];exact h5,h6⟩
 | tok n sz=>obtain⟨h1,h2,h3⟩:=h;exact⟨by rw[Xa3 hj];exact h1,by rw[Xa3 hj];exact h2,by rw[Xa3 hj];exact h3⟩
 | dead=>trivial
theorem Yor{K:List Kt}{E:Env}{H:Hpl}(o o':Nat)(hb:(Nat.blt o 1000000&&Nat.blt o' 1000000 && !Xcd H o')=true)(k:J c K (sem (Ydc o o' E) (Xt2 o o' H))): J c K (sem E H):=by
 simp only[W0g,W1u] at hb
 obtain⟨⟨hb1,hb2⟩,hb3⟩:=hb
 have hb1:=Xqk hb1
 have hb2:=Xqk hb2
 have hn:look H o'=none:=by
  unfold Xcd at hb3;split at hb3<;>first | assumption | cases hb3
 rintro a w ⟨s0,W,θ,hw,hs,hθ,rfl⟩
 have hdom:∀ {i y},look H i=some y->i≠o':=λh e=>by rw[e,hn] at h;cases h
 have hni:∀ {v:AV},(∀i,v.ids i->∃y,look H i=some y)->¬v.ids o':=λh hi=>by obtain⟨y,hy⟩:=h o' hi;rw[hn] at hy;cases hy
 refine k a w ⟨_,W,rnθ o o' θ,hw,⟨hs.fm,⟨hs.rel.defers,hs.rel.size,λt v ht=>?_⟩,⟨λi x hx=>?_,λi x b hx hl hb=>?_,λi j x x' b hx hx' hl hl' h1 h2=>?_,λi x q hx hq=>?_⟩,λt v i ht hi=>?_⟩,λi hi=>?_,rfl⟩
 . obtain⟨u,h1,rfl⟩:=Xeh ht
   exact Yhb (hni λi hi=>hs.ids t u i h1 hi) (hs.rel.has t u h1)
 . obtain⟨j,y,h1,rfl,rfl⟩:=Xbp hn hx
   exact Ybk (hdom h1) (λhi=>by obtain⟨z,hz⟩:=hs.obs.ids j y o' h1 hi;have hz:look H o'=some z:=hz;rw[hn] at hz;cases hz) (hs.obs.r j y h1)
 . obtain⟨j,y,h1,rfl,rfl⟩:=Xbp hn hx
   rw[Xa3 (hdom h1)] at hb
   exact hs.obs.new j y b h1 (by cases y<;>first | rfl | cases hl) hb
 . obtain⟨q,y,k1,rfl,rfl⟩:=Xbp hn hx
   obtain⟨q',y',k1',rfl,rfl⟩:=Xbp hn hx'
   rw[Xa3 (hdom k1)] at h1
   rw[Xa3 (hdom k1')] at h2
   rw[hs.obs.dis q q' y y' b k1 k1' (by cases y<;>first | rfl | cases hl) (by cases y'<;>first | rfl | cases hl') h1 h2]
 . obtain⟨j,y,h1,rfl,rfl⟩:=Xbp hn hx
   cases y with
   | var a =>
    obtain⟨r,h2,rfl⟩:=Xks (a:=a) hq
    obtain⟨z,hz⟩:=hs.obs.ids j _ r h1 h2
    exact Xc0 hn hz
   | _=>exact hq.elim
 . obtain⟨u,h1,rfl⟩:=Xeh ht
   obtain⟨r,h2,rfl⟩:=Xks hi
   obtain⟨z,hz⟩:=hs.ids t u r h1 h2
   exact Xc0 hn hz
 . show (if i=o' then θ o else θ i)=_
   rw[if_neg (by omega)];exact hθ i hi
theorem Yoy{K:List Kt}{E:Env}{H:Hpl}(t o' sz:Nat)(hv:look E t=some .nil)(hb:(Nat.blt o' 1000000 && !Xcd H o')=true)(k:J c K (sem ((t,.gr o' sz [])::E) ((o',.tok 0 sz)::H))): J c K (sem E H):=by
 simp only[W0g,W1u] at hb
 have hb1:=Xqk hb.1
 have hn:look H o'=none:=by
  have hb3:=hb.2
  unfold Xcd at hb3;split at hb3<;>first | assumption | cases hb3
 rintro a w ⟨s0,W,θ,hw,hs,hθ,rfl⟩
 have st:=Stp.new0 (d:=o') hs.obs hb1 hn (x:=.tok 0 sz) ⟨by simp,by simp,.inl (by simp)⟩ (λi h=>h)
 have h1:=hs.step0 st
 refine k a w ⟨_,W,_,hw,?_,λi hi=>(st.hi i hi).trans (hθ i hi),rfl⟩
 rw[show sem ((t,AV.gr o' sz [])::E) ((o',Ob.tok 0 sz)::H)=(upd (look E) t (.gr o' sz []),upd (look H) o' (.tok 0 sz)) by rw[Xa2,Xa2]]
 refine⟨h1.fm,⟨h1.rel.defers,h1.rel.size,λq v hq=>?_⟩,h1.obs,λq v i hq hi=>?_⟩
 . rcases Xaf hq with ⟨e1,e2⟩ | ⟨e1,e2⟩
   . subst e1;subst e2
     obtain⟨p,e⟩:=Xng (h1.rel.has q _ hv)
     rw[e]
     exact Yef (o:=o') (θ:=λi=>if i=o' then (none,0) else θ i) rfl (by simp) (.inl (by simp)) (by simp) (by simp) (.inl rfl)
   . exact h1.rel.has q v e2
 . rcases Xaf hq with ⟨e1,e2⟩ | ⟨e1,e2⟩
   . subst e2;have hi:i=o':=hi;subst hi;exact⟨_,Xaj _ _ _⟩
   . exact h1.ids q v i e2 hi
def rnE: List (Nat×Nat)->Env->Env
 | [],E=>E
 | (o,o')::r,E=>rnE r (Ydc o o' E)
def rnH: List (Nat×Nat)->Hpl->Hpl
 | [],H=>H
 | (o,o')::r,H=>rnH r (Xt2 o o' H)
def unE: List (Nat×Nat)->Env->Env
 | [],E=>E
 | (o,o')::r,E=>Ydc o' o (unE r E)
def unH: List (Nat×Nat)->Hpl->Hpl
 | [],H=>H
 | (o,o')::r,H=>Xt2 o' o (unH r H)
def okR: List (Nat×Nat)->Hpl->Bool
 | [],_=>true
 | (o,o')::r,H=>Nat.blt o 1000000&&Nat.blt o' 1000000 && !Xcd H o'&&okR r (Xt2 o o' H)
theorem rnS{K:List Kt}: ∀ {r:List (Nat×Nat)} {E:Env} {H:Hpl},okR r H=true->StP c (.j [] K (rnE r E) (rnH r H))->StP c (.j [] K E H)
 | [],_,_,_,k=>k
 | (o,o')::r,E,H,h,k=>by
  simp only[okR,W0g] at h
  exact Yor o o' (by simp only[W0g];exact h.1) (rnS h.2 k)
def Yk4(r:List (Nat×Nat))(E E':Env)(H H':Hpl): Prop:=Xsj E (unE r E')/\Xsj H (unH r H')/\(Xm8 (unE r E') (unH r H')&&okR r (unH r H'))=true/\rnE r (unE r E')=E'/\rnH r (unH r H')=H'
theorem Ymi{K:List Kt}{r:List (Nat×Nat)}{E E':Env}{H H':Hpl}(h:Yk4 r E E' H H')(k:StP c (.j [] K E' H')): StP c (.j [] K E H):=by
 obtain⟨h1,h2,h3,h4,h5⟩:=h
 rw[W0g] at h3
 exact Yon h1 h2 h3.1 (rnS h3.2 (by rw[h4,h5];exact k))
def Ynb{α:Type}(E':α->Env)(H':α->Hpl)(I:α->Prop)(μ:α->Nat)(s:S)(m:Nat): Prop:=∃x,s=sem (E' x) (H' x)/\I x/\μ x=m
noncomputable def nxL(tb:Nat->Option TI)(n:Nat)(s:St): Option (Code×List Kt×Env×Hpl):=match runN tb n 1000 s with
 | .j _ (.c (.loop b)::K) E H=>some (b,K,E,H)
 | _=>none
theorem Lo{α:Type}(E':α->Env)(H':α->Hpl)(I:α->Prop)(μ:α->Nat)(x:α)(r:List (Nat×Nat)){b:Code}{K:List Kt}{E:Env}{H:Hpl}(h:nxL c.tb c.n s=some (b,K,E,H))(h0:I x)
 (k:∀x,I x->StP c (.j [] (.c b::.l (λs'=>∃μ',μ'<μ x/\Ynb E' H' I μ s' μ')::K) (E' x) (H' x))) (hf:Yk4 r E (E' x) H (H' x):=by exact⟨rfl,rfl,rfl,rfl,rfl⟩):StP c s:=by
 unfold nxL at h
 split at h<;>cases h
 rename_i hr
 refine go 1000 hr (Ymi hf (J.loop (Ynb E' H' I μ) (μ x) ⟨x,rfl,h0,rfl⟩ ?_))
 rintro s m ⟨x,rfl,hx,rfl⟩
 exact k x hx
noncomputable def nxB(tb:Nat->Option TI)(n:Nat)(s:St): Option ((S->Prop)×List Kt×Env×Hpl):=match runN tb n 1000 s with
 | .j _ (.l I::K) E H=>some (I,K,E,H)
 | _=>none
theorem Bk{α:Type}{E':α->Env}{H':α->Hpl}{I:α->Prop}{μ:α->Nat}{m:Nat}{K:List Kt}{E:Env}{H:Hpl}(x:α)(r:List (Nat×Nat))(h:nxB c.tb c.n s=some ((λs'=>∃μ',μ'<m/\Ynb E' H' I μ s' μ'),K,E,H))(hI:I x)(hm:μ x<m)(hf:Yk4 r E (E' x) H (H' x):=by exact⟨rfl,rfl,rfl,rfl,rfl⟩): StP c s:=by
 unfold nxB at h
 split at h<;>try cases h
 rename_i hr
 exact go 1000 hr (Ymi hf (J.at' ⟨_,hm,x,rfl,hI,rfl⟩))
noncomputable def nxJ(tb:Nat->Option TI)(n:Nat)(s:St): Option (List Kt×Env×Hpl):=match runN tb n 1000 s with
 | .j _ K E H=>some (K,E,H)
 | _=>none
theorem Nl{K:List Kt}{E:Env}{H:Hpl}(t o' sz:Nat)(h:nxJ c.tb c.n s=some (K,E,H))(k:StP c (.j [] K ((t,.gr o' sz [])::E) ((o',.tok 0 sz)::H)))(hv:look E t=some .nil:=by exact rfl)(hb:(Nat.blt o' 1000000 && !Xcd H o')=true:=by exact rfl): StP c s:=by
 unfold nxJ at h
 split at h<;>cases h
 rename_i hr
 exact go 1000 hr (Yoy t o' sz hv hb k)
end
end
section
def GW.fz(W:GW)(b:Nat): GW:=⟨W.w,λb' i=>b'≠b/\W.A b' i,λb' i k=>W.hA b' i k.2⟩
theorem Xlb(W:GW)(b:Nat): LeF W (W.fz b):=λ_ _ _ k=>⟨k.1,λhA=>k.2 hA.2⟩
theorem Stp.freeze{N:Nat->Prop}{W:GW}{θ:Loc}{g:Hp}(h:Obs W θ N g){o b sz:Nat}{xs:List D}(ho:g o=some (.arr sz xs))(hb:(θ o).1=some b):
 Stp N W (W.fz b) θ θ g (upd g o .dead) where
 os:=_root_.rfl
 out:=_root_.rfl
 tape:=_root_.rfl
 size:=W0a _
 same:=λ_ _ _=>_root_.rfl
 A:=λb' _ hn i=>⟨λk=>k.2,λk=>⟨λe=>by subst e;exact hn (h.new o _ _ ho _root_.rfl hb),k⟩⟩
 le:=Xlb W b
 th:=λ_ _ _=>_root_.rfl
 hi:=λ_ _=>_root_.rfl
 obs:={
  r:=λo' z hz=>by
   rcases Xaf hz with ⟨e1,e2⟩ | ⟨e1,e2⟩
   . subst e2;trivial
   . exact(h.r o' z e2).keep (Xlb W b) _root_.rfl (λ_ _=>_root_.rfl) λhl b' hb'=>⟨_root_.rfl,λi hA=>show b'≠b/\W.A b' i from⟨λe=>by
      subst e
      exact e1 (h.dis o' o z _ _ e2 ho hl _root_.rfl hb' hb),hA⟩⟩
  new:=λo' z b hz hl hb=>by
   rcases Xaf hz with ⟨e1,e2⟩ | ⟨e1,e2⟩
   . subst e2;cases hl
   . exact h.new o' z b e2 hl hb
  dis:=λo1 o2 y1 y2 b h1 h2 l1 l2 b1 b2=>by
   rcases Xaf h1 with ⟨e1,f1⟩ | ⟨e1,f1⟩
   . subst f1;cases l1
   . rcases Xaf h2 with ⟨e2,f2⟩ | ⟨e2,f2⟩
     . subst f2;cases l2
     . exact h.dis o1 o2 y1 y2 b f1 f2 l1 l2 b1 b2
  ids:=λo' z i hz hzi=>by
   have:∃w,g i=some w:=by
    rcases Xaf hz with ⟨e1,e2⟩ | ⟨e1,e2⟩
    . subst e2;exact hzi.elim
    . exact h.ids o' z i e2 hzi
   obtain⟨w,hw⟩:=this
   by_cases e:i=o
   . subst e;exact⟨_,Xaj _ _ _⟩
   . exact⟨w,by rw[Xak e];exact hw⟩ }
 dom:=λi y hy=>by
  by_cases e:i=o
  . subst e;exact⟨_,Xaj _ _ _⟩
  . exact⟨y,by rw[Xak e];exact hy⟩
theorem Xza{N:Nat->Prop}{W:GW}{θ:Loc}{g:Hp}(h:Obs W θ N g){o b sz l n:Nat}{xs:List D}{v:Value}(ho:g o=some (.arr sz xs))(hb:(θ o).1=some b)(hn:l+n<=xs.length)(hv:AV.V W θ (.own o sz l n) v):
 AV.V (W.fz b) θ (.d (.sl sz ((xs.drop l).take n))) v:=by
 obtain⟨cs,⟨b1,p,h1,h2,h3,e,h5⟩,hc⟩:=hv
 refine⟨cs,?_,hc⟩
 obtain⟨b',bs,T',r1,r2,r3,r4,r5,r6,r7⟩:=h.r _ _ ho
 rw[hb] at r1 h1;injection r1 with r1;injection h1 with h1;subst r1;subst h1
 have hlen:((xs.drop l).take n).length=n:=by simp;omega
 refine⟨p,(θ o).2-l,by rw[hlen];exact e,by omega,by omega,?_⟩
 rcases W2u n with hn0 | hn0
 . exact .inl (W4b.1 (by rw[hlen,hn0]))
 . refine .inr ⟨b,l*sz,h5 (by omega),?_⟩
   have hrow:D.Row (W.fz b) b sz 0 xs:=(AtL.mono (Xlb W b) (sz:=sz) (xs:=xs) (cs:=bs) r6).row λq v _ hv=>by
    rw[W1k]
    exact⟨show W.w.cell? _=_ by rw[Xa9 r2];exact hv,λhA=>hA.1 rfl⟩
   have:=D.row_sub hrow l n
   rwa[W1k] at this
def isR(id:Nat): St->Bool
 | .j _ (.c (.region i _ _)::_) _ _=>Nat.beq id i
 | .j _ (.c (.block i _)::_) _ _=>Nat.beq id (i+1000000)
 | _=>false
noncomputable def runT(tb:Nat->Option TI)(n id:Nat): Nat->St->St
 | 0,s=>s
 | m+1,s=>match isR id s with
  | true=>s
  | false=>match Ykj tb n s with
   | some s'=>runT tb n id m s'
   | none=>s
section
variable{c:Cx}{s:St}{p:Pl}
theorem Xfb{id:Nat}: ∀(m:Nat) {s:St},StP c (runT c.tb c.n id m s)->StP c s
 | 0,_,k=>k
 | m+1,s,k=>by
  unfold runT at k
  split at k
  . exact k
  . split at k
    . rename_i s' h;exact Xtv h (Xfb m k)
    . exact k
noncomputable def nxF(tb:Nat->Option TI)(n id t:Nat)(s:St): Option (List Kt×Env×Hpl×Nat×Nat×Nat×Nat×List D):=match runT tb n id 1000 s with
 | .j _ K E H=>match look E t with
  | some (.own o sz l n)=>match look H o with
   | some (.arr sz' xs)=>match Nat.beq sz sz' with
    | true=>some (K,E,H,o,sz,l,n,xs)
    | false=>none
   | _=>none
  | _=>none
 | _=>none
theorem Fz(id t:Nat)(ys:List D){K:List Kt}{E:Env}{H:Hpl}{o sz l n:Nat}{xs:List D}(h:nxF c.tb c.n id t s=some (K,E,H,o,sz,l,n,xs))(hn:l+n<=xs.length)(hy:(xs.drop l).take n=ys)(k:StP c (.j [] K ((t,.d (.sl sz ys))::E) ((o,.dead)::H))): StP c s:=by
 unfold nxF at h
 split at h<;>try cases h
 rename_i hr
 split at h<;>try cases h
 rename_i he
 split at h<;>try cases h
 rename_i ho
 split at h<;>cases h
 rename_i hz
 have hz:=W0e hz
 subst hz;subst hy
 refine Xfb (id:=id) 1000 ?_
 rw[hr]
 rintro a w ⟨s0,W,θ,hw,hs,hθ,rfl⟩
 obtain⟨b,bs,T',r1,_⟩:=hs.obs.r _ _ ho
 have st:=Stp.freeze hs.obs ho r1
 have h1:=hs.step0 st
 refine k a w ⟨_,W.fz b,θ,hw,?_,hθ,rfl⟩
 rw[show sem ((t,AV.d (.sl sz ((xs.drop l).take n)))::E) ((o,Ob.dead)::H)=(upd (look E) t (.d (.sl sz ((xs.drop l).take n))),upd (look H) o .dead) by rw[Xa2,Xa2]]
 refine⟨h1.fm,⟨h1.rel.defers,h1.rel.size,λq v hq=>?_⟩,h1.obs,λq v i hq hi=>?_⟩
 . rcases Xaf hq with ⟨e1,e2⟩ | ⟨e1,e2⟩
   . subst e1;subst e2
     exact Xza hs.obs ho r1 hn (hs.rel.has q _ he)
   . exact h1.rel.has q v e2
 . rcases Xaf hq with ⟨e1,e2⟩ | ⟨e1,e2⟩
   . subst e2;exact hi.elim
   . exact h1.ids q v i e2 hi
noncomputable def nxM(tb:Nat->Option TI)(n:Nat)(s:St): Option (Pl×Nat×Nat×D×Int×Int):=match nxA tb n s with
 | some (p,o,[.d (.int _ m),.d (.int _ q)])=>match o.op with
  | .makeSlice T _ _=>match tb T with
   | some ti=>match ti.z,Nat.ble ti.eb 128,look p.H (o.dst.getD 0) with
    | .sl sz _,true,none=>some (p,o.dst.getD 0,sz,ti.e,m,q)
    | _,_,_=>none
   | none=>none
  | _=>none
 | _=>none
theorem Mk(n:Nat){d sz:Nat}{e:D}{m q:Int}(h:nxM c.tb c.n s=some (p,d,sz,e,m,q))(hn:(n:Int)<=q/\q<=1099511627776)(k:p.nx' c (.own d sz 0 n) [(d,.arr sz (List.replicate n e))])(hm:m=n:=by first | exact rfl | omega): StP c s:=by
 subst hm
 unfold nxM at h
 split at h<;>try cases h
 rename_i hA
 split at h<;>try cases h
 rename_i ho
 split at h<;>try cases h
 rename_i ti ht
 split at h<;>cases h
 rename_i he hd hz
 refine Xbr hA ?_ k
 rw[ho]
 simp only[F,ht,hd,hz]
 rw[if_pos ⟨by omega,by omega,Xc6 (ti:=ti) (by omega) (W1g he)⟩]
 simp
noncomputable def nxS(tb:Nat->Option TI)(n:Nat)(s:St): Option (Pl×AV×Option Int×Option Int):=match nxA tb n s with
 | some (p,o,asx)=>match o.op with
  | .slice T _ lo hi mx=>match tb T with
   | some ti=>match ti.z,Xjh lo hi mx asx with
    | .sl _ _,some (a,l,h,none)=>match Yng ti.e.size a with
     | true=>some (p,a,l,h)
     | false=>none
    | _,_=>none
   | none=>none
  | _=>none
 | none=>none
theorem Xmd{a r:AV}{l h':Option Int}(h:nxS c.tb c.n s=some (p,a,l,h'))(hr:slA l h' a=some r)(k:p.nx c r): StP c s:=by
 unfold nxS at h
 split at h<;>try cases h
 rename_i hA
 split at h<;>try cases h
 rename_i ho
 split at h<;>try cases h
 rename_i ti ht
 split at h<;>try cases h
 rename_i hz hs
 split at h<;>cases h
 rename_i hk
 refine Xbr (us:=[]) hA ?_ (Pl.nx_nil k)
 rw[ho]
 simp only[F,Fp,ht,hz,hs,hk,hr]
def Ykx: AV->Option (Nat×List D)
 | .d (.sl sz xs)=>some (sz,xs)
 | .gr _ sz xs=>some (sz,xs)
 | .lit sz xs=>some (sz,xs)
 | _=>none
theorem Xq8{a:AV}{sz:Nat}{xs:List D}(h:Ykx a=some (sz,xs))(l h':Option Int): slA l h' a=slA.slL sz xs l h':=by
 unfold Ykx at h
 split at h<;>cases h<;>rfl
theorem Tk(j:Nat)(zs:List D){a:AV}{i:Int}{sz:Nat}{xs:List D}(h:nxS c.tb c.n s=some (p,a,none,some i))(ha:Ykx a=some (sz,xs))(hl:j<=xs.length)(hz:xs.take j=zs)(k:p.nx c (.d (.sl sz zs)))(hj:i=j:=by first | exact rfl | omega): StP c s:=by
 subst hj;subst hz
 refine Xmd h ?_ k
 rw[Xq8 ha,slA.slL,if_pos ⟨by omega,by omega⟩];simp
theorem Dp(j:Nat)(zs:List D){a:AV}{i:Int}{sz:Nat}{xs:List D}(h:nxS c.tb c.n s=some (p,a,some i,none))(ha:Ykx a=some (sz,xs))(hl:j<=xs.length)(hz:xs.drop j=zs)(k:p.nx c (.d (.sl sz zs)))(hj:i=j:=by first | exact rfl | omega): StP c s:=by
 subst hj;subst hz
 refine Xmd h ?_ k
 rw[Xq8 ha,slA.slL,if_pos ⟨by omega,by omega⟩];simp
theorem Sw(i j:Nat){l h':Option Int}{o sz q n:Nat}(h:nxS c.tb c.n s=some (p,.own o sz q n,l,h'))(hi:i<=j)(hj:j<=n)(k:p.nx c (.own o sz (q+i) (j-i)))(hl:l.getD 0=i:=by first | exact rfl | (simp only[Option.getD];omega))(hh:h'.getD n=j:=by first | exact rfl | (simp only[Option.getD];omega)): StP c s:=by
 refine Xmd h ?_ k
 cases l<;>cases h'<;>simp only[Option.getD] at hl hh
 . have:i=0:=by omega
   have:j=n:=by omega
   subst i;subst j;simp[slA]
 . have:i=0:=by omega
   subst i
   rw[slA,if_pos ⟨by omega,by omega⟩,hh];simp
 . have:j=n:=by omega
   subst j
   rw[slA,if_pos ⟨by omega,by omega⟩,hl];simp
 . rw[slA,if_pos ⟨by omega,by omega,by omega⟩,hl,hh];simp
noncomputable def nxE(tb:Nat->Option TI)(n:Nat)(s:St): Option (Pl×Nat×Nat×Nat×Nat×Int):=match nxA tb n s with
 | some (p,o,[.own q sz l m,.d (.int _ j)])=>match o.op with
  | .indexAddr T _ _=>match tb T with
   | some ti=>match ti.z,Nat.beq sz ti.e.size with
    | .sl _ _,true=>some (p,q,sz,l,m,j)
    | _,_=>none
   | none=>none
  | _=>none
 | _=>none
theorem El(i:Nat){q sz l m:Nat}{j:Int}(h:nxE c.tb c.n s=some (p,q,sz,l,m,j))(hi:i<m)(k:p.nx c (.el q sz (l+i) 0))(hj:j=i:=by first | exact rfl | omega): StP c s:=by
 subst hj
 unfold nxE at h
 split at h<;>try cases h
 rename_i hA
 split at h<;>try cases h
 rename_i ho
 split at h<;>try cases h
 rename_i ti ht
 split at h<;>cases h
 rename_i hz hb
 refine Xbr (us:=[]) hA ?_ (Pl.nx_nil k)
 rw[ho]
 simp only[F,Fp,ht,hz,ixA]
 rw[if_pos ⟨by omega,by omega,W0e hb⟩]
 simp
theorem Eo(i:Nat){q sz m:Nat}{j:Int}(h:nxE c.tb c.n s=some (p,q,sz,0,m,j))(hi:i<m)(k:p.nx c (.el q sz i 0))(hj:j=i:=by first | exact rfl | omega): StP c s :=
 El i h hi (by rw[W1k];exact k) hj
noncomputable def Ynv(tb:Nat->Option TI)(n:Nat)(s:St): Option (Pl×Nat×Bool×List D×Nat×Nat):=match nxA tb n s with
 | some (p,o,[.el q sz j off])=>match o.op with
  | .load T _=>match tb T,look p.H q with
   | some ti,some (.arr sz' xs)=>match Nat.beq sz sz' with
    | true=>some (p,ti.z.size,ti.z.ag,xs,j,off)
    | false=>none
   | _,_=>none
  | _=>none
 | _=>none
theorem Ld(u:D){z g xs j off y}(h:Ynv c.tb c.n s=some (p,z,g,xs,j,off))(hu:xs[j]?=some u)(k:p.nx c (nb y))(hy:Xpk z g u off=some y:=by exact rfl): StP c s:=by
 unfold Ynv at h
 split at h<;>try cases h
 rename_i hA
 split at h<;>try cases h
 rename_i ho
 split at h<;>try cases h
 rename_i ti ht hq
 split at h<;>cases h
 rename_i hz
 have hz:=W0e hz
 refine Xbr (us:=[]) hA ?_ (Pl.nx_nil k)
 rw[ho]
 simp only[F,ht,hq,hz,if_true,hu,hy]
noncomputable def Ylw(tb:Nat->Option TI)(n:Nat)(s:St): Option (Pl×Nat×Nat×List D×Nat×D):=match nxA tb n s with
 | some (p,o,[.el q sz j 0,v])=>match o.op with
  | .store T _ _=>match tb T,look p.H q with
   | some ti,some (.arr sz' xs)=>match toD ti.z v with
    | some x=>match plain v&&Nat.beq sz sz'&&Nat.beq v.size sz&&Nat.beq x.size sz&&Nat.beq ti.z.size sz with
     | true=>some (p,q,sz,xs,j,x)
     | false=>none
    | none=>none
   | _,_=>none
  | _=>none
 | _=>none
theorem Sto{zs:List D}{q sz xs j x}(h:Ylw c.tb c.n s=some (p,q,sz,xs,j,x))(hj:j<xs.length)(hz:xs.set j x=zs)(k:p.nx' c (.ub True) [(q,.arr sz zs)]): StP c s:=by
 subst hz
 unfold Ylw at h
 split at h<;>try cases h
 rename_i hA
 split at h<;>try cases h
 rename_i ho
 split at h<;>try cases h
 rename_i ti ht hq
 split at h<;>try cases h
 rename_i hx
 split at h<;>cases h
 rename_i hb
 simp only[W0g] at hb
 refine Xbr hA ?_ k
 rw[ho]
 simp only[F,ht,hq,hx]
 rw[if_pos ⟨hb.1.1.1.1,W0e hb.1.1.1.2,W0e hb.1.1.2,W0e hb.1.2,W0e hb.2,hj⟩]
noncomputable def nxN(tb:Nat->Option TI)(n:Nat)(s:St): Option (Pl×IntKind×Int):=match nxA tb n s with
 | some (p,o,[.d (.int k a)])=>match o.op with
  | .unOp op _ _=>match op with
   | .neg=>some (p,k,a)
   | _=>none
  | _=>none
 | _=>none
theorem Ne{k:IntKind}{a:Int}(r:Int)(h:nxN c.tb c.n s=some (p,k,a))(kk:p.nx c (.d (.int k r)))(hr:k.wrap (0-a)=r:=by exact wr (by omega) (by simp only[inK];omega)): StP c s:=by
 unfold nxN at h
 split at h<;>try cases h
 rename_i hA
 split at h<;>try cases h
 rename_i ho
 split at h<;>cases h
 refine Xbr (us:=[]) hA ?_ (Pl.nx_nil kk)
 rw[ho]
 simp only[F,Fp,hr]
end
end
end Go.Vm
namespace Go.Num
theorem wI{x:Int}(h:-9223372036854775808<=x/\x<9223372036854775808): IntKind.i64.wrap x=x:=by
 have e:IntKind.i64.wrap x=if x%18446744073709551616>=9223372036854775808 then x%18446744073709551616-18446744073709551616 else x%18446744073709551616:=by
  simp[IntKind.wrap,IntKind.bits,IntKind.signed]
 rw[e];split<;>omega
theorem wU{x:Int}(h:0<=x/\x<18446744073709551616): IntKind.u64.wrap x=x:=by
 have e:IntKind.u64.wrap x=x%18446744073709551616:=by simp[IntKind.wrap,IntKind.bits,IntKind.signed]
 rw[e];omega
theorem wUm(x:Int): IntKind.u64.wrap x=x%18446744073709551616:=by simp[IntKind.wrap,IntKind.bits,IntKind.signed]
theorem wW{x:Int}(h:0<=x/\x<4294967296): IntKind.u32.wrap x=x:=by
 have e:IntKind.u32.wrap x=x%4294967296:=by simp[IntKind.wrap,IntKind.bits,IntKind.signed]
 rw[e];omega
theorem wWm(x:Int): IntKind.u32.wrap x=x%4294967296:=by simp[IntKind.wrap,IntKind.bits,IntKind.signed]
def val: List Nat->Nat
 | []=>0
 | x::l=>x+4294967296*val l
def dig(n:Nat): List Nat:=if h:n=0 then [] else (n%4294967296)::dig (n/4294967296)
termination_by n
decreasing_by omega
def Xaq(l:List Nat): Prop:=∀x∈l,x<4294967296
theorem Xaq.nil: Xaq []:=λ_ h=>by cases h
theorem Xaq.cons{x:Nat}{l:List Nat}(h:x<4294967296)(k:Xaq l): Xaq (x::l):=λy hy=>by
 rcases W1j.1 hy with rfl | hy
 . exact h
 . exact k y hy
theorem Xaq.hd{x:Nat}{l:List Nat}(h:Xaq (x::l)): x<4294967296:=h x (W0l ..)
theorem Xaq.tl{x:Nat}{l:List Nat}(h:Xaq (x::l)): Xaq l:=λy hy=>h y (W0p _ hy)
theorem Xaq.app{l m:List Nat}(h:Xaq l)(k:Xaq m): Xaq (l++m):=λy hy=>(W1s.1 hy).elim (h y) (k y)
theorem Xaq.take{l:List Nat}(h:Xaq l)(k:Nat): Xaq (l.take k):=λy hy=>h y (W4e hy)
theorem Xaq.drop{l:List Nat}(h:Xaq l)(k:Nat): Xaq (l.drop k):=λy hy=>h y (W4f hy)
theorem Xan: dig 0=[]:=by rw[dig];simp
theorem Xfk{n:Nat}(h:n≠0): dig n=(n%4294967296)::dig (n/4294967296):=by rw[dig];simp[h]
theorem Xag(n:Nat): val (dig n)=n:=by
 induction n using Nat.strongRecOn with
 | _ n ih =>
  by_cases h:n=0
  . subst h;rw[Xan];rfl
  . rw[Xfk h,val,ih _ (by omega)];omega
theorem Xae(n:Nat): Xaq (dig n):=by
 induction n using Nat.strongRecOn with
 | _ n ih =>
  by_cases h:n=0
  . subst h;rw[Xan];exact .nil
  . rw[Xfk h];exact .cons (by omega) (ih _ (by omega))
theorem Xr7{n:Nat}: dig n=[]↔n=0:=by
 constructor
 . intro h;have:=Xag n;rw[h] at this;exact this.symm
 . rintro rfl;exact Xan
theorem Xeq(l m:List Nat): val (l++m)=val l+4294967296^l.length*val m:=by
 induction l with
 | nil=>simp[val]
 | cons x l ih =>
  rw[W5a,val,ih,val,W0s,W0y,W1c,W4r,
   W1i (4294967296^l.length) 4294967296,W0w]
theorem Xbw{l:List Nat}(h:Xaq l): val l<4294967296^l.length:=by
 induction l with
 | nil=>simp[val]
 | cons x l ih =>
  have h1:=ih h.tl
  have h2:=h.hd
  rw[val,W0s,W0y]
  omega
theorem Xac{l:List Nat}{k x:Nat}(h:l[k]?=some x): val (l.take (k+1))=val (l.take k)+4294967296^k*x:=by
 have hk:k<l.length:=by
  by_cases hh:k<l.length
  . exact hh
  . rw[W1x (by omega)] at h;cases h
 rw[W2d,h,Xeq]
 simp[val,W0j,W2f (W2h hk)]
def Yk1(l:List Nat): Prop:=l=[]\/∃x,l[l.length-1]?=some x/\x≠0
theorem Xfj{l:List Nat}(hw:Xaq l)(ht:Yk1 l): dig (val l)=l:=by
 induction l with
 | nil=>exact Xan
 | cons x l ih =>
  have hx:=hw.hd
  rcases ht with h | ⟨y,hy,hne⟩
  . cases h
  . by_cases hl:l=[]
    . subst hl
      simp at hy
      subst hy
      rw[Xfk (by simp[val,hne])]
      simp only[val,W3d,W2n]
      rw[W3w hx,W4g hx,Xan]
    . have ht':Yk1 l:=by
       refine .inr ⟨y,?_,hne⟩
       have:l.length≠0:=λh=>hl (W0o h)
       rw[W0s,show l.length+1-1=(l.length-1)+1 by omega] at hy
       simpa using hy
      have ihh:=ih hw.tl ht'
      have hv:val l≠0:=by
       intro h0
       rw[h0,Xan] at ihh
       exact hl ihh.symm
      rw[val,Xfk (by omega),show (x+4294967296*val l)%4294967296=x by omega,show (x+4294967296*val l)/4294967296=val l by omega,ihh]
theorem Xhe(n:Nat): Yk1 (dig n):=by
 induction n using Nat.strongRecOn with
 | _ n ih =>
  by_cases h:n=0
  . subst h;rw[Xan];exact .inl rfl
  . rw[Xfk h]
    by_cases h2:n/4294967296=0
    . rw[h2,Xan]
      exact .inr ⟨n%4294967296,rfl,by omega⟩
    . rcases ih (n/4294967296) (by omega) with h3 | ⟨x,h3,h4⟩
      . exact absurd (Xr7.1 h3) h2
      . refine .inr ⟨x,?_,h4⟩
        have:(dig (n/4294967296)).length≠0:=λh=>h2 (Xr7.1 (W0o h))
        rw[W0s,show (dig (n/4294967296)).length+1-1=((dig (n/4294967296)).length-1)+1 by omega]
        simpa using h3
theorem Xq4{n:Nat}(h:n≠0): 4294967296^((dig n).length-1)<=n:=by
 induction n using Nat.strongRecOn with
 | _ n ih =>
  rw[Xfk h,W0s,W3r]
  by_cases h2:n/4294967296=0
  . rw[h2,Xan];simp;omega
  . have h1:=ih (n/4294967296) (by omega) h2
    have hl:(dig (n/4294967296)).length≠0:=λhh=>h2 (Xr7.1 (W0o hh))
    rw[show (dig (n/4294967296)).length=(dig (n/4294967296)).length-1+1 by omega,W0y]
    exact W0k (W0q _ h1) (W6s ..)
theorem Xdp(n:Nat): n<4294967296^(dig n).length:=by
 have:=Xbw (Xae n)
 rwa[Xag] at this
theorem Xas{n k:Nat}(h:n<4294967296^k): (dig n).length<=k:=by
 by_cases h0:n=0
 . subst h0;rw[Xan];simp
 . have h1:=Xq4 h0
   apply W1b
   intro hn
   have:4294967296^k<=4294967296^((dig n).length-1):=W0m (by decide) (by omega)
   omega
theorem Xar{m n:Nat}(h:m<=n): (dig m).length<=(dig n).length:=Xas (W1t h (Xdp n))
theorem Xdm{m n:Nat}(h:(dig m).length<(dig n).length): m<n:=by
 apply W1b
 intro hn
 have:=Xar (m:=n) (n:=m) (by omega)
 omega
theorem Xpf{l:List Nat}(hw:Xaq l)(h0:0<l.length)(h:4294967296^(l.length-1)<=val l): Yk1 l:=by
 have hlt:l.length-1<l.length:=by omega
 refine .inr ⟨l[l.length-1],W0c hlt,λhz=>?_⟩
 have h1:=Xac (l:=l) (W0c hlt)
 rw[show l.length-1+1=l.length by omega,W2j,hz,W3d,W2n] at h1
 have h2:=Xbw (hw.take (l.length-1))
 rw[W0j,W2f (by omega)] at h2
 omega
theorem Xgs(x y:Nat): (dig (x+y)).length<=max (dig x).length (dig y).length+1:=by
 apply Xas
 have h1:=Xdp x
 have h2:=Xdp y
 have h3:4294967296^(dig x).length<=4294967296^max (dig x).length (dig y).length:=W0m (by decide) (Nat.le_max_left ..)
 have h4:4294967296^(dig y).length<=4294967296^max (dig x).length (dig y).length:=W0m (by decide) (Nat.le_max_right ..)
 rw[W0y]
 omega
theorem Xk3(x y:Nat): (dig (x*y)).length<=(dig x).length+(dig y).length:=by
 apply Xas
 rw[W0x]
 exact W3i (Xdp x) (Xdp y)
theorem Ygu(s:Nat): Int.fdiv (s:Int) (2^(min (Int.toNat 32) (IntKind.bits .u64)))=((s/4294967296:Nat):Int):=by
 have e:(2:Int)^(min (Int.toNat 32) (IntKind.bits .u64))=4294967296:=by decide
 rw[e,W1r _ (by omega)]
 rfl
theorem Xgo{l:List Nat}{k:Nat}(h:l.length<=k): l.take (k+1)=l.take k:=by
 rw[W0b h,W0b (by omega)]
theorem Xbg{l:List Nat}{k d:Nat}(h:k<l.length): val ((l.set k d).take (k+1))=val (l.take k)+4294967296^k*d:=by
 have:=Xac (l:=l.set k d) (k:=k) (x:=d) (by rw[W2w h])
 rw[this,List.take_set_of_le (W0a k)]
theorem Xbo(l:List Nat)(k:Nat)(h:k<=l.length): val l=val (l.take k)+4294967296^k*val (l.drop k):=by
 conv=>lhs;rw[<-W4n k l]
 rw[Xeq,W0j,W2f h]
def Xba(a b:Int): Int:=if a<b then -1 else if a>b then 1 else 0
theorem Xjr{l m:List Nat}(hl:Xaq l){k x y:Nat}(hk:k<l.length)(hk2:k<m.length)(hx:l[k]?=some x)(hy:m[k]?=some y)(hd:l.drop (k+1)=m.drop (k+1))(h:x<y): val l<val m:=by
 rw[Xbo l (k+1) (by omega),Xbo m (k+1) (by omega),hd,Xac hx,Xac hy]
 have h1:=Xbw (hl.take k)
 rw[W0j,W2f (by omega)] at h1
 have h2:4294967296^k*(x+1)<=4294967296^k*y:=W0t _ h
 rw[W1c] at h2
 omega
theorem Xbv(n:Nat): val (List.replicate n 0)=0:=by
 induction n with
 | zero=>rfl
 | succ n ih=>rw[W4i,val,ih]
theorem Ygv{u n:Nat}(h:u*2^n<18446744073709551616)(hn:n<=64): IntKind.u64.wrap ((u:Int)*2^(min (Int.toNat (n:Int)) (IntKind.bits .u64)))=((u*2^n:Nat):Int):=by
 have e:min (Int.toNat (n:Int)) (IntKind.bits .u64)=n:=by
  rw[W7f];exact W2f hn
 rw[e]
 have e2:(u:Int)*2^n=((u*2^n:Nat):Int):=by rw[W2p,W7l];rfl
 rw[e2]
 exact wU ⟨by omega,by omega⟩
theorem Xdk(a b n:Nat)(h:a<2^n): b*2^n|||a=b*2^n+a:=by
 have:=Nat.shiftLeft_add_eq_or_of_lt h b
 rw[Nat.shiftLeft_eq] at this
 exact this.symm
theorem Xdz(u n:Nat)(h:n<=32): u*2^n%4294967296=(u%2^(32-n))*2^n:=by
 have e:4294967296=2^(32-n)*2^n:=by rw[<-W0x,show 32-n+n=32 by omega]
 rw[e,Nat.mul_mod_mul_right]
theorem Xbx{l:List Nat}{k x:Nat}(h:l[k]?=some x): val (l.drop k)=x+4294967296*val (l.drop (k+1)):=by
 have hk:k<l.length:=by
  by_cases hh:k<l.length
  . exact hh
  . rw[W1x (by omega)] at h;cases h
 rw[W3e hk,val]
 rw[W0c hk] at h
 injection h with h
 rw[h]
theorem drop_set{l:List Nat}{k d:Nat}(h:k<l.length): (l.set k d).drop k=d::l.drop (k+1):=by
 rw[W3e (by simpa using h)]
 simp[List.drop_set]
def bl(n:Nat): Nat:=if n=0 then 0 else Nat.log2 n+1
theorem Yb4{p:Nat->Prop}(h:∀j:Fin 256,p j.val)(x:Nat)(hx:x<256): p x:=h ⟨x,hx⟩
theorem Xcl{n:Nat}(h:n≠0): 2^(bl n-1)<=n/\n<2^bl n/\0<bl n:=by
 rw[bl,if_neg h]
 exact⟨Nat.log2_self_le h,Nat.lt_log2_self,Nat.succ_pos _⟩
theorem Ymy{n k:Nat}(h1:2^k<=n)(h2:n<2^(k+1)): bl n=k+1:=by
 have h0:n≠0:=by have:=W0r k;omega
 obtain⟨a,b,c⟩:=Xcl h0
 have p1:k<bl n:=(W2v (by decide:1<2)).1 (W1t h1 b)
 have p2:bl n-1<k+1:=(W2v (by decide:1<2)).1 (W1t a h2)
 omega
theorem Xe1{n k:Nat}(h:n/2^k≠0): bl n=bl (n/2^k)+k:=by
 obtain⟨a,b,c⟩:=Xcl h
 have hp:=W0r k
 have e:bl (n/2^k)+k=(bl (n/2^k)-1+k)+1:=by omega
 rw[e]
 apply Ymy
 . rw[W0x]
   exact(W7j hp).1 a
 . rw[show bl (n/2^k)-1+k+1=bl (n/2^k)+k by omega,W0x]
   exact(W2s hp).1 b
theorem Xhr(l:List Nat)(n:Nat)(h:n<=32): val l%2^n=l.getD 0 0%2^n:=by
 cases l with
 | nil=>rfl
 | cons x l =>
  have e:4294967296=2^n*2^(32-n):=by rw[<-W0x,show n+(32-n)=32 by omega]
  simp only[val,List.getD_cons_zero]
  rw[e,W0w,W5f]
theorem Ycs(s y:Nat)(h:s<18446744073709551616): IntKind.u64.wrap (Int.tdiv (s:Int) (y:Int))=((s/y:Nat):Int):=by
 have e:Int.tdiv (s:Int) (y:Int)=((s/y:Nat):Int):=rfl
 rw[e]
 have h2:s/y<18446744073709551616:=W1t (W3m s y) h
 exact wU ⟨W5b _,W7a.2 h2⟩
theorem Xrk(s y:Nat): Int.tmod (s:Int) (y:Int)=((s%y:Nat):Int):=rfl
theorem Xxz{n:Nat}(h:n<256): (((UInt8.ofNat n).toNat:Nat):Int)=(n:Int):=by
 rw[UInt8.toNat_ofNat_of_lt' h]
theorem Yi2{U Y d:Nat}(hU:U<4294967296*Y)(hY:0<Y)(h:4294967296<=d): U/Y<d:=by
 have:U/Y<4294967296:=by rw[W2s hY];exact hU
 omega
theorem Yi1{low u2 top vlow next high M d r:Nat}(hlow:low<M)(hM:0<M)(ht:d*high+r=top)(h:r*4294967296+u2<d*next)(hY:0<vlow+M*(next+4294967296*high)):
 (low+M*(u2+4294967296*top))/(vlow+M*(next+4294967296*high))<d:=by
 rw[W2s hY]
 have h1:d*(next+4294967296*high)=d*next+4294967296*(d*high):=by rw[W1c,W4w]
 have h2:u2+4294967296*top+1<=d*(next+4294967296*high):=by rw[h1,<-ht];omega
 have h3:=W0t M h2
 rw[W1c M _ 1,W4a] at h3
 have h4:d*(vlow+M*(next+4294967296*high))=d*vlow+M*(d*(next+4294967296*high)):=by rw[W1c,W4w]
 omega
theorem Yb7{low u2 top vlow next high M d r:Nat}(hM:0<M)(hv:vlow<M)(ht:d*high+r=top)(h:d*next<=r*4294967296+u2)(hd:d<4294967296)(hh:0<high):
 d<=(low+M*(u2+4294967296*top))/(vlow+M*(next+4294967296*high))+1:=by
 generalize hY:vlow+M*(next+4294967296*high)=Y
 generalize hU:low+M*(u2+4294967296*top)=U
 have hYp:4294967296*M<=Y:=by
  rw[<-hY,W1c]
  have:M*(4294967296*1)<=M*(4294967296*high):=W0t _ (W0t _ hh)
  omega
 have h1:d*(next+4294967296*high)=d*next+4294967296*(d*high):=by rw[W1c,W4w]
 have h2:d*(next+4294967296*high)<=u2+4294967296*top:=by rw[h1,<-ht];omega
 have h3:=W0t M h2
 have h4:d*Y=d*vlow+M*(d*(next+4294967296*high)):=by rw[<-hY,W1c,W4w]
 have h5:d*vlow<=d*M:=W0t _ (W2h hv)
 have h6:d*M<4294967296*M:=W3c hd hM
 have h7:d*Y<U+Y:=by omega
 have h8:=W2o U Y
 have h9:=W1q U (show 0<Y by omega)
 apply W1b
 intro hn
 have h10:(U/Y+2)*Y<=d*Y:=W0q _ (by omega)
 rw[W1h,W1i (U/Y)] at h10
 omega
theorem Ycy{U Y d U1 c P:Nat}(hY:0<Y)(h1:U/Y<=d)(h2:d<=U/Y+1)(h:U1+Y*d=U+P*c)(hc:c<=1)(hU1:U1<P)(hU:U<P):
 (c=0->d=U/Y/\U1=U%Y)/\(c=1->d=U/Y+1/\∀U2 e,U2<P->U2+P*e=U1+Y->e<=1->U2=U%Y):=by
 have hdm:=W2o U Y
 have hm:=W1q U hY
 refine⟨λh0=>?_,λh0=>?_⟩
 . subst h0
   have hd:d=U/Y:=by
    apply W1b
    intro hn
    have:d=U/Y+1:=by omega
    rw[this,W1c,W4a] at h
    omega
   rw[hd] at h
   exact⟨hd,by omega⟩
 . subst h0
   have hd:d=U/Y+1:=by
    apply W1b
    intro hn
    have:d=U/Y:=by omega
    rw[this] at h
    omega
   refine⟨hd,λU2 e hU2 he he1=>?_⟩
   rw[hd,W1c,W4a] at h
   rcases W2u e with h0 | h0
   . subst h0;omega
   . have:e=1:=by omega
     subst this;omega
theorem Xfu{l:List Nat}{q i x:Nat}(h:q+i<l.length): val (((l.set (q+i) x).drop q).take (i+1))=val ((l.drop q).take i)+4294967296^i*x:=by
 have e:(l.set (q+i) x).drop q=(l.drop q).set i x:=by
  rw[List.drop_set,if_neg (by omega),W3n]
 rw[e,Xbg (by rw[W1l];omega)]
theorem Xb5{l:List Nat}{q i u:Nat}(h:l[q+i]?=some u): val ((l.drop q).take (i+1))=val ((l.drop q).take i)+4294967296^i*u :=
 Xac (by rw[W1y];exact h)
end Go.Num
namespace Go.Vm
open Go
def gw0(w:World): GW:=⟨w,λ_ _=>False,λ_ _ h=>h.elim⟩
def Reads(P:Program)(t:TypeId)(r:D->Prop): Prop:=∀(w:World) {H:Type} {enc:TypeId×Value->H} {spare:Nat->Bool} {held:Bool} {fuel:Nat} {cs:List Value} {x:DataW H×List MemPlace},
 DataW.trod enc P w 0 spare held fuel t cs=some x->∃d,r d/\D.At (gw0 w) d cs
theorem Reads.mono{P:Program}{t:TypeId}{r s:D->Prop}(h:Reads P t r)(hr:∀d,r d->s d): Reads P t s:=λw _ _ _ _ _ _ _ hx=>let ⟨d,h1,h2⟩:=h w hx;⟨d,hr d h1,h2⟩
theorem Xh6{P:Program}{t:TypeId}{k:IntKind}(ht:P.underlying t=some (.int k))(hk:∀n,(Lit.int k n).wf=true->inR k n): Reads P t λd=>∃z,d=.int k z/\(Lit.int k z).wf=true:=λw _ _ _ _ _ _ _ h =>
 let ⟨n,h1,_,h2⟩:=DataW.trod_int ht h
 ⟨_,⟨n,rfl,h2⟩,h1,hk n h2⟩
theorem Ycn{n:Int}(h:(Lit.int .u8 n).wf=true): 0<=n/\n<256:=by
 simp[Lit.wf,IntKind.min,IntKind.max,IntKind.signed,IntKind.bits] at h;omega
theorem Yf4{n:Int}(h:(Lit.int .i8 n).wf=true): -128<=n/\n<128:=by
 simp[Lit.wf,IntKind.min,IntKind.max,IntKind.signed,IntKind.bits] at h;omega
theorem Yan{n:Int}(h:(Lit.int .i64 n).wf=true): -9223372036854775808<=n/\n<9223372036854775808:=by
 simp[Lit.wf,IntKind.min,IntKind.max,IntKind.signed,IntKind.bits] at h;omega
theorem Xeu{P:Program}{t:TypeId}(ht:P.underlying t=some (.int .u8)): Reads P t λd=>∃n:Nat,d=.int .u8 n/\n<256 :=
 (Xh6 ht λn h=>by
  have:=Ycn h
  show IntKind.u8.wrap n=n
  simp[IntKind.wrap,IntKind.bits,IntKind.signed];omega).mono λd ⟨z,e,h⟩=>⟨z.toNat,by rw[e,W2x (Ycn h).1],by have:=Ycn h;omega⟩
theorem Xyi{P:Program}{t:TypeId}(ht:P.underlying t=some (.int .i8)): Reads P t λd=>∃n:Int,d=.int .i8 n/\-128<=n/\n<128 :=
 (Xh6 ht λn h=>by
  have:=Yf4 h
  have e:IntKind.i8.wrap n=if n%256>=128 then n%256-256 else n%256:=by simp[IntKind.wrap,IntKind.bits,IntKind.signed]
  show IntKind.i8.wrap n=n
  rw[e];split<;>omega).mono λd ⟨z,e,h⟩=>⟨z,e,Yf4 h⟩
theorem Xt5{P:Program}{t:TypeId}(ht:P.underlying t=some (.int .i64)): Reads P t λd=>∃n:Int,d=.int .i64 n/\-9223372036854775808<=n/\n<9223372036854775808 :=
 (Xh6 ht λn h=>Num.wI (Yan h)).mono λd ⟨z,e,h⟩=>⟨z,e,Yan h⟩
theorem Xfd{P:Program}{t e:TypeId}{r:D->Prop}{sz:Nat}(ht:P.underlying t=some (.slice e))(he:Reads P e r)(hs:P.cellsOf e=sz)(h0:0<sz): Reads P t λd=>∃l:List D,d=.sl sz l/\l.length<9223372036854775808/\∀y∈l,r y:=by
 intro w H enc spare held fuel cs x h
 rcases DataW.trod_slice ht h with ⟨h1,_⟩ | ⟨a,len,cap,elems,rest,n,_,h1,_,hb,hl,hm,hlen,hel,_,_⟩
 . exact⟨_,⟨[],rfl,by decide,λy hy=>nomatch hy⟩,none,0,h1,by decide,by decide,.inl rfl⟩
 . have hcap:cap<9223372036854775808:=by
    have:maxLen<9223372036854775808:=by decide
    omega
   have hdat:∀i,i<len->∃cs' y,w.cells? 0 (a.add (i*P.cellsOf e)) (P.cellsOf e)=some cs'/\r y/\D.At (gw0 w) y cs':=λi hi=>by
    have h2:=hel i hi
    rw[W0c (by omega)] at h2
    obtain⟨cs',h3,h4⟩:=Option.bind_eq_some_iff.1 h2
    obtain⟨y,h5,h6⟩:=he w h4
    exact⟨cs',y,h3,h5,h6⟩
   have hlist:∀k,k<=len->∃ys:List D,ys.length=k/\∀i y,ys[i]?=some y->r y/\∃cs',w.cells? 0 (a.add (i*P.cellsOf e)) (P.cellsOf e)=some cs'/\D.At (gw0 w) y cs':=by
    intro k
    induction k with
    | zero=>intro _;exact⟨[],rfl,λi y h=>nomatch h⟩
    | succ k ih =>
     intro hk
     obtain⟨ys,h1,h2⟩:=ih (by omega)
     obtain⟨cs',y,h3,h4,h5⟩:=hdat k (by omega)
     refine⟨ys++[y],by simp[h1],λi z hz=>?_⟩
     by_cases hik:i<k
     . rw[W1a (by omega)] at hz;exact h2 i z hz
     . rw[W0u (by omega)] at hz
       by_cases hie:i=k
       . subst hie
         rw[h1,W3b] at hz
         injection hz with hz
         subst hz
         exact⟨h4,cs',h3,h5⟩
       . rw[W1x (by simp;omega)] at hz;cases hz
   obtain⟨ys,hy1,hy2⟩:=hlist len (W0a _)
   refine⟨_,⟨ys,rfl,by omega,λy hy=>?_⟩,some a,cap,by rw[h1,hy1],by omega,by omega,?_⟩
   . obtain⟨i,hi⟩:=W3a hy
     exact(hy2 i y hi).1
   by_cases hz:len=0
   . exact .inl (W0o (by omega))
   obtain⟨y0,hy0⟩:∃y,ys[0]?=some y:=⟨_,W0c (by omega)⟩
   obtain⟨_,cs0,h3,h4⟩:=hy2 0 y0 hy0
   obtain⟨_,hl0,hc0⟩:=World.cells?_some h3
   have hcell0:=hc0 0 (by omega)
   have e0:(a.add (0*P.cellsOf e)).add 0=a:=by rw[W4o];rfl
   rw[e0] at hcell0
   obtain⟨v0,hv0⟩:∃v,cs0[0]?=some v:=⟨_,W0c (by omega)⟩
   rw[hv0] at hcell0
   have hsp:a.spot=none:=by
    unfold World.cell? at hcell0
    split at hcell0
    . split at hcell0
      . cases hcell0
      . rename_i hs;cases hh:a.spot with
        | none=>rfl
        | some s=>rw[hh] at hs;simp at hs
    . cases hcell0
   obtain⟨b,off,sp⟩:=a
   have hsp':sp=none:=hsp
   subst hsp'
   have add0:∀(b off k:Nat),(⟨b,off,none⟩:Addr).add k=⟨b,off+k,none⟩:=λb off k=>by
    unfold Addr.add;split
    . rename_i h;subst h;rfl
    . rfl
   refine .inr ⟨b,off,rfl,?_⟩
   have row:∀(ys:List D) (k:Nat),(∀i y,ys[i]?=some y->∃cs',w.cells? 0 ((⟨b,off,none⟩:Addr).add ((k+i)*P.cellsOf e)) (P.cellsOf e)=some cs'/\D.At (gw0 w) y cs')->D.Row (gw0 w) b sz (off+k*sz) ys:=by
    intro ys
    induction ys with
    | nil=>intro k _;trivial
    | cons y ys ih =>
     intro k hh
     obtain⟨cs',h5,h6⟩:=hh 0 y rfl
     obtain⟨_,hl1,hc1⟩:=World.cells?_some h5
     refine⟨⟨cs',h6,by rw[<-D.at_len y h6,hl1,hs],λj v hj=>⟨?_,λh=>h⟩⟩,?_⟩
     . have hjl:j<P.cellsOf e:=by
        rw[<-hl1]
        by_cases h:j<cs'.length
        . exact h
        . rw[W1x (by omega)] at hj;cases hj
       have:=hc1 j hjl
       rw[add0,add0,hj,hs,W2n] at this
       exact this
     . have:=ih (k+1) λi y hi=>by
        obtain⟨cs',h5,h6⟩:=hh (i+1) y hi
        exact⟨cs',by rw[show k+1+i=k+(i+1) by omega];exact h5,h6⟩
       rw[W1h,W6q,<-W4r] at this
       exact this
   have:=row ys 0 λi y hi=>by
    rw[W1k];exact(hy2 i y hi).2
   rw[W4o,W2n] at this
   exact this
inductive FieldsRd (P:Program):List Field->Nat->(D->Prop)->Prop where
 | one {f:Field} {o:Nat} {r:D->Prop} (h1:f.offset=o) (h2:Reads P f.type r):FieldsRd P [f] o r
 | cons {f:Field} {fs:List Field} {o n:Nat} {r s:D->Prop} (h1:f.offset=o) (h2:Reads P f.type r) (h3:P.cellsOf f.type=n) (h4:FieldsRd P fs (o+n) s):FieldsRd P (f::fs) o (λd=>∃a c,d=.pr a c/\r a/\s c)
theorem FieldsRd.read{P:Program}{fs:List Field}{o:Nat}{r:D->Prop}(hf:FieldsRd P fs o r){w:World}{H:Type}{enc:TypeId×Value->H}{spare:Nat->Bool}{held:Bool}{n:Nat}{cs:List Value}
 (h:∀f∈fs,∃x,DataW.trod enc P w 0 spare held n f.type ((cs.drop f.offset).take (P.cellsOf f.type))=some x) (hl:∀f∈fs.getLast?,cs.length=f.offset+P.cellsOf f.type):∃d,r d/\D.At (gw0 w) d (cs.drop o):=by
 induction hf with
 | @one f o r h1 h2 =>
  obtain⟨x,hx⟩:=h f (W0l ..)
  have:=hl f rfl
  rw[W0b (by rw[W1l];omega),h1] at hx
  exact h2 w hx
 | @cons f fs o n r s h1 h2 h3 h4 ih =>
  obtain⟨x,hx⟩:=h f (W0l ..)
  rw[h1,h3] at hx
  obtain⟨i,hi,hi'⟩:=h2 w hx
  obtain⟨j,hj,hj'⟩:=ih (λg hg=>h g (W0p _ hg)) λg hg=>hl g (by cases fs with | nil=>cases hg | cons y ys=>rwa[List.getLast?_cons_cons])
  exact⟨.pr i j,⟨i,j,rfl,hi,hj⟩,_,_,by rw[<-W5x,W4n],hi',hj'⟩
theorem Xed{P:Program}{t:TypeId}{fs:Array Field}{r:D->Prop}(ht:P.underlying t=some (.struct fs))(hf:FieldsRd P fs.toList 0 r)(hs:∀f∈fs.toList.getLast?,P.cellsOf t=f.offset+P.cellsOf f.type): Reads P t λd=>∃a,d=.st a/\r a:=by
 intro w H enc spare held fuel cs x h
 obtain⟨xs,n,_,_,hl,hxl,hx⟩:=DataW.trod_struct ht h
 obtain⟨d,h1,h2⟩:=hf.read (w:=w) (enc:=enc) (spare:=spare) (held:=held) (n:=n) (cs:=cs) (λf hfm=>by
  obtain⟨i,hi⟩:=W3a hfm
  have hi':fs[i]?=some f:=by simpa using hi
  have hil:i<fs.size:=by
   by_cases h:i<fs.size
   . exact h
   . rw[W3u (by omega)] at hi';cases hi'
  exact⟨_,(hx i f hi').trans (W0c (by omega))⟩) (λf hf=>by rw[hl,hs f hf])
 exact⟨.st d,⟨d,rfl,h1⟩,h2⟩
end Go.Vm
namespace Go.Proofs.YtfjafaehfjjaiaaGreatDoor
open Go Go.Vm
def Yom: List (Nat×TI):=[(2,⟨.int .i64 0,.bool false,0,0⟩),(3,⟨.int .i64 0,.bool false,0,0⟩),(4,⟨.bool false,.bool false,0,0⟩),(5,⟨.int .u8 0,.bool false,0,0⟩),(9,⟨.str [],.bool false,0,0⟩),(23,⟨.sl 5 [],.st (.pr (.int .u8 0) (.pr (.int .u8 0) (.pr (.int .u8 0) (.pr (.int .i8 0) (.int .u8 0))))),5,0⟩),(24,⟨.sl 1 [],.int .u8 0,1,0⟩),(26,⟨.st (.pr (.sl 5 []) (.sl 1 [])),.bool false,0,0⟩),(27,⟨.sl 1 [],.int .i64 0,8,0⟩),(29,⟨.st (.pr (.st (.pr (.sl 5 []) (.sl 1 []))) (.sl 1 [])),.bool false,0,0⟩),(31,⟨.sl 1 [],.sl 4 [],24,0⟩),(32,⟨.sl 4 [],.st (.pr (.st (.pr (.bool false) (.sl 1 []))) (.st (.pr (.bool false) (.sl 1 [])))),64,0⟩),(34,⟨.st (.pr (.sl 1 []) (.sl 4 [])),.bool false,0,0⟩),(35,⟨.sl 7 [],.st (.pr (.st (.pr (.sl 1 []) (.sl 4 []))) (.st (.pr (.st (.pr (.st (.pr (.sl 1 []) (.sl 4 []))) (.st (.pr (.sl 1 []) (.sl 4 []))))) (.int .i64 0)))),152,0⟩),(37,⟨.st (.pr (.st (.pr (.sl 1 []) (.sl 4 []))) (.sl 7 [])),.bool false,0,0⟩),(38,⟨.sl 4 [],.st (.pr (.st (.pr (.sl 1 []) (.sl 4 []))) (.st (.pr (.sl 1 []) (.sl 4 [])))),96,0⟩),(41,⟨.int .i64 0,.bool false,0,0⟩),(50,⟨.st (.pr (.st (.pr (.sl 1 []) (.sl 4 []))) (.st (.pr (.sl 1 []) (.sl 4 [])))),.bool false,0,0⟩),(52,⟨.st (.pr (.st (.pr (.st (.pr (.sl 1 []) (.sl 4 []))) (.st (.pr (.sl 1 []) (.sl 4 []))))) (.int .i64 0)),.bool false,0,0⟩),(54,⟨.st (.pr (.st (.pr (.sl 1 []) (.sl 4 []))) (.st (.pr (.st (.pr (.st (.pr (.sl 1 []) (.sl 4 []))) (.st (.pr (.sl 1 []) (.sl 4 []))))) (.int .i64 0)))),.bool false,0,0⟩)]
def Yol: List (Nat×TI):=[(69,⟨.raw (.pointer none),.bool false,0,0⟩),(71,⟨.st (.int .i64 0),.bool false,0,0⟩),(76,⟨.raw .nilFunc,.bool false,0,0⟩),(85,⟨.raw .nilFunc,.bool false,0,0⟩),(88,⟨.sl 1 [],.int .u32 0,4,0⟩),(90,⟨.st (.pr (.bool false) (.sl 1 [])),.bool false,0,0⟩),(92,⟨.st (.pr (.st (.pr (.bool false) (.sl 1 []))) (.st (.pr (.bool false) (.sl 1 [])))),.bool false,0,0⟩),(103,⟨.st (.pr (.st (.pr (.st (.pr (.bool false) (.sl 1 []))) (.st (.pr (.bool false) (.sl 1 []))))) (.st (.pr (.st (.pr (.bool false) (.sl 1 []))) (.st (.pr (.bool false) (.sl 1 [])))))),.bool false,0,0⟩),(115,⟨.raw .nilFunc,.bool false,0,0⟩),(122,⟨.raw .nilFunc,.bool false,0,0⟩),(123,⟨.sl 2 [],.st (.pr (.sl 1 []) (.sl 4 [])),48,0⟩),(166,⟨.raw .nilFunc,.bool false,0,0⟩),(170,⟨.st (.pr (.sl 1 []) (.sl 1 [])),.bool false,0,0⟩),(178,⟨.int .u64 0,.bool false,0,0⟩),(184,⟨.int .u32 0,.bool false,0,0⟩),(185,⟨.int .u64 0,.bool false,0,0⟩),(186,⟨.raw (.pointer none),.bool false,0,0⟩),(188,⟨.st (.pr (.raw (.pointer none)) (.sl 1 [])),.bool false,0,0⟩),(212,⟨.int .i8 0,.bool false,0,0⟩),(214,⟨.st (.pr (.int .u8 0) (.pr (.int .u8 0) (.pr (.int .u8 0) (.pr (.int .i8 0) (.int .u8 0))))),.bool false,0,0⟩)]
def Yok: List (Nat×TI):=[(232,⟨.raw (.pointer none),.bool false,0,0⟩),(254,⟨.raw .nilFunc,.bool false,0,0⟩),(269,⟨.st (.pr (.int .u8 0) (.pr (.int .u8 0) (.pr (.int .u8 0) (.pr (.int .u8 0) (.pr (.int .u8 0) (.pr (.int .u8 0) (.pr (.int .u8 0) (.pr (.int .u8 0) (.pr (.int .u8 0) (.pr (.int .u8 0) (.pr (.int .u8 0) (.pr (.int .u8 0) (.pr (.int .u8 0) (.pr (.int .u8 0) (.pr (.int .u8 0) (.pr (.int .u8 0) (.pr (.int .u8 0) (.pr (.int .u8 0) (.pr (.int .u8 0) (.pr (.int .u8 0) (.pr (.int .u8 0) (.pr (.int .u8 0) (.pr (.int .u8 0) (.int .u8 0)))))))))))))))))))))))),.int .u8 0,1,24⟩),(297,⟨.st (.pr (.int .u64 0) (.pr (.int .u64 0) (.pr (.int .u64 0) (.pr (.int .u64 0) (.pr (.int .u64 0) (.pr (.int .u64 0) (.pr (.int .u64 0) (.pr (.int .u64 0) (.pr (.int .u64 0) (.pr (.int .u64 0) (.pr (.int .u64 0) (.pr (.int .u64 0) (.pr (.int .u64 0) (.pr (.int .u64 0) (.pr (.int .u64 0) (.pr (.int .u64 0) (.pr (.int .u64 0) (.pr (.int .u64 0) (.pr (.int .u64 0) (.int .u64 0)))))))))))))))))))),.int .u64 0,8,20⟩),(298,⟨.st (chD (.int .u8 0) 64),.int .u8 0,1,65⟩),(306,⟨.st (chD (.int .u8 0) 31),.int .u8 0,1,32⟩),(307,⟨.st (chD (.int .u8 0) 63),.int .u8 0,1,64⟩)]
def Yoj: List (Nat×TI):=Yom++Yol++Yok
theorem Xta: (Yoj.all λx=>tyB Tryz.prog x.1 x.2)=true:=by kernel_rfl
instance:Mx Tryz.prog:=⟨Checked.mixed Tryz.checked⟩
instance:Gb Tryz.prog:=⟨λW=>∀i,i<20->Fr W 0 i (.int .u64 ((10^i:Nat):Int)),λ_ _ l h i hi=>l _ _ _ (h i hi)⟩
instance:Tab Tryz.prog:=⟨Vm.look Yoj,λT ti h=>(Yaw Xta T ti h).1⟩
instance:Npr Tryz.prog:=⟨λT ti h=>(Yaw Xta T ti h).2⟩
end Go.Proofs.YtfjafaehfjjaiaaGreatDoor
namespace Go.Vm
open Go Go.ChangeShapes Go.WideShapes Go.ChangeAt Go.RowKit
def Arg(P:Program)(t:TypeId)(r:D->Prop): Prop:=∀(W:World) (base:Nat) {H:Type} {enc:TypeId×Value->H} {spare:Nat->Bool} {held:Bool} {v:Value} {d:DataW H} {p:List MemPlace},
 Value.okWide P W .any base t v->DataW.Trod enc P W 0 spare held t v d p->∃x,r x/\AV.V (gw0 W) θe (.d x) v
theorem Xse{P:Program}{t:TypeId}{fs:Array Field}{r:D->Prop}(ht:P.underlying t=some (.struct fs))(hr:Reads P t r)(hg:∀x,r x->x.ag=true): Arg P t r:=λW base _ _ _ _ v d p hok h=>by
 unfold Value.okWide at hok
 rw[ht] at hok
 obtain⟨cs,rfl,_⟩:=hok
 obtain⟨fuel,h⟩:=h
 obtain⟨x,h1,h2⟩:=hr W h
 exact⟨x,h1,cs.toList,h2,by rw[show AV.ag (.d x)=true from hg x h1];simp[mkv]⟩
theorem Yff{P:Program}{t:TypeId}{k:IntKind}{r:D->Prop}(ht:P.underlying t=some (.int k))(hr:Reads P t r)(hg:∀x,r x->x.ag=false): Arg P t r:=λW base _ _ _ _ v d p hok h=>by
 obtain⟨z,rfl⟩:=okWide_int ht hok
 obtain⟨fuel,h⟩:=h
 obtain⟨x,h1,h2⟩:=hr W h
 exact⟨x,h1,_,h2,by rw[show AV.ag (.d x)=false from hg x h1];rfl⟩
inductive Args (P:Program):List TypeId->(List D->Prop)->Prop where
 | nil:Args P [] (·=[])
 | cons {t:TypeId} {ts:List TypeId} {r:D->Prop} {R:List D->Prop} (h:Arg P t r) (hc:P.readableRec t=true) (hl:t<P.types.size) (k:Args P ts R):Args P (t::ts) λds=>∃x xs,ds=x::xs/\r x/\R xs
theorem Args.read{P:Program}{ts:List TypeId}{R:List D->Prop}(ha:Args P ts R){W:World}{base:Nat}{H:Type}{enc:TypeId×Value->H}{spare:Nat->Bool}{held:Bool}: ∀ {vs:List Value} {ds:List (DataW H)} {p:List MemPlace},
 (∀(j:Nat) t v,ts[j]?=some t->vs[j]?=some v->Value.okWide P W .any base t v)->DataW.TrodAll enc P W 0 spare held ts vs ds p->∃xs,R xs/\Xi3 (gw0 W) θe (xs.map .d) vs:=by
 induction ha with
 | nil=>intro vs ds p _ h;obtain⟨rfl,_⟩:=trodAll_nil h;exact⟨[],rfl,trivial⟩
 | cons h hc hl k ih =>
  intro vs ds p hv ht
  obtain⟨v,vs,d,ds',p,q,rfl,rfl,rfl,hd,hr⟩:=trodAll_cons ht
  obtain⟨x,h1,h2⟩:=h W base (hv 0 _ v rfl rfl) hd
  obtain⟨xs,h3,h4⟩:=ih (λj t v h5 h6=>hv (j+1) t v h5 h6) hr
  exact⟨x::xs,⟨x,xs,rfl,h1,h3⟩,h2,h4⟩
theorem Args.stay{P:Program}(hP:laidOutB P=true){ts:List TypeId}{R:List D->Prop}(ha:Args P ts R){W W':World}{H:Type}{enc:TypeId×Value->H}{spare':Nat->Bool}(hb:Below W.heap.size W W'): ∀ {vs:List Value} {ds:List (DataW H)} {p:List MemPlace},
 (∀x∈p,x.block<W.heap.size)->(∀x∈p,spare' x.block=true)->DataW.TrodAll enc P W 0 (λ_=>true) true ts vs ds p->DataW.TrodAll enc P W' 0 spare' true ts vs ds p:=by
 induction ha with
 | nil=>intro vs ds p _ _ h;obtain⟨rfl,rfl,rfl⟩:=trodAll_nil h;rfl
 | cons h hc hl k ih =>
  intro vs ds p h1 h2 ht
  obtain⟨v,vs,d,ds',p,q,rfl,rfl,rfl,hd,hr⟩:=trodAll_cons ht
  exact⟨p,q,WideElems.Trod_stays hP hc hl hd (λx hx=>hb.same (h1 x (by simp[hx]))) (λx hx=>h2 x (by simp[hx])),ih (λx hx=>h1 x (by simp[hx])) (λx hx=>h2 x (by simp[hx])) hr,rfl⟩
theorem Xkv{H:Type}{enc:TypeId×Value->H}{P:Program}{f:Func}{s:ChangeSpec}{Xby fresh handsOn again:Bool}{W W':World}{args:Array Value}{v:Value}{ds gs:List (DataW H)}{before pa pv:List MemPlace}
 (hW:DataW.Whole enc P f.params.toList s.vars Xby W args.toList ds gs before)
 (hres:∀(b:Nat) (sp:Nat->Bool) (hd:Bool),DataW.TrodAll enc P W' b sp hd f.resultTypes.toList (v.resultList f.resultTypes.size) (s.fn H (ds++gs)).results [])
 (hargs:∀sp:Nat->Bool,(∀p∈before,sp p.block=true)->DataW.TrodAll enc P W' 0 sp true f.params.toList args.toList (s.fn H (ds++gs)).args pa)
 (hvars:∀sp:Nat->Bool,(∀p∈before,sp p.block=true)->DataW.TrodVars enc P W' sp s.vars (s.fn H (ds++gs)).vars pv)
 (hps:before=pa++pv) (hb:Below W.heap.size W W')
 (hok:∀(j:Nat) (t:TypeId) (r:Value),f.resultTypes[j]?=some t->(v.resultList f.resultTypes.size)[j]?=some r->Value.okWide P W' .any 0 t r) :
 s.post enc P f Xby fresh handsOn again W args v W':=by
 have hlt:=hW.lt
 have hold:∀p∈before,(λb=>decide (b<W.heap.size)) p.block=true:=λp hp=>by simpa using hlt p hp
 refine⟨ds,gs,before,[],pa,pv,hW,hres _ _ _,hargs _ hold,hvars _ hold,World.keptBut_mono (λp hp=>⟨hp,?_⟩) (hb.frame (·∈before)),λ_=>?_⟩
 . rw[hps,W1s] at hp
   exact Or.inr hp
 . obtain⟨_,_,_,_,_,hz,hn⟩:=hW
   refine⟨hok,_,_,([]++pa)++pv,⟨[]++pa,pv,trodAll_append (hargs _ (λ_ _=>rfl)) (hres _ _ _),hvars _ (λ_ _=>rfl),rfl,?_,?_⟩,?_⟩
   . intro b off hp
     have hp':MemPlace.cell b off∈before:=by rw[hps];simpa using hp
     rw[hb.frozen (hlt _ hp')]
     exact hz b off hp'
   . intro ha
     have:=hn ha
     rw[hps] at this
     simpa using this
   . intro p hp _
     rw[hps]
     simpa using hp
theorem Yo0{P:Program}[gb:Gb P](hP:laidOutB P=true){tB:TypeId}(hB:P.underlying tB=some .bool){f:FuncId}{fn:Func}{s:ChangeSpec}{H:Type}{enc:TypeId×Value->H}{R:List D->Prop}(hp:Args P fn.params.toList R)(hr:fn.resultTypes=#[tB])(hv0:s.vars=[])
 (hs:∀ds:List (DataW H),ds.length=fn.params.size->s.fn H ds={ results:=[.lit (.bool true)],args:=ds })
 (law:∀xs,R xs->C P f (xs.map .d) (·=.b true))
 (W:World) (base:Nat) (args:Array Value) (ds gs:List (DataW H)) (before:List MemPlace)
 (hval:∀(j:Nat) t v,fn.params[j]?=some t->args[j]?=some v->Value.okWide P W .any base t v)
 (hW:DataW.Whole enc P fn.params.toList s.vars false W args.toList ds gs before) (hgb:gb.g (gw0 W)) :
 Calls P f args W λe W'=>∃v,e=.returned v/\s.post enc P fn false true false false W args v W':=by
 have hW':=hW
 have hlt:=hW.lt
 rw[hv0] at hW
 obtain⟨p,q,hA,hV,rfl,hfz,hnd⟩:=hW
 obtain⟨rfl,rfl⟩:=trodVars_none hV
 obtain⟨xs,h1,h2⟩:=hp.read (λj t v ht hv=>hval j t v (by simpa using ht) (by simpa using hv)) hA
 have hlen:ds.length=fn.params.size:=by
  have:∀ {sp:Nat->Bool} {hd:Bool} {ts:List TypeId} {vs:List Value} {ds:List (DataW H)} {p:List MemPlace},DataW.TrodAll enc P W 0 sp hd ts vs ds p->ds.length=ts.length:=by
   intro sp hd ts
   induction ts with
   | nil=>intro vs ds p h;obtain⟨_,rfl,_⟩:=trodAll_nil h;rfl
   | cons t ts ih=>intro vs ds p h;obtain⟨_,_,_,_,_,_,_,rfl,_,_,h⟩:=trodAll_cons h;simp[ih h]
  rw[this hA];simp
 have hfn:s.fn H (ds++[])={ results:=[.lit (.bool true)],args:=ds }:=by rw[W4l];exact hs ds hlen
 have hc:=(law xs h1).2 (gw0 W) args.toList hgb h2
 rw[show args.toList.toArray=args by simp] at hc
 refine hc.mono ?_
 rintro e w' ⟨W1,v1,u,rfl,rfl,hF,hv,_,rfl⟩
 have hb:Below W.heap.size W W1.w:=⟨hF.os,hF.tape,hF.out,hF.size,λk hk=>hF.same k hk id⟩
 have hu:u=.bool true:=by
  obtain⟨cs,h3,h4⟩:=hv
  have h3:cs=[.bool true]:=h3
  rw[h4,h3];rfl
 subst hu
 refine⟨_,rfl,Xkv (pa:=p) (pv:=[]) hW' (λ_ _ _=>?_) (λsp hsp=>?_) (λ_ _=>?_) (by simp) hb (ok_one hr rfl (okWide_bool_mk hB _))⟩
 . rw[hr,hfn]
   exact trodAll_mk1 (shut_bool hB _)
 . rw[hfn]
   exact hp.stay hP hb (λx hx=>hlt x (by simpa using hx)) (λx hx=>hsp x (by simpa using hx)) hA
 . rw[hv0,hfn];rfl
theorem Xzh{P:Program}{f:FuncId}{fn:Func}{s:ChangeSpec}{c:OpenClaim}
 (h1:(c.wf (OpenSpec.ofChange s)&&laidOutB P&&mapsRowed P)=true)
 (h2:(fn.params.all (P.readableRec ·)&&namedTie P c.named s.vars&&(c.stops == [])&&(P.stops == [])&&(c.knobs == [])&&(P.stopKnobs == []))=true)
 (h3:(c.inPlace==P.inPlace f)=true) (h4:(c.unfollowed==P.unfollowed f)=true) (h5:(c.recurses==P.recurses f)=true) (h6:(c.named==P.varsNamed f)=true)
 (h7:((c.maps==(fn.params.toList++s.plain.varTypes P).any (P.mapsRec ·))&&(c.ifaces==(fn.params.toList++s.plain.varTypes P).any (P.ifacesRec ·))&&(c.mapsOut==P.mapsAmong fn.resultTypes.toList) &&
  (c.loops==(fn.params.toList++s.plain.varTypes P).any (P.loopsFrom ·))&&(c.wideKeys==(fn.params.toList++s.plain.varTypes P++fn.resultTypes.toList).any (P.wideKeysFrom ·)))=true)
 (h8:(s.vars.all (P.varReadable ·)&&fn.resultTypes.all (λt=>P.readableRec t&&decide (t<P.types.size))&&(c.ifacesOut==fn.resultTypes.toList.any (P.ifacesRec ·))&&(c.loopsOut==fn.resultTypes.toList.any (P.loopsFrom ·))&&(c.plainKeys==P.plainKeys)&&c.shortTexts.isNone&&P.stopsHeard&&P.mayEnter)=true)
 (h9:((c.lifted==P.liftsFinal)&&(P.make==some c.make)&&(c.kinds==(if c.domain.isEmpty then [] else fn.params.toList.map λt=>match P.underlying t with | some (.int k)=>some k | _=>none))&&(c.pinned==c.pinnedBy))=true)
 (h10:((c.veiled==(fn.params.toList++s.plain.varTypes P++fn.resultTypes.toList).any (P.veiledRec ·))&&c.veiledFits P fn.params.toList (fn.params.toList++s.plain.varTypes P++fn.resultTypes.toList))=true):joinedFacts P f fn s c=true:=by
 unfold joinedFacts
 rw[W0g] at h10
 simp only[W0g] at h1 h2 h7 h8 h9 |-
 exact⟨⟨⟨⟨⟨⟨⟨⟨⟨⟨⟨⟨⟨⟨⟨⟨⟨⟨⟨⟨⟨⟨⟨⟨⟨⟨⟨⟨⟨⟨⟨h1.1.1,h1.1.2⟩,h1.2⟩,h2.1.1.1.1.1⟩,h2.1.1.1.1.2⟩,h2.1.1.1.2⟩,h2.1.1.2⟩,h2.1.2⟩,h2.2⟩,h3⟩,h4⟩,h5⟩,h6⟩,h7.1.1.1.1⟩,h7.1.1.1.2⟩,h7.1.1.2⟩,h7.1.2⟩,h7.2⟩,h8.1.1.1.1.1.1.1⟩,h8.1.1.1.1.1.1.2⟩,h8.1.1.1.1.1.2⟩,h8.1.1.1.1.2⟩,h8.1.1.1.2⟩,h8.1.1.2⟩,h8.1.2⟩,h8.2⟩,h9.1.1.1⟩,h9.1.1.2⟩,h9.1.2⟩,h9.2⟩,h10.1⟩,h10.2⟩
end Go.Vm
namespace Go.Proofs.YtfjafaehfjjaiaaGreatDoor
open Go Go.Vm Go.Num
theorem own: ownKnob Tryz.prog.godebug=none:=by kernel_rfl
theorem Yd4: laidOutB Tryz.prog=true:=by kernel_rfl
end Go.Proofs.YtfjafaehfjjaiaaGreatDoor

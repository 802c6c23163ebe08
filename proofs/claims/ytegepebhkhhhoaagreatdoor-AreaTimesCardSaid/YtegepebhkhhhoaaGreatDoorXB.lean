/- part 2 -/
import Derived.Test.YtegepebhkhhhoaaGreatDoorXA
import Derived.KernelRfl
import Derived.ProofKit
import Derived.OpenShut
import Derived.Test.YtegepebhkhhhoaaGreatDoorChecked
import Derived.Test.YtegepebhkhhhoaaGreatDoorRows
set_option linter.unusedVariables false
set_option linter.unusedSimpArgs false
set_option maxRecDepth 10000
namespace Go.Vm
open Go
section
section
variable{P:Program}{N:Nat->Prop}{W:GW}{θ:Loc}{g:Hp}{ρ:Operand->Value}
variable{tb:Nat->Option TI}{dd:Nat}{d:Option Nat}{ty:TypeId}{pos:String}{aft:Array Edge}{gd:Option (Nat×Bool)}{args:List AV}{v:AV}{us:List (Nat×Ob)}
theorem Stp.new0(h:Obs W θ N g){d:Nat}(hB:d<1000000)(hd:g d=none){x:Ob}(hx:x.R W (λi=>if i=d then (none,0) else θ i) d)(hi:∀i,¬x.ids i): Stp N W W θ (λi=>if i=d then (none,0) else θ i) g (upd g d x) where
 os:=_root_.rfl
 out:=_root_.rfl
 tape:=_root_.rfl
 size:=W0b _
 same:=λ_ _ _=>_root_.rfl
 A:=λ_ _ _ _=>W3p
 le:=LeF.refl W
 th:=λi y hy=>if_neg λe=>by rw[e,hd] at hy;cases hy
 hi:=λi h=>if_neg (by omega)
 obs:={
  r:=λo' y hy=>by
   rcases Xaf hy with ⟨e1,e2⟩ | ⟨e1,e2⟩
   . subst e1;subst e2;exact hx
   . exact(h.r o' y e2).keep (LeF.refl W) (if_neg e1) (λi hi=>if_neg λe=>by obtain⟨z,hz⟩:=h.ids o' y i e2 hi;rw[e,hd] at hz;cases hz) λ_ _ _=>⟨_root_.rfl,λ_ h=>h⟩
  new:=λo' y b hy hl hb=>by
   rcases Xaf hy with ⟨e1,e2⟩ | ⟨e1,e2⟩
   . subst e1;rw[if_pos _root_.rfl] at hb;cases hb
   . rw[if_neg e1] at hb;exact h.new o' y b e2 hl hb
  dis:=λo1 o2 y1 y2 b h1 h2 l1 l2 b1 b2=>by
   rcases Xaf h1 with ⟨e1,f1⟩ | ⟨e1,f1⟩
   . rw[if_pos e1] at b1;cases b1
   . rcases Xaf h2 with ⟨e2,f2⟩ | ⟨e2,f2⟩
     . rw[if_pos e2] at b2;cases b2
     . rw[if_neg e1] at b1;rw[if_neg e2] at b2;exact h.dis o1 o2 y1 y2 b f1 f2 l1 l2 b1 b2
  ids:=λo' y i hy hyi=>by
   rcases Xaf hy with ⟨e1,e2⟩ | ⟨e1,e2⟩
   . subst e2;exact absurd hyi (hi i)
   . obtain⟨z,hz⟩:=h.ids o' y i e2 hyi
     exact⟨z,by rw[Xak (λe=>by rw[e,hd] at hz;cases hz)];exact hz⟩ }
 dom:=λi y hy=>⟨y,by rw[Xak (λe=>by rw[e,hd] at hy;cases hy)];exact hy⟩
theorem Stp.kill(h:Obs W θ N g){o:Nat}{y:Ob}(ho:g o=some y): Stp N W W θ θ g (upd g o .dead) where
 os:=_root_.rfl
 out:=_root_.rfl
 tape:=_root_.rfl
 size:=W0b _
 same:=λ_ _ _=>_root_.rfl
 A:=λ_ _ _ _=>W3p
 le:=LeF.refl W
 th:=λ_ _ _=>_root_.rfl
 hi:=λ_ _=>_root_.rfl
 obs:={
  r:=λo' z hz=>by
   rcases Xaf hz with ⟨e1,e2⟩ | ⟨e1,e2⟩
   . subst e2;trivial
   . exact h.r o' z e2
  new:=λo' z b hz hl hb=>by
   rcases Xaf hz with ⟨e1,e2⟩ | ⟨e1,e2⟩
   . subst e2;cases hl
   . exact h.new o' z b e2 hl hb
  dis:=λo1 o2 y1 y2 b h1 h2 l1 l2 b1 b2=>by
   rcases Xaf h1 with ⟨e1,f1⟩ | ⟨e1,f1⟩
   . subst f1;cases l1
   . rcases Xaf h2 with ⟨e2,f2⟩ | ⟨e2,f2⟩
     . subst f2;cases l2
     . exact h.dis o1 o2 y1 y2 b f1 f2 l1 l2 b1 b2
  ids:=λo' z i hz hzi=>by
   have:∃w,g i=some w:=by
    rcases Xaf hz with ⟨e1,e2⟩ | ⟨e1,e2⟩
    . subst e2;exact hzi.elim
    . exact h.ids o' z i e2 hzi
   obtain⟨w,hw⟩:=this
   by_cases e:i=o
   . subst e;exact⟨_,Xai _ _ _⟩
   . exact⟨w,by rw[Xak e];exact hw⟩ }
 dom:=λi z hz=>by
  by_cases e:i=o
  . subst e;exact⟨_,Xai _ _ _⟩
  . exact⟨z,by rw[Xak e];exact hz⟩
theorem Ye5{o sz c n:Nat}{xs:List D}{p:Option Addr}(hn:n=xs.length)(hc:(θ o).2=c)(h1:(θ o).2=0\/p=ad (θ o).1)(h2:xs.length<=(θ o).2)(h3:(θ o).2<9223372036854775808)(h4:xs=[]\/∃b,(θ o).1=some b/\D.Row W b sz 0 xs):
 AV.V W θ (.gr o sz xs) (.slice p n c):=by subst hn;subst hc;exact⟨_,⟨p,rfl,h1,h2,h3,h4⟩,rfl⟩
theorem Xri(hO:Obs W θ N g)(hN:∀b,W.size<=b->N b)(hB:dd<1000000)(hd:g dd=none){sz c:Nat}{E:TypeId}{xs:List D}{cs zs:List Value}(ha:AtL W sz xs cs)(hl:cs.length=xs.length*sz)(hx:xs.length<=c)(hc:c<9223372036854775808)(hz:(cs++zs).length=c*sz):
 ∃W' θ',W'.w=W.w.alloc (.cells (cs++zs).toArray E)/\Stp N W W' θ θ' g (upd g dd (.tok xs.length sz))/\AV.V W' θ' (.gr dd sz xs) (.slice (some ⟨W.size,0,none⟩) xs.length c):=by
 have hp:∀q u,(cs++zs)[q]?=some u->(W.push (.cells (cs++zs).toArray E) (λi=>xs.length*sz<=i)).w.cell? ⟨W.size,q,none⟩=some u:=λq u hu=>by
  rw[<-hu];exact Xbb (Xbe ..) q
 refine⟨W.push (.cells (cs++zs).toArray E) (λi=>xs.length*sz<=i),_,rfl,Stp.push (c:=c) hO hN hB hd _ _ (x:=.tok xs.length sz) ⟨by simpa using hx,by simpa using hc,.inr ⟨W.size,cs++zs,E,by simp,Xbe ..,by simpa using hz,λi hi=>.inr ⟨rfl,hi⟩⟩⟩ (λi hi=>hi.elim),
  Ye5 rfl (by simp) (.inr (by simp[ad])) (by simpa using hx) (by simpa using hc) (.inr ⟨W.size,by simp,?_⟩)⟩
 refine(ha.mono (Xeq _ _ _)).row λq u hq hu=>?_
 rw[W1k]
 refine⟨hp q u (by rw[W0r (by omega)];exact hu),?_⟩
 rintro(h | ⟨_,h⟩)
 . exact absurd (W.hA _ _ h) (W7j _)
 . exact absurd h (by omega)
theorem Xzk{o sz c n b:Nat}{xs:List D}(h1:(θ o).1=some b)(hc:(θ o).2=c)(h2:n<=(θ o).2)(h3:(θ o).2<9223372036854775808): AV.V W θ (.own o sz 0 n) (.slice (some ⟨b,0,none⟩) n c):=by
 subst hc;exact⟨_,⟨b,_,h1,by omega,h3,rfl,λ_=>by rw[W4x]⟩,rfl⟩
theorem Xli(hO:Obs W θ N g)(hN:∀b,W.size<=b->N b)(hB:dd<1000000)(hd:g dd=none){sz c:Nat}{E:TypeId}{xs:List D}{cs zs:List Value}(ha:AtL W sz xs cs)(hl:cs.length=xs.length*sz)(hx:xs.length<=c)(hc:c<9223372036854775808)(hz:(cs++zs).length=c*sz):
 ∃W' θ',W'.w=W.w.alloc (.cells (cs++zs).toArray E)/\Stp N W W' θ θ' g (upd g dd (.arr sz xs))/\AV.V W' θ' (.own dd sz 0 xs.length) (.slice (some ⟨W.size,0,none⟩) xs.length c):=by
 refine⟨W.push (.cells (cs++zs).toArray E) (λi=>True),_,rfl,Stp.push (c:=c) hO hN hB hd _ _ (x:=.arr sz xs) ⟨W.size,cs++zs,E,by simp,Xbe ..,by simpa using hz,by simpa using hc,by simpa using hx,?_,λi=>.inr ⟨rfl,trivial⟩⟩ (λi hi=>hi.elim),
  Xzk (o:=dd) (xs:=xs) (by simp) (by simp) (by simpa using hx) (by simpa using hc)⟩
 exact(ha.mono (Xeq _ _ _)).ext λq v hq hv=>by rw[W0r (by omega)];exact hv
theorem Xco{T:TypeId}{x y:Operand}{r:Value}{w':World}(h:(Builtin.append_ #[T,T] ty #[ρ x,ρ y]).run P W.w=.ok r w'):
 (execOp ρ ⟨d,.call ⟨.builtin .append,#[x,y],#[T,T]⟩,ty,pos,aft,gd⟩).run P W.w=.ok (.value r) w':=by
 have h1:(execOp ρ ⟨d,.call ⟨.builtin .append,#[x,y],#[T,T]⟩,ty,pos,aft,gd⟩)=(Builtin.append_ #[T,T] ty #[ρ x,ρ y] >>= λv=>pure (.value v)):=by
  simp[execOp,resolve,invoke,builtin]
 rw[h1,Sem.run_bind,h];rfl
theorem Xrc{W:GW}{p:Option Addr}{sz:Nat}{xs:List D}(h:xs=[]\/∃b,p=some ⟨b,0,none⟩/\D.Row W b sz 0 xs): ∃olds:List Value,olds.length=xs.length*sz/\(xs.length=0\/∃b,p=some ⟨b,0,none⟩)/\(∀b,p=some ⟨b,0,none⟩->∀j u,olds[j]?=some u->Fr W b (0+j) u)/\AtL W sz xs olds:=by
 rcases h with rfl | ⟨b,rfl,h⟩
 . exact⟨[],by simp,.inl rfl,λ_ _ j u h=>by simp at h,λi x h=>by simp at h⟩
 . obtain⟨olds,k1,k2,_,k4⟩:=Xh7 h
   exact⟨olds,k1,.inr ⟨b,rfl⟩,λb' hb' j u hj=>by injection hb' with hb';injection hb' with hb';subst hb';exact k2 j u hj,k4⟩
theorem Xs2{T E:TypeId}{ti:TI}{ii:TypeInfo}(u1:P.underlying T=some (.slice E))(i1:P.info? E=some ii)(i2:ii.size=ti.e.size){b m c k c2:Nat}{q:Option Addr}{news:List Value}(hn:news.length=k*ti.e.size)
 (hnr:k=0\/∃b off,q=some ⟨b,off,none⟩/\∀j u,news[j]?=some u->W.w.cell? ⟨b,off+j,none⟩=some u) (hone:∀u∈news,Xfz u=true) (hk:0<k) (hroom:m+k<=c) {cs:List Value} {T':TypeId}
 (hb:W.w.heap[b]?=some (.cells cs.toArray T' (0,0))) (hl:cs.length=c*ti.e.size) :
 (Builtin.append_ #[T,T] ty #[.slice (some ⟨b,0,none⟩) m c,.slice q k c2]).run P W.w=.ok (.slice (some ⟨b,0,none⟩) (m+k) c) (Xhx W.w b (.cells (spl cs (m*ti.e.size) news).toArray T' (0,0))):=by
 rcases hnr with h | ⟨b2,off2,hq,hnc⟩
 . omega
 subst hq
 have hnl':news.length=k*ii.size:=by rw[hn,i2]
 have hnc':∀j u,news[j]?=some u->W.w.cell? ((⟨b2,off2,none⟩:Addr).add j)=some u:=λj u hj=>by rw[add0];exact hnc j u hj
 have hfit:m*ii.size+news.length<=cs.length:=by
  rw[hnl',hl,i2,<-W1h];exact W0o _ hroom
 have hf:=run_firstCells_some (P:=P) W.w ii.size k ⟨b2,off2,none⟩ k c2 news hnl' hnc'
 have hst:=Xcl (P:=P) (off:=0+m*ii.size) news W.w 0 cs hb (by omega) hone
 simp only[W2j,W1k] at hst
 rw[<-i2]
 simp[Builtin.append_,run_underlying u1,sizeOf,typeInfo,i1,Builtin.lenOf,hroom,hf,add0,hst]
theorem Yku{T T':TypeId}{x y:Operand}(hT:∀T ti,tb T=some ti->TyOk P T ti/\∀a c,ti.z≠.pr a c)(hO:Obs W θ N g)(hN:∀b,W.size<=b->N b)(hB:dd<1000000)(hF:F tb dd g (.call ⟨.builtin .append,#[x,y],#[T,T']⟩) args=some (v,us))(ha:Xbq W θ g ρ [x,y] args):
 Good P N W θ g ρ ⟨d,.call ⟨.builtin .append,#[x,y],#[T,T']⟩,ty,pos,aft,gd⟩ v (Xbi g us):=by
 simp only[F] at hF
 split at hF<;>try cases hF
 rename_i a c
 split at hF<;>try cases hF
 rename_i hTT
 subst hTT
 split at hF<;>try cases hF
 rename_i ti hti hd
 obtain⟨hk,hp⟩:=hT _ _ hti
 obtain⟨t,u1,_,u3⟩:=hk.u
 split at hF<;>try cases hF
 rename_i sz xs0 hz
 rw[hz] at u3
 obtain⟨E,e,hsz,hez,ii,v0,i1,i2,i3,i4,i5⟩:=u3
 subst e
 split at hF<;>try cases hF
 rename_i ys hys
 obtain⟨q,c2,news,ey,hk2,hnl,hnr,hn1,hna⟩:=Yhj hO hys ha.2.1.1
 rw[hsz] at hnl
 have hgd:∀ {o:Nat} {y:Ob},g o=some y->o≠dd:=λh e=>by rw[e,hd] at h;cases h
 unfold Xko at hF
 split at hF<;>try cases hF
 . split at hF<;>cases hF
   rename_i hr
   obtain⟨p,ex⟩:=Xn1 ha.1.1
   have hrun:=Xfx (P:=P) (W:=W) (ty:=ty) (ti:=ti) u1 i1 i2 i3 i4 i5 (p:=p) (m:=0) (c:=0) (k:=ys.length) (c2:=c2) (q:=q) (olds:=[]) (news:=news) (W0b _) (.inl rfl) (by simp) (λb _ j u hj=>by simp at hj) hnl hnr hn1 (by simpa using hr) hk2
   rcases hrun with ⟨h0,hrun⟩ | ⟨h0,h1,_⟩ | ⟨h0,c',zs,h1,h2,h3,hrun⟩
   . have hy0:ys=[]:=W0n h0
     subst hy0
     refine⟨W,_,_,Xco (by rw[ex,ey];exact hrun),Stp.new0 (d:=dd) hO hB hd (x:=.tok 0 sz) ⟨by simp,by simp,.inl (by simp)⟩ (λi h=>h),.inr ⟨_,rfl,Ye5 (o:=dd) (c:=0) (θ:=λi=>if i=dd then (none,0) else θ i) rfl (by simp) (.inl (by simp)) (by simp) (by simp) (.inl rfl)⟩,λi hi=>⟨_,by subst hi;exact Xai _ _ _⟩⟩
   . omega
   . simp only[W1k,W4b] at hrun h1 h3
     obtain⟨W',θ',e1,e2,e3⟩:=Xri (W:=W.tick) (θ:=θ) (g:=g) (dd:=dd) (E:=E) (zs:=zs) (Stp.tick hO).obs hN hB hd (hna.mono (Xfi W)) (by rw[hnl,hsz]) h1 h2 (by rw[hsz];exact h3)
     exact⟨W',θ',_,by rw[e1];exact Xco (by rw[ex,ey];exact hrun),(Stp.tick hO).trans e2,.inr ⟨_,rfl,e3⟩,λi hi=>⟨_,by subst hi;exact Xai _ _ _⟩⟩
 . rename_i s xs
   split at hF
   . cases hF
     rename_i hc
     obtain⟨hr,hy0,hs1⟩:=hc
     subst hs1
     obtain⟨b,ex,hxc,hrow⟩:=Xx1 ha.1.1
     obtain⟨olds,k1,k0,k2,k4⟩:=Xrc hrow
     have hol:olds.length=xs.length*ti.e.size:=by rw[k1,hsz]
     have hlenA:(xs++ys).length=xs.length+ys.length:=W0d
     have hrun:=Xfx (P:=P) (W:=W) (ty:=ty) (ti:=ti) u1 i1 i2 i3 i4 i5 (p:=b) (m:=xs.length) (c:=xs.length) (k:=ys.length) (c2:=c2) (q:=q) (olds:=olds) (news:=news) (W0b _) k0 hol (λb' hb' j u hj=>by
      have h2:=(k2 b' hb' j u hj).1
      rwa[W1k] at h2) hnl hnr hn1 hr hk2
     rcases hrun with ⟨h0,_⟩ | ⟨h0,h1,_⟩ | ⟨h0,c',zs,h1,h2,h3,hrun⟩
     . omega
     . omega
     . obtain⟨W',θ',e1,e2,e3⟩:=Xli (W:=W.tick) (θ:=θ) (g:=g) (dd:=dd) (E:=E) (sz:=s) (xs:=xs++ys) (cs:=olds++news) (c:=c') (zs:=zs) (Stp.tick hO).obs hN hB hd ((k4.app hna (by rw[hol,hsz])).mono (Xfi W)) (by rw[W0d,hol,hnl,hlenA,W1h,hsz]) (by rw[hlenA];exact h1) h2 (by rw[hsz];exact h3)
       rw[hlenA] at e3
       exact⟨W',θ',_,by rw[e1];exact Xco (by rw[ex,ey];exact hrun),(Stp.tick hO).trans e2,.inr ⟨_,rfl,e3⟩,λi hi=>⟨_,by subst hi;exact Xai _ _ _⟩⟩
   . split at hF<;>cases hF
     rename_i hc
     obtain⟨hr,hy0,hs1⟩:=hc
     subst hs1
     obtain⟨b,ex,hxc,hrow⟩:=Xx1 ha.1.1
     obtain⟨olds,k1,k0,k2,k4⟩:=Xrc hrow
     have hol:olds.length=xs.length*ti.e.size:=by rw[k1,hsz]
     have hlenA:(xs++ys).length=xs.length+ys.length:=W0d
     have hrun:=Xfx (P:=P) (W:=W) (ty:=ty) (ti:=ti) u1 i1 i2 i3 i4 i5 (p:=b) (m:=xs.length) (c:=xs.length) (k:=ys.length) (c2:=c2) (q:=q) (olds:=olds) (news:=news) (W0b _) k0 hol (λb' hb' j u hj=>by
      have h2:=(k2 b' hb' j u hj).1
      rwa[W1k] at h2) hnl hnr hn1 hr hk2
     rcases hrun with ⟨h0,hrun⟩ | ⟨h0,h1,_⟩ | ⟨h0,c',zs,h1,h2,h3,hrun⟩
     . exact⟨W,θ,_,Xco (by rw[ex,ey];exact hrun),Stp.rfl hO,.inr ⟨_,rfl,ex ▸ ha.1.1⟩,λi hi=>hi.elim⟩
     . omega
     . omega
 . rename_i o s xs
   split at hF<;>try cases hF
   rename_i n s' hg
   split at hF<;>cases hF
   rename_i hc
   obtain⟨hr,rfl,hs1,hs2⟩:=hc
   subst hs2;subst hs1
   obtain⟨p,ex,hpc,hxc,hc63,hrow⟩:=Yns ha.1.1
   obtain⟨_,_,htok⟩:=hO.r _ _ hg
   have hod:=hgd hg
   have hx:∃olds:List Value,olds.length=xs.length*ti.e.size/\(∀b,p=some ⟨b,0,none⟩->∀j u,olds[j]?=some u->W.w.cell? ⟨b,j,none⟩=some u)/\AtL W s xs olds:=by
    rcases hrow with h | ⟨b,hb,hr⟩
    . subst h;exact⟨[],by simp,λb _ j u hj=>by simp at hj,λi x h=>by simp at h⟩
    . obtain⟨cs,k1,k2,_,k4⟩:=Xh7 hr
      refine⟨cs,by rw[k1,hsz],λb' hb' j u hj=>?_,k4⟩
      have h2:=(k2 j u hj).1
      rw[W1k] at h2
      rcases hpc with h | h
      . have:xs.length=0:=by omega
        rw[this] at k1
        have:=Xbf hj
        omega
      . rw[h,hb] at hb';injection hb' with hb';injection hb' with hb';rw[<-hb'];exact h2
   obtain⟨olds,hol,hor,hoa⟩:=hx
   have hpc':(θ o).2=0\/∃b,p=some ⟨b,0,none⟩:=by
    rcases htok with ⟨h1,h2⟩ | ⟨b,cs,T',h1,_⟩
    . exact .inl h2
    . rcases hpc with h | h
      . exact .inl h
      . exact .inr ⟨b,by rw[h,h1];rfl⟩
   have hrun:=Xfx (P:=P) (W:=W) (ty:=ty) (ti:=ti) u1 i1 i2 i3 i4 i5 (p:=p) (m:=xs.length) (c:=(θ o).2) (k:=ys.length) (c2:=c2) (q:=q) (olds:=olds) (news:=news) hxc hpc' hol hor hnl hnr hn1 hr hk2
   have hkill:=Stp.kill hO hg
   have hdk:upd g o .dead dd=none:=by rw[Xak (λh=>hod h.symm)];exact hd
   have hlenA:(xs++ys).length=xs.length+ys.length:=W0d
   have fin:∀ {W':GW} {θ':Loc} {r:Value},(Builtin.append_ #[T,T] ty #[ρ x,ρ y]).run P W.w=.ok r W'.w->Stp N W W' θ θ' g (upd (upd g o .dead) dd (.tok (xs.length+ys.length) s))->AV.V W' θ' (.gr dd s (xs++ys)) r ->
    Good P N W θ g ρ ⟨d,.call ⟨.builtin .append,#[x,y],#[T,T]⟩,ty,pos,aft,gd⟩ (.gr dd s (xs++ys)) (Xbi g [(dd,.tok (xs.length+ys.length) s),(o,.dead)]):=λh1 h2 h3 =>
    ⟨_,_,_,Xco h1,h2,.inr ⟨_,rfl,h3⟩,λi hi=>⟨_,by subst hi;exact Xai _ _ _⟩⟩
   have hgp:∀i z,upd (upd g o .dead) dd (.tok (xs.length+ys.length) s) i=some z->(i=dd/\z=.tok (xs.length+ys.length) s)\/z=.dead\/(g i=some z/\i≠o):=λi z hz=>by
    rcases Xaf hz with h | ⟨h1,h2⟩
    . exact .inl h
    . rcases Xaf h2 with ⟨_,h⟩ | ⟨h3,h4⟩
      . exact .inr (.inl h)
      . exact .inr (.inr ⟨h4,h3⟩)
   have hdm:∀i z,g i=some z->∃z',upd (upd g o .dead) dd (.tok (xs.length+ys.length) s) i=some z':=λi z hz=>by
    have:i≠dd:=λh=>by rw[h,hd] at hz;cases hz
    rw[Xak this]
    by_cases e:i=o
    . subst e;exact⟨_,Xai _ _ _⟩
    . exact⟨z,by rw[Xak e];exact hz⟩
   have hth:∀i z,g i=some z->(λi=>if i=dd then θ o else θ i) i=θ i:=λi z hz=>if_neg λh=>by rw[h,hd] at hz;cases hz
   have hpos:0<ti.e.size:=D.size_pos _
   have inpl:∀ {b:Nat} {cs:List Value} {T':TypeId},(θ o).1=some b->W.w.heap[b]?=some (.cells cs.toArray T' (0,0))->cs.length=(θ o).2*s->(∀i,xs.length*s<=i->W.A b i)->p=some ⟨b,0,none⟩->xs.length+ys.length<=(θ o).2 ->
    (Builtin.append_ #[T,T] ty #[ρ x,ρ y]).run P W.w=.ok (.slice p (xs.length+ys.length) (θ o).2) (Xhx W.w b (.cells (spl cs (xs.length*ti.e.size) news).toArray T' (0,0))) ->
    Good P N W θ g ρ ⟨d,.call ⟨.builtin .append,#[x,y],#[T,T]⟩,ty,pos,aft,gd⟩ (.gr dd s (xs++ys)) (Xbi g [(dd,.tok (xs.length+ys.length) s),(o,.dead)]):=by
    intro b cs T' h1 h2 h3 h4 hp' hroom hrun
    have hfit:xs.length*s+news.length<=cs.length:=by
     rw[hnl,<-hsz,h3,<-W1h];exact W0o _ hroom
    have hsp:∀q,(spl cs (xs.length*s) news)[q]?=if xs.length*s<=q/\q<xs.length*s+news.length then news[q-xs.length*s]? else cs[q]?:=λq=>Xem _ _ _ _ hfit
    have hs':∀i v,¬W.A b i->cs[i]?=some v->(spl cs (xs.length*s) news)[i]?=some v:=λi v hA hv=>by
     rw[hsp,if_neg (λh=>hA (h4 i h.1))];exact hv
    have hle:=Xgd W b cs (spl cs (xs.length*s) news) T' (λi=>(xs.length+ys.length)*s<=i) h2 hs'
    have hput:=Stp.put hO (t:=dd) (x:=.tok (xs.length+ys.length) s) (B:=λi=>(xs.length+ys.length)*s<=i) hg rfl h1 h2 hs' (θ':=λi=>if i=dd then θ o else θ i) hth (λi h=>if_neg (by omega)) (by simp[h1]) hgp hdm
     ⟨by simpa using hroom,by simpa using hc63,.inr ⟨b,_,T',by simp[h1],Xa0 _ _ _ (Xaz h2),by simp[Xc0,h3],λi hi=>⟨h4 i (W0k (W0o _ (W5n _ _)) hi),λ_=>hi⟩⟩⟩ (λi hi=>hi.elim)
    rw[<-hsz] at hrun
    refine fin hrun hput (Ye5 (θ:=λi=>if i=dd then θ o else θ i) hlenA.symm (by simp) (.inr (by simp[hp',h1,ad])) (by rw[hlenA];simpa using hroom) (by simpa using hc63) (.inr ⟨b,by simp[h1],?_⟩))
    refine D.row_app (D.row_mono hle b s xs 0 (by
     rcases hrow with h | ⟨b',hb',hr⟩
     . subst h;trivial
     . rw[h1] at hb';injection hb' with hb';subst hb';exact hr)) ((hna.mono hle).row λq u hq hu=>⟨?_,?_⟩)
    . rw[show (W.put b (.cells (spl cs (xs.length*s) news).toArray T' (0,0)) (λi=>(xs.length+ys.length)*s<=i)).w.cell? ⟨b,0+xs.length*s+q,none⟩=_ from Xbb (Xa0 _ _ _ (Xaz h2)) _,W1k,hsp,if_pos (by have:=Xbf hu;omega),W3o]
      exact hu
    . rintro⟨_,h⟩
      have:=h rfl
      rw[W1h] at this
      omega
   rcases hrun with ⟨h0,hrun⟩ | ⟨h0,h1,hrun⟩ | ⟨h0,c',zs,h1,h2,h3,hrun⟩
   . have hy0:ys=[]:=W0n h0
     subst hy0
     have hn0:news=[]:=W0n (by simpa using hnl)
     subst hn0
     rcases htok with ⟨k1,k2⟩ | ⟨b,cs,T',k1,k2,k3,k4⟩
     . have hx0:xs=[]:=W0n (by omega)
       subst hx0
       exact fin (by rw[ex,ey];exact hrun) (hkill.trans (Stp.new0 (d:=dd) hkill.obs hB hdk (x:=.tok (([]:List D).length+([]:List D).length) s) ⟨by simp,by simp,.inl (by simp)⟩ (λi h=>h)))
        (Ye5 (o:=dd) (θ:=λi=>if i=dd then (none,0) else θ i) rfl (by simp[k2]) (.inl (by simp)) (by simp) (by simp) (.inl rfl))
     . rcases hpc with k5 | k5
       . have hx0:xs=[]:=W0n (by omega)
         subst hx0
         refine fin (by rw[ex,ey];exact hrun) (hkill.trans (Stp.new0 (d:=dd) hkill.obs hB hdk (x:=.tok (([]:List D).length+([]:List D).length) s) ⟨by simp,by simp,.inl (by simp)⟩ (λi h=>h)))
          (Ye5 (o:=dd) (θ:=λi=>if i=dd then (none,0) else θ i) rfl (by simp[k5]) (.inl (by simp)) (by simp) (by simp) (.inl rfl))
       . exact inpl k1 k2 k3 k4 (by rw[k5,k1];rfl) (by simpa using hxc) (by simp only[spl];rw[Xir k2,ex,ey];simpa using hrun)
   . rcases htok with ⟨k1,k2⟩ | ⟨b,cs,T',k1,k2,k3,k4⟩
     . omega
     . have hpb:p=some ⟨b,0,none⟩:=by
        rcases hpc with k5 | k5
        . omega
        . rw[k5,k1];rfl
       exact inpl k1 k2 k3 k4 hpb h1 (by rw[ex,ey];exact hrun b cs T' hpb k2 (by rw[k3,hsz]))
   . obtain⟨W',θ',e1,e2,e3⟩:=Xri (W:=W.tick) (θ:=θ) (g:=upd g o .dead) (dd:=dd) (E:=E) (sz:=s) (xs:=xs++ys) (cs:=olds++news) (c:=c') (zs:=zs) (Stp.tick hkill.obs).obs hN hB hdk ((hoa.app hna (by rw[hol,hsz])).mono (Xfi W)) (by rw[W0d,hol,hnl,hlenA,W1h,hsz]) (by rw[hlenA];exact h1) h2 (by rw[hsz];exact h3)
     rw[hlenA] at e2 e3
     exact fin (by rw[e1,ex,ey];exact hrun) ((hkill.trans (Stp.tick hkill.obs)).trans e2) e3
 . rename_i o s l n
   split at hF<;>try cases hF
   rename_i s' xs hg
   split at hF
   rotate_left
   . split at hF<;>cases hF
     rename_i hc
     obtain⟨hr,rfl,hnn,hs1,hs2⟩:=hc
     subst hs2;subst hs1
     obtain⟨b,p,h1,hxc,hc63,ex,hp5⟩:=Xhh ha.1.1
     have hpb:=hp5 (.inl rfl)
     rw[W4x] at hpb
     rw[W5y] at ex
     rw[W1k] at hxc
     obtain⟨b',cs,T',r1,h2,h3,r4,r5,r6,r7⟩:=hO.r _ _ hg
     rw[h1] at r1;injection r1 with r1;subst r1
     have hroom:n+ys.length<=(θ o).2:=by omega
     by_cases hy:ys.length=0
     . have hcn:n*s<=cs.length:=by rw[h3];exact W0o _ hxc
       have hol:(cs.take (n*s)).length=n*ti.e.size:=by rw[W0g,<-hsz];omega
       have hrun:=Xfx (P:=P) (W:=W) (ty:=ty) (ti:=ti) u1 i1 i2 i3 i4 i5 (p:=p) (m:=n) (c:=(θ o).2) (k:=ys.length) (c2:=c2) (q:=q) (olds:=cs.take (n*s)) (news:=news) hxc (.inr ⟨b,hpb⟩) hol (λb' hb' j u hj=>by
        rw[hpb] at hb';injection hb' with hb';injection hb' with hb';subst hb'
        rw[W1e] at hj
        split at hj
        . rw[Xbb h2];exact hj
        . cases hj) hnl hnr hn1 hr hk2
       rcases hrun with ⟨_,hrun⟩ | ⟨h0,_⟩ | ⟨h0,_⟩
       . have hy0:ys=[]:=W0n hy
         subst hy0
         have e1:xs.take n++[]++xs.drop (n+([]:List D).length)=xs:=by simp
         have e2:Xbi g [(o,Ob.arr s (xs.take n++[]++xs.drop (n+([]:List D).length)))]=g:=by
          rw[e1]
          funext i
          show upd g o (.arr s xs) i=g i
          by_cases hio:i=o
          . subst hio;rw[Xai];exact hg.symm
          . exact Xak hio
         rw[e2]
         exact⟨W,θ,_,Xco (by rw[ex,ey];exact hrun),Stp.rfl hO,.inr ⟨_,rfl,ex ▸ ha.1.1⟩,λi hi=>⟨_,by have hi:i=o:=hi;subst hi;exact hg⟩⟩
       . omega
       . omega
     have hk0:0<ys.length:=by omega
     have hrun:=Xs2 (P:=P) (W:=W) (ty:=ty) (ti:=ti) u1 i1 i2 (b:=b) (m:=n) (c:=(θ o).2) (c2:=c2) hnl hnr hn1 hk0 hroom h2 (by rw[h3,hsz])
     rw[<-hsz] at hrun
     have hfit:n*s+news.length<=cs.length:=by
      rw[hnl,<-hsz,h3,<-W1h];exact W0o _ hroom
     have hsp:∀q,(spl cs (n*s) news)[q]?=if n*s<=q/\q<n*s+news.length then news[q-n*s]? else cs[q]?:=λq=>Xem _ _ _ _ hfit
     have hs':∀i v,¬W.A b i->cs[i]?=some v->(spl cs (n*s) news)[i]?=some v:=λi v hA hv=>absurd (r7 i) hA
     have hle:=Xgd W b cs (spl cs (n*s) news) T' (λ_=>True) h2 hs'
     have hnw:(xs.take n++ys++xs.drop (n+ys.length)).length=xs.length:=by
      rw[W0d,W0d,W0g,W1j];omega
     have hput:=Stp.put hO (t:=o) (x:=.arr s (xs.take n++ys++xs.drop (n+ys.length))) (B:=λ_=>True) hg rfl h1 h2 hs' (θ':=θ) (g':=Xbi g [(o,Ob.arr s (xs.take n++ys++xs.drop (n+ys.length)))]) (λ_ _ _=>_root_.rfl) (λ_ _=>_root_.rfl) h1 (λi z hz=>by
      rcases Xaf hz with ⟨f1,f2⟩ | ⟨f1,f2⟩
      . exact .inl ⟨f1,f2⟩
      . exact .inr (.inr ⟨f2,f1⟩)) (λi z hz=>by
      by_cases hio:i=o
      . subst hio;exact⟨_,Xai _ _ _⟩
      . exact⟨z,by rw[show Xbi g [(o,Ob.arr s (xs.take n++ys++xs.drop (n+ys.length)))]=upd g o (.arr s (xs.take n++ys++xs.drop (n+ys.length))) from _root_.rfl,Xak hio];exact hz⟩)
      ⟨b,_,T',h1,Xa0 _ _ _ (Xaz h2),by rw[Xc0];exact h3,r4,by rw[hnw];exact r5,λi x hx=>by
       have hi:=Xbf hx
       rw[hnw] at hi
       by_cases ha':i<n
       . rw[W0r (by rw[W0d,W0g];omega),W0r (by rw[W0g];omega),W1e,if_pos ha'] at hx
         obtain⟨e1,e2,e3,e4⟩:=r6 i x hx
         refine⟨e1,D.mono hle _ e2,e3,λj v hj=>?_⟩
         have hjl:=Xbf hj
         rw[D.at_len x e2,e3] at hjl
         have:i*s+s<=n*s:=by rw[<-W2k];exact W0o _ ha'
         rw[hsp,if_neg (by omega)]
         exact e4 j v hj
       . by_cases hb':i<n+ys.length
         . rw[W0r (by rw[W0d,W0g];omega),W0q (by rw[W0g];omega),W0g,show min n xs.length=n by omega] at hx
           obtain⟨e1,e2,e3,e4⟩:=hna _ _ hx
           refine⟨e1,D.mono hle _ e2,e3,λj v hj=>?_⟩
           have hjl:=Xbf hj
           rw[D.at_len x e2,e3] at hjl
           have m1:n*s<=i*s:=W0o _ (by omega)
           have m2:i*s+s<=n*s+ys.length*s:=by rw[<-W2k,<-W1h];exact W0o _ (by omega)
           rw[hsp,if_pos (by rw[hnl,<-hsz];omega),show i*s+j-n*s=(i-n)*s+j by rw[W1f (i-n),Nat.mul_sub,W1f s i,W1f s n];omega]
           exact e4 j v hj
         . rw[W0q (by rw[W0d,W0g];omega),W0d,W0g,show min n xs.length=n by omega,W1q,show n+ys.length+(i-(n+ys.length))=i by omega] at hx
           obtain⟨e1,e2,e3,e4⟩:=r6 i x hx
           refine⟨e1,D.mono hle _ e2,e3,λj v hj=>?_⟩
           have m2:n*s+ys.length*s<=i*s:=by rw[<-W1h];exact W0o _ (by omega)
           rw[hsp,if_neg (by rw[hnl,<-hsz];omega)]
           exact e4 j v hj,λi=>⟨r7 i,λ_=>trivial⟩⟩ (λi hi=>hi.elim)
     refine⟨_,θ,_,Xco (by rw[ex,ey,hpb];exact hrun),hput,.inr ⟨_,_root_.rfl,?_⟩,λi hi=>⟨_,by have hi:i=o:=hi;subst hi;exact Xai _ _ _⟩⟩
     exact Xzk (xs:=xs) h1 _root_.rfl hroom hc63
   rename_i hc
   cases hF
   obtain⟨hr,rfl,rfl,hs1,hs2⟩:=hc
   subst hs2;subst hs1
   obtain⟨b,p,h1,hxc,hc63,ex,hp5⟩:=Xhh ha.1.1
   have hpb:=hp5 (.inl rfl)
   rw[W4x] at hpb
   rw[W5y] at ex
   rw[W1k] at hxc
   obtain⟨b',cs,T',r1,h2,h3,r4,r5,r6,r7⟩:=hO.r _ _ hg
   rw[h1] at r1;injection r1 with r1;subst r1
   have hod:=hgd hg
   have hmc:xs.length*s<=cs.length:=by rw[h3];exact W0o _ hxc
   have hol:(cs.take (xs.length*s)).length=xs.length*ti.e.size:=by rw[W0g,<-hsz];omega
   have hoa:AtL W s xs (cs.take (xs.length*s)):=AtL.ext r6 λq v hq hv=>by rw[W1e,if_pos hq];exact hv
   have hrun:=Xfx (P:=P) (W:=W) (ty:=ty) (ti:=ti) u1 i1 i2 i3 i4 i5 (p:=p) (m:=xs.length) (c:=(θ o).2) (k:=ys.length) (c2:=c2) (q:=q) (olds:=cs.take (xs.length*s)) (news:=news) hxc (.inr ⟨b,hpb⟩) hol (λb' hb' j u hj=>by
    rw[hpb] at hb';injection hb' with hb';injection hb' with hb';subst hb'
    rw[W1e] at hj
    split at hj
    . rw[Xbb h2];exact hj
    . cases hj) hnl hnr hn1 hr hk2
   have hkill:=Stp.kill hO hg
   have hdk:upd g o .dead dd=none:=by rw[Xak (λh=>hod h.symm)];exact hd
   have hlenA:(xs++ys).length=xs.length+ys.length:=W0d
   have fin:∀ {W':GW} {θ':Loc} {r:Value},(Builtin.append_ #[T,T] ty #[ρ x,ρ y]).run P W.w=.ok r W'.w->Stp N W W' θ θ' g (upd (upd g o .dead) dd (.arr s (xs++ys)))->AV.V W' θ' (.own dd s 0 (xs.length+ys.length)) r ->
    Good P N W θ g ρ ⟨d,.call ⟨.builtin .append,#[x,y],#[T,T]⟩,ty,pos,aft,gd⟩ (.own dd s 0 (xs.length+ys.length)) (Xbi g [(dd,.arr s (xs++ys)),(o,.dead)]):=λh1 h2 h3 =>
    ⟨_,_,_,Xco h1,h2,.inr ⟨_,rfl,h3⟩,λi hi=>⟨_,by subst hi;exact Xai _ _ _⟩⟩
   have hgp:∀i z,upd (upd g o .dead) dd (.arr s (xs++ys)) i=some z->(i=dd/\z=.arr s (xs++ys))\/z=.dead\/(g i=some z/\i≠o):=λi z hz=>by
    rcases Xaf hz with h | ⟨h1,h2⟩
    . exact .inl h
    . rcases Xaf h2 with ⟨_,h⟩ | ⟨h3,h4⟩
      . exact .inr (.inl h)
      . exact .inr (.inr ⟨h4,h3⟩)
   have hdm:∀i z,g i=some z->∃z',upd (upd g o .dead) dd (.arr s (xs++ys)) i=some z':=λi z hz=>by
    have:i≠dd:=λh=>by rw[h,hd] at hz;cases hz
    rw[Xak this]
    by_cases e:i=o
    . subst e;exact⟨_,Xai _ _ _⟩
    . exact⟨z,by rw[Xak e];exact hz⟩
   have hth:∀i z,g i=some z->(λi=>if i=dd then θ o else θ i) i=θ i:=λi z hz=>if_neg λh=>by rw[h,hd] at hz;cases hz
   have inpl:xs.length+ys.length<=(θ o).2->(Builtin.append_ #[T,T] ty #[ρ x,ρ y]).run P W.w=.ok (.slice p (xs.length+ys.length) (θ o).2) (Xhx W.w b (.cells (spl cs (xs.length*ti.e.size) news).toArray T' (0,0))) ->
    Good P N W θ g ρ ⟨d,.call ⟨.builtin .append,#[x,y],#[T,T]⟩,ty,pos,aft,gd⟩ (.own dd s 0 (xs.length+ys.length)) (Xbi g [(dd,.arr s (xs++ys)),(o,.dead)]):=by
    intro hroom hrun
    have hfit:xs.length*s+news.length<=cs.length:=by
     rw[hnl,<-hsz,h3,<-W1h];exact W0o _ hroom
    have hsp:∀q,(spl cs (xs.length*s) news)[q]?=if xs.length*s<=q/\q<xs.length*s+news.length then news[q-xs.length*s]? else cs[q]?:=λq=>Xem _ _ _ _ hfit
    have hs':∀i v,¬W.A b i->cs[i]?=some v->(spl cs (xs.length*s) news)[i]?=some v:=λi v hA hv=>absurd (r7 i) hA
    have hle:=Xgd W b cs (spl cs (xs.length*s) news) T' (λ_=>True) h2 hs'
    rw[<-hsz] at hrun
    refine fin hrun (Stp.put hO (t:=dd) (x:=.arr s (xs++ys)) (B:=λ_=>True) hg rfl h1 h2 hs' (θ':=λi=>if i=dd then θ o else θ i) hth (λi h=>if_neg (by omega)) (by simp[h1]) hgp hdm
     ⟨b,_,T',by simp[h1],Xa0 _ _ _ (Xaz h2),by simp[Xc0,h3],by simpa using hc63,by rw[hlenA];simpa using hroom,?_,λi=>⟨r7 i,λ_=>trivial⟩⟩ (λi hi=>hi.elim))
     (by rw[hpb];exact Xzk (o:=dd) (xs:=xs) (θ:=λi=>if i=dd then θ o else θ i) (by simp[h1]) (by simp) (by simpa using hroom) (by simpa using hc63))
    have:=(hoa.mono hle).app (hna.mono hle) (by rw[hol,hsz])
    refine AtL.ext this λq v hq hv=>?_
    rw[hlenA,W1h] at hq
    rw[hsp]
    by_cases hlt:q<xs.length*s
    . rw[if_neg (by omega)]
      rw[W0r (by rw[hol,<-hsz];exact hlt),W1e,if_pos hlt] at hv
      exact hv
    . rw[if_pos (by rw[hnl,<-hsz];omega)]
      rw[W0q (by rw[hol,<-hsz];omega),hol,<-hsz] at hv
      exact hv
   rcases hrun with ⟨h0,hrun⟩ | ⟨h0,k1,hrun⟩ | ⟨h0,c',zs,k1,k2,k3,hrun⟩
   . have hy0:ys=[]:=W0n h0
     subst hy0
     have hn0:news=[]:=W0n (by simpa using hnl)
     subst hn0
     exact inpl (by simpa using hxc) (by simp only[spl];rw[Xir h2,ex,ey];simpa using hrun)
   . exact inpl k1 (by rw[ex,ey];exact hrun b cs T' hpb h2 (by rw[h3,hsz]))
   . obtain⟨W',θ',e1,e2,e3⟩:=Xli (W:=W.tick) (θ:=θ) (g:=upd g o .dead) (dd:=dd) (E:=E) (sz:=s) (xs:=xs++ys) (cs:=cs.take (xs.length*s)++news) (c:=c') (zs:=zs) (Stp.tick hkill.obs).obs hN hB hdk ((hoa.app hna (by rw[hol,hsz])).mono (Xfi W)) (by rw[W0d,hol,hnl,hlenA,W1h,hsz]) (by rw[hlenA];exact k1) k2 (by rw[hsz];exact hsz ▸ k3)
     rw[hlenA] at e3
     exact fin (by rw[e1,ex,ey];exact hrun) ((hkill.trans (Stp.tick hkill.obs)).trans e2) e3
 . rename_i o s l n
   split at hF<;>try cases hF
   rename_i s' xs hg
   split at hF<;>try cases hF
   rename_i hc
   obtain⟨hr,rfl,hn,hs1,hs2⟩:=hc
   subst hs2;subst hs1
   obtain⟨b,p,h1,hnc,hc63,ex,h5⟩:=Xpl ha.1.1
   obtain⟨b',cs,T',r1,h2,h3,r4,r5,r6,r7⟩:=hO.r _ _ hg
   rw[h1] at r1;injection r1 with r1;subst r1
   have hpb:p=some ⟨b,0,none⟩:=by rw[h5 (.inl rfl),W4x]
   have hlt:(xs.take n).length=n:=by simp;omega
   have hlenA:(xs.take n++ys).length=n+ys.length:=by rw[W0d,hlt]
   have hcn:n*s<=cs.length:=by rw[h3];exact W0o _ (by omega)
   have hol:(cs.take (n*s)).length=n*ti.e.size:=by rw[W0g,hsz];rw[<-hsz] at *;omega
   have hoa:AtL W s (xs.take n) (cs.take (n*s)):=AtL.ext (cs:=cs) (λi x hx=>r6 i x (by
    rw[W1e] at hx
    split at hx
    . exact hx
    . cases hx)) λq v hq hv=>by rw[hlt] at hq;rw[W1e,if_pos hq];exact hv
   have hrun:=Xfx (P:=P) (W:=W) (ty:=ty) (ti:=ti) u1 i1 i2 i3 i4 i5 (p:=p) (m:=n) (c:=n) (k:=ys.length) (c2:=c2) (q:=q) (olds:=cs.take (n*s)) (news:=news) (W0b _) (.inr ⟨b,hpb⟩) hol (λb' hb' j u hj=>by
    rw[hpb] at hb';injection hb' with hb';injection hb' with hb';subst hb'
    rw[W1e] at hj
    split at hj
    . rw[Xbb h2];exact hj
    . cases hj) hnl hnr hn1 hr hk2
   by_cases hy0:ys.length=0
   . rw[if_pos hy0] at hF
     cases hF
     rcases hrun with ⟨h0,hrun⟩ | ⟨h0,_⟩ | ⟨h0,_⟩
     . exact⟨W,θ,_,Xco (by rw[ex,ey];exact hrun),Stp.rfl hO,.inr ⟨_,rfl,ex ▸ ha.1.1⟩,λi hi=>⟨_,by have hi:i=o:=hi;subst hi;exact hg⟩⟩
     . omega
     . omega
   . rw[if_neg hy0] at hF
     cases hF
     rcases hrun with ⟨h0,_⟩ | ⟨h0,h4,_⟩ | ⟨h0,c',zs,k1,k2,k3,hrun⟩
     . omega
     . omega
     . obtain⟨W',θ',e1,e2,e3⟩:=Xli (W:=W.tick) (θ:=θ) (g:=g) (dd:=dd) (E:=E) (sz:=s) (xs:=xs.take n++ys) (cs:=cs.take (n*s)++news) (c:=c') (zs:=zs) (Stp.tick hO).obs hN hB hd ((hoa.app hna (by rw[hol,hsz,hlt])).mono (Xfi W)) (by rw[W0d,hol,hnl,hlenA,W1h,hsz]) (by rw[hlenA];exact k1) k2 (by rw[k3,hsz])
       rw[hlenA] at e3
       exact⟨W',θ',_,by rw[e1];exact Xco (by rw[ex,ey];exact hrun),(Stp.tick hO).trans e2,.inr ⟨_,rfl,e3⟩,λi hi=>⟨_,by subst hi;exact Xai _ _ _⟩⟩
end
end
section
section
variable{P:Program}{N:Nat->Prop}{W:GW}{θ:Loc}{g:Hp}{ρ:Operand->Value}
variable{tb:Nat->Option TI}{dd:Nat}{args:List AV}{v:AV}{us:List (Nat×Ob)}
theorem Ykp{l:List Operand}{a:AV}(h:Xbq W θ g ρ l [a]): ∃x,l=[x]:=by
 match l,h with
 | [x],_=>exact⟨x,rfl⟩
theorem Yf1{l:List Operand}{a b:AV}(h:Xbq W θ g ρ l [a,b]): ∃x y,l=[x,y]:=by
 match l,h with
 | [x,y],_=>exact⟨x,y,rfl⟩
 | [_],h=>exact h.2.elim
 | _::_::_::_,h=>exact h.2.2.elim
def Xec: Op->Bool
 | .store _ _ _=>true
 | _=>false
theorem Ypy(hT:∀T ti,tb T=some ti->TyOk P T ti/\∀a c,ti.z≠.pr a c)(hO:Obs W θ N g)(hN:∀b,W.size<=b->N b)(hB:dd<1000000)(hy:∀u,ρ (.const u)=u){d:Option Nat}{op:Op}{ty:TypeId}{pos:String}{aft:Array Edge}{gd:Option (Nat×Bool)}
 (hs:Xec op=true->d=none) (hF:F tb dd g op args=some (v,us)) (ha:Xbq W θ g ρ op.operands.toList args):Good P N W θ g ρ ⟨d,op,ty,pos,aft,gd⟩ v (Xbi g us):=by
 have hT1:∀T ti,tb T=some ti->TyOk P T ti:=λT ti h=>(hT T ti h).1
 have pp:∀ {op:Op},F tb dd g op args=(match Fp tb op args with | some v=>some (v,[]) | none=>none)->F tb dd g op args=some (v,us)->Fp tb op args=some v/\us=[]:=by
  intro op h1 h2
  rw[h1] at h2
  split at h2<;>cases h2
  rename_i h;exact⟨h,rfl⟩
 cases op with
 | load T x=>obtain⟨rfl,h⟩:=Ymw (d:=d) (ty:=ty) (pos:=pos) (aft:=aft) (gd:=gd) hT hO hF ha;exact h
 | store T x y=>have:=hs rfl;subst this;exact Yl9 hT hO hF ha
 | alloc T =>
  have:args=[]:=by
   match args,ha with
   | [],_=>rfl
  subst this;exact Ynp hT hO hN hB hF
 | box T x=>exact Ynh hO hN hB hF ha
 | makeSlice T x y=>exact Ymt hT hO hN hB hF ha
 | move x=>obtain⟨h,rfl⟩:=pp rfl hF;exact Ymq hO h ha
 | assign x=>obtain⟨h,rfl⟩:=pp rfl hF;exact Yno hO h ha
 | pick c x y=>obtain⟨h,rfl⟩:=pp rfl hF;exact Yec hO h ha
 | extract x i=>obtain⟨h,rfl⟩:=pp rfl hF;exact Yjr hO h ha
 | unOp u T x=>obtain⟨h,rfl⟩:=pp rfl hF;exact Yl1 hO h ha
 | binOp o T x y T'=>obtain⟨h,rfl⟩:=pp rfl hF;exact Ykn hT1 hO h ha (λu e=>by rw[e];exact hy u)
 | convert S T x=>obtain⟨h,rfl⟩:=pp rfl hF;exact Yfp hT1 hO h ha
 | nilCheck x=>obtain⟨h,rfl⟩:=pp rfl hF;exact Yek hO h ha
 | fieldAddr T x f=>obtain⟨h,rfl⟩:=pp rfl hF;exact Yjq hT1 hO h ha
 | field T x f=>obtain⟨h,rfl⟩:=pp rfl hF;exact Yjm hT1 hO h ha
 | indexAddr T x y=>obtain⟨h,rfl⟩:=pp rfl hF;exact Yje hT1 hO h ha
 | index T x y=>obtain⟨h,rfl⟩:=pp rfl hF;exact Yjb hT1 hO h ha
 | slice T x lo hi mx =>
  obtain⟨h,rfl⟩:=pp rfl hF
  exact Yho hT1 hO h (by simpa [Op.operands] using ha)
 | build T ps =>
  obtain⟨h,rfl⟩:=pp rfl hF
  exact Ykk hT1 hO h (by simpa [Op.operands] using ha)
 | buildSlice T n ps =>
  obtain⟨h,rfl⟩:=pp rfl hF
  exact Ynj hT hO h (by simpa [Op.operands] using ha)
 | makeFunc fn a b =>
  obtain⟨h,rfl⟩:=pp rfl hF
  obtain⟨a⟩:=a
  obtain⟨b⟩:=b
  cases a with
  | cons x l=>simp[Fp] at h
  | nil=>cases b with
   | cons x l =>
    simp only[Fp] at h
    split at h
    . rename_i e;cases e
    . rename_i e
      cases e
      injection h with h
      subst h
      exact Yep hO (by simpa [Op.operands] using ha)
    . rename_i e
      cases e
      split at h<;>cases h
      rename_i hc
      exact Yeo hO (by simpa [Op.operands] using ha) hc
    . cases h
   | nil=>exact Yis (tb:=tb) (args:=args) hO h
 | call c =>
  obtain⟨cal,asx,tys⟩:=c
  cases cal with
  | builtin b =>
   have ha':Xbq W θ g ρ asx.toList args:=by simpa [Op.operands,Call.operands] using ha
   have has:asx=asx.toList.toArray:=by simp
   cases b with
   | len =>
    obtain⟨h,rfl⟩:=pp rfl hF
    have:∃a,args=[a]:=by
     simp only[Fp] at h
     split at h<;>try cases h
     exact⟨_,rfl⟩
    obtain⟨a,rfl⟩:=this
    obtain⟨x,hx⟩:=Ykp ha'
    rw[hx] at has ha';subst has
    exact Yi1 hT1 hO h ha'
   | cap =>
    obtain⟨h,rfl⟩:=pp rfl hF
    have:∃a,args=[a]:=by
     simp only[Fp] at h
     split at h<;>try cases h
     exact⟨_,rfl⟩
    obtain⟨a,rfl⟩:=this
    obtain⟨x,hx⟩:=Ykp ha'
    rw[hx] at has ha';subst has
    exact Ykg hT1 hO h ha'
   | min =>
    obtain⟨h,rfl⟩:=pp rfl hF
    have:∃a c,args=[a,c]:=by
     simp only[Fp] at h
     split at h<;>try cases h
     exact⟨_,_,rfl⟩
    obtain⟨a,c,rfl⟩:=this
    obtain⟨x,y,hx⟩:=Yf1 ha'
    rw[hx] at has ha';subst has
    exact Yiu hO h ha'
   | max =>
    obtain⟨h,rfl⟩:=pp rfl hF
    have:∃a c,args=[a,c]:=by
     simp only[Fp] at h
     split at h<;>try cases h
     exact⟨_,_,rfl⟩
    obtain⟨a,c,rfl⟩:=this
    obtain⟨x,y,hx⟩:=Yf1 ha'
    rw[hx] at has ha';subst has
    exact Yiw hO h ha'
   | append =>
    have:∃a c T T',args=[a,c]/\tys=#[T,T']:=by
     obtain⟨tl⟩:=tys
     match tl,hF with
     | [T,T'],hF =>
      simp only[F] at hF
      split at hF<;>try cases hF
      exact⟨_,_,T,T',rfl,rfl⟩
     | [],hF=>simp[F,Fp] at hF
     | [_],hF=>simp[F,Fp] at hF
     | _::_::_::_,hF=>simp[F,Fp] at hF
    obtain⟨a,c,T,T',rfl,rfl⟩:=this
    obtain⟨x,y,hx⟩:=Yf1 ha'
    rw[hx] at has ha';subst has
    exact Yku hT hO hN hB hF ha'
   | _=>simp[F,Fp] at hF
  | _=>simp[F,Fp] at hF
 | _=>simp[F,Fp] at hF
end
end
section
def ofV: Value->Option AV
 | .int k z=>match k.wrap z==z with
  | true=>some (.d (.int k z))
  | false=>none
 | .bool c=>some (.b c)
 | .string ⟨⟨s⟩⟩=>match Nat.blt s.length 9223372036854775808 with
  | true=>some (.d (.str s))
  | false=>none
 | .slice none 0 0=>some .nil
 | .func f a b=>some (.d (.raw (.func f a b)))
 | .pointer none=>some (.d (.raw (.pointer none)))
 | .nilFunc=>some (.d (.raw .nilFunc))
 | _=>none
def Xcr(e:Ev): Operand->Option AV
 | .tmp t=>e t
 | .const v=>ofV v
 | .func f=>some (.d (.raw (.func (.func f) #[] #[])))
 | .global _=>none
def getEs(e:Ev): List Operand->Option (List AV)
 | []=>some []
 | x::l=>match Xcr e x with
  | none=>none
  | some a=>match getEs e l with
   | none=>none
   | some asx=>some (a::asx)
abbrev S:=Ev×Hp
def S.put(s:S)(d:Option Nat)(v:AV): S:=match d with
 | some d=>(upd s.1 d v,s.2)
 | none=>s
noncomputable def eff(tb:Nat->Option TI)(o:Oper)(s:S): Option (AV×List (Nat×Ob)) :=
 match getEs s.1 o.op.operands.toList with
 | none=>none
 | some asx=>match Xec o.op&&o.dst.isSome with
  | true=>none
  | false=>F tb (o.dst.getD 0) s.2 o.op asx
def Xnj(ops:List Oper)(j:Nat): Option Nat:=match ops,j with
 | [],_=>none
 | o::_,0=>o.dst
 | _::l,j+1=>Xnj l j
def want(L:List Oper)(o:Oper)(s:S): Option Bool:=match o.guard with
 | none=>some true
 | some (j,b)=>match Xnj L j with
  | none=>none
  | some t=>match s.1 t with
   | some (.b c)=>some (c==b)
   | some .un=>some false
   | _=>none
def Xjo(W:GW)(θ:Loc): List AV->List Value->Prop
 | [],[]=>True
 | a::asx,v::vs=>AV.V W θ a v/\Xjo W θ asx vs
 | _,_=>False
def Ynw (P : Program) (f : FuncId) : Prop := ∃ fn, P.funcs[f]? = some fn ∧ (fn.name == "runtime.NumGoroutine") = false ∧ fn.body.isSome = true
class Gb (P:Program) where
 g:GW->Prop
 mono:∀W W',LeF W W'->g W->g W'
def CS(P:Program)[Gb P](f:FuncId)(asx:List AV)(g:Hp)(Post:AV->Hp->Prop): Prop :=
 Ynw P f/\∀(N:Nat->Prop) W θ vs,Gb.g P W->Obs W θ N g->(∀b,W.size<=b->N b)->(∀a∈asx,∀i,a.ids i->∃y,g i=some y)->Xjo W θ asx vs ->
  Calls P f vs.toArray W.w λe w'=>∃W' θ' v u g',e=.returned u/\W'.w=w'/\Stp N W W' θ θ' g g'/\AV.V W' θ' v u/\(∀i,v.ids i->∃y,g' i=some y)/\Post v g'
noncomputable def Xjt(tb:Nat->Option TI): List TypeId->List AV->List AV
 | T::Ts,a::asx=>(match tb T with
  | some ti=>match plain a,toD ti.z a with
   | true,some x=>.d x
   | _,_=>a
  | none=>a)::Xjt tb Ts asx
 | _,asx=>asx
def callee(e:Ev)(x:Operand): Option (FuncId×List AV):=match Xcr e x with
 | some (.d (.raw (.func (.func f) ⟨[]⟩ ⟨[]⟩)))=>some (f,[])
 | some (.fn f o)=>some (f,[.ptr o 0])
 | some (.fm f a)=>match okA a with
  | true=>some (f,unA a)
  | false=>none
 | _=>none
def aft(s:S)(o:Oper)(r:AV×List (Nat×Ob)): S:=S.put (s.1,Xbi s.2 r.2) o.dst r.1
def Nu(nw:Bool)(o:Oper)(us:List (Nat×Ob)): Prop:=us=[]\/(nw=true/\∃d ob,o.dst=some d/\us=[(d,ob)])
def Cd(P:Program)[Gb P](f:FuncId)(asx:List AV)(o:Oper)(g:Hp)(nw:Bool)(H0:Hp)(Q:AV×List (Nat×Ob)->Prop): Prop :=
 (nw=true->∃d,o.dst=some d/\g d=none)/\(∀i y,H0 i=some y->g i=some y/\∃a∈asx,a.ids i) /\
 ∀g,(∀i y,H0 i=some y->g i=some y)->(nw=true->∀d,o.dst=some d->g d=none)->CS P f asx g λv g'=>∃us,Nu nw o us/\g'=Xbi g us/\Q (v,us)
def Raw(P:Program)[Gb P](o:Oper)(s:S)(r:AV×List (Nat×Ob)): Prop :=
 ∀(N:Nat->Prop) (W:GW) (θ:Loc) (ρ:Operand->Value),(Gb.g P W/\∀g,ρ (.global g)=.pointer (some ⟨g,0,none⟩))->Obs W θ N s.2->(∀b,W.size<=b->N b)->o.dst.getD 0<1000000->(∀x v,Xcr s.1 x=some v->AV.V W θ v (ρ x))->Good P N W θ s.2 ρ o r.1 (Xbi s.2 r.2)
def Wb(P:Program)[Gb P](tb:Nat->Option TI)(dr:Bool)(o:Oper)(R:S->Prop)(s:S): Prop :=
 match o.op with
 | .call ⟨.value x,asx,tys⟩=>∃f ex vs,callee s.1 x=some (f,ex)/\getEs s.1 asx.toList=some vs/\match dr with
  | true=>∃nw H0 Q,Cd P f (Xjt tb tys.toList vs++ex) o s.2 nw H0 Q/\∀r,Nu nw o r.2->Q r->R (aft s o r)
  | false=>∃as' Post,(as'=Xjt tb tys.toList vs\/as'=vs)/\CS P f (as'++ex) s.2 Post/\∀v g',Post v g'->R (S.put (s.1,g') o.dst v)
 | _=>(∃r,eff tb o s=some r/\R (S.put (s.1,Xbi s.2 r.2) o.dst r.1))\/(dr=false/\∃r,Raw P o s r/\R (S.put (s.1,Xbi s.2 r.2) o.dst r.1))
def Wo(P:Program)[Gb P](tb:Nat->Option TI)(dr:Bool)(L:List Oper)(o:Oper)(R:S->Prop)(s:S): Prop :=
 (want L o s=some true/\Wb P tb dr o R s)\/(want L o s=some false/\∃d,o.dst=some d/\R (s.put (some d) .un))
section
variable{P:Program}{tb:Nat->Option TI}{W:GW}{θ:Loc}{n:Nat}
theorem Yie{v:Value}{a:AV}(h:ofV v=some a): AV.V W θ a v/\∀i,¬a.ids i:=by
 unfold ofV at h
 split at h<;>try cases h
 . split at h<;>cases h
   rename_i hw
   exact⟨int_V (by unfold inR;simpa using hw),λ_ h=>h⟩
 . exact⟨b_V _,λ_ h=>h⟩
 . split at h<;>cases h
   rename_i hb
   exact⟨Xoe (by simpa [Nat.blt_eq] using hb),λ_ h=>h⟩
 . exact⟨⟨_,⟨_,rfl⟩,rfl⟩,λ_ h=>h⟩
 . exact⟨⟨_,⟨rfl,rfl⟩,rfl⟩,λ_ h=>h⟩
 . exact⟨⟨_,⟨rfl,rfl⟩,rfl⟩,λ_ h=>h⟩
 . exact⟨⟨_,⟨rfl,rfl⟩,rfl⟩,λ_ h=>h⟩
theorem Xjd{W0:GW}{X:Nat->Prop}{s:S}{a:Act}(h:Sat W0 X n s a W θ){x:Operand}{v:AV}(hx:Xcr s.1 x=some v): AV.V W θ v (a.eval x)/\∀i,v.ids i->∃y,s.2 i=some y:=by
 cases x with
 | tmp t=>exact⟨h.rel.has t v hx,λi hi=>h.ids t v i hx hi⟩
 | const c=>have k:=Yie (W:=W) (θ:=θ) hx;exact⟨k.1,λi hi=>absurd hi (k.2 i)⟩
 | func f=>simp only[Xcr,Option.some.injEq] at hx;subst hx;exact⟨⟨_,⟨rfl,rfl⟩,rfl⟩,λ_ h=>h.elim⟩
 | global g=>simp[Xcr] at hx
theorem Xo8{W0:GW}{X:Nat->Prop}{s:S}{a:Act}(h:Sat W0 X n s a W θ): ∀ {l:List Operand} {vs:List AV},getEs s.1 l=some vs->Xbq W θ s.2 a.eval l vs
 | [],vs,hx=>by simp only[getEs] at hx;injection hx with hx;subst hx;trivial
 | x::l,vs,hx=>by
  simp only[getEs] at hx
  split at hx<;>try cases hx
  rename_i v hv
  split at hx<;>cases hx
  rename_i asx has
  exact⟨Xjd h hv,Xo8 h has⟩
theorem Xjv{W0:GW}{X:Nat->Prop}{s:S}{a:Act}(h:Sat W0 X n s a W θ){L:List Oper}{o:Oper}{c:Bool}(hw:want L o s=some c): Region.wanted o (yielded L.toArray a.tmps)=c:=by
 unfold want at hw
 unfold Region.wanted
 split at hw
 . rename_i hg;injection hw with hw;subst hw;rw[hg]
 . rename_i j b hg
   rw[hg]
   split at hw<;>try cases hw
   rename_i t ht
   have hd:∀(l:List Oper) j,Xnj l j=(l[j]?).bind (·.dst):=by
    intro l
    induction l with
    | nil=>intro j;simp[Xnj]
    | cons o l ih=>intro j;cases j with
     | zero=>rfl
     | succ j=>simp[Xnj,ih]
   rw[hd] at ht
   split at hw<;>cases hw
   . rename_i cc hv
     have h1:=V_b (h.rel.has t _ hv)
     have h2:a.tmps[t]?=some (.bool cc):=by
      simp only[Array.getD] at h1
      split at h1
      . rename_i hlt
        rw[W6y hlt]
        exact congrArg some h1
      . simp[undef] at h1
     simp[yielded,ht,h2]
   . rename_i hv
     have h1:a.tmps.getD t undef=undef:=h.rel.has t _ hv
     have h2:a.tmps[t]?=none\/a.tmps[t]?=some undef:=by
      simp only[Array.getD] at h1
      split at h1
      . rename_i hlt
        rw[W6y hlt]
        exact .inr (congrArg some h1)
      . rename_i hlt;exact .inl (W3x (by omega))
     rcases h2 with h2 | h2<;>simp[yielded,ht,h2,undef]
theorem Yhc{z:D}{a:AV}{x:D}(h:toD z a=some x)(hp:plain a=true): a.ag=x.ag:=by
 unfold toD at h
 split at h
 all_goals first
  | (injection h with h;subst h;rfl)
  | (cases hp;done)
  | (cases h;done)
  | (split at h<;>cases h;rfl)
theorem Xq5{g:Hp}{ρ:Operand->Value}(hT:∀T ti,tb T=some ti->TyOk P T ti/\∀a c,ti.z≠.pr a c): ∀ {Ts:List TypeId} {l:List Operand} {asx:List AV},Xbq W θ g ρ l asx ->
 Xjo W θ (Xjt tb Ts asx) (l.map ρ)/\∀a∈Xjt tb Ts asx,∀i,a.ids i->∃y,g i=some y
 | [],[],[],_=>⟨trivial,λa h=>by simp[Xjt] at h⟩
 | T::Ts,[],[],_=>⟨trivial,λa h=>by simp[Xjt] at h⟩
 | [],x::l,a::asx,h=>by
  have k:=Xq5 (Ts:=[]) hT h.2
  simp only[Xjt] at k |-
  exact⟨⟨h.1.1,k.1⟩,λb hb=>by
   rcases W1n.1 hb with e | e
   . subst e;exact h.1.2
   . exact k.2 b e⟩
 | T::Ts,x::l,a::asx,h=>by
  have k:=Xq5 (Ts:=Ts) hT h.2
  have key:∀b,b=a\/(∃x,b=.d x/\plain a=true/\∃z,toD z a=some x)->Xjo W θ (b::Xjt tb Ts asx) ((x::l).map ρ)/\∀c∈b::Xjt tb Ts asx,∀i,c.ids i->∃y,g i=some y:=by
   intro b hb
   rcases hb with rfl | ⟨y,rfl,hp,z,hz⟩
   . exact⟨⟨h.1.1,k.1⟩,λc hc=>by
      rcases W1n.1 hc with e | e
      . subst e;exact h.1.2
      . exact k.2 c e⟩
   . refine⟨⟨?_,k.1⟩,λc hc=>by
      rcases W1n.1 hc with e | e
      . subst e;exact λ_ h=>h.elim
      . exact k.2 c e⟩
     obtain⟨cs,hc,e⟩:=V_c h.1.1 (λb e=>by subst e;cases hp) (λe=>by subst e;cases hp)
     have h1:=Xml hz hc
     refine⟨cs,h1,?_⟩
     show ρ x=_
     rw[e]
     have:a.ag=y.ag:=Yhc hz hp
     rw[this];rfl
  simp only[Xjt]
  refine key _ ?_
  split
  . split
    . rename_i hp hx;exact .inr ⟨_,rfl,hp,_,hx⟩
    . exact .inl rfl
  . exact .inl rfl
 | _,[],_::_,h=>h.elim
 | _,_::_,[],h=>h.elim
end
end
section
def Nx(W0:GW)(X:Nat->Prop)(θ0:Loc)(n:Nat)(R:S->Prop)(a:Act)(w:World): Prop :=
 ∃s W θ,W.w=w/\Sat W0 X n s a W θ/\(∀i,1000000<=i->θ i=θ0 i)/\R s
theorem Nx.mono{W0:GW}{X:Nat->Prop}{θ0:Loc}{n:Nat}{R R':S->Prop}{a:Act}{w:World}(h:Nx W0 X θ0 n R a w)(k:∀s,R s->R' s): Nx W0 X θ0 n R' a w :=
 let ⟨s,W,θ,h1,h2,h3,h4⟩:=h;⟨s,W,θ,h1,h2,h3,k s h4⟩
def Xex(n:Nat)(o:Oper): Bool:=match o.dst with
 | none=>true
 | some d=>Nat.blt d n
section
variable{P:Program}[Gb P]{tb:Nat->Option TI}{W0:GW}{X:Nat->Prop}{θ0:Loc}{n:Nat}
theorem Xuh{s:S}{a:Act}{W W':GW}{θ θ':Loc}{g':Hp}{v:AV}{u:Value}{o:Oper}(h:Sat W0 X n s a W θ)(k:Stp (λb=>W0.size<=b\/X b) W W' θ θ' s.2 g')(hd:Xex n o=true)(hv:AV.V W' θ' v u)
 (hi:∀i,v.ids i->∃y,g' i=some y):Sat W0 X n (S.put (s.1,g') o.dst v) (a.put o.dst u) W' θ':=by
 have h1:=h.step0 k
 unfold Xex at hd
 cases e:o.dst with
 | none=>exact h1
 | some d =>
  rw[e] at hd
  exact h1.put (Xq8 hd) hv hi
theorem Yb4{a:AV}{W:GW}{θ:Loc}{cs:List Value}(h:Yb6 a=true)(hc:AV.C W θ a cs): ∃v,cs=[v]/\AV.V W θ a v:=by
 unfold Yb6 at h
 split at h<;>try cases h
 all_goals first
  | (obtain⟨b,h1,h2⟩:=hc;exact⟨_,h2,⟨_,⟨b,h1,rfl⟩,rfl⟩⟩)
  | (obtain⟨h1,h2⟩:=hc;exact⟨_,h1,⟨_,⟨rfl,h2⟩,rfl⟩⟩)
  | (exact⟨_,hc,⟨_,rfl,rfl⟩⟩)
theorem Yl2{W:GW}{θ:Loc}: ∀ {a:AV} {vs:List Value},okA a=true->AV.C W θ a vs->Xjo W θ (unA a) vs/\∀b∈unA a,∀i,b.ids i->a.ids i:=by
 intro a
 induction a with
 | pr a c _ ih =>
  intro vs h ⟨u,v,e,h1,h2⟩
  simp only[okA,W0f] at h
  obtain⟨w,rfl,hw⟩:=Yb4 h.1 h1
  obtain⟨k1,k2⟩:=ih h.2 h2
  subst e
  exact⟨⟨hw,k1⟩,λb hb i hi=>(W1n.1 hb).elim (λe=>.inl (e ▸ hi)) λhb=>.inr (k2 b hb i hi)⟩
 | _ =>
  intro vs h hc
  obtain⟨w,rfl,hw⟩:=Yb4 h hc
  exact⟨⟨hw,trivial⟩,λb hb i hi=>by rcases W0i.1 hb with rfl;exact hi⟩
theorem Ynr(hT:∀T ti,tb T=some ti->TyOk P T ti/\∀a c,ti.z≠.pr a c)(hn:n<=1000000/\Gb.g P W0){dr:Bool}{o:Oper}(hd:Xex n o=true){R:S->Prop}{Q:Exit->Act->World->Prop}{s:S}{a:Act}{W:GW}{θ:Loc}(hs:Sat W0 X n s a W θ)
 (hθ:∀i,1000000<=i->θ i=θ0 i) (h:Wb P tb dr o R s):o.wp P a W.w (Nx W0 X θ0 n R) Q:=by
 have hN:∀b,W.size<=b->(λb=>W0.size<=b\/X b) b:=λb hb=>.inl (W0k hs.fm.size hb)
 unfold Wb at h
 split at h
 . rename_i x asx tys he
   obtain⟨f,ex,vs,hc,hg,h⟩:=h
   have h:∃as' Post,(as'=Xjt tb tys.toList vs\/as'=vs)/\CS P f (as'++ex) s.2 Post/\∀v g',Post v g'->R (S.put (s.1,g') o.dst v):=by
    cases dr with
    | true =>
     obtain⟨nw,H0,Q,⟨h1,h2,h3⟩,h4⟩:=h
     exact⟨_,_,.inl rfl,h3 s.2 (λi y hi=>(h2 i y hi).1) (λhn d hd=>by obtain⟨d',e,k⟩:=h1 hn;rw[hd] at e;injection e with e;subst e;exact k),λv g' ⟨us,u1,u2,u3⟩=>by rw[u2];exact h4 (v,us) u1 u3⟩
    | false=>exact h
   obtain⟨as',Post,has',⟨⟨fn,f1,f2,f3⟩,hcs⟩,hR⟩:=h
   have ha:=Xo8 hs hg
   have hna:Xjo W θ as' (asx.toList.map a.eval)/\∀a∈as',∀i,a.ids i->∃y,s.2 i=some y:=by
    rcases has' with rfl | rfl
    . exact Xq5 (Ts:=tys.toList) hT ha
    . have:=Xq5 (Ts:=[]) hT ha
      simpa only [Xjt] using this
   have hb:¬fn.body=none:=λh=>by rw[h] at f3;cases f3
   have h2' : ¬ fn.name = "runtime.NumGoroutine" := by simpa using f2
   obtain⟨exs,hr,hex⟩:∃exs:List Value,(execOp a.eval o).run P W.w=.ok (.enter f (asx.toList.map a.eval++exs).toArray) W.w/\Xjo W θ ex exs/\∀a∈ex,∀i,a.ids i->∃y,s.2 i=some y:=by
    unfold callee at hc
    split at hc<;>try cases hc
    . rename_i hx
      have hx:a.eval x=.func (.func f) #[] #[]:=by
       obtain⟨⟨cs,⟨h1,_⟩,h2⟩,_⟩:=Xjd hs hx
       rw[h2,h1];rfl
      refine⟨[],?_,trivial,λa h=>by cases h⟩
      simp only[execOp,he,resolve,hx,Deferred.ofValue]
      simp[invoke,callFunc,program,bind,Sem.bind,Sem.run,pure,f1,h2',hb]
      apply Array.ext';simp
    . rename_i o' hx
      obtain⟨⟨cs,⟨b,h1,h2⟩,h3⟩,h4⟩:=Xjd hs hx
      have hx:a.eval x=.func (.func f) #[] #[.pointer (some ⟨b,0,none⟩)]:=by rw[h3,h2];rfl
      refine⟨[.pointer (some ⟨b,0,none⟩)],?_,⟨Xsj h1,trivial⟩,λa h i hi=>by rcases W0i.1 h with rfl;exact h4 i hi⟩
      simp only[execOp,he,resolve,hx,Deferred.ofValue]
      simp[invoke,callFunc,program,bind,Sem.bind,Sem.run,pure,f1,h2',hb]
      apply Array.ext';simp
    . rename_i a' hx
      split at hc<;>cases hc
      rename_i hq
      obtain⟨⟨cs,⟨vs',h1,h2⟩,h3⟩,h4⟩:=Xjd hs hx
      have hx:a.eval x=.func (.func f) #[] vs'.toArray:=by rw[h3,h2];rfl
      obtain⟨k1,k2⟩:=Yl2 hq h1
      refine⟨vs',?_,k1,λa h i hi=>h4 i (k2 a h i hi)⟩
      simp only[execOp,he,resolve,hx,Deferred.ofValue]
      simp[invoke,callFunc,program,bind,Sem.bind,Sem.run,pure,f1,h2',hb]
   have happ:∀ {l:List AV} {m:List Value},Xjo W θ l m->Xjo W θ (l++ex) (m++exs):=by
    intro l
    induction l with
    | nil=>intro m hm;cases m with
     | nil=>exact hex.1
     | cons _ _=>exact hm.elim
    | cons a l ih=>intro m hm;cases m with
     | nil=>exact hm.elim
     | cons _ _=>exact⟨hm.1,ih hm.2⟩
   unfold Oper.wp
   rw[hr,Oper.upon_enter]
   refine(hcs (λb=>W0.size<=b\/X b) W θ _ (Gb.mono W0 W hs.fm.le hn.2) hs.obs hN (λa ha=>(W1v.1 ha).elim (hna.2 a) (hex.2 a)) (happ hna.1)).mono ?_
   rintro e w' ⟨W',θ',v,u,g',rfl,rfl,hst,hv,hi,hp⟩
   exact⟨_,W',θ',rfl,Xuh hs hst hd hv hi,λi hi=>(hst.hi i hi).trans (hθ i hi),hR v g' hp⟩
 . have hdB:o.dst.getD 0<1000000:=by
    unfold Xex at hd
    cases e:o.dst with
    | none=>exact W5o _
    | some d=>rw[e] at hd;exact W0v (Xq8 hd) hn.1
   have hg:∃v us,Good P (λb=>W0.size<=b\/X b) W θ s.2 a.eval ⟨o.dst,o.op,o.type,o.pos,o.after,o.guard⟩ v (Xbi s.2 us)/\R (S.put (s.1,Xbi s.2 us) o.dst v):=by
    rcases h with ⟨⟨v,us⟩,he,hR⟩ | ⟨_,⟨v,us⟩,hw,hR⟩
    . unfold eff at he
      split at he<;>try cases he
      rename_i asx has
      split at he<;>try cases he
      rename_i hst
      exact⟨v,us,Ypy hT hs.obs hN hdB (λ_=>rfl) (λh=>by
       rw[h,Bool.true_and] at hst
       cases e:o.dst with
       | none=>rfl
       | some d=>rw[e] at hst;cases hst) he (Xo8 hs has),hR⟩
    . exact⟨v,us,hw _ W θ _ ⟨Gb.mono W0 W hs.fm.le hn.2,λ_=>rfl⟩ hs.obs hN hdB λx v hx=>(Xjd hs hx).1,hR⟩
   obtain⟨v,us,hg,hR⟩:=hg
   obtain⟨W',θ',r,hrun,hstp,hres,hi⟩:=hg
   unfold Oper.wp
   rw[show (execOp a.eval o).run P W.w=.ok r W'.w from hrun]
   rcases hres with ⟨rfl,h0⟩ | ⟨u,rfl,hv⟩
   . rw[Oper.upon_skip]
     have h0:o.dst=none:=h0
     rw[h0] at hR |-
     exact⟨_,W',θ',rfl,hs.step0 hstp,λi hi=>(hstp.hi i hi).trans (hθ i hi),hR⟩
   . rw[Oper.upon_value]
     exact⟨_,W',θ',rfl,Xuh hs hstp hd hv hi,λi hi=>(hstp.hi i hi).trans (hθ i hi),hR⟩
theorem Yf9(hT:∀T ti,tb T=some ti->TyOk P T ti/\∀a c,ti.z≠.pr a c)(hn:n<=1000000/\Gb.g P W0){dr:Bool}{L:List Oper}{o:Oper}(hd:Xex n o=true){R:S->Prop}{Q:Exit->Act->World->Prop}{a:Act}{w:World}
 (h:Nx W0 X θ0 n (Wo P tb dr L o R) a w):if Region.wanted o (yielded L.toArray a.tmps) then o.wp P a w (Nx W0 X θ0 n R) Q else Nx W0 X θ0 n R (a.put o.dst undef) w:=by
 obtain⟨s,W,θ,rfl,hs,hθ,h⟩:=h
 rcases h with ⟨h1,h2⟩ | ⟨h1,d,h2,h3⟩
 . rw[if_pos (Xjv hs h1)]
   exact Ynr hT hn hd hs hθ h2
 . rw[Xjv hs h1]
   unfold Xex at hd
   rw[h2] at hd |-
   exact⟨_,W,θ,rfl,hs.put (v:=.un) (Xq8 hd) rfl (λ_ h=>h.elim),hθ,h3⟩
omit [Gb P] in
theorem Ylw{o:Oper}{a:Act}{w:World}{K:Act->World->Prop}(h:o.wp P a w K (λ_ _ _=>False)): ∃a' w',K a' w':=by
 unfold Oper.wp at h
 generalize (execOp a.eval o).run P w=r at *
 cases r with
 | ok x w' =>
  cases x<;>simp only[Oper.upon] at h
  all_goals first
   | exact⟨_,_,h⟩
   | (obtain⟨e, w2, fr, hR, _⟩ := h []
      cases e with
      | returned v=>exact⟨_,_,hR⟩
      | panicked c=>exact hR.elim
      | outgrown=>obtain⟨_,_,h⟩:=hR;exact h.elim)
   | (obtain⟨v, w2, hR, _⟩ := h default []
      exact⟨_,_,hR⟩)
   | exact h.elim
 | halt x w'=>cases x<;>simp only[Oper.upon] at h<;>exact h.elim
theorem Nx.next(hT:∀T ti,tb T=some ti->TyOk P T ti/\∀a c,ti.z≠.pr a c)(hn:n<=1000000/\Gb.g P W0){dr:Bool}{L:List Oper}{o:Oper}(hd:Xex n o=true){R:S->Prop}{a:Act}{w:World}(h:Nx W0 X θ0 n (Wo P tb dr L o R) a w):
 ∃a' w',Nx W0 X θ0 n R a' w':=by
 have:=Yf9 (Q:=λ_ _ _=>False) hT hn hd h
 split at this
 . exact Ylw this
 . exact⟨_,_,this⟩
def WL(P:Program)[Gb P](tb:Nat->Option TI)(dr:Bool)(L:List Oper)(R:S->Prop): List Oper->S->Prop
 | [],s=>R s
 | o::l,s=>Wo P tb dr L o (WL P tb dr L R l) s
theorem Xyg(hT:∀T ti,tb T=some ti->TyOk P T ti/\∀a c,ti.z≠.pr a c)(hn:n<=1000000/\Gb.g P W0){L:List Oper}{R:S->Prop}{Q:Exit->Act->World->Prop}(hQ:∀a w,Nx W0 X θ0 n R a w->Q .normal a w)(l:List Oper):
 ∀(i:Nat) (a:Act) (w:World),L.drop i=l->(l.all (Xex n))=true->Nx W0 X θ0 n (WL P tb false L R l) a w->wpOps P L.toArray Q (List.range' i l.length) a w:=by
 induction l with
 | nil=>intro i a w _ _ h;exact hQ a w h
 | cons o l ih =>
  intro i a w hd hok h
  rw[List.all_cons,W0f] at hok
  have ho:L.toArray[i]?=some o:=by
   have h1:(L.drop i)[0]?=some o:=by rw[hd];rfl
   rw[W1q] at h1
   simpa using h1
  have hl:L.drop (i+1)=l:=by
   have:(L.drop i).drop 1=l:=by rw[hd];rfl
   rwa[W5x] at this
  rw[W0u,List.range'_succ]
  simp only[wpOps,ho]
  have:=Yf9 (Q:=Q) hT hn hok.1 h
  split at this
  . rename_i hw
    rw[if_pos hw]
    exact .inl (Oper.wp_mono (λa w h=>ih (i+1) a w hl hok.2 h) this)
  . rename_i hw
    rw[if_neg hw]
    exact ih (i+1) _ w hl hok.2 this
end
end
section
def Xg4: List Operand->List Nat
 | []=>[]
 | .tmp t::l=>t::Xg4 l
 | _::l=>Xg4 l
def inL(d:Nat): List Nat->Bool
 | []=>false
 | x::l=>Nat.beq d x||inL d l
def Xom(L:List Oper)(o:Oper): List Nat:=(match o.guard with
 | none=>[]
 | some (j,_)=>(Xnj L j).toList)++Xg4 o.op.operands.toList
def cls: Op->Nat
 | .load _ _=>1
 | .alloc _ | .box _ _ | .makeSlice _ _ _=>2
 | .store _ _ _=>3
 | .call ⟨.builtin .append,_,_⟩=>3
 | .call ⟨.value _,_,_⟩=>4
 | _=>0
def Yao: Nat->Nat->Bool
 | 0,_=>true
 | _,0=>true
 | 1,1 | 1,2 | 2,1 | 2,2=>true
 | 4,1 | 4,2 | 1,4 | 2,4=>true
 | _,_=>false
def Xb4(L:List Oper)(d:Option Nat)(o:Oper): Bool:=match d with
 | none=>true
 | some d=>!inL d (Xom L o) && !inL d o.dst.toList
def Xlt(L:List Oper)(k i:Oper): Bool:=Xb4 L k.dst i&&Xb4 L i.dst k&&Yao (cls k.op) (cls i.op)&&(!(Nat.beq (cls k.op) 2)||k.dst.isSome)&&(!(Nat.beq (cls i.op) 2)||i.dst.isSome)
theorem Ym1{d:Nat}{l:List Nat}: inL d l=true↔d∈l:=by
 induction l with
 | nil=>simp[inL]
 | cons x l ih=>simp[inL,ih,Nat.beq_eq]
section
variable{P:Program}[Gb P]{tb:Nat->Option TI}
theorem Xz1{e:Ev}{d:Nat}{v:AV}{x:Operand}(h:d ∉ Xg4 [x]): Xcr (upd e d v) x=Xcr e x:=by
 cases x with
 | tmp t=>simp only[Xg4,W0i] at h;exact Xak (λe=>h e.symm)
 | _=>rfl
theorem Xb5(x:Operand)(l:List Operand): Xg4 (x::l)=Xg4 [x]++Xg4 l:=by cases x<;>rfl
theorem Xm9{e:Ev}{d:Nat}{v:AV}: ∀ {l:List Operand},d ∉ Xg4 l->getEs (upd e d v) l=getEs e l
 | [],_=>rfl
 | x::l,h=>by
  rw[Xb5] at h
  simp only[getEs]
  rw[Xz1 (λk=>h (W2x _ k)),Xm9 (λk=>h (W1u _ k))]
theorem Xyj{L:List Oper}{o:Oper}{s:S}{d:Option Nat}{v:AV}{g:Hp}(h:Xb4 L d o=true): want L o (S.put (s.1,g) d v)=want L o s:=by
 cases d with
 | none=>rfl
 | some d =>
  simp only[Xb4,W0f,W1t] at h
  unfold want
  split
  . rfl
  . rename_i j b hg
    split
    . rfl
    . rename_i t ht
      have:t≠d:=λe=>by
       have h1:d ∉ Xom L o:=λhh=>by rw[Ym1.2 hh] at h;exact absurd h.1 (by simp)
       apply h1
       simp[Xom,hg,ht,e]
      simp only[S.put]
      rw[Xak this]
theorem Yfi{L:List Oper}{o:Oper}{s:S}{d:Option Nat}{v:AV}{g:Hp}(h:Xb4 L d o=true): eff tb o (S.put (s.1,g) d v)=eff tb o (s.1,g):=by
 cases d with
 | none=>rfl
 | some d =>
  simp only[Xb4,W0f,W1t] at h
  have h1:d ∉ Xg4 o.op.operands.toList:=λhh=>by
   rw[show inL d (Xom L o)=true from Ym1.2 (W1u _ hh)] at h;exact absurd h.1 (by simp)
  unfold eff
  simp only[S.put]
  rw[Xm9 h1]
noncomputable def efw(tb:Nat->Option TI)(L:List Oper)(o:Oper)(s:S): Option (AV×List (Nat×Ob)):=match want L o s with
 | some true=>eff tb o s
 | some false=>match o.dst with
  | some _=>some (.un,[])
  | none=>none
 | none=>none
def Xal(o:Oper): Bool:=Nat.beq (cls o.op) 4
theorem Xpk{dr:Bool}{o:Oper}(h:Xal o=false){R:S->Prop}{s:S}: Wb P tb dr o R s↔(∃r,eff tb o s=some r/\R (aft s o r))\/(dr=false/\∃r,Raw P o s r/\R (aft s o r)):=by
 unfold Wb
 split
 . rename_i x asx tys he
   simp[Xal,cls,he] at h
 . exact W3p
theorem Yky{o:Oper}(h:Xal o=false){R:S->Prop}{s:S}: Wb P tb true o R s↔∃r,eff tb o s=some r/\R (aft s o r) :=
 (Xpk h).trans ⟨λh=>h.elim id λh=>(nomatch h.1),.inl⟩
theorem Xfh{L:List Oper}{o:Oper}(h:Xal o=false){R:S->Prop}{s:S}: Wo P tb true L o R s↔∃r,efw tb L o s=some r/\R (aft s o r):=by
 unfold Wo efw
 cases hw:want L o s with
 | none=>simp
 | some c =>
  cases c with
  | true=>simp[Yky h]
  | false =>
   cases hd:o.dst with
   | none=>simp
   | some d=>simp[aft,S.put,Xbi,hd]
theorem Yfh{L:List Oper}{o:Oper}{s:S}{d:Option Nat}{v:AV}{g:Hp}(h:Xb4 L d o=true): efw tb L o (S.put (s.1,g) d v)=efw tb L o (s.1,g):=by
 unfold efw
 rw[Xyj h,Yfi h]
 rfl
theorem Xl6(c:Call): cls (.call c)=0\/cls (.call c)=3\/cls (.call c)=4:=by
 obtain⟨cal,asx,tys⟩:=c
 cases cal with
 | builtin b=>cases b<;>first | exact .inl rfl | exact .inr (.inl rfl)
 | value x=>exact .inr (.inr rfl)
 | invoke x m=>exact .inl rfl
theorem Ypq{o:Oper}(hc:cls o.op=0){e:Ev}{g:Hp}{r:AV×List (Nat×Ob)}(h:eff tb o (e,g)=some r): r.2=[]/\∀g',eff tb o (e,g')=some r:=by
 unfold eff at h |-
 split at h<;>try cases h
 rename_i asx has
 split at h<;>try cases h
 rename_i hst
 have key:∀g,F tb (o.dst.getD 0) g o.op asx=(match Fp tb o.op asx with | some v=>some (v,[]) | none=>none):=by
  intro g
  unfold F
  split<;>first | rfl | (rename_i he;rw[he] at hc;cases hc)
 rw[key] at h
 split at h<;>cases h
 rename_i v hv
 refine⟨rfl,λg'=>?_⟩
 simp only[has,hst,key,hv]
theorem Yna{o:Oper}(hc:cls o.op=1){e:Ev}{g:Hp}{r:AV×List (Nat×Ob)}(h:eff tb o (e,g)=some r): r.2=[]/\(∀d ob,g d=none->eff tb o (e,upd g d ob)=some r):=by
 unfold eff at h |-
 split at h<;>try cases h
 rename_i asx has
 split at h<;>try cases h
 rename_i hst
 have:∃T x,o.op=.load T x:=by
  cases ho:o.op<;>rw[ho] at hc<;>first | exact⟨_,_,rfl⟩ | (cases hc;done) | (rename_i c;have:=Xl6 c;omega)
 obtain⟨T,x,ho⟩:=this
 simp only[ho] at h has |-
 simp only[F] at h
 split at h<;>try cases h
 rename_i ti hti
 split at h<;>try cases h
 . split at h<;>cases h
   rename_i hf
   exact⟨rfl,λd ob hg=>by simp[has,F,hti,hf,Xec]⟩
 . split at h<;>try cases h
   rename_i a ha
   split at h<;>cases h
   rename_i y hy
   refine⟨rfl,λd ob hg=>?_⟩
   have:∀ {o},g o=some (.var a)->upd g d ob o=some (.var a):=λho=>by rw[Xak (λe=>by rw[e,hg] at ho;cases ho)];exact ho
   simp[has,F,hti,this ha,hy,Xec]
 . split at h<;>try cases h
   rename_i sz xs ha
   split at h<;>try cases h
   rename_i hs
   split at h<;>try cases h
   rename_i x' hx
   split at h<;>cases h
   rename_i y hy
   refine⟨rfl,λd ob hg=>?_⟩
   have:∀ {o sz xs},g o=some (.arr sz xs)->upd g d ob o=some (.arr sz xs):=λho=>by rw[Xak (λe=>by rw[e,hg] at ho;cases ho)];exact ho
   simp[has,F,hti,this ha,hs,hx,hy,Xec]
theorem Xwa{e:Ev}{g:Hp}(hc:∀t v i,e t=some v->v.ids i->∃y,g i=some y): ∀ {l:List Operand} {asx:List AV},getEs e l=some asx->∀a∈asx,∀i,a.ids i->∃y,g i=some y
 | [],asx,h,a,ha=>by simp only[getEs] at h;injection h with h;subst h;cases ha
 | x::l,asx,h,a,ha=>by
  simp only[getEs] at h
  split at h<;>try cases h
  rename_i v hv
  split at h<;>cases h
  rename_i bs hbs
  rcases W1n.1 ha with e1 | e1
  . subst e1
    intro i hi
    cases x with
    | tmp t=>exact hc t a i hv hi
    | const c=>exact absurd hi ((Yie (W:=⟨default,λ_ _=>False,λ_ _ h=>h.elim⟩) (θ:=λ_=>(none,0)) hv).2 i)
    | func f=>simp only[Xcr,Option.some.injEq] at hv;subst hv;exact hi.elim
    | global g=>simp[Xcr] at hv
  . exact Xwa hc hbs a e1
theorem Yjy{o:Oper}(hc:cls o.op=1){e:Ev}{g:Hp}{d:Nat}{ob:Ob}{r:AV×List (Nat×Ob)}(hd:g d=none)(hcl:∀t v i,e t=some v->v.ids i->∃y,g i=some y)(h:eff tb o (e,upd g d ob)=some r): eff tb o (e,g)=some r:=by
 unfold eff at h |-
 split at h<;>try cases h
 rename_i asx has
 have hids:=Xwa hcl has
 split at h<;>try cases h
 rename_i hst
 have:∃T x,o.op=.load T x:=by
  cases ho:o.op<;>rw[ho] at hc<;>first | exact⟨_,_,rfl⟩ | (cases hc;done) | (rename_i c;have:=Xl6 c;omega)
 obtain⟨T,x,ho⟩:=this
 simp only[ho] at h has |-
 have hne:∀ {a:AV} {i:Nat},a∈asx->a.ids i->upd g d ob i=g i:=λha hi=>Xak λe=>by
  obtain⟨y,hy⟩:=hids _ ha _ hi
  rw[e,hd] at hy;cases hy
 have key:∀ {dd:Nat},F tb dd (upd g d ob) (.load T x) asx=some r->F tb dd g (.load T x) asx=some r:=by
  intro dd h
  simp only[F] at h |-
  split at h<;>try cases h
  rename_i ti hti
  split at h<;>try cases h
  . exact h
  . rw[hne (W0i.2 rfl) rfl] at h
    exact h
  . rw[hne (W0i.2 rfl) rfl] at h
    exact h
 simp only[has,Xec,Bool.false_and]
 exact key h
theorem Yow{o:Oper}(hc:cls o.op=2){e:Ev}{g:Hp}{r:AV×List (Nat×Ob)}(h:eff tb o (e,g)=some r): ∃ob,r.2=[(o.dst.getD 0,ob)]/\g (o.dst.getD 0)=none/\∀g',g' (o.dst.getD 0)=none->eff tb o (e,g')=some r:=by
 unfold eff at h |-
 split at h<;>try cases h
 rename_i asx has
 split at h<;>try cases h
 rename_i hst
 simp only[has,hst]
 have:(∃T,o.op=.alloc T)\/(∃T x,o.op=.box T x)\/∃T x y,o.op=.makeSlice T x y:=by
  cases ho:o.op<;>rw[ho] at hc<;>first | exact .inl ⟨_,rfl⟩ | exact .inr (.inl ⟨_,_,rfl⟩) | exact .inr (.inr ⟨_,_,_,rfl⟩) | (cases hc;done) | (rename_i c;have:=Xl6 c;omega)
 rcases this with ⟨T,ho⟩ | ⟨T,x,ho⟩ | ⟨T,x,y,ho⟩
 . rw[ho] at h |-
   simp only[F] at h |-
   split at h<;>cases h
   rename_i ti h1 h2
   exact⟨_,rfl,h2,λg' hg'=>by simp[h1,hg']⟩
 . rw[ho] at h |-
   simp only[F] at h |-
   split at h<;>try cases h
   rename_i a h2
   split at h<;>cases h
   rename_i hp
   exact⟨_,rfl,h2,λg' hg'=>by simp[hg',hp]⟩
 . rw[ho] at h |-
   simp only[F] at h |-
   split at h<;>try cases h
   rename_i ti _ m _ c h1 h2
   split at h<;>try cases h
   rename_i sz xs hz
   split at h<;>cases h
   rename_i hr
   exact⟨_,rfl,h2,λg' hg'=>by simp only[h1,hg',hz,if_pos hr]⟩
end
end
section
section
variable{P:Program}[Gb P]{tb:Nat->Option TI}
theorem Xa4{L:List Oper}{o:Oper}{s:S}{r:AV×List (Nat×Ob)}(h:efw tb L o s=some r):
 (want L o s=some false/\r.2=[]/\∀g',efw tb L o (s.1,g')=some r)\/(want L o s=some true/\eff tb o s=some r):=by
 unfold efw at h
 split at h
 . rename_i hw;exact .inr ⟨hw,h⟩
 . rename_i hw
   split at h<;>cases h
   rename_i d hd
   refine .inl ⟨hw,rfl,λg'=>?_⟩
   unfold efw
   rw[show want L o (s.1,g')=some false from hw]
   simp[hd]
 . cases h
theorem Xew{L:List Oper}{o:Oper}{s:S}{g':Hp}{r:AV×List (Nat×Ob)}(hw:want L o s=some true)(h:eff tb o (s.1,g')=some r): efw tb L o (s.1,g')=some r:=by
 unfold efw
 rw[show want L o (s.1,g')=some true from hw]
 exact h
theorem Xcn{L:List Oper}{o:Oper}{s:S}{r:AV×List (Nat×Ob)}(hc:Xal o=false)(h:efw tb L o s=some r):
 (r.2=[]/\∀g',efw tb L o (s.1,g')=some r)\/(cls o.op=1/\r.2=[]/\(∀d ob,s.2 d=none->efw tb L o (s.1,upd s.2 d ob)=some r)) \/
 (cls o.op=2/\∃ob,r.2=[(o.dst.getD 0,ob)]/\s.2 (o.dst.getD 0)=none/\∀g',g' (o.dst.getD 0)=none->efw tb L o (s.1,g')=some r)\/cls o.op=3:=by
 rcases Xa4 h with ⟨_,h1,h2⟩ | ⟨hw,he⟩
 . exact .inl ⟨h1,h2⟩
 . have h4:cls o.op≠4:=λe=>by simp[Xal,e] at hc
   have hcase:cls o.op=0\/cls o.op=1\/cls o.op=2\/cls o.op=3\/cls o.op=4:=by
    unfold cls;split<;>simp
   rcases hcase with e | e | e | e | e
   . obtain⟨a1,a2⟩:=Ypq (e:=s.1) (g:=s.2) e he
     exact .inl ⟨a1,λg'=>Xew hw (a2 g')⟩
   . obtain⟨a1,a2⟩:=Yna (e:=s.1) (g:=s.2) e he
     exact .inr (.inl ⟨e,a1,λd ob hd=>Xew hw (a2 d ob hd)⟩)
   . obtain⟨ob,a1,a2,a3⟩:=Yow (e:=s.1) (g:=s.2) e he
     exact .inr (.inr (.inl ⟨e,ob,a1,a2,λg' hg=>Xew hw (a3 g' hg)⟩))
   . exact .inr (.inr (.inr e))
   . exact absurd e h4
theorem Xi8{L:List Oper}{k i:Oper}(h:Xlt L k i=true): Xb4 L k.dst i=true/\Xb4 L i.dst k=true/\Yao (cls k.op) (cls i.op)=true/\(cls k.op=2->k.dst.isSome=true)/\(cls i.op=2->i.dst.isSome=true):=by
 simp only[Xlt,W0f,W3r,W1t] at h
 obtain⟨⟨⟨⟨h1,h2⟩,h3⟩,h4⟩,h5⟩:=h
 exact⟨h1,h2,h3,λe=>h4.resolve_left (λn=>by rw[e] at n;cases n),λe=>h5.resolve_left (λn=>by rw[e] at n;cases n)⟩
theorem Xgo{L:List Oper}{k i:Oper}{a b:Nat}(h:Xb4 L k.dst i=true)(ha:k.dst=some a)(hb:i.dst=some b): a≠b:=by
 intro e
 subst e
 rw[ha] at h
 simp[Xb4,hb,inL] at h
theorem Xlf{s:S}{d t:Option Nat}{x y:AV}{g g1 g2:Hp}(h:∀a b,d=some a->t=some b->a≠b)(hg:g1=g2): S.put ((S.put (s.1,g) d x).1,g1) t y=S.put ((S.put (s.1,g) t y).1,g2) d x:=by
 subst hg
 cases d with
 | none=>cases t<;>rfl
 | some a=>cases t with
  | none=>rfl
  | some b=>simp only[S.put];rw[Xh1 (h a b rfl rfl)]
theorem S.put_g{s:S}{g:Hp}{d:Option Nat}{v:AV}: (S.put (s.1,g) d v).2=g:=by cases d<;>rfl
theorem S.put_e{s:S}{g g':Hp}{d:Option Nat}{v:AV}: (S.put (s.1,g) d v).1=(S.put (s.1,g') d v).1:=by cases d<;>rfl
theorem Xbp{L:List Oper}{k i:Oper}{s:S}{r:AV×List (Nat×Ob)}(h:Xb4 L k.dst i=true): efw tb L i (aft s k r)=efw tb L i (s.1,Xbi s.2 r.2):=Yfh (s:=s) h
theorem par{L:List Oper}{k i:Oper}(hi:Xlt L k i=true)(ck:Xal k=false)(ci:Xal i=false){s:S}{rk ri:AV×List (Nat×Ob)}(h1:efw tb L k s=some rk)(h2:efw tb L i s=some ri):
 efw tb L i (aft s k rk)=some ri/\efw tb L k (aft s i ri)=some rk/\aft (aft s i ri) k rk=aft (aft s k rk) i ri:=by
 obtain⟨a1,a2,a3,a4,a5⟩:=Xi8 hi
 have fin:Xbi (Xbi s.2 ri.2) rk.2=Xbi (Xbi s.2 rk.2) ri.2->aft (aft s i ri) k rk=aft (aft s k rk) i ri:=λhg=>by
  unfold aft
  rw[S.put_g,S.put_g,hg]
  have e1:=S.put_e (s:=s) (g:=Xbi s.2 ri.2) (g':=s.2) (d:=i.dst) (v:=ri.1)
  have e2:=S.put_e (s:=s) (g:=Xbi s.2 rk.2) (g':=s.2) (d:=k.dst) (v:=rk.1)
  rw[e1,e2]
  exact Xlf (s:=s) (λa b ha hb=>Xgo a2 ha hb) rfl
 rw[Xbp a1,Xbp a2]
 rcases Xcn ck h1 with ⟨b1,b2⟩ | ⟨b0,b1,b2⟩ | ⟨b0,ob,b1,b2,b3⟩ | b0
 . rw[b1]
   exact⟨h2,b2 _,fin (by rw[b1];rfl)⟩
 . rw[b1]
   refine⟨h2,?_,fin (by rw[b1];rfl)⟩
   rcases Xcn ci h2 with ⟨c1,c2⟩ | ⟨c0,c1,c2⟩ | ⟨c0,oc,c1,c2,c3⟩ | c0
   . rw[c1];exact h1
   . rw[c1];exact h1
   . rw[c1];exact b2 _ _ c2
   . rw[b0,c0] at a3;cases a3
 . rcases Xcn ci h2 with ⟨c1,c2⟩ | ⟨c0,c1,c2⟩ | ⟨c0,oc,c1,c2,c3⟩ | c0
   . rw[c1];exact⟨c2 _,h1,fin (by rw[c1];rfl)⟩
   . rw[c1,b1];exact⟨c2 _ _ b2,h1,fin (by rw[c1];rfl)⟩
   . obtain⟨dk,hdk⟩:=W3h.1 (a4 b0)
     obtain⟨di,hdi⟩:=W3h.1 (a5 c0)
     have hne:=Xgo a1 hdk hdi
     rw[hdk] at b1 b2 b3
     rw[hdi] at c1 c2 c3
     simp only[W3y] at b1 b2 b3 c1 c2 c3
     rw[b1,c1]
     refine⟨c3 _ (by show upd s.2 dk ob di=none;rw[Xak (λe=>hne e.symm)];exact c2),b3 _ (by show upd s.2 di oc dk=none;rw[Xak hne];exact b2),fin ?_⟩
     rw[b1,c1]
     exact Xh1 (λe=>hne e.symm)
   . rw[b0,c0] at a3;cases a3
 . rcases Xcn ci h2 with ⟨c1,c2⟩ | ⟨c0,c1,c2⟩ | ⟨c0,oc,c1,c2,c3⟩ | c0
   . rw[c1];exact⟨c2 _,h1,fin (by rw[c1];rfl)⟩
   . rw[b0,c0] at a3;cases a3
   . rw[b0,c0] at a3;cases a3
   . rw[b0,c0] at a3;cases a3
theorem back{L:List Oper}{k i:Oper}(hi:Xlt L k i=true)(ck:Xal k=false)(ci:Xal i=false){s:S}(hcl:∀t v j,s.1 t=some v->v.ids j->∃y,s.2 j=some y){rk ri:AV×List (Nat×Ob)}(h1:efw tb L k s=some rk)(h2:efw tb L i (aft s k rk)=some ri):
 efw tb L i s=some ri:=by
 obtain⟨a1,a2,a3,a4,a5⟩:=Xi8 hi
 rw[Xbp a1] at h2
 rcases Xcn ck h1 with ⟨b1,b2⟩ | ⟨b0,b1,b2⟩ | ⟨b0,ob,b1,b2,b3⟩ | b0
 . rw[b1] at h2;exact h2
 . rw[b1] at h2;exact h2
 . rcases Xcn (s:=(s.1,Xbi s.2 rk.2)) ci h2 with ⟨c1,c2⟩ | ⟨c0,c1,c2⟩ | ⟨c0,oc,c1,c2,c3⟩ | c0
   . exact c2 s.2
   . rcases Xa4 h2 with ⟨_,_,d3⟩ | ⟨d1,d2⟩
     . exact d3 s.2
     . rw[b1] at d2
       have d1:want L i s=some true:=d1
       have:=Yjy (o:=i) c0 b2 hcl d2
       exact Xew (s:=s) d1 this
   . obtain⟨dk,hdk⟩:=W3h.1 (a4 b0)
     obtain⟨di,hdi⟩:=W3h.1 (a5 c0)
     have hne:=Xgo a1 hdk hdi
     rw[hdk] at b1
     rw[hdi] at c2 c3
     simp only[W3y] at b1 c2 c3
     refine c3 s.2 ?_
     rw[b1] at c2
     have c2:upd s.2 dk ob di=none:=c2
     rwa[Xak (λe=>hne e.symm)] at c2
   . rw[b0,c0] at a3;cases a3
 . rcases Xcn (s:=(s.1,Xbi s.2 rk.2)) ci h2 with ⟨c1,c2⟩ | ⟨c0,c1,c2⟩ | ⟨c0,oc,c1,c2,c3⟩ | c0
   . exact c2 s.2
   . rw[b0,c0] at a3;cases a3
   . rw[b0,c0] at a3;cases a3
   . rw[b0,c0] at a3;cases a3
end
end
section
section
variable{P:Program}[Gb P]{tb:Nat->Option TI}
def Xps(L:List Oper)(o:Oper)(s s':S): Prop:=∀t∈Xom L o,s.1 t=s'.1 t
theorem Xps.symm{L:List Oper}{o:Oper}{s s':S}(h:Xps L o s s'): Xps L o s' s:=λt ht=>(h t ht).symm
theorem Xn0{L:List Oper}{o:Oper}{s:S}{d:Option Nat}{v:AV}{g:Hp}(h:Xb4 L d o=true): Xps L o (S.put (s.1,g) d v) s:=by
 cases d with
 | none=>exact λ_ _=>rfl
 | some d =>
  intro t ht
  simp only[Xb4,W0f,W1t] at h
  refine Xak λe=>?_
  subst e
  rw[Ym1.2 ht] at h
  exact absurd h.1 (by simp)
theorem Xps.getEs{L:List Oper}{o:Oper}{s s':S}(h:Xps L o s s'): ∀ {l:List Operand},(∀t∈Xg4 l,t∈Xg4 o.op.operands.toList)->Vm.getEs s.1 l=Vm.getEs s'.1 l
 | [],_=>rfl
 | x::l,hl=>by
  have h1:Xcr s.1 x=Xcr s'.1 x:=by
   cases x with
   | tmp t=>exact h t (W1u _ (hl t (by rw[Xb5];exact W2x _ (W0i.2 rfl))))
   | _=>rfl
  simp only[Vm.getEs]
  rw[h1,Xps.getEs h (l:=l) λt ht=>hl t (by rw[Xb5];exact W1u _ ht)]
theorem Xps.want{L:List Oper}{o:Oper}{s s':S}(h:Xps L o s s'): Vm.want L o s=Vm.want L o s':=by
 unfold Vm.want
 split
 . rfl
 . rename_i j b hg
   split
   . rfl
   . rename_i t ht
     rw[h t (W2x _ (by simp[hg,ht]))]
theorem Xi7{o:Oper}(hc:Xal o=true): ∃x asx tys,o.op=.call ⟨.value x,asx,tys⟩:=by
 cases ho:o.op<;>simp only[Xal,ho,cls] at hc<;>first | (cases hc;done) | skip
 rename_i c
 obtain⟨cal,asx,tys⟩:=c
 cases cal with
 | builtin b=>cases b<;>cases hc
 | value x=>exact⟨_,_,_,rfl⟩
 | invoke x m=>cases hc
theorem Xot{v:Value}{a:AV}(h:ofV v=some a)(i:Nat): ¬a.ids i:=by
 unfold ofV at h
 split at h<;>first | (cases h;done) | (injection h with h;subst h;exact id) | (split at h<;>cases h;exact id)
theorem Ydi: ∀ {a:AV} (b:AV),b∈unA a->∀ {i:Nat},b.ids i->a.ids i:=by
 intro a
 induction a with
 | pr a c _ ih=>exact λb hb i hi=>(W1n.1 hb).elim (λe=>.inl (e ▸ hi)) λhb=>.inr (ih b hb hi)
 | _=>exact λb hb i hi=>by rcases W0i.1 hb with rfl;exact hi
theorem Xsv{e:Ev}{x:Operand}{f:FuncId}{ex:List AV}(h:callee e x=some (f,ex)){a:AV}(ha:a∈ex){i:Nat}(hi:a.ids i): ∃t v,x=.tmp t/\e t=some v/\v.ids i:=by
 unfold callee at h
 split at h
 . injection h with h;injection h with h1 h2;subst h2;cases ha
 . rename_i f' o' hx
   injection h with h;injection h with h1 h2;subst h2
   rcases W0i.1 ha with rfl
   cases x with
   | tmp t=>exact⟨t,_,rfl,hx,hi⟩
   | const c=>exact absurd (show (AV.fn f' o').ids i from hi) (Xot hx i)
   | func f=>simp[Xcr] at hx
   | global g=>simp[Xcr] at hx
 . rename_i f' a' hx
   split at h<;>try cases h
   have hi:=Ydi a ha hi
   cases x with
   | tmp t=>exact⟨t,_,rfl,hx,hi⟩
   | const c=>exact absurd (show (AV.fm f a').ids i from hi) (Xot hx i)
   | func f=>simp[Xcr] at hx
   | global g=>simp[Xcr] at hx
 . cases h
theorem Xna{e:Ev}{i:Nat}: ∀ {l:List Operand} {vs:List AV},getEs e l=some vs->∀a∈vs,a.ids i->∃t∈Xg4 l,∃v,e t=some v/\v.ids i
 | [],vs,h,a,ha,_=>by simp only[getEs] at h;injection h with h;subst h;cases ha
 | x::l,vs,h,a,ha,hi=>by
  simp only[getEs] at h
  split at h<;>try cases h
  rename_i v hv
  split at h<;>cases h
  rename_i asx has
  rw[Xb5]
  rcases W1n.1 ha with rfl | ha
  . cases x with
    | tmp t=>exact⟨t,W2x _ (W0i.2 rfl),_,hv,hi⟩
    | const c=>exact absurd hi (Xot hv i)
    | func f=>simp only[Xcr,Option.some.injEq] at hv;subst hv;exact hi.elim
    | global g=>simp[Xcr] at hv
  . obtain⟨t,h1,h2⟩:=Xna has a ha hi
    exact⟨t,W1u _ h1,h2⟩
theorem Xq4{i:Nat}: ∀ {Ts:List TypeId} {asx:List AV},∀a∈Xjt tb Ts asx,a.ids i->∃b∈asx,b.ids i
 | [],asx,a,ha,hi=>⟨a,by simpa [Xjt] using ha,hi⟩
 | T::Ts,[],a,ha,hi=>by simp[Xjt] at ha
 | T::Ts,c::asx,a,ha,hi=>by
  simp only[Xjt] at ha
  rcases W1n.1 ha with e | ha
  . have:a=c\/∃x,a=.d x:=by
     split at e
     . split at e
       . exact .inr ⟨_,e⟩
       . exact .inl e
     . exact .inl e
    rcases this with rfl | ⟨x,rfl⟩
    . exact⟨_,W1a ..,hi⟩
    . exact hi.elim
  . obtain⟨b,h1,h2⟩:=Xq4 a ha hi
    exact⟨b,W1c _ h1,h2⟩
theorem Yf7{s:S}{o:Oper}{d:Nat}(h:o.dst=some d): s.put (some d) .un=aft s o (.un,[]):=by unfold aft;rw[h];rfl
theorem Xgr{L:List Oper}{o:Oper}(hc:Xal o=true){s s':S}(h:Xps L o s s'){R R':S->Prop}(hw:Wo P tb true L o R s)
 (hg:∀i y,s.2 i=some y->(∃t∈Xom L o,∃v,s.1 t=some v/\v.ids i)->s'.2 i=some y) (hn:∀d,o.dst=some d->s.2 d=none->s'.2 d=none)
 (hR:∀r,(r.2=[]\/∃d ob,o.dst=some d/\r.2=[(d,ob)]/\s.2 d=none)->R (aft s o r)->R' (aft s' o r)):Wo P tb true L o R' s':=by
 rcases hw with ⟨h1,h2⟩ | ⟨h1,d,h2,h3⟩
 . refine .inl ⟨by rw[<-h.want];exact h1,?_⟩
   obtain⟨x,asx,tys,he⟩:=Xi7 hc
   unfold Wb at h2 |-
   rw[he] at h2 |-
   obtain⟨f,ex,vs,a1,a2,nw,H0,Q,⟨a3,a4,a5⟩,a6⟩:=h2
   have hop:o.op.operands.toList=x::asx.toList:=by rw[he];simp[Op.operands,Call.operands]
   have e1:Xcr s.1 x=Xcr s'.1 x:=by
    cases x with
    | tmp t=>exact h t (W1u _ (by rw[hop,Xb5];exact W2x _ (W0i.2 rfl)))
    | _=>rfl
   have hids:∀i,(∃a∈Xjt tb tys.toList vs++ex,a.ids i)->∃t∈Xom L o,∃v,s.1 t=some v/\v.ids i:=by
    rintro i ⟨a,ha,hi⟩
    rcases W1v.1 ha with ha | ha
    . obtain⟨b,hb,hbi⟩:=Xq4 a ha hi
      obtain⟨t,t1,t2⟩:=Xna a2 b hb hbi
      exact⟨t,W1u _ (by rw[hop,Xb5];exact W1u _ t1),t2⟩
    . obtain⟨t,v,rfl,t1,t2⟩:=Xsv a1 ha hi
      exact⟨t,W1u _ (by rw[hop,Xb5];exact W2x _ (W0i.2 rfl)),v,t1,t2⟩
   refine⟨f,ex,vs,by unfold callee at a1 |-;rw[<-e1];exact a1,by rw[<-h.getEs (λt ht=>by rw[hop,Xb5];exact W1u _ ht)];exact a2,nw,H0,Q,⟨λhh=>?_,λi y hy=>?_,a5⟩,λr hu hq=>hR r ?_ (a6 r hu hq)⟩
   . obtain⟨d,d1,d2⟩:=a3 hh;exact⟨d,d1,hn d d1 d2⟩
   . obtain⟨b1,b2⟩:=a4 i y hy;exact⟨hg i y b1 (hids i b2),b2⟩
   . rcases hu with hu | ⟨hh,d,ob,u1,u2⟩
     . exact .inl hu
     . obtain⟨d',d1,d2⟩:=a3 hh
       rw[u1] at d1;injection d1 with d1;subst d1
       exact .inr ⟨_,ob,u1,u2,d2⟩
 . refine .inr ⟨by rw[<-h.want];exact h1,d,h2,?_⟩
   rw[Yf7 h2] at h3 |-
   exact hR _ (.inl rfl) h3
theorem Yap{L:List Oper}{o:Oper}(hc:Xal o=true){s:S}{R:S->Prop}(hw:Wo P tb true L o R s): Wo P tb true L o (λs'=>R s'/\∃r,(r.2=[]\/∃d ob,o.dst=some d/\r.2=[(d,ob)]/\s.2 d=none)/\s'=aft s o r) s :=
 Xgr hc (λ_ _=>rfl) hw (λ_ _ h _=>h) (λ_ _ h=>h) λr hr h=>⟨h,r,hr,rfl⟩
theorem Yc0{L:List Oper}{i:Oper}(ci:Xal i=false){s:S}{ri:AV×List (Nat×Ob)}{us:List (Nat×Ob)}(hc:cls i.op≠3)(h2:cls i.op=2->i.dst.isSome=true)(hu:us=[]\/∃d ob,us=[(d,ob)]/\s.2 d=none/\i.dst≠some d)(h:efw tb L i s=some ri):
 efw tb L i (s.1,Xbi s.2 us)=some ri:=by
 rcases hu with rfl | ⟨d,ob,rfl,hd,hne⟩
 . exact h
 . rcases Xcn ci h with ⟨_,c2⟩ | ⟨_,_,c2⟩ | ⟨c0,oc,_,c2,c3⟩ | c0
   . exact c2 _
   . exact c2 _ _ hd
   . obtain⟨di,hdi⟩:=W3h.1 (h2 c0)
     rw[hdi] at c2 c3 hne
     exact c3 _ (by show upd s.2 d ob di=none;rw[Xak (λe=>hne (by rw[e]))];exact c2)
   . exact absurd c0 hc
theorem Yad{L:List Oper}{i:Oper}(ci:Xal i=false){s:S}{ri:AV×List (Nat×Ob)}{us:List (Nat×Ob)}(hc:cls i.op≠3)(h2:cls i.op=2->i.dst.isSome=true)(hcl:∀t v j,s.1 t=some v->v.ids j->∃y,s.2 j=some y)(hu:us=[]\/∃d ob,us=[(d,ob)]/\s.2 d=none/\i.dst≠some d)
 (h:efw tb L i (s.1,Xbi s.2 us)=some ri):efw tb L i s=some ri:=by
 rcases hu with rfl | ⟨d,ob,rfl,hd,hne⟩
 . exact h
 . rcases Xcn (s:=(s.1,Xbi s.2 [(d,ob)])) ci h with ⟨_,c2⟩ | ⟨c0,_,c2⟩ | ⟨c0,oc,_,c2,c3⟩ | c0
   . exact c2 s.2
   . rcases Xa4 h with ⟨_,_,d3⟩ | ⟨d1,d2⟩
     . exact d3 s.2
     . have d1:want L i s=some true:=d1
       exact Xew (s:=s) d1 (Yjy (o:=i) c0 hd hcl d2)
   . obtain⟨di,hdi⟩:=W3h.1 (h2 c0)
     rw[hdi] at c2 c3 hne
     refine c3 s.2 ?_
     have c2:upd s.2 d ob di=none:=c2
     rwa[Xak (λe=>hne (by rw[e]))] at c2
   . exact absurd c0 hc
theorem Xxz{s:S}{k i:Oper}{r q:AV×List (Nat×Ob)}(hd:∀a b,k.dst=some a->i.dst=some b->a≠b)(hr:r.2=[]\/∃d ob,k.dst=some d/\r.2=[(d,ob)])(hq:q.2=[]\/∃d ob,i.dst=some d/\q.2=[(d,ob)]):
 aft (aft s k r) i q=aft (aft s i q) k r:=by
 have hg:Xbi (Xbi s.2 r.2) q.2=Xbi (Xbi s.2 q.2) r.2:=by
  rcases hr with hr | ⟨a,oa,ha,hr⟩<;>rcases hq with hq | ⟨b,ob,hb,hq⟩<;>rw[hr,hq]<;>try rfl
  exact Xh1 (hd a b ha hb)
 unfold aft
 rw[S.put_g,S.put_g,hg]
 have e1:=S.put_e (s:=s) (g:=Xbi s.2 q.2) (g':=s.2) (d:=i.dst) (v:=q.1)
 have e2:=S.put_e (s:=s) (g:=Xbi s.2 r.2) (g':=s.2) (d:=k.dst) (v:=r.1)
 rw[e1,e2]
 exact Xlf (s:=s) hd rfl
theorem Ycz{L:List Oper}{i:Oper}(ci:Xal i=false){s:S}{ri:AV×List (Nat×Ob)}(hc:cls i.op≠3)(h2:cls i.op=2->i.dst.isSome=true)(h:efw tb L i s=some ri): ri.2=[]\/∃d ob,i.dst=some d/\ri.2=[(d,ob)]/\s.2 d=none:=by
 rcases Xcn ci h with ⟨c1,_⟩ | ⟨_,c1,_⟩ | ⟨c0,oc,c1,c2,_⟩ | c0
 . exact .inl c1
 . exact .inl c1
 . obtain⟨di,hdi⟩:=W3h.1 (h2 c0)
   rw[hdi] at c1 c2
   exact .inr ⟨di,oc,hdi,c1,c2⟩
 . exact absurd c0 hc
theorem Xrj{s:S}{o:Oper}{us:List (Nat×Ob)}(h:us=[]\/∃d ob,o.dst=some d/\us=[(d,ob)]/\s.2 d=none): us=[]\/∃d ob,o.dst=some d/\us=[(d,ob)]:=h.imp id λ⟨d,ob,h1,h2,_⟩=>⟨d,ob,h1,h2⟩
theorem Ykd{a b:Nat}(h:Yao a b=true)(hb:b=4): a≠3/\a≠4:=by
 subst hb;constructor<;>(intro e;subst e;cases h)
theorem Xxl{a b:Nat}(h:Yao a b=true)(hb:a=4): b≠3/\b≠4:=by
 subst hb;constructor<;>(intro e;subst e;cases h)
structure Dm (tb:Nat->Option TI) (L:List Oper) (sp:Oper->Oper->Bool) (Z:S->Prop):Prop where
 nc:∀ {k i},sp k i=true->Xal k=false/\Xal i=false
 par:∀ {k i:Oper} {s:S} {rk ri:AV×List (Nat×Ob)},sp k i=true->Z s->efw tb L k s=some rk->efw tb L i s=some ri->efw tb L i (aft s k rk)=some ri/\efw tb L k (aft s i ri)=some rk/\aft (aft s i ri) k rk=aft (aft s k rk) i ri
 back:∀ {k i:Oper} {s:S} {rk ri:AV×List (Nat×Ob)},sp k i=true->Z s->efw tb L k s=some rk->efw tb L i (aft s k rk)=some ri->efw tb L i s=some ri
 clo:∀ {k:Oper} {s:S} {r:AV×List (Nat×Ob)},k∈L->Xal k=false->Z s->efw tb L k s=some r->Z (aft s k r)
 cloC:∀ {k:Oper} {s:S} {r:AV×List (Nat×Ob)},k∈L->Xal k=true->Z s->(r.2=[]\/∃d ob,k.dst=some d/\r.2=[(d,ob)]/\s.2 d=none)->Z (aft s k r)
theorem Dm.no{tb:Nat->Option TI}{L:List Oper}: Dm tb L (λ_ _=>false) λ_=>True:=⟨nofun,nofun,nofun,λ_ _ _ _=>trivial,λ_ _ _ _=>trivial⟩
def Ind(L:List Oper)(sp:Oper->Oper->Bool)(k i:Oper): Prop:=k∈L/\(Xlt L k i=true\/sp k i=true)
theorem Yd9{L:List Oper}{sp:Oper->Oper->Bool}{Z:S->Prop}(D:Dm tb L sp Z){R:S->Prop}{i:Oper}(ci:Xal i=false){v:List Oper}{ri:AV×List (Nat×Ob)}: ∀ {u:List Oper},(∀k∈u,Ind L sp k i)->∀ {s:S},Z s->efw tb L i s=some ri->WL P tb true L R (u++i::v) s->WL P tb true L R (u++v) (aft s i ri)
 | [],_,s,_,h,hw=>by
  obtain⟨r,h1,h2⟩:=(Xfh ci).1 hw
  rw[h] at h1;injection h1 with h1;subst h1;exact h2
 | k::u,hu,s,hz,h,hw=>by
  obtain⟨hkL,hk⟩:=hu k (W1a ..)
  have hu':∀k∈u,Ind L sp k i:=λk hk=>hu k (W1c _ hk)
  cases ck:Xal k with
  | false =>
   obtain⟨rk,h1,h2⟩:=(Xfh ck).1 hw
   obtain⟨p1,p2,p3⟩:efw tb L i (aft s k rk)=some ri/\efw tb L k (aft s i ri)=some rk/\aft (aft s i ri) k rk=aft (aft s k rk) i ri:=hk.elim (λhk=>par hk ck ci h1 h) λhk=>D.par hk hz h1 h
   refine(Xfh ck).2 ⟨rk,p2,?_⟩
   rw[p3]
   exact Yd9 D ci hu' (D.clo hkL ck hz h1) p1 h2
  | true =>
   have hk:=hk.resolve_right λh=>by rw[(D.nc h).1] at ck;cases ck
   obtain⟨a1,a2,a3,a4,a5⟩:=Xi8 hk
   have c3:=(Xxl a3 (W0e ck)).1
   have hus:=Ycz ci c3 a5 h
   have hd:∀a b,k.dst=some a->i.dst=some b->a≠b:=λa b ha hb=>Xgo a1 ha hb
   have hg2:(aft s i ri).2=Xbi s.2 ri.2:=S.put_g (s:=s)
   refine Xgr ck (s:=s) (s':=aft s i ri) (Xps.symm (Xn0 a2)) hw (λj y hy _=>?_) (λd hkd hdn=>?_) λx hx hx2=>?_
   . rw[hg2]
     rcases hus with e | ⟨d,ob,_,e,hdn⟩
     . rw[e];exact hy
     . rw[e];show upd s.2 d ob j=_;rw[Xak (λe=>by rw[e,hdn] at hy;cases hy)];exact hy
   . rw[hg2]
     rcases hus with e | ⟨d',ob,hid,e,_⟩
     . rw[e];exact hdn
     . rw[e];show upd s.2 d' ob d=_;rw[Xak (hd d d' hkd hid)];exact hdn
   . have e1:efw tb L i (aft s k x)=some ri:=by
      rw[Xbp a1]
      exact Yc0 ci c3 a5 (hx.imp id λ⟨d,ob,h1,h2,h3⟩=>⟨d,ob,h2,h3,λe=>hd d d h1 e rfl⟩) h
     have:=Yd9 D ci hu' (D.cloC hkL ck hz hx) e1 hx2
     rwa[Xxz hd (Xrj (s:=s) hx) (Xrj (s:=s) hus)] at this
variable{W0:GW}{X:Nat->Prop}{θ0:Loc}{n:Nat}
theorem Xpb(hT:∀T ti,tb T=some ti->TyOk P T ti/\∀a c,ti.z≠.pr a c)(hn:n<=1000000/\Gb.g P W0){L:List Oper}{sp:Oper->Oper->Bool}{Z:S->Prop}(D:Dm tb L sp Z){R:S->Prop}{i:Oper}(ci:Xal i=false){v:List Oper}: ∀ {u:List Oper},(∀k∈u,Ind L sp k i)->(∀k∈u,Xex n k=true) ->
 ∀ {s:S} {a:Act} {W:GW} {θ:Loc},Z s->Sat W0 X n s a W θ->(∀i,1000000<=i->θ i=θ0 i)->WL P tb true L R (u++i::v) s->∃ri,efw tb L i s=some ri
 | [],_,_,s,a,W,θ,_,_,_,hw=>by
  obtain⟨r,h1,_⟩:=(Xfh ci).1 hw
  exact⟨r,h1⟩
 | k::u,hu,hd,s,a,W,θ,hz,hs,hθ,hw=>by
  obtain⟨hkL,hk⟩:=hu k (W1a ..)
  have hu':∀k∈u,Ind L sp k i:=λk hk=>hu k (W1c _ hk)
  have hd':∀k∈u,Xex n k=true:=λk hk=>hd k (W1c _ hk)
  cases ck:Xal k with
  | false =>
   obtain⟨rk,h1,h2⟩:=(Xfh ck).1 hw
   obtain⟨a',w',s',W',θ',_,hs',hθ',rfl,hw'⟩:=Nx.next (R:=λs'=>s'=aft s k rk/\WL P tb true L R (u++i::v) s') hT hn (hd k (W1a ..)) ⟨s,W,θ,rfl,hs,hθ,(Xfh ck).2 ⟨rk,h1,rfl,h2⟩⟩
   obtain⟨ri,hri⟩:=Xpb hT hn D ci hu' hd' (D.clo hkL ck hz h1) hs' hθ' hw'
   exact⟨ri,hk.elim (λhk=>back hk ck ci hs.ids h1 hri) λhk=>D.back hk hz h1 hri⟩
  | true =>
   have hk:=hk.resolve_right λh=>by rw[(D.nc h).1] at ck;cases ck
   obtain⟨a1,a2,a3,a4,a5⟩:=Xi8 hk
   have c3:=(Xxl a3 (W0e ck)).1
   obtain⟨a',w',s',W',θ',_,hs',hθ',hw',x,hx,rfl⟩:=Nx.next hT hn (hd k (W1a ..)) ⟨s,W,θ,rfl,hs,hθ,Yap ck hw⟩
   obtain⟨ri,hri⟩:=Xpb hT hn D ci hu' hd' (D.cloC hkL ck hz hx) hs' hθ' hw'
   rw[Xbp a1] at hri
   exact⟨ri,Yad ci c3 a5 hs.ids (hx.imp id λ⟨d,ob,h1,h2,h3⟩=>⟨d,ob,h2,h3,λe=>Xgo a1 h1 e rfl⟩) hri⟩
theorem Yh7(hT:∀T ti,tb T=some ti->TyOk P T ti/\∀a c,ti.z≠.pr a c)(hn:n<=1000000/\Gb.g P W0){L:List Oper}{sp:Oper->Oper->Bool}{Z:S->Prop}(D:Dm tb L sp Z){R:S->Prop}{i:Oper}(ci:Xal i=true){v:List Oper}: ∀ {u:List Oper},(∀k∈u,Ind L sp k i)->(∀k∈u,Xex n k=true) ->
 ∀ {s:S} {a:Act} {W:GW} {θ:Loc},Sat W0 X n s a W θ->(∀i,1000000<=i->θ i=θ0 i)->WL P tb true L R (u++i::v) s->Wo P tb true L i (WL P tb true L R (u++v)) s
 | [],_,_,s,a,W,θ,_,_,hw=>hw
 | k::u,hu,hd,s,a,W,θ,hs,hθ,hw=>by
  have hk:=(hu k (W1a ..)).2.resolve_right λh=>by rw[(D.nc h).2] at ci;cases ci
  have hu':∀k∈u,Ind L sp k i:=λk hk=>hu k (W1c _ hk)
  have hd':∀k∈u,Xex n k=true:=λk hk=>hd k (W1c _ hk)
  obtain⟨a1,a2,a3,a4,a5⟩:=Xi8 hk
  obtain⟨c3,c4⟩:=Ykd a3 (W0e ci)
  have ck:Xal k=false:=by
   cases ck:Xal k with
   | false=>rfl
   | true=>exact absurd (W0e ck) c4
  obtain⟨rk,h1,h2⟩:=(Xfh ck).1 hw
  obtain⟨a',w',s',W',θ',_,hs',hθ',rfl,hw'⟩:=Nx.next (R:=λs'=>s'=aft s k rk/\WL P tb true L R (u++i::v) s') hT hn (hd k (W1a ..)) ⟨s,W,θ,rfl,hs,hθ,(Xfh ck).2 ⟨rk,h1,rfl,h2⟩⟩
  have ih:=Yh7 hT hn D ci hu' hd' hs' hθ' h2
  have hus:=Ycz ck c3 a4 h1
  have hdd:∀a b,k.dst=some a->i.dst=some b->a≠b:=λa b ha hb=>Xgo a1 ha hb
  have hg2:(aft s k rk).2=Xbi s.2 rk.2:=S.put_g (s:=s)
  have hag:Xps L i (aft s k rk) s:=Xn0 a1
  refine Xgr ci hag ih (λj y hy ⟨t,ht,q,hq,hqj⟩=>?_) (λd hid hdn=>?_) λx hx hx2=>?_
  . rw[hag t ht] at hq
    obtain⟨y',hy'⟩:=hs.ids t q j hq hqj
    rw[hg2] at hy
    rcases hus with e | ⟨d,ob,_,e,hdn⟩
    . rw[e] at hy;exact hy
    . rw[e] at hy
      have hy:upd s.2 d ob j=some y:=hy
      rwa[Xak (λe=>by rw[e,hdn] at hy';cases hy')] at hy
  . rw[hg2] at hdn
    rcases hus with e | ⟨d',ob,hkd,e,_⟩
    . rw[e] at hdn;exact hdn
    . rw[e] at hdn
      have hdn:upd s.2 d' ob d=none:=hdn
      rwa[Xak (λe=>hdd d' d hkd hid e.symm)] at hdn
  . have hx':x.2=[]\/∃d ob,i.dst=some d/\x.2=[(d,ob)]/\s.2 d=none:=hx.imp id λ⟨d,ob,e1,e2,e3⟩=>⟨d,ob,e1,e2,by
     rw[hg2] at e3
     rcases hus with e | ⟨d',ob',hkd,e,_⟩
     . rw[e] at e3;exact e3
     . rw[e] at e3
       have e3:upd s.2 d' ob' d=none:=e3
       rwa[Xak (λe=>hdd d' d hkd e1 e.symm)] at e3⟩
    refine(Xfh ck).2 ⟨rk,?_,?_⟩
    . rw[Xbp a2]
      exact Yc0 ck c3 a4 (hx'.imp id λ⟨d,ob,e1,e2,e3⟩=>⟨d,ob,e2,e3,λe=>hdd d d e e1 rfl⟩) h1
    . rw[<-Xxz hdd (Xrj (s:=s) hus) (Xrj (s:=s) hx')]
      exact hx2
theorem Ypg(hT:∀T ti,tb T=some ti->TyOk P T ti/\∀a c,ti.z≠.pr a c)(hn:n<=1000000/\Gb.g P W0){L:List Oper}{sp:Oper->Oper->Bool}{Z:S->Prop}(D:Dm tb L sp Z){R:S->Prop}{i:Oper}(hi:i∈L){u v:List Oper}(hu:∀k∈u,Ind L sp k i)(hd:∀k∈u,Xex n k=true){a:Act}{w:World}
 (h:Nx W0 X θ0 n (λs=>Z s/\WL P tb true L R (u++i::v) s) a w):Nx W0 X θ0 n (Wo P tb true L i λs=>Z s/\WL P tb true L R (u++v) s) a w:=by
 obtain⟨s,W,θ,hw,hs,hθ,hz,h⟩:=h
 refine⟨s,W,θ,hw,hs,hθ,?_⟩
 cases ci:Xal i with
 | true=>exact Xgr ci (λ_ _=>rfl) (Yh7 hT hn D ci hu hd hs hθ h) (λ_ _ h _=>h) (λ_ _ h=>h) λr hr h=>⟨D.cloC hi ci hz hr,h⟩
 | false =>
  obtain⟨ri,hri⟩:=Xpb hT hn D ci hu hd hz hs hθ h
  exact(Xfh ci).2 ⟨ri,hri,D.clo hi ci hz hri,Yd9 D ci hu hz hri h⟩
end
end
section
class Mx (P:Program):Prop where
 h:P.follows .mixedOrders=true
theorem Yjj(m:Region.Mode)(ops:Array Oper)(f:Nat): ∀(t:Nat) (ls:Array Bool) (acc:List Nat),Region.linearise.go m ops f t ls acc=acc.reverse++Region.linearise.go m ops f t ls []:=by
 induction f with
 | zero=>intro t ls acc;simp[Region.linearise.go]
 | succ f ih =>
  intro t ls acc
  simp only[Region.linearise.go]
  split
  . rename_i i hi
    rw[ih _ _ (i::acc),ih _ _ [i]]
    simp
  . simp
def Xft(o:Oper): List Nat:=(o.after.toList.filter (Region.binds .any)).map (·.on)
def rdy(L:List Oper)(ls:Array Bool): List Nat :=
 (List.range L.toArray.size).filter λi=>!ls.getD i true&&((L.toArray[i]?).map (·.after.all λe=>!Region.binds .any e||ls.getD e.on false)).getD false
theorem Xuv{L:List Oper}{ls:Array Bool}(hs:ls.size=L.length){i:Nat}: i∈rdy L ls↔∃o,L[i]?=some o/\ls.getD i false=false/\∀j∈Xft o,ls.getD j false=true:=by
 unfold rdy
 rw[List.mem_filter]
 constructor
 . rintro⟨h1,h2⟩
   have hi:i<L.length:=by simpa using List.mem_range.1 h1
   rw[W0f] at h2
   obtain⟨h2,h3⟩:=h2
   have ho:L[i]?=some L[i]:=W0c hi
   refine⟨L[i],ho,?_,?_⟩
   . have:i<ls.size:=by omega
     simp[Array.getD,this] at h2 |-
     exact h2
   . intro j hj
     have ho':L.toArray[i]?=some L[i]:=by simp
     rw[ho'] at h3
     simp only[W3i,W3y] at h3
     rw[Array.all_eq_true'] at h3
     simp only[Xft,W3s,List.mem_filter] at hj
     obtain⟨e,⟨he,hb⟩,rfl⟩:=hj
     have:=h3 e (by simpa using he)
     rw[hb] at this
     simpa using this
 . rintro⟨o,ho,h2,h3⟩
   have hi:i<L.length:=Xbf ho
   refine⟨by simpa using hi,?_⟩
   rw[W0f]
   refine⟨?_,?_⟩
   . have:i<ls.size:=by omega
     simp[Array.getD,this] at h2 |-
     exact h2
   . have ho':L.toArray[i]?=some o:=by simpa using ho
     rw[ho']
     simp only[W3i,W3y]
     rw[Array.all_eq_true']
     intro e he
     cases hb:Region.binds .any e with
     | false=>rfl
     | true =>
      have:=h3 e.on (by simp only[Xft,W3s,List.mem_filter];exact⟨e,⟨by simpa using he,hb⟩,rfl⟩)
      simp[this]
def msk(M:List Nat)(ds:List Nat): Nat:=match ds with
 | []=>0
 | j::ds=>msk M ds|||(2^j|||M.getD j 0)
def Xr1(L:List Oper)(sp:Oper->Oper->Bool)(o:Oper)(m:Nat): Nat->List Oper->Bool
 | _,[]=>true
 | k,x::l=>(m.testBit k||Xlt L x o||sp x o)&&Xr1 L sp o m (k+1) l
def Xhs(L:List Oper)(sp:Oper->Oper->Bool): List Nat->List Oper->List Oper->Bool
 | _,_,[]=>true
 | M,pre,o::l=>(Xft o).all (λj=>Nat.blt j pre.length)&&Xr1 L sp o (msk M (Xft o)) 0 pre&&Xhs L sp (M++[msk M (Xft o)]) (pre++[o]) l
def Xn4(L:List Oper)(p:Nat->Prop): Prop:=∀m o,L[m]?=some o->p m->∀j∈Xft o,p j
theorem Xkl{L:List Oper}{sp:Oper->Oper->Bool}{o:Oper}{m:Nat}: ∀ {l:List Oper} {k:Nat},Xr1 L sp o m k l=true->∀ {q:Nat} {x:Oper},l[q]?=some x->m.testBit (k+q)=true\/Xlt L x o=true\/sp x o=true
 | [],_,_,q,x,h=>by simp at h
 | y::l,k,hc,q,x,h=>by
  simp only[Xr1,W0f,W3r] at hc
  cases q with
  | zero=>simp at h;subst h;exact or_assoc.1 hc.1
  | succ q =>
   have:=Xkl hc.2 (q:=q) (x:=x) (by simpa using h)
   rwa[show k+1+q=k+(q+1) by omega] at this
theorem Xvg{M:List Nat}{k:Nat}: ∀ {ds:List Nat},(msk M ds).testBit k=true->∃j∈ds,k=j\/(M.getD j 0).testBit k=true
 | [],h=>by simp[msk] at h
 | j::ds,h=>by
  simp only[msk,Nat.testBit_or,W3r] at h
  rcases h with h | h | h
  . obtain⟨i,h1,h2⟩:=Xvg h
    exact⟨i,W1c _ h1,h2⟩
  . rw[Nat.testBit_two_pow] at h
    exact⟨j,W1a ..,.inl (of_decide_eq_true h).symm⟩
  . exact⟨j,W1a ..,.inr h⟩
theorem Xkm{L:List Oper}{sp:Oper->Oper->Bool}: ∀ {l pre:List Oper} {M:List Nat},L=pre++l->M.length=pre.length->(∀m o,pre[m]?=some o->∀k,(M.getD m 0).testBit k=true->∀p,Xn4 L p->(∀j∈Xft o,p j)->p k)->Xhs L sp M pre l=true ->
 ∀ {i:Nat} {o:Oper},pre.length<=i->L[i]?=some o->(∀j∈Xft o,j<i)/\∀ {k:Nat} {x:Oper},k<i->L[k]?=some x->(∀p,Xn4 L p->(∀j∈Xft o,p j)->p k)\/Xlt L x o=true\/sp x o=true
 | [],pre,M,hL,hM,hb,hc,i,o,hi,ho=>by
  have:=Xbf ho
  rw[hL] at this;simp at this;omega
 | y::l,pre,M,hL,hM,hb,hc,i,o,hi,ho=>by
  simp only[Xhs,W0f] at hc
  obtain⟨⟨hc1,hc2⟩,hc3⟩:=hc
  have hbit:∀k,(msk M (Xft y)).testBit k=true->∀p,Xn4 L p->(∀j∈Xft y,p j)->p k:=by
   intro k hk p hp hj
   obtain⟨j,h1,h2⟩:=Xvg hk
   rcases h2 with h2 | h2
   . rw[h2];exact hj j h1
   . have hjl:j<pre.length:=Xq8 (W1o.1 hc1 j h1)
     have hjo:L[j]?=some pre[j]:=by rw[hL,W0r hjl,W0c hjl]
     exact hb j _ (W0c hjl) k h2 p hp (hp j _ hjo (hj j h1))
  by_cases hii:i=pre.length
  . subst hii
    have hoy:o=y:=by
     rw[hL,W0q (W0b _),W3b] at ho
     simpa using ho.symm
    subst hoy
    refine⟨λj hj=>Xq8 (W1o.1 hc1 j hj),λ{k x} hk hx=>?_⟩
    rw[hL,W0r hk] at hx
    rcases Xkl hc2 hx with h | h
    . rw[W1k] at h
      exact .inl (hbit k h)
    . exact .inr h
  . refine Xkm (l:=l) (pre:=pre++[y]) (M:=M++[msk M (Xft y)]) (by rw[hL];simp) (by simp[hM]) (λm o hm k hk=>?_) hc3 (by simp;omega) ho
    by_cases hml:m<pre.length
    . rw[W0r hml] at hm
      rw[W2l,W0r (by omega),<-W2l] at hk
      exact hb m o hm k hk
    . have hme:m=pre.length:=by
       have:=Xbf hm;simp at this;omega
      subst hme
      rw[W0q (W0b _),W3b] at hm
      simp at hm;subst hm
      rw[W2l,W0q (by omega),hM,W3b] at hk
      exact hbit k hk
def Xj2(ls:Array Bool): Nat->List Oper->List Oper
 | _,[]=>[]
 | k,o::l=>match ls.getD k false with
  | true=>Xj2 ls (k+1) l
  | false=>o::Xj2 ls (k+1) l
theorem Xe9{ls:Array Bool}{i k:Nat}(h:k<ls.size): (ls.setIfInBounds i true).getD k false=if i=k then true else ls.getD k false:=by
 simp only[Array.getD_eq_getD_getElem?,W3m]
 by_cases e:i=k
 . subst e;simp[h]
 . simp[e]
theorem Xut{ls:Array Bool}{i:Nat}: ∀ {l:List Oper} {k:Nat},i<k->k+l.length<=ls.size->Xj2 (ls.setIfInBounds i true) k l=Xj2 ls k l
 | [],_,_,_=>rfl
 | o::l,k,h,hs=>by
  simp only[W0u] at hs
  simp only[Xj2]
  rw[Xe9 (by omega),if_neg (by omega),Xut (by omega) (by omega)]
theorem Xj1{ls:Array Bool}{i:Nat}{o:Oper}: ∀ {l:List Oper} {k:Nat},k<=i->k+l.length<=ls.size->l[i-k]?=some o->ls.getD i false=false ->
 ∃u v,Xj2 ls k l=u++o::v/\Xj2 (ls.setIfInBounds i true) k l=u++v/\∀x∈u,∃q,q+k<i/\l[q]?=some x/\ls.getD (q+k) false=false
 | [],_,_,_,h,_=>by simp at h
 | y::l,k,hk,hs,ho,hi=>by
  simp only[W0u] at hs
  by_cases e:k=i
  . subst e
    rw[W3b] at ho
    simp at ho;subst ho
    refine⟨[],Xj2 ls (k+1) l,by simp[Xj2,hi],?_,λx hx=>by cases hx⟩
    simp only[Xj2,Xe9 (show k<ls.size by omega),if_pos]
    rw[Xut (by omega) (by omega)];rfl
  . obtain⟨u,v,h1,h2,h3⟩:=Xj1 (l:=l) (k:=k+1) (by omega) (by omega) (by rw[show i-k=(i-(k+1))+1 by omega] at ho;simpa using ho) hi
    have hgd:(ls.setIfInBounds i true).getD k false=ls.getD k false:=by rw[Xe9 (by omega),if_neg (λh=>e h.symm)]
    have h3':∀x∈u,∃q,q+k<i/\(y::l)[q]?=some x/\ls.getD (q+k) false=false:=λx hx=>by
     obtain⟨q,q1,q2,q3⟩:=h3 x hx
     exact⟨q+1,by omega,by simpa using q2,by rw[show q+1+k=q+(k+1) by omega];exact q3⟩
    cases hg:ls.getD k false with
    | true=>exact⟨u,v,by simp only[Xj2,hg];exact h1,by simp only[Xj2,hgd,hg];exact h2,h3'⟩
    | false =>
     refine⟨y::u,v,by simp only[Xj2,hg];rw[h1];rfl,by simp only[Xj2,hgd,hg];rw[h2];rfl,λx hx=>?_⟩
     rcases W1n.1 hx with h | h
     . subst h;exact⟨0,by omega,rfl,by simpa using hg⟩
     . exact h3' x h
theorem Xqu{ls:Array Bool}: ∀ {l:List Oper} {k:Nat},(∀q,q<l.length->ls.getD (k+q) false=true)->Xj2 ls k l=[]
 | [],_,_=>rfl
 | o::l,k,h=>by
  have h0:=h 0 (by simp)
  rw[W2j] at h0
  simp only[Xj2,h0]
  exact Xqu λq hq=>by have:=h (q+1) (by simp;omega);rwa[show k+(q+1)=k+1+q by omega] at this
section
variable{P:Program}[Gb P]{tb:Nat->Option TI}{W0:GW}{X:Nat->Prop}{θ0:Loc}{n:Nat}
theorem Yfl(hT:∀T ti,tb T=some ti->TyOk P T ti/\∀a c,ti.z≠.pr a c)(hn:n<=1000000/\Gb.g P W0){L:List Oper}{sp:Oper->Oper->Bool}{Z:S->Prop}(D:Dm tb L sp Z){R:S->Prop}{Q:Exit->Act->World->Prop}(hQ:∀a w,Nx W0 X θ0 n R a w->Q .normal a w)
 (hok:(L.all (Xex n))=true) (hchk:Xhs L sp [] [] L=true):∀(f t:Nat) (ls:Array Bool) (a:Act) (w:World),ls.size=L.length->Xn4 L (λm=>ls.getD m false=true) ->
 (∃free:List Nat,free.length=f/\free.Nodup/\∀q,q∈free↔q<L.length/\ls.getD q false=false)->Nx W0 X θ0 n (λs=>Z s/\WL P tb true L R (Xj2 ls 0 L) s) a w ->
 wpOps P L.toArray Q (Region.linearise.go .any L.toArray f t ls []) a w:=by
 intro f
 induction f with
 | zero =>
  rintro t ls a w hs hc ⟨free,hf,_,hq⟩ h
  have hfr:free=[]:=W0n hf
  rw[Xqu (λq hql=>by
   cases e:ls.getD (0+q) false with
   | true=>rfl
   | false =>
    rw[W1k] at e
    have:=(hq q).2 ⟨hql,e⟩
    rw[hfr] at this;cases this)] at h
  exact hQ a w (h.mono λ_ h=>h.2)
 | succ f ih =>
  rintro t ls a w hs hc ⟨free,hf,hnd,hq⟩ h
  have hgo:Region.linearise.go .any L.toArray (f+1) t ls []=match (rdy L ls)[t%(rdy L ls).length]? with | some i=>Region.linearise.go .any L.toArray f (t/(rdy L ls).length) (ls.setIfInBounds i true) [i] | none=>[]:=rfl
  have hall:∀ {i:Nat} {o:Oper},L[i]?=some o->(∀j∈Xft o,j<i)/\∀ {k:Nat} {x:Oper},k<i->L[k]?=some x->(∀p,Xn4 L p->(∀j∈Xft o,p j)->p k)\/Xlt L x o=true\/sp x o=true:=λho =>
   Xkm (L:=L) (l:=L) (pre:=[]) (M:=[]) rfl rfl (λm o hm=>by simp at hm) hchk (W0w _) ho
  have hne:∃i,i∈rdy L ls:=by
   have hlow:∀b,(∃q,q<b/\q∈free)->∃q∈free,∀r,r<q->r ∉ free:=by
    intro b
    induction b with
    | zero=>rintro⟨q,h,_⟩;omega
    | succ b ihb =>
     rintro⟨q,h1,h2⟩
     by_cases hb:∃q,q<b/\q∈free
     . exact ihb hb
     . have:q=b:=by
        by_cases h:q<b
        . exact absurd ⟨q,h,h2⟩ hb
        . omega
       subst this
       exact⟨q,h2,λr hr hrf=>hb ⟨r,hr,hrf⟩⟩
   have hmem:∃q,q∈free:=by
    cases free with
    | nil=>simp at hf
    | cons x l=>exact⟨x,W1a ..⟩
   obtain⟨q0,hq0⟩:=hmem
   obtain⟨q,h1,h2⟩:=hlow (q0+1) ⟨q0,by omega,hq0⟩
   obtain⟨h3,h4⟩:=(hq q).1 h1
   refine⟨q,(Xuv hs).2 ⟨L[q],W0c h3,h4,λj hj=>?_⟩⟩
   have hjq:=(hall (W0c h3)).1 j hj
   cases e:ls.getD j false with
   | true=>rfl
   | false=>exact absurd ((hq j).2 ⟨by omega,e⟩) (h2 j hjq)
  have hpos:0<(rdy L ls).length:=by
   obtain⟨i,hi⟩:=hne
   exact List.length_pos_of_mem hi
  have hlt:t%(rdy L ls).length<(rdy L ls).length:=W1x _ hpos
  rw[hgo,W0c hlt]
  simp only[]
  generalize hi:(rdy L ls)[t%(rdy L ls).length]=i
  have hir:i∈rdy L ls:=by rw[<-hi];exact W6r hlt
  obtain⟨o,ho,hif,hdep⟩:=(Xuv hs).1 hir
  rw[Yjj]
  obtain⟨u,v,r1,r2,r3⟩:=Xj1 (ls:=ls) (i:=i) (o:=o) (l:=L) (k:=0) (W0w _) (by omega) (by simpa using ho) hif
  rw[r1] at h
  have hu:∀k∈u,Ind L sp k o:=λx hx=>by
   obtain⟨q,q1,q2,q3⟩:=r3 x hx
   rcases(hall ho).2 (by simpa using q1) q2 with h | h
   . have:=h _ hc hdep
     simp at q3 this
     rw[this] at q3;cases q3
   . exact⟨W0h q2,h⟩
  have hd:∀k∈u,Xex n k=true:=λx hx=>by
   obtain⟨q,_,q2,_⟩:=r3 x hx
   exact W1o.1 hok x (W0h q2)
  have hp:=Ypg hT hn D (W0h ho) hu hd h
  rw[<-r2] at hp
  have hw:=Yf9 (Q:=Q) hT hn (W1o.1 hok o (W0h ho)) hp
  have hil:i<L.length:=Xbf ho
  have next:∀a w,Nx W0 X θ0 n (λs=>Z s/\WL P tb true L R (Xj2 (ls.setIfInBounds i true) 0 L) s) a w->wpOps P L.toArray Q (Region.linearise.go .any L.toArray f (t/(rdy L ls).length) (ls.setIfInBounds i true) []) a w:=by
   intro a w hN
   refine ih _ _ a w (by simpa using hs) (λm x hm hml j hj=>?_) ⟨free.erase i,?_,hnd.erase i,λq=>?_⟩ hN
   . have hx:=(hall hm).1 j hj
     have hmL:=Xbf hm
     have hml:(ls.setIfInBounds i true).getD m false=true:=hml
     show (ls.setIfInBounds i true).getD j false=true
     rw[Xe9 (by omega)] at hml |-
     by_cases e:i=j
     . rw[if_pos e]
     . rw[if_neg e]
       by_cases e2:i=m
       . subst e2
         rw[ho] at hm;injection hm with hm;subst hm
         exact hdep j hj
       . rw[if_neg e2] at hml
         exact hc m x hm hml j hj
   . rw[List.length_erase_of_mem ((hq i).2 ⟨hil,hif⟩),hf];rfl
   . rw[hnd.mem_erase_iff,hq q]
     constructor
     . rintro⟨h1,h2,h3⟩
       exact⟨h2,by rw[Xe9 (by omega),if_neg (λe=>h1 e.symm)];exact h3⟩
     . rintro⟨h1,h2⟩
       rw[Xe9 (by omega)] at h2
       by_cases e:i=q
       . rw[if_pos e] at h2;cases h2
       . rw[if_neg e] at h2;exact⟨λh=>e h.symm,h1,h2⟩
  have hoa:L.toArray[i]?=some o:=by simpa using ho
  simp only[List.reverse_cons,List.reverse_nil,W4b,List.singleton_append,wpOps,hoa]
  split at hw
  . rename_i hwn
    rw[if_pos hwn]
    exact .inl (Oper.wp_mono (λa w h=>next a w h) hw)
  . rename_i hwn
    rw[if_neg hwn]
    exact next _ _ hw
end
end
section
inductive Kt where
 | c (c:Code)
 | b (id:Nat)
 | l (I:S->Prop)
structure Cx where
 P:Program
 gb:Gb P
 tb:Nat->Option TI
 hT:∀T ti,tb T=some ti->TyOk P T ti/\∀a c,ti.z≠.pr a c
 mx:Mx P
 n:Nat
 hn:n<=1000000
 W0:GW
 X:Nat->Prop
 θ0:Loc
 fin:Exit->Act->World->Prop
 hg:gb.g W0
attribute [instance] Cx.gb
abbrev Cx.Nx(c:Cx)(R:S->Prop)(a:Act)(w:World): Prop:=Vm.Nx c.W0 c.X c.θ0 c.n R a w
def Xr5(c:Cx): List Kt->Exit->Act->World->Prop
 | [],e,a,w=>c.fin e a w
 | .c x::K,e,a,w=>match e with
  | .normal=>x.wp c.P (Xr5 c K) a w
  | e=>Xr5 c K e a w
 | .b id::K,e,a,w=>match e with
  | .exit id'=>if id'=id then Xr5 c K .normal a w else Xr5 c K (.exit id') a w
  | e=>Xr5 c K e a w
 | .l I::K,e,a,w=>match e with
  | .normal=>c.Nx I a w
  | e=>Xr5 c K e a w
def J(c:Cx)(K:List Kt)(s:S): Prop:=∀a w,c.Nx (λs'=>s'=s) a w->Xr5 c K .normal a w
def Yb2(id:Nat): List Kt->Option (List Kt)
 | []=>none
 | .b i::K=>match Nat.beq id i with
  | true=>some K
  | false=>Yb2 id K
 | _::K=>Yb2 id K
section
variable{c:Cx}{K:List Kt}{s:S}
theorem J.use{a:Act}{w:World}(h:c.Nx (J c K) a w): Xr5 c K .normal a w:=by
 obtain⟨s,W,θ,h1,h2,h3,h4⟩:=h
 exact h4 a w ⟨s,W,θ,h1,h2,h3,rfl⟩
theorem J.seq{x y:Code}(k:J c (.c x::.c y::K) s): J c (.c (.seq x y)::K) s:=λa w ha=>wp_seq (wp_mono (k a w ha) λe a w h=>by cases e<;>exact h)
theorem J.skip(k:J c K s): J c (.c .skip::K) s:=λa w ha=>wp_skip (k a w ha)
theorem J.block{id:Nat}{x:Code}(k:J c (.c x::.b id::K) s): J c (.c (.block id x)::K) s:=λa w ha=>wp_block (wp_mono (k a w ha) λe a w h=>by cases e<;>exact h)
theorem J.bend{id:Nat}(k:J c K s): J c (.b id::K) s:=λa w ha=>k a w ha
theorem Xw1{id:Nat}{K K':List Kt}(h:Yb2 id K=some K'){a:Act}{w:World}(hd:Xr5 c K' .normal a w): Xr5 c K (.exit id) a w:=by
 induction K with
 | nil=>simp[Yb2] at h
 | cons x K ih =>
  cases x with
  | c c=>exact ih h
  | l I=>exact ih h
  | b i =>
   by_cases hi:id=i
   . subst hi
     simp[Yb2] at h
     subst h
     simp[Xr5]
     exact hd
   . simp only[Yb2,Ycc hi] at h
     simp only[Xr5,if_neg hi]
     exact ih h
theorem J.exit{id:Nat}{K':List Kt}(h:Yb2 id K=some K')(k:J c K' s): J c (.c (.exit id)::K) s:=λa w ha=>wp_exit (Xw1 h (k a w ha))
theorem Yag{K:List Kt}{a:Act}{w:World}(h:c.fin .ret a w): Xr5 c K .ret a w:=by
 induction K with
 | nil=>exact h
 | cons x K ih=>cases x<;>exact ih
theorem J.ret(k:∀a w,c.Nx (λs'=>s'=s) a w->c.fin .ret a w): J c (.c .ret::K) s:=λa w ha=>wp_ret (Yag (k a w ha))
theorem J.cond{x:Operand}{p q:Code}{pr:Prop}{v:AV}(hv:Xcr s.1 x=some v)(hp:asP v=some pr)(k1:pr->J c (.c p::K) s)(k2:¬pr->J c (.c q::K) s): J c (.c (.cond x p q)::K) s:=by
 intro a w ha
 have ha':=ha
 obtain⟨s',W,θ,hw,hs,hθ,rfl⟩:=ha'
 obtain⟨b,e1,e2⟩:=Yf0 hp (Xjd hs hv).1
 cases b with
 | true=>exact wp_cond_true e1 (k1 (e2.1 rfl) a w ha)
 | false=>exact wp_cond_false e1 (k2 (λh=>by cases e2.2 h) a w ha)
theorem J.condU{x:Operand}{p q:Code}{pr:Prop}(hv:Xcr s.1 x=some (.ub pr))(k1:pr->J c (.c p::K) s)(k2:J c (.c q::K) s): J c (.c (.cond x p q)::K) s:=by
 intro a w ha
 have ha':=ha
 obtain⟨s',W,θ,hw,hs,hθ,rfl⟩:=ha'
 obtain⟨cs,⟨b,h1,h3⟩,h2⟩:=(Xjd hs hv).1
 rw[h1] at h2
 cases b with
 | true=>exact wp_cond_true h2 (k1 (h3 rfl) a w ha)
 | false=>exact wp_cond_false h2 (k2 a w ha)
theorem J.condT{x:Operand}{p q:Code}(hv:Xcr s.1 x=some (.b true))(k:J c (.c p::K) s): J c (.c (.cond x p q)::K) s:=J.cond hv rfl (λ_=>k) (λh=>absurd rfl h)
theorem J.condF{x:Operand}{p q:Code}(hv:Xcr s.1 x=some (.b false))(k:J c (.c q::K) s): J c (.c (.cond x p q)::K) s:=J.cond hv rfl (λh=>by cases h) (λ_=>k)
def Xos(n:Nat): List Oper->Bool
 | []=>true
 | o::l=>match Xex n o with
  | true=>Xos n l
  | false=>false
theorem Xiy{n:Nat}: ∀ {l:List Oper},Xos n l=true->(l.all (Xex n))=true
 | [],_=>rfl
 | o::l,h=>by
  simp only[Xos] at h
  split at h
  . rename_i h1;rw[List.all_cons,h1,Xiy h];rfl
  . cases h
theorem J.reg{id:Nat}{L:List Oper}(hok:Xos c.n L=true)(k:WL c.P c.tb false L (J c K) L s): J c (.c (.region id L.toArray false)::K) s:=by
 intro a w ha
 refine wp_region ?_
 have:=Xyg (Q:=Xr5 c K) c.hT ⟨c.hn,c.hg⟩ (λa w h=>J.use h) L 0 a w rfl (Xiy hok) (ha.mono λs' e=>by rw[e];exact k)
 rw[<-List.range_eq_range'] at this
 simpa using this
theorem Nx.tick{R:S->Prop}{a:Act}{w:World}(h:c.Nx R a w): c.Nx R a w.drew:=by
 obtain⟨s,W,θ,h1,h2,h3,h4⟩:=h
 exact⟨s,W.tick,θ,by rw[<-h1];rfl,h2.step0 (Stp.tick h2.obs),h3,h4⟩
theorem J.draw{id:Nat}{L:List Oper}{sp:Oper->Oper->Bool}{Z:S->Prop}(D:Dm c.tb L sp Z)(hz:Z s)(hok:Xos c.n L=true)(hchk:Xhs L sp [] [] L=true)(k:WL c.P c.tb true L (J c K) L s): J c (.c (.region id L.toArray true)::K) s:=by
 intro a w ha
 refine wp_region_draw λt=>?_
 have hs:Region.schedule (c.P.follows .mixedOrders) L.toArray t=Region.linearise.go .any L.toArray L.length t (Array.replicate L.length false) []:=by
  rw[c.mx.h]
  simp[Region.schedule,Region.linearise]
 rw[hs]
 have hf:∀i,(Array.replicate L.length false).getD i false=false:=by
  intro i
  by_cases h:i<L.length<;>simp[Array.getD,h]
 have hrem:∀(l:List Oper) k,Xj2 (Array.replicate L.length false) k l=l:=by
  intro l
  induction l with
  | nil=>intro k;rfl
  | cons o l ih=>intro k;simp only[Xj2,hf];rw[ih]
 refine Yfl c.hT ⟨c.hn,c.hg⟩ D (λa w h=>J.use h) (Xiy hok) hchk L.length t _ a _ (by simp) (λm o _ h=>by have h:(Array.replicate L.length false).getD m false=true:=h;rw[hf] at h;cases h) ⟨List.range L.length,by simp,List.nodup_range,λq=>by rw[hf];simp⟩ ?_
 rw[hrem]
 exact Nx.tick (ha.mono λs' e=>by rw[e];exact⟨hz,k⟩)
theorem Xkf(p:Nat->Prop)(h:∃n,p n): ∃n,p n/\∀m,p m->n<=m:=by
 obtain⟨n,hn⟩:=h
 induction n using Nat.strongRecOn with
 | _ n ih =>
  by_cases hs:∃m,m<n/\p m
  . obtain⟨m,hm,hp⟩:=hs;exact ih m hm hp
  . exact⟨n,hn,λm hm=>W4f λhlt=>hs ⟨m,hlt,hm⟩⟩
open Classical in
noncomputable def least(p:Nat->Prop): Nat:=if h:∃n,p n then Classical.choose (Xkf p h) else 0
theorem Xkc{p:Nat->Prop}(h:∃n,p n): p (least p)/\∀m,p m->least p<=m:=by
 unfold least;rw[dif_pos h];exact Classical.choose_spec (Xkf p h)
theorem J.loop{x:Code}(I:S->Nat->Prop)(μ:Nat)(h0:I s μ)(k:∀s μ,I s μ->J c (.c x::.l (λs'=>∃μ',μ'<μ/\I s' μ')::K) s): J c (.c (.loop x)::K) s:=by
 intro a w ha
 refine wp_loop (λa w=>∃μ,c.Nx (λs=>I s μ) a w) (λa w=>least λμ=>c.Nx (λs=>I s μ) a w) ⟨μ,ha.mono λs' e=>by rw[e];exact h0⟩ ?_
 rintro a w hI
 obtain⟨⟨s,W,θ,hw,hs,hθ,hi⟩,hmin⟩:=Xkc (p:=λμ=>c.Nx (λs=>I s μ) a w) hI
 refine wp_mono (k s _ hi a w ⟨s,W,θ,hw,hs,hθ,rfl⟩) ?_
 intro e a' w' h
 cases e<;>first | exact h | skip
 obtain⟨s',W',θ',hw',hs',hθ',μ',hlt,hi'⟩:=h
 have hN:c.Nx (λs=>I s μ') a' w':=⟨s',W',θ',hw',hs',hθ',hi'⟩
 exact⟨⟨μ',hN⟩,W1y ((Xkc (p:=λμ=>c.Nx (λs=>I s μ) a' w') ⟨μ',hN⟩).2 _ hN) hlt⟩
theorem J.at'{I:S->Prop}(h:I s): J c (.l I::K) s:=λa w ha=>ha.mono λs' e=>by rw[e];exact h
theorem J.cut{x:Code}(I:S->Prop)(k1:J c (.c x::.l I::K) s)(k2:∀s,I s->J c K s): J c (.c x::K) s:=by
 intro a w ha
 refine wp_mono (k1 a w ha) ?_
 intro e a' w' h
 cases e<;>first | exact h | skip
 exact J.use (h.mono λs hs=>k2 s hs)
def Xya(s:S): Prop:=(∀t v i,s.1 t=some v->v.ids i->∃y,s.2 i=some y)/\∀o x i,s.2 o=some x->x.ids i->∃y,s.2 i=some y
theorem J.sub(s':S)(h1:∀t v,s'.1 t=some v->s.1 t=some v)(h2:∀o x,s'.2 o=some x->s.2 o=some x)(h3:Xya s')(k:J c K s'): J c K s:=by
 rintro a w ⟨s0,W,θ,hw,hs,hθ,rfl⟩
 exact k a w ⟨s',W,θ,hw,⟨hs.fm,⟨hs.rel.defers,hs.rel.size,λt v ht=>hs.rel.has t v (h1 t v ht)⟩,
  ⟨λo x hx=>hs.obs.r o x (h2 o x hx),λo x b hx=>hs.obs.new o x b (h2 o x hx),λo o' x x' b hx hx'=>hs.obs.dis o o' x x' b (h2 o x hx) (h2 o' x' hx'),h3.2⟩,h3.1⟩,hθ,rfl⟩
end
end
section
def θe: Loc:=λ_=>(none,0)
abbrev Env:=List (Nat×AV)
abbrev Hpl:=List (Nat×Ob)
def look{α:Type _}: List (Nat×α)->Nat->Option α
 | [],_=>none
 | (s,v)::e,t=>match Nat.beq t s with
  | true=>some v
  | false=>look e t
def Xlm: AV->Bool
 | .st a=>Xlm a
 | .pr a c=>Xlm a&&Xlm c
 | .tup a=>Xlm a
 | .ptr _ _ | .own _ _ _ _ | .ow3 _ _ _ _ | .gr _ _ _ | .el _ _ _ _ | .fn _ _ | .ap _ _=>false
 | .fm _ a=>Xlm a
 | _=>true
theorem Xll: ∀ {a:AV},Xlm a=true->∀i,¬a.ids i:=by
 intro a
 induction a with
 | st a ih=>exact λh i=>ih h i
 | tup a ih=>exact λh i=>ih h i
 | fm f a ih=>exact λh i=>ih h i
 | pr a c iha ihc =>
  intro h i hi
  simp only[Xlm,W0f] at h
  exact hi.elim (iha h.1 i) (ihc h.2 i)
 | _=>intro h i hi;first | exact hi | cases h
def Ret(W0:GW)(Q:AV->Prop)(e:Ending)(w':World): Prop:=∃W' v u,e=.returned u/\W'.w=w'/\Fm W0 W' (λ_=>False)/\AV.V W' θe v u/\(∀i,¬v.ids i)/\Q v
def C(P:Program)[Gb P](f:FuncId)(args:List AV)(Q:AV->Prop): Prop:=Ynw P f/\∀W vs,Gb.g P W->Xjo W θe args vs->Calls P f vs.toArray W.w (Ret W Q)
theorem Xjo.mono{W W':GW}{θ θ':Loc}(l:LeF W W'): ∀ {asx:List AV} {vs:List Value},(∀a∈asx,∀i,a.ids i->θ' i=θ i)->Xjo W θ asx vs->Xjo W' θ' asx vs
 | [],[],_,_=>trivial
 | a::asx,v::vs,hi,h=>⟨h.1.mono l (hi a (W1a ..)),h.2.mono l λa ha=>hi a (W1c _ ha)⟩
 | [],_::_,_,h=>h.elim
 | _::_,[],_,h=>h.elim
theorem C.cs{P:Program}[Gb P]{f:FuncId}{args:List AV}{Q:AV->Prop}(h:C P f args Q)(hn:(args.all Xlm)=true)(g:Hp): CS P f args g λv g'=>g'=g/\Q v:=by
 refine⟨h.1,λN W θ vs hg hO hN _ ha=>(h.2 W vs hg (ha.mono (LeF.refl W) λa hm i hi=>absurd hi (Xll (W1o.1 hn a hm) i))).mono ?_⟩
 rintro e w' ⟨W',v,u,rfl,rfl,hf,hv,hi,hq⟩
 refine⟨W',θ,v,u,g,rfl,rfl,?_,hv.mono (LeF.refl _) λi h=>absurd h (hi i),λi h=>absurd h (hi i),rfl,hq⟩
 exact {
  os:=hf.os,out:=hf.out,tape:=hf.tape,size:=hf.size
  same:=λb hb _=>hf.same b hb id
  A:=λb hb _ i=>hf.A b hb id i
  le:=hf.le
  th:=λ_ _ _=>rfl
  hi:=λ_ _=>rfl
  obs:=⟨λo x hx=>(hO.r o x hx).keep hf.le rfl (λ_ _=>rfl) λhl b hb=>⟨hf.same b (hO.lt hx hl hb) id,λi hA=>(hf.A b (hO.lt hx hl hb) id i).2 hA⟩,hO.new,hO.dis,hO.ids⟩
  dom:=λ_ y h=>⟨y,h⟩ }
def Xcf{α:Type _}(H:List (Nat×α))(i:Nat): Bool:=match look H i with
 | some _=>true
 | none=>false
def Xdk(H:Hpl): AV->Bool
 | .st a=>Xdk H a
 | .pr a c=>Xdk H a&&Xdk H c
 | .tup a=>Xdk H a
 | .fm _ a=>Xdk H a
 | .ptr o _ | .own o _ _ _ | .ow3 o _ _ _ | .gr o _ _ | .el o _ _ _ | .fn _ o | .ap o _=>Xcf H o
 | _=>true
theorem Xgl{H:Hpl}: ∀ {a:AV},Xdk H a=true->∀i,a.ids i->∃y,look H i=some y:=by
 have hk:∀o,Xcf H o=true->∃y,look H o=some y:=λo h=>by
  unfold Xcf at h;split at h
  . rename_i y hy;exact⟨y,hy⟩
  . cases h
 intro a
 induction a with
 | st a ih=>exact ih
 | tup a ih=>exact ih
 | fm f a ih=>exact ih
 | pr a c iha ihc =>
  intro h i hi
  simp only[Xdk,W0f] at h
  exact hi.elim (iha h.1 i) (ihc h.2 i)
 | _=>intro h i hi;first | exact hi.elim | (have hi:i=_:=hi;subst hi;exact hk _ h)
inductive Fit (g:Hp) (K:Hpl):AV->AV->Prop where
 | rf {a:AV} (h:Xdk K a=true):Fit g K a a
 | eq {x y:D} (h:x=y):Fit g K (.d x) (.d y)
 | nil {sz:Nat} {ys:List D} (h:ys=[]):Fit g K .nil (.d (.sl sz ys))
 | lit {sz:Nat} {xs ys:List D} (h:xs=ys):Fit g K (.lit sz xs) (.d (.sl sz ys))
 | gr {o sz:Nat} {xs ys:List D} (h:xs=ys):Fit g K (.gr o sz xs) (.d (.sl sz ys))
 | own {o sz l n:Nat} {xs ys:List D} (h:g o=some (.arr sz xs)) (hn:l+n<=xs.length) (hy:(xs.drop l).take n=ys) (hk:Xcf K o=false:=by exact rfl):Fit g K (.own o sz l n) (.d (.sl sz ys))
 | ow3 {o sz l n:Nat} {xs ys:List D} (h:g o=some (.arr sz xs)) (hn:l+n<=xs.length) (hy:(xs.drop l).take n=ys) (hk:Xcf K o=false:=by exact rfl):Fit g K (.ow3 o sz l n) (.d (.sl sz ys))
 | bq {c:Bool} {p:Prop} (h:c=true↔p):Fit g K (.b c) (.q p)
 | qq {p q:Prop} (h:p↔q):Fit g K (.q p) (.q q)
 | bp {c:Bool} {p:Prop} (h:c=true↔p):Fit g K (.b c) (.b (dc p))
 | bd {c e:Bool} (h:c=e):Fit g K (.b c) (.d (.bool e))
 | qd {p:Prop} {e:Bool} (h:p↔e=true):Fit g K (.q p) (.d (.bool e))
 | dq {c:Bool} {p:Prop} (h:c=true↔p):Fit g K (.d (.bool c)) (.q p)
 | st {a b:AV} (h:Fit g K a b):Fit g K (.st a) (.st b)
 | sd {a:AV} {x:D} (h:Fit g K a (.d x)):Fit g K (.st a) (.d (.st x))
 | pr {a b c e:AV} (h:Fit g K a b) (k:Fit g K c e):Fit g K (.pr a c) (.pr b e)
 | pd {a c:AV} {x y:D} (h:Fit g K a (.d x)) (k:Fit g K c (.d y)):Fit g K (.pr a c) (.d (.pr x y))
inductive FitT (g:Hp) (K:Hpl):AV->AV->Prop where
 | one {a b:AV} (h:Fit g K a b) (ha:∀u v,a≠.pr u v) (hb:∀u v,b≠.pr u v):FitT g K a b
 | cons {a b c e:AV} (h:Fit g K a b) (k:FitT g K c e):FitT g K (.pr a c) (.pr b e)
inductive FitR (g:Hp) (K:Hpl):AV->AV->Prop where
 | one {a b:AV} (h:Fit g K a b) (ha:plain a=true) (hb:plain b=true):FitR g K a b
 | tup {a b:AV} (h:FitT g K a b):FitR g K (.tup a) (.tup b)
structure Exi (W W':GW) (N:Nat->Prop) (θ:Loc) (g:Hp) (K:Hpl):Prop where
 o:Obs W θ N g
 l:LeF W W'
 n:∀o x b,g o=some x->x.live=true->(θ o).1=some b->Xcf K o=false->∀i v,W.w.cell? ⟨b,i,none⟩=some v->Fr W' b i v
theorem Xz4{W W':GW}{N:Nat->Prop}{θ:Loc}{g:Hp}{K:Hpl}(E:Exi W W' N θ g K){a b:AV}(h:Fit g K a b): (∀ {cs:List Value},AV.C W θ a cs->AV.C W' θ b cs)/\a.ag=b.ag/\∀i,b.ids i->∃y,look K i=some y:=by
 induction h with
 | rf h=>exact⟨λhc=>AV.c_mono E.l _ (λ_ _=>rfl) hc,rfl,Xgl h⟩
 | eq h=>subst h;exact⟨λhc=>D.mono E.l _ hc,rfl,λ_ h=>h.elim⟩
 | nil h=>subst h;exact⟨λ⟨p,e⟩=>⟨p,0,e,W0b _,by decide,.inl rfl⟩,rfl,λ_ h=>h.elim⟩
 | @lit sz xs ys h =>
  subst h
  exact⟨λ{cs} hc=>D.mono E.l (.sl sz xs) (Xml (θ:=θ) (z:=.sl sz []) (a:=.lit sz xs) rfl hc),rfl,λ_ h=>h.elim⟩
 | @gr o sz xs ys h =>
  subst h
  exact⟨λ{cs} hc=>D.mono E.l (.sl sz xs) (Xml (θ:=θ) (z:=.sl sz []) (a:=.gr o sz xs) rfl hc),rfl,λ_ h=>h.elim⟩
 | @own o sz l n xs ys h hn hy hk =>
  subst hy
  refine⟨λ{cs} hc=>?_,rfl,λ_ h=>h.elim⟩
  obtain⟨b,p,h1,h2,h3,e,h5⟩:=hc
  obtain⟨b',bs,T',r1,r2,r3,r4,r5,r6,r7⟩:=E.o.r _ _ h
  rw[h1] at r1;injection r1 with r1;subst r1
  have hlen:((xs.drop l).take n).length=n:=by simp;omega
  refine⟨p,(θ o).2-l,by rw[hlen];exact e,by omega,by omega,?_⟩
  rcases W2s n with hn0 | hn0
  . exact .inl (W4s.1 (by rw[hlen,hn0]))
  . refine .inr ⟨b,l*sz,h5 (by omega),?_⟩
    have hrow:D.Row W' b sz 0 xs:=(AtL.mono E.l (sz:=sz) (xs:=xs) (cs:=bs) r6).row λq v _ hv=>by
     rw[W1k]
     exact E.n o _ b h rfl h1 hk q v (by rw[Xbb r2];exact hv)
    have:=D.row_sub hrow l n
    rwa[W1k] at this
 | @ow3 o sz l n xs ys h hn hy hk =>
  subst hy
  refine⟨λ{cs} hc=>?_,rfl,λ_ h=>h.elim⟩
  obtain⟨b,p,h1,h2,h3,e,h5⟩:=hc
  obtain⟨b',bs,T',r1,r2,r3,r4,r5,r6,r7⟩:=E.o.r _ _ h
  rw[h1] at r1;injection r1 with r1;subst r1
  have hlen:((xs.drop l).take n).length=n:=by simp;omega
  refine⟨p,n,by rw[hlen];exact e,by omega,by omega,?_⟩
  rcases W2s n with hn0 | hn0
  . exact .inl (W4s.1 (by rw[hlen,hn0]))
  . refine .inr ⟨b,l*sz,h5 (by omega),?_⟩
    have hrow:D.Row W' b sz 0 xs:=(AtL.mono E.l (sz:=sz) (xs:=xs) (cs:=bs) r6).row λq v _ hv=>by
     rw[W1k]
     exact E.n o _ b h rfl h1 hk q v (by rw[Xbb r2];exact hv)
    have:=D.row_sub hrow l n
    rwa[W1k] at this
 | bq h=>exact⟨λhc=>⟨_,hc,h⟩,rfl,λ_ h=>h.elim⟩
 | qq h=>exact⟨λ⟨c,e,hp⟩=>⟨c,e,hp.trans h⟩,rfl,λ_ h=>h.elim⟩
 | @bp c p h =>
  have:c=dc p:=W4n.2 (h.trans Xaj.symm)
  subst this
  exact⟨λhc=>hc,rfl,λ_ h=>h.elim⟩
 | bd h=>subst h;exact⟨λhc=>hc,rfl,λ_ h=>h.elim⟩
 | @qd p e h =>
  refine⟨λ⟨c,e1,hp⟩=>?_,rfl,λ_ h=>h.elim⟩
  have:c=e:=W4n.2 (hp.trans h)
  subst this;exact e1
 | dq h=>exact⟨λhc=>⟨_,hc,h⟩,rfl,λ_ h=>h.elim⟩
 | st h ih=>exact⟨λhc=>ih.1 hc,rfl,ih.2.2⟩
 | sd h ih=>exact⟨λhc=>ih.1 hc,rfl,λ_ h=>h.elim⟩
 | pr h k ih1 ih2=>exact⟨λ⟨u,v,e,h1,h2⟩=>⟨u,v,e,ih1.1 h1,ih2.1 h2⟩,rfl,λi hi=>hi.elim (ih1.2.2 i) (ih2.2.2 i)⟩
 | pd h k ih1 ih2=>exact⟨λ⟨u,v,e,h1,h2⟩=>⟨u,v,e,ih1.1 h1,ih2.1 h2⟩,rfl,λ_ h=>h.elim⟩
theorem Yct{W W':GW}{N:Nat->Prop}{θ:Loc}{g:Hp}{K:Hpl}(E:Exi W W' N θ g K){a b:AV}(h:Fit g K a b){v:Value}(hv:AV.V1 W θ a v): AV.V1 W' θ b v:=by
 obtain⟨cs,hc,e⟩:=hv
 obtain⟨f1,f2,f3⟩:=Xz4 E h
 exact⟨cs,f1 hc,by rw[e,f2]⟩
theorem Ym5{W W':GW}{N:Nat->Prop}{θ:Loc}{g:Hp}{K:Hpl}(E:Exi W W' N θ g K){a b:AV}(h:FitT g K a b): (∀ {vs:List Value},AV.T W θ a vs->AV.T W' θ b vs)/\∀i,b.ids i->∃y,look K i=some y:=by
 induction h with
 | @one a b h ha hb =>
  refine⟨λ{vs} hv=>?_,(Xz4 E h).2.2⟩
  by_cases hu:a=.un\/b=.un
  . have:a=.un/\b=.un:=by
     rcases hu with rfl | rfl
     . cases h;exact⟨rfl,rfl⟩
     . cases h;exact⟨rfl,rfl⟩
    obtain⟨rfl,rfl⟩:=this
    match vs,hv with
    | [],_=>trivial
    | [v],⟨_,h,_⟩=>exact h.elim
  have hua:a≠.un:=λe=>hu (.inl e)
  have hub:b≠.un:=λe=>hu (.inr e)
  have key:∀ {W:GW} {θ:Loc} {a:AV},a≠.un->(∀u v,a≠.pr u v)->(AV.T W θ a vs↔∃v,vs=[v]/\AV.V1 W θ a v):=by
   intro W θ a hu ha
   cases a<;>first | exact absurd rfl (ha _ _) | exact absurd rfl hu | skip
   all_goals
    match vs with
    | []=>exact⟨λh=>h.elim,λ⟨v,h,_⟩=>by cases h⟩
    | [v]=>exact⟨λh=>⟨v,rfl,h⟩,λ⟨w,h,k⟩=>by injection h with h;subst h;exact k⟩
    | _::_::_=>exact⟨λh=>h.elim,λ⟨v,h,_⟩=>by cases h⟩
  obtain⟨v,e,h1⟩:=(key hua ha).1 hv
  exact(key hub hb).2 ⟨v,e,Yct E h h1⟩
 | cons h k ih =>
  refine⟨λ{vs} hv=>?_,λi hi=>hi.elim ((Xz4 E h).2.2 i) (ih.2 i)⟩
  match vs,hv with
  | v::vs,hv=>exact⟨Yct E h hv.1,ih.1 hv.2⟩
theorem Ye8{W W':GW}{N:Nat->Prop}{θ:Loc}{g:Hp}{K:Hpl}(E:Exi W W' N θ g K){a b:AV}(h:FitR g K a b){v:Value}(hv:AV.V W θ a v): AV.V W' θ b v/\∀i,b.ids i->∃y,look K i=some y:=by
 cases h with
 | one h ha hb =>
  obtain⟨cs,hc,e⟩:=V_c hv (λ_ e=>by subst e;cases ha) (λe=>by subst e;cases ha)
  obtain⟨f1,f2,f3⟩:=Xz4 E h
  have:=Ykz (f1 hc)
  rw[<-f2,<-e] at this
  exact⟨this,f3⟩
 | tup h =>
  obtain⟨vs,e,ht⟩:=hv
  obtain⟨f1,f2⟩:=Ym5 E h
  exact⟨⟨vs,e,f1 ht⟩,f2⟩
def Ylb(tb:Nat->Option TI)(s:S): ResultVar->Option AV
 | .tmp t=>match s.1 t with
  | some a=>match plain a with
   | true=>some a
   | false=>none
  | none=>none
 | .cell t T=>match tb T,s.1 t with
  | some ti,some (.ptr o 0)=>match s.2 o with
   | some (.var a)=>match plain a&&Xz5 ti.z.size ti.z.ag a with
    | true=>some a
    | false=>none
   | _=>none
  | _,_=>none
def Xsf(tb:Nat->Option TI)(s:S): List ResultVar->Option (List AV)
 | []=>some []
 | r::l=>match Ylb tb s r,Xsf tb s l with
  | some a,some asx=>some (a::asx)
  | _,_=>none
def mkT: List AV->AV
 | []=>.un
 | [a]=>a
 | a::l=>.pr a (mkT l)
def Xyb(tb:Nat->Option TI)(s:S)(rs:List ResultVar): Option AV:=match rs,Xsf tb s rs with
 | [_],some [a]=>some a
 | _::_::_,some asx=>some (.tup (mkT asx))
 | [],some []=>some (.tup .un)
 | _,_=>none
def Xqs(tmps:Array Value): ResultVar->Sem Value
 | .tmp t=>pure (tmps.getD t undef)
 | .cell a t=>do loadVar t (<-asAddr (tmps.getD a undef))
section
variable{c:Cx}{K:List Kt}{s:S}
theorem Xzj{W:GW}{θ:Loc}{a:AV}{v:Value}(h:AV.V W θ a v)(hp:plain a=true): AV.V1 W θ a v:=V_c h (λ_ e=>by subst e;cases hp) (λe=>by subst e;cases hp)
theorem Xy8{W0:GW}{X:Nat->Prop}{n:Nat}{a:Act}{W:GW}{θ:Loc}(hT:∀T ti,c.tb T=some ti->TyOk c.P T ti/\∀a c,ti.z≠.pr a c)(hs:Sat W0 X n s a W θ){r:ResultVar}{v:AV}(h:Ylb c.tb s r=some v):
 ∃u,(Xqs a.tmps r).run c.P W.w=.ok u W.w/\AV.V1 W θ v u/\plain v=true:=by
 cases r with
 | tmp t =>
  simp only[Ylb] at h
  split at h<;>try cases h
  rename_i b hb
  split at h<;>cases h
  rename_i hp
  exact⟨_,rfl,Xzj (hs.rel.has t _ hb) hp,hp⟩
 | cell t T =>
  simp only[Ylb] at h
  split at h<;>try cases h
  rename_i ti o hti ht
  split at h<;>try cases h
  rename_i b hg
  split at h<;>cases h
  rename_i hp
  rw[W0f] at hp
  obtain⟨hp1,hp2⟩:=hp
  obtain⟨f1,f2⟩:=Xdl hp2
  obtain⟨hk,hpr⟩:=hT _ _ hti
  obtain⟨bb,h1,e⟩:=Xju (hs.rel.has t _ ht)
  obtain⟨b',cs,T',r1,r2,r3,r4⟩:=hs.obs.r _ _ hg
  rw[h1] at r1;injection r1 with r1;subst r1
  have:=Xis hk (off:=0) r3 f1 f2 (λe=>by rw[f1];exact ag1 hk (by rw[<-f2];exact e) hpr) (λj u hj=>by rw[Xbb r2,W1k];exact hj)
  refine⟨_,?_,Yk0 r3,hp1⟩
  simp only[Xqs,e,asAddr]
  rw[Sem.run_bind]
  show Result.andThen (Result.ok _ _) _=_
  simp only[Result.andThen_ok]
  exact this
theorem Xmt{W0:GW}{X:Nat->Prop}{n:Nat}{a:Act}{W:GW}{θ:Loc}(hT:∀T ti,c.tb T=some ti->TyOk c.P T ti/\∀a c,ti.z≠.pr a c)(hs:Sat W0 X n s a W θ): ∀ {l:List ResultVar} {asx:List AV},Xsf c.tb s l=some asx ->
 ∃us,(l.mapM (Xqs a.tmps)).run c.P W.w=.ok us W.w/\us.length=asx.length/\asx.length=l.length/\(∀(i:Nat) (v:AV),asx[i]?=some v->∃u,us[i]?=some u/\AV.V1 W θ v u/\plain v=true)
 | [],asx,h=>by simp only[Xsf] at h;injection h with h;subst h;exact⟨[],rfl,rfl,rfl,λi v h=>by simp at h⟩
 | r::l,asx,h=>by
  simp only[Xsf] at h
  split at h<;>cases h
  rename_i b bs h1 h2
  obtain⟨u,e1,e2,e3⟩:=Xy8 hT hs h1
  obtain⟨us,k1,k2,k3,k4⟩:=Xmt hT hs h2
  refine⟨u::us,?_,by simp[k2],by simp[k3],λi v hi=>?_⟩
  . rw[List.mapM_cons,Sem.run_bind,e1]
    simp only[Result.andThen_ok]
    rw[Sem.run_bind,k1]
    rfl
  . cases i with
    | zero=>simp at hi;subst hi;exact⟨u,rfl,e2,e3⟩
    | succ i=>simpa using k4 i v (by simpa using hi)
theorem Yit{W:GW}{θ:Loc}: ∀ {asx:List AV} {us:List Value},us.length=asx.length->0<asx.length->(∀(i:Nat) (v:AV),asx[i]?=some v->∃u,us[i]?=some u/\AV.V1 W θ v u/\plain v=true)->AV.T W θ (mkT asx) us
 | [a],[u],_,_,h=>by
  obtain⟨w,h1,h2,h3⟩:=h 0 a rfl
  simp at h1;subst h1
  show AV.T W θ a [u]
  cases a<;>first | exact h2 | cases h3
 | a::b::l,u::us,hl,_,h=>by
  obtain⟨w,h1,h2,_⟩:=h 0 a rfl
  simp at h1;subst h1
  exact⟨h2,Yit (asx:=b::l) (by simpa using hl) (by simp) λi v hi=>by
   have:=h (i+1) v (by simpa using hi)
   simpa using this⟩
 | [],_,_,h,_=>by simp at h
 | [_],[],h,_,_=>by simp at h
 | [_],_::_::_,h,_,_=>by simp at h
 | _::_::_,[],h,_,_=>by simp at h
theorem Xqr{W0:GW}{X:Nat->Prop}{n:Nat}{a:Act}{W:GW}{θ:Loc}(hT:∀T ti,c.tb T=some ti->TyOk c.P T ti/\∀a c,ti.z≠.pr a c)(hs:Sat W0 X n s a W θ){fn:Func}{v:AV}(h:Xyb c.tb s fn.results.toList=some v):
 ∃u,(results fn a.tmps).run c.P W.w=.ok u W.w/\AV.V W θ v u:=by
 have key:∀ {asx:List AV},Xsf c.tb s fn.results.toList=some asx->∃us:List Value,(results fn a.tmps).run c.P W.w=.ok (if h:us.toArray.size=1 then us.toArray[0] else .tuple us.toArray) W.w/\us.length=asx.length/\asx.length=fn.results.toList.length/\(∀(i:Nat) (v:AV),asx[i]?=some v->∃u,us[i]?=some u/\AV.V1 W θ v u/\plain v=true):=by
  intro asx has
  obtain⟨us,k1,k2,k3,k4⟩:=Xmt hT hs has
  refine⟨us,?_,k2,k3,k4⟩
  unfold results
  have hr:fn.results=fn.results.toList.toArray:=by simp
  have hm:(fn.results.mapM (Xqs a.tmps)).run c.P W.w=.ok us.toArray W.w:=by
   rw[hr,List.mapM_toArray,Sem.run_map,k1]
   rfl
  rw[Sem.run_bind]
  erw[hm]
  rfl
 unfold Xyb at h
 split at h<;>cases h
 . rename_i r hrs has
   obtain⟨us,k1,k2,k3,k4⟩:=key has
   match us,k2,k1 with
   | [u],_,k1 =>
    obtain⟨w,h1,h2,h3⟩:=k4 0 _ rfl
    simp at h1;subst h1
    exact⟨u,by rw[k1];rfl,V1.V h2⟩
 . rename_i r1 r2 rs asx hrs has
   obtain⟨us,k1,k2,k3,k4⟩:=key has
   have hl:2<=us.length:=by rw[k2,k3,hrs];simp
   exact⟨.tuple us.toArray,by rw[k1,dif_neg (by simp;omega)],us,rfl,Yit k2 (by omega) k4⟩
 . rename_i hrs has
   obtain⟨us,k1,k2,k3,k4⟩:=key has
   have hl:us=[]:=W0n (by rw[k2];rfl)
   subst hl
   exact⟨.tuple #[],by rw[k1];rfl,[],rfl,trivial⟩
theorem Xwt{fn:Func}{Q:AV->Prop}(hX:c.X=λ_=>False){v v':AV}(hr:Xyb c.tb s fn.results.toList=some v)(hf:FitR s.2 [] v v')(hq:Q v'){a:Act}{w:World}(h:c.Nx (λs'=>s'=s) a w):
 a.defers=[]/\∃u,(results fn a.tmps).run c.P w=.ok u w/\Ret c.W0 Q (.returned u) w:=by
 obtain⟨s',W,θ,rfl,hs,hθ,rfl⟩:=h
 obtain⟨u,hu,hv⟩:=Xqr c.hT hs hr
 have hfm:=hs.fm
 have hobs:=hs.obs
 rw[hX] at hfm hobs
 refine⟨hs.rel.defers,u,hu,?_⟩
 let W':GW:=⟨W.w,c.W0.A,λb i h=>W0v (c.W0.hA b i h) hfm.size⟩
 have hle:LeF W W':=λb i x hx=>⟨hx.1,λhA=>hx.2 ((hfm.A b (c.W0.hA b i hA) id i).2 hA)⟩
 have E:Exi W W' (λb=>c.W0.size<=b\/False) θ s'.2 []:=⟨hobs,hle,λo x b ho hl hb _ i y hy=>⟨hy,λhA=>absurd (c.W0.hA b i hA) (W5t.2 ((hobs.new o x b ho hl hb).resolve_right id))⟩⟩
 obtain⟨f1,f2⟩:=Ye8 E hf hv
 have f2:∀i,¬v'.ids i:=λi hi=>by obtain⟨y,hy⟩:=f2 i hi;cases hy
 exact⟨W',v',u,rfl,rfl,⟨hfm.os,hfm.out,hfm.tape,hfm.size,hfm.same,λ_ _ _ _=>W3p,λb i x hx=>⟨(hfm.le b i x hx).1,hx.2⟩⟩,f1.mono (LeF.refl W') λi hi=>absurd hi (f2 i),f2,hq⟩
theorem J.retC{fn:Func}{Q:AV->Prop}(hX:c.X=λ_=>False)(hfin:c.fin=bodyPost c.P fn (Ret c.W0 Q)){v v':AV}(hr:Xyb c.tb s fn.results.toList=some v)(hf:FitR s.2 [] v v')(hq:Q v'): J c (.c .ret::K) s :=
 J.ret λa w h=>by rw[hfin];exact Xwt hX hr hf hq h
theorem J.endC{fn:Func}{Q:AV->Prop}(hX:c.X=λ_=>False)(hfin:c.fin=bodyPost c.P fn (Ret c.W0 Q)){v v':AV}(hr:Xyb c.tb s fn.results.toList=some v)(hf:FitR s.2 [] v v')(hq:Q v'): J c [] s :=
 λa w h=>by show c.fin .normal a w;rw[hfin];exact Xwt hX hr hf hq h
end
def Yav: Nat->List AV->Ev
 | _,[]=>λ_=>none
 | i,v::vs=>upd (Yav (i+1) vs) i v
theorem Xnz{W:GW}: ∀ {asx:List AV} {vs:List Value} {i t:Nat} {v:AV},Xjo W θe asx vs->Yav i asx t=some v->i<=t/\∃u,vs[t-i]?=some u/\AV.V W θe v u/\v∈asx
 | [],[],i,t,v,_,h=>by simp[Yav] at h
 | a::asx,u::vs,i,t,v,ha,h=>by
  rcases Xaf h with ⟨e1,e2⟩ | ⟨e1,e2⟩
  . subst e1;subst e2;exact⟨W0b _,u,by simp,ha.1,W1a ..⟩
  . obtain⟨h1,w,h2,h3,h4⟩:=Xnz ha.2 e2
    exact⟨by omega,w,by rw[show t-i=(t-(i+1))+1 by omega];simpa using h2,h3,W1c _ h4⟩
 | [],_::_,_,_,_,h,_=>h.elim
 | _::_,[],_,_,_,h,_=>h.elim
theorem Xjo.len{W:GW}{θ:Loc}: ∀ {asx:List AV} {vs:List Value},Xjo W θ asx vs->asx.length=vs.length
 | [],[],_=>rfl
 | _::_,_::_,h=>by simp[h.2.len]
 | [],_::_,h=>h.elim
 | _::_,[],h=>h.elim
theorem C.enter {P : Program} [gb : Gb P] [t : Tab P] (hpr : ∀ T ti, t.tb T = some ti → ∀ a c, ti.z ≠ .pr a c) [m : Mx P] {f n : Nat} {fn : Func} {x : Code} {args : List AV} {Q : AV → Prop} (hf : P.funcs[f]? = some fn) (hname : (fn.name == "runtime.NumGoroutine") = false) (hb : fn.body = some x)
 (hN:fn.ntmps=n) (hl:(Nat.ble args.length n&&Nat.ble n 1000000&&args.all Xlm)=true)
 (h:∀W (hg:gb.g W),J ⟨P,gb,t.tb,λT ti h=>⟨t.ok T ti h,hpr T ti h⟩,m,n,by simp only[W0f] at hl;exact W1i hl.1.2,W,λ_=>False,θe,bodyPost P fn (Ret W Q),hg⟩ [.c x] (Yav 0 args,λ_=>none)):C P f args Q:=by
 refine⟨⟨fn,hf,hname,by rw[hb];rfl⟩,λW vs hg ha=>calls_of_wp hf hb ?_⟩
 simp only[W0f] at hl
 obtain⟨⟨hl1,hl2⟩,hl3⟩:=hl
 have hl1:=W1i hl1
 have hlen:=ha.len
 refine wp_mono (h W hg _ W.w ⟨_,W,θe,rfl,⟨Fm.refl W _,⟨rfl,by simp[hN];omega,λt v ht=>?_⟩,⟨λo x h=>by simp at h,λo x b h=>by simp at h,λo o' x x' b h=>by simp at h,λo x i h=>by simp at h⟩,λt v i ht hi=>?_⟩,λ_ _=>rfl,rfl⟩) λe a w h=>by cases e<;>exact h
 . obtain⟨_,u,h2,h3,_⟩:=Xnz ha ht
   rw[W5y] at h2
   have hlt:=Xbf h2
   rw[W0c hlt] at h2
   injection h2 with h2
   simp only[Array.getD]
   rw[dif_pos (by simp;omega)]
   simp[W6z,hlt,h2]
   exact h3
 . obtain⟨_,u,_,_,h4⟩:=Xnz ha ht
   exact absurd hi (Xll (W1o.1 hl3 v h4) i)
end
section
abbrev sem(E:Env)(H:Hpl): S:=(look E,look H)
theorem Xa7{α:Type _}(E:List (Nat×α))(d:Nat)(v:α): upd (look E) d v=look ((d,v)::E):=by funext t;simp only[upd,look];cases Nat.beq t d<;>rfl
theorem Xi4(H:Hpl): ∀us:List (Nat×Ob),Xbi (look H) us=look (us++H)
 | []=>rfl
 | (o,x)::us=>by rw[Xbi,Xi4 H us,Xa7];rfl
def Xs9(E:Env)(d:Option Nat)(v:AV): Env:=match d with
 | some d=>(d,v)::E
 | none=>E
theorem Xfl(E:Env)(H:Hpl)(us:List (Nat×Ob))(d:Option Nat)(v:AV): S.put ((sem E H).1,Xbi (sem E H).2 us) d v=sem (Xs9 E d v) (us++H):=by
 cases d with
 | none=>simp only[S.put,Xs9,sem,Xi4]
 | some d=>simp only[S.put,Xs9,sem,Xi4,Xa7]
def stops: Op->Bool
 | .binOp op _ _ _ _=>match op with
  | .eql | .neq | .lss | .leq | .gtr | .geq=>false
  | _=>true
 | .unOp op _ _=>match op with
  | .not=>false
  | _=>true
 | .convert _ _ _ | .index _ _ _ | .indexAddr _ _ _ | .slice _ _ _ _ _ | .makeSlice _ _ _=>true
 | .call c=>match c.callee with
  | .builtin .len=>false
  | _=>true
 | _=>false
def Yl7(E:Env): Op->Bool
 | .load _ x=>match Xcr (look E) x with
  | some (.el _ _ _ _)=>true
  | _=>false
 | .store _ x _=>match Xcr (look E) x with
  | some (.el _ _ _ _)=>true
  | _=>false
 | _=>false
def Yox(G:List (Nat×Bool)): Option Nat->List (Nat×Bool)
 | none=>G
 | some d=>(d,false)::G
inductive St where
 | j (G:List (Nat×Bool)) (K:List Kt) (E:Env) (H:Hpl)
 | o (G:List (Nat×Bool)) (dr:Bool) (L l:List Oper) (K:List Kt) (E:Env) (H:Hpl)
def StP(c:Cx): St->Prop
 | .j _ K E H=>J c K (sem E H)
 | .o _ dr L l K E H=>WL c.P c.tb dr L (J c K) l (sem E H)
def inG: List (Nat×Bool)->Nat->Bool
 | [],_=>false
 | (s,b)::G,t=>match Nat.beq s t with
  | true=>b
  | false=>inG G t
def Ygn(G:List (Nat×Bool)): Operand->Bool
 | .const (.bool _)=>true
 | .tmp t=>inG G t
 | _=>false
def Ypk(G:List (Nat×Bool))(E:Env): Op->Bool
 | .assign x | .move x=>Ygn G x
 | .unOp op _ x=>match op with
  | .not=>Ygn G x
  | _=>false
 | .pick x a b=>match Xcr (look E) x with
  | some (.b true)=>Ygn G a
  | some (.b false)=>Ygn G b
  | _=>false
 | _=>false
def Ydz(G:List (Nat×Bool))(L:List Oper)(E:Env)(o:Oper): Bool:=match o.guard with
 | none=>true
 | some (j,_)=>match Xnj L j with
  | none=>false
  | some t=>match look E t with
   | some .un=>true
   | _=>inG G t
def Yml(G:List (Nat×Bool)): Op->Bool
 | .pick x _ _=>Ygn G x
 | _=>true
def nfA{α:Type}: AV->(AV->α)->α
 | .d x,k=>k (.d x)
 | .q p,k=>k (.q p)
 | .b c,k=>k (.b c)
 | .ub p,k=>k (.ub p)
 | .nil,k=>k .nil
 | .lit sz xs,k=>k (.lit sz xs)
 | .st a,k=>nfA a λa=>k (.st a)
 | .pr a c,k=>nfA a λa=>nfA c λc=>k (.pr a c)
 | .tup a,k=>nfA a λa=>k (.tup a)
 | .fm f a,k=>nfA a λa=>k (.fm f a)
 | .at x,k=>k (.at x)
 | .ptr o f,k=>k (.ptr o f)
 | .own o sz l n,k=>k (.own o sz l n)
 | .ow3 o sz l n,k=>k (.ow3 o sz l n)
 | .gr o sz xs,k=>k (.gr o sz xs)
 | .el o sz j f,k=>k (.el o sz j f)
 | .fn f o,k=>k (.fn f o)
 | .ap o n,k=>k (.ap o n)
 | .an,k=>k .an
 | .un,k=>k .un
theorem Yca{α:Type}: ∀(a:AV) (k:AV->α),nfA a k=k a:=by
 intro a
 induction a with
 | st a ih=>intro k;exact ih _
 | tup a ih=>intro k;exact ih _
 | fm f a ih=>intro k;exact ih _
 | pr a c iha ihc=>intro k;show nfA a _=_;rw[iha,ihc]
 | _=>intro k;rfl
def nfO{α:Type}: Ob->(Ob->α)->α
 | .var a,k=>nfA a λa=>k (.var a)
 | .arr sz xs,k=>k (.arr sz xs)
 | .tok n sz,k=>k (.tok n sz)
 | .dead,k=>k .dead
theorem Yim{α:Type}(x:Ob)(k:Ob->α): nfO x k=k x:=by
 cases x with
 | var a=>exact Yca a _
 | _=>rfl
def apH{α:Type}: Hpl->Hpl->(Hpl->α)->α
 | [],H,k=>k H
 | (o,x)::us,H,k=>nfO x λx=>apH us H λH=>k ((o,x)::H)
theorem Xxy{α:Type}: ∀(us H:Hpl) (k:Hpl->α),apH us H k=k (us++H)
 | [],_,_=>rfl
 | (o,x)::us,H,k=>by show nfO x _=_;rw[Yim,Xxy us];rfl
noncomputable def Yla(tb:Nat->Option TI)(n:Nat): St->Option St
 | .j G (.c (.seq x y)::K) E H=>some (.j G (.c x::.c y::K) E H)
 | .j G (.c .skip::K) E H=>some (.j G K E H)
 | .j G (.c (.block id x)::K) E H=>some (.j G (.c x::.b id::K) E H)
 | .j G (.b _::K) E H=>some (.j G K E H)
 | .j G (.c (.exit id)::K) E H=>match Yb2 id K with
  | some K'=>some (.j G K' E H)
  | none=>none
 | .j G (.c (.region _ ⟨l⟩ false)::K) E H=>match Xos n l with
  | true=>some (.o G false l l K E H)
  | false=>none
 | .j G (.c (.cond x p q)::K) E H=>match Ygn G x with
  | false=>none
  | true=>match Xcr (look E) x with
   | some (.b true)=>some (.j G (.c p::K) E H)
   | some (.b false)=>some (.j G (.c q::K) E H)
   | _=>none
 | .o G _ _ [] K E H=>some (.j G K E H)
 | .o G dr L (o::l) K E H=>match Ydz G L E o with
  | false=>none
  | true=>match want L o (sem E H) with
   | none=>none
   | some false=>match o.dst with
    | some d=>some (.o ((d,false)::G) dr L l K ((d,.un)::E) H)
    | none=>none
   | some true=>match Yml G o.op,stops o.op||Yl7 E o.op with
    | true,false=>match eff tb o (sem E H) with
     | some (v,us)=>nfA v λv=>apH us H λH=>match o.dst with
      | none=>some (.o G dr L l K E H)
      | some d=>match Ypk G E o.op with
       | true=>some (.o ((d,true)::G) dr L l K ((d,v)::E) H)
       | false=>some (.o ((d,false)::G) dr L l K ((d,v)::E) H)
     | none=>none
    | _,_=>none
 | _=>none
noncomputable def runN(tb:Nat->Option TI)(n:Nat): Nat->St->St
 | 0,s=>s
 | m+1,s=>match Yla tb n s with
  | some s'=>runN tb n m s'
  | none=>s
section
variable{c:Cx}
theorem Xjz{o:Oper}(h:stops o.op=false): Xal o=false:=by
 unfold Xal
 cases ho:o.op<;>first
  | rfl
  | (rename_i c
     obtain⟨cal,asx,tys⟩:=c
     rw[ho] at h
     cases cal with
     | builtin b=>cases b<;>rfl
     | value x=>cases h
     | invoke x m=>rfl)
theorem Xl2{dr:Bool}{L:List Oper}{o:Oper}{E:Env}{H:Hpl}{v:AV}{us:List (Nat×Ob)}{R:S->Prop}(hw:want L o (sem E H)=some true)(hc:Xal o=false)(he:eff c.tb o (sem E H)=some (v,us))(k:R (sem (Xs9 E o.dst v) (us++H))): Wo c.P c.tb dr L o R (sem E H) :=
 .inl ⟨hw,(Xpk hc).2 (.inl ⟨(v,us),he,by unfold aft;rw[Xfl];exact k⟩)⟩
theorem Xuc{dr:Bool}{L:List Oper}{o:Oper}{E:Env}{H:Hpl}{d:Nat}{R:S->Prop}(hw:want L o (sem E H)=some false)(hd:o.dst=some d)(k:R (sem ((d,.un)::E) H)): Wo c.P c.tb dr L o R (sem E H) :=
 .inr ⟨hw,d,hd,by show R (upd (look E) d .un,look H);rw[Xa7];exact k⟩
theorem Xum{s s':St}(h:Yla c.tb c.n s=some s')(k:StP c s'): StP c s:=by
 unfold Yla at h
 split at h
 . injection h with h;subst h;exact J.seq k
 . injection h with h;subst h;exact J.skip k
 . injection h with h;subst h;exact J.block k
 . injection h with h;subst h;exact J.bend k
 . split at h<;>cases h
   rename_i hp;exact J.exit hp k
 . split at h<;>cases h
   rename_i hp;exact J.reg hp k
 . split at h<;>try cases h
   split at h<;>cases h
   . rename_i hv;exact J.condT hv k
   . rename_i hv;exact J.condF hv k
 . injection h with h;subst h;exact k
 . split at h<;>try cases h
   split at h<;>try cases h
   . rename_i hw
     split at h<;>cases h
     rename_i d hd
     exact Xuc hw hd k
   . rename_i hw
     split at h<;>try cases h
     rename_i hst
     rw[Bool.or_eq_false_iff] at hst
     split at h
     . rename_i v us he
       rw[Yca,Xxy] at h
       split at h
       . rename_i hd
         injection h with h;subst h
         exact Xl2 hw (Xjz hst.1) he (by rw[hd];exact k)
       . rename_i d hd
         split at h<;>(injection h with h;subst h;exact Xl2 hw (Xjz hst.1) he (by rw[hd];exact k))
     . cases h
 . cases h
theorem Xul: ∀(m:Nat) {s:St},StP c (runN c.tb c.n m s)->StP c s
 | 0,_,k=>k
 | m+1,s,k=>by
  unfold runN at k
  split at k
  . rename_i s' h;exact Xum h (Xul m k)
  . exact k
theorem go{s:St}(m:Nat){s':St}(h:runN c.tb c.n m s=s')(k:StP c s'): StP c s:=Xul m (by rw[h];exact k)
variable{s:St}{K:List Kt}{E:Env}{H:Hpl}
class Dc (b:Bool) (p:outParam Prop):Prop where
 h:b=true↔p
instance {p:Prop}:Dc (dc p) p:=⟨Xaj⟩
instance {b:Bool} {p:Prop} [h:Dc b p]:Dc (!b) (¬p):=⟨by rw[<-h.h];cases b<;>simp⟩
instance (priority:=low) {b:Bool}:Dc b (b=true):=⟨W3p⟩
theorem Xqk{t:Nat}{v:AV}(h:look E t=some v): sem ((t,v)::E) H=sem E H:=by
 unfold sem
 congr 1
 funext u
 simp only[look]
 split
 . rename_i e;rw[W0e e,h]
 . rfl
noncomputable def nxG(tb:Nat->Option TI)(n:Nat)(s:St): Option (Nat×Bool×St×(Bool->St)):=match runN tb n 1000 s with
 | .j G (.c (.cond (.tmp t) p q)::K) E H=>match look E t with
  | some (.b b)=>some (t,b,.j G (.c (.cond (.tmp t) p q)::K) E H,λb=>.j ((t,true)::G) (.c (.cond (.tmp t) p q)::K) ((t,.b b)::E) H)
  | _=>none
 | .o G dr L (o::l) K E H=>match o.op,Ydz G L E o with
  | .pick (.tmp t) _ _,true=>match look E t with
   | some (.b b)=>some (t,b,.o G dr L (o::l) K E H,λb=>.o ((t,true)::G) dr L (o::l) K ((t,.b b)::E) H)
   | _=>none
  | _,false=>match o.guard with
   | some (j,_)=>match Xnj L j with
    | some t=>match look E t with
     | some (.b b)=>some (t,b,.o G dr L (o::l) K E H,λb=>.o ((t,true)::G) dr L (o::l) K ((t,.b b)::E) H)
     | _=>none
    | none=>none
   | none=>none
  | _,_=>none
 | _=>none
theorem Yb9{t:Nat}{b:Bool}{s0:St}{f:Bool->St}(h:nxG c.tb c.n s=some (t,b,s0,f))(k:StP c (f b)): StP c s:=by
 unfold nxG at h
 split at h<;>try cases h
 . rename_i hr
   split at h<;>cases h
   rename_i hv
   refine go 1000 hr ?_
   have k:J c _ (sem _ _):=k
   rw[Xqk hv] at k
   exact k
 . rename_i hr
   have fin:∀ {G dr L l K E H t b},look E t=some (.b b)->StP c (.o ((t,true)::G) dr L l K ((t,.b b)::E) H)->StP c (.o G dr L l K E H):=by
    intro G dr L l K E H t b hv k
    have k:WL _ _ _ _ _ _ (sem _ _):=k
    rw[Xqk hv] at k
    exact k
   split at h<;>try cases h
   . split at h<;>cases h
     rename_i hv
     exact go 1000 hr (fin hv k)
   . split at h<;>try cases h
     split at h<;>try cases h
     split at h<;>cases h
     rename_i hv
     exact go 1000 hr (fin hv k)
theorem By{t:Nat}{b:Bool}{s0:St}{f:Bool->St}{p:Prop}[d:Dc b p](h:nxG c.tb c.n s=some (t,b,s0,f))(k1:p->StP c (f true))(k2:¬p->StP c (f false)): StP c s:=by
 have:=d.h
 cases b with
 | true=>exact Yb9 h (k1 (this.1 rfl))
 | false=>exact Yb9 h (k2 λhp=>by cases this.2 hp)
theorem Yes{t:Nat}{b:Bool}{s0:St}{f:Bool->St}{p:Prop}[d:Dc b p](h:nxG c.tb c.n s=some (t,b,s0,f))(hp:p)(k:StP c (f true)): StP c s:=By h (λ_=>k) λhn=>absurd hp hn
theorem No{t:Nat}{b:Bool}{s0:St}{f:Bool->St}{p:Prop}[d:Dc b p](h:nxG c.tb c.n s=some (t,b,s0,f))(hp:¬p)(k:StP c (f false)): StP c s:=By h (λh=>absurd h hp) λ_=>k
noncomputable def nxU(tb:Nat->Option TI)(n:Nat)(s:St): Option (Prop×St×St):=match runN tb n 1000 s with
 | .j G (.c (.cond x p q)::K) E H=>match Xcr (look E) x with
  | some (.ub r)=>some (r,.j G (.c p::K) E H,.j G (.c q::K) E H)
  | _=>none
 | _=>none
theorem Ub{r:Prop}{s1 s2:St}(h:nxU c.tb c.n s=some (r,s1,s2))(k1:r->StP c s1)(k2:StP c s2): StP c s:=by
 unfold nxU at h
 split at h<;>try cases h
 rename_i hr
 split at h<;>cases h
 rename_i hv
 exact go 1000 hr (J.condU hv k1 k2)
noncomputable def nxD(tb:Nat->Option TI)(n:Nat)(s:St): Option St:=match runN tb n 1000 s with
 | .j G (.c (.region _ ⟨L⟩ true)::K) E H=>match Xos n L with
  | true=>some (.o G true L L K E H)
  | false=>none
 | _=>none
def Ypt: St->Bool
 | .o _ _ L _ _ _ _=>Xhs L (λ_ _=>false) [] [] L
 | _=>false
theorem Dw{s':St}(h:nxD c.tb c.n s=some s')(k:StP c s')(hchk:Ypt s'=true:=by exact rfl): StP c s:=by
 unfold nxD at h
 split at h<;>try cases h
 rename_i hr
 split at h<;>cases h
 rename_i hok
 exact go 1000 hr (J.draw Dm.no trivial hok hchk k)
class Wk (c:Cx) (fn:outParam Func) (Q:outParam (AV->Prop)):Prop where
 x:c.X=λ_=>False
 f:c.fin=bodyPost c.P fn (Ret c.W0 Q)
noncomputable def nxR(tb:Nat->Option TI)(n:Nat)(rs:List ResultVar)(s:St): Option (AV×Hpl):=match runN tb n 1000 s with
 | .j _ (.c .ret::_) E H=>match Xyb tb (sem E H) rs with
  | some v=>some (v,H)
  | none=>none
 | .j _ [] E H=>match Xyb tb (sem E H) rs with
  | some v=>some (v,H)
  | none=>none
 | _=>none
theorem Rt{fn:Func}{Q:AV->Prop}[w:Wk c fn Q]{v v':AV}(h:nxR c.tb c.n fn.results.toList s=some (v,H))(hf:FitR (look H) [] v v')(hq:Q v'): StP c s:=by
 unfold nxR at h
 split at h<;>try cases h
 . rename_i hr
   split at h<;>cases h
   rename_i hv
   exact go 1000 hr (J.retC w.x w.f hv hf hq)
 . rename_i hr
   split at h<;>cases h
   rename_i hv
   exact go 1000 hr (J.endC w.x w.f hv hf hq)
theorem R1{fn:Func}{r:AV}[w:Wk c fn (·=r)]{v:AV}(h:nxR c.tb c.n fn.results.toList s=some (v,H))(hf:Fit (look H) [] v r)(hp:(plain v&&plain r)=true:=by exact rfl): StP c s:=by
 rw[W0f] at hp
 exact Rt (Q:=(·=r)) h (.one hf hp.1 hp.2) rfl
theorem Xu8: ∀ {a:AV},Xlm a=true->Xdk [] a=true:=by
 intro a
 induction a with
 | st a ih=>exact ih
 | tup a ih=>exact ih
 | fm f a ih=>exact ih
 | pr a c iha ihc=>intro h;simp only[Xlm,W0f] at h;simp only[Xdk,W0f];exact⟨iha h.1,ihc h.2⟩
 | _=>intro h;first | rfl | cases h
theorem R0{fn:Func}{r:AV}[w:Wk c fn (·=r)](h:nxR c.tb c.n fn.results.toList s=some (r,H):=by exact rfl)(hp:(plain r&&Xlm r)=true:=by exact rfl): StP c s:=by
 rw[W0f] at hp
 exact Rt (Q:=(·=r)) h (.one (.rf (Xu8 hp.2)) hp.1 hp.1) rfl
end
theorem Ye9{g:Hp}{K:Hpl}: ∀ {a:AV},Xdk K a=true->FitT g K a a:=by
 intro a
 induction a with
 | pr a c _ ih=>intro h;simp only[Xdk,W0f] at h;exact .cons (.rf h.1) (ih h.2)
 | _=>intro h;exact .one (.rf h) nofun nofun
theorem R0t{c:Cx}{s:St}{H:Hpl}{fn:Func}{r:AV}[w:Wk c fn (·=.tup r)](h:nxR c.tb c.n fn.results.toList s=some (.tup r,H):=by exact rfl)(hp:Xlm r=true:=by exact rfl): StP c s :=
 Rt (Q:=(·=.tup r)) h (.tup (Ye9 (Xu8 hp))) rfl
theorem RTt{c:Cx}{s:St}{H:Hpl}{fn:Func}{a r:AV}[w:Wk c fn (·=.tup r)](h:nxR c.tb c.n fn.results.toList s=some (.tup a,H))(hf:FitT (look H) [] a r): StP c s :=
 Rt (Q:=(·=.tup r)) h (.tup hf) rfl
def Ygp: Nat->List AV->Env
 | _,[]=>[]
 | i,v::vs=>(i,v)::Ygp (i+1) vs
theorem Xl9: ∀(asx:List AV) (i:Nat),Yav i asx=look (Ygp i asx)
 | [],i=>rfl
 | a::asx,i=>by rw[Yav,Xl9 asx,Xa7];rfl
abbrev cx(P:Program)(gb:Gb P)(t:Tab P)(m:Mx P)(hpr:∀T ti,t.tb T=some ti->∀a c,ti.z≠.pr a c)(n:Nat)(hn:n<=1000000)(fn:Func)(W:GW)(Q:AV->Prop)(hg:gb.g W): Cx:=⟨P,gb,t.tb,λT ti h=>⟨t.ok T ti h,hpr T ti h⟩,m,n,hn,W,λ_=>False,θe,bodyPost P fn (Ret W Q),hg⟩
instance {P gb t m hpr n hn fn W Q hg}:Wk (cx P gb t m hpr n hn fn W Q hg) fn Q:=⟨rfl,rfl⟩
class Npr (P:Program) [t:Tab P]:Prop where
 h:∀T ti,t.tb T=some ti->∀a c,ti.z≠.pr a c
theorem En {P : Program} [gb : Gb P] [t : Tab P] [hp : Npr P] [m : Mx P] {f n : Nat} {fn : Func} {x : Code} {args : List AV} {Q : AV → Prop} (hf : P.funcs[f]? = some fn) (h : ∀ W hg hn, StP (cx P gb t m hp.h n hn fn W Q hg) (.j [] [.c x] (Ygp 0 args) [])) (hname : (fn.name == "runtime.NumGoroutine") = false := by exact rfl) (hb : fn.body = some x := by exact rfl)
 (hN:fn.ntmps=n:=by exact rfl) (hl:(Nat.ble args.length n&&Nat.ble n 1000000&&args.all Xlm)=true:=by exact rfl):C P f args Q :=
 C.enter hp.h hf hname hb hN hl λW hg=>by
  have:=h W hg (by simp only[W0f] at hl;exact W1i hl.1.2)
  simp only[StP,sem,<-Xl9] at this
  exact this
end
section
def chD(x:D): Nat->D
 | 0=>x
 | n+1=>.pr x (chD x n)
def eqV: Value->Value->Bool
 | .int k z,.int k' z'=>k==k'&&z==z'
 | .bool b,.bool b'=>b==b'
 | .string s,.string s'=>Nat.beq s.size 0&&Nat.beq s'.size 0
 | .slice none 0 0,.slice none 0 0=>true
 | .pointer none,.pointer none=>true
 | .nilFunc,.nilFunc=>true
 | .nilIface,.nilIface=>true
 | _,_=>false
def Yjw: List Value->List Value->Bool
 | [],[]=>true
 | v::vs,w::ws=>eqV v w&&Yjw vs ws
 | _,_=>false
theorem Yhq{s:ByteArray}(h:s.size=0): s=ByteArray.empty:=by
 cases s with | mk d =>
 have:d=#[]:=Array.eq_empty_of_size_eq_zero h
 subst this;rfl
theorem Yjx{v w:Value}(h:eqV v w=true): v=w:=by
 unfold eqV at h
 split at h<;>first
  | rfl
  | (cases h;done)
  | (simp only[W0f,beq_iff_eq] at h;obtain⟨h1,h2⟩:=h;first | (rw[h1,h2];done) | (rw[Yhq (W0e h1),Yhq (W0e h2)]))
  | (simp only[beq_iff_eq] at h;rw[h])
theorem Xpa: ∀ {v w:List Value},Yjw v w=true->v=w
 | [],[],_=>rfl
 | v::vs,w::ws,h=>by
  simp only[Yjw,W0f] at h
  rw[Yjx h.1,Xpa h.2]
 | [],_::_,h=>by cases h
 | _::_,[],h=>by cases h
def Yac(P:Program)(E:TypeId)(z:D)(by':Nat): Bool:=match P.info? E with
 | some i=>Nat.beq i.size z.size&&Nat.beq i.bytes by'&&(match i.zero with
  | some v=>Yjw v.cells.toList z.zc
  | none=>false)
 | none=>false
def Xly(P:Program): Nat->List Field->List D->Bool
 | _,[],[]=>true
 | o,f::fs,c::l=>Nat.beq f.offset o&&(match P.info? f.type,P.underlying f.type with
  | some i,some t=>Nat.beq i.size c.size&&(Yax t==c.ag)&&(c.ag||Nat.beq c.size 1)
  | _,_=>false)&&Xly P (o+c.size) fs l
 | _,_,_=>false
def Ypm: D->Bool
 | .pr _ _=>true
 | _=>false
def Xv3: Value->Bool
 | .agg _=>true
 | _=>false
def Yi8(P:Program)(ti:TI)(t:TypeDesc): Bool:=match ti.e,t with
 | .int k _,.slice E=>match P.underlying E with
  | some (.int k')=>k==k'
  | _=>false
 | _,_=>true
def Ybm(P:Program)(ti:TI)(t:TypeDesc): Bool:=match ti.z,t with
 | .int k _,.int k'=>k==k'
 | .bool _,.bool=>true
 | .str _,.string=>true
 | .sl sz _,.slice E=>Nat.beq sz ti.e.size&&ti.e.isZ&&Yac P E ti.e ti.eb
 | .st z,.struct fs=>Nat.beq ti.arr 0&&Xly P 0 fs.toList z.comps
 | .st _,.array n E=>Nat.beq n ti.arr && !(Nat.beq n 0)&&Yac P E ti.e ti.eb
 | .raw _,_=>true
 | _,_=>false
def tyB(P:Program)(T:TypeId)(ti:TI): Bool:=match P.info? T,P.underlying T with
 | some i,some t=>Nat.beq i.size ti.z.size&&(match i.zero with
  | some v=>Yjw v.cells.toList ti.z.zc&&(Xv3 v==ti.z.ag)
  | none=>false)&&ti.z.isZ&&(Yax t==ti.z.ag)&&Ybm P ti t && !(Ypm ti.z)&&Yi8 P ti t
 | _,_=>false
section
variable{P:Program}
theorem Xrp{E:TypeId}{z:D}{b:Nat}(h:Yac P E z b=true): Ynx P E z b:=by
 unfold Yac at h
 split at h<;>try cases h
 rename_i i hi
 simp only[W0f] at h
 obtain⟨⟨h1,h2⟩,h3⟩:=h
 split at h3<;>try cases h3
 rename_i v hv
 exact⟨i,v,hi,W0e h1,W0e h2,hv,Xpa h3⟩
theorem Xke: ∀ {fs:List Field} {l:List D} {o:Nat},Xly P o fs l=true->fs.length=l.length/\∀(f:Nat) c,l[f]?=some c ->
 ∃g i,fs[f]?=some g/\g.offset=o+Xhy l f/\P.info? g.type=some i/\i.size=c.size/\∃t,P.underlying g.type=some t/\Yax t=c.ag/\(c.ag=false->c.size=1)
 | [],[],_,_=>⟨rfl,λf c h=>by simp at h⟩
 | f::fs,x::l,o,h=>by
  simp only[Xly,W0f] at h
  obtain⟨⟨h1,h2⟩,h3⟩:=h
  obtain⟨k1,k2⟩:=Xke h3
  refine⟨by simp[k1],λn c hc=>?_⟩
  cases n with
  | zero =>
   simp at hc;subst hc
   split at h2<;>try cases h2
   rename_i i t hi ht
   simp only[W0f,W3r,beq_iff_eq] at h2
   obtain⟨⟨a1,a2⟩,a3⟩:=h2
   exact⟨f,i,rfl,by rw[W0e h1];rfl,hi,W0e a1,t,ht,a2,λe=>by
    rcases a3 with a3 | a3
    . rw[e] at a3;cases a3
    . exact W0e a3⟩
  | succ n =>
   obtain⟨g,i,b1,b2,b3⟩:=k2 n c (by simpa using hc)
   exact⟨g,i,by simpa using b1,by rw[b2,Xhy];omega,b3⟩
 | [],_::_,_,h=>by cases h
 | _::_,[],_,h=>by cases h
theorem Yg8{T:TypeId}{ti:TI}(h:tyB P T ti=true): TyOk P T ti/\∀a c,ti.z≠.pr a c:=by
 unfold tyB at h
 split at h<;>try cases h
 rename_i i t hi ht
 simp only[W0f,beq_iff_eq,W1t] at h
 obtain⟨⟨⟨⟨⟨⟨h1,h2⟩,h3⟩,h4⟩,h5⟩,h6⟩,hk⟩:=h
 split at h2<;>try cases h2
 rename_i v hv
 obtain⟨h7,h8⟩:=(W0f _ _).mp h2
 have h7:=Xpa h7
 have h8:Xv3 v=ti.z.ag:=by simpa using h8
 have hkk:∀E k z,P.underlying T=some (.slice E)->ti.e=.int k z->P.underlying E=some (.int k):=λE k z hE he=>by
  rw[ht] at hE;injection hE with hE;subst hE
  unfold Yi8 at hk
  rw[he] at hk
  simp only at hk
  split at hk
  . rename_i h;rw[h];simp only[beq_iff_eq] at hk;rw[hk]
  . cases hk
 refine⟨⟨hkk,⟨i,v,hi,W0e h1,hv,h7,?_⟩,h3,t,ht,h4,?_⟩,λa c e=>by rw[e] at h6;cases h6⟩
 . rw[<-h8,<-h7]
   cases v<;>simp[Xv3,mkv,Value.cells]
 . unfold Ybm at h5
   split at h5
   . rename_i e;rw[e];simp only[beq_iff_eq] at h5;rw[h5]
   . rename_i e;rw[e]
   . rename_i e;rw[e]
   . rename_i e;rw[e]
     simp only[W0f] at h5
     exact⟨_,rfl,W0e h5.1.1,h5.1.2,Xrp h5.2⟩
   . rename_i fs e;rw[e]
     simp only[W0f] at h5
     have e0:=W0e h5.1
     obtain⟨k1,k2⟩:=Xke h5.2
     simp only[e0,if_true]
     exact⟨_,rfl,by simpa using k1,λf c hc=>by
      obtain⟨g,i,b1,b2,b3⟩:=k2 f c hc
      exact⟨g,i,by simpa using b1,by rw[b2];omega,b3⟩⟩
   . rename_i n E e;rw[e]
     simp only[W0f,W1t] at h5
     have e0:=W0e h5.1.1
     have e1:n≠0:=λe=>by rw[e] at h5;exact absurd h5.1.2 (by decide)
     simp only[<-e0,e1,if_false]
     exact⟨_,rfl,Xrp h5.2⟩
   . rename_i e;rw[e];trivial
   . cases h5
theorem Ybi{l:List (Nat×TI)}(h:(l.all λx=>tyB P x.1 x.2)=true): ∀T ti,look l T=some ti->TyOk P T ti/\∀a c,ti.z≠.pr a c:=by
 intro T ti ht
 have:(T,ti)∈l:=by
  clear h
  induction l with
  | nil=>simp[look] at ht
  | cons x l ih =>
   obtain⟨S,si⟩:=x
   simp only[look] at ht
   split at ht
   . rename_i hb;injection ht with ht;subst ht;rw[W0e hb];exact W1a ..
   . exact W1c _ (ih ht)
 exact Yg8 (W1o.1 h _ this)
end
end
section
structure Pl where
 G:List (Nat×Bool)
 dr:Bool
 L:List Oper
 l:List Oper
 K:List Kt
 E:Env
 H:Hpl
 d:Option Nat
def Pl.st: Pl->AV->St
 | ⟨G,dr,L,l,K,E,H,some d⟩,v=>.o ((d,false)::G) dr L l K ((d,v)::E) H
 | ⟨G,dr,L,l,K,E,H,none⟩,v=>.o G dr L l K E H
def Pl.st': Pl->AV->Hpl->St
 | ⟨G,dr,L,l,K,E,H,some d⟩,v,us=>apH us H λH=>.o ((d,false)::G) dr L l K ((d,v)::E) H
 | ⟨G,dr,L,l,K,E,H,none⟩,v,us=>apH us H λH=>.o G dr L l K E H
def Pl.nx(c:Cx)(p:Pl)(v:AV): Prop:=StP c (p.st v)
def Pl.nx'(c:Cx)(p:Pl)(v:AV)(us:Hpl): Prop:=StP c (p.st' v us)
theorem Pl.nx_eq{c:Cx}{p:Pl}{v:AV}: p.nx c v↔StP c (.o (Yox p.G p.d) p.dr p.L p.l p.K (Xs9 p.E p.d v) p.H):=by
 obtain⟨G,dr,L,l,K,E,H,d⟩:=p
 cases d<;>exact W3p
theorem Pl.nx'_eq{c:Cx}{p:Pl}{v:AV}{us:Hpl}: p.nx' c v us↔StP c (.o (Yox p.G p.d) p.dr p.L p.l p.K (Xs9 p.E p.d v) (us++p.H)):=by
 obtain⟨G,dr,L,l,K,E,H,d⟩:=p
 cases d<;>(simp only[Pl.nx',Pl.st',Xxy];exact W3p)
theorem Pl.nx_nil{c:Cx}{p:Pl}{v:AV}(h:p.nx c v): p.nx' c v []:=by
 obtain⟨G,dr,L,l,K,E,H,d⟩:=p
 cases d<;>exact h
noncomputable def nxO(tb:Nat->Option TI)(n:Nat)(s:St): Option (Pl×Oper):=match runN tb n 1000 s with
 | .o G dr L (o::l) K E H=>match Ydz G L E o with
  | true=>match want L o (sem E H) with
   | some true=>some (⟨G,dr,L,l,K,E,H,o.dst⟩,o)
   | _=>none
  | false=>none
 | _=>none
noncomputable def nxC(tb:Nat->Option TI)(n:Nat)(s:St): Option (Pl×FuncId×List AV):=match nxO tb n s with
 | some (p,o)=>match o.op with
  | .call ⟨.value x,asx,tys⟩=>match callee (look p.E) x,getEs (look p.E) asx.toList with
   | some (f,[]),some vs=>match (Xjt tb tys.toList vs).all Xlm with
    | true=>some (p,f,Xjt tb tys.toList vs)
    | false=>none
   | _,_=>none
  | _=>none
 | none=>none
section
variable{c:Cx}{s:St}{p:Pl}
theorem Xm0{o:Oper}(h:nxO c.tb c.n s=some (p,o))(k:Wo c.P c.tb p.dr p.L o (WL c.P c.tb p.dr p.L (J c p.K) p.l) (sem p.E p.H)): StP c s:=by
 unfold nxO at h
 split at h<;>try cases h
 rename_i hr
 split at h<;>try cases h
 split at h<;>cases h
 exact go 1000 hr k
theorem Xu6{o:Oper}(h:nxO c.tb c.n s=some (p,o)): want p.L o (sem p.E p.H)=some true/\p.d=o.dst:=by
 unfold nxO at h
 split at h<;>try cases h
 split at h<;>try cases h
 split at h<;>cases h
 rename_i hw
 exact⟨hw,rfl⟩
theorem Ca{f:FuncId}{args:List AV}{Q:AV->Prop}(h:nxC c.tb c.n s=some (p,f,args))(hc:C c.P f args Q)(k:∀v,Q v->p.nx c v): StP c s:=by
 unfold nxC at h
 split at h<;>try cases h
 rename_i p' o ho
 obtain⟨hw,hd⟩:=Xu6 ho
 split at h<;>try cases h
 rename_i x asx tys he
 split at h<;>try cases h
 rename_i f' vs hf hvs
 split at h<;>cases h
 rename_i hi
 refine Xm0 ho (.inl ⟨hw,?_⟩)
 unfold Wb
 rw[he]
 refine⟨f,[],vs,hf,hvs,?_⟩
 rw[W3t]
 have kk:∀v,Q v->WL c.P c.tb p.dr p.L (J c p.K) p.l (S.put (sem p.E p.H) o.dst v):=λv hv=>by
  have:=Xfl p.E p.H [] o.dst v
  rw[show S.put (sem p.E p.H) o.dst v=sem (Xs9 p.E o.dst v) p.H from this,<-hd]
  exact Pl.nx_eq.1 (k v hv)
 generalize WL c.P c.tb p.dr p.L (J c p.K) p.l=R at kk |-
 cases p.dr with
 | true =>
  refine⟨false,λ_=>none,λr=>Q r.1,⟨λh=>(nomatch h),λi y h=>(nomatch h),λg _ _=>?_⟩,λr hr hq=>?_⟩
  . obtain⟨h1,h2⟩:=hc.cs hi g
    refine⟨h1,λN W θ vs a0 a1 a2 a3 a4=>(h2 N W θ vs a0 a1 a2 a3 a4).mono ?_⟩
    rintro e w' ⟨W',θ',v,u,g',b1,b2,b3,b4,b5,rfl,b6⟩
    exact⟨W',θ',v,u,_,b1,b2,b3,b4,b5,[],.inl rfl,rfl,b6⟩
  . rcases hr with hr | ⟨h,_⟩
    . unfold aft;rw[hr];exact kk r.1 hq
    . cases h
 | false=>exact⟨_,_,.inl rfl,by rw[W3t];exact hc.cs hi _,λv g' hv=>by rw[hv.1];exact kk v hv.2⟩
theorem Ce{f:FuncId}{args:List AV}{r:AV}(h:nxC c.tb c.n s=some (p,f,args))(hc:C c.P f args (·=r))(k:p.nx c r): StP c s:=Ca h hc λv hv=>by rw[show v=r from hv];exact k
theorem Yih{o:Oper}{v:AV}{us:Hpl}(h:nxO c.tb c.n s=some (p,o))(hc:Xal o=false)(he:eff c.tb o (sem p.E p.H)=some (v,us))(k:p.nx' c v us): StP c s:=by
 obtain⟨hw,hd⟩:=Xu6 h
 refine Xm0 h (Xl2 hw hc he ?_)
 rw[<-hd];exact Pl.nx'_eq.1 k
noncomputable def nxA(tb:Nat->Option TI)(n:Nat)(s:St): Option (Pl×Oper×List AV):=match nxO tb n s with
 | some (p,o)=>match getEs (look p.E) o.op.operands.toList,Xal o||(Xec o.op&&o.dst.isSome) with
  | some asx,false=>some (p,o,asx)
  | _,_=>none
 | none=>none
theorem Xbw{o:Oper}{asx:List AV}{v:AV}{us:Hpl}(h:nxA c.tb c.n s=some (p,o,asx))(hF:F c.tb (o.dst.getD 0) (look p.H) o.op asx=some (v,us))(k:p.nx' c v us): StP c s:=by
 unfold nxA at h
 split at h<;>try cases h
 rename_i p' o' ho
 split at h<;>cases h
 rename_i hb has
 rw[Bool.or_eq_false_iff] at hb
 refine Yih ho hb.1 ?_ k
 unfold eff
 rw[has]
 simp only[hb.2]
 exact hF
def inK: IntKind->Int->Prop
 | .i8,x=>-128<=x/\x<128
 | .i16,x=>-32768<=x/\x<32768
 | .i32,x=>-2147483648<=x/\x<2147483648
 | .i64,x=>-9223372036854775808<=x/\x<9223372036854775808
 | .u8,x=>0<=x/\x<256
 | .u16,x=>0<=x/\x<65536
 | .u32,x=>0<=x/\x<4294967296
 | .u64,x=>0<=x/\x<18446744073709551616
theorem wr{k:IntKind}{x r:Int}(e:x=r)(h:inK k r): k.wrap x=r:=by
 subst e
 cases k<;>simp only[inK] at h<;>simp[IntKind.wrap,IntKind.bits,IntKind.signed]<;>omega
def arB(op:BinOp)(k:IntKind)(a b r:Int): Prop:=match op with
 | .add=>k.wrap (a+b)=r
 | .sub=>k.wrap (a-b)=r
 | .mul=>k.wrap (a*b)=r
 | .quo=>b≠0/\k.wrap (a.tdiv b)=r
 | .rem=>b≠0/\a.tmod b=r
 | .and=>k.wrap (BitVec.ofInt k.bits a&&&BitVec.ofInt k.bits b).toNat=r
 | .andNot=>k.wrap (BitVec.ofInt k.bits a &&& ~~~BitVec.ofInt k.bits b).toNat=r
 | .or=>k.wrap (BitVec.ofInt k.bits a|||BitVec.ofInt k.bits b).toNat=r
 | .shl=>0<=b/\k.wrap (a*2^(min b.toNat k.bits))=r
 | .shr=>0<=b/\a.fdiv (2^(min b.toNat k.bits))=r
 | _=>False
noncomputable def nxI(tb:Nat->Option TI)(n:Nat)(s:St): Option (Pl×BinOp×IntKind×Int×Int):=match nxA tb n s with
 | some (p,o,[.d (.int k a),.d (.int k' b)])=>match o.op with
  | .binOp op _ _ _ _=>match op with
   | .shl=>some (p,op,k,a,b)
   | .shr=>some (p,op,k,a,b)
   | op=>if k=k' then some (p,op,k,a,b) else none
  | _=>none
 | _=>none
theorem Ar{op:BinOp}{k:IntKind}{a b:Int}(r:Int)(h:nxI c.tb c.n s=some (p,op,k,a,b))(kk:p.nx c (.d (.int k r)))(hr:arB op k a b r:=by exact wr (by omega) (by simp only[inK];omega)): StP c s:=by
 have key:∀ {o:Oper} {k':IntKind},nxA c.tb c.n s=some (p,o,[.d (.int k a),.d (.int k' b)])->(∃T x y T',o.op=.binOp op T x y T')->(op=.shl\/op=.shr\/k=k')->StP c s:=by
  rintro o k' hA ⟨T,x,y,T',ho⟩ hk
  refine Xbw (v:=.d (.int k r)) (us:=[]) hA ?_ (Pl.nx_nil kk)
  rw[ho]
  show (match Fp c.tb (.binOp op T x y T') [.d (.int k a),.d (.int k' b)] with | some v=>some (v,[]) | none=>none)=_
  have:Fp c.tb (.binOp op T x y T') [.d (.int k a),.d (.int k' b)]=some (.d (.int k r)):=by
   show Ya4 (c.tb T) op y (.d (.int k a)) (.d (.int k' b))=_
   cases op<;>simp only[arB] at hr<;>first | exact hr.elim | skip
   all_goals simp only[Ya4,Ylj]
   case shl=>rw[if_neg (by omega),hr.2]
   case shr=>rw[if_neg (by omega),hr.2]
   case quo=>rw[if_pos ((hk.resolve_left nofun).resolve_left nofun),if_neg hr.1,hr.2]
   case rem=>rw[if_pos ((hk.resolve_left nofun).resolve_left nofun),if_neg hr.1,hr.2]
   all_goals rw[if_pos ((hk.resolve_left nofun).resolve_left nofun),hr]
  rw[this]
 unfold nxI at h
 split at h<;>try cases h
 rename_i p' o k1 a1 k2 b1 hA
 split at h<;>try cases h
 rename_i op' T x y T' ho
 split at h
 . cases h;exact key hA ⟨_,_,_,_,ho⟩ (.inl rfl)
 . cases h;exact key hA ⟨_,_,_,_,ho⟩ (.inr (.inl rfl))
 . split at h<;>cases h
   rename_i hk
   exact key hA ⟨_,_,_,_,ho⟩ (.inr (.inr hk))
noncomputable def nxV(tb:Nat->Option TI)(n:Nat)(s:St): Option (Pl×IntKind×Int):=match nxA tb n s with
 | some (p,o,[.d (.int _ a)])=>match o.op with
  | .convert S T _=>match tb S,tb T with
   | some _,some ⟨.int k _,_,_,_⟩=>some (p,k,a)
   | _,_=>none
  | _=>none
 | _=>none
theorem Cv{k:IntKind}{a:Int}(r:Int)(h:nxV c.tb c.n s=some (p,k,a))(kk:p.nx c (.d (.int k r)))(hr:k.wrap a=r:=by exact wr (by omega) (by simp only[inK];omega)): StP c s:=by
 unfold nxV at h
 split at h<;>try cases h
 rename_i p' o k1 a1 hA
 split at h<;>try cases h
 rename_i S T x ho
 split at h<;>cases h
 rename_i h1 h2
 refine Xbw (v:=.d (.int k r)) (us:=[]) hA ?_ (Pl.nx_nil kk)
 rw[ho]
 simp only[F,Fp,h1,h2,hr]
noncomputable def nxX(tb:Nat->Option TI)(n:Nat)(s:St): Option (Pl×List D×Int):=match nxA tb n s with
 | some (p,o,[a,.d (.int _ j)])=>match o.op with
  | .indexAddr T _ _=>match tb T with
   | some ⟨.sl _ _,e,_,_⟩=>match a with
    | .d (.sl sz xs)=>match Nat.beq sz e.size with
     | true=>some (p,xs,j)
     | false=>none
    | .gr _ sz xs=>match Nat.beq sz e.size with
     | true=>some (p,xs,j)
     | false=>none
    | .lit sz xs=>match Nat.beq sz e.size with
     | true=>some (p,xs,j)
     | false=>none
    | _=>none
   | _=>none
  | _=>none
 | _=>none
theorem Ix(i:Nat){xs:List D}{j:Int}{u:D}(h:nxX c.tb c.n s=some (p,xs,j))(hu:xs[i]?=some u)(kk:p.nx c (.at u))(hj:j=(i:Int):=by first | exact rfl | omega): StP c s:=by
 subst hj
 unfold nxX at h
 split at h<;>try cases h
 rename_i p' o a k1 j1 hA
 split at h<;>try cases h
 rename_i T x y ho
 split at h<;>try cases h
 rename_i e eb ar ht
 split at h<;>try cases h
 all_goals
  split at h<;>cases h
  rename_i hz
  have hz:=W0e hz
  refine Xbw (v:=.at u) (us:=[]) hA ?_ (Pl.nx_nil kk)
  rw[ho]
  simp[F,Fp,ht,ixA,ixA.ixL,hz,hu]
end
end
section
section
variable{c:Cx}{s:St}{p:Pl}
noncomputable def nxP(tb:Nat->Option TI)(n:Nat)(s:St): Option (Pl×Nat×Nat×List D×AV):=match nxA tb n s with
 | some (p,o,[a,b])=>match o.op with
  | .call ⟨.builtin .append,_,⟨[T,T']⟩⟩=>match Nat.beq T T',tb T,look p.H (o.dst.getD 0) with
   | true,some ti,none=>match Nat.ble ti.eb 128,ti.z,b with
    | true,.sl sz _,.d (.sl s ys)=>match Nat.beq s sz with
     | true=>some (p,o.dst.getD 0,sz,ys,a)
     | false=>none
    | true,.sl sz _,.nil=>some (p,o.dst.getD 0,sz,[],a)
    | true,.sl sz _,.gr _ s ys=>match Nat.beq s sz with
     | true=>some (p,o.dst.getD 0,sz,ys,a)
     | false=>none
    | true,.sl sz _,.lit s ys=>match Nat.beq s sz with
     | true=>some (p,o.dst.getD 0,sz,ys,a)
     | false=>none
    | _,_,_=>none
   | _,_,_=>none
  | _=>none
 | _=>none
theorem Xq1{d sz:Nat}{ys:List D}{a v:AV}{us:Hpl}(h:nxP c.tb c.n s=some (p,d,sz,ys,a))(hF:∀ti:TI,ti.eb<=128->Xko d (look p.H) ti sz ys a=some (v,us))(k:p.nx' c v us): StP c s:=by
 unfold nxP at h
 split at h<;>try cases h
 rename_i p' o a' b hA
 split at h<;>try cases h
 rename_i asx T T' ho
 split at h<;>try cases h
 rename_i ti hT hti hd
 have hT:=W0e hT
 subst hT
 have fin:∀ {sz' ys' xs0},ti.eb<=128->ti.z=.sl sz' xs0->Xk6 (look p'.H) ti.z sz' b=some ys'->(p',o.dst.getD 0,sz',ys',a')=(p,d,sz,ys,a)->StP c s:=by
  intro sz' ys' xs0 he hz hs e
  injection e with e1 e2;injection e2 with e2 e3;injection e3 with e3 e4;injection e4 with e4 e5
  subst e1;subst e2;subst e3;subst e4;subst e5
  refine Xbw hA ?_ k
  rw[ho]
  simp only[F,if_true,hti,hd,hz]
  rw[hz] at hs
  rw[hs]
  exact hF ti he
 split at h
 . rename_i he hz
   split at h<;>cases h
   rename_i hs
   have hs:=W0e hs
   exact fin (W1i he) hz (by simp[Xk6,toD,hs]) rfl
 . rename_i he hz
   cases h
   exact fin (W1i he) hz (by simp[Xk6,hz,toD]) rfl
 . rename_i he hz
   split at h<;>cases h
   rename_i hs
   have hs:=W0e hs
   exact fin (W1i he) hz (by simp[Xk6,toD,hs]) rfl
 . rename_i he hz
   split at h<;>cases h
   rename_i hs
   have hs:=W0e hs
   exact fin (W1i he) hz (by simp[Xk6,toD,hs]) rfl
 . cases h
theorem Xcy{n:Nat}{ti:TI}(h:n<=1099511627776)(he:ti.eb<=128): Xit n ti:=⟨by
 have:=W2c h he;omega,by omega⟩
theorem ApG{d sz o:Nat}{xs ys:List D}(zs:List D)(h:nxP c.tb c.n s=some (p,d,sz,ys,.gr o sz xs))(hz:xs++ys=zs)(hr:zs.length<=1099511627776)(k:p.nx' c (.gr d sz zs) [(d,.tok zs.length sz),(o,.dead)])(ht:look p.H o=some (.tok xs.length sz):=by exact rfl): StP c s:=by
 subst hz
 exact Xq1 h (λti he=>by simp[Xko,ht,Xcy (by simpa using hr) he]) k
theorem ApL{d sz:Nat}{xs ys:List D}(zs:List D)(h:nxP c.tb c.n s=some (p,d,sz,ys,.lit sz xs))(hz:xs++ys=zs)(h0:0<ys.length)(hr:zs.length<=1099511627776)(k:p.nx' c (.own d sz 0 zs.length) [(d,.arr sz zs)]): StP c s:=by
 subst hz
 exact Xq1 h (λti he=>by simp[Xko,h0,Xcy (by simpa using hr) he]) k
theorem ApE{d sz:Nat}{xs ys:List D}(h:nxP c.tb c.n s=some (p,d,sz,ys,.lit sz xs))(h0:ys.length=0)(hr:xs.length<=1099511627776)(k:p.nx' c (.lit sz xs) []): StP c s :=
 Xq1 h (λti he=>by simp[Xko,h0,Xcy (by simpa using hr) he]) k
theorem ApO{d sz o n:Nat}{xs ys:List D}(zs:List D)(h:nxP c.tb c.n s=some (p,d,sz,ys,.own o sz 0 n))(ht:look p.H o=some (.arr sz xs))(hn:n=xs.length)(hz:xs++ys=zs)(hr:zs.length<=1099511627776)(k:p.nx' c (.own d sz 0 zs.length) [(d,.arr sz zs),(o,.dead)]): StP c s:=by
 subst hz
 exact Xq1 h (λti he=>by subst hn;simp[Xko,ht,Xcy (by simpa using hr) he]) k
def Xs6{α:Type _}(E E':List (Nat×α)): Prop:=E'.map (λx=>look E x.1)=E'.map λx=>some x.2
theorem Xbh{α:Type _}: ∀ {E:List (Nat×α)} {t:Nat} {v:α},look E t=some v->(t,v)∈E
 | [],_,_,h=>by simp[look] at h
 | (s,w)::E,t,v,h=>by
  simp only[look] at h
  split at h
  . rename_i hb;injection h with h;subst h;rw[W0e hb];exact W1a ..
  . exact W1c _ (Xbh h)
theorem Xk4{α:Type _}{E E':List (Nat×α)}(h:Xs6 E E'){t:Nat}{v:α}(hv:look E' t=some v): look E t=some v:=by
 have hm:=Xbh hv
 unfold Xs6 at h
 have:=W6l.1 h _ hm
 exact this
def Xi9(H:Hpl): Ob->Bool
 | .var a=>Xdk H a
 | _=>true
def Xnt(E:Env)(H:Hpl): Bool:=(E.all λx=>Xdk H x.2)&&H.all λx=>Xi9 H x.2
theorem Xns{E:Env}{H:Hpl}(h:Xnt E H=true): Xya (sem E H):=by
 simp only[Xnt,W0f] at h
 refine⟨λt v i hv hi=>Xgl (W1o.1 h.1 _ (Xbh hv)) i hi,λo x i hx hi=>?_⟩
 have:=W1o.1 h.2 _ (Xbh hx)
 cases x with
 | var a=>exact Xgl (a:=a) this i hi
 | _=>exact hi.elim
theorem Ypa{K:List Kt}{E E':Env}{H H':Hpl}(hE:Xs6 E E')(hH:Xs6 H H')(hc:Xnt E' H'=true)(k:J c K (sem E' H')): J c K (sem E H) :=
 J.sub _ (λt v h=>Xk4 hE h) (λo x h=>Xk4 hH h) (Xns hc) k
def rnN(o o' i:Nat): Nat:=match Nat.beq i o with
 | true=>o'
 | false=>i
def AV.ren(o o':Nat): AV->AV
 | .st a=>.st (a.ren o o')
 | .pr a c=>.pr (a.ren o o') (c.ren o o')
 | .tup a=>.tup (a.ren o o')
 | .fm f a=>.fm f (a.ren o o')
 | .ptr i f=>.ptr (rnN o o' i) f
 | .own i sz l n=>.own (rnN o o' i) sz l n
 | .ow3 i sz l n=>.ow3 (rnN o o' i) sz l n
 | .gr i sz xs=>.gr (rnN o o' i) sz xs
 | .el i sz j f=>.el (rnN o o' i) sz j f
 | .fn f i=>.fn f (rnN o o' i)
 | .ap i n=>.ap (rnN o o' i) n
 | a=>a
def Ob.ren(o o':Nat): Ob->Ob
 | .var a=>.var (a.ren o o')
 | x=>x
def Ybx(o o':Nat)(E:Env): Env:=E.map λx=>(x.1,x.2.ren o o')
def Xs8(o o':Nat)(H:Hpl): Hpl:=H.map λx=>(rnN o o' x.1,x.2.ren o o')
def rnθ(o o':Nat)(θ:Loc): Loc:=λi=>if i=o' then θ o else θ i
theorem Xa8{o o' i:Nat}{θ:Loc}(h:i≠o'): rnθ o o' θ (rnN o o' i)=θ i:=by
 unfold rnθ rnN
 cases e:Nat.beq i o with
 | true=>rw[W0e e];simp
 | false=>exact if_neg h
theorem Yh3{W:GW}{θ:Loc}{o o':Nat}: ∀ {a:AV} {cs:List Value},¬a.ids o'->AV.C W θ a cs->AV.C W (rnθ o o' θ) (a.ren o o') cs:=by
 intro a
 induction a with
 | st a ih=>intro cs hi h;exact ih hi h
 | pr a c iha ihc=>intro cs hi ⟨u,v,e,h1,h2⟩;exact⟨u,v,e,iha (λh=>hi (.inl h)) h1,ihc (λh=>hi (.inr h)) h2⟩
 | ptr i f=>intro cs hi ⟨b,h1,h2⟩;exact⟨b,by rw[Xa8 (λe=>hi e.symm)];exact h1,h2⟩
 | own i sz l n=>intro cs hi ⟨b,p,h1,h2,h3,h4,h5⟩;exact⟨b,p,by rw[Xa8 (λe=>hi e.symm)];exact h1,by rw[Xa8 (λe=>hi e.symm)];exact h2,by rw[Xa8 (λe=>hi e.symm)];exact h3,by rw[Xa8 (λe=>hi e.symm)];exact h4,by rw[Xa8 (λe=>hi e.symm)];exact h5⟩
 | ow3 i sz l n=>intro cs hi ⟨b,p,h1,h2,h3,h4,h5⟩;exact⟨b,p,by rw[Xa8 (λe=>hi e.symm)];exact h1,by rw[Xa8 (λe=>hi e.symm)];exact h2,by rw[Xa8 (λe=>hi e.symm)];exact h3,h4,h5⟩
 | gr i sz xs=>intro cs hi ⟨p,h1,h2,h3,h4,h5⟩;exact⟨p,by rw[Xa8 (λe=>hi e.symm)];exact h1,by rw[Xa8 (λe=>hi e.symm)];exact h2,by rw[Xa8 (λe=>hi e.symm)];exact h3,by rw[Xa8 (λe=>hi e.symm)];exact h4,by rw[Xa8 (λe=>hi e.symm)];exact h5⟩
 | el i sz j f=>intro cs hi ⟨b,h1,h2⟩;exact⟨b,by rw[Xa8 (λe=>hi e.symm)];exact h1,h2⟩
 | fn f i=>intro cs hi ⟨b,h1,h2⟩;exact⟨b,by rw[Xa8 (λe=>hi e.symm)];exact h1,h2⟩
 | fm f a ih=>intro cs hi ⟨vs,h1,h2⟩;exact⟨vs,ih hi h1,h2⟩
 | ap i n=>intro cs hi ⟨b,h1,h2,h3⟩;exact⟨b,by rw[Xa8 (λe=>hi e.symm)];exact h1,by rw[Xa8 (λe=>hi e.symm)];exact h2,h3⟩
 | _=>intro cs hi h;exact h
theorem Yh4{o o':Nat}(a:AV): (a.ren o o').ag=a.ag:=by cases a<;>rfl
theorem Xqt{W:GW}{θ:Loc}{o o':Nat}{a:AV}{v:Value}(hi:¬a.ids o')(h:AV.V1 W θ a v): AV.V1 W (rnθ o o' θ) (a.ren o o') v:=by
 obtain⟨cs,hc,e⟩:=h;exact⟨cs,Yh3 hi hc,by rw[e,Yh4]⟩
theorem Ymg{W:GW}{θ:Loc}{o o':Nat}: ∀ {a:AV} {vs:List Value},¬a.ids o'->AV.T W θ a vs->AV.T W (rnθ o o' θ) (a.ren o o') vs:=by
 intro a
 induction a with
 | pr a c _ ih =>
  intro vs hi h
  match vs,h with
  | v::vs,h=>exact⟨Xqt (λh=>hi (.inl h)) h.1,ih (λh=>hi (.inr h)) h.2⟩
 | un =>
  intro vs hi h
  match vs,h with
  | [],h=>exact h
  | [v],h=>exact Xqt hi h
 | _ =>
  intro vs hi h
  match vs,h with
  | [v],h=>exact Xqt hi h
theorem Yh5{W:GW}{θ:Loc}{o o':Nat}{a:AV}{v:Value}(hi:¬a.ids o')(h:AV.V W θ a v): AV.V W (rnθ o o' θ) (a.ren o o') v:=by
 cases a with
 | tup a=>obtain⟨vs,e,h⟩:=h;exact⟨vs,e,Ymg hi h⟩
 | un=>exact h
 | _=>exact Xqt hi h
theorem Xle{o o' i:Nat}: ∀ {a:AV},(a.ren o o').ids i->∃j,a.ids j/\i=rnN o o' j:=by
 intro a
 induction a with
 | st a ih=>exact ih
 | tup a ih=>exact ih
 | fm f a ih=>exact ih
 | pr a c iha ihc =>
  intro h
  rcases h with h | h
  . obtain⟨j,h1,h2⟩:=iha h;exact⟨j,.inl h1,h2⟩
  . obtain⟨j,h1,h2⟩:=ihc h;exact⟨j,.inr h1,h2⟩
 | _=>intro h;first | exact h.elim | exact⟨_,rfl,h⟩
theorem Xer{o o':Nat}: ∀ {E:Env} {t:Nat} {v:AV},look (Ybx o o' E) t=some v->∃w,look E t=some w/\v=w.ren o o'
 | [],t,v,h=>by simp[Ybx,look] at h
 | (s,w)::E,t,v,h=>by
  simp only[Ybx,W4i,look] at h |-
  split at h
  . injection h with h;exact⟨w,rfl,h.symm⟩
  . exact Xer h
theorem Xbu{o o':Nat}: ∀ {H:Hpl} {i:Nat} {x:Ob},look H o'=none->look (Xs8 o o' H) i=some x->∃j y,look H j=some y/\i=rnN o o' j/\x=y.ren o o'
 | [],i,x,_,h=>by simp[Xs8,look] at h
 | (s,w)::H,i,x,hn,h=>by
  simp only[look] at hn
  split at hn<;>try cases hn
  rename_i hs
  simp only[Xs8,W4i,look] at h
  split at h
  . rename_i hb
    injection h with h
    exact⟨s,w,by simp[look],W0e hb,h.symm⟩
  . rename_i hb
    obtain⟨j,y,h1,h2,h3⟩:=Xbu hn h
    have:j≠s:=λe=>by
     subst e
     rw[h2] at hb
     simp at hb
    exact⟨j,y,by simp only[look,Ycc this];exact h1,h2,h3⟩
theorem Xc7{o o':Nat}: ∀ {H:Hpl} {j:Nat} {y:Ob},look H o'=none->look H j=some y->∃x,look (Xs8 o o' H) (rnN o o' j)=some x
 | [],_,_,_,h=>by simp[look] at h
 | (s,w)::H,j,y,hn,h=>by
  simp only[Xs8,W4i,look]
  by_cases e:j=s
  . subst e;exact⟨w.ren o o',by simp⟩
  . simp only[look,Ycc e] at h
    simp only[look] at hn
    split at hn<;>try cases hn
    obtain⟨x,hx⟩:=Xc7 hn h
    split
    . exact⟨_,rfl⟩
    . exact⟨x,hx⟩
theorem Yb8{W:GW}{θ:Loc}{o o' j:Nat}{y:Ob}(hj:j≠o')(hi:¬y.ids o')(h:y.R W θ j): (y.ren o o').R W (rnθ o o' θ) (rnN o o' j):=by
 cases y with
 | var a=>obtain⟨b,cs,T,h1,h2,h3,h4⟩:=h;exact⟨b,cs,T,by rw[Xa8 hj];exact h1,h2,Yh3 hi h3,h4⟩
 | arr sz xs=>obtain⟨b,cs,T,h1,h2,h3,h4,h5,h6⟩:=h;exact⟨b,cs,T,by rw[Xa8 hj];exact h1,h2,by rw[Xa8 hj];exact h3,by rw[Xa8 hj];exact h4,by rw[Xa8 hj];exact h5,h6⟩
 | tok n sz=>obtain⟨h1,h2,h3⟩:=h;exact⟨by rw[Xa8 hj];exact h1,by rw[Xa8 hj];exact h2,by rw[Xa8 hj];exact h3⟩
 | dead=>trivial
theorem Yn6{K:List Kt}{E:Env}{H:Hpl}(o o':Nat)(hb:(Nat.blt o 1000000&&Nat.blt o' 1000000 && !Xcf H o')=true)(k:J c K (sem (Ybx o o' E) (Xs8 o o' H))): J c K (sem E H):=by
 simp only[W0f,W1t] at hb
 obtain⟨⟨hb1,hb2⟩,hb3⟩:=hb
 have hb1:=Xq8 hb1
 have hb2:=Xq8 hb2
 have hn:look H o'=none:=by
  unfold Xcf at hb3;split at hb3<;>first | assumption | cases hb3
 rintro a w ⟨s0,W,θ,hw,hs,hθ,rfl⟩
 have hdom:∀ {i y},look H i=some y->i≠o':=λh e=>by rw[e,hn] at h;cases h
 have hni:∀ {v:AV},(∀i,v.ids i->∃y,look H i=some y)->¬v.ids o':=λh hi=>by obtain⟨y,hy⟩:=h o' hi;rw[hn] at hy;cases hy
 refine k a w ⟨_,W,rnθ o o' θ,hw,⟨hs.fm,⟨hs.rel.defers,hs.rel.size,λt v ht=>?_⟩,⟨λi x hx=>?_,λi x b hx hl hb=>?_,λi j x x' b hx hx' hl hl' h1 h2=>?_,λi x q hx hq=>?_⟩,λt v i ht hi=>?_⟩,λi hi=>?_,rfl⟩
 . obtain⟨u,h1,rfl⟩:=Xer ht
   exact Yh5 (hni λi hi=>hs.ids t u i h1 hi) (hs.rel.has t u h1)
 . obtain⟨j,y,h1,rfl,rfl⟩:=Xbu hn hx
   exact Yb8 (hdom h1) (λhi=>by obtain⟨z,hz⟩:=hs.obs.ids j y o' h1 hi;have hz:look H o'=some z:=hz;rw[hn] at hz;cases hz) (hs.obs.r j y h1)
 . obtain⟨j,y,h1,rfl,rfl⟩:=Xbu hn hx
   rw[Xa8 (hdom h1)] at hb
   exact hs.obs.new j y b h1 (by cases y<;>first | rfl | cases hl) hb
 . obtain⟨q,y,k1,rfl,rfl⟩:=Xbu hn hx
   obtain⟨q',y',k1',rfl,rfl⟩:=Xbu hn hx'
   rw[Xa8 (hdom k1)] at h1
   rw[Xa8 (hdom k1')] at h2
   rw[hs.obs.dis q q' y y' b k1 k1' (by cases y<;>first | rfl | cases hl) (by cases y'<;>first | rfl | cases hl') h1 h2]
 . obtain⟨j,y,h1,rfl,rfl⟩:=Xbu hn hx
   cases y with
   | var a =>
    obtain⟨r,h2,rfl⟩:=Xle (a:=a) hq
    obtain⟨z,hz⟩:=hs.obs.ids j _ r h1 h2
    exact Xc7 hn hz
   | _=>exact hq.elim
 . obtain⟨u,h1,rfl⟩:=Xer ht
   obtain⟨r,h2,rfl⟩:=Xle hi
   obtain⟨z,hz⟩:=hs.ids t u r h1 h2
   exact Xc7 hn hz
 . show (if i=o' then θ o else θ i)=_
   rw[if_neg (by omega)];exact hθ i hi
theorem Ypj{K:List Kt}{E:Env}{H:Hpl}(t o' sz:Nat)(hv:look E t=some .nil)(hb:(Nat.blt o' 1000000 && !Xcf H o')=true)(k:J c K (sem ((t,.gr o' sz [])::E) ((o',.tok 0 sz)::H))): J c K (sem E H):=by
 simp only[W0f,W1t] at hb
 have hb1:=Xq8 hb.1
 have hn:look H o'=none:=by
  have hb3:=hb.2
  unfold Xcf at hb3;split at hb3<;>first | assumption | cases hb3
 rintro a w ⟨s0,W,θ,hw,hs,hθ,rfl⟩
 have st:=Stp.new0 (d:=o') hs.obs hb1 hn (x:=.tok 0 sz) ⟨by simp,by simp,.inl (by simp)⟩ (λi h=>h)
 have h1:=hs.step0 st
 refine k a w ⟨_,W,_,hw,?_,λi hi=>(st.hi i hi).trans (hθ i hi),rfl⟩
 rw[show sem ((t,AV.gr o' sz [])::E) ((o',Ob.tok 0 sz)::H)=(upd (look E) t (.gr o' sz []),upd (look H) o' (.tok 0 sz)) by rw[Xa7,Xa7]]
 refine⟨h1.fm,⟨h1.rel.defers,h1.rel.size,λq v hq=>?_⟩,h1.obs,λq v i hq hi=>?_⟩
 . rcases Xaf hq with ⟨e1,e2⟩ | ⟨e1,e2⟩
   . subst e1;subst e2
     obtain⟨p,e⟩:=Xn1 (h1.rel.has q _ hv)
     rw[e]
     exact Ye5 (o:=o') (θ:=λi=>if i=o' then (none,0) else θ i) rfl (by simp) (.inl (by simp)) (by simp) (by simp) (.inl rfl)
   . exact h1.rel.has q v e2
 . rcases Xaf hq with ⟨e1,e2⟩ | ⟨e1,e2⟩
   . subst e2;have hi:i=o':=hi;subst hi;exact⟨_,Xai _ _ _⟩
   . exact h1.ids q v i e2 hi
def rnE: List (Nat×Nat)->Env->Env
 | [],E=>E
 | (o,o')::r,E=>rnE r (Ybx o o' E)
def rnH: List (Nat×Nat)->Hpl->Hpl
 | [],H=>H
 | (o,o')::r,H=>rnH r (Xs8 o o' H)
def unE: List (Nat×Nat)->Env->Env
 | [],E=>E
 | (o,o')::r,E=>Ybx o' o (unE r E)
def unH: List (Nat×Nat)->Hpl->Hpl
 | [],H=>H
 | (o,o')::r,H=>Xs8 o' o (unH r H)
def okR: List (Nat×Nat)->Hpl->Bool
 | [],_=>true
 | (o,o')::r,H=>Nat.blt o 1000000&&Nat.blt o' 1000000 && !Xcf H o'&&okR r (Xs8 o o' H)
theorem rnS{K:List Kt}: ∀ {r:List (Nat×Nat)} {E:Env} {H:Hpl},okR r H=true->StP c (.j [] K (rnE r E) (rnH r H))->StP c (.j [] K E H)
 | [],_,_,_,k=>k
 | (o,o')::r,E,H,h,k=>by
  simp only[okR,W0f] at h
  exact Yn6 o o' (by simp only[W0f];exact h.1) (rnS h.2 k)
def Ylt(r:List (Nat×Nat))(E E':Env)(H H':Hpl): Prop:=Xs6 E (unE r E')/\Xs6 H (unH r H')/\(Xnt (unE r E') (unH r H')&&okR r (unH r H'))=true/\rnE r (unE r E')=E'/\rnH r (unH r H')=H'
theorem Ym6{K:List Kt}{r:List (Nat×Nat)}{E E':Env}{H H':Hpl}(h:Ylt r E E' H H')(k:StP c (.j [] K E' H')): StP c (.j [] K E H):=by
 obtain⟨h1,h2,h3,h4,h5⟩:=h
 rw[W0f] at h3
 exact Ypa h1 h2 h3.1 (rnS h3.2 (by rw[h4,h5];exact k))
def Yny{α:Type}(E':α->Env)(H':α->Hpl)(I:α->Prop)(μ:α->Nat)(s:S)(m:Nat): Prop:=∃x,s=sem (E' x) (H' x)/\I x/\μ x=m
noncomputable def nxL(tb:Nat->Option TI)(n:Nat)(s:St): Option (Code×List Kt×Env×Hpl):=match runN tb n 1000 s with
 | .j _ (.c (.loop b)::K) E H=>some (b,K,E,H)
 | _=>none
theorem Lo{α:Type}(E':α->Env)(H':α->Hpl)(I:α->Prop)(μ:α->Nat)(x:α)(r:List (Nat×Nat)){b:Code}{K:List Kt}{E:Env}{H:Hpl}(h:nxL c.tb c.n s=some (b,K,E,H))(h0:I x)
 (k:∀x,I x->StP c (.j [] (.c b::.l (λs'=>∃μ',μ'<μ x/\Yny E' H' I μ s' μ')::K) (E' x) (H' x))) (hf:Ylt r E (E' x) H (H' x):=by exact⟨rfl,rfl,rfl,rfl,rfl⟩):StP c s:=by
 unfold nxL at h
 split at h<;>cases h
 rename_i hr
 refine go 1000 hr (Ym6 hf (J.loop (Yny E' H' I μ) (μ x) ⟨x,rfl,h0,rfl⟩ ?_))
 rintro s m ⟨x,rfl,hx,rfl⟩
 exact k x hx
noncomputable def nxB(tb:Nat->Option TI)(n:Nat)(s:St): Option ((S->Prop)×List Kt×Env×Hpl):=match runN tb n 1000 s with
 | .j _ (.l I::K) E H=>some (I,K,E,H)
 | _=>none
theorem Bk{α:Type}{E':α->Env}{H':α->Hpl}{I:α->Prop}{μ:α->Nat}{m:Nat}{K:List Kt}{E:Env}{H:Hpl}(x:α)(r:List (Nat×Nat))(h:nxB c.tb c.n s=some ((λs'=>∃μ',μ'<m/\Yny E' H' I μ s' μ'),K,E,H))(hI:I x)(hm:μ x<m)(hf:Ylt r E (E' x) H (H' x):=by exact⟨rfl,rfl,rfl,rfl,rfl⟩): StP c s:=by
 unfold nxB at h
 split at h<;>try cases h
 rename_i hr
 exact go 1000 hr (Ym6 hf (J.at' ⟨_,hm,x,rfl,hI,rfl⟩))
noncomputable def nxJ(tb:Nat->Option TI)(n:Nat)(s:St): Option (List Kt×Env×Hpl):=match runN tb n 1000 s with
 | .j _ K E H=>some (K,E,H)
 | _=>none
theorem Re{K:List Kt}{E:Env}{H:Hpl}(o o':Nat)(h:nxJ c.tb c.n s=some (K,E,H))(k:StP c (.j [] K (Ybx o o' E) (Xs8 o o' H)))(hb:(Nat.blt o 1000000&&Nat.blt o' 1000000 && !Xcf H o')=true:=by exact rfl): StP c s:=by
 unfold nxJ at h
 split at h<;>cases h
 rename_i hr
 exact go 1000 hr (Yn6 o o' hb k)
theorem Nl{K:List Kt}{E:Env}{H:Hpl}(t o' sz:Nat)(h:nxJ c.tb c.n s=some (K,E,H))(k:StP c (.j [] K ((t,.gr o' sz [])::E) ((o',.tok 0 sz)::H)))(hv:look E t=some .nil:=by exact rfl)(hb:(Nat.blt o' 1000000 && !Xcf H o')=true:=by exact rfl): StP c s:=by
 unfold nxJ at h
 split at h<;>cases h
 rename_i hr
 exact go 1000 hr (Ypj t o' sz hv hb k)
end
end
section
def GW.fz(W:GW)(b:Nat): GW:=⟨W.w,λb' i=>b'≠b/\W.A b' i,λb' i k=>W.hA b' i k.2⟩
theorem Xsr(W:GW)(b:Nat): LeF W (W.fz b):=λ_ _ _ k=>⟨k.1,λhA=>k.2 hA.2⟩
theorem Stp.freeze{N:Nat->Prop}{W:GW}{θ:Loc}{g:Hp}(h:Obs W θ N g){o b sz:Nat}{xs:List D}(ho:g o=some (.arr sz xs))(hb:(θ o).1=some b):
 Stp N W (W.fz b) θ θ g (upd g o .dead) where
 os:=_root_.rfl
 out:=_root_.rfl
 tape:=_root_.rfl
 size:=W0b _
 same:=λ_ _ _=>_root_.rfl
 A:=λb' _ hn i=>⟨λk=>k.2,λk=>⟨λe=>by subst e;exact hn (h.new o _ _ ho _root_.rfl hb),k⟩⟩
 le:=Xsr W b
 th:=λ_ _ _=>_root_.rfl
 hi:=λ_ _=>_root_.rfl
 obs:={
  r:=λo' z hz=>by
   rcases Xaf hz with ⟨e1,e2⟩ | ⟨e1,e2⟩
   . subst e2;trivial
   . exact(h.r o' z e2).keep (Xsr W b) _root_.rfl (λ_ _=>_root_.rfl) λhl b' hb'=>⟨_root_.rfl,λi hA=>show b'≠b/\W.A b' i from⟨λe=>by
      subst e
      exact e1 (h.dis o' o z _ _ e2 ho hl _root_.rfl hb' hb),hA⟩⟩
  new:=λo' z b hz hl hb=>by
   rcases Xaf hz with ⟨e1,e2⟩ | ⟨e1,e2⟩
   . subst e2;cases hl
   . exact h.new o' z b e2 hl hb
  dis:=λo1 o2 y1 y2 b h1 h2 l1 l2 b1 b2=>by
   rcases Xaf h1 with ⟨e1,f1⟩ | ⟨e1,f1⟩
   . subst f1;cases l1
   . rcases Xaf h2 with ⟨e2,f2⟩ | ⟨e2,f2⟩
     . subst f2;cases l2
     . exact h.dis o1 o2 y1 y2 b f1 f2 l1 l2 b1 b2
  ids:=λo' z i hz hzi=>by
   have:∃w,g i=some w:=by
    rcases Xaf hz with ⟨e1,e2⟩ | ⟨e1,e2⟩
    . subst e2;exact hzi.elim
    . exact h.ids o' z i e2 hzi
   obtain⟨w,hw⟩:=this
   by_cases e:i=o
   . subst e;exact⟨_,Xai _ _ _⟩
   . exact⟨w,by rw[Xak e];exact hw⟩ }
 dom:=λi y hy=>by
  by_cases e:i=o
  . subst e;exact⟨_,Xai _ _ _⟩
  . exact⟨y,by rw[Xak e];exact hy⟩
theorem Xz2{N:Nat->Prop}{W:GW}{θ:Loc}{g:Hp}(h:Obs W θ N g){o b sz l n:Nat}{xs:List D}{v:Value}(ho:g o=some (.arr sz xs))(hb:(θ o).1=some b)(hn:l+n<=xs.length)(hv:AV.V W θ (.own o sz l n) v):
 AV.V (W.fz b) θ (.d (.sl sz ((xs.drop l).take n))) v:=by
 obtain⟨cs,⟨b1,p,h1,h2,h3,e,h5⟩,hc⟩:=hv
 refine⟨cs,?_,hc⟩
 obtain⟨b',bs,T',r1,r2,r3,r4,r5,r6,r7⟩:=h.r _ _ ho
 rw[hb] at r1 h1;injection r1 with r1;injection h1 with h1;subst r1;subst h1
 have hlen:((xs.drop l).take n).length=n:=by simp;omega
 refine⟨p,(θ o).2-l,by rw[hlen];exact e,by omega,by omega,?_⟩
 rcases W2s n with hn0 | hn0
 . exact .inl (W4s.1 (by rw[hlen,hn0]))
 . refine .inr ⟨b,l*sz,h5 (by omega),?_⟩
   have hrow:D.Row (W.fz b) b sz 0 xs:=(AtL.mono (Xsr W b) (sz:=sz) (xs:=xs) (cs:=bs) r6).row λq v _ hv=>by
    rw[W1k]
    exact⟨show W.w.cell? _=_ by rw[Xbb r2];exact hv,λhA=>hA.1 rfl⟩
   have:=D.row_sub hrow l n
   rwa[W1k] at this
def isR(id:Nat): St->Bool
 | .j _ (.c (.region i _ _)::_) _ _=>Nat.beq id i
 | .j _ (.c (.block i _)::_) _ _=>Nat.beq id (i+1000000)
 | _=>false
noncomputable def runT(tb:Nat->Option TI)(n id:Nat): Nat->St->St
 | 0,s=>s
 | m+1,s=>match isR id s with
  | true=>s
  | false=>match Yla tb n s with
   | some s'=>runT tb n id m s'
   | none=>s
section
variable{c:Cx}{s:St}{p:Pl}
theorem Xg6{id:Nat}: ∀(m:Nat) {s:St},StP c (runT c.tb c.n id m s)->StP c s
 | 0,_,k=>k
 | m+1,s,k=>by
  unfold runT at k
  split at k
  . exact k
  . split at k
    . rename_i s' h;exact Xum h (Xg6 m k)
    . exact k
noncomputable def nxF(tb:Nat->Option TI)(n id t:Nat)(s:St): Option (List Kt×Env×Hpl×Nat×Nat×Nat×Nat×List D):=match runT tb n id 1000 s with
 | .j _ K E H=>match look E t with
  | some (.own o sz l n)=>match look H o with
   | some (.arr sz' xs)=>match Nat.beq sz sz' with
    | true=>some (K,E,H,o,sz,l,n,xs)
    | false=>none
   | _=>none
  | _=>none
 | _=>none
theorem Fz(id t:Nat)(ys:List D){K:List Kt}{E:Env}{H:Hpl}{o sz l n:Nat}{xs:List D}(h:nxF c.tb c.n id t s=some (K,E,H,o,sz,l,n,xs))(hn:l+n<=xs.length)(hy:(xs.drop l).take n=ys)(k:StP c (.j [] K ((t,.d (.sl sz ys))::E) ((o,.dead)::H))): StP c s:=by
 unfold nxF at h
 split at h<;>try cases h
 rename_i hr
 split at h<;>try cases h
 rename_i he
 split at h<;>try cases h
 rename_i ho
 split at h<;>cases h
 rename_i hz
 have hz:=W0e hz
 subst hz;subst hy
 refine Xg6 (id:=id) 1000 ?_
 rw[hr]
 rintro a w ⟨s0,W,θ,hw,hs,hθ,rfl⟩
 obtain⟨b,bs,T',r1,_⟩:=hs.obs.r _ _ ho
 have st:=Stp.freeze hs.obs ho r1
 have h1:=hs.step0 st
 refine k a w ⟨_,W.fz b,θ,hw,?_,hθ,rfl⟩
 rw[show sem ((t,AV.d (.sl sz ((xs.drop l).take n)))::E) ((o,Ob.dead)::H)=(upd (look E) t (.d (.sl sz ((xs.drop l).take n))),upd (look H) o .dead) by rw[Xa7,Xa7]]
 refine⟨h1.fm,⟨h1.rel.defers,h1.rel.size,λq v hq=>?_⟩,h1.obs,λq v i hq hi=>?_⟩
 . rcases Xaf hq with ⟨e1,e2⟩ | ⟨e1,e2⟩
   . subst e1;subst e2
     exact Xz2 hs.obs ho r1 hn (hs.rel.has q _ he)
   . exact h1.rel.has q v e2
 . rcases Xaf hq with ⟨e1,e2⟩ | ⟨e1,e2⟩
   . subst e2;exact hi.elim
   . exact h1.ids q v i e2 hi
noncomputable def nxM(tb:Nat->Option TI)(n:Nat)(s:St): Option (Pl×Nat×Nat×D×Int×Int):=match nxA tb n s with
 | some (p,o,[.d (.int _ m),.d (.int _ q)])=>match o.op with
  | .makeSlice T _ _=>match tb T with
   | some ti=>match ti.z,Nat.ble ti.eb 128,look p.H (o.dst.getD 0) with
    | .sl sz _,true,none=>some (p,o.dst.getD 0,sz,ti.e,m,q)
    | _,_,_=>none
   | none=>none
  | _=>none
 | _=>none
theorem Mk(n:Nat){d sz:Nat}{e:D}{m q:Int}(h:nxM c.tb c.n s=some (p,d,sz,e,m,q))(hn:(n:Int)<=q/\q<=1099511627776)(k:p.nx' c (.own d sz 0 n) [(d,.arr sz (List.replicate n e))])(hm:m=n:=by first | exact rfl | omega): StP c s:=by
 subst hm
 unfold nxM at h
 split at h<;>try cases h
 rename_i hA
 split at h<;>try cases h
 rename_i ho
 split at h<;>try cases h
 rename_i ti ht
 split at h<;>cases h
 rename_i he hd hz
 refine Xbw hA ?_ k
 rw[ho]
 simp only[F,ht,hd,hz]
 rw[if_pos ⟨by omega,by omega,Xcy (ti:=ti) (by omega) (W1i he)⟩]
 simp
noncomputable def nxS(tb:Nat->Option TI)(n:Nat)(s:St): Option (Pl×AV×Option Int×Option Int):=match nxA tb n s with
 | some (p,o,asx)=>match o.op with
  | .slice T _ lo hi mx=>match tb T with
   | some ti=>match ti.z,Xj0 lo hi mx asx with
    | .sl _ _,some (a,l,h,none)=>match Yn3 ti.e.size a with
     | true=>some (p,a,l,h)
     | false=>none
    | _,_=>none
   | none=>none
  | _=>none
 | none=>none
theorem Xmy{a r:AV}{l h':Option Int}(h:nxS c.tb c.n s=some (p,a,l,h'))(hr:slA l h' a=some r)(k:p.nx c r): StP c s:=by
 unfold nxS at h
 split at h<;>try cases h
 rename_i hA
 split at h<;>try cases h
 rename_i ho
 split at h<;>try cases h
 rename_i ti ht
 split at h<;>try cases h
 rename_i hz hs
 split at h<;>cases h
 rename_i hk
 refine Xbw (us:=[]) hA ?_ (Pl.nx_nil k)
 rw[ho]
 simp only[F,Fp,ht,hz,hs,hk,hr]
def Yln: AV->Option (Nat×List D)
 | .d (.sl sz xs)=>some (sz,xs)
 | .gr _ sz xs=>some (sz,xs)
 | .lit sz xs=>some (sz,xs)
 | _=>none
theorem Xrw{a:AV}{sz:Nat}{xs:List D}(h:Yln a=some (sz,xs))(l h':Option Int): slA l h' a=slA.slL sz xs l h':=by
 unfold Yln at h
 split at h<;>cases h<;>rfl
theorem Tk(j:Nat)(zs:List D){a:AV}{i:Int}{sz:Nat}{xs:List D}(h:nxS c.tb c.n s=some (p,a,none,some i))(ha:Yln a=some (sz,xs))(hl:j<=xs.length)(hz:xs.take j=zs)(k:p.nx c (.d (.sl sz zs)))(hj:i=j:=by first | exact rfl | omega): StP c s:=by
 subst hj;subst hz
 refine Xmy h ?_ k
 rw[Xrw ha,slA.slL,if_pos ⟨by omega,by omega⟩];simp
theorem Dp(j:Nat)(zs:List D){a:AV}{i:Int}{sz:Nat}{xs:List D}(h:nxS c.tb c.n s=some (p,a,some i,none))(ha:Yln a=some (sz,xs))(hl:j<=xs.length)(hz:xs.drop j=zs)(k:p.nx c (.d (.sl sz zs)))(hj:i=j:=by first | exact rfl | omega): StP c s:=by
 subst hj;subst hz
 refine Xmy h ?_ k
 rw[Xrw ha,slA.slL,if_pos ⟨by omega,by omega⟩];simp
theorem Sw(i j:Nat){l h':Option Int}{o sz q n:Nat}(h:nxS c.tb c.n s=some (p,.own o sz q n,l,h'))(hi:i<=j)(hj:j<=n)(k:p.nx c (.own o sz (q+i) (j-i)))(hl:l.getD 0=i:=by first | exact rfl | (simp only[Option.getD];omega))(hh:h'.getD n=j:=by first | exact rfl | (simp only[Option.getD];omega)): StP c s:=by
 refine Xmy h ?_ k
 cases l<;>cases h'<;>simp only[Option.getD] at hl hh
 . have:i=0:=by omega
   have:j=n:=by omega
   subst i;subst j;simp[slA]
 . have:i=0:=by omega
   subst i
   rw[slA,if_pos ⟨by omega,by omega⟩,hh];simp
 . have:j=n:=by omega
   subst j
   rw[slA,if_pos ⟨by omega,by omega⟩,hl];simp
 . rw[slA,if_pos ⟨by omega,by omega,by omega⟩,hl,hh];simp
noncomputable def nxE(tb:Nat->Option TI)(n:Nat)(s:St): Option (Pl×Nat×Nat×Nat×Nat×Int):=match nxA tb n s with
 | some (p,o,[.own q sz l m,.d (.int _ j)])=>match o.op with
  | .indexAddr T _ _=>match tb T with
   | some ti=>match ti.z,Nat.beq sz ti.e.size with
    | .sl _ _,true=>some (p,q,sz,l,m,j)
    | _,_=>none
   | none=>none
  | _=>none
 | _=>none
theorem El(i:Nat){q sz l m:Nat}{j:Int}(h:nxE c.tb c.n s=some (p,q,sz,l,m,j))(hi:i<m)(k:p.nx c (.el q sz (l+i) 0))(hj:j=i:=by first | exact rfl | omega): StP c s:=by
 subst hj
 unfold nxE at h
 split at h<;>try cases h
 rename_i hA
 split at h<;>try cases h
 rename_i ho
 split at h<;>try cases h
 rename_i ti ht
 split at h<;>cases h
 rename_i hz hb
 refine Xbw (us:=[]) hA ?_ (Pl.nx_nil k)
 rw[ho]
 simp only[F,Fp,ht,hz,ixA]
 rw[if_pos ⟨by omega,by omega,W0e hb⟩]
 simp
theorem Eo(i:Nat){q sz m:Nat}{j:Int}(h:nxE c.tb c.n s=some (p,q,sz,0,m,j))(hi:i<m)(k:p.nx c (.el q sz i 0))(hj:j=i:=by first | exact rfl | omega): StP c s :=
 El i h hi (by rw[W1k];exact k) hj
noncomputable def Yoh(tb:Nat->Option TI)(n:Nat)(s:St): Option (Pl×Nat×Bool×List D×Nat×Nat):=match nxA tb n s with
 | some (p,o,[.el q sz j off])=>match o.op with
  | .load T _=>match tb T,look p.H q with
   | some ti,some (.arr sz' xs)=>match Nat.beq sz sz' with
    | true=>some (p,ti.z.size,ti.z.ag,xs,j,off)
    | false=>none
   | _,_=>none
  | _=>none
 | _=>none
theorem Ld(u:D){z g xs j off y}(h:Yoh c.tb c.n s=some (p,z,g,xs,j,off))(hu:xs[j]?=some u)(k:p.nx c (nb y))(hy:Xp4 z g u off=some y:=by exact rfl): StP c s:=by
 unfold Yoh at h
 split at h<;>try cases h
 rename_i hA
 split at h<;>try cases h
 rename_i ho
 split at h<;>try cases h
 rename_i ti ht hq
 split at h<;>cases h
 rename_i hz
 have hz:=W0e hz
 refine Xbw (us:=[]) hA ?_ (Pl.nx_nil k)
 rw[ho]
 simp only[F,ht,hq,hz,if_true,hu,hy]
noncomputable def Ymm(tb:Nat->Option TI)(n:Nat)(s:St): Option (Pl×Nat×Nat×List D×Nat×D):=match nxA tb n s with
 | some (p,o,[.el q sz j 0,v])=>match o.op with
  | .store T _ _=>match tb T,look p.H q with
   | some ti,some (.arr sz' xs)=>match toD ti.z v with
    | some x=>match plain v&&Nat.beq sz sz'&&Nat.beq v.size sz&&Nat.beq x.size sz&&Nat.beq ti.z.size sz with
     | true=>some (p,q,sz,xs,j,x)
     | false=>none
    | none=>none
   | _,_=>none
  | _=>none
 | _=>none
theorem Sto{zs:List D}{q sz xs j x}(h:Ymm c.tb c.n s=some (p,q,sz,xs,j,x))(hj:j<xs.length)(hz:xs.set j x=zs)(k:p.nx' c (.ub True) [(q,.arr sz zs)]): StP c s:=by
 subst hz
 unfold Ymm at h
 split at h<;>try cases h
 rename_i hA
 split at h<;>try cases h
 rename_i ho
 split at h<;>try cases h
 rename_i ti ht hq
 split at h<;>try cases h
 rename_i hx
 split at h<;>cases h
 rename_i hb
 simp only[W0f] at hb
 refine Xbw hA ?_ k
 rw[ho]
 simp only[F,ht,hq,hx]
 rw[if_pos ⟨hb.1.1.1.1,W0e hb.1.1.1.2,W0e hb.1.1.2,W0e hb.1.2,W0e hb.2,hj⟩]
noncomputable def nxN(tb:Nat->Option TI)(n:Nat)(s:St): Option (Pl×IntKind×Int):=match nxA tb n s with
 | some (p,o,[.d (.int k a)])=>match o.op with
  | .unOp op _ _=>match op with
   | .neg=>some (p,k,a)
   | _=>none
  | _=>none
 | _=>none
theorem Ne{k:IntKind}{a:Int}(r:Int)(h:nxN c.tb c.n s=some (p,k,a))(kk:p.nx c (.d (.int k r)))(hr:k.wrap (0-a)=r:=by exact wr (by omega) (by simp only[inK];omega)): StP c s:=by
 unfold nxN at h
 split at h<;>try cases h
 rename_i hA
 split at h<;>try cases h
 rename_i ho
 split at h<;>cases h
 refine Xbw (us:=[]) hA ?_ (Pl.nx_nil kk)
 rw[ho]
 simp only[F,Fp,hr]
end
end
end Go.Vm
namespace Go.Num
theorem wI{x:Int}(h:-9223372036854775808<=x/\x<9223372036854775808): IntKind.i64.wrap x=x:=by
 have e:IntKind.i64.wrap x=if x%18446744073709551616>=9223372036854775808 then x%18446744073709551616-18446744073709551616 else x%18446744073709551616:=by
  simp[IntKind.wrap,IntKind.bits,IntKind.signed]
 rw[e];split<;>omega
theorem wU{x:Int}(h:0<=x/\x<18446744073709551616): IntKind.u64.wrap x=x:=by
 have e:IntKind.u64.wrap x=x%18446744073709551616:=by simp[IntKind.wrap,IntKind.bits,IntKind.signed]
 rw[e];omega
theorem wUm(x:Int): IntKind.u64.wrap x=x%18446744073709551616:=by simp[IntKind.wrap,IntKind.bits,IntKind.signed]
theorem wW{x:Int}(h:0<=x/\x<4294967296): IntKind.u32.wrap x=x:=by
 have e:IntKind.u32.wrap x=x%4294967296:=by simp[IntKind.wrap,IntKind.bits,IntKind.signed]
 rw[e];omega
theorem wWm(x:Int): IntKind.u32.wrap x=x%4294967296:=by simp[IntKind.wrap,IntKind.bits,IntKind.signed]
def val: List Nat->Nat
 | []=>0
 | x::l=>x+4294967296*val l
def dig(n:Nat): List Nat:=if h:n=0 then [] else (n%4294967296)::dig (n/4294967296)
termination_by n
decreasing_by omega
def Xar(l:List Nat): Prop:=∀x∈l,x<4294967296
theorem Xar.nil: Xar []:=λ_ h=>by cases h
theorem Xar.cons{x:Nat}{l:List Nat}(h:x<4294967296)(k:Xar l): Xar (x::l):=λy hy=>by
 rcases W1n.1 hy with rfl | hy
 . exact h
 . exact k y hy
theorem Xar.hd{x:Nat}{l:List Nat}(h:Xar (x::l)): x<4294967296:=h x (W1a ..)
theorem Xar.tl{x:Nat}{l:List Nat}(h:Xar (x::l)): Xar l:=λy hy=>h y (W1c _ hy)
theorem Xar.app{l m:List Nat}(h:Xar l)(k:Xar m): Xar (l++m):=λy hy=>(W1v.1 hy).elim (h y) (k y)
theorem Xar.take{l:List Nat}(h:Xar l)(k:Nat): Xar (l.take k):=λy hy=>h y (W5i hy)
theorem Xar.drop{l:List Nat}(h:Xar l)(k:Nat): Xar (l.drop k):=λy hy=>h y (W4g hy)
theorem Xan: dig 0=[]:=by rw[dig];simp
theorem Xfs{n:Nat}(h:n≠0): dig n=(n%4294967296)::dig (n/4294967296):=by rw[dig];simp[h]
theorem Xag(n:Nat): val (dig n)=n:=by
 induction n using Nat.strongRecOn with
 | _ n ih =>
  by_cases h:n=0
  . subst h;rw[Xan];rfl
  . rw[Xfs h,val,ih _ (by omega)];omega
theorem Xae(n:Nat): Xar (dig n):=by
 induction n using Nat.strongRecOn with
 | _ n ih =>
  by_cases h:n=0
  . subst h;rw[Xan];exact .nil
  . rw[Xfs h];exact .cons (by omega) (ih _ (by omega))
theorem Xsu{n:Nat}: dig n=[]↔n=0:=by
 constructor
 . intro h;have:=Xag n;rw[h] at this;exact this.symm
 . rintro rfl;exact Xan
theorem Xe2(l m:List Nat): val (l++m)=val l+4294967296^l.length*val m:=by
 induction l with
 | nil=>simp[val]
 | cons x l ih =>
  rw[W4z,val,ih,val,W0u,W0z,W1b,W4p,
   W1f (4294967296^l.length) 4294967296,W0x]
theorem Xb2{l:List Nat}(h:Xar l): val l<4294967296^l.length:=by
 induction l with
 | nil=>simp[val]
 | cons x l ih =>
  have h1:=ih h.tl
  have h2:=h.hd
  rw[val,W0u,W0z]
  omega
theorem Xac{l:List Nat}{k x:Nat}(h:l[k]?=some x): val (l.take (k+1))=val (l.take k)+4294967296^k*x:=by
 have hk:k<l.length:=by
  by_cases hh:k<l.length
  . exact hh
  . rw[W2f (by omega)] at h;cases h
 rw[W1p,h,Xe2]
 simp[val,W0g,W2e (W2h hk)]
def Ylr(l:List Nat): Prop:=l=[]\/∃x,l[l.length-1]?=some x/\x≠0
theorem Xfr{l:List Nat}(hw:Xar l)(ht:Ylr l): dig (val l)=l:=by
 induction l with
 | nil=>exact Xan
 | cons x l ih =>
  have hx:=hw.hd
  rcases ht with h | ⟨y,hy,hne⟩
  . cases h
  . by_cases hl:l=[]
    . subst hl
      simp at hy
      subst hy
      rw[Xfs (by simp[val,hne])]
      simp only[val,W3e,W2j]
      rw[W3z hx,W4h hx,Xan]
    . have ht':Ylr l:=by
       refine .inr ⟨y,?_,hne⟩
       have:l.length≠0:=λh=>hl (W0n h)
       rw[W0u,show l.length+1-1=(l.length-1)+1 by omega] at hy
       simpa using hy
      have ihh:=ih hw.tl ht'
      have hv:val l≠0:=by
       intro h0
       rw[h0,Xan] at ihh
       exact hl ihh.symm
      rw[val,Xfs (by omega),show (x+4294967296*val l)%4294967296=x by omega,show (x+4294967296*val l)/4294967296=val l by omega,ihh]
theorem Xh3(n:Nat): Ylr (dig n):=by
 induction n using Nat.strongRecOn with
 | _ n ih =>
  by_cases h:n=0
  . subst h;rw[Xan];exact .inl rfl
  . rw[Xfs h]
    by_cases h2:n/4294967296=0
    . rw[h2,Xan]
      exact .inr ⟨n%4294967296,rfl,by omega⟩
    . rcases ih (n/4294967296) (by omega) with h3 | ⟨x,h3,h4⟩
      . exact absurd (Xsu.1 h3) h2
      . refine .inr ⟨x,?_,h4⟩
        have:(dig (n/4294967296)).length≠0:=λh=>h2 (Xsu.1 (W0n h))
        rw[W0u,show (dig (n/4294967296)).length+1-1=((dig (n/4294967296)).length-1)+1 by omega]
        simpa using h3
theorem Xrs{n:Nat}(h:n≠0): 4294967296^((dig n).length-1)<=n:=by
 induction n using Nat.strongRecOn with
 | _ n ih =>
  rw[Xfs h,W0u,W3u]
  by_cases h2:n/4294967296=0
  . rw[h2,Xan];simp;omega
  . have h1:=ih (n/4294967296) (by omega) h2
    have hl:(dig (n/4294967296)).length≠0:=λhh=>h2 (Xsu.1 (W0n hh))
    rw[show (dig (n/4294967296)).length=(dig (n/4294967296)).length-1+1 by omega,W0z]
    exact W0k (W0o _ h1) (W6v ..)
theorem Xdw(n:Nat): n<4294967296^(dig n).length:=by
 have:=Xb2 (Xae n)
 rwa[Xag] at this
theorem Xat{n k:Nat}(h:n<4294967296^k): (dig n).length<=k:=by
 by_cases h0:n=0
 . subst h0;rw[Xan];simp
 . have h1:=Xrs h0
   apply W0s
   intro hn
   have:4294967296^k<=4294967296^((dig n).length-1):=W0l (by decide) (by omega)
   omega
theorem Xas{m n:Nat}(h:m<=n): (dig m).length<=(dig n).length:=Xat (W1y h (Xdw n))
theorem Xdr{m n:Nat}(h:(dig m).length<(dig n).length): m<n:=by
 apply W0s
 intro hn
 have:=Xas (m:=n) (n:=m) (by omega)
 omega
theorem Xpy{l:List Nat}(hw:Xar l)(h0:0<l.length)(h:4294967296^(l.length-1)<=val l): Ylr l:=by
 have hlt:l.length-1<l.length:=by omega
 refine .inr ⟨l[l.length-1],W0c hlt,λhz=>?_⟩
 have h1:=Xac (l:=l) (W0c hlt)
 rw[show l.length-1+1=l.length by omega,W2i,hz,W3e,W2j] at h1
 have h2:=Xb2 (hw.take (l.length-1))
 rw[W0g,W2e (by omega)] at h2
 omega
theorem Xhc(x y:Nat): (dig (x+y)).length<=max (dig x).length (dig y).length+1:=by
 apply Xat
 have h1:=Xdw x
 have h2:=Xdw y
 have h3:4294967296^(dig x).length<=4294967296^max (dig x).length (dig y).length:=W0l (by decide) (Nat.le_max_left ..)
 have h4:4294967296^(dig y).length<=4294967296^max (dig x).length (dig y).length:=W0l (by decide) (Nat.le_max_right ..)
 rw[W0z]
 omega
theorem Xlr(x y:Nat): (dig (x*y)).length<=(dig x).length+(dig y).length:=by
 apply Xat
 rw[W0y]
 exact W3k (Xdw x) (Xdw y)
theorem Yhr(s:Nat): Int.fdiv (s:Int) (2^(min (Int.toNat 32) (IntKind.bits .u64)))=((s/4294967296:Nat):Int):=by
 have e:(2:Int)^(min (Int.toNat 32) (IntKind.bits .u64))=4294967296:=by decide
 rw[e,W1r _ (by omega)]
 rfl
theorem Xg5{l:List Nat}{k:Nat}(h:l.length<=k): l.take (k+1)=l.take k:=by
 rw[W0a h,W0a (by omega)]
theorem Xbk{l:List Nat}{k d:Nat}(h:k<l.length): val ((l.set k d).take (k+1))=val (l.take k)+4294967296^k*d:=by
 have:=Xac (l:=l.set k d) (k:=k) (x:=d) (by rw[W2u h])
 rw[this,List.take_set_of_le (W0b k)]
theorem Xbt(l:List Nat)(k:Nat)(h:k<=l.length): val l=val (l.take k)+4294967296^k*val (l.drop k):=by
 conv=>lhs;rw[<-W5a k l]
 rw[Xe2,W0g,W2e h]
def Xba(a b:Int): Int:=if a<b then -1 else if a>b then 1 else 0
theorem Xj9{l m:List Nat}(hl:Xar l){k x y:Nat}(hk:k<l.length)(hk2:k<m.length)(hx:l[k]?=some x)(hy:m[k]?=some y)(hd:l.drop (k+1)=m.drop (k+1))(h:x<y): val l<val m:=by
 rw[Xbt l (k+1) (by omega),Xbt m (k+1) (by omega),hd,Xac hx,Xac hy]
 have h1:=Xb2 (hl.take k)
 rw[W0g,W2e (by omega)] at h1
 have h2:4294967296^k*(x+1)<=4294967296^k*y:=W0t _ h
 rw[W1b] at h2
 omega
theorem Xb1(n:Nat): val (List.replicate n 0)=0:=by
 induction n with
 | zero=>rfl
 | succ n ih=>rw[W4l,val,ih]
theorem Yhs{u n:Nat}(h:u*2^n<18446744073709551616)(hn:n<=64): IntKind.u64.wrap ((u:Int)*2^(min (Int.toNat (n:Int)) (IntKind.bits .u64)))=((u*2^n:Nat):Int):=by
 have e:min (Int.toNat (n:Int)) (IntKind.bits .u64)=n:=by
  rw[W7h];exact W2e hn
 rw[e]
 have e2:(u:Int)*2^n=((u*2^n:Nat):Int):=by rw[W2o,W7m];rfl
 rw[e2]
 exact wU ⟨by omega,by omega⟩
theorem Xdp(a b n:Nat)(h:a<2^n): b*2^n|||a=b*2^n+a:=by
 have:=Nat.shiftLeft_add_eq_or_of_lt h b
 rw[Nat.shiftLeft_eq] at this
 exact this.symm
theorem Xea(u n:Nat)(h:n<=32): u*2^n%4294967296=(u%2^(32-n))*2^n:=by
 have e:4294967296=2^(32-n)*2^n:=by rw[<-W0y,show 32-n+n=32 by omega]
 rw[e,Nat.mul_mod_mul_right]
theorem Xb3{l:List Nat}{k x:Nat}(h:l[k]?=some x): val (l.drop k)=x+4294967296*val (l.drop (k+1)):=by
 have hk:k<l.length:=by
  by_cases hh:k<l.length
  . exact hh
  . rw[W2f (by omega)] at h;cases h
 rw[W3f hk,val]
 rw[W0c hk] at h
 injection h with h
 rw[h]
theorem drop_set{l:List Nat}{k d:Nat}(h:k<l.length): (l.set k d).drop k=d::l.drop (k+1):=by
 rw[W3f (by simpa using h)]
 simp[List.drop_set]
def bl(n:Nat): Nat:=if n=0 then 0 else Nat.log2 n+1
theorem Ycu{p:Nat->Prop}(h:∀j:Fin 256,p j.val)(x:Nat)(hx:x<256): p x:=h ⟨x,hx⟩
theorem Xcs{n:Nat}(h:n≠0): 2^(bl n-1)<=n/\n<2^bl n/\0<bl n:=by
 rw[bl,if_neg h]
 exact⟨Nat.log2_self_le h,Nat.lt_log2_self,Nat.succ_pos _⟩
theorem Ynl{n k:Nat}(h1:2^k<=n)(h2:n<2^(k+1)): bl n=k+1:=by
 have h0:n≠0:=by have:=W0p k;omega
 obtain⟨a,b,c⟩:=Xcs h0
 have p1:k<bl n:=(W2t (by decide:1<2)).1 (W1y h1 b)
 have p2:bl n-1<k+1:=(W2t (by decide:1<2)).1 (W1y a h2)
 omega
theorem Xfd{n k:Nat}(h:n/2^k≠0): bl n=bl (n/2^k)+k:=by
 obtain⟨a,b,c⟩:=Xcs h
 have hp:=W0p k
 have e:bl (n/2^k)+k=(bl (n/2^k)-1+k)+1:=by omega
 rw[e]
 apply Ynl
 . rw[W0y]
   exact(W7l hp).1 a
 . rw[show bl (n/2^k)-1+k+1=bl (n/2^k)+k by omega,W0y]
   exact(W2r hp).1 b
theorem Xii(l:List Nat)(n:Nat)(h:n<=32): val l%2^n=l.getD 0 0%2^n:=by
 cases l with
 | nil=>rfl
 | cons x l =>
  have e:4294967296=2^n*2^(32-n):=by rw[<-W0y,show n+(32-n)=32 by omega]
  simp only[val,List.getD_cons_zero]
  rw[e,W0x,W5f]
theorem Ydl(s y:Nat)(h:s<18446744073709551616): IntKind.u64.wrap (Int.tdiv (s:Int) (y:Int))=((s/y:Nat):Int):=by
 have e:Int.tdiv (s:Int) (y:Int)=((s/y:Nat):Int):=rfl
 rw[e]
 have h2:s/y<18446744073709551616:=W1y (W3g s y) h
 exact wU ⟨W5b _,W7c.2 h2⟩
theorem Xr8(s y:Nat): Int.tmod (s:Int) (y:Int)=((s%y:Nat):Int):=rfl
theorem Xyq{n:Nat}(h:n<256): (((UInt8.ofNat n).toNat:Nat):Int)=(n:Int):=by
 rw[UInt8.toNat_ofNat_of_lt' h]
theorem Yjv{U Y d:Nat}(hU:U<4294967296*Y)(hY:0<Y)(h:4294967296<=d): U/Y<d:=by
 have:U/Y<4294967296:=by rw[W2r hY];exact hU
 omega
theorem Yju{low u2 top vlow next high M d r:Nat}(hlow:low<M)(hM:0<M)(ht:d*high+r=top)(h:r*4294967296+u2<d*next)(hY:0<vlow+M*(next+4294967296*high)):
 (low+M*(u2+4294967296*top))/(vlow+M*(next+4294967296*high))<d:=by
 rw[W2r hY]
 have h1:d*(next+4294967296*high)=d*next+4294967296*(d*high):=by rw[W1b,W4u]
 have h2:u2+4294967296*top+1<=d*(next+4294967296*high):=by rw[h1,<-ht];omega
 have h3:=W0t M h2
 rw[W1b M _ 1,W4c] at h3
 have h4:d*(vlow+M*(next+4294967296*high))=d*vlow+M*(d*(next+4294967296*high)):=by rw[W1b,W4u]
 omega
theorem Ycx{low u2 top vlow next high M d r:Nat}(hM:0<M)(hv:vlow<M)(ht:d*high+r=top)(h:d*next<=r*4294967296+u2)(hd:d<4294967296)(hh:0<high):
 d<=(low+M*(u2+4294967296*top))/(vlow+M*(next+4294967296*high))+1:=by
 generalize hY:vlow+M*(next+4294967296*high)=Y
 generalize hU:low+M*(u2+4294967296*top)=U
 have hYp:4294967296*M<=Y:=by
  rw[<-hY,W1b]
  have:M*(4294967296*1)<=M*(4294967296*high):=W0t _ (W0t _ hh)
  omega
 have h1:d*(next+4294967296*high)=d*next+4294967296*(d*high):=by rw[W1b,W4u]
 have h2:d*(next+4294967296*high)<=u2+4294967296*top:=by rw[h1,<-ht];omega
 have h3:=W0t M h2
 have h4:d*Y=d*vlow+M*(d*(next+4294967296*high)):=by rw[<-hY,W1b,W4u]
 have h5:d*vlow<=d*M:=W0t _ (W2h hv)
 have h6:d*M<4294967296*M:=W3c hd hM
 have h7:d*Y<U+Y:=by omega
 have h8:=W2n U Y
 have h9:=W1x U (show 0<Y by omega)
 apply W0s
 intro hn
 have h10:(U/Y+2)*Y<=d*Y:=W0o _ (by omega)
 rw[W1h,W1f (U/Y)] at h10
 omega
theorem Yds{U Y d U1 c P:Nat}(hY:0<Y)(h1:U/Y<=d)(h2:d<=U/Y+1)(h:U1+Y*d=U+P*c)(hc:c<=1)(hU1:U1<P)(hU:U<P):
 (c=0->d=U/Y/\U1=U%Y)/\(c=1->d=U/Y+1/\∀U2 e,U2<P->U2+P*e=U1+Y->e<=1->U2=U%Y):=by
 have hdm:=W2n U Y
 have hm:=W1x U hY
 refine⟨λh0=>?_,λh0=>?_⟩
 . subst h0
   have hd:d=U/Y:=by
    apply W0s
    intro hn
    have:d=U/Y+1:=by omega
    rw[this,W1b,W4c] at h
    omega
   rw[hd] at h
   exact⟨hd,by omega⟩
 . subst h0
   have hd:d=U/Y+1:=by
    apply W0s
    intro hn
    have:d=U/Y:=by omega
    rw[this] at h
    omega
   refine⟨hd,λU2 e hU2 he he1=>?_⟩
   rw[hd,W1b,W4c] at h
   rcases W2s e with h0 | h0
   . subst h0;omega
   . have:e=1:=by omega
     subst this;omega
theorem Xf3{l:List Nat}{q i x:Nat}(h:q+i<l.length): val (((l.set (q+i) x).drop q).take (i+1))=val ((l.drop q).take i)+4294967296^i*x:=by
 have e:(l.set (q+i) x).drop q=(l.drop q).set i x:=by
  rw[List.drop_set,if_neg (by omega),W3o]
 rw[e,Xbk (by rw[W1j];omega)]
theorem Xca{l:List Nat}{q i u:Nat}(h:l[q+i]?=some u): val ((l.drop q).take (i+1))=val ((l.drop q).take i)+4294967296^i*u :=
 Xac (by rw[W1q];exact h)
end Go.Num
namespace Go.Vm
open Go
def gw0(w:World): GW:=⟨w,λ_ _=>False,λ_ _ h=>h.elim⟩
def Reads(P:Program)(t:TypeId)(r:D->Prop): Prop:=∀(w:World) {H:Type} {enc:TypeId×Value->H} {spare:Nat->Bool} {held:Bool} {fuel:Nat} {cs:List Value} {x:DataW H×List MemPlace},
 DataW.trod enc P w 0 spare held fuel t cs=some x->∃d,r d/\D.At (gw0 w) d cs
theorem Reads.mono{P:Program}{t:TypeId}{r s:D->Prop}(h:Reads P t r)(hr:∀d,r d->s d): Reads P t s:=λw _ _ _ _ _ _ _ hx=>let ⟨d,h1,h2⟩:=h w hx;⟨d,hr d h1,h2⟩
theorem Xiu{P:Program}{t:TypeId}{k:IntKind}(ht:P.underlying t=some (.int k))(hk:∀n,(Lit.int k n).wf=true->inR k n): Reads P t λd=>∃z,d=.int k z/\(Lit.int k z).wf=true:=λw _ _ _ _ _ _ _ h =>
 let ⟨n,h1,_,h2⟩:=DataW.trod_int ht h
 ⟨_,⟨n,rfl,h2⟩,h1,hk n h2⟩
theorem Ydc{n:Int}(h:(Lit.int .u8 n).wf=true): 0<=n/\n<256:=by
 simp[Lit.wf,IntKind.min,IntKind.max,IntKind.signed,IntKind.bits] at h;omega
theorem Ygt{n:Int}(h:(Lit.int .i8 n).wf=true): -128<=n/\n<128:=by
 simp[Lit.wf,IntKind.min,IntKind.max,IntKind.signed,IntKind.bits] at h;omega
theorem Ya8{n:Int}(h:(Lit.int .i64 n).wf=true): -9223372036854775808<=n/\n<9223372036854775808:=by
 simp[Lit.wf,IntKind.min,IntKind.max,IntKind.signed,IntKind.bits] at h;omega
theorem Xgc{P:Program}{t:TypeId}(ht:P.underlying t=some (.int .u8)): Reads P t λd=>∃n:Nat,d=.int .u8 n/\n<256 :=
 (Xiu ht λn h=>by
  have:=Ydc h
  show IntKind.u8.wrap n=n
  simp[IntKind.wrap,IntKind.bits,IntKind.signed];omega).mono λd ⟨z,e,h⟩=>⟨z.toNat,by rw[e,W2v (Ydc h).1],by have:=Ydc h;omega⟩
theorem Xy9{P:Program}{t:TypeId}(ht:P.underlying t=some (.int .i8)): Reads P t λd=>∃n:Int,d=.int .i8 n/\-128<=n/\n<128 :=
 (Xiu ht λn h=>by
  have:=Ygt h
  have e:IntKind.i8.wrap n=if n%256>=128 then n%256-256 else n%256:=by simp[IntKind.wrap,IntKind.bits,IntKind.signed]
  show IntKind.i8.wrap n=n
  rw[e];split<;>omega).mono λd ⟨z,e,h⟩=>⟨z,e,Ygt h⟩
theorem Xmu{P:Program}{t:TypeId}(ht:P.underlying t=some (.int .i64)): Reads P t λd=>∃n:Int,d=.int .i64 n/\-9223372036854775808<=n/\n<9223372036854775808 :=
 (Xiu ht λn h=>Num.wI (Ya8 h)).mono λd ⟨z,e,h⟩=>⟨z,e,Ya8 h⟩
theorem Xfm{P:Program}{t e:TypeId}{r:D->Prop}{sz:Nat}(ht:P.underlying t=some (.slice e))(he:Reads P e r)(hs:P.cellsOf e=sz)(h0:0<sz): Reads P t λd=>∃l:List D,d=.sl sz l/\l.length<9223372036854775808/\∀y∈l,r y:=by
 intro w H enc spare held fuel cs x h
 rcases DataW.trod_slice ht h with ⟨h1,_⟩ | ⟨a,len,cap,elems,rest,n,_,h1,_,hb,hl,hm,hlen,hel,_,_⟩
 . exact⟨_,⟨[],rfl,by decide,λy hy=>nomatch hy⟩,none,0,h1,by decide,by decide,.inl rfl⟩
 . have hcap:cap<9223372036854775808:=by
    have:maxLen<9223372036854775808:=by decide
    omega
   have hdat:∀i,i<len->∃cs' y,w.cells? 0 (a.add (i*P.cellsOf e)) (P.cellsOf e)=some cs'/\r y/\D.At (gw0 w) y cs':=λi hi=>by
    have h2:=hel i hi
    rw[W0c (by omega)] at h2
    obtain⟨cs',h3,h4⟩:=Option.bind_eq_some_iff.1 h2
    obtain⟨y,h5,h6⟩:=he w h4
    exact⟨cs',y,h3,h5,h6⟩
   have hlist:∀k,k<=len->∃ys:List D,ys.length=k/\∀i y,ys[i]?=some y->r y/\∃cs',w.cells? 0 (a.add (i*P.cellsOf e)) (P.cellsOf e)=some cs'/\D.At (gw0 w) y cs':=by
    intro k
    induction k with
    | zero=>intro _;exact⟨[],rfl,λi y h=>nomatch h⟩
    | succ k ih =>
     intro hk
     obtain⟨ys,h1,h2⟩:=ih (by omega)
     obtain⟨cs',y,h3,h4,h5⟩:=hdat k (by omega)
     refine⟨ys++[y],by simp[h1],λi z hz=>?_⟩
     by_cases hik:i<k
     . rw[W0r (by omega)] at hz;exact h2 i z hz
     . rw[W0q (by omega)] at hz
       by_cases hie:i=k
       . subst hie
         rw[h1,W3b] at hz
         injection hz with hz
         subst hz
         exact⟨h4,cs',h3,h5⟩
       . rw[W2f (by simp;omega)] at hz;cases hz
   obtain⟨ys,hy1,hy2⟩:=hlist len (W0b _)
   refine⟨_,⟨ys,rfl,by omega,λy hy=>?_⟩,some a,cap,by rw[h1,hy1],by omega,by omega,?_⟩
   . obtain⟨i,hi⟩:=W2w hy
     exact(hy2 i y hi).1
   by_cases hz:len=0
   . exact .inl (W0n (by omega))
   obtain⟨y0,hy0⟩:∃y,ys[0]?=some y:=⟨_,W0c (by omega)⟩
   obtain⟨_,cs0,h3,h4⟩:=hy2 0 y0 hy0
   obtain⟨_,hl0,hc0⟩:=World.cells?_some h3
   have hcell0:=hc0 0 (by omega)
   have e0:(a.add (0*P.cellsOf e)).add 0=a:=by rw[W4x];rfl
   rw[e0] at hcell0
   obtain⟨v0,hv0⟩:∃v,cs0[0]?=some v:=⟨_,W0c (by omega)⟩
   rw[hv0] at hcell0
   have hsp:a.spot=none:=by
    unfold World.cell? at hcell0
    split at hcell0
    . split at hcell0
      . cases hcell0
      . rename_i hs;cases hh:a.spot with
        | none=>rfl
        | some s=>rw[hh] at hs;simp at hs
    . cases hcell0
   obtain⟨b,off,sp⟩:=a
   have hsp':sp=none:=hsp
   subst hsp'
   have add0:∀(b off k:Nat),(⟨b,off,none⟩:Addr).add k=⟨b,off+k,none⟩:=λb off k=>by
    unfold Addr.add;split
    . rename_i h;subst h;rfl
    . rfl
   refine .inr ⟨b,off,rfl,?_⟩
   have row:∀(ys:List D) (k:Nat),(∀i y,ys[i]?=some y->∃cs',w.cells? 0 ((⟨b,off,none⟩:Addr).add ((k+i)*P.cellsOf e)) (P.cellsOf e)=some cs'/\D.At (gw0 w) y cs')->D.Row (gw0 w) b sz (off+k*sz) ys:=by
    intro ys
    induction ys with
    | nil=>intro k _;trivial
    | cons y ys ih =>
     intro k hh
     obtain⟨cs',h5,h6⟩:=hh 0 y rfl
     obtain⟨_,hl1,hc1⟩:=World.cells?_some h5
     refine⟨⟨cs',h6,by rw[<-D.at_len y h6,hl1,hs],λj v hj=>⟨?_,λh=>h⟩⟩,?_⟩
     . have hjl:j<P.cellsOf e:=by
        rw[<-hl1]
        by_cases h:j<cs'.length
        . exact h
        . rw[W2f (by omega)] at hj;cases hj
       have:=hc1 j hjl
       rw[add0,add0,hj,hs,W2j] at this
       exact this
     . have:=ih (k+1) λi y hi=>by
        obtain⟨cs',h5,h6⟩:=hh (i+1) y hi
        exact⟨cs',by rw[show k+1+i=k+(i+1) by omega];exact h5,h6⟩
       rw[W1h,W7i,<-W4p] at this
       exact this
   have:=row ys 0 λi y hi=>by
    rw[W1k];exact(hy2 i y hi).2
   rw[W4x,W2j] at this
   exact this
inductive FieldsRd (P:Program):List Field->Nat->(D->Prop)->Prop where
 | one {f:Field} {o:Nat} {r:D->Prop} (h1:f.offset=o) (h2:Reads P f.type r):FieldsRd P [f] o r
 | cons {f:Field} {fs:List Field} {o n:Nat} {r s:D->Prop} (h1:f.offset=o) (h2:Reads P f.type r) (h3:P.cellsOf f.type=n) (h4:FieldsRd P fs (o+n) s):FieldsRd P (f::fs) o (λd=>∃a c,d=.pr a c/\r a/\s c)
theorem FieldsRd.read{P:Program}{fs:List Field}{o:Nat}{r:D->Prop}(hf:FieldsRd P fs o r){w:World}{H:Type}{enc:TypeId×Value->H}{spare:Nat->Bool}{held:Bool}{n:Nat}{cs:List Value}
 (h:∀f∈fs,∃x,DataW.trod enc P w 0 spare held n f.type ((cs.drop f.offset).take (P.cellsOf f.type))=some x) (hl:∀f∈fs.getLast?,cs.length=f.offset+P.cellsOf f.type):∃d,r d/\D.At (gw0 w) d (cs.drop o):=by
 induction hf with
 | @one f o r h1 h2 =>
  obtain⟨x,hx⟩:=h f (W1a ..)
  have:=hl f rfl
  rw[W0a (by rw[W1j];omega),h1] at hx
  exact h2 w hx
 | @cons f fs o n r s h1 h2 h3 h4 ih =>
  obtain⟨x,hx⟩:=h f (W1a ..)
  rw[h1,h3] at hx
  obtain⟨i,hi,hi'⟩:=h2 w hx
  obtain⟨j,hj,hj'⟩:=ih (λg hg=>h g (W1c _ hg)) λg hg=>hl g (by cases fs with | nil=>cases hg | cons y ys=>rwa[List.getLast?_cons_cons])
  exact⟨.pr i j,⟨i,j,rfl,hi,hj⟩,_,_,by rw[<-W5x,W5a],hi',hj'⟩
theorem Xen{P:Program}{t:TypeId}{fs:Array Field}{r:D->Prop}(ht:P.underlying t=some (.struct fs))(hf:FieldsRd P fs.toList 0 r)(hs:∀f∈fs.toList.getLast?,P.cellsOf t=f.offset+P.cellsOf f.type): Reads P t λd=>∃a,d=.st a/\r a:=by
 intro w H enc spare held fuel cs x h
 obtain⟨xs,n,_,_,hl,hxl,hx⟩:=DataW.trod_struct ht h
 obtain⟨d,h1,h2⟩:=hf.read (w:=w) (enc:=enc) (spare:=spare) (held:=held) (n:=n) (cs:=cs) (λf hfm=>by
  obtain⟨i,hi⟩:=W2w hfm
  have hi':fs[i]?=some f:=by simpa using hi
  have hil:i<fs.size:=by
   by_cases h:i<fs.size
   . exact h
   . rw[W3x (by omega)] at hi';cases hi'
  exact⟨_,(hx i f hi').trans (W0c (by omega))⟩) (λf hf=>by rw[hl,hs f hf])
 exact⟨.st d,⟨d,rfl,h1⟩,h2⟩
end Go.Vm
namespace Go.Proofs.YtegepebhkhhhoaaGreatDoor
open Go Go.Vm
def Yo9: List (Nat×TI):=[(2,⟨.int .i64 0,.bool false,0,0⟩),(3,⟨.int .i64 0,.bool false,0,0⟩),(4,⟨.bool false,.bool false,0,0⟩),(5,⟨.int .u8 0,.bool false,0,0⟩),(9,⟨.str [],.bool false,0,0⟩),(23,⟨.sl 5 [],.st (.pr (.int .u8 0) (.pr (.int .u8 0) (.pr (.int .u8 0) (.pr (.int .i8 0) (.int .u8 0))))),5,0⟩),(24,⟨.sl 1 [],.int .u8 0,1,0⟩),(26,⟨.st (.pr (.sl 5 []) (.sl 1 [])),.bool false,0,0⟩),(27,⟨.sl 1 [],.int .i64 0,8,0⟩),(29,⟨.st (.pr (.st (.pr (.sl 5 []) (.sl 1 []))) (.sl 1 [])),.bool false,0,0⟩),(31,⟨.sl 1 [],.sl 4 [],24,0⟩),(32,⟨.sl 4 [],.st (.pr (.st (.pr (.bool false) (.sl 1 []))) (.st (.pr (.bool false) (.sl 1 [])))),64,0⟩),(34,⟨.st (.pr (.sl 1 []) (.sl 4 [])),.bool false,0,0⟩),(35,⟨.sl 7 [],.st (.pr (.st (.pr (.sl 1 []) (.sl 4 []))) (.st (.pr (.st (.pr (.st (.pr (.sl 1 []) (.sl 4 []))) (.st (.pr (.sl 1 []) (.sl 4 []))))) (.int .i64 0)))),152,0⟩),(37,⟨.st (.pr (.st (.pr (.sl 1 []) (.sl 4 []))) (.sl 7 [])),.bool false,0,0⟩),(38,⟨.sl 4 [],.st (.pr (.st (.pr (.sl 1 []) (.sl 4 []))) (.st (.pr (.sl 1 []) (.sl 4 [])))),96,0⟩),(43,⟨.int .i64 0,.bool false,0,0⟩),(48,⟨.st (.pr (.st (.pr (.sl 1 []) (.sl 4 []))) (.st (.pr (.sl 1 []) (.sl 4 [])))),.bool false,0,0⟩),(50,⟨.st (.pr (.st (.pr (.st (.pr (.sl 1 []) (.sl 4 []))) (.st (.pr (.sl 1 []) (.sl 4 []))))) (.int .i64 0)),.bool false,0,0⟩),(62,⟨.st (.pr (.st (.pr (.sl 1 []) (.sl 4 []))) (.st (.pr (.st (.pr (.st (.pr (.sl 1 []) (.sl 4 []))) (.st (.pr (.sl 1 []) (.sl 4 []))))) (.int .i64 0)))),.bool false,0,0⟩)]
def Yo8: List (Nat×TI):=[(66,⟨.raw (.pointer none),.bool false,0,0⟩),(68,⟨.st (.int .i64 0),.bool false,0,0⟩),(76,⟨.raw .nilFunc,.bool false,0,0⟩),(82,⟨.sl 1 [],.int .u32 0,4,0⟩),(84,⟨.st (.pr (.bool false) (.sl 1 [])),.bool false,0,0⟩),(86,⟨.st (.pr (.st (.pr (.bool false) (.sl 1 []))) (.st (.pr (.bool false) (.sl 1 [])))),.bool false,0,0⟩),(98,⟨.st (.pr (.st (.pr (.st (.pr (.bool false) (.sl 1 []))) (.st (.pr (.bool false) (.sl 1 []))))) (.st (.pr (.st (.pr (.bool false) (.sl 1 []))) (.st (.pr (.bool false) (.sl 1 [])))))),.bool false,0,0⟩),(113,⟨.raw .nilFunc,.bool false,0,0⟩),(140,⟨.sl 2 [],.st (.pr (.sl 1 []) (.sl 4 [])),48,0⟩),(156,⟨.raw .nilFunc,.bool false,0,0⟩),(163,⟨.int .u64 0,.bool false,0,0⟩),(166,⟨.raw .nilFunc,.bool false,0,0⟩),(175,⟨.int .u32 0,.bool false,0,0⟩),(176,⟨.int .u64 0,.bool false,0,0⟩),(177,⟨.raw (.pointer none),.bool false,0,0⟩),(179,⟨.st (.pr (.raw (.pointer none)) (.sl 1 [])),.bool false,0,0⟩),(204,⟨.int .i8 0,.bool false,0,0⟩),(206,⟨.st (.pr (.int .u8 0) (.pr (.int .u8 0) (.pr (.int .u8 0) (.pr (.int .i8 0) (.int .u8 0))))),.bool false,0,0⟩),(215,⟨.st (.pr (.sl 1 []) (.sl 1 [])),.bool false,0,0⟩),(229,⟨.raw .nilFunc,.bool false,0,0⟩)]
def Yo7: List (Nat×TI):=[(234,⟨.raw (.pointer none),.bool false,0,0⟩),(257,⟨.raw .nilFunc,.bool false,0,0⟩),(269,⟨.st (.pr (.int .u8 0) (.pr (.int .u8 0) (.pr (.int .u8 0) (.pr (.int .u8 0) (.pr (.int .u8 0) (.pr (.int .u8 0) (.pr (.int .u8 0) (.pr (.int .u8 0) (.pr (.int .u8 0) (.pr (.int .u8 0) (.pr (.int .u8 0) (.pr (.int .u8 0) (.pr (.int .u8 0) (.pr (.int .u8 0) (.pr (.int .u8 0) (.pr (.int .u8 0) (.pr (.int .u8 0) (.pr (.int .u8 0) (.pr (.int .u8 0) (.pr (.int .u8 0) (.pr (.int .u8 0) (.pr (.int .u8 0) (.pr (.int .u8 0) (.int .u8 0)))))))))))))))))))))))),.int .u8 0,1,24⟩),(299,⟨.st (.pr (.int .u64 0) (.pr (.int .u64 0) (.pr (.int .u64 0) (.pr (.int .u64 0) (.pr (.int .u64 0) (.pr (.int .u64 0) (.pr (.int .u64 0) (.pr (.int .u64 0) (.pr (.int .u64 0) (.pr (.int .u64 0) (.pr (.int .u64 0) (.pr (.int .u64 0) (.pr (.int .u64 0) (.pr (.int .u64 0) (.pr (.int .u64 0) (.pr (.int .u64 0) (.pr (.int .u64 0) (.pr (.int .u64 0) (.pr (.int .u64 0) (.int .u64 0)))))))))))))))))))),.int .u64 0,8,20⟩),(300,⟨.st (chD (.int .u8 0) 64),.int .u8 0,1,65⟩),(306,⟨.st (chD (.int .u8 0) 31),.int .u8 0,1,32⟩),(307,⟨.st (chD (.int .u8 0) 63),.int .u8 0,1,64⟩)]
def Yo6: List (Nat×TI):=Yo9++Yo8++Yo7
theorem Xt0: (Yo6.all λx=>tyB Tryz.prog x.1 x.2)=true:=by kernel_rfl
instance:Mx Tryz.prog:=⟨Checked.mixed Tryz.checked⟩
instance:Gb Tryz.prog:=⟨λW=>∀i,i<20->Fr W 0 i (.int .u64 ((10^i:Nat):Int)),λ_ _ l h i hi=>l _ _ _ (h i hi)⟩
instance:Tab Tryz.prog:=⟨Vm.look Yo6,λT ti h=>(Ybi Xt0 T ti h).1⟩
instance:Npr Tryz.prog:=⟨λT ti h=>(Ybi Xt0 T ti h).2⟩
end Go.Proofs.YtegepebhkhhhoaaGreatDoor
namespace Go.Vm
open Go Go.ChangeShapes Go.WideShapes Go.ChangeAt Go.RowKit
def Arg(P:Program)(t:TypeId)(r:D->Prop): Prop:=∀(W:World) (base:Nat) {H:Type} {enc:TypeId×Value->H} {spare:Nat->Bool} {held:Bool} {v:Value} {d:DataW H} {p:List MemPlace},
 Value.okWide P W .any base t v->DataW.Trod enc P W 0 spare held t v d p->∃x,r x/\AV.V (gw0 W) θe (.d x) v
theorem Xs1{P:Program}{t:TypeId}{fs:Array Field}{r:D->Prop}(ht:P.underlying t=some (.struct fs))(hr:Reads P t r)(hg:∀x,r x->x.ag=true): Arg P t r:=λW base _ _ _ _ v d p hok h=>by
 unfold Value.okWide at hok
 rw[ht] at hok
 obtain⟨cs,rfl,_⟩:=hok
 obtain⟨fuel,h⟩:=h
 obtain⟨x,h1,h2⟩:=hr W h
 exact⟨x,h1,cs.toList,h2,by rw[show AV.ag (.d x)=true from hg x h1];simp[mkv]⟩
theorem Yf2{P:Program}{t:TypeId}{k:IntKind}{r:D->Prop}(ht:P.underlying t=some (.int k))(hr:Reads P t r)(hg:∀x,r x->x.ag=false): Arg P t r:=λW base _ _ _ _ v d p hok h=>by
 obtain⟨z,rfl⟩:=okWide_int ht hok
 obtain⟨fuel,h⟩:=h
 obtain⟨x,h1,h2⟩:=hr W h
 exact⟨x,h1,_,h2,by rw[show AV.ag (.d x)=false from hg x h1];rfl⟩
inductive Args (P:Program):List TypeId->(List D->Prop)->Prop where
 | nil:Args P [] (·=[])
 | cons {t:TypeId} {ts:List TypeId} {r:D->Prop} {R:List D->Prop} (h:Arg P t r) (hc:P.readableRec t=true) (hl:t<P.types.size) (k:Args P ts R):Args P (t::ts) λds=>∃x xs,ds=x::xs/\r x/\R xs
theorem Args.read{P:Program}{ts:List TypeId}{R:List D->Prop}(ha:Args P ts R){W:World}{base:Nat}{H:Type}{enc:TypeId×Value->H}{spare:Nat->Bool}{held:Bool}: ∀ {vs:List Value} {ds:List (DataW H)} {p:List MemPlace},
 (∀(j:Nat) t v,ts[j]?=some t->vs[j]?=some v->Value.okWide P W .any base t v)->DataW.TrodAll enc P W 0 spare held ts vs ds p->∃xs,R xs/\Xjo (gw0 W) θe (xs.map .d) vs:=by
 induction ha with
 | nil=>intro vs ds p _ h;obtain⟨rfl,_⟩:=trodAll_nil h;exact⟨[],rfl,trivial⟩
 | cons h hc hl k ih =>
  intro vs ds p hv ht
  obtain⟨v,vs,d,ds',p,q,rfl,rfl,rfl,hd,hr⟩:=trodAll_cons ht
  obtain⟨x,h1,h2⟩:=h W base (hv 0 _ v rfl rfl) hd
  obtain⟨xs,h3,h4⟩:=ih (λj t v h5 h6=>hv (j+1) t v h5 h6) hr
  exact⟨x::xs,⟨x,xs,rfl,h1,h3⟩,h2,h4⟩
theorem Args.stay{P:Program}(hP:laidOutB P=true){ts:List TypeId}{R:List D->Prop}(ha:Args P ts R){W W':World}{H:Type}{enc:TypeId×Value->H}{spare':Nat->Bool}(hb:Below W.heap.size W W'): ∀ {vs:List Value} {ds:List (DataW H)} {p:List MemPlace},
 (∀x∈p,x.block<W.heap.size)->(∀x∈p,spare' x.block=true)->DataW.TrodAll enc P W 0 (λ_=>true) true ts vs ds p->DataW.TrodAll enc P W' 0 spare' true ts vs ds p:=by
 induction ha with
 | nil=>intro vs ds p _ _ h;obtain⟨rfl,rfl,rfl⟩:=trodAll_nil h;rfl
 | cons h hc hl k ih =>
  intro vs ds p h1 h2 ht
  obtain⟨v,vs,d,ds',p,q,rfl,rfl,rfl,hd,hr⟩:=trodAll_cons ht
  exact⟨p,q,WideElems.Trod_stays hP hc hl hd (λx hx=>hb.same (h1 x (by simp[hx]))) (λx hx=>h2 x (by simp[hx])),ih (λx hx=>h1 x (by simp[hx])) (λx hx=>h2 x (by simp[hx])) hr,rfl⟩
theorem Xlh{H:Type}{enc:TypeId×Value->H}{P:Program}{f:Func}{s:ChangeSpec}{Xb4 fresh handsOn again:Bool}{W W':World}{args:Array Value}{v:Value}{ds gs:List (DataW H)}{before pa pv:List MemPlace}
 (hW:DataW.Whole enc P f.params.toList s.vars Xb4 W args.toList ds gs before)
 (hres:∀(b:Nat) (sp:Nat->Bool) (hd:Bool),DataW.TrodAll enc P W' b sp hd f.resultTypes.toList (v.resultList f.resultTypes.size) (s.fn H (ds++gs)).results [])
 (hargs:∀sp:Nat->Bool,(∀p∈before,sp p.block=true)->DataW.TrodAll enc P W' 0 sp true f.params.toList args.toList (s.fn H (ds++gs)).args pa)
 (hvars:∀sp:Nat->Bool,(∀p∈before,sp p.block=true)->DataW.TrodVars enc P W' sp s.vars (s.fn H (ds++gs)).vars pv)
 (hps:before=pa++pv) (hb:Below W.heap.size W W')
 (hok:∀(j:Nat) (t:TypeId) (r:Value),f.resultTypes[j]?=some t->(v.resultList f.resultTypes.size)[j]?=some r->Value.okWide P W' .any 0 t r) :
 s.post enc P f Xb4 fresh handsOn again W args v W':=by
 have hlt:=hW.lt
 have hold:∀p∈before,(λb=>decide (b<W.heap.size)) p.block=true:=λp hp=>by simpa using hlt p hp
 refine⟨ds,gs,before,[],pa,pv,hW,hres _ _ _,hargs _ hold,hvars _ hold,World.keptBut_mono (λp hp=>⟨hp,?_⟩) (hb.frame (·∈before)),λ_=>?_⟩
 . rw[hps,W1v] at hp
   exact Or.inr hp
 . obtain⟨_,_,_,_,_,hz,hn⟩:=hW
   refine⟨hok,_,_,([]++pa)++pv,⟨[]++pa,pv,trodAll_append (hargs _ (λ_ _=>rfl)) (hres _ _ _),hvars _ (λ_ _=>rfl),rfl,?_,?_⟩,?_⟩
   . intro b off hp
     have hp':MemPlace.cell b off∈before:=by rw[hps];simpa using hp
     rw[hb.frozen (hlt _ hp')]
     exact hz b off hp'
   . intro ha
     have:=hn ha
     rw[hps] at this
     simpa using this
   . intro p hp _
     rw[hps]
     simpa using hp
theorem Ypl{P:Program}[gb:Gb P](hP:laidOutB P=true){tB:TypeId}(hB:P.underlying tB=some .bool){f:FuncId}{fn:Func}{s:ChangeSpec}{H:Type}{enc:TypeId×Value->H}{R:List D->Prop}(hp:Args P fn.params.toList R)(hr:fn.resultTypes=#[tB])(hv0:s.vars=[])
 (hs:∀ds:List (DataW H),ds.length=fn.params.size->s.fn H ds={ results:=[.lit (.bool true)],args:=ds })
 (law:∀xs,R xs->C P f (xs.map .d) (·=.b true))
 (W:World) (base:Nat) (args:Array Value) (ds gs:List (DataW H)) (before:List MemPlace)
 (hval:∀(j:Nat) t v,fn.params[j]?=some t->args[j]?=some v->Value.okWide P W .any base t v)
 (hW:DataW.Whole enc P fn.params.toList s.vars false W args.toList ds gs before) (hgb:gb.g (gw0 W)) :
 Calls P f args W λe W'=>∃v,e=.returned v/\s.post enc P fn false true false false W args v W':=by
 have hW':=hW
 have hlt:=hW.lt
 rw[hv0] at hW
 obtain⟨p,q,hA,hV,rfl,hfz,hnd⟩:=hW
 obtain⟨rfl,rfl⟩:=trodVars_none hV
 obtain⟨xs,h1,h2⟩:=hp.read (λj t v ht hv=>hval j t v (by simpa using ht) (by simpa using hv)) hA
 have hlen:ds.length=fn.params.size:=by
  have:∀ {sp:Nat->Bool} {hd:Bool} {ts:List TypeId} {vs:List Value} {ds:List (DataW H)} {p:List MemPlace},DataW.TrodAll enc P W 0 sp hd ts vs ds p->ds.length=ts.length:=by
   intro sp hd ts
   induction ts with
   | nil=>intro vs ds p h;obtain⟨_,rfl,_⟩:=trodAll_nil h;rfl
   | cons t ts ih=>intro vs ds p h;obtain⟨_,_,_,_,_,_,_,rfl,_,_,h⟩:=trodAll_cons h;simp[ih h]
  rw[this hA];simp
 have hfn:s.fn H (ds++[])={ results:=[.lit (.bool true)],args:=ds }:=by rw[W3t];exact hs ds hlen
 have hc:=(law xs h1).2 (gw0 W) args.toList hgb h2
 rw[show args.toList.toArray=args by simp] at hc
 refine hc.mono ?_
 rintro e w' ⟨W1,v1,u,rfl,rfl,hF,hv,_,rfl⟩
 have hb:Below W.heap.size W W1.w:=⟨hF.os,hF.tape,hF.out,hF.size,λk hk=>hF.same k hk id⟩
 have hu:u=.bool true:=by
  obtain⟨cs,h3,h4⟩:=hv
  have h3:cs=[.bool true]:=h3
  rw[h4,h3];rfl
 subst hu
 refine⟨_,rfl,Xlh (pa:=p) (pv:=[]) hW' (λ_ _ _=>?_) (λsp hsp=>?_) (λ_ _=>?_) (by simp) hb (ok_one hr rfl (okWide_bool_mk hB _))⟩
 . rw[hr,hfn]
   exact trodAll_mk1 (shut_bool hB _)
 . rw[hfn]
   exact hp.stay hP hb (λx hx=>hlt x (by simpa using hx)) (λx hx=>hsp x (by simpa using hx)) hA
 . rw[hv0,hfn];rfl
theorem Xz8{P:Program}{f:FuncId}{fn:Func}{s:ChangeSpec}{c:OpenClaim}
 (h1:(c.wf (OpenSpec.ofChange s)&&laidOutB P&&mapsRowed P)=true)
 (h2:(fn.params.all (P.readableRec ·)&&namedTie P c.named s.vars&&(c.stops == [])&&(P.stops == [])&&(c.knobs == [])&&(P.stopKnobs == []))=true)
 (h3:(c.inPlace==P.inPlace f)=true) (h4:(c.unfollowed==P.unfollowed f)=true) (h5:(c.recurses==P.recurses f)=true) (h6:(c.named==P.varsNamed f)=true)
 (h7:((c.maps==(fn.params.toList++s.plain.varTypes P).any (P.mapsRec ·))&&(c.ifaces==(fn.params.toList++s.plain.varTypes P).any (P.ifacesRec ·))&&(c.mapsOut==P.mapsAmong fn.resultTypes.toList) &&
  (c.loops==(fn.params.toList++s.plain.varTypes P).any (P.loopsFrom ·))&&(c.wideKeys==(fn.params.toList++s.plain.varTypes P++fn.resultTypes.toList).any (P.wideKeysFrom ·)))=true)
 (h8:(s.vars.all (P.varReadable ·)&&fn.resultTypes.all (λt=>P.readableRec t&&decide (t<P.types.size))&&(c.ifacesOut==fn.resultTypes.toList.any (P.ifacesRec ·))&&(c.loopsOut==fn.resultTypes.toList.any (P.loopsFrom ·))&&(c.plainKeys==P.plainKeys)&&c.shortTexts.isNone&&P.stopsHeard&&P.mayEnter)=true)
 (h9:((c.lifted==P.liftsFinal)&&(P.make==some c.make)&&(c.kinds==(if c.domain.isEmpty then [] else fn.params.toList.map λt=>match P.underlying t with | some (.int k)=>some k | _=>none))&&(c.pinned==c.pinnedBy))=true)
 (h10:((c.veiled==(fn.params.toList++s.plain.varTypes P++fn.resultTypes.toList).any (P.veiledRec ·))&&c.veiledFits P fn.params.toList (fn.params.toList++s.plain.varTypes P++fn.resultTypes.toList))=true):joinedFacts P f fn s c=true:=by
 unfold joinedFacts
 rw[W0f] at h10
 simp only[W0f] at h1 h2 h7 h8 h9 |-
 exact⟨⟨⟨⟨⟨⟨⟨⟨⟨⟨⟨⟨⟨⟨⟨⟨⟨⟨⟨⟨⟨⟨⟨⟨⟨⟨⟨⟨⟨⟨⟨h1.1.1,h1.1.2⟩,h1.2⟩,h2.1.1.1.1.1⟩,h2.1.1.1.1.2⟩,h2.1.1.1.2⟩,h2.1.1.2⟩,h2.1.2⟩,h2.2⟩,h3⟩,h4⟩,h5⟩,h6⟩,h7.1.1.1.1⟩,h7.1.1.1.2⟩,h7.1.1.2⟩,h7.1.2⟩,h7.2⟩,h8.1.1.1.1.1.1.1⟩,h8.1.1.1.1.1.1.2⟩,h8.1.1.1.1.1.2⟩,h8.1.1.1.1.2⟩,h8.1.1.1.2⟩,h8.1.1.2⟩,h8.1.2⟩,h8.2⟩,h9.1.1.1⟩,h9.1.1.2⟩,h9.1.2⟩,h9.2⟩,h10.1⟩,h10.2⟩
end Go.Vm
namespace Go.Proofs.YtegepebhkhhhoaaGreatDoor
open Go Go.Vm Go.Num
theorem own: ownKnob Tryz.prog.godebug=none:=by kernel_rfl
theorem Yev: laidOutB Tryz.prog=true:=by kernel_rfl
end Go.Proofs.YtegepebhkhhhoaaGreatDoor

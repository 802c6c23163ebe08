/- part 4 -/
import Derived.Test.YtclgppjdhndgiaaGreatDoorXC
import Derived.Test.YtclgppjdhndgiaaGreatDoorCards
import Derived.Test.YtclgppjdhndgiaaGreatDoorTie
import Derived.Deep.DeepHandedRow
import Derived.Lib.LaidTab
import Derived.MakeChecks
import Derived.Stop.LaidErr
import Derived.Lib.AppendZeros
set_option linter.unusedVariables false
set_option linter.unusedSimpArgs false
set_option maxRecDepth 100000
namespace Go.Vm
open Go
def GW.pub(W:GW)(b m:Nat): GW:=⟨W.w,λb' i=>(b'=b->m<=i)/\W.A b' i,λb' i k=>W.hA b' i k.2⟩
theorem Xuq(W:GW)(b m:Nat): LeF W (W.pub b m):=λ_ _ _ k=>⟨k.1,λhA=>k.2 hA.2⟩
theorem Stp.pub{N:Nat->Prop}{W:GW}{θ:Loc}{g:Hp}(h:Obs W θ N g){o b sz:Nat}{xs:List D}(ho:g o=some (.arr sz xs))(hb:(θ o).1=some b):
 Stp N W (W.pub b (xs.length*sz)) θ θ g (upd g o (.tok xs.length sz)) where
 os:=_root_.rfl
 out:=_root_.rfl
 tape:=_root_.rfl
 size:=W0c _
 same:=λ_ _ _=>_root_.rfl
 A:=λb' _ hn i=>⟨λk=>k.2,λk=>⟨λe=>by subst e;exact absurd (h.new o _ _ ho _root_.rfl hb) hn,k⟩⟩
 le:=Xuq W b _
 th:=λ_ _ _=>_root_.rfl
 hi:=λ_ _=>_root_.rfl
 obs:={
  r:=λo' z hz=>by
   rcases Xae hz with ⟨e1,e2⟩ | ⟨e1,e2⟩
   . subst e1;subst e2
     obtain⟨b',cs,T',r1,r2,r3,r4,r5,r6,r7⟩:=h.r _ _ ho
     rw[hb] at r1;injection r1 with r1;subst r1
     exact⟨r5,r4,.inr ⟨b,cs,T',hb,r2,r3,λi hi=>⟨λ_=>hi,r7 i⟩⟩⟩
   . exact(h.r o' z e2).keep (Xuq W b _) _root_.rfl (λ_ _=>_root_.rfl) λhl b' hb'=>⟨_root_.rfl,λi hA=>⟨λe=>by
      subst e
      exact absurd (h.dis o' o z _ _ e2 ho hl _root_.rfl hb' hb) e1,hA⟩⟩
  new:=λo' z b2 hz hl hb2=>by
   rcases Xae hz with ⟨e1,e2⟩ | ⟨e1,e2⟩
   . subst e1;exact h.new _ _ b2 ho _root_.rfl hb2
   . exact h.new o' z b2 e2 hl hb2
  dis:=λo1 o2 y1 y2 b h1 h2 l1 l2 b1 b2=>by
   rcases Xae h1 with ⟨e1,f1⟩ | ⟨e1,f1⟩<;>rcases Xae h2 with ⟨e2,f2⟩ | ⟨e2,f2⟩
   . rw[e1,e2]
   . subst e1;exact h.dis _ _ _ _ b ho f2 _root_.rfl l2 b1 b2
   . subst e2;exact h.dis _ _ _ _ b f1 ho l1 _root_.rfl b1 b2
   . exact h.dis o1 o2 y1 y2 b f1 f2 l1 l2 b1 b2
  ids:=λo' z i hz hzi=>by
   have:∃w,g i=some w:=by
    rcases Xae hz with ⟨e1,e2⟩ | ⟨e1,e2⟩
    . subst e2;exact hzi.elim
    . exact h.ids o' z i e2 hzi
   obtain⟨w,hw⟩:=this
   by_cases e:i=o
   . subst e;exact⟨_,Xai _ _ _⟩
   . exact⟨w,by rw[Xam e];exact hw⟩ }
 dom:=λi y hy=>by
  by_cases e:i=o
  . subst e;exact⟨_,Xai _ _ _⟩
  . exact⟨y,by rw[Xam e];exact hy⟩
section
variable{c:Cx}{s:St}
noncomputable def Yor(tb:Nat->Option TI)(n t:Nat)(s:St): Option (List Kt×Env×Hpl×Nat×Nat×Nat×List D):=match runN tb n 1000 s with
 | .j _ K E H=>match look E t with
  | some (.own o sz 0 n)=>match look H o with
   | some (.arr sz' xs)=>match Nat.beq sz sz' with
    | true=>some (K,E,H,o,sz,n,xs)
    | false=>none
   | _=>none
  | _=>none
 | _=>none
theorem Og(t:Nat){K:List Kt}{E:Env}{H:Hpl}{o sz n:Nat}{xs:List D}(h:Yor c.tb c.n t s=some (K,E,H,o,sz,n,xs))(hn:n=xs.length)(k:StP c (.j [] K ((t,.gr o sz xs)::E) ((o,.tok xs.length sz)::H))): StP c s:=by
 unfold Yor at h
 split at h<;>try cases h
 rename_i hr
 split at h<;>try cases h
 rename_i he
 split at h<;>try cases h
 rename_i ho
 split at h<;>cases h
 rename_i hz
 have hz:=W0e hz
 subst hz;subst hn
 refine go 1000 hr ?_
 rintro a w ⟨s0,W,θ,hw,hs,hθ,rfl⟩
 obtain⟨b,bs,T',r1,r2,r3,r4,r5,r6,r7⟩:=hs.obs.r _ _ ho
 have st:=Stp.pub hs.obs ho r1
 have h1:=hs.step0 st
 refine k a w ⟨_,W.pub b (xs.length*sz),θ,hw,?_,hθ,rfl⟩
 rw[show sem ((t,AV.gr o sz xs)::E) ((o,Ob.tok xs.length sz)::H)=(upd (look E) t (.gr o sz xs),upd (look H) o (.tok xs.length sz)) by rw[Xa6,Xa6]]
 refine⟨h1.fm,⟨h1.rel.defers,h1.rel.size,λq v hq=>?_⟩,h1.obs,λq v i hq hi=>?_⟩
 . rcases Xae hq with ⟨e1,e2⟩ | ⟨e1,e2⟩
   . subst e1;subst e2
     have hv:=hs.rel.has q _ he
     obtain⟨b1,p,v1,v2,v3,e,v5⟩:=Xlm hv
     rw[r1] at v1;injection v1 with v1;subst v1
     rw[e]
     rw[W7a]
     refine Yfo rfl rfl (.inr (by rw[v5 (.inl rfl),W4x,r1];rfl)) r5 r4 (.inr ⟨b,r1,?_⟩)
     have hlen:∀q u,(bs.take (xs.length*sz))[q]?=some u->q<xs.length*sz/\bs[q]?=some u:=λq u hu=>by
      rw[W1j] at hu
      split at hu
      . exact⟨by assumption,hu⟩
      . cases hu
     refine(AtL.mono (Xuq W b _) (sz:=sz) (xs:=xs) (cs:=bs.take (xs.length*sz)) (AtL.ext r6 λq v hq hv=>by rw[W1j,if_pos hq];exact hv)).row λq u hq hu=>?_
     rw[W1k]
     exact⟨show W.w.cell? _=_ by rw[Xbf r2];exact(hlen q u hu).2,λhA=>by have:=hA.1 rfl;omega⟩
   . exact h1.rel.has q v e2
 . rcases Xae hq with ⟨e1,e2⟩ | ⟨e1,e2⟩
   . subst e2
     have hi:i=o:=hi
     subst hi
     exact⟨_,Xai _ _ _⟩
   . exact h1.ids q v i e2 hi
end
end Go.Vm
namespace Go.Proofs.YtclgppjdhndgiaaGreatDoor.R6
open Go Go.Vm Go.Num Go.Tow Go.Proofs.YtclgppjdhndgiaaGreatDoor
theorem Yg4{x y:Rat}{p q:Nat}(hx:Qs p x)(hy:Qs q y)(h:p+q+1<=8796093022208): C0 338 [.d (dts []),.d (dqs [x]),.d (dqs [y])] (·=.lit 4 [dq (x*y)]):=by
 refine En Tryz.func338 λ_ _ _=>?_
 refine Yes rfl rfl ?_
 refine Dw rfl ?_
 refine Ix 0 rfl (u:=dq x) rfl ?_
 refine Ix 0 rfl (u:=dq y) rfl ?_
 refine Ce rfl (R2.Mul_ok hx hy h) ?_
 exact R0
theorem Ybd{k:Nat}(muld:∀ {r s s':Nat} {t:Tw k} {a b:Tow.El k},TS r k t->Sz s (toL k a)->Sz s' (toL k b)->k<=16->s+s'+cB r k<=4398046511104->C0 338 [.d (dt t),.d (de a),.d (de b)] (·=.d (de (mul k t a b))))
 (ihk:∀ {r s s':Nat} {t:Tw k} {a b:Tow.El k},TS r k t->Sz s (toL k a)->Sz s' (toL k b)->k<=16->s+s'+cB r k<=4398046511104->C0 338 [.d (dt t),.d (de a),.d (de b)] (·=.lit 4 ((toL k (mul k t a b)).map dq))\/CG0 338 [.d (dt t),.d (de a),.d (de b)] 4 ((toL k (mul k t a b)).map dq))
 {r s s':Nat} {t:Tw (k+1)} {a b:Tow.El (k+1)} (hT:TS r (k+1) t) (ha:Sz s (toL (k+1) a)) (hb:Sz s' (toL (k+1) b)) (hk:k+1<=16) (hs:s+s'+cB r (k+1)<=4398046511104):CG0 338 [.d (dt t),.d (de a),.d (de b)] 4 ((toL (k+1) (mul (k+1) t a b)).map dq):=by
 have hp:=p16 hk
 have hp1:2^(k+1)=2*2^k:=by rw[W0q];omega
 have h0:=W0u k
 have hcB:cB r (k+1)=2*cB r k+r+1:=rfl
 have hax:Sz s (toL k a.1):=Sz.left ha
 have hay:Sz s (toL k a.2):=Sz.right ha
 have hbx:Sz s' (toL k b.1):=Sz.left hb
 have hby:Sz s' (toL k b.2):=Sz.right hb
 have hlen:=Xab k
 have L:=Xbc k t.1
 have m1:a.2=zero k->toL (k+1) (mul (k+1) t a b)=toL k (mul k t.1 a.1 b.1)++toL k (mul k t.1 a.1 b.2):=λe=>by
  show toL k (Tow.add k _ (mul k t.1 (mul k t.1 a.2 b.2) t.2))++toL k (Tow.add k _ (mul k t.1 a.2 b.1))=_
  rw[e,L.zm,L.zm,L.zm,L.az,L.az]
 have m2:b.2=zero k->toL (k+1) (mul (k+1) t a b)=toL k (mul k t.1 a.1 b.1)++toL k (mul k t.1 a.2 b.1):=λe=>by
  show toL k (Tow.add k _ (mul k t.1 (mul k t.1 a.2 b.2) t.2))++toL k (Tow.add k (mul k t.1 a.1 b.2) _)=_
  rw[e,L.mz,L.zm,L.mz,L.az,L.za]
 have m12:a.2=zero k->b.2=zero k->toL (k+1) (mul (k+1) t a b)=toL k (mul k t.1 a.1 b.1)++toL k (zero k):=λe e2=>by rw[m1 e,e2,L.mz]
 have la:((toL k a.1++toL k a.2).map dq).length=2*2^k:=by rw[lq,W0d,hlen,hlen];omega
 have lb:((toL k b.1++toL k b.2).map dq).length=2*2^k:=by rw[lq,W0d,hlen,hlen];omega
 have ta:((toL k a.1++toL k a.2).map dq).take (2^k)=(toL k a.1).map dq:=by rw[<-W3e,<-hlen a.1,W7h]
 have da:((toL k a.1++toL k a.2).map dq).drop (2^k)=(toL k a.2).map dq:=by rw[<-List.map_drop,<-hlen a.1,W8f]
 have tb:((toL k b.1++toL k b.2).map dq).take (2^k)=(toL k b.1).map dq:=by rw[<-W3e,<-hlen b.1,W7h]
 have db:((toL k b.1++toL k b.2).map dq).drop (2^k)=(toL k b.2).map dq:=by rw[<-List.map_drop,<-hlen b.1,W8f]
 have lt2:((toT k t.1++[toL k t.2]).map dqs).length=k+1:=by rw[lt',W0d,Xaa];rfl
 have tt:((toT k t.1++[toL k t.2]).map dqs).take k=(toT k t.1).map dqs:=by rw[<-W3e,W6y (Xaa k t.1)]
 have tu:((toT k t.1++[toL k t.2]).map dqs)[k]?=some (de t.2):=by rw[W0t,W0o (by rw[Xaa];exact W0c _),Xaa,W2v];rfl
 refine EnW Tryz.func338 λ_ _ _ _=>?_
 refine No rfl (by show ¬((((toT k t.1++[toL k t.2]).map dqs).length:Nat):Int)=0;omega) ?_
 refine Ar (2^k:Nat) rfl ?_ (Yly la (by omega))
 refine Dw rfl ?_
 refine Ar k rfl ?_ (wr (by show ((((toT k t.1++[toL k t.2]).map dqs).length:Nat):Int)-1=k;omega) (by simp only[inK];omega))
 refine Tk k ((toT k t.1).map dqs) rfl rfl (by show k<=((toT k t.1++[toL k t.2]).map dqs).length;omega) tt ?_
 refine Ar k rfl ?_ (wr (by show ((((toT k t.1++[toL k t.2]).map dqs).length:Nat):Int)-1=k;omega) (by simp only[inK];omega))
 refine Ix k rfl tu ?_
 refine Dw rfl ?_
 refine Dp (2^k) ((toL k a.2).map dq) rfl rfl (by show _<=((toL k a.1++toL k a.2).map dq).length;omega) da ?_
 refine Ce rfl (Zero_ok (l:=toL k a.2) (by rw[hlen];omega)) ?_
 refine Dp (2^k) ((toL k b.2).map dq) rfl rfl (by show _<=((toL k b.1++toL k b.2).map dq).length;omega) db ?_
 refine Ce rfl (Zero_ok (l:=toL k b.2) (by rw[hlen];omega)) ?_
 refine Dw rfl ?_
 refine Tk (2^k) ((toL k a.1).map dq) rfl rfl (by show _<=((toL k a.1++toL k a.2).map dq).length;omega) ta ?_
 refine Tk (2^k) ((toL k b.1).map dq) rfl rfl (by show _<=((toL k b.1++toL k b.2).map dq).length;omega) tb ?_
 rcases ihk hT.1 hax hbx (by omega) (by omega) with hc | hc
 . refine Ce rfl hc ?_
   refine By rfl (λh1=>?_) λh1=>?_
   . have ea:=(Xar k a.2).2 h1
     refine By rfl (λh2=>?_) λh2=>?_
     . have eb:=(Xar k b.2).2 h2
       refine Ce rfl (R2.FromInt_ok (z:=0) (by decide)) ?_
       refine Ce rfl (FromRat_ok (t:=toT k t.1) (x:=0) (by rw[Xaa];omega)) ?_
       refine ApL ((toL (k+1) (mul (k+1) t a b)).map dq) rfl (by rw[m12 ea eb,<-W1p,Xaa];congr 2;rw[Xbs,<-W4b,show 2^k-1+1=2^k by omega]) (by simp only[lq,W0k,W1v,hlen];omega) (by rw[lq,Xab];omega) ?_
       refine Og 6 rfl rfl ?_
       exact Rw [(62,1000000)] [(1000000,.tok ((toL (k+1) (mul (k+1) t a b)).map dq).length 4)] rfl (.one (.rf rfl) rfl rfl) ⟨_,rfl,rfl,rfl⟩
     . refine Yes rfl h1 ?_
       refine Dw rfl ?_
       refine Tk (2^k) ((toL k a.1).map dq) rfl rfl (by show _<=((toL k a.1++toL k a.2).map dq).length;omega) ta ?_
       refine Dp (2^k) ((toL k b.2).map dq) rfl rfl (by show _<=((toL k b.1++toL k b.2).map dq).length;omega) db ?_
       refine Ce rfl (muld hT.1 hax hby (by omega) (by omega)) ?_
       refine ApL ((toL (k+1) (mul (k+1) t a b)).map dq) rfl (by rw[m1 ea,<-W1p]) (by simp only[lq,W0k,W1v,hlen];omega) (by rw[lq,Xab];omega) ?_
       refine Og 6 rfl rfl ?_
       exact Rw [(73,1000000)] [(1000000,.tok ((toL (k+1) (mul (k+1) t a b)).map dq).length 4)] rfl (.one (.rf rfl) rfl rfl) ⟨_,rfl,rfl,rfl⟩
   . refine No rfl h1 ?_
     refine By rfl (λh2=>?_) λh2=>?_
     . have eb:=(Xar k b.2).2 h2
       refine Dw rfl ?_
       refine Dp (2^k) ((toL k a.2).map dq) rfl rfl (by show _<=((toL k a.1++toL k a.2).map dq).length;omega) da ?_
       refine Tk (2^k) ((toL k b.1).map dq) rfl rfl (by show _<=((toL k b.1++toL k b.2).map dq).length;omega) tb ?_
       refine Ce rfl (muld hT.1 hay hbx (by omega) (by omega)) ?_
       refine ApL ((toL (k+1) (mul (k+1) t a b)).map dq) rfl (by rw[m2 eb,<-W1p]) (by simp only[lq,W0k,W1v,hlen];omega) (by rw[lq,Xab];omega) ?_
       refine Og 6 rfl rfl ?_
       exact Rw [(84,1000000)] [(1000000,.tok ((toL (k+1) (mul (k+1) t a b)).map dq).length 4)] rfl (.one (.rf rfl) rfl rfl) ⟨_,rfl,rfl,rfl⟩
     . refine Dw rfl ?_
       refine Dp (2^k) ((toL k a.2).map dq) rfl rfl (by show _<=((toL k a.1++toL k a.2).map dq).length;omega) da ?_
       refine Dp (2^k) ((toL k b.2).map dq) rfl rfl (by show _<=((toL k b.1++toL k b.2).map dq).length;omega) db ?_
       refine Ce rfl (muld hT.1 hay hby (by omega) (by omega)) ?_
       refine Ce rfl (muld hT.1 (hay.mul hT.1 hby) hT.2 (by omega) (by omega)) ?_
       refine Cg rfl (Add_ok (by rw[hlen,hlen]) (by rw[hlen];omega) (hax.mul hT.1 hbx).ps ((hay.mul hT.1 hby).mul hT.1 hT.2).ps (by omega)) ?_
       refine Dw rfl ?_
       refine Tk (2^k) ((toL k a.1).map dq) rfl rfl (by show _<=((toL k a.1++toL k a.2).map dq).length;omega) ta ?_
       refine Dp (2^k) ((toL k b.2).map dq) rfl rfl (by show _<=((toL k b.1++toL k b.2).map dq).length;omega) db ?_
       refine Ce rfl (muld hT.1 hax hby (by omega) (by omega)) ?_
       refine Dp (2^k) ((toL k a.2).map dq) rfl rfl (by show _<=((toL k a.1++toL k a.2).map dq).length;omega) da ?_
       refine Tk (2^k) ((toL k b.1).map dq) rfl rfl (by show _<=((toL k b.1++toL k b.2).map dq).length;omega) tb ?_
       refine Ce rfl (muld hT.1 hay hbx (by omega) (by omega)) ?_
       refine Ce rfl (Add_el (by omega) (hax.mul hT.1 hby).ps (hay.mul hT.1 hbx).ps (by omega)) ?_
       refine ApG ((toL (k+1) (mul (k+1) t a b)).map dq) rfl (by rw[<-W1p,<-Xas];rfl) (by rw[lq,Xab];omega) ?_
       exact Rw [(118,1000000)] [(1000000,.tok ((toL (k+1) (mul (k+1) t a b)).map dq).length 4)] rfl (.one (.rf rfl) rfl rfl) ⟨_,rfl,rfl,rfl⟩
 . refine Cg rfl hc ?_
   refine By rfl (λh1=>?_) λh1=>?_
   . have ea:=(Xar k a.2).2 h1
     refine By rfl (λh2=>?_) λh2=>?_
     . have eb:=(Xar k b.2).2 h2
       refine Ce rfl (R2.FromInt_ok (z:=0) (by decide)) ?_
       refine Ce rfl (FromRat_ok (t:=toT k t.1) (x:=0) (by rw[Xaa];omega)) ?_
       refine ApG ((toL (k+1) (mul (k+1) t a b)).map dq) rfl (by rw[m12 ea eb,<-W1p,Xaa];congr 2;rw[Xbs,<-W4b,show 2^k-1+1=2^k by omega]) (by rw[lq,Xab];omega) ?_
       exact Rw [(62,1000000)] [(1000000,.tok ((toL (k+1) (mul (k+1) t a b)).map dq).length 4)] rfl (.one (.rf rfl) rfl rfl) ⟨_,rfl,rfl,rfl⟩
     . refine Yes rfl h1 ?_
       refine Dw rfl ?_
       refine Tk (2^k) ((toL k a.1).map dq) rfl rfl (by show _<=((toL k a.1++toL k a.2).map dq).length;omega) ta ?_
       refine Dp (2^k) ((toL k b.2).map dq) rfl rfl (by show _<=((toL k b.1++toL k b.2).map dq).length;omega) db ?_
       refine Ce rfl (muld hT.1 hax hby (by omega) (by omega)) ?_
       refine ApG ((toL (k+1) (mul (k+1) t a b)).map dq) rfl (by rw[m1 ea,<-W1p]) (by rw[lq,Xab];omega) ?_
       exact Rw [(73,1000000)] [(1000000,.tok ((toL (k+1) (mul (k+1) t a b)).map dq).length 4)] rfl (.one (.rf rfl) rfl rfl) ⟨_,rfl,rfl,rfl⟩
   . refine No rfl h1 ?_
     refine By rfl (λh2=>?_) λh2=>?_
     . have eb:=(Xar k b.2).2 h2
       refine Dw rfl ?_
       refine Dp (2^k) ((toL k a.2).map dq) rfl rfl (by show _<=((toL k a.1++toL k a.2).map dq).length;omega) da ?_
       refine Tk (2^k) ((toL k b.1).map dq) rfl rfl (by show _<=((toL k b.1++toL k b.2).map dq).length;omega) tb ?_
       refine Ce rfl (muld hT.1 hay hbx (by omega) (by omega)) ?_
       refine ApG ((toL (k+1) (mul (k+1) t a b)).map dq) rfl (by rw[m2 eb,<-W1p]) (by rw[lq,Xab];omega) ?_
       exact Rw [(84,1000000)] [(1000000,.tok ((toL (k+1) (mul (k+1) t a b)).map dq).length 4)] rfl (.one (.rf rfl) rfl rfl) ⟨_,rfl,rfl,rfl⟩
     . refine Dw rfl ?_
       refine Dp (2^k) ((toL k a.2).map dq) rfl rfl (by show _<=((toL k a.1++toL k a.2).map dq).length;omega) da ?_
       refine Dp (2^k) ((toL k b.2).map dq) rfl rfl (by show _<=((toL k b.1++toL k b.2).map dq).length;omega) db ?_
       refine Ce rfl (muld hT.1 hay hby (by omega) (by omega)) ?_
       refine Ce rfl (muld hT.1 (hay.mul hT.1 hby) hT.2 (by omega) (by omega)) ?_
       refine Cg rfl (Add_ok (by rw[hlen,hlen]) (by rw[hlen];omega) (hax.mul hT.1 hbx).ps ((hay.mul hT.1 hby).mul hT.1 hT.2).ps (by omega)) ?_
       refine Dw rfl ?_
       refine Tk (2^k) ((toL k a.1).map dq) rfl rfl (by show _<=((toL k a.1++toL k a.2).map dq).length;omega) ta ?_
       refine Dp (2^k) ((toL k b.2).map dq) rfl rfl (by show _<=((toL k b.1++toL k b.2).map dq).length;omega) db ?_
       refine Ce rfl (muld hT.1 hax hby (by omega) (by omega)) ?_
       refine Dp (2^k) ((toL k a.2).map dq) rfl rfl (by show _<=((toL k a.1++toL k a.2).map dq).length;omega) da ?_
       refine Tk (2^k) ((toL k b.1).map dq) rfl rfl (by show _<=((toL k b.1++toL k b.2).map dq).length;omega) tb ?_
       refine Ce rfl (muld hT.1 hay hbx (by omega) (by omega)) ?_
       refine Ce rfl (Add_el (by omega) (hax.mul hT.1 hby).ps (hay.mul hT.1 hbx).ps (by omega)) ?_
       refine ApG ((toL (k+1) (mul (k+1) t a b)).map dq) rfl (by rw[<-W1p,<-Xas];rfl) (by rw[lq,Xab];omega) ?_
       exact Rw [(118,1000000)] [(1000000,.tok ((toL (k+1) (mul (k+1) t a b)).map dq).length 4)] rfl (.one (.rf rfl) rfl rfl) ⟨_,rfl,rfl,rfl⟩
theorem Xr0: ∀ {k:Nat} {r s s':Nat} {t:Tw k} {a b:Tow.El k},TS r k t->Sz s (toL k a)->Sz s' (toL k b)->k<=16->s+s'+cB r k<=4398046511104->C0 338 [.d (dt t),.d (de a),.d (de b)] (·=.lit 4 ((toL k (mul k t a b)).map dq))\/CG0 338 [.d (dt t),.d (de a),.d (de b)] 4 ((toL k (mul k t a b)).map dq):=by
 intro k
 induction k with
 | zero=>intro r s s' t a b hT ha hb hk hs;exact .inl (Yg4 (ha.qs (W0g.2 rfl)) (hb.qs (W0g.2 rfl)) (by omega))
 | succ k ih=>intro r s s' t a b hT ha hb hk hs;exact .inr (Ybd (λhT ha hb hk hs=>(ih hT ha hb hk hs).elim C.lit (λh=>CG.data h)) ih hT ha hb hk hs)
theorem Mul_el{k r s s':Nat}{t:Tw k}{a b:Tow.El k}(hT:TS r k t)(ha:Sz s (toL k a))(hb:Sz s' (toL k b))(hk:k<=16)(hs:s+s'+cB r k<=4398046511104): C0 338 [.d (dt t),.d (de a),.d (de b)] (·=.d (de (mul k t a b))):=(Xr0 hT ha hb hk hs).elim C.lit (λh=>CG.data h)
end Go.Proofs.YtclgppjdhndgiaaGreatDoor.R6
namespace Go.Tow
section
inductive Pe where
 | v (i:Nat)
 | z
 | o
 | add (a b:Pe)
 | mul (a b:Pe)
 | neg (a:Pe)
abbrev Xo6:=List (Bool×List Nat)
def ltM: List Nat->List Nat->Bool
 | [],[]=>false
 | [],_::_=>true
 | _::_,[]=>false
 | a::r,b::s=>match Nat.blt a b with
  | true=>true
  | false=>match Nat.beq a b with
   | true=>ltM r s
   | false=>false
def Yjq(i:Nat): List Nat->List Nat
 | []=>[i]
 | j::r=>match Nat.ble i j with
  | true=>i::j::r
  | false=>j::Yjq i r
def Yfj(t:Bool×List Nat): Xo6->Xo6
 | []=>[t]
 | h::r=>if t.2=h.2 then (if t.1=h.1 then t::h::r else r) else match ltM t.2 h.2 with
  | true=>t::h::r
  | false=>h::Yfj t r
def Ye3(m n:List Nat): List Nat:=m.foldr Yjq n
def Ylf(p q:Xo6): Xo6:=p.foldr Yfj q
def Yhb(t:Bool×List Nat)(q acc:Xo6): Xo6:=q.foldr (λu a=>Yfj (t.1 != u.1,Ye3 t.2 u.2) a) acc
def Yja(p q:Xo6): Xo6:=p.foldr (λt acc=>Yhb t q acc) []
def nrm: Pe->Xo6
 | .v i=>[(false,[i])]
 | .z=>[]
 | .o=>[(false,[])]
 | .add a b=>Ylf (nrm a) (nrm b)
 | .mul a b=>Yja (nrm a) (nrm b)
 | .neg a=>(nrm a).map λt=>(!t.1,t.2)
def Laws.ev{α:Type}{add mul:α->α->α}{neg:α->α}{zero one:α}(L:Laws add mul neg zero one)(xs:List α): Pe->α
 | .v i=>xs.getD i zero
 | .z=>zero
 | .o=>one
 | .add a b=>add (Laws.ev L xs a) (Laws.ev L xs b)
 | .mul a b=>mul (Laws.ev L xs a) (Laws.ev L xs b)
 | .neg a=>neg (Laws.ev L xs a)
def Laws.eM{α:Type}{add mul:α->α->α}{neg:α->α}{zero one:α}(L:Laws add mul neg zero one)(xs:List α): List Nat->α
 | []=>one
 | i::r=>mul (xs.getD i zero) (Laws.eM L xs r)
def Laws.eT{α:Type}{add mul:α->α->α}{neg:α->α}{zero one:α}(L:Laws add mul neg zero one)(xs:List α)(t:Bool×List Nat): α:=match t.1 with
 | true=>neg (L.eM xs t.2)
 | false=>L.eM xs t.2
def Laws.eP{α:Type}{add mul:α->α->α}{neg:α->α}{zero one:α}(L:Laws add mul neg zero one)(xs:List α): Xo6->α
 | []=>zero
 | t::r=>add (L.eT xs t) (Laws.eP L xs r)
section
variable{α:Type}{add mul:α->α->α}{neg:α->α}{zero one:α}(L:Laws add mul neg zero one)(xs:List α)
include L
theorem Laws.eM_ins(i:Nat)(m:List Nat): L.eM xs (Yjq i m)=mul (xs.getD i zero) (L.eM xs m):=by
 induction m with
 | nil=>rfl
 | cons j r ih =>
  simp only[Yjq]
  split
  . rfl
  . simp only[eM];rw[ih,L.mlc]
theorem Laws.eM_mul(m n:List Nat): L.eM xs (Ye3 m n)=mul (L.eM xs m) (L.eM xs n):=by
 induction m with
 | nil=>simp only[Ye3,W8g,eM,L.om]
 | cons i m ih =>
  have:Ye3 (i::m) n=Yjq i (Ye3 m n):=rfl
  rw[this,L.eM_ins,ih,<-L.ma];rfl
theorem Laws.eP_ins(t:Bool×List Nat)(p:Xo6): L.eP xs (Yfj t p)=add (L.eT xs t) (L.eP xs p):=by
 induction p with
 | nil=>rfl
 | cons h r ih =>
  simp only[Yfj]
  split
  . rename_i h1
    split
    . rfl
    . rename_i h2
      obtain⟨s,m⟩:=t
      obtain⟨s',m'⟩:=h
      have h1':m=m':=h1
      subst h1'
      cases s<;>cases s'<;>first | exact absurd rfl h2 | skip
      . simp only[eP,eT];rw[<-L.aa,L.an,L.za]
      . simp only[eP,eT];rw[<-L.aa,L.na,L.za]
  . split
    . rfl
    . simp only[eP];rw[ih,L.alc]
theorem Laws.eP_add(p q:Xo6): L.eP xs (Ylf p q)=add (L.eP xs p) (L.eP xs q):=by
 induction p with
 | nil=>simp only[Ylf,W8g,eP,L.za]
 | cons t p ih =>
  have:Ylf (t::p) q=Yfj t (Ylf p q):=rfl
  rw[this,L.eP_ins,ih];simp only[eP];rw[L.aa]
theorem Laws.eT_mul(t u:Bool×List Nat): L.eT xs (t.1 != u.1,Ye3 t.2 u.2)=mul (L.eT xs t) (L.eT xs u):=by
 obtain⟨s,m⟩:=t
 obtain⟨s',m'⟩:=u
 cases s<;>cases s'<;>simp[eT,L.eM_mul,L.mn,L.nm,L.nn]
theorem Laws.eP_mulT(t:Bool×List Nat)(q acc:Xo6): L.eP xs (Yhb t q acc)=add (mul (L.eT xs t) (L.eP xs q)) (L.eP xs acc):=by
 induction q with
 | nil=>simp only[Yhb,W8g,eP,L.mz,L.za]
 | cons u q ih =>
  have:Yhb t (u::q) acc=Yfj (t.1 != u.1,Ye3 t.2 u.2) (Yhb t q acc):=rfl
  rw[this,L.eP_ins,ih,L.eT_mul];simp only[eP];rw[L.md,L.aa]
theorem Laws.eP_mul(p q:Xo6): L.eP xs (Yja p q)=mul (L.eP xs p) (L.eP xs q):=by
 induction p with
 | nil=>simp only[Yja,W8g,eP,L.zm]
 | cons t p ih =>
  have:Yja (t::p) q=Yhb t q (Yja p q):=rfl
  rw[this,L.eP_mulT,ih];simp only[eP];rw[L.dm]
theorem Laws.eP_neg(p:Xo6): L.eP xs (p.map λt=>(!t.1,t.2))=neg (L.eP xs p):=by
 induction p with
 | nil=>simp only[List.map_nil,eP,L.nz]
 | cons t p ih =>
  obtain⟨s,m⟩:=t
  simp only[W3s,eP,L.nd,ih]
  cases s<;>simp[eT,L.nn]
theorem Laws.ev_nrm(e:Pe): L.ev xs e=L.eP xs (nrm e):=by
 induction e with
 | v i=>simp only[nrm,ev,eP,eT,eM,L.mo,L.az]
 | z=>rfl
 | o=>simp only[nrm,ev,eP,eT,eM,L.az]
 | add a b ha hb=>simp only[nrm,ev,L.eP_add,ha,hb]
 | mul a b ha hb=>simp only[nrm,ev,L.eP_mul,ha,hb]
 | neg a ha=>simp only[nrm,ev,L.eP_neg,ha]
theorem Laws.req(a b:Pe)(h:nrm a=nrm b): L.ev xs a=L.ev xs b:=by rw[L.ev_nrm,L.ev_nrm,h]
end
end
section
structure Sgn {α:Type} (add mul:α->α->α) (neg:α->α) (one:α) (σ:α->Int):Prop where
 tri:∀a,σ a=1\/σ a=0\/σ a=-1
 sn:∀a,σ (neg a)=- σ a
 sm:∀a b,σ (mul a b)=σ a*σ b
 sa:∀a b,0<=σ a->0<=σ b->0<=σ (add a b)
 sp:∀a b,σ a=1->0<=σ b->σ (add a b)=1
 s1:σ one=1
theorem Xdx{X:Int}(h:X=1\/X=0\/X=-1): 0<=X*X/\(X≠0->X*X=1)/\(X=0->X*X=0):=by
 rcases h with rfl | rfl | rfl<;>decide
section
variable{α:Type}{add mul:α->α->α}{neg:α->α}{zero one:α}{σ:α->Int}(L:Laws add mul neg zero one)(S:Sgn add mul neg one σ)
include L S
theorem Sgn.s0: σ zero=0:=by
 have:=S.sn zero
 rw[L.nz] at this
 omega
theorem Sgn.add0{a b:α}(ha:σ a=0): σ (add a b)=σ b:=by
 rcases S.tri b with hb | hb | hb
 . rw[hb,L.ac];exact S.sp b a hb (by omega)
 . have h1:=S.sa a b (by omega) (by omega)
   have h2:=S.sa (neg a) (neg b) (by rw[S.sn];omega) (by rw[S.sn];omega)
   rw[<-L.nd,S.sn] at h2
   omega
 . have h2:=S.sp (neg b) (neg a) (by rw[S.sn];omega) (by rw[S.sn];omega)
   rw[L.ac,<-L.nd,S.sn] at h2
   omega
theorem Sgn.add0'{a b:α}(hb:σ b=0): σ (add a b)=σ a:=by rw[L.ac,S.add0 L hb]
theorem Sgn.np{a b:α}(ha:σ a=-1)(hb:σ b<=0): σ (add a b)=-1:=by
 have h2:=S.sp (neg a) (neg b) (by rw[S.sn];omega) (by rw[S.sn];omega)
 rw[<-L.nd,S.sn] at h2
 omega
theorem Sgn.same{a b:α}(h:σ a=σ b): σ (add a b)=σ a:=by
 rcases S.tri a with ha | ha | ha
 . rw[ha];exact S.sp a b ha (by omega)
 . rw[S.add0 L ha,<-h]
 . rw[ha];exact S.np L ha (by omega)
theorem Sgn.eqv{a b:α}(h:σ (add a (neg b))=0): σ a=σ b:=by
 have e:a=add (add a (neg b)) b:=(Laws.req L [a,b] (.v 0) (.add (.add (.v 0) (.neg (.v 1))) (.v 1)) (by decide +kernel))
 rw[e,S.add0 L h]
theorem Sgn.dom{a b:α}(h:σ (add (mul a a) (neg (mul b b)))=1): σ (add a b)=σ a:=by
 have e:add (mul a a) (neg (mul b b))=mul (add a b) (add a (neg b)):=(Laws.req L [a,b] (.add (.mul (.v 0) (.v 0)) (.neg (.mul (.v 1) (.v 1)))) (.mul (.add (.v 0) (.v 1)) (.add (.v 0) (.neg (.v 1)))) (by decide +kernel))
 have e2:add a a=add (add a b) (add a (neg b)):=(Laws.req L [a,b] (.add (.v 0) (.v 0)) (.add (.add (.v 0) (.v 1)) (.add (.v 0) (.neg (.v 1)))) (by decide +kernel))
 rw[e,S.sm] at h
 have h2:σ (add a a)=σ a:=S.same L rfl
 rw[e2] at h2
 rcases S.tri (add a b) with h3 | h3 | h3<;>rcases S.tri (add a (neg b)) with h4 | h4 | h4<;>rw[h3,h4] at h<;>first | (exact absurd h (by decide)) | skip
 . rw[<-h2,h3];exact(S.sp _ _ h3 (by omega)).symm
 . rw[<-h2,h3];exact(S.np L h3 (by omega)).symm
theorem Sgn.dom0{a b:α}(h:σ (add (mul a a) (neg (mul b b)))=0): σ (add a b)=Int.sign (σ a+σ b):=by
 have e:add (mul a a) (neg (mul b b))=mul (add a b) (add a (neg b)):=(Laws.req L [a,b] (.add (.mul (.v 0) (.v 0)) (.neg (.mul (.v 1) (.v 1)))) (.mul (.add (.v 0) (.v 1)) (.add (.v 0) (.neg (.v 1)))) (by decide +kernel))
 rw[e,S.sm] at h
 rcases Int.mul_eq_zero.1 h with h1 | h1
 . have e2:a=add (add a b) (neg b):=(Laws.req L [a,b] (.v 0) (.add (.add (.v 0) (.v 1)) (.neg (.v 1))) (by decide +kernel))
   have h2:σ a=- σ b:=by
    conv=>lhs;rw[e2]
    rw[S.add0 L h1,S.sn]
   rw[h1,h2,show -σ b+σ b=0 by omega];rfl
 . have h2:=S.eqv L h1
   rw[S.same L h2,<-h2]
   rcases S.tri a with ha | ha | ha<;>rw[ha]<;>rfl
end
def Laws.nP{α:Type}{add mul:α->α->α}{neg:α->α}{zero one:α}(L:Laws add mul neg zero one)(d:α)(p:α×α): α:=add (mul p.1 p.1) (neg (mul (mul p.2 p.2) d))
def Laws.mQ{α:Type}{add mul:α->α->α}{neg:α->α}{zero one:α}(L:Laws add mul neg zero one)(d:α)(p q:α×α): α×α:=(add (mul p.1 q.1) (mul (mul p.2 q.2) d),add (mul p.1 q.2) (mul p.2 q.1))
def Laws.aQ{α:Type}{add mul:α->α->α}{neg:α->α}{zero one:α}(L:Laws add mul neg zero one)(p q:α×α): α×α:=(add p.1 q.1,add p.2 q.2)
def Laws.gQ{α:Type}{add mul:α->α->α}{neg:α->α}{zero one:α}(L:Laws add mul neg zero one)(p:α×α): α×α:=(neg p.1,neg p.2)
def Laws.sx{α:Type}{add mul:α->α->α}{neg:α->α}{zero one:α}(L:Laws add mul neg zero one)(d:α)(σ:α->Int)(p:α×α): Int :=
 if σ p.2=0\/σ p.1=σ p.2 then σ p.1 else if σ p.1=0 then σ p.2 else σ p.1*σ (L.nP d p)
theorem Yh0{X Y ν:Int}(h1:X=1\/X=0\/X=-1)(h2:Y=1\/Y=0\/Y=-1)(h3:ν=1\/ν=0\/ν=-1)(hx:X=0->ν=-(Y*Y))(hy:Y=0->ν=X*X):
 (if Y=0\/X=Y then X else if X=0 then Y else X*ν)=if ν=1 then X else if ν=-1 then Y else Int.sign (X+Y):=by
 rcases h1 with rfl | rfl | rfl<;>rcases h2 with rfl | rfl | rfl<;>rcases h3 with rfl | rfl | rfl <;>
  first | rfl | (exact absurd (hx rfl) (by decide)) | (exact absurd (hy rfl) (by decide)) | decide
section
variable{α:Type}{add mul:α->α->α}{neg:α->α}{zero one d:α}{σ:α->Int}(L:Laws add mul neg zero one)(S:Sgn add mul neg one σ)(hd:σ d=1)
include L S hd
theorem Sgn.n0x{p:α×α}(h:σ p.1=0): σ (L.nP d p)=-(σ p.2*σ p.2):=by
 unfold Laws.nP
 rw[S.add0 L (by rw[S.sm,h];rfl),S.sn,S.sm,S.sm,hd,W4w]
theorem Sgn.n0y{p:α×α}(h:σ p.2=0): σ (L.nP d p)=σ p.1*σ p.1:=by
 have _u:=hd
 unfold Laws.nP
 rw[S.add0' L (by rw[S.sn,S.sm,S.sm,h];simp),S.sm]
theorem Sgn.sx_eq(p:α×α): L.sx d σ p=if σ (L.nP d p)=1 then σ p.1 else if σ (L.nP d p)=-1 then σ p.2 else Int.sign (σ p.1+σ p.2) :=
 Yh0 (S.tri _) (S.tri _) (S.tri _) (S.n0x L hd) (S.n0y L hd)
theorem Sgn.sx1{p:α×α}(h:σ (L.nP d p)=1): L.sx d σ p=σ p.1/\σ p.1≠0:=by
 refine⟨by rw[S.sx_eq L hd,if_pos h],λh0=>?_⟩
 have h1:=S.n0x L hd h0
 have:=(Xdx (S.tri p.2)).1
 omega
theorem Sgn.sxm{p:α×α}(h:σ (L.nP d p)=-1): L.sx d σ p=σ p.2/\σ p.2≠0:=by
 refine⟨by rw[S.sx_eq L hd,if_neg (by omega),if_pos h],λh0=>?_⟩
 have h1:=S.n0y L hd h0
 have:=(Xdx (S.tri p.1)).1
 omega
theorem Sgn.sxz{p:α×α}(h:σ (L.nP d p)=0): L.sx d σ p=Int.sign (σ p.1+σ p.2)/\(σ p.1=0↔σ p.2=0):=by
 refine⟨by rw[S.sx_eq L hd,if_neg (by omega),if_neg (by omega)],λh0=>?_,λh0=>?_⟩
 . have h1:=S.n0x L hd h0
   have h2:=(Xdx (S.tri p.2)).2.1
   exact W1g λh3=>by have:=h2 h3;omega
 . have h1:=S.n0y L hd h0
   have h2:=(Xdx (S.tri p.1)).2.1
   exact W1g λh3=>by have:=h2 h3;omega
theorem Sgn.sd(z:α): σ (mul d z)=σ z:=by
 have _u:=L
 rw[S.sm,hd,W5w]
theorem Sgn.mul_core(p q:α×α)(h:σ (L.nP d q)=0->σ (L.nP d p)=0): L.sx d σ (L.mQ d p q)=L.sx d σ p*L.sx d σ q:=by
 obtain⟨a1,b1⟩:=p
 obtain⟨a2,b2⟩:=q
 have hN:σ (L.nP d (L.mQ d (a1,b1) (a2,b2)))=σ (L.nP d (a1,b1))*σ (L.nP d (a2,b2)):=by
  rw[<-S.sm];congr 1
  exact(Laws.req L [a1,b1,a2,b2,d] (.add (.mul (.add (.mul (.v 0) (.v 2)) (.mul (.mul (.v 1) (.v 3)) (.v 4))) (.add (.mul (.v 0) (.v 2)) (.mul (.mul (.v 1) (.v 3)) (.v 4)))) (.neg (.mul (.mul (.add (.mul (.v 0) (.v 3)) (.mul (.v 1) (.v 2))) (.add (.mul (.v 0) (.v 3)) (.mul (.v 1) (.v 2)))) (.v 4)))) (.mul (.add (.mul (.v 0) (.v 0)) (.neg (.mul (.mul (.v 1) (.v 1)) (.v 4)))) (.add (.mul (.v 2) (.v 2)) (.neg (.mul (.mul (.v 3) (.v 3)) (.v 4))))) (by decide +kernel))
 have eX:∀n1 n2,n1=L.nP d (a1,b1)->n2=L.nP d (a2,b2)->add (mul (mul a1 a2) (mul a1 a2)) (neg (mul (mul (mul b1 b2) d) (mul (mul b1 b2) d)))=add (add (mul (mul a1 a1) n2) (mul (mul a2 a2) n1)) (neg (mul n1 n2)):=by
  rintro _ _ rfl rfl
  exact(Laws.req L [a1,b1,a2,b2,d] (.add (.mul (.mul (.v 0) (.v 2)) (.mul (.v 0) (.v 2))) (.neg (.mul (.mul (.mul (.v 1) (.v 3)) (.v 4)) (.mul (.mul (.v 1) (.v 3)) (.v 4))))) (.add (.add (.mul (.mul (.v 0) (.v 0)) (.add (.mul (.v 2) (.v 2)) (.neg (.mul (.mul (.v 3) (.v 3)) (.v 4))))) (.mul (.mul (.v 2) (.v 2)) (.add (.mul (.v 0) (.v 0)) (.neg (.mul (.mul (.v 1) (.v 1)) (.v 4)))))) (.neg (.mul (.add (.mul (.v 0) (.v 0)) (.neg (.mul (.mul (.v 1) (.v 1)) (.v 4)))) (.add (.mul (.v 2) (.v 2)) (.neg (.mul (.mul (.v 3) (.v 3)) (.v 4))))))) (by decide +kernel))
 have eX2:∀n1 n2,n1=L.nP d (a1,b1)->n2=L.nP d (a2,b2)->add (mul (mul a1 a2) (mul a1 a2)) (neg (mul (mul (mul b1 b2) d) (mul (mul b1 b2) d)))=add (mul (mul a1 a1) n2) (mul (mul d (mul b2 b2)) n1):=by
  rintro _ _ rfl rfl
  exact(Laws.req L [a1,b1,a2,b2,d] (.add (.mul (.mul (.v 0) (.v 2)) (.mul (.v 0) (.v 2))) (.neg (.mul (.mul (.mul (.v 1) (.v 3)) (.v 4)) (.mul (.mul (.v 1) (.v 3)) (.v 4))))) (.add (.mul (.mul (.v 0) (.v 0)) (.add (.mul (.v 2) (.v 2)) (.neg (.mul (.mul (.v 3) (.v 3)) (.v 4))))) (.mul (.mul (.v 4) (.mul (.v 3) (.v 3))) (.add (.mul (.v 0) (.v 0)) (.neg (.mul (.mul (.v 1) (.v 1)) (.v 4)))))) (by decide +kernel))
 have eXr:∀n1 n2,n1=L.nP d (a1,b1)->n2=L.nP d (a2,b2)->add (mul (mul (mul b1 b2) d) (mul (mul b1 b2) d)) (neg (mul (mul a1 a2) (mul a1 a2)))=add (add (neg (mul (mul a1 a1) n2)) (neg (mul (mul a2 a2) n1))) (mul n1 n2):=by
  rintro _ _ rfl rfl
  exact(Laws.req L [a1,b1,a2,b2,d] (.add (.mul (.mul (.mul (.v 1) (.v 3)) (.v 4)) (.mul (.mul (.v 1) (.v 3)) (.v 4))) (.neg (.mul (.mul (.v 0) (.v 2)) (.mul (.v 0) (.v 2))))) (.add (.add (.neg (.mul (.mul (.v 0) (.v 0)) (.add (.mul (.v 2) (.v 2)) (.neg (.mul (.mul (.v 3) (.v 3)) (.v 4)))))) (.neg (.mul (.mul (.v 2) (.v 2)) (.add (.mul (.v 0) (.v 0)) (.neg (.mul (.mul (.v 1) (.v 1)) (.v 4))))))) (.mul (.add (.mul (.v 0) (.v 0)) (.neg (.mul (.mul (.v 1) (.v 1)) (.v 4)))) (.add (.mul (.v 2) (.v 2)) (.neg (.mul (.mul (.v 3) (.v 3)) (.v 4)))))) (by decide +kernel))
 have eY:∀n1 n2,n1=L.nP d (a1,b1)->n2=L.nP d (a2,b2)->mul d (add (mul (mul a1 b2) (mul a1 b2)) (neg (mul (mul b1 a2) (mul b1 a2))))=add (neg (mul (mul a1 a1) n2)) (mul (mul a2 a2) n1):=by
  rintro _ _ rfl rfl
  exact(Laws.req L [a1,b1,a2,b2,d] (.mul (.v 4) (.add (.mul (.mul (.v 0) (.v 3)) (.mul (.v 0) (.v 3))) (.neg (.mul (.mul (.v 1) (.v 2)) (.mul (.v 1) (.v 2)))))) (.add (.neg (.mul (.mul (.v 0) (.v 0)) (.add (.mul (.v 2) (.v 2)) (.neg (.mul (.mul (.v 3) (.v 3)) (.v 4)))))) (.mul (.mul (.v 2) (.v 2)) (.add (.mul (.v 0) (.v 0)) (.neg (.mul (.mul (.v 1) (.v 1)) (.v 4)))))) (by decide +kernel))
 have eYr:∀n1 n2,n1=L.nP d (a1,b1)->n2=L.nP d (a2,b2)->mul d (add (mul (mul b1 a2) (mul b1 a2)) (neg (mul (mul a1 b2) (mul a1 b2))))=add (neg (mul (mul a2 a2) n1)) (mul (mul a1 a1) n2):=by
  rintro _ _ rfl rfl
  exact(Laws.req L [a1,b1,a2,b2,d] (.mul (.v 4) (.add (.mul (.mul (.v 1) (.v 2)) (.mul (.v 1) (.v 2))) (.neg (.mul (.mul (.v 0) (.v 3)) (.mul (.v 0) (.v 3)))))) (.add (.neg (.mul (.mul (.v 2) (.v 2)) (.add (.mul (.v 0) (.v 0)) (.neg (.mul (.mul (.v 1) (.v 1)) (.v 4)))))) (.mul (.mul (.v 0) (.v 0)) (.add (.mul (.v 2) (.v 2)) (.neg (.mul (.mul (.v 3) (.v 3)) (.v 4)))))) (by decide +kernel))
 have eX:=eX _ _ rfl rfl
 have eX2:=eX2 _ _ rfl rfl
 have eXr:=eXr _ _ rfl rfl
 have eY:=eY _ _ rfl rfl
 have eYr:=eYr _ _ rfl rfl
 have Sx:=@Sgn.sx1 _ _ _ _ _ _ d σ L S hd
 have Sm:=@Sgn.sxm _ _ _ _ _ _ d σ L S hd
 have Sz:=@Sgn.sxz _ _ _ _ _ _ d σ L S hd
 have ta1:=S.tri a1
 have tb1:=S.tri b1
 have ta2:=S.tri a2
 have tb2:=S.tri b2
 have sA:σ (mul (mul a1 a1) (L.nP d (a2,b2)))=σ a1*σ a1*σ (L.nP d (a2,b2)):=by rw[S.sm,S.sm]
 have sB:σ (mul (mul a2 a2) (L.nP d (a1,b1)))=σ a2*σ a2*σ (L.nP d (a1,b1)):=by rw[S.sm,S.sm]
 have sC:σ (mul (L.nP d (a1,b1)) (L.nP d (a2,b2)))=σ (L.nP d (a1,b1))*σ (L.nP d (a2,b2)):=S.sm _ _
 have sD:σ (mul (mul d (mul b2 b2)) (L.nP d (a1,b1)))=σ b2*σ b2*σ (L.nP d (a1,b1)):=by rw[S.sm,S.sd L hd,S.sm]
 have sb:σ (mul (mul b1 b2) d)=σ b1*σ b2:=by rw[S.sm,S.sm,hd,W4w]
 have qa1:=Xdx ta1
 have qa2:=Xdx ta2
 have qb2:=Xdx tb2
 rcases S.tri (L.nP d (a1,b1)) with h1 | h1 | h1<;>rcases S.tri (L.nP d (a2,b2)) with h2 | h2 | h2<;>simp only[h1,h2,W4w,Int.mul_zero,Int.mul_neg] at sA sB sC sD hN
 . obtain⟨k1,z1⟩:=Sx h1
   obtain⟨k2,z2⟩:=Sx h2
   have z1:σ a1≠0:=z1
   have:=S.dom L (a:=mul a1 a2) (b:=mul (mul b1 b2) d) (by rw[eX2];exact S.sp _ _ (by rw[sA,qa1.2.1 z1]) (by rw[sD];exact qb2.1))
   rw[(Sx hN).1,k1,k2]
   show σ (add (mul a1 a2) (mul (mul b1 b2) d))=σ a1*σ a2
   rw[this,S.sm]
 . exact absurd (h h2) (by omega)
 . obtain⟨k1,z1⟩:=Sx h1
   obtain⟨k2,z2⟩:=Sm h2
   have z1:σ a1≠0:=z1
   have z2:σ b2≠0:=z2
   have:=S.dom L (a:=mul a1 b2) (b:=mul b1 a2) (by rw[<-S.sd L hd,eY];exact S.sp _ _ (by rw[S.sn,sA,qa1.2.1 z1];rfl) (by rw[sB];exact qa2.1))
   rw[(Sm hN).1,k1,k2]
   show σ (add (mul a1 b2) (mul b1 a2))=σ a1*σ b2
   rw[this,S.sm]
 . obtain⟨k1,e1⟩:=Sz h1
   obtain⟨k2,z2⟩:=Sx h2
   have z2:σ a2≠0:=z2
   have e1:σ a1=0↔σ b1=0:=e1
   rw[(Sz hN).1,k1,k2]
   show Int.sign (σ (add (mul a1 a2) (mul (mul b1 b2) d))+σ (add (mul a1 b2) (mul b1 a2)))=Int.sign (σ a1+σ b1)*σ a2
   by_cases z1:σ a1=0
   . have zb:=e1.1 z1
     rw[S.add0 L (by rw[S.sm,z1,W5d]),S.add0 L (by rw[S.sm,z1,W5d]),sb,S.sm,z1,zb,W5d,W5d];simp
   . have g1:=S.dom L (a:=mul a1 a2) (b:=mul (mul b1 b2) d) (by rw[eX];exact S.sp _ _ (S.sp _ _ (by rw[sA,qa1.2.1 z1]) (by rw[sB];exact W8i _)) (by rw[S.sn,sC];decide))
     have g2:=S.dom L (a:=mul b1 a2) (b:=mul a1 b2) (by rw[<-S.sd L hd,eYr,L.ac];exact S.sp _ _ (by rw[sA,qa1.2.1 z1]) (by rw[S.sn,sB];decide))
     rw[g1,L.ac (mul a1 b2),g2,S.sm,S.sm]
     have zb:σ b1≠0:=λh=>z1 (e1.2 h)
     revert z1 z2 zb
     rcases ta1 with h | h | h<;>rcases tb1 with h' | h' | h'<;>rcases ta2 with h'' | h'' | h''<;>rw[h,h',h'']<;>decide
 . obtain⟨k1,e1⟩:=Sz h1
   obtain⟨k2,e2⟩:=Sz h2
   have e1:σ a1=0↔σ b1=0:=e1
   have e2:σ a2=0↔σ b2=0:=e2
   rw[(Sz hN).1,k1,k2]
   show Int.sign (σ (add (mul a1 a2) (mul (mul b1 b2) d))+σ (add (mul a1 b2) (mul b1 a2)))=Int.sign (σ a1+σ b1)*Int.sign (σ a2+σ b2)
   have g1:=S.dom0 L (a:=mul a1 a2) (b:=mul (mul b1 b2) d) (by rw[eX,S.add0' L (by rw[S.sn,sC];rfl),S.add0 L sA,sB])
   have g2:=S.dom0 L (a:=mul a1 b2) (b:=mul b1 a2) (by rw[<-S.sd L hd,eY,S.add0 L (by rw[S.sn,sA];rfl),sB])
   rw[g1,g2,sb,S.sm,S.sm,S.sm]
   revert e1 e2
   rcases ta1 with h | h | h<;>rcases tb1 with h' | h' | h'<;>rcases ta2 with h'' | h'' | h''<;>rcases tb2 with g | g | g<;>rw[h,h',h'',g]<;>decide
 . obtain⟨k1,e1⟩:=Sz h1
   obtain⟨k2,z2⟩:=Sm h2
   have z2:σ b2≠0:=z2
   have e1:σ a1=0↔σ b1=0:=e1
   rw[(Sz hN).1,k1,k2]
   show Int.sign (σ (add (mul a1 a2) (mul (mul b1 b2) d))+σ (add (mul a1 b2) (mul b1 a2)))=Int.sign (σ a1+σ b1)*σ b2
   by_cases z1:σ a1=0
   . have zb:=e1.1 z1
     rw[S.add0 L (by rw[S.sm,z1,W5d]),S.add0 L (by rw[S.sm,z1,W5d]),sb,S.sm,z1,zb,W5d,W5d];simp
   . have g1:=S.dom L (a:=mul (mul b1 b2) d) (b:=mul a1 a2) (by rw[eXr];exact S.sp _ _ (S.sp _ _ (by rw[S.sn,sA,qa1.2.1 z1];rfl) (by rw[S.sn,sB];decide)) (by rw[sC];decide))
     have g2:=S.dom L (a:=mul a1 b2) (b:=mul b1 a2) (by rw[<-S.sd L hd,eY];exact S.sp _ _ (by rw[S.sn,sA,qa1.2.1 z1];rfl) (by rw[sB];exact W8i _))
     rw[L.ac (mul a1 a2),g1,g2,sb,S.sm]
     have zb:σ b1≠0:=λh=>z1 (e1.2 h)
     revert z1 z2 zb
     rcases ta1 with h | h | h<;>rcases tb1 with h' | h' | h'<;>rcases tb2 with h'' | h'' | h''<;>rw[h,h',h'']<;>decide
 . obtain⟨k1,z1⟩:=Sm h1
   obtain⟨k2,z2⟩:=Sx h2
   have z2:σ a2≠0:=z2
   have:=S.dom L (a:=mul b1 a2) (b:=mul a1 b2) (by rw[<-S.sd L hd,eYr];exact S.sp _ _ (by rw[S.sn,sB,qa2.2.1 z2];rfl) (by rw[sA];exact qa1.1))
   rw[(Sm hN).1,k1,k2]
   show σ (add (mul a1 b2) (mul b1 a2))=σ b1*σ a2
   rw[L.ac,this,S.sm]
 . exact absurd (h h2) (by omega)
 . obtain⟨k1,z1⟩:=Sm h1
   obtain⟨k2,z2⟩:=Sm h2
   have:=S.dom L (a:=mul (mul b1 b2) d) (b:=mul a1 a2) (by rw[eXr,L.ac];exact S.sp _ _ (by rw[sC];rfl) (S.sa _ _ (by rw[S.sn,sA];have:=qa1.1;omega) (by rw[S.sn,sB];have:=qa2.1;omega)))
   rw[(Sx hN).1,k1,k2]
   show σ (add (mul a1 a2) (mul (mul b1 b2) d))=σ b1*σ b2
   rw[L.ac,this,sb]
theorem Sgn.smul(p q:α×α): L.sx d σ (L.mQ d p q)=L.sx d σ p*L.sx d σ q:=by
 by_cases h:σ (L.nP d q)=0->σ (L.nP d p)=0
 . exact S.mul_core L hd p q h
 . have h1:σ (L.nP d q)=0:=W1g λh2=>h λh3=>absurd h3 h2
   have e:L.mQ d p q=L.mQ d q p:=by
    obtain⟨a1,b1⟩:=p
    obtain⟨a2,b2⟩:=q
    exact W3a (Laws.req L [a1,b1,a2,b2,d] (.add (.mul (.v 0) (.v 2)) (.mul (.mul (.v 1) (.v 3)) (.v 4))) (.add (.mul (.v 2) (.v 0)) (.mul (.mul (.v 3) (.v 1)) (.v 4))) (by decide +kernel)) (Laws.req L [a1,b1,a2,b2,d] (.add (.mul (.v 0) (.v 3)) (.mul (.v 1) (.v 2))) (.add (.mul (.v 2) (.v 1)) (.mul (.v 3) (.v 0))) (by decide +kernel))
   rw[e,S.mul_core L hd q p λ_=>h1,Int.mul_comm]
theorem Sgn.sneg(p:α×α): L.sx d σ (L.gQ p)=- L.sx d σ p:=by
 have e:L.nP d (L.gQ p)=L.nP d p:=by
  obtain⟨a,b⟩:=p
  exact(Laws.req L [a,b,d] (.add (.mul (.neg (.v 0)) (.neg (.v 0))) (.neg (.mul (.mul (.neg (.v 1)) (.neg (.v 1))) (.v 2)))) (.add (.mul (.v 0) (.v 0)) (.neg (.mul (.mul (.v 1) (.v 1)) (.v 2)))) (by decide +kernel))
 rw[S.sx_eq L hd,S.sx_eq L hd,e]
 show (if σ (L.nP d p)=1 then σ (neg p.1) else if σ (L.nP d p)=-1 then σ (neg p.2) else Int.sign (σ (neg p.1)+σ (neg p.2)))=_
 rw[S.sn,S.sn]
 split
 . rfl
 . split
   . rfl
   . rw[<-Int.neg_add,Int.sign_neg]
def Laws.Rt{α:Type}{add mul:α->α->α}{neg:α->α}{zero one:α}(L:Laws add mul neg zero one)(d:α)(σ:α->Int)(p q:α): Prop:=σ p=1/\σ q=1/\σ (add (mul p p) (neg (mul d (mul q q))))=0
theorem Sgn.sx_rt{p q:α}(h:L.Rt d σ p q)(x:α×α): L.sx d σ x=σ (add (mul x.1 q) (mul x.2 p)):=by
 obtain⟨hp,hq,h0⟩:=h
 obtain⟨a,b⟩:=x
 show L.sx d σ (a,b)=σ (add (mul a q) (mul b p))
 have e1:∀n,n=L.nP d (a,b)->mul n (mul q q)=add (mul (mul b b) (add (mul p p) (neg (mul d (mul q q))))) (mul (add (mul a q) (mul b p)) (add (mul a q) (neg (mul b p)))):=by
  rintro _ rfl
  exact(Laws.req L [a,b,p,q,d] (.mul (.add (.mul (.v 0) (.v 0)) (.neg (.mul (.mul (.v 1) (.v 1)) (.v 4)))) (.mul (.v 3) (.v 3))) (.add (.mul (.mul (.v 1) (.v 1)) (.add (.mul (.v 2) (.v 2)) (.neg (.mul (.v 4) (.mul (.v 3) (.v 3)))))) (.mul (.add (.mul (.v 0) (.v 3)) (.mul (.v 1) (.v 2))) (.add (.mul (.v 0) (.v 3)) (.neg (.mul (.v 1) (.v 2)))))) (by decide +kernel))
 have e1:=e1 _ rfl
 have hN:σ (L.nP d (a,b))=σ (add (mul a q) (mul b p))*σ (add (mul a q) (neg (mul b p))):=by
  have e4:=congrArg σ e1
  rw[S.add0 L (a:=mul (mul b b) (add (mul p p) (neg (mul d (mul q q))))) (by rw[S.sm,h0,Int.mul_zero]),S.sm,S.sm,hq,W4w,W4w,S.sm] at e4
  exact e4
 have e2:add (mul a q) (mul a q)=add (add (mul a q) (mul b p)) (add (mul a q) (neg (mul b p))):=(Laws.req L [a,b,p,q] (.add (.mul (.v 0) (.v 3)) (.mul (.v 0) (.v 3))) (.add (.add (.mul (.v 0) (.v 3)) (.mul (.v 1) (.v 2))) (.add (.mul (.v 0) (.v 3)) (.neg (.mul (.v 1) (.v 2))))) (by decide +kernel))
 have e3:add (mul b p) (mul b p)=add (add (mul a q) (mul b p)) (neg (add (mul a q) (neg (mul b p)))):=(Laws.req L [a,b,p,q] (.add (.mul (.v 1) (.v 2)) (.mul (.v 1) (.v 2))) (.add (.add (.mul (.v 0) (.v 3)) (.mul (.v 1) (.v 2))) (.neg (.add (.mul (.v 0) (.v 3)) (.neg (.mul (.v 1) (.v 2)))))) (by decide +kernel))
 have hX:σ a=σ (add (add (mul a q) (mul b p)) (add (mul a q) (neg (mul b p)))):=by
  rw[<-e2,S.same L rfl,S.sm,hq,W4w]
 have hY:σ b=σ (add (add (mul a q) (mul b p)) (neg (add (mul a q) (neg (mul b p))))):=by
  rw[<-e3,S.same L rfl,S.sm,hp,W4w]
 generalize add (mul a q) (mul b p)=A at *
 generalize add (mul a q) (neg (mul b p))=B at *
 rw[S.sx_eq L hd]
 show (if σ (L.nP d (a,b))=1 then σ a else if σ (L.nP d (a,b))=-1 then σ b else Int.sign (σ a+σ b))=σ A
 rw[hN]
 rcases S.tri A with h | h | h<;>rcases S.tri B with h' | h' | h'
 . rw[h,h',if_pos (by decide),hX,S.same L (by omega),h]
 . rw[h,h',if_neg (by decide),if_neg (by decide),hX,hY,S.add0' L h',S.add0' L (by rw[S.sn];omega),h];rfl
 . rw[h,h',if_neg (by decide),if_pos (by decide),hY,S.same L (by rw[S.sn];omega),h]
 . rw[h,h',if_neg (by decide),if_neg (by decide),hX,hY,S.add0 L h,S.add0 L h,S.sn,h'];rfl
 . rw[h,h',if_neg (by decide),if_neg (by decide),hX,hY,S.add0 L h,S.add0 L h,S.sn,h'];rfl
 . rw[h,h',if_neg (by decide),if_neg (by decide),hX,hY,S.add0 L h,S.add0 L h,S.sn,h'];rfl
 . rw[h,h',if_neg (by decide),if_pos (by decide),hY,S.same L (by rw[S.sn];omega),h]
 . rw[h,h',if_neg (by decide),if_neg (by decide),hX,hY,S.add0' L h',S.add0' L (by rw[S.sn];omega),h];rfl
 . rw[h,h',if_pos (by decide),hX,S.same L (by omega),h]
theorem Sgn.no_rt(hE:∀p q,¬L.Rt d σ p q){x:α×α}(h:σ (L.nP d x)=0): σ x.1=0/\σ x.2=0:=by
 obtain⟨a,b⟩:=x
 have h0:=(S.sxz L hd h).2
 have h0:σ a=0↔σ b=0:=h0
 have e:∀n,n=L.nP d (a,b)->add (mul a a) (neg (mul d (mul b b)))=n/\add (mul (neg a) (neg a)) (neg (mul d (mul b b)))=n/\add (mul a a) (neg (mul d (mul (neg b) (neg b))))=n/\add (mul (neg a) (neg a)) (neg (mul d (mul (neg b) (neg b))))=n:=by
  rintro _ rfl
  exact⟨(Laws.req L [a,b,d] (.add (.mul (.v 0) (.v 0)) (.neg (.mul (.v 2) (.mul (.v 1) (.v 1))))) (.add (.mul (.v 0) (.v 0)) (.neg (.mul (.mul (.v 1) (.v 1)) (.v 2)))) (by decide +kernel)),(Laws.req L [a,b,d] (.add (.mul (.neg (.v 0)) (.neg (.v 0))) (.neg (.mul (.v 2) (.mul (.v 1) (.v 1))))) (.add (.mul (.v 0) (.v 0)) (.neg (.mul (.mul (.v 1) (.v 1)) (.v 2)))) (by decide +kernel)),(Laws.req L [a,b,d] (.add (.mul (.v 0) (.v 0)) (.neg (.mul (.v 2) (.mul (.neg (.v 1)) (.neg (.v 1)))))) (.add (.mul (.v 0) (.v 0)) (.neg (.mul (.mul (.v 1) (.v 1)) (.v 2)))) (by decide +kernel)),(Laws.req L [a,b,d] (.add (.mul (.neg (.v 0)) (.neg (.v 0))) (.neg (.mul (.v 2) (.mul (.neg (.v 1)) (.neg (.v 1)))))) (.add (.mul (.v 0) (.v 0)) (.neg (.mul (.mul (.v 1) (.v 1)) (.v 2)))) (by decide +kernel))⟩
 obtain⟨e1,e2,e3,e4⟩:=e _ rfl
 show σ a=0/\σ b=0
 rcases S.tri a with h1 | h1 | h1
 . rcases S.tri b with h2 | h2 | h2
   . exact absurd ⟨h1,h2,by rw[e1];exact h⟩ (hE a b)
   . omega
   . exact absurd ⟨h1,by rw[S.sn];omega,by rw[e3];exact h⟩ (hE a (neg b))
 . exact⟨h1,h0.1 h1⟩
 . rcases S.tri b with h2 | h2 | h2
   . exact absurd ⟨by rw[S.sn];omega,h2,by rw[e2];exact h⟩ (hE (neg a) b)
   . omega
   . exact absurd ⟨by rw[S.sn];omega,by rw[S.sn];omega,by rw[e4];exact h⟩ (hE (neg a) (neg b))
theorem Sgn.sx_n(hE:∀p q,¬L.Rt d σ p q){n a b:α}(hn:σ n=1)(h:0<=L.sx d σ (a,b)): L.sx d σ (add a n,b)=1:=by
 have Sx:=@Sgn.sx1 _ _ _ _ _ _ d σ L S hd
 have Sm:=@Sgn.sxm _ _ _ _ _ _ d σ L S hd
 rcases S.tri (L.nP d (a,b)) with h1 | h1 | h1
 . obtain⟨k1,z1⟩:=Sx h1
   have k1:L.sx d σ (a,b)=σ a:=k1
   have z1:σ a≠0:=z1
   have ha:σ a=1:=by rcases S.tri a with h | h | h<;>omega
   have hN:σ (L.nP d (add a n,b))=1:=by
    have e:∀m,m=L.nP d (a,b)->L.nP d (add a n,b)=add m (mul n (add (add a a) n)):=by
     rintro _ rfl
     exact(Laws.req L [a,b,n,d] (.add (.mul (.add (.v 0) (.v 2)) (.add (.v 0) (.v 2))) (.neg (.mul (.mul (.v 1) (.v 1)) (.v 3)))) (.add (.add (.mul (.v 0) (.v 0)) (.neg (.mul (.mul (.v 1) (.v 1)) (.v 3)))) (.mul (.v 2) (.add (.add (.v 0) (.v 0)) (.v 2)))) (by decide +kernel))
    rw[e _ rfl]
    exact S.sp _ _ h1 (by rw[S.sm,hn,S.sp _ _ (S.sp _ _ ha (by omega)) (by omega)];decide)
   rw[(Sx hN).1]
   exact S.sp _ _ ha (by omega)
 . obtain⟨k1,k2⟩:=S.no_rt L hd hE h1
   have k1:σ a=0:=k1
   have k2:σ b=0:=k2
   have:σ (add a n)=1:=by rw[S.add0 L k1,hn]
   unfold Laws.sx
   rw[if_pos (.inl k2)];exact this
 . obtain⟨k1,z1⟩:=Sm h1
   have k1:L.sx d σ (a,b)=σ b:=k1
   have z1:σ b≠0:=z1
   have hb:σ b=1:=by rcases S.tri b with h | h | h<;>omega
   rcases S.tri (L.nP d (add a n,b)) with h2 | h2 | h2
   . obtain⟨k3,z3⟩:=Sx h2
     rw[k3]
     show σ (add a n)=1
     have z3:σ (add a n)≠0:=z3
     rcases S.tri (add a n) with h | h | h
     . exact h
     . omega
     . exfalso
       have e:∀m,m=L.nP d (add a n,b)->L.nP d (a,b)=add m (mul n (add (neg (add a n)) (add (neg (add a n)) n))):=by
        rintro _ rfl
        exact(Laws.req L [a,b,n,d] (.add (.mul (.v 0) (.v 0)) (.neg (.mul (.mul (.v 1) (.v 1)) (.v 3)))) (.add (.add (.mul (.add (.v 0) (.v 2)) (.add (.v 0) (.v 2))) (.neg (.mul (.mul (.v 1) (.v 1)) (.v 3)))) (.mul (.v 2) (.add (.neg (.add (.v 0) (.v 2))) (.add (.neg (.add (.v 0) (.v 2))) (.v 2))))) (by decide +kernel))
       have g1:σ (neg (add a n))=1:=by rw[S.sn];omega
       rw[e _ rfl,S.sp _ _ h2 (by rw[S.sm,hn,S.sp _ _ g1 (by rw[S.sp _ _ g1 (by omega)];decide)];decide)] at h1
       omega
   . have:=(S.no_rt L hd hE h2).2
     have:σ b=0:=this
     omega
   . rw[(Sm h2).1];exact hb
theorem Sgn.ext: Sgn L.aQ (L.mQ d) L.gQ (one,zero) (L.sx d σ):=by
 have tri:∀p,L.sx d σ p=1\/L.sx d σ p=0\/L.sx d σ p=-1:=by
  intro p
  rw[S.sx_eq L hd]
  split
  . exact S.tri _
  . split
    . exact S.tri _
    . rcases S.tri p.1 with h | h | h<;>rcases S.tri p.2 with h' | h' | h'<;>rw[h,h']<;>decide
 have low:∀a b,σ b=0->L.sx d σ (a,b)=σ a:=by
  intro a b h
  unfold Laws.sx
  rw[if_pos (.inl h)]
 by_cases hE:∃p q,L.Rt d σ p q
 . obtain⟨p,q,h⟩:=hE
   have hadd:∀x y:α×α,add (mul (L.aQ x y).1 q) (mul (L.aQ x y).2 p)=add (add (mul x.1 q) (mul x.2 p)) (add (mul y.1 q) (mul y.2 p)):=by
    rintro⟨a,b⟩ ⟨a2,b2⟩
    exact(Laws.req L [a,b,a2,b2,p,q] (.add (.mul (.add (.v 0) (.v 2)) (.v 5)) (.mul (.add (.v 1) (.v 3)) (.v 4))) (.add (.add (.mul (.v 0) (.v 5)) (.mul (.v 1) (.v 4))) (.add (.mul (.v 2) (.v 5)) (.mul (.v 3) (.v 4)))) (by decide +kernel))
   refine⟨tri,S.sneg L hd,S.smul L hd,λx y hx hy=>?_,λx y hx hy=>?_,by rw[low _ _ (S.s0 L),S.s1]⟩
   . rw[S.sx_rt L hd h] at hx hy |-
     rw[hadd];exact S.sa _ _ hx hy
   . rw[S.sx_rt L hd h] at hx hy |-
     rw[hadd];exact S.sp _ _ hx hy
 . have hE:∀p q,¬L.Rt d σ p q:=λp q h=>hE ⟨p,q,h⟩
   have pos:∀x y:α×α,L.sx d σ x=1->0<=L.sx d σ y->L.sx d σ (L.aQ x y)=1:=by
    intro x y hx hy
    have hN:σ (L.nP d x)≠0:=λh0=>by
     have h1:=(S.sxz L hd h0).1
     have h2:=S.no_rt L hd hE h0
     rw[h2.1,h2.2] at h1
     rw[h1] at hx
     exact absurd hx (by decide)
    have ex:L.mQ d x (x.1,neg x.2)=(L.nP d x,zero):=by
     obtain⟨a,b⟩:=x
     exact W3a (Laws.req L [a,b,d] (.add (.mul (.v 0) (.v 0)) (.mul (.mul (.v 1) (.neg (.v 1))) (.v 2))) (.add (.mul (.v 0) (.v 0)) (.neg (.mul (.mul (.v 1) (.v 1)) (.v 2)))) (by decide +kernel)) (Laws.req L [a,b] (.add (.mul (.v 0) (.neg (.v 1))) (.mul (.v 1) (.v 0))) .z (by decide +kernel))
    have ey:L.mQ d (L.aQ x y) (x.1,neg x.2)=(add (L.mQ d y (x.1,neg x.2)).1 (L.nP d x),(L.mQ d y (x.1,neg x.2)).2):=by
     obtain⟨a,b⟩:=x
     obtain⟨a2,b2⟩:=y
     exact W3a (Laws.req L [a,b,a2,b2,d] (.add (.mul (.add (.v 0) (.v 2)) (.v 0)) (.mul (.mul (.add (.v 1) (.v 3)) (.neg (.v 1))) (.v 4))) (.add (.add (.mul (.v 2) (.v 0)) (.mul (.mul (.v 3) (.neg (.v 1))) (.v 4))) (.add (.mul (.v 0) (.v 0)) (.neg (.mul (.mul (.v 1) (.v 1)) (.v 4))))) (by decide +kernel)) (Laws.req L [a,b,a2,b2,d] (.add (.mul (.add (.v 0) (.v 2)) (.neg (.v 1))) (.mul (.add (.v 1) (.v 3)) (.v 0))) (.add (.mul (.v 2) (.neg (.v 1))) (.mul (.v 3) (.v 0))) (by decide +kernel))
    have hc:L.sx d σ (x.1,neg x.2)=σ (L.nP d x):=by
     have:=S.smul L hd x (x.1,neg x.2)
     rw[ex,low _ _ (S.s0 L),hx,W5w] at this
     exact this.symm
    have hyc:=S.smul L hd y (x.1,neg x.2)
    have hxy:=S.smul L hd (L.aQ x y) (x.1,neg x.2)
    rw[hc] at hyc hxy
    rcases S.tri (L.nP d x) with h1 | h1 | h1
    . rw[h1,W4w] at hyc hxy
      rw[<-hxy,ey]
      exact S.sx_n L hd hE h1 (by rw[<-hyc] at hy;exact hy)
    . exact absurd h1 hN
    . rw[h1] at hyc hxy
      have hg:=S.sneg L hd (L.mQ d (L.aQ x y) (x.1,neg x.2))
      have eg:L.gQ (L.mQ d (L.aQ x y) (x.1,neg x.2))=(add (L.gQ (L.mQ d y (x.1,neg x.2))).1 (neg (L.nP d x)),(L.gQ (L.mQ d y (x.1,neg x.2))).2):=by
       rw[ey]
       exact W3a (L.nd _ _) rfl
      have h2:=S.sx_n L hd hE (n:=neg (L.nP d x)) (a:=(L.gQ (L.mQ d y (x.1,neg x.2))).1) (b:=(L.gQ (L.mQ d y (x.1,neg x.2))).2) (by rw[S.sn];omega) (by
       show 0<=L.sx d σ (L.gQ (L.mQ d y (x.1,neg x.2)))
       rw[S.sneg L hd,hyc];omega)
      rw[<-eg] at h2
      omega
   refine⟨tri,S.sneg L hd,S.smul L hd,λx y hx hy=>?_,pos,by rw[low _ _ (S.s0 L),S.s1]⟩
   rcases tri x with h | h | h
   . rw[pos x y h hy];decide
   . rcases tri y with h' | h' | h'
     . have e:L.aQ x y=L.aQ y x:=W3a (L.ac _ _) (L.ac _ _)
       rw[e,pos y x h' hx];decide
     . have zz:∀p,L.sx d σ p=0->σ p.1=0/\σ p.2=0:=by
        intro p hp
        rcases S.tri (L.nP d p) with g | g | g
        . have:=S.sx1 L hd g;omega
        . exact S.no_rt L hd hE g
        . have:=S.sxm L hd g;omega
       have z1:=zz x h
       have z2:=zz y h'
       have:L.sx d σ (L.aQ x y)=0:=by
        rw[show L.aQ x y=(add x.1 y.1,add x.2 y.2) from rfl,low _ _ (by rw[S.add0 L z1.2,z2.2]),S.add0 L z1.1,z2.1]
       omega
     . omega
   . omega
end
end
section
def Xet(x:Rat): Int:=if 0<x then 1 else if x<0 then -1 else 0
theorem Xa0(x:Rat): (0<x/\Xet x=1)\/(x=0/\Xet x=0)\/(x<0/\Xet x=-1):=by
 unfold Xet
 by_cases h:0<x
 . left;exact⟨h,if_pos h⟩
 . by_cases h2:x<0
   . right;right;exact⟨h2,by rw[if_neg h,if_pos h2]⟩
   . right;left;exact⟨by grind,by rw[if_neg h,if_neg h2]⟩
theorem Xbh{x:Rat}(h:0<x): Xet x=1:=if_pos h
theorem Xdo{x:Rat}(h:x<0): Xet x=-1:=by unfold Xet;rw[if_neg (by grind),if_pos h]
theorem Xib{x y:Rat}(h:x<0)(k:0<y): x*y<0:=by
 have:=W4q (show 0 < -x by grind) k
 grind
theorem Xoe{x y:Rat}(h:x<0)(k:y<0): 0<x*y:=by
 have:=W4q (show 0 < -x by grind) (show 0 < -y by grind)
 grind
theorem Yd6: Sgn (α:=Rat) (λx y=>x+y) (λx y=>x*y) (λx=>-x) 1 Xet:=by
 refine⟨λa=>?_,λa=>?_,λa b=>?_,λa b ha hb=>?_,λa b ha hb=>?_,by decide⟩
 . rcases Xa0 a with h | h | h<;>simp[h.2]
 . rcases Xa0 a with h | h | h
   . rw[h.2,Xdo (by grind)]
   . rw[h.1,Rat.neg_zero];rfl
   . rw[h.2,Xbh (by grind)];rfl
 . rcases Xa0 a with h | h | h<;>rcases Xa0 b with k | k | k<;>rw[h.2,k.2]
   . exact Xbh (W4q h.1 k.1)
   . rw[k.1,Rat.mul_zero];rfl
   . rw[Rat.mul_comm];exact Xdo (Xib k.1 h.1)
   . rw[h.1,W5l];rfl
   . rw[h.1,W5l];rfl
   . rw[h.1,W5l];rfl
   . exact Xdo (Xib h.1 k.1)
   . rw[k.1,Rat.mul_zero];rfl
   . exact Xbh (Xoe h.1 k.1)
 . rcases Xa0 a with h | h | h<;>rcases Xa0 b with k | k | k<;>rw[h.2] at ha<;>rw[k.2] at hb<;>first | (exact absurd ha (by decide)) | (exact absurd hb (by decide)) | skip
   . rw[Xbh (by grind)];decide
   . rw[Xbh (by grind)];decide
   . rw[Xbh (by grind)];decide
   . rw[h.1,k.1,W7w];decide
 . rcases Xa0 a with h | h | h<;>rcases Xa0 b with k | k | k<;>rw[h.2] at ha<;>rw[k.2] at hb<;>first | (exact absurd ha (by decide)) | (exact absurd hb (by decide)) | exact Xbh (by grind)
def sgn: (k:Nat)->Tw k->El k->Int
 | 0=>λ_ (x:Rat)=>Xet x
 | k+1=>λt a=>(Xbc k t.1).sx t.2 (sgn k t.1) a
def Xbv: (k:Nat)->Tw k->Prop
 | 0=>λ_=>True
 | k+1=>λt=>Xbv k t.1/\sgn k t.1 t.2=1
theorem Xav: ∀ {k:Nat} {t:Tw k},Xbv k t->Sgn (add k) (mul k t) (neg k) (rat k 1) (sgn k t)
 | 0,_,_=>Yd6
 | k+1,t,h=>(Xav h.1).ext (Xbc k t.1) h.2
section
variable{k:Nat}{t:Tw k}
theorem Xt2{t:Tw (k+1)}(a:El k)(h:Xbv k t.1): sgn (k+1) t (up k a)=sgn k t.1 a:=by
 have hz:=(Xav h).s0 (Xbc k t.1)
 show (Xbc k t.1).sx t.2 (sgn k t.1) (a,zero k)=_
 unfold Laws.sx
 rw[if_pos (.inl hz)]
theorem Xe1{x:Rat}(h:Xbv k t): sgn k t (rat k x)=Xet x:=by
 induction k with
 | zero=>rfl
 | succ k ih=>rw[show rat (k+1) x=up k (rat k x) from rfl,Xt2 _ h.1,ih h.1]
theorem Xc4: ∀ {k:Nat} (t:Tw k) (a:El k),sgn k t a=1\/sgn k t a=0\/sgn k t a=-1
 | 0,_,a=>by
  rcases Xa0 a with h | h | h
  . exact .inl h.2
  . exact .inr (.inl h.2)
  . exact .inr (.inr h.2)
 | k+1,t,a=>by
  show (Xbc k t.1).sx t.2 (sgn k t.1) a=1\/(Xbc k t.1).sx t.2 (sgn k t.1) a=0\/(Xbc k t.1).sx t.2 (sgn k t.1) a=-1
  unfold Laws.sx
  split
  . exact Xc4 _ _
  . split
    . exact Xc4 _ _
    . rcases Xc4 t.1 a.1 with h | h | h<;>rcases Xc4 t.1 ((Xbc k t.1).nP t.2 a) with g | g | g<;>rw[h,g]<;>decide
def le(k:Nat)(t:Tw k)(a b:El k): Prop:=0<=sgn k t (add k b (neg k a))
end
end
section
section
variable{α:Type}{add mul:α->α->α}{neg:α->α}{zero one:α}{σ:α->Int}(L:Laws add mul neg zero one)(S:Sgn add mul neg one σ)
include L S
theorem Sgn.le_rf(a:α): 0<=σ (add a (neg a)):=by rw[L.an,S.s0 L];exact W8i _
theorem Sgn.le_tr{a b c:α}(h:0<=σ (add b (neg a)))(k:0<=σ (add c (neg b))): 0<=σ (add c (neg a)):=by
 have e:add c (neg a)=add (add c (neg b)) (add b (neg a)):=(Laws.req L [a,b,c] (.add (.v 2) (.neg (.v 0))) (.add (.add (.v 2) (.neg (.v 1))) (.add (.v 1) (.neg (.v 0)))) (by decide +kernel))
 rw[e];exact S.sa _ _ k h
theorem Sgn.le_ad{a b c d:α}(h:0<=σ (add b (neg a)))(k:0<=σ (add d (neg c))): 0<=σ (add (add b d) (neg (add a c))):=by
 have e:add (add b d) (neg (add a c))=add (add b (neg a)) (add d (neg c)):=(Laws.req L [a,b,c,d] (.add (.add (.v 1) (.v 3)) (.neg (.add (.v 0) (.v 2)))) (.add (.add (.v 1) (.neg (.v 0))) (.add (.v 3) (.neg (.v 2)))) (by decide +kernel))
 rw[e];exact S.sa _ _ h k
theorem Sgn.le_ml{a b c:α}(h:0<=σ (add b (neg a)))(hc:0<=σ c): 0<=σ (add (mul c b) (neg (mul c a))):=by
 have e:add (mul c b) (neg (mul c a))=mul c (add b (neg a)):=(Laws.req L [a,b,c] (.add (.mul (.v 2) (.v 1)) (.neg (.mul (.v 2) (.v 0)))) (.mul (.v 2) (.add (.v 1) (.neg (.v 0)))) (by decide +kernel))
 rw[e,S.sm];exact Int.mul_nonneg hc h
theorem Sgn.le_mn{a b c:α}(h:0<=σ (add b (neg a)))(hc:σ c<=0): 0<=σ (add (mul c a) (neg (mul c b))):=by
 have e:add (mul c a) (neg (mul c b))=mul (neg c) (add b (neg a)):=(Laws.req L [a,b,c] (.add (.mul (.v 2) (.v 0)) (.neg (.mul (.v 2) (.v 1)))) (.mul (.neg (.v 2)) (.add (.v 1) (.neg (.v 0)))) (by decide +kernel))
 rw[e,S.sm,S.sn];exact Int.mul_nonneg (by omega) h
theorem Sgn.le_sq{x y:α}(hx:0<=σ x)(hy:0<=σ y)(h:0<=σ (add (mul y y) (neg (mul x x)))): 0<=σ (add y (neg x)):=by
 have e:add (mul y y) (neg (mul x x))=mul (add y (neg x)) (add y x):=(Laws.req L [x,y] (.add (.mul (.v 1) (.v 1)) (.neg (.mul (.v 0) (.v 0)))) (.mul (.add (.v 1) (.neg (.v 0))) (.add (.v 1) (.v 0))) (by decide +kernel))
 rw[e,S.sm] at h
 rcases S.tri (add y (neg x)) with h1 | h1 | h1
 . omega
 . omega
 . have h2:σ (add x (neg y))=1:=by
    have e2:add x (neg y)=neg (add y (neg x)):=(Laws.req L [x,y] (.add (.v 0) (.neg (.v 1))) (.neg (.add (.v 1) (.neg (.v 0)))) (by decide +kernel))
    rw[e2,S.sn,h1];rfl
   have h3:=S.sp _ (add y y) h2 (S.sa _ _ hy hy)
   have e3:add (add x (neg y)) (add y y)=add y x:=(Laws.req L [x,y] (.add (.add (.v 0) (.neg (.v 1))) (.add (.v 1) (.v 1))) (.add (.v 1) (.v 0)) (by decide +kernel))
   rw[e3] at h3
   rw[h1,h3] at h
   exact absurd h (by decide)
end
def tw0: (k:Nat)->Tw k
 | 0=>()
 | k+1=>(tw0 k,zero k)
theorem Xge: ∀(k:Nat) (x y:Rat),rat k (x+y)=add k (rat k x) (rat k y)
 | 0,_,_=>rfl
 | k+1,x,y=>by
  show (rat k (x+y),zero k)=(add k (rat k x) (rat k y),add k (zero k) (zero k))
  rw[Xge k,(Xbc k (tw0 k)).az]
theorem Xh1: ∀(k:Nat) (x:Rat),rat k (-x)=neg k (rat k x)
 | 0,_=>rfl
 | k+1,x=>by
  show (rat k (-x),zero k)=(neg k (rat k x),neg k (zero k))
  rw[Xh1 k,(Xbc k (tw0 k)).nz]
theorem Xc6: ∀(k:Nat) (t:Tw k) (x y:Rat),rat k (x*y)=mul k t (rat k x) (rat k y)
 | 0,_,_,_=>rfl
 | k+1,t,x,y=>by
  show up k (rat k (x*y))=mul (k+1) t (up k (rat k x)) (up k (rat k y))
  rw[Xu5,Xc6 k t.1]
section
variable{k:Nat}{t:Tw k}
theorem Xbe(h:Xbv k t){x y:Rat}: le k t (rat k x) (rat k y)↔x<=y:=by
 unfold le
 rw[<-Xh1,<-Xge,Xe1 h]
 rcases Xa0 (y+-x) with ⟨h1,e⟩ | ⟨h1,e⟩ | ⟨h1,e⟩<;>rw[e]
 . exact⟨λ_=>by grind,λ_=>by decide⟩
 . exact⟨λ_=>by grind,λ_=>by decide⟩
 . exact⟨λh=>absurd h (by decide),λh=>absurd h (by grind)⟩
theorem le_tr(h:Xbv k t){a b c:El k}(h1:le k t a b)(h2:le k t b c): le k t a c:=(Xav h).le_tr (Xbc k t) h1 h2
theorem Xia(h:Xbv k t){a:El k}: le k t (rat k 0) a↔0<=sgn k t a:=by
 unfold le
 rw[Xg9,(Xbc k t).nz,(Xbc k t).az]
def inI(k:Nat)(t:Tw k)(a:El k)(x y:Rat): Prop:=le k t (rat k x) a/\le k t a (rat k y)
theorem Xk6(h:Xbv k t){a:El k}{x y x' y':Rat}(i:inI k t a x y)(hx:x'<=x)(hy:y<=y'): inI k t a x' y' :=
 ⟨le_tr h ((Xbe h).2 hx) i.1,le_tr h i.2 ((Xbe h).2 hy)⟩
theorem Yc1(h:Xbv k t){a:El k}{x y:Rat}(i:inI k t a x y): x<=y:=(Xbe h).1 (le_tr h i.1 i.2)
theorem Xv1(h:Xbv k t){a b:El k}{x y x' y':Rat}(i:inI k t a x y)(j:inI k t b x' y'): inI k t (add k a b) (x+x') (y+y'):=by
 refine⟨?_,?_⟩
 . rw[Xge];exact(Xav h).le_ad (Xbc k t) i.1 j.1
 . rw[Xge];exact(Xav h).le_ad (Xbc k t) i.2 j.2
theorem Xv0(h:Xbv k t){v s:El k}{a b c d m M:Rat}(i:inI k t v a b)(j:inI k t s c d)(hc:0<=c)(h1:m<=a*c)(h2:m<=a*d)(h3:b*c<=M)(h4:b*d<=M): inI k t (mul k t v s) m M:=by
 have S:=Xav h
 have L:=Xbc k t
 have hs:0<=sgn k t s:=(Xia h).1 (le_tr h ((Xbe h).2 hc) j.1)
 have hsr:∀x:Rat,sgn k t (rat k x)=Xet x:=λx=>Xe1 h
 refine⟨?_,?_⟩
 . have e1:le k t (mul k t (rat k a) s) (mul k t v s):=by
    rw[L.mc _ s,L.mc _ s];exact S.le_ml L i.1 hs
   refine le_tr h ?_ e1
   by_cases ha:0<=a
   . refine le_tr h ((Xbe h).2 h1) ?_
     rw[Xc6 k t]
     exact S.le_ml L j.1 (by rw[hsr];rcases Xa0 a with ⟨g,e⟩ | ⟨g,e⟩ | ⟨g,e⟩<;>rw[e]<;>first | decide | grind)
   . refine le_tr h ((Xbe h).2 h2) ?_
     rw[Xc6 k t]
     exact S.le_mn L j.2 (by rw[hsr,Xdo (by grind)];decide)
 . have e1:le k t (mul k t v s) (mul k t (rat k b) s):=by
    rw[L.mc _ s,L.mc _ s];exact S.le_ml L i.2 hs
   refine le_tr h e1 ?_
   by_cases hb:0<=b
   . refine le_tr h ?_ ((Xbe h).2 h4)
     rw[Xc6 k t]
     exact S.le_ml L j.2 (by rw[hsr];rcases Xa0 b with ⟨g,e⟩ | ⟨g,e⟩ | ⟨g,e⟩<;>rw[e]<;>first | decide | grind)
   . refine le_tr h ?_ ((Xbe h).2 h3)
     rw[Xc6 k t]
     exact S.le_mn L j.1 (by rw[hsr,Xdo (by grind)];decide)
end
section
variable{k:Nat}{t:Tw (k+1)}
theorem Xmq(h:Xbv k t.1){a:El k}{x y:Rat}(i:inI k t.1 a x y): inI (k+1) t (up k a) x y:=by
 have e:∀a b:El k,add (k+1) (up k b) (neg (k+1) (up k a))=up k (add k b (neg k a)):=by
  intro a b
  show (add k b (neg k a),add k (zero k) (neg k (zero k)))=(add k b (neg k a),zero k)
  rw[(Xbc k t.1).an]
 refine⟨?_,?_⟩
 . show 0<=sgn (k+1) t (add (k+1) (up k a) (neg (k+1) (up k (rat k x))))
   rw[e,Xt2 _ h];exact i.1
 . show 0<=sgn (k+1) t (add (k+1) (up k (rat k y)) (neg (k+1) (up k a)))
   rw[e,Xt2 _ h];exact i.2
def rt1(k:Nat): El (k+1):=(zero k,rat k 1)
theorem Ycc: mul (k+1) t (rt1 k) (rt1 k)=up k t.2:=by
 have L:=Xbc k t.1
 simp only[mul,up,rt1,L.mz,L.zm,L.az,L.za,L.mo,L.om];rfl
theorem Xt3(h:Xbv k t.1): sgn (k+1) t (rt1 k)=1:=by
 have S:=Xav h
 have h1:sgn k t.1 (rat k 1)=1:=S.s1
 have h0:sgn k t.1 (zero k)=0:=S.s0 (Xbc k t.1)
 show (Xbc k t.1).sx t.2 (sgn k t.1) (zero k,rat k 1)=1
 unfold Laws.sx
 rw[if_neg (by rw[h1,h0];decide),if_pos h0,h1]
theorem Xrj(a:El (k+1)): a=add (k+1) (up k a.1) (mul (k+1) t (up k a.2) (rt1 k)):=by
 have L:=Xbc k t.1
 obtain⟨a,b⟩:=a
 simp only[add,mul,up,rt1,L.mz,L.zm,L.az,L.za,L.mo,L.om];rfl
theorem Xvz(h:Xbv (k+1) t){r1 r2 c d:Rat}(i:inI k t.1 t.2 r1 r2)(hc:0<=c)(hd:0<=d)(h1:c*c<=r1\/c=0)(h2:r2<=d*d): inI (k+1) t (rt1 k) c d:=by
 have S:=Xav h
 have L:=Xbc (k+1) t
 have hr:=Xt3 (t:=t) h.1
 have iu:=Xmq h.1 i
 have hsr:∀x:Rat,0<=x->0<=sgn (k+1) t (rat (k+1) x):=λx hx=>by
  rw[Xe1 h];rcases Xa0 x with ⟨g,e⟩ | ⟨g,e⟩ | ⟨g,e⟩<;>rw[e]<;>first | decide | grind
 refine⟨?_,?_⟩
 . rcases h1 with h1 | rfl
   . refine S.le_sq L (hsr c hc) (by omega) ?_
     rw[<-Xc6,Ycc]
     exact le_tr h ((Xbe h).2 h1) iu.1
   . exact(Xia h).2 (by omega)
 . refine S.le_sq L (by omega) (hsr d hd) ?_
   rw[<-Xc6,Ycc]
   exact le_tr h iu.2 ((Xbe h).2 h2)
end
end
section
section
variable{k:Nat}{w:Tw k}{x:El k}
def tsn{k:Nat}(w:Tw k)(y:El k): Tw (k+1):=(w,y)
end
end
section
def Xch(k:Nat)(t:Tw k)(a:El k): Prop:=∃w,mul k t w w=a
def red: (k:Nat)->Tw k->Prop
 | 0=>λ_=>True
 | k+1=>λt=>red k t.1/\sgn k t.1 t.2=1/\¬Xch k t.1 t.2
theorem Xah: ∀ {k:Nat} {t:Tw k},red k t->Xbv k t
 | 0,_,_=>trivial
 | k+1,t,h=>⟨Xah h.1,h.2.1⟩
section
variable{α:Type}{add mul:α->α->α}{neg:α->α}{zero one:α}(L:Laws add mul neg zero one)
include L
theorem Laws.sub0{a b:α}(h:add a (neg b)=zero): a=b:=by
 have e:a=add (add a (neg b)) b:=(Laws.req L [a,b] (.v 0) (.add (.add (.v 0) (.neg (.v 1))) (.v 1)) (by decide +kernel))
 rw[e,h,L.za]
theorem Laws.sb{a b:α}(h:a=b): add a (neg b)=zero:=by rw[h,L.an]
theorem Laws.hi{h i m r u v x:α}(hh:add h h=one)(hx:mul x x=mul h (add u m))(hm:mul m m=add (mul u u) (neg (mul (mul v v) r)))(hi:mul i (add x x)=one):
 add (mul x x) (mul (mul (mul v i) (mul v i)) r)=u/\add (mul x (mul v i)) (mul (mul v i) x)=v:=by
 have e1:mul (mul v v) r=mul (add u (neg m)) (add u m):=by
  have:mul (mul v v) r=add (mul u u) (neg (mul m m)):=by
   rw[hm];exact(Laws.req L [u,v,r] (.mul (.mul (.v 1) (.v 1)) (.v 2)) (.add (.mul (.v 0) (.v 0)) (.neg (.add (.mul (.v 0) (.v 0)) (.neg (.mul (.mul (.v 1) (.v 1)) (.v 2)))))) (by decide +kernel))
  rw[this];exact(Laws.req L [u,m] (.add (.mul (.v 0) (.v 0)) (.neg (.mul (.v 1) (.v 1)))) (.mul (.add (.v 0) (.neg (.v 1))) (.add (.v 0) (.v 1))) (by decide +kernel))
 have e2:add u m=add (mul x x) (mul x x):=by
  rw[hx,<-L.dm,hh,L.om]
 have e3:mul (mul i i) (add (mul x x) (mul x x))=h:=by
  have:mul (mul i i) (add (mul x x) (mul x x))=mul h (mul (mul i (add x x)) (mul i (add x x))):=by
   have e4:mul h (mul (mul i (add x x)) (mul i (add x x)))=mul (add h h) (mul (mul i i) (add (mul x x) (mul x x))):=(Laws.req L [h,i,x] (.mul (.v 0) (.mul (.mul (.v 1) (.add (.v 2) (.v 2))) (.mul (.v 1) (.add (.v 2) (.v 2))))) (.mul (.add (.v 0) (.v 0)) (.mul (.mul (.v 1) (.v 1)) (.add (.mul (.v 2) (.v 2)) (.mul (.v 2) (.v 2))))) (by decide +kernel))
   rw[e4,hh,L.om]
  rw[this,hi,L.mo,L.mo]
 constructor
 . have e5:mul (mul (mul v i) (mul v i)) r=mul (add u (neg m)) h:=by
    have:mul (mul (mul v i) (mul v i)) r=mul (mul i i) (mul (mul v v) r):=(Laws.req L [v,i,r] (.mul (.mul (.mul (.v 0) (.v 1)) (.mul (.v 0) (.v 1))) (.v 2)) (.mul (.mul (.v 1) (.v 1)) (.mul (.mul (.v 0) (.v 0)) (.v 2))) (by decide +kernel))
    rw[this,e1]
    have:mul (mul i i) (mul (add u (neg m)) (add u m))=mul (add u (neg m)) (mul (mul i i) (add u m)):=(Laws.req L [u,m,i] (.mul (.mul (.v 2) (.v 2)) (.mul (.add (.v 0) (.neg (.v 1))) (.add (.v 0) (.v 1)))) (.mul (.add (.v 0) (.neg (.v 1))) (.mul (.mul (.v 2) (.v 2)) (.add (.v 0) (.v 1)))) (by decide +kernel))
    rw[this,e2,e3]
   rw[e5,hx]
   have:add (mul h (add u m)) (mul (add u (neg m)) h)=mul (add h h) u:=(Laws.req L [h,u,m] (.add (.mul (.v 0) (.add (.v 1) (.v 2))) (.mul (.add (.v 1) (.neg (.v 2))) (.v 0))) (.mul (.add (.v 0) (.v 0)) (.v 1)) (by decide +kernel))
   rw[this,hh,L.om]
 . have:add (mul x (mul v i)) (mul (mul v i) x)=mul v (mul i (add x x)):=(Laws.req L [x,v,i] (.add (.mul (.v 0) (.mul (.v 1) (.v 2))) (.mul (.mul (.v 1) (.v 2)) (.v 0))) (.mul (.v 1) (.mul (.v 2) (.add (.v 0) (.v 0)))) (by decide +kernel))
   rw[this,hi,L.mo]
end
section
variable{k:Nat}{t:Tw k}
theorem Xp3(h:Xbv k t){a b:El k}(e:mul k t a b=zero k): sgn k t a=0\/sgn k t b=0:=by
 have:=(Xav h).sm a b
 rw[e,(Xav h).s0 (Xbc k t)] at this
 exact Int.mul_eq_zero.1 this.symm
theorem Xd3: ∀ {k:Nat} {t:Tw k},red k t->(∀a,sgn k t a=0->a=zero k)/\(∀a,a≠zero k->∃b,inv k t a=some b)
 | 0,_,_=>by
  refine⟨λa h=>?_,λa h=>?_⟩
  . rcases Xa0 a with ⟨h1,e⟩ | ⟨h1,e⟩ | ⟨h1,e⟩
    . exact absurd (show Xet a=0 from h) (by rw[e];decide)
    . exact h1
    . exact absurd (show Xet a=0 from h) (by rw[e];decide)
  . have h2:∀x:Rat,¬x=0->∃b,(if x=0 then none else some (1/x))=some b:=λx h=>⟨1/x,if_neg h⟩
    exact h2 a h
 | k+1,t,h=>by
  obtain⟨f1,f2⟩:=Xd3 h.1
  have R:=Xah h.1
  have L:=Xbc k t.1
  have S:=Xav R
  have key:∀x y:El k,norm k t (x,y)=zero k->x=zero k/\y=zero k:=by
   intro x y hn
   have hn:add k (mul k t.1 x x) (neg k (mul k t.1 (mul k t.1 y y) t.2))=zero k:=hn
   by_cases hy:y=zero k
   . subst hy
     rw[L.mz,L.zm,L.nz,L.az] at hn
     refine⟨f1 x ?_,rfl⟩
     rcases Xp3 R hn with e | e<;>exact e
   . exfalso
     obtain⟨b,hb⟩:=f2 y hy
     have hb:=Xdv hb
     refine h.2.2 ⟨mul k t.1 x b,?_⟩
     have e:=L.sub0 hn
     have e1:mul k t.1 (mul k t.1 x b) (mul k t.1 x b)=mul k t.1 (mul k t.1 b b) (mul k t.1 x x):=(Laws.req L [x,b] (.mul (.mul (.v 0) (.v 1)) (.mul (.v 0) (.v 1))) (.mul (.mul (.v 1) (.v 1)) (.mul (.v 0) (.v 0))) (by decide +kernel))
     have e2:mul k t.1 (mul k t.1 b b) (mul k t.1 (mul k t.1 y y) t.2)=mul k t.1 (mul k t.1 (mul k t.1 b y) (mul k t.1 b y)) t.2:=(Laws.req L [b,y,t.2] (.mul (.mul (.v 0) (.v 0)) (.mul (.mul (.v 1) (.v 1)) (.v 2))) (.mul (.mul (.mul (.v 0) (.v 1)) (.mul (.v 0) (.v 1))) (.v 2)) (by decide +kernel))
     rw[e1,e,e2,hb,L.mo,L.om]
  refine⟨λa ha=>?_,λa ha=>?_⟩
  . obtain⟨x,y⟩:=a
    have ha:L.sx t.2 (sgn k t.1) (x,y)=0:=ha
    have hz:x=zero k/\y=zero k:=by
     unfold Laws.sx at ha
     split at ha
     . rename_i h1
       have h1:sgn k t.1 y=0\/sgn k t.1 x=sgn k t.1 y:=h1
       have ha:sgn k t.1 x=0:=ha
       exact⟨f1 _ ha,f1 _ (by omega)⟩
     . rename_i h1
       have h1:¬(sgn k t.1 y=0\/sgn k t.1 x=sgn k t.1 y):=h1
       split at ha
       . have ha:sgn k t.1 y=0:=ha
         omega
       . rename_i h2
         have h2:¬sgn k t.1 x=0:=h2
         rcases Int.mul_eq_zero.1 ha with e | e
         . exact absurd e h2
         . exact key x y (f1 _ e)
    rw[hz.1,hz.2];rfl
  . have hn:norm k t a≠zero k:=λe=>ha (by
     obtain⟨x,y⟩:=a
     obtain⟨e1,e2⟩:=key x y e
     rw[e1,e2];rfl)
    obtain⟨b,hb⟩:=f2 _ hn
    refine⟨(mul k t.1 a.1 b,neg k (mul k t.1 a.2 b)),?_⟩
    show (match inv k t.1 (norm k t a) with | none=>none | some n=>some (mul k t.1 a.1 n,neg k (mul k t.1 a.2 n)))=_
    rw[hb];rfl
theorem Xbt(h:red k t){a:El k}: sgn k t a=0↔a=zero k :=
 ⟨(Xd3 h).1 a,λe=>by rw[e];exact(Xav (Xah h)).s0 (Xbc k t)⟩
theorem Xg8(h:red k t){a b:El k}(e:mul k t a b=zero k): a=zero k\/b=zero k :=
 (Xp3 (Xah h) e).imp (Xbt h).1 (Xbt h).1
theorem Xts(h:red k t){a b:El k}(e:mul k t a a=mul k t b b): a=b\/a=neg k b:=by
 have L:=Xbc k t
 have e1:mul k t (add k a (neg k b)) (add k a b)=add k (mul k t a a) (neg k (mul k t b b)):=(Laws.req L [a,b] (.mul (.add (.v 0) (.neg (.v 1))) (.add (.v 0) (.v 1))) (.add (.mul (.v 0) (.v 0)) (.neg (.mul (.v 1) (.v 1)))) (by decide +kernel))
 rw[L.sb e] at e1
 rcases Xg8 h e1 with e2 | e2
 . exact .inl (L.sub0 e2)
 . right
   rw[L.ac] at e2
   exact L.nu e2
theorem Xpt(h:red k t){a b:El k}(e:mul k t a a=mul k t b b)(ha:0<=sgn k t a)(hb:0<=sgn k t b): a=b:=by
 rcases Xts h e with e1 | e1
 . exact e1
 . rw[e1,(Xav (Xah h)).sn] at ha
   have hb0:b=zero k:=(Xbt h).1 (by omega)
   rw[e1,hb0,(Xbc k t).nz]
theorem Ymw(h:Xbv k t){a:El k}(e:Xch k t a): 0<=sgn k t a:=by
 obtain⟨w,rfl⟩:=e
 rw[(Xav h).sm]
 exact(Xdx (Xc4 t w)).1
theorem Yqh(h:red k t){a:El k}(e:add k a a=zero k): a=zero k:=by
 rw[<-Xbt h] at e |-
 rwa[(Xav (Xah h)).same (Xbc k t) rfl] at e
theorem Xfw: add k (rat k (1/2)) (rat k (1/2))=rat k 1:=by
 rw[<-Xge];congr 1;grind
end
section
variable{k:Nat}{t:Tw (k+1)}
theorem Yh5{w u:El k}(e:mul k t.1 w w=u): mul (k+1) t (up k w) (up k w)=up k u:=by rw[Xu5,e]
theorem Xtu{w u i:El k}(hi:mul k t.1 i t.2=rat k 1)(e:mul k t.1 w w=mul k t.1 u i): mul (k+1) t (zero k,w) (zero k,w)=up k u:=by
 have L:=Xbc k t.1
 have hi:=hi
 refine W3a ?_ ?_
 . show add k (mul k t.1 (zero k) (zero k)) (mul k t.1 (mul k t.1 w w) t.2)=u
   rw[e,L.mz,L.za,L.ma,hi,L.mo]
 . show add k (mul k t.1 (zero k) w) (mul k t.1 w (zero k))=zero k
   rw[L.mz,L.zm,L.az]
theorem Xlu(h:red k t.1){u i:El k}(hi:mul k t.1 i t.2=rat k 1)(h1:¬Xch k t.1 u)(h2:¬Xch k t.1 (mul k t.1 u i)): ¬Xch (k+1) t (up k u):=by
 rintro⟨⟨p,q⟩,e⟩
 have L:=Xbc k t.1
 have e1:add k (mul k t.1 p p) (mul k t.1 (mul k t.1 q q) t.2)=u:=congrArg Prod.fst e
 have e2:add k (mul k t.1 p q) (mul k t.1 q p)=zero k:=congrArg Prod.snd e
 rw[L.mc q p] at e2
 rcases Xg8 h (Yqh h e2) with e3 | e3
 . refine h2 ⟨q,?_⟩
   rw[<-e1,e3,L.mz,L.za]
   have:mul k t.1 (mul k t.1 (mul k t.1 q q) t.2) i=mul k t.1 (mul k t.1 q q) (mul k t.1 i t.2):=(Laws.req L [q,t.2,i] (.mul (.mul (.mul (.v 0) (.v 0)) (.v 1)) (.v 2)) (.mul (.mul (.v 0) (.v 0)) (.mul (.v 2) (.v 1))) (by decide +kernel))
   rw[this,hi,L.mo]
 . exact h1 ⟨p,by rw[<-e1,e3,L.mz,L.zm,L.az]⟩
theorem Yh7{u v m w i:El k}(hm:mul k t.1 m m=norm k t (u,v))(hw:mul k t.1 w w=mul k t.1 (rat k (1/2)) (add k u m))(hi:mul k t.1 i (add k w w)=rat k 1):
 mul (k+1) t (w,mul k t.1 v i) (w,mul k t.1 v i)=(u,v):=by
 obtain⟨e1,e2⟩:=(Xbc k t.1).hi Xfw hw hm hi
 exact W3a e1 e2
theorem Xtt{a:El (k+1)}(h:Xch (k+1) t a): Xch k t.1 (norm k t a):=by
 obtain⟨w,rfl⟩:=h
 exact⟨norm k t w,by rw[Xqw]⟩
theorem Xpu(h:red k t.1){u v m:El k}(hv:v≠zero k)(hm:mul k t.1 m m=norm k t (u,v))(hs:Xch (k+1) t (u,v)):
 ∃p,p≠zero k/\(mul k t.1 p p=mul k t.1 (rat k (1/2)) (add k u m)\/mul k t.1 p p=mul k t.1 (rat k (1/2)) (add k u (neg k m))):=by
 obtain⟨⟨p,q⟩,e⟩:=hs
 have L:=Xbc k t.1
 have e1:add k (mul k t.1 p p) (mul k t.1 (mul k t.1 q q) t.2)=u:=congrArg Prod.fst e
 have e2:add k (mul k t.1 p q) (mul k t.1 q p)=v:=congrArg Prod.snd e
 have hh:add k (rat k (1/2)) (rat k (1/2))=rat k 1:=Xfw
 refine⟨p,λe0=>hv (by rw[<-e2,e0,L.mz,L.zm,L.az]),?_⟩
 have key:mul k t.1 p p=mul k t.1 (rat k (1/2)) (add k u (norm k t (p,q))):=by
  rw[<-e1]
  show _=mul k t.1 (rat k (1/2)) (add k _ (add k (mul k t.1 p p) (neg k (mul k t.1 (mul k t.1 q q) t.2))))
  generalize rat k (1/2)=c at hh |-
  have e4:mul k t.1 c (add k (add k (mul k t.1 p p) (mul k t.1 (mul k t.1 q q) t.2)) (add k (mul k t.1 p p) (neg k (mul k t.1 (mul k t.1 q q) t.2))))=mul k t.1 (add k c c) (mul k t.1 p p):=(Laws.req L [c,p,q,t.2] (.mul (.v 0) (.add (.add (.mul (.v 1) (.v 1)) (.mul (.mul (.v 2) (.v 2)) (.v 3))) (.add (.mul (.v 1) (.v 1)) (.neg (.mul (.mul (.v 2) (.v 2)) (.v 3)))))) (.mul (.add (.v 0) (.v 0)) (.mul (.v 1) (.v 1))) (by decide +kernel))
  rw[e4,hh,L.om]
 have e3:mul k t.1 m m=mul k t.1 (norm k t (p,q)) (norm k t (p,q)):=by
  rw[hm,<-e]
  exact Xqw k t (pr p q) (pr p q)
 rcases Xts h e3 with e5 | e5
 . left;rw[e5];exact key
 . right;rw[e5,L.nn];exact key
end
theorem Xzw{k:Nat}{t:Tw k}{a b b':El k}(h:mul k t b a=rat k 1)(h':mul k t b' a=rat k 1): b=b':=by
 have L:=Xbc k t
 have e:mul k t b (mul k t b' a)=mul k t b' (mul k t b a):=(Laws.req L [a,b,b'] (.mul (.v 1) (.mul (.v 2) (.v 0))) (.mul (.v 2) (.mul (.v 1) (.v 0))) (by decide +kernel))
 rw[h,h',L.mo,L.mo] at e
 exact e
theorem Xz1{k:Nat}{t:Tw k}{w i:El k}(h:mul k t i w=rat k 1): mul k t (mul k t (rat k (1/2)) i) (add k w w)=rat k 1:=by
 have L:=Xbc k t
 have hh:add k (rat k (1/2)) (rat k (1/2))=rat k 1:=Xfw
 generalize rat k (1/2)=c at hh |-
 have e:mul k t (mul k t c i) (add k w w)=mul k t (add k c c) (mul k t i w):=(Laws.req L [c,i,w] (.mul (.mul (.v 0) (.v 1)) (.add (.v 2) (.v 2))) (.mul (.add (.v 0) (.v 0)) (.mul (.v 1) (.v 2))) (by decide +kernel))
 rw[e,h,L.mo,hh]
theorem Yh4{k:Nat}{t:Tw (k+1)}(h:red (k+1) t){u v m w:El k}(hv:v≠zero k)(hm:mul k t.1 m m=norm k t (u,v))(hw:mul k t.1 w w=mul k t.1 (rat k (1/2)) (add k u m)): w≠zero k:=by
 intro e
 have L:=Xbc k t.1
 have hh:add k (rat k (1/2)) (rat k (1/2))=rat k 1:=Xfw
 generalize rat k (1/2)=c at hh hw
 rw[e,L.mz] at hw
 have e1:add k u m=add k (mul k t.1 c (add k u m)) (mul k t.1 c (add k u m)):=by rw[<-L.dm,hh,L.om]
 rw[<-hw,L.az] at e1
 have hm':mul k t.1 m m=add k (mul k t.1 u u) (neg k (mul k t.1 (mul k t.1 v v) t.2)):=hm
 have e2:mul k t.1 (mul k t.1 v v) t.2=add k (mul k t.1 u u) (neg k (mul k t.1 m m)):=by
  rw[hm'];exact(Laws.req L [u,v,t.2] (.mul (.mul (.v 1) (.v 1)) (.v 2)) (.add (.mul (.v 0) (.v 0)) (.neg (.add (.mul (.v 0) (.v 0)) (.neg (.mul (.mul (.v 1) (.v 1)) (.v 2)))))) (by decide +kernel))
 have e3:add k (mul k t.1 u u) (neg k (mul k t.1 m m))=mul k t.1 (add k u (neg k m)) (add k u m):=(Laws.req L [u,m] (.add (.mul (.v 0) (.v 0)) (.neg (.mul (.v 1) (.v 1)))) (.mul (.add (.v 0) (.neg (.v 1))) (.add (.v 0) (.v 1))) (by decide +kernel))
 rw[e3,e1,L.mz] at e2
 have S:=Xav (Xah h.1)
 rcases Xg8 h.1 e2 with e4 | e4
 . rcases Xg8 h.1 e4 with e5 | e5<;>exact hv e5
 . have:=h.2.1
   rw[e4,S.s0 L] at this
   cases this
end
end Go.Tow
namespace Go.Proofs.YtclgppjdhndgiaaGreatDoor
open Go Go.Num Go.Tow
def nS(r k p:Nat): Nat:=2*p+2*cB r k+r+1
theorem Sz.normS{r k p:Nat}{t:Tw (k+1)}{a:El (k+1)}(ht:TS r (k+1) t)(h:Sz p (toL (k+1) a)): Sz (nS r k p) (toL k (Tow.norm k t a)):=by
 obtain⟨E,e0,e1,e2⟩:=Xk0 ht.1
 obtain⟨d,d0,d1,d2⟩:=h
 obtain⟨g,g0,g1,g2⟩:=ht.2
 have hx:IsD d (2^p) (toL k a.1):=d2.left
 have hy:IsD d (2^p) (toL k a.2):=d2.right
 have h1:=(e2 _ _ d d _ _ d0 d0 hx hx).scale (W1o e0 g0)
 have h2:=e2 _ _ (d*d*E) g _ _ (W1o (W1o d0 d0) e0) g0 (e2 _ _ d d _ _ d0 d0 hy hy) g2
 rw[show d*d*E*g*E=d*d*E*(E*g) by rw[W0r (d*d*E),W1f g E]] at h2
 have hg:E*g<=2^cB r k*2^r:=W1z e1 (W2c g1)
 have hn:2^(2*p+2*cB r k+r)=2^p*2^p*2^cB r k*(2^cB r k*2^r):=by
  rw[<-W0z,<-W0z,<-W0z,<-W0z];congr 1;omega
 have h1':IsD (d*d*E*(E*g)) (2^(2*p+2*cB r k+r)) (toL k (Tow.mul k t.1 a.1 a.1)):=h1.mono (by rw[hn];exact W0p _ hg)
 have h2':IsD (d*d*E*(E*g)) (2^(2*p+2*cB r k+r)) (toL k (Tow.mul k t.1 (Tow.mul k t.1 a.2 a.2) t.2)):=h2.mono (by
  rw[hn,W0r (2^p*2^p*2^cB r k),W1f (2^r)];exact W0c _)
 rw[Tow.norm,Xas,Xbo]
 refine⟨d*d*E*(E*g),W1o (W1o (W1o d0 d0) e0) (W1o e0 g0),?_,(h1'.add h2'.neg).mono (by unfold nS;rw[W0q 2 (2*p+2*cB r k+r)];omega)⟩
 have h3:d*d*E*(E*g)<2^p*2^p*(2^cB r k*(2^cB r k*2^r)):=by
  rw[W0r (d*d)]
  refine W0s (W3k (W5a d1 d1) (W1o e0 (W1o e0 g0))) (W0p _ (W1z e1 hg))
 have h4:2^nS r k p=2^(2*p+2*cB r k+r)*2:=by unfold nS;rw[W0q]
 rw[h4,hn,W0r (2^p*2^p)]
 omega
theorem Sz.scal{r k p q:Nat}{t:Tw k}{x y n:El k}(ht:TS r k t)(h:Sz p (toL k x++toL k y))(hn:Sz q (toL k n)): Sz (p+q+cB r k) (toL k (Tow.mul k t x n)++toL k (Tow.mul k t y n)):=by
 obtain⟨E,e0,e1,e2⟩:=Xk0 ht
 obtain⟨d,d0,d1,d2⟩:=h
 obtain⟨e,k0,k1,k2⟩:=hn
 have h1:=e2 _ _ d e _ _ d0 k0 d2.left k2
 have h2:=e2 _ _ d e _ _ d0 k0 d2.right k2
 rw[<-W0z,<-W0z] at h1 h2
 refine⟨d*e*E,W1o (W1o d0 k0) e0,?_,h1.append h2⟩
 rw[W0z,W0z]
 exact W0s (W3k (W5a d1 k1) e0) (W0p _ e1)
def iS(r:Nat): Nat->Nat->Nat
 | 0,p=>p+1
 | k+1,p=>p+iS r k (nS r k p)+cB r k
theorem IsD.neg2{d n:Nat}{l m:List Rat}(h:IsD d n (l++m)): IsD d n (l++m.map (- ·)):=h.left.append h.right.neg
theorem Sz.neg2{p:Nat}{l m:List Rat}(h:Sz p (l++m)): Sz p (l++m.map (- ·)):=by
 obtain⟨d,h0,h1,h2⟩:=h
 exact⟨d,h0,h1,h2.neg2⟩
theorem Sz.invS{r k p:Nat}{t:Tw k}{a b:El k}(ht:TS r k t)(h:Sz p (toL k a))(hb:Tow.inv k t a=some b): Sz (iS r k p) (toL k b):=by
 induction k generalizing p with
 | zero=>exact h.inv ht hb
 | succ k ih =>
  simp only[Tow.inv] at hb
  split at hb
  . cases hb
  . rename_i n hn
    injection hb with hb
    subst hb
    have h1:=ih ht.1 (h.normS ht) hn
    show Sz _ (toL k _++toL k (Tow.neg k _))
    rw[Xbo]
    exact(Sz.scal ht.1 h h1).neg2
theorem Sz.dbl{p:Nat}{l:List Rat}(h:Sz p l): Sz (p+1) (List.zipWith (·+·) l l):=by
 obtain⟨d,h0,h1,h2⟩:=h
 exact⟨d,h0,by rw[W0q];omega,(h2.add h2).mono (by rw[W0q];omega)⟩
theorem Xox{r:Nat}{k:Nat}: ∀ {s:Nat},r<=s->cB r k<=cB s k:=by
 induction k with
 | zero=>intro s h;exact W0c _
 | succ k ih=>intro s h;have:=ih h;show 2*cB r k+r+1<=2*cB s k+s+1;omega
theorem Xu2{r s k p q:Nat}(hr:r<=s)(h:p<=q): nS r k p<=nS s k q:=by have:=Xox (k:=k) hr;unfold nS;omega
theorem Xv5{r s:Nat}(hr:r<=s): ∀ {k p q:Nat},p<=q->iS r k p<=iS s k q
 | 0,p,q,h=>by show p+1<=q+1;omega
 | k+1,p,q,h=>by
  have h1:=Xv5 hr (Xu2 (k:=k) hr h) (k:=k)
  have h2:=Xox (k:=k) hr
  show p+iS r k (nS r k p)+cB r k<=q+iS s k (nS s k q)+cB s k
  omega
theorem Xol{r s:Nat}(hr:r<=s): ∀ {k p q:Nat},p<=q->iB r k p<=iB s k q
 | 0,p,q,h=>by show p+1<=q+1;omega
 | k+1,p,q,h=>by
  have h2:=Xox (k:=k) hr
  have h1:=Xol hr (show nB r k p<=nB s k q by unfold nB;omega) (k:=k)
  show 2*(p+iB r k (nB r k p)+cB r k)<=2*(q+iB s k (nB s k q)+cB s k)
  omega
theorem Xqj(x:Rat): (x*x).num=x.num*x.num/\(x*x).den=x.den*x.den:=by
 have hc:(x.num*x.num).natAbs.gcd (x.den*x.den)=1:=by
  rw[W4m]
  exact Nat.Coprime.mul_right (Nat.Coprime.mul_left x.reduced x.reduced) (Nat.Coprime.mul_left x.reduced x.reduced)
 rw[Rat.num_mul,Rat.den_mul,hc]
 exact⟨Int.ediv_one _,Nat.div_one _⟩
theorem rt_sq(n:Nat): rt (n*n)=n:=Yii (W0c _) (by rw[W1h,W0y];omega)
def sqN(n:Nat): Prop:=rt n*rt n=n
theorem Xkl{q:Rat}(h0:0<=q.num)(h1:sqN q.num.natAbs)(h2:sqN q.den): ∃x:Rat,x.num=(rt q.num.natAbs:Int)/\x.den=rt q.den/\x*x=q:=by
 have hd:rt q.den≠0:=λe=>q.den_nz (by rw[<-h2,e])
 have hc:(rt q.num.natAbs).Coprime (rt q.den):=by
  have:=q.reduced
  rw[<-h1,<-h2] at this
  exact Nat.Coprime.coprime_mul_right (Nat.Coprime.coprime_mul_right_right this)
 refine⟨⟨(rt q.num.natAbs:Int),rt q.den,hd,by rw[W1l];exact hc⟩,rfl,rfl,?_⟩
 refine Rat.ext ?_ ?_
 . rw[(Xqj _).1]
   show (rt q.num.natAbs:Int)*(rt q.num.natAbs:Int)=q.num
   have:((rt q.num.natAbs*rt q.num.natAbs:Nat):Int)=(q.num.natAbs:Int):=by rw[h1]
   rw[W2z] at this
   rw[this];omega
 . rw[(Xqj _).2];exact h2
theorem Xtw{q:Rat}: (∃x:Rat,x*x=q)↔0<=q.num/\sqN q.num.natAbs/\sqN q.den:=by
 refine⟨?_,λ⟨h0,h1,h2⟩=>let ⟨x,_,_,h⟩:=Xkl h0 h1 h2;⟨x,h⟩⟩
 rintro⟨x,rfl⟩
 obtain⟨e1,e2⟩:=Xqj x
 rw[e1,e2]
 refine⟨?_,?_,?_⟩
 . rcases Int.le_total 0 x.num with h | h
   . exact Int.mul_nonneg h h
   . exact Int.mul_nonneg_of_nonpos_of_nonpos h h
 . unfold sqN;rw[W4m,rt_sq]
 . unfold sqN;rw[rt_sq]
theorem Sz.half{k:Nat}: Sz 3 (toL k (Tow.rat k (1/2))):=Sz.rat (p:=2) k ⟨show (1/2:Rat).num.natAbs<2^2 by decide +kernel,show ((1/2:Rat).den:Int).natAbs<2^2 by decide +kernel⟩
open Go Go.Vm Go.Num Go.Tow
section
variable{k:Nat}
theorem hvL(a:Tow.El (k+1)): ((toL k a.1++toL k a.2).map dq).length=2*2^k:=by rw[lq,W0d,Xab,Xab];omega
theorem hvT(a:Tow.El (k+1)): ((toL k a.1++toL k a.2).map dq).take (2^k)=(toL k a.1).map dq:=by rw[<-W3e,<-Xab k a.1,W7h]
theorem hvD(a:Tow.El (k+1)): ((toL k a.1++toL k a.2).map dq).drop (2^k)=(toL k a.2).map dq:=by rw[<-List.map_drop,<-Xab k a.1,W8f]
theorem Xci(a:Tow.El (k+1)): 2^k<=((toL k a.1++toL k a.2).map dq).length:=by rw[hvL];have:=W0u k;omega
theorem twL(t:Tw (k+1)): ((toT k t.1++[toL k t.2]).map dqs).length=k+1:=by rw[lt',W0d,Xaa];rfl
theorem Xke(t:Tw (k+1)): k<=((toT k t.1++[toL k t.2]).map dqs).length:=by rw[twL];omega
theorem twT(t:Tw (k+1)): ((toT k t.1++[toL k t.2]).map dqs).take k=(toT k t.1).map dqs:=by rw[<-W3e,W6y (Xaa k t.1)]
theorem twU(t:Tw (k+1)): ((toT k t.1++[toL k t.2]).map dqs)[k]?=some (de t.2):=by rw[W0t,W0o (by rw[Xaa];exact W0c _),Xaa,W2v];rfl
theorem hvq(a:Tow.El (k+1))(hk:k<=16): arB .quo .i64 (((toL k a.1++toL k a.2).map dq).length:Nat) 2 (2^k:Nat):=Yly (hvL a) (W0l (p16 hk) (by decide))
theorem tw1(t:Tw (k+1))(hk:k<=16): arB .sub .i64 (((toT k t.1++[toL k t.2]).map dqs).length:Nat) 1 k:=wr (by rw[twL];omega) (by simp only[inK];omega)
end
end Go.Proofs.YtclgppjdhndgiaaGreatDoor
namespace Go.Proofs.YtclgppjdhndgiaaGreatDoor.R6
open Go Go.Vm Go.Num Go.Tow Go.Proofs.YtclgppjdhndgiaaGreatDoor
theorem Norm_ok{k r s:Nat}{t:Tw (k+1)}{a:Tow.El (k+1)}(hT:TS r (k+1) t)(ha:Sz s (toL (k+1) a))(hk:k+1<=16)(hs:nB r k s<=4398046511104): C0 255 [.d (dt t),.d (de a)] (·=.d (de (Tow.norm k t a))):=by
 have hx:Sz s (toL k a.1):=Sz.left ha
 have hy:Sz s (toL k a.2):=Sz.right ha
 have hn:nB r k s=4*s+3*cB r k+r+1:=rfl
 refine En Tryz.func255 λ_ _ _=>?_
 refine Ar (2^k:Nat) rfl ?_ (hvq a (by omega))
 refine Dw rfl ?_
 refine Ar k rfl ?_ (tw1 t (by omega))
 refine Tk k ((toT k t.1).map dqs) rfl rfl (Xke t) (twT t) ?_
 refine Ar k rfl ?_ (tw1 t (by omega))
 refine Ix k rfl (twU t) ?_
 refine Dw rfl ?_
 refine Tk (2^k) ((toL k a.1).map dq) rfl rfl (Xci a) (hvT a) ?_
 refine Tk (2^k) ((toL k a.1).map dq) rfl rfl (Xci a) (hvT a) ?_
 refine Ce rfl (Mul_el hT.1 hx hx (by omega) (by omega)) ?_
 refine Dp (2^k) ((toL k a.2).map dq) rfl rfl (Xci a) (hvD a) ?_
 refine Dp (2^k) ((toL k a.2).map dq) rfl rfl (Xci a) (hvD a) ?_
 refine Ce rfl (Mul_el hT.1 hy hy (by omega) (by omega)) ?_
 refine Ce rfl (Mul_el hT.1 (hy.mul hT.1 hy) hT.2 (by omega) (by omega)) ?_
 refine Ce rfl (Sub_el (by omega) (hx.mul hT.1 hx).ps ((hy.mul hT.1 hy).mul hT.1 hT.2) (by omega)) ?_
 exact R0
theorem Root_ok{k i r:Nat}{t:Tw k}(hk:k<=16)(hi:i<k): C0 387 [.d (dt t),.d (.int .i64 i)] (·=.d (de (Xf3 k i))):=by
 have hp:=p16 hk
 have hpi:2^i<2^k:=W3u (by decide) hi
 have h0:=W0u k
 have e:(0:Rat)::List.replicate (2^(toT k t).length-1) 0=List.replicate (2^k) 0:=by rw[Xaa,<-W4b,show 2^k-1+1=2^k by omega]
 refine En Tryz.func387 λ_ _ _=>?_
 refine Ce rfl (R2.FromInt_ok (z:=0) (by decide)) ?_
 refine Cr rfl (e ▸ Xi4 (t:=toT k t) (x:=0) (by rw[Xaa];omega) (by rw[Xaa];omega)) ?_
 refine Dw rfl ?_
 refine Ar (2^i:Nat) rfl ?_ (Xbp (by omega))
 refine Ce rfl (R2.FromInt_ok (z:=1) (by decide)) ?_
 refine Eo (2^i) rfl (by simp only[lq,W1v];omega) ?_
 refine Sto rfl (by simp only[lq,W1v];omega) (ms (f:=dq) (u:=1)) ?_
 refine R1 rfl (.own rfl (by simp) ?_)
 rw[W1a,<-Xpj hi]
 exact W0b (by simp[Xab])
def Yqp(k:Nat)(zs:List D)(v:AV)(H':Hpl): Prop:=(k=0/\v=.tup (.pr (.lit 4 zs) (.d (.int .i64 0)))/\H'=[])\/(v=.tup (.pr (.gr 1000000 4 zs) (.d (.int .i64 0)))/\H'=[(1000000,.tok zs.length 4)])
theorem Yqa(x:Rat): x⁻¹=1/x:=by rw[W5x,Rat.one_mul]
theorem Yeh{k:Nat}{t:Tw k}(h:red k t){a:Tow.El k}(h0:a≠zero k): ∃b,Tow.inv k t a=some b:=(Xd3 h).2 a h0
theorem Yet{k:Nat}{t:Tw k}(h:red k t): zero k≠rat k 1:=λe=>by
 have h1:=Xe1 (x:=1) (Xah h)
 rw[<-e,(Xbt h).2 rfl,Xbh (by decide)] at h1
 cases h1
theorem Xvy{k:Nat}{t:Tw k}(h:red k t){a b:Tow.El k}(e:Tow.inv k t a=some b): a≠zero k:=λh0=>by
 have h1:=Xdv e
 rw[h0,(Xbc k t).mz] at h1
 exact Yet h h1
theorem Yfh{k:Nat}{t:Tw (k+1)}{a:Tow.El (k+1)}{x:Tow.El k}{y:Tow.El (k+1)}(ha:a.2=zero k)(hx:Tow.inv k t.1 a.1=some x)(hy:Tow.inv (k+1) t a=some y): y=(x,zero k):=by
 refine Xzw (t:=t) (a:=a) (Xdv hy) ?_
 have e:a=up k a.1:=by show (a.1,a.2)=(a.1,zero k);rw[ha]
 rw[e]
 exact(Xu5 k t x a.1).trans (by rw[Xdv hx];rfl)
theorem Yg5{k:Nat}: ∀ {r s:Nat} {t:Tw k} {a:Tow.El k},TS r k t->Sz s (toL k a)->red k t->a≠zero k->k<=16->iB r k s<=4398046511104->∃x,Tow.inv k t a=some x/\CW0 422 [.d (dt t),.d (de a)] [] (Yqp k ((toL k x).map dq)):=by
 induction k with
 | zero =>
  intro r s t a hT ha hR h0 hk hs
  have hs:s+1<=4398046511104:=hs
  have e:∀y:Rat,y≠0->Tow.inv 0 () y=some (1/y:Rat):=λy hy=>by rw[Ynj,if_neg hy]
  refine⟨_,e a h0,?_⟩
  refine EnW Tryz.func422 λ_ _ _ _=>?_
  refine Yes rfl rfl ?_
  refine Ix 0 rfl (u:=dq a) rfl ?_
  refine No rfl (λh=>h0 (R2.zero_of h)) ?_
  refine Ix 0 rfl (u:=dq a) rfl ?_
  refine Ce rfl (R2.Inv_ok (ha.qs (W0g.2 rfl)) (by omega) h0) ?_
  exact Rw [] [] rfl (.tup (.cons (.rf rfl) (.one (.rf rfl) (λ_ _ e=>by cases e) (λ_ _ e=>by cases e)))) (.inl ⟨rfl,by rw[Yqa a];rfl,rfl⟩)
 | succ k ih =>
  intro r s t a hT ha hR h0 hk hs
  have hx:Sz s (toL k a.1):=Sz.left ha
  have hy:Sz s (toL k a.2):=Sz.right ha
  have hlen:=Xab k
  have hp:=p16 hk
  have hp1:2^(k+1)=2*2^k:=by rw[W0q];omega
  have hpk:=W0u k
  obtain⟨hi1,hi2⟩:=Xv8 hs
  have hN:=ha.norm hT
  have hge:=Xz0 r k (nB r k s)
  have hiB1:=Xol (W0c r) (Xu4 r k s) (k:=k)
  obtain⟨x,hinv⟩:=Yeh hR h0
  refine⟨x,hinv,?_⟩
  have fit:∀ {g:Hp} {K:Hpl} {o:Nat} {zs:List D},Xc9 K (.gr o 4 zs)=true->FitR g K (.tup (.pr (.gr o 4 zs) (.d (.int .i64 0)))) (.tup (.pr (.gr o 4 zs) (.d (.int .i64 0)))):=λh=>.tup (.cons (.rf h) (.one (.rf rfl) (λ_ _ e=>by cases e) (λ_ _ e=>by cases e)))
  refine EnW Tryz.func422 λ_ _ _ _=>?_
  refine No rfl (by show ¬((((toT k t.1++[toL k t.2]).map dqs).length:Nat):Int)=0;rw[twL];omega) ?_
  refine Ar (2^k:Nat) rfl ?_ (hvq a (by omega))
  refine Ar k rfl ?_ (tw1 t (by omega))
  refine Tk k ((toT k t.1).map dqs) rfl rfl (Xke t) (twT t) ?_
  refine Dp (2^k) ((toL k a.2).map dq) rfl rfl (Xci a) (hvD a) ?_
  refine Ce rfl (Zero_ok (l:=toL k a.2) (by rw[hlen];omega)) ?_
  refine By rfl (λh1=>?_) λh1=>?_
  . have ea:=(Xar k a.2).2 h1
    have e1:a.1≠zero k:=λe=>h0 (by show (a.1,a.2)=(zero k,zero k);rw[e,ea])
    obtain⟨y,hy1,hc⟩:=ih hT.1 hx hR.1 e1 (by omega) (by omega)
    have ex:=Yfh ea hy1 hinv
    have el:(toL (k+1) x).map dq=(toL k y).map dq++((0:Rat)::List.replicate (2^(toT k t.1).length-1) 0).map dq:=by
     rw[ex,<-W1p,Xaa,<-W4b,show 2^k-1+1=2^k by omega,<-Xbs];rfl
    have hll:((toL (k+1) x).map dq).length<=1048576:=by rw[lq,Xab];omega
    refine Tk (2^k) ((toL k a.1).map dq) rfl rfl (Xci a) (hvT a) ?_
    refine Cw [] rfl hc λv H' _ hv=>?_
    rcases hv with ⟨_,rfl,rfl⟩ | ⟨rfl,rfl⟩
    . refine No rfl (by simp) ?_
      refine Ce rfl (R2.FromInt_ok (z:=0) (by decide)) ?_
      refine Ce rfl (FromRat_ok (t:=toT k t.1) (x:=0) (by rw[Xaa];omega)) ?_
      refine ApL ((toL (k+1) x).map dq) rfl el.symm (by simp only[lq,W0k];omega) (by omega) ?_
      refine Og 4 rfl rfl ?_
      exact Rw [(54,1000000)] [(1000000,.tok ((toL (k+1) x).map dq).length 4)] rfl (fit rfl) (.inr ⟨rfl,rfl⟩)
    . refine No rfl (by simp) ?_
      refine Ce rfl (R2.FromInt_ok (z:=0) (by decide)) ?_
      refine Ce rfl (FromRat_ok (t:=toT k t.1) (x:=0) (by rw[Xaa];omega)) ?_
      refine ApG ((toL (k+1) x).map dq) rfl el.symm (by omega) ?_
      exact Rw [(54,1000000)] [(1000000,.tok ((toL (k+1) x).map dq).length 4)] rfl (fit rfl) (.inr ⟨rfl,rfl⟩)
  . have hnz:Tow.norm k t a≠zero k:=by
     have hh:Tow.inv (k+1) t a=match Tow.inv k t.1 (Tow.norm k t a) with | none=>none | some x=>some (mul k t.1 a.1 x,Tow.neg k (mul k t.1 a.2 x)):=rfl
     cases h2:Tow.inv k t.1 (Tow.norm k t a) with
     | none=>rw[hinv,h2] at hh;cases hh
     | some y=>exact Xvy hR.1 h2
    obtain⟨y,hy1,hc⟩:=ih hT.1 hN hR.1 hnz (by omega) (by omega)
    have hzx:=hN.inv hT.1 hy1
    have ex:x=(mul k t.1 a.1 y,Tow.neg k (mul k t.1 a.2 y)):=by
     have hh:Tow.inv (k+1) t a=match Tow.inv k t.1 (Tow.norm k t a) with | none=>none | some x=>some (mul k t.1 a.1 x,Tow.neg k (mul k t.1 a.2 x)):=rfl
     rw[hinv,hy1] at hh;injection hh
    have en:Tow.neg k (mul k t.1 a.2 y)=mul k t.1 (Tow.neg k a.2) y:=((Xbc k t.1).nm _ _).symm
    have el:(toL (k+1) x).map dq=(toL k (mul k t.1 a.1 y)).map dq++(toL k (mul k t.1 (Tow.neg k a.2) y)).map dq:=by rw[ex,en,<-W1p];rfl
    have hll:((toL (k+1) x).map dq).length<=1048576:=by rw[lq,Xab];omega
    have hcd:C0 422 [.d (dt t.1),.d (de (Tow.norm k t a))] (·=.tup (.pr (.d (de y)) (.d (.int .i64 0)))):=CW.data hc rfl λv H' hv=>by
     rcases hv with ⟨_,rfl,rfl⟩ | ⟨rfl,rfl⟩
     . exact⟨_,.tup (.cons (.lit rfl) (.one (.rf rfl) (λ_ _ e=>by cases e) (λ_ _ e=>by cases e))),rfl⟩
     . exact⟨_,.tup (.cons (.gr rfl) (.one (.rf rfl) (λ_ _ e=>by cases e) (λ_ _ e=>by cases e))),rfl⟩
    refine Ce rfl (Norm_ok hT ha hk (by omega)) ?_
    refine Ce rfl hcd ?_
    refine No rfl (by simp) ?_
    refine Dw rfl ?_
    refine Tk (2^k) ((toL k a.1).map dq) rfl rfl (Xci a) (hvT a) ?_
    rcases Xr0 hT.1 hx hzx (by omega) (by omega) with hm | hm
    . refine Ce rfl hm ?_
      refine Dp (2^k) ((toL k a.2).map dq) rfl rfl (Xci a) (hvD a) ?_
      refine Ce rfl (Neg_el (by omega) hy.ps (by omega)) ?_
      refine Ce rfl (Mul_el hT.1 (Xgu hy) hzx (by omega) (by omega)) ?_
      refine ApL ((toL (k+1) x).map dq) rfl el.symm (by rw[lq,hlen];omega) (by omega) ?_
      refine Og 4 rfl rfl ?_
      exact Rw [(80,1000000)] [(1000000,.tok ((toL (k+1) x).map dq).length 4)] rfl (fit rfl) (.inr ⟨rfl,rfl⟩)
    . refine Cg rfl hm ?_
      refine Dp (2^k) ((toL k a.2).map dq) rfl rfl (Xci a) (hvD a) ?_
      refine Ce rfl (Neg_el (by omega) hy.ps (by omega)) ?_
      refine Ce rfl (Mul_el hT.1 (Xgu hy) hzx (by omega) (by omega)) ?_
      refine ApG ((toL (k+1) x).map dq) rfl el.symm (by omega) ?_
      exact Rw [(80,1000000)] [(1000000,.tok ((toL (k+1) x).map dq).length 4)] rfl (fit rfl) (.inr ⟨rfl,rfl⟩)
theorem Inv_ok{k r s:Nat}{t:Tw k}{a x:Tow.El k}(hT:TS r k t)(ha:Sz s (toL k a))(hR:red k t)(hx:Tow.inv k t a=some x)(hk:k<=16)(hs:iB r k s<=4398046511104): C0 422 [.d (dt t),.d (de a)] (·=.tup (.pr (.d (de x)) (.d (.int .i64 0)))):=by
 obtain⟨y,hy,hc⟩:=Yg5 hT ha hR (Xvy hR hx) hk hs
 rw[hx] at hy
 injection hy with hy
 subst hy
 exact CW.data hc rfl λv H' hv=>by
  rcases hv with ⟨_,rfl,rfl⟩ | ⟨rfl,rfl⟩
  . exact⟨_,.tup (.cons (.lit rfl) (.one (.rf rfl) (λ_ _ e=>by cases e) (λ_ _ e=>by cases e))),rfl⟩
  . exact⟨_,.tup (.cons (.gr rfl) (.one (.rf rfl) (λ_ _ e=>by cases e) (λ_ _ e=>by cases e))),rfl⟩
end Go.Proofs.YtclgppjdhndgiaaGreatDoor.R6
namespace Go.Proofs.YtclgppjdhndgiaaGreatDoor
open Go Go.Num Go.Tow
def gC(r:Nat): Nat->Nat
 | 0=>0
 | k+1=>2*gC r k+2*cB r k+r+iS r k r+2
theorem IsD.pw{d n a b:Nat}{l:List Rat}(h:IsD d (n*2^a) l)(hab:a<=b): IsD d (n*2^b) l:=h.mono (W0p _ (W0m (by decide) hab))
theorem IsD.sc{d n a b e:Nat}{l:List Rat}(h:IsD d (n*2^a) l)(he:0<e)(hb:e<=2^b): IsD (d*e) (n*2^(a+b)) l:=(h.scale he).mono (by rw[W0z,<-W0r];exact W0p _ hb)
theorem IsD.dbl{d n:Nat}{l:List Rat}(h:IsD d n (List.zipWith (·+·) l l)): IsD (d*2) n l:=λx hx=>by
 obtain⟨i,hi⟩:=W4r hx
 obtain⟨z,h1,h2⟩:=h (x+x) (W0h (i:=i) (by rw[W6m,hi]))
 refine⟨z,?_,h2⟩
 rw[<-h1,W7x]
 show x*(d*2)=_
 grind
theorem Xue{x:Rat}{e n:Nat}(he:0<e)(h:IsD (e*e) (n*n) [x*x]): IsD e n [x]:=λy hy=>by
 obtain rfl:=W0g.1 hy
 obtain⟨z,h1,h2⟩:=h _ (W0w ..)
 have h3:(y*e)*(y*e)=(z:Rat):=by rw[<-h1,W7x];grind
 obtain⟨e1,e2⟩:=Xqj (y*e)
 rw[h3] at e1 e2
 have e2:1=(y*e).den*(y*e).den:=e2
 have e1:z=(y*e).num*(y*e).num:=e1
 have hd:(y*e).den=1:=Nat.eq_one_of_mul_eq_one_left e2.symm
 refine⟨(y*e).num,?_,?_⟩
 . have:=Xk1 (y*e)
   rw[hd] at this
   rw[<-this];exact(Rat.mul_one _).symm
 . rw[e1,W4m] at h2
   exact Nat.lt_of_not_le λhle=>W7n _ (W0s h2 (W1z hle hle))
theorem Xqa: ∀ {k r:Nat} {t:Tw k},TS r k t->red k t->∃Δ,0<Δ/\Δ<=2^gC r k/\∀(s:El k) (e n:Nat),0<e->IsD (e*e) (n*n) (toL k (mul k t s s))->IsD (e*Δ) (n*2^gC r k) (toL k s)
 | 0,r,t,_,_=>⟨1,by decide,W0c 1,λs e n he h=>by rw[W3z,show 2^gC r 0=1 from rfl,W3z];exact Xue he h⟩
 | k+1,r,t,hT,hR=>by
  obtain⟨E,E0,E1,E2⟩:=Xk0 hT.1
  obtain⟨g,g0,g1,g2⟩:=hT.2
  obtain⟨Δ,D0,D1,D2⟩:=Xqa hT.1 hR.1
  have L:=Xbc k t.1
  obtain⟨i,hi⟩:=(Xd3 hR.1).2 t.2 (show t.2≠zero k from λh0=>hR.2.2 ⟨zero k,by rw[h0,L.mz]⟩)
  obtain⟨f,f0,f1,f2⟩:=Sz.invS hT.1 hT.2 hi
  have hi:=Xdv hi
  generalize hc:cB r k=c at *
  generalize hq:iS r k r=q at *
  generalize hG:gC r k=G at *
  have hg':gC r (k+1)=2*G+2*c+r+q+2:=by show 2*gC r k+2*cB r k+r+iS r k r+2=_;rw[hc,hq,hG]
  have g1:=W2c g1
  have f1:=W2c f1
  have Eg1:E*g<=2^(c+r):=by rw[W0z];exact W1z E1 g1
  have Eg0:=W1o E0 g0
  have M:∀ {a b:El k} {d e n m x y:Nat},0<d->0<e->IsD d (n*2^x) (toL k a)->IsD e (m*2^y) (toL k b)->IsD (d*e*E) (n*m*2^(x+y+c)) (toL k (mul k t.1 a b)):=λhd he h h'=>(E2 _ _ _ _ _ _ hd he h h').mono (by
   rw[W0z,W0z];exact Nat.le_of_eq (by ac_rfl))
  refine⟨2*(E*g*Δ)*Δ*(f*E),?_,?_,λs e n he h=>?_⟩
  . exact W1o (W1o (W1o (by decide) (W1o Eg0 D0)) D0) (W1o f0 E0)
  . have x1:=W1z (W1z (W1z (W0c 2) (W1z Eg1 D1)) D1) (W1z f1 E1)
    refine W0l x1 ?_
    rw[show (2:Nat)*(2^(c+r)*2^G)*2^G*(2^q*2^c)=2^(1+((c+r)+G)+G+(q+c)) by simp only[W0z]]
    exact W0m (by decide) (by omega)
  obtain⟨u,v⟩:=s
  have ha:IsD (e*e) (n*n) (toL k (add k (mul k t.1 u u) (mul k t.1 (mul k t.1 v v) t.2))):=h.left
  have hb:IsD (e*e) (n*n) (toL k (add k (mul k t.1 u v) (mul k t.1 v u))):=h.right
  generalize h1:add k (mul k t.1 u u) (mul k t.1 (mul k t.1 v v) t.2)=a1 at ha
  generalize h2:add k (mul k t.1 u v) (mul k t.1 v u)=a2 at hb
  have e0:=W1o he he
  have ha:IsD (e*e) (n*n*2^0) (toL k a1):=by simpa using ha
  have hb:IsD (e*e) (n*n*2^0) (toL k a2):=by simpa using hb
  have g2:IsD g (1*2^r) (toL k t.2):=by simpa using g2
  have f2:IsD f (1*2^q) (toL k i):=by simpa using f2
  obtain⟨N,hN⟩:∃N,N=add k (mul k t.1 u u) (neg k (mul k t.1 (mul k t.1 v v) t.2)):=⟨_,rfl⟩
  have hNN:mul k t.1 N N=add k (mul k t.1 a1 a1) (neg k (mul k t.1 (mul k t.1 a2 a2) t.2)):=by
   rw[hN,<-h1,<-h2]
   exact(Laws.req L [u,v,t.2] (.mul (.add (.mul (.v 0) (.v 0)) (.neg (.mul (.mul (.v 1) (.v 1)) (.v 2)))) (.add (.mul (.v 0) (.v 0)) (.neg (.mul (.mul (.v 1) (.v 1)) (.v 2))))) (.add (.mul (.add (.mul (.v 0) (.v 0)) (.mul (.mul (.v 1) (.v 1)) (.v 2))) (.add (.mul (.v 0) (.v 0)) (.mul (.mul (.v 1) (.v 1)) (.v 2)))) (.neg (.mul (.mul (.add (.mul (.v 0) (.v 1)) (.mul (.v 1) (.v 0))) (.add (.mul (.v 0) (.v 1)) (.mul (.v 1) (.v 0)))) (.v 2)))) (by decide +kernel))
  have n1:IsD (e*e*E*g*(e*e*E*g)) (n*n*2^(c+r+1)*(n*n*2^(c+r+1))) (toL k (mul k t.1 N N)):=by
   rw[hNN,Xas,Xbo]
   have x1:=(M e0 e0 ha ha).sc (W1o Eg0 g0) (show E*g*g<=2^(c+r+r) by rw[W0z 2 (c+r)];exact W1z Eg1 g1)
   have x2:=((M (W1o (W1o e0 e0) E0) g0 (M e0 e0 hb hb) g2).sc g0 g1).neg
   rw[W3z] at x2
   rw[show e*e*(e*e)*E*(E*g*g)=e*e*E*g*(e*e*E*g) by ac_rfl] at x1
   rw[show e*e*(e*e)*E*g*E*g=e*e*E*g*(e*e*E*g) by ac_rfl] at x2
   have x3:=x1.pw (show _<=2*c+2*r by omega)
   have x4:=x2.pw (show _<=2*c+2*r by omega)
   refine(x3.add x4).mono ?_
   rw[<-Nat.mul_two]
   have x5:2^(2*c+2*r)*2<=2^(c+r+1)*2^(c+r+1):=by
    rw[<-W0q,<-W0z];exact W0m (by decide) (by omega)
   have x6:=W0p (n*n*(n*n)) x5
   rw[show n*n*(n*n)*2^(2*c+2*r)*2=n*n*(n*n)*(2^(2*c+2*r)*2) by ac_rfl]
   exact W0l x6 (Nat.le_of_eq (by ac_rfl))
  have n2:=D2 N (e*e*E*g) (n*n*2^(c+r+1)) (W1o (W1o e0 E0) g0) n1
  rw[W0r (n*n),<-W0z] at n2
  have K0:0<E*g*Δ:=W1o Eg0 D0
  have K1:E*g*Δ<=2^(c+r+G):=by rw[W0z 2 (c+r)];exact W1z Eg1 D1
  have a':=ha.sc K0 K1
  rw[show e*e*E*g*Δ=e*e*(E*g*Δ) by ac_rfl] at n2
  have half:∀ {w S:El k},add k w w=S->IsD (e*e*(E*g*Δ)) (n*n*2^(c+r+G+2)) (toL k S)->IsD (e*e*(E*g*Δ)*2) (n*n*2^(c+r+G+2)) (toL k w):=λe h=>IsD.dbl (by rw[<-Xas,e];exact h)
  have s1:IsD (e*e*(E*g*Δ)) (n*n*2^(c+r+G+2)) (toL k (add k a1 N)):=by
   rw[Xas]
   refine((a'.pw (show _<=c+r+G+1 by omega)).add (n2.pw (show _<=c+r+G+1 by omega))).mono ?_
   rw[W0q 2 (c+r+G+1),<-W0r,Nat.mul_two];exact W0c _
  have s2:IsD (e*e*(E*g*Δ)) (n*n*2^(c+r+G+2)) (toL k (add k a1 (neg k N))):=by
   rw[Xas,Xbo]
   refine((a'.pw (show _<=c+r+G+1 by omega)).add ((n2.pw (show _<=c+r+G+1 by omega)).neg)).mono ?_
   rw[W0q 2 (c+r+G+1),<-W0r,Nat.mul_two];exact W0c _
  have u1:=half (w:=mul k t.1 u u) (by rw[<-h1,hN];exact(Laws.req L [u,v,t.2] (.add (.mul (.v 0) (.v 0)) (.mul (.v 0) (.v 0))) (.add (.add (.mul (.v 0) (.v 0)) (.mul (.mul (.v 1) (.v 1)) (.v 2))) (.add (.mul (.v 0) (.v 0)) (.neg (.mul (.mul (.v 1) (.v 1)) (.v 2))))) (by decide +kernel))) s1
  have v1:=half (w:=mul k t.1 (mul k t.1 v v) t.2) (by rw[<-h1,hN];exact(Laws.req L [u,v,t.2] (.add (.mul (.mul (.v 1) (.v 1)) (.v 2)) (.mul (.mul (.v 1) (.v 1)) (.v 2))) (.add (.add (.mul (.v 0) (.v 0)) (.mul (.mul (.v 1) (.v 1)) (.v 2))) (.neg (.add (.mul (.v 0) (.v 0)) (.neg (.mul (.mul (.v 1) (.v 1)) (.v 2)))))) (by decide +kernel))) s2
  have K2:0<E*g*Δ*2:=W1o K0 (by decide)
  have ek:0<e*(E*g*Δ*2):=W1o he K2
  have sq:∀ {w:El k} {x:Nat},x<=(c+r+G+2)+(c+r+G+2)->IsD (e*(E*g*Δ*2)*(e*(E*g*Δ*2))) (n*n*2^x) (toL k (mul k t.1 w w))->IsD (e*(E*g*Δ*2)*Δ) (n*2^(c+r+G+2+G)) (toL k w):=λ{w x} hx h=>by
   have h':=D2 w _ (n*2^(c+r+G+2)) ek ((h.pw hx).mono (by rw[W0z 2 (c+r+G+2) (c+r+G+2)];exact Nat.le_of_eq (by ac_rfl)))
   rwa[W0r n,<-W0z] at h'
  have u2:IsD (e*(E*g*Δ*2)*Δ) (n*2^(c+r+G+2+G)) (toL k u):=by
   refine sq (x:=c+r+G+2+(c+r+G+1)) (by omega) ?_
   have:=u1.sc K2 (show E*g*Δ*2<=2^(c+r+G+1) by rw[W0q];exact W0v _ K1)
   rwa[show e*e*(E*g*Δ)*2*(E*g*Δ*2)=e*(E*g*Δ*2)*(e*(E*g*Δ*2)) by ac_rfl] at this
  have v2:IsD (e*(E*g*Δ*2)*Δ) (n*2^(c+r+G+2+G)) (toL k (mul k t.1 v t.2)):=by
   refine sq (x:=c+r+G+2+r+c+(G+1)) (by omega) ?_
   have:=(M (W1o (W1o e0 K0) (by decide)) g0 v1 g2).sc (W1o D0 (by decide:0<2)) (show Δ*2<=2^(G+1) by rw[W0q];exact W0v _ D1)
   rw[W3z,show e*e*(E*g*Δ)*2*g*E*(Δ*2)=e*(E*g*Δ*2)*(e*(E*g*Δ*2)) by ac_rfl] at this
   rwa[show mul k t.1 (mul k t.1 v t.2) (mul k t.1 v t.2)=mul k t.1 (mul k t.1 (mul k t.1 v v) t.2) t.2 from(Laws.req L [v,t.2] (.mul (.mul (.v 0) (.v 1)) (.mul (.v 0) (.v 1))) (.mul (.mul (.mul (.v 0) (.v 0)) (.v 1)) (.v 1)) (by decide +kernel))]
  have v3:IsD (e*(E*g*Δ*2)*Δ*f*E) (n*1*2^(c+r+G+2+G+q+c)) (toL k v):=by
   have:=M (W1o ek D0) f0 v2 f2
   rwa[show mul k t.1 (mul k t.1 v t.2) i=v by rw[L.ma,L.mc t.2,hi,L.mo]] at this
  have u3:=u2.sc (W1o f0 E0) (show f*E<=2^(q+c) by rw[W0z];exact W1z f1 E1)
  rw[show e*(2*(E*g*Δ)*Δ*(f*E))=e*(E*g*Δ*2)*Δ*(f*E) by ac_rfl,hg']
  refine IsD.append (u3.pw (by omega)) ?_
  rw[W3z,W0r _ f E] at v3
  exact v3.pw (by omega)
theorem Sz.rootS{k r p:Nat}{t:Tw k}{s a:El k}(hT:TS r k t)(hR:red k t)(ha:Sz p (toL k a))(e:Tow.mul k t s s=a): Sz (p+gC r k) (toL k s):=by
 obtain⟨Δ,D0,D1,D2⟩:=Xqa hT hR
 obtain⟨d,d0,d1,d2⟩:=ha
 subst e
 have:=D2 s d (2^p) d0 ((d2.scale d0).mono (W0p _ (W2c d1)))
 rw[<-W0z] at this
 refine⟨_,W1o d0 D0,?_,this⟩
 rw[W0z]
 exact W0s (W3k d1 D0) (W0p _ D1)
def sX(r k p:Nat): Nat:=p+nS r k p+gC r k+cB r k+iS r k r+4
def vB(r:Nat): Nat->Nat->Nat
 | 0,p=>p
 | k+1,p=>vB r k (nB r k p)
def qB(r:Nat): Nat->Nat->Nat
 | 0,p=>p
 | k+1,p=>p+vB r (k+1) p+vB r (k+1) r+nB r k p+qB r k (sX r k p)+iB r k (sX r k p+gC r k)+iS r k (sX r k p+gC r k)+iB r k r+2*cB r k+4
theorem Xu3{r k p q:Nat}(h:p<=q): nB r k p<=nB r k q:=by unfold nB;omega
theorem Xcm{r:Nat}: ∀ {k s s':Nat},s<=s'->vB r k s<=vB r k s'
 | 0,_,_,h=>h
 | k+1,_,_,h=>Xcm (k:=k) (Xu3 h)
theorem Xdd{r:Nat}: ∀(k s:Nat),s<=vB r k s
 | 0,_=>W0c _
 | k+1,s=>W0l (Xu4 r k s) (Xdd k _)
theorem Xlq{r i k s:Nat}(h:i<=k): vB r i s<=vB r k s:=by
 induction k generalizing s with
 | zero=>rw[show i=0 by omega];exact W0c _
 | succ k ih =>
  by_cases e:i=k+1
  . rw[e];exact W0c _
  . exact W0l (ih (by omega)) (Xcm (k:=k) (Xu4 r k s))
theorem Yea{r k p q:Nat}(h:p<=q): sX r k p<=sX r k q:=by
 have:=Xu2 (W0c r) h (k:=k)
 unfold sX;omega
theorem Xc7{r:Nat}: ∀ {k p q:Nat},p<=q->qB r k p<=qB r k q
 | 0,_,_,h=>h
 | k+1,p,q,h=>by
  have h1:=Xcm (r:=r) (k:=k+1) h
  have h2:=Xu3 (r:=r) (k:=k) h
  have h3:=Yea (r:=r) (k:=k) h
  have h4:=Xc7 (r:=r) (k:=k) h3
  have h5:=Xol (W0c r) (k:=k) (show sX r k p+gC r k<=sX r k q+gC r k by omega)
  have h6:=Xv5 (W0c r) (k:=k) (show sX r k p+gC r k<=sX r k q+gC r k by omega)
  unfold qB;omega
theorem Yis{r:Nat}: ∀ {k p:Nat},p<=qB r k p
 | 0,_=>W0c _
 | k+1,_=>by unfold qB;omega
theorem Xzd{r i k p:Nat}(h:i<=k): qB r i p<=qB r k p:=by
 induction k generalizing p with
 | zero=>rw[show i=0 by omega];exact W0c _
 | succ k ih =>
  by_cases e:i=k+1
  . rw[e];exact W0c _
  . have h1:=ih (p:=p) (by omega)
    have h2:qB r k p<=qB r k (sX r k p):=Xc7 (by unfold sX;omega)
    have h3:qB r k (sX r k p) <= qB r (k + 1) p := by conv => rhs; unfold qB
                                                      omega
    omega
open Go Go.Vm Go.Num Go.Tow
theorem Xko(x:Rat): Xa5 x.num 0=Xet x:=by
 rcases Xat x.num 0 with ⟨h,e⟩ | ⟨h,e⟩ | ⟨h,e⟩<;>rw[e]
 . rw[Xdo (by rw[Rat.lt_iff];show x.num*1<0*_;omega)]
 . rw[W5o.1 h];rfl
 . rw[Xbh (by rw[Rat.lt_iff];show 0*_<x.num*1;omega)]
theorem Yb3{k:Nat}(t:Tw (k+1))(a:Tow.El (k+1)): sgn (k+1) t a=if sgn k t.1 a.2=0\/sgn k t.1 a.1=sgn k t.1 a.2 then sgn k t.1 a.1 else if sgn k t.1 a.1=0 then sgn k t.1 a.2 else sgn k t.1 a.1*sgn k t.1 (Tow.norm k t a):=rfl
theorem Xt4{k:Nat}{t t':Tw k}{a b:Tow.El k}: arB .mul .i64 (sgn k t a) (sgn k t' b) (sgn k t a*sgn k t' b):=by
 rcases Xc4 t a with h | h | h<;>rcases Xc4 t' b with h' | h' | h'<;>rw[h,h']<;>exact wr rfl (by simp[inK])
theorem Xka{k:Nat}: ∀ {r s:Nat} {t:Tw k} {a:Tow.El k},TS r k t->Sz s (toL k a)->k<=16->vB r k s<=4398046511104->r<=4398046511104->C0 288 [.d (dt t),.d (de a)] (·=.d (.int .i64 (sgn k t a))):=by
 induction k with
 | zero =>
  intro r s t a hT ha hk hs hr
  have hs:s<=4398046511104:=hs
  have key:∀y:Rat,Qs s y->C0 288 [.d (dts []),.d (dqs [y])] (·=.d (.int .i64 (Xet y))):=λy hy=>by
   refine En Tryz.func288 λ_ _ _=>?_
   refine Yes rfl rfl ?_
   refine Ix 0 rfl (u:=dq y) rfl ?_
   refine Ce rfl (Xfn hy (by omega)) ?_
   rw[Xko]
   exact R0
  exact key a (ha.qs (W0g.2 rfl))
 | succ k ih =>
  intro r s t a hT ha hk hs hr
  have hx:Sz s (toL k a.1):=Sz.left ha
  have hy:Sz s (toL k a.2):=Sz.right ha
  have hv:vB r k (nB r k s)<=4398046511104:=hs
  have hv1:=Xdd (r:=r) k (nB r k s)
  have hv2:=Xcm (r:=r) (k:=k) (Xu4 r k s)
  have hn:nB r k s=4*s+3*cB r k+r+1:=rfl
  have hz:=ha.norm hT
  refine En Tryz.func288 λ_ _ _=>?_
  refine No rfl (by show ¬((((toT k t.1++[toL k t.2]).map dqs).length:Nat):Int)=0;rw[twL];omega) ?_
  refine Ar k rfl ?_ (tw1 t (by omega))
  refine Ar (2^k:Nat) rfl ?_ (hvq a (by omega))
  refine Dw rfl ?_
  refine Tk k ((toT k t.1).map dqs) rfl rfl (Xke t) (twT t) ?_
  refine Tk (2^k) ((toL k a.1).map dq) rfl rfl (Xci a) (hvT a) ?_
  refine Dp (2^k) ((toL k a.2).map dq) rfl rfl (Xci a) (hvD a) ?_
  refine Ce rfl (ih hT.1 hx (by omega) (by omega) hr) ?_
  refine Ce rfl (ih hT.1 hy (by omega) (by omega) hr) ?_
  rw[Yb3]
  refine By rfl (λh=>?_) λh=>?_
  . rw[if_pos (.inl h)]
    exact R0
  . refine By rfl (λh1=>?_) λh1=>?_
    . rw[if_pos (.inr h1)]
      exact R0
    . rw[if_neg (λe=>e.elim h h1)]
      refine By rfl (λh2=>?_) λh2=>?_
      . rw[if_pos h2]
        exact R0
      . rw[if_neg h2]
        refine Dw rfl ?_
        refine Ce rfl (Xdn hT.1 hx hx (by omega) (by omega) hr) ?_
        refine Ix k rfl (twU t) ?_
        refine Ce rfl (Xdn hT.1 hy hy (by omega) (by omega) hr) ?_
        refine Ce rfl (Xdn hT.1 hT.2 (hy.mul hT.1 hy) (by omega) (by omega) hr) ?_
        refine Ce rfl (Xga hT.1 (hx.mul hT.1 hx) (hT.2.mul hT.1 (hy.mul hT.1 hy)) (by omega) (by omega) hr) ?_
        rw[(Xbc k t.1).mc t.2]
        refine Ce rfl (ih hT.1 hz (by omega) hv hr) ?_
        refine Ar _ rfl ?_ Xt4
        exact R0
theorem Tw.take{k:Nat}: ∀ {t:Tw k} {i:Nat},i<k->∃(w:Tw i) (x:Tow.El i),(toT k t).take i=toT i w/\(toT k t)[i]?=some (toL i x)/\(∀r,TS r k t->TS r i w/\Sz r (toL i x))/\(Xbv k t->Xbv i w/\sgn i w x=1)/\(red k t->red i w/\sgn i w x=1/\¬Xch i w x):=by
 induction k with
 | zero=>intro t i h;omega
 | succ k ih =>
  intro t i h
  have hl:=Xaa k t.1
  by_cases e:i=k
  . subst e
    refine⟨t.1,t.2,W6y hl,?_,λr h=>h,λh=>h,λh=>h⟩
    show (toT i t.1++[toL i t.2])[i]?=_
    rw[W0o (by omega),hl,W2v];rfl
  . obtain⟨w,x,h1,h2,h3,h4,h5⟩:=ih (t:=t.1) (i:=i) (by omega)
    refine⟨w,x,?_,?_,λr h=>h3 r h.1,λh=>h4 h.1,λh=>h5 h.1⟩
    . show (toT k t.1++[toL k t.2]).take i=_
      rw[List.take_append_of_le_length (by omega),h1]
    . show (toT k t.1++[toL k t.2])[i]?=_
      rw[W1b (by omega),h2]
theorem qs0: Qs 1 0:=⟨show (0:Rat).num.natAbs<2^1 by decide +kernel,show ((0:Rat).den:Int).natAbs<2^1 by decide +kernel⟩
section
variable{k r s:Nat}{t:Tw k}{a:Tow.El k}
theorem Xo5(hT:TS r k t)(hR:Xbv k t)(hk:k<=16)(hv:vB r k r<=4398046511104)(hr:r<=4398046511104): C0 362 [.d (dt t)] (·=.b true):=by
 refine En Tryz.func362 λ_ _ _=>?_
 refine Ce rfl (Xa3 (z:=0) (by decide)) ?_
 refine Ce rfl (Xcn (x:=0) (p:=1) hT hk hr qs0 (by decide)) ?_
 refine Ce rfl (Xb3 hT (Sz.rat (p:=1) k qs0) hk (by decide) hr) ?_
 refine No rfl (by simp) ?_
 refine Lo (λi:Nat=>[(0,.d (dt t)),(11,.d (dt t)),(12,.d (.int .i64 ((toT k t).map dqs).length)),(13,.d (.int .i64 i))]) (λ_=>[]) (λi=>i<=k) (λi=>k-i) 0 [] rfl (by omega) (λi hi=>?_)
 refine By rfl (λh=>?_) λh=>?_<;>simp only[lt',Xaa] at h
 . obtain⟨w,x,h1,h2,h3,h4,h5⟩:=Tw.take (t:=t) (i:=i) (by omega)
   have hx:=h3 r hT
   have h6:=Xlq (r:=r) (s:=r) (show i<=k by omega)
   refine Ix i rfl (mp h2) ?_
   refine Tk i ((toT i w).map dqs) rfl rfl (by rw[lt',Xaa];omega) (by rw[<-W3e,h1]) ?_
   refine Ce rfl (Xka hx.1 hx.2 (by omega) (by omega) hr) ?_
   refine No rfl (by rw[(h4 hR).2];decide) ?_
   refine Ar (i+1:Nat) rfl ?_
   exact Bk (i+1) [] rfl (show i+1<=k by omega) (by show k-(i+1)<k-i;omega)
 . exact R0
theorem Xon{l:List (List Rat)}(hT:TS r k t)(hR:Xbv k t)(hk:k<=16)(hv:vB r k r<=4398046511104)(hr:r<=4398046511104)(hl:∀x∈l,∃a:Tow.El k,x=toL k a/\Sz s (toL k a))(hn:l.length<=1000)(hs:s<=4398046511104): C0 285 [.d (dt t),.d (dts l)] (·=.b true):=by
 refine En Tryz.func285 λ_ _ _=>?_
 refine Lo (λi:Nat=>[(0,.d (dt t)),(7,.d (dts l)),(8,.d (.int .i64 (l.map dqs).length)),(9,.d (.int .i64 i))]) (λ_=>[]) (λi=>i<=l.length) (λi=>l.length-i) 0 [] rfl (by omega) (λi hi=>?_)
 refine By rfl (λh=>?_) λh=>?_<;>simp only[lt'] at h
 . obtain⟨x,hx⟩:∃x,l[i]?=some x:=⟨_,W0a (by omega)⟩
   obtain⟨a,rfl,ha⟩:=hl x (W0h hx)
   refine Ix i rfl (mp hx) ?_
   refine Ce rfl (Xb3 hT ha hk hs hr) ?_
   refine No rfl (by simp) ?_
   refine Ar (i+1:Nat) rfl ?_
   exact Bk (i+1) [] rfl (show i+1<=l.length by omega) (by show l.length-(i+1)<l.length-i;omega)
 . refine Ce rfl (Xo5 hT hR hk hv hr) ?_
   exact R0
theorem Xgl(hT:TS r k t)(ha:Sz s (toL k a))(hR:Xbv k t)(hk:k<=16)(hs:vB r k s<=4398046511104)(hv:vB r k r<=4398046511104)(hr:r<=4398046511104): C0 244 [.d (dt t),.d (de a)] (·=.d (.int .i64 (sgn k t a))):=by
 have:=Xdd (r:=r) k s
 refine En Tryz.func244 λ_ _ _=>?_
 refine Ce rfl (Xon (l:=[toL k a]) (s:=s) hT hR hk hv hr (λx hx=>⟨a,W0g.1 hx,ha⟩) (by simp) (by omega)) ?_
 refine No rfl (by simp) ?_
 refine Ce rfl (Xka hT ha hk hs hr) ?_
 exact R0
end
end Go.Proofs.YtclgppjdhndgiaaGreatDoor
namespace Go.Proofs.YtclgppjdhndgiaaGreatDoor.R7
open Go Go.Vm Go.Num Go.Tow Go.Proofs.YtclgppjdhndgiaaGreatDoor
theorem Xhu{k:Nat}: ∀ {r s:Nat} {t:Tw k} {a:Tow.El k},TS r k t->Sz s (toL k a)->k<=16->vB r k s<=4398046511104->C0 167 [.d (dt t),.d (de a)] (·=.d (.int .i64 (sgn k t a))):=by
 induction k with
 | zero =>
  intro r s t a hT ha hk hs
  have hs:s<=4398046511104:=hs
  have key:∀y:Rat,Qs s y->C0 167 [.d (dts []),.d (dqs [y])] (·=.d (.int .i64 (Xet y))):=λy hy=>by
   refine En Tryz.func167 λ_ _ _=>?_
   refine Yes rfl rfl ?_
   refine Ix 0 rfl (u:=dq y) rfl ?_
   refine Ce rfl (R2.Sign_ok hy (by omega)) ?_
   rw[Xko]
   exact R0
  exact key a (ha.qs (W0g.2 rfl))
 | succ k ih =>
  intro r s t a hT ha hk hs
  have hx:Sz s (toL k a.1):=Sz.left ha
  have hy:Sz s (toL k a.2):=Sz.right ha
  have hv:vB r k (nB r k s)<=4398046511104:=hs
  have hv1:=Xdd (r:=r) k (nB r k s)
  have hv2:=Xcm (r:=r) (k:=k) (Xu4 r k s)
  have hz:=ha.norm hT
  refine En Tryz.func167 λ_ _ _=>?_
  refine No rfl (by show ¬((((toT k t.1++[toL k t.2]).map dqs).length:Nat):Int)=0;rw[twL];omega) ?_
  refine Ar k rfl ?_ (tw1 t (by omega))
  refine Dw rfl ?_
  refine Ar (2^k:Nat) rfl ?_ (hvq a (by omega))
  refine Tk (2^k) ((toL k a.1).map dq) rfl rfl (Xci a) (hvT a) ?_
  refine Ar (2^k:Nat) rfl ?_ (hvq a (by omega))
  refine Dp (2^k) ((toL k a.2).map dq) rfl rfl (Xci a) (hvD a) ?_
  refine Dw rfl ?_
  refine Tk k ((toT k t.1).map dqs) rfl rfl (Xke t) (twT t) ?_
  refine Ce rfl (ih hT.1 hx (by omega) (by omega)) ?_
  refine Tk k ((toT k t.1).map dqs) rfl rfl (Xke t) (twT t) ?_
  refine Ce rfl (ih hT.1 hy (by omega) (by omega)) ?_
  rw[Yb3]
  refine By rfl (λh=>?_) λh=>?_
  . rw[if_pos (.inl h)]
    exact R0
  . refine By rfl (λh1=>?_) λh1=>?_
    . rw[if_pos (.inr h1)]
      exact R0
    . rw[if_neg (λe=>e.elim h h1)]
      refine By rfl (λh2=>?_) λh2=>?_
      . rw[if_pos h2]
        exact R0
      . rw[if_neg h2]
        refine Dw rfl ?_
        refine Tk k ((toT k t.1).map dqs) rfl rfl (Xke t) (twT t) ?_
        refine Ce rfl (R6.Norm_ok hT ha hk (by omega)) ?_
        refine Ce rfl (ih hT.1 hz (by omega) hv) ?_
        refine Ar _ rfl ?_ Xt4
        exact R0
section
variable{k r s:Nat}{t:Tw k}{a:Tow.El k}
theorem Xo5(hT:TS r k t)(hR:Xbv k t)(hk:k<=16)(hv:vB r k r<=4398046511104): C0 419 [.d (dt t)] (·=.b true):=by
 have:=Xdd (r:=r) k r
 refine En Tryz.func419 λ_ _ _=>?_
 refine Ce rfl (R6.Tower_ok (TS.pt hT) (by omega) (by rw[Xaa];omega)) ?_
 refine No rfl (by simp) ?_
 refine Lo (λi:Nat=>[(0,.d (dt t)),(3,.d (.int .i64 i))]) (λ_=>[]) (λi=>i<=k) (λi=>k-i) 0 [] rfl (by omega) (λi hi=>?_)
 refine By rfl (λh=>?_) λh=>?_<;>simp only[lt',Xaa] at h
 . obtain⟨w,x,h1,h2,h3,h4,h5⟩:=Tw.take (t:=t) (i:=i) (by omega)
   have hx:=h3 r hT
   have h6:=Xlq (r:=r) (s:=r) (show i<=k by omega)
   refine Dw rfl ?_
   refine Tk i ((toT i w).map dqs) rfl rfl (by rw[lt',Xaa];omega) (by rw[<-W3e,h1]) ?_
   refine Ix i rfl (mp h2) ?_
   refine Ce rfl (Xhu hx.1 hx.2 (by omega) (by omega)) ?_
   refine No rfl (by rw[(h4 hR).2];simp) ?_
   refine Ar (i+1:Nat) rfl ?_
   exact Bk (i+1) [] rfl (show i+1<=k by omega) (by show k-(i+1)<k-i;omega)
 . exact R0
theorem Sign_ok(hT:TS r k t)(ha:Sz s (toL k a))(hR:Xbv k t)(hk:k<=16)(hs:vB r k s<=4398046511104)(hv:vB r k r<=4398046511104): C0 382 [.d (dt t),.d (de a)] (·=.d (.int .i64 (sgn k t a))):=by
 have:=Xdd (r:=r) k s
 have:=Xdd (r:=r) k r
 refine En Tryz.func382 λ_ _ _=>?_
 refine Ce rfl (R6.Formed_ok (TS.pt hT) (by omega) ha.ps (by omega) (by rw[Xaa];omega) (Yha t a)) ?_
 refine No rfl (by simp) ?_
 refine Ce rfl (Xo5 hT hR hk hv) ?_
 refine No rfl (by simp) ?_
 refine Ce rfl (Xhu hT ha hk hs) ?_
 exact R0
theorem Fast_ok(hT:TS r k t)(ha:Sz s (toL k a))(hk:k<=16)(hs:vB r k s<=4398046511104): C0 265 [.d (dt t),.d (de a)] (·=.d (.int .i64 (sgn k t a))):=by
 refine En Tryz.func265 λ_ _ _=>?_
 refine Ce rfl (Xhu hT ha hk hs) ?_
 exact R0
end
end Go.Proofs.YtclgppjdhndgiaaGreatDoor.R7
namespace Go.Num
theorem Zs.len2{p:Nat}{z:Int}(h:Zs p z)(hp:p<=4398046511104): (dig z.natAbs).length<=137438953473:=by
 have h1:z.natAbs<4294967296^(p/32+1):=by
  rw[show 4294967296=2^32 from rfl,<-W4y]
  exact W0s h (W0m (by decide) (by omega))
 have:=Xaq h1
 omega
end Go.Num
namespace Go.Proofs.YtclgppjdhndgiaaGreatDoor.R2
open Go Go.Vm Go.Num Go.Proofs.YtclgppjdhndgiaaGreatDoor
def dR(b:Bool)(l:List Nat)(b':Bool)(l':List Nat): D:=.st (.pr (dS b l) (dS b' l'))
theorem Sqrt_ok{x:Rat}{p:Nat}(hx:Qs p x)(hp:p<=4398046511104): C0 420 [.d (dq x)] λv=>∃b l b' l',v=.tup (.pr (.d (dR b l b' l')) (.b (dc (∃y:Rat,y*y=x))))/\((∃y:Rat,y*y=x)->∃y:Rat,y*y=x/\dR b l b' l'=dq y):=by
 have h1:=hx.n.len2 hp
 have h2:=hx.d.len2 hp
 have hi:=Xtw (q:=x)
 have no:¬(∃y:Rat,y*y=x)->∀ {g K},FitT g K (.b false) (.b (dc (∃y:Rat,y*y=x))):=λh _ _=>.one (by exact .bp (c:=false) ⟨nofun,λe=>absurd e h⟩) (λ_ _ e=>by cases e) (λ_ _ e=>by cases e)
 refine En Tryz.func420 λ_ _ _=>?_
 refine By rfl (λh=>?_) λh=>?_
 . exact Rt rfl (.tup (.cons (.sd (.pd (.sd (.pd (.bd rfl) (.nil rfl))) (.sd (.pd (.bd rfl) (.nil rfl)))))  (no λe=>by have:=(hi.1 e).1;omega))) ⟨false,[],false,[],rfl,λe=>by have:=(hi.1 e).1;omega⟩
 have hn:((x.num.natAbs:Nat):Int)=x.num:=by omega
 have hs:=R1.Sqrt_ok (a:=x.num.natAbs) (by omega)
 rw[hn] at hs
 have hd:=R1.Sqrt_ok (a:=x.den) (by rw[W1l] at h2;omega)
 have hr:∀n:Nat,n<2^p->Zs p (rt n:Int)/\Zs p ((rt n:Int)*(rt n:Int)):=λn hn=>by
  have:=(Xc5 n).1
  have h3:rt n<=rt n*rt n:=Nat.le_mul_self _
  unfold Zs
  rw[W4m,W1l]
  omega
 obtain⟨r1,r2⟩:=hr _ (show x.num.natAbs<2^p from hx.n)
 obtain⟨r3,r4⟩:=hr x.den (by have:=hx.d;unfold Zs at this;rwa[W1l] at this)
 have r1:=r1.len2 hp
 have r2:=r2.len2 hp
 have r3:=r3.len2 hp
 have r4:=r4.len2 hp
 refine Ce rfl hs ?_
 refine Ce rfl hd ?_
 refine Dw rfl ?_
 refine Ce rfl (R1.Mul_ok (by omega) (by omega)) ?_
 refine Ce rfl (SameInt_ok (by omega)) ?_
 refine By rfl (λh=>?_) λh=>?_
 . have hno:¬ ∃y:Rat,y*y=x:=λe=>by
    have h3:=(hi.1 e).2.1
    unfold sqN at h3
    have h4:¬(rt x.num.natAbs:Int)*(rt x.num.natAbs:Int)=x.num:=by simpa [Xa4,Xal] using h
    exact h4 (by rw[<-W2z,h3,hn])
   exact Rt rfl (.tup (.cons (.sd (.pd (.sd (.pd (.bd rfl) (.nil rfl))) (.sd (.pd (.bd rfl) (.nil rfl))))) (no hno))) ⟨false,[],false,[],rfl,λe=>absurd e hno⟩
 have k1:(rt x.num.natAbs:Int)*(rt x.num.natAbs:Int)=x.num:=by simpa [Xa4,Xal] using h
 refine Ce rfl (R1.Mul_ok (by omega) (by omega)) ?_
 refine Ce rfl (SameInt_ok (by omega)) ?_
 refine By rfl (λh=>?_) λh=>?_
 . have hno:¬ ∃y:Rat,y*y=x:=λe=>by
    have h3:=(hi.1 e).2.2
    unfold sqN at h3
    have h4:¬(rt x.den:Int)*(rt x.den:Int)=x.den:=by simpa [Xa4,Xal] using h
    exact h4 (by rw[<-W2z,h3])
   exact Rt rfl (.tup (.cons (.sd (.pd (.sd (.pd (.bd rfl) (.nil rfl))) (.sd (.pd (.bd rfl) (.nil rfl))))) (no hno))) ⟨false,[],false,[],rfl,λe=>absurd e hno⟩
 have k2:(rt x.den:Int)*(rt x.den:Int)=x.den:=by simpa [Xa4,Xal] using h
 obtain⟨y,y1,y2,y3⟩:=Xkl (q:=x) (by omega) (by unfold sqN;omega) (by unfold sqN;omega)
 refine Rt rfl (.tup (.cons (.rf rfl) (.one (by exact .bp (c:=true) ⟨λ_=>⟨y,y3⟩,λ_=>rfl⟩) (λ_ _ e=>by cases e) (λ_ _ e=>by cases e)))) ⟨_,_,_,_,rfl,λ_=>⟨y,y3,?_⟩⟩
 show D.st (.pr (dz _) (dz _))=D.st (.pr (dz _) (dz _))
 rw[y1,y2]
end Go.Proofs.YtclgppjdhndgiaaGreatDoor.R2
namespace Go.Proofs.YtclgppjdhndgiaaGreatDoor
open Go Go.Vm Go.Num Go.Tow
theorem Xrc{p:Prop}(h:¬p){g:Hp}{K:Hpl}: FitT g K (.b false) (.b (dc p)):=.one (by exact .bp (c:=false) ⟨nofun,λe=>absurd e h⟩) (λ_ _ e=>by cases e) (λ_ _ e=>by cases e)
theorem Xyg{p:Prop}(h:p){g:Hp}{K:Hpl}: FitT g K (.b true) (.b (dc p)):=.one (by exact .bp (c:=true) ⟨λ_=>h,λ_=>rfl⟩) (λ_ _ e=>by cases e) (λ_ _ e=>by cases e)
theorem Xax{n:Int}{g:Hp}{K:Hpl}: FitT g K (.d (.int .i64 n)) (.d (.int .i64 n)):=.one (.rf rfl) (λ_ _ e=>by cases e) (λ_ _ e=>by cases e)
def SqR(k:Nat)(t:Tw k)(a:Tow.El k)(v:AV): Prop:=∃w:D,v=.tup (.pr (.d w) (.b (dc (Xch k t a))))/\(Xch k t a->∃x,mul k t x x=a/\w=de x)
theorem Xwe: (Rat.divInt 1 2)=1/2:=by decide +kernel
end Go.Proofs.YtclgppjdhndgiaaGreatDoor
namespace Go.Proofs.YtclgppjdhndgiaaGreatDoor.R6
open Go Go.Vm Go.Num Go.Tow Go.Proofs.YtclgppjdhndgiaaGreatDoor
theorem FromRat_el{k:Nat}{t:Tw k}{x:Rat}(hk:k<=16): C0 166 [.d (dt t),.d (dq x)] (·=.d (de (rat k x))):=by
 have:=FromRat_ok (t:=toT k t) (x:=x) (by rw[Xaa];omega)
 rwa[Xaa,<-Xex] at this
theorem FromRat_z{k:Nat}{t:Tw k}(hk:k<=16): C0 166 [.d (dt t),.d (dq 0)] (·=.d (de (zero k))):=by
 have:=FromRat_el (t:=t) (x:=0) hk
 rwa[Xg9] at this
end Go.Proofs.YtclgppjdhndgiaaGreatDoor.R6
namespace Go.Proofs.YtclgppjdhndgiaaGreatDoor.R8
open Go Go.Vm Go.Num Go.Tow Go.Proofs.YtclgppjdhndgiaaGreatDoor
theorem Yfe{l m:List Rat}(h0:0<l.length)(hl:l.length+m.length<=1048576): C0 421 [.d (dqs l),.d (dqs m)] (·=.d (dqs (l++m))):=by
 refine En Tryz.func421 λ_ _ _=>?_
 refine ApL (l.map dq) rfl rfl (by simp;omega) (by simp;omega) ?_
 refine ApO ((l++m).map dq) rfl rfl rfl (by simp) (by simp;omega) ?_
 exact R1 rfl (.own rfl (by simp) (by rw[W1a];exact W0b (by simp)))
theorem Xoi{k:Nat}{x y:Tow.El k}(hk:k<=16): C0 421 [.d (de x),.d (de y)] (·=.d (de (pr x y))) :=
 Yfe (by rw[Xab];exact W0u k) (by rw[Xab,Xab];have:=p16 hk;omega)
theorem Xd2{k:Nat}: ∀ {r p:Nat} {t:Tw k} {a:Tow.El k},TS r k t->Sz p (toL k a)->red k t->k<=16->qB r k p<=4398046511104->C0 383 [.d (dt t),.d (de a)] (SqR k t a):=by
 induction k with
 | zero =>
  intro r p t a hT ha hR hk hq
  have hq:p<=4398046511104:=hq
  have key:∀y:Rat,Qs p y->C0 383 [.d (dts []),.d (dqs [y])] λv=>∃w:D,v=.tup (.pr (.d w) (.b (dc (∃x:Rat,x*x=y))))/\((∃x:Rat,x*x=y)->∃x:Rat,x*x=y/\w=dqs [x]):=λy hy=>by
   refine En Tryz.func383 λ_ _ _=>?_
   refine Yes rfl rfl ?_
   refine Ix 0 rfl (u:=dq y) rfl ?_
   refine Ca rfl (R2.Sqrt_ok hy (by omega)) λv hv=>?_
   obtain⟨b,l,b',l',rfl,hw⟩:=hv
   exact Rt rfl (.tup (.cons (.lit rfl) (.one (.rf rfl) (λ_ _ e=>by cases e) (λ_ _ e=>by cases e)))) ⟨_,rfl,λh=>let ⟨y,h1,h2⟩:=hw h;⟨y,h1,by rw[show dqs [y]=D.sl 4 [dq y] from rfl,<-h2];rfl⟩⟩
  exact key a (ha.qs (W0g.2 rfl))
 | succ k ih =>
  intro r p t a hT ha hR hk hq
  have hx:Sz p (toL k a.1):=Sz.left ha
  have hy:Sz p (toL k a.2):=Sz.right ha
  have hlen:=Xab k
  have hpk:=p16 (show k<=16 by omega)
  have hz:=ha.normS hT
  have L:=Xbc k t.1
  have hqq:p+vB r (k+1) p+vB r (k+1) r+nB r k p+qB r k (sX r k p)+iB r k (sX r k p+gC r k)+iS r k (sX r k p+gC r k)+iB r k r+2*cB r k+4<=4398046511104:=hq
  have hX:sX r k p=p+nS r k p+gC r k+cB r k+iS r k r+4:=rfl
  have hN:nB r k p=4*p+3*cB r k+r+1:=rfl
  have q1:qB r k p<=qB r k (sX r k p):=Xc7 (by omega)
  have q2:qB r k (nS r k p)<=qB r k (sX r k p):=Xc7 (by omega)
  have q3:qB r k (p+iS r k r+cB r k)<=qB r k (sX r k p):=Xc7 (by omega)
  have q4:sX r k p<=qB r k (sX r k p):=Yis
  have hr0:t.2≠zero k:=λh0=>hR.2.2 ⟨zero k,by rw[h0,L.mz]⟩
  obtain⟨i,hi⟩:=(Xd3 hR.1).2 t.2 hr0
  have him:=Xdv hi
  have hiz:=Sz.invS hT.1 hT.2 hi
  refine En Tryz.func383 λ_ _ _=>?_
  refine No rfl (by show ¬((((toT k t.1++[toL k t.2]).map dqs).length:Nat):Int)=0;rw[twL];omega) ?_
  refine Ce rfl (R7.Sign_ok hT ha (Xah hR) hk (by omega) (by omega)) ?_
  refine By rfl (λh=>?_) λh=>?_
  . have no:¬Xch (k+1) t a:=λe=>by have:=Ymw (Xah hR) e;omega
    exact Rt rfl (.tup (.cons (.nil (sz:=4) rfl) (Xrc no))) ⟨_,rfl,λe=>absurd e no⟩
  refine Ar k rfl ?_ (tw1 t (by omega))
  refine Dw rfl ?_
  refine Tk k ((toT k t.1).map dqs) rfl rfl (Xke t) (twT t) ?_
  refine Ix k rfl (twU t) ?_
  refine Ar (2^k:Nat) rfl ?_ (hvq a (by omega))
  refine Dw rfl ?_
  refine Tk (2^k) ((toL k a.1).map dq) rfl rfl (Xci a) (hvT a) ?_
  refine Dp (2^k) ((toL k a.2).map dq) rfl rfl (Xci a) (hvD a) ?_
  refine Ce rfl (R2.FromInt_ok (z:=0) (by decide)) ?_
  refine Ce rfl (R6.FromRat_z (t:=t.1) (by omega)) ?_
  refine Ce rfl (R6.Zero_ok (l:=toL k a.2) (by rw[hlen];omega)) ?_
  refine By rfl (λhv=>?_) λhv=>?_
  . have ev:=(Xar k a.2).2 hv
    have ea:a=up k a.1:=by show (a.1,a.2)=(a.1,zero k);rw[ev]
    refine Ca rfl (ih hT.1 hx hR.1 (by omega) (by omega)) λv hv=>?_
    obtain⟨w,rfl,hw⟩:=hv
    refine By rfl (λh1=>?_) λh1=>?_
    . obtain⟨x,hx1,rfl⟩:=hw h1
      have hs:mul (k+1) t (pr x (zero k)) (pr x (zero k))=a:=(Yh5 hx1).trans ea.symm
      refine Ce rfl (Xoi (x:=x) (y:=zero k) (by omega)) ?_
      exact Rt rfl (.tup (.cons (.rf rfl) (Xyg ⟨_,hs⟩))) ⟨_,rfl,λ_=>⟨_,hs,rfl⟩⟩
    . refine Ce rfl (R6.Inv_ok hT.1 hT.2 hR.1 hi (by omega) (by omega)) ?_
      refine Ce rfl (R6.Mul_el hT.1 hx hiz (by omega) (by omega)) ?_
      refine Ca rfl (ih hT.1 (hx.mul hT.1 hiz) hR.1 (by omega) (by omega)) λv hv=>?_
      obtain⟨w,rfl,hw⟩:=hv
      refine By rfl (λh2=>?_) λh2=>?_
      . obtain⟨x,hx1,rfl⟩:=hw h2
        have hs:mul (k+1) t (pr (zero k) x) (pr (zero k) x)=a:=(Xtu him hx1).trans ea.symm
        refine Ce rfl (Xoi (x:=zero k) (y:=x) (by omega)) ?_
        exact Rt rfl (.tup (.cons (.rf rfl) (Xyg ⟨_,hs⟩))) ⟨_,rfl,λ_=>⟨_,hs,rfl⟩⟩
      . have no:¬Xch (k+1) t a:=ea ▸ Xlu hR.1 him h1 h2
        exact Rt rfl (.tup (.cons (.nil (sz:=4) rfl) (Xrc no))) ⟨_,rfl,λe=>absurd e no⟩
  have ev:a.2≠zero k:=λe=>hv ((Xar k a.2).1 e)
  refine Ce rfl (R6.Mul_el hT.1 hx hx (by omega) (by omega)) ?_
  refine Ce rfl (R6.Mul_el hT.1 hy hy (by omega) (by omega)) ?_
  refine Ce rfl (R6.Mul_el hT.1 hT.2 (hy.mul hT.1 hy) (by omega) (by omega)) ?_
  refine Ce rfl (R6.Sub_el (by omega) (hx.mul hT.1 hx).ps (hT.2.mul hT.1 (hy.mul hT.1 hy)) (by omega)) ?_
  rw[L.mc t.2]
  refine Ca rfl (ih hT.1 hz hR.1 (by omega) (by omega)) λv hv=>?_
  obtain⟨w,rfl,hw⟩:=hv
  refine By rfl (λh1=>?_) λh1=>?_
  . have no:¬Xch (k+1) t a:=λe=>by
     exact h1 (Xtt e)
    exact Rt rfl (.tup (.cons (.nil (sz:=4) rfl) (Xrc no))) ⟨_,rfl,λe=>absurd e no⟩
  obtain⟨m,hm,rfl⟩:=hw (W2h.1 h1)
  have hm:mul k t.1 m m=Tow.norm k t a:=hm
  have hmz:=hz.rootS hT.1 hR.1 hm
  refine Ce rfl (R2.Frac_ok (a:=1) (b:=2) (by decide) (by decide) (by decide)) ?_
  rw[Xwe]
  refine Ce rfl (R6.FromRat_el (t:=t.1) (x:=1/2) (by omega)) ?_
  refine Lo (λ(x:Nat×Tow.El k)=>[(9,.d (dt t.1)),(12,.d (de a.1)),(13,.d (de a.2)),(22,.d (de x.2)),(24,.d (de (rat k (1/2)))),(25,.d (.int .i64 x.1))]) (λ_=>[]) (λx=>(x.1=0/\x.2=m)\/(x.1=1/\x.2=Tow.neg k m/\¬Xch k t.1 (mul k t.1 (rat k (1/2)) (Tow.add k a.1 m)))\/(x.1=2/\¬Xch k t.1 (mul k t.1 (rat k (1/2)) (Tow.add k a.1 m))/\¬Xch k t.1 (mul k t.1 (rat k (1/2)) (Tow.add k a.1 (Tow.neg k m))))) (λx=>2-x.1) (0,m) [] rfl (.inl ⟨rfl,rfl⟩) (λ(j,mm) hI=>?_)
  simp only at hI
  refine By rfl (λh2=>?_) λh2=>?_
  . have hmm:mul k t.1 mm mm=Tow.norm k t a/\Sz (nS r k p+gC r k) (toL k mm):=by
     rcases hI with ⟨_,rfl⟩ | ⟨_,rfl,_⟩ | ⟨rfl,_⟩
     . exact⟨hm,hmz⟩
     . exact⟨by rw[L.mn,L.nm,L.nn,hm],Xgu hmz⟩
     . omega
    have hS:Sz (3+(p+(nS r k p+gC r k)+1)+cB r k) (toL k (mul k t.1 (rat k (1/2)) (Tow.add k a.1 mm))):=Sz.half.mul hT.1 (by rw[Xas];exact hx.add hmm.2)
    have q5:qB r k (3+(p+(nS r k p+gC r k)+1)+cB r k)<=qB r k (sX r k p):=Xc7 (by omega)
    refine Ce rfl (R6.Add_el (by omega) hx.ps hmm.2.ps (by omega)) ?_
    refine Ce rfl (R6.Mul_el hT.1 Sz.half (by rw[Xas];exact hx.add hmm.2) (by omega) (by omega)) ?_
    refine Ca rfl (ih hT.1 hS hR.1 (by omega) (by omega)) λv hv=>?_
    obtain⟨w,rfl,hw⟩:=hv
    refine By rfl (λh3=>?_) λh3=>?_
    . obtain⟨w,hw1,rfl⟩:=hw h3
      have hw0:=Yh4 hR ev hmm.1 hw1
      obtain⟨j,hj⟩:=(Xd3 hR.1).2 w hw0
      have hwz:Sz (sX r k p+gC r k) (toL k w):=(hS.rootS hT.1 hR.1 hw1).mono (by omega)
      have hjz:=Sz.invS hT.1 hwz hj
      have hs:mul (k+1) t (pr w (mul k t.1 (rat k (1/2)) (mul k t.1 a.2 j))) (pr w (mul k t.1 (rat k (1/2)) (mul k t.1 a.2 j)))=a:=by
       have:=Yh7 hmm.1 hw1 (Xz1 (Xdv hj))
       rwa[show mul k t.1 a.2 (mul k t.1 (rat k (1/2)) j)=mul k t.1 (rat k (1/2)) (mul k t.1 a.2 j) from L.mlc _ _ _] at this
      refine Ce rfl (R6.Inv_ok hT.1 hwz hR.1 hj (by omega) (by omega)) ?_
      refine Ce rfl (R6.Mul_el hT.1 hy hjz (by omega) (by omega)) ?_
      refine Ce rfl (R6.Mul_el hT.1 Sz.half (hy.mul hT.1 hjz) (by omega) (by omega)) ?_
      refine Ce rfl (Xoi (by omega)) ?_
      exact Rt rfl (.tup (.cons (.rf rfl) (Xyg ⟨_,hs⟩))) ⟨_,rfl,λ_=>⟨_,hs,rfl⟩⟩
    . refine Ce rfl (R6.Neg_el (by omega) hmm.2.ps (by omega)) ?_
      refine Ar (j+1:Nat) rfl ?_
      refine Bk (j+1,Tow.neg k mm) [] rfl ?_ (by show 2-(j+1)<2-j;omega)
      rcases hI with ⟨rfl,rfl⟩ | ⟨rfl,rfl,h4⟩ | ⟨rfl,_⟩
      . exact .inr (.inl ⟨rfl,rfl,h3⟩)
      . exact .inr (.inr ⟨rfl,h4,h3⟩)
      . omega
  . have no:¬Xch (k+1) t a:=λe=>by
     rcases hI with ⟨rfl,rfl⟩ | ⟨rfl,rfl,h4⟩ | ⟨rfl,h4,h5⟩
     . omega
     . omega
     . obtain⟨w,_,h6 | h6⟩:=Xpu hR.1 ev hm e
       . exact h4 ⟨w,h6⟩
       . exact h5 ⟨w,h6⟩
    exact Rt rfl (.tup (.cons (.nil (sz:=4) rfl) (Xrc no))) ⟨_,rfl,λe=>absurd e no⟩
theorem Xkq{k r p:Nat}{t:Tw k}{a:Tow.El k}(hT:TS r k t)(ha:Sz p (toL k a))(hR:red k t)(hk:k<=16)(hq:qB r k p<=4398046511104)(hv:vB r k (p+gC r k)<=4398046511104)(hr:vB r k r<=4398046511104):
 C0 386 [.d (dt t),.d (de a)] λv=>∃w:D,v=.tup (.pr (.d w) (.b (dc (Xch k t a))))/\(Xch k t a->∃x,mul k t x x=a/\0<=sgn k t x/\w=de x):=by
 have L:=Xbc k t
 have S:=Xav (Xah hR)
 have:=Xdd (r:=r) k (p+gC r k)
 refine En Tryz.func386 λ_ _ _=>?_
 refine Ca rfl (Xd2 hT ha hR hk hq) λv hv=>?_
 obtain⟨w,rfl,hw⟩:=hv
 refine By rfl (λh=>?_) λh=>?_
 . exact Rt rfl (.tup (.cons (.nil (sz:=4) rfl) (Xrc h))) ⟨_,rfl,λe=>absurd e h⟩
 have h:=W2h.1 h
 obtain⟨x,hx,rfl⟩:=hw h
 have hz:=ha.rootS hT hR hx
 refine Ce rfl (R7.Sign_ok hT hz (Xah hR) hk hv hr) ?_
 refine By rfl (λh1=>?_) λh1=>?_
 . refine Ce rfl (R6.Neg_el hk hz.ps (by omega)) ?_
   exact Rt rfl (.tup (.cons (.rf rfl) (Xyg h))) ⟨_,rfl,λ_=>⟨Tow.neg k x,by rw[L.mn,L.nm,L.nn,hx],by rw[S.sn];omega,rfl⟩⟩
 . exact Rt rfl (.tup (.cons (.rf rfl) (Xyg h))) ⟨_,rfl,λ_=>⟨x,hx,by omega,rfl⟩⟩
theorem Xgm{k r:Nat}{t:Tw k}(hT:TS r k t)(hR:red k t)(hk:k<=16)(hq:qB r k r<=4398046511104)(hv:vB r k r<=4398046511104): C0 334 [.d (dt t)] (·=.b true):=by
 have:=Xdd (r:=r) k r
 refine En Tryz.func334 λ_ _ _=>?_
 refine Lo (λi:Nat=>[(0,.d (dt t)),(3,.d (.int .i64 i))]) (λ_=>[]) (λi=>i<=k) (λi=>k-i) 0 [] rfl (by omega) (λi hi=>?_)
 refine By rfl (λh=>?_) λh=>?_<;>simp only[lt',Xaa] at h
 . obtain⟨w,x,h1,h2,h3,h4,h5⟩:=Tw.take (t:=t) (i:=i) (by omega)
   have hx:=h3 r hT
   obtain⟨h6,h7,h8⟩:=h5 hR
   have q1:=Xzd (r:=r) (p:=r) (show i<=k by omega)
   have v1:=Xlq (r:=r) (s:=r) (show i<=k by omega)
   refine Dw rfl ?_
   refine Tk i ((toT i w).map dqs) rfl rfl (by rw[lt',Xaa];omega) (by rw[<-W3e,h1]) ?_
   refine Ix i rfl (mp h2) ?_
   refine Ce rfl (R6.Formed_ok (TS.pt hx.1) (by omega) hx.2.ps (by omega) (by rw[Xaa];omega) (Yha w x)) ?_
   refine No rfl (by simp) ?_
   refine Tk i ((toT i w).map dqs) rfl rfl (by rw[lt',Xaa];omega) (by rw[<-W3e,h1]) ?_
   refine Ix i rfl (mp h2) ?_
   refine Ce rfl (R7.Sign_ok hx.1 hx.2 (Xah h6) (by omega) (by omega) (by omega)) ?_
   refine No rfl (by omega) ?_
   refine Dw rfl ?_
   refine Tk i ((toT i w).map dqs) rfl rfl (by rw[lt',Xaa];omega) (by rw[<-W3e,h1]) ?_
   refine Ix i rfl (mp h2) ?_
   refine Ca rfl (Xd2 hx.1 hx.2 h6 (by omega) (by omega)) λv hv=>?_
   obtain⟨d,rfl,hd⟩:=hv
   refine No rfl h8 ?_
   refine Ar (i+1:Nat) rfl ?_
   exact Bk (i+1) [] rfl (show i+1<=k by omega) (by show k-(i+1)<k-i;omega)
 . exact R0
def AdjR(k:Nat)(t:Tw k)(a:Tow.El k)(v:AV): Prop :=
 (sgn k t a<0/\v=.tup (.pr (.d (dts [])) (.pr (.d (dqs [])) (.d (.int .i64 7))))) \/
 (∃x,mul k t x x=a/\0<=sgn k t x/\v=.tup (.pr (.d (dt t)) (.pr (.d (de x)) (.d (.int .i64 0))))) \/
 (0<=sgn k t a/\¬Xch k t a/\k<8/\v=.tup (.pr (.d (dt (tsn t a))) (.pr (.d (de (Xf3 (k+1) k))) (.d (.int .i64 0)))))
theorem Xx5{k r p:Nat}{t:Tw k}{a:Tow.El k}(hT:TS r k t)(ha:Sz p (toL k a))(hR:red k t)(hk:k<8)(hq:qB r k p<=4398046511104)(hv:vB r k (p+gC r k)<=4398046511104)(hr:vB r k r<=4398046511104):
 C0 336 [.d (dt t),.d (de a)] (AdjR k t a):=by
 have h0:=Xcm (r:=r) (k:=k) (show p<=p+gC r k by omega)
 have hlen:=Xaa k t
 refine En Tryz.func336 λ_ _ _=>?_
 refine Ce rfl (R7.Sign_ok hT ha (Xah hR) (by omega) (by omega) hr) ?_
 refine By rfl (λh=>?_) λh=>?_
 . exact Rt rfl (.tup (.cons (.nil rfl) (.cons (.nil rfl) Xax))) (.inl ⟨h,rfl⟩)
 refine Ca rfl (Xkq hT ha hR (by omega) hq hv hr) λv hv=>?_
 obtain⟨w,rfl,hw⟩:=hv
 refine By rfl (λh1=>?_) λh1=>?_
 . obtain⟨x,x1,x2,rfl⟩:=hw h1
   exact Rt rfl (.tup (.cons (.rf rfl) (.cons (.rf rfl) Xax))) (.inr (.inl ⟨x,x1,x2,rfl⟩))
 refine No rfl (by simp only[lt',hlen];omega) ?_
 have e:dt (tsn t a)=dts (toT k t++[toL k a]):=rfl
 have e2:(((toT k t).map dqs).length:Int)=k:=by simp[hlen]
 by_cases k0:k=0
 . subst k0
   refine ApE rfl rfl (by decide) ?_
   refine ApL ([toL 0 a].map dqs) rfl rfl (by simp) (by simp) ?_
   refine Fz 9 9 ([toL 0 a].map dqs) rfl (by simp) rfl ?_
   refine Ce rfl (R6.Root_ok (r:=r) (t:=tsn t a) (i:=0) (by omega) (by omega)) ?_
   exact Rt rfl (.tup (.cons (.rf rfl) (.cons (.rf rfl) Xax))) (.inr (.inr ⟨by omega,h1,hk,rfl⟩))
 . refine ApL ((toT k t).map dqs) rfl rfl (by simp[hlen];omega) (by simp[hlen];omega) ?_
   refine ApO ((toT k t++[toL k a]).map dqs) rfl rfl rfl (by simp) (by simp[hlen];omega) ?_
   refine Fz 9 9 ((toT k t++[toL k a]).map dqs) rfl (by simp) (by rw[W1a];exact W0b (by simp)) ?_
   have hrt:=R6.Root_ok (r:=r) (t:=tsn t a) (i:=k) (by omega) (by omega)
   rw[<-e2] at hrt
   refine Ce rfl hrt ?_
   exact Rt rfl (.tup (.cons (.rf rfl) (.cons (.rf rfl) Xax))) (.inr (.inr ⟨by omega,h1,hk,rfl⟩))
theorem Adjoin_ok{k r p:Nat}{t:Tw k}{a:Tow.El k}(hT:TS r k t)(ha:Sz p (toL k a))(hR:red k t)(hk:k<8)(hq:qB r k p<=4398046511104)(hq2:qB r k r<=4398046511104)(hv:vB r k (p+gC r k)<=4398046511104)(hr:vB r k r<=4398046511104):
 C0 245 [.d (dt t),.d (de a)] (AdjR k t a):=by
 have h0:=Xdd (r:=r) k r
 have h1:=Xdd (r:=r) k (p+gC r k)
 refine En Tryz.func245 λ_ _ _=>?_
 refine Ce rfl (Xgm hT hR (by omega) hq2 hr) ?_
 refine No rfl (by simp) ?_
 refine Ce rfl (R6.Formed_ok (TS.pt hT) (by omega) ha.ps (by omega) (by rw[Xaa];omega) (Yha t a)) ?_
 refine No rfl (by simp) ?_
 refine Ca rfl (Xx5 hT ha hR hk hq hv hr) λv hv=>?_
 rcases hv with ⟨h1,rfl⟩ | ⟨x,h1,h2,rfl⟩ | ⟨h1,h2,h3,rfl⟩
 . exact Rt rfl (.tup (.cons (.rf rfl) (.cons (.rf rfl) Xax))) (.inl ⟨h1,rfl⟩)
 . exact Rt rfl (.tup (.cons (.rf rfl) (.cons (.rf rfl) Xax))) (.inr (.inl ⟨x,h1,h2,rfl⟩))
 . exact Rt rfl (.tup (.cons (.rf rfl) (.cons (.rf rfl) Xax))) (.inr (.inr ⟨h1,h2,h3,rfl⟩))
end Go.Proofs.YtclgppjdhndgiaaGreatDoor.R8
namespace Go.Tow
open Go Go.Num Go.Proofs.YtclgppjdhndgiaaGreatDoor
section
def ev{K:Nat}(G:Tw K)(ρ:Nat->El K): (k:Nat)->El k->El K
 | 0,x=>rat K x
 | k+1,a=>add K (ev G ρ k a.1) (mul K G (ev G ρ k a.2) (ρ k))
def Hom{K:Nat}(G:Tw K)(ρ:Nat->El K): (k:Nat)->Tw k->Prop
 | 0,_=>True
 | k+1,t=>Hom G ρ k t.1/\mul K G (ρ k) (ρ k)=ev G ρ k t.2/\sgn K G (ρ k)=1
variable{K:Nat}{G:Tw K}{ρ σ:Nat->El K}
theorem Xbu: ∀ {k:Nat} {a:El k},(∀i,i<k->ρ i=σ i)->ev G ρ k a=ev G σ k a
 | 0,_,_=>rfl
 | k+1,a,h=>by
  show add K (ev G ρ k a.1) (mul K G (ev G ρ k a.2) (ρ k))=add K (ev G σ k a.1) (mul K G (ev G σ k a.2) (σ k))
  rw[Xbu (k:=k) λi hi=>h i (by omega),Xbu (k:=k) (a:=a.2) λi hi=>h i (by omega),h k (by omega)]
theorem Hom.congr: ∀ {k:Nat} {t:Tw k},Hom G ρ k t->(∀i,i<k->ρ i=σ i)->Hom G σ k t
 | 0,_,_,_=>trivial
 | k+1,t,⟨h1,h2,h3⟩,h=>⟨h1.congr λi hi=>h i (by omega),by rw[<-h k (by omega),h2];exact Xbu λi hi=>h i (by omega),by rw[<-h k (by omega)];exact h3⟩
theorem Xio: ∀ {k:Nat},ev G ρ k (zero k)=zero K
 | 0=>Xg9 K
 | k+1=>by
  show add K (ev G ρ k (zero k)) (mul K G (ev G ρ k (zero k)) (ρ k))=zero K
  rw[Xio,(Xbc K G).zm,(Xbc K G).az]
theorem Xea: ∀ {k:Nat} {a b:El k},ev G ρ k (add k a b)=add K (ev G ρ k a) (ev G ρ k b)
 | 0,a,b=>Xge K a b
 | k+1,a,b=>by
  show add K (ev G ρ k (add k a.1 b.1)) (mul K G (ev G ρ k (add k a.2 b.2)) (ρ k))=add K (add K (ev G ρ k a.1) (mul K G (ev G ρ k a.2) (ρ k))) (add K (ev G ρ k b.1) (mul K G (ev G ρ k b.2) (ρ k)))
  rw[Xea,Xea]
  have L:=Xbc K G
  exact(Laws.req L [ev G ρ k a.1,ev G ρ k a.2,ev G ρ k b.1,ev G ρ k b.2,ρ k] (.add (.add (.v 0) (.v 2)) (.mul (.add (.v 1) (.v 3)) (.v 4))) (.add (.add (.v 0) (.mul (.v 1) (.v 4))) (.add (.v 2) (.mul (.v 3) (.v 4)))) (by decide +kernel))
theorem Xfy: ∀ {k:Nat} {a:El k},ev G ρ k (neg k a)=neg K (ev G ρ k a)
 | 0,a=>Xh1 K a
 | k+1,a=>by
  show add K (ev G ρ k (neg k a.1)) (mul K G (ev G ρ k (neg k a.2)) (ρ k))=neg K (add K (ev G ρ k a.1) (mul K G (ev G ρ k a.2) (ρ k)))
  rw[Xfy,Xfy,(Xbc K G).nm,(Xbc K G).nd]
theorem Yka{k:Nat}{a:El k}: ev G ρ (k+1) (up k a)=ev G ρ k a:=by
 show add K (ev G ρ k a) (mul K G (ev G ρ k (zero k)) (ρ k))=_
 rw[Xio,(Xbc K G).zm,(Xbc K G).az]
theorem Xrg: ∀ {k:Nat} {x:Rat},ev G ρ k (rat k x)=rat K x
 | 0,_=>rfl
 | k+1,x=>by rw[show rat (k+1) x=up k (rat k x) from rfl,Yka,Xrg]
theorem Xce: ∀ {k:Nat} {t:Tw k} {a b:El k},Hom G ρ k t->ev G ρ k (mul k t a b)=mul K G (ev G ρ k a) (ev G ρ k b)
 | 0,t,a,b,_=>Xc6 K G a b
 | k+1,t,a,b,h=>by
  show add K (ev G ρ k (add k (mul k t.1 a.1 b.1) (mul k t.1 (mul k t.1 a.2 b.2) t.2))) (mul K G (ev G ρ k (add k (mul k t.1 a.1 b.2) (mul k t.1 a.2 b.1))) (ρ k))=mul K G (add K (ev G ρ k a.1) (mul K G (ev G ρ k a.2) (ρ k))) (add K (ev G ρ k b.1) (mul K G (ev G ρ k b.2) (ρ k)))
  rw[Xea,Xea,Xce h.1,Xce h.1,Xce h.1,Xce h.1,Xce h.1,<-h.2.1]
  have L:=Xbc K G
  exact(Laws.req L [ev G ρ k a.1,ev G ρ k a.2,ev G ρ k b.1,ev G ρ k b.2,ρ k] (.add (.add (.mul (.v 0) (.v 2)) (.mul (.mul (.v 1) (.v 3)) (.mul (.v 4) (.v 4)))) (.mul (.add (.mul (.v 0) (.v 3)) (.mul (.v 1) (.v 2))) (.v 4))) (.mul (.add (.v 0) (.mul (.v 1) (.v 4))) (.add (.v 2) (.mul (.v 3) (.v 4)))) (by decide +kernel))
theorem Yfw{k:Nat}{t:Tw (k+1)}{a:El (k+1)}(h:Hom G ρ k t.1): ev G ρ k (norm k t a)=add K (mul K G (ev G ρ k a.1) (ev G ρ k a.1)) (neg K (mul K G (mul K G (ev G ρ k a.2) (ev G ρ k a.2)) (ev G ρ k t.2))):=by
 unfold norm
 rw[Xea,Xfy,Xce h,Xce h,Xce h]
theorem Xfx(hG:Xbv K G): ∀ {k:Nat} {t:Tw k} {a:El k},Hom G ρ k t->sgn K G (ev G ρ k a)=sgn k t a
 | 0,t,a,_=>Xe1 hG
 | k+1,t,a,h=>by
  have L:=Xbc K G
  have S:=Xav hG
  have e:sgn (k+1) t a=L.sx (ev G ρ k t.2) (sgn K G) (ev G ρ k a.1,ev G ρ k a.2):=by
   show (if sgn k t.1 a.2=0\/sgn k t.1 a.1=sgn k t.1 a.2 then sgn k t.1 a.1 else if sgn k t.1 a.1=0 then sgn k t.1 a.2 else sgn k t.1 a.1*sgn k t.1 (norm k t a))=_
   rw[<-Xfx hG h.1,<-Xfx hG h.1 (a:=a.1),<-Xfx hG h.1 (a:=norm k t a),Yfw h.1]
   rfl
  have hr:L.Rt (ev G ρ k t.2) (sgn K G) (ρ k) (rat K 1):=by
   refine⟨h.2.2,by rw[Xe1 hG];decide +kernel,?_⟩
   rw[h.2.1,L.mo,L.mo,L.an,S.s0 L]
  have hd:sgn K G (ev G ρ k t.2)=1:=by rw[<-h.2.1,S.sm,h.2.2];rfl
  rw[e,S.sx_rt L hd hr,L.mo]
  rfl
theorem Yfx(hG:Xbv K G){k:Nat}{t:Tw k}(h:Hom G ρ k t)(hr:red k t){a:El k}(e:ev G ρ k a=zero K): a=zero k:=by
 have:=Xfx hG h (a:=a)
 rw[e,(Xav hG).s0 (Xbc K G)] at this
 exact(Xbt hr).1 this.symm
theorem Xm0(hG:Xbv K G){k:Nat}{t:Tw k}(h:Hom G ρ k t)(hr:red k t){a b:El k}(e:ev G ρ k a=ev G ρ k b): a=b:=by
 refine(Xbc k t).sub0 (Yfx hG h hr (a:=add k a (neg k b)) ?_)
 rw[Xea,Xfy,e,(Xbc K G).an]
theorem Hom.uniq(hG:red K G): ∀ {k:Nat} {t:Tw k},Hom G ρ k t->Hom G σ k t->∀i,i<k->ρ i=σ i
 | 0,_,_,_,i,hi=>by omega
 | k+1,t,h,h',i,hi=>by
  have ih:=h.1.uniq hG h'.1
  by_cases e:i=k
  . subst e
    refine Xpt hG (by rw[h.2.1,h'.2.1,Xbu ih]) (by rw[h.2.2];decide) (by rw[h'.2.2];decide)
  . exact ih i (by omega)
theorem Xp9(i:Nat): Xf3 (i+1) i=(pr (zero i) (rat i 1):El (i+1)):=by
 unfold Xf3;rw[if_pos rfl]
theorem Xy7{k i:Nat}(h:i≠k): Xf3 (k+1) i=(up k (Xf3 k i):El (k+1)):=by
 conv=>lhs;unfold Xf3
 rw[if_neg h]
theorem Xip: ∀ {k i:Nat},i<k->ev G ρ k (Xf3 k i)=ρ i
 | k+1,i,hi=>by
  by_cases e:i=k
  . subst e
    rw[Xp9]
    show add K (ev G ρ i (zero i)) (mul K G (ev G ρ i (rat i 1)) (ρ i))=_
    rw[Xio,Xrg,(Xbc K G).om,(Xbc K G).za]
  . rw[Xy7 e,Yka,Xip (by omega)]
theorem Hom.ne(hG:Xbv K G): ∀ {k:Nat} {t:Tw k},Hom G ρ k t->red k t->∀i j,i<j->j<k->ρ i≠ρ j
 | 0,_,_,_,i,j,_,h=>by omega
 | k+1,t,h,hr,i,j,hij,hj=>λe=>by
  by_cases ej:j=k
  . subst ej
    refine hr.2.2 ⟨Xf3 j i,Xm0 hG h.1 hr.1 ?_⟩
    rw[Xce h.1,Xip hij,e,h.2.1]
  . exact h.1.ne hG hr.1 i j hij (by omega) e
theorem Ycj{α:Type}: ∀(k:Nat) (S:List α) (f:Nat->α),(∀i,i<k->f i∈S)->(∀i j,i<j->j<k->f i≠f j)->k<=S.length
 | 0,_,_,_,_=>W0x _
 | k+1,S,f,h1,h2=>by
  obtain⟨A,B,e⟩:=List.append_of_mem (h1 k (by omega))
  have:=Ycj k (A++B) f (λi hi=>by
   have h3:=h1 i (by omega)
   rw[e] at h3
   rcases W2j.1 h3 with h3 | h3
   . exact W2q _ h3
   . rcases W1i.1 h3 with h3 | h3
     . exact absurd h3 (h2 i k hi (by omega))
     . exact W1r _ h3) (λi j hi hj=>h2 i j hi (by omega))
  rw[e]
  simp only[W0d,W0k] at this |-
  omega
structure TOk {K:Nat} (G:Tw K) (S:List (El K)) (k:Nat) (t:Tw k) (ρ:Nat->El K):Prop where
 r:red k t
 h:Hom G ρ k t
 s:∀i,i<k->ρ i∈S
theorem TOk.le(hG:Xbv K G){S:List (El K)}{k:Nat}{t:Tw k}(h:TOk G S k t ρ): k<=S.length:=Ycj k S ρ h.s (h.h.ne hG h.r)
theorem TOk.snoc(hG:Xbv K G){S:List (El K)}{k:Nat}{t:Tw k}(h:TOk G S k t ρ){a:El k}(hn:¬Xch k t a){s:El K}(hs:s∈S)(h1:mul K G s s=ev G ρ k a)(h2:sgn K G s=1): TOk G S (k+1) (tsn t a) (λi=>if i=k then s else ρ i) where
 r:=⟨h.r,by show sgn k t a=1;rw[<-Xfx hG h.h,<-h1,(Xav hG).sm,h2];rfl,hn⟩
 h:=⟨h.h.congr λi hi=>(if_neg (by omega)).symm,by
  show mul K G (if k=k then s else ρ k) (if k=k then s else ρ k)=ev G _ k a
  rw[if_pos rfl,h1];exact Xbu λi hi=>(if_neg (by omega)).symm,by
  show sgn K G (if k=k then s else ρ k)=1
  rw[if_pos rfl,h2]⟩
 s:=λi hi=>by
  show (if i=k then s else ρ i)∈S
  split
  . exact hs
  . exact h.s i (by omega)
end
section
variable{K:Nat}{G:Tw K}{ρ:Nat->El K}
def Lf{k m:Nat}(a:El k)(b:El m): Prop:=toL m b=toL k a++List.replicate (2^m-2^k) 0
theorem Lf.ex{k m:Nat}(h:k<=m)(a:El k): ∃b:El m,Lf a b:=by
 obtain⟨b,hb⟩:=exE m (toL k a++List.replicate (2^m-2^k) 0) (by
  have:=W0m (n:=2) (by decide) h
  rw[W0d,Xab,W1v];omega)
 exact⟨b,hb⟩
theorem Lf.rfl'{k:Nat}(a:El k): Lf a a:=by unfold Lf;rw[W2v];simp
theorem Lf.eq{k:Nat}{a b:El k}(h:Lf a b): b=a:=by
 unfold Lf at h;rw[W2v] at h
 exact Xhp (by simpa using h)
theorem Lf.ev{k:Nat}{a:El k}: ∀ {m:Nat} {b:El m},k<=m->Lf a b->ev G ρ m b=ev G ρ k a:=by
 intro m
 induction m with
 | zero=>intro b h hl;have:=Nat.le_zero.1 h;subst this;rw[hl.eq]
 | succ m ih =>
  intro b h hl
  by_cases e:k=m+1
  . subst e;rw[hl.eq]
  . have hp:=W0m (n:=2) (by decide) (show k<=m by omega)
    have hs:2^(m+1)-2^k=(2^m-2^k)+2^m:=by rw[W0q];omega
    have hl:toL m b.1++toL m b.2=(toL k a++List.replicate (2^m-2^k) 0)++List.replicate (2^m) 0:=by
     have:toL (m+1) b=_:=hl
     rw[hs,<-W5c,<-W2i] at this
     exact this
    obtain⟨h1,h2⟩:=Xfb (by rw[Xab,W0d,Xab,W1v];omega) hl
    have e2:b.2=zero m:=Xhp (by rw[h2,Xbs])
    show add K (Tow.ev G ρ m b.1) (mul K G (Tow.ev G ρ m b.2) (ρ m))=_
    rw[e2,Xio,(Xbc K G).zm,(Xbc K G).az]
    exact ih (by omega) h1
theorem Lf.sz{k m p:Nat}{a:El k}{b:El m}(h:Lf a b)(ha:Sz p (toL k a)): Sz p (toL m b):=by
 obtain⟨d,d0,d1,d2⟩:=ha
 rw[h]
 exact⟨d,d0,d1,d2.append λx hx=>⟨0,by rw[(W6f.1 hx).2,W5l];rfl,W0u p⟩⟩
theorem Xkf: ∀ {k:Nat} {t w:Tw k},toT k t=toT k w->t=w
 | 0,_,_,_=>rfl
 | k+1,t,w,h=>by
  have h:toT k t.1++[toL k t.2]=toT k w.1++[toL k w.2]:=h
  obtain⟨h1,h2⟩:=Xfb (by rw[Xaa,Xaa]) h
  exact W3a (Xkf h1) (Xhp (by injection h2))
theorem Tw.cut{k:Nat}: ∀ {t:Tw k} {i:Nat},i<=k->∃w:Tw i,toT i w=(toT k t).take i/\(∀r,TS r k t->TS r i w)/\(red k t->red i w)/\∀ {K:Nat} {G:Tw K} {ρ:Nat->El K},Hom G ρ k t->Hom G ρ i w:=by
 induction k with
 | zero=>intro t i h;have:=Nat.le_zero.1 h;subst this;exact⟨t,rfl,λ_ h=>h,λh=>h,λh=>h⟩
 | succ k ih =>
  intro t i h
  by_cases e:i=k+1
  . subst e;exact⟨t,by rw[W0b (by rw[Xaa];exact W0c _)],λ_ h=>h,λh=>h,λh=>h⟩
  . obtain⟨w,h1,h2,h3,h4⟩:=ih (t:=t.1) (i:=i) (by omega)
    refine⟨w,?_,λr h=>h2 r h.1,λh=>h3 h.1,λh=>h4 h.1⟩
    show _=(toT k t.1++[toL k t.2]).take i
    rw[List.take_append_of_le_length (by rw[Xaa];omega),h1]
def Beg(k:Nat)(t:Tw k)(m:Nat)(T:Tw m): Prop:=(toT m T).take (toT k t).length=toT k t
theorem Beg.le{k m:Nat}{t:Tw k}{T:Tw m}(h:Beg k t m T): k<=m:=by
 have:=congrArg List.length h
 simp only[W0j,Xaa] at this;omega
theorem Beg.hom{k m:Nat}{t:Tw k}{T:Tw m}(h:Beg k t m T)(hT:Hom G ρ m T): Hom G ρ k t:=by
 obtain⟨w,h1,_,_,h4⟩:=Tw.cut (t:=T) h.le
 have:w=t:=Xkf (by rw[h1];unfold Beg at h;rwa[Xaa] at h)
 rw[<-this];exact h4 hT
theorem Beg.rf{k:Nat}{t:Tw k}: Beg k t k t:=W0b (W0c _)
theorem Beg.tr{k l m:Nat}{t:Tw k}{u:Tw l}{w:Tw m}(h:Beg k t l u)(h':Beg l u m w): Beg k t m w:=by
 have h1:=h.le
 unfold Beg at *
 rw[<-h',List.take_take,Xaa,Xaa,W2b h1] at h
 rw[Xaa];exact h
theorem Beg.snoc{k:Nat}{t:Tw k}{a:El k}: Beg k t (k+1) (tsn t a):=W6y rfl
def imB(c z:Nat): Nat->Nat->Nat
 | 0,p=>p+1
 | j+1,p=>2*imB c z j p+z+c+1
theorem Xla{k R z:Nat}{T:Tw k}{σ:Nat->El k}(hT:TS R k T): ∀ {j p:Nat} {a:El j},(∀i,i<j->Sz z (toL k (σ i)))->Sz p (toL j a)->Sz (imB (cB R k) z j p) (toL k (ev T σ j a))
 | 0,p,a,_,ha=>Sz.rat k (ha.qs (x:=a) (W0g.2 rfl))
 | j+1,p,a,hs,ha=>by
  have h1:=Xla hT (a:=a.1) (λi hi=>hs i (by omega)) (Sz.left ha)
  have h2:=Xla hT (a:=a.2) (λi hi=>hs i (by omega)) (Sz.right ha)
  have h3:=h2.mul hT (hs j (by omega))
  show Sz _ (toL k (add k (Tow.ev T σ j a.1) (mul k T (Tow.ev T σ j a.2) (σ j))))
  rw[Xas]
  exact(h1.add h3).mono (by show _<=2*imB (cB R k) z j p+z+cB R k+1;omega)
theorem Xoq{k:Nat}{T:Tw k}{σ:Nat->El k}{ρ':Nat->El K}(hT:Hom G ρ k T): ∀ {j:Nat} {a:El j},(∀i,i<j->ev G ρ k (σ i)=ρ' i)->ev G ρ k (ev T σ j a)=ev G ρ' j a
 | 0,a,_=>Xrg
 | j+1,a,h=>by
  show ev G ρ k (add k (ev T σ j a.1) (mul k T (ev T σ j a.2) (σ j)))=add K (ev G ρ' j a.1) (mul K G (ev G ρ' j a.2) (ρ' j))
  rw[Xea,Xce hT,Xoq hT λi hi=>h i (by omega),Xoq hT (a:=a.2) λi hi=>h i (by omega),h j (by omega)]
end
section
theorem Tw.at{k:Nat}: ∀ {t:Tw k} {i:Nat},i<k->∃x:El i,(toT k t)[i]?=some (toL i x)/\(∀r,TS r k t->Sz r (toL i x))/\∀ {K:Nat} {G:Tw K} {ρ:Nat->El K},Hom G ρ k t->mul K G (ρ i) (ρ i)=ev G ρ i x/\sgn K G (ρ i)=1:=by
 induction k with
 | zero=>intro t i h;omega
 | succ k ih =>
  intro t i h
  have hl:=Xaa k t.1
  by_cases e:i=k
  . subst e
    refine⟨t.2,?_,λr h=>h.2,λh=>h.2⟩
    show (toT i t.1++[toL i t.2])[i]?=_
    rw[W0o (by omega),hl,W2v];rfl
  . obtain⟨x,h1,h2,h3⟩:=ih (t:=t.1) (i:=i) (by omega)
    refine⟨x,?_,λr h=>h2 r h.1,λh=>h3 h.1⟩
    show (toT k t.1++[toL k t.2])[i]?=_
    rw[W1b (by omega),h1]
theorem _root_.Go.Proofs.YtclgppjdhndgiaaGreatDoor.TS.mono{r s:Nat}(h:r<=s): ∀ {k:Nat} {t:Tw k},TS r k t->TS s k t
 | 0,_,_=>trivial
 | k+1,t,ht=>⟨ht.1.mono h,ht.2.mono h⟩
theorem Xi2{r i k:Nat}(h:i<=k): cB r i<=cB r k:=by
 induction k with
 | zero=>rw[show i=0 by omega];exact W0c _
 | succ k ih =>
  by_cases e:i=k+1
  . rw[e];exact W0c _
  . exact W0l (ih (by omega)) (Yn1 r k)
theorem Yjz{r i k:Nat}(h:i<=k): gC r i<=gC r k:=by
 induction k with
 | zero=>rw[show i=0 by omega];exact W0c _
 | succ k ih =>
  by_cases e:i=k+1
  . rw[e];exact W0c _
  . exact W0l (ih (by omega)) (by show _<=2*gC r k+2*cB r k+r+iS r k r+2;omega)
theorem Xhb{c c' z z' p p':Nat}(h1:c<=c')(h2:z<=z')(h3:p<=p'): ∀ {j:Nat},imB c z j p<=imB c' z' j p'
 | 0=>by show p+1<=p'+1;omega
 | j+1=>by have:=Xhb h1 h2 h3 (j:=j);show 2*imB c z j p+z+c+1<=2*imB c' z' j p'+z'+c'+1;omega
theorem Yc2{c z p:Nat}: ∀ {j:Nat},p<=imB c z j p
 | 0=>by show p<=p+1;omega
 | j+1=>by have:=Yc2 (c:=c) (z:=z) (p:=p) (j:=j);show _<=2*imB c z j p+z+c+1;omega
variable{K:Nat}{G:Tw K}{ρ ρ' ρu:Nat->El K}
def RtV(G:Tw K)(m z j:Nat)(rs:List (List Rat))(ρ ρu:Nat->El K): Prop:=∀i,i<j->∃(n:Nat) (s:El n),n<=m/\rs[i]?=some (toL n s)/\Sz z (toL n s)/\ev G ρ n s=ρu i
theorem RtV.mono{m m' z z' j:Nat}{rs:List (List Rat)}(h:RtV G m z j rs ρ ρu)(hm:m<=m')(hz:z<=z')(hr:∀i,i<m->ρ' i=ρ i): RtV G m' z' j rs ρ' ρu:=λi hi=>by
 obtain⟨n,s,h1,h2,h3,h4⟩:=h i hi
 exact⟨n,s,by omega,h2,h3.mono hz,by rw[<-h4];exact Xbu λi hi=>hr i (by omega)⟩
theorem RtV.snoc{m z j n:Nat}{rs:List (List Rat)}(h:RtV G m z j rs ρ ρu)(hl:rs.length=j){s:El n}(hn:n<=m)(hz:Sz z (toL n s))(he:ev G ρ n s=ρu j): RtV G m z (j+1) (rs++[toL n s]) ρ ρu:=λi hi=>by
 by_cases e:i=j
 . subst e
   exact⟨n,s,hn,by rw[W0o (by omega),hl,W2v];rfl,hz,he⟩
 . obtain⟨n',s',h1,h2,h3,h4⟩:=h i (by omega)
   exact⟨n',s',h1,by rw[W1b (by omega),h2],h3,h4⟩
structure Nm where
 k:Nat
 t:Tw k
 a:El k
structure NOk (G:Tw K) (S:List (El K)) (r p:Nat) (x:Nm) (v:El K):Prop where
 ex:∃ρ,TOk G S x.k x.t ρ/\ev G ρ x.k x.a=v
 r:TS r x.k x.t
 p:Sz p (toL x.k x.a)
theorem NOk.mono{S:List (El K)}{r r' p p':Nat}{x:Nm}{v:El K}(h:NOk G S r p x v)(hr:r<=r')(hp:p<=p'): NOk G S r' p' x v:=⟨h.ex,h.r.mono hr,h.p.mono hp⟩
theorem NOk.le(hG:Xbv K G){S:List (El K)}{r p:Nat}{x:Nm}{v:El K}(h:NOk G S r p x v)(hS:S.length<=3): x.k<=3:=by
 obtain⟨ρ,h1,_⟩:=h.ex
 exact W0l (h1.le hG) hS
theorem NOk.sgn(hG:Xbv K G){S:List (El K)}{r p:Nat}{x:Nm}{v:El K}(h:NOk G S r p x v): sgn K G v=sgn x.k x.t x.a:=by
 obtain⟨ρ,h1,h2⟩:=h.ex
 rw[<-h2,Xfx hG h1.h]
theorem NOk.neg{S:List (El K)}{r p:Nat}{x:Nm}{v:El K}(h:NOk G S r p x v): NOk G S r p ⟨x.k,x.t,Tow.neg x.k x.a⟩ (Tow.neg K v):=by
 obtain⟨ρ,h1,h2⟩:=h.ex
 exact⟨⟨ρ,h1,by rw[<-h2];exact Xfy⟩,h.r,by rw[Xbo];exact h.p.neg⟩
end
end Go.Tow
namespace Go.Vm
open Go
section
variable{c:Cx}{s:St}{p:Pl}
theorem Nd(t sz:Nat){K:List Kt}{E:Env}{H:Hpl}(h:nxJ c.tb c.n s=some (K,E,H))(k:StP c (.j [] K ((t,.d (.sl sz []))::E) H))(hv:look E t=some .nil:=by exact rfl): StP c s:=by
 unfold nxJ at h
 split at h<;>cases h
 rename_i hr
 refine go 1000 hr ?_
 rintro a w ⟨s0,W,θ,hw,hs,hθ,rfl⟩
 refine k a w ⟨_,W,θ,hw,?_,hθ,rfl⟩
 rw[show sem ((t,AV.d (.sl sz []))::E) H=(upd (look E) t (.d (.sl sz [])),look H) by rw[Xa6]]
 refine⟨hs.fm,⟨hs.rel.defers,hs.rel.size,λq v hq=>?_⟩,hs.obs,λq v i hq hi=>?_⟩
 . rcases Xae hq with ⟨e1,e2⟩ | ⟨e1,e2⟩
   . subst e1;subst e2
     obtain⟨p,e⟩:=Xje (hs.rel.has q _ hv)
     rw[e]
     exact Ymx rfl (W0c _) (by decide) (.inl rfl)
   . exact hs.rel.has q v e2
 . rcases Xae hq with ⟨e1,e2⟩ | ⟨e1,e2⟩
   . subst e2;exact hi.elim
   . exact hs.ids q v i e2 hi
end
end Go.Vm
namespace Go.Proofs.YtclgppjdhndgiaaGreatDoor.R9
open Go Go.Vm Go.Num Go.Tow Go.Proofs.YtclgppjdhndgiaaGreatDoor
theorem cmpQ_ne{x y:Rat}: Xnp x y≠0↔x≠y:=by
 unfold Xnp
 split
 . exact⟨λ_ e=>by subst e;exact absurd ‹_› (Rat.lt_irrefl),λ_=>by decide⟩
 . split
   . exact⟨λ_ e=>by subst e;exact absurd ‹_› (Rat.lt_irrefl),λ_=>by decide⟩
   . exact⟨λh=>absurd rfl h,λh=>by grind⟩
theorem Yd9{l m:List Rat}{p q:Nat}(hl:Ps p l)(hm:Ps q m)(hp:p+q<=8796093022208)(hn:l.length<=1048576): C0 424 [.d (dqs l),.d (dqs m)] (·=.b (dc (l=m))):=by
 refine En Tryz.func424 λ_ _ _=>?_
 refine By rfl (λh=>?_) λh=>?_<;>simp only[lq] at h
 . exact R1 rfl (.bp ⟨nofun,λe=>absurd (by rw[e]) h⟩)
 have h:l.length=m.length:=by omega
 refine Lo (λk:Nat=>[(0,.d (dqs l)),(1,.d (dqs m)),(5,.d (.int .i64 k))]) (λ_=>[]) (λk=>k<=l.length/\l.take k=m.take k) (λk=>l.length-k) 0 [] rfl ⟨by omega,rfl⟩ λk ⟨hk,ht⟩=>?_
 refine By rfl (λh2=>?_) λh2=>?_<;>simp only[lq] at h2
 . obtain⟨x,hx⟩:=qat (l:=l) (k:=k) (by omega)
   obtain⟨y,hy⟩:=qat (l:=m) (k:=k) (by omega)
   refine Dw rfl ?_
   refine Ix k rfl (mp hx) ?_
   refine Ix k rfl (mp hy) ?_
   refine Ce rfl (R2.Cmp_ok (hl x (W0h hx)) (hm y (W0h hy)) hp) ?_
   refine By rfl (λh3=>?_) λh3=>?_
   . exact R1 rfl (.bp ⟨nofun,λe=>by subst e;rw[hx] at hy;injection hy with hy;exact absurd hy (cmpQ_ne.1 h3)⟩)
   . have e:x=y:=W1g λh=>h3 (cmpQ_ne.2 h)
     refine Ar (k+1:Nat) rfl ?_
     exact Bk (k+1) [] rfl ⟨by omega,by rw[W1c,W1c,hx,hy,ht,e]⟩ (by show l.length-(k+1)<l.length-k;omega)
 . rw[W0b (by omega),W0b (by omega)] at ht
   exact R1 rfl (.bp ⟨λ_=>ht,λ_=>rfl⟩)
theorem begins_ok{T U:List (List Rat)}{p q:Nat}(hT:Pt p T)(hU:Pt q U)(hp:p+q<=8796093022208)(hl:T.length<=16): C0 393 [.d (dts T),.d (dts U)] (·=.b (dc (T.take U.length=U))):=by
 refine En Tryz.func393 λ_ _ _=>?_
 refine By rfl (λh=>?_) λh=>?_<;>simp only[lt'] at h
 . exact R1 rfl (.bp ⟨nofun,λe=>absurd (congrArg List.length e) (by rw[W0j];omega)⟩)
 refine Lo (λk:Nat=>[(0,.d (dts T)),(1,.d (dts U)),(5,.d (.int .i64 k))]) (λ_=>[]) (λk=>k<=U.length/\T.take k=U.take k) (λk=>U.length-k) 0 [] rfl ⟨by omega,rfl⟩ λk ⟨hk,ht⟩=>?_
 refine By rfl (λh2=>?_) λh2=>?_<;>simp only[lt'] at h2
 . obtain⟨x,hx⟩:∃x,T[k]?=some x:=⟨_,W0a (by omega)⟩
   obtain⟨y,hy⟩:∃y,U[k]?=some y:=⟨_,W0a (by omega)⟩
   obtain⟨x1,x2⟩:=hT k x hx
   obtain⟨y1,y2⟩:=hU k y hy
   have:=p16 (show k<=16 by omega)
   refine Dw rfl ?_
   refine Ix k rfl (mp hx) ?_
   refine Ix k rfl (mp hy) ?_
   refine Ce rfl (Yd9 x2 y2 hp (by omega)) ?_
   refine By rfl (λh3=>?_) λh3=>?_
   . exact R1 rfl (.bp ⟨nofun,λe=>by
      have:U[k]?=some x:=by rw[<-e,W1j,if_pos (by omega),hx]
      rw[hy] at this;injection this with this
      exact absurd this.symm (by simpa [Xa4,Xal] using h3)⟩)
   . have e:x=y:=by simpa [Xa4,Xal] using h3
     refine Ar (k+1:Nat) rfl ?_
     exact Bk (k+1) [] rfl ⟨by omega,by rw[W1c,W1c,hx,hy,ht,e]⟩ (by show U.length-(k+1)<U.length-k;omega)
 . have e:k=U.length:=by omega
   subst e
   rw[W1x] at ht
   exact R1 rfl (.bp ⟨λ_=>ht,λ_=>rfl⟩)
theorem Yfa{T:List (List Rat)}{l:List Rat}(h0:0<l.length)(hT:T.length<=16)(hl:l.length<=2^T.length): C0 395 [.d (dts T),.d (dqs l)] (·=.d (dqs (l++List.replicate (2^T.length-l.length) 0))):=by
 have hp:=p16 hT
 obtain⟨n,hn⟩:∃n,n=2^T.length:=⟨_,rfl⟩
 rw[<-hn] at hp hl |-
 refine En Tryz.func395 λ_ _ _=>?_
 refine ApL ((l++List.replicate 0 0).map dq) rfl (by simp) (by simpa using h0) (by simp;omega) ?_
 refine Lo (λk:Nat=>[(0,.d (dts T)),(5,.own 6 4 0 ((l++List.replicate k 0).map dq).length)]) (λk=>[(6,.arr 4 ((l++List.replicate k 0).map dq))]) (λk=>l.length+k<=n) (λk=>n-k) 0 [(8,6)] rfl (by omega) λk hk=>?_
 refine Ar n rfl ?_ (by rw[hn];simp only[lt'];exact Xbp (by omega))
 refine By rfl (λh=>?_) λh=>?_<;>simp only[lq,W0d,W1v] at h
 . refine Ce rfl (R2.FromInt_ok (z:=0) (by decide)) ?_
   refine ApO ((l++List.replicate (k+1) 0).map dq) rfl rfl rfl (by rw[W6p];simp) (by simp;omega) ?_
   exact Bk (k+1) [(18,6)] rfl (show l.length+(k+1)<=n by omega) (by show n-(k+1)<n-k;omega)
 . refine R1 rfl (.own rfl (by omega) ?_)
   rw[W1a,show n-l.length=k by omega]
   exact W0b (by simp)
theorem Xvn{k m:Nat}{s:Tow.El k}{b:Tow.El m}{T:Tw m}(h:Lf s b)(hk:k<=m)(hm:m<=16): C0 395 [.d (dt T),.d (de s)] (·=.d (de b)):=by
 have:=Yfa (T:=toT m T) (l:=toL k s) (by rw[Xab];exact W0u k) (by rw[Xaa];omega) (by rw[Xab,Xaa];exact W0m (by decide) hk)
 rw[Xaa,Xab,<-h] at this
 exact this
def Rts(k z j:Nat)(rs:List (List Rat))(σ:Nat->Tow.El k): Prop:=∀i,i<j->∃(m:Nat) (s:Tow.El m),m<=k/\rs[i]?=some (toL m s)/\Lf s (σ i)/\Sz z (toL k (σ i))
theorem Xfu{k R z:Nat}{T:Tw k}{rs:List (List Rat)}{σ:Nat->Tow.El k}(hT:TS R k T)(hk:k<=16): ∀ {j p:Nat} {a:Tow.El j},Rts k z j rs σ->Sz p (toL j a)->j<=16->imB (cB R k) z j p<=4398046511104 ->
 C0 396 [.d (dt T),.d (dts rs),.d (de a)] (·=.d (de (ev T σ j a))):=by
 intro j
 induction j with
 | zero =>
  intro p a _ ha hj hb
  have key:∀y:Rat,Qs p y->C0 396 [.d (dt T),.d (dts rs),.d (dqs [y])] (·=.d (de (rat k y))):=λy hy=>by
   refine En Tryz.func396 λ_ _ _=>?_
   refine Yes rfl rfl ?_
   refine Ix 0 rfl (u:=dq y) rfl ?_
   refine Ce rfl (R6.FromRat_el hk) ?_
   exact R0
  exact key a (ha.qs (W0g.2 rfl))
 | succ j ih =>
  intro p a hr ha hj hb
  have hb':2*imB (cB R k) z j p+z+cB R k+1<=4398046511104:=hb
  have hr':Rts k z j rs σ:=λi hi=>hr i (by omega)
  have hpj:=p16 (show j<=16 by omega)
  have hp0:=W0u j
  have hs:∀i,i<j->Sz z (toL k (σ i)):=λi hi=>(hr' i hi).elim λ_ h=>h.elim λ_ h=>h.2.2.2
  have h1:=Xla hT (a:=a.1) hs (Sz.left ha)
  have h2:=Xla hT (a:=a.2) hs (Sz.right ha)
  obtain⟨m,s,m1,m2,m3,m4⟩:=hr j (by omega)
  refine En Tryz.func396 λ_ _ _=>?_
  refine No rfl (by show ¬((((toL j a.1++toL j a.2).map dq).length:Nat):Int)=1;rw[hvL];omega) ?_
  refine Ar (2^j:Nat) rfl ?_ (hvq a (by omega))
  refine Lo (λi:Nat=>[(0,.d (dt T)),(1,.d (dts rs)),(2,.d (de a)),(7,.d (.int .i64 (2^j:Nat))),(8,.d (.int .i64 i))]) (λ_=>[]) (λi=>i<=j) (λi=>j-i) 0 [] rfl (by omega) λi hi=>?_
  refine Ar (i+1:Nat) rfl ?_
  refine Ar (2^(i+1):Nat) rfl ?_ (Xbp (by omega))
  refine By rfl (λh=>?_) λh=>?_
  . have h:((2^(i+1):Nat):Int)<(((toL j a.1++toL j a.2).map dq).length:Nat):=h
    rw[hvL,<-Nat.pow_succ'] at h
    have h:i+1<j+1:=(W2w (by decide:1<2)).1 (by omega)
    refine Ar (i+1:Nat) rfl ?_
    exact Bk (i+1) [] rfl (show i+1<=j by omega) (by show j-(i+1)<j-i;omega)
  . have h:¬((2^(i+1):Nat):Int)<(((toL j a.1++toL j a.2).map dq).length:Nat):=h
    rw[hvL,<-Nat.pow_succ'] at h
    have h:¬i+1<j+1:=λe=>h (by have:=(W2w (by decide:1<2)).2 e;omega)
    obtain rfl:i=j:=by omega
    refine Dw rfl ?_
    refine Tk (2^i) ((toL i a.1).map dq) rfl rfl (Xci a) (hvT a) ?_
    refine Ce rfl (ih hr' (Sz.left ha) (by omega) (by omega)) ?_
    refine Dp (2^i) ((toL i a.2).map dq) rfl rfl (Xci a) (hvD a) ?_
    refine Ce rfl (ih hr' (Sz.right ha) (by omega) (by omega)) ?_
    refine Ix i rfl (mp m2) ?_
    refine Ce rfl (Xvn (T:=T) m3 m1 hk) ?_
    refine Ce rfl (R6.Mul_el hT h2 m4 hk (by omega)) ?_
    refine Ce rfl (R6.Add_el hk h1.ps (h2.mul hT m4).ps (by omega)) ?_
    exact R0
end Go.Proofs.YtclgppjdhndgiaaGreatDoor.R9
namespace Go.Tow
open Go Go.Num Go.Proofs.YtclgppjdhndgiaaGreatDoor
section
end
section
theorem Xkh{b:Rat}: ∀ {m:Nat} {t:Tw m} {y:El m},toL m (mul m t (rat m b) y)=(toL m y).map (b*·)
 | 0,_,_=>rfl
 | m+1,t,y=>by
  have L:=Xbc m t.1
  show toL m (add m (mul m t.1 (rat m b) y.1) (mul m t.1 (mul m t.1 (zero m) y.2) t.2))++toL m (add m (mul m t.1 (rat m b) y.2) (mul m t.1 (zero m) y.1))=(toL m y.1++toL m y.2).map _
  rw[L.zm,L.zm,L.zm,L.az,L.az,Xkh,Xkh,W1p]
variable{K:Nat}{G:Tw K}{S:List (El K)}{r p:Nat}{ρ:Nat->El K}
end
section
def zM(R:Nat): Nat->Nat
 | 0=>3
 | i+1=>zM R i+imB (cB R 3) (zM R i) i R+gC R 3
theorem Ydk{R:Nat}: ∀ {i j:Nat},i<=j->zM R i<=zM R j
 | i,0,h=>by rw[show i=0 by omega];exact W0c _
 | i,j+1,h=>by
  by_cases e:i=j+1
  . rw[e];exact W0c _
  . exact W0l (Ydk (show i<=j by omega)) (by show _<=zM R j+imB (cB R 3) (zM R j) j R+gC R 3;omega)
variable{K:Nat}{G:Tw K}{S:List (El K)}{R r p:Nat}{ρ:Nat->El K}
structure Wy (G:Tw K) (S:List (El K)) (R:Nat):Prop where
 g:red K G
 s:S.length<=3
 t:∀ {m:Nat} {T:Tw m} {ρ:Nat->El K},TOk G S m T ρ->TS R m T
theorem Wy.le(W:Wy G S R){m:Nat}{T:Tw m}(h:TOk G S m T ρ): m<=3:=W0l (h.le (Xah W.g)) W.s
theorem choose{m:Nat}{P:Nat->Prop}{ρu:Nat->El K}(h:∀j,P j->∃e:El m,ev G ρ m e=ρu j): ∃σ:Nat->El m,∀j,P j->ev G ρ m (σ j)=ρu j:=by
 have:∀j,∃e:El m,P j->ev G ρ m e=ρu j:=λj=>by
  by_cases hj:P j
  . obtain⟨e,he⟩:=h j hj;exact⟨e,λ_=>he⟩
  . exact⟨zero m,λh=>absurd h hj⟩
 exact Classical.axiomOfChoice this
theorem Ymz(W:Wy G S R){m l:Nat}{T:Tw m}{u:Tw l}{ρu:Nat->El K}(hT:TOk G S m T ρ)(hu:TOk G S l u ρu): ∀i,i<l->(∀j,j<i->∃e:El m,ev G ρ m e=ρu j)->∀e:El m,ev G ρ m e=ρu i->Sz (zM R (i+1)) (toL m e):=λi=>by
 have hGr:=Xah W.g
 have hm:=W.le hT
 induction i using Nat.strongRecOn with
 | _ i ih =>
  intro hi hj e he
  obtain⟨σ,hσ⟩:=choose (P:=(·<i)) hj
  obtain⟨x,_,x2,x3⟩:=Tw.at (t:=u) hi
  have hx:=x2 R (W.t hu)
  obtain⟨x3,_⟩:=x3 hu.h
  have hs:∀j,j<i->Sz (zM R i) (toL m (σ j)):=λj h=>(ih j h (by omega) (λj' h'=>hj j' (by omega)) _ (hσ j h)).mono (Ydk h)
  have hsz:=(Xla (W.t hT) (a:=x) hs hx).mono (Xhb (Xi2 hm) (W0c _) (W0c _))
  have hee:mul m T e e=ev T σ i x:=Xm0 hGr hT.h hT.r (by rw[Xce hT.h,he,x3,Xoq hT.h hσ])
  exact(Sz.rootS (W.t hT) hT.r hsz hee).mono (by have:=Yjz (r:=R) hm;show _<=zM R i+imB (cB R 3) (zM R i) i R+gC R 3;omega)
theorem Yad(hG:red K G){m:Nat}{T:Tw m}(hT:TOk G S m T ρ){g:El K}(hg:g∈S)(h1:sgn K G g=1){e:El m}(he:ev G ρ m e=mul K G g g): ∃(m':Nat) (T':Tw m') (ρ':Nat->El K),TOk G S m' T' ρ'/\Beg m T m' T'/\(∀i,i<m->ρ' i=ρ i)/\∃e':El m',ev G ρ' m' e'=g:=by
 have hGr:=Xah hG
 have L:=Xbc K G
 have Sg:=Xav hGr
 by_cases hs:Xch m T e
 . obtain⟨y,hy⟩:=hs
   refine⟨m,T,ρ,hT,Beg.rf,λ_ _=>rfl,?_⟩
   have h2:mul K G (ev G ρ m y) (ev G ρ m y)=mul K G g g:=by rw[<-Xce hT.h,hy,he]
   by_cases h0:0<=sgn K G (ev G ρ m y)
   . exact⟨y,Xpt hG h2 h0 (by rw[h1];decide)⟩
   . refine⟨neg m y,Xpt hG ?_ (by rw[Xfy,Sg.sn];omega) (by rw[h1];decide)⟩
     rw[Xfy,L.mn,L.nm,L.nn,h2]
 . refine⟨m+1,tsn T e,_,hT.snoc hGr hs hg he.symm h1,Beg.snoc,λi hi=>if_neg (by omega),Xf3 (m+1) m,?_⟩
   rw[Xip (by omega)]
   exact if_pos rfl
theorem Xwo{m m' k:Nat}{T:Tw m}{T':Tw m'}{ρ':Nat->El K}(hB:Beg m T m' T')(ha:∀i,i<m->ρ' i=ρ i){g:El K}(h:∃e:El m,ev G ρ m e=g): ∃e:El m',ev G ρ' m' e=g:=by
 obtain⟨e,he⟩:=h
 obtain⟨b,hb⟩:=Lf.ex hB.le e
 exact⟨b,by rw[hb.ev hB.le,Xbu ha,he]⟩
theorem Yj9(hG:red K G){m l:Nat}{T:Tw m}{u:Tw l}{ρu:Nat->El K}(hT:TOk G S m T ρ)(hu:TOk G S l u ρu): ∀i,i<=l->∃(m':Nat) (T':Tw m') (ρ':Nat->El K),TOk G S m' T' ρ'/\Beg m T m' T'/\(∀i,i<m->ρ' i=ρ i)/\∀j,j<i->∃e:El m',ev G ρ' m' e=ρu j:=λi=>by
 induction i with
 | zero=>exact λ_=>⟨m,T,ρ,hT,Beg.rf,λ_ _=>rfl,λj hj=>absurd hj (W7y _)⟩
 | succ i ih =>
  intro hi
  obtain⟨m1,T1,ρ1,a1,a2,a3,a4⟩:=ih (by omega)
  obtain⟨σ,hσ⟩:=choose (P:=(·<i)) a4
  obtain⟨x,_,_,x3⟩:=Tw.at (t:=u) (show i<l by omega)
  obtain⟨x3,x4⟩:=x3 hu.h
  obtain⟨m2,T2,ρ2,b1,b2,b3,b4⟩:=Yad hG a1 (hu.s i (by omega)) x4 (e:=ev T1 σ i x) (by rw[Xoq a1.h hσ,x3])
  refine⟨m2,T2,ρ2,b1,a2.tr b2,λj hj=>by rw[b3 j (by have:=a2.le;omega),a3 j hj],λj hj=>?_⟩
  by_cases e:j=i
  . rw[e];exact b4
  . exact Xwo (k:=0) b2 b3 (a4 j (by omega))
def Fl(G:Tw K)(S:List (El K))(N:List Nm)(m:Nat)(T:Tw m)(ρ:Nat->El K): Prop:=TOk G S m T ρ/\∀z∈N,∀ρz,TOk G S z.k z.t ρz->∀j,j<z.k->∃e:El m,ev G ρ m e=ρz j
theorem Fl.ex(hG:red K G){m:Nat}{T:Tw m}(hT:TOk G S m T ρ): ∀ {N:List Nm},(∀z∈N,∃ρz,TOk G S z.k z.t ρz)->∃(m':Nat) (T':Tw m') (ρ':Nat->El K),Fl G S N m' T' ρ'/\Beg m T m' T'/\(∀i,i<m->ρ' i=ρ i)
 | [],_=>⟨m,T,ρ,⟨hT,λz h=>nomatch h⟩,Beg.rf,λ_ _=>rfl⟩
 | z::N,h=>by
  obtain⟨m1,T1,ρ1,⟨a1,a2⟩,a3,a4⟩:=Fl.ex hG hT (N:=N) λz hz=>h z (W1e _ hz)
  obtain⟨ρz,hz⟩:=h z (W0w ..)
  obtain⟨m2,T2,ρ2,b1,b2,b3,b4⟩:=Yj9 hG a1 hz z.k (W0c _)
  refine⟨m2,T2,ρ2,⟨b1,λy hy ρy hy1 j hj=>?_⟩,a3.tr b2,λi hi=>by rw[b3 i (by have:=a3.le;omega),a4 i hi]⟩
  rcases W1i.1 hy with e | hy
  . subst e
    rw[hy1.h.uniq hG hz.h j hj];exact b4 j hj
  . exact Xwo (k:=0) b2 b3 (a2 y hy ρy hy1 j hj)
def Gs(G:Tw K)(S:List (El K))(N:List Nm)(b:Nat)(v:El K): Prop:=∀(m:Nat) (T:Tw m) (ρ:Nat->El K),Fl G S N m T ρ->∃a:El m,ev G ρ m a=v/\Sz b (toL m a)
variable{N:List Nm}{b c:Nat}{v w:El K}
theorem Gs.mono(h:Gs G S N b v)(hb:b<=c): Gs G S N c v:=λm T ρ hF=>let ⟨a,h1,h2⟩:=h m T ρ hF;⟨a,h1,h2.mono hb⟩
theorem Gs.add(h:Gs G S N b v)(k:Gs G S N c w): Gs G S N (b+c+1) (Tow.add K v w):=λm T ρ hF=>by
 obtain⟨x,h1,h2⟩:=h m T ρ hF
 obtain⟨y,k1,k2⟩:=k m T ρ hF
 exact⟨Tow.add m x y,by rw[Xea,h1,k1],by rw[Xas];exact h2.add k2⟩
theorem Gs.neg(h:Gs G S N b v): Gs G S N b (Tow.neg K v):=λm T ρ hF=>by
 obtain⟨x,h1,h2⟩:=h m T ρ hF
 exact⟨Tow.neg m x,by rw[Xfy,h1],by rw[Xbo];exact h2.neg⟩
theorem Gs.mul(W:Wy G S R)(h:Gs G S N b v)(k:Gs G S N c w): Gs G S N (b+c+cB R 3) (Tow.mul K G v w):=λm T ρ hF=>by
 obtain⟨x,h1,h2⟩:=h m T ρ hF
 obtain⟨y,k1,k2⟩:=k m T ρ hF
 exact⟨Tow.mul m T x y,by rw[Xce hF.1.h,h1,k1],(h2.mul (W.t hF.1) k2).mono (by have:=Xi2 (r:=R) (W.le hF.1);omega)⟩
theorem Gs.rat{q:Rat}(h:Qs p q): Gs G S N (p+1) (Tow.rat K q):=λm T ρ hF=>⟨Tow.rat m q,Xrg,Sz.rat m h⟩
theorem Gs.sz(hG:red K G)(hN:∀z∈N,∃ρz,TOk G S z.k z.t ρz)(h:Gs G S N b v){m:Nat}{T:Tw m}(hT:TOk G S m T ρ){a:El m}(ha:ev G ρ m a=v): Sz b (toL m a):=by
 obtain⟨m',T',ρ',h1,h2,h3⟩:=Fl.ex hG hT hN
 obtain⟨x,x1,x2⟩:=h m' T' ρ' h1
 obtain⟨y,hy⟩:=Lf.ex h2.le a
 have e:y=x:=Xm0 (Xah hG) h1.1.h h1.1.r (by rw[hy.ev h2.le,Xbu h3,ha,x1])
 rw[<-e,hy] at x2
 exact Sz.left x2
theorem NOk.re(W:Wy G S R)(hN:∀z∈N,∃ρz,TOk G S z.k z.t ρz){x:Nm}(hx:NOk G S r p x v)(h:Gs G S N b v): NOk G S R b x v:=by
 obtain⟨ρx,h1,h2⟩:=hx.ex
 exact⟨⟨ρx,h1,h2⟩,W.t h1,h.sz W.g hN h1 h2⟩
end
section
theorem Xv2{c z p:Nat}: ∀ {i j:Nat},i<=j->imB c z i p<=imB c z j p
 | i,0,h=>by rw[show i=0 by omega];exact W0c _
 | i,j+1,h=>by
  by_cases e:i=j+1
  . rw[e];exact W0c _
  . exact W0l (Xv2 (show i<=j by omega)) (by show _<=2*imB c z j p+z+c+1;omega)
def wR: Nat:=15346
def wE: Nat:=31691534
def jW(p:Nat): Nat:=8*p+73803682
def oW(p:Nat): Nat:=16*p+147714794
theorem wC: cB wR 3=107429:=by decide +kernel
theorem wZ: zM wR 3=10435952:=by decide +kernel
theorem Xhi: wR=15346:=rfl
theorem Yhj: wE=31691534:=rfl
theorem wQ: qB wR 3 wE<=4398046511104/\qB wR 3 wR<=4398046511104/\vB wR 3 (wE+gC wR 3)<=4398046511104/\vB wR 3 wR<=4398046511104:=by decide +kernel
theorem wV: vB wR 3 (oW 4000000000)<=4398046511104:=by decide +kernel
theorem Ynh{p:Nat}: imB (cB wR 3) (zM wR 3) 3 p=jW p:=by
 show 2*(2*(2*(p+1)+zM wR 3+cB wR 3+1)+zM wR 3+cB wR 3+1)+zM wR 3+cB wR 3+1=8*p+73803682
 rw[wC,wZ];omega
theorem Yff{m i p:Nat}(hm:m<=3)(hi:i<=3): imB (cB wR m) (zM wR 3) i p<=jW p:=by
 rw[<-Ynh]
 exact W0l (Xhb (Xi2 hm) (W0c _) (W0c _)) (Xv2 hi)
theorem Ydq{m i:Nat}(hm:m<=3)(hi:i<=2): imB (cB wR m) (zM wR 3) i wR<=wE:=by
 refine W0l (W0l (Xhb (Xi2 hm) (W0c _) (W0c _)) (Xv2 hi)) ?_
 show 2*(2*(wR+1)+zM wR 3+cB wR 3+1)+zM wR 3+cB wR 3+1<=31691534
 rw[wC,wZ,Xhi]
 decide
variable{K:Nat}{G:Tw K}{S:List (El K)}{p:Nat}
end
end Go.Tow
namespace Go.Proofs.YtclgppjdhndgiaaGreatDoor.R9
open Go Go.Vm Go.Num Go.Tow Go.Proofs.YtclgppjdhndgiaaGreatDoor
theorem _root_.Go.Tow.RtV.sig{K:Nat}{G:Tw K}{m z j:Nat}{rs:List (List Rat)}{ρ ρu:Nat->Tow.El K}(h:RtV G m z j rs ρ ρu): ∃σ:Nat->Tow.El m,Rts m z j rs σ/\∀i,i<j->ev G ρ m (σ i)=ρu i:=by
 have:∀i,∃b:Tow.El m,i<j->(∃(n:Nat) (s:Tow.El n),n<=m/\rs[i]?=some (toL n s)/\Lf s b/\Sz z (toL m b))/\ev G ρ m b=ρu i:=λi=>by
  by_cases hi:i<j
  . obtain⟨n,s,h1,h2,h3,h4⟩:=h i hi
    obtain⟨b,hb⟩:=Lf.ex h1 s
    exact⟨b,λ_=>⟨⟨n,s,h1,h2,hb,hb.sz h3⟩,by rw[hb.ev h1,h4]⟩⟩
  . exact⟨zero m,λh=>absurd h hi⟩
 obtain⟨σ,hσ⟩:=Classical.axiomOfChoice this
 exact⟨σ,λi hi=>(hσ i hi).1,λi hi=>(hσ i hi).2⟩
theorem Yee(m:Nat): Sz 3 (toL (m+1) (Xf3 (m+1) m)):=by
 rw[Xp9]
 exact((Sz.zero m).append (Sz.rat m (x:=1) (p:=1) ⟨show (1:Rat).num.natAbs<2^1 by decide +kernel,show ((1:Rat).den:Int).natAbs<2^1 by decide +kernel⟩)).mono (by omega)
section
variable{K:Nat}{G:Tw K}{S:List (Tow.El K)}{k l:Nat}{t:Tw k}{u:Tw l}{ρ ρu:Nat->Tow.El K}
def ExQ(G:Tw K)(S:List (Tow.El K))(l k:Nat)(t:Tw k)(ρ ρu:Nat->Tow.El K)(f:D->D->AV)(v:AV): Prop:=∃(m:Nat) (T:Tw m) (rs:List (List Rat)) (ρ':Nat->Tow.El K),v=f (dt T) (dts rs) /\
 TOk G S m T ρ'/\Beg k t m T/\(∀i,i<k->ρ' i=ρ i)/\RtV G m (zM wR 3) l rs ρ' ρu/\((∀i,i<l->∃e:Tow.El k,ev G ρ k e=ρu i)->toT m T=toT k t)
def ExI(G:Tw K)(S:List (Tow.El K))(l k:Nat)(t:Tw k)(ρ ρu:Nat->Tow.El K)(x:Nat×(Σ m,Tw m)×List (List Rat)): Prop:=x.1<=l/\x.2.2.length=x.1/\∃ρ':Nat->Tow.El K,TOk G S x.2.1.1 x.2.1.2 ρ'/\Beg k t x.2.1.1 x.2.1.2/\(∀i,i<k->ρ' i=ρ i)/\RtV G x.2.1.1 (zM wR 3) x.1 x.2.2 ρ' ρu/\((∀i,i<l->∃e:Tow.El k,ev G ρ k e=ρu i)->toT x.2.1.1 x.2.1.2=toT k t)
theorem ExI.sq(W:Wy G S wR)(hu:TOk G S l u ρu){i m:Nat}{T:Tw m}{rs:List (List Rat)}{x:Tow.El i}(h:ExI G S l k t ρ ρu (i,⟨m,T⟩,rs))(hil:i<l){σ:Nat->Tow.El m}{ρ':Nat->Tow.El K}(hT:TOk G S m T ρ')(hB:Beg k t m T)(ha:∀i,i<k->ρ' i=ρ i)(hrt:RtV G m (zM wR 3) i rs ρ' ρu)(hc:(∀i,i<l->∃e:Tow.El k,ev G ρ k e=ρu i)->toT m T=toT k t)(s2:∀j,j<i->ev G ρ' m (σ j)=ρu j)(hev:ev G ρ' m (ev T σ i x)=mul K G (ρu i) (ρu i))(x4:sgn K G (ρu i)=1){y:Tow.El m}(h1:mul m T y y=ev T σ i x)(h2:0<=sgn m T y): ExI G S l k t ρ ρu (i+1,⟨m,T⟩,rs++[toL m y]):=by
 have hG:=W.g
 have hGr:=Xah hG
 have hl3:=W.le hu
 obtain⟨_,hrl,_⟩:=h
 have hrl:rs.length=i:=hrl
 have hy:ev G ρ' m y=ρu i:=Xpt hG (by rw[<-Xce hT.h,h1,hev]) (by rw[Xfx hGr hT.h];exact h2) (by rw[x4];decide)
 exact⟨hil,by simp[hrl],ρ',hT,hB,ha,hrt.snoc hrl (W0c _) ((Ymz W hT hu i hil (λj hj=>⟨σ j,s2 j hj⟩) y hy).mono (Ydk (by omega))) hy,hc⟩
theorem ExI.new(W:Wy G S wR)(hu:TOk G S l u ρu){i m:Nat}{T:Tw m}{rs:List (List Rat)}{x:Tow.El i}(h:ExI G S l k t ρ ρu (i,⟨m,T⟩,rs))(hil:i<l){σ:Nat->Tow.El m}{ρ':Nat->Tow.El K}(hT:TOk G S m T ρ')(hB:Beg k t m T)(ha:∀i,i<k->ρ' i=ρ i)(hrt:RtV G m (zM wR 3) i rs ρ' ρu)(hev:ev G ρ' m (ev T σ i x)=mul K G (ρu i) (ρu i))(x4:sgn K G (ρu i)=1)(h2:¬Xch m T (ev T σ i x)): ExI G S l k t ρ ρu (i+1,⟨m+1,tsn T (ev T σ i x)⟩,rs++[toL (m+1) (Xf3 (m+1) m)]):=by
 have hG:=W.g
 have hGr:=Xah hG
 obtain⟨_,hrl,_⟩:=h
 have hrl:rs.length=i:=hrl
 have hT':=hT.snoc hGr h2 (hu.s i hil) (a:=ev T σ i x) hev.symm x4
 refine⟨hil,by simp[hrl],_,hT',hB.tr Beg.snoc,λj hj=>?_,?_,λhh=>?_⟩
 . have:=hB.le
   show (if j=m then ρu i else ρ' j)=ρ j
   rw[if_neg (by omega),ha j hj]
 . refine(hrt.mono (W8j _) (W0c _) (λj hj=>if_neg (by omega))).snoc hrl (W0c _) ((Yee m).mono (by rw[wZ];decide)) ?_
   rw[Xip (by omega)];exact if_pos rfl
 . obtain⟨b,hb⟩:=hh i hil
   obtain⟨b',hb'⟩:=Lf.ex hB.le b
   refine absurd ⟨b',Xm0 hGr hT.h hT.r ?_⟩ h2
   rw[Xce hT.h,hb'.ev hB.le,Xbu ha,hb,hev]
def ExB(m:Nat): Prop:=qB wR m wE<=4398046511104/\qB wR m wR<=4398046511104/\vB wR m (wE+gC wR m)<=4398046511104/\vB wR m wR<=4398046511104
theorem exB{m:Nat}(hm:m<=3): ExB m:=by
 obtain⟨q1,q2,q3,q4⟩:=wQ
 have p1:=Xzd (r:=wR) (p:=wE) hm
 have p2:=Xzd (r:=wR) (p:=wR) hm
 have p3:=Yjz (r:=wR) hm
 have p4:=Xcm (r:=wR) (k:=m) (show wE+gC wR m<=wE+gC wR 3 by omega)
 have p5:=Xlq (r:=wR) (s:=wE+gC wR 3) hm
 have p6:=Xlq (r:=wR) (s:=wR) hm
 exact⟨by omega,by omega,by omega,by omega⟩
theorem ExI.rad(W:Wy G S wR)(hu:TOk G S l u ρu){i m:Nat}{T:Tw m}{rs:List (List Rat)}{ρ':Nat->Tow.El K}(hil:i<l)(hT:TOk G S m T ρ')(hrt:RtV G m (zM wR 3) i rs ρ' ρu): ∃(x:Tow.El i) (σ:Nat->Tow.El m),(toT l u)[i]?=some (toL i x)/\Sz wR (toL i x)/\Rts m (zM wR 3) i rs σ/\(∀j,j<i->ev G ρ' m (σ j)=ρu j)/\ev G ρ' m (ev T σ i x)=mul K G (ρu i) (ρu i)/\sgn K G (ρu i)=1/\Sz wE (toL m (ev T σ i x)):=by
 have hl3:=W.le hu
 have hm3:=W.le hT
 obtain⟨x,x1,x2,x3⟩:=Tw.at (t:=u) hil
 have x2:=x2 wR (W.t hu)
 obtain⟨x3,x4⟩:=x3 hu.h
 obtain⟨σ,s1,s2⟩:=hrt.sig
 exact⟨x,σ,x1,x2,s1,s2,by rw[Xoq hT.h s2,x3],x4,(Xla (W.t hT) (a:=x) (λi' h'=>(s1 i' h').elim λ_ h=>h.elim λ_ h=>h.2.2.2) x2).mono (Ydq hm3 (by omega))⟩
theorem Xdj(W:Wy G S wR)(ht:TOk G S k t ρ)(hu:TOk G S l u ρu): C0 394 [.d (dt t),.d (dt u)] (ExQ G S l k t ρ ρu λT rs=>.tup (.pr (.d T) (.pr (.d rs) (.d (.int .i64 0))))):=by
 have hl3:l<=3:=W.le hu
 refine En Tryz.func394 λ_ _ _=>?_
 refine Nl 7 7 1 rfl ?_
 refine Lo (λ(x:Nat×(Σ m,Tw m)×List (List Rat))=>[(0,.d (dt x.2.1.2)),(1,.d (dt u)),(7,.gr 7 1 (x.2.2.map dqs)),(8,.d (.int .i64 x.1))]) (λx=>[(7,.tok (x.2.2.map dqs).length 1)])
  (ExI G S l k t ρ ρu) (λx=>l-x.1) (0,⟨k,t⟩,[]) [] rfl ⟨W0x _,rfl,ρ,ht,Beg.rf,λ_ _=>rfl,λi hi=>by omega,λ_=>rfl⟩ (λ(i,⟨m,T⟩,rs) hI=>?_)
 have hI':=hI
 obtain⟨hi,hrl,ρ',hT,hB,ha,hrt,hc⟩:=hI
 simp only at hi hrl hT hB ha hrt hc
 have hm3:m<=3:=W.le hT
 have hz:=W.t hT
 refine By rfl (λh=>?_) λh=>?_<;>simp only[lt',Xaa] at h
 . have hil:i<l:=by omega
   obtain⟨x,σ,x1,x2,s1,s2,hev,x4,hsz⟩:=ExI.rad W hu hil hT hrt
   obtain⟨q1,q2,q3,q4⟩:=exB hm3
   have hE:=Ydq hm3 (show i<=2 by omega)
   have hR:=Xhi
   have hE':=Yhj
   have hlen:(rs.map dqs).length<=3:=by rw[W0i];omega
   refine Ix i rfl (mp x1) ?_
   refine Ce rfl (Xfu (k:=m) (T:=T) hz (by omega) s1 x2 (by omega) (by omega)) ?_
   refine Ca rfl (R8.Adjoin_ok (k:=m) (t:=T) hz hsz hT.r (by omega) q1 q2 q3 q4) λv hv=>?_
   rcases hv with ⟨h1,rfl⟩ | ⟨y,h1,h2,rfl⟩ | ⟨h1,h2,h3,rfl⟩
   . have:=Xfx (Xah W.g) hT.h (a:=ev T σ i x)
     rw[hev,(Xav (Xah W.g)).sm,x4] at this
     omega
   . refine No rfl (by simp) ?_
     refine ApG ((rs++[toL m y]).map dqs) rfl (by simp) (by simp at hlen |-;omega) ?_
     refine Ar (i+1:Nat) rfl ?_
     exact Bk (i+1,⟨m,T⟩,rs++[toL m y]) [(38,7)] rfl (hI'.sq W hu hil hT hB ha hrt hc s2 hev x4 h1 h2) (by show l-(i+1)<l-i;omega)
   . refine No rfl (by simp) ?_
     refine ApG ((rs++[toL (m+1) (Xf3 (m+1) m)]).map dqs) rfl (by simp) (by simp at hlen |-;omega) ?_
     refine Ar (i+1:Nat) rfl ?_
     exact Bk (i+1,⟨m+1,tsn T (ev T σ i x)⟩,rs++[toL (m+1) (Xf3 (m+1) m)]) [(38,7)] rfl (hI'.new W hu hil hT hB ha hrt hev x4 h2) (by show l-(i+1)<l-i;omega)
 . obtain rfl:i=l:=by omega
   exact Rt rfl (.tup (.cons (.rf rfl) (.cons (.gr rfl) Xax))) ⟨m,T,rs,ρ',rfl,hT,hB,ha,hrt,hc⟩
end
end Go.Proofs.YtclgppjdhndgiaaGreatDoor.R9
namespace Go.Proofs.YtclgppjdhndgiaaGreatDoor
open Go Go.Vm Go.Num Go.Tow
abbrev dN(x:Nm): D:=.st (.pr (dt x.t) (de x.a))
abbrev dNs(l:List Nm): D:=.sl 2 (l.map dN)
end Go.Proofs.YtclgppjdhndgiaaGreatDoor
namespace Go.Proofs.YtclgppjdhndgiaaGreatDoor.R9
open Go Go.Vm Go.Num Go.Tow Go.Proofs.YtclgppjdhndgiaaGreatDoor
section
variable{K:Nat}{G:Tw K}{S:List (Tow.El K)}{r p:Nat}{x y:Nm}{vx vy:Tow.El K}
def CmP(G:Tw K)(S:List (Tow.El K))(x y:Nm)(m:Nat)(T:Tw m): Prop:=∃ρ,TOk G S m T ρ/\∀z∈[x,y],∀ρz,TOk G S z.k z.t ρz->∀j,j<z.k->∃e:Tow.El m,ev G ρ m e=ρz j
theorem CmP.mk(hG:red K G){ρx ρy:Nat->Tow.El K}(hx1:TOk G S x.k x.t ρx)(hy1:TOk G S y.k y.t ρy){m:Nat}{T:Tw m}{ρ:Nat->Tow.El K}(h1:TOk G S m T ρ)(h3:∀j,j<x.k->∃e:Tow.El m,ev G ρ m e=ρx j)(h4:∀j,j<y.k->∃e:Tow.El m,ev G ρ m e=ρy j): CmP G S x y m T:=⟨_,h1,λz hz ρz hρ j hj=>by
 rcases W1i.1 hz with rfl | hz
 . obtain⟨e,he⟩:=h3 j hj;exact⟨e,by rw[he];exact hx1.h.uniq hG hρ.h j hj⟩
 . obtain rfl:=W0g.1 hz
   obtain⟨e,he⟩:=h4 j hj;exact⟨e,by rw[he];exact hy1.h.uniq hG hρ.h j hj⟩⟩
theorem beg_ag(hG:red K G){k m:Nat}{t:Tw k}{T:Tw m}{ρ ρ':Nat->Tow.El K}(h:Beg k t m T)(h1:TOk G S k t ρ)(h2:TOk G S m T ρ'): ∀i,i<k->ρ' i=ρ i:=(h.hom h2.h).uniq hG h1.h
theorem rts{k:Nat}{ρ:Nat->Tow.El K}(j:Nat)(hj:j<k): ∃e:Tow.El k,ev G ρ k e=ρ j:=⟨Xf3 _ j,Xip hj⟩
theorem beg_rt(hG:red K G){k m:Nat}{t:Tw k}{T:Tw m}{ρ ρ':Nat->Tow.El K}(h:Beg k t m T)(h1:TOk G S k t ρ)(h2:TOk G S m T ρ')(j:Nat)(hj:j<k): ∃e:Tow.El m,ev G ρ' m e=ρ j:=by
 obtain⟨e,he⟩:=rts (G:=G) (k:=m) (ρ:=ρ') j (W0s hj h.le)
 exact⟨e,by rw[he];exact beg_ag hG h h1 h2 j hj⟩
theorem CmP.ext(hG:red K G){ρx ρy:Nat->Tow.El K}(hx1:TOk G S x.k x.t ρx)(hy1:TOk G S y.k y.t ρy){m z:Nat}{T:Tw m}{rs:List (List Rat)}{ρ':Nat->Tow.El K}(g1:TOk G S m T ρ')(g2:Beg x.k x.t m T)(g5:RtV G m z y.k rs ρ' ρy): CmP G S x y m T:=.mk hG hx1 hy1 g1 (beg_rt hG g2 hx1 g1) λj hj=>by
 obtain⟨n,s,s1,_,_,s4⟩:=g5 j hj
 obtain⟨b,hb⟩:=Lf.ex s1 s
 exact⟨b,by rw[hb.ev s1,s4]⟩
theorem both(hx:NOk G S r p x vx)(hy:NOk G S r p y vy)(i:Nat)(hi:i<2): ∃(z:Nm) (v:Tow.El K) (ρz:Nat->Tow.El K),[x,y][i]?=some z/\[vx,vy][i]?=some v/\TOk G S z.k z.t ρz/\ev G ρz z.k z.a=v/\Sz p (toL z.k z.a):=by
 have:i=0\/i=1:=by omega
 rcases this with rfl | rfl
 . obtain⟨ρ,h1,h2⟩:=hx.ex;exact⟨x,vx,ρ,rfl,rfl,h1,h2,hx.p⟩
 . obtain⟨ρ,h1,h2⟩:=hy.ex;exact⟨y,vy,ρ,rfl,rfl,h1,h2,hy.p⟩
def JnR(G:Tw K)(S:List (Tow.El K))(p:Nat)(vx vy:Tow.El K)(m:Nat)(T:Tw m)(a b:Tow.El m): Prop:=∃ρ,TOk G S m T ρ/\ev G ρ m a=vx/\ev G ρ m b=vy/\Sz (jW p) (toL m a)/\Sz (jW p) (toL m b)
def JnI(G:Tw K)(p m:Nat)(ρ:Nat->Tow.El K)(vx vy:Tow.El K)(s:Nat×List (Tow.El m)): Prop:=s.1<=2/\s.2.length=s.1/\∀i,i<s.1->∃a v,s.2[i]?=some a/\[vx,vy][i]?=some v/\ev G ρ m a=v/\Sz (jW p) (toL m a)
theorem JnI.step{m:Nat}{ρ:Nat->Tow.El K}{j:Nat}{bs:List (Tow.El m)}{v:Tow.El K}(h:JnI G p m ρ vx vy (j,bs))(hj:j<2)(z2:[vx,vy][j]?=some v){b:Tow.El m}(h1:ev G ρ m b=v)(h2:Sz (jW p) (toL m b)): JnI G p m ρ vx vy (j+1,bs++[b]):=by
 obtain⟨_,hjl,has⟩:=h
 have hjl:bs.length=j:=hjl
 refine⟨hj,by simp[hjl],λi hi=>?_⟩
 by_cases e:i=j
 . subst e
   exact⟨b,v,by rw[W0o (by omega),hjl,W2v];rfl,z2,h1,h2⟩
 . obtain⟨a,w,g1,g2⟩:=has i (by have:i<j+1:=hi;show i<j;omega)
   exact⟨a,w,by rw[W1b (by omega),g1],g2⟩
theorem JnI.done{m:Nat}{T:Tw m}{ρ:Nat->Tow.El K}{bs:List (Tow.El m)}(hT:TOk G S m T ρ)(h:JnI G p m ρ vx vy (2,bs)): ∃a b,bs=[a,b]/\JnR G S p vx vy m T a b:=by
 obtain⟨_,hjl,has⟩:=h
 match bs,hjl with
 | [a,b],_ =>
  obtain⟨a',v,a1,a2,a3,a4⟩:=has 0 (show 0<2 by decide)
  obtain⟨b',w,b1,b2,b3,b4⟩:=has 1 (show 1<2 by decide)
  cases a1;cases a2;cases b1;cases b2
  exact⟨a,b,rfl,ρ,hT,a3,b3,a4,b4⟩
theorem img(W:Wy G S wR){m l:Nat}{T:Tw m}{u:Tw l}{ρ ρz:Nat->Tow.El K}(hT:TOk G S m T ρ)(hu:TOk G S l u ρz){rs:List (List Rat)}{σ:Nat->Tow.El m}(s1:Rts m (zM wR 3) l rs σ){a:Tow.El l}(ha:Sz p (toL l a)): Sz (jW p) (toL m (ev T σ l a)):=(Xla (W.t hT) (λi h=>(s1 i h).elim λ_ h=>h.elim λ_ h=>h.2.2.2) ha).mono (Yff (W.le hT) (W.le hu))
theorem jW_ge{p:Nat}: p<=jW p:=by unfold jW;omega
theorem Join_ok(W:Wy G S wR)(hx:NOk G S r p x vx)(hy:NOk G S r p y vy)(hp:p<=4000000000): C0 350 [.d (dNs [x,y])] λv=>∃m T a b,v=.tup (.pr (.d (dNs [⟨m,T,a⟩,⟨m,T,b⟩])) (.d (.int .i64 0)))/\JnR G S p vx vy m T a b:=by
 have hG:=W.g
 have hR:=Xhi
 have hJ:jW p=8*p+73803682:=rfl
 obtain⟨ρx,hx1,hx2⟩:=hx.ex
 obtain⟨ρy,hy1,hy2⟩:=hy.ex
 have hx3:=W.le hx1
 have hy3:=W.le hy1
 have hxr:=W.t hx1
 have hyr:=W.t hy1
 refine En Tryz.func350 λ_ _ _=>?_
 refine Nd 4 1 rfl ?_
 refine Lo (λ(s:Nat×(Σ m,Tw m))=>[(0,.d (dNs [x,y])),(4,.d (dt s.2.2)),(5,.d (.int .i64 s.1))]) (λ_=>[]) (λs=>(s.1=0/\s.2=⟨0,()⟩)\/(s.1=1/\s.2=⟨x.k,x.t⟩)\/(s.1=2/\CmP G S x y s.2.1 s.2.2)) (λs=>2-s.1) (0,⟨0,()⟩) [] rfl (.inl ⟨rfl,rfl⟩) (λ(i,⟨m,T⟩) hI=>?_)
 simp only at hI
 rcases hI with ⟨rfl,e⟩ | ⟨rfl,e⟩ | ⟨rfl,hP⟩
 . cases e
   refine Yes rfl (show (0:Int)<2 by decide) ?_
   refine Ix 0 rfl (u:=dN x) rfl ?_
   refine By rfl (λh=>?_) λh=>?_
   . refine Ix 0 rfl (u:=dN x) rfl ?_
     refine Ce rfl (begins_ok (U:=[]) (q:=1) (TS.pt hxr) (λi r h=>by simp at h) (by omega) (by rw[Xaa];omega)) ?_
     refine Yes rfl (by simp) ?_
     refine Ix 0 rfl (u:=dN x) rfl ?_
     refine Ar (0+1:Nat) rfl ?_
     exact Bk (1,⟨x.k,x.t⟩) [] rfl (.inr (.inl ⟨rfl,rfl⟩)) (show 1<2 by decide)
   . obtain⟨kx,tx,ax⟩:=x
     have h:¬(((toT kx tx).map dqs).length:Int)>0:=h
     obtain rfl:kx=0:=by rw[lt',Xaa] at h;omega
     refine Ix 0 rfl (u:=dN ⟨0,tx,ax⟩) rfl ?_
     refine Ce rfl (begins_ok (T:=[]) (U:=[]) (p:=1) (q:=1) (λi r h=>by simp at h) (λi r h=>by simp at h) (by omega) (by decide)) ?_
     refine No rfl (by simp) ?_
     refine Ar (0+1:Nat) rfl ?_
     exact Bk (1,⟨0,tx⟩) [] rfl (.inr (.inl ⟨rfl,rfl⟩)) (show 1<2 by decide)
 . cases e
   have last:∀h:(toT x.k x.t).take (toT y.k y.t).length=toT y.k y.t,CmP G S x y x.k x.t:=λh=>.mk hG hx1 hy1 hx1 rts (beg_rt hG (show Beg y.k y.t x.k x.t from h) hy1 hx1)
   refine Yes rfl (show (1:Int)<2 by decide) ?_
   refine Ix 1 rfl (u:=dN y) rfl ?_
   refine By rfl (λh=>?_) λh=>?_
   . refine Ix 1 rfl (u:=dN y) rfl ?_
     refine Ce rfl (begins_ok (T:=toT y.k y.t) (U:=toT x.k x.t) (TS.pt hyr) (TS.pt hxr) (by omega) (by rw[Xaa];omega)) ?_
     refine By rfl (λh1=>?_) λh1=>?_
     . have hb:Beg x.k x.t y.k y.t:=h1
       refine Ix 1 rfl (u:=dN y) rfl ?_
       refine Ar (1+1:Nat) rfl ?_
       exact Bk (2,⟨y.k,y.t⟩) [] rfl (.inr (.inr ⟨rfl,.mk hG hx1 hy1 hy1 (beg_rt hG hb hx1 hy1) rts⟩)) (show 0<1 by decide)
     . refine Ix 1 rfl (u:=dN y) rfl ?_
       refine Ce rfl (begins_ok (T:=toT x.k x.t) (U:=toT y.k y.t) (TS.pt hxr) (TS.pt hyr) (by omega) (by rw[Xaa];omega)) ?_
       refine By rfl (λh2=>?_) λh2=>?_
       . refine Ix 1 rfl (u:=dN y) rfl ?_
         refine Ca rfl (Xdj W hx1 hy1) λv hv=>?_
         obtain⟨m,T,rs,ρ',rfl,g1,g2,g3,g5,g6⟩:=hv
         refine No rfl (by simp) ?_
         refine Ar (1+1:Nat) rfl ?_
         exact Bk (2,⟨m,T⟩) [] rfl (.inr (.inr ⟨rfl,.ext hG hx1 hy1 g1 g2 g5⟩)) (show 0<1 by decide)
       . refine Ar (1+1:Nat) rfl ?_
         exact Bk (2,⟨x.k,x.t⟩) [] rfl (.inr (.inr ⟨rfl,last (by simpa [Xa4,Xal] using h2)⟩)) (show 0<1 by decide)
   . refine Ix 1 rfl (u:=dN y) rfl ?_
     refine Ce rfl (begins_ok (T:=toT x.k x.t) (U:=toT y.k y.t) (TS.pt hxr) (TS.pt hyr) (by omega) (by rw[Xaa];omega)) ?_
     refine By rfl (λh2=>?_) λh2=>?_
     . refine Ix 1 rfl (u:=dN y) rfl ?_
       refine Ca rfl (Xdj W hx1 hy1) λv hv=>?_
       obtain⟨m,T,rs,ρ',rfl,g1,g2,g3,g5,g6⟩:=hv
       refine No rfl (by simp) ?_
       refine Ar (1+1:Nat) rfl ?_
       exact Bk (2,⟨m,T⟩) [] rfl (.inr (.inr ⟨rfl,.ext hG hx1 hy1 g1 g2 g5⟩)) (show 0<1 by decide)
     . refine Ar (1+1:Nat) rfl ?_
       exact Bk (2,⟨x.k,x.t⟩) [] rfl (.inr (.inr ⟨rfl,last (by simpa [Xa4,Xal] using h2)⟩)) (show 0<1 by decide)
 . obtain⟨ρ,hT,hcon⟩:=hP
   have hTr:=W.t hT
   have hm3:=W.le hT
   refine No rfl (show ¬(2:Int)<2 by decide) ?_
   refine Nl 9 9 2 rfl ?_
   refine Lo (λ(s:Nat×List (Tow.El m))=>[(0,.d (dNs [x,y])),(4,.d (dt T)),(9,.gr 9 2 (s.2.map λa=>dN ⟨m,T,a⟩)),(10,.d (.int .i64 s.1))]) (λs=>[(9,.tok (s.2.map λa=>dN ⟨m,T,a⟩).length 2)])
    (JnI G p m ρ vx vy) (λs=>2-s.1) (0,[]) [] rfl ⟨W0x _,rfl,λi hi=>absurd hi (W7y _)⟩ (λ(j,bs) hI=>?_)
   have hI':=hI
   obtain⟨hj,hjl,has⟩:=hI
   simp only at hj hjl has
   refine By rfl (λh=>?_) λh=>?_
   . have h:(j:Int)<2:=h
     obtain⟨z,v,ρz,z1,z2,z3,z4,z6⟩:=both hx hy j (by omega)
     have z5:=W.t z3
     have hzu:([x,y].map dN)[j]?=some (dN z):=by rw[W0t,z1];rfl
     have hzm:=hcon z (W0h z1) ρz z3
     have hz3:=W.le z3
     have hpj:p<=jW p:=jW_ge
     refine Ix j rfl hzu ?_
     refine Ce rfl (begins_ok (T:=toT m T) (U:=toT z.k z.t) (TS.pt hTr) (TS.pt z5) (by omega) (by rw[Xaa];omega)) ?_
     refine By rfl (λh1=>?_) λh1=>?_
     . have hb:Beg z.k z.t m T:=h1
       obtain⟨b,hlb⟩:=Lf.ex hb.le z.a
       have hv1:ev G ρ m b=v:=by rw[hlb.ev hb.le,Xbu (beg_ag hG hb z3 hT),z4]
       refine Ix j rfl hzu ?_
       refine Ce rfl (Xvn (T:=T) hlb hb.le (by omega)) ?_
       refine ApG ((bs++[b]).map λa=>dN ⟨m,T,a⟩) rfl (by simp) (by simp;omega) ?_
       refine Ar (j+1:Nat) rfl ?_
       exact Bk (j+1,bs++[b]) [(113,9)] rfl (hI'.step (by omega) z2 hv1 ((hlb.sz z6).mono hpj)) (by show 2-(j+1)<2-j;omega)
     . refine Ix j rfl hzu ?_
       refine Ca rfl (Xdj W hT z3) λv' hv=>?_
       obtain⟨m',T',rs,ρ',rfl,g1,g2,g3,g5,g6⟩:=hv
       obtain rfl:m'=m:=by have:=congrArg List.length (g6 hzm);rwa[Xaa,Xaa] at this
       have g5:RtV G m' (zM wR 3) z.k rs ρ ρz:=g5.mono (W0c _) (W0c _) (λi hi=>(g3 i hi).symm)
       obtain⟨σ,s1,s2⟩:=g5.sig
       have hbd:=Yff (p:=p) hm3 hz3
       refine Ix j rfl hzu ?_
       refine Ce rfl (Xfu hTr (by omega) s1 z6 (by omega) (by omega)) ?_
       refine ApG ((bs++[ev T σ z.k z.a]).map λa=>dN ⟨m',T,a⟩) rfl (by simp) (by simp;omega) ?_
       refine Ar (j+1:Nat) rfl ?_
       exact Bk (j+1,bs++[ev T σ z.k z.a]) [(113,9)] rfl (hI'.step (by omega) z2 (by rw[Xoq hT.h s2,z4]) (img W hT z3 s1 z6)) (by show 2-(j+1)<2-j;omega)
   . have h:¬(j:Int)<2:=h
     obtain rfl:j=2:=by omega
     obtain⟨a,b,rfl,hJ⟩:=hI'.done hT
     exact Rt rfl (.tup (.cons (.gr rfl) Xax)) ⟨m,T,a,b,rfl,hJ⟩
end
open Go Go.Vm Go.Num Go.Tow Go.Proofs.YtclgppjdhndgiaaGreatDoor
abbrev n0: D:=.st (.pr (dts []) (dqs []))
theorem fit0{g:Hp}{K:Hpl}: Fit g K (.st (.pr .nil .nil)) (.d n0):=.sd (.pd (.nil rfl) (.nil rfl))
section
variable{K:Nat}{G:Tw K}{S:List (Tow.El K)}{r p:Nat}{x y:Nm}{vx vy:Tow.El K}
theorem Ybt(W:Wy G S wR)(hx:NOk G S r p x vx)(hy:NOk G S r p y vy)(hp:p<=4000000000): C0 266 [.d (dN x),.d (dN y)] λv=>∃m T a b,v=.tup (.pr (.d (dN ⟨m,T,a⟩)) (.pr (.d (dN ⟨m,T,b⟩)) (.d (.int .i64 0))))/\JnR G S p vx vy m T a b:=by
 refine En Tryz.func266 λ_ _ _=>?_
 refine Ca rfl (Join_ok W hx hy hp) λv hv=>?_
 obtain⟨m,T,a,b,rfl,h⟩:=hv
 refine No rfl (by simp) ?_
 refine Dz rfl ?_
 refine Ix 0 rfl (u:=dN ⟨m,T,a⟩) rfl ?_
 refine Ix 1 rfl (u:=dN ⟨m,T,b⟩) rfl ?_
 exact Rt rfl (.tup (.cons (.rf rfl) (.cons (.rf rfl) Xax))) ⟨m,T,a,b,rfl,h⟩
def OpR(G:Tw K)(S:List (Tow.El K))(p:Nat)(w:Tow.El K)(v:AV): Prop:=∃z:Nm,v=.tup (.pr (.d (dN z)) (.d (.int .i64 0)))/\NOk G S wR p z w
theorem Add_ok(W:Wy G S wR)(hx:NOk G S r p x vx)(hy:NOk G S r p y vy)(hp:p<=4000000000): C0 178 [.d (dN x),.d (dN y)] (OpR G S (oW p) (Tow.add K vx vy)):=by
 have hO:oW p=16*p+147714794:=rfl
 have hJ:jW p=8*p+73803682:=rfl
 refine En Tryz.func178 λ_ _ _=>?_
 refine Ca rfl (Ybt W hx hy hp) λv hv=>?_
 obtain⟨m,T,a,b,rfl,ρ,h1,h3,h4,h5,h6⟩:=hv
 have h2:=W.t h1
 have hm:=W.le h1
 refine No rfl (by simp) ?_
 refine Dw rfl ?_
 refine Ce rfl (R6.Add_el (k:=m) (a:=a) (b:=b) (by omega) h5.ps h6.ps (by omega)) ?_
 exact Rt rfl (.tup (.cons (.rf rfl) Xax)) ⟨⟨m,T,Tow.add m a b⟩,rfl,⟨ρ,h1,by rw[<-h3,<-h4];exact Xea⟩,h2,by rw[Xas];exact(h5.add h6).mono (by omega)⟩
theorem Mul_ok(W:Wy G S wR)(hx:NOk G S r p x vx)(hy:NOk G S r p y vy)(hp:p<=4000000000): C0 247 [.d (dN x),.d (dN y)] (OpR G S (oW p) (Tow.mul K G vx vy)):=by
 have hO:oW p=16*p+147714794:=rfl
 have hJ:jW p=8*p+73803682:=rfl
 refine En Tryz.func247 λ_ _ _=>?_
 refine Ca rfl (Ybt W hx hy hp) λv hv=>?_
 obtain⟨m,T,a,b,rfl,ρ,h1,h3,h4,h5,h6⟩:=hv
 have h2:=W.t h1
 have hm:=W.le h1
 have hc:=Xi2 (r:=wR) hm
 have hC:=wC
 refine No rfl (by simp) ?_
 refine Dw rfl ?_
 refine Ce rfl (R6.Mul_el (k:=m) (t:=T) (a:=a) (b:=b) h2 h5 h6 (by omega) (by omega)) ?_
 exact Rt rfl (.tup (.cons (.rf rfl) Xax)) ⟨⟨m,T,Tow.mul m T a b⟩,rfl,⟨ρ,h1,by rw[<-h3,<-h4];exact Xce h1.h⟩,h2,(h5.mul h2 h6).mono (by omega)⟩
theorem Neg_ok(hx:NOk G S r p x vx)(hk:x.k<=16)(hp:p<=8796093022208): C0 174 [.d (dN x)] (·=.d (dN ⟨x.k,x.t,Tow.neg x.k x.a⟩)):=by
 refine En Tryz.func174 λ_ _ _=>?_
 refine Dw rfl ?_
 refine Ce rfl (R6.Neg_el hk hx.p.ps hp) ?_
 exact R1 rfl (.rf rfl)
theorem Sub_ok(W:Wy G S wR)(hx:NOk G S r p x vx)(hy:NOk G S r p y vy)(hp:p<=4000000000): C0 181 [.d (dN x),.d (dN y)] (OpR G S (oW p) (Tow.add K vx (Tow.neg K vy))):=by
 have:=hy.le (Xah W.g) W.s
 refine En Tryz.func181 λ_ _ _=>?_
 refine Dw rfl ?_
 refine Ce rfl (Neg_ok hy (by omega) (by omega)) ?_
 refine Ca rfl (Add_ok W hx hy.neg hp) λv hv=>?_
 obtain⟨z,rfl,h⟩:=hv
 exact Rt rfl (.tup (.cons (.rf rfl) Xax)) ⟨z,rfl,h⟩
theorem Sign_ok(hG:red K G)(hx:NOk G S r p x vx)(hk:x.k<=16)(hv:vB r x.k p<=4398046511104): C0 175 [.d (dN x)] (·=.d (.int .i64 (sgn K G vx))):=by
 refine En Tryz.func175 λ_ _ _=>?_
 refine Ce rfl (R7.Fast_ok hx.r hx.p hk hv) ?_
 rw[hx.sgn (Xah hG)]
 exact R0
def RtR(x:Nm)(v:AV): Prop:=∃z:Nm,v=.tup (.pr (.d (dN z)) (.d (.int .i64 0)))/\((∃y,z=⟨x.k,x.t,y⟩/\Tow.mul x.k x.t y y=x.a/\0<=sgn x.k x.t y)\/(z=⟨x.k+1,tsn x.t x.a,Xf3 (x.k+1) x.k⟩/\0<=sgn x.k x.t x.a/\¬Xch x.k x.t x.a))
theorem Sqrt_ok(hr:red x.k x.t)(hT:TS r x.k x.t)(ha:Sz p (toL x.k x.a))(h0:0<=sgn x.k x.t x.a)(hk:x.k<8)(hq:qB r x.k p<=4398046511104)(hq2:qB r x.k r<=4398046511104)(hv:vB r x.k (p+gC r x.k)<=4398046511104)(hv2:vB r x.k r<=4398046511104):
 C0 154 [.d (dN x)] (RtR x):=by
 refine En Tryz.func154 λ_ _ _=>?_
 refine Ca rfl (R8.Adjoin_ok hT ha hr hk hq hq2 hv hv2) λv hv=>?_
 rcases hv with ⟨h1,rfl⟩ | ⟨y,h1,h2,rfl⟩ | ⟨h1,h2,h3,rfl⟩
 . omega
 . refine No rfl (by simp) ?_
   exact Rt rfl (.tup (.cons (.rf rfl) Xax)) ⟨⟨x.k,x.t,y⟩,rfl,.inl ⟨y,rfl,h1,h2⟩⟩
 . refine No rfl (by simp) ?_
   exact Rt rfl (.tup (.cons (.rf rfl) Xax)) ⟨⟨x.k+1,tsn x.t x.a,Xf3 (x.k+1) x.k⟩,rfl,.inr ⟨rfl,h1,h2⟩⟩
theorem FromRat_ok{q:Rat}: C0 93 [.d (dq q)] (·=.d (dN ⟨0,(),q⟩)):=by
 refine En Tryz.func93 λ_ _ _=>?_
 exact R1 rfl (.sd (.pd (.nil rfl) (.lit rfl)))
theorem FromInt_ok{z:Int}(h:-9223372036854775808<=z/\z<9223372036854775808): C0 75 [.d (.int .i64 z)] (·=.d (dN ⟨0,(),(z:Rat)⟩)):=by
 refine En Tryz.func75 λ_ _ _=>?_
 refine Ce rfl (R2.FromInt_ok h) ?_
 refine Ce rfl FromRat_ok ?_
 exact R1 rfl (.rf rfl)
end
end Go.Proofs.YtclgppjdhndgiaaGreatDoor.R9
namespace Go.Vm
open Go
section
variable{c:Cx}{s:St}
variable{p:Pl}
end
end Go.Vm
namespace Go.Proofs.YtclgppjdhndgiaaGreatDoor.R9
open Go Go.Vm Go.Num Go.Tow Go.Proofs.YtclgppjdhndgiaaGreatDoor
end Go.Proofs.YtclgppjdhndgiaaGreatDoor.R9
namespace Go.Tow
open Go Go.Num Go.Proofs.YtclgppjdhndgiaaGreatDoor
end Go.Tow
namespace Go.Proofs.YtclgppjdhndgiaaGreatDoor.R9
open Go Go.Vm Go.Num Go.Tow Go.Proofs.YtclgppjdhndgiaaGreatDoor
section
end
section
end
end Go.Proofs.YtclgppjdhndgiaaGreatDoor.R9
namespace Go.Tow
open Go Go.Num Go.Proofs.YtclgppjdhndgiaaGreatDoor
variable{K:Nat}{G:Tw K}{ρ:Nat->El K}{S:List (El K)}{r p:Nat}{x:Nm}{v:El K}
end Go.Tow
namespace Go.Proofs.YtclgppjdhndgiaaGreatDoor
open Go Go.Vm Go.Num Go.Tow
end Go.Proofs.YtclgppjdhndgiaaGreatDoor
namespace Go.Proofs.YtclgppjdhndgiaaGreatDoor.R9
open Go Go.Vm Go.Num Go.Tow Go.Proofs.YtclgppjdhndgiaaGreatDoor
end Go.Proofs.YtclgppjdhndgiaaGreatDoor.R9
namespace Go.Vm
open Go Go.ChangeShapes Go.WideShapes Go.ChangeAt Go.RowKit
theorem Xuj{P:Program}{t:TypeId}(ht:P.underlying t=some .string): Reads P t λd=>∃l:List UInt8,d=.str l/\l.length<9223372036854775808:=λw _ _ _ _ _ _ _ h=>by
 obtain⟨s,h1,_,h2⟩:=DataW.trod_string ht h
 have hm:maxLen<9223372036854775808:=by decide
 have hl:s.data.toList.length<9223372036854775808:=by
  have e:s.size=s.data.toList.length:=by show s.data.size=_;simp
  omega
 exact⟨_,⟨s.data.toList,rfl,hl⟩,by rw[h1],hl⟩
theorem Ygp{P:Program}{t:TypeId}{r:D->Prop}(ht:P.underlying t=some .string)(hr:Reads P t r)(hg:∀x,r x->x.ag=false): Arg P t r:=λW base _ _ _ _ v d p hok h=>by
 obtain⟨z,rfl⟩:=okWide_string ht hok
 obtain⟨fuel,h⟩:=h
 obtain⟨x,h1,h2⟩:=hr W h
 exact⟨x,h1,_,h2,by rw[show AV.ag (.d x)=false from hg x h1];rfl⟩
end Go.Vm
namespace Go.Proofs.YtclgppjdhndgiaaGreatDoor
open Go Go.Vm Go.Num
theorem Yp5{α:Type}{f:α->D}{l:List D}(h:∀y∈l,∃x,y=f x): ∃m:List α,l=m.map f:=by
 induction l with
 | nil=>exact⟨[],rfl⟩
 | cons y l ih =>
  obtain⟨x,hx⟩:=h y (W0w ..)
  obtain⟨m,hm⟩:=ih λz hz=>h z (W1e _ hz)
  exact⟨x::m,by rw[hx,hm];rfl⟩
theorem Ya3: Arg Tryz.prog 9 λd=>∃l:List UInt8,d=.str l/\l.length<9223372036854775808:=Ygp Tryz.underlying9 (Xuj Tryz.underlying9) λx ⟨_,e,_⟩=>by rw[e];rfl
open Go Go.Vm Go.Num Go.ChangeShapes Go.WideShapes Go.ChangeAt Go.RowKit
abbrev Yfd : List (String × DataW Unit) := [("math/bits.deBruijn32tab", Rows.laid_math_bits_deBruijn32tab), ("math/bits.deBruijn64tab", Rows.laid_math_bits_deBruijn64tab), ("internal/strconv.uint64pow10", Rows.laid_internal_strconv_uint64pow10), ("unicode/utf8.acceptRanges", Rows.laid_unicode_utf8_acceptRanges), ("unicode/utf8.first", Rows.laid_unicode_utf8_first)]
def Ypr: List Int:=(List.range 20).map λi=>((10^i:Nat):Int)
theorem Ydy: ∀i,i<20->Ypr.getD i 0=((10^i:Nat):Int):=by decide
theorem Yjy : Tryz.prog.globalNamed "internal/strconv.uint64pow10" = some 3 := by kernel_rfl
theorem Yjx: (Tryz.prog.globals[3]?).map (·.type)=some 367:=by kernel_rfl
theorem Ynm{W:World}(h:laidMetH Tryz.prog Yfd W): Gb.g Tryz.prog (gw0 W):=by
 rw[Go.MakeChecks.laidMetH_plain Tryz.prog Yfd W (by kernel_rfl)] at h
 have h3 : laidMet Tryz.prog (("internal/strconv.uint64pow10", Lib.tabData .u64 Ypr) :: [("unicode/utf8.acceptRanges", Rows.laid_unicode_utf8_acceptRanges), ("unicode/utf8.first", Rows.laid_unicode_utf8_first)]) W := h.tail.tail
 have ht:=Lib.tabIs_of_head Yjy Yjx Tryz.underlying367 Tryz.underlying180 (by kernel_rfl) (by kernel_rfl) h3
 exact λi hi=>⟨by rw[show (gw0 W).w=W from rfl,ht.cell Yjy i (by rw[show Ypr.length=20 from rfl];exact hi),Ydy i hi],λh=>h⟩
def lay(vs:List (Nat×Array Value))(w:World): World:={ w with heap:=vs.foldl (λh p=>h.modify p.1 fun | .cells _ t frozen=>.cells p.2 t frozen | o=>o) w.heap }
def u8s(l:List Nat): Array Value:=(l.map λ(n:Nat)=>Value.int .u8 n).toArray
def Yps: List (Nat×Array Value):=[(3,(Ypr.map λz=>Value.int .u64 z).toArray),(1,u8s Pinned.utf8FirstZ),(2,u8s [128,191,160,191,128,159,144,191,128,143,0,0,0,0,0,0,0,0,0,0,0,0,0,0,0,0,0,0,0,0,0,0]),
 (4,u8s [0,1,28,2,29,14,24,3,30,22,20,15,25,17,4,8,31,27,13,23,21,19,16,7,26,12,18,6,11,5,10,9]),
 (5,u8s [0,1,56,2,57,49,28,3,61,58,42,50,38,29,17,4,62,47,59,36,45,43,51,22,53,39,33,30,24,18,12,5,63,55,48,27,60,41,37,16,46,35,44,21,52,32,23,11,54,26,40,15,34,20,31,10,25,14,19,9,13,8,7,6])]
noncomputable def Xdi(os:Os): World:=lay Yps (World.holding Tryz.prog os ⟨#[],#[],[]⟩)
theorem Xzs(os:Os)(args:Array Value): laidMet Tryz.prog Yfd ((Xdi os).forCall (λ_ _=>0) ⟨#[],args,[]⟩).memory :=
 laidMet_of_run' 8 (by kernel_rfl) (by kernel_rfl)
end Go.Proofs.YtclgppjdhndgiaaGreatDoor
namespace Go.Vm
open Go
section
variable{c:Cx}{s:St}{p:Pl}
theorem Xmg{o:Oper}{v:AV}{us:Hpl}(h:nxO c.tb c.n s=some (p,o))(hc:Xao o=false)(hdr:p.dr=false)(hr:Raw c.P o (sem p.E p.H) (v,us))(k:p.nx' c v us): StP c s:=by
 obtain⟨hw,hd⟩:=Xuz h
 refine Xmh h (.inl ⟨hw,(Xo3 hc).2 (.inr ⟨hdr,(v,us),hr,?_⟩)⟩)
 unfold aft
 rw[Xe2,<-hd];exact Pl.nx'_eq.1 k
noncomputable def Yo8(tb:Nat->Option TI)(n:Nat)(s:St): Option (Pl×Oper×Operand×Operand×TypeId×TypeId×TI×Nat×Int):=match nxO tb n s with
 | some (p,o)=>match o.op,p.dr with
  | .call ⟨.builtin .append,⟨[x,y]⟩,⟨[T,T']⟩⟩,false=>match Xcl (look p.E) x,Xcl (look p.E) y,tb T,tb T' with
   | some .nil,some (.d (.int .i64 m)),some ti,some ⟨.int _ _,_,_,_⟩=>match look p.H (o.dst.getD 0),ti.z,Nat.ble ti.eb 128 with
    | none,.sl sz _,true=>some (p,o,x,y,T,T',ti,sz,m)
    | _,_,_=>none
   | _,_,_,_=>none
  | _,_=>none
 | none=>none
end
theorem Yif{P:Program}(w:World)(t tn ty e:TypeId)(i:TypeInfo)(z:Value)(k kn:IntKind)(ht:P.underlying t=some (.slice e))(htn:P.underlying tn=some (.int kn))(hi:P.info? e=some i)(hz:i.zero=some z)(q:Option Addr)
 (n:Nat) (h0:0<n) (hs:0<i.size) (h63:(n:Int)<=9223372036854775807) (h48:n*i.bytes<=281474976710656) :
 (Builtin.append_ #[t,tn] ty #[.slice q 0 0,.int k n]).run P w =
  .ok (.slice (some ⟨w.heap.size,0,none⟩) n (grownCap w n 0 e)) (w.drew.alloc (.cells (Builtin.zeroCells z.cells n++Builtin.zeroCells z.cells (grownCap w n 0 e-n)) e)):=by
 cases q with
 | none=>exact Go.Lib.run_append_nil_zeros w t tn ty e i z k kn ht htn hi hz n h0 hs h63 h48
 | some a =>
  have hn:n≠0:=by omega
  have hw:IntKind.i64.wrap (n:Int)=n:=by rw[IntKind.wrap_i64];omega
  have h63':¬(9223372036854775807<(n:Int)):=by omega
  have h48':¬(281474976710656<Builtin.nextslicecap n 0*i.bytes):=by rw[nextslicecap_zero h0];omega
  have h48i:¬(281474976710656<(n:Int)*(i.bytes:Int)):=by
   rw[<-W2z]
   omega
  have hneg:¬((n:Int)<0):=by omega
  have hns:¬(n*i.size=0):=Nat.mul_ne_zero hn (by omega)
  simp[Builtin.append_,run_underlying ht,run_underlying htn,sizeOf,typeInfo,zeroValue,hi,hz,asInt,asIntOf,hw,hn,hneg,hns,h63',h48',h48i,Question.forced,Builtin.firstCells,loadCells,loadCellsFrom,newRow,grownCap]
section
variable{c:Cx}{s:St}{p:Pl}
theorem ApM{o:Oper}{x y:Operand}{T T':TypeId}{ti:TI}{sz:Nat}{m:Int}(n:Nat)(h:Yo8 c.tb c.n s=some (p,o,x,y,T,T',ti,sz,m))(h0:0<n)(hr:n<=1099511627776)(k:p.nx' c (.own (o.dst.getD 0) sz 0 n) [(o.dst.getD 0,.arr sz [])])(hm:m=(n:Int):=by first | exact rfl | omega): StP c s:=by
 subst hm
 unfold Yo8 at h
 split at h<;>try cases h
 rename_i p' o' ho
 split at h<;>try cases h
 rename_i x' y' T1 T2 hop hdr
 split at h<;>try cases h
 rename_i m' ti1 kn _ e' eb' ar' hx hy hti hti'
 split at h<;>cases h
 rename_i hd hb hz
 refine Xmg ho (by unfold Xao;rw[hop];rfl) hdr (λN W θ ρ _ hO hN hB hv=>?_) k
 obtain⟨hk,_⟩:=c.hT _ _ hti
 obtain⟨t,u1,_,u3⟩:=hk.u
 rw[hz] at u3
 obtain⟨E,e,hsz,hez,ii,v0,i1,i2,i3,i4,i5⟩:=u3
 subst e
 obtain⟨hk',_⟩:=c.hT _ _ hti'
 obtain⟨t',u1',_,u3'⟩:=hk'.u
 have u3':t'=.int kn:=u3'
 subst u3'
 obtain⟨q,ex⟩:=Xje (hv _ _ hx)
 obtain⟨ey,_⟩:=Xcv (hv _ _ hy)
 have hsp:0<ii.size:=by rw[i2];exact D.size_pos _
 have hbb:n*ii.bytes<=281474976710656:=by rw[i3];have:=W1z hr (W1q hb);omega
 have hrun:=Yif (P:=c.P) W.w T T' o.type E ii v0 .i64 kn u1 u1' i1 i4 q n h0 hsp (by omega) hbb
 have hge:=grownCap_ge W.w n 0 E
 have hlt:grownCap W.w n 0 E<9223372036854775808:=by
  have:=W2d (W.w.tape W.w.drawn (.appendCap n 0 E)) (show 0<2^63-n by omega)
  simp only[grownCap,Question.cut] at *
  omega
 have hzs:v0.cells.size=sz:=by rw[hsz,<-D.zc_len,<-i5];simp
 obtain⟨W',θ',e1,e2,e3⟩:=Xh8 (W:=W.tick) (θ:=θ) (g:=(sem p.E p.H).2) (dd:=o.dst.getD 0) (E:=E) (sz:=sz) (xs:=[]) (cs:=[]) (c:=grownCap W.w n 0 E) (zs:=(Builtin.zeroCells v0.cells n++Builtin.zeroCells v0.cells (grownCap W.w n 0 E-n)).toList) (Stp.tick hO).obs hN hB hd (λi x h=>by simp at h) (by simp) (by simp) hlt (by
  rw[W4g,Array.length_toList,Array.size_append,size_zeroCells,size_zeroCells,hzs,<-W1h]
  congr 1
  omega)
 obtain⟨cs,⟨b,pp,k1,k2,k3,k4,k5⟩,k6⟩:=e3
 subst k4
 have k6:Value.slice (some ⟨W.tick.size,0,none⟩) 0 (grownCap W.w n 0 E)=.slice pp 0 ((θ' (o.dst.getD 0)).2-0):=k6
 injection k6 with k6 k7 k8
 have k5:=k5 (.inl rfl)
 rw[<-k6] at k5
 injection k5 with k5
 injection k5 with k5
 have k5:W.size=b:=k5
 subst k5
 refine⟨W',θ',.value (.slice (some ⟨W.size,0,none⟩) n (grownCap W.w n 0 E)),?_,(Stp.tick hO).trans e2,.inr ⟨_,rfl,Yer (xs:=[]) k1 (by omega) (by omega) k3⟩,λi hi=>⟨_,by subst hi;exact Xai _ _ _⟩⟩
 have h1:execOp ρ o=(Builtin.append_ #[T,T'] o.type #[ρ x,ρ y] >>= λv=>pure (.value v)):=by
  simp[execOp,hop,resolve,invoke,builtin]
 rw[h1,Sem.run_bind,ex,ey,hrun,e1]
 have fin:∀ {a b:Array Value},a=b->(Result.ok (Next.value (.slice (some ⟨W.size,0,none⟩) n (grownCap W.w n 0 E))) (W.w.drew.alloc (.cells a E)):Result Next)=.ok (.value (.slice (some ⟨W.size,0,none⟩) n (grownCap W.w n 0 E))) (W.tick.w.alloc (.cells b E)):=by
  rintro a b rfl;rfl
 exact fin (by simp)
noncomputable def Yo1(tb:Nat->Option TI)(n:Nat)(s:St): Option Pl:=match nxA tb n s with
 | some (p,o,[.nil])=>match o.op with
  | .call ⟨.builtin .cap,_,⟨[T]⟩⟩=>match tb T with
   | some ⟨.sl _ _,_,_,_⟩=>some p
   | _=>none
  | _=>none
 | _=>none
theorem Kp(h:Yo1 c.tb c.n s=some p)(k:p.nx c (.d (.int .i64 0))): StP c s:=by
 unfold Yo1 at h
 split at h<;>try cases h
 rename_i p' o hA
 split at h<;>try cases h
 rename_i asx T ho
 split at h<;>cases h
 rename_i ht
 refine Xb1 (us:=[]) hA ?_ (Pl.nx_nil k)
 rw[ho]
 simp[F,Fp,ht]
theorem Sn{h':Int}(h:nxS c.tb c.n s=some (p,.nil,none,some h'))(k:p.nx c .nil)(hh:h'=0:=by exact rfl): StP c s:=Xqq h (by subst hh;rfl) k
noncomputable def Yo2(tb:Nat->Option TI)(n:Nat)(s:St): Option (Pl×FuncId×List AV):=match nxO tb n s with
 | some (p,o)=>match o.op with
  | .call ⟨.value x,asx,tys⟩=>match callee (look p.E) x,getEs (look p.E) asx.toList with
   | some (f,ex),some vs=>some (p,f,vs++ex)
   | _,_=>none
  | _=>none
 | none=>none
theorem CoN{f:FuncId}{asx:List AV}{Q:AV->Ob->Prop}(h:Yo2 c.tb c.n s=some (p,f,asx))(hc:CO c.P f asx Q)(k:∀v ob,Q v ob->p.nx' c (v.rnf (rnL [(1000000,p.d.getD 0)])) [(p.d.getD 0,ob.rnf (rnL [(1000000,p.d.getD 0)]))])
 (hk:(Xs2 asx [] [] (p.d.getD 0) p.H && !p.dr)=true:=by exact rfl):StP c s:=by
 rw[W0f,W1t] at hk
 obtain⟨hk,hdr⟩:=hk
 have hk':=hk
 simp only[Xs2,W0f,W1t] at hk'
 obtain⟨⟨⟨⟨⟨k1,k2⟩,k3⟩,k4⟩,k5⟩,k6⟩:=hk'
 have hid:∀ {a:AV},a.rnf (rnL [])=a:=by
  intro a
  induction a with
  | st a ih=>simp only[AV.rnf,ih]
  | tup a ih=>simp only[AV.rnf,ih]
  | fm f a ih=>simp only[AV.rnf,ih]
  | pr a c iha ihc=>simp only[AV.rnf,iha,ihc]
  | _=>rfl
 have hmap:asx.map (AV.rnf (rnL []))=asx:=by rw[show AV.rnf (rnL [])=id from funext λa=>hid,List.map_id]
 unfold Yo2 at h
 split at h<;>try cases h
 rename_i p' o ho
 obtain⟨hw,hd⟩:=Xuz ho
 split at h<;>try cases h
 rename_i x as' tys he
 split at h<;>cases h
 rename_i ex vs hvs hf
 have kk:∀v ob,Q v ob->WL c.P c.tb p.dr p.L (J c p.K) p.l (S.put ((sem p.E p.H).1,Xbz (sem p.E p.H).2 [(p.d.getD 0,ob.rnf (rnL [(1000000,p.d.getD 0)]))]) o.dst (v.rnf (rnL [(1000000,p.d.getD 0)]))):=λv ob hv=>by
  have:=Pl.nx'_eq.1 (k v ob hv)
  have this:WL c.P c.tb p.dr p.L (J c p.K) p.l (sem (Xs1 p.E p.d _) (_++p.H)):=this
  rw[<-hd,Xe2]
  exact this
 refine Xmh ho (.inl ⟨hw,?_⟩)
 unfold Wb
 rw[he]
 refine⟨_,_,_,hf,hvs,?_⟩
 rw[hdr] at kk |-
 obtain⟨a1,a2⟩:=Xi0 hc hk (Xbl k2) (g:=look p.H) (λo x hx=>by simp[look] at hx)
 rw[hmap] at a2
 refine⟨_,_,.inr rfl,⟨a1,a2⟩,?_⟩
 rintro v g' ⟨v0,H',d1,⟨ob,rfl,d2⟩,rfl,rfl⟩
 have:=kk v0 ob d2
 simpa [rfH,rnL] using this
end
def AV.nl(o sz:Nat): AV->AV
 | .nil=>.gr o sz []
 | .st a=>.st (a.nl o sz)
 | .pr a c=>.pr (a.nl o sz) (c.nl o sz)
 | a=>a
theorem Yp3{W:GW}{θ:Loc}{o sz:Nat}(h0:θ o=(none,0)): ∀ {a:AV} {cs:List Value},AV.C W θ a cs->AV.C W θ (a.nl o sz) cs:=by
 intro a
 induction a with
 | st a ih=>intro cs h;exact ih h
 | pr a c iha ihc=>intro cs ⟨u,v,h,h1,h2⟩;exact⟨u,v,h,iha h1,ihc h2⟩
 | nil=>intro cs ⟨p,h⟩;exact⟨p,by rw[h,h0];rfl,.inl (by rw[h0]),by simp,by rw[h0];decide,.inl rfl⟩
 | _=>intro cs h;exact h
theorem Yi5{o sz i:Nat}: ∀ {a:AV},(a.nl o sz).ids i->i=o\/a.ids i:=by
 intro a
 induction a with
 | st a ih=>exact ih
 | pr a c iha ihc=>exact λh=>h.elim (λh=>(iha h).imp id .inl) λh=>(ihc h).imp id .inr
 | nil=>exact .inl
 | _=>exact .inr
section
variable{c:Cx}{s:St}{p:Pl}
theorem nvS{K:List Kt}{E:Env}{H:Hpl}(q o' sz:Nat){a:AV}(hv:look H q=some (.var a))(hb:(Nat.blt o' 1000000 && !Xb5 H o')=true)(k:J c K (sem E ((q,.var (a.nl o' sz))::(o',.tok 0 sz)::H))): J c K (sem E H):=by
 simp only[W0f,W1t] at hb
 have hb1:=Xqy hb.1
 have hn:look H o'=none:=Xbl hb.2
 have hq:q≠o':=λe=>by rw[e,hn] at hv;cases hv
 rintro x w ⟨s0,W,θ,hw,hs,hθ,rfl⟩
 have st:=Stp.new0 (d:=o') hs.obs hb1 hn (x:=.tok 0 sz) ⟨by simp,by simp,.inl (by simp)⟩ (λi h=>h)
 have h1:=hs.step0 st
 refine k x w ⟨_,W,_,hw,?_,λi hi=>(st.hi i hi).trans (hθ i hi),rfl⟩
 rw[show sem E ((q,Ob.var (a.nl o' sz))::(o',Ob.tok 0 sz)::H)=(look E,upd (upd (look H) o' (.tok 0 sz)) q (.var (a.nl o' sz))) by rw[Xa6,Xa6]]
 have hq1:upd (look H) o' (.tok 0 sz) q=some (.var a):=by rw[Xam hq];exact hv
 have hdom:∀ {i:Nat} {y:Ob},upd (look H) o' (.tok 0 sz) i=some y->∃z,upd (upd (look H) o' (.tok 0 sz)) q (.var (a.nl o' sz)) i=some z:=λ{i y} hy=>by
  by_cases e:i=q
  . subst e;exact⟨_,Xai _ _ _⟩
  . exact⟨y,by rw[Xam e];exact hy⟩
 refine⟨h1.fm,h1.rel,⟨λi y hy=>?_,λi y b hy hl hb=>?_,λi j y y' b hy hy' hl hl' b1 b2=>?_,λi y j hy hj=>?_⟩,λt v i ht hi=>?_⟩
 . rcases Xae hy with ⟨e1,e2⟩ | ⟨e1,e2⟩
   . subst e1;subst e2
     obtain⟨b,cs,T,r1,r2,r3,r4⟩:=h1.obs.r _ _ hq1
     exact⟨b,cs,T,r1,r2,Yp3 (by simp) r3,r4⟩
   . exact h1.obs.r _ _ e2
 . rcases Xae hy with ⟨e1,e2⟩ | ⟨e1,e2⟩
   . subst e1;exact h1.obs.new _ _ b hq1 rfl hb
   . exact h1.obs.new _ _ b e2 hl hb
 . rcases Xae hy with ⟨e1,e2⟩ | ⟨e1,e2⟩<;>rcases Xae hy' with ⟨f1,f2⟩ | ⟨f1,f2⟩
   . rw[e1,f1]
   . subst e1;exact h1.obs.dis _ _ _ _ b hq1 f2 rfl hl' b1 b2
   . subst f1;exact h1.obs.dis _ _ _ _ b e2 hq1 hl rfl b1 b2
   . exact h1.obs.dis _ _ _ _ b e2 f2 hl hl' b1 b2
 . rcases Xae hy with ⟨e1,e2⟩ | ⟨e1,e2⟩
   . subst e2
     rcases Yi5 (a:=a) hj with h | h
     . exact hdom (y:=.tok 0 sz) (by rw[h];exact Xai _ _ _)
     . obtain⟨z,hz⟩:=h1.obs.ids _ _ j hq1 h
       exact hdom hz
   . obtain⟨z,hz⟩:=h1.obs.ids _ _ j e2 hj
     exact hdom hz
 . obtain⟨z,hz⟩:=h1.ids t v i ht hi
   exact hdom hz
theorem Nv{K:List Kt}{E:Env}{H:Hpl}(q o' sz:Nat){a:AV}(h:nxJ c.tb c.n s=some (K,E,H))(k:StP c (.j [] K E ((q,.var (a.nl o' sz))::(o',.tok 0 sz)::H)))(hv:look H q=some (.var a):=by exact rfl)(hb:(Nat.blt o' 1000000 && !Xb5 H o')=true:=by exact rfl): StP c s:=by
 unfold nxJ at h
 split at h<;>cases h
 rename_i hr
 exact go 1000 hr (nvS q o' sz hv hb k)
end
end Go.Vm
namespace Go.Proofs.YtclgppjdhndgiaaGreatDoor
open Go Go.Vm Go.Num Go.Tow
theorem Xiz{l:List Rat}(h0:0<l.length)(hl:l.length<=1048576): CA0 307 [.d (dqs l)] 4 (l.map dq):=by
 refine EnW Tryz.func307 λ_ _ _ _=>?_
 refine Ub rfl (λh=>?_) ?_
 . exact absurd h (by intro e; have:l.length = 0 := by simpa using congrArg List.length e
                      omega)
 refine ApL (l.map dq) rfl rfl (by simpa using h0) (by simpa using W0l hl (by decide)) ?_
 exact Rw [(7,1000000)] [(1000000,.arr 4 (l.map dq))] rfl (.one (.rf rfl) rfl rfl) ⟨_,rfl,rfl,rfl⟩
theorem Xj2{l:List Rat}(h0:0<l.length)(hl:l.length<=1048576): C0 307 [.d (dqs l)] (·=.d (dqs l)):=(Xiz h0 hl).data
theorem Xwf{n:Nat}(h0:0<n)(hn:n<=1048576): CA0 432 [.nil,.d (.int .i64 n)] 4 []:=by
 refine EnW Tryz.func432 λ_ _ _ _=>?_
 refine No rfl (by omega) ?_
 refine Kp rfl ?_
 refine Ar 0 rfl ?_
 refine Ar n rfl ?_
 refine Yes rfl (by omega) ?_
 refine Kp rfl ?_
 refine Sn rfl ?_
 refine ApM n rfl h0 (by omega) ?_
 refine Sw 0 0 rfl (by omega) (by omega) ?_
 exact Rw [(22,1000000)] [(1000000,.arr 4 [])] rfl (.one (.rf rfl) rfl rfl) ⟨_,rfl,rfl,rfl⟩
theorem Ypd{c c':Bool}(h:c=c'){g:Hp}{K:Hpl}: FitT g K (.b c) (.b c'):=by
 subst h;exact .one (.rf rfl) (λ_ _ e=>by cases e) (λ_ _ e=>by cases e)
theorem Xrp{p q:Prop}(h:p↔q): dc p=dc q:=by rw[show p=q from propext h]
namespace P8
theorem Ya9{n:Int}(hn:n<0)(hl:(dig n.natAbs).length<=274877906944): C0 438 [.d (dz n)] (·=.tup (.pr (.d (dS false [])) (.d (.int .i64 7)))):=by
 refine En Tryz.func438 λ_ _ _=>?_
 refine Ce rfl (Sign_ok (z:=n) (by omega)) ?_
 refine Yes rfl (by rcases Xat n 0 with ⟨g1,g2⟩ | ⟨g1,g2⟩ | ⟨g1,g2⟩<;>omega) ?_
 exact RTt rfl (.cons (.sd (.pd (.bd rfl) (.nil rfl))) Xax)
theorem Xkq{n:Int}(hl:(dig n.natAbs).length<=274877906944): C0 431 [.d (dz n)] λv=>∃b l,v=.tup (.pr (.d (dS b l)) (.b (dc (0<=n/\sqN n.natAbs))))/\(0<=n->dS b l=dz (rt n.natAbs:Int)):=by
 have hs:=@Sqrt_ok n.natAbs hl
 refine En Tryz.func431 λ_ _ _=>?_
 by_cases hn:0<=n
 . have e:((n.natAbs:Nat):Int)=n:=by omega
   rw[e] at hs
   have hr:=(Xc5 n.natAbs).1
   have h3:rt n.natAbs<=rt n.natAbs*rt n.natAbs:=Nat.le_mul_self _
   have l1:=Xap (show rt n.natAbs<=n.natAbs by omega)
   have l2:=Xap hr
   refine Ce rfl hs ?_
   refine Dw rfl ?_
   refine Yes rfl rfl ?_
   refine Ce rfl (Mul_ok (by rw[W1l];omega) (by rw[W1l];omega)) ?_
   refine Ce rfl (Cmp_ok (by rw[<-W2z,W1l];omega) (by omega)) ?_
   refine Rt rfl (.tup (.cons (.rf rfl) (Ypd (Xrp ?_)))) ⟨_,_,rfl,λ_=>rfl⟩
   unfold sqN
   rcases Xat ((rt n.natAbs:Int)*(rt n.natAbs:Int)) n with ⟨g1,g2⟩ | ⟨g1,g2⟩ | ⟨g1,g2⟩<;>rw[<-W2z] at g1<;>rw[<-W2z] at g2 |-<;>omega
 . refine Ce rfl (Ya9 (by omega) hl) ?_
   refine Dw rfl ?_
   refine No rfl (by decide) ?_
   exact Rt rfl (.tup (.cons (.rf rfl) (Xrc λh=>hn h.1))) ⟨_,_,rfl,λh=>absurd h hn⟩
theorem Xx2{x:Rat}{p:Nat}(hx:Qs p x)(hp:p<=4398046511104): C0 410 [.d (dq x)] λv=>∃b l b' l',v=.tup (.pr (.d (R2.dR b l b' l')) (.b (dc (∃y:Rat,y*y=x))))/\((∃y:Rat,y*y=x)->∃y:Rat,y*y=x/\R2.dR b l b' l'=dq y):=by
 have h1:=hx.n.len2 hp
 have h2:=hx.d.len2 hp
 have hi:=Xtw (q:=x)
 refine En Tryz.func410 λ_ _ _=>?_
 refine Ca rfl (Xkq (n:=x.num) (by omega)) λv hv=>?_
 obtain⟨b,l,rfl,hb⟩:=hv
 refine Ca rfl (Xkq (n:=(x.den:Int)) (by omega)) λv hv=>?_
 obtain⟨b',l',rfl,hb'⟩:=hv
 have z:∀ {c g K},(c=false/\¬ ∃y:Rat,y*y=x)->FitT g K (.pr (.st (.pr (.st (.pr (.b false) .nil)) (.st (.pr (.b false) .nil)))) (.b c)) (.pr (.d (R2.dR false [] false [])) (.b (dc (∃y:Rat,y*y=x)))):=λ⟨h0,h⟩=>by
  subst h0;exact .cons (.sd (.pd (.sd (.pd (.bd rfl) (.nil rfl))) (.sd (.pd (.bd rfl) (.nil rfl))))) (Xrc h)
 refine By rfl (λh=>?_) λh=>?_
 . have h:¬(0<=x.num/\sqN x.num.natAbs):=by simpa only [Xa4,Xal] using h
   have no:¬ ∃y:Rat,y*y=x:=λe=>h ⟨(hi.1 e).1,(hi.1 e).2.1⟩
   exact Rt rfl (.tup (z ⟨rfl,no⟩)) ⟨false,[],false,[],rfl,λe=>absurd e no⟩
 have h:0<=x.num/\sqN x.num.natAbs:=by simpa [Xa4,Xal] using h
 refine By rfl (λk=>?_) λk=>?_
 . have k:¬(0<=(x.den:Int)/\sqN (x.den:Int).natAbs):=by simpa only [Xa4,Xal] using k
   have no:¬ ∃y:Rat,y*y=x:=λe=>k ⟨by omega,by rw[W1l];exact(hi.1 e).2.2⟩
   exact Rt rfl (.tup (z ⟨rfl,no⟩)) ⟨false,[],false,[],rfl,λe=>absurd e no⟩
 have k:0<=(x.den:Int)/\sqN (x.den:Int).natAbs:=by simpa [Xa4,Xal] using k
 rw[W1l] at k
 obtain⟨y,y1,y2,y3⟩:=Xkl (q:=x) h.1 h.2 k.2
 refine Rt rfl (.tup (.cons (.rf rfl) (Xyg ⟨y,y3⟩))) ⟨_,_,_,_,rfl,λ_=>⟨y,y3,?_⟩⟩
 have e1:=hb h.1
 have e2:=hb' k.1
 rw[W1l] at e2
 show D.st (.pr (dS b l) (dS b' l'))=D.st (.pr (dz _) (dz _))
 rw[e1,e2,y1,y2]
theorem Xom{k r p:Nat}{t:Tw k}{a:Tow.El k}(hT:TS r k t)(ha:Sz p (toL k a))(hk:k<=16)(hp:p+3+cB r k<=4398046511104)(hr:r<=4398046511104): C0 414 [.d (dt t),.d (de a)] (·=.d (de (mul k t a (rat k (1/2))))):=by
 refine En Tryz.func414 λ_ _ _=>?_
 refine Ce rfl (Xkt (a:=1) (b:=2) (by decide) (by decide)) ?_
 rw[Xwe]
 refine Ce rfl (Xcn (x:=1/2) (p:=3) hT hk hr ⟨show (1/2:Rat).num.natAbs<2^3 by decide +kernel,show ((1/2:Rat).den:Int).natAbs<2^3 by decide +kernel⟩ (by decide)) ?_
 refine Ce rfl (Xdn hT ha Sz.half hk (by omega) hr) ?_
 exact R0
theorem Xrr{a b:List D}(h0:0<a.length+b.length)(hl:a.length+b.length<=1048576): C0 411 [.d (.sl 1 [.sl 4 a,.sl 4 b])] (·=.d (.sl 4 (a++b))):=by
 refine En Tryz.func411 λ_ _ _=>?_
 refine Lo (λ(x:Nat×Nat)=>[(0,.d (.sl 1 [.sl 4 a,.sl 4 b])),(2,.nil),(3,.d (.int .i64 x.2)),(9,.d (.sl 1 [.sl 4 a,.sl 4 b])),(10,.d (.int .i64 2)),(11,.d (.int .i64 x.1))]) (λ_=>[]) (λx=>x=(0,0)\/x=(1,a.length)\/x=(2,a.length+b.length)) (λx=>2-x.1) (0,0) [] rfl (.inl rfl) (λx hI=>?_)
 rcases hI with rfl | rfl | rfl
 . refine Yes rfl (show ((0:Nat):Int)<2 by decide) ?_
   refine Ix 0 rfl (u:=.sl 4 a) rfl ?_
   refine Ar a.length rfl ?_ (wr (by omega) (by simp only[inK];omega))
   refine No rfl (by omega) ?_
   refine Ar (1:Nat) rfl ?_
   exact Bk (1,a.length) [] rfl (.inr (.inl rfl)) (show 1<2 by decide)
 . refine Yes rfl (show ((1:Nat):Int)<2 by decide) ?_
   refine Ix 1 rfl (u:=.sl 4 b) rfl ?_
   refine Ar (a.length+b.length:Nat) rfl ?_ (wr (by omega) (by simp only[inK];omega))
   refine No rfl (by omega) ?_
   refine Ar (2:Nat) rfl ?_
   exact Bk (2,a.length+b.length) [] rfl (.inr (.inr rfl)) (show 0<1 by decide)
 refine No rfl (show ¬((2:Nat):Int)<2 by decide) ?_
 refine CoN rfl (Xwf (n:=a.length+b.length) (by omega) hl) (λv ob hv=>?_)
 obtain⟨rfl,rfl⟩:=hv
 refine Lo (λ(x:Nat×List D)=>[(0,.d (.sl 1 [.sl 4 a,.sl 4 b])),(2,.nil),(6,.own 24 4 0 x.2.length),(25,.d (.sl 1 [.sl 4 a,.sl 4 b])),(26,.d (.int .i64 2)),(27,.d (.int .i64 x.1))]) (λx=>[(24,.arr 4 x.2)]) (λx=>x=(0,[])\/x=(1,a)\/x=(2,a++b)) (λx=>2-x.1) (0,[]) [] rfl (.inl rfl) (λx hI=>?_)
 rcases hI with rfl | rfl | rfl
 . refine Yes rfl (show ((0:Nat):Int)<2 by decide) ?_
   refine Ix 0 rfl (u:=.sl 4 a) rfl ?_
   refine ApO a rfl rfl rfl rfl (by omega) ?_
   refine Ar (1:Nat) rfl ?_
   exact Bk (1,a) [(24,90),(33,24)] rfl (.inr (.inl rfl)) (show 1<2 by decide)
 . refine Yes rfl (show ((1:Nat):Int)<2 by decide) ?_
   refine Ix 1 rfl (u:=.sl 4 b) rfl ?_
   refine ApO (a++b) rfl rfl rfl (by simp) (by simp;omega) ?_
   refine Ar (2:Nat) rfl ?_
   exact Bk (2,a++b) [(24,90),(33,24)] rfl (.inr (.inr rfl)) (show 0<1 by decide)
 refine No rfl (show ¬((2:Nat):Int)<2 by decide) ?_
 exact R1 rfl (.own rfl (by simp) (by rw[W1a];exact W0b (by simp)))
theorem Xm4{k:Nat}{x y:Tow.El k}(hk:k<=16): C0 411 [.d (.sl 1 [de x,de y])] (·=.d (de (pr x y))):=by
 have:=Xrr (a:=(toL k x).map dq) (b:=(toL k y).map dq) (by simp[Xab];have:=W0u k;omega) (by simp[Xab];have:=p16 hk;omega)
 rwa[<-W1p] at this
end P8
open Go Go.Num Go.Tow
theorem Yc3{r:Nat}: ∀ {k p:Nat},0<iS r k p
 | 0,p=>Nat.succ_pos p
 | k+1,p=>by have:=Yc3 (r:=r) (k:=k) (p:=nS r k p);show 0<p+iS r k (nS r k p)+cB r k;omega
theorem Ynl{r:Nat}: ∀ {k p:Nat},p<=iS r k p
 | 0,p=>W8j p
 | k+1,p=>by show p<=p+iS r k (nS r k p)+cB r k;omega
theorem Yju{r:Nat}: ∀ {k p:Nat},p<=iB r k p
 | 0,p=>W8j p
 | k+1,p=>by show p<=2*(p+iB r k (nB r k p)+cB r k);omega
end Go.Proofs.YtclgppjdhndgiaaGreatDoor
namespace Go.Proofs.YtclgppjdhndgiaaGreatDoor.P8
open Go Go.Vm Go.Num Go.Tow Go.Proofs.YtclgppjdhndgiaaGreatDoor
def SqP(k:Nat)(t:Tw k)(a:Tow.El k)(v:AV): Prop:=∃w:List D,w.length<=2^k/\v=.tup (.pr (.d (.sl 4 w)) (.b (dc (Xch k t a))))/\(Xch k t a->∃x,mul k t x x=a/\D.sl 4 w=de x)
theorem Xjh{k r:Nat}{t:Tw k}(hT:TS r k t)(hk:k<=16)(hr:r<=4398046511104): C0 289 [.d (dt t),.d (dq ((0:Int):Rat))] (·=.d (de (zero k))):=by
 have:=Xcn (x:=((0:Int):Rat)) (p:=1) hT hk hr (Qs.int Zs.zero (W0c 1)) (by decide)
 rwa[show ((0:Int):Rat)=0 from rfl,Xg9] at this
theorem Xd2{k:Nat}: ∀ {r p:Nat} {t:Tw k} {a:Tow.El k},TS r k t->Sz p (toL k a)->red k t->k<=16->qB r k p<=4398046511104->r<=4398046511104->C0 369 [.d (dt t),.d (de a)] (SqP k t a):=by
 induction k with
 | zero =>
  intro r p t a hT ha hR hk hq hr
  have hq:p<=4398046511104:=hq
  have key:∀y:Rat,Qs p y->C0 369 [.d (dts []),.d (dqs [y])] λv=>∃w:List D,w.length<=2^0/\v=.tup (.pr (.d (.sl 4 w)) (.b (dc (∃x:Rat,x*x=y))))/\((∃x:Rat,x*x=y)->∃x:Rat,x*x=y/\D.sl 4 w=dqs [x]):=λy hy=>by
   refine En Tryz.func369 λ_ _ _=>?_
   refine Yes rfl rfl ?_
   refine Ix 0 rfl (u:=dq y) rfl ?_
   refine Ca rfl (Xx2 hy (by omega)) λv hv=>?_
   obtain⟨b,l,b',l',rfl,hw⟩:=hv
   exact Rt rfl (.tup (.cons (.lit rfl) (.one (.rf rfl) (λ_ _ e=>by cases e) (λ_ _ e=>by cases e)))) ⟨_,W0c _,rfl,λh=>let ⟨y,h1,h2⟩:=hw h;⟨y,h1,by rw[show dqs [y]=D.sl 4 [dq y] from rfl,<-h2];rfl⟩⟩
  exact key a (ha.qs (W0g.2 rfl))
 | succ k ih =>
  intro r p t a hT ha hR hk hq hr
  have hx:Sz p (toL k a.1):=Sz.left ha
  have hy:Sz p (toL k a.2):=Sz.right ha
  have hlen:=Xab k
  have hk0:=W0u k
  have hpk:=p16 (show k<=16 by omega)
  have hz:=ha.normS hT
  have L:=Xbc k t.1
  have hqq:p+vB r (k+1) p+vB r (k+1) r+nB r k p+qB r k (sX r k p)+iB r k (sX r k p+gC r k)+iS r k (sX r k p+gC r k)+iB r k r+2*cB r k+4<=4398046511104:=hq
  have hX:sX r k p=p+nS r k p+gC r k+cB r k+iS r k r+4:=rfl
  have hN:nB r k p=4*p+3*cB r k+r+1:=rfl
  have hI:0<iS r k r:=Yc3
  have q6:=Ynl (r:=r) (k:=k) (p:=sX r k p+gC r k)
  have q7:=Yju (r:=r) (k:=k) (p:=sX r k p+gC r k)
  have q1:qB r k p<=qB r k (sX r k p):=Xc7 (by omega)
  have q2:qB r k (nS r k p)<=qB r k (sX r k p):=Xc7 (by omega)
  have q3:qB r k (p+iS r k r+cB r k)<=qB r k (sX r k p):=Xc7 (by omega)
  have q4:sX r k p<=qB r k (sX r k p):=Yis
  have hr0:t.2≠zero k:=λh0=>hR.2.2 ⟨zero k,by rw[h0,L.mz]⟩
  obtain⟨i,hi⟩:=(Xd3 hR.1).2 t.2 hr0
  have him:=Xdv hi
  have hiz:=Sz.invS hT.1 hT.2 hi
  have no0:∀ {g K},¬Xch (k+1) t a->FitT g K (.pr .nil (.b false)) (.pr (.d (.sl 4 [])) (.b (dc (Xch (k+1) t a)))):=λh=>.cons (.nil (sz:=4) rfl) (Xrc h)
  refine En Tryz.func369 λ_ _ _=>?_
  refine No rfl (by show ¬((((toT k t.1++[toL k t.2]).map dqs).length:Nat):Int)=0;rw[twL];omega) ?_
  refine Dw rfl ?_
  refine Ar k rfl ?_ (tw1 t (by omega))
  refine Tk k ((toT k t.1).map dqs) rfl rfl (Xke t) (twT t) ?_
  refine Ar k rfl ?_ (tw1 t (by omega))
  refine Ix k rfl (twU t) ?_
  refine Dw rfl ?_
  refine Ar (2^k:Nat) rfl ?_ (hvq a (by omega))
  refine Tk (2^k) ((toL k a.1).map dq) rfl rfl (Xci a) (hvT a) ?_
  refine Ar (2^k:Nat) rfl ?_ (hvq a (by omega))
  refine Dp (2^k) ((toL k a.2).map dq) rfl rfl (Xci a) (hvD a) ?_
  refine Ce rfl (Xeg (l:=toL k a.2) hy.ps (by omega) (by rw[hlen];omega)) ?_
  refine By rfl (λhv=>?_) λhv=>?_
  . have ev:=(Xar k a.2).2 hv
    have ea:a=up k a.1:=by show (a.1,a.2)=(a.1,zero k);rw[ev]
    refine Ca rfl (ih hT.1 hx hR.1 (by omega) (by omega) hr) λv hv=>?_
    obtain⟨w,hwl,rfl,hw⟩:=hv
    refine By rfl (λh1=>?_) λh1=>?_
    . obtain⟨x,hx1,hx2⟩:=hw h1
      injection hx2 with _ hx2
      subst hx2
      have hs:mul (k+1) t (pr x (zero k)) (pr x (zero k))=a:=(Yh5 hx1).trans ea.symm
      refine Ce rfl (Xa3 (z:=0) (by decide)) ?_
      refine Ce rfl (Xjh hT.1 (by omega) hr) ?_
      refine Ce rfl (Xm4 (x:=x) (y:=zero k) (by omega)) ?_
      exact Rt rfl (.tup (.cons (.rf rfl) (Xyg ⟨_,hs⟩))) ⟨_,by simp[Xab],rfl,λ_=>⟨_,hs,rfl⟩⟩
    . refine Ce rfl (Xto hT.1 hT.2 (by omega) (by omega) hr hi) ?_
      refine No rfl (by decide) ?_
      refine Ce rfl (Xdn hT.1 hx hiz (by omega) (by omega) hr) ?_
      refine Ca rfl (ih hT.1 (hx.mul hT.1 hiz) hR.1 (by omega) (by omega) hr) λv hv=>?_
      obtain⟨w,hwl,rfl,hw⟩:=hv
      refine Ce rfl (Xa3 (z:=0) (by decide)) ?_
      refine Ce rfl (Xjh hT.1 (by omega) hr) ?_
      refine Ce rfl (Xrr (a:=(toL k (zero k)).map dq) (b:=w) (by simp[hlen];omega) (by simp[hlen];omega)) ?_
      have hiff:Xch k t.1 (mul k t.1 a.1 i)↔Xch (k+1) t a:=⟨λ⟨x,hx1⟩=>⟨_,(Xtu him hx1).trans ea.symm⟩,λe=>W1g λh2=>Xlu hR.1 him h1 h2 (ea ▸ e)⟩
      refine Rt rfl (.tup (.cons (.rf rfl) (Ypd (Xrp hiff)))) ⟨_,by simp[hlen];omega,rfl,λe=>?_⟩
      obtain⟨x,hx1,hx2⟩:=hw (hiff.2 e)
      injection hx2 with _ hx2
      subst hx2
      exact⟨(zero k,x),(Xtu him hx1).trans ea.symm,by rw[<-W1p];rfl⟩
  have ev:a.2≠zero k:=λe=>hv ((Xar k a.2).1 e)
  refine Ce rfl (Xys hT ha hk (by omega) hr) ?_
  refine Ca rfl (ih hT.1 hz hR.1 (by omega) (by omega) hr) λv hv=>?_
  obtain⟨w,hwl,rfl,hw⟩:=hv
  refine By rfl (λh1=>?_) λh1=>?_
  . have no:¬Xch (k+1) t a:=λe=>by
     exact h1 (Xtt e)
    exact Rt rfl (.tup (.cons (.nil (sz:=4) rfl) (Xrc no))) ⟨[],W0x _,rfl,λe=>absurd e no⟩
  obtain⟨m,hm,hm2⟩:=hw (W2h.1 h1)
  injection hm2 with _ hm2
  subst hm2
  have hm:mul k t.1 m m=Tow.norm k t a:=hm
  have hmz:=hz.rootS hT.1 hR.1 hm
  refine Ce rfl (Xhr hT.1 hx hmz (by omega) (by omega) hr) ?_
  refine Ce rfl (Xga hT.1 hx hmz (by omega) (by omega) hr) ?_
  refine Lo (λ(x:Nat)=>[(4,.nil),(5,.b false),(8,.d (dt t.1)),(11,.d (de a.2)),(117,.lit 1 [de (Tow.add k a.1 m),de (Tow.add k a.1 (Tow.neg k m))]),(118,.d (.int .i64 2)),(119,.d (.int .i64 x))]) (λ_=>[]) (λx=>x=0\/(x=1/\¬Xch k t.1 (mul k t.1 (rat k (1/2)) (Tow.add k a.1 m)))\/(x=2/\¬Xch k t.1 (mul k t.1 (rat k (1/2)) (Tow.add k a.1 m))/\¬Xch k t.1 (mul k t.1 (rat k (1/2)) (Tow.add k a.1 (Tow.neg k m))))) (λx=>2-x) 0 [] rfl (.inl rfl) (λx hI=>?_)
  have step:∀(mm:Tow.El k),mul k t.1 mm mm=Tow.norm k t a->Sz (nS r k p+gC r k) (toL k mm)->Sz (3+(p+(nS r k p+gC r k)+1)+cB r k) (toL k (mul k t.1 (Tow.add k a.1 mm) (rat k (1/2))))/\mul k t.1 (Tow.add k a.1 mm) (rat k (1/2))=mul k t.1 (rat k (1/2)) (Tow.add k a.1 mm):=λmm _ hs=>⟨by
   rw[L.mc];exact Sz.half.mul hT.1 (by rw[Xas];exact hx.add hs),L.mc _ _⟩
  have q5:qB r k (3+(p+(nS r k p+gC r k)+1)+cB r k)<=qB r k (sX r k p):=Xc7 (by omega)
  refine By rfl (λh2=>?_) λh2=>?_
  . obtain⟨mm,e1,e2,e3,next⟩:∃mm,[de (Tow.add k a.1 m),de (Tow.add k a.1 (Tow.neg k m))][x]?=some (de (Tow.add k a.1 mm))/\mul k t.1 mm mm=Tow.norm k t a/\Sz (nS r k p+gC r k) (toL k mm)/\(¬Xch k t.1 (mul k t.1 (rat k (1/2)) (Tow.add k a.1 mm))->(x+1=0\/(x+1=1/\¬Xch k t.1 (mul k t.1 (rat k (1/2)) (Tow.add k a.1 m)))\/(x+1=2/\¬Xch k t.1 (mul k t.1 (rat k (1/2)) (Tow.add k a.1 m))/\¬Xch k t.1 (mul k t.1 (rat k (1/2)) (Tow.add k a.1 (Tow.neg k m)))))):=by
     rcases hI with rfl | ⟨rfl,g1⟩ | ⟨rfl,g1,g2⟩
     . exact⟨m,rfl,hm,hmz,λh=>.inr (.inl ⟨rfl,h⟩)⟩
     . exact⟨Tow.neg k m,rfl,by rw[L.mn,L.nm,L.nn,hm],Xgu hmz,λh=>.inr (.inr ⟨rfl,g1,h⟩)⟩
     . omega
    refine Ix x rfl e1 ?_
    obtain⟨s1,s2⟩:=step mm e2 e3
    refine Ce rfl (Xom hT.1 (a:=Tow.add k a.1 mm) (p:=p+(nS r k p+gC r k)+1) (by rw[Xas];exact hx.add e3) (by omega) (by omega) hr) ?_
    refine Ca rfl (ih hT.1 s1 hR.1 (by omega) (by omega) hr) λv hv=>?_
    obtain⟨w,hwl,rfl,hw⟩:=hv
    refine By rfl (λh3=>?_) λh3=>?_
    . have h3:¬Xch k t.1 (mul k t.1 (Tow.add k a.1 mm) (rat k (1/2))):=by simpa only [Xa4,Xal] using h3
      rw[s2] at h3
      refine Ar (x+1:Nat) rfl ?_
      exact Bk (x+1) [] rfl (next h3) (by omega)
    . have h3:Xch k t.1 (mul k t.1 (Tow.add k a.1 mm) (rat k (1/2))):=by simpa [Xa4,Xal] using h3
      obtain⟨w,hw1,hw2⟩:=hw h3
      injection hw2 with _ hw2
      subst hw2
      rw[s2] at hw1
      have hw0:=Yh4 hR ev e2 hw1
      have hwz:Sz (3+(p+(nS r k p+gC r k)+1)+cB r k+gC r k) (toL k w):=(s2 ▸ s1).rootS hT.1 hR.1 hw1
      have hw2:Tow.add k w w≠zero k:=λe=>hw0 (by
       have e3:mul k t.1 (rat k (1/2)) (Tow.add k w w)=w:=by rw[L.md,<-L.dm,Xfw,L.om]
       rw[<-e3,e,L.mz])
      obtain⟨j,hj⟩:=(Xd3 hR.1).2 _ hw2
      have hdz:Sz (sX r k p+gC r k) (toL k (Tow.add k w w)):=by rw[Xas];exact hwz.dbl.mono (by omega)
      have hjz:=Sz.invS hT.1 hdz hj
      have hs:=Yh7 e2 hw1 (Xdv hj)
      refine Ce rfl (Xeg (l:=toL k w) hwz.ps (by omega) (by rw[hlen];omega)) ?_
      refine No rfl (λe=>hw0 ((Xar k w).2 e)) ?_
      refine Ce rfl (Xhr hT.1 hwz hwz (by omega) (by omega) hr) ?_
      refine Ce rfl (Xto hT.1 hdz (by omega) (by omega) hr hj) ?_
      refine Ce rfl (Xdn hT.1 hy hjz (by omega) (by omega) hr) ?_
      refine Ce rfl (Xm4 (by omega)) ?_
      exact Rt rfl (.tup (.cons (.rf rfl) (Xyg ⟨_,hs⟩))) ⟨_,by simp[Xab],rfl,λ_=>⟨_,hs,rfl⟩⟩
  . have no:¬Xch (k+1) t a:=λe=>by
     rcases hI with rfl | ⟨rfl,g1⟩ | ⟨rfl,g1,g2⟩
     . omega
     . omega
     . obtain⟨w,_,h6 | h6⟩:=Xpu hR.1 ev hm e
       . exact g1 ⟨w,h6⟩
       . exact g2 ⟨w,h6⟩
    exact Rt rfl (.tup (.cons (.nil (sz:=4) rfl) (Xrc no))) ⟨[],W0x _,rfl,λe=>absurd e no⟩
theorem Xn6{k r p:Nat}{t:Tw k}{a:Tow.El k}(hT:TS r k t)(ha:Sz p (toL k a))(hR:red k t)(hk:k<=16)(hq:qB r k p<=4398046511104)(hv:vB r k (p+gC r k)<=4398046511104)(hr:vB r k r<=4398046511104):
 C0 310 [.d (dt t),.d (de a)] λv=>∃w:D,v=.tup (.pr (.d w) (.b (dc (Xch k t a))))/\(Xch k t a->∃x,mul k t x x=a/\0<=sgn k t x/\w=de x):=by
 have L:=Xbc k t
 have S:=Xav (Xah hR)
 have:=Xdd (r:=r) k (p+gC r k)
 have hr2:=Xdd (r:=r) k r
 refine En Tryz.func310 λ_ _ _=>?_
 refine Ca rfl (Xd2 hT ha hR hk hq (by omega)) λv hv=>?_
 obtain⟨w,_,rfl,hw⟩:=hv
 refine By rfl (λh=>?_) λh=>?_
 . exact Rt rfl (.tup (.cons (.nil (sz:=4) rfl) (Xrc h))) ⟨_,rfl,λe=>absurd e h⟩
 have h:=W2h.1 h
 obtain⟨x,hx,hx2⟩:=hw h
 injection hx2 with _ hx2
 subst hx2
 have hz:=ha.rootS hT hR hx
 refine Ce rfl (Xgl hT hz (Xah hR) hk hv hr (by omega)) ?_
 refine By rfl (λh1=>?_) λh1=>?_
 . refine Ce rfl (Xtn hT hz hk (by omega) (by omega)) ?_
   exact Rt rfl (.tup (.cons (.rf rfl) (Xyg h))) ⟨_,rfl,λ_=>⟨Tow.neg k x,by rw[L.mn,L.nm,L.nn,hx],by rw[S.sn];omega,rfl⟩⟩
 . exact Rt rfl (.tup (.cons (.rf rfl) (Xyg h))) ⟨_,rfl,λ_=>⟨x,hx,by omega,rfl⟩⟩
theorem Xgm{k r:Nat}{t:Tw k}(hT:TS r k t)(hR:red k t)(hk:k<=16)(hq:qB r k r<=4398046511104)(hv:vB r k r<=4398046511104): C0 309 [.d (dt t)] (·=.b true):=by
 have:=Xdd (r:=r) k r
 refine En Tryz.func309 λ_ _ _=>?_
 refine Lo (λi:Nat=>[(0,.d (dt t)),(2,.b false),(7,.d (dt t)),(8,.d (.int .i64 ((toT k t).map dqs).length)),(9,.d (.int .i64 i))]) (λ_=>[]) (λi=>i<=k) (λi=>k-i) 0 [] rfl (by omega) (λi hi=>?_)
 refine By rfl (λh=>?_) λh=>?_<;>simp only[lt',Xaa] at h
 . obtain⟨w,x,h1,h2,h3,h4,h5⟩:=Tw.take (t:=t) (i:=i) (by omega)
   have hx:=h3 r hT
   obtain⟨h6,h7,h8⟩:=h5 hR
   have q1:=Xzd (r:=r) (p:=r) (show i<=k by omega)
   have v1:=Xlq (r:=r) (s:=r) (show i<=k by omega)
   refine Ix i rfl (mp h2) ?_
   refine Tk i ((toT i w).map dqs) rfl rfl (by rw[lt',Xaa];omega) (by rw[<-W3e,h1]) ?_
   refine Ce rfl (Xb3 hx.1 hx.2 (by omega) (by omega) (by omega)) ?_
   refine No rfl (by simp) ?_
   refine Tk i ((toT i w).map dqs) rfl rfl (by rw[lt',Xaa];omega) (by rw[<-W3e,h1]) ?_
   refine Ce rfl (Xgl hx.1 hx.2 (Xah h6) (by omega) (by omega) (by omega) (by omega)) ?_
   refine No rfl (λe=>e (by rcases Xc4 w x with h | h | h<;>omega)) ?_
   refine Tk i ((toT i w).map dqs) rfl rfl (by rw[lt',Xaa];omega) (by rw[<-W3e,h1]) ?_
   refine Ca rfl (Xd2 hx.1 hx.2 h6 (by omega) (by omega) (by omega)) λv hv=>?_
   obtain⟨d,_,rfl,hd⟩:=hv
   refine No rfl h8 ?_
   refine Ar (i+1:Nat) rfl ?_
   exact Bk (i+1) [] rfl (show i+1<=k by omega) (by show k-(i+1)<k-i;omega)
 . exact R0
theorem Xrt{l:List (List Rat)}(hl:l.length<=1048576)(h:∀x∈l,0<x.length/\x.length<=1048576): CA0 311 [.d (dts l)] 1 (l.map dqs):=by
 have hll:(l.map dqs).length=l.length:=by simp
 refine EnW Tryz.func311 λ_ _ _ _=>?_
 refine Mk l.length rfl (by omega) ?_ (by simp[hll])
 refine Lo (λi:Nat=>[(0,.d (dts l)),(2,.nil),(3,.own 8 1 0 l.length),(9,.d (dts l)),(10,.d (.int .i64 (l.map dqs).length)),(11,.d (.int .i64 i))]) (λi=>[(8,.arr 1 (fl (l.map dqs) (.sl 4 []) i))]) (λi=>i<=l.length) (λi=>l.length-i) 0 [] rfl (by omega) (λi hi=>?_) (by exact⟨rfl,by rw[<-Xin hll];rfl,rfl,rfl,rfl⟩)
 refine By rfl (λg=>?_) λg=>?_<;>simp only[lt'] at g
 . have hu:l[i]?=some l[i]:=W0a (by omega)
   have hm:=h _ (W6n (l:=l) (n:=i) (by omega))
   refine Ix i rfl (mp hu) ?_
   refine Ce rfl (Xj2 hm.1 hm.2) ?_
   refine Eo i rfl (by omega) ?_
   refine Sto rfl (by rw[Xju (by omega)];omega) (Xmv (u:=dqs l[i]) (by rw[W0t,hu];rfl)) ?_
   refine Ar (i+1:Nat) rfl ?_
   exact Bk (i+1) [] rfl (show i+1<=l.length by omega) (by show l.length-(i+1)<l.length-i;omega)
 . exact Rw [(8,1000000)] [(1000000,.arr 1 (l.map dqs))] rfl (.one (.rf rfl) rfl rfl) ⟨_,rfl,by rw[hll];rfl,rfl⟩ (by rw[Xmw (by omega)];rfl)
theorem Adjoin_ok{k r p:Nat}{t:Tw k}{a:Tow.El k}(hT:TS r k t)(ha:Sz p (toL k a))(hR:red k t)(hk:k<8)(hq:qB r k p<=4398046511104)(hq2:qB r k r<=4398046511104)(hv:vB r k (p+gC r k)<=4398046511104)(hr:vB r k r<=4398046511104):
 C0 220 [.d (dt t),.d (de a)] (R8.AdjR k t a):=by
 have h0:=Xdd (r:=r) k r
 have h1:=Xdd (r:=r) k (p+gC r k)
 have h2:=Xcm (r:=r) (k:=k) (show p<=p+gC r k by omega)
 have hlen:=Xaa k t
 have e2:(((toT k t).map dqs).length:Int)=k:=by simp[hlen]
 have hle:∀x∈toT k t,0<x.length/\x.length<=1048576:=λx hx=>by
  obtain⟨i,hi,e⟩:=List.mem_iff_getElem.1 hx
  have:=(Xkg hT (i:=i) (l:=x) (by rw[W0a hi,e])).1
  rw[hlen] at hi
  have h3:=W0m (n:=2) (by decide) (show i<=8 by omega)
  have:=W0u i
  omega
 refine En Tryz.func220 λ_ _ _=>?_
 refine Ce rfl (Xb3 hT ha (by omega) (by omega) (by omega)) ?_
 refine No rfl (by simp) ?_
 refine Ce rfl (Xgm hT hR (by omega) hq2 hr) ?_
 refine No rfl (by simp) ?_
 refine Ce rfl (Xgl hT ha (Xah hR) (by omega) (by omega) hr (by omega)) ?_
 refine By rfl (λh=>?_) λh=>?_
 . exact Rt rfl (.tup (.cons (.nil rfl) (.cons (.nil rfl) Xax))) (.inl ⟨h,rfl⟩)
 refine Ca rfl (Xn6 hT ha hR (by omega) hq hv hr) λv hv=>?_
 obtain⟨w,rfl,hw⟩:=hv
 refine By rfl (λh1=>?_) λh1=>?_
 . obtain⟨x,x1,x2,rfl⟩:=hw h1
   refine Ce rfl (Xrt (by omega) hle).data ?_
   exact Rt rfl (.tup (.cons (.rf rfl) (.cons (.rf rfl) Xax))) (.inr (.inl ⟨x,x1,x2,rfl⟩))
 refine No rfl (by simp only[lt',hlen];omega) ?_
 refine Cr rfl (Xrt (by omega) hle) ?_
 refine Ce rfl (Xj2 (by rw[Xab];exact W0u k) (by rw[Xab];have:=W0m (n:=2) (by decide) (show k<=8 by omega);omega)) ?_
 refine ApO ((toT k t++[toL k a]).map dqs) rfl rfl rfl (by simp) (by simp[hlen];omega) ?_
 refine Fz 11 9 ((toT k t++[toL k a]).map dqs) rfl (by simp) (by rw[W1a];exact W0b (by simp)) ?_
 have hrt:=Xyr (r:=max r p) (t:=tsn t a) (i:=k) ?_ (by omega) (by omega) (by omega)
 rw[<-e2] at hrt
 refine Ce rfl hrt ?_
 exact Rt rfl (.tup (.cons (.rf rfl) (.cons (.rf rfl) Xax))) (.inr (.inr ⟨by omega,h1,hk,rfl⟩))
 exact⟨hT.mono (by omega),ha.mono (by omega)⟩
end Go.Proofs.YtclgppjdhndgiaaGreatDoor.P8
namespace Go.Proofs.YtclgppjdhndgiaaGreatDoor.P9
open Go Go.Vm Go.Num Go.Tow Go.Proofs.YtclgppjdhndgiaaGreatDoor
section
theorem Xj1{x:Rat}{p:Nat}(hx:Qs p x)(hp:p<=4398046511104): C0 145 [.d (dq x)] (·=.d (dq x)):=by
 have h1:=hx.n.len2 hp
 have h2:=hx.d.len2 hp
 refine En Tryz.func145 λ_ _ _=>?_
 refine Dw rfl ?_
 refine Ce rfl (Xbm (l:=dig x.num.natAbs) (by omega)) ?_
 refine Ce rfl (Xbm (l:=dig (x.den:Int).natAbs) (by omega)) ?_
 exact R0
theorem Xiv{l:List Rat}{p:Nat}(hl:Ps p l)(hp:p<=4398046511104)(hn:l.length<=1048576): C0 198 [.d (dqs l)] (·=.d (dqs l)):=by
 have hll:(l.map dq).length=l.length:=by simp
 refine En Tryz.func198 λ_ _ _=>?_
 refine Mk l.length rfl (by omega) ?_ (by simp[hll])
 refine Lo (λi:Nat=>[(0,.d (dqs l)),(2,.nil),(3,.own 8 4 0 l.length),(9,.d (dqs l)),(10,.d (.int .i64 (l.map dq).length)),(11,.d (.int .i64 i))]) (λi=>[(8,.arr 4 (fl (l.map dq) rz i))]) (λi=>i<=l.length) (λi=>l.length-i) 0 [] rfl (by omega) (λi hi=>?_) (by exact⟨rfl,by rw[<-Xin hll];rfl,rfl,rfl,rfl⟩)
 refine By rfl (λg=>?_) λg=>?_<;>simp only[lq] at g
 . obtain⟨u,hu⟩:=qat (l:=l) (k:=i) (by omega)
   refine Ix i rfl (mp hu) ?_
   refine Ce rfl (Xj1 (hl u (W0h hu)) hp) ?_
   refine Eo i rfl (by omega) ?_
   refine Sto rfl (by rw[Xju (by omega)];omega) (Xmv (u:=dq u) (by rw[W0t,hu];rfl)) ?_
   refine Ar (i+1:Nat) rfl ?_
   exact Bk (i+1) [] rfl (show i+1<=l.length by omega) (by show l.length-(i+1)<l.length-i;omega)
 . refine R1 rfl (.own rfl (by rw[Xju (by omega)];simp) ?_)
   rw[Xmw (by omega),W1a]
   exact W0b (by simp)
theorem Xy1{x y:Rat}{p q:Nat}(hx:Qs p x)(hy:Qs q y)(hp:p+q<=8796093022208): C0 302 [.d (dq x),.d (dq y)] (·=.b (dc (x=y))):=by
 refine En Tryz.func302 λ_ _ _=>?_
 refine Ce rfl (Xh3 hx hy hp) ?_
 exact R1 rfl (.bp (Xal.trans ⟨λh=>W1g λe=>R9.cmpQ_ne.2 e h,λe=>W1g λh=>R9.cmpQ_ne.1 h e⟩))
theorem Yaf{l m:List Rat}{p q:Nat}(hl:Ps p l)(hm:Ps q m)(hp:p+q<=8796093022208)(hn:l.length<=1048576): C0 301 [.d (dqs l),.d (dqs m),.d (.raw (.func (.func 302) #[] #[]))] (·=.b (dc (l=m))):=by
 refine En Tryz.func301 λ_ _ _=>?_
 refine By rfl (λh=>?_) λh=>?_<;>simp only[lq] at h
 . exact R1 rfl (.bp ⟨nofun,λe=>absurd (by rw[e]) h⟩)
 have h:l.length=m.length:=by omega
 refine Lo (λk:Nat=>[(0,.d (dqs l)),(1,.d (dqs m)),(2,.d (.raw (.func (.func 302) #[] #[]))),(15,.d (dqs l)),(16,.d (.int .i64 (l.map dq).length)),(17,.d (.int .i64 k))]) (λ_=>[]) (λk=>k<=l.length/\l.take k=m.take k) (λk=>l.length-k) 0 [] rfl ⟨by omega,rfl⟩ λk ⟨hk,ht⟩=>?_
 refine By rfl (λh2=>?_) λh2=>?_<;>simp only[lq] at h2
 . obtain⟨x,hx⟩:=qat (l:=l) (k:=k) (by omega)
   obtain⟨y,hy⟩:=qat (l:=m) (k:=k) (by omega)
   refine Ix k rfl (mp hx) ?_
   refine Ix k rfl (mp hy) ?_
   refine Ce rfl (Xy1 (hl x (W0h hx)) (hm y (W0h hy)) hp) ?_
   refine By rfl (λh3=>?_) λh3=>?_
   . have h3:¬x=y:=by simpa [Xa4,Xal] using h3
     exact R1 rfl (.bp ⟨nofun,λe=>by subst e;rw[hx] at hy;injection hy with hy;exact absurd hy h3⟩)
   . have e:x=y:=by simpa [Xa4,Xal] using h3
     refine Ar (k+1:Nat) rfl ?_
     exact Bk (k+1) [] rfl ⟨by omega,by rw[W1c,W1c,hx,hy,ht,e]⟩ (by show l.length-(k+1)<l.length-k;omega)
 . rw[W0b (by omega),W0b (by omega)] at ht
   exact R1 rfl (.bp ⟨λ_=>ht,λ_=>rfl⟩)
theorem sameElement_ok{l m:List Rat}{p q:Nat}(hl:Ps p l)(hm:Ps q m)(hp:p+q<=8796093022208)(hn:l.length<=1048576): C0 212 [.d (dqs l),.d (dqs m)] (·=.b (dc (l=m))):=by
 refine En Tryz.func212 λ_ _ _=>?_
 refine Ce rfl (Yaf hl hm hp hn) ?_
 exact R0
theorem Yae{T U:List (List Rat)}{p q:Nat}(hT:Pt p T)(hU:Pt q U)(hp:p+q<=8796093022208)(hl:T.length<=16): C0 300 [.d (dts T),.d (dts U),.d (.raw (.func (.func 212) #[] #[]))] (·=.b (dc (T=U))):=by
 refine En Tryz.func300 λ_ _ _=>?_
 refine By rfl (λh=>?_) λh=>?_<;>simp only[lt'] at h
 . exact R1 rfl (.bp ⟨nofun,λe=>absurd (by rw[e]) h⟩)
 have h:T.length=U.length:=by omega
 refine Lo (λk:Nat=>[(0,.d (dts T)),(1,.d (dts U)),(2,.d (.raw (.func (.func 212) #[] #[]))),(15,.d (dts T)),(16,.d (.int .i64 (T.map dqs).length)),(17,.d (.int .i64 k))]) (λ_=>[]) (λk=>k<=T.length/\T.take k=U.take k) (λk=>T.length-k) 0 [] rfl ⟨by omega,rfl⟩ λk ⟨hk,ht⟩=>?_
 refine By rfl (λh2=>?_) λh2=>?_<;>simp only[lt'] at h2
 . obtain⟨x,hx⟩:∃x,T[k]?=some x:=⟨_,W0a (by omega)⟩
   obtain⟨y,hy⟩:∃y,U[k]?=some y:=⟨_,W0a (by omega)⟩
   obtain⟨x1,x2⟩:=hT k x hx
   obtain⟨y1,y2⟩:=hU k y hy
   have:=p16 (show k<=16 by omega)
   refine Ix k rfl (mp hx) ?_
   refine Ix k rfl (mp hy) ?_
   refine Ce rfl (sameElement_ok x2 y2 hp (by omega)) ?_
   refine By rfl (λh3=>?_) λh3=>?_
   . have h3:¬x=y:=by simpa [Xa4,Xal] using h3
     exact R1 rfl (.bp ⟨nofun,λe=>by subst e;rw[hx] at hy;injection hy with hy;exact absurd hy h3⟩)
   . have e:x=y:=by simpa [Xa4,Xal] using h3
     refine Ar (k+1:Nat) rfl ?_
     exact Bk (k+1) [] rfl ⟨by omega,by rw[W1c,W1c,hx,hy,ht,e]⟩ (by show T.length-(k+1)<T.length-k;omega)
 . rw[W0b (by omega),W0b (by omega)] at ht
   exact R1 rfl (.bp ⟨λ_=>ht,λ_=>rfl⟩)
theorem begins_ok{T U:List (List Rat)}{p q:Nat}(hT:Pt p T)(hU:Pt q U)(hp:p+q<=8796093022208)(hl:T.length<=16): C0 211 [.d (dts T),.d (dts U)] (·=.b (dc (T.take U.length=U))):=by
 refine En Tryz.func211 λ_ _ _=>?_
 refine By rfl (λh=>?_) λh=>?_<;>simp only[lt'] at h
 . have hq:Pt p (T.take U.length):=λi r hi=>by
    rw[W1j] at hi
    split at hi
    . exact hT i r hi
    . cases hi
   refine Tk U.length ((T.take U.length).map dqs) rfl rfl (by simp only[lt'];omega) (by rw[W3e]) ?_ (by simp only[lt'])
   refine Ce rfl (Yae hq hU hp (by rw[W0j];omega)) ?_
   exact R0
 . exact R1 rfl (.bp ⟨nofun,λe=>absurd (congrArg List.length e) (by rw[W0j];omega)⟩)
theorem Yix{T:List (List Rat)}{l:List Rat}(h0:0<l.length)(hT:T.length<=16)(hl:l.length<=2^T.length): C0 217 [.d (dts T),.d (dqs l)] (·=.d (dqs (l++List.replicate (2^T.length-l.length) 0))):=by
 have hp:=p16 hT
 obtain⟨n,hn⟩:∃n,n=2^T.length:=⟨_,rfl⟩
 rw[<-hn] at hp hl |-
 refine En Tryz.func217 λ_ _ _=>?_
 refine Cr rfl (Xiz h0 (by omega)) ?_
 refine Lo (λk:Nat=>[(0,.d (dts T)),(5,.own 7 4 0 ((l++List.replicate k 0).map dq).length)]) (λk=>[(7,.arr 4 ((l++List.replicate k 0).map dq))]) (λk=>l.length+k<=n) (λk=>n-k) 0 [] rfl (by omega) (λk hk=>?_) (by exact⟨by simp;rfl,by simp;rfl,rfl,rfl,rfl⟩)
 refine Ar n rfl ?_ (by rw[hn];simp only[lt'];exact Xbp (by omega))
 refine By rfl (λh=>?_) λh=>?_<;>simp only[lq,W0d,W1v] at h
 . refine Ce rfl (Xa3 (z:=0) (by decide)) ?_
   refine ApO ((l++List.replicate (k+1) 0).map dq) rfl rfl rfl (by rw[W6p];simp) (by simp;omega) ?_
   exact Bk (k+1) [(7,90),(17,7)] rfl (show l.length+(k+1)<=n by omega) (by show n-(k+1)<n-k;omega)
 . refine R1 rfl (.own rfl (by omega) ?_)
   rw[W1a,show n-l.length=k by omega]
   exact W0b (by simp)
theorem Xjn{k m:Nat}{s:Tow.El k}{b:Tow.El m}{T:Tw m}(h:Lf s b)(hk:k<=m)(hm:m<=16): C0 217 [.d (dt T),.d (de s)] (·=.d (de b)):=by
 have:=Yix (T:=toT m T) (l:=toL k s) (by rw[Xab];exact W0u k) (by rw[Xaa];omega) (by rw[Xab,Xaa];exact W0m (by decide) hk)
 rw[Xaa,Xab,<-h] at this
 exact this
abbrev dE(T rs:List (List Rat)): D:=.st (.pr (dts T) (dts rs))
theorem Xfu{k R z:Nat}{T:Tw k}{rs:List (List Rat)}{σ:Nat->Tow.El k}(hT:TS R k T)(hk:k<=16)(hR:R<=4398046511104): ∀ {j p:Nat} {a:Tow.El j},R9.Rts k z j rs σ->Sz p (toL j a)->j<=16->imB (cB R k) z j p<=4398046511104 ->
 C0 306 [.d (dE (toT k T) rs),.d (de a)] (·=.d (de (ev T σ j a))):=by
 intro j
 induction j with
 | zero =>
  intro p a _ ha hj hb
  have hb:p+1<=4398046511104:=hb
  have key:∀y:Rat,Qs p y->C0 306 [.d (dE (toT k T) rs),.d (dqs [y])] (·=.d (de (rat k y))):=λy hy=>by
   refine En Tryz.func306 λ_ _ _=>?_
   refine Yes rfl rfl ?_
   refine Dw rfl ?_
   refine Ix 0 rfl (u:=dq y) rfl ?_
   refine Ce rfl (Xcn hT hk hR hy (by omega)) ?_
   exact R0
  exact key a (ha.qs (W0g.2 rfl))
 | succ j ih =>
  intro p a hr ha hj hb
  have hb':2*imB (cB R k) z j p+z+cB R k+1<=4398046511104:=hb
  have hr':R9.Rts k z j rs σ:=λi hi=>hr i (by omega)
  have hpj:=p16 (show j<=16 by omega)
  have hp0:=W0u j
  have hpp:=Yc2 (c:=cB R k) (z:=z) (p:=p) (j:=j)
  have hs:∀i,i<j->Sz z (toL k (σ i)):=λi hi=>(hr' i hi).elim λ_ h=>h.elim λ_ h=>h.2.2.2
  have h1:=Xla hT (a:=a.1) hs (Sz.left ha)
  have h2:=Xla hT (a:=a.2) hs (Sz.right ha)
  obtain⟨m,s,m1,m2,m3,m4⟩:=hr j (by omega)
  refine En Tryz.func306 λ_ _ _=>?_
  refine No rfl (by show ¬((((toL j a.1++toL j a.2).map dq).length:Nat):Int)=1;rw[hvL];omega) ?_
  refine Ar (2^j:Nat) rfl ?_ (hvq a (by omega))
  refine Lo (λi:Nat=>[(1,.d (de a)),(2,.ptr 2 0),(4,.nil),(5,.d (.int .i64 (2^j:Nat))),(6,.d (.int .i64 i))]) (λ_=>[(2,.var (.d (dE (toT k T) rs)))]) (λi=>i<=j) (λi=>j-i) 0 [] rfl (by omega) λi hi=>?_
  refine Ar (i+1:Nat) rfl ?_
  refine Ar (2^(i+1):Nat) rfl ?_ (Xbp (by omega))
  refine By rfl (λh=>?_) λh=>?_
  . have h:((2^(i+1):Nat):Int)<(((toL j a.1++toL j a.2).map dq).length:Nat):=h
    rw[hvL,<-Nat.pow_succ'] at h
    have h:i+1<j+1:=(W2w (by decide:1<2)).1 (by omega)
    refine Ar (i+1:Nat) rfl ?_
    exact Bk (i+1) [] rfl (show i+1<=j by omega) (by show j-(i+1)<j-i;omega)
  . have h:¬((2^(i+1):Nat):Int)<(((toL j a.1++toL j a.2).map dq).length:Nat):=h
    rw[hvL,<-Nat.pow_succ'] at h
    have h:¬i+1<j+1:=λe=>h (by have:=(W2w (by decide:1<2)).2 e;omega)
    obtain rfl:i=j:=by omega
    refine Dw rfl ?_
    refine Tk (2^i) ((toL i a.1).map dq) rfl rfl (Xci a) (hvT a) ?_
    refine Ce rfl (ih hr' (Sz.left ha) (by omega) (by omega)) ?_
    refine Dp (2^i) ((toL i a.2).map dq) rfl rfl (Xci a) (hvD a) ?_
    refine Ce rfl (Xeg (l:=toL i a.2) (Sz.right ha).ps (by omega) (by rw[Xab];omega)) ?_
    refine By rfl (λhv=>?_) λhv=>?_
    . have hv:a.2=zero i:=(Xar i a.2).2 hv
      have e:ev T σ i a.1=ev T σ (i+1) a:=by
       have L:=Xbc k T
       show _=Tow.add k (ev T σ i a.1) (mul k T (ev T σ i a.2) (σ i))
       rw[hv,Xio,L.mc,L.mz,L.az]
      exact R1 rfl (.eq (congrArg de e))
    . refine Dw rfl ?_
      refine Dp (2^i) ((toL i a.2).map dq) rfl rfl (Xci a) (hvD a) ?_
      refine Ce rfl (ih hr' (Sz.right ha) (by omega) (by omega)) ?_
      refine Ix i rfl (mp m2) ?_
      refine Ce rfl (Xjn (T:=T) m3 m1 hk) ?_
      refine Ce rfl (Xdn hT h2 m4 hk (by omega) hR) ?_
      refine Ce rfl (Xhr hT h1 (h2.mul hT m4) hk (by omega) hR) ?_
      exact R0
section
variable{K:Nat}{G:Tw K}{S:List (Tow.El K)}{k l:Nat}{t:Tw k}{u:Tw l}{ρ ρu:Nat->Tow.El K}
theorem Xdj(W:Wy G S wR)(ht:TOk G S k t ρ)(hu:TOk G S l u ρu): C0 305 [.d (dt t),.d (dt u)] (R9.ExQ G S l k t ρ ρu λT rs=>.tup (.pr (.d (.st (.pr T rs))) (.d (.int .i64 0)))):=by
 have hl3:l<=3:=W.le hu
 refine En Tryz.func305 λ_ _ _=>?_
 refine Nv 6 7 1 rfl ?_
 refine Lo (λ(x:Nat×(Σ m,Tw m)×List (List Rat))=>[(4,.ptr 4 0),(5,.d (.int .i64 0)),(6,.ptr 6 0),(14,.d (dt u)),(15,.d (.int .i64 ((toT l u).map dqs).length)),(16,.d (.int .i64 x.1))]) (λx=>[(4,.var (.st (.pr .nil .nil))),(6,.var (.st (.pr (.d (dt x.2.1.2)) (.gr 7 1 (x.2.2.map dqs))))),(7,.tok (x.2.2.map dqs).length 1)])
  (R9.ExI G S l k t ρ ρu) (λx=>l-x.1) (0,⟨k,t⟩,[]) [] rfl ⟨W0x _,rfl,ρ,ht,Beg.rf,λ_ _=>rfl,λi hi=>by omega,λ_=>rfl⟩ (λ(i,⟨m,T⟩,rs) hI=>?_)
 have hI':=hI
 obtain⟨hi,hrl,ρ',hT,hB,ha,hrt,hc⟩:=hI
 simp only at hi hrl hT hB ha hrt hc
 have hm3:m<=3:=W.le hT
 have hz:=W.t hT
 refine By rfl (λh=>?_) λh=>?_<;>simp only[lt',Xaa] at h
 . have hil:i<l:=by omega
   obtain⟨x,σ,x1,x2,s1,s2,hev,x4,hsz⟩:=R9.ExI.rad W hu hil hT hrt
   obtain⟨q1,q2,q3,q4⟩:=R9.exB hm3
   have hE:=Ydq hm3 (show i<=2 by omega)
   have hR:=Xhi
   have hE':=Yhj
   have hlen:(rs.map dqs).length<=3:=by rw[W0i];omega
   refine Ix i rfl (mp x1) ?_
   refine Dw rfl ?_
   refine Ce rfl (Xfu (k:=m) (T:=T) hz (by omega) (by omega) s1 x2 (by omega) (by omega)) ?_
   refine Ca rfl (P8.Adjoin_ok (k:=m) (t:=T) hz hsz hT.r (by omega) q1 q2 q3 q4) λv hv=>?_
   rcases hv with ⟨h1,rfl⟩ | ⟨y,h1,h2,rfl⟩ | ⟨h1,h2,h3,rfl⟩
   . have:=Xfx (Xah W.g) hT.h (a:=ev T σ i x)
     rw[hev,(Xav (Xah W.g)).sm,x4] at this
     omega
   . refine No rfl (by simp) ?_
     refine ApG ((rs++[toL m y]).map dqs) rfl (by simp) (by simp at hlen |-;omega) ?_
     refine Ar (i+1:Nat) rfl ?_
     exact Bk (i+1,⟨m,T⟩,rs++[toL m y]) [(7,90),(39,7)] rfl (hI'.sq W hu hil hT hB ha hrt hc s2 hev x4 h1 h2) (by show l-(i+1)<l-i;omega)
   . refine No rfl (by simp) ?_
     refine ApG ((rs++[toL (m+1) (Xf3 (m+1) m)]).map dqs) rfl (by simp) (by simp at hlen |-;omega) ?_
     refine Ar (i+1:Nat) rfl ?_
     exact Bk (i+1,⟨m+1,tsn T (ev T σ i x)⟩,rs++[toL (m+1) (Xf3 (m+1) m)]) [(7,90),(39,7)] rfl (hI'.new W hu hil hT hB ha hrt hev x4 h2) (by show l-(i+1)<l-i;omega)
 . obtain rfl:i=l:=by omega
   exact Rt rfl (.tup (.cons (.sd (.pd (.rf rfl) (.gr rfl))) Xax)) ⟨m,T,rs,ρ',rfl,hT,hB,ha,hrt,hc⟩
end
end
section
theorem detach_ok{x:Nm}{r p:Nat}(hr:TS r x.k x.t)(hp:Sz p (toL x.k x.a))(hk:x.k<=16)(h1:r<=4398046511104)(h2:p<=4398046511104): C0 109 [.d (dN x)] (·=.d (dN x)):=by
 have hpk:=p16 hk
 refine En Tryz.func109 λ_ _ _=>?_
 refine Ce rfl (Xiv hp.ps h2 (by rw[Xab];omega)) ?_
 refine Nv 3 7 1 rfl ?_
 refine Lo (λ(i:Nat)=>[(2,.ptr 2 0),(3,.ptr 3 0),(11,.d (dt x.t)),(12,.d (.int .i64 ((toT x.k x.t).map dqs).length)),(13,.d (.int .i64 i))]) (λi=>[(2,.var (.st (.pr .nil .nil))),(3,.var (.st (.pr (.gr 7 1 (((toT x.k x.t).take i).map dqs)) (.d (de x.a))))),(7,.tok (((toT x.k x.t).take i).map dqs).length 1)])
  (λi=>i<=x.k) (λi=>x.k-i) 0 [] rfl (W0x _) (λi hi=>?_)
 refine By rfl (λh=>?_) λh=>?_<;>simp only[lt',Xaa] at h
 . obtain⟨w,y,y1,y2,y3,_⟩:=Tw.take (t:=x.t) (i:=i) (by omega)
   have hy:=(y3 r hr).2
   refine Ix i rfl (mp y2) ?_
   refine Dw rfl ?_
   refine Ce rfl (Xiv hy.ps h1 (by rw[Xab];have:=p16 (show i<=16 by omega);omega)) ?_
   refine ApG (((toT x.k x.t).take (i+1)).map dqs) rfl (by rw[W1c,y2];simp) (by simp[Xaa];omega) ?_
   refine Ar (i+1:Nat) rfl ?_
   exact Bk (i+1) [(7,90),(22,7)] rfl (show i+1<=x.k by omega) (by show x.k-(i+1)<x.k-i;omega)
 . have e:(toT x.k x.t).take i=toT x.k x.t:=W0b (by rw[Xaa];omega)
   refine R1 rfl (.sd (.pd (.gr ?_) (.rf rfl)))
   rw[e]
section
variable{K:Nat}{G:Tw K}{S:List (Tow.El K)}{r p:Nat}{x y:Nm}{vx vy:Tow.El K}
theorem Xxd(W:Wy G S wR)(hx:NOk G S r p x vx)(hy:NOk G S r p y vy): C0 304 [.d (dNs [x,y])] λv=>∃m T,v=.tup (.pr (.d (dt T)) (.d (.int .i64 0)))/\R9.CmP G S x y m T:=by
 have hG:=W.g
 have hR:=Xhi
 obtain⟨ρx,hx1,hx2⟩:=hx.ex
 obtain⟨ρy,hy1,hy2⟩:=hy.ex
 have hx3:=W.le hx1
 have hy3:=W.le hy1
 have hxr:=W.t hx1
 have hyr:=W.t hy1
 refine En Tryz.func304 λ_ _ _=>?_
 refine Nd 4 1 rfl ?_
 refine Lo (λ(s:Nat×(Σ m,Tw m))=>[(2,.nil),(3,.d (.int .i64 0)),(4,.d (dt s.2.2)),(9,.d (dNs [x,y])),(10,.d (.int .i64 2)),(11,.d (.int .i64 s.1))]) (λ_=>[]) (λs=>(s.1=0/\s.2=⟨0,()⟩)\/(s.1=1/\s.2=⟨x.k,x.t⟩)\/(s.1=2/\R9.CmP G S x y s.2.1 s.2.2)) (λs=>2-s.1) (0,⟨0,()⟩) [] rfl (.inl ⟨rfl,rfl⟩) (λ(i,⟨m,T⟩) hI=>?_)
 simp only at hI
 rcases hI with ⟨rfl,e⟩ | ⟨rfl,e⟩ | ⟨rfl,hP⟩
 . cases e
   refine Yes rfl (show ((0:Nat):Int)<2 by decide) ?_
   refine Ix 0 rfl (u:=dN x) rfl ?_
   refine Ce rfl (begins_ok (T:=[]) (U:=toT x.k x.t) (p:=1) (λi r h=>by simp at h) (TS.pt hxr) (by omega) (by decide)) ?_
   refine By rfl (λh=>?_) λh=>?_
   . obtain⟨kx,tx,ax⟩:=x
     have h:[]=toT kx tx:=by simpa using h
     obtain rfl:kx=0:=by have:=congrArg List.length h;rw[Xaa] at this;exact this.symm
     refine Ar (0+1:Nat) rfl ?_
     exact Bk (1,⟨0,tx⟩) [] rfl (.inr (.inl ⟨rfl,rfl⟩)) (show 1<2 by decide)
   . refine Ce rfl (begins_ok (U:=[]) (q:=1) (TS.pt hxr) (λi r h=>by simp at h) (by omega) (by rw[Xaa];omega)) ?_
     refine Yes rfl (by simp) ?_
     refine Ar (0+1:Nat) rfl ?_
     exact Bk (1,⟨x.k,x.t⟩) [] rfl (.inr (.inl ⟨rfl,rfl⟩)) (show 1<2 by decide)
 . cases e
   have last:∀h:(toT x.k x.t).take (toT y.k y.t).length=toT y.k y.t,R9.CmP G S x y x.k x.t:=λh=>.mk hG hx1 hy1 hx1 R9.rts (R9.beg_rt hG (show Beg y.k y.t x.k x.t from h) hy1 hx1)
   refine Yes rfl (show ((1:Nat):Int)<2 by decide) ?_
   refine Ix 1 rfl (u:=dN y) rfl ?_
   refine Ce rfl (begins_ok (T:=toT x.k x.t) (U:=toT y.k y.t) (TS.pt hxr) (TS.pt hyr) (by omega) (by rw[Xaa];omega)) ?_
   refine By rfl (λh=>?_) λh=>?_
   . refine Ar (1+1:Nat) rfl ?_
     exact Bk (2,⟨x.k,x.t⟩) [] rfl (.inr (.inr ⟨rfl,last h⟩)) (show 0<1 by decide)
   refine Ce rfl (begins_ok (T:=toT y.k y.t) (U:=toT x.k x.t) (TS.pt hyr) (TS.pt hxr) (by omega) (by rw[Xaa];omega)) ?_
   refine By rfl (λh1=>?_) λh1=>?_
   . have hb:Beg x.k x.t y.k y.t:=h1
     refine Ar (1+1:Nat) rfl ?_
     exact Bk (2,⟨y.k,y.t⟩) [] rfl (.inr (.inr ⟨rfl,.mk hG hx1 hy1 hy1 (R9.beg_rt hG hb hx1 hy1) R9.rts⟩)) (show 0<1 by decide)
   . refine Ca rfl (Xdj W hx1 hy1) λv hv=>?_
     obtain⟨m,T,rs,ρ',rfl,g1,g2,g3,g5,g6⟩:=hv
     refine No rfl (by simp) ?_
     refine Ar (1+1:Nat) rfl ?_
     exact Bk (2,⟨m,T⟩) [] rfl (.inr (.inr ⟨rfl,.ext hG hx1 hy1 g1 g2 g5⟩)) (show 0<1 by decide)
 . refine No rfl (show ¬((2:Nat):Int)<2 by decide) ?_
   exact Rt rfl (.tup (.cons (.rf rfl) Xax)) ⟨m,T,rfl,hP⟩
theorem Join_ok(W:Wy G S wR)(hx:NOk G S r p x vx)(hy:NOk G S r p y vy)(hp:p<=4000000000): C0 213 [.d (dNs [x,y])] λv=>∃m T a b,v=.tup (.pr (.d (dNs [⟨m,T,a⟩,⟨m,T,b⟩])) (.d (.int .i64 0)))/\R9.JnR G S p vx vy m T a b:=by
 have hc:=Xxd W hx hy
 have hG:=W.g
 have hR:=Xhi
 have hJ:jW p=8*p+73803682:=rfl
 refine En Tryz.func213 λ_ _ _=>?_
 refine Ca rfl hc λv hv=>?_
 obtain⟨m,T,rfl,hP⟩:=hv
 obtain⟨ρ,hT,hcon⟩:=hP
 have hTr:=W.t hT
 have hm3:=W.le hT
 refine No rfl (by decide) ?_
 refine Nl 6 6 2 rfl ?_
 refine Lo (λ(s:Nat×List (Tow.El m))=>[(2,.nil),(3,.d (.int .i64 0)),(4,.d (dt T)),(6,.gr 6 2 (s.2.map λa=>dN ⟨m,T,a⟩)),(20,.d (dNs [x,y])),(21,.d (.int .i64 2)),(22,.d (.int .i64 s.1))]) (λs=>[(6,.tok (s.2.map λa=>dN ⟨m,T,a⟩).length 2)])
  (R9.JnI G p m ρ vx vy) (λs=>2-s.1) (0,[]) [] rfl ⟨W0x _,rfl,λi hi=>absurd hi (W7y _)⟩ (λ(j,bs) hI=>?_)
 have hI':=hI
 obtain⟨hj,hjl,has⟩:=hI
 simp only at hj hjl has
 refine By rfl (λh=>?_) λh=>?_
 . have h:(j:Int)<2:=h
   obtain⟨z,v,ρz,z1,z2,z3,z4,z6⟩:=R9.both hx hy j (by omega)
   have z5:=W.t z3
   have hzu:([x,y].map dN)[j]?=some (dN z):=by rw[W0t,z1];rfl
   have hzm:=hcon z (W0h z1) ρz z3
   have hz3:=W.le z3
   have hpj:p<=jW p:=R9.jW_ge
   refine Ix j rfl hzu ?_
   refine Ce rfl (begins_ok (T:=toT m T) (U:=toT z.k z.t) (TS.pt hTr) (TS.pt z5) (by omega) (by rw[Xaa];omega)) ?_
   refine By rfl (λh1=>?_) λh1=>?_
   . have hb:Beg z.k z.t m T:=h1
     obtain⟨b,hlb⟩:=Lf.ex hb.le z.a
     have hv1:ev G ρ m b=v:=by rw[hlb.ev hb.le,Xbu (R9.beg_ag hG hb z3 hT),z4]
     refine Ce rfl (Xjn (T:=T) hlb hb.le (by omega)) ?_
     refine Ce rfl (detach_ok (x:=⟨_,T,b⟩) hTr ((hlb.sz z6).mono hpj) (show _<=16 by show m<=16;omega) (by omega) (by omega)) ?_
     refine ApG ((bs++[b]).map λa=>dN ⟨m,T,a⟩) rfl (by simp) (by simp;omega) ?_
     refine Ar (j+1:Nat) rfl ?_
     exact Bk (j+1,bs++[b]) [(6,90),(56,6)] rfl (hI'.step (by omega) z2 hv1 ((hlb.sz z6).mono hpj)) (by show 2-(j+1)<2-j;omega)
   . refine Ca rfl (Xdj W hT z3) λv' hv=>?_
     obtain⟨m',T',rs,ρ',rfl,g1,g2,g3,g5,g6⟩:=hv
     obtain rfl:m'=m:=by have:=congrArg List.length (g6 hzm);rwa[Xaa,Xaa] at this
     obtain rfl:T=T':=(Xkf (g6 hzm)).symm
     have g5:RtV G m' (zM wR 3) z.k rs ρ ρz:=g5.mono (W0c _) (W0c _) (λi hi=>(g3 i hi).symm)
     obtain⟨σ,s1,s2⟩:=g5.sig
     have hbd:=Yff (p:=p) hm3 hz3
     refine No rfl (by simp) ?_
     refine Ce rfl (Xfu hTr (by omega) (by omega) s1 z6 (by omega) (by omega)) ?_
     refine Ce rfl (detach_ok (x:=⟨_,T,ev T σ z.k z.a⟩) hTr (R9.img W hT z3 s1 z6) (show _<=16 by show m'<=16;omega) (by omega) (by omega)) ?_
     refine ApG ((bs++[ev T σ z.k z.a]).map λa=>dN ⟨m',T,a⟩) rfl (by simp) (by simp;omega) ?_
     refine Ar (j+1:Nat) rfl ?_
     exact Bk (j+1,bs++[ev T σ z.k z.a]) [(6,90),(56,6)] rfl (hI'.step (by omega) z2 (by rw[Xoq hT.h s2,z4]) (R9.img W hT z3 s1 z6)) (by show 2-(j+1)<2-j;omega)
 . have h:¬(j:Int)<2:=h
   obtain rfl:j=2:=by omega
   obtain⟨a,b,rfl,hJ⟩:=hI'.done hT
   exact Rt rfl (.tup (.cons (.gr rfl) Xax)) ⟨m,T,a,b,rfl,hJ⟩
def OpF(f:FuncId)(p:Nat)(g:(m:Nat)->Tw m->Tow.El m->Tow.El m->Tow.El m): Prop:=∀(m:Nat) (T:Tw m) (a b:Tow.El m),m<=3->TS wR m T->Sz (jW p) (toL m a)->Sz (jW p) (toL m b)->C0 f [.d (dt T),.d (de a),.d (de b)] (·=.d (de (g m T a b)))
theorem Xgi{f:FuncId}{g:(m:Nat)->Tw m->Tow.El m->Tow.El m->Tow.El m}(hf:OpF f p g)(W:Wy G S wR)(hx:NOk G S r p x vx)(hy:NOk G S r p y vy)(hp:p<=4000000000): C0 143 [.d (dN x),.d (dN y),.d (fnD f)] λv=>∃m T a b,v=.tup (.pr (.d (dN ⟨m,T,g m T a b⟩)) (.d (.int .i64 0)))/\R9.JnR G S p vx vy m T a b:=by
 refine En Tryz.func143 λ_ _ _=>?_
 refine Ca rfl (Join_ok W hx hy hp) λv hv=>?_
 obtain⟨m,T,a,b,rfl,h⟩:=hv
 obtain⟨ρ,h1,h3,h4,h5,h6⟩:=id h
 have h2:=W.t h1
 have hm:=W.le h1
 refine No rfl (by simp) ?_
 refine Ix 0 rfl (u:=dN ⟨m,T,a⟩) rfl ?_
 refine Dw rfl ?_
 refine Ix 0 rfl (u:=dN ⟨m,T,a⟩) rfl ?_
 refine Ix 1 rfl (u:=dN ⟨m,T,b⟩) rfl ?_
 refine Ce rfl (hf m T a b hm h2 h5 h6) ?_
 exact Rt rfl (.tup (.cons (.rf rfl) Xax)) ⟨m,T,a,b,rfl,h⟩
theorem Add_ok(W:Wy G S wR)(hx:NOk G S r p x vx)(hy:NOk G S r p y vy)(hp:p<=4000000000): C0 132 [.d (dN x),.d (dN y)] (R9.OpR G S (oW p) (Tow.add K vx vy)):=by
 have hO:oW p=16*p+147714794:=rfl
 have hJ:jW p=8*p+73803682:=rfl
 have hC:=wC
 have hR:=Xhi
 refine En Tryz.func132 λ_ _ _=>?_
 refine Ca rfl (Xgi (g:=λm T a b=>Tow.add m a b) (λm T a b hm h2 h5 h6=>Xhr h2 h5 h6 (by omega) (by omega) (by omega)) W hx hy hp) λv hv=>?_
 obtain⟨m,T,a,b,rfl,ρ,h1,h3,h4,h5,h6⟩:=hv
 have h2:=W.t h1
 exact Rt rfl (.tup (.cons (.rf rfl) Xax)) ⟨⟨m,T,Tow.add m a b⟩,rfl,⟨ρ,h1,by rw[<-h3,<-h4];exact Xea⟩,h2,by rw[Xas];exact(h5.add h6).mono (by omega)⟩
theorem Mul_ok(W:Wy G S wR)(hx:NOk G S r p x vx)(hy:NOk G S r p y vy)(hp:p<=4000000000): C0 62 [.d (dN x),.d (dN y)] (R9.OpR G S (oW p) (Tow.mul K G vx vy)):=by
 have hO:oW p=16*p+147714794:=rfl
 have hJ:jW p=8*p+73803682:=rfl
 have hC:=wC
 have hR:=Xhi
 refine En Tryz.func62 λ_ _ _=>?_
 refine Ca rfl (Xgi (g:=λm T a b=>Tow.mul m T a b) (λm T a b hm h2 h5 h6=>Xdn h2 h5 h6 (by omega) (by have:=Xi2 (r:=wR) hm;omega) (by omega)) W hx hy hp) λv hv=>?_
 obtain⟨m,T,a,b,rfl,ρ,h1,h3,h4,h5,h6⟩:=hv
 have h2:=W.t h1
 have hm:=W.le h1
 have hc:=Xi2 (r:=wR) hm
 exact Rt rfl (.tup (.cons (.rf rfl) Xax)) ⟨⟨m,T,Tow.mul m T a b⟩,rfl,⟨ρ,h1,by rw[<-h3,<-h4];exact Xce h1.h⟩,h2,(h5.mul h2 h6).mono (by omega)⟩
theorem Sub_ok(W:Wy G S wR)(hx:NOk G S r p x vx)(hy:NOk G S r p y vy)(hp:p<=4000000000): C0 131 [.d (dN x),.d (dN y)] (R9.OpR G S (oW p) (Tow.add K vx (Tow.neg K vy))):=by
 have hO:oW p=16*p+147714794:=rfl
 have hJ:jW p=8*p+73803682:=rfl
 have hC:=wC
 have hR:=Xhi
 refine En Tryz.func131 λ_ _ _=>?_
 refine Ca rfl (Xgi (g:=λm T a b=>Tow.add m a (Tow.neg m b)) (λm T a b hm h2 h5 h6=>Xga h2 h5 h6 (by omega) (by omega) (by omega)) W hx hy hp) λv hv=>?_
 obtain⟨m,T,a,b,rfl,ρ,h1,h3,h4,h5,h6⟩:=hv
 have h2:=W.t h1
 exact Rt rfl (.tup (.cons (.rf rfl) Xax)) ⟨⟨m,T,Tow.add m a (Tow.neg m b)⟩,rfl,⟨ρ,h1,by rw[<-h3,<-h4,<-Xfy];exact Xea⟩,h2,by rw[Xas];exact(h5.add (Xgu h6)).mono (by omega)⟩
theorem Neg_ok(hx:NOk G S r p x vx)(hk:x.k<=16)(hr:r<=4398046511104)(hp:p<=4398046511104): C0 38 [.d (dN x)] (·=.d (dN ⟨x.k,x.t,Tow.neg x.k x.a⟩)):=by
 refine En Tryz.func38 λ_ _ _=>?_
 refine Ce rfl (detach_ok hx.r hx.p hk hr hp) ?_
 refine Ce rfl (Xtn hx.r hx.p hk hp hr) ?_
 exact R0
theorem Sign_ok(hG:red K G)(hx:NOk G S r p x vx)(hk:x.k<=16)(hv:vB r x.k p<=4398046511104)(hr:vB r x.k r<=4398046511104): C0 152 [.d (dN x)] (·=.d (.int .i64 (sgn K G vx))):=by
 obtain⟨ρ,h1,h2⟩:=hx.ex
 have:=Xdd (r:=r) x.k r
 refine En Tryz.func152 λ_ _ _=>?_
 refine Ce rfl (Xgl hx.r hx.p (Xah h1.r) hk hv hr (by omega)) ?_
 rw[hx.sgn (Xah hG)]
 exact R0
theorem FromRat_ok{q:Rat}{p:Nat}(hq:Qs p q)(hp:p<=4398046511104): C0 63 [.d (dq q)] (·=.d (dN ⟨0,(),q⟩)):=by
 refine En Tryz.func63 λ_ _ _=>?_
 refine Ce rfl (Xj1 hq hp) ?_
 exact R1 rfl (.sd (.pd (.nil rfl) (.lit rfl)))
theorem FromInt_ok{z:Int}(h:-9223372036854775808<=z/\z<9223372036854775808): C0 107 [.d (.int .i64 z)] (·=.d (dN ⟨0,(),(z:Rat)⟩)):=by
 refine En Tryz.func107 λ_ _ _=>?_
 refine Ce rfl (Xa3 h) ?_
 refine Ce rfl (FromRat_ok (q:=(z:Rat)) (p:=64) (Qs.int (by unfold Zs;omega) (by omega)) (by decide)) ?_
 exact R0
end
end
end Go.Proofs.YtclgppjdhndgiaaGreatDoor.P9
namespace Go.Tow
open Go Go.Num Go.Proofs.YtclgppjdhndgiaaGreatDoor
variable{K:Nat}{G:Tw K}{S:List (El K)}{N:List Nm}{n m:Nat}{x y z:Nm}{v w:El K}{r p:Nat}
structure Wn (G:Tw K) (S:List (El K)) (N:List Nm):Prop where
 w:Wy G S wR
 h:∀z∈N,∃ρz,TOk G S z.k z.t ρz
def gB(n:Nat): Nat:=n*20000000-107430
structure Gd (G:Tw K) (S:List (El K)) (N:List Nm) (n:Nat) (x:Nm) (v:El K):Prop where
 o:NOk G S wR (gB n) x v
 g:Gs G S N (gB n) v
 n:1<=n
theorem Yj0(h:n<=m): gB n<=gB m:=by unfold gB;omega
theorem Gd.mono(h:Gd G S N n x v)(hm:n<=m): Gd G S N m x v:=⟨h.o.mono (W0c _) (Yj0 hm),h.g.mono (Yj0 hm),W0l h.n hm⟩
theorem Gd.neg(h:Gd G S N n x v): Gd G S N n ⟨x.k,x.t,Tow.neg x.k x.a⟩ (Tow.neg K v):=⟨h.o.neg,h.g.neg,h.n⟩
theorem Gd.add(W:Wn G S N)(hx:Gd G S N n x v)(hy:Gd G S N m y w)(hz:NOk G S r p z (Tow.add K v w)): Gd G S N (n+m) z (Tow.add K v w):=by
 have h:=(hx.g.add hy.g).mono (show _<=gB (n+m) by have:=hx.n;have:=hy.n;unfold gB;omega)
 exact⟨hz.re W.w W.h h,h,W0l hx.n (W5y ..)⟩
theorem Gd.mul(W:Wn G S N)(hx:Gd G S N n x v)(hy:Gd G S N m y w)(hz:NOk G S r p z (Tow.mul K G v w)): Gd G S N (n+m) z (Tow.mul K G v w):=by
 have h:=(hx.g.mul W.w hy.g).mono (show _<=gB (n+m) by rw[wC];have:=hx.n;have:=hy.n;unfold gB;omega)
 exact⟨hz.re W.w W.h h,h,W0l hx.n (W5y ..)⟩
theorem Gd.le(W:Wn G S N)(h:Gd G S N n x v): x.k<=3:=h.o.le (Xah W.w.g) W.w.s
theorem Gd.op(h:Gd G S N n x v)(hn:n<=190): NOk G S wR 3799892570 x v:=h.o.mono (W0c _) (by unfold gB;omega)
theorem Yhn(W:Wn G S N)(h:Gd G S N n x v)(hn:n<=800): vB wR x.k (gB n)<=4398046511104:=W0l (W0l (Xlq (h.le W)) (Xcm (show gB n<=oW 4000000000 by unfold gB oW;omega))) wV
theorem Ymm(W:Wn G S N)(h:Gd G S N n x v): vB wR x.k wR<=4398046511104:=W0l (Xlq (h.le W)) wQ.2.2.2
end Go.Tow
namespace Go.Proofs.YtclgppjdhndgiaaGreatDoor
open Go Go.Vm Go.Num Go.Tow
section
variable{K:Nat}{G:Tw K}{S:List (Tow.El K)}{N:List Nm}{n m:Nat}{x y z:Nm}{v w:Tow.El K}
def OpG(G:Tw K)(S:List (Tow.El K))(N:List Nm)(n:Nat)(w:Tow.El K)(r:AV): Prop:=∃z:Nm,r=.tup (.pr (.d (dN z)) (.d (.int .i64 0)))/\Gd G S N n z w
def OnG(G:Tw K)(S:List (Tow.El K))(N:List Nm)(n:Nat)(w:Tow.El K)(r:AV): Prop:=∃z:Nm,r=.d (dN z)/\Gd G S N n z w
theorem P9.Add_g(W:Wn G S N)(hx:Gd G S N n x v)(hy:Gd G S N m y w)(hn:n<=190)(hm:m<=190): C0 132 [.d (dN x),.d (dN y)] (OpG G S N (n+m) (Tow.add K v w)):=(P9.Add_ok W.w (hx.op hn) (hy.op hm) (by decide)).mono λ_ ⟨z,e,h⟩=>⟨z,e,hx.add W hy h⟩
theorem R9.Add_g(W:Wn G S N)(hx:Gd G S N n x v)(hy:Gd G S N m y w)(hn:n<=190)(hm:m<=190): C0 178 [.d (dN x),.d (dN y)] (OpG G S N (n+m) (Tow.add K v w)):=(R9.Add_ok W.w (hx.op hn) (hy.op hm) (by decide)).mono λ_ ⟨z,e,h⟩=>⟨z,e,hx.add W hy h⟩
theorem P9.Mul_g(W:Wn G S N)(hx:Gd G S N n x v)(hy:Gd G S N m y w)(hn:n<=190)(hm:m<=190): C0 62 [.d (dN x),.d (dN y)] (OpG G S N (n+m) (Tow.mul K G v w)):=(P9.Mul_ok W.w (hx.op hn) (hy.op hm) (by decide)).mono λ_ ⟨z,e,h⟩=>⟨z,e,hx.mul W hy h⟩
theorem R9.Mul_g(W:Wn G S N)(hx:Gd G S N n x v)(hy:Gd G S N m y w)(hn:n<=190)(hm:m<=190): C0 247 [.d (dN x),.d (dN y)] (OpG G S N (n+m) (Tow.mul K G v w)):=(R9.Mul_ok W.w (hx.op hn) (hy.op hm) (by decide)).mono λ_ ⟨z,e,h⟩=>⟨z,e,hx.mul W hy h⟩
theorem R9.Sub_g(W:Wn G S N)(hx:Gd G S N n x v)(hy:Gd G S N m y w)(hn:n<=190)(hm:m<=190): C0 181 [.d (dN x),.d (dN y)] (OpG G S N (n+m) (Tow.add K v (Tow.neg K w))):=(R9.Sub_ok W.w (hx.op hn) (hy.op hm) (by decide)).mono λ_ ⟨z,e,h⟩=>⟨z,e,hx.add W hy.neg h⟩
theorem P9.Neg_g(W:Wn G S N)(hx:Gd G S N n x v)(hn:n<=190): C0 38 [.d (dN x)] (OnG G S N n (Tow.neg K v)):=(P9.Neg_ok hx.o (by have:=hx.le W;omega) (by decide) (by unfold gB;omega)).mono λ_ e=>⟨_,e,hx.neg⟩
theorem R9.Neg_g(W:Wn G S N)(hx:Gd G S N n x v)(hn:n<=190): C0 174 [.d (dN x)] (OnG G S N n (Tow.neg K v)):=(R9.Neg_ok hx.o (by have:=hx.le W;omega) (by unfold gB;omega)).mono λ_ e=>⟨_,e,hx.neg⟩
theorem P9.Sign_g(W:Wn G S N)(hx:Gd G S N n x v)(hn:n<=800): C0 152 [.d (dN x)] (·=.d (.int .i64 (sgn K G v))):=P9.Sign_ok W.w.g hx.o (by have:=hx.le W;omega) (Yhn W hx hn) (Ymm W hx)
theorem R9.Sign_g(W:Wn G S N)(hx:Gd G S N n x v)(hn:n<=800): C0 175 [.d (dN x)] (·=.d (.int .i64 (sgn K G v))):=R9.Sign_ok W.w.g hx.o (by have:=hx.le W;omega) (Yhn W hx hn)
end
end Go.Proofs.YtclgppjdhndgiaaGreatDoor
namespace Go.Tow
open Go
abbrev V2(K:Nat):=El K×El K
section
variable{K:Nat}{G:Tw K}{p q:V2 K}
def Xer(G:Tw K)(p q:V2 K): El K:=add K (mul K G p.1 q.1) (mul K G p.2 q.2)
def Xes(G:Tw K)(p q:V2 K): El K:=Xer G (neg K p.2,p.1) q
def Xyn(G:Tw K)(p q:V2 K): V2 K:=(add K (mul K G p.1 q.1) (neg K (mul K G p.2 q.2)),add K (mul K G p.1 q.2) (mul K G p.2 q.1))
def Xfe(p:V2 K): V2 K:=(p.1,neg K p.2)
def vz(K:Nat): V2 K:=(zero K,zero K)
def vup(G:Tw K)(p:V2 K): Prop:=0<sgn K G p.2\/(sgn K G p.2=0/\0<sgn K G p.1)
instance:Decidable (vup G p):=by unfold vup;infer_instance
def Xhk(G:Tw K)(p:V2 K): Prop:=sgn K G p.2=0/\0<sgn K G p.1
instance:Decidable (Xhk G p):=by unfold Xhk;infer_instance
def Xyo(G:Tw K)(p q:V2 K): Int:=if vup G p↔vup G q then-sgn K G (Xes G p q) else if vup G p then -1 else 1
theorem Ybp: Xer G (Xfe p) q=(Xyn G p q).1:=by
 have L:=Xbc K G
 show add K (mul K G p.1 q.1) (mul K G (neg K p.2) q.2)=add K (mul K G p.1 q.1) (neg K (mul K G p.2 q.2))
 rw[L.nm]
theorem Ybo: Xes G (Xfe p) q=(Xyn G p q).2:=by
 have L:=Xbc K G
 show add K (mul K G (neg K (neg K p.2)) q.1) (mul K G p.1 q.2)=add K (mul K G p.1 q.2) (mul K G p.2 q.1)
 rw[L.nn,L.ac]
theorem Xhj(hG:red K G): p=vz K↔sgn K G p.1=0/\sgn K G p.2=0:=by
 rw[Xbt hG,Xbt hG]
 exact⟨λh=>by rw[h];exact⟨rfl,rfl⟩,λh=>W3a h.1 h.2⟩
theorem vsq(hG:red K G)(h:sgn K G (Xer G p p)=0): p=vz K:=by
 have Sg:=Xav (Xah hG)
 have h1:=Xdx (Sg.tri p.1)
 have h2:=Xdx (Sg.tri p.2)
 rw[Xhj hG]
 have e1:=Sg.sm p.1 p.1
 have e2:=Sg.sm p.2 p.2
 have L:=Xbc K G
 by_cases a1:sgn K G p.1=0
 . refine⟨a1,W1g λa2=>?_⟩
   have:=Sg.sp (mul K G p.2 p.2) (mul K G p.1 p.1) (by rw[e2];exact h2.2.1 a2) (by rw[e1];exact h1.1)
   rw[L.ac] at this
   rw[show add K (mul K G p.1 p.1) (mul K G p.2 p.2)=Xer G p p from rfl,h] at this
   cases this
 . have:=Sg.sp (mul K G p.1 p.1) (mul K G p.2 p.2) (by rw[e1];exact h1.2.1 a1) (by rw[e2];exact h2.1)
   rw[show add K (mul K G p.1 p.1) (mul K G p.2 p.2)=Xer G p p from rfl,h] at this
   cases this
end
end Go.Tow
namespace Go.Proofs.YtclgppjdhndgiaaGreatDoor
open Go Go.Vm Go.Num Go.Tow
section
structure Vn where
 x:Nm
 y:Nm
abbrev dV(v:Vn): D:=.st (.pr (dN v.x) (dN v.y))
abbrev dVs(l:List Vn): D:=.sl 4 (l.map dV)
abbrev n00: Nm:=⟨0,(),((0:Int):Rat)⟩
structure Gv {K:Nat} (G:Tw K) (S:List (Tow.El K)) (N:List Nm) (n:Nat) (v:Vn) (p:V2 K):Prop where
 x:Gd G S N n v.x p.1
 y:Gd G S N n v.y p.2
def IsB(r:AV): Prop:=∃c:Bool,r=.b c
section
variable{K:Nat}{G:Tw K}{S:List (Tow.El K)}{N:List Nm}{n m:Nat}{x y z:Nm}{a b v w:Tow.El K}{u s:Vn}{p q:V2 K}
theorem Gv.mono(h:Gv G S N n u p)(hm:n<=m): Gv G S N m u p:=⟨h.x.mono hm,h.y.mono hm⟩
def VeG(G:Tw K)(S:List (Tow.El K))(N:List Nm)(n:Nat)(p:V2 K)(r:AV): Prop:=∃v:Vn,r=.d (dV v)/\Gv G S N n v p
def VoG(G:Tw K)(S:List (Tow.El K))(N:List Nm)(n:Nat)(p:V2 K)(r:AV): Prop:=∃v:Vn,r=.tup (.pr (.d (dV v)) (.d (.int .i64 0)))/\Gv G S N n v p
theorem R9.Cmp_g(W:Wn G S N)(hx:Gd G S N n x v)(hy:Gd G S N m y w)(hn:n<=190)(hm:m<=190): C0 97 [.d (dN x),.d (dN y)] (·=.tup (.pr (.d (.int .i64 (sgn K G (Tow.add K v (Tow.neg K w))))) (.d (.int .i64 0)))):=by
 refine En Tryz.func97 λ_ _ _=>?_
 refine Ca rfl (R9.Sub_g W hx hy hn hm) λv hv=>?_
 obtain⟨z,rfl,hz⟩:=hv
 refine No rfl (by simp) ?_
 refine Ce rfl (R9.Sign_g W hz (by omega)) ?_
 exact RTt rfl (.cons (.rf rfl) Xax)
theorem R9.Equal_g(W:Wn G S N)(hx:Gd G S N n x v)(hy:Gd G S N m y w)(hn:n<=190)(hm:m<=190): C0 33 [.d (dN x),.d (dN y)] (·=.b (dc (v=w))):=by
 refine En Tryz.func33 λ_ _ _=>?_
 refine Ce rfl (R9.Cmp_g W hx hy hn hm) ?_
 refine Yes rfl (by simp) ?_
 have e:sgn K G (Tow.add K v (Tow.neg K w))=0↔v=w:=by
  rw[Xbt W.w.g]
  exact⟨λh=>(Xbc K G).sub0 h,λh=>(Xbc K G).sb h⟩
 exact R1 rfl (.bp (Xal.trans e))
end
end
section
section
variable{K:Nat}{G:Tw K}{S:List (Tow.El K)}{N:List Nm}{n m:Nat}{x y z:Nm}{a b:Tow.El K}{u s:Vn}{p q:V2 K}
theorem R13.Left_g(W:Wn G S N)(hu:Gv G S N n u p)(hn:n<=190): C0 91 [.d (dV u)] (VeG G S N n (neg K p.2,p.1)):=by
 refine En Tryz.func91 λ_ _ _=>?_
 refine Dw rfl ?_
 refine Ca rfl (R9.Neg_g W hu.y hn) λv hv=>?_
 obtain⟨z,rfl,hz⟩:=hv
 exact Rt rfl (.one (.rf rfl) rfl rfl) ⟨⟨z,u.x⟩,rfl,hz,hu.x⟩
theorem R13.Dot_g(W:Wn G S N)(hu:Gv G S N n u p)(hs:Gv G S N m s q)(hn:n<=190)(hm:m<=190)(h2:n+m<=190): C0 337 [.d (dV u),.d (dV s)] (OpG G S N (n+m+(n+m)) (Xer G p q)):=by
 refine En Tryz.func337 λ_ _ _=>?_
 refine Ca rfl (R9.Mul_g W hu.x hs.x hn hm) λv hv=>?_
 obtain⟨z,rfl,hz⟩:=hv
 refine Ca rfl (R9.Mul_g W hu.y hs.y hn hm) λv hv=>?_
 obtain⟨w,rfl,hw⟩:=hv
 refine No rfl (by simp) ?_
 refine No rfl (by simp) ?_
 refine Ca rfl (R9.Add_g W hz hw h2 h2) λv hv=>?_
 obtain⟨r,rfl,hr⟩:=hv
 exact Rt rfl (.tup (.cons (.rf rfl) Xax)) ⟨r,rfl,hr⟩
theorem R13.Cross_g(W:Wn G S N)(hu:Gv G S N n u p)(hs:Gv G S N m s q)(hn:n<=190)(hm:m<=190)(h2:n+m<=190): C0 392 [.d (dV u),.d (dV s)] (OpG G S N (n+m+(n+m)) (Xes G p q)):=by
 refine En Tryz.func392 λ_ _ _=>?_
 refine Dw rfl ?_
 refine Ca rfl (R13.Left_g W hu hn) λv hv=>?_
 obtain⟨r,rfl,hr⟩:=hv
 refine Ca rfl (R13.Dot_g W hr hs hn hm h2) λv hv=>?_
 obtain⟨z,rfl,hz⟩:=hv
 exact Rt rfl (.tup (.cons (.rf rfl) Xax)) ⟨z,rfl,hz⟩
theorem R13.Zero_g(W:Wn G S N)(hu:Gv G S N n u p)(hn:n<=800): C0 389 [.d (dV u)] (·=.b (dc (p=vz K))):=by
 refine En Tryz.func389 λ_ _ _=>?_
 refine Ce rfl (R9.Sign_g W hu.x hn) ?_
 refine By rfl (λh=>?_) λh=>?_
 . refine Ce rfl (R9.Sign_g W hu.y hn) ?_
   exact R1 rfl (.bp (Xal.trans ⟨λh2=>(Xhj W.w.g).2 ⟨h,h2⟩,λh2=>((Xhj W.w.g).1 h2).2⟩))
 . exact R1 rfl (.bp ⟨nofun,λh2=>absurd ((Xhj W.w.g).1 h2).1 h⟩)
theorem R13.Make_ok{i j:Rat}: C0 30 [.d (dq i),.d (dq j)] (·=.d (dV ⟨⟨0,(),i⟩,⟨0,(),j⟩⟩)):=by
 refine En Tryz.func30 λ_ _ _=>?_
 refine Dw rfl ?_
 refine Ce rfl R9.FromRat_ok ?_
 refine Ce rfl R9.FromRat_ok ?_
 exact R0
theorem R13.Whole_ok{i j:Int}(hi:-9223372036854775808<=i/\i<9223372036854775808)(hj:-9223372036854775808<=j/\j<9223372036854775808): C0 9 [.d (.int .i64 i),.d (.int .i64 j)] (·=.d (dV ⟨⟨0,(),(i:Rat)⟩,⟨0,(),(j:Rat)⟩⟩)):=by
 refine En Tryz.func9 λ_ _ _=>?_
 refine Ce rfl (R2.FromInt_ok hi) ?_
 refine Ce rfl (R2.FromInt_ok hj) ?_
 refine Ce rfl R13.Make_ok ?_
 exact R0
abbrev cal: Ob:=.var (.d (.st (.int .i64 0)))
theorem R15.note_ok: CN0 176 [.ptr 1000001 0,.d (.int .i64 0)] [(1000001,cal)] (λ_=>True):=by
 refine EnW Tryz.func176 λ_ _ _ _=>?_
 refine Yes rfl (by decide) ?_
 exact Rw [] [(1000001,cal)] rfl (.tup (.one (.rf rfl) (λ_ _ e=>by cases e) (λ_ _ e=>by cases e))) ⟨rfl,trivial⟩
theorem R15.num_ok{x:Nm}: CN0 153 [.ptr 1000001 0,.d (dN x),.d (.int .i64 0)] [(1000001,cal)] (·=.d (dN x)):=by
 refine EnW Tryz.func153 λ_ _ _ _=>?_
 refine Cn [] rfl R15.note_ok λv hv=>?_
 refine No rfl (by decide) ?_
 exact Rw [] [(1000001,cal)] rfl (.one (.rf rfl) rfl rfl) ⟨rfl,rfl⟩
theorem R15.Cross_g(W:Wn G S N)(hu:Gv G S N n u p)(hs:Gv G S N m s q)(hn:n<=190)(hm:m<=190)(h2:n+m<=190): CN0 342 [.ptr 1000001 0,.d (dV u),.d (dV s)] [(1000001,cal)] (OnG G S N (n+m+(n+m)) (Xes G p q)):=by
 refine EnW Tryz.func342 λ_ _ _ _=>?_
 refine Ca rfl (R13.Cross_g W hu hs hn hm h2) λv hv=>?_
 obtain⟨z,rfl,hz⟩:=hv
 refine Cn [] rfl R15.num_ok λv hv=>?_
 subst hv
 exact Rw [] [(1000001,cal)] rfl (.one (.rf rfl) rfl rfl) ⟨rfl,z,rfl,hz⟩
end
end
section
abbrev dT(v:Vn)(f:Int): D:=.st (.pr (dV v) (.int .i64 f))
abbrev dT0: D:=.st (.pr (.st (.pr R9.n0 R9.n0)) (.int .i64 0))
theorem Xsj{g:Hp}{K:Hpl}: Fit g K (.st (.pr (.st (.pr (.st (.pr .nil .nil)) (.st (.pr .nil .nil)))) (.d (.int .i64 0)))) (.d dT0):=.sd (.pd (.sd (.pd R9.fit0 R9.fit0)) (.rf rfl))
def lim(f:Int): Prop:=-1000000<=f/\f<=1000000
instance {f:Int}:Decidable (lim f):=by unfold lim;infer_instance
def few(f:Int): Prop:=-1000000000<=f/\f<=1000000000
def Ylt{K:Nat}(G:Tw K)(p q:V2 K)(f g:Int): Int:=if f<g then -1 else if f>g then 1 else Xyo G p q
section
variable{K:Nat}{G:Tw K}{S:List (Tow.El K)}{N:List Nm}{n m:Nat}{x y z:Nm}{a b:Tow.El K}{u s:Vn}{p q:V2 K}{f g:Int}
def TuG(G:Tw K)(S:List (Tow.El K))(N:List Nm)(n:Nat)(p:V2 K)(f:Int)(r:AV): Prop:=(lim f/\∃v,r=.tup (.pr (.d (dT v f)) (.d (.int .i64 0)))/\Gv G S N n v p)\/(¬lim f/\r=.tup (.pr (.d dT0) (.d (.int .i64 3))))
theorem R19.half_g(W:Wn G S N)(hu:Gv G S N n u p)(hn:n<=800): C0 341 [.d (dV u)] (·=.d (.int .i64 (if vup G p then 0 else 1))):=by
 refine En Tryz.func341 λ_ _ _=>?_
 refine Ce rfl (R9.Sign_g W hu.y hn) ?_
 refine By rfl (λh=>?_) λh=>?_
 . rw[if_pos (show vup G p from .inl h)];exact R0
 . refine By rfl (λh2=>?_) λh2=>?_
   . refine Ce rfl (R9.Sign_g W hu.x hn) ?_
     refine By rfl (λh3=>?_) λh3=>?_
     . rw[if_pos (show vup G p from .inr ⟨h2,h3⟩)];exact R0
     . rw[if_neg (show ¬vup G p from λe=>e.elim h λe=>h3 e.2)];exact R0
   . rw[if_neg (show ¬vup G p from λe=>e.elim h λe=>h2 e.1)];exact R0
theorem R19.order_g(W:Wn G S N)(hu:Gv G S N n u p)(hs:Gv G S N m s q)(hn:n<=190)(hm:m<=190)(h2:n+m<=190): CN0 250 [.ptr 1000001 0,.d (dV u),.d (dV s)] [(1000001,cal)] (·=.d (.int .i64 (Xyo G p q))):=by
 refine EnW Tryz.func250 λ_ _ _ _=>?_
 refine Dw rfl ?_
 refine Ce rfl (R19.half_g W hu (by omega)) ?_
 refine Ce rfl (R19.half_g W hs (by omega)) ?_
 refine By rfl (λh=>?_) λh=>?_
 . refine Dw rfl ?_
   refine Ce rfl (R19.half_g W hu (by omega)) ?_
   refine Ce rfl (R19.half_g W hs (by omega)) ?_
   refine Ar (Xyo G p q) rfl ?_ (by
    unfold Xyo
    by_cases h1:vup G p<;>by_cases h2:vup G q<;>simp[h1,h2] at h |-<;>rfl)
   exact Rw [] [(1000001,cal)] rfl (.one (.rf rfl) rfl rfl) ⟨rfl,rfl⟩
 . refine Cn [] rfl (R15.Cross_g W hu hs hn hm h2) λv hv=>?_
   obtain⟨z,rfl,hz⟩:=hv
   refine Ce rfl (R9.Sign_g W hz (by omega)) ?_
   have hi:vup G p↔vup G q:=by
    by_cases h1:vup G p<;>by_cases h2:vup G q<;>simp[h1,h2] at h |-
   have ht:=Xc4 G (Xes G p q)
   refine Ne (Xyo G p q) rfl ?_ (by
    unfold Xyo
    rw[if_pos hi]
    exact wr (W7z _) (by simp only[inK];omega))
   exact Rw [] [(1000001,cal)] rfl (.one (.rf rfl) rfl rfl) ⟨rfl,rfl⟩
theorem R19.result_g(hu:Gv G S N n u p): CN0 390 [.ptr 1000001 0,.d (dT u f)] [(1000001,cal)] (TuG G S N n p f):=by
 refine EnW Tryz.func390 λ_ _ _ _=>?_
 refine No rfl (by decide) ?_
 refine By rfl (λh=>?_) λh=>?_
 . exact Rw [] [(1000001,cal)] rfl (.tup (.cons Xsj Xax)) ⟨rfl,.inr ⟨λh2=>by unfold lim at h2;omega,rfl⟩⟩
 . refine By rfl (λh2=>?_) λh2=>?_
   . exact Rw [] [(1000001,cal)] rfl (.tup (.cons Xsj Xax)) ⟨rfl,.inr ⟨λh2=>by unfold lim at h2;omega,rfl⟩⟩
   . exact Rw [] [(1000001,cal)] rfl (.tup (.cons (.rf rfl) Xax)) ⟨rfl,.inl ⟨by unfold lim;omega,u,rfl,hu⟩⟩
theorem R19.Cmp_g(W:Wn G S N)(hu:Gv G S N n u p)(hs:Gv G S N m s q)(h2:n+m<=190): C0 160 [.d (dT u f),.d (dT s g)] (·=.tup (.pr (.d (.int .i64 (Ylt G p q f g))) (.d (.int .i64 0)))):=by
 refine En Tryz.func160 λ_ _ _=>?_
 unfold Ylt
 refine By rfl (λh=>?_) λh=>?_
 . rw[if_pos h];exact RTt rfl (.cons (.rf rfl) Xax)
 rw[if_neg h]
 refine By rfl (λh=>?_) λh=>?_
 . rw[if_pos h];exact RTt rfl (.cons (.rf rfl) Xax)
 rw[if_neg h]
 refine Cn [(1000001,19)] rfl (R19.order_g W hu hs (by omega) (by omega) h2) λv hv=>?_
 subst hv
 refine No rfl (by decide) ?_
 exact RTt rfl (.cons (.rf rfl) Xax)
end
end
end Go.Proofs.YtclgppjdhndgiaaGreatDoor

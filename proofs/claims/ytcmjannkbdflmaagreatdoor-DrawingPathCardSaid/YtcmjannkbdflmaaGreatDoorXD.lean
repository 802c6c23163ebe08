/- part 4 -/
import Derived.Test.YtcmjannkbdflmaaGreatDoorXC
import Derived.Test.YtcmjannkbdflmaaGreatDoorCards
import Derived.Test.YtcmjannkbdflmaaGreatDoorTie
import Derived.Deep.DeepHandedRow
import Derived.Lib.LaidTab
import Derived.MakeChecks
import Derived.Stop.LaidErr
import Derived.Lib.AppendZeros
set_option linter.unusedVariables false
set_option linter.unusedSimpArgs false
set_option maxRecDepth 100000
namespace Go.Vm
open Go
def GW.pub(W:GW)(b m:Nat): GW:=⟨W.w,λh i=>(h=b->m<=i)/\W.A h i,λh i k=>W.hA h i k.2⟩
theorem Xvv(W:GW)(b m:Nat): LeF W (W.pub b m):=λ_ _ _ k=>⟨k.1,λh=>k.2 h.2⟩
theorem Stp.pub{N:Nat->Prop}{W:GW}{θ:Loc}{g:Hp}(h:Obs W θ N g){o b sz:Nat}{xs:List D}(I:g o=some (.arr sz xs))(hb:(θ o).1=some b):
 Stp N W (W.pub b (xs.length*sz)) θ θ g (upd g o (.tok xs.length sz)) where
 os:=_root_.rfl
 out:=_root_.rfl
 tape:=_root_.rfl
 size:=W0c _
 same:=λ_ _ _=>_root_.rfl
 A:=λb' _ hn i=>⟨λk=>k.2,λk=>⟨λe=>by subst e;exact absurd (h.new o _ _ I _root_.rfl hb) hn,k⟩⟩
 le:=Xvv W b _
 th:=λ_ _ _=>_root_.rfl
 hi:=λ_ _=>_root_.rfl
 obs:={
  r:=λM z Q=>by
   rcases Xae Q with ⟨B,j⟩ | ⟨B,j⟩
   . subst B;subst j
     obtain⟨b',cs,T',r1,r2,r3,r4,r5,r6,r7⟩:=h.r _ _ I
     rw[hb] at r1;injection r1 with r1;subst r1
     exact⟨r5,r4,.inr ⟨b,cs,T',hb,r2,r3,λi hi=>⟨λ_=>hi,r7 i⟩⟩⟩
   . exact(h.r M z j).keep (Xvv W b _) _root_.rfl (λ_ _=>_root_.rfl) λV b' Y=>⟨_root_.rfl,λi hA=>⟨λe=>by
      subst e
      exact absurd (h.dis M o z _ _ j I V _root_.rfl Y hb) B,hA⟩⟩
  new:=λM z O Q V T=>by
   rcases Xae Q with ⟨B,j⟩ | ⟨B,j⟩
   . subst B;exact h.new _ _ O I _root_.rfl T
   . exact h.new M z O j V T
  dis:=λo1 o2 y1 y2 b h1 h2 l1 l2 Z O=>by
   rcases Xae h1 with ⟨B,f1⟩ | ⟨B,f1⟩<;>rcases Xae h2 with ⟨j,f2⟩ | ⟨j,f2⟩
   . rw[B,j]
   . subst B;exact h.dis _ _ _ _ b I f2 _root_.rfl l2 Z O
   . subst j;exact h.dis _ _ _ _ b f1 I l1 _root_.rfl Z O
   . exact h.dis o1 o2 y1 y2 b f1 f2 l1 l2 Z O
  ids:=λM z i Q U=>by
   have:∃w,g i=some w:=by
    rcases Xae Q with ⟨B,j⟩ | ⟨B,j⟩
    . subst j;exact U.elim
    . exact h.ids M z i j U
   obtain⟨w,hw⟩:=this
   by_cases e:i=o
   . subst e;exact⟨_,Xai _ _ _⟩
   . exact⟨w,by rw[Xam e];exact hw⟩ }
 dom:=λi y hy=>by
  by_cases e:i=o
  . subst e;exact⟨_,Xai _ _ _⟩
  . exact⟨y,by rw[Xam e];exact hy⟩
section
variable{c:Cx}{s:St}
noncomputable def Yp1(tb:Nat->Option TI)(n t:Nat)(s:St): Option (List Kt×Env×Hpl×Nat×Nat×Nat×List D):=match runN tb n 1000 s with
 | .j _ K E H=>match look E t with
  | some (.own o sz 0 n)=>match look H o with
   | some (.arr h xs)=>match Nat.beq sz h with
    | true=>some (K,E,H,o,sz,n,xs)
    | false=>none
   | _=>none
  | _=>none
 | _=>none
theorem Og(t:Nat){K:List Kt}{E:Env}{H:Hpl}{o sz n:Nat}{xs:List D}(h:Yp1 c.tb c.n t s=some (K,E,H,o,sz,n,xs))(hn:n=xs.length)(k:StP c (.j [] K ((t,.gr o sz xs)::E) ((o,.tok xs.length sz)::H))): StP c s:=by
 unfold Yp1 at h
 split at h<;>try cases h
 rename_i hr
 split at h<;>try cases h
 rename_i he
 split at h<;>try cases h
 rename_i Z
 split at h<;>cases h
 rename_i T
 have T:=W0g T
 subst T;subst hn
 refine go 1000 hr ?_
 rintro a w ⟨s0,W,θ,hw,hs,U,rfl⟩
 obtain⟨b,V,T',r1,r2,r3,r4,r5,r6,r7⟩:=hs.obs.r _ _ Z
 have st:=Stp.pub hs.obs Z r1
 have B:=hs.step0 st
 refine k a w ⟨_,W.pub b (xs.length*sz),θ,hw,?_,U,rfl⟩
 rw[show sem ((t,AV.gr o sz xs)::E) ((o,Ob.tok xs.length sz)::H)=(upd (look E) t (.gr o sz xs),upd (look H) o (.tok xs.length sz)) by rw[Xa6,Xa6]]
 refine⟨B.fm,⟨B.rel.defers,B.rel.size,λq v hq=>?_⟩,B.obs,λq v i hq hi=>?_⟩
 . rcases Xae hq with ⟨O,A⟩ | ⟨O,A⟩
   . subst O;subst A
     have Y:=hs.rel.has q _ he
     obtain⟨b1,p,Q,v2,v3,e,v5⟩:=Xmg Y
     rw[r1] at Q;injection Q with Q;subst Q
     rw[e]
     rw[W7c]
     refine Ygq rfl rfl (.inr (by rw[v5 (.inl rfl),W4q,r1];rfl)) r5 r4 (.inr ⟨b,r1,?_⟩)
     have M:∀q u,(V.take (xs.length*sz))[q]?=some u->q<xs.length*sz/\V[q]?=some u:=λq u I=>by
      rw[W1l] at I
      split at I
      . exact⟨by assumption,I⟩
      . cases I
     refine(AtL.mono (Xvv W b _) (sz:=sz) (xs:=xs) (cs:=V.take (xs.length*sz)) (AtL.ext r6 λq v hq Y=>by rw[W1l,if_pos hq];exact Y)).row λq u hq I=>?_
     rw[W1j]
     exact⟨show W.w.cell? _=_ by rw[Xbf r2];exact(M q u I).2,λhA=>by have:=hA.1 rfl;omega⟩
   . exact B.rel.has q v A
 . rcases Xae hq with ⟨O,A⟩ | ⟨O,A⟩
   . subst A
     have hi:i=o:=hi
     subst hi
     exact⟨_,Xai _ _ _⟩
   . exact B.ids q v i A hi
end
end Go.Vm
namespace Go.Proofs.YtcmjannkbdflmaaGreatDoor.R6
open Go Go.Vm Go.Num Go.Tow Go.Proofs.YtcmjannkbdflmaaGreatDoor
theorem Yh8{x y:Rat}{p q:Nat}(i:Qs p x)(j:Qs q y)(h:p+q+1<=8796093022208): C0 324 [.d (dts []),.d (dqs [x]),.d (dqs [y])] (·=.lit 4 [dq (x*y)]):=by
 refine En Tryz.func324 λ_ _ _=>?_
 exact Yes rfl rfl<|Dw rfl<|Ix 0 rfl (u:=dq x) rfl<|Ix 0 rfl (u:=dq y) rfl<|Ce rfl (R2.Mul_ok i j h)<|R0
theorem Ycc{k:Nat}(i:∀ {r s s':Nat} {t:Tw k} {a b:Tow.El k},TS r k t->Sz s (toL k a)->Sz s' (toL k b)->k<=16->s+s'+cB r k<=4398046511104->C0 324 [.d (dt t),.d (de a),.d (de b)] (·=.d (de (mul k t a b))))
 (ihk:∀ {r s s':Nat} {t:Tw k} {a b:Tow.El k},TS r k t->Sz s (toL k a)->Sz s' (toL k b)->k<=16->s+s'+cB r k<=4398046511104->C0 324 [.d (dt t),.d (de a),.d (de b)] (·=.lit 4 ((toL k (mul k t a b)).map dq))\/CG0 324 [.d (dt t),.d (de a),.d (de b)] 4 ((toL k (mul k t a b)).map dq))
 {r s s':Nat} {t:Tw (k+1)} {a b:Tow.El (k+1)} (j:TS r (k+1) t) (ha:Sz s (toL (k+1) a)) (hb:Sz s' (toL (k+1) b)) (hk:k+1<=16) (hs:s+s'+cB r (k+1)<=4398046511104):CG0 324 [.d (dt t),.d (de a),.d (de b)] 4 ((toL (k+1) (mul (k+1) t a b)).map dq):=by
 have hp:=p16 hk
 have hp1:2^(k+1)=2*2^k:=by rw[W0q];omega
 have h0:=W0r k
 have hcB:cB r (k+1)=2*cB r k+r+1:=rfl
 have B:Sz s (toL k a.1):=Sz.left ha
 have o:Sz s (toL k a.2):=Sz.right ha
 have I:Sz s' (toL k b.1):=Sz.left hb
 have A:Sz s' (toL k b.2):=Sz.right hb
 have h:=Xab k
 have L:=Xba k t.1
 have m1:a.2=zero k->toL (k+1) (mul (k+1) t a b)=toL k (mul k t.1 a.1 b.1)++toL k (mul k t.1 a.1 b.2):=λe=>by
  show toL k (Tow.add k _ (mul k t.1 (mul k t.1 a.2 b.2) t.2))++toL k (Tow.add k _ (mul k t.1 a.2 b.1))=_
  rw[e,L.zm,L.zm,L.zm,L.az,L.az]
 have m2:b.2=zero k->toL (k+1) (mul (k+1) t a b)=toL k (mul k t.1 a.1 b.1)++toL k (mul k t.1 a.2 b.1):=λe=>by
  show toL k (Tow.add k _ (mul k t.1 (mul k t.1 a.2 b.2) t.2))++toL k (Tow.add k (mul k t.1 a.1 b.2) _)=_
  rw[e,L.mz,L.zm,L.mz,L.az,L.za]
 have V:a.2=zero k->b.2=zero k->toL (k+1) (mul (k+1) t a b)=toL k (mul k t.1 a.1 b.1)++toL k (zero k):=λe e2=>by rw[m1 e,e2,L.mz]
 have la:((toL k a.1++toL k a.2).map dq).length=2*2^k:=by rw[lq,W0d,h,h];omega
 have lb:((toL k b.1++toL k b.2).map dq).length=2*2^k:=by rw[lq,W0d,h,h];omega
 have Y:((toL k a.1++toL k a.2).map dq).take (2^k)=(toL k a.1).map dq:=by rw[<-W3d,<-h a.1,W7k]
 have Q:((toL k a.1++toL k a.2).map dq).drop (2^k)=(toL k a.2).map dq:=by rw[<-List.map_drop,<-h a.1,W8j]
 have tb:((toL k b.1++toL k b.2).map dq).take (2^k)=(toL k b.1).map dq:=by rw[<-W3d,<-h b.1,W7k]
 have T:((toL k b.1++toL k b.2).map dq).drop (2^k)=(toL k b.2).map dq:=by rw[<-List.map_drop,<-h b.1,W8j]
 have lt2:((toT k t.1++[toL k t.2]).map dqs).length=k+1:=by rw[lt',W0d,Xaa];rfl
 have tt:((toT k t.1++[toL k t.2]).map dqs).take k=(toT k t.1).map dqs:=by rw[<-W3d,W7a (Xaa k t.1)]
 have tu:((toT k t.1++[toL k t.2]).map dqs)[k]?=some (de t.2):=by rw[W0w,W0o (by rw[Xaa];exact W0c _),Xaa,W2v];rfl
 refine EnW Tryz.func324 λ_ _ _ _=>?_
 refine No rfl (by show ¬((((toT k t.1++[toL k t.2]).map dqs).length:Nat):Int)=0;omega)<|Ar (2^k:Nat) rfl ?_ (Ynb la (by omega))
 refine Dw rfl<|Ar k rfl ?_ (wr (by show ((((toT k t.1++[toL k t.2]).map dqs).length:Nat):Int)-1=k;omega) (by simp only[inK];omega))
 refine Tk k ((toT k t.1).map dqs) rfl rfl (by show k<=((toT k t.1++[toL k t.2]).map dqs).length;omega) tt ?_
 refine Ar k rfl ?_ (wr (by show ((((toT k t.1++[toL k t.2]).map dqs).length:Nat):Int)-1=k;omega) (by simp only[inK];omega))
 refine Ix k rfl tu<|Dw rfl<|Dp (2^k) ((toL k a.2).map dq) rfl rfl (by show _<=((toL k a.1++toL k a.2).map dq).length;omega) Q ?_
 refine Ce rfl (Zero_ok (l:=toL k a.2) (by rw[h];omega))<|Dp (2^k) ((toL k b.2).map dq) rfl rfl (by show _<=((toL k b.1++toL k b.2).map dq).length;omega) T ?_
 refine Ce rfl (Zero_ok (l:=toL k b.2) (by rw[h];omega))<|Dw rfl<|Tk (2^k) ((toL k a.1).map dq) rfl rfl (by show _<=((toL k a.1++toL k a.2).map dq).length;omega) Y ?_
 refine Tk (2^k) ((toL k b.1).map dq) rfl rfl (by show _<=((toL k b.1++toL k b.2).map dq).length;omega) tb ?_
 rcases ihk j.1 B I (by omega) (by omega) with hc | hc
 . refine Ce rfl hc<|By rfl (λO=>?_) λO=>?_
   . have Z:=(Xar k a.2).2 O
     refine By rfl (λM=>?_) λM=>?_
     . have U:=(Xar k b.2).2 M
       refine Ce rfl (R2.FromInt_ok (z:=0) (by decide))<|Ce rfl (FromRat_ok (t:=toT k t.1) (x:=0) (by rw[Xaa];omega))<|ApL ((toL (k+1) (mul (k+1) t a b)).map dq) rfl (by rw[V Z U,<-W1k,Xaa];congr 2;rw[Xbt,<-W3p,show 2^k-1+1=2^k by omega]) (by simp only[lq,W0j,W1w,h];omega) (by rw[lq,Xab];omega) ?_
       refine Og 6 rfl rfl ?_
       exact Rw [(62,1000000)] [(1000000,.tok ((toL (k+1) (mul (k+1) t a b)).map dq).length 4)] rfl (.one (.rf rfl) rfl rfl) ⟨_,rfl,rfl,rfl⟩
     . refine Yes rfl O<|Dw rfl<|Tk (2^k) ((toL k a.1).map dq) rfl rfl (by show _<=((toL k a.1++toL k a.2).map dq).length;omega) Y ?_
       refine Dp (2^k) ((toL k b.2).map dq) rfl rfl (by show _<=((toL k b.1++toL k b.2).map dq).length;omega) T ?_
       refine Ce rfl (i j.1 B A (by omega) (by omega))<|ApL ((toL (k+1) (mul (k+1) t a b)).map dq) rfl (by rw[m1 Z,<-W1k]) (by simp only[lq,W0j,W1w,h];omega) (by rw[lq,Xab];omega) ?_
       refine Og 6 rfl rfl ?_
       exact Rw [(73,1000000)] [(1000000,.tok ((toL (k+1) (mul (k+1) t a b)).map dq).length 4)] rfl (.one (.rf rfl) rfl rfl) ⟨_,rfl,rfl,rfl⟩
   . refine No rfl O<|By rfl (λM=>?_) λM=>?_
     . have U:=(Xar k b.2).2 M
       refine Dw rfl<|Dp (2^k) ((toL k a.2).map dq) rfl rfl (by show _<=((toL k a.1++toL k a.2).map dq).length;omega) Q ?_
       refine Tk (2^k) ((toL k b.1).map dq) rfl rfl (by show _<=((toL k b.1++toL k b.2).map dq).length;omega) tb ?_
       refine Ce rfl (i j.1 o I (by omega) (by omega))<|ApL ((toL (k+1) (mul (k+1) t a b)).map dq) rfl (by rw[m2 U,<-W1k]) (by simp only[lq,W0j,W1w,h];omega) (by rw[lq,Xab];omega) ?_
       refine Og 6 rfl rfl ?_
       exact Rw [(84,1000000)] [(1000000,.tok ((toL (k+1) (mul (k+1) t a b)).map dq).length 4)] rfl (.one (.rf rfl) rfl rfl) ⟨_,rfl,rfl,rfl⟩
     . refine Dw rfl<|Dp (2^k) ((toL k a.2).map dq) rfl rfl (by show _<=((toL k a.1++toL k a.2).map dq).length;omega) Q ?_
       refine Dp (2^k) ((toL k b.2).map dq) rfl rfl (by show _<=((toL k b.1++toL k b.2).map dq).length;omega) T ?_
       refine Ce rfl (i j.1 o A (by omega) (by omega))<|Ce rfl (i j.1 (o.mul j.1 A) j.2 (by omega) (by omega))<|Cg rfl (Add_ok (by rw[h,h]) (by rw[h];omega) (B.mul j.1 I).ps ((o.mul j.1 A).mul j.1 j.2).ps (by omega)) ?_
       refine Dw rfl<|Tk (2^k) ((toL k a.1).map dq) rfl rfl (by show _<=((toL k a.1++toL k a.2).map dq).length;omega) Y ?_
       refine Dp (2^k) ((toL k b.2).map dq) rfl rfl (by show _<=((toL k b.1++toL k b.2).map dq).length;omega) T ?_
       refine Ce rfl (i j.1 B A (by omega) (by omega))<|Dp (2^k) ((toL k a.2).map dq) rfl rfl (by show _<=((toL k a.1++toL k a.2).map dq).length;omega) Q ?_
       refine Tk (2^k) ((toL k b.1).map dq) rfl rfl (by show _<=((toL k b.1++toL k b.2).map dq).length;omega) tb ?_
       refine Ce rfl (i j.1 o I (by omega) (by omega))<|Ce rfl (Add_el (by omega) (B.mul j.1 A).ps (o.mul j.1 I).ps (by omega))<|ApG ((toL (k+1) (mul (k+1) t a b)).map dq) rfl (by rw[<-W1k,<-Xas];rfl) (by rw[lq,Xab];omega) ?_
       exact Rw [(118,1000000)] [(1000000,.tok ((toL (k+1) (mul (k+1) t a b)).map dq).length 4)] rfl (.one (.rf rfl) rfl rfl) ⟨_,rfl,rfl,rfl⟩
 . refine Cg rfl hc ?_
   refine By rfl (λO=>?_) λO=>?_
   . have Z:=(Xar k a.2).2 O
     refine By rfl (λM=>?_) λM=>?_
     . have U:=(Xar k b.2).2 M
       refine Ce rfl (R2.FromInt_ok (z:=0) (by decide))<|Ce rfl (FromRat_ok (t:=toT k t.1) (x:=0) (by rw[Xaa];omega))<|ApG ((toL (k+1) (mul (k+1) t a b)).map dq) rfl (by rw[V Z U,<-W1k,Xaa];congr 2;rw[Xbt,<-W3p,show 2^k-1+1=2^k by omega]) (by rw[lq,Xab];omega) ?_
       exact Rw [(62,1000000)] [(1000000,.tok ((toL (k+1) (mul (k+1) t a b)).map dq).length 4)] rfl (.one (.rf rfl) rfl rfl) ⟨_,rfl,rfl,rfl⟩
     . refine Yes rfl O<|Dw rfl<|Tk (2^k) ((toL k a.1).map dq) rfl rfl (by show _<=((toL k a.1++toL k a.2).map dq).length;omega) Y ?_
       refine Dp (2^k) ((toL k b.2).map dq) rfl rfl (by show _<=((toL k b.1++toL k b.2).map dq).length;omega) T ?_
       refine Ce rfl (i j.1 B A (by omega) (by omega))<|ApG ((toL (k+1) (mul (k+1) t a b)).map dq) rfl (by rw[m1 Z,<-W1k]) (by rw[lq,Xab];omega) ?_
       exact Rw [(73,1000000)] [(1000000,.tok ((toL (k+1) (mul (k+1) t a b)).map dq).length 4)] rfl (.one (.rf rfl) rfl rfl) ⟨_,rfl,rfl,rfl⟩
   . refine No rfl O<|By rfl (λM=>?_) λM=>?_
     . have U:=(Xar k b.2).2 M
       refine Dw rfl<|Dp (2^k) ((toL k a.2).map dq) rfl rfl (by show _<=((toL k a.1++toL k a.2).map dq).length;omega) Q ?_
       refine Tk (2^k) ((toL k b.1).map dq) rfl rfl (by show _<=((toL k b.1++toL k b.2).map dq).length;omega) tb ?_
       refine Ce rfl (i j.1 o I (by omega) (by omega))<|ApG ((toL (k+1) (mul (k+1) t a b)).map dq) rfl (by rw[m2 U,<-W1k]) (by rw[lq,Xab];omega) ?_
       exact Rw [(84,1000000)] [(1000000,.tok ((toL (k+1) (mul (k+1) t a b)).map dq).length 4)] rfl (.one (.rf rfl) rfl rfl) ⟨_,rfl,rfl,rfl⟩
     . refine Dw rfl<|Dp (2^k) ((toL k a.2).map dq) rfl rfl (by show _<=((toL k a.1++toL k a.2).map dq).length;omega) Q ?_
       refine Dp (2^k) ((toL k b.2).map dq) rfl rfl (by show _<=((toL k b.1++toL k b.2).map dq).length;omega) T ?_
       refine Ce rfl (i j.1 o A (by omega) (by omega))<|Ce rfl (i j.1 (o.mul j.1 A) j.2 (by omega) (by omega))<|Cg rfl (Add_ok (by rw[h,h]) (by rw[h];omega) (B.mul j.1 I).ps ((o.mul j.1 A).mul j.1 j.2).ps (by omega)) ?_
       refine Dw rfl<|Tk (2^k) ((toL k a.1).map dq) rfl rfl (by show _<=((toL k a.1++toL k a.2).map dq).length;omega) Y ?_
       refine Dp (2^k) ((toL k b.2).map dq) rfl rfl (by show _<=((toL k b.1++toL k b.2).map dq).length;omega) T ?_
       refine Ce rfl (i j.1 B A (by omega) (by omega))<|Dp (2^k) ((toL k a.2).map dq) rfl rfl (by show _<=((toL k a.1++toL k a.2).map dq).length;omega) Q ?_
       refine Tk (2^k) ((toL k b.1).map dq) rfl rfl (by show _<=((toL k b.1++toL k b.2).map dq).length;omega) tb ?_
       refine Ce rfl (i j.1 o I (by omega) (by omega))<|Ce rfl (Add_el (by omega) (B.mul j.1 A).ps (o.mul j.1 I).ps (by omega))<|ApG ((toL (k+1) (mul (k+1) t a b)).map dq) rfl (by rw[<-W1k,<-Xas];rfl) (by rw[lq,Xab];omega) ?_
       exact Rw [(118,1000000)] [(1000000,.tok ((toL (k+1) (mul (k+1) t a b)).map dq).length 4)] rfl (.one (.rf rfl) rfl rfl) ⟨_,rfl,rfl,rfl⟩
theorem Xs9: ∀ {k:Nat} {r s s':Nat} {t:Tw k} {a b:Tow.El k},TS r k t->Sz s (toL k a)->Sz s' (toL k b)->k<=16->s+s'+cB r k<=4398046511104->C0 324 [.d (dt t),.d (de a),.d (de b)] (·=.lit 4 ((toL k (mul k t a b)).map dq))\/CG0 324 [.d (dt t),.d (de a),.d (de b)] 4 ((toL k (mul k t a b)).map dq):=by
 intro k
 induction k with
 | zero=>intro r s s' t a b i ha hb j hs;exact .inl (Yh8 (ha.qs (W0f.2 rfl)) (hb.qs (W0f.2 rfl)) (by omega))
 | succ k o=>intro r s s' t a b i ha hb j hs;exact .inr (Ycc (λi ha hb j hs=>(o i ha hb j hs).elim C.lit (λh=>CG.data h)) o i ha hb j hs)
theorem Mul_el{k r s s':Nat}{t:Tw k}{a b:Tow.El k}(i:TS r k t)(ha:Sz s (toL k a))(hb:Sz s' (toL k b))(j:k<=16)(hs:s+s'+cB r k<=4398046511104): C0 324 [.d (dt t),.d (de a),.d (de b)] (·=.d (de (mul k t a b))):=(Xs9 i ha hb j hs).elim C.lit (λh=>CG.data h)
end Go.Proofs.YtcmjannkbdflmaaGreatDoor.R6
namespace Go.Tow
section
inductive Pe where
 | v (i:Nat)
 | z
 | o
 | add (a b:Pe)
 | mul (a b:Pe)
 | neg (a:Pe)
abbrev Xp8:=List (Bool×List Nat)
def ltM: List Nat->List Nat->Bool
 | [],[]=>false
 | [],_::_=>true
 | _::_,[]=>false
 | a::r,b::s=>match Nat.blt a b with
  | true=>true
  | false=>match Nat.beq a b with
   | true=>ltM r s
   | false=>false
def Yky(i:Nat): List Nat->List Nat
 | []=>[i]
 | j::r=>match Nat.ble i j with
  | true=>i::j::r
  | false=>j::Yky i r
def Ygl(t:Bool×List Nat): Xp8->Xp8
 | []=>[t]
 | h::r=>if t.2=h.2 then (if t.1=h.1 then t::h::r else r) else match ltM t.2 h.2 with
  | true=>t::h::r
  | false=>h::Ygl t r
def Yf6(m n:List Nat): List Nat:=m.foldr Yky n
def Ymp(p q:Xp8): Xp8:=p.foldr Ygl q
def Yif(t:Bool×List Nat)(q acc:Xp8): Xp8:=q.foldr (λu a=>Ygl (t.1 != u.1,Yf6 t.2 u.2) a) acc
def Ykg(p q:Xp8): Xp8:=p.foldr (λt acc=>Yif t q acc) []
def nrm: Pe->Xp8
 | .v i=>[(false,[i])]
 | .z=>[]
 | .o=>[(false,[])]
 | .add a b=>Ymp (nrm a) (nrm b)
 | .mul a b=>Ykg (nrm a) (nrm b)
 | .neg a=>(nrm a).map λt=>(!t.1,t.2)
def Laws.ev{α:Type}{add mul:α->α->α}{neg:α->α}{zero one:α}(L:Laws add mul neg zero one)(xs:List α): Pe->α
 | .v i=>xs.getD i zero
 | .z=>zero
 | .o=>one
 | .add a b=>add (Laws.ev L xs a) (Laws.ev L xs b)
 | .mul a b=>mul (Laws.ev L xs a) (Laws.ev L xs b)
 | .neg a=>neg (Laws.ev L xs a)
def Laws.eM{α:Type}{add mul:α->α->α}{neg:α->α}{zero one:α}(L:Laws add mul neg zero one)(xs:List α): List Nat->α
 | []=>one
 | i::r=>mul (xs.getD i zero) (Laws.eM L xs r)
def Laws.eT{α:Type}{add mul:α->α->α}{neg:α->α}{zero one:α}(L:Laws add mul neg zero one)(xs:List α)(t:Bool×List Nat): α:=match t.1 with
 | true=>neg (L.eM xs t.2)
 | false=>L.eM xs t.2
def Laws.eP{α:Type}{add mul:α->α->α}{neg:α->α}{zero one:α}(L:Laws add mul neg zero one)(xs:List α): Xp8->α
 | []=>zero
 | t::r=>add (L.eT xs t) (Laws.eP L xs r)
section
variable{α:Type}{add mul:α->α->α}{neg:α->α}{zero one:α}(L:Laws add mul neg zero one)(xs:List α)
include L
theorem Laws.eM_ins(i:Nat)(m:List Nat): L.eM xs (Yky i m)=mul (xs.getD i zero) (L.eM xs m):=by
 induction m with
 | nil=>rfl
 | cons j r h =>
  simp only[Yky]
  split
  . rfl
  . simp only[eM];rw[h,L.mlc]
theorem Laws.eM_mul(m n:List Nat): L.eM xs (Yf6 m n)=mul (L.eM xs m) (L.eM xs n):=by
 induction m with
 | nil=>simp only[Yf6,W8k,eM,L.om]
 | cons i m h =>
  have:Yf6 (i::m) n=Yky i (Yf6 m n):=rfl
  rw[this,L.eM_ins,h,<-L.ma];rfl
theorem Laws.eP_ins(t:Bool×List Nat)(p:Xp8): L.eP xs (Ygl t p)=add (L.eT xs t) (L.eP xs p):=by
 induction p with
 | nil=>rfl
 | cons h r j =>
  simp only[Ygl]
  split
  . rename_i o
    split
    . rfl
    . rename_i A
      obtain⟨s,m⟩:=t
      obtain⟨s',B⟩:=h
      have i:m=B:=o
      subst i
      cases s<;>cases s'<;>first | exact absurd rfl A | skip
      . simp only[eP,eT];rw[<-L.aa,L.an,L.za]
      . simp only[eP,eT];rw[<-L.aa,L.na,L.za]
  . split
    . rfl
    . simp only[eP];rw[j,L.alc]
theorem Laws.eP_add(p q:Xp8): L.eP xs (Ymp p q)=add (L.eP xs p) (L.eP xs q):=by
 induction p with
 | nil=>simp only[Ymp,W8k,eP,L.za]
 | cons t p h =>
  have:Ymp (t::p) q=Ygl t (Ymp p q):=rfl
  rw[this,L.eP_ins,h];simp only[eP];rw[L.aa]
theorem Laws.eT_mul(t u:Bool×List Nat): L.eT xs (t.1 != u.1,Yf6 t.2 u.2)=mul (L.eT xs t) (L.eT xs u):=by
 obtain⟨s,m⟩:=t
 obtain⟨s',h⟩:=u
 cases s<;>cases s'<;>simp[eT,L.eM_mul,L.mn,L.nm,L.nn]
theorem Laws.eP_mulT(t:Bool×List Nat)(q acc:Xp8): L.eP xs (Yif t q acc)=add (mul (L.eT xs t) (L.eP xs q)) (L.eP xs acc):=by
 induction q with
 | nil=>simp only[Yif,W8k,eP,L.mz,L.za]
 | cons u q h =>
  have:Yif t (u::q) acc=Ygl (t.1 != u.1,Yf6 t.2 u.2) (Yif t q acc):=rfl
  rw[this,L.eP_ins,h,L.eT_mul];simp only[eP];rw[L.md,L.aa]
theorem Laws.eP_mul(p q:Xp8): L.eP xs (Ykg p q)=mul (L.eP xs p) (L.eP xs q):=by
 induction p with
 | nil=>simp only[Ykg,W8k,eP,L.zm]
 | cons t p h =>
  have:Ykg (t::p) q=Yif t q (Ykg p q):=rfl
  rw[this,L.eP_mulT,h];simp only[eP];rw[L.dm]
theorem Laws.eP_neg(p:Xp8): L.eP xs (p.map λt=>(!t.1,t.2))=neg (L.eP xs p):=by
 induction p with
 | nil=>simp only[List.map_nil,eP,L.nz]
 | cons t p h =>
  obtain⟨s,m⟩:=t
  simp only[W3t,eP,L.nd,h]
  cases s<;>simp[eT,L.nn]
theorem Laws.ev_nrm(e:Pe): L.ev xs e=L.eP xs (nrm e):=by
 induction e with
 | v i=>simp only[nrm,ev,eP,eT,eM,L.mo,L.az]
 | z=>rfl
 | o=>simp only[nrm,ev,eP,eT,eM,L.az]
 | add a b ha hb=>simp only[nrm,ev,L.eP_add,ha,hb]
 | mul a b ha hb=>simp only[nrm,ev,L.eP_mul,ha,hb]
 | neg a ha=>simp only[nrm,ev,L.eP_neg,ha]
theorem Laws.req(a b:Pe)(h:nrm a=nrm b): L.ev xs a=L.ev xs b:=by rw[L.ev_nrm,L.ev_nrm,h]
end
end
section
structure Sgn {α:Type} (add mul:α->α->α) (neg:α->α) (one:α) (σ:α->Int):Prop where
 tri:∀a,σ a=1\/σ a=0\/σ a=-1
 sn:∀a,σ (neg a)=- σ a
 sm:∀a b,σ (mul a b)=σ a*σ b
 sa:∀a b,0<=σ a->0<=σ b->0<=σ (add a b)
 sp:∀a b,σ a=1->0<=σ b->σ (add a b)=1
 s1:σ one=1
theorem Xd3{X:Int}(h:X=1\/X=0\/X=-1): 0<=X*X/\(X≠0->X*X=1)/\(X=0->X*X=0):=by
 rcases h with rfl | rfl | rfl<;>decide
section
variable{α:Type}{add mul:α->α->α}{neg:α->α}{zero one:α}{σ:α->Int}(L:Laws add mul neg zero one)(S:Sgn add mul neg one σ)
include L S
theorem Sgn.s0: σ zero=0:=by
 have:=S.sn zero
 rw[L.nz] at this
 omega
theorem Sgn.add0{a b:α}(ha:σ a=0): σ (add a b)=σ b:=by
 rcases S.tri b with hb | hb | hb
 . rw[hb,L.ac];exact S.sp b a hb (by omega)
 . have i:=S.sa a b (by omega) (by omega)
   have h:=S.sa (neg a) (neg b) (by rw[S.sn];omega) (by rw[S.sn];omega)
   rw[<-L.nd,S.sn] at h
   omega
 . have h:=S.sp (neg b) (neg a) (by rw[S.sn];omega) (by rw[S.sn];omega)
   rw[L.ac,<-L.nd,S.sn] at h
   omega
theorem Sgn.add0'{a b:α}(hb:σ b=0): σ (add a b)=σ a:=by rw[L.ac,S.add0 L hb]
theorem Sgn.np{a b:α}(ha:σ a=-1)(hb:σ b<=0): σ (add a b)=-1:=by
 have h:=S.sp (neg a) (neg b) (by rw[S.sn];omega) (by rw[S.sn];omega)
 rw[<-L.nd,S.sn] at h
 omega
theorem Sgn.same{a b:α}(h:σ a=σ b): σ (add a b)=σ a:=by
 rcases S.tri a with ha | ha | ha
 . rw[ha];exact S.sp a b ha (by omega)
 . rw[S.add0 L ha,<-h]
 . rw[ha];exact S.np L ha (by omega)
theorem Sgn.eqv{a b:α}(h:σ (add a (neg b))=0): σ a=σ b:=by
 have e:a=add (add a (neg b)) b:=(Laws.req L [a,b] (.v 0) (.add (.add (.v 0) (.neg (.v 1))) (.v 1)) (by decide +kernel))
 rw[e,S.add0 L h]
theorem Sgn.dom{a b:α}(h:σ (add (mul a a) (neg (mul b b)))=1): σ (add a b)=σ a:=by
 have e:add (mul a a) (neg (mul b b))=mul (add a b) (add a (neg b)):=(Laws.req L [a,b] (.add (.mul (.v 0) (.v 0)) (.neg (.mul (.v 1) (.v 1)))) (.mul (.add (.v 0) (.v 1)) (.add (.v 0) (.neg (.v 1)))) (by decide +kernel))
 have A:add a a=add (add a b) (add a (neg b)):=(Laws.req L [a,b] (.add (.v 0) (.v 0)) (.add (.add (.v 0) (.v 1)) (.add (.v 0) (.neg (.v 1)))) (by decide +kernel))
 rw[e,S.sm] at h
 have j:σ (add a a)=σ a:=S.same L rfl
 rw[A] at j
 rcases S.tri (add a b) with i | i | i<;>rcases S.tri (add a (neg b)) with o | o | o<;>rw[i,o] at h<;>first | (exact absurd h (by decide)) | skip
 . rw[<-j,i];exact(S.sp _ _ i (by omega)).symm
 . rw[<-j,i];exact(S.np L i (by omega)).symm
theorem Sgn.dom0{a b:α}(h:σ (add (mul a a) (neg (mul b b)))=0): σ (add a b)=Int.sign (σ a+σ b):=by
 have e:add (mul a a) (neg (mul b b))=mul (add a b) (add a (neg b)):=(Laws.req L [a,b] (.add (.mul (.v 0) (.v 0)) (.neg (.mul (.v 1) (.v 1)))) (.mul (.add (.v 0) (.v 1)) (.add (.v 0) (.neg (.v 1)))) (by decide +kernel))
 rw[e,S.sm] at h
 rcases Int.mul_eq_zero.1 h with i | i
 . have o:a=add (add a b) (neg b):=(Laws.req L [a,b] (.v 0) (.add (.add (.v 0) (.v 1)) (.neg (.v 1))) (by decide +kernel))
   have j:σ a=- σ b:=by
    conv=>lhs;rw[o]
    rw[S.add0 L i,S.sn]
   rw[i,j,show -σ b+σ b=0 by omega];rfl
 . have j:=S.eqv L i
   rw[S.same L j,<-j]
   rcases S.tri a with ha | ha | ha<;>rw[ha]<;>rfl
end
def Laws.nP{α:Type}{add mul:α->α->α}{neg:α->α}{zero one:α}(L:Laws add mul neg zero one)(d:α)(p:α×α): α:=add (mul p.1 p.1) (neg (mul (mul p.2 p.2) d))
def Laws.mQ{α:Type}{add mul:α->α->α}{neg:α->α}{zero one:α}(L:Laws add mul neg zero one)(d:α)(p q:α×α): α×α:=(add (mul p.1 q.1) (mul (mul p.2 q.2) d),add (mul p.1 q.2) (mul p.2 q.1))
def Laws.aQ{α:Type}{add mul:α->α->α}{neg:α->α}{zero one:α}(L:Laws add mul neg zero one)(p q:α×α): α×α:=(add p.1 q.1,add p.2 q.2)
def Laws.gQ{α:Type}{add mul:α->α->α}{neg:α->α}{zero one:α}(L:Laws add mul neg zero one)(p:α×α): α×α:=(neg p.1,neg p.2)
def Laws.sx{α:Type}{add mul:α->α->α}{neg:α->α}{zero one:α}(L:Laws add mul neg zero one)(d:α)(σ:α->Int)(p:α×α): Int :=
 if σ p.2=0\/σ p.1=σ p.2 then σ p.1 else if σ p.1=0 then σ p.2 else σ p.1*σ (L.nP d p)
theorem Yi3{X Y h:Int}(i:X=1\/X=0\/X=-1)(j:Y=1\/Y=0\/Y=-1)(o:h=1\/h=0\/h=-1)(A:X=0->h=-(Y*Y))(B:Y=0->h=X*X):
 (if Y=0\/X=Y then X else if X=0 then Y else X*h)=if h=1 then X else if h=-1 then Y else Int.sign (X+Y):=by
 rcases i with rfl | rfl | rfl<;>rcases j with rfl | rfl | rfl<;>rcases o with rfl | rfl | rfl <;>
  first | rfl | (exact absurd (A rfl) (by decide)) | (exact absurd (B rfl) (by decide)) | decide
section
variable{α:Type}{add mul:α->α->α}{neg:α->α}{zero one d:α}{σ:α->Int}(L:Laws add mul neg zero one)(S:Sgn add mul neg one σ)(hd:σ d=1)
include L S hd
theorem Sgn.n0x{p:α×α}(h:σ p.1=0): σ (L.nP d p)=-(σ p.2*σ p.2):=by
 unfold Laws.nP
 rw[S.add0 L (by rw[S.sm,h];rfl),S.sn,S.sm,S.sm,hd,W4z]
theorem Sgn.n0y{p:α×α}(h:σ p.2=0): σ (L.nP d p)=σ p.1*σ p.1:=by
 have _u:=hd
 unfold Laws.nP
 rw[S.add0' L (by rw[S.sn,S.sm,S.sm,h];simp),S.sm]
theorem Sgn.sx_eq(p:α×α): L.sx d σ p=if σ (L.nP d p)=1 then σ p.1 else if σ (L.nP d p)=-1 then σ p.2 else Int.sign (σ p.1+σ p.2) :=
 Yi3 (S.tri _) (S.tri _) (S.tri _) (S.n0x L hd) (S.n0y L hd)
theorem Sgn.sx1{p:α×α}(h:σ (L.nP d p)=1): L.sx d σ p=σ p.1/\σ p.1≠0:=by
 refine⟨by rw[S.sx_eq L hd,if_pos h],λh0=>?_⟩
 have i:=S.n0x L hd h0
 have:=(Xd3 (S.tri p.2)).1
 omega
theorem Sgn.sxm{p:α×α}(h:σ (L.nP d p)=-1): L.sx d σ p=σ p.2/\σ p.2≠0:=by
 refine⟨by rw[S.sx_eq L hd,if_neg (by omega),if_pos h],λh0=>?_⟩
 have i:=S.n0y L hd h0
 have:=(Xd3 (S.tri p.1)).1
 omega
theorem Sgn.sxz{p:α×α}(h:σ (L.nP d p)=0): L.sx d σ p=Int.sign (σ p.1+σ p.2)/\(σ p.1=0↔σ p.2=0):=by
 refine⟨by rw[S.sx_eq L hd,if_neg (by omega),if_neg (by omega)],λh0=>?_,λh0=>?_⟩
 . have o:=S.n0x L hd h0
   have i:=(Xd3 (S.tri p.2)).2.1
   exact W1g λj=>by have:=i j;omega
 . have o:=S.n0y L hd h0
   have i:=(Xd3 (S.tri p.1)).2.1
   exact W1g λj=>by have:=i j;omega
theorem Sgn.sd(z:α): σ (mul d z)=σ z:=by
 have _u:=L
 rw[S.sm,hd,W5y]
theorem Sgn.mul_core(p q:α×α)(h:σ (L.nP d q)=0->σ (L.nP d p)=0): L.sx d σ (L.mQ d p q)=L.sx d σ p*L.sx d σ q:=by
 obtain⟨a1,o⟩:=p
 obtain⟨i,j⟩:=q
 have hN:σ (L.nP d (L.mQ d (a1,o) (i,j)))=σ (L.nP d (a1,o))*σ (L.nP d (i,j)):=by
  rw[<-S.sm];congr 1
  exact(Laws.req L [a1,o,i,j,d] (.add (.mul (.add (.mul (.v 0) (.v 2)) (.mul (.mul (.v 1) (.v 3)) (.v 4))) (.add (.mul (.v 0) (.v 2)) (.mul (.mul (.v 1) (.v 3)) (.v 4)))) (.neg (.mul (.mul (.add (.mul (.v 0) (.v 3)) (.mul (.v 1) (.v 2))) (.add (.mul (.v 0) (.v 3)) (.mul (.v 1) (.v 2)))) (.v 4)))) (.mul (.add (.mul (.v 0) (.v 0)) (.neg (.mul (.mul (.v 1) (.v 1)) (.v 4)))) (.add (.mul (.v 2) (.v 2)) (.neg (.mul (.mul (.v 3) (.v 3)) (.v 4))))) (by decide +kernel))
 have eX:∀n1 M,n1=L.nP d (a1,o)->M=L.nP d (i,j)->add (mul (mul a1 i) (mul a1 i)) (neg (mul (mul (mul o j) d) (mul (mul o j) d)))=add (add (mul (mul a1 a1) M) (mul (mul i i) n1)) (neg (mul n1 M)):=by
  rintro _ _ rfl rfl
  exact(Laws.req L [a1,o,i,j,d] (.add (.mul (.mul (.v 0) (.v 2)) (.mul (.v 0) (.v 2))) (.neg (.mul (.mul (.mul (.v 1) (.v 3)) (.v 4)) (.mul (.mul (.v 1) (.v 3)) (.v 4))))) (.add (.add (.mul (.mul (.v 0) (.v 0)) (.add (.mul (.v 2) (.v 2)) (.neg (.mul (.mul (.v 3) (.v 3)) (.v 4))))) (.mul (.mul (.v 2) (.v 2)) (.add (.mul (.v 0) (.v 0)) (.neg (.mul (.mul (.v 1) (.v 1)) (.v 4)))))) (.neg (.mul (.add (.mul (.v 0) (.v 0)) (.neg (.mul (.mul (.v 1) (.v 1)) (.v 4)))) (.add (.mul (.v 2) (.v 2)) (.neg (.mul (.mul (.v 3) (.v 3)) (.v 4))))))) (by decide +kernel))
 have eX2:∀n1 M,n1=L.nP d (a1,o)->M=L.nP d (i,j)->add (mul (mul a1 i) (mul a1 i)) (neg (mul (mul (mul o j) d) (mul (mul o j) d)))=add (mul (mul a1 a1) M) (mul (mul d (mul j j)) n1):=by
  rintro _ _ rfl rfl
  exact(Laws.req L [a1,o,i,j,d] (.add (.mul (.mul (.v 0) (.v 2)) (.mul (.v 0) (.v 2))) (.neg (.mul (.mul (.mul (.v 1) (.v 3)) (.v 4)) (.mul (.mul (.v 1) (.v 3)) (.v 4))))) (.add (.mul (.mul (.v 0) (.v 0)) (.add (.mul (.v 2) (.v 2)) (.neg (.mul (.mul (.v 3) (.v 3)) (.v 4))))) (.mul (.mul (.v 4) (.mul (.v 3) (.v 3))) (.add (.mul (.v 0) (.v 0)) (.neg (.mul (.mul (.v 1) (.v 1)) (.v 4)))))) (by decide +kernel))
 have eXr:∀n1 M,n1=L.nP d (a1,o)->M=L.nP d (i,j)->add (mul (mul (mul o j) d) (mul (mul o j) d)) (neg (mul (mul a1 i) (mul a1 i)))=add (add (neg (mul (mul a1 a1) M)) (neg (mul (mul i i) n1))) (mul n1 M):=by
  rintro _ _ rfl rfl
  exact(Laws.req L [a1,o,i,j,d] (.add (.mul (.mul (.mul (.v 1) (.v 3)) (.v 4)) (.mul (.mul (.v 1) (.v 3)) (.v 4))) (.neg (.mul (.mul (.v 0) (.v 2)) (.mul (.v 0) (.v 2))))) (.add (.add (.neg (.mul (.mul (.v 0) (.v 0)) (.add (.mul (.v 2) (.v 2)) (.neg (.mul (.mul (.v 3) (.v 3)) (.v 4)))))) (.neg (.mul (.mul (.v 2) (.v 2)) (.add (.mul (.v 0) (.v 0)) (.neg (.mul (.mul (.v 1) (.v 1)) (.v 4))))))) (.mul (.add (.mul (.v 0) (.v 0)) (.neg (.mul (.mul (.v 1) (.v 1)) (.v 4)))) (.add (.mul (.v 2) (.v 2)) (.neg (.mul (.mul (.v 3) (.v 3)) (.v 4)))))) (by decide +kernel))
 have eY:∀n1 M,n1=L.nP d (a1,o)->M=L.nP d (i,j)->mul d (add (mul (mul a1 j) (mul a1 j)) (neg (mul (mul o i) (mul o i))))=add (neg (mul (mul a1 a1) M)) (mul (mul i i) n1):=by
  rintro _ _ rfl rfl
  exact(Laws.req L [a1,o,i,j,d] (.mul (.v 4) (.add (.mul (.mul (.v 0) (.v 3)) (.mul (.v 0) (.v 3))) (.neg (.mul (.mul (.v 1) (.v 2)) (.mul (.v 1) (.v 2)))))) (.add (.neg (.mul (.mul (.v 0) (.v 0)) (.add (.mul (.v 2) (.v 2)) (.neg (.mul (.mul (.v 3) (.v 3)) (.v 4)))))) (.mul (.mul (.v 2) (.v 2)) (.add (.mul (.v 0) (.v 0)) (.neg (.mul (.mul (.v 1) (.v 1)) (.v 4)))))) (by decide +kernel))
 have eYr:∀n1 M,n1=L.nP d (a1,o)->M=L.nP d (i,j)->mul d (add (mul (mul o i) (mul o i)) (neg (mul (mul a1 j) (mul a1 j))))=add (neg (mul (mul i i) n1)) (mul (mul a1 a1) M):=by
  rintro _ _ rfl rfl
  exact(Laws.req L [a1,o,i,j,d] (.mul (.v 4) (.add (.mul (.mul (.v 1) (.v 2)) (.mul (.v 1) (.v 2))) (.neg (.mul (.mul (.v 0) (.v 3)) (.mul (.v 0) (.v 3)))))) (.add (.neg (.mul (.mul (.v 2) (.v 2)) (.add (.mul (.v 0) (.v 0)) (.neg (.mul (.mul (.v 1) (.v 1)) (.v 4)))))) (.mul (.mul (.v 0) (.v 0)) (.add (.mul (.v 2) (.v 2)) (.neg (.mul (.mul (.v 3) (.v 3)) (.v 4)))))) (by decide +kernel))
 have eX:=eX _ _ rfl rfl
 have eX2:=eX2 _ _ rfl rfl
 have eXr:=eXr _ _ rfl rfl
 have eY:=eY _ _ rfl rfl
 have eYr:=eYr _ _ rfl rfl
 have Sx:=@Sgn.sx1 _ _ _ _ _ _ d σ L S hd
 have Sm:=@Sgn.sxm _ _ _ _ _ _ d σ L S hd
 have Sz:=@Sgn.sxz _ _ _ _ _ _ d σ L S hd
 have ta1:=S.tri a1
 have tb1:=S.tri o
 have ta2:=S.tri i
 have tb2:=S.tri j
 have Y:σ (mul (mul a1 a1) (L.nP d (i,j)))=σ a1*σ a1*σ (L.nP d (i,j)):=by rw[S.sm,S.sm]
 have sB:σ (mul (mul i i) (L.nP d (a1,o)))=σ i*σ i*σ (L.nP d (a1,o)):=by rw[S.sm,S.sm]
 have sC:σ (mul (L.nP d (a1,o)) (L.nP d (i,j)))=σ (L.nP d (a1,o))*σ (L.nP d (i,j)):=S.sm _ _
 have sD:σ (mul (mul d (mul j j)) (L.nP d (a1,o)))=σ j*σ j*σ (L.nP d (a1,o)):=by rw[S.sm,S.sd L hd,S.sm]
 have sb:σ (mul (mul o j) d)=σ o*σ j:=by rw[S.sm,S.sm,hd,W4z]
 have I:=Xd3 ta1
 have qa2:=Xd3 ta2
 have qb2:=Xd3 tb2
 rcases S.tri (L.nP d (a1,o)) with h1 | h1 | h1<;>rcases S.tri (L.nP d (i,j)) with V | V | V<;>simp only[h1,V,W4z,Int.mul_zero,Int.mul_neg] at Y sB sC sD hN
 . obtain⟨Q,A⟩:=Sx h1
   obtain⟨T,O⟩:=Sx V
   have A:σ a1≠0:=A
   have:=S.dom L (a:=mul a1 i) (b:=mul (mul o j) d) (by rw[eX2];exact S.sp _ _ (by rw[Y,I.2.1 A]) (by rw[sD];exact qb2.1))
   rw[(Sx hN).1,Q,T]
   show σ (add (mul a1 i) (mul (mul o j) d))=σ a1*σ i
   rw[this,S.sm]
 . exact absurd (h V) (by omega)
 . obtain⟨Q,A⟩:=Sx h1
   obtain⟨T,O⟩:=Sm V
   have A:σ a1≠0:=A
   have O:σ j≠0:=O
   have:=S.dom L (a:=mul a1 j) (b:=mul o i) (by rw[<-S.sd L hd,eY];exact S.sp _ _ (by rw[S.sn,Y,I.2.1 A];rfl) (by rw[sB];exact qa2.1))
   rw[(Sm hN).1,Q,T]
   show σ (add (mul a1 j) (mul o i))=σ a1*σ j
   rw[this,S.sm]
 . obtain⟨Q,U⟩:=Sz h1
   obtain⟨T,O⟩:=Sx V
   have O:σ i≠0:=O
   have U:σ a1=0↔σ o=0:=U
   rw[(Sz hN).1,Q,T]
   show Int.sign (σ (add (mul a1 i) (mul (mul o j) d))+σ (add (mul a1 j) (mul o i)))=Int.sign (σ a1+σ o)*σ i
   by_cases A:σ a1=0
   . have zb:=U.1 A
     rw[S.add0 L (by rw[S.sm,A,W5g]),S.add0 L (by rw[S.sm,A,W5g]),sb,S.sm,A,zb,W5g,W5g];simp
   . have g1:=S.dom L (a:=mul a1 i) (b:=mul (mul o j) d) (by rw[eX];exact S.sp _ _ (S.sp _ _ (by rw[Y,I.2.1 A]) (by rw[sB];exact W8m _)) (by rw[S.sn,sC];decide))
     have g2:=S.dom L (a:=mul o i) (b:=mul a1 j) (by rw[<-S.sd L hd,eYr,L.ac];exact S.sp _ _ (by rw[Y,I.2.1 A]) (by rw[S.sn,sB];decide))
     rw[g1,L.ac (mul a1 j),g2,S.sm,S.sm]
     have zb:σ o≠0:=λh=>A (U.2 h)
     revert A O zb
     rcases ta1 with h | h | h<;>rcases tb1 with Z | Z | Z<;>rcases ta2 with B | B | B<;>rw[h,Z,B]<;>decide
 . obtain⟨Q,U⟩:=Sz h1
   obtain⟨T,e2⟩:=Sz V
   have U:σ a1=0↔σ o=0:=U
   have e2:σ i=0↔σ j=0:=e2
   rw[(Sz hN).1,Q,T]
   show Int.sign (σ (add (mul a1 i) (mul (mul o j) d))+σ (add (mul a1 j) (mul o i)))=Int.sign (σ a1+σ o)*Int.sign (σ i+σ j)
   have g1:=S.dom0 L (a:=mul a1 i) (b:=mul (mul o j) d) (by rw[eX,S.add0' L (by rw[S.sn,sC];rfl),S.add0 L Y,sB])
   have g2:=S.dom0 L (a:=mul a1 j) (b:=mul o i) (by rw[<-S.sd L hd,eY,S.add0 L (by rw[S.sn,Y];rfl),sB])
   rw[g1,g2,sb,S.sm,S.sm,S.sm]
   revert U e2
   rcases ta1 with h | h | h<;>rcases tb1 with Z | Z | Z<;>rcases ta2 with B | B | B<;>rcases tb2 with g | g | g<;>rw[h,Z,B,g]<;>decide
 . obtain⟨Q,U⟩:=Sz h1
   obtain⟨T,O⟩:=Sm V
   have O:σ j≠0:=O
   have U:σ a1=0↔σ o=0:=U
   rw[(Sz hN).1,Q,T]
   show Int.sign (σ (add (mul a1 i) (mul (mul o j) d))+σ (add (mul a1 j) (mul o i)))=Int.sign (σ a1+σ o)*σ j
   by_cases A:σ a1=0
   . have zb:=U.1 A
     rw[S.add0 L (by rw[S.sm,A,W5g]),S.add0 L (by rw[S.sm,A,W5g]),sb,S.sm,A,zb,W5g,W5g];simp
   . have g1:=S.dom L (a:=mul (mul o j) d) (b:=mul a1 i) (by rw[eXr];exact S.sp _ _ (S.sp _ _ (by rw[S.sn,Y,I.2.1 A];rfl) (by rw[S.sn,sB];decide)) (by rw[sC];decide))
     have g2:=S.dom L (a:=mul a1 j) (b:=mul o i) (by rw[<-S.sd L hd,eY];exact S.sp _ _ (by rw[S.sn,Y,I.2.1 A];rfl) (by rw[sB];exact W8m _))
     rw[L.ac (mul a1 i),g1,g2,sb,S.sm]
     have zb:σ o≠0:=λh=>A (U.2 h)
     revert A O zb
     rcases ta1 with h | h | h<;>rcases tb1 with Z | Z | Z<;>rcases tb2 with B | B | B<;>rw[h,Z,B]<;>decide
 . obtain⟨Q,A⟩:=Sm h1
   obtain⟨T,O⟩:=Sx V
   have O:σ i≠0:=O
   have:=S.dom L (a:=mul o i) (b:=mul a1 j) (by rw[<-S.sd L hd,eYr];exact S.sp _ _ (by rw[S.sn,sB,qa2.2.1 O];rfl) (by rw[Y];exact I.1))
   rw[(Sm hN).1,Q,T]
   show σ (add (mul a1 j) (mul o i))=σ o*σ i
   rw[L.ac,this,S.sm]
 . exact absurd (h V) (by omega)
 . obtain⟨Q,A⟩:=Sm h1
   obtain⟨T,O⟩:=Sm V
   have:=S.dom L (a:=mul (mul o j) d) (b:=mul a1 i) (by rw[eXr,L.ac];exact S.sp _ _ (by rw[sC];rfl) (S.sa _ _ (by rw[S.sn,Y];have:=I.1;omega) (by rw[S.sn,sB];have:=qa2.1;omega)))
   rw[(Sx hN).1,Q,T]
   show σ (add (mul a1 i) (mul (mul o j) d))=σ o*σ j
   rw[L.ac,this,sb]
theorem Sgn.smul(p q:α×α): L.sx d σ (L.mQ d p q)=L.sx d σ p*L.sx d σ q:=by
 by_cases h:σ (L.nP d q)=0->σ (L.nP d p)=0
 . exact S.mul_core L hd p q h
 . have A:σ (L.nP d q)=0:=W1g λB=>h λI=>absurd I B
   have e:L.mQ d p q=L.mQ d q p:=by
    obtain⟨a1,i⟩:=p
    obtain⟨j,o⟩:=q
    exact W3a (Laws.req L [a1,i,j,o,d] (.add (.mul (.v 0) (.v 2)) (.mul (.mul (.v 1) (.v 3)) (.v 4))) (.add (.mul (.v 2) (.v 0)) (.mul (.mul (.v 3) (.v 1)) (.v 4))) (by decide +kernel)) (Laws.req L [a1,i,j,o,d] (.add (.mul (.v 0) (.v 3)) (.mul (.v 1) (.v 2))) (.add (.mul (.v 2) (.v 1)) (.mul (.v 3) (.v 0))) (by decide +kernel))
   rw[e,S.mul_core L hd q p λ_=>A,Int.mul_comm]
theorem Sgn.sneg(p:α×α): L.sx d σ (L.gQ p)=- L.sx d σ p:=by
 have e:L.nP d (L.gQ p)=L.nP d p:=by
  obtain⟨a,b⟩:=p
  exact(Laws.req L [a,b,d] (.add (.mul (.neg (.v 0)) (.neg (.v 0))) (.neg (.mul (.mul (.neg (.v 1)) (.neg (.v 1))) (.v 2)))) (.add (.mul (.v 0) (.v 0)) (.neg (.mul (.mul (.v 1) (.v 1)) (.v 2)))) (by decide +kernel))
 rw[S.sx_eq L hd,S.sx_eq L hd,e]
 show (if σ (L.nP d p)=1 then σ (neg p.1) else if σ (L.nP d p)=-1 then σ (neg p.2) else Int.sign (σ (neg p.1)+σ (neg p.2)))=_
 rw[S.sn,S.sn]
 split
 . rfl
 . split
   . rfl
   . rw[<-Int.neg_add,Int.sign_neg]
def Laws.Rt{α:Type}{add mul:α->α->α}{neg:α->α}{zero one:α}(L:Laws add mul neg zero one)(d:α)(σ:α->Int)(p q:α): Prop:=σ p=1/\σ q=1/\σ (add (mul p p) (neg (mul d (mul q q))))=0
theorem Sgn.sx_rt{p q:α}(h:L.Rt d σ p q)(x:α×α): L.sx d σ x=σ (add (mul x.1 q) (mul x.2 p)):=by
 obtain⟨hp,hq,h0⟩:=h
 obtain⟨a,b⟩:=x
 show L.sx d σ (a,b)=σ (add (mul a q) (mul b p))
 have I:∀n,n=L.nP d (a,b)->mul n (mul q q)=add (mul (mul b b) (add (mul p p) (neg (mul d (mul q q))))) (mul (add (mul a q) (mul b p)) (add (mul a q) (neg (mul b p)))):=by
  rintro _ rfl
  exact(Laws.req L [a,b,p,q,d] (.mul (.add (.mul (.v 0) (.v 0)) (.neg (.mul (.mul (.v 1) (.v 1)) (.v 4)))) (.mul (.v 3) (.v 3))) (.add (.mul (.mul (.v 1) (.v 1)) (.add (.mul (.v 2) (.v 2)) (.neg (.mul (.v 4) (.mul (.v 3) (.v 3)))))) (.mul (.add (.mul (.v 0) (.v 3)) (.mul (.v 1) (.v 2))) (.add (.mul (.v 0) (.v 3)) (.neg (.mul (.v 1) (.v 2)))))) (by decide +kernel))
 have I:=I _ rfl
 have O:σ (L.nP d (a,b))=σ (add (mul a q) (mul b p))*σ (add (mul a q) (neg (mul b p))):=by
  have M:=congrArg σ I
  rw[S.add0 L (a:=mul (mul b b) (add (mul p p) (neg (mul d (mul q q))))) (by rw[S.sm,h0,Int.mul_zero]),S.sm,S.sm,hq,W4z,W4z,S.sm] at M
  exact M
 have Q:add (mul a q) (mul a q)=add (add (mul a q) (mul b p)) (add (mul a q) (neg (mul b p))):=(Laws.req L [a,b,p,q] (.add (.mul (.v 0) (.v 3)) (.mul (.v 0) (.v 3))) (.add (.add (.mul (.v 0) (.v 3)) (.mul (.v 1) (.v 2))) (.add (.mul (.v 0) (.v 3)) (.neg (.mul (.v 1) (.v 2))))) (by decide +kernel))
 have T:add (mul b p) (mul b p)=add (add (mul a q) (mul b p)) (neg (add (mul a q) (neg (mul b p)))):=(Laws.req L [a,b,p,q] (.add (.mul (.v 1) (.v 2)) (.mul (.v 1) (.v 2))) (.add (.add (.mul (.v 0) (.v 3)) (.mul (.v 1) (.v 2))) (.neg (.add (.mul (.v 0) (.v 3)) (.neg (.mul (.v 1) (.v 2)))))) (by decide +kernel))
 have j:σ a=σ (add (add (mul a q) (mul b p)) (add (mul a q) (neg (mul b p)))):=by
  rw[<-Q,S.same L rfl,S.sm,hq,W4z]
 have o:σ b=σ (add (add (mul a q) (mul b p)) (neg (add (mul a q) (neg (mul b p))))):=by
  rw[<-T,S.same L rfl,S.sm,hp,W4z]
 generalize add (mul a q) (mul b p)=A at *
 generalize add (mul a q) (neg (mul b p))=B at *
 rw[S.sx_eq L hd]
 show (if σ (L.nP d (a,b))=1 then σ a else if σ (L.nP d (a,b))=-1 then σ b else Int.sign (σ a+σ b))=σ A
 rw[O]
 rcases S.tri A with h | h | h<;>rcases S.tri B with i | i | i
 . rw[h,i,if_pos (by decide),j,S.same L (by omega),h]
 . rw[h,i,if_neg (by decide),if_neg (by decide),j,o,S.add0' L i,S.add0' L (by rw[S.sn];omega),h];rfl
 . rw[h,i,if_neg (by decide),if_pos (by decide),o,S.same L (by rw[S.sn];omega),h]
 . rw[h,i,if_neg (by decide),if_neg (by decide),j,o,S.add0 L h,S.add0 L h,S.sn,i];rfl
 . rw[h,i,if_neg (by decide),if_neg (by decide),j,o,S.add0 L h,S.add0 L h,S.sn,i];rfl
 . rw[h,i,if_neg (by decide),if_neg (by decide),j,o,S.add0 L h,S.add0 L h,S.sn,i];rfl
 . rw[h,i,if_neg (by decide),if_pos (by decide),o,S.same L (by rw[S.sn];omega),h]
 . rw[h,i,if_neg (by decide),if_neg (by decide),j,o,S.add0' L i,S.add0' L (by rw[S.sn];omega),h];rfl
 . rw[h,i,if_pos (by decide),j,S.same L (by omega),h]
theorem Sgn.no_rt(o:∀p q,¬L.Rt d σ p q){x:α×α}(h:σ (L.nP d x)=0): σ x.1=0/\σ x.2=0:=by
 obtain⟨a,b⟩:=x
 have h0:=(S.sxz L hd h).2
 have h0:σ a=0↔σ b=0:=h0
 have e:∀n,n=L.nP d (a,b)->add (mul a a) (neg (mul d (mul b b)))=n/\add (mul (neg a) (neg a)) (neg (mul d (mul b b)))=n/\add (mul a a) (neg (mul d (mul (neg b) (neg b))))=n/\add (mul (neg a) (neg a)) (neg (mul d (mul (neg b) (neg b))))=n:=by
  rintro _ rfl
  exact⟨(Laws.req L [a,b,d] (.add (.mul (.v 0) (.v 0)) (.neg (.mul (.v 2) (.mul (.v 1) (.v 1))))) (.add (.mul (.v 0) (.v 0)) (.neg (.mul (.mul (.v 1) (.v 1)) (.v 2)))) (by decide +kernel)),(Laws.req L [a,b,d] (.add (.mul (.neg (.v 0)) (.neg (.v 0))) (.neg (.mul (.v 2) (.mul (.v 1) (.v 1))))) (.add (.mul (.v 0) (.v 0)) (.neg (.mul (.mul (.v 1) (.v 1)) (.v 2)))) (by decide +kernel)),(Laws.req L [a,b,d] (.add (.mul (.v 0) (.v 0)) (.neg (.mul (.v 2) (.mul (.neg (.v 1)) (.neg (.v 1)))))) (.add (.mul (.v 0) (.v 0)) (.neg (.mul (.mul (.v 1) (.v 1)) (.v 2)))) (by decide +kernel)),(Laws.req L [a,b,d] (.add (.mul (.neg (.v 0)) (.neg (.v 0))) (.neg (.mul (.v 2) (.mul (.neg (.v 1)) (.neg (.v 1)))))) (.add (.mul (.v 0) (.v 0)) (.neg (.mul (.mul (.v 1) (.v 1)) (.v 2)))) (by decide +kernel))⟩
 obtain⟨A,B,I,M⟩:=e _ rfl
 show σ a=0/\σ b=0
 rcases S.tri a with j | j | j
 . rcases S.tri b with i | i | i
   . exact absurd ⟨j,i,by rw[A];exact h⟩ (o a b)
   . omega
   . exact absurd ⟨j,by rw[S.sn];omega,by rw[I];exact h⟩ (o a (neg b))
 . exact⟨j,h0.1 j⟩
 . rcases S.tri b with i | i | i
   . exact absurd ⟨by rw[S.sn];omega,i,by rw[B];exact h⟩ (o (neg a) b)
   . omega
   . exact absurd ⟨by rw[S.sn];omega,by rw[S.sn];omega,by rw[M];exact h⟩ (o (neg a) (neg b))
theorem Sgn.sx_n(M:∀p q,¬L.Rt d σ p q){n a b:α}(B:σ n=1)(h:0<=L.sx d σ (a,b)): L.sx d σ (add a n,b)=1:=by
 have Sx:=@Sgn.sx1 _ _ _ _ _ _ d σ L S hd
 have Sm:=@Sgn.sxm _ _ _ _ _ _ d σ L S hd
 rcases S.tri (L.nP d (a,b)) with j | j | j
 . obtain⟨i,A⟩:=Sx j
   have i:L.sx d σ (a,b)=σ a:=i
   have A:σ a≠0:=A
   have ha:σ a=1:=by rcases S.tri a with h | h | h<;>omega
   have T:σ (L.nP d (add a n,b))=1:=by
    have e:∀m,m=L.nP d (a,b)->L.nP d (add a n,b)=add m (mul n (add (add a a) n)):=by
     rintro _ rfl
     exact(Laws.req L [a,b,n,d] (.add (.mul (.add (.v 0) (.v 2)) (.add (.v 0) (.v 2))) (.neg (.mul (.mul (.v 1) (.v 1)) (.v 3)))) (.add (.add (.mul (.v 0) (.v 0)) (.neg (.mul (.mul (.v 1) (.v 1)) (.v 3)))) (.mul (.v 2) (.add (.add (.v 0) (.v 0)) (.v 2)))) (by decide +kernel))
    rw[e _ rfl]
    exact S.sp _ _ j (by rw[S.sm,B,S.sp _ _ (S.sp _ _ ha (by omega)) (by omega)];decide)
   rw[(Sx T).1]
   exact S.sp _ _ ha (by omega)
 . obtain⟨i,I⟩:=S.no_rt L hd M j
   have i:σ a=0:=i
   have I:σ b=0:=I
   have:σ (add a n)=1:=by rw[S.add0 L i,B]
   unfold Laws.sx
   rw[if_pos (.inl I)];exact this
 . obtain⟨i,A⟩:=Sm j
   have i:L.sx d σ (a,b)=σ b:=i
   have A:σ b≠0:=A
   have hb:σ b=1:=by rcases S.tri b with h | h | h<;>omega
   rcases S.tri (L.nP d (add a n,b)) with o | o | o
   . obtain⟨U,O⟩:=Sx o
     rw[U]
     show σ (add a n)=1
     have O:σ (add a n)≠0:=O
     rcases S.tri (add a n) with h | h | h
     . exact h
     . omega
     . exfalso
       have e:∀m,m=L.nP d (add a n,b)->L.nP d (a,b)=add m (mul n (add (neg (add a n)) (add (neg (add a n)) n))):=by
        rintro _ rfl
        exact(Laws.req L [a,b,n,d] (.add (.mul (.v 0) (.v 0)) (.neg (.mul (.mul (.v 1) (.v 1)) (.v 3)))) (.add (.add (.mul (.add (.v 0) (.v 2)) (.add (.v 0) (.v 2))) (.neg (.mul (.mul (.v 1) (.v 1)) (.v 3)))) (.mul (.v 2) (.add (.neg (.add (.v 0) (.v 2))) (.add (.neg (.add (.v 0) (.v 2))) (.v 2))))) (by decide +kernel))
       have Q:σ (neg (add a n))=1:=by rw[S.sn];omega
       rw[e _ rfl,S.sp _ _ o (by rw[S.sm,B,S.sp _ _ Q (by rw[S.sp _ _ Q (by omega)];decide)];decide)] at j
       omega
   . have:=(S.no_rt L hd M o).2
     have:σ b=0:=this
     omega
   . rw[(Sm o).1];exact hb
theorem Sgn.ext: Sgn L.aQ (L.mQ d) L.gQ (one,zero) (L.sx d σ):=by
 have tri:∀p,L.sx d σ p=1\/L.sx d σ p=0\/L.sx d σ p=-1:=by
  intro p
  rw[S.sx_eq L hd]
  split
  . exact S.tri _
  . split
    . exact S.tri _
    . rcases S.tri p.1 with h | h | h<;>rcases S.tri p.2 with I | I | I<;>rw[h,I]<;>decide
 have low:∀a b,σ b=0->L.sx d σ (a,b)=σ a:=by
  intro a b h
  unfold Laws.sx
  rw[if_pos (.inl h)]
 by_cases O:∃p q,L.Rt d σ p q
 . obtain⟨p,q,h⟩:=O
   have M:∀x y:α×α,add (mul (L.aQ x y).1 q) (mul (L.aQ x y).2 p)=add (add (mul x.1 q) (mul x.2 p)) (add (mul y.1 q) (mul y.2 p)):=by
    rintro⟨a,b⟩ ⟨Q,T⟩
    exact(Laws.req L [a,b,Q,T,p,q] (.add (.mul (.add (.v 0) (.v 2)) (.v 5)) (.mul (.add (.v 1) (.v 3)) (.v 4))) (.add (.add (.mul (.v 0) (.v 5)) (.mul (.v 1) (.v 4))) (.add (.mul (.v 2) (.v 5)) (.mul (.v 3) (.v 4)))) (by decide +kernel))
   refine⟨tri,S.sneg L hd,S.smul L hd,λx y i o=>?_,λx y i o=>?_,by rw[low _ _ (S.s0 L),S.s1]⟩
   . rw[S.sx_rt L hd h] at i o |-
     rw[M];exact S.sa _ _ i o
   . rw[S.sx_rt L hd h] at i o |-
     rw[M];exact S.sp _ _ i o
 . have O:∀p q,¬L.Rt d σ p q:=λp q h=>O ⟨p,q,h⟩
   have pos:∀x y:α×α,L.sx d σ x=1->0<=L.sx d σ y->L.sx d σ (L.aQ x y)=1:=by
    intro x y i o
    have hN:σ (L.nP d x)≠0:=λh0=>by
     have A:=(S.sxz L hd h0).1
     have U:=S.no_rt L hd O h0
     rw[U.1,U.2] at A
     rw[A] at i
     exact absurd i (by decide)
    have ex:L.mQ d x (x.1,neg x.2)=(L.nP d x,zero):=by
     obtain⟨a,b⟩:=x
     exact W3a (Laws.req L [a,b,d] (.add (.mul (.v 0) (.v 0)) (.mul (.mul (.v 1) (.neg (.v 1))) (.v 2))) (.add (.mul (.v 0) (.v 0)) (.neg (.mul (.mul (.v 1) (.v 1)) (.v 2)))) (by decide +kernel)) (Laws.req L [a,b] (.add (.mul (.v 0) (.neg (.v 1))) (.mul (.v 1) (.v 0))) .z (by decide +kernel))
    have V:L.mQ d (L.aQ x y) (x.1,neg x.2)=(add (L.mQ d y (x.1,neg x.2)).1 (L.nP d x),(L.mQ d y (x.1,neg x.2)).2):=by
     obtain⟨a,b⟩:=x
     obtain⟨Q,T⟩:=y
     exact W3a (Laws.req L [a,b,Q,T,d] (.add (.mul (.add (.v 0) (.v 2)) (.v 0)) (.mul (.mul (.add (.v 1) (.v 3)) (.neg (.v 1))) (.v 4))) (.add (.add (.mul (.v 2) (.v 0)) (.mul (.mul (.v 3) (.neg (.v 1))) (.v 4))) (.add (.mul (.v 0) (.v 0)) (.neg (.mul (.mul (.v 1) (.v 1)) (.v 4))))) (by decide +kernel)) (Laws.req L [a,b,Q,T,d] (.add (.mul (.add (.v 0) (.v 2)) (.neg (.v 1))) (.mul (.add (.v 1) (.v 3)) (.v 0))) (.add (.mul (.v 2) (.neg (.v 1))) (.mul (.v 3) (.v 0))) (by decide +kernel))
    have hc:L.sx d σ (x.1,neg x.2)=σ (L.nP d x):=by
     have:=S.smul L hd x (x.1,neg x.2)
     rw[ex,low _ _ (S.s0 L),i,W5y] at this
     exact this.symm
    have j:=S.smul L hd y (x.1,neg x.2)
    have B:=S.smul L hd (L.aQ x y) (x.1,neg x.2)
    rw[hc] at j B
    rcases S.tri (L.nP d x) with A | A | A
    . rw[A,W4z] at j B
      rw[<-B,V]
      exact S.sx_n L hd O A (by rw[<-j] at o;exact o)
    . exact absurd A hN
    . rw[A] at j B
      have hg:=S.sneg L hd (L.mQ d (L.aQ x y) (x.1,neg x.2))
      have eg:L.gQ (L.mQ d (L.aQ x y) (x.1,neg x.2))=(add (L.gQ (L.mQ d y (x.1,neg x.2))).1 (neg (L.nP d x)),(L.gQ (L.mQ d y (x.1,neg x.2))).2):=by
       rw[V]
       exact W3a (L.nd _ _) rfl
      have U:=S.sx_n L hd O (n:=neg (L.nP d x)) (a:=(L.gQ (L.mQ d y (x.1,neg x.2))).1) (b:=(L.gQ (L.mQ d y (x.1,neg x.2))).2) (by rw[S.sn];omega) (by
       show 0<=L.sx d σ (L.gQ (L.mQ d y (x.1,neg x.2)))
       rw[S.sneg L hd,j];omega)
      rw[<-eg] at U
      omega
   refine⟨tri,S.sneg L hd,S.smul L hd,λx y i o=>?_,pos,by rw[low _ _ (S.s0 L),S.s1]⟩
   rcases tri x with h | h | h
   . rw[pos x y h o];decide
   . rcases tri y with I | I | I
     . have e:L.aQ x y=L.aQ y x:=W3a (L.ac _ _) (L.ac _ _)
       rw[e,pos y x I i];decide
     . have Y:∀p,L.sx d σ p=0->σ p.1=0/\σ p.2=0:=by
        intro p hp
        rcases S.tri (L.nP d p) with g | g | g
        . have:=S.sx1 L hd g;omega
        . exact S.no_rt L hd O g
        . have:=S.sxm L hd g;omega
       have Z:=Y x h
       have z2:=Y y I
       have:L.sx d σ (L.aQ x y)=0:=by
        rw[show L.aQ x y=(add x.1 y.1,add x.2 y.2) from rfl,low _ _ (by rw[S.add0 L Z.2,z2.2]),S.add0 L Z.1,z2.1]
       omega
     . omega
   . omega
end
end
section
def Xe3(x:Rat): Int:=if 0<x then 1 else if x<0 then -1 else 0
theorem Xa0(x:Rat): (0<x/\Xe3 x=1)\/(x=0/\Xe3 x=0)\/(x<0/\Xe3 x=-1):=by
 unfold Xe3
 by_cases h:0<x
 . left;exact⟨h,if_pos h⟩
 . by_cases i:x<0
   . right;right;exact⟨i,by rw[if_neg h,if_pos i]⟩
   . right;left;exact⟨by grind,by rw[if_neg h,if_neg i]⟩
theorem Xbh{x:Rat}(h:0<x): Xe3 x=1:=if_pos h
theorem Xdt{x:Rat}(h:x<0): Xe3 x=-1:=by unfold Xe3;rw[if_neg (by grind),if_pos h]
theorem Xij{x y:Rat}(h:x<0)(k:0<y): x*y<0:=by
 have:=W4s (show 0 < -x by grind) k
 grind
theorem Xpf{x y:Rat}(h:x<0)(k:y<0): 0<x*y:=by
 have:=W4s (show 0 < -x by grind) (show 0 < -y by grind)
 grind
theorem Ye8: Sgn (α:=Rat) (λx y=>x+y) (λx y=>x*y) (λx=>-x) 1 Xe3:=by
 refine⟨λa=>?_,λa=>?_,λa b=>?_,λa b ha hb=>?_,λa b ha hb=>?_,by decide⟩
 . rcases Xa0 a with h | h | h<;>simp[h.2]
 . rcases Xa0 a with h | h | h
   . rw[h.2,Xdt (by grind)]
   . rw[h.1,Rat.neg_zero];rfl
   . rw[h.2,Xbh (by grind)];rfl
 . rcases Xa0 a with h | h | h<;>rcases Xa0 b with k | k | k<;>rw[h.2,k.2]
   . exact Xbh (W4s h.1 k.1)
   . rw[k.1,Rat.mul_zero];rfl
   . rw[Rat.mul_comm];exact Xdt (Xij k.1 h.1)
   . rw[h.1,W5q];rfl
   . rw[h.1,W5q];rfl
   . rw[h.1,W5q];rfl
   . exact Xdt (Xij h.1 k.1)
   . rw[k.1,Rat.mul_zero];rfl
   . exact Xbh (Xpf h.1 k.1)
 . rcases Xa0 a with h | h | h<;>rcases Xa0 b with k | k | k<;>rw[h.2] at ha<;>rw[k.2] at hb<;>first | (exact absurd ha (by decide)) | (exact absurd hb (by decide)) | skip
   . rw[Xbh (by grind)];decide
   . rw[Xbh (by grind)];decide
   . rw[Xbh (by grind)];decide
   . rw[h.1,k.1,W7g];decide
 . rcases Xa0 a with h | h | h<;>rcases Xa0 b with k | k | k<;>rw[h.2] at ha<;>rw[k.2] at hb<;>first | (exact absurd ha (by decide)) | (exact absurd hb (by decide)) | exact Xbh (by grind)
def sgn: (k:Nat)->Tw k->El k->Int
 | 0=>λ_ (x:Rat)=>Xe3 x
 | k+1=>λt a=>(Xba k t.1).sx t.2 (sgn k t.1) a
def Xbm: (k:Nat)->Tw k->Prop
 | 0=>λ_=>True
 | k+1=>λt=>Xbm k t.1/\sgn k t.1 t.2=1
theorem Xau: ∀ {k:Nat} {t:Tw k},Xbm k t->Sgn (add k) (mul k t) (neg k) (rat k 1) (sgn k t)
 | 0,_,_=>Ye8
 | k+1,t,h=>(Xau h.1).ext (Xba k t.1) h.2
section
variable{k:Nat}{t:Tw k}
theorem Xu8{t:Tw (k+1)}(a:El k)(h:Xbm k t.1): sgn (k+1) t (up k a)=sgn k t.1 a:=by
 have i:=(Xau h).s0 (Xba k t.1)
 show (Xba k t.1).sx t.2 (sgn k t.1) (a,zero k)=_
 unfold Laws.sx
 rw[if_pos (.inl i)]
theorem Xfa{x:Rat}(h:Xbm k t): sgn k t (rat k x)=Xe3 x:=by
 induction k with
 | zero=>rfl
 | succ k i=>rw[show rat (k+1) x=up k (rat k x) from rfl,Xu8 _ h.1,i h.1]
theorem Xc6: ∀ {k:Nat} (t:Tw k) (a:El k),sgn k t a=1\/sgn k t a=0\/sgn k t a=-1
 | 0,_,a=>by
  rcases Xa0 a with h | h | h
  . exact .inl h.2
  . exact .inr (.inl h.2)
  . exact .inr (.inr h.2)
 | k+1,t,a=>by
  show (Xba k t.1).sx t.2 (sgn k t.1) a=1\/(Xba k t.1).sx t.2 (sgn k t.1) a=0\/(Xba k t.1).sx t.2 (sgn k t.1) a=-1
  unfold Laws.sx
  split
  . exact Xc6 _ _
  . split
    . exact Xc6 _ _
    . rcases Xc6 t.1 a.1 with h | h | h<;>rcases Xc6 t.1 ((Xba k t.1).nP t.2 a) with g | g | g<;>rw[h,g]<;>decide
def le(k:Nat)(t:Tw k)(a b:El k): Prop:=0<=sgn k t (add k b (neg k a))
end
end
section
section
variable{α:Type}{add mul:α->α->α}{neg:α->α}{zero one:α}{σ:α->Int}(L:Laws add mul neg zero one)(S:Sgn add mul neg one σ)
include L S
theorem Sgn.le_rf(a:α): 0<=σ (add a (neg a)):=by rw[L.an,S.s0 L];exact W8m _
theorem Sgn.le_tr{a b c:α}(h:0<=σ (add b (neg a)))(k:0<=σ (add c (neg b))): 0<=σ (add c (neg a)):=by
 have e:add c (neg a)=add (add c (neg b)) (add b (neg a)):=(Laws.req L [a,b,c] (.add (.v 2) (.neg (.v 0))) (.add (.add (.v 2) (.neg (.v 1))) (.add (.v 1) (.neg (.v 0)))) (by decide +kernel))
 rw[e];exact S.sa _ _ k h
theorem Sgn.le_ad{a b c d:α}(h:0<=σ (add b (neg a)))(k:0<=σ (add d (neg c))): 0<=σ (add (add b d) (neg (add a c))):=by
 have e:add (add b d) (neg (add a c))=add (add b (neg a)) (add d (neg c)):=(Laws.req L [a,b,c,d] (.add (.add (.v 1) (.v 3)) (.neg (.add (.v 0) (.v 2)))) (.add (.add (.v 1) (.neg (.v 0))) (.add (.v 3) (.neg (.v 2)))) (by decide +kernel))
 rw[e];exact S.sa _ _ h k
theorem Sgn.le_ml{a b c:α}(h:0<=σ (add b (neg a)))(i:0<=σ c): 0<=σ (add (mul c b) (neg (mul c a))):=by
 have e:add (mul c b) (neg (mul c a))=mul c (add b (neg a)):=(Laws.req L [a,b,c] (.add (.mul (.v 2) (.v 1)) (.neg (.mul (.v 2) (.v 0)))) (.mul (.v 2) (.add (.v 1) (.neg (.v 0)))) (by decide +kernel))
 rw[e,S.sm];exact Int.mul_nonneg i h
theorem Sgn.le_mn{a b c:α}(h:0<=σ (add b (neg a)))(i:σ c<=0): 0<=σ (add (mul c a) (neg (mul c b))):=by
 have e:add (mul c a) (neg (mul c b))=mul (neg c) (add b (neg a)):=(Laws.req L [a,b,c] (.add (.mul (.v 2) (.v 0)) (.neg (.mul (.v 2) (.v 1)))) (.mul (.neg (.v 2)) (.add (.v 1) (.neg (.v 0)))) (by decide +kernel))
 rw[e,S.sm,S.sn];exact Int.mul_nonneg (by omega) h
theorem Sgn.le_sq{x y:α}(M:0<=σ x)(j:0<=σ y)(h:0<=σ (add (mul y y) (neg (mul x x)))): 0<=σ (add y (neg x)):=by
 have e:add (mul y y) (neg (mul x x))=mul (add y (neg x)) (add y x):=(Laws.req L [x,y] (.add (.mul (.v 1) (.v 1)) (.neg (.mul (.v 0) (.v 0)))) (.mul (.add (.v 1) (.neg (.v 0))) (.add (.v 1) (.v 0))) (by decide +kernel))
 rw[e,S.sm] at h
 rcases S.tri (add y (neg x)) with i | i | i
 . omega
 . omega
 . have A:σ (add x (neg y))=1:=by
    have B:add x (neg y)=neg (add y (neg x)):=(Laws.req L [x,y] (.add (.v 0) (.neg (.v 1))) (.neg (.add (.v 1) (.neg (.v 0)))) (by decide +kernel))
    rw[B,S.sn,i];rfl
   have o:=S.sp _ (add y y) A (S.sa _ _ j j)
   have I:add (add x (neg y)) (add y y)=add y x:=(Laws.req L [x,y] (.add (.add (.v 0) (.neg (.v 1))) (.add (.v 1) (.v 1))) (.add (.v 1) (.v 0)) (by decide +kernel))
   rw[I] at o
   rw[i,o] at h
   exact absurd h (by decide)
end
def tw0: (k:Nat)->Tw k
 | 0=>()
 | k+1=>(tw0 k,zero k)
theorem Xec: ∀(k:Nat) (x y:Rat),rat k (x+y)=add k (rat k x) (rat k y)
 | 0,_,_=>rfl
 | k+1,x,y=>by
  show (rat k (x+y),zero k)=(add k (rat k x) (rat k y),add k (zero k) (zero k))
  rw[Xec k,(Xba k (tw0 k)).az]
theorem Xdv: ∀(k:Nat) (x:Rat),rat k (-x)=neg k (rat k x)
 | 0,_=>rfl
 | k+1,x=>by
  show (rat k (-x),zero k)=(neg k (rat k x),neg k (zero k))
  rw[Xdv k,(Xba k (tw0 k)).nz]
theorem Xc8: ∀(k:Nat) (t:Tw k) (x y:Rat),rat k (x*y)=mul k t (rat k x) (rat k y)
 | 0,_,_,_=>rfl
 | k+1,t,x,y=>by
  show up k (rat k (x*y))=mul (k+1) t (up k (rat k x)) (up k (rat k y))
  rw[Xwc,Xc8 k t.1]
section
variable{k:Nat}{t:Tw k}
theorem Xa1(h:Xbm k t){x y:Rat}: le k t (rat k x) (rat k y)↔x<=y:=by
 unfold le
 rw[<-Xdv,<-Xec,Xfa h]
 rcases Xa0 (y+-x) with ⟨i,e⟩ | ⟨i,e⟩ | ⟨i,e⟩<;>rw[e]
 . exact⟨λ_=>by grind,λ_=>by decide⟩
 . exact⟨λ_=>by grind,λ_=>by decide⟩
 . exact⟨λh=>absurd h (by decide),λh=>absurd h (by grind)⟩
theorem le_tr(h:Xbm k t){a b c:El k}(i:le k t a b)(j:le k t b c): le k t a c:=(Xau h).le_tr (Xba k t) i j
theorem Xii(h:Xbm k t){a:El k}: le k t (rat k 0) a↔0<=sgn k t a:=by
 unfold le
 rw[Xhg,(Xba k t).nz,(Xba k t).az]
def inI(k:Nat)(t:Tw k)(a:El k)(x y:Rat): Prop:=le k t (rat k x) a/\le k t a (rat k y)
theorem Xlu(h:Xbm k t){a:El k}{x y j o:Rat}(i:inI k t a x y)(A:j<=x)(B:y<=o): inI k t a j o :=
 ⟨le_tr h ((Xa1 h).2 A) i.1,le_tr h i.2 ((Xa1 h).2 B)⟩
theorem Ydy(h:Xbm k t){a:El k}{x y:Rat}(i:inI k t a x y): x<=y:=(Xa1 h).1 (le_tr h i.1 i.2)
theorem Xw5(h:Xbm k t){a b:El k}{x y o A:Rat}(i:inI k t a x y)(j:inI k t b o A): inI k t (add k a b) (x+o) (y+A):=by
 refine⟨?_,?_⟩
 . rw[Xec];exact(Xau h).le_ad (Xba k t) i.1 j.1
 . rw[Xec];exact(Xau h).le_ad (Xba k t) i.2 j.2
theorem Xw4(h:Xbm k t){v s:El k}{a b c d m M:Rat}(i:inI k t v a b)(j:inI k t s c d)(B:0<=c)(I:m<=a*c)(O:m<=a*d)(Q:b*c<=M)(T:b*d<=M): inI k t (mul k t v s) m M:=by
 have S:=Xau h
 have L:=Xba k t
 have hs:0<=sgn k t s:=(Xii h).1 (le_tr h ((Xa1 h).2 B) j.1)
 have o:∀x:Rat,sgn k t (rat k x)=Xe3 x:=λx=>Xfa h
 refine⟨?_,?_⟩
 . have A:le k t (mul k t (rat k a) s) (mul k t v s):=by
    rw[L.mc _ s,L.mc _ s];exact S.le_ml L i.1 hs
   refine le_tr h ?_ A
   by_cases ha:0<=a
   . refine le_tr h ((Xa1 h).2 I) ?_
     rw[Xc8 k t]
     exact S.le_ml L j.1 (by rw[o];rcases Xa0 a with ⟨g,e⟩ | ⟨g,e⟩ | ⟨g,e⟩<;>rw[e]<;>first | decide | grind)
   . refine le_tr h ((Xa1 h).2 O) ?_
     rw[Xc8 k t]
     exact S.le_mn L j.2 (by rw[o,Xdt (by grind)];decide)
 . have A:le k t (mul k t v s) (mul k t (rat k b) s):=by
    rw[L.mc _ s,L.mc _ s];exact S.le_ml L i.2 hs
   refine le_tr h A ?_
   by_cases hb:0<=b
   . refine le_tr h ?_ ((Xa1 h).2 T)
     rw[Xc8 k t]
     exact S.le_ml L j.2 (by rw[o];rcases Xa0 b with ⟨g,e⟩ | ⟨g,e⟩ | ⟨g,e⟩<;>rw[e]<;>first | decide | grind)
   . refine le_tr h ?_ ((Xa1 h).2 Q)
     rw[Xc8 k t]
     exact S.le_mn L j.1 (by rw[o,Xdt (by grind)];decide)
end
section
variable{k:Nat}{t:Tw (k+1)}
theorem Xno(h:Xbm k t.1){a:El k}{x y:Rat}(i:inI k t.1 a x y): inI (k+1) t (up k a) x y:=by
 have e:∀a b:El k,add (k+1) (up k b) (neg (k+1) (up k a))=up k (add k b (neg k a)):=by
  intro a b
  show (add k b (neg k a),add k (zero k) (neg k (zero k)))=(add k b (neg k a),zero k)
  rw[(Xba k t.1).an]
 refine⟨?_,?_⟩
 . show 0<=sgn (k+1) t (add (k+1) (up k a) (neg (k+1) (up k (rat k x))))
   rw[e,Xu8 _ h];exact i.1
 . show 0<=sgn (k+1) t (add (k+1) (up k (rat k y)) (neg (k+1) (up k a)))
   rw[e,Xu8 _ h];exact i.2
def rt1(k:Nat): El (k+1):=(zero k,rat k 1)
theorem Yc9: mul (k+1) t (rt1 k) (rt1 k)=up k t.2:=by
 have L:=Xba k t.1
 simp only[mul,up,rt1,L.mz,L.zm,L.az,L.za,L.mo,L.om];rfl
theorem Xu9(h:Xbm k t.1): sgn (k+1) t (rt1 k)=1:=by
 have S:=Xau h
 have i:sgn k t.1 (rat k 1)=1:=S.s1
 have h0:sgn k t.1 (zero k)=0:=S.s0 (Xba k t.1)
 show (Xba k t.1).sx t.2 (sgn k t.1) (zero k,rat k 1)=1
 unfold Laws.sx
 rw[if_neg (by rw[i,h0];decide),if_pos h0,i]
theorem Xsu(a:El (k+1)): a=add (k+1) (up k a.1) (mul (k+1) t (up k a.2) (rt1 k)):=by
 have L:=Xba k t.1
 obtain⟨a,b⟩:=a
 simp only[add,mul,up,rt1,L.mz,L.zm,L.az,L.za,L.mo,L.om];rfl
theorem Xw3(h:Xbm (k+1) t){r1 A c d:Rat}(i:inI k t.1 t.2 r1 A)(I:0<=c)(hd:0<=d)(o:c*c<=r1\/c=0)(M:A<=d*d): inI (k+1) t (rt1 k) c d:=by
 have S:=Xau h
 have L:=Xba (k+1) t
 have O:=Xu9 (t:=t) h.1
 have B:=Xno h.1 i
 have j:∀x:Rat,0<=x->0<=sgn (k+1) t (rat (k+1) x):=λx Q=>by
  rw[Xfa h];rcases Xa0 x with ⟨g,e⟩ | ⟨g,e⟩ | ⟨g,e⟩<;>rw[e]<;>first | decide | grind
 refine⟨?_,?_⟩
 . rcases o with o | rfl
   . refine S.le_sq L (j c I) (by omega) ?_
     rw[<-Xc8,Yc9]
     exact le_tr h ((Xa1 h).2 o) B.1
   . exact(Xii h).2 (by omega)
 . refine S.le_sq L (by omega) (j d hd) ?_
   rw[<-Xc8,Yc9]
   exact le_tr h B.2 ((Xa1 h).2 M)
end
end
section
section
variable{k:Nat}{w:Tw k}{x:El k}
def tsn{k:Nat}(w:Tw k)(y:El k): Tw (k+1):=(w,y)
end
end
section
def Xcl(k:Nat)(t:Tw k)(a:El k): Prop:=∃w,mul k t w w=a
def red: (k:Nat)->Tw k->Prop
 | 0=>λ_=>True
 | k+1=>λt=>red k t.1/\sgn k t.1 t.2=1/\¬Xcl k t.1 t.2
theorem Xah: ∀ {k:Nat} {t:Tw k},red k t->Xbm k t
 | 0,_,_=>trivial
 | k+1,t,h=>⟨Xah h.1,h.2.1⟩
section
variable{α:Type}{add mul:α->α->α}{neg:α->α}{zero one:α}(L:Laws add mul neg zero one)
include L
theorem Laws.sub0{a b:α}(h:add a (neg b)=zero): a=b:=by
 have e:a=add (add a (neg b)) b:=(Laws.req L [a,b] (.v 0) (.add (.add (.v 0) (.neg (.v 1))) (.v 1)) (by decide +kernel))
 rw[e,h,L.za]
theorem Laws.sb{a b:α}(h:a=b): add a (neg b)=zero:=by rw[h,L.an]
theorem Laws.hi{h i m r u v x:α}(j:add h h=one)(o:mul x x=mul h (add u m))(A:mul m m=add (mul u u) (neg (mul (mul v v) r)))(hi:mul i (add x x)=one):
 add (mul x x) (mul (mul (mul v i) (mul v i)) r)=u/\add (mul x (mul v i)) (mul (mul v i) x)=v:=by
 have B:mul (mul v v) r=mul (add u (neg m)) (add u m):=by
  have:mul (mul v v) r=add (mul u u) (neg (mul m m)):=by
   rw[A];exact(Laws.req L [u,v,r] (.mul (.mul (.v 1) (.v 1)) (.v 2)) (.add (.mul (.v 0) (.v 0)) (.neg (.add (.mul (.v 0) (.v 0)) (.neg (.mul (.mul (.v 1) (.v 1)) (.v 2)))))) (by decide +kernel))
  rw[this];exact(Laws.req L [u,m] (.add (.mul (.v 0) (.v 0)) (.neg (.mul (.v 1) (.v 1)))) (.mul (.add (.v 0) (.neg (.v 1))) (.add (.v 0) (.v 1))) (by decide +kernel))
 have I:add u m=add (mul x x) (mul x x):=by
  rw[o,<-L.dm,j,L.om]
 have M:mul (mul i i) (add (mul x x) (mul x x))=h:=by
  have:mul (mul i i) (add (mul x x) (mul x x))=mul h (mul (mul i (add x x)) (mul i (add x x))):=by
   have O:mul h (mul (mul i (add x x)) (mul i (add x x)))=mul (add h h) (mul (mul i i) (add (mul x x) (mul x x))):=(Laws.req L [h,i,x] (.mul (.v 0) (.mul (.mul (.v 1) (.add (.v 2) (.v 2))) (.mul (.v 1) (.add (.v 2) (.v 2))))) (.mul (.add (.v 0) (.v 0)) (.mul (.mul (.v 1) (.v 1)) (.add (.mul (.v 2) (.v 2)) (.mul (.v 2) (.v 2))))) (by decide +kernel))
   rw[O,j,L.om]
  rw[this,hi,L.mo,L.mo]
 constructor
 . have Q:mul (mul (mul v i) (mul v i)) r=mul (add u (neg m)) h:=by
    have:mul (mul (mul v i) (mul v i)) r=mul (mul i i) (mul (mul v v) r):=(Laws.req L [v,i,r] (.mul (.mul (.mul (.v 0) (.v 1)) (.mul (.v 0) (.v 1))) (.v 2)) (.mul (.mul (.v 1) (.v 1)) (.mul (.mul (.v 0) (.v 0)) (.v 2))) (by decide +kernel))
    rw[this,B]
    have:mul (mul i i) (mul (add u (neg m)) (add u m))=mul (add u (neg m)) (mul (mul i i) (add u m)):=(Laws.req L [u,m,i] (.mul (.mul (.v 2) (.v 2)) (.mul (.add (.v 0) (.neg (.v 1))) (.add (.v 0) (.v 1)))) (.mul (.add (.v 0) (.neg (.v 1))) (.mul (.mul (.v 2) (.v 2)) (.add (.v 0) (.v 1)))) (by decide +kernel))
    rw[this,I,M]
   rw[Q,o]
   have:add (mul h (add u m)) (mul (add u (neg m)) h)=mul (add h h) u:=(Laws.req L [h,u,m] (.add (.mul (.v 0) (.add (.v 1) (.v 2))) (.mul (.add (.v 1) (.neg (.v 2))) (.v 0))) (.mul (.add (.v 0) (.v 0)) (.v 1)) (by decide +kernel))
   rw[this,j,L.om]
 . have:add (mul x (mul v i)) (mul (mul v i) x)=mul v (mul i (add x x)):=(Laws.req L [x,v,i] (.add (.mul (.v 0) (.mul (.v 1) (.v 2))) (.mul (.mul (.v 1) (.v 2)) (.v 0))) (.mul (.v 1) (.mul (.v 2) (.add (.v 0) (.v 0)))) (by decide +kernel))
   rw[this,hi,L.mo]
end
section
variable{k:Nat}{t:Tw k}
theorem Xq8(h:Xbm k t){a b:El k}(e:mul k t a b=zero k): sgn k t a=0\/sgn k t b=0:=by
 have:=(Xau h).sm a b
 rw[e,(Xau h).s0 (Xba k t)] at this
 exact Int.mul_eq_zero.1 this.symm
theorem Xeb: ∀ {k:Nat} {t:Tw k},red k t->(∀a,sgn k t a=0->a=zero k)/\(∀a,a≠zero k->∃b,inv k t a=some b)
 | 0,_,_=>by
  refine⟨λa h=>?_,λa h=>?_⟩
  . rcases Xa0 a with ⟨i,e⟩ | ⟨i,e⟩ | ⟨i,e⟩
    . exact absurd (show Xe3 a=0 from h) (by rw[e];decide)
    . exact i
    . exact absurd (show Xe3 a=0 from h) (by rw[e];decide)
  . have o:∀x:Rat,¬x=0->∃b,(if x=0 then none else some (1/x))=some b:=λx h=>⟨1/x,if_neg h⟩
    exact o a h
 | k+1,t,h=>by
  obtain⟨B,O⟩:=Xeb h.1
  have R:=Xah h.1
  have L:=Xba k t.1
  have S:=Xau R
  have A:∀x y:El k,norm k t (x,y)=zero k->x=zero k/\y=zero k:=by
   intro x y j
   have j:add k (mul k t.1 x x) (neg k (mul k t.1 (mul k t.1 y y) t.2))=zero k:=j
   by_cases Q:y=zero k
   . subst Q
     rw[L.mz,L.zm,L.nz,L.az] at j
     refine⟨B x ?_,rfl⟩
     rcases Xq8 R j with e | e<;>exact e
   . exfalso
     obtain⟨b,hb⟩:=O y Q
     have hb:=Xdb hb
     refine h.2.2 ⟨mul k t.1 x b,?_⟩
     have e:=L.sub0 j
     have I:mul k t.1 (mul k t.1 x b) (mul k t.1 x b)=mul k t.1 (mul k t.1 b b) (mul k t.1 x x):=(Laws.req L [x,b] (.mul (.mul (.v 0) (.v 1)) (.mul (.v 0) (.v 1))) (.mul (.mul (.v 1) (.v 1)) (.mul (.v 0) (.v 0))) (by decide +kernel))
     have M:mul k t.1 (mul k t.1 b b) (mul k t.1 (mul k t.1 y y) t.2)=mul k t.1 (mul k t.1 (mul k t.1 b y) (mul k t.1 b y)) t.2:=(Laws.req L [b,y,t.2] (.mul (.mul (.v 0) (.v 0)) (.mul (.mul (.v 1) (.v 1)) (.v 2))) (.mul (.mul (.mul (.v 0) (.v 1)) (.mul (.v 0) (.v 1))) (.v 2)) (by decide +kernel))
     rw[I,e,M,hb,L.mo,L.om]
  refine⟨λa ha=>?_,λa ha=>?_⟩
  . obtain⟨x,y⟩:=a
    have ha:L.sx t.2 (sgn k t.1) (x,y)=0:=ha
    have T:x=zero k/\y=zero k:=by
     unfold Laws.sx at ha
     split at ha
     . rename_i i
       have i:sgn k t.1 y=0\/sgn k t.1 x=sgn k t.1 y:=i
       have ha:sgn k t.1 x=0:=ha
       exact⟨B _ ha,B _ (by omega)⟩
     . rename_i i
       have i:¬(sgn k t.1 y=0\/sgn k t.1 x=sgn k t.1 y):=i
       split at ha
       . have ha:sgn k t.1 y=0:=ha
         omega
       . rename_i o
         have o:¬sgn k t.1 x=0:=o
         rcases Int.mul_eq_zero.1 ha with e | e
         . exact absurd e o
         . exact A x y (B _ e)
    rw[T.1,T.2];rfl
  . have j:norm k t a≠zero k:=λe=>ha (by
     obtain⟨x,y⟩:=a
     obtain⟨I,M⟩:=A x y e
     rw[I,M];rfl)
    obtain⟨b,hb⟩:=O _ j
    refine⟨(mul k t.1 a.1 b,neg k (mul k t.1 a.2 b)),?_⟩
    show (match inv k t.1 (norm k t a) with | none=>none | some n=>some (mul k t.1 a.1 n,neg k (mul k t.1 a.2 n)))=_
    rw[hb];rfl
theorem Xbu(h:red k t){a:El k}: sgn k t a=0↔a=zero k :=
 ⟨(Xeb h).1 a,λe=>by rw[e];exact(Xau (Xah h)).s0 (Xba k t)⟩
theorem Xhf(h:red k t){a b:El k}(e:mul k t a b=zero k): a=zero k\/b=zero k :=
 (Xq8 (Xah h) e).imp (Xbu h).1 (Xbu h).1
theorem Xuz(h:red k t){a b:El k}(e:mul k t a a=mul k t b b): a=b\/a=neg k b:=by
 have L:=Xba k t
 have j:mul k t (add k a (neg k b)) (add k a b)=add k (mul k t a a) (neg k (mul k t b b)):=(Laws.req L [a,b] (.mul (.add (.v 0) (.neg (.v 1))) (.add (.v 0) (.v 1))) (.add (.mul (.v 0) (.v 0)) (.neg (.mul (.v 1) (.v 1)))) (by decide +kernel))
 rw[L.sb e] at j
 rcases Xhf h j with i | i
 . exact .inl (L.sub0 i)
 . right
   rw[L.ac] at i
   exact L.nu i
theorem Xqy(h:red k t){a b:El k}(e:mul k t a a=mul k t b b)(ha:0<=sgn k t a)(hb:0<=sgn k t b): a=b:=by
 rcases Xuz h e with i | i
 . exact i
 . rw[i,(Xau (Xah h)).sn] at ha
   have j:b=zero k:=(Xbu h).1 (by omega)
   rw[i,j,(Xba k t).nz]
theorem Yn7(h:Xbm k t){a:El k}(e:Xcl k t a): 0<=sgn k t a:=by
 obtain⟨w,rfl⟩:=e
 rw[(Xau h).sm]
 exact(Xd3 (Xc6 t w)).1
theorem Yrr(h:red k t){a:El k}(e:add k a a=zero k): a=zero k:=by
 rw[<-Xbu h] at e |-
 rwa[(Xau (Xah h)).same (Xba k t) rfl] at e
theorem Xf2: add k (rat k (1/2)) (rat k (1/2))=rat k 1:=by
 rw[<-Xec];congr 1;grind
end
section
variable{k:Nat}{t:Tw (k+1)}
theorem Yi8{w u:El k}(e:mul k t.1 w w=u): mul (k+1) t (up k w) (up k w)=up k u:=by rw[Xwc,e]
theorem Xu1{w u i:El k}(hi:mul k t.1 i t.2=rat k 1)(e:mul k t.1 w w=mul k t.1 u i): mul (k+1) t (zero k,w) (zero k,w)=up k u:=by
 have L:=Xba k t.1
 have hi:=hi
 refine W3a ?_ ?_
 . show add k (mul k t.1 (zero k) (zero k)) (mul k t.1 (mul k t.1 w w) t.2)=u
   rw[e,L.mz,L.za,L.ma,hi,L.mo]
 . show add k (mul k t.1 (zero k) w) (mul k t.1 w (zero k))=zero k
   rw[L.mz,L.zm,L.az]
theorem Xms(h:red k t.1){u i:El k}(hi:mul k t.1 i t.2=rat k 1)(B:¬Xcl k t.1 u)(I:¬Xcl k t.1 (mul k t.1 u i)): ¬Xcl (k+1) t (up k u):=by
 rintro⟨⟨p,q⟩,e⟩
 have L:=Xba k t.1
 have o:add k (mul k t.1 p p) (mul k t.1 (mul k t.1 q q) t.2)=u:=congrArg Prod.fst e
 have A:add k (mul k t.1 p q) (mul k t.1 q p)=zero k:=congrArg Prod.snd e
 rw[L.mc q p] at A
 rcases Xhf h (Yrr h A) with j | j
 . refine I ⟨q,?_⟩
   rw[<-o,j,L.mz,L.za]
   have:mul k t.1 (mul k t.1 (mul k t.1 q q) t.2) i=mul k t.1 (mul k t.1 q q) (mul k t.1 i t.2):=(Laws.req L [q,t.2,i] (.mul (.mul (.mul (.v 0) (.v 0)) (.v 1)) (.v 2)) (.mul (.mul (.v 0) (.v 0)) (.mul (.v 2) (.v 1))) (by decide +kernel))
   rw[this,hi,L.mo]
 . exact B ⟨p,by rw[<-o,j,L.mz,L.zm,L.az]⟩
theorem Yja{u v m w i:El k}(h:mul k t.1 m m=norm k t (u,v))(j:mul k t.1 w w=mul k t.1 (rat k (1/2)) (add k u m))(hi:mul k t.1 i (add k w w)=rat k 1):
 mul (k+1) t (w,mul k t.1 v i) (w,mul k t.1 v i)=(u,v):=by
 obtain⟨o,A⟩:=(Xba k t.1).hi Xf2 j h hi
 exact W3a o A
theorem Xu0{a:El (k+1)}(h:Xcl (k+1) t a): Xcl k t.1 (norm k t a):=by
 obtain⟨w,rfl⟩:=h
 exact⟨norm k t w,by rw[Xr2]⟩
theorem Xqz(h:red k t.1){u v m:El k}(A:v≠zero k)(B:mul k t.1 m m=norm k t (u,v))(hs:Xcl (k+1) t (u,v)):
 ∃p,p≠zero k/\(mul k t.1 p p=mul k t.1 (rat k (1/2)) (add k u m)\/mul k t.1 p p=mul k t.1 (rat k (1/2)) (add k u (neg k m))):=by
 obtain⟨⟨p,q⟩,e⟩:=hs
 have L:=Xba k t.1
 have I:add k (mul k t.1 p p) (mul k t.1 (mul k t.1 q q) t.2)=u:=congrArg Prod.fst e
 have M:add k (mul k t.1 p q) (mul k t.1 q p)=v:=congrArg Prod.snd e
 have o:add k (rat k (1/2)) (rat k (1/2))=rat k 1:=Xf2
 refine⟨p,λO=>A (by rw[<-M,O,L.mz,L.zm,L.az]),?_⟩
 have i:mul k t.1 p p=mul k t.1 (rat k (1/2)) (add k u (norm k t (p,q))):=by
  rw[<-I]
  show _=mul k t.1 (rat k (1/2)) (add k _ (add k (mul k t.1 p p) (neg k (mul k t.1 (mul k t.1 q q) t.2))))
  generalize rat k (1/2)=c at o |-
  have Q:mul k t.1 c (add k (add k (mul k t.1 p p) (mul k t.1 (mul k t.1 q q) t.2)) (add k (mul k t.1 p p) (neg k (mul k t.1 (mul k t.1 q q) t.2))))=mul k t.1 (add k c c) (mul k t.1 p p):=(Laws.req L [c,p,q,t.2] (.mul (.v 0) (.add (.add (.mul (.v 1) (.v 1)) (.mul (.mul (.v 2) (.v 2)) (.v 3))) (.add (.mul (.v 1) (.v 1)) (.neg (.mul (.mul (.v 2) (.v 2)) (.v 3)))))) (.mul (.add (.v 0) (.v 0)) (.mul (.v 1) (.v 1))) (by decide +kernel))
  rw[Q,o,L.om]
 have T:mul k t.1 m m=mul k t.1 (norm k t (p,q)) (norm k t (p,q)):=by
  rw[B,<-e]
  exact Xr2 k t (pr p q) (pr p q)
 rcases Xuz h T with j | j
 . left;rw[j];exact i
 . right;rw[j,L.nn];exact i
end
theorem Yas{k:Nat}{t:Tw k}{a b i:El k}(h:mul k t b a=rat k 1)(j:mul k t i a=rat k 1): b=i:=by
 have L:=Xba k t
 have e:mul k t b (mul k t i a)=mul k t i (mul k t b a):=(Laws.req L [a,b,i] (.mul (.v 1) (.mul (.v 2) (.v 0))) (.mul (.v 2) (.mul (.v 1) (.v 0))) (by decide +kernel))
 rw[h,j,L.mo,L.mo] at e
 exact e
theorem Yay{k:Nat}{t:Tw k}{w i:El k}(h:mul k t i w=rat k 1): mul k t (mul k t (rat k (1/2)) i) (add k w w)=rat k 1:=by
 have L:=Xba k t
 have j:add k (rat k (1/2)) (rat k (1/2))=rat k 1:=Xf2
 generalize rat k (1/2)=c at j |-
 have e:mul k t (mul k t c i) (add k w w)=mul k t (add k c c) (mul k t i w):=(Laws.req L [c,i,w] (.mul (.mul (.v 0) (.v 1)) (.add (.v 2) (.v 2))) (.mul (.add (.v 0) (.v 0)) (.mul (.v 1) (.v 2))) (by decide +kernel))
 rw[e,h,L.mo,j]
theorem Yi7{k:Nat}{t:Tw (k+1)}(h:red (k+1) t){u v m w:El k}(O:v≠zero k)(Q:mul k t.1 m m=norm k t (u,v))(i:mul k t.1 w w=mul k t.1 (rat k (1/2)) (add k u m)): w≠zero k:=by
 intro e
 have L:=Xba k t.1
 have A:add k (rat k (1/2)) (rat k (1/2))=rat k 1:=Xf2
 generalize rat k (1/2)=c at A i
 rw[e,L.mz] at i
 have B:add k u m=add k (mul k t.1 c (add k u m)) (mul k t.1 c (add k u m)):=by rw[<-L.dm,A,L.om]
 rw[<-i,L.az] at B
 have j:mul k t.1 m m=add k (mul k t.1 u u) (neg k (mul k t.1 (mul k t.1 v v) t.2)):=Q
 have I:mul k t.1 (mul k t.1 v v) t.2=add k (mul k t.1 u u) (neg k (mul k t.1 m m)):=by
  rw[j];exact(Laws.req L [u,v,t.2] (.mul (.mul (.v 1) (.v 1)) (.v 2)) (.add (.mul (.v 0) (.v 0)) (.neg (.add (.mul (.v 0) (.v 0)) (.neg (.mul (.mul (.v 1) (.v 1)) (.v 2)))))) (by decide +kernel))
 have T:add k (mul k t.1 u u) (neg k (mul k t.1 m m))=mul k t.1 (add k u (neg k m)) (add k u m):=(Laws.req L [u,m] (.add (.mul (.v 0) (.v 0)) (.neg (.mul (.v 1) (.v 1)))) (.mul (.add (.v 0) (.neg (.v 1))) (.add (.v 0) (.v 1))) (by decide +kernel))
 rw[T,B,L.mz] at I
 have S:=Xau (Xah h.1)
 rcases Xhf h.1 I with o | o
 . rcases Xhf h.1 o with M | M<;>exact O M
 . have:=h.2.1
   rw[o,S.s0 L] at this
   cases this
end
end Go.Tow
namespace Go.Proofs.YtcmjannkbdflmaaGreatDoor
open Go Go.Num Go.Tow
def nS(r k p:Nat): Nat:=2*p+2*cB r k+r+1
theorem Sz.normS{r k p:Nat}{t:Tw (k+1)}{a:El (k+1)}(M:TS r (k+1) t)(h:Sz p (toL (k+1) a)): Sz (nS r k p) (toL k (Tow.norm k t a)):=by
 obtain⟨E,j,O,o⟩:=Xlk M.1
 obtain⟨d,i,Q,d2⟩:=h
 obtain⟨g,g0,Z,g2⟩:=M.2
 have T:IsD d (2^p) (toL k a.1):=d2.left
 have U:IsD d (2^p) (toL k a.2):=d2.right
 have h1:=(o _ _ d d _ _ i i T T).scale (W1p j g0)
 have V:=o _ _ (d*d*E) g _ _ (W1p (W1p i i) j) g0 (o _ _ d d _ _ i i U U) g2
 rw[show d*d*E*g*E=d*d*E*(E*g) by rw[W0t (d*d*E),W1f g E]] at V
 have Y:E*g<=2^cB r k*2^r:=W1z O (W2e Z)
 have A:2^(2*p+2*cB r k+r)=2^p*2^p*2^cB r k*(2^cB r k*2^r):=by
  rw[<-W1a,<-W1a,<-W1a,<-W1a];congr 1;omega
 have B:IsD (d*d*E*(E*g)) (2^(2*p+2*cB r k+r)) (toL k (Tow.mul k t.1 a.1 a.1)):=h1.mono (by rw[A];exact W0p _ Y)
 have I:IsD (d*d*E*(E*g)) (2^(2*p+2*cB r k+r)) (toL k (Tow.mul k t.1 (Tow.mul k t.1 a.2 a.2) t.2)):=V.mono (by
  rw[A,W0t (2^p*2^p*2^cB r k),W1f (2^r)];exact W0c _)
 rw[Tow.norm,Xas,Xbw]
 refine⟨d*d*E*(E*g),W1p (W1p (W1p i i) j) (W1p j g0),?_,(B.add I.neg).mono (by unfold nS;rw[W0q 2 (2*p+2*cB r k+r)];omega)⟩
 have h3:d*d*E*(E*g)<2^p*2^p*(2^cB r k*(2^cB r k*2^r)):=by
  rw[W0t (d*d)]
  refine W0u (W3n (W5d Q Q) (W1p j (W1p j g0))) (W0p _ (W1z O Y))
 have h4:2^nS r k p=2^(2*p+2*cB r k+r)*2:=by unfold nS;rw[W0q]
 rw[h4,A,W0t (2^p*2^p)]
 omega
theorem Sz.scal{r k p q:Nat}{t:Tw k}{x y n:El k}(O:TS r k t)(h:Sz p (toL k x++toL k y))(Q:Sz q (toL k n)): Sz (p+q+cB r k) (toL k (Tow.mul k t x n)++toL k (Tow.mul k t y n)):=by
 obtain⟨E,o,T,A⟩:=Xlk O
 obtain⟨d,i,U,d2⟩:=h
 obtain⟨e,j,V,B⟩:=Q
 have I:=A _ _ d e _ _ i j d2.left B
 have M:=A _ _ d e _ _ i j d2.right B
 rw[<-W1a,<-W1a] at I M
 refine⟨d*e*E,W1p (W1p i j) o,?_,I.append M⟩
 rw[W1a,W1a]
 exact W0u (W3n (W5d U V) o) (W0p _ T)
def iS(r:Nat): Nat->Nat->Nat
 | 0,p=>p+1
 | k+1,p=>p+iS r k (nS r k p)+cB r k
theorem IsD.neg2{d n:Nat}{l m:List Rat}(h:IsD d n (l++m)): IsD d n (l++m.map (- ·)):=h.left.append h.right.neg
theorem Sz.neg2{p:Nat}{l m:List Rat}(h:Sz p (l++m)): Sz p (l++m.map (- ·)):=by
 obtain⟨d,h0,i,j⟩:=h
 exact⟨d,h0,i,j.neg2⟩
theorem Sz.invS{r k p:Nat}{t:Tw k}{a b:El k}(i:TS r k t)(h:Sz p (toL k a))(hb:Tow.inv k t a=some b): Sz (iS r k p) (toL k b):=by
 induction k generalizing p with
 | zero=>exact h.inv i hb
 | succ k j =>
  simp only[Tow.inv] at hb
  split at hb
  . cases hb
  . rename_i n o
    injection hb with hb
    subst hb
    have A:=j i.1 (h.normS i) o
    show Sz _ (toL k _++toL k (Tow.neg k _))
    rw[Xbw]
    exact(Sz.scal i.1 h A).neg2
theorem Sz.dbl{p:Nat}{l:List Rat}(h:Sz p l): Sz (p+1) (List.zipWith (·+·) l l):=by
 obtain⟨d,h0,j,i⟩:=h
 exact⟨d,h0,by rw[W0q];omega,(i.add i).mono (by rw[W0q];omega)⟩
theorem Xpz{r:Nat}{k:Nat}: ∀ {s:Nat},r<=s->cB r k<=cB s k:=by
 induction k with
 | zero=>intro s h;exact W0c _
 | succ k i=>intro s h;have:=i h;show 2*cB r k+r+1<=2*cB s k+s+1;omega
theorem Xv9{r s k p q:Nat}(hr:r<=s)(h:p<=q): nS r k p<=nS s k q:=by have:=Xpz (k:=k) hr;unfold nS;omega
theorem Xw9{r s:Nat}(hr:r<=s): ∀ {k p q:Nat},p<=q->iS r k p<=iS s k q
 | 0,p,q,h=>by show p+1<=q+1;omega
 | k+1,p,q,h=>by
  have i:=Xw9 hr (Xv9 (k:=k) hr h) (k:=k)
  have j:=Xpz (k:=k) hr
  show p+iS r k (nS r k p)+cB r k<=q+iS s k (nS s k q)+cB s k
  omega
theorem Xpn{r s:Nat}(hr:r<=s): ∀ {k p q:Nat},p<=q->iB r k p<=iB s k q
 | 0,p,q,h=>by show p+1<=q+1;omega
 | k+1,p,q,h=>by
  have i:=Xpz (k:=k) hr
  have j:=Xpn hr (show nB r k p<=nB s k q by unfold nB;omega) (k:=k)
  show 2*(p+iB r k (nB r k p)+cB r k)<=2*(q+iB s k (nB s k q)+cB s k)
  omega
theorem Xro(x:Rat): (x*x).num=x.num*x.num/\(x*x).den=x.den*x.den:=by
 have h:(x.num*x.num).natAbs.gcd (x.den*x.den)=1:=by
  rw[W4n]
  exact Nat.Coprime.mul_right (Nat.Coprime.mul_left x.reduced x.reduced) (Nat.Coprime.mul_left x.reduced x.reduced)
 rw[Rat.num_mul,Rat.den_mul,h]
 exact⟨Int.ediv_one _,Nat.div_one _⟩
theorem rt_sq(n:Nat): rt (n*n)=n:=Yjl (W0c _) (by rw[W1i,W0z];omega)
def sqN(n:Nat): Prop:=rt n*rt n=n
theorem Xkz{q:Rat}(h0:0<=q.num)(i:sqN q.num.natAbs)(h:sqN q.den): ∃x:Rat,x.num=(rt q.num.natAbs:Int)/\x.den=rt q.den/\x*x=q:=by
 have hd:rt q.den≠0:=λe=>q.den_nz (by rw[<-h,e])
 have j:(rt q.num.natAbs).Coprime (rt q.den):=by
  have:=q.reduced
  rw[<-i,<-h] at this
  exact Nat.Coprime.coprime_mul_right (Nat.Coprime.coprime_mul_right_right this)
 refine⟨⟨(rt q.num.natAbs:Int),rt q.den,hd,by rw[W1m];exact j⟩,rfl,rfl,?_⟩
 refine Rat.ext ?_ ?_
 . rw[(Xro _).1]
   show (rt q.num.natAbs:Int)*(rt q.num.natAbs:Int)=q.num
   have:((rt q.num.natAbs*rt q.num.natAbs:Nat):Int)=(q.num.natAbs:Int):=by rw[i]
   rw[W2z] at this
   rw[this];omega
 . rw[(Xro _).2];exact h
theorem Xu3{q:Rat}: (∃x:Rat,x*x=q)↔0<=q.num/\sqN q.num.natAbs/\sqN q.den:=by
 refine⟨?_,λ⟨h0,i,j⟩=>let ⟨x,_,_,h⟩:=Xkz h0 i j;⟨x,h⟩⟩
 rintro⟨x,rfl⟩
 obtain⟨o,A⟩:=Xro x
 rw[o,A]
 refine⟨?_,?_,?_⟩
 . rcases Int.le_total 0 x.num with h | h
   . exact Int.mul_nonneg h h
   . exact Int.mul_nonneg_of_nonpos_of_nonpos h h
 . unfold sqN;rw[W4n,rt_sq]
 . unfold sqN;rw[rt_sq]
theorem Sz.half{k:Nat}: Sz 3 (toL k (Tow.rat k (1/2))):=Sz.rat (p:=2) k ⟨show (1/2:Rat).num.natAbs<2^2 by decide +kernel,show ((1/2:Rat).den:Int).natAbs<2^2 by decide +kernel⟩
open Go Go.Vm Go.Num Go.Tow
section
variable{k:Nat}
theorem hvL(a:Tow.El (k+1)): ((toL k a.1++toL k a.2).map dq).length=2*2^k:=by rw[lq,W0d,Xab,Xab];omega
theorem hvT(a:Tow.El (k+1)): ((toL k a.1++toL k a.2).map dq).take (2^k)=(toL k a.1).map dq:=by rw[<-W3d,<-Xab k a.1,W7k]
theorem hvD(a:Tow.El (k+1)): ((toL k a.1++toL k a.2).map dq).drop (2^k)=(toL k a.2).map dq:=by rw[<-List.map_drop,<-Xab k a.1,W8j]
theorem Xcc(a:Tow.El (k+1)): 2^k<=((toL k a.1++toL k a.2).map dq).length:=by rw[hvL];have:=W0r k;omega
theorem twL(t:Tw (k+1)): ((toT k t.1++[toL k t.2]).map dqs).length=k+1:=by rw[lt',W0d,Xaa];rfl
theorem Xg3(t:Tw (k+1)): k<=((toT k t.1++[toL k t.2]).map dqs).length:=by rw[twL];omega
theorem twT(t:Tw (k+1)): ((toT k t.1++[toL k t.2]).map dqs).take k=(toT k t.1).map dqs:=by rw[<-W3d,W7a (Xaa k t.1)]
theorem twU(t:Tw (k+1)): ((toT k t.1++[toL k t.2]).map dqs)[k]?=some (de t.2):=by rw[W0w,W0o (by rw[Xaa];exact W0c _),Xaa,W2v];rfl
theorem hvq(a:Tow.El (k+1))(h:k<=16): arB .quo .i64 (((toL k a.1++toL k a.2).map dq).length:Nat) 2 (2^k:Nat):=Ynb (hvL a) (W0l (p16 h) (by decide))
theorem tw1(t:Tw (k+1))(h:k<=16): arB .sub .i64 (((toT k t.1++[toL k t.2]).map dqs).length:Nat) 1 k:=wr (by rw[twL];omega) (by simp only[inK];omega)
end
end Go.Proofs.YtcmjannkbdflmaaGreatDoor
namespace Go.Proofs.YtcmjannkbdflmaaGreatDoor.R6
open Go Go.Vm Go.Num Go.Tow Go.Proofs.YtcmjannkbdflmaaGreatDoor
theorem Norm_ok{k r s:Nat}{t:Tw (k+1)}{a:Tow.El (k+1)}(h:TS r (k+1) t)(ha:Sz s (toL (k+1) a))(o:k+1<=16)(hs:nB r k s<=4398046511104): C0 342 [.d (dt t),.d (de a)] (·=.d (de (Tow.norm k t a))):=by
 have j:Sz s (toL k a.1):=Sz.left ha
 have i:Sz s (toL k a.2):=Sz.right ha
 have A:nB r k s=4*s+3*cB r k+r+1:=rfl
 refine En Tryz.func342 λ_ _ _=>?_
 refine Ar (2^k:Nat) rfl ?_ (hvq a (by omega))
 refine Dw rfl<|Ar k rfl ?_ (tw1 t (by omega))
 refine Tk k ((toT k t.1).map dqs) rfl rfl (Xg3 t) (twT t) ?_
 refine Ar k rfl ?_ (tw1 t (by omega))
 refine Ix k rfl (twU t)<|Dw rfl<|Tk (2^k) ((toL k a.1).map dq) rfl rfl (Xcc a) (hvT a) ?_
 refine Tk (2^k) ((toL k a.1).map dq) rfl rfl (Xcc a) (hvT a) ?_
 refine Ce rfl (Mul_el h.1 j j (by omega) (by omega))<|Dp (2^k) ((toL k a.2).map dq) rfl rfl (Xcc a) (hvD a) ?_
 refine Dp (2^k) ((toL k a.2).map dq) rfl rfl (Xcc a) (hvD a) ?_
 exact Ce rfl (Mul_el h.1 i i (by omega) (by omega))<|Ce rfl (Mul_el h.1 (i.mul h.1 i) h.2 (by omega) (by omega))<|Ce rfl (Sub_el (by omega) (j.mul h.1 j).ps ((i.mul h.1 i).mul h.1 h.2) (by omega))<|R0
theorem Root_ok{k i r:Nat}{t:Tw k}(h:k<=16)(hi:i<k): C0 391 [.d (dt t),.d (.int .i64 i)] (·=.d (de (Xf9 k i))):=by
 have hp:=p16 h
 have j:2^i<2^k:=W3y (by decide) hi
 have h0:=W0r k
 have e:(0:Rat)::List.replicate (2^(toT k t).length-1) 0=List.replicate (2^k) 0:=by rw[Xaa,<-W3p,show 2^k-1+1=2^k by omega]
 refine En Tryz.func391 λ_ _ _=>?_
 refine Ce rfl (R2.FromInt_ok (z:=0) (by decide))<|Cr rfl (e ▸ Xjf (t:=toT k t) (x:=0) (by rw[Xaa];omega) (by rw[Xaa];omega)) ?_
 refine Dw rfl<|Ar (2^i:Nat) rfl ?_ (Xbo (by omega))
 refine Ce rfl (R2.FromInt_ok (z:=1) (by decide))<|Eo (2^i) rfl (by simp only[lq,W1w];omega)<|Sto rfl (by simp only[lq,W1w];omega) (ms (f:=dq) (u:=1)) ?_
 refine R1 rfl (.own rfl (by simp) ?_)
 rw[W0y,<-Xqn hi]
 exact W0b (by simp[Xab])
def Yrz(k:Nat)(zs:List D)(v:AV)(H':Hpl): Prop:=(k=0/\v=.tup (.pr (.lit 4 zs) (.d (.int .i64 0)))/\H'=[])\/(v=.tup (.pr (.gr 1000000 4 zs) (.d (.int .i64 0)))/\H'=[(1000000,.tok zs.length 4)])
theorem Yrk(x:Rat): x⁻¹=1/x:=by rw[W5z,Rat.one_mul]
theorem Yfj{k:Nat}{t:Tw k}(h:red k t){a:Tow.El k}(h0:a≠zero k): ∃b,Tow.inv k t a=some b:=(Xeb h).2 a h0
theorem Yfx{k:Nat}{t:Tw k}(h:red k t): zero k≠rat k 1:=λe=>by
 have i:=Xfa (x:=1) (Xah h)
 rw[<-e,(Xbu h).2 rfl,Xbh (by decide)] at i
 cases i
theorem Xw2{k:Nat}{t:Tw k}(h:red k t){a b:Tow.El k}(e:Tow.inv k t a=some b): a≠zero k:=λh0=>by
 have i:=Xdb e
 rw[h0,(Xba k t).mz] at i
 exact Yfx h i
theorem Ygj{k:Nat}{t:Tw (k+1)}{a:Tow.El (k+1)}{x:Tow.El k}{y:Tow.El (k+1)}(ha:a.2=zero k)(h:Tow.inv k t.1 a.1=some x)(i:Tow.inv (k+1) t a=some y): y=(x,zero k):=by
 refine Yas (t:=t) (a:=a) (Xdb i) ?_
 have e:a=up k a.1:=by show (a.1,a.2)=(a.1,zero k);rw[ha]
 rw[e]
 exact(Xwc k t x a.1).trans (by rw[Xdb h];rfl)
theorem Yh9{k:Nat}: ∀ {r s:Nat} {t:Tw k} {a:Tow.El k},TS r k t->Sz s (toL k a)->red k t->a≠zero k->k<=16->iB r k s<=4398046511104->∃x,Tow.inv k t a=some x/\CW0 444 [.d (dt t),.d (de a)] [] (Yrz k ((toL k x).map dq)):=by
 induction k with
 | zero =>
  intro r s t a j ha O h0 T hs
  have hs:s+1<=4398046511104:=hs
  have e:∀y:Rat,y≠0->Tow.inv 0 () y=some (1/y:Rat):=λy M=>by rw[Yot,if_neg M]
  refine⟨_,e a h0,?_⟩
  refine EnW Tryz.func444 λ_ _ _ _=>?_
  exact Yes rfl rfl<|Ix 0 rfl (u:=dq a) rfl<|No rfl (λh=>h0 (R2.zero_of h))<|Ix 0 rfl (u:=dq a) rfl<|Ce rfl (R2.Inv_ok (ha.qs (W0f.2 rfl)) (by omega) h0)<|Rw [] [] rfl (.tup (.cons (.rf rfl) (.one (.rf rfl) (λ_ _ e=>by cases e) (λ_ _ e=>by cases e)))) (.inl ⟨rfl,by rw[Yrk a];rfl,rfl⟩)
 | succ k ih =>
  intro r s t a j ha O h0 T hs
  have hx:Sz s (toL k a.1):=Sz.left ha
  have M:Sz s (toL k a.2):=Sz.right ha
  have B:=Xab k
  have hp:=p16 T
  have hp1:2^(k+1)=2*2^k:=by rw[W0q];omega
  have hpk:=W0r k
  obtain⟨hi1,hi2⟩:=Xxc hs
  have hN:=ha.norm j
  have hge:=Yaw r k (nB r k s)
  have hiB1:=Xpn (W0c r) (Xwb r k s) (k:=k)
  obtain⟨x,i⟩:=Yfj O h0
  refine⟨x,i,?_⟩
  have fit:∀ {g:Hp} {K:Hpl} {o:Nat} {zs:List D},Xdc K (.gr o 4 zs)=true->FitR g K (.tup (.pr (.gr o 4 zs) (.d (.int .i64 0)))) (.tup (.pr (.gr o 4 zs) (.d (.int .i64 0)))):=λh=>.tup (.cons (.rf h) (.one (.rf rfl) (λ_ _ e=>by cases e) (λ_ _ e=>by cases e)))
  refine EnW Tryz.func444 λ_ _ _ _=>?_
  refine No rfl (by show ¬((((toT k t.1++[toL k t.2]).map dqs).length:Nat):Int)=0;rw[twL];omega)<|Ar (2^k:Nat) rfl ?_ (hvq a (by omega))
  refine Ar k rfl ?_ (tw1 t (by omega))
  refine Tk k ((toT k t.1).map dqs) rfl rfl (Xg3 t) (twT t) ?_
  refine Dp (2^k) ((toL k a.2).map dq) rfl rfl (Xcc a) (hvD a) ?_
  refine Ce rfl (Zero_ok (l:=toL k a.2) (by rw[B];omega))<|By rfl (λh1=>?_) λh1=>?_
  . have ea:=(Xar k a.2).2 h1
    have e1:a.1≠zero k:=λe=>h0 (by show (a.1,a.2)=(zero k,zero k);rw[e,ea])
    obtain⟨y,A,U⟩:=ih j.1 hx O.1 e1 (by omega) (by omega)
    have ex:=Ygj ea A i
    have el:(toL (k+1) x).map dq=(toL k y).map dq++((0:Rat)::List.replicate (2^(toT k t.1).length-1) 0).map dq:=by
     rw[ex,<-W1k,Xaa,<-W3p,show 2^k-1+1=2^k by omega,<-Xbt];rfl
    have V:((toL (k+1) x).map dq).length<=1048576:=by rw[lq,Xab];omega
    refine Tk (2^k) ((toL k a.1).map dq) rfl rfl (Xcc a) (hvT a) ?_
    refine Cw [] rfl U λv H' _ Y=>?_
    rcases Y with ⟨_,rfl,rfl⟩ | ⟨rfl,rfl⟩
    . refine No rfl (by simp)<|Ce rfl (R2.FromInt_ok (z:=0) (by decide))<|Ce rfl (FromRat_ok (t:=toT k t.1) (x:=0) (by rw[Xaa];omega))<|ApL ((toL (k+1) x).map dq) rfl el.symm (by simp only[lq,W0j];omega) (by omega) ?_
      refine Og 4 rfl rfl ?_
      exact Rw [(54,1000000)] [(1000000,.tok ((toL (k+1) x).map dq).length 4)] rfl (fit rfl) (.inr ⟨rfl,rfl⟩)
    . refine No rfl (by simp)<|Ce rfl (R2.FromInt_ok (z:=0) (by decide))<|Ce rfl (FromRat_ok (t:=toT k t.1) (x:=0) (by rw[Xaa];omega))<|ApG ((toL (k+1) x).map dq) rfl el.symm (by omega) ?_
      exact Rw [(54,1000000)] [(1000000,.tok ((toL (k+1) x).map dq).length 4)] rfl (fit rfl) (.inr ⟨rfl,rfl⟩)
  . have Z:Tow.norm k t a≠zero k:=by
     have Q:Tow.inv (k+1) t a=match Tow.inv k t.1 (Tow.norm k t a) with | none=>none | some x=>some (mul k t.1 a.1 x,Tow.neg k (mul k t.1 a.2 x)):=rfl
     cases h2:Tow.inv k t.1 (Tow.norm k t a) with
     | none=>rw[i,h2] at Q;cases Q
     | some y=>exact Xw2 O.1 h2
    obtain⟨y,A,U⟩:=ih j.1 hN O.1 Z (by omega) (by omega)
    have I:=hN.inv j.1 A
    have ex:x=(mul k t.1 a.1 y,Tow.neg k (mul k t.1 a.2 y)):=by
     have Q:Tow.inv (k+1) t a=match Tow.inv k t.1 (Tow.norm k t a) with | none=>none | some x=>some (mul k t.1 a.1 x,Tow.neg k (mul k t.1 a.2 x)):=rfl
     rw[i,A] at Q;injection Q
    have en:Tow.neg k (mul k t.1 a.2 y)=mul k t.1 (Tow.neg k a.2) y:=((Xba k t.1).nm _ _).symm
    have el:(toL (k+1) x).map dq=(toL k (mul k t.1 a.1 y)).map dq++(toL k (mul k t.1 (Tow.neg k a.2) y)).map dq:=by rw[ex,en,<-W1k];rfl
    have V:((toL (k+1) x).map dq).length<=1048576:=by rw[lq,Xab];omega
    have hcd:C0 444 [.d (dt t.1),.d (de (Tow.norm k t a))] (·=.tup (.pr (.d (de y)) (.d (.int .i64 0)))):=CW.data U rfl λv H' Y=>by
     rcases Y with ⟨_,rfl,rfl⟩ | ⟨rfl,rfl⟩
     . exact⟨_,.tup (.cons (.lit rfl) (.one (.rf rfl) (λ_ _ e=>by cases e) (λ_ _ e=>by cases e))),rfl⟩
     . exact⟨_,.tup (.cons (.gr rfl) (.one (.rf rfl) (λ_ _ e=>by cases e) (λ_ _ e=>by cases e))),rfl⟩
    refine Ce rfl (Norm_ok j ha T (by omega))<|Ce rfl hcd<|No rfl (by simp)<|Dw rfl<|Tk (2^k) ((toL k a.1).map dq) rfl rfl (Xcc a) (hvT a) ?_
    rcases Xs9 j.1 hx I (by omega) (by omega) with hm | hm
    . refine Ce rfl hm<|Dp (2^k) ((toL k a.2).map dq) rfl rfl (Xcc a) (hvD a) ?_
      refine Ce rfl (Neg_el (by omega) M.ps (by omega))<|Ce rfl (Mul_el j.1 (Xg0 M) I (by omega) (by omega))<|ApL ((toL (k+1) x).map dq) rfl el.symm (by rw[lq,B];omega) (by omega) ?_
      refine Og 4 rfl rfl ?_
      exact Rw [(80,1000000)] [(1000000,.tok ((toL (k+1) x).map dq).length 4)] rfl (fit rfl) (.inr ⟨rfl,rfl⟩)
    . refine Cg rfl hm ?_
      refine Dp (2^k) ((toL k a.2).map dq) rfl rfl (Xcc a) (hvD a) ?_
      refine Ce rfl (Neg_el (by omega) M.ps (by omega))<|Ce rfl (Mul_el j.1 (Xg0 M) I (by omega) (by omega))<|ApG ((toL (k+1) x).map dq) rfl el.symm (by omega) ?_
      exact Rw [(80,1000000)] [(1000000,.tok ((toL (k+1) x).map dq).length 4)] rfl (fit rfl) (.inr ⟨rfl,rfl⟩)
theorem Inv_ok{k r s:Nat}{t:Tw k}{a x:Tow.El k}(o:TS r k t)(ha:Sz s (toL k a))(i:red k t)(j:Tow.inv k t a=some x)(A:k<=16)(hs:iB r k s<=4398046511104): C0 444 [.d (dt t),.d (de a)] (·=.tup (.pr (.d (de x)) (.d (.int .i64 0)))):=by
 obtain⟨y,h,B⟩:=Yh9 o ha i (Xw2 i j) A hs
 rw[j] at h
 injection h with h
 subst h
 exact CW.data B rfl λv H' I=>by
  rcases I with ⟨_,rfl,rfl⟩ | ⟨rfl,rfl⟩
  . exact⟨_,.tup (.cons (.lit rfl) (.one (.rf rfl) (λ_ _ e=>by cases e) (λ_ _ e=>by cases e))),rfl⟩
  . exact⟨_,.tup (.cons (.gr rfl) (.one (.rf rfl) (λ_ _ e=>by cases e) (λ_ _ e=>by cases e))),rfl⟩
end Go.Proofs.YtcmjannkbdflmaaGreatDoor.R6
namespace Go.Proofs.YtcmjannkbdflmaaGreatDoor
open Go Go.Num Go.Tow
def gC(r:Nat): Nat->Nat
 | 0=>0
 | k+1=>2*gC r k+2*cB r k+r+iS r k r+2
theorem IsD.pw{d n a b:Nat}{l:List Rat}(h:IsD d (n*2^a) l)(i:a<=b): IsD d (n*2^b) l:=h.mono (W0p _ (W0m (by decide) i))
theorem IsD.sc{d n a b e:Nat}{l:List Rat}(h:IsD d (n*2^a) l)(i:0<e)(hb:e<=2^b): IsD (d*e) (n*2^(a+b)) l:=(h.scale i).mono (by rw[W1a,<-W0t];exact W0p _ hb)
theorem IsD.dbl{d n:Nat}{l:List Rat}(h:IsD d n (List.zipWith (·+·) l l)): IsD (d*2) n l:=λx j=>by
 obtain⟨i,hi⟩:=W4t j
 obtain⟨z,o,A⟩:=h (x+x) (W0e (i:=i) (by rw[W6p,hi]))
 refine⟨z,?_,A⟩
 rw[<-o,W7y]
 show x*(d*2)=_
 grind
theorem Xvk{x:Rat}{e n:Nat}(O:0<e)(h:IsD (e*e) (n*n) [x*x]): IsD e n [x]:=λy B=>by
 obtain rfl:=W0f.1 B
 obtain⟨z,I,A⟩:=h _ (W0v ..)
 have M:(y*e)*(y*e)=(z:Rat):=by rw[<-I,W7y];grind
 obtain⟨j,o⟩:=Xro (y*e)
 rw[M] at j o
 have o:1=(y*e).den*(y*e).den:=o
 have j:z=(y*e).num*(y*e).num:=j
 have hd:(y*e).den=1:=Nat.eq_one_of_mul_eq_one_left o.symm
 refine⟨(y*e).num,?_,?_⟩
 . have:=Xll (y*e)
   rw[hd] at this
   rw[<-this];exact(Rat.mul_one _).symm
 . rw[j,W4n] at A
   exact Nat.lt_of_not_le λi=>W7q _ (W0u A (W1z i i))
theorem Xrf: ∀ {k r:Nat} {t:Tw k},TS r k t->red k t->∃j,0<j/\j<=2^gC r k/\∀(s:El k) (e n:Nat),0<e->IsD (e*e) (n*n) (toL k (mul k t s s))->IsD (e*j) (n*2^gC r k) (toL k s)
 | 0,r,t,_,_=>⟨1,by decide,W0c 1,λs e n A h=>by rw[W4c,show 2^gC r 0=1 from rfl,W4c];exact Xvk A h⟩
 | k+1,r,t,B,V=>by
  obtain⟨E,E0,E1,E2⟩:=Xlk B.1
  obtain⟨g,g0,I,O⟩:=B.2
  obtain⟨j,D0,D1,D2⟩:=Xrf B.1 V.1
  have L:=Xba k t.1
  obtain⟨i,hi⟩:=(Xeb V.1).2 t.2 (show t.2≠zero k from λh0=>V.2.2 ⟨zero k,by rw[h0,L.mz]⟩)
  obtain⟨f,f0,Q,Y⟩:=Sz.invS B.1 B.2 hi
  have hi:=Xdb hi
  generalize hc:cB r k=c at *
  generalize hq:iS r k r=q at *
  generalize hG:gC r k=G at *
  have Z:gC r (k+1)=2*G+2*c+r+q+2:=by show 2*gC r k+2*cB r k+r+iS r k r+2=_;rw[hc,hq,hG]
  have I:=W2e I
  have Q:=W2e Q
  have Eg1:E*g<=2^(c+r):=by rw[W1a];exact W1z E1 I
  have Eg0:=W1p E0 g0
  have M:∀ {a b:El k} {d e n m x y:Nat},0<d->0<e->IsD d (n*2^x) (toL k a)->IsD e (m*2^y) (toL k b)->IsD (d*e*E) (n*m*2^(x+y+c)) (toL k (mul k t.1 a b)):=λhd A h h'=>(E2 _ _ _ _ _ _ hd A h h').mono (by
   rw[W1a,W1a];exact Nat.le_of_eq (by ac_rfl))
  refine⟨2*(E*g*j)*j*(f*E),?_,?_,λs e n A h=>?_⟩
  . exact W1p (W1p (W1p (by decide) (W1p Eg0 D0)) D0) (W1p f0 E0)
  . have T:=W1z (W1z (W1z (W0c 2) (W1z Eg1 D1)) D1) (W1z Q E1)
    refine W0l T ?_
    rw[show (2:Nat)*(2^(c+r)*2^G)*2^G*(2^q*2^c)=2^(1+((c+r)+G)+G+(q+c)) by simp only[W1a]]
    exact W0m (by decide) (by omega)
  obtain⟨u,v⟩:=s
  have ha:IsD (e*e) (n*n) (toL k (add k (mul k t.1 u u) (mul k t.1 (mul k t.1 v v) t.2))):=h.left
  have hb:IsD (e*e) (n*n) (toL k (add k (mul k t.1 u v) (mul k t.1 v u))):=h.right
  generalize h1:add k (mul k t.1 u u) (mul k t.1 (mul k t.1 v v) t.2)=a1 at ha
  generalize h2:add k (mul k t.1 u v) (mul k t.1 v u)=a2 at hb
  have o:=W1p A A
  have ha:IsD (e*e) (n*n*2^0) (toL k a1):=by simpa using ha
  have hb:IsD (e*e) (n*n*2^0) (toL k a2):=by simpa using hb
  have O:IsD g (1*2^r) (toL k t.2):=by simpa using O
  have Y:IsD f (1*2^q) (toL k i):=by simpa using Y
  obtain⟨N,hN⟩:∃N,N=add k (mul k t.1 u u) (neg k (mul k t.1 (mul k t.1 v v) t.2)):=⟨_,rfl⟩
  have hNN:mul k t.1 N N=add k (mul k t.1 a1 a1) (neg k (mul k t.1 (mul k t.1 a2 a2) t.2)):=by
   rw[hN,<-h1,<-h2]
   exact(Laws.req L [u,v,t.2] (.mul (.add (.mul (.v 0) (.v 0)) (.neg (.mul (.mul (.v 1) (.v 1)) (.v 2)))) (.add (.mul (.v 0) (.v 0)) (.neg (.mul (.mul (.v 1) (.v 1)) (.v 2))))) (.add (.mul (.add (.mul (.v 0) (.v 0)) (.mul (.mul (.v 1) (.v 1)) (.v 2))) (.add (.mul (.v 0) (.v 0)) (.mul (.mul (.v 1) (.v 1)) (.v 2)))) (.neg (.mul (.mul (.add (.mul (.v 0) (.v 1)) (.mul (.v 1) (.v 0))) (.add (.mul (.v 0) (.v 1)) (.mul (.v 1) (.v 0)))) (.v 2)))) (by decide +kernel))
  have n1:IsD (e*e*E*g*(e*e*E*g)) (n*n*2^(c+r+1)*(n*n*2^(c+r+1))) (toL k (mul k t.1 N N)):=by
   rw[hNN,Xas,Xbw]
   have T:=(M o o ha ha).sc (W1p Eg0 g0) (show E*g*g<=2^(c+r+r) by rw[W1a 2 (c+r)];exact W1z Eg1 I)
   have x2:=((M (W1p (W1p o o) E0) g0 (M o o hb hb) O).sc g0 I).neg
   rw[W4c] at x2
   rw[show e*e*(e*e)*E*(E*g*g)=e*e*E*g*(e*e*E*g) by ac_rfl] at T
   rw[show e*e*(e*e)*E*g*E*g=e*e*E*g*(e*e*E*g) by ac_rfl] at x2
   have x3:=T.pw (show _<=2*c+2*r by omega)
   have x4:=x2.pw (show _<=2*c+2*r by omega)
   refine(x3.add x4).mono ?_
   rw[<-Nat.mul_two]
   have x5:2^(2*c+2*r)*2<=2^(c+r+1)*2^(c+r+1):=by
    rw[<-W0q,<-W1a];exact W0m (by decide) (by omega)
   have x6:=W0p (n*n*(n*n)) x5
   rw[show n*n*(n*n)*2^(2*c+2*r)*2=n*n*(n*n)*(2^(2*c+2*r)*2) by ac_rfl]
   exact W0l x6 (Nat.le_of_eq (by ac_rfl))
  have U:=D2 N (e*e*E*g) (n*n*2^(c+r+1)) (W1p (W1p o E0) g0) n1
  rw[W0t (n*n),<-W1a] at U
  have K0:0<E*g*j:=W1p Eg0 D0
  have K1:E*g*j<=2^(c+r+G):=by rw[W1a 2 (c+r)];exact W1z Eg1 D1
  have a':=ha.sc K0 K1
  rw[show e*e*E*g*j=e*e*(E*g*j) by ac_rfl] at U
  have half:∀ {w S:El k},add k w w=S->IsD (e*e*(E*g*j)) (n*n*2^(c+r+G+2)) (toL k S)->IsD (e*e*(E*g*j)*2) (n*n*2^(c+r+G+2)) (toL k w):=λe h=>IsD.dbl (by rw[<-Xas,e];exact h)
  have s1:IsD (e*e*(E*g*j)) (n*n*2^(c+r+G+2)) (toL k (add k a1 N)):=by
   rw[Xas]
   refine((a'.pw (show _<=c+r+G+1 by omega)).add (U.pw (show _<=c+r+G+1 by omega))).mono ?_
   rw[W0q 2 (c+r+G+1),<-W0t,Nat.mul_two];exact W0c _
  have s2:IsD (e*e*(E*g*j)) (n*n*2^(c+r+G+2)) (toL k (add k a1 (neg k N))):=by
   rw[Xas,Xbw]
   refine((a'.pw (show _<=c+r+G+1 by omega)).add ((U.pw (show _<=c+r+G+1 by omega)).neg)).mono ?_
   rw[W0q 2 (c+r+G+1),<-W0t,Nat.mul_two];exact W0c _
  have u1:=half (w:=mul k t.1 u u) (by rw[<-h1,hN];exact(Laws.req L [u,v,t.2] (.add (.mul (.v 0) (.v 0)) (.mul (.v 0) (.v 0))) (.add (.add (.mul (.v 0) (.v 0)) (.mul (.mul (.v 1) (.v 1)) (.v 2))) (.add (.mul (.v 0) (.v 0)) (.neg (.mul (.mul (.v 1) (.v 1)) (.v 2))))) (by decide +kernel))) s1
  have v1:=half (w:=mul k t.1 (mul k t.1 v v) t.2) (by rw[<-h1,hN];exact(Laws.req L [u,v,t.2] (.add (.mul (.mul (.v 1) (.v 1)) (.v 2)) (.mul (.mul (.v 1) (.v 1)) (.v 2))) (.add (.add (.mul (.v 0) (.v 0)) (.mul (.mul (.v 1) (.v 1)) (.v 2))) (.neg (.add (.mul (.v 0) (.v 0)) (.neg (.mul (.mul (.v 1) (.v 1)) (.v 2)))))) (by decide +kernel))) s2
  have K2:0<E*g*j*2:=W1p K0 (by decide)
  have ek:0<e*(E*g*j*2):=W1p A K2
  have sq:∀ {w:El k} {x:Nat},x<=(c+r+G+2)+(c+r+G+2)->IsD (e*(E*g*j*2)*(e*(E*g*j*2))) (n*n*2^x) (toL k (mul k t.1 w w))->IsD (e*(E*g*j*2)*j) (n*2^(c+r+G+2+G)) (toL k w):=λ{w x} hx h=>by
   have h':=D2 w _ (n*2^(c+r+G+2)) ek ((h.pw hx).mono (by rw[W1a 2 (c+r+G+2) (c+r+G+2)];exact Nat.le_of_eq (by ac_rfl)))
   rwa[W0t n,<-W1a] at h'
  have u2:IsD (e*(E*g*j*2)*j) (n*2^(c+r+G+2+G)) (toL k u):=by
   refine sq (x:=c+r+G+2+(c+r+G+1)) (by omega) ?_
   have:=u1.sc K2 (show E*g*j*2<=2^(c+r+G+1) by rw[W0q];exact W0x _ K1)
   rwa[show e*e*(E*g*j)*2*(E*g*j*2)=e*(E*g*j*2)*(e*(E*g*j*2)) by ac_rfl] at this
  have v2:IsD (e*(E*g*j*2)*j) (n*2^(c+r+G+2+G)) (toL k (mul k t.1 v t.2)):=by
   refine sq (x:=c+r+G+2+r+c+(G+1)) (by omega) ?_
   have:=(M (W1p (W1p o K0) (by decide)) g0 v1 O).sc (W1p D0 (by decide:0<2)) (show j*2<=2^(G+1) by rw[W0q];exact W0x _ D1)
   rw[W4c,show e*e*(E*g*j)*2*g*E*(j*2)=e*(E*g*j*2)*(e*(E*g*j*2)) by ac_rfl] at this
   rwa[show mul k t.1 (mul k t.1 v t.2) (mul k t.1 v t.2)=mul k t.1 (mul k t.1 (mul k t.1 v v) t.2) t.2 from(Laws.req L [v,t.2] (.mul (.mul (.v 0) (.v 1)) (.mul (.v 0) (.v 1))) (.mul (.mul (.mul (.v 0) (.v 0)) (.v 1)) (.v 1)) (by decide +kernel))]
  have v3:IsD (e*(E*g*j*2)*j*f*E) (n*1*2^(c+r+G+2+G+q+c)) (toL k v):=by
   have:=M (W1p ek D0) f0 v2 Y
   rwa[show mul k t.1 (mul k t.1 v t.2) i=v by rw[L.ma,L.mc t.2,hi,L.mo]] at this
  have u3:=u2.sc (W1p f0 E0) (show f*E<=2^(q+c) by rw[W1a];exact W1z Q E1)
  rw[show e*(2*(E*g*j)*j*(f*E))=e*(E*g*j*2)*j*(f*E) by ac_rfl,Z]
  refine IsD.append (u3.pw (by omega)) ?_
  rw[W4c,W0t _ f E] at v3
  exact v3.pw (by omega)
theorem Sz.rootS{k r p:Nat}{t:Tw k}{s a:El k}(j:TS r k t)(o:red k t)(ha:Sz p (toL k a))(e:Tow.mul k t s s=a): Sz (p+gC r k) (toL k s):=by
 obtain⟨A,D0,D1,D2⟩:=Xrf j o
 obtain⟨d,h,i,d2⟩:=ha
 subst e
 have:=D2 s d (2^p) h ((d2.scale h).mono (W0p _ (W2e i)))
 rw[<-W1a] at this
 refine⟨_,W1p h D0,?_,this⟩
 rw[W1a]
 exact W0u (W3n i D0) (W0p _ D1)
def sX(r k p:Nat): Nat:=p+nS r k p+gC r k+cB r k+iS r k r+4
def vB(r:Nat): Nat->Nat->Nat
 | 0,p=>p
 | k+1,p=>vB r k (nB r k p)
def qB(r:Nat): Nat->Nat->Nat
 | 0,p=>p
 | k+1,p=>p+vB r (k+1) p+vB r (k+1) r+nB r k p+qB r k (sX r k p)+iB r k (sX r k p+gC r k)+iS r k (sX r k p+gC r k)+iB r k r+2*cB r k+4
theorem Xwa{r k p q:Nat}(h:p<=q): nB r k p<=nB r k q:=by unfold nB;omega
theorem Xc4{r:Nat}: ∀ {k s s':Nat},s<=s'->vB r k s<=vB r k s'
 | 0,_,_,h=>h
 | k+1,_,_,h=>Xc4 (k:=k) (Xwa h)
theorem Xdh{r:Nat}: ∀(k s:Nat),s<=vB r k s
 | 0,_=>W0c _
 | k+1,s=>W0l (Xwb r k s) (Xdh k _)
theorem Xmn{r i k s:Nat}(h:i<=k): vB r i s<=vB r k s:=by
 induction k generalizing s with
 | zero=>rw[show i=0 by omega];exact W0c _
 | succ k j =>
  by_cases e:i=k+1
  . rw[e];exact W0c _
  . exact W0l (j (by omega)) (Xc4 (k:=k) (Xwb r k s))
theorem Yfc{r k p q:Nat}(h:p<=q): sX r k p<=sX r k q:=by
 have:=Xv9 (W0c r) h (k:=k)
 unfold sX;omega
theorem Xc9{r:Nat}: ∀ {k p q:Nat},p<=q->qB r k p<=qB r k q
 | 0,_,_,h=>h
 | k+1,p,q,h=>by
  have j:=Xc4 (r:=r) (k:=k+1) h
  have o:=Xwa (r:=r) (k:=k) h
  have i:=Yfc (r:=r) (k:=k) h
  have A:=Xc9 (r:=r) (k:=k) i
  have B:=Xpn (W0c r) (k:=k) (show sX r k p+gC r k<=sX r k q+gC r k by omega)
  have I:=Xw9 (W0c r) (k:=k) (show sX r k p+gC r k<=sX r k q+gC r k by omega)
  unfold qB;omega
theorem Yjv{r:Nat}: ∀ {k p:Nat},p<=qB r k p
 | 0,_=>W0c _
 | k+1,_=>by unfold qB;omega
theorem Yab{r i k p:Nat}(h:i<=k): qB r i p<=qB r k p:=by
 induction k generalizing p with
 | zero=>rw[show i=0 by omega];exact W0c _
 | succ k j =>
  by_cases e:i=k+1
  . rw[e];exact W0c _
  . have o:=j (p:=p) (by omega)
    have A:qB r k p<=qB r k (sX r k p):=Xc9 (by unfold sX;omega)
    have B:qB r k (sX r k p) <= qB r (k + 1) p := by conv => rhs; unfold qB
                                                     omega
    omega
open Go Go.Vm Go.Num Go.Tow
theorem Xk2(x:Rat): Xa5 x.num 0=Xe3 x:=by
 rcases Xat x.num 0 with ⟨h,e⟩ | ⟨h,e⟩ | ⟨h,e⟩<;>rw[e]
 . rw[Xdt (by rw[Rat.lt_iff];show x.num*1<0*_;omega)]
 . rw[W5s.1 h];rfl
 . rw[Xbh (by rw[Rat.lt_iff];show 0*_<x.num*1;omega)]
theorem Yc0{k:Nat}(t:Tw (k+1))(a:Tow.El (k+1)): sgn (k+1) t a=if sgn k t.1 a.2=0\/sgn k t.1 a.1=sgn k t.1 a.2 then sgn k t.1 a.1 else if sgn k t.1 a.1=0 then sgn k t.1 a.2 else sgn k t.1 a.1*sgn k t.1 (Tow.norm k t a):=rfl
theorem Xva{k:Nat}{t i:Tw k}{a b:Tow.El k}: arB .mul .i64 (sgn k t a) (sgn k i b) (sgn k t a*sgn k i b):=by
 rcases Xc6 t a with h | h | h<;>rcases Xc6 i b with j | j | j<;>rw[h,j]<;>exact wr rfl (by simp[inK])
theorem Xkp{k:Nat}: ∀ {r s:Nat} {t:Tw k} {a:Tow.El k},TS r k t->Sz s (toL k a)->k<=16->vB r k s<=4398046511104->r<=4398046511104->C0 287 [.d (dt t),.d (de a)] (·=.d (.int .i64 (sgn k t a))):=by
 induction k with
 | zero =>
  intro r s t a i ha Q hs o
  have hs:s<=4398046511104:=hs
  have B:∀y:Rat,Qs s y->C0 287 [.d (dts []),.d (dqs [y])] (·=.d (.int .i64 (Xe3 y))):=λy j=>by
   refine En Tryz.func287 λ_ _ _=>?_
   refine Yes rfl rfl<|Ix 0 rfl (u:=dq y) rfl<|Ce rfl (Xft j (by omega)) ?_
   rw[Xk2]
   exact R0
  exact B a (ha.qs (W0f.2 rfl))
 | succ k I =>
  intro r s t a i ha Q hs o
  have A:Sz s (toL k a.1):=Sz.left ha
  have j:Sz s (toL k a.2):=Sz.right ha
  have T:vB r k (nB r k s)<=4398046511104:=hs
  have U:=Xdh (r:=r) k (nB r k s)
  have V:=Xc4 (r:=r) (k:=k) (Xwb r k s)
  have Z:nB r k s=4*s+3*cB r k+r+1:=rfl
  have Y:=ha.norm i
  refine En Tryz.func287 λ_ _ _=>?_
  refine No rfl (by show ¬((((toT k t.1++[toL k t.2]).map dqs).length:Nat):Int)=0;rw[twL];omega)<|Ar k rfl ?_ (tw1 t (by omega))
  refine Ar (2^k:Nat) rfl ?_ (hvq a (by omega))
  refine Dw rfl<|Tk k ((toT k t.1).map dqs) rfl rfl (Xg3 t) (twT t) ?_
  refine Tk (2^k) ((toL k a.1).map dq) rfl rfl (Xcc a) (hvT a) ?_
  refine Dp (2^k) ((toL k a.2).map dq) rfl rfl (Xcc a) (hvD a) ?_
  refine Ce rfl (I i.1 A (by omega) (by omega) o)<|Ce rfl (I i.1 j (by omega) (by omega) o) ?_
  rw[Yc0]
  refine By rfl (λh=>?_) λh=>?_
  . rw[if_pos (.inl h)]
    exact R0
  . refine By rfl (λM=>?_) λM=>?_
    . rw[if_pos (.inr M)]
      exact R0
    . rw[if_neg (λe=>e.elim h M)]
      refine By rfl (λO=>?_) λO=>?_
      . rw[if_pos O]
        exact R0
      . rw[if_neg O]
        refine Dw rfl<|Ce rfl (Xds i.1 A A (by omega) (by omega) o)<|Ix k rfl (twU t)<|Ce rfl (Xds i.1 j j (by omega) (by omega) o)<|Ce rfl (Xds i.1 i.2 (j.mul i.1 j) (by omega) (by omega) o)<|Ce rfl (Xgg i.1 (A.mul i.1 A) (i.2.mul i.1 (j.mul i.1 j)) (by omega) (by omega) o) ?_
        rw[(Xba k t.1).mc t.2]
        refine Ce rfl (I i.1 Y (by omega) T o)<|Ar _ rfl ?_ Xva
        exact R0
theorem Tw.take{k:Nat}: ∀ {t:Tw k} {i:Nat},i<k->∃(w:Tw i) (x:Tow.El i),(toT k t).take i=toT i w/\(toT k t)[i]?=some (toL i x)/\(∀r,TS r k t->TS r i w/\Sz r (toL i x))/\(Xbm k t->Xbm i w/\sgn i w x=1)/\(red k t->red i w/\sgn i w x=1/\¬Xcl i w x):=by
 induction k with
 | zero=>intro t i h;omega
 | succ k o =>
  intro t i h
  have j:=Xaa k t.1
  by_cases e:i=k
  . subst e
    refine⟨t.1,t.2,W7a j,?_,λr h=>h,λh=>h,λh=>h⟩
    show (toT i t.1++[toL i t.2])[i]?=_
    rw[W0o (by omega),j,W2v];rfl
  . obtain⟨w,x,A,B,I,M,O⟩:=o (t:=t.1) (i:=i) (by omega)
    refine⟨w,x,?_,?_,λr h=>I r h.1,λh=>M h.1,λh=>O h.1⟩
    . show (toT k t.1++[toL k t.2]).take i=_
      rw[List.take_append_of_le_length (by omega),A]
    . show (toT k t.1++[toL k t.2])[i]?=_
      rw[W1d (by omega),B]
theorem qs0: Qs 1 0:=⟨show (0:Rat).num.natAbs<2^1 by decide +kernel,show ((0:Rat).den:Int).natAbs<2^1 by decide +kernel⟩
section
variable{k r s:Nat}{t:Tw k}{a:Tow.El k}
theorem Xp7(j:TS r k t)(B:Xbm k t)(o:k<=16)(T:vB r k r<=4398046511104)(hr:r<=4398046511104): C0 372 [.d (dt t)] (·=.b true):=by
 refine En Tryz.func372 λ_ _ _=>?_
 refine Ce rfl (Xa4 (z:=0) (by decide))<|Ce rfl (Xcn (x:=0) (p:=1) j o hr qs0 (by decide))<|Ce rfl (Xca j (Sz.rat (p:=1) k qs0) o (by decide) hr)<|No rfl (by simp)<|Lo (λi:Nat=>[(0,.d (dt t)),(11,.d (dt t)),(12,.d (.int .i64 ((toT k t).map dqs).length)),(13,.d (.int .i64 i))]) (λ_=>[]) (λi=>i<=k) (λi=>k-i) 0 [] rfl (by omega) (λi hi=>?_)
 refine By rfl (λh=>?_) λh=>?_<;>simp only[lt',Xaa] at h
 . obtain⟨w,x,I,M,O,Q,U⟩:=Tw.take (t:=t) (i:=i) (by omega)
   have A:=O r j
   have V:=Xmn (r:=r) (s:=r) (show i<=k by omega)
   refine Ix i rfl (mp M)<|Tk i ((toT i w).map dqs) rfl rfl (by rw[lt',Xaa];omega) (by rw[<-W3d,I]) ?_
   refine Ce rfl (Xkp A.1 A.2 (by omega) (by omega) hr)<|No rfl (by rw[(Q B).2];decide)<|Ar (i+1:Nat) rfl ?_
   exact Bk (i+1) [] rfl (show i+1<=k by omega) (by show k-(i+1)<k-i;omega)
 . exact R0
theorem Xpp{l:List (List Rat)}(j:TS r k t)(B:Xbm k t)(o:k<=16)(I:vB r k r<=4398046511104)(hr:r<=4398046511104)(M:∀x∈l,∃a:Tow.El k,x=toL k a/\Sz s (toL k a))(O:l.length<=1000)(hs:s<=4398046511104): C0 284 [.d (dt t),.d (dts l)] (·=.b true):=by
 refine En Tryz.func284 λ_ _ _=>?_
 refine Lo (λi:Nat=>[(0,.d (dt t)),(7,.d (dts l)),(8,.d (.int .i64 (l.map dqs).length)),(9,.d (.int .i64 i))]) (λ_=>[]) (λi=>i<=l.length) (λi=>l.length-i) 0 [] rfl (by omega) (λi hi=>?_)
 refine By rfl (λh=>?_) λh=>?_<;>simp only[lt'] at h
 . obtain⟨x,A⟩:∃x,l[i]?=some x:=⟨_,W0a (by omega)⟩
   obtain⟨a,rfl,ha⟩:=M x (W0e A)
   refine Ix i rfl (mp A)<|Ce rfl (Xca j ha o hs hr)<|No rfl (by simp)<|Ar (i+1:Nat) rfl ?_
   exact Bk (i+1) [] rfl (show i+1<=l.length by omega) (by show l.length-(i+1)<l.length-i;omega)
 . exact Ce rfl (Xp7 j B o I hr)<|R0
theorem Xgs(h:TS r k t)(ha:Sz s (toL k a))(j:Xbm k t)(i:k<=16)(hs:vB r k s<=4398046511104)(o:vB r k r<=4398046511104)(hr:r<=4398046511104): C0 268 [.d (dt t),.d (de a)] (·=.d (.int .i64 (sgn k t a))):=by
 have:=Xdh (r:=r) k s
 refine En Tryz.func268 λ_ _ _=>?_
 exact Ce rfl (Xpp (l:=[toL k a]) (s:=s) h j i o hr (λx A=>⟨a,W0f.1 A,ha⟩) (by simp) (by omega))<|No rfl (by simp)<|Ce rfl (Xkp h ha i hs hr)<|R0
end
end Go.Proofs.YtcmjannkbdflmaaGreatDoor
namespace Go.Proofs.YtcmjannkbdflmaaGreatDoor.R7
open Go Go.Vm Go.Num Go.Tow Go.Proofs.YtcmjannkbdflmaaGreatDoor
theorem Xk1{k:Nat}: ∀ {r s:Nat} {t:Tw k} {a:Tow.El k},TS r k t->Sz s (toL k a)->k<=16->vB r k s<=4398046511104->C0 235 [.d (dt t),.d (de a)] (·=.d (.int .i64 (sgn k t a))):=by
 induction k with
 | zero =>
  intro r s t a i ha M hs
  have hs:s<=4398046511104:=hs
  have j:∀y:Rat,Qs s y->C0 235 [.d (dts []),.d (dqs [y])] (·=.d (.int .i64 (Xe3 y))):=λy o=>by
   refine En Tryz.func235 λ_ _ _=>?_
   refine Yes rfl rfl<|Ix 0 rfl (u:=dq y) rfl<|Ce rfl (R2.Sign_ok o (by omega)) ?_
   rw[Xk2]
   exact R0
  exact j a (ha.qs (W0f.2 rfl))
 | succ k A =>
  intro r s t a i ha M hs
  have O:Sz s (toL k a.1):=Sz.left ha
  have o:Sz s (toL k a.2):=Sz.right ha
  have Q:vB r k (nB r k s)<=4398046511104:=hs
  have T:=Xdh (r:=r) k (nB r k s)
  have U:=Xc4 (r:=r) (k:=k) (Xwb r k s)
  have V:=ha.norm i
  refine En Tryz.func235 λ_ _ _=>?_
  refine No rfl (by show ¬((((toT k t.1++[toL k t.2]).map dqs).length:Nat):Int)=0;rw[twL];omega)<|Ar k rfl ?_ (tw1 t (by omega))
  refine Dw rfl<|Ar (2^k:Nat) rfl ?_ (hvq a (by omega))
  refine Tk (2^k) ((toL k a.1).map dq) rfl rfl (Xcc a) (hvT a) ?_
  refine Ar (2^k:Nat) rfl ?_ (hvq a (by omega))
  refine Dp (2^k) ((toL k a.2).map dq) rfl rfl (Xcc a) (hvD a) ?_
  refine Dw rfl<|Tk k ((toT k t.1).map dqs) rfl rfl (Xg3 t) (twT t) ?_
  refine Ce rfl (A i.1 O (by omega) (by omega))<|Tk k ((toT k t.1).map dqs) rfl rfl (Xg3 t) (twT t) ?_
  refine Ce rfl (A i.1 o (by omega) (by omega)) ?_
  rw[Yc0]
  refine By rfl (λh=>?_) λh=>?_
  . rw[if_pos (.inl h)]
    exact R0
  . refine By rfl (λB=>?_) λB=>?_
    . rw[if_pos (.inr B)]
      exact R0
    . rw[if_neg (λe=>e.elim h B)]
      refine By rfl (λI=>?_) λI=>?_
      . rw[if_pos I]
        exact R0
      . rw[if_neg I]
        refine Dw rfl<|Tk k ((toT k t.1).map dqs) rfl rfl (Xg3 t) (twT t) ?_
        refine Ce rfl (R6.Norm_ok i ha M (by omega))<|Ce rfl (A i.1 V (by omega) Q)<|Ar _ rfl ?_ Xva
        exact R0
section
variable{k r s:Nat}{t:Tw k}{a:Tow.El k}
theorem Xp7(j:TS r k t)(A:Xbm k t)(Q:k<=16)(T:vB r k r<=4398046511104): C0 441 [.d (dt t)] (·=.b true):=by
 have:=Xdh (r:=r) k r
 refine En Tryz.func441 λ_ _ _=>?_
 refine Ce rfl (R6.Tower_ok (TS.pt j) (by omega) (by rw[Xaa];omega))<|No rfl (by simp)<|Lo (λi:Nat=>[(0,.d (dt t)),(3,.d (.int .i64 i))]) (λ_=>[]) (λi=>i<=k) (λi=>k-i) 0 [] rfl (by omega) (λi hi=>?_)
 refine By rfl (λh=>?_) λh=>?_<;>simp only[lt',Xaa] at h
 . obtain⟨w,x,B,I,M,O,U⟩:=Tw.take (t:=t) (i:=i) (by omega)
   have o:=M r j
   have V:=Xmn (r:=r) (s:=r) (show i<=k by omega)
   refine Dw rfl<|Tk i ((toT i w).map dqs) rfl rfl (by rw[lt',Xaa];omega) (by rw[<-W3d,B]) ?_
   refine Ix i rfl (mp I)<|Ce rfl (Xk1 o.1 o.2 (by omega) (by omega))<|No rfl (by rw[(O A).2];simp)<|Ar (i+1:Nat) rfl ?_
   exact Bk (i+1) [] rfl (show i+1<=k by omega) (by show k-(i+1)<k-i;omega)
 . exact R0
theorem Sign_ok(h:TS r k t)(ha:Sz s (toL k a))(j:Xbm k t)(i:k<=16)(hs:vB r k s<=4398046511104)(o:vB r k r<=4398046511104): C0 386 [.d (dt t),.d (de a)] (·=.d (.int .i64 (sgn k t a))):=by
 have:=Xdh (r:=r) k s
 have:=Xdh (r:=r) k r
 refine En Tryz.func386 λ_ _ _=>?_
 exact Ce rfl (R6.Formed_ok (TS.pt h) (by omega) ha.ps (by omega) (by rw[Xaa];omega) (Yie t a))<|No rfl (by simp)<|Ce rfl (Xp7 h j i o)<|No rfl (by simp)<|Ce rfl (Xk1 h ha i hs)<|R0
theorem Fast_ok(h:TS r k t)(ha:Sz s (toL k a))(i:k<=16)(hs:vB r k s<=4398046511104): C0 270 [.d (dt t),.d (de a)] (·=.d (.int .i64 (sgn k t a))):=by
 refine En Tryz.func270 λ_ _ _=>?_
 exact Ce rfl (Xk1 h ha i hs)<|R0
end
end Go.Proofs.YtcmjannkbdflmaaGreatDoor.R7
namespace Go.Num
theorem Zs.len2{p:Nat}{z:Int}(h:Zs p z)(hp:p<=4398046511104): (dig z.natAbs).length<=137438953473:=by
 have i:z.natAbs<4294967296^(p/32+1):=by
  rw[show 4294967296=2^32 from rfl,<-W5a]
  exact W0u h (W0m (by decide) (by omega))
 have:=Xaq i
 omega
end Go.Num
namespace Go.Proofs.YtcmjannkbdflmaaGreatDoor.R2
open Go Go.Vm Go.Num Go.Proofs.YtcmjannkbdflmaaGreatDoor
def dR(b:Bool)(l:List Nat)(h:Bool)(i:List Nat): D:=.st (.pr (dS b l) (dS h i))
theorem Sqrt_ok{x:Rat}{p:Nat}(o:Qs p x)(hp:p<=4398046511104): C0 442 [.d (dq x)] λv=>∃b l I M,v=.tup (.pr (.d (dR b l I M)) (.b (dc (∃y:Rat,y*y=x))))/\((∃y:Rat,y*y=x)->∃y:Rat,y*y=x/\dR b l I M=dq y):=by
 have h1:=o.n.len2 hp
 have Y:=o.d.len2 hp
 have hi:=Xu3 (q:=x)
 have no:¬(∃y:Rat,y*y=x)->∀ {g K},FitT g K (.b false) (.b (dc (∃y:Rat,y*y=x))):=λh _ _=>.one (by exact .bp (c:=false) ⟨nofun,λe=>absurd e h⟩) (λ_ _ e=>by cases e) (λ_ _ e=>by cases e)
 refine En Tryz.func442 λ_ _ _=>?_
 refine By rfl (λh=>?_) λh=>?_
 . exact Rt rfl (.tup (.cons (.sd (.pd (.sd (.pd (.bd rfl) (.nil rfl))) (.sd (.pd (.bd rfl) (.nil rfl)))))  (no λe=>by have:=(hi.1 e).1;omega))) ⟨false,[],false,[],rfl,λe=>by have:=(hi.1 e).1;omega⟩
 have A:((x.num.natAbs:Nat):Int)=x.num:=by omega
 have hs:=R1.Sqrt_ok (a:=x.num.natAbs) (by omega)
 rw[A] at hs
 have hd:=R1.Sqrt_ok (a:=x.den) (by rw[W1m] at Y;omega)
 have O:∀n:Nat,n<2^p->Zs p (rt n:Int)/\Zs p ((rt n:Int)*(rt n:Int)):=λn A=>by
  have:=(Xc7 n).1
  have j:rt n<=rt n*rt n:=Nat.le_mul_self _
  unfold Zs
  rw[W4n,W1m]
  omega
 obtain⟨r1,Q⟩:=O _ (show x.num.natAbs<2^p from o.n)
 obtain⟨T,U⟩:=O x.den (by have:=o.d;unfold Zs at this;rwa[W1m] at this)
 have r1:=r1.len2 hp
 have Q:=Q.len2 hp
 have T:=T.len2 hp
 have U:=U.len2 hp
 refine Ce rfl hs<|Ce rfl hd<|Dw rfl<|Ce rfl (R1.Mul_ok (by omega) (by omega))<|Ce rfl (SameInt_ok (by omega))<|By rfl (λh=>?_) λh=>?_
 . have i:¬ ∃y:Rat,y*y=x:=λe=>by
    have j:=(hi.1 e).2.1
    unfold sqN at j
    have B:¬(rt x.num.natAbs:Int)*(rt x.num.natAbs:Int)=x.num:=by simpa [Xa9,Xal] using h
    exact B (by rw[<-W2z,j,A])
   exact Rt rfl (.tup (.cons (.sd (.pd (.sd (.pd (.bd rfl) (.nil rfl))) (.sd (.pd (.bd rfl) (.nil rfl))))) (no i))) ⟨false,[],false,[],rfl,λe=>absurd e i⟩
 have k1:(rt x.num.natAbs:Int)*(rt x.num.natAbs:Int)=x.num:=by simpa [Xa9,Xal] using h
 refine Ce rfl (R1.Mul_ok (by omega) (by omega))<|Ce rfl (SameInt_ok (by omega))<|By rfl (λh=>?_) λh=>?_
 . have i:¬ ∃y:Rat,y*y=x:=λe=>by
    have j:=(hi.1 e).2.2
    unfold sqN at j
    have B:¬(rt x.den:Int)*(rt x.den:Int)=x.den:=by simpa [Xa9,Xal] using h
    exact B (by rw[<-W2z,j])
   exact Rt rfl (.tup (.cons (.sd (.pd (.sd (.pd (.bd rfl) (.nil rfl))) (.sd (.pd (.bd rfl) (.nil rfl))))) (no i))) ⟨false,[],false,[],rfl,λe=>absurd e i⟩
 have k2:(rt x.den:Int)*(rt x.den:Int)=x.den:=by simpa [Xa9,Xal] using h
 obtain⟨y,Z,y2,V⟩:=Xkz (q:=x) (by omega) (by unfold sqN;omega) (by unfold sqN;omega)
 refine Rt rfl (.tup (.cons (.rf rfl) (.one (by exact .bp (c:=true) ⟨λ_=>⟨y,V⟩,λ_=>rfl⟩) (λ_ _ e=>by cases e) (λ_ _ e=>by cases e)))) ⟨_,_,_,_,rfl,λ_=>⟨y,V,?_⟩⟩
 show D.st (.pr (dz _) (dz _))=D.st (.pr (dz _) (dz _))
 rw[Z,y2]
end Go.Proofs.YtcmjannkbdflmaaGreatDoor.R2
namespace Go.Proofs.YtcmjannkbdflmaaGreatDoor
open Go Go.Vm Go.Num Go.Tow
theorem Xsn{p:Prop}(h:¬p){g:Hp}{K:Hpl}: FitT g K (.b false) (.b (dc p)):=.one (by exact .bp (c:=false) ⟨nofun,λe=>absurd e h⟩) (λ_ _ e=>by cases e) (λ_ _ e=>by cases e)
theorem Xzc{p:Prop}(h:p){g:Hp}{K:Hpl}: FitT g K (.b true) (.b (dc p)):=.one (by exact .bp (c:=true) ⟨λ_=>h,λ_=>rfl⟩) (λ_ _ e=>by cases e) (λ_ _ e=>by cases e)
theorem Xav{n:Int}{g:Hp}{K:Hpl}: FitT g K (.d (.int .i64 n)) (.d (.int .i64 n)):=.one (.rf rfl) (λ_ _ e=>by cases e) (λ_ _ e=>by cases e)
def SqR(k:Nat)(t:Tw k)(a:Tow.El k)(v:AV): Prop:=∃w:D,v=.tup (.pr (.d w) (.b (dc (Xcl k t a))))/\(Xcl k t a->∃x,mul k t x x=a/\w=de x)
theorem Xxg: (Rat.divInt 1 2)=1/2:=by decide +kernel
end Go.Proofs.YtcmjannkbdflmaaGreatDoor
namespace Go.Proofs.YtcmjannkbdflmaaGreatDoor.R6
open Go Go.Vm Go.Num Go.Tow Go.Proofs.YtcmjannkbdflmaaGreatDoor
theorem FromRat_el{k:Nat}{t:Tw k}{x:Rat}(h:k<=16): C0 237 [.d (dt t),.d (dq x)] (·=.d (de (rat k x))):=by
 have:=FromRat_ok (t:=toT k t) (x:=x) (by rw[Xaa];omega)
 rwa[Xaa,<-Xd7] at this
theorem FromRat_z{k:Nat}{t:Tw k}(h:k<=16): C0 237 [.d (dt t),.d (dq 0)] (·=.d (de (zero k))):=by
 have:=FromRat_el (t:=t) (x:=0) h
 rwa[Xhg] at this
end Go.Proofs.YtcmjannkbdflmaaGreatDoor.R6
namespace Go.Proofs.YtcmjannkbdflmaaGreatDoor.R8
open Go Go.Vm Go.Num Go.Tow Go.Proofs.YtcmjannkbdflmaaGreatDoor
theorem Ygg{l m:List Rat}(h0:0<l.length)(h:l.length+m.length<=1048576): C0 443 [.d (dqs l),.d (dqs m)] (·=.d (dqs (l++m))):=by
 refine En Tryz.func443 λ_ _ _=>?_
 refine ApL (l.map dq) rfl rfl (by simp;omega) (by simp;omega) ?_
 refine ApO ((l++m).map dq) rfl rfl rfl (by simp) (by simp;omega) ?_
 exact R1 rfl (.own rfl (by simp) (by rw[W0y];exact W0b (by simp)))
theorem Xpk{k:Nat}{x y:Tow.El k}(h:k<=16): C0 443 [.d (de x),.d (de y)] (·=.d (de (pr x y))) :=
 Ygg (by rw[Xab];exact W0r k) (by rw[Xab,Xab];have:=p16 h;omega)
theorem Xd9{k:Nat}: ∀ {r p:Nat} {t:Tw k} {a:Tow.El k},TS r k t->Sz p (toL k a)->red k t->k<=16->qB r k p<=4398046511104->C0 387 [.d (dt t),.d (de a)] (SqR k t a):=by
 induction k with
 | zero =>
  intro r p t a o ha A hk hq
  have hq:p<=4398046511104:=hq
  have key:∀y:Rat,Qs p y->C0 387 [.d (dts []),.d (dqs [y])] λv=>∃w:D,v=.tup (.pr (.d w) (.b (dc (∃x:Rat,x*x=y))))/\((∃x:Rat,x*x=y)->∃x:Rat,x*x=y/\w=dqs [x]):=λy M=>by
   refine En Tryz.func387 λ_ _ _=>?_
   refine Yes rfl rfl<|Ix 0 rfl (u:=dq y) rfl<|Ca rfl (R2.Sqrt_ok M (by omega)) λv B=>?_
   obtain⟨b,l,b',l',rfl,Q⟩:=B
   exact Rt rfl (.tup (.cons (.lit rfl) (.one (.rf rfl) (λ_ _ e=>by cases e) (λ_ _ e=>by cases e)))) ⟨_,rfl,λh=>let ⟨y,T,U⟩:=Q h;⟨y,T,by rw[show dqs [y]=D.sl 4 [dq y] from rfl,<-U];rfl⟩⟩
  exact key a (ha.qs (W0f.2 rfl))
 | succ k ih =>
  intro r p t a o ha A hk hq
  have O:Sz p (toL k a.1):=Sz.left ha
  have M:Sz p (toL k a.2):=Sz.right ha
  have hlen:=Xab k
  have hpk:=p16 (show k<=16 by omega)
  have hz:=ha.normS o
  have L:=Xba k t.1
  have hqq:p+vB r (k+1) p+vB r (k+1) r+nB r k p+qB r k (sX r k p)+iB r k (sX r k p+gC r k)+iS r k (sX r k p+gC r k)+iB r k r+2*cB r k+4<=4398046511104:=hq
  have hX:sX r k p=p+nS r k p+gC r k+cB r k+iS r k r+4:=rfl
  have hN:nB r k p=4*p+3*cB r k+r+1:=rfl
  have q1:qB r k p<=qB r k (sX r k p):=Xc9 (by omega)
  have q2:qB r k (nS r k p)<=qB r k (sX r k p):=Xc9 (by omega)
  have q3:qB r k (p+iS r k r+cB r k)<=qB r k (sX r k p):=Xc9 (by omega)
  have q4:sX r k p<=qB r k (sX r k p):=Yjv
  have hr0:t.2≠zero k:=λh0=>A.2.2 ⟨zero k,by rw[h0,L.mz]⟩
  obtain⟨i,hi⟩:=(Xeb A.1).2 t.2 hr0
  have him:=Xdb hi
  have hiz:=Sz.invS o.1 o.2 hi
  refine En Tryz.func387 λ_ _ _=>?_
  refine No rfl (by show ¬((((toT k t.1++[toL k t.2]).map dqs).length:Nat):Int)=0;rw[twL];omega)<|Ce rfl (R7.Sign_ok o ha (Xah A) hk (by omega) (by omega))<|By rfl (λh=>?_) λh=>?_
  . have no:¬Xcl (k+1) t a:=λe=>by have:=Yn7 (Xah A) e;omega
    exact Rt rfl (.tup (.cons (.nil (sz:=4) rfl) (Xsn no))) ⟨_,rfl,λe=>absurd e no⟩
  refine Ar k rfl ?_ (tw1 t (by omega))
  refine Dw rfl<|Tk k ((toT k t.1).map dqs) rfl rfl (Xg3 t) (twT t) ?_
  refine Ix k rfl (twU t)<|Ar (2^k:Nat) rfl ?_ (hvq a (by omega))
  refine Dw rfl<|Tk (2^k) ((toL k a.1).map dq) rfl rfl (Xcc a) (hvT a) ?_
  refine Dp (2^k) ((toL k a.2).map dq) rfl rfl (Xcc a) (hvD a) ?_
  refine Ce rfl (R2.FromInt_ok (z:=0) (by decide))<|Ce rfl (R6.FromRat_z (t:=t.1) (by omega))<|Ce rfl (R6.Zero_ok (l:=toL k a.2) (by rw[hlen];omega))<|By rfl (λB=>?_) λB=>?_
  . have ev:=(Xar k a.2).2 B
    have ea:a=up k a.1:=by show (a.1,a.2)=(a.1,zero k);rw[ev]
    refine Ca rfl (ih o.1 O A.1 (by omega) (by omega)) λv B=>?_
    obtain⟨w,rfl,Q⟩:=B
    refine By rfl (λT=>?_) λT=>?_
    . obtain⟨x,V,rfl⟩:=Q T
      have hs:mul (k+1) t (pr x (zero k)) (pr x (zero k))=a:=(Yi8 V).trans ea.symm
      exact Ce rfl (Xpk (x:=x) (y:=zero k) (by omega))<|Rt rfl (.tup (.cons (.rf rfl) (Xzc ⟨_,hs⟩))) ⟨_,rfl,λ_=>⟨_,hs,rfl⟩⟩
    . refine Ce rfl (R6.Inv_ok o.1 o.2 A.1 hi (by omega) (by omega))<|Ce rfl (R6.Mul_el o.1 O hiz (by omega) (by omega))<|Ca rfl (ih o.1 (O.mul o.1 hiz) A.1 (by omega) (by omega)) λv B=>?_
      obtain⟨w,rfl,Q⟩:=B
      refine By rfl (λU=>?_) λU=>?_
      . obtain⟨x,V,rfl⟩:=Q U
        have hs:mul (k+1) t (pr (zero k) x) (pr (zero k) x)=a:=(Xu1 him V).trans ea.symm
        exact Ce rfl (Xpk (x:=zero k) (y:=x) (by omega))<|Rt rfl (.tup (.cons (.rf rfl) (Xzc ⟨_,hs⟩))) ⟨_,rfl,λ_=>⟨_,hs,rfl⟩⟩
      . have no:¬Xcl (k+1) t a:=ea ▸ Xms A.1 him T U
        exact Rt rfl (.tup (.cons (.nil (sz:=4) rfl) (Xsn no))) ⟨_,rfl,λe=>absurd e no⟩
  have ev:a.2≠zero k:=λe=>B ((Xar k a.2).1 e)
  refine Ce rfl (R6.Mul_el o.1 O O (by omega) (by omega))<|Ce rfl (R6.Mul_el o.1 M M (by omega) (by omega))<|Ce rfl (R6.Mul_el o.1 o.2 (M.mul o.1 M) (by omega) (by omega))<|Ce rfl (R6.Sub_el (by omega) (O.mul o.1 O).ps (o.2.mul o.1 (M.mul o.1 M)) (by omega)) ?_
  rw[L.mc t.2]
  refine Ca rfl (ih o.1 hz A.1 (by omega) (by omega)) λv B=>?_
  obtain⟨w,rfl,Q⟩:=B
  refine By rfl (λT=>?_) λT=>?_
  . have no:¬Xcl (k+1) t a:=λe=>by
     exact T (Xu0 e)
    exact Rt rfl (.tup (.cons (.nil (sz:=4) rfl) (Xsn no))) ⟨_,rfl,λe=>absurd e no⟩
  obtain⟨m,Z,rfl⟩:=Q (W3g.1 T)
  have Z:mul k t.1 m m=Tow.norm k t a:=Z
  have hmz:=hz.rootS o.1 A.1 Z
  refine Ce rfl (R2.Frac_ok (a:=1) (b:=2) (by decide) (by decide) (by decide)) ?_
  rw[Xxg]
  refine Ce rfl (R6.FromRat_el (t:=t.1) (x:=1/2) (by omega))<|Lo (λ(x:Nat×Tow.El k)=>[(9,.d (dt t.1)),(12,.d (de a.1)),(13,.d (de a.2)),(22,.d (de x.2)),(24,.d (de (rat k (1/2)))),(25,.d (.int .i64 x.1))]) (λ_=>[]) (λx=>(x.1=0/\x.2=m)\/(x.1=1/\x.2=Tow.neg k m/\¬Xcl k t.1 (mul k t.1 (rat k (1/2)) (Tow.add k a.1 m)))\/(x.1=2/\¬Xcl k t.1 (mul k t.1 (rat k (1/2)) (Tow.add k a.1 m))/\¬Xcl k t.1 (mul k t.1 (rat k (1/2)) (Tow.add k a.1 (Tow.neg k m))))) (λx=>2-x.1) (0,m) [] rfl (.inl ⟨rfl,rfl⟩) (λ(j,mm) hI=>?_)
  simp only at hI
  refine By rfl (λU=>?_) λU=>?_
  . have I:mul k t.1 mm mm=Tow.norm k t a/\Sz (nS r k p+gC r k) (toL k mm):=by
     rcases hI with ⟨_,rfl⟩ | ⟨_,rfl,_⟩ | ⟨rfl,_⟩
     . exact⟨Z,hmz⟩
     . exact⟨by rw[L.mn,L.nm,L.nn,Z],Xg0 hmz⟩
     . omega
    have hS:Sz (3+(p+(nS r k p+gC r k)+1)+cB r k) (toL k (mul k t.1 (rat k (1/2)) (Tow.add k a.1 mm))):=Sz.half.mul o.1 (by rw[Xas];exact O.add I.2)
    have q5:qB r k (3+(p+(nS r k p+gC r k)+1)+cB r k)<=qB r k (sX r k p):=Xc9 (by omega)
    refine Ce rfl (R6.Add_el (by omega) O.ps I.2.ps (by omega))<|Ce rfl (R6.Mul_el o.1 Sz.half (by rw[Xas];exact O.add I.2) (by omega) (by omega))<|Ca rfl (ih o.1 hS A.1 (by omega) (by omega)) λv B=>?_
    obtain⟨w,rfl,Q⟩:=B
    refine By rfl (λh3=>?_) λh3=>?_
    . obtain⟨w,Y,rfl⟩:=Q h3
      have hw0:=Yi7 A ev I.1 Y
      obtain⟨j,hj⟩:=(Xeb A.1).2 w hw0
      have hwz:Sz (sX r k p+gC r k) (toL k w):=(hS.rootS o.1 A.1 Y).mono (by omega)
      have hjz:=Sz.invS o.1 hwz hj
      have hs:mul (k+1) t (pr w (mul k t.1 (rat k (1/2)) (mul k t.1 a.2 j))) (pr w (mul k t.1 (rat k (1/2)) (mul k t.1 a.2 j)))=a:=by
       have:=Yja I.1 Y (Yay (Xdb hj))
       rwa[show mul k t.1 a.2 (mul k t.1 (rat k (1/2)) j)=mul k t.1 (rat k (1/2)) (mul k t.1 a.2 j) from L.mlc _ _ _] at this
      exact Ce rfl (R6.Inv_ok o.1 hwz A.1 hj (by omega) (by omega))<|Ce rfl (R6.Mul_el o.1 M hjz (by omega) (by omega))<|Ce rfl (R6.Mul_el o.1 Sz.half (M.mul o.1 hjz) (by omega) (by omega))<|Ce rfl (Xpk (by omega))<|Rt rfl (.tup (.cons (.rf rfl) (Xzc ⟨_,hs⟩))) ⟨_,rfl,λ_=>⟨_,hs,rfl⟩⟩
    . refine Ce rfl (R6.Neg_el (by omega) I.2.ps (by omega))<|Ar (j+1:Nat) rfl ?_
      refine Bk (j+1,Tow.neg k mm) [] rfl ?_ (by show 2-(j+1)<2-j;omega)
      rcases hI with ⟨rfl,rfl⟩ | ⟨rfl,rfl,h4⟩ | ⟨rfl,_⟩
      . exact .inr (.inl ⟨rfl,rfl,h3⟩)
      . exact .inr (.inr ⟨rfl,h4,h3⟩)
      . omega
  . have no:¬Xcl (k+1) t a:=λe=>by
     rcases hI with ⟨rfl,rfl⟩ | ⟨rfl,rfl,h4⟩ | ⟨rfl,h4,h5⟩
     . omega
     . omega
     . obtain⟨w,_,h6 | h6⟩:=Xqz A.1 ev Z e
       . exact h4 ⟨w,h6⟩
       . exact h5 ⟨w,h6⟩
    exact Rt rfl (.tup (.cons (.nil (sz:=4) rfl) (Xsn no))) ⟨_,rfl,λe=>absurd e no⟩
theorem Xk4{k r p:Nat}{t:Tw k}{a:Tow.El k}(j:TS r k t)(ha:Sz p (toL k a))(i:red k t)(o:k<=16)(hq:qB r k p<=4398046511104)(A:vB r k (p+gC r k)<=4398046511104)(hr:vB r k r<=4398046511104):
 C0 390 [.d (dt t),.d (de a)] λv=>∃w:D,v=.tup (.pr (.d w) (.b (dc (Xcl k t a))))/\(Xcl k t a->∃x,mul k t x x=a/\0<=sgn k t x/\w=de x):=by
 have L:=Xba k t
 have S:=Xau (Xah i)
 have:=Xdh (r:=r) k (p+gC r k)
 refine En Tryz.func390 λ_ _ _=>?_
 refine Ca rfl (Xd9 j ha i o hq) λv A=>?_
 obtain⟨w,rfl,M⟩:=A
 refine By rfl (λh=>?_) λh=>?_
 . exact Rt rfl (.tup (.cons (.nil (sz:=4) rfl) (Xsn h))) ⟨_,rfl,λe=>absurd e h⟩
 have h:=W3g.1 h
 obtain⟨x,B,rfl⟩:=M h
 have I:=ha.rootS j i B
 refine Ce rfl (R7.Sign_ok j I (Xah i) o A hr)<|By rfl (λO=>?_) λO=>?_
 . exact Ce rfl (R6.Neg_el o I.ps (by omega))<|Rt rfl (.tup (.cons (.rf rfl) (Xzc h))) ⟨_,rfl,λ_=>⟨Tow.neg k x,by rw[L.mn,L.nm,L.nn,B],by rw[S.sn];omega,rfl⟩⟩
 . exact Rt rfl (.tup (.cons (.rf rfl) (Xzc h))) ⟨_,rfl,λ_=>⟨x,B,by omega,rfl⟩⟩
theorem Xgt{k r:Nat}{t:Tw k}(M:TS r k t)(O:red k t)(V:k<=16)(hq:qB r k r<=4398046511104)(B:vB r k r<=4398046511104): C0 320 [.d (dt t)] (·=.b true):=by
 have:=Xdh (r:=r) k r
 refine En Tryz.func320 λ_ _ _=>?_
 refine Lo (λi:Nat=>[(0,.d (dt t)),(3,.d (.int .i64 i))]) (λ_=>[]) (λi=>i<=k) (λi=>k-i) 0 [] rfl (by omega) (λi hi=>?_)
 refine By rfl (λh=>?_) λh=>?_<;>simp only[lt',Xaa] at h
 . obtain⟨w,x,o,A,Q,Y,T⟩:=Tw.take (t:=t) (i:=i) (by omega)
   have j:=Q r M
   obtain⟨I,Z,U⟩:=T O
   have q1:=Yab (r:=r) (p:=r) (show i<=k by omega)
   have v1:=Xmn (r:=r) (s:=r) (show i<=k by omega)
   refine Dw rfl<|Tk i ((toT i w).map dqs) rfl rfl (by rw[lt',Xaa];omega) (by rw[<-W3d,o]) ?_
   refine Ix i rfl (mp A)<|Ce rfl (R6.Formed_ok (TS.pt j.1) (by omega) j.2.ps (by omega) (by rw[Xaa];omega) (Yie w x))<|No rfl (by simp)<|Tk i ((toT i w).map dqs) rfl rfl (by rw[lt',Xaa];omega) (by rw[<-W3d,o]) ?_
   refine Ix i rfl (mp A)<|Ce rfl (R7.Sign_ok j.1 j.2 (Xah I) (by omega) (by omega) (by omega))<|No rfl (by omega)<|Dw rfl<|Tk i ((toT i w).map dqs) rfl rfl (by rw[lt',Xaa];omega) (by rw[<-W3d,o]) ?_
   refine Ix i rfl (mp A)<|Ca rfl (Xd9 j.1 j.2 I (by omega) (by omega)) λv B=>?_
   obtain⟨d,rfl,hd⟩:=B
   refine No rfl U<|Ar (i+1:Nat) rfl ?_
   exact Bk (i+1) [] rfl (show i+1<=k by omega) (by show k-(i+1)<k-i;omega)
 . exact R0
def AdjR(k:Nat)(t:Tw k)(a:Tow.El k)(v:AV): Prop :=
 (sgn k t a<0/\v=.tup (.pr (.d (dts [])) (.pr (.d (dqs [])) (.d (.int .i64 7))))) \/
 (∃x,mul k t x x=a/\0<=sgn k t x/\v=.tup (.pr (.d (dt t)) (.pr (.d (de x)) (.d (.int .i64 0))))) \/
 (0<=sgn k t a/\¬Xcl k t a/\k<8/\v=.tup (.pr (.d (dt (tsn t a))) (.pr (.d (de (Xf9 (k+1) k))) (.d (.int .i64 0)))))
theorem Xy4{k r p:Nat}{t:Tw k}{a:Tow.El k}(I:TS r k t)(ha:Sz p (toL k a))(M:red k t)(O:k<8)(hq:qB r k p<=4398046511104)(B:vB r k (p+gC r k)<=4398046511104)(hr:vB r k r<=4398046511104):
 C0 322 [.d (dt t),.d (de a)] (AdjR k t a):=by
 have h0:=Xc4 (r:=r) (k:=k) (show p<=p+gC r k by omega)
 have j:=Xaa k t
 refine En Tryz.func322 λ_ _ _=>?_
 refine Ce rfl (R7.Sign_ok I ha (Xah M) (by omega) (by omega) hr)<|By rfl (λh=>?_) λh=>?_
 . exact Rt rfl (.tup (.cons (.nil rfl) (.cons (.nil rfl) Xav))) (.inl ⟨h,rfl⟩)
 refine Ca rfl (Xk4 I ha M (by omega) hq B hr) λv B=>?_
 obtain⟨w,rfl,Q⟩:=B
 refine By rfl (λA=>?_) λA=>?_
 . obtain⟨x,T,U,rfl⟩:=Q A
   exact Rt rfl (.tup (.cons (.rf rfl) (.cons (.rf rfl) Xav))) (.inr (.inl ⟨x,T,U,rfl⟩))
 refine No rfl (by simp only[lt',j];omega) ?_
 have e:dt (tsn t a)=dts (toT k t++[toL k a]):=rfl
 have V:(((toT k t).map dqs).length:Int)=k:=by simp[j]
 by_cases Y:k=0
 . subst Y
   refine ApE rfl rfl (by decide) ?_
   refine ApL ([toL 0 a].map dqs) rfl rfl (by simp) (by simp) ?_
   refine Fz 9 9 ([toL 0 a].map dqs) rfl (by simp) rfl ?_
   exact Ce rfl (R6.Root_ok (r:=r) (t:=tsn t a) (i:=0) (by omega) (by omega))<|Rt rfl (.tup (.cons (.rf rfl) (.cons (.rf rfl) Xav))) (.inr (.inr ⟨by omega,A,O,rfl⟩))
 . refine ApL ((toT k t).map dqs) rfl rfl (by simp[j];omega) (by simp[j];omega) ?_
   refine ApO ((toT k t++[toL k a]).map dqs) rfl rfl rfl (by simp) (by simp[j];omega) ?_
   refine Fz 9 9 ((toT k t++[toL k a]).map dqs) rfl (by simp) (by rw[W0y];exact W0b (by simp)) ?_
   have o:=R6.Root_ok (r:=r) (t:=tsn t a) (i:=k) (by omega) (by omega)
   rw[<-V] at o
   exact Ce rfl o<|Rt rfl (.tup (.cons (.rf rfl) (.cons (.rf rfl) Xav))) (.inr (.inr ⟨by omega,A,O,rfl⟩))
theorem Adjoin_ok{k r p:Nat}{t:Tw k}{a:Tow.El k}(i:TS r k t)(ha:Sz p (toL k a))(B:red k t)(I:k<8)(hq:qB r k p<=4398046511104)(j:qB r k r<=4398046511104)(o:vB r k (p+gC r k)<=4398046511104)(hr:vB r k r<=4398046511104):
 C0 225 [.d (dt t),.d (de a)] (AdjR k t a):=by
 have h0:=Xdh (r:=r) k r
 have h:=Xdh (r:=r) k (p+gC r k)
 refine En Tryz.func225 λ_ _ _=>?_
 refine Ce rfl (Xgt i B (by omega) j hr)<|No rfl (by simp)<|Ce rfl (R6.Formed_ok (TS.pt i) (by omega) ha.ps (by omega) (by rw[Xaa];omega) (Yie t a))<|No rfl (by simp)<|Ca rfl (Xy4 i ha B I hq o hr) λv o=>?_
 rcases o with ⟨h,rfl⟩ | ⟨x,h,A,rfl⟩ | ⟨h,A,M,rfl⟩
 . exact Rt rfl (.tup (.cons (.rf rfl) (.cons (.rf rfl) Xav))) (.inl ⟨h,rfl⟩)
 . exact Rt rfl (.tup (.cons (.rf rfl) (.cons (.rf rfl) Xav))) (.inr (.inl ⟨x,h,A,rfl⟩))
 . exact Rt rfl (.tup (.cons (.rf rfl) (.cons (.rf rfl) Xav))) (.inr (.inr ⟨h,A,M,rfl⟩))
end Go.Proofs.YtcmjannkbdflmaaGreatDoor.R8
namespace Go.Tow
open Go Go.Num Go.Proofs.YtcmjannkbdflmaaGreatDoor
section
def ev{K:Nat}(G:Tw K)(ρ:Nat->El K): (k:Nat)->El k->El K
 | 0,x=>rat K x
 | k+1,a=>add K (ev G ρ k a.1) (mul K G (ev G ρ k a.2) (ρ k))
def Hom{K:Nat}(G:Tw K)(ρ:Nat->El K): (k:Nat)->Tw k->Prop
 | 0,_=>True
 | k+1,t=>Hom G ρ k t.1/\mul K G (ρ k) (ρ k)=ev G ρ k t.2/\sgn K G (ρ k)=1
variable{K:Nat}{G:Tw K}{ρ σ:Nat->El K}
theorem Xbv: ∀ {k:Nat} {a:El k},(∀i,i<k->ρ i=σ i)->ev G ρ k a=ev G σ k a
 | 0,_,_=>rfl
 | k+1,a,h=>by
  show add K (ev G ρ k a.1) (mul K G (ev G ρ k a.2) (ρ k))=add K (ev G σ k a.1) (mul K G (ev G σ k a.2) (σ k))
  rw[Xbv (k:=k) λi hi=>h i (by omega),Xbv (k:=k) (a:=a.2) λi hi=>h i (by omega),h k (by omega)]
theorem Hom.congr: ∀ {k:Nat} {t:Tw k},Hom G ρ k t->(∀i,i<k->ρ i=σ i)->Hom G σ k t
 | 0,_,_,_=>trivial
 | k+1,t,⟨j,o,A⟩,h=>⟨j.congr λi hi=>h i (by omega),by rw[<-h k (by omega),o];exact Xbv λi hi=>h i (by omega),by rw[<-h k (by omega)];exact A⟩
theorem Xiu: ∀ {k:Nat},ev G ρ k (zero k)=zero K
 | 0=>Xhg K
 | k+1=>by
  show add K (ev G ρ k (zero k)) (mul K G (ev G ρ k (zero k)) (ρ k))=zero K
  rw[Xiu,(Xba K G).zm,(Xba K G).az]
theorem Xej: ∀ {k:Nat} {a b:El k},ev G ρ k (add k a b)=add K (ev G ρ k a) (ev G ρ k b)
 | 0,a,b=>Xec K a b
 | k+1,a,b=>by
  show add K (ev G ρ k (add k a.1 b.1)) (mul K G (ev G ρ k (add k a.2 b.2)) (ρ k))=add K (add K (ev G ρ k a.1) (mul K G (ev G ρ k a.2) (ρ k))) (add K (ev G ρ k b.1) (mul K G (ev G ρ k b.2) (ρ k)))
  rw[Xej,Xej]
  have L:=Xba K G
  exact(Laws.req L [ev G ρ k a.1,ev G ρ k a.2,ev G ρ k b.1,ev G ρ k b.2,ρ k] (.add (.add (.v 0) (.v 2)) (.mul (.add (.v 1) (.v 3)) (.v 4))) (.add (.add (.v 0) (.mul (.v 1) (.v 4))) (.add (.v 2) (.mul (.v 3) (.v 4)))) (by decide +kernel))
theorem Xf4: ∀ {k:Nat} {a:El k},ev G ρ k (neg k a)=neg K (ev G ρ k a)
 | 0,a=>Xdv K a
 | k+1,a=>by
  show add K (ev G ρ k (neg k a.1)) (mul K G (ev G ρ k (neg k a.2)) (ρ k))=neg K (add K (ev G ρ k a.1) (mul K G (ev G ρ k a.2) (ρ k)))
  rw[Xf4,Xf4,(Xba K G).nm,(Xba K G).nd]
theorem Ylh{k:Nat}{a:El k}: ev G ρ (k+1) (up k a)=ev G ρ k a:=by
 show add K (ev G ρ k a) (mul K G (ev G ρ k (zero k)) (ρ k))=_
 rw[Xiu,(Xba K G).zm,(Xba K G).az]
theorem Xsr: ∀ {k:Nat} {x:Rat},ev G ρ k (rat k x)=rat K x
 | 0,_=>rfl
 | k+1,x=>by rw[show rat (k+1) x=up k (rat k x) from rfl,Ylh,Xsr]
theorem Xcj: ∀ {k:Nat} {t:Tw k} {a b:El k},Hom G ρ k t->ev G ρ k (mul k t a b)=mul K G (ev G ρ k a) (ev G ρ k b)
 | 0,t,a,b,_=>Xc8 K G a b
 | k+1,t,a,b,h=>by
  show add K (ev G ρ k (add k (mul k t.1 a.1 b.1) (mul k t.1 (mul k t.1 a.2 b.2) t.2))) (mul K G (ev G ρ k (add k (mul k t.1 a.1 b.2) (mul k t.1 a.2 b.1))) (ρ k))=mul K G (add K (ev G ρ k a.1) (mul K G (ev G ρ k a.2) (ρ k))) (add K (ev G ρ k b.1) (mul K G (ev G ρ k b.2) (ρ k)))
  rw[Xej,Xej,Xcj h.1,Xcj h.1,Xcj h.1,Xcj h.1,Xcj h.1,<-h.2.1]
  have L:=Xba K G
  exact(Laws.req L [ev G ρ k a.1,ev G ρ k a.2,ev G ρ k b.1,ev G ρ k b.2,ρ k] (.add (.add (.mul (.v 0) (.v 2)) (.mul (.mul (.v 1) (.v 3)) (.mul (.v 4) (.v 4)))) (.mul (.add (.mul (.v 0) (.v 3)) (.mul (.v 1) (.v 2))) (.v 4))) (.mul (.add (.v 0) (.mul (.v 1) (.v 4))) (.add (.v 2) (.mul (.v 3) (.v 4)))) (by decide +kernel))
theorem Ygx{k:Nat}{t:Tw (k+1)}{a:El (k+1)}(h:Hom G ρ k t.1): ev G ρ k (norm k t a)=add K (mul K G (ev G ρ k a.1) (ev G ρ k a.1)) (neg K (mul K G (mul K G (ev G ρ k a.2) (ev G ρ k a.2)) (ev G ρ k t.2))):=by
 unfold norm
 rw[Xej,Xf4,Xcj h,Xcj h,Xcj h]
theorem Xf3(hG:Xbm K G): ∀ {k:Nat} {t:Tw k} {a:El k},Hom G ρ k t->sgn K G (ev G ρ k a)=sgn k t a
 | 0,t,a,_=>Xfa hG
 | k+1,t,a,h=>by
  have L:=Xba K G
  have S:=Xau hG
  have e:sgn (k+1) t a=L.sx (ev G ρ k t.2) (sgn K G) (ev G ρ k a.1,ev G ρ k a.2):=by
   show (if sgn k t.1 a.2=0\/sgn k t.1 a.1=sgn k t.1 a.2 then sgn k t.1 a.1 else if sgn k t.1 a.1=0 then sgn k t.1 a.2 else sgn k t.1 a.1*sgn k t.1 (norm k t a))=_
   rw[<-Xf3 hG h.1,<-Xf3 hG h.1 (a:=a.1),<-Xf3 hG h.1 (a:=norm k t a),Ygx h.1]
   rfl
  have i:L.Rt (ev G ρ k t.2) (sgn K G) (ρ k) (rat K 1):=by
   refine⟨h.2.2,by rw[Xfa hG];decide +kernel,?_⟩
   rw[h.2.1,L.mo,L.mo,L.an,S.s0 L]
  have hd:sgn K G (ev G ρ k t.2)=1:=by rw[<-h.2.1,S.sm,h.2.2];rfl
  rw[e,S.sx_rt L hd i,L.mo]
  rfl
theorem Ygy(hG:Xbm K G){k:Nat}{t:Tw k}(h:Hom G ρ k t)(hr:red k t){a:El k}(e:ev G ρ k a=zero K): a=zero k:=by
 have:=Xf3 hG h (a:=a)
 rw[e,(Xau hG).s0 (Xba K G)] at this
 exact(Xbu hr).1 this.symm
theorem Xnx(hG:Xbm K G){k:Nat}{t:Tw k}(h:Hom G ρ k t)(hr:red k t){a b:El k}(e:ev G ρ k a=ev G ρ k b): a=b:=by
 refine(Xba k t).sub0 (Ygy hG h hr (a:=add k a (neg k b)) ?_)
 rw[Xej,Xf4,e,(Xba K G).an]
theorem Hom.uniq(hG:red K G): ∀ {k:Nat} {t:Tw k},Hom G ρ k t->Hom G σ k t->∀i,i<k->ρ i=σ i
 | 0,_,_,_,i,hi=>by omega
 | k+1,t,h,j,i,hi=>by
  have o:=h.1.uniq hG j.1
  by_cases e:i=k
  . subst e
    refine Xqy hG (by rw[h.2.1,j.2.1,Xbv o]) (by rw[h.2.2];decide) (by rw[j.2.2];decide)
  . exact o i (by omega)
theorem Xre(i:Nat): Xf9 (i+1) i=(pr (zero i) (rat i 1):El (i+1)):=by
 unfold Xf9;rw[if_pos rfl]
theorem Xz5{k i:Nat}(h:i≠k): Xf9 (k+1) i=(up k (Xf9 k i):El (k+1)):=by
 conv=>lhs;unfold Xf9
 rw[if_neg h]
theorem Xiv: ∀ {k i:Nat},i<k->ev G ρ k (Xf9 k i)=ρ i
 | k+1,i,hi=>by
  by_cases e:i=k
  . subst e
    rw[Xre]
    show add K (ev G ρ i (zero i)) (mul K G (ev G ρ i (rat i 1)) (ρ i))=_
    rw[Xiu,Xsr,(Xba K G).om,(Xba K G).za]
  . rw[Xz5 e,Ylh,Xiv (by omega)]
theorem Hom.ne(hG:Xbm K G): ∀ {k:Nat} {t:Tw k},Hom G ρ k t->red k t->∀i j,i<j->j<k->ρ i≠ρ j
 | 0,_,_,_,i,j,_,h=>by omega
 | k+1,t,h,A,i,j,o,I=>λe=>by
  by_cases B:j=k
  . subst B
    refine A.2.2 ⟨Xf9 j i,Xnx hG h.1 A.1 ?_⟩
    rw[Xcj h.1,Xiv o,e,h.2.1]
  . exact h.1.ne hG A.1 i j o (by omega) e
theorem Ydh{α:Type}: ∀(k:Nat) (S:List α) (f:Nat->α),(∀i,i<k->f i∈S)->(∀i j,i<j->j<k->f i≠f j)->k<=S.length
 | 0,_,_,_,_=>W0s _
 | k+1,S,f,o,I=>by
  obtain⟨A,B,e⟩:=List.append_of_mem (o k (by omega))
  have:=Ydh k (A++B) f (λi hi=>by
   have h:=o i (by omega)
   rw[e] at h
   rcases W2c.1 h with h | h
   . exact W2l _ h
   . rcases W1h.1 h with h | h
     . exact absurd h (I i k hi (by omega))
     . exact W1r _ h) (λi j hi M=>I i j hi (by omega))
  rw[e]
  simp only[W0d,W0j] at this |-
  omega
structure TOk {K:Nat} (G:Tw K) (S:List (El K)) (k:Nat) (t:Tw k) (ρ:Nat->El K):Prop where
 r:red k t
 h:Hom G ρ k t
 s:∀i,i<k->ρ i∈S
theorem TOk.le(hG:Xbm K G){S:List (El K)}{k:Nat}{t:Tw k}(h:TOk G S k t ρ): k<=S.length:=Ydh k S ρ h.s (h.h.ne hG h.r)
theorem TOk.snoc(hG:Xbm K G){S:List (El K)}{k:Nat}{t:Tw k}(h:TOk G S k t ρ){a:El k}(A:¬Xcl k t a){s:El K}(hs:s∈S)(j:mul K G s s=ev G ρ k a)(o:sgn K G s=1): TOk G S (k+1) (tsn t a) (λi=>if i=k then s else ρ i) where
 r:=⟨h.r,by show sgn k t a=1;rw[<-Xf3 hG h.h,<-j,(Xau hG).sm,o];rfl,A⟩
 h:=⟨h.h.congr λi hi=>(if_neg (by omega)).symm,by
  show mul K G (if k=k then s else ρ k) (if k=k then s else ρ k)=ev G _ k a
  rw[if_pos rfl,j];exact Xbv λi hi=>(if_neg (by omega)).symm,by
  show sgn K G (if k=k then s else ρ k)=1
  rw[if_pos rfl,o]⟩
 s:=λi hi=>by
  show (if i=k then s else ρ i)∈S
  split
  . exact hs
  . exact h.s i (by omega)
end
section
variable{K:Nat}{G:Tw K}{ρ:Nat->El K}
def Lf{k m:Nat}(a:El k)(b:El m): Prop:=toL m b=toL k a++List.replicate (2^m-2^k) 0
theorem Lf.ex{k m:Nat}(h:k<=m)(a:El k): ∃b:El m,Lf a b:=by
 obtain⟨b,hb⟩:=exE m (toL k a++List.replicate (2^m-2^k) 0) (by
  have:=W0m (n:=2) (by decide) h
  rw[W0d,Xab,W1w];omega)
 exact⟨b,hb⟩
theorem Lf.rfl'{k:Nat}(a:El k): Lf a a:=by unfold Lf;rw[W2v];simp
theorem Lf.eq{k:Nat}{a b:El k}(h:Lf a b): b=a:=by
 unfold Lf at h;rw[W2v] at h
 exact Xhv (by simpa using h)
theorem Lf.ev{k:Nat}{a:El k}: ∀ {m:Nat} {b:El m},k<=m->Lf a b->ev G ρ m b=ev G ρ k a:=by
 intro m
 induction m with
 | zero=>intro b h i;have:=Nat.le_zero.1 h;subst this;rw[i.eq]
 | succ m j =>
  intro b h i
  by_cases e:k=m+1
  . subst e;rw[i.eq]
  . have hp:=W0m (n:=2) (by decide) (show k<=m by omega)
    have hs:2^(m+1)-2^k=(2^m-2^k)+2^m:=by rw[W0q];omega
    have i:toL m b.1++toL m b.2=(toL k a++List.replicate (2^m-2^k) 0)++List.replicate (2^m) 0:=by
     have:toL (m+1) b=_:=i
     rw[hs,<-W5e,<-W2j] at this
     exact this
    obtain⟨o,A⟩:=Xfi (by rw[Xab,W0d,Xab,W1w];omega) i
    have B:b.2=zero m:=Xhv (by rw[A,Xbt])
    show add K (Tow.ev G ρ m b.1) (mul K G (Tow.ev G ρ m b.2) (ρ m))=_
    rw[B,Xiu,(Xba K G).zm,(Xba K G).az]
    exact j (by omega) o
theorem Lf.sz{k m p:Nat}{a:El k}{b:El m}(h:Lf a b)(ha:Sz p (toL k a)): Sz p (toL m b):=by
 obtain⟨d,i,j,d2⟩:=ha
 rw[h]
 exact⟨d,i,j,d2.append λx o=>⟨0,by rw[(W5o.1 o).2,W5q];rfl,W0r p⟩⟩
theorem Xkt: ∀ {k:Nat} {t w:Tw k},toT k t=toT k w->t=w
 | 0,_,_,_=>rfl
 | k+1,t,w,h=>by
  have h:toT k t.1++[toL k t.2]=toT k w.1++[toL k w.2]:=h
  obtain⟨i,j⟩:=Xfi (by rw[Xaa,Xaa]) h
  exact W3a (Xkt i) (Xhv (by injection j))
theorem Tw.cut{k:Nat}: ∀ {t:Tw k} {i:Nat},i<=k->∃w:Tw i,toT i w=(toT k t).take i/\(∀r,TS r k t->TS r i w)/\(red k t->red i w)/\∀ {K:Nat} {G:Tw K} {ρ:Nat->El K},Hom G ρ k t->Hom G ρ i w:=by
 induction k with
 | zero=>intro t i h;have:=Nat.le_zero.1 h;subst this;exact⟨t,rfl,λ_ h=>h,λh=>h,λh=>h⟩
 | succ k j =>
  intro t i h
  by_cases e:i=k+1
  . subst e;exact⟨t,by rw[W0b (by rw[Xaa];exact W0c _)],λ_ h=>h,λh=>h,λh=>h⟩
  . obtain⟨w,o,A,B,I⟩:=j (t:=t.1) (i:=i) (by omega)
    refine⟨w,?_,λr h=>A r h.1,λh=>B h.1,λh=>I h.1⟩
    show _=(toT k t.1++[toL k t.2]).take i
    rw[List.take_append_of_le_length (by rw[Xaa];omega),o]
def Beg(k:Nat)(t:Tw k)(m:Nat)(T:Tw m): Prop:=(toT m T).take (toT k t).length=toT k t
theorem Beg.le{k m:Nat}{t:Tw k}{T:Tw m}(h:Beg k t m T): k<=m:=by
 have:=congrArg List.length h
 simp only[W0k,Xaa] at this;omega
theorem Beg.hom{k m:Nat}{t:Tw k}{T:Tw m}(h:Beg k t m T)(i:Hom G ρ m T): Hom G ρ k t:=by
 obtain⟨w,j,_,_,o⟩:=Tw.cut (t:=T) h.le
 have:w=t:=Xkt (by rw[j];unfold Beg at h;rwa[Xaa] at h)
 rw[<-this];exact o i
theorem Beg.rf{k:Nat}{t:Tw k}: Beg k t k t:=W0b (W0c _)
theorem Beg.tr{k l m:Nat}{t:Tw k}{u:Tw l}{w:Tw m}(h:Beg k t l u)(i:Beg l u m w): Beg k t m w:=by
 have j:=h.le
 unfold Beg at *
 rw[<-i,List.take_take,Xaa,Xaa,W2d j] at h
 rw[Xaa];exact h
theorem Beg.snoc{k:Nat}{t:Tw k}{a:El k}: Beg k t (k+1) (tsn t a):=W7a rfl
def imB(c z:Nat): Nat->Nat->Nat
 | 0,p=>p+1
 | j+1,p=>2*imB c z j p+z+c+1
theorem Xlz{k R z:Nat}{T:Tw k}{σ:Nat->El k}(h:TS R k T): ∀ {j p:Nat} {a:El j},(∀i,i<j->Sz z (toL k (σ i)))->Sz p (toL j a)->Sz (imB (cB R k) z j p) (toL k (ev T σ j a))
 | 0,p,a,_,ha=>Sz.rat k (ha.qs (x:=a) (W0f.2 rfl))
 | j+1,p,a,hs,ha=>by
  have o:=Xlz h (a:=a.1) (λi hi=>hs i (by omega)) (Sz.left ha)
  have A:=Xlz h (a:=a.2) (λi hi=>hs i (by omega)) (Sz.right ha)
  have B:=A.mul h (hs j (by omega))
  show Sz _ (toL k (add k (Tow.ev T σ j a.1) (mul k T (Tow.ev T σ j a.2) (σ j))))
  rw[Xas]
  exact(o.add B).mono (by show _<=2*imB (cB R k) z j p+z+cB R k+1;omega)
theorem Xps{k:Nat}{T:Tw k}{σ:Nat->El k}{ρ':Nat->El K}(o:Hom G ρ k T): ∀ {j:Nat} {a:El j},(∀i,i<j->ev G ρ k (σ i)=ρ' i)->ev G ρ k (ev T σ j a)=ev G ρ' j a
 | 0,a,_=>Xsr
 | j+1,a,h=>by
  show ev G ρ k (add k (ev T σ j a.1) (mul k T (ev T σ j a.2) (σ j)))=add K (ev G ρ' j a.1) (mul K G (ev G ρ' j a.2) (ρ' j))
  rw[Xej,Xcj o,Xps o λi hi=>h i (by omega),Xps o (a:=a.2) λi hi=>h i (by omega),h j (by omega)]
end
section
theorem Tw.at{k:Nat}: ∀ {t:Tw k} {i:Nat},i<k->∃x:El i,(toT k t)[i]?=some (toL i x)/\(∀r,TS r k t->Sz r (toL i x))/\∀ {K:Nat} {G:Tw K} {ρ:Nat->El K},Hom G ρ k t->mul K G (ρ i) (ρ i)=ev G ρ i x/\sgn K G (ρ i)=1:=by
 induction k with
 | zero=>intro t i h;omega
 | succ k j =>
  intro t i h
  have o:=Xaa k t.1
  by_cases e:i=k
  . subst e
    refine⟨t.2,?_,λr h=>h.2,λh=>h.2⟩
    show (toT i t.1++[toL i t.2])[i]?=_
    rw[W0o (by omega),o,W2v];rfl
  . obtain⟨x,A,B,I⟩:=j (t:=t.1) (i:=i) (by omega)
    refine⟨x,?_,λr h=>B r h.1,λh=>I h.1⟩
    show (toT k t.1++[toL k t.2])[i]?=_
    rw[W1d (by omega),A]
theorem _root_.Go.Proofs.YtcmjannkbdflmaaGreatDoor.TS.mono{r s:Nat}(h:r<=s): ∀ {k:Nat} {t:Tw k},TS r k t->TS s k t
 | 0,_,_=>trivial
 | k+1,t,i=>⟨i.1.mono h,i.2.mono h⟩
theorem Xjb{r i k:Nat}(h:i<=k): cB r i<=cB r k:=by
 induction k with
 | zero=>rw[show i=0 by omega];exact W0c _
 | succ k j =>
  by_cases e:i=k+1
  . rw[e];exact W0c _
  . exact W0l (j (by omega)) (Ypc r k)
theorem Yk7{r i k:Nat}(h:i<=k): gC r i<=gC r k:=by
 induction k with
 | zero=>rw[show i=0 by omega];exact W0c _
 | succ k j =>
  by_cases e:i=k+1
  . rw[e];exact W0c _
  . exact W0l (j (by omega)) (by show _<=2*gC r k+2*cB r k+r+iS r k r+2;omega)
theorem Xhi{c h z i p o:Nat}(A:c<=h)(B:z<=i)(I:p<=o): ∀ {j:Nat},imB c z j p<=imB h i j o
 | 0=>by show p+1<=o+1;omega
 | j+1=>by have:=Xhi A B I (j:=j);show 2*imB c z j p+z+c+1<=2*imB h i j o+i+h+1;omega
theorem Ydz{c z p:Nat}: ∀ {j:Nat},p<=imB c z j p
 | 0=>by show p<=p+1;omega
 | j+1=>by have:=Ydz (c:=c) (z:=z) (p:=p) (j:=j);show _<=2*imB c z j p+z+c+1;omega
variable{K:Nat}{G:Tw K}{ρ ρ' ρu:Nat->El K}
def RtV(G:Tw K)(m z j:Nat)(h:List (List Rat))(ρ ρu:Nat->El K): Prop:=∀i,i<j->∃(n:Nat) (s:El n),n<=m/\h[i]?=some (toL n s)/\Sz z (toL n s)/\ev G ρ n s=ρu i
theorem RtV.mono{m o z A j:Nat}{B:List (List Rat)}(h:RtV G m z j B ρ ρu)(T:m<=o)(I:z<=A)(hr:∀i,i<m->ρ' i=ρ i): RtV G o A j B ρ' ρu:=λi hi=>by
 obtain⟨n,s,U,M,O,Q⟩:=h i hi
 exact⟨n,s,by omega,M,O.mono I,by rw[<-Q];exact Xbv λi hi=>hr i (by omega)⟩
theorem RtV.snoc{m z j n:Nat}{o:List (List Rat)}(h:RtV G m z j o ρ ρu)(A:o.length=j){s:El n}(B:n<=m)(I:Sz z (toL n s))(M:ev G ρ n s=ρu j): RtV G m z (j+1) (o++[toL n s]) ρ ρu:=λi hi=>by
 by_cases e:i=j
 . subst e
   exact⟨n,s,B,by rw[W0o (by omega),A,W2v];rfl,I,M⟩
 . obtain⟨O,s',Q,T,U,V⟩:=h i (by omega)
   exact⟨O,s',Q,by rw[W1d (by omega),T],U,V⟩
structure Nm where
 k:Nat
 t:Tw k
 a:El k
structure NOk (G:Tw K) (S:List (El K)) (r p:Nat) (x:Nm) (v:El K):Prop where
 ex:∃ρ,TOk G S x.k x.t ρ/\ev G ρ x.k x.a=v
 r:TS r x.k x.t
 p:Sz p (toL x.k x.a)
theorem NOk.mono{S:List (El K)}{r i p j:Nat}{x:Nm}{v:El K}(h:NOk G S r p x v)(hr:r<=i)(hp:p<=j): NOk G S i j x v:=⟨h.ex,h.r.mono hr,h.p.mono hp⟩
theorem NOk.le(hG:Xbm K G){S:List (El K)}{r p:Nat}{x:Nm}{v:El K}(h:NOk G S r p x v)(i:S.length<=3): x.k<=3:=by
 obtain⟨ρ,j,_⟩:=h.ex
 exact W0l (j.le hG) i
theorem NOk.sgn(hG:Xbm K G){S:List (El K)}{r p:Nat}{x:Nm}{v:El K}(h:NOk G S r p x v): sgn K G v=sgn x.k x.t x.a:=by
 obtain⟨ρ,i,j⟩:=h.ex
 rw[<-j,Xf3 hG i.h]
theorem NOk.neg{S:List (El K)}{r p:Nat}{x:Nm}{v:El K}(h:NOk G S r p x v): NOk G S r p ⟨x.k,x.t,Tow.neg x.k x.a⟩ (Tow.neg K v):=by
 obtain⟨ρ,i,j⟩:=h.ex
 exact⟨⟨ρ,i,by rw[<-j];exact Xf4⟩,h.r,by rw[Xbw];exact h.p.neg⟩
end
end Go.Tow
namespace Go.Vm
open Go
section
variable{c:Cx}{s:St}{p:Pl}
theorem Nd(t sz:Nat){K:List Kt}{E:Env}{H:Hpl}(h:nxJ c.tb c.n s=some (K,E,H))(k:StP c (.j [] K ((t,.d (.sl sz []))::E) H))(I:look E t=some .nil:=by exact rfl): StP c s:=by
 unfold nxJ at h
 split at h<;>cases h
 rename_i M
 refine go 1000 M ?_
 rintro a w ⟨s0,W,θ,O,hs,B,rfl⟩
 refine k a w ⟨_,W,θ,O,?_,B,rfl⟩
 rw[show sem ((t,AV.d (.sl sz []))::E) H=(upd (look E) t (.d (.sl sz [])),look H) by rw[Xa6]]
 refine⟨hs.fm,⟨hs.rel.defers,hs.rel.size,λq v hq=>?_⟩,hs.obs,λq v i hq hi=>?_⟩
 . rcases Xae hq with ⟨A,o⟩ | ⟨A,o⟩
   . subst A;subst o
     obtain⟨p,e⟩:=Xjo (hs.rel.has q _ I)
     rw[e]
     exact Yn8 rfl (W0c _) (by decide) (.inl rfl)
   . exact hs.rel.has q v o
 . rcases Xae hq with ⟨A,o⟩ | ⟨A,o⟩
   . subst o;exact hi.elim
   . exact hs.ids q v i o hi
end
end Go.Vm
namespace Go.Proofs.YtcmjannkbdflmaaGreatDoor.R9
open Go Go.Vm Go.Num Go.Tow Go.Proofs.YtcmjannkbdflmaaGreatDoor
theorem cmpQ_ne{x y:Rat}: Xn5 x y≠0↔x≠y:=by
 unfold Xn5
 split
 . exact⟨λ_ e=>by subst e;exact absurd ‹_› (Rat.lt_irrefl),λ_=>by decide⟩
 . split
   . exact⟨λ_ e=>by subst e;exact absurd ‹_› (Rat.lt_irrefl),λ_=>by decide⟩
   . exact⟨λh=>absurd rfl h,λh=>by grind⟩
theorem Yfb{l m:List Rat}{p q:Nat}(I:Ps p l)(M:Ps q m)(hp:p+q<=8796093022208)(O:l.length<=1048576): C0 450 [.d (dqs l),.d (dqs m)] (·=.b (dc (l=m))):=by
 refine En Tryz.func450 λ_ _ _=>?_
 refine By rfl (λh=>?_) λh=>?_<;>simp only[lq] at h
 . exact R1 rfl (.bp ⟨nofun,λe=>absurd (by rw[e]) h⟩)
 have h:l.length=m.length:=by omega
 refine Lo (λk:Nat=>[(0,.d (dqs l)),(1,.d (dqs m)),(5,.d (.int .i64 k))]) (λ_=>[]) (λk=>k<=l.length/\l.take k=m.take k) (λk=>l.length-k) 0 [] rfl ⟨by omega,rfl⟩ λk ⟨Q,o⟩=>?_
 refine By rfl (λB=>?_) λB=>?_<;>simp only[lq] at B
 . obtain⟨x,j⟩:=qat (l:=l) (k:=k) (by omega)
   obtain⟨y,i⟩:=qat (l:=m) (k:=k) (by omega)
   refine Dw rfl<|Ix k rfl (mp j)<|Ix k rfl (mp i)<|Ce rfl (R2.Cmp_ok (I x (W0e j)) (M y (W0e i)) hp)<|By rfl (λA=>?_) λA=>?_
   . exact R1 rfl (.bp ⟨nofun,λe=>by subst e;rw[j] at i;injection i with i;exact absurd i (cmpQ_ne.1 A)⟩)
   . have e:x=y:=W1g λh=>A (cmpQ_ne.2 h)
     refine Ar (k+1:Nat) rfl ?_
     exact Bk (k+1) [] rfl ⟨by omega,by rw[W1c,W1c,j,i,o,e]⟩ (by show l.length-(k+1)<l.length-k;omega)
 . rw[W0b (by omega),W0b (by omega)] at o
   exact R1 rfl (.bp ⟨λ_=>o,λ_=>rfl⟩)
theorem begins_ok{T U:List (List Rat)}{p q:Nat}(I:Pt p T)(M:Pt q U)(hp:p+q<=8796093022208)(V:T.length<=16): C0 421 [.d (dts T),.d (dts U)] (·=.b (dc (T.take U.length=U))):=by
 refine En Tryz.func421 λ_ _ _=>?_
 refine By rfl (λh=>?_) λh=>?_<;>simp only[lt'] at h
 . exact R1 rfl (.bp ⟨nofun,λe=>absurd (congrArg List.length e) (by rw[W0k];omega)⟩)
 refine Lo (λk:Nat=>[(0,.d (dts T)),(1,.d (dts U)),(5,.d (.int .i64 k))]) (λ_=>[]) (λk=>k<=U.length/\T.take k=U.take k) (λk=>U.length-k) 0 [] rfl ⟨by omega,rfl⟩ λk ⟨Y,o⟩=>?_
 refine By rfl (λB=>?_) λB=>?_<;>simp only[lt'] at B
 . obtain⟨x,i⟩:∃x,T[k]?=some x:=⟨_,W0a (by omega)⟩
   obtain⟨y,j⟩:∃y,U[k]?=some y:=⟨_,W0a (by omega)⟩
   obtain⟨Z,O⟩:=I k x i
   obtain⟨y1,Q⟩:=M k y j
   have:=p16 (show k<=16 by omega)
   refine Dw rfl<|Ix k rfl (mp i)<|Ix k rfl (mp j)<|Ce rfl (Yfb O Q hp (by omega))<|By rfl (λA=>?_) λA=>?_
   . exact R1 rfl (.bp ⟨nofun,λe=>by
      have:U[k]?=some x:=by rw[<-e,W1l,if_pos (by omega),i]
      rw[j] at this;injection this with this
      exact absurd this.symm (by simpa [Xa9,Xal] using A)⟩)
   . have e:x=y:=by simpa [Xa9,Xal] using A
     refine Ar (k+1:Nat) rfl ?_
     exact Bk (k+1) [] rfl ⟨by omega,by rw[W1c,W1c,i,j,o,e]⟩ (by show U.length-(k+1)<U.length-k;omega)
 . have e:k=U.length:=by omega
   subst e
   rw[W1x] at o
   exact R1 rfl (.bp ⟨λ_=>o,λ_=>rfl⟩)
theorem Ygd{T:List (List Rat)}{l:List Rat}(h0:0<l.length)(j:T.length<=16)(o:l.length<=2^T.length): C0 423 [.d (dts T),.d (dqs l)] (·=.d (dqs (l++List.replicate (2^T.length-l.length) 0))):=by
 have hp:=p16 j
 obtain⟨n,i⟩:∃n,n=2^T.length:=⟨_,rfl⟩
 rw[<-i] at hp o |-
 refine En Tryz.func423 λ_ _ _=>?_
 refine ApL ((l++List.replicate 0 0).map dq) rfl (by simp) (by simpa using h0) (by simp;omega) ?_
 refine Lo (λk:Nat=>[(0,.d (dts T)),(5,.own 6 4 0 ((l++List.replicate k 0).map dq).length)]) (λk=>[(6,.arr 4 ((l++List.replicate k 0).map dq))]) (λk=>l.length+k<=n) (λk=>n-k) 0 [(8,6)] rfl (by omega) λk A=>?_
 refine Ar n rfl ?_ (by rw[i];simp only[lt'];exact Xbo (by omega))
 refine By rfl (λh=>?_) λh=>?_<;>simp only[lq,W0d,W1w] at h
 . refine Ce rfl (R2.FromInt_ok (z:=0) (by decide))<|ApO ((l++List.replicate (k+1) 0).map dq) rfl rfl rfl (by rw[W6t];simp) (by simp;omega) ?_
   exact Bk (k+1) [(18,6)] rfl (show l.length+(k+1)<=n by omega) (by show n-(k+1)<n-k;omega)
 . refine R1 rfl (.own rfl (by omega) ?_)
   rw[W0y,show n-l.length=k by omega]
   exact W0b (by simp)
theorem Xwo{k m:Nat}{s:Tow.El k}{b:Tow.El m}{T:Tw m}(h:Lf s b)(i:k<=m)(j:m<=16): C0 423 [.d (dt T),.d (de s)] (·=.d (de b)):=by
 have:=Ygd (T:=toT m T) (l:=toL k s) (by rw[Xab];exact W0r k) (by rw[Xaa];omega) (by rw[Xab,Xaa];exact W0m (by decide) i)
 rw[Xaa,Xab,<-h] at this
 exact this
def Rts(k z j:Nat)(h:List (List Rat))(σ:Nat->Tow.El k): Prop:=∀i,i<j->∃(m:Nat) (s:Tow.El m),m<=k/\h[i]?=some (toL m s)/\Lf s (σ i)/\Sz z (toL k (σ i))
theorem Xf0{k R z:Nat}{T:Tw k}{A:List (List Rat)}{σ:Nat->Tow.El k}(B:TS R k T)(I:k<=16): ∀ {j p:Nat} {a:Tow.El j},Rts k z j A σ->Sz p (toL j a)->j<=16->imB (cB R k) z j p<=4398046511104 ->
 C0 424 [.d (dt T),.d (dts A),.d (de a)] (·=.d (de (ev T σ j a))):=by
 intro j
 induction j with
 | zero =>
  intro p a _ ha Y hb
  have M:∀y:Rat,Qs p y->C0 424 [.d (dt T),.d (dts A),.d (dqs [y])] (·=.d (de (rat k y))):=λy hy=>by
   refine En Tryz.func424 λ_ _ _=>?_
   exact Yes rfl rfl<|Ix 0 rfl (u:=dq y) rfl<|Ce rfl (R6.FromRat_el I)<|R0
  exact M a (ha.qs (W0f.2 rfl))
 | succ j O =>
  intro p a Q ha Y hb
  have Z:2*imB (cB R k) z j p+z+cB R k+1<=4398046511104:=hb
  have o:Rts k z j A σ:=λi hi=>Q i (by omega)
  have hpj:=p16 (show j<=16 by omega)
  have hp0:=W0r j
  have hs:∀i,i<j->Sz z (toL k (σ i)):=λi hi=>(o i hi).elim λ_ h=>h.elim λ_ h=>h.2.2.2
  have h1:=Xlz B (a:=a.1) hs (Sz.left ha)
  have U:=Xlz B (a:=a.2) hs (Sz.right ha)
  obtain⟨m,s,m1,m2,m3,V⟩:=Q j (by omega)
  refine En Tryz.func424 λ_ _ _=>?_
  refine No rfl (by show ¬((((toL j a.1++toL j a.2).map dq).length:Nat):Int)=1;rw[hvL];omega)<|Ar (2^j:Nat) rfl ?_ (hvq a (by omega))
  refine Lo (λi:Nat=>[(0,.d (dt T)),(1,.d (dts A)),(2,.d (de a)),(7,.d (.int .i64 (2^j:Nat))),(8,.d (.int .i64 i))]) (λ_=>[]) (λi=>i<=j) (λi=>j-i) 0 [] rfl (by omega) λi hi=>?_
  refine Ar (i+1:Nat) rfl ?_
  refine Ar (2^(i+1):Nat) rfl ?_ (Xbo (by omega))
  refine By rfl (λh=>?_) λh=>?_
  . have h:((2^(i+1):Nat):Int)<(((toL j a.1++toL j a.2).map dq).length:Nat):=h
    rw[hvL,<-Nat.pow_succ'] at h
    have h:i+1<j+1:=(W2w (by decide:1<2)).1 (by omega)
    refine Ar (i+1:Nat) rfl ?_
    exact Bk (i+1) [] rfl (show i+1<=j by omega) (by show j-(i+1)<j-i;omega)
  . have h:¬((2^(i+1):Nat):Int)<(((toL j a.1++toL j a.2).map dq).length:Nat):=h
    rw[hvL,<-Nat.pow_succ'] at h
    have h:¬i+1<j+1:=λe=>h (by have:=(W2w (by decide:1<2)).2 e;omega)
    obtain rfl:i=j:=by omega
    refine Dw rfl<|Tk (2^i) ((toL i a.1).map dq) rfl rfl (Xcc a) (hvT a) ?_
    refine Ce rfl (O o (Sz.left ha) (by omega) (by omega))<|Dp (2^i) ((toL i a.2).map dq) rfl rfl (Xcc a) (hvD a) ?_
    exact Ce rfl (O o (Sz.right ha) (by omega) (by omega))<|Ix i rfl (mp m2)<|Ce rfl (Xwo (T:=T) m3 m1 I)<|Ce rfl (R6.Mul_el B U V I (by omega))<|Ce rfl (R6.Add_el I h1.ps (U.mul B V).ps (by omega))<|R0
end Go.Proofs.YtcmjannkbdflmaaGreatDoor.R9
namespace Go.Tow
open Go Go.Num Go.Proofs.YtcmjannkbdflmaaGreatDoor
section
variable{K:Nat}{G:Tw K}{ρ:Nat->El K}
end
section
end
section
theorem Xkv{b:Rat}: ∀ {m:Nat} {t:Tw m} {y:El m},toL m (mul m t (rat m b) y)=(toL m y).map (b*·)
 | 0,_,_=>rfl
 | m+1,t,y=>by
  have L:=Xba m t.1
  show toL m (add m (mul m t.1 (rat m b) y.1) (mul m t.1 (mul m t.1 (zero m) y.2) t.2))++toL m (add m (mul m t.1 (rat m b) y.2) (mul m t.1 (zero m) y.1))=(toL m y.1++toL m y.2).map _
  rw[L.zm,L.zm,L.zm,L.az,L.az,Xkv,Xkv,W1k]
variable{K:Nat}{G:Tw K}{S:List (El K)}{r p:Nat}{ρ:Nat->El K}
end
section
def zM(R:Nat): Nat->Nat
 | 0=>3
 | i+1=>zM R i+imB (cB R 3) (zM R i) i R+gC R 3
theorem Yei{R:Nat}: ∀ {i j:Nat},i<=j->zM R i<=zM R j
 | i,0,h=>by rw[show i=0 by omega];exact W0c _
 | i,j+1,h=>by
  by_cases e:i=j+1
  . rw[e];exact W0c _
  . exact W0l (Yei (show i<=j by omega)) (by show _<=zM R j+imB (cB R 3) (zM R j) j R+gC R 3;omega)
variable{K:Nat}{G:Tw K}{S:List (El K)}{R r p:Nat}{ρ:Nat->El K}
structure Wy (G:Tw K) (S:List (El K)) (R:Nat):Prop where
 g:red K G
 s:S.length<=3
 t:∀ {m:Nat} {T:Tw m} {ρ:Nat->El K},TOk G S m T ρ->TS R m T
theorem Wy.le(W:Wy G S R){m:Nat}{T:Tw m}(h:TOk G S m T ρ): m<=3:=W0l (h.le (Xah W.g)) W.s
theorem choose{m:Nat}{P:Nat->Prop}{ρu:Nat->El K}(h:∀j,P j->∃e:El m,ev G ρ m e=ρu j): ∃σ:Nat->El m,∀j,P j->ev G ρ m (σ j)=ρu j:=by
 have:∀j,∃e:El m,P j->ev G ρ m e=ρu j:=λj=>by
  by_cases i:P j
  . obtain⟨e,o⟩:=h j i;exact⟨e,λ_=>o⟩
  . exact⟨zero m,λh=>absurd h i⟩
 exact Classical.axiomOfChoice this
theorem Yoa(W:Wy G S R){m l:Nat}{T:Tw m}{u:Tw l}{ρu:Nat->El K}(o:TOk G S m T ρ)(Q:TOk G S l u ρu): ∀i,i<l->(∀j,j<i->∃e:El m,ev G ρ m e=ρu j)->∀e:El m,ev G ρ m e=ρu i->Sz (zM R (i+1)) (toL m e):=λi=>by
 have B:=Xah W.g
 have U:=W.le o
 induction i using Nat.strongRecOn with
 | _ i Y =>
  intro hi V e Z
  obtain⟨σ,A⟩:=choose (P:=(·<i)) V
  obtain⟨x,_,x2,I⟩:=Tw.at (t:=u) hi
  have hx:=x2 R (W.t Q)
  obtain⟨I,_⟩:=I Q.h
  have hs:∀j,j<i->Sz (zM R i) (toL m (σ j)):=λj h=>(Y j h (by omega) (λj' h'=>V j' (by omega)) _ (A j h)).mono (Yei h)
  have M:=(Xlz (W.t o) (a:=x) hs hx).mono (Xhi (Xjb U) (W0c _) (W0c _))
  have O:mul m T e e=ev T σ i x:=Xnx B o.h o.r (by rw[Xcj o.h,Z,I,Xps o.h A])
  exact(Sz.rootS (W.t o) o.r M O).mono (by have:=Yk7 (r:=R) U;show _<=zM R i+imB (cB R 3) (zM R i) i R+gC R 3;omega)
theorem Ya9(hG:red K G){m:Nat}{T:Tw m}(A:TOk G S m T ρ){g:El K}(O:g∈S)(B:sgn K G g=1){e:El m}(I:ev G ρ m e=mul K G g g): ∃(j:Nat) (T':Tw j) (ρ':Nat->El K),TOk G S j T' ρ'/\Beg m T j T'/\(∀i,i<m->ρ' i=ρ i)/\∃Q:El j,ev G ρ' j Q=g:=by
 have o:=Xah hG
 have L:=Xba K G
 have Sg:=Xau o
 by_cases hs:Xcl m T e
 . obtain⟨y,U⟩:=hs
   refine⟨m,T,ρ,A,Beg.rf,λ_ _=>rfl,?_⟩
   have M:mul K G (ev G ρ m y) (ev G ρ m y)=mul K G g g:=by rw[<-Xcj A.h,U,I]
   by_cases h0:0<=sgn K G (ev G ρ m y)
   . exact⟨y,Xqy hG M h0 (by rw[B];decide)⟩
   . refine⟨neg m y,Xqy hG ?_ (by rw[Xf4,Sg.sn];omega) (by rw[B];decide)⟩
     rw[Xf4,L.mn,L.nm,L.nn,M]
 . refine⟨m+1,tsn T e,_,A.snoc o hs O I.symm B,Beg.snoc,λi hi=>if_neg (by omega),Xf9 (m+1) m,?_⟩
   rw[Xiv (by omega)]
   exact if_pos rfl
theorem Xxq{m j k:Nat}{T:Tw m}{T':Tw j}{ρ':Nat->El K}(o:Beg m T j T')(ha:∀i,i<m->ρ' i=ρ i){g:El K}(h:∃e:El m,ev G ρ m e=g): ∃e:El j,ev G ρ' j e=g:=by
 obtain⟨e,A⟩:=h
 obtain⟨b,hb⟩:=Lf.ex o.le e
 exact⟨b,by rw[hb.ev o.le,Xbv ha,A]⟩
theorem Ylg(hG:red K G){m l:Nat}{T:Tw m}{u:Tw l}{ρu:Nat->El K}(Z:TOk G S m T ρ)(O:TOk G S l u ρu): ∀i,i<=l->∃(o:Nat) (T':Tw o) (ρ':Nat->El K),TOk G S o T' ρ'/\Beg m T o T'/\(∀i,i<m->ρ' i=ρ i)/\∀j,j<i->∃e:El o,ev G ρ' o e=ρu j:=λi=>by
 induction i with
 | zero=>exact λ_=>⟨m,T,ρ,Z,Beg.rf,λ_ _=>rfl,λj A=>absurd A (W8a _)⟩
 | succ i ih =>
  intro hi
  obtain⟨m1,T1,ρ1,a1,Q,a3,U⟩:=ih (by omega)
  obtain⟨σ,B⟩:=choose (P:=(·<i)) U
  obtain⟨x,_,_,I⟩:=Tw.at (t:=u) (show i<l by omega)
  obtain⟨I,x4⟩:=I O.h
  obtain⟨m2,T2,M,b1,V,Y,b4⟩:=Ya9 hG a1 (O.s i (by omega)) x4 (e:=ev T1 σ i x) (by rw[Xps a1.h B,I])
  refine⟨m2,T2,M,b1,Q.tr V,λj A=>by rw[Y j (by have:=Q.le;omega),a3 j A],λj A=>?_⟩
  by_cases e:j=i
  . rw[e];exact b4
  . exact Xxq (k:=0) V Y (U j (by omega))
def Fl(G:Tw K)(S:List (El K))(N:List Nm)(m:Nat)(T:Tw m)(ρ:Nat->El K): Prop:=TOk G S m T ρ/\∀z∈N,∀h,TOk G S z.k z.t h->∀j,j<z.k->∃e:El m,ev G ρ m e=h j
theorem Fl.ex(hG:red K G){m:Nat}{T:Tw m}(V:TOk G S m T ρ): ∀ {N:List Nm},(∀z∈N,∃o,TOk G S z.k z.t o)->∃(I:Nat) (T':Tw I) (ρ':Nat->El K),Fl G S N I T' ρ'/\Beg m T I T'/\(∀i,i<m->ρ' i=ρ i)
 | [],_=>⟨m,T,ρ,⟨V,λz h=>nomatch h⟩,Beg.rf,λ_ _=>rfl⟩
 | z::N,h=>by
  obtain⟨m1,T1,ρ1,⟨a1,a2⟩,Y,a4⟩:=Fl.ex hG V (N:=N) λz B=>h z (W1b _ B)
  obtain⟨o,B⟩:=h z (W0v ..)
  obtain⟨m2,T2,M,b1,Z,b3,b4⟩:=Ylg hG a1 B z.k (W0c _)
  refine⟨m2,T2,M,⟨b1,λy O Q A j U=>?_⟩,Y.tr Z,λi hi=>by rw[b3 i (by have:=Y.le;omega),a4 i hi]⟩
  rcases W1h.1 O with e | O
  . subst e
    rw[A.h.uniq hG B.h j U];exact b4 j U
  . exact Xxq (k:=0) Z b3 (a2 y O Q A j U)
def Gs(G:Tw K)(S:List (El K))(N:List Nm)(b:Nat)(v:El K): Prop:=∀(m:Nat) (T:Tw m) (ρ:Nat->El K),Fl G S N m T ρ->∃a:El m,ev G ρ m a=v/\Sz b (toL m a)
variable{N:List Nm}{b c:Nat}{v w:El K}
theorem Gs.mono(h:Gs G S N b v)(hb:b<=c): Gs G S N c v:=λm T ρ i=>let ⟨a,j,o⟩:=h m T ρ i;⟨a,j,o.mono hb⟩
theorem Gs.add(h:Gs G S N b v)(k:Gs G S N c w): Gs G S N (b+c+1) (Tow.add K v w):=λm T ρ i=>by
 obtain⟨x,j,o⟩:=h m T ρ i
 obtain⟨y,A,B⟩:=k m T ρ i
 exact⟨Tow.add m x y,by rw[Xej,j,A],by rw[Xas];exact o.add B⟩
theorem Gs.neg(h:Gs G S N b v): Gs G S N b (Tow.neg K v):=λm T ρ i=>by
 obtain⟨x,j,o⟩:=h m T ρ i
 exact⟨Tow.neg m x,by rw[Xf4,j],by rw[Xbw];exact o.neg⟩
theorem Gs.mul(W:Wy G S R)(h:Gs G S N b v)(k:Gs G S N c w): Gs G S N (b+c+cB R 3) (Tow.mul K G v w):=λm T ρ i=>by
 obtain⟨x,j,o⟩:=h m T ρ i
 obtain⟨y,A,B⟩:=k m T ρ i
 exact⟨Tow.mul m T x y,by rw[Xcj i.1.h,j,A],(o.mul (W.t i.1) B).mono (by have:=Xjb (r:=R) (W.le i.1);omega)⟩
theorem Gs.rat{q:Rat}(h:Qs p q): Gs G S N (p+1) (Tow.rat K q):=λm T ρ i=>⟨Tow.rat m q,Xsr,Sz.rat m h⟩
theorem Gs.sz(hG:red K G)(I:∀z∈N,∃i,TOk G S z.k z.t i)(h:Gs G S N b v){m:Nat}{T:Tw m}(M:TOk G S m T ρ){a:El m}(ha:ev G ρ m a=v): Sz b (toL m a):=by
 obtain⟨O,T',ρ',j,o,Q⟩:=Fl.ex hG M I
 obtain⟨x,U,A⟩:=h O T' ρ' j
 obtain⟨y,B⟩:=Lf.ex o.le a
 have e:y=x:=Xnx (Xah hG) j.1.h j.1.r (by rw[B.ev o.le,Xbv Q,ha,U])
 rw[<-e,B] at A
 exact Sz.left A
theorem NOk.re(W:Wy G S R)(B:∀z∈N,∃i,TOk G S z.k z.t i){x:Nm}(I:NOk G S r p x v)(h:Gs G S N b v): NOk G S R b x v:=by
 obtain⟨j,o,A⟩:=I.ex
 exact⟨⟨j,o,A⟩,W.t o,h.sz W.g B o A⟩
end
section
theorem Xw6{c z p:Nat}: ∀ {i j:Nat},i<=j->imB c z i p<=imB c z j p
 | i,0,h=>by rw[show i=0 by omega];exact W0c _
 | i,j+1,h=>by
  by_cases e:i=j+1
  . rw[e];exact W0c _
  . exact W0l (Xw6 (show i<=j by omega)) (by show _<=2*imB c z j p+z+c+1;omega)
def wR: Nat:=15346
def wE: Nat:=31691534
def jW(p:Nat): Nat:=8*p+73803682
def oW(p:Nat): Nat:=16*p+147714794
theorem wC: cB wR 3=107429:=by decide +kernel
theorem wZ: zM wR 3=10435952:=by decide +kernel
theorem Xho: wR=15346:=rfl
theorem Yin: wE=31691534:=rfl
theorem wQ: qB wR 3 wE<=4398046511104/\qB wR 3 wR<=4398046511104/\vB wR 3 (wE+gC wR 3)<=4398046511104/\vB wR 3 wR<=4398046511104:=by decide +kernel
theorem wV: vB wR 3 (oW 4000000000)<=4398046511104:=by decide +kernel
theorem Yor{p:Nat}: imB (cB wR 3) (zM wR 3) 3 p=jW p:=by
 show 2*(2*(2*(p+1)+zM wR 3+cB wR 3+1)+zM wR 3+cB wR 3+1)+zM wR 3+cB wR 3+1=8*p+73803682
 rw[wC,wZ];omega
theorem Ygh{m i p:Nat}(h:m<=3)(hi:i<=3): imB (cB wR m) (zM wR 3) i p<=jW p:=by
 rw[<-Yor]
 exact W0l (Xhi (Xjb h) (W0c _) (W0c _)) (Xw6 hi)
theorem Yen{m i:Nat}(h:m<=3)(hi:i<=2): imB (cB wR m) (zM wR 3) i wR<=wE:=by
 refine W0l (W0l (Xhi (Xjb h) (W0c _) (W0c _)) (Xw6 hi)) ?_
 show 2*(2*(wR+1)+zM wR 3+cB wR 3+1)+zM wR 3+cB wR 3+1<=31691534
 rw[wC,wZ,Xho]
 decide
variable{K:Nat}{G:Tw K}{S:List (El K)}{p:Nat}
end
end Go.Tow
namespace Go.Proofs.YtcmjannkbdflmaaGreatDoor.R9
open Go Go.Vm Go.Num Go.Tow Go.Proofs.YtcmjannkbdflmaaGreatDoor
theorem _root_.Go.Tow.RtV.sig{K:Nat}{G:Tw K}{m z j:Nat}{A:List (List Rat)}{ρ ρu:Nat->Tow.El K}(h:RtV G m z j A ρ ρu): ∃σ:Nat->Tow.El m,Rts m z j A σ/\∀i,i<j->ev G ρ m (σ i)=ρu i:=by
 have:∀i,∃b:Tow.El m,i<j->(∃(n:Nat) (s:Tow.El n),n<=m/\A[i]?=some (toL n s)/\Lf s b/\Sz z (toL m b))/\ev G ρ m b=ρu i:=λi=>by
  by_cases hi:i<j
  . obtain⟨n,s,B,I,M,O⟩:=h i hi
    obtain⟨b,hb⟩:=Lf.ex B s
    exact⟨b,λ_=>⟨⟨n,s,B,I,hb,hb.sz M⟩,by rw[hb.ev B,O]⟩⟩
  . exact⟨zero m,λh=>absurd h hi⟩
 obtain⟨σ,o⟩:=Classical.axiomOfChoice this
 exact⟨σ,λi hi=>(o i hi).1,λi hi=>(o i hi).2⟩
theorem Yfg(m:Nat): Sz 3 (toL (m+1) (Xf9 (m+1) m)):=by
 rw[Xre]
 exact((Sz.zero m).append (Sz.rat m (x:=1) (p:=1) ⟨show (1:Rat).num.natAbs<2^1 by decide +kernel,show ((1:Rat).den:Int).natAbs<2^1 by decide +kernel⟩)).mono (by omega)
section
variable{K:Nat}{G:Tw K}{S:List (Tow.El K)}{k l:Nat}{t:Tw k}{u:Tw l}{ρ ρu:Nat->Tow.El K}
def ExQ(G:Tw K)(S:List (Tow.El K))(l k:Nat)(t:Tw k)(ρ ρu:Nat->Tow.El K)(f:D->D->AV)(v:AV): Prop:=∃(m:Nat) (T:Tw m) (h:List (List Rat)) (ρ':Nat->Tow.El K),v=f (dt T) (dts h) /\
 TOk G S m T ρ'/\Beg k t m T/\(∀i,i<k->ρ' i=ρ i)/\RtV G m (zM wR 3) l h ρ' ρu/\((∀i,i<l->∃e:Tow.El k,ev G ρ k e=ρu i)->toT m T=toT k t)
def ExI(G:Tw K)(S:List (Tow.El K))(l k:Nat)(t:Tw k)(ρ ρu:Nat->Tow.El K)(x:Nat×(Σ m,Tw m)×List (List Rat)): Prop:=x.1<=l/\x.2.2.length=x.1/\∃ρ':Nat->Tow.El K,TOk G S x.2.1.1 x.2.1.2 ρ'/\Beg k t x.2.1.1 x.2.1.2/\(∀i,i<k->ρ' i=ρ i)/\RtV G x.2.1.1 (zM wR 3) x.1 x.2.2 ρ' ρu/\((∀i,i<l->∃e:Tow.El k,ev G ρ k e=ρu i)->toT x.2.1.1 x.2.1.2=toT k t)
theorem ExI.sq(W:Wy G S wR)(U:TOk G S l u ρu){i m:Nat}{T:Tw m}{B:List (List Rat)}{x:Tow.El i}(h:ExI G S l k t ρ ρu (i,⟨m,T⟩,B))(A:i<l){σ:Nat->Tow.El m}{ρ':Nat->Tow.El K}(I:TOk G S m T ρ')(Y:Beg k t m T)(ha:∀i,i<k->ρ' i=ρ i)(M:RtV G m (zM wR 3) i B ρ' ρu)(Z:(∀i,i<l->∃e:Tow.El k,ev G ρ k e=ρu i)->toT m T=toT k t)(s2:∀j,j<i->ev G ρ' m (σ j)=ρu j)(O:ev G ρ' m (ev T σ i x)=mul K G (ρu i) (ρu i))(x4:sgn K G (ρu i)=1){y:Tow.El m}(h1:mul m T y y=ev T σ i x)(h2:0<=sgn m T y): ExI G S l k t ρ ρu (i+1,⟨m,T⟩,B++[toL m y]):=by
 have hG:=W.g
 have Q:=Xah hG
 have hl3:=W.le U
 obtain⟨_,o,_⟩:=h
 have o:B.length=i:=o
 have V:ev G ρ' m y=ρu i:=Xqy hG (by rw[<-Xcj I.h,h1,O]) (by rw[Xf3 Q I.h];exact h2) (by rw[x4];decide)
 exact⟨A,by simp[o],ρ',I,Y,ha,M.snoc o (W0c _) ((Yoa W I U i A (λj hj=>⟨σ j,s2 j hj⟩) y V).mono (Yei (by omega))) V,Z⟩
theorem ExI.new(W:Wy G S wR)(hu:TOk G S l u ρu){i m:Nat}{T:Tw m}{M:List (List Rat)}{x:Tow.El i}(h:ExI G S l k t ρ ρu (i,⟨m,T⟩,M))(A:i<l){σ:Nat->Tow.El m}{ρ':Nat->Tow.El K}(O:TOk G S m T ρ')(Q:Beg k t m T)(ha:∀i,i<k->ρ' i=ρ i)(U:RtV G m (zM wR 3) i M ρ' ρu)(B:ev G ρ' m (ev T σ i x)=mul K G (ρu i) (ρu i))(x4:sgn K G (ρu i)=1)(Z:¬Xcl m T (ev T σ i x)): ExI G S l k t ρ ρu (i+1,⟨m+1,tsn T (ev T σ i x)⟩,M++[toL (m+1) (Xf9 (m+1) m)]):=by
 have hG:=W.g
 have I:=Xah hG
 obtain⟨_,o,_⟩:=h
 have o:M.length=i:=o
 have V:=O.snoc I Z (hu.s i A) (a:=ev T σ i x) B.symm x4
 refine⟨A,by simp[o],_,V,Q.tr Beg.snoc,λj hj=>?_,?_,λhh=>?_⟩
 . have:=Q.le
   show (if j=m then ρu i else ρ' j)=ρ j
   rw[if_neg (by omega),ha j hj]
 . refine(U.mono (W8n _) (W0c _) (λj hj=>if_neg (by omega))).snoc o (W0c _) ((Yfg m).mono (by rw[wZ];decide)) ?_
   rw[Xiv (by omega)];exact if_pos rfl
 . obtain⟨b,hb⟩:=hh i A
   obtain⟨b',Y⟩:=Lf.ex Q.le b
   refine absurd ⟨b',Xnx I O.h O.r ?_⟩ Z
   rw[Xcj O.h,Y.ev Q.le,Xbv ha,hb,B]
def ExB(m:Nat): Prop:=qB wR m wE<=4398046511104/\qB wR m wR<=4398046511104/\vB wR m (wE+gC wR m)<=4398046511104/\vB wR m wR<=4398046511104
theorem exB{m:Nat}(h:m<=3): ExB m:=by
 obtain⟨q1,q2,i,j⟩:=wQ
 have o:=Yab (r:=wR) (p:=wE) h
 have A:=Yab (r:=wR) (p:=wR) h
 have B:=Yk7 (r:=wR) h
 have I:=Xc4 (r:=wR) (k:=m) (show wE+gC wR m<=wE+gC wR 3 by omega)
 have M:=Xmn (r:=wR) (s:=wE+gC wR 3) h
 have O:=Xmn (r:=wR) (s:=wR) h
 exact⟨by omega,by omega,by omega,by omega⟩
theorem ExI.rad(W:Wy G S wR)(A:TOk G S l u ρu){i m:Nat}{T:Tw m}{U:List (List Rat)}{ρ':Nat->Tow.El K}(B:i<l)(I:TOk G S m T ρ')(M:RtV G m (zM wR 3) i U ρ' ρu): ∃(x:Tow.El i) (σ:Nat->Tow.El m),(toT l u)[i]?=some (toL i x)/\Sz wR (toL i x)/\Rts m (zM wR 3) i U σ/\(∀j,j<i->ev G ρ' m (σ j)=ρu j)/\ev G ρ' m (ev T σ i x)=mul K G (ρu i) (ρu i)/\sgn K G (ρu i)=1/\Sz wE (toL m (ev T σ i x)):=by
 have V:=W.le A
 have O:=W.le I
 obtain⟨x,Y,o,Q⟩:=Tw.at (t:=u) B
 have o:=o wR (W.t A)
 obtain⟨Q,Z⟩:=Q A.h
 obtain⟨σ,s1,s2⟩:=M.sig
 exact⟨x,σ,Y,o,s1,s2,by rw[Xps I.h s2,Q],Z,(Xlz (W.t I) (a:=x) (λi' h'=>(s1 i' h').elim λ_ h=>h.elim λ_ h=>h.2.2.2) o).mono (Yen O (by omega))⟩
theorem Xdp(W:Wy G S wR)(ht:TOk G S k t ρ)(U:TOk G S l u ρu): C0 422 [.d (dt t),.d (dt u)] (ExQ G S l k t ρ ρu λT A=>.tup (.pr (.d T) (.pr (.d A) (.d (.int .i64 0))))):=by
 have hl3:l<=3:=W.le U
 refine En Tryz.func422 λ_ _ _=>?_
 refine Nl 7 7 1 rfl ?_
 refine Lo (λ(x:Nat×(Σ m,Tw m)×List (List Rat))=>[(0,.d (dt x.2.1.2)),(1,.d (dt u)),(7,.gr 7 1 (x.2.2.map dqs)),(8,.d (.int .i64 x.1))]) (λx=>[(7,.tok (x.2.2.map dqs).length 1)])
  (ExI G S l k t ρ ρu) (λx=>l-x.1) (0,⟨k,t⟩,[]) [] rfl ⟨W0s _,rfl,ρ,ht,Beg.rf,λ_ _=>rfl,λi hi=>by omega,λ_=>rfl⟩ (λ(i,⟨m,T⟩,A) hI=>?_)
 have O:=hI
 obtain⟨hi,Y,ρ',o,V,ha,j,Z⟩:=hI
 simp only at hi Y o V ha j Z
 have Q:m<=3:=W.le o
 have hz:=W.t o
 refine By rfl (λh=>?_) λh=>?_<;>simp only[lt',Xaa] at h
 . have I:i<l:=by omega
   obtain⟨x,σ,x1,x2,s1,s2,M,x4,hsz⟩:=ExI.rad W U I o j
   obtain⟨q1,q2,q3,q4⟩:=exB Q
   have hE:=Yen Q (show i<=2 by omega)
   have hR:=Xho
   have hE':=Yin
   have B:(A.map dqs).length<=3:=by rw[W0i];omega
   refine Ix i rfl (mp x1)<|Ce rfl (Xf0 (k:=m) (T:=T) hz (by omega) s1 x2 (by omega) (by omega))<|Ca rfl (R8.Adjoin_ok (k:=m) (t:=T) hz hsz o.r (by omega) q1 q2 q3 q4) λv hv=>?_
   rcases hv with ⟨h1,rfl⟩ | ⟨y,h1,h2,rfl⟩ | ⟨h1,h2,h3,rfl⟩
   . have:=Xf3 (Xah W.g) o.h (a:=ev T σ i x)
     rw[M,(Xau (Xah W.g)).sm,x4] at this
     omega
   . refine No rfl (by simp)<|ApG ((A++[toL m y]).map dqs) rfl (by simp) (by simp at B |-;omega) ?_
     refine Ar (i+1:Nat) rfl ?_
     exact Bk (i+1,⟨m,T⟩,A++[toL m y]) [(38,7)] rfl (O.sq W U I o V ha j Z s2 M x4 h1 h2) (by show l-(i+1)<l-i;omega)
   . refine No rfl (by simp)<|ApG ((A++[toL (m+1) (Xf9 (m+1) m)]).map dqs) rfl (by simp) (by simp at B |-;omega) ?_
     refine Ar (i+1:Nat) rfl ?_
     exact Bk (i+1,⟨m+1,tsn T (ev T σ i x)⟩,A++[toL (m+1) (Xf9 (m+1) m)]) [(38,7)] rfl (O.new W U I o V ha j M x4 h2) (by show l-(i+1)<l-i;omega)
 . obtain rfl:i=l:=by omega
   exact Rt rfl (.tup (.cons (.rf rfl) (.cons (.gr rfl) Xav))) ⟨m,T,A,ρ',rfl,o,V,ha,j,Z⟩
end
end Go.Proofs.YtcmjannkbdflmaaGreatDoor.R9
namespace Go.Proofs.YtcmjannkbdflmaaGreatDoor
open Go Go.Vm Go.Num Go.Tow
abbrev dN(x:Nm): D:=.st (.pr (dt x.t) (de x.a))
abbrev dNs(l:List Nm): D:=.sl 2 (l.map dN)
end Go.Proofs.YtcmjannkbdflmaaGreatDoor
namespace Go.Proofs.YtcmjannkbdflmaaGreatDoor.R9
open Go Go.Vm Go.Num Go.Tow Go.Proofs.YtcmjannkbdflmaaGreatDoor
section
variable{K:Nat}{G:Tw K}{S:List (Tow.El K)}{r p:Nat}{x y:Nm}{vx vy:Tow.El K}
def CmP(G:Tw K)(S:List (Tow.El K))(x y:Nm)(m:Nat)(T:Tw m): Prop:=∃ρ,TOk G S m T ρ/\∀z∈[x,y],∀h,TOk G S z.k z.t h->∀j,j<z.k->∃e:Tow.El m,ev G ρ m e=h j
theorem CmP.mk(hG:red K G){i o:Nat->Tow.El K}(I:TOk G S x.k x.t i)(M:TOk G S y.k y.t o){m:Nat}{T:Tw m}{ρ:Nat->Tow.El K}(U:TOk G S m T ρ)(V:∀j,j<x.k->∃e:Tow.El m,ev G ρ m e=i j)(Y:∀j,j<y.k->∃e:Tow.El m,ev G ρ m e=o j): CmP G S x y m T:=⟨_,U,λz O Z A j B=>by
 rcases W1h.1 O with rfl | O
 . obtain⟨e,Q⟩:=V j B;exact⟨e,by rw[Q];exact I.h.uniq hG A.h j B⟩
 . obtain rfl:=W0f.1 O
   obtain⟨e,Q⟩:=Y j B;exact⟨e,by rw[Q];exact M.h.uniq hG A.h j B⟩⟩
theorem beg_ag(hG:red K G){k m:Nat}{t:Tw k}{T:Tw m}{ρ ρ':Nat->Tow.El K}(h:Beg k t m T)(j:TOk G S k t ρ)(o:TOk G S m T ρ'): ∀i,i<k->ρ' i=ρ i:=(h.hom o.h).uniq hG j.h
theorem rts{k:Nat}{ρ:Nat->Tow.El K}(j:Nat)(h:j<k): ∃e:Tow.El k,ev G ρ k e=ρ j:=⟨Xf9 _ j,Xiv h⟩
theorem beg_rt(hG:red K G){k m:Nat}{t:Tw k}{T:Tw m}{ρ ρ':Nat->Tow.El K}(h:Beg k t m T)(o:TOk G S k t ρ)(A:TOk G S m T ρ')(j:Nat)(i:j<k): ∃e:Tow.El m,ev G ρ' m e=ρ j:=by
 obtain⟨e,B⟩:=rts (G:=G) (k:=m) (ρ:=ρ') j (W0u i h.le)
 exact⟨e,by rw[B];exact beg_ag hG h o A j i⟩
theorem CmP.ext(hG:red K G){o h:Nat->Tow.El K}(i:TOk G S x.k x.t o)(A:TOk G S y.k y.t h){m z:Nat}{T:Tw m}{I:List (List Rat)}{ρ':Nat->Tow.El K}(B:TOk G S m T ρ')(M:Beg x.k x.t m T)(O:RtV G m z y.k I ρ' h): CmP G S x y m T:=.mk hG i A B (beg_rt hG M i B) λj Q=>by
 obtain⟨n,s,s1,_,_,U⟩:=O j Q
 obtain⟨b,hb⟩:=Lf.ex s1 s
 exact⟨b,by rw[hb.ev s1,U]⟩
theorem both(A:NOk G S r p x vx)(B:NOk G S r p y vy)(i:Nat)(hi:i<2): ∃(z:Nm) (v:Tow.El K) (h:Nat->Tow.El K),[x,y][i]?=some z/\[vx,vy][i]?=some v/\TOk G S z.k z.t h/\ev G h z.k z.a=v/\Sz p (toL z.k z.a):=by
 have:i=0\/i=1:=by omega
 rcases this with rfl | rfl
 . obtain⟨ρ,j,o⟩:=A.ex;exact⟨x,vx,ρ,rfl,rfl,j,o,A.p⟩
 . obtain⟨ρ,j,o⟩:=B.ex;exact⟨y,vy,ρ,rfl,rfl,j,o,B.p⟩
def JnR(G:Tw K)(S:List (Tow.El K))(p:Nat)(vx vy:Tow.El K)(m:Nat)(T:Tw m)(a b:Tow.El m): Prop:=∃ρ,TOk G S m T ρ/\ev G ρ m a=vx/\ev G ρ m b=vy/\Sz (jW p) (toL m a)/\Sz (jW p) (toL m b)
def JnI(G:Tw K)(p m:Nat)(ρ:Nat->Tow.El K)(vx vy:Tow.El K)(s:Nat×List (Tow.El m)): Prop:=s.1<=2/\s.2.length=s.1/\∀i,i<s.1->∃a v,s.2[i]?=some a/\[vx,vy][i]?=some v/\ev G ρ m a=v/\Sz (jW p) (toL m a)
theorem JnI.step{m:Nat}{ρ:Nat->Tow.El K}{j:Nat}{A:List (Tow.El m)}{v:Tow.El K}(h:JnI G p m ρ vx vy (j,A))(I:j<2)(M:[vx,vy][j]?=some v){b:Tow.El m}(O:ev G ρ m b=v)(Q:Sz (jW p) (toL m b)): JnI G p m ρ vx vy (j+1,A++[b]):=by
 obtain⟨_,o,B⟩:=h
 have o:A.length=j:=o
 refine⟨I,by simp[o],λi hi=>?_⟩
 by_cases e:i=j
 . subst e
   exact⟨b,v,by rw[W0o (by omega),o,W2v];rfl,M,O,Q⟩
 . obtain⟨a,w,T,U⟩:=B i (by have:i<j+1:=hi;show i<j;omega)
   exact⟨a,w,by rw[W1d (by omega),T],U⟩
theorem JnI.done{m:Nat}{T:Tw m}{ρ:Nat->Tow.El K}{j:List (Tow.El m)}(A:TOk G S m T ρ)(h:JnI G p m ρ vx vy (2,j)): ∃a b,j=[a,b]/\JnR G S p vx vy m T a b:=by
 obtain⟨_,o,i⟩:=h
 match j,o with
 | [a,b],_ =>
  obtain⟨Y,v,a1,B,I,M⟩:=i 0 (show 0<2 by decide)
  obtain⟨Z,w,O,Q,U,V⟩:=i 1 (show 1<2 by decide)
  cases a1;cases B;cases O;cases Q
  exact⟨a,b,rfl,ρ,A,I,U,M,V⟩
theorem img(W:Wy G S wR){m l:Nat}{T:Tw m}{u:Tw l}{ρ j:Nat->Tow.El K}(o:TOk G S m T ρ)(A:TOk G S l u j){B:List (List Rat)}{σ:Nat->Tow.El m}(s1:Rts m (zM wR 3) l B σ){a:Tow.El l}(ha:Sz p (toL l a)): Sz (jW p) (toL m (ev T σ l a)):=(Xlz (W.t o) (λi h=>(s1 i h).elim λ_ h=>h.elim λ_ h=>h.2.2.2) ha).mono (Ygh (W.le o) (W.le A))
theorem jW_ge{p:Nat}: p<=jW p:=by unfold jW;omega
theorem Join_ok(W:Wy G S wR)(hx:NOk G S r p x vx)(hy:NOk G S r p y vy)(hp:p<=4000000000): C0 364 [.d (dNs [x,y])] λv=>∃m T a b,v=.tup (.pr (.d (dNs [⟨m,T,a⟩,⟨m,T,b⟩])) (.d (.int .i64 0)))/\JnR G S p vx vy m T a b:=by
 have hG:=W.g
 have hR:=Xho
 have hJ:jW p=8*p+73803682:=rfl
 obtain⟨ρx,o,hx2⟩:=hx.ex
 obtain⟨ρy,A,hy2⟩:=hy.ex
 have hx3:=W.le o
 have hy3:=W.le A
 have B:=W.t o
 have O:=W.t A
 refine En Tryz.func364 λ_ _ _=>?_
 refine Nd 4 1 rfl ?_
 refine Lo (λ(s:Nat×(Σ m,Tw m))=>[(0,.d (dNs [x,y])),(4,.d (dt s.2.2)),(5,.d (.int .i64 s.1))]) (λ_=>[]) (λs=>(s.1=0/\s.2=⟨0,()⟩)\/(s.1=1/\s.2=⟨x.k,x.t⟩)\/(s.1=2/\CmP G S x y s.2.1 s.2.2)) (λs=>2-s.1) (0,⟨0,()⟩) [] rfl (.inl ⟨rfl,rfl⟩) (λ(i,⟨m,T⟩) hI=>?_)
 simp only at hI
 rcases hI with ⟨rfl,e⟩ | ⟨rfl,e⟩ | ⟨rfl,hP⟩
 . cases e
   refine Yes rfl (show (0:Int)<2 by decide)<|Ix 0 rfl (u:=dN x) rfl<|By rfl (λh=>?_) λh=>?_
   . refine Ix 0 rfl (u:=dN x) rfl<|Ce rfl (begins_ok (U:=[]) (q:=1) (TS.pt B) (λi r h=>by simp at h) (by omega) (by rw[Xaa];omega))<|Yes rfl (by simp)<|Ix 0 rfl (u:=dN x) rfl<|Ar (0+1:Nat) rfl ?_
     exact Bk (1,⟨x.k,x.t⟩) [] rfl (.inr (.inl ⟨rfl,rfl⟩)) (show 1<2 by decide)
   . obtain⟨kx,tx,ax⟩:=x
     have h:¬(((toT kx tx).map dqs).length:Int)>0:=h
     obtain rfl:kx=0:=by rw[lt',Xaa] at h;omega
     refine Ix 0 rfl (u:=dN ⟨0,tx,ax⟩) rfl<|Ce rfl (begins_ok (T:=[]) (U:=[]) (p:=1) (q:=1) (λi r h=>by simp at h) (λi r h=>by simp at h) (by omega) (by decide))<|No rfl (by simp)<|Ar (0+1:Nat) rfl ?_
     exact Bk (1,⟨0,tx⟩) [] rfl (.inr (.inl ⟨rfl,rfl⟩)) (show 1<2 by decide)
 . cases e
   have M:∀h:(toT x.k x.t).take (toT y.k y.t).length=toT y.k y.t,CmP G S x y x.k x.t:=λh=>.mk hG o A o rts (beg_rt hG (show Beg y.k y.t x.k x.t from h) A o)
   refine Yes rfl (show (1:Int)<2 by decide)<|Ix 1 rfl (u:=dN y) rfl<|By rfl (λh=>?_) λh=>?_
   . refine Ix 1 rfl (u:=dN y) rfl<|Ce rfl (begins_ok (T:=toT y.k y.t) (U:=toT x.k x.t) (TS.pt O) (TS.pt B) (by omega) (by rw[Xaa];omega))<|By rfl (λh1=>?_) λh1=>?_
     . have hb:Beg x.k x.t y.k y.t:=h1
       refine Ix 1 rfl (u:=dN y) rfl<|Ar (1+1:Nat) rfl ?_
       exact Bk (2,⟨y.k,y.t⟩) [] rfl (.inr (.inr ⟨rfl,.mk hG o A A (beg_rt hG hb o A) rts⟩)) (show 0<1 by decide)
     . refine Ix 1 rfl (u:=dN y) rfl<|Ce rfl (begins_ok (T:=toT x.k x.t) (U:=toT y.k y.t) (TS.pt B) (TS.pt O) (by omega) (by rw[Xaa];omega))<|By rfl (λh2=>?_) λh2=>?_
       . refine Ix 1 rfl (u:=dN y) rfl<|Ca rfl (Xdp W o A) λv hv=>?_
         obtain⟨m,T,rs,ρ',rfl,g1,g2,g3,Q,g6⟩:=hv
         refine No rfl (by simp)<|Ar (1+1:Nat) rfl ?_
         exact Bk (2,⟨m,T⟩) [] rfl (.inr (.inr ⟨rfl,.ext hG o A g1 g2 Q⟩)) (show 0<1 by decide)
       . refine Ar (1+1:Nat) rfl ?_
         exact Bk (2,⟨x.k,x.t⟩) [] rfl (.inr (.inr ⟨rfl,M (by simpa [Xa9,Xal] using h2)⟩)) (show 0<1 by decide)
   . refine Ix 1 rfl (u:=dN y) rfl<|Ce rfl (begins_ok (T:=toT x.k x.t) (U:=toT y.k y.t) (TS.pt B) (TS.pt O) (by omega) (by rw[Xaa];omega))<|By rfl (λh2=>?_) λh2=>?_
     . refine Ix 1 rfl (u:=dN y) rfl<|Ca rfl (Xdp W o A) λv hv=>?_
       obtain⟨m,T,rs,ρ',rfl,g1,g2,g3,Q,g6⟩:=hv
       refine No rfl (by simp)<|Ar (1+1:Nat) rfl ?_
       exact Bk (2,⟨m,T⟩) [] rfl (.inr (.inr ⟨rfl,.ext hG o A g1 g2 Q⟩)) (show 0<1 by decide)
     . refine Ar (1+1:Nat) rfl ?_
       exact Bk (2,⟨x.k,x.t⟩) [] rfl (.inr (.inr ⟨rfl,M (by simpa [Xa9,Xal] using h2)⟩)) (show 0<1 by decide)
 . obtain⟨ρ,V,hcon⟩:=hP
   have hTr:=W.t V
   have hm3:=W.le V
   refine No rfl (show ¬(2:Int)<2 by decide)<|Nl 9 9 2 rfl ?_
   refine Lo (λ(s:Nat×List (Tow.El m))=>[(0,.d (dNs [x,y])),(4,.d (dt T)),(9,.gr 9 2 (s.2.map λa=>dN ⟨m,T,a⟩)),(10,.d (.int .i64 s.1))]) (λs=>[(9,.tok (s.2.map λa=>dN ⟨m,T,a⟩).length 2)])
    (JnI G p m ρ vx vy) (λs=>2-s.1) (0,[]) [] rfl ⟨W0s _,rfl,λi hi=>absurd hi (W8a _)⟩ (λ(j,bs) hI=>?_)
   have Y:=hI
   obtain⟨hj,hjl,has⟩:=hI
   simp only at hj hjl has
   refine By rfl (λh=>?_) λh=>?_
   . have h:(j:Int)<2:=h
     obtain⟨z,v,ρz,z1,z2,z3,z4,z6⟩:=both hx hy j (by omega)
     have z5:=W.t z3
     have I:([x,y].map dN)[j]?=some (dN z):=by rw[W0w,z1];rfl
     have hzm:=hcon z (W0e z1) ρz z3
     have hz3:=W.le z3
     have hpj:p<=jW p:=jW_ge
     refine Ix j rfl I<|Ce rfl (begins_ok (T:=toT m T) (U:=toT z.k z.t) (TS.pt hTr) (TS.pt z5) (by omega) (by rw[Xaa];omega))<|By rfl (λh1=>?_) λh1=>?_
     . have hb:Beg z.k z.t m T:=h1
       obtain⟨b,Z⟩:=Lf.ex hb.le z.a
       have hv1:ev G ρ m b=v:=by rw[Z.ev hb.le,Xbv (beg_ag hG hb z3 V),z4]
       refine Ix j rfl I<|Ce rfl (Xwo (T:=T) Z hb.le (by omega))<|ApG ((bs++[b]).map λa=>dN ⟨m,T,a⟩) rfl (by simp) (by simp;omega) ?_
       refine Ar (j+1:Nat) rfl ?_
       exact Bk (j+1,bs++[b]) [(113,9)] rfl (Y.step (by omega) z2 hv1 ((Z.sz z6).mono hpj)) (by show 2-(j+1)<2-j;omega)
     . refine Ix j rfl I<|Ca rfl (Xdp W V z3) λv' hv=>?_
       obtain⟨m',T',rs,ρ',rfl,g1,g2,g3,Q,g6⟩:=hv
       obtain rfl:m'=m:=by have:=congrArg List.length (g6 hzm);rwa[Xaa,Xaa] at this
       have Q:RtV G m' (zM wR 3) z.k rs ρ ρz:=Q.mono (W0c _) (W0c _) (λi hi=>(g3 i hi).symm)
       obtain⟨σ,s1,s2⟩:=Q.sig
       have hbd:=Ygh (p:=p) hm3 hz3
       refine Ix j rfl I<|Ce rfl (Xf0 hTr (by omega) s1 z6 (by omega) (by omega))<|ApG ((bs++[ev T σ z.k z.a]).map λa=>dN ⟨m',T,a⟩) rfl (by simp) (by simp;omega) ?_
       refine Ar (j+1:Nat) rfl ?_
       exact Bk (j+1,bs++[ev T σ z.k z.a]) [(113,9)] rfl (Y.step (by omega) z2 (by rw[Xps V.h s2,z4]) (img W V z3 s1 z6)) (by show 2-(j+1)<2-j;omega)
   . have h:¬(j:Int)<2:=h
     obtain rfl:j=2:=by omega
     obtain⟨a,b,rfl,hJ⟩:=Y.done V
     exact Rt rfl (.tup (.cons (.gr rfl) Xav)) ⟨m,T,a,b,rfl,hJ⟩
end
open Go Go.Vm Go.Num Go.Tow Go.Proofs.YtcmjannkbdflmaaGreatDoor
abbrev n0: D:=.st (.pr (dts []) (dqs []))
theorem fit0{g:Hp}{K:Hpl}: Fit g K (.st (.pr .nil .nil)) (.d n0):=.sd (.pd (.nil rfl) (.nil rfl))
section
variable{K:Nat}{G:Tw K}{S:List (Tow.El K)}{r p:Nat}{x y:Nm}{vx vy:Tow.El K}
theorem Ycr(W:Wy G S wR)(i:NOk G S r p x vx)(j:NOk G S r p y vy)(hp:p<=4000000000): C0 271 [.d (dN x),.d (dN y)] λv=>∃m T a b,v=.tup (.pr (.d (dN ⟨m,T,a⟩)) (.pr (.d (dN ⟨m,T,b⟩)) (.d (.int .i64 0))))/\JnR G S p vx vy m T a b:=by
 refine En Tryz.func271 λ_ _ _=>?_
 refine Ca rfl (Join_ok W i j hp) λv o=>?_
 obtain⟨m,T,a,b,rfl,h⟩:=o
 refine No rfl (by simp)<|Dz rfl ?_
 exact Ix 0 rfl (u:=dN ⟨m,T,a⟩) rfl<|Ix 1 rfl (u:=dN ⟨m,T,b⟩) rfl<|Rt rfl (.tup (.cons (.rf rfl) (.cons (.rf rfl) Xav))) ⟨m,T,a,b,rfl,h⟩
def OpR(G:Tw K)(S:List (Tow.El K))(p:Nat)(w:Tow.El K)(v:AV): Prop:=∃z:Nm,v=.tup (.pr (.d (dN z)) (.d (.int .i64 0)))/\NOk G S wR p z w
theorem Add_ok(W:Wy G S wR)(o:NOk G S r p x vx)(A:NOk G S r p y vy)(hp:p<=4000000000): C0 182 [.d (dN x),.d (dN y)] (OpR G S (oW p) (Tow.add K vx vy)):=by
 have Q:oW p=16*p+147714794:=rfl
 have U:jW p=8*p+73803682:=rfl
 refine En Tryz.func182 λ_ _ _=>?_
 refine Ca rfl (Ycr W o A hp) λv B=>?_
 obtain⟨m,T,a,b,rfl,ρ,h,I,M,i,j⟩:=B
 have O:=W.t h
 have V:=W.le h
 exact No rfl (by simp)<|Dw rfl<|Ce rfl (R6.Add_el (k:=m) (a:=a) (b:=b) (by omega) i.ps j.ps (by omega))<|Rt rfl (.tup (.cons (.rf rfl) Xav)) ⟨⟨m,T,Tow.add m a b⟩,rfl,⟨ρ,h,by rw[<-I,<-M];exact Xej⟩,O,by rw[Xas];exact(i.add j).mono (by omega)⟩
theorem Mul_ok(W:Wy G S wR)(B:NOk G S r p x vx)(I:NOk G S r p y vy)(hp:p<=4000000000): C0 227 [.d (dN x),.d (dN y)] (OpR G S (oW p) (Tow.mul K G vx vy)):=by
 have V:oW p=16*p+147714794:=rfl
 have Y:jW p=8*p+73803682:=rfl
 refine En Tryz.func227 λ_ _ _=>?_
 refine Ca rfl (Ycr W B I hp) λv M=>?_
 obtain⟨m,T,a,b,rfl,ρ,i,O,Q,o,A⟩:=M
 have j:=W.t i
 have U:=W.le i
 have Z:=Xjb (r:=wR) U
 have hC:=wC
 exact No rfl (by simp)<|Dw rfl<|Ce rfl (R6.Mul_el (k:=m) (t:=T) (a:=a) (b:=b) j o A (by omega) (by omega))<|Rt rfl (.tup (.cons (.rf rfl) Xav)) ⟨⟨m,T,Tow.mul m T a b⟩,rfl,⟨ρ,i,by rw[<-O,<-Q];exact Xcj i.h⟩,j,(o.mul j A).mono (by omega)⟩
theorem Neg_ok(h:NOk G S r p x vx)(i:x.k<=16)(hp:p<=8796093022208): C0 178 [.d (dN x)] (·=.d (dN ⟨x.k,x.t,Tow.neg x.k x.a⟩)):=by
 refine En Tryz.func178 λ_ _ _=>?_
 exact Dw rfl<|Ce rfl (R6.Neg_el i h.p.ps hp)<|R1 rfl (.rf rfl)
theorem Sub_ok(W:Wy G S wR)(j:NOk G S r p x vx)(i:NOk G S r p y vy)(hp:p<=4000000000): C0 185 [.d (dN x),.d (dN y)] (OpR G S (oW p) (Tow.add K vx (Tow.neg K vy))):=by
 have:=i.le (Xah W.g) W.s
 refine En Tryz.func185 λ_ _ _=>?_
 refine Dw rfl<|Ce rfl (Neg_ok i (by omega) (by omega))<|Ca rfl (Add_ok W j i.neg hp) λv o=>?_
 obtain⟨z,rfl,h⟩:=o
 exact Rt rfl (.tup (.cons (.rf rfl) Xav)) ⟨z,rfl,h⟩
theorem Sign_ok(hG:red K G)(h:NOk G S r p x vx)(i:x.k<=16)(j:vB r x.k p<=4398046511104): C0 179 [.d (dN x)] (·=.d (.int .i64 (sgn K G vx))):=by
 refine En Tryz.func179 λ_ _ _=>?_
 refine Ce rfl (R7.Fast_ok h.r h.p i j) ?_
 rw[h.sgn (Xah hG)]
 exact R0
def RtR(x:Nm)(v:AV): Prop:=∃z:Nm,v=.tup (.pr (.d (dN z)) (.d (.int .i64 0)))/\((∃y,z=⟨x.k,x.t,y⟩/\Tow.mul x.k x.t y y=x.a/\0<=sgn x.k x.t y)\/(z=⟨x.k+1,tsn x.t x.a,Xf9 (x.k+1) x.k⟩/\0<=sgn x.k x.t x.a/\¬Xcl x.k x.t x.a))
theorem Sqrt_ok(hr:red x.k x.t)(B:TS r x.k x.t)(ha:Sz p (toL x.k x.a))(h0:0<=sgn x.k x.t x.a)(I:x.k<8)(hq:qB r x.k p<=4398046511104)(i:qB r x.k r<=4398046511104)(j:vB r x.k (p+gC r x.k)<=4398046511104)(o:vB r x.k r<=4398046511104):
 C0 143 [.d (dN x)] (RtR x):=by
 refine En Tryz.func143 λ_ _ _=>?_
 refine Ca rfl (R8.Adjoin_ok B ha hr I hq i j o) λv j=>?_
 rcases j with ⟨h,rfl⟩ | ⟨y,h,A,rfl⟩ | ⟨h,A,M,rfl⟩
 . omega
 . exact No rfl (by simp)<|Rt rfl (.tup (.cons (.rf rfl) Xav)) ⟨⟨x.k,x.t,y⟩,rfl,.inl ⟨y,rfl,h,A⟩⟩
 . exact No rfl (by simp)<|Rt rfl (.tup (.cons (.rf rfl) Xav)) ⟨⟨x.k+1,tsn x.t x.a,Xf9 (x.k+1) x.k⟩,rfl,.inr ⟨rfl,h,A⟩⟩
theorem FromRat_ok{q:Rat}: C0 100 [.d (dq q)] (·=.d (dN ⟨0,(),q⟩)):=by
 refine En Tryz.func100 λ_ _ _=>?_
 exact R1 rfl (.sd (.pd (.nil rfl) (.lit rfl)))
theorem FromInt_ok{z:Int}(h:-9223372036854775808<=z/\z<9223372036854775808): C0 76 [.d (.int .i64 z)] (·=.d (dN ⟨0,(),(z:Rat)⟩)):=by
 refine En Tryz.func76 λ_ _ _=>?_
 exact Ce rfl (R2.FromInt_ok h)<|Ce rfl FromRat_ok<|R1 rfl (.rf rfl)
end
end Go.Proofs.YtcmjannkbdflmaaGreatDoor.R9
namespace Go.Vm
open Go
section
variable{tb:Nat->Option TI}
end
section
variable{c:Cx}{s:St}
variable{p:Pl}
end
end Go.Vm
namespace Go.Proofs.YtcmjannkbdflmaaGreatDoor.R9
open Go Go.Vm Go.Num Go.Tow Go.Proofs.YtcmjannkbdflmaaGreatDoor
end Go.Proofs.YtcmjannkbdflmaaGreatDoor.R9
namespace Go.Tow
open Go Go.Num Go.Proofs.YtcmjannkbdflmaaGreatDoor
end Go.Tow
namespace Go.Proofs.YtcmjannkbdflmaaGreatDoor.R9
open Go Go.Vm Go.Num Go.Tow Go.Proofs.YtcmjannkbdflmaaGreatDoor
section
section
variable{K:Nat}{G:Tw K}{S:List (Tow.El K)}{r p:Nat}{x:Nm}{v:Tow.El K}
end
end
section
end
end Go.Proofs.YtcmjannkbdflmaaGreatDoor.R9
namespace Go.Tow
open Go Go.Num Go.Proofs.YtcmjannkbdflmaaGreatDoor
variable{K:Nat}{G:Tw K}{ρ:Nat->El K}{S:List (El K)}{r p:Nat}{x:Nm}{v:El K}
end Go.Tow
namespace Go.Proofs.YtcmjannkbdflmaaGreatDoor
open Go Go.Vm Go.Num Go.Tow
end Go.Proofs.YtcmjannkbdflmaaGreatDoor
namespace Go.Proofs.YtcmjannkbdflmaaGreatDoor.R9
open Go Go.Vm Go.Num Go.Tow Go.Proofs.YtcmjannkbdflmaaGreatDoor
end Go.Proofs.YtcmjannkbdflmaaGreatDoor.R9
namespace Go.Vm
open Go Go.ChangeShapes Go.WideShapes Go.ChangeAt Go.RowKit
end Go.Vm
namespace Go.Proofs.YtcmjannkbdflmaaGreatDoor
open Go Go.Vm Go.Num
theorem Yrf{α:Type}{f:α->D}{l:List D}(h:∀y∈l,∃x,y=f x): ∃m:List α,l=m.map f:=by
 induction l with
 | nil=>exact⟨[],rfl⟩
 | cons y l i =>
  obtain⟨x,j⟩:=h y (W0v ..)
  obtain⟨m,o⟩:=i λz A=>h z (W1b _ A)
  exact⟨x::m,by rw[j,o];rfl⟩
theorem Ymj: Arg Tryz.prog 5 λd=>∃n:Nat,d=.int .u8 n/\n<256:=Xyu Tryz.underlying5 (Xk6 Tryz.underlying5) λx ⟨_,e,_⟩=>by rw[e];rfl
theorem Yhr: Arg Tryz.prog 3 λd=>∃n:Int,d=.int .i64 n/\-9223372036854775808<=n/\n<9223372036854775808:=Xyu Tryz.underlying3 (Xvp Tryz.underlying3) λx ⟨_,e,_⟩=>by rw[e];rfl
open Go Go.Vm Go.Num Go.ChangeShapes Go.WideShapes Go.ChangeAt Go.RowKit
abbrev Ygf : List (String × DataW Unit) := [("math/bits.deBruijn32tab", Rows.laid_math_bits_deBruijn32tab), ("math/bits.deBruijn64tab", Rows.laid_math_bits_deBruijn64tab), ("internal/strconv.uint64pow10", Rows.laid_internal_strconv_uint64pow10), ("unicode/utf8.acceptRanges", Rows.laid_unicode_utf8_acceptRanges), ("unicode/utf8.first", Rows.laid_unicode_utf8_first)]
def Yq1: List Int:=(List.range 20).map λi=>((10^i:Nat):Int)
theorem Yey: ∀i,i<20->Yq1.getD i 0=((10^i:Nat):Int):=by decide
theorem Yk6 : Tryz.prog.globalNamed "internal/strconv.uint64pow10" = some 1 := by kernel_rfl
theorem Yk5: (Tryz.prog.globals[1]?).map (·.type)=some 358:=by kernel_rfl
theorem Yox{W:World}(h:laidMetH Tryz.prog Ygf W): Gb.g Tryz.prog (gw0 W):=by
 rw[Go.MakeChecks.laidMetH_plain Tryz.prog Ygf W (by kernel_rfl)] at h
 have h3 : laidMet Tryz.prog (("internal/strconv.uint64pow10", Lib.tabData .u64 Yq1) :: [("unicode/utf8.acceptRanges", Rows.laid_unicode_utf8_acceptRanges), ("unicode/utf8.first", Rows.laid_unicode_utf8_first)]) W := h.tail.tail
 have ht:=Lib.tabIs_of_head Yk6 Yk5 Tryz.underlying358 Tryz.underlying181 (by kernel_rfl) (by kernel_rfl) h3
 exact λi hi=>⟨by rw[show (gw0 W).w=W from rfl,ht.cell Yk6 i (by rw[show Yq1.length=20 from rfl];exact hi),Yey i hi],λh=>h⟩
def lay(vs:List (Nat×Array Value))(w:World): World:={ w with heap:=vs.foldl (λh p=>h.modify p.1 fun | .cells _ t frozen=>.cells p.2 t frozen | o=>o) w.heap }
def u8s(l:List Nat): Array Value:=(l.map λ(n:Nat)=>Value.int .u8 n).toArray
def Yq2: List (Nat×Array Value):=[(1,(Yq1.map λz=>Value.int .u64 z).toArray),(2,u8s Pinned.utf8FirstZ),(3,u8s [128,191,160,191,128,159,144,191,128,143,0,0,0,0,0,0,0,0,0,0,0,0,0,0,0,0,0,0,0,0,0,0]),
 (4,u8s [0,1,28,2,29,14,24,3,30,22,20,15,25,17,4,8,31,27,13,23,21,19,16,7,26,12,18,6,11,5,10,9]),
 (5,u8s [0,1,56,2,57,49,28,3,61,58,42,50,38,29,17,4,62,47,59,36,45,43,51,22,53,39,33,30,24,18,12,5,63,55,48,27,60,41,37,16,46,35,44,21,52,32,23,11,54,26,40,15,34,20,31,10,25,14,19,9,13,8,7,6])]
noncomputable def Xdo(os:Os): World:=lay Yq2 (World.holding Tryz.prog os ⟨#[],#[],[]⟩)
theorem Yap(os:Os)(args:Array Value): laidMet Tryz.prog Ygf ((Xdo os).forCall (λ_ _=>0) ⟨#[],args,[]⟩).memory :=
 laidMet_of_run' 8 (by kernel_rfl) (by kernel_rfl)
end Go.Proofs.YtcmjannkbdflmaaGreatDoor
namespace Go.Vm
open Go
section
variable{c:Cx}{s:St}{p:Pl}
theorem Xnd{o:Oper}{v:AV}{us:Hpl}(h:nxO c.tb c.n s=some (p,o))(j:Xap o=false)(i:p.dr=false)(hr:Raw c.P o (sem p.E p.H) (v,us))(k:p.nx' c v us): StP c s:=by
 obtain⟨A,hd⟩:=Xv4 h
 refine Xne h (.inl ⟨A,(Xp5 j).2 (.inr ⟨i,(v,us),hr,?_⟩)⟩)
 unfold aft
 rw[Xfb,<-hd];exact Pl.nx'_eq.1 k
noncomputable def Yqi(tb:Nat->Option TI)(n:Nat)(s:St): Option (Pl×Oper×Operand×Operand×TypeId×TypeId×TI×Nat×Int):=match nxO tb n s with
 | some (p,o)=>match o.op,p.dr with
  | .call ⟨.builtin .append,⟨[x,y]⟩,⟨[T,T']⟩⟩,false=>match Xcw (look p.E) x,Xcw (look p.E) y,tb T,tb T' with
   | some .nil,some (.d (.int .i64 m)),some h,some ⟨.int _ _,_,_,_⟩=>match look p.H (o.dst.getD 0),h.z,Nat.ble h.eb 128 with
    | none,.sl sz _,true=>some (p,o,x,y,T,T',h,sz,m)
    | _,_,_=>none
   | _,_,_,_=>none
  | _,_=>none
 | none=>none
end
theorem Yji{P:Program}(w:World)(t I ty e:TypeId)(i:TypeInfo)(z:Value)(k T:IntKind)(U:P.underlying t=some (.slice e))(h:P.underlying I=some (.int T))(hi:P.info? e=some i)(V:i.zero=some z)(q:Option Addr)
 (n:Nat) (h0:0<n) (hs:0<i.size) (M:(n:Int)<=9223372036854775807) (O:n*i.bytes<=281474976710656) :
 (Builtin.append_ #[t,I] ty #[.slice q 0 0,.int k n]).run P w =
  .ok (.slice (some ⟨w.heap.size,0,none⟩) n (grownCap w n 0 e)) (w.drew.alloc (.cells (Builtin.zeroCells z.cells n++Builtin.zeroCells z.cells (grownCap w n 0 e-n)) e)):=by
 cases q with
 | none=>exact Go.Lib.run_append_nil_zeros w t I ty e i z k T U h hi V n h0 hs M O
 | some a =>
  have Y:n≠0:=by omega
  have Z:IntKind.i64.wrap (n:Int)=n:=by rw[IntKind.wrap_i64];omega
  have j:¬(9223372036854775807<(n:Int)):=by omega
  have o:¬(281474976710656<Builtin.nextslicecap n 0*i.bytes):=by rw[nextslicecap_zero h0];omega
  have A:¬(281474976710656<(n:Int)*(i.bytes:Int)):=by
   rw[<-W2z]
   omega
  have B:¬((n:Int)<0):=by omega
  have Q:¬(n*i.size=0):=Nat.mul_ne_zero Y (by omega)
  simp[Builtin.append_,run_underlying U,run_underlying h,sizeOf,typeInfo,zeroValue,hi,V,asInt,asIntOf,Z,Y,B,Q,j,o,A,Question.forced,Builtin.firstCells,loadCells,loadCellsFrom,newRow,grownCap]
section
variable{c:Cx}{s:St}{p:Pl}
theorem ApM{o:Oper}{x y:Operand}{T T':TypeId}{ti:TI}{sz:Nat}{m:Int}(n:Nat)(h:Yqi c.tb c.n s=some (p,o,x,y,T,T',ti,sz,m))(h0:0<n)(hr:n<=1099511627776)(k:p.nx' c (.own (o.dst.getD 0) sz 0 n) [(o.dst.getD 0,.arr sz [])])(hm:m=(n:Int):=by first | exact rfl | omega): StP c s:=by
 subst hm
 unfold Yqi at h
 split at h<;>try cases h
 rename_i p' o' ho
 split at h<;>try cases h
 rename_i x' y' T1 T2 B U
 split at h<;>try cases h
 rename_i m' ti1 kn _ e' eb' ar' hx hy V I
 split at h<;>cases h
 rename_i hd hb hz
 refine Xnd ho (by unfold Xap;rw[B];rfl) U (λN W θ ρ _ hO hN hB hv=>?_) k
 obtain⟨hk,_⟩:=c.hT _ _ V
 obtain⟨t,u1,_,u3⟩:=hk.u
 rw[hz] at u3
 obtain⟨E,e,Y,hez,Z,v0,i1,i2,i3,i4,i5⟩:=u3
 subst e
 obtain⟨hk',_⟩:=c.hT _ _ I
 obtain⟨t',u1',_,A⟩:=hk'.u
 have A:t'=.int kn:=A
 subst A
 obtain⟨q,ex⟩:=Xjo (hv _ _ hx)
 obtain⟨ey,_⟩:=Xcv (hv _ _ hy)
 have hsp:0<Z.size:=by rw[i2];exact D.size_pos _
 have hbb:n*Z.bytes<=281474976710656:=by rw[i3];have:=W1z hr (W1t hb);omega
 have M:=Yji (P:=c.P) W.w T T' o.type E Z v0 .i64 kn u1 u1' i1 i4 q n h0 hsp (by omega) hbb
 have hge:=grownCap_ge W.w n 0 E
 have hlt:grownCap W.w n 0 E<9223372036854775808:=by
  have:=W2b (W.w.tape W.w.drawn (.appendCap n 0 E)) (show 0<2^63-n by omega)
  simp only[grownCap,Question.cut] at *
  omega
 have hzs:v0.cells.size=sz:=by rw[Y,<-D.zc_len,<-i5];simp
 obtain⟨W',O,e1,e2,e3⟩:=Xig (W:=W.tick) (θ:=θ) (g:=(sem p.E p.H).2) (dd:=o.dst.getD 0) (E:=E) (sz:=sz) (xs:=[]) (cs:=[]) (c:=grownCap W.w n 0 E) (zs:=(Builtin.zeroCells v0.cells n++Builtin.zeroCells v0.cells (grownCap W.w n 0 E-n)).toList) (Stp.tick hO).obs hN hB hd (λi x h=>by simp at h) (by simp) (by simp) hlt (by
  rw[W4i,Array.length_toList,Array.size_append,size_zeroCells,size_zeroCells,hzs,<-W1i]
  congr 1
  omega)
 obtain⟨cs,⟨b,pp,k1,k2,k3,k4,j⟩,Q⟩:=e3
 subst k4
 have Q:Value.slice (some ⟨W.tick.size,0,none⟩) 0 (grownCap W.w n 0 E)=.slice pp 0 ((O (o.dst.getD 0)).2-0):=Q
 injection Q with Q k7 k8
 have j:=j (.inl rfl)
 rw[<-Q] at j
 injection j with j
 injection j with j
 have j:W.size=b:=j
 subst j
 refine⟨W',O,.value (.slice (some ⟨W.size,0,none⟩) n (grownCap W.w n 0 E)),?_,(Stp.tick hO).trans e2,.inr ⟨_,rfl,Yfw (xs:=[]) k1 (by omega) (by omega) k3⟩,λi hi=>⟨_,by subst hi;exact Xai _ _ _⟩⟩
 have h1:execOp ρ o=(Builtin.append_ #[T,T'] o.type #[ρ x,ρ y] >>= λv=>pure (.value v)):=by
  simp[execOp,B,resolve,invoke,builtin]
 rw[h1,Sem.run_bind,ex,ey,M,e1]
 have fin:∀ {a b:Array Value},a=b->(Result.ok (Next.value (.slice (some ⟨W.size,0,none⟩) n (grownCap W.w n 0 E))) (W.w.drew.alloc (.cells a E)):Result Next)=.ok (.value (.slice (some ⟨W.size,0,none⟩) n (grownCap W.w n 0 E))) (W.tick.w.alloc (.cells b E)):=by
  rintro a b rfl;rfl
 exact fin (by simp)
noncomputable def Yqb(tb:Nat->Option TI)(n:Nat)(s:St): Option Pl:=match nxA tb n s with
 | some (p,o,[.nil])=>match o.op with
  | .call ⟨.builtin .cap,_,⟨[T]⟩⟩=>match tb T with
   | some ⟨.sl _ _,_,_,_⟩=>some p
   | _=>none
  | _=>none
 | _=>none
theorem Kp(h:Yqb c.tb c.n s=some p)(k:p.nx c (.d (.int .i64 0))): StP c s:=by
 unfold Yqb at h
 split at h<;>try cases h
 rename_i B o i
 split at h<;>try cases h
 rename_i asx T j
 split at h<;>cases h
 rename_i A
 refine Xb3 (us:=[]) i ?_ (Pl.nx_nil k)
 rw[j]
 simp[F,Fp,A]
theorem Sn{i:Int}(h:nxS c.tb c.n s=some (p,.nil,none,some i))(k:p.nx c .nil)(j:i=0:=by exact rfl): StP c s:=Xrw h (by subst j;rfl) k
noncomputable def Yqc(tb:Nat->Option TI)(n:Nat)(s:St): Option (Pl×FuncId×List AV):=match nxO tb n s with
 | some (p,o)=>match o.op with
  | .call ⟨.value x,asx,h⟩=>match callee (look p.E) x,getEs (look p.E) asx.toList with
   | some (f,ex),some i=>some (p,f,i++ex)
   | _,_=>none
  | _=>none
 | none=>none
theorem CoN{f:FuncId}{asx:List AV}{Q:AV->Ob->Prop}(h:Yqc c.tb c.n s=some (p,f,asx))(hc:CO c.P f asx Q)(k:∀v i,Q v i->p.nx' c (v.rnf (rnL [(1000000,p.d.getD 0)])) [(p.d.getD 0,i.rnf (rnL [(1000000,p.d.getD 0)]))])
 (j:(Xuc asx [] [] (p.d.getD 0) p.H && !p.dr)=true:=by exact rfl):StP c s:=by
 rw[W0h,W1u] at j
 obtain⟨j,M⟩:=j
 have A:=j
 simp only[Xuc,W0h,W1u] at A
 obtain⟨⟨⟨⟨⟨k1,k2⟩,k3⟩,k4⟩,k5⟩,k6⟩:=A
 have O:∀ {a:AV},a.rnf (rnL [])=a:=by
  intro a
  induction a with
  | st a B=>simp only[AV.rnf,B]
  | tup a B=>simp only[AV.rnf,B]
  | fm f a B=>simp only[AV.rnf,B]
  | pr a c T U=>simp only[AV.rnf,T,U]
  | _=>rfl
 have I:asx.map (AV.rnf (rnL []))=asx:=by rw[show AV.rnf (rnL [])=id from funext λa=>O,List.map_id]
 unfold Yqc at h
 split at h<;>try cases h
 rename_i p' o Y
 obtain⟨hw,hd⟩:=Xv4 Y
 split at h<;>try cases h
 rename_i x as' tys he
 split at h<;>cases h
 rename_i ex vs V hf
 have Z:∀v i,Q v i->WL c.P c.tb p.dr p.L (J c p.K) p.l (S.put ((sem p.E p.H).1,Xb1 (sem p.E p.H).2 [(p.d.getD 0,i.rnf (rnL [(1000000,p.d.getD 0)]))]) o.dst (v.rnf (rnL [(1000000,p.d.getD 0)]))):=λv i hv=>by
  have:=Pl.nx'_eq.1 (k v i hv)
  have this:WL c.P c.tb p.dr p.L (J c p.K) p.l (sem (Xub p.E p.d _) (_++p.H)):=this
  rw[<-hd,Xfb]
  exact this
 refine Xne Y (.inl ⟨hw,?_⟩)
 unfold Wb
 rw[he]
 refine⟨_,_,_,hf,V,?_⟩
 rw[M] at Z |-
 obtain⟨a1,a2⟩:=Xi9 hc j (Xbk k2) (g:=look p.H) (λo x hx=>by simp[look] at hx)
 rw[I] at a2
 refine⟨_,_,.inr rfl,⟨a1,a2⟩,?_⟩
 rintro v g' ⟨v0,H',d1,⟨i,rfl,d2⟩,rfl,rfl⟩
 have:=Z v0 i d2
 simpa [rfH,rnL] using this
end
def AV.nl(o sz:Nat): AV->AV
 | .nil=>.gr o sz []
 | .st a=>.st (a.nl o sz)
 | .pr a c=>.pr (a.nl o sz) (c.nl o sz)
 | a=>a
theorem Yrd{W:GW}{θ:Loc}{o sz:Nat}(h0:θ o=(none,0)): ∀ {a:AV} {cs:List Value},AV.C W θ a cs->AV.C W θ (a.nl o sz) cs:=by
 intro a
 induction a with
 | st a A=>intro cs h;exact A h
 | pr a c i j=>intro cs ⟨u,v,h,B,I⟩;exact⟨u,v,h,i B,j I⟩
 | nil=>intro cs ⟨p,h⟩;exact⟨p,by rw[h,h0];rfl,.inl (by rw[h0]),by simp,by rw[h0];decide,.inl rfl⟩
 | _=>intro cs h;exact h
theorem Ykb{o sz i:Nat}: ∀ {a:AV},(a.nl o sz).ids i->i=o\/a.ids i:=by
 intro a
 induction a with
 | st a B=>exact B
 | pr a c j A=>exact λh=>h.elim (λh=>(j h).imp id .inl) λh=>(A h).imp id .inr
 | nil=>exact .inl
 | _=>exact .inr
section
variable{c:Cx}{s:St}{p:Pl}
theorem nvS{K:List Kt}{E:Env}{H:Hpl}(q o sz:Nat){a:AV}(Z:look H q=some (.var a))(hb:(Nat.blt o 1000000 && !Xcd H o)=true)(k:J c K (sem E ((q,.var (a.nl o sz))::(o,.tok 0 sz)::H))): J c K (sem E H):=by
 simp only[W0h,W1u] at hb
 have hb1:=Xr4 hb.1
 have hn:look H o=none:=Xbk hb.2
 have hq:q≠o:=λe=>by rw[e,hn] at Z;cases Z
 rintro x w ⟨s0,W,θ,hw,hs,hθ,rfl⟩
 have st:=Stp.new0 (d:=o) hs.obs hb1 hn (x:=.tok 0 sz) ⟨by simp,by simp,.inl (by simp)⟩ (λi h=>h)
 have I:=hs.step0 st
 refine k x w ⟨_,W,_,hw,?_,λi hi=>(st.hi i hi).trans (hθ i hi),rfl⟩
 rw[show sem E ((q,Ob.var (a.nl o sz))::(o,Ob.tok 0 sz)::H)=(look E,upd (upd (look H) o (.tok 0 sz)) q (.var (a.nl o sz))) by rw[Xa6,Xa6]]
 have M:upd (look H) o (.tok 0 sz) q=some (.var a):=by rw[Xam hq];exact Z
 have A:∀ {i:Nat} {y:Ob},upd (look H) o (.tok 0 sz) i=some y->∃z,upd (upd (look H) o (.tok 0 sz)) q (.var (a.nl o sz)) i=some z:=λ{i y} Q=>by
  by_cases e:i=q
  . subst e;exact⟨_,Xai _ _ _⟩
  . exact⟨y,by rw[Xam e];exact Q⟩
 refine⟨I.fm,I.rel,⟨λi y Q=>?_,λi y b Q Y hb=>?_,λi j y y' b Q hy' Y U b1 b2=>?_,λi y j Q hj=>?_⟩,λt v i ht hi=>?_⟩
 . rcases Xae Q with ⟨O,B⟩ | ⟨O,B⟩
   . subst O;subst B
     obtain⟨b,cs,T,r1,r2,r3,r4⟩:=I.obs.r _ _ M
     exact⟨b,cs,T,r1,r2,Yrd (by simp) r3,r4⟩
   . exact I.obs.r _ _ B
 . rcases Xae Q with ⟨O,B⟩ | ⟨O,B⟩
   . subst O;exact I.obs.new _ _ b M rfl hb
   . exact I.obs.new _ _ b B Y hb
 . rcases Xae Q with ⟨O,B⟩ | ⟨O,B⟩<;>rcases Xae hy' with ⟨f1,f2⟩ | ⟨f1,f2⟩
   . rw[O,f1]
   . subst O;exact I.obs.dis _ _ _ _ b M f2 rfl U b1 b2
   . subst f1;exact I.obs.dis _ _ _ _ b B M Y rfl b1 b2
   . exact I.obs.dis _ _ _ _ b B f2 Y U b1 b2
 . rcases Xae Q with ⟨O,B⟩ | ⟨O,B⟩
   . subst B
     rcases Ykb (a:=a) hj with h | h
     . exact A (y:=.tok 0 sz) (by rw[h];exact Xai _ _ _)
     . obtain⟨z,V⟩:=I.obs.ids _ _ j M h
       exact A V
   . obtain⟨z,V⟩:=I.obs.ids _ _ j B hj
     exact A V
 . obtain⟨z,V⟩:=I.ids t v i ht hi
   exact A V
theorem Nv{K:List Kt}{E:Env}{H:Hpl}(q i sz:Nat){a:AV}(h:nxJ c.tb c.n s=some (K,E,H))(k:StP c (.j [] K E ((q,.var (a.nl i sz))::(i,.tok 0 sz)::H)))(o:look H q=some (.var a):=by exact rfl)(hb:(Nat.blt i 1000000 && !Xcd H i)=true:=by exact rfl): StP c s:=by
 unfold nxJ at h
 split at h<;>cases h
 rename_i A
 exact go 1000 A (nvS q i sz o hb k)
end
end Go.Vm
namespace Go.Proofs.YtcmjannkbdflmaaGreatDoor
open Go Go.Vm Go.Num Go.Tow
theorem Xi8{l:List Rat}(h0:0<l.length)(i:l.length<=1048576): CA0 306 [.d (dqs l)] 4 (l.map dq):=by
 refine EnW Tryz.func306 λ_ _ _ _=>?_
 refine Ub rfl (λh=>?_) ?_
 . exact absurd h (by intro e; have:l.length = 0 := by simpa using congrArg List.length e
                      omega)
 refine ApL (l.map dq) rfl rfl (by simpa using h0) (by simpa using W0l i (by decide)) ?_
 exact Rw [(7,1000000)] [(1000000,.arr 4 (l.map dq))] rfl (.one (.rf rfl) rfl rfl) ⟨_,rfl,rfl,rfl⟩
theorem Xkg{l:List Rat}(h0:0<l.length)(h:l.length<=1048576): C0 306 [.d (dqs l)] (·=.d (dqs l)):=(Xi8 h0 h).data
theorem Xxh{n:Nat}(h0:0<n)(h:n<=1048576): CA0 456 [.nil,.d (.int .i64 n)] 4 []:=by
 refine EnW Tryz.func456 λ_ _ _ _=>?_
 refine No rfl (by omega)<|Kp rfl ?_
 refine Ar 0 rfl ?_
 refine Ar n rfl ?_
 refine Yes rfl (by omega)<|Kp rfl ?_
 refine Sn rfl ?_
 refine ApM n rfl h0 (by omega) ?_
 refine Sw 0 0 rfl (by omega) (by omega) ?_
 exact Rw [(22,1000000)] [(1000000,.arr 4 [])] rfl (.one (.rf rfl) rfl rfl) ⟨_,rfl,rfl,rfl⟩
theorem Yqn{c i:Bool}(h:c=i){g:Hp}{K:Hpl}: FitT g K (.b c) (.b i):=by
 subst h;exact .one (.rf rfl) (λ_ _ e=>by cases e) (λ_ _ e=>by cases e)
theorem Xsz{p q:Prop}(h:p↔q): dc p=dc q:=by rw[show p=q from propext h]
namespace P8
theorem Yb9{n:Int}(j:n<0)(o:(dig n.natAbs).length<=274877906944): C0 459 [.d (dz n)] (·=.tup (.pr (.d (dS false [])) (.d (.int .i64 7)))):=by
 refine En Tryz.func459 λ_ _ _=>?_
 exact Ce rfl (Sign_ok (z:=n) (by omega))<|Yes rfl (by rcases Xat n 0 with ⟨h,i⟩ | ⟨h,i⟩ | ⟨h,i⟩<;>omega)<|RTt rfl (.cons (.sd (.pd (.bd rfl) (.nil rfl))) Xav)
theorem Xk4{n:Int}(o:(dig n.natAbs).length<=274877906944): C0 455 [.d (dz n)] λv=>∃b l,v=.tup (.pr (.d (dS b l)) (.b (dc (0<=n/\sqN n.natAbs))))/\(0<=n->dS b l=dz (rt n.natAbs:Int)):=by
 have hs:=@Sqrt_ok n.natAbs o
 refine En Tryz.func455 λ_ _ _=>?_
 by_cases A:0<=n
 . have e:((n.natAbs:Nat):Int)=n:=by omega
   rw[e] at hs
   have B:=(Xc7 n.natAbs).1
   have I:rt n.natAbs<=rt n.natAbs*rt n.natAbs:=Nat.le_mul_self _
   have l1:=Xan (show rt n.natAbs<=n.natAbs by omega)
   have M:=Xan B
   refine Ce rfl hs<|Dw rfl<|Yes rfl rfl<|Ce rfl (Mul_ok (by rw[W1m];omega) (by rw[W1m];omega))<|Ce rfl (Cmp_ok (by rw[<-W2z,W1m];omega) (by omega))<|Rt rfl (.tup (.cons (.rf rfl) (Yqn (Xsz ?_)))) ⟨_,_,rfl,λ_=>rfl⟩
   unfold sqN
   rcases Xat ((rt n.natAbs:Int)*(rt n.natAbs:Int)) n with ⟨i,j⟩ | ⟨i,j⟩ | ⟨i,j⟩<;>rw[<-W2z] at i<;>rw[<-W2z] at j |-<;>omega
 . exact Ce rfl (Yb9 (by omega) o)<|Dw rfl<|No rfl (by decide)<|Rt rfl (.tup (.cons (.rf rfl) (Xsn λh=>A h.1))) ⟨_,_,rfl,λh=>absurd h A⟩
theorem Xy2{x:Rat}{p:Nat}(B:Qs p x)(hp:p<=4398046511104): C0 433 [.d (dq x)] λv=>∃b l i j,v=.tup (.pr (.d (R2.dR b l i j)) (.b (dc (∃y:Rat,y*y=x))))/\((∃y:Rat,y*y=x)->∃y:Rat,y*y=x/\R2.dR b l i j=dq y):=by
 have U:=B.n.len2 hp
 have V:=B.d.len2 hp
 have hi:=Xu3 (q:=x)
 refine En Tryz.func433 λ_ _ _=>?_
 refine Ca rfl (Xk4 (n:=x.num) (by omega)) λv o=>?_
 obtain⟨b,l,rfl,hb⟩:=o
 refine Ca rfl (Xk4 (n:=(x.den:Int)) (by omega)) λv o=>?_
 obtain⟨i,j,rfl,A⟩:=o
 have z:∀ {c g K},(c=false/\¬ ∃y:Rat,y*y=x)->FitT g K (.pr (.st (.pr (.st (.pr (.b false) .nil)) (.st (.pr (.b false) .nil)))) (.b c)) (.pr (.d (R2.dR false [] false [])) (.b (dc (∃y:Rat,y*y=x)))):=λ⟨h0,h⟩=>by
  subst h0;exact .cons (.sd (.pd (.sd (.pd (.bd rfl) (.nil rfl))) (.sd (.pd (.bd rfl) (.nil rfl))))) (Xsn h)
 refine By rfl (λh=>?_) λh=>?_
 . have h:¬(0<=x.num/\sqN x.num.natAbs):=by simpa only [Xa9,Xal] using h
   have no:¬ ∃y:Rat,y*y=x:=λe=>h ⟨(hi.1 e).1,(hi.1 e).2.1⟩
   exact Rt rfl (.tup (z ⟨rfl,no⟩)) ⟨false,[],false,[],rfl,λe=>absurd e no⟩
 have h:0<=x.num/\sqN x.num.natAbs:=by simpa [Xa9,Xal] using h
 refine By rfl (λk=>?_) λk=>?_
 . have k:¬(0<=(x.den:Int)/\sqN (x.den:Int).natAbs):=by simpa only [Xa9,Xal] using k
   have no:¬ ∃y:Rat,y*y=x:=λe=>k ⟨by omega,by rw[W1m];exact(hi.1 e).2.2⟩
   exact Rt rfl (.tup (z ⟨rfl,no⟩)) ⟨false,[],false,[],rfl,λe=>absurd e no⟩
 have k:0<=(x.den:Int)/\sqN (x.den:Int).natAbs:=by simpa [Xa9,Xal] using k
 rw[W1m] at k
 obtain⟨y,O,Q,I⟩:=Xkz (q:=x) h.1 h.2 k.2
 refine Rt rfl (.tup (.cons (.rf rfl) (Xzc ⟨y,I⟩))) ⟨_,_,_,_,rfl,λ_=>⟨y,I,?_⟩⟩
 have T:=hb h.1
 have M:=A k.1
 rw[W1m] at M
 show D.st (.pr (dS b l) (dS i j))=D.st (.pr (dz _) (dz _))
 rw[T,M,O,Q]
theorem Xpo{k r p:Nat}{t:Tw k}{a:Tow.El k}(h:TS r k t)(ha:Sz p (toL k a))(i:k<=16)(hp:p+3+cB r k<=4398046511104)(hr:r<=4398046511104): C0 437 [.d (dt t),.d (de a)] (·=.d (de (mul k t a (rat k (1/2))))):=by
 refine En Tryz.func437 λ_ _ _=>?_
 refine Ce rfl (Xk9 (a:=1) (b:=2) (by decide) (by decide)) ?_
 rw[Xxg]
 exact Ce rfl (Xcn (x:=1/2) (p:=3) h i hr ⟨show (1/2:Rat).num.natAbs<2^3 by decide +kernel,show ((1/2:Rat).den:Int).natAbs<2^3 by decide +kernel⟩ (by decide))<|Ce rfl (Xds h ha Sz.half i (by omega) hr)<|R0
theorem Xs1{a b:List D}(h0:0<a.length+b.length)(i:a.length+b.length<=1048576): C0 434 [.d (.sl 1 [.sl 4 a,.sl 4 b])] (·=.d (.sl 4 (a++b))):=by
 refine En Tryz.func434 λ_ _ _=>?_
 refine Lo (λ(x:Nat×Nat)=>[(0,.d (.sl 1 [.sl 4 a,.sl 4 b])),(2,.nil),(3,.d (.int .i64 x.2)),(9,.d (.sl 1 [.sl 4 a,.sl 4 b])),(10,.d (.int .i64 2)),(11,.d (.int .i64 x.1))]) (λ_=>[]) (λx=>x=(0,0)\/x=(1,a.length)\/x=(2,a.length+b.length)) (λx=>2-x.1) (0,0) [] rfl (.inl rfl) (λx h=>?_)
 rcases h with rfl | rfl | rfl
 . refine Yes rfl (show ((0:Nat):Int)<2 by decide)<|Ix 0 rfl (u:=.sl 4 a) rfl<|Ar a.length rfl ?_ (wr (by omega) (by simp only[inK];omega))
   refine No rfl (by omega)<|Ar (1:Nat) rfl ?_
   exact Bk (1,a.length) [] rfl (.inr (.inl rfl)) (show 1<2 by decide)
 . refine Yes rfl (show ((1:Nat):Int)<2 by decide)<|Ix 1 rfl (u:=.sl 4 b) rfl<|Ar (a.length+b.length:Nat) rfl ?_ (wr (by omega) (by simp only[inK];omega))
   refine No rfl (by omega)<|Ar (2:Nat) rfl ?_
   exact Bk (2,a.length+b.length) [] rfl (.inr (.inr rfl)) (show 0<1 by decide)
 refine No rfl (show ¬((2:Nat):Int)<2 by decide)<|CoN rfl (Xxh (n:=a.length+b.length) (by omega) i) (λv o j=>?_)
 obtain⟨rfl,rfl⟩:=j
 refine Lo (λ(x:Nat×List D)=>[(0,.d (.sl 1 [.sl 4 a,.sl 4 b])),(2,.nil),(6,.own 24 4 0 x.2.length),(25,.d (.sl 1 [.sl 4 a,.sl 4 b])),(26,.d (.int .i64 2)),(27,.d (.int .i64 x.1))]) (λx=>[(24,.arr 4 x.2)]) (λx=>x=(0,[])\/x=(1,a)\/x=(2,a++b)) (λx=>2-x.1) (0,[]) [] rfl (.inl rfl) (λx h=>?_)
 rcases h with rfl | rfl | rfl
 . refine Yes rfl (show ((0:Nat):Int)<2 by decide)<|Ix 0 rfl (u:=.sl 4 a) rfl<|ApO a rfl rfl rfl rfl (by omega) ?_
   refine Ar (1:Nat) rfl ?_
   exact Bk (1,a) [(24,90),(33,24)] rfl (.inr (.inl rfl)) (show 1<2 by decide)
 . refine Yes rfl (show ((1:Nat):Int)<2 by decide)<|Ix 1 rfl (u:=.sl 4 b) rfl<|ApO (a++b) rfl rfl rfl (by simp) (by simp;omega) ?_
   refine Ar (2:Nat) rfl ?_
   exact Bk (2,a++b) [(24,90),(33,24)] rfl (.inr (.inr rfl)) (show 0<1 by decide)
 exact No rfl (show ¬((2:Nat):Int)<2 by decide)<|R1 rfl (.own rfl (by simp) (by rw[W0y];exact W0b (by simp)))
theorem Xn2{k:Nat}{x y:Tow.El k}(h:k<=16): C0 434 [.d (.sl 1 [de x,de y])] (·=.d (de (pr x y))):=by
 have:=Xs1 (a:=(toL k x).map dq) (b:=(toL k y).map dq) (by simp[Xab];have:=W0r k;omega) (by simp[Xab];have:=p16 h;omega)
 rwa[<-W1k] at this
end P8
open Go Go.Num Go.Tow
theorem Yd0{r:Nat}: ∀ {k p:Nat},0<iS r k p
 | 0,p=>Nat.succ_pos p
 | k+1,p=>by have:=Yd0 (r:=r) (k:=k) (p:=nS r k p);show 0<p+iS r k (nS r k p)+cB r k;omega
theorem Yov{r:Nat}: ∀ {k p:Nat},p<=iS r k p
 | 0,p=>W8n p
 | k+1,p=>by show p<=p+iS r k (nS r k p)+cB r k;omega
theorem Yk2{r:Nat}: ∀ {k p:Nat},p<=iB r k p
 | 0,p=>W8n p
 | k+1,p=>by show p<=2*(p+iB r k (nB r k p)+cB r k);omega
end Go.Proofs.YtcmjannkbdflmaaGreatDoor
namespace Go.Proofs.YtcmjannkbdflmaaGreatDoor.P8
open Go Go.Vm Go.Num Go.Tow Go.Proofs.YtcmjannkbdflmaaGreatDoor
def SqP(k:Nat)(t:Tw k)(a:Tow.El k)(v:AV): Prop:=∃w:List D,w.length<=2^k/\v=.tup (.pr (.d (.sl 4 w)) (.b (dc (Xcl k t a))))/\(Xcl k t a->∃x,mul k t x x=a/\D.sl 4 w=de x)
theorem Xjq{k r:Nat}{t:Tw k}(h:TS r k t)(i:k<=16)(hr:r<=4398046511104): C0 288 [.d (dt t),.d (dq ((0:Int):Rat))] (·=.d (de (zero k))):=by
 have:=Xcn (x:=((0:Int):Rat)) (p:=1) h i hr (Qs.int Zs.zero (W0c 1)) (by decide)
 rwa[show ((0:Int):Rat)=0 from rfl,Xhg] at this
theorem Xd9{k:Nat}: ∀ {r p:Nat} {t:Tw k} {a:Tow.El k},TS r k t->Sz p (toL k a)->red k t->k<=16->qB r k p<=4398046511104->r<=4398046511104->C0 379 [.d (dt t),.d (de a)] (SqP k t a):=by
 induction k with
 | zero =>
  intro r p t a o ha O hk hq I
  have hq:p<=4398046511104:=hq
  have key:∀y:Rat,Qs p y->C0 379 [.d (dts []),.d (dqs [y])] λv=>∃w:List D,w.length<=2^0/\v=.tup (.pr (.d (.sl 4 w)) (.b (dc (∃x:Rat,x*x=y))))/\((∃x:Rat,x*x=y)->∃x:Rat,x*x=y/\D.sl 4 w=dqs [x]):=λy hy=>by
   refine En Tryz.func379 λ_ _ _=>?_
   refine Yes rfl rfl<|Ix 0 rfl (u:=dq y) rfl<|Ca rfl (Xy2 hy (by omega)) λv Q=>?_
   obtain⟨b,l,b',l',rfl,V⟩:=Q
   exact Rt rfl (.tup (.cons (.lit rfl) (.one (.rf rfl) (λ_ _ e=>by cases e) (λ_ _ e=>by cases e)))) ⟨_,W0c _,rfl,λh=>let ⟨y,Y,h2⟩:=V h;⟨y,Y,by rw[show dqs [y]=D.sl 4 [dq y] from rfl,<-h2];rfl⟩⟩
  exact key a (ha.qs (W0f.2 rfl))
 | succ k ih =>
  intro r p t a o ha O hk hq I
  have hx:Sz p (toL k a.1):=Sz.left ha
  have hy:Sz p (toL k a.2):=Sz.right ha
  have B:=Xab k
  have hk0:=W0r k
  have hpk:=p16 (show k<=16 by omega)
  have hz:=ha.normS o
  have L:=Xba k t.1
  have hqq:p+vB r (k+1) p+vB r (k+1) r+nB r k p+qB r k (sX r k p)+iB r k (sX r k p+gC r k)+iS r k (sX r k p+gC r k)+iB r k r+2*cB r k+4<=4398046511104:=hq
  have hX:sX r k p=p+nS r k p+gC r k+cB r k+iS r k r+4:=rfl
  have hN:nB r k p=4*p+3*cB r k+r+1:=rfl
  have hI:0<iS r k r:=Yd0
  have q6:=Yov (r:=r) (k:=k) (p:=sX r k p+gC r k)
  have q7:=Yk2 (r:=r) (k:=k) (p:=sX r k p+gC r k)
  have q1:qB r k p<=qB r k (sX r k p):=Xc9 (by omega)
  have q2:qB r k (nS r k p)<=qB r k (sX r k p):=Xc9 (by omega)
  have q3:qB r k (p+iS r k r+cB r k)<=qB r k (sX r k p):=Xc9 (by omega)
  have q4:sX r k p<=qB r k (sX r k p):=Yjv
  have hr0:t.2≠zero k:=λh0=>O.2.2 ⟨zero k,by rw[h0,L.mz]⟩
  obtain⟨i,hi⟩:=(Xeb O.1).2 t.2 hr0
  have him:=Xdb hi
  have hiz:=Sz.invS o.1 o.2 hi
  have no0:∀ {g K},¬Xcl (k+1) t a->FitT g K (.pr .nil (.b false)) (.pr (.d (.sl 4 [])) (.b (dc (Xcl (k+1) t a)))):=λh=>.cons (.nil (sz:=4) rfl) (Xsn h)
  refine En Tryz.func379 λ_ _ _=>?_
  refine No rfl (by show ¬((((toT k t.1++[toL k t.2]).map dqs).length:Nat):Int)=0;rw[twL];omega)<|Dw rfl<|Ar k rfl ?_ (tw1 t (by omega))
  refine Tk k ((toT k t.1).map dqs) rfl rfl (Xg3 t) (twT t) ?_
  refine Ar k rfl ?_ (tw1 t (by omega))
  refine Ix k rfl (twU t)<|Dw rfl<|Ar (2^k:Nat) rfl ?_ (hvq a (by omega))
  refine Tk (2^k) ((toL k a.1).map dq) rfl rfl (Xcc a) (hvT a) ?_
  refine Ar (2^k:Nat) rfl ?_ (hvq a (by omega))
  refine Dp (2^k) ((toL k a.2).map dq) rfl rfl (Xcc a) (hvD a) ?_
  refine Ce rfl (Xep (l:=toL k a.2) hy.ps (by omega) (by rw[B];omega))<|By rfl (λQ=>?_) λQ=>?_
  . have ev:=(Xar k a.2).2 Q
    have ea:a=up k a.1:=by show (a.1,a.2)=(a.1,zero k);rw[ev]
    refine Ca rfl (ih o.1 hx O.1 (by omega) (by omega) I) λv Q=>?_
    obtain⟨w,hwl,rfl,V⟩:=Q
    refine By rfl (λY=>?_) λY=>?_
    . obtain⟨x,T,M⟩:=V Y
      injection M with _ M
      subst M
      have hs:mul (k+1) t (pr x (zero k)) (pr x (zero k))=a:=(Yi8 T).trans ea.symm
      exact Ce rfl (Xa4 (z:=0) (by decide))<|Ce rfl (Xjq o.1 (by omega) I)<|Ce rfl (Xn2 (x:=x) (y:=zero k) (by omega))<|Rt rfl (.tup (.cons (.rf rfl) (Xzc ⟨_,hs⟩))) ⟨_,by simp[Xab],rfl,λ_=>⟨_,hs,rfl⟩⟩
    . refine Ce rfl (Xuv o.1 o.2 (by omega) (by omega) I hi)<|No rfl (by decide)<|Ce rfl (Xds o.1 hx hiz (by omega) (by omega) I)<|Ca rfl (ih o.1 (hx.mul o.1 hiz) O.1 (by omega) (by omega) I) λv Q=>?_
      obtain⟨w,hwl,rfl,V⟩:=Q
      refine Ce rfl (Xa4 (z:=0) (by decide))<|Ce rfl (Xjq o.1 (by omega) I)<|Ce rfl (Xs1 (a:=(toL k (zero k)).map dq) (b:=w) (by simp[B];omega) (by simp[B];omega)) ?_
      have hiff:Xcl k t.1 (mul k t.1 a.1 i)↔Xcl (k+1) t a:=⟨λ⟨x,T⟩=>⟨_,(Xu1 him T).trans ea.symm⟩,λe=>W1g λh2=>Xms O.1 him Y h2 (ea ▸ e)⟩
      refine Rt rfl (.tup (.cons (.rf rfl) (Yqn (Xsz hiff)))) ⟨_,by simp[B];omega,rfl,λe=>?_⟩
      obtain⟨x,T,M⟩:=V (hiff.2 e)
      injection M with _ M
      subst M
      exact⟨(zero k,x),(Xu1 him T).trans ea.symm,by rw[<-W1k];rfl⟩
  have ev:a.2≠zero k:=λe=>Q ((Xar k a.2).1 e)
  refine Ce rfl (Xzq o ha hk (by omega) I)<|Ca rfl (ih o.1 hz O.1 (by omega) (by omega) I) λv Q=>?_
  obtain⟨w,hwl,rfl,V⟩:=Q
  refine By rfl (λY=>?_) λY=>?_
  . have no:¬Xcl (k+1) t a:=λe=>by
     exact Y (Xu0 e)
    exact Rt rfl (.tup (.cons (.nil (sz:=4) rfl) (Xsn no))) ⟨[],W0s _,rfl,λe=>absurd e no⟩
  obtain⟨m,hm,hm2⟩:=V (W3g.1 Y)
  injection hm2 with _ hm2
  subst hm2
  have hm:mul k t.1 m m=Tow.norm k t a:=hm
  have Z:=hz.rootS o.1 O.1 hm
  refine Ce rfl (Xhx o.1 hx Z (by omega) (by omega) I)<|Ce rfl (Xgg o.1 hx Z (by omega) (by omega) I)<|Lo (λ(x:Nat)=>[(4,.nil),(5,.b false),(8,.d (dt t.1)),(11,.d (de a.2)),(117,.lit 1 [de (Tow.add k a.1 m),de (Tow.add k a.1 (Tow.neg k m))]),(118,.d (.int .i64 2)),(119,.d (.int .i64 x))]) (λ_=>[]) (λx=>x=0\/(x=1/\¬Xcl k t.1 (mul k t.1 (rat k (1/2)) (Tow.add k a.1 m)))\/(x=2/\¬Xcl k t.1 (mul k t.1 (rat k (1/2)) (Tow.add k a.1 m))/\¬Xcl k t.1 (mul k t.1 (rat k (1/2)) (Tow.add k a.1 (Tow.neg k m))))) (λx=>2-x) 0 [] rfl (.inl rfl) (λx hI=>?_)
  have step:∀(A:Tow.El k),mul k t.1 A A=Tow.norm k t a->Sz (nS r k p+gC r k) (toL k A)->Sz (3+(p+(nS r k p+gC r k)+1)+cB r k) (toL k (mul k t.1 (Tow.add k a.1 A) (rat k (1/2))))/\mul k t.1 (Tow.add k a.1 A) (rat k (1/2))=mul k t.1 (rat k (1/2)) (Tow.add k a.1 A):=λA _ hs=>⟨by
   rw[L.mc];exact Sz.half.mul o.1 (by rw[Xas];exact hx.add hs),L.mc _ _⟩
  have q5:qB r k (3+(p+(nS r k p+gC r k)+1)+cB r k)<=qB r k (sX r k p):=Xc9 (by omega)
  refine By rfl (λh2=>?_) λh2=>?_
  . obtain⟨A,e1,e2,e3,next⟩:∃A,[de (Tow.add k a.1 m),de (Tow.add k a.1 (Tow.neg k m))][x]?=some (de (Tow.add k a.1 A))/\mul k t.1 A A=Tow.norm k t a/\Sz (nS r k p+gC r k) (toL k A)/\(¬Xcl k t.1 (mul k t.1 (rat k (1/2)) (Tow.add k a.1 A))->(x+1=0\/(x+1=1/\¬Xcl k t.1 (mul k t.1 (rat k (1/2)) (Tow.add k a.1 m)))\/(x+1=2/\¬Xcl k t.1 (mul k t.1 (rat k (1/2)) (Tow.add k a.1 m))/\¬Xcl k t.1 (mul k t.1 (rat k (1/2)) (Tow.add k a.1 (Tow.neg k m)))))):=by
     rcases hI with rfl | ⟨rfl,g1⟩ | ⟨rfl,g1,g2⟩
     . exact⟨m,rfl,hm,Z,λh=>.inr (.inl ⟨rfl,h⟩)⟩
     . exact⟨Tow.neg k m,rfl,by rw[L.mn,L.nm,L.nn,hm],Xg0 Z,λh=>.inr (.inr ⟨rfl,g1,h⟩)⟩
     . omega
    refine Ix x rfl e1 ?_
    obtain⟨s1,s2⟩:=step A e2 e3
    refine Ce rfl (Xpo o.1 (a:=Tow.add k a.1 A) (p:=p+(nS r k p+gC r k)+1) (by rw[Xas];exact hx.add e3) (by omega) (by omega) I)<|Ca rfl (ih o.1 s1 O.1 (by omega) (by omega) I) λv Q=>?_
    obtain⟨w,hwl,rfl,V⟩:=Q
    refine By rfl (λh3=>?_) λh3=>?_
    . have h3:¬Xcl k t.1 (mul k t.1 (Tow.add k a.1 A) (rat k (1/2))):=by simpa only [Xa9,Xal] using h3
      rw[s2] at h3
      refine Ar (x+1:Nat) rfl ?_
      exact Bk (x+1) [] rfl (next h3) (by omega)
    . have h3:Xcl k t.1 (mul k t.1 (Tow.add k a.1 A) (rat k (1/2))):=by simpa [Xa9,Xal] using h3
      obtain⟨w,hw1,U⟩:=V h3
      injection U with _ U
      subst U
      rw[s2] at hw1
      have hw0:=Yi7 O ev e2 hw1
      have hwz:Sz (3+(p+(nS r k p+gC r k)+1)+cB r k+gC r k) (toL k w):=(s2 ▸ s1).rootS o.1 O.1 hw1
      have U:Tow.add k w w≠zero k:=λe=>hw0 (by
       have e3:mul k t.1 (rat k (1/2)) (Tow.add k w w)=w:=by rw[L.md,<-L.dm,Xf2,L.om]
       rw[<-e3,e,L.mz])
      obtain⟨j,hj⟩:=(Xeb O.1).2 _ U
      have hdz:Sz (sX r k p+gC r k) (toL k (Tow.add k w w)):=by rw[Xas];exact hwz.dbl.mono (by omega)
      have hjz:=Sz.invS o.1 hdz hj
      have hs:=Yja e2 hw1 (Xdb hj)
      exact Ce rfl (Xep (l:=toL k w) hwz.ps (by omega) (by rw[B];omega))<|No rfl (λe=>hw0 ((Xar k w).2 e))<|Ce rfl (Xhx o.1 hwz hwz (by omega) (by omega) I)<|Ce rfl (Xuv o.1 hdz (by omega) (by omega) I hj)<|Ce rfl (Xds o.1 hy hjz (by omega) (by omega) I)<|Ce rfl (Xn2 (by omega))<|Rt rfl (.tup (.cons (.rf rfl) (Xzc ⟨_,hs⟩))) ⟨_,by simp[Xab],rfl,λ_=>⟨_,hs,rfl⟩⟩
  . have no:¬Xcl (k+1) t a:=λe=>by
     rcases hI with rfl | ⟨rfl,g1⟩ | ⟨rfl,g1,g2⟩
     . omega
     . omega
     . obtain⟨w,_,h6 | h6⟩:=Xqz O.1 ev hm e
       . exact g1 ⟨w,h6⟩
       . exact g2 ⟨w,h6⟩
    exact Rt rfl (.tup (.cons (.nil (sz:=4) rfl) (Xsn no))) ⟨[],W0s _,rfl,λe=>absurd e no⟩
theorem Xo8{k r p:Nat}{t:Tw k}{a:Tow.El k}(j:TS r k t)(ha:Sz p (toL k a))(o:red k t)(A:k<=16)(hq:qB r k p<=4398046511104)(B:vB r k (p+gC r k)<=4398046511104)(hr:vB r k r<=4398046511104):
 C0 308 [.d (dt t),.d (de a)] λv=>∃w:D,v=.tup (.pr (.d w) (.b (dc (Xcl k t a))))/\(Xcl k t a->∃x,mul k t x x=a/\0<=sgn k t x/\w=de x):=by
 have L:=Xba k t
 have S:=Xau (Xah o)
 have:=Xdh (r:=r) k (p+gC r k)
 have O:=Xdh (r:=r) k r
 refine En Tryz.func308 λ_ _ _=>?_
 refine Ca rfl (Xd9 j ha o A hq (by omega)) λv B=>?_
 obtain⟨w,_,rfl,Q⟩:=B
 refine By rfl (λh=>?_) λh=>?_
 . exact Rt rfl (.tup (.cons (.nil (sz:=4) rfl) (Xsn h))) ⟨_,rfl,λe=>absurd e h⟩
 have h:=W3g.1 h
 obtain⟨x,I,i⟩:=Q h
 injection i with _ i
 subst i
 have M:=ha.rootS j o I
 refine Ce rfl (Xgs j M (Xah o) A B hr (by omega))<|By rfl (λT=>?_) λT=>?_
 . exact Ce rfl (Xuu j M A (by omega) (by omega))<|Rt rfl (.tup (.cons (.rf rfl) (Xzc h))) ⟨_,rfl,λ_=>⟨Tow.neg k x,by rw[L.mn,L.nm,L.nn,I],by rw[S.sn];omega,rfl⟩⟩
 . exact Rt rfl (.tup (.cons (.rf rfl) (Xzc h))) ⟨_,rfl,λ_=>⟨x,I,by omega,rfl⟩⟩
theorem Xgt{k r:Nat}{t:Tw k}(I:TS r k t)(M:red k t)(V:k<=16)(hq:qB r k r<=4398046511104)(A:vB r k r<=4398046511104): C0 307 [.d (dt t)] (·=.b true):=by
 have:=Xdh (r:=r) k r
 refine En Tryz.func307 λ_ _ _=>?_
 refine Lo (λi:Nat=>[(0,.d (dt t)),(2,.b false),(7,.d (dt t)),(8,.d (.int .i64 ((toT k t).map dqs).length)),(9,.d (.int .i64 i))]) (λ_=>[]) (λi=>i<=k) (λi=>k-i) 0 [] rfl (by omega) (λi hi=>?_)
 refine By rfl (λh=>?_) λh=>?_<;>simp only[lt',Xaa] at h
 . obtain⟨w,x,o,O,Q,Y,T⟩:=Tw.take (t:=t) (i:=i) (by omega)
   have j:=Q r I
   obtain⟨B,Z,U⟩:=T M
   have q1:=Yab (r:=r) (p:=r) (show i<=k by omega)
   have v1:=Xmn (r:=r) (s:=r) (show i<=k by omega)
   refine Ix i rfl (mp O)<|Tk i ((toT i w).map dqs) rfl rfl (by rw[lt',Xaa];omega) (by rw[<-W3d,o]) ?_
   refine Ce rfl (Xca j.1 j.2 (by omega) (by omega) (by omega))<|No rfl (by simp)<|Tk i ((toT i w).map dqs) rfl rfl (by rw[lt',Xaa];omega) (by rw[<-W3d,o]) ?_
   refine Ce rfl (Xgs j.1 j.2 (Xah B) (by omega) (by omega) (by omega) (by omega))<|No rfl (λe=>e (by rcases Xc6 w x with h | h | h<;>omega))<|Tk i ((toT i w).map dqs) rfl rfl (by rw[lt',Xaa];omega) (by rw[<-W3d,o]) ?_
   refine Ca rfl (Xd9 j.1 j.2 B (by omega) (by omega) (by omega)) λv A=>?_
   obtain⟨d,_,rfl,hd⟩:=A
   refine No rfl U<|Ar (i+1:Nat) rfl ?_
   exact Bk (i+1) [] rfl (show i+1<=k by omega) (by show k-(i+1)<k-i;omega)
 . exact R0
theorem Xs3{l:List (List Rat)}(B:l.length<=1048576)(h:∀x∈l,0<x.length/\x.length<=1048576): CA0 309 [.d (dts l)] 1 (l.map dqs):=by
 have j:(l.map dqs).length=l.length:=by simp
 refine EnW Tryz.func309 λ_ _ _ _=>?_
 refine Mk l.length rfl (by omega) ?_ (by simp[j])
 refine Lo (λi:Nat=>[(0,.d (dts l)),(2,.nil),(3,.own 8 1 0 l.length),(9,.d (dts l)),(10,.d (.int .i64 (l.map dqs).length)),(11,.d (.int .i64 i))]) (λi=>[(8,.arr 1 (fl (l.map dqs) (.sl 4 []) i))]) (λi=>i<=l.length) (λi=>l.length-i) 0 [] rfl (by omega) (λi hi=>?_) (by exact⟨rfl,by rw[<-Xit j];rfl,rfl,rfl,rfl⟩)
 refine By rfl (λg=>?_) λg=>?_<;>simp only[lt'] at g
 . have o:l[i]?=some l[i]:=W0a (by omega)
   have A:=h _ (W6r (l:=l) (n:=i) (by omega))
   refine Ix i rfl (mp o)<|Ce rfl (Xkg A.1 A.2)<|Eo i rfl (by omega)<|Sto rfl (by rw[Xj7 (by omega)];omega) (Xns (u:=dqs l[i]) (by rw[W0w,o];rfl)) ?_
   refine Ar (i+1:Nat) rfl ?_
   exact Bk (i+1) [] rfl (show i+1<=l.length by omega) (by show l.length-(i+1)<l.length-i;omega)
 . exact Rw [(8,1000000)] [(1000000,.arr 1 (l.map dqs))] rfl (.one (.rf rfl) rfl rfl) ⟨_,rfl,by rw[j];rfl,rfl⟩ (by rw[Xnt (by omega)];rfl)
theorem Adjoin_ok{k r p:Nat}{t:Tw k}{a:Tow.El k}(o:TS r k t)(ha:Sz p (toL k a))(M:red k t)(T:k<8)(hq:qB r k p<=4398046511104)(O:qB r k r<=4398046511104)(Q:vB r k (p+gC r k)<=4398046511104)(hr:vB r k r<=4398046511104):
 C0 213 [.d (dt t),.d (de a)] (R8.AdjR k t a):=by
 have h0:=Xdh (r:=r) k r
 have I:=Xdh (r:=r) k (p+gC r k)
 have h2:=Xc4 (r:=r) (k:=k) (show p<=p+gC r k by omega)
 have j:=Xaa k t
 have U:(((toT k t).map dqs).length:Int)=k:=by simp[j]
 have A:∀x∈toT k t,0<x.length/\x.length<=1048576:=λx V=>by
  obtain⟨i,hi,e⟩:=List.mem_iff_getElem.1 V
  have:=(Xku o (i:=i) (l:=x) (by rw[W0a hi,e])).1
  rw[j] at hi
  have h3:=W0m (n:=2) (by decide) (show i<=8 by omega)
  have:=W0r i
  omega
 refine En Tryz.func213 λ_ _ _=>?_
 refine Ce rfl (Xca o ha (by omega) (by omega) (by omega))<|No rfl (by simp)<|Ce rfl (Xgt o M (by omega) O hr)<|No rfl (by simp)<|Ce rfl (Xgs o ha (Xah M) (by omega) (by omega) hr (by omega))<|By rfl (λh=>?_) λh=>?_
 . exact Rt rfl (.tup (.cons (.nil rfl) (.cons (.nil rfl) Xav))) (.inl ⟨h,rfl⟩)
 refine Ca rfl (Xo8 o ha M (by omega) hq Q hr) λv Q=>?_
 obtain⟨w,rfl,Y⟩:=Q
 refine By rfl (λI=>?_) λI=>?_
 . obtain⟨x,Z,x2,rfl⟩:=Y I
   exact Ce rfl (Xs3 (by omega) A).data<|Rt rfl (.tup (.cons (.rf rfl) (.cons (.rf rfl) Xav))) (.inr (.inl ⟨x,Z,x2,rfl⟩))
 refine No rfl (by simp only[lt',j];omega)<|Cr rfl (Xs3 (by omega) A) ?_
 refine Ce rfl (Xkg (by rw[Xab];exact W0r k) (by rw[Xab];have:=W0m (n:=2) (by decide) (show k<=8 by omega);omega))<|ApO ((toT k t++[toL k a]).map dqs) rfl rfl rfl (by simp) (by simp[j];omega) ?_
 refine Fz 11 9 ((toT k t++[toL k a]).map dqs) rfl (by simp) (by rw[W0y];exact W0b (by simp)) ?_
 have B:=Xzp (r:=max r p) (t:=tsn t a) (i:=k) ?_ (by omega) (by omega) (by omega)
 rw[<-U] at B
 exact Ce rfl B<|Rt rfl (.tup (.cons (.rf rfl) (.cons (.rf rfl) Xav))) (.inr (.inr ⟨by omega,I,T,rfl⟩))
 exact⟨o.mono (by omega),ha.mono (by omega)⟩
end Go.Proofs.YtcmjannkbdflmaaGreatDoor.P8
namespace Go.Proofs.YtcmjannkbdflmaaGreatDoor.P9
open Go Go.Vm Go.Num Go.Tow Go.Proofs.YtcmjannkbdflmaaGreatDoor
section
theorem Xkf{x:Rat}{p:Nat}(h:Qs p x)(hp:p<=4398046511104): C0 170 [.d (dq x)] (·=.d (dq x)):=by
 have i:=h.n.len2 hp
 have j:=h.d.len2 hp
 refine En Tryz.func170 λ_ _ _=>?_
 exact Dw rfl<|Ce rfl (Xbl (l:=dig x.num.natAbs) (by omega))<|Ce rfl (Xbl (l:=dig (x.den:Int).natAbs) (by omega))<|R0
theorem Xi4{l:List Rat}{p:Nat}(o:Ps p l)(hp:p<=4398046511104)(A:l.length<=1048576): C0 193 [.d (dqs l)] (·=.d (dqs l)):=by
 have h:(l.map dq).length=l.length:=by simp
 refine En Tryz.func193 λ_ _ _=>?_
 refine Mk l.length rfl (by omega) ?_ (by simp[h])
 refine Lo (λi:Nat=>[(0,.d (dqs l)),(2,.nil),(3,.own 8 4 0 l.length),(9,.d (dqs l)),(10,.d (.int .i64 (l.map dq).length)),(11,.d (.int .i64 i))]) (λi=>[(8,.arr 4 (fl (l.map dq) rz i))]) (λi=>i<=l.length) (λi=>l.length-i) 0 [] rfl (by omega) (λi hi=>?_) (by exact⟨rfl,by rw[<-Xit h];rfl,rfl,rfl,rfl⟩)
 refine By rfl (λg=>?_) λg=>?_<;>simp only[lq] at g
 . obtain⟨u,j⟩:=qat (l:=l) (k:=i) (by omega)
   refine Ix i rfl (mp j)<|Ce rfl (Xkf (o u (W0e j)) hp)<|Eo i rfl (by omega)<|Sto rfl (by rw[Xj7 (by omega)];omega) (Xns (u:=dq u) (by rw[W0w,j];rfl)) ?_
   refine Ar (i+1:Nat) rfl ?_
   exact Bk (i+1) [] rfl (show i+1<=l.length by omega) (by show l.length-(i+1)<l.length-i;omega)
 . refine R1 rfl (.own rfl (by rw[Xj7 (by omega)];simp) ?_)
   rw[Xnt (by omega),W0y]
   exact W0b (by simp)
theorem Xzz{x y:Rat}{p q:Nat}(i:Qs p x)(j:Qs q y)(hp:p+q<=8796093022208): C0 301 [.d (dq x),.d (dq y)] (·=.b (dc (x=y))):=by
 refine En Tryz.func301 λ_ _ _=>?_
 exact Ce rfl (Xib i j hp)<|R1 rfl (.bp (Xal.trans ⟨λh=>W1g λe=>R9.cmpQ_ne.2 e h,λe=>W1g λh=>R9.cmpQ_ne.1 h e⟩))
theorem Ybb{l m:List Rat}{p q:Nat}(I:Ps p l)(M:Ps q m)(hp:p+q<=8796093022208)(O:l.length<=1048576): C0 300 [.d (dqs l),.d (dqs m),.d (.raw (.func (.func 301) #[] #[]))] (·=.b (dc (l=m))):=by
 refine En Tryz.func300 λ_ _ _=>?_
 refine By rfl (λh=>?_) λh=>?_<;>simp only[lq] at h
 . exact R1 rfl (.bp ⟨nofun,λe=>absurd (by rw[e]) h⟩)
 have h:l.length=m.length:=by omega
 refine Lo (λk:Nat=>[(0,.d (dqs l)),(1,.d (dqs m)),(2,.d (.raw (.func (.func 301) #[] #[]))),(15,.d (dqs l)),(16,.d (.int .i64 (l.map dq).length)),(17,.d (.int .i64 k))]) (λ_=>[]) (λk=>k<=l.length/\l.take k=m.take k) (λk=>l.length-k) 0 [] rfl ⟨by omega,rfl⟩ λk ⟨Q,A⟩=>?_
 refine By rfl (λB=>?_) λB=>?_<;>simp only[lq] at B
 . obtain⟨x,o⟩:=qat (l:=l) (k:=k) (by omega)
   obtain⟨y,i⟩:=qat (l:=m) (k:=k) (by omega)
   refine Ix k rfl (mp o)<|Ix k rfl (mp i)<|Ce rfl (Xzz (I x (W0e o)) (M y (W0e i)) hp)<|By rfl (λj=>?_) λj=>?_
   . have j:¬x=y:=by simpa [Xa9,Xal] using j
     exact R1 rfl (.bp ⟨nofun,λe=>by subst e;rw[o] at i;injection i with i;exact absurd i j⟩)
   . have e:x=y:=by simpa [Xa9,Xal] using j
     refine Ar (k+1:Nat) rfl ?_
     exact Bk (k+1) [] rfl ⟨by omega,by rw[W1c,W1c,o,i,A,e]⟩ (by show l.length-(k+1)<l.length-k;omega)
 . rw[W0b (by omega),W0b (by omega)] at A
   exact R1 rfl (.bp ⟨λ_=>A,λ_=>rfl⟩)
theorem sameElement_ok{l m:List Rat}{p q:Nat}(h:Ps p l)(i:Ps q m)(hp:p+q<=8796093022208)(j:l.length<=1048576): C0 207 [.d (dqs l),.d (dqs m)] (·=.b (dc (l=m))):=by
 refine En Tryz.func207 λ_ _ _=>?_
 exact Ce rfl (Ybb h i hp j)<|R0
theorem Yba{T U:List (List Rat)}{p q:Nat}(I:Pt p T)(M:Pt q U)(hp:p+q<=8796093022208)(V:T.length<=16): C0 299 [.d (dts T),.d (dts U),.d (.raw (.func (.func 207) #[] #[]))] (·=.b (dc (T=U))):=by
 refine En Tryz.func299 λ_ _ _=>?_
 refine By rfl (λh=>?_) λh=>?_<;>simp only[lt'] at h
 . exact R1 rfl (.bp ⟨nofun,λe=>absurd (by rw[e]) h⟩)
 have h:T.length=U.length:=by omega
 refine Lo (λk:Nat=>[(0,.d (dts T)),(1,.d (dts U)),(2,.d (.raw (.func (.func 207) #[] #[]))),(15,.d (dts T)),(16,.d (.int .i64 (T.map dqs).length)),(17,.d (.int .i64 k))]) (λ_=>[]) (λk=>k<=T.length/\T.take k=U.take k) (λk=>T.length-k) 0 [] rfl ⟨by omega,rfl⟩ λk ⟨Y,A⟩=>?_
 refine By rfl (λB=>?_) λB=>?_<;>simp only[lt'] at B
 . obtain⟨x,o⟩:∃x,T[k]?=some x:=⟨_,W0a (by omega)⟩
   obtain⟨y,i⟩:∃y,U[k]?=some y:=⟨_,W0a (by omega)⟩
   obtain⟨Z,O⟩:=I k x o
   obtain⟨y1,Q⟩:=M k y i
   have:=p16 (show k<=16 by omega)
   refine Ix k rfl (mp o)<|Ix k rfl (mp i)<|Ce rfl (sameElement_ok O Q hp (by omega))<|By rfl (λj=>?_) λj=>?_
   . have j:¬x=y:=by simpa [Xa9,Xal] using j
     exact R1 rfl (.bp ⟨nofun,λe=>by subst e;rw[o] at i;injection i with i;exact absurd i j⟩)
   . have e:x=y:=by simpa [Xa9,Xal] using j
     refine Ar (k+1:Nat) rfl ?_
     exact Bk (k+1) [] rfl ⟨by omega,by rw[W1c,W1c,o,i,A,e]⟩ (by show T.length-(k+1)<T.length-k;omega)
 . rw[W0b (by omega),W0b (by omega)] at A
   exact R1 rfl (.bp ⟨λ_=>A,λ_=>rfl⟩)
theorem begins_ok{T U:List (List Rat)}{p q:Nat}(j:Pt p T)(o:Pt q U)(hp:p+q<=8796093022208)(A:T.length<=16): C0 206 [.d (dts T),.d (dts U)] (·=.b (dc (T.take U.length=U))):=by
 refine En Tryz.func206 λ_ _ _=>?_
 refine By rfl (λh=>?_) λh=>?_<;>simp only[lt'] at h
 . have hq:Pt p (T.take U.length):=λi r hi=>by
    rw[W1l] at hi
    split at hi
    . exact j i r hi
    . cases hi
   refine Tk U.length ((T.take U.length).map dqs) rfl rfl (by simp only[lt'];omega) (by rw[W3d]) ?_ (by simp only[lt'])
   exact Ce rfl (Yba hq o hp (by rw[W0k];omega))<|R0
 . exact R1 rfl (.bp ⟨nofun,λe=>absurd (congrArg List.length e) (by rw[W0k];omega)⟩)
theorem Yj2{T:List (List Rat)}{l:List Rat}(h0:0<l.length)(j:T.length<=16)(o:l.length<=2^T.length): C0 212 [.d (dts T),.d (dqs l)] (·=.d (dqs (l++List.replicate (2^T.length-l.length) 0))):=by
 have hp:=p16 j
 obtain⟨n,i⟩:∃n,n=2^T.length:=⟨_,rfl⟩
 rw[<-i] at hp o |-
 refine En Tryz.func212 λ_ _ _=>?_
 refine Cr rfl (Xi8 h0 (by omega)) ?_
 refine Lo (λk:Nat=>[(0,.d (dts T)),(5,.own 7 4 0 ((l++List.replicate k 0).map dq).length)]) (λk=>[(7,.arr 4 ((l++List.replicate k 0).map dq))]) (λk=>l.length+k<=n) (λk=>n-k) 0 [] rfl (by omega) (λk A=>?_) (by exact⟨by simp;rfl,by simp;rfl,rfl,rfl,rfl⟩)
 refine Ar n rfl ?_ (by rw[i];simp only[lt'];exact Xbo (by omega))
 refine By rfl (λh=>?_) λh=>?_<;>simp only[lq,W0d,W1w] at h
 . refine Ce rfl (Xa4 (z:=0) (by decide))<|ApO ((l++List.replicate (k+1) 0).map dq) rfl rfl rfl (by rw[W6t];simp) (by simp;omega) ?_
   exact Bk (k+1) [(7,90),(17,7)] rfl (show l.length+(k+1)<=n by omega) (by show n-(k+1)<n-k;omega)
 . refine R1 rfl (.own rfl (by omega) ?_)
   rw[W0y,show n-l.length=k by omega]
   exact W0b (by simp)
theorem Xjy{k m:Nat}{s:Tow.El k}{b:Tow.El m}{T:Tw m}(h:Lf s b)(i:k<=m)(j:m<=16): C0 212 [.d (dt T),.d (de s)] (·=.d (de b)):=by
 have:=Yj2 (T:=toT m T) (l:=toL k s) (by rw[Xab];exact W0r k) (by rw[Xaa];omega) (by rw[Xab,Xaa];exact W0m (by decide) i)
 rw[Xaa,Xab,<-h] at this
 exact this
abbrev dE(T h:List (List Rat)): D:=.st (.pr (dts T) (dts h))
theorem Xf0{k R z:Nat}{T:Tw k}{B:List (List Rat)}{σ:Nat->Tow.El k}(A:TS R k T)(I:k<=16)(O:R<=4398046511104): ∀ {j p:Nat} {a:Tow.El j},R9.Rts k z j B σ->Sz p (toL j a)->j<=16->imB (cB R k) z j p<=4398046511104 ->
 C0 305 [.d (dE (toT k T) B),.d (de a)] (·=.d (de (ev T σ j a))):=by
 intro j
 induction j with
 | zero =>
  intro p a _ ha hj hb
  have hb:p+1<=4398046511104:=hb
  have Q:∀y:Rat,Qs p y->C0 305 [.d (dE (toT k T) B),.d (dqs [y])] (·=.d (de (rat k y))):=λy hy=>by
   refine En Tryz.func305 λ_ _ _=>?_
   exact Yes rfl rfl<|Dw rfl<|Ix 0 rfl (u:=dq y) rfl<|Ce rfl (Xcn A I O hy (by omega))<|R0
  exact Q a (ha.qs (W0f.2 rfl))
 | succ j U =>
  intro p a V ha hj hb
  have hb':2*imB (cB R k) z j p+z+cB R k+1<=4398046511104:=hb
  have o:R9.Rts k z j B σ:=λi hi=>V i (by omega)
  have hpj:=p16 (show j<=16 by omega)
  have hp0:=W0r j
  have hpp:=Ydz (c:=cB R k) (z:=z) (p:=p) (j:=j)
  have hs:∀i,i<j->Sz z (toL k (σ i)):=λi hi=>(o i hi).elim λ_ h=>h.elim λ_ h=>h.2.2.2
  have h1:=Xlz A (a:=a.1) hs (Sz.left ha)
  have Y:=Xlz A (a:=a.2) hs (Sz.right ha)
  obtain⟨m,s,m1,m2,m3,Z⟩:=V j (by omega)
  refine En Tryz.func305 λ_ _ _=>?_
  refine No rfl (by show ¬((((toL j a.1++toL j a.2).map dq).length:Nat):Int)=1;rw[hvL];omega)<|Ar (2^j:Nat) rfl ?_ (hvq a (by omega))
  refine Lo (λi:Nat=>[(1,.d (de a)),(2,.ptr 2 0),(4,.nil),(5,.d (.int .i64 (2^j:Nat))),(6,.d (.int .i64 i))]) (λ_=>[(2,.var (.d (dE (toT k T) B)))]) (λi=>i<=j) (λi=>j-i) 0 [] rfl (by omega) λi hi=>?_
  refine Ar (i+1:Nat) rfl ?_
  refine Ar (2^(i+1):Nat) rfl ?_ (Xbo (by omega))
  refine By rfl (λh=>?_) λh=>?_
  . have h:((2^(i+1):Nat):Int)<(((toL j a.1++toL j a.2).map dq).length:Nat):=h
    rw[hvL,<-Nat.pow_succ'] at h
    have h:i+1<j+1:=(W2w (by decide:1<2)).1 (by omega)
    refine Ar (i+1:Nat) rfl ?_
    exact Bk (i+1) [] rfl (show i+1<=j by omega) (by show j-(i+1)<j-i;omega)
  . have h:¬((2^(i+1):Nat):Int)<(((toL j a.1++toL j a.2).map dq).length:Nat):=h
    rw[hvL,<-Nat.pow_succ'] at h
    have h:¬i+1<j+1:=λe=>h (by have:=(W2w (by decide:1<2)).2 e;omega)
    obtain rfl:i=j:=by omega
    refine Dw rfl<|Tk (2^i) ((toL i a.1).map dq) rfl rfl (Xcc a) (hvT a) ?_
    refine Ce rfl (U o (Sz.left ha) (by omega) (by omega))<|Dp (2^i) ((toL i a.2).map dq) rfl rfl (Xcc a) (hvD a) ?_
    refine Ce rfl (Xep (l:=toL i a.2) (Sz.right ha).ps (by omega) (by rw[Xab];omega))<|By rfl (λM=>?_) λM=>?_
    . have M:a.2=zero i:=(Xar i a.2).2 M
      have e:ev T σ i a.1=ev T σ (i+1) a:=by
       have L:=Xba k T
       show _=Tow.add k (ev T σ i a.1) (mul k T (ev T σ i a.2) (σ i))
       rw[M,Xiu,L.mc,L.mz,L.az]
      exact R1 rfl (.eq (congrArg de e))
    . refine Dw rfl<|Dp (2^i) ((toL i a.2).map dq) rfl rfl (Xcc a) (hvD a) ?_
      exact Ce rfl (U o (Sz.right ha) (by omega) (by omega))<|Ix i rfl (mp m2)<|Ce rfl (Xjy (T:=T) m3 m1 I)<|Ce rfl (Xds A Y Z I (by omega) O)<|Ce rfl (Xhx A h1 (Y.mul A Z) I (by omega) O)<|R0
section
variable{K:Nat}{G:Tw K}{S:List (Tow.El K)}{k l:Nat}{t:Tw k}{u:Tw l}{ρ ρu:Nat->Tow.El K}
theorem Xdp(W:Wy G S wR)(ht:TOk G S k t ρ)(U:TOk G S l u ρu): C0 304 [.d (dt t),.d (dt u)] (R9.ExQ G S l k t ρ ρu λT A=>.tup (.pr (.d (.st (.pr T A))) (.d (.int .i64 0)))):=by
 have hl3:l<=3:=W.le U
 refine En Tryz.func304 λ_ _ _=>?_
 refine Nv 6 7 1 rfl ?_
 refine Lo (λ(x:Nat×(Σ m,Tw m)×List (List Rat))=>[(4,.ptr 4 0),(5,.d (.int .i64 0)),(6,.ptr 6 0),(14,.d (dt u)),(15,.d (.int .i64 ((toT l u).map dqs).length)),(16,.d (.int .i64 x.1))]) (λx=>[(4,.var (.st (.pr .nil .nil))),(6,.var (.st (.pr (.d (dt x.2.1.2)) (.gr 7 1 (x.2.2.map dqs))))),(7,.tok (x.2.2.map dqs).length 1)])
  (R9.ExI G S l k t ρ ρu) (λx=>l-x.1) (0,⟨k,t⟩,[]) [] rfl ⟨W0s _,rfl,ρ,ht,Beg.rf,λ_ _=>rfl,λi hi=>by omega,λ_=>rfl⟩ (λ(i,⟨m,T⟩,A) hI=>?_)
 have O:=hI
 obtain⟨hi,Y,ρ',o,V,ha,j,Z⟩:=hI
 simp only at hi Y o V ha j Z
 have Q:m<=3:=W.le o
 have hz:=W.t o
 refine By rfl (λh=>?_) λh=>?_<;>simp only[lt',Xaa] at h
 . have I:i<l:=by omega
   obtain⟨x,σ,x1,x2,s1,s2,M,x4,hsz⟩:=R9.ExI.rad W U I o j
   obtain⟨q1,q2,q3,q4⟩:=R9.exB Q
   have hE:=Yen Q (show i<=2 by omega)
   have hR:=Xho
   have hE':=Yin
   have B:(A.map dqs).length<=3:=by rw[W0i];omega
   refine Ix i rfl (mp x1)<|Dw rfl<|Ce rfl (Xf0 (k:=m) (T:=T) hz (by omega) (by omega) s1 x2 (by omega) (by omega))<|Ca rfl (P8.Adjoin_ok (k:=m) (t:=T) hz hsz o.r (by omega) q1 q2 q3 q4) λv hv=>?_
   rcases hv with ⟨h1,rfl⟩ | ⟨y,h1,h2,rfl⟩ | ⟨h1,h2,h3,rfl⟩
   . have:=Xf3 (Xah W.g) o.h (a:=ev T σ i x)
     rw[M,(Xau (Xah W.g)).sm,x4] at this
     omega
   . refine No rfl (by simp)<|ApG ((A++[toL m y]).map dqs) rfl (by simp) (by simp at B |-;omega) ?_
     refine Ar (i+1:Nat) rfl ?_
     exact Bk (i+1,⟨m,T⟩,A++[toL m y]) [(7,90),(39,7)] rfl (O.sq W U I o V ha j Z s2 M x4 h1 h2) (by show l-(i+1)<l-i;omega)
   . refine No rfl (by simp)<|ApG ((A++[toL (m+1) (Xf9 (m+1) m)]).map dqs) rfl (by simp) (by simp at B |-;omega) ?_
     refine Ar (i+1:Nat) rfl ?_
     exact Bk (i+1,⟨m+1,tsn T (ev T σ i x)⟩,A++[toL (m+1) (Xf9 (m+1) m)]) [(7,90),(39,7)] rfl (O.new W U I o V ha j M x4 h2) (by show l-(i+1)<l-i;omega)
 . obtain rfl:i=l:=by omega
   exact Rt rfl (.tup (.cons (.sd (.pd (.rf rfl) (.gr rfl))) Xav)) ⟨m,T,A,ρ',rfl,o,V,ha,j,Z⟩
end
end
section
theorem detach_ok{x:Nm}{r p:Nat}(hr:TS r x.k x.t)(hp:Sz p (toL x.k x.a))(o:x.k<=16)(A:r<=4398046511104)(B:p<=4398046511104): C0 109 [.d (dN x)] (·=.d (dN x)):=by
 have I:=p16 o
 refine En Tryz.func109 λ_ _ _=>?_
 refine Ce rfl (Xi4 hp.ps B (by rw[Xab];omega))<|Nv 3 7 1 rfl ?_
 refine Lo (λ(i:Nat)=>[(2,.ptr 2 0),(3,.ptr 3 0),(11,.d (dt x.t)),(12,.d (.int .i64 ((toT x.k x.t).map dqs).length)),(13,.d (.int .i64 i))]) (λi=>[(2,.var (.st (.pr .nil .nil))),(3,.var (.st (.pr (.gr 7 1 (((toT x.k x.t).take i).map dqs)) (.d (de x.a))))),(7,.tok (((toT x.k x.t).take i).map dqs).length 1)])
  (λi=>i<=x.k) (λi=>x.k-i) 0 [] rfl (W0s _) (λi hi=>?_)
 refine By rfl (λh=>?_) λh=>?_<;>simp only[lt',Xaa] at h
 . obtain⟨w,y,Q,j,M,_⟩:=Tw.take (t:=x.t) (i:=i) (by omega)
   have O:=(M r hr).2
   refine Ix i rfl (mp j)<|Dw rfl<|Ce rfl (Xi4 O.ps A (by rw[Xab];have:=p16 (show i<=16 by omega);omega))<|ApG (((toT x.k x.t).take (i+1)).map dqs) rfl (by rw[W1c,j];simp) (by simp[Xaa];omega) ?_
   refine Ar (i+1:Nat) rfl ?_
   exact Bk (i+1) [(7,90),(22,7)] rfl (show i+1<=x.k by omega) (by show x.k-(i+1)<x.k-i;omega)
 . have e:(toT x.k x.t).take i=toT x.k x.t:=W0b (by rw[Xaa];omega)
   refine R1 rfl (.sd (.pd (.gr ?_) (.rf rfl)))
   rw[e]
theorem Xrt: ∀ {k:Nat},rat k 1≠zero k
 | 0,h=>by have h:(1:Rat)=0:=h;exact absurd h (by decide)
 | k+1,h=>Xrt (k:=k) (congrArg Prod.fst h)
theorem inv_zero{k:Nat}{t:Tw k}{a:Tow.El k}(h:a=zero k): Tow.inv k t a=none:=by
 cases e:Tow.inv k t a with
 | none=>rfl
 | some i =>
  have:=Xdb e
  rw[h,(Xba k t).mz] at this
  exact absurd this.symm Xrt
section
variable{K:Nat}{G:Tw K}{S:List (Tow.El K)}{r p:Nat}{x y:Nm}{vx vy:Tow.El K}
theorem Xx9(W:Wy G S wR)(V:NOk G S r p x vx)(Y:NOk G S r p y vy): C0 303 [.d (dNs [x,y])] λv=>∃m T,v=.tup (.pr (.d (dt T)) (.d (.int .i64 0)))/\R9.CmP G S x y m T:=by
 have hG:=W.g
 have hR:=Xho
 obtain⟨Z,j,hx2⟩:=V.ex
 obtain⟨ρy,o,hy2⟩:=Y.ex
 have hx3:=W.le j
 have hy3:=W.le o
 have A:=W.t j
 have B:=W.t o
 refine En Tryz.func303 λ_ _ _=>?_
 refine Nd 4 1 rfl ?_
 refine Lo (λ(s:Nat×(Σ m,Tw m))=>[(2,.nil),(3,.d (.int .i64 0)),(4,.d (dt s.2.2)),(9,.d (dNs [x,y])),(10,.d (.int .i64 2)),(11,.d (.int .i64 s.1))]) (λ_=>[]) (λs=>(s.1=0/\s.2=⟨0,()⟩)\/(s.1=1/\s.2=⟨x.k,x.t⟩)\/(s.1=2/\R9.CmP G S x y s.2.1 s.2.2)) (λs=>2-s.1) (0,⟨0,()⟩) [] rfl (.inl ⟨rfl,rfl⟩) (λ(i,⟨m,T⟩) M=>?_)
 simp only at M
 rcases M with ⟨rfl,e⟩ | ⟨rfl,e⟩ | ⟨rfl,hP⟩
 . cases e
   refine Yes rfl (show ((0:Nat):Int)<2 by decide)<|Ix 0 rfl (u:=dN x) rfl<|Ce rfl (begins_ok (T:=[]) (U:=toT x.k x.t) (p:=1) (λi r h=>by simp at h) (TS.pt A) (by omega) (by decide))<|By rfl (λh=>?_) λh=>?_
   . obtain⟨O,tx,ax⟩:=x
     have h:[]=toT O tx:=by simpa using h
     obtain rfl:O=0:=by have:=congrArg List.length h;rw[Xaa] at this;exact this.symm
     refine Ar (0+1:Nat) rfl ?_
     exact Bk (1,⟨0,tx⟩) [] rfl (.inr (.inl ⟨rfl,rfl⟩)) (show 1<2 by decide)
   . refine Ce rfl (begins_ok (U:=[]) (q:=1) (TS.pt A) (λi r h=>by simp at h) (by omega) (by rw[Xaa];omega))<|Yes rfl (by simp)<|Ar (0+1:Nat) rfl ?_
     exact Bk (1,⟨x.k,x.t⟩) [] rfl (.inr (.inl ⟨rfl,rfl⟩)) (show 1<2 by decide)
 . cases e
   have I:∀h:(toT x.k x.t).take (toT y.k y.t).length=toT y.k y.t,R9.CmP G S x y x.k x.t:=λh=>.mk hG j o j R9.rts (R9.beg_rt hG (show Beg y.k y.t x.k x.t from h) o j)
   refine Yes rfl (show ((1:Nat):Int)<2 by decide)<|Ix 1 rfl (u:=dN y) rfl<|Ce rfl (begins_ok (T:=toT x.k x.t) (U:=toT y.k y.t) (TS.pt A) (TS.pt B) (by omega) (by rw[Xaa];omega))<|By rfl (λh=>?_) λh=>?_
   . refine Ar (1+1:Nat) rfl ?_
     exact Bk (2,⟨x.k,x.t⟩) [] rfl (.inr (.inr ⟨rfl,I h⟩)) (show 0<1 by decide)
   refine Ce rfl (begins_ok (T:=toT y.k y.t) (U:=toT x.k x.t) (TS.pt B) (TS.pt A) (by omega) (by rw[Xaa];omega))<|By rfl (λQ=>?_) λQ=>?_
   . have hb:Beg x.k x.t y.k y.t:=Q
     refine Ar (1+1:Nat) rfl ?_
     exact Bk (2,⟨y.k,y.t⟩) [] rfl (.inr (.inr ⟨rfl,.mk hG j o o (R9.beg_rt hG hb j o) R9.rts⟩)) (show 0<1 by decide)
   . refine Ca rfl (Xdp W j o) λv hv=>?_
     obtain⟨m,T,rs,ρ',rfl,g1,g2,g3,g5,g6⟩:=hv
     refine No rfl (by simp)<|Ar (1+1:Nat) rfl ?_
     exact Bk (2,⟨m,T⟩) [] rfl (.inr (.inr ⟨rfl,.ext hG j o g1 g2 g5⟩)) (show 0<1 by decide)
 . exact No rfl (show ¬((2:Nat):Int)<2 by decide)<|Rt rfl (.tup (.cons (.rf rfl) Xav)) ⟨m,T,rfl,hP⟩
theorem Join_ok(W:Wy G S wR)(hx:NOk G S r p x vx)(hy:NOk G S r p y vy)(hp:p<=4000000000): C0 208 [.d (dNs [x,y])] λv=>∃m T a b,v=.tup (.pr (.d (dNs [⟨m,T,a⟩,⟨m,T,b⟩])) (.d (.int .i64 0)))/\R9.JnR G S p vx vy m T a b:=by
 have hc:=Xx9 W hx hy
 have hG:=W.g
 have hR:=Xho
 have hJ:jW p=8*p+73803682:=rfl
 refine En Tryz.func208 λ_ _ _=>?_
 refine Ca rfl hc λv hv=>?_
 obtain⟨m,T,rfl,hP⟩:=hv
 obtain⟨ρ,B,O⟩:=hP
 have o:=W.t B
 have hm3:=W.le B
 refine No rfl (by decide)<|Nl 6 6 2 rfl ?_
 refine Lo (λ(s:Nat×List (Tow.El m))=>[(2,.nil),(3,.d (.int .i64 0)),(4,.d (dt T)),(6,.gr 6 2 (s.2.map λa=>dN ⟨m,T,a⟩)),(20,.d (dNs [x,y])),(21,.d (.int .i64 2)),(22,.d (.int .i64 s.1))]) (λs=>[(6,.tok (s.2.map λa=>dN ⟨m,T,a⟩).length 2)])
  (R9.JnI G p m ρ vx vy) (λs=>2-s.1) (0,[]) [] rfl ⟨W0s _,rfl,λi hi=>absurd hi (W8a _)⟩ (λ(j,bs) hI=>?_)
 have I:=hI
 obtain⟨hj,hjl,has⟩:=hI
 simp only at hj hjl has
 refine By rfl (λh=>?_) λh=>?_
 . have h:(j:Int)<2:=h
   obtain⟨z,v,Q,z1,z2,M,z4,V⟩:=R9.both hx hy j (by omega)
   have z5:=W.t M
   have hzu:([x,y].map dN)[j]?=some (dN z):=by rw[W0w,z1];rfl
   have Y:=O z (W0e z1) Q M
   have hz3:=W.le M
   have Z:p<=jW p:=R9.jW_ge
   refine Ix j rfl hzu<|Ce rfl (begins_ok (T:=toT m T) (U:=toT z.k z.t) (TS.pt o) (TS.pt z5) (by omega) (by rw[Xaa];omega))<|By rfl (λh1=>?_) λh1=>?_
   . have hb:Beg z.k z.t m T:=h1
     obtain⟨b,A⟩:=Lf.ex hb.le z.a
     have hv1:ev G ρ m b=v:=by rw[A.ev hb.le,Xbv (R9.beg_ag hG hb M B),z4]
     refine Ce rfl (Xjy (T:=T) A hb.le (by omega))<|Ce rfl (detach_ok (x:=⟨_,T,b⟩) o ((A.sz V).mono Z) (show _<=16 by show m<=16;omega) (by omega) (by omega))<|ApG ((bs++[b]).map λa=>dN ⟨m,T,a⟩) rfl (by simp) (by simp;omega) ?_
     refine Ar (j+1:Nat) rfl ?_
     exact Bk (j+1,bs++[b]) [(6,90),(56,6)] rfl (I.step (by omega) z2 hv1 ((A.sz V).mono Z)) (by show 2-(j+1)<2-j;omega)
   . refine Ca rfl (Xdp W B M) λv' hv=>?_
     obtain⟨m',T',rs,ρ',rfl,g1,g2,g3,g5,g6⟩:=hv
     obtain rfl:m'=m:=by have:=congrArg List.length (g6 Y);rwa[Xaa,Xaa] at this
     obtain rfl:T=T':=(Xkt (g6 Y)).symm
     have g5:RtV G m' (zM wR 3) z.k rs ρ Q:=g5.mono (W0c _) (W0c _) (λi hi=>(g3 i hi).symm)
     obtain⟨σ,s1,s2⟩:=g5.sig
     have hbd:=Ygh (p:=p) hm3 hz3
     refine No rfl (by simp)<|Ce rfl (Xf0 o (by omega) (by omega) s1 V (by omega) (by omega))<|Ce rfl (detach_ok (x:=⟨_,T,ev T σ z.k z.a⟩) o (R9.img W B M s1 V) (show _<=16 by show m'<=16;omega) (by omega) (by omega))<|ApG ((bs++[ev T σ z.k z.a]).map λa=>dN ⟨m',T,a⟩) rfl (by simp) (by simp;omega) ?_
     refine Ar (j+1:Nat) rfl ?_
     exact Bk (j+1,bs++[ev T σ z.k z.a]) [(6,90),(56,6)] rfl (I.step (by omega) z2 (by rw[Xps B.h s2,z4]) (R9.img W B M s1 V)) (by show 2-(j+1)<2-j;omega)
 . have h:¬(j:Int)<2:=h
   obtain rfl:j=2:=by omega
   obtain⟨a,b,rfl,hJ⟩:=I.done B
   exact Rt rfl (.tup (.cons (.gr rfl) Xav)) ⟨m,T,a,b,rfl,hJ⟩
def OpF(f:FuncId)(p:Nat)(g:(m:Nat)->Tw m->Tow.El m->Tow.El m->Tow.El m): Prop:=∀(m:Nat) (T:Tw m) (a b:Tow.El m),m<=3->TS wR m T->Sz (jW p) (toL m a)->Sz (jW p) (toL m b)->C0 f [.d (dt T),.d (de a),.d (de b)] (·=.d (de (g m T a b)))
theorem Xgp{f:FuncId}{g:(m:Nat)->Tw m->Tow.El m->Tow.El m->Tow.El m}(hf:OpF f p g)(W:Wy G S wR)(j:NOk G S r p x vx)(o:NOk G S r p y vy)(hp:p<=4000000000): C0 168 [.d (dN x),.d (dN y),.d (fnD f)] λv=>∃m T a b,v=.tup (.pr (.d (dN ⟨m,T,g m T a b⟩)) (.d (.int .i64 0)))/\R9.JnR G S p vx vy m T a b:=by
 refine En Tryz.func168 λ_ _ _=>?_
 refine Ca rfl (Join_ok W j o hp) λv A=>?_
 obtain⟨m,T,a,b,rfl,h⟩:=A
 obtain⟨ρ,i,Q,U,B,I⟩:=id h
 have M:=W.t i
 have O:=W.le i
 exact No rfl (by simp)<|Ix 0 rfl (u:=dN ⟨m,T,a⟩) rfl<|Dw rfl<|Ix 0 rfl (u:=dN ⟨m,T,a⟩) rfl<|Ix 1 rfl (u:=dN ⟨m,T,b⟩) rfl<|Ce rfl (hf m T a b O M B I)<|Rt rfl (.tup (.cons (.rf rfl) Xav)) ⟨m,T,a,b,rfl,h⟩
theorem Add_ok(W:Wy G S wR)(A:NOk G S r p x vx)(B:NOk G S r p y vy)(hp:p<=4000000000): C0 129 [.d (dN x),.d (dN y)] (R9.OpR G S (oW p) (Tow.add K vx vy)):=by
 have Q:oW p=16*p+147714794:=rfl
 have U:jW p=8*p+73803682:=rfl
 have V:=wC
 have Y:=Xho
 refine En Tryz.func129 λ_ _ _=>?_
 refine Ca rfl (Xgp (g:=λm T a b=>Tow.add m a b) (λm T a b Z h i j=>Xhx h i j (by omega) (by omega) (by omega)) W A B hp) λv I=>?_
 obtain⟨m,T,a,b,rfl,ρ,o,M,O,i,j⟩:=I
 have h:=W.t o
 exact Rt rfl (.tup (.cons (.rf rfl) Xav)) ⟨⟨m,T,Tow.add m a b⟩,rfl,⟨ρ,o,by rw[<-M,<-O];exact Xej⟩,h,by rw[Xas];exact(i.add j).mono (by omega)⟩
theorem Mul_ok(W:Wy G S wR)(I:NOk G S r p x vx)(M:NOk G S r p y vy)(hp:p<=4000000000): C0 89 [.d (dN x),.d (dN y)] (R9.OpR G S (oW p) (Tow.mul K G vx vy)):=by
 have V:oW p=16*p+147714794:=rfl
 have Y:jW p=8*p+73803682:=rfl
 have Z:=wC
 have hR:=Xho
 refine En Tryz.func89 λ_ _ _=>?_
 refine Ca rfl (Xgp (g:=λm T a b=>Tow.mul m T a b) (λm T a b o i A B=>Xds i A B (by omega) (by have:=Xjb (r:=wR) o;omega) (by omega)) W I M hp) λv O=>?_
 obtain⟨m,T,a,b,rfl,ρ,j,Q,U,A,B⟩:=O
 have i:=W.t j
 have o:=W.le j
 have hc:=Xjb (r:=wR) o
 exact Rt rfl (.tup (.cons (.rf rfl) Xav)) ⟨⟨m,T,Tow.mul m T a b⟩,rfl,⟨ρ,j,by rw[<-Q,<-U];exact Xcj j.h⟩,i,(A.mul i B).mono (by omega)⟩
theorem Sub_ok(W:Wy G S wR)(A:NOk G S r p x vx)(B:NOk G S r p y vy)(hp:p<=4000000000): C0 128 [.d (dN x),.d (dN y)] (R9.OpR G S (oW p) (Tow.add K vx (Tow.neg K vy))):=by
 have Q:oW p=16*p+147714794:=rfl
 have U:jW p=8*p+73803682:=rfl
 have V:=wC
 have Y:=Xho
 refine En Tryz.func128 λ_ _ _=>?_
 refine Ca rfl (Xgp (g:=λm T a b=>Tow.add m a (Tow.neg m b)) (λm T a b Z h i j=>Xgg h i j (by omega) (by omega) (by omega)) W A B hp) λv I=>?_
 obtain⟨m,T,a,b,rfl,ρ,o,M,O,i,j⟩:=I
 have h:=W.t o
 exact Rt rfl (.tup (.cons (.rf rfl) Xav)) ⟨⟨m,T,Tow.add m a (Tow.neg m b)⟩,rfl,⟨ρ,o,by rw[<-M,<-O,<-Xf4];exact Xej⟩,h,by rw[Xas];exact(i.add (Xg0 j)).mono (by omega)⟩
theorem Neg_ok(h:NOk G S r p x vx)(i:x.k<=16)(hr:r<=4398046511104)(hp:p<=4398046511104): C0 46 [.d (dN x)] (·=.d (dN ⟨x.k,x.t,Tow.neg x.k x.a⟩)):=by
 refine En Tryz.func46 λ_ _ _=>?_
 exact Ce rfl (detach_ok h.r h.p i hr hp)<|Ce rfl (Xuu h.r h.p i hp hr)<|R0
theorem Sign_ok(hG:red K G)(h:NOk G S r p x vx)(i:x.k<=16)(j:vB r x.k p<=4398046511104)(hr:vB r x.k r<=4398046511104): C0 177 [.d (dN x)] (·=.d (.int .i64 (sgn K G vx))):=by
 obtain⟨ρ,o,A⟩:=h.ex
 have:=Xdh (r:=r) x.k r
 refine En Tryz.func177 λ_ _ _=>?_
 refine Ce rfl (Xgs h.r h.p (Xah o.r) i j hr (by omega)) ?_
 rw[h.sgn (Xah hG)]
 exact R0
theorem FromRat_ok{q:Rat}{p:Nat}(hq:Qs p q)(hp:p<=4398046511104): C0 90 [.d (dq q)] (·=.d (dN ⟨0,(),q⟩)):=by
 refine En Tryz.func90 λ_ _ _=>?_
 exact Ce rfl (Xkf hq hp)<|R1 rfl (.sd (.pd (.nil rfl) (.lit rfl)))
theorem FromInt_ok{z:Int}(h:-9223372036854775808<=z/\z<9223372036854775808): C0 107 [.d (.int .i64 z)] (·=.d (dN ⟨0,(),(z:Rat)⟩)):=by
 refine En Tryz.func107 λ_ _ _=>?_
 exact Ce rfl (Xa4 h)<|Ce rfl (FromRat_ok (q:=(z:Rat)) (p:=64) (Qs.int (by unfold Zs;omega) (by omega)) (by decide))<|R0
end
end
end Go.Proofs.YtcmjannkbdflmaaGreatDoor.P9
namespace Go.Tow
open Go Go.Num Go.Proofs.YtcmjannkbdflmaaGreatDoor
variable{K:Nat}{G:Tw K}{S:List (El K)}{N:List Nm}{n m:Nat}{x y z:Nm}{v w:El K}{r p:Nat}
structure Wn (G:Tw K) (S:List (El K)) (N:List Nm):Prop where
 w:Wy G S wR
 h:∀z∈N,∃ρz,TOk G S z.k z.t ρz
def gB(n:Nat): Nat:=n*20000000-107430
structure Gd (G:Tw K) (S:List (El K)) (N:List Nm) (n:Nat) (x:Nm) (v:El K):Prop where
 o:NOk G S wR (gB n) x v
 g:Gs G S N (gB n) v
 n:1<=n
theorem Yk8(h:n<=m): gB n<=gB m:=by unfold gB;omega
theorem Gd.mono(h:Gd G S N n x v)(i:n<=m): Gd G S N m x v:=⟨h.o.mono (W0c _) (Yk8 i),h.g.mono (Yk8 i),W0l h.n i⟩
theorem Gd.neg(h:Gd G S N n x v): Gd G S N n ⟨x.k,x.t,Tow.neg x.k x.a⟩ (Tow.neg K v):=⟨h.o.neg,h.g.neg,h.n⟩
theorem Gd.add(W:Wn G S N)(i:Gd G S N n x v)(j:Gd G S N m y w)(o:NOk G S r p z (Tow.add K v w)): Gd G S N (n+m) z (Tow.add K v w):=by
 have h:=(i.g.add j.g).mono (show _<=gB (n+m) by have:=i.n;have:=j.n;unfold gB;omega)
 exact⟨o.re W.w W.h h,h,W0l i.n (W6a ..)⟩
theorem Gd.mul(W:Wn G S N)(i:Gd G S N n x v)(j:Gd G S N m y w)(o:NOk G S r p z (Tow.mul K G v w)): Gd G S N (n+m) z (Tow.mul K G v w):=by
 have h:=(i.g.mul W.w j.g).mono (show _<=gB (n+m) by rw[wC];have:=i.n;have:=j.n;unfold gB;omega)
 exact⟨o.re W.w W.h h,h,W0l i.n (W6a ..)⟩
theorem Gd.le(W:Wn G S N)(h:Gd G S N n x v): x.k<=3:=h.o.le (Xah W.w.g) W.w.s
theorem Gd.op(h:Gd G S N n x v)(i:n<=190): NOk G S wR 3799892570 x v:=h.o.mono (W0c _) (by unfold gB;omega)
theorem Yir(W:Wn G S N)(h:Gd G S N n x v)(i:n<=800): vB wR x.k (gB n)<=4398046511104:=W0l (W0l (Xmn (h.le W)) (Xc4 (show gB n<=oW 4000000000 by unfold gB oW;omega))) wV
theorem Yny(W:Wn G S N)(h:Gd G S N n x v): vB wR x.k wR<=4398046511104:=W0l (Xmn (h.le W)) wQ.2.2.2
end Go.Tow
namespace Go.Proofs.YtcmjannkbdflmaaGreatDoor
open Go Go.Vm Go.Num Go.Tow
section
variable{K:Nat}{G:Tw K}{S:List (Tow.El K)}{N:List Nm}{n m:Nat}{x y z:Nm}{v w:Tow.El K}
def OpG(G:Tw K)(S:List (Tow.El K))(N:List Nm)(n:Nat)(w:Tow.El K)(r:AV): Prop:=∃z:Nm,r=.tup (.pr (.d (dN z)) (.d (.int .i64 0)))/\Gd G S N n z w
def OnG(G:Tw K)(S:List (Tow.El K))(N:List Nm)(n:Nat)(w:Tow.El K)(r:AV): Prop:=∃z:Nm,r=.d (dN z)/\Gd G S N n z w
theorem P9.Add_g(W:Wn G S N)(i:Gd G S N n x v)(j:Gd G S N m y w)(o:n<=190)(A:m<=190): C0 129 [.d (dN x),.d (dN y)] (OpG G S N (n+m) (Tow.add K v w)):=(P9.Add_ok W.w (i.op o) (j.op A) (by decide)).mono λ_ ⟨z,e,h⟩=>⟨z,e,i.add W j h⟩
theorem R9.Add_g(W:Wn G S N)(i:Gd G S N n x v)(j:Gd G S N m y w)(o:n<=190)(A:m<=190): C0 182 [.d (dN x),.d (dN y)] (OpG G S N (n+m) (Tow.add K v w)):=(R9.Add_ok W.w (i.op o) (j.op A) (by decide)).mono λ_ ⟨z,e,h⟩=>⟨z,e,i.add W j h⟩
theorem P9.Mul_g(W:Wn G S N)(i:Gd G S N n x v)(j:Gd G S N m y w)(o:n<=190)(A:m<=190): C0 89 [.d (dN x),.d (dN y)] (OpG G S N (n+m) (Tow.mul K G v w)):=(P9.Mul_ok W.w (i.op o) (j.op A) (by decide)).mono λ_ ⟨z,e,h⟩=>⟨z,e,i.mul W j h⟩
theorem R9.Mul_g(W:Wn G S N)(i:Gd G S N n x v)(j:Gd G S N m y w)(o:n<=190)(A:m<=190): C0 227 [.d (dN x),.d (dN y)] (OpG G S N (n+m) (Tow.mul K G v w)):=(R9.Mul_ok W.w (i.op o) (j.op A) (by decide)).mono λ_ ⟨z,e,h⟩=>⟨z,e,i.mul W j h⟩
theorem R9.Sub_g(W:Wn G S N)(i:Gd G S N n x v)(j:Gd G S N m y w)(o:n<=190)(A:m<=190): C0 185 [.d (dN x),.d (dN y)] (OpG G S N (n+m) (Tow.add K v (Tow.neg K w))):=(R9.Sub_ok W.w (i.op o) (j.op A) (by decide)).mono λ_ ⟨z,e,h⟩=>⟨z,e,i.add W j.neg h⟩
theorem P9.Neg_g(W:Wn G S N)(h:Gd G S N n x v)(i:n<=190): C0 46 [.d (dN x)] (OnG G S N n (Tow.neg K v)):=(P9.Neg_ok h.o (by have:=h.le W;omega) (by decide) (by unfold gB;omega)).mono λ_ e=>⟨_,e,h.neg⟩
theorem R9.Neg_g(W:Wn G S N)(h:Gd G S N n x v)(i:n<=190): C0 178 [.d (dN x)] (OnG G S N n (Tow.neg K v)):=(R9.Neg_ok h.o (by have:=h.le W;omega) (by unfold gB;omega)).mono λ_ e=>⟨_,e,h.neg⟩
theorem P9.Sign_g(W:Wn G S N)(h:Gd G S N n x v)(i:n<=800): C0 177 [.d (dN x)] (·=.d (.int .i64 (sgn K G v))):=P9.Sign_ok W.w.g h.o (by have:=h.le W;omega) (Yir W h i) (Yny W h)
theorem R9.Sign_g(W:Wn G S N)(h:Gd G S N n x v)(i:n<=800): C0 179 [.d (dN x)] (·=.d (.int .i64 (sgn K G v))):=R9.Sign_ok W.w.g h.o (by have:=h.le W;omega) (Yir W h i)
end
end Go.Proofs.YtcmjannkbdflmaaGreatDoor
namespace Go.Tow
open Go
abbrev V2(K:Nat):=El K×El K
section
variable{K:Nat}{G:Tw K}{p q:V2 K}
def Xe1(G:Tw K)(p q:V2 K): El K:=add K (mul K G p.1 q.1) (mul K G p.2 q.2)
def Xe2(G:Tw K)(p q:V2 K): El K:=Xe1 G (neg K p.2,p.1) q
def Xzl(G:Tw K)(p q:V2 K): V2 K:=(add K (mul K G p.1 q.1) (neg K (mul K G p.2 q.2)),add K (mul K G p.1 q.2) (mul K G p.2 q.1))
def Xfl(p:V2 K): V2 K:=(p.1,neg K p.2)
def vz(K:Nat): V2 K:=(zero K,zero K)
def vup(G:Tw K)(p:V2 K): Prop:=0<sgn K G p.2\/(sgn K G p.2=0/\0<sgn K G p.1)
instance:Decidable (vup G p):=by unfold vup;infer_instance
def Xhq(G:Tw K)(p:V2 K): Prop:=sgn K G p.2=0/\0<sgn K G p.1
instance:Decidable (Xhq G p):=by unfold Xhq;infer_instance
def Xzm(G:Tw K)(p q:V2 K): Int:=if vup G p↔vup G q then-sgn K G (Xe2 G p q) else if vup G p then -1 else 1
theorem Ycn: Xe1 G (Xfl p) q=(Xzl G p q).1:=by
 have L:=Xba K G
 show add K (mul K G p.1 q.1) (mul K G (neg K p.2) q.2)=add K (mul K G p.1 q.1) (neg K (mul K G p.2 q.2))
 rw[L.nm]
theorem Ycm: Xe2 G (Xfl p) q=(Xzl G p q).2:=by
 have L:=Xba K G
 show add K (mul K G (neg K (neg K p.2)) q.1) (mul K G p.1 q.2)=add K (mul K G p.1 q.2) (mul K G p.2 q.1)
 rw[L.nn,L.ac]
theorem Xhp(hG:red K G): p=vz K↔sgn K G p.1=0/\sgn K G p.2=0:=by
 rw[Xbu hG,Xbu hG]
 exact⟨λh=>by rw[h];exact⟨rfl,rfl⟩,λh=>W3a h.1 h.2⟩
theorem vsq(hG:red K G)(h:sgn K G (Xe1 G p p)=0): p=vz K:=by
 have Sg:=Xau (Xah hG)
 have i:=Xd3 (Sg.tri p.1)
 have j:=Xd3 (Sg.tri p.2)
 rw[Xhp hG]
 have o:=Sg.sm p.1 p.1
 have A:=Sg.sm p.2 p.2
 have L:=Xba K G
 by_cases a1:sgn K G p.1=0
 . refine⟨a1,W1g λB=>?_⟩
   have:=Sg.sp (mul K G p.2 p.2) (mul K G p.1 p.1) (by rw[A];exact j.2.1 B) (by rw[o];exact i.1)
   rw[L.ac] at this
   rw[show add K (mul K G p.1 p.1) (mul K G p.2 p.2)=Xe1 G p p from rfl,h] at this
   cases this
 . have:=Sg.sp (mul K G p.1 p.1) (mul K G p.2 p.2) (by rw[o];exact i.2.1 a1) (by rw[A];exact j.1)
   rw[show add K (mul K G p.1 p.1) (mul K G p.2 p.2)=Xe1 G p p from rfl,h] at this
   cases this
end
end Go.Tow
namespace Go.Proofs.YtcmjannkbdflmaaGreatDoor
open Go Go.Vm Go.Num Go.Tow
section
structure Vn where
 x:Nm
 y:Nm
abbrev dV(v:Vn): D:=.st (.pr (dN v.x) (dN v.y))
abbrev dVs(l:List Vn): D:=.sl 4 (l.map dV)
abbrev n00: Nm:=⟨0,(),((0:Int):Rat)⟩
structure Gv {K:Nat} (G:Tw K) (S:List (Tow.El K)) (N:List Nm) (n:Nat) (v:Vn) (p:V2 K):Prop where
 x:Gd G S N n v.x p.1
 y:Gd G S N n v.y p.2
def IsB(r:AV): Prop:=∃c:Bool,r=.b c
section
variable{K:Nat}{G:Tw K}{S:List (Tow.El K)}{N:List Nm}{n m:Nat}{x y z:Nm}{a b v w:Tow.El K}{u s:Vn}{p q:V2 K}
theorem Gv.mono(h:Gv G S N n u p)(i:n<=m): Gv G S N m u p:=⟨h.x.mono i,h.y.mono i⟩
def VeG(G:Tw K)(S:List (Tow.El K))(N:List Nm)(n:Nat)(p:V2 K)(r:AV): Prop:=∃v:Vn,r=.d (dV v)/\Gv G S N n v p
def VoG(G:Tw K)(S:List (Tow.El K))(N:List Nm)(n:Nat)(p:V2 K)(r:AV): Prop:=∃v:Vn,r=.tup (.pr (.d (dV v)) (.d (.int .i64 0)))/\Gv G S N n v p
theorem R9.Cmp_g(W:Wn G S N)(h:Gd G S N n x v)(i:Gd G S N m y w)(j:n<=190)(o:m<=190): C0 104 [.d (dN x),.d (dN y)] (·=.tup (.pr (.d (.int .i64 (sgn K G (Tow.add K v (Tow.neg K w))))) (.d (.int .i64 0)))):=by
 refine En Tryz.func104 λ_ _ _=>?_
 refine Ca rfl (R9.Sub_g W h i j o) λv A=>?_
 obtain⟨z,rfl,B⟩:=A
 exact No rfl (by simp)<|Ce rfl (R9.Sign_g W B (by omega))<|RTt rfl (.cons (.rf rfl) Xav)
theorem R9.Equal_g(W:Wn G S N)(i:Gd G S N n x v)(j:Gd G S N m y w)(o:n<=190)(A:m<=190): C0 43 [.d (dN x),.d (dN y)] (·=.b (dc (v=w))):=by
 refine En Tryz.func43 λ_ _ _=>?_
 refine Ce rfl (R9.Cmp_g W i j o A)<|Yes rfl (by simp) ?_
 have e:sgn K G (Tow.add K v (Tow.neg K w))=0↔v=w:=by
  rw[Xbu W.w.g]
  exact⟨λh=>(Xba K G).sub0 h,λh=>(Xba K G).sb h⟩
 exact R1 rfl (.bp (Xal.trans e))
end
end
section
section
variable{K:Nat}{G:Tw K}{S:List (Tow.El K)}{N:List Nm}{n m:Nat}{x y z:Nm}{a b:Tow.El K}{u s:Vn}{p q:V2 K}
theorem R13.Left_g(W:Wn G S N)(h:Gv G S N n u p)(i:n<=190): C0 98 [.d (dV u)] (VeG G S N n (neg K p.2,p.1)):=by
 refine En Tryz.func98 λ_ _ _=>?_
 refine Dw rfl<|Ca rfl (R9.Neg_g W h.y i) λv j=>?_
 obtain⟨z,rfl,o⟩:=j
 exact Rt rfl (.one (.rf rfl) rfl rfl) ⟨⟨z,u.x⟩,rfl,o,h.x⟩
theorem R13.Dot_g(W:Wn G S N)(i:Gv G S N n u p)(hs:Gv G S N m s q)(j:n<=190)(o:m<=190)(A:n+m<=190): C0 323 [.d (dV u),.d (dV s)] (OpG G S N (n+m+(n+m)) (Xe1 G p q)):=by
 refine En Tryz.func323 λ_ _ _=>?_
 refine Ca rfl (R9.Mul_g W i.x hs.x j o) λv h=>?_
 obtain⟨z,rfl,B⟩:=h
 refine Ca rfl (R9.Mul_g W i.y hs.y j o) λv h=>?_
 obtain⟨w,rfl,I⟩:=h
 refine No rfl (by simp)<|No rfl (by simp)<|Ca rfl (R9.Add_g W B I A A) λv h=>?_
 obtain⟨r,rfl,M⟩:=h
 exact Rt rfl (.tup (.cons (.rf rfl) Xav)) ⟨r,rfl,M⟩
theorem R13.Cross_g(W:Wn G S N)(j:Gv G S N n u p)(hs:Gv G S N m s q)(i:n<=190)(o:m<=190)(A:n+m<=190): C0 396 [.d (dV u),.d (dV s)] (OpG G S N (n+m+(n+m)) (Xe2 G p q)):=by
 refine En Tryz.func396 λ_ _ _=>?_
 refine Dw rfl<|Ca rfl (R13.Left_g W j i) λv h=>?_
 obtain⟨r,rfl,B⟩:=h
 refine Ca rfl (R13.Dot_g W B hs i o A) λv h=>?_
 obtain⟨z,rfl,I⟩:=h
 exact Rt rfl (.tup (.cons (.rf rfl) Xav)) ⟨z,rfl,I⟩
theorem R13.Zero_g(W:Wn G S N)(j:Gv G S N n u p)(o:n<=800): C0 393 [.d (dV u)] (·=.b (dc (p=vz K))):=by
 refine En Tryz.func393 λ_ _ _=>?_
 refine Ce rfl (R9.Sign_g W j.x o)<|By rfl (λh=>?_) λh=>?_
 . exact Ce rfl (R9.Sign_g W j.y o)<|R1 rfl (.bp (Xal.trans ⟨λi=>(Xhp W.w.g).2 ⟨h,i⟩,λi=>((Xhp W.w.g).1 i).2⟩))
 . exact R1 rfl (.bp ⟨nofun,λi=>absurd ((Xhp W.w.g).1 i).1 h⟩)
theorem R13.Make_ok{i j:Rat}: C0 40 [.d (dq i),.d (dq j)] (·=.d (dV ⟨⟨0,(),i⟩,⟨0,(),j⟩⟩)):=by
 refine En Tryz.func40 λ_ _ _=>?_
 exact Dw rfl<|Ce rfl R9.FromRat_ok<|Ce rfl R9.FromRat_ok<|R0
theorem R13.Whole_ok{i j:Int}(hi:-9223372036854775808<=i/\i<9223372036854775808)(h:-9223372036854775808<=j/\j<9223372036854775808): C0 13 [.d (.int .i64 i),.d (.int .i64 j)] (·=.d (dV ⟨⟨0,(),(i:Rat)⟩,⟨0,(),(j:Rat)⟩⟩)):=by
 refine En Tryz.func13 λ_ _ _=>?_
 exact Ce rfl (R2.FromInt_ok hi)<|Ce rfl (R2.FromInt_ok h)<|Ce rfl R13.Make_ok<|R0
abbrev cal: Ob:=.var (.d (.st (.int .i64 0)))
theorem R15.note_ok: CN0 180 [.ptr 1000001 0,.d (.int .i64 0)] [(1000001,cal)] (λ_=>True):=by
 refine EnW Tryz.func180 λ_ _ _ _=>?_
 exact Yes rfl (by decide)<|Rw [] [(1000001,cal)] rfl (.tup (.one (.rf rfl) (λ_ _ e=>by cases e) (λ_ _ e=>by cases e))) ⟨rfl,trivial⟩
theorem R15.num_ok{x:Nm}: CN0 142 [.ptr 1000001 0,.d (dN x),.d (.int .i64 0)] [(1000001,cal)] (·=.d (dN x)):=by
 refine EnW Tryz.func142 λ_ _ _ _=>?_
 refine Cn [] rfl R15.note_ok λv h=>?_
 exact No rfl (by decide)<|Rw [] [(1000001,cal)] rfl (.one (.rf rfl) rfl rfl) ⟨rfl,rfl⟩
theorem R15.Cross_g(W:Wn G S N)(i:Gv G S N n u p)(hs:Gv G S N m s q)(j:n<=190)(o:m<=190)(A:n+m<=190): CN0 328 [.ptr 1000001 0,.d (dV u),.d (dV s)] [(1000001,cal)] (OnG G S N (n+m+(n+m)) (Xe2 G p q)):=by
 refine EnW Tryz.func328 λ_ _ _ _=>?_
 refine Ca rfl (R13.Cross_g W i hs j o A) λv h=>?_
 obtain⟨z,rfl,B⟩:=h
 refine Cn [] rfl R15.num_ok λv h=>?_
 subst h
 exact Rw [] [(1000001,cal)] rfl (.one (.rf rfl) rfl rfl) ⟨rfl,z,rfl,B⟩
end
end
section
abbrev dT(v:Vn)(f:Int): D:=.st (.pr (dV v) (.int .i64 f))
abbrev dT0: D:=.st (.pr (.st (.pr R9.n0 R9.n0)) (.int .i64 0))
theorem Xtt{g:Hp}{K:Hpl}: Fit g K (.st (.pr (.st (.pr (.st (.pr .nil .nil)) (.st (.pr .nil .nil)))) (.d (.int .i64 0)))) (.d dT0):=.sd (.pd (.sd (.pd R9.fit0 R9.fit0)) (.rf rfl))
def lim(f:Int): Prop:=-1000000<=f/\f<=1000000
instance {f:Int}:Decidable (lim f):=by unfold lim;infer_instance
def few(f:Int): Prop:=-1000000000<=f/\f<=1000000000
def Ym6{K:Nat}(G:Tw K)(p q:V2 K)(f g:Int): Int:=if f<g then -1 else if f>g then 1 else Xzm G p q
section
variable{K:Nat}{G:Tw K}{S:List (Tow.El K)}{N:List Nm}{n m:Nat}{x y z:Nm}{a b:Tow.El K}{u s:Vn}{p q:V2 K}{f g:Int}
def TuG(G:Tw K)(S:List (Tow.El K))(N:List Nm)(n:Nat)(p:V2 K)(f:Int)(r:AV): Prop:=(lim f/\∃v,r=.tup (.pr (.d (dT v f)) (.d (.int .i64 0)))/\Gv G S N n v p)\/(¬lim f/\r=.tup (.pr (.d dT0) (.d (.int .i64 3))))
theorem R19.half_g(W:Wn G S N)(o:Gv G S N n u p)(A:n<=800): C0 327 [.d (dV u)] (·=.d (.int .i64 (if vup G p then 0 else 1))):=by
 refine En Tryz.func327 λ_ _ _=>?_
 refine Ce rfl (R9.Sign_g W o.y A)<|By rfl (λh=>?_) λh=>?_
 . rw[if_pos (show vup G p from .inl h)];exact R0
 . refine By rfl (λi=>?_) λi=>?_
   . refine Ce rfl (R9.Sign_g W o.x A)<|By rfl (λj=>?_) λj=>?_
     . rw[if_pos (show vup G p from .inr ⟨i,j⟩)];exact R0
     . rw[if_neg (show ¬vup G p from λe=>e.elim h λe=>j e.2)];exact R0
   . rw[if_neg (show ¬vup G p from λe=>e.elim h λe=>i e.1)];exact R0
theorem R19.order_g(W:Wn G S N)(j:Gv G S N n u p)(hs:Gv G S N m s q)(A:n<=190)(B:m<=190)(i:n+m<=190): CN0 230 [.ptr 1000001 0,.d (dV u),.d (dV s)] [(1000001,cal)] (·=.d (.int .i64 (Xzm G p q))):=by
 refine EnW Tryz.func230 λ_ _ _ _=>?_
 refine Dw rfl<|Ce rfl (R19.half_g W j (by omega))<|Ce rfl (R19.half_g W hs (by omega))<|By rfl (λh=>?_) λh=>?_
 . refine Dw rfl<|Ce rfl (R19.half_g W j (by omega))<|Ce rfl (R19.half_g W hs (by omega))<|Ar (Xzm G p q) rfl ?_ (by
    unfold Xzm
    by_cases o:vup G p<;>by_cases i:vup G q<;>simp[o,i] at h |-<;>rfl)
   exact Rw [] [(1000001,cal)] rfl (.one (.rf rfl) rfl rfl) ⟨rfl,rfl⟩
 . refine Cn [] rfl (R15.Cross_g W j hs A B i) λv I=>?_
   obtain⟨z,rfl,M⟩:=I
   refine Ce rfl (R9.Sign_g W M (by omega)) ?_
   have hi:vup G p↔vup G q:=by
    by_cases o:vup G p<;>by_cases i:vup G q<;>simp[o,i] at h |-
   have O:=Xc6 G (Xe2 G p q)
   refine Ne (Xzm G p q) rfl ?_ (by
    unfold Xzm
    rw[if_pos hi]
    exact wr (W8b _) (by simp only[inK];omega))
   exact Rw [] [(1000001,cal)] rfl (.one (.rf rfl) rfl rfl) ⟨rfl,rfl⟩
theorem R19.result_g(j:Gv G S N n u p): CN0 394 [.ptr 1000001 0,.d (dT u f)] [(1000001,cal)] (TuG G S N n p f):=by
 refine EnW Tryz.func394 λ_ _ _ _=>?_
 refine No rfl (by decide)<|By rfl (λh=>?_) λh=>?_
 . exact Rw [] [(1000001,cal)] rfl (.tup (.cons Xtt Xav)) ⟨rfl,.inr ⟨λi=>by unfold lim at i;omega,rfl⟩⟩
 . refine By rfl (λi=>?_) λi=>?_
   . exact Rw [] [(1000001,cal)] rfl (.tup (.cons Xtt Xav)) ⟨rfl,.inr ⟨λi=>by unfold lim at i;omega,rfl⟩⟩
   . exact Rw [] [(1000001,cal)] rfl (.tup (.cons (.rf rfl) Xav)) ⟨rfl,.inl ⟨by unfold lim;omega,u,rfl,j⟩⟩
theorem R19.Cmp_g(W:Wn G S N)(i:Gv G S N n u p)(hs:Gv G S N m s q)(j:n+m<=190): C0 149 [.d (dT u f),.d (dT s g)] (·=.tup (.pr (.d (.int .i64 (Ym6 G p q f g))) (.d (.int .i64 0)))):=by
 refine En Tryz.func149 λ_ _ _=>?_
 unfold Ym6
 refine By rfl (λh=>?_) λh=>?_
 . rw[if_pos h];exact RTt rfl (.cons (.rf rfl) Xav)
 rw[if_neg h]
 refine By rfl (λh=>?_) λh=>?_
 . rw[if_pos h];exact RTt rfl (.cons (.rf rfl) Xav)
 rw[if_neg h]
 refine Cn [(1000001,19)] rfl (R19.order_g W i hs (by omega) (by omega) j) λv o=>?_
 subst o
 exact No rfl (by decide)<|RTt rfl (.cons (.rf rfl) Xav)
end
end
end Go.Proofs.YtcmjannkbdflmaaGreatDoor

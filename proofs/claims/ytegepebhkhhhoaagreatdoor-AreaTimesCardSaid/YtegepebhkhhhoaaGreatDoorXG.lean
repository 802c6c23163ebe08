/- part 7 -/
import Derived.Test.YtegepebhkhhhoaaGreatDoorXF
set_option linter.unusedVariables false
set_option linter.unusedSimpArgs false
set_option maxRecDepth 10000
namespace Go.Proofs.YtegepebhkhhhoaaGreatDoor
open Go Go.Vm Go.Num Go.Tow
section
variable{K:Nat}{G:Tw K}{S:List (Tow.El K)}{N:List Nm}{n m:Nat}{u s:Vn}{p q:V2 K}{f g:Int}
theorem R19.east_g(W:Wn G S N)(hu:Gv G S N n u p)(hn:n<=800): C0 136 [.d (dV u)] (·=.b (dc (Xbc G p))):=by
 refine En Tryz.func136 λ_ _ _=>?_
 refine Ce rfl (R9.Sign_g W hu.y hn) ?_
 refine By rfl (λh1=>?_) λh1=>?_
 . refine Ce rfl (R9.Sign_g W hu.x hn) ?_
   exact R1 rfl (.bp (Xaj.trans ⟨λh2=>⟨h1,h2⟩,λh2=>h2.2⟩))
 . exact R1 rfl (.bp ⟨nofun,λh2=>absurd h2.1 h1⟩)
theorem R19.opp_g(W:Wn G S N)(hu:Gv G S N n u p)(hn:n<=400)(hf:few f): C0 78 [.d (dT u f)] (λr=>∃v,r=.d (dT v (P19.vopp G p f))/\Gv G S N n v (Xbn p)):=by
 unfold few at hf
 refine En Tryz.func78 λ_ _ _=>?_
 refine Ce rfl (R19.east_g W hu (by omega)) ?_
 refine By rfl (λh1=>?_) λh1=>?_
 . refine Ne (-f) rfl ?_ (wr (W7r _) (by simp only[inK];omega))
   exact Rt rfl (.one (.rf rfl) rfl rfl) ⟨u,by rw[P19.vopp,if_pos h1],by rw[Xtj W.w.g h1];exact hu⟩
 . refine Dw rfl ?_
   refine Ca rfl (R9.Neg_g W hu.y hn) λv hv=>?_
   obtain⟨z,rfl,hz⟩:=hv
   refine Ne (-f) rfl ?_ (wr (W7r _) (by simp only[inK];omega))
   refine Ar (-f-1) rfl ?_ (wr rfl (by simp only[inK];omega))
   exact Rt rfl (.one (.rf rfl) rfl rfl) ⟨⟨u.x,z⟩,by rw[P19.vopp,if_neg h1],hu.x,hz⟩
theorem R19.Neg_n(W:Wn G S N)(hu:Gv G S N n u p)(hn:n<=400)(hf:lim f): C0 32 [.d (dT u f)] (λr=>∃v,r=.d (dT v (Xd0 G p f))/\Gv G S N n v (Xbn p)):=by
 refine En Tryz.func32 λ_ _ _=>?_
 refine Ca rfl (R19.opp_g W hu hn hf.few) λv hv=>?_
 obtain⟨c,rfl,hc⟩:=hv
 refine By rfl (λh=>?_) λh=>?_
 . exact Rt rfl (.one (.rf rfl) rfl rfl) ⟨c,by rw[show Xd0 G p f=-1000000 by unfold Xd0;omega],hc⟩
 . exact Rt rfl (.one (.rf rfl) rfl rfl) ⟨c,by rw[show Xd0 G p f=P19.vopp G p f by unfold Xd0;omega],hc⟩
theorem P19.Neg_n(W:Wn G S N)(hu:Gv G S N n u p)(hn:n<=400)(hf:lim f): C0 30 [.d (dT u f)] (λr=>∃v,r=.d (dT v (Xd0 G p f))/\Gv G S N n v (Xbn p)) :=
 (P19.NegO_g W hu hn hf.few).mono λr ⟨v,e,h⟩=>⟨v,by rw[e,(Xmf hf).2],h⟩
def TuQ(G:Tw K)(S:List (Tow.El K))(N:List Nm)(n:Nat)(p:V2 K)(f:Int)(r:AV): Prop:=(lim f/\∃v,r=.tup (.pr (.d (dT v f)) (.d (.int .i64 0)))/\Gq G S N n v p)\/(¬lim f/\r=.tup (.pr (.d dT0) (.d (.int .i64 3))))
theorem TuQ.of{k:Nat}{r:AV}(W:Wn G S N)(hg:Gp G S N (gB k) p)(hk:1<=k)(h:TuG G S N n p f r): TuQ G S N k p f r:=by
 rcases h with ⟨h1,v,e,hv⟩ | h
 . exact .inl ⟨h1,v,e,hv.re W hg hk⟩
 . exact .inr h
abbrev zTu: AV:=.st (.pr (.st (.pr (.st (.pr .nil .nil)) (.st (.pr .nil .nil)))) (.d (.int .i64 0)))
theorem Yic(W:Wn G S N): Gq G S N 2 ⟨n01,n00⟩ (vpw G p 0):=by
 have h:Gv G S N 1 ⟨n01,n00⟩ (Tow.rat K ((1:Int):Rat),Tow.rat K ((0:Int):Rat)):=⟨Gd.rat W (Qs.int (z:=1) (by unfold Zs;decide) (by decide)),Gd.rat W (Qs.int (z:=0) (by unfold Zs;decide) (by decide))⟩
 rw[show Tow.rat K ((0:Int):Rat)=zero K from Xd8 K] at h
 exact h.two W
theorem Ya9{B:Int}(h:B=1000001)(hf:-B<=f/\f<=B){i:Nat}(hi:i<=8): few (vpf G p f i):=by
 have h2:=Yba (G:=G) (p:=p) (B:=B) (by omega) hf i
 subst h
 unfold few
 omega
theorem Yib(hf:lim f): -1000001<=P19.vopp G p f/\P19.vopp G p f<=1000001:=by
 unfold lim at hf
 unfold P19.vopp
 split<;>omega
theorem P19.Times_n(W:Wn G S N)(hu:Gq G S N 16 u p)(hp:p≠vz K)(hf:lim f){n:Int}(hn:-8<=n/\n<=8): C0 35 [.d (dT u f),.d (.int .i64 n)] (TuQ G S N 130 (vtm G p n) (vtf G p f n)):=by
 have hfl:lim f:=hf
 unfold lim at hf
 refine En Tryz.func35 λ_ _ _=>?_
 refine No rfl (by omega) ?_
 refine No rfl (by omega) ?_
 refine Cu (some 5) (λ((w,q,g):Vn×V2 K×Int)=>[(1,.d (.int .i64 (n.natAbs:Nat))),(2,.ptr 2 0),(4,.ptr 4 0)]) (λ((w,q,g):Vn×V2 K×Int)=>[(2,.var (.d (dT w g))),(4,.var zTu)]) (λ(w,q,g)=>Gq G S N 16 w q/\(-1000001<=g/\g<=1000001)/\vpw G q n.natAbs=vtm G p n/\vpf G q g n.natAbs=vtf G p f n) rfl ?_ λ(w,q,g) ⟨hw,hg,e1,e2⟩=>?_
 . refine By rfl (λh=>?_) λh=>?_
   . refine Ca rfl (P19.opp_g W hu.v (by decide) hfl.few) λv hv=>?_
     obtain⟨c,rfl,hc⟩:=hv
     refine Ne (n.natAbs:Nat) rfl ?_ (wr (show (0:Int)-n=n.natAbs by omega) (by simp only[inK];omega))
     exact Jn (c,Xbn p,P19.vopp G p f) [] rfl ⟨hc.re W hu.g.con (by decide),Yib hfl,by rw[vtm,if_pos h,Xn7 W.w.g],by rw[vtf,if_pos h,Xtd W.w.g hp]⟩
   . have en:n=(n.natAbs:Nat):=by omega
     refine Jn (u,p,f) [] rfl ⟨hu,by omega,by rw[vtm,if_neg h],by rw[vtf,if_neg h]⟩ (by exact⟨by rw[<-en];rfl,rfl,rfl,rfl,rfl⟩)
 refine Ce rfl (P9.FromInt_ok (z:=1) (by decide)) ?_
 refine Ce rfl (P9.FromInt_ok (z:=0) (by decide)) ?_
 refine Lo (λ((i,c):Nat×Vn)=>[(2,.ptr 2 0),(4,.ptr 4 0),(6,.ptr 6 0),(25,.d (.int .i64 (n.natAbs:Nat))),(26,.d (.int .i64 i))]) (λ((i,c):Nat×Vn)=>[(2,.var (.d (dT w g))),(4,.var zTu),(6,.var (.d (dT c (vpf G q g i))))]) (λ(i,c)=>i<=n.natAbs/\Gq G S N (2+16*i) c (vpw G q i)) (λ(i,_)=>n.natAbs-i) (0,⟨n01,n00⟩) [] rfl ⟨W0w _,Yic W⟩ (λ(i,c) ⟨hi,hc⟩=>?_)
 have hi:i<=n.natAbs:=hi
 refine By rfl (λh=>?_) λh=>?_
 . refine Ca rfl (P19.add_g W hc.v hw.v (by omega) (Ya9 rfl hg (by omega)) (by unfold few;omega)) λv hv=>?_
   obtain⟨d,rfl,hd⟩:=hv
   refine No rfl (by decide) ?_
   refine Ar (i+1:Nat) rfl ?_
   exact Bk (i+1,d) [] rfl ⟨by omega,(hc.mul W hw hd).mono (by omega)⟩ (by show n.natAbs-(i+1)<n.natAbs-i;omega)
 . obtain rfl:i=n.natAbs:=by omega
   refine Ca rfl (P19.limited_g hc.v) λv hv=>?_
   rw[e1,e2] at hv
   have hg1:=hc.g.mono (Xwl (show 2+16*n.natAbs<=130 by omega))
   rw[e1] at hg1
   rcases TuQ.of W hg1 (by decide) hv with ⟨h1,w,rfl,hw⟩ | ⟨h1,rfl⟩
   . exact Rt rfl (.tup (.cons (.rf rfl) Xa2)) (.inl ⟨h1,w,rfl,hw⟩)
   . exact Rt rfl (.tup (.cons (.rf rfl) Xa2)) (.inr ⟨h1,rfl⟩)
theorem R19.Times_n(W:Wn G S N)(hu:Gq G S N 16 u p)(hp:p≠vz K)(hf:lim f){n:Int}(hn:-8<=n/\n<=8): C0 38 [.d (dT u f),.d (.int .i64 n)] (TuQ G S N 130 (vtm G p n) (vtf G p f n)):=by
 have hfl:lim f:=hf
 unfold lim at hf
 refine En Tryz.func38 λ_ _ _=>?_
 refine No rfl (by omega) ?_
 refine No rfl (by omega) ?_
 refine Ce rfl (R13.Whole_ok (i:=1) (j:=0) (by decide) (by decide)) ?_
 refine Cu (some 8) (λ_:Unit=>[(1,.d (.int .i64 n)),(2,.ptr 2 0),(4,.ptr 4 0),(6,.ptr 18 0),(7,.ptr 7 0),(8,.d (.int .i64 (n.natAbs:Nat)))]) (λ_=>[(2,.var (.d (dT u f))),(4,.var zTu),(18,cal),(7,.var (.d (dT ⟨n01,n00⟩ 0)))]) (λ_=>True) rfl ?_ λ_ _=>?_
 . refine By rfl (λh=>?_) λh=>?_
   . refine Ne (n.natAbs:Nat) rfl ?_ (wr (show (0:Int)-n=n.natAbs by omega) (by simp only[inK];omega))
     exact Jn () [] rfl trivial
   . have en:n=(n.natAbs:Nat):=by omega
     exact Jn () [] rfl trivial (by exact⟨by rw[<-en];rfl,rfl,rfl,rfl,rfl⟩)
 refine Lo (λ((i,c):Nat×Vn)=>[(1,.d (.int .i64 n)),(2,.ptr 2 0),(4,.ptr 4 0),(6,.ptr 18 0),(7,.ptr 7 0),(8,.d (.int .i64 (n.natAbs:Nat))),(9,.d (.int .i64 i))]) (λ((i,c):Nat×Vn)=>[(2,.var (.d (dT u f))),(4,.var zTu),(18,cal),(7,.var (.d (dT c (vpf G p f i))))]) (λ(i,c)=>i<=n.natAbs/\Gq G S N (2+16*i) c (vpw G p i)) (λ(i,_)=>n.natAbs-i) (0,⟨n01,n00⟩) [] rfl ⟨W0w _,Yic W⟩ (λ(i,c) ⟨hi,hc⟩=>?_)
 have hi:i<=n.natAbs:=hi
 have hfi:∀i:Nat,i<=8->few (vpf G p f i):=λi hi=>Ya9 rfl (show -1000001<=f/\f<=1000001 by omega) hi
 refine By rfl (λh=>?_) λh=>?_
 . refine Cn [(1000001,18)] rfl (R19.sum_g W hc.v hu.v (by omega) (hfi i (by omega)) hfl.few) λv hv=>?_
   obtain⟨d,rfl,hd⟩:=hv
   refine Ar (i+1:Nat) rfl ?_
   exact Bk (i+1,d) [] rfl ⟨by omega,(hc.mul W hu hd).mono (by omega)⟩ (by show n.natAbs-(i+1)<n.natAbs-i;omega)
 . obtain rfl:i=n.natAbs:=by omega
   have hg1:=hc.g.mono (Xwl (show 2+16*n.natAbs<=130 by omega))
   refine By rfl (λh=>?_) λh=>?_
   . refine Ca rfl (R19.opp_g W hc.v (by omega) (hfi _ (by omega))) λv hv=>?_
     obtain⟨d,rfl,hd⟩:=hv
     refine Cn [(1000001,18)] rfl (R19.result_g hd) λv hv=>?_
     have e1:vtm G p n=Xbn (vpw G p n.natAbs):=if_pos h
     have e2:vtf G p f n=P19.vopp G (vpw G p n.natAbs) (vpf G p f n.natAbs):=if_pos h
     rw[<-e1,<-e2] at hv
     have hg2:=hg1.con
     rw[<-e1] at hg2
     rcases TuQ.of W hg2 (by decide) hv with ⟨h1,w,rfl,hw⟩ | ⟨h1,rfl⟩
     . exact Rt rfl (.tup (.cons (.rf rfl) Xa2)) (.inl ⟨h1,w,rfl,hw⟩)
     . exact Rt rfl (.tup (.cons (.rf rfl) Xa2)) (.inr ⟨h1,rfl⟩)
   . refine Cn [(1000001,18)] rfl (R19.result_g hc.v) λv hv=>?_
     have e1:vtm G p n=vpw G p n.natAbs:=if_neg h
     have e2:vtf G p f n=vpf G p f n.natAbs:=if_neg h
     rw[<-e1,<-e2] at hv
     rw[<-e1] at hg1
     rcases TuQ.of W hg1 (by decide) hv with ⟨h1,w,rfl,hw⟩ | ⟨h1,rfl⟩
     . exact Rt rfl (.tup (.cons (.rf rfl) Xa2)) (.inl ⟨h1,w,rfl,hw⟩)
     . exact Rt rfl (.tup (.cons (.rf rfl) Xa2)) (.inr ⟨h1,rfl⟩)
end
end Go.Proofs.YtegepebhkhhhoaaGreatDoor
namespace Go.Proofs.YtegepebhkhhhoaaGreatDoor.P20
open Go Go.Vm Go.Num Go.Tow Go.Proofs.YtegepebhkhhhoaaGreatDoor Go.Proofs.YtegepebhkhhhoaaGreatDoor.R20
section
variable{K:Nat}{G:Tw K}{S:List (Tow.El K)}{N:List Nm}{n m U:Nat}{x y z:Nm}{a b:Tow.El K}{L M M':List (SV K)}
abbrev Tr(K:Nat):=Tow.El K×V2 K×Int
abbrev Xcu(L:List (SV K)): List (Tr K):=L.map λy=>(y.a,y.p,y.s.f)
theorem Yc4{l:List Sn}(hl:l.length<=100): C0 8 [.d (dAr x l)] (·=.d (dAr x l)):=by
 rcases l with _ | ⟨s,l⟩
 . refine En Tryz.func8 λ_ _ _=>?_
   refine Dl rfl ?_
   refine Yk4 rfl rfl (by decide) ?_
   exact R1 rfl (.sd (.pd (.rf rfl) (.lit rfl)))
 . refine En Tryz.func8 λ_ _ _=>?_
   refine Dl rfl ?_
   refine Yc6 ((s::l).map dSe) rfl rfl (W5o _) (by rw[W0j];omega) ?_
   exact R1 rfl (.sd (.pd (.rf rfl) (.own rfl (by omega) (by rw[W1d,W2i]))))
theorem Xc1{L:List (SV K)}{k:Nat}{x:SV K}(h:L[k]?=some x): (Xcu L)[k]?=some (x.a,x.p,x.s.f):=by simp[h]
theorem Ycq(W:Wn G S N)(hx:Gd G S N n x a)(hy:Gd G S N m y a)(hn:n<=190)(hm:m<=190)(hU:U<=190)(hl:M.length<=100)(hv:Xcu M=Xcu M')(hM:∀s∈M,SN G S N U s)(hM':∀s∈M',SN G S N U s)(ho:(Xcu M).Pairwise λs t=>clt G s.1 t.1): C0 6 [.d (dAr x (ls M)),.d (dAr y (ls M'))] (·=.b true):=by
 have hlen:M.length=M'.length:=by simpa using congrArg List.length hv
 have at1:∀ {M:List (SV K)} {i:Nat} {s:Sn},(ls M)[i]?=some s->∃y,M[i]?=some y/\y.s=s:=λ{M i s} h=>by
  rw[W1s] at h
  cases e:M[i]? with
  | none=>rw[e] at h;cases h
  | some y=>rw[e] at h;exact⟨y,rfl,by injection h⟩
 refine Xhd (R20.Good_l (by rw[W0j];exact hl) (R9.Valid_g W hx (by omega)) (λs hs=>?_) (λi s t h1 h2=>?_)) ((R20.Equal_l (P:=λ_ _=>True) (Q:=λ_ _=>True) (by rw[W0j];exact hl) (by rw[W0j,<-hlen];exact hl) (R9.Equal_g W hx hy hn hm) (λi s t h1 h2=>?_)).mono λv e=>e.trans (congrArg AV.b (Xaj.2 ⟨rfl,by rw[W0j,W0j,hlen],λ_ _ _ _ _=>⟨trivial,trivial⟩⟩)))
 . obtain⟨y,hy,rfl⟩:=W3s.1 hs
   have H:=hM y hy
   exact Ynu W W H.c (by have:=Xcc G y.a;have:=H.pos;omega) H.v.v H.ne H.lim H.nz (by decide) (by omega)
 . obtain⟨s,k1,rfl⟩:=at1 h1
   obtain⟨t,k2,rfl⟩:=at1 h2
   have p1:=W0m.1 (Xc1 k1)
   have p2:=W0m.1 (Xc1 k2)
   have h:=List.pairwise_iff_getElem.1 ho i (i+1) p1.1 p2.1 (W5m i)
   rw[p1.2,p2.2] at h
   have:=R20.compare_g W (hM s (W0h k1)).c (hM t (W0h k2)).c (by decide) (by decide)
   rwa[Ykb h] at this
 . obtain⟨s,k1,rfl⟩:=at1 h1
   obtain⟨t,k2,rfl⟩:=at1 h2
   have H1:=hM s (W0h k1)
   have H2:=hM' t (W0h k2)
   have e:=Xc1 k1
   rw[hv,Xc1 k2] at e
   injection e with e
   injection e with e1 e2
   injection e2 with e2 e3
   refine⟨(R9.Equal_g W H1.c H2.c (by decide) (by decide)).mono λv e=>e.trans (congrArg AV.b (W4n.2 ⟨λ_=>Xaj.2 trivial,λ_=>Xaj.2 e1.symm⟩)),(R19.Same_g W H1.v.v H2.v.v (by omega)).mono λv e=>e.trans (congrArg AV.b (W4n.2 ⟨λ_=>Xaj.2 trivial,λ_=>Xaj.2 ?_⟩))⟩
   rw[e2,e3]
   exact⟨⟨H1.ne,H1.lim⟩,⟨H1.ne,H1.lim⟩,by unfold Yhf;rw[if_neg (by omega),if_neg (by omega)];exact Xtk W.w.g⟩
def ngv(G:Tw K)(t:Tr K): Tr K:=(t.1,Xbn t.2.1,Xd0 G t.2.1 t.2.2)
theorem Yin(W:Wn G S N){x:SV K}{v:Vn}(hx:SN G S N 16 x)(hv:Gv G S N m v (Xbn x.p)): SN G S N 16 (⟨⟨x.s.c,v,Xd0 G x.p x.s.f⟩,x.a,Xbn x.p⟩:SV K) :=
 ⟨⟨hx.c,hx.pos,hv.re W hx.v.g.con (by decide),Xgy W.w.g hx.ne,(Xmf hx.lim).1⟩,Xyn W.w.g hx.lim hx.nz⟩
def NgP(G:Tw K)(S:List (Tow.El K))(N:List Nm)(n:Nat)(a:Tow.El K)(L:List (SV K))(r:AV): Prop:=∃z M,r=.d (dAr z (ls M))/\Gd G S N n z (Tow.neg K a)/\(∀y∈M,SN G S N 16 y)/\Xcu M=(Xcu L).map (ngv G)
theorem Xu9{k:Nat}{x:SV K}{w:Vn}(W:Wn G S N)(hk:L[k]?=some x)(hL:∀y∈L,SN G S N 16 y)(hM:∀y∈M,SN G S N 16 y)(hv:Xcu M=((Xcu L).take k).map (ngv G))(hw:Gv G S N m w (Xbn x.p)):
 (∀y∈M++[(⟨⟨x.s.c,w,Xd0 G x.p x.s.f⟩,x.a,Xbn x.p⟩:SV K)],SN G S N 16 y)/\Xcu (M++[(⟨⟨x.s.c,w,Xd0 G x.p x.s.f⟩,x.a,Xbn x.p⟩:SV K)])=((Xcu L).take (k+1)).map (ngv G):=by
 refine⟨λy hy=>?_,?_⟩
 . rcases W1v.1 hy with hy | hy
   . exact hM y hy
   . obtain rfl:=W0i.1 hy
     exact Yin W (hL x (W0h hk)) hw
 . rw[W1p,Xc1 hk]
   show (M++_).map _=_
   rw[W2a]
   show Xcu M++_=_
   rw[hv,W2a]
   rfl
theorem Neg_l(W:Wn G S N)(hx:Gd G S N n x a)(hn:n<=190)(hL:∀y∈L,SN G S N 16 y)(hl:L.length<=8): C0 7 [.d (dAr x (ls L))] (NgP G S N n a L):=by
 have lv:(Xcu L).length=L.length:=W0j ..
 refine En Tryz.func7 λ_ _ _=>?_
 refine Ca rfl (P9.Neg_g W hx (by omega)) λv hv=>?_
 obtain⟨z,rfl,hz⟩:=hv
 refine Nv 3 77 7 rfl ?_
 refine Lo (λ((k,M):Nat×List (SV K))=>[(2,.ptr 2 0),(3,.ptr 3 0),(11,.d (dSs (ls L))),(12,.d (.int .i64 ((ls L).map dSe).length)),(13,.d (.int .i64 k))]) (λ((k,M):Nat×List (SV K))=>[(2,.var zA),(3,.var (.st (.pr (.d (dN z)) (.gr 77 7 ((ls M).map dSe))))),(77,.tok ((ls M).map dSe).length 7)]) (λ(k,M)=>k<=L.length/\(∀y∈M,SN G S N 16 y)/\Xcu M=((Xcu L).take k).map (ngv G)) (λ(k,_)=>L.length-k) (0,[]) [] rfl ⟨W0w _,nofun,rfl⟩ (λ(k,M) ⟨hk,hM,hv⟩=>?_)
 have hk:k<=L.length:=hk
 have hv:Xcu M=((Xcu L).take k).map (ngv G):=hv
 have ml:M.length=k:=by have:=congrArg List.length hv;simp at this;omega
 refine By rfl (λh=>?_) λh=>?_<;>rw[Xce] at h
 . obtain⟨s,hs⟩:∃s,L[k]?=some s:=⟨_,W0c (by omega)⟩
   have H:=hL s (W0h hs)
   refine Ix k rfl (Xlq hs) ?_
   refine Dw rfl ?_
   refine Ca rfl (P19.Neg_n W H.v.v (by decide) H.lim) λv hv=>?_
   obtain⟨w,rfl,hw⟩:=hv
   refine ApH ((ls (M++[(⟨⟨s.s.c,w,Xd0 G s.p s.s.f⟩,s.a,Xbn s.p⟩:SV K)])).map dSe) rfl (by simp) (by rw[Xce,W0d,ml];show k+1<=_;omega) ?_
   refine Ar (k+1:Nat) rfl ?_
   exact Bk (k+1,M++[(⟨⟨s.s.c,w,Xd0 G s.p s.s.f⟩,s.a,Xbn s.p⟩:SV K)]) [(77,90),(26,77)] rfl ⟨by omega,Xu9 W hs hL hM hv hw⟩ (by show L.length-(k+1)<L.length-k;omega)
 . exact Rt rfl (.one (.sd (.pd (.rf rfl) (.gr rfl))) rfl rfl) ⟨z,M,rfl,hz,hM,by rw[hv,W0a (by rw[lv];omega)]⟩
theorem R20.Neg_l(W:Wn G S N)(hx:Gd G S N n x a)(hn:n<=190)(hL:∀y∈L,SN G S N 16 y)(hl:L.length<=8): C0 9 [.d (dAr x (ls L))] (NgP G S N n a L):=by
 have lv:(Xcu L).length=L.length:=W0j ..
 refine En Tryz.func9 λ_ _ _=>?_
 refine Ca rfl (R9.Neg_g W hx (by omega)) λv hv=>?_
 obtain⟨z,rfl,hz⟩:=hv
 refine Nv 3 77 7 rfl ?_
 refine Lo (λ((k,M):Nat×List (SV K))=>[(1,.ptr 1 0),(2,.ptr 2 0),(3,.ptr 3 0),(4,.d (.int .i64 k))]) (λ((k,M):Nat×List (SV K))=>[(1,.var (.d (dAr x (ls L)))),(2,.var zA),(3,.var (.st (.pr (.d (dN z)) (.gr 77 7 ((ls M).map dSe))))),(77,.tok ((ls M).map dSe).length 7)]) (λ(k,M)=>k<=L.length/\(∀y∈M,SN G S N 16 y)/\Xcu M=((Xcu L).take k).map (ngv G)) (λ(k,_)=>L.length-k) (0,[]) [] rfl ⟨W0w _,nofun,rfl⟩ (λ(k,M) ⟨hk,hM,hv⟩=>?_)
 have hk:k<=L.length:=hk
 have hv:Xcu M=((Xcu L).take k).map (ngv G):=hv
 have ml:M.length=k:=by have:=congrArg List.length hv;simp at this;omega
 refine By rfl (λh=>?_) λh=>?_<;>rw[Xce] at h
 . obtain⟨s,hs⟩:∃s,L[k]?=some s:=⟨_,W0c (by omega)⟩
   have H:=hL s (W0h hs)
   refine Dw rfl ?_
   refine Ix k rfl (Xlq hs) ?_
   refine Ix k rfl (Xlq hs) ?_
   refine Ca rfl (R19.Neg_n W H.v.v (by decide) H.lim) λv hv=>?_
   obtain⟨w,rfl,hw⟩:=hv
   refine ApH ((ls (M++[(⟨⟨s.s.c,w,Xd0 G s.p s.s.f⟩,s.a,Xbn s.p⟩:SV K)])).map dSe) rfl (by simp) (by rw[Xce,W0d,ml];show k+1<=_;omega) ?_
   refine Ar (k+1:Nat) rfl ?_
   exact Bk (k+1,M++[(⟨⟨s.s.c,w,Xd0 G s.p s.s.f⟩,s.a,Xbn s.p⟩:SV K)]) [(77,90),(33,77)] rfl ⟨by omega,Xu9 W hs hL hM hv hw⟩ (by show L.length-(k+1)<L.length-k;omega)
 . exact Rt rfl (.one (.sd (.pd (.rf rfl) (.gr rfl))) rfl rfl) ⟨z,M,rfl,hz,hM,by rw[hv,W0a (by rw[lv];omega)]⟩
def tmv(G:Tw K)(n:Int)(t:Tr K): Tr K:=(t.1,vtm G t.2.1 n,vtf G t.2.1 t.2.2 n)
open Classical in
noncomputable def tms(G:Tw K)(n:Int)(l:List (Tr K)): List (Tr K):=(l.map (tmv G n)).filter λt=>decide (¬(t.2.2=0/\Xbc G t.2.1))
theorem Ydo{c:Int}{l:List (Tr K)}{k:Nat}{t:Tr K}(ht:l[k]?=some t)(h:¬((tmv G c t).2.2=0/\Xbc G (tmv G c t).2.1)): tms G c (l.take (k+1))=tms G c (l.take k)++[tmv G c t]:=by
 unfold tms
 rw[W1p,ht]
 simp[List.filter_append]
 exact Classical.not_and_iff_not_or_not.1 h
theorem Ybh{c:Int}{l:List (Tr K)}{k:Nat}{t:Tr K}(ht:l[k]?=some t)(h:(tmv G c t).2.2=0/\Xbc G (tmv G c t).2.1): tms G c (l.take (k+1))=tms G c (l.take k):=by
 unfold tms
 rw[W1p,ht]
 simp[List.filter_append,h]
def TmP(G:Tw K)(S:List (Tow.El K))(N:List Nm)(n:Nat)(c:Int)(a:Tow.El K)(L:List (SV K))(r:AV): Prop:=(¬(∀t∈Xcu L,lim (tmv G c t).2.2)/\r=.tup (.pr (.d dA0) (.d (.int .i64 3)))) \/
 ((∀t∈Xcu L,lim (tmv G c t).2.2)/\∃z M,r=.tup (.pr (.d (dAr z (ls M))) (.d (.int .i64 0)))/\Gd G S N n z (Tow.mul K G a (Tow.rat K ((c:Int):Rat)))/\(∀y∈M,SN G S N 130 y)/\Xcu M=tms G c (Xcu L))
theorem Yhd{c:Int}{x:SV K}{v:Vn}(W:Wn G S N)(hx:SN G S N 16 x)(hl:lim (vtf G x.p x.s.f c))(hv:Gq G S N 130 v (vtm G x.p c))(h0:¬(vtf G x.p x.s.f c=0/\Xbc G (vtm G x.p c))): SN G S N 130 (⟨⟨x.s.c,v,vtf G x.p x.s.f c⟩,x.a,vtm G x.p c⟩:SV K) :=
 ⟨⟨hx.c,hx.pos,hv,Ygw W.w.g hx.ne c,hl⟩,h0⟩
theorem Xtw{c:Int}{k:Nat}{x:SV K}{v:Vn}(hk:L[k]?=some x)(hM:∀y∈M,SN G S N 130 y)(hv:Xcu M=tms G c ((Xcu L).take k))(h0:¬(vtf G x.p x.s.f c=0/\Xbc G (vtm G x.p c)))(hx:SN G S N 130 (⟨⟨x.s.c,v,vtf G x.p x.s.f c⟩,x.a,vtm G x.p c⟩:SV K)):
 (∀y∈M++[(⟨⟨x.s.c,v,vtf G x.p x.s.f c⟩,x.a,vtm G x.p c⟩:SV K)],SN G S N 130 y)/\Xcu (M++[(⟨⟨x.s.c,v,vtf G x.p x.s.f c⟩,x.a,vtm G x.p c⟩:SV K)])=tms G c ((Xcu L).take (k+1)):=by
 refine⟨λy hy=>?_,?_⟩
 . rcases W1v.1 hy with hy | hy
   . exact hM y hy
   . obtain rfl:=W0i.1 hy
     exact hx
 . rw[Ydo (Xc1 hk) h0]
   show (M++_).map _=_
   rw[W2a]
   show Xcu M++_=_
   rw[hv]
   rfl
theorem Xp3{c:Int}{k:Nat}{x:SV K}(hk:L[k]?=some x)(hl:∀t∈(Xcu L).take k,lim (tmv G c t).2.2)(h:lim (vtf G x.p x.s.f c)): ∀t∈(Xcu L).take (k+1),lim (tmv G c t).2.2:=λt ht=>by
 rw[W1p,Xc1 hk] at ht
 rcases W1v.1 ht with ht | ht
 . exact hl t ht
 . obtain rfl:=W0i.1 ht
   exact h
theorem Xtx{c:Int}{k:Nat}(hv:Xcu M=tms G c ((Xcu L).take k)): M.length<=L.length:=by
 have h:=congrArg List.length hv
 rw[W0j] at h
 have h2:(tms G c ((Xcu L).take k)).length<=((Xcu L).take k).length:=by
  unfold tms
  exact W0k (List.length_filter_le _ _) (by rw[W0j];exact W0b _)
 rw[W0g,W0j] at h2
 omega
theorem Yl3{c:Int}{l:List (Tr K)}(h:l.Pairwise λs t=>clt G s.1 t.1): (tms G c l).Pairwise λs t=>clt G s.1 t.1:=by
 unfold tms
 exact(List.Pairwise.filter _ (List.pairwise_map.2 h))
theorem Yck(W:Wn G S N){c:Int}(hc:-64<=c/\c<=64): Gd G S N 1 ⟨0,(),((c:Int):Rat)⟩ (Tow.rat K ((c:Int):Rat)):=Gd.rat W (Qs.int (by unfold Zs;omega) (by decide))
theorem Times_l(W:Wn G S N)(hx:Gd G S N n x a)(hn:n<=180)(hL:∀y∈L,SN G S N 16 y)(hl:L.length<=8){c:Int}(hc:-8<=c/\c<=8): C0 10 [.d (dAr x (ls L)),.d (.int .i64 c)] (TmP G S N (n+1) c a L):=by
 refine En Tryz.func10 λ_ _ _=>?_
 refine No rfl (by omega) ?_
 refine No rfl (by omega) ?_
 refine Dw rfl ?_
 refine Ce rfl (P9.FromInt_ok (z:=c) (by omega)) ?_
 refine Ca rfl (P9.Mul_g W hx (Yck W (by omega)) (by omega) (by decide)) λv hv=>?_
 obtain⟨z,rfl,hz⟩:=hv
 refine No rfl (by decide) ?_
 refine Nv 8 77 7 rfl ?_
 refine Lo (λ((k,M):Nat×List (SV K))=>[(1,.d (.int .i64 c)),(4,.ptr 4 0),(8,.ptr 8 0),(35,.d (dSs (ls L))),(36,.d (.int .i64 ((ls L).map dSe).length)),(37,.d (.int .i64 k))]) (λ((k,M):Nat×List (SV K))=>[(4,.var zA),(8,.var (.st (.pr (.d (dN z)) (.gr 77 7 ((ls M).map dSe))))),(77,.tok ((ls M).map dSe).length 7)]) (λ(k,M)=>k<=L.length/\(∀t∈(Xcu L).take k,lim (tmv G c t).2.2)/\(∀y∈M,SN G S N 130 y)/\Xcu M=tms G c ((Xcu L).take k)) (λ(k,_)=>L.length-k) (0,[]) [] rfl ⟨W0w _,nofun,nofun,rfl⟩ (λ(k,M) ⟨hk,hlm,hM,hv⟩=>?_)
 have hk:k<=L.length:=hk
 have hv:Xcu M=tms G c ((Xcu L).take k):=hv
 have ml:=Xtx hv
 refine By rfl (λh=>?_) λh=>?_<;>rw[Xce] at h
 . obtain⟨s,hs⟩:∃s,L[k]?=some s:=⟨_,W0c (by omega)⟩
   have H:=hL s (W0h hs)
   refine Ix k rfl (Xlq hs) ?_
   refine Ca rfl (P19.Times_n W H.v H.ne H.lim hc) λv hv=>?_
   rcases hv with ⟨h1,w,rfl,hw⟩ | ⟨h1,rfl⟩
   . refine No rfl (by decide) ?_
     refine Ce rfl (P19.Zero_g W hw.v (by decide)) ?_
     refine By rfl (λh2=>?_) λh2=>?_
     . have h2:¬(vtf G s.p s.s.f c=0/\Xbc G (vtm G s.p c)):=by simpa only [Xaq,Xaj] using h2
       refine ApH ((ls (M++[(⟨⟨s.s.c,w,vtf G s.p s.s.f c⟩,s.a,vtm G s.p c⟩:SV K)])).map dSe) rfl (by simp) (by rw[Xce,W0d];show M.length+1<=_;omega) ?_
       refine Ar (k+1:Nat) rfl ?_
       exact Bk (k+1,M++[(⟨⟨s.s.c,w,vtf G s.p s.s.f c⟩,s.a,vtm G s.p c⟩:SV K)]) [(77,90),(62,77)] rfl ⟨by omega,Xp3 hs hlm h1,Xtw hs hM hv h2 (Yhd W H h1 hw h2)⟩ (by show L.length-(k+1)<L.length-k;omega)
     . have h2:vtf G s.p s.s.f c=0/\Xbc G (vtm G s.p c):=W3a.1 (by simpa only [Xaq,Xaj] using h2)
       refine Ar (k+1:Nat) rfl ?_
       exact Bk (k+1,M) [] rfl ⟨by omega,Xp3 hs hlm h1,hM,hv.trans (Ybh (Xc1 hs) h2).symm⟩ (by show L.length-(k+1)<L.length-k;omega)
   . refine Yes rfl (by decide) ?_
     exact Rt rfl (.tup (.cons Xne Xa2)) (.inl ⟨λh=>h1 (h _ (W0h (Xc1 hs))),rfl⟩)
 . have e:(Xcu L).take k=Xcu L:=W0a (by rw[W0j];omega)
   rw[e] at hlm hv
   exact Rt rfl (.tup (.cons (.sd (.pd (.rf rfl) (.gr rfl))) Xa2)) (.inr ⟨hlm,z,M,rfl,hz,hM,hv⟩)
theorem R20.Times_l(W:Wn G S N)(hx:Gd G S N n x a)(hn:n<=180)(hL:∀y∈L,SN G S N 16 y)(hl:L.length<=8){c:Int}(hc:-8<=c/\c<=8): C0 11 [.d (dAr x (ls L)),.d (.int .i64 c)] (TmP G S N (n+1) c a L):=by
 refine En Tryz.func11 λ_ _ _=>?_
 refine Dw rfl ?_
 refine Ce rfl (R9.FromInt_ok (z:=c) (by omega)) ?_
 refine Ca rfl (R9.Mul_g W hx (Yck W (by omega)) (by omega) (by decide)) λv hv=>?_
 obtain⟨z,rfl,hz⟩:=hv
 refine Nv 8 77 7 rfl ?_
 refine Lo (λ((k,M,e):Nat×List (SV K)×Int)=>[(1,.d (.int .i64 c)),(2,.ptr 2 0),(4,.ptr 4 0),(7,.d (.int .i64 e)),(8,.ptr 8 0),(9,.d (.int .i64 k))]) (λ((k,M,e):Nat×List (SV K)×Int)=>[(2,.var (.d (dAr x (ls L)))),(4,.var zA),(8,.var (.st (.pr (.d (dN z)) (.gr 77 7 ((ls M).map dSe))))),(77,.tok ((ls M).map dSe).length 7)]) (λ(k,M,e)=>k<=L.length/\(e=0->(∀t∈(Xcu L).take k,lim (tmv G c t).2.2)/\(∀y∈M,SN G S N 130 y)/\Xcu M=tms G c ((Xcu L).take k))/\(e≠0->e=3/\¬ ∀t∈Xcu L,lim (tmv G c t).2.2)) (λ(k,_,_)=>L.length-k) (0,[],0) [] rfl ⟨W0w _,λ_=>⟨nofun,nofun,rfl⟩,λh=>absurd rfl h⟩ (λ(k,M,e) ⟨hk,h0,h3⟩=>?_)
 have hk:k<=L.length:=hk
 refine By rfl (λh=>?_) λh=>?_<;>rw[Xce] at h
 . refine By rfl (λhe=>?_) λhe=>?_
   . have he:e=0:=he
     subst he
     obtain⟨hlm,hM,hv⟩:=h0 rfl
     have ml:=Xtx hv
     obtain⟨s,hs⟩:∃s,L[k]?=some s:=⟨_,W0c (by omega)⟩
     have H:=hL s (W0h hs)
     refine Ix k rfl (Xlq hs) ?_
     refine Ca rfl (R19.Times_n W H.v H.ne H.lim hc) λv hv'=>?_
     rcases hv' with ⟨h1,w,rfl,hw⟩ | ⟨h1,rfl⟩
     . refine Yes rfl (by decide) ?_
       refine Ce rfl (R20.Zero_g W hw.v (by decide)) ?_
       refine By rfl (λh2=>?_) λh2=>?_
       . have h2:¬(vtf G s.p s.s.f c=0/\Xbc G (vtm G s.p c)):=by simpa only [Xaq,Xaj] using h2
         refine Dw rfl ?_
         refine Ix k rfl (Xlq hs) ?_
         refine ApH ((ls (M++[(⟨⟨s.s.c,w,vtf G s.p s.s.f c⟩,s.a,vtm G s.p c⟩:SV K)])).map dSe) rfl (by simp) (by rw[Xce,W0d];show M.length+1<=_;omega) ?_
         refine Ar (k+1:Nat) rfl ?_
         exact Bk (k+1,M++[(⟨⟨s.s.c,w,vtf G s.p s.s.f c⟩,s.a,vtm G s.p c⟩:SV K)],0) [(77,90),(63,77)] rfl ⟨by omega,λ_=>⟨Xp3 hs hlm h1,Xtw hs hM hv h2 (Yhd W H h1 hw h2)⟩,λh=>absurd rfl h⟩ (by show L.length-(k+1)<L.length-k;omega)
       . have h2:vtf G s.p s.s.f c=0/\Xbc G (vtm G s.p c):=W3a.1 (by simpa only [Xaq,Xaj] using h2)
         refine Ar (k+1:Nat) rfl ?_
         exact Bk (k+1,M,0) [] rfl ⟨by omega,λ_=>⟨Xp3 hs hlm h1,hM,hv.trans (Ybh (Xc1 hs) h2).symm⟩,λh=>absurd rfl h⟩ (by show L.length-(k+1)<L.length-k;omega)
     . refine No rfl (by decide) ?_
       refine Ar (k+1:Nat) rfl ?_
       exact Bk (k+1,M,3) [] rfl ⟨by omega,λh=>absurd h (by decide),λ_=>⟨rfl,λh=>h1 (h _ (W0h (Xc1 hs)))⟩⟩ (by show L.length-(k+1)<L.length-k;omega)
   . obtain⟨rfl,h4⟩:=h3 he
     refine Yes rfl (by decide) ?_
     exact Rt rfl (.tup (.cons Xne Xa2)) (.inl ⟨h4,rfl⟩)
 . by_cases he:e=0
   . subst he
     obtain⟨hlm,hM,hv⟩:=h0 rfl
     have e:(Xcu L).take k=Xcu L:=W0a (by rw[W0j];omega)
     rw[e] at hlm hv
     refine No rfl (by decide) ?_
     exact Rt rfl (.tup (.cons (.sd (.pd (.rf rfl) (.gr rfl))) Xa2)) (.inr ⟨hlm,z,M,rfl,hz,hM,hv⟩)
   . obtain⟨rfl,h4⟩:=h3 he
     refine Yes rfl (by decide) ?_
     exact Rt rfl (.tup (.cons Xne Xa2)) (.inl ⟨h4,rfl⟩)
theorem Xx4{l:List Sn}{c:Int}(hc:c < -64\/c>64): C0 10 [.d (dAr x l),.d (.int .i64 c)] (·=.tup (.pr (.d dA0) (.d (.int .i64 1)))):=by
 refine En Tryz.func10 λ_ _ _=>?_
 refine By rfl (λh=>?_) λh=>?_
 . exact RTt rfl (.cons Xne Xa2)
 . refine Yes rfl (by omega) ?_
   exact RTt rfl (.cons Xne Xa2)
end
theorem AreaTimes_ok{ops:List RO}{at':List (Fin 256)}{ts:List Int}{n:Int}(ht:ts.length<9223372036854775808)(hz:∀z∈ts,-9223372036854775808<=z/\z<9223372036854775808)(hn:-9223372036854775808<=n/\n<9223372036854775808): C0 3 [.d (R20.dCb ops at' ts),.d (.int .i64 n)] (·=.b true):=by
 refine En Tryz.func3 λ_ _ _=>?_
 refine Ce rfl Yau ?_
 refine No rfl nofun ?_
 refine Ca rfl (R20.Build_n ht hz) λv hv=>?_
 rcases hv.c with ⟨a,b,L,l,c,rfl,hc⟩ | ⟨K,G,S,N,W,x,a,L,l,c,rfl,hc,hx,hl,hL⟩
 . refine Yes rfl hc ?_
   exact R0
 have lv:(Xcu L).length=L.length:=W0j ..
 have hLo:(Xcu L).Pairwise λs t=>clt G s.1 t.1:=List.pairwise_map.2 hL.o
 have l100:(ls L).length<=100:=by rw[W0j];omega
 have neg:∀ {v v':AV},NgP G S N 140 a L v->NgP G S N 140 a L v'->∃z M z' M',v=.d (dAr z (ls M))/\v'=.d (dAr z' (ls M'))/\C0 6 [.d (dAr z (ls M)),.d (dAr z' (ls M'))] (·=.b true):=λ⟨z,M,e,h1,h2,h3⟩ ⟨z',M',e',k1,k2,k3⟩ =>
  ⟨z,M,z',M',e,e',Ycq W.w h1 k1 (by decide) (by decide) (by decide) (by have:=congrArg List.length h3;simp at this;omega) (h3.trans k3.symm) h2 k2 (by rw[h3];exact List.pairwise_map.2 hLo)⟩
 refine Cu (some 4) (λb:Bool=>[(1,.d (.int .i64 n)),(5,.ptr 5 0),(37,.b b)]) (λ_=>[(5,.var (.d (dAr x (ls L))))]) (λb=>¬b=true->n>64\/n < -64\/(-8<=n/\n<=8)) rfl ?_ λb hb=>?_
 . refine No rfl (λh=>h hc) ?_
   refine By rfl (λh1=>?_) λh1=>?_
   . refine By rfl (λh2=>?_) λh2=>?_
     . exact Jn true [] rfl (λh=>absurd rfl h)
     . refine No rfl (by omega) ?_
       exact Jn false [] rfl (λ_=>by omega)
   . refine By rfl (λh2=>?_) λh2=>?_
     . exact Jn (dc (n >= -64)) [] rfl (λh=>by have:¬n >= -64:=λe=>h (Xaj.2 e);omega)
     . exact Jn false [] rfl (λ_=>by omega)
 refine By rfl (λh=>?_) λh=>?_
 . exact R0
 have hn':=hb h
 refine Dw rfl ?_
 refine Ce rfl (Yc4 l100) ?_
 refine Ca rfl (Neg_l W.w hx (by decide) hL.m (by omega)) λv hv=>?_
 have h5:=hv
 obtain⟨z,M,rfl,_⟩:=hv
 refine Ca rfl (R20.Neg_l W.w hx (by decide) hL.m (by omega)) λv hv=>?_
 obtain⟨z1,M1,z2,M2,e1,rfl,hg⟩:=neg h5 hv
 rw[<-e1] at hg
 refine Ce rfl hg ?_
 refine No rfl nofun ?_
 refine Ce rfl (Yc4 l100) ?_
 by_cases hs:-8<=n/\n<=8
 . refine Ca rfl (Times_l W.w hx (by decide) hL.m (by omega) hs) λv hv=>?_
   rcases hv with ⟨g1,rfl⟩ | ⟨g1,z,M,rfl,h1,h2,h3⟩
   . refine No rfl (by omega) ?_
     refine No rfl (by omega) ?_
     refine Ca rfl (R20.Times_l W.w hx (by decide) hL.m (by omega) hs) λv hv=>?_
     rcases hv with ⟨_,rfl⟩ | ⟨g2,_⟩
     . refine Yes rfl (by decide) ?_
       refine Yes rfl (by decide) ?_
       exact R0
     . exact absurd g2 g1
   . refine No rfl (by omega) ?_
     refine No rfl (by omega) ?_
     refine Ca rfl (R20.Times_l W.w hx (by decide) hL.m (by omega) hs) λv hv=>?_
     rcases hv with ⟨g2,_⟩ | ⟨_,z',M',rfl,k1,k2,k3⟩
     . exact absurd g1 g2
     . refine Yes rfl (by decide) ?_
       refine No rfl (by decide) ?_
       refine Ce rfl (Ycq W.w h1 k1 (by decide) (by decide) (by decide) (by have:=Xtx (k:=L.length) (L:=L) (by rw[h3,W0a (by omega)]);omega) (h3.trans k3.symm) h2 k2 (by rw[h3];exact Yl3 hLo)) ?_
       exact R0
 . refine Ce rfl (Xx4 (by omega)) ?_
   refine By rfl (λh4=>?_) λh4=>?_
   . refine Yes rfl (by decide) ?_
     refine Ar (0:Int) rfl ?_ (wr rfl (by simp only[inK];omega))
     refine Rt rfl (.one (.rf rfl) rfl rfl) ?_
     exact congrArg AV.b (Xaj.2 rfl)
   . refine Yes rfl (by omega) ?_
     refine Yes rfl (by decide) ?_
     refine Ar (0:Int) rfl ?_ (wr rfl (by simp only[inK];omega))
     refine Rt rfl (.one (.rf rfl) rfl rfl) ?_
     exact congrArg AV.b (Xaj.2 rfl)
end Go.Proofs.YtegepebhkhhhoaaGreatDoor.P20

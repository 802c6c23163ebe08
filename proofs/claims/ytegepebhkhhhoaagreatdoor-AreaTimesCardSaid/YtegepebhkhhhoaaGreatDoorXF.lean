/- part 6 -/
import Derived.Test.YtegepebhkhhhoaaGreatDoorXE
import Derived.Lib.Bytealg
import Derived.Shelf.Strings.AsciiSet
import Derived.RangeFuncLeaves
import Derived.ControlIn
import Derived.Shelf.Strings.BuilderK
import Derived.RangeFuncCalls
set_option linter.unusedVariables false
set_option linter.unusedSimpArgs false
set_option maxRecDepth 100000
set_option maxHeartbeats 4000000
namespace Go.Tow
open Go
section
section
variable{K:Nat}{G:Tw K}{p q r u x y w z:V2 K}
def Xhl(p:V2 K): V2 K:=(neg K p.1,neg K p.2)
theorem Xkw: Xaw G p (Xav G p q)=mul K G (Xgu G p p) q.2:=by
 obtain⟨a,b⟩:=p
 obtain⟨c,d⟩:=q
 have L:=Xay K G
 exact(Laws.req L [a,b,c,d] (.add (.mul (.neg (.v 1)) (.add (.mul (.v 0) (.v 2)) (.neg (.mul (.v 1) (.v 3))))) (.mul (.v 0) (.add (.mul (.v 0) (.v 3)) (.mul (.v 1) (.v 2))))) (.mul (.add (.mul (.v 0) (.v 0)) (.mul (.v 1) (.v 1))) (.v 3)) (by decide +kernel))
theorem Ydg: Xaw G (Xav G p r) (Xav G q r)=mul K G (Xgu G r r) (Xaw G p q):=by
 obtain⟨a,b⟩:=p
 obtain⟨c,d⟩:=q
 obtain⟨e,f⟩:=r
 have L:=Xay K G
 exact(Laws.req L [a,b,c,d,e,f] (.add (.mul (.neg (.add (.mul (.v 0) (.v 5)) (.mul (.v 1) (.v 4)))) (.add (.mul (.v 2) (.v 4)) (.neg (.mul (.v 3) (.v 5))))) (.mul (.add (.mul (.v 0) (.v 4)) (.neg (.mul (.v 1) (.v 5)))) (.add (.mul (.v 2) (.v 5)) (.mul (.v 3) (.v 4))))) (.mul (.add (.mul (.v 4) (.v 4)) (.mul (.v 5) (.v 5))) (.add (.mul (.neg (.v 1)) (.v 2)) (.mul (.v 0) (.v 3)))) (by decide +kernel))
theorem Xe1: Xaw G q p=neg K (Xaw G p q):=by
 obtain⟨a,b⟩:=p
 obtain⟨c,d⟩:=q
 have L:=Xay K G
 exact(Laws.req L [a,b,c,d] (.add (.mul (.neg (.v 3)) (.v 0)) (.mul (.v 2) (.v 1))) (.neg (.add (.mul (.neg (.v 1)) (.v 2)) (.mul (.v 0) (.v 3)))) (by decide +kernel))
theorem Ygy: mul K G q.2 (Xaw G p r)=add K (mul K G r.2 (Xaw G p q)) (mul K G p.2 (Xaw G q r)):=by
 obtain⟨a,b⟩:=p
 obtain⟨c,d⟩:=q
 obtain⟨e,f⟩:=r
 have L:=Xay K G
 exact(Laws.req L [a,b,c,d,e,f] (.mul (.v 3) (.add (.mul (.neg (.v 1)) (.v 4)) (.mul (.v 0) (.v 5)))) (.add (.mul (.v 5) (.add (.mul (.neg (.v 1)) (.v 2)) (.mul (.v 0) (.v 3)))) (.mul (.v 1) (.add (.mul (.neg (.v 3)) (.v 4)) (.mul (.v 2) (.v 5))))) (by decide +kernel))
theorem Xbl: Xav G p q=Xav G q p:=by
 obtain⟨a,b⟩:=p
 obtain⟨c,d⟩:=q
 have L:=Xay K G
 exact W2y (Laws.req L [a,b,c,d] (.add (.mul (.v 0) (.v 2)) (.neg (.mul (.v 1) (.v 3)))) (.add (.mul (.v 2) (.v 0)) (.neg (.mul (.v 3) (.v 1)))) (by decide +kernel)) (Laws.req L [a,b,c,d] (.add (.mul (.v 0) (.v 3)) (.mul (.v 1) (.v 2))) (.add (.mul (.v 2) (.v 1)) (.mul (.v 3) (.v 0))) (by decide +kernel))
theorem Xgx: Xav G (Xav G p q) r=Xav G p (Xav G q r):=by
 obtain⟨a,b⟩:=p
 obtain⟨c,d⟩:=q
 obtain⟨e,f⟩:=r
 have L:=Xay K G
 exact W2y (Laws.req L [a,b,c,d,e,f] (.add (.mul (.add (.mul (.v 0) (.v 2)) (.neg (.mul (.v 1) (.v 3)))) (.v 4)) (.neg (.mul (.add (.mul (.v 0) (.v 3)) (.mul (.v 1) (.v 2))) (.v 5)))) (.add (.mul (.v 0) (.add (.mul (.v 2) (.v 4)) (.neg (.mul (.v 3) (.v 5))))) (.neg (.mul (.v 1) (.add (.mul (.v 2) (.v 5)) (.mul (.v 3) (.v 4)))))) (by decide +kernel)) (Laws.req L [a,b,c,d,e,f] (.add (.mul (.add (.mul (.v 0) (.v 2)) (.neg (.mul (.v 1) (.v 3)))) (.v 5)) (.mul (.add (.mul (.v 0) (.v 3)) (.mul (.v 1) (.v 2))) (.v 4))) (.add (.mul (.v 0) (.add (.mul (.v 2) (.v 5)) (.mul (.v 3) (.v 4)))) (.mul (.v 1) (.add (.mul (.v 2) (.v 4)) (.neg (.mul (.v 3) (.v 5)))))) (by decide +kernel))
theorem Xez: Xav G (Xhl p) q=Xhl (Xav G p q):=by
 obtain⟨a,b⟩:=p
 obtain⟨c,d⟩:=q
 have L:=Xay K G
 exact W2y (Laws.req L [a,b,c,d] (.add (.mul (.neg (.v 0)) (.v 2)) (.neg (.mul (.neg (.v 1)) (.v 3)))) (.neg (.add (.mul (.v 0) (.v 2)) (.neg (.mul (.v 1) (.v 3))))) (by decide +kernel)) (Laws.req L [a,b,c,d] (.add (.mul (.neg (.v 0)) (.v 3)) (.mul (.neg (.v 1)) (.v 2))) (.neg (.add (.mul (.v 0) (.v 3)) (.mul (.v 1) (.v 2)))) (by decide +kernel))
theorem Yde: Xaw G (Xhl p) q=neg K (Xaw G p q):=by
 obtain⟨a,b⟩:=p
 obtain⟨c,d⟩:=q
 have L:=Xay K G
 exact(Laws.req L [a,b,c,d] (.add (.mul (.neg (.neg (.v 1))) (.v 2)) (.mul (.neg (.v 0)) (.v 3))) (.neg (.add (.mul (.neg (.v 1)) (.v 2)) (.mul (.v 0) (.v 3)))) (by decide +kernel))
theorem Xf2(G:Tw K){p:V2 K}: Xhl (Xhl p)=p:=W2y ((Xay K G).nn _) ((Xay K G).nn _)
theorem Xh9: Xav G p (Xhl q)=Xhl (Xav G p q):=by rw[Xbl,Xez,Xbl]
theorem Xxe: Xaw G p (Xhl q)=neg K (Xaw G p q):=by rw[Xe1,Yde,<-Xe1]
theorem Xh0(hG:red K G)(hp:p≠vz K): sgn K G (Xgu G p p)=1:=by
 have Sg:=Xap (Xad hG)
 have h1:=(Xdo (Sg.tri p.1)).1
 have h2:=(Xdo (Sg.tri p.2)).1
 have h3:=Sg.sa (mul K G p.1 p.1) (mul K G p.2 p.2) (by rw[Sg.sm];exact h1) (by rw[Sg.sm];exact h2)
 have h3:0<=sgn K G (Xgu G p p):=h3
 rcases Sg.tri (Xgu G p p) with h | h | h
 . exact h
 . exact absurd (vsq hG h) hp
 . omega
theorem Xku(hG:red K G)(hp:p≠vz K): vup G (Xhl p)↔¬vup G p:=by
 have Sg:=Xap (Xad hG)
 have h0:¬(sgn K G p.1=0/\sgn K G p.2=0):=λh=>hp ((Xhk hG).2 h)
 have h1:=Sg.tri p.1
 have h2:=Sg.tri p.2
 unfold vup Xhl
 simp only[Sg.sn]
 omega
theorem Xig(h:vup G p): 0<=sgn K G p.2:=by unfold vup at h;omega
theorem Xfe(hG:red K G)(h:vup G p): p≠vz K:=λe=>by
 have:=(Xhk hG).1 e
 unfold vup at h
 omega
theorem Ygv(hG:red K G)(hp:vup G p)(hq:vup G q)(hr:vup G r)(h1:0<=sgn K G (Xaw G p q))(h2:0<=sgn K G (Xaw G q r)): 0<=sgn K G (Xaw G p r):=by
 have Sg:=Xap (Xad hG)
 have L:=Xay K G
 have yp:=Xig hp
 have yr:=Xig hr
 have h:=congrArg (sgn K G) (Ygy (G:=G) (p:=p) (q:=q) (r:=r))
 have h3:=Sg.sa (mul K G r.2 (Xaw G p q)) (mul K G p.2 (Xaw G q r)) (by rw[Sg.sm];exact W6q yr h1) (by rw[Sg.sm];exact W6q yp h2)
 rw[<-h,Sg.sm] at h3
 rcases hq with hq | ⟨hq,hx⟩
 . have:sgn K G q.2=1:=by have:=Sg.tri q.2;omega
   rw[this,W3j] at h3
   exact h3
 . have hx:sgn K G q.1=1:=by have:=Sg.tri q.1;omega
   have z2:=(Xa9 hG).1 hq
   have e1:Xaw G p q=neg K (mul K G p.2 q.1):=by
    show add K (mul K G (neg K p.2) q.1) (mul K G p.1 q.2)=_
    rw[z2,L.mz,L.az,L.nm]
   rw[e1,Sg.sn,Sg.sm,hx,W4w] at h1
   have y0:sgn K G p.2=0:=by omega
   have zp:=(Xa9 hG).1 y0
   have e2:Xaw G p r=mul K G p.1 r.2:=by
    show add K (mul K G (neg K p.2) r.1) (mul K G p.1 r.2)=_
    rw[zp,L.nz,L.zm,L.za]
   rw[e2,Sg.sm]
   exact W6q (by unfold vup at hp;omega) yr
theorem Xkv(hG:red K G)(hp:vup G p)(hq:vup G q)(h:sgn K G p.2=0): vup G (Xav G p q):=by
 have Sg:=Xap (Xad hG)
 have L:=Xay K G
 have hx:sgn K G p.1=1:=by have:=Sg.tri p.1;unfold vup at hp;omega
 have z2:=(Xa9 hG).1 h
 have e1:(Xav G p q).1=mul K G p.1 q.1:=by
  show add K (mul K G p.1 q.1) (neg K (mul K G p.2 q.2))=_
  rw[z2,L.zm,L.nz,L.az]
 have e2:(Xav G p q).2=mul K G p.1 q.2:=by
  show add K (mul K G p.1 q.2) (mul K G p.2 q.1)=_
  rw[z2,L.zm,L.az]
 unfold vup
 rw[e1,e2,Sg.sm,Sg.sm,hx,W3j,W3j]
 exact hq
theorem Xyk(hG:red K G)(hx:vup G x)(hy:vup G y)(hw:vup G w)(h:0<=sgn K G (Xaw G x y))(hyw:vup G (Xav G y w)): vup G (Xav G x w):=W0s λhn=>by
 have Sg:=Xap (Xad hG)
 have L:=Xay K G
 have xw:=Xbx hG (Xfe hG hx) (Xfe hG hw)
 have hB:=(Xku hG xw).2 hn
 have w2:=Xh0 hG (Xfe hG hw)
 have key:∀s:V2 K,sgn K G (Xaw G w (Xav G s w))=sgn K G s.2:=λs=>by rw[Xbl,Xkw,Sg.sm,w2,W3j]
 have c1:0<=sgn K G (Xaw G (Xhl (Xav G x w)) w):=by
  rw[Xe1,Xxe,Sg.sn,Sg.sn,key]
  have:=Xig hx;omega
 have c2:0<=sgn K G (Xaw G (Xav G y w) (Xhl (Xav G x w))):=by
  rw[Xxe,Xe1,Sg.sn,Sg.sn,Ydg,Sg.sm,w2,W3j]
  omega
 have c3:=Ygv hG hyw hB hw c2 c1
 rw[Xe1,Sg.sn,key] at c3
 have y0:sgn K G y.2=0:=by have:=Xig hy;omega
 have z2:=(Xa9 hG).1 y0
 have e1:Xaw G x y=neg K (mul K G x.2 y.1):=by
  show add K (mul K G (neg K x.2) y.1) (mul K G x.1 y.2)=_
  rw[z2,L.mz,L.az,L.nm]
 have yx:sgn K G y.1=1:=by have:=Sg.tri y.1;unfold vup at hy;omega
 rw[e1,Sg.sn,Sg.sm,yx,W4w] at h
 have x0:sgn K G x.2=0:=by have:=Xig hx;omega
 exact hn (Xkv hG hx hw x0)
def vh(G:Tw K)(p:V2 K): Int:=if vup G p then 0 else 1
def Xbj(G:Tw K)(p:V2 K): V2 K:=if vup G p then p else Xhl p
def vhe(G:Tw K)(p q:V2 K): Int:=vh G (Xav G (Xbj G p) (Xbj G q))
theorem Xek: vh G p=0/\vup G p\/vh G p=1/\¬vup G p:=by
 unfold vh
 by_cases h:vup G p
 . rw[if_pos h];exact .inl ⟨rfl,h⟩
 . rw[if_neg h];exact .inr ⟨rfl,h⟩
theorem Xth(hG:red K G)(hp:p≠vz K): vh G (Xhl p)=1-vh G p:=by
 have h:=Xku hG hp
 unfold vh
 by_cases hu:vup G p
 . rw[if_pos hu,if_neg λe=>h.1 e hu];rfl
 . rw[if_neg hu,if_pos (h.2 hu)];rfl
theorem Xpv(hG:red K G)(hp:p≠vz K): Xbj G (Xhl p)=Xbj G p:=by
 have h:=Xku hG hp
 unfold Xbj
 by_cases hu:vup G p
 . rw[if_pos hu,if_neg λe=>h.1 e hu,Xf2 G]
 . rw[if_neg hu,if_pos (h.2 hu)]
theorem Xdz(hG:red K G)(hp:p≠vz K): vup G (Xbj G p):=by
 unfold Xbj
 by_cases hu:vup G p
 . rw[if_pos hu];exact hu
 . rw[if_neg hu];exact(Xku hG hp).2 hu
theorem Xcz: vh G p=0/\vup G p/\p=Xbj G p\/vh G p=1/\¬vup G p/\p=Xhl (Xbj G p):=by
 unfold Xbj
 rcases Xek (G:=G) (p:=p) with ⟨h1,h2⟩ | ⟨h1,h2⟩
 . rw[if_pos h2];exact .inl ⟨h1,h2,rfl⟩
 . rw[if_neg h2,Xf2 G];exact .inr ⟨h1,h2,rfl⟩
section
variable(hG:red K G)(hp:p≠vz K)(hq:q≠vz K)
include hG hp hq
theorem Ylz: Xav G (Xbj G p) (Xbj G q)≠vz K:=Xbx hG (Xfe hG (Xdz hG hp)) (Xfe hG (Xdz hG hq))
theorem Xyl: Xbj G (Xav G p q)=Xbj G (Xav G (Xbj G p) (Xbj G q)):=by
 have hn:=Ylz hG hp hq
 rcases Xcz (G:=G) (p:=p) with ⟨_,_,e1⟩ | ⟨_,_,e1⟩<;>rcases Xcz (G:=G) (p:=q) with ⟨_,_,e2⟩ | ⟨_,_,e2⟩
 . rw[<-e1,<-e2]
 . rw[show Xav G p q=Xhl (Xav G (Xbj G p) (Xbj G q)) by rw[<-Xh9,<-e1,<-e2],Xpv hG hn]
 . rw[show Xav G p q=Xhl (Xav G (Xbj G p) (Xbj G q)) by rw[<-Xez,<-e1,<-e2],Xpv hG hn]
 . rw[show Xav G p q=Xhl (Xhl (Xav G (Xbj G p) (Xbj G q))) by rw[<-Xez,<-Xh9,<-e1,<-e2],Xf2 G]
theorem Xmg: vh G (Xav G p q)=(vh G p+vh G q+vhe G p q)%2:=by
 have hn:=Ylz hG hp hq
 have ht:=Xek (G:=G) (p:=Xav G (Xbj G p) (Xbj G q))
 unfold vhe
 rcases Xcz (G:=G) (p:=p) with ⟨a1,_,e1⟩ | ⟨a1,_,e1⟩<;>rcases Xcz (G:=G) (p:=q) with ⟨a2,_,e2⟩ | ⟨a2,_,e2⟩
 . rw[a1,a2,show Xav G p q=Xav G (Xbj G p) (Xbj G q) by rw[<-e1,<-e2]];omega
 . rw[a1,a2,show Xav G p q=Xhl (Xav G (Xbj G p) (Xbj G q)) by rw[<-Xh9,<-e1,<-e2],Xth hG hn];omega
 . rw[a1,a2,show Xav G p q=Xhl (Xav G (Xbj G p) (Xbj G q)) by rw[<-Xez,<-e1,<-e2],Xth hG hn];omega
 . rw[a1,a2,show Xav G p q=Xhl (Xhl (Xav G (Xbj G p) (Xbj G q))) by rw[<-Xez,<-Xh9,<-e1,<-e2],Xf2 G];omega
omit hG hp hq in
theorem Ygz: Xpw G p q=if vh G p=vh G q then-sgn K G (Xaw G p q) else vh G p-vh G q:=by
 unfold Xpw
 rcases Xek (G:=G) (p:=p) with ⟨a1,b1⟩ | ⟨a1,b1⟩<;>rcases Xek (G:=G) (p:=q) with ⟨a2,b2⟩ | ⟨a2,b2⟩<;>rw[a1,a2]<;>simp[b1,b2]
theorem Xd1{f g:Int}: Xdb G p q f g=f+g+(vh G p+vh G q+vhe G p q)/2:=by
 have Sg:=Xap (Xad hG)
 have hm:=Xmg hG hp hq
 have hpq:=Xbx hG hp hq
 have hc:=Ygz (G:=G) (p:=Xav G p q) (q:=p)
 have ht:=Xek (G:=G) (p:=Xav G (Xbj G p) (Xbj G q))
 have e1:sgn K G (Xaw G (Xav G p q) p)=- sgn K G q.2:=by
  rw[Xe1,Sg.sn,Xkw,Sg.sm,Xh0 hG hp,W3j]
 rw[e1] at hc
 have ty:=Sg.tri q.2
 have he:vhe G p q=vh G (Xav G (Xbj G p) (Xbj G q)):=rfl
 rw[<-he] at ht
 have hf:sgn K G q.2=0->vhe G p q=0:=λh0=>by
  have hy:sgn K G (Xbj G q).2=0:=by
   rcases Xcz (G:=G) (p:=q) with ⟨_,_,e2⟩ | ⟨_,b2,_⟩
   . rw[<-e2];exact h0
   . rw[show Xbj G q=Xhl q from if_neg b2];show sgn K G (neg K q.2)=0;rw[Sg.sn,h0];rfl
  have:=Xkv hG (Xdz hG hq) (Xdz hG hp) hy
  rw[Xbl] at this
  rw[he];exact if_pos this
 have hq':(vh G q=0->0<=sgn K G q.2)/\(vh G q=1->sgn K G q.2<=0):=by
  rcases Xek (G:=G) (p:=q) with ⟨a2,b2⟩ | ⟨a2,b2⟩
  . exact⟨λ_=>Xig b2,λh=>by omega⟩
  . refine⟨λh=>by omega,λ_=>?_⟩
    unfold vup at b2;omega
 have hp':vh G p=0\/vh G p=1:=by rcases Xek (G:=G) (p:=p) with ⟨a,_⟩ | ⟨a,_⟩<;>omega
 have hq2:vh G q=0\/vh G q=1:=by rcases Xek (G:=G) (p:=q) with ⟨a,_⟩ | ⟨a,_⟩<;>omega
 unfold Xdb
 rw[hc]
 rcases hp' with a1 | a1<;>rcases hq2 with a2 | a2<;>rcases ht with ⟨a3,_⟩ | ⟨a3,_⟩<;>rw[a1,a2,a3] at hm<;>rw[a1,a2,a3,hm]<;>simp<;>omega
omit hG hp hq in
theorem Xe0: vhe G p q=vhe G q p:=by unfold vhe;rw[Xbl]
omit hG hp hq in
theorem Xjw: vhe G p q=0\/vhe G p q=1:=by
 unfold vhe
 rcases Xek (G:=G) (p:=Xav G (Xbj G p) (Xbj G q)) with ⟨a,_⟩ | ⟨a,_⟩<;>omega
end
theorem Xn8(hG:red K G)(hp:p≠vz K)(hq:q≠vz K)(hr:r≠vz K): (vhe G p q=0->vhe G (Xav G p q) r=vh G (Xav G (Xav G (Xbj G p) (Xbj G q)) (Xbj G r)))/\(vhe G p q=1->vhe G (Xav G p q) r=1-vh G (Xav G (Xav G (Xbj G p) (Xbj G q)) (Xbj G r))):=by
 have hn:=Ylz hG hp hq
 have hn3:=Xbx hG hn (Xfe hG (Xdz hG hr))
 have e:vhe G (Xav G p q) r=vh G (Xav G (Xbj G (Xav G (Xbj G p) (Xbj G q))) (Xbj G r)):=by
  show vh G (Xav G (Xbj G (Xav G p q)) (Xbj G r))=_
  rw[Xyl hG hp hq]
 rw[e]
 have he:vhe G p q=vh G (Xav G (Xbj G p) (Xbj G q)):=rfl
 rw[he]
 rcases Xcz (G:=G) (p:=Xav G (Xbj G p) (Xbj G q)) with ⟨a,_,e1⟩ | ⟨a,b,e1⟩
 . exact⟨λ_=>by rw[<-e1],λh=>by omega⟩
 . refine⟨λh=>by omega,λ_=>?_⟩
   rw[show Xbj G (Xav G (Xbj G p) (Xbj G q))=Xhl (Xav G (Xbj G p) (Xbj G q)) from if_neg b,Xez,Xth hG hn3]
theorem Xtg(hG:red K G)(hp:p≠vz K)(hq:q≠vz K)(hr:r≠vz K)(h1:vhe G p q=0)(h2:vhe G (Xav G p q) r=0): vhe G q r=0:=by
 have Sg:=Xap (Xad hG)
 have h3:=(Xn8 hG hp hq hr).1 h1
 rw[h2] at h3
 have u1:vup G (Xav G (Xbj G p) (Xbj G q)):=W0s λh=>by
  have:vhe G p q=1:=if_neg h
  omega
 have u2:vup G (Xav G (Xav G (Xbj G p) (Xbj G q)) (Xbj G r)):=W0s λh=>by
  rw[show vh G (Xav G (Xav G (Xbj G p) (Xbj G q)) (Xbj G r))=1 from if_neg h] at h3
  omega
 refine if_pos (Xyk hG (Xdz hG hq) u1 (Xdz hG hr) ?_ u2)
 rw[Xbl (p:=Xbj G p),Xkw,Sg.sm,Xh0 hG (Xfe hG (Xdz hG hq)),W3j]
 exact Xig (Xdz hG hp)
theorem Xtf(hG:red K G)(hp:p≠vz K)(hq:q≠vz K)(hr:r≠vz K): vhe G p q+vhe G (Xav G p q) r=vhe G q r+vhe G p (Xav G q r):=by
 have hpq:=Xbx hG hp hq
 have hqr:=Xbx hG hq hr
 have a1:=Xn8 hG hp hq hr
 have a2:=Xn8 hG hr hq hp
 have a3:=Xtg hG hp hq hr
 have a4:=Xtg hG hr hq hp
 have e:Xav G (Xav G (Xbj G r) (Xbj G q)) (Xbj G p)=Xav G (Xav G (Xbj G p) (Xbj G q)) (Xbj G r):=by
  rw[Xbl (p:=Xbj G r),Xbl,<-Xgx]
 rw[e,Xbl (p:=r),Xe0 (q:=p),Xe0 (p:=r)] at a2
 rw[Xbl (p:=r),Xe0 (p:=r),Xe0 (q:=p),Xe0 (p:=q) (q:=p)] at a4
 have b1:=Xjw (G:=G) (p:=p) (q:=q)
 have b2:=Xjw (G:=G) (p:=Xav G p q) (q:=r)
 have b3:=Xjw (G:=G) (p:=q) (q:=r)
 have b4:=Xjw (G:=G) (p:=p) (q:=Xav G q r)
 omega
theorem Xgz(hG:red K G)(hp:p≠vz K)(hq:q≠vz K)(hr:r≠vz K){f g h:Int}: Xdb G (Xav G p q) r (Xdb G p q f g) h=Xdb G p (Xav G q r) f (Xdb G q r g h):=by
 have hpq:=Xbx hG hp hq
 have hqr:=Xbx hG hq hr
 rw[Xd1 hG hpq hr,Xd1 hG hp hq,Xd1 hG hp hqr,Xd1 hG hq hr,Xmg hG hp hq,Xmg hG hq hr]
 have:=Xtf hG hp hq hr
 omega
theorem Xmi(hG:red K G)(hp:p≠vz K)(hq:q≠vz K){f g:Int}: Xdb G p q f g=Xdb G q p g f:=by
 rw[Xd1 hG hp hq,Xd1 hG hq hp,Xe0 (p:=p)]
 omega
theorem Xyo: Xav G p (Xbn p)=(Xgu G p p,zero K):=by
 obtain⟨a,b⟩:=p
 have L:=Xay K G
 exact W2y (Laws.req L [a,b] (.add (.mul (.v 0) (.v 0)) (.neg (.mul (.v 1) (.neg (.v 1))))) (.add (.mul (.v 0) (.v 0)) (.mul (.v 1) (.v 1))) (by decide +kernel)) (Laws.req L [a,b] (.add (.mul (.v 0) (.neg (.v 1))) (.mul (.v 1) (.v 0))) .z (by decide +kernel))
theorem Xgy(hG:red K G)(hp:p≠vz K): Xbn p≠vz K:=λh=>hp (by
 have Sg:=Xap (Xad hG)
 rw[Xhk hG] at h |-
 have h2:sgn K G (neg K p.2)=0:=h.2
 rw[Sg.sn] at h2
 exact⟨h.1,by omega⟩)
theorem Xih(hG:red K G)(hp:p≠vz K): Xbc G (Xav G p (Xbn p)):=by
 rw[Xyo]
 exact⟨(Xap (Xad hG)).s0 (Xay K G),by show 0<sgn K G (Xgu G p p);rw[Xh0 hG hp];decide⟩
theorem Xyp(hG:red K G)(hp:p≠vz K){f g:Int}: Xdb G p (Xbn p) f g=f+g+(if Xbc G p then 0 else 1):=by
 have Sg:=Xap (Xad hG)
 have L:=Xay K G
 have hc:=Xgy hG hp
 have hm:=Xbx hG hp hc
 have hfl:=Xih hG hp
 have hu:vup G (Xav G p (Xbn p)):=.inr hfl
 have h0:vh G (Xav G p (Xbn p))=0:=if_pos hu
 have h1:=Xmg hG hp hc
 rw[h0] at h1
 rw[Xd1 hG hp hc]
 have b:=Xjw (G:=G) (p:=p) (q:=Xbn p)
 have t1:=Sg.tri p.2
 have t2:=Sg.tri p.1
 have hn:¬(sgn K G p.1=0/\sgn K G p.2=0):=λh=>hp ((Xhk hG).2 h)
 have hcu:vup G (Xbn p)↔sgn K G p.2<0\/(sgn K G p.2=0/\0<sgn K G p.1):=by
  show (0<sgn K G (neg K p.2)\/(sgn K G (neg K p.2)=0/\0<sgn K G p.1))↔_
  rw[Sg.sn];omega
 have hpu:vup G p↔0<sgn K G p.2\/(sgn K G p.2=0/\0<sgn K G p.1):=W3p
 have hpf:Xbc G p↔sgn K G p.2=0/\0<sgn K G p.1:=W3p
 rcases Xek (G:=G) (p:=p) with ⟨a1,b1⟩ | ⟨a1,b1⟩<;>rcases Xek (G:=G) (p:=Xbn p) with ⟨a2,b2⟩ | ⟨a2,b2⟩
 . -- the direction of 1
   rw[hpu] at b1
   rw[hcu] at b2
   have e:Xbj G p=p:=if_pos (hpu.2 b1)
   have e2:Xbj G (Xbn p)=Xbn p:=if_pos (hcu.2 b2)
   have:vhe G p (Xbn p)=0:=by unfold vhe;rw[e,e2];exact h0
   rw[a1,a2,this,if_pos (hpf.2 (by omega))]
   rfl
 . rw[hpu] at b1
   rw[hcu] at b2
   rw[if_neg (by rw[hpf];omega)]
   omega
 . rw[hpu] at b1
   rw[hcu] at b2
   rw[if_neg (by rw[hpf];omega)]
   omega
 . rw[hpu] at b1
   rw[hcu] at b2
   rw[if_neg (by rw[hpf];omega)]
   omega
end
end
section
section
variable{K:Nat}{G:Tw K}{p q r u x y w z:V2 K}{s:El K}
end
end
end Go.Tow
namespace Go.Proofs.YtegepebhkhhhoaaGreatDoor
open Go Go.Vm Go.Num Go.Tow
section
variable{K:Nat}{G:Tw K}{S:List (Tow.El K)}{N:List Nm}{n m k:Nat}{x y z:Nm}{a b v w:Tow.El K}{u s t:Vn}{p q r:V2 K}
def Ygh{K:Nat}(p q:V2 K): V2 K:=(Tow.add K p.1 (Tow.neg K q.1),Tow.add K p.2 (Tow.neg K q.2))
def Ygx{K:Nat}(p q:V2 K): V2 K:=(Tow.add K p.1 q.1,Tow.add K p.2 q.2)
theorem Yha{K:Nat}{a b:Tow.El K}: toL K a=toL K b↔a=b:=⟨Xg1,λe=>by rw[e]⟩
theorem P9.Equal_g(W:Wn G S N)(hx:Gd G S N n x v)(hy:Gd G S N m y w)(hn:n<=190)(hm:m<=190): C0 95 [.d (dN x),.d (dN y)] (·=.b (dc (v=w))):=by
 have hG:=W.w.g
 have hR:=Xhw
 have hx':=hx.op1 hn
 have hy':=hy.op1 hm
 obtain⟨ρx,hx1,hx2⟩:=hx'.ex
 obtain⟨ρy,hy1,hy2⟩:=hy'.ex
 have hx3:=W.w.le hx1
 have hy3:=W.w.le hy1
 have hxr:=W.w.t hx1
 have hyr:=W.w.t hy1
 have hpx:=p16 (show x.k<=16 by omega)
 have hJ:jW 3799892570=8*3799892570+73803682:=rfl
 have hj:C0 137 [.d (dNs [x,y])] λv'=>∃m T a b,v'=.tup (.pr (.d (dNs [⟨m,T,a⟩,⟨m,T,b⟩])) (.d (.int .i64 0)))/\R9.JnR G S 3799892570 v w m T a b:=P9.Join_ok W.w hx' hy' (by decide)
 have fin:∀ {k:Nat} {T:Tw k} {a b:Tow.El k} {ρ:Nat->Tow.El K},TOk G S k T ρ->ev G ρ k a=v->ev G ρ k b=w->(dc (toL k a=toL k b)=true↔v=w):=λ{k T a b ρ} h1 h2 h3=>by
  rw[Xaj,Yha,<-h2,<-h3]
  exact⟨λe=>by rw[e],λe=>Xfg (Xad hG) h1.h h1.r e⟩
 refine En Tryz.func95 λ_ _ _=>?_
 refine Ce rfl (P9.begins_ok (T:=toT x.k x.t) (U:=toT y.k y.t) (TS.pt hxr) (TS.pt hyr) (by omega) (by rw[Xaa];omega)) ?_
 refine By rfl (λh1=>?_) λh1=>?_
 . refine Ce rfl (P9.begins_ok (T:=toT y.k y.t) (U:=toT x.k x.t) (TS.pt hyr) (TS.pt hxr) (by omega) (by rw[Xaa];omega)) ?_
   refine By rfl (λh2=>?_) λh2=>?_
   . refine Ce rfl (P9.sameElement_ok hx'.p.ps hy'.p.ps (by omega) (by rw[Xab];omega)) ?_
     refine R1 rfl (.bp ?_)
     have e1:(toT x.k x.t).take (toT y.k y.t).length=toT y.k y.t:=h1
     have e2:(toT y.k y.t).take (toT x.k x.t).length=toT x.k x.t:=h2
     have l1:=congrArg List.length e1
     have l2:=congrArg List.length e2
     rw[W0g,Xaa,Xaa] at l1 l2
     obtain⟨kx,tx,ax⟩:=x
     obtain⟨ky,ty,ay⟩:=y
     have l1:min ky kx=ky:=l1
     have l2:min kx ky=kx:=l2
     obtain rfl:kx=ky:=by omega
     have e3:toT kx tx=toT kx ty:=by
      have e1:(toT kx tx).take (toT kx ty).length=toT kx ty:=e1
      rwa[Xaa,W0a (by rw[Xaa];omega)] at e1
     obtain rfl:=Xk0 e3
     have hy2:ev G ρx kx ay=w:=by rw[<-hy2];exact Xbs λi hi=>Hom.uniq hG hx1.h hy1.h i hi
     exact fin hx1 hx2 hy2
   . refine Ca rfl hj λv' hv=>?_
     obtain⟨m',T,a,b,rfl,ρ,j1,j2,j3,j4,j5⟩:=hv
     have jm:=W.w.le j1
     have jp:=p16 (show m'<=16 by omega)
     refine Yes rfl (by decide) ?_
     refine Dw rfl ?_
     refine Ix 0 rfl (u:=dN ⟨m',T,a⟩) rfl ?_
     refine Ix 1 rfl (u:=dN ⟨m',T,b⟩) rfl ?_
     refine Ce rfl (P9.sameElement_ok (l:=toL m' a) (m:=toL m' b) j4.ps j5.ps (by omega) (by rw[Xab];omega)) ?_
     exact R1 rfl (.bp (fin j1 j2 j3))
 . refine Ca rfl hj λv' hv=>?_
   obtain⟨m',T,a,b,rfl,ρ,j1,j2,j3,j4,j5⟩:=hv
   have jm:=W.w.le j1
   have jp:=p16 (show m'<=16 by omega)
   refine Yes rfl (by decide) ?_
   refine Dw rfl ?_
   refine Ix 0 rfl (u:=dN ⟨m',T,a⟩) rfl ?_
   refine Ix 1 rfl (u:=dN ⟨m',T,b⟩) rfl ?_
   refine Ce rfl (P9.sameElement_ok (l:=toL m' a) (m:=toL m' b) j4.ps j5.ps (by omega) (by rw[Xab];omega)) ?_
   exact R1 rfl (.bp (fin j1 j2 j3))
end
end Go.Proofs.YtegepebhkhhhoaaGreatDoor
namespace Go.Tow
open Go.Proofs.YtegepebhkhhhoaaGreatDoor (Ygx)
section
variable{K:Nat}
def Yl6(h:Nat->El K): Nat->El K
 | 0=>zero K
 | k+1=>add K (Yl6 h k) (h k)
variable(G:Tw K)
include G
def pgn(g:Nat->V2 K)(n:Nat): El K:=Yl6 (λi=>Xaw G (g i) (g ((i+1)%n))) n
variable{G}
end
section
variable{K:Nat}{G:Tw K}{u v w p q:V2 K}
end
end Go.Tow
namespace Go.Proofs.YtegepebhkhhhoaaGreatDoor.P20
open Go Go.Vm Go.Num Go.Tow Go.Proofs.YtegepebhkhhhoaaGreatDoor
open Go.Proofs.YtegepebhkhhhoaaGreatDoor.P55 (v0 W0 g0 gv0 zw Xlv Qp)
structure Sn where
 c:Nm
 v:Vn
 f:Int
abbrev dSe(s:Sn): D:=.st (.pr (dN s.c) (dT s.v s.f))
abbrev dSs(l:List Sn): D:=.sl 7 (l.map dSe)
abbrev dAr(x:Nm)(l:List Sn): D:=.st (.pr (dN x) (dSs l))
abbrev dA0: D:=.st (.pr R9.n0 (dSs []))
abbrev zA: AV:=.st (.pr (.st (.pr .nil .nil)) .nil)
theorem Xne{g:Hp}{K:Hpl}: Fit g K (.st (.pr (.st (.pr .nil .nil)) .nil)) (.d dA0):=.sd (.pd R9.fit0 (.nil rfl))
abbrev hf2: Rat:=Rat.divInt 1 2
theorem Xrh: Qs 64 hf2:=by decide +kernel
section
variable{K:Nat}{G:Tw K}{S:List (Tow.El K)}{N:List Nm}{n m:Nat}{x y z:Nm}{a b:Tow.El K}
variable{K':Nat}{G':Tw K'}{S':List (Tow.El K')}{N':List Nm}{u s:Vn}{p q:V2 K'}{f g:Int}
theorem Xsl(W:Wn G S N)(hx:Gd G S N n x a)(hn:n<=800): C0 46 [.d (dN x)] (·=.b (dc (sgn K G a>0))):=by
 refine En Tryz.func46 λ_ _ _=>?_
 refine Ce rfl (P9.Sign_g W hx hn) ?_
 exact R0
theorem Yi0(W:Wn G S N)(hx:Gd G S N n x a)(hy:Gd G S N m y b)(hn:n<=190)(hm:m<=190): C0 94 [.d (dN x),.d (dN y)] (·=.b (dc (sgn K G (Tow.add K a (Tow.neg K b))<0))):=by
 refine En Tryz.func94 λ_ _ _=>?_
 refine Ce rfl (P9.Cmp_g W hx hy hn hm) ?_
 refine Yes rfl (by decide) ?_
 exact R0
theorem Xgt: C0 47 [.d (dN x)] (·=.d (dAr x [])):=by
 refine En Tryz.func47 λ_ _ _=>?_
 exact R1 rfl (.sd (.pd (.rf rfl) (.nil rfl)))
theorem half_g(W:Wn G S N)(hx:Gd G S N n x a)(hn:n<=190): C0 48 [.d (dN x)] (OpG G S N (n+1) (Tow.mul K G a (Tow.rat K hf2))):=by
 refine En Tryz.func48 λ_ _ _=>?_
 refine Dw rfl ?_
 refine Ce rfl (Xcm (a:=1) (b:=2) (by decide) (by decide)) ?_
 refine Ce rfl (P9.FromRat_ok (q:=hf2) Xrh (by decide)) ?_
 refine Ca rfl (P9.Mul_g W hx (Gd.rat W Xrh) (by omega) (by decide)) λv hv=>?_
 obtain⟨z,rfl,hz⟩:=hv
 exact Rt rfl (.tup (.cons (.rf rfl) Xa2)) ⟨z,rfl,hz⟩
def ScG(G:Tw K)(S:List (Tow.El K))(N:List Nm)(n:Nat)(a:Tow.El K)(G':Tw K')(p:V2 K')(u:Vn)(f:Int)(r:AV): Prop :=
 (¬sgn K G a>0/\r=.tup (.pr (.d dA0) (.d (.int .i64 1))))\/(sgn K G a>0/\(f=0/\Xbc G' p)/\r=.tup (.pr (.d (dAr n00 [])) (.d (.int .i64 0)))) \/
 (sgn K G a>0/\¬(f=0/\Xbc G' p)/\∃z,r=.tup (.pr (.d (dAr n00 [⟨z,u,f⟩])) (.d (.int .i64 0)))/\Gd G S N n z (Tow.mul K G a (Tow.rat K hf2)))
theorem Xmc(W:Wn G S N)(W':Wn G' S' N')(hx:Gd G S N n x a)(hu:Gv G' S' N' m u p)(hn:n<=190)(hm:m<=800): C0 14 [.d (dN x),.d (dT u f)] (ScG G S N (n+1) a G' p u f):=by
 refine En Tryz.func14 λ_ _ _=>?_
 refine Ce rfl (Xsl W hx (by omega)) ?_
 refine By rfl (λh=>?_) λh=>?_
 . have h:¬sgn K G a>0:=by simpa only [Xaq,Xaj] using h
   exact Rt rfl (.tup (.cons Xne Xa2)) (.inl ⟨h,rfl⟩)
 have h:sgn K G a>0:=W3a.1 (by simpa only [Xaq,Xaj] using h)
 refine Ce rfl (P9.FromInt_ok (z:=0) (by decide)) ?_
 refine Ce rfl Xgt ?_
 refine Ce rfl (P19.Zero_g W' hu hm) ?_
 refine By rfl (λh1=>?_) λh1=>?_
 . exact Rt rfl (.tup (.cons (.rf rfl) Xa2)) (.inr (.inl ⟨h,h1,rfl⟩))
 . refine Ca rfl (half_g W hx hn) λv hv=>?_
   obtain⟨z,rfl,hz⟩:=hv
   refine No rfl (by decide) ?_
   exact Rt rfl (.tup (.cons (.sd (.pd (.rf rfl) (.lit rfl))) Xa2)) (.inr (.inr ⟨h,h1,z,rfl,hz⟩))
def Yea(G:Tw K)(g:Nat->V2 K)(n:Nat)(k:Nat): Tow.El K:=Tow.add K (Tow.rat K ((0:Int):Rat)) (Yl6 (λi=>Xaw G (g i) (g ((i+1)%n))) k)
theorem Yb1(g:Nat->V2 K)(n:Nat): Yea G g n 0=Tow.rat K ((0:Int):Rat):=(Xay K G).az _
theorem Ybz(g:Nat->V2 K)(n k:Nat): Yea G g n (k+1)=Tow.add K (Yea G g n k) (Xaw G (g k) (g ((k+1)%n))):=((Xay K G).aa ..).symm
theorem Yb0(g:Nat->V2 K)(n:Nat): Yea G g n n=pgn G g n:=by
 have:Tow.rat K ((0:Int):Rat)=zero K:=Xd8 K
 unfold Yea
 rw[this,(Xay K G).za]
 rfl
theorem remN(a:Nat){m:Nat}(hm:0<m): arB .rem .i64 a m (a%m:Nat):=R9.remN hm
theorem Xjl(W:Wn G S N){l:List Vn}{g:Nat->V2 K}(hl:∀(i:Nat) v,l[i]?=some v->Gv G S N n v (g i))(h0:0<l.length)(h8:l.length<=8)(hn:1<=n/\n<=4): C0 17 [.d (dVs l)] (λr=>∃z,r=.tup (.pr (.d (dAr z [])) (.d (.int .i64 0)))/\Gd G S N 130 z (Tow.mul K G (pgn G g l.length) (Tow.rat K hf2))):=by
 have lm:(l.map dV).length=l.length:=W0j ..
 refine En Tryz.func17 λ_ _ _=>?_
 refine Ce rfl (P9.FromInt_ok (z:=0) (by decide)) ?_
 refine Lo (λ((k,z):Nat×Nm)=>[(0,.d (dVs l)),(2,.ptr 2 0),(4,.ptr 4 0),(12,.d (dVs l)),(13,.d (.int .i64 (l.map dV).length)),(14,.d (.int .i64 k))]) (λ(k,z)=>[(2,.var zA),(4,.var (.d (dN z)))]) (λ(k,z)=>k<=l.length/\Gd G S N (1+16*k) z (Yea G g l.length k)) (λ(k,_)=>l.length-k) (0,n00) [] rfl ⟨W0w _,by rw[Yb1];exact Gd.rat W (by decide +kernel)⟩ ?_
 rintro⟨k,z⟩ ⟨hk,hz⟩
 refine By rfl (λh=>?_) λh=>?_<;>simp only[lm] at h
 . obtain⟨v,hv⟩:∃v,l[k]?=some v:=⟨_,W0c (by omega)⟩
   obtain⟨w,hw⟩:∃w,l[(k+1)%l.length]?=some w:=⟨_,W0c (W1x _ h0)⟩
   refine Ix k rfl (mp hv) ?_
   first | refine Dw rfl ?_ | refine Dz rfl ?_
   refine Ar (k+1:Nat) rfl ?_
   refine Ar ((k+1)%l.length:Nat) rfl ?_ (by rw[lm];exact remN _ h0)
   refine Ix ((k+1)%l.length) rfl (mp hw) ?_
   refine Ca rfl (P13.Cross_g W (hl k v hv) (hl _ w hw) (by omega) (by omega) (by omega)) λv hv=>?_
   obtain⟨c,rfl,hc⟩:=hv
   refine Yes rfl (by decide) ?_
   refine Ca rfl (P9.Add_g W hz hc (by omega) (by omega)) λv hv=>?_
   obtain⟨z',rfl,hz'⟩:=hv
   rw[<-Ybz] at hz'
   refine No rfl (by decide) ?_
   refine Ar (k+1:Nat) rfl ?_
   exact Bk (k+1,z') [] rfl ⟨by omega,hz'.mono (by omega)⟩ (by show l.length-(k+1)<l.length-k;omega)
 . obtain rfl:k=l.length:=by omega
   rw[Yb0] at hz
   refine Ca rfl (half_g W hz (by omega)) λv hv=>?_
   obtain⟨z',rfl,hz'⟩:=hv
   refine No rfl (by decide) ?_
   refine Ce rfl Xgt ?_
   exact Rt rfl (.tup (.cons (.rf rfl) Xa2)) ⟨z',rfl,hz'.mono (by omega)⟩
end
end Go.Proofs.YtegepebhkhhhoaaGreatDoor.P20
namespace Go.Proofs.YtegepebhkhhhoaaGreatDoor
open Go Go.Vm Go.Num Go.Tow
section
section
variable{K:Nat}{G:Tw K}{S:List (Tow.El K)}{N:List Nm}{n m k:Nat}{x y z:Nm}{a b v w:Tow.El K}{u s t:Vn}{p q r:V2 K}
theorem R13.first_ok: C0 148 [.d (.int .i64 0),.d (.int .i64 0)] (·=.d (.int .i64 0)):=by
 refine En Tryz.func148 λ_ _ _=>?_
 refine No rfl (by decide) ?_
 exact R0
theorem R13.vec_ok{x y:Nm}: C0 274 [.d (dN x),.d (dN y),.d (.int .i64 0)] (·=.tup (.pr (.d (dV ⟨x,y⟩)) (.d (.int .i64 0)))):=by
 refine En Tryz.func274 λ_ _ _=>?_
 refine No rfl (by decide) ?_
 exact RTt rfl (.cons (.rf rfl) Xa2)
theorem R13.Add_g(W:Wn G S N)(hu:Gv G S N n u p)(hs:Gv G S N m s q)(hn:n<=400)(hm:m<=400): C0 205 [.d (dV u),.d (dV s)] (VoG G S N (n+m) (Ygx p q)):=by
 refine En Tryz.func205 λ_ _ _=>?_
 refine Ca rfl (R9.Add_g W hu.x hs.x hn hm) λv hv=>?_
 obtain⟨z,rfl,hz⟩:=hv
 refine Ca rfl (R9.Add_g W hu.y hs.y hn hm) λv hv=>?_
 obtain⟨w,rfl,hw⟩:=hv
 refine Dw rfl ?_
 refine Ce rfl R13.first_ok ?_
 refine Ce rfl R13.vec_ok ?_
 exact Rt rfl (.tup (.cons (.rf rfl) Xa2)) ⟨⟨z,w⟩,rfl,hz,hw⟩
theorem R13.Neg_g(W:Wn G S N)(hu:Gv G S N n u p)(hn:n<=400): C0 206 [.d (dV u)] (VeG G S N n (neg K p.1,neg K p.2)):=by
 refine En Tryz.func206 λ_ _ _=>?_
 refine Dw rfl ?_
 refine Ca rfl (R9.Neg_g W hu.x hn) λv hv=>?_
 obtain⟨z,rfl,hz⟩:=hv
 refine Ca rfl (R9.Neg_g W hu.y hn) λv hv=>?_
 obtain⟨w,rfl,hw⟩:=hv
 exact Rt rfl (.one (.rf rfl) rfl rfl) ⟨⟨z,w⟩,rfl,hz,hw⟩
theorem R13.Sub_g(W:Wn G S N)(hu:Gv G S N n u p)(hs:Gv G S N m s q)(hn:n<=400)(hm:m<=400): C0 124 [.d (dV u),.d (dV s)] (VoG G S N (n+m) (Ygh p q)):=by
 refine En Tryz.func124 λ_ _ _=>?_
 refine Dw rfl ?_
 refine Ca rfl (R13.Neg_g W hs hm) λv hv=>?_
 obtain⟨r,rfl,hr⟩:=hv
 refine Ca rfl (R13.Add_g W hu hr hn hm) λv hv=>?_
 obtain⟨z,rfl,hz⟩:=hv
 exact Rt rfl (.tup (.cons (.rf rfl) Xa2)) ⟨z,rfl,hz⟩
theorem R13.Square_g(W:Wn G S N)(hu:Gv G S N n u p)(hn:n+n<=400): C0 122 [.d (dV u)] (OpG G S N (n+n+(n+n)) (Xgu G p p)):=by
 refine En Tryz.func122 λ_ _ _=>?_
 refine Ca rfl (R13.Dot_g W hu hu (by omega) (by omega) hn) λv hv=>?_
 obtain⟨z,rfl,hz⟩:=hv
 exact Rt rfl (.tup (.cons (.rf rfl) Xa2)) ⟨z,rfl,hz⟩
theorem R15.vec_ok{u:Vn}: CN0 123 [.ptr 1000001 0,.d (dV u),.d (.int .i64 0)] [(1000001,cal)] (·=.d (dV u)):=by
 refine EnW Tryz.func123 λ_ _ _ _=>?_
 refine Cn [] rfl R15.note_ok λv hv=>?_
 refine No rfl (by decide) ?_
 exact Rw [] [(1000001,cal)] rfl (.one (.rf rfl) rfl rfl) ⟨rfl,rfl⟩
theorem R15.Minus_g(W:Wn G S N)(hu:Gv G S N n u p)(hs:Gv G S N m s q)(hn:n<=400)(hm:m<=400): CN0 68 [.ptr 1000001 0,.d (dV u),.d (dV s)] [(1000001,cal)] (VeG G S N (n+m) (Ygh p q)):=by
 refine EnW Tryz.func68 λ_ _ _ _=>?_
 refine Ca rfl (R13.Sub_g W hu hs hn hm) λv hv=>?_
 obtain⟨z,rfl,hz⟩:=hv
 refine Cn [] rfl R15.vec_ok λv hv=>?_
 subst hv
 exact Rw [] [(1000001,cal)] rfl (.one (.rf rfl) rfl rfl) ⟨rfl,z,rfl,hz⟩
theorem R15.Square_g(W:Wn G S N)(hu:Gv G S N n u p)(hn:n+n<=400): CN0 67 [.ptr 1000001 0,.d (dV u)] [(1000001,cal)] (OnG G S N (n+n+(n+n)) (Xgu G p p)):=by
 refine EnW Tryz.func67 λ_ _ _ _=>?_
 refine Ca rfl (R13.Square_g W hu hn) λv hv=>?_
 obtain⟨z,rfl,hz⟩:=hv
 refine Cn [] rfl R15.num_ok λv hv=>?_
 subst hv
 exact Rw [] [(1000001,cal)] rfl (.one (.rf rfl) rfl rfl) ⟨rfl,z,rfl,hz⟩
theorem R15.Dot_g(W:Wn G S N)(hu:Gv G S N n u p)(hs:Gv G S N m s q)(hn:n<=400)(hm:m<=400)(h2:n+m<=400): CN0 42 [.ptr 1000001 0,.d (dV u),.d (dV s)] [(1000001,cal)] (OnG G S N (n+m+(n+m)) (Xgu G p q)):=by
 refine EnW Tryz.func42 λ_ _ _ _=>?_
 refine Ca rfl (R13.Dot_g W hu hs hn hm h2) λv hv=>?_
 obtain⟨z,rfl,hz⟩:=hv
 refine Cn [] rfl R15.num_ok λv hv=>?_
 subst hv
 exact Rw [] [(1000001,cal)] rfl (.one (.rf rfl) rfl rfl) ⟨rfl,z,rfl,hz⟩
theorem R15.Far_g(W:Wn G S N)(hu:Gv G S N n u p)(hs:Gv G S N m s q)(h2:n+m+(n+m)<=400): CN0 23 [.ptr 1000001 0,.d (dV u),.d (dV s)] [(1000001,cal)] (OnG G S N (n+m+(n+m)+(n+m+(n+m))) (Xgu G (Ygh p q) (Ygh p q))):=by
 refine EnW Tryz.func23 λ_ _ _ _=>?_
 refine Cn [] rfl (R15.Minus_g W hu hs (by omega) (by omega)) λv hv=>?_
 obtain⟨r,rfl,hr⟩:=hv
 refine Cn [] rfl (R15.Square_g W hr h2) λv hv=>?_
 obtain⟨z,rfl,hz⟩:=hv
 exact Rw [] [(1000001,cal)] rfl (.one (.rf rfl) rfl rfl) ⟨rfl,z,rfl,hz⟩
end
end
section
theorem RtOf.mg2{r s:Rat×Rat}{b j:Nat}(R:RtOf r b s)(hr:r.2<=pw (2*j))(h0:0<=r.2): 0<=s.1/\s.2<=pw (j+1):=by
 have h1:=Xio (b:=b) h0
 have h2:=Xdg (mx0 r.1) b
 rw[<-R.lo] at h2
 refine⟨h2,?_⟩
 have h3:Xdy r.2 b<=pw j:=Xrd (W2p (Xa5 j)) (W5q h1 (by rw[<-Yby];exact hr))
 have h4:=R.h
 have h5:=Xkz b
 have h6:=Xho j
 rw[Xc4]
 grind
def mE(m:Nat): Nat->Nat->Nat
 | 0,M=>M
 | k+1,M=>mE m k M+(mE m k m+1)/2+2
def eE(m b:Nat): Nat->Nat->Nat
 | 0,_=>2*b-2
 | k+1,M=>min (eE m b k M) (eE m b k m/2)-(max (mE m k M) ((mE m k m+1)/2)+3)
theorem Yj1(m b:Nat): ∀k M,eE m b k M<=2*b-2
 | 0,_=>W0b _
 | k+1,M=>by have:=Yj1 m b k M;show min (eE m b k M) (eE m b k m/2)-(max (mE m k M) ((mE m k m+1)/2)+3)<=_;omega
theorem Ykh{k:Nat}{t:Tw (k+1)}{m b:Nat}(h:Xb9 (k+1) t)(hr:Mg (bx k t.1 t.2 b) (mE m k m)): 0<=(rtb (bx k t.1 t.2 b) b).1/\(rtb (bx k t.1 t.2 b) b).2<=pw ((mE m k m+1)/2+1) :=
 (Xql _ b).mg2 (W5q hr.2 (Xiv (by omega))) (Xmq h (Xph h.1 t.2 b))
theorem Xnu: ∀ {k:Nat} {t:Tw k} {a:El k} {m M:Nat} (b:Nat),Xb9 k t->MgT m k t->MgL M (toL k a)->Mg (bx k t a b) (mE m k M)
 | 0,t,a,m,M,b,h,hT,ha=>Yiv (ha _ (W0i.2 rfl))
 | k+1,t,a,m,M,b,h,hT,ha=>by
  have hu:=Xnu (a:=a.1) (M:=M) b h.1 hT.1 λx hx=>ha x (W2x _ hx)
  have hv:=Xnu (a:=a.2) (M:=M) b h.1 hT.1 λx hx=>ha x (W1u _ hx)
  have hr:=Xnu (M:=m) b h.1 hT.1 hT.2
  have h0:=Xmq h (Xph h.1 t.2 b)
  rw[Xpg]
  exact Xp6 hu hv (Ykh h hr) (Yhv h0 (Yki h.1 _ _)) (Yki h.1 _ _)
theorem Xht: ∀ {k:Nat} {t:Tw k} {a:El k} {m M b:Nat},Xb9 k t->MgT m k t->MgL M (toL k a)->0<eE m b k M->Wid (bx k t a b) (eE m b k M)
 | 0,t,a,m,M,b,h,hT,ha,he=>⟨W6u,(λ(x:Rat)=>(by grind:(x-x)*pw (eE m b 0 M)<=1)) a⟩
 | k+1,t,a,m,M,b,h,hT,ha,he=>by
  have he':0<min (eE m b k M) (eE m b k m/2)-(max (mE m k M) ((mE m k m+1)/2)+3):=he
  have hle:=Yj1 m b k m
  have hu:=Xht (a:=a.1) (m:=m) (M:=M) (b:=b) h.1 hT.1 (λx hx=>ha x (W2x _ hx)) (by omega)
  have hv:=Xht (a:=a.2) (m:=m) (M:=M) (b:=b) h.1 hT.1 (λx hx=>ha x (W1u _ hx)) (by omega)
  have hr:=Xht (m:=m) (M:=m) (b:=b) h.1 hT.1 hT.2 (by omega)
  have mv:=Xnu (a:=a.2) (M:=M) b h.1 hT.1 λx hx=>ha x (W1u _ hx)
  have mr:=Xnu (M:=m) b h.1 hT.1 hT.2
  have ms:=Ykh h mr
  have h0:=Xmq h (Xph h.1 t.2 b)
  rw[Xpg]
  exact Xp5 (m:=max (mE m k M) ((mE m k m+1)/2)) (hu.mono (by omega)) (hv.mono (by omega)) hr (by omega) (mv.mono (by omega)) ⟨ms.1,W5q ms.2 (Xiv (by omega))⟩ h0 (Xql _ b) (by omega) (by omega) (by omega)
theorem Yfv{k:Nat}{t:Tw k}{a:El k}(h:Xb9 k t)(hT:MgT 64 k t)(ha:MgL 300 (toL k a))(hk:k<=3): Wid (bx k t a 2048) 1:=by
 have hk:k=0\/k=1\/k=2\/k=3:=by omega
 rcases hk with rfl | rfl | rfl | rfl
 . exact(Xht h hT ha (show 0<eE 64 2048 0 300 by decide)).mono (by decide)
 . exact(Xht h hT ha (show 0<eE 64 2048 1 300 by decide)).mono (by decide)
 . exact(Xht h hT ha (show 0<eE 64 2048 2 300 by decide)).mono (by decide)
 . exact(Xht h hT ha (show 0<eE 64 2048 3 300 by decide)).mono (by decide)
theorem Xjh{k:Nat}{t:Tw k}{a:El k}{m:Nat}(h:Xb9 k t)(hT:MgT m k t)(ha:MgL m (toL k a))(hk:k<=3)(hm:m<=10000): ∀b,1000000<=b->Wid (enc k t a b) 1:=λb hb=>by
 have key:∀e,(0<e->Wid (enc k t a b) e)->1<=e->Wid (enc k t a b) 1:=λe h1 h2=>(h1 (by omega)).mono h2
 refine key _ (λhe=>Xro h hT ha he) ?_
 have hk:k=0\/k=1\/k=2\/k=3:=by omega
 rcases hk with rfl | rfl | rfl | rfl<;>simp only[eW,mW]<;>omega
end
section
theorem Zs.pow{q:Nat}{z:Int}(h:Zs q z)(n:Nat): Zs (q*n+1) (z^n):=by
 unfold Zs at *
 rw[Int.natAbs_pow]
 have h1:z.natAbs^n<=(2^q)^n:=Nat.pow_le_pow_left (W2h h) n
 rw[<-W5w] at h1
 rw[W0z]
 have:=W0p (q*n)
 omega
theorem Zs.len2{q:Nat}{z:Int}(h:Zs q z)(hq:q<=8000000000000): (dig z.natAbs).length<=274877906944:=by
 have h1:z.natAbs<4294967296^(q/32+1):=by
  rw[show 4294967296=2^32 from rfl,<-W5w]
  exact W0v h (W0l (by decide) (by omega))
 have:=Xat h1
 omega
theorem Xzx{a:Int}(ha:(dig a.natAbs).length<=549755813888): C0 301 [.d (dz a),.d (dz 1)] (·=.d (dz (a-1))):=by
 have h1:(dig (Int.natAbs (-1))).length<=549755813888:=W0k (Xat (n:=1) (k:=1) (by decide)) (by decide)
 have h:=Add_ok (a:=a) (b:=-1) ha h1
 have hc:C0 112 [.d (dz a),.d (.st (.pr (.bool (!decide ((1:Int)<0))) (ws (dig (Int.natAbs 1)))))] (·=.d (dz (a-1))):=h
 refine En Tryz.func301 λ_ _ _=>?_
 refine Ce rfl hc ?_
 exact R1 rfl (.rf rfl)
theorem Xuy{x:Rat}{p:Nat}(hx:Qs p x)(hp:p<=4398046511104): C0 300 [.d (dq x)] (·=.d (dz x.floor)):=by
 have h:=DivMod_ok (a:=x.num) (b:=x.den) (W0k (hx.n.len (by omega)) (by decide)) (W0k (hx.d.len (by omega)) (by decide)) (Xb7 x)
 have e:x.num.fdiv x.den=x.floor:=by
  have:=Xic x 0
  rw[show pw 0=1 from rfl,Rat.mul_one,Int.pow_zero,W4w] at this
  exact this
 rw[e] at h
 refine En Tryz.func300 λ_ _ _=>?_
 refine Ce rfl h ?_
 exact R1 rfl (.rf rfl)
theorem Ye4{n:Nat}{z:Int}{q:Nat}(hz:Zs q z)(hn:n<=4096)(hq:q<=100000): C0 299 [.d (dz z),.d (.int .i64 n)] (·=.tup (.pr (.d (dz (z^n))) (.d (.int .i64 0)))):=by
 refine En Tryz.func299 λ_ _ _=>?_
 refine No rfl (by omega) ?_
 refine No rfl (by omega) ?_
 refine Dw rfl ?_
 refine Ce rfl (FromInt_ok (z:=1) (by decide)) ?_
 refine Ce rfl (Norm_ok (W0k (hz.len (by omega)) (by decide))) ?_
 refine Lo (λ((m,o,e):Nat×Nat×Nat)=>[(1,.d (.int .i64 m)),(4,.ptr 4 0),(5,.d (.int .i64 0)),(6,.ptr 6 0),(7,.ptr 7 0)]) (λ(m,o,e)=>[(4,.var (.st (.pr (.b false) .nil))),(6,.var (.d (dz (z^o)))),(7,.var (.d (dz (z^e))))]) (λ(m,o,e)=>o+e*m=n/\e<=max n 1/\m<=n) (λ(m,_,_)=>m) (n,0,1) [] rfl ⟨by omega,by omega,W0b n⟩ ?_ (by exact⟨rfl,by show Xs6 _ [(4,Ob.var (AV.st (.pr (.b false) .nil))),(6,Ob.var (AV.d (dz (z^0)))),(7,Ob.var (AV.d (dz (z^1))))];rw[Int.pow_zero,show z^1=z by rw[Int.pow_succ,Int.pow_zero,W3j]];rfl,rfl,rfl,rfl⟩)
 rintro⟨m,o,e⟩ ⟨hm,he,hmn⟩
 have hsz:∀j,j<=4096->(dig (z^j).natAbs).length<=549755813888:=λj hj=>by
  have:=Zs.pow hz j
  have hqj:q*j<=100000*4096:=W2c hq hj
  exact W0k (this.len (by omega)) (by decide)
 have ho:o<=4096:=by have:=W0w (e*m);omega
 have he4:e<=4096:=by omega
 refine By rfl (λh=>?_) λh=>?_
 . have h:(m:Int)>0:=h
   have hdm:=W2n m 2
   have hem:e*m=2*(e*(m/2))+e*(m%2):=by
    conv=>lhs;rw[<-hdm,W1b]
    rw[W4u]
   have hq2:arB .quo .i64 (m:Int) 2 ((m/2:Nat):Int):=Yj3 (m:=2) rfl (by decide) (by omega)
   have sqr:∀e:Nat,z^e*z^e=z^(e+e):=λe=>(Int.pow_add ..).symm
   refine Ar (m%2:Nat) rfl ?_ (show _/\_ from⟨by decide,Xr8 m 2⟩)
   refine By rfl (λh1=>?_) λh1=>?_
   . have h1:m%2=1:=by omega
     rw[h1,W4c] at hem
     refine Ce rfl (Mul_ok (hsz o ho) (hsz e he4)) ?_
     rw[<-Int.pow_add]
     refine Ar (m/2:Nat) rfl ?_ hq2
     refine By rfl (λh2=>?_) λh2=>?_
     . have he2:e*1<=e*(m/2):=W0t e (by omega)
       refine Ce rfl (Mul_ok (hsz e he4) (hsz e he4)) ?_
       rw[sqr]
       exact Bk (m/2,o+e,e+e) [] rfl ⟨by rw[W1h];omega,by omega,by omega⟩ (by show m/2<m;omega)
     . have h20:m/2=0:=by omega
       rw[h20] at hem
       exact Bk (m/2,o+e,e) [] rfl ⟨by rw[h20];omega,he,by omega⟩ (by show m/2<m;omega)
   . have h1:m%2=0:=by omega
     rw[h1,W3e] at hem
     refine Ar (m/2:Nat) rfl ?_ hq2
     have he2:e*1<=e*(m/2):=W0t e (by omega)
     refine Yes rfl (by omega) ?_
     refine Ce rfl (Mul_ok (hsz e he4) (hsz e he4)) ?_
     rw[sqr]
     exact Bk (m/2,o,e+e) [] rfl ⟨by rw[W1h];omega,by omega,by omega⟩ (by show m/2<m;omega)
 . have h:¬(m:Int)>0:=h
   have hm0:m=0:=by omega
   rw[hm0,W3e,W2j] at hm
   rw[hm]
   exact RTt rfl (.cons (.rf rfl) Xa2)
theorem Xui{k:Nat}{t:Tw k}{a:Tow.El k}{P s:Nat}(hR:Xb9 k t)(hw:∀b,P<=b->Wid (enc k t a b) 1)(hT:TS s k t)(ha:Sz s (toL k a))(hs1:1<=s)(hk:k<=16)(hP:P<=1000000000)(he:eB s (2*(P+1+16)) k<=274877906944)(hv:vB s k (s+eB s (2*(P+1+16)) k+4)<=4398046511104):
 C0 249 [.d (dt t),.d (de a)] λv=>∃z,v=.d (dz z)/\Xdm k t a z/\(dig z.natAbs).length<=274877906944:=by
 have hsB:=W0k (Xd2 (r:=s) k _) hv
 obtain⟨B,hB⟩:∃B,B=eB s (2*(P+1+16)) k:=⟨_,rfl⟩
 have hvs:vB s k s<=4398046511104:=W0k (Xcv (by omega)) hv
 have hE:=Xhj (bits:=1) hR hw hT ha hs1 hk hvs (by decide) hP he
 rw[<-hB] at he hv hsB hE
 have hB1:1<=B:=by rw[hB];exact W0k hs1 (Yae ..)
 refine En Tryz.func249 λ_ _ _=>?_
 refine Ce rfl (Xhd (l:=[toL k a]) (s:=s) hT hR hk hvs (by omega) (λx hx=>⟨a,W0i.1 hx,ha⟩) (by simp) (by omega)) ?_
 refine No rfl (by simp) ?_
 refine Ca rfl hE λv hv'=>?_
 obtain⟨p,rfl,hin,hwd,hq⟩:=hv'
 have hz:=Zs.floor hq.2
 have hfl:=Xz3 hR hin hwd
 have hl0:=Zs.len2 (z:=p.2.floor) hz (by omega)
 have hl1:=Zs.len2 (z:=p.2.floor-1) (q:=B+1) (by unfold Zs at *;rw[W0z];omega) (by omega)
 have hmk:=Make_ok (p:=B) (a:=p.2.floor) (b:=1) hz (Zs.one (by omega)) (by omega) (by decide)
 rw[Xw5] at hmk
 have qz:Qs B ((p.2.floor:Int):Rat):=Qs.int hz (by omega)
 have hzr:=Sz.rat k qz
 refine Ce rfl (Xuy hq.2 (by omega)) ?_
 refine Dw rfl ?_
 refine Ce rfl (FromInt_ok (z:=1) (by decide)) ?_
 refine Ce rfl hmk ?_
 refine Ce rfl (Xc2 hT hk (by omega) qz (by omega)) ?_
 refine Ce rfl (Xk3 hT ha hzr hk (by omega) (by omega)) ?_
 refine Ce rfl (Xkx (s:=s+B+4) hT (by rw[Xax,Xcb];exact(ha.add hzr.neg).mono (by omega)) hk hv (by omega)) ?_
 refine By rfl (λh=>?_) λh=>?_
 . refine Dw rfl ?_
   refine Ce rfl (FromInt_ok (z:=1) (by decide)) ?_
   refine Ce rfl (Xzx (W0k (hz.len (by omega)) (by decide))) ?_
   exact Rt rfl (.one (.rf rfl) rfl rfl) ⟨_,rfl,hfl.1 h,hl1⟩
 . exact Rt rfl (.one (.rf rfl) rfl rfl) ⟨_,rfl,hfl.2 h,hl0⟩
end
end Go.Proofs.YtegepebhkhhhoaaGreatDoor
namespace Go.Proofs.YtegepebhkhhhoaaGreatDoor.P9
open Go Go.Vm Go.Num Go.Tow Go.Proofs.YtegepebhkhhhoaaGreatDoor
abbrev nq(q:Rat): Nm:=⟨0,(),q⟩
theorem Yiz{k:Nat}{q:Rat}: Lf (k:=0) (m:=k) q (rat k q):=by
 show toL k (rat k q)=[q]++_
 rw[Xcw];rfl
section
variable{r p s:Nat}{x:Nm}{q:Rat}
theorem Yak(hr:TS r x.k x.t)(hk:x.k<=8)(hr2:r<=4000000000): C0 219 [.d (dNs [x,nq q])] (·=.tup (.pr (.d (dt x.t)) (.d (.int .i64 0)))):=by
 refine En Tryz.func219 λ_ _ _=>?_
 refine Nd 4 1 rfl ?_
 refine Lo (λ(s:Nat×(Σ m,Tw m))=>[(2,.nil),(3,.d (.int .i64 0)),(4,.d (dt s.2.2)),(9,.d (dNs [x,nq q])),(10,.d (.int .i64 2)),(11,.d (.int .i64 s.1))]) (λ_=>[]) (λs=>(s.1=0/\s.2=⟨0,()⟩)\/(s.1=1/\s.2=⟨x.k,x.t⟩)\/(s.1=2/\s.2=⟨x.k,x.t⟩)) (λs=>2-s.1) (0,⟨0,()⟩) [] rfl (.inl ⟨rfl,rfl⟩) (λ(i,⟨m,T⟩) hI=>?_)
 simp only at hI
 rcases hI with ⟨rfl,e⟩ | ⟨rfl,e⟩ | ⟨rfl,e⟩
 . cases e
   refine Yes rfl (show ((0:Nat):Int)<2 by decide) ?_
   refine Ix 0 rfl (u:=dN x) rfl ?_
   refine Ce rfl (begins_ok (T:=[]) (U:=toT x.k x.t) (p:=1) (λi r h=>by simp at h) (TS.pt hr) (by omega) (by decide)) ?_
   refine By rfl (λh=>?_) λh=>?_
   . obtain⟨kx,tx,ax⟩:=x
     have h:[]=toT kx tx:=by simpa using h
     obtain rfl:kx=0:=by have:=congrArg List.length h;rw[Xaa] at this;exact this.symm
     refine Ar (0+1:Nat) rfl ?_
     exact Bk (1,⟨0,tx⟩) [] rfl (.inr (.inl ⟨rfl,rfl⟩)) (show 1<2 by decide)
   . refine Ce rfl (begins_ok (U:=[]) (q:=1) (TS.pt hr) (λi r h=>by simp at h) (by omega) (by rw[Xaa];omega)) ?_
     refine Yes rfl (by simp) ?_
     refine Ar (0+1:Nat) rfl ?_
     exact Bk (1,⟨x.k,x.t⟩) [] rfl (.inr (.inl ⟨rfl,rfl⟩)) (show 1<2 by decide)
 . cases e
   refine Yes rfl (show ((1:Nat):Int)<2 by decide) ?_
   refine Ix 1 rfl (u:=dN (nq q)) rfl ?_
   refine Ce rfl (begins_ok (T:=toT x.k x.t) (U:=[]) (q:=1) (TS.pt hr) (λi r h=>by simp at h) (by omega) (by rw[Xaa];omega)) ?_
   refine Yes rfl (by simp) ?_
   refine Ar (1+1:Nat) rfl ?_
   exact Bk (2,⟨x.k,x.t⟩) [] rfl (.inr (.inr ⟨rfl,rfl⟩)) (show 0<1 by decide)
 . cases e
   refine No rfl (show ¬((2:Nat):Int)<2 by decide) ?_
   exact R0t
theorem Yk2(hr:TS r x.k x.t)(hp:Sz p (toL x.k x.a))(hq:Qs s q)(hk:x.k<=8)(hr2:r<=4000000000)(hp2:p<=4000000000)(hs2:s<4000000000): C0 137 [.d (dNs [x,nq q])] (·=.tup (.pr (.d (dNs [x,⟨x.k,x.t,rat x.k q⟩])) (.d (.int .i64 0)))):=by
 have hc:=Yak (q:=q) hr hk hr2
 refine En Tryz.func137 λ_ _ _=>?_
 refine Ce rfl hc ?_
 refine No rfl (by decide) ?_
 refine Nl 6 6 2 rfl ?_
 refine Lo (λ(j:Nat)=>[(2,.nil),(3,.d (.int .i64 0)),(4,.d (dt x.t)),(6,.gr 6 2 (([x,⟨x.k,x.t,rat x.k q⟩].take j).map dN)),(20,.d (dNs [x,nq q])),(21,.d (.int .i64 2)),(22,.d (.int .i64 j))]) (λj=>[(6,.tok (([x,⟨x.k,x.t,rat x.k q⟩].take j).map dN).length 2)])
  (λj=>j<=2) (λj=>2-j) 0 [] rfl (W0w _) (λj hj=>?_)
 have hj:j=0\/j=1\/j=2:=by omega
 rcases hj with rfl | rfl | rfl
 . refine Yes rfl (show ((0:Nat):Int)<2 by decide) ?_
   refine Ix 0 rfl (u:=dN x) rfl ?_
   refine Ce rfl (begins_ok (T:=toT x.k x.t) (U:=toT x.k x.t) (TS.pt hr) (TS.pt hr) (by omega) (by rw[Xaa];omega)) ?_
   refine Yes rfl (W2i ..) ?_
   refine Ce rfl (Xqx (T:=x.t) (Lf.rfl' x.a) (W0b _) (by omega)) ?_
   refine Ce rfl (Xdx (x:=x) hr hp (by omega) (by omega) (by omega)) ?_
   refine ApG ([x].map dN) rfl (by simp) (by simp) ?_
   refine Ar (0+1:Nat) rfl ?_
   exact Bk 1 [(6,90),(56,6)] rfl (show 1<=2 by decide) (show 2-1<2-0 by decide)
 . refine Yes rfl (show ((1:Nat):Int)<2 by decide) ?_
   refine Ix 1 rfl (u:=dN (nq q)) rfl ?_
   refine Ce rfl (begins_ok (T:=toT x.k x.t) (U:=[]) (q:=1) (TS.pt hr) (λi r h=>by simp at h) (by omega) (by rw[Xaa];omega)) ?_
   refine Yes rfl (by simp) ?_
   refine Ce rfl (Xqx (k:=0) (T:=x.t) (Yiz (q:=q)) (W0w _) (by omega)) ?_
   refine Ce rfl (Xdx (x:=⟨x.k,x.t,rat x.k q⟩) hr (Sz.rat x.k hq) (show _<=16 by show x.k<=16;omega) (by omega) (by omega)) ?_
   refine ApG ([x,⟨x.k,x.t,rat x.k q⟩].map dN) rfl (by simp) (by simp) ?_
   refine Ar (1+1:Nat) rfl ?_
   exact Bk 2 [(6,90),(56,6)] rfl (show 2<=2 by decide) (show 2-2<2-1 by decide)
 . refine No rfl (show ¬((2:Nat):Int)<2 by decide) ?_
   exact RTt rfl (.cons (.gr rfl) Xa2)
theorem Xnm{f:FuncId}{z:Tow.El x.k}(hf:C0 f [.d (dt x.t),.d (de x.a),.d (de (rat x.k q))] (·=.d (de z)))(hr:TS r x.k x.t)(hp:Sz p (toL x.k x.a))(hq:Qs s q)(hk:x.k<=8)(hr2:r<=4000000000)(hp2:p<=4000000000)(hs2:s<4000000000): C0 79 [.d (dN x),.d (dN (nq q)),.d (fnD f)] (·=.tup (.pr (.d (dN ⟨x.k,x.t,z⟩)) (.d (.int .i64 0)))):=by
 refine En Tryz.func79 λ_ _ _=>?_
 refine Ce rfl (Yk2 hr hp hq hk hr2 hp2 hs2) ?_
 refine No rfl (by simp) ?_
 refine Ix 0 rfl (u:=dN x) rfl ?_
 refine Dw rfl ?_
 refine Ix 0 rfl (u:=dN x) rfl ?_
 refine Ix 1 rfl (u:=dN ⟨x.k,x.t,rat x.k q⟩) rfl ?_
 refine Ce rfl hf ?_
 exact RTt rfl (.cons (.rf rfl) Xa2)
theorem Ynz(hr:TS r x.k x.t)(hp:Sz p (toL x.k x.a))(hq:Qs s q)(hk:x.k<=8)(hr2:r<=4000000000)(hp2:p<=2000000000)(hs2:s<2000000000): C0 50 [.d (dN x),.d (dN (nq q))] (·=.tup (.pr (.d (dN ⟨x.k,x.t,Tow.add x.k x.a (rat x.k q)⟩)) (.d (.int .i64 0)))):=by
 refine En Tryz.func50 λ_ _ _=>?_
 refine Ce rfl (Xnm (Xin hr hp (Sz.rat x.k hq) (by omega) (by omega) (by omega)) hr hp hq hk hr2 (by omega) (by omega)) ?_
 exact R0t
theorem Ynv(hr:TS r x.k x.t)(hp:Sz p (toL x.k x.a))(hq:Qs s q)(hk:x.k<=8)(hr2:r<=4000000000)(hp2:p<=2000000000)(hs2:s<2000000000)(hc:cB r x.k<=1000000000): C0 33 [.d (dN x),.d (dN (nq q))] (·=.tup (.pr (.d (dN ⟨x.k,x.t,Tow.mul x.k x.t x.a (rat x.k q)⟩)) (.d (.int .i64 0)))):=by
 refine En Tryz.func33 λ_ _ _=>?_
 refine Ce rfl (Xnm (Xd5 hr hp (Sz.rat x.k hq) (by omega) (by omega) (by omega)) hr hp hq hk hr2 (by omega) (by omega)) ?_
 exact R0t
end
end Go.Proofs.YtegepebhkhhhoaaGreatDoor.P9
namespace Go.Num
section
def dec(n:Nat): List UInt8:=if h:n<10 then [UInt8.ofNat (48+n)] else dec (n/10)++[UInt8.ofNat (48+n%10)]
termination_by n
decreasing_by omega
theorem Xeh{n:Nat}(h:n<10): dec n=[UInt8.ofNat (48+n)]:=by rw[dec,dif_pos h]
theorem Xgp{n:Nat}(h:10<=n): dec n=dec (n/10)++[UInt8.ofNat (48+n%10)]:=by rw[dec,dif_neg (by omega)]
theorem Xxb(n:Nat): dec n≠[]:=by
 rw[dec];split<;>simp
theorem Xw9(n:Nat): 0<(dec n).length:=W6w.2 (Xxb n)
theorem Xfu: ∀(k n:Nat),n<10^(k+1)->(dec n).length<=k+1
 | 0,n,h=>by rw[Xeh (by simpa using h)];simp
 | k+1,n,h=>by
  by_cases h1:n<10
  . rw[Xeh h1];simp
  . rw[Xgp (by omega),W0d]
    have:=Xfu k (n/10) (W4r (by rw[W0z] at h;omega))
    simp;omega
theorem Xfb: ∀(k n:Nat),10^k<=n->k+1<=(dec n).length
 | 0,n,h=>Xw9 n
 | k+1,n,h=>by
  rw[W0z] at h
  have:0<10^k:=Nat.pow_pos (by decide)
  rw[Xgp (by omega),W0d]
  have:=Xfb k (n/10) (by omega)
  simp;omega
theorem Yj4(n:Nat): n<10^(dec n).length:=by
 induction n using Nat.strongRecOn with
 | ind n ih =>
  by_cases h:n<10
  . rw[Xeh h];simpa using h
  . rw[Xgp (by omega),W0d]
    have:=ih (n/10) (by omega)
    simp only[W6p]
    rw[W0z];omega
def tx(z:Int): List UInt8:=(if z<0 then [45] else [])++dec z.natAbs
theorem Xzh(l:Nat): 4294967296^l<=10^(10*l):=by
 rw[W5w];exact Nat.pow_le_pow_left (by decide) l
theorem Xpd(n:Nat): (dec n).length<=10*(dig n).length+1:=by
 refine Xfu _ n (W0v (W0v (by have:=Xb2 (Xae n);rwa[Xag] at this) (Xzh _)) (W0l (by decide) (by omega)))
theorem dg{d:Nat}(h:d<10): (UInt8.ofNat (48+d)).toNat=48+d:=by
 rw[UInt8.toNat_ofNat'];exact W3z (by omega)
def Xvz(b:UInt8): Prop:=48<=b.toNat/\b.toNat<=57
theorem Yj5(n:Nat): ∀b∈dec n,Xvz b:=by
 induction n using Nat.strongRecOn with
 | ind n ih =>
  intro b hb
  by_cases h:n<10
  . rw[Xeh h,W0i] at hb;subst hb;exact⟨by rw[dg h];omega,by rw[dg h];omega⟩
  . rw[Xgp (by omega),W1v,W0i] at hb
    rcases hb with hb | hb
    . exact ih _ (by omega) b hb
    . subst hb;have:=W1x n (show 0<10 by decide);exact⟨by rw[dg this];omega,by rw[dg this];omega⟩
def pad(k:Nat)(d:List UInt8): List UInt8:=List.replicate (k+1-d.length) 48++d
theorem Yed(k:Nat)(d:List UInt8): (pad k d).length=max (k+1) d.length:=by simp[pad];omega
def pt(k:Nat)(p:List UInt8): List UInt8:=if k=0 then p else p.take (p.length-k)++46::p.drop (p.length-k)
def txt(z:Int)(k:Nat): List UInt8:=(if z<0 then [45] else [])++pt k (pad k (dec z.natAbs))
def Xyd(l:List UInt8): Nat:=l.foldl (λa b=>10*a+(b.toNat-48)) 0
theorem Xni(l:List UInt8)(b:UInt8): Xyd (l++[b])=10*Xyd l+(b.toNat-48):=by simp[Xyd]
theorem Xy0{p:List UInt8->Prop}(h0:p [])(hs:∀l b,p l->p (l++[b]))(l:List UInt8): p l:=by
 rw[<-List.reverse_reverse l]
 induction l.reverse with
 | nil=>exact h0
 | cons b l ih=>rw[List.reverse_cons];exact hs _ _ ih
theorem Yfk{l:List UInt8}(h:∀b∈l,Xvz b): Xyd l<10^l.length:=by
 induction l using Xy0 with
 | h0=>decide
 | hs l b ih =>
  have h1:=ih λx hx=>h x (W2x _ hx)
  have h2:=h b (W1u _ (W0i.2 rfl))
  unfold Xvz at h2
  rw[Xni,W0d,W6p,W0z]
  omega
theorem Yaf(b:UInt8): Xyd [b]=b.toNat-48:=by simp[Xyd]
end
section
def isD(b:UInt8): Bool:=decide (48<=b.toNat)&&decide (b.toNat<=57)
theorem Ymz{b:UInt8}: isD b=true↔Xvz b:=by simp[isD,Xvz]
def z0(l:List UInt8): Bool:=l.all (·==48)
def fr(ng:Bool)(a b:List UInt8): Rat:=if ng then -(((Xyd (a++b):Int):Rat)/((10^b.length:Int):Rat)) else ((Xyd (a++b):Int):Rat)/((10^b.length:Int):Rat)
end
end Go.Num
namespace Go.Vm
open Go
section
section
variable{c:Cx}{s:St}{p:Pl}
noncomputable def Yof(tb:Nat->Option TI)(n:Nat)(s:St): Option (Pl×List UInt8×List UInt8):=match nxA tb n s with
 | some (p,o,[.d (.str a),.d (.str b)])=>match o.op with
  | .binOp op _ _ _ _=>match op with
   | .add=>some (p,a,b)
   | _=>none
  | _=>none
 | _=>none
theorem Sc{a b:List UInt8}(t:List UInt8)(h:Yof c.tb c.n s=some (p,a,b))(ht:a++b=t)(hl:a.length+b.length<9223372036854775808)(kk:p.nx c (.d (.str t))): StP c s:=by
 subst ht
 unfold Yof at h
 split at h<;>try cases h
 rename_i hA
 split at h<;>try cases h
 rename_i ho
 split at h<;>cases h
 refine Xbw (us:=[]) hA ?_ (Pl.nx_nil kk)
 rw[ho]
 simp only[F,Fp,Ya4,if_pos hl]
noncomputable def Yii(tb:Nat->Option TI)(n:Nat)(s:St): Option (Pl×List UInt8×Option Int×Option Int):=match nxA tb n s with
 | some (p,o,asx)=>match o.op with
  | .slice T _ lo hi mx=>match tb T with
   | some ti=>match ti.z,Xj0 lo hi mx asx with
    | .str _,some (.d (.str s),l,h,none)=>some (p,s,l,h)
    | _,_=>none
   | none=>none
  | _=>none
 | none=>none
theorem Xov{t:List UInt8}{r:AV}{l h':Option Int}(h:Yii c.tb c.n s=some (p,t,l,h'))(hr:slS t l h'=some r)(k:p.nx c r): StP c s:=by
 unfold Yii at h
 split at h<;>try cases h
 rename_i hA
 split at h<;>try cases h
 rename_i ho
 split at h<;>try cases h
 rename_i ti ht
 split at h<;>cases h
 rename_i hz hs
 refine Xbw (us:=[]) hA ?_ (Pl.nx_nil k)
 rw[ho]
 simp only[F,Fp,ht,hz,hs,hr]
theorem Stk(j:Nat)(zs:List UInt8){i:Int}{xs:List UInt8}(h:Yii c.tb c.n s=some (p,xs,none,some i))(hl:j<=xs.length)(hz:xs.take j=zs)(k:p.nx c (.d (.str zs)))(hj:i=j:=by first | exact rfl | omega): StP c s:=by
 subst hj;subst hz
 refine Xov h ?_ k
 rw[slS,if_pos ⟨by omega,by omega⟩];simp
theorem Sdp(j:Nat)(zs:List UInt8){i:Int}{xs:List UInt8}(h:Yii c.tb c.n s=some (p,xs,some i,none))(hl:j<=xs.length)(hz:xs.drop j=zs)(k:p.nx c (.d (.str zs)))(hj:i=j:=by first | exact rfl | omega): StP c s:=by
 subst hj;subst hz
 refine Xov h ?_ k
 rw[slS,if_pos ⟨by omega,by omega⟩];simp
theorem Smd(i j:Nat)(zs:List UInt8){i' j':Int}{xs:List UInt8}(h:Yii c.tb c.n s=some (p,xs,some i',some j'))(hl:i<=j/\j<=xs.length)(hz:(xs.drop i).take (j-i)=zs)(k:p.nx c (.d (.str zs)))(hi:i'=i:=by first | exact rfl | omega)(hj:j'=j:=by first | exact rfl | omega): StP c s:=by
 subst hi;subst hj;subst hz
 refine Xov h ?_ k
 rw[slS,if_pos ⟨by omega,by omega,by omega⟩];simp
noncomputable def Yoo(tb:Nat->Option TI)(n:Nat)(s:St): Option (Pl×AV):=match nxA tb n s with
 | some (p,o,[a])=>match o.op with
  | .convert S T _=>match tb S,tb T,Yez a with
   | some ⟨.sl _ _,.int .u8 _,_,_⟩,some ⟨.str _,_,_,_⟩,true=>some (p,a)
   | _,_,_=>none
  | _=>none
 | _=>none
theorem Bs(zs:List UInt8){a:AV}(h:Yoo c.tb c.n s=some (p,a))(hz:Yk9 a=some zs)(kk:p.nx c (.d (.str zs))): StP c s:=by
 unfold Yoo at h
 split at h<;>try cases h
 rename_i hA
 split at h<;>try cases h
 rename_i ho
 split at h<;>cases h
 rename_i h1 h2 h3
 refine Xbw (us:=[]) hA ?_ (Pl.nx_nil kk)
 rw[ho]
 have:∀k z,a≠.d (.int k z):=λk z e=>by subst e;cases h3
 cases a with
 | d x=>cases x<;>first | exact absurd rfl (this _ _) | simp only[F,Fp,h2,h1,hz]
 | _=>simp only[F,Fp,h2,h1,hz]
end
end
section
theorem Xxg{W:GW}{z:D}: ∀ {cs:List Value},(∀x∈z.comps,x.size=1)->D.At W z cs->AtL W 1 z.comps cs/\cs.length=z.comps.length:=by
 have one:∀ {x:D} {cs:List Value},x.size=1->D.At W x cs->AtL W 1 [x] cs/\cs.length=1:=λ{x cs} h1 h =>
  ⟨λi y hi=>by
   cases i with
   | zero=>simp at hi;subst hi;exact⟨cs,h,h1,λj v hj=>by simpa using hj⟩
   | succ i=>simp at hi,by rw[D.at_len x h,h1]⟩
 induction z using D.ind with
 | leaf x h1 h2 =>
  intro cs hs h
  have e:x.comps=[x]:=by cases x<;>first | rfl | exact absurd rfl (h2 _ _)
  rw[e] at hs |-
  exact one (hs x (W0i.2 rfl)) h
 | st a _=>intro cs hs h;exact one (hs _ (W0i.2 rfl)) h
 | pr a c _ ih =>
  intro cs hs ⟨u,v,e,h1,h2⟩
  have hs:∀x∈a::c.comps,x.size=1:=hs
  obtain⟨k1,k2⟩:=one (hs a (W1a ..)) h1
  obtain⟨k3,k4⟩:=ih (λx hx=>hs x (W1c _ hx)) h2
  subst e
  have:=k1.app k3 (by rw[k2];rfl)
  exact⟨this,by rw[W0d,k2,k4];show _=(a::c.comps).length;simp;omega⟩
theorem Stp.vara{N:Nat->Prop}{W:GW}{θ:Loc}{g:Hp}(h:Obs W θ N g){o d b n sz:Nat}{a:AV}{xs:List D}(ho:g o=some (.var a))(hb:(θ o).1=some b)(hB:d<1000000)(hd:g d=none)(hx:(Ob.arr sz xs).R W (λi=>if i=d then (some b,n) else θ i) d):
 Stp N W W θ (λi=>if i=d then (some b,n) else θ i) g (upd (upd g o .dead) d (.arr sz xs)) where
 os:=_root_.rfl
 out:=_root_.rfl
 tape:=_root_.rfl
 size:=W0b _
 same:=λ_ _ _=>_root_.rfl
 A:=λ_ _ _ _=>W3p
 le:=LeF.refl W
 th:=λi y hy=>if_neg λe=>by rw[e,hd] at hy;cases hy
 hi:=λi h=>if_neg (by omega)
 obs:=by
  have hg:∀ {i:Nat} {y:Ob},upd (upd g o .dead) d (.arr sz xs) i=some y->(i=d/\y=.arr sz xs)\/(i≠d/\i=o/\y=.dead)\/(i≠d/\i≠o/\g i=some y):=λ{i y} hy=>by
   rcases Xaf hy with ⟨e1,e2⟩ | ⟨e1,e2⟩
   . exact .inl ⟨e1,e2⟩
   . rcases Xaf e2 with ⟨f1,f2⟩ | ⟨f1,f2⟩
     . exact .inr (.inl ⟨e1,f1,f2⟩)
     . exact .inr (.inr ⟨e1,f1,f2⟩)
  have hnd:∀ {i:Nat},(∃z,g i=some z)->i≠d:=λ⟨z,hz⟩ e=>by rw[e,hd] at hz;cases hz
  refine⟨λi y hy=>?_,λi y b' hy hl hb'=>?_,λi j y y' b' hy hy' hl hl' b1 b2=>?_,λi y j hy hj=>?_⟩
  . rcases hg hy with ⟨rfl,rfl⟩ | ⟨_,_,rfl⟩ | ⟨e1,e2,e3⟩
    . exact hx
    . trivial
    . exact(h.r i y e3).keep (LeF.refl W) (if_neg e1) (λj hj=>if_neg (hnd (h.ids i y j e3 hj))) λ_ _ _=>⟨_root_.rfl,λ_ h=>h⟩
  . rcases hg hy with ⟨rfl,rfl⟩ | ⟨_,_,rfl⟩ | ⟨e1,e2,e3⟩
    . rw[if_pos _root_.rfl] at hb'
      exact h.new o _ b' ho _root_.rfl (hb.trans hb')
    . cases hl
    . rw[if_neg e1] at hb';exact h.new i y b' e3 hl hb'
  . rcases hg hy with ⟨rfl,rfl⟩ | ⟨_,_,rfl⟩ | ⟨e1,e2,e3⟩
    . rcases hg hy' with ⟨rfl,rfl⟩ | ⟨_,_,rfl⟩ | ⟨f1,f2,f3⟩
      . exact _root_.rfl
      . cases hl'
      . rw[if_pos _root_.rfl] at b1;rw[if_neg f1] at b2
        exact absurd (h.dis j o y' _ b' f3 ho hl' _root_.rfl b2 (hb.trans b1)) f2
    . cases hl
    . rcases hg hy' with ⟨rfl,rfl⟩ | ⟨_,_,rfl⟩ | ⟨f1,f2,f3⟩
      . rw[if_pos _root_.rfl] at b2;rw[if_neg e1] at b1
        exact absurd (h.dis i o y _ b' e3 ho hl _root_.rfl b1 (hb.trans b2)) e2
      . cases hl'
      . rw[if_neg e1] at b1;rw[if_neg f1] at b2;exact h.dis i j y y' b' e3 f3 hl hl' b1 b2
  . rcases hg hy with ⟨rfl,rfl⟩ | ⟨_,_,rfl⟩ | ⟨e1,e2,e3⟩
    . exact hj.elim
    . exact hj.elim
    . have hz:=h.ids i y j e3 hj
      rw[Xak (hnd hz)]
      by_cases e:j=o
      . subst e;exact⟨_,Xai _ _ _⟩
      . rw[Xak e];exact hz
 dom:=λi y hy=>by
  rw[Xak (λe=>by rw[e,hd] at hy;cases hy)]
  by_cases e:i=o
  . subst e;exact⟨_,Xai _ _ _⟩
  . exact⟨y,by rw[Xak e];exact hy⟩
section
variable{c:Cx}{s:St}{p:Pl}
noncomputable def Yoa(tb:Nat->Option TI)(n id t:Nat)(s:St): Option (List Kt×Env×Hpl×Nat×D):=match runT tb n id 1000 s with
 | .j _ K E H=>match look E t with
  | some (.ptr o 0)=>match look H o with
   | some (.var (.d (.st z)))=>some (K,E,H,o,z)
   | _=>none
  | _=>none
 | _=>none
theorem Va(id t d m:Nat)(xs:List D){K:List Kt}{E:Env}{H:Hpl}{o:Nat}{z:D}(h:Yoa c.tb c.n id t s=some (K,E,H,o,z))(hz:z.comps=xs)(hs:∀x∈xs,x.size=1)(hm:xs.length=m)(k:StP c (.j [] K ((t,.ap d m)::E) ((d,.arr 1 xs)::(o,.dead)::H)))
 (hd:(Nat.blt d 1000000 && !Xcf H d&&Nat.blt m 1000000)=true:=by exact rfl):StP c s:=by
 subst hz
 simp only[W0f,W1t] at hd
 obtain⟨⟨hd1,hd2⟩,hm1⟩:=hd
 have hd1:=Xq8 hd1
 have hm1:=Xq8 hm1
 have hdn:look H d=none:=Xbm hd2
 unfold Yoa at h
 split at h<;>try cases h
 rename_i hr
 split at h<;>try cases h
 rename_i he
 split at h<;>cases h
 rename_i ho
 refine Xg6 (id:=id) 1000 ?_
 rw[hr]
 rintro a w ⟨s0,W,θ,hw,hs0,hθ,rfl⟩
 obtain⟨b,cs,T',r1,r2,r3,r4⟩:=hs0.obs.r _ _ ho
 have r3:D.At W z cs:=r3
 obtain⟨k1,k2⟩:=Xxg hs r3
 have st:=Stp.vara (n:=m) (sz:=1) (xs:=z.comps) hs0.obs ho r1 hd1 hdn ⟨b,cs,T',by simp,r2,by rw[k2,hm];simp,by simp only[if_true];omega,by simp only[if_true];omega,k1,r4⟩
 have h1:=hs0.step0 st
 refine k a w ⟨_,W,_,hw,?_,λi hi=>(st.hi i hi).trans (hθ i hi),rfl⟩
 rw[show sem ((t,AV.ap d m)::E) ((d,Ob.arr 1 z.comps)::(o,Ob.dead)::H)=(upd (look E) t (.ap d m),upd (upd (look H) o .dead) d (.arr 1 z.comps)) by rw[Xa7,Xa7,Xa7]]
 refine⟨h1.fm,⟨h1.rel.defers,h1.rel.size,λq v hq=>?_⟩,h1.obs,λq v i hq hi=>?_⟩
 . rcases Xaf hq with ⟨e1,e2⟩ | ⟨e1,e2⟩
   . subst e1;subst e2
     obtain⟨b',f1,f2⟩:=Xju (hs0.rel.has q _ he)
     rw[r1] at f1;injection f1 with f1;subst f1
     exact⟨_,⟨b,by simp,by simp,rfl⟩,f2⟩
   . exact h1.rel.has q v e2
 . rcases Xaf hq with ⟨e1,e2⟩ | ⟨e1,e2⟩
   . subst e2
     have hi:i=d:=hi
     subst hi
     exact⟨_,Xai _ _ _⟩
   . exact h1.ids q v i e2 hi
noncomputable def Yod(tb:Nat->Option TI)(n:Nat)(s:St): Option (Pl×Oper×TypeId×Operand×Operand×Nat×Nat×Nat×Nat×D×Int):=match nxO tb n s with
 | some (p,o)=>match o.op,p.dr with
  | .slice T x none (some y) none,false=>match Xcr (look p.E) x,Xcr (look p.E) y,tb T with
   | some (.ap q m),some (.d (.int _ j)),some ⟨.st z,e,eb,ar⟩=>match Nat.beq m ar,look p.H q with
    | true,some _=>some (p,o,T,x,y,q,m,e.size,eb,z,j)
    | _,_=>none
   | _,_,_=>none
  | _,_=>none
 | none=>none
theorem Sp(j:Nat){o:Oper}{T:TypeId}{x y:Operand}{q m sz eb:Nat}{z:D}{i:Int}(h:Yod c.tb c.n s=some (p,o,T,x,y,q,m,sz,eb,z,i))(hj:j<=m)(h0:0<m)(k:p.nx c (.own q sz 0 j))(hm:m<1000000)(hi:i=(j:Int):=by first | exact rfl | omega): StP c s:=by
 subst hi
 unfold Yod at h
 split at h<;>try cases h
 rename_i p' o' ho
 split at h<;>try cases h
 rename_i T' x' y' hop hdr
 split at h<;>try cases h
 rename_i k2 e eb' ar hx hy hti
 split at h<;>cases h
 rename_i hH hma
 have hma:=W0e hma
 subst hma
 refine Xmz (us:=[]) ho (by unfold Xal;rw[hop];rfl) hdr (λN W θ ρ _ hO hN hB hv=>?_) (Pl.nx_nil k)
 obtain⟨hk,_⟩:=c.hT _ _ hti
 obtain⟨t,u1,_,u3⟩:=hk.u
 simp only[show ¬m=0 by omega,if_false] at u3
 obtain⟨E,e1,i,v0,i1,i2,_⟩:=u3
 subst e1
 obtain⟨cs,⟨b,f1,f2,f3⟩,f4⟩:=hv _ _ hx
 subst f3
 have f4:ρ x=.pointer (some ⟨b,0,none⟩):=f4
 obtain⟨ey,_⟩:=Xct (hv _ _ hy)
 have hg:(sem p.E p.H).2 q=some _:=hH
 refine .val (u:=.slice (some ⟨b,0,none⟩) j m) hO ?_ ?_ (λi hi=>by subst hi;exact⟨_,hg⟩)
 . have hm0:¬m=0:=by omega
   simp[execOp,hop,f4,ey,Instr.sliceAt,Instr.sureAddr,Instr.sliceBounds,Instr.sliceBound,asIntOf,sizeOf,typeInfo,underlying,program,bind,Sem.bind,Sem.run,pure,u1,i1,i2,hm0,hj,add0]
 . exact⟨[.slice (some ⟨b,0,none⟩) j m],⟨b,some ⟨b,0,none⟩,f1,by omega,by omega,by rw[f2,W5y],λ_=>by rw[W4x]⟩,rfl⟩
noncomputable def Yop(tb:Nat->Option TI)(n:Nat)(s:St): Option (Pl×Oper×TypeId×TypeId×Operand×Nat×Nat×Nat×List D):=match nxO tb n s with
 | some (p,o)=>match o.op,p.dr with
  | .convert S T x,false=>match Xcr (look p.E) x,tb S,tb T with
   | some (.own q 1 l m),some ⟨.sl _ _,.int .u8 _,_,_⟩,some ⟨.str _,_,_,_⟩=>match look p.H q with
    | some (.arr 1 xs)=>some (p,o,S,T,x,q,l,m,xs)
    | _=>none
   | _,_,_=>none
  | _,_=>none
 | none=>none
theorem Bo(zs:List UInt8){o:Oper}{S T:TypeId}{x:Operand}{q l m:Nat}{xs:List D}(h:Yop c.tb c.n s=some (p,o,S,T,x,q,l,m,xs))(hl:l+m<=xs.length)(hz:Yaq ((xs.drop l).take m)=some zs)(k:p.nx c (.d (.str zs))): StP c s:=by
 unfold Yop at h
 split at h<;>try cases h
 rename_i p' o' ho
 split at h<;>try cases h
 rename_i S' T' x' hop hdr
 split at h<;>try cases h
 rename_i hx hS hT
 split at h<;>cases h
 rename_i hH
 refine Xmz (us:=[]) ho (by unfold Xal;rw[hop];rfl) hdr (λN W θ ρ _ hO hN hB hv=>?_) (Pl.nx_nil k)
 obtain⟨hk,_⟩:=c.hT _ _ hS
 obtain⟨t,u1,_,E,u3,_⟩:=hk.u
 subst u3
 obtain⟨t',u1',_,u3⟩:=(c.hT _ _ hT).1.u
 have u3:t'=.string:=u3
 subst u3
 have ue:=hk.k E _ _ u1 rfl
 obtain⟨b,pp,f1,f2,f3,e,f5⟩:=Xhh (hv _ _ hx)
 obtain⟨b',bs,T1,r1,r2,r3,r4,r5,r6,r7⟩:=hO.r _ _ hH
 rw[f1] at r1;injection r1 with r1;subst r1
 obtain⟨ns,hn1,rfl⟩:=Xl8 hz
 have hlen:ns.length=m:=by
  have:=congrArg List.length hn1
  simp at this;omega
 refine .val (u:=.string ⟨(ns.map λz=>UInt8.ofNat z.toNat).toArray⟩) hO ?_ (Xoe (by simp;omega)) (λ_ h=>h.elim)
 have hc:(convert S T (ρ x)).run c.P W.w=.ok (.string ⟨(ns.map λz=>UInt8.ofNat z.toNat).toArray⟩) W.w:=by
  rw[e,run_convert_bytes_string W.w S T E pp _ _ u1 ue u1']
  by_cases hm0:m=0
  . subst hm0
    have:ns=[]:=W4s.1 hlen
    subst this
    cases pp with
    | none=>rfl
    | some a=>exact run_bytesToString W.w a _ _ [] rfl
  . rw[f5 (by omega)]
    rw[run_bytesToString W.w _ _ _ ns (by
     have h:=run_loadCells (P:=c.P) (b:=b) (off:=l*1) (w:=W.w) (ns.map (Value.int .u8)) 0 #[] (λj v hj=>by
      rw[W1s] at hj
      cases hz:ns[j]? with
      | none=>rw[hz] at hj;cases hj
      | some z =>
       rw[hz] at hj;injection hj with hj;subst hj
       have hj':((xs.drop l).take m)[j]?=some (.int .u8 z):=by rw[hn1,W1s,hz];rfl
       have hj2:xs[l+j]?=some (.int .u8 z):=by
        rw[W1e] at hj'
        split at hj'
        . rwa[W1q] at hj'
        . cases hj'
       obtain⟨e1,g1,_,g2⟩:=r6 _ _ hj2
       have g1:=g1.1
       subst g1
       have:=g2 0 _ rfl
       rw[show l*1+(0+j)=(l+j)*1+0 by omega,Xbb r2]
       exact this)
     simp only[W0j] at h
     rw[<-hlen]
     simpa [loadCells] using h)]
    have:=Xfq ns []
    rw[show (ByteArray.empty:ByteArray)=⟨([]:List UInt8).toArray⟩ from rfl,this]
    simp
 unfold execOp
 rw[hop]
 simp only
 rw[Sem.run_bind,hc];rfl
noncomputable def Yok(tb:Nat->Option TI)(n:Nat)(s:St): Option (Pl×Oper×TypeId×Nat×Operand×Nat×Int):=match nxO tb n s with
 | some (p,o)=>match o.op,p.dr with
  | .indexAddr T (.global g) y,false=>match Xcr (look p.E) y,tb T with
   | some (.d (.int _ j)),some ⟨.st _,.int _ _,_,ar⟩=>match Nat.beq ar 0 with
    | false=>some (p,o,T,g,y,ar,j)
    | true=>none
   | _,_=>none
  | _,_=>none
 | none=>none
theorem Gx(j:Nat)(k:IntKind)(z:Int){o:Oper}{T:TypeId}{y:Operand}{g ar:Nat}{i:Int}(h:Yok c.tb c.n s=some (p,o,T,g,y,ar,i))(hj:j<ar)(hg:∀W,c.gb.g W->Fr W g j (.int k z))(hr:inR k z)(kk:p.nx c (.at (.int k z)))(hi:i=(j:Int):=by first | exact rfl | omega): StP c s:=by
 subst hi
 unfold Yok at h
 split at h<;>try cases h
 rename_i p' o' ho
 split at h<;>try cases h
 rename_i T' g' y' hop hdr
 split at h<;>try cases h
 rename_i k1 j1 z1 k2 z2 eb ar1 hy hti
 split at h<;>cases h
 rename_i hz
 have hz:¬ar=0:=λe=>by subst e;cases hz
 refine Xmz (us:=[]) ho (by unfold Xal;rw[hop];rfl) hdr (λN W θ ρ hgb hO hN hB hv=>?_) (Pl.nx_nil kk)
 obtain⟨hk,_⟩:=c.hT _ _ hti
 obtain⟨t,u1,_,u3⟩:=hk.u
 simp only[hz,if_false] at u3
 obtain⟨E,e1,i,v0,i1,i2,_⟩:=u3
 subst e1
 obtain⟨ey,_⟩:=Xct (hv _ _ hy)
 have eg:=hgb.2 g
 have i2:i.size=1:=i2
 refine .val (u:=.pointer (some ⟨g,j,none⟩)) hO ?_ (Ynn (e:=[.int k z]) ⟨rfl,hr⟩ λq v hq=>?_) (λ_ h=>h.elim)
 . have hjl:(j:Int)<(ar:Int):=by omega
   simp[execOp,hop,eg,ey,Instr.indexAt,Instr.sureAddr,asIntOf,sizeOf,typeInfo,underlying,program,bind,Sem.bind,Sem.run,pure,u1,i1,i2,hjl,hj,add0]
 . cases q with
   | zero=>simp at hq;subst hq;exact hg W hgb.1
   | succ q=>simp at hq
end
end
section
section
variable{c:Cx}{s:St}{p:Pl}
end
end
end Go.Vm
namespace Go.Proofs.YtegepebhkhhhoaaGreatDoor
open Go Go.Vm Go.Num Go.Proofs Go.Shelf Go.RowKit
section
abbrev Tx(s:List UInt8): Prop:=s.length<4611686018427387904
theorem Xhu{s t:List UInt8}(hs:Tx s)(ht:Tx t): C0 250 [.d (.str s),.d (.str t)] (·=.b (dc (s.take t.length=t))):=by
 refine En Tryz.func250 λ_ _ _=>?_
 refine By rfl (λh=>?_) λh=>?_
 . refine Stk t.length _ rfl (by omega) rfl ?_
   exact R1 rfl (.bp Xaj)
 . refine R1 rfl (.bp ⟨λe=>(by cases e),λe=>?_⟩)
   have:=congrArg List.length e
   rw[W0g] at this
   omega
theorem Xn3{s t:List UInt8}(hs:Tx s)(ht:Tx t): C0 102 [.d (.str s),.d (.str t)] (·=.tup (.pr (.d (.str (if s.take t.length=t then s.drop t.length else s))) (.b (dc (s.take t.length=t))))):=by
 have h1:C0 166 [.d (.str s),.d (.str t)] (·=.tup (.pr (.d (.str (if s.take t.length=t then s.drop t.length else s))) (.b (dc (s.take t.length=t))))):=by
  refine En Tryz.func166 λ_ _ _=>?_
  refine Ce rfl (Xhu hs ht) ?_
  refine By rfl (λh=>?_) λh=>?_
  . refine RTt rfl (.cons (.eq (by rw[if_neg h])) (.one (by exact .bp (c:=false) ⟨λe=>(by cases e),λe=>absurd e h⟩) (λ_ _ e=>by cases e) (λ_ _ e=>by cases e)))
  . have h:=W3a.1 h
    have hl:t.length<=s.length:=by have:=congrArg List.length h;rw[W0g] at this;omega
    refine Sdp t.length _ rfl hl rfl ?_
    refine RTt rfl (.cons (.eq (by rw[if_pos h])) (.one (by exact .bp (c:=true) ⟨λ_=>h,λ_=>rfl⟩) (λ_ _ e=>by cases e) (λ_ _ e=>by cases e)))
 refine En Tryz.func102 λ_ _ _=>?_
 refine Ce rfl h1 ?_
 exact R0t
end
section
def d2(n:Nat): List UInt8:=[UInt8.ofNat (48+n/10),UInt8.ofNat (48+n%10)]
theorem Yj6{n:Nat}(h:10<=n)(h1:n<100): dec n=d2 n:=by rw[Xgp h,Xeh (by omega)];rfl
def tb2: List UInt8:=(List.range 100).flatMap d2
theorem Xy1{n:Nat}(hn:n<100): C0 303 [.d (.int .i64 n)] (·=.d (.str (dec n))):=by
 refine En Tryz.func303 λ_ _ _=>?_
 refine By rfl (λh=>?_) λh=>?_
 . refine Ar (n+1:Nat) rfl ?_
   refine Smd n (n+1) (dec n) rfl ⟨by omega,by simp;omega⟩ ?_ ?_
   . rw[Xeh (by omega)]
     have h1:n<10:=by omega
     clear hn h
     revert h1;generalize n=j;revert j;decide +kernel
   . exact R0
 . refine Ar (n*2:Nat) rfl ?_
   refine Ar (n*2:Nat) rfl ?_
   refine Ar (n*2+2:Nat) rfl ?_
   refine Smd (n*2) (n*2+2) (dec n) rfl ⟨by omega,by simp;omega⟩ ?_ ?_
   . rw[Yj6 (by omega) hn]
     clear h
     revert hn;generalize n=j;revert j;decide +kernel
   . exact R0
theorem Xm4{n:Nat}(hn:n<=64): C0 347 [.d (.int .i64 n)] (·=.d (.int .i64 (n*78913/262144:Nat))):=by
 refine En Tryz.func347 λ_ _ _=>?_
 refine Ar (n*78913:Nat) rfl ?_
 refine Ar (n*78913/2^18:Nat) rfl ?_ (Xjp (n:=18) (by decide))
 exact R1 rfl (.eq rfl)
theorem Yas{p:Prop}: C0 349 [.b (dc p)] (λv=>∃n:Nat,v=.d (.int .i64 n)/\(n=1/\p\/n=0/\¬p)):=by
 refine En Tryz.func349 λ_ _ _=>?_
 refine By rfl (λh=>?_) λh=>?_
 . exact Rt rfl (.one (.rf rfl) rfl rfl) ⟨1,rfl,.inl ⟨rfl,h⟩⟩
 . exact Rt rfl (.one (.rf rfl) rfl rfl) ⟨0,rfl,.inr ⟨rfl,h⟩⟩
theorem Ya3{x:Nat}(hx:x<18446744073709551616): C0 348 [.d (.int .u64 x)] (·=.d (.int .i64 (bl x))):=by
 refine En Tryz.func348 λ_ _ _=>?_
 refine Cu none (λ((x1,n1):Nat×Nat)=>[(0,.d (.int .u64 x1)),(2,.d (.int .i64 n1))]) (λ_=>[]) (λ(x1,n1)=>x1<4294967296/\bl x=bl x1+n1/\n1<=32) rfl ?_ λ⟨x0,n0⟩ ⟨hx0,hb0,hn0⟩=>?_
 . refine By rfl (λh=>?_) λh=>?_
   . refine Ar (x/2^32:Nat) rfl ?_ (Xjp (n:=32) (by decide))
     exact Jn (x/2^32,32) [] rfl ⟨by omega,Xfd (by omega),W0b _⟩
   . exact Jn (x,0) [] rfl ⟨by omega,rfl,by omega⟩
 refine Cu none (λ((x1,n1):Nat×Nat)=>[(0,.d (.int .u64 x1)),(2,.d (.int .i64 n1))]) (λ_=>[]) (λ(x1,n1)=>x1<65536/\bl x=bl x1+n1/\n1<=48) rfl ?_ λ⟨x1,n1⟩ ⟨hx1,hb1,hn1⟩=>?_
 . refine By rfl (λh=>?_) λh=>?_
   . refine Ar (x0/2^16:Nat) rfl ?_ (Xjp (n:=16) (by decide))
     refine Ar (n0+16:Nat) rfl ?_
     exact Jn (x0/2^16,n0+16) [] rfl ⟨by omega,by rw[hb0,Xfd (n:=x0) (k:=16) (by omega)];omega,by omega⟩
   . exact Jn (x0,n0) [] rfl ⟨by omega,hb0,by omega⟩
 refine Cu none (λ((x1,n1):Nat×Nat)=>[(0,.d (.int .u64 x1)),(2,.d (.int .i64 n1))]) (λ_=>[]) (λ(x1,n1)=>x1<256/\bl x=bl x1+n1/\n1<=56) rfl ?_ λ⟨x2,n2⟩ ⟨hx2,hb2,hn2⟩=>?_
 . refine By rfl (λh=>?_) λh=>?_
   . refine Ar (x1/2^8:Nat) rfl ?_ (Xjp (n:=8) (by decide))
     refine Ar (n1+8:Nat) rfl ?_
     exact Jn (x1/2^8,n1+8) [] rfl ⟨by omega,by rw[hb1,Xfd (n:=x1) (k:=8) (by omega)];omega,by omega⟩
   . exact Jn (x1,n1) [] rfl ⟨by omega,hb1,by omega⟩
 have hbl:bl x2<256:=W0v (Ycu (p:=λj=>bl j<10) (by decide +kernel) x2 hx2) (by decide)
 refine Go.Vm.Cv x2 rfl ?_
 refine Yx x2 (UInt8.ofNat (bl x2)) rfl (by revert hx2;generalize x2=j;revert j;decide +kernel) ?_
 refine Go.Vm.Cv (bl x2:Nat) rfl ?_ ((wI ⟨by omega,by rw[Xyq hbl];omega⟩).trans (Xyq hbl))
 refine Ar (bl x:Nat) rfl ?_
 exact R0
theorem Xm1{x:Nat}(h1:100<=x)(hx:x<1000000000): C0 304 [.d (.int .u64 x)] (·=.d (.int .i64 (dec x).length)):=by
 obtain⟨b1,b2,b3⟩:=Xcs (n:=x) (by omega)
 have hb7:7<=bl x:=by
  have:2^6<2^bl x:=W1y (by omega) b2
  have:=(W2t (by decide:1<2)).1 this
  omega
 have hb30:bl x<=30:=by
  have:2^(bl x-1)<2^30:=W1y b1 (by omega)
  have:=(W2t (by decide:1<2)).1 this
  omega
 obtain⟨t,ht⟩:∃t,t=bl x*78913/262144:=⟨_,rfl⟩
 have ht9:t<=9:=by omega
 have key:10^(t-1)<=x/\x<10^(t+1)/\1<=t:=by
  have hc:∀b,b<=30->7<=b->10^(b*78913/262144-1)<=2^(b-1)/\2^b<=10^(b*78913/262144+1)/\1<=b*78913/262144:=by decide +kernel
  obtain⟨c1,c2,c3⟩:=hc (bl x) hb30 hb7
  rw[<-ht] at c1 c2 c3
  exact⟨W0k c1 b1,W0v b2 c2,c3⟩
 refine En Tryz.func304 λ_ _ _=>?_
 refine Ce rfl (Ya3 (by omega)) ?_
 refine Ce rfl (show C0 _ _ (·=.d (.int .i64 (t:Nat))) by rw[ht];exact Xm4 (by omega)) ?_
 refine Gx t .u64 ((10^t:Nat):Int) rfl (by omega) (λW h=>h t (by omega)) ?_ ?_
 . have:10^t<=10^9:=W0l (by decide) ht9
   exact wr rfl (by simp only[inK];omega)
 refine Ca rfl (C.nb Yas) λv hv=>?_
 obtain⟨n,rfl,hn⟩:=hv
 refine Ar ((dec x).length:Nat) rfl ?_ ?_
 . exact R0
 . refine wr ?_ ?_
   . rcases hn with ⟨rfl,hp⟩ | ⟨rfl,hp⟩
     . have:=Xfu t x key.2.1
       have:=Xfb t x (by omega)
       omega
     . have h3:=Xfu (t-1) x (by rw[show t-1+1=t by omega];omega)
       have h4:=Xfb (t-1) x key.1
       omega
   . have:=Xfu 9 x (by omega)
     simp only[inK];omega
end
section
def dgs: Nat->Nat->List UInt8
 | 0,_=>[]
 | w+1,n=>dgs w (n/10)++[UInt8.ofNat (48+n%10)]
theorem Yfm(w n:Nat): dgs (w+2) n=dgs w (n/100)++d2 (n%100):=by
 rw[dgs,dgs,W6j,d2,show n/10%10=n%100/10 by omega,show n%10=n%100%10 by omega]
 simp
theorem Xw8(n:Nat): dgs (dec n).length n=dec n:=by
 induction n using Nat.strongRecOn with
 | ind n ih =>
  by_cases h:n<10
  . rw[Xeh h];show dgs 1 n=_;rw[dgs,dgs,W3z h];rfl
  . rw[Xgp (by omega),W0d];show dgs (_+1) n=_
    rw[dgs,ih _ (by omega)]
def b8(b:UInt8): D:=.int .u8 b.toNat
theorem Xxq: ∀l:List UInt8,Yaq (l.map b8)=some l
 | []=>rfl
 | b::l=>by
  show (match Yaq (l.map b8) with | some s=>some (UInt8.ofNat ((b.toNat:Int)).toNat::s) | none=>none)=_
  rw[Xxq l];simp
theorem st1{z acc:List UInt8}{i j:Nat}{a:UInt8}(h1:j+1=i)(h2:i<=z.length): ((z.take i++acc).map b8).set j (b8 a)=(z.take j++a::acc).map b8:=by
 subst h1
 rw[<-List.map_set]
 congr 1
 apply W4k
 intro k
 by_cases hk:k<j
 . rw[W1w (by omega),W0r (by simp;omega),W0r (by simp;omega),W1e,W1e,if_pos (by omega),if_pos (by omega)]
 . by_cases hk2:k=j
   . subst hk2
     rw[W2u (by simp;omega),W0q (by simp;omega)]
     have:k-(List.take k z).length=0:=by simp;omega
     rw[this];rfl
   . obtain⟨q,rfl⟩:∃q,k=j+1+q:=⟨k-(j+1),by omega⟩
     rw[W1w (by omega),W0q (by simp;omega),W0q (by simp;omega)]
     have e1:j+1+q-(List.take (j+1) z).length=q:=by simp;omega
     have e2:j+1+q-(List.take j z).length=q+1:=by simp;omega
     rw[e1,e2];simp
def Yn2(l:List UInt8): Prop:=∀v,v<100->l[v*2+1]?=some (UInt8.ofNat (48+v%10))/\l[v*2]?=some (UInt8.ofNat (48+v/10))
instance (l:List UInt8):Decidable (Yn2 l):=inferInstanceAs (Decidable (∀v,v<100->_))
theorem quN{k:IntKind}{a b r:Nat}(hb:b≠0)(h:a/b=r)(hk:inK k (r:Int)): arB .quo k (a:Int) (b:Int) (r:Int):=show _/\_ from⟨by omega,wr (by subst h;rfl) hk⟩
theorem reN{k:IntKind}{a b r:Nat}(hb:b≠0)(h:a%b=r): arB .rem k (a:Int) (b:Int) (r:Int):=show _/\_ from⟨by omega,by subst h;rfl⟩
theorem tbl: Yn2 (List.flatten ((List.range 100).map d2)):=by decide +kernel
theorem Stb{c:Cx}{s:St}{p:Pl}{q j:Nat}{xs:List D}{z:Int}(a:UInt8){zs:List D}(h:Ymm c.tb c.n s=some (p,q,1,xs,j,.int .u8 z))(hj:j<xs.length)(hz:xs.set j (b8 a)=zs)(k:p.nx' c (.ub True) [(q,.arr 1 zs)])(hza:z=(a.toNat:Int):=by exact rfl): StP c s:=by
 subst hza
 exact Sto h hj hz k
theorem Xje{nd x:Nat}{z0:List UInt8}(h1:nd<=9)(hx:x<1000000000)(hxn:x<10^nd)(hz0:nd<=z0.length)(hz24:z0.length<1000):
 CW0 305 [.own 1000001 1 0 nd,.d (.int .u64 x)] [(1000001,.arr 1 (z0.map b8))] λv H'=>H'=[(1000001,.arr 1 ((dgs nd x++z0.drop nd).map b8))]:=by
 refine EnW Tryz.func305 λ_ _ _ _=>?_
 refine Lo (λ((i,u,acc):Nat×Nat×List UInt8)=>[(0,.own 1000001 1 0 nd),(1,.d (.int .u64 u)),(4,.d (.int .i64 i))]) (λ(i,_,acc)=>[(1000001,.arr 1 ((z0.take i++acc).map b8))])
  (λ(i,u,acc)=>i<=nd/\u<10^i/\u<1000000000/\dgs i u++acc=dgs nd x++z0.drop nd) (λ(i,_,_)=>i) (nd,x,z0.drop nd) [] rfl ⟨W0b _,hxn,hx,rfl⟩ ?_ (by exact⟨rfl,by simp only[W5a];rfl,rfl,rfl,rfl⟩)
 rintro⟨i,u,acc⟩ ⟨hi,hu,hu9,hI⟩
 refine By rfl (λh=>?_) λh=>?_
 . obtain⟨v,hv⟩:∃v,v=u%100000000:=⟨_,rfl⟩
   obtain⟨t6,ht6⟩:∃t,t=v/10000:=⟨_,rfl⟩
   obtain⟨t7,ht7⟩:∃t,t=v%10000:=⟨_,rfl⟩
   obtain⟨v0,hv0⟩:∃w,w=t7%100:=⟨_,rfl⟩
   obtain⟨v1,hv1⟩:∃w,w=t7/100:=⟨_,rfl⟩
   obtain⟨v2,hv2⟩:∃w,w=t6%100:=⟨_,rfl⟩
   obtain⟨v3,hv3⟩:∃w,w=t6/100:=⟨_,rfl⟩
   have Bv0:v0<100:=by omega
   have Bv1:v1<100:=by omega
   have Bv2:v2<100:=by omega
   have Bv3:v3<100:=by omega
   refine Ar (v:Nat) rfl ?_ (reN (b:=100000000) (by decide) hv.symm)
   refine Go.Vm.Cv v rfl ?_
   refine Ar (u/100000000:Nat) rfl ?_ (quN (b:=100000000) (by decide) rfl (by simp only[inK];omega))
   refine Ar t6 rfl ?_ (quN (b:=10000) (by decide) ht6.symm (by simp only[inK];omega))
   refine Ar t7 rfl ?_ (reN (b:=10000) (by decide) ht7.symm)
   refine Ar v1 rfl ?_ (quN (b:=100) (by decide) hv1.symm (by simp only[inK];omega))
   refine Ar (v1*2:Nat) rfl ?_
   refine Ar v0 rfl ?_ (reN (b:=100) (by decide) hv0.symm)
   refine Ar (v0*2:Nat) rfl ?_
   refine Ar v3 rfl ?_ (quN (b:=100) (by decide) hv3.symm (by simp only[inK];omega))
   refine Ar (v3*2:Nat) rfl ?_
   refine Ar v2 rfl ?_ (reN (b:=100) (by decide) hv2.symm)
   refine Ar (v2*2:Nat) rfl ?_
   refine Dw rfl ?_
   refine Ar ((i-1:Nat):Int) rfl ?_
   refine Ar ((i-2:Nat):Int) rfl ?_
   refine Ar ((v0*2+1:Nat):Int) rfl ?_
   refine Yx (v0*2+1) (UInt8.ofNat (48+v0%10)) rfl (tbl v0 Bv0).1 ?_
   refine Yx (v0*2) (UInt8.ofNat (48+v0/10)) rfl (tbl v0 Bv0).2 ?_
   refine Eo (i-1) rfl (by omega) ?_
   refine Stb (UInt8.ofNat (48+v0%10)) rfl (by simp only[W0j,W0d,W0g,W0u];omega) (st1 (by omega) (by omega)) ?_
   refine Eo (i-2) rfl (by omega) ?_
   refine Stb (UInt8.ofNat (48+v0/10)) rfl (by simp only[W0j,W0d,W0g,W0u];omega) (st1 (by omega) (by omega)) ?_
   refine Dw rfl ?_
   refine Ar ((i-3:Nat):Int) rfl ?_
   refine Ar ((i-4:Nat):Int) rfl ?_
   refine Ar ((v1*2+1:Nat):Int) rfl ?_
   refine Yx (v1*2+1) (UInt8.ofNat (48+v1%10)) rfl (tbl v1 Bv1).1 ?_
   refine Yx (v1*2) (UInt8.ofNat (48+v1/10)) rfl (tbl v1 Bv1).2 ?_
   refine Eo (i-3) rfl (by omega) ?_
   refine Stb (UInt8.ofNat (48+v1%10)) rfl (by simp only[W0j,W0d,W0g,W0u];omega) (st1 (by omega) (by omega)) ?_
   refine Eo (i-4) rfl (by omega) ?_
   refine Stb (UInt8.ofNat (48+v1/10)) rfl (by simp only[W0j,W0d,W0g,W0u];omega) (st1 (by omega) (by omega)) ?_
   refine Dw rfl ?_
   refine Ar ((i-5:Nat):Int) rfl ?_
   refine Ar ((i-6:Nat):Int) rfl ?_
   refine Ar ((v2*2+1:Nat):Int) rfl ?_
   refine Yx (v2*2+1) (UInt8.ofNat (48+v2%10)) rfl (tbl v2 Bv2).1 ?_
   refine Yx (v2*2) (UInt8.ofNat (48+v2/10)) rfl (tbl v2 Bv2).2 ?_
   refine Eo (i-5) rfl (by omega) ?_
   refine Stb (UInt8.ofNat (48+v2%10)) rfl (by simp only[W0j,W0d,W0g,W0u];omega) (st1 (by omega) (by omega)) ?_
   refine Eo (i-6) rfl (by omega) ?_
   refine Stb (UInt8.ofNat (48+v2/10)) rfl (by simp only[W0j,W0d,W0g,W0u];omega) (st1 (by omega) (by omega)) ?_
   refine Dw rfl ?_
   refine Ar ((i-7:Nat):Int) rfl ?_
   refine Ar ((i-8:Nat):Int) rfl ?_
   refine Ar ((v3*2+1:Nat):Int) rfl ?_
   refine Yx (v3*2+1) (UInt8.ofNat (48+v3%10)) rfl (tbl v3 Bv3).1 ?_
   refine Yx (v3*2) (UInt8.ofNat (48+v3/10)) rfl (tbl v3 Bv3).2 ?_
   refine Eo (i-7) rfl (by omega) ?_
   refine Stb (UInt8.ofNat (48+v3%10)) rfl (by simp only[W0j,W0d,W0g,W0u];omega) (st1 (by omega) (by omega)) ?_
   refine Eo (i-8) rfl (by omega) ?_
   refine Stb (UInt8.ofNat (48+v3/10)) rfl (by simp only[W0j,W0d,W0g,W0u];omega) (st1 (by omega) (by omega)) ?_
   refine Ar ((i-8:Nat):Int) rfl ?_
   refine Bk (i-8,u/100000000,d2 v3++(d2 v2++(d2 v1++(d2 v0++acc)))) [] rfl ⟨by omega,?_,by omega,?_⟩ (by show i-8<i;omega) (by exact⟨rfl,rfl,rfl,rfl,rfl⟩)
   . obtain⟨q,rfl⟩:∃q,i=q+8:=⟨i-8,by omega⟩
     rw[W0y] at hu
     rw[W3u]
     exact W4r (by rw[W1f];exact hu)
   . obtain⟨q,rfl⟩:∃q,i=q+8:=⟨i-8,by omega⟩
     rw[W3u,<-hI,show q+8=q+6+2 from rfl,Yfm,show q+6=q+4+2 from rfl,Yfm,show q+4=q+2+2 from rfl,Yfm,Yfm]
     rw[show u/100/100/100/100=u/100000000 by omega,show u%100=v0 by omega,show u/100%100=v1 by omega,show u/100/100%100=v2 by omega,show u/100/100/100%100=v3 by omega]
     simp only[W4v]
 have hi8:i<8:=by omega
 have hu8:u<10^8:=W0v hu (W0l (by decide) (by omega))
 refine Go.Vm.Cv u rfl ?_
 refine Cu none (λ((i,u,acc):Nat×Nat×List UInt8)=>[(0,.own 1000001 1 0 nd),(12,.d (.int .u32 u)),(4,.d (.int .i64 i))]) (λ(i,_,acc)=>[(1000001,.arr 1 ((z0.take i++acc).map b8))])
  (λ(i,u,acc)=>i<=nd/\i<4/\u<10^i/\dgs i u++acc=dgs nd x++z0.drop nd) rfl ?_ ?_
 . refine By rfl (λh4=>?_) λh4=>?_
   . obtain⟨v,hv⟩:∃v,v=u%10000:=⟨_,rfl⟩
     obtain⟨v0,hv0⟩:∃w,w=v%100:=⟨_,rfl⟩
     obtain⟨v1,hv1⟩:∃w,w=v/100:=⟨_,rfl⟩
     have Bv0:v0<100:=by omega
     have Bv1:v1<100:=by omega
     refine Ar (v:Nat) rfl ?_ (reN (b:=10000) (by decide) hv.symm)
     refine Ar (u/10000:Nat) rfl ?_ (quN (b:=10000) (by decide) rfl (by simp only[inK];omega))
     refine Ar v1 rfl ?_ (quN (b:=100) (by decide) hv1.symm (by simp only[inK];omega))
     refine Ar (v1*2:Nat) rfl ?_
     refine Ar v0 rfl ?_ (reN (b:=100) (by decide) hv0.symm)
     refine Ar (v0*2:Nat) rfl ?_
     refine Dw rfl ?_
     refine Ar ((i-1:Nat):Int) rfl ?_
     refine Ar ((i-2:Nat):Int) rfl ?_
     refine Ar ((v0*2+1:Nat):Int) rfl ?_
     refine Yx (v0*2+1) (UInt8.ofNat (48+v0%10)) rfl (tbl v0 Bv0).1 ?_
     refine Yx (v0*2) (UInt8.ofNat (48+v0/10)) rfl (tbl v0 Bv0).2 ?_
     refine Eo (i-1) rfl (by omega) ?_
     refine Stb (UInt8.ofNat (48+v0%10)) rfl (by simp only[W0j,W0d,W0g,W0u];omega) (st1 (by omega) (by omega)) ?_
     refine Eo (i-2) rfl (by omega) ?_
     refine Stb (UInt8.ofNat (48+v0/10)) rfl (by simp only[W0j,W0d,W0g,W0u];omega) (st1 (by omega) (by omega)) ?_
     refine Dw rfl ?_
     refine Ar ((i-3:Nat):Int) rfl ?_
     refine Ar ((i-4:Nat):Int) rfl ?_
     refine Ar ((v1*2+1:Nat):Int) rfl ?_
     refine Yx (v1*2+1) (UInt8.ofNat (48+v1%10)) rfl (tbl v1 Bv1).1 ?_
     refine Yx (v1*2) (UInt8.ofNat (48+v1/10)) rfl (tbl v1 Bv1).2 ?_
     refine Eo (i-3) rfl (by omega) ?_
     refine Stb (UInt8.ofNat (48+v1%10)) rfl (by simp only[W0j,W0d,W0g,W0u];omega) (st1 (by omega) (by omega)) ?_
     refine Eo (i-4) rfl (by omega) ?_
     refine Stb (UInt8.ofNat (48+v1/10)) rfl (by simp only[W0j,W0d,W0g,W0u];omega) (st1 (by omega) (by omega)) ?_
     refine Ar ((i-4:Nat):Int) rfl ?_
     refine Jn (i-4,u/10000,d2 v1++(d2 v0++acc)) [] rfl ⟨by omega,by omega,?_,?_⟩
     . obtain⟨q,rfl⟩:∃q,i=q+4:=⟨i-4,by omega⟩
       rw[W0y] at hu
       rw[W3u]
       exact W4r (by rw[W1f];exact hu)
     . obtain⟨q,rfl⟩:∃q,i=q+4:=⟨i-4,by omega⟩
       rw[W3u,<-hI,show q+4=q+2+2 from rfl,Yfm,Yfm]
       rw[show u/100/100=u/10000 by omega,show u%100=v0 by omega,show u/100%100=v1 by omega]
       simp only[W4v]
   . exact Jn (i,u,acc) [] rfl ⟨hi,by omega,hu,hI⟩
 clear hu8 hi8 h hI hu9 hu hi acc u i
 rintro⟨i,u,acc⟩ ⟨hi,hi4,hu,hI⟩
 have hu4:u<10^4:=W0v hu (W0l (by decide) (by omega))
 refine Cu none (λ((i,u,acc):Nat×Nat×List UInt8)=>[(0,.own 1000001 1 0 nd),(12,.d (.int .u32 u)),(4,.d (.int .i64 i))]) (λ(i,_,acc)=>[(1000001,.arr 1 ((z0.take i++acc).map b8))])
  (λ(i,u,acc)=>i<=nd/\i<2/\u<10^i/\dgs i u++acc=dgs nd x++z0.drop nd) rfl ?_ ?_
 . refine By rfl (λh4=>?_) λh4=>?_
   . obtain⟨v0,hv0⟩:∃w,w=u%100:=⟨_,rfl⟩
     have Bv0:v0<100:=by omega
     refine Ar v0 rfl ?_ (reN (b:=100) (by decide) hv0.symm)
     refine Ar (v0*2:Nat) rfl ?_
     refine Ar (u/100:Nat) rfl ?_ (quN (b:=100) (by decide) rfl (by simp only[inK];omega))
     refine Dw rfl ?_
     refine Ar ((i-1:Nat):Int) rfl ?_
     refine Ar ((i-2:Nat):Int) rfl ?_
     refine Ar ((v0*2+1:Nat):Int) rfl ?_
     refine Yx (v0*2+1) (UInt8.ofNat (48+v0%10)) rfl (tbl v0 Bv0).1 ?_
     refine Yx (v0*2) (UInt8.ofNat (48+v0/10)) rfl (tbl v0 Bv0).2 ?_
     refine Eo (i-1) rfl (by omega) ?_
     refine Stb (UInt8.ofNat (48+v0%10)) rfl (by simp only[W0j,W0d,W0g,W0u];omega) (st1 (by omega) (by omega)) ?_
     refine Eo (i-2) rfl (by omega) ?_
     refine Stb (UInt8.ofNat (48+v0/10)) rfl (by simp only[W0j,W0d,W0g,W0u];omega) (st1 (by omega) (by omega)) ?_
     refine Ar ((i-2:Nat):Int) rfl ?_
     refine Jn (i-2,u/100,d2 v0++acc) [] rfl ⟨by omega,by omega,?_,?_⟩
     . obtain⟨q,rfl⟩:∃q,i=q+2:=⟨i-2,by omega⟩
       rw[W0y] at hu
       rw[W3u]
       exact W4r (by rw[W1f];exact hu)
     . obtain⟨q,rfl⟩:∃q,i=q+2:=⟨i-2,by omega⟩
       rw[W3u,<-hI,Yfm,<-hv0]
       simp only[W4v]
   . exact Jn (i,u,acc) [] rfl ⟨hi,by omega,hu,hI⟩
 clear hu4 hi4 hI hu hi acc u i
 rintro⟨i,u,acc⟩ ⟨hi,hi2,hu,hI⟩
 refine By rfl (λh4=>?_) λh4=>?_
 . have:i=1:=by omega
   subst this
   have hu1:u<10:=by simpa using hu
   refine Ar (48+u:Nat) rfl ?_
   refine Go.Vm.Cv (48+u:Nat) rfl ?_
   refine Eo 0 rfl (by omega) ?_
   refine Stb (UInt8.ofNat (48+u)) rfl (by simp only[W0j,W0d,W0g];omega) (st1 (i:=1) rfl (by omega)) ?_ (by rw[dg hu1])
   refine Rw [] [(1000001,.arr 1 ((z0.take 0++UInt8.ofNat (48+u)::acc).map b8))] rfl (.tup (.one (.rf rfl) (λ_ _ e=>by cases e) (λ_ _ e=>by cases e))) ?_
   rw[<-hI,dgs,dgs,W3z hu1];rfl
 . have:i=0:=by omega
   subst this
   refine Rw [] [(1000001,.arr 1 ((z0.take 0++acc).map b8))] rfl (.tup (.one (.rf rfl) (λ_ _ e=>by cases e) (λ_ _ e=>by cases e))) ?_
   rw[<-hI,dgs];rfl
end
section
theorem Xmd{x:Nat}(hx:x<1000000000): C0 171 [.d (.int .u64 x),.d (.int .i64 10)] (·=.d (.str (dec x))):=by
 have h1:C0 253 [.d (.int .u64 x),.d (.int .i64 10)] (·=.d (.str (dec x))):=by
  refine En Tryz.func253 λ_ _ _=>?_
  refine Yes rfl rfl ?_
  refine By rfl (λh=>?_) λh=>?_
  . refine Go.Vm.Cv x rfl ?_
    refine Ce rfl (Xy1 (by omega)) ?_
    exact R0
  . have hl:=Xfu 8 x hx
    have hg:=Xfb 2 x (by omega)
    refine Va 5 5 900 24 ((List.replicate 24 (0:UInt8)).map b8) rfl rfl (by decide) rfl ?_
    refine Ce rfl (Xm1 (by omega) hx) ?_
    refine Sp (dec x).length rfl (by omega) (by decide) ?_ (by decide)
    refine Cw (args:=[.own 1000001 1 0 (dec x).length,.d (.int .u64 x)]) [(1000001,900)] rfl (Xje (z0:=List.replicate 24 (0:UInt8)) hl hx (Yj4 x) (by simp;omega) (by simp)) (λv H' _ hv=>?_) rfl
    subst hv
    refine Sp (dec x).length rfl (by omega) (by decide) ?_ (by decide)
    refine Bo (dec x) rfl ?_ ?_ ?_
    . simp[Xw8]
    . rw[Xw8]
      simp only[W1d]
      rw[<-W2d,W6h rfl,Xxq]
    . exact R0
 refine En Tryz.func171 λ_ _ _=>?_
 refine Ce rfl h1 ?_
 exact R0
end
section
theorem Xee{s t:List UInt8}(hs:Tx s)(ht:Tx t): C0 175 [.d (.str s),.d (.str t)] (·=.b (dc (s.take t.length=t))):=by
 refine En Tryz.func175 λ_ _ _=>?_
 refine Ce rfl (Xhu hs ht) ?_
 exact R0
theorem Ygd{n:Nat}(hn:n<65): C0 174 [.d (.int .u64 1),.d (.int .u64 n)] (·=.tup (.pr (.d (.int .u64 0)) (.d (.int .u64 n)))):=by
 have h1:C0 255 [.d (.int .u64 1),.d (.int .u64 n)] (·=.tup (.pr (.d (.int .u64 0)) (.d (.int .u64 n)))):=by
  refine En Tryz.func255 λ_ _ _=>?_
  refine Ar 1 rfl ?_ (by simp only[arB];decide +kernel)
  refine Ar 0 rfl ?_ (by simp only[arB];decide +kernel)
  refine Ar n rfl ?_ (by simp only[arB];revert hn;generalize n=j;revert j;decide +kernel)
  refine Ar 0 rfl ?_ (by simp only[arB];revert hn;generalize n=j;revert j;decide +kernel)
  refine Ar n rfl ?_
  refine Ar 0 rfl ?_
  refine Ar 0 rfl ?_ (by simp only[arB];revert hn;generalize n=j;revert j;decide +kernel)
  refine Ar 0 rfl ?_
  refine Ar 0 rfl ?_ (by simp only[arB];decide +kernel)
  refine Ar 0 rfl ?_ (by simp only[arB];decide +kernel)
  refine Ar 0 rfl ?_
  refine Ar 0 rfl ?_
  refine Ar 0 rfl ?_
  refine Ar 0 rfl ?_
  refine Ar 0 rfl ?_ (by simp only[arB];decide +kernel)
  refine Ar 0 rfl ?_
  refine Ar n rfl ?_
  exact R0t
 refine En Tryz.func174 λ_ _ _=>?_
 refine Ce rfl h1 ?_
 exact R0t
theorem Xkr{n:Nat}(hn:n<65): C0 104 [.d (.str [48]),.d (.int .i64 n)] (·=.d (.str (List.replicate n 48))):=by
 refine En Tryz.func104 λ_ _ _=>?_
 refine By rfl (λh=>?_) λh=>?_
 . have:n=0:=by omega
   subst this;exact R1 rfl (.eq rfl)
 refine By rfl (λh1=>?_) λh1=>?_
 . have:n=1:=by omega
   subst this;exact R1 rfl (.eq rfl)
 refine No rfl (by omega) ?_
 refine Go.Vm.Cv 1 rfl ?_ (by decide)
 refine Go.Vm.Cv n rfl ?_
 refine Ce rfl (Ygd hn) ?_
 refine No rfl (by decide) ?_
 refine No rfl (by omega) ?_
 refine Go.Vm.Cv n rfl ?_
 refine No rfl (by decide) ?_
 refine Yx 0 48 rfl rfl ?_
 refine No rfl (by decide) ?_
 refine No rfl (by decide) ?_
 refine Yes rfl (by decide) ?_
 refine Yes rfl (by omega) ?_
 refine Ce rfl (Xee (by decide) (by decide)) ?_
 refine No rfl (by decide) ?_
 refine Yes rfl (by omega) ?_
 refine Ce rfl (Xee (by decide) (by decide)) ?_
 refine No rfl (by decide) ?_
 refine Yes rfl (by omega) ?_
 refine Ce rfl (Xee (by decide) (by decide)) ?_
 refine Yes rfl (by decide) ?_
 refine Stk n (List.replicate n 48) rfl (by simp;omega) ?_ ?_
 . clear h h1
   revert hn;generalize n=j;revert j;decide +kernel
 . exact R0
end
section
end
section
end
section
end
section
end
end Go.Proofs.YtegepebhkhhhoaaGreatDoor
namespace Go.Num
open Go.Proofs.YtegepebhkhhhoaaGreatDoor
section
end
section
theorem Xqw{k m d:Nat}(hd:d<10)(hm:m<10^(k+1)): pad k (dec m)++[UInt8.ofNat (48+d)]=pad (k+1) (dec (10*m+d)):=by
 by_cases h0:m=0
 . subst h0
   rw[show 10*0+d=d by omega,Xeh hd,Xeh (show 0<10 by decide)]
   show List.replicate (k+1-1) 48++[UInt8.ofNat (48+0)]++[UInt8.ofNat (48+d)]=List.replicate (k+1+1-1) 48++[UInt8.ofNat (48+d)]
   rw[show k+1+1-1=k+1-1+1 by omega,W6t]
   rfl
 . have e:dec (10*m+d)=dec m++[UInt8.ofNat (48+d)]:=by
    rw[Xgp (show 10<=10*m+d by omega),show (10*m+d)/10=m by omega,show (10*m+d)%10=d by omega]
   rw[e]
   unfold pad
   rw[W0d,W6p,show k+1+1-((dec m).length+1)=k+1-(dec m).length by omega,W4v]
theorem Xxa: ∀(k n:Nat),10^(k+1)<=n->dec n=dec (n/10^(k+1))++pad k (dec (n%10^(k+1)))
 | 0,n,h=>by
  have h:10<=n:=h
  rw[Xgp h]
  show _=dec (n/10)++pad 0 (dec (n%10))
  rw[Xeh (n:=n%10) (W1x _ (by decide))]
  rfl
 | k+1,n,h=>by
  have e1:10^(k+1+1)=10*10^(k+1):=by rw[W0z];omega
  have hp:0<10^(k+1):=Nat.pow_pos (by decide)
  have h10:10<=n:=by omega
  have ih:=Xxa k (n/10) (by rw[W7l (by decide)];omega)
  have hm:n/10%10^(k+1)<10^(k+1):=W1x _ hp
  rw[Xgp h10,ih,W4v,Xqw (W1x _ (by decide)) hm,W6j,<-e1]
  congr 3
  have:=Nat.mod_mul (a:=10) (b:=10^(k+1)) (x:=n)
  rw[e1,this];omega
def cks(n:Nat): List Nat:=if h:n=0 then [] else n%1000000000::cks (n/1000000000)
termination_by n
decreasing_by omega
theorem Xfc: cks 0=[]:=by rw[cks,dif_pos rfl]
theorem Xfv{n:Nat}(h:n≠0): cks n=n%1000000000::cks (n/1000000000):=by rw[cks,dif_neg h]
theorem Yke: ∀(n c:Nat),c∈cks n->c<1000000000:=λn=>by
 induction n using Nat.strongRecOn with
 | _ n ih =>
  intro c hc
  by_cases h:n=0
  . subst h;rw[Xfc] at hc;cases hc
  . rw[Xfv h,W1n] at hc
    rcases hc with rfl | hc
    . omega
    . exact ih _ (by omega) c hc
theorem Xxm: ∀ {k n:Nat},n<4294967296^k->(cks n).length<=2*k
 | 0,n,h=>by
  have:n=0:=by simpa using h
  subst this;rw[Xfc];exact W0b _
 | k+1,n,h=>by
  by_cases h0:n=0
  . subst h0;rw[Xfc];exact W0w _
  . rw[Xfv h0]
    by_cases h1:n/1000000000=0
    . rw[h1,Xfc];simp;omega
    . rw[Xfv h1]
      have:=Xxm (k:=k) (n:=n/1000000000/1000000000) (by
       rw[W0z] at h
       rw[W6j,W2r (by decide)]
       refine W0v h (W0t _ (by decide)))
      simp only[W0u];omega
def Xzm: List Nat->List UInt8
 | []=>[]
 | [c]=>dec c
 | c::e::l=>Xzm (e::l)++pad 8 (dec c)
theorem Xzl: ∀n,n≠0->Xzm (cks n)=dec n:=λn=>by
 induction n using Nat.strongRecOn with
 | _ n ih =>
  intro h
  rw[Xfv h]
  by_cases h2:n/1000000000=0
  . rw[h2,Xfc]
    show dec (n%1000000000)=_
    congr 1;omega
  . have:=ih (n/1000000000) (by omega) h2
    rw[Xfv h2] at this |-
    show Xzm (n/1000000000%1000000000::cks (n/1000000000/1000000000))++pad 8 (dec (n%1000000000))=_
    rw[this]
    exact(Xxa 8 n (by show 1000000000<=n;omega)).symm
theorem Xu2{c:Nat}{l:List Nat}(h:l≠[]): Xzm (c::l)=Xzm l++pad 8 (dec c):=by
 cases l with
 | nil=>exact absurd rfl h
 | cons e l=>rfl
end
section
theorem Yo0{l:List UInt8}: l.all isD=true↔∀b∈l,Xvz b:=by
 rw[W1o]
 exact⟨λh b hb=>Ymz.1 (h b hb),λh b hb=>Ymz.2 (h b hb)⟩
theorem Yfo: ∀(k:Nat) (l:List UInt8),l.length=k+1->(∀b∈l,Xvz b)->pad k (dec (Xyd l))=l:=λk=>by
 induction k with
 | zero =>
  intro l hl hd
  match l,hl with
  | [x],_ =>
   have hx:=hd x (by simp)
   unfold Xvz at hx
   rw[Yaf,Xeh (by omega)]
   show [UInt8.ofNat (48+(x.toNat-48))]=[x]
   rw[show 48+(x.toNat-48)=x.toNat by omega];simp
 | succ k ih =>
  intro l hl hd
  obtain⟨m,x,rfl⟩:∃m x,l=m++[x]:=⟨l.dropLast,l.getLast (by intro e;rw[e] at hl;simp at hl),(List.dropLast_concat_getLast _).symm⟩
  have hm:m.length=k+1:=by simpa using hl
  have hdm:∀b∈m,Xvz b:=λb hb=>hd b (by simp[hb])
  have hx:=hd x (by simp)
  unfold Xvz at hx
  have h1:=Yfk hdm
  rw[hm] at h1
  rw[Xni,<-Xqw (by omega) h1,ih m hm hdm,show 48+(x.toNat-48)=x.toNat by omega]
  simp
end
end Go.Num
namespace Go.Proofs.YtegepebhkhhhoaaGreatDoor
open Go Go.Num Go.Tow
abbrev scl(k:Nat)(t:Tw k)(a:El k)(u h:Rat): El k:=add k (mul k t a (rat k u)) (rat k h)
section
variable{k:Nat}{t:Tw k}{a:El k}
theorem Xtv{u:Rat}: toL k (mul k t a (rat k u))=(toL k a).map (u*·):=by rw[(Xay k t).mc,Xh4]
theorem Xm3{m n:Nat}{u:Rat}(ha:MgL m (toL k a))(hu:Qs n u): MgL (n+m) (toL k (mul k t a (rat k u))):=λx hx=>by
 rw[Xtv] at hx
 obtain⟨y,hy,rfl⟩:=W3s.1 hx
 exact hu.mul (ha y hy)
theorem Xvm{n:Nat}{h:Rat}(hh:Qs n h)(h1:1<=n): MgL n (toL k (rat k h)):=λx hx=>by
 rw[Xcw] at hx
 rcases W1n.1 hx with rfl | hx
 . exact hh
 . obtain rfl:=(W5p.1 hx).2
   exact Qs.int (z:=0) (by unfold Zs;exact Nat.pow_pos (by decide)) h1
theorem Xvn{m n:Nat}{b:El k}(ha:MgL m (toL k a))(hb:MgL n (toL k b)): MgL (m+n+1) (toL k (add k a b)):=λx hx=>by
 rw[Xax] at hx
 obtain⟨i,hi⟩:=W2w hx
 rw[W5r] at hi
 split at hi
 . rename_i y z hy hz
   cases hi
   exact(ha y (W0h hy)).add (hb z (W0h hz))
 . cases hi
end
end Go.Proofs.YtegepebhkhhhoaaGreatDoor
namespace Go.Proofs.YtegepebhkhhhoaaGreatDoor.R1
open Go Go.Vm Go.Num Go.Proofs.YtegepebhkhhhoaaGreatDoor
end Go.Proofs.YtegepebhkhhhoaaGreatDoor.R1
namespace Go.Proofs.YtegepebhkhhhoaaGreatDoor.R11
open Go Go.Vm Go.Num Go.Proofs.YtegepebhkhhhoaaGreatDoor
section
theorem Xtr{z:Int}(h:z<0): tx z=45::dec z.natAbs:=by rw[tx,if_pos h];rfl
theorem Xtq{z:Int}(h:¬z<0): tx z=dec z.natAbs:=by rw[tx,if_neg h];rfl
end
section
end
section
end
end Go.Proofs.YtegepebhkhhhoaaGreatDoor.R11
namespace Go.Proofs.YtegepebhkhhhoaaGreatDoor.P11
open Go Go.Vm Go.Num Go.Tow Go.Proofs.YtegepebhkhhhoaaGreatDoor Go.Proofs.YtegepebhkhhhoaaGreatDoor.P9 Go.Proofs.YtegepebhkhhhoaaGreatDoor.R11
structure Pk (x:Nm):Prop where
 k:x.k<=3
 re:Xb9 x.k x.t
 t:TS 300 x.k x.t
 mt:MgT 64 x.k x.t
 ml:MgL 64 (toL x.k x.a)\/(x.k=0/\MgL 1700 (toL x.k x.a))
theorem MgL.mono'{m n:Nat}{l:List Rat}(h:MgL m l)(hn:m<=n): MgL n l:=λx hx=>(h x hx).mono hn
theorem MgT.mono': ∀ {k m n:Nat} {t:Tw k},MgT m k t->m<=n->MgT n k t
 | 0,_,_,_,_,_=>trivial
 | _+1,_,_,_,h,hn=>⟨MgT.mono' h.1 hn,MgL.mono' h.2 hn⟩
theorem Xsa{k n:Nat}{a:El k}(h:MgL n (toL k a))(hk:k<=3/\n<=400\/k=0/\n<=3999): Sz 4000 (toL k a):=by
 refine(Sz.all h).mono ?_
 rw[Xab]
 rcases hk with ⟨h3,hn⟩ | ⟨rfl,hn⟩
 . have hp:2^k<=2^3:=W0l (by decide) h3
   have:=W2c hn hp
   omega
 . rw[Nat.pow_zero];omega
structure Scd (x:Nm) (u h:Rat):Prop where
 s1:Sz 4000 (toL x.k (mul x.k x.t x.a (rat x.k u)))
 s2:Sz 4000 (toL x.k (scl x.k x.t x.a u h))
 w1:Wid (bx x.k x.t (scl x.k x.t x.a u h) 2048) 1
 w2:∀b,1000000<=b->Wid (enc x.k x.t (scl x.k x.t x.a u h) b) 1
theorem Pk.sz{x:Nm}(H:Pk x): Sz 4000 (toL x.k x.a):=by
 rcases H.ml with h | ⟨h0,h⟩
 . exact Xsa h (.inl ⟨H.k,by decide⟩)
 . exact Xsa h (.inr ⟨h0,by decide⟩)
theorem Pk.sc{x:Nm}(H:Pk x){u h:Rat}(hu:Qs 200 u)(hh:Qs 2 h): Scd x u h:=by
 rcases H.ml with hl | ⟨h0,hl⟩
 . have m1:=Xm3 (t:=x.t) hl hu
   have m2:=Xvn m1 (Xvm (k:=x.k) hh (by decide))
   exact⟨Xsa m1 (.inl ⟨H.k,by decide⟩),Xsa m2 (.inl ⟨H.k,by decide⟩),Yfv H.re H.mt (MgL.mono' m2 (by decide)) H.k,Xjh H.re (MgT.mono' H.mt (by decide)) (MgL.mono' m2 (by decide)) H.k (show 10000<=10000 by decide)⟩
 . have m1:=Xm3 (t:=x.t) hl hu
   have m2:=Xvn m1 (Xvm (k:=x.k) hh (by decide))
   refine⟨Xsa m1 (.inr ⟨h0,by decide⟩),Xsa m2 (.inr ⟨h0,by decide⟩),?_,Xjh H.re (MgT.mono' H.mt (by decide)) (MgL.mono' m2 (by decide)) H.k (show 10000<=10000 by decide)⟩
   obtain⟨k,t,a⟩:=x
   obtain rfl:k=0:=h0
   exact(Xht (m:=64) (b:=2048) H.re H.mt m2 (show 0<eE 64 2048 0 _ by exact(by decide:0<2*2048-2))).mono (show 1<=2*2048-2 by decide)
theorem Yhe{n:Nat}(hn:n<=60): Qs 200 ((10^n:Int):Rat):=by
 have h1:(10:Nat)^n<=10^60:=W0l (by decide) hn
 refine Qs.int ?_ (by decide)
 show ((10:Int)^n).natAbs<2^200
 rw[Int.natAbs_pow]
 exact W1y h1 (by decide)
theorem Ynk{k:Nat}(hk:k<=3): eB 4000 (2*(1000000+1+16)) k<=274877906944/\vB 4000 k (4000+eB 4000 (2*(1000000+1+16)) k+4)<=4398046511104/\vB 4000 k (4000+bB 4000 2048 k+4)<=4398046511104/\bB 4000 2048 k<=274877906944/\cB 300 k<=1000000000:=by
 have h:k=0\/k=1\/k=2\/k=3:=by omega
 rcases h with rfl | rfl | rfl | rfl<;>decide +kernel
theorem Xzg{n:Nat}(hn:n<=400): C0 248 [.d (.int .i64 n)] (·=.d (dz (10^n))):=by
 refine En Tryz.func248 λ_ _ _=>?_
 refine Ce rfl (FromInt_ok (z:=10) (by decide)) ?_
 refine Ce rfl (Ye4 (z:=10) (q:=4) (show (10:Int).natAbs<2^4 by decide) (by omega) (by decide)) ?_
 exact R1 rfl (.rf rfl)
theorem Xyi{z:Int}{p:Nat}(hz:Zs p z)(hp:1<=p)(hp2:p<=8796093022208): C0 247 [.d (dz z)] (·=.d (dq (z:Rat))):=by
 have h:=Make_ok hz (Zs.one hp) hp2 (by decide)
 rw[Xw5] at h
 refine En Tryz.func247 λ_ _ _=>?_
 refine Dw rfl ?_
 refine Ce rfl (FromInt_ok (z:=1) (by decide)) ?_
 refine Ce rfl h ?_
 exact R1 rfl (.rf rfl)
theorem Xib{x:Nm}{d:Nat}{h:Rat}(H:Pk x)(hd:d<=60)(hh:Qs 2 h): C0 165 [.d (dN x),.d (.int .i64 d),.d (dq h)] λv=>∃z,v=.tup (.pr (.d (dz z)) (.d (.int .i64 0)))/\Xdm x.k x.t (scl x.k x.t x.a ((10^d:Int):Rat) h) z/\(dig z.natAbs).length<=274877906944:=by
 have hu:=Yhe hd
 have S:=H.sc hu hh
 obtain⟨b1,b2,b3,b4,b5⟩:=Ynk H.k
 have hz:Zs 200 (10^d:Int):=hu.n
 refine En Tryz.func165 λ_ _ _=>?_
 refine No rfl (by omega) ?_
 refine No rfl (by omega) ?_
 refine Dw rfl ?_
 refine Ce rfl (Xzg (by omega)) ?_
 refine Ce rfl (Xyi hz (by decide) (by decide)) ?_
 refine Ce rfl (P9.FromRat_ok hu (by decide)) ?_
 refine Ce rfl (Ynv H.t H.sz hu (by have:=H.k;omega) (by decide) (by decide) (by decide) b5) ?_
 refine No rfl (by decide) ?_
 refine Dw rfl ?_
 refine Ce rfl (P9.FromRat_ok hh (by decide)) ?_
 refine Ce rfl (Ynz (x:=⟨x.k,x.t,mul x.k x.t x.a (rat x.k ((10^d:Int):Rat))⟩) H.t S.s1 hh (by have:=H.k;show x.k<=8;omega) (by decide) (by decide) (by decide)) ?_
 refine No rfl (by decide) ?_
 refine Ca rfl (Xui (P:=1000000) H.re S.w2 (H.t.mono (by decide)) S.s2 (by decide) (show x.k<=16 by have:=H.k;omega) (by decide) b1 b2) λv hv=>?_
 obtain⟨z,rfl,hz⟩:=hv
 exact Rt rfl (.tup (.cons (.rf rfl) Xa2)) ⟨z,rfl,hz⟩
abbrev hf: Rat:=Rat.divInt 1 2
theorem Ym3: Qs 2 hf:=⟨show hf.num.natAbs<2^2 by decide,show ((hf.den:Int)).natAbs<2^2 by decide⟩
theorem Ya0{x:Nm}{d:Nat}(H:Pk x)(hd:d<=60): C0 101 [.d (dN x),.d (.int .i64 d)] λv=>∃z,v=.tup (.pr (.d (dz z)) (.d (.int .i64 0)))/\Xdm x.k x.t (scl x.k x.t x.a ((10^d:Int):Rat) hf) z/\(dig z.natAbs).length<=274877906944:=by
 refine En Tryz.func101 λ_ _ _=>?_
 refine Dw rfl ?_
 refine Ce rfl (Xcm (a:=1) (b:=2) (by decide) (by decide)) ?_
 refine Ca rfl (Xib H hd Ym3) λv hv=>?_
 obtain⟨z,rfl,hz⟩:=hv
 exact Rt rfl (.tup (.cons (.rf rfl) Xa2)) ⟨z,rfl,hz⟩
end Go.Proofs.YtegepebhkhhhoaaGreatDoor.P11
namespace Go.Vm
open Go
abbrev cxM(P:Program)(gb:Gb P)(t:Tab P)(m:Mx P)(hpr:∀T ti,t.tb T=some ti->∀a c,ti.z≠.pr a c)(n:Nat)(hn:n<=1000000)(fn:Func)(W:GW)(Q:AV->Prop)(hg:gb.g W): Cx:=⟨P,gb,t.tb,λT ti h=>⟨t.ok T ti h,hpr T ti h⟩,m,n,hn,W,λ_=>False,θe,bodyPostM Fence.wide 8 P fn (Ret W Q),hg⟩
theorem EnM {P : Program} [gb : Gb P] [t : Tab P] [hp : Npr P] [m : Mx P] {f n : Nat} {fn : Func} {x : Code} {args : List AV} {Q : AV → Prop} (hf : P.funcs[f]? = some fn) (h : ∀ W hg hn, StP (cxM P gb t m hp.h n hn fn W Q hg) (.j [] [.c x] (Ygp 0 args) [])) (hname : (fn.name == "runtime.NumGoroutine") = false := by exact rfl) (hb : fn.body = some x := by exact rfl)
 (hN:fn.ntmps=n:=by exact rfl) (hl:(Nat.ble args.length n&&Nat.ble n 1000000&&args.all Xlm)=true:=by exact rfl):C P f args Q:=by
 refine⟨⟨fn,hf,hname,by rw[hb];rfl⟩,λW vs hg ha=>(callsIn_wide (n:=8)).1 (callsIn_of_wp_marks hf hb trivial (wpIn_wide.2 ?_) rfl)⟩
 have h:=h W hg (by simp only[W0f] at hl;exact W1i hl.1.2)
 simp only[StP,sem,<-Xl9] at h
 simp only[W0f] at hl
 obtain⟨⟨hl1,hl2⟩,hl3⟩:=hl
 have hl1:=W1i hl1
 have hlen:=ha.len
 refine wp_mono (h _ W.w ⟨_,W,θe,rfl,⟨Fm.refl W _,⟨rfl,by simp[hN];omega,λt v ht=>?_⟩,⟨λo x h=>(by cases h),λo x b h=>(by cases h),λo o' x x' b h=>(by cases h),λo x i h=>(by cases h)⟩,λt v i ht hi=>?_⟩,λ_ _=>rfl,rfl⟩) λe a w h=>by cases e<;>exact h
 . obtain⟨_,u,h2,h3,_⟩:=Xnz ha ht
   rw[W5y] at h2
   have hlt:=Xbf h2
   rw[W0c hlt] at h2
   injection h2 with h2
   simp only[Array.getD]
   rw[dif_pos (by simp;omega)]
   simp[W6z,hlt,h2]
   exact h3
 . obtain⟨_,u,_,_,h4⟩:=Xnz ha ht
   exact absurd hi (Xll (W1o.1 hl3 v h4) i)
theorem StP.rest2{c:Cx}{G:List (Nat×Bool)}{x y:Code}{E:Env}{H:Hpl}(h:∀a w,c.Nx (λs'=>s'=sem E H) a w->x.wp c.P (Exit.then (y.wp c.P c.fin) c.fin) a w): StP c (.j G [.c x,.c y] E H) :=
 λa w hw=>wp_mono (h a w hw) λe a w h=>by
  cases e with
  | normal=>exact wp_mono h λe a w h=>by cases e<;>exact h
  | _=>exact h
theorem Tl{c:Cx}{s:St}(id:Nat){G:List (Nat×Bool)}{x y:Code}{E:Env}{H:Hpl}(h:nxT c.tb c.n (some id) s=some (G,x,[.c y],E,H))(k:∀a w,c.Nx (λs'=>s'=sem E H) a w->x.wpIn Fence.wide 8 c.P (Exit.then (y.wpIn Fence.wide 8 c.P c.fin) c.fin) a w): StP c s:=by
 have key:StP c (.j G [.c x,.c y] E H):=StP.rest2 λa w hw=>wp_mono (wpIn_wide.1 (k a w hw)) λe a w h=>by
  cases e with
  | normal=>exact wpIn_wide.1 h
  | _=>exact h
 unfold nxT at h
 simp only at h
 split at h<;>cases h
 rename_i hr
 exact Xg6 1000 (by rw[hr];exact key)
theorem Xah{α:Type}{n:Nat}: ∀ {l:List α},l.length=n+1->∃t l',l=t::l'/\l'.length=n
 | t::l',h=>⟨t,l',rfl,by simpa using h⟩
end Go.Vm
namespace Go.Proofs.YtegepebhkhhhoaaGreatDoor
open Go Go.Vm Go.Num Go.Proofs Go.Shelf Go.RowKit
section
end
section
theorem Xvy{q n:Nat}{l:List Nat}(hw:Xar l)(hq:q+n<=l.length)(hl:n<=1099511627776): CN0 168 [.own 1000001 1 q n] [(1000001,.arr 1 (l.map wd))] λv=>∃k,k<=n/\v=.own 1000001 1 q k/\(l.drop q).take k=dig (val ((l.drop q).take n)):=by
 have dtk:∀ {m k:Nat},k<m->((l.drop q).take m)[k]?=l[q+k]?:=λh=>by rw[W1e,if_pos h,W1q]
 have Xye:∀ {m:Nat},q+m<=l.length->((l.drop q).take m).length=m:=λh=>by rw[W0g,W1j];omega
 refine EnW Tryz.func168 λ_ _ _ _=>?_
 refine Lo (λk=>[(0,.own 1000001 1 q k)]) (λ_=>[(1000001,.arr 1 (l.map wd))]) (λk=>k<=n/\val ((l.drop q).take k)=val ((l.drop q).take n)) id n [] rfl ⟨W0b _,rfl⟩ λk ⟨hk,hv⟩=>?_
 have hwk:=(hw.drop q).take k
 refine By rfl (λh=>?_) λh=>?_
 . obtain⟨u,hu⟩:=xat (l:=l) (k:=q+(k-1)) (by omega)
   have hs:=Xac (l:=l.drop q) (k:=k-1) (x:=u) (by rw[W1q];exact hu)
   rw[show k-1+1=k by omega,hv] at hs
   refine Ar (k-1:Nat) rfl ?_
   refine El (k-1) rfl (by omega) ?_
   refine Ld (wd u) rfl (mp hu) ?_
   refine By rfl (λh0=>?_) λh0=>?_
   . refine Ar (k-1:Nat) rfl ?_
     refine Sw 0 (k-1) rfl (by omega) (by omega) ?_
     exact Bk (k-1) [] rfl ⟨by omega,by rw[hs,show u=0 by omega,W3e,W2j]⟩ (show k-1<k by omega)
   . exact Rw [] [(1000001,.arr 1 (l.map wd))] rfl (.one (.rf rfl) rfl rfl) ⟨rfl,k,hk,rfl,by rw[<-hv,Xfr hwk (.inr ⟨u,by rw[Xye (by omega),dtk (by omega)];exact hu,λe=>h0 (by rw[e];rfl)⟩)]⟩
 . refine Rw [] [(1000001,.arr 1 (l.map wd))] rfl (.one (.rf rfl) rfl rfl) ⟨rfl,k,hk,rfl,?_⟩
   rw[show k=0 by omega] at hv |-
   rw[<-hv,W5c,val,Xan]
theorem Xl7{l:List Nat}(h0:0<l.length)(hl:l.length<=1099511627776): CA0 167 [.d (ws l)] 1 (l.map wd):=by
 refine EnW Tryz.func167 λ_ _ _ _=>?_
 refine Ub rfl (λh=>?_) ?_
 . exact absurd h (by intro e; have:l.length = 0 := by simpa using congrArg List.length e
                      omega)
 refine ApL (l.map wd) rfl rfl (by simpa using h0) (by simpa using hl) ?_
 exact Rw [(7,1000000)] [(1000000,.arr 1 (l.map wd))] rfl (.one (.rf rfl) rfl rfl) ⟨_,rfl,rfl,rfl⟩
theorem Xpq: C0 103 [.d (dz 0)] (·=.d (.str [48])):=by
 refine En Tryz.func103 λ_ _ _=>?_
 refine Ce rfl (Xcp (n:=0) (by rw[Xan];decide)) ?_
 refine Ce rfl (Xbv (l:=dig 0) (by rw[Xan];decide)) ?_
 refine Yes rfl (by rw[Xan];rfl) ?_
 exact R0
def Fm9(z x n:Nat)(lo cs:List Nat): Prop:=n<=lo.length/\lo.length<=549755813888/\Xar lo/\lo.take n=dig x/\cks z=cs++cks x
theorem Ygg{z x n:Nat}{lo cs:List Nat}(h:Fm9 z x n lo cs): n=(dig x).length:=by
 have:=congrArg List.length h.2.2.2.1
 rw[W0g,W2e h.1] at this
 exact this
end
section
def rnB: Ren:=⟨λn=>match n with
 | 166=>172
 | 167=>169
 | 169=>173
 | 240=>251
 | 276=>302
 | _=>0,λn=>match n with
 | 3=>3
 | 4=>4
 | 5=>5
 | 9=>9
 | 20=>20
 | 37=>24
 | 70=>177
 | 72=>179
 | 75=>181
 | 80=>189
 | 127=>234
 | 164=>266
 | _=>0,λn=>n⟩
theorem Yi7: Lays.n166 Tryz.prog rnB where
 mixed:=by kernel_rfl
 f166:=by kernel_rfl
 f240:=by kernel_rfl
 f276:=by kernel_rfl
 t0:=by kernel_rfl
 a0:=λ_=>by kernel_rfl
 z0:=λ_=>by kernel_rfl
 v0:=λ_=>by kernel_rfl
 t3:=by kernel_rfl
 a3:=λ_=>by kernel_rfl
 z3:=λ_=>by kernel_rfl
 v3:=λ_=>by kernel_rfl
 t4:=by kernel_rfl
 a4:=λ_=>by kernel_rfl
 z4:=λ_=>by kernel_rfl
 v4:=λ_=>by kernel_rfl
 t9:=by kernel_rfl
 a9:=λ_=>by kernel_rfl
 z9:=λ_=>by kernel_rfl
 v9:=λ_=>by kernel_rfl
 t20:=by kernel_rfl
 a20:=λ_=>by kernel_rfl
 z20:=λ_=>by kernel_rfl
 v20:=λ_=>by kernel_rfl
 t37:=by kernel_rfl
 a37:=λ_=>by kernel_rfl
 z37:=λ_=>by kernel_rfl
 v37:=λ_=>by kernel_rfl
 t70:=by kernel_rfl
 a70:=λ_=>by kernel_rfl
 z70:=λ_=>by kernel_rfl
 v70:=λ_=>by kernel_rfl
 t72:=by kernel_rfl
 a72:=λ_=>by kernel_rfl
 z72:=λ_=>by kernel_rfl
 v72:=λ_=>by kernel_rfl
 t75:=by kernel_rfl
 a75:=λ_=>by kernel_rfl
 z75:=λ_=>by kernel_rfl
 v75:=λ_=>by kernel_rfl
 t164:=by kernel_rfl
 a164:=λ_=>by kernel_rfl
 z164:=λ_=>by kernel_rfl
 v164:=λ_=>by kernel_rfl
theorem Yi6: Lays.n167 Tryz.prog rnB where
 mixed:=by kernel_rfl
 f167:=by kernel_rfl
 f240:=by kernel_rfl
 f276:=by kernel_rfl
 t0:=by kernel_rfl
 a0:=λ_=>by kernel_rfl
 z0:=λ_=>by kernel_rfl
 v0:=λ_=>by kernel_rfl
 t4:=by kernel_rfl
 a4:=λ_=>by kernel_rfl
 z4:=λ_=>by kernel_rfl
 v4:=λ_=>by kernel_rfl
 t5:=by kernel_rfl
 a5:=λ_=>by kernel_rfl
 z5:=λ_=>by kernel_rfl
 v5:=λ_=>by kernel_rfl
 t9:=by kernel_rfl
 a9:=λ_=>by kernel_rfl
 z9:=λ_=>by kernel_rfl
 v9:=λ_=>by kernel_rfl
 t20:=by kernel_rfl
 a20:=λ_=>by kernel_rfl
 z20:=λ_=>by kernel_rfl
 v20:=λ_=>by kernel_rfl
 t37:=by kernel_rfl
 a37:=λ_=>by kernel_rfl
 z37:=λ_=>by kernel_rfl
 v37:=λ_=>by kernel_rfl
 t70:=by kernel_rfl
 a70:=λ_=>by kernel_rfl
 z70:=λ_=>by kernel_rfl
 v70:=λ_=>by kernel_rfl
 t72:=by kernel_rfl
 a72:=λ_=>by kernel_rfl
 z72:=λ_=>by kernel_rfl
 v72:=λ_=>by kernel_rfl
 t75:=by kernel_rfl
 a75:=λ_=>by kernel_rfl
 z75:=λ_=>by kernel_rfl
 v75:=λ_=>by kernel_rfl
 t164:=by kernel_rfl
 a164:=λ_=>by kernel_rfl
 z164:=λ_=>by kernel_rfl
 v164:=λ_=>by kernel_rfl
theorem Yci: Lays.n169 Tryz.prog rnB where
 mixed:=by kernel_rfl
 f169:=by kernel_rfl
 t0:=by kernel_rfl
 a0:=λ_=>by kernel_rfl
 z0:=λ_=>by kernel_rfl
 v0:=λ_=>by kernel_rfl
 t3:=by kernel_rfl
 a3:=λ_=>by kernel_rfl
 z3:=λ_=>by kernel_rfl
 v3:=λ_=>by kernel_rfl
 t9:=by kernel_rfl
 a9:=λ_=>by kernel_rfl
 z9:=λ_=>by kernel_rfl
 v9:=λ_=>by kernel_rfl
 t37:=by kernel_rfl
 a37:=λ_=>by kernel_rfl
 z37:=λ_=>by kernel_rfl
 v37:=λ_=>by kernel_rfl
 t70:=by kernel_rfl
 a70:=λ_=>by kernel_rfl
 z70:=λ_=>by kernel_rfl
 v70:=λ_=>by kernel_rfl
 t72:=by kernel_rfl
 a72:=λ_=>by kernel_rfl
 z72:=λ_=>by kernel_rfl
 v72:=λ_=>by kernel_rfl
 t127:=by kernel_rfl
 a127:=λ_=>by kernel_rfl
 z127:=λ_=>by kernel_rfl
 v127:=λ_=>by kernel_rfl
theorem Yll: Builder.Extra Tryz.prog rnB where
 sizeBuilder:=by kernel_rfl
 liesBuilder:=by kernel_rfl
 t5:=by kernel_rfl
 a5:=λ_=>by kernel_rfl
 z5:=λ_=>by kernel_rfl
 v5:=λ_=>by kernel_rfl
 infoByte:=by kernel_rfl
 cellsByte:=by kernel_rfl
 sizeByte:=by kernel_rfl
 neB5:=by decide
end
section
attribute [local go_sem] Oper.semAt_some
abbrev C9:={ x:Nat // x<1000000000 }
def b9(zs:List C9)(k:Nat): List (Nat×C9):=(List.range k).map λj=>(zs.length-1-j,zs[zs.length-1-j]?.getD ⟨0,by decide⟩)
theorem Xxu(zs:List C9)(k:Nat): b9 zs (k+1)=b9 zs k++[(zs.length-1-k,zs[zs.length-1-k]?.getD ⟨0,by decide⟩)]:=by simp[b9,W7n]
theorem Xxv(zs:List C9)(k:Nat): (b9 zs k).length=k:=by simp[b9]
set_option maxRecDepth 100000 in
set_option maxHeartbeats 2000000 in
theorem Ykm(F:Fence)(n:Nat)(h8:F.fn 252)(hro:F.round=none)(hn:1<=n)(l Bs n₀ b off cap:Nat)(zs:List C9)(hreach:zs.length*4<=140737488351232)(hb:b<n₀)(J Jx:List (Nat×C9)->World->Prop)
 (hY:∀pre x W,J pre W->pre.length<zs.length->YieldAt F (n-1) Tryz.prog l #[.int .i64 (x.1:Int),.int .u32 (x.2.1:Int)] W λe W' =>
  (e=.returned (.bool true)/\J (pre++[x]) W'/\Kq n₀ Bs W W')\/(e=.returned (.bool false)/\Jx (pre++[x]) W'))
 (W:World) (hBs:W.cell? ⟨Bs,0,none⟩=some (.slice (some ⟨b,off,none⟩) zs.length cap)) (hc:∀j,j<zs.length->W.cell? ⟨b,off+j,none⟩=some (.int .u32 ((zs[j]?.getD ⟨0,by decide⟩).1:Int))) (h0:J [] W) :
 CallsIn F n Tryz.prog 252 #[.func (.yield l) #[] #[],.pointer (some ⟨Bs,0,none⟩)] W λe W'=>(∃v,e=.returned v) /\
  ((∃ys,ys=b9 zs zs.length/\J ys W')\/(∃pre,True/\Jx pre W')):=by
 refine callsIn_of_wp Tryz.func252 rfl h8 ?_ hro
 simp only[Tryz.ntmps252,W6n,W0u,W4m,Nat.reduceAdd,Nat.reduceSub,W5u,W5v,W6o,W6a,W4b,W4z]
 gi_wp2
 gi_loopw [3] (λi wr=>∃k:Nat,k<=zs.length/\i=.int .i64 ((zs.length:Int)-1-k)/\J (b9 zs k) wr/\Kq n₀ Bs W wr)
  (λi _=>(intOf i+1).toNat)
 case atStart=>exact⟨0,W0w _,by simp,h0,Kq.refl _ _ _⟩
 case round =>
  obtain⟨k,hk,rfl,hJs,hnx⟩:=hrel
  have hBs':=(World.cell?_of_block hnx.b).trans hBs
  by_cases hlt:k<zs.length
  . obtain⟨q,hq⟩:∃q,q+(k+1)=zs.length:=⟨zs.length-1-k,by omega⟩
    have hqi:((zs.length:Int)-1-k)=(q:Int):=by omega
    have hcx:=(hnx.a.cell (p:=⟨b,off+q,none⟩) hb).trans (hc q (by omega))
    obtain⟨fn,tmps,assign,body,hy,hR⟩:=hY _ (q,zs[q]?.getD ⟨0,by decide⟩) wr hJs (by rw[Xxv];exact hlt)
    dsimp only at hy
    rw[hqi]
    gi_wp2
    refine hR.mono ?_
    rintro e W3 (⟨rfl,hJ3,hk3⟩ | ⟨rfl,hJx3⟩)
    . gi_wp2
      go_roundw
      case rel=>exact⟨k+1,by omega,by congr 1;omega,by rw[Xxu,show zs.length-1-k=q by omega];exact hJ3,hnx.trans hk3⟩
      case measure=>simp[intOf]
    . gi_wp2
      refine bodyPost_ret (results_none rfl _ _ _) rfl ?_
      exact⟨⟨_,rfl⟩,.inr ⟨_,trivial,hJx3⟩⟩
  . obtain rfl:k=zs.length:=by omega
    rw[show ((zs.length:Int)-1-(zs.length:Int))=-1 by omega]
    gi_wp2
    go_end0
    exact⟨⟨_,rfl⟩,.inl ⟨_,rfl,hJs⟩⟩
theorem Xnw(F:Fence)(n:Nat)(h8:F.fn 252)(hro:F.round=none)(hn:1<=n)(Bs n₀ b off cap:Nat)(zs:List C9)(hreach:zs.length*4<=140737488351232)(w:World)(hBs:Bs<w.heap.size)(hn₀:n₀<=w.heap.size)
 (hc:w.cell? ⟨Bs,0,none⟩=some (.slice (some ⟨b,off,none⟩) zs.length cap)) (hb:b<n₀) (hcs:∀j,j<zs.length->w.cell? ⟨b,off+j,none⟩=some (.int .u32 ((zs[j]?.getD ⟨0,by decide⟩).1:Int))) :
 SeqStopsK F n Tryz.prog 252 #[.pointer (some ⟨Bs,0,none⟩)] (λx:Nat×C9=>#[Value.int .i64 (x.1:Int),Value.int .u32 (x.2.1:Int)]) (Kq n₀ Bs) (λys=>ys=b9 zs zs.length)
  (λ_=>True) zs.length w:=λl J Jx W hW _ _ hY h0=>by
 have hc':=(hW.cell (p:=⟨Bs,0,none⟩) hBs).trans hc
 exact Ykm F n h8 hro hn l Bs n₀ b off cap zs hreach hb J Jx hY W hc' (λj hj=>(hW.cell (p:=⟨b,off+j,none⟩) (W0v hb hn₀)).trans (hcs j hj)) h0
def o9(N:Nat)(sg:List UInt8): List (Nat×C9)->List UInt8:=List.foldl (λt x=>t++(if x.1+1<N then List.replicate (9-(dec x.2.1).length) 48 else [])++dec x.2.1) sg
theorem Xou(N:Nat)(sg:List UInt8)(pre:List (Nat×C9))(x:Nat×C9): o9 N sg (pre++[x])=o9 N sg pre++(if x.1+1<N then List.replicate (9-(dec x.2.1).length) 48 else [])++dec x.2.1:=by simp[o9]
theorem Ync(x:C9): (dec x.1).length<=9:=Xfu 8 x.1 x.2
theorem Xu5(N:Nat): ∀(pre:List (Nat×C9)) (sg:List UInt8),(o9 N sg pre).length<=sg.length+18*pre.length
 | [],_=>W5n _ _
 | x::l,sg=>by
  have ih:=Xu5 N l (sg++(if x.1+1<N then List.replicate (9-(dec x.2.1).length) 48 else [])++dec x.2.1)
  have:=Ync x.2
  have h:(if x.1+1<N then List.replicate (9-(dec x.2.1).length) (48:UInt8) else []).length<=9:=by split<;>simp
  simp only[W0d,W0u] at h ih |-
  refine W0k (show (o9 N sg (x::l)).length<=_ from ih) ?_
  omega
theorem Yeh(sg:List UInt8)(zs:List C9): ∀k,k<=zs.length->o9 zs.length sg (b9 zs k)=sg++Xzm ((zs.map (·.1)).drop (zs.length-k))
 | 0,_=>by
  rw[W1z (by simp)]
  simp[b9,o9,Xzm]
 | k+1,h=>by
  obtain⟨x,hx⟩:∃x,zs[zs.length-1-k]?=some x:=⟨_,W0c (by omega)⟩
  have hxm:(zs.map (·.1))[zs.length-(k+1)]?=some x.1:=by rw[W1s,show zs.length-(k+1)=zs.length-1-k by omega,hx];rfl
  have hd:(zs.map (·.1)).drop (zs.length-(k+1))=x.1::(zs.map (·.1)).drop (zs.length-k):=by
   obtain⟨hlt,he⟩:=W0m.1 hxm
   rw[W3f hlt,he,show zs.length-(k+1)+1=zs.length-k by omega]
  rw[Xxu,Xou,Yeh sg zs k (by omega),hx,hd]
  simp only[W3y]
  by_cases hk:k=0
  . subst hk
    rw[if_neg (by omega),show (zs.map (·.1)).drop (zs.length-0)=[] from W1z (by simp)]
    simp[Xzm]
  . have hne:(zs.map (·.1)).drop (zs.length-k)≠[]:=λe=>by
     have:=congrArg List.length e
     simp at this;omega
    rw[if_pos (by omega),Xu2 hne]
    unfold pad
    simp
theorem c9s{l:List Nat}(h:∀x∈l,x<1000000000): ∃zs:List C9,zs.map (·.1)=l:=by
 induction l with
 | nil=>exact⟨[],rfl⟩
 | cons a l ih =>
  obtain⟨zs,hz⟩:=ih λx hx=>h x (W1c _ hx)
  exact⟨⟨a,h a (W1a ..)⟩::zs,by rw[W4i,hz]⟩
def gw1(w:World): GW:=⟨w,λ_ _=>False,λ_ _ h=>h.elim⟩
theorem cell_lt{w:World}{b i:Nat}{v:Value}(h:w.cell? ⟨b,i,none⟩=some v): b<w.heap.size:=by
 apply W0s
 intro hn
 simp only[World.cell?] at h
 rw[W3x (by omega)] at h
 cases h
theorem Yi2{W:GW}{n:Nat}{w':World}(h:Below n W.w w')(hn:W.w.heap.size<=n): LeF W (gw1 w'):=λb i v hv =>
 ⟨(World.cell?_of_block (h.block b (W0v (cell_lt hv.1) hn))).trans hv.1,id⟩
theorem Xr2{f:FuncId}{args:List AV}{vs:List Value}{s:List UInt8}{w:World}(hc:C0 f args (·=.d (.str s)))(hg:Gb.g Tryz.prog (gw1 w))(ha:Xjo (gw1 w) θe args vs):
 Calls Tryz.prog f vs.toArray w λe w'=>e=.returned (.string ⟨s.toArray⟩)/\Below w.heap.size w w' :=
 (hc.2 (gw1 w) vs hg ha).mono λe w' ⟨W',v,u,h1,h2,h3,h4,_,h6⟩=>by
  subst h6;subst h2
  obtain⟨rfl,_⟩:=Xx0 h4
  exact⟨h1,h3.os,h3.tape,h3.out,h3.size,λk hk=>h3.same k hk id⟩
theorem You{w:World}(hg:Gb.g Tryz.prog (gw1 w))(x:C9): Calls Tryz.prog 171 #[.int .u64 (x.1:Int),.int .i64 10] w λe w'=>e=.returned (.string ⟨(dec x.1).toArray⟩)/\Below w.heap.size w w' :=
 Xr2 (vs:=[.int .u64 (x.1:Int),.int .i64 10]) (Xmd x.2) hg ⟨int_V (by have:=x.2;show IntKind.u64.wrap _=_;exact wU (by omega)),int_V (wI (by omega)),trivial⟩
theorem Yn5{w:World}(hg:Gb.g Tryz.prog (gw1 w)){n:Nat}{k:Int}(hk:k=n)(hn:n<65): Calls Tryz.prog 104 #[.string ⟨#[48]⟩,.int .i64 k] w λe w'=>e=.returned (.string ⟨(List.replicate n 48).toArray⟩)/\Below w.heap.size w w':=by
 subst hk
 exact Xr2 (vs:=[.string ⟨#[48]⟩,.int .i64 (n:Int)]) (Xkr hn) hg ⟨Xoe (s:=[48]) (by decide),int_V (by show IntKind.i64.wrap _=_;exact wI (by omega)),trivial⟩
theorem Xv1{β:Type}(T e:TypeId)(B b:Nat)(f:β->List Value): Own (λs W=>Lib.IsBuilderF T e B b (f s) W):=by
 intro s X Y row h hg hrow
 have key:∀p,Lib.BuilderAtF T e B b p (f s) X->Lib.BuilderAtF T e B b p (f s) Y:=λp ⟨hB,v,hb,hown,hne⟩=>by
  have cells:∀k cs t fz,X.heap[k]?=some (.cells cs t fz)->some k≠row:=λk cs t fz hk e'=>by
   obtain⟨o,ho,hc⟩:=hrow k e'.symm
   rw[hk] at ho;cases ho;cases hc
  refine⟨hB,v,(hg.block b (W3q.1 hb).1 (cells b _ _ _ hb)).trans hb,hown.kept hg ?_,hne⟩
  cases hv:v.ownBlock with
  | none=>exact .inl rfl
  | some g =>
   obtain⟨c,fz,hc⟩:=Lib.ownsRowF_kind hown g hv
   exact .inr (cells g _ _ _ hc)
 exact h.elim (λh=>.inl (key _ h)) λh=>.inr (key _ h)
theorem Xjc{W W':World}{row:Option Nat}{b:Nat}{cs:Array Value}{t:TypeId}{fz:Nat×Nat}(h:W.heap[b]?=some (.cells cs t fz))(hg:W.grownBy W' row)(hr:∀r,row=some r->∃o:Obj,W.heap[r]?=some o/\o.isCells=false): W'.heap[b]?=some (.cells cs t fz) :=
 (hg.block b (W3q.1 h).1 (λe'=>by
  obtain⟨o,ho,hc⟩:=hr b e'.symm
  rw[h] at ho;cases ho;cases hc)).trans h
theorem Xv2{T e:TypeId}{B b:Nat}{bs:List Value}{w w':World}(h:Lib.IsBuilderF T e B b bs w)(hw:Below w.heap.size w w'): Lib.IsBuilderF T e B b bs w':=by
 have key:∀p,Lib.BuilderAtF T e B b p bs w->Lib.BuilderAtF T e B b p bs w':=λp ⟨hB,v,hb,hown,hne⟩ =>
  ⟨hB,v,(hw.block b (W3q.1 hb).1).trans hb,hown.kept (row:=none) ⟨hw.os,hw.tape,hw.output,hw.size,λk hk _=>hw.block k hk⟩ (by cases hv:v.ownBlock<;>simp),hne⟩
 exact h.elim (λh=>.inl (key _ h)) λh=>.inr (key _ h)
theorem Xo0{w w':World}(h:Below w.heap.size w w'): KeepsOthers w w':=⟨h.size,λk o hk _=>(h.block k (W3q.1 hk).1).trans hk⟩
theorem Xls{T e:TypeId}{B b n:Nat}{bs:List Value}{w w':World}(h:Lib.IsBuilderF T e B b bs w)(hw:Below n w w')(ho:Lib.OthersKept e (some b) w w'): KeepsOthers w w':=⟨hw.size,λk o hk hc=>by
 refine ho k o hk (λe'=>?_) (λc fz e'=>by subst e';cases hc)
 cases e'
 rcases h with ⟨_,v,hb,_⟩ | ⟨_,v,hb,_⟩<;>rw[hk] at hb<;>cases hb<;>cases hc⟩
structure W9 (n BS B:Nat) (sl:Value) (w W:World) (t:List UInt8) (W':World):Prop where
 b:Lib.IsBuilderF (rnB.t 72) (rnB.t 5) n n (Lib.byteCells t) W'
 s:W'.heap[BS]?=some (.cells #[sl] 82 (0,0))
 l:Below n w W'
 k:KeepsFrom B W W'
 q:Kq n BS W W'
theorem W9.below{n BS B:Nat}{sl:Value}{w W W' W'':World}{t:List UInt8}(h:W9 n BS B sl w W t W')(hn:n<=W'.heap.size)(hb:Below W'.heap.size W' W''): W9 n BS B sl w W t W'' :=
 ⟨Xv2 h.b hb,(hb.block BS (W3q.1 h.s).1).trans h.s,h.l.trans (hb.mono hn),h.k.trans ((Xo0 hb).from _),h.q.trans ⟨hb.mono hn,hb.block BS (W3q.1 h.s).1⟩⟩
theorem W9.wr{n BS B:Nat}{sl:Value}{w W W':World}{t:List UInt8}(h:W9 n BS B sl w W t W')(u:List UInt8)(hn:n<=W'.heap.size)(hB:BS≠n)(hl:t.length+u.length<=140737488355328):
 Calls Tryz.prog 172 #[.pointer (some ⟨n,0,none⟩),.string ⟨u.toArray⟩] W' λe W''=>e=.returned (.tuple #[.int .i64 u.length,.nilIface])/\W9 n BS B sl w W (t++u) W'':=by
 have hsz:(⟨u.toArray⟩:ByteArray).size=u.length:=by simp[ByteArray.size]
 refine(Any.Builder_WriteString_k Yi7 Yll n n _ ⟨u.toArray⟩ W' h.b (by rw[Lib.byteCells_length,hsz];exact hl) hn).mono ?_
 rintro e W'' ⟨rfl,hb,hbl,ho⟩
 have hs:W''.heap[BS]?=some (.cells #[sl] 82 (0,0)):=ho BS _ h.s (by intro e;cases e;exact hB rfl) (by intro c fz e;cases e)
 refine⟨by rw[hsz],.inr (by rw[Lib.byteCells_append];exact hb),hs,h.l.trans hbl,h.k.trans ((Xls h.b hbl ho).from _),h.q.trans ⟨hbl,hs.trans h.s.symm⟩⟩
end
section
attribute [local go_sem] Oper.semAt_some
theorem Xs5{z:Int}(hz:z≠0)(hl:(dig z.natAbs).length<=274877906944): C0 103 [.d (dz z)] (·=.d (.str (tx z))):=by
 have hcl:=Xxm (n:=z.natAbs) (k:=(dig z.natAbs).length) (by have:=Xb2 (Xae z.natAbs);rwa[Xag] at this)
 have hp:=W6w.2 (λe:dig z.natAbs=[]=>hz (by have:=Xsu.1 e;omega))
 refine EnM Tryz.func103 λW0 hg0 _=>?_
 refine Ce rfl (Xcp (n:=z.natAbs) (by omega)) ?_
 refine Cr rfl (Xl7 (l:=dig z.natAbs) hp (by omega)) ?_
 refine No rfl (by simp only[W0j];omega) ?_
 refine Nv 4 7 1 rfl ?_
 refine Lo (λ((x,n,lo,cs):Nat×Nat×List Nat×List Nat)=>[(1,.ptr 1 0),(2,.d (.str [])),(3,.own 14 1 0 n),(4,.ptr 4 0)]) (λ(x,n,lo,cs)=>[(1,.var (.d (dz z))),(14,.arr 1 (lo.map wd)),(4,.var (.gr 7 1 (cs.map wd))),(7,.tok (cs.map wd).length 1)])
  (λ(x,n,lo,cs)=>Fm9 z.natAbs x n lo cs) (λ(x,_)=>x) (z.natAbs,(dig z.natAbs).length,dig z.natAbs,[]) [] rfl ⟨W0b _,by omega,Xae _,W2i ..,rfl⟩ ?_ (by exact⟨by simp only[W0j];rfl,rfl,rfl,rfl,rfl⟩)
 rintro⟨x,n,lo,cs⟩ hI
 have hn:=Ygg hI
 obtain⟨hnl,hll,hwo,hdx,hck⟩:=hI
 have hsz:∀j,j<n->lo[j]?=(dig x)[j]?:=λj hj=>by rw[<-hdx,W1e,if_pos hj]
 refine By rfl (λh=>?_) λh=>?_
 . have h:(n:Int)>0:=h
   have hx0:x≠0:=λe=>by rw[e,Xan] at hn;simp at hn;omega
   refine Ar ((n:Int)-1) rfl ?_ (wr rfl (by simp only[inK];omega))
   refine Lo (λ((k,l,r):Nat×List Nat×Nat)=>[(1,.ptr 1 0),(2,.d (.str [])),(3,.own 14 1 0 n),(4,.ptr 4 0),(5,.d (.int .u64 r)),(6,.d (.int .i64 ((k:Int)-1)))]) (λ(_,l,_)=>[(1,.var (.d (dz z))),(14,.arr 1 (l.map wd)),(4,.var (.gr 7 1 (cs.map wd))),(7,.tok (cs.map wd).length 1)])
    (λ(k,l,r)=>k<=n/\l.length=lo.length/\Xar l/\r<1000000000/\val ((l.take n).drop k)*1000000000+r=val ((dig x).drop k)/\∀j,j<k->l[j]?=(dig x)[j]?) (λ(k,_,_)=>k) (n,lo,0) [] rfl
    ⟨W0b _,rfl,hwo,by decide,by rw[W1z (by rw[W0g];omega),W1z (by omega)];simp[val],hsz⟩ ?_
   rintro⟨k,l,r⟩ ⟨hk,hl2,hwl,hr,hval,hlj⟩
   refine By rfl (λh2=>?_) λh2=>?_
   . have h2:(k:Int)-1>=0:=h2
     obtain⟨u,hu⟩:=xat (l:=dig x) (k:=k-1) (by omega)
     have hub:=ww hu (Xae x)
     have hul:l[k-1]?=some u:=by rw[hlj _ (by omega),hu]
     obtain⟨s,hs⟩:∃s,s=r*2^32+u:=⟨_,rfl⟩
     have hs64:s<18446744073709551616:=by omega
     have hsy:s/1000000000<4294967296:=by omega
     have hek:((k:Int)-1)=((k-1:Nat):Int):=by omega
     refine Ar (r*2^32:Nat) rfl ?_ (Xiq (n:=32) rfl (by omega) (by decide))
     refine Eo (k-1) (by rw[hek];rfl) (by omega) ?_
     refine Ld (wd u) rfl (mp hul) ?_
     refine Go.Vm.Cv u rfl ?_
     refine Ar s rfl ?_ (Yb3 (by omega) (by omega) (by rw[Xdp u r 32 (by omega),<-hs]) hs64)
     refine Ar (s/1000000000:Nat) rfl ?_ (show _/\_ from⟨by decide,Ydl s 1000000000 hs64⟩)
     refine Go.Vm.Cv (s/1000000000:Nat) rfl ?_ (wW ⟨W5b _,W7c.2 hsy⟩)
     refine Eo (k-1) (by rw[hek];rfl) (by omega) ?_
     refine Sto rfl (by simp only[W0j];omega) ms ?_
     refine Ar (s%1000000000:Nat) rfl ?_ (show _/\_ from⟨by decide,Xr8 s 1000000000⟩)
     refine Ar ((k-1:Nat)-1:Int) rfl ?_ (wr (by omega) (by simp only[inK];omega))
     have hs0:val ((dig x).drop (k-1))=u+4294967296*val ((dig x).drop k):=by
      have:=Xb3 hu
      rwa[show k-1+1=k by omega] at this
     refine Bk (k-1,l.set (k-1) (s/1000000000),s%1000000000) [] rfl ⟨by omega,by simp[hl2],Xhv hwl hsy,W1x _ (by decide),?_,λj hj=>?_⟩ (by show k-1<k;omega)
     . rw[hs0,<-hval,List.take_set,drop_set (by rw[W0g];omega),val,show k-1+1=k by omega]
       have e:=W2n s 1000000000
       have hs2:s=r*4294967296+u:=hs
       generalize val (((l.take n)).drop k)=V
       generalize s/1000000000=q at e |-
       generalize s%1000000000=m at e |-
       clear hck hcl hdx hsz hlj hs hval hs0 hsy hs64
       omega
     . rw[W1w (by omega)];exact hlj j (by omega)
   . have hk0:k=0:=by
      have h2:¬(k:Int)-1>=0:=h2
      omega
     subst hk0
     rw[W1d,W1d,Xag] at hval
     have hq:x/1000000000=val (l.take n):=by omega
     have hm:x%1000000000=r:=by omega
     refine Cn [(1000001,14)] rfl (Xvy (l:=l) (q:=0) (n:=n) hwl (by omega) (by omega)) λv hv=>?_
     obtain⟨m,hmn,rfl,hml⟩:=hv
     rw[W1d,<-hq] at hml
     refine Go.Vm.Cv r rfl ?_
     refine ApG ((cs++[r]).map wd) rfl (by simp;rfl) (by simp;have:=congrArg List.length hck;rw[W0d] at this;omega) ?_
     refine Bk (x/1000000000,m,l,cs++[r]) [(50,7)] rfl ⟨by omega,by omega,hwl,hml,?_⟩ (by show x/1000000000<x;omega)
     rw[hck,Xfv hx0,hm];simp
 . have h:¬(n:Int)>0:=h
   have hx0:x=0:=by
    have:dig x=[]:=W0n (by omega)
    exact Xsu.1 this
   subst hx0
   rw[Xfc,W3t] at hck
   obtain⟨zs,hzs⟩:=c9s (l:=cs) λx hx=>Yke z.natAbs x (by rw[hck];exact hx)
   have hzl:zs.length=cs.length:=by rw[<-hzs,W0j]
   have hz0:z.natAbs≠0:=by omega
   have hz1:0<zs.length:=by
    rw[hzl,<-hck,Xfv hz0];simp
   have hzn:zs.length<=549755813888:=by rw[hzl,<-hck];omega
   have htx:∀sg,sg++Xzm (zs.map (·.1))=sg++dec z.natAbs:=λsg=>by rw[hzs,<-hck,Xzl _ hz0]
   refine Tl 15 rfl λa w hw=>?_
   obtain⟨s',W,θ,rfl,hS,hθ,rfl⟩:=hw
   have hgW:Gb.g Tryz.prog W:=Gb.mono _ _ hS.fm.le hg0
   obtain⟨b1,p1,e1⟩:=Xju (hS.rel.has 1 (.ptr 1 0) rfl)
   obtain⟨b4,p4,e4⟩:=Xju (hS.rel.has 4 (.ptr 4 0) rfl)
   obtain⟨bx,cx1,T1,q1,q2,q3,_⟩:=hS.obs.r 1 (.var (.d (dz z))) rfl
   obtain⟨by4,cx4,T4,q5,q6,q7,_⟩:=hS.obs.r 4 (.var (.gr 7 1 (cs.map wd))) rfl
   obtain rfl:bx=b1:=Option.some.inj (q1.symm.trans p1)
   obtain rfl:by4=b4:=Option.some.inj (q5.symm.trans p4)
   have c1:W.w.cell? ⟨bx,0,none⟩=some (.bool (decide (z<0))):=by
    obtain⟨u,v,h1,h2,_⟩:=q3
    have h2:u=[.bool (decide (z<0))]:=h2
    rw[Xbb q2,h1,h2];rfl
   obtain⟨b7,cp,c4,hcell⟩:∃b7 cp,W.w.cell? ⟨by4,0,none⟩=some (.slice (some ⟨b7,0,none⟩) zs.length cp)/\∀j,j<zs.length->W.w.cell? ⟨b7,0+j,none⟩=some (.int .u32 ((zs[j]?.getD ⟨0,by decide⟩).1:Int)):=by
    obtain⟨p,h1,h0,h2,_,h5⟩:=q7
    simp only[W0j] at h1 h2
    rcases h5 with h5 | ⟨b7,h5,hrow⟩
    . have:=congrArg List.length h5
      rw[W0j] at this
      have:cs.length=0:=this
      omega
    . have hp:p=some ⟨b7,0,none⟩:=by
       rcases h0 with h0 | h0
       . omega
       . rw[h0,h5];rfl
      refine⟨b7,_,by rw[Xbb q6,h1,hp,<-hzl];rfl,λj hj=>?_⟩
      obtain⟨x,hx⟩:∃x,zs[j]?=some x:=⟨_,W0c hj⟩
      obtain⟨e,g1,_,g3⟩:=D.row_get hrow (i:=j) (x:=wd x.1) (by rw[<-hzs];simp[hx])
      have g1:e=[.int .u32 x.1]:=g1.1
      have:=(g3 0 (.int .u32 x.1) (by rw[g1];rfl)).1
      rw[hx]
      simpa using this
   have hb1:=Go.Proofs.YtegepebhkhhhoaaGreatDoor.cell_lt c1
   have hb4:=Go.Proofs.YtegepebhkhhhoaaGreatDoor.cell_lt c4
   have hb7:=Go.Proofs.YtegepebhkhhhoaaGreatDoor.cell_lt (hcell 0 hz1)
   have hfm:=hS.fm
   obtain⟨tm,df⟩:=a
   obtain rfl:df=[]:=hS.rel.defers
   obtain⟨L⟩:=tm
   have hL:L.length=74:=hS.rel.size
   clear hS
   obtain⟨t0,L0,rfl,hL0⟩:=Xah hL
   clear hL
   obtain⟨t1,L1,rfl,hL1⟩:=Xah hL0
   clear hL0
   obtain⟨t2,L2,rfl,hL2⟩:=Xah hL1
   clear hL1
   obtain⟨t3,L3,rfl,hL3⟩:=Xah hL2
   clear hL2
   obtain⟨t4,L4,rfl,hL4⟩:=Xah hL3
   clear hL3
   obtain⟨t5,L5,rfl,hL5⟩:=Xah hL4
   clear hL4
   obtain⟨t6,L6,rfl,hL6⟩:=Xah hL5
   clear hL5
   obtain⟨t7,L7,rfl,hL7⟩:=Xah hL6
   clear hL6
   obtain⟨t8,L8,rfl,hL8⟩:=Xah hL7
   clear hL7
   obtain⟨t9,L9,rfl,hL9⟩:=Xah hL8
   clear hL8
   obtain⟨t10,L10,rfl,hL10⟩:=Xah hL9
   clear hL9
   obtain⟨t11,L11,rfl,hL11⟩:=Xah hL10
   clear hL10
   obtain⟨t12,L12,rfl,hL12⟩:=Xah hL11
   clear hL11
   obtain⟨t13,L13,rfl,hL13⟩:=Xah hL12
   clear hL12
   obtain⟨t14,L14,rfl,hL14⟩:=Xah hL13
   clear hL13
   obtain⟨t15,L15,rfl,hL15⟩:=Xah hL14
   clear hL14
   obtain⟨t16,L16,rfl,hL16⟩:=Xah hL15
   clear hL15
   obtain⟨t17,L17,rfl,hL17⟩:=Xah hL16
   clear hL16
   obtain⟨t18,L18,rfl,hL18⟩:=Xah hL17
   clear hL17
   obtain⟨t19,L19,rfl,hL19⟩:=Xah hL18
   clear hL18
   obtain⟨t20,L20,rfl,hL20⟩:=Xah hL19
   clear hL19
   obtain⟨t21,L21,rfl,hL21⟩:=Xah hL20
   clear hL20
   obtain⟨t22,L22,rfl,hL22⟩:=Xah hL21
   clear hL21
   obtain⟨t23,L23,rfl,hL23⟩:=Xah hL22
   clear hL22
   obtain⟨t24,L24,rfl,hL24⟩:=Xah hL23
   clear hL23
   obtain⟨t25,L25,rfl,hL25⟩:=Xah hL24
   clear hL24
   obtain⟨t26,L26,rfl,hL26⟩:=Xah hL25
   clear hL25
   obtain⟨t27,L27,rfl,hL27⟩:=Xah hL26
   clear hL26
   obtain⟨t28,L28,rfl,hL28⟩:=Xah hL27
   clear hL27
   obtain⟨t29,L29,rfl,hL29⟩:=Xah hL28
   clear hL28
   obtain⟨t30,L30,rfl,hL30⟩:=Xah hL29
   clear hL29
   obtain⟨t31,L31,rfl,hL31⟩:=Xah hL30
   clear hL30
   obtain⟨t32,L32,rfl,hL32⟩:=Xah hL31
   clear hL31
   obtain⟨t33,L33,rfl,hL33⟩:=Xah hL32
   clear hL32
   obtain⟨t34,L34,rfl,hL34⟩:=Xah hL33
   clear hL33
   obtain⟨t35,L35,rfl,hL35⟩:=Xah hL34
   clear hL34
   obtain⟨t36,L36,rfl,hL36⟩:=Xah hL35
   clear hL35
   obtain⟨t37,L37,rfl,hL37⟩:=Xah hL36
   clear hL36
   obtain⟨t38,L38,rfl,hL38⟩:=Xah hL37
   clear hL37
   obtain⟨t39,L39,rfl,hL39⟩:=Xah hL38
   clear hL38
   obtain⟨t40,L40,rfl,hL40⟩:=Xah hL39
   clear hL39
   obtain⟨t41,L41,rfl,hL41⟩:=Xah hL40
   clear hL40
   obtain⟨t42,L42,rfl,hL42⟩:=Xah hL41
   clear hL41
   obtain⟨t43,L43,rfl,hL43⟩:=Xah hL42
   clear hL42
   obtain⟨t44,L44,rfl,hL44⟩:=Xah hL43
   clear hL43
   obtain⟨t45,L45,rfl,hL45⟩:=Xah hL44
   clear hL44
   obtain⟨t46,L46,rfl,hL46⟩:=Xah hL45
   clear hL45
   obtain⟨t47,L47,rfl,hL47⟩:=Xah hL46
   clear hL46
   obtain⟨t48,L48,rfl,hL48⟩:=Xah hL47
   clear hL47
   obtain⟨t49,L49,rfl,hL49⟩:=Xah hL48
   clear hL48
   obtain⟨t50,L50,rfl,hL50⟩:=Xah hL49
   clear hL49
   obtain⟨t51,L51,rfl,hL51⟩:=Xah hL50
   clear hL50
   obtain⟨t52,L52,rfl,hL52⟩:=Xah hL51
   clear hL51
   obtain⟨t53,L53,rfl,hL53⟩:=Xah hL52
   clear hL52
   obtain⟨t54,L54,rfl,hL54⟩:=Xah hL53
   clear hL53
   obtain⟨t55,L55,rfl,hL55⟩:=Xah hL54
   clear hL54
   obtain⟨t56,L56,rfl,hL56⟩:=Xah hL55
   clear hL55
   obtain⟨t57,L57,rfl,hL57⟩:=Xah hL56
   clear hL56
   obtain⟨t58,L58,rfl,hL58⟩:=Xah hL57
   clear hL57
   obtain⟨t59,L59,rfl,hL59⟩:=Xah hL58
   clear hL58
   obtain⟨t60,L60,rfl,hL60⟩:=Xah hL59
   clear hL59
   obtain⟨t61,L61,rfl,hL61⟩:=Xah hL60
   clear hL60
   obtain⟨t62,L62,rfl,hL62⟩:=Xah hL61
   clear hL61
   obtain⟨t63,L63,rfl,hL63⟩:=Xah hL62
   clear hL62
   obtain⟨t64,L64,rfl,hL64⟩:=Xah hL63
   clear hL63
   obtain⟨t65,L65,rfl,hL65⟩:=Xah hL64
   clear hL64
   obtain⟨t66,L66,rfl,hL66⟩:=Xah hL65
   clear hL65
   obtain⟨t67,L67,rfl,hL67⟩:=Xah hL66
   clear hL66
   obtain⟨t68,L68,rfl,hL68⟩:=Xah hL67
   clear hL67
   obtain⟨t69,L69,rfl,hL69⟩:=Xah hL68
   clear hL68
   obtain⟨t70,L70,rfl,hL70⟩:=Xah hL69
   clear hL69
   obtain⟨t71,L71,rfl,hL71⟩:=Xah hL70
   clear hL70
   obtain⟨t72,L72,rfl,hL72⟩:=Xah hL71
   clear hL71
   obtain⟨t73,L73,rfl,hL73⟩:=Xah hL72
   clear hL72
   obtain rfl:=W0n hL73
   obtain rfl:t1=.pointer (some ⟨bx,0,none⟩):=e1
   obtain rfl:t4=.pointer (some ⟨by4,0,none⟩):=e4
   have hfin:∀ {w':World} {s:List UInt8},Below W.w.heap.size W.w w'->s=tx z->Ret W0 (λx=>x=.d (.str (tx z))) (.returned (.string ⟨s.toArray⟩)) w':=λ{w' s} h e=>by
    obtain⟨W',h1,h2⟩:=Xrk h
    subst e
    refine⟨W',_,_,rfl,h1,⟨h2.os.trans hfm.os,h2.out.trans hfm.out,h2.tape.trans hfm.tape,W0k hfm.size h2.size,λb hb hx=>(h2.same b (W0v hb hfm.size) id).trans (hfm.same b hb hx),λb hb hx i=>(h2.A b (W0v hb hfm.size) id i).trans (hfm.A b hb hx i),hfm.le.trans h2.le⟩,Xoe ?_,λ_ h=>h,rfl⟩
    have:=Xpd z.natAbs
    unfold tx
    split<;>simp only[W0d,W0u,W4m]<;>omega
   clear q2 q3 q6 q7 hθ hck
   obtain⟨w,hww⟩:∃w,w=W.w:=⟨_,rfl⟩
   have hgw:∀ {w':World},Below w.heap.size w w'->Gb.g Tryz.prog (gw1 w'):=λh=>Gb.mono _ _ (Yi2 (n:=w.heap.size) (by rw[<-hww];exact h) (by rw[<-hww];exact W0b _)) hgW
   rw[<-hww] at c1 c4 hcell hb1 hb4 hb7 hfin |-
   clear hww hgW hzl hzs hcl hnl hll hwo hn hdx hsz h hp hl q1 q5 p1 p4 hfm
   have hz9:zs.length*4<=140737488351232:=by omega
   have cA:∀o,(w.alloc o).cell? ⟨bx,0,none⟩=some (.bool (decide (z<0))):=λo=>(World.cell?_of_block (a:=⟨bx,0,none⟩) (Below.heap_alloc w o bx hb1)).trans c1
   have c4A:∀o,(w.alloc o).cell? ⟨by4,0,none⟩=some (.slice (some ⟨b7,0,none⟩) zs.length cp):=λo=>(World.cell?_of_block (a:=⟨by4,0,none⟩) (Below.heap_alloc w o by4 hb4)).trans c4
   by_cases hneg:z<0
   . simp only[decide_eq_true hneg] at cA
     gi_wp2
     refine⟨trivial,(callsIn_wide.2 (Any.Builder_WriteByte_k Yi6 Yll w.heap.size w.heap.size [] 45 _ (.of (Lib.fresh_isBuilder _ _ w)) (by decide) (by simp))).mono ?_⟩
     rintro e wb ⟨rfl,hB,hbw,hok⟩
     have hB:Lib.IsBuilderF (rnB.t 72) (rnB.t 5) w.heap.size w.heap.size (Lib.byteCells [45]) wb:=.inr hB
     have hbw:Below w.heap.size w wb:=((Below.refl _ w).alloc (W0b _) _).trans hbw
     have hlt:w.heap.size<wb.heap.size:=by rcases hB with h | h<;>exact h.lt
     have c4b:wb.cell? ⟨by4,0,none⟩=some (.slice (some ⟨b7,0,none⟩) zs.length cp):=(hbw.cell (p:=⟨by4,0,none⟩) hb4).trans c4
     gi_wp2
     refine⟨trivial,(Xpi Fence.wide 7 trivial rfl _ _ _ _).mono ?_⟩
     rintro e w2 ⟨rfl,hw2⟩
     have hBS:w2.heap[wb.heap.size]?=some (.cells #[.slice (some ⟨b7,0,none⟩) zs.length cp] 82 (0,0)):=by rw[hw2];exact World.alloc_heap_new wb _
     have hb2:Below w.heap.size w w2:=by rw[hw2];exact hbw.alloc (by have:=hbw.size;omega) _
     have hB2:Lib.IsBuilderF (rnB.t 72) (rnB.t 5) w.heap.size w.heap.size (Lib.byteCells [45]) w2:=by rw[hw2];exact hB.alloc _
     have hs2:w2.heap.size=wb.heap.size+1:=by rw[hw2];simp
     have hcell2:∀j,j<zs.length->w2.cell? ⟨b7,0+j,none⟩=some (.int .u32 ((zs[j]?.getD ⟨0,by decide⟩).1:Int)):=λj hj=>(hb2.cell (p:=⟨b7,0+j,none⟩) hb7).trans (hcell j hj)
     have cBS:w2.cell? ⟨wb.heap.size,0,none⟩=some (.slice (some ⟨b7,0,none⟩) zs.length cp):=by simp[World.cell?,hBS]
     obtain⟨BS,hBSe⟩:∃BS,BS=wb.heap.size:=⟨_,rfl⟩
     rw[<-hBSe] at hBS hs2 cBS hlt |-
     clear hw2 hBSe hB hbw c4b hok
     gi_wp2
     refine wpIn_rangeFunc_ownG rfl (by decide) (gf:=252) (lb:=#[.pointer (some ⟨BS,0,none⟩)]) rfl trivial (enters_of Tryz.func252 (by kernel_rfl) rfl)
      (Xnw Fence.wide (8-1) trivial rfl (by decide) BS w.heap.size b7 0 cp zs hz9 w2 (by omega) (by omega) cBS hb7 hcell2) Kq.trans (λW l o o' hl h _ _=>Xvw W l o hl (by omega) (by omega) h o') (Below.refl _ _) (λ_=>rfl)
      (λpre W=>(Lib.IsBuilderF (rnB.t 72) (rnB.t 5) w.heap.size w.heap.size (Lib.byteCells (o9 zs.length [45] pre)) W/\W.heap[BS]?=some (.cells #[.slice (some ⟨b7,0,none⟩) zs.length cp] 82 (0,0)))/\Below w.heap.size w W)
      (λ_ _ _=>False)
      (OwnFrom.and (Own.from (λs A B row hs hg hr=>⟨Xv1 _ _ _ _ (λp=>Lib.byteCells (o9 zs.length [45] p)) s A B row hs.1 hg hr,Xjc hs.2 hg hr⟩) _) (ownFrom_below (W0b _) (by omega)))
      (λ_ _ _ _ _ hs _ _=>hs)
      ⟨⟨hB2,hBS⟩,hb2⟩
      (λx=>{ tmps:=#[t0,.pointer (some ⟨bx,0,none⟩),t2,t3,.pointer (some ⟨by4,0,none⟩),t5,t6,.pointer (some ⟨w.heap.size,0,none⟩),.int .i64 (x.1:Int),.int .u32 (x.2.1:Int),t10,t11,t12,t13,t14,t15,t16,t17,t18,t19,t20,t21,t22,t23,t24,t25,t26,t27,t28,t29,t30,t31,t32,t33,t34,t35,t36,t37,t38,t39,t40,t41,t42,t43,t44,t45,t46,t47,t48,t49,t50,.pointer (some ⟨bx,0,none⟩),.bool true,.nilIface,.slice (some ⟨b7,0,none⟩) zs.length cp,.func (.func 252) #[] #[.pointer (some ⟨BS,0,none⟩)],.int .i64 (x.1:Int),.int .u32 (x.2.1:Int),t58,t59,t60,t61,t62,t63,t64,t65,t66,t67,t68,t69,t70,t71,t72,t73],defers:=[] }) ?assign ?body ?done ?stop
     case assign =>
      intro l x W K hK
      gi_wp2
      exact hK
     case stop =>
      rintro D c pre W _ _ h _
      exact h.elim
     case body =>
      rintro l pre x W ⟨⟨hBd,hBS⟩,hBl⟩ hlen
      gi_wp2
      rw[wU (by have:=x.2.2;omega)]
      refine⟨trivial,(CallsIn.inRound l (callsIn_wide.2 (You (hgw hBl) x.2))).mono ?_⟩
      rintro e W1 ⟨rfl,hW1⟩
      have h9:W9 w.heap.size BS w2.heap.size (.slice (some ⟨b7,0,none⟩) zs.length cp) w W (o9 zs.length [45] pre) W1:=W9.below ⟨hBd,hBS,hBl,KeepsFrom.refl _ _,Kq.refl _ _ _⟩ hBl.size hW1
      have c41:W1.cell? ⟨by4,0,none⟩=some (.slice (some ⟨b7,0,none⟩) zs.length cp):=(h9.l.cell (p:=⟨by4,0,none⟩) hb4).trans c4
      have hxl:=Ync x.2
      have hol:=Xu5 zs.length pre [45]
      have hos:=Xou zs.length [45] pre x
      have hsgl:([45]:List UInt8).length<=1:=by decide
      have hpl:pre.length<549755813888:=by omega
      obtain⟨ds,hds⟩:∃ds,ds=dec x.2.1:=⟨_,rfl⟩
      rw[<-hds] at hxl hos |-
      have hBn:BS≠w.heap.size:=by omega
      clear hds hBd hBS hW1
      gi_wp2
      . rename_i hx
        refine⟨trivial,(CallsIn.inRound l (callsIn_wide.2 (Yn5 (hgw h9.l) (n:=9-ds.length) (by omega) (by omega)))).mono ?_⟩
        rintro e W2 ⟨rfl,hW2⟩
        have h9b:=h9.below h9.l.size hW2
        obtain⟨zr,hzr⟩:∃zr,zr=List.replicate (9-ds.length) (48:UInt8):=⟨_,rfl⟩
        have hzrl:zr.length<=9:=by rw[hzr,W1l];omega
        rw[<-hzr]
        rw[if_pos (by omega),<-hzr] at hos
        clear hzr
        gi_wp2
        refine⟨trivial,(CallsIn.inRound l (callsIn_wide.2 (h9b.wr zr h9b.l.size hBn (by omega)))).mono ?_⟩
        rintro e W3 ⟨rfl,h9c⟩
        gi_wp2
        refine⟨trivial,(CallsIn.inRound l (callsIn_wide.2 (h9c.wr ds h9c.l.size hBn (by simp only[W0d];omega)))).mono ?_⟩
        rintro e W4 ⟨rfl,h9d⟩
        gi_wp2
        exact⟨h9d.k,h9d.q,⟨by rw[hos];exact h9d.b,h9d.s⟩,h9d.l⟩
      . rename_i hx
        rw[if_neg (by omega),W3t] at hos
        refine⟨trivial,(CallsIn.inRound l (callsIn_wide.2 (h9.wr ds h9.l.size hBn (by omega)))).mono ?_⟩
        rintro e W4 ⟨rfl,h9d⟩
        gi_wp2
        exact⟨h9d.k,h9d.q,⟨by rw[hos];exact h9d.b,h9d.s⟩,h9d.l⟩
     case done =>
      rintro D ys W hD rfl ⟨⟨hBd,hBS⟩,hBl⟩ hK
      gi_wp2
      have hne:o9 zs.length [45] (b9 zs zs.length)=tx z:=by
       rw[Yeh _ _ _ (W0b _),W3b,W1d,htx]
       unfold tx
       rw[if_pos hneg]
      rw[hne] at hBd
      have hn0:tx z≠[]:=by
       unfold tx
       intro h
       exact Xxb _ (List.append_eq_nil_iff.1 h).2
      refine⟨trivial,(callsIn_wide.2 (Any.Builder_String_k Yci Yll w.heap.size w.heap.size (tx z) W hBd hn0)).mono ?_⟩
      rintro e W3 ⟨rfl,_,hb3,hok3⟩
      have hK3:=hok3 D _ hK (by intro h;cases h;have:=hBl.size;omega) (by intro c fz h;cases h)
      gi_wp2
      refine⟨by simp,.inl ⟨_,_,rfl,run_takeDeferred hK3,?_⟩⟩
      refine⟨_,results_tmp rfl _ _ _,?_⟩
      refine hfin (s:=tx z) ?_ rfl
      exact(hBl.trans hb3).trans (belowK_b (w:=w) (W0b _) W3 D _ _ (by omega) hK3 rfl rfl)
   . simp only[decide_eq_false hneg] at cA
     gi_wp2
     obtain⟨wb,hwb⟩:∃wb,wb=w.alloc (.cells #[.pointer none,.slice none 0 0] 179):=⟨_,rfl⟩
     have hB:Lib.IsBuilderF (rnB.t 72) (rnB.t 5) w.heap.size w.heap.size (Lib.byteCells []) wb:=by rw[hwb];exact .of (Lib.fresh_isBuilder _ _ w)
     have hbw:Below w.heap.size w wb:=by rw[hwb];exact(Below.refl _ w).alloc (W0b _) _
     have hlt:w.heap.size<wb.heap.size:=by rcases hB with h | h<;>exact h.lt
     rw[<-hwb]
     clear hwb
     refine⟨trivial,(Xpi Fence.wide 7 trivial rfl _ _ _ _).mono ?_⟩
     rintro e w2 ⟨rfl,hw2⟩
     have hBS:w2.heap[wb.heap.size]?=some (.cells #[.slice (some ⟨b7,0,none⟩) zs.length cp] 82 (0,0)):=by rw[hw2];exact World.alloc_heap_new wb _
     have hb2:Below w.heap.size w w2:=by rw[hw2];exact hbw.alloc (by have:=hbw.size;omega) _
     have hB2:Lib.IsBuilderF (rnB.t 72) (rnB.t 5) w.heap.size w.heap.size (Lib.byteCells []) w2:=by rw[hw2];exact hB.alloc _
     have hs2:w2.heap.size=wb.heap.size+1:=by rw[hw2];simp
     have hcell2:∀j,j<zs.length->w2.cell? ⟨b7,0+j,none⟩=some (.int .u32 ((zs[j]?.getD ⟨0,by decide⟩).1:Int)):=λj hj=>(hb2.cell (p:=⟨b7,0+j,none⟩) hb7).trans (hcell j hj)
     have cBS:w2.cell? ⟨wb.heap.size,0,none⟩=some (.slice (some ⟨b7,0,none⟩) zs.length cp):=by simp[World.cell?,hBS]
     obtain⟨BS,hBSe⟩:∃BS,BS=wb.heap.size:=⟨_,rfl⟩
     rw[<-hBSe] at hBS hs2 cBS hlt |-
     clear hw2 hBSe hB hbw
     gi_wp2
     refine wpIn_rangeFunc_ownG rfl (by decide) (gf:=252) (lb:=#[.pointer (some ⟨BS,0,none⟩)]) rfl trivial (enters_of Tryz.func252 (by kernel_rfl) rfl)
      (Xnw Fence.wide (8-1) trivial rfl (by decide) BS w.heap.size b7 0 cp zs hz9 w2 (by omega) (by omega) cBS hb7 hcell2) Kq.trans (λW l o o' hl h _ _=>Xvw W l o hl (by omega) (by omega) h o') (Below.refl _ _) (λ_=>rfl)
      (λpre W=>(Lib.IsBuilderF (rnB.t 72) (rnB.t 5) w.heap.size w.heap.size (Lib.byteCells (o9 zs.length [] pre)) W/\W.heap[BS]?=some (.cells #[.slice (some ⟨b7,0,none⟩) zs.length cp] 82 (0,0)))/\Below w.heap.size w W)
      (λ_ _ _=>False)
      (OwnFrom.and (Own.from (λs A B row hs hg hr=>⟨Xv1 _ _ _ _ (λp=>Lib.byteCells (o9 zs.length [] p)) s A B row hs.1 hg hr,Xjc hs.2 hg hr⟩) _) (ownFrom_below (W0b _) (by omega)))
      (λ_ _ _ _ _ hs _ _=>hs)
      ⟨⟨hB2,hBS⟩,hb2⟩
      (λx=>{ tmps:=#[t0,.pointer (some ⟨bx,0,none⟩),t2,t3,.pointer (some ⟨by4,0,none⟩),t5,t6,.pointer (some ⟨w.heap.size,0,none⟩),.int .i64 (x.1:Int),.int .u32 (x.2.1:Int),t10,t11,t12,t13,t14,t15,t16,t17,t18,t19,t20,t21,t22,t23,t24,t25,t26,t27,t28,t29,t30,t31,t32,t33,t34,t35,t36,t37,t38,t39,t40,t41,t42,t43,t44,t45,t46,t47,t48,t49,t50,.pointer (some ⟨bx,0,none⟩),.bool false,t53,.slice (some ⟨b7,0,none⟩) zs.length cp,.func (.func 252) #[] #[.pointer (some ⟨BS,0,none⟩)],.int .i64 (x.1:Int),.int .u32 (x.2.1:Int),t58,t59,t60,t61,t62,t63,t64,t65,t66,t67,t68,t69,t70,t71,t72,t73],defers:=[] }) ?assign ?body ?done ?stop
     case assign =>
      intro l x W K hK
      gi_wp2
      exact hK
     case stop =>
      rintro D c pre W _ _ h _
      exact h.elim
     case body =>
      rintro l pre x W ⟨⟨hBd,hBS⟩,hBl⟩ hlen
      gi_wp2
      rw[wU (by have:=x.2.2;omega)]
      refine⟨trivial,(CallsIn.inRound l (callsIn_wide.2 (You (hgw hBl) x.2))).mono ?_⟩
      rintro e W1 ⟨rfl,hW1⟩
      have h9:W9 w.heap.size BS w2.heap.size (.slice (some ⟨b7,0,none⟩) zs.length cp) w W (o9 zs.length [] pre) W1:=W9.below ⟨hBd,hBS,hBl,KeepsFrom.refl _ _,Kq.refl _ _ _⟩ hBl.size hW1
      have c41:W1.cell? ⟨by4,0,none⟩=some (.slice (some ⟨b7,0,none⟩) zs.length cp):=(h9.l.cell (p:=⟨by4,0,none⟩) hb4).trans c4
      have hxl:=Ync x.2
      have hol:=Xu5 zs.length pre []
      have hos:=Xou zs.length [] pre x
      have hsgl:([]:List UInt8).length<=1:=by decide
      have hpl:pre.length<549755813888:=by omega
      obtain⟨ds,hds⟩:∃ds,ds=dec x.2.1:=⟨_,rfl⟩
      rw[<-hds] at hxl hos |-
      have hBn:BS≠w.heap.size:=by omega
      clear hds hBd hBS hW1
      gi_wp2
      . rename_i hx
        refine⟨trivial,(CallsIn.inRound l (callsIn_wide.2 (Yn5 (hgw h9.l) (n:=9-ds.length) (by omega) (by omega)))).mono ?_⟩
        rintro e W2 ⟨rfl,hW2⟩
        have h9b:=h9.below h9.l.size hW2
        obtain⟨zr,hzr⟩:∃zr,zr=List.replicate (9-ds.length) (48:UInt8):=⟨_,rfl⟩
        have hzrl:zr.length<=9:=by rw[hzr,W1l];omega
        rw[<-hzr]
        rw[if_pos (by omega),<-hzr] at hos
        clear hzr
        gi_wp2
        refine⟨trivial,(CallsIn.inRound l (callsIn_wide.2 (h9b.wr zr h9b.l.size hBn (by omega)))).mono ?_⟩
        rintro e W3 ⟨rfl,h9c⟩
        gi_wp2
        refine⟨trivial,(CallsIn.inRound l (callsIn_wide.2 (h9c.wr ds h9c.l.size hBn (by simp only[W0d];omega)))).mono ?_⟩
        rintro e W4 ⟨rfl,h9d⟩
        gi_wp2
        exact⟨h9d.k,h9d.q,⟨by rw[hos];exact h9d.b,h9d.s⟩,h9d.l⟩
      . rename_i hx
        rw[if_neg (by omega),W3t] at hos
        refine⟨trivial,(CallsIn.inRound l (callsIn_wide.2 (h9.wr ds h9.l.size hBn (by omega)))).mono ?_⟩
        rintro e W4 ⟨rfl,h9d⟩
        gi_wp2
        exact⟨h9d.k,h9d.q,⟨by rw[hos];exact h9d.b,h9d.s⟩,h9d.l⟩
     case done =>
      rintro D ys W hD rfl ⟨⟨hBd,hBS⟩,hBl⟩ hK
      gi_wp2
      have hne:o9 zs.length [] (b9 zs zs.length)=tx z:=by
       rw[Yeh _ _ _ (W0b _),W3b,W1d,htx]
       unfold tx
       rw[if_neg (by omega)]
      rw[hne] at hBd
      have hn0:tx z≠[]:=by
       unfold tx
       intro h
       exact Xxb _ (List.append_eq_nil_iff.1 h).2
      refine⟨trivial,(callsIn_wide.2 (Any.Builder_String_k Yci Yll w.heap.size w.heap.size (tx z) W hBd hn0)).mono ?_⟩
      rintro e W3 ⟨rfl,_,hb3,hok3⟩
      have hK3:=hok3 D _ hK (by intro h;cases h;have:=hBl.size;omega) (by intro c fz h;cases h)
      gi_wp2
      refine⟨by simp,.inl ⟨_,_,rfl,run_takeDeferred hK3,?_⟩⟩
      refine⟨_,results_tmp rfl _ _ _,?_⟩
      refine hfin (s:=tx z) ?_ rfl
      exact(hBl.trans hb3).trans (belowK_b (w:=w) (W0b _) W3 D _ _ (by omega) hK3 rfl rfl)
theorem Xsq{z:Int}(hl:(dig z.natAbs).length<=274877906944): C0 103 [.d (dz z)] (·=.d (.str (tx z))):=by
 by_cases hz:z=0
 . subst hz
   have:tx 0=[48]:=by unfold tx;rw[if_neg (by decide),show Int.natAbs 0=0 from rfl,Xeh (by decide)];rfl
   rw[this];exact Xpq
 . exact Xs5 hz hl
end
end Go.Proofs.YtegepebhkhhhoaaGreatDoor
namespace Go.Proofs.YtegepebhkhhhoaaGreatDoor.P11
open Go Go.Vm Go.Num Go.Tow Go.Proofs.YtegepebhkhhhoaaGreatDoor Go.Proofs.YtegepebhkhhhoaaGreatDoor.P9 Go.Proofs.YtegepebhkhhhoaaGreatDoor.R11
def fmtV(z:Int)(d:Nat): AV:=if (txt z d).length<=400 then .tup (.pr (.d (.str (txt z d))) (.d (.int .i64 0))) else .tup (.pr (.d (.str [])) (.d (.int .i64 3)))
abbrev RndOf(x:Nm)(d:Nat)(z:Int): Prop:=Xdm x.k x.t (scl x.k x.t x.a ((10^d:Int):Rat) hf) z
theorem dcT{p:Prop}(h:p): dc p=true:=Xaj.2 h
theorem dcF{p:Prop}(h:¬p): dc p=false:=W6m.2 λe=>h (Xaj.1 e)
theorem Yj8{z:Int}(hl:(dig z.natAbs).length<=274877906944): C0 102 [.d (.str (tx z)),.d (.str [45])] (·=.tup (.pr (.d (.str (dec z.natAbs))) (.b (dc (z<0))))):=by
 have hlen:=Xpd z.natAbs
 have hT:Tx (tx z):=by
  by_cases h:z<0
  . rw[Xtr h];show (45::dec z.natAbs).length<_;rw[W0u];omega
  . rw[Xtq h];show (dec z.natAbs).length<_;omega
 have h:=Xn3 (s:=tx z) (t:=[45]) hT (by decide)
 by_cases hz:z<0
 . have e:(tx z).take [(45:UInt8)].length=[45]:=by rw[Xtr hz];rfl
   rw[if_pos e,show (tx z).drop [(45:UInt8)].length=dec z.natAbs by rw[Xtr hz];rfl] at h
   exact h.mono λv hv=>by rw[hv,dcT e,dcT hz]
 . have e:¬(tx z).take [(45:UInt8)].length=[45]:=λe=>by
    rw[Xtq hz] at e
    have hm:(45:UInt8)∈dec z.natAbs:=W5i (by rw[e];exact W0i.2 rfl)
    have:=(Yj5 z.natAbs 45 hm).1
    exact absurd this (by decide)
   exact h.mono λv hv=>by rw[hv,if_neg e,dcF e,dcF hz,Xtq hz]
theorem Xjn{x:Nm}{d:Nat}(H:Pk x)(hd:d<=60): C0 54 [.d (dN x),.d (.int .i64 d)] λv=>∃z,RndOf x d z/\(dig z.natAbs).length<=274877906944/\v=fmtV z d:=by
 refine En Tryz.func54 λ_ _ _=>?_
 refine Ca rfl (Ya0 H hd) λv hv=>?_
 obtain⟨z,rfl,hz,hl⟩:=hv
 have hlen:=Xpd z.natAbs
 have hpl:=Yed d (dec z.natAbs)
 have hdp:=Xw9 z.natAbs
 obtain⟨s,hs⟩:∃s,s=dec z.natAbs:=⟨_,rfl⟩
 rw[<-hs] at hlen hpl hdp
 have hct:=Yj8 hl
 rw[<-hs] at hct
 refine No rfl (by decide) ?_
 refine Ce rfl (Xsq hl) ?_
 refine Ce rfl hct ?_
 obtain⟨q,hq⟩:∃q,q=pad d s:=⟨_,rfl⟩
 have hql:q.length=max (d+1) s.length:=by rw[hq,hpl]
 obtain⟨r,hr⟩:∃r,r=pt d q:=⟨_,rfl⟩
 have hrl:r.length<=q.length+1:=by
  rw[hr,pt];split
  . omega
  . rw[W0d,W0u,W0g,W1j];omega
 have htx:txt z d=(if z<0 then [45] else [])++r:=by rw[txt,hr,hq,hs]
 refine Cu none (λ(_:Unit)=>[(1,.d (.int .i64 d)),(8,.d (.str q)),(9,.b (dc (z<0)))]) (λ_=>[]) (λ_=>True) rfl ?_ λ_ _=>?_
 . refine By rfl (λh=>?_) λh=>?_
   . have h:((s.length:Nat):Int)<=d:=h
     refine Ar (d+1:Nat) rfl ?_
     refine Ar (d+1-s.length:Nat) rfl ?_
     refine Ce rfl (Xkr (by omega)) ?_
     refine Sc q rfl (by rw[hq];rfl) (by rw[W1l];omega) ?_
     exact Jn () [] rfl trivial
   . have h:¬((s.length:Nat):Int)<=d:=h
     have e:q=s:=by rw[hq,pad,show d+1-s.length=0 by omega];rfl
     rw[e]
     exact Jn () [] rfl trivial
 refine Cu none (λ(_:Unit)=>[(1,.d (.int .i64 d)),(8,.d (.str r)),(9,.b (dc (z<0)))]) (λ_=>[]) (λ_=>True) rfl ?_ λ_ _=>?_
 . refine By rfl (λh=>?_) λh=>?_
   . refine Dw rfl ?_
     refine Ar ((q.length-d:Nat):Int) rfl ?_
     refine Stk (q.length-d) _ rfl (by omega) rfl ?_
     refine Sc (q.take (q.length-d)++[46]) rfl rfl (by simp;omega) ?_
     refine Ar ((q.length-d:Nat):Int) rfl ?_
     refine Sdp (q.length-d) _ rfl (by omega) rfl ?_
     refine Sc r rfl (by rw[hr,pt,if_neg (by omega)];simp) (by simp;omega) ?_
     exact Jn () [] rfl trivial
   . have e:r=q:=by rw[hr,pt,if_pos (by omega)]
     rw[e]
     exact Jn () [] rfl trivial
 refine Cu none (λ(_:Unit)=>[(8,.d (.str (txt z d)))]) (λ_=>[]) (λ_=>True) rfl ?_ λ_ _=>?_
 . refine By rfl (λh=>?_) λh=>?_
   . refine Sc (txt z d) rfl (by rw[htx,if_pos h]) (by show 1+r.length<_;omega) ?_
     exact Jn () [] rfl trivial
   . rw[htx,if_neg h]
     exact Jn () [] rfl trivial
 refine By rfl (λh=>?_) λh=>?_
 . exact Rt rfl (.tup (.cons (.rf rfl) Xa2)) ⟨z,hz,hl,by rw[fmtV,if_neg (by omega)]⟩
 . exact Rt rfl (.tup (.cons (.rf rfl) Xa2)) ⟨z,hz,hl,by rw[fmtV,if_pos (by omega)]⟩
theorem dFmt_ok{x:Nm}{d:Nat}(H:Pk x)(hd:d<=60): C0 54 [.d (dN x),.d (.int .i64 d)] λv=>∃z,RndOf x d z/\(dig z.natAbs).length<=274877906944/\v=fmtV z d:=Xjn H hd
end Go.Proofs.YtegepebhkhhhoaaGreatDoor.P11
namespace Go.Vm
open Go
theorem Stp.freezeV{N:Nat->Prop}{W:GW}{θ:Loc}{g:Hp}(h:Obs W θ N g){o b:Nat}{x:D}(ho:g o=some (.var (.d x)))(hb:(θ o).1=some b): Stp N W (W.fz b) θ θ g (upd g o .dead) where
 os:=_root_.rfl
 out:=_root_.rfl
 tape:=_root_.rfl
 size:=W0b _
 same:=λ_ _ _=>_root_.rfl
 A:=λb' _ hn i=>⟨λk=>k.2,λk=>⟨λe=>by subst e;exact hn (h.new o _ _ ho _root_.rfl hb),k⟩⟩
 le:=Xsr W b
 th:=λ_ _ _=>_root_.rfl
 hi:=λ_ _=>_root_.rfl
 obs:={
  r:=λo' z hz=>by
   rcases Xaf hz with ⟨e1,e2⟩ | ⟨e1,e2⟩
   . subst e2;trivial
   . exact(h.r o' z e2).keep (Xsr W b) _root_.rfl (λ_ _=>_root_.rfl) λhl b' hb'=>⟨_root_.rfl,λi hA=>show b'≠b/\W.A b' i from⟨λe=>by
      subst e
      exact e1 (h.dis o' o z _ _ e2 ho hl _root_.rfl hb' hb),hA⟩⟩
  new:=λo' z b hz hl hb=>by
   rcases Xaf hz with ⟨e1,e2⟩ | ⟨e1,e2⟩
   . subst e2;cases hl
   . exact h.new o' z b e2 hl hb
  dis:=λo1 o2 y1 y2 b h1 h2 l1 l2 b1 b2=>by
   rcases Xaf h1 with ⟨e1,f1⟩ | ⟨e1,f1⟩
   . subst f1;cases l1
   . rcases Xaf h2 with ⟨e2,f2⟩ | ⟨e2,f2⟩
     . subst f2;cases l2
     . exact h.dis o1 o2 y1 y2 b f1 f2 l1 l2 b1 b2
  ids:=λo' z i hz hzi=>by
   have:∃w,g i=some w:=by
    rcases Xaf hz with ⟨e1,e2⟩ | ⟨e1,e2⟩
    . subst e2;exact hzi.elim
    . exact h.ids o' z i e2 hzi
   obtain⟨w,hw⟩:=this
   by_cases e:i=o
   . subst e;exact⟨_,Xai _ _ _⟩
   . exact⟨w,by rw[Xak e];exact hw⟩ }
 dom:=λi y hy=>by
  by_cases e:i=o
  . subst e;exact⟨_,Xai _ _ _⟩
  . exact⟨y,by rw[Xak e];exact hy⟩
theorem Xwm{N:Nat->Prop}{W:GW}{θ:Loc}{g:Hp}(h:Obs W θ N g){o b:Nat}{x:D}{v:Value}(ho:g o=some (.var (.d x)))(hb:(θ o).1=some b)(hv:AV.V W θ (.ptr o 0) v): AV.V (W.fz b) θ (.at x) v:=by
 obtain⟨cs,⟨b1,h1,h2⟩,hc⟩:=hv
 refine⟨cs,?_,hc⟩
 obtain⟨b',bs,T',r1,r2,r3,r4⟩:=h.r _ _ ho
 rw[hb] at r1 h1;injection r1 with r1;injection h1 with h1;subst r1;subst h1
 exact⟨b,0,bs,h2,D.mono (Xsr W b) x r3,λj v hj=>⟨show W.w.cell? _=_ by rw[W1k,Xbb r2];exact hj,λhA=>hA.1 rfl⟩⟩
section
variable{c:Cx}{s:St}{p:Pl}
noncomputable def Yol(tb:Nat->Option TI)(n id t:Nat)(s:St): Option (List Kt×Env×Hpl×Nat×D):=match runT tb n id 1000 s with
 | .j _ K E H=>match look E t with
  | some (.ptr o 0)=>match look H o with
   | some (.var (.d x))=>some (K,E,H,o,x)
   | _=>none
  | _=>none
 | _=>none
theorem Fv(id t:Nat){K:List Kt}{E:Env}{H:Hpl}{o:Nat}{x:D}(h:Yol c.tb c.n id t s=some (K,E,H,o,x))(k:StP c (.j [] K ((t,.at x)::E) ((o,.dead)::H))): StP c s:=by
 unfold Yol at h
 split at h<;>try cases h
 rename_i hr
 split at h<;>try cases h
 rename_i he
 split at h<;>cases h
 rename_i ho
 refine Xg6 (id:=id) 1000 ?_
 rw[hr]
 rintro a w ⟨s0,W,θ,hw,hs,hθ,rfl⟩
 obtain⟨b,bs,T',r1,_⟩:=hs.obs.r _ _ ho
 have st:=Stp.freezeV hs.obs ho r1
 have h1:=hs.step0 st
 refine k a w ⟨_,W.fz b,θ,hw,?_,hθ,rfl⟩
 rw[show sem ((t,AV.at x)::E) ((o,Ob.dead)::H)=(upd (look E) t (.at x),upd (look H) o .dead) by rw[Xa7,Xa7]]
 refine⟨h1.fm,⟨h1.rel.defers,h1.rel.size,λq v hq=>?_⟩,h1.obs,λq v i hq hi=>?_⟩
 . rcases Xaf hq with ⟨e1,e2⟩ | ⟨e1,e2⟩
   . subst e1;subst e2
     exact Xwm hs.obs ho r1 (hs.rel.has q _ he)
   . exact h1.rel.has q v e2
 . rcases Xaf hq with ⟨e1,e2⟩ | ⟨e1,e2⟩
   . subst e1;subst e2;exact hi.elim
   . exact h1.ids q v i e2 hi
end
end Go.Vm
namespace Go.Proofs.YtegepebhkhhhoaaGreatDoor.R20
open Go Go.Vm Go.Num Go.Tow Go.Proofs.YtegepebhkhhhoaaGreatDoor Go.Proofs.YtegepebhkhhhoaaGreatDoor.P20
open Go.Proofs.YtegepebhkhhhoaaGreatDoor.P55 (v0 W0 g0 gv0 zw Xlv Qp)
section
variable{K:Nat}{G:Tw K}{S:List (Tow.El K)}{N:List Nm}{n m:Nat}{x y z:Nm}{a b:Tow.El K}
variable{K':Nat}{G':Tw K'}{S':List (Tow.El K')}{N':List Nm}{u s:Vn}{p q:V2 K'}{f g:Int}
theorem compare_g(W:Wn G S N)(hx:Gd G S N n x a)(hy:Gd G S N m y b)(hn:n<=190)(hm:m<=190): C0 127 [.d (dN x),.d (dN y)] (·=.d (.int .i64 (sgn K G (Tow.add K a (Tow.neg K b))))):=by
 refine En Tryz.func127 λ_ _ _=>?_
 refine Ce rfl (R9.Cmp_g W hx hy hn hm) ?_
 exact R0
theorem Zero_g(W':Wn G' S' N')(hu:Gv G' S' N' m u p)(hm:m<=800): C0 39 [.d (dT u f)] (·=.b (dc (f=0/\Xbc G' p))):=by
 refine En Tryz.func39 λ_ _ _=>?_
 refine By rfl (λh=>?_) λh=>?_
 . refine Ce rfl (R9.Sign_g W' hu.y hm) ?_
   refine By rfl (λh1=>?_) λh1=>?_
   . refine Ce rfl (R9.Sign_g W' hu.x hm) ?_
     exact R1 rfl (.bp (Xaj.trans ⟨λh2=>⟨h,h1,h2⟩,λh2=>h2.2.2⟩))
   . exact R1 rfl (.bp ⟨nofun,λh2=>absurd h2.2.1 h1⟩)
 . exact R1 rfl (.bp ⟨nofun,λh2=>absurd h2.1 h⟩)
theorem half_g(W:Wn G S N)(hx:Gd G S N n x a)(hn:n<=190): C0 66 [.d (dN x)] (OnG G S N (n+1) (Tow.mul K G a (Tow.rat K hf2))):=by
 refine En Tryz.func66 λ_ _ _=>?_
 refine Dw rfl ?_
 refine Ce rfl (R2.Frac_ok (a:=1) (b:=2) (by decide) (by decide) (by decide)) ?_
 refine Ce rfl (R9.FromRat_ok (q:=hf2)) ?_
 refine Ca rfl (R9.Mul_g W hx (Gd.rat W Xrh) (by omega) (by decide)) λv hv=>?_
 obtain⟨z,rfl,hz⟩:=hv
 exact Rt rfl (.one (.rf rfl) rfl rfl) ⟨z,rfl,hz⟩
theorem Xmc(W:Wn G S N)(W':Wn G' S' N')(hx:Gd G S N n x a)(hu:Gv G' S' N' m u p)(hn:n<=190)(hm:m<=800): C0 26 [.d (dN x),.d (dT u f)] (λr=>((f=0/\Xbc G' p)/\r=.d (dAr n00 []))\/(¬(f=0/\Xbc G' p)/\∃z,r=.d (dAr n00 [⟨z,u,f⟩])/\Gd G S N (n+1) z (Tow.mul K G a (Tow.rat K hf2)))):=by
 refine En Tryz.func26 λ_ _ _=>?_
 refine Ce rfl (R9.FromInt_ok (z:=0) (by decide)) ?_
 refine Ce rfl (Zero_g W' hu hm) ?_
 refine By rfl (λh=>?_) λh=>?_
 . have h:¬(f=0/\Xbc G' p):=by simpa only [Xaq,Xaj] using h
   refine Dw rfl ?_
   refine Ca rfl (half_g W hx hn) λv hv=>?_
   obtain⟨z,rfl,hz⟩:=hv
   exact Rt rfl (.one (.sd (.pd (.rf rfl) (.lit rfl))) rfl rfl) (.inr ⟨h,z,rfl,hz⟩)
 . have h:f=0/\Xbc G' p:=W3a.1 (by simpa only [Xaq,Xaj] using h)
   exact Rt rfl (.one (.sd (.pd (.rf rfl) (.nil rfl))) rfl rfl) (.inl ⟨h,rfl⟩)
end
structure SOk (s:Sn):Prop where
 vc:C0 72 [.d (dN s.c)] (·=.b true)
 vd:C0 61 [.d (dV s.v)] (·=.b true)
 tv:C0 62 [.d (dT s.v s.f)] (·=.b true)
 tz:C0 39 [.d (dT s.v s.f)] (·=.b false)
 sc:C0 24 [.d (dN s.c)] (·=.d (.int .i64 1))
theorem lse(l:List Sn): (l.map dSe).length=l.length:=W0j ..
theorem ase{l:List Sn}{k:Nat}{s:Sn}(h:l[k]?=some s): (l.map dSe)[k]?=some (dSe s):=by rw[W1s,h];rfl
theorem Yga{x:Nm}{l:List Sn}(hl:l.length<=100)(h:∀s∈l,SOk s)(ho:∀(i:Nat) s t,l[i]?=some s->l[i+1]?=some t->C0 127 [.d (dN s.c),.d (dN t.c)] (·=.d (.int .i64 (-1)))): C0 73 [.d (dAr x l)] (·=.b true):=by
 refine En Tryz.func73 λ_ _ _=>?_
 refine Lo (λk:Nat=>[(1,.ptr 1 0),(3,.d (.int .i64 k))]) (λ_=>[(1,.var (.d (dAr x l)))]) (λk=>k<=l.length) (λk=>l.length-k) 0 [] rfl (W0w _) λk hk=>?_
 refine By rfl (λh1=>?_) λh1=>?_<;>simp only[lse] at h1
 . obtain⟨s,hs⟩:∃s,l[k]?=some s:=⟨_,W0c (by omega)⟩
   have H:=h s (W0h hs)
   refine Ix k rfl (ase hs) ?_
   refine Ce rfl H.tv ?_
   refine No rfl (λh=>h rfl) ?_
   refine Ce rfl H.tz ?_
   refine No rfl nofun ?_
   refine Ce rfl H.sc ?_
   refine No rfl (by decide) ?_
   refine Dw rfl ?_
   refine By rfl (λh2=>?_) λh2=>?_
   . obtain⟨j,rfl⟩:∃j,k=j+1:=⟨k-1,by omega⟩
     obtain⟨r,hr⟩:∃r,l[j]?=some r:=⟨_,W0c (by omega)⟩
     refine Ar (j:Nat) rfl ?_
     refine Ix j rfl (ase hr) ?_
     refine Ce rfl (ho j r s hr hs) ?_
     refine No rfl (by decide) ?_
     refine Ar (j+1+1:Nat) rfl ?_
     exact Bk (j+1+1) [] rfl (by omega) (by show l.length-(j+1+1)<l.length-(j+1);omega)
   . refine Ar (k+1:Nat) rfl ?_
     exact Bk (k+1) [] rfl (by omega) (by show l.length-(k+1)<l.length-k;omega)
 . exact R0
theorem Good_l{x:Nm}{l:List Sn}(hl:l.length<=100)(hx:C0 72 [.d (dN x)] (·=.b true))(h:∀s∈l,SOk s)(ho:∀(i:Nat) s t,l[i]?=some s->l[i+1]?=some t->C0 127 [.d (dN s.c),.d (dN t.c)] (·=.d (.int .i64 (-1)))): C0 27 [.d (dAr x l)] (·=.b true):=by
 refine En Tryz.func27 λ_ _ _=>?_
 refine Ce rfl hx ?_
 refine No rfl (λh=>h rfl) ?_
 refine Lo (λk:Nat=>[(1,.ptr 1 0),(3,.d (.int .i64 k))]) (λ_=>[(1,.var (.d (dAr x l)))]) (λk=>k<=l.length) (λk=>l.length-k) 0 [] rfl (W0w _) λk hk=>?_
 refine By rfl (λh1=>?_) λh1=>?_<;>simp only[lse] at h1
 . obtain⟨s,hs⟩:∃s,l[k]?=some s:=⟨_,W0c (by omega)⟩
   have H:=h s (W0h hs)
   refine Ix k rfl (ase hs) ?_
   refine Ce rfl H.vc ?_
   refine No rfl (λh=>h rfl) ?_
   refine Ix k rfl (ase hs) ?_
   refine Ce rfl H.vd ?_
   refine No rfl (λh=>h rfl) ?_
   refine Ar (k+1:Nat) rfl ?_
   exact Bk (k+1) [] rfl (by omega) (by show l.length-(k+1)<l.length-k;omega)
 . refine Ce rfl (Yga hl h ho) ?_
   exact R0
theorem Equal_l{x y:Nm}{l l':List Sn}{p:Prop}{P Q:Sn->Sn->Prop}(hl:l.length<=100)(hl':l'.length<=100)(hx:C0 19 [.d (dN x),.d (dN y)] (·=.b (dc p)))(h:∀(i:Nat) s t,l[i]?=some s->l'[i]?=some t->C0 19 [.d (dN s.c),.d (dN t.c)] (·=.b (dc (P s t)))/\C0 20 [.d (dT s.v s.f),.d (dT t.v t.f)] (·=.b (dc (Q s t)))):
 C0 28 [.d (dAr x l),.d (dAr y l')] (·=.b (dc (p/\l.length=l'.length/\∀(i:Nat) s t,l[i]?=some s->l'[i]?=some t->P s t/\Q s t))):=by
 refine En Tryz.func28 λ_ _ _=>?_
 refine Fv 1 2 rfl ?_
 refine Fv 1 3 rfl ?_
 refine Ce rfl hx ?_
 refine By rfl (λh1=>?_) λh1=>?_
 . have h1:¬p:=by simpa only [Xaq,Xaj] using h1
   rw[P11.dcF λh=>h1 h.1]
   exact R0
 have hp:p:=W3a.1 (by simpa only [Xaq,Xaj] using h1)
 refine By rfl (λh2=>?_) λh2=>?_<;>simp only[lse] at h2
 . rw[P11.dcF λh=>h2 (by rw[h.2.1])]
   exact R0
 have hll:l.length=l'.length:=by omega
 refine Lo (λk:Nat=>[(2,.at (dAr x l)),(3,.at (dAr y l')),(5,.d (.int .i64 k))]) (λ_=>[]) (λk=>k<=l.length/\∀(i:Nat) s t,i<k->l[i]?=some s->l'[i]?=some t->P s t/\Q s t) (λk=>l.length-k) 0 [] rfl ⟨W0w _,λ_ _ _ h=>absurd h (by omega)⟩ λk ⟨hk,hI⟩=>?_
 refine By rfl (λh3=>?_) λh3=>?_<;>simp only[lse] at h3
 . obtain⟨s,hs⟩:∃s,l[k]?=some s:=⟨_,W0c (by omega)⟩
   obtain⟨t,ht⟩:∃t,l'[k]?=some t:=⟨_,W0c (by omega)⟩
   obtain⟨g1,g2⟩:=h k s t hs ht
   refine Dz rfl ?_
   refine Ix k rfl (ase hs) ?_
   refine Ix k rfl (ase ht) ?_
   refine Ce rfl g1 ?_
   refine By rfl (λh4=>?_) λh4=>?_
   . have h4:¬P s t:=by simpa only [Xaq,Xaj] using h4
     rw[P11.dcF λh=>h4 (h.2.2 k s t hs ht).1]
     exact R0
   have hP:P s t:=W3a.1 (by simpa only [Xaq,Xaj] using h4)
   refine Ce rfl g2 ?_
   refine By rfl (λh5=>?_) λh5=>?_
   . have h5:¬Q s t:=by simpa only [Xaq,Xaj] using h5
     rw[P11.dcF λh=>h5 (h.2.2 k s t hs ht).2]
     exact R0
   have hQ:Q s t:=W3a.1 (by simpa only [Xaq,Xaj] using h5)
   refine Ar (k+1:Nat) rfl ?_
   refine Bk (k+1) [] rfl ⟨by omega,λi s' t' hi k1 k2=>?_⟩ (by show l.length-(k+1)<l.length-k;omega)
   by_cases e:i=k
   . subst e
     rw[hs] at k1;rw[ht] at k2
     cases k1;cases k2
     exact⟨hP,hQ⟩
   . exact hI i s' t' (by omega) k1 k2
 . rw[P11.dcT ⟨hp,hll,λi s t k1 k2=>hI i s t (by have:=(W0m.1 k1).1;omega) k1 k2⟩]
   exact R0
section
variable{K:Nat}{G:Tw K}{S:List (Tow.El K)}{N:List Nm}{n m:Nat}{x y z:Nm}{a b:Tow.El K}
theorem Xjl(W:Wn G S N){l:List Vn}{g:Nat->V2 K}(hl:∀(i:Nat) v,l[i]?=some v->Gv G S N n v (g i))(h0:0<l.length)(h8:l.length<=8)(hn:1<=n/\n<=4): C0 22 [.d (dVs l)] (λr=>∃z,r=.tup (.pr (.d (dAr z [])) (.d (.int .i64 0)))/\Gd G S N 130 z (Tow.mul K G (pgn G g l.length) (Tow.rat K hf2))):=by
 have lm:(l.map dV).length=l.length:=W0j ..
 refine En Tryz.func22 λ_ _ _=>?_
 refine Ce rfl (R9.FromInt_ok (z:=0) (by decide)) ?_
 refine Lo (λ((k,z):Nat×Nm)=>[(0,.d (dVs l)),(2,.ptr 2 0),(4,.ptr 8 0),(5,.ptr 5 0),(6,.d (.int .i64 k))]) (λ(k,z)=>[(2,.var zA),(8,cal),(5,.var (.d (dN z)))]) (λ(k,z)=>k<=l.length/\Gd G S N (1+16*k) z (Yea G g l.length k)) (λ(k,_)=>l.length-k) (0,n00) [] rfl ⟨W0w _,by rw[Yb1];exact Gd.rat W (by decide +kernel)⟩ ?_
 rintro⟨k,z⟩ ⟨hk,hz⟩
 refine By rfl (λh=>?_) λh=>?_<;>simp only[lm] at h
 . obtain⟨v,hv⟩:∃v,l[k]?=some v:=⟨_,W0c (by omega)⟩
   obtain⟨w,hw⟩:∃w,l[(k+1)%l.length]?=some w:=⟨_,W0c (W1x _ h0)⟩
   refine Dw rfl ?_
   refine Ix k rfl (mp hv) ?_
   refine Ar (k+1:Nat) rfl ?_
   refine Ar ((k+1)%l.length:Nat) rfl ?_ (by rw[lm];exact remN _ h0)
   refine Ix ((k+1)%l.length) rfl (mp hw) ?_
   refine Cn [(1000001,8)] rfl (R15.Cross_g W (hl k v hv) (hl _ w hw) (by omega) (by omega) (by omega)) λv hv=>?_
   obtain⟨c,rfl,hc⟩:=hv
   refine Cn [(1000001,8)] rfl (R15.Add_g W hz hc (by omega) (by omega)) λv hv=>?_
   obtain⟨z',rfl,hz'⟩:=hv
   rw[<-Ybz] at hz'
   refine Ar (k+1:Nat) rfl ?_
   exact Bk (k+1,z') [] rfl ⟨by omega,hz'.mono (by omega)⟩ (by show l.length-(k+1)<l.length-k;omega)
 . obtain rfl:k=l.length:=by omega
   rw[Yb0] at hz
   first | refine Dw rfl ?_ | refine Dz rfl ?_
   refine Ca rfl (half_g W hz (by omega)) λv hv=>?_
   obtain⟨z',rfl,hz'⟩:=hv
   exact Rt rfl (.tup (.cons (.sd (.pd (.rf rfl) (.nil rfl))) Xa2)) ⟨z',rfl,hz'.mono (by omega)⟩
end
end Go.Proofs.YtegepebhkhhhoaaGreatDoor.R20
namespace Go.Vm
open Go
section
variable{c:Cx}{s:St}{p:Pl}
noncomputable def Ygj(tb:Nat->Option TI)(n:Nat)(s:St): Option (Pl×Nat×Nat×List D×AV):=match nxA tb n s with
 | some (p,o,[a,b])=>match o.op with
  | .call ⟨.builtin .append,_,⟨[T,T']⟩⟩=>match Nat.beq T T',tb T,look p.H (o.dst.getD 0) with
   | true,some ti,none=>match Nat.ble ti.eb 1024,ti.z,b with
    | true,.sl sz _,.d (.sl s ys)=>match Nat.beq s sz with
     | true=>some (p,o.dst.getD 0,sz,ys,a)
     | false=>none
    | true,.sl sz _,.nil=>some (p,o.dst.getD 0,sz,[],a)
    | true,.sl sz _,.gr _ s ys=>match Nat.beq s sz with
     | true=>some (p,o.dst.getD 0,sz,ys,a)
     | false=>none
    | true,.sl sz _,.lit s ys=>match Nat.beq s sz with
     | true=>some (p,o.dst.getD 0,sz,ys,a)
     | false=>none
    | _,_,_=>none
   | _,_,_=>none
  | _=>none
 | _=>none
theorem Xlj{d sz:Nat}{ys:List D}{a v:AV}{us:Hpl}(h:Ygj c.tb c.n s=some (p,d,sz,ys,a))(hF:∀ti:TI,ti.eb<=1024->Xko d (look p.H) ti sz ys a=some (v,us))(k:p.nx' c v us): StP c s:=by
 unfold Ygj at h
 split at h<;>try cases h
 rename_i p' o a' b hA
 split at h<;>try cases h
 rename_i asx T T' ho
 split at h<;>try cases h
 rename_i ti hT hti hd
 have hT:=W0e hT
 subst hT
 have fin:∀ {sz' ys' xs0},ti.eb<=1024->ti.z=.sl sz' xs0->Xk6 (look p'.H) ti.z sz' b=some ys'->(p',o.dst.getD 0,sz',ys',a')=(p,d,sz,ys,a)->StP c s:=by
  intro sz' ys' xs0 he hz hs e
  injection e with e1 e2;injection e2 with e2 e3;injection e3 with e3 e4;injection e4 with e4 e5
  subst e1;subst e2;subst e3;subst e4;subst e5
  refine Xbw hA ?_ k
  rw[ho]
  simp only[F,if_true,hti,hd,hz]
  rw[hz] at hs
  rw[hs]
  exact hF ti he
 split at h
 . rename_i he hz
   split at h<;>cases h
   rename_i hs
   have hs:=W0e hs
   exact fin (W1i he) hz (by simp[Xk6,toD,hs]) rfl
 . rename_i he hz
   cases h
   exact fin (W1i he) hz (by simp[Xk6,hz,toD]) rfl
 . rename_i he hz
   split at h<;>cases h
   rename_i hs
   have hs:=W0e hs
   exact fin (W1i he) hz (by simp[Xk6,toD,hs]) rfl
 . rename_i he hz
   split at h<;>cases h
   rename_i hs
   have hs:=W0e hs
   exact fin (W1i he) hz (by simp[Xk6,toD,hs]) rfl
 . cases h
theorem Xgb{n:Nat}{ti:TI}(h:n<=137438953472)(he:ti.eb<=1024): Xit n ti:=⟨by
 have:=W2c h he;omega,by omega⟩
theorem ApH{d sz o:Nat}{xs ys:List D}(zs:List D)(h:Ygj c.tb c.n s=some (p,d,sz,ys,.gr o sz xs))(hz:xs++ys=zs)(hr:zs.length<=137438953472)(k:p.nx' c (.gr d sz zs) [(d,.tok zs.length sz),(o,.dead)])(ht:look p.H o=some (.tok xs.length sz):=by exact rfl): StP c s:=by
 subst hz
 exact Xlj h (λti he=>by simp[Xko,ht,Xgb (by simpa using hr) he]) k
end
section
variable{c:Cx}{s:St}{p:Pl}
noncomputable def Yoe(tb:Nat->Option TI)(n:Nat)(s:St): Option (Pl×Oper×TypeId×Operand×Operand×TI×Nat×Nat×List D×Nat×Nat×AV):=match nxO tb n s with
 | some (p,o)=>match o.op,p.dr,o.dst with
  | .store T x y,false,none=>match Xcr (look p.E) x,Xcr (look p.E) y,tb T with
   | some (.el q sz j off),some v,some ti=>match look p.H q with
    | some (.arr sz' xs)=>match Nat.beq sz sz' with
     | true=>some (p,o,T,x,y,ti,q,sz,xs,j,off,v)
     | false=>none
    | _=>none
   | _,_,_=>none
  | _,_,_=>none
 | none=>none
theorem StF{o:Oper}{T:TypeId}{x y:Operand}{ti:TI}{q sz j off:Nat}{xs:List D}{v a':AV}{x1:D}(zs:List D)(u:D)(h:Yoe c.tb c.n s=some (p,o,T,x,y,ti,q,sz,xs,j,off,v))(hu:xs[j]?=some u)(hz:xs.set j x1=zs)(k:p.nx' c (.ub True) [(q,.arr sz zs)])
 (ha:Xr7 v (.d u) off=some a':=by exact rfl) (hd:toD u a'=some x1:=by exact rfl) (hs:(plain v&&Nat.beq v.size ti.z.size&&Nat.beq u.size sz&&Nat.beq x1.size sz)=true:=by exact rfl):StP c s:=by
 subst hz
 unfold Yoe at h
 split at h<;>try cases h
 rename_i p' o' ho
 split at h<;>try cases h
 rename_i T1 x' y' hop hdr hdst
 split at h<;>try cases h
 rename_i q' sz1 j' off' v' ti' hx hy hti
 split at h<;>try cases h
 rename_i sz2 xs' hg
 split at h<;>cases h
 rename_i hb
 have hb:=W0e hb
 subst hb
 simp only[W0f] at hs
 obtain⟨⟨⟨hpl,hs1⟩,hs2⟩,hs3⟩:=hs
 have hs1:=W0e hs1
 have hs2:=W0e hs2
 have hs3:=W0e hs3
 refine Xmz ho (by unfold Xal;rw[hop];rfl) hdr (λN W θ ρ _ hO hN hB hv=>?_) k
 obtain⟨hk,hp⟩:=c.hT _ _ hti
 have hg:(sem p.E p.H).2 q=some (.arr sz xs):=hg
 obtain⟨b,h1,e⟩:=Ylq (hv _ _ hx)
 obtain⟨b',cs,T',r1,r2,r3,r4,r5,r6,r7⟩:=hO.r _ _ hg
 rw[h1] at r1;injection r1 with r1;subst r1
 obtain⟨hvC,_⟩:=Xg9 hpl (hv _ _ hy) (Xge hpl)
 have hvl:=AV.c_len v hvC
 obtain⟨e1,d1,d2,d3⟩:=r6 j u hu
 have d1':AV.C W θ (.d u) e1:=d1
 obtain⟨u0,m,w,f1,f2,f3,f4,f5⟩:=Ybd hvC ha d1'
 have hel:=D.at_len u d1
 have hj:j<xs.length:=(W0m.1 hu).1
 have hlen:off+v.size<=sz:=by
  have:=congrArg List.length f1
  simp only[W0d] at this
  omega
 have hjc:j*sz+sz<=cs.length:=by
  rw[r3,<-W2k];exact W0o _ (by omega)
 have hrun:=Xuj (P:=c.P) (ty:=o.type) (pos:=o.pos) (aft:=o.after) (gd:=o.guard) hk e r2 (by rw[hvl,hs1]) (by omega) (AV.c_one v hvC)
 have hle:=Xgd W b cs (spl cs (j*sz+off) (ρ y).cells.toList) T' (λ_=>True) r2 (λi v hA=>absurd (r7 i) hA)
 have hsp:∀t,(spl cs (j*sz+off) (ρ y).cells.toList)[t]?=if j*sz+off<=t/\t<j*sz+off+v.size then (ρ y).cells.toList[t-(j*sz+off)]? else cs[t]?:=λt=>by
  rw[Xem _ _ _ _ (by rw[hvl];omega),hvl]
 have hspe:spl e1 off (ρ y).cells.toList=u0++((ρ y).cells.toList++w):=by rw[f1,<-f2];exact Xqc _ _ _ _ (by rw[hvl,f3])
 have hse:∀t,(u0++((ρ y).cells.toList++w))[t]?=if off<=t/\t<off+v.size then (ρ y).cells.toList[t-off]? else e1[t]?:=λt=>by
  rw[<-hspe,Xem _ _ _ _ (by rw[hvl,hel];omega),hvl]
 have ho':o=⟨none,.store T x y,o.type,o.pos,o.after,o.guard⟩:=by
  obtain⟨d,op,ty,ps,af,gu⟩:=o
  cases hop;cases hdst;rfl
 rw[ho']
 refine⟨_,θ,_,hrun,Stp.put hO (t:=q) (x:=.arr sz (xs.set j x1)) hg rfl h1 r2 (λi v hA=>absurd (r7 i) hA) (λ_ _ _=>rfl) (λ_ _=>rfl) h1 (λi z hz=>?_) (λi z hz=>?_)
  ⟨b,_,T',h1,Xa0 _ _ _ (Xaz r2),by rw[Xc0];exact r3,r4,by simpa using r5,λi x hx=>?_,λi=>⟨r7 i,λ_=>trivial⟩⟩ (λi hi=>hi.elim),.inl ⟨rfl,rfl⟩,λi hi=>hi.elim⟩
 . rcases Xaf hz with ⟨f1,f2⟩ | ⟨f1,f2⟩
   . exact .inl ⟨f1,f2⟩
   . exact .inr (.inr ⟨f2,f1⟩)
 . by_cases hio:i=q
   . subst hio;exact⟨_,Xai _ _ _⟩
   . exact⟨z,by rw[show Xbi (sem p.E p.H).2 [(q,Ob.arr sz (xs.set j x1))]=upd (sem p.E p.H).2 q (.arr sz (xs.set j x1)) from rfl,Xak hio];exact hz⟩
 . by_cases hij:i=j
   . subst hij
     rw[W2u hj] at hx
     injection hx with hx;subst hx
     refine⟨_,D.mono hle _ (Xml hd f4),hs3,λt c hq=>?_⟩
     rw[hse] at hq
     rw[hsp]
     split at hq
     . rename_i hc
       rw[if_pos (by omega),show i*sz+t-(i*sz+off)=t-off by omega]
       exact hq
     . rename_i hc
       rw[if_neg (by omega)]
       exact d3 t c hq
   . rw[W1w (λh=>hij h.symm)] at hx
     obtain⟨g1,g2,g3,g4⟩:=r6 i x hx
     refine⟨g1,D.mono hle _ g2,g3,λt c hq=>?_⟩
     have hql:t<sz:=by
      rw[<-g3,<-D.at_len x g2]
      by_cases h:t<g1.length
      . exact h
      . rw[W2f (by omega)] at hq;cases hq
     rw[hsp,if_neg ?_]
     . exact g4 t c hq
     . rcases W7b hij with h | h
       . have:i*sz+sz<=j*sz:=by rw[<-W2k];exact W0o _ (by omega)
         omega
       . have:j*sz+sz<=i*sz:=by rw[<-W2k];exact W0o _ (by omega)
         omega
theorem Yc6{d sz:Nat}{xs ys:List D}(zs:List D)(h:Ygj c.tb c.n s=some (p,d,sz,ys,.lit sz xs))(hz:xs++ys=zs)(h0:0<ys.length)(hr:zs.length<=137438953472)(k:p.nx' c (.own d sz 0 zs.length) [(d,.arr sz zs)]): StP c s:=by
 subst hz
 exact Xlj h (λti he=>by simp[Xko,h0,Xgb (by simpa using hr) he]) k
theorem Yc5{d sz o n:Nat}{xs ys:List D}(zs:List D)(h:Ygj c.tb c.n s=some (p,d,sz,ys,.own o sz 0 n))(ht:look p.H o=some (.arr sz xs))(hn:n=xs.length)(hz:xs++ys=zs)(hr:zs.length<=137438953472)(k:p.nx' c (.own d sz 0 zs.length) [(d,.arr sz zs),(o,.dead)]): StP c s:=by
 subst hz
 exact Xlj h (λti he=>by subst hn;simp[Xko,ht,Xgb (by simpa using hr) he])  k
end
end Go.Vm
namespace Go.Proofs.YtegepebhkhhhoaaGreatDoor.P11
open Go Go.Vm Go.Num Go.Tow Go.Proofs.YtegepebhkhhhoaaGreatDoor Go.Proofs.YtegepebhkhhhoaaGreatDoor.P9 Go.Proofs.YtegepebhkhhhoaaGreatDoor.R11
section
end
section
end
end Go.Proofs.YtegepebhkhhhoaaGreatDoor.P11
namespace Go.Proofs.YtegepebhkhhhoaaGreatDoor.R3
open Go Go.Vm Go.Num Go.Tow Go.Proofs.YtegepebhkhhhoaaGreatDoor
section
variable{x:Rat}{s b:Nat}
end
section
variable{p q:Rat×Rat}{s t b:Nat}
end
end Go.Proofs.YtegepebhkhhhoaaGreatDoor.R3
namespace Go.Proofs.YtegepebhkhhhoaaGreatDoor.R7
open Go Go.Vm Go.Num Go.Tow Go.Proofs.YtegepebhkhhhoaaGreatDoor
end Go.Proofs.YtegepebhkhhhoaaGreatDoor.R7
namespace Go.Vm
open Go
section
variable{c:Cx}{s:St}
end
end Go.Vm
namespace Go.Proofs.YtegepebhkhhhoaaGreatDoor.R11
open Go Go.Vm Go.Num Go.Tow Go.Proofs.YtegepebhkhhhoaaGreatDoor Go.Proofs.YtegepebhkhhhoaaGreatDoor.P11
end Go.Proofs.YtegepebhkhhhoaaGreatDoor.R11
namespace Go.Proofs.YtegepebhkhhhoaaGreatDoor.P11
open Go Go.Vm Go.Num Go.Tow Go.Proofs.YtegepebhkhhhoaaGreatDoor Go.Proofs.YtegepebhkhhhoaaGreatDoor.P9 Go.Proofs.YtegepebhkhhhoaaGreatDoor.R11 Go.Proofs.YtegepebhkhhhoaaGreatDoor.R9
section
theorem Pk_rat{q:Rat}{n:Nat}(hq:Qs n q)(hn:n<=1700): Pk ⟨0,(),q⟩ :=
 ⟨W0w _,trivial,trivial,trivial,.inr ⟨rfl,λx hx=>by obtain rfl:=W0i.1 hx;exact hq.mono hn⟩⟩
abbrev two: Nm:=⟨0,(),(2:Rat)⟩
end
section
section
variable{k:Nat}{t:Tw k}{a:El k}
end
theorem txt_at{d:Nat}(l:List UInt8)(hl:l.length=d+1)(hd:∀b∈l,Xvz b): txt (Xyd l:Nat) d=pt d l:=by
 unfold txt
 rw[if_neg (by omega),W1g,Yfo d l hl hd];rfl
theorem rnd_at{q:Rat}{d:Nat}{z:Int}(h1:0<=Xjs (q*((10^d:Int):Rat)+hf+-(z:Rat)))(h2:Xjs (q*((10^d:Int):Rat)+hf+-((z+1:Int):Rat))=-1): RndOf ⟨0,(),q⟩ d z:=⟨h1,h2⟩
end
end Go.Proofs.YtegepebhkhhhoaaGreatDoor.P11
namespace Go.Vm
variable{c:Cx}{s:St}{p:Pl}
theorem Yk4{d sz:Nat}{xs ys:List D}(h:Ygj c.tb c.n s=some (p,d,sz,ys,.lit sz xs))(h0:ys.length=0)(hr:xs.length<=137438953472)(k:p.nx' c (.lit sz xs) []): StP c s :=
 Xlj h (λti he=>by simp[Xko,h0,Xgb (by simpa using hr) he]) k
end Go.Vm
namespace Go.Proofs.YtegepebhkhhhoaaGreatDoor.P20
open Go Go.Vm Go.Num Go.Tow Go.Proofs.YtegepebhkhhhoaaGreatDoor
open Go.Proofs.YtegepebhkhhhoaaGreatDoor.P55 (v0 W0 g0 gv0 zw Xlv Qp)
section
variable{K:Nat}{G:Tw K}{S:List (Tow.El K)}{N:List Nm}{n m k:Nat}{x y z c c':Nm}{a b e:Tow.El K}{u v s:Vn}{p q:V2 K}{f g:Int}
theorem Xmh(G:Tw K): Xbn (Xbn p)=p:=W2y rfl ((Xay K G).nn _)
theorem Xte: Xav G (Xbn p) q=(Xgu G p q,Xaw G p q):=W2y (by rw[<-Ybc,Xmh G]) (by rw[<-Ybb,Xmh G])
theorem Yo2(W:Wn G S N)(hu:Gv G S N n u p)(hs:Gv G S N m s q)(h2:n+m<=190): C0 12 [.d (dV u),.d (dV s)] (P19.OfG G S N (n+m+(n+m)) p q):=by
 refine En Tryz.func12 λ_ _ _=>?_
 refine Ce rfl (R13.Zero_g W hu (by omega)) ?_
 refine By rfl (λh=>?_) λh=>?_
 . exact Rt rfl (.tup (.cons Xss Xa2)) (.inr ⟨.inl h,rfl⟩)
 . refine Ce rfl (R13.Zero_g W hs (by omega)) ?_
   refine By rfl (λh1=>?_) λh1=>?_
   . exact Rt rfl (.tup (.cons Xss Xa2)) (.inr ⟨.inr h1,rfl⟩)
   refine Dw rfl ?_
   refine Cn [(1000001,15)] rfl (R15.Dot_g W hu hs (by omega) (by omega) (by omega)) λv hv=>?_
   obtain⟨d,rfl,hd⟩:=hv
   refine Cn [(1000001,15)] rfl (R15.Cross_g W hu hs (by omega) (by omega) (by omega)) λv hv=>?_
   obtain⟨c,rfl,hc⟩:=hv
   refine Cn [(1000001,15)] rfl (R19.result_g (u:=⟨d,c⟩) (p:=(Xgu G p q,Xaw G p q)) (f:=0) ⟨hd,hc⟩) λv hv=>?_
   rcases hv with ⟨_,w,rfl,hw⟩ | ⟨h3,_⟩
   . exact Rt rfl (.tup (.cons (.rf rfl) Xa2)) (.inl ⟨λe=>e.elim h h1,w,rfl,by rw[Xte];exact hw⟩)
   . exact absurd (by decide) h3
theorem Yfr{h:Sn}: CA0 51 [.d (dSs [h])] 7 [dSe h]:=by
 refine EnW Tryz.func51 λ_ _ _ _=>?_
 refine Ub rfl (λh=>?_) ?_
 . exact absurd (show [dSe _]=[] from h) nofun
 refine Yc6 [dSe h] rfl rfl (W5o _) (W1i rfl) ?_
 exact Rw [(7,1000000)] [(1000000,.arr 7 [dSe h])] rfl (.one (.rf rfl) rfl rfl) ⟨_,rfl,rfl,rfl⟩
theorem Ymk(W:Wn G S N)(hc:Gd G S N n c a)(hc':Gd G S N n c' a)(hn:n<=95)(hu:Gv G S N m u p)(hv:Gv G S N m v q)(h2:m+m+(m+m)+m<=190)(hf:few f)(hg:few g)(hl:lim (Xdb G p q f g))(h0:¬(Xdb G p q f g=0/\Xbc G (Xav G p q))):
 CW0 52 [.own 1000001 7 0 1,.d (dSe ⟨c',v,g⟩)] [(1000001,.arr 7 [dSe ⟨c,u,f⟩])] (λr H'=>∃w,r=.tup (.pr (.own 1000001 7 0 1) (.d (.int .i64 0)))/\H'=[(1000001,.arr 7 [dSe ⟨c,w,Xdb G p q f g⟩])]/\Gv G S N (m+m+(m+m)) w (Xav G p q)):=by
 have h00:sgn K G (Tow.add K a (Tow.neg K a))=0:=by rw[(Xay K G).an];exact(Xa9 W.w.g).2 rfl
 refine EnW Tryz.func52 λ_ _ _ _=>?_
 refine Lo (λ_:Unit=>[(0,.own 1000001 7 0 1),(3,.ptr 3 0),(6,.d (.int .i64 0))]) (λ_=>[(1000001,.arr 7 [dSe ⟨c,u,f⟩]),(3,.var (.d (dSe ⟨c',v,g⟩)))]) (λ_=>True) (λ_=>0) () [] rfl trivial (λ_ _=>?_)
 refine Dw rfl ?_
 refine Yes rfl (by decide) ?_
 refine Eo 0 rfl (by decide) ?_
 refine Ld (dSe ⟨c,u,f⟩) rfl rfl ?_
 refine Ce rfl (Yi0 W hc hc' (by omega) (by omega)) ?_
 refine No rfl (by rw[h00];decide) ?_
 refine Dw rfl ?_
 refine No rfl (by decide) ?_
 refine Eo 0 rfl (by decide) ?_
 refine Ld (dSe ⟨c,u,f⟩) rfl rfl ?_
 refine Ce rfl (P9.Equal_g W hc hc' (by omega) (by omega)) ?_
 refine No rfl (λh=>h rfl) ?_
 refine Dw rfl ?_
 refine Eo 0 rfl (by decide) ?_
 refine Ld (dSe ⟨c,u,f⟩) rfl rfl ?_
 refine Ca rfl (P19.Add_g W hu hv (by omega) hf hg) λr hr=>?_
 rcases hr with ⟨_,w,rfl,hw⟩ | ⟨h,_⟩
 . refine No rfl (by decide) ?_
   refine Ce rfl (P19.Zero_g W hw (by omega)) ?_
   refine No rfl h0 ?_
   refine Eo 0 rfl (by decide) ?_
   refine StF [dSe ⟨c,w,Xdb G p q f g⟩] (dSe ⟨c,u,f⟩) rfl rfl rfl ?_
   exact Rw [] [(1000001,.arr 7 [dSe ⟨c,w,Xdb G p q f g⟩])] rfl (.tup (.cons (.rf rfl) Xa2)) ⟨w,rfl,rfl,hw⟩
 . exact absurd hl h
theorem Yk6{i:Nat}(W:Wn G S N)(hx:Gd G S N n x a)(hy:Gd G S N m y b)(hn:n<=190)(hm:m<=190)(hc:Gd G S N k c e)(hc':Gd G S N k c' e)(hu:Gv G S N i u p)(hv:Gv G S N i v q)(hk:k<=95)(h2:i+i+(i+i)+i<=190)(hf:few f)(hg:few g)(hl:lim (Xdb G p q f g))(h0:¬(Xdb G p q f g=0/\Xbc G (Xav G p q))):
 C0 16 [.d (dAr x [⟨c,u,f⟩]),.d (dAr y [⟨c',v,g⟩])] (λt=>∃z w,t=.tup (.pr (.d (dAr z [⟨c,w,Xdb G p q f g⟩])) (.d (.int .i64 0)))/\Gd G S N (n+m) z (Tow.add K a b)/\Gv G S N (i+i+(i+i)) w (Xav G p q)):=by
 refine En Tryz.func16 λ_ _ _=>?_
 refine Ca rfl (P9.Add_g W hx hy (by omega) (by omega)) λv hv=>?_
 obtain⟨z,rfl,hz⟩:=hv
 refine No rfl (by decide) ?_
 refine Dw rfl ?_
 refine Cr rfl Yfr ?_
 refine Lo (λk:Nat×Vn=>[(4,.ptr 4 0),(8,.ptr 8 0),(29,.d (dSs [⟨c',v,g⟩])),(30,.d (.int .i64 1)),(31,.d (.int .i64 k.1))]) (λk=>[(26,.arr 7 [dSe (if k.1=0 then ⟨c,u,f⟩ else ⟨c,k.2,Xdb G p q f g⟩)]),(4,.var zA),(8,.var (.st (.pr (.d (dN z)) (.own 26 7 0 1))))]) (λk=>k.1<=1/\(k.1=1->Gv G S N (i+i+(i+i)) k.2 (Xav G p q))) (λk=>1-k.1) (0,u) [] rfl ⟨W0w _,λh=>by cases h⟩ λ⟨k,w⟩ ⟨hk',hw⟩=>?_
 rcases(show k=0\/k=1 by have:k<=1:=hk';omega) with rfl | rfl
 . refine Yes rfl (show ((0:Nat):Int)<1 by decide) ?_
   refine Ix 0 rfl (u:=dSe ⟨c',v,g⟩) rfl ?_
   refine Cw [(1000001,26)] rfl (Ymk W hc hc' hk hu hv h2 hf hg hl h0) (λr H' _ hr=>?_)
   obtain⟨w',rfl,rfl,hw'⟩:=hr
   show Pl.nx' _ _ (.tup (.pr (.own 26 7 0 1) (.d (.int .i64 0)))) [(26,.arr 7 [dSe ⟨c,w',Xdb G p q f g⟩])]
   refine No rfl (by decide) ?_
   refine Ar (0+1:Nat) rfl ?_
   exact Bk (0+1,w') [] rfl ⟨W0b 1,λ_=>hw'⟩ (show 1-(0+1)<1-0 from W6x)
 . refine No rfl (show ¬((1:Nat):Int)<1 by decide) ?_
   exact Rt rfl (.tup (.cons (.sd (.pd (.rf rfl) (.own rfl (W0b 1) rfl))) Xa2)) ⟨z,w,rfl,hz,hw rfl⟩
end
open Go Go.Vm Go.Num Go.Tow Go.Proofs.YtegepebhkhhhoaaGreatDoor
section
open Go.Proofs.YtegepebhkhhhoaaGreatDoor.P55 (v0 W0 g0 gv0 zw Xlv Qp)
abbrev s0: Sn:=⟨nr 2,v0 (0,1),0⟩
def eV: Rat×Rat:=Xhz (pt 0) (Xb0 (pt 2) rV)
theorem Yj0: Q2 1000 eV:=by
 have h:=Xn5 fct.2.2.2.2.1
 exact(Xma (s:=64) (s':=314) (p:=pt 0) (by decide +kernel) (Xcg (s:=64) (p:=pt 2) (by decide +kernel) h)).mono (by decide)
theorem Xxw: C0 105 [.d (dAr n00 [s0]),.d (.int .i64 138)] (·=.tup (.pr (.d (dI eV)) (.d (.int .i64 0)))):=by
 have h5:=Xn5 fct.2.2.2.2.1
 refine En Tryz.func105 λ_ _ _=>?_
 refine Ce rfl (Xfy (x:=((0:Int):Rat)) (bits:=138) (by decide +kernel) (by decide)) ?_
 refine Lo (λk:Nat=>[(1,.d (.int .i64 138)),(4,.ptr 4 0),(6,.ptr 6 0),(20,.d (dSs [s0])),(21,.d (.int .i64 1)),(22,.d (.int .i64 k))]) (λk=>[(4,.var zI),(6,.var (.d (dI (if k=0 then pt ((0:Int):Rat) else eV))))]) (λk=>k<=1) (λk=>1-k) 0 [] rfl (W0w _) λk hk=>?_
 refine By rfl (λh=>?_) λh=>?_
 . have h:(k:Int)<1:=h
   obtain rfl:k=0:=by omega
   refine Ix 0 rfl (u:=dSe s0) rfl ?_
   refine Ce rfl Xs4 ?_
   refine No rfl (by decide) ?_
   refine Dw rfl ?_
   refine Ce rfl (Xfy (x:=2) (bits:=138) (by decide +kernel) (by decide)) ?_
   refine Ce rfl (Xfo (s:=64) (p:=pt 2) (q:=rV) (by decide +kernel) h5 (by decide)) ?_
   refine Ce rfl (Xfp (s:=64) (p:=pt ((0:Int):Rat)) (by decide +kernel) (Xcg (s:=64) (p:=pt 2) (by decide +kernel) h5) (by decide)) ?_
   refine Ar (0+1:Nat) rfl ?_
   exact Bk (0+1) [] rfl (by decide) (by decide)
 . have h:¬(k:Int)<1:=h
   obtain rfl:k=1:=by omega
   exact R0t
theorem Yji: ∀i,i<=130->Qs 200 (hp i):=λi hi=>Yjh i (by omega)
theorem Ynb: eV.2-eV.1<=hp 130:=by decide +kernel
theorem Xhj: C0 55 [.d (dAr n00 [s0]),.d (.int .i64 130)] (·=.tup (.pr (.d (dI eV)) (.d (.int .i64 0)))):=by
 have hq:=Yj0
 refine En Tryz.func55 λ_ _ _=>?_
 refine No rfl (by decide) ?_
 refine No rfl (by decide) ?_
 refine Ce rfl (Xau (z:=1) (by decide)) ?_
 refine Lo (λi:Nat=>[(1,.d (.int .i64 130)),(2,.ptr 2 0),(4,.ptr 4 0),(6,.ptr 6 0),(18,.d (.int .i64 130)),(19,.d (.int .i64 i))]) (λi=>[(2,.var (.d (dAr n00 [s0]))),(4,.var zI),(6,.var (.d (dq (hp i))))]) (λi=>i<=130) (λi=>130-i) 0 [] rfl (W0w _) (λi hi=>?_)
 refine By rfl (λh=>?_) λh=>?_
 . refine Dw rfl ?_
   refine Ce rfl (Xcm (a:=1) (b:=2) (by decide) (by decide)) ?_
   refine Ce rfl (Xep (Yji i hi) (Qs.divInt (p:=64) (by decide) (by decide) (by decide)) (by decide)) ?_
   refine Ar (i+1:Nat) rfl ?_
   exact Bk (i+1) [] rfl (show i+1<=130 by omega) (by show 130-(i+1)<130-i;omega)
 . obtain rfl:i=130:=by omega
   refine Ar (138:Nat) rfl ?_ (wr rfl (by simp only[inK];omega))
   refine Mm (138:Nat) rfl ?_ rfl
   refine Lo (λ_:Unit=>[(2,.ptr 2 0),(4,.ptr 4 0),(6,.ptr 6 0),(7,.d (.int .i64 138))]) (λ_=>[(2,.var (.d (dAr n00 [s0]))),(4,.var zI),(6,.var (.d (dq (hp 130))))]) (λ_=>True) (λ_=>0) () [] rfl trivial (λ_ _=>?_)
   refine Ce rfl Xxw ?_
   refine No rfl (by decide) ?_
   refine Dw rfl ?_
   refine Ce rfl (Xgm (p:=eV) hq (by decide)) ?_
   have qw:Qs 2001 (eV.2-eV.1):=by rw[W6d];exact hq.2.add hq.1.neg
   refine Ce rfl (Xbz qw (Yji 130 (by decide)) (by decide)) ?_
   refine Yes rfl (by rw[Xl5];exact Rat.not_lt.2 Ynb) ?_
   exact R0t
def mV: Rat:=(eV.1+eV.2)*hf2
theorem Yiy: Qs 1700 mV:=by decide +kernel
theorem Yix: P11.RndOf (nr mV) 5 314159:=P11.rnd_at (by decide +kernel) (by decide +kernel)
theorem Yh9: txt 314159 5=[51,46,49,52,49,53,57]:=P11.txt_at [51,49,52,49,53,57] rfl (Yo0.1 rfl)
theorem Xjn: C0 18 [.d (dAr n00 [s0]),.d (.int .i64 5)] (·=.tup (.pr (.d (.str [51,46,49,52,49,53,57])) (.d (.int .i64 0)))):=by
 have hq:=Yj0
 have hH:=P11.Pk_rat Yiy (by decide)
 have hf:C0 54 [.d (dN (nr mV)),.d (.int .i64 5)] (·=.tup (.pr (.d (.str [51,46,49,52,49,53,57])) (.d (.int .i64 0)))):=(P11.dFmt_ok hH (by decide)).mono λv ⟨w,hw,_,hv⟩=>by
  obtain rfl:=Xdm.uniq hH.re hw Yix
  rw[hv,P11.fmtV,Yh9,if_pos (by decide)]
 refine En Tryz.func18 λ_ _ _=>?_
 refine No rfl (by decide) ?_
 refine No rfl (by decide) ?_
 refine No rfl (by decide) ?_
 refine Ce rfl Xhj ?_
 refine No rfl (by decide) ?_
 refine Ce rfl (Xd9 hq.1 hq.2 (by decide)) ?_
 refine Ce rfl (Xcm (a:=1) (b:=2) (by decide) (by decide)) ?_
 refine Ce rfl (Xep (p:=2001) (q:=64) (hq.1.add hq.2) Xrh (by decide)) ?_
 refine Ce rfl (P9.FromRat_ok (q:=mV) Yiy (by decide)) ?_
 refine Ce rfl hf ?_
 exact R0t
theorem Xjk{i j:Int}(hi:-9223372036854775808<=i/\i<9223372036854775808)(hj:-9223372036854775808<=j/\j<9223372036854775808): C0 13 [.d (.int .i64 i),.d (.int .i64 j)] (·=.d (dV (v0 ((i:Rat),(j:Rat))))):=R13.Whole_ok hi hj
theorem Of0: C0 12 [.d (dV (v0 (((1:Int):Rat),((0:Int):Rat)))),.d (dV (v0 (((0:Int):Rat),((1:Int):Rat))))] (·=.tup (.pr (.d (dT (v0 (0,1)) 0)) (.d (.int .i64 0)))):=(Yo2 W0 (gv0 (s:=64) (by decide +kernel)) (gv0 (s:=64) (by decide +kernel)) (by decide)).mono λr hr=>by
 rcases hr with ⟨_,v,rfl,hv⟩ | ⟨h,_⟩
 . exact(congrArg (λw=>AV.tup (.pr (.d (dT w 0)) (.d (.int .i64 0)))) (Xlv hv)).trans (congrArg (λq:Rat×Rat=>AV.tup (.pr (.d (dT (v0 q) 0)) (.d (.int .i64 0)))) (W2y (by decide +kernel) (by decide +kernel)))
 . rcases h with h | h
   . exact absurd (congrArg Prod.fst h) (show ¬((1:Int):Rat)=0 by decide +kernel)
   . exact absurd (congrArg Prod.snd h) (show ¬((1:Int):Rat)=0 by decide +kernel)
theorem fl0: ¬((0:Int)=0/\Xbc (K:=0) () (((0:Rat),(1:Rat)):V2 0)):=λh=>absurd h.2.1 (show ¬Xjs 1=0 by decide +kernel)
theorem Ygc: C0 14 [.d (dN (nr ((4:Int):Rat))),.d (dT (v0 (0,1)) 0)] (·=.tup (.pr (.d (dAr n00 [s0])) (.d (.int .i64 0)))):=(Xmc W0 W0 (g0 (s:=64) (by decide +kernel)) (gv0 (s:=64) (by decide +kernel)) (by decide) (by decide)).mono λr hr=>by
 rcases hr with ⟨h,_⟩ | ⟨_,h,_⟩ | ⟨_,_,z,rfl,hz⟩
 . exact absurd (show Xjs ((4:Int):Rat)>0 by decide +kernel) h
 . exact absurd h fl0
 . rw[zw hz.o,show Tow.mul 0 () ((4:Int):Rat) (Tow.rat 0 hf2)=(2:Rat) from(show ((4:Int):Rat)*hf2=2 by decide +kernel)]
def q0: List (Rat×Rat):=[(((0:Int):Rat),((0:Int):Rat)),(((3:Int):Rat),((0:Int):Rat)),(((3:Int):Rat),((2:Int):Rat)),(((0:Int):Rat),((2:Int):Rat))]
theorem Ymi: ∀p∈q0,Qp 64 p:=by decide +kernel
theorem Ya1: C0 17 [.d (dVs (q0.map v0))] (·=.tup (.pr (.d (dAr (nr 6) [])) (.d (.int .i64 0)))):=(Xjl (n:=1) (g:=λi=>q0.getD i (0,0)) W0 (λi v h=>by
 obtain⟨p,hp,rfl⟩:=W1s .. ▸ h |> Option.map_eq_some_iff.1
 rw[W2l,hp]
 exact gv0 (Ymi p (W0h hp))) (by decide) (by decide) (by decide)).mono λr ⟨z,e,hz⟩=>by
 rw[e,zw hz.o]
 exact congrArg (λx=>AV.tup (.pr (.d (dAr (nr x) [])) (.d (.int .i64 0)))) (show (show Rat from Tow.mul 0 () (pgn (K:=0) () (λi=>q0.getD i (0,0)) 4) (Tow.rat 0 hf2))=6 by decide +kernel)
abbrev s1: Sn:=⟨nr 2,v0 (-1,0),0⟩
theorem vm1: Xav (K:=0) () (((0:Rat),(1:Rat)):V2 0) ((0:Rat),(1:Rat))=(((-1:Rat),(0:Rat)):V2 0):=W2y (by decide +kernel) (by decide +kernel)
theorem va1: Xdb (K:=0) () (((0:Rat),(1:Rat)):V2 0) ((0:Rat),(1:Rat)) 0 0=0:=by decide +kernel
theorem Ypz: C0 16 [.d (dAr n00 [s0]),.d (dAr n00 [s0])] (·=.tup (.pr (.d (dAr n00 [s1])) (.d (.int .i64 0)))):=by
 have h0:Gd (K:=0) () ([]:List (Tow.El 0)) [] 1 n00 ((0:Int):Rat):=g0 (s:=64) (by decide +kernel)
 have h2:Gd (K:=0) () ([]:List (Tow.El 0)) [] 1 (nr 2) (2:Rat):=g0 (s:=64) (by decide +kernel)
 have hv:=gv0 (s:=64) (p:=(0,1)) (by decide +kernel)
 refine(Yk6 W0 h0 h0 (by decide) (by decide) h2 h2 hv hv (by decide) (by decide) (f:=0) (g:=0) (lim.few (by decide)) (lim.few (by decide)) (Eq.mpr (congrArg lim va1) (by decide)) (λh=>absurd (show Xjs (-1)>0 from(Eq.mp (congrArg (λp:V2 0=>Xbc (K:=0) () p) vm1) h.2).2) (by decide +kernel))).mono λr ⟨z,w,e,hz,hw⟩=>?_
 have hw':=Eq.mp (congrArg (λp:V2 0=>Gv (K:=0) () ([]:List (Tow.El 0)) [] _ w p) vm1) hw
 obtain rfl:=Xlv hw'
 obtain rfl:=zw hz.o
 have F:∀ {q q':Rat} {f f':Int},q=q'->f=f'->AV.tup (.pr (.d (dAr (nr q) [⟨nr 2,v0 (-1,0),f⟩])) (.d (.int .i64 0)))=AV.tup (.pr (.d (dAr (nr q') [⟨nr 2,v0 (-1,0),f'⟩])) (.d (.int .i64 0))):=λh1 h2=>by rw[h1,h2]
 exact e.trans (F (show ((0:Int):Rat)+((0:Int):Rat)=((0:Int):Rat) by decide +kernel) va1)
theorem Ynt: C0 20 [.d (dT (v0 (-1,0)) 0),.d (dT (v0 (((-1:Int):Rat),((0:Int):Rat))) 0)] (·=.b true):=by
 have hv:=gv0 (s:=64) (p:=(-1,0)) (by decide +kernel)
 have hu:=gv0 (s:=64) (p:=(((-1:Int):Rat),((0:Int):Rat))) (by decide +kernel)
 refine(R19.Same_g W0 hv hu (by decide)).mono λr hr=>hr.trans (congrArg AV.b (Xaj.2 ?_))
 have hz:∀ {p:V2 0},p.1=(-1:Rat)->p≠vz 0:=λe h=>absurd (e.symm.trans (congrArg Prod.fst h)) (show ¬(-1:Rat)=0 by decide +kernel)
 exact⟨⟨hz rfl,by decide⟩,⟨hz (show ((-1:Int):Rat)=(-1:Rat) by decide +kernel),by decide⟩,by decide +kernel⟩
theorem Yau: C0 4 [] (·=.b true):=by
 refine En Tryz.func4 λ_ _ _=>?_
 refine Ce rfl (Xjk (i:=1) (j:=0) (by decide) (by decide)) ?_
 refine Ce rfl (Xjk (i:=0) (j:=1) (by decide) (by decide)) ?_
 refine Ce rfl Of0 ?_
 refine Dw rfl ?_
 refine Ce rfl (R9.FromInt_ok (z:=4) (by decide)) ?_
 refine Ce rfl Ygc ?_
 refine Ce rfl Ypz ?_
 refine Ce rfl (Xjk (i:=0) (j:=0) (by decide) (by decide)) ?_
 refine Ce rfl (Xjk (i:=3) (j:=0) (by decide) (by decide)) ?_
 refine Ce rfl (Xjk (i:=3) (j:=2) (by decide) (by decide)) ?_
 refine Ce rfl (Xjk (i:=0) (j:=2) (by decide) (by decide)) ?_
 refine Ce rfl Ya1 ?_
 refine Ce rfl Xjn ?_
 refine No rfl (by decide) ?_
 refine No rfl (by decide) ?_
 refine No rfl (by decide) ?_
 refine No rfl (by decide) ?_
 refine No rfl (by decide) ?_
 refine No rfl (by decide) ?_
 refine Dw rfl ?_
 refine Ce rfl (R9.FromInt_ok (z:=6) (by decide)) ?_
 refine Ce rfl ((R9.Equal_g W0 (g0 (s:=64) (q:=6) (by decide +kernel)) (g0 (s:=64) (q:=((6:Int):Rat)) (by decide +kernel)) (by decide) (by decide)).mono λr hr=>hr.trans (congrArg AV.b (Xaj.2 (show (6:Rat)=((6:Int):Rat) by decide +kernel)))) ?_
 refine Yes rfl rfl ?_
 refine Yes rfl (by decide) ?_
 refine Yes rfl (by decide) ?_
 refine Ix 0 rfl (u:=dSe s1) rfl ?_
 refine Ce rfl (R9.FromInt_ok (z:=2) (by decide)) ?_
 refine Ce rfl ((R9.Equal_g W0 (g0 (s:=64) (q:=2) (by decide +kernel)) (g0 (s:=64) (q:=((2:Int):Rat)) (by decide +kernel)) (by decide) (by decide)).mono λr hr=>hr.trans (congrArg AV.b (Xaj.2 (show (2:Rat)=((2:Int):Rat) by decide +kernel)))) ?_
 refine Yes rfl rfl ?_
 refine Ix 0 rfl (u:=dSe s1) rfl ?_
 refine Ce rfl (Xjk (i:=-1) (j:=0) (by decide) (by decide)) ?_
 refine Ce rfl Ynt ?_
 exact R0
end
section
open Go.Proofs.YtegepebhkhhhoaaGreatDoor.P55 (v0 W0 g0 gv0 zw Xlv Qp)
theorem Xhd{x y:Nm}{l l':List Sn}(h1:C0 27 [.d (dAr x l)] (·=.b true))(h2:C0 28 [.d (dAr x l),.d (dAr y l')] (·=.b true)): C0 6 [.d (dAr x l),.d (dAr y l')] (·=.b true):=by
 refine En Tryz.func6 λ_ _ _=>?_
 refine Ce rfl h1 ?_
 refine Yes rfl rfl ?_
 refine Ce rfl h2 ?_
 exact R0
section
variable{K:Nat}{G:Tw K}{S:List (Tow.El K)}{N:List Nm}{n m k:Nat}{x y z:Nm}{a b:Tow.El K}
variable{K':Nat}{G':Tw K'}{S':List (Tow.El K')}{N':List Nm}{u s:Vn}{p q:V2 K'}{f g:Int}
theorem Ynu(W:Wn G S N)(W':Wn G' S' N')(hz:Gd G S N n z b)(hb:sgn K G b=1)(hu:Gv G' S' N' m u p)(hp:p≠vz K')(hf:lim f)(h0:¬(f=0/\Xbc G' p))(hn:n<=800)(hm:m<=800): R20.SOk ⟨z,u,f⟩ where
 vc:=R9.Valid_g W hz hn
 vd:=R13.Valid_g W' hu hm
 tv:=(R19.Valid_g W' hu hm).mono λv e=>e.trans (congrArg AV.b (Xaj.2 ⟨hp,hf⟩))
 tz:=(R20.Zero_g W' hu hm).mono λv e=>e.trans (congrArg AV.b (P11.dcF h0))
 sc:=(R9.Sign_g W hz hn).mono λv e=>by rw[e,hb]
theorem Yip(W:Wn G S N): Gd G S N 1 n00 (Tow.rat K ((0:Int):Rat)):=Gd.rat W (by decide +kernel)
end
end
section
open Go.Proofs.YtegepebhkhhhoaaGreatDoor.P55 (v0 W0 g0 gv0 zw Xlv Qp)
section
variable{K:Nat}{G:Tw K}{S:List (Tow.El K)}{N:List Nm}{n m k:Nat}{x y z c c':Nm}{a b e:Tow.El K}{u v w s t:Vn}{p q r:V2 K}{f g:Int}
theorem ts(hp:p≠vz K)(hq:q≠vz K)(hf:lim f)(h:Xpw G p q=0): Yg9 G p q f f:=⟨⟨hp,hf⟩,⟨hq,hf⟩,by unfold Yhf;rw[if_neg (by omega),if_neg (by omega)];exact h⟩
end
theorem Xx6{ops:List RO}{at':List (Fin 256)}{n:Nat}: C0 21 [.d (dPl ops at'),.d (.int .i64 n)] (λv=>∃(l:List Vn) (c:Bool),v=.tup (.pr (.d (dVs l)) (.b c))/\l.length<=24/\(c=true->n<=l.length/\InW λ_ _ N=>∀x∈l,x.x∈N/\x.y∈N)):=by
 refine En Tryz.func21 λ_ _ _=>?_
 refine Ca rfl Xx7 λv hv=>?_
 rcases hv with rfl | ⟨l,rfl,h1,h2⟩
 . refine No rfl (by decide) ?_
   exact Rt rfl (.tup (.cons (.rf rfl) Xlx)) ⟨[],false,rfl,W0w _,λh=>nomatch h⟩
 . refine Yes rfl rfl ?_
   refine Rt rfl (.tup (.cons (.rf rfl) Xlx)) ⟨l,_,rfl,by omega,λh=>⟨?_,h2⟩⟩
   have h:(((l.map dV).length:Nat):Int)>=n:=Xaj.1 h
   rw[W0j] at h
   omega
end
end Go.Proofs.YtegepebhkhhhoaaGreatDoor.P20
namespace Go.Proofs.YtegepebhkhhhoaaGreatDoor.R20
open Go Go.Vm Go.Num Go.Tow Go.Proofs.YtegepebhkhhhoaaGreatDoor Go.Proofs.YtegepebhkhhhoaaGreatDoor.P20
def SG{K:Nat}(G:Tw K)(S:List (Tow.El K))(N:List Nm)(U:Nat)(s:Sn): Prop:=(∃a,Gd G S N 9 s.c a)/\(∃p,Gv G S N U s.v p)/\few s.f
def ptV: Option (List Sn)->AV
 | none=>.lit 7 []
 | some w=>.own 600 7 0 (w.map dSe).length
def ptH: Option (List Sn)->Hpl
 | none=>[]
 | some w=>[(600,.arr 7 (w.map dSe))]
def ptW: Option (List Sn)->List Sn
 | none=>[]
 | some w=>w
section
variable{K:Nat}{G:Tw K}{S:List (Tow.El K)}{N:List Nm}{U:Nat}
def PtG(G:Tw K)(S:List (Tow.El K))(N:List Nm)(U n:Nat)(r:AV): Prop:=(∃e:Int,e≠0/\r=.tup (.pr (.d (dSs [])) (.d (.int .i64 e))))\/∃l,r=.tup (.pr (.d (dSs l)) (.d (.int .i64 0)))/\l.length<=n/\∀s∈l,SG G S N U s
theorem Xcx(l:List Sn): (l.map dSe).length=l.length:=W0j ..
variable{n m:Nat}{x y z:Nm}{a b:Tow.El K}
end
abbrev dCb(ops:List RO)(at':List (Fin 256))(ts:List Int): D:=.st (.pr (dPl ops at') (.sl 1 (ts.map λz=>.int .i64 z)))
abbrev dAa(a b:List D)(L:List Sn): D:=.st (.pr (.st (.pr (.sl 1 a) (.sl 4 b))) (dSs L))
theorem Ydj{ts:List Int}{k:Nat}{z:Int}(h:ts[k]?=some z): (ts.map λz=>(D.int .i64 z:D))[k]?=some (.int .i64 z):=by rw[W1s,h];rfl
end Go.Proofs.YtegepebhkhhhoaaGreatDoor.R20
namespace Go.Proofs.YtegepebhkhhhoaaGreatDoor
open Go Go.Vm Go.Num
theorem Xsg{t:TypeId}(ht:Tryz.prog.underlying t=some (.slice 3)): Reads Tryz.prog t λd=>∃ts:List Int,d=.sl 1 (ts.map λz=>.int .i64 z)/\ts.length<9223372036854775808/\∀z∈ts,-9223372036854775808<=z/\z<9223372036854775808 :=
 (Xfm ht (Xmu Tryz.underlying3) (sz:=1) (by kernel_rfl) (by decide)).mono λd ⟨l,e,hl,h⟩=>by
  obtain⟨m,hm⟩:=Ymu (f:=λn:{n:Int // -9223372036854775808<=n/\n<9223372036854775808}=>(D.int .i64 n.val:D)) λy hy=>let ⟨n,e,h1,h2⟩:=h y hy;⟨⟨n,h1,h2⟩,e⟩
  refine⟨m.map (·.val),by rw[e,hm,List.map_map];rfl,by rw[W0j];rw[hm,W0j] at hl;exact hl,λz hz=>?_⟩
  obtain⟨x,_,rfl⟩:=W3s.1 hz
  exact x.2
theorem Xzc: Reads Tryz.prog 29 λd=>∃ops l ts,d=R20.dCb ops l ts/\ts.length<9223372036854775808/\∀z∈ts,-9223372036854775808<=z/\z<9223372036854775808 :=
 (Xen Tryz.underlying29 (.cons (n:=2) rfl Xsh (by kernel_rfl) (.one rfl (Xsg Tryz.underlying27))) (λf hf=>by cases hf;kernel_rfl)).mono λd hd=>by
  obtain⟨_,rfl,_,_,rfl,⟨ops,l,rfl⟩,⟨ts,rfl,h1,h2⟩⟩:=hd
  exact⟨ops,l,ts,rfl,h1,h2⟩
theorem Ykq: Arg Tryz.prog 29 λd=>∃ops l ts,d=R20.dCb ops l ts/\ts.length<9223372036854775808/\∀z∈ts,-9223372036854775808<=z/\z<9223372036854775808:=Xs1 Tryz.underlying29 Xzc λx ⟨_,_,_,e,_⟩=>by rw[e];rfl
end Go.Proofs.YtegepebhkhhhoaaGreatDoor
namespace Go.Vm
open Go
section
variable{c:Cx}{s:St}{p:Pl}
noncomputable def Yoc(tb:Nat->Option TI)(n:Nat)(s:St): Option (Pl×Oper×TypeId×TI×Operand×Operand×Operand×Operand×Nat×Nat×Nat×Nat×Int×Int×Int):=match nxO tb n s with
 | some (p,o)=>match o.op,p.dr with
  | .slice T x (some lo) (some hi) (some mx),false=>match Xcr (look p.E) x,Xcr (look p.E) lo,Xcr (look p.E) hi,Xcr (look p.E) mx,tb T with
   | some (.own q sz l m),some (.d (.int _ i)),some (.d (.int _ j)),some (.d (.int _ k)),some ti=>match ti.z with
    | .sl _ _=>some (p,o,T,ti,x,lo,hi,mx,q,sz,l,m,i,j,k)
    | _=>none
   | _,_,_,_,_=>none
  | _,_=>none
 | none=>none
theorem Sx(i j k:Nat){o:Oper}{T:TypeId}{ti:TI}{x lo hi mx:Operand}{q sz l m:Nat}{i' j' k':Int}(h:Yoc c.tb c.n s=some (p,o,T,ti,x,lo,hi,mx,q,sz,l,m,i',j',k'))(h1:i<=j)(h2:j<=k)(h3:k<=m)(kk:p.nx c .an)
 (e1:i'=(i:Int):=by first | exact rfl | omega) (e2:j'=(j:Int):=by first | exact rfl | omega) (e3:k'=(k:Int):=by first | exact rfl | omega):StP c s:=by
 subst e1;subst e2;subst e3
 unfold Yoc at h
 split at h<;>try cases h
 rename_i p' o' ho
 split at h<;>try cases h
 rename_i T' x' lo' hi' mx' hop hdr
 split at h<;>try cases h
 rename_i ti' hx hl hh hm hti
 split at h<;>cases h
 rename_i s0 ys0 hz
 refine Xmz (us:=[]) ho (by unfold Xal;rw[hop];rfl) hdr (λN W θ ρ _ hO hN hB hv=>?_) (Pl.nx_nil kk)
 obtain⟨hk,_⟩:=c.hT _ _ hti
 obtain⟨t,u1,_,u3⟩:=hk.u
 rw[hz] at u3
 obtain⟨E,e',hsz,hez,ii,v0,i1,i2,_⟩:=u3
 subst e'
 obtain⟨b,pp,f1,f2,f3,e,f5⟩:=Xhh (hv _ _ hx)
 obtain⟨g1,_⟩:=Xct (hv _ _ hl)
 obtain⟨g2,_⟩:=Xct (hv _ _ hh)
 obtain⟨g3,_⟩:=Xct (hv _ _ hm)
 have hr:∃r,(execOp ρ o).run c.P W.w=.ok (.value (.slice r (j-i) (k-i))) W.w:=by
  have hc:k<=(θ q).2-l:=by omega
  refine⟨if k=i then pp else pp.map (·.add (i*ii.size)),?_⟩
  simp only[execOp,hop,W3i]
  simp[e,g1,g2,g3,Instr.sliceAt,Instr.slice,Instr.sliceBounds,Instr.sliceBound,asIntOf,sizeOf,typeInfo,underlying,program,bind,Sem.bind,Sem.run,pure,u1,i1,h1,h2,hc]
 obtain⟨r,hr⟩:=hr
 exact .val (u:=.slice r (j-i) (k-i)) hO hr ⟨_,⟨_,_,_,rfl⟩,rfl⟩ (λ_ h=>h.elim)
noncomputable def Yob(tb:Nat->Option TI)(n:Nat)(s:St): Option (Pl×Oper×TypeId×TI×Operand×Operand×Operand×Nat×Nat×Nat×Nat×List D×Int×Int):=match nxO tb n s with
 | some (p,o)=>match o.op,p.dr with
  | .slice T x (some lo) (some hi) none,false=>match Xcr (look p.E) x,Xcr (look p.E) lo,Xcr (look p.E) hi,tb T with
   | some (.own q sz l m),some (.d (.int _ i)),some (.d (.int _ j)),some ti=>match ti.z,look p.H q,Nat.beq sz ti.e.size with
    | .sl _ _,some (.arr s1 xs),true=>match Nat.beq s1 sz with
     | true=>some (p,o,T,ti,x,lo,hi,q,sz,l,m,xs,i,j)
     | false=>none
    | _,_,_=>none
   | _,_,_,_=>none
  | _,_=>none
 | none=>none
theorem Sy(i j:Nat){o:Oper}{T:TypeId}{ti:TI}{x lo hi:Operand}{q sz l m:Nat}{xs:List D}{i' j':Int}(h:Yob c.tb c.n s=some (p,o,T,ti,x,lo,hi,q,sz,l,m,xs,i',j'))(h1:i<=j)(h2:l+j<=xs.length)(kk:p.nx c (.own q sz (l+i) (j-i)))
 (e1:i'=(i:Int):=by first | exact rfl | omega) (e2:j'=(j:Int):=by first | exact rfl | omega):StP c s:=by
 subst e1;subst e2
 unfold Yob at h
 split at h<;>try cases h
 rename_i p' o' ho
 split at h<;>try cases h
 rename_i T' x' lo' hi' hop hdr
 split at h<;>try cases h
 rename_i ti' hx hl hh hti
 split at h<;>try cases h
 rename_i s0 ys0 s1 xs1 hz hH hb1
 split at h<;>cases h
 rename_i hb2
 have e1:=W0e hb1
 have e2:=W0e hb2
 subst e2
 refine Xmz (us:=[]) ho (by unfold Xal;rw[hop];rfl) hdr (λN W θ ρ _ hO hN hB hv=>?_) (Pl.nx_nil kk)
 obtain⟨hk,_⟩:=c.hT _ _ hti
 obtain⟨t,u1,_,u3⟩:=hk.u
 rw[hz] at u3
 obtain⟨E,e,hsz,hez,ii,v0,i1,i2,_⟩:=u3
 subst e
 obtain⟨b,pp,f1,f2,f3,ex,f5⟩:=Xhh (hv _ _ hx)
 obtain⟨b',cs,T1,r1,r2,r3,r4,r5,r6,r7⟩:=hO.r _ _ hH
 obtain⟨g1,_⟩:=Xct (hv _ _ hl)
 obtain⟨g2,_⟩:=Xct (hv _ _ hh)
 have hr:=Ybr (P:=c.P) (w:=W.w) u1 i1 i2 ex (lo:=some (ρ lo)) (hi':=some (ρ hi)) (l:=i) (h:=j) (.inr ⟨_,by rw[g1]⟩) (.inr ⟨_,by rw[g2]⟩) h1 (by omega)
 have hg:(sem p.E p.H).2 q=some (.arr s1 xs):=hH
 refine .val (u:=.slice (if (θ q).2-l=i then pp else pp.map (·.add (i*ti.e.size))) (j-i) ((θ q).2-l-i)) hO ?_ ⟨[.slice (if (θ q).2-l=i then pp else pp.map (·.add (i*ti.e.size))) (j-i) ((θ q).2-l-i)],⟨b,_,f1,by omega,f3,by rw[show (θ q).2-l-i=(θ q).2-(l+i) by omega],λhh=>?_⟩,rfl⟩ (λi hi=>by subst hi;exact⟨_,hg⟩)
 . simp only[execOp,hop,W3i,Option.map_none]
   rw[Sem.run_bind,hr];rfl
 . by_cases hc:(θ q).2-l=i
   . rw[if_pos hc]
     rcases hh with h0 | h0
     . have:i=0:=by omega
       subst this
       rw[W2j]
       exact f5 (.inl (by omega))
     . omega
   . rw[if_neg hc,f5 (by omega)]
     simp only[W3i,add0,e1]
     rw[W1h]
theorem ApI{d sz o n l m:Nat}{xs:List D}(ws:List D)(h:nxQ c.tb c.n s=some (p,d,sz,l,m,xs,.own o sz 0 n))(ht:look p.H o=some (.arr sz ws))(hl:l+m<=xs.length)(hn:n+m<=ws.length)(hlt:n<ws.length)(hr:n+m<=1099511627776)
 (k:p.nx' c (.own o sz 0 (n+m)) [(o,.arr sz (ws.take n++(xs.drop l).take m++ws.drop (n+m)))]):StP c s:=by
 have hm:((xs.drop l).take m).length=m:=by rw[W0g,W1j];omega
 refine Xq0 h hl rfl (λti he=>?_) k
 simp only[Xko,ht]
 rw[if_neg (λh=>by omega),if_pos ⟨by rw[hm];exact Xcy hr he,rfl,by rw[hm];exact hn,rfl,rfl⟩,hm]
noncomputable def Yon(tb:Nat->Option TI)(n:Nat)(s:St): Option (Pl×Oper×Operand×TypeId×TI×Nat×Nat×Nat×Nat×List D):=match nxO tb n s with
 | some (p,o)=>match o.op,p.dr with
  | .call ⟨.builtin .clear,⟨[x]⟩,⟨[T]⟩⟩,false=>match Xcr (look p.E) x,tb T with
   | some (.own q sz l m),some ti=>match look p.H q,ti.z with
    | some (.arr s1 xs),.sl s2 _=>match Nat.beq s1 sz&&Nat.beq s2 sz with
     | true=>some (p,o,x,T,ti,q,sz,l,m,xs)
     | false=>none
    | _,_=>none
   | _,_=>none
  | _,_=>none
 | none=>none
theorem Cl{o:Oper}{x:Operand}{T:TypeId}{ti:TI}{q sz l m:Nat}{xs:List D}(h:Yon c.tb c.n s=some (p,o,x,T,ti,q,sz,l,m,xs))(hl:l+m<=xs.length)(hm:0<m)(k:p.nx' c (.tup .un) [(q,.arr sz (xs.take l++List.replicate m ti.e++xs.drop (l+m)))]): StP c s:=by
 unfold Yon at h
 split at h<;>try cases h
 rename_i p' o' ho
 split at h<;>try cases h
 rename_i x' T' hop hdr
 split at h<;>try cases h
 rename_i ti' hx hti
 split at h<;>try cases h
 rename_i s1 xs' s2 xs0 hH hz
 split at h<;>cases h
 rename_i hb
 rw[W0f] at hb
 have e1:=W0e hb.1
 have e2:=W0e hb.2
 subst e1;subst e2
 refine Xmz ho (by unfold Xal;rw[hop];rfl) hdr (λN W θ ρ _ hO hN hB hv=>?_) k
 obtain⟨hk,_⟩:=c.hT _ _ hti
 obtain⟨t,u1,_,u3⟩:=hk.u
 rw[hz] at u3
 obtain⟨E,e,hsz,hez,ii,v0,i1,i2,i3,i4,i5⟩:=u3
 subst e
 obtain⟨b,pp,h1,hxc,hc63,ex,hp5⟩:=Xhh (hv _ _ hx)
 have hg:(sem p.E p.H).2 q=some (.arr s2 xs):=hH
 obtain⟨b',cs,T',r1,h2,h3,r4,r5,r6,r7⟩:=hO.r _ _ hg
 rw[h1] at r1;injection r1 with r1;subst r1
 have hpb:=hp5 (by omega)
 have hzl:ti.e.zc.length=s2:=by rw[D.zc_len,hsz]
 have hpos:0<s2:=by rw[hsz];exact D.size_pos _
 have hrow:=Xkt ti.e.zc m (by omega) v0.cells i5
 rw[hzl] at hrow
 have hnl:(Xg7 ti.e.zc m).length=m*s2:=by rw[Xd7,hzl]
 have hfit:l*s2+(Xg7 ti.e.zc m).length<=cs.length:=by
  rw[hnl,h3,<-W1h];exact W0o _ (by omega)
 have hone:∀u∈Xg7 ti.e.zc m,Xfz u=true:=by
  have:∀k,∀u∈Xg7 ti.e.zc k,Xfz u=true:=λk=>by
   induction k with
   | zero=>intro u hu;cases hu
   | succ k ih =>
    intro u hu
    rcases W1v.1 hu with h | h
    . exact D.at_one ti.e (D.at_zc (W:=W) _ hez) u h
    . exact ih u h
  exact this m
 have hst:=Xcl (P:=c.P) (off:=l*s2) (Xg7 ti.e.zc m) W.w 0 cs h2 (by omega) hone
 rw[W2j] at hst
 have hv0:v0.cells.size=s2:=by rw[hsz,<-D.zc_len,<-i5];simp
 have hzc:(Builtin.zeroCells v0.cells m).toList=Xg7 ti.e.zc m:=by
  have:Builtin.zeroCells v0.cells m=(Xg7 ti.e.zc m).toArray:=by
   unfold Builtin.zeroCells
   rw[hv0] at hrow |-;exact hrow
  rw[this]
 have hrun:(execOp ρ o).run c.P W.w=.ok (.value (.tuple #[])) (Xhx W.w b (.cells (spl cs (l*s2) (Xg7 ti.e.zc m)).toArray T' (0,0))):=by
  have h1:execOp ρ o=(Builtin.clear_ #[T] o.type #[ρ x] >>= λv=>pure (.value v)):=by
   simp[execOp,hop,resolve,invoke,builtin]
  have h2:(Builtin.clear_ #[T] o.type #[ρ x]).run c.P W.w=.ok (.tuple #[]) (Xhx W.w b (.cells (spl cs (l*s2) (Xg7 ti.e.zc m)).toArray T' (0,0))):=by
   rw[ex,hpb]
   obtain⟨m',rfl⟩:∃m',m=m'+1:=⟨m-1,by omega⟩
   simp[Builtin.clear_,run_underlying u1,zeroValue,typeInfo,i1,i4,hzc,hst]
  rw[h1,Sem.run_bind,h2];rfl
 have hsp:∀q,(spl cs (l*s2) (Xg7 ti.e.zc m))[q]?=if l*s2<=q/\q<l*s2+(Xg7 ti.e.zc m).length then (Xg7 ti.e.zc m)[q-l*s2]? else cs[q]?:=λq=>Xem _ _ _ _ hfit
 have hs':∀i v,¬W.A b i->cs[i]?=some v->(spl cs (l*s2) (Xg7 ti.e.zc m))[i]?=some v:=λi v hA hv=>absurd (r7 i) hA
 have hle:=Xgd W b cs (spl cs (l*s2) (Xg7 ti.e.zc m)) T' (λ_=>True) h2 hs'
 have hnw:(xs.take l++List.replicate m ti.e++xs.drop (l+m)).length=xs.length:=by
  rw[W0d,W0d,W0g,W1j,W1l];omega
 refine⟨_,θ,_,hrun,Stp.put hO (t:=q) (x:=.arr s2 (xs.take l++List.replicate m ti.e++xs.drop (l+m))) (B:=λ_=>True) hg rfl h1 h2 hs' (θ':=θ) (λ_ _ _=>rfl) (λ_ _=>rfl) h1 (λi z hz=>?_) (λi z hz=>?_)
  ⟨b,_,T',h1,Xa0 _ _ _ (Xaz h2),by rw[Xc0];exact h3,r4,by rw[hnw];exact r5,λi x hx=>?_,λi=>⟨r7 i,λ_=>trivial⟩⟩ (λi hi=>hi.elim),.inr ⟨_,rfl,[],rfl,trivial⟩,λi hi=>hi.elim⟩
 . rcases Xaf hz with ⟨f1,f2⟩ | ⟨f1,f2⟩
   . exact .inl ⟨f1,f2⟩
   . exact .inr (.inr ⟨f2,f1⟩)
 . by_cases hio:i=q
   . subst hio;exact⟨_,Xai _ _ _⟩
   . exact⟨z,(Xak hio).trans hz⟩
 . have hi:=Xbf hx
   rw[hnw] at hi
   by_cases ha':i<l
   . rw[W0r (by rw[W0d,W0g];omega),W0r (by rw[W0g];omega),W1e,if_pos ha'] at hx
     obtain⟨e1,e2,e3,e4⟩:=r6 i x hx
     refine⟨e1,D.mono hle _ e2,e3,λj v hj=>?_⟩
     have hjl:=Xbf hj
     rw[D.at_len x e2,e3] at hjl
     have:i*s2+s2<=l*s2:=by rw[<-W2k];exact W0o _ ha'
     rw[hsp,if_neg (by omega)]
     exact e4 j v hj
   . by_cases hb':i<l+m
     . rw[W0r (by rw[W0d,W0g,W1l];omega),W0q (by rw[W0g];omega),W0g,show min l xs.length=l by omega,W4e,if_pos (by omega)] at hx
       cases hx
       refine⟨ti.e.zc,D.at_zc _ hez,hsz.symm,λj v hj=>?_⟩
       have hjl:=Xbf hj
       rw[hzl] at hjl
       have m1:l*s2<=i*s2:=W0o _ (by omega)
       have m2:i*s2+s2<=l*s2+m*s2:=by rw[<-W2k,<-W1h];exact W0o _ (by omega)
       rw[hsp,if_pos (by rw[hnl];omega),show i*s2+j-l*s2=(i-l)*s2+j by rw[W1f (i-l),Nat.mul_sub,W1f s2 i,W1f s2 l];omega]
       have:=Xld ti.e.zc m (i-l) j (by omega) (by rw[hzl];exact hjl)
       rw[hzl] at this
       rw[this];exact hj
     . rw[W0q (by rw[W0d,W0g,W1l];omega),W0d,W0g,W1l,show min l xs.length=l by omega,W1q,show l+m+(i-(l+m))=i by omega] at hx
       obtain⟨e1,e2,e3,e4⟩:=r6 i x hx
       refine⟨e1,D.mono hle _ e2,e3,λj v hj=>?_⟩
       have m2:l*s2+m*s2<=i*s2:=by rw[<-W1h];exact W0o _ (by omega)
       rw[hsp,if_neg (by rw[hnl];omega)]
       exact e4 j v hj
end
def AV.nll(sz:Nat): AV->AV
 | .nil=>.lit sz []
 | .st a=>.st (a.nll sz)
 | .pr a c=>.pr (a.nll sz) (c.nll sz)
 | a=>a
theorem Ymn{W:GW}{θ:Loc}{sz:Nat}: ∀ {a:AV} {cs:List Value},AV.C W θ a cs->AV.C W θ (a.nll sz) cs:=by
 intro a
 induction a with
 | st a ih=>intro cs h;exact ih h
 | pr a c iha ihc=>intro cs ⟨u,v,h,h1,h2⟩;exact⟨u,v,h,iha h1,ihc h2⟩
 | nil=>intro cs ⟨p,h⟩;exact⟨p,h,by decide,.inl rfl⟩
 | _=>intro cs h;exact h
theorem Yej{sz i:Nat}: ∀ {a:AV},(a.nll sz).ids i->a.ids i:=by
 intro a
 induction a with
 | st a ih=>exact ih
 | pr a c iha ihc=>exact λh=>h.elim (λh=>.inl (iha h)) λh=>.inr (ihc h)
 | nil=>exact λh=>h
 | _=>exact λh=>h
section
variable{c:Cx}{s:St}{p:Pl}
theorem Yph{K:List Kt}{E:Env}{H:Hpl}(q sz:Nat){a:AV}(hv:look H q=some (.var a))(k:J c K (sem E ((q,.var (a.nll sz))::H))): J c K (sem E H):=by
 rintro x w ⟨s0,W,θ,hw,h1,hθ,rfl⟩
 refine k x w ⟨_,W,θ,hw,?_,hθ,rfl⟩
 rw[show sem E ((q,Ob.var (a.nll sz))::H)=(look E,upd (look H) q (.var (a.nll sz))) by rw[Xa7]]
 have hdom:∀ {i:Nat} {y:Ob},look H i=some y->∃z,upd (look H) q (.var (a.nll sz)) i=some z:=λ{i y} hy=>by
  by_cases e:i=q
  . subst e;exact⟨_,Xai _ _ _⟩
  . exact⟨y,by rw[Xak e];exact hy⟩
 refine⟨h1.fm,h1.rel,⟨λi y hy=>?_,λi y b hy hl hb=>?_,λi j y y' b hy hy' hl hl' b1 b2=>?_,λi y j hy hj=>?_⟩,λt v i ht hi=>?_⟩
 . rcases Xaf hy with ⟨e1,e2⟩ | ⟨e1,e2⟩
   . subst e1;subst e2
     obtain⟨b,cs,T,r1,r2,r3,r4⟩:=h1.obs.r _ _ hv
     exact⟨b,cs,T,r1,r2,Ymn r3,r4⟩
   . exact h1.obs.r _ _ e2
 . rcases Xaf hy with ⟨e1,e2⟩ | ⟨e1,e2⟩
   . subst e1;exact h1.obs.new _ _ b hv rfl hb
   . exact h1.obs.new _ _ b e2 hl hb
 . rcases Xaf hy with ⟨e1,e2⟩ | ⟨e1,e2⟩<;>rcases Xaf hy' with ⟨f1,f2⟩ | ⟨f1,f2⟩
   . rw[e1,f1]
   . subst e1;exact h1.obs.dis _ _ _ _ b hv f2 rfl hl' b1 b2
   . subst f1;exact h1.obs.dis _ _ _ _ b e2 hv hl rfl b1 b2
   . exact h1.obs.dis _ _ _ _ b e2 f2 hl hl' b1 b2
 . rcases Xaf hy with ⟨e1,e2⟩ | ⟨e1,e2⟩
   . subst e2
     obtain⟨z,hz⟩:=h1.obs.ids _ _ j hv (Yej (a:=a) hj)
     exact hdom hz
   . obtain⟨z,hz⟩:=h1.obs.ids _ _ j e2 hj
     exact hdom hz
 . obtain⟨z,hz⟩:=h1.ids t v i ht hi
   exact hdom hz
theorem NvL{K:List Kt}{E:Env}{H:Hpl}(q sz:Nat){a:AV}(h:nxJ c.tb c.n s=some (K,E,H))(k:StP c (.j [] K E ((q,.var (a.nll sz))::H)))(hv:look H q=some (.var a):=by exact rfl): StP c s:=by
 unfold nxJ at h
 split at h<;>cases h
 rename_i hr
 exact go 1000 hr (Yph q sz hv k)
end
end Go.Vm
namespace Go.Proofs.YtegepebhkhhhoaaGreatDoor.P9
open Go Go.Vm Go.Num Go.Tow Go.Proofs.YtegepebhkhhhoaaGreatDoor
theorem Ygs{l:List Rat}{i:Nat}: ∀k,(wo (l.take k) i).length<=k:=λk=>by
 induction k with
 | zero=>simp[wo,woA]
 | succ k ih =>
  by_cases h:k<l.length
  . rw[R9.wo_take (W0c h),W0d]
    split<;>simp<;>omega
  . rw[W0a (by omega)]
    rw[W0a (by omega)] at ih;omega
theorem Xgw{l:List Rat}{i:Nat}(hi:i<=63)(hn:l.length<=1048576): C0 287 [.d (dqs l),.d (.int .i64 i)] (·=.d (dqs (wo l i))):=by
 have hlen:=Ygs (l:=l) (i:=i)
 refine En Tryz.func287 λ_ _ _=>?_
 refine Nl 5 5 4 rfl ?_
 refine Lo (λk:Nat=>[(1,.d (.int .i64 i)),(5,.gr 5 4 ((wo (l.take k) i).map dq)),(8,.d (dqs l)),(9,.d (.int .i64 (l.map dq).length)),(10,.d (.int .i64 k))]) (λk=>[(5,.tok ((wo (l.take k) i).map dq).length 4)]) (λk=>k<=l.length) (λk=>l.length-k) 0 [] rfl (by omega) λk hk=>?_
 refine By rfl (λh=>?_) λh=>?_<;>simp only[lq] at h
 . obtain⟨x,hx⟩:=qat (l:=l) (k:=k) (by omega)
   have hw:=R9.wo_take (i:=i) hx
   have hl:=hlen (k+1)
   refine Ix k rfl (mp hx) ?_
   refine Ar (k/2^i:Nat) rfl ?_ (R9.shrI hi)
   refine Ar (k/2^i%2:Nat) rfl ?_ (Yoz (by have:=W3g k (2^i);omega))
   refine By rfl (λh1=>?_) λh1=>?_
   . rw[if_pos (by omega)] at hw
     refine ApG ((wo (l.take (k+1)) i).map dq) rfl (by rw[hw,W2a];rfl) (by simp;omega) ?_
     refine Ar (k+1:Nat) rfl ?_
     exact Bk (k+1) [(23,5)] rfl (show k+1<=l.length by omega) (by show l.length-(k+1)<l.length-k;omega)
   . rw[if_neg (by omega),W3t] at hw
     refine Ar (k+1:Nat) rfl ?_
     exact Bk (k+1) [] rfl (show k+1<=l.length by omega) (by show l.length-(k+1)<l.length-k;omega) (by exact⟨by rw[hw];rfl,by rw[hw];rfl,rfl,rfl,rfl⟩)
 . rw[W0a (by omega)]
   exact R1 rfl (.gr rfl)
theorem Xx9{xs R:List D}{n i:Nat}(hN:xs.length=n)(hi:i<n)(hn:n<=1000000): CW0 288 [.own 1000001 1 0 n,.d (.int .i64 i),.d (.int .i64 (i+1:Nat))] [(1000001,.arr 1 (xs++R))] (λr H'=>∃R',r=.own 1000001 1 0 (n-1)/\H'=[(1000001,.arr 1 (xs.take i++xs.drop (i+1)++R'))]):=by
 have hL:(xs++R).length=xs.length+R.length:=W0d
 generalize hX:xs++R=X at hL |-
 rw[hN] at hL
 have e:i+(n-(i+1))=n-1:=by omega
 refine EnW Tryz.func288 λ_ _ _ _=>?_
 refine Sx i (i+1) n rfl (by omega) (by omega) (W0b _) ?_
 refine No rfl (by omega) ?_
 refine Dw rfl ?_
 refine Sw 0 i rfl (by omega) (by omega) ?_
 refine Sw (i+1) n rfl (by omega) (by omega) ?_
 refine ApI X rfl rfl (by omega) (by omega) (by omega) (by omega) ?_
 rw[W5y,e]
 generalize hY:X.take i++(X.drop (0+(i+1))).take (n-(i+1))++X.drop (n-1)=Y
 have hYt:Y.take (n-1)=xs.take i++xs.drop (i+1):=by
  have l1:(X.take i++(X.drop (0+(i+1))).take (n-(i+1))).length=n-1:=by simp;omega
  rw[<-hY,W3d (by omega),W0a (by omega),<-hX]
  congr 1
  . rw[W3d (by omega)]
  . rw[W1k,W6k (by omega),W3d (by simp;omega),W0a (by simp;omega)]
 have hYl:Y.length=X.length:=by rw[<-hY];simp;omega
 refine Sy (n-1) n rfl (by omega) (by omega) ?_
 refine Cl rfl (by omega) (by omega) ?_
 rw[W1k,hYt]
 exact Rw [] [(1000001,.arr 1 (xs.take i++xs.drop (i+1)++List.replicate (n-(n-1)) (.sl 4 [])++Y.drop (n-1+(n-(n-1)))))] rfl (.one (.rf rfl) rfl rfl) ⟨_,rfl,by rw[W4v]⟩
abbrev DH(x:Nm)(i:Nat): Hpl:=(2,.var (.st (.pr .nil .nil)))::match i with
 | 0=>[(3,.var (.st (.pr (.lit 1 []) (.d (de x.a)))))]
 | i+1=>[(3,.var (.st (.pr (.own 7 1 0 (((toT x.k x.t).take (i+1)).map dqs).length) (.d (de x.a))))),(7,.arr 1 (((toT x.k x.t).take (i+1)).map dqs))]
theorem Yfn{x:Nm}{r p:Nat}(hr:TS r x.k x.t)(hp:Sz p (toL x.k x.a))(hk:x.k<=16)(h0:0<x.k)(h1:r<=4398046511104)(h2:p<=4398046511104): CO0 74 [.d (dN x)] (λv ob=>v=.st (.pr (.own 1000000 1 0 x.k) (.d (de x.a)))/\ob=.arr 1 ((toT x.k x.t).map dqs++[])):=by
 have hpk:=p16 hk
 have hlen:=Xaa x.k x.t
 refine EnW Tryz.func74 λ_ _ _ _=>?_
 refine Ce rfl (Xda hp.ps h2 (by rw[Xab];omega)) ?_
 refine NvL 3 1 rfl ?_
 refine Lo (λ(i:Nat)=>[(2,.ptr 2 0),(3,.ptr 3 0),(11,.d (dt x.t)),(12,.d (.int .i64 ((toT x.k x.t).map dqs).length)),(13,.d (.int .i64 i))]) (λi=>DH x i)
  (λi=>i<=x.k) (λi=>x.k-i) 0 [] rfl (W0w _) (λi hi=>?_)
 have step:i<x.k->∃y:List Rat,(toT x.k x.t)[i]?=some y/\Ps r y/\y.length<=1048576:=λh=>by
  obtain⟨w,y,y1,y2,y3,_⟩:=Tw.take (t:=x.t) (i:=i) (by omega)
  exact⟨_,y2,(y3 r hr).2.ps,by rw[Xab];have:=p16 (show i<=16 by omega);omega⟩
 cases i with
 | zero =>
  obtain⟨y,y2,y3,y4⟩:=step (by omega)
  refine Yes rfl (by simp only[lt'];omega) ?_
  refine Ix 0 rfl (mp y2) ?_
  refine Dw rfl ?_
  refine Ce rfl (Xda y3 h1 (by omega)) ?_
  refine ApL (((toT x.k x.t).take (0+1)).map dqs) rfl (by rw[W1p,y2];simp) (by simp) (by simp[Xaa];omega) ?_
  refine Ar (0+1:Nat) rfl ?_
  exact Bk (0+1) [(22,7)] rfl (show 0+1<=x.k by omega) (by show x.k-(0+1)<x.k-0;omega)
 | succ i =>
  refine By rfl (λh=>?_) λh=>?_<;>simp only[lt',Xaa] at h
  . obtain⟨y,y2,y3,y4⟩:=step (by omega)
    refine Ix (i+1) rfl (mp y2) ?_
    refine Dw rfl ?_
    refine Ce rfl (Xda y3 h1 (by omega)) ?_
    refine ApO (((toT x.k x.t).take (i+1+1)).map dqs) rfl rfl rfl (by rw[W1p (i:=i+1),y2];simp) (by simp[Xaa];omega) ?_
    refine Ar (i+1+1:Nat) rfl ?_
    exact Bk (i+1+1) [(7,90),(22,7)] rfl (show i+1+1<=x.k by omega) (by show x.k-(i+1+1)<x.k-(i+1);omega)
  . have e:(toT x.k x.t).take (i+1)=toT x.k x.t:=W0a (by omega)
    exact Rw [(7,1000000)] [(1000000,.arr 1 (((toT x.k x.t).take (i+1)).map dqs))] rfl (.one (.rf rfl) rfl rfl) ⟨_,rfl,by rw[e,W0j,hlen];rfl,by rw[e,W3t]⟩
theorem Xv5{T:List (List Rat)}{X:List D}{p i l n:Nat}(hT:∀l∈T,Ps p l/\l.length<=1048576)(hp:p<=8796093022208)(hi:i<=63)(hTn:T.length=n)(hn:n<=1000)(hX:(X.drop l).take n=T.map dqs)(hl:l+n<=X.length): CN0 334 [.own 1000002 1 l n,.fn 286 1000001] [(1000001,Xzt i),(1000002,.arr 1 X)] (λv=>∃j:Int,v=.d (.int .i64 j)/\(j>=0↔∃l∈T,oc l i)):=by
 refine EnW Tryz.func334 λ_ _ _ _=>?_
 refine Lo (λk:Nat=>[(0,.own 1000002 1 l n),(1,.fn 286 1000001),(7,.d (.int .i64 n)),(8,.d (.int .i64 k))]) (λ_=>[(1000001,Xzt i),(1000002,.arr 1 X)]) (λk=>k<=n/\∀x∈T.take k,¬oc x i) (λk=>n-k) 0 [] rfl ⟨by omega,by simp⟩ (λk ⟨hk,hn'⟩=>?_)
 refine By rfl (λh=>?_) λh=>?_
 . obtain⟨x,hx⟩:∃x,T[k]?=some x:=⟨_,W0c (by omega)⟩
   have hm:=W0h hx
   have hXk:X[l+k]?=some (dqs x):=by
    have h1:((X.drop l).take n)[k]?=some (dqs x):=by rw[hX];exact mp hx
    rwa[W1e,if_pos (by omega),W1q] at h1
   refine El k rfl (by omega) ?_
   refine Ld (dqs x) rfl hXk ?_
   refine Cn [] rfl (Xyr (hT x hm).1 hp hi (hT x hm).2) λv hv=>?_
   subst hv
   refine By rfl (λh1=>?_) λh1=>?_
   . exact Rw [] [(1000001,Xzt i),(1000002,.arr 1 X)] rfl (.one (.rf rfl) rfl rfl) ⟨rfl,k,rfl,⟨λ_=>⟨x,hm,h1⟩,λ_=>by omega⟩⟩
   . refine Ar (k+1:Nat) rfl ?_
     refine Bk (k+1) [] rfl ⟨by omega,λy hy=>?_⟩ (by show n-(k+1)<n-k;omega)
     rw[W1p,hx] at hy
     rcases W1v.1 hy with hy | hy
     . exact hn' y hy
     . obtain rfl:=W0i.1 hy
       exact h1
 . rw[W0a (by omega)] at hn'
   exact Rw [] [(1000001,Xzt i),(1000002,.arr 1 X)] rfl (.one (.rf rfl) rfl rfl) ⟨rfl,-1,rfl,⟨λh=>absurd h (by decide),λ⟨x,h1,h2⟩=>absurd h2 (hn' x h1)⟩⟩
theorem Xnk{T:List (List Rat)}{X:List D}{p i l n:Nat}(hT:∀l∈T,Ps p l/\l.length<=1048576)(hp:p<=8796093022208)(hi:i<=63)(hTn:T.length=n)(hn:n<=1000)(hX:(X.drop l).take n=T.map dqs)(hl:l+n<=X.length): CN0 285 [.own 1000002 1 l n,.fn 286 1000001] [(1000001,Xzt i),(1000002,.arr 1 X)] (·=.b (dc (∃l∈T,oc l i))):=by
 refine EnW Tryz.func285 λ_ _ _ _=>?_
 refine Cn [] rfl (Xv5 hT hp hi hTn hn hX hl) λv hv=>?_
 obtain⟨j,rfl,hj⟩:=hv
 refine Rw [] [(1000001,Xzt i),(1000002,.arr 1 X)] rfl (.one (.bp (Xaj.trans hj)) rfl rfl) ⟨rfl,rfl⟩
open Go Go.Vm Go.Num Go.Tow Go.Proofs.YtegepebhkhhhoaaGreatDoor
section
variable{K:Nat}{G:Tw K}{S:List (Tow.El K)}{r p:Nat}{x:Nm}{v:Tow.El K}
structure Tsq where
 n:Nat
 z:Nm
 R:List D
abbrev TQ(s:Tsq): Hpl:=[(1,.var (.st (.pr (.own 6 1 0 s.z.k) (.d (de s.z.a))))),(2,.var (.st (.pr .nil .nil))),(3,.var (.d (.int .i64 ((s.n:Int)-1)))),(6,.arr 1 ((toT s.z.k s.z.t).map dqs++s.R))]
theorem Yik{m i:Nat}{T:Tw (m+1)}{c:Tow.El (m+1)}(hG:red K G)(h:NOk G S r p ⟨m+1,T,c⟩ v)(him:i<=m)(hd:¬nd ⟨m+1,T,c⟩ i): NOk G S r p ⟨m,rmT m i T,rm m i c⟩ v:=by
 obtain⟨ρ,a1,a2⟩:=h.ex
 have no1:¬oc (toL (m+1) c) i:=λe=>hd (.inl e)
 have no2:∀j l,i<j->(toT (m+1) T)[j]?=some l->¬oc l i:=λj l a b e=>hd (.inr ⟨j,l,a,b,e⟩)
 refine⟨⟨skip i ρ,a1.rm (Xad hG) him no2,by rw[<-a2];exact Yfd him no1⟩,h.r.rm him,?_⟩
 show Sz p (toL m (rm m i c))
 rw[Xf7 him];exact h.p.sub λx hx=>Xif hx
theorem Trim_n(hG:red K G)(hS:S.length<=3)(hx:NOk G S r p x v)(hr:r<=4398046511104)(hp:p<=4398046511104): C0 217 [.d (dN x)] λw=>∃z:Nm,w=.d (dN z)/\NOk G S r p z v:=by
 have hGr:=Xad hG
 have hk3:=hx.le hGr hS
 obtain⟨k,t,a⟩:=x
 have hk3:k<=3:=hk3
 by_cases k0:k=0
 . subst k0
   refine En Tryz.func217 λ_ _ _=>?_
   refine Ce rfl (Xdx hx.r hx.p (W0w _) hr hp) ?_
   refine Ar (-1:Int) rfl ?_ (wr (show ((0:Nat):Int)-1=-1 by decide) (by simp only[inK];omega))
   refine Lo (λ_:Unit=>[(1,.ptr 1 0),(2,.ptr 2 0),(3,.ptr 3 0)]) (λ_=>[(1,.var (.d (dN ⟨0,t,a⟩))),(2,.var (.st (.pr .nil .nil))),(3,.var (.d (.int .i64 (-1))))]) (λ_=>True) (λ_=>0) () [] rfl trivial (λ_ _=>?_)
   refine No rfl (by decide) ?_
   exact Rt rfl (.one (.rf rfl) rfl rfl) ⟨_,rfl,hx⟩
 refine En Tryz.func217 λ_ _ _=>?_
 refine Co rfl (Yfn hx.r hx.p (show k<=16 by omega) (show 0<k by omega) hr hp) λv' ob hv=>?_
 obtain⟨rfl,rfl⟩:=hv
 refine Ar ((k:Int)-1) rfl ?_ (wr rfl (by simp only[inK];omega))
 refine Lo (λ(s:Tsq)=>[(1,.ptr 1 0),(2,.ptr 2 0),(3,.ptr 3 0)]) (λs=>TQ s) (λs=>NOk G S r p s.z v/\s.n<=s.z.k) (λs=>s.n) ⟨k,⟨k,t,a⟩,[]⟩ [] rfl ⟨hx,W0b _⟩ (λ⟨n,⟨m,T,c⟩,R⟩ hI=>?_)
 obtain⟨h1,h2⟩:=hI
 simp only at h1 h2
 have hm3:m<=3:=h1.le hGr hS
 have hT:TS r m T:=h1.r
 have hc:Sz p (toL m c):=h1.p
 have hcl:=Xab m c
 have hpm:=p16 (show m<=16 by omega)
 have hTl:=Xaa m T
 cases n with
 | zero =>
  refine No rfl (show ¬((0:Nat):Int)-1>=0 by decide) ?_
  exact Rt rfl (.one (.sd (.pd (.own rfl (by simp;omega) (by rw[W1d,W3d (by simp;omega),W0a (by simp;omega)])) (.eq rfl))) rfl rfl) ⟨⟨m,T,c⟩,rfl,h1⟩
 | succ i =>
  obtain⟨m,rfl⟩:∃m',m=m'+1:=⟨m-1,by omega⟩
  have ei:((i+1:Nat):Int)-1=i:=by omega
  have hoc:=Xgf (l:=toL (m+1) c) (i:=i) hc.ps (by omega) (by omega) (by omega)
  have hTT:∀l∈(toT (m+1) T).drop (i+1),Ps r l/\l.length<=1048576:=λl hl=>by
   obtain⟨j,hj⟩:=W2w (W4g hl)
   have hlt:=(W0m.1 hj).1
   obtain⟨h3,h4⟩:=TS.pt hT j l hj
   exact⟨h4,by rw[h3];exact W0k (p16 (show j<=16 by omega)) (by decide)⟩
  have hct:=Xnk (X:=(toT (m+1) T).map dqs++R) (i:=i) (l:=0+(i+1)) (n:=m+1-(i+1)) hTT (by omega) (by omega) (by rw[W1j,hTl]) (by omega)
   (by rw[W1k,W6k (by simp;omega),W3d (by simp;omega),W0a (by simp;omega),W4j]) (by simp;omega)
  have hwo:∀ {l:List Rat},l.length<=1048576->C0 287 [.d (dqs l),.d (.int .i64 (((i+1:Nat):Int)-1))] (·=.d (dqs (wo l i))):=λh=>by
   have:=Xgw (i:=i) (by omega) h
   rwa[<-ei] at this
  rw[<-ei] at hoc
  unfold Xzt at hct
  rw[<-ei] at hct
  refine Re 3 93 rfl ?_
  refine Yes rfl (show ((i+1:Nat):Int)-1>=0 by omega) ?_
  refine Ce rfl hoc ?_
  have keep:NOk G S r p (Tsq.z ⟨i,⟨m+1,T,c⟩,R⟩) v/\(Tsq.n ⟨i,⟨m+1,T,c⟩,R⟩)<=(Tsq.z ⟨i,⟨m+1,T,c⟩,R⟩).k:=⟨h1,by show i<=m+1;omega⟩
  refine By rfl (λh=>?_) λh=>?_
  . refine Ar ((i:Int)-1) rfl ?_ (wr (show ((i+1:Nat):Int)-1-1=(i:Int)-1 by omega) (by simp only[inK];omega))
    exact Bk ⟨i,⟨m+1,T,c⟩,R⟩ [] rfl keep (W5m i)
  . have ho:¬oc (toL (m+1) c) i:=h
    refine Ar (i+1:Nat) rfl ?_ (wr (show ((i+1:Nat):Int)-1+1=((i+1:Nat):Int) by omega) (by simp only[inK];omega))
    refine Sw (i+1) (m+1) rfl (by omega) (W0b _) ?_
    refine Cn [(1000001,93),(1000002,6)] rfl hct λv' hv'=>?_
    subst hv'
    refine By rfl (λh=>?_) λh=>?_
    . refine Ar ((i:Int)-1) rfl ?_ (wr (show ((i+1:Nat):Int)-1-1=(i:Int)-1 by omega) (by simp only[inK];omega))
      exact Bk ⟨i,⟨m+1,T,c⟩,R⟩ [] rfl keep (W5m i)
    . have him:i<=m:=by omega
      have hno:¬nd ⟨m+1,T,c⟩ i:=λe=>e.elim ho λ⟨q,l,h4,h5,h6⟩=>h ⟨l,W0h (i:=q-(i+1)) (by rw[W1q,show i+1+(q-(i+1))=q by omega];exact h5),h6⟩
      have w1:=Yik hG h1 him hno
      have w2:=Xf7 (a:=c) him
      have rad:∀j,j<m+1->∃l,(toT (m+1) T)[j]?=some l/\l.length<=1048576:=λj hj=>by
       obtain⟨e,e1,e2,_⟩:=Tw.at (t:=T) hj
       exact⟨_,e1,by rw[Xab];exact W0k (p16 (show j<=16 by omega)) (by decide)⟩
      have hw0:=hwo (l:=toL (m+1) c) (by omega)
      rw[<-w2] at hw0
      refine Ce rfl hw0 ?_
      refine Ar (i+1:Nat) rfl ?_ (wr (show ((i+1:Nat):Int)-1+1=((i+1:Nat):Int) by omega) (by simp only[inK];omega))
      refine Lo (λ(j:Nat)=>[(1,.ptr 1 0),(2,.ptr 2 0),(3,.ptr 93 0),(4,.d (.int .i64 j))]) (λj=>[(1,.var (.st (.pr (.own 6 1 0 (m+1)) (.d (dqs (toL m (rm m i c))))))),(2,.var (.st (.pr .nil .nil))),(93,.var (.d (.int .i64 (((i+1:Nat):Int)-1)))),(6,.arr 1 ((R9.wl i j (toT (m+1) T)).map dqs++R))]) (λj=>i+1<=j/\j<=m+1) (λj=>m+1-j) (i+1) [] rfl ⟨W0b _,by omega⟩ (λj ⟨g1,g2⟩=>?_) (by rw[R9.wl_start];exact⟨rfl,rfl,rfl,rfl,rfl⟩)
      have hwl:(R9.wl i j (toT (m+1) T)).length=m+1:=R9.wl_len.trans hTl
      refine By rfl (λh=>?_) λh=>?_
      . obtain⟨l,hl,hll⟩:=rad j (by omega)
        refine Dw rfl ?_
        refine Eo j rfl (by omega) ?_
        refine Ld (dqs l) rfl (by rw[W0r (by simp;omega)];exact mp (by rw[R9.wl_get,hl,W3i,if_neg (by omega)])) ?_
        refine Ce rfl (hwo (l:=l) hll) ?_
        refine Eo j rfl (by omega) ?_
        refine Sto rfl (by simp;omega) (zs:=(R9.wl i (j+1) (toT (m+1) T)).map dqs++R) (by rw[List.set_append_left _ _ (by simp;omega),<-R9.wl_set (by omega) hl];exact congrArg (·++R) ms) ?_
        refine Ar (j+1:Nat) rfl ?_
        exact Bk (j+1) [] rfl ⟨by omega,by omega⟩ (by show m+1-(j+1)<m+1-j;omega)
      . obtain rfl:j=m+1:=by omega
        have hwe:=R9.wl_end (T:=T) (zs:=toT (m+1) T) (W0a (by omega)) him
        rw[W0a (l:=(R9.wl i (m+1) (toT (m+1) T)).drop (i+1)) (by rw[W1j,hwl];exact W0b _)] at hwe
        have hwe':((R9.wl i (m+1) (toT (m+1) T)).map dqs).take i++((R9.wl i (m+1) (toT (m+1) T)).map dqs).drop (i+1)=(toT m (rmT m i T)).map dqs:=by rw[<-hwe,W2a,W2d,W4j]
        have hDel:=Xx9 (xs:=(R9.wl i (m+1) (toT (m+1) T)).map dqs) (R:=R) (n:=m+1) (i:=i) (by rw[W0j,hwl]) (by omega) (by omega)
        rw[hwe',<-ei] at hDel
        refine Ar (i+1:Nat) rfl ?_ (wr (show ((i+1:Nat):Int)-1+1=((i+1:Nat):Int) by omega) (by simp only[inK];omega))
        refine Cw [(1000001,6)] rfl hDel λv' H' _ hP=>?_
        obtain⟨R',rfl,rfl⟩:=hP
        refine Ar ((i:Int)-1) rfl ?_ (wr (show ((i+1:Nat):Int)-1-1=(i:Int)-1 by omega) (by simp only[inK];omega))
        exact Bk ⟨i,⟨m,rmT m i T,rm m i c⟩,R'⟩ [] rfl ⟨w1,him⟩ (W5m i)
end
end Go.Proofs.YtegepebhkhhhoaaGreatDoor.P9
namespace Go.Proofs.YtegepebhkhhhoaaGreatDoor.P19
open Go Go.Vm Go.Num Go.Tow Go.Proofs.YtegepebhkhhhoaaGreatDoor
section
variable{K:Nat}{G:Tw K}{S:List (Tow.El K)}{N:List Nm}{n m:Nat}{x:Nm}{a:Tow.El K}{u s:Vn}{p q:V2 K}{f g:Int}
theorem Yk1(W:Wn G S N)(hx:Gd G S N n x a)(hn:n<=400): C0 217 [.d (dN x)] (OnG G S N n a) :=
 (P9.Trim_n W.w.g W.w.s hx.o (by rw[Xhw];decide) (by unfold gB;omega)).mono λr ⟨z,e,h⟩=>⟨z,e,h,hx.g,hx.n⟩
theorem Yj9(W:Wn G S N)(hu:Gv G S N n u p)(hn:n<=400): C0 134 [.d (dV u)] (VeG G S N n (Xbn p)):=by
 refine En Tryz.func134 λ_ _ _=>?_
 refine Dw rfl ?_
 refine Ca rfl (Yk1 W hu.x hn) λv hv=>?_
 obtain⟨x,rfl,hx⟩:=hv
 refine Ca rfl (P9.Neg_g W hu.y hn) λv hv=>?_
 obtain⟨z,rfl,hz⟩:=hv
 exact Rt rfl (.one (.rf rfl) rfl rfl) ⟨⟨x,z⟩,rfl,hx,hz⟩
theorem opp_g(W:Wn G S N)(hu:Gv G S N n u p)(hn:n<=400)(hf:few f): C0 76 [.d (dT u f)] (λr=>∃v,r=.d (dT v (vopp G p f))/\Gv G S N n v (Xbn p)):=by
 unfold few at hf
 refine En Tryz.func76 λ_ _ _=>?_
 refine Dw rfl ?_
 refine Ca rfl (Yj9 W hu hn) λv hv=>?_
 obtain⟨c,rfl,hc⟩:=hv
 refine Ne (-f) rfl ?_ (wr (W7r _) (by simp only[inK];omega))
 refine Ce rfl (Ycs W hu (by omega)) ?_
 refine By rfl (λh=>?_) λh=>?_
 . have h:¬Xbc G p:=by simpa [Xaq,Xaj] using h
   refine Ar (-f-1) rfl ?_ (wr rfl (by simp only[inK];omega))
   exact Rt rfl (.one (.rf rfl) rfl rfl) ⟨c,by rw[vopp,if_neg h],hc⟩
 . have h:Xbc G p:=by simpa [Xaq,Xaj] using h
   exact Rt rfl (.one (.rf rfl) rfl rfl) ⟨c,by rw[vopp,if_pos h],hc⟩
theorem NegO_g(W:Wn G S N)(hu:Gv G S N n u p)(hn:n<=400)(hf:few f): C0 30 [.d (dT u f)] (λr=>∃v,r=.d (dT v (min (max (P19.vopp G p f) (-1000000)) 1000000))/\Gv G S N n v (Xbn p)):=by
 refine En Tryz.func30 λ_ _ _=>?_
 refine Ca rfl (opp_g W hu hn hf) λv hv=>?_
 obtain⟨c,rfl,hc⟩:=hv
 refine Mm (max (P19.vopp G p f) (-1000000)) rfl ?_ rfl
 refine Mm (min (max (P19.vopp G p f) (-1000000)) 1000000) rfl ?_ rfl
 exact Rt rfl (.one (.rf rfl) rfl rfl) ⟨c,rfl,hc⟩
end
end Go.Proofs.YtegepebhkhhhoaaGreatDoor.P19
namespace Go.Tow
open Go Go.Proofs.YtegepebhkhhhoaaGreatDoor
section
variable{K:Nat}{G:Tw K}{p q u:V2 K}{a b c:El K}{f g:Int}
theorem Xti(G:Tw K)(p q:V2 K): Xbn (Xav G p q)=Xav G (Xbn p) (Xbn q):=by
 obtain⟨a,b⟩:=p
 obtain⟨c,d⟩:=q
 have L:=Xay K G
 exact W2y (Laws.req L [a,b,c,d] (.add (.mul (.v 0) (.v 2)) (.neg (.mul (.v 1) (.v 3)))) (.add (.mul (.v 0) (.v 2)) (.neg (.mul (.neg (.v 1)) (.neg (.v 3))))) (by decide +kernel)) (Laws.req L [a,b,c,d] (.neg (.add (.mul (.v 0) (.v 3)) (.mul (.v 1) (.v 2)))) (.add (.mul (.v 0) (.neg (.v 3))) (.mul (.neg (.v 1)) (.v 2))) (by decide +kernel))
theorem Ydh(hG:red K G)(hp:Xbc G p)(hq:Xbc G q): Xdb G p q 0 0=0:=by
 have up:vup G p:=.inr hp
 have uq:vup G q:=.inr hq
 have np:=Xfe hG up
 have nq:=Xfe hG uq
 have h:=Xmg hG np nq
 have e0:vh G (Xav G p q)=0:=if_pos (Xkv hG up uq hp.1)
 have e1:vh G p=0:=if_pos up
 have e2:vh G q=0:=if_pos uq
 have:=Xjw (G:=G) (p:=p) (q:=q)
 rw[Xd1 hG np nq]
 omega
theorem Xky(hG:red K G)(hp:p≠vz K): Xdb G p (Xbn p) f (P19.vopp G p f)=0:=by
 rw[Xyp hG hp]
 unfold P19.vopp
 split<;>omega
theorem Xym(hG:red K G)(hp:p≠vz K)(hq:q≠vz K): Xdb G (Xbn p) (Xbn q) (P19.vopp G p f) (P19.vopp G q g)=P19.vopp G (Xav G p q) (Xdb G p q f g):=by
 have cp:=Xgy hG hp
 have cq:=Xgy hG hq
 have hX:=Xbx hG hp hq
 have hc:=Xbx hG cp cq
 have E1:=Xky (f:=Xdb G p q f g) hG hX
 have E2:Xdb G (Xav G p q) (Xav G (Xbn p) (Xbn q)) (Xdb G p q f g) (Xdb G (Xbn p) (Xbn q) (P19.vopp G p f) (P19.vopp G q g))=0:=by
  rw[Xgz hG hp hq hc]
  have e1:Xdb G q (Xav G (Xbn p) (Xbn q)) g (Xdb G (Xbn p) (Xbn q) (P19.vopp G p f) (P19.vopp G q g))=Xdb G (Xbn p) (Xav G q (Xbn q)) (P19.vopp G p f) 0:=by
   rw[Xbl (p:=Xbn p),Xmi hG cp cq,<-Xgz hG hq cq cp,Xky hG hq,Xmi hG (Xbx hG hq cq) cp]
  have e2:Xav G q (Xav G (Xbn p) (Xbn q))=Xav G (Xbn p) (Xav G q (Xbn q)):=by
   rw[<-Xgx,Xbl (p:=q),Xgx]
  rw[e1,e2,<-Xgz hG hp cp (Xbx hG hq cq),Xky hG hp]
  exact Ydh hG (Xih hG hp) (Xih hG hq)
 rw[Xti] at E1
 rw[Xd1 hG hX hc] at E1 E2
 omega
def vpw(G:Tw K)(p:V2 K): Nat->V2 K
 | 0=>(rat K 1,zero K)
 | n+1=>Xav G (vpw G p n) p
def vpf(G:Tw K)(p:V2 K)(f:Int): Nat->Int
 | 0=>0
 | n+1=>Xdb G (vpw G p n) p (vpf G p f n) f
theorem Xtl(hG:red K G): Xbc G ((rat K 1,zero K):V2 K):=by
 have Sg:=Xap (Xad hG)
 exact⟨Sg.s0 (Xay K G),by show 0<sgn K G (rat K 1);rw[Sg.s1];decide⟩
theorem Xpu(hG:red K G)(hp:p≠vz K): ∀n,vpw G p n≠vz K
 | 0=>Xfe hG (.inr (Xtl hG))
 | n+1=>Xbx hG (Xpu hG hp n) hp
theorem Xn7(hG:red K G): ∀n,vpw G (Xbn p) n=Xbn (vpw G p n)
 | 0=>W2y rfl (by
  have L:=Xay K G
  have:=L.an (zero K)
  rw[L.za] at this
  exact this.symm)
 | n+1=>by
  show Xav G (vpw G (Xbn p) n) (Xbn p)=_
  rw[Xn7 hG n,<-Xti]
  rfl
theorem Xtd(hG:red K G)(hp:p≠vz K): ∀n,vpf G (Xbn p) (P19.vopp G p f) n=P19.vopp G (vpw G p n) (vpf G p f n)
 | 0=>by
  show (0:Int)=P19.vopp G (rat K 1,zero K) 0
  unfold P19.vopp
  rw[if_pos (Xtl hG)]
  rfl
 | n+1=>by
  show Xdb G (vpw G (Xbn p) n) (Xbn p) (vpf G (Xbn p) (P19.vopp G p f) n) (P19.vopp G p f)=_
  rw[Xn7 hG,Xtd hG hp n,Xym hG (Xpu hG hp n) hp]
  rfl
theorem Yba{B:Int}(hB:0<=B)(hf:-B<=f/\f<=B): ∀n:Nat,-(n*B)<=vpf G p f n/\vpf G p f n<=n*(B+1)
 | 0=>by simp[vpf]
 | n+1=>by
  have h:=Yba hB hf n
  have e1:((n+1:Nat):Int)*B=n*B+B:=by rw[show ((n+1:Nat):Int)=(n:Int)+1 from rfl,Int.add_mul,W3j]
  have e2:((n+1:Nat):Int)*(B+1)=n*(B+1)+(B+1):=by rw[show ((n+1:Nat):Int)=(n:Int)+1 from rfl,Int.add_mul,W3j]
  rw[e1,e2]
  show _<=Xdb G (vpw G p n) p (vpf G p f n) f/\Xdb G (vpw G p n) p (vpf G p f n) f<=_
  unfold Xdb
  split<;>omega
theorem Xr6(hG:red K G): Xbc G (Xbn p)↔Xbc G p:=by
 have Sg:=Xap (Xad hG)
 show sgn K G (neg K p.2)=0/\0<sgn K G p.1↔sgn K G p.2=0/\0<sgn K G p.1
 rw[Sg.sn]
 omega
theorem Xtj(hG:red K G)(h:Xbc G p): Xbn p=p:=by
 have L:=Xay K G
 have h2:p.2=zero K:=(Xa9 hG).1 h.1
 refine W2y rfl ?_
 show neg K p.2=p.2
 rw[h2,L.nz]
def Xd0(G:Tw K)(p:V2 K)(f:Int): Int:=max (P19.vopp G p f) (-1000000)
theorem Xmf(hf:lim f): lim (Xd0 G p f)/\min (max (P19.vopp G p f) (-1000000)) 1000000=Xd0 G p f:=by
 unfold lim at hf
 unfold lim Xd0 P19.vopp
 split<;>omega
theorem Xyn(hG:red K G)(hf:lim f)(h:¬(f=0/\Xbc G p)): ¬(Xd0 G p f=0/\Xbc G (Xbn p)):=λ⟨h1,h2⟩=>by
 have h2:=(Xr6 hG).1 h2
 unfold lim at hf
 unfold Xd0 P19.vopp at h1
 rw[if_pos h2] at h1
 exact h ⟨by omega,h2⟩
def vtm(G:Tw K)(p:V2 K)(n:Int): V2 K:=if n<0 then Xbn (vpw G p n.natAbs) else vpw G p n.natAbs
def vtf(G:Tw K)(p:V2 K)(f n:Int): Int:=if n<0 then P19.vopp G (vpw G p n.natAbs) (vpf G p f n.natAbs) else vpf G p f n.natAbs
theorem Ygw(hG:red K G)(hp:p≠vz K)(n:Int): vtm G p n≠vz K:=by
 unfold vtm
 split
 . exact Xgy hG (Xpu hG hp _)
 . exact Xpu hG hp _
def clt(G:Tw K)(a b:El K): Prop:=sgn K G (add K a (neg K b))<0
theorem Xrz(hG:red K G)(h:0<sgn K G (add K a (neg K b))): clt G b a:=by
 have Sg:=Xap (Xad hG)
 have L:=Xay K G
 have e:add K b (neg K a)=neg K (add K a (neg K b)):=(Laws.req L [a,b] (.add (.v 1) (.neg (.v 0))) (.neg (.add (.v 0) (.neg (.v 1)))) (by decide +kernel))
 unfold clt
 rw[e,Sg.sn]
 omega
theorem Xxk(hG:red K G)(h1:clt G a b)(h2:clt G b c): clt G a c:=by
 have Sg:=Xap (Xad hG)
 have L:=Xay K G
 have h:∀ {x y:El K},clt G x y->sgn K G (add K y (neg K x))=1:=λ{x y} hh=>by
  have e:add K y (neg K x)=neg K (add K x (neg K y)):=(Laws.req L [x,y] (.add (.v 1) (.neg (.v 0))) (.neg (.add (.v 0) (.neg (.v 1)))) (by decide +kernel))
  have t:=Sg.tri (add K x (neg K y))
  unfold clt at hh
  rw[e,Sg.sn]
  omega
 have e:add K c (neg K a)=add K (add K c (neg K b)) (add K b (neg K a)):=(Laws.req L [a,b,c] (.add (.v 2) (.neg (.v 0))) (.add (.add (.v 2) (.neg (.v 1))) (.add (.v 1) (.neg (.v 0)))) (by decide +kernel))
 have h3:=Sg.sp _ _ (h h2) (by rw[h h1];decide)
 rw[<-e] at h3
 exact Xrz hG (by rw[h3];decide)
theorem Ykc(hG:red K G)(h:sgn K G (add K a (neg K b))=0): a=b:=by
 have L:=Xay K G
 have h:=(Xa9 hG).1 h
 have e:a=add K (add K a (neg K b)) b:=(Laws.req L [a,b] (.v 0) (.add (.add (.v 0) (.neg (.v 1))) (.v 1)) (by decide +kernel))
 rw[e,h,L.za]
theorem Ykb(h:clt G a b): sgn K G (add K a (neg K b))=-1:=by
 have:=Xcc G (add K a (neg K b))
 unfold clt at h
 omega
end
open Go Go.Num Go.Proofs.YtegepebhkhhhoaaGreatDoor
variable{K:Nat}{G:Tw K}{S:List (El K)}{N:List Nm}{n m b c R:Nat}{p q:V2 K}
def Gp(G:Tw K)(S:List (El K))(N:List Nm)(b:Nat)(p:V2 K): Prop:=∀(m:Nat) (T:Tw m) (ρ:Nat->El K),Fl G S N m T ρ->∃a c:El m,ev G ρ m a=p.1/\ev G ρ m c=p.2/\Sz b (toL m a++toL m c)
theorem Gp.mono(h:Gp G S N b p)(hb:b<=c): Gp G S N c p:=λm T ρ hF=>let ⟨a,c,h1,h2,h3⟩:=h m T ρ hF;⟨a,c,h1,h2,h3.mono hb⟩
theorem Gp.fst(h:Gp G S N b p): Gs G S N b p.1:=λm T ρ hF=>let ⟨a,c,h1,h2,h3⟩:=h m T ρ hF;⟨a,h1,h3.left⟩
theorem Gp.snd(h:Gp G S N b p): Gs G S N b p.2:=λm T ρ hF=>let ⟨a,c,h1,h2,h3⟩:=h m T ρ hF;⟨c,h2,h3.right⟩
theorem Gp.of(h:Gs G S N b p.1)(k:Gs G S N c p.2): Gp G S N (b+c) p:=λm T ρ hF=>by
 obtain⟨x,h1,h2⟩:=h m T ρ hF
 obtain⟨y,k1,k2⟩:=k m T ρ hF
 exact⟨x,y,h1,k1,h2.append k2⟩
theorem Gp.con(h:Gp G S N b p): Gp G S N b (Xbn p):=λm T ρ hF=>by
 obtain⟨x,y,h1,h2,d,d0,d1,d2⟩:=h m T ρ hF
 exact⟨x,Tow.neg m y,h1,by rw[Xeg,h2];rfl,d,d0,d1,by rw[Xcb];exact d2.left.append d2.right.neg⟩
theorem Gp.mul(W:Wy G S R)(h:Gp G S N b p)(k:Gp G S N c q): Gp G S N (b+c+cB R 3+1) (Xav G p q):=λm T ρ hF=>by
 obtain⟨x,y,h1,h2,d,d0,d1,d2⟩:=h m T ρ hF
 obtain⟨u,v,k1,k2,e,e0,e1,e2⟩:=k m T ρ hF
 obtain⟨E,E0,E1,E2⟩:=Xi1 (W.t hF.1)
 have hC:=Xgs (r:=R) (W.le hF.1)
 have P:∀s t:El m,IsD d (2^b) (toL m s)->IsD e (2^c) (toL m t)->IsD (d*e*E) (2^(b+c+cB R 3)) (toL m (Tow.mul m T s t)):=λs t hs ht=>(E2 s t d e _ _ d0 e0 hs ht).mono (by
  rw[<-W0y,<-W0y];exact W0l (by decide) (by omega))
 have A:∀s t:El m,IsD (d*e*E) (2^(b+c+cB R 3)) (toL m s)->IsD (d*e*E) (2^(b+c+cB R 3)) (toL m t)->IsD (d*e*E) (2^(b+c+cB R 3+1)) (toL m (Tow.add m s t)):=λs t hs ht=>by
  rw[Xax]
  exact(hs.add ht).mono (by rw[W0z];omega)
 refine⟨Tow.add m (Tow.mul m T x u) (Tow.neg m (Tow.mul m T y v)),Tow.add m (Tow.mul m T x v) (Tow.mul m T y u),?_,?_,d*e*E,W1m (W1m d0 e0) E0,?_,?_⟩
 . rw[Xc8,Xeg,Xbd hF.1.h,Xbd hF.1.h,h1,h2,k1,k2];rfl
 . rw[Xc8,Xbd hF.1.h,Xbd hF.1.h,h1,h2,k1,k2];rfl
 . have h3:=W3k d1 e1
   have h4:d*e*E<2^b*2^c*2^cB R m:=W0v (W3c h3 E0) (W0t _ E1)
   rw[<-W0y,<-W0y] at h4
   exact W0v h4 (W0l (by decide) (by omega))
 . exact(A _ _ (P _ _ d2.left e2.left) (by rw[Xcb];exact(P _ _ d2.right e2.right).neg)).append (A _ _ (P _ _ d2.left e2.right) (P _ _ d2.right e2.left))
end Go.Tow
namespace Go.Proofs.YtegepebhkhhhoaaGreatDoor
open Go Go.Vm Go.Num Go.Tow
section
variable{K:Nat}{G:Tw K}{S:List (Tow.El K)}{N:List Nm}{n m k:Nat}{u:Vn}{p q:V2 K}
structure Gq {K:Nat} (G:Tw K) (S:List (Tow.El K)) (N:List Nm) (n:Nat) (u:Vn) (p:V2 K):Prop where
 v:Gv G S N n u p
 g:Gp G S N (gB n) p
theorem Gq.mono(h:Gq G S N n u p)(hm:n<=m): Gq G S N m u p:=⟨h.v.mono hm,h.g.mono (Xwl hm)⟩
theorem Gv.re(W:Wn G S N)(h:Gv G S N k u p)(hg:Gp G S N (gB n) p)(hn:1<=n): Gq G S N n u p:=⟨⟨⟨h.x.o.re W.w W.h hg.fst,hg.fst,hn⟩,⟨h.y.o.re W.w W.h hg.snd,hg.snd,hn⟩⟩,hg⟩
theorem Gv.two(W:Wn G S N)(h:Gv G S N n u p): Gq G S N (n+n) u p:=h.re W ((Gp.of h.x.g h.y.g).mono (by unfold gB;omega)) (by have:=h.x.n;omega)
theorem Gq.mul(W:Wn G S N){s w:Vn}(h:Gq G S N n u p)(h2:Gq G S N m s q)(hw:Gv G S N k w (Xav G p q)): Gq G S N (n+m) w (Xav G p q):=by
 have h1:=h.v.x.n
 have h3:=h2.v.x.n
 exact hw.re W ((Gp.mul W.w h.g h2.g).mono (by rw[wC];unfold gB;omega)) (by omega)
end
end Go.Proofs.YtegepebhkhhhoaaGreatDoor
namespace Go.Proofs.YtegepebhkhhhoaaGreatDoor.R20
open Go Go.Vm Go.Num Go.Tow Go.Proofs.YtegepebhkhhhoaaGreatDoor Go.Proofs.YtegepebhkhhhoaaGreatDoor.P20
structure SV (K:Nat) where
 s:Sn
 a:Tow.El K
 p:V2 K
structure SM {K:Nat} (G:Tw K) (S:List (Tow.El K)) (N:List Nm) (U:Nat) (x:SV K):Prop where
 c:Gd G S N 9 x.s.c x.a
 pos:0<sgn K G x.a
 v:Gq G S N U x.s.v x.p
 ne:x.p≠vz K
 lim:lim x.s.f
structure SN {K:Nat} (G:Tw K) (S:List (Tow.El K)) (N:List Nm) (U:Nat) (x:SV K):Prop extends SM G S N U x where
 nz:¬(x.s.f=0/\Xbc G x.p)
abbrev ls{K:Nat}(L:List (SV K)): List Sn:=L.map (·.s)
structure NF {K:Nat} (G:Tw K) (S:List (Tow.El K)) (N:List Nm) (U:Nat) (L:List (SV K)):Prop where
 m:∀x∈L,SN G S N U x
 o:L.Pairwise λx y=>clt G x.a y.a
section
variable{K:Nat}{G:Tw K}{S:List (Tow.El K)}{N:List Nm}{U:Nat}
theorem SM.mono{U':Nat}{x:SV K}(h:SM G S N U x)(hu:U<=U'): SM G S N U' x:=⟨h.c,h.pos,h.v.mono hu,h.ne,h.lim⟩
theorem SN.mono{U':Nat}{x:SV K}(h:SN G S N U x)(hu:U<=U'): SN G S N U' x:=⟨h.toSM.mono hu,h.nz⟩
theorem NF.mono{U':Nat}{L:List (SV K)}(h:NF G S N U L)(hu:U<=U'): NF G S N U' L:=⟨λx hx=>(h.m x hx).mono hu,h.o⟩
theorem NF.nil: NF G S N U ([]:List (SV K)):=⟨nofun,.nil⟩
theorem NF.app{A m:List (SV K)}(hA:NF G S N U A)(hm:NF G S N U m)(h:∀z∈A,∀y∈m,clt G z.a y.a): NF G S N U (A++m) :=
 ⟨λx hx=>(W1v.1 hx).elim (hA.m x) (hm.m x),List.pairwise_append.2 ⟨hA.o,hm.o,h⟩⟩
theorem NF.cons{x:SV K}{m:List (SV K)}(hx:SN G S N U x)(hm:NF G S N U m)(h:∀y∈m,clt G x.a y.a): NF G S N U (x::m) :=
 ⟨λy hy=>by
  rcases W1n.1 hy with rfl | hy
  . exact hx
  . exact hm.m y hy,List.pairwise_cons.2 ⟨h,hm.o⟩⟩
theorem NF.take{L:List (SV K)}(h:NF G S N U L)(k:Nat): NF G S N U (L.take k):=⟨λx hx=>h.m x (W5i hx),h.o.sublist (List.take_sublist _ _)⟩
theorem NF.drop{L:List (SV K)}(h:NF G S N U L)(k:Nat): NF G S N U (L.drop k):=⟨λx hx=>h.m x (W4g hx),h.o.sublist (List.drop_sublist _ _)⟩
theorem NF.cut{L:List (SV K)}(h:NF G S N U L)(k:Nat): ∀z∈L.take k,∀y∈L.drop k,clt G z.a y.a:=by
 have:=h.o
 rw[<-W5a k L] at this
 exact(List.pairwise_append.1 this).2.2
theorem Xce(L:List (SV K)): ((ls L).map dSe).length=L.length:=by simp
theorem Xlq{L:List (SV K)}{k:Nat}{x:SV K}(h:L[k]?=some x): ((ls L).map dSe)[k]?=some (dSe x.s):=by simp[h]
def PtN(G:Tw K)(S:List (Tow.El K))(N:List Nm)(U n:Nat)(r:AV): Prop:=(∃e:Int,e≠0/\r=.tup (.pr (.d (dSs [])) (.d (.int .i64 e))))\/∃L,r=.tup (.pr (.d (dSs (ls L))) (.d (.int .i64 0)))/\L.length<=n/\NF G S N U L
theorem Ymj(W:Wn G S N){L:List (SV K)}{x:SV K}(hU:U<=40)(hL:NF G S N U L)(h3:L.length<=8)(hx:SN G S N 4 x): C0 71 [.d (dSs (ls L)),.d (dSe x.s)] (PtN G S N (U+4) (L.length+1)):=by
 have hG:=W.w.g
 have lm:=Xce L
 refine En Tryz.func71 λ_ _ _=>?_
 refine Cu (some 1000000) (λk:Nat=>[(0,.d (dSs (ls L))),(3,.ptr 3 0),(6,.d (.int .i64 k))]) (λ_=>[(3,.var (.d (dSe x.s)))]) (λk=>k<=L.length/\(∀y∈L.take k,clt G y.a x.a)/\∀y,L[k]?=some y->¬clt G y.a x.a) rfl ?_ λk ⟨hk,hlt,hge⟩=>?_
 . refine Lo (λk:Nat=>[(0,.d (dSs (ls L))),(3,.ptr 3 0),(6,.d (.int .i64 k))]) (λ_=>[(3,.var (.d (dSe x.s)))]) (λk=>k<=L.length/\∀y∈L.take k,clt G y.a x.a) (λk=>L.length-k) 0 [] rfl ⟨W0w _,nofun⟩ λk ⟨hk,hlt⟩=>?_
   refine Dw rfl ?_
   refine By rfl (λh=>?_) λh=>?_<;>rw[lm] at h
   . obtain⟨y,hy⟩:∃y,L[k]?=some y:=⟨_,W0c (by omega)⟩
     refine Ix k rfl (Xlq hy) ?_
     refine Ce rfl (compare_g W (hL.m y (W0h hy)).c hx.c (by decide) (by decide)) ?_
     refine By rfl (λh2=>?_) λh2=>?_
     . refine Ar (k+1:Nat) rfl ?_
       refine Bk (k+1) [] rfl ⟨by omega,λz hz=>?_⟩ (by show L.length-(k+1)<L.length-k;omega)
       rw[W1p,hy] at hz
       rcases W1v.1 hz with hz | hz
       . exact hlt z hz
       . obtain rfl:=W0i.1 hz
         exact h2
     . exact Jn k [] rfl ⟨hk,hlt,λz hz=>by rw[hy] at hz;cases hz;exact h2⟩
   . exact Jn k [] rfl ⟨hk,hlt,λz hz=>absurd (W0m.1 hz).1 (by omega)⟩
 refine Dp k ((ls (L.drop k)).map dSe) rfl rfl (by rw[lm];exact hk) (by simp) ?_
 refine Cu (some 5) (λc:Bool=>[(0,.d (dSs (ls L))),(3,.ptr 3 0),(6,.d (.int .i64 k)),(7,.d (dSs (ls (L.drop k)))),(43,.b c)]) (λ_=>[(3,.var (.d (dSe x.s)))]) (λc=>(c=true->∃y,L[k]?=some y/\y.a=x.a)/\(¬c=true->∀y,L[k]?=some y->clt G x.a y.a)) rfl ?_ λc ⟨hc1,hc2⟩=>?_
 . refine Dw rfl ?_
   refine By rfl (λh=>?_) λh=>?_<;>rw[Xce,W1j] at h
   . obtain⟨y,hy⟩:∃y,L[k]?=some y:=⟨_,W0c (by omega)⟩
     have hy0:(L.drop k)[0]?=some y:=by rw[W1q];exact hy
     refine Ix 0 rfl (Xlq hy0) ?_
     refine Ce rfl (compare_g W (hL.m y (W0h hy)).c hx.c (by decide) (by decide)) ?_
     have hn:=hge y hy
     refine Jn _ [] rfl ⟨λe=>⟨y,hy,?_⟩,λe z hz=>?_⟩
     . have e:sgn K G (Tow.add K y.a (Tow.neg K x.a))=0:=Xaj.1 e
       exact Ykc hG e
     . rw[hy] at hz;cases hz
       have e:¬sgn K G (Tow.add K y.a (Tow.neg K x.a))=0:=λh=>e (Xaj.2 h)
       refine Xrz hG ?_
       unfold clt at hn
       omega
   . exact Jn false [] rfl ⟨nofun,λ_ z hz=>absurd (W0m.1 hz).1 (by omega)⟩
 have hcut:=hL.cut k
 refine Cu none (λ(y,m)=>[(0,.d (dSs (ls L))),(3,.ptr 3 0),(6,.d (.int .i64 k)),(7,.d (dSs (ls m)))]) (λ((y,m):SV K×List (SV K))=>[(3,.var (.d (dSe y.s)))]) (λ(y,m)=>SM G S N (U+4) y/\y.a=x.a/\m.length+k<=L.length/\NF G S N U m/\(∀z∈m,clt G x.a z.a)/\∀z∈L.take k,∀w∈m,clt G z.a w.a) rfl ?_ λ(y,m) ⟨hy,hya,hml,hm,hxm,hzm⟩=>?_
 . refine By rfl (λh=>?_) λh=>?_
   . obtain⟨y,hy,hya⟩:=hc1 h
     have hk1:=(W0m.1 hy).1
     have hy0:(L.drop k)[0]?=some y:=by rw[W1q];exact hy
     have hyS:=hL.m y (W0h hy)
     refine Dw rfl ?_
     refine Ix 0 rfl (Xlq hy0) ?_
     refine Ca rfl (R19.Add_g W hyS.v.v hx.v.v (by omega) hyS.lim.few hx.lim.few) λr hr=>?_
     rcases hr with ⟨hl',w,rfl,hw⟩ | ⟨_,rfl⟩
     . refine No rfl (by decide) ?_
       refine Dw rfl ?_
       refine Dp 1 ((ls (L.drop (k+1))).map dSe) rfl rfl (by rw[Xce,W1j];omega) (by simp) ?_
       have hd:L.drop k=y::L.drop (k+1):=by rw[<-List.getElem_cons_drop hk1,(W0m.1 hy).2]
       have hD:=hL.drop k
       rw[hd] at hD
       exact Jn (⟨⟨x.s.c,w,Xdb G y.p x.p y.s.f x.s.f⟩,x.a,Xav G y.p x.p⟩,L.drop (k+1)) [] rfl ⟨⟨hx.c,hx.pos,hyS.v.mul W hx.v hw,Xbx hG hyS.ne hx.ne,hl'⟩,rfl,by rw[W1j];omega,hL.drop (k+1),λz hz=>by rw[<-hya];exact(List.pairwise_cons.1 hD.o).1 z hz,λz hz w hw=>hcut z hz w (by rw[hd];exact W1c _ hw)⟩
     . refine Yes rfl (by decide) ?_
       exact Rt rfl (.tup (.cons (.nil rfl) Xa2)) (.inl ⟨3,by decide,rfl⟩)
   . refine Jn (x,L.drop k) [] rfl ⟨hx.toSM.mono (by omega),rfl,by rw[W1j];omega,hL.drop k,λz hz=>?_,hcut⟩
     obtain⟨y,hy⟩:∃y,L[k]?=some y:=by
      cases h:L[k]? with
      | some y=>exact⟨y,rfl⟩
      | none=>rw[W1z (List.getElem?_eq_none_iff.1 h)] at hz;cases hz
     have h1:=hc2 h y hy
     have hk1:=(W0m.1 hy).1
     have hd:L.drop k=y::L.drop (k+1):=by rw[<-List.getElem_cons_drop hk1,(W0m.1 hy).2]
     have hD:=hL.drop k
     rw[hd] at hD hz
     rcases W1n.1 hz with rfl | hz
     . exact h1
     . exact Xxk hG h1 ((List.pairwise_cons.1 hD.o).1 z hz)
 refine Cu (some 10) (λo=>[(3,.ptr 3 0),(7,.d (dSs (ls m))),(10,ptV o)]) (λo=>(3,.var (.d (dSe y.s)))::ptH o) (λo=>ptW o=ls (L.take k)/\(o=none↔k=0)) rfl ?_ λo ⟨ho,ho0⟩=>?_
 . refine Tk k ((ls (L.take k)).map dSe) rfl rfl (by rw[lm];exact hk) (by simp) ?_
   by_cases h0:k=0
   . subst h0
     refine Yk4 rfl rfl (by decide) ?_
     exact Jn none [] rfl ⟨rfl,λ_=>rfl,λ_=>rfl⟩
   . refine Yc6 ((ls (L.take k)).map dSe) rfl rfl (by rw[Xce,W0g];omega) (by rw[Xce,W0g];omega) ?_
     exact Jn (some (ls (L.take k))) [(65,600)] rfl ⟨rfl,nofun,λh=>absurd h h0⟩
 have F:∀ {o sz:Nat} {xs ys:List D} {g:Hp},g o=some (.arr sz xs)->xs=ys->Fit g [] (.own o sz 0 xs.length) (.d (.sl sz ys)):=λh e=>.own h (by omega) (by subst e;rw[W1d,W2i])
 have hT:=(hL.take k).mono (show U<=U+4 by omega)
 have hM:=hm.mono (show U<=U+4 by omega)
 have hxy:∀z∈m,clt G y.a z.a:=λz hz=>by rw[hya];exact hxm z hz
 have hTy:∀z∈L.take k,clt G z.a y.a:=λz hz=>by rw[hya];exact hlt z hz
 have tl:(L.take k).length=k:=by rw[W0g];omega
 have fin1:∀h:¬(y.s.f=0/\Xbc G y.p),NF G S N (U+4) (L.take k++y::m):=λh=>hT.app (hM.cons ⟨hy,h⟩ hxy) λz hz w hw=>by
  rcases W1n.1 hw with rfl | hw
  . exact hTy z hz
  . exact hzm z hz w hw
 have fin2:NF G S N (U+4) (L.take k++m):=hT.app hM hzm
 rcases o with _ | w
 . have ho:k=0:=ho0.1 rfl
   subst ho
   refine Ce rfl (Zero_g W hy.v.v (by omega)) ?_
   refine By rfl (λh=>?_) λh=>?_
   . have h:¬(y.s.f=0/\Xbc G y.p):=by simpa only [Xaq,Xaj] using h
     refine Yc6 [dSe y.s] rfl rfl (W5o _) (W1i rfl) ?_
     refine Yc5 ((ls (y::m)).map dSe) rfl rfl rfl rfl (by rw[Xce,W0u];omega) ?_
     exact Rt rfl (.tup (.cons (F rfl rfl) Xa2)) (.inr ⟨y::m,rfl,by rw[W0u];omega,fin1 h⟩)
   . rcases m with _ | ⟨z,m⟩
     . refine Yk4 rfl rfl (by decide) ?_
       exact Rt rfl (.tup (.cons (.lit rfl) Xa2)) (.inr ⟨[],rfl,W0w _,NF.nil⟩)
     . refine Yc6 ((ls (z::m)).map dSe) rfl rfl (W5o _) (by rw[Xce];omega) ?_
       exact Rt rfl (.tup (.cons (F rfl rfl) Xa2)) (.inr ⟨z::m,rfl,by omega,fin2⟩)
 . have ho:w=ls (L.take k):=ho
   subst ho
   refine Ce rfl (Zero_g W hy.v.v (by omega)) ?_
   refine By rfl (λh=>?_) λh=>?_
   . have h:¬(y.s.f=0/\Xbc G y.p):=by simpa only [Xaq,Xaj] using h
     refine Yc5 ((ls (L.take k++[y])).map dSe) rfl rfl rfl (by simp) (by rw[Xce,W0d,tl];show k+1<=_;omega) ?_
     refine Yc5 ((ls (L.take k++[y]++m)).map dSe) rfl rfl rfl (by simp) (by rw[Xce,W0d,W0d,tl];show k+1+m.length<=_;omega) ?_
     exact Rt rfl (.tup (.cons (F rfl rfl) Xa2)) (.inr ⟨L.take k++[y]++m,rfl,by rw[W0d,W0d,tl];show k+1+m.length<=_;omega,by rw[W4v];exact fin1 h⟩)
   . refine Yc5 ((ls (L.take k++m)).map dSe) rfl rfl rfl (by simp) (by rw[Xce,W0d,tl];omega) ?_
     exact Rt rfl (.tup (.cons (F rfl rfl) Xa2)) (.inr ⟨L.take k++m,rfl,by rw[W0d,tl];omega,fin2⟩)
def AdN(G:Tw K)(S:List (Tow.El K))(N:List Nm)(U n m:Nat)(a:Tow.El K)(r:AV): Prop:=(∃e:Int,e≠0/\r=.tup (.pr (.d dA0) (.d (.int .i64 e))))\/∃z L,r=.tup (.pr (.d (dAr z (ls L))) (.d (.int .i64 0)))/\Gd G S N m z a/\L.length<=n/\NF G S N U L
variable{n m:Nat}{x y z:Nm}{a b:Tow.El K}
theorem Yk7(W:Wn G S N){l:List (SV K)}(hx:Gd G S N n x a)(hy:Gd G S N m y b)(hn:n<=190)(hm:m<=190)(hl:NF G S N U l): C0 25 [.d (dAr x (ls l)),.d (dAr y [])] (AdN G S N U l.length (n+m) (Tow.add K a b)):=by
 refine En Tryz.func25 λ_ _ _=>?_
 refine Ca rfl (R9.Add_g W hx hy (by omega) (by omega)) λv hv=>?_
 obtain⟨z,rfl,hz⟩:=hv
 refine Lo (λ_:Unit=>[(3,.ptr 3 0),(4,.ptr 4 0),(7,.d (.int .i64 0)),(8,.ptr 8 0),(9,.d (.int .i64 0))]) (λ_=>[(3,.var (.d (dAr y []))),(4,.var zA),(8,.var (.d (dAr z (ls l))))]) (λ_=>True) (λ_=>0) () [] rfl trivial (λ_ _=>?_)
 refine No rfl (show ¬(0:Int)<((0:Nat):Int) by decide) ?_
 refine No rfl (by decide) ?_
 exact Rt rfl (.tup (.cons (.rf rfl) Xa2)) (.inr ⟨z,l,rfl,hz,W0b _,hl⟩)
theorem Yk5(W:Wn G S N){l:List (SV K)}{s:SV K}(hU:U<=40)(hx:Gd G S N n x a)(hy:Gd G S N m y b)(hn:n<=190)(hm:m<=190)(hl:NF G S N U l)(h3:l.length<=8)(hs:SN G S N 4 s): C0 25 [.d (dAr x (ls l)),.d (dAr y [s.s])] (AdN G S N (U+4) (l.length+1) (n+m) (Tow.add K a b)):=by
 refine En Tryz.func25 λ_ _ _=>?_
 refine Ca rfl (R9.Add_g W hx hy (by omega) (by omega)) λv hv=>?_
 obtain⟨z,rfl,hz⟩:=hv
 refine Lo (λ((k,L,e):Nat×List (SV K)×Int)=>[(3,.ptr 3 0),(4,.ptr 4 0),(7,.d (.int .i64 e)),(8,.ptr 8 0),(9,.d (.int .i64 k))]) (λ((k,L,e):Nat×List (SV K)×Int)=>[(3,.var (.d (dAr y [s.s]))),(4,.var zA),(8,.var (.d (dAr z (ls L))))]) (λ(k,L,e)=>k<=1/\(k=0->L=l/\e=0)/\(k=1->e=0->L.length<=l.length+1/\NF G S N (U+4) L)) (λ(k,_,_)=>1-k) (0,l,0) [] rfl ⟨W0w _,λ_=>⟨rfl,rfl⟩,nofun⟩ (λ(k,L,e) ⟨hk,h0,h1⟩=>?_)
 rcases(show k=0\/k=1 by omega) with rfl | rfl
 . obtain⟨rfl,rfl⟩:=h0 rfl
   refine Yes rfl (show ((0:Nat):Int)<((1:Nat):Int) by decide) ?_
   refine Yes rfl (by decide) ?_
   refine Dw rfl ?_
   refine Ix 0 rfl (u:=dSe s.s) rfl ?_
   refine Ca rfl (Ymj W hU hl h3 hs) λr hr=>?_
   rcases hr with ⟨e,he,rfl⟩ | ⟨L,rfl,k1,k2⟩
   . refine Ar (0+1:Nat) rfl ?_
     exact Bk (0+1,[],e) [] rfl ⟨W0b 1,nofun,λ_ h=>absurd h he⟩ (show 1-(0+1)<1-0 from W6x)
   . refine Ar (0+1:Nat) rfl ?_
     exact Bk (0+1,L,0) [] rfl ⟨W0b 1,nofun,λ_ _=>⟨k1,k2⟩⟩ (show 1-(0+1)<1-0 from W6x)
 . refine No rfl (show ¬((1:Nat):Int)<((1:Nat):Int) by decide) ?_
   refine By rfl (λh=>?_) λh=>?_
   . exact Rt rfl (.tup (.cons Xne Xa2)) (.inl ⟨e,h,rfl⟩)
   . have he:e=0:=W3a.1 h
     subst he
     exact Rt rfl (.tup (.cons (.rf rfl) Xa2)) (.inr ⟨z,L,rfl,hz,h1 rfl rfl⟩)
theorem Ye6(W:Wn G S N){u s w:Vn}{p q:V2 K}{k:Nat}(h:Gq G S N n u p)(h2:Gq G S N m s q)(hw:Gv G S N k w (Xav G (Xbn p) q)): Gq G S N (n+m) w (Xav G (Xbn p) q):=by
 have h1:=h.v.x.n
 have h3:=h2.v.x.n
 exact hw.re W ((Gp.mul W.w h.g.con h2.g).mono (by rw[wC];unfold gB;omega)) (by omega)
theorem Xzz(hG:red K G)(h:0<sgn K G a): 0<sgn K G (Tow.mul K G a (Tow.rat K hf2)):=by
 rw[(Xap (Xad hG)).sm,Xfk (Xad hG),Xck (by decide +kernel)]
 omega
theorem Yfc{d:V2 K}(hG:red K G)(h:¬sgn K G (Xgu G d d)=0): 0<sgn K G (Xgu G d d):=by
 have Sg:=Xap (Xad hG)
 have h1:∀x:Tow.El K,0<=sgn K G (Tow.mul K G x x):=λx=>by rw[Sg.sm];exact(Xdo (Sg.tri x)).1
 have:=Sg.sa _ _ (h1 d.1) (h1 d.2)
 have:0<=sgn K G (Xgu G d d):=this
 omega
end
def aoN{K:Nat}: Option (Nm×List (SV K))->D
 | none=>dA0
 | some (z,L)=>dAr z (ls L)
def BuN(r:AV): Prop:=(∃(a b:List D) (L:List Sn) (l:List Vn),r=.tup (.pr (.d (dAa a b L)) (.pr (.d (dVs l)) (.b false))))\/∃(K:Nat) (G:Tw K) (S:List (Tow.El K)) (N:List Nm) (_:Ww G S N) (x:Nm) (a:Tow.El K) (L:List (SV K)) (l:List Vn),r=.tup (.pr (.d (dAr x (ls L))) (.pr (.d (dVs l)) (.b true)))/\Gd G S N 140 x a/\L.length<=4/\NF G S N 16 L
theorem BuN.c{r:AV}(h:BuN r): (∃(a b:List D) (L:List Sn) (l:List Vn) (c:Bool),r=.tup (.pr (.d (dAa a b L)) (.pr (.d (dVs l)) (.b c)))/\¬c=true)\/∃(K:Nat) (G:Tw K) (S:List (Tow.El K)) (N:List Nm) (_:Ww G S N) (x:Nm) (a:Tow.El K) (L:List (SV K)) (l:List Vn) (c:Bool),r=.tup (.pr (.d (dAr x (ls L))) (.pr (.d (dVs l)) (.b c)))/\c=true/\Gd G S N 140 x a/\L.length<=4/\NF G S N 16 L:=by
 rcases h with ⟨a,b,L,l,e⟩ | ⟨K,G,S,N,W,x,a,L,l,e,h⟩
 . exact .inl ⟨a,b,L,l,false,e,nofun⟩
 . exact .inr ⟨K,G,S,N,W,x,a,L,l,true,e,rfl,h⟩
theorem Build_n{ops:List RO}{at':List (Fin 256)}{ts:List Int}(ht:ts.length<9223372036854775808)(hz:∀z∈ts,-9223372036854775808<=z/\z<9223372036854775808): C0 5 [.d (dCb ops at' ts),.d (.int .i64 1)] BuN:=by
 have no:BuN (.tup (.pr (.d dA0) (.pr (.d (dVs [])) (.b false)))):=.inl ⟨[],[],[],[],rfl⟩
 have tl:(ts.map λz=>(D.int .i64 z:D)).length=ts.length:=W0j ..
 have R0n:∀ {g:Hp},FitR g [] (.tup (.pr (.st (.pr (.st (.pr .nil .nil)) .nil)) (.pr .nil (.b false)))) (.tup (.pr (.d dA0) (.pr (.d (dVs [])) (.b false)))):=.tup (.cons Xne (.cons (.nil rfl) Xlx))
 refine En Tryz.func5 λ_ _ _=>?_
 refine Ca rfl (Xx6 (n:=1)) λv hv=>?_
 obtain⟨l,c',rfl,hl24,hc⟩:=hv
 have lm:(l.map dV).length=l.length:=W0j ..
 refine By rfl (λh=>?_) λh=>?_
 . exact Rt rfl R0n no
 have h:c'=true:=by simpa using h
 obtain⟨h1,K,G,S,N,W,hm⟩:=hc h
 refine By rfl (λh=>?_) λh=>?_
 . exact Rt rfl R0n no
 rw[lm] at h
 have h8:l.length<=8:=by omega
 refine By rfl (λh=>?_) λh=>?_
 . exact Rt rfl R0n no
 rw[tl] at h
 have h4:ts.length<=4:=by omega
 have H:∀i:Nat,∃p:V2 K,∀v,l[i]?=some v->Gv G S N 1 v p:=λi=>by
  cases hv:l[i]? with
  | none=>exact⟨vz K,nofun⟩
  | some v =>
   obtain⟨p,hp⟩:=W.gv (hm v (W0h hv))
   exact⟨p,λv' e=>by cases e;exact hp⟩
 obtain⟨g,hg⟩:=W6b H
 refine Lo (λi:Nat=>[(2,.ptr 2 0),(4,.ptr 4 0),(7,.d (dVs l)),(9,.d (.int .i64 i))]) (λ_=>[(2,.var (.d (dCb ops at' ts))),(4,.var zA)]) (λi=>i<=l.length) (λi=>l.length-i) 0 [] rfl (W0w _) (λi hi=>?_)
 refine By rfl (λh=>?_) λh=>?_<;>rw[lm] at h
 . obtain⟨x,hx⟩:∃x,l[i]?=some x:=⟨_,W0c (by omega)⟩
   refine Ix i rfl (mp hx) ?_
   refine By rfl (λh2=>?_) λh2=>?_
   . exact Rt rfl R0n no
   refine Ix i rfl (mp hx) ?_
   refine By rfl (λh2=>?_) λh2=>?_
   . exact Rt rfl R0n no
   refine Ar (i+1:Nat) rfl ?_
   exact Bk (i+1) [] rfl (by omega) (by show l.length-(i+1)<l.length-i;omega)
 refine Ca rfl (Xjl W.w hg (by omega) h8 ⟨by decide,by decide⟩) λr hr=>?_
 obtain⟨z0,rfl,hz0⟩:=hr
 refine Cu (some 1000002) (λ(o,e)=>[(4,.ptr 4 0),(7,.d (dVs l)),(10,.ptr 10 0),(11,.d (.int .i64 e))]) (λ((o,e):Option (Nm×List (SV K))×Int)=>[(4,.var zA),(10,.var (.d (aoN o)))]) (λ(o,e)=>e=0->∃z L a,o=some (z,L)/\Gd G S N 140 z a/\L.length<=4/\NF G S N 16 L) rfl ?_ λ(o,e) ho=>?_
 . refine Lo (λ((k,o,e):Nat×Option (Nm×List (SV K))×Int)=>[(2,.ptr 2 0),(4,.ptr 4 0),(7,.d (dVs l)),(10,.ptr 10 0),(11,.d (.int .i64 e)),(12,.d (.int .i64 k))]) (λ(k,o,e)=>[(2,.var (.d (dCb ops at' ts))),(4,.var zA),(10,.var (.d (aoN o)))]) (λ(k,o,e)=>k<=ts.length/\(e=0->∃z L a,o=some (z,L)/\Gd G S N (130+k) z a/\L.length<=k/\NF G S N (4*k) L)) (λ(k,_,_)=>ts.length-k) (0,some (z0,[]),0) [] rfl ⟨W0w _,λ_=>⟨z0,[],_,rfl,hz0,W0b _,NF.nil⟩⟩ (λ(k,o,e) ⟨hk,hI⟩=>?_)
   have hk:k<=ts.length:=hk
   refine By rfl (λh=>?_) λh=>?_<;>rw[tl] at h
   rotate_left
   . exact Jn (o,e) [] rfl (λh=>let ⟨z,L,a,h1,h2,h3,h4⟩:=hI h;⟨z,L,a,h1,h2.mono (by omega),by omega,h4.mono (by omega)⟩)
   refine Ar (k+1:Nat) rfl ?_
   refine By rfl (λh5=>?_) λh5=>?_<;>rw[lm] at h5
   rotate_left
   . exact Jn (o,e) [] rfl (λh=>let ⟨z,L,a,h1,h2,h3,h4⟩:=hI h;⟨z,L,a,h1,h2.mono (by omega),by omega,h4.mono (by omega)⟩)
   refine By rfl (λh6=>?_) λh6=>?_
   rotate_left
   . exact Jn (o,e) [] rfl (λh=>let ⟨z,L,a,h1,h2,h3,h4⟩:=hI h;⟨z,L,a,h1,h2.mono (by omega),by omega,h4.mono (by omega)⟩)
   have h6:e=0:=h6
   subst h6
   obtain⟨z,L,a,rfl,hzz,hL,hs⟩:=hI rfl
   have hU:4*k<=40:=by omega
   have next:(some (z,L):Option (Nm×List (SV K)))=some (z,L)/\Gd G S N (130+(k+1)) z a/\L.length<=k+1/\NF G S N (4*(k+1)) L:=⟨rfl,hzz.mono (by omega),by omega,hs.mono (by omega)⟩
   have dec:ts.length-(k+1)<ts.length-k:=by omega
   obtain⟨w,hw⟩:∃w,ts[k]?=some w:=⟨_,W0c (by omega)⟩
   obtain⟨x,hx⟩:∃x,l[k]?=some x:=⟨_,W0c (by omega)⟩
   obtain⟨y,hy⟩:∃y,l[k+1]?=some y:=⟨_,W0c (by omega)⟩
   refine Ix k rfl (Ydj hw) ?_
   refine By rfl (λh7=>?_) λh7=>?_
   . exact Rt rfl R0n no
   refine Ix k rfl (Ydj hw) ?_
   refine By rfl (λh8=>?_) λh8=>?_
   . exact Rt rfl R0n no
   refine Dw rfl ?_
   refine Ix k rfl (mp hx) ?_
   refine Ar (k+1:Nat) rfl ?_
   refine Ix (k+1) rfl (mp hy) ?_
   refine Ca rfl (Yo2 W.w (hg k x hx) (hg (k+1) y hy) (by decide)) λv hv=>?_
   rcases hv with ⟨n1,d,rfl,hd⟩ | ⟨_,rfl⟩
   . refine Dw rfl ?_
     refine Ix k rfl (mp hx) ?_
     refine Ar (k+1:Nat) rfl ?_
     refine Ix (k+1) rfl (mp hy) ?_
     refine Cn [(1000001,115)] rfl (R15.Far_g W.w (hg k x hx) (hg (k+1) y hy) (by decide)) λv hv=>?_
     obtain⟨f,rfl,hf⟩:=hv
     refine No rfl (by decide) ?_
     refine No rfl (by decide) ?_
     refine Ce rfl (R9.Sign_g W.w hf (by decide)) ?_
     refine By rfl (λh9=>?_) λh9=>?_
     . refine Ar (k+1:Nat) rfl ?_
       exact Bk (k+1,some (z,L),0) [] rfl ⟨by omega,λ_=>⟨z,L,a,next⟩⟩ dec
     refine Ix k rfl (Ydj hw) ?_
     refine Dw rfl ?_
     refine Ca rfl (Xmc (f:=w) W.w W.w hf hd (by decide) (by decide)) λr hr=>?_
     rcases hr with ⟨_,rfl⟩ | ⟨hnz,q,rfl,hq⟩
     . refine Ca rfl (Yk7 W.w hzz (Yip W.w) (by omega) (by decide) hs) λr hr=>?_
       rcases hr with ⟨e,he,rfl⟩ | ⟨z',L',rfl,hz',hL',hs'⟩
       . refine Ar (k+1:Nat) rfl ?_
         exact Bk (k+1,none,e) [] rfl ⟨by omega,λh=>absurd h he⟩ dec
       . refine Ar (k+1:Nat) rfl ?_
         exact Bk (k+1,some (z',L'),0) [] rfl ⟨by omega,λ_=>⟨z',L',_,rfl,hz',by omega,hs'.mono (by omega)⟩⟩ dec
     . have hx2:=(hg k x hx).two W.w
       have hy2:=(hg (k+1) y hy).two W.w
       have hp0:g k≠vz K:=λe=>n1 (.inl e)
       have hq0:g (k+1)≠vz K:=λe=>n1 (.inr e)
       have hs4:SN G S N 4 (⟨⟨q,d,w⟩,Tow.mul K G (Xgu G (Ygh (g k) (g (k+1))) (Ygh (g k) (g (k+1)))) (Tow.rat K hf2),Xav G (Xbn (g k)) (g (k+1))⟩:SV K) :=
        ⟨⟨hq.mono (by decide),Xzz W.w.w.g (Yfc W.w.w.g h9),Ye6 W.w hx2 hy2 hd,Xbx W.w.w.g (Xgy W.w.w.g hp0) hq0,by show lim w;unfold lim;omega⟩,hnz⟩
       refine Ca rfl (Yk5 W.w hU hzz (Yip W.w) (by omega) (by decide) hs (by omega) hs4) λr hr=>?_
       rcases hr with ⟨e,he,rfl⟩ | ⟨z',L',rfl,hz',hL',hs'⟩
       . refine Ar (k+1:Nat) rfl ?_
         exact Bk (k+1,none,e) [] rfl ⟨by omega,λh=>absurd h he⟩ dec
       . refine Ar (k+1:Nat) rfl ?_
         exact Bk (k+1,some (z',L'),0) [] rfl ⟨by omega,λ_=>⟨z',L',_,rfl,hz',by omega,hs'⟩⟩ dec
   . refine Dw rfl ?_
     refine Ix k rfl (mp hx) ?_
     refine Ar (k+1:Nat) rfl ?_
     refine Ix (k+1) rfl (mp hy) ?_
     refine Cn [(1000001,115)] rfl (R15.Far_g W.w (hg k x hx) (hg (k+1) y hy) (by decide)) λv hv=>?_
     obtain⟨f,rfl,hf⟩:=hv
     refine Yes rfl (by decide) ?_
     refine Ar (k+1:Nat) rfl ?_
     exact Bk (k+1,some (z,L),0) [] rfl ⟨by omega,λ_=>⟨z,L,a,next⟩⟩ dec
 by_cases he:e=0
 . subst he
   obtain⟨z,L,a,rfl,h5,h6,h7⟩:=ho rfl
   exact Rt rfl (.tup (.cons (.rf rfl) (.cons (.rf rfl) Xlx))) (.inr ⟨K,G,S,N,W,z,a,L,l,by rw[Xaj.2 rfl],h5,h6,h7⟩)
 . rcases o with _ | ⟨z,L⟩
   . exact Rt rfl (.tup (.cons (.rf rfl) (.cons (.rf rfl) Xlx))) (.inl ⟨[],[],[],l,by rw[P11.dcF he];rfl⟩)
   . exact Rt rfl (.tup (.cons (.rf rfl) (.cons (.rf rfl) Xlx))) (.inl ⟨_,_,ls L,l,by rw[P11.dcF he];rfl⟩)
end Go.Proofs.YtegepebhkhhhoaaGreatDoor.R20

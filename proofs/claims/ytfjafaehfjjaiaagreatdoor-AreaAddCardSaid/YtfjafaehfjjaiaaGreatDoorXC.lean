/- part 3 -/
import Derived.Test.YtfjafaehfjjaiaaGreatDoorXB
import Derived.RangeFuncBox
import Derived.RangeFuncLeaves
import Derived.Shelf.Abstract
import Derived.WalkKit
import Derived.OwnWalkIn
import Derived.TacticsInMore
import Derived.LoopNIn
import Derived.LoopIn
set_option linter.unusedVariables false
set_option linter.unusedSimpArgs false
set_option maxRecDepth 10000
namespace Go.Vm
open Go
section
section
variable{c:Cx}{s:St}
noncomputable def nxT(tb:Nat->Option TI)(n:Nat)(id:Option Nat)(s:St): Option (List (Nat×Bool)×Code×List Kt×Env×Hpl):=match (match id with
 | some id=>runT tb n id 1000 s
 | none=>runN tb n 1000 s) with
 | .j G (.c x::K) E H=>some (G,x,K,E,H)
 | _=>none
def AtJ{α:Type}(E':α->Env)(H':α->Hpl)(I:α->Prop)(s:S): Prop:=∃x,s=sem (E' x) (H' x)/\I x
theorem Cu{α:Type}(id:Option Nat)(E':α->Env)(H':α->Hpl)(I:α->Prop){G:List (Nat×Bool)}{x:Code}{K:List Kt}{E:Env}{H:Hpl}(h:nxT c.tb c.n id s=some (G,x,K,E,H))
 (O:StP c (.j G (.c x::.l (AtJ E' H' I)::K) E H)) (Q:∀y,I y->StP c (.j [] K (E' y) (H' y))):StP c s:=by
 have i:StP c (.j G (.c x::K) E H):=J.cut (AtJ E' H' I) O (λs hs=>by obtain⟨y,rfl,T⟩:=hs;exact Q y T)
 unfold nxT at h
 cases id with
 | none =>
  simp only at h
  split at h<;>cases h
  rename_i o
  exact go 1000 o i
 | some id =>
  simp only at h
  split at h<;>cases h
  rename_i o
  exact Xgy 1000 (by rw[o];exact i)
theorem Jn{α:Type}{E':α->Env}{H':α->Hpl}{I:α->Prop}{K:List Kt}{E:Env}{H:Hpl}(x:α)(r:List (Nat×Nat))(h:nxB c.tb c.n s=some (AtJ E' H' I,K,E,H))(i:I x)(hf:Ymd r E (E' x) H (H' x):=by exact⟨rfl,rfl,rfl,rfl,rfl⟩): StP c s:=by
 unfold nxB at h
 split at h<;>cases h
 rename_i j
 exact go 1000 j (Ynt hf (J.at' ⟨x,rfl,i⟩))
end
end
section
def Xof(θ:Loc)(H0:Hpl)(b:Nat): Prop:=∃o x,look H0 o=some x/\x.live=true/\(θ o).1=some b
def okH(H0 H':Hpl): Bool:=(H0.all λx=>Xcj H' x.1)&&H'.all λx=>Xcj H0 x.1||Nat.beq x.1 1000000
def Ymb(W0:GW)(θ0:Loc)(H0:Hpl)(Post:AV->Hpl->Prop)(e:Ending)(j:World): Prop :=
 ∃W' h v u H',e=.returned u/\W'.w=j/\Fm W0 W' (Xof θ0 H0)/\Obs W' h (λb=>W0.size<=b\/Xof θ0 H0 b) (look H')/\AV.V W' h v u/\(∀i,v.ids i->∃y,look H' i=some y)/\(∀i y,look H0 i=some y->h i=θ0 i)/\okH H0 H'=true/\Post v H'
def CW(P:Program)[Gb P](f:FuncId)(args:List AV)(H0:Hpl)(Post:AV->Hpl->Prop): Prop:=Yol P f/\∀W θ h,Gb.g P W->Obs W θ (λ_=>True) (look H0)->Xjg W θ args h->Calls P f h.toArray W.w (Ymb W θ H0 Post)
theorem Yl1{α:Type _}{H:List (Nat×α)}{i:Nat}: Xcj H i=true↔∃y,look H i=some y:=by
 unfold Xcj;split
 . rename_i y h;simp[h]
 . rename_i h;simp[h]
theorem Xbk{α:Type _}{H:List (Nat×α)}{i:Nat}(h:Xcj H i=false): look H i=none:=by
 unfold Xcj at h;split at h<;>first | assumption | cases h
theorem Xxx{W:GW}{θ:Loc}: ∀ {asx:List AV} {vs:List Value} {i t:Nat} {v:AV},Xjg W θ asx vs->Yat i asx t=some v->i<=t/\∃u,vs[t-i]?=some u/\AV.V W θ v u
 | [],[],i,t,v,_,h=>by simp[Yat] at h
 | a::asx,u::vs,i,t,v,ha,h=>by
  rcases Xaf h with ⟨o,j⟩ | ⟨o,j⟩
  . subst o;subst j;exact⟨W0a _,u,by simp,ha.1⟩
  . obtain⟨Q,w,I,O⟩:=Xxx ha.2 j
    exact⟨by omega,w,by rw[show t-i=(t-(i+1))+1 by omega];simpa using I,O⟩
 | [],_::_,_,_,_,h,_=>h.elim
 | _::_,[],_,_,_,h,_=>h.elim
abbrev cxW(P:Program)(gb:Gb P)(t:Tab P)(m:Mx P)(i:∀T ti,t.tb T=some ti->∀a c,ti.z≠.pr a c)(n:Nat)(j:n<=1000000)(fn:Func)(W:GW)(θ:Loc)(H0:Hpl)(Post:AV->Hpl->Prop)(o:gb.g W): Cx:=⟨P,gb,t.tb,λT ti h=>⟨t.ok T ti h,i T ti h⟩,m,n,j,W,Xof θ H0,θ,bodyPost P fn (Ymb W θ H0 Post),o⟩
class WkW (c:Cx) (fn:outParam Func) (H0:outParam Hpl) (Post:outParam (AV->Hpl->Prop)):Prop where
 x:c.X=Xof c.θ0 H0
 f:c.fin=bodyPost c.P fn (Ymb c.W0 c.θ0 H0 Post)
instance {P gb t m h n i fn W θ H0 Post j}:WkW (cxW P gb t m h n i fn W θ H0 Post j) fn H0 Post:=⟨rfl,rfl⟩
theorem EnW {P : Program} [gb : Gb P] [t : Tab P] [hp : Npr P] [m : Mx P] {f n : Nat} {fn : Func} {x : Code} {args : List AV} {H0 : Hpl} {Post : AV → Hpl → Prop} (hf : P.funcs[f]? = some fn) (h : ∀ W θ hg hn, StP (cxW P gb t m hp.h n hn fn W θ H0 Post hg) (.j [] [.c x] (Yg1 0 args) H0)) (hname : (fn.name == "runtime.NumGoroutine") = false := by exact rfl) (hb : fn.body = some x := by exact rfl)
 (hN:fn.ntmps=n:=by exact rfl) (hl:(Nat.ble args.length n&&Nat.ble n 1000000&&Xnm (Yg1 0 args) H0)=true:=by exact rfl):CW P f args H0 Post:=by
 refine⟨⟨fn,hf,hname,by rw[hb];rfl⟩,λW θ vs hg hO ha=>calls_of_wp hf hb ?_⟩
 simp only[W0g] at hl
 obtain⟨⟨hl1,hl2⟩,hl3⟩:=hl
 have hl1:=W1g hl1
 have hlen:=ha.len
 have hc:=Xnl hl3
 have h1:J _ _ (sem _ _):=h W θ hg (W1g hl2)
 refine wp_mono (h1 _ W.w ⟨_,W,θ,rfl,⟨Fm.refl W _,⟨rfl,by simp[hN];omega,λt v ht=>?_⟩,⟨hO.r,λo x b h1 h2 h3=>.inr ⟨o,x,h1,h2,h3⟩,hO.dis,hO.ids⟩,hc.1⟩,λ_ _=>rfl,rfl⟩) λe a w h=>by cases e<;>exact h
 have ht:Yat 0 args t=some v:=by rw[Xl2];exact ht
 obtain⟨_,u,h2,h3⟩:=Xxx ha ht
 rw[W6b] at h2
 have hlt:=Xba h2
 rw[W0e hlt] at h2
 injection h2 with h2
 simp only[Array.getD]
 rw[dif_pos (by simp;omega)]
 simp[W7a,hlt,h2]
 exact h3
section
variable{c:Cx}{s:St}{p:Pl}
theorem Yd9{W0:GW}{X:Nat->Prop}{n:Nat}{E:Env}{H:Hpl}{a:Act}{W:GW}{θ:Loc}{o T:Nat}(Q:look H T=none)(hs:Sat W0 X n (sem E H) a W θ): Sat W0 X n (sem (Yea o T E) (Xuk o T H)) a W (rnθ o T θ):=by
 have O:∀ {i y},look H i=some y->i≠T:=λh e=>by rw[e,Q] at h;cases h
 have hni:∀ {v:AV},(∀i,v.ids i->∃y,look H i=some y)->¬v.ids T:=λh hi=>by obtain⟨y,hy⟩:=h T hi;rw[Q] at hy;cases hy
 refine⟨hs.fm,⟨hs.rel.defers,hs.rel.size,λt v ht=>?_⟩,⟨λi x Z=>?_,λi x b Z hl hb=>?_,λi j x x' b Z hx' hl hl' I h2=>?_,λi x q Z hq=>?_⟩,λt v i ht hi=>?_⟩
 . obtain⟨u,I,rfl⟩:=Xep ht
   exact Yig (hni λi hi=>hs.ids t u i I hi) (hs.rel.has t u I)
 . obtain⟨j,y,I,rfl,rfl⟩:=Xbr Q Z
   exact Ycd (O I) (λhi=>by obtain⟨z,V⟩:=hs.obs.ids j y T I hi;have V:look H T=some z:=V;rw[Q] at V;cases V) (hs.obs.r j y I)
 . obtain⟨j,y,I,rfl,rfl⟩:=Xbr Q Z
   rw[Xa4 (O I)] at hb
   exact hs.obs.new j y b I (by cases y<;>first | rfl | cases hl) hb
 . obtain⟨q,y,k1,rfl,rfl⟩:=Xbr Q Z
   obtain⟨q',y',k1',rfl,rfl⟩:=Xbr Q hx'
   rw[Xa4 (O k1)] at I
   rw[Xa4 (O k1')] at h2
   rw[hs.obs.dis q q' y y' b k1 k1' (by cases y<;>first | rfl | cases hl) (by cases y'<;>first | rfl | cases hl') I h2]
 . obtain⟨j,y,I,rfl,rfl⟩:=Xbr Q Z
   cases y with
   | var a =>
    obtain⟨r,h2,rfl⟩:=Xla (a:=a) hq
    obtain⟨z,V⟩:=hs.obs.ids j _ r I h2
    exact Xc5 Q V
   | _=>exact hq.elim
 . obtain⟨u,I,rfl⟩:=Xep ht
   obtain⟨r,h2,rfl⟩:=Xla hi
   obtain⟨z,V⟩:=hs.ids t u r I h2
   exact Xc5 Q V
def okN: List (Nat×Nat)->Hpl->Bool
 | [],_=>true
 | (o,h)::r,H=>!Xcj H h&&okN r (Xuk o h H)
theorem Yb2{W0:GW}{X:Nat->Prop}{n:Nat}{a:Act}{W:GW}: ∀ {r:List (Nat×Nat)} {E:Env} {H:Hpl} {θ:Loc},okN r H=true->Sat W0 X n (sem E H) a W θ->∃θ',Sat W0 X n (sem (rnE r E) (rnH r H)) a W θ'/\∀i,Xcj (r.map λx=>(x.2,x.1)) i=false->θ' i=θ i
 | [],E,H,θ,_,hs=>⟨θ,hs,λ_ _=>rfl⟩
 | (o,I)::r,E,H,θ,h,hs=>by
  simp only[okN,W0g,W1x] at h
  obtain⟨θ',O,Q⟩:=Yb2 h.2 (Yd9 (Xbk h.1) hs)
  refine⟨θ',O,λi hi=>?_⟩
  have j:Nat.beq i I=false/\Xcj (r.map λx=>(x.2,x.1)) i=false:=by
   simp only[Xcj,W4m,look] at hi |-
   cases e:Nat.beq i I with
   | true=>rw[e] at hi;cases hi
   | false=>rw[e] at hi;exact⟨rfl,hi⟩
  rw[Q i j.2]
  unfold rnθ
  rw[if_neg λe=>by rw[e] at j;simp at j]
noncomputable def nxW(tb:Nat->Option TI)(n:Nat)(r:List (Nat×Nat))(h:List ResultVar)(s:St): Option (AV×Hpl):=match runN tb n 1000 s with
 | .j _ (.c .ret::_) E H=>match Xx9 tb (sem (rnE r E) (rnH r H)) h with
  | some v=>some (v,H)
  | none=>none
 | .j _ [] E H=>match Xx9 tb (sem (rnE r E) (rnH r H)) h with
  | some v=>some (v,H)
  | none=>none
 | _=>none
theorem Xrf{fn:Func}{H0 H':Hpl}{Post:AV->Hpl->Prop}(hX:c.X=Xof c.θ0 H0){E:Env}{H:Hpl}{r:List (Nat×Nat)}{v v':AV}(hr:Xx9 c.tb (sem (rnE r E) (rnH r H)) fn.results.toList=some v)(hf:FitR (look (rnH r H)) H' v v')(hq:Post v' H')
 (hH:Xs1 (rnH r H) H') (hk:(okN r H&&okH H0 H'&&(H0.all λx=>Nat.ble 1000000 x.1 && !Xcj (r.map λx=>(x.2,x.1)) x.1)&&H'.all λx=>Xiz H' x.2)=true) {a:Act} {w:World} (h:c.Nx (λs'=>s'=sem E H) a w) :
 a.defers=[]/\∃u,(results fn a.tmps).run c.P w=.ok u w/\Ymb c.W0 c.θ0 H0 Post (.returned u) w:=by
 obtain⟨s',W,θ,rfl,hs,hθ,rfl⟩:=h
 simp only[W0g] at hk
 obtain⟨⟨⟨k1,k2⟩,k3⟩,k4⟩:=hk
 obtain⟨V,T,hθ'⟩:=Yb2 k1 hs
 obtain⟨u,hu,hv⟩:=Xqk c.hT T hr
 have I:=T.fm
 have j:=T.obs
 refine⟨T.rel.defers,u,hu,?_⟩
 have O:∀ {o x},look H' o=some x->look (rnH r H) o=some x:=λh=>Xk1 hH h
 let W':GW:=⟨W.w,λb i=>W.A b i/\((b<c.W0.size/\¬c.X b)\/∃o x,look H' o=some x/\x.live=true/\(V o).1=some b),λb i h=>W.hA b i h.1⟩
 have Z:LeF W W':=λb i x Q=>⟨Q.1,λhA=>Q.2 hA.1⟩
 have E:Exi W W' (λb=>c.W0.size<=b\/c.X b) V (look (rnH r H)) H':=⟨j,Z,λo x b ho hl hb hk i y hy=>⟨hy,λhA=>by
  rcases hA.2 with ⟨h1,h2⟩ | ⟨o2,x2,h1,h2,h3⟩
  . exact(j.new o x b ho hl hb).elim (λh=>absurd h1 (W5w.2 h)) h2
  . have:=j.dis o o2 x x2 b ho (O h1) hl h2 hb h3
    subst this
    rw[Xbk hk] at h1;cases h1⟩⟩
 obtain⟨f1,f2⟩:=Yfj E hf hv
 refine⟨W',V,v',u,H',rfl,rfl,?_,?_,f1,f2,λi y hi=>?_,k2,hq⟩
 . rw[<-hX]
   exact⟨I.os,I.out,I.tape,I.size,I.same,λb hb Q i=>⟨λh=>(I.A b hb Q i).1 h.1,λh=>⟨(I.A b hb Q i).2 h,.inl ⟨hb,Q⟩⟩⟩,I.le.trans Z⟩
 . rw[<-hX]
   refine⟨λo x Q=>(j.r o x (O Q)).keep Z rfl (λ_ _=>rfl) λhl b hb=>⟨rfl,λi hA=>⟨hA,.inr ⟨o,x,Q,hl,hb⟩⟩⟩,λo x b Q=>j.new o x b (O Q),λo o' x x' b Q hx'=>j.dis o o' x x' b (O Q) (O hx'),λo x i Q hi=>?_⟩
   have:=W1o.1 k4 _ (Xbf Q)
   cases x with
   | var a=>exact Xge (a:=a) this i hi
   | _=>exact hi.elim
 . have:=W1o.1 k3 _ (Xbf hi)
   simp only[W0g,W1x] at this
   rw[hθ' i this.2]
   exact hθ i (W1g this.1)
theorem Rw{fn:Func}{H0:Hpl}{Post:AV->Hpl->Prop}[w:WkW c fn H0 Post](r:List (Nat×Nat))(H':Hpl){v o:AV}{H:Hpl}(h:nxW c.tb c.n r fn.results.toList s=some (v,H))(hf:FitR (look (rnH r H)) H' v o)(hq:Post o H')
 (I:Xs1 (rnH r H) H':=by exact rfl) (O:(okN r H&&okH H0 H'&&(H0.all λx=>Nat.ble 1000000 x.1 && !Xcj (r.map λx=>(x.2,x.1)) x.1)&&H'.all λx=>Xiz H' x.2)=true:=by exact rfl):StP c s:=by
 unfold nxW at h
 split at h<;>try cases h
 . rename_i i
   split at h<;>cases h
   rename_i j
   exact go 1000 i (J.ret λa Q h=>by rw[w.f];exact Xrf w.x j hf hq I O h)
 . rename_i i
   split at h<;>cases h
   rename_i j
   exact go 1000 i (λa Q h=>by show c.fin .normal a Q;rw[w.f];exact Xrf w.x j hf hq I O h)
end
def AV.rnf(ρ:Nat->Nat): AV->AV
 | .st a=>.st (a.rnf ρ)
 | .pr a c=>.pr (a.rnf ρ) (c.rnf ρ)
 | .tup a=>.tup (a.rnf ρ)
 | .fm f a=>.fm f (a.rnf ρ)
 | .ptr i f=>.ptr (ρ i) f
 | .own i sz l n=>.own (ρ i) sz l n
 | .ow3 i sz l n=>.ow3 (ρ i) sz l n
 | .gr i sz xs=>.gr (ρ i) sz xs
 | .el i sz j f=>.el (ρ i) sz j f
 | .fn f i=>.fn f (ρ i)
 | .ap i n=>.ap (ρ i) n
 | .cx i l n=>.cx (ρ i) l n
 | a=>a
def Ob.rnf(ρ:Nat->Nat): Ob->Ob
 | .var a=>.var (a.rnf ρ)
 | x=>x
def rnL: List (Nat×Nat)->Nat->Nat
 | [],i=>i
 | (o,h)::r,i=>match Nat.beq i o with
  | true=>h
  | false=>rnL r i
def rfH(ρ:Nat->Nat)(H:Hpl): Hpl:=H.map λx=>(ρ x.1,x.2.rnf ρ)
theorem Yic{W:GW}{θ:Loc}{ρ:Nat->Nat}: ∀ {a:AV} {cs:List Value},AV.C W θ (a.rnf ρ) cs↔AV.C W (λi=>θ (ρ i)) a cs:=by
 intro a
 induction a with
 | st a h=>exact h
 | pr a c j o=>intro cs;simp only[AV.rnf,AV.C,j,o]
 | fm f a h=>intro cs;simp only[AV.rnf,AV.C,h]
 | _=>intro cs;exact W4d
theorem Yib{ρ:Nat->Nat}(a:AV): (a.rnf ρ).ag=a.ag:=by cases a<;>rfl
theorem Xui{W:GW}{θ:Loc}{ρ:Nat->Nat}{a:AV}{v:Value}: AV.V1 W θ (a.rnf ρ) v↔AV.V1 W (λi=>θ (ρ i)) a v:=by
 unfold AV.V1;simp only[Yic,Yib]
theorem Ymy{W:GW}{θ:Loc}{ρ:Nat->Nat}: ∀ {a:AV} {vs:List Value},AV.T W θ (a.rnf ρ) vs↔AV.T W (λi=>θ (ρ i)) a vs:=by
 intro a
 induction a with
 | pr a c _ j =>
  intro vs
  match vs with
  | v::vs=>simp only[AV.rnf,AV.T,Xui,j]
  | []=>exact W4d
 | un =>
  intro vs
  match vs with
  | []=>exact W4d
  | [v]=>exact⟨λ⟨_,h,_⟩=>h.elim,λ⟨_,h,_⟩=>h.elim⟩
  | _::_::_=>exact W4d
 | _ =>
  intro vs
  match vs with
  | []=>exact W4d
  | [v]=>exact Xui
  | _::_::_=>exact W4d
theorem Yp7{W:GW}{θ:Loc}{ρ:Nat->Nat}{a:AV}{v:Value}: AV.V W θ (a.rnf ρ) v↔AV.V W (λi=>θ (ρ i)) a v:=by
 cases a with
 | tup a=>simp only[AV.rnf,AV.V,Ymy]
 | un=>exact W4d
 | _=>exact Xui
theorem Ymx{ρ:Nat->Nat}{i:Nat}: ∀ {a:AV},(a.rnf ρ).ids i↔∃j,a.ids j/\i=ρ j:=by
 intro a
 induction a with
 | st a Q=>exact Q
 | tup a Q=>exact Q
 | fm f a Q=>exact Q
 | pr a c T V =>
  simp only[AV.rnf,AV.ids,T,V]
  exact⟨λh=>h.elim (λ⟨j,O,I⟩=>⟨j,.inl O,I⟩) λ⟨j,O,I⟩=>⟨j,.inr O,I⟩,λ⟨j,O,I⟩=>O.elim (λh=>.inl ⟨j,h,I⟩) λh=>.inr ⟨j,h,I⟩⟩
 | ptr o f=>exact⟨λh=>⟨o,rfl,h⟩,λ⟨j,O,I⟩=>by rw[show j=o from O] at I;exact I⟩
 | own o _ _ _=>exact⟨λh=>⟨o,rfl,h⟩,λ⟨j,O,I⟩=>by rw[show j=o from O] at I;exact I⟩
 | ow3 o _ _ _=>exact⟨λh=>⟨o,rfl,h⟩,λ⟨j,O,I⟩=>by rw[show j=o from O] at I;exact I⟩
 | gr o _ _=>exact⟨λh=>⟨o,rfl,h⟩,λ⟨j,O,I⟩=>by rw[show j=o from O] at I;exact I⟩
 | el o _ _ _=>exact⟨λh=>⟨o,rfl,h⟩,λ⟨j,O,I⟩=>by rw[show j=o from O] at I;exact I⟩
 | fn _ o=>exact⟨λh=>⟨o,rfl,h⟩,λ⟨j,O,I⟩=>by rw[show j=o from O] at I;exact I⟩
 | ap o _=>exact⟨λh=>⟨o,rfl,h⟩,λ⟨j,O,I⟩=>by rw[show j=o from O] at I;exact I⟩
 | cx o _ _=>exact⟨λh=>⟨o,rfl,h⟩,λ⟨j,O,I⟩=>by rw[show j=o from O] at I;exact I⟩
 | _=>exact⟨λh=>h.elim,λ⟨j,h,_⟩=>h.elim⟩
theorem Yp8{W:GW}{θ:Loc}{ρ:Nat->Nat}{o:Nat}{x:Ob}: (x.rnf ρ).R W θ (ρ o)↔x.R W (λi=>θ (ρ i)) o:=by
 cases x with
 | var a=>simp only[Ob.rnf,Ob.R,Yic]
 | _=>exact W4d
theorem Xd1{ρ:Nat->Nat}(x:Ob): (x.rnf ρ).live=x.live:=by cases x<;>rfl
theorem Xq3{ρ:Nat->Nat}: ∀ {H:Hpl} {j:Nat} {x:Ob},(∀a b,Xcj H a=true->Xcj H b=true->ρ a=ρ b->a=b)->look (rfH ρ H) j=some x->∃i y,look H i=some y/\j=ρ i/\x=y.rnf ρ
 | [],_,_,_,h=>by simp[rfH,look] at h
 | (s,w)::H,j,x,hi,h=>by
  simp only[rfH,W4m,look] at h
  split at h
  . rename_i hb
    injection h with h
    exact⟨s,w,by simp[look],W0d hb,h.symm⟩
  . rename_i hb
    have o:∀a,Xcj H a=true->Xcj ((s,w)::H) a=true:=λa ha=>by
     simp only[Xcj,look] at ha |-
     cases Nat.beq a s<;>first | exact ha | rfl
    obtain⟨i,y,O,I,Q⟩:=Xq3 (λa b ha hb=>hi a b (o a ha) (o b hb)) h
    refine⟨i,y,?_,I,Q⟩
    have:i≠s:=λe=>by subst e;rw[I] at hb;simp at hb
    simp only[look,Yci this];exact O
theorem Xc4{ρ:Nat->Nat}: ∀ {H:Hpl} {i:Nat} {y:Ob},look H i=some y->∃x,look (rfH ρ H) (ρ i)=some x
 | [],_,_,h=>by simp[look] at h
 | (s,w)::H,i,y,h=>by
  simp only[rfH,W4m,look]
  by_cases e:i=s
  . subst e;exact⟨w.rnf ρ,by simp⟩
  . simp only[look,Yci e] at h
    obtain⟨x,j⟩:=Xc4 h
    split
    . exact⟨_,rfl⟩
    . exact⟨x,j⟩
theorem Xdk{g:Hp}: ∀ {l:List (Nat×Ob)} {o:Nat},Xbg g l o=match look l o with | some x=>some x | none=>g o
 | [],_=>rfl
 | (h,x)::l,o=>by
  simp only[Xbg,upd,look]
  cases Nat.beq o h with
  | true=>rfl
  | false=>exact Xdk
theorem Xqi{W:GW}{θ:Loc}{ρ:Nat->Nat}: ∀ {args:List AV} {vs:List Value},Xjg W θ (args.map (AV.rnf ρ)) vs->Xjg W (λi=>θ (ρ i)) args vs
 | [],[],_=>trivial
 | [],_::_,h=>h.elim
 | _::_,[],h=>h.elim
 | _::_,_::_,h=>⟨Yp7.1 h.1,Xqi h.2⟩
theorem CW.cs{P:Program}[Gb P]{f:FuncId}{args:List AV}{H0:Hpl}{Post:AV->Hpl->Prop}(h:CW P f args H0 Post)(r:List (Nat×Nat))(d:Nat){g:Hp}(hd:d<1000000)(hgd:g d=none)(hH:∀o x,look H0 o=some x->g (rnL r o)=some (x.rnf (rnL r)))(h0:Xcj H0 1000000=false)
 (hinj:∀a b,Xcj H0 a=true->Xcj H0 b=true->rnL r a=rnL r b->a=b) (hids:∀a∈args,Xdh H0 a=true) (hcl:(H0.all λx=>Xiz H0 x.2)=true) :
 CS P f (args.map (AV.rnf (rnL r))) g λv g'=>∃v0 H',okH H0 H'=true/\Post v0 H'/\v=v0.rnf (rnL ((1000000,d)::r))/\g'=Xbg g (rfH (rnL ((1000000,d)::r)) H'):=by
 refine⟨h.1,λN W θ vs hg hO hN _ ha=>?_⟩
 have hl:∀ {o x},look H0 o=some x->g (rnL r o)=some (x.rnf (rnL r)):=λh=>hH _ _ h
 have hO0:Obs W (λi=>θ (rnL r i)) (λ_=>True) (look H0):=by
  refine⟨λo x O=>Yp8.1 (hO.r _ _ (hl O)),λ_ _ _ _ _ _=>trivial,λo o' x x' b O hx' k k' b1 b2=>?_,λo x i O hi=>?_⟩
  . exact hinj o o' (Yl1.2 ⟨x,O⟩) (Yl1.2 ⟨x',hx'⟩) (hO.dis _ _ _ _ b (hl O) (hl hx') (by rw[Xd1];exact k) (by rw[Xd1];exact k') b1 b2)
  . have:=W1o.1 hcl _ (Xbf O)
    cases x with
    | var a=>exact Xge (a:=a) this i hi
    | _=>exact hi.elim
 have ha0:Xjg W (λi=>θ (rnL r i)) args vs:=Xqi ha
 refine(h.2 W _ vs hg hO0 ha0).mono ?_
 rintro e w' ⟨W',θ',v,u,H',rfl,rfl,hf,hob,hv,hvi,hθ,hok,hp⟩
 have hok':=hok
 simp only[okH,W0g] at hok
 obtain⟨ok1,ok2⟩:=hok
 have hX:∀b,Xof (λi=>θ (rnL r i)) H0 b->b<W.size/\N b/\∃o x y,look H0 o=some y/\g (rnL r o)=some x/\x.live=true/\(θ (rnL r o)).1=some b:=by
  rintro b ⟨o,x,Q,h2,h3⟩
  have I:(x.rnf (rnL r)).live=true:=by rw[Xd1];exact h2
  exact⟨hO.lt (hl Q) I h3,hO.new _ _ b (hl Q) I h3,o,_,x,Q,hl Q,I,h3⟩
 have hnd:∀ {i},Xcj H0 i=true->rnL ((1000000,d)::r) i=rnL r i:=by
  intro i hi
  have:i≠1000000:=λe=>by rw[e,h0] at hi;cases hi
  simp only[rnL,Yci this]
 have hdn:rnL ((1000000,d)::r) 1000000=d:=by simp[rnL]
 have hcase:∀ {i},Xcj H' i=true->Xcj H0 i=true\/i=1000000:=by
  intro i hi
  obtain⟨y,T⟩:=Yl1.1 hi
  have:=W1o.1 ok2 _ (Xbf T)
  rw[W3t] at this
  exact this.imp id W0d
 have hgo:∀ {i},Xcj H0 i=true->∃x,g (rnL r i)=some x:=λhi=>by obtain⟨y,T⟩:=Yl1.1 hi;exact⟨_,hl T⟩
 have hne:∀ {i},Xcj H0 i=true->rnL r i≠d:=λhi e=>by obtain⟨x,O⟩:=hgo hi;rw[e,hgd] at O;cases O
 have hinj':∀a b,Xcj H' a=true->Xcj H' b=true->rnL ((1000000,d)::r) a=rnL ((1000000,d)::r) b->a=b:=by
  intro a b ha hb hab
  rcases hcase ha with Q | Q<;>rcases hcase hb with h2 | h2
  . rw[hnd Q,hnd h2] at hab;exact hinj a b Q h2 hab
  . rw[hnd Q,h2,hdn] at hab;exact absurd hab (hne Q)
  . rw[hnd h2,Q,hdn] at hab;exact absurd hab.symm (hne h2)
  . rw[Q,h2]
 let θ2:Loc:=λi=>if i=d then θ' 1000000 else θ i
 have hθ2:∀ {i},Xcj H' i=true->θ2 (rnL ((1000000,d)::r) i)=θ' i:=by
  intro i hi
  rcases hcase hi with Q | Q
  . rw[hnd Q]
    obtain⟨y,T⟩:=Yl1.1 Q
    show (if _ then _ else _)=_
    rw[if_neg (hne Q)]
    exact(hθ i y T).symm
  . rw[Q,hdn];exact if_pos rfl
 have V:∀ {o x},g o=some x->θ2 o=θ o:=λho=>if_neg λe=>by rw[e,hgd] at ho;cases ho
 have hR':∀ {i y},look H' i=some y->(y.rnf (rnL ((1000000,d)::r))).R W' θ2 (rnL ((1000000,d)::r) i):=by
  intro i y T
  refine Yp8.2 ((hob.r i y T).keep (LeF.refl W') (hθ2 (Yl1.2 ⟨y,T⟩)) (λj hj=>?_) λ_ _ _=>⟨rfl,λ_ h=>h⟩)
  obtain⟨z,hz⟩:=hob.ids i y j T hj
  exact hθ2 (Yl1.2 ⟨z,hz⟩)
 have Z:∀ {o x},Xbg g (rfH (rnL ((1000000,d)::r)) H') o=some x->(∃i y,look H' i=some y/\o=rnL ((1000000,d)::r) i/\x=y.rnf (rnL ((1000000,d)::r))) \/
  (g o=some x/\∀b,x.live=true->(θ o).1=some b->b<W.size/\¬Xof (λi=>θ (rnL r i)) H0 b):=by
  intro o x O
  rw[Xdk] at O
  split at O
  . rename_i y T
    injection O with O;subst O
    exact .inl (Xq3 hinj' T)
  . rename_i hn
    refine .inr ⟨O,λb I hb=>⟨hO.lt O I hb,λhXb=>?_⟩⟩
    obtain⟨_,_,o1,x1,y1,Q,h2,h3,h4⟩:=hX b hXb
    have:=hO.dis o _ x x1 b O h2 I h3 hb h4
    have hk:Xcj H' o1=true:=by
     have:=W1o.1 ok1 _ (Xbf Q);exact this
    obtain⟨z,hz⟩:=Yl1.1 hk
    obtain⟨q,hq⟩:=Xc4 (ρ:=rnL ((1000000,d)::r)) hz
    rw[hnd (Yl1.2 ⟨_,Q⟩),<-this,hn] at hq
    cases hq
 have hblk:∀ {i y b},look H' i=some y->y.live=true->(θ2 (rnL ((1000000,d)::r) i)).1=some b->(W.size<=b\/Xof (λi=>θ (rnL r i)) H0 b):=by
  intro i y b T I hb
  rw[hθ2 (Yl1.2 ⟨y,T⟩)] at hb
  exact hob.new i y b T I hb
 refine⟨W',θ2,v.rnf (rnL ((1000000,d)::r)),u,_,rfl,rfl,?_,?_,λi hi=>?_,v,H',hok',hp,rfl,rfl⟩
 . exact {
    os:=hf.os,out:=hf.out,tape:=hf.tape,size:=hf.size
    same:=λb hb hN=>hf.same b hb λO=>hN (hX b O).2.1
    A:=λb hb hN=>hf.A b hb λO=>hN (hX b O).2.1
    le:=hf.le
    th:=λi y T=>V T
    hi:=λi hi=>if_neg (by omega)
    obs:={
     r:=λo x O=>by
      rcases Z O with ⟨i,y,T,rfl,rfl⟩ | ⟨ho,hb⟩
      . exact hR' T
      . refine(hO.r o x ho).keep hf.le (V ho) (λi hi=>?_) λI b Q=>?_
        . obtain⟨z,hz⟩:=hO.ids o x i ho hi
          exact V hz
        . obtain⟨b1,b2⟩:=hb b I Q
          exact⟨hf.same b b1 b2,λi hA=>(hf.A b b1 b2 i).2 hA⟩
     new:=λo x b O I hb=>by
      rcases Z O with ⟨i,y,T,rfl,rfl⟩ | ⟨ho,_⟩
      . exact(hblk T (by rw[Xd1] at I;exact I) hb).elim (hN b) λh=>(hX b h).2.1
      . rw[V ho] at hb;exact hO.new o x b ho I hb
     dis:=λo o' x x' b O hx' I hlv' hb hb'=>by
      rcases Z O with ⟨i,y,T,rfl,rfl⟩ | ⟨ho,Q⟩<;>rcases Z hx' with ⟨i',y',hy',rfl,rfl⟩ | ⟨ho',h1'⟩
      . rw[Xd1] at I hlv'
        rw[hθ2 (Yl1.2 ⟨y,T⟩)] at hb
        rw[hθ2 (Yl1.2 ⟨y',hy'⟩)] at hb'
        rw[hob.dis i i' y y' b T hy' I hlv' hb hb']
      . rw[Xd1] at I
        rw[V ho'] at hb'
        obtain⟨b1,b2⟩:=h1' b hlv' hb'
        exact((hblk T I hb).elim (λh=>absurd b1 (W5w.2 h)) b2).elim
      . rw[Xd1] at hlv'
        rw[V ho] at hb
        obtain⟨b1,b2⟩:=Q b I hb
        exact((hblk hy' hlv' hb').elim (λh=>absurd b1 (W5w.2 h)) b2).elim
      . rw[V ho] at hb;rw[V ho'] at hb'
        exact hO.dis o o' x x' b ho ho' I hlv' hb hb'
     ids:=λo x i O hi=>by
      have fin:∀ {j},Xcj H' j=true->∃z,Xbg g (rfH (rnL ((1000000,d)::r)) H') (rnL ((1000000,d)::r) j)=some z:=λhj=>by
       obtain⟨z,hz⟩:=Yl1.1 hj
       obtain⟨q,hq⟩:=Xc4 (ρ:=rnL ((1000000,d)::r)) hz
       rw[Xdk,hq];exact⟨q,rfl⟩
      rcases Z O with ⟨i',y,T,rfl,rfl⟩ | ⟨ho,_⟩
      . cases y with
        | var a =>
         obtain⟨j,Q,rfl⟩:=Ymx.1 hi
         obtain⟨z,hz⟩:=hob.ids i' _ j T Q
         exact fin (Yl1.2 ⟨z,hz⟩)
        | _=>exact hi.elim
      . obtain⟨z,hz⟩:=hO.ids o x i ho hi
        rw[Xdk]
        split
        . exact⟨_,rfl⟩
        . exact⟨z,hz⟩ }
    dom:=λi y T=>by
     rw[Xdk]
     split
     . exact⟨_,rfl⟩
     . exact⟨y,T⟩ }
 . refine Yp7.2 (hv.mono (LeF.refl W') λi hi=>?_)
   obtain⟨z,hz⟩:=hvi i hi
   exact hθ2 (Yl1.2 ⟨z,hz⟩)
 . obtain⟨j,Q,rfl⟩:=Ymx.1 hi
   obtain⟨z,hz⟩:=hvi j Q
   obtain⟨q,hq⟩:=Xc4 (ρ:=rnL ((1000000,d)::r)) hz
   rw[Xdk,hq];exact⟨q,rfl⟩
end
section
noncomputable def nxK(tb:Nat->Option TI)(n:Nat)(s:St): Option (Pl×FuncId×List AV):=match nxO tb n s with
 | some (p,o)=>match o.op with
  | .call ⟨.value x,asx,h⟩=>match callee (look p.E) x,getEs (look p.E) asx.toList with
   | some (f,ex),some i=>some (p,f,Xjl tb h.toList i++ex)
   | _,_=>none
  | _=>none
 | none=>none
def Yqk(ρ:Nat->Nat)(H:Hpl): Bool:=H.all λx=>H.all λy=>Nat.beq x.1 y.1 || !Nat.beq (ρ x.1) (ρ y.1)
def Xs4(args:List AV)(H0:Hpl)(r:List (Nat×Nat))(d:Nat)(H:Hpl): Bool:=Nat.blt d 1000000 && !Xcj H d && !Xcj H0 1000000&&Yqk (rnL r) H0&&(args.all (Xdh H0))&&H0.all λx=>Xiz H0 x.2
theorem Xq2{α:Type _}: ∀ {H:List (Nat×α)} {o:Nat} {x:α},(o,x)∈H->Xcj H o=true
 | [],_,_,h=>by cases h
 | (s,w)::H,o,x,h=>by
  simp only[Xcj,look]
  cases e:Nat.beq o s with
  | true=>rfl
  | false =>
   rcases W1i.1 h with h | h
   . injection h with i;subst i;simp at e
   . exact Xq2 h
section
variable{c:Cx}{s:St}{p:Pl}
theorem Xu4{f:FuncId}{asx:List AV}{R:S->Prop}(h:nxK c.tb c.n s=some (p,f,asx))(hR:R=WL c.P c.tb p.dr p.L (J c p.K) p.l)
 (k:∃o:Oper,p.d=o.dst/\match p.dr with
  | true=>∃j H0 Q,Cd c.P f asx o (look p.H) j H0 Q/\∀r,Nu j o r.2->Q r->R (aft (sem p.E p.H) o r)
  | false=>∃Post,CS c.P f asx (look p.H) Post/\∀v O,Post v O->R (S.put ((sem p.E p.H).1,O) o.dst v)):StP c s:=by
 subst hR
 unfold nxK at h
 split at h<;>try cases h
 rename_i p' o ho
 obtain⟨hw,hd⟩:=Xsg ho
 split at h<;>try cases h
 rename_i x as' tys he
 split at h<;>cases h
 rename_i ex vs T hf
 obtain⟨o',i,k⟩:=k
 refine Xj0 ho (.inl ⟨hw,?_⟩)
 unfold Wb
 rw[he]
 refine .inl ⟨_,_,_,hf,T,?_⟩
 rw[hd] at i
 have e1:∀r,aft (sem p.E p.H) o' r=aft (sem p.E p.H) o r:=λr=>by unfold aft;rw[i]
 have e2:∀j us,Nu j o us↔Nu j o' us:=λj us=>by unfold Nu;rw[i]
 cases I:p.dr with
 | true =>
  rw[I] at k
  obtain⟨j,H0,Q,⟨V,Z,k3⟩,k4⟩:=k
  refine⟨j,H0,Q,⟨by rw[i];exact V,Z,by rw[i];intro g a b;simp only[e2];exact k3 g a b⟩,λr hr hq=>by rw[<-e1];exact k4 r ((e2 _ _).1 hr) hq⟩
 | false =>
  rw[I] at k
  obtain⟨Post,V,Z⟩:=k
  exact⟨_,Post,.inl rfl,V,λv O hv=>by rw[i];exact Z v O hv⟩
theorem Xjb{f:FuncId}{args:List AV}{H0:Hpl}{Post:AV->Hpl->Prop}{r:List (Nat×Nat)}{d:Nat}{H:Hpl}(O:CW c.P f args H0 Post)(I:Xs4 args H0 r d H=true){g:Hp}(i:g d=none)(Q:∀o x,look H0 o=some x->g (rnL r o)=some (x.rnf (rnL r))):
 CS c.P f (args.map (AV.rnf (rnL r))) g λv g'=>∃v0 H',okH H0 H'=true/\Post v0 H'/\v=v0.rnf (rnL ((1000000,d)::r))/\g'=Xbg g (rfH (rnL ((1000000,d)::r)) H'):=by
 simp only[Xs4,W0g,W1x] at I
 obtain⟨⟨⟨⟨⟨T,k2⟩,V⟩,Z⟩,k5⟩,k6⟩:=I
 refine O.cs r d (Xqz T) i Q V (λa b ha hb j=>?_) (λa ha=>W1o.1 k5 a ha) k6
 obtain⟨x,hx⟩:=Yl1.1 ha
 obtain⟨y,hy⟩:=Yl1.1 hb
 have:=W1o.1 (W1o.1 Z _ (Xbf hx)) _ (Xbf hy)
 simp only[W3t,W1x] at this
 rcases this with h | h
 . exact W0d h
 . rw[j] at h;simp at h
theorem Xod{H H0:Hpl}{ρ:Nat->Nat}(i:Xs1 H (rfH ρ H0)){o:Nat}{x:Ob}(h:look H0 o=some x): look H (ρ o)=some (x.rnf ρ):=by
 have j:(ρ o,x.rnf ρ)∈rfH ρ H0:=W2l.2 ⟨_,Xbf h,rfl⟩
 exact W5v.1 i _ j
theorem Cw{f:FuncId}{asx args:List AV}{H0:Hpl}{Post:AV->Hpl->Prop}(r:List (Nat×Nat))(h:nxK c.tb c.n s=some (p,f,asx))(hc:CW c.P f args H0 Post)(k:∀v H',okH H0 H'=true->Post v H'->p.nx' c (v.rnf (rnL ((1000000,p.d.getD 0)::r))) (rfH (rnL ((1000000,p.d.getD 0)::r)) H'))
 (hr:asx=args.map (AV.rnf (rnL r)):=by exact rfl) (hH:Xs1 p.H (rfH (rnL r) H0):=by exact rfl) (hk:(Xs4 args H0 r (p.d.getD 0) p.H && !p.dr)=true:=by exact rfl):StP c s:=by
 rw[W0g,W1x] at hk
 obtain⟨hk,hdr⟩:=hk
 have hk':=hk
 simp only[Xs4,W0g,W1x] at hk'
 refine Xu4 h rfl ⟨⟨p.d, .move (.tmp 0), 0, "", #[], none⟩, rfl, ?_⟩
 rw[hdr,hr]
 refine⟨_,Xjb hc hk (Xbk hk'.1.1.1.1.2) (λo x hx=>Xod hH hx),?_⟩
 rintro v g' ⟨v0,H',h1,h2,rfl,rfl⟩
 have:=Pl.nx'_eq.1 (k v0 H' h1 h2)
 have:WL c.P c.tb p.dr p.L (J c p.K) p.l (sem (Xs3 p.E p.d _) (_++p.H)):=this
 rw[<-Xek,hdr] at this
 exact this
theorem Xmc{g:Hp}: ∀ {l:List (Nat×Ob)},(∀o x,(o,x)∈l->g o=some x)->Xbg g l=g
 | [],_=>rfl
 | (o,x)::l,h=>by
  rw[Xbg,Xmc λo x i=>h o x (W0o _ i)]
  funext t
  by_cases e:t=o
  . subst e;rw[Xah,h t x (W0l ..)]
  . rw[Xak e]
def CN(P:Program)[Gb P](f:FuncId)(args:List AV)(H0:Hpl)(Q:AV->Prop): Prop:=CW P f args H0 λv H'=>H'=H0/\Q v
theorem Xuj{H0:Hpl}{r:List (Nat×Nat)}{d:Nat}(h0:Xcj H0 1000000=false)(O:(H0.all λx=>Xiz H0 x.2)=true): ∀o x,look H0 o=some x->(rnL ((1000000,d)::r) o,x.rnf (rnL ((1000000,d)::r)))=(rnL r o,x.rnf (rnL r)):=by
 have j:∀i,Xcj H0 i=true->rnL ((1000000,d)::r) i=rnL r i:=λi hi=>by
  have:i≠1000000:=λe=>by rw[e,h0] at hi;cases hi
  simp only[rnL,Yci this]
 have Z:∀ {a:AV},Xdh H0 a=true->a.rnf (rnL ((1000000,d)::r))=a.rnf (rnL r):=by
  intro a
  induction a with
  | st a I=>intro h;simp only[AV.rnf];rw[I h]
  | tup a I=>intro h;simp only[AV.rnf];rw[I h]
  | fm f a I=>intro h;simp only[AV.rnf];rw[I h]
  | pr a c Q T=>intro h;simp only[Xdh,W0g] at h;simp only[AV.rnf];rw[Q h.1,T h.2]
  | _=>intro h;first | rfl | (simp only[AV.rnf];rw[j _ h])
 intro o x V
 rw[j o (Yl1.2 ⟨x,V⟩)]
 have:=W1o.1 O _ (Xbf V)
 cases x with
 | var a=>simp only[Ob.rnf];rw[Z this]
 | _=>rfl
theorem Cn{f:FuncId}{asx args:List AV}{H0:Hpl}{Q:AV->Prop}(r:List (Nat×Nat))(h:nxK c.tb c.n s=some (p,f,asx))(hc:CN c.P f args H0 Q)(k:∀v,Q v->p.nx c (v.rnf (rnL ((1000000,p.d.getD 0)::r))))
 (hr:asx=args.map (AV.rnf (rnL r)):=by exact rfl) (hH:Xs1 p.H (rfH (rnL r) H0):=by exact rfl) (hk:(Xs4 args H0 r (p.d.getD 0) p.H&&H0.all λx=>asx.any λa=>Xcj (match a with | .ptr o _=>[(o,())] | .own o _ _ _=>[(o,())] | .gr o _ _=>[(o,())] | .fn _ o=>[(o,())] | .ap o _=>[(o,())] | _=>[]) (rnL r x.1))=true:=by exact rfl) (hd:(!p.dr||p.d.isSome)=true:=by exact rfl):StP c s:=by
 rw[W0g] at hk
 obtain⟨hk,hids⟩:=hk
 have hk':=hk
 simp only[Xs4,W0g,W1x] at hk'
 obtain⟨⟨⟨⟨⟨k1,k2⟩,k3⟩,k4⟩,k5⟩,k6⟩:=hk'
 have hsame:∀g:Hp,(∀o x,look H0 o=some x->g (rnL r o)=some (x.rnf (rnL r)))->Xbg g (rfH (rnL ((1000000,p.d.getD 0)::r)) H0)=g:=λg hg=>Xmc λo x hm=>by
  obtain⟨⟨i,y⟩,hm1,e⟩:=W2l.1 hm
  injection e with e1 e2
  subst e1;subst e2
  have hy:∃z,look H0 i=some z:=by
   exact Yl1.1 (Xq2 hm1)
  obtain⟨z,hz⟩:=hy
  have hm2:=W5v.1 hH (rnL r i,y.rnf (rnL r)) (W2l.2 ⟨_,hm1,rfl⟩)
  have hz2:=Xod hH hz
  rw[hz2] at hm2
  injection hm2 with hm2
  have h3:=Xuj (d:=p.d.getD 0) (r:=r) k3 k6 i z hz
  injection h3 with h3 h4
  show g (rnL _ i)=some (y.rnf _)
  rw[h3,hg i z hz,hm2]
  congr 1
  have hcl:Xiz H0 y=true:=W1o.1 k6 _ hm1
  have hv:∀ {a:AV},Xdh H0 a=true->a.rnf (rnL ((1000000,p.d.getD 0)::r))=a.rnf (rnL r):=by
   intro a
   induction a with
   | st a ih=>intro h;simp only[AV.rnf];rw[ih h]
   | tup a ih=>intro h;simp only[AV.rnf];rw[ih h]
   | fm f a ih=>intro h;simp only[AV.rnf];rw[ih h]
   | pr a c iha ihc=>intro h;simp only[Xdh,W0g] at h;simp only[AV.rnf];rw[iha h.1,ihc h.2]
   | _ =>
    intro h
    first
     | rfl
     | (simp only[AV.rnf]
        congr 1
        obtain⟨q,hq⟩:=Yl1.1 h
        have:=Xuj (d:=p.d.getD 0) (r:=r) k3 k6 _ q hq
        injection this)
  cases y with
  | var a=>simp only[Ob.rnf];rw[hv hcl]
  | _=>rfl
 refine Xu4 h rfl ⟨⟨p.d, .move (.tmp 0), 0, "", #[], none⟩, rfl, ?_⟩
 have kk:∀v,Q v->WL c.P c.tb p.dr p.L (J c p.K) p.l (S.put (sem p.E p.H) p.d (v.rnf (rnL ((1000000,p.d.getD 0)::r)))):=λv hv=>by
  have:=Pl.nx_eq.1 (k v hv)
  have this:WL c.P c.tb p.dr p.L (J c p.K) p.l (sem (Xs3 p.E p.d _) p.H):=this
  rw[show S.put (sem p.E p.H) p.d _=sem (Xs3 p.E p.d _) p.H from Xek p.E p.H [] p.d _]
  exact this
 have hH':∀o x,look H0 o=some x->look p.H (rnL r o)=some (x.rnf (rnL r)):=λo x hx=>Xod hH hx
 generalize WL c.P c.tb p.dr p.L (J c p.K) p.l=R at kk |-
 rw[hr] at hids |-
 cases hdr:p.dr with
 | true =>
  obtain⟨dd,hdd⟩:=W3j.1 (show p.d.isSome=true by rw[hdr] at hd;exact hd)
  have hD:p.d.getD 0=dd:=by rw[hdd];rfl
  refine⟨true,look (rfH (rnL r) H0),λq=>q.2=[]/\∃v,Q v/\q.1=v.rnf (rnL ((1000000,p.d.getD 0)::r)),⟨λ_=>⟨dd,hdd,by rw[<-hD];exact Xbk k2⟩,λi y hi=>?_,λg hg hn=>?_⟩,λq _ ⟨hq,v,h1,h2⟩=>?_⟩
  . have hm:=Xbf hi
    refine⟨W5v.1 hH _ hm,?_⟩
    obtain⟨⟨j,z⟩,hm1,e⟩:=W2l.1 hm
    injection e with e1 e2
    have:=W1o.1 hids _ hm1
    obtain⟨a,ha,hk⟩:=List.any_eq_true.1 this
    refine⟨a,ha,?_⟩
    rw[<-e1]
    cases a<;>simp only[Xcj,look] at hk<;>first | (cases hk;done) | skip
    all_goals
     show rnL r j=_
     split at hk
     . rename_i hx
       split at hx
       . rename_i hb;exact W0d hb
       . cases hx
     . cases hk
  . have hg':∀o x,look H0 o=some x->g (rnL r o)=some (x.rnf (rnL r)):=λo x hx=>hg _ _ (by
     obtain⟨q,hq⟩:=Xc4 (ρ:=rnL r) hx
     have h1:=W5v.1 hH _ (Xbf hq)
     rw[hH' o x hx] at h1
     rw[hq];exact h1.symm)
    have hgd:g (p.d.getD 0)=none:=by rw[hD];exact hn rfl dd hdd
    obtain⟨a1,a2⟩:=Xjb hc hk hgd hg'
    refine⟨a1,λN W θ vs b0 b1 b2 b3 b4=>(a2 N W θ vs b0 b1 b2 b3 b4).mono ?_⟩
    rintro e w' ⟨W',θ',v,u,g',c1,c2,c3,c4,c5,v0,H',d1,⟨rfl,d2⟩,rfl,rfl⟩
    exact⟨W',θ',_,u,_,c1,c2,c3,c4,c5,[],.inl rfl,hsame g hg',rfl,v0,d2,rfl⟩
  . unfold aft;rw[hq,h2];exact kk v h1
 | false =>
  refine⟨_,Xjb hc hk (Xbk k2) hH',?_⟩
  rintro v g' ⟨v0,H',h1,⟨rfl,h2⟩,rfl,rfl⟩
  rw[hsame _ hH']
  exact kk v0 h2
def CO(P:Program)[Gb P](f:FuncId)(args:List AV)(Q:AV->Ob->Prop): Prop:=CW P f args [] λv H'=>∃h,H'=[(1000000,h)]/\Q v h
theorem Co{f:FuncId}{asx:List AV}{Q:AV->Ob->Prop}(h:nxK c.tb c.n s=some (p,f,asx))(hc:CO c.P f asx Q)(k:∀v ob,Q v ob->p.nx' c (v.rnf (rnL [(1000000,p.d.getD 0)])) [(p.d.getD 0,ob.rnf (rnL [(1000000,p.d.getD 0)]))])
 (hk:(Xs4 asx [] [] (p.d.getD 0) p.H&&p.d.isSome)=true:=by exact rfl):StP c s:=by
 rw[W0g] at hk
 obtain⟨hk,hd⟩:=hk
 have hk':=hk
 simp only[Xs4,W0g,W1x] at hk'
 obtain⟨⟨⟨⟨⟨k1,k2⟩,k3⟩,k4⟩,k5⟩,k6⟩:=hk'
 obtain⟨dd,hdd⟩:=W3j.1 hd
 have hD:p.d.getD 0=dd:=by rw[hdd];rfl
 have hid:∀ {a:AV},a.rnf (rnL [])=a:=by
  intro a
  induction a with
  | st a ih=>simp only[AV.rnf,ih]
  | tup a ih=>simp only[AV.rnf,ih]
  | fm f a ih=>simp only[AV.rnf,ih]
  | pr a c iha ihc=>simp only[AV.rnf,iha,ihc]
  | _=>rfl
 have hmap:asx.map (AV.rnf (rnL []))=asx:=by rw[show AV.rnf (rnL [])=id from funext λa=>hid,List.map_id]
 have hcs:∀ {g:Hp},g (p.d.getD 0)=none->CS c.P f asx g λv g'=>∃v0 ob,Q v0 ob/\v=v0.rnf (rnL [(1000000,p.d.getD 0)])/\g'=Xbg g [(p.d.getD 0,ob.rnf (rnL [(1000000,p.d.getD 0)]))]:=by
  intro g hg
  obtain⟨a1,a2⟩:=Xjb hc hk hg (λo x hx=>by simp[look] at hx)
  rw[hmap] at a2
  refine⟨a1,λN W θ vs b0 b1 b2 b3 b4=>(a2 N W θ vs b0 b1 b2 b3 b4).mono ?_⟩
  rintro e w' ⟨W',θ',v,u,g',c1,c2,c3,c4,c5,v0,H',d1,⟨ob,rfl,d2⟩,rfl,rfl⟩
  refine⟨W',θ',_,u,_,c1,c2,c3,c4,c5,v0,ob,d2,rfl,?_⟩
  simp[rfH,rnL]
 refine Xu4 h rfl ⟨⟨p.d, .move (.tmp 0), 0, "", #[], none⟩, rfl, ?_⟩
 have kk:∀v ob,Q v ob->WL c.P c.tb p.dr p.L (J c p.K) p.l (S.put ((sem p.E p.H).1,Xbg (sem p.E p.H).2 [(p.d.getD 0,ob.rnf (rnL [(1000000,p.d.getD 0)]))]) p.d (v.rnf (rnL [(1000000,p.d.getD 0)]))):=λv ob hv=>by
  have:=Pl.nx'_eq.1 (k v ob hv)
  have this:WL c.P c.tb p.dr p.L (J c p.K) p.l (sem (Xs3 p.E p.d _) (_++p.H)):=this
  rw[Xek]
  exact this
 generalize WL c.P c.tb p.dr p.L (J c p.K) p.l=R at kk |-
 cases p.dr with
 | true =>
  refine⟨true,λ_=>none,λq=>∃v ob,Q v ob/\q=(v.rnf (rnL [(1000000,p.d.getD 0)]),[(p.d.getD 0,ob.rnf (rnL [(1000000,p.d.getD 0)]))]),⟨λ_=>⟨dd,hdd,by rw[<-hD];exact Xbk k2⟩,λi y hi=>(nomatch hi),λg _ hn=>?_⟩,?_⟩
  . obtain⟨a1,a2⟩:=hcs (g:=g) (by rw[hD];exact hn rfl dd hdd)
    refine⟨a1,λN W θ vs b0 b1 b2 b3 b4=>(a2 N W θ vs b0 b1 b2 b3 b4).mono ?_⟩
    rintro e w' ⟨W',θ',v,u,g',c1,c2,c3,c4,c5,v0,ob,d1,rfl,rfl⟩
    exact⟨W',θ',_,u,_,c1,c2,c3,c4,c5,_,.inr ⟨rfl,dd,_,hdd,by rw[hD]⟩,rfl,v0,ob,d1,rfl⟩
  . rintro q _ ⟨v,ob,h1,rfl⟩
    exact kk v ob h1
 | false =>
  refine⟨_,hcs (Xbk k2),?_⟩
  rintro v g' ⟨v0,ob,h1,rfl,rfl⟩
  exact kk v0 ob h1
def CG(P:Program)[Gb P](f:FuncId)(args:List AV)(sz:Nat)(xs:List D): Prop:=CO P f args λv h=>v=.gr 1000000 sz xs/\h=.tok xs.length sz
theorem Cg{f:FuncId}{asx:List AV}{sz:Nat}{xs:List D}(h:nxK c.tb c.n s=some (p,f,asx))(i:CG c.P f asx sz xs)(k:p.nx' c (.gr (p.d.getD 0) sz xs) [(p.d.getD 0,.tok xs.length sz)])
 (j:(Xs4 asx [] [] (p.d.getD 0) p.H&&p.d.isSome)=true:=by exact rfl):StP c s :=
 Co h i (λv I o=>by obtain⟨rfl,rfl⟩:=o;exact k) j
def CA(P:Program)[Gb P](f:FuncId)(args:List AV)(sz:Nat)(xs:List D): Prop:=CO P f args λv h=>v=.own 1000000 sz 0 xs.length/\h=.arr sz xs
theorem Cr{f:FuncId}{asx:List AV}{sz:Nat}{xs:List D}(h:nxK c.tb c.n s=some (p,f,asx))(i:CA c.P f asx sz xs)(k:p.nx' c (.own (p.d.getD 0) sz 0 xs.length) [(p.d.getD 0,.arr sz xs)])
 (j:(Xs4 asx [] [] (p.d.getD 0) p.H&&p.d.isSome)=true:=by exact rfl):StP c s :=
 Co h i (λv I o=>by obtain⟨rfl,rfl⟩:=o;exact k) j
end
theorem CW.data{P:Program}[Gb P]{f:FuncId}{args:List AV}{Post:AV->Hpl->Prop}{Q:AV->Prop}(h:CW P f args [] Post)(hn:(args.all Xlh)=true)(hp:∀v H',Post v H'->∃j,FitR (look H') [] v j/\Q j): C P f args Q:=by
 refine⟨h.1,λW vs hg ha=>(h.2 W θe vs hg ⟨λo x h=>(nomatch h),λo x b h=>(nomatch h),λo o' x x' b h=>(nomatch h),λo x i h=>(nomatch h)⟩ ha).mono ?_⟩
 rintro e w' ⟨W',θ',v,u,H',rfl,rfl,hf,I,hv,hvi,_,_,hpo⟩
 obtain⟨j,O,hq⟩:=hp v H' hpo
 have hX:∀b,¬Xof θe ([]:Hpl) b:=λb ⟨o,x,h,_⟩=>(nomatch h)
 let W2:GW:=⟨W'.w,W.A,λb i h=>W0x (W.hA b i h) hf.size⟩
 have hle:LeF W' W2:=λb i x T=>⟨T.1,λV=>T.2 ((hf.A b (W.hA b i V) (hX b) i).2 V)⟩
 have E:Exi W' W2 (λb=>W.size<=b\/Xof θe ([]:Hpl) b) θ' (look H') []:=⟨I,hle,λo x b ho hl hb _ i y hy=>⟨hy,λV=>absurd (W.hA b i V) (W5w.2 ((I.new o x b ho hl hb).resolve_right (hX b)))⟩⟩
 obtain⟨f1,Z⟩:=Yfj E O hv
 have Z:∀i,¬j.ids i:=λi hi=>by obtain⟨y,hy⟩:=Z i hi;cases hy
 exact⟨W2,j,u,rfl,rfl,⟨hf.os,hf.out,hf.tape,hf.size,λb hb _=>hf.same b hb (hX b),λ_ _ _ _=>W4d,λb i x T=>⟨(hf.le b i x T).1,T.2⟩⟩,f1.mono (LeF.refl W2) λi hi=>absurd hi (Z i),Z,hq⟩
theorem CG.data{P:Program}[Gb P]{f:FuncId}{args:List AV}{sz:Nat}{xs:List D}(h:CG P f args sz xs)(i:(args.all Xlh)=true:=by exact rfl): C P f args (·=.d (.sl sz xs)) :=
 CW.data h i λv H' ⟨o,e,j,I⟩=>⟨_,by rw[j];exact .one (.gr rfl) rfl rfl,rfl⟩
theorem CA.data{P:Program}[Gb P]{f:FuncId}{args:List AV}{sz:Nat}{xs:List D}(h:CA P f args sz xs)(i:(args.all Xlh)=true:=by exact rfl): C P f args (·=.d (.sl sz xs)) :=
 CW.data h i λv H' ⟨I,e,j,o⟩=>⟨_,by rw[j,e,o];exact .one (.own rfl (by simp) (by simp)) rfl rfl,rfl⟩
end
section
section
variable{c:Cx}{s:St}{p:Pl}
noncomputable def Yo9(tb:Nat->Option TI)(n:Nat)(s:St): Option (Pl×Bool×IntKind×Int×Int):=match nxA tb n s with
 | some (p,o,[.d (.int k x),.d (.int h y)])=>match o.op with
  | .call ⟨.builtin .min,_,_⟩=>if k=h then some (p,true,k,x,y) else none
  | .call ⟨.builtin .max,_,_⟩=>if k=h then some (p,false,k,x,y) else none
  | _=>none
 | _=>none
theorem Mm{b:Bool}{k:IntKind}{x y:Int}(r:Int)(h:Yo9 c.tb c.n s=some (p,b,k,x,y))(O:p.nx c (.d (.int k r)))(hr:(match b with | true=>min x y | false=>max x y)=r:=by first | rfl | omega): StP c s:=by
 unfold Yo9 at h
 split at h<;>try cases h
 rename_i T o V Z k2 y1 Q
 split at h<;>try cases h
 . rename_i asx i j
   split at h<;>cases h
   rename_i I
   refine Xbj (us:=[]) Q ?_ (Pl.nx_nil O)
   rw[j]
   simp only[F,Fp,if_pos I]
   subst hr
   simp only[Int.min_def]
   split<;>split<;>first | rfl | (congr;omega)
 . rename_i asx i j
   split at h<;>cases h
   rename_i I
   refine Xbj (us:=[]) Q ?_ (Pl.nx_nil O)
   rw[j]
   simp only[F,Fp,if_pos I]
   subst hr
   simp only[Int.max_def]
   split<;>split<;>first | rfl | (congr;omega)
noncomputable def nxY(tb:Nat->Option TI)(n:Nat)(s:St): Option (Pl×List UInt8×Int):=match nxA tb n s with
 | some (p,o,[.d (.str t),.d (.int _ j)])=>match o.op with
  | .index T _ _=>match tb T with
   | some ⟨.str _,_,_,_⟩=>some (p,t,j)
   | _=>none
  | _=>none
 | _=>none
theorem Yx(i:Nat)(b:UInt8){t:List UInt8}{j:Int}(h:nxY c.tb c.n s=some (p,t,j))(hb:t[i]?=some b)(o:p.nx c (.d (.int .u8 b.toNat)))(I:j=(i:Int):=by first | exact rfl | omega): StP c s:=by
 subst I
 unfold nxY at h
 split at h<;>try cases h
 rename_i O
 split at h<;>try cases h
 rename_i Q
 split at h<;>cases h
 rename_i T
 refine Xbj (us:=[]) O ?_ (Pl.nx_nil o)
 rw[Q]
 simp[F,Fp,T,hb]
end
def nbA: AV->AV
 | .d (.bool c)=>.b c
 | a=>a
theorem Yna{W:GW}{θ:Loc}{a:AV}{u:Value}(h:AV.V W θ a u): AV.V W θ (nbA a) u:=by
 unfold nbA;split
 . obtain⟨cs,i,j⟩:=h;exact⟨cs,i,j⟩
 . exact h
theorem Yi0{W:GW}{θ:Loc}: ∀ {asx:List AV} {vs:List Value},Xjg W θ asx vs->Xjg W θ (asx.map nbA) vs
 | [],[],_=>trivial
 | a::asx,v::vs,h=>⟨Yna h.1,Yi0 h.2⟩
 | [],_::_,h=>h.elim
 | _::_,[],h=>h.elim
theorem C.mono{P:Program}[Gb P]{f:FuncId}{asx:List AV}{Q Q':AV->Prop}(h:C P f asx Q)(k:∀v,Q v->Q' v): C P f asx Q':=⟨h.1,λW i j ha=>(h.2 W i j ha).mono λe w' ⟨W',v,u,o,I,O,T,V,Z⟩=>⟨W',v,u,o,I,O,T,V,k v Z⟩⟩
theorem C.nb{P:Program}[Gb P]{f:FuncId}{asx:List AV}{Q:AV->Prop}(h:C P f (asx.map nbA) Q): C P f asx Q:=⟨h.1,λW i j ha=>h.2 W i j (Yi0 ha)⟩
end
section
def Yjs: AV->List Nat
 | .st a | .tup a | .fm _ a=>Yjs a
 | .pr a c=>Yjs a++Yjs c
 | .ptr o _ | .own o _ _ _ | .ow3 o _ _ _ | .gr o _ _ | .el o _ _ _ | .fn _ o | .ap o _ | .cx o _ _=>[o]
 | _=>[]
theorem Xe5{i:Nat}: ∀ {a:AV},a.ids i->i∈Yjs a
 | .st a,h=>Xe5 (a:=a) h
 | .tup a,h=>Xe5 (a:=a) h
 | .fm _ a,h=>Xe5 (a:=a) h
 | .pr a c,h=>W1r.2 (h.imp (Xe5 (a:=a)) (Xe5 (a:=c)))
 | .ptr o _,h | .own o _ _ _,h | .ow3 o _ _ _,h | .gr o _ _,h | .el o _ _ _,h | .fn _ o,h | .ap o _,h | .cx o _ _,h=>W0j.2 h
abbrev Trk:=List (Nat×List Nat)
def dsL: List Oper->List Nat
 | []=>[]
 | o::l=>match o.dst with
  | some d=>d::dsL l
  | none=>dsL l
theorem Xwz{o:Oper}{d:Nat}(hd:o.dst=some d): ∀ {L:List Oper},o∈L->d∈dsL L
 | x::l,h=>by
  rcases W1i.1 h with e | e
  . subst e;simp[dsL,hd]
  . have:=Xwz hd e
    simp only[dsL];split<;>simp[this]
def bnd(D:List Nat)(E:Env)(T:Trk)(t:Nat): Option (List Nat):=match inL t D with
 | true=>look T t
 | false=>match look E t with
  | some v=>some (Yjs v)
  | none=>none
def Yk8: Op->Option Nat
 | .move (.tmp t) | .assign (.tmp t) | .nilCheck (.tmp t) | .fieldAddr _ (.tmp t) _ | .indexAddr _ (.tmp t) _=>some t
 | _=>none
def ldO: Op->Option Nat
 | .load _ (.tmp t)=>some t
 | _=>none
def Xiw: Op->Bool
 | .alloc _ | .box _ _=>true
 | _=>false
def trk(D:List Nat)(E:Env): List Oper->Trk->Trk
 | [],T=>T
 | o::l,T=>match o.dst with
  | none=>trk D E l T
  | some d=>match Xiw o.op,Yk8 o.op with
   | true,_=>trk D E l ((d,[d])::T)
   | false,some t=>match bnd D E T t with
    | some v=>trk D E l ((d,v)::T)
    | none=>trk D E l T
   | false,none=>match ldO o.op with
    | some t=>match bnd D E T t with
     | some []=>trk D E l ((d,[])::T)
     | _=>trk D E l T
    | none=>trk D E l T
def Yot(a b:List Nat): Bool:=a.all λx=>inL x b
def Xmd(D:List Nat)(E:Env)(T:Trk)(L:List Oper): Bool:=(T.all λx=>!Xcj E x.1)&&L.all λo=>match o.dst with
 | none=>true
 | some d=>match look T d with
  | none=>true
  | some l=>(Xiw o.op&&inL d l)||match Yk8 o.op with
   | some t=>match bnd D E T t with
    | some v=>Yot v l
    | none=>false
   | none=>match ldO o.op with
    | some t=>match bnd D E T t with
     | some []=>true
     | _=>false
    | none=>false
def Yjh(L:List Oper)(D:List Nat)(E:Env)(T:Trk)(k i:Oper): Bool:=match k.op,i.op with
 | .load _ (.tmp a),.store _ (.tmp b) _=>match bnd D E T a,bnd D E T b with
  | some h,some j=>Xb2 L k.dst i&&Xb2 L i.dst k&&h.all λx=>!inL x j
  | _,_=>false
 | _,_=>false
def spT(L:List Oper)(D:List Nat)(E:Env)(T:Trk)(k i:Oper): Bool:=Yjh L D E T k i||Yjh L D E T i k
def ZT(D:List Nat)(E:Env)(T:Trk)(s:S): Prop:=(∀t,inL t D=false->s.1 t=look E t)/\∀t l,look T t=some l->s.1 t=none\/∃x,s.1 t=some x/\∀i,x.ids i->i∈l
section
variable{tb:Nat->Option TI}
theorem Xno{D:List Nat}{E:Env}{T:Trk}{s:S}(j:ZT D E T s){t:Nat}{l:List Nat}(h:bnd D E T t=some l){v:AV}(o:s.1 t=some v){i:Nat}(hi:v.ids i): i∈l:=by
 unfold bnd at h
 split at h
 . rcases j.2 t l h with e | ⟨x,e,I⟩<;>rw[o] at e
   . cases e
   . injection e with e;subst e;exact I i hi
 . rename_i O
   have e:=j.1 t O
   rw[o] at e
   rw[<-e] at h
   injection h with h;subst h
   exact Xe5 hi
theorem Yfu{o:Oper}{t:Nat}(ha:Yk8 o.op=some t){s:S}{r:AV×List (Nat×Ob)}(h:eff tb o s=some r): ∃v,s.1 t=some v/\∀i,r.1.ids i->v.ids i:=by
 have one:∀ {x:Nat} {asx:List AV},getEs s.1 [.tmp x]=some asx->∃v,s.1 x=some v/\asx=[v]:=by
  intro x asx h
  simp only[getEs,Xbt] at h
  split at h<;>try cases h
  rename_i v I
  exact⟨v,I,rfl⟩
 unfold eff at h
 split at h<;>try cases h
 rename_i asx j
 split at h<;>try cases h
 unfold Yk8 at ha
 split at ha<;>cases ha
 all_goals rename_i O
 . rw[O] at h j
   obtain⟨v,I,rfl⟩:=one j
   simp only[F,Fp] at h
   injection h with h;subst h
   exact⟨v,I,λ_ h=>h⟩
 . rw[O] at h j
   obtain⟨v,I,rfl⟩:=one j
   simp only[F,Fp] at h
   injection h with h;subst h
   exact⟨v,I,λ_ h=>h⟩
 . rw[O] at h j
   obtain⟨v,I,rfl⟩:=one j
   refine⟨v,I,?_⟩
   simp only[F,Fp] at h
   split at h<;>try cases h
   rename_i hq
   split at hq<;>cases hq
   rename_i e;cases e
   exact λ_ h=>h
 . rw[O] at h j
   obtain⟨v,I,rfl⟩:=one j
   refine⟨v,I,?_⟩
   simp only[F,Fp] at h
   split at h<;>try cases h
   rename_i hq
   split at hq<;>try cases hq
   split at hq<;>try cases hq
   split at hq<;>try cases hq
   split at hq<;>try cases hq
   . rename_i e;cases e
     split at hq<;>cases hq
     exact λ_ h=>h
   all_goals
    rename_i e;cases e
    exact λ_ h=>h
 . rw[O] at h j
   rename_i T' V _
   simp only[Op.operands,getEs] at j
   split at j<;>try cases j
   rename_i v I
   split at j<;>try cases j
   rename_i T Q
   refine⟨v,I,?_⟩
   simp only[F,Fp] at h
   split at h<;>try cases h
   rename_i hq
   split at hq<;>try cases hq
   rename_i e;cases e
   split at hq<;>try cases hq
   . unfold ixA at hq
     split at hq<;>try cases hq
     . unfold ixA.ixL at hq
       split at hq<;>try cases hq
       split at hq<;>cases hq
       exact λ_ h=>h.elim
     . unfold ixA.ixL at hq
       split at hq<;>try cases hq
       split at hq<;>cases hq
       exact λ_ h=>h.elim
     . unfold ixA.ixL at hq
       split at hq<;>try cases hq
       split at hq<;>cases hq
       exact λ_ h=>h.elim
     . split at hq<;>cases hq
       exact λ_ h=>h
     . split at hq<;>cases hq
       exact λ_ h=>h
   . split at hq<;>cases hq
     exact λ_ h=>h
theorem Yni{o:Oper}{t:Nat}(ha:ldO o.op=some t){s:S}{r:AV×List (Nat×Ob)}(h:eff tb o s=some r): ∃v,s.1 t=some v/\((∃i,v.ids i)\/∀i,¬r.1.ids i):=by
 unfold ldO at ha
 split at ha<;>cases ha
 rename_i I
 have:∃v,s.1 t=some v:=by
  unfold eff at h
  split at h<;>try cases h
  rename_i asx j
  rw[I] at j
  simp only[Op.operands,getEs,Xbt] at j
  split at j<;>try cases j
  exact⟨_,by assumption⟩
 obtain⟨v,Q⟩:=this
 refine⟨v,Q,?_⟩
 have j:getEs s.1 o.op.operands.toList=some [v]:=by rw[I];simp[Op.operands,getEs,Xbt,Q]
 unfold eff at h
 rw[j] at h
 simp only[I,Xd7,Bool.false_and,F] at h
 split at h<;>try cases h
 rename_i T O
 cases v<;>try (cases h;done)
 . simp only[O] at h
   split at h<;>cases h
   exact .inr λi hi=>Xmt _ i hi
 . exact .inl ⟨_,rfl⟩
 . exact .inl ⟨_,rfl⟩
theorem Yjj{k:Oper}{T:TypeId}{a:Nat}(O:k.op=.load T (.tmp a)){e:Ev}{g g':Hp}{r:AV×List (Nat×Ob)}{v:AV}(V:e a=some v)(Q:∀i,v.ids i->g i=g' i)(h:eff tb k (e,g)=some r): r.2=[]/\eff tb k (e,g')=some r:=by
 have o:getEs e k.op.operands.toList=some [v]:=by rw[O];simp[Op.operands,getEs,Xbt,V]
 unfold eff at h |-
 rw[o] at h |-
 simp only[O,Xd7,Bool.false_and,F] at h |-
 split at h<;>try cases h
 rename_i ti j
 cases v<;>try (cases h;done)
 . simp only[j] at h |-
   split at h<;>cases h
   rename_i hf
   exact⟨rfl,by simp[hf]⟩
 . simp only[j] at h |-
   rw[<-Q _ rfl]
   split at h<;>try cases h
   rename_i hq
   split at h<;>cases h
   rename_i I
   exact⟨rfl,by simp[hq,I]⟩
 . simp only[j] at h |-
   rw[<-Q _ rfl]
   split at h<;>try cases h
   rename_i hq
   split at h<;>try cases h
   rename_i hs
   split at h<;>try cases h
   rename_i Z
   split at h<;>cases h
   rename_i I
   exact⟨rfl,by simp[hq,hs,Z,I]⟩
theorem Ymq{i:Oper}{T:TypeId}{b:Nat}{x:Operand}(I:i.op=.store T (.tmp b) x){e:Ev}{g:Hp}{r:AV×List (Nat×Ob)}(h:eff tb i (e,g)=some r): ∃v o V,e b=some v/\v.ids o/\r.2=[(o,V)]:=by
 unfold eff at h
 split at h<;>try cases h
 rename_i asx j
 rw[I] at j
 simp only[Op.operands,getEs,Xbt] at j
 split at j<;>try cases j
 rename_i v O
 split at j<;>try cases j
 rename_i Z Q
 split at h<;>try cases h
 rw[I] at h
 simp only[F] at h
 split at h<;>try cases h
 split at h<;>try cases h
 . rename_i e;cases e
   split at h<;>try cases h
   split at h<;>cases h
   exact⟨_,_,_,O,rfl,rfl⟩
 . rename_i e;cases e
   split at h<;>try cases h
   split at h<;>try cases h
   split at h<;>cases h
   exact⟨_,_,_,O,rfl,rfl⟩
theorem Yer{o:Oper}(i:Xiw o.op=true){s:S}{r:AV×List (Nat×Ob)}(h:eff tb o s=some r): r.1=.ptr (o.dst.getD 0) 0:=by
 unfold eff at h
 split at h<;>try cases h
 rename_i asx j
 split at h<;>try cases h
 unfold Xiw at i
 split at i<;>try cases i
 all_goals
  rename_i I
  rw[I] at h
  simp only[F] at h
 . split at h<;>cases h;rfl
 . split at h<;>try cases h
   split at h<;>cases h;rfl
theorem Ydt{a b:List Nat}(h:Yot a b=true){i:Nat}(hi:i∈a): i∈b:=Ynl.1 (W1o.1 h i hi)
theorem Yod{s:S}{o:Oper}{r:AV×List (Nat×Ob)}{t:Nat}(h:o.dst≠some t): (aft s o r).1 t=s.1 t:=by
 unfold aft S.put
 cases hd:o.dst with
 | none=>rfl
 | some d=>exact Xak λe=>h (by rw[hd,e])
theorem Ylc{s:S}{o:Oper}{r:AV×List (Nat×Ob)}{t:Nat}(h:o.dst=some t): (aft s o r).1 t=some r.1:=by
 unfold aft S.put
 rw[h];exact Xah ..
theorem ZT.aft{L:List Oper}{E:Env}{T:Trk}(hT:Xmd (dsL L) E T L=true){o:Oper}(ho:o∈L){s:S}(O:ZT (dsL L) E T s){r:AV×List (Nat×Ob)}
 (hr:r.1=.un\/(Xal o=true)\/eff tb o s=some r):ZT (dsL L) E T (aft s o r):=by
 refine⟨λt Q=>?_,λt l hl=>?_⟩
 . rw[Yod λe=>by rw[Ynl.2 (Xwz e ho)] at Q;cases Q]
   exact O.1 t Q
 . by_cases hd:o.dst=some t
   . refine .inr ⟨r.1,Ylc hd,λi hi=>?_⟩
     simp only[Xmd,W0g] at hT
     have:=W1o.1 hT.2 o ho
     rw[hd] at this
     simp only[hl,W3t,W0g] at this
     rcases hr with hr | hr | hr
     . rw[hr] at hi;exact hi.elim
     . obtain⟨x,asx,tys,hc⟩:=Xix hr
       rw[hc] at this
       simp[Xiw,Yk8,ldO] at this
     . rcases this with ⟨I,h2⟩ | h
       . rw[Yer I hr,hd] at hi
         have hi:i=t:=hi
         rw[hi];exact Ynl.1 h2
       . split at h
         . rename_i t' ha
           split at h
           . rename_i v V
             obtain⟨x,Z,I⟩:=Yfu ha hr
             exact Ydt h (Xno O V Z (I i hi))
           . cases h
         . split at h
           . rename_i t' ha
             split at h
             . rename_i V
               obtain⟨x,Z,⟨j,hj⟩ | I⟩:=Yni ha hr
               . exact absurd (Xno O V Z hj) (by simp)
               . exact absurd hi (I i)
             . cases h
           . cases h
   . rw[Yod hd];exact O.2 t l hl
theorem Xgb{L:List Oper}{E:Env}{T:Trk}{k i:Oper}(h:Yjh L (dsL L) E T k i=true): Xal k=false/\Xal i=false/\Xb2 L k.dst i=true/\Xb2 L i.dst k=true/\∀ {s:S},ZT (dsL L) E T s ->
 (∀ {j},efw tb L k s=some j->j.2=[])/\∀ {g:Hp} {Q:AV×List (Nat×Ob)},efw tb L i (s.1,g)=some Q->∀j,efw tb L k (s.1,g)=some j↔efw tb L k (s.1,Xbg g Q.2)=some j:=by
 unfold Yjh at h
 split at h
 . rename_i T1 a T2 b x V hi
   split at h
   . rename_i la lb hla hlb
     simp only[W0g] at h
     obtain⟨⟨h1,h2⟩,h3⟩:=h
     refine⟨by unfold Xal;rw[V];rfl,by unfold Xal;rw[hi];rfl,h1,h2,λ{s} hz=>⟨λ{j} hr=>?_,λ{g Q} hri j=>?_⟩⟩
     . rcases Xa2 hr with ⟨_,e,_⟩ | ⟨_,e⟩
       . exact e
       . exact(Yny (o:=k) (by rw[V];rfl) (e:=s.1) (g:=s.2) e).1
     . have O:∀ {g g':Hp},(∀o,o ∉ lb->g o=g' o)->efw tb L k (s.1,g)=some j->efw tb L k (s.1,g')=some j:=by
        intro g g' hg hr
        rcases Xa2 hr with ⟨_,_,e⟩ | ⟨hw,e⟩
        . exact e g'
        . have:∃v,s.1 a=some v:=by
           unfold eff at e
           split at e<;>try cases e
           rename_i asx I
           rw[V] at I
           simp only[Op.operands,getEs,Xbt] at I
           split at I<;>try cases I
           exact⟨_,by assumption⟩
          obtain⟨v,Z⟩:=this
          refine Xeu (s:=(s.1,g)) hw (Yjj V Z (λo ho=>hg o λhb=>?_) e).2
          have:=W1o.1 h3 o (Xno hz hla Z ho)
          rw[Ynl.2 hb] at this;cases this
       have hu:∀o,o ∉ lb->g o=Xbg g Q.2 o:=by
        intro o hob
        rcases Xa2 hri with ⟨_,e,_⟩ | ⟨_,e⟩
        . rw[e];rfl
        . obtain⟨v,o',ob,Z,ho',e2⟩:=Ymq hi e
          rw[e2]
          show g o=upd g o' ob o
          rw[Xak λe=>hob (by rw[e];exact Xno hz hlb Z ho')]
       exact⟨O hu,O λo ho=>(hu o ho).symm⟩
   . cases h
 . cases h
theorem Dm.trk{L:List Oper}{E:Env}{T:Trk}(hT:Xmd (dsL L) E T L=true): Dm tb L (spT L (dsL L) E T) (ZT (dsL L) E T):=by
 have fin:∀ {k i:Oper} {s:S} {j o:AV×List (Nat×Ob)},Xb2 L i.dst k=true->j.2=[]->Vm.aft (Vm.aft s i o) k j=Vm.aft (Vm.aft s k j) i o:=by
  intro k i s j o h hr
  unfold Vm.aft
  rw[S.put_g,S.put_g,hr]
  have e1:=S.put_e (s:=s) (g:=Xbg s.2 o.2) (g':=s.2) (d:=i.dst) (v:=o.1)
  have e2:=S.put_e (s:=s) (g:=Xbg s.2 []) (g':=s.2) (d:=k.dst) (v:=j.1)
  rw[e1,e2]
  exact Xlb (s:=s) (λa b ha hb=>Xgh h ha hb) rfl
 have one:∀ {k i:Oper} {s:S} {j o:AV×List (Nat×Ob)},Yjh L (dsL L) E T k i=true->ZT (dsL L) E T s->efw tb L k s=some j->efw tb L i s=some o->efw tb L i (Vm.aft s k j)=some o/\efw tb L k (Vm.aft s i o)=some j/\Vm.aft (Vm.aft s i o) k j=Vm.aft (Vm.aft s k j) i o:=by
  intro k i s j o h I Q O
  obtain⟨c1,c2,a1,V,Z⟩:=Xgb (tb:=tb) h
  obtain⟨b1,b2⟩:=Z I
  have e:=b1 Q
  exact⟨by rw[Xbn a1,e];exact O,by rw[Xbn V];exact(b2 (g:=s.2) O j).1 Q,fin V e⟩
 refine⟨λ{k i} h=>?_,λ{k i s j o} h I Q O=>?_,λ{k i s j o} h I Q O=>?_,λ{k s r} hk hc I h=>?_,λ{k s r} hk hc I h=>ZT.aft (tb:=tb) hT hk I (.inr (.inl hc))⟩
 . rcases W7v.1 h with h | h
   . have:=Xgb (tb:=tb) h;exact⟨this.1,this.2.1⟩
   . have:=Xgb (tb:=tb) h;exact⟨this.2.1,this.1⟩
 . rcases W7v.1 h with h | h
   . exact one h I Q O
   . obtain⟨p1,p2,p3⟩:=one h I O Q;exact⟨p2,p1,p3.symm⟩
 . rcases W7v.1 h with h | h
   . obtain⟨c1,c2,a1,V,Z⟩:=Xgb (tb:=tb) h
     rw[Xbn a1,(Z I).1 Q] at O
     exact O
   . obtain⟨c1,c2,a1,V,Z⟩:=Xgb (tb:=tb) h
     rw[Xbn V] at O
     exact((Z I).2 (g:=s.2) Q o).2 O
 . refine ZT.aft (tb:=tb) hT hk I ?_
   rcases Xa2 h with ⟨hw,_,e⟩ | ⟨_,e⟩
   . refine .inl ?_
     unfold efw at h
     rw[hw] at h
     simp only at h
     split at h<;>cases h
     rfl
   . exact .inr (.inr e)
section
variable{c:Cx}{s:St}
def Yqo: St->Bool
 | .o _ _ L _ _ E _=>Xmd (dsL L) E (trk (dsL L) E L []) L&&Xhi L (spT L (dsL L) E (trk (dsL L) E L [])) [] [] L
 | _=>false
theorem ZT.start{L:List Oper}{E:Env}{H:Hpl}{T:Trk}(h:Xmd (dsL L) E T L=true): ZT (dsL L) E T (sem E H):=by
 refine⟨λt _=>rfl,λt l i=>.inl ?_⟩
 simp only[Xmd,W0g] at h
 have:=W1o.1 h.1 _ (Xbf i)
 rw[W1x] at this
 exact Xbk this
theorem Dz{s':St}(h:nxD c.tb c.n s=some s')(k:StP c s')(i:Yqo s'=true:=by exact rfl): StP c s:=by
 unfold nxD at h
 split at h<;>try cases h
 rename_i o
 split at h<;>cases h
 rename_i j
 have i:=Bool.and_eq_true_iff.1 i
 exact go 1000 o (J.draw (Dm.trk i.1) (ZT.start i.1) j i.2 k)
end
end
end
end Go.Vm
namespace Go.Proofs.YtfjafaehfjjaiaaGreatDoor
open Go Go.Vm Go.Num Go.Proofs
section
abbrev C0:=C Tryz.prog
abbrev CG0:=CG Tryz.prog
abbrev CA0:=CA Tryz.prog
abbrev CO0:=CO Tryz.prog
abbrev CN0:=CN Tryz.prog
abbrev CW0:=CW Tryz.prog
def wd(n:Nat): D:=.int .u32 n
def ws(l:List Nat): D:=.sl 1 (l.map wd)
def dS(b:Bool)(l:List Nat): D:=.st (.pr (.bool b) (ws l))
theorem mp{α:Type}{l:List α}{f:α->D}{j:Nat}{u:α}(h:l[j]?=some u): (l.map f)[j]?=some (f u):=by simp[h]
theorem ms{α:Type}{l:List α}{f:α->D}{j:Nat}{u:α}: (l.map f).set j (f u)=(l.set j u).map f:=by simp
theorem Xa6{l:List Nat}(O:Xar l)(Q:l.length<=1099511627776): C0 167 [.d (ws l)] (·=.d (ws (dig (val l)))):=by
 refine En Tryz.func167 λ_ _ _=>?_
 refine Lo (λk=>[(0,.d (ws (l.take k)))]) (λ_=>[]) (λk=>k<=l.length/\val (l.take k)=val l) id l.length [] rfl ⟨W0a _,by rw[W2h]⟩ (λk ⟨I,j⟩=>?_) (hf:=⟨by simp only[W2h];rfl,rfl,rfl,rfl,rfl⟩)
 refine By rfl (λh=>?_) λh=>?_<;>simp only[W0i,W0f,W2e I] at h
 . have Q:((l.take k).map wd).length=k:=by simp;omega
   refine Ar (k-1:Nat) rfl ?_
   have o:=W0e (l:=l) (i:=k-1) (by omega)
   refine Ix (k-1) rfl (u:=wd l[k-1]) (mp (by rw[W1d,if_pos (by omega),o])) ?_
   have hs:=Xac o
   rw[show k-1+1=k by omega,j] at hs
   refine By rfl (λh0=>?_) λh0=>?_
   . refine Ar (k-1:Nat) rfl ?_
     refine Tk (k-1) ((l.take (k-1)).map wd) rfl rfl (by simp;omega) (by rw[<-W2g,List.take_take,W2e (by omega)]) ?_
     exact Bk (k-1) [] rfl ⟨by omega,by rw[hs,show l[k-1]=0 by omega,W3f,W2i]⟩ (show k-1<k by omega)
   . exact R1 rfl (.eq (by rw[<-j,Xfo (O.take k) (.inr ⟨l[k-1],by rw[W0f,W2e I,W1d,if_pos (by omega),o],λe=>h0 (by rw[e];rfl)⟩)]))
 . refine R1 rfl (.eq ?_)
   rw[show k=0 by omega] at j |-
   rw[<-j,W5e,val,Xan]
theorem Xck{n:Nat}(h:n<18446744073709551616): C0 194 [.d (.int .u64 n)] (·=.d (ws (dig n))):=by
 refine En Tryz.func194 λ_ _ _=>?_
 refine Go.Vm.Cv (n%4294967296:Nat) rfl ?_ (hr:=by rw[wWm];omega)
 refine Ar (n/4294967296:Nat) rfl ?_ (hr:=show _/\_ from⟨by omega,Yhz n⟩)
 refine Go.Vm.Cv (n/4294967296:Nat) rfl ?_
 refine Ce rfl (Xa6 (l:=[n%4294967296,n/4294967296]) (.cons (by omega) (.cons (by omega) .nil)) (by simp)) ?_
 exact R1 rfl (.eq (by rw[show val [n%4294967296,n/4294967296]=n by simp only[val];omega]))
theorem trim_dig_ok{n:Nat}(h:(dig n).length<=1099511627776): C0 167 [.d (ws (dig n))] (·=.d (ws (dig n))):=by
 have:=Xa6 (Xae n) h
 rwa[Xag] at this
theorem Xt4{b:Bool}{n:Nat}(h:(dig n).length<=1099511627776): C0 184 [.d (.bool b),.d (ws (dig n))] (·=.d (dS (b&&n != 0) (dig n))):=by
 refine En Tryz.func184 λ_ _ _=>?_
 refine Ce rfl (trim_dig_ok h) ?_
 refine By rfl (λh=>?_) λh=>?_<;>simp only[W0i] at h
 . have:n=0:=Xsp.1 (W0q (by omega))
   subst this
   exact R1 rfl (by exact .sd (.pd (.bd (by simp)) (.nil (by rw[Xan];rfl))))
 . have:n≠0:=λe=>h (by rw[e,Xan];rfl)
   rw[show (b&&n != 0)=b by simp[this]]
   exact R0
def dz(z:Int): D:=dS (decide (z<0)) (dig z.natAbs)
def sg(neg:Bool)(n:Nat): Int:=if neg then -(n:Int) else (n:Int)
theorem Xxd{p:Prop}[Decidable p]: dc p=decide p:=by rw[W4q,Xaj,decide_eq_true_iff]
instance {p:Prop} [Decidable p]:Dc (decide p) p:=⟨decide_eq_true_iff⟩
theorem Ykj{b:Bool}{n:Nat}: dS (b&&n != 0) (dig n)=dz (sg b n):=by
 unfold dz sg
 cases b with
 | true =>
  rw[if_pos rfl,W5f,W1j]
  congr 1
  rw[W4q];simp;omega
 | false=>rw[if_neg (by decide),W1j];congr 1
theorem Xao{b:Bool}{n:Nat}(h:(dig n).length<=1099511627776): C0 184 [.d (.bool b),.d (ws (dig n))] (·=.d (dz (sg b n))):=by
 have:=Xt4 (b:=b) h
 rwa[Ykj] at this
theorem Xqd(z:Int): sg (decide (z<0)) z.natAbs=z:=by
 unfold sg;by_cases h:z<0
 . rw[if_pos (decide_eq_true h)];omega
 . rw[if_neg (by rw[decide_eq_true_eq];exact h)];omega
theorem FromInt_ok{z:Int}(h:-9223372036854775808<=z/\z<9223372036854775808): C0 116 [.d (.int .i64 z)] (·=.d (dz z)):=by
 have i:(dig z.natAbs).length<=2:=Xat (by omega)
 refine En Tryz.func116 λ_ _ _=>?_
 refine Go.Vm.Cv (z%18446744073709551616) rfl ?_ (hr:=wUm _)
 refine By rfl (λh=>?_) λh=>?_
 . refine Ne (z.natAbs:Int) rfl ?_ (hr:=by rw[wUm];omega)
   refine Ce rfl (Xck (n:=z.natAbs) (by omega)) ?_
   refine Ce rfl (Xao (n:=z.natAbs) (by omega)) ?_
   exact R1 rfl (.eq (by rw[Xxd,Xqd]))
 . refine Ce (r:=.d (ws (dig z.natAbs))) rfl (by have:=Xck (n:=z.natAbs) (by omega);rwa[show ((z.natAbs:Nat):Int)=z%18446744073709551616 by omega] at this) ?_
   refine Ce rfl (Xao (n:=z.natAbs) (by omega)) ?_
   exact R1 rfl (.eq (by rw[Xxd,Xqd]))
end
section
theorem ww{l:List Nat}{j:Nat}{u:Nat}(h:l[j]?=some u)(i:Xar l): u<4294967296:=i u (W0h h)
theorem xat{l:List Nat}{k:Nat}(h:k<l.length): ∃x,l[k]?=some x:=⟨_,W0e h⟩
theorem Xjh{k:IntKind}{s n:Nat}(h:n<=k.bits): arB .shr k s n (s/2^n:Nat):=by
 refine⟨by omega,?_⟩
 rw[W7j,W2e h,show (2:Int)^n=((2^n:Nat):Int) by rw[W7p];rfl,W1t _ (W5d _)]
 rfl
theorem Xim{x y:Nat}(hx:(dig x).length<=1099511627775)(hy:(dig y).length<=1099511627775): C0 189 [.d (ws (dig x)),.d (ws (dig y))] (·=.d (ws (dig (x+y)))):=by
 refine En Tryz.func189 λ_ _ _=>?_
 refine Cu none (λ(a,b)=>[(0,.d (ws (dig a))),(1,.d (ws (dig b)))]) (λ_=>[]) (λ(a,b)=>a+b=x+y/\(dig b).length<=(dig a).length/\(dig a).length<=1099511627775) rfl ?_ λ⟨a,b⟩ ⟨hs,hle,hbig⟩=>?_
 . refine By rfl (λh=>?_) λh=>?_<;>simp only[W0i] at h
   . exact Jn (y,x) [] rfl ⟨Nat.add_comm _ _,by omega,hy⟩
   . exact Jn (x,y) [] rfl ⟨rfl,by omega,hx⟩
 refine Ar ((dig a).length+1) rfl ?_ (wr (by simp) (by simp only[inK];omega))
 refine Mk 0 rfl (by omega) ?_
 refine Lo (λ(k,lo,i)=>[(1,.d (ws (dig b))),(5,.own 19 1 0 k),(6,.d (.int .u64 (i:Nat))),(20,.d (ws (dig a))),(21,.d (.int .i64 (dig a).length)),(22,.d (.int .i64 (k:Nat)))]) (λ(_,lo,_)=>[(19,.arr 1 (lo.map wd))])
  (λ(k,lo,i)=>k<=(dig a).length/\lo.length=k/\Xar lo/\i<=1/\val lo+4294967296^k*i=val ((dig a).take k)+val ((dig b).take k)) (λ(k,_,_)=>(dig a).length-k) (0,[],0) [] rfl ⟨by omega,rfl,.nil,by omega,by simp[val]⟩ ?_ (by exact⟨by simp only[ws,W0i];rfl,rfl,rfl,rfl,rfl⟩)
 rintro⟨k,lo,i⟩ ⟨hk,j,V,hcr,Q⟩
 refine By rfl (λh=>?_) λh=>?_
 . obtain⟨u,Z⟩:=xat (l:=dig a) (k:=k) (by omega)
   have hub:=ww Z (Xae a)
   refine Ix k rfl (mp Z) ?_
   refine Go.Vm.Cv u rfl ?_
   refine Ar (i+u:Nat) rfl ?_
   refine Cu none (λ(s:Nat)=>[(1,.d (ws (dig b))),(5,.own 19 1 0 k),(6,.d (.int .u64 s)),(20,.d (ws (dig a))),(21,.d (.int .i64 (dig a).length)),(22,.d (.int .i64 k))]) (λ_=>[(19,.arr 1 (lo.map wd))])
    (λs=>s<8589934592/\4294967296^k*s+val lo=val ((dig a).take (k+1))+val ((dig b).take (k+1))) rfl ?_ λs ⟨hs8,hsv⟩=>?_
   . refine By rfl (λh2=>?_) λh2=>?_<;>simp only[W0i] at h2
     . obtain⟨u2,O⟩:=xat (l:=dig b) (k:=k) (by omega)
       have hub2:=ww O (Xae b)
       refine Ix k rfl (mp O) ?_
       refine Go.Vm.Cv u2 rfl ?_
       refine Ar (i+u+u2:Nat) rfl ?_
       exact Jn (i+u+u2) [] rfl ⟨by omega,by rw[Xac Z,Xac O,W1f,W1f];omega⟩
     . exact Jn (i+u) [] rfl ⟨by omega,by rw[Xac Z,Xgv (l:=dig b) (by omega),W1f];omega⟩
   refine Go.Vm.Cv (s%4294967296:Nat) rfl ?_ (by rw[wWm];omega)
   refine ApO ((lo++[s%4294967296]).map wd) rfl rfl (by simp[j]) (by simp;rfl) (by simp;omega) ?_
   refine Ar (s/4294967296:Nat) rfl ?_ (Xjh (n:=32) (by decide))
   refine Ar (k+1:Nat) rfl ?_
   refine Bk (k+1,lo++[s%4294967296],s/4294967296) [(46,19)] rfl ⟨by show k+1<=_;omega,by simp[j],V.app (.cons (by omega) .nil),by show s/4294967296<=1;omega,?_⟩ (by show _-(k+1)<_-k;omega) (by exact⟨by simp[j];rfl,rfl,rfl,rfl,rfl⟩)
   rw[Xez,j,<-hsv,W1a,W0y]
   have e2:4294967296^k*s=4294967296^k*(s%4294967296)+4294967296^k*(4294967296*(s/4294967296)):=by rw[<-W1f];congr 1;omega
   simp only[val,W3f,W2i]
   omega
 . have o:k=(dig a).length:=by omega
   have I:val lo+4294967296^k*i=x+y:=by rw[Q,W0b (by omega),W0b (by omega),Xag,Xag,hs]
   refine By rfl (λh=>?_) λh=>?_
   . refine Go.Vm.Cv i rfl ?_
     refine ApO ((lo++[i]).map wd) rfl rfl (by simp[j]) (by simp;rfl) (by simp;omega) ?_
     refine R1 rfl (.own rfl (by simp) ?_)
     have e:val (lo++[i])=val lo+4294967296^k*i:=by rw[Xez,j];simp[val]
     rw[W1e,W2h,<-I,<-e,Xfo (V.app (.cons (by omega) .nil)) (.inr ⟨i,by simp,by omega⟩)]
   . have hc0:i=0:=by omega
     subst hc0
     refine R1 rfl (.own rfl (by simp[j]) ?_)
     rw[W1e,W0b (by simp[j]),<-I,W3f,W2i,Xfo V]
     rcases W2v k with T | T
     . exact .inl (W0q (by rw[j];exact T))
     . have ha:a≠0:=λhh=>by rw[hh,Xan] at o;simp at o;omega
       have hlb:=Xrk ha
       refine Xpu V (by omega) ?_
       rw[j,o]
       have hab:a<=x+y:=by omega
       rw[<-o] at hlb |-
       omega
theorem oa{l:List Nat}{n:Nat}(h:l.length=n): ((l.map wd).drop 0).take n=l.map wd:=by rw[W1e,W0b (by simp[h])]
theorem lw(l:List Nat): (l.map wd).length=l.length:=W0i ..
theorem Xd6{x y:Nat}(hx:(dig x).length<=1099511627776)(Q:y<=x): C0 191 [.d (ws (dig x)),.d (ws (dig y))] (·=.d (ws (dig (x-y)))):=by
 have hll:=Xas Q
 refine En Tryz.func191 λ_ _ _=>?_
 refine Mk (dig x).length rfl (by simp only[lw];omega) ?_ (by simp only[lw])
 refine Lo (λ(k,lo,i)=>[(1,.d (ws (dig y))),(5,.own 12 1 0 (dig x).length),(6,.d (.int .u64 (i:Nat))),(13,.d (ws (dig x))),(14,.d (.int .i64 (dig x).length)),(15,.d (.int .i64 (k:Nat)))]) (λ(_,lo,_)=>[(12,.arr 1 (lo.map wd))])
  (λ(k,lo,i)=>k<=(dig x).length/\lo.length=(dig x).length/\Xar lo/\i<=1/\val (lo.take k)+val ((dig y).take k)+4294967296^k*0=val ((dig x).take k)+4294967296^k*i) (λ(k,_,_)=>(dig x).length-k) (0,List.replicate (dig x).length 0,0) [] rfl
  ⟨by omega,by simp,λ_ h=>by rw[(W5r.1 h).2];omega,by omega,by simp[val]⟩ ?_ (by exact⟨by simp only[lw,ws];rfl,by simp only[W2j];rfl,rfl,rfl,rfl⟩)
 rintro⟨k,lo,i⟩ ⟨hk,T,V,hbr,j⟩
 rw[W3f,W2i] at j
 refine By rfl (λh=>?_) λh=>?_
 . obtain⟨u,Z⟩:=xat (l:=dig x) (k:=k) (by omega)
   have hub:=ww Z (Xae x)
   refine Ix k rfl (mp Z) ?_
   refine Go.Vm.Cv u rfl ?_
   refine Ar ((u+18446744073709551616-i)%18446744073709551616:Nat) rfl ?_ (by show _=_;rw[wUm];omega)
   refine Cu none (λ(s:Nat)=>[(1,.d (ws (dig y))),(5,.own 12 1 0 (dig x).length),(7,.d (.int .i64 k)),(9,.d (.int .u64 s)),(13,.d (ws (dig x))),(14,.d (.int .i64 (dig x).length)),(15,.d (.int .i64 k))]) (λ_=>[(12,.arr 1 (lo.map wd))])
    (λs=>s<18446744073709551616/\s/9223372036854775808<=1/\∃v,s%4294967296+v+i=u+4294967296*(s/9223372036854775808)/\val ((dig y).take (k+1))=val ((dig y).take k)+4294967296^k*v) rfl ?_ λs ⟨hs,hs2,v,hsv,hyv⟩=>?_
   . refine By rfl (λh2=>?_) λh2=>?_<;>simp only[lw] at h2
     . obtain⟨O,o⟩:=xat (l:=dig y) (k:=k) (by omega)
       have hub2:=ww o (Xae y)
       refine Ix k rfl (mp o) ?_
       refine Go.Vm.Cv O rfl ?_
       refine Ar ((u+18446744073709551616-i+18446744073709551616-O)%18446744073709551616:Nat) rfl ?_ (by show _=_;rw[wUm];omega)
       exact Jn ((u+18446744073709551616-i+18446744073709551616-O)%18446744073709551616) [] rfl ⟨by omega,by omega,O,by omega,Xac o⟩
     . exact Jn ((u+18446744073709551616-i)%18446744073709551616) [] rfl ⟨by omega,by omega,0,by omega,by rw[Xgv (by omega)];rfl⟩
   refine Go.Vm.Cv (s%4294967296:Nat) rfl ?_ (by rw[wWm];omega)
   refine Eo k rfl (by omega) ?_
   refine Sto rfl (by simp only[lw];omega) ms ?_
   refine Ar (s/9223372036854775808:Nat) rfl ?_ (Xjh (n:=63) (by decide))
   refine Ar (k+1:Nat) rfl ?_
   refine Bk (k+1,lo.set k (s%4294967296),s/9223372036854775808) [] rfl ⟨by omega,by simp[T],λx hx=>(W5i hx).elim (V x) λe=>by rw[e];omega,by omega,?_⟩ (by show _-(k+1)<_-k;omega)
   rw[W3f,W2i,Xbh (by omega),hyv,Xac Z,W1a,W0y]
   have e:4294967296^k*(s%4294967296+v+i)=4294967296^k*(u+4294967296*(s/9223372036854775808)):=by rw[hsv]
   simp only[W1f] at e
   omega
 . have hkn:k=(dig x).length:=by omega
   rw[hkn,W0b (by omega),W0b (by omega),W0b (by omega),Xag,Xag] at j
   have hvl:=Xby V
   rw[T] at hvl
   have I:i=0:=by
    rcases W2v i with h0 | h0
    . exact h0
    . have h1:4294967296^(dig x).length*1<=4294967296^(dig x).length*i:=W0v _ h0
      omega
   rw[I,W3f] at j
   refine Fz 12 5 (lo.map wd) rfl (by simp only[lw];omega) (oa T) ?_
   refine Ce rfl (Xa6 V (by omega)) ?_
   exact R1 rfl (.eq (by rw[show val lo=x-y by omega]))
theorem Xeg{a:Int}: C0 313 [.d (.int .i64 a)] (·=.b false):=by
 refine En Tryz.func313 λ_ _ _=>?_
 exact R1 rfl (by exact(show dc (a≠a)=false by rw[W6n];intro h;exact Xaj.1 h rfl) ▸ .rf rfl)
theorem Xef{a:Int}: C0 320 [.d (.int .u32 a)] (·=.b false):=by
 refine En Tryz.func320 λ_ _ _=>?_
 exact R1 rfl (by exact(show dc (a≠a)=false by rw[W6n];intro h;exact Xaj.1 h rfl) ▸ .rf rfl)
theorem Xdd{a b:Int}: C0 253 [.d (.int .i64 a),.d (.int .i64 b)] (·=.d (.int .i64 (Xbb a b))):=by
 refine En Tryz.func253 λ_ _ _=>?_
 refine Ce rfl Xeg ?_
 refine Ce rfl Xeg ?_
 refine No rfl nofun ?_
 refine No rfl nofun ?_
 refine By rfl (λh=>?_) λh=>?_
 . exact R1 rfl (.eq (by rw[Xbb,if_pos h]))
 . refine By rfl (λi=>?_) λi=>?_
   . exact R1 rfl (.eq (by rw[Xbb,if_neg h,if_pos i]))
   . exact R1 rfl (.eq (by rw[Xbb,if_neg h,if_neg i]))
theorem Xgj{a b:Int}: C0 258 [.d (.int .u32 a),.d (.int .u32 b)] (·=.d (.int .i64 (Xbb a b))):=by
 refine En Tryz.func258 λ_ _ _=>?_
 refine Ce rfl Xef ?_
 refine Ce rfl Xef ?_
 refine No rfl nofun ?_
 refine No rfl nofun ?_
 refine By rfl (λh=>?_) λh=>?_
 . exact R1 rfl (.eq (by rw[Xbb,if_pos h]))
 . refine By rfl (λi=>?_) λi=>?_
   . exact R1 rfl (.eq (by rw[Xbb,if_neg h,if_pos i]))
   . exact R1 rfl (.eq (by rw[Xbb,if_neg h,if_neg i]))
theorem Xb6{x y:Nat}(hx:(dig x).length<=1099511627776): C0 190 [.d (ws (dig x)),.d (ws (dig y))] (·=.d (.int .i64 (Xbb x y))):=by
 refine En Tryz.func190 λ_ _ _=>?_
 refine By rfl (λh=>?_) λh=>?_<;>simp only[lw] at h
 . refine Ce rfl Xdd ?_
   refine R1 rfl (.eq ?_)
   simp only[lw]
   congr 1
   have I:(dig x).length≠(dig y).length:=by omega
   rcases W7d I with O | O
   . have:=Xdp O
     rw[Xbb,Xbb,if_pos (by omega),if_pos (by omega)]
   . have:=Xdp O
     rw[Xbb,Xbb,if_neg (by omega),if_pos (by omega),if_neg (by omega),if_pos (by omega)]
 . refine Ar ((dig x).length-1:Int) rfl ?_ (wr (by simp only[lw]) (by simp only[inK];omega))
   refine Lo (λ(k:Nat)=>[(0,.d (ws (dig x))),(1,.d (ws (dig y))),(5,.d (.int .i64 ((k:Int)-1)))]) (λ_=>[]) (λk=>k<=(dig x).length/\(dig x).drop k=(dig y).drop k) (λk=>k) (dig x).length [] rfl ⟨by omega,by rw[W1y (by omega),W1y (by omega)]⟩ λk ⟨hk,hd⟩=>?_
   refine By rfl (λh1=>?_) λh1=>?_
   . obtain⟨u,j⟩:=xat (l:=dig x) (k:=k-1) (by omega)
     obtain⟨v,o⟩:=xat (l:=dig y) (k:=k-1) (by omega)
     refine Dw rfl ?_
     refine Ix (k-1) rfl (mp j) ?_
     refine Ix (k-1) rfl (mp o) ?_
     refine By rfl (λh2=>?_) λh2=>?_
     . refine Dw rfl ?_
       refine Ix (k-1) rfl (mp j) ?_
       refine Ix (k-1) rfl (mp o) ?_
       refine Ce rfl Xgj ?_
       refine R1 rfl (.eq ?_)
       congr 1
       have I:u≠v:=by omega
       have Q:(dig x).drop (k-1+1)=(dig y).drop (k-1+1):=by rw[show k-1+1=k by omega];exact hd
       rcases W7d I with O | O
       . have:=Xj4 (Xae x) (by omega) (by omega) j o Q O
         rw[Xag,Xag] at this
         rw[Xbb,Xbb,if_pos (by omega),if_pos (by omega)]
       . have:=Xj4 (Xae y) (by omega) (by omega) o j Q.symm O
         rw[Xag,Xag] at this
         rw[Xbb,Xbb,if_neg (by omega),if_pos (by omega),if_neg (by omega),if_pos (by omega)]
     . refine Ar ((k-1:Nat)-1:Int) rfl ?_
       refine Bk (k-1) [] rfl ⟨by omega,?_⟩ (by show k-1<k;omega)
       have T:u=v:=by omega
       rw[W3h (l:=dig x) (i:=k-1) (by omega),W3h (l:=dig y) (i:=k-1) (by omega),show k-1+1=k by omega,hd]
       rw[W0e (by omega)] at j o
       injection j with j
       injection o with o
       rw[j,o,T]
   . have V:k=0:=by omega
     rw[V,W1e,W1e] at hd
     have Z:x=y:=by rw[<-Xag x,hd,Xag]
     exact R1 rfl (.eq (by rw[Z,Xbb,if_neg (by omega),if_neg (by omega)]))
end
section
theorem Yn6{a b n:Nat}(ha:a<2^n)(hb:b<2^n): (BitVec.ofInt n (a:Int)|||BitVec.ofInt n (b:Int)).toNat=a|||b:=by
 simp[BitVec.toNat_or,BitVec.toNat_ofInt]
 rw[W4b ha,W4b hb]
theorem Ylu{a b r:Nat}(ha:a<4294967296)(hb:b<4294967296)(h:a|||b=r)(hr:r<4294967296): arB .or .u32 a b r:=by
 show IntKind.u32.wrap _=_
 rw[show IntKind.bits .u32=32 from rfl,Yn6 ha hb,h]
 exact wW (by omega)
theorem Yb8{a b r:Nat}(ha:a<18446744073709551616)(hb:b<18446744073709551616)(h:a|||b=r)(hr:r<18446744073709551616): arB .or .u64 a b r:=by
 show IntKind.u64.wrap _=_
 rw[show IntKind.bits .u64=64 from rfl,Yn6 ha hb,h]
 exact wU (by omega)
theorem Xig{u n r:Nat}(h:u*2^n=r)(hr:r<18446744073709551616)(i:n<=64): arB .shl .u64 u n r:=⟨by omega,by subst h;exact Yh0 hr i⟩
theorem Xbs{l:List Nat}(i:l.length<=1099511627776): C0 166 [.d (ws l)] (·=.d (ws l)):=by
 refine En Tryz.func166 λ_ _ _=>?_
 refine Ub rfl (λh=>?_) ?_
 . exact R1 rfl (.nil h)
 . by_cases h:l=[]
   . subst h
     refine ApE rfl rfl (by decide) ?_
     exact R1 rfl (.lit rfl)
   . have h0:=W6x.2 h
     refine ApL (l.map wd) rfl rfl (by simpa using h0) (by simpa using i) ?_
     exact R1 rfl (.own rfl (by simp) (by simp only[W1e];exact W0b (by simp)))
theorem Xkz{x y:Nat}(hx:(dig x).length<=549755813888)(hy:(dig y).length<=549755813888): C0 185 [.d (ws (dig x)),.d (ws (dig y))] (·=.d (ws (dig (x*y)))):=by
 have hz:∀ {x:Nat},(dig x).length=0->x=0:=λh=>Xsp.1 (W0q h)
 refine En Tryz.func185 λ_ _ _=>?_
 refine By rfl (λh=>?_) λh=>?_<;>simp only[lw] at h
 . exact R1 rfl (.nil (by rw[hz (by omega:(dig x).length=0),W4n,Xan];rfl))
 refine By rfl (λh=>?_) λh=>?_<;>simp only[lw] at h
 . exact R1 rfl (.nil (by rw[hz (by omega:(dig y).length=0),W3f,Xan];rfl))
 refine Ar ((dig x).length+(dig y).length:Nat) rfl ?_ (wr (by simp only[lw];omega) (by simp only[inK];omega))
 refine Mk ((dig x).length+(dig y).length) rfl (by omega) ?_
 refine Lo (λ(i,lo)=>[(1,.d (ws (dig y))),(5,.own 24 1 0 ((dig x).length+(dig y).length)),(25,.d (ws (dig x))),(26,.d (.int .i64 (dig x).length)),(27,.d (.int .i64 (i:Nat)))]) (λ(_,lo)=>[(24,.arr 1 (lo.map wd))])
  (λ(i,lo)=>i<=(dig x).length/\lo.length=(dig x).length+(dig y).length/\Xar lo/\val (lo.take (i+(dig y).length))=val ((dig x).take i)*y/\∀j,i+(dig y).length<=j->j<(dig x).length+(dig y).length->lo[j]?=some 0) (λ(i,_)=>(dig x).length-i)
  (0,List.replicate ((dig x).length+(dig y).length) 0) [] rfl ⟨by omega,by simp,λ_ h=>by rw[(W5r.1 h).2];omega,by rw[W5n,Xbx];simp[val],λj _ h=>by rw[W4h,if_pos h]⟩ ?_ (by exact⟨by simp only[lw,ws];rfl,by simp only[W2j];rfl,rfl,rfl,rfl⟩)
 rintro⟨i,I⟩ ⟨hi,Z,hw0,O,hz0⟩
 refine By rfl (λh=>?_) λh=>?_
 . obtain⟨u,hu⟩:=xat (l:=dig x) (k:=i) (by omega)
   have hub:=ww hu (Xae x)
   refine Ix i rfl (mp hu) ?_
   refine Lo (λ(k,lo,Q)=>[(1,.d (ws (dig y))),(5,.own 24 1 0 ((dig x).length+(dig y).length)),(6,.d (.int .i64 i)),(7,.d (.int .u32 u)),(8,.d (.int .u64 (Q:Nat))),(25,.d (ws (dig x))),(26,.d (.int .i64 (dig x).length)),(27,.d (.int .i64 i)),(32,.d (ws (dig y))),(33,.d (.int .i64 (dig y).length)),(34,.d (.int .i64 (k:Nat)))]) (λ(_,lo,_)=>[(24,.arr 1 (lo.map wd))])
    (λ(k,lo,Q)=>k<=(dig y).length/\lo.length=(dig x).length+(dig y).length/\Xar lo/\Q<4294967296/\(∀j,i+k<=j->lo[j]?=I[j]?)/\val (lo.take (i+k))+4294967296^(i+k)*Q=val (I.take (i+k))+4294967296^i*(u*val ((dig y).take k))) (λ(k,_,_)=>(dig y).length-k)
    (0,I,0) [] rfl ⟨by omega,Z,hw0,by omega,λ_ _=>rfl,by simp[val]⟩ ?_ (by exact⟨by simp only[lw,ws];rfl,rfl,rfl,rfl,rfl⟩)
   rintro⟨k,lo,Q⟩ ⟨hk,hl,hw,hcr,o,T⟩
   refine By rfl (λh=>?_) λh=>?_
   . obtain⟨v,hv⟩:=xat (l:=dig y) (k:=k) (by omega)
     have hvb:=ww hv (Xae y)
     obtain⟨w,V⟩:=xat (l:=lo) (k:=i+k) (by omega)
     have hwb:=ww V hw
     have huv:u*v<=4294967295*4294967295:=W1z (by omega) (by omega)
     refine Ix k rfl (mp hv) ?_
     refine Go.Vm.Cv u rfl ?_
     refine Go.Vm.Cv v rfl ?_
     refine Ar (u*v:Nat) rfl ?_ (wr (W2n ..).symm (by simp only[inK];omega))
     refine Ar (i+k:Nat) rfl ?_
     refine Eo (i+k) rfl (by omega) ?_
     refine Ld (wd w) rfl (mp V) ?_
     refine Go.Vm.Cv w rfl ?_
     refine Ar (u*v+w:Nat) rfl ?_
     obtain⟨s,hs⟩:∃s,s=Q+(u*v+w):=⟨_,rfl⟩
     have hs2:s<18446744073709551616:=by omega
     refine Ar (s:Nat) rfl ?_
     refine Ar (i+k:Nat) rfl ?_
     refine Go.Vm.Cv (s%4294967296:Nat) rfl ?_ (by rw[wWm];omega)
     refine Eo (i+k) rfl (by omega) ?_
     refine Sto rfl (by simp only[lw];omega) ms ?_
     refine Ar (s/4294967296:Nat) rfl ?_ (Xjh (n:=32) (by decide))
     refine Ar (k+1:Nat) rfl ?_
     refine Bk (k+1,lo.set (i+k) (s%4294967296),s/4294967296) [] rfl ⟨by omega,by simp[hl],λx hx=>(W5i hx).elim (hw x) λe=>by rw[e];omega,by omega,λj hj=>by rw[W2a (by omega)];exact o j (by omega),?_⟩ (by show _-(k+1)<_-k;omega)
     have hw0':I[i+k]?=some w:=by rw[<-o (i+k) (W0a _)];exact V
     rw[<-W4u,Xbh (by omega),Xac hw0',Xac hv,W1a,W0y,W1f u,W1f (4294967296^i)]
     have e:4294967296^(i+k)*s=4294967296^(i+k)*(s%4294967296)+4294967296^(i+k)*(4294967296*(s/4294967296)):=by rw[<-W1f];congr 1;omega
     have e2:4294967296^(i+k)*s=4294967296^(i+k)*Q+4294967296^i*(u*(4294967296^k*v))+4294967296^(i+k)*w:=by
      rw[hs,W1f,W1f,W0z]
      have:4294967296^i*4294967296^k*(u*v)=4294967296^i*(u*(4294967296^k*v)):=by
       rw[W0y,W4z (4294967296^k) u v]
      omega
     omega
   . have hkm:k=(dig y).length:=by omega
     subst hkm
     refine Ar (i+(dig y).length:Nat) rfl ?_ (wr (by simp only[lw];omega) (by simp only[inK];omega))
     refine Go.Vm.Cv Q rfl ?_
     refine Eo (i+(dig y).length) rfl (by omega) ?_
     refine Sto rfl (by simp only[lw];omega) ms ?_
     refine Ar (i+1:Nat) rfl ?_
     refine Bk (i+1,lo.set (i+(dig y).length) Q) [] rfl ⟨by omega,by simp[hl],λx hx=>(W5i hx).elim (hw x) λe=>by rw[e];omega,?_,λj h1 h2=>by rw[W2a (by omega),o j (by omega)];exact hz0 j (by omega) h2⟩ (by show _-(i+1)<_-i;omega)
     rw[show i+1+(dig y).length=i+(dig y).length+1 by omega,Xbh (by omega),Xac hu,T,O,W0b (l:=dig y) (by omega),Xag,W1c,W0y]
 . have him:i=(dig x).length:=by omega
   rw[him,W0b (by omega),W0b (by omega),Xag] at O
   refine Fz 17 5 (I.map wd) rfl (by simp only[lw];omega) (oa Z) ?_
   refine Ce rfl (Xa6 hw0 (by omega)) ?_
   exact R1 rfl (.eq (by rw[O]))
end
section
theorem Xhl{l:List Nat}{k d:Nat}(h:Xar l)(hd:d<4294967296): Xar (l.set k d):=λx i=>(W5i i).elim (h x) λe=>by rw[e];exact hd
theorem Xfv(n:Nat): Xar (List.replicate n 0):=λ_ h=>by rw[(W5r.1 h).2];omega
theorem Ybs{u n:Nat}(i:u<4294967296)(j:n<32): u*2^n<9223372036854775808:=by
 have h:2^n<=2^31:=W0p (by decide) (by omega)
 have o:u*2^n<=4294967295*2^31:=W1z (by omega) h
 omega
theorem Xmh{u v n:Nat}(i:u<4294967296)(I:n<32): (u/2^n)|||(v*2^(32-n)%4294967296)=u/2^n+(v%2^n)*2^(32-n)/\u/2^n+(v%2^n)*2^(32-n)<4294967296:=by
 have h:=Xd5 v (32-n) (by omega)
 rw[show 32-(32-n)=n by omega] at h
 have hd:u/2^n<2^(32-n):=by
  rw[W2t (W0u n),<-W0z,show 32-n+n=32 by omega]
  exact i
 rw[h,Nat.or_comm,Xdn _ _ _ hd,Nat.add_comm]
 refine⟨rfl,?_⟩
 have j:v%2^n+1<=2^n:=W1s _ (W0u _)
 have o:=W0k (2^(32-n)) j
 rw[<-W0z,show n+(32-n)=32 by omega,W2k] at o
 omega
theorem Xp9{a b u v n m P:Nat}(o:n<32)(h:a*2^n+b=P+4294967296^m*(u%2^n)):
 (a+4294967296^m*(u/2^n+(v%2^n)*2^(32-n)))*2^n+b=P+4294967296^m*u+4294967296^(m+1)*(v%2^n):=by
 have i:4294967296^(m+1)=4294967296^m*4294967296:=W1a ..
 have j:v%2^n*2^(32-n)*2^n=4294967296*(v%2^n):=by
  rw[W0y,<-W0z,show 32-n+n=32 by omega,W1h]
 rw[W1c,W0y (4294967296^m),W1c (u/2^n),j,i,W0y (4294967296^m),W1f (4294967296^m)]
 have e:4294967296^m*u=4294967296^m*(u/2^n*2^n)+4294967296^m*(u%2^n):=by
  rw[<-W1f];congr 1;rw[W1h (u/2^n)];exact(W2q ..).symm
 omega
theorem Xhd{n x:Nat}(hx:(dig x).length<=549755813888)(I:n<32): CO0 316 [.d (ws (dig x)),.d (.int .i64 n)] λv ob=>∃l,l.length=(dig x).length+1/\Xar l/\val l=x*2^n/\v=.own 1000000 1 0 l.length/\ob=.arr 1 (l.map wd):=by
 have hp:=W0u n
 have hp32:2^n<=2147483648:=by have:2^n<=2^31:=W0p (by decide) (by omega);omega
 refine EnW Tryz.func316 λ_ _ _ _=>?_
 refine Ar ((dig x).length+1:Nat) rfl ?_ (wr (by simp only[lw];omega) (by simp only[inK];omega))
 refine Mk ((dig x).length+1) rfl (by omega) ?_
 refine Lo (λ(i,lo)=>[(1,.d (.int .i64 n)),(5,.own 12 1 0 ((dig x).length+1)),(13,.d (ws (dig x))),(14,.d (.int .i64 (dig x).length)),(15,.d (.int .i64 (i:Nat)))]) (λ(_,lo)=>[(12,.arr 1 (lo.map wd))])
  (λ(i,lo)=>i<=(dig x).length/\lo.length=(dig x).length+1/\Xar lo/\val (lo.take (i+1))=val ((dig x).take i)*2^n/\∃w,lo[i]?=some w/\w<2^n) (λ(i,_)=>(dig x).length-i) (0,List.replicate ((dig x).length+1) 0) [] rfl
  ⟨by omega,by simp,Xfv _,by rw[W5n,Xbx];simp[val],0,by simp,hp⟩ ?_ (by exact⟨by simp only[lw,ws];rfl,by simp only[W2j];rfl,rfl,rfl,rfl⟩)
 rintro⟨i,lo⟩ ⟨hi,Z,O,j,w,hw,hwn⟩
 refine By rfl (λh=>?_) λh=>?_
 . obtain⟨u,hu⟩:=xat (l:=dig x) (k:=i) (by omega)
   have Q:=ww hu (Xae x)
   have hs1:=Ybs Q I
   have o:=Xd5 u n (by omega)
   obtain⟨s,hs⟩:∃s,s=u*2^n:=⟨_,rfl⟩
   have T:=Xig hs.symm (by omega) (by omega:n<=64)
   rw[<-hs] at hs1 o
   have hor:w|||s%4294967296=s%4294967296+w:=by rw[Nat.or_comm,o];exact Xdn _ _ _ hwn
   have V:s%4294967296+w<4294967296:=by
    rw[o]
    have h1:u%2^(32-n)+1<=2^(32-n):=W1s _ (W0u _)
    have h2:=W0k (2^n) h1
    rw[<-W0z,show 32-n+n=32 by omega,W2k] at h2
    omega
   refine Ix i rfl (mp hu) ?_
   refine Go.Vm.Cv u rfl ?_
   refine Ar s rfl ?_ T
   refine Eo i rfl (by omega) ?_
   refine Ld (wd w) rfl (mp hw) ?_
   refine Go.Vm.Cv (s%4294967296:Nat) rfl ?_ (by rw[wWm];omega)
   refine Ar (s%4294967296+w:Nat) rfl ?_ (Ylu (by omega) (by omega) hor V)
   refine Eo i rfl (by omega) ?_
   refine Sto rfl (by simp only[lw];omega) ms ?_
   refine Ar (i+1:Nat) rfl ?_
   refine Ar (s/4294967296:Nat) rfl ?_ (Xjh (n:=32) (by decide))
   refine Go.Vm.Cv (s/4294967296:Nat) rfl ?_
   refine Eo (i+1) rfl (by omega) ?_
   refine Sto rfl (by simp only[W0i,W3p];omega) ms ?_
   refine Ar (i+1:Nat) rfl ?_
   refine Bk (i+1,(lo.set i (s%4294967296+w)).set (i+1) (s/4294967296)) [] rfl ⟨by omega,by simp[Z],Xhl (Xhl O V) (by omega),?_,s/4294967296,by rw[W2x (by rw[W3p];omega)],?_⟩ (by show _-(i+1)<_-i;omega)
   . rw[Xbh (by rw[W3p];omega),Xbh (by omega),Xac hu,W1c,<-j,Xac hw,W0y,<-hs,W1a,W1f,W0y]
     have e:4294967296^i*s=4294967296^i*(s%4294967296)+4294967296^i*(4294967296*(s/4294967296)):=by rw[<-W1f];congr 1;omega
     omega
   . rw[W2t (by decide),hs,W1h]
     exact Nat.mul_lt_mul_of_pos_left Q hp
 . have him:i=(dig x).length:=by omega
   rw[him,W0b (by omega),W0b (by omega),Xag] at j
   exact Rw [(12,1000000)] [(1000000,.arr 1 (lo.map wd))] rfl (.one (.rf rfl) rfl rfl) ⟨_,rfl,lo,Z,O,j,by rw[Z];rfl,rfl⟩
theorem Xf5{n:Nat}{l:List Nat}(hw:Xar l)(hx:l.length<=549755813888)(O:n<32): C0 319 [.d (ws l),.d (.int .i64 n)] λv=>∃l',val l'=val l/2^n/\Xar l'/\l'.length=l.length/\v=.d (ws l'):=by
 have hp:=W0u n
 have hp32:2^n<=2147483648:=by have:2^n<=2^31:=W0p (by decide) (by omega);omega
 refine En Tryz.func319 λ_ _ _=>?_
 refine Mk l.length rfl (by simp only[lw];omega) ?_ (by simp only[lw])
 refine Lo (λ(i,lo)=>[(0,.d (ws l)),(1,.d (.int .i64 n)),(5,.own 10 1 0 l.length),(11,.d (ws l)),(12,.d (.int .i64 l.length)),(13,.d (.int .i64 (i:Nat)))]) (λ(_,lo)=>[(10,.arr 1 (lo.map wd))])
  (λ(i,lo)=>i<=l.length/\lo.length=l.length/\Xar lo/\val (lo.take i)*2^n+val l%2^n=val (l.take i)+4294967296^i*(l.getD i 0%2^n)) (λ(i,_)=>l.length-i) (0,List.replicate l.length 0) [] rfl
  ⟨by omega,by simp,Xfv _,by simp[val,Xh7 l n (by omega)]⟩ ?_ (by exact⟨by simp only[lw,ws];rfl,by simp only[W2j];rfl,rfl,rfl,rfl⟩)
 rintro⟨i,lo⟩ ⟨hi,hl,Q,j⟩
 refine By rfl (λh=>?_) λh=>?_
 . obtain⟨u,hu⟩:=xat (l:=l) (k:=i) (by omega)
   have T:=ww hu hw
   have V:u/2^n<4294967296:=W1w (W3o ..) T
   have hgu:l.getD i 0=u:=by rw[W2o,hu];rfl
   rw[hgu] at j
   refine Ix i rfl (mp hu) ?_
   refine Ar (u/2^n:Nat) rfl ?_ (Xjh (show n<=32 by omega))
   refine Eo i rfl (by omega) ?_
   refine Sto rfl (by simp only[lw];omega) ms ?_
   refine Ar (i+1:Nat) rfl ?_
   refine Cu none (λo:List Nat=>[(0,.d (ws l)),(1,.d (.int .i64 n)),(5,.own 10 1 0 l.length),(11,.d (ws l)),(12,.d (.int .i64 l.length)),(13,.d (.int .i64 i))]) (λo=>[(10,.arr 1 (o.map wd))])
    (λo=>∃v,l.getD (i+1) 0=v/\o=lo.set i (u/2^n+(v%2^n)*2^(32-n))/\u/2^n+(v%2^n)*2^(32-n)<4294967296) rfl ?_ ?_
   . refine By rfl (λh2=>?_) λh2=>?_<;>simp only[lw] at h2
     . obtain⟨v,Z⟩:=xat (l:=l) (k:=i+1) (by omega)
       have hvb:=ww Z hw
       have I:=Xmh (v:=v) T O
       have hv64:v*2^(32-n)<18446744073709551616:=by
        have h1:2^(32-n)<=2^32:=W0p (by decide) (by omega)
        have h2:v*2^(32-n)<=4294967295*2^32:=W1z (by omega) h1
        omega
       obtain⟨s,hs⟩:∃s,s=v*2^(32-n):=⟨_,rfl⟩
       have hshl:=Xig hs.symm (by omega) (by omega:32-n<=64)
       rw[<-hs] at I hv64
       refine Dw rfl ?_
       refine Eo i rfl (by omega) ?_
       refine Ld (wd (u/2^n)) rfl (mp (W2x (by omega))) ?_
       refine Ar (i+1:Nat) rfl ?_
       refine Ix (i+1) rfl (mp Z) ?_
       refine Go.Vm.Cv v rfl ?_
       refine Ar (32-n:Nat) rfl ?_
       refine Ar s rfl ?_ hshl
       refine Go.Vm.Cv (s%4294967296:Nat) rfl ?_ (by rw[wWm];omega)
       refine Ar (u/2^n+(v%2^n)*2^(32-n):Nat) rfl ?_ (Ylu V (by omega) I.1 I.2)
       refine Eo i rfl (by omega) ?_
       refine Sto rfl (by simp only[W0i,W3p];omega) ms ?_
       exact Jn (lo.set i (u/2^n+(v%2^n)*2^(32-n))) [] rfl ⟨v,by rw[W2o,Z];rfl,rfl,I.2⟩ (by exact⟨rfl,by rw[List.set_set];rfl,rfl,rfl,rfl⟩)
     . exact Jn (lo.set i (u/2^n)) [] rfl ⟨0,by rw[W2o,W2b (by omega)];rfl,by simp,by simp;exact V⟩
   rintro o ⟨v,Z,rfl,hlt⟩
   refine Ar (i+1:Nat) rfl ?_
   refine Bk (i+1,lo.set i (u/2^n+(v%2^n)*2^(32-n))) [] rfl ⟨by omega,by simp[hl],Xhl Q hlt,?_⟩ (by show _-(i+1)<_-i;omega)
   rw[Xbh (by omega),Xac hu,Z]
   exact Xp9 O j
 . have him:i=l.length:=by omega
   rw[him,W0b (by omega),W0b (by omega),W2o,W2b (by omega)] at j
   refine Rt rfl (.one (.own rfl (by simp only[lw];omega) (oa hl)) rfl rfl) ⟨lo,?_,Q,hl,rfl⟩
   simp at j
   have:=W2q (val l) (2^n)
   rw[W1h] at this
   exact Nat.eq_of_mul_eq_mul_right hp (by omega)
theorem Xlu{x y:Nat}(hx:(dig x).length<=549755813888)(hy:y<4294967296)(hy0:y≠0): C0 314 [.d (ws (dig x)),.d (.int .u32 y)] (·=.tup (.pr (.d (ws (dig (x/y)))) (.d (ws (dig (x%y)))))):=by
 refine En Tryz.func314 λ_ _ _=>?_
 refine Mk (dig x).length rfl (by simp only[lw];omega) ?_ (by simp only[lw])
 refine Ar ((dig x).length-1:Int) rfl ?_ (wr (by simp only[lw]) (by simp only[inK];omega))
 refine Lo (λ(k,lo,r)=>[(0,.d (ws (dig x))),(1,.d (.int .u32 y)),(6,.own 11 1 0 (dig x).length),(7,.d (.int .u64 (r:Nat))),(8,.d (.int .i64 ((k:Nat)-1:Int)))]) (λ(_,lo,_)=>[(11,.arr 1 (lo.map wd))])
  (λ(k,lo,r)=>k<=(dig x).length/\lo.length=(dig x).length/\Xar lo/\r<y/\val (lo.drop k)*y+r=val ((dig x).drop k)) (λ(k,_,_)=>k) ((dig x).length,List.replicate (dig x).length 0,0) [] rfl
  ⟨by omega,by simp,Xfv _,by omega,by rw[W1y (by simp),W1y (by omega)];simp[val]⟩ ?_ (by exact⟨rfl,by simp only[W2j];rfl,rfl,rfl,rfl⟩)
 rintro⟨k,lo,r⟩ ⟨hk,V,o,Z,i⟩
 refine By rfl (λh=>?_) λh=>?_
 . obtain⟨u,O⟩:=xat (l:=dig x) (k:=k-1) (by omega)
   have hub:=ww O (Xae x)
   obtain⟨s,hs⟩:∃s,s=r*2^32+u:=⟨_,rfl⟩
   have j:s<18446744073709551616:=by omega
   have I:s/y<4294967296:=by
    rw[W2t (by omega)]
    have:=W0k 4294967296 (show r+1<=y by omega)
    omega
   have Q:s%y<y:=W1s _ (by omega)
   have hq0:0<=s/y:=W0w _
   refine Ar (r*2^32:Nat) rfl ?_ (Xig (n:=32) rfl (by omega) (by decide))
   refine Ix (k-1) rfl (mp O) ?_
   refine Go.Vm.Cv u rfl ?_
   refine Ar s rfl ?_ (Yb8 (by omega) (by omega) (by rw[Xdn u r 32 (by omega),<-hs]) j)
   refine Go.Vm.Cv y rfl ?_
   refine Ar (s/y:Nat) rfl ?_ (show _/\_ from⟨by omega,Ydp s y j⟩)
   refine Go.Vm.Cv (s/y:Nat) rfl ?_ (wW ⟨W5d _,W7e.2 I⟩)
   refine Eo (k-1) rfl (by omega) ?_
   refine Sto rfl (by simp only[lw];omega) ms ?_
   refine Go.Vm.Cv y rfl ?_
   refine Ar (s%y:Nat) rfl ?_ (show _/\_ from⟨by omega,Xr2 s y⟩)
   refine Ar ((k-1:Nat)-1:Int) rfl ?_
   refine Bk (k-1,lo.set (k-1) (s/y),s%y) [] rfl ⟨by omega,by simp[V],Xhl o I,Q,?_⟩ (by show k-1<k;omega)
   rw[Xb0 O,show k-1+1=k by omega,<-i,drop_set (by omega),val,show k-1+1=k by omega]
   have e:=W2q s y
   rw[W1h] at e
   rw[W1c,W1f,W0y]
   omega
 . have T:k=0:=by omega
   subst T
   rw[W1e,W1e,Xag] at i
   have hq:x/y=val lo:=by rw[<-i,W1h,Nat.mul_add_div (by omega),W4l Z,W2i]
   have hm:x%y=r:=by rw[<-i,W1h,Nat.mul_add_mod,W4b Z]
   refine Fz 9 6 (lo.map wd) rfl (by simp only[lw];omega) (oa V) ?_
   refine Ce rfl (Xa6 o (by omega)) ?_
   refine Ce rfl (Xck (n:=r) (by omega)) ?_
   subst hm
   exact RTt rfl (.cons (.eq (by rw[hq])) (.one (.rf rfl) (λ_ _ e=>by cases e) (λ_ _ e=>by cases e)))
theorem Xrw{x:Nat}(hx:x<4294967296): C0 348 [.d (.int .u32 x)] (·=.d (.int .i64 (bl x))):=by
 refine En Tryz.func348 λ_ _ _=>?_
 refine Cu none (λ((i,n1):Nat×Nat)=>[(0,.d (.int .u32 i)),(2,.d (.int .i64 n1))]) (λ_=>[]) (λ(i,n1)=>i<65536/\bl x=bl i+n1/\n1<=16) rfl ?_ λ⟨i,n1⟩ ⟨T,I,V⟩=>?_
 . refine By rfl (λh=>?_) λh=>?_
   . refine Ar (x/2^16:Nat) rfl ?_ (Xjh (n:=16) (by decide))
     exact Jn (x/2^16,16) [] rfl ⟨by omega,Xfa (by omega),W0a _⟩
   . exact Jn (x,0) [] rfl ⟨by omega,rfl,by omega⟩
 refine Cu none (λ((i,n1):Nat×Nat)=>[(0,.d (.int .u32 i)),(2,.d (.int .i64 n1))]) (λ_=>[]) (λ(i,n1)=>i<256/\bl x=bl i+n1/\n1<=24) rfl ?_ λ⟨o,n2⟩ ⟨O,Z,hn2⟩=>?_
 . refine By rfl (λh=>?_) λh=>?_
   . refine Ar (i/2^8:Nat) rfl ?_ (Xjh (n:=8) (by decide))
     refine Ar (n1+8:Nat) rfl ?_
     exact Jn (i/2^8,n1+8) [] rfl ⟨by omega,by rw[I,Xfa (n:=i) (k:=8) (by omega)];omega,by omega⟩
   . exact Jn (i,n1) [] rfl ⟨by omega,I,by omega⟩
 have Q:bl o<256:=W0x (Yc0 (p:=λj=>bl j<10) (by decide +kernel) o O) (by decide)
 refine Go.Vm.Cv o rfl ?_
 refine Yx o (UInt8.ofNat (bl o)) rfl (by revert O;generalize o=j;revert j;decide +kernel) ?_
 refine Go.Vm.Cv (bl o:Nat) rfl ?_ ((wI ⟨by omega,by rw[Xyp Q];omega⟩).trans (Xyp Q))
 refine Ar (bl x:Nat) rfl ?_
 exact R0
theorem Xg9{x:Nat}(i:x<4294967296)(h0:x≠0): C0 315 [.d (.int .u32 x)] λv=>∃n:Nat,v=.d (.int .i64 n)/\n<32/\2147483648<=x*2^n/\x*2^n<4294967296:=by
 obtain⟨j,I,O⟩:=Xcq h0
 have o:bl x<=32:=by
  have:2^(bl x-1)<2^32:=W1w j i
  have:=(W2w (by decide:1<2)).1 this
  omega
 refine En Tryz.func315 λ_ _ _=>?_
 refine Ce rfl (Xrw i) ?_
 refine Ar (32-bl x:Nat) rfl ?_
 refine Rt rfl (.one (.rf rfl) rfl rfl) ⟨32-bl x,rfl,by omega,?_,?_⟩
 . have h:=W0k (2^(32-bl x)) j
   rw[<-W0z,show bl x-1+(32-bl x)=31 by omega] at h
   exact h
 . have h:=W3d I (W0u (32-bl x))
   rw[<-W0z,show bl x+(32-bl x)=32 by omega] at h
   exact h
end
section
open Go.RowKit Go.Shelf
attribute [local go_sem] Oper.semAt_some
abbrev Wd:={ x:Nat // x<4294967296 }
def bk(zs:List Wd)(k:Nat): List (Nat×Wd):=(List.range k).map λj=>(zs.length-1-j,zs[zs.length-1-j]?.getD ⟨0,by decide⟩)
theorem Yga(zs:List Wd)(k:Nat): bk zs (k+1)=bk zs k++[(zs.length-1-k,zs[zs.length-1-k]?.getD ⟨0,by decide⟩)]:=by simp[bk,W7b]
theorem Xxs(zs:List Wd)(k:Nat): (bk zs k).length=k:=by simp[bk]
structure Kq (n₀ Bs:Nat) (A B:World):Prop where
 a:Below n₀ A B
 b:B.heap[Bs]?=A.heap[Bs]?
theorem Kq.refl(h Bs:Nat)(A:World): Kq h Bs A A:=⟨Below.refl _ _,rfl⟩
theorem Kq.trans{i Bs:Nat}{A B C:World}(h:Kq i Bs A B)(k:Kq i Bs B C): Kq i Bs A C:=⟨h.a.trans k.a,k.b.trans h.b⟩
set_option maxRecDepth 100000 in
set_option maxHeartbeats 2000000 in
theorem Yaq(F:Fence)(n:Nat)(h8:F.fn 241)(hro:F.round=none)(hn:1<=n)(l Bs n₀ b off cap:Nat)(zs:List Wd)(hreach:zs.length*4<=140737488351232)(hb:b<n₀)(J Jx:List (Nat×Wd)->World->Prop)
 (hY:∀pre x W,J pre W->pre.length<zs.length->YieldAt F (n-1) Tryz.prog l #[.int .i64 (x.1:Int),.int .u32 (x.2.1:Int)] W λe W' =>
  (e=.returned (.bool true)/\J (pre++[x]) W'/\Kq n₀ Bs W W')\/(e=.returned (.bool false)/\Jx (pre++[x]) W'))
 (W:World) (hBs:W.cell? ⟨Bs,0,none⟩=some (.slice (some ⟨b,off,none⟩) zs.length cap)) (hc:∀j,j<zs.length->W.cell? ⟨b,off+j,none⟩=some (.int .u32 ((zs[j]?.getD ⟨0,by decide⟩).1:Int))) (h0:J [] W) :
 CallsIn F n Tryz.prog 241 #[.func (.yield l) #[] #[],.pointer (some ⟨Bs,0,none⟩)] W λe W'=>(∃v,e=.returned v) /\
  ((∃ys,ys=bk zs zs.length/\J ys W')\/(∃pre,True/\Jx pre W')):=by
 refine callsIn_of_wp Tryz.func241 rfl h8 ?_ hro
 simp only[Tryz.ntmps241,W6o,W0t,W4p,Nat.reduceAdd,Nat.reduceSub,W5x,W5y,W6p,W6d,W3u,W5c]
 gi_wp2
 gi_loopw [3] (λi wr=>∃k:Nat,k<=zs.length/\i=.int .i64 ((zs.length:Int)-1-k)/\J (bk zs k) wr/\Kq n₀ Bs W wr)
  (λi _=>(intOf i+1).toNat)
 case atStart=>exact⟨0,W0w _,by simp,h0,Kq.refl _ _ _⟩
 case round =>
  obtain⟨k,hk,rfl,hJs,hnx⟩:=hrel
  have hBs':=(World.cell?_of_block hnx.b).trans hBs
  by_cases hlt:k<zs.length
  . obtain⟨q,hq⟩:∃q,q+(k+1)=zs.length:=⟨zs.length-1-k,by omega⟩
    have hqi:((zs.length:Int)-1-k)=(q:Int):=by omega
    have hcx:=(hnx.a.cell (p:=⟨b,off+q,none⟩) hb).trans (hc q (by omega))
    obtain⟨fn,tmps,assign,body,hy,hR⟩:=hY _ (q,zs[q]?.getD ⟨0,by decide⟩) wr hJs (by rw[Xxs];exact hlt)
    dsimp only at hy
    rw[hqi]
    gi_wp2
    refine hR.mono ?_
    rintro e W3 (⟨rfl,hJ3,hk3⟩ | ⟨rfl,hJx3⟩)
    . gi_wp2
      go_roundw
      case rel=>exact⟨k+1,by omega,by congr 1;omega,by rw[Yga,show zs.length-1-k=q by omega];exact hJ3,hnx.trans hk3⟩
      case measure=>simp[intOf]
    . gi_wp2
      refine bodyPost_ret (results_none rfl _ _ _) rfl ?_
      exact⟨⟨_,rfl⟩,.inr ⟨_,trivial,hJx3⟩⟩
  . obtain rfl:k=zs.length:=by omega
    rw[show ((zs.length:Int)-1-(zs.length:Int))=-1 by omega]
    gi_wp2
    go_end0
    exact⟨⟨_,rfl⟩,.inl ⟨_,rfl,hJs⟩⟩
set_option maxRecDepth 100000 in
set_option maxHeartbeats 1000000 in
theorem Xnq(F:Fence)(n:Nat)(h8:F.fn 241)(hro:F.round=none)(l Bs:Nat)(J:List (Nat×Wd)->World->Prop)(W:World){p:Option Addr}{c:Nat}(hBs:W.cell? ⟨Bs,0,none⟩=some (.slice p 0 c))(h0:J [] W):
 CallsIn F n Tryz.prog 241 #[.func (.yield l) #[] #[],.pointer (some ⟨Bs,0,none⟩)] W λe W'=>(∃v,e=.returned v)/\J [] W':=by
 refine callsIn_of_wp Tryz.func241 rfl h8 ?_ hro
 simp only[Tryz.ntmps241,W6o,W0t,W4p,Nat.reduceAdd,Nat.reduceSub,W5x,W5y,W6p,W6d,W3u,W5c]
 gi_wp2
 gi_loopw [3] (λi wr=>i=.int .i64 (-1)/\J [] wr) (λ_ _=>0)
 case atStart=>exact⟨rfl,h0⟩
 case round =>
  obtain⟨rfl,hJs⟩:=hrel
  gi_wp2
  go_end0
  exact⟨⟨_,rfl⟩,hJs⟩
set_option maxHeartbeats 1000000 in
theorem Xpf(F:Fence)(n:Nat)(h6:F.fn 169)(hro:F.round=none)(a:Option Addr)(len cap:Nat)(w:World):
 CallsIn F n Tryz.prog 169 #[.slice a len cap] w λe w'=>e=.returned (.func (.func 241) #[] #[.pointer (some ⟨w.heap.size,0,none⟩)])/\w'=w.alloc (.cells #[.slice a len cap] 88):=by
 refine callsIn_of_wp Tryz.func169 rfl h6 ?_ hro
 simp only[Tryz.ntmps169,W6o,W0t,W4p,Nat.reduceAdd,Nat.reduceSub,W5x,W5y,W6p,W6d,W3u,W5c]
 gi_wp2
 go_ret
 exact⟨rfl,rfl⟩
theorem Xss(F:Fence)(n:Nat)(Z:F.fn 241)(I:F.round=none)(hn:1<=n)(Bs h:Nat)(p:Option Addr)(cap:Nat)(zs:List Wd)(i:zs.length*4<=140737488351232)(w:World)(Q:Bs<w.heap.size)(o:h<=w.heap.size)
 (hc:w.cell? ⟨Bs,0,none⟩=some (.slice p zs.length cap)) (hI:zs=[]\/∃b off,p=some ⟨b,off,none⟩/\b<h/\∀j,j<zs.length->w.cell? ⟨b,off+j,none⟩=some (.int .u32 ((zs[j]?.getD ⟨0,by decide⟩).1:Int))) :
 SeqStopsK F n Tryz.prog 241 #[.pointer (some ⟨Bs,0,none⟩)] (λx:Nat×Wd=>#[Value.int .i64 (x.1:Int),Value.int .u32 (x.2.1:Int)]) (Kq h Bs) (λys=>ys=bk zs zs.length)
  (λ_=>True) zs.length w:=λl J Jx W hW _ _ hY h0=>by
 have O:=(hW.cell (p:=⟨Bs,0,none⟩) Q).trans hc
 rcases hI with rfl | ⟨b,off,rfl,hb,T⟩
 . exact(Xnq F n Z I l Bs J W O h0).mono λe W' ⟨he,V⟩=>⟨he,.inl ⟨_,rfl,V⟩⟩
 . exact Yaq F n Z I hn l Bs h b off cap zs i hb J Jx hY W O (λj V=>(hW.cell (p:=⟨b,off+j,none⟩) (W0x hb o)).trans (T j V)) h0
def acc: List (Nat×Wd)->Nat:=List.foldl (λa x=>(a*4294967296)%18446744073709551616+x.2.1) 0
theorem Yaw(pre:List (Nat×Wd))(x:Nat×Wd): acc (pre++[x])=(acc pre*4294967296)%18446744073709551616+x.2.1:=by simp[acc]
theorem Ygb{p q:Nat}(hp:p<18446744073709551616)(hq:q<18446744073709551616): bits .or .u64 (p:Int) (q:Int)=IntKind.u64.wrap ((p|||q:Nat):Int):=by
 show IntKind.u64.wrap _=_
 congr 2
 exact Yn6 hp hq
theorem Yle{a x:Nat}(j:x<4294967296): bits .or .u64 (IntKind.u64.wrap ((a:Int)*4294967296)) (IntKind.u64.wrap (x:Int))=(((a*4294967296)%18446744073709551616+x:Nat):Int):=by
 have h:IntKind.u64.wrap ((a:Int)*4294967296)=(((a*4294967296)%18446744073709551616:Nat):Int):=(wUm _).trans (by omega)
 have i:a*4294967296%18446744073709551616=(a%4294967296)*2^32:=by omega
 rw[h,wU (x:=(x:Int)) (by omega),Ygb (by omega) (by omega),i,Xdn x (a%4294967296) 32 (by omega),wU (by omega)]
theorem Xvu{i Bs N:Nat}(W:World)(l:Nat)(o:Obj)(I:N<=l)(O:i<=N)(Q:Bs<N)(h:W.heap[l]?=some o)(j:Obj): Kq i Bs W (W.putObj l j) :=
 ⟨(Below.refl i W).grown (grownBy_putObj' W l j) (by have:=(W3l.1 h).1;omega) (λk e=>by cases e;omega),World.putObj_heap_other (by omega)⟩
set_option maxRecDepth 100000 in
set_option maxHeartbeats 2000000 in
theorem Xtm(F:Fence)(n:Nat)(h3:F.fn 256)(h5:F.fn 169)(h7:F.fn 241)(hro:F.round=none)(hn:3<=n)(p:Option Addr)(cap:Nat)(zs:List Wd)(hreach:zs.length*4<=140737488351232)(w:World)
 (hI:zs=[]\/∃b off,p=some ⟨b,off,none⟩/\b<w.heap.size/\∀j,j<zs.length->w.cell? ⟨b,off+j,none⟩=some (.int .u32 ((zs[j]?.getD ⟨0,by decide⟩).1:Int))) :
 CallsIn F n Tryz.prog 256 #[.slice p zs.length cap] w λe W'=>e=.returned (.int .u64 (acc (bk zs zs.length):Int))/\Below w.heap.size w W':=by
 have h1:1<=n:=by omega
 refine callsIn_of_wp_marks Tryz.func256 rfl h3 ?_ hro
 simp only[Tryz.ntmps256,W6o,W0t,W4p,Nat.reduceAdd,Nat.reduceSub,W5x,W5y,W6p,W6d,W3u,W5c]
 gi_wp2_with (gi_at_call 169;refine(Xpf F (n-1) h5 hro _ _ _ _).mono ?_;rintro e w' ⟨rfl,rfl⟩)
 have bS:=Boxed.new w 178 (.int .u64 0)
 have bN:=Boxed.new (w.alloc (.cells #[.int .u64 0] 178)) 88 (.slice p zs.length cap)
 rw[World.size_alloc] at bN
 have hB0:Below w.heap.size w ((w.alloc (.cells #[.int .u64 0] 178)).alloc (.cells #[.slice p zs.length cap] 88)):=((Below.refl _ w).alloc (W0a _) _).alloc (by simp) _
 refine wpIn_rangeFunc_ownG hro h1 (gf:=241) (lb:=#[.pointer (some ⟨w.heap.size+1,0,none⟩)]) rfl h7 (enters_of Tryz.func241 (by kernel_rfl) rfl)
  (Xss F (n-1) h7 hro (by omega) (w.heap.size+1) w.heap.size p cap zs hreach _ (by simp) (by simp;omega) bN.cell (hI.imp_right λ⟨b,off,h1,h2,h3⟩=>⟨b,off,h1,h2,λj hj=>(hB0.cell (p:=⟨b,off+j,none⟩) h2).trans (h3 j hj)⟩)) Kq.trans (λW l o o' hl h _ _=>Xvu W l o hl (by simp;omega) (by simp) h o') (Below.refl _ _) (λ_=>rfl)
  (λpre W=>(W.cell? ⟨w.heap.size,0,none⟩=some (.int .u64 (acc pre:Int))/\W.frozen? ⟨w.heap.size,0,none⟩=false)/\Below w.heap.size w W)
  (λ_ _ _=>False)
  (OwnFrom.and (Own.from (λs A B row hs hg hr=>⟨cell_kept hs.1 hg hr,(frozen_kept hs.1 hg hr).trans hs.2⟩) _) (ownFrom_below (W0a _) (by simp;omega)))
  (λ_ _ _ _ _ hs _ _=>hs)
  ⟨⟨(bS.alloc _).cell,(bS.alloc _).frozen⟩,hB0⟩
  (λx=>{ tmps:=#[.slice p zs.length cap,undef,.int .u64 0,.pointer (some ⟨w.heap.size,0,none⟩),undef,.int .u32 (x.2.1:Int),.slice p zs.length cap,.func (.func 241) #[] #[.pointer (some ⟨w.heap.size+1,0,none⟩)],.int .i64 (x.1:Int),.int .u32 (x.2.1:Int),undef,undef,undef,undef,undef,undef],defers:=[] }) ?assign ?body ?done ?stop
 case assign =>
  intro l x W K hK
  gi_wp2
  exact hK
 case body =>
  rintro l pre x W ⟨⟨hc,hf⟩,hB⟩ _
  gi_wp2
  rw[Yle x.2.2,<-Yaw]
  exact⟨(KeepsOthers.setCell _ _ _).from _,⟨(Below.refl w.heap.size W).setCell (p:=⟨w.heap.size,0,none⟩) (W0a _) _,Below.heap_setCell _ _ _ _ (by simp)⟩,⟨World.cell?_setCell_same' _ _ _ (by rw[hc];rfl),by rw[World.frozen?_setCell];exact hf⟩,hB.setCell (p:=⟨w.heap.size,0,none⟩) (W0a _) _⟩
 case done =>
  rintro D ys W hD rfl ⟨⟨hc,_⟩,hB⟩ hK
  gi_wp2
  refine⟨by simp,.inl ⟨_,_,rfl,run_takeDeferred hK,?_⟩⟩
  exact⟨_,results_tmp rfl _ _ _,rfl,hB.trans (belowK_b (w:=w) (W0a _) W D _ _ (by simp at hD;omega) hK rfl rfl)⟩
 case stop =>
  rintro D c pre W _ _ h _
  exact h.elim
theorem wds{l:List Nat}(h:Xar l): ∃zs:List Wd,zs.map (·.1)=l :=
 by
 induction l with
 | nil=>exact⟨[],rfl⟩
 | cons a l i =>
  obtain⟨zs,j⟩:=i λx o=>h x (W0o _ o)
  exact⟨⟨a,h a (W0l ..)⟩::zs,by rw[W4m,j]⟩
theorem Ygi{zs:List Wd}{x:Nat}(h:zs.map (·.1)=dig x)(o:x<18446744073709551616): acc (bk zs zs.length)=x:=by
 have j:(dig x).length<=2:=Xat (by omega)
 have i:=Xag x
 rw[<-h] at j i
 match zs,j with
 | [],_=>simpa [bk,acc,val] using i
 | [a],_ =>
  have ha:=a.2
  simp[val] at i
  simp[bk,acc,W7b]
  omega
 | [a,b],_ =>
  have ha:=a.2
  have hb:=b.2
  simp[val] at i
  simp[bk,acc,W7b]
  omega
theorem Xrc{W:Vm.GW}{j:World}(h:Below W.w.heap.size W.w j): ∃W':Vm.GW,W'.w=j/\Vm.Fm W W' (λ_=>False) :=
 ⟨⟨j, W.A, λb i k => W0x (W.hA b i k) h.size⟩, rfl,
   { os := h.os, out := h.output, tape := h.tape, size := h.size, same := λb hb _ => h.block b hb, A := λ_ _ _ _ => W4d
     le:=λb i v o=>⟨by
      have hb:b<W.w.heap.size:=by
       apply W1b
       intro I
       have:=o.1
       simp only[World.cell?] at this
       rw[W3z (by omega)] at this
       cases this
      exact(World.cell?_of_block (h.block b hb)).trans o.1,o.2⟩ }⟩
theorem Xf1{x:Nat}(hx:x<18446744073709551616): C0 256 [.d (ws (dig x))] (·=.d (.int .u64 x)):=by
 obtain⟨O,V⟩:=wds (Xae x)
 have hl:(dig x).length<=2:=Xat (by omega)
 refine⟨⟨_,Tryz.func256,rfl,rfl⟩,λW vs _ ha=>?_⟩
 match vs,ha with
 | [v],ha =>
  obtain⟨p,c,rfl,hc1,hc2,Q⟩:=Vm.V_sl ha.1
  have Z:((dig x).map wd).length=O.length:=by rw[<-V];simp
  rw[Z]
  refine(callsIn_wide (n:=3)).1 ((Xtm Fence.wide 3 trivial trivial trivial rfl (W0a _) p c O (by rw[<-V,W0i] at hl;omega) W.w ?_).mono ?_)
  . rcases Q with h0 | ⟨b,off,hp,hr⟩
    . left
      have:=congrArg List.length h0
      rw[Z] at this
      exact W0q (by simpa using this)
    . have o:∀j,j<O.length->W.w.cell? ⟨b,off+j,none⟩=some (.int .u32 ((O[j]?.getD ⟨0,by decide⟩).1:Int)):=λj hj=>by
       obtain⟨z,T⟩:∃z,O[j]?=some z:=⟨_,W0e hj⟩
       obtain⟨e,I,h2,h3⟩:=Vm.D.row_get hr (i:=j) (x:=wd z.1) (by rw[<-V];simp[T])
       have I:e=[.int .u32 z.1]:=I.1
       have:=(h3 0 (.int .u32 z.1) (by rw[I];rfl)).1
       rw[T]
       simpa using this
      by_cases h0:O=[]
      . exact .inl h0
      . refine .inr ⟨b,off,hp,?_,o⟩
        have I:=o 0 (W6x.2 h0)
        apply W1b
        intro hn
        simp only[World.cell?] at I
        rw[W3z (by omega)] at I
        cases I
  . rintro e w' ⟨rfl,hB⟩
    obtain⟨W',hw,hE⟩:=Xrc hB
    refine⟨W',.d (.int .u64 x),_,rfl,hw,hE,?_,λ_ h=>h,rfl⟩
    rw[Ygi V hx]
    exact Vm.int_V (by show IntKind.u64.wrap _=_;exact wU (by omega))
end
section
theorem Ynd{a b:Nat}(ha:a<4294967296)(hb:b<4294967296): a*b<=18446744065119617025:=by
 have:=W1z (show a<=4294967295 by omega) (show b<=4294967295 by omega)
 omega
theorem Xn5{q k y d:Nat}{l:List Nat}(hw:Xar l)(hq:q+(k+1)<=l.length)(hk:(dig y).length=k)(hd:d<4294967296)(hk40:k<=1099511627776):
 CW0 317 [.own 1000001 1 q (k+1),.d (ws (dig y)),.d (.int .u64 d)] [(1000001,.arr 1 (l.map wd))] λv H'=>∃(c:Nat) (l':List Nat),c<=1/\v=.b (dc (c=1))/\H'=[(1000001,.arr 1 (l'.map wd))]/\l'.length=l.length/\Xar l' /\
  (∀j,(j<q\/q+(k+1)<=j)->l'[j]?=l[j]?)/\val ((l'.drop q).take (k+1))+y*d=val ((l.drop q).take (k+1))+4294967296^(k+1)*c:=by
 refine EnW Tryz.func317 λ_ _ _ _=>?_
 refine Lo (λ(i,lo,I)=>[(0,.own 1000001 1 q (k+1)),(1,.d (ws (dig y))),(2,.d (.int .u64 d)),(7,.d (.int .u64 (I:Nat))),(13,.d (ws (dig y))),(14,.d (.int .i64 k)),(15,.d (.int .i64 (i:Nat)))]) (λ(_,lo,_)=>[(1000001,.arr 1 (lo.map wd))])
  (λ(i,lo,I)=>i<=k/\lo.length=l.length/\Xar lo/\I<4294967296/\(∀j,(j<q\/q+i<=j)->lo[j]?=l[j]?)/\val ((lo.drop q).take i)+val ((dig y).take i)*d=val ((l.drop q).take i)+4294967296^i*I) (λ(i,_,_)=>k-i) (0,l,0) [] rfl
  ⟨by omega,rfl,hw,by omega,λ_ _=>rfl,by simp[val]⟩ ?_ (by exact⟨by simp only[lw,ws,hk];rfl,rfl,rfl,rfl,rfl⟩)
 rintro⟨i,lo,I⟩ ⟨hi,hl,O,hbr,o,Q⟩
 refine By rfl (λh=>?_) λh=>?_
 . obtain⟨w,T⟩:=xat (l:=dig y) (k:=i) (by omega)
   have hwb:=ww T (Xae y)
   obtain⟨u,V⟩:=xat (l:=lo) (k:=q+i) (by omega)
   have hub:=ww V O
   have hwd:=Ynd hwb hd
   obtain⟨s,hs⟩:∃s,s=w*d+I:=⟨_,rfl⟩
   obtain⟨t,ht⟩:∃t,t=(u+18446744073709551616-s%4294967296)%18446744073709551616:=⟨_,rfl⟩
   refine Ix i rfl (mp T) ?_
   refine Go.Vm.Cv w rfl ?_
   refine Ar (w*d:Nat) rfl ?_ (wr (W2n ..).symm (by simp only[inK];omega))
   refine Ar s rfl ?_
   refine El i rfl (by omega) ?_
   refine Ld (wd u) rfl (mp V) ?_
   refine Go.Vm.Cv u rfl ?_
   refine Go.Vm.Cv (s%4294967296:Nat) rfl ?_ (by rw[wWm];omega)
   refine Go.Vm.Cv (s%4294967296:Nat) rfl ?_
   refine Ar t rfl ?_ (by show _=_;rw[wUm];omega)
   refine Go.Vm.Cv (t%4294967296:Nat) rfl ?_ (by rw[wWm];omega)
   refine El i rfl (by omega) ?_
   refine Sto rfl (by simp only[lw];omega) ms ?_
   refine Ar (s/4294967296:Nat) rfl ?_ (Xjh (n:=32) (by decide))
   refine Ar (t/9223372036854775808:Nat) rfl ?_ (Xjh (n:=63) (by decide))
   refine Ar (s/4294967296+t/9223372036854775808:Nat) rfl ?_
   refine Ar (i+1:Nat) rfl ?_
   refine Bk (i+1,lo.set (q+i) (t%4294967296),s/4294967296+t/9223372036854775808) [] rfl ⟨by omega,by simp[hl],Xhl O (by omega),by omega,λj hj=>by rw[W2a (by omega)];exact o j (by omega),?_⟩ (by show k-(i+1)<k-i;omega)
   have Z:l[q+i]?=some u:=by rw[<-o (q+i) (.inr (W0a _))];exact V
   have hst:t%4294967296+s=u+4294967296*(s/4294967296+t/9223372036854775808):=by omega
   rw[Xfy (by omega),Xac T,Xca Z,W1a,W0y,W1c,W0y]
   have e:4294967296^i*(t%4294967296+s)=4294967296^i*(u+4294967296*(s/4294967296+t/9223372036854775808)):=by rw[hst]
   have e2:4294967296^i*s=4294967296^i*(w*d)+4294967296^i*I:=by rw[hs,W1f]
   rw[W1f,W1f (4294967296^i) u] at e
   omega
 . have hik:i=k:=by omega
   rw[hik] at o Q
   rw[W0b (l:=dig y) (by omega),Xag] at Q
   obtain⟨u,V⟩:=xat (l:=lo) (k:=q+k) (by omega)
   have hub:=ww V O
   obtain⟨t,ht⟩:∃t,t=(u+18446744073709551616-I)%18446744073709551616:=⟨_,rfl⟩
   refine El k rfl (by omega) ?_ (by simp only[lw];omega)
   refine Ld (wd u) rfl (mp V) ?_
   refine Go.Vm.Cv u rfl ?_
   refine Ar t rfl ?_ (by show _=_;rw[wUm];omega)
   refine Go.Vm.Cv (t%4294967296:Nat) rfl ?_ (by rw[wWm];omega)
   refine El k rfl (by omega) ?_ (by simp only[lw];omega)
   refine Sto rfl (by simp only[lw];omega) ms ?_
   refine Ar (t/9223372036854775808:Nat) rfl ?_ (Xjh (n:=63) (by decide))
   have Z:l[q+k]?=some u:=by rw[<-o (q+k) (.inr (W0a _))];exact V
   refine Rw [] [(1000001,.arr 1 ((lo.set (q+k) (t%4294967296)).map wd))] rfl (.one (.rf rfl) rfl rfl) ⟨t/9223372036854775808,_,by omega,?_,rfl,by simp[hl],Xhl O (by omega),λj hj=>by rw[W2a (by omega)];exact o j (by omega),?_⟩
   . congr 1;exact congrArg dc (propext (by constructor<;>intro<;>omega))
   . rw[Xfy (by omega),Xca Z,W1a,W0y]
     have e:4294967296^k*(t%4294967296+I)=4294967296^k*(u+4294967296*(t/9223372036854775808)):=by congr 1;omega
     rw[W1f,W1f (4294967296^k) u] at e
     omega
theorem Xr8{q k y:Nat}{l:List Nat}(hw:Xar l)(hq:q+(k+1)<=l.length)(hk:(dig y).length=k)(hk40:k<=1099511627776):
 CW0 318 [.own 1000001 1 q (k+1),.d (ws (dig y))] [(1000001,.arr 1 (l.map wd))] λv H'=>∃(e:Nat) (l':List Nat),e<=1/\H'=[(1000001,.arr 1 (l'.map wd))]/\l'.length=l.length/\Xar l' /\
  (∀j,(j<q\/q+(k+1)<=j)->l'[j]?=l[j]?)/\val ((l'.drop q).take (k+1))+4294967296^(k+1)*e=val ((l.drop q).take (k+1))+y:=by
 refine EnW Tryz.func318 λ_ _ _ _=>?_
 refine Lo (λ(i,lo,I)=>[(0,.own 1000001 1 q (k+1)),(1,.d (ws (dig y))),(4,.d (.int .u64 (I:Nat))),(7,.d (ws (dig y))),(8,.d (.int .i64 k)),(9,.d (.int .i64 (i:Nat)))]) (λ(_,lo,_)=>[(1000001,.arr 1 (lo.map wd))])
  (λ(i,lo,I)=>i<=k/\lo.length=l.length/\Xar lo/\I<=1/\(∀j,(j<q\/q+i<=j)->lo[j]?=l[j]?)/\val ((lo.drop q).take i)+4294967296^i*I=val ((l.drop q).take i)+val ((dig y).take i)) (λ(i,_,_)=>k-i) (0,l,0) [] rfl
  ⟨by omega,rfl,hw,by omega,λ_ _=>rfl,by simp[val]⟩ ?_ (by exact⟨by simp only[lw,ws,hk];rfl,rfl,rfl,rfl,rfl⟩)
 rintro⟨i,lo,I⟩ ⟨hi,hl,O,hcr,o,Q⟩
 refine By rfl (λh=>?_) λh=>?_
 . obtain⟨w,T⟩:=xat (l:=dig y) (k:=i) (by omega)
   have hwb:=ww T (Xae y)
   obtain⟨u,V⟩:=xat (l:=lo) (k:=q+i) (by omega)
   have hub:=ww V O
   obtain⟨s,hs⟩:∃s,s=I+(u+w):=⟨_,rfl⟩
   refine Ix i rfl (mp T) ?_
   refine El i rfl (by omega) ?_
   refine Ld (wd u) rfl (mp V) ?_
   refine Go.Vm.Cv u rfl ?_
   refine Go.Vm.Cv w rfl ?_
   refine Ar (u+w:Nat) rfl ?_
   refine Ar s rfl ?_
   refine Go.Vm.Cv (s%4294967296:Nat) rfl ?_ (by rw[wWm];omega)
   refine El i rfl (by omega) ?_
   refine Sto rfl (by simp only[lw];omega) ms ?_
   refine Ar (s/4294967296:Nat) rfl ?_ (Xjh (n:=32) (by decide))
   refine Ar (i+1:Nat) rfl ?_
   refine Bk (i+1,lo.set (q+i) (s%4294967296),s/4294967296) [] rfl ⟨by omega,by simp[hl],Xhl O (by omega),by omega,λj hj=>by rw[W2a (by omega)];exact o j (by omega),?_⟩ (by show k-(i+1)<k-i;omega)
   have Z:l[q+i]?=some u:=by rw[<-o (q+i) (.inr (W0a _))];exact V
   rw[Xfy (by omega),Xac T,Xca Z,W1a,W0y]
   have e:4294967296^i*(s%4294967296+4294967296*(s/4294967296))=4294967296^i*(I+(u+w)):=by congr 1;omega
   simp only[W1f] at e
   omega
 . have hik:i=k:=by omega
   rw[hik] at o Q
   rw[W0b (l:=dig y) (by omega),Xag] at Q
   obtain⟨u,V⟩:=xat (l:=lo) (k:=q+k) (by omega)
   have hub:=ww V O
   refine El k rfl (by omega) ?_ (by simp only[lw];omega)
   refine Ld (wd u) rfl (mp V) ?_
   refine Go.Vm.Cv I rfl ?_
   refine Ar ((u+I)%4294967296:Nat) rfl ?_ (by show _=_;rw[wWm];omega)
   refine El k rfl (by omega) ?_ (by simp only[lw];omega)
   refine Sto rfl (by simp only[lw];omega) ms ?_
   have Z:l[q+k]?=some u:=by rw[<-o (q+k) (.inr (W0a _))];exact V
   refine Rw [] [(1000001,.arr 1 ((lo.set (q+k) ((u+I)%4294967296)).map wd))] rfl (.tup (.one (.rf rfl) (λ_ _ e=>by cases e) (λ_ _ e=>by cases e))) ⟨(u+I)/4294967296,_,by omega,rfl,by simp[hl],Xhl O (by omega),λj hj=>by rw[W2a (by omega)];exact o j (by omega),?_⟩
   rw[Xfy (by omega),Xca Z,W1a,W0y]
   have e:4294967296^k*((u+I)%4294967296+4294967296*((u+I)/4294967296))=4294967296^k*(u+I):=by congr 1;omega
   simp only[W1f] at e
   omega
theorem Xjk{n x:Nat}(i:(dig x).length<=549755813888)(h:n<32): C0 316 [.d (ws (dig x)),.d (.int .i64 n)] λv=>∃l,l.length=(dig x).length+1/\Xar l/\val l=x*2^n/\v=.d (ws l) :=
 CW.data (Xhd i h) rfl λv H' ⟨T,e,l,j,o,I,O,Q⟩=>⟨.d (ws l),by rw[O,e,Q];exact .one (.own rfl (by simp) (oa rfl)) rfl rfl,l,j,o,I,rfl⟩
theorem Xqy{y n:Nat}(hy:y≠0){t:Nat}(ht:(dig y)[(dig y).length-1]?=some t)(O:2147483648<=t*2^n)(Z:t*2^n<4294967296):
 (dig (y*2^n)).length=(dig y).length/\∃i,(dig (y*2^n))[(dig y).length-1]?=some i/\2147483648<=i:=by
 have hl:(dig y).length≠0:=λh=>hy (Xsp.1 (W0q h))
 have hs:=Xac ht
 rw[show (dig y).length-1+1=(dig y).length by omega,W2h,Xag] at hs
 have Q:=Xby ((Xae y).take ((dig y).length-1))
 rw[W0f,W2e (by omega)] at Q
 generalize hk:(dig y).length-1=k at *
 have hlow:4294967296^k*2147483648<=y*2^n:=by
  rw[hs,W1c,W0y]
  have:=W0v (4294967296^k) O
  omega
 have T:y*2^n<4294967296^(k+1):=by
  have e:y+1<=4294967296^k*(t+1):=by rw[hs,W1f];omega
  have e2:t*2^n+2^n<=4294967296:=by
   have hd:2^n ∣ 4294967296:=by
    have hn:n<32:=by
     have:2^n<2^32:=by
      have:=Nat.le_mul_of_pos_left (2^n) (show 0<t by rcases W2v t with h | h;rw[h] at O;simp at O;exact h)
      omega
     exact(W2w (by decide:1<2)).1 this
    exact⟨2^(32-n),by rw[<-W0z,show n+(32-n)=32 by omega]⟩
   obtain⟨q,hq⟩:=hd
   rw[hq,W1h t] at Z
   have:=Nat.lt_of_mul_lt_mul_left Z
   rw[hq,W1h t,<-Nat.mul_succ]
   exact W0v _ this
  have e3:=W0k (2^n) e
  rw[W0y,W1c t,W6j] at e3
  have e4:=W0v (4294967296^k) e2
  have hp:=W0u n
  rw[W1c,W6j] at e3
  rw[W1a]
  omega
 have j:(dig (y*2^n)).length=(dig y).length:=by
  have h3:=Xat T
  have h4:k<(dig (y*2^n)).length:=by
   apply W1b
   intro hn
   have:=Xdt (y*2^n)
   have h5:4294967296^(dig (y*2^n)).length<=4294967296^k:=W0p (by decide) (by omega)
   have:4294967296^k<=4294967296^k*2147483648:=W4i _ (by decide)
   omega
  omega
 refine⟨j,?_⟩
 obtain⟨i,o⟩:=xat (l:=dig (y*2^n)) (k:=k) (by omega)
 refine⟨i,o,?_⟩
 have V:=Xac o
 rw[show k+1=(dig (y*2^n)).length by omega,W2h,Xag] at V
 have I:=Xby ((Xae (y*2^n)).take k)
 rw[W0f,W2e (by omega)] at I
 apply W1b
 intro hn
 have:4294967296^k*(i+1)<=4294967296^k*2147483648:=W0v _ (by omega)
 rw[W1f] at this
 omega
theorem Ybc{h:List Nat}{i n:Nat}{Y:Nat}(I:Xar h)(hi:i+n<h.length)(O:val (h.drop (i+1))<Y)(Q:Y<=4294967296^n):
 val (h.drop i)=val ((h.drop i).take (n+1))/\val (h.drop i)<4294967296*Y:=by
 obtain⟨u,o⟩:=xat (l:=h) (k:=i) (by omega)
 have T:=I u (W0h o)
 have V:=Xb0 o
 have Z:val (h.drop i)<4294967296*Y:=by
  rw[V]
  have:=W0v 4294967296 (show val (h.drop (i+1))+1<=Y from O)
  omega
 refine⟨?_,Z⟩
 have h3:=Xbq (h.drop i) (n+1) (by rw[W1k];omega)
 rw[h3]
 have h4:val (h.drop i)<4294967296^(n+1):=by
  have:=W0v 4294967296 Q
  rw[W1a,W1h (4294967296^n)]
  omega
 rcases W2v (val ((h.drop i).drop (n+1))) with j | j
 . rw[j,W3f,W2i]
 . have:=W4i (4294967296^(n+1)) j
   omega
theorem Xe7{l m:List Nat}{k:Nat}(h:∀j,k<=j->l[j]?=m[j]?): l.drop k=m.drop k:=by
 apply W4c
 intro i
 rw[W1v,W1v]
 exact h _ (by omega)
theorem Yhd(M low h i j:Nat): low+M*j+M*4294967296*i+M*4294967296*4294967296*h=low+M*(j+4294967296*(h*2^32+i)):=by
 grind
theorem Yaj{x y:Nat}: Xbb (x:Int) (y:Int)<0↔x<y:=by
 unfold Xbb
 split
 . constructor<;>intro<;>omega
 . split
   . constructor<;>intro<;>omega
   . constructor<;>intro<;>omega
theorem Xw4{x y Y s Q R:Nat}(i:y*2^s=Y)(h:Q*Y+R=x*2^s)(j:R<Y): Q=x/y/\R=x%y*2^s:=by
 have o:Q=(x*2^s)/(y*2^s):=by
  rw[i,<-h,W1h,Nat.mul_add_div (by omega),W4l j,W2i]
 have I:R=(x*2^s)%(y*2^s):=by
  rw[i,<-h,W1h,Nat.mul_add_mod,W4b j]
 rw[Nat.mul_div_mul_right _ _ (W0u s)] at o
 rw[Nat.mul_mod_mul_right] at I
 exact⟨o,I⟩
theorem Xxc{U Y M low u2 i j V h dd r:Nat}(hY0:Y≠0)(hM:0<M)(O:U=low+M*(u2+4294967296*i))(Q:Y=j+M*(V+4294967296*h))(hUlt:U<4294967296*Y)(o:j<M)(T:V<4294967296)(htt:2147483648<=h)
 (Z:(dd-1)*h+(r+h)=i) (hr:4294967296<=r+h) (hUq:U/Y<dd):dd-1<4294967296/\U/Y<=dd-1/\dd-1<=U/Y+1:=by
 have I:dd-1<4294967296:=by
  apply W1b
  intro hn2
  have h1:=W0k h (show 4294967296<=dd-1 by omega)
  have h2:i<4294967296*h+4294967296:=by
   apply W1b
   intro hn3
   have h3:M*(4294967296*(4294967296*h+4294967296))<=M*(4294967296*i):=W0v _ (W0v _ (by omega))
   have h4:Y<M*(4294967296*h+4294967296):=by
    rw[Q]
    have:M*(V+4294967296*h+1)<=M*(4294967296*h+4294967296):=W0v _ (by omega)
    rw[W1f M _ 1,W4f] at this
    omega
   have h5:M*(4294967296*(4294967296*h+4294967296))=4294967296*(M*(4294967296*h+4294967296)):=by grind
   have h6:M*(4294967296*i)<=U:=by rw[O,W1f];omega
   omega
  omega
 refine⟨I,by omega,?_⟩
 rw[O,Q]
 refine Yc3 (r:=r+h) hM o Z ?_ I (by omega)
 have h1:=Ynd (a:=dd-1) (b:=V) I T
 omega
theorem Xc8{x y:Nat}(hx:(dig x).length<=549755813888)(hy:(dig y).length<=549755813888)(hy0:y≠0): C0 255 [.d (ws (dig x)),.d (ws (dig y))] (·=.tup (.pr (.d (ws (dig (x/y)))) (.d (ws (dig (x%y)))))):=by
 refine En Tryz.func255 λ_ _ _=>?_
 refine Ce rfl (Xb6 (by omega)) ?_
 refine By rfl (λh=>?_) λh=>?_
 . have hlt:x<y:=Yaj.1 h
   refine Ce rfl (Xbs (by omega)) ?_
   exact RTt rfl (.cons (.nil (by rw[W4l hlt,Xan];rfl)) (.one (.eq (by rw[W4b hlt])) (λ_ _ e=>by cases e) (λ_ _ e=>by cases e)))
 have hge:y<=x:=W4j λhlt=>h (Yaj.2 hlt)
 have hlenle:=Xas hge
 refine By rfl (λZ=>?_) λZ=>?_<;>simp only[lw] at Z
 . have hx64:x<18446744073709551616:=by
    have:=Xdt x
    have h1:4294967296^(dig x).length<=4294967296^2:=W0p (by decide) (by omega)
    omega
   refine Ce rfl (Xf1 hx64) ?_
   refine Ce rfl (Xf1 (by omega)) ?_
   have hq64:x/y<18446744073709551616:=W1w (W3o ..) hx64
   have hr64:x%y<18446744073709551616:=W1w (Nat.mod_le ..) hx64
   refine Dw rfl ?_
   refine Ar (x/y:Nat) rfl ?_ (show _/\_ from⟨by omega,Ydp x y hx64⟩)
   refine Ce rfl (Xck hq64) ?_
   refine Ar (x%y:Nat) rfl ?_ (show _/\_ from⟨by omega,Xr2 x y⟩)
   refine Ce rfl (Xck hr64) ?_
   exact R0t
 refine By rfl (λh3=>?_) λh3=>?_<;>simp only[lw] at h3
 . obtain⟨t,ht⟩:=xat (l:=dig y) (k:=0) (by omega)
   have htb:=ww ht (Xae y)
   have hyt:y=t:=by
    have:=Xac ht
    rw[W0b (by omega),Xag] at this
    simpa [val] using this
   refine Ix 0 rfl (mp ht) ?_
   refine Ce rfl (Xlu (y:=t) hx htb (by omega)) ?_
   exact RTt rfl (.cons (.eq (by rw[hyt])) (.one (.eq (by rw[hyt])) (λ_ _ e=>by cases e) (λ_ _ e=>by cases e)))
 have hy2:2<=(dig y).length:=by
  have:(dig y).length≠0:=λh=>hy0 (Xsp.1 (W0q h))
  omega
 obtain⟨t,ht⟩:=xat (l:=dig y) (k:=(dig y).length-1) (by omega)
 have htb:=ww ht (Xae y)
 have ht0:t≠0:=by
  rcases Xhu y with h | ⟨t2,Z,h3⟩
  . rw[h] at hy2;simp at hy2
  . rw[ht] at Z;injection Z with Z;rw[Z];exact h3
 refine Ar ((dig y).length-1:Nat) rfl ?_ (wr (by simp only[lw];omega) (by simp only[inK];omega))
 refine Ix ((dig y).length-1) rfl (mp ht) ?_
 refine Ca rfl (Xg9 htb ht0) λv hv=>?_
 obtain⟨s,rfl,hs32,hs1,hs2⟩:=hv
 obtain⟨hlen,Q,ht',htt⟩:=Xqy hy0 ht hs1 hs2
 refine Co rfl (Xhd hx hs32) λv ob hv=>?_
 obtain⟨I,hul,huw,huv,rfl,rfl⟩:=hv
 refine Ca rfl (Xjk hy hs32) λv hv=>?_
 obtain⟨lv,hvl,hvw,hvv,rfl⟩:=hv
 obtain⟨Y,hY⟩:∃Y,Y=y*2^s:=⟨_,rfl⟩
 rw[<-hY] at hlen ht' hvv
 refine Ce (r:=.d (ws (dig Y))) rfl (by have:=Xa6 hvw (by omega);rwa[hvv] at this) ?_
 obtain⟨o,hmv⟩:∃o,o=(dig Y).length:=⟨_,rfl⟩
 have hq0:I.length-o<=549755813889:=by omega
 refine Ar (I.length-o:Nat) rfl ?_ (wr (by simp only[lw];omega) (by simp only[inK];omega))
 refine Mk (I.length-o) rfl (by omega) ?_
 obtain⟨tn,htn⟩:=xat (l:=dig Y) (k:=o-2) (by omega)
 have htnb:=ww htn (Xae Y)
 have ht1:(dig Y)[o-1]?=some Q:=by rw[hmv,hlen];exact ht'
 have htb1:=ww ht1 (Xae Y)
 refine Dw rfl ?_
 refine Ar (o-1:Nat) rfl ?_ (wr (by simp only[lw];omega) (by simp only[inK];omega))
 refine Ix (o-1) rfl (mp ht1) ?_
 refine Go.Vm.Cv Q rfl ?_
 refine Ar (o-2:Nat) rfl ?_ (wr (by simp only[lw];omega) (by simp only[inK];omega))
 refine Ix (o-2) rfl (mp htn) ?_
 refine Go.Vm.Cv tn rfl ?_
 refine Ar ((I.length-o:Nat)-1:Int) rfl ?_
 have hY0:Y≠0:=by rw[hY];exact W7q hy0 (W7w.1 (W0u s))
 have hYl:=Xdt Y
 have hYM:Y=val ((dig Y).take (o-2))+4294967296^(o-2)*(tn+4294967296*Q):=by
  have h1:=Xac htn
  have Z:=Xac (k:=o-2+1) (l:=dig Y) (x:=Q) (by rw[show o-2+1=o-1 by omega];exact ht1)
  rw[show o-2+1+1=(dig Y).length by omega,W2h,Xag,h1,W1a,W0y] at Z
  rw[W1f];omega
 have hvlow:val ((dig Y).take (o-2))<4294967296^(o-2):=by
  have:=Xby ((Xae Y).take (o-2))
  rwa[W0f,W2e (by omega)] at this
 have hM:0<4294967296^(o-2):=Nat.pow_pos (by decide)
 have hR0:val (I.drop (I.length-o))<Y:=by
  have h1:=Xbq I (I.length-o) (by omega)
  rw[huv] at h1
  have Z:=Xrk hy0
  have h3:=Xdt x
  have hp:=W0u s
  apply W1b
  intro hn2
  have h4:4294967296^(I.length-o)*Y<=x*2^s:=by
   rw[h1]
   have:=W0v (4294967296^(I.length-o)) (W4j hn2)
   omega
  rw[hY,<-W0y] at h4
  have h5:=Nat.le_of_mul_le_mul_right h4 hp
  have h6:=W0v (4294967296^(I.length-o)) Z
  rw[<-W0z,show I.length-o+((dig y).length-1)=(dig x).length by omega] at h6
  omega
 refine Lo (λ(k,T,lq)=>[(8,.d (.int .i64 s)),(9,.own 62 1 0 I.length),(10,.d (ws (dig Y))),(11,.d (.int .i64 o)),(12,.own 73 1 0 (I.length-o)),(13,.d (.int .u64 Q)),(14,.d (.int .u64 tn)),(15,.d (.int .i64 ((k:Nat)-1:Int)))]) (λ(_,T,lq)=>[(62,.arr 1 (T.map wd)),(73,.arr 1 (lq.map wd))])
  (λ(k,T,lq)=>k<=I.length-o/\T.length=I.length/\Xar T/\lq.length=I.length-o/\Xar lq/\(∀j,j<k->T[j]?=I[j]?)/\val (T.drop k)<Y/\val (lq.drop k)*Y+val (T.drop k)=val (I.drop k)) (λ(k,_,_)=>k) (I.length-o,I,List.replicate (I.length-o) 0) [] rfl
  ⟨by omega,rfl,huw,by simp,Xfv _,λ_ _=>rfl,hR0,by rw[W1y (by simp)];simp[val]⟩ ?_ (by exact⟨by simp only[lw,ws,hmv];rfl,by simp only[W2j];rfl,rfl,rfl,rfl⟩)
 rintro⟨k,T,lq⟩ ⟨hk,hln,hwu,hlq,hwq,hsame,hRlt,hQR⟩
 refine By rfl (λh=>?_) λh=>?_
 . obtain⟨u0,hu0⟩:=xat (l:=T) (k:=k-1+o) (by omega)
   obtain⟨u1,hu1⟩:=xat (l:=T) (k:=k-1+o-1) (by omega)
   obtain⟨u2,hu2⟩:=xat (l:=T) (k:=k-1+o-2) (by omega)
   have hub0:=ww hu0 hwu
   have hub1:=ww hu1 hwu
   have hub2:=ww hu2 hwu
   obtain⟨hwin,hUlt⟩:=Ybc (n:=o) (i:=k-1) (Y:=Y) hwu (by omega) (by rw[show k-1+1=k by omega];exact hRlt) (by rw[hmv];exact W2f hYl)
   have hUM:val (T.drop (k-1))=val ((T.drop (k-1)).take (o-2))+4294967296^(o-2)*(u2+4294967296*(u0*2^32+u1)):=by
    have g1:=Xca (l:=T) (q:=k-1) (i:=o-2) (u:=u2) (by rw[show k-1+(o-2)=k-1+o-2 by omega];exact hu2)
    have g2:=Xca (l:=T) (q:=k-1) (i:=o-2+1) (u:=u1) (by rw[show k-1+(o-2+1)=k-1+o-1 by omega];exact hu1)
    have g3:=Xca (l:=T) (q:=k-1) (i:=o-2+1+1) (u:=u0) (by rw[show k-1+(o-2+1+1)=k-1+o by omega];exact hu0)
    rw[show o-2+1+1+1=o+1 by omega,g2,g1,<-hwin] at g3
    rw[g3,W1a,W1a]
    exact Yhd ..
   have hlow:val ((T.drop (k-1)).take (o-2))<4294967296^(o-2):=by
    have:=Xby ((hwu.drop (k-1)).take (o-2))
    rwa[W0f,W1k,W2e (by omega)] at this
   obtain⟨U,hU⟩:∃U,U=val (T.drop (k-1)):=⟨_,rfl⟩
   obtain⟨low,hlowg⟩:∃low,low=val ((T.drop (k-1)).take (o-2)):=⟨_,rfl⟩
   obtain⟨vlow,hvlowg⟩:∃vlow,vlow=val ((dig Y).take (o-2)):=⟨_,rfl⟩
   obtain⟨M,hMg⟩:∃M,M=4294967296^(o-2):=⟨_,rfl⟩
   obtain⟨O,htop⟩:∃O,O=u0*2^32+u1:=⟨_,rfl⟩
   have htopb:O<18446744073709551616:=by omega
   rw[<-hU] at hwin hUlt hUM
   rw[<-hMg,<-hlowg,<-htop] at hUM
   rw[<-hMg,<-hvlowg] at hYM
   rw[<-hMg,<-hlowg] at hlow
   rw[<-hMg,<-hvlowg] at hvlow
   rw[<-hMg] at hM
   refine Dw rfl ?_
   refine Ar (k-1+o:Nat) rfl ?_
   refine Eo (k-1+o) rfl (by omega) ?_
   refine Ld (wd u0) rfl (mp hu0) ?_
   refine Go.Vm.Cv u0 rfl ?_
   refine Ar (u0*2^32:Nat) rfl ?_ (Xig (n:=32) rfl (by omega) (by decide))
   refine Ar (k-1+o:Nat) rfl ?_
   refine Ar (k-1+o-1:Nat) rfl ?_
   refine Eo (k-1+o-1) rfl (by omega) ?_
   refine Ld (wd u1) rfl (mp hu1) ?_
   refine Go.Vm.Cv u1 rfl ?_
   refine Ar O rfl ?_ (Yb8 (by omega) (by omega) (by rw[Xdn u1 u0 32 (by omega),<-htop]) htopb)
   have hd63:O/Q<9223372036854775808:=by
    rw[W2t (by omega)]
    have:=W0v 9223372036854775808 htt
    omega
   have hr63:O%Q<Q:=W1s _ (by omega)
   have hdz:0<=O/Q:=W0w _
   refine Dw rfl ?_
   refine Ar (O/Q:Nat) rfl ?_ (show _/\_ from⟨by omega,Ydp O Q htopb⟩)
   refine Ar (O%Q:Nat) rfl ?_ (show _/\_ from⟨by omega,Xr2 O Q⟩)
   have hqz:U/Y<=O/Q:=by
    apply W4j
    intro hlt
    have h1:(O/Q+1)*Y<=U:=by
     have:=W6w U Y
     exact W0m (W0k _ hlt) this
    have Z:=W2q O Q
    have h4:(O/Q+1)*Q>=O+1:=by rw[W1c,W1h,W6j];omega
    have h5:(O/Q+1)*(M*(4294967296*Q))<=(O/Q+1)*Y:=W0v _ (by rw[hYM,W1f];omega)
    have h6:(O/Q+1)*(M*(4294967296*Q))=M*(4294967296*((O/Q+1)*Q)):=by grind
    have h7:M*(4294967296*(O+1))<=M*(4294967296*((O/Q+1)*Q)):=W0v _ (W0v _ h4)
    have h8:M*(u2+4294967296*O+1)<=M*(4294967296*(O+1)):=W0v _ (by omega)
    rw[W1f M _ 1,W4f] at h8
    omega
   refine Cu (some 1000003) (λ(dd:Nat)=>[(8,.d (.int .i64 s)),(9,.own 62 1 0 I.length),(10,.d (ws (dig Y))),(11,.d (.int .i64 o)),(12,.own 73 1 0 (I.length-o)),(13,.d (.int .u64 Q)),(14,.d (.int .u64 tn)),(15,.d (.int .i64 ((k:Nat)-1:Int))),(17,.d (.int .u64 dd))]) (λ_=>[(62,.arr 1 (T.map wd)),(73,.arr 1 (lq.map wd))])
    (λdd=>dd<4294967296/\U/Y<=dd/\dd<=U/Y+1) rfl ?_ λdd ⟨hdB,hdq,hdq1⟩=>?_
   . refine Lo (λ(dd,r)=>[(8,.d (.int .i64 s)),(9,.own 62 1 0 I.length),(10,.d (ws (dig Y))),(11,.d (.int .i64 o)),(12,.own 73 1 0 (I.length-o)),(13,.d (.int .u64 Q)),(14,.d (.int .u64 tn)),(15,.d (.int .i64 ((k:Nat)-1:Int))),(17,.d (.int .u64 (dd:Nat))),(18,.d (.int .u64 (r:Nat)))]) (λ_=>[(62,.arr 1 (T.map wd)),(73,.arr 1 (lq.map wd))])
      (λ(dd,r)=>U/Y<=dd/\dd*Q+r=O/\r<4294967296/\dd<9223372036854775808) (λ(dd,_)=>dd) (O/Q,O%Q) [] rfl ⟨hqz,by rw[W1h];exact W2q ..,by omega,hd63⟩ ?_
     rintro⟨dd,r⟩ ⟨hdq,hdt,hr,hd63⟩
     refine By rfl (λh1=>?_) λh1=>?_
     . have hUq:U/Y<dd:=Ykc hUlt (W2p hY0) (by omega)
       have hdd1:1<=dd:=W1w (W0w _) hUq
       have hdd:(dd-1)*Q+(r+Q)=O:=by
        obtain⟨e,rfl⟩:∃e,dd=e+1:=⟨dd-1,by omega⟩
        rw[W3w];rw[W1c,W6j] at hdt;omega
       refine Ar (dd-1:Nat) rfl ?_
       refine Ar (r+Q:Nat) rfl ?_
       refine By rfl (λZ=>?_) λZ=>?_
       . exact Jn (dd-1) [] rfl (Xxc hY0 hM hUM hYM hUlt hvlow htnb htt hdd (by omega) hUq)
       . exact Bk (dd-1,r+Q) [] rfl ⟨by omega,hdd,by omega,by omega⟩ (by show dd-1<dd;omega)
     . have htd:dd*tn<18446744073709551616:=by have:=Ynd (a:=dd) (b:=tn) (by omega) htnb;omega
       refine Ar (dd*tn:Nat) rfl ?_ (wr (W2n ..).symm (by simp only[inK];omega))
       refine Ar (r*2^32:Nat) rfl ?_ (Xig (n:=32) rfl (by omega) (by decide))
       refine Ar (k-1+o:Nat) rfl ?_
       refine Ar (k-1+o-2:Nat) rfl ?_
       refine Eo (k-1+o-2) rfl (by omega) ?_
       refine Ld (wd u2) rfl (mp hu2) ?_
       refine Go.Vm.Cv u2 rfl ?_
       refine Ar (r*2^32+u2:Nat) rfl ?_ (Yb8 (by omega) (by omega) (Xdn u2 r 32 (by omega)) (by omega))
       refine By rfl (λZ=>?_) λZ=>?_
       . have hUq:U/Y<dd:=by
          have h1:r*4294967296+u2<dd*tn:=W7e.1 Z
          have Z:=Ykb hlow hM hdt h1 (by rw[<-hYM];exact W2p hY0)
          rwa[<-hUM,<-hYM] at Z
         have hdd1:1<=dd:=W1w (W0w _) hUq
         have hdd:(dd-1)*Q+(r+Q)=O:=by
          obtain⟨e,rfl⟩:∃e,dd=e+1:=⟨dd-1,by omega⟩
          rw[W3w];rw[W1c,W6j] at hdt;omega
         refine Ar (dd-1:Nat) rfl ?_
         refine Ar (r+Q:Nat) rfl ?_
         refine By rfl (λZ=>?_) λZ=>?_
         . exact Jn (dd-1) [] rfl (Xxc hY0 hM hUM hYM hUlt hvlow htnb htt hdd (by omega) hUq)
         . exact Bk (dd-1,r+Q) [] rfl ⟨by omega,hdd,by omega,by omega⟩ (by show dd-1<dd;omega)
       . exact Jn dd [] rfl ⟨by omega,hdq,by
          rw[hUM,hYM]
          exact Yc3 (r:=r) hM hvlow hdt (by have Z:=Int.ofNat_le.1 (Int.not_lt.1 Z);omega) (by omega) (by omega)⟩
   refine Ar (k-1+o:Nat) rfl ?_
   refine Ar (k-1+o+1:Nat) rfl ?_
   refine Sw (k-1) (k-1+o+1) rfl (by omega) (by omega) ?_
   refine Cw (args:=[.own 1000001 1 (k-1) (o+1),.d (ws (dig Y)),.d (.int .u64 dd)]) [(1000001,62)] rfl (Xn5 (l:=T) hwu (by omega) hmv.symm hdB (by omega)) (λv H' _ hv=>?_) (by exact congrArg (·::_) (by rw[W1l,show k-1+o+1-(k-1)=o+1 by omega];rfl))
   obtain⟨cc,lu1,hc1,rfl,rfl,hl1,hw1,hout1,hv1⟩:=hv
   have hwin1:=Xby ((hw1.drop (k-1)).take (o+1))
   have hwin0:=Xby ((hwu.drop (k-1)).take (o+1))
   rw[W0f,W1k,W2e (by omega)] at hwin1 hwin0
   rw[<-hwin] at hv1 hwin0
   have hstep:=Ydv (W2p hY0) hdq hdq1 hv1 hc1 hwin1 hwin0
   refine Cu none (λ(V:List Nat)=>[(8,.d (.int .i64 s)),(9,.own 62 1 0 I.length),(10,.d (ws (dig Y))),(11,.d (.int .i64 o)),(12,.own 73 1 0 (I.length-o)),(13,.d (.int .u64 Q)),(14,.d (.int .u64 tn)),(15,.d (.int .i64 ((k:Nat)-1:Int))),(17,.d (.int .u64 (U/Y:Nat)))]) (λV=>[(62,.arr 1 (V.map wd)),(73,.arr 1 (lq.map wd))])
    (λV=>V.length=I.length/\Xar V/\(∀j,(j<k-1\/k-1+(o+1)<=j)->V[j]?=T[j]?)/\val ((V.drop (k-1)).take (o+1))=U%Y) rfl ?_ λV ⟨hl2,hw2,hout,hwinv⟩=>?_
   . refine By rfl (λh1=>?_) λh1=>?_
     . obtain⟨hdd1,hrest1⟩:=hstep.2 h1
       refine Ar (U/Y:Nat) rfl ?_ (wr (by rw[hdd1];exact(by omega:((U/Y+1:Nat):Int)-1=((U/Y:Nat):Int))) (by simp only[inK];have:=W0w (U/Y);omega))
       refine Ar (k-1+o:Nat) rfl ?_
       refine Ar (k-1+o+1:Nat) rfl ?_
       refine Sw (k-1) (k-1+o+1) rfl (by omega) (by omega) ?_
       refine Cw (args:=[.own 1000001 1 (k-1) (o+1),.d (ws (dig Y))]) [(1000001,62)] rfl (Xr8 (l:=lu1) hw1 (by omega) hmv.symm (by omega)) (λv H' _ hv=>?_) (by exact congrArg (·::_) (by rw[W1l,show k-1+o+1-(k-1)=o+1 by omega];rfl))
       obtain⟨e',V,he1,rfl,hl2,hw2,hout2,hv2⟩:=hv
       have hwin2:=Xby ((hw2.drop (k-1)).take (o+1))
       rw[W0f,W1k,W2e (by omega)] at hwin2
       exact Jn V [] rfl ⟨by omega,hw2,λj hj=>(hout2 j hj).trans (hout1 j hj),hrest1 _ e' hwin2 hv2 he1⟩
     . obtain⟨hdd1,hrest1⟩:=hstep.1 (by omega)
       subst hdd1
       exact Jn lu1 [] rfl ⟨by omega,hw1,hout1,hrest1⟩
   have hqB:U/Y<4294967296:=by omega
   have hqz0:0<=U/Y:=W0w _
   refine Go.Vm.Cv (U/Y:Nat) rfl ?_
   refine Eo (k-1) rfl (by omega) ?_
   refine Sto rfl (by simp only[lw];omega) ms ?_
   refine Ar ((k-1:Nat)-1:Int) rfl ?_
   have hY1:0<Y:=W2p hY0
   have hab:val (V.drop (k-1))=U%Y:=by
    have g1:=Xbq (V.drop (k-1)) (o+1) (by rw[W1k];omega)
    have g2:=Xbq (T.drop (k-1)) (o+1) (by rw[W1k];omega)
    have g3:(V.drop (k-1)).drop (o+1)=(T.drop (k-1)).drop (o+1):=by
     rw[W6a,W6a]
     exact Xe7 λj hj=>hout j (.inr hj)
    rw[<-hU,<-hwin] at g2
    rw[g1,hwinv,g3]
    omega
   refine Bk (k-1,V,lq.set (k-1) (U/Y)) [] rfl ⟨by omega,hl2,hw2,by simp[hlq],Xhl hwq hqB,λj hj=>(hout j (.inl hj)).trans (hsame j (by omega)),by rw[hab];exact W1s _ hY1,?_⟩ (by show k-1<k;omega)
   obtain⟨w,hw⟩:=xat (l:=T) (k:=k-1) (by omega)
   have hw2':I[k-1]?=some w:=by rw[<-hsame (k-1) (by omega)];exact hw
   have g1:=Xb0 hw
   have g2:=Xb0 hw2'
   have g3:=Xb0 (l:=lq.set (k-1) (U/Y)) (k:=k-1) (W2x (by omega))
   have g4:(lq.set (k-1) (U/Y)).drop (k-1+1)=lq.drop (k-1+1):=Xe7 λj hj=>W2a (by omega)
   rw[show k-1+1=k by omega] at g1 g2 g3 g4
   rw[hab,g2,g3,g4,<-hQR,W1c,W0y,W1f]
   have g5:=W2q U Y
   rw[W1h] at g5
   rw[<-hU] at g1
   omega
 . have hk0:k=0:=by omega
   subst hk0
   rw[W1e] at hRlt hQR
   rw[W1e,W1e,huv] at hQR
   obtain⟨hQ,hR⟩:=Xw4 hY.symm hQR hRlt
   have htk:val (T.take o)=val T:=by
    have g:=Xbq T o (by omega)
    rw[hmv] at g
    rcases W2v (val (T.drop (dig Y).length)) with h5 | h5
    . rw[h5,W3f] at g;rw[hmv];omega
    . have:=W4i (4294967296^(dig Y).length) h5
      omega
   refine Fz 26 12 (lq.map wd) rfl (by simp only[lw];omega) (oa hlq) ?_
   refine Fz 26 9 (T.map wd) rfl (by simp only[lw];omega) (oa hln) ?_
   refine Dw rfl ?_
   refine Ce rfl (Xa6 hwq (by omega)) ?_
   refine Tk o (T.take o |>.map wd) rfl rfl (by simp only[lw];omega) (W2g ..).symm ?_
   refine Ce rfl (Xa6 (hwu.take o) (by rw[W0f];omega)) ?_
   refine Ca rfl (Xf5 (Xae _) (by rw[htk];have:=Xas (W2f hRlt);omega) hs32) λv hv=>?_
   obtain⟨l8,hl8,hw8,hn8,rfl⟩:=hv
   rw[Xag,htk,hR,Nat.mul_div_cancel _ (W0u s)] at hl8
   refine Ce rfl (Xa6 hw8 (by rw[hn8,htk];have:=Xas (W2f hRlt);omega)) ?_
   exact RTt rfl (.cons (.eq (by rw[hQ])) (.one (.eq (by rw[hl8])) (λ_ _ e=>by cases e) (λ_ _ e=>by cases e)))
end
end Go.Proofs.YtfjafaehfjjaiaaGreatDoor
namespace Go.Num
def rt: Nat->Nat
 | 0=>0
 | n+1=>if (rt n+1)*(rt n+1)<=n+1 then rt n+1 else rt n
theorem Xdf(n:Nat): rt n*rt n<=n/\n<(rt n+1)*(rt n+1):=by
 induction n with
 | zero=>exact⟨W0a _,by decide⟩
 | succ n i =>
  obtain⟨j,o⟩:=i
  simp only[rt]
  split
  . rename_i h
    refine⟨h,?_⟩
    have:(rt n+1+1)*(rt n+1+1)=(rt n+1)*(rt n+1)+2*(rt n+1)+1:=by grind
    omega
  . rename_i h
    exact⟨by omega,by omega⟩
theorem Xyv{x y:Nat}(h:x*x<y*y): x<y:=by
 by_cases i:x<y
 . exact i
 . have:=W1z (W4j i) (W4j i)
   omega
theorem Yh9{n s:Nat}(h:s*s<=n)(i:n<(s+1)*(s+1)): rt n=s:=by
 obtain⟨j,o⟩:=Xdf n
 have I:rt n<s+1:=Xyv (by omega)
 have O:s<rt n+1:=Xyv (by omega)
 omega
theorem Yh8{n:Nat}(h:n≠0): 0<rt n:=by
 have:=(Xdf n).2
 by_cases h0:rt n=0
 . rw[h0] at this;omega
 . omega
theorem Ych{a x:Nat}(i:0<x): rt a<=(x+a/x)/2:=by
 obtain⟨O,Q⟩:=Xdf a
 generalize rt a=s at *
 by_cases h:s<=(x+a/x)/2
 . exact h
 . exfalso
   have T:x+a/x+1<=2*s:=by omega
   have j:a<(a/x+1)*x:=by
    have:=W2q a x
    have:=W1s a i
    rw[W1c,W1h (a/x)];omega
   obtain⟨q,hq⟩:∃q,q=a/x+1:=⟨_,rfl⟩
   rw[<-hq] at j
   have V:x+q<=2*s:=by omega
   have Z:q*x<=s*s:=by
    by_cases o:x<=s
    . obtain⟨e,rfl⟩:∃e,s=x+e:=⟨s-x,by omega⟩
      have:q<=x+2*e:=by omega
      have h7:=W0k x this
      have:(x+e)*(x+e)=(x+2*e)*x+e*e:=by grind
      omega
    . obtain⟨e,I⟩:∃e,x=s+e:=⟨x-s,by omega⟩
      subst I
      have h8:q+e<=s:=by omega
      obtain⟨f,rfl⟩:∃f,s=q+e+f:=⟨s-q-e,by omega⟩
      have:(q+e+f)*(q+e+f)=q*(q+e+f+e)+(e*e+2*(e*f)+f*q+f*f):=by grind
      omega
   omega
theorem Xsh{a x:Nat}(j:0<x)(h:x<=(x+a/x)/2)(hr:rt a<=x): rt a=x:=by
 have i:x<=a/x:=by omega
 have o:x*x<=a:=W0m (W0k x i) (W6w a x)
 have I:=(Xdf a).2
 have O:x<rt a+1:=Xyv (by omega)
 omega
theorem Xue{a B n:Nat}(h:a<2^B)(i:B<=2*n): rt a<2^n:=by
 refine Xyv ?_
 rw[<-W0z,<-Nat.two_mul]
 exact W1w (Xdf a).1 (W0x h (W0p (by decide) i))
theorem Xil(n:Nat): 4294967296^(n/32)*2^(n%32)=2^n:=by
 rw[show (4294967296:Nat)=2^32 from rfl,<-W5z,<-W0z]
 congr 1
 omega
theorem Xlv(n:Nat): dig (2^n)=(List.replicate (n/32+1) 0).set (n/32) (2^(n%32)):=by
 have hb:2^(n%32)<4294967296:=W0x (W3x (by decide) (W1s n (by decide))) (by decide)
 have i:val ((List.replicate (n/32+1) 0).set (n/32) (2^(n%32)))=2^n:=by
  have:=Xbh (l:=List.replicate (n/32+1) 0) (k:=n/32) (d:=2^(n%32)) (by simp)
  rw[W0b (by simp),W5n,Xbx,W1l,Xil] at this
  exact this
 have j:Xar ((List.replicate (n/32+1) 0).set (n/32) (2^(n%32))):=by
  intro y o
  rcases W5i o with h | h
  . have:=W6c h;omega
  . omega
 rw[<-i]
 refine Xfo j (Xpu j (by simp) ?_)
 rw[i,W3p,W1n,W3w,<-Xil n]
 exact W4i _ (W0u _)
theorem Xaz(a b:Int): (a<b/\Xbb a b=-1)\/(a=b/\Xbb a b=0)\/(b<a/\Xbb a b=1):=by
 unfold Xbb
 split
 . left;exact⟨by assumption,rfl⟩
 . split
   . right;right;exact⟨by omega,rfl⟩
   . right;left;exact⟨by omega,rfl⟩
theorem Xfz{l:List Nat}{j x:Nat}(h:l[j]?=some x): val l=val (l.take j)+4294967296^j*(x+4294967296*val (l.drop (j+1))):=by
 have i:j<l.length:=(W0n.1 h).1
 rw[Xbq l j (by omega),Xb0 h]
end Go.Num
namespace Go.Proofs.YtfjafaehfjjaiaaGreatDoor
open Go Go.Vm Go.Num
section
theorem Xa0(z:Int): (z<0/\z=-(z.natAbs:Int))\/(¬z<0/\z=(z.natAbs:Int)):=by omega
theorem Ybv(z:Int): sg (!decide (z<0)) z.natAbs=-z:=by
 rcases Xa0 z with ⟨h,e⟩ | ⟨h,e⟩<;>simp[sg,h]<;>omega
theorem Ybw(x y:Int): sg (decide (x<0) != decide (y<0)) (x.natAbs*y.natAbs)=x*y:=by
 rcases Xa0 x with ⟨h,e⟩ | ⟨h,e⟩<;>rcases Xa0 y with ⟨i,j⟩ | ⟨i,j⟩ <;>
  (simp only[sg,h,i,decide_true,decide_false]
   generalize x.natAbs=a at *
   generalize y.natAbs=b at *
   subst e
   subst j
   simp[Int.neg_mul,Int.mul_neg])
theorem Ybx{x y:Int}(h:decide (x<0)=decide (y<0)): sg (decide (x<0)) (x.natAbs+y.natAbs)=x+y:=by
 rcases Xa0 x with ⟨i,e⟩ | ⟨i,e⟩<;>rcases Xa0 y with ⟨j,o⟩ | ⟨j,o⟩<;>simp[i,j] at h<;>simp[sg,i]<;>omega
theorem Xqc{x y:Int}(h:decide (x<0)≠decide (y<0))(o:y.natAbs<=x.natAbs): sg (decide (x<0)) (x.natAbs-y.natAbs)=x+y:=by
 rcases Xa0 x with ⟨i,e⟩ | ⟨i,e⟩<;>rcases Xa0 y with ⟨j,I⟩ | ⟨j,I⟩<;>simp[i,j] at h<;>simp[sg,i]<;>omega
theorem Xw7{n:Nat}(h:(dig n).length<=2): n<18446744073709551616:=by
 have:=Xdt n
 have i:4294967296^(dig n).length<=4294967296^2:=W0p (by decide) h
 omega
theorem Xhx(n:Nat): sg false n=(n:Int):=rfl
theorem Xz3{a b:Int}(hb:b≠0)(h:decide (a<0)=decide (b<0)): sg (decide (a<0) != decide (b<0)) (a.natAbs/b.natAbs)=a.fdiv b/\sg (decide (b<0)) (a.natAbs%b.natAbs)=a.fmod b:=by
 rcases Xa0 a with ⟨i,e⟩ | ⟨i,e⟩<;>rcases Xa0 b with ⟨j,o⟩ | ⟨j,o⟩<;>simp[i,j] at h<;>simp only[sg,i,j,decide_true,decide_false]
 all_goals
  generalize a.natAbs=x at *
  generalize b.natAbs=y at *
  subst e
  subst o
  simp[W1t,W5u]
theorem Yfl(x y:Nat)(i:0<y): (-(x:Int)).fdiv y=-((x/y+if 0<x%y then 1 else 0:Nat):Int)/\(-(x:Int)).fmod y=((if 0<x%y then y-x%y else 0:Nat):Int):=by
 rw[W1t _ (by omega),W5u _ (by omega)]
 have h:=W2q x y
 have j:=W1s x i
 refine(W7r (by omega)).2 ?_
 generalize x/y=q at *
 generalize x%y=r at *
 split
 . refine⟨?_,by omega,by omega⟩
   rw[<-h,Int.natCast_sub (by omega)]
   push_cast
   grind
 . have:r=0:=by omega
   subst this
   refine⟨?_,by omega,by omega⟩
   rw[<-h]
   push_cast
   grind
theorem Xre{a b:Int}(hb:b≠0)(h:decide (a<0)≠decide (b<0)): sg (decide (a<0) != decide (b<0)) (a.natAbs/b.natAbs+if 0<a.natAbs%b.natAbs then 1 else 0)=a.fdiv b/\sg (decide (b<0)) (if 0<a.natAbs%b.natAbs then b.natAbs-a.natAbs%b.natAbs else 0)=a.fmod b:=by
 rcases Xa0 a with ⟨i,e⟩ | ⟨i,e⟩<;>rcases Xa0 b with ⟨j,o⟩ | ⟨j,o⟩<;>simp[i,j] at h<;>simp only[sg,i,j,decide_true,decide_false]
 all_goals
  generalize a.natAbs=x at *
  generalize b.natAbs=y at *
  subst e
  subst o
  have hf:=Yfl x y (by omega)
 . rw[hf.1,hf.2]
   exact⟨rfl,rfl⟩
 . have I:(x:Int).fdiv (-(y:Int))=(-(x:Int)).fdiv y:=by rw[<-W7m,Int.neg_neg]
   have O:(x:Int).fmod (-(y:Int))=-((-(x:Int)).fmod y):=by rw[<-Int.neg_fmod_neg,Int.neg_neg]
   rw[I,O,hf.1,hf.2]
   exact⟨rfl,rfl⟩
theorem Xnj{a b:Int}(h:Xbb a 0≠Xbb b 0): Xbb (Xbb a 0) (Xbb b 0)=Xbb a b:=by
 rcases Xaz a 0 with ⟨I,i⟩ | ⟨I,i⟩ | ⟨I,i⟩<;>rcases Xaz b 0 with ⟨O,j⟩ | ⟨O,j⟩ | ⟨O,j⟩<;>rw[i,j] at h |- <;>
  first | exact absurd rfl h | (rcases Xaz a b with ⟨Q,o⟩ | ⟨Q,o⟩ | ⟨Q,o⟩<;>rw[o]<;>first | rfl | omega)
theorem Xnk{a b:Int}(h:Xbb a 0=Xbb b 0): Xbb a 0*Xbb (a.natAbs:Int) (b.natAbs:Int)=Xbb a b:=by
 rcases Xaz a 0 with ⟨O,i⟩ | ⟨O,i⟩ | ⟨O,i⟩<;>rcases Xaz b 0 with ⟨Q,j⟩ | ⟨Q,j⟩ | ⟨Q,j⟩<;>rw[i,j] at h <;>
  first | (exact absurd h (by decide)) | (rw[i];rcases Xaz a b with ⟨T,o⟩ | ⟨T,o⟩ | ⟨T,o⟩<;>rcases Xaz (a.natAbs:Int) (b.natAbs:Int) with ⟨V,I⟩ | ⟨V,I⟩ | ⟨V,I⟩<;>rw[o,I]<;>first | rfl | omega)
theorem Xxr{t:Nat}(h:t<4294967296): bl t<=32:=by
 by_cases h0:t=0
 . subst h0;decide
 . have:=(Xcq h0).1
   by_cases i:bl t<=32
   . exact i
   . have:2^32<=2^(bl t-1):=W0p (by decide) (by omega)
     omega
theorem Xpv{n m t:Nat}(Q:m=(dig n).length)(i:0<m)(j:(dig n)[m-1]?=some t): n<2^(32*(m-1)+bl t):=by
 have h0:=Xfz j
 have hd:(dig n).drop (m-1+1)=[]:=W1y (by omega)
 rw[Xag,hd] at h0
 have o:=Xby ((Xae n).take (m-1))
 rw[W0f,show min (m-1) (dig n).length=m-1 by omega] at o
 have e:(4294967296:Nat)^(m-1)=2^(32*(m-1)):=by rw[show (4294967296:Nat)=2^32 from rfl,<-W5z]
 have I:t<2^bl t:=by
  by_cases h:t=0
  . subst h;exact W0u _
  . exact(Xcq h).2.1
 have O:=W0v (4294967296^(m-1)) (show t+1<=2^bl t from I)
 rw[W1f,W4f] at O
 rw[W0z,<-e]
 simp only[val,W3f,W2i] at h0
 omega
theorem Yei{n:Nat}: 2^(n%32)<4294967296:=W0x (W3x (by decide) (W1s n (by decide))) (by decide)
theorem Xov{n:Nat}: (dig (2^n)).length=n/32+1:=by rw[Xlv];simp
theorem f0{g:Hp}{K:Hpl}: Fit g K (.st (.pr (.b false) .nil)) (.d (dz 0)):=.sd (.pd (.bd rfl) (.nil (by rw[Int.natAbs_zero,Xan];rfl)))
theorem f0'{g:Hp}{K:Hpl}{z:Int}(h:z=0): Fit g K (.st (.pr (.b false) .nil)) (.d (dz z)):=h ▸ f0
theorem Yc9{a b:Bool}: dc (¬(a=true↔b=true))=(a != b):=by rw[Xxd];cases a<;>cases b<;>rfl
theorem Yn9{a b:Bool}: (a=true↔b=true)↔a=b:=W4q.symm
theorem Xco{n:Nat}(h:(dig n).length<=1099511627776): C0 167 [.d (ws (dig n))] (·=.d (ws (dig n))):=trim_dig_ok h
theorem Norm_ok{z:Int}(h:(dig z.natAbs).length<=1099511627776): C0 192 [.d (dz z)] (·=.d (dz z)):=by
 refine En Tryz.func192 λ_ _ _=>?_
 refine Dw rfl ?_
 refine Ce rfl (Xco h) ?_
 refine Ce rfl (Xbs h) ?_
 refine Ce rfl (Xao h) ?_
 exact R1 rfl (.eq (by rw[Xqd]))
theorem Neg_ok{z:Int}(h:(dig z.natAbs).length<=1099511627776): C0 187 [.d (dz z)] (·=.d (dz (-z))):=by
 refine En Tryz.func187 λ_ _ _=>?_
 refine Dw rfl ?_
 refine Ce rfl (Xco h) ?_
 refine Ce rfl (Xbs h) ?_
 refine Ce rfl (Xao h) ?_
 exact R1 rfl (.eq (by rw[Ybv]))
theorem Sign_ok{z:Int}(h:(dig z.natAbs).length<=1099511627776): C0 252 [.d (dz z)] (·=.d (.int .i64 (Xbb z 0))):=by
 refine En Tryz.func252 λ_ _ _=>?_
 refine Ce rfl (Xco h) ?_
 refine By rfl (λi=>?_) λi=>?_<;>simp only[lw] at i
 . have:z=0:=by have:=Xsp.1 (W0q (by omega:(dig z.natAbs).length=0));omega
   exact R1 rfl (.eq (by rw[this];rfl))
 . have h0:z≠0:=λe=>i (by rw[e,Int.natAbs_zero,Xan];rfl)
   refine By rfl (λj=>?_) λj=>?_
   . exact R1 rfl (.eq (by rw[Xbb,if_pos j]))
   . exact R1 rfl (.eq (by rw[Xbb,if_neg j,if_pos (by omega)]))
theorem Cmp_ok{a b:Int}(ha:(dig a.natAbs).length<=1099511627776)(hb:(dig b.natAbs).length<=1099511627776): C0 182 [.d (dz a),.d (dz b)] (·=.d (.int .i64 (Xbb a b))):=by
 refine En Tryz.func182 λ_ _ _=>?_
 refine Dw rfl ?_
 refine Ce rfl (Sign_ok ha) ?_
 refine Ce rfl (Sign_ok hb) ?_
 refine By rfl (λh=>?_) λh=>?_
 . refine Ce rfl Xdd ?_
   exact R1 rfl (.eq (by rw[Xnj h]))
 . have h:Xbb a 0=Xbb b 0:=W2u.1 h
   refine Dw rfl ?_
   refine Ce rfl (Xco ha) ?_
   refine Ce rfl (Xco hb) ?_
   refine Ce rfl (Xb6 ha) ?_
   refine Ar (Xbb a b) rfl ?_ (wr (Xnk h) (by simp only[inK];rcases Xaz a b with ⟨i,j⟩ | ⟨i,j⟩ | ⟨i,j⟩<;>omega))
   exact R0
theorem Mul_ok{a b:Int}(ha:(dig a.natAbs).length<=549755813888)(hb:(dig b.natAbs).length<=549755813888): C0 111 [.d (dz a),.d (dz b)] (·=.d (dz (a*b))):=by
 refine En Tryz.func111 λ_ _ _=>?_
 refine Dw rfl ?_
 refine Ce rfl (Xco (by omega)) ?_
 refine Ce rfl (Xco (by omega)) ?_
 refine Ce rfl (Xkz ha hb) ?_
 refine Ce rfl (Xao (W0m (Xll ..) (by omega))) ?_
 exact R1 rfl (.eq (by rw[Yc9,Ybw]))
theorem Yn2{x y:Nat}: ¬Xbb (x:Int) (y:Int)<0↔y<=x:=by rw[Yaj];omega
theorem Add_ok{a b:Int}(ha:(dig a.natAbs).length<=549755813888)(hb:(dig b.natAbs).length<=549755813888): C0 114 [.d (dz a),.d (dz b)] (·=.d (dz (a+b))):=by
 refine En Tryz.func114 λ_ _ _=>?_
 refine Dw rfl ?_
 refine Ce rfl (Xco (by omega)) ?_
 refine Ce rfl (Xco (by omega)) ?_
 refine By rfl (λh=>?_) λh=>?_<;>rw[Yn9] at h
 . refine Dw rfl ?_
   refine Ce rfl (Xim (by omega) (by omega)) ?_
   refine Ce rfl (Xao (W0m (Xg4 ..) (by omega))) ?_
   exact R1 rfl (.eq (by rw[Ybx h]))
 . refine Ce rfl (Xb6 (by omega)) ?_
   refine By rfl (λj=>?_) λj=>?_
   . have i:=W2f (Yaj.1 j)
     refine Dw rfl ?_
     refine Ce rfl (Xd6 (by omega) i) ?_
     refine Ce rfl (Xao (W0m (Xas (Nat.sub_le ..)) (by omega))) ?_
     exact R1 rfl (.eq (by rw[Xqc (λe=>h e.symm) i,Int.add_comm]))
   . have i:=Yn2.1 j
     refine Dw rfl ?_
     refine Ce rfl (Xd6 (by omega) i) ?_
     refine Ce rfl (Xao (W0m (Xas (Nat.sub_le ..)) (by omega))) ?_
     exact R1 rfl (.eq (by rw[Xqc h i]))
theorem GCD_ok{a b:Int}(ha:(dig a.natAbs).length<=549755813888)(hb:(dig b.natAbs).length<=549755813888): C0 186 [.d (dz a),.d (dz b)] (·=.d (dz (Int.gcd a b))):=by
 have T:∀ {x:Nat},(dig x).length=0↔x=0:=λ{x}=>⟨λh=>Xsp.1 (W0q h),λh=>by rw[h,Xan];rfl⟩
 refine En Tryz.func186 λ_ _ _=>?_
 refine Dw rfl ?_
 refine Ce rfl (Xco (by omega)) ?_
 refine Ce rfl (Xco (by omega)) ?_
 refine Cu (some 1000000) (λ((x,y):Nat×Nat)=>[(4,.ptr 4 0),(5,.d (ws (dig x))),(6,.d (ws (dig y)))]) (λ_=>[(4,.var (.st (.pr (.b false) .nil)))]) (λ(x,y)=>Nat.gcd x y=Int.gcd a b/\(dig x).length<=549755813888/\(dig y).length<=2/\((dig x).length<=2\/y=0)) rfl ?_ λ⟨x,y⟩ ⟨j,O,Q,hxy⟩=>?_
 . refine Lo (λ((x,y):Nat×Nat)=>[(4,.ptr 4 0),(5,.d (ws (dig x))),(6,.d (ws (dig y)))]) (λ_=>[(4,.var (.st (.pr (.b false) .nil)))]) (λ(x,y)=>Nat.gcd x y=Int.gcd a b/\(dig x).length<=549755813888/\(dig y).length<=549755813888) (λ(_,y)=>y) (a.natAbs,b.natAbs) [] rfl ⟨rfl,ha,hb⟩ λ⟨x,y⟩ ⟨j,O,Q⟩=>?_
   have step:y≠0->Nat.gcd y (x%y)=Int.gcd a b/\(dig y).length<=549755813888/\(dig (x%y)).length<=549755813888/\x%y<y:=λh0=>by
    have V:=W1s x (W2p h0)
    exact⟨by rw[<-j,W7f y,<-Nat.gcd_rec,W7f],Q,W0m (Xas (W2f V)) Q,V⟩
   refine By rfl (λh1=>?_) λh1=>?_<;>simp only[lw] at h1
   . have h0:y≠0:=λe=>by have:=T.2 e;omega
     refine Ce rfl (Xc8 O Q h0) ?_
     have i:=step h0
     exact Bk (y,x%y) [] rfl ⟨i.1,i.2.1,i.2.2.1⟩ i.2.2.2
   refine By rfl (λi=>?_) λi=>?_<;>simp only[lw] at i
   . refine By rfl (λh3=>?_) λh3=>?_<;>simp only[lw] at h3
     . have h0:y≠0:=λe=>by have:=T.2 e;omega
       refine Ce rfl (Xc8 O Q h0) ?_
       have i:=step h0
       exact Bk (y,x%y) [] rfl ⟨i.1,i.2.1,i.2.2.1⟩ i.2.2.2
     . exact Jn (x,y) [] rfl ⟨j,O,by omega,.inr (T.1 (by omega))⟩
   . exact Jn (x,y) [] rfl ⟨j,O,by omega,.inl (by omega)⟩
 refine By rfl (λh=>?_) λh=>?_<;>simp only[lw] at h
 . have h0:y=0:=T.1 (by omega)
   subst h0
   rw[Nat.gcd_zero_right] at j
   refine Ce rfl (Xbs (by omega)) ?_
   refine Ce rfl (Xao (b:=false) (by omega)) ?_
   exact R1 rfl (.eq (by rw[Xhx,j]))
 . have o:x<18446744073709551616:=Xw7 (by rcases hxy with h | h;exact h;exact absurd (T.2 h) (by omega))
   have I:y<18446744073709551616:=Xw7 (by omega)
   refine Ce rfl (Xf1 o) ?_
   refine Ce rfl (Xf1 I) ?_
   refine Lo (λ((x,y):Nat×Nat)=>[(4,.ptr 4 0),(9,.d (.int .u64 x)),(10,.d (.int .u64 y))]) (λ_=>[(4,.var (.st (.pr (.b false) .nil)))]) (λ(x,y)=>x<18446744073709551616/\y<18446744073709551616/\Nat.gcd x y=Int.gcd a b) (λ(_,y)=>y) (x,y) [] rfl ⟨o,I,j⟩ λ⟨x,y⟩ ⟨O,Q,j⟩=>?_
   refine By rfl (λh=>?_) λh=>?_
   . have hy0:y≠0:=by omega
     have Z:=W1s x (W2p hy0)
     refine Dw rfl ?_
     refine Ar (x%y:Nat) rfl ?_ (show _/\_ from⟨by omega,Xr2 x y⟩)
     exact Bk (y,x%y) [] rfl ⟨Q,by omega,by rw[<-j,W7f y,<-Nat.gcd_rec,W7f]⟩ Z
   . have h0:y=0:=by omega
     subst h0
     rw[Nat.gcd_zero_right] at j
     refine Ce rfl (Xck O) ?_
     refine Ce rfl (Xao (b:=false) (W0m (Xat (k:=2) (by omega)) (by omega))) ?_
     exact R1 rfl (.eq (by rw[Xhx,j]))
theorem Ygz: dig 1=[1]:=by rw[Xfp (by decide),show 1/4294967296=0 from rfl,Xan]
theorem Xzg{x:Nat}(h:(dig x).length<=1099511627775): C0 189 [.d (ws (dig x)),.d (.sl 1 [.int .u32 1])] (·=.d (ws (dig (x+1)))):=by
 have:=Xim (y:=1) h (by rw[Ygz];decide)
 rw[Ygz] at this
 exact this
theorem DivMod_ok{a b:Int}(ha:(dig a.natAbs).length<=549755813888)(hb:(dig b.natAbs).length<=549755813888)(i:b≠0): C0 257 [.d (dz a),.d (dz b)] (·=.tup (.pr (.d (dz (a.fdiv b))) (.pr (.d (dz (a.fmod b))) (.d (.int .i64 0))))):=by
 have o:∀ {x:Nat},(dig x).length=0↔x=0:=λ{x}=>⟨λh=>Xsp.1 (W0q h),λh=>by rw[h,Xan];rfl⟩
 have hq:(dig (a.natAbs/b.natAbs)).length<=549755813888:=W0m (Xas (W3o ..)) ha
 have Q:(dig (a.natAbs%b.natAbs)).length<=549755813888:=W0m (Xas (Nat.mod_le ..)) ha
 have O:(dig (a.natAbs/b.natAbs+1)).length<=549755813889:=W0m (Xg4 ..) (by rw[Ygz];simp;omega)
 refine En Tryz.func257 λ_ _ _=>?_
 refine Ce rfl (Xco (by omega)) ?_
 refine By rfl (λh=>?_) λh=>?_<;>simp only[lw] at h
 . exact absurd ((@o b.natAbs).1 (by omega)) (by omega)
 refine Ce rfl (Xco (by omega)) ?_
 refine Ce rfl (Xc8 ha hb (by omega)) ?_
 refine By rfl (λj=>?_) λj=>?_<;>rw[Yn9] at j
 . refine By rfl (λI=>?_) λI=>?_<;>simp only[lw] at I
   . have hp:0<a.natAbs%b.natAbs:=W2p λe=>by have:=o.2 e;omega
     have hf:=Xre i j
     rw[if_pos hp,if_pos hp] at hf
     refine Ce rfl (Xzg (x:=a.natAbs/b.natAbs) (by omega)) ?_
     refine Ce rfl (Xd6 (by omega) (W2f (W1s _ (by omega)))) ?_
     refine Dw rfl ?_
     refine Ce rfl (Xao (by omega)) ?_
     refine Ce rfl (Xao (W0m (Xas (Nat.sub_le ..)) (by omega))) ?_
     exact RTt rfl (.cons (.eq (by rw[Yc9,hf.1])) (.cons (.eq (by rw[hf.2])) (.one (.rf rfl) (λ_ _ e=>by cases e) (λ_ _ e=>by cases e))))
   . have hp:¬0<a.natAbs%b.natAbs:=λhp=>by have:=mt o.1 (W7w.1 hp);omega
     have hf:=Xre i j
     rw[if_neg hp,if_neg hp,W2i] at hf
     refine Dw rfl ?_
     refine Ce rfl (Xao (by omega)) ?_
     refine Ce rfl (Xao (by omega)) ?_
     exact RTt rfl (.cons (.eq (by rw[Yc9,hf.1])) (.cons (.eq (by rw[show a.natAbs%b.natAbs=0 by omega,hf.2])) (.one (.rf rfl) (λ_ _ e=>by cases e) (λ_ _ e=>by cases e))))
 . have hf:=Xz3 i (W2u.1 j)
   refine Dw rfl ?_
   refine Ce rfl (Xao (by omega)) ?_
   refine Ce rfl (Xao (by omega)) ?_
   exact RTt rfl (.cons (.eq (by rw[Yc9,hf.1])) (.cons (.eq (by rw[hf.2])) (.one (.rf rfl) (λ_ _ e=>by cases e) (λ_ _ e=>by cases e))))
theorem Xo3{x:Nat}(i:(dig x).length<=549755813888): C0 370 [.d (ws (dig x))] (·=.d (ws (dig (x/2)))):=by
 refine En Tryz.func370 λ_ _ _=>?_
 refine Ca rfl (Xf5 (n:=1) (Xae x) i (by decide)) λv j=>?_
 obtain⟨l,h,o,I,rfl⟩:=j
 rw[Xag] at h
 refine Ce rfl (Xa6 o (by omega)) ?_
 exact R1 rfl (.eq (by rw[h]))
theorem Xf4{j:Nat}(h:j<32): arB .shl .u32 1 j (2^j:Nat):=⟨by omega,by
 rw[W7j,show min j (IntKind.bits .u32)=j from W2e (W2f h),W4v,show (2:Int)^j=((2^j:Nat):Int) by rw[W7p];rfl]
 have:2^j<2^32:=W3x (by decide) h
 exact wW ⟨W5d _,W7e.2 this⟩⟩
theorem Xe1{n:Nat}(h:n<=8796093022210): C0 369 [.d (.int .i64 n)] (·=.d (ws (dig (2^n)))):=by
 refine En Tryz.func369 λ_ _ _=>?_
 refine Ar (n/32:Nat) rfl ?_ (show _/\_ from⟨by decide,by rw[show Int.tdiv (n:Int) 32=((n/32:Nat):Int) from rfl];exact wI (by omega)⟩)
 refine Ar (n/32+1:Nat) rfl ?_
 refine Mk (n/32+1) rfl (by omega) ?_
 refine Ar (n/32:Nat) rfl ?_ (show _/\_ from⟨by decide,by rw[show Int.tdiv (n:Int) 32=((n/32:Nat):Int) from rfl];exact wI (by omega)⟩)
 refine Ar (n%32:Nat) rfl ?_ (show _/\_ from⟨by decide,rfl⟩)
 refine Ar (2^(n%32):Nat) rfl ?_ (Xf4 (W1s _ (by decide)))
 refine Eo (n/32) rfl (by omega) ?_
 refine Sto rfl (by simp) rfl ?_
 refine R1 rfl (.own rfl (by simp) ?_)
 rw[Xlv,W1e,W0b (by simp),<-ms,W2j]
 rfl
end
section
theorem Xpp{z:Int}(o:(dig z.natAbs).length<=549755813888)(h0:z≠0): C0 368 [.d (dz z)] λv=>∃B:Nat,v=.d (.int .i64 B)/\z.natAbs<2^B/\B<=32*(dig z.natAbs).length:=by
 refine En Tryz.func368 λ_ _ _=>?_
 refine Ce rfl (Xco (by omega)) ?_
 refine By rfl (λh=>?_) λh=>?_<;>simp only[lw] at h
 . exact absurd (Xsp.1 (W0q (by omega:(dig z.natAbs).length=0))) (by omega)
 obtain⟨t,j⟩:=xat (l:=dig z.natAbs) (k:=(dig z.natAbs).length-1) (by omega)
 have i:=ww j (Xae _)
 have hb:=Xxr i
 refine Ar ((dig z.natAbs).length-1:Nat) rfl ?_ (wr (by simp only[lw];omega) (by simp only[inK];omega))
 refine Ar (32*((dig z.natAbs).length-1):Nat) rfl ?_
 refine Ar ((dig z.natAbs).length-1:Nat) rfl ?_ (wr (by simp only[lw];omega) (by simp only[inK];omega))
 refine Ix ((dig z.natAbs).length-1) rfl (mp j) ?_
 refine Ce rfl (Xrw i) ?_
 refine Ar (32*((dig z.natAbs).length-1)+bl t:Nat) rfl ?_
 exact Rt rfl (.one (.rf rfl) rfl rfl) ⟨_,rfl,Xpv rfl (by omega) j,by omega⟩
theorem Sqrt_ok{a:Nat}(hl:(dig a).length<=274877906944): C0 359 [.d (dz (a:Int))] (·=.tup (.pr (.d (dz (rt a:Int))) (.d (.int .i64 0)))):=by
 have hln:(dig (a:Int).natAbs).length<=274877906944:=by rw[W1j];exact hl
 refine En Tryz.func359 λ_ _ _=>?_
 refine Ce rfl (Sign_ok (z:=a) (by omega)) ?_
 refine By rfl (λh=>?_) λh=>?_
 . rcases Xaz (a:Int) 0 with ⟨i,j⟩ | ⟨i,j⟩ | ⟨i,j⟩<;>omega
 refine By rfl (λh1=>?_) λh1=>?_
 . have o:a=0:=by rcases Xaz (a:Int) 0 with ⟨i,j⟩ | ⟨i,j⟩ | ⟨i,j⟩<;>omega
   exact RTt rfl (.cons (f0' (by rw[o];rfl)) (.one (.rf rfl) (λ_ _ e=>by cases e) (λ_ _ e=>by cases e)))
 have o:a≠0:=by rcases Xaz (a:Int) 0 with ⟨i,j⟩ | ⟨i,j⟩ | ⟨i,j⟩<;>omega
 refine Ca rfl (Xpp (z:=a) (by omega) (by omega)) λv hv=>?_
 obtain⟨B,rfl,O,Q⟩:=hv
 rw[W1j] at O Q
 refine Ar (B/2:Nat) rfl ?_ (show _/\_ from⟨by decide,by rw[show Int.tdiv (B:Int) 2=((B/2:Nat):Int) from rfl];exact wI (by omega)⟩)
 refine Ar (B/2+1:Nat) rfl ?_
 refine Ce rfl (Xe1 (n:=B/2+1) (by omega)) ?_
 refine Lo (λ(x:Nat)=>[(1,.ptr 1 0),(2,.ptr 2 0),(3,.d (.int .i64 0)),(5,.d (ws (dig x)))]) (λ_=>[(1,.var (.d (dz a))),(2,.var (.st (.pr (.b false) .nil)))]) (λx=>0<x/\rt a<=x/\x<=2^(B/2+1)) (λx=>x) (2^(B/2+1)) [] rfl
  ⟨W0u _,W2f (Xue O (by omega)),W0a _⟩ λx ⟨I,T,V⟩=>?_
 have hxl:(dig x).length<=549755813000:=W0m (Xas V) (by rw[Xov];omega)
 have hql:(dig (a/x)).length<=274877906944:=W0m (Xas (W3o a x)) hl
 refine Ce (r:=.d (ws (dig a))) rfl (Xco (n:=a) (by omega)) ?_
 refine Ce rfl (Xc8 (by omega) (by omega) (by omega)) ?_
 refine Ce rfl (Xim (by omega) (by omega)) ?_
 refine Ce rfl (Xo3 (W0m (Xg4 ..) (by omega))) ?_
 refine Ce rfl (Xb6 (W0m (Xas (W3o ..)) (W0m (Xg4 ..) (by omega)))) ?_
 refine By rfl (λh2=>?_) λh2=>?_
 . have Z:x<=(x+a/x)/2:=by rcases Xaz (((x+a/x)/2:Nat):Int) (x:Int) with ⟨i,j⟩ | ⟨i,j⟩ | ⟨i,j⟩<;>omega
   refine Ce rfl (Xao (b:=false) (by omega)) ?_
   exact RTt rfl (.cons (.eq (by rw[Xsh I Z T];rfl)) (.one (.rf rfl) (λ_ _ e=>by cases e) (λ_ _ e=>by cases e)))
 . have hlt:(x+a/x)/2<x:=by rcases Xaz (((x+a/x)/2:Nat):Int) (x:Int) with ⟨i,j⟩ | ⟨i,j⟩ | ⟨i,j⟩<;>omega
   exact Bk ((x+a/x)/2) [] rfl ⟨W0x (Yh8 o) (Ych I),Ych I,by omega⟩ hlt
end
end Go.Proofs.YtfjafaehfjjaiaaGreatDoor
namespace Go.Num
theorem szl{n p:Nat}(h:n<2^p)(hp:p<=8796093022208): (dig n).length<=274877906945:=by
 have i:n<4294967296^(p/32+1):=by
  rw[show 4294967296=2^32 from rfl,<-W5z]
  exact W0x h (W0p (by decide) (by omega))
 have:=Xat i
 omega
def Zs(p:Nat)(z:Int): Prop:=z.natAbs<2^p
theorem Zs.len{p:Nat}{z:Int}(h:Zs p z)(hp:p<=8796093022208): (dig z.natAbs).length<=274877906945:=szl h hp
theorem Zs.mono{p q:Nat}{z:Int}(h:Zs p z)(hp:p<=q): Zs q z:=W0x h (W0p (by decide) hp)
theorem Zs.mul{p q:Nat}{x y:Int}(h:Zs p x)(k:Zs q y): Zs (p+q) (x*y):=by
 unfold Zs at *
 rw[W3s,W0z]
 exact W3k h k
theorem Zs.add{p q:Nat}{x y:Int}(h:Zs p x)(k:Zs q y): Zs (max p q+1) (x+y):=by
 have i:=h.mono (Nat.le_max_left p q)
 have j:=k.mono (Nat.le_max_right p q)
 unfold Zs at *
 have:=Int.natAbs_add_le x y
 rw[W1a]
 omega
theorem Zs.neg{p:Nat}{x:Int}(h:Zs p x): Zs p (-x):=by
 unfold Zs at *
 rwa[W5f]
theorem Zs.gcd{p:Nat}{x y:Int}(h:Zs p y)(h0:y≠0): Zs p (Int.gcd x y:Int):=by
 unfold Zs at *
 have:Int.gcd x y<=y.natAbs:=Nat.le_of_dvd (by omega) (Int.gcd_dvd_natAbs_right x y)
 omega
theorem Zs.one{p:Nat}(hp:1<=p): Zs p 1:=W0x (by decide) (W0p (by decide) hp:2^1<=2^p)
theorem Zs.zero{p:Nat}: Zs p 0:=W0u p
structure Qs (p:Nat) (x:Rat):Prop where
 n:Zs p x.num
 d:Zs p (x.den:Int)
theorem Qs.mono{p q:Nat}{x:Rat}(h:Qs p x)(hp:p<=q): Qs q x:=⟨h.n.mono hp,h.d.mono hp⟩
theorem Qs.neg{p:Nat}{x:Rat}(h:Qs p x): Qs p (-x):=⟨by rw[Rat.neg_num];exact h.n.neg,by rw[Rat.neg_den];exact h.d⟩
theorem Xz4(a:Int): a.fdiv 1=a:=by rw[W1t _ (by decide),Int.ediv_one]
theorem Xj5{a b:Int}(hb:b≠0): a.fdiv (if b<0 then -(Int.gcd a b:Int) else (Int.gcd a b:Int))=(Rat.divInt a b).num:=by
 rw[Rat.num_divInt,Int.gcd_comm b a]
 split
 . rename_i h
   rw[show a.fdiv (-(Int.gcd a b:Int))=(-a).fdiv (Int.gcd a b:Int) by rw[<-W7m,Int.neg_neg],Int.sign_eq_neg_one_of_neg h,W1t _ (by omega)]
   congr 1
   omega
 . rw[W6k (by omega),W4v,W1t _ (by omega)]
theorem Xj6{a b:Int}(hb:b≠0): b.fdiv (if b<0 then -(Int.gcd a b:Int) else (Int.gcd a b:Int))=((Rat.divInt a b).den:Int):=by
 rw[Rat.den_divInt,if_neg hb,Int.gcd_comm b a,Int.natCast_ediv]
 split
 . rw[show b.fdiv (-(Int.gcd a b:Int))=(-b).fdiv (Int.gcd a b:Int) by rw[<-W7m,Int.neg_neg],W1t _ (by omega)]
   congr 1
   omega
 . rw[W1t _ (by omega)]
   congr 1
   omega
theorem Xwk{a b:Int}(hb:b≠0): Int.gcd a b≠0:=λh=>hb (Int.gcd_eq_zero_iff.1 h).2
theorem Qs.addNum{p q:Nat}{x y:Rat}(h:Qs p x)(k:Qs q y): Zs (p+q+1) (x.num*y.den+y.num*x.den):=by
 have i:=(h.n.mul k.d).add (k.n.mul h.d)
 exact i.mono (by omega)
theorem Xkf(a:Int)(b:Nat): Rat.divInt a (b:Int)=mkRat a b:=Rat.divInt_ofNat a b
theorem Xkn(x y:Rat): x+y=Rat.divInt (x.num*y.den+y.num*x.den) ((x.den:Int)*y.den):=by
 rw[Rat.add_def',<-W2n,Xkf]
theorem Xj3(x y:Rat): x*y=Rat.divInt (x.num*y.num) ((x.den:Int)*y.den):=by
 rw[Rat.mul_def',<-W2n,Xkf]
theorem Xke(x y:Rat)(h:y≠0): x/y=Rat.divInt (x.num*y.den) ((x.den:Int)*y.num):=by
 rw[Rat.div_def,Rat.inv_def]
 conv=>lhs;rw[<-Rat.num_divInt_den x]
 rw[Rat.divInt_mul_divInt]
theorem Yl4{x:Rat}(h:(x.den:Int)=1): x=(x.num:Rat):=Rat.ext rfl (by show x.den=1;omega)
theorem Xrm{x y:Rat}(h:(x.den:Int)=1)(k:(y.den:Int)=1): x+y=((x.num+y.num:Int):Rat):=by
 conv=>lhs;rw[Yl4 h,Yl4 k]
 norm_cast
theorem Xrl{x y:Rat}(h:(x.den:Int)=1)(k:(y.den:Int)=1): x*y=((x.num*y.num:Int):Rat):=by
 conv=>lhs;rw[Yl4 h,Yl4 k]
 norm_cast
theorem Xb5(x:Rat): (x.den:Int)≠0:=by have:=x.den_nz;omega
theorem Zs.divInt_num{p:Nat}{a b:Int}(ha:Zs p a): Zs p (Rat.divInt a b).num:=by
 unfold Zs at *
 rw[Rat.num_divInt]
 have j:(b.sign*a).natAbs<=a.natAbs:=by
  rw[W3s]
  have:b.sign.natAbs<=1:=by rw[Int.natAbs_sign];split<;>omega
  have:=W0k a.natAbs this
  omega
 have o:((b.sign*a)/(Int.gcd b a:Int)).natAbs<=(b.sign*a).natAbs:=by
  by_cases h:Int.gcd b a=0
  . rw[h];simp
  . have hd:(Int.gcd b a:Int) ∣ b.sign*a:=Int.dvd_mul_of_dvd_right (Int.gcd_dvd_right b a)
    obtain⟨c,i⟩:=hd
    rw[i,Int.mul_ediv_cancel_left _ (by omega),W3s]
    exact Nat.le_mul_of_pos_left _ (W2p (by rw[W1j];exact h))
 omega
theorem Zs.divInt_den{p:Nat}{a b:Int}(hb:Zs p b)(h0:b≠0): Zs p ((Rat.divInt a b).den:Int):=by
 unfold Zs at *
 rw[Rat.den_divInt,if_neg h0]
 have:=W3o b.natAbs (Int.gcd b a)
 rw[W1j]
 omega
theorem Qs.divInt{p:Nat}{a b:Int}(ha:Zs p a)(hb:Zs p b)(h0:b≠0): Qs p (Rat.divInt a b):=⟨ha.divInt_num,hb.divInt_den h0⟩
theorem Qs.add{p q:Nat}{x y:Rat}(h:Qs p x)(k:Qs q y): Qs (p+q+1) (x+y):=by
 rw[Xkn]
 exact Qs.divInt (h.addNum k) ((h.d.mul k.d).mono (by omega)) (W7c (Xb5 x) (Xb5 y))
theorem Qs.mul{p q:Nat}{x y:Rat}(h:Qs p x)(k:Qs q y): Qs (p+q) (x*y):=by
 rw[Xj3]
 exact Qs.divInt (h.n.mul k.n) (h.d.mul k.d) (W7c (Xb5 x) (Xb5 y))
theorem Qs.int{p:Nat}{z:Int}(h:Zs p z)(hp:1<=p): Qs p (z:Rat):=⟨h,Zs.one hp⟩
theorem Yai{z:Int}: Xbb z 0>0↔z>0:=by
 unfold Xbb
 split
 . constructor<;>intro<;>omega
 . split
   . constructor<;>intro<;>omega
   . constructor<;>intro<;>omega
def Xni(x y:Rat): Int:=if x<y then -1 else if y<x then 1 else 0
theorem Xrq(x y:Rat): Xbb (x.num*y.den) (y.num*x.den)=Xni x y:=by
 unfold Xbb Xni
 simp only[Rat.lt_iff,gt_iff_lt]
theorem Xnh{x y:Rat}(h:Xbb x.num 0<Xbb y.num 0): Xni x y=-1:=by
 unfold Xni
 rw[if_pos]
 rw[Rat.lt_iff]
 have O:=x.den_pos
 have Q:=y.den_pos
 rcases Xaz x.num 0 with ⟨i,o⟩ | ⟨i,o⟩ | ⟨i,o⟩<;>rcases Xaz y.num 0 with ⟨j,I⟩ | ⟨j,I⟩ | ⟨j,I⟩<;>rw[o,I] at h<;>first | omega | skip
 . rw[j,W5k];exact Int.mul_neg_of_neg_of_pos i (by omega)
 . have:=Int.mul_neg_of_neg_of_pos i (show (0:Int)<y.den by omega)
   have:=Int.mul_pos j (show (0:Int)<x.den by omega)
   omega
 . rw[i,W5k];exact Int.mul_pos j (by omega)
theorem Xng(x y:Rat): Xni x y=- Xni y x:=by
 unfold Xni
 by_cases h:x<y
 . have:¬y<x:=by grind
   rw[if_pos h,if_neg this,if_pos h]
 . rw[if_neg h]
   by_cases i:y<x
   . rw[if_pos i,if_pos i];rfl
   . rw[if_neg i,if_neg i,if_neg h];rfl
end Go.Num
namespace Go.Proofs.YtfjafaehfjjaiaaGreatDoor
open Go Go.Vm Go.Num
def dq(x:Rat): D:=.st (.pr (dz x.num) (dz x.den))
theorem Ypo{n:Nat}: (dig n).length=0↔n=0:=⟨λh=>Xsp.1 (W0q h),λh=>by rw[h,Xan];rfl⟩
theorem fst{g:Hp}{K:Hpl}{a:AV}{x:D}(h:Fit g K a (.d x)): Fit g K (.st a) (.d (.st x)):=.sd h
theorem Xfd: C0 112 [] (·=.d (dz 1)):=by
 refine En Tryz.func112 λ_ _ _=>?_
 refine Ce rfl (FromInt_ok (z:=1) (by decide)) ?_
 exact R0
theorem Xuz{z:Int}: (dig z.natAbs=[1]/\¬z<0)↔z=1:=by
 constructor
 . rintro⟨h,i⟩
   have:=Xag z.natAbs
   rw[h] at this
   simp[val] at this
   omega
 . rintro rfl
   exact⟨Ygz,by decide⟩
theorem Ypn{l:List Nat}{u:Nat}(h:l.length=1)(i:l[0]?=some u): l=[u]:=by
 match l,h,i with
 | [a],_,i=>simp at i;rw[i]
theorem Xe3{z:Int}: C0 110 [.d (dz z)] (·=.b (dc (z=1))):=by
 refine En Tryz.func110 λ_ _ _=>?_
 refine By rfl (λh=>?_) λh=>?_
 . refine By rfl (λi=>?_) λi=>?_<;>simp only[lw] at i
   . obtain⟨u,j⟩:=xat (l:=dig z.natAbs) (k:=0) (by omega)
     have o:=Ypn (by omega) j
     refine Ix 0 rfl (mp j) ?_
     refine R1 rfl (.bp ?_)
     refine Xaj.trans (Iff.trans ?_ Xuz)
     rw[o]
     constructor
     . intro e;exact⟨by rw[show u=1 by omega],h⟩
     . rintro⟨e,_⟩;injection e with e;omega
   . exact R1 rfl (.bp ⟨nofun,λe=>absurd (by rw[e];show ((dig 1).length:Int)=1;rw[Ygz];rfl) i⟩)
 . exact R1 rfl (.bp ⟨nofun,λe=>absurd (by rw[e];decide) h⟩)
theorem Xiv{z:Int}: C0 193 [.d (dz z)] (·=.b (dc (z=0))):=by
 refine En Tryz.func193 λ_ _ _=>?_
 refine R1 rfl (.bp ?_)
 simp only[Xaj,lw]
 rw[show ((dig z.natAbs).length:Int)=0↔(dig z.natAbs).length=0 by omega,Ypo];omega
theorem Xcp{a b:Int}(ha:(dig a.natAbs).length<=549755813888)(hb:(dig b.natAbs).length<=549755813888)(i:b≠0): C0 188 [.d (dz a),.d (dz b)] (·=.d (dz (a.fdiv b))):=by
 refine En Tryz.func188 λ_ _ _=>?_
 refine Ce rfl Xe3 ?_
 refine By rfl (λh=>?_) λh=>?_
 . exact R1 rfl (.eq (show dz a=dz (a.fdiv b) by rw[h,Xz4]))
 . refine Ce rfl (DivMod_ok ha hb i) ?_
   exact R0
theorem Xga{a b:Int}{p:Nat}(ha:Zs p a)(hb:Zs p b)(hp:p<=8796093022208)(i:b≠0): C0 113 [.d (dz a),.d (dz b)] (·=.d (dq (Rat.divInt a b))):=by
 have o:Zs p (Int.gcd a b:Int):=hb.gcd i
 have I:=ha.len hp
 have O:=hb.len hp
 have Q:=o.len hp
 refine En Tryz.func113 λ_ _ _=>?_
 refine Ce rfl (GCD_ok (by omega) (by omega)) ?_
 have h0:=Xwk (a:=a) i
 have j:∀g:Int,g=(if b<0 then -(Int.gcd a b:Int) else (Int.gcd a b:Int))->D.st (.pr (dz (a.fdiv g)) (dz (b.fdiv g)))=dq (Rat.divInt a b):=λg o=>by rw[o,Xj5 i,Xj6 i];rfl
 refine By rfl (λh=>?_) λh=>?_
 . refine Ce rfl (Neg_ok (by omega)) ?_
   refine Dw rfl ?_
   refine Ce rfl (Xcp (by omega) (by rw[W5f];omega) (by omega)) ?_
   refine Ce rfl (Xcp (by omega) (by rw[W5f];omega) (by omega)) ?_
   exact R1 rfl (.eq (j _ (by rw[if_pos h])))
 . refine Dw rfl ?_
   refine Ce rfl (Xcp (by omega) (by omega) (by omega)) ?_
   refine Ce rfl (Xcp (by omega) (by omega) (by omega)) ?_
   exact R1 rfl (.eq (j _ (by rw[if_neg h])))
theorem Make_ok{a b:Int}{p:Nat}(ha:Zs p a)(hb:Zs p b)(hp:p<=8796093022208)(h:b≠0): C0 115 [.d (dz a),.d (dz b)] (·=.tup (.pr (.d (dq (Rat.divInt a b))) (.d (.int .i64 0)))):=by
 have i:=ha.len hp
 have j:=hb.len hp
 refine En Tryz.func115 λ_ _ _=>?_
 refine Dw rfl ?_
 refine Ce rfl (Norm_ok (by omega)) ?_
 refine Ce rfl (Norm_ok (by omega)) ?_
 refine Ce rfl Xiv ?_
 refine No rfl h ?_
 refine Ce rfl (Xga ha hb hp h) ?_
 exact R0t
theorem Xau{z:Int}(h:-9223372036854775808<=z/\z<9223372036854775808): C0 99 [.d (.int .i64 z)] (·=.d (dq z)):=by
 refine En Tryz.func99 λ_ _ _=>?_
 refine Ce rfl (FromInt_ok h) ?_
 refine Ce rfl Xfd ?_
 exact R0
theorem Xcl{a b:Int}(ha:-9223372036854775808<=a/\a<9223372036854775808)(hb:0<b/\b<9223372036854775808): C0 62 [.d (.int .i64 a),.d (.int .i64 b)] (·=.d (dq (Rat.divInt a b))):=by
 refine En Tryz.func62 λ_ _ _=>?_
 refine Ce rfl (FromInt_ok ha) ?_
 refine Ce rfl (FromInt_ok (by omega)) ?_
 refine Ce rfl (Make_ok (p:=64) (by unfold Zs;omega) (by unfold Zs;omega) (by decide) (by omega)) ?_
 refine No rfl (by decide) ?_
 exact R0
theorem Xf8{x:Rat}{p:Nat}(h:Qs p x)(hp:p<=8796093022208): C0 181 [.d (dq x)] (·=.d (.int .i64 (Xbb x.num 0))):=by
 have:=h.n.len hp
 refine En Tryz.func181 λ_ _ _=>?_
 refine Ce rfl (Sign_ok (by omega)) ?_
 exact R0
theorem Xfk{x:Rat}{p:Nat}(h:Qs p x)(hp:p<=8796093022208): C0 254 [.d (dq x)] (·=.d (dq (-x))):=by
 have:=h.n.len hp
 refine En Tryz.func254 λ_ _ _=>?_
 refine Dw rfl ?_
 refine Ce rfl (Neg_ok (by omega)) ?_
 exact R1 rfl (.eq (show D.st (.pr (dz (-x.num)) (dz x.den))=dq (-x) by unfold dq;rw[Rat.neg_num,Rat.neg_den]))
abbrev q0: AV:=.st (.pr (.st (.pr (.b false) .nil)) (.st (.pr (.b false) .nil)))
theorem Xen{x y:Rat}{p q:Nat}(i:Qs p x)(j:Qs q y)(hp:p+q<=8796093022208): C0 60 [.d (dq x),.d (dq y)] (·=.d (dq (x*y))):=by
 have I:=i.n.len (by omega)
 have O:=i.d.len (by omega)
 have Q:=j.n.len (by omega)
 have T:=j.d.len (by omega)
 refine En Tryz.func60 λ_ _ _=>?_
 refine Cu (some 1) (λ(b:Bool)=>[(2,.ptr 2 0),(3,.ptr 3 0),(4,.ptr 4 0),(12,.b b)]) (λ_=>[(2,.var (.d (dq x))),(3,.var (.d (dq y))),(4,.var q0)]) (λb=>b=true->(x.den:Int)=1/\(y.den:Int)=1) rfl ?_ λb hb=>?_
 . refine Ce rfl Xe3 ?_
   refine By rfl (λh=>?_) λh=>?_
   . refine Ce rfl Xe3 ?_
     exact Jn (dc _) [] rfl λe=>⟨h,Xaj.1 e⟩
   . exact Jn false [] rfl nofun
 refine By rfl (λh=>?_) λh=>?_
 . obtain⟨o,d2⟩:=hb h
   refine Ce rfl (Mul_ok (by omega) (by omega)) ?_
   refine Ce rfl Xfd ?_
   exact R1 rfl (.eq (show _=dq _ by rw[Xrl o d2];rfl))
 . refine Dw rfl ?_
   refine Ce rfl (Mul_ok (by omega) (by omega)) ?_
   refine Ce rfl (Mul_ok (by omega) (by omega)) ?_
   refine Ce rfl (Xga (i.n.mul j.n) (i.d.mul j.d) hp (W7c (Xb5 x) (Xb5 y))) ?_
   exact R1 rfl (.eq (by rw[Xj3]))
theorem Xd4{x y:Rat}{p q:Nat}(i:Qs p x)(j:Qs q y)(hp:p+q+1<=8796093022208): C0 61 [.d (dq x),.d (dq y)] (·=.d (dq (x+y))):=by
 have I:=i.n.len (by omega)
 have O:=i.d.len (by omega)
 have Q:=j.n.len (by omega)
 have T:=j.d.len (by omega)
 have V:=(i.n.mul j.d).len (by omega)
 have Z:=(j.n.mul i.d).len (by omega)
 refine En Tryz.func61 λ_ _ _=>?_
 refine Cu (some 1) (λ(b:Bool)=>[(2,.ptr 2 0),(3,.ptr 3 0),(4,.ptr 4 0),(13,.b b)]) (λ_=>[(2,.var (.d (dq x))),(3,.var (.d (dq y))),(4,.var q0)]) (λb=>b=true->(x.den:Int)=1/\(y.den:Int)=1) rfl ?_ λb hb=>?_
 . refine Ce rfl Xe3 ?_
   refine By rfl (λh=>?_) λh=>?_
   . refine Ce rfl Xe3 ?_
     exact Jn (dc _) [] rfl λe=>⟨h,Xaj.1 e⟩
   . exact Jn false [] rfl nofun
 refine By rfl (λh=>?_) λh=>?_
 . obtain⟨o,d2⟩:=hb h
   refine Ce rfl (Add_ok (by omega) (by omega)) ?_
   refine Ce rfl Xfd ?_
   exact R1 rfl (.eq (show _=dq _ by rw[Xrm o d2];rfl))
 . refine Dw rfl ?_
   refine Ce rfl (Mul_ok (by omega) (by omega)) ?_
   refine Ce rfl (Mul_ok (by omega) (by omega)) ?_
   refine Ce rfl (Add_ok (by omega) (by omega)) ?_
   refine Dw rfl ?_
   refine Ce rfl (Mul_ok (by omega) (by omega)) ?_
   refine Ce rfl (Xga (p:=p+q+1) (Qs.addNum i j) ((i.d.mul j.d).mono (by omega)) hp (W7c (Xb5 x) (Xb5 y))) ?_
   exact R1 rfl (.eq (by rw[Xkn]))
theorem Xoh{x y:Rat}{p q:Nat}(i:Qs p x)(h:Qs q y)(hp:p+q+1<=8796093022208): C0 183 [.d (dq x),.d (dq y)] (·=.d (dq (x-y))):=by
 refine En Tryz.func183 λ_ _ _=>?_
 refine Dw rfl ?_
 refine Ce rfl (Xfk h (by omega)) ?_
 refine Ce rfl (Xd4 i h.neg hp) ?_
 exact R1 rfl (.eq (by rw[W6e]))
theorem Yed{x y:Rat}{p q:Nat}(h:Qs p x)(i:Qs q y)(hp:p+q<=8796093022208)(h0:y≠0): C0 346 [.d (dq x),.d (dq y)] (·=.tup (.pr (.d (dq (x/y))) (.d (.int .i64 0)))):=by
 have o:=h.n.len (by omega)
 have I:=h.d.len (by omega)
 have O:=i.n.len (by omega)
 have Q:=i.d.len (by omega)
 have j:y.num≠0:=λe=>h0 (W6f.1 e)
 refine En Tryz.func346 λ_ _ _=>?_
 refine Ce rfl Xiv ?_
 refine No rfl j ?_
 refine Dw rfl ?_
 refine Ce rfl (Mul_ok (by omega) (by omega)) ?_
 refine Ce rfl (Mul_ok (by omega) (by omega)) ?_
 refine Ce rfl (Xga (h.n.mul i.d) (h.d.mul i.n) hp (W7c (Xb5 x) j)) ?_
 exact RTt rfl (.cons (.eq (by rw[Xke _ _ h0])) (.one (.rf rfl) (λ_ _ e=>by cases e) (λ_ _ e=>by cases e)))
def rz: D:=.st (.pr (.st (.pr (.bool false) (.sl 1 []))) (.st (.pr (.bool false) (.sl 1 []))))
theorem Yj4{g:Hp}{K:Hpl}: Fit g K q0 (.d rz):=.sd (.pd (.sd (.pd (.bd rfl) (.nil rfl))) (.sd (.pd (.bd rfl) (.nil rfl))))
theorem Xzb{x y:Rat}(h0:y=0): C0 346 [.d (dq x),.d (dq y)] (·=.tup (.pr (.d rz) (.d (.int .i64 6)))):=by
 refine En Tryz.func346 λ_ _ _=>?_
 refine Ce rfl Xiv ?_
 refine Yes rfl (by rw[h0];rfl) ?_
 exact RTt rfl (.cons Yj4 (.one (.rf rfl) (λ_ _ e=>by cases e) (λ_ _ e=>by cases e)))
theorem Xbv{x y:Rat}{p q:Nat}(i:Qs p x)(j:Qs q y)(hp:p+q<=8796093022208): C0 108 [.d (dq x),.d (dq y)] (·=.d (.int .i64 (Xni x y))):=by
 have o:=i.n.len (by omega)
 have I:=i.d.len (by omega)
 have O:=j.n.len (by omega)
 have Q:=j.d.len (by omega)
 have T:=(i.n.mul j.d).len (by omega)
 have V:=(j.n.mul i.d).len (by omega)
 refine En Tryz.func108 λ_ _ _=>?_
 refine Dw rfl ?_
 refine Ce rfl (Xf8 i (by omega)) ?_
 refine Ce rfl (Xf8 j (by omega)) ?_
 refine By rfl (λh=>?_) λh=>?_
 . refine By rfl (λo=>?_) λo=>?_
   . exact R1 rfl (.eq (by rw[Xnh o]))
   . exact R1 rfl (.eq (by rw[Xng,Xnh (by omega)];rfl))
 . refine Dw rfl ?_
   refine Ce rfl (Mul_ok (by omega) (by omega)) ?_
   refine Ce rfl (Mul_ok (by omega) (by omega)) ?_
   refine Ce rfl (Cmp_ok (by omega) (by omega)) ?_
   exact R1 rfl (.eq (by rw[Xrq]))
theorem Xeq{z:Int}(h:(dig z.natAbs).length<=549755813888): C0 324 [.d (dz z)] (·=.b true):=by
 refine En Tryz.func324 λ_ _ _=>?_
 refine By rfl (λi=>?_) λi=>?_<;>simp only[lw] at i
 . have h0:=Ypo.1 (by omega:(dig z.natAbs).length=0)
   refine Yes rfl (show ¬z<0 by omega) ?_
   exact R0
 . refine Yes rfl (by simp only[lw];omega) ?_
   rcases Xhu z.natAbs with j | ⟨t,j,o⟩
   . rw[j] at i;exact absurd rfl i
   refine Ar ((dig z.natAbs).length-1:Nat) rfl ?_ (wr (by simp only[lw];omega) (by simp only[inK];omega))
   refine Ix ((dig z.natAbs).length-1) rfl (mp j) ?_
   refine R1 rfl (by exact(show dc ((t:Int)≠0)=true by rw[Xaj];omega) ▸ .rf rfl)
theorem Yn1{z:Int}: Xbb z 0>0↔z>0:=Yai
theorem Xmp{x:Rat}{p:Nat}(h:Qs p x)(hp:p<=8796093022208): C0 272 [.d (dq x)] (·=.b true):=by
 have i:=h.n.len hp
 have j:=h.d.len hp
 refine En Tryz.func272 λ_ _ _=>?_
 refine Ce rfl (Xeq (z:=x.num) (by omega)) ?_
 refine Yes rfl rfl ?_
 refine Ce rfl (Xeq (z:=x.den) (by omega)) ?_
 refine Yes rfl rfl ?_
 refine Ce rfl (Sign_ok (by omega)) ?_
 refine Yes rfl (Yn1.2 (by have:=x.den_pos;omega)) ?_
 refine Ce rfl (GCD_ok (by omega) (by omega)) ?_
 refine Ce rfl Xe3 ?_
 refine R1 rfl (by exact(show dc ((Int.gcd x.num x.den:Int)=1)=true by rw[Xaj];exact congrArg Nat.cast (show Int.gcd x.num x.den=1 from x.reduced)) ▸ .rf rfl)
end Go.Proofs.YtfjafaehfjjaiaaGreatDoor
namespace Go.Proofs.YtfjafaehfjjaiaaGreatDoor.R1
open Go Go.Vm Go.Num Go.Proofs.YtfjafaehfjjaiaaGreatDoor
section
theorem Xa6{l:List Nat}(O:Xar l)(Q:l.length<=1099511627776): C0 233 [.d (ws l)] (·=.d (ws (dig (val l)))):=by
 refine En Tryz.func233 λ_ _ _=>?_
 refine Lo (λk=>[(0,.d (ws (l.take k)))]) (λ_=>[]) (λk=>k<=l.length/\val (l.take k)=val l) id l.length [] rfl ⟨W0a _,by rw[W2h]⟩ (λk ⟨I,j⟩=>?_) (hf:=⟨by simp only[W2h];rfl,rfl,rfl,rfl,rfl⟩)
 refine By rfl (λh=>?_) λh=>?_<;>simp only[W0i,W0f,W2e I] at h
 . have Q:((l.take k).map wd).length=k:=by simp;omega
   refine Ar (k-1:Nat) rfl ?_
   have o:=W0e (l:=l) (i:=k-1) (by omega)
   refine Ix (k-1) rfl (u:=wd l[k-1]) (mp (by rw[W1d,if_pos (by omega),o])) ?_
   have hs:=Xac o
   rw[show k-1+1=k by omega,j] at hs
   refine By rfl (λh0=>?_) λh0=>?_
   . refine Ar (k-1:Nat) rfl ?_
     refine Tk (k-1) ((l.take (k-1)).map wd) rfl rfl (by simp;omega) (by rw[<-W2g,List.take_take,W2e (by omega)]) ?_
     exact Bk (k-1) [] rfl ⟨by omega,by rw[hs,show l[k-1]=0 by omega,W3f,W2i]⟩ (show k-1<k by omega)
   . exact R1 rfl (.eq (by rw[<-j,Xfo (O.take k) (.inr ⟨l[k-1],by rw[W0f,W2e I,W1d,if_pos (by omega),o],λe=>h0 (by rw[e];rfl)⟩)]))
 . refine R1 rfl (.eq ?_)
   rw[show k=0 by omega] at j |-
   rw[<-j,W5e,val,Xan]
theorem trim_dig_ok{n:Nat}(h:(dig n).length<=1099511627776): C0 233 [.d (ws (dig n))] (·=.d (ws (dig n))):=by
 have:=Xa6 (Xae n) h
 rwa[Xag] at this
theorem Xfw{n:Nat}(h:n<18446744073709551616): C0 156 [.d (.int .u64 n)] (·=.d (ws (dig n))):=by
 refine En Tryz.func156 λ_ _ _=>?_
 refine Go.Vm.Cv (n%4294967296:Nat) rfl ?_ (hr:=by rw[wWm];omega)
 refine Ar (n/4294967296:Nat) rfl ?_ (hr:=show _/\_ from⟨by omega,Yhz n⟩)
 refine Go.Vm.Cv (n/4294967296:Nat) rfl ?_
 refine Ce rfl (Xa6 (l:=[n%4294967296,n/4294967296]) (.cons (by omega) (.cons (by omega) .nil)) (by simp)) ?_
 exact R1 rfl (.eq (by rw[show val [n%4294967296,n/4294967296]=n by simp only[val];omega]))
theorem Xp8{b:Bool}{l:List Nat}(i:Xar l)(h:l.length<=1099511627776): C0 155 [.d (.bool b),.d (ws l)] (·=.d (dz (sg b (val l)))):=by
 rw[<-Ykj]
 refine C.nb (show C0 _ [.b b,.d (ws l)] _ from ?_)
 obtain⟨n,j⟩:∃n,n=val l:=⟨_,rfl⟩
 refine En Tryz.func155 λ_ _ _=>?_
 refine Ce rfl (Xa6 i h) ?_
 rw[<-j]
 cases b with
 | true =>
  refine Yes rfl rfl ?_
  exact R1 rfl (by exact .sd (.pd (.bd (by
   rw[W4q,Xaj,W0g,bne_iff_ne,lw]
   have:=@Xsp n
   rw[<-W4g] at this
   simp;omega)) (.rf rfl)))
 | false =>
  refine No rfl (by nofun) ?_
  exact R1 rfl (by exact .sd (.pd (.bd rfl) (.rf rfl)))
theorem Xao{b:Bool}{n:Nat}(h:(dig n).length<=1099511627776): C0 155 [.d (.bool b),.d (ws (dig n))] (·=.d (dz (sg b n))):=by
 have:=Xp8 (b:=b) (Xae n) h
 rwa[Xag] at this
theorem FromInt_ok{z:Int}(h:-9223372036854775808<=z/\z<9223372036854775808): C0 95 [.d (.int .i64 z)] (·=.d (dz z)):=by
 have i:(dig z.natAbs).length<=2:=Xat (by omega)
 refine En Tryz.func95 λ_ _ _=>?_
 refine By rfl (λh=>?_) λh=>?_
 . refine Go.Vm.Cv (z%18446744073709551616) rfl ?_ (hr:=wUm _)
   refine Ne (z.natAbs:Int) rfl ?_ (hr:=by rw[wUm];omega)
   refine Ce rfl (Xfw (n:=z.natAbs) (by omega)) ?_
   refine Ce rfl (Xao (n:=z.natAbs) (by omega)) ?_
   exact R1 rfl (.eq (by rw[show sg true z.natAbs=z by unfold sg;rw[if_pos rfl];omega]))
 . refine Go.Vm.Cv (z.natAbs:Int) rfl ?_ (hr:=by rw[wUm];omega)
   refine Ce rfl (Xfw (n:=z.natAbs) (by omega)) ?_
   refine Ce rfl (Xao (n:=z.natAbs) (by omega)) ?_
   exact R1 rfl (.eq (by rw[show sg false z.natAbs=z by unfold sg;rw[if_neg nofun];omega]))
theorem Norm_ok{z:Int}(h:(dig z.natAbs).length<=1099511627776): C0 275 [.d (dz z)] (·=.d (dz z)):=by
 refine En Tryz.func275 λ_ _ _=>?_
 refine Ce rfl (Xao (n:=z.natAbs) h) ?_
 exact R1 rfl (.eq (by rw[Xqd]))
theorem Sign_ok{z:Int}(h:(dig z.natAbs).length<=1099511627776): C0 266 [.d (dz z)] (·=.d (.int .i64 (Xbb z 0))):=by
 refine En Tryz.func266 λ_ _ _=>?_
 refine Ce rfl (Norm_ok h) ?_
 refine By rfl (λh=>?_) λh=>?_<;>simp only[lw] at h
 . have:=Xsp.1 (W0q (by omega:(dig z.natAbs).length=0))
   exact R1 rfl (.eq (by rw[show z=0 by omega];rfl))
 . have j:z≠0:=λe=>h (by rw[e];simp[Xan])
   refine By rfl (λi=>?_) λi=>?_
   . exact R1 rfl (.eq (by rw[Xbb,if_pos i]))
   . exact R1 rfl (.eq (by rw[Xbb,if_neg i,if_pos (by omega)]))
theorem Xb6{x y:Nat}(hx:(dig x).length<=1099511627776): C0 277 [.d (ws (dig x)),.d (ws (dig y))] (·=.d (.int .i64 (Xbb x y))):=by
 refine En Tryz.func277 λ_ _ _=>?_
 refine By rfl (λh=>?_) λh=>?_<;>simp only[lw] at h
 . refine By rfl (λO=>?_) λO=>?_<;>simp only[lw] at O
   . have:=Xdp (m:=x) (n:=y) (by omega)
     exact R1 rfl (.eq (by rw[Xbb,if_pos (by omega)]))
   . have:=Xdp (m:=y) (n:=x) (by omega)
     exact R1 rfl (.eq (by rw[Xbb,if_neg (by omega),if_pos (by omega)]))
 . refine Ar ((dig x).length-1:Int) rfl ?_ (wr (by simp only[lw]) (by simp only[inK];omega))
   refine Lo (λ(k:Nat)=>[(0,.d (ws (dig x))),(1,.d (ws (dig y))),(5,.d (.int .i64 ((k:Int)-1)))]) (λ_=>[]) (λk=>k<=(dig x).length/\(dig x).drop k=(dig y).drop k) (λk=>k) (dig x).length [] rfl ⟨by omega,by rw[W1y (by omega),W1y (by omega)]⟩ λk ⟨hk,hd⟩=>?_
   refine By rfl (λO=>?_) λO=>?_
   . obtain⟨u,j⟩:=xat (l:=dig x) (k:=k-1) (by omega)
     obtain⟨v,o⟩:=xat (l:=dig y) (k:=k-1) (by omega)
     have I:(dig x).drop (k-1+1)=(dig y).drop (k-1+1):=by rw[show k-1+1=k by omega];exact hd
     refine Dw rfl ?_
     refine Ix (k-1) rfl (mp j) ?_
     refine Ix (k-1) rfl (mp o) ?_
     refine By rfl (λZ=>?_) λZ=>?_
     . have:=Xj4 (Xae x) (by omega) (by omega) j o I (by omega)
       rw[Xag,Xag] at this
       exact R1 rfl (.eq (by rw[Xbb,if_pos (by omega)]))
     . refine Dw rfl ?_
       refine Ix (k-1) rfl (mp j) ?_
       refine Ix (k-1) rfl (mp o) ?_
       refine By rfl (λh3=>?_) λh3=>?_
       . have:=Xj4 (Xae y) (by omega) (by omega) o j I.symm (by omega)
         rw[Xag,Xag] at this
         exact R1 rfl (.eq (by rw[Xbb,if_neg (by omega),if_pos (by omega)]))
       . refine Ar ((k-1:Nat)-1:Int) rfl ?_
         refine Bk (k-1) [] rfl ⟨by omega,?_⟩ (by show k-1<k;omega)
         have Q:u=v:=by omega
         rw[W3h (l:=dig x) (i:=k-1) (by omega),W3h (l:=dig y) (i:=k-1) (by omega),show k-1+1=k by omega,hd]
         rw[W0e (by omega)] at j o
         injection j with j
         injection o with o
         rw[j,o,Q]
   . have T:k=0:=by omega
     rw[T,W1e,W1e] at hd
     have V:x=y:=by rw[<-Xag x,hd,Xag]
     exact R1 rfl (.eq (by rw[V,Xbb,if_neg (by omega),if_neg (by omega)]))
end
section
theorem dtk{l:List Nat}{q m k:Nat}(h:k<m): ((l.drop q).take m)[k]?=l[q+k]?:=by rw[W1d,if_pos h,W1v]
theorem Xyc{l:List Nat}{q m:Nat}(h:q+m<=l.length): ((l.drop q).take m).length=m:=by rw[W0f,W1k];omega
theorem Xht{q n:Nat}{l:List Nat}(O:Xar l)(hq:q+n<=l.length)(Q:n<=1099511627776): CN0 233 [.own 1000001 1 q n] [(1000001,.arr 1 (l.map wd))] λv=>∃k,k<=n/\v=.own 1000001 1 q k/\(l.drop q).take k=dig (val ((l.drop q).take n)):=by
 refine EnW Tryz.func233 λ_ _ _ _=>?_
 refine Lo (λk=>[(0,.own 1000001 1 q k)]) (λ_=>[(1000001,.arr 1 (l.map wd))]) (λk=>k<=n/\val ((l.drop q).take k)=val ((l.drop q).take n)) id n [] rfl ⟨W0a _,rfl⟩ λk ⟨I,i⟩=>?_
 have j:=(O.drop q).take k
 refine By rfl (λh=>?_) λh=>?_
 . obtain⟨u,o⟩:=xat (l:=l) (k:=q+(k-1)) (by omega)
   have hs:=Xac (l:=l.drop q) (k:=k-1) (x:=u) (by rw[W1v];exact o)
   rw[show k-1+1=k by omega,i] at hs
   refine Ar (k-1:Nat) rfl ?_
   refine El (k-1) rfl (by omega) ?_
   refine Ld (wd u) rfl (mp o) ?_
   refine By rfl (λh0=>?_) λh0=>?_
   . refine Ar (k-1:Nat) rfl ?_
     refine Sw 0 (k-1) rfl (by omega) (by omega) ?_
     exact Bk (k-1) [] rfl ⟨by omega,by rw[hs,show u=0 by omega,W3f,W2i]⟩ (show k-1<k by omega)
   . exact Rw [] [(1000001,.arr 1 (l.map wd))] rfl (.one (.rf rfl) rfl rfl) ⟨rfl,k,I,rfl,by rw[<-i,Xfo j (.inr ⟨u,by rw[Xyc (by omega),dtk (by omega)];exact o,λe=>h0 (by rw[e];rfl)⟩)]⟩
 . refine Rw [] [(1000001,.arr 1 (l.map wd))] rfl (.one (.rf rfl) rfl rfl) ⟨rfl,k,I,rfl,?_⟩
   rw[show k=0 by omega] at i |-
   rw[<-i,W5e,val,Xan]
theorem Xpb{x y q m:Nat}{l:List Nat}(hq:q+m<=l.length)(Z:(l.drop q).take m=dig x)(hx:(dig x).length<=1099511627776): CN0 277 [.own 1000001 1 q m,.d (ws (dig y))] [(1000001,.arr 1 (l.map wd))] (·=.d (.int .i64 (Xbb x y))):=by
 have hm:(dig x).length=m:=by rw[<-Z,Xyc hq]
 rw[hm] at hx
 have hg:∀ {k u:Nat},(dig x)[k]?=some u->k<m->l[q+k]?=some u:=λh hk=>by rw[<-Z,dtk hk] at h;exact h
 refine EnW Tryz.func277 λ_ _ _ _=>?_
 refine By rfl (λh=>?_) λh=>?_<;>simp only[lw] at h
 . refine By rfl (λO=>?_) λO=>?_<;>simp only[lw] at O
   . have:=Xdp (m:=x) (n:=y) (by omega)
     exact Rw [] [(1000001,.arr 1 (l.map wd))] rfl (.one (.rf rfl) rfl rfl) ⟨rfl,congrArg AV.d (congrArg (D.int .i64) (by rw[Xbb,if_pos (by omega)]))⟩
   . have:=Xdp (m:=y) (n:=x) (by omega)
     exact Rw [] [(1000001,.arr 1 (l.map wd))] rfl (.one (.rf rfl) rfl rfl) ⟨rfl,congrArg AV.d (congrArg (D.int .i64) (by rw[Xbb,if_neg (by omega),if_pos (by omega)]))⟩
 . refine Ar (m-1:Int) rfl ?_
   refine Lo (λ(k:Nat)=>[(0,.own 1000001 1 q m),(1,.d (ws (dig y))),(5,.d (.int .i64 ((k:Int)-1)))]) (λ_=>[(1000001,.arr 1 (l.map wd))]) (λk=>k<=m/\(dig x).drop k=(dig y).drop k) (λk=>k) m [] rfl ⟨by omega,by rw[W1y (by omega),W1y (by omega)]⟩ λk ⟨hk,hd⟩=>?_
   refine By rfl (λO=>?_) λO=>?_
   . obtain⟨u,j⟩:=xat (l:=dig x) (k:=k-1) (by omega)
     obtain⟨v,o⟩:=xat (l:=dig y) (k:=k-1) (by omega)
     have I:(dig x).drop (k-1+1)=(dig y).drop (k-1+1):=by rw[show k-1+1=k by omega];exact hd
     refine Dw rfl ?_
     refine El (k-1) rfl (by omega) ?_
     refine Ld (wd u) rfl (mp (hg j (by omega))) ?_
     refine Ix (k-1) rfl (mp o) ?_
     refine By rfl (λh2=>?_) λh2=>?_
     . have:=Xj4 (Xae x) (by omega) (by omega) j o I (by omega)
       rw[Xag,Xag] at this
       exact Rw [] [(1000001,.arr 1 (l.map wd))] rfl (.one (.rf rfl) rfl rfl) ⟨rfl,congrArg AV.d (congrArg (D.int .i64) (by rw[Xbb,if_pos (by omega)]))⟩
     . refine Dw rfl ?_
       refine El (k-1) rfl (by omega) ?_
       refine Ld (wd u) rfl (mp (hg j (by omega))) ?_
       refine Ix (k-1) rfl (mp o) ?_
       refine By rfl (λh3=>?_) λh3=>?_
       . have:=Xj4 (Xae y) (by omega) (by omega) o j I.symm (by omega)
         rw[Xag,Xag] at this
         exact Rw [] [(1000001,.arr 1 (l.map wd))] rfl (.one (.rf rfl) rfl rfl) ⟨rfl,congrArg AV.d (congrArg (D.int .i64) (by rw[Xbb,if_neg (by omega),if_pos (by omega)]))⟩
       . refine Ar ((k-1:Nat)-1:Int) rfl ?_
         refine Bk (k-1) [] rfl ⟨by omega,?_⟩ (by show k-1<k;omega)
         have Q:u=v:=by omega
         rw[W3h (l:=dig x) (i:=k-1) (by omega),W3h (l:=dig y) (i:=k-1) (by omega),show k-1+1=k by omega,hd]
         rw[W0e (by omega)] at j o
         injection j with j
         injection o with o
         rw[j,o,Q]
   . have T:k=0:=by omega
     rw[T,W1e,W1e] at hd
     have V:x=y:=by rw[<-Xag x,hd,Xag]
     exact Rw [] [(1000001,.arr 1 (l.map wd))] rfl (.one (.rf rfl) rfl rfl) ⟨rfl,congrArg AV.d (congrArg (D.int .i64) (by rw[V,Xbb,if_neg (by omega),if_neg (by omega)]))⟩
theorem Xvd{x y q m:Nat}{l:List Nat}(hq:q+m<=l.length)(hl:(l.drop q).take m=dig x)(hx:(dig x).length<=1099511627776)(T:y<=x): CN0 278 [.own 1000001 1 q m,.d (ws (dig y))] [(1000001,.arr 1 (l.map wd))] (·=.d (ws (dig (x-y)))):=by
 have hm:(dig x).length=m:=by rw[<-hl,Xyc hq]
 have hg:∀ {k u:Nat},(dig x)[k]?=some u->k<m->l[q+k]?=some u:=λh hk=>by rw[<-hl,dtk hk] at h;exact h
 rw[hm] at hx
 have hll:=Xas T
 refine EnW Tryz.func278 λ_ _ _ _=>?_
 refine Mk m rfl (by omega) ?_
 refine Lo (λ(k,lo,i)=>[(0,.own 1000001 1 q m),(1,.d (ws (dig y))),(5,.own 12 1 0 m),(6,.d (.int .u64 (i:Nat))),(7,.d (.int .i64 (k:Nat)))]) (λ(_,lo,_)=>[(12,.arr 1 (lo.map wd)),(1000001,.arr 1 (l.map wd))])
  (λ(k,lo,i)=>k<=m/\lo.length=m/\Xar lo/\i<=1/\val (lo.take k)+val ((dig y).take k)=val ((dig x).take k)+4294967296^k*i) (λ(k,_,_)=>m-k) (0,List.replicate m 0,0) [] rfl
  ⟨by omega,by simp,Xfv _,by omega,by simp[val]⟩ ?_ (by exact⟨rfl,by simp only[W2j];rfl,rfl,rfl,rfl⟩)
 rintro⟨k,lo,i⟩ ⟨hk,o,V,hbr,j⟩
 refine By rfl (λh=>?_) λh=>?_
 . obtain⟨u,Z⟩:=xat (l:=dig x) (k:=k) (by omega)
   have hub:=ww Z (Xae x)
   refine Cu none (λ(v:Nat)=>[(0,.own 1000001 1 q m),(1,.d (ws (dig y))),(5,.own 12 1 0 m),(6,.d (.int .u64 i)),(7,.d (.int .i64 k)),(8,.d (.int .u64 v))]) (λ_=>[(12,.arr 1 (lo.map wd)),(1000001,.arr 1 (l.map wd))])
    (λv=>v<4294967296/\val ((dig y).take (k+1))=val ((dig y).take k)+4294967296^k*v) rfl ?_ λv ⟨hv,hyv⟩=>?_
   . refine By rfl (λh2=>?_) λh2=>?_<;>simp only[lw] at h2
     . obtain⟨u2,I⟩:=xat (l:=dig y) (k:=k) (by omega)
       have O:=ww I (Xae y)
       refine Ix k rfl (mp I) ?_
       refine Go.Vm.Cv u2 rfl ?_
       exact Jn u2 [] rfl ⟨O,Xac I⟩
     . exact Jn 0 [] rfl ⟨by omega,by rw[Xgv (by omega)];rfl⟩
   obtain⟨s,hs⟩:∃s,s=u+4294967296-v-i:=⟨_,rfl⟩
   refine El k rfl (by omega) ?_
   refine Ld (wd u) rfl (mp (hg Z (by omega))) ?_
   refine Go.Vm.Cv u rfl ?_
   refine Ar (u+4294967296:Nat) rfl ?_
   refine Ar (u+4294967296-v:Nat) rfl ?_
   refine Ar s rfl ?_
   refine Go.Vm.Cv (s%4294967296:Nat) rfl ?_ (by rw[wWm];omega)
   refine Eo k rfl (by omega) ?_
   refine Sto rfl (by simp only[lw];omega) ms ?_
   refine Ar (s/4294967296:Nat) rfl ?_ (Xjh (n:=32) (by decide))
   refine Ar (1-s/4294967296:Nat) rfl ?_
   refine Ar (k+1:Nat) rfl ?_
   refine Bk (k+1,lo.set k (s%4294967296),1-s/4294967296) [] rfl ⟨by omega,by simp[o],Xhl V (by omega),by omega,?_⟩ (by show m-(k+1)<m-k;omega)
   rw[Xbh (by omega),hyv,Xac Z,W1a,W0y]
   have e:4294967296^k*(s%4294967296+v+i)=4294967296^k*(u+4294967296*(1-s/4294967296)):=by congr 1;omega
   simp only[W1f] at e
   omega
 . have hkn:k=m:=by omega
   rw[hkn,W0b (by omega),W0b (by omega),W0b (by omega),Xag,Xag] at j
   have hvl:=Xby V
   rw[o] at hvl
   have Q:i=0:=by
    rcases W2v i with h0 | h0
    . exact h0
    . have h1:4294967296^m*1<=4294967296^m*i:=W0v _ h0
      omega
   rw[Q,W3f] at j
   refine Fz 12 5 (lo.map wd) rfl (by simp only[lw];omega) (oa o) ?_
   refine Ce rfl (Xa6 V (by omega)) ?_
   exact Rw [] [(1000001,.arr 1 (l.map wd))] rfl (.one (.rf rfl) rfl rfl) ⟨rfl,by rw[show val lo=x-y by omega]⟩
theorem Xd6{x y:Nat}(hx:(dig x).length<=1099511627776)(T:y<=x): C0 278 [.d (ws (dig x)),.d (ws (dig y))] (·=.d (ws (dig (x-y)))):=by
 obtain⟨m,hm⟩:∃m,(dig x).length=m:=⟨_,rfl⟩
 rw[hm] at hx
 have hll:=Xas T
 refine En Tryz.func278 λ_ _ _=>?_
 refine Mk m rfl (by simp only[lw];omega) ?_ (by simp only[lw,hm])
 refine Lo (λ(k,lo,i)=>[(0,.d (ws (dig x))),(1,.d (ws (dig y))),(5,.own 12 1 0 m),(6,.d (.int .u64 (i:Nat))),(7,.d (.int .i64 (k:Nat)))]) (λ(_,lo,_)=>[(12,.arr 1 (lo.map wd))])
  (λ(k,lo,i)=>k<=m/\lo.length=m/\Xar lo/\i<=1/\val (lo.take k)+val ((dig y).take k)=val ((dig x).take k)+4294967296^k*i) (λ(k,_,_)=>m-k) (0,List.replicate m 0,0) [] rfl
  ⟨by omega,by simp,Xfv _,by omega,by simp[val]⟩ ?_ (by exact⟨rfl,by simp only[W2j];rfl,rfl,rfl,rfl⟩)
 rintro⟨k,lo,i⟩ ⟨hk,o,V,hbr,j⟩
 refine By rfl (λh=>?_) λh=>?_<;>simp only[lw] at h
 . obtain⟨u,Z⟩:=xat (l:=dig x) (k:=k) (by omega)
   have hub:=ww Z (Xae x)
   refine Cu none (λ(v:Nat)=>[(0,.d (ws (dig x))),(1,.d (ws (dig y))),(5,.own 12 1 0 m),(6,.d (.int .u64 i)),(7,.d (.int .i64 k)),(8,.d (.int .u64 v))]) (λ_=>[(12,.arr 1 (lo.map wd))])
    (λv=>v<4294967296/\val ((dig y).take (k+1))=val ((dig y).take k)+4294967296^k*v) rfl ?_ λv ⟨hv,hyv⟩=>?_
   . refine By rfl (λh2=>?_) λh2=>?_<;>simp only[lw] at h2
     . obtain⟨u2,I⟩:=xat (l:=dig y) (k:=k) (by omega)
       have O:=ww I (Xae y)
       refine Ix k rfl (mp I) ?_
       refine Go.Vm.Cv u2 rfl ?_
       exact Jn u2 [] rfl ⟨O,Xac I⟩
     . exact Jn 0 [] rfl ⟨by omega,by rw[Xgv (by omega)];rfl⟩
   obtain⟨s,hs⟩:∃s,s=u+4294967296-v-i:=⟨_,rfl⟩
   refine Ix k rfl (mp Z) ?_
   refine Go.Vm.Cv u rfl ?_
   refine Ar (u+4294967296:Nat) rfl ?_
   refine Ar (u+4294967296-v:Nat) rfl ?_
   refine Ar s rfl ?_
   refine Go.Vm.Cv (s%4294967296:Nat) rfl ?_ (by rw[wWm];omega)
   refine Eo k rfl (by omega) ?_
   refine Sto rfl (by simp only[lw];omega) ms ?_
   refine Ar (s/4294967296:Nat) rfl ?_ (Xjh (n:=32) (by decide))
   refine Ar (1-s/4294967296:Nat) rfl ?_
   refine Ar (k+1:Nat) rfl ?_
   refine Bk (k+1,lo.set k (s%4294967296),1-s/4294967296) [] rfl ⟨by omega,by simp[o],Xhl V (by omega),by omega,?_⟩ (by show m-(k+1)<m-k;omega)
   rw[Xbh (by omega),hyv,Xac Z,W1a,W0y]
   have e:4294967296^k*(s%4294967296+v+i)=4294967296^k*(u+4294967296*(1-s/4294967296)):=by congr 1;omega
   simp only[W1f] at e
   omega
 . have hkn:k=m:=by omega
   rw[hkn,W0b (by omega),W0b (by omega),W0b (by omega),Xag,Xag] at j
   have hvl:=Xby V
   rw[o] at hvl
   have Q:i=0:=by
    rcases W2v i with h0 | h0
    . exact h0
    . have h1:4294967296^m*1<=4294967296^m*i:=W0v _ h0
      omega
   rw[Q,W3f] at j
   refine Fz 12 5 (lo.map wd) rfl (by simp only[lw];omega) (oa o) ?_
   refine Ce rfl (Xa6 V (by omega)) ?_
   exact R1 rfl (.eq (by rw[show val lo=x-y by omega]))
end
section
theorem Xim{x y:Nat}(hx:(dig x).length<=549755813888)(hy:(dig y).length<=549755813888): C0 276 [.d (ws (dig x)),.d (ws (dig y))] (·=.d (ws (dig (x+y)))):=by
 refine En Tryz.func276 λ_ _ _=>?_
 refine Cu none (λ(a,b)=>[(0,.d (ws (dig a))),(1,.d (ws (dig b)))]) (λ_=>[]) (λ(a,b)=>a+b=x+y/\(dig b).length<=(dig a).length/\(dig a).length<=549755813888) rfl ?_ λ⟨a,b⟩ ⟨hs,T,I⟩=>?_
 . refine By rfl (λh=>?_) λh=>?_<;>simp only[lw] at h
   . exact Jn (y,x) [] rfl ⟨Nat.add_comm _ _,by omega,hy⟩
   . exact Jn (x,y) [] rfl ⟨rfl,by omega,hx⟩
 obtain⟨m,hm⟩:∃m,(dig a).length=m:=⟨_,rfl⟩
 rw[hm] at T I
 refine Ar (m+1:Nat) rfl ?_ (wr (by simp only[lw,hm];omega) (by simp only[inK];omega))
 refine Mk (m+1) rfl (by omega) ?_
 refine Lo (λ(k,lo,i)=>[(0,.d (ws (dig a))),(1,.d (ws (dig b))),(5,.own 18 1 0 (m+1)),(6,.d (.int .u64 (i:Nat))),(7,.d (.int .i64 (k:Nat)))]) (λ(_,lo,_)=>[(18,.arr 1 (lo.map wd))])
  (λ(k,lo,i)=>k<=m/\lo.length=m+1/\Xar lo/\i<=1/\val (lo.take k)+4294967296^k*i=val ((dig a).take k)+val ((dig b).take k)) (λ(k,_,_)=>m-k) (0,List.replicate (m+1) 0,0) [] rfl ⟨by omega,by simp,Xfv _,by omega,by simp[val]⟩ ?_ (by exact⟨rfl,by simp only[W2j];rfl,rfl,rfl,rfl⟩)
 rintro⟨k,lo,i⟩ ⟨hk,hl,hw,hcr,j⟩
 refine By rfl (λh=>?_) λh=>?_<;>simp only[lw] at h
 . obtain⟨u,Q⟩:=xat (l:=dig a) (k:=k) (by omega)
   have hub:=ww Q (Xae a)
   refine Ix k rfl (mp Q) ?_
   refine Go.Vm.Cv u rfl ?_
   refine Ar (i+u:Nat) rfl ?_
   refine Cu none (λ(s:Nat)=>[(0,.d (ws (dig a))),(1,.d (ws (dig b))),(5,.own 18 1 0 (m+1)),(6,.d (.int .u64 s)),(7,.d (.int .i64 k))]) (λ_=>[(18,.arr 1 (lo.map wd))])
    (λs=>s<8589934592/\4294967296^k*s+val (lo.take k)=val ((dig a).take (k+1))+val ((dig b).take (k+1))) rfl ?_ λs ⟨hs8,V⟩=>?_
   . refine By rfl (λh2=>?_) λh2=>?_<;>simp only[lw] at h2
     . obtain⟨Z,o⟩:=xat (l:=dig b) (k:=k) (by omega)
       have hub2:=ww o (Xae b)
       refine Ix k rfl (mp o) ?_
       refine Go.Vm.Cv Z rfl ?_
       refine Ar (i+u+Z:Nat) rfl ?_
       exact Jn (i+u+Z) [] rfl ⟨by omega,by rw[Xac Q,Xac o,W1f,W1f];omega⟩
     . exact Jn (i+u) [] rfl ⟨by omega,by rw[Xac Q,Xgv (l:=dig b) (by omega),W1f];omega⟩
   refine Go.Vm.Cv (s%4294967296:Nat) rfl ?_ (by rw[wWm];omega)
   refine Eo k rfl (by omega) ?_
   refine Sto rfl (by simp only[lw];omega) ms ?_
   refine Ar (s/4294967296:Nat) rfl ?_ (Xjh (n:=32) (by decide))
   refine Ar (k+1:Nat) rfl ?_
   refine Bk (k+1,lo.set k (s%4294967296),s/4294967296) [] rfl ⟨by omega,by simp[hl],Xhl hw (by omega),by show s/4294967296<=1;omega,?_⟩ (by show m-(k+1)<m-k;omega)
   rw[Xbh (by omega),<-V,W1a,W0y]
   have e2:4294967296^k*s=4294967296^k*(s%4294967296)+4294967296^k*(4294967296*(s/4294967296)):=by rw[<-W1f];congr 1;omega
   omega
 . have hkn:k=m:=by omega
   subst hkn
   rw[W0b (l:=dig a) (by omega),W0b (l:=dig b) (by omega),Xag,Xag,hs] at j
   have O:val (lo.set k i)=x+y:=by
    have:=Xbh (l:=lo) (k:=k) (d:=i) (by omega)
    rw[W0b (by rw[W3p];omega)] at this
    rw[this,j]
   refine Go.Vm.Cv i rfl ?_
   refine Eo k rfl (by omega) ?_ (by simp only[lw];omega)
   refine Sto rfl (by simp only[lw];omega) ms ?_
   refine Fz 14 5 ((lo.set k i).map wd) rfl (by simp only[lw,W3p];omega) (oa (by simp[hl])) ?_
   refine Ce rfl (Xa6 (Xhl hw (by omega)) (by simp only[W3p];omega)) ?_
   exact R1 rfl (.eq (by rw[O]))
theorem Xto{X Y:List Nat}(hX:Xar X)(hY:Xar Y)(hx:X.length<=549755813888)(hy:Y.length<=549755813888): C0 280 [.d (ws X),.d (ws Y)] (·=.d (ws (dig (val X*val Y)))):=by
 obtain⟨n,hn⟩:∃n,X.length=n:=⟨_,rfl⟩
 obtain⟨m,hm⟩:∃m,Y.length=m:=⟨_,rfl⟩
 rw[hm] at hy
 rw[hn] at hx
 refine En Tryz.func280 λ_ _ _=>?_
 refine Ar (n+m:Nat) rfl ?_ (wr (by simp only[lw];omega) (by simp only[inK];omega))
 refine Mk (n+m) rfl (by omega) ?_
 refine Lo (λ(i,lo)=>[(0,.d (ws X)),(1,.d (ws Y)),(5,.own 14 1 0 (n+m)),(6,.d (.int .i64 (i:Nat)))]) (λ(_,lo)=>[(14,.arr 1 (lo.map wd))])
  (λ(i,lo)=>i<=n/\lo.length=n+m/\Xar lo/\val (lo.take (i+m))=val (X.take i)*val Y/\∀j,i+m<=j->j<n+m->lo[j]?=some 0) (λ(i,_)=>n-i)
  (0,List.replicate (n+m) 0) [] rfl ⟨by omega,by simp,Xfv _,by rw[W5n,Xbx];simp[val],λj _ h=>by rw[W4h,if_pos h]⟩ ?_ (by exact⟨rfl,by simp only[W2j];rfl,rfl,rfl,rfl⟩)
 rintro⟨i,I⟩ ⟨hi,Z,hw0,O,hz0⟩
 refine By rfl (λh=>?_) λh=>?_<;>simp only[lw] at h
 . obtain⟨u,hu⟩:=xat (l:=X) (k:=i) (by omega)
   have hub:=ww hu (hX)
   refine Lo (λ(k,lo,Q)=>[(0,.d (ws X)),(1,.d (ws Y)),(5,.own 14 1 0 (n+m)),(6,.d (.int .i64 i)),(7,.d (.int .u64 (Q:Nat))),(8,.d (.int .i64 (k:Nat)))]) (λ(_,lo,_)=>[(14,.arr 1 (lo.map wd))])
    (λ(k,lo,Q)=>k<=m/\lo.length=n+m/\Xar lo/\Q<4294967296/\(∀j,i+k<=j->lo[j]?=I[j]?)/\val (lo.take (i+k))+4294967296^(i+k)*Q=val (I.take (i+k))+4294967296^i*(u*val (Y.take k))) (λ(k,_,_)=>m-k)
    (0,I,0) [] rfl ⟨by omega,Z,hw0,by omega,λ_ _=>rfl,by simp[val]⟩ ?_
   rintro⟨k,lo,Q⟩ ⟨hk,hl1,hw,hcr,o,T⟩
   refine By rfl (λh=>?_) λh=>?_<;>simp only[lw] at h
   . obtain⟨v,hv⟩:=xat (l:=Y) (k:=k) (by omega)
     have hvb:=ww hv (hY)
     obtain⟨w,V⟩:=xat (l:=lo) (k:=i+k) (by omega)
     have hwb:=ww V hw
     have huv:u*v<=4294967295*4294967295:=W1z (by omega) (by omega)
     obtain⟨s,hs⟩:∃s,s=Q+w+u*v:=⟨_,rfl⟩
     have hs2:s<18446744073709551616:=by omega
     refine Dw rfl ?_
     refine Ar (i+k:Nat) rfl ?_
     refine Eo (i+k) rfl (by omega) ?_
     refine Ld (wd w) rfl (mp V) ?_
     refine Go.Vm.Cv w rfl ?_
     refine Ar (Q+w:Nat) rfl ?_
     refine Ix i rfl (mp hu) ?_
     refine Go.Vm.Cv u rfl ?_
     refine Ix k rfl (mp hv) ?_
     refine Go.Vm.Cv v rfl ?_
     refine Ar (u*v:Nat) rfl ?_ (wr (W2n ..).symm (by simp only[inK];omega))
     refine Ar (s:Nat) rfl ?_
     refine Ar (i+k:Nat) rfl ?_
     refine Go.Vm.Cv (s%4294967296:Nat) rfl ?_ (by rw[wWm];omega)
     refine Eo (i+k) rfl (by omega) ?_
     refine Sto rfl (by simp only[lw];omega) ms ?_
     refine Ar (s/4294967296:Nat) rfl ?_ (Xjh (n:=32) (by decide))
     refine Ar (k+1:Nat) rfl ?_
     refine Bk (k+1,lo.set (i+k) (s%4294967296),s/4294967296) [] rfl ⟨by omega,by simp[hl1],Xhl hw (by omega),by omega,λj hj=>by rw[W2a (by omega)];exact o j (by omega),?_⟩ (by show _-(k+1)<_-k;omega)
     have hw0':I[i+k]?=some w:=by rw[<-o (i+k) (W0a _)];exact V
     rw[<-W4u,Xbh (by omega),Xac hw0',Xac hv,W1a,W0y,W1f u,W1f (4294967296^i)]
     have e:4294967296^(i+k)*s=4294967296^(i+k)*(s%4294967296)+4294967296^(i+k)*(4294967296*(s/4294967296)):=by rw[<-W1f];congr 1;omega
     have e2:4294967296^(i+k)*s=4294967296^(i+k)*Q+4294967296^i*(u*(4294967296^k*v))+4294967296^(i+k)*w:=by
      rw[hs,W1f,W1f,W0z]
      have:4294967296^i*4294967296^k*(u*v)=4294967296^i*(u*(4294967296^k*v)):=by
       rw[W0y,W4z (4294967296^k) u v]
      omega
     omega
   . have hkm:k=m:=by omega
     subst hkm
     refine Ar (i+k:Nat) rfl ?_ (wr (by simp only[lw];omega) (by simp only[inK];omega))
     refine Go.Vm.Cv Q rfl ?_
     refine Eo (i+k) rfl (by omega) ?_
     refine Sto rfl (by simp only[lw];omega) ms ?_
     refine Ar (i+1:Nat) rfl ?_
     refine Bk (i+1,lo.set (i+k) Q) [] rfl ⟨by omega,by simp[hl1],Xhl hw hcr,?_,λj h1 h2=>by rw[W2a (by omega),o j (by omega)];exact hz0 j (by omega) h2⟩ (by show _-(i+1)<_-i;omega)
     rw[show i+1+k=i+k+1 by omega,Xbh (by omega),Xac hu,T,O,show Y.take k=Y from W0b (by omega),W1c,W0y]
 . have him:i=n:=by omega
   rw[him,W0b (by omega),W0b (by omega)] at O
   refine Fz 13 5 (I.map wd) rfl (by simp only[lw];omega) (oa Z) ?_
   refine Ce rfl (Xa6 hw0 (by omega)) ?_
   exact R1 rfl (.eq (by rw[O]))
theorem Xkz{x y:Nat}(h:(dig x).length<=549755813888)(i:(dig y).length<=549755813888): C0 280 [.d (ws (dig x)),.d (ws (dig y))] (·=.d (ws (dig (x*y)))):=by
 have:=Xto (Xae x) (Xae y) h i
 rwa[Xag,Xag] at this
theorem Xtp{x q n:Nat}{l:List Nat}(hq:q+n<=l.length)(hl:(l.drop q).take n=dig x)(hx:(dig x).length<=549755813888): CN0 280 [.own 1000001 1 q n,.own 1000001 1 q n] [(1000001,.arr 1 (l.map wd))] (·=.d (ws (dig (x*x)))):=by
 have hg:∀ {k u:Nat},(dig x)[k]?=some u->k<n->l[q+k]?=some u:=λh hk=>by rw[<-hl,dtk hk] at h;exact h
 have hn:(dig x).length=n:=by rw[<-hl,Xyc hq]
 rw[hn] at hx
 refine EnW Tryz.func280 λ_ _ _ _=>?_
 refine Ar (n+n:Nat) rfl ?_ (wr (by omega) (by simp only[inK];omega))
 refine Mk (n+n) rfl (by omega) ?_
 refine Lo (λ(i,lo)=>[(0,.own 1000001 1 q n),(1,.own 1000001 1 q n),(5,.own 14 1 0 (n+n)),(6,.d (.int .i64 (i:Nat)))]) (λ(_,lo)=>[(14,.arr 1 (lo.map wd)),(1000001,.arr 1 (l.map wd))])
  (λ(i,lo)=>i<=n/\lo.length=n+n/\Xar lo/\val (lo.take (i+n))=val ((dig x).take i)*x/\∀j,i+n<=j->j<n+n->lo[j]?=some 0) (λ(i,_)=>n-i)
  (0,List.replicate (n+n) 0) [] rfl ⟨by omega,by simp,Xfv _,by rw[W5n,Xbx];simp[val],λj _ h=>by rw[W4h,if_pos h]⟩ ?_ (by exact⟨rfl,by simp only[W2j];rfl,rfl,rfl,rfl⟩)
 rintro⟨i,I⟩ ⟨hi,Z,hw0,O,hz0⟩
 refine By rfl (λh=>?_) λh=>?_
 . obtain⟨u,hu⟩:=xat (l:=dig x) (k:=i) (by omega)
   have hub:=ww hu (Xae x)
   refine Lo (λ(k,lo,Q)=>[(0,.own 1000001 1 q n),(1,.own 1000001 1 q n),(5,.own 14 1 0 (n+n)),(6,.d (.int .i64 i)),(7,.d (.int .u64 (Q:Nat))),(8,.d (.int .i64 (k:Nat)))]) (λ(_,lo,_)=>[(14,.arr 1 (lo.map wd)),(1000001,.arr 1 (l.map wd))])
    (λ(k,lo,Q)=>k<=n/\lo.length=n+n/\Xar lo/\Q<4294967296/\(∀j,i+k<=j->lo[j]?=I[j]?)/\val (lo.take (i+k))+4294967296^(i+k)*Q=val (I.take (i+k))+4294967296^i*(u*val ((dig x).take k))) (λ(k,_,_)=>n-k)
    (0,I,0) [] rfl ⟨by omega,Z,hw0,by omega,λ_ _=>rfl,by simp[val]⟩ ?_
   rintro⟨k,lo,Q⟩ ⟨hk,hl1,hw,hcr,o,T⟩
   refine By rfl (λh=>?_) λh=>?_
   . obtain⟨v,hv⟩:=xat (l:=dig x) (k:=k) (by omega)
     have hvb:=ww hv (Xae x)
     obtain⟨w,V⟩:=xat (l:=lo) (k:=i+k) (by omega)
     have hwb:=ww V hw
     have huv:u*v<=4294967295*4294967295:=W1z (by omega) (by omega)
     obtain⟨s,hs⟩:∃s,s=Q+w+u*v:=⟨_,rfl⟩
     have hs2:s<18446744073709551616:=by omega
     refine Dw rfl ?_
     refine Ar (i+k:Nat) rfl ?_
     refine Eo (i+k) rfl (by omega) ?_
     refine Ld (wd w) rfl (mp V) ?_
     refine Go.Vm.Cv w rfl ?_
     refine Ar (Q+w:Nat) rfl ?_
     refine El i rfl (by omega) ?_
     refine Ld (wd u) rfl (mp (hg hu (by omega))) ?_
     refine Go.Vm.Cv u rfl ?_
     refine El k rfl (by omega) ?_
     refine Ld (wd v) rfl (mp (hg hv (by omega))) ?_
     refine Go.Vm.Cv v rfl ?_
     refine Ar (u*v:Nat) rfl ?_ (wr (W2n ..).symm (by simp only[inK];omega))
     refine Ar (s:Nat) rfl ?_
     refine Ar (i+k:Nat) rfl ?_
     refine Go.Vm.Cv (s%4294967296:Nat) rfl ?_ (by rw[wWm];omega)
     refine Eo (i+k) rfl (by omega) ?_
     refine Sto rfl (by simp only[lw];omega) ms ?_
     refine Ar (s/4294967296:Nat) rfl ?_ (Xjh (n:=32) (by decide))
     refine Ar (k+1:Nat) rfl ?_
     refine Bk (k+1,lo.set (i+k) (s%4294967296),s/4294967296) [] rfl ⟨by omega,by simp[hl1],Xhl hw (by omega),by omega,λj hj=>by rw[W2a (by omega)];exact o j (by omega),?_⟩ (by show _-(k+1)<_-k;omega)
     have hw0':I[i+k]?=some w:=by rw[<-o (i+k) (W0a _)];exact V
     rw[<-W4u,Xbh (by omega),Xac hw0',Xac hv,W1a,W0y,W1f u,W1f (4294967296^i)]
     have e:4294967296^(i+k)*s=4294967296^(i+k)*(s%4294967296)+4294967296^(i+k)*(4294967296*(s/4294967296)):=by rw[<-W1f];congr 1;omega
     have e2:4294967296^(i+k)*s=4294967296^(i+k)*Q+4294967296^i*(u*(4294967296^k*v))+4294967296^(i+k)*w:=by
      rw[hs,W1f,W1f,W0z]
      have:4294967296^i*4294967296^k*(u*v)=4294967296^i*(u*(4294967296^k*v)):=by
       rw[W0y,W4z (4294967296^k) u v]
      omega
     omega
   . have hkm:k=n:=by omega
     subst hkm
     refine Ar (i+k:Nat) rfl ?_ (wr (by omega) (by simp only[inK];omega))
     refine Go.Vm.Cv Q rfl ?_
     refine Eo (i+k) rfl (by omega) ?_
     refine Sto rfl (by simp only[lw];omega) ms ?_
     refine Ar (i+1:Nat) rfl ?_
     refine Bk (i+1,lo.set (i+k) Q) [] rfl ⟨by omega,by simp[hl1],Xhl hw hcr,?_,λj h1 h2=>by rw[W2a (by omega),o j (by omega)];exact hz0 j (by omega) h2⟩ (by show _-(i+1)<_-i;omega)
     rw[show i+1+k=i+k+1 by omega,Xbh (by omega),Xac hu,T,O,show (dig x).take k=dig x from W0b (by omega),Xag,W1c,W0y]
 . have him:i=n:=by omega
   rw[him,W0b (by omega),W0b (by omega),Xag] at O
   refine Fz 13 5 (I.map wd) rfl (by simp only[lw];omega) (oa Z) ?_
   refine Ce rfl (Xa6 hw0 (by omega)) ?_
   exact Rw [] [(1000001,.arr 1 (l.map wd))] rfl (.one (.rf rfl) rfl rfl) ⟨rfl,by rw[O]⟩
end
section
theorem Neg_ok{z:Int}(h:(dig z.natAbs).length<=1099511627776): C0 154 [.d (dz z)] (·=.d (dz (-z))):=by
 refine En Tryz.func154 λ_ _ _=>?_
 refine Ce rfl (Xao h) ?_
 exact R1 rfl (.eq (by rw[Ybv]))
theorem Add_ok{a b:Int}(ha:(dig a.natAbs).length<=549755813888)(hb:(dig b.natAbs).length<=549755813888): C0 218 [.d (dz a),.d (dz b)] (·=.d (dz (a+b))):=by
 refine En Tryz.func218 λ_ _ _=>?_
 refine Dw rfl ?_
 refine Ce rfl (Norm_ok (by omega)) ?_
 refine Ce rfl (Norm_ok (by omega)) ?_
 refine By rfl (λh=>?_) λh=>?_<;>rw[Yn9] at h
 . refine Dw rfl ?_
   refine Ce rfl (Xim ha hb) ?_
   refine Ce rfl (Xao (W0m (Xg4 ..) (by omega))) ?_
   exact R1 rfl (.eq (by rw[Ybx h]))
 . refine Ce rfl (Xb6 (by omega)) ?_
   refine By rfl (λj=>?_) λj=>?_
   . have i:=Yn2.1 (show ¬Xbb (a.natAbs:Int) (b.natAbs:Int)<0 by omega)
     refine Dw rfl ?_
     refine Ce rfl (Xd6 (by omega) i) ?_
     refine Ce rfl (Xao (W0m (Xas (Nat.sub_le ..)) (by omega))) ?_
     exact R1 rfl (.eq (by rw[Xqc h i]))
   . have i:=W2f (Yaj.1 (show Xbb (a.natAbs:Int) (b.natAbs:Int)<0 by omega))
     refine Dw rfl ?_
     refine Ce rfl (Xd6 (by omega) i) ?_
     refine Ce rfl (Xao (W0m (Xas (Nat.sub_le ..)) (by omega))) ?_
     exact R1 rfl (.eq (by rw[Xqc (λe=>h e.symm) i,Int.add_comm]))
theorem Sub_ok{a b:Int}(ha:(dig a.natAbs).length<=549755813888)(hb:(dig b.natAbs).length<=549755813888): C0 332 [.d (dz a),.d (dz b)] (·=.d (dz (a-b))):=by
 refine En Tryz.func332 λ_ _ _=>?_
 refine Dw rfl ?_
 refine Ce rfl (Neg_ok (by omega)) ?_
 refine Ce rfl (Add_ok ha (by rw[W5f];exact hb)) ?_
 exact R0
theorem Mul_ok{a b:Int}(ha:(dig a.natAbs).length<=549755813888)(hb:(dig b.natAbs).length<=549755813888): C0 220 [.d (dz a),.d (dz b)] (·=.d (dz (a*b))):=by
 refine En Tryz.func220 λ_ _ _=>?_
 refine Dw rfl ?_
 refine Ce rfl (Norm_ok (by omega)) ?_
 refine Ce rfl (Norm_ok (by omega)) ?_
 refine Dw rfl ?_
 refine Ce rfl (Xkz ha hb) ?_
 refine Ce rfl (Xao (W0m (Xll ..) (by omega))) ?_
 exact R1 rfl (.eq (by rw[Yc9,Ybw]))
theorem Xxj(a b:Int): Xbb (a-b) 0=Xbb a b:=by
 unfold Xbb;split<;>split<;>(try split)<;>(try split)<;>omega
theorem Cmp_ok{a b:Int}(ha:(dig a.natAbs).length<=549755813888)(hb:(dig b.natAbs).length<=549755813888): C0 351 [.d (dz a),.d (dz b)] (·=.d (.int .i64 (Xbb a b))):=by
 have i:=Xg4 a.natAbs b.natAbs
 have h:=Xas (show (a-b).natAbs<=a.natAbs+b.natAbs by omega)
 refine En Tryz.func351 λ_ _ _=>?_
 refine Ce rfl (Sub_ok ha hb) ?_
 refine Ce rfl (Sign_ok (by omega)) ?_
 exact R1 rfl (.eq (by rw[Xxj]))
theorem Yn4{x y:Nat}(hx:(dig x).length<=549755813888)(hy:y<4294967296)(hy0:y≠0): C0 327 [.d (ws (dig x)),.d (.int .u32 y)] (·=.tup (.pr (.d (ws (dig (x/y)))) (.d (.int .u32 (x%y:Nat))))):=by
 refine En Tryz.func327 λ_ _ _=>?_
 refine Mk (dig x).length rfl (by simp only[lw];omega) ?_ (by simp only[lw])
 refine Ar ((dig x).length-1:Int) rfl ?_ (wr (by simp only[lw]) (by simp only[inK];omega))
 refine Lo (λ(k,lo,r)=>[(0,.d (ws (dig x))),(1,.d (.int .u32 y)),(6,.own 11 1 0 (dig x).length),(7,.d (.int .u64 (r:Nat))),(8,.d (.int .i64 ((k:Nat)-1:Int)))]) (λ(_,lo,_)=>[(11,.arr 1 (lo.map wd))])
  (λ(k,lo,r)=>k<=(dig x).length/\lo.length=(dig x).length/\Xar lo/\r<y/\val (lo.drop k)*y+r=val ((dig x).drop k)) (λ(k,_,_)=>k) ((dig x).length,List.replicate (dig x).length 0,0) [] rfl
  ⟨by omega,by simp,Xfv _,by omega,by rw[W1y (by simp),W1y (by omega)];simp[val]⟩ ?_ (by exact⟨rfl,by simp only[W2j];rfl,rfl,rfl,rfl⟩)
 rintro⟨k,lo,r⟩ ⟨hk,V,o,Z,i⟩
 refine By rfl (λh=>?_) λh=>?_
 . obtain⟨u,O⟩:=xat (l:=dig x) (k:=k-1) (by omega)
   have hub:=ww O (Xae x)
   obtain⟨s,hs⟩:∃s,s=r*2^32+u:=⟨_,rfl⟩
   have j:s<18446744073709551616:=by omega
   have I:s/y<4294967296:=by
    rw[W2t (by omega)]
    have:=W0k 4294967296 (show r+1<=y by omega)
    omega
   have Q:s%y<y:=W1s _ (by omega)
   have hq0:0<=s/y:=W0w _
   refine Ar (r*2^32:Nat) rfl ?_ (Xig (n:=32) rfl (by omega) (by decide))
   refine Ix (k-1) rfl (mp O) ?_
   refine Go.Vm.Cv u rfl ?_
   refine Ar s rfl ?_ (Yb8 (by omega) (by omega) (by rw[Xdn u r 32 (by omega),<-hs]) j)
   refine Go.Vm.Cv y rfl ?_
   refine Ar (s/y:Nat) rfl ?_ (show _/\_ from⟨by omega,Ydp s y j⟩)
   refine Go.Vm.Cv (s/y:Nat) rfl ?_ (wW ⟨W5d _,W7e.2 I⟩)
   refine Eo (k-1) rfl (by omega) ?_
   refine Sto rfl (by simp only[lw];omega) ms ?_
   refine Go.Vm.Cv y rfl ?_
   refine Ar (s%y:Nat) rfl ?_ (show _/\_ from⟨by omega,Xr2 s y⟩)
   refine Ar ((k-1:Nat)-1:Int) rfl ?_
   refine Bk (k-1,lo.set (k-1) (s/y),s%y) [] rfl ⟨by omega,by simp[V],Xhl o I,Q,?_⟩ (by show k-1<k;omega)
   rw[Xb0 O,show k-1+1=k by omega,<-i,drop_set (by omega),val,show k-1+1=k by omega]
   have e:=W2q s y
   rw[W1h] at e
   rw[W1c,W1f,W0y]
   omega
 . have T:k=0:=by omega
   subst T
   rw[W1e,W1e,Xag] at i
   have hq:x/y=val lo:=by rw[<-i,W1h,Nat.mul_add_div (by omega),W4l Z,W2i]
   have hm:x%y=r:=by rw[<-i,W1h,Nat.mul_add_mod,W4b Z]
   refine Fz 9 6 (lo.map wd) rfl (by simp only[lw];omega) (oa V) ?_
   refine Ce rfl (Xa6 o (by omega)) ?_
   refine Go.Vm.Cv (x%y:Nat) rfl ?_ (by rw[hm];exact wW (by omega))
   exact RTt rfl (.cons (.eq (by rw[hq])) (.one (.rf rfl) (λ_ _ e=>by cases e) (λ_ _ e=>by cases e)))
theorem Xqa{x:Nat}(O:(dig x).length<=2): C0 326 [.d (ws (dig x))] (·=.d (.int .u64 x)):=by
 refine En Tryz.func326 λ_ _ _=>?_
 refine Ar ((dig x).length-1:Int) rfl ?_ (wr (by simp only[lw]) (by simp only[inK];omega))
 refine Lo (λk=>[(0,.d (ws (dig x))),(3,.d (.int .u64 (val ((dig x).drop k)))),(4,.d (.int .i64 ((k:Nat)-1:Int)))]) (λ_=>[]) (λk=>k<=(dig x).length) (λk=>k) (dig x).length [] rfl (W0a _) (λk Q=>?_) (by exact⟨by rw[W1y (W0a _)];rfl,rfl,rfl,rfl,rfl⟩)
 refine By rfl (λh=>?_) λh=>?_
 . obtain⟨u,j⟩:=xat (l:=dig x) (k:=k-1) (by omega)
   have o:=ww j (Xae x)
   have I:val ((dig x).drop k)<4294967296:=by
    have T:=Xby ((Xae x).drop k)
    have V:4294967296^((dig x).drop k).length<=4294967296^1:=W0p (by decide) (by rw[W1k];omega)
    omega
   have i:=Xb0 j
   rw[show k-1+1=k by omega] at i
   obtain⟨s,hs⟩:∃s,s=val ((dig x).drop k):=⟨_,rfl⟩
   rw[<-hs] at I i
   refine Ar (s*2^32:Nat) rfl ?_ (by rw[<-hs];exact Xig (n:=32) rfl (by omega) (by decide))
   refine Ix (k-1) rfl (mp j) ?_
   refine Go.Vm.Cv u rfl ?_
   refine Ar (val ((dig x).drop (k-1)):Nat) rfl ?_ (Yb8 (by omega) (by omega) (by rw[Xdn u s 32 (by omega),i];omega) (by omega))
   refine Ar ((k-1:Nat)-1:Int) rfl ?_
   exact Bk (k-1) [] rfl (show k-1<=_ by omega) (by show k-1<k;omega)
 . refine R1 rfl (.eq ?_)
   rw[show k=0 by omega,W1e,Xag]
theorem Yf9{x:Nat}(h:x≠0): bl x=bl (x/2)+1:=by
 by_cases i:x/2=0
 . have:x=1:=by omega
   subst this
   decide
 . exact Xfa (n:=x) (k:=1) i
theorem Xmw{x:Nat}(hx:(dig x).length<=1099511627776)(h0:x≠0): C0 328 [.d (ws (dig x))] λv=>∃t,(dig x)[(dig x).length-1]?=some t/\t≠0/\t<4294967296/\v=.d (.int .i64 (32*((dig x).length-1)+bl t:Nat)):=by
 have T:(dig x).length≠0:=λe=>h0 (Ypo.1 e)
 obtain⟨t,I,o⟩:∃t,(dig x)[(dig x).length-1]?=some t/\t≠0:=by
  rcases Xhu x with O | O
  . exact absurd (Xsp.1 O) h0
  . exact O
 have j:=ww I (Xae x)
 have V:bl t<=32:=by
  obtain⟨Z,b2,b3⟩:=Xcq o
  have:2^(bl t-1)<2^32:=W1w Z j
  have:=(W2w (by decide:1<2)).1 this
  omega
 refine En Tryz.func328 λ_ _ _=>?_
 refine No rfl (by simp only[lw];omega) ?_
 refine Ar ((dig x).length-1:Nat) rfl ?_ (wr (by simp only[lw];omega) (by simp only[inK];omega))
 refine Ix ((dig x).length-1) rfl (mp I) ?_
 refine Lo (λ(k,i)=>[(0,.d (ws (dig x))),(3,.d (.int .i64 (i:Nat))),(4,.d (.int .u32 (k:Nat)))]) (λ_=>[]) (λ(k,i)=>k<4294967296/\bl k+i=bl t) (λ(k,_)=>k) (t,0) [] rfl ⟨j,rfl⟩ ?_
 rintro⟨k,i⟩ ⟨hk,hb⟩
 refine By rfl (λh=>?_) λh=>?_
 . have:=Yf9 (x:=k) (by omega)
   refine Ar (i+1:Nat) rfl ?_
   refine Ar (k/2:Nat) rfl ?_ (show _/\_ from⟨by decide,by rw[show Int.tdiv (k:Int) 2=((k/2:Nat):Int) from rfl];exact wW (by omega)⟩)
   exact Bk (k/2,i+1) [] rfl ⟨by omega,by omega⟩ (by show k/2<k;omega)
 . have Q:k=0:=by omega
   subst Q
   rw[show bl 0=0 from rfl] at hb
   refine Ar ((dig x).length-1:Nat) rfl ?_ (wr (by simp only[lw];omega) (by simp only[inK];omega))
   refine Ar (32*((dig x).length-1):Nat) rfl ?_
   refine Ar (32*((dig x).length-1)+bl t:Nat) rfl ?_
   exact Rt rfl (.one (.rf rfl) rfl rfl) ⟨t,I,o,j,rfl⟩
theorem Xe1{n x:Nat}(hx:(dig x).length<=549755813888)(I:n<32): CO0 329 [.d (ws (dig x)),.d (.int .i64 n)] λv ob=>∃l,l.length=(dig x).length+1/\Xar l/\val l=x*2^n/\v=.own 1000000 1 0 l.length/\ob=.arr 1 (l.map wd):=by
 have hp:=W0u n
 have hp32:2^n<=2147483648:=by have:2^n<=2^31:=W0p (by decide) (by omega);omega
 refine EnW Tryz.func329 λ_ _ _ _=>?_
 refine Ar ((dig x).length+1:Nat) rfl ?_ (wr (by simp only[lw];omega) (by simp only[inK];omega))
 refine Mk ((dig x).length+1) rfl (by omega) ?_
 refine Lo (λ(i,lo)=>[(0,.d (ws (dig x))),(1,.d (.int .i64 n)),(5,.own 11 1 0 ((dig x).length+1)),(6,.d (.int .i64 (i:Nat)))]) (λ(_,lo)=>[(11,.arr 1 (lo.map wd))])
  (λ(i,lo)=>i<=(dig x).length/\lo.length=(dig x).length+1/\Xar lo/\val (lo.take (i+1))=val ((dig x).take i)*2^n/\∃w,lo[i]?=some w/\w<2^n) (λ(i,_)=>(dig x).length-i) (0,List.replicate ((dig x).length+1) 0) [] rfl
  ⟨by omega,by simp,Xfv _,by rw[W5n,Xbx];simp[val],0,by simp,hp⟩ ?_ (by exact⟨rfl,by simp only[W2j];rfl,rfl,rfl,rfl⟩)
 rintro⟨i,lo⟩ ⟨hi,Z,O,j,w,hw,hwn⟩
 refine By rfl (λh=>?_) λh=>?_<;>simp only[lw] at h
 . obtain⟨u,hu⟩:=xat (l:=dig x) (k:=i) (by omega)
   have Q:=ww hu (Xae x)
   have hs1:=Ybs Q I
   have o:=Xd5 u n (by omega)
   obtain⟨s,hs⟩:∃s,s=u*2^n:=⟨_,rfl⟩
   have T:=Xig hs.symm (by omega) (by omega:n<=64)
   rw[<-hs] at hs1 o
   have hor:w|||s%4294967296=s%4294967296+w:=by rw[Nat.or_comm,o];exact Xdn _ _ _ hwn
   have V:s%4294967296+w<4294967296:=by
    rw[o]
    have h1:u%2^(32-n)+1<=2^(32-n):=W1s _ (W0u _)
    have h2:=W0k (2^n) h1
    rw[<-W0z,show 32-n+n=32 by omega,W2k] at h2
    omega
   refine Ix i rfl (mp hu) ?_
   refine Go.Vm.Cv u rfl ?_
   refine Ar s rfl ?_ T
   refine Eo i rfl (by omega) ?_
   refine Ld (wd w) rfl (mp hw) ?_
   refine Go.Vm.Cv (s%4294967296:Nat) rfl ?_ (by rw[wWm];omega)
   refine Ar (s%4294967296+w:Nat) rfl ?_ (Ylu (by omega) (by omega) hor V)
   refine Eo i rfl (by omega) ?_
   refine Sto rfl (by simp only[lw];omega) ms ?_
   refine Ar (i+1:Nat) rfl ?_
   refine Ar (s/4294967296:Nat) rfl ?_ (Xjh (n:=32) (by decide))
   refine Go.Vm.Cv (s/4294967296:Nat) rfl ?_
   refine Eo (i+1) rfl (by omega) ?_
   refine Sto rfl (by simp only[W0i,W3p];omega) ms ?_
   refine Ar (i+1:Nat) rfl ?_
   refine Bk (i+1,(lo.set i (s%4294967296+w)).set (i+1) (s/4294967296)) [] rfl ⟨by omega,by simp[Z],Xhl (Xhl O V) (by omega),?_,s/4294967296,by rw[W2x (by rw[W3p];omega)],?_⟩ (by show _-(i+1)<_-i;omega)
   . rw[Xbh (by rw[W3p];omega),Xbh (by omega),Xac hu,W1c,<-j,Xac hw,W0y,<-hs,W1a,W1f,W0y]
     have e:4294967296^i*s=4294967296^i*(s%4294967296)+4294967296^i*(4294967296*(s/4294967296)):=by rw[<-W1f];congr 1;omega
     omega
   . rw[W2t (by decide),hs,W1h]
     exact Nat.mul_lt_mul_of_pos_left Q hp
 . have him:i=(dig x).length:=by omega
   rw[him,W0b (by omega),W0b (by omega),Xag] at j
   exact Rw [(11,1000000)] [(1000000,.arr 1 (lo.map wd))] rfl (.one (.rf rfl) rfl rfl) ⟨_,rfl,lo,Z,O,j,by rw[Z];rfl,rfl⟩
theorem Xmi{n x:Nat}(i:(dig x).length<=549755813888)(h:n<32): C0 329 [.d (ws (dig x)),.d (.int .i64 n)] λv=>∃l,l.length=(dig x).length+1/\Xar l/\val l=x*2^n/\v=.d (ws l) :=
 CW.data (Xe1 i h) rfl λv H' ⟨T,e,l,j,o,I,O,Q⟩=>⟨.d (ws l),by rw[O,e,Q];exact .one (.own rfl (by simp) (oa rfl)) rfl rfl,l,j,o,I,rfl⟩
theorem Xst{u v n:Nat}(i:u<4294967296)(j:n<32): (u+v*4294967296)/2^n%4294967296=u/2^n+(v%2^n)*2^(32-n):=by
 have e:v*4294967296=v*2^(32-n)*2^n:=by
  rw[W0y,<-W0z,show 32-n+n=32 by omega]
 rw[e,Nat.add_mul_div_right _ _ (W0u n)]
 have h:=Xd5 v (32-n) (by omega)
 rw[show 32-(32-n)=n by omega] at h
 have o:=(Xmh (v:=v) i j).2
 rw[<-h] at o |-
 generalize v*2^(32-n)=X at *
 generalize u/2^n=A at *
 omega
theorem Ygc{n x:Nat}(hx:(dig x).length<=1099511627776)(o:n<32): C0 331 [.d (ws (dig x)),.d (.int .i64 n)] (·=.d (ws (dig (x/2^n)))):=by
 have hp:=W0u n
 have hp32:2^n<=2147483648:=by have:2^n<=2^31:=W0p (by decide) (by omega);omega
 obtain⟨m,hm⟩:∃m,(dig x).length=m:=⟨_,rfl⟩
 rw[hm] at hx
 have I:=Xag x
 refine En Tryz.func331 λ_ _ _=>?_
 refine Mk m rfl (by simp only[lw];omega) ?_ (by simp only[lw,hm])
 refine Lo (λ(i,lo)=>[(0,.d (ws (dig x))),(1,.d (.int .i64 n)),(5,.own 10 1 0 m),(6,.d (.int .i64 (i:Nat)))]) (λ(_,lo)=>[(10,.arr 1 (lo.map wd))])
  (λ(i,lo)=>i<=m/\lo.length=m/\Xar lo/\val (lo.take i)*2^n+x%2^n=val ((dig x).take i)+4294967296^i*((dig x).getD i 0%2^n)) (λ(i,_)=>m-i) (0,List.replicate m 0) [] rfl
  ⟨by omega,by simp,Xfv _,by have:=Xh7 (dig x) n (by omega);rw[I] at this;simp[val,this]⟩ ?_ (by exact⟨rfl,by simp only[W2j];rfl,rfl,rfl,rfl⟩)
 rintro⟨i,lo⟩ ⟨hi,hl,O,j⟩
 refine By rfl (λh=>?_) λh=>?_<;>simp only[lw] at h
 . obtain⟨u,hu⟩:=xat (l:=dig x) (k:=i) (by omega)
   have hub:=ww hu (Xae x)
   have hgu:(dig x).getD i 0=u:=by rw[W2o,hu];rfl
   rw[hgu] at j
   refine Ix i rfl (mp hu) ?_
   refine Go.Vm.Cv u rfl ?_
   refine Ar (i+1:Nat) rfl ?_
   refine Cu none (λs:Nat=>[(0,.d (ws (dig x))),(1,.d (.int .i64 n)),(5,.own 10 1 0 m),(6,.d (.int .i64 i)),(7,.d (.int .u64 s))]) (λ_=>[(10,.arr 1 (lo.map wd))])
    (λs=>∃v,(dig x).getD (i+1) 0=v/\v<4294967296/\s=u+v*4294967296) rfl ?_ λs ⟨v,Q,T,hs⟩=>?_
   . refine By rfl (λh2=>?_) λh2=>?_<;>simp only[lw] at h2
     . obtain⟨v,Q⟩:=xat (l:=dig x) (k:=i+1) (by omega)
       have T:=ww Q (Xae x)
       refine Ar (i+1:Nat) rfl ?_
       refine Ix (i+1) rfl (mp Q) ?_
       refine Go.Vm.Cv v rfl ?_
       refine Ar (v*2^32:Nat) rfl ?_ (Xig (n:=32) rfl (by omega) (by decide))
       refine Ar (u+v*4294967296:Nat) rfl ?_ (Yb8 (by omega) (by omega) (by rw[Nat.or_comm,Xdn u v 32 (by omega)];omega) (by omega))
       exact Jn (u+v*4294967296) [] rfl ⟨v,by rw[W2o,Q];rfl,T,rfl⟩
     . exact Jn u [] rfl ⟨0,by rw[W2o,W2b (by omega)];rfl,by decide,by omega⟩
   have V:=Xst (v:=v) hub o
   rw[<-hs] at V
   refine Ar (s/2^n:Nat) rfl ?_ (Xjh (show n<=64 by omega))
   refine Go.Vm.Cv (s/2^n%4294967296:Nat) rfl ?_ (by rw[wWm];omega)
   refine Eo i rfl (by omega) ?_
   refine Sto rfl (by simp only[lw];omega) ms ?_
   refine Ar (i+1:Nat) rfl ?_
   refine Bk (i+1,lo.set i (s/2^n%4294967296)) [] rfl ⟨by omega,by simp[hl],Xhl O (by omega),?_⟩ (by show m-(i+1)<m-i;omega)
   rw[Xbh (by omega),Xac hu,Q,V]
   exact Xp9 o j
 . have him:i=m:=by omega
   rw[him,W0b (by omega),W0b (by omega),W2o,W2b (by omega),I] at j
   have Z:val lo=x/2^n:=by
    simp at j
    have:=W2q x (2^n)
    rw[W1h] at this
    exact Nat.eq_of_mul_eq_mul_right hp (by omega)
   refine Fz 9 5 (lo.map wd) rfl (by simp only[lw];omega) (oa hl) ?_
   refine Ce rfl (Xa6 O (by omega)) ?_
   exact R1 rfl (.eq (by rw[Z]))
end
section
theorem Xw6{q N y V:Nat}{l:List Nat}(hw:Xar l)(hq:q+N<=l.length)(hN:N=(dig y).length+1)(j:y≠0)(hn40:N<=1099511627776)(hV:val ((l.drop q).take N)=V)(O:V<4294967296*y)(hy:(dig y).length<=549755813888):
 CN0 330 [.own 1000001 1 q N,.d (ws (dig y))] [(1000001,.arr 1 (l.map wd))] (·=.tup (.pr (.d (.int .u32 (V/y:Nat))) (.d (ws (dig (y*(V/y))))))):=by
 obtain⟨n,hn⟩:∃n,n=(dig y).length:=⟨_,rfl⟩
 rw[<-hn] at hN hy
 have hn0:n≠0:=λe=>j (Ypo.1 (by omega))
 obtain⟨t,ht,ht0⟩:∃t,(dig y)[n-1]?=some t/\t≠0:=by
  rcases Xhu y with Q | Q
  . exact absurd (Xsp.1 Q) j
  . rw[<-hn] at Q;exact Q
 have htb:=ww ht (Xae y)
 obtain⟨T,Z⟩:=xat (l:=l) (k:=q+n) (by omega)
 obtain⟨u1,hu1⟩:=xat (l:=l) (k:=q+(n-1)) (by omega)
 have hub0:=ww Z hw
 have hub1:=ww hu1 hw
 have hqB:V/y<4294967296:=by rw[W2t (W2p j)];exact O
 have hq00:=W0w (V/y)
 obtain⟨i,I⟩:∃i,i=T*2^32+u1:=⟨_,rfl⟩
 have o:i<18446744073709551616:=by omega
 have hest:V/y<=i/t:=by
  have e1:=Xca hu1
  rw[show n-1+1=n by omega] at e1
  have e2:=Xca Z
  rw[<-hN,hV,e1] at e2
  have e3:=Xac ht
  rw[show n-1+1=(dig y).length by omega,W2h,Xag] at e3
  have hlow:=Xby ((hw.drop q).take (n-1))
  rw[Xyc (by omega)] at hlow
  have hM:4294967296^n=4294967296^(n-1)*4294967296:=by rw[<-W1a];congr 1;omega
  rw[hM] at e2
  generalize 4294967296^(n-1)=M at *
  generalize val ((l.drop q).take (n-1))=low at *
  generalize val ((dig y).take (n-1))=vlow at *
  have Q:V<M*(i+1):=by
   have:M*(T*2^32+u1+1)=M*u1+M*4294967296*T+M:=by grind
   rw[I];omega
  have h2:M*t<=y:=by omega
  have hM0:0<M:=by omega
  have h3:V/y<=V/(M*t):=Nat.div_le_div_left h2 (W1m hM0 (W2p ht0))
  refine W0m h3 ?_
  rw[<-W6l]
  refine Nat.div_le_div_right ?_
  have:=(W2t hM0).2 (by rw[W1h];exact Q)
  omega
 refine EnW Tryz.func330 λ_ _ _ _=>?_
 refine Dw rfl ?_
 refine El n rfl (by omega) ?_ (by simp only[lw];omega)
 refine Ld (wd T) rfl (mp Z) ?_
 refine Go.Vm.Cv T rfl ?_
 refine Ar (T*2^32:Nat) rfl ?_ (Xig (n:=32) rfl (by omega) (by decide))
 refine Ar (n-1:Nat) rfl ?_ (wr (by simp only[lw];omega) (by simp only[inK];omega))
 refine El (n-1) rfl (by omega) ?_
 refine Ld (wd u1) rfl (mp hu1) ?_
 refine Go.Vm.Cv u1 rfl ?_
 refine Ar i rfl ?_ (Yb8 (by omega) (by omega) (by rw[Xdn u1 T 32 (by omega),I]) o)
 refine Ar (n-1:Nat) rfl ?_ (wr (by simp only[lw];omega) (by simp only[inK];omega))
 refine Ix (n-1) rfl (mp ht) ?_
 refine Go.Vm.Cv t rfl ?_
 have htt0:=W0w (i/t)
 have htt1:=W3o i t
 refine Ar (i/t:Nat) rfl ?_ (show _/\_ from⟨by omega,Ydp i t o⟩)
 refine Cu none (λg:Nat=>[(0,.own 1000001 1 q N),(1,.d (ws (dig y))),(7,.d (.int .u64 g))]) (λ_=>[(1000001,.arr 1 (l.map wd))]) (λg=>V/y<=g/\g<4294967296) rfl ?_ λg0 ⟨hg0,hgB⟩=>?_
 . refine By rfl (λh=>?_) λh=>?_
   . exact Jn 4294967295 [] rfl ⟨by omega,by decide⟩
   . exact Jn (i/t) [] rfl ⟨hest,by omega⟩
 refine Go.Vm.Cv g0 rfl ?_
 refine Ce (r:=.d (ws (dig (y*g0)))) rfl (by have:=Xto (Xae y) (Y:=[g0]) (.cons hgB .nil) (by omega) (by simp);rwa[Xag,show val [g0]=g0 by simp[val]] at this) ?_
 refine Lo (λg:Nat=>[(0,.own 1000001 1 q N),(1,.d (ws (dig y))),(7,.d (.int .u64 g)),(8,.d (ws (dig (y*g))))]) (λ_=>[(1000001,.arr 1 (l.map wd))]) (λg=>V/y<=g/\g<4294967296) (λg=>g) g0 [] rfl ⟨hg0,hgB⟩ λg ⟨hg,hgB⟩=>?_
 refine Cn [] rfl (Xht hw hq hn40) λv hv=>?_
 obtain⟨k,hk,rfl,hkl⟩:=hv
 rw[hV] at hkl
 refine Cn [] rfl (Xpb (by omega) hkl (by rw[<-hkl,Xyc (by omega)];omega)) λv hv=>?_
 obtain rfl:v=_:=hv
 refine By rfl (λh=>?_) λh=>?_
 . have hlt2:V<y*g:=Yaj.1 h
   have hg1:V/y<g:=by rw[W2t (W2p j),W1h];exact hlt2
   have hyg:y*g-y=y*(g-1):=by rw[Nat.mul_sub_one]
   have hle:y<=y*g:=W4i _ (by omega)
   have hlen:(dig (y*g)).length<=1099511627776:=by
    have Q:=Xll y g
    have h2:(dig g).length<=1:=Xat (by omega)
    omega
   refine Ar (g-1:Nat) rfl ?_
   refine Ce rfl (Xd6 hlen hle) ?_
   exact Bk (g-1) [] rfl ⟨by omega,by omega⟩ (by show g-1<g;omega) (by exact⟨by rw[hyg];rfl,rfl,rfl,rfl,rfl⟩)
 . have hge2:y*g<=V:=W4j λO=>h (Yaj.2 O)
   have hg2:g=V/y:=Nat.le_antisymm ((W7n (W2p j)).2 (by rw[W1h];exact hge2)) hg
   refine Go.Vm.Cv g rfl ?_
   exact Rw [] [(1000001,.arr 1 (l.map wd))] rfl (.tup (.cons (.rf rfl) (.one (.rf rfl) (λ_ _ e=>by cases e) (λ_ _ e=>by cases e)))) ⟨rfl,by rw[hg2];rfl⟩
theorem Xc8{x y:Nat}(hx:(dig x).length<=549755813888)(hy:(dig y).length<=549755813888)(hy0:y≠0): C0 279 [.d (ws (dig x)),.d (ws (dig y))] (·=.tup (.pr (.d (ws (dig (x/y)))) (.d (ws (dig (x%y)))))):=by
 refine En Tryz.func279 λ_ _ _=>?_
 refine Ce rfl (Xb6 (by omega)) ?_
 refine By rfl (λh=>?_) λh=>?_
 . have hlt:x<y:=Yaj.1 h
   exact RTt rfl (.cons (.nil (by rw[W4l hlt,Xan];rfl)) (.one (.eq (by rw[W4b hlt])) (λ_ _ e=>by cases e) (λ_ _ e=>by cases e)))
 have hge:y<=x:=W4j λhlt=>h (Yaj.2 hlt)
 have hlenle:=Xas hge
 refine By rfl (λh2=>?_) λh2=>?_<;>simp only[lw] at h2
 . have hx64:x<18446744073709551616:=by
    have:=Xdt x
    have h1:4294967296^(dig x).length<=4294967296^2:=W0p (by decide) (by omega)
    omega
   refine Ce rfl (Xqa (by omega)) ?_
   refine Ce rfl (Xqa (by omega)) ?_
   have hq64:x/y<18446744073709551616:=W1w (W3o ..) hx64
   have hr64:x%y<18446744073709551616:=W1w (Nat.mod_le ..) hx64
   refine Dw rfl ?_
   refine Ar (x/y:Nat) rfl ?_ (show _/\_ from⟨by omega,Ydp x y hx64⟩)
   refine Ce rfl (Xfw hq64) ?_
   refine Ar (x%y:Nat) rfl ?_ (show _/\_ from⟨by omega,Xr2 x y⟩)
   refine Ce rfl (Xfw hr64) ?_
   exact R0t
 refine By rfl (λh3=>?_) λh3=>?_<;>simp only[lw] at h3
 . obtain⟨t,ht⟩:=xat (l:=dig y) (k:=0) (by omega)
   have htb:=ww ht (Xae y)
   have hyt:y=t:=by
    have:=Xac ht
    rw[W0b (by omega),Xag] at this
    simpa [val] using this
   have hrt:x%t<t:=W1s _ (by omega)
   have hr0:=W0w (x%t)
   refine Ix 0 rfl (mp ht) ?_
   refine Ce rfl (Yn4 (y:=t) hx htb (by omega)) ?_
   refine Go.Vm.Cv (x%t:Nat) rfl ?_
   refine Ce rfl (Xfw (n:=x%t) (by omega)) ?_
   exact RTt rfl (.cons (.eq (by rw[hyt])) (.one (.eq (by rw[hyt])) (λ_ _ e=>by cases e) (λ_ _ e=>by cases e)))
 have hy1:1<=(dig y).length:=by
  have:(dig y).length≠0:=λh=>hy0 (Ypo.1 h)
  omega
 refine Ar (32*(dig y).length:Nat) rfl ?_ (wr (by simp only[lw];omega) (by simp only[inK];omega))
 refine Ca rfl (Xmw (by omega) hy0) λv hv=>?_
 obtain⟨t,ht,ht0,htb,rfl⟩:=hv
 obtain⟨bb1,bb2,bb3⟩:=Xcq ht0
 have hb32:bl t<=32:=by
  have:2^(bl t-1)<2^32:=W1w bb1 htb
  have:=(W2w (by decide:1<2)).1 this
  omega
 obtain⟨s,hs⟩:∃s,s=32-bl t:=⟨_,rfl⟩
 have hs32:s<32:=by omega
 have hs1:2147483648<=t*2^s:=by
  have h1:=W0k (2^(32-bl t)) bb1
  rw[<-W0z,show bl t-1+(32-bl t)=31 by omega] at h1
  rw[hs];exact h1
 have hs2:t*2^s<4294967296:=by
  have h1:=W3d bb2 (W0u (32-bl t))
  rw[<-W0z,show bl t+(32-bl t)=32 by omega] at h1
  rw[hs];exact h1
 refine Ar s rfl ?_
 obtain⟨hlen,t',ht',htt⟩:=Xqy hy0 ht hs1 hs2
 refine Co rfl (Xe1 hx hs32) λv ob hv=>?_
 obtain⟨o,hul,huw,huv,rfl,rfl⟩:=hv
 refine Ca rfl (Xmi hy hs32) λv hv=>?_
 obtain⟨lv,hvl,hvw,hvv,rfl⟩:=hv
 obtain⟨Y,hY⟩:∃Y,Y=y*2^s:=⟨_,rfl⟩
 rw[<-hY] at hlen hvv
 refine Ce (r:=.d (ws (dig Y))) rfl (by have:=Xa6 hvw (by omega);rwa[hvv] at this) ?_
 obtain⟨I,hmv⟩:∃I,I=(dig Y).length:=⟨_,rfl⟩
 obtain⟨m,hm⟩:∃m,m=(dig x).length:=⟨_,rfl⟩
 refine Mk m rfl (by simp only[lw];omega) ?_ (by simp only[lw,hm])
 refine Ar ((o.length-I:Nat)-1:Int) rfl ?_ (wr (by simp only[lw];omega) (by simp only[inK];omega))
 have hY0:Y≠0:=by rw[hY];exact W7q hy0 (W7w.1 (W0u s))
 have hYl:=Xdt Y
 have hR0:val (o.drop (o.length-I))<Y:=by
  have h1:=Xbq o (o.length-I) (by omega)
  rw[huv] at h1
  have h2:=Xrk hy0
  have h3:=Xdt x
  have hp:=W0u s
  apply W1b
  intro hn2
  have h4:4294967296^(o.length-I)*Y<=x*2^s:=by
   rw[h1]
   have:=W0v (4294967296^(o.length-I)) (W4j hn2)
   omega
  rw[hY,<-W0y] at h4
  have h5:=Nat.le_of_mul_le_mul_right h4 hp
  have h6:=W0v (4294967296^(o.length-I)) h2
  rw[<-W0z,show o.length-I+((dig y).length-1)=(dig x).length by omega] at h6
  omega
 refine Lo (λ(k,O,lq)=>[(10,.d (.int .i64 s)),(11,.own 63 1 0 o.length),(12,.d (ws (dig Y))),(13,.own 70 1 0 m),(14,.d (.int .i64 ((k:Nat)-1:Int)))]) (λ(_,O,lq)=>[(63,.arr 1 (O.map wd)),(70,.arr 1 (lq.map wd))])
  (λ(k,O,lq)=>k<=o.length-I/\O.length=o.length/\Xar O/\lq.length=m/\Xar lq/\(∀j,j<k->O[j]?=o[j]?)/\val (O.drop k)<Y/\val (lq.drop k)*Y+val (O.drop k)=val (o.drop k)) (λ(k,_,_)=>k) (o.length-I,o,List.replicate m 0) [] rfl
  ⟨by omega,rfl,huw,by simp,Xfv _,λ_ _=>rfl,hR0,by rw[List.drop_replicate,Xbx];simp⟩ ?_ (by exact⟨rfl,by simp only[W2j];rfl,rfl,rfl,rfl⟩)
 rintro⟨k,O,lq⟩ ⟨hk,hln,hwu,hlq,hwq,hsame,Z,hQR⟩
 refine By rfl (λh=>?_) λh=>?_
 . obtain⟨hwin,hUlt⟩:=Ybc (n:=I) (i:=k-1) (Y:=Y) hwu (by omega) (by rw[show k-1+1=k by omega];exact Z) (by rw[hmv];exact W2f hYl)
   obtain⟨U,hU⟩:∃U,U=val (O.drop (k-1)):=⟨_,rfl⟩
   rw[<-hU] at hwin hUlt
   have hqB:U/Y<4294967296:=by rw[W2t (W2p hY0)];exact hUlt
   have hqz0:0<=U/Y:=W0w _
   have hUlt2:U%Y<Y:=W1s _ (W2p hY0)
   have eN:k-1+I+1-(k-1)=I+1:=by omega
   refine Ar (k-1+I:Nat) rfl ?_ (wr (by simp only[lw];omega) (by simp only[inK];omega))
   refine Ar (k-1+I+1:Nat) rfl ?_
   refine Sw (k-1) (k-1+I+1) rfl (by omega) (by omega) ?_
   have hwin2:val ((O.drop (0+(k-1))).take (k-1+I+1-(k-1)))=U:=by rw[W1l,eN];exact hwin.symm
   refine Cn [(1000001,63)] rfl (Xw6 (l:=O) (q:=0+(k-1)) (N:=k-1+I+1-(k-1)) (V:=U) hwu (by omega) (by omega) hY0 (by omega) hwin2 hUlt (by omega)) λv hv=>?_
   obtain rfl:v=_:=hv
   refine Eo (k-1) rfl (by omega) ?_
   refine Sto rfl (by simp only[lw];omega) ms ?_
   refine Cn [(1000001,63)] rfl (Xht (l:=O) (q:=0+(k-1)) (n:=k-1+I+1-(k-1)) hwu (by omega) (by omega)) λv hv=>?_
   obtain⟨k2,hk2,rfl,hkl⟩:=hv
   rw[hwin2] at hkl
   have hUY:Y*(U/Y)<=U:=Nat.mul_div_le U Y
   have hUmod:U-Y*(U/Y)=U%Y:=by have:=W2q U Y;omega
   refine Cn [(1000001,63)] rfl (Xvd (l:=O) (q:=0+(k-1)) (m:=k2) (by omega) hkl (by rw[<-hkl,Xyc (by omega)];omega) hUY) λv hv=>?_
   rw[hUmod] at hv
   obtain rfl:v=_:=hv
   have hdlen:=Xas (W2f hUlt2)
   refine Lo (λ(i,lo)=>[(10,.d (.int .i64 s)),(11,.own 63 1 0 o.length),(12,.d (ws (dig Y))),(13,.own 70 1 0 m),(14,.d (.int .i64 ((k:Nat)-1:Int))),(15,.own 63 1 (0+(k-1)) (k-1+I+1-(k-1))),(18,.d (ws (dig (U%Y)))),(19,.d (.int .i64 (i:Nat)))]) (λ(_,lo)=>[(63,.arr 1 (lo.map wd)),(70,.arr 1 ((lq.set (k-1) (U/Y)).map wd))])
    (λ(i,lo)=>i<=I+1/\lo.length=o.length/\Xar lo/\(∀j,(j<k-1\/k-1+i<=j)->lo[j]?=O[j]?)/\val ((lo.drop (k-1)).take i)=val ((dig (U%Y)).take i)) (λ(i,_)=>I+1-i) (0,O) [] rfl
    ⟨by omega,hln,hwu,λ_ _=>rfl,rfl⟩ ?_
   rintro⟨i,lo⟩ ⟨hi,hlo,hwo,Q,T⟩
   refine By rfl (λh1=>?_) λh1=>?_
   . refine El i rfl (by omega) ?_
     refine Sto rfl (by simp only[lw];omega) (ms (f:=wd) (u:=0)) ?_
     have eJ:0+(k-1)+i=k-1+i:=by omega
     refine Cu none (λg:Nat=>[(10,.d (.int .i64 s)),(11,.own 63 1 0 o.length),(12,.d (ws (dig Y))),(13,.own 70 1 0 m),(14,.d (.int .i64 ((k:Nat)-1:Int))),(15,.own 63 1 (0+(k-1)) (k-1+I+1-(k-1))),(18,.d (ws (dig (U%Y)))),(19,.d (.int .i64 i))]) (λg=>[(63,.arr 1 ((lo.set (k-1+i) g).map wd)),(70,.arr 1 ((lq.set (k-1) (U/Y)).map wd))])
      (λg=>g<4294967296/\val ((dig (U%Y)).take (i+1))=val ((dig (U%Y)).take i)+4294967296^i*g) rfl ?_ λg ⟨hgb,hg⟩=>?_
     . refine By rfl (λh2=>?_) λh2=>?_<;>simp only[lw] at h2
       . obtain⟨w,hw⟩:=xat (l:=dig (U%Y)) (k:=i) (by omega)
         have hwb:=ww hw (Xae (U%Y))
         refine Ix i rfl (mp hw) ?_
         refine El i rfl (by omega) ?_
         refine Sto rfl (by simp only[lw,W3p];omega) ms ?_
         exact Jn w [] rfl ⟨hwb,Xac hw⟩ (by exact⟨rfl,by rw[List.set_set,eJ];rfl,rfl,rfl,rfl⟩)
       . exact Jn 0 [] rfl ⟨by decide,by rw[Xgv (by omega)];rfl⟩ (by exact⟨rfl,by rw[eJ];rfl,rfl,rfl,rfl⟩)
     refine Ar (i+1:Nat) rfl ?_
     exact Bk (i+1,lo.set (k-1+i) g) [] rfl ⟨by omega,by simp[hlo],Xhl hwo hgb,λj hj=>by rw[W2a (by omega)];exact Q j (by omega),by rw[Xfy (by omega),T,hg]⟩ (by show I+1-(i+1)<I+1-i;omega)
   . have hik:i=I+1:=by omega
     subst hik
     rw[W0b (l:=dig (U%Y)) (by omega),Xag] at T
     have hab:val (lo.drop (k-1))=U%Y:=by
      have g1:=Xbq (lo.drop (k-1)) (I+1) (by rw[W1k];omega)
      have g2:=Xbq (O.drop (k-1)) (I+1) (by rw[W1k];omega)
      have g3:(lo.drop (k-1)).drop (I+1)=(O.drop (k-1)).drop (I+1):=by
       rw[W6a,W6a]
       exact Xe7 λj hj=>Q j (.inr hj)
      rw[<-hU,<-hwin] at g2
      rw[g1,T,g3]
      omega
     obtain⟨w,hw⟩:=xat (l:=O) (k:=k-1) (by omega)
     have hw2:o[k-1]?=some w:=by rw[<-hsame (k-1) (by omega)];exact hw
     have hfin:val ((lq.set (k-1) (U/Y)).drop (k-1))*Y+val (lo.drop (k-1))=val (o.drop (k-1)):=by
      have g1:=Xb0 hw
      have g2:=Xb0 hw2
      have g3:=Xb0 (l:=lq.set (k-1) (U/Y)) (k:=k-1) (W2x (by omega))
      have g4:(lq.set (k-1) (U/Y)).drop (k-1+1)=lq.drop (k-1+1):=Xe7 λj hj=>W2a (by omega)
      rw[show k-1+1=k by omega] at g1 g2 g3 g4
      rw[hab,g2,g3,g4,<-hQR,W1c,W0y,W1f]
      have g5:=W2q U Y
      rw[W1h] at g5
      rw[<-hU] at g1
      omega
     refine Ar ((k-1:Nat)-1:Int) rfl ?_
     exact Bk (k-1,lo,lq.set (k-1) (U/Y)) [] rfl ⟨by omega,hlo,hwo,by simp[hlq],Xhl hwq hqB,λj hj=>(Q j (.inl hj)).trans (hsame j (by omega)),by rw[hab];exact hUlt2,hfin⟩ (by show k-1<k;omega)
 . have hk0:k=0:=by omega
   subst hk0
   rw[W1e] at Z hQR
   rw[W1e,W1e,huv] at hQR
   obtain⟨hQ,hR⟩:=Xw4 hY.symm hQR Z
   refine Fz 25 13 (lq.map wd) rfl (by simp only[lw];omega) (oa hlq) ?_
   refine Fz 25 11 (O.map wd) rfl (by simp only[lw];omega) (oa hln) ?_
   refine Ce rfl (Xa6 hwq (by omega)) ?_
   refine Ce rfl (Xa6 hwu (by omega)) ?_
   refine Ce rfl (Ygc (by have:=Xas (W2f Z);omega) hs32) ?_
   exact RTt rfl (.cons (.eq (by rw[hQ])) (.one (.eq (by rw[hR,Nat.mul_div_cancel _ (W0u s)])) (λ_ _ e=>by cases e) (λ_ _ e=>by cases e)))
end
section
theorem GCD_ok{a b:Int}(ha:(dig a.natAbs).length<=549755813888)(hb:(dig b.natAbs).length<=549755813888): C0 219 [.d (dz a),.d (dz b)] (·=.d (dz (Int.gcd a b))):=by
 refine En Tryz.func219 λ_ _ _=>?_
 refine Dw rfl ?_
 refine Ce rfl (trim_dig_ok (by omega)) ?_
 refine Ce rfl (trim_dig_ok (by omega)) ?_
 refine Lo (λ((x,y):Nat×Nat)=>[(4,.ptr 4 0),(5,.d (ws (dig x))),(6,.d (ws (dig y)))]) (λ_=>[(4,.var (.st (.pr (.b false) .nil)))]) (λ(x,y)=>Nat.gcd x y=Int.gcd a b/\(dig x).length<=549755813888/\(dig y).length<=549755813888) (λ(_,y)=>y) (a.natAbs,b.natAbs) [] rfl ⟨rfl,ha,hb⟩ λ⟨x,y⟩ ⟨i,I,j⟩=>?_
 refine By rfl (λo=>?_) λo=>?_<;>simp only[lw] at o
 . have h0:y≠0:=λe=>by have:=Ypo.2 e;omega
   have h:=W1s x (W2p h0)
   refine Ce rfl (Xc8 I j h0) ?_
   exact Bk (y,x%y) [] rfl ⟨by rw[<-i,W7f y,<-Nat.gcd_rec,W7f],j,W0m (Xas (W2f h)) j⟩ h
 . have h0:y=0:=Ypo.1 (by omega)
   subst h0
   rw[Nat.gcd_zero_right] at i
   refine Ce rfl (Xao (b:=false) (by omega)) ?_
   exact R1 rfl (.eq (by rw[Xhx,i]))
theorem Xws{z b q r:Int}(e:b*q+r=z)(h:(0<=r/\r<b)\/(b<r/\r<=0)): z.fdiv b=q/\z.fmod b=r:=by
 rcases h with ⟨i,j⟩ | ⟨i,j⟩
 . rw[W1t _ (by omega),W5u _ (by omega)]
   exact(W7r (a:=z) (b:=b) (by omega)).2 ⟨by rw[Int.add_comm];exact e,i,j⟩
 . have o:(-z).fdiv (-b)=q/\(-z).fmod (-b)=-r:=by
    rw[W1t _ (by omega),W5u _ (by omega)]
    exact(W7r (a:=-z) (b:=-b) (by omega)).2 ⟨by rw[<-e,Int.neg_mul];omega,by omega,by omega⟩
   rw[W7m,Int.neg_fmod_neg] at o
   exact⟨o.1,by omega⟩
theorem qr0{z b:Int}(hb:b≠0): z-sg (decide (z<0) != decide (b<0)) (z.natAbs/b.natAbs)*b=sg (decide (z<0)) (z.natAbs%b.natAbs):=by
 have e:=W2q z.natAbs b.natAbs
 have i:z=sg (decide (z<0)) z.natAbs:=by unfold sg;by_cases h:z<0<;>simp[h]<;>omega
 have hb:b=sg (decide (b<0)) b.natAbs:=by unfold sg;by_cases h:b<0<;>simp[h]<;>omega
 generalize decide (z<0)=dz at *
 generalize decide (b<0)=j at *
 generalize z.natAbs=A at *
 generalize b.natAbs=B at *
 generalize A/B=q at *
 generalize A%B=r at *
 have o:(A:Int)=(B:Int)*q+r:=by rw[<-e];push_cast;rfl
 subst i
 subst hb
 cases dz<;>cases j<;>simp[sg,o]<;>grind
theorem Xob(b:Bool)(n:Nat): (sg b n).natAbs=n:=by cases b<;>simp[sg]
theorem Yc1{z b:Int}(hb:b≠0)(h:Xbb (sg (decide (z<0)) (z.natAbs%b.natAbs)) 0*Xbb b 0<0):
 sg (decide (z<0) != decide (b<0)) (z.natAbs/b.natAbs)-1=z.fdiv b/\sg (decide (z<0)) (z.natAbs%b.natAbs)+b=z.fmod b:=by
 have h0:=@qr0 z b hb
 have i:=Xob (decide (z<0)) (z.natAbs%b.natAbs)
 have j:=W1s z.natAbs (y:=b.natAbs) (by omega)
 generalize sg (decide (z<0)) (z.natAbs%b.natAbs)=r at *
 generalize sg (decide (z<0) != decide (b<0)) (z.natAbs/b.natAbs)=q at *
 have:=Xws (z:=z) (b:=b) (q:=q-1) (r:=r+b) (by rw[<-Int.sub_add_cancel z (q*b),h0];grind) (by
  unfold Xbb at h
  repeat' split at h
  all_goals first | omega | (left;omega) | (right;omega))
 exact⟨this.1.symm,this.2.symm⟩
theorem Yc2{z b:Int}(hb:b≠0)(h:¬Xbb (sg (decide (z<0)) (z.natAbs%b.natAbs)) 0*Xbb b 0<0):
 sg (decide (z<0) != decide (b<0)) (z.natAbs/b.natAbs)=z.fdiv b/\sg (decide (z<0)) (z.natAbs%b.natAbs)=z.fmod b:=by
 have h0:=@qr0 z b hb
 have i:=Xob (decide (z<0)) (z.natAbs%b.natAbs)
 have j:=W1s z.natAbs (y:=b.natAbs) (by omega)
 generalize sg (decide (z<0)) (z.natAbs%b.natAbs)=r at *
 generalize sg (decide (z<0) != decide (b<0)) (z.natAbs/b.natAbs)=q at *
 have:=Xws (z:=z) (b:=b) (q:=q) (r:=r) (by rw[<-Int.sub_add_cancel z (q*b),h0];grind) (by
  unfold Xbb at h
  repeat' split at h
  all_goals first | omega | (left;omega) | (right;omega))
 exact⟨this.1.symm,this.2.symm⟩
theorem Yak(a b c d:Int): -1<=Xbb a b*Xbb c d/\Xbb a b*Xbb c d<=1:=by
 unfold Xbb;repeat' split
 all_goals omega
theorem DivMod_ok{a b:Int}(ha:(dig a.natAbs).length<=549755813888)(hb:(dig b.natAbs).length<=549755813888)(i:b≠0): C0 281 [.d (dz a),.d (dz b)] (·=.tup (.pr (.d (dz (a.fdiv b))) (.pr (.d (dz (a.fmod b))) (.d (.int .i64 0))))):=by
 have o:(dig (a.natAbs/b.natAbs)).length<=549755813888:=W0m (Xas (W3o ..)) ha
 have I:(dig (a.natAbs%b.natAbs)).length<=549755813888:=W0m (Xas (Nat.mod_le ..)) ha
 have j:(dig (sg (decide (a<0) != decide (b<0)) (a.natAbs/b.natAbs)*b).natAbs).length<=549755813888:=by
  rw[W3s,Xob]
  exact W0m (Xas (W6w ..)) ha
 refine En Tryz.func281 λ_ _ _=>?_
 refine Dw rfl ?_
 refine Ce rfl (Norm_ok (by omega)) ?_
 refine Ce rfl (Norm_ok (by omega)) ?_
 refine No rfl (by simp only[lw];have:=@Ypo b.natAbs;omega) ?_
 refine Ce rfl (Xc8 ha hb (by omega)) ?_
 refine Ce rfl (Xao (by omega)) ?_
 refine Dw rfl ?_
 refine Ce (r:=.d (dz (sg (decide (a<0) != decide (b<0)) (a.natAbs/b.natAbs)*b))) rfl (by rw[Yc9];exact Mul_ok (by rw[Xob];exact o) hb) ?_
 refine Ce rfl (Sub_ok ha j) ?_
 have h0:=qr0 (z:=a) i
 refine Dw rfl ?_
 refine Ce rfl (Sign_ok (by rw[h0,Xob];omega)) ?_
 refine Ce rfl (Sign_ok (by omega)) ?_
 have O:=Yak (sg (decide (a<0)) (a.natAbs%b.natAbs)) 0 b 0
 rw[<-h0] at O
 refine Ar (Xbb (a-sg (decide (a<0) != decide (b<0)) (a.natAbs/b.natAbs)*b) 0*Xbb b 0) rfl ?_
 refine By rfl (λh=>?_) λh=>?_<;>rw[h0] at h
 . refine Dw rfl ?_
   refine Ce rfl (FromInt_ok (z:=1) (by decide)) ?_
   refine Ce (r:=.d (dz (sg (decide (a<0) != decide (b<0)) (a.natAbs/b.natAbs)-1))) rfl (by rw[Yc9];exact Sub_ok (by rw[Xob];omega) (W0m (@Xat 1 1 (by decide)) (by decide))) ?_
   refine Ce rfl (Add_ok (by rw[h0,Xob];omega) hb) ?_
   refine Dz rfl ?_
   exact RTt rfl (.cons (.eq (by rw[(Yc1 i h).1];rfl)) (.cons (.eq (by rw[h0,(Yc1 i h).2];rfl)) (.one (.rf rfl) (λ_ _ e=>by cases e) (λ_ _ e=>by cases e))))
 . refine Dz rfl ?_
   exact RTt rfl (.cons (.eq (by rw[Yc9,(Yc2 i h).1];rfl)) (.cons (.eq (by rw[h0,(Yc2 i h).2];rfl)) (.one (.rf rfl) (λ_ _ e=>by cases e) (λ_ _ e=>by cases e))))
theorem Xpp{z:Int}(o:(dig z.natAbs).length<=549755813888): C0 352 [.d (dz z)] λv=>∃B:Nat,v=.d (.int .i64 B)/\z.natAbs<2^B/\B<=32*(dig z.natAbs).length:=by
 refine En Tryz.func352 λ_ _ _=>?_
 refine Ce rfl (trim_dig_ok (by omega)) ?_
 by_cases h0:z.natAbs=0
 . refine Ce (r:=.d (.int .i64 0)) rfl (by
    rw[h0,Xan]
    refine En Tryz.func328 λ_ _ _=>?_
    refine Yes rfl rfl ?_
    exact R0) ?_
   exact Rt rfl (.one (.rf rfl) rfl rfl) ⟨0,rfl,by rw[h0];decide,W0w _⟩
 . refine Ca rfl (Xmw (by omega) h0) λv j=>?_
   obtain⟨t,i,_,h,rfl⟩:=j
   have I:=(W0n.1 i).1
   have O:=Xxr h
   exact Rt rfl (.one (.rf rfl) rfl rfl) ⟨_,rfl,Xpv rfl (by omega) i,by omega⟩
theorem Xxt{l:List Nat}{i w:Nat}(T:Xar l)(o:l[i/32]?=some w)(h:val l%2^(i+1)=0): w%2^(i%32+1)=0:=by
 have h0:=Xfz o
 have hj:i/32<l.length:=(W0n.1 o).1
 have j:=Xby (T.take (i/32))
 rw[W0f,show min (i/32) l.length=i/32 by omega] at j
 have hp:4294967296^(i/32)*2^(i%32+1)=2^(i+1):=by
  rw[show (4294967296:Nat)=2^32 from rfl,<-W5z,<-W0z];congr 1;omega
 obtain⟨c,I⟩:=W5a h
 rw[<-hp,W0y] at I
 generalize 4294967296^(i/32)=B at *
 generalize val (l.drop (i/32+1))=R at *
 have O:w+4294967296*R=2^(i%32+1)*c:=by
  have Q:0<B:=by omega
  have V:(val (l.take (i/32))+B*(w+4294967296*R))/B=w+4294967296*R:=by
   rw[W6s _ _ Q,W4l j,W1l]
  have Z:B*(2^(i%32+1)*c)/B=2^(i%32+1)*c:=W7i _ Q
  rw[<-V,<-h0,I,Z]
 have e2:(4294967296:Nat)=2^(i%32+1)*2^(31-i%32):=by
  rw[<-W0z,show i%32+1+(31-i%32)=32 by omega]
 rw[e2,W0y] at O
 have e3:(w+2^(i%32+1)*(2^(31-i%32)*R))%2^(i%32+1)=0:=by rw[O,Nat.mul_mod_right]
 rwa[W5h] at e3
theorem Xuy{w s:Nat}(h:w%2^(s+1)=0): w|||2^s=w+2^s:=by
 obtain⟨c,rfl⟩:=W5a h
 rw[W1h]
 exact Xdn (2^s) c (s+1) (W3x (by decide) (W7l s))
theorem Ygg{w s:Nat}(h:w%2^(s+1)=0): (w+2^s)&&&2^s=2^s:=by
 obtain⟨c,rfl⟩:=W5a h
 have e:(2^(s+1)*c+2^s)/2^s=2*c+1:=by
  rw[W1a,show 2^s*2*c+2^s=2^s*(2*c+1) by rw[W1f,W0y,W4f]]
  exact W7i _ (W0u s)
 have j:(2^(s+1)*c+2^s).testBit s=true:=by
  rw[Nat.testBit_eq_decide_div_mod_eq,e]
  simp
 apply Nat.eq_of_testBit_eq
 intro i
 rw[Nat.testBit_and]
 by_cases hi:s=i
 . subst hi;rw[j,Bool.true_and]
 . rw[Nat.testBit_two_pow_of_ne hi,Bool.and_false]
theorem Xsx{w s:Nat}(i:w<4294967296)(hs:s<32)(h:w%2^(s+1)=0): w+2^s<4294967296:=by
 rw[<-Xuy h]
 exact Nat.or_lt_two_pow (n:=32) i (W0x (W3x (by decide) hs) (by decide))
theorem Yd3{l:List Nat}{i w x:Nat}(h:l[i/32]?=some w)(o:x=w+2^(i%32)): val (l.set (i/32) x)=val l+2^i:=by
 have I:i/32<l.length:=(W0n.1 h).1
 have h0:=Xfz h
 have O:=Xfz (l:=l.set (i/32) x) (j:=i/32) (x:=x) (by rw[W2x I])
 rw[O,h0,List.take_set_of_le (W0a _),List.drop_set_of_lt (by omega),o,<-Xil i]
 grind
theorem Yf4{w s:Nat}(hw:w+2^s<4294967296)(h:w%2^(s+1)=0): arB .andNot .u32 (w+2^s:Nat) (2^s:Nat) w:=by
 have hp:=W0u s
 have e:=Ygg h
 show IntKind.u32.wrap _=_
 have Q:(BitVec.ofInt 32 ((w+2^s:Nat):Int) &&& ~~~BitVec.ofInt 32 ((2^s:Nat):Int)).toNat=w:=by
  have T:(BitVec.ofInt 32 ((w+2^s:Nat):Int)).toNat=w+2^s:=by rw[BitVec.toNat_ofInt];omega
  have V:(BitVec.ofInt 32 ((2^s:Nat):Int)).toNat=2^s:=by rw[BitVec.toNat_ofInt];omega
  apply Nat.eq_of_testBit_eq
  intro i
  rw[BitVec.toNat_and,BitVec.toNat_not,T,V,Nat.testBit_and]
  have I:=congrArg (·.testBit i) e
  simp only[Nat.testBit_and] at I
  have O:=Xuy h
  rw[<-O,Nat.testBit_or]
  have Z:(2^32-1-2^s).testBit i=(decide (i<32) && !(2^s).testBit i):=by
   have:=Nat.testBit_two_pow_sub_succ (x:=2^s) (n:=32) (by omega) i
   rwa[show 2^32-(2^s+1)=2^32-1-2^s by omega] at this
  rw[Z]
  by_cases hi:i<32
  . rw[decide_eq_true hi,Bool.true_and]
    by_cases j:s=i
    . subst j
      rw[<-O,Nat.testBit_or] at I
      have o:w.testBit s=false:=by
       obtain⟨c,rfl⟩:=W5a h
       rw[Nat.testBit_eq_decide_div_mod_eq,W1a,W0y,W7i _ hp]
       simp
      rw[o,Nat.testBit_two_pow_self];rfl
    . rw[Nat.testBit_two_pow_of_ne j];simp
  . rw[decide_eq_false hi]
    have:w.testBit i=false:=Nat.testBit_lt_two_pow (W0x (by omega:w<2^32) (W0p (by decide) (by omega)))
    rw[this];simp
 rw[show IntKind.bits .u32=32 from rfl,Q]
 exact wW (by omega)
theorem Sqrt_ok{a:Nat}(hl:(dig a).length<=274877906944): C0 334 [.d (dz (a:Int))] (·=.tup (.pr (.d (dz (rt a:Int))) (.d (.int .i64 0)))):=by
 have ha:dz (a:Int)=.st (.pr (.bool (decide ((a:Int)<0))) (ws (dig a))):=rfl
 have hbits:=λ(B n:Nat) (hB:a<2^B) (hn:B<=2*n)=>W0x hB (W0p (by decide) hn:2^B<=2^(2*n))
 refine En Tryz.func334 λ_ _ _=>?_
 refine Ce rfl (Norm_ok (by simp only[W1j];omega)) ?_
 refine No rfl (by omega) ?_
 refine Ca rfl (Xpp (z:=(a:Int)) (by simp only[W1j];omega)) λv hv=>?_
 obtain⟨B,rfl,hB1,hB2⟩:=hv
 simp only[W1j] at hB1 hB2
 obtain⟨n,hn⟩:∃n,n=(B+1)/2:=⟨_,rfl⟩
 refine Ar (B+1:Nat) rfl ?_
 refine Ar n rfl ?_ (show _/\_ from⟨by decide,by rw[show Int.tdiv ((B+1:Nat):Int) 2=(((B+1)/2:Nat):Int) from rfl,<-hn];exact wI (by omega)⟩)
 refine Ar (n/32:Nat) rfl ?_ (show _/\_ from⟨by decide,by rw[show Int.tdiv (n:Int) 32=((n/32:Nat):Int) from rfl];exact wI (by omega)⟩)
 refine Ar (n/32+1:Nat) rfl ?_
 refine Mk (n/32+1) rfl (by omega) ?_
 refine Ar (n-1:Int) rfl ?_
 refine Lo (λ(k,lo)=>[(1,.ptr 1 0),(2,.ptr 2 0),(5,.own 19 1 0 (n/32+1)),(6,.d (.int .i64 ((k:Nat)-1:Int)))]) (λ(_,lo)=>[(1,.var (.d (dz (a:Int)))),(2,.var (.st (.pr (.b false) .nil))),(19,.arr 1 (lo.map wd))])
  (λ(k,lo)=>k<=n/\lo.length=n/32+1/\Xar lo/\val lo%2^k=0/\val lo*val lo<=a/\a<(val lo+2^k)*(val lo+2^k)) (λ(k,_)=>k) (n,List.replicate (n/32+1) 0) [] rfl
  ⟨by omega,by simp,Xfv _,by rw[Xbx];simp,by rw[Xbx];omega,by rw[Xbx,W1l,<-W0z,<-Nat.two_mul];exact hbits B n hB1 (by omega)⟩ ?_ (by exact⟨rfl,by simp only[W2j];rfl,rfl,rfl,rfl⟩)
 rintro⟨k,lo⟩ ⟨hk,hlo,O,Q,Z,hsq2⟩
 refine By rfl (λh=>?_) λh=>?_
 . obtain⟨i,rfl⟩:∃i,k=i+1:=⟨k-1,by omega⟩
   obtain⟨w,hw⟩:=xat (l:=lo) (k:=i/32) (by omega)
   have hww:=ww hw O
   have hwc:=Xxt O hw Q
   have hwb:=Xsx hww (by omega) hwc
   have V:=Yd3 hw rfl
   have T:=Xhl (k:=i/32) O hwb
   obtain⟨j,o⟩:∃j,j=lo.set (i/32) (w+2^(i%32)):=⟨_,rfl⟩
   rw[<-o] at V T
   have hl1:j.length=n/32+1:=by rw[o,W3p,hlo]
   have hlen1:(dig (val j)).length<=549755813888:=by
    have h1:=Xat (Xby T)
    omega
   have I:arB .quo .i64 (((i+1:Nat):Int)-1) 32 (i/32:Nat):=show _/\_ from⟨by decide,by rw[show (((i+1:Nat):Int)-1)=(i:Int) by omega,show Int.tdiv (i:Int) 32=((i/32:Nat):Int) from rfl];exact wI (by omega)⟩
   have hr32:arB .rem .i64 (((i+1:Nat):Int)-1) 32 (i%32:Nat):=show _/\_ from⟨by decide,by rw[show (((i+1:Nat):Int)-1)=(i:Int) by omega];exact Xr2 i 32⟩
   refine Dw rfl ?_
   refine Ar (i/32:Nat) rfl ?_ I
   refine Ar (i/32:Nat) rfl ?_ I
   refine Eo (i/32) rfl (by omega) ?_
   refine Ld (wd w) rfl (mp hw) ?_
   refine Ar (i%32:Nat) rfl ?_ hr32
   refine Ar (2^(i%32):Nat) rfl ?_ (Xf4 (by omega))
   refine Ar (w+2^(i%32):Nat) rfl ?_ (Ylu hww Yei (Xuy hwc) hwb)
   refine Eo (i/32) rfl (by omega) ?_
   refine Sto rfl (by simp only[lw];omega) ms ?_
   refine Cu none (λ_:Unit=>[(1,.ptr 1 0),(2,.ptr 2 0),(5,.own 19 1 0 (n/32+1)),(6,.d (.int .i64 (((i+1:Nat):Int)-1))),(47,.b (dc (a<val j*val j)))]) (λ_=>[(1,.var (.d (dz (a:Int)))),(2,.var (.st (.pr (.b false) .nil))),(19,.arr 1 (j.map wd))]) (λ_=>True) rfl ?_ λ_ _=>?_
   . refine Dw rfl ?_
     refine Cn [(1000001,19)] rfl (Xht (l:=j) (q:=0) (n:=n/32+1) T (by omega) (by omega)) (λv hv=>?_) rfl (by rw[o];rfl)
     obtain⟨k1,hk1,rfl,hkl⟩:=hv
     refine Cn [(1000001,19)] rfl (Xht (l:=j) (q:=0) (n:=n/32+1) T (by omega) (by omega)) (λv hv=>?_) rfl (by rw[o];rfl)
     obtain⟨k2,hk2,rfl,hkl2⟩:=hv
     rw[show (j.drop 0).take (n/32+1)=j from W0b (by simp[hl1])] at hkl hkl2
     obtain rfl:k2=k1:=by
      have e1:=congrArg List.length hkl
      have e2:=congrArg List.length hkl2
      rw[Xyc (by omega)] at e1 e2
      omega
     refine Cn [(1000001,19)] rfl (Xtp (l:=j) (q:=0) (n:=k2) (by omega) hkl hlen1) (λv hv=>?_) rfl (by rw[o];rfl)
     obtain rfl:v=_:=hv
     refine Ce rfl (Xb6 (y:=a) (W0m (Xll ..) (by omega))) ?_
     refine Jn () [] rfl trivial (by exact⟨by
      rw[show (Xbb ((val j*val j:Nat):Int) (a:Int)>0)=(a<val j*val j) from propext (by
       rcases Xaz ((val j*val j:Nat):Int) (a:Int) with ⟨g1,g2⟩ | ⟨g1,g2⟩ | ⟨g1,g2⟩<;>rw[g2]<;>omega)]
      rfl,by rw[o];rfl,rfl,rfl,rfl⟩)
   refine By rfl (λh1=>?_) λh1=>?_
   . have hw2:j[i/32]?=some (w+2^(i%32)):=by rw[o,W2x (by omega)]
     have hback:j.set (i/32) w=lo:=by
      rw[o,List.set_set]
      apply W4c
      intro q
      by_cases hq:i/32=q
      . subst hq;rw[W2x (by omega),hw]
      . rw[W2a hq]
     have hm2:val lo%2^i=0:=by
      obtain⟨c,hc⟩:=W5a Q
      rw[hc,W1a,W0y];exact Nat.mul_mod_right _ _
     refine Dw rfl ?_
     refine Ar (i/32:Nat) rfl ?_ I
     refine Ar (i/32:Nat) rfl ?_ I
     refine Eo (i/32) rfl (by omega) ?_
     refine Ld (wd (w+2^(i%32))) rfl (mp hw2) ?_
     refine Ar (i%32:Nat) rfl ?_ hr32
     refine Ar (2^(i%32):Nat) rfl ?_ (Xf4 (by omega))
     refine Ar w rfl ?_ (Yf4 hwb hwc)
     refine Eo (i/32) rfl (by omega) ?_
     refine Sto rfl (by simp only[lw];omega) ms ?_
     refine Ar (i-1:Int) rfl ?_
     exact Bk (i,lo) [] rfl ⟨by omega,hlo,O,hm2,Z,by rw[<-V];exact h1⟩ (by show i<i+1;omega) (by exact⟨rfl,by rw[hback];rfl,rfl,rfl,rfl⟩)
   . have hm2:val j%2^i=0:=by
      rw[V]
      obtain⟨c,hc⟩:=W5a Q
      rw[hc,W1a,W0y,Nat.add_mod_right];exact Nat.mul_mod_right _ _
     refine Ar (i-1:Int) rfl ?_
     exact Bk (i,j) [] rfl ⟨by omega,hl1,T,hm2,W4j h1,by rw[V,W4u,<-Nat.two_mul,W1h 2,<-W1a];exact hsq2⟩ (by show i<i+1;omega)
 . have hk0:k=0:=by omega
   subst hk0
   have hrt:rt a=val lo:=Yh9 Z (by simpa using hsq2)
   refine Fz 12 5 (lo.map wd) rfl (by simp only[lw];omega) (oa hlo) ?_
   refine Ce (r:=.d (dz (sg false (val lo)))) rfl (by
    have:=Xp8 (b:=false) O (by omega)
    exact this) ?_
   exact RTt rfl (.cons (.eq (by rw[Xhx,hrt])) (.one (.rf rfl) (λ_ _ e=>by cases e) (λ_ _ e=>by cases e)))
end
end Go.Proofs.YtfjafaehfjjaiaaGreatDoor.R1
namespace Go.Num
theorem Zs.fdv{p:Nat}{z g:Int}(h:Zs p z)(i:0<g): Zs p (z.fdiv g):=by
 unfold Zs at *
 rw[W1t _ (by omega)]
 have:(z/g).natAbs<=z.natAbs:=Int.natAbs_ediv_le_natAbs ..
 omega
end Go.Num
namespace Go.Proofs.YtfjafaehfjjaiaaGreatDoor.R2
open Go Go.Vm Go.Num Go.Proofs.YtfjafaehfjjaiaaGreatDoor
theorem Yfm{a g:Int}(h:g ∣ a)(i:0<=g): a.fdiv g=a.tdiv g:=by
 rw[W1t _ i,Int.tdiv_eq_ediv_of_dvd h]
theorem Xm8(a g:Nat): (a:Int).fdiv g=((a/g:Nat):Int):=by
 rw[W1t _ (by omega),Int.natCast_ediv]
theorem Xzm(x y:Rat): (x*y).num=x.num.fdiv (Int.gcd x.num y.den:Int)*y.num.fdiv (Int.gcd y.num x.den:Int):=by
 show (Rat.mul x y).num=_
 delta Rat.mul
 simp only[Int.divExact_eq_tdiv]
 rw[Yfm (Int.gcd_dvd_left ..) (by omega),Yfm (Int.gcd_dvd_left ..) (by omega)]
 rfl
theorem Yae(x y:Rat): ((x*y).den:Int)=(x.den:Int).fdiv (Int.gcd y.num x.den:Int)*(y.den:Int).fdiv (Int.gcd x.num y.den:Int):=by
 show ((Rat.mul x y).den:Int)=_
 delta Rat.mul
 simp only[Nat.divExact_eq_div]
 rw[Xm8,Xm8]
 rfl
theorem Xqu{x y:Rat}(h:(Int.gcd x.den y.den:Int)=1): (x+y).num=x.num*y.den+y.num*x.den/\(x+y).den=x.den*y.den:=by
 have i:x.den.gcd y.den=1:=by have:(x.den.gcd y.den:Int)=1:=h;omega
 show (Rat.add x y).num=_/\(Rat.add x y).den=_
 delta Rat.add
 simp only[i]
 exact⟨rfl,rfl⟩
theorem Xqt{x y:Rat}(h:¬(Int.gcd x.den y.den:Int)=1): (x+y).num=(x.num*(y.den:Int).fdiv (Int.gcd x.den y.den:Int)+y.num*(x.den:Int).fdiv (Int.gcd x.den y.den:Int)).fdiv (Int.gcd (x.num*(y.den:Int).fdiv (Int.gcd x.den y.den:Int)+y.num*(x.den:Int).fdiv (Int.gcd x.den y.den:Int)) (Int.gcd x.den y.den:Int):Int) /\
 ((x+y).den:Int)=(x.den:Int).fdiv (Int.gcd x.den y.den:Int)*(y.den:Int).fdiv (Int.gcd (x.num*(y.den:Int).fdiv (Int.gcd x.den y.den:Int)+y.num*(x.den:Int).fdiv (Int.gcd x.den y.den:Int)) (Int.gcd x.den y.den:Int):Int):=by
 have j:¬x.den.gcd y.den=1:=λe=>h (by show ((x.den.gcd y.den:Nat):Int)=1;rw[e];rfl)
 have o:Int.gcd (x.den:Int) (y.den:Int)=x.den.gcd y.den:=rfl
 rw[o,Xm8,Xm8]
 generalize I:x.num*((y.den/x.den.gcd y.den:Nat):Int)+y.num*((x.den/x.den.gcd y.den:Nat):Int)=n
 have O:Int.gcd n ((x.den.gcd y.den:Nat):Int)=n.natAbs.gcd (x.den.gcd y.den):=rfl
 have i:n.natAbs.gcd (x.den.gcd y.den) ∣ y.den:=Nat.dvd_trans (Nat.gcd_dvd_right ..) (Nat.gcd_dvd_right ..)
 rw[Yfm (Int.gcd_dvd_left ..) (by omega),O,Xm8]
 have e:Rat.add x y=x+y:=rfl
 delta Rat.add at e
 simp only[j,I,dif_neg,not_false_eq_true,Rat.maybeNormalize_eq] at e
 rw[<-e]
 refine⟨by simp only[Int.divExact_eq_tdiv],?_⟩
 simp only[Nat.divExact_eq_div]
 rw[<-W2n,Nat.mul_div_assoc _ i]
theorem Xlq{a b:Int}(h:b≠0): (Int.gcd a b:Int)≠0:=by have:=@Xwk a b h;omega
theorem Xeq{z:Int}(h:(dig z.natAbs).length<=1099511627776): C0 333 [.d (dz z)] (·=.b true):=by
 refine En Tryz.func333 λ_ _ _=>?_
 refine Dw rfl ?_
 refine Ce rfl (R1.trim_dig_ok h) ?_
 refine Yes rfl rfl ?_
 refine By rfl (λi=>?_) λi=>?_
 . exact R0
 . have:(dig z.natAbs).length≠0:=λe=>by have:=Ypo.1 e;omega
   exact R1 rfl (by exact(show dc (((List.map wd (dig z.natAbs)).length:Int)>0)=true by rw[Xaj,lw];omega) ▸ .rf rfl)
theorem Xfd{z:Int}: C0 217 [.d (dz z)] (·=.b (dc (z=1))):=by
 refine En Tryz.func217 λ_ _ _=>?_
 refine By rfl (λi=>?_) λi=>?_<;>simp only[lw] at i
 . obtain⟨u,j⟩:=xat (l:=dig z.natAbs) (k:=0) (by omega)
   have o:=Ypn (by omega) j
   refine Ix 0 rfl (mp j) ?_
   refine By rfl (λI=>?_) λI=>?_
   . refine R1 rfl (.bp ?_)
     rw[<-Xuz,o]
     simp only[W1x,decide_eq_false_iff_not]
     exact⟨λh=>⟨by rw[show u=1 by omega],h⟩,λh=>h.2⟩
   . refine R1 rfl (.bp ⟨nofun,λe=>?_⟩)
     have:=(Xuz.2 e).1
     rw[o] at this;injection this with this;omega
 . exact R1 rfl (.bp ⟨nofun,λe=>absurd (by rw[e];show ((dig 1).length:Int)=1;rw[Ygz];rfl) i⟩)
theorem Xcp{a b:Int}(ha:(dig a.natAbs).length<=549755813888)(hb:(dig b.natAbs).length<=549755813888)(h:b≠0): C0 221 [.d (dz a),.d (dz b)] (·=.d (dz (a.fdiv b))):=by
 refine En Tryz.func221 λ_ _ _=>?_
 refine Ce rfl (R1.DivMod_ok ha hb h) ?_
 exact R0
theorem FromInt_ok{z:Int}(h:-9223372036854775808<=z/\z<9223372036854775808): C0 45 [.d (.int .i64 z)] (·=.d (dq z)):=by
 refine En Tryz.func45 λ_ _ _=>?_
 refine Ce rfl (R1.FromInt_ok h) ?_
 refine Ce rfl (R1.FromInt_ok (z:=1) (by decide)) ?_
 exact R0
theorem Make_ok{a b:Int}{p:Nat}(ha:Zs p a)(hb:Zs p b)(hp:p<=8796093022208)(i:b≠0): C0 204 [.d (dz a),.d (dz b)] (·=.d (dq (Rat.divInt a b))):=by
 have O:=ha.len hp
 have Q:=hb.len hp
 have T:=(hb.gcd (x:=a) i).len hp
 have h0:=Xwk (a:=a) i
 have j:∀g:Int,g=(if b<0 then -(Int.gcd a b:Int) else (Int.gcd a b:Int))->D.st (.pr (dz (a.fdiv g)) (dz (b.fdiv g)))=dq (Rat.divInt a b):=λg V=>by rw[V,Xj5 i,Xj6 i];rfl
 have hs:Xbb b 0<0↔b<0:=by rcases Xaz b 0 with ⟨o,I⟩ | ⟨o,I⟩ | ⟨o,I⟩<;>omega
 refine En Tryz.func204 λ_ _ _=>?_
 refine Ce rfl (R1.GCD_ok (by omega) (by omega)) ?_
 refine Ce rfl (R1.Sign_ok (by omega)) ?_
 refine By rfl (λh=>?_) λh=>?_
 . refine Ce rfl (R1.Neg_ok (by omega)) ?_
   refine Dw rfl ?_
   refine Ce rfl (Xcp (by omega) (by rw[W5f];omega) (by omega)) ?_
   refine Ce rfl (Xcp (by omega) (by rw[W5f];omega) (by omega)) ?_
   exact R1 rfl (.eq (j _ (by rw[if_pos (hs.1 h)])))
 . refine Dw rfl ?_
   refine Ce rfl (Xcp (by omega) (by omega) (by omega)) ?_
   refine Ce rfl (Xcp (by omega) (by omega) (by omega)) ?_
   exact R1 rfl (.eq (j _ (by rw[if_neg (mt hs.2 h)])))
theorem Frac_ok{a b:Int}(ha:-9223372036854775808<=a/\a<9223372036854775808)(hb:-9223372036854775808<=b/\b<9223372036854775808)(h:b≠0): C0 124 [.d (.int .i64 a),.d (.int .i64 b)] (·=.d (dq (Rat.divInt a b))):=by
 refine En Tryz.func124 λ_ _ _=>?_
 refine No rfl h ?_
 refine Ce rfl (R1.FromInt_ok ha) ?_
 refine Ce rfl (R1.FromInt_ok hb) ?_
 refine Ce rfl (Make_ok (p:=64) (by unfold Zs;omega) (by unfold Zs;omega) (by decide) h) ?_
 exact R0
theorem Valid_ok{x:Rat}{p:Nat}(h:Qs p x)(hp:p<=8796093022208): C0 284 [.d (dq x)] (·=.b true):=by
 have i:=h.n.len hp
 have j:=h.d.len hp
 refine En Tryz.func284 λ_ _ _=>?_
 refine Ce rfl (Xeq (z:=x.num) (by omega)) ?_
 refine Yes rfl rfl ?_
 refine Ce rfl (Xeq (z:=x.den) (by omega)) ?_
 refine Yes rfl rfl ?_
 refine Ce rfl (R1.Sign_ok (by omega)) ?_
 refine Yes rfl (Yn1.2 (by have:=x.den_pos;omega)) ?_
 refine Ce rfl (R1.GCD_ok (by omega) (by omega)) ?_
 refine Ce rfl Xfd ?_
 refine R1 rfl (by exact(show dc ((Int.gcd x.num x.den:Int)=1)=true by rw[Xaj];exact congrArg Nat.cast (show Int.gcd x.num x.den=1 from x.reduced)) ▸ .rf rfl)
theorem Sign_ok{x:Rat}{p:Nat}(h:Qs p x)(hp:p<=8796093022208): C0 207 [.d (dq x)] (·=.d (.int .i64 (Xbb x.num 0))):=by
 have:=h.n.len hp
 refine En Tryz.func207 λ_ _ _=>?_
 refine Ce rfl (R1.Sign_ok (by omega)) ?_
 exact R0
theorem Neg_ok{x:Rat}{p:Nat}(h:Qs p x)(hp:p<=8796093022208): C0 94 [.d (dq x)] (·=.d (dq (-x))):=by
 have:=h.n.len hp
 refine En Tryz.func94 λ_ _ _=>?_
 refine Dw rfl ?_
 refine Ce rfl (R1.Neg_ok (by omega)) ?_
 exact R1 rfl (.eq (show D.st (.pr (dz (-x.num)) (dz x.den))=dq (-x) by unfold dq;rw[Rat.neg_num,Rat.neg_den]))
theorem zero_of{x:Rat}(h:((List.map wd (dig x.num.natAbs)).length:Int)=0): x=0:=by
 simp only[lw] at h
 have:=Ypo.1 (by omega:(dig x.num.natAbs).length=0)
 exact W6f.1 (by omega)
theorem Mul_ok{x y:Rat}{p q:Nat}(i:Qs p x)(j:Qs q y)(hp:p+q+1<=8796093022208): C0 263 [.d (dq x),.d (dq y)] (·=.d (dq (x*y))):=by
 have V:=i.n.len (by omega)
 have Z:=i.d.len (by omega)
 have h3:=j.n.len (by omega)
 have h4:=j.d.len (by omega)
 have Q:=j.d.gcd (x:=x.num) (Xb5 y)
 have T:=i.d.gcd (x:=y.num) (Xb5 x)
 have l1:=Q.len (by omega)
 have l2:=T.len (by omega)
 have o:=@Xlq x.num y.den (Xb5 y)
 have I:=@Xlq y.num x.den (Xb5 x)
 have q1:=(i.n.fdv (g:=(Int.gcd x.num y.den:Int)) (by omega)).len (by omega)
 have q2:=(j.n.fdv (g:=(Int.gcd y.num x.den:Int)) (by omega)).len (by omega)
 have q3:=(i.d.fdv (g:=(Int.gcd y.num x.den:Int)) (by omega)).len (by omega)
 have q4:=(j.d.fdv (g:=(Int.gcd x.num y.den:Int)) (by omega)).len (by omega)
 refine En Tryz.func263 λ_ _ _=>?_
 refine Cu (some 1) (λ(b:Bool)=>[(2,.ptr 2 0),(3,.ptr 3 0),(4,.ptr 4 0),(18,.b b)]) (λ_=>[(2,.var (.d (dq x))),(3,.var (.d (dq y))),(4,.var q0)]) (λb=>b=true->x*y=0) rfl ?_ λb hb=>?_
 . refine By rfl (λh=>?_) λh=>?_
   . exact Jn true [] rfl λ_=>by rw[zero_of h,W4t]
   . exact Jn (dc _) [] rfl λe=>by rw[zero_of (x:=y) (Xaj.1 e),Rat.mul_zero]
 refine By rfl (λh=>?_) λh=>?_
 . refine Ce rfl (FromInt_ok (z:=0) (by decide)) ?_
   exact R1 rfl (.eq (show dq _=dq _ by rw[hb h];rfl))
 refine Cu (some 3) (λ(b:Bool)=>[(2,.ptr 2 0),(3,.ptr 3 0),(4,.ptr 4 0),(27,.b b)]) (λ_=>[(2,.var (.d (dq x))),(3,.var (.d (dq y))),(4,.var q0)]) (λb=>b=true->(x.den:Int)=1/\(y.den:Int)=1) rfl ?_ λb hb=>?_
 . refine Ce rfl Xfd ?_
   refine By rfl (λh=>?_) λh=>?_
   . refine Ce rfl Xfd ?_
     exact Jn (dc _) [] rfl λe=>⟨h,Xaj.1 e⟩
   . exact Jn false [] rfl nofun
 refine By rfl (λh=>?_) λh=>?_
 . obtain⟨O,d2⟩:=hb h
   refine Dw rfl ?_
   refine Ce rfl (R1.Mul_ok (by omega) (by omega)) ?_
   exact R1 rfl (.eq (show D.st (.pr (dz (x.num*y.num)) (dz x.den))=dq _ by rw[Xrl O d2,O];rfl))
 . refine Dw rfl ?_
   refine Ce rfl (R1.GCD_ok (by omega) (by omega)) ?_
   refine Ce rfl (R1.GCD_ok (by omega) (by omega)) ?_
   refine Dw rfl ?_
   refine Ce rfl (Xcp (by omega) (by omega) o) ?_
   refine Ce rfl (Xcp (by omega) (by omega) I) ?_
   refine Ce rfl (R1.Mul_ok (by omega) (by omega)) ?_
   refine Ce rfl (Xcp (by omega) (by omega) I) ?_
   refine Ce rfl (Xcp (by omega) (by omega) o) ?_
   refine Ce rfl (R1.Mul_ok (by omega) (by omega)) ?_
   exact R1 rfl (.eq (show D.st (.pr (dz _) (dz _))=dq (x*y) by unfold dq;rw[Xzm,Yae]))
theorem Add_ok{x y:Rat}{p q:Nat}(j:Qs p x)(i:Qs q y)(hp:p+q+1<=8796093022208): C0 136 [.d (dq x),.d (dq y)] (·=.d (dq (x+y))):=by
 have h1:=j.n.len (by omega)
 have h2:=j.d.len (by omega)
 have h3:=i.n.len (by omega)
 have h4:=i.d.len (by omega)
 have h5:=(j.n.mul i.d).len (by omega)
 have h6:=(i.n.mul j.d).len (by omega)
 have O:=i.d.gcd (x:=(x.den:Int)) (Xb5 y)
 have k:=@Xlq (x.den:Int) y.den (Xb5 y)
 have o:=j.d.fdv (g:=(Int.gcd x.den y.den:Int)) (by omega)
 have I:=i.d.fdv (g:=(Int.gcd x.den y.den:Int)) (by omega)
 have V:Zs (p+q+1) (x.num*(y.den:Int).fdiv (Int.gcd x.den y.den:Int)+y.num*(x.den:Int).fdiv (Int.gcd x.den y.den:Int)):=((j.n.mul I).add (i.n.mul o)).mono (by omega)
 have Z:=O.gcd (x:=x.num*(y.den:Int).fdiv (Int.gcd x.den y.den:Int)+y.num*(x.den:Int).fdiv (Int.gcd x.den y.den:Int)) k
 have Q:=@Xlq (x.num*(y.den:Int).fdiv (Int.gcd x.den y.den:Int)+y.num*(x.den:Int).fdiv (Int.gcd x.den y.den:Int)) _ k
 have l1:=O.len (by omega)
 have l2:=o.len (by omega)
 have l3:=I.len (by omega)
 have l4:=V.len (by omega)
 have l5:=Z.len (by omega)
 have l6:=(j.n.mul I).len (by omega)
 have l7:=(i.n.mul o).len (by omega)
 have l8:=(i.d.fdv (g:=(Int.gcd (x.num*(y.den:Int).fdiv (Int.gcd x.den y.den:Int)+y.num*(x.den:Int).fdiv (Int.gcd x.den y.den:Int)) (Int.gcd x.den y.den:Int):Int)) (by omega)).len (by omega)
 refine En Tryz.func136 λ_ _ _=>?_
 refine By rfl (λh=>?_) λh=>?_
 . exact R1 rfl (.eq (by rw[zero_of h,Rat.zero_add];rfl))
 refine By rfl (λh=>?_) λh=>?_
 . exact R1 rfl (.eq (by rw[zero_of h,W7g];rfl))
 refine Cu (some 5) (λ(b:Bool)=>[(2,.ptr 2 0),(3,.ptr 3 0),(4,.ptr 4 0),(30,.b b)]) (λ_=>[(2,.var (.d (dq x))),(3,.var (.d (dq y))),(4,.var q0)]) (λb=>b=true->(x.den:Int)=1/\(y.den:Int)=1) rfl ?_ λb hb=>?_
 . refine Ce rfl Xfd ?_
   refine By rfl (λh=>?_) λh=>?_
   . refine Ce rfl Xfd ?_
     exact Jn (dc _) [] rfl λe=>⟨h,Xaj.1 e⟩
   . exact Jn false [] rfl nofun
 refine By rfl (λh=>?_) λh=>?_
 . obtain⟨T,d2⟩:=hb h
   refine Dw rfl ?_
   refine Ce rfl (R1.Add_ok (by omega) (by omega)) ?_
   exact R1 rfl (.eq (show D.st (.pr (dz (x.num+y.num)) (dz x.den))=dq _ by rw[Xrm T d2,T];rfl))
 refine Ce rfl (R1.GCD_ok (by omega) (by omega)) ?_
 refine Ce rfl Xfd ?_
 refine By rfl (λh=>?_) λh=>?_
 . refine Dw rfl ?_
   refine Ce rfl (R1.Mul_ok (by omega) (by omega)) ?_
   refine Ce rfl (R1.Mul_ok (by omega) (by omega)) ?_
   refine Ce rfl (R1.Add_ok (by omega) (by omega)) ?_
   refine Dw rfl ?_
   refine Ce rfl (R1.Mul_ok (by omega) (by omega)) ?_
   exact R1 rfl (.eq (show D.st (.pr (dz _) (dz _))=dq (x+y) by unfold dq;rw[(Xqu h).1,(Xqu h).2,W2n]))
 . refine Dw rfl ?_
   refine Ce rfl (Xcp (by omega) (by omega) k) ?_
   refine Ce rfl (Xcp (by omega) (by omega) k) ?_
   refine Dw rfl ?_
   refine Ce rfl (R1.Mul_ok (by omega) (by omega)) ?_
   refine Ce rfl (R1.Mul_ok (by omega) (by omega)) ?_
   refine Ce rfl (R1.Add_ok (by omega) (by omega)) ?_
   refine Ce rfl (R1.GCD_ok (by omega) (by omega)) ?_
   refine Dw rfl ?_
   refine Ce rfl (Xcp (by omega) (by omega) Q) ?_
   refine Ce rfl (Xcp (by omega) (by omega) Q) ?_
   refine Ce rfl (R1.Mul_ok (by omega) (by omega)) ?_
   exact R1 rfl (.eq (show D.st (.pr (dz _) (dz _))=dq (x+y) by unfold dq;rw[(Xqt h).1,(Xqt h).2]))
theorem Yjo{x:Rat}(h0:x≠0): dq x⁻¹=if x.num<0 then D.st (.pr (dz (-x.den)) (dz (-x.num))) else D.st (.pr (dz x.den) (dz x.num)):=by
 have i:x.num≠0:=λe=>h0 (W6f.1 e)
 unfold dq
 rw[Rat.num_inv,Rat.den_inv,if_neg i]
 split
 . rename_i h
   rw[Int.sign_eq_neg_one_of_neg h,show (-1*(x.den:Int))=-x.den by omega,show ((x.num.natAbs:Nat):Int)=-x.num by omega]
 . rename_i h
   rw[W6k (by omega),show (1*(x.den:Int))=x.den by omega,show ((x.num.natAbs:Nat):Int)=x.num by omega]
theorem Inv_ok{x:Rat}{p:Nat}(i:Qs p x)(hp:p<=8796093022208)(h0:x≠0): C0 321 [.d (dq x)] (·=.d (dq x⁻¹)):=by
 have j:=i.n.len hp
 have o:=i.d.len hp
 have e:=Yjo h0
 refine En Tryz.func321 λ_ _ _=>?_
 refine By rfl (λh=>?_) λh=>?_
 . rw[if_pos h] at e
   refine Dw rfl ?_
   refine Ce rfl (R1.Neg_ok (by omega)) ?_
   refine Ce rfl (R1.Neg_ok (by omega)) ?_
   exact R1 rfl (.eq e.symm)
 . rw[if_neg h] at e
   exact R1 rfl (.eq e.symm)
theorem Cmp_ok{x y:Rat}{p q:Nat}(h:Qs p x)(i:Qs q y)(hp:p+q<=8796093022208): C0 325 [.d (dq x),.d (dq y)] (·=.d (.int .i64 (Xni x y))):=by
 have j:=h.n.len (by omega)
 have o:=h.d.len (by omega)
 have I:=i.n.len (by omega)
 have O:=i.d.len (by omega)
 have Q:=(h.n.mul i.d).len (by omega)
 have T:=(i.n.mul h.d).len (by omega)
 refine En Tryz.func325 λ_ _ _=>?_
 refine Dw rfl ?_
 refine Ce rfl (R1.Mul_ok (by omega) (by omega)) ?_
 refine Ce rfl (R1.Mul_ok (by omega) (by omega)) ?_
 refine Ce rfl (R1.Cmp_ok (by omega) (by omega)) ?_
 exact R1 rfl (.eq (by rw[Xrq]))
theorem Xko{z w:Int}(T:(dig z.natAbs).length<=549755813888): C0 335 [.d (dz z),.d (dz w)] (·=.b (dc (z=w))):=by
 refine En Tryz.func335 λ_ _ _=>?_
 refine By rfl (λh=>?_) λh=>?_
 . exact R1 rfl (.bp ⟨nofun,λe=>absurd (by rw[e]) h⟩)
 have h:(z<0↔w<0):=by simpa using h
 refine By rfl (λj=>?_) λj=>?_<;>simp only[lw] at j
 . exact R1 rfl (.bp ⟨nofun,λe=>absurd (by rw[e]) j⟩)
 refine Lo (λk:Nat=>[(2,.ptr 2 0),(3,.ptr 3 0),(5,.d (.int .i64 k))]) (λ_=>[(2,.var (.d (dz z))),(3,.var (.d (dz w)))]) (λk=>k<=(dig z.natAbs).length/\(dig z.natAbs).take k=(dig w.natAbs).take k) (λk=>(dig z.natAbs).length-k) 0 [] rfl ⟨by omega,rfl⟩ λk ⟨V,I⟩=>?_
 refine By rfl (λO=>?_) λO=>?_<;>simp only[lw] at O
 . obtain⟨u,o⟩:=xat (l:=dig z.natAbs) (k:=k) (by omega)
   obtain⟨v,i⟩:=xat (l:=dig w.natAbs) (k:=k) (by omega)
   refine Dw rfl ?_
   refine Ix k rfl (mp o) ?_
   refine Ix k rfl (mp i) ?_
   refine By rfl (λQ=>?_) λQ=>?_
   . exact R1 rfl (.bp ⟨nofun,λe=>by subst e;rw[o] at i;injection i with i;omega⟩)
   . refine Ar (k+1:Nat) rfl ?_
     refine Bk (k+1) [] rfl ⟨by omega,?_⟩ (by show _-(k+1)<_-k;omega)
     have j:=(W0n.1 o).1
     have O:=(W0n.1 i).1
     rw[W2c,W2c,o,i,I,show u=v by omega]
 . refine R1 rfl (.bp ⟨λ_=>?_,λ_=>rfl⟩)
   rw[W0b (by omega),W0b (by omega)] at I
   have:=Xag z.natAbs
   rw[I,Xag] at this
   omega
end Go.Proofs.YtfjafaehfjjaiaaGreatDoor.R2

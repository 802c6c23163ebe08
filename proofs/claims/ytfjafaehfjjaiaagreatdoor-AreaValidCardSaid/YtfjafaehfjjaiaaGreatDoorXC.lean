/- part 3 -/
import Derived.Test.YtfjafaehfjjaiaaGreatDoorXB
import Derived.RangeFuncBox
import Derived.RangeFuncLeaves
import Derived.Shelf.Abstract
import Derived.WalkKit
import Derived.OwnWalkIn
import Derived.TacticsInMore
import Derived.LoopNIn
import Derived.LoopIn
set_option linter.unusedVariables false
set_option linter.unusedSimpArgs false
set_option maxRecDepth 10000
namespace Go.Vm
open Go
section
section
variable{c:Cx}{s:St}
noncomputable def nxT(tb:Nat->Option TI)(n:Nat)(id:Option Nat)(s:St): Option (List (Nat×Bool)×Code×List Kt×Env×Hpl):=match (match id with
 | some id=>runT tb n id 1000 s
 | none=>runN tb n 1000 s) with
 | .j G (.c x::K) E H=>some (G,x,K,E,H)
 | _=>none
def AtJ{α:Type}(E':α->Env)(H':α->Hpl)(I:α->Prop)(s:S): Prop:=∃x,s=sem (E' x) (H' x)/\I x
theorem Cu{α:Type}(id:Option Nat)(E':α->Env)(H':α->Hpl)(I:α->Prop){G:List (Nat×Bool)}{x:Code}{K:List Kt}{E:Env}{H:Hpl}(h:nxT c.tb c.n id s=some (G,x,K,E,H))
 (k1:StP c (.j G (.c x::.l (AtJ E' H' I)::K) E H)) (k2:∀y,I y->StP c (.j [] K (E' y) (H' y))):StP c s:=by
 have key:StP c (.j G (.c x::K) E H):=J.cut (AtJ E' H' I) k1 (λs hs=>by obtain⟨y,rfl,hy⟩:=hs;exact k2 y hy)
 unfold nxT at h
 cases id with
 | none =>
  simp only at h
  split at h<;>cases h
  rename_i hr
  exact go 1000 hr key
 | some id =>
  simp only at h
  split at h<;>cases h
  rename_i hr
  exact Xfb 1000 (by rw[hr];exact key)
theorem Jn{α:Type}{E':α->Env}{H':α->Hpl}{I:α->Prop}{K:List Kt}{E:Env}{H:Hpl}(x:α)(r:List (Nat×Nat))(h:nxB c.tb c.n s=some (AtJ E' H' I,K,E,H))(hI:I x)(hf:Yk4 r E (E' x) H (H' x):=by exact⟨rfl,rfl,rfl,rfl,rfl⟩): StP c s:=by
 unfold nxB at h
 split at h<;>cases h
 rename_i hr
 exact go 1000 hr (Ymi hf (J.at' ⟨x,rfl,hI⟩))
end
end
section
def Xof(θ:Loc)(H0:Hpl)(b:Nat): Prop:=∃o x,look H0 o=some x/\x.live=true/\(θ o).1=some b
def okH(H0 H':Hpl): Bool:=(H0.all λx=>Xcd H' x.1)&&H'.all λx=>Xcd H0 x.1||Nat.beq x.1 1000000
def Yk2(W0:GW)(θ0:Loc)(H0:Hpl)(Post:AV->Hpl->Prop)(e:Ending)(w':World): Prop :=
 ∃W' θ' v u H',e=.returned u/\W'.w=w'/\Fm W0 W' (Xof θ0 H0)/\Obs W' θ' (λb=>W0.size<=b\/Xof θ0 H0 b) (look H')/\AV.V W' θ' v u/\(∀i,v.ids i->∃y,look H' i=some y)/\(∀i y,look H0 i=some y->θ' i=θ0 i)/\okH H0 H'=true/\Post v H'
def CW(P:Program)[Gb P](f:FuncId)(args:List AV)(H0:Hpl)(Post:AV->Hpl->Prop): Prop:=Ym9 P f/\∀W θ vs,Gb.g P W->Obs W θ (λ_=>True) (look H0)->Xi3 W θ args vs->Calls P f vs.toArray W.w (Yk2 W θ H0 Post)
theorem Ykt{α:Type _}{H:List (Nat×α)}{i:Nat}: Xcd H i=true↔∃y,look H i=some y:=by
 unfold Xcd;split
 . rename_i y hy;simp[hy]
 . rename_i hy;simp[hy]
theorem Xbi{α:Type _}{H:List (Nat×α)}{i:Nat}(h:Xcd H i=false): look H i=none:=by
 unfold Xcd at h;split at h<;>first | assumption | cases h
theorem Xxc{W:GW}{θ:Loc}: ∀ {asx:List AV} {vs:List Value} {i t:Nat} {v:AV},Xi3 W θ asx vs->Xz4 i asx t=some v->i<=t/\∃u,vs[t-i]?=some u/\AV.V W θ v u
 | [],[],i,t,v,_,h=>by simp[Xz4] at h
 | a::asx,u::vs,i,t,v,ha,h=>by
  rcases Xaf h with ⟨e1,e2⟩ | ⟨e1,e2⟩
  . subst e1;subst e2;exact⟨W0a _,u,by simp,ha.1⟩
  . obtain⟨h1,w,h2,h3⟩:=Xxc ha.2 e2
    exact⟨by omega,w,by rw[show t-i=(t-(i+1))+1 by omega];simpa using h2,h3⟩
 | [],_::_,_,_,_,h,_=>h.elim
 | _::_,[],_,_,_,h,_=>h.elim
abbrev cxW(P:Program)(gb:Gb P)(t:Tab P)(m:Mx P)(hpr:∀T ti,t.tb T=some ti->∀a c,ti.z≠.pr a c)(n:Nat)(hn:n<=1000000)(fn:Func)(W:GW)(θ:Loc)(H0:Hpl)(Post:AV->Hpl->Prop)(hg:gb.g W): Cx:=⟨P,gb,t.tb,λT ti h=>⟨t.ok T ti h,hpr T ti h⟩,m,n,hn,W,Xof θ H0,θ,bodyPost P fn (Yk2 W θ H0 Post),hg⟩
class WkW (c:Cx) (fn:outParam Func) (H0:outParam Hpl) (Post:outParam (AV->Hpl->Prop)):Prop where
 x:c.X=Xof c.θ0 H0
 f:c.fin=bodyPost c.P fn (Yk2 c.W0 c.θ0 H0 Post)
instance {P gb t m hpr n hn fn W θ H0 Post hg}:WkW (cxW P gb t m hpr n hn fn W θ H0 Post hg) fn H0 Post:=⟨rfl,rfl⟩
theorem EnW {P : Program} [gb : Gb P] [t : Tab P] [hp : Npr P] [m : Mx P] {f n : Nat} {fn : Func} {x : Code} {args : List AV} {H0 : Hpl} {Post : AV → Hpl → Prop} (hf : P.funcs[f]? = some fn) (h : ∀ W θ hg hn, StP (cxW P gb t m hp.h n hn fn W θ H0 Post hg) (.j [] [.c x] (Yf0 0 args) H0)) (hname : (fn.name == "runtime.NumGoroutine") = false := by exact rfl) (hb : fn.body = some x := by exact rfl)
 (hN:fn.ntmps=n:=by exact rfl) (hl:(Nat.ble args.length n&&Nat.ble n 1000000&&Xm8 (Yf0 0 args) H0)=true:=by exact rfl):CW P f args H0 Post:=by
 refine⟨⟨fn,hf,hname,by rw[hb];rfl⟩,λW θ vs hg hO ha=>calls_of_wp hf hb ?_⟩
 simp only[W0g] at hl
 obtain⟨⟨hl1,hl2⟩,hl3⟩:=hl
 have hl1:=W1g hl1
 have hlen:=ha.len
 have hc:=Xm7 hl3
 have h1:J _ _ (sem _ _):=h W θ hg (W1g hl2)
 refine wp_mono (h1 _ W.w ⟨_,W,θ,rfl,⟨Fm.refl W _,⟨rfl,by simp[hN];omega,λt v ht=>?_⟩,⟨hO.r,λo x b h1 h2 h3=>.inr ⟨o,x,h1,h2,h3⟩,hO.dis,hO.ids⟩,hc.1⟩,λ_ _=>rfl,rfl⟩) λe a w h=>by cases e<;>exact h
 have ht:Xz4 0 args t=some v:=by rw[Xlm];exact ht
 obtain⟨_,u,h2,h3⟩:=Xxc ha ht
 rw[W6l] at h2
 have hlt:=Xbj h2
 rw[W0c hlt] at h2
 injection h2 with h2
 simp only[Array.getD]
 rw[dif_pos (by simp;omega)]
 simp[W6w,hlt,h2]
 exact h3
section
variable{c:Cx}{s:St}{p:Pl}
theorem Ydb{W0:GW}{X:Nat->Prop}{n:Nat}{E:Env}{H:Hpl}{a:Act}{W:GW}{θ:Loc}{o o':Nat}(hn:look H o'=none)(hs:Sat W0 X n (sem E H) a W θ): Sat W0 X n (sem (Ydc o o' E) (Xt2 o o' H)) a W (rnθ o o' θ):=by
 have hdom:∀ {i y},look H i=some y->i≠o':=λh e=>by rw[e,hn] at h;cases h
 have hni:∀ {v:AV},(∀i,v.ids i->∃y,look H i=some y)->¬v.ids o':=λh hi=>by obtain⟨y,hy⟩:=h o' hi;rw[hn] at hy;cases hy
 refine⟨hs.fm,⟨hs.rel.defers,hs.rel.size,λt v ht=>?_⟩,⟨λi x hx=>?_,λi x b hx hl hb=>?_,λi j x x' b hx hx' hl hl' h1 h2=>?_,λi x q hx hq=>?_⟩,λt v i ht hi=>?_⟩
 . obtain⟨u,h1,rfl⟩:=Xeh ht
   exact Yhb (hni λi hi=>hs.ids t u i h1 hi) (hs.rel.has t u h1)
 . obtain⟨j,y,h1,rfl,rfl⟩:=Xbp hn hx
   exact Ybk (hdom h1) (λhi=>by obtain⟨z,hz⟩:=hs.obs.ids j y o' h1 hi;have hz:look H o'=some z:=hz;rw[hn] at hz;cases hz) (hs.obs.r j y h1)
 . obtain⟨j,y,h1,rfl,rfl⟩:=Xbp hn hx
   rw[Xa3 (hdom h1)] at hb
   exact hs.obs.new j y b h1 (by cases y<;>first | rfl | cases hl) hb
 . obtain⟨q,y,k1,rfl,rfl⟩:=Xbp hn hx
   obtain⟨q',y',k1',rfl,rfl⟩:=Xbp hn hx'
   rw[Xa3 (hdom k1)] at h1
   rw[Xa3 (hdom k1')] at h2
   rw[hs.obs.dis q q' y y' b k1 k1' (by cases y<;>first | rfl | cases hl) (by cases y'<;>first | rfl | cases hl') h1 h2]
 . obtain⟨j,y,h1,rfl,rfl⟩:=Xbp hn hx
   cases y with
   | var a =>
    obtain⟨r,h2,rfl⟩:=Xks (a:=a) hq
    obtain⟨z,hz⟩:=hs.obs.ids j _ r h1 h2
    exact Xc0 hn hz
   | _=>exact hq.elim
 . obtain⟨u,h1,rfl⟩:=Xeh ht
   obtain⟨r,h2,rfl⟩:=Xks hi
   obtain⟨z,hz⟩:=hs.ids t u r h1 h2
   exact Xc0 hn hz
def okN: List (Nat×Nat)->Hpl->Bool
 | [],_=>true
 | (o,o')::r,H=>!Xcd H o'&&okN r (Xt2 o o' H)
theorem Ya9{W0:GW}{X:Nat->Prop}{n:Nat}{a:Act}{W:GW}: ∀ {r:List (Nat×Nat)} {E:Env} {H:Hpl} {θ:Loc},okN r H=true->Sat W0 X n (sem E H) a W θ->∃θ',Sat W0 X n (sem (rnE r E) (rnH r H)) a W θ'/\∀i,Xcd (r.map λx=>(x.2,x.1)) i=false->θ' i=θ i
 | [],E,H,θ,_,hs=>⟨θ,hs,λ_ _=>rfl⟩
 | (o,o')::r,E,H,θ,h,hs=>by
  simp only[okN,W0g,W1u] at h
  obtain⟨θ',h1,h2⟩:=Ya9 h.2 (Ydb (Xbi h.1) hs)
  refine⟨θ',h1,λi hi=>?_⟩
  have hne:Nat.beq i o'=false/\Xcd (r.map λx=>(x.2,x.1)) i=false:=by
   simp only[Xcd,W4h,look] at hi |-
   cases e:Nat.beq i o' with
   | true=>rw[e] at hi;cases hi
   | false=>rw[e] at hi;exact⟨rfl,hi⟩
  rw[h2 i hne.2]
  unfold rnθ
  rw[if_neg λe=>by rw[e] at hne;simp at hne]
noncomputable def nxW(tb:Nat->Option TI)(n:Nat)(r:List (Nat×Nat))(rs:List ResultVar)(s:St): Option (AV×Hpl):=match runN tb n 1000 s with
 | .j _ (.c .ret::_) E H=>match Xxo tb (sem (rnE r E) (rnH r H)) rs with
  | some v=>some (v,H)
  | none=>none
 | .j _ [] E H=>match Xxo tb (sem (rnE r E) (rnH r H)) rs with
  | some v=>some (v,H)
  | none=>none
 | _=>none
theorem Xqz{fn:Func}{H0 H':Hpl}{Post:AV->Hpl->Prop}(hX:c.X=Xof c.θ0 H0){E:Env}{H:Hpl}{r:List (Nat×Nat)}{v v':AV}(hr:Xxo c.tb (sem (rnE r E) (rnH r H)) fn.results.toList=some v)(hf:FitR (look (rnH r H)) H' v v')(hq:Post v' H')
 (hH:Xsj (rnH r H) H') (hk:(okN r H&&okH H0 H'&&(H0.all λx=>Nat.ble 1000000 x.1 && !Xcd (r.map λx=>(x.2,x.1)) x.1)&&H'.all λx=>Xim H' x.2)=true) {a:Act} {w:World} (h:c.Nx (λs'=>s'=sem E H) a w) :
 a.defers=[]/\∃u,(results fn a.tmps).run c.P w=.ok u w/\Yk2 c.W0 c.θ0 H0 Post (.returned u) w:=by
 obtain⟨s',W,θ,rfl,hs,hθ,rfl⟩:=h
 simp only[W0g] at hk
 obtain⟨⟨⟨k1,k2⟩,k3⟩,k4⟩:=hk
 obtain⟨θ',hs',hθ'⟩:=Ya9 k1 hs
 obtain⟨u,hu,hv⟩:=Xp4 c.hT hs' hr
 have hfm:=hs'.fm
 have hobs:=hs'.obs
 refine⟨hs'.rel.defers,u,hu,?_⟩
 have hsub:∀ {o x},look H' o=some x->look (rnH r H) o=some x:=λh=>Xkj hH h
 let W':GW:=⟨W.w,λb i=>W.A b i/\((b<c.W0.size/\¬c.X b)\/∃o x,look H' o=some x/\x.live=true/\(θ' o).1=some b),λb i h=>W.hA b i h.1⟩
 have hle:LeF W W':=λb i x hx=>⟨hx.1,λhA=>hx.2 hA.1⟩
 have E:Exi W W' (λb=>c.W0.size<=b\/c.X b) θ' (look (rnH r H)) H':=⟨hobs,hle,λo x b ho hl hb hk i y hy=>⟨hy,λhA=>by
  rcases hA.2 with ⟨h1,h2⟩ | ⟨o2,x2,h1,h2,h3⟩
  . exact(hobs.new o x b ho hl hb).elim (λh=>absurd h1 (W5t.2 h)) h2
  . have:=hobs.dis o o2 x x2 b ho (hsub h1) hl h2 hb h3
    subst this
    rw[Xbi hk] at h1;cases h1⟩⟩
 obtain⟨f1,f2⟩:=Yek E hf hv
 refine⟨W',θ',v',u,H',rfl,rfl,?_,?_,f1,f2,λi y hi=>?_,k2,hq⟩
 . rw[<-hX]
   exact⟨hfm.os,hfm.out,hfm.tape,hfm.size,hfm.same,λb hb hx i=>⟨λh=>(hfm.A b hb hx i).1 h.1,λh=>⟨(hfm.A b hb hx i).2 h,.inl ⟨hb,hx⟩⟩⟩,hfm.le.trans hle⟩
 . rw[<-hX]
   refine⟨λo x hx=>(hobs.r o x (hsub hx)).keep hle rfl (λ_ _=>rfl) λhl b hb=>⟨rfl,λi hA=>⟨hA,.inr ⟨o,x,hx,hl,hb⟩⟩⟩,λo x b hx=>hobs.new o x b (hsub hx),λo o' x x' b hx hx'=>hobs.dis o o' x x' b (hsub hx) (hsub hx'),λo x i hx hi=>?_⟩
   have:=W1n.1 k4 _ (Xbd hx)
   cases x with
   | var a=>exact Xf9 (a:=a) this i hi
   | _=>exact hi.elim
 . have:=W1n.1 k3 _ (Xbd hi)
   simp only[W0g,W1u] at this
   rw[hθ' i this.2]
   exact hθ i (W1g this.1)
theorem Rw{fn:Func}{H0:Hpl}{Post:AV->Hpl->Prop}[w:WkW c fn H0 Post](r:List (Nat×Nat))(H':Hpl){v v':AV}{H:Hpl}(h:nxW c.tb c.n r fn.results.toList s=some (v,H))(hf:FitR (look (rnH r H)) H' v v')(hq:Post v' H')
 (hH:Xsj (rnH r H) H':=by exact rfl) (hk:(okN r H&&okH H0 H'&&(H0.all λx=>Nat.ble 1000000 x.1 && !Xcd (r.map λx=>(x.2,x.1)) x.1)&&H'.all λx=>Xim H' x.2)=true:=by exact rfl):StP c s:=by
 unfold nxW at h
 split at h<;>try cases h
 . rename_i hr
   split at h<;>cases h
   rename_i hv
   exact go 1000 hr (J.ret λa w' h=>by rw[w.f];exact Xqz w.x hv hf hq hH hk h)
 . rename_i hr
   split at h<;>cases h
   rename_i hv
   exact go 1000 hr (λa w' h=>by show c.fin .normal a w';rw[w.f];exact Xqz w.x hv hf hq hH hk h)
end
def AV.rnf(ρ:Nat->Nat): AV->AV
 | .st a=>.st (a.rnf ρ)
 | .pr a c=>.pr (a.rnf ρ) (c.rnf ρ)
 | .tup a=>.tup (a.rnf ρ)
 | .fm f a=>.fm f (a.rnf ρ)
 | .ptr i f=>.ptr (ρ i) f
 | .own i sz l n=>.own (ρ i) sz l n
 | .ow3 i sz l n=>.ow3 (ρ i) sz l n
 | .gr i sz xs=>.gr (ρ i) sz xs
 | .el i sz j f=>.el (ρ i) sz j f
 | .fn f i=>.fn f (ρ i)
 | .ap i n=>.ap (ρ i) n
 | .cx i l n=>.cx (ρ i) l n
 | a=>a
def Ob.rnf(ρ:Nat->Nat): Ob->Ob
 | .var a=>.var (a.rnf ρ)
 | x=>x
def rnL: List (Nat×Nat)->Nat->Nat
 | [],i=>i
 | (o,o')::r,i=>match Nat.beq i o with
  | true=>o'
  | false=>rnL r i
def rfH(ρ:Nat->Nat)(H:Hpl): Hpl:=H.map λx=>(ρ x.1,x.2.rnf ρ)
theorem Yg7{W:GW}{θ:Loc}{ρ:Nat->Nat}: ∀ {a:AV} {cs:List Value},AV.C W θ (a.rnf ρ) cs↔AV.C W (λi=>θ (ρ i)) a cs:=by
 intro a
 induction a with
 | st a ih=>exact ih
 | pr a c iha ihc=>intro cs;simp only[AV.rnf,AV.C,iha,ihc]
 | fm f a ih=>intro cs;simp only[AV.rnf,AV.C,ih]
 | _=>intro cs;exact W3x
theorem Yg6{ρ:Nat->Nat}(a:AV): (a.rnf ρ).ag=a.ag:=by cases a<;>rfl
theorem Xt0{W:GW}{θ:Loc}{ρ:Nat->Nat}{a:AV}{v:Value}: AV.V1 W θ (a.rnf ρ) v↔AV.V1 W (λi=>θ (ρ i)) a v:=by
 unfold AV.V1;simp only[Yg7,Yg6]
theorem Ylo{W:GW}{θ:Loc}{ρ:Nat->Nat}: ∀ {a:AV} {vs:List Value},AV.T W θ (a.rnf ρ) vs↔AV.T W (λi=>θ (ρ i)) a vs:=by
 intro a
 induction a with
 | pr a c _ ih =>
  intro vs
  match vs with
  | v::vs=>simp only[AV.rnf,AV.T,Xt0,ih]
  | []=>exact W3x
 | un =>
  intro vs
  match vs with
  | []=>exact W3x
  | [v]=>exact⟨λ⟨_,h,_⟩=>h.elim,λ⟨_,h,_⟩=>h.elim⟩
  | _::_::_=>exact W3x
 | _ =>
  intro vs
  match vs with
  | []=>exact W3x
  | [v]=>exact Xt0
  | _::_::_=>exact W3x
theorem Yop{W:GW}{θ:Loc}{ρ:Nat->Nat}{a:AV}{v:Value}: AV.V W θ (a.rnf ρ) v↔AV.V W (λi=>θ (ρ i)) a v:=by
 cases a with
 | tup a=>simp only[AV.rnf,AV.V,Ylo]
 | un=>exact W3x
 | _=>exact Xt0
theorem Yln{ρ:Nat->Nat}{i:Nat}: ∀ {a:AV},(a.rnf ρ).ids i↔∃j,a.ids j/\i=ρ j:=by
 intro a
 induction a with
 | st a ih=>exact ih
 | tup a ih=>exact ih
 | fm f a ih=>exact ih
 | pr a c iha ihc =>
  simp only[AV.rnf,AV.ids,iha,ihc]
  exact⟨λh=>h.elim (λ⟨j,h1,h2⟩=>⟨j,.inl h1,h2⟩) λ⟨j,h1,h2⟩=>⟨j,.inr h1,h2⟩,λ⟨j,h1,h2⟩=>h1.elim (λh=>.inl ⟨j,h,h2⟩) λh=>.inr ⟨j,h,h2⟩⟩
 | ptr o f=>exact⟨λh=>⟨o,rfl,h⟩,λ⟨j,h1,h2⟩=>by rw[show j=o from h1] at h2;exact h2⟩
 | own o _ _ _=>exact⟨λh=>⟨o,rfl,h⟩,λ⟨j,h1,h2⟩=>by rw[show j=o from h1] at h2;exact h2⟩
 | ow3 o _ _ _=>exact⟨λh=>⟨o,rfl,h⟩,λ⟨j,h1,h2⟩=>by rw[show j=o from h1] at h2;exact h2⟩
 | gr o _ _=>exact⟨λh=>⟨o,rfl,h⟩,λ⟨j,h1,h2⟩=>by rw[show j=o from h1] at h2;exact h2⟩
 | el o _ _ _=>exact⟨λh=>⟨o,rfl,h⟩,λ⟨j,h1,h2⟩=>by rw[show j=o from h1] at h2;exact h2⟩
 | fn _ o=>exact⟨λh=>⟨o,rfl,h⟩,λ⟨j,h1,h2⟩=>by rw[show j=o from h1] at h2;exact h2⟩
 | ap o _=>exact⟨λh=>⟨o,rfl,h⟩,λ⟨j,h1,h2⟩=>by rw[show j=o from h1] at h2;exact h2⟩
 | cx o _ _=>exact⟨λh=>⟨o,rfl,h⟩,λ⟨j,h1,h2⟩=>by rw[show j=o from h1] at h2;exact h2⟩
 | _=>exact⟨λh=>h.elim,λ⟨j,h,_⟩=>h.elim⟩
theorem Yoq{W:GW}{θ:Loc}{ρ:Nat->Nat}{o:Nat}{x:Ob}: (x.rnf ρ).R W θ (ρ o)↔x.R W (λi=>θ (ρ i)) o:=by
 cases x with
 | var a=>simp only[Ob.rnf,Ob.R,Yg7]
 | _=>exact W3x
theorem Xdw{ρ:Nat->Nat}(x:Ob): (x.rnf ρ).live=x.live:=by cases x<;>rfl
theorem Xqn{ρ:Nat->Nat}: ∀ {H:Hpl} {j:Nat} {x:Ob},(∀a b,Xcd H a=true->Xcd H b=true->ρ a=ρ b->a=b)->look (rfH ρ H) j=some x->∃i y,look H i=some y/\j=ρ i/\x=y.rnf ρ
 | [],_,_,_,h=>by simp[rfH,look] at h
 | (s,w)::H,j,x,hi,h=>by
  simp only[rfH,W4h,look] at h
  split at h
  . rename_i hb
    injection h with h
    exact⟨s,w,by simp[look],W0e hb,h.symm⟩
  . rename_i hb
    have hsub:∀a,Xcd H a=true->Xcd ((s,w)::H) a=true:=λa ha=>by
     simp only[Xcd,look] at ha |-
     cases Nat.beq a s<;>first | exact ha | rfl
    obtain⟨i,y,h1,h2,h3⟩:=Xqn (λa b ha hb=>hi a b (hsub a ha) (hsub b hb)) h
    refine⟨i,y,?_,h2,h3⟩
    have:i≠s:=λe=>by subst e;rw[h2] at hb;simp at hb
    simp only[look,Ybo this];exact h1
theorem Xcz{ρ:Nat->Nat}: ∀ {H:Hpl} {i:Nat} {y:Ob},look H i=some y->∃x,look (rfH ρ H) (ρ i)=some x
 | [],_,_,h=>by simp[look] at h
 | (s,w)::H,i,y,h=>by
  simp only[rfH,W4h,look]
  by_cases e:i=s
  . subst e;exact⟨w.rnf ρ,by simp⟩
  . simp only[look,Ybo e] at h
    obtain⟨x,hx⟩:=Xcz h
    split
    . exact⟨_,rfl⟩
    . exact⟨x,hx⟩
theorem Xdi{g:Hp}: ∀ {l:List (Nat×Ob)} {o:Nat},Xbe g l o=match look l o with | some x=>some x | none=>g o
 | [],_=>rfl
 | (o',x)::l,o=>by
  simp only[Xbe,upd,look]
  cases Nat.beq o o' with
  | true=>rfl
  | false=>exact Xdi
theorem Xp2{W:GW}{θ:Loc}{ρ:Nat->Nat}: ∀ {args:List AV} {vs:List Value},Xi3 W θ (args.map (AV.rnf ρ)) vs->Xi3 W (λi=>θ (ρ i)) args vs
 | [],[],_=>trivial
 | [],_::_,h=>h.elim
 | _::_,[],h=>h.elim
 | _::_,_::_,h=>⟨Yop.1 h.1,Xp2 h.2⟩
theorem CW.cs{P:Program}[Gb P]{f:FuncId}{args:List AV}{H0:Hpl}{Post:AV->Hpl->Prop}(h:CW P f args H0 Post)(r:List (Nat×Nat))(d:Nat){g:Hp}(hd:d<1000000)(hgd:g d=none)(hH:∀o x,look H0 o=some x->g (rnL r o)=some (x.rnf (rnL r)))(h0:Xcd H0 1000000=false)
 (hinj:∀a b,Xcd H0 a=true->Xcd H0 b=true->rnL r a=rnL r b->a=b) (hids:∀a∈args,Xde H0 a=true) (hcl:(H0.all λx=>Xim H0 x.2)=true) :
 CS P f (args.map (AV.rnf (rnL r))) g λv g'=>∃v0 H',okH H0 H'=true/\Post v0 H'/\v=v0.rnf (rnL ((1000000,d)::r))/\g'=Xbe g (rfH (rnL ((1000000,d)::r)) H'):=by
 refine⟨h.1,λN W θ vs hg hO hN _ ha=>?_⟩
 have hl:∀ {o x},look H0 o=some x->g (rnL r o)=some (x.rnf (rnL r)):=λh=>hH _ _ h
 have hO0:Obs W (λi=>θ (rnL r i)) (λ_=>True) (look H0):=by
  refine⟨λo x hx=>Yoq.1 (hO.r _ _ (hl hx)),λ_ _ _ _ _ _=>trivial,λo o' x x' b hx hx' k k' b1 b2=>?_,λo x i hx hi=>?_⟩
  . exact hinj o o' (Ykt.2 ⟨x,hx⟩) (Ykt.2 ⟨x',hx'⟩) (hO.dis _ _ _ _ b (hl hx) (hl hx') (by rw[Xdw];exact k) (by rw[Xdw];exact k') b1 b2)
  . have:=W1n.1 hcl _ (Xbd hx)
    cases x with
    | var a=>exact Xf9 (a:=a) this i hi
    | _=>exact hi.elim
 have ha0:Xi3 W (λi=>θ (rnL r i)) args vs:=Xp2 ha
 refine(h.2 W _ vs hg hO0 ha0).mono ?_
 rintro e w' ⟨W',θ',v,u,H',rfl,rfl,hf,hob,hv,hvi,hθ,hok,hp⟩
 have hok':=hok
 simp only[okH,W0g] at hok
 obtain⟨ok1,ok2⟩:=hok
 have hX:∀b,Xof (λi=>θ (rnL r i)) H0 b->b<W.size/\N b/\∃o x y,look H0 o=some y/\g (rnL r o)=some x/\x.live=true/\(θ (rnL r o)).1=some b:=by
  rintro b ⟨o,x,h1,h2,h3⟩
  have hlv:(x.rnf (rnL r)).live=true:=by rw[Xdw];exact h2
  exact⟨hO.lt (hl h1) hlv h3,hO.new _ _ b (hl h1) hlv h3,o,_,x,h1,hl h1,hlv,h3⟩
 have hnd:∀ {i},Xcd H0 i=true->rnL ((1000000,d)::r) i=rnL r i:=by
  intro i hi
  have:i≠1000000:=λe=>by rw[e,h0] at hi;cases hi
  simp only[rnL,Ybo this]
 have hdn:rnL ((1000000,d)::r) 1000000=d:=by simp[rnL]
 have hcase:∀ {i},Xcd H' i=true->Xcd H0 i=true\/i=1000000:=by
  intro i hi
  obtain⟨y,hy⟩:=Ykt.1 hi
  have:=W1n.1 ok2 _ (Xbd hy)
  rw[W3q] at this
  exact this.imp id W0e
 have hgo:∀ {i},Xcd H0 i=true->∃x,g (rnL r i)=some x:=λhi=>by obtain⟨y,hy⟩:=Ykt.1 hi;exact⟨_,hl hy⟩
 have hne:∀ {i},Xcd H0 i=true->rnL r i≠d:=λhi e=>by obtain⟨x,hx⟩:=hgo hi;rw[e,hgd] at hx;cases hx
 have hinj':∀a b,Xcd H' a=true->Xcd H' b=true->rnL ((1000000,d)::r) a=rnL ((1000000,d)::r) b->a=b:=by
  intro a b ha hb hab
  rcases hcase ha with h1 | h1<;>rcases hcase hb with h2 | h2
  . rw[hnd h1,hnd h2] at hab;exact hinj a b h1 h2 hab
  . rw[hnd h1,h2,hdn] at hab;exact absurd hab (hne h1)
  . rw[hnd h2,h1,hdn] at hab;exact absurd hab.symm (hne h2)
  . rw[h1,h2]
 let θ2:Loc:=λi=>if i=d then θ' 1000000 else θ i
 have hθ2:∀ {i},Xcd H' i=true->θ2 (rnL ((1000000,d)::r) i)=θ' i:=by
  intro i hi
  rcases hcase hi with h1 | h1
  . rw[hnd h1]
    obtain⟨y,hy⟩:=Ykt.1 h1
    show (if _ then _ else _)=_
    rw[if_neg (hne h1)]
    exact(hθ i y hy).symm
  . rw[h1,hdn];exact if_pos rfl
 have hold:∀ {o x},g o=some x->θ2 o=θ o:=λho=>if_neg λe=>by rw[e,hgd] at ho;cases ho
 have hR':∀ {i y},look H' i=some y->(y.rnf (rnL ((1000000,d)::r))).R W' θ2 (rnL ((1000000,d)::r) i):=by
  intro i y hy
  refine Yoq.2 ((hob.r i y hy).keep (LeF.refl W') (hθ2 (Ykt.2 ⟨y,hy⟩)) (λj hj=>?_) λ_ _ _=>⟨rfl,λ_ h=>h⟩)
  obtain⟨z,hz⟩:=hob.ids i y j hy hj
  exact hθ2 (Ykt.2 ⟨z,hz⟩)
 have hrest:∀ {o x},Xbe g (rfH (rnL ((1000000,d)::r)) H') o=some x->(∃i y,look H' i=some y/\o=rnL ((1000000,d)::r) i/\x=y.rnf (rnL ((1000000,d)::r))) \/
  (g o=some x/\∀b,x.live=true->(θ o).1=some b->b<W.size/\¬Xof (λi=>θ (rnL r i)) H0 b):=by
  intro o x hx
  rw[Xdi] at hx
  split at hx
  . rename_i y hy
    injection hx with hx;subst hx
    exact .inl (Xqn hinj' hy)
  . rename_i hn
    refine .inr ⟨hx,λb hlv hb=>⟨hO.lt hx hlv hb,λhXb=>?_⟩⟩
    obtain⟨_,_,o1,x1,y1,h1,h2,h3,h4⟩:=hX b hXb
    have:=hO.dis o _ x x1 b hx h2 hlv h3 hb h4
    have hk:Xcd H' o1=true:=by
     have:=W1n.1 ok1 _ (Xbd h1);exact this
    obtain⟨z,hz⟩:=Ykt.1 hk
    obtain⟨q,hq⟩:=Xcz (ρ:=rnL ((1000000,d)::r)) hz
    rw[hnd (Ykt.2 ⟨_,h1⟩),<-this,hn] at hq
    cases hq
 have hblk:∀ {i y b},look H' i=some y->y.live=true->(θ2 (rnL ((1000000,d)::r) i)).1=some b->(W.size<=b\/Xof (λi=>θ (rnL r i)) H0 b):=by
  intro i y b hy hlv hb
  rw[hθ2 (Ykt.2 ⟨y,hy⟩)] at hb
  exact hob.new i y b hy hlv hb
 refine⟨W',θ2,v.rnf (rnL ((1000000,d)::r)),u,_,rfl,rfl,?_,?_,λi hi=>?_,v,H',hok',hp,rfl,rfl⟩
 . exact {
    os:=hf.os,out:=hf.out,tape:=hf.tape,size:=hf.size
    same:=λb hb hN=>hf.same b hb λhx=>hN (hX b hx).2.1
    A:=λb hb hN=>hf.A b hb λhx=>hN (hX b hx).2.1
    le:=hf.le
    th:=λi y hy=>hold hy
    hi:=λi hi=>if_neg (by omega)
    obs:={
     r:=λo x hx=>by
      rcases hrest hx with ⟨i,y,hy,rfl,rfl⟩ | ⟨ho,hb⟩
      . exact hR' hy
      . refine(hO.r o x ho).keep hf.le (hold ho) (λi hi=>?_) λhlv b h1=>?_
        . obtain⟨z,hz⟩:=hO.ids o x i ho hi
          exact hold hz
        . obtain⟨b1,b2⟩:=hb b hlv h1
          exact⟨hf.same b b1 b2,λi hA=>(hf.A b b1 b2 i).2 hA⟩
     new:=λo x b hx hlv hb=>by
      rcases hrest hx with ⟨i,y,hy,rfl,rfl⟩ | ⟨ho,_⟩
      . exact(hblk hy (by rw[Xdw] at hlv;exact hlv) hb).elim (hN b) λh=>(hX b h).2.1
      . rw[hold ho] at hb;exact hO.new o x b ho hlv hb
     dis:=λo o' x x' b hx hx' hlv hlv' hb hb'=>by
      rcases hrest hx with ⟨i,y,hy,rfl,rfl⟩ | ⟨ho,h1⟩<;>rcases hrest hx' with ⟨i',y',hy',rfl,rfl⟩ | ⟨ho',h1'⟩
      . rw[Xdw] at hlv hlv'
        rw[hθ2 (Ykt.2 ⟨y,hy⟩)] at hb
        rw[hθ2 (Ykt.2 ⟨y',hy'⟩)] at hb'
        rw[hob.dis i i' y y' b hy hy' hlv hlv' hb hb']
      . rw[Xdw] at hlv
        rw[hold ho'] at hb'
        obtain⟨b1,b2⟩:=h1' b hlv' hb'
        exact((hblk hy hlv hb).elim (λh=>absurd b1 (W5t.2 h)) b2).elim
      . rw[Xdw] at hlv'
        rw[hold ho] at hb
        obtain⟨b1,b2⟩:=h1 b hlv hb
        exact((hblk hy' hlv' hb').elim (λh=>absurd b1 (W5t.2 h)) b2).elim
      . rw[hold ho] at hb;rw[hold ho'] at hb'
        exact hO.dis o o' x x' b ho ho' hlv hlv' hb hb'
     ids:=λo x i hx hi=>by
      have fin:∀ {j},Xcd H' j=true->∃z,Xbe g (rfH (rnL ((1000000,d)::r)) H') (rnL ((1000000,d)::r) j)=some z:=λhj=>by
       obtain⟨z,hz⟩:=Ykt.1 hj
       obtain⟨q,hq⟩:=Xcz (ρ:=rnL ((1000000,d)::r)) hz
       rw[Xdi,hq];exact⟨q,rfl⟩
      rcases hrest hx with ⟨i',y,hy,rfl,rfl⟩ | ⟨ho,_⟩
      . cases y with
        | var a =>
         obtain⟨j,h1,rfl⟩:=Yln.1 hi
         obtain⟨z,hz⟩:=hob.ids i' _ j hy h1
         exact fin (Ykt.2 ⟨z,hz⟩)
        | _=>exact hi.elim
      . obtain⟨z,hz⟩:=hO.ids o x i ho hi
        rw[Xdi]
        split
        . exact⟨_,rfl⟩
        . exact⟨z,hz⟩ }
    dom:=λi y hy=>by
     rw[Xdi]
     split
     . exact⟨_,rfl⟩
     . exact⟨y,hy⟩ }
 . refine Yop.2 (hv.mono (LeF.refl W') λi hi=>?_)
   obtain⟨z,hz⟩:=hvi i hi
   exact hθ2 (Ykt.2 ⟨z,hz⟩)
 . obtain⟨j,h1,rfl⟩:=Yln.1 hi
   obtain⟨z,hz⟩:=hvi j h1
   obtain⟨q,hq⟩:=Xcz (ρ:=rnL ((1000000,d)::r)) hz
   rw[Xdi,hq];exact⟨q,rfl⟩
end
section
noncomputable def nxK(tb:Nat->Option TI)(n:Nat)(s:St): Option (Pl×FuncId×List AV):=match nxO tb n s with
 | some (p,o)=>match o.op with
  | .call ⟨.value x,asx,tys⟩=>match callee (look p.E) x,getEs (look p.E) asx.toList with
   | some (f,ex),some vs=>some (p,f,Xi8 tb tys.toList vs++ex)
   | _,_=>none
  | _=>none
 | none=>none
def Yo3(ρ:Nat->Nat)(H:Hpl): Bool:=H.all λx=>H.all λy=>Nat.beq x.1 y.1 || !Nat.beq (ρ x.1) (ρ y.1)
def Xsm(args:List AV)(H0:Hpl)(r:List (Nat×Nat))(d:Nat)(H:Hpl): Bool:=Nat.blt d 1000000 && !Xcd H d && !Xcd H0 1000000&&Yo3 (rnL r) H0&&(args.all (Xde H0))&&H0.all λx=>Xim H0 x.2
theorem Xqm{α:Type _}: ∀ {H:List (Nat×α)} {o:Nat} {x:α},(o,x)∈H->Xcd H o=true
 | [],_,_,h=>by cases h
 | (s,w)::H,o,x,h=>by
  simp only[Xcd,look]
  cases e:Nat.beq o s with
  | true=>rfl
  | false =>
   rcases W1j.1 h with h | h
   . injection h with h1;subst h1;simp at e
   . exact Xqm h
section
variable{c:Cx}{s:St}{p:Pl}
theorem Xum{f:FuncId}{asx:List AV}{R:S->Prop}(h:nxK c.tb c.n s=some (p,f,asx))(hR:R=WL c.P c.tb p.dr p.L (J c p.K) p.l)
 (k:∃o:Oper,p.d=o.dst/\match p.dr with
  | true=>∃nw H0 Q,Cd c.P f asx o (look p.H) nw H0 Q/\∀r,Nu nw o r.2->Q r->R (aft (sem p.E p.H) o r)
  | false=>∃Post,CS c.P f asx (look p.H) Post/\∀v g',Post v g'->R (S.put ((sem p.E p.H).1,g') o.dst v)):StP c s:=by
 subst hR
 unfold nxK at h
 split at h<;>try cases h
 rename_i p' o ho
 obtain⟨hw,hd⟩:=Xul ho
 split at h<;>try cases h
 rename_i x as' tys he
 split at h<;>cases h
 rename_i ex vs hvs hf
 obtain⟨o',ho',k⟩:=k
 refine Xme ho (.inl ⟨hw,?_⟩)
 unfold Wb
 rw[he]
 refine⟨_,_,_,hf,hvs,?_⟩
 rw[hd] at ho'
 have e1:∀r,aft (sem p.E p.H) o' r=aft (sem p.E p.H) o r:=λr=>by unfold aft;rw[ho']
 have e2:∀nw us,Nu nw o us↔Nu nw o' us:=λnw us=>by unfold Nu;rw[ho']
 cases hdr:p.dr with
 | true =>
  rw[hdr] at k
  obtain⟨nw,H0,Q,⟨k1,k2,k3⟩,k4⟩:=k
  refine⟨nw,H0,Q,⟨by rw[ho'];exact k1,k2,by rw[ho'];intro g a b;simp only[e2];exact k3 g a b⟩,λr hr hq=>by rw[<-e1];exact k4 r ((e2 _ _).1 hr) hq⟩
 | false =>
  rw[hdr] at k
  obtain⟨Post,k1,k2⟩:=k
  exact⟨_,Post,.inl rfl,k1,λv g' hv=>by rw[ho'];exact k2 v g' hv⟩
theorem Xiy{f:FuncId}{args:List AV}{H0:Hpl}{Post:AV->Hpl->Prop}{r:List (Nat×Nat)}{d:Nat}{H:Hpl}(hc:CW c.P f args H0 Post)(hk:Xsm args H0 r d H=true){g:Hp}(hgd:g d=none)(hH:∀o x,look H0 o=some x->g (rnL r o)=some (x.rnf (rnL r))):
 CS c.P f (args.map (AV.rnf (rnL r))) g λv g'=>∃v0 H',okH H0 H'=true/\Post v0 H'/\v=v0.rnf (rnL ((1000000,d)::r))/\g'=Xbe g (rfH (rnL ((1000000,d)::r)) H'):=by
 simp only[Xsm,W0g,W1u] at hk
 obtain⟨⟨⟨⟨⟨k1,k2⟩,k3⟩,k4⟩,k5⟩,k6⟩:=hk
 refine hc.cs r d (Xqk k1) hgd hH k3 (λa b ha hb hab=>?_) (λa ha=>W1n.1 k5 a ha) k6
 obtain⟨x,hx⟩:=Ykt.1 ha
 obtain⟨y,hy⟩:=Ykt.1 hb
 have:=W1n.1 (W1n.1 k4 _ (Xbd hx)) _ (Xbd hy)
 simp only[W3q,W1u] at this
 rcases this with h | h
 . exact W0e h
 . rw[hab] at h;simp at h
theorem Xny{H H0:Hpl}{ρ:Nat->Nat}(hH:Xsj H (rfH ρ H0)){o:Nat}{x:Ob}(h:look H0 o=some x): look H (ρ o)=some (x.rnf ρ):=by
 have hm:(ρ o,x.rnf ρ)∈rfH ρ H0:=W2y.2 ⟨_,Xbd h,rfl⟩
 exact W5s.1 hH _ hm
theorem Cw{f:FuncId}{asx args:List AV}{H0:Hpl}{Post:AV->Hpl->Prop}(r:List (Nat×Nat))(h:nxK c.tb c.n s=some (p,f,asx))(hc:CW c.P f args H0 Post)(k:∀v H',okH H0 H'=true->Post v H'->p.nx' c (v.rnf (rnL ((1000000,p.d.getD 0)::r))) (rfH (rnL ((1000000,p.d.getD 0)::r)) H'))
 (hr:asx=args.map (AV.rnf (rnL r)):=by exact rfl) (hH:Xsj p.H (rfH (rnL r) H0):=by exact rfl) (hk:(Xsm args H0 r (p.d.getD 0) p.H && !p.dr)=true:=by exact rfl):StP c s:=by
 rw[W0g,W1u] at hk
 obtain⟨hk,hdr⟩:=hk
 have hk':=hk
 simp only[Xsm,W0g,W1u] at hk'
 refine Xum h rfl ⟨⟨p.d, .move (.tmp 0), 0, "", #[], none⟩, rfl, ?_⟩
 rw[hdr,hr]
 refine⟨_,Xiy hc hk (Xbi hk'.1.1.1.1.2) (λo x hx=>Xny hH hx),?_⟩
 rintro v g' ⟨v0,H',h1,h2,rfl,rfl⟩
 have:=Pl.nx'_eq.1 (k v0 H' h1 h2)
 have:WL c.P c.tb p.dr p.L (J c p.K) p.l (sem (Xsl p.E p.d _) (_++p.H)):=this
 rw[<-Xfa,hdr] at this
 exact this
theorem Xlw{g:Hp}: ∀ {l:List (Nat×Ob)},(∀o x,(o,x)∈l->g o=some x)->Xbe g l=g
 | [],_=>rfl
 | (o,x)::l,h=>by
  rw[Xbe,Xlw λo x hm=>h o x (W0p _ hm)]
  funext t
  by_cases e:t=o
  . subst e;rw[Xaj,h t x (W0l ..)]
  . rw[Xak e]
def CN(P:Program)[Gb P](f:FuncId)(args:List AV)(H0:Hpl)(Q:AV->Prop): Prop:=CW P f args H0 λv H'=>H'=H0/\Q v
theorem Xt1{H0:Hpl}{r:List (Nat×Nat)}{d:Nat}(h0:Xcd H0 1000000=false)(hcl:(H0.all λx=>Xim H0 x.2)=true): ∀o x,look H0 o=some x->(rnL ((1000000,d)::r) o,x.rnf (rnL ((1000000,d)::r)))=(rnL r o,x.rnf (rnL r)):=by
 have hne:∀i,Xcd H0 i=true->rnL ((1000000,d)::r) i=rnL r i:=λi hi=>by
  have:i≠1000000:=λe=>by rw[e,h0] at hi;cases hi
  simp only[rnL,Ybo this]
 have hv:∀ {a:AV},Xde H0 a=true->a.rnf (rnL ((1000000,d)::r))=a.rnf (rnL r):=by
  intro a
  induction a with
  | st a ih=>intro h;simp only[AV.rnf];rw[ih h]
  | tup a ih=>intro h;simp only[AV.rnf];rw[ih h]
  | fm f a ih=>intro h;simp only[AV.rnf];rw[ih h]
  | pr a c iha ihc=>intro h;simp only[Xde,W0g] at h;simp only[AV.rnf];rw[iha h.1,ihc h.2]
  | _=>intro h;first | rfl | (simp only[AV.rnf];rw[hne _ h])
 intro o x hx
 rw[hne o (Ykt.2 ⟨x,hx⟩)]
 have:=W1n.1 hcl _ (Xbd hx)
 cases x with
 | var a=>simp only[Ob.rnf];rw[hv this]
 | _=>rfl
theorem Cn{f:FuncId}{asx args:List AV}{H0:Hpl}{Q:AV->Prop}(r:List (Nat×Nat))(h:nxK c.tb c.n s=some (p,f,asx))(hc:CN c.P f args H0 Q)(k:∀v,Q v->p.nx c (v.rnf (rnL ((1000000,p.d.getD 0)::r))))
 (hr:asx=args.map (AV.rnf (rnL r)):=by exact rfl) (hH:Xsj p.H (rfH (rnL r) H0):=by exact rfl) (hk:(Xsm args H0 r (p.d.getD 0) p.H&&H0.all λx=>asx.any λa=>Xcd (match a with | .ptr o _=>[(o,())] | .own o _ _ _=>[(o,())] | .gr o _ _=>[(o,())] | .fn _ o=>[(o,())] | .ap o _=>[(o,())] | _=>[]) (rnL r x.1))=true:=by exact rfl) (hd:(!p.dr||p.d.isSome)=true:=by exact rfl):StP c s:=by
 rw[W0g] at hk
 obtain⟨hk,hids⟩:=hk
 have hk':=hk
 simp only[Xsm,W0g,W1u] at hk'
 obtain⟨⟨⟨⟨⟨k1,k2⟩,k3⟩,k4⟩,k5⟩,k6⟩:=hk'
 have hsame:∀g:Hp,(∀o x,look H0 o=some x->g (rnL r o)=some (x.rnf (rnL r)))->Xbe g (rfH (rnL ((1000000,p.d.getD 0)::r)) H0)=g:=λg hg=>Xlw λo x hm=>by
  obtain⟨⟨i,y⟩,hm1,e⟩:=W2y.1 hm
  injection e with e1 e2
  subst e1;subst e2
  have hy:∃z,look H0 i=some z:=by
   exact Ykt.1 (Xqm hm1)
  obtain⟨z,hz⟩:=hy
  have hm2:=W5s.1 hH (rnL r i,y.rnf (rnL r)) (W2y.2 ⟨_,hm1,rfl⟩)
  have hz2:=Xny hH hz
  rw[hz2] at hm2
  injection hm2 with hm2
  have h3:=Xt1 (d:=p.d.getD 0) (r:=r) k3 k6 i z hz
  injection h3 with h3 h4
  show g (rnL _ i)=some (y.rnf _)
  rw[h3,hg i z hz,hm2]
  congr 1
  have hcl:Xim H0 y=true:=W1n.1 k6 _ hm1
  have hv:∀ {a:AV},Xde H0 a=true->a.rnf (rnL ((1000000,p.d.getD 0)::r))=a.rnf (rnL r):=by
   intro a
   induction a with
   | st a ih=>intro h;simp only[AV.rnf];rw[ih h]
   | tup a ih=>intro h;simp only[AV.rnf];rw[ih h]
   | fm f a ih=>intro h;simp only[AV.rnf];rw[ih h]
   | pr a c iha ihc=>intro h;simp only[Xde,W0g] at h;simp only[AV.rnf];rw[iha h.1,ihc h.2]
   | _ =>
    intro h
    first
     | rfl
     | (simp only[AV.rnf]
        congr 1
        obtain⟨q,hq⟩:=Ykt.1 h
        have:=Xt1 (d:=p.d.getD 0) (r:=r) k3 k6 _ q hq
        injection this)
  cases y with
  | var a=>simp only[Ob.rnf];rw[hv hcl]
  | _=>rfl
 refine Xum h rfl ⟨⟨p.d, .move (.tmp 0), 0, "", #[], none⟩, rfl, ?_⟩
 have kk:∀v,Q v->WL c.P c.tb p.dr p.L (J c p.K) p.l (S.put (sem p.E p.H) p.d (v.rnf (rnL ((1000000,p.d.getD 0)::r)))):=λv hv=>by
  have:=Pl.nx_eq.1 (k v hv)
  have this:WL c.P c.tb p.dr p.L (J c p.K) p.l (sem (Xsl p.E p.d _) p.H):=this
  rw[show S.put (sem p.E p.H) p.d _=sem (Xsl p.E p.d _) p.H from Xfa p.E p.H [] p.d _]
  exact this
 have hH':∀o x,look H0 o=some x->look p.H (rnL r o)=some (x.rnf (rnL r)):=λo x hx=>Xny hH hx
 generalize WL c.P c.tb p.dr p.L (J c p.K) p.l=R at kk |-
 rw[hr] at hids |-
 cases hdr:p.dr with
 | true =>
  obtain⟨dd,hdd⟩:=W3g.1 (show p.d.isSome=true by rw[hdr] at hd;exact hd)
  have hD:p.d.getD 0=dd:=by rw[hdd];rfl
  refine⟨true,look (rfH (rnL r) H0),λq=>q.2=[]/\∃v,Q v/\q.1=v.rnf (rnL ((1000000,p.d.getD 0)::r)),⟨λ_=>⟨dd,hdd,by rw[<-hD];exact Xbi k2⟩,λi y hi=>?_,λg hg hn=>?_⟩,λq _ ⟨hq,v,h1,h2⟩=>?_⟩
  . have hm:=Xbd hi
    refine⟨W5s.1 hH _ hm,?_⟩
    obtain⟨⟨j,z⟩,hm1,e⟩:=W2y.1 hm
    injection e with e1 e2
    have:=W1n.1 hids _ hm1
    obtain⟨a,ha,hk⟩:=List.any_eq_true.1 this
    refine⟨a,ha,?_⟩
    rw[<-e1]
    cases a<;>simp only[Xcd,look] at hk<;>first | (cases hk;done) | skip
    all_goals
     show rnL r j=_
     split at hk
     . rename_i hx
       split at hx
       . rename_i hb;exact W0e hb
       . cases hx
     . cases hk
  . have hg':∀o x,look H0 o=some x->g (rnL r o)=some (x.rnf (rnL r)):=λo x hx=>hg _ _ (by
     obtain⟨q,hq⟩:=Xcz (ρ:=rnL r) hx
     have h1:=W5s.1 hH _ (Xbd hq)
     rw[hH' o x hx] at h1
     rw[hq];exact h1.symm)
    have hgd:g (p.d.getD 0)=none:=by rw[hD];exact hn rfl dd hdd
    obtain⟨a1,a2⟩:=Xiy hc hk hgd hg'
    refine⟨a1,λN W θ vs b0 b1 b2 b3 b4=>(a2 N W θ vs b0 b1 b2 b3 b4).mono ?_⟩
    rintro e w' ⟨W',θ',v,u,g',c1,c2,c3,c4,c5,v0,H',d1,⟨rfl,d2⟩,rfl,rfl⟩
    exact⟨W',θ',_,u,_,c1,c2,c3,c4,c5,[],.inl rfl,hsame g hg',rfl,v0,d2,rfl⟩
  . unfold aft;rw[hq,h2];exact kk v h1
 | false =>
  refine⟨_,Xiy hc hk (Xbi k2) hH',?_⟩
  rintro v g' ⟨v0,H',h1,⟨rfl,h2⟩,rfl,rfl⟩
  rw[hsame _ hH']
  exact kk v0 h2
def CO(P:Program)[Gb P](f:FuncId)(args:List AV)(Q:AV->Ob->Prop): Prop:=CW P f args [] λv H'=>∃ob,H'=[(1000000,ob)]/\Q v ob
theorem Co{f:FuncId}{asx:List AV}{Q:AV->Ob->Prop}(h:nxK c.tb c.n s=some (p,f,asx))(hc:CO c.P f asx Q)(k:∀v ob,Q v ob->p.nx' c (v.rnf (rnL [(1000000,p.d.getD 0)])) [(p.d.getD 0,ob.rnf (rnL [(1000000,p.d.getD 0)]))])
 (hk:(Xsm asx [] [] (p.d.getD 0) p.H&&p.d.isSome)=true:=by exact rfl):StP c s:=by
 rw[W0g] at hk
 obtain⟨hk,hd⟩:=hk
 have hk':=hk
 simp only[Xsm,W0g,W1u] at hk'
 obtain⟨⟨⟨⟨⟨k1,k2⟩,k3⟩,k4⟩,k5⟩,k6⟩:=hk'
 obtain⟨dd,hdd⟩:=W3g.1 hd
 have hD:p.d.getD 0=dd:=by rw[hdd];rfl
 have hid:∀ {a:AV},a.rnf (rnL [])=a:=by
  intro a
  induction a with
  | st a ih=>simp only[AV.rnf,ih]
  | tup a ih=>simp only[AV.rnf,ih]
  | fm f a ih=>simp only[AV.rnf,ih]
  | pr a c iha ihc=>simp only[AV.rnf,iha,ihc]
  | _=>rfl
 have hmap:asx.map (AV.rnf (rnL []))=asx:=by rw[show AV.rnf (rnL [])=id from funext λa=>hid,List.map_id]
 have hcs:∀ {g:Hp},g (p.d.getD 0)=none->CS c.P f asx g λv g'=>∃v0 ob,Q v0 ob/\v=v0.rnf (rnL [(1000000,p.d.getD 0)])/\g'=Xbe g [(p.d.getD 0,ob.rnf (rnL [(1000000,p.d.getD 0)]))]:=by
  intro g hg
  obtain⟨a1,a2⟩:=Xiy hc hk hg (λo x hx=>by simp[look] at hx)
  rw[hmap] at a2
  refine⟨a1,λN W θ vs b0 b1 b2 b3 b4=>(a2 N W θ vs b0 b1 b2 b3 b4).mono ?_⟩
  rintro e w' ⟨W',θ',v,u,g',c1,c2,c3,c4,c5,v0,H',d1,⟨ob,rfl,d2⟩,rfl,rfl⟩
  refine⟨W',θ',_,u,_,c1,c2,c3,c4,c5,v0,ob,d2,rfl,?_⟩
  simp[rfH,rnL]
 refine Xum h rfl ⟨⟨p.d, .move (.tmp 0), 0, "", #[], none⟩, rfl, ?_⟩
 have kk:∀v ob,Q v ob->WL c.P c.tb p.dr p.L (J c p.K) p.l (S.put ((sem p.E p.H).1,Xbe (sem p.E p.H).2 [(p.d.getD 0,ob.rnf (rnL [(1000000,p.d.getD 0)]))]) p.d (v.rnf (rnL [(1000000,p.d.getD 0)]))):=λv ob hv=>by
  have:=Pl.nx'_eq.1 (k v ob hv)
  have this:WL c.P c.tb p.dr p.L (J c p.K) p.l (sem (Xsl p.E p.d _) (_++p.H)):=this
  rw[Xfa]
  exact this
 generalize WL c.P c.tb p.dr p.L (J c p.K) p.l=R at kk |-
 cases p.dr with
 | true =>
  refine⟨true,λ_=>none,λq=>∃v ob,Q v ob/\q=(v.rnf (rnL [(1000000,p.d.getD 0)]),[(p.d.getD 0,ob.rnf (rnL [(1000000,p.d.getD 0)]))]),⟨λ_=>⟨dd,hdd,by rw[<-hD];exact Xbi k2⟩,λi y hi=>(nomatch hi),λg _ hn=>?_⟩,?_⟩
  . obtain⟨a1,a2⟩:=hcs (g:=g) (by rw[hD];exact hn rfl dd hdd)
    refine⟨a1,λN W θ vs b0 b1 b2 b3 b4=>(a2 N W θ vs b0 b1 b2 b3 b4).mono ?_⟩
    rintro e w' ⟨W',θ',v,u,g',c1,c2,c3,c4,c5,v0,ob,d1,rfl,rfl⟩
    exact⟨W',θ',_,u,_,c1,c2,c3,c4,c5,_,.inr ⟨rfl,dd,_,hdd,by rw[hD]⟩,rfl,v0,ob,d1,rfl⟩
  . rintro q _ ⟨v,ob,h1,rfl⟩
    exact kk v ob h1
 | false =>
  refine⟨_,hcs (Xbi k2),?_⟩
  rintro v g' ⟨v0,ob,h1,rfl,rfl⟩
  exact kk v0 ob h1
def CG(P:Program)[Gb P](f:FuncId)(args:List AV)(sz:Nat)(xs:List D): Prop:=CO P f args λv ob=>v=.gr 1000000 sz xs/\ob=.tok xs.length sz
theorem Cg{f:FuncId}{asx:List AV}{sz:Nat}{xs:List D}(h:nxK c.tb c.n s=some (p,f,asx))(hc:CG c.P f asx sz xs)(k:p.nx' c (.gr (p.d.getD 0) sz xs) [(p.d.getD 0,.tok xs.length sz)])
 (hk:(Xsm asx [] [] (p.d.getD 0) p.H&&p.d.isSome)=true:=by exact rfl):StP c s :=
 Co h hc (λv ob hv=>by obtain⟨rfl,rfl⟩:=hv;exact k) hk
def CA(P:Program)[Gb P](f:FuncId)(args:List AV)(sz:Nat)(xs:List D): Prop:=CO P f args λv ob=>v=.own 1000000 sz 0 xs.length/\ob=.arr sz xs
theorem Cr{f:FuncId}{asx:List AV}{sz:Nat}{xs:List D}(h:nxK c.tb c.n s=some (p,f,asx))(hc:CA c.P f asx sz xs)(k:p.nx' c (.own (p.d.getD 0) sz 0 xs.length) [(p.d.getD 0,.arr sz xs)])
 (hk:(Xsm asx [] [] (p.d.getD 0) p.H&&p.d.isSome)=true:=by exact rfl):StP c s :=
 Co h hc (λv ob hv=>by obtain⟨rfl,rfl⟩:=hv;exact k) hk
end
theorem CW.data{P:Program}[Gb P]{f:FuncId}{args:List AV}{Post:AV->Hpl->Prop}{Q:AV->Prop}(h:CW P f args [] Post)(hn:(args.all Xkz)=true)(hp:∀v H',Post v H'->∃v',FitR (look H') [] v v'/\Q v'): C P f args Q:=by
 refine⟨h.1,λW vs hg ha=>(h.2 W θe vs hg ⟨λo x h=>(nomatch h),λo x b h=>(nomatch h),λo o' x x' b h=>(nomatch h),λo x i h=>(nomatch h)⟩ ha).mono ?_⟩
 rintro e w' ⟨W',θ',v,u,H',rfl,rfl,hf,hob,hv,hvi,_,_,hpo⟩
 obtain⟨v',hfit,hq⟩:=hp v H' hpo
 have hX:∀b,¬Xof θe ([]:Hpl) b:=λb ⟨o,x,h,_⟩=>(nomatch h)
 let W2:GW:=⟨W'.w,W.A,λb i h=>W0v (W.hA b i h) hf.size⟩
 have hle:LeF W' W2:=λb i x hx=>⟨hx.1,λhA=>hx.2 ((hf.A b (W.hA b i hA) (hX b) i).2 hA)⟩
 have E:Exi W' W2 (λb=>W.size<=b\/Xof θe ([]:Hpl) b) θ' (look H') []:=⟨hob,hle,λo x b ho hl hb _ i y hy=>⟨hy,λhA=>absurd (W.hA b i hA) (W5t.2 ((hob.new o x b ho hl hb).resolve_right (hX b)))⟩⟩
 obtain⟨f1,f2⟩:=Yek E hfit hv
 have f2:∀i,¬v'.ids i:=λi hi=>by obtain⟨y,hy⟩:=f2 i hi;cases hy
 exact⟨W2,v',u,rfl,rfl,⟨hf.os,hf.out,hf.tape,hf.size,λb hb _=>hf.same b hb (hX b),λ_ _ _ _=>W3x,λb i x hx=>⟨(hf.le b i x hx).1,hx.2⟩⟩,f1.mono (LeF.refl W2) λi hi=>absurd hi (f2 i),f2,hq⟩
theorem CG.data{P:Program}[Gb P]{f:FuncId}{args:List AV}{sz:Nat}{xs:List D}(h:CG P f args sz xs)(hn:(args.all Xkz)=true:=by exact rfl): C P f args (·=.d (.sl sz xs)) :=
 CW.data h hn λv H' ⟨ob,e,h1,h2⟩=>⟨_,by rw[h1];exact .one (.gr rfl) rfl rfl,rfl⟩
theorem CA.data{P:Program}[Gb P]{f:FuncId}{args:List AV}{sz:Nat}{xs:List D}(h:CA P f args sz xs)(hn:(args.all Xkz)=true:=by exact rfl): C P f args (·=.d (.sl sz xs)) :=
 CW.data h hn λv H' ⟨ob,e,h1,h2⟩=>⟨_,by rw[h1,e,h2];exact .one (.own rfl (by simp) (by simp)) rfl rfl,rfl⟩
end
section
section
variable{c:Cx}{s:St}{p:Pl}
noncomputable def Ynu(tb:Nat->Option TI)(n:Nat)(s:St): Option (Pl×Bool×IntKind×Int×Int):=match nxA tb n s with
 | some (p,o,[.d (.int k x),.d (.int k' y)])=>match o.op with
  | .call ⟨.builtin .min,_,_⟩=>if k=k' then some (p,true,k,x,y) else none
  | .call ⟨.builtin .max,_,_⟩=>if k=k' then some (p,false,k,x,y) else none
  | _=>none
 | _=>none
theorem Mm{b:Bool}{k:IntKind}{x y:Int}(r:Int)(h:Ynu c.tb c.n s=some (p,b,k,x,y))(kk:p.nx c (.d (.int k r)))(hr:(match b with | true=>min x y | false=>max x y)=r:=by first | rfl | omega): StP c s:=by
 unfold Ynu at h
 split at h<;>try cases h
 rename_i p' o k1 x1 k2 y1 hA
 split at h<;>try cases h
 . rename_i asx tys ho
   split at h<;>cases h
   rename_i hk
   refine Xbr (us:=[]) hA ?_ (Pl.nx_nil kk)
   rw[ho]
   simp only[F,Fp,if_pos hk]
   subst hr
   simp only[Int.min_def]
   split<;>split<;>first | rfl | (congr;omega)
 . rename_i asx tys ho
   split at h<;>cases h
   rename_i hk
   refine Xbr (us:=[]) hA ?_ (Pl.nx_nil kk)
   rw[ho]
   simp only[F,Fp,if_pos hk]
   subst hr
   simp only[Int.max_def]
   split<;>split<;>first | rfl | (congr;omega)
noncomputable def nxY(tb:Nat->Option TI)(n:Nat)(s:St): Option (Pl×List UInt8×Int):=match nxA tb n s with
 | some (p,o,[.d (.str t),.d (.int _ j)])=>match o.op with
  | .index T _ _=>match tb T with
   | some ⟨.str _,_,_,_⟩=>some (p,t,j)
   | _=>none
  | _=>none
 | _=>none
theorem Yx(i:Nat)(b:UInt8){t:List UInt8}{j:Int}(h:nxY c.tb c.n s=some (p,t,j))(hb:t[i]?=some b)(kk:p.nx c (.d (.int .u8 b.toNat)))(hj:j=(i:Int):=by first | exact rfl | omega): StP c s:=by
 subst hj
 unfold nxY at h
 split at h<;>try cases h
 rename_i hA
 split at h<;>try cases h
 rename_i ho
 split at h<;>cases h
 rename_i ht
 refine Xbr (us:=[]) hA ?_ (Pl.nx_nil kk)
 rw[ho]
 simp[F,Fp,ht,hb]
end
def nbA: AV->AV
 | .d (.bool c)=>.b c
 | a=>a
theorem Ylx{W:GW}{θ:Loc}{a:AV}{u:Value}(h:AV.V W θ a u): AV.V W θ (nbA a) u:=by
 unfold nbA;split
 . obtain⟨cs,h1,h2⟩:=h;exact⟨cs,h1,h2⟩
 . exact h
theorem Yhs{W:GW}{θ:Loc}: ∀ {asx:List AV} {vs:List Value},Xi3 W θ asx vs->Xi3 W θ (asx.map nbA) vs
 | [],[],_=>trivial
 | a::asx,v::vs,h=>⟨Ylx h.1,Yhs h.2⟩
 | [],_::_,h=>h.elim
 | _::_,[],h=>h.elim
theorem C.mono{P:Program}[Gb P]{f:FuncId}{asx:List AV}{Q Q':AV->Prop}(h:C P f asx Q)(k:∀v,Q v->Q' v): C P f asx Q':=⟨h.1,λW vs hg ha=>(h.2 W vs hg ha).mono λe w' ⟨W',v,u,h1,h2,h3,h4,h5,h6⟩=>⟨W',v,u,h1,h2,h3,h4,h5,k v h6⟩⟩
theorem C.nb{P:Program}[Gb P]{f:FuncId}{asx:List AV}{Q:AV->Prop}(h:C P f (asx.map nbA) Q): C P f asx Q:=⟨h.1,λW vs hg ha=>h.2 W vs hg (Yhs ha)⟩
end
section
def Yii: AV->List Nat
 | .st a | .tup a | .fm _ a=>Yii a
 | .pr a c=>Yii a++Yii c
 | .ptr o _ | .own o _ _ _ | .ow3 o _ _ _ | .gr o _ _ | .el o _ _ _ | .fn _ o | .ap o _ | .cx o _ _=>[o]
 | _=>[]
theorem Xew{i:Nat}: ∀ {a:AV},a.ids i->i∈Yii a
 | .st a,h=>Xew (a:=a) h
 | .tup a,h=>Xew (a:=a) h
 | .fm _ a,h=>Xew (a:=a) h
 | .pr a c,h=>W1s.2 (h.imp (Xew (a:=a)) (Xew (a:=c)))
 | .ptr o _,h | .own o _ _ _,h | .ow3 o _ _ _,h | .gr o _ _,h | .el o _ _ _,h | .fn _ o,h | .ap o _,h | .cx o _ _,h=>W0h.2 h
abbrev Trk:=List (Nat×List Nat)
def dsL: List Oper->List Nat
 | []=>[]
 | o::l=>match o.dst with
  | some d=>d::dsL l
  | none=>dsL l
theorem Xwg{o:Oper}{d:Nat}(hd:o.dst=some d): ∀ {L:List Oper},o∈L->d∈dsL L
 | x::l,h=>by
  rcases W1j.1 h with e | e
  . subst e;simp[dsL,hd]
  . have:=Xwg hd e
    simp only[dsL];split<;>simp[this]
def bnd(D:List Nat)(E:Env)(T:Trk)(t:Nat): Option (List Nat):=match inL t D with
 | true=>look T t
 | false=>match look E t with
  | some v=>some (Yii v)
  | none=>none
def Yjy: Op->Option Nat
 | .move (.tmp t) | .assign (.tmp t) | .nilCheck (.tmp t) | .fieldAddr _ (.tmp t) _ | .indexAddr _ (.tmp t) _=>some t
 | _=>none
def ldO: Op->Option Nat
 | .load _ (.tmp t)=>some t
 | _=>none
def Xij: Op->Bool
 | .alloc _ | .box _ _=>true
 | _=>false
def trk(D:List Nat)(E:Env): List Oper->Trk->Trk
 | [],T=>T
 | o::l,T=>match o.dst with
  | none=>trk D E l T
  | some d=>match Xij o.op,Yjy o.op with
   | true,_=>trk D E l ((d,[d])::T)
   | false,some t=>match bnd D E T t with
    | some v=>trk D E l ((d,v)::T)
    | none=>trk D E l T
   | false,none=>match ldO o.op with
    | some t=>match bnd D E T t with
     | some []=>trk D E l ((d,[])::T)
     | _=>trk D E l T
    | none=>trk D E l T
def Ynh(a b:List Nat): Bool:=a.all λx=>inL x b
def Xlx(D:List Nat)(E:Env)(T:Trk)(L:List Oper): Bool:=(T.all λx=>!Xcd E x.1)&&L.all λo=>match o.dst with
 | none=>true
 | some d=>match look T d with
  | none=>true
  | some l=>(Xij o.op&&inL d l)||match Yjy o.op with
   | some t=>match bnd D E T t with
    | some v=>Ynh v l
    | none=>false
   | none=>match ldO o.op with
    | some t=>match bnd D E T t with
     | some []=>true
     | _=>false
    | none=>false
def Yh7(L:List Oper)(D:List Nat)(E:Env)(T:Trk)(k i:Oper): Bool:=match k.op,i.op with
 | .load _ (.tmp a),.store _ (.tmp b) _=>match bnd D E T a,bnd D E T b with
  | some la,some lb=>Xby L k.dst i&&Xby L i.dst k&&la.all λx=>!inL x lb
  | _,_=>false
 | _,_=>false
def spT(L:List Oper)(D:List Nat)(E:Env)(T:Trk)(k i:Oper): Bool:=Yh7 L D E T k i||Yh7 L D E T i k
def ZT(D:List Nat)(E:Env)(T:Trk)(s:S): Prop:=(∀t,inL t D=false->s.1 t=look E t)/\∀t l,look T t=some l->s.1 t=none\/∃x,s.1 t=some x/\∀i,x.ids i->i∈l
section
variable{tb:Nat->Option TI}
theorem Xna{D:List Nat}{E:Env}{T:Trk}{s:S}(hz:ZT D E T s){t:Nat}{l:List Nat}(h:bnd D E T t=some l){v:AV}(hv:s.1 t=some v){i:Nat}(hi:v.ids i): i∈l:=by
 unfold bnd at h
 split at h
 . rcases hz.2 t l h with e | ⟨x,e,h1⟩<;>rw[hv] at e
   . cases e
   . injection e with e;subst e;exact h1 i hi
 . rename_i hD
   have e:=hz.1 t hD
   rw[hv] at e
   rw[<-e] at h
   injection h with h;subst h
   exact Xew hi
theorem Yew{o:Oper}{t:Nat}(ha:Yjy o.op=some t){s:S}{r:AV×List (Nat×Ob)}(h:eff tb o s=some r): ∃v,s.1 t=some v/\∀i,r.1.ids i->v.ids i:=by
 have one:∀ {x:Nat} {asx:List AV},getEs s.1 [.tmp x]=some asx->∃v,s.1 x=some v/\asx=[v]:=by
  intro x asx h
  simp only[getEs,Xc4] at h
  split at h<;>try cases h
  rename_i v hv
  exact⟨v,hv,rfl⟩
 unfold eff at h
 split at h<;>try cases h
 rename_i asx has
 split at h<;>try cases h
 unfold Yjy at ha
 split at ha<;>cases ha
 all_goals rename_i ho
 . rw[ho] at h has
   obtain⟨v,hv,rfl⟩:=one has
   simp only[F,Fp] at h
   injection h with h;subst h
   exact⟨v,hv,λ_ h=>h⟩
 . rw[ho] at h has
   obtain⟨v,hv,rfl⟩:=one has
   simp only[F,Fp] at h
   injection h with h;subst h
   exact⟨v,hv,λ_ h=>h⟩
 . rw[ho] at h has
   obtain⟨v,hv,rfl⟩:=one has
   refine⟨v,hv,?_⟩
   simp only[F,Fp] at h
   split at h<;>try cases h
   rename_i hq
   split at hq<;>cases hq
   rename_i e;cases e
   exact λ_ h=>h
 . rw[ho] at h has
   obtain⟨v,hv,rfl⟩:=one has
   refine⟨v,hv,?_⟩
   simp only[F,Fp] at h
   split at h<;>try cases h
   rename_i hq
   split at hq<;>try cases hq
   split at hq<;>try cases hq
   split at hq<;>try cases hq
   split at hq<;>try cases hq
   . rename_i e;cases e
     split at hq<;>cases hq
     exact λ_ h=>h
   all_goals
    rename_i e;cases e
    exact λ_ h=>h
 . rw[ho] at h has
   rename_i T' y' _
   simp only[Op.operands,getEs] at has
   split at has<;>try cases has
   rename_i v hv
   split at has<;>try cases has
   rename_i as' has'
   refine⟨v,hv,?_⟩
   simp only[F,Fp] at h
   split at h<;>try cases h
   rename_i hq
   split at hq<;>try cases hq
   rename_i e;cases e
   split at hq<;>try cases hq
   . unfold ixA at hq
     split at hq<;>try cases hq
     . unfold ixA.ixL at hq
       split at hq<;>try cases hq
       split at hq<;>cases hq
       exact λ_ h=>h.elim
     . unfold ixA.ixL at hq
       split at hq<;>try cases hq
       split at hq<;>cases hq
       exact λ_ h=>h.elim
     . unfold ixA.ixL at hq
       split at hq<;>try cases hq
       split at hq<;>cases hq
       exact λ_ h=>h.elim
     . split at hq<;>cases hq
       exact λ_ h=>h
     . split at hq<;>cases hq
       exact λ_ h=>h
   . split at hq<;>cases hq
     exact λ_ h=>h
theorem Yl6{o:Oper}{t:Nat}(ha:ldO o.op=some t){s:S}{r:AV×List (Nat×Ob)}(h:eff tb o s=some r): ∃v,s.1 t=some v/\((∃i,v.ids i)\/∀i,¬r.1.ids i):=by
 unfold ldO at ha
 split at ha<;>cases ha
 rename_i hop
 have:∃v,s.1 t=some v:=by
  unfold eff at h
  split at h<;>try cases h
  rename_i asx has
  rw[hop] at has
  simp only[Op.operands,getEs,Xc4] at has
  split at has<;>try cases has
  exact⟨_,by assumption⟩
 obtain⟨v,hv⟩:=this
 refine⟨v,hv,?_⟩
 have has:getEs s.1 o.op.operands.toList=some [v]:=by rw[hop];simp[Op.operands,getEs,Xc4,hv]
 unfold eff at h
 rw[has] at h
 simp only[hop,Xd1,Bool.false_and,F] at h
 split at h<;>try cases h
 rename_i ti hti
 cases v<;>try (cases h;done)
 . simp only[hti] at h
   split at h<;>cases h
   exact .inr λi hi=>Xmg _ i hi
 . exact .inl ⟨_,rfl⟩
 . exact .inl ⟨_,rfl⟩
theorem Yh9{k:Oper}{T:TypeId}{a:Nat}(ho:k.op=.load T (.tmp a)){e:Ev}{g g':Hp}{r:AV×List (Nat×Ob)}{v:AV}(hv:e a=some v)(hg:∀i,v.ids i->g i=g' i)(h:eff tb k (e,g)=some r): r.2=[]/\eff tb k (e,g')=some r:=by
 have has:getEs e k.op.operands.toList=some [v]:=by rw[ho];simp[Op.operands,getEs,Xc4,hv]
 unfold eff at h |-
 rw[has] at h |-
 simp only[ho,Xd1,Bool.false_and,F] at h |-
 split at h<;>try cases h
 rename_i ti hti
 cases v<;>try (cases h;done)
 . simp only[hti] at h |-
   split at h<;>cases h
   rename_i hf
   exact⟨rfl,by simp[hf]⟩
 . simp only[hti] at h |-
   rw[<-hg _ rfl]
   split at h<;>try cases h
   rename_i hq
   split at h<;>cases h
   rename_i hy
   exact⟨rfl,by simp[hq,hy]⟩
 . simp only[hti] at h |-
   rw[<-hg _ rfl]
   split at h<;>try cases h
   rename_i hq
   split at h<;>try cases h
   rename_i hs
   split at h<;>try cases h
   rename_i hx
   split at h<;>cases h
   rename_i hy
   exact⟨rfl,by simp[hq,hs,hx,hy]⟩
theorem Ylg{i:Oper}{T:TypeId}{b:Nat}{x:Operand}(ho:i.op=.store T (.tmp b) x){e:Ev}{g:Hp}{r:AV×List (Nat×Ob)}(h:eff tb i (e,g)=some r): ∃v o ob,e b=some v/\v.ids o/\r.2=[(o,ob)]:=by
 unfold eff at h
 split at h<;>try cases h
 rename_i asx has
 rw[ho] at has
 simp only[Op.operands,getEs,Xc4] at has
 split at has<;>try cases has
 rename_i v hv
 split at has<;>try cases has
 rename_i as' has'
 split at h<;>try cases h
 rw[ho] at h
 simp only[F] at h
 split at h<;>try cases h
 split at h<;>try cases h
 . rename_i e;cases e
   split at h<;>try cases h
   split at h<;>cases h
   exact⟨_,_,_,hv,rfl,rfl⟩
 . rename_i e;cases e
   split at h<;>try cases h
   split at h<;>try cases h
   split at h<;>cases h
   exact⟨_,_,_,hv,rfl,rfl⟩
theorem Ydt{o:Oper}(hn:Xij o.op=true){s:S}{r:AV×List (Nat×Ob)}(h:eff tb o s=some r): r.1=.ptr (o.dst.getD 0) 0:=by
 unfold eff at h
 split at h<;>try cases h
 rename_i asx has
 split at h<;>try cases h
 unfold Xij at hn
 split at hn<;>try cases hn
 all_goals
  rename_i ho
  rw[ho] at h
  simp only[F] at h
 . split at h<;>cases h;rfl
 . split at h<;>try cases h
   split at h<;>cases h;rfl
theorem Ycw{a b:List Nat}(h:Ynh a b=true){i:Nat}(hi:i∈a): i∈b:=Yl9.1 (W1n.1 h i hi)
theorem Ym3{s:S}{o:Oper}{r:AV×List (Nat×Ob)}{t:Nat}(h:o.dst≠some t): (aft s o r).1 t=s.1 t:=by
 unfold aft S.put
 cases hd:o.dst with
 | none=>rfl
 | some d=>exact Xak λe=>h (by rw[hd,e])
theorem Yj2{s:S}{o:Oper}{r:AV×List (Nat×Ob)}{t:Nat}(h:o.dst=some t): (aft s o r).1 t=some r.1:=by
 unfold aft S.put
 rw[h];exact Xaj ..
theorem ZT.aft{L:List Oper}{E:Env}{T:Trk}(hT:Xlx (dsL L) E T L=true){o:Oper}(ho:o∈L){s:S}(hz:ZT (dsL L) E T s){r:AV×List (Nat×Ob)}
 (hr:r.1=.un\/(Xap o=true)\/eff tb o s=some r):ZT (dsL L) E T (aft s o r):=by
 refine⟨λt ht=>?_,λt l hl=>?_⟩
 . rw[Ym3 λe=>by rw[Yl9.2 (Xwg e ho)] at ht;cases ht]
   exact hz.1 t ht
 . by_cases hd:o.dst=some t
   . refine .inr ⟨r.1,Yj2 hd,λi hi=>?_⟩
     simp only[Xlx,W0g] at hT
     have:=W1n.1 hT.2 o ho
     rw[hd] at this
     simp only[hl,W3q,W0g] at this
     rcases hr with hr | hr | hr
     . rw[hr] at hi;exact hi.elim
     . obtain⟨x,asx,tys,hc⟩:=Xik hr
       rw[hc] at this
       simp[Xij,Yjy,ldO] at this
     . rcases this with ⟨h1,h2⟩ | h
       . rw[Ydt h1 hr,hd] at hi
         have hi:i=t:=hi
         rw[hi];exact Yl9.1 h2
       . split at h
         . rename_i t' ha
           split at h
           . rename_i v hv
             obtain⟨x,hx,h1⟩:=Yew ha hr
             exact Ycw h (Xna hz hv hx (h1 i hi))
           . cases h
         . split at h
           . rename_i t' ha
             split at h
             . rename_i hv
               obtain⟨x,hx,⟨j,hj⟩ | h1⟩:=Yl6 ha hr
               . exact absurd (Xna hz hv hx hj) (by simp)
               . exact absurd hi (h1 i)
             . cases h
           . cases h
   . rw[Ym3 hd];exact hz.2 t l hl
theorem Xf6{L:List Oper}{E:Env}{T:Trk}{k i:Oper}(h:Yh7 L (dsL L) E T k i=true): Xap k=false/\Xap i=false/\Xby L k.dst i=true/\Xby L i.dst k=true/\∀ {s:S},ZT (dsL L) E T s ->
 (∀ {rk},efw tb L k s=some rk->rk.2=[])/\∀ {g:Hp} {ri:AV×List (Nat×Ob)},efw tb L i (s.1,g)=some ri->∀rk,efw tb L k (s.1,g)=some rk↔efw tb L k (s.1,Xbe g ri.2)=some rk:=by
 unfold Yh7 at h
 split at h
 . rename_i T1 a T2 b x hk hi
   split at h
   . rename_i la lb hla hlb
     simp only[W0g] at h
     obtain⟨⟨h1,h2⟩,h3⟩:=h
     refine⟨by unfold Xap;rw[hk];rfl,by unfold Xap;rw[hi];rfl,h1,h2,λ{s} hz=>⟨λ{rk} hr=>?_,λ{g ri} hri rk=>?_⟩⟩
     . rcases Xay hr with ⟨_,e,_⟩ | ⟨_,e⟩
       . exact e
       . exact(Ymo (o:=k) (by rw[hk];rfl) (e:=s.1) (g:=s.2) e).1
     . have key:∀ {g g':Hp},(∀o,o ∉ lb->g o=g' o)->efw tb L k (s.1,g)=some rk->efw tb L k (s.1,g')=some rk:=by
        intro g g' hg hr
        rcases Xay hr with ⟨_,_,e⟩ | ⟨hw,e⟩
        . exact e g'
        . have:∃v,s.1 a=some v:=by
           unfold eff at e
           split at e<;>try cases e
           rename_i asx has
           rw[hk] at has
           simp only[Op.operands,getEs,Xc4] at has
           split at has<;>try cases has
           exact⟨_,by assumption⟩
          obtain⟨v,hv⟩:=this
          refine Xem (s:=(s.1,g)) hw (Yh9 hk hv (λo ho=>hg o λhb=>?_) e).2
          have:=W1n.1 h3 o (Xna hz hla hv ho)
          rw[Yl9.2 hb] at this;cases this
       have hu:∀o,o ∉ lb->g o=Xbe g ri.2 o:=by
        intro o hob
        rcases Xay hri with ⟨_,e,_⟩ | ⟨_,e⟩
        . rw[e];rfl
        . obtain⟨v,o',ob,hv,ho',e2⟩:=Ylg hi e
          rw[e2]
          show g o=upd g o' ob o
          rw[Xak λe=>hob (by rw[e];exact Xna hz hlb hv ho')]
       exact⟨key hu,key λo ho=>(hu o ho).symm⟩
   . cases h
 . cases h
theorem Dm.trk{L:List Oper}{E:Env}{T:Trk}(hT:Xlx (dsL L) E T L=true): Dm tb L (spT L (dsL L) E T) (ZT (dsL L) E T):=by
 have fin:∀ {k i:Oper} {s:S} {rk ri:AV×List (Nat×Ob)},Xby L i.dst k=true->rk.2=[]->Vm.aft (Vm.aft s i ri) k rk=Vm.aft (Vm.aft s k rk) i ri:=by
  intro k i s rk ri h hr
  unfold Vm.aft
  rw[S.put_g,S.put_g,hr]
  have e1:=S.put_e (s:=s) (g:=Xbe s.2 ri.2) (g':=s.2) (d:=i.dst) (v:=ri.1)
  have e2:=S.put_e (s:=s) (g:=Xbe s.2 []) (g':=s.2) (d:=k.dst) (v:=rk.1)
  rw[e1,e2]
  exact Xkt (s:=s) (λa b ha hb=>Xgc h ha hb) rfl
 have one:∀ {k i:Oper} {s:S} {rk ri:AV×List (Nat×Ob)},Yh7 L (dsL L) E T k i=true->ZT (dsL L) E T s->efw tb L k s=some rk->efw tb L i s=some ri->efw tb L i (Vm.aft s k rk)=some ri/\efw tb L k (Vm.aft s i ri)=some rk/\Vm.aft (Vm.aft s i ri) k rk=Vm.aft (Vm.aft s k rk) i ri:=by
  intro k i s rk ri h hz h1 h2
  obtain⟨c1,c2,a1,a2,hh⟩:=Xf6 (tb:=tb) h
  obtain⟨b1,b2⟩:=hh hz
  have e:=b1 h1
  exact⟨by rw[Xbl a1,e];exact h2,by rw[Xbl a2];exact(b2 (g:=s.2) h2 rk).1 h1,fin a2 e⟩
 refine⟨λ{k i} h=>?_,λ{k i s rk ri} h hz h1 h2=>?_,λ{k i s rk ri} h hz h1 h2=>?_,λ{k s r} hk hc hz h=>?_,λ{k s r} hk hc hz h=>ZT.aft (tb:=tb) hT hk hz (.inr (.inl hc))⟩
 . rcases W7p.1 h with h | h
   . have:=Xf6 (tb:=tb) h;exact⟨this.1,this.2.1⟩
   . have:=Xf6 (tb:=tb) h;exact⟨this.2.1,this.1⟩
 . rcases W7p.1 h with h | h
   . exact one h hz h1 h2
   . obtain⟨p1,p2,p3⟩:=one h hz h2 h1;exact⟨p2,p1,p3.symm⟩
 . rcases W7p.1 h with h | h
   . obtain⟨c1,c2,a1,a2,hh⟩:=Xf6 (tb:=tb) h
     rw[Xbl a1,(hh hz).1 h1] at h2
     exact h2
   . obtain⟨c1,c2,a1,a2,hh⟩:=Xf6 (tb:=tb) h
     rw[Xbl a2] at h2
     exact((hh hz).2 (g:=s.2) h1 ri).2 h2
 . refine ZT.aft (tb:=tb) hT hk hz ?_
   rcases Xay h with ⟨hw,_,e⟩ | ⟨_,e⟩
   . refine .inl ?_
     unfold efw at h
     rw[hw] at h
     simp only at h
     split at h<;>cases h
     rfl
   . exact .inr (.inr e)
section
variable{c:Cx}{s:St}
def Yo7: St->Bool
 | .o _ _ L _ _ E _=>Xlx (dsL L) E (trk (dsL L) E L []) L&&Xg6 L (spT L (dsL L) E (trk (dsL L) E L [])) [] [] L
 | _=>false
theorem ZT.start{L:List Oper}{E:Env}{H:Hpl}{T:Trk}(hT:Xlx (dsL L) E T L=true): ZT (dsL L) E T (sem E H):=by
 refine⟨λt _=>rfl,λt l hl=>.inl ?_⟩
 simp only[Xlx,W0g] at hT
 have:=W1n.1 hT.1 _ (Xbd hl)
 rw[W1u] at this
 exact Xbi this
theorem Dz{s':St}(h:nxD c.tb c.n s=some s')(k:StP c s')(hchk:Yo7 s'=true:=by exact rfl): StP c s:=by
 unfold nxD at h
 split at h<;>try cases h
 rename_i hr
 split at h<;>cases h
 rename_i hok
 have hchk:=Bool.and_eq_true_iff.1 hchk
 exact go 1000 hr (J.draw (Dm.trk hchk.1) (ZT.start hchk.1) hok hchk.2 k)
end
end
end
end Go.Vm
namespace Go.Proofs.YtfjafaehfjjaiaaGreatDoor
open Go Go.Vm Go.Num Go.Proofs
section
abbrev C0:=C Tryz.prog
abbrev CG0:=CG Tryz.prog
abbrev CA0:=CA Tryz.prog
abbrev CO0:=CO Tryz.prog
abbrev CN0:=CN Tryz.prog
abbrev CW0:=CW Tryz.prog
def wd(n:Nat): D:=.int .u32 n
def ws(l:List Nat): D:=.sl 1 (l.map wd)
def dS(b:Bool)(l:List Nat): D:=.st (.pr (.bool b) (ws l))
theorem mp{α:Type}{l:List α}{f:α->D}{j:Nat}{u:α}(h:l[j]?=some u): (l.map f)[j]?=some (f u):=by simp[h]
theorem ms{α:Type}{l:List α}{f:α->D}{j:Nat}{u:α}: (l.map f).set j (f u)=(l.set j u).map f:=by simp
theorem Xa5{l:List Nat}(hw:Xaq l)(hl:l.length<=1099511627776): C0 167 [.d (ws l)] (·=.d (ws (dig (val l)))):=by
 refine En Tryz.func167 λ_ _ _=>?_
 refine Lo (λk=>[(0,.d (ws (l.take k)))]) (λ_=>[]) (λk=>k<=l.length/\val (l.take k)=val l) id l.length [] rfl ⟨W0a _,by rw[W2j]⟩ (λk ⟨hk,hv⟩=>?_) (hf:=⟨by simp only[W2j];rfl,rfl,rfl,rfl,rfl⟩)
 refine By rfl (λh=>?_) λh=>?_<;>simp only[W0i,W0j,W2f hk] at h
 . have hl:((l.take k).map wd).length=k:=by simp;omega
   refine Ar (k-1:Nat) rfl ?_
   have hx:=W0c (l:=l) (i:=k-1) (by omega)
   refine Ix (k-1) rfl (u:=wd l[k-1]) (mp (by rw[W1e,if_pos (by omega),hx])) ?_
   have hs:=Xac hx
   rw[show k-1+1=k by omega,hv] at hs
   refine By rfl (λh0=>?_) λh0=>?_
   . refine Ar (k-1:Nat) rfl ?_
     refine Tk (k-1) ((l.take (k-1)).map wd) rfl rfl (by simp;omega) (by rw[<-W2e,List.take_take,W2f (by omega)]) ?_
     exact Bk (k-1) [] rfl ⟨by omega,by rw[hs,show l[k-1]=0 by omega,W3d,W2n]⟩ (show k-1<k by omega)
   . exact R1 rfl (.eq (by rw[<-hv,Xfj (hw.take k) (.inr ⟨l[k-1],by rw[W0j,W2f hk,W1e,if_pos (by omega),hx],λe=>h0 (by rw[e];rfl)⟩)]))
 . refine R1 rfl (.eq ?_)
   rw[show k=0 by omega] at hv |-
   rw[<-hv,W5c,val,Xan]
theorem Xce{n:Nat}(h:n<18446744073709551616): C0 194 [.d (.int .u64 n)] (·=.d (ws (dig n))):=by
 refine En Tryz.func194 λ_ _ _=>?_
 refine Go.Vm.Cv (n%4294967296:Nat) rfl ?_ (hr:=by rw[wWm];omega)
 refine Ar (n/4294967296:Nat) rfl ?_ (hr:=show _/\_ from⟨by omega,Ygu n⟩)
 refine Go.Vm.Cv (n/4294967296:Nat) rfl ?_
 refine Ce rfl (Xa5 (l:=[n%4294967296,n/4294967296]) (.cons (by omega) (.cons (by omega) .nil)) (by simp)) ?_
 exact R1 rfl (.eq (by rw[show val [n%4294967296,n/4294967296]=n by simp only[val];omega]))
theorem trim_dig_ok{n:Nat}(h:(dig n).length<=1099511627776): C0 167 [.d (ws (dig n))] (·=.d (ws (dig n))):=by
 have:=Xa5 (Xae n) h
 rwa[Xag] at this
theorem Xtn{b:Bool}{n:Nat}(h:(dig n).length<=1099511627776): C0 184 [.d (.bool b),.d (ws (dig n))] (·=.d (dS (b&&n != 0) (dig n))):=by
 refine En Tryz.func184 λ_ _ _=>?_
 refine Ce rfl (trim_dig_ok h) ?_
 refine By rfl (λh=>?_) λh=>?_<;>simp only[W0i] at h
 . have:n=0:=Xr7.1 (W0o (by omega))
   subst this
   exact R1 rfl (by exact .sd (.pd (.bd (by simp)) (.nil (by rw[Xan];rfl))))
 . have:n≠0:=λe=>h (by rw[e,Xan];rfl)
   rw[show (b&&n != 0)=b by simp[this]]
   exact R0
def dz(z:Int): D:=dS (decide (z<0)) (dig z.natAbs)
def sg(neg:Bool)(n:Nat): Int:=if neg then -(n:Int) else (n:Int)
theorem Xwu{p:Prop}[Decidable p]: dc p=decide p:=by rw[W5h,Xah,decide_eq_true_iff]
instance {p:Prop} [Decidable p]:Dc (decide p) p:=⟨decide_eq_true_iff⟩
theorem Yi9{b:Bool}{n:Nat}: dS (b&&n != 0) (dig n)=dz (sg b n):=by
 unfold dz sg
 cases b with
 | true =>
  rw[if_pos rfl,W5d,W1f]
  congr 1
  rw[W5h];simp;omega
 | false=>rw[if_neg (by decide),W1f];congr 1
theorem Xao{b:Bool}{n:Nat}(h:(dig n).length<=1099511627776): C0 184 [.d (.bool b),.d (ws (dig n))] (·=.d (dz (sg b n))):=by
 have:=Xtn (b:=b) h
 rwa[Yi9] at this
theorem Xpx(z:Int): sg (decide (z<0)) z.natAbs=z:=by
 unfold sg;by_cases h:z<0
 . rw[if_pos (decide_eq_true h)];omega
 . rw[if_neg (by rw[decide_eq_true_eq];exact h)];omega
theorem FromInt_ok{z:Int}(h:-9223372036854775808<=z/\z<9223372036854775808): C0 116 [.d (.int .i64 z)] (·=.d (dz z)):=by
 have hl:(dig z.natAbs).length<=2:=Xas (by omega)
 refine En Tryz.func116 λ_ _ _=>?_
 refine Go.Vm.Cv (z%18446744073709551616) rfl ?_ (hr:=wUm _)
 refine By rfl (λh=>?_) λh=>?_
 . refine Ne (z.natAbs:Int) rfl ?_ (hr:=by rw[wUm];omega)
   refine Ce rfl (Xce (n:=z.natAbs) (by omega)) ?_
   refine Ce rfl (Xao (n:=z.natAbs) (by omega)) ?_
   exact R1 rfl (.eq (by rw[Xwu,Xpx]))
 . refine Ce (r:=.d (ws (dig z.natAbs))) rfl (by have:=Xce (n:=z.natAbs) (by omega);rwa[show ((z.natAbs:Nat):Int)=z%18446744073709551616 by omega] at this) ?_
   refine Ce rfl (Xao (n:=z.natAbs) (by omega)) ?_
   exact R1 rfl (.eq (by rw[Xwu,Xpx]))
end
section
theorem ww{l:List Nat}{j:Nat}{u:Nat}(h:l[j]?=some u)(hw:Xaq l): u<4294967296:=hw u (W0f h)
theorem xat{l:List Nat}{k:Nat}(h:k<l.length): ∃x,l[k]?=some x:=⟨_,W0c h⟩
theorem Xi4{k:IntKind}{s n:Nat}(hn:n<=k.bits): arB .shr k s n (s/2^n:Nat):=by
 refine⟨by omega,?_⟩
 rw[W7f,W2f hn,show (2:Int)^n=((2^n:Nat):Int) by rw[W7l];rfl,W1r _ (W5b _)]
 rfl
theorem Xh9{x y:Nat}(hx:(dig x).length<=1099511627775)(hy:(dig y).length<=1099511627775): C0 189 [.d (ws (dig x)),.d (ws (dig y))] (·=.d (ws (dig (x+y)))):=by
 refine En Tryz.func189 λ_ _ _=>?_
 refine Cu none (λ(a,b)=>[(0,.d (ws (dig a))),(1,.d (ws (dig b)))]) (λ_=>[]) (λ(a,b)=>a+b=x+y/\(dig b).length<=(dig a).length/\(dig a).length<=1099511627775) rfl ?_ λ⟨a,b⟩ ⟨hs,hle,hbig⟩=>?_
 . refine By rfl (λh=>?_) λh=>?_<;>simp only[W0i] at h
   . exact Jn (y,x) [] rfl ⟨Nat.add_comm _ _,by omega,hy⟩
   . exact Jn (x,y) [] rfl ⟨rfl,by omega,hx⟩
 refine Ar ((dig a).length+1) rfl ?_ (wr (by simp) (by simp only[inK];omega))
 refine Mk 0 rfl (by omega) ?_
 refine Lo (λ(k,lo,cr)=>[(1,.d (ws (dig b))),(5,.own 19 1 0 k),(6,.d (.int .u64 (cr:Nat))),(20,.d (ws (dig a))),(21,.d (.int .i64 (dig a).length)),(22,.d (.int .i64 (k:Nat)))]) (λ(_,lo,_)=>[(19,.arr 1 (lo.map wd))])
  (λ(k,lo,cr)=>k<=(dig a).length/\lo.length=k/\Xaq lo/\cr<=1/\val lo+4294967296^k*cr=val ((dig a).take k)+val ((dig b).take k)) (λ(k,_,_)=>(dig a).length-k) (0,[],0) [] rfl ⟨by omega,rfl,.nil,by omega,by simp[val]⟩ ?_ (by exact⟨by simp only[ws,W0i];rfl,rfl,rfl,rfl,rfl⟩)
 rintro⟨k,lo,cr⟩ ⟨hk,hl,hw,hcr,hval⟩
 refine By rfl (λh=>?_) λh=>?_
 . obtain⟨u,hu⟩:=xat (l:=dig a) (k:=k) (by omega)
   have hub:=ww hu (Xae a)
   refine Ix k rfl (mp hu) ?_
   refine Go.Vm.Cv u rfl ?_
   refine Ar (cr+u:Nat) rfl ?_
   refine Cu none (λ(s:Nat)=>[(1,.d (ws (dig b))),(5,.own 19 1 0 k),(6,.d (.int .u64 s)),(20,.d (ws (dig a))),(21,.d (.int .i64 (dig a).length)),(22,.d (.int .i64 k))]) (λ_=>[(19,.arr 1 (lo.map wd))])
    (λs=>s<8589934592/\4294967296^k*s+val lo=val ((dig a).take (k+1))+val ((dig b).take (k+1))) rfl ?_ λs ⟨hs8,hsv⟩=>?_
   . refine By rfl (λh2=>?_) λh2=>?_<;>simp only[W0i] at h2
     . obtain⟨u2,hu2⟩:=xat (l:=dig b) (k:=k) (by omega)
       have hub2:=ww hu2 (Xae b)
       refine Ix k rfl (mp hu2) ?_
       refine Go.Vm.Cv u2 rfl ?_
       refine Ar (cr+u+u2:Nat) rfl ?_
       exact Jn (cr+u+u2) [] rfl ⟨by omega,by rw[Xac hu,Xac hu2,W1c,W1c];omega⟩
     . exact Jn (cr+u) [] rfl ⟨by omega,by rw[Xac hu,Xgo (l:=dig b) (by omega),W1c];omega⟩
   refine Go.Vm.Cv (s%4294967296:Nat) rfl ?_ (by rw[wWm];omega)
   refine ApO ((lo++[s%4294967296]).map wd) rfl rfl (by simp[hl]) (by simp;rfl) (by simp;omega) ?_
   refine Ar (s/4294967296:Nat) rfl ?_ (Xi4 (n:=32) (by decide))
   refine Ar (k+1:Nat) rfl ?_
   refine Bk (k+1,lo++[s%4294967296],s/4294967296) [(46,19)] rfl ⟨by show k+1<=_;omega,by simp[hl],hw.app (.cons (by omega) .nil),by show s/4294967296<=1;omega,?_⟩ (by show _-(k+1)<_-k;omega) (by exact⟨by simp[hl];rfl,rfl,rfl,rfl,rfl⟩)
   rw[Xeq,hl,<-hsv,W0y,W0w]
   have e2:4294967296^k*s=4294967296^k*(s%4294967296)+4294967296^k*(4294967296*(s/4294967296)):=by rw[<-W1c];congr 1;omega
   simp only[val,W3d,W2n]
   omega
 . have hkn:k=(dig a).length:=by omega
   have hfin:val lo+4294967296^k*cr=x+y:=by rw[hval,W0b (by omega),W0b (by omega),Xag,Xag,hs]
   refine By rfl (λh=>?_) λh=>?_
   . refine Go.Vm.Cv cr rfl ?_
     refine ApO ((lo++[cr]).map wd) rfl rfl (by simp[hl]) (by simp;rfl) (by simp;omega) ?_
     refine R1 rfl (.own rfl (by simp) ?_)
     have e:val (lo++[cr])=val lo+4294967296^k*cr:=by rw[Xeq,hl];simp[val]
     rw[W1d,W2j,<-hfin,<-e,Xfj (hw.app (.cons (by omega) .nil)) (.inr ⟨cr,by simp,by omega⟩)]
   . have hc0:cr=0:=by omega
     subst hc0
     refine R1 rfl (.own rfl (by simp[hl]) ?_)
     rw[W1d,W0b (by simp[hl]),<-hfin,W3d,W2n,Xfj hw]
     rcases W2u k with hk0 | hk0
     . exact .inl (W0o (by rw[hl];exact hk0))
     . have ha:a≠0:=λhh=>by rw[hh,Xan] at hkn;simp at hkn;omega
       have hlb:=Xq4 ha
       refine Xpf hw (by omega) ?_
       rw[hl,hkn]
       have hab:a<=x+y:=by omega
       rw[<-hkn] at hlb |-
       omega
theorem oa{l:List Nat}{n:Nat}(h:l.length=n): ((l.map wd).drop 0).take n=l.map wd:=by rw[W1d,W0b (by simp[h])]
theorem lw(l:List Nat): (l.map wd).length=l.length:=W0i ..
theorem Xd0{x y:Nat}(hx:(dig x).length<=1099511627776)(hle:y<=x): C0 191 [.d (ws (dig x)),.d (ws (dig y))] (·=.d (ws (dig (x-y)))):=by
 have hll:=Xar hle
 refine En Tryz.func191 λ_ _ _=>?_
 refine Mk (dig x).length rfl (by simp only[lw];omega) ?_ (by simp only[lw])
 refine Lo (λ(k,lo,br)=>[(1,.d (ws (dig y))),(5,.own 12 1 0 (dig x).length),(6,.d (.int .u64 (br:Nat))),(13,.d (ws (dig x))),(14,.d (.int .i64 (dig x).length)),(15,.d (.int .i64 (k:Nat)))]) (λ(_,lo,_)=>[(12,.arr 1 (lo.map wd))])
  (λ(k,lo,br)=>k<=(dig x).length/\lo.length=(dig x).length/\Xaq lo/\br<=1/\val (lo.take k)+val ((dig y).take k)+4294967296^k*0=val ((dig x).take k)+4294967296^k*br) (λ(k,_,_)=>(dig x).length-k) (0,List.replicate (dig x).length 0,0) [] rfl
  ⟨by omega,by simp,λ_ h=>by rw[(W5o.1 h).2];omega,by omega,by simp[val]⟩ ?_ (by exact⟨by simp only[lw,ws];rfl,by simp only[W2i];rfl,rfl,rfl,rfl⟩)
 rintro⟨k,lo,br⟩ ⟨hk,hl,hw,hbr,hval⟩
 rw[W3d,W2n] at hval
 refine By rfl (λh=>?_) λh=>?_
 . obtain⟨u,hu⟩:=xat (l:=dig x) (k:=k) (by omega)
   have hub:=ww hu (Xae x)
   refine Ix k rfl (mp hu) ?_
   refine Go.Vm.Cv u rfl ?_
   refine Ar ((u+18446744073709551616-br)%18446744073709551616:Nat) rfl ?_ (by show _=_;rw[wUm];omega)
   refine Cu none (λ(s:Nat)=>[(1,.d (ws (dig y))),(5,.own 12 1 0 (dig x).length),(7,.d (.int .i64 k)),(9,.d (.int .u64 s)),(13,.d (ws (dig x))),(14,.d (.int .i64 (dig x).length)),(15,.d (.int .i64 k))]) (λ_=>[(12,.arr 1 (lo.map wd))])
    (λs=>s<18446744073709551616/\s/9223372036854775808<=1/\∃v,s%4294967296+v+br=u+4294967296*(s/9223372036854775808)/\val ((dig y).take (k+1))=val ((dig y).take k)+4294967296^k*v) rfl ?_ λs ⟨hs,hs2,v,hsv,hyv⟩=>?_
   . refine By rfl (λh2=>?_) λh2=>?_<;>simp only[lw] at h2
     . obtain⟨u2,hu2⟩:=xat (l:=dig y) (k:=k) (by omega)
       have hub2:=ww hu2 (Xae y)
       refine Ix k rfl (mp hu2) ?_
       refine Go.Vm.Cv u2 rfl ?_
       refine Ar ((u+18446744073709551616-br+18446744073709551616-u2)%18446744073709551616:Nat) rfl ?_ (by show _=_;rw[wUm];omega)
       exact Jn ((u+18446744073709551616-br+18446744073709551616-u2)%18446744073709551616) [] rfl ⟨by omega,by omega,u2,by omega,Xac hu2⟩
     . exact Jn ((u+18446744073709551616-br)%18446744073709551616) [] rfl ⟨by omega,by omega,0,by omega,by rw[Xgo (by omega)];rfl⟩
   refine Go.Vm.Cv (s%4294967296:Nat) rfl ?_ (by rw[wWm];omega)
   refine Eo k rfl (by omega) ?_
   refine Sto rfl (by simp only[lw];omega) ms ?_
   refine Ar (s/9223372036854775808:Nat) rfl ?_ (Xi4 (n:=63) (by decide))
   refine Ar (k+1:Nat) rfl ?_
   refine Bk (k+1,lo.set k (s%4294967296),s/9223372036854775808) [] rfl ⟨by omega,by simp[hl],λx hx=>(W4m hx).elim (hw x) λe=>by rw[e];omega,by omega,?_⟩ (by show _-(k+1)<_-k;omega)
   rw[W3d,W2n,Xbg (by omega),hyv,Xac hu,W0y,W0w]
   have e:4294967296^k*(s%4294967296+v+br)=4294967296^k*(u+4294967296*(s/9223372036854775808)):=by rw[hsv]
   simp only[W1c] at e
   omega
 . have hkn:k=(dig x).length:=by omega
   rw[hkn,W0b (by omega),W0b (by omega),W0b (by omega),Xag,Xag] at hval
   have hvl:=Xbw hw
   rw[hl] at hvl
   have hbr0:br=0:=by
    rcases W2u br with h0 | h0
    . exact h0
    . have h1:4294967296^(dig x).length*1<=4294967296^(dig x).length*br:=W0t _ h0
      omega
   rw[hbr0,W3d] at hval
   refine Fz 12 5 (lo.map wd) rfl (by simp only[lw];omega) (oa hl) ?_
   refine Ce rfl (Xa5 hw (by omega)) ?_
   exact R1 rfl (.eq (by rw[show val lo=x-y by omega]))
theorem Xd8{a:Int}: C0 313 [.d (.int .i64 a)] (·=.b false):=by
 refine En Tryz.func313 λ_ _ _=>?_
 exact R1 rfl (by exact(show dc (a≠a)=false by rw[W6i];intro h;exact Xah.1 h rfl) ▸ .rf rfl)
theorem Xd7{a:Int}: C0 320 [.d (.int .u32 a)] (·=.b false):=by
 refine En Tryz.func320 λ_ _ _=>?_
 exact R1 rfl (by exact(show dc (a≠a)=false by rw[W6i];intro h;exact Xah.1 h rfl) ▸ .rf rfl)
theorem Xc9{a b:Int}: C0 253 [.d (.int .i64 a),.d (.int .i64 b)] (·=.d (.int .i64 (Xba a b))):=by
 refine En Tryz.func253 λ_ _ _=>?_
 refine Ce rfl Xd8 ?_
 refine Ce rfl Xd8 ?_
 refine No rfl nofun ?_
 refine No rfl nofun ?_
 refine By rfl (λh=>?_) λh=>?_
 . exact R1 rfl (.eq (by rw[Xba,if_pos h]))
 . refine By rfl (λh1=>?_) λh1=>?_
   . exact R1 rfl (.eq (by rw[Xba,if_neg h,if_pos h1]))
   . exact R1 rfl (.eq (by rw[Xba,if_neg h,if_neg h1]))
theorem Xge{a b:Int}: C0 258 [.d (.int .u32 a),.d (.int .u32 b)] (·=.d (.int .i64 (Xba a b))):=by
 refine En Tryz.func258 λ_ _ _=>?_
 refine Ce rfl Xd7 ?_
 refine Ce rfl Xd7 ?_
 refine No rfl nofun ?_
 refine No rfl nofun ?_
 refine By rfl (λh=>?_) λh=>?_
 . exact R1 rfl (.eq (by rw[Xba,if_pos h]))
 . refine By rfl (λh1=>?_) λh1=>?_
   . exact R1 rfl (.eq (by rw[Xba,if_neg h,if_pos h1]))
   . exact R1 rfl (.eq (by rw[Xba,if_neg h,if_neg h1]))
theorem Xb2{x y:Nat}(hx:(dig x).length<=1099511627776): C0 190 [.d (ws (dig x)),.d (ws (dig y))] (·=.d (.int .i64 (Xba x y))):=by
 refine En Tryz.func190 λ_ _ _=>?_
 refine By rfl (λh=>?_) λh=>?_<;>simp only[lw] at h
 . refine Ce rfl Xc9 ?_
   refine R1 rfl (.eq ?_)
   simp only[lw]
   congr 1
   have hne:(dig x).length≠(dig y).length:=by omega
   rcases W6z hne with hl | hl
   . have:=Xdm hl
     rw[Xba,Xba,if_pos (by omega),if_pos (by omega)]
   . have:=Xdm hl
     rw[Xba,Xba,if_neg (by omega),if_pos (by omega),if_neg (by omega),if_pos (by omega)]
 . refine Ar ((dig x).length-1:Int) rfl ?_ (wr (by simp only[lw]) (by simp only[inK];omega))
   refine Lo (λ(k:Nat)=>[(0,.d (ws (dig x))),(1,.d (ws (dig y))),(5,.d (.int .i64 ((k:Int)-1)))]) (λ_=>[]) (λk=>k<=(dig x).length/\(dig x).drop k=(dig y).drop k) (λk=>k) (dig x).length [] rfl ⟨by omega,by rw[W1z (by omega),W1z (by omega)]⟩ λk ⟨hk,hd⟩=>?_
   refine By rfl (λh1=>?_) λh1=>?_
   . obtain⟨u,hu⟩:=xat (l:=dig x) (k:=k-1) (by omega)
     obtain⟨v,hv⟩:=xat (l:=dig y) (k:=k-1) (by omega)
     refine Dw rfl ?_
     refine Ix (k-1) rfl (mp hu) ?_
     refine Ix (k-1) rfl (mp hv) ?_
     refine By rfl (λh2=>?_) λh2=>?_
     . refine Dw rfl ?_
       refine Ix (k-1) rfl (mp hu) ?_
       refine Ix (k-1) rfl (mp hv) ?_
       refine Ce rfl Xge ?_
       refine R1 rfl (.eq ?_)
       congr 1
       have hne:u≠v:=by omega
       have hd':(dig x).drop (k-1+1)=(dig y).drop (k-1+1):=by rw[show k-1+1=k by omega];exact hd
       rcases W6z hne with hl | hl
       . have:=Xjr (Xae x) (by omega) (by omega) hu hv hd' hl
         rw[Xag,Xag] at this
         rw[Xba,Xba,if_pos (by omega),if_pos (by omega)]
       . have:=Xjr (Xae y) (by omega) (by omega) hv hu hd'.symm hl
         rw[Xag,Xag] at this
         rw[Xba,Xba,if_neg (by omega),if_pos (by omega),if_neg (by omega),if_pos (by omega)]
     . refine Ar ((k-1:Nat)-1:Int) rfl ?_
       refine Bk (k-1) [] rfl ⟨by omega,?_⟩ (by show k-1<k;omega)
       have huv:u=v:=by omega
       rw[W3e (l:=dig x) (i:=k-1) (by omega),W3e (l:=dig y) (i:=k-1) (by omega),show k-1+1=k by omega,hd]
       rw[W0c (by omega)] at hu hv
       injection hu with hu
       injection hv with hv
       rw[hu,hv,huv]
   . have hk0:k=0:=by omega
     rw[hk0,W1d,W1d] at hd
     have hxy:x=y:=by rw[<-Xag x,hd,Xag]
     exact R1 rfl (.eq (by rw[hxy,Xba,if_neg (by omega),if_neg (by omega)]))
end
section
theorem Ymw{a b n:Nat}(ha:a<2^n)(hb:b<2^n): (BitVec.ofInt n (a:Int)|||BitVec.ofInt n (b:Int)).toNat=a|||b:=by
 simp[BitVec.toNat_or,BitVec.toNat_ofInt]
 rw[W3w ha,W3w hb]
theorem Ykm{a b r:Nat}(ha:a<4294967296)(hb:b<4294967296)(h:a|||b=r)(hr:r<4294967296): arB .or .u32 a b r:=by
 show IntKind.u32.wrap _=_
 rw[show IntKind.bits .u32=32 from rfl,Ymw ha hb,h]
 exact wW (by omega)
theorem Ybf{a b r:Nat}(ha:a<18446744073709551616)(hb:b<18446744073709551616)(h:a|||b=r)(hr:r<18446744073709551616): arB .or .u64 a b r:=by
 show IntKind.u64.wrap _=_
 rw[show IntKind.bits .u64=64 from rfl,Ymw ha hb,h]
 exact wU (by omega)
theorem Xh0{u n r:Nat}(h:u*2^n=r)(hr:r<18446744073709551616)(hn:n<=64): arB .shl .u64 u n r:=⟨by omega,by subst h;exact Ygv hr hn⟩
theorem Xbq{l:List Nat}(hl:l.length<=1099511627776): C0 166 [.d (ws l)] (·=.d (ws l)):=by
 refine En Tryz.func166 λ_ _ _=>?_
 refine Ub rfl (λh=>?_) ?_
 . exact R1 rfl (.nil h)
 . by_cases h:l=[]
   . subst h
     refine ApE rfl rfl (by decide) ?_
     exact R1 rfl (.lit rfl)
   . have h0:=W6t.2 h
     refine ApL (l.map wd) rfl rfl (by simpa using h0) (by simpa using hl) ?_
     exact R1 rfl (.own rfl (by simp) (by simp only[W1d];exact W0b (by simp)))
theorem Xkh{x y:Nat}(hx:(dig x).length<=549755813888)(hy:(dig y).length<=549755813888): C0 185 [.d (ws (dig x)),.d (ws (dig y))] (·=.d (ws (dig (x*y)))):=by
 have hz:∀ {x:Nat},(dig x).length=0->x=0:=λh=>Xr7.1 (W0o h)
 refine En Tryz.func185 λ_ _ _=>?_
 refine By rfl (λh=>?_) λh=>?_<;>simp only[lw] at h
 . exact R1 rfl (.nil (by rw[hz (by omega:(dig x).length=0),W4o,Xan];rfl))
 refine By rfl (λh=>?_) λh=>?_<;>simp only[lw] at h
 . exact R1 rfl (.nil (by rw[hz (by omega:(dig y).length=0),W3d,Xan];rfl))
 refine Ar ((dig x).length+(dig y).length:Nat) rfl ?_ (wr (by simp only[lw];omega) (by simp only[inK];omega))
 refine Mk ((dig x).length+(dig y).length) rfl (by omega) ?_
 refine Lo (λ(i,lo)=>[(1,.d (ws (dig y))),(5,.own 24 1 0 ((dig x).length+(dig y).length)),(25,.d (ws (dig x))),(26,.d (.int .i64 (dig x).length)),(27,.d (.int .i64 (i:Nat)))]) (λ(_,lo)=>[(24,.arr 1 (lo.map wd))])
  (λ(i,lo)=>i<=(dig x).length/\lo.length=(dig x).length+(dig y).length/\Xaq lo/\val (lo.take (i+(dig y).length))=val ((dig x).take i)*y/\∀j,i+(dig y).length<=j->j<(dig x).length+(dig y).length->lo[j]?=some 0) (λ(i,_)=>(dig x).length-i)
  (0,List.replicate ((dig x).length+(dig y).length) 0) [] rfl ⟨by omega,by simp,λ_ h=>by rw[(W5o.1 h).2];omega,by rw[W5k,Xbv];simp[val],λj _ h=>by rw[W4u,if_pos h]⟩ ?_ (by exact⟨by simp only[lw,ws];rfl,by simp only[W2i];rfl,rfl,rfl,rfl⟩)
 rintro⟨i,lo0⟩ ⟨hi,hl0,hw0,hval,hz0⟩
 refine By rfl (λh=>?_) λh=>?_
 . obtain⟨u,hu⟩:=xat (l:=dig x) (k:=i) (by omega)
   have hub:=ww hu (Xae x)
   refine Ix i rfl (mp hu) ?_
   refine Lo (λ(k,lo,cr)=>[(1,.d (ws (dig y))),(5,.own 24 1 0 ((dig x).length+(dig y).length)),(6,.d (.int .i64 i)),(7,.d (.int .u32 u)),(8,.d (.int .u64 (cr:Nat))),(25,.d (ws (dig x))),(26,.d (.int .i64 (dig x).length)),(27,.d (.int .i64 i)),(32,.d (ws (dig y))),(33,.d (.int .i64 (dig y).length)),(34,.d (.int .i64 (k:Nat)))]) (λ(_,lo,_)=>[(24,.arr 1 (lo.map wd))])
    (λ(k,lo,cr)=>k<=(dig y).length/\lo.length=(dig x).length+(dig y).length/\Xaq lo/\cr<4294967296/\(∀j,i+k<=j->lo[j]?=lo0[j]?)/\val (lo.take (i+k))+4294967296^(i+k)*cr=val (lo0.take (i+k))+4294967296^i*(u*val ((dig y).take k))) (λ(k,_,_)=>(dig y).length-k)
    (0,lo0,0) [] rfl ⟨by omega,hl0,hw0,by omega,λ_ _=>rfl,by simp[val]⟩ ?_ (by exact⟨by simp only[lw,ws];rfl,rfl,rfl,rfl,rfl⟩)
   rintro⟨k,lo,cr⟩ ⟨hk,hl,hw,hcr,hrest,hval2⟩
   refine By rfl (λh=>?_) λh=>?_
   . obtain⟨v,hv⟩:=xat (l:=dig y) (k:=k) (by omega)
     have hvb:=ww hv (Xae y)
     obtain⟨w,hw1⟩:=xat (l:=lo) (k:=i+k) (by omega)
     have hwb:=ww hw1 hw
     have huv:u*v<=4294967295*4294967295:=W2b (by omega) (by omega)
     refine Ix k rfl (mp hv) ?_
     refine Go.Vm.Cv u rfl ?_
     refine Go.Vm.Cv v rfl ?_
     refine Ar (u*v:Nat) rfl ?_ (wr (W2p ..).symm (by simp only[inK];omega))
     refine Ar (i+k:Nat) rfl ?_
     refine Eo (i+k) rfl (by omega) ?_
     refine Ld (wd w) rfl (mp hw1) ?_
     refine Go.Vm.Cv w rfl ?_
     refine Ar (u*v+w:Nat) rfl ?_
     obtain⟨s,hs⟩:∃s,s=cr+(u*v+w):=⟨_,rfl⟩
     have hs2:s<18446744073709551616:=by omega
     refine Ar (s:Nat) rfl ?_
     refine Ar (i+k:Nat) rfl ?_
     refine Go.Vm.Cv (s%4294967296:Nat) rfl ?_ (by rw[wWm];omega)
     refine Eo (i+k) rfl (by omega) ?_
     refine Sto rfl (by simp only[lw];omega) ms ?_
     refine Ar (s/4294967296:Nat) rfl ?_ (Xi4 (n:=32) (by decide))
     refine Ar (k+1:Nat) rfl ?_
     refine Bk (k+1,lo.set (i+k) (s%4294967296),s/4294967296) [] rfl ⟨by omega,by simp[hl],λx hx=>(W4m hx).elim (hw x) λe=>by rw[e];omega,by omega,λj hj=>by rw[W1w (by omega)];exact hrest j (by omega),?_⟩ (by show _-(k+1)<_-k;omega)
     have hw0':lo0[i+k]?=some w:=by rw[<-hrest (i+k) (W0a _)];exact hw1
     rw[<-W4r,Xbg (by omega),Xac hw0',Xac hv,W0y,W0w,W1c u,W1c (4294967296^i)]
     have e:4294967296^(i+k)*s=4294967296^(i+k)*(s%4294967296)+4294967296^(i+k)*(4294967296*(s/4294967296)):=by rw[<-W1c];congr 1;omega
     have e2:4294967296^(i+k)*s=4294967296^(i+k)*cr+4294967296^i*(u*(4294967296^k*v))+4294967296^(i+k)*w:=by
      rw[hs,W1c,W1c,W0x]
      have:4294967296^i*4294967296^k*(u*v)=4294967296^i*(u*(4294967296^k*v)):=by
       rw[W0w,W4w (4294967296^k) u v]
      omega
     omega
   . have hkm:k=(dig y).length:=by omega
     subst hkm
     refine Ar (i+(dig y).length:Nat) rfl ?_ (wr (by simp only[lw];omega) (by simp only[inK];omega))
     refine Go.Vm.Cv cr rfl ?_
     refine Eo (i+(dig y).length) rfl (by omega) ?_
     refine Sto rfl (by simp only[lw];omega) ms ?_
     refine Ar (i+1:Nat) rfl ?_
     refine Bk (i+1,lo.set (i+(dig y).length) cr) [] rfl ⟨by omega,by simp[hl],λx hx=>(W4m hx).elim (hw x) λe=>by rw[e];omega,?_,λj h1 h2=>by rw[W1w (by omega),hrest j (by omega)];exact hz0 j (by omega) h2⟩ (by show _-(i+1)<_-i;omega)
     rw[show i+1+(dig y).length=i+(dig y).length+1 by omega,Xbg (by omega),Xac hu,hval2,hval,W0b (l:=dig y) (by omega),Xag,W1h,W0w]
 . have him:i=(dig x).length:=by omega
   rw[him,W0b (by omega),W0b (by omega),Xag] at hval
   refine Fz 17 5 (lo0.map wd) rfl (by simp only[lw];omega) (oa hl0) ?_
   refine Ce rfl (Xa5 hw0 (by omega)) ?_
   exact R1 rfl (.eq (by rw[hval]))
end
section
theorem Xg9{l:List Nat}{k d:Nat}(h:Xaq l)(hd:d<4294967296): Xaq (l.set k d):=λx hx=>(W4m hx).elim (h x) λe=>by rw[e];exact hd
theorem Xfr(n:Nat): Xaq (List.replicate n 0):=λ_ h=>by rw[(W5o.1 h).2];omega
theorem Yaz{u n:Nat}(hu:u<4294967296)(hn:n<32): u*2^n<9223372036854775808:=by
 have h1:2^n<=2^31:=W0m (by decide) (by omega)
 have h2:u*2^n<=4294967295*2^31:=W2b (by omega) h1
 omega
theorem Xl1{u v n:Nat}(hu:u<4294967296)(hn:n<32): (u/2^n)|||(v*2^(32-n)%4294967296)=u/2^n+(v%2^n)*2^(32-n)/\u/2^n+(v%2^n)*2^(32-n)<4294967296:=by
 have h1:=Xdz v (32-n) (by omega)
 rw[show 32-(32-n)=n by omega] at h1
 have hd:u/2^n<2^(32-n):=by
  rw[W2s (W0r n),<-W0x,show 32-n+n=32 by omega]
  exact hu
 rw[h1,Nat.or_comm,Xdk _ _ _ hd,Nat.add_comm]
 refine⟨rfl,?_⟩
 have h2:v%2^n+1<=2^n:=W1q _ (W0r _)
 have h3:=W0q (2^(32-n)) h2
 rw[<-W0x,show n+(32-n)=32 by omega,W2t] at h3
 omega
theorem Xpt{a b u v n m P:Nat}(hn:n<32)(h:a*2^n+b=P+4294967296^m*(u%2^n)):
 (a+4294967296^m*(u/2^n+(v%2^n)*2^(32-n)))*2^n+b=P+4294967296^m*u+4294967296^(m+1)*(v%2^n):=by
 have hB:4294967296^(m+1)=4294967296^m*4294967296:=W0y ..
 have e2:v%2^n*2^(32-n)*2^n=4294967296*(v%2^n):=by
  rw[W0w,<-W0x,show 32-n+n=32 by omega,W1i]
 rw[W1h,W0w (4294967296^m),W1h (u/2^n),e2,hB,W0w (4294967296^m),W1c (4294967296^m)]
 have e:4294967296^m*u=4294967296^m*(u/2^n*2^n)+4294967296^m*(u%2^n):=by
  rw[<-W1c];congr 1;rw[W1i (u/2^n)];exact(W2o ..).symm
 omega
theorem Xg0{n x:Nat}(hx:(dig x).length<=549755813888)(hn32:n<32): CO0 316 [.d (ws (dig x)),.d (.int .i64 n)] λv ob=>∃l,l.length=(dig x).length+1/\Xaq l/\val l=x*2^n/\v=.own 1000000 1 0 l.length/\ob=.arr 1 (l.map wd):=by
 have hp:=W0r n
 have hp32:2^n<=2147483648:=by have:2^n<=2^31:=W0m (by decide) (by omega);omega
 refine EnW Tryz.func316 λ_ _ _ _=>?_
 refine Ar ((dig x).length+1:Nat) rfl ?_ (wr (by simp only[lw];omega) (by simp only[inK];omega))
 refine Mk ((dig x).length+1) rfl (by omega) ?_
 refine Lo (λ(i,lo)=>[(1,.d (.int .i64 n)),(5,.own 12 1 0 ((dig x).length+1)),(13,.d (ws (dig x))),(14,.d (.int .i64 (dig x).length)),(15,.d (.int .i64 (i:Nat)))]) (λ(_,lo)=>[(12,.arr 1 (lo.map wd))])
  (λ(i,lo)=>i<=(dig x).length/\lo.length=(dig x).length+1/\Xaq lo/\val (lo.take (i+1))=val ((dig x).take i)*2^n/\∃w,lo[i]?=some w/\w<2^n) (λ(i,_)=>(dig x).length-i) (0,List.replicate ((dig x).length+1) 0) [] rfl
  ⟨by omega,by simp,Xfr _,by rw[W5k,Xbv];simp[val],0,by simp,hp⟩ ?_ (by exact⟨by simp only[lw,ws];rfl,by simp only[W2i];rfl,rfl,rfl,rfl⟩)
 rintro⟨i,lo⟩ ⟨hi,hl,hwo,hval,w,hw,hwn⟩
 refine By rfl (λh=>?_) λh=>?_
 . obtain⟨u,hu⟩:=xat (l:=dig x) (k:=i) (by omega)
   have hub:=ww hu (Xae x)
   have hs1:=Yaz hub hn32
   have hs2:=Xdz u n (by omega)
   obtain⟨s,hs⟩:∃s,s=u*2^n:=⟨_,rfl⟩
   have hshl:=Xh0 hs.symm (by omega) (by omega:n<=64)
   rw[<-hs] at hs1 hs2
   have hor:w|||s%4294967296=s%4294967296+w:=by rw[Nat.or_comm,hs2];exact Xdk _ _ _ hwn
   have hlt:s%4294967296+w<4294967296:=by
    rw[hs2]
    have h1:u%2^(32-n)+1<=2^(32-n):=W1q _ (W0r _)
    have h2:=W0q (2^n) h1
    rw[<-W0x,show 32-n+n=32 by omega,W2t] at h2
    omega
   refine Ix i rfl (mp hu) ?_
   refine Go.Vm.Cv u rfl ?_
   refine Ar s rfl ?_ hshl
   refine Eo i rfl (by omega) ?_
   refine Ld (wd w) rfl (mp hw) ?_
   refine Go.Vm.Cv (s%4294967296:Nat) rfl ?_ (by rw[wWm];omega)
   refine Ar (s%4294967296+w:Nat) rfl ?_ (Ykm (by omega) (by omega) hor hlt)
   refine Eo i rfl (by omega) ?_
   refine Sto rfl (by simp only[lw];omega) ms ?_
   refine Ar (i+1:Nat) rfl ?_
   refine Ar (s/4294967296:Nat) rfl ?_ (Xi4 (n:=32) (by decide))
   refine Go.Vm.Cv (s/4294967296:Nat) rfl ?_
   refine Eo (i+1) rfl (by omega) ?_
   refine Sto rfl (by simp only[W0i,W3f];omega) ms ?_
   refine Ar (i+1:Nat) rfl ?_
   refine Bk (i+1,(lo.set i (s%4294967296+w)).set (i+1) (s/4294967296)) [] rfl ⟨by omega,by simp[hl],Xg9 (Xg9 hwo hlt) (by omega),?_,s/4294967296,by rw[W2w (by rw[W3f];omega)],?_⟩ (by show _-(i+1)<_-i;omega)
   . rw[Xbg (by rw[W3f];omega),Xbg (by omega),Xac hu,W1h,<-hval,Xac hw,W0w,<-hs,W0y,W1c,W0w]
     have e:4294967296^i*s=4294967296^i*(s%4294967296)+4294967296^i*(4294967296*(s/4294967296)):=by rw[<-W1c];congr 1;omega
     omega
   . rw[W2s (by decide),hs,W1i]
     exact Nat.mul_lt_mul_of_pos_left hub hp
 . have him:i=(dig x).length:=by omega
   rw[him,W0b (by omega),W0b (by omega),Xag] at hval
   exact Rw [(12,1000000)] [(1000000,.arr 1 (lo.map wd))] rfl (.one (.rf rfl) rfl rfl) ⟨_,rfl,lo,hl,hwo,hval,by rw[hl];rfl,rfl⟩
theorem Xf1{n:Nat}{l:List Nat}(hw:Xaq l)(hx:l.length<=549755813888)(hn32:n<32): C0 319 [.d (ws l),.d (.int .i64 n)] λv=>∃l',val l'=val l/2^n/\Xaq l'/\l'.length=l.length/\v=.d (ws l'):=by
 have hp:=W0r n
 have hp32:2^n<=2147483648:=by have:2^n<=2^31:=W0m (by decide) (by omega);omega
 refine En Tryz.func319 λ_ _ _=>?_
 refine Mk l.length rfl (by simp only[lw];omega) ?_ (by simp only[lw])
 refine Lo (λ(i,lo)=>[(0,.d (ws l)),(1,.d (.int .i64 n)),(5,.own 10 1 0 l.length),(11,.d (ws l)),(12,.d (.int .i64 l.length)),(13,.d (.int .i64 (i:Nat)))]) (λ(_,lo)=>[(10,.arr 1 (lo.map wd))])
  (λ(i,lo)=>i<=l.length/\lo.length=l.length/\Xaq lo/\val (lo.take i)*2^n+val l%2^n=val (l.take i)+4294967296^i*(l.getD i 0%2^n)) (λ(i,_)=>l.length-i) (0,List.replicate l.length 0) [] rfl
  ⟨by omega,by simp,Xfr _,by simp[val,Xhr l n (by omega)]⟩ ?_ (by exact⟨by simp only[lw,ws];rfl,by simp only[W2i];rfl,rfl,rfl,rfl⟩)
 rintro⟨i,lo⟩ ⟨hi,hl,hwo,hval⟩
 refine By rfl (λh=>?_) λh=>?_
 . obtain⟨u,hu⟩:=xat (l:=l) (k:=i) (by omega)
   have hub:=ww hu hw
   have hdu:u/2^n<4294967296:=W1t (W3m ..) hub
   have hgu:l.getD i 0=u:=by rw[W2l,hu];rfl
   rw[hgu] at hval
   refine Ix i rfl (mp hu) ?_
   refine Ar (u/2^n:Nat) rfl ?_ (Xi4 (show n<=32 by omega))
   refine Eo i rfl (by omega) ?_
   refine Sto rfl (by simp only[lw];omega) ms ?_
   refine Ar (i+1:Nat) rfl ?_
   refine Cu none (λlo':List Nat=>[(0,.d (ws l)),(1,.d (.int .i64 n)),(5,.own 10 1 0 l.length),(11,.d (ws l)),(12,.d (.int .i64 l.length)),(13,.d (.int .i64 i))]) (λlo'=>[(10,.arr 1 (lo'.map wd))])
    (λlo'=>∃v,l.getD (i+1) 0=v/\lo'=lo.set i (u/2^n+(v%2^n)*2^(32-n))/\u/2^n+(v%2^n)*2^(32-n)<4294967296) rfl ?_ ?_
   . refine By rfl (λh2=>?_) λh2=>?_<;>simp only[lw] at h2
     . obtain⟨v,hv⟩:=xat (l:=l) (k:=i+1) (by omega)
       have hvb:=ww hv hw
       have hsd:=Xl1 (v:=v) hub hn32
       have hv64:v*2^(32-n)<18446744073709551616:=by
        have h1:2^(32-n)<=2^32:=W0m (by decide) (by omega)
        have h2:v*2^(32-n)<=4294967295*2^32:=W2b (by omega) h1
        omega
       obtain⟨s,hs⟩:∃s,s=v*2^(32-n):=⟨_,rfl⟩
       have hshl:=Xh0 hs.symm (by omega) (by omega:32-n<=64)
       rw[<-hs] at hsd hv64
       refine Dw rfl ?_
       refine Eo i rfl (by omega) ?_
       refine Ld (wd (u/2^n)) rfl (mp (W2w (by omega))) ?_
       refine Ar (i+1:Nat) rfl ?_
       refine Ix (i+1) rfl (mp hv) ?_
       refine Go.Vm.Cv v rfl ?_
       refine Ar (32-n:Nat) rfl ?_
       refine Ar s rfl ?_ hshl
       refine Go.Vm.Cv (s%4294967296:Nat) rfl ?_ (by rw[wWm];omega)
       refine Ar (u/2^n+(v%2^n)*2^(32-n):Nat) rfl ?_ (Ykm hdu (by omega) hsd.1 hsd.2)
       refine Eo i rfl (by omega) ?_
       refine Sto rfl (by simp only[W0i,W3f];omega) ms ?_
       exact Jn (lo.set i (u/2^n+(v%2^n)*2^(32-n))) [] rfl ⟨v,by rw[W2l,hv];rfl,rfl,hsd.2⟩ (by exact⟨rfl,by rw[List.set_set];rfl,rfl,rfl,rfl⟩)
     . exact Jn (lo.set i (u/2^n)) [] rfl ⟨0,by rw[W2l,W1x (by omega)];rfl,by simp,by simp;exact hdu⟩
   rintro lo' ⟨v,hv,rfl,hlt⟩
   refine Ar (i+1:Nat) rfl ?_
   refine Bk (i+1,lo.set i (u/2^n+(v%2^n)*2^(32-n))) [] rfl ⟨by omega,by simp[hl],Xg9 hwo hlt,?_⟩ (by show _-(i+1)<_-i;omega)
   rw[Xbg (by omega),Xac hu,hv]
   exact Xpt hn32 hval
 . have him:i=l.length:=by omega
   rw[him,W0b (by omega),W0b (by omega),W2l,W1x (by omega)] at hval
   refine Rt rfl (.one (.own rfl (by simp only[lw];omega) (oa hl)) rfl rfl) ⟨lo,?_,hwo,hl,rfl⟩
   simp at hval
   have:=W2o (val l) (2^n)
   rw[W1i] at this
   exact Nat.eq_of_mul_eq_mul_right hp (by omega)
theorem Xlf{x y:Nat}(hx:(dig x).length<=549755813888)(hy:y<4294967296)(hy0:y≠0): C0 314 [.d (ws (dig x)),.d (.int .u32 y)] (·=.tup (.pr (.d (ws (dig (x/y)))) (.d (ws (dig (x%y)))))):=by
 refine En Tryz.func314 λ_ _ _=>?_
 refine Mk (dig x).length rfl (by simp only[lw];omega) ?_ (by simp only[lw])
 refine Ar ((dig x).length-1:Int) rfl ?_ (wr (by simp only[lw]) (by simp only[inK];omega))
 refine Lo (λ(k,lo,r)=>[(0,.d (ws (dig x))),(1,.d (.int .u32 y)),(6,.own 11 1 0 (dig x).length),(7,.d (.int .u64 (r:Nat))),(8,.d (.int .i64 ((k:Nat)-1:Int)))]) (λ(_,lo,_)=>[(11,.arr 1 (lo.map wd))])
  (λ(k,lo,r)=>k<=(dig x).length/\lo.length=(dig x).length/\Xaq lo/\r<y/\val (lo.drop k)*y+r=val ((dig x).drop k)) (λ(k,_,_)=>k) ((dig x).length,List.replicate (dig x).length 0,0) [] rfl
  ⟨by omega,by simp,Xfr _,by omega,by rw[W1z (by simp),W1z (by omega)];simp[val]⟩ ?_ (by exact⟨rfl,by simp only[W2i];rfl,rfl,rfl,rfl⟩)
 rintro⟨k,lo,r⟩ ⟨hk,hl,hwo,hr,hval⟩
 refine By rfl (λh=>?_) λh=>?_
 . obtain⟨u,hu⟩:=xat (l:=dig x) (k:=k-1) (by omega)
   have hub:=ww hu (Xae x)
   obtain⟨s,hs⟩:∃s,s=r*2^32+u:=⟨_,rfl⟩
   have hs64:s<18446744073709551616:=by omega
   have hsy:s/y<4294967296:=by
    rw[W2s (by omega)]
    have:=W0q 4294967296 (show r+1<=y by omega)
    omega
   have hsm:s%y<y:=W1q _ (by omega)
   have hq0:0<=s/y:=W0z _
   refine Ar (r*2^32:Nat) rfl ?_ (Xh0 (n:=32) rfl (by omega) (by decide))
   refine Ix (k-1) rfl (mp hu) ?_
   refine Go.Vm.Cv u rfl ?_
   refine Ar s rfl ?_ (Ybf (by omega) (by omega) (by rw[Xdk u r 32 (by omega),<-hs]) hs64)
   refine Go.Vm.Cv y rfl ?_
   refine Ar (s/y:Nat) rfl ?_ (show _/\_ from⟨by omega,Ycs s y hs64⟩)
   refine Go.Vm.Cv (s/y:Nat) rfl ?_ (wW ⟨W5b _,W7a.2 hsy⟩)
   refine Eo (k-1) rfl (by omega) ?_
   refine Sto rfl (by simp only[lw];omega) ms ?_
   refine Go.Vm.Cv y rfl ?_
   refine Ar (s%y:Nat) rfl ?_ (show _/\_ from⟨by omega,Xrk s y⟩)
   refine Ar ((k-1:Nat)-1:Int) rfl ?_
   refine Bk (k-1,lo.set (k-1) (s/y),s%y) [] rfl ⟨by omega,by simp[hl],Xg9 hwo hsy,hsm,?_⟩ (by show k-1<k;omega)
   rw[Xbx hu,show k-1+1=k by omega,<-hval,drop_set (by omega),val,show k-1+1=k by omega]
   have e:=W2o s y
   rw[W1i] at e
   rw[W1h,W1c,W0w]
   omega
 . have hk0:k=0:=by omega
   subst hk0
   rw[W1d,W1d,Xag] at hval
   have hq:x/y=val lo:=by rw[<-hval,W1i,Nat.mul_add_div (by omega),W4g hr,W2n]
   have hm:x%y=r:=by rw[<-hval,W1i,Nat.mul_add_mod,W3w hr]
   refine Fz 9 6 (lo.map wd) rfl (by simp only[lw];omega) (oa hl) ?_
   refine Ce rfl (Xa5 hwo (by omega)) ?_
   refine Ce rfl (Xce (n:=r) (by omega)) ?_
   subst hm
   exact RTt rfl (.cons (.eq (by rw[hq])) (.one (.rf rfl) (λ_ _ e=>by cases e) (λ_ _ e=>by cases e)))
theorem Xrg{x:Nat}(hx:x<4294967296): C0 348 [.d (.int .u32 x)] (·=.d (.int .i64 (bl x))):=by
 refine En Tryz.func348 λ_ _ _=>?_
 refine Cu none (λ((x1,n1):Nat×Nat)=>[(0,.d (.int .u32 x1)),(2,.d (.int .i64 n1))]) (λ_=>[]) (λ(x1,n1)=>x1<65536/\bl x=bl x1+n1/\n1<=16) rfl ?_ λ⟨x1,n1⟩ ⟨hx1,hb1,hn1⟩=>?_
 . refine By rfl (λh=>?_) λh=>?_
   . refine Ar (x/2^16:Nat) rfl ?_ (Xi4 (n:=16) (by decide))
     exact Jn (x/2^16,16) [] rfl ⟨by omega,Xe1 (by omega),W0a _⟩
   . exact Jn (x,0) [] rfl ⟨by omega,rfl,by omega⟩
 refine Cu none (λ((x1,n1):Nat×Nat)=>[(0,.d (.int .u32 x1)),(2,.d (.int .i64 n1))]) (λ_=>[]) (λ(x1,n1)=>x1<256/\bl x=bl x1+n1/\n1<=24) rfl ?_ λ⟨x2,n2⟩ ⟨hx2,hb2,hn2⟩=>?_
 . refine By rfl (λh=>?_) λh=>?_
   . refine Ar (x1/2^8:Nat) rfl ?_ (Xi4 (n:=8) (by decide))
     refine Ar (n1+8:Nat) rfl ?_
     exact Jn (x1/2^8,n1+8) [] rfl ⟨by omega,by rw[hb1,Xe1 (n:=x1) (k:=8) (by omega)];omega,by omega⟩
   . exact Jn (x1,n1) [] rfl ⟨by omega,hb1,by omega⟩
 have hbl:bl x2<256:=W0v (Yb4 (p:=λj=>bl j<10) (by decide +kernel) x2 hx2) (by decide)
 refine Go.Vm.Cv x2 rfl ?_
 refine Yx x2 (UInt8.ofNat (bl x2)) rfl (by revert hx2;generalize x2=j;revert j;decide +kernel) ?_
 refine Go.Vm.Cv (bl x2:Nat) rfl ?_ ((wI ⟨by omega,by rw[Xxz hbl];omega⟩).trans (Xxz hbl))
 refine Ar (bl x:Nat) rfl ?_
 exact R0
theorem Xgw{x:Nat}(hx:x<4294967296)(h0:x≠0): C0 315 [.d (.int .u32 x)] λv=>∃n:Nat,v=.d (.int .i64 n)/\n<32/\2147483648<=x*2^n/\x*2^n<4294967296:=by
 obtain⟨b1,b2,b3⟩:=Xcl h0
 have hb32:bl x<=32:=by
  have:2^(bl x-1)<2^32:=W1t b1 hx
  have:=(W2v (by decide:1<2)).1 this
  omega
 refine En Tryz.func315 λ_ _ _=>?_
 refine Ce rfl (Xrg hx) ?_
 refine Ar (32-bl x:Nat) rfl ?_
 refine Rt rfl (.one (.rf rfl) rfl rfl) ⟨32-bl x,rfl,by omega,?_,?_⟩
 . have h1:=W0q (2^(32-bl x)) b1
   rw[<-W0x,show bl x-1+(32-bl x)=31 by omega] at h1
   exact h1
 . have h1:=W3c b2 (W0r (32-bl x))
   rw[<-W0x,show bl x+(32-bl x)=32 by omega] at h1
   exact h1
end
section
open Go.RowKit Go.Shelf
attribute [local go_sem] Oper.semAt_some
abbrev Wd:={ x:Nat // x<4294967296 }
def bk(zs:List Wd)(k:Nat): List (Nat×Wd):=(List.range k).map λj=>(zs.length-1-j,zs[zs.length-1-j]?.getD ⟨0,by decide⟩)
theorem Yfa(zs:List Wd)(k:Nat): bk zs (k+1)=bk zs k++[(zs.length-1-k,zs[zs.length-1-k]?.getD ⟨0,by decide⟩)]:=by simp[bk,W6x]
theorem Xw7(zs:List Wd)(k:Nat): (bk zs k).length=k:=by simp[bk]
structure Kq (n₀ Bs:Nat) (A B:World):Prop where
 a:Below n₀ A B
 b:B.heap[Bs]?=A.heap[Bs]?
theorem Kq.refl(n₀ Bs:Nat)(A:World): Kq n₀ Bs A A:=⟨Below.refl _ _,rfl⟩
theorem Kq.trans{n₀ Bs:Nat}{A B C:World}(h:Kq n₀ Bs A B)(k:Kq n₀ Bs B C): Kq n₀ Bs A C:=⟨h.a.trans k.a,k.b.trans h.b⟩
set_option maxRecDepth 100000 in
set_option maxHeartbeats 2000000 in
theorem Xz2(F:Fence)(n:Nat)(h8:F.fn 241)(hro:F.round=none)(hn:1<=n)(l Bs n₀ b off cap:Nat)(zs:List Wd)(hreach:zs.length*4<=140737488351232)(hb:b<n₀)(J Jx:List (Nat×Wd)->World->Prop)
 (hY:∀pre x W,J pre W->pre.length<zs.length->YieldAt F (n-1) Tryz.prog l #[.int .i64 (x.1:Int),.int .u32 (x.2.1:Int)] W λe W' =>
  (e=.returned (.bool true)/\J (pre++[x]) W'/\Kq n₀ Bs W W')\/(e=.returned (.bool false)/\Jx (pre++[x]) W'))
 (W:World) (hBs:W.cell? ⟨Bs,0,none⟩=some (.slice (some ⟨b,off,none⟩) zs.length cap)) (hc:∀j,j<zs.length->W.cell? ⟨b,off+j,none⟩=some (.int .u32 ((zs[j]?.getD ⟨0,by decide⟩).1:Int))) (h0:J [] W) :
 CallsIn F n Tryz.prog 241 #[.func (.yield l) #[] #[],.pointer (some ⟨Bs,0,none⟩)] W λe W'=>(∃v,e=.returned v) /\
  ((∃ys,ys=bk zs zs.length/\J ys W')\/(∃pre,True/\Jx pre W')):=by
 refine callsIn_of_wp Tryz.func241 rfl h8 ?_ hro
 simp only[Tryz.ntmps241,W6j,W0s,W4j,Nat.reduceAdd,Nat.reduceSub,W5u,W5v,W6k,W5z,W3z,W5a]
 gi_wp2
 gi_loopw [3] (λi wr=>∃k:Nat,k<=zs.length/\i=.int .i64 ((zs.length:Int)-1-k)/\J (bk zs k) wr/\Kq n₀ Bs W wr)
  (λi _=>(intOf i+1).toNat)
 case atStart=>exact⟨0,W0z _,by simp,h0,Kq.refl _ _ _⟩
 case round =>
  obtain⟨k,hk,rfl,hJs,hnx⟩:=hrel
  have hBs':=(World.cell?_of_block hnx.b).trans hBs
  by_cases hlt:k<zs.length
  . obtain⟨q,hq⟩:∃q,q+(k+1)=zs.length:=⟨zs.length-1-k,by omega⟩
    have hqi:((zs.length:Int)-1-k)=(q:Int):=by omega
    have hcx:=(hnx.a.cell (p:=⟨b,off+q,none⟩) hb).trans (hc q (by omega))
    obtain⟨fn,tmps,assign,body,hy,hR⟩:=hY _ (q,zs[q]?.getD ⟨0,by decide⟩) wr hJs (by rw[Xw7];exact hlt)
    dsimp only at hy
    rw[hqi]
    gi_wp2
    refine hR.mono ?_
    rintro e W3 (⟨rfl,hJ3,hk3⟩ | ⟨rfl,hJx3⟩)
    . gi_wp2
      go_roundw
      case rel=>exact⟨k+1,by omega,by congr 1;omega,by rw[Yfa,show zs.length-1-k=q by omega];exact hJ3,hnx.trans hk3⟩
      case measure=>simp[intOf]
    . gi_wp2
      refine bodyPost_ret (results_none rfl _ _ _) rfl ?_
      exact⟨⟨_,rfl⟩,.inr ⟨_,trivial,hJx3⟩⟩
  . obtain rfl:k=zs.length:=by omega
    rw[show ((zs.length:Int)-1-(zs.length:Int))=-1 by omega]
    gi_wp2
    go_end0
    exact⟨⟨_,rfl⟩,.inl ⟨_,rfl,hJs⟩⟩
set_option maxRecDepth 100000 in
set_option maxHeartbeats 1000000 in
theorem Xnc(F:Fence)(n:Nat)(h8:F.fn 241)(hro:F.round=none)(l Bs:Nat)(J:List (Nat×Wd)->World->Prop)(W:World){p:Option Addr}{c:Nat}(hBs:W.cell? ⟨Bs,0,none⟩=some (.slice p 0 c))(h0:J [] W):
 CallsIn F n Tryz.prog 241 #[.func (.yield l) #[] #[],.pointer (some ⟨Bs,0,none⟩)] W λe W'=>(∃v,e=.returned v)/\J [] W':=by
 refine callsIn_of_wp Tryz.func241 rfl h8 ?_ hro
 simp only[Tryz.ntmps241,W6j,W0s,W4j,Nat.reduceAdd,Nat.reduceSub,W5u,W5v,W6k,W5z,W3z,W5a]
 gi_wp2
 gi_loopw [3] (λi wr=>i=.int .i64 (-1)/\J [] wr) (λ_ _=>0)
 case atStart=>exact⟨rfl,h0⟩
 case round =>
  obtain⟨rfl,hJs⟩:=hrel
  gi_wp2
  go_end0
  exact⟨⟨_,rfl⟩,hJs⟩
set_option maxHeartbeats 1000000 in
theorem Xoz(F:Fence)(n:Nat)(h6:F.fn 169)(hro:F.round=none)(a:Option Addr)(len cap:Nat)(w:World):
 CallsIn F n Tryz.prog 169 #[.slice a len cap] w λe w'=>e=.returned (.func (.func 241) #[] #[.pointer (some ⟨w.heap.size,0,none⟩)])/\w'=w.alloc (.cells #[.slice a len cap] 88):=by
 refine callsIn_of_wp Tryz.func169 rfl h6 ?_ hro
 simp only[Tryz.ntmps169,W6j,W0s,W4j,Nat.reduceAdd,Nat.reduceSub,W5u,W5v,W6k,W5z,W3z,W5a]
 gi_wp2
 go_ret
 exact⟨rfl,rfl⟩
theorem Xsb(F:Fence)(n:Nat)(h8:F.fn 241)(hro:F.round=none)(hn:1<=n)(Bs n₀:Nat)(p:Option Addr)(cap:Nat)(zs:List Wd)(hreach:zs.length*4<=140737488351232)(w:World)(hBs:Bs<w.heap.size)(hn₀:n₀<=w.heap.size)
 (hc:w.cell? ⟨Bs,0,none⟩=some (.slice p zs.length cap)) (hI:zs=[]\/∃b off,p=some ⟨b,off,none⟩/\b<n₀/\∀j,j<zs.length->w.cell? ⟨b,off+j,none⟩=some (.int .u32 ((zs[j]?.getD ⟨0,by decide⟩).1:Int))) :
 SeqStopsK F n Tryz.prog 241 #[.pointer (some ⟨Bs,0,none⟩)] (λx:Nat×Wd=>#[Value.int .i64 (x.1:Int),Value.int .u32 (x.2.1:Int)]) (Kq n₀ Bs) (λys=>ys=bk zs zs.length)
  (λ_=>True) zs.length w:=λl J Jx W hW _ _ hY h0=>by
 have hc':=(hW.cell (p:=⟨Bs,0,none⟩) hBs).trans hc
 rcases hI with rfl | ⟨b,off,rfl,hb,hcs⟩
 . exact(Xnc F n h8 hro l Bs J W hc' h0).mono λe W' ⟨he,hj⟩=>⟨he,.inl ⟨_,rfl,hj⟩⟩
 . exact Xz2 F n h8 hro hn l Bs n₀ b off cap zs hreach hb J Jx hY W hc' (λj hj=>(hW.cell (p:=⟨b,off+j,none⟩) (W0v hb hn₀)).trans (hcs j hj)) h0
def acc: List (Nat×Wd)->Nat:=List.foldl (λa x=>(a*4294967296)%18446744073709551616+x.2.1) 0
theorem Xz7(pre:List (Nat×Wd))(x:Nat×Wd): acc (pre++[x])=(acc pre*4294967296)%18446744073709551616+x.2.1:=by simp[acc]
theorem Yfb{p q:Nat}(hp:p<18446744073709551616)(hq:q<18446744073709551616): bits .or .u64 (p:Int) (q:Int)=IntKind.u64.wrap ((p|||q:Nat):Int):=by
 show IntKind.u64.wrap _=_
 congr 2
 exact Ymw hp hq
theorem Yj4{a x:Nat}(hx:x<4294967296): bits .or .u64 (IntKind.u64.wrap ((a:Int)*4294967296)) (IntKind.u64.wrap (x:Int))=(((a*4294967296)%18446744073709551616+x:Nat):Int):=by
 have e1:IntKind.u64.wrap ((a:Int)*4294967296)=(((a*4294967296)%18446744073709551616:Nat):Int):=(wUm _).trans (by omega)
 have e2:a*4294967296%18446744073709551616=(a%4294967296)*2^32:=by omega
 rw[e1,wU (x:=(x:Int)) (by omega),Yfb (by omega) (by omega),e2,Xdk x (a%4294967296) 32 (by omega),wU (by omega)]
theorem Xva{n₀ Bs N:Nat}(W:World)(l:Nat)(o:Obj)(hl:N<=l)(hn:n₀<=N)(hB:Bs<N)(h:W.heap[l]?=some o)(o':Obj): Kq n₀ Bs W (W.putObj l o') :=
 ⟨(Below.refl n₀ W).grown (grownBy_putObj' W l o') (by have:=(W3o.1 h).1;omega) (λk e=>by cases e;omega),World.putObj_heap_other (by omega)⟩
set_option maxRecDepth 100000 in
set_option maxHeartbeats 2000000 in
theorem Xs5(F:Fence)(n:Nat)(h3:F.fn 256)(h5:F.fn 169)(h7:F.fn 241)(hro:F.round=none)(hn:3<=n)(p:Option Addr)(cap:Nat)(zs:List Wd)(hreach:zs.length*4<=140737488351232)(w:World)
 (hI:zs=[]\/∃b off,p=some ⟨b,off,none⟩/\b<w.heap.size/\∀j,j<zs.length->w.cell? ⟨b,off+j,none⟩=some (.int .u32 ((zs[j]?.getD ⟨0,by decide⟩).1:Int))) :
 CallsIn F n Tryz.prog 256 #[.slice p zs.length cap] w λe W'=>e=.returned (.int .u64 (acc (bk zs zs.length):Int))/\Below w.heap.size w W':=by
 have h1:1<=n:=by omega
 refine callsIn_of_wp_marks Tryz.func256 rfl h3 ?_ hro
 simp only[Tryz.ntmps256,W6j,W0s,W4j,Nat.reduceAdd,Nat.reduceSub,W5u,W5v,W6k,W5z,W3z,W5a]
 gi_wp2_with (gi_at_call 169;refine(Xoz F (n-1) h5 hro _ _ _ _).mono ?_;rintro e w' ⟨rfl,rfl⟩)
 have bS:=Boxed.new w 178 (.int .u64 0)
 have bN:=Boxed.new (w.alloc (.cells #[.int .u64 0] 178)) 88 (.slice p zs.length cap)
 rw[World.size_alloc] at bN
 have hB0:Below w.heap.size w ((w.alloc (.cells #[.int .u64 0] 178)).alloc (.cells #[.slice p zs.length cap] 88)):=((Below.refl _ w).alloc (W0a _) _).alloc (by simp) _
 refine wpIn_rangeFunc_ownG hro h1 (gf:=241) (lb:=#[.pointer (some ⟨w.heap.size+1,0,none⟩)]) rfl h7 (enters_of Tryz.func241 (by kernel_rfl) rfl)
  (Xsb F (n-1) h7 hro (by omega) (w.heap.size+1) w.heap.size p cap zs hreach _ (by simp) (by simp;omega) bN.cell (hI.imp_right λ⟨b,off,h1,h2,h3⟩=>⟨b,off,h1,h2,λj hj=>(hB0.cell (p:=⟨b,off+j,none⟩) h2).trans (h3 j hj)⟩)) Kq.trans (λW l o o' hl h _ _=>Xva W l o hl (by simp;omega) (by simp) h o') (Below.refl _ _) (λ_=>rfl)
  (λpre W=>(W.cell? ⟨w.heap.size,0,none⟩=some (.int .u64 (acc pre:Int))/\W.frozen? ⟨w.heap.size,0,none⟩=false)/\Below w.heap.size w W)
  (λ_ _ _=>False)
  (OwnFrom.and (Own.from (λs A B row hs hg hr=>⟨cell_kept hs.1 hg hr,(frozen_kept hs.1 hg hr).trans hs.2⟩) _) (ownFrom_below (W0a _) (by simp;omega)))
  (λ_ _ _ _ _ hs _ _=>hs)
  ⟨⟨(bS.alloc _).cell,(bS.alloc _).frozen⟩,hB0⟩
  (λx=>{ tmps:=#[.slice p zs.length cap,undef,.int .u64 0,.pointer (some ⟨w.heap.size,0,none⟩),undef,.int .u32 (x.2.1:Int),.slice p zs.length cap,.func (.func 241) #[] #[.pointer (some ⟨w.heap.size+1,0,none⟩)],.int .i64 (x.1:Int),.int .u32 (x.2.1:Int),undef,undef,undef,undef,undef,undef],defers:=[] }) ?assign ?body ?done ?stop
 case assign =>
  intro l x W K hK
  gi_wp2
  exact hK
 case body =>
  rintro l pre x W ⟨⟨hc,hf⟩,hB⟩ _
  gi_wp2
  rw[Yj4 x.2.2,<-Xz7]
  exact⟨(KeepsOthers.setCell _ _ _).from _,⟨(Below.refl w.heap.size W).setCell (p:=⟨w.heap.size,0,none⟩) (W0a _) _,Below.heap_setCell _ _ _ _ (by simp)⟩,⟨World.cell?_setCell_same' _ _ _ (by rw[hc];rfl),by rw[World.frozen?_setCell];exact hf⟩,hB.setCell (p:=⟨w.heap.size,0,none⟩) (W0a _) _⟩
 case done =>
  rintro D ys W hD rfl ⟨⟨hc,_⟩,hB⟩ hK
  gi_wp2
  refine⟨by simp,.inl ⟨_,_,rfl,run_takeDeferred hK,?_⟩⟩
  exact⟨_,results_tmp rfl _ _ _,rfl,hB.trans (belowK_b (w:=w) (W0a _) W D _ _ (by simp at hD;omega) hK rfl rfl)⟩
 case stop =>
  rintro D c pre W _ _ h _
  exact h.elim
theorem wds{l:List Nat}(h:Xaq l): ∃zs:List Wd,zs.map (·.1)=l :=
 by
 induction l with
 | nil=>exact⟨[],rfl⟩
 | cons a l ih =>
  obtain⟨zs,hz⟩:=ih λx hx=>h x (W0p _ hx)
  exact⟨⟨a,h a (W0l ..)⟩::zs,by rw[W4h,hz]⟩
theorem Yfk{zs:List Wd}{x:Nat}(h:zs.map (·.1)=dig x)(hx:x<18446744073709551616): acc (bk zs zs.length)=x:=by
 have hl:(dig x).length<=2:=Xas (by omega)
 have hv:=Xag x
 rw[<-h] at hl hv
 match zs,hl with
 | [],_=>simpa [bk,acc,val] using hv
 | [a],_ =>
  have ha:=a.2
  simp[val] at hv
  simp[bk,acc,W6x]
  omega
 | [a,b],_ =>
  have ha:=a.2
  have hb:=b.2
  simp[val] at hv
  simp[bk,acc,W6x]
  omega
theorem Xqw{W:Vm.GW}{w':World}(h:Below W.w.heap.size W.w w'): ∃W':Vm.GW,W'.w=w'/\Vm.Fm W W' (λ_=>False) :=
 ⟨⟨w', W.A, λb i k => W0v (W.hA b i k) h.size⟩, rfl,
   { os := h.os, out := h.output, tape := h.tape, size := h.size, same := λb hb _ => h.block b hb, A := λ_ _ _ _ => W3x
     le:=λb i v hv=>⟨by
      have hb:b<W.w.heap.size:=by
       apply W1b
       intro hn
       have:=hv.1
       simp only[World.cell?] at this
       rw[W3u (by omega)] at this
       cases this
      exact(World.cell?_of_block (h.block b hb)).trans hv.1,hv.2⟩ }⟩
theorem Xfx{x:Nat}(hx:x<18446744073709551616): C0 256 [.d (ws (dig x))] (·=.d (.int .u64 x)):=by
 obtain⟨zs,hz⟩:=wds (Xae x)
 have hl:(dig x).length<=2:=Xas (by omega)
 refine⟨⟨_,Tryz.func256,rfl,rfl⟩,λW vs _ ha=>?_⟩
 match vs,ha with
 | [v],ha =>
  obtain⟨p,c,rfl,hc1,hc2,hrow⟩:=Vm.V_sl ha.1
  have hm:((dig x).map wd).length=zs.length:=by rw[<-hz];simp
  rw[hm]
  refine(callsIn_wide (n:=3)).1 ((Xs5 Fence.wide 3 trivial trivial trivial rfl (W0a _) p c zs (by rw[<-hz,W0i] at hl;omega) W.w ?_).mono ?_)
  . rcases hrow with h0 | ⟨b,off,hp,hr⟩
    . left
      have:=congrArg List.length h0
      rw[hm] at this
      exact W0o (by simpa using this)
    . have hcell:∀j,j<zs.length->W.w.cell? ⟨b,off+j,none⟩=some (.int .u32 ((zs[j]?.getD ⟨0,by decide⟩).1:Int)):=λj hj=>by
       obtain⟨z,hzj⟩:∃z,zs[j]?=some z:=⟨_,W0c hj⟩
       obtain⟨e,h1,h2,h3⟩:=Vm.D.row_get hr (i:=j) (x:=wd z.1) (by rw[<-hz];simp[hzj])
       have h1:e=[.int .u32 z.1]:=h1.1
       have:=(h3 0 (.int .u32 z.1) (by rw[h1];rfl)).1
       rw[hzj]
       simpa using this
      by_cases h0:zs=[]
      . exact .inl h0
      . refine .inr ⟨b,off,hp,?_,hcell⟩
        have h1:=hcell 0 (W6t.2 h0)
        apply W1b
        intro hn
        simp only[World.cell?] at h1
        rw[W3u (by omega)] at h1
        cases h1
  . rintro e w' ⟨rfl,hB⟩
    obtain⟨W',hw,hE⟩:=Xqw hB
    refine⟨W',.d (.int .u64 x),_,rfl,hw,hE,?_,λ_ h=>h,rfl⟩
    rw[Yfk hz hx]
    exact Vm.int_V (by show IntKind.u64.wrap _=_;exact wU (by omega))
end
section
theorem Yl0{a b:Nat}(ha:a<4294967296)(hb:b<4294967296): a*b<=18446744065119617025:=by
 have:=W2b (show a<=4294967295 by omega) (show b<=4294967295 by omega)
 omega
theorem Xnq{q k y d:Nat}{l:List Nat}(hw:Xaq l)(hq:q+(k+1)<=l.length)(hk:(dig y).length=k)(hd:d<4294967296)(hk40:k<=1099511627776):
 CW0 317 [.own 1000001 1 q (k+1),.d (ws (dig y)),.d (.int .u64 d)] [(1000001,.arr 1 (l.map wd))] λv H'=>∃(c:Nat) (l':List Nat),c<=1/\v=.b (dc (c=1))/\H'=[(1000001,.arr 1 (l'.map wd))]/\l'.length=l.length/\Xaq l' /\
  (∀j,(j<q\/q+(k+1)<=j)->l'[j]?=l[j]?)/\val ((l'.drop q).take (k+1))+y*d=val ((l.drop q).take (k+1))+4294967296^(k+1)*c:=by
 refine EnW Tryz.func317 λ_ _ _ _=>?_
 refine Lo (λ(i,lo,br)=>[(0,.own 1000001 1 q (k+1)),(1,.d (ws (dig y))),(2,.d (.int .u64 d)),(7,.d (.int .u64 (br:Nat))),(13,.d (ws (dig y))),(14,.d (.int .i64 k)),(15,.d (.int .i64 (i:Nat)))]) (λ(_,lo,_)=>[(1000001,.arr 1 (lo.map wd))])
  (λ(i,lo,br)=>i<=k/\lo.length=l.length/\Xaq lo/\br<4294967296/\(∀j,(j<q\/q+i<=j)->lo[j]?=l[j]?)/\val ((lo.drop q).take i)+val ((dig y).take i)*d=val ((l.drop q).take i)+4294967296^i*br) (λ(i,_,_)=>k-i) (0,l,0) [] rfl
  ⟨by omega,rfl,hw,by omega,λ_ _=>rfl,by simp[val]⟩ ?_ (by exact⟨by simp only[lw,ws,hk];rfl,rfl,rfl,rfl,rfl⟩)
 rintro⟨i,lo,br⟩ ⟨hi,hl,hwo,hbr,hrest,hval⟩
 refine By rfl (λh=>?_) λh=>?_
 . obtain⟨w,hw1⟩:=xat (l:=dig y) (k:=i) (by omega)
   have hwb:=ww hw1 (Xae y)
   obtain⟨u,hu⟩:=xat (l:=lo) (k:=q+i) (by omega)
   have hub:=ww hu hwo
   have hwd:=Yl0 hwb hd
   obtain⟨s,hs⟩:∃s,s=w*d+br:=⟨_,rfl⟩
   obtain⟨t,ht⟩:∃t,t=(u+18446744073709551616-s%4294967296)%18446744073709551616:=⟨_,rfl⟩
   refine Ix i rfl (mp hw1) ?_
   refine Go.Vm.Cv w rfl ?_
   refine Ar (w*d:Nat) rfl ?_ (wr (W2p ..).symm (by simp only[inK];omega))
   refine Ar s rfl ?_
   refine El i rfl (by omega) ?_
   refine Ld (wd u) rfl (mp hu) ?_
   refine Go.Vm.Cv u rfl ?_
   refine Go.Vm.Cv (s%4294967296:Nat) rfl ?_ (by rw[wWm];omega)
   refine Go.Vm.Cv (s%4294967296:Nat) rfl ?_
   refine Ar t rfl ?_ (by show _=_;rw[wUm];omega)
   refine Go.Vm.Cv (t%4294967296:Nat) rfl ?_ (by rw[wWm];omega)
   refine El i rfl (by omega) ?_
   refine Sto rfl (by simp only[lw];omega) ms ?_
   refine Ar (s/4294967296:Nat) rfl ?_ (Xi4 (n:=32) (by decide))
   refine Ar (t/9223372036854775808:Nat) rfl ?_ (Xi4 (n:=63) (by decide))
   refine Ar (s/4294967296+t/9223372036854775808:Nat) rfl ?_
   refine Ar (i+1:Nat) rfl ?_
   refine Bk (i+1,lo.set (q+i) (t%4294967296),s/4294967296+t/9223372036854775808) [] rfl ⟨by omega,by simp[hl],Xg9 hwo (by omega),by omega,λj hj=>by rw[W1w (by omega)];exact hrest j (by omega),?_⟩ (by show k-(i+1)<k-i;omega)
   have hu0:l[q+i]?=some u:=by rw[<-hrest (q+i) (.inr (W0a _))];exact hu
   have hst:t%4294967296+s=u+4294967296*(s/4294967296+t/9223372036854775808):=by omega
   rw[Xfu (by omega),Xac hw1,Xb5 hu0,W0y,W0w,W1h,W0w]
   have e:4294967296^i*(t%4294967296+s)=4294967296^i*(u+4294967296*(s/4294967296+t/9223372036854775808)):=by rw[hst]
   have e2:4294967296^i*s=4294967296^i*(w*d)+4294967296^i*br:=by rw[hs,W1c]
   rw[W1c,W1c (4294967296^i) u] at e
   omega
 . have hik:i=k:=by omega
   rw[hik] at hrest hval
   rw[W0b (l:=dig y) (by omega),Xag] at hval
   obtain⟨u,hu⟩:=xat (l:=lo) (k:=q+k) (by omega)
   have hub:=ww hu hwo
   obtain⟨t,ht⟩:∃t,t=(u+18446744073709551616-br)%18446744073709551616:=⟨_,rfl⟩
   refine El k rfl (by omega) ?_ (by simp only[lw];omega)
   refine Ld (wd u) rfl (mp hu) ?_
   refine Go.Vm.Cv u rfl ?_
   refine Ar t rfl ?_ (by show _=_;rw[wUm];omega)
   refine Go.Vm.Cv (t%4294967296:Nat) rfl ?_ (by rw[wWm];omega)
   refine El k rfl (by omega) ?_ (by simp only[lw];omega)
   refine Sto rfl (by simp only[lw];omega) ms ?_
   refine Ar (t/9223372036854775808:Nat) rfl ?_ (Xi4 (n:=63) (by decide))
   have hu0:l[q+k]?=some u:=by rw[<-hrest (q+k) (.inr (W0a _))];exact hu
   refine Rw [] [(1000001,.arr 1 ((lo.set (q+k) (t%4294967296)).map wd))] rfl (.one (.rf rfl) rfl rfl) ⟨t/9223372036854775808,_,by omega,?_,rfl,by simp[hl],Xg9 hwo (by omega),λj hj=>by rw[W1w (by omega)];exact hrest j (by omega),?_⟩
   . congr 1;exact congrArg dc (propext (by constructor<;>intro<;>omega))
   . rw[Xfu (by omega),Xb5 hu0,W0y,W0w]
     have e:4294967296^k*(t%4294967296+br)=4294967296^k*(u+4294967296*(t/9223372036854775808)):=by congr 1;omega
     rw[W1c,W1c (4294967296^k) u] at e
     omega
theorem Xrq{q k y:Nat}{l:List Nat}(hw:Xaq l)(hq:q+(k+1)<=l.length)(hk:(dig y).length=k)(hk40:k<=1099511627776):
 CW0 318 [.own 1000001 1 q (k+1),.d (ws (dig y))] [(1000001,.arr 1 (l.map wd))] λv H'=>∃(e:Nat) (l':List Nat),e<=1/\H'=[(1000001,.arr 1 (l'.map wd))]/\l'.length=l.length/\Xaq l' /\
  (∀j,(j<q\/q+(k+1)<=j)->l'[j]?=l[j]?)/\val ((l'.drop q).take (k+1))+4294967296^(k+1)*e=val ((l.drop q).take (k+1))+y:=by
 refine EnW Tryz.func318 λ_ _ _ _=>?_
 refine Lo (λ(i,lo,cr)=>[(0,.own 1000001 1 q (k+1)),(1,.d (ws (dig y))),(4,.d (.int .u64 (cr:Nat))),(7,.d (ws (dig y))),(8,.d (.int .i64 k)),(9,.d (.int .i64 (i:Nat)))]) (λ(_,lo,_)=>[(1000001,.arr 1 (lo.map wd))])
  (λ(i,lo,cr)=>i<=k/\lo.length=l.length/\Xaq lo/\cr<=1/\(∀j,(j<q\/q+i<=j)->lo[j]?=l[j]?)/\val ((lo.drop q).take i)+4294967296^i*cr=val ((l.drop q).take i)+val ((dig y).take i)) (λ(i,_,_)=>k-i) (0,l,0) [] rfl
  ⟨by omega,rfl,hw,by omega,λ_ _=>rfl,by simp[val]⟩ ?_ (by exact⟨by simp only[lw,ws,hk];rfl,rfl,rfl,rfl,rfl⟩)
 rintro⟨i,lo,cr⟩ ⟨hi,hl,hwo,hcr,hrest,hval⟩
 refine By rfl (λh=>?_) λh=>?_
 . obtain⟨w,hw1⟩:=xat (l:=dig y) (k:=i) (by omega)
   have hwb:=ww hw1 (Xae y)
   obtain⟨u,hu⟩:=xat (l:=lo) (k:=q+i) (by omega)
   have hub:=ww hu hwo
   obtain⟨s,hs⟩:∃s,s=cr+(u+w):=⟨_,rfl⟩
   refine Ix i rfl (mp hw1) ?_
   refine El i rfl (by omega) ?_
   refine Ld (wd u) rfl (mp hu) ?_
   refine Go.Vm.Cv u rfl ?_
   refine Go.Vm.Cv w rfl ?_
   refine Ar (u+w:Nat) rfl ?_
   refine Ar s rfl ?_
   refine Go.Vm.Cv (s%4294967296:Nat) rfl ?_ (by rw[wWm];omega)
   refine El i rfl (by omega) ?_
   refine Sto rfl (by simp only[lw];omega) ms ?_
   refine Ar (s/4294967296:Nat) rfl ?_ (Xi4 (n:=32) (by decide))
   refine Ar (i+1:Nat) rfl ?_
   refine Bk (i+1,lo.set (q+i) (s%4294967296),s/4294967296) [] rfl ⟨by omega,by simp[hl],Xg9 hwo (by omega),by omega,λj hj=>by rw[W1w (by omega)];exact hrest j (by omega),?_⟩ (by show k-(i+1)<k-i;omega)
   have hu0:l[q+i]?=some u:=by rw[<-hrest (q+i) (.inr (W0a _))];exact hu
   rw[Xfu (by omega),Xac hw1,Xb5 hu0,W0y,W0w]
   have e:4294967296^i*(s%4294967296+4294967296*(s/4294967296))=4294967296^i*(cr+(u+w)):=by congr 1;omega
   simp only[W1c] at e
   omega
 . have hik:i=k:=by omega
   rw[hik] at hrest hval
   rw[W0b (l:=dig y) (by omega),Xag] at hval
   obtain⟨u,hu⟩:=xat (l:=lo) (k:=q+k) (by omega)
   have hub:=ww hu hwo
   refine El k rfl (by omega) ?_ (by simp only[lw];omega)
   refine Ld (wd u) rfl (mp hu) ?_
   refine Go.Vm.Cv cr rfl ?_
   refine Ar ((u+cr)%4294967296:Nat) rfl ?_ (by show _=_;rw[wWm];omega)
   refine El k rfl (by omega) ?_ (by simp only[lw];omega)
   refine Sto rfl (by simp only[lw];omega) ms ?_
   have hu0:l[q+k]?=some u:=by rw[<-hrest (q+k) (.inr (W0a _))];exact hu
   refine Rw [] [(1000001,.arr 1 ((lo.set (q+k) ((u+cr)%4294967296)).map wd))] rfl (.tup (.one (.rf rfl) (λ_ _ e=>by cases e) (λ_ _ e=>by cases e))) ⟨(u+cr)/4294967296,_,by omega,rfl,by simp[hl],Xg9 hwo (by omega),λj hj=>by rw[W1w (by omega)];exact hrest j (by omega),?_⟩
   rw[Xfu (by omega),Xb5 hu0,W0y,W0w]
   have e:4294967296^k*((u+cr)%4294967296+4294967296*((u+cr)/4294967296))=4294967296^k*(u+cr):=by congr 1;omega
   simp only[W1c] at e
   omega
theorem Xi7{n x:Nat}(hx:(dig x).length<=549755813888)(hn32:n<32): C0 316 [.d (ws (dig x)),.d (.int .i64 n)] λv=>∃l,l.length=(dig x).length+1/\Xaq l/\val l=x*2^n/\v=.d (ws l) :=
 CW.data (Xg0 hx hn32) rfl λv H' ⟨ob,e,l,h1,h2,h3,h4,h5⟩=>⟨.d (ws l),by rw[h4,e,h5];exact .one (.own rfl (by simp) (oa rfl)) rfl rfl,l,h1,h2,h3,rfl⟩
theorem Xqj{y n:Nat}(hy:y≠0){t:Nat}(ht:(dig y)[(dig y).length-1]?=some t)(h1:2147483648<=t*2^n)(h2:t*2^n<4294967296):
 (dig (y*2^n)).length=(dig y).length/\∃t',(dig (y*2^n))[(dig y).length-1]?=some t'/\2147483648<=t':=by
 have hl:(dig y).length≠0:=λh=>hy (Xr7.1 (W0o h))
 have hs:=Xac ht
 rw[show (dig y).length-1+1=(dig y).length by omega,W2j,Xag] at hs
 have hlo:=Xbw ((Xae y).take ((dig y).length-1))
 rw[W0j,W2f (by omega)] at hlo
 generalize hk:(dig y).length-1=k at *
 have hlow:4294967296^k*2147483648<=y*2^n:=by
  rw[hs,W1h,W0w]
  have:=W0t (4294967296^k) h1
  omega
 have hup:y*2^n<4294967296^(k+1):=by
  have e:y+1<=4294967296^k*(t+1):=by rw[hs,W1c];omega
  have e2:t*2^n+2^n<=4294967296:=by
   have hd:2^n ∣ 4294967296:=by
    have hn:n<32:=by
     have:2^n<2^32:=by
      have:=Nat.le_mul_of_pos_left (2^n) (show 0<t by rcases W2u t with h | h;rw[h] at h1;simp at h1;exact h)
      omega
     exact(W2v (by decide:1<2)).1 this
    exact⟨2^(32-n),by rw[<-W0x,show n+(32-n)=32 by omega]⟩
   obtain⟨q,hq⟩:=hd
   rw[hq,W1i t] at h2
   have:=Nat.lt_of_mul_lt_mul_left h2
   rw[hq,W1i t,<-Nat.mul_succ]
   exact W0t _ this
  have e3:=W0q (2^n) e
  rw[W0w,W1h t,W6q] at e3
  have e4:=W0t (4294967296^k) e2
  have hp:=W0r n
  rw[W1h,W6q] at e3
  rw[W0y]
  omega
 have hlen:(dig (y*2^n)).length=(dig y).length:=by
  have h3:=Xas hup
  have h4:k<(dig (y*2^n)).length:=by
   apply W1b
   intro hn
   have:=Xdp (y*2^n)
   have h5:4294967296^(dig (y*2^n)).length<=4294967296^k:=W0m (by decide) (by omega)
   have:4294967296^k<=4294967296^k*2147483648:=W4c _ (by decide)
   omega
  omega
 refine⟨hlen,?_⟩
 obtain⟨t',ht'⟩:=xat (l:=dig (y*2^n)) (k:=k) (by omega)
 refine⟨t',ht',?_⟩
 have hs':=Xac ht'
 rw[show k+1=(dig (y*2^n)).length by omega,W2j,Xag] at hs'
 have hlo':=Xbw ((Xae (y*2^n)).take k)
 rw[W0j,W2f (by omega)] at hlo'
 apply W1b
 intro hn
 have:4294967296^k*(t'+1)<=4294967296^k*2147483648:=W0t _ (by omega)
 rw[W1c] at this
 omega
theorem Yam{lu:List Nat}{i n:Nat}{Y:Nat}(hw:Xaq lu)(hi:i+n<lu.length)(hR:val (lu.drop (i+1))<Y)(hY:Y<=4294967296^n):
 val (lu.drop i)=val ((lu.drop i).take (n+1))/\val (lu.drop i)<4294967296*Y:=by
 obtain⟨u,hu⟩:=xat (l:=lu) (k:=i) (by omega)
 have hub:=hw u (W0f hu)
 have h1:=Xbx hu
 have h2:val (lu.drop i)<4294967296*Y:=by
  rw[h1]
  have:=W0t 4294967296 (show val (lu.drop (i+1))+1<=Y from hR)
  omega
 refine⟨?_,h2⟩
 have h3:=Xbo (lu.drop i) (n+1) (by rw[W1l];omega)
 rw[h3]
 have h4:val (lu.drop i)<4294967296^(n+1):=by
  have:=W0t 4294967296 hY
  rw[W0y,W1i (4294967296^n)]
  omega
 rcases W2u (val ((lu.drop i).drop (n+1))) with h5 | h5
 . rw[h5,W3d,W2n]
 . have:=W4c (4294967296^(n+1)) h5
   omega
theorem Xey{l m:List Nat}{k:Nat}(h:∀j,k<=j->l[j]?=m[j]?): l.drop k=m.drop k:=by
 apply W3y
 intro i
 rw[W1y,W1y]
 exact h _ (by omega)
theorem Yf8(M low u0 u1 u2:Nat): low+M*u2+M*4294967296*u1+M*4294967296*4294967296*u0=low+M*(u2+4294967296*(u0*2^32+u1)):=by
 grind
theorem Xzv{x y:Nat}: Xba (x:Int) (y:Int)<0↔x<y:=by
 unfold Xba
 split
 . constructor<;>intro<;>omega
 . split
   . constructor<;>intro<;>omega
   . constructor<;>intro<;>omega
theorem Xwl{x y Y s Q R:Nat}(hY:y*2^s=Y)(h:Q*Y+R=x*2^s)(hR:R<Y): Q=x/y/\R=x%y*2^s:=by
 have h1:Q=(x*2^s)/(y*2^s):=by
  rw[hY,<-h,W1i,Nat.mul_add_div (by omega),W4g hR,W2n]
 have h2:R=(x*2^s)%(y*2^s):=by
  rw[hY,<-h,W1i,Nat.mul_add_mod,W3w hR]
 rw[Nat.mul_div_mul_right _ _ (W0r s)] at h1
 rw[Nat.mul_mod_mul_right] at h2
 exact⟨h1,h2⟩
theorem Xwt{U Y M low u2 top vlow tn t' dd r:Nat}(hY0:Y≠0)(hM:0<M)(hUM:U=low+M*(u2+4294967296*top))(hYM:Y=vlow+M*(tn+4294967296*t'))(hUlt:U<4294967296*Y)(hvlow:vlow<M)(htnb:tn<4294967296)(htt:2147483648<=t')
 (hdd:(dd-1)*t'+(r+t')=top) (hr:4294967296<=r+t') (hUq:U/Y<dd):dd-1<4294967296/\U/Y<=dd-1/\dd-1<=U/Y+1:=by
 have hdB:dd-1<4294967296:=by
  apply W1b
  intro hn2
  have h1:=W0q t' (show 4294967296<=dd-1 by omega)
  have h2:top<4294967296*t'+4294967296:=by
   apply W1b
   intro hn3
   have h3:M*(4294967296*(4294967296*t'+4294967296))<=M*(4294967296*top):=W0t _ (W0t _ (by omega))
   have h4:Y<M*(4294967296*t'+4294967296):=by
    rw[hYM]
    have:M*(tn+4294967296*t'+1)<=M*(4294967296*t'+4294967296):=W0t _ (by omega)
    rw[W1c M _ 1,W4a] at this
    omega
   have h5:M*(4294967296*(4294967296*t'+4294967296))=4294967296*(M*(4294967296*t'+4294967296)):=by grind
   have h6:M*(4294967296*top)<=U:=by rw[hUM,W1c];omega
   omega
  omega
 refine⟨hdB,by omega,?_⟩
 rw[hUM,hYM]
 refine Yb7 (r:=r+t') hM hvlow hdd ?_ hdB (by omega)
 have h1:=Yl0 (a:=dd-1) (b:=tn) hdB htnb
 omega
theorem Xc3{x y:Nat}(hx:(dig x).length<=549755813888)(hy:(dig y).length<=549755813888)(hy0:y≠0): C0 255 [.d (ws (dig x)),.d (ws (dig y))] (·=.tup (.pr (.d (ws (dig (x/y)))) (.d (ws (dig (x%y)))))):=by
 refine En Tryz.func255 λ_ _ _=>?_
 refine Ce rfl (Xb2 (by omega)) ?_
 refine By rfl (λh=>?_) λh=>?_
 . have hlt:x<y:=Xzv.1 h
   refine Ce rfl (Xbq (by omega)) ?_
   exact RTt rfl (.cons (.nil (by rw[W4g hlt,Xan];rfl)) (.one (.eq (by rw[W3w hlt])) (λ_ _ e=>by cases e) (λ_ _ e=>by cases e)))
 have hge:y<=x:=W4d λhlt=>h (Xzv.2 hlt)
 have hlenle:=Xar hge
 refine By rfl (λh2=>?_) λh2=>?_<;>simp only[lw] at h2
 . have hx64:x<18446744073709551616:=by
    have:=Xdp x
    have h1:4294967296^(dig x).length<=4294967296^2:=W0m (by decide) (by omega)
    omega
   refine Ce rfl (Xfx hx64) ?_
   refine Ce rfl (Xfx (by omega)) ?_
   have hq64:x/y<18446744073709551616:=W1t (W3m ..) hx64
   have hr64:x%y<18446744073709551616:=W1t (Nat.mod_le ..) hx64
   refine Dw rfl ?_
   refine Ar (x/y:Nat) rfl ?_ (show _/\_ from⟨by omega,Ycs x y hx64⟩)
   refine Ce rfl (Xce hq64) ?_
   refine Ar (x%y:Nat) rfl ?_ (show _/\_ from⟨by omega,Xrk x y⟩)
   refine Ce rfl (Xce hr64) ?_
   exact R0t
 refine By rfl (λh3=>?_) λh3=>?_<;>simp only[lw] at h3
 . obtain⟨t,ht⟩:=xat (l:=dig y) (k:=0) (by omega)
   have htb:=ww ht (Xae y)
   have hyt:y=t:=by
    have:=Xac ht
    rw[W0b (by omega),Xag] at this
    simpa [val] using this
   refine Ix 0 rfl (mp ht) ?_
   refine Ce rfl (Xlf (y:=t) hx htb (by omega)) ?_
   exact RTt rfl (.cons (.eq (by rw[hyt])) (.one (.eq (by rw[hyt])) (λ_ _ e=>by cases e) (λ_ _ e=>by cases e)))
 have hy2:2<=(dig y).length:=by
  have:(dig y).length≠0:=λh=>hy0 (Xr7.1 (W0o h))
  omega
 obtain⟨t,ht⟩:=xat (l:=dig y) (k:=(dig y).length-1) (by omega)
 have htb:=ww ht (Xae y)
 have ht0:t≠0:=by
  rcases Xhe y with h | ⟨t2,h2,h3⟩
  . rw[h] at hy2;simp at hy2
  . rw[ht] at h2;injection h2 with h2;rw[h2];exact h3
 refine Ar ((dig y).length-1:Nat) rfl ?_ (wr (by simp only[lw];omega) (by simp only[inK];omega))
 refine Ix ((dig y).length-1) rfl (mp ht) ?_
 refine Ca rfl (Xgw htb ht0) λv hv=>?_
 obtain⟨s,rfl,hs32,hs1,hs2⟩:=hv
 obtain⟨hlen,t',ht',htt⟩:=Xqj hy0 ht hs1 hs2
 refine Co rfl (Xg0 hx hs32) λv ob hv=>?_
 obtain⟨lu0,hul,huw,huv,rfl,rfl⟩:=hv
 refine Ca rfl (Xi7 hy hs32) λv hv=>?_
 obtain⟨lv,hvl,hvw,hvv,rfl⟩:=hv
 obtain⟨Y,hY⟩:∃Y,Y=y*2^s:=⟨_,rfl⟩
 rw[<-hY] at hlen ht' hvv
 refine Ce (r:=.d (ws (dig Y))) rfl (by have:=Xa5 hvw (by omega);rwa[hvv] at this) ?_
 obtain⟨mv,hmv⟩:∃mv,mv=(dig Y).length:=⟨_,rfl⟩
 have hq0:lu0.length-mv<=549755813889:=by omega
 refine Ar (lu0.length-mv:Nat) rfl ?_ (wr (by simp only[lw];omega) (by simp only[inK];omega))
 refine Mk (lu0.length-mv) rfl (by omega) ?_
 obtain⟨tn,htn⟩:=xat (l:=dig Y) (k:=mv-2) (by omega)
 have htnb:=ww htn (Xae Y)
 have ht1:(dig Y)[mv-1]?=some t':=by rw[hmv,hlen];exact ht'
 have htb1:=ww ht1 (Xae Y)
 refine Dw rfl ?_
 refine Ar (mv-1:Nat) rfl ?_ (wr (by simp only[lw];omega) (by simp only[inK];omega))
 refine Ix (mv-1) rfl (mp ht1) ?_
 refine Go.Vm.Cv t' rfl ?_
 refine Ar (mv-2:Nat) rfl ?_ (wr (by simp only[lw];omega) (by simp only[inK];omega))
 refine Ix (mv-2) rfl (mp htn) ?_
 refine Go.Vm.Cv tn rfl ?_
 refine Ar ((lu0.length-mv:Nat)-1:Int) rfl ?_
 have hY0:Y≠0:=by rw[hY];exact Nat.mul_ne_zero hy0 (W7q.1 (W0r s))
 have hYl:=Xdp Y
 have hYM:Y=val ((dig Y).take (mv-2))+4294967296^(mv-2)*(tn+4294967296*t'):=by
  have h1:=Xac htn
  have h2:=Xac (k:=mv-2+1) (l:=dig Y) (x:=t') (by rw[show mv-2+1=mv-1 by omega];exact ht1)
  rw[show mv-2+1+1=(dig Y).length by omega,W2j,Xag,h1,W0y,W0w] at h2
  rw[W1c];omega
 have hvlow:val ((dig Y).take (mv-2))<4294967296^(mv-2):=by
  have:=Xbw ((Xae Y).take (mv-2))
  rwa[W0j,W2f (by omega)] at this
 have hM:0<4294967296^(mv-2):=Nat.pow_pos (by decide)
 have hR0:val (lu0.drop (lu0.length-mv))<Y:=by
  have h1:=Xbo lu0 (lu0.length-mv) (by omega)
  rw[huv] at h1
  have h2:=Xq4 hy0
  have h3:=Xdp x
  have hp:=W0r s
  apply W1b
  intro hn2
  have h4:4294967296^(lu0.length-mv)*Y<=x*2^s:=by
   rw[h1]
   have:=W0t (4294967296^(lu0.length-mv)) (W4d hn2)
   omega
  rw[hY,<-W0w] at h4
  have h5:=Nat.le_of_mul_le_mul_right h4 hp
  have h6:=W0t (4294967296^(lu0.length-mv)) h2
  rw[<-W0x,show lu0.length-mv+((dig y).length-1)=(dig x).length by omega] at h6
  omega
 refine Lo (λ(k,lu,lq)=>[(8,.d (.int .i64 s)),(9,.own 62 1 0 lu0.length),(10,.d (ws (dig Y))),(11,.d (.int .i64 mv)),(12,.own 73 1 0 (lu0.length-mv)),(13,.d (.int .u64 t')),(14,.d (.int .u64 tn)),(15,.d (.int .i64 ((k:Nat)-1:Int)))]) (λ(_,lu,lq)=>[(62,.arr 1 (lu.map wd)),(73,.arr 1 (lq.map wd))])
  (λ(k,lu,lq)=>k<=lu0.length-mv/\lu.length=lu0.length/\Xaq lu/\lq.length=lu0.length-mv/\Xaq lq/\(∀j,j<k->lu[j]?=lu0[j]?)/\val (lu.drop k)<Y/\val (lq.drop k)*Y+val (lu.drop k)=val (lu0.drop k)) (λ(k,_,_)=>k) (lu0.length-mv,lu0,List.replicate (lu0.length-mv) 0) [] rfl
  ⟨by omega,rfl,huw,by simp,Xfr _,λ_ _=>rfl,hR0,by rw[W1z (by simp)];simp[val]⟩ ?_ (by exact⟨by simp only[lw,ws,hmv];rfl,by simp only[W2i];rfl,rfl,rfl,rfl⟩)
 rintro⟨k,lu,lq⟩ ⟨hk,hln,hwu,hlq,hwq,hsame,hRlt,hQR⟩
 refine By rfl (λh=>?_) λh=>?_
 . obtain⟨u0,hu0⟩:=xat (l:=lu) (k:=k-1+mv) (by omega)
   obtain⟨u1,hu1⟩:=xat (l:=lu) (k:=k-1+mv-1) (by omega)
   obtain⟨u2,hu2⟩:=xat (l:=lu) (k:=k-1+mv-2) (by omega)
   have hub0:=ww hu0 hwu
   have hub1:=ww hu1 hwu
   have hub2:=ww hu2 hwu
   obtain⟨hwin,hUlt⟩:=Yam (n:=mv) (i:=k-1) (Y:=Y) hwu (by omega) (by rw[show k-1+1=k by omega];exact hRlt) (by rw[hmv];exact W2h hYl)
   have hUM:val (lu.drop (k-1))=val ((lu.drop (k-1)).take (mv-2))+4294967296^(mv-2)*(u2+4294967296*(u0*2^32+u1)):=by
    have g1:=Xb5 (l:=lu) (q:=k-1) (i:=mv-2) (u:=u2) (by rw[show k-1+(mv-2)=k-1+mv-2 by omega];exact hu2)
    have g2:=Xb5 (l:=lu) (q:=k-1) (i:=mv-2+1) (u:=u1) (by rw[show k-1+(mv-2+1)=k-1+mv-1 by omega];exact hu1)
    have g3:=Xb5 (l:=lu) (q:=k-1) (i:=mv-2+1+1) (u:=u0) (by rw[show k-1+(mv-2+1+1)=k-1+mv by omega];exact hu0)
    rw[show mv-2+1+1+1=mv+1 by omega,g2,g1,<-hwin] at g3
    rw[g3,W0y,W0y]
    exact Yf8 ..
   have hlow:val ((lu.drop (k-1)).take (mv-2))<4294967296^(mv-2):=by
    have:=Xbw ((hwu.drop (k-1)).take (mv-2))
    rwa[W0j,W1l,W2f (by omega)] at this
   obtain⟨U,hU⟩:∃U,U=val (lu.drop (k-1)):=⟨_,rfl⟩
   obtain⟨low,hlowg⟩:∃low,low=val ((lu.drop (k-1)).take (mv-2)):=⟨_,rfl⟩
   obtain⟨vlow,hvlowg⟩:∃vlow,vlow=val ((dig Y).take (mv-2)):=⟨_,rfl⟩
   obtain⟨M,hMg⟩:∃M,M=4294967296^(mv-2):=⟨_,rfl⟩
   obtain⟨top,htop⟩:∃top,top=u0*2^32+u1:=⟨_,rfl⟩
   have htopb:top<18446744073709551616:=by omega
   rw[<-hU] at hwin hUlt hUM
   rw[<-hMg,<-hlowg,<-htop] at hUM
   rw[<-hMg,<-hvlowg] at hYM
   rw[<-hMg,<-hlowg] at hlow
   rw[<-hMg,<-hvlowg] at hvlow
   rw[<-hMg] at hM
   refine Dw rfl ?_
   refine Ar (k-1+mv:Nat) rfl ?_
   refine Eo (k-1+mv) rfl (by omega) ?_
   refine Ld (wd u0) rfl (mp hu0) ?_
   refine Go.Vm.Cv u0 rfl ?_
   refine Ar (u0*2^32:Nat) rfl ?_ (Xh0 (n:=32) rfl (by omega) (by decide))
   refine Ar (k-1+mv:Nat) rfl ?_
   refine Ar (k-1+mv-1:Nat) rfl ?_
   refine Eo (k-1+mv-1) rfl (by omega) ?_
   refine Ld (wd u1) rfl (mp hu1) ?_
   refine Go.Vm.Cv u1 rfl ?_
   refine Ar top rfl ?_ (Ybf (by omega) (by omega) (by rw[Xdk u1 u0 32 (by omega),<-htop]) htopb)
   have hd63:top/t'<9223372036854775808:=by
    rw[W2s (by omega)]
    have:=W0t 9223372036854775808 htt
    omega
   have hr63:top%t'<t':=W1q _ (by omega)
   have hdz:0<=top/t':=W0z _
   refine Dw rfl ?_
   refine Ar (top/t':Nat) rfl ?_ (show _/\_ from⟨by omega,Ycs top t' htopb⟩)
   refine Ar (top%t':Nat) rfl ?_ (show _/\_ from⟨by omega,Xrk top t'⟩)
   have hqz:U/Y<=top/t':=by
    apply W4d
    intro hlt
    have h1:(top/t'+1)*Y<=U:=by
     have:=W6s U Y
     exact W0k (W0q _ hlt) this
    have h2:=W2o top t'
    have h4:(top/t'+1)*t'>=top+1:=by rw[W1h,W1i,W6q];omega
    have h5:(top/t'+1)*(M*(4294967296*t'))<=(top/t'+1)*Y:=W0t _ (by rw[hYM,W1c];omega)
    have h6:(top/t'+1)*(M*(4294967296*t'))=M*(4294967296*((top/t'+1)*t')):=by grind
    have h7:M*(4294967296*(top+1))<=M*(4294967296*((top/t'+1)*t')):=W0t _ (W0t _ h4)
    have h8:M*(u2+4294967296*top+1)<=M*(4294967296*(top+1)):=W0t _ (by omega)
    rw[W1c M _ 1,W4a] at h8
    omega
   refine Cu (some 1000003) (λ(dd:Nat)=>[(8,.d (.int .i64 s)),(9,.own 62 1 0 lu0.length),(10,.d (ws (dig Y))),(11,.d (.int .i64 mv)),(12,.own 73 1 0 (lu0.length-mv)),(13,.d (.int .u64 t')),(14,.d (.int .u64 tn)),(15,.d (.int .i64 ((k:Nat)-1:Int))),(17,.d (.int .u64 dd))]) (λ_=>[(62,.arr 1 (lu.map wd)),(73,.arr 1 (lq.map wd))])
    (λdd=>dd<4294967296/\U/Y<=dd/\dd<=U/Y+1) rfl ?_ λdd ⟨hdB,hdq,hdq1⟩=>?_
   . refine Lo (λ(dd,r)=>[(8,.d (.int .i64 s)),(9,.own 62 1 0 lu0.length),(10,.d (ws (dig Y))),(11,.d (.int .i64 mv)),(12,.own 73 1 0 (lu0.length-mv)),(13,.d (.int .u64 t')),(14,.d (.int .u64 tn)),(15,.d (.int .i64 ((k:Nat)-1:Int))),(17,.d (.int .u64 (dd:Nat))),(18,.d (.int .u64 (r:Nat)))]) (λ_=>[(62,.arr 1 (lu.map wd)),(73,.arr 1 (lq.map wd))])
      (λ(dd,r)=>U/Y<=dd/\dd*t'+r=top/\r<4294967296/\dd<9223372036854775808) (λ(dd,_)=>dd) (top/t',top%t') [] rfl ⟨hqz,by rw[W1i];exact W2o ..,by omega,hd63⟩ ?_
     rintro⟨dd,r⟩ ⟨hdq,hdt,hr,hd63⟩
     refine By rfl (λh1=>?_) λh1=>?_
     . have hUq:U/Y<dd:=Yi2 hUlt (W2m hY0) (by omega)
       have hdd1:1<=dd:=W1t (W0z _) hUq
       have hdd:(dd-1)*t'+(r+t')=top:=by
        obtain⟨e,rfl⟩:∃e,dd=e+1:=⟨dd-1,by omega⟩
        rw[W3r];rw[W1h,W6q] at hdt;omega
       refine Ar (dd-1:Nat) rfl ?_
       refine Ar (r+t':Nat) rfl ?_
       refine By rfl (λh2=>?_) λh2=>?_
       . exact Jn (dd-1) [] rfl (Xwt hY0 hM hUM hYM hUlt hvlow htnb htt hdd (by omega) hUq)
       . exact Bk (dd-1,r+t') [] rfl ⟨by omega,hdd,by omega,by omega⟩ (by show dd-1<dd;omega)
     . have htd:dd*tn<18446744073709551616:=by have:=Yl0 (a:=dd) (b:=tn) (by omega) htnb;omega
       refine Ar (dd*tn:Nat) rfl ?_ (wr (W2p ..).symm (by simp only[inK];omega))
       refine Ar (r*2^32:Nat) rfl ?_ (Xh0 (n:=32) rfl (by omega) (by decide))
       refine Ar (k-1+mv:Nat) rfl ?_
       refine Ar (k-1+mv-2:Nat) rfl ?_
       refine Eo (k-1+mv-2) rfl (by omega) ?_
       refine Ld (wd u2) rfl (mp hu2) ?_
       refine Go.Vm.Cv u2 rfl ?_
       refine Ar (r*2^32+u2:Nat) rfl ?_ (Ybf (by omega) (by omega) (Xdk u2 r 32 (by omega)) (by omega))
       refine By rfl (λh2=>?_) λh2=>?_
       . have hUq:U/Y<dd:=by
          have h1:r*4294967296+u2<dd*tn:=W7a.1 h2
          have h2:=Yi1 hlow hM hdt h1 (by rw[<-hYM];exact W2m hY0)
          rwa[<-hUM,<-hYM] at h2
         have hdd1:1<=dd:=W1t (W0z _) hUq
         have hdd:(dd-1)*t'+(r+t')=top:=by
          obtain⟨e,rfl⟩:∃e,dd=e+1:=⟨dd-1,by omega⟩
          rw[W3r];rw[W1h,W6q] at hdt;omega
         refine Ar (dd-1:Nat) rfl ?_
         refine Ar (r+t':Nat) rfl ?_
         refine By rfl (λh2=>?_) λh2=>?_
         . exact Jn (dd-1) [] rfl (Xwt hY0 hM hUM hYM hUlt hvlow htnb htt hdd (by omega) hUq)
         . exact Bk (dd-1,r+t') [] rfl ⟨by omega,hdd,by omega,by omega⟩ (by show dd-1<dd;omega)
       . exact Jn dd [] rfl ⟨by omega,hdq,by
          rw[hUM,hYM]
          exact Yb7 (r:=r) hM hvlow hdt (by have h2:=Int.ofNat_le.1 (Int.not_lt.1 h2);omega) (by omega) (by omega)⟩
   refine Ar (k-1+mv:Nat) rfl ?_
   refine Ar (k-1+mv+1:Nat) rfl ?_
   refine Sw (k-1) (k-1+mv+1) rfl (by omega) (by omega) ?_
   refine Cw (args:=[.own 1000001 1 (k-1) (mv+1),.d (ws (dig Y)),.d (.int .u64 dd)]) [(1000001,62)] rfl (Xnq (l:=lu) hwu (by omega) hmv.symm hdB (by omega)) (λv H' _ hv=>?_) (by exact congrArg (·::_) (by rw[W1k,show k-1+mv+1-(k-1)=mv+1 by omega];rfl))
   obtain⟨cc,lu1,hc1,rfl,rfl,hl1,hw1,hout1,hv1⟩:=hv
   have hwin1:=Xbw ((hw1.drop (k-1)).take (mv+1))
   have hwin0:=Xbw ((hwu.drop (k-1)).take (mv+1))
   rw[W0j,W1l,W2f (by omega)] at hwin1 hwin0
   rw[<-hwin] at hv1 hwin0
   have hstep:=Ycy (W2m hY0) hdq hdq1 hv1 hc1 hwin1 hwin0
   refine Cu none (λ(lu2:List Nat)=>[(8,.d (.int .i64 s)),(9,.own 62 1 0 lu0.length),(10,.d (ws (dig Y))),(11,.d (.int .i64 mv)),(12,.own 73 1 0 (lu0.length-mv)),(13,.d (.int .u64 t')),(14,.d (.int .u64 tn)),(15,.d (.int .i64 ((k:Nat)-1:Int))),(17,.d (.int .u64 (U/Y:Nat)))]) (λlu2=>[(62,.arr 1 (lu2.map wd)),(73,.arr 1 (lq.map wd))])
    (λlu2=>lu2.length=lu0.length/\Xaq lu2/\(∀j,(j<k-1\/k-1+(mv+1)<=j)->lu2[j]?=lu[j]?)/\val ((lu2.drop (k-1)).take (mv+1))=U%Y) rfl ?_ λlu2 ⟨hl2,hw2,hout,hwinv⟩=>?_
   . refine By rfl (λh1=>?_) λh1=>?_
     . obtain⟨hdd1,hrest1⟩:=hstep.2 h1
       refine Ar (U/Y:Nat) rfl ?_ (wr (by rw[hdd1];exact(by omega:((U/Y+1:Nat):Int)-1=((U/Y:Nat):Int))) (by simp only[inK];have:=W0z (U/Y);omega))
       refine Ar (k-1+mv:Nat) rfl ?_
       refine Ar (k-1+mv+1:Nat) rfl ?_
       refine Sw (k-1) (k-1+mv+1) rfl (by omega) (by omega) ?_
       refine Cw (args:=[.own 1000001 1 (k-1) (mv+1),.d (ws (dig Y))]) [(1000001,62)] rfl (Xrq (l:=lu1) hw1 (by omega) hmv.symm (by omega)) (λv H' _ hv=>?_) (by exact congrArg (·::_) (by rw[W1k,show k-1+mv+1-(k-1)=mv+1 by omega];rfl))
       obtain⟨e',lu2,he1,rfl,hl2,hw2,hout2,hv2⟩:=hv
       have hwin2:=Xbw ((hw2.drop (k-1)).take (mv+1))
       rw[W0j,W1l,W2f (by omega)] at hwin2
       exact Jn lu2 [] rfl ⟨by omega,hw2,λj hj=>(hout2 j hj).trans (hout1 j hj),hrest1 _ e' hwin2 hv2 he1⟩
     . obtain⟨hdd1,hrest1⟩:=hstep.1 (by omega)
       subst hdd1
       exact Jn lu1 [] rfl ⟨by omega,hw1,hout1,hrest1⟩
   have hqB:U/Y<4294967296:=by omega
   have hqz0:0<=U/Y:=W0z _
   refine Go.Vm.Cv (U/Y:Nat) rfl ?_
   refine Eo (k-1) rfl (by omega) ?_
   refine Sto rfl (by simp only[lw];omega) ms ?_
   refine Ar ((k-1:Nat)-1:Int) rfl ?_
   have hY1:0<Y:=W2m hY0
   have hab:val (lu2.drop (k-1))=U%Y:=by
    have g1:=Xbo (lu2.drop (k-1)) (mv+1) (by rw[W1l];omega)
    have g2:=Xbo (lu.drop (k-1)) (mv+1) (by rw[W1l];omega)
    have g3:(lu2.drop (k-1)).drop (mv+1)=(lu.drop (k-1)).drop (mv+1):=by
     rw[W5x,W5x]
     exact Xey λj hj=>hout j (.inr hj)
    rw[<-hU,<-hwin] at g2
    rw[g1,hwinv,g3]
    omega
   refine Bk (k-1,lu2,lq.set (k-1) (U/Y)) [] rfl ⟨by omega,hl2,hw2,by simp[hlq],Xg9 hwq hqB,λj hj=>(hout j (.inl hj)).trans (hsame j (by omega)),by rw[hab];exact W1q _ hY1,?_⟩ (by show k-1<k;omega)
   obtain⟨w,hw⟩:=xat (l:=lu) (k:=k-1) (by omega)
   have hw2':lu0[k-1]?=some w:=by rw[<-hsame (k-1) (by omega)];exact hw
   have g1:=Xbx hw
   have g2:=Xbx hw2'
   have g3:=Xbx (l:=lq.set (k-1) (U/Y)) (k:=k-1) (W2w (by omega))
   have g4:(lq.set (k-1) (U/Y)).drop (k-1+1)=lq.drop (k-1+1):=Xey λj hj=>W1w (by omega)
   rw[show k-1+1=k by omega] at g1 g2 g3 g4
   rw[hab,g2,g3,g4,<-hQR,W1h,W0w,W1c]
   have g5:=W2o U Y
   rw[W1i] at g5
   rw[<-hU] at g1
   omega
 . have hk0:k=0:=by omega
   subst hk0
   rw[W1d] at hRlt hQR
   rw[W1d,W1d,huv] at hQR
   obtain⟨hQ,hR⟩:=Xwl hY.symm hQR hRlt
   have htk:val (lu.take mv)=val lu:=by
    have g:=Xbo lu mv (by omega)
    rw[hmv] at g
    rcases W2u (val (lu.drop (dig Y).length)) with h5 | h5
    . rw[h5,W3d] at g;rw[hmv];omega
    . have:=W4c (4294967296^(dig Y).length) h5
      omega
   refine Fz 26 12 (lq.map wd) rfl (by simp only[lw];omega) (oa hlq) ?_
   refine Fz 26 9 (lu.map wd) rfl (by simp only[lw];omega) (oa hln) ?_
   refine Dw rfl ?_
   refine Ce rfl (Xa5 hwq (by omega)) ?_
   refine Tk mv (lu.take mv |>.map wd) rfl rfl (by simp only[lw];omega) (W2e ..).symm ?_
   refine Ce rfl (Xa5 (hwu.take mv) (by rw[W0j];omega)) ?_
   refine Ca rfl (Xf1 (Xae _) (by rw[htk];have:=Xar (W2h hRlt);omega) hs32) λv hv=>?_
   obtain⟨l8,hl8,hw8,hn8,rfl⟩:=hv
   rw[Xag,htk,hR,Nat.mul_div_cancel _ (W0r s)] at hl8
   refine Ce rfl (Xa5 hw8 (by rw[hn8,htk];have:=Xar (W2h hRlt);omega)) ?_
   exact RTt rfl (.cons (.eq (by rw[hQ])) (.one (.eq (by rw[hl8])) (λ_ _ e=>by cases e) (λ_ _ e=>by cases e)))
end
end Go.Proofs.YtfjafaehfjjaiaaGreatDoor
namespace Go.Num
def rt: Nat->Nat
 | 0=>0
 | n+1=>if (rt n+1)*(rt n+1)<=n+1 then rt n+1 else rt n
theorem Xdc(n:Nat): rt n*rt n<=n/\n<(rt n+1)*(rt n+1):=by
 induction n with
 | zero=>exact⟨W0a _,by decide⟩
 | succ n ih =>
  obtain⟨h1,h2⟩:=ih
  simp only[rt]
  split
  . rename_i h
    refine⟨h,?_⟩
    have:(rt n+1+1)*(rt n+1+1)=(rt n+1)*(rt n+1)+2*(rt n+1)+1:=by grind
    omega
  . rename_i h
    exact⟨by omega,by omega⟩
theorem Xx6{x y:Nat}(h:x*x<y*y): x<y:=by
 by_cases h1:x<y
 . exact h1
 . have:=W2b (W4d h1) (W4d h1)
   omega
theorem Yg4{n s:Nat}(h1:s*s<=n)(h2:n<(s+1)*(s+1)): rt n=s:=by
 obtain⟨g1,g2⟩:=Xdc n
 have k1:rt n<s+1:=Xx6 (by omega)
 have k2:s<rt n+1:=Xx6 (by omega)
 omega
theorem Yg3{n:Nat}(h:n≠0): 0<rt n:=by
 have:=(Xdc n).2
 by_cases h0:rt n=0
 . rw[h0] at this;omega
 . omega
theorem Ybn{a x:Nat}(hx:0<x): rt a<=(x+a/x)/2:=by
 obtain⟨h1,h2⟩:=Xdc a
 generalize rt a=s at *
 by_cases h:s<=(x+a/x)/2
 . exact h
 . exfalso
   have h3:x+a/x+1<=2*s:=by omega
   have h4:a<(a/x+1)*x:=by
    have:=W2o a x
    have:=W1q a hx
    rw[W1h,W1i (a/x)];omega
   obtain⟨q,hq⟩:∃q,q=a/x+1:=⟨_,rfl⟩
   rw[<-hq] at h4
   have h5:x+q<=2*s:=by omega
   have h6:q*x<=s*s:=by
    by_cases hxs:x<=s
    . obtain⟨e,rfl⟩:∃e,s=x+e:=⟨s-x,by omega⟩
      have:q<=x+2*e:=by omega
      have h7:=W0q x this
      have:(x+e)*(x+e)=(x+2*e)*x+e*e:=by grind
      omega
    . obtain⟨e,he⟩:∃e,x=s+e:=⟨x-s,by omega⟩
      subst he
      have h8:q+e<=s:=by omega
      obtain⟨f,rfl⟩:∃f,s=q+e+f:=⟨s-q-e,by omega⟩
      have:(q+e+f)*(q+e+f)=q*(q+e+f+e)+(e*e+2*(e*f)+f*q+f*f):=by grind
      omega
   omega
theorem Xrz{a x:Nat}(hx:0<x)(h:x<=(x+a/x)/2)(hr:rt a<=x): rt a=x:=by
 have h1:x<=a/x:=by omega
 have h2:x*x<=a:=W0k (W0q x h1) (W6s a x)
 have h3:=(Xdc a).2
 have h4:x<rt a+1:=Xx6 (by omega)
 omega
theorem Xtw{a B n:Nat}(h:a<2^B)(hn:B<=2*n): rt a<2^n:=by
 refine Xx6 ?_
 rw[<-W0x,<-Nat.two_mul]
 exact W1t (Xdc a).1 (W0v h (W0m (by decide) hn))
theorem Xh8(n:Nat): 4294967296^(n/32)*2^(n%32)=2^n:=by
 rw[show (4294967296:Nat)=2^32 from rfl,<-W5w,<-W0x]
 congr 1
 omega
theorem Xlg(n:Nat): dig (2^n)=(List.replicate (n/32+1) 0).set (n/32) (2^(n%32)):=by
 have hb:2^(n%32)<4294967296:=W0v (W3s (by decide) (W1q n (by decide))) (by decide)
 have hv:val ((List.replicate (n/32+1) 0).set (n/32) (2^(n%32)))=2^n:=by
  have:=Xbg (l:=List.replicate (n/32+1) 0) (k:=n/32) (d:=2^(n%32)) (by simp)
  rw[W0b (by simp),W5k,Xbv,W1k,Xh8] at this
  exact this
 have hw:Xaq ((List.replicate (n/32+1) 0).set (n/32) (2^(n%32))):=by
  intro y hy
  rcases W4m hy with h | h
  . have:=W5y h;omega
  . omega
 rw[<-hv]
 refine Xfj hw (Xpf hw (by simp) ?_)
 rw[hv,W3f,W1v,W3r,<-Xh8 n]
 exact W4c _ (W0r _)
theorem Xaw(a b:Int): (a<b/\Xba a b=-1)\/(a=b/\Xba a b=0)\/(b<a/\Xba a b=1):=by
 unfold Xba
 split
 . left;exact⟨by assumption,rfl⟩
 . split
   . right;right;exact⟨by omega,rfl⟩
   . right;left;exact⟨by omega,rfl⟩
theorem Xfv{l:List Nat}{j x:Nat}(h:l[j]?=some x): val l=val (l.take j)+4294967296^j*(x+4294967296*val (l.drop (j+1))):=by
 have hj:j<l.length:=(W0n.1 h).1
 rw[Xbo l j (by omega),Xbx h]
end Go.Num
namespace Go.Proofs.YtfjafaehfjjaiaaGreatDoor
open Go Go.Vm Go.Num
section
theorem Xax(z:Int): (z<0/\z=-(z.natAbs:Int))\/(¬z<0/\z=(z.natAbs:Int)):=by omega
theorem Ya2(z:Int): sg (!decide (z<0)) z.natAbs=-z:=by
 rcases Xax z with ⟨h,e⟩ | ⟨h,e⟩<;>simp[sg,h]<;>omega
theorem Ya3(x y:Int): sg (decide (x<0) != decide (y<0)) (x.natAbs*y.natAbs)=x*y:=by
 rcases Xax x with ⟨h,e⟩ | ⟨h,e⟩<;>rcases Xax y with ⟨h',e'⟩ | ⟨h',e'⟩ <;>
  (simp only[sg,h,h',decide_true,decide_false]
   generalize x.natAbs=a at *
   generalize y.natAbs=b at *
   subst e
   subst e'
   simp[Int.neg_mul,Int.mul_neg])
theorem Ya4{x y:Int}(h:decide (x<0)=decide (y<0)): sg (decide (x<0)) (x.natAbs+y.natAbs)=x+y:=by
 rcases Xax x with ⟨h1,e⟩ | ⟨h1,e⟩<;>rcases Xax y with ⟨h2,e'⟩ | ⟨h2,e'⟩<;>simp[h1,h2] at h<;>simp[sg,h1]<;>omega
theorem Xpw{x y:Int}(h:decide (x<0)≠decide (y<0))(hle:y.natAbs<=x.natAbs): sg (decide (x<0)) (x.natAbs-y.natAbs)=x+y:=by
 rcases Xax x with ⟨h1,e⟩ | ⟨h1,e⟩<;>rcases Xax y with ⟨h2,e'⟩ | ⟨h2,e'⟩<;>simp[h1,h2] at h<;>simp[sg,h1]<;>omega
theorem Xwo{n:Nat}(h:(dig n).length<=2): n<18446744073709551616:=by
 have:=Xdp n
 have h1:4294967296^(dig n).length<=4294967296^2:=W0m (by decide) h
 omega
theorem Xhh(n:Nat): sg false n=(n:Int):=rfl
theorem Xzf{a b:Int}(hb:b≠0)(h:decide (a<0)=decide (b<0)): sg (decide (a<0) != decide (b<0)) (a.natAbs/b.natAbs)=a.fdiv b/\sg (decide (b<0)) (a.natAbs%b.natAbs)=a.fmod b:=by
 rcases Xax a with ⟨h1,e⟩ | ⟨h1,e⟩<;>rcases Xax b with ⟨h2,e'⟩ | ⟨h2,e'⟩<;>simp[h1,h2] at h<;>simp only[sg,h1,h2,decide_true,decide_false]
 all_goals
  generalize a.natAbs=x at *
  generalize b.natAbs=y at *
  subst e
  subst e'
  simp[W1r,W5r]
theorem Yem(x y:Nat)(hy:0<y): (-(x:Int)).fdiv y=-((x/y+if 0<x%y then 1 else 0:Nat):Int)/\(-(x:Int)).fmod y=((if 0<x%y then y-x%y else 0:Nat):Int):=by
 rw[W1r _ (by omega),W5r _ (by omega)]
 have h1:=W2o x y
 have h2:=W1q x hy
 refine(W7m (by omega)).2 ?_
 generalize x/y=q at *
 generalize x%y=r at *
 split
 . refine⟨?_,by omega,by omega⟩
   rw[<-h1,Int.natCast_sub (by omega)]
   push_cast
   grind
 . have:r=0:=by omega
   subst this
   refine⟨?_,by omega,by omega⟩
   rw[<-h1]
   push_cast
   grind
theorem Xqy{a b:Int}(hb:b≠0)(h:decide (a<0)≠decide (b<0)): sg (decide (a<0) != decide (b<0)) (a.natAbs/b.natAbs+if 0<a.natAbs%b.natAbs then 1 else 0)=a.fdiv b/\sg (decide (b<0)) (if 0<a.natAbs%b.natAbs then b.natAbs-a.natAbs%b.natAbs else 0)=a.fmod b:=by
 rcases Xax a with ⟨h1,e⟩ | ⟨h1,e⟩<;>rcases Xax b with ⟨h2,e'⟩ | ⟨h2,e'⟩<;>simp[h1,h2] at h<;>simp only[sg,h1,h2,decide_true,decide_false]
 all_goals
  generalize a.natAbs=x at *
  generalize b.natAbs=y at *
  subst e
  subst e'
  have hf:=Yem x y (by omega)
 . rw[hf.1,hf.2]
   exact⟨rfl,rfl⟩
 . have e1:(x:Int).fdiv (-(y:Int))=(-(x:Int)).fdiv y:=by rw[<-W7i,Int.neg_neg]
   have e2:(x:Int).fmod (-(y:Int))=-((-(x:Int)).fmod y):=by rw[<-Int.neg_fmod_neg,Int.neg_neg]
   rw[e1,e2,hf.1,hf.2]
   exact⟨rfl,rfl⟩
theorem Xm4{a b:Int}(h:Xba a 0≠Xba b 0): Xba (Xba a 0) (Xba b 0)=Xba a b:=by
 rcases Xaw a 0 with ⟨h1,e1⟩ | ⟨h1,e1⟩ | ⟨h1,e1⟩<;>rcases Xaw b 0 with ⟨h2,e2⟩ | ⟨h2,e2⟩ | ⟨h2,e2⟩<;>rw[e1,e2] at h |- <;>
  first | exact absurd rfl h | (rcases Xaw a b with ⟨h3,e3⟩ | ⟨h3,e3⟩ | ⟨h3,e3⟩<;>rw[e3]<;>first | rfl | omega)
theorem Xm5{a b:Int}(h:Xba a 0=Xba b 0): Xba a 0*Xba (a.natAbs:Int) (b.natAbs:Int)=Xba a b:=by
 rcases Xaw a 0 with ⟨h1,e1⟩ | ⟨h1,e1⟩ | ⟨h1,e1⟩<;>rcases Xaw b 0 with ⟨h2,e2⟩ | ⟨h2,e2⟩ | ⟨h2,e2⟩<;>rw[e1,e2] at h <;>
  first | (exact absurd h (by decide)) | (rw[e1];rcases Xaw a b with ⟨h3,e3⟩ | ⟨h3,e3⟩ | ⟨h3,e3⟩<;>rcases Xaw (a.natAbs:Int) (b.natAbs:Int) with ⟨h4,e4⟩ | ⟨h4,e4⟩ | ⟨h4,e4⟩<;>rw[e3,e4]<;>first | rfl | omega)
theorem Xw6{t:Nat}(h:t<4294967296): bl t<=32:=by
 by_cases h0:t=0
 . subst h0;decide
 . have:=(Xcl h0).1
   by_cases h2:bl t<=32
   . exact h2
   . have:2^32<=2^(bl t-1):=W0m (by decide) (by omega)
     omega
theorem Xpg{n m t:Nat}(hm:m=(dig n).length)(hm0:0<m)(ht:(dig n)[m-1]?=some t): n<2^(32*(m-1)+bl t):=by
 have h0:=Xfv ht
 have hd:(dig n).drop (m-1+1)=[]:=W1z (by omega)
 rw[Xag,hd] at h0
 have h1:=Xbw ((Xae n).take (m-1))
 rw[W0j,show min (m-1) (dig n).length=m-1 by omega] at h1
 have e:(4294967296:Nat)^(m-1)=2^(32*(m-1)):=by rw[show (4294967296:Nat)=2^32 from rfl,<-W5w]
 have h2:t<2^bl t:=by
  by_cases ht0:t=0
  . subst ht0;exact W0r _
  . exact(Xcl ht0).2.1
 have h3:=W0t (4294967296^(m-1)) (show t+1<=2^bl t from h2)
 rw[W1c,W4a] at h3
 rw[W0x,<-e]
 simp only[val,W3d,W2n] at h0
 omega
theorem Ydk{n:Nat}: 2^(n%32)<4294967296:=W0v (W3s (by decide) (W1q n (by decide))) (by decide)
theorem Xoe{n:Nat}: (dig (2^n)).length=n/32+1:=by rw[Xlg];simp
theorem f0{g:Hp}{K:Hpl}: Fit g K (.st (.pr (.b false) .nil)) (.d (dz 0)):=.sd (.pd (.bd rfl) (.nil (by rw[Int.natAbs_zero,Xan];rfl)))
theorem f0'{g:Hp}{K:Hpl}{z:Int}(h:z=0): Fit g K (.st (.pr (.b false) .nil)) (.d (dz z)):=h ▸ f0
theorem Ycc{a b:Bool}: dc (¬(a=true↔b=true))=(a != b):=by rw[Xwu];cases a<;>cases b<;>rfl
theorem Ymz{a b:Bool}: (a=true↔b=true)↔a=b:=W5h.symm
theorem Xci{n:Nat}(h:(dig n).length<=1099511627776): C0 167 [.d (ws (dig n))] (·=.d (ws (dig n))):=trim_dig_ok h
theorem Norm_ok{z:Int}(h:(dig z.natAbs).length<=1099511627776): C0 192 [.d (dz z)] (·=.d (dz z)):=by
 refine En Tryz.func192 λ_ _ _=>?_
 refine Dw rfl ?_
 refine Ce rfl (Xci h) ?_
 refine Ce rfl (Xbq h) ?_
 refine Ce rfl (Xao h) ?_
 exact R1 rfl (.eq (by rw[Xpx]))
theorem Neg_ok{z:Int}(h:(dig z.natAbs).length<=1099511627776): C0 187 [.d (dz z)] (·=.d (dz (-z))):=by
 refine En Tryz.func187 λ_ _ _=>?_
 refine Dw rfl ?_
 refine Ce rfl (Xci h) ?_
 refine Ce rfl (Xbq h) ?_
 refine Ce rfl (Xao h) ?_
 exact R1 rfl (.eq (by rw[Ya2]))
theorem Sign_ok{z:Int}(h:(dig z.natAbs).length<=1099511627776): C0 252 [.d (dz z)] (·=.d (.int .i64 (Xba z 0))):=by
 refine En Tryz.func252 λ_ _ _=>?_
 refine Ce rfl (Xci h) ?_
 refine By rfl (λh1=>?_) λh1=>?_<;>simp only[lw] at h1
 . have:z=0:=by have:=Xr7.1 (W0o (by omega:(dig z.natAbs).length=0));omega
   exact R1 rfl (.eq (by rw[this];rfl))
 . have h0:z≠0:=λe=>h1 (by rw[e,Int.natAbs_zero,Xan];rfl)
   refine By rfl (λh2=>?_) λh2=>?_
   . exact R1 rfl (.eq (by rw[Xba,if_pos h2]))
   . exact R1 rfl (.eq (by rw[Xba,if_neg h2,if_pos (by omega)]))
theorem Cmp_ok{a b:Int}(ha:(dig a.natAbs).length<=1099511627776)(hb:(dig b.natAbs).length<=1099511627776): C0 182 [.d (dz a),.d (dz b)] (·=.d (.int .i64 (Xba a b))):=by
 refine En Tryz.func182 λ_ _ _=>?_
 refine Dw rfl ?_
 refine Ce rfl (Sign_ok ha) ?_
 refine Ce rfl (Sign_ok hb) ?_
 refine By rfl (λh1=>?_) λh1=>?_
 . refine Ce rfl Xc9 ?_
   exact R1 rfl (.eq (by rw[Xm4 h1]))
 . have h1:Xba a 0=Xba b 0:=W2g.1 h1
   refine Dw rfl ?_
   refine Ce rfl (Xci ha) ?_
   refine Ce rfl (Xci hb) ?_
   refine Ce rfl (Xb2 ha) ?_
   refine Ar (Xba a b) rfl ?_ (wr (Xm5 h1) (by simp only[inK];rcases Xaw a b with ⟨g1,g2⟩ | ⟨g1,g2⟩ | ⟨g1,g2⟩<;>omega))
   exact R0
theorem Mul_ok{a b:Int}(ha:(dig a.natAbs).length<=549755813888)(hb:(dig b.natAbs).length<=549755813888): C0 111 [.d (dz a),.d (dz b)] (·=.d (dz (a*b))):=by
 refine En Tryz.func111 λ_ _ _=>?_
 refine Dw rfl ?_
 refine Ce rfl (Xci (by omega)) ?_
 refine Ce rfl (Xci (by omega)) ?_
 refine Ce rfl (Xkh ha hb) ?_
 refine Ce rfl (Xao (W0k (Xk3 ..) (by omega))) ?_
 exact R1 rfl (.eq (by rw[Ycc,Ya3]))
theorem Yms{x y:Nat}: ¬Xba (x:Int) (y:Int)<0↔y<=x:=by rw[Xzv];omega
theorem Add_ok{a b:Int}(ha:(dig a.natAbs).length<=549755813888)(hb:(dig b.natAbs).length<=549755813888): C0 114 [.d (dz a),.d (dz b)] (·=.d (dz (a+b))):=by
 refine En Tryz.func114 λ_ _ _=>?_
 refine Dw rfl ?_
 refine Ce rfl (Xci (by omega)) ?_
 refine Ce rfl (Xci (by omega)) ?_
 refine By rfl (λh=>?_) λh=>?_<;>rw[Ymz] at h
 . refine Dw rfl ?_
   refine Ce rfl (Xh9 (by omega) (by omega)) ?_
   refine Ce rfl (Xao (W0k (Xgs ..) (by omega))) ?_
   exact R1 rfl (.eq (by rw[Ya4 h]))
 . refine Ce rfl (Xb2 (by omega)) ?_
   refine By rfl (λh1=>?_) λh1=>?_
   . have hle:=W2h (Xzv.1 h1)
     refine Dw rfl ?_
     refine Ce rfl (Xd0 (by omega) hle) ?_
     refine Ce rfl (Xao (W0k (Xar (Nat.sub_le ..)) (by omega))) ?_
     exact R1 rfl (.eq (by rw[Xpw (λe=>h e.symm) hle,Int.add_comm]))
   . have hle:=Yms.1 h1
     refine Dw rfl ?_
     refine Ce rfl (Xd0 (by omega) hle) ?_
     refine Ce rfl (Xao (W0k (Xar (Nat.sub_le ..)) (by omega))) ?_
     exact R1 rfl (.eq (by rw[Xpw h hle]))
theorem GCD_ok{a b:Int}(ha:(dig a.natAbs).length<=549755813888)(hb:(dig b.natAbs).length<=549755813888): C0 186 [.d (dz a),.d (dz b)] (·=.d (dz (Int.gcd a b))):=by
 have hz:∀ {x:Nat},(dig x).length=0↔x=0:=λ{x}=>⟨λh=>Xr7.1 (W0o h),λh=>by rw[h,Xan];rfl⟩
 refine En Tryz.func186 λ_ _ _=>?_
 refine Dw rfl ?_
 refine Ce rfl (Xci (by omega)) ?_
 refine Ce rfl (Xci (by omega)) ?_
 refine Cu (some 1000000) (λ((x,y):Nat×Nat)=>[(4,.ptr 4 0),(5,.d (ws (dig x))),(6,.d (ws (dig y)))]) (λ_=>[(4,.var (.st (.pr (.b false) .nil)))]) (λ(x,y)=>Nat.gcd x y=Int.gcd a b/\(dig x).length<=549755813888/\(dig y).length<=2/\((dig x).length<=2\/y=0)) rfl ?_ λ⟨x,y⟩ ⟨hg,hx,hy,hxy⟩=>?_
 . refine Lo (λ((x,y):Nat×Nat)=>[(4,.ptr 4 0),(5,.d (ws (dig x))),(6,.d (ws (dig y)))]) (λ_=>[(4,.var (.st (.pr (.b false) .nil)))]) (λ(x,y)=>Nat.gcd x y=Int.gcd a b/\(dig x).length<=549755813888/\(dig y).length<=549755813888) (λ(_,y)=>y) (a.natAbs,b.natAbs) [] rfl ⟨rfl,ha,hb⟩ λ⟨x,y⟩ ⟨hg,hx,hy⟩=>?_
   have step:y≠0->Nat.gcd y (x%y)=Int.gcd a b/\(dig y).length<=549755813888/\(dig (x%y)).length<=549755813888/\x%y<y:=λh0=>by
    have hlt:=W1q x (W2m h0)
    exact⟨by rw[<-hg,W7b y,<-Nat.gcd_rec,W7b],hy,W0k (Xar (W2h hlt)) hy,hlt⟩
   refine By rfl (λh1=>?_) λh1=>?_<;>simp only[lw] at h1
   . have h0:y≠0:=λe=>by have:=hz.2 e;omega
     refine Ce rfl (Xc3 hx hy h0) ?_
     have h2:=step h0
     exact Bk (y,x%y) [] rfl ⟨h2.1,h2.2.1,h2.2.2.1⟩ h2.2.2.2
   refine By rfl (λh2=>?_) λh2=>?_<;>simp only[lw] at h2
   . refine By rfl (λh3=>?_) λh3=>?_<;>simp only[lw] at h3
     . have h0:y≠0:=λe=>by have:=hz.2 e;omega
       refine Ce rfl (Xc3 hx hy h0) ?_
       have h2:=step h0
       exact Bk (y,x%y) [] rfl ⟨h2.1,h2.2.1,h2.2.2.1⟩ h2.2.2.2
     . exact Jn (x,y) [] rfl ⟨hg,hx,by omega,.inr (hz.1 (by omega))⟩
   . exact Jn (x,y) [] rfl ⟨hg,hx,by omega,.inl (by omega)⟩
 refine By rfl (λh=>?_) λh=>?_<;>simp only[lw] at h
 . have h0:y=0:=hz.1 (by omega)
   subst h0
   rw[Nat.gcd_zero_right] at hg
   refine Ce rfl (Xbq (by omega)) ?_
   refine Ce rfl (Xao (b:=false) (by omega)) ?_
   exact R1 rfl (.eq (by rw[Xhh,hg]))
 . have hlt1:x<18446744073709551616:=Xwo (by rcases hxy with h | h;exact h;exact absurd (hz.2 h) (by omega))
   have hlt2:y<18446744073709551616:=Xwo (by omega)
   refine Ce rfl (Xfx hlt1) ?_
   refine Ce rfl (Xfx hlt2) ?_
   refine Lo (λ((x,y):Nat×Nat)=>[(4,.ptr 4 0),(9,.d (.int .u64 x)),(10,.d (.int .u64 y))]) (λ_=>[(4,.var (.st (.pr (.b false) .nil)))]) (λ(x,y)=>x<18446744073709551616/\y<18446744073709551616/\Nat.gcd x y=Int.gcd a b) (λ(_,y)=>y) (x,y) [] rfl ⟨hlt1,hlt2,hg⟩ λ⟨x,y⟩ ⟨hx,hy,hg⟩=>?_
   refine By rfl (λh=>?_) λh=>?_
   . have hy0:y≠0:=by omega
     have hltm:=W1q x (W2m hy0)
     refine Dw rfl ?_
     refine Ar (x%y:Nat) rfl ?_ (show _/\_ from⟨by omega,Xrk x y⟩)
     exact Bk (y,x%y) [] rfl ⟨hy,by omega,by rw[<-hg,W7b y,<-Nat.gcd_rec,W7b]⟩ hltm
   . have h0:y=0:=by omega
     subst h0
     rw[Nat.gcd_zero_right] at hg
     refine Ce rfl (Xce hx) ?_
     refine Ce rfl (Xao (b:=false) (W0k (Xas (k:=2) (by omega)) (by omega))) ?_
     exact R1 rfl (.eq (by rw[Xhh,hg]))
theorem Yfy: dig 1=[1]:=by rw[Xfk (by decide),show 1/4294967296=0 from rfl,Xan]
theorem Xyr{x:Nat}(hx:(dig x).length<=1099511627775): C0 189 [.d (ws (dig x)),.d (.sl 1 [.int .u32 1])] (·=.d (ws (dig (x+1)))):=by
 have:=Xh9 (y:=1) hx (by rw[Yfy];decide)
 rw[Yfy] at this
 exact this
theorem DivMod_ok{a b:Int}(ha:(dig a.natAbs).length<=549755813888)(hb:(dig b.natAbs).length<=549755813888)(hb0:b≠0): C0 257 [.d (dz a),.d (dz b)] (·=.tup (.pr (.d (dz (a.fdiv b))) (.pr (.d (dz (a.fmod b))) (.d (.int .i64 0))))):=by
 have hz:∀ {x:Nat},(dig x).length=0↔x=0:=λ{x}=>⟨λh=>Xr7.1 (W0o h),λh=>by rw[h,Xan];rfl⟩
 have hq:(dig (a.natAbs/b.natAbs)).length<=549755813888:=W0k (Xar (W3m ..)) ha
 have hr:(dig (a.natAbs%b.natAbs)).length<=549755813888:=W0k (Xar (Nat.mod_le ..)) ha
 have hq1:(dig (a.natAbs/b.natAbs+1)).length<=549755813889:=W0k (Xgs ..) (by rw[Yfy];simp;omega)
 refine En Tryz.func257 λ_ _ _=>?_
 refine Ce rfl (Xci (by omega)) ?_
 refine By rfl (λh=>?_) λh=>?_<;>simp only[lw] at h
 . exact absurd ((@hz b.natAbs).1 (by omega)) (by omega)
 refine Ce rfl (Xci (by omega)) ?_
 refine Ce rfl (Xc3 ha hb (by omega)) ?_
 refine By rfl (λh1=>?_) λh1=>?_<;>rw[Ymz] at h1
 . refine By rfl (λh2=>?_) λh2=>?_<;>simp only[lw] at h2
   . have hp:0<a.natAbs%b.natAbs:=W2m λe=>by have:=hz.2 e;omega
     have hf:=Xqy hb0 h1
     rw[if_pos hp,if_pos hp] at hf
     refine Ce rfl (Xyr (x:=a.natAbs/b.natAbs) (by omega)) ?_
     refine Ce rfl (Xd0 (by omega) (W2h (W1q _ (by omega)))) ?_
     refine Dw rfl ?_
     refine Ce rfl (Xao (by omega)) ?_
     refine Ce rfl (Xao (W0k (Xar (Nat.sub_le ..)) (by omega))) ?_
     exact RTt rfl (.cons (.eq (by rw[Ycc,hf.1])) (.cons (.eq (by rw[hf.2])) (.one (.rf rfl) (λ_ _ e=>by cases e) (λ_ _ e=>by cases e))))
   . have hp:¬0<a.natAbs%b.natAbs:=λhp=>by have:=mt hz.1 (W7q.1 hp);omega
     have hf:=Xqy hb0 h1
     rw[if_neg hp,if_neg hp,W2n] at hf
     refine Dw rfl ?_
     refine Ce rfl (Xao (by omega)) ?_
     refine Ce rfl (Xao (by omega)) ?_
     exact RTt rfl (.cons (.eq (by rw[Ycc,hf.1])) (.cons (.eq (by rw[show a.natAbs%b.natAbs=0 by omega,hf.2])) (.one (.rf rfl) (λ_ _ e=>by cases e) (λ_ _ e=>by cases e))))
 . have hf:=Xzf hb0 (W2g.1 h1)
   refine Dw rfl ?_
   refine Ce rfl (Xao (by omega)) ?_
   refine Ce rfl (Xao (by omega)) ?_
   exact RTt rfl (.cons (.eq (by rw[Ycc,hf.1])) (.cons (.eq (by rw[hf.2])) (.one (.rf rfl) (λ_ _ e=>by cases e) (λ_ _ e=>by cases e))))
theorem Xon{x:Nat}(hx:(dig x).length<=549755813888): C0 370 [.d (ws (dig x))] (·=.d (ws (dig (x/2)))):=by
 refine En Tryz.func370 λ_ _ _=>?_
 refine Ca rfl (Xf1 (n:=1) (Xae x) hx (by decide)) λv hv=>?_
 obtain⟨l,h1,h2,h3,rfl⟩:=hv
 rw[Xag] at h1
 refine Ce rfl (Xa5 h2 (by omega)) ?_
 exact R1 rfl (.eq (by rw[h1]))
theorem Xf0{j:Nat}(h:j<32): arB .shl .u32 1 j (2^j:Nat):=⟨by omega,by
 rw[W7f,show min j (IntKind.bits .u32)=j from W2f (W2h h),W5n,show (2:Int)^j=((2^j:Nat):Int) by rw[W7l];rfl]
 have:2^j<2^32:=W3s (by decide) h
 exact wW ⟨W5b _,W7a.2 this⟩⟩
theorem Xes{n:Nat}(hn:n<=8796093022210): C0 369 [.d (.int .i64 n)] (·=.d (ws (dig (2^n)))):=by
 refine En Tryz.func369 λ_ _ _=>?_
 refine Ar (n/32:Nat) rfl ?_ (show _/\_ from⟨by decide,by rw[show Int.tdiv (n:Int) 32=((n/32:Nat):Int) from rfl];exact wI (by omega)⟩)
 refine Ar (n/32+1:Nat) rfl ?_
 refine Mk (n/32+1) rfl (by omega) ?_
 refine Ar (n/32:Nat) rfl ?_ (show _/\_ from⟨by decide,by rw[show Int.tdiv (n:Int) 32=((n/32:Nat):Int) from rfl];exact wI (by omega)⟩)
 refine Ar (n%32:Nat) rfl ?_ (show _/\_ from⟨by decide,rfl⟩)
 refine Ar (2^(n%32):Nat) rfl ?_ (Xf0 (W1q _ (by decide)))
 refine Eo (n/32) rfl (by omega) ?_
 refine Sto rfl (by simp) rfl ?_
 refine R1 rfl (.own rfl (by simp) ?_)
 rw[Xlg,W1d,W0b (by simp),<-ms,W2i]
 rfl
end
section
theorem Xo9{z:Int}(hl:(dig z.natAbs).length<=549755813888)(h0:z≠0): C0 368 [.d (dz z)] λv=>∃B:Nat,v=.d (.int .i64 B)/\z.natAbs<2^B/\B<=32*(dig z.natAbs).length:=by
 refine En Tryz.func368 λ_ _ _=>?_
 refine Ce rfl (Xci (by omega)) ?_
 refine By rfl (λh=>?_) λh=>?_<;>simp only[lw] at h
 . exact absurd (Xr7.1 (W0o (by omega:(dig z.natAbs).length=0))) (by omega)
 obtain⟨t,ht⟩:=xat (l:=dig z.natAbs) (k:=(dig z.natAbs).length-1) (by omega)
 have htb:=ww ht (Xae _)
 have hb:=Xw6 htb
 refine Ar ((dig z.natAbs).length-1:Nat) rfl ?_ (wr (by simp only[lw];omega) (by simp only[inK];omega))
 refine Ar (32*((dig z.natAbs).length-1):Nat) rfl ?_
 refine Ar ((dig z.natAbs).length-1:Nat) rfl ?_ (wr (by simp only[lw];omega) (by simp only[inK];omega))
 refine Ix ((dig z.natAbs).length-1) rfl (mp ht) ?_
 refine Ce rfl (Xrg htb) ?_
 refine Ar (32*((dig z.natAbs).length-1)+bl t:Nat) rfl ?_
 exact Rt rfl (.one (.rf rfl) rfl rfl) ⟨_,rfl,Xpg rfl (by omega) ht,by omega⟩
theorem Sqrt_ok{a:Nat}(hl:(dig a).length<=274877906944): C0 359 [.d (dz (a:Int))] (·=.tup (.pr (.d (dz (rt a:Int))) (.d (.int .i64 0)))):=by
 have hln:(dig (a:Int).natAbs).length<=274877906944:=by rw[W1f];exact hl
 refine En Tryz.func359 λ_ _ _=>?_
 refine Ce rfl (Sign_ok (z:=a) (by omega)) ?_
 refine By rfl (λh=>?_) λh=>?_
 . rcases Xaw (a:Int) 0 with ⟨g1,g2⟩ | ⟨g1,g2⟩ | ⟨g1,g2⟩<;>omega
 refine By rfl (λh1=>?_) λh1=>?_
 . have ha0:a=0:=by rcases Xaw (a:Int) 0 with ⟨g1,g2⟩ | ⟨g1,g2⟩ | ⟨g1,g2⟩<;>omega
   exact RTt rfl (.cons (f0' (by rw[ha0];rfl)) (.one (.rf rfl) (λ_ _ e=>by cases e) (λ_ _ e=>by cases e)))
 have ha0:a≠0:=by rcases Xaw (a:Int) 0 with ⟨g1,g2⟩ | ⟨g1,g2⟩ | ⟨g1,g2⟩<;>omega
 refine Ca rfl (Xo9 (z:=a) (by omega) (by omega)) λv hv=>?_
 obtain⟨B,rfl,hB1,hB2⟩:=hv
 rw[W1f] at hB1 hB2
 refine Ar (B/2:Nat) rfl ?_ (show _/\_ from⟨by decide,by rw[show Int.tdiv (B:Int) 2=((B/2:Nat):Int) from rfl];exact wI (by omega)⟩)
 refine Ar (B/2+1:Nat) rfl ?_
 refine Ce rfl (Xes (n:=B/2+1) (by omega)) ?_
 refine Lo (λ(x:Nat)=>[(1,.ptr 1 0),(2,.ptr 2 0),(3,.d (.int .i64 0)),(5,.d (ws (dig x)))]) (λ_=>[(1,.var (.d (dz a))),(2,.var (.st (.pr (.b false) .nil)))]) (λx=>0<x/\rt a<=x/\x<=2^(B/2+1)) (λx=>x) (2^(B/2+1)) [] rfl
  ⟨W0r _,W2h (Xtw hB1 (by omega)),W0a _⟩ λx ⟨hx0,hxr,hxp⟩=>?_
 have hxl:(dig x).length<=549755813000:=W0k (Xar hxp) (by rw[Xoe];omega)
 have hql:(dig (a/x)).length<=274877906944:=W0k (Xar (W3m a x)) hl
 refine Ce (r:=.d (ws (dig a))) rfl (Xci (n:=a) (by omega)) ?_
 refine Ce rfl (Xc3 (by omega) (by omega) (by omega)) ?_
 refine Ce rfl (Xh9 (by omega) (by omega)) ?_
 refine Ce rfl (Xon (W0k (Xgs ..) (by omega))) ?_
 refine Ce rfl (Xb2 (W0k (Xar (W3m ..)) (W0k (Xgs ..) (by omega)))) ?_
 refine By rfl (λh2=>?_) λh2=>?_
 . have hge:x<=(x+a/x)/2:=by rcases Xaw (((x+a/x)/2:Nat):Int) (x:Int) with ⟨g1,g2⟩ | ⟨g1,g2⟩ | ⟨g1,g2⟩<;>omega
   refine Ce rfl (Xao (b:=false) (by omega)) ?_
   exact RTt rfl (.cons (.eq (by rw[Xrz hx0 hge hxr];rfl)) (.one (.rf rfl) (λ_ _ e=>by cases e) (λ_ _ e=>by cases e)))
 . have hlt:(x+a/x)/2<x:=by rcases Xaw (((x+a/x)/2:Nat):Int) (x:Int) with ⟨g1,g2⟩ | ⟨g1,g2⟩ | ⟨g1,g2⟩<;>omega
   exact Bk ((x+a/x)/2) [] rfl ⟨W0v (Yg3 ha0) (Ybn hx0),Ybn hx0,by omega⟩ hlt
end
end Go.Proofs.YtfjafaehfjjaiaaGreatDoor
namespace Go.Num
theorem szl{n p:Nat}(h:n<2^p)(hp:p<=8796093022208): (dig n).length<=274877906945:=by
 have h1:n<4294967296^(p/32+1):=by
  rw[show 4294967296=2^32 from rfl,<-W5w]
  exact W0v h (W0m (by decide) (by omega))
 have:=Xas h1
 omega
def Zs(p:Nat)(z:Int): Prop:=z.natAbs<2^p
theorem Zs.len{p:Nat}{z:Int}(h:Zs p z)(hp:p<=8796093022208): (dig z.natAbs).length<=274877906945:=szl h hp
theorem Zs.mono{p q:Nat}{z:Int}(h:Zs p z)(hp:p<=q): Zs q z:=W0v h (W0m (by decide) hp)
theorem Zs.mul{p q:Nat}{x y:Int}(h:Zs p x)(k:Zs q y): Zs (p+q) (x*y):=by
 unfold Zs at *
 rw[W3p,W0x]
 exact W3i h k
theorem Zs.add{p q:Nat}{x y:Int}(h:Zs p x)(k:Zs q y): Zs (max p q+1) (x+y):=by
 have h1:=h.mono (Nat.le_max_left p q)
 have h2:=k.mono (Nat.le_max_right p q)
 unfold Zs at *
 have:=Int.natAbs_add_le x y
 rw[W0y]
 omega
theorem Zs.neg{p:Nat}{x:Int}(h:Zs p x): Zs p (-x):=by
 unfold Zs at *
 rwa[W5d]
theorem Zs.gcd{p:Nat}{x y:Int}(h:Zs p y)(h0:y≠0): Zs p (Int.gcd x y:Int):=by
 unfold Zs at *
 have:Int.gcd x y<=y.natAbs:=Nat.le_of_dvd (by omega) (Int.gcd_dvd_natAbs_right x y)
 omega
theorem Zs.one{p:Nat}(hp:1<=p): Zs p 1:=W0v (by decide) (W0m (by decide) hp:2^1<=2^p)
theorem Zs.zero{p:Nat}: Zs p 0:=W0r p
structure Qs (p:Nat) (x:Rat):Prop where
 n:Zs p x.num
 d:Zs p (x.den:Int)
theorem Qs.mono{p q:Nat}{x:Rat}(h:Qs p x)(hp:p<=q): Qs q x:=⟨h.n.mono hp,h.d.mono hp⟩
theorem Qs.neg{p:Nat}{x:Rat}(h:Qs p x): Qs p (-x):=⟨by rw[Rat.neg_num];exact h.n.neg,by rw[Rat.neg_den];exact h.d⟩
theorem Xzg(a:Int): a.fdiv 1=a:=by rw[W1r _ (by decide),Int.ediv_one]
theorem Xjs{a b:Int}(hb:b≠0): a.fdiv (if b<0 then -(Int.gcd a b:Int) else (Int.gcd a b:Int))=(Rat.divInt a b).num:=by
 rw[Rat.num_divInt,Int.gcd_comm b a]
 split
 . rename_i h
   rw[show a.fdiv (-(Int.gcd a b:Int))=(-a).fdiv (Int.gcd a b:Int) by rw[<-W7i,Int.neg_neg],Int.sign_eq_neg_one_of_neg h,W1r _ (by omega)]
   congr 1
   omega
 . rw[W6f (by omega),W5n,W1r _ (by omega)]
theorem Xjt{a b:Int}(hb:b≠0): b.fdiv (if b<0 then -(Int.gcd a b:Int) else (Int.gcd a b:Int))=((Rat.divInt a b).den:Int):=by
 rw[Rat.den_divInt,if_neg hb,Int.gcd_comm b a,Int.natCast_ediv]
 split
 . rw[show b.fdiv (-(Int.gcd a b:Int))=(-b).fdiv (Int.gcd a b:Int) by rw[<-W7i,Int.neg_neg],W1r _ (by omega)]
   congr 1
   omega
 . rw[W1r _ (by omega)]
   congr 1
   omega
theorem Xv1{a b:Int}(hb:b≠0): Int.gcd a b≠0:=λh=>hb (Int.gcd_eq_zero_iff.1 h).2
theorem Qs.addNum{p q:Nat}{x y:Rat}(h:Qs p x)(k:Qs q y): Zs (p+q+1) (x.num*y.den+y.num*x.den):=by
 have h1:=(h.n.mul k.d).add (k.n.mul h.d)
 exact h1.mono (by omega)
theorem Xj1(a:Int)(b:Nat): Rat.divInt a (b:Int)=mkRat a b:=Rat.divInt_ofNat a b
theorem Xj7(x y:Rat): x+y=Rat.divInt (x.num*y.den+y.num*x.den) ((x.den:Int)*y.den):=by
 rw[Rat.add_def',<-W2p,Xj1]
theorem Xjq(x y:Rat): x*y=Rat.divInt (x.num*y.num) ((x.den:Int)*y.den):=by
 rw[Rat.mul_def',<-W2p,Xj1]
theorem Xj0(x y:Rat)(h:y≠0): x/y=Rat.divInt (x.num*y.den) ((x.den:Int)*y.num):=by
 rw[Rat.div_def,Rat.inv_def]
 conv=>lhs;rw[<-Rat.num_divInt_den x]
 rw[Rat.divInt_mul_divInt]
theorem Ykw{x:Rat}(h:(x.den:Int)=1): x=(x.num:Rat):=Rat.ext rfl (by show x.den=1;omega)
theorem Xq6{x y:Rat}(h:(x.den:Int)=1)(k:(y.den:Int)=1): x+y=((x.num+y.num:Int):Rat):=by
 conv=>lhs;rw[Ykw h,Ykw k]
 norm_cast
theorem Xq5{x y:Rat}(h:(x.den:Int)=1)(k:(y.den:Int)=1): x*y=((x.num*y.num:Int):Rat):=by
 conv=>lhs;rw[Ykw h,Ykw k]
 norm_cast
theorem Xb1(x:Rat): (x.den:Int)≠0:=by have:=x.den_nz;omega
theorem Zs.divInt_num{p:Nat}{a b:Int}(ha:Zs p a): Zs p (Rat.divInt a b).num:=by
 unfold Zs at *
 rw[Rat.num_divInt]
 have h1:(b.sign*a).natAbs<=a.natAbs:=by
  rw[W3p]
  have:b.sign.natAbs<=1:=by rw[Int.natAbs_sign];split<;>omega
  have:=W0q a.natAbs this
  omega
 have h2:((b.sign*a)/(Int.gcd b a:Int)).natAbs<=(b.sign*a).natAbs:=by
  by_cases hg:Int.gcd b a=0
  . rw[hg];simp
  . have hd:(Int.gcd b a:Int) ∣ b.sign*a:=Int.dvd_mul_of_dvd_right (Int.gcd_dvd_right b a)
    obtain⟨c,hc⟩:=hd
    rw[hc,Int.mul_ediv_cancel_left _ (by omega),W3p]
    exact Nat.le_mul_of_pos_left _ (W2m (by rw[W1f];exact hg))
 omega
theorem Zs.divInt_den{p:Nat}{a b:Int}(hb:Zs p b)(h0:b≠0): Zs p ((Rat.divInt a b).den:Int):=by
 unfold Zs at *
 rw[Rat.den_divInt,if_neg h0]
 have:=W3m b.natAbs (Int.gcd b a)
 rw[W1f]
 omega
theorem Qs.divInt{p:Nat}{a b:Int}(ha:Zs p a)(hb:Zs p b)(h0:b≠0): Qs p (Rat.divInt a b):=⟨ha.divInt_num,hb.divInt_den h0⟩
theorem Qs.add{p q:Nat}{x y:Rat}(h:Qs p x)(k:Qs q y): Qs (p+q+1) (x+y):=by
 rw[Xj7]
 exact Qs.divInt (h.addNum k) ((h.d.mul k.d).mono (by omega)) (W6y (Xb1 x) (Xb1 y))
theorem Qs.mul{p q:Nat}{x y:Rat}(h:Qs p x)(k:Qs q y): Qs (p+q) (x*y):=by
 rw[Xjq]
 exact Qs.divInt (h.n.mul k.n) (h.d.mul k.d) (W6y (Xb1 x) (Xb1 y))
theorem Qs.int{p:Nat}{z:Int}(h:Zs p z)(hp:1<=p): Qs p (z:Rat):=⟨h,Zs.one hp⟩
theorem Xzu{z:Int}: Xba z 0>0↔z>0:=by
 unfold Xba
 split
 . constructor<;>intro<;>omega
 . split
   . constructor<;>intro<;>omega
   . constructor<;>intro<;>omega
def Xm3(x y:Rat): Int:=if x<y then -1 else if y<x then 1 else 0
theorem Xra(x y:Rat): Xba (x.num*y.den) (y.num*x.den)=Xm3 x y:=by
 unfold Xba Xm3
 simp only[Rat.lt_iff,gt_iff_lt]
theorem Xm2{x y:Rat}(h:Xba x.num 0<Xba y.num 0): Xm3 x y=-1:=by
 unfold Xm3
 rw[if_pos]
 rw[Rat.lt_iff]
 have hx:=x.den_pos
 have hy:=y.den_pos
 rcases Xaw x.num 0 with ⟨h1,e1⟩ | ⟨h1,e1⟩ | ⟨h1,e1⟩<;>rcases Xaw y.num 0 with ⟨h2,e2⟩ | ⟨h2,e2⟩ | ⟨h2,e2⟩<;>rw[e1,e2] at h<;>first | omega | skip
 . rw[h2,W5i];exact Int.mul_neg_of_neg_of_pos h1 (by omega)
 . have:=Int.mul_neg_of_neg_of_pos h1 (show (0:Int)<y.den by omega)
   have:=Int.mul_pos h2 (show (0:Int)<x.den by omega)
   omega
 . rw[h1,W5i];exact Int.mul_pos h2 (by omega)
theorem Xm1(x y:Rat): Xm3 x y=- Xm3 y x:=by
 unfold Xm3
 by_cases h1:x<y
 . have:¬y<x:=by grind
   rw[if_pos h1,if_neg this,if_pos h1]
 . rw[if_neg h1]
   by_cases h2:y<x
   . rw[if_pos h2,if_pos h2];rfl
   . rw[if_neg h2,if_neg h2,if_neg h1];rfl
end Go.Num
namespace Go.Proofs.YtfjafaehfjjaiaaGreatDoor
open Go Go.Vm Go.Num
def dq(x:Rat): D:=.st (.pr (dz x.num) (dz x.den))
theorem Yn7{n:Nat}: (dig n).length=0↔n=0:=⟨λh=>Xr7.1 (W0o h),λh=>by rw[h,Xan];rfl⟩
theorem fst{g:Hp}{K:Hpl}{a:AV}{x:D}(h:Fit g K a (.d x)): Fit g K (.st a) (.d (.st x)):=.sd h
theorem Xe3: C0 112 [] (·=.d (dz 1)):=by
 refine En Tryz.func112 λ_ _ _=>?_
 refine Ce rfl (FromInt_ok (z:=1) (by decide)) ?_
 exact R0
theorem Xug{z:Int}: (dig z.natAbs=[1]/\¬z<0)↔z=1:=by
 constructor
 . rintro⟨h1,h2⟩
   have:=Xag z.natAbs
   rw[h1] at this
   simp[val] at this
   omega
 . rintro rfl
   exact⟨Yfy,by decide⟩
theorem Yn6{l:List Nat}{u:Nat}(h:l.length=1)(hu:l[0]?=some u): l=[u]:=by
 match l,h,hu with
 | [a],_,hu=>simp at hu;rw[hu]
theorem Xev{z:Int}: C0 110 [.d (dz z)] (·=.b (dc (z=1))):=by
 refine En Tryz.func110 λ_ _ _=>?_
 refine By rfl (λh=>?_) λh=>?_
 . refine By rfl (λh1=>?_) λh1=>?_<;>simp only[lw] at h1
   . obtain⟨u,hu⟩:=xat (l:=dig z.natAbs) (k:=0) (by omega)
     have hl:=Yn6 (by omega) hu
     refine Ix 0 rfl (mp hu) ?_
     refine R1 rfl (.bp ?_)
     refine Xah.trans (Iff.trans ?_ Xug)
     rw[hl]
     constructor
     . intro e;exact⟨by rw[show u=1 by omega],h⟩
     . rintro⟨e,_⟩;injection e with e;omega
   . exact R1 rfl (.bp ⟨nofun,λe=>absurd (by rw[e];show ((dig 1).length:Int)=1;rw[Yfy];rfl) h1⟩)
 . exact R1 rfl (.bp ⟨nofun,λe=>absurd (by rw[e];decide) h⟩)
theorem Xii{z:Int}: C0 193 [.d (dz z)] (·=.b (dc (z=0))):=by
 refine En Tryz.func193 λ_ _ _=>?_
 refine R1 rfl (.bp ?_)
 simp only[Xah,lw]
 rw[show ((dig z.natAbs).length:Int)=0↔(dig z.natAbs).length=0 by omega,Yn7];omega
theorem Xcj{a b:Int}(ha:(dig a.natAbs).length<=549755813888)(hb:(dig b.natAbs).length<=549755813888)(hb0:b≠0): C0 188 [.d (dz a),.d (dz b)] (·=.d (dz (a.fdiv b))):=by
 refine En Tryz.func188 λ_ _ _=>?_
 refine Ce rfl Xev ?_
 refine By rfl (λh=>?_) λh=>?_
 . exact R1 rfl (.eq (show dz a=dz (a.fdiv b) by rw[h,Xzg]))
 . refine Ce rfl (DivMod_ok ha hb hb0) ?_
   exact R0
theorem Xf5{a b:Int}{p:Nat}(ha:Zs p a)(hb:Zs p b)(hp:p<=8796093022208)(hb0:b≠0): C0 113 [.d (dz a),.d (dz b)] (·=.d (dq (Rat.divInt a b))):=by
 have hg:Zs p (Int.gcd a b:Int):=hb.gcd hb0
 have hla:=ha.len hp
 have hlb:=hb.len hp
 have hlg:=hg.len hp
 refine En Tryz.func113 λ_ _ _=>?_
 refine Ce rfl (GCD_ok (by omega) (by omega)) ?_
 have h0:=Xv1 (a:=a) hb0
 have key:∀g:Int,g=(if b<0 then -(Int.gcd a b:Int) else (Int.gcd a b:Int))->D.st (.pr (dz (a.fdiv g)) (dz (b.fdiv g)))=dq (Rat.divInt a b):=λg hg=>by rw[hg,Xjs hb0,Xjt hb0];rfl
 refine By rfl (λh=>?_) λh=>?_
 . refine Ce rfl (Neg_ok (by omega)) ?_
   refine Dw rfl ?_
   refine Ce rfl (Xcj (by omega) (by rw[W5d];omega) (by omega)) ?_
   refine Ce rfl (Xcj (by omega) (by rw[W5d];omega) (by omega)) ?_
   exact R1 rfl (.eq (key _ (by rw[if_pos h])))
 . refine Dw rfl ?_
   refine Ce rfl (Xcj (by omega) (by omega) (by omega)) ?_
   refine Ce rfl (Xcj (by omega) (by omega) (by omega)) ?_
   exact R1 rfl (.eq (key _ (by rw[if_neg h])))
theorem Make_ok{a b:Int}{p:Nat}(ha:Zs p a)(hb:Zs p b)(hp:p<=8796093022208)(hb0:b≠0): C0 115 [.d (dz a),.d (dz b)] (·=.tup (.pr (.d (dq (Rat.divInt a b))) (.d (.int .i64 0)))):=by
 have hla:=ha.len hp
 have hlb:=hb.len hp
 refine En Tryz.func115 λ_ _ _=>?_
 refine Dw rfl ?_
 refine Ce rfl (Norm_ok (by omega)) ?_
 refine Ce rfl (Norm_ok (by omega)) ?_
 refine Ce rfl Xii ?_
 refine No rfl hb0 ?_
 refine Ce rfl (Xf5 ha hb hp hb0) ?_
 exact R0t
theorem Xat{z:Int}(h:-9223372036854775808<=z/\z<9223372036854775808): C0 99 [.d (.int .i64 z)] (·=.d (dq z)):=by
 refine En Tryz.func99 λ_ _ _=>?_
 refine Ce rfl (FromInt_ok h) ?_
 refine Ce rfl Xe3 ?_
 exact R0
theorem Xcf{a b:Int}(ha:-9223372036854775808<=a/\a<9223372036854775808)(hb:0<b/\b<9223372036854775808): C0 62 [.d (.int .i64 a),.d (.int .i64 b)] (·=.d (dq (Rat.divInt a b))):=by
 refine En Tryz.func62 λ_ _ _=>?_
 refine Ce rfl (FromInt_ok ha) ?_
 refine Ce rfl (FromInt_ok (by omega)) ?_
 refine Ce rfl (Make_ok (p:=64) (by unfold Zs;omega) (by unfold Zs;omega) (by decide) (by omega)) ?_
 refine No rfl (by decide) ?_
 exact R0
theorem Xf2{x:Rat}{p:Nat}(hx:Qs p x)(hp:p<=8796093022208): C0 181 [.d (dq x)] (·=.d (.int .i64 (Xba x.num 0))):=by
 have:=hx.n.len hp
 refine En Tryz.func181 λ_ _ _=>?_
 refine Ce rfl (Sign_ok (by omega)) ?_
 exact R0
theorem Xff{x:Rat}{p:Nat}(hx:Qs p x)(hp:p<=8796093022208): C0 254 [.d (dq x)] (·=.d (dq (-x))):=by
 have:=hx.n.len hp
 refine En Tryz.func254 λ_ _ _=>?_
 refine Dw rfl ?_
 refine Ce rfl (Neg_ok (by omega)) ?_
 exact R1 rfl (.eq (show D.st (.pr (dz (-x.num)) (dz x.den))=dq (-x) by unfold dq;rw[Rat.neg_num,Rat.neg_den]))
abbrev q0: AV:=.st (.pr (.st (.pr (.b false) .nil)) (.st (.pr (.b false) .nil)))
theorem Xef{x y:Rat}{p q:Nat}(hx:Qs p x)(hy:Qs q y)(hp:p+q<=8796093022208): C0 60 [.d (dq x),.d (dq y)] (·=.d (dq (x*y))):=by
 have h1:=hx.n.len (by omega)
 have h2:=hx.d.len (by omega)
 have h3:=hy.n.len (by omega)
 have h4:=hy.d.len (by omega)
 refine En Tryz.func60 λ_ _ _=>?_
 refine Cu (some 1) (λ(b:Bool)=>[(2,.ptr 2 0),(3,.ptr 3 0),(4,.ptr 4 0),(12,.b b)]) (λ_=>[(2,.var (.d (dq x))),(3,.var (.d (dq y))),(4,.var q0)]) (λb=>b=true->(x.den:Int)=1/\(y.den:Int)=1) rfl ?_ λb hb=>?_
 . refine Ce rfl Xev ?_
   refine By rfl (λh=>?_) λh=>?_
   . refine Ce rfl Xev ?_
     exact Jn (dc _) [] rfl λe=>⟨h,Xah.1 e⟩
   . exact Jn false [] rfl nofun
 refine By rfl (λh=>?_) λh=>?_
 . obtain⟨d1,d2⟩:=hb h
   refine Ce rfl (Mul_ok (by omega) (by omega)) ?_
   refine Ce rfl Xe3 ?_
   exact R1 rfl (.eq (show _=dq _ by rw[Xq5 d1 d2];rfl))
 . refine Dw rfl ?_
   refine Ce rfl (Mul_ok (by omega) (by omega)) ?_
   refine Ce rfl (Mul_ok (by omega) (by omega)) ?_
   refine Ce rfl (Xf5 (hx.n.mul hy.n) (hx.d.mul hy.d) hp (W6y (Xb1 x) (Xb1 y))) ?_
   exact R1 rfl (.eq (by rw[Xjq]))
theorem Xdy{x y:Rat}{p q:Nat}(hx:Qs p x)(hy:Qs q y)(hp:p+q+1<=8796093022208): C0 61 [.d (dq x),.d (dq y)] (·=.d (dq (x+y))):=by
 have h1:=hx.n.len (by omega)
 have h2:=hx.d.len (by omega)
 have h3:=hy.n.len (by omega)
 have h4:=hy.d.len (by omega)
 have h5:=(hx.n.mul hy.d).len (by omega)
 have h6:=(hy.n.mul hx.d).len (by omega)
 refine En Tryz.func61 λ_ _ _=>?_
 refine Cu (some 1) (λ(b:Bool)=>[(2,.ptr 2 0),(3,.ptr 3 0),(4,.ptr 4 0),(13,.b b)]) (λ_=>[(2,.var (.d (dq x))),(3,.var (.d (dq y))),(4,.var q0)]) (λb=>b=true->(x.den:Int)=1/\(y.den:Int)=1) rfl ?_ λb hb=>?_
 . refine Ce rfl Xev ?_
   refine By rfl (λh=>?_) λh=>?_
   . refine Ce rfl Xev ?_
     exact Jn (dc _) [] rfl λe=>⟨h,Xah.1 e⟩
   . exact Jn false [] rfl nofun
 refine By rfl (λh=>?_) λh=>?_
 . obtain⟨d1,d2⟩:=hb h
   refine Ce rfl (Add_ok (by omega) (by omega)) ?_
   refine Ce rfl Xe3 ?_
   exact R1 rfl (.eq (show _=dq _ by rw[Xq6 d1 d2];rfl))
 . refine Dw rfl ?_
   refine Ce rfl (Mul_ok (by omega) (by omega)) ?_
   refine Ce rfl (Mul_ok (by omega) (by omega)) ?_
   refine Ce rfl (Add_ok (by omega) (by omega)) ?_
   refine Dw rfl ?_
   refine Ce rfl (Mul_ok (by omega) (by omega)) ?_
   refine Ce rfl (Xf5 (p:=p+q+1) (Qs.addNum hx hy) ((hx.d.mul hy.d).mono (by omega)) hp (W6y (Xb1 x) (Xb1 y))) ?_
   exact R1 rfl (.eq (by rw[Xj7]))
theorem Xn1{x y:Rat}{p q:Nat}(hx:Qs p x)(hy:Qs q y)(hp:p+q+1<=8796093022208): C0 183 [.d (dq x),.d (dq y)] (·=.d (dq (x-y))):=by
 refine En Tryz.func183 λ_ _ _=>?_
 refine Dw rfl ?_
 refine Ce rfl (Xff hy (by omega)) ?_
 refine Ce rfl (Xdy hx hy.neg hp) ?_
 exact R1 rfl (.eq (by rw[W6a]))
theorem Ydf{x y:Rat}{p q:Nat}(hx:Qs p x)(hy:Qs q y)(hp:p+q<=8796093022208)(h0:y≠0): C0 346 [.d (dq x),.d (dq y)] (·=.tup (.pr (.d (dq (x/y))) (.d (.int .i64 0)))):=by
 have h1:=hx.n.len (by omega)
 have h2:=hx.d.len (by omega)
 have h3:=hy.n.len (by omega)
 have h4:=hy.d.len (by omega)
 have hn:y.num≠0:=λe=>h0 (W6b.1 e)
 refine En Tryz.func346 λ_ _ _=>?_
 refine Ce rfl Xii ?_
 refine No rfl hn ?_
 refine Dw rfl ?_
 refine Ce rfl (Mul_ok (by omega) (by omega)) ?_
 refine Ce rfl (Mul_ok (by omega) (by omega)) ?_
 refine Ce rfl (Xf5 (hx.n.mul hy.d) (hx.d.mul hy.n) hp (W6y (Xb1 x) hn)) ?_
 exact RTt rfl (.cons (.eq (by rw[Xj0 _ _ h0])) (.one (.rf rfl) (λ_ _ e=>by cases e) (λ_ _ e=>by cases e)))
def rz: D:=.st (.pr (.st (.pr (.bool false) (.sl 1 []))) (.st (.pr (.bool false) (.sl 1 []))))
theorem Yiu{g:Hp}{K:Hpl}: Fit g K q0 (.d rz):=.sd (.pd (.sd (.pd (.bd rfl) (.nil rfl))) (.sd (.pd (.bd rfl) (.nil rfl))))
theorem Xym{x y:Rat}(h0:y=0): C0 346 [.d (dq x),.d (dq y)] (·=.tup (.pr (.d rz) (.d (.int .i64 6)))):=by
 refine En Tryz.func346 λ_ _ _=>?_
 refine Ce rfl Xii ?_
 refine Yes rfl (by rw[h0];rfl) ?_
 exact RTt rfl (.cons Yiu (.one (.rf rfl) (λ_ _ e=>by cases e) (λ_ _ e=>by cases e)))
theorem Xbt{x y:Rat}{p q:Nat}(hx:Qs p x)(hy:Qs q y)(hp:p+q<=8796093022208): C0 108 [.d (dq x),.d (dq y)] (·=.d (.int .i64 (Xm3 x y))):=by
 have h1:=hx.n.len (by omega)
 have h2:=hx.d.len (by omega)
 have h3:=hy.n.len (by omega)
 have h4:=hy.d.len (by omega)
 have h5:=(hx.n.mul hy.d).len (by omega)
 have h6:=(hy.n.mul hx.d).len (by omega)
 refine En Tryz.func108 λ_ _ _=>?_
 refine Dw rfl ?_
 refine Ce rfl (Xf2 hx (by omega)) ?_
 refine Ce rfl (Xf2 hy (by omega)) ?_
 refine By rfl (λh=>?_) λh=>?_
 . refine By rfl (λh1=>?_) λh1=>?_
   . exact R1 rfl (.eq (by rw[Xm2 h1]))
   . exact R1 rfl (.eq (by rw[Xm1,Xm2 (by omega)];rfl))
 . refine Dw rfl ?_
   refine Ce rfl (Mul_ok (by omega) (by omega)) ?_
   refine Ce rfl (Mul_ok (by omega) (by omega)) ?_
   refine Ce rfl (Cmp_ok (by omega) (by omega)) ?_
   exact R1 rfl (.eq (by rw[Xra]))
theorem Xei{z:Int}(h:(dig z.natAbs).length<=549755813888): C0 324 [.d (dz z)] (·=.b true):=by
 refine En Tryz.func324 λ_ _ _=>?_
 refine By rfl (λh1=>?_) λh1=>?_<;>simp only[lw] at h1
 . have h0:=Yn7.1 (by omega:(dig z.natAbs).length=0)
   refine Yes rfl (show ¬z<0 by omega) ?_
   exact R0
 . refine Yes rfl (by simp only[lw];omega) ?_
   rcases Xhe z.natAbs with h2 | ⟨t,h2,h3⟩
   . rw[h2] at h1;exact absurd rfl h1
   refine Ar ((dig z.natAbs).length-1:Nat) rfl ?_ (wr (by simp only[lw];omega) (by simp only[inK];omega))
   refine Ix ((dig z.natAbs).length-1) rfl (mp h2) ?_
   refine R1 rfl (by exact(show dc ((t:Int)≠0)=true by rw[Xah];omega) ▸ .rf rfl)
theorem Ymr{z:Int}: Xba z 0>0↔z>0:=Xzu
theorem Xma{x:Rat}{p:Nat}(hx:Qs p x)(hp:p<=8796093022208): C0 272 [.d (dq x)] (·=.b true):=by
 have h1:=hx.n.len hp
 have h2:=hx.d.len hp
 refine En Tryz.func272 λ_ _ _=>?_
 refine Ce rfl (Xei (z:=x.num) (by omega)) ?_
 refine Yes rfl rfl ?_
 refine Ce rfl (Xei (z:=x.den) (by omega)) ?_
 refine Yes rfl rfl ?_
 refine Ce rfl (Sign_ok (by omega)) ?_
 refine Yes rfl (Ymr.2 (by have:=x.den_pos;omega)) ?_
 refine Ce rfl (GCD_ok (by omega) (by omega)) ?_
 refine Ce rfl Xev ?_
 refine R1 rfl (by exact(show dc ((Int.gcd x.num x.den:Int)=1)=true by rw[Xah];exact congrArg Nat.cast (show Int.gcd x.num x.den=1 from x.reduced)) ▸ .rf rfl)
end Go.Proofs.YtfjafaehfjjaiaaGreatDoor
namespace Go.Proofs.YtfjafaehfjjaiaaGreatDoor.R1
open Go Go.Vm Go.Num Go.Proofs.YtfjafaehfjjaiaaGreatDoor
section
theorem Xa5{l:List Nat}(hw:Xaq l)(hl:l.length<=1099511627776): C0 233 [.d (ws l)] (·=.d (ws (dig (val l)))):=by
 refine En Tryz.func233 λ_ _ _=>?_
 refine Lo (λk=>[(0,.d (ws (l.take k)))]) (λ_=>[]) (λk=>k<=l.length/\val (l.take k)=val l) id l.length [] rfl ⟨W0a _,by rw[W2j]⟩ (λk ⟨hk,hv⟩=>?_) (hf:=⟨by simp only[W2j];rfl,rfl,rfl,rfl,rfl⟩)
 refine By rfl (λh=>?_) λh=>?_<;>simp only[W0i,W0j,W2f hk] at h
 . have hl:((l.take k).map wd).length=k:=by simp;omega
   refine Ar (k-1:Nat) rfl ?_
   have hx:=W0c (l:=l) (i:=k-1) (by omega)
   refine Ix (k-1) rfl (u:=wd l[k-1]) (mp (by rw[W1e,if_pos (by omega),hx])) ?_
   have hs:=Xac hx
   rw[show k-1+1=k by omega,hv] at hs
   refine By rfl (λh0=>?_) λh0=>?_
   . refine Ar (k-1:Nat) rfl ?_
     refine Tk (k-1) ((l.take (k-1)).map wd) rfl rfl (by simp;omega) (by rw[<-W2e,List.take_take,W2f (by omega)]) ?_
     exact Bk (k-1) [] rfl ⟨by omega,by rw[hs,show l[k-1]=0 by omega,W3d,W2n]⟩ (show k-1<k by omega)
   . exact R1 rfl (.eq (by rw[<-hv,Xfj (hw.take k) (.inr ⟨l[k-1],by rw[W0j,W2f hk,W1e,if_pos (by omega),hx],λe=>h0 (by rw[e];rfl)⟩)]))
 . refine R1 rfl (.eq ?_)
   rw[show k=0 by omega] at hv |-
   rw[<-hv,W5c,val,Xan]
theorem trim_dig_ok{n:Nat}(h:(dig n).length<=1099511627776): C0 233 [.d (ws (dig n))] (·=.d (ws (dig n))):=by
 have:=Xa5 (Xae n) h
 rwa[Xag] at this
theorem Xfs{n:Nat}(h:n<18446744073709551616): C0 156 [.d (.int .u64 n)] (·=.d (ws (dig n))):=by
 refine En Tryz.func156 λ_ _ _=>?_
 refine Go.Vm.Cv (n%4294967296:Nat) rfl ?_ (hr:=by rw[wWm];omega)
 refine Ar (n/4294967296:Nat) rfl ?_ (hr:=show _/\_ from⟨by omega,Ygu n⟩)
 refine Go.Vm.Cv (n/4294967296:Nat) rfl ?_
 refine Ce rfl (Xa5 (l:=[n%4294967296,n/4294967296]) (.cons (by omega) (.cons (by omega) .nil)) (by simp)) ?_
 exact R1 rfl (.eq (by rw[show val [n%4294967296,n/4294967296]=n by simp only[val];omega]))
theorem Xps{b:Bool}{l:List Nat}(hw:Xaq l)(h:l.length<=1099511627776): C0 155 [.d (.bool b),.d (ws l)] (·=.d (dz (sg b (val l)))):=by
 rw[<-Yi9]
 refine C.nb (show C0 _ [.b b,.d (ws l)] _ from ?_)
 obtain⟨n,hn⟩:∃n,n=val l:=⟨_,rfl⟩
 refine En Tryz.func155 λ_ _ _=>?_
 refine Ce rfl (Xa5 hw h) ?_
 rw[<-hn]
 cases b with
 | true =>
  refine Yes rfl rfl ?_
  exact R1 rfl (by exact .sd (.pd (.bd (by
   rw[W5h,Xah,W0g,bne_iff_ne,lw]
   have:=@Xr7 n
   rw[<-W4b] at this
   simp;omega)) (.rf rfl)))
 | false =>
  refine No rfl (by nofun) ?_
  exact R1 rfl (by exact .sd (.pd (.bd rfl) (.rf rfl)))
theorem Xao{b:Bool}{n:Nat}(h:(dig n).length<=1099511627776): C0 155 [.d (.bool b),.d (ws (dig n))] (·=.d (dz (sg b n))):=by
 have:=Xps (b:=b) (Xae n) h
 rwa[Xag] at this
theorem FromInt_ok{z:Int}(h:-9223372036854775808<=z/\z<9223372036854775808): C0 95 [.d (.int .i64 z)] (·=.d (dz z)):=by
 have hl:(dig z.natAbs).length<=2:=Xas (by omega)
 refine En Tryz.func95 λ_ _ _=>?_
 refine By rfl (λh=>?_) λh=>?_
 . refine Go.Vm.Cv (z%18446744073709551616) rfl ?_ (hr:=wUm _)
   refine Ne (z.natAbs:Int) rfl ?_ (hr:=by rw[wUm];omega)
   refine Ce rfl (Xfs (n:=z.natAbs) (by omega)) ?_
   refine Ce rfl (Xao (n:=z.natAbs) (by omega)) ?_
   exact R1 rfl (.eq (by rw[show sg true z.natAbs=z by unfold sg;rw[if_pos rfl];omega]))
 . refine Go.Vm.Cv (z.natAbs:Int) rfl ?_ (hr:=by rw[wUm];omega)
   refine Ce rfl (Xfs (n:=z.natAbs) (by omega)) ?_
   refine Ce rfl (Xao (n:=z.natAbs) (by omega)) ?_
   exact R1 rfl (.eq (by rw[show sg false z.natAbs=z by unfold sg;rw[if_neg nofun];omega]))
theorem Norm_ok{z:Int}(h:(dig z.natAbs).length<=1099511627776): C0 275 [.d (dz z)] (·=.d (dz z)):=by
 refine En Tryz.func275 λ_ _ _=>?_
 refine Ce rfl (Xao (n:=z.natAbs) h) ?_
 exact R1 rfl (.eq (by rw[Xpx]))
theorem Sign_ok{z:Int}(h:(dig z.natAbs).length<=1099511627776): C0 266 [.d (dz z)] (·=.d (.int .i64 (Xba z 0))):=by
 refine En Tryz.func266 λ_ _ _=>?_
 refine Ce rfl (Norm_ok h) ?_
 refine By rfl (λh=>?_) λh=>?_<;>simp only[lw] at h
 . have:=Xr7.1 (W0o (by omega:(dig z.natAbs).length=0))
   exact R1 rfl (.eq (by rw[show z=0 by omega];rfl))
 . have hz:z≠0:=λe=>h (by rw[e];simp[Xan])
   refine By rfl (λh1=>?_) λh1=>?_
   . exact R1 rfl (.eq (by rw[Xba,if_pos h1]))
   . exact R1 rfl (.eq (by rw[Xba,if_neg h1,if_pos (by omega)]))
theorem Xb2{x y:Nat}(hx:(dig x).length<=1099511627776): C0 277 [.d (ws (dig x)),.d (ws (dig y))] (·=.d (.int .i64 (Xba x y))):=by
 refine En Tryz.func277 λ_ _ _=>?_
 refine By rfl (λh=>?_) λh=>?_<;>simp only[lw] at h
 . refine By rfl (λh1=>?_) λh1=>?_<;>simp only[lw] at h1
   . have:=Xdm (m:=x) (n:=y) (by omega)
     exact R1 rfl (.eq (by rw[Xba,if_pos (by omega)]))
   . have:=Xdm (m:=y) (n:=x) (by omega)
     exact R1 rfl (.eq (by rw[Xba,if_neg (by omega),if_pos (by omega)]))
 . refine Ar ((dig x).length-1:Int) rfl ?_ (wr (by simp only[lw]) (by simp only[inK];omega))
   refine Lo (λ(k:Nat)=>[(0,.d (ws (dig x))),(1,.d (ws (dig y))),(5,.d (.int .i64 ((k:Int)-1)))]) (λ_=>[]) (λk=>k<=(dig x).length/\(dig x).drop k=(dig y).drop k) (λk=>k) (dig x).length [] rfl ⟨by omega,by rw[W1z (by omega),W1z (by omega)]⟩ λk ⟨hk,hd⟩=>?_
   refine By rfl (λh1=>?_) λh1=>?_
   . obtain⟨u,hu⟩:=xat (l:=dig x) (k:=k-1) (by omega)
     obtain⟨v,hv⟩:=xat (l:=dig y) (k:=k-1) (by omega)
     have hd':(dig x).drop (k-1+1)=(dig y).drop (k-1+1):=by rw[show k-1+1=k by omega];exact hd
     refine Dw rfl ?_
     refine Ix (k-1) rfl (mp hu) ?_
     refine Ix (k-1) rfl (mp hv) ?_
     refine By rfl (λh2=>?_) λh2=>?_
     . have:=Xjr (Xae x) (by omega) (by omega) hu hv hd' (by omega)
       rw[Xag,Xag] at this
       exact R1 rfl (.eq (by rw[Xba,if_pos (by omega)]))
     . refine Dw rfl ?_
       refine Ix (k-1) rfl (mp hu) ?_
       refine Ix (k-1) rfl (mp hv) ?_
       refine By rfl (λh3=>?_) λh3=>?_
       . have:=Xjr (Xae y) (by omega) (by omega) hv hu hd'.symm (by omega)
         rw[Xag,Xag] at this
         exact R1 rfl (.eq (by rw[Xba,if_neg (by omega),if_pos (by omega)]))
       . refine Ar ((k-1:Nat)-1:Int) rfl ?_
         refine Bk (k-1) [] rfl ⟨by omega,?_⟩ (by show k-1<k;omega)
         have huv:u=v:=by omega
         rw[W3e (l:=dig x) (i:=k-1) (by omega),W3e (l:=dig y) (i:=k-1) (by omega),show k-1+1=k by omega,hd]
         rw[W0c (by omega)] at hu hv
         injection hu with hu
         injection hv with hv
         rw[hu,hv,huv]
   . have hk0:k=0:=by omega
     rw[hk0,W1d,W1d] at hd
     have hxy:x=y:=by rw[<-Xag x,hd,Xag]
     exact R1 rfl (.eq (by rw[hxy,Xba,if_neg (by omega),if_neg (by omega)]))
end
section
theorem dtk{l:List Nat}{q m k:Nat}(h:k<m): ((l.drop q).take m)[k]?=l[q+k]?:=by rw[W1e,if_pos h,W1y]
theorem Xxr{l:List Nat}{q m:Nat}(h:q+m<=l.length): ((l.drop q).take m).length=m:=by rw[W0j,W1l];omega
theorem Xhd{q n:Nat}{l:List Nat}(hw:Xaq l)(hq:q+n<=l.length)(hl:n<=1099511627776): CN0 233 [.own 1000001 1 q n] [(1000001,.arr 1 (l.map wd))] λv=>∃k,k<=n/\v=.own 1000001 1 q k/\(l.drop q).take k=dig (val ((l.drop q).take n)):=by
 refine EnW Tryz.func233 λ_ _ _ _=>?_
 refine Lo (λk=>[(0,.own 1000001 1 q k)]) (λ_=>[(1000001,.arr 1 (l.map wd))]) (λk=>k<=n/\val ((l.drop q).take k)=val ((l.drop q).take n)) id n [] rfl ⟨W0a _,rfl⟩ λk ⟨hk,hv⟩=>?_
 have hwk:=(hw.drop q).take k
 refine By rfl (λh=>?_) λh=>?_
 . obtain⟨u,hu⟩:=xat (l:=l) (k:=q+(k-1)) (by omega)
   have hs:=Xac (l:=l.drop q) (k:=k-1) (x:=u) (by rw[W1y];exact hu)
   rw[show k-1+1=k by omega,hv] at hs
   refine Ar (k-1:Nat) rfl ?_
   refine El (k-1) rfl (by omega) ?_
   refine Ld (wd u) rfl (mp hu) ?_
   refine By rfl (λh0=>?_) λh0=>?_
   . refine Ar (k-1:Nat) rfl ?_
     refine Sw 0 (k-1) rfl (by omega) (by omega) ?_
     exact Bk (k-1) [] rfl ⟨by omega,by rw[hs,show u=0 by omega,W3d,W2n]⟩ (show k-1<k by omega)
   . exact Rw [] [(1000001,.arr 1 (l.map wd))] rfl (.one (.rf rfl) rfl rfl) ⟨rfl,k,hk,rfl,by rw[<-hv,Xfj hwk (.inr ⟨u,by rw[Xxr (by omega),dtk (by omega)];exact hu,λe=>h0 (by rw[e];rfl)⟩)]⟩
 . refine Rw [] [(1000001,.arr 1 (l.map wd))] rfl (.one (.rf rfl) rfl rfl) ⟨rfl,k,hk,rfl,?_⟩
   rw[show k=0 by omega] at hv |-
   rw[<-hv,W5c,val,Xan]
theorem Xov{x y q m:Nat}{l:List Nat}(hq:q+m<=l.length)(hl:(l.drop q).take m=dig x)(hx:(dig x).length<=1099511627776): CN0 277 [.own 1000001 1 q m,.d (ws (dig y))] [(1000001,.arr 1 (l.map wd))] (·=.d (.int .i64 (Xba x y))):=by
 have hm:(dig x).length=m:=by rw[<-hl,Xxr hq]
 rw[hm] at hx
 have hg:∀ {k u:Nat},(dig x)[k]?=some u->k<m->l[q+k]?=some u:=λh hk=>by rw[<-hl,dtk hk] at h;exact h
 refine EnW Tryz.func277 λ_ _ _ _=>?_
 refine By rfl (λh=>?_) λh=>?_<;>simp only[lw] at h
 . refine By rfl (λh1=>?_) λh1=>?_<;>simp only[lw] at h1
   . have:=Xdm (m:=x) (n:=y) (by omega)
     exact Rw [] [(1000001,.arr 1 (l.map wd))] rfl (.one (.rf rfl) rfl rfl) ⟨rfl,congrArg AV.d (congrArg (D.int .i64) (by rw[Xba,if_pos (by omega)]))⟩
   . have:=Xdm (m:=y) (n:=x) (by omega)
     exact Rw [] [(1000001,.arr 1 (l.map wd))] rfl (.one (.rf rfl) rfl rfl) ⟨rfl,congrArg AV.d (congrArg (D.int .i64) (by rw[Xba,if_neg (by omega),if_pos (by omega)]))⟩
 . refine Ar (m-1:Int) rfl ?_
   refine Lo (λ(k:Nat)=>[(0,.own 1000001 1 q m),(1,.d (ws (dig y))),(5,.d (.int .i64 ((k:Int)-1)))]) (λ_=>[(1000001,.arr 1 (l.map wd))]) (λk=>k<=m/\(dig x).drop k=(dig y).drop k) (λk=>k) m [] rfl ⟨by omega,by rw[W1z (by omega),W1z (by omega)]⟩ λk ⟨hk,hd⟩=>?_
   refine By rfl (λh1=>?_) λh1=>?_
   . obtain⟨u,hu⟩:=xat (l:=dig x) (k:=k-1) (by omega)
     obtain⟨v,hv⟩:=xat (l:=dig y) (k:=k-1) (by omega)
     have hd':(dig x).drop (k-1+1)=(dig y).drop (k-1+1):=by rw[show k-1+1=k by omega];exact hd
     refine Dw rfl ?_
     refine El (k-1) rfl (by omega) ?_
     refine Ld (wd u) rfl (mp (hg hu (by omega))) ?_
     refine Ix (k-1) rfl (mp hv) ?_
     refine By rfl (λh2=>?_) λh2=>?_
     . have:=Xjr (Xae x) (by omega) (by omega) hu hv hd' (by omega)
       rw[Xag,Xag] at this
       exact Rw [] [(1000001,.arr 1 (l.map wd))] rfl (.one (.rf rfl) rfl rfl) ⟨rfl,congrArg AV.d (congrArg (D.int .i64) (by rw[Xba,if_pos (by omega)]))⟩
     . refine Dw rfl ?_
       refine El (k-1) rfl (by omega) ?_
       refine Ld (wd u) rfl (mp (hg hu (by omega))) ?_
       refine Ix (k-1) rfl (mp hv) ?_
       refine By rfl (λh3=>?_) λh3=>?_
       . have:=Xjr (Xae y) (by omega) (by omega) hv hu hd'.symm (by omega)
         rw[Xag,Xag] at this
         exact Rw [] [(1000001,.arr 1 (l.map wd))] rfl (.one (.rf rfl) rfl rfl) ⟨rfl,congrArg AV.d (congrArg (D.int .i64) (by rw[Xba,if_neg (by omega),if_pos (by omega)]))⟩
       . refine Ar ((k-1:Nat)-1:Int) rfl ?_
         refine Bk (k-1) [] rfl ⟨by omega,?_⟩ (by show k-1<k;omega)
         have huv:u=v:=by omega
         rw[W3e (l:=dig x) (i:=k-1) (by omega),W3e (l:=dig y) (i:=k-1) (by omega),show k-1+1=k by omega,hd]
         rw[W0c (by omega)] at hu hv
         injection hu with hu
         injection hv with hv
         rw[hu,hv,huv]
   . have hk0:k=0:=by omega
     rw[hk0,W1d,W1d] at hd
     have hxy:x=y:=by rw[<-Xag x,hd,Xag]
     exact Rw [] [(1000001,.arr 1 (l.map wd))] rfl (.one (.rf rfl) rfl rfl) ⟨rfl,congrArg AV.d (congrArg (D.int .i64) (by rw[hxy,Xba,if_neg (by omega),if_neg (by omega)]))⟩
theorem Xuv{x y q m:Nat}{l:List Nat}(hq:q+m<=l.length)(hl:(l.drop q).take m=dig x)(hx:(dig x).length<=1099511627776)(hle:y<=x): CN0 278 [.own 1000001 1 q m,.d (ws (dig y))] [(1000001,.arr 1 (l.map wd))] (·=.d (ws (dig (x-y)))):=by
 have hm:(dig x).length=m:=by rw[<-hl,Xxr hq]
 have hg:∀ {k u:Nat},(dig x)[k]?=some u->k<m->l[q+k]?=some u:=λh hk=>by rw[<-hl,dtk hk] at h;exact h
 rw[hm] at hx
 have hll:=Xar hle
 refine EnW Tryz.func278 λ_ _ _ _=>?_
 refine Mk m rfl (by omega) ?_
 refine Lo (λ(k,lo,br)=>[(0,.own 1000001 1 q m),(1,.d (ws (dig y))),(5,.own 12 1 0 m),(6,.d (.int .u64 (br:Nat))),(7,.d (.int .i64 (k:Nat)))]) (λ(_,lo,_)=>[(12,.arr 1 (lo.map wd)),(1000001,.arr 1 (l.map wd))])
  (λ(k,lo,br)=>k<=m/\lo.length=m/\Xaq lo/\br<=1/\val (lo.take k)+val ((dig y).take k)=val ((dig x).take k)+4294967296^k*br) (λ(k,_,_)=>m-k) (0,List.replicate m 0,0) [] rfl
  ⟨by omega,by simp,Xfr _,by omega,by simp[val]⟩ ?_ (by exact⟨rfl,by simp only[W2i];rfl,rfl,rfl,rfl⟩)
 rintro⟨k,lo,br⟩ ⟨hk,hl1,hw,hbr,hval⟩
 refine By rfl (λh=>?_) λh=>?_
 . obtain⟨u,hu⟩:=xat (l:=dig x) (k:=k) (by omega)
   have hub:=ww hu (Xae x)
   refine Cu none (λ(v:Nat)=>[(0,.own 1000001 1 q m),(1,.d (ws (dig y))),(5,.own 12 1 0 m),(6,.d (.int .u64 br)),(7,.d (.int .i64 k)),(8,.d (.int .u64 v))]) (λ_=>[(12,.arr 1 (lo.map wd)),(1000001,.arr 1 (l.map wd))])
    (λv=>v<4294967296/\val ((dig y).take (k+1))=val ((dig y).take k)+4294967296^k*v) rfl ?_ λv ⟨hv,hyv⟩=>?_
   . refine By rfl (λh2=>?_) λh2=>?_<;>simp only[lw] at h2
     . obtain⟨u2,hu2⟩:=xat (l:=dig y) (k:=k) (by omega)
       have hub2:=ww hu2 (Xae y)
       refine Ix k rfl (mp hu2) ?_
       refine Go.Vm.Cv u2 rfl ?_
       exact Jn u2 [] rfl ⟨hub2,Xac hu2⟩
     . exact Jn 0 [] rfl ⟨by omega,by rw[Xgo (by omega)];rfl⟩
   obtain⟨s,hs⟩:∃s,s=u+4294967296-v-br:=⟨_,rfl⟩
   refine El k rfl (by omega) ?_
   refine Ld (wd u) rfl (mp (hg hu (by omega))) ?_
   refine Go.Vm.Cv u rfl ?_
   refine Ar (u+4294967296:Nat) rfl ?_
   refine Ar (u+4294967296-v:Nat) rfl ?_
   refine Ar s rfl ?_
   refine Go.Vm.Cv (s%4294967296:Nat) rfl ?_ (by rw[wWm];omega)
   refine Eo k rfl (by omega) ?_
   refine Sto rfl (by simp only[lw];omega) ms ?_
   refine Ar (s/4294967296:Nat) rfl ?_ (Xi4 (n:=32) (by decide))
   refine Ar (1-s/4294967296:Nat) rfl ?_
   refine Ar (k+1:Nat) rfl ?_
   refine Bk (k+1,lo.set k (s%4294967296),1-s/4294967296) [] rfl ⟨by omega,by simp[hl1],Xg9 hw (by omega),by omega,?_⟩ (by show m-(k+1)<m-k;omega)
   rw[Xbg (by omega),hyv,Xac hu,W0y,W0w]
   have e:4294967296^k*(s%4294967296+v+br)=4294967296^k*(u+4294967296*(1-s/4294967296)):=by congr 1;omega
   simp only[W1c] at e
   omega
 . have hkn:k=m:=by omega
   rw[hkn,W0b (by omega),W0b (by omega),W0b (by omega),Xag,Xag] at hval
   have hvl:=Xbw hw
   rw[hl1] at hvl
   have hbr0:br=0:=by
    rcases W2u br with h0 | h0
    . exact h0
    . have h1:4294967296^m*1<=4294967296^m*br:=W0t _ h0
      omega
   rw[hbr0,W3d] at hval
   refine Fz 12 5 (lo.map wd) rfl (by simp only[lw];omega) (oa hl1) ?_
   refine Ce rfl (Xa5 hw (by omega)) ?_
   exact Rw [] [(1000001,.arr 1 (l.map wd))] rfl (.one (.rf rfl) rfl rfl) ⟨rfl,by rw[show val lo=x-y by omega]⟩
theorem Xd0{x y:Nat}(hx:(dig x).length<=1099511627776)(hle:y<=x): C0 278 [.d (ws (dig x)),.d (ws (dig y))] (·=.d (ws (dig (x-y)))):=by
 obtain⟨m,hm⟩:∃m,(dig x).length=m:=⟨_,rfl⟩
 rw[hm] at hx
 have hll:=Xar hle
 refine En Tryz.func278 λ_ _ _=>?_
 refine Mk m rfl (by simp only[lw];omega) ?_ (by simp only[lw,hm])
 refine Lo (λ(k,lo,br)=>[(0,.d (ws (dig x))),(1,.d (ws (dig y))),(5,.own 12 1 0 m),(6,.d (.int .u64 (br:Nat))),(7,.d (.int .i64 (k:Nat)))]) (λ(_,lo,_)=>[(12,.arr 1 (lo.map wd))])
  (λ(k,lo,br)=>k<=m/\lo.length=m/\Xaq lo/\br<=1/\val (lo.take k)+val ((dig y).take k)=val ((dig x).take k)+4294967296^k*br) (λ(k,_,_)=>m-k) (0,List.replicate m 0,0) [] rfl
  ⟨by omega,by simp,Xfr _,by omega,by simp[val]⟩ ?_ (by exact⟨rfl,by simp only[W2i];rfl,rfl,rfl,rfl⟩)
 rintro⟨k,lo,br⟩ ⟨hk,hl1,hw,hbr,hval⟩
 refine By rfl (λh=>?_) λh=>?_<;>simp only[lw] at h
 . obtain⟨u,hu⟩:=xat (l:=dig x) (k:=k) (by omega)
   have hub:=ww hu (Xae x)
   refine Cu none (λ(v:Nat)=>[(0,.d (ws (dig x))),(1,.d (ws (dig y))),(5,.own 12 1 0 m),(6,.d (.int .u64 br)),(7,.d (.int .i64 k)),(8,.d (.int .u64 v))]) (λ_=>[(12,.arr 1 (lo.map wd))])
    (λv=>v<4294967296/\val ((dig y).take (k+1))=val ((dig y).take k)+4294967296^k*v) rfl ?_ λv ⟨hv,hyv⟩=>?_
   . refine By rfl (λh2=>?_) λh2=>?_<;>simp only[lw] at h2
     . obtain⟨u2,hu2⟩:=xat (l:=dig y) (k:=k) (by omega)
       have hub2:=ww hu2 (Xae y)
       refine Ix k rfl (mp hu2) ?_
       refine Go.Vm.Cv u2 rfl ?_
       exact Jn u2 [] rfl ⟨hub2,Xac hu2⟩
     . exact Jn 0 [] rfl ⟨by omega,by rw[Xgo (by omega)];rfl⟩
   obtain⟨s,hs⟩:∃s,s=u+4294967296-v-br:=⟨_,rfl⟩
   refine Ix k rfl (mp hu) ?_
   refine Go.Vm.Cv u rfl ?_
   refine Ar (u+4294967296:Nat) rfl ?_
   refine Ar (u+4294967296-v:Nat) rfl ?_
   refine Ar s rfl ?_
   refine Go.Vm.Cv (s%4294967296:Nat) rfl ?_ (by rw[wWm];omega)
   refine Eo k rfl (by omega) ?_
   refine Sto rfl (by simp only[lw];omega) ms ?_
   refine Ar (s/4294967296:Nat) rfl ?_ (Xi4 (n:=32) (by decide))
   refine Ar (1-s/4294967296:Nat) rfl ?_
   refine Ar (k+1:Nat) rfl ?_
   refine Bk (k+1,lo.set k (s%4294967296),1-s/4294967296) [] rfl ⟨by omega,by simp[hl1],Xg9 hw (by omega),by omega,?_⟩ (by show m-(k+1)<m-k;omega)
   rw[Xbg (by omega),hyv,Xac hu,W0y,W0w]
   have e:4294967296^k*(s%4294967296+v+br)=4294967296^k*(u+4294967296*(1-s/4294967296)):=by congr 1;omega
   simp only[W1c] at e
   omega
 . have hkn:k=m:=by omega
   rw[hkn,W0b (by omega),W0b (by omega),W0b (by omega),Xag,Xag] at hval
   have hvl:=Xbw hw
   rw[hl1] at hvl
   have hbr0:br=0:=by
    rcases W2u br with h0 | h0
    . exact h0
    . have h1:4294967296^m*1<=4294967296^m*br:=W0t _ h0
      omega
   rw[hbr0,W3d] at hval
   refine Fz 12 5 (lo.map wd) rfl (by simp only[lw];omega) (oa hl1) ?_
   refine Ce rfl (Xa5 hw (by omega)) ?_
   exact R1 rfl (.eq (by rw[show val lo=x-y by omega]))
end
section
theorem Xh9{x y:Nat}(hx:(dig x).length<=549755813888)(hy:(dig y).length<=549755813888): C0 276 [.d (ws (dig x)),.d (ws (dig y))] (·=.d (ws (dig (x+y)))):=by
 refine En Tryz.func276 λ_ _ _=>?_
 refine Cu none (λ(a,b)=>[(0,.d (ws (dig a))),(1,.d (ws (dig b)))]) (λ_=>[]) (λ(a,b)=>a+b=x+y/\(dig b).length<=(dig a).length/\(dig a).length<=549755813888) rfl ?_ λ⟨a,b⟩ ⟨hs,hle,hbig⟩=>?_
 . refine By rfl (λh=>?_) λh=>?_<;>simp only[lw] at h
   . exact Jn (y,x) [] rfl ⟨Nat.add_comm _ _,by omega,hy⟩
   . exact Jn (x,y) [] rfl ⟨rfl,by omega,hx⟩
 obtain⟨m,hm⟩:∃m,(dig a).length=m:=⟨_,rfl⟩
 rw[hm] at hle hbig
 refine Ar (m+1:Nat) rfl ?_ (wr (by simp only[lw,hm];omega) (by simp only[inK];omega))
 refine Mk (m+1) rfl (by omega) ?_
 refine Lo (λ(k,lo,cr)=>[(0,.d (ws (dig a))),(1,.d (ws (dig b))),(5,.own 18 1 0 (m+1)),(6,.d (.int .u64 (cr:Nat))),(7,.d (.int .i64 (k:Nat)))]) (λ(_,lo,_)=>[(18,.arr 1 (lo.map wd))])
  (λ(k,lo,cr)=>k<=m/\lo.length=m+1/\Xaq lo/\cr<=1/\val (lo.take k)+4294967296^k*cr=val ((dig a).take k)+val ((dig b).take k)) (λ(k,_,_)=>m-k) (0,List.replicate (m+1) 0,0) [] rfl ⟨by omega,by simp,Xfr _,by omega,by simp[val]⟩ ?_ (by exact⟨rfl,by simp only[W2i];rfl,rfl,rfl,rfl⟩)
 rintro⟨k,lo,cr⟩ ⟨hk,hl,hw,hcr,hval⟩
 refine By rfl (λh=>?_) λh=>?_<;>simp only[lw] at h
 . obtain⟨u,hu⟩:=xat (l:=dig a) (k:=k) (by omega)
   have hub:=ww hu (Xae a)
   refine Ix k rfl (mp hu) ?_
   refine Go.Vm.Cv u rfl ?_
   refine Ar (cr+u:Nat) rfl ?_
   refine Cu none (λ(s:Nat)=>[(0,.d (ws (dig a))),(1,.d (ws (dig b))),(5,.own 18 1 0 (m+1)),(6,.d (.int .u64 s)),(7,.d (.int .i64 k))]) (λ_=>[(18,.arr 1 (lo.map wd))])
    (λs=>s<8589934592/\4294967296^k*s+val (lo.take k)=val ((dig a).take (k+1))+val ((dig b).take (k+1))) rfl ?_ λs ⟨hs8,hsv⟩=>?_
   . refine By rfl (λh2=>?_) λh2=>?_<;>simp only[lw] at h2
     . obtain⟨u2,hu2⟩:=xat (l:=dig b) (k:=k) (by omega)
       have hub2:=ww hu2 (Xae b)
       refine Ix k rfl (mp hu2) ?_
       refine Go.Vm.Cv u2 rfl ?_
       refine Ar (cr+u+u2:Nat) rfl ?_
       exact Jn (cr+u+u2) [] rfl ⟨by omega,by rw[Xac hu,Xac hu2,W1c,W1c];omega⟩
     . exact Jn (cr+u) [] rfl ⟨by omega,by rw[Xac hu,Xgo (l:=dig b) (by omega),W1c];omega⟩
   refine Go.Vm.Cv (s%4294967296:Nat) rfl ?_ (by rw[wWm];omega)
   refine Eo k rfl (by omega) ?_
   refine Sto rfl (by simp only[lw];omega) ms ?_
   refine Ar (s/4294967296:Nat) rfl ?_ (Xi4 (n:=32) (by decide))
   refine Ar (k+1:Nat) rfl ?_
   refine Bk (k+1,lo.set k (s%4294967296),s/4294967296) [] rfl ⟨by omega,by simp[hl],Xg9 hw (by omega),by show s/4294967296<=1;omega,?_⟩ (by show m-(k+1)<m-k;omega)
   rw[Xbg (by omega),<-hsv,W0y,W0w]
   have e2:4294967296^k*s=4294967296^k*(s%4294967296)+4294967296^k*(4294967296*(s/4294967296)):=by rw[<-W1c];congr 1;omega
   omega
 . have hkn:k=m:=by omega
   subst hkn
   rw[W0b (l:=dig a) (by omega),W0b (l:=dig b) (by omega),Xag,Xag,hs] at hval
   have hfin:val (lo.set k cr)=x+y:=by
    have:=Xbg (l:=lo) (k:=k) (d:=cr) (by omega)
    rw[W0b (by rw[W3f];omega)] at this
    rw[this,hval]
   refine Go.Vm.Cv cr rfl ?_
   refine Eo k rfl (by omega) ?_ (by simp only[lw];omega)
   refine Sto rfl (by simp only[lw];omega) ms ?_
   refine Fz 14 5 ((lo.set k cr).map wd) rfl (by simp only[lw,W3f];omega) (oa (by simp[hl])) ?_
   refine Ce rfl (Xa5 (Xg9 hw (by omega)) (by simp only[W3f];omega)) ?_
   exact R1 rfl (.eq (by rw[hfin]))
theorem Xs7{X Y:List Nat}(hX:Xaq X)(hY:Xaq Y)(hx:X.length<=549755813888)(hy:Y.length<=549755813888): C0 280 [.d (ws X),.d (ws Y)] (·=.d (ws (dig (val X*val Y)))):=by
 obtain⟨n,hn⟩:∃n,X.length=n:=⟨_,rfl⟩
 obtain⟨m,hm⟩:∃m,Y.length=m:=⟨_,rfl⟩
 rw[hm] at hy
 rw[hn] at hx
 refine En Tryz.func280 λ_ _ _=>?_
 refine Ar (n+m:Nat) rfl ?_ (wr (by simp only[lw];omega) (by simp only[inK];omega))
 refine Mk (n+m) rfl (by omega) ?_
 refine Lo (λ(i,lo)=>[(0,.d (ws X)),(1,.d (ws Y)),(5,.own 14 1 0 (n+m)),(6,.d (.int .i64 (i:Nat)))]) (λ(_,lo)=>[(14,.arr 1 (lo.map wd))])
  (λ(i,lo)=>i<=n/\lo.length=n+m/\Xaq lo/\val (lo.take (i+m))=val (X.take i)*val Y/\∀j,i+m<=j->j<n+m->lo[j]?=some 0) (λ(i,_)=>n-i)
  (0,List.replicate (n+m) 0) [] rfl ⟨by omega,by simp,Xfr _,by rw[W5k,Xbv];simp[val],λj _ h=>by rw[W4u,if_pos h]⟩ ?_ (by exact⟨rfl,by simp only[W2i];rfl,rfl,rfl,rfl⟩)
 rintro⟨i,lo0⟩ ⟨hi,hl0,hw0,hval,hz0⟩
 refine By rfl (λh=>?_) λh=>?_<;>simp only[lw] at h
 . obtain⟨u,hu⟩:=xat (l:=X) (k:=i) (by omega)
   have hub:=ww hu (hX)
   refine Lo (λ(k,lo,cr)=>[(0,.d (ws X)),(1,.d (ws Y)),(5,.own 14 1 0 (n+m)),(6,.d (.int .i64 i)),(7,.d (.int .u64 (cr:Nat))),(8,.d (.int .i64 (k:Nat)))]) (λ(_,lo,_)=>[(14,.arr 1 (lo.map wd))])
    (λ(k,lo,cr)=>k<=m/\lo.length=n+m/\Xaq lo/\cr<4294967296/\(∀j,i+k<=j->lo[j]?=lo0[j]?)/\val (lo.take (i+k))+4294967296^(i+k)*cr=val (lo0.take (i+k))+4294967296^i*(u*val (Y.take k))) (λ(k,_,_)=>m-k)
    (0,lo0,0) [] rfl ⟨by omega,hl0,hw0,by omega,λ_ _=>rfl,by simp[val]⟩ ?_
   rintro⟨k,lo,cr⟩ ⟨hk,hl1,hw,hcr,hrest,hval2⟩
   refine By rfl (λh=>?_) λh=>?_<;>simp only[lw] at h
   . obtain⟨v,hv⟩:=xat (l:=Y) (k:=k) (by omega)
     have hvb:=ww hv (hY)
     obtain⟨w,hw1⟩:=xat (l:=lo) (k:=i+k) (by omega)
     have hwb:=ww hw1 hw
     have huv:u*v<=4294967295*4294967295:=W2b (by omega) (by omega)
     obtain⟨s,hs⟩:∃s,s=cr+w+u*v:=⟨_,rfl⟩
     have hs2:s<18446744073709551616:=by omega
     refine Dw rfl ?_
     refine Ar (i+k:Nat) rfl ?_
     refine Eo (i+k) rfl (by omega) ?_
     refine Ld (wd w) rfl (mp hw1) ?_
     refine Go.Vm.Cv w rfl ?_
     refine Ar (cr+w:Nat) rfl ?_
     refine Ix i rfl (mp hu) ?_
     refine Go.Vm.Cv u rfl ?_
     refine Ix k rfl (mp hv) ?_
     refine Go.Vm.Cv v rfl ?_
     refine Ar (u*v:Nat) rfl ?_ (wr (W2p ..).symm (by simp only[inK];omega))
     refine Ar (s:Nat) rfl ?_
     refine Ar (i+k:Nat) rfl ?_
     refine Go.Vm.Cv (s%4294967296:Nat) rfl ?_ (by rw[wWm];omega)
     refine Eo (i+k) rfl (by omega) ?_
     refine Sto rfl (by simp only[lw];omega) ms ?_
     refine Ar (s/4294967296:Nat) rfl ?_ (Xi4 (n:=32) (by decide))
     refine Ar (k+1:Nat) rfl ?_
     refine Bk (k+1,lo.set (i+k) (s%4294967296),s/4294967296) [] rfl ⟨by omega,by simp[hl1],Xg9 hw (by omega),by omega,λj hj=>by rw[W1w (by omega)];exact hrest j (by omega),?_⟩ (by show _-(k+1)<_-k;omega)
     have hw0':lo0[i+k]?=some w:=by rw[<-hrest (i+k) (W0a _)];exact hw1
     rw[<-W4r,Xbg (by omega),Xac hw0',Xac hv,W0y,W0w,W1c u,W1c (4294967296^i)]
     have e:4294967296^(i+k)*s=4294967296^(i+k)*(s%4294967296)+4294967296^(i+k)*(4294967296*(s/4294967296)):=by rw[<-W1c];congr 1;omega
     have e2:4294967296^(i+k)*s=4294967296^(i+k)*cr+4294967296^i*(u*(4294967296^k*v))+4294967296^(i+k)*w:=by
      rw[hs,W1c,W1c,W0x]
      have:4294967296^i*4294967296^k*(u*v)=4294967296^i*(u*(4294967296^k*v)):=by
       rw[W0w,W4w (4294967296^k) u v]
      omega
     omega
   . have hkm:k=m:=by omega
     subst hkm
     refine Ar (i+k:Nat) rfl ?_ (wr (by simp only[lw];omega) (by simp only[inK];omega))
     refine Go.Vm.Cv cr rfl ?_
     refine Eo (i+k) rfl (by omega) ?_
     refine Sto rfl (by simp only[lw];omega) ms ?_
     refine Ar (i+1:Nat) rfl ?_
     refine Bk (i+1,lo.set (i+k) cr) [] rfl ⟨by omega,by simp[hl1],Xg9 hw hcr,?_,λj h1 h2=>by rw[W1w (by omega),hrest j (by omega)];exact hz0 j (by omega) h2⟩ (by show _-(i+1)<_-i;omega)
     rw[show i+1+k=i+k+1 by omega,Xbg (by omega),Xac hu,hval2,hval,show Y.take k=Y from W0b (by omega),W1h,W0w]
 . have him:i=n:=by omega
   rw[him,W0b (by omega),W0b (by omega)] at hval
   refine Fz 13 5 (lo0.map wd) rfl (by simp only[lw];omega) (oa hl0) ?_
   refine Ce rfl (Xa5 hw0 (by omega)) ?_
   exact R1 rfl (.eq (by rw[hval]))
theorem Xkh{x y:Nat}(hx:(dig x).length<=549755813888)(hy:(dig y).length<=549755813888): C0 280 [.d (ws (dig x)),.d (ws (dig y))] (·=.d (ws (dig (x*y)))):=by
 have:=Xs7 (Xae x) (Xae y) hx hy
 rwa[Xag,Xag] at this
theorem Xs8{x q n:Nat}{l:List Nat}(hq:q+n<=l.length)(hl:(l.drop q).take n=dig x)(hx:(dig x).length<=549755813888): CN0 280 [.own 1000001 1 q n,.own 1000001 1 q n] [(1000001,.arr 1 (l.map wd))] (·=.d (ws (dig (x*x)))):=by
 have hg:∀ {k u:Nat},(dig x)[k]?=some u->k<n->l[q+k]?=some u:=λh hk=>by rw[<-hl,dtk hk] at h;exact h
 have hn:(dig x).length=n:=by rw[<-hl,Xxr hq]
 rw[hn] at hx
 refine EnW Tryz.func280 λ_ _ _ _=>?_
 refine Ar (n+n:Nat) rfl ?_ (wr (by omega) (by simp only[inK];omega))
 refine Mk (n+n) rfl (by omega) ?_
 refine Lo (λ(i,lo)=>[(0,.own 1000001 1 q n),(1,.own 1000001 1 q n),(5,.own 14 1 0 (n+n)),(6,.d (.int .i64 (i:Nat)))]) (λ(_,lo)=>[(14,.arr 1 (lo.map wd)),(1000001,.arr 1 (l.map wd))])
  (λ(i,lo)=>i<=n/\lo.length=n+n/\Xaq lo/\val (lo.take (i+n))=val ((dig x).take i)*x/\∀j,i+n<=j->j<n+n->lo[j]?=some 0) (λ(i,_)=>n-i)
  (0,List.replicate (n+n) 0) [] rfl ⟨by omega,by simp,Xfr _,by rw[W5k,Xbv];simp[val],λj _ h=>by rw[W4u,if_pos h]⟩ ?_ (by exact⟨rfl,by simp only[W2i];rfl,rfl,rfl,rfl⟩)
 rintro⟨i,lo0⟩ ⟨hi,hl0,hw0,hval,hz0⟩
 refine By rfl (λh=>?_) λh=>?_
 . obtain⟨u,hu⟩:=xat (l:=dig x) (k:=i) (by omega)
   have hub:=ww hu (Xae x)
   refine Lo (λ(k,lo,cr)=>[(0,.own 1000001 1 q n),(1,.own 1000001 1 q n),(5,.own 14 1 0 (n+n)),(6,.d (.int .i64 i)),(7,.d (.int .u64 (cr:Nat))),(8,.d (.int .i64 (k:Nat)))]) (λ(_,lo,_)=>[(14,.arr 1 (lo.map wd)),(1000001,.arr 1 (l.map wd))])
    (λ(k,lo,cr)=>k<=n/\lo.length=n+n/\Xaq lo/\cr<4294967296/\(∀j,i+k<=j->lo[j]?=lo0[j]?)/\val (lo.take (i+k))+4294967296^(i+k)*cr=val (lo0.take (i+k))+4294967296^i*(u*val ((dig x).take k))) (λ(k,_,_)=>n-k)
    (0,lo0,0) [] rfl ⟨by omega,hl0,hw0,by omega,λ_ _=>rfl,by simp[val]⟩ ?_
   rintro⟨k,lo,cr⟩ ⟨hk,hl1,hw,hcr,hrest,hval2⟩
   refine By rfl (λh=>?_) λh=>?_
   . obtain⟨v,hv⟩:=xat (l:=dig x) (k:=k) (by omega)
     have hvb:=ww hv (Xae x)
     obtain⟨w,hw1⟩:=xat (l:=lo) (k:=i+k) (by omega)
     have hwb:=ww hw1 hw
     have huv:u*v<=4294967295*4294967295:=W2b (by omega) (by omega)
     obtain⟨s,hs⟩:∃s,s=cr+w+u*v:=⟨_,rfl⟩
     have hs2:s<18446744073709551616:=by omega
     refine Dw rfl ?_
     refine Ar (i+k:Nat) rfl ?_
     refine Eo (i+k) rfl (by omega) ?_
     refine Ld (wd w) rfl (mp hw1) ?_
     refine Go.Vm.Cv w rfl ?_
     refine Ar (cr+w:Nat) rfl ?_
     refine El i rfl (by omega) ?_
     refine Ld (wd u) rfl (mp (hg hu (by omega))) ?_
     refine Go.Vm.Cv u rfl ?_
     refine El k rfl (by omega) ?_
     refine Ld (wd v) rfl (mp (hg hv (by omega))) ?_
     refine Go.Vm.Cv v rfl ?_
     refine Ar (u*v:Nat) rfl ?_ (wr (W2p ..).symm (by simp only[inK];omega))
     refine Ar (s:Nat) rfl ?_
     refine Ar (i+k:Nat) rfl ?_
     refine Go.Vm.Cv (s%4294967296:Nat) rfl ?_ (by rw[wWm];omega)
     refine Eo (i+k) rfl (by omega) ?_
     refine Sto rfl (by simp only[lw];omega) ms ?_
     refine Ar (s/4294967296:Nat) rfl ?_ (Xi4 (n:=32) (by decide))
     refine Ar (k+1:Nat) rfl ?_
     refine Bk (k+1,lo.set (i+k) (s%4294967296),s/4294967296) [] rfl ⟨by omega,by simp[hl1],Xg9 hw (by omega),by omega,λj hj=>by rw[W1w (by omega)];exact hrest j (by omega),?_⟩ (by show _-(k+1)<_-k;omega)
     have hw0':lo0[i+k]?=some w:=by rw[<-hrest (i+k) (W0a _)];exact hw1
     rw[<-W4r,Xbg (by omega),Xac hw0',Xac hv,W0y,W0w,W1c u,W1c (4294967296^i)]
     have e:4294967296^(i+k)*s=4294967296^(i+k)*(s%4294967296)+4294967296^(i+k)*(4294967296*(s/4294967296)):=by rw[<-W1c];congr 1;omega
     have e2:4294967296^(i+k)*s=4294967296^(i+k)*cr+4294967296^i*(u*(4294967296^k*v))+4294967296^(i+k)*w:=by
      rw[hs,W1c,W1c,W0x]
      have:4294967296^i*4294967296^k*(u*v)=4294967296^i*(u*(4294967296^k*v)):=by
       rw[W0w,W4w (4294967296^k) u v]
      omega
     omega
   . have hkm:k=n:=by omega
     subst hkm
     refine Ar (i+k:Nat) rfl ?_ (wr (by omega) (by simp only[inK];omega))
     refine Go.Vm.Cv cr rfl ?_
     refine Eo (i+k) rfl (by omega) ?_
     refine Sto rfl (by simp only[lw];omega) ms ?_
     refine Ar (i+1:Nat) rfl ?_
     refine Bk (i+1,lo.set (i+k) cr) [] rfl ⟨by omega,by simp[hl1],Xg9 hw hcr,?_,λj h1 h2=>by rw[W1w (by omega),hrest j (by omega)];exact hz0 j (by omega) h2⟩ (by show _-(i+1)<_-i;omega)
     rw[show i+1+k=i+k+1 by omega,Xbg (by omega),Xac hu,hval2,hval,show (dig x).take k=dig x from W0b (by omega),Xag,W1h,W0w]
 . have him:i=n:=by omega
   rw[him,W0b (by omega),W0b (by omega),Xag] at hval
   refine Fz 13 5 (lo0.map wd) rfl (by simp only[lw];omega) (oa hl0) ?_
   refine Ce rfl (Xa5 hw0 (by omega)) ?_
   exact Rw [] [(1000001,.arr 1 (l.map wd))] rfl (.one (.rf rfl) rfl rfl) ⟨rfl,by rw[hval]⟩
end
section
theorem Neg_ok{z:Int}(h:(dig z.natAbs).length<=1099511627776): C0 154 [.d (dz z)] (·=.d (dz (-z))):=by
 refine En Tryz.func154 λ_ _ _=>?_
 refine Ce rfl (Xao h) ?_
 exact R1 rfl (.eq (by rw[Ya2]))
theorem Add_ok{a b:Int}(ha:(dig a.natAbs).length<=549755813888)(hb:(dig b.natAbs).length<=549755813888): C0 218 [.d (dz a),.d (dz b)] (·=.d (dz (a+b))):=by
 refine En Tryz.func218 λ_ _ _=>?_
 refine Dw rfl ?_
 refine Ce rfl (Norm_ok (by omega)) ?_
 refine Ce rfl (Norm_ok (by omega)) ?_
 refine By rfl (λh=>?_) λh=>?_<;>rw[Ymz] at h
 . refine Dw rfl ?_
   refine Ce rfl (Xh9 ha hb) ?_
   refine Ce rfl (Xao (W0k (Xgs ..) (by omega))) ?_
   exact R1 rfl (.eq (by rw[Ya4 h]))
 . refine Ce rfl (Xb2 (by omega)) ?_
   refine By rfl (λh1=>?_) λh1=>?_
   . have hle:=Yms.1 (show ¬Xba (a.natAbs:Int) (b.natAbs:Int)<0 by omega)
     refine Dw rfl ?_
     refine Ce rfl (Xd0 (by omega) hle) ?_
     refine Ce rfl (Xao (W0k (Xar (Nat.sub_le ..)) (by omega))) ?_
     exact R1 rfl (.eq (by rw[Xpw h hle]))
   . have hle:=W2h (Xzv.1 (show Xba (a.natAbs:Int) (b.natAbs:Int)<0 by omega))
     refine Dw rfl ?_
     refine Ce rfl (Xd0 (by omega) hle) ?_
     refine Ce rfl (Xao (W0k (Xar (Nat.sub_le ..)) (by omega))) ?_
     exact R1 rfl (.eq (by rw[Xpw (λe=>h e.symm) hle,Int.add_comm]))
theorem Sub_ok{a b:Int}(ha:(dig a.natAbs).length<=549755813888)(hb:(dig b.natAbs).length<=549755813888): C0 332 [.d (dz a),.d (dz b)] (·=.d (dz (a-b))):=by
 refine En Tryz.func332 λ_ _ _=>?_
 refine Dw rfl ?_
 refine Ce rfl (Neg_ok (by omega)) ?_
 refine Ce rfl (Add_ok ha (by rw[W5d];exact hb)) ?_
 exact R0
theorem Mul_ok{a b:Int}(ha:(dig a.natAbs).length<=549755813888)(hb:(dig b.natAbs).length<=549755813888): C0 220 [.d (dz a),.d (dz b)] (·=.d (dz (a*b))):=by
 refine En Tryz.func220 λ_ _ _=>?_
 refine Dw rfl ?_
 refine Ce rfl (Norm_ok (by omega)) ?_
 refine Ce rfl (Norm_ok (by omega)) ?_
 refine Dw rfl ?_
 refine Ce rfl (Xkh ha hb) ?_
 refine Ce rfl (Xao (W0k (Xk3 ..) (by omega))) ?_
 exact R1 rfl (.eq (by rw[Ycc,Ya3]))
theorem Xwz(a b:Int): Xba (a-b) 0=Xba a b:=by
 unfold Xba;split<;>split<;>(try split)<;>(try split)<;>omega
theorem Cmp_ok{a b:Int}(ha:(dig a.natAbs).length<=549755813888)(hb:(dig b.natAbs).length<=549755813888): C0 351 [.d (dz a),.d (dz b)] (·=.d (.int .i64 (Xba a b))):=by
 have hl:=Xgs a.natAbs b.natAbs
 have hl2:=Xar (show (a-b).natAbs<=a.natAbs+b.natAbs by omega)
 refine En Tryz.func351 λ_ _ _=>?_
 refine Ce rfl (Sub_ok ha hb) ?_
 refine Ce rfl (Sign_ok (by omega)) ?_
 exact R1 rfl (.eq (by rw[Xwz]))
theorem Ymu{x y:Nat}(hx:(dig x).length<=549755813888)(hy:y<4294967296)(hy0:y≠0): C0 327 [.d (ws (dig x)),.d (.int .u32 y)] (·=.tup (.pr (.d (ws (dig (x/y)))) (.d (.int .u32 (x%y:Nat))))):=by
 refine En Tryz.func327 λ_ _ _=>?_
 refine Mk (dig x).length rfl (by simp only[lw];omega) ?_ (by simp only[lw])
 refine Ar ((dig x).length-1:Int) rfl ?_ (wr (by simp only[lw]) (by simp only[inK];omega))
 refine Lo (λ(k,lo,r)=>[(0,.d (ws (dig x))),(1,.d (.int .u32 y)),(6,.own 11 1 0 (dig x).length),(7,.d (.int .u64 (r:Nat))),(8,.d (.int .i64 ((k:Nat)-1:Int)))]) (λ(_,lo,_)=>[(11,.arr 1 (lo.map wd))])
  (λ(k,lo,r)=>k<=(dig x).length/\lo.length=(dig x).length/\Xaq lo/\r<y/\val (lo.drop k)*y+r=val ((dig x).drop k)) (λ(k,_,_)=>k) ((dig x).length,List.replicate (dig x).length 0,0) [] rfl
  ⟨by omega,by simp,Xfr _,by omega,by rw[W1z (by simp),W1z (by omega)];simp[val]⟩ ?_ (by exact⟨rfl,by simp only[W2i];rfl,rfl,rfl,rfl⟩)
 rintro⟨k,lo,r⟩ ⟨hk,hl,hwo,hr,hval⟩
 refine By rfl (λh=>?_) λh=>?_
 . obtain⟨u,hu⟩:=xat (l:=dig x) (k:=k-1) (by omega)
   have hub:=ww hu (Xae x)
   obtain⟨s,hs⟩:∃s,s=r*2^32+u:=⟨_,rfl⟩
   have hs64:s<18446744073709551616:=by omega
   have hsy:s/y<4294967296:=by
    rw[W2s (by omega)]
    have:=W0q 4294967296 (show r+1<=y by omega)
    omega
   have hsm:s%y<y:=W1q _ (by omega)
   have hq0:0<=s/y:=W0z _
   refine Ar (r*2^32:Nat) rfl ?_ (Xh0 (n:=32) rfl (by omega) (by decide))
   refine Ix (k-1) rfl (mp hu) ?_
   refine Go.Vm.Cv u rfl ?_
   refine Ar s rfl ?_ (Ybf (by omega) (by omega) (by rw[Xdk u r 32 (by omega),<-hs]) hs64)
   refine Go.Vm.Cv y rfl ?_
   refine Ar (s/y:Nat) rfl ?_ (show _/\_ from⟨by omega,Ycs s y hs64⟩)
   refine Go.Vm.Cv (s/y:Nat) rfl ?_ (wW ⟨W5b _,W7a.2 hsy⟩)
   refine Eo (k-1) rfl (by omega) ?_
   refine Sto rfl (by simp only[lw];omega) ms ?_
   refine Go.Vm.Cv y rfl ?_
   refine Ar (s%y:Nat) rfl ?_ (show _/\_ from⟨by omega,Xrk s y⟩)
   refine Ar ((k-1:Nat)-1:Int) rfl ?_
   refine Bk (k-1,lo.set (k-1) (s/y),s%y) [] rfl ⟨by omega,by simp[hl],Xg9 hwo hsy,hsm,?_⟩ (by show k-1<k;omega)
   rw[Xbx hu,show k-1+1=k by omega,<-hval,drop_set (by omega),val,show k-1+1=k by omega]
   have e:=W2o s y
   rw[W1i] at e
   rw[W1h,W1c,W0w]
   omega
 . have hk0:k=0:=by omega
   subst hk0
   rw[W1d,W1d,Xag] at hval
   have hq:x/y=val lo:=by rw[<-hval,W1i,Nat.mul_add_div (by omega),W4g hr,W2n]
   have hm:x%y=r:=by rw[<-hval,W1i,Nat.mul_add_mod,W3w hr]
   refine Fz 9 6 (lo.map wd) rfl (by simp only[lw];omega) (oa hl) ?_
   refine Ce rfl (Xa5 hwo (by omega)) ?_
   refine Go.Vm.Cv (x%y:Nat) rfl ?_ (by rw[hm];exact wW (by omega))
   exact RTt rfl (.cons (.eq (by rw[hq])) (.one (.rf rfl) (λ_ _ e=>by cases e) (λ_ _ e=>by cases e)))
theorem Xpu{x:Nat}(hl:(dig x).length<=2): C0 326 [.d (ws (dig x))] (·=.d (.int .u64 x)):=by
 refine En Tryz.func326 λ_ _ _=>?_
 refine Ar ((dig x).length-1:Int) rfl ?_ (wr (by simp only[lw]) (by simp only[inK];omega))
 refine Lo (λk=>[(0,.d (ws (dig x))),(3,.d (.int .u64 (val ((dig x).drop k)))),(4,.d (.int .i64 ((k:Nat)-1:Int)))]) (λ_=>[]) (λk=>k<=(dig x).length) (λk=>k) (dig x).length [] rfl (W0a _) (λk hk=>?_) (by exact⟨by rw[W1z (W0a _)];rfl,rfl,rfl,rfl,rfl⟩)
 refine By rfl (λh=>?_) λh=>?_
 . obtain⟨u,hu⟩:=xat (l:=dig x) (k:=k-1) (by omega)
   have hub:=ww hu (Xae x)
   have hv:val ((dig x).drop k)<4294967296:=by
    have h1:=Xbw ((Xae x).drop k)
    have h2:4294967296^((dig x).drop k).length<=4294967296^1:=W0m (by decide) (by rw[W1l];omega)
    omega
   have hvd:=Xbx hu
   rw[show k-1+1=k by omega] at hvd
   obtain⟨s,hs⟩:∃s,s=val ((dig x).drop k):=⟨_,rfl⟩
   rw[<-hs] at hv hvd
   refine Ar (s*2^32:Nat) rfl ?_ (by rw[<-hs];exact Xh0 (n:=32) rfl (by omega) (by decide))
   refine Ix (k-1) rfl (mp hu) ?_
   refine Go.Vm.Cv u rfl ?_
   refine Ar (val ((dig x).drop (k-1)):Nat) rfl ?_ (Ybf (by omega) (by omega) (by rw[Xdk u s 32 (by omega),hvd];omega) (by omega))
   refine Ar ((k-1:Nat)-1:Int) rfl ?_
   exact Bk (k-1) [] rfl (show k-1<=_ by omega) (by show k-1<k;omega)
 . refine R1 rfl (.eq ?_)
   rw[show k=0 by omega,W1d,Xag]
theorem Ye9{x:Nat}(h:x≠0): bl x=bl (x/2)+1:=by
 by_cases h2:x/2=0
 . have:x=1:=by omega
   subst this
   decide
 . exact Xe1 (n:=x) (k:=1) h2
theorem Xmj{x:Nat}(hx:(dig x).length<=1099511627776)(h0:x≠0): C0 328 [.d (ws (dig x))] λv=>∃t,(dig x)[(dig x).length-1]?=some t/\t≠0/\t<4294967296/\v=.d (.int .i64 (32*((dig x).length-1)+bl t:Nat)):=by
 have hm0:(dig x).length≠0:=λe=>h0 (Yn7.1 e)
 obtain⟨t,ht,ht0⟩:∃t,(dig x)[(dig x).length-1]?=some t/\t≠0:=by
  rcases Xhe x with h1 | h1
  . exact absurd (Xr7.1 h1) h0
  . exact h1
 have htb:=ww ht (Xae x)
 have hbt:bl t<=32:=by
  obtain⟨b1,b2,b3⟩:=Xcl ht0
  have:2^(bl t-1)<2^32:=W1t b1 htb
  have:=(W2v (by decide:1<2)).1 this
  omega
 refine En Tryz.func328 λ_ _ _=>?_
 refine No rfl (by simp only[lw];omega) ?_
 refine Ar ((dig x).length-1:Nat) rfl ?_ (wr (by simp only[lw];omega) (by simp only[inK];omega))
 refine Ix ((dig x).length-1) rfl (mp ht) ?_
 refine Lo (λ(k,i)=>[(0,.d (ws (dig x))),(3,.d (.int .i64 (i:Nat))),(4,.d (.int .u32 (k:Nat)))]) (λ_=>[]) (λ(k,i)=>k<4294967296/\bl k+i=bl t) (λ(k,_)=>k) (t,0) [] rfl ⟨htb,rfl⟩ ?_
 rintro⟨k,i⟩ ⟨hk,hb⟩
 refine By rfl (λh=>?_) λh=>?_
 . have:=Ye9 (x:=k) (by omega)
   refine Ar (i+1:Nat) rfl ?_
   refine Ar (k/2:Nat) rfl ?_ (show _/\_ from⟨by decide,by rw[show Int.tdiv (k:Int) 2=((k/2:Nat):Int) from rfl];exact wW (by omega)⟩)
   exact Bk (k/2,i+1) [] rfl ⟨by omega,by omega⟩ (by show k/2<k;omega)
 . have hk0:k=0:=by omega
   subst hk0
   rw[show bl 0=0 from rfl] at hb
   refine Ar ((dig x).length-1:Nat) rfl ?_ (wr (by simp only[lw];omega) (by simp only[inK];omega))
   refine Ar (32*((dig x).length-1):Nat) rfl ?_
   refine Ar (32*((dig x).length-1)+bl t:Nat) rfl ?_
   exact Rt rfl (.one (.rf rfl) rfl rfl) ⟨t,ht,ht0,htb,rfl⟩
theorem Xes{n x:Nat}(hx:(dig x).length<=549755813888)(hn32:n<32): CO0 329 [.d (ws (dig x)),.d (.int .i64 n)] λv ob=>∃l,l.length=(dig x).length+1/\Xaq l/\val l=x*2^n/\v=.own 1000000 1 0 l.length/\ob=.arr 1 (l.map wd):=by
 have hp:=W0r n
 have hp32:2^n<=2147483648:=by have:2^n<=2^31:=W0m (by decide) (by omega);omega
 refine EnW Tryz.func329 λ_ _ _ _=>?_
 refine Ar ((dig x).length+1:Nat) rfl ?_ (wr (by simp only[lw];omega) (by simp only[inK];omega))
 refine Mk ((dig x).length+1) rfl (by omega) ?_
 refine Lo (λ(i,lo)=>[(0,.d (ws (dig x))),(1,.d (.int .i64 n)),(5,.own 11 1 0 ((dig x).length+1)),(6,.d (.int .i64 (i:Nat)))]) (λ(_,lo)=>[(11,.arr 1 (lo.map wd))])
  (λ(i,lo)=>i<=(dig x).length/\lo.length=(dig x).length+1/\Xaq lo/\val (lo.take (i+1))=val ((dig x).take i)*2^n/\∃w,lo[i]?=some w/\w<2^n) (λ(i,_)=>(dig x).length-i) (0,List.replicate ((dig x).length+1) 0) [] rfl
  ⟨by omega,by simp,Xfr _,by rw[W5k,Xbv];simp[val],0,by simp,hp⟩ ?_ (by exact⟨rfl,by simp only[W2i];rfl,rfl,rfl,rfl⟩)
 rintro⟨i,lo⟩ ⟨hi,hl,hwo,hval,w,hw,hwn⟩
 refine By rfl (λh=>?_) λh=>?_<;>simp only[lw] at h
 . obtain⟨u,hu⟩:=xat (l:=dig x) (k:=i) (by omega)
   have hub:=ww hu (Xae x)
   have hs1:=Yaz hub hn32
   have hs2:=Xdz u n (by omega)
   obtain⟨s,hs⟩:∃s,s=u*2^n:=⟨_,rfl⟩
   have hshl:=Xh0 hs.symm (by omega) (by omega:n<=64)
   rw[<-hs] at hs1 hs2
   have hor:w|||s%4294967296=s%4294967296+w:=by rw[Nat.or_comm,hs2];exact Xdk _ _ _ hwn
   have hlt:s%4294967296+w<4294967296:=by
    rw[hs2]
    have h1:u%2^(32-n)+1<=2^(32-n):=W1q _ (W0r _)
    have h2:=W0q (2^n) h1
    rw[<-W0x,show 32-n+n=32 by omega,W2t] at h2
    omega
   refine Ix i rfl (mp hu) ?_
   refine Go.Vm.Cv u rfl ?_
   refine Ar s rfl ?_ hshl
   refine Eo i rfl (by omega) ?_
   refine Ld (wd w) rfl (mp hw) ?_
   refine Go.Vm.Cv (s%4294967296:Nat) rfl ?_ (by rw[wWm];omega)
   refine Ar (s%4294967296+w:Nat) rfl ?_ (Ykm (by omega) (by omega) hor hlt)
   refine Eo i rfl (by omega) ?_
   refine Sto rfl (by simp only[lw];omega) ms ?_
   refine Ar (i+1:Nat) rfl ?_
   refine Ar (s/4294967296:Nat) rfl ?_ (Xi4 (n:=32) (by decide))
   refine Go.Vm.Cv (s/4294967296:Nat) rfl ?_
   refine Eo (i+1) rfl (by omega) ?_
   refine Sto rfl (by simp only[W0i,W3f];omega) ms ?_
   refine Ar (i+1:Nat) rfl ?_
   refine Bk (i+1,(lo.set i (s%4294967296+w)).set (i+1) (s/4294967296)) [] rfl ⟨by omega,by simp[hl],Xg9 (Xg9 hwo hlt) (by omega),?_,s/4294967296,by rw[W2w (by rw[W3f];omega)],?_⟩ (by show _-(i+1)<_-i;omega)
   . rw[Xbg (by rw[W3f];omega),Xbg (by omega),Xac hu,W1h,<-hval,Xac hw,W0w,<-hs,W0y,W1c,W0w]
     have e:4294967296^i*s=4294967296^i*(s%4294967296)+4294967296^i*(4294967296*(s/4294967296)):=by rw[<-W1c];congr 1;omega
     omega
   . rw[W2s (by decide),hs,W1i]
     exact Nat.mul_lt_mul_of_pos_left hub hp
 . have him:i=(dig x).length:=by omega
   rw[him,W0b (by omega),W0b (by omega),Xag] at hval
   exact Rw [(11,1000000)] [(1000000,.arr 1 (lo.map wd))] rfl (.one (.rf rfl) rfl rfl) ⟨_,rfl,lo,hl,hwo,hval,by rw[hl];rfl,rfl⟩
theorem Xl2{n x:Nat}(hx:(dig x).length<=549755813888)(hn32:n<32): C0 329 [.d (ws (dig x)),.d (.int .i64 n)] λv=>∃l,l.length=(dig x).length+1/\Xaq l/\val l=x*2^n/\v=.d (ws l) :=
 CW.data (Xes hx hn32) rfl λv H' ⟨ob,e,l,h1,h2,h3,h4,h5⟩=>⟨.d (ws l),by rw[h4,e,h5];exact .one (.own rfl (by simp) (oa rfl)) rfl rfl,l,h1,h2,h3,rfl⟩
theorem Xsc{u v n:Nat}(hu:u<4294967296)(hn:n<32): (u+v*4294967296)/2^n%4294967296=u/2^n+(v%2^n)*2^(32-n):=by
 have e:v*4294967296=v*2^(32-n)*2^n:=by
  rw[W0w,<-W0x,show 32-n+n=32 by omega]
 rw[e,Nat.add_mul_div_right _ _ (W0r n)]
 have h1:=Xdz v (32-n) (by omega)
 rw[show 32-(32-n)=n by omega] at h1
 have h2:=(Xl1 (v:=v) hu hn).2
 rw[<-h1] at h2 |-
 generalize v*2^(32-n)=X at *
 generalize u/2^n=A at *
 omega
theorem Yfc{n x:Nat}(hx:(dig x).length<=1099511627776)(hn32:n<32): C0 331 [.d (ws (dig x)),.d (.int .i64 n)] (·=.d (ws (dig (x/2^n)))):=by
 have hp:=W0r n
 have hp32:2^n<=2147483648:=by have:2^n<=2^31:=W0m (by decide) (by omega);omega
 obtain⟨m,hm⟩:∃m,(dig x).length=m:=⟨_,rfl⟩
 rw[hm] at hx
 have hvx:=Xag x
 refine En Tryz.func331 λ_ _ _=>?_
 refine Mk m rfl (by simp only[lw];omega) ?_ (by simp only[lw,hm])
 refine Lo (λ(i,lo)=>[(0,.d (ws (dig x))),(1,.d (.int .i64 n)),(5,.own 10 1 0 m),(6,.d (.int .i64 (i:Nat)))]) (λ(_,lo)=>[(10,.arr 1 (lo.map wd))])
  (λ(i,lo)=>i<=m/\lo.length=m/\Xaq lo/\val (lo.take i)*2^n+x%2^n=val ((dig x).take i)+4294967296^i*((dig x).getD i 0%2^n)) (λ(i,_)=>m-i) (0,List.replicate m 0) [] rfl
  ⟨by omega,by simp,Xfr _,by have:=Xhr (dig x) n (by omega);rw[hvx] at this;simp[val,this]⟩ ?_ (by exact⟨rfl,by simp only[W2i];rfl,rfl,rfl,rfl⟩)
 rintro⟨i,lo⟩ ⟨hi,hl,hwo,hval⟩
 refine By rfl (λh=>?_) λh=>?_<;>simp only[lw] at h
 . obtain⟨u,hu⟩:=xat (l:=dig x) (k:=i) (by omega)
   have hub:=ww hu (Xae x)
   have hgu:(dig x).getD i 0=u:=by rw[W2l,hu];rfl
   rw[hgu] at hval
   refine Ix i rfl (mp hu) ?_
   refine Go.Vm.Cv u rfl ?_
   refine Ar (i+1:Nat) rfl ?_
   refine Cu none (λs:Nat=>[(0,.d (ws (dig x))),(1,.d (.int .i64 n)),(5,.own 10 1 0 m),(6,.d (.int .i64 i)),(7,.d (.int .u64 s))]) (λ_=>[(10,.arr 1 (lo.map wd))])
    (λs=>∃v,(dig x).getD (i+1) 0=v/\v<4294967296/\s=u+v*4294967296) rfl ?_ λs ⟨v,hv,hvb,hs⟩=>?_
   . refine By rfl (λh2=>?_) λh2=>?_<;>simp only[lw] at h2
     . obtain⟨v,hv⟩:=xat (l:=dig x) (k:=i+1) (by omega)
       have hvb:=ww hv (Xae x)
       refine Ar (i+1:Nat) rfl ?_
       refine Ix (i+1) rfl (mp hv) ?_
       refine Go.Vm.Cv v rfl ?_
       refine Ar (v*2^32:Nat) rfl ?_ (Xh0 (n:=32) rfl (by omega) (by decide))
       refine Ar (u+v*4294967296:Nat) rfl ?_ (Ybf (by omega) (by omega) (by rw[Nat.or_comm,Xdk u v 32 (by omega)];omega) (by omega))
       exact Jn (u+v*4294967296) [] rfl ⟨v,by rw[W2l,hv];rfl,hvb,rfl⟩
     . exact Jn u [] rfl ⟨0,by rw[W2l,W1x (by omega)];rfl,by decide,by omega⟩
   have hbd:=Xsc (v:=v) hub hn32
   rw[<-hs] at hbd
   refine Ar (s/2^n:Nat) rfl ?_ (Xi4 (show n<=64 by omega))
   refine Go.Vm.Cv (s/2^n%4294967296:Nat) rfl ?_ (by rw[wWm];omega)
   refine Eo i rfl (by omega) ?_
   refine Sto rfl (by simp only[lw];omega) ms ?_
   refine Ar (i+1:Nat) rfl ?_
   refine Bk (i+1,lo.set i (s/2^n%4294967296)) [] rfl ⟨by omega,by simp[hl],Xg9 hwo (by omega),?_⟩ (by show m-(i+1)<m-i;omega)
   rw[Xbg (by omega),Xac hu,hv,hbd]
   exact Xpt hn32 hval
 . have him:i=m:=by omega
   rw[him,W0b (by omega),W0b (by omega),W2l,W1x (by omega),hvx] at hval
   have hfin:val lo=x/2^n:=by
    simp at hval
    have:=W2o x (2^n)
    rw[W1i] at this
    exact Nat.eq_of_mul_eq_mul_right hp (by omega)
   refine Fz 9 5 (lo.map wd) rfl (by simp only[lw];omega) (oa hl) ?_
   refine Ce rfl (Xa5 hwo (by omega)) ?_
   exact R1 rfl (.eq (by rw[hfin]))
end
section
theorem Xwn{q N y V:Nat}{l:List Nat}(hw:Xaq l)(hq:q+N<=l.length)(hN:N=(dig y).length+1)(hy0:y≠0)(hn40:N<=1099511627776)(hV:val ((l.drop q).take N)=V)(hlt:V<4294967296*y)(hy:(dig y).length<=549755813888):
 CN0 330 [.own 1000001 1 q N,.d (ws (dig y))] [(1000001,.arr 1 (l.map wd))] (·=.tup (.pr (.d (.int .u32 (V/y:Nat))) (.d (ws (dig (y*(V/y))))))):=by
 obtain⟨n,hn⟩:∃n,n=(dig y).length:=⟨_,rfl⟩
 rw[<-hn] at hN hy
 have hn0:n≠0:=λe=>hy0 (Yn7.1 (by omega))
 obtain⟨t,ht,ht0⟩:∃t,(dig y)[n-1]?=some t/\t≠0:=by
  rcases Xhe y with h1 | h1
  . exact absurd (Xr7.1 h1) hy0
  . rw[<-hn] at h1;exact h1
 have htb:=ww ht (Xae y)
 obtain⟨u0,hu0⟩:=xat (l:=l) (k:=q+n) (by omega)
 obtain⟨u1,hu1⟩:=xat (l:=l) (k:=q+(n-1)) (by omega)
 have hub0:=ww hu0 hw
 have hub1:=ww hu1 hw
 have hqB:V/y<4294967296:=by rw[W2s (W2m hy0)];exact hlt
 have hq00:=W0z (V/y)
 obtain⟨top,htop⟩:∃top,top=u0*2^32+u1:=⟨_,rfl⟩
 have htopb:top<18446744073709551616:=by omega
 have hest:V/y<=top/t:=by
  have e1:=Xb5 hu1
  rw[show n-1+1=n by omega] at e1
  have e2:=Xb5 hu0
  rw[<-hN,hV,e1] at e2
  have e3:=Xac ht
  rw[show n-1+1=(dig y).length by omega,W2j,Xag] at e3
  have hlow:=Xbw ((hw.drop q).take (n-1))
  rw[Xxr (by omega)] at hlow
  have hM:4294967296^n=4294967296^(n-1)*4294967296:=by rw[<-W0y];congr 1;omega
  rw[hM] at e2
  generalize 4294967296^(n-1)=M at *
  generalize val ((l.drop q).take (n-1))=low at *
  generalize val ((dig y).take (n-1))=vlow at *
  have h1:V<M*(top+1):=by
   have:M*(u0*2^32+u1+1)=M*u1+M*4294967296*u0+M:=by grind
   rw[htop];omega
  have h2:M*t<=y:=by omega
  have hM0:0<M:=by omega
  have h3:V/y<=V/(M*t):=Nat.div_le_div_left h2 (W1m hM0 (W2m ht0))
  refine W0k h3 ?_
  rw[<-W6g]
  refine Nat.div_le_div_right ?_
  have:=(W2s hM0).2 (by rw[W1i];exact h1)
  omega
 refine EnW Tryz.func330 λ_ _ _ _=>?_
 refine Dw rfl ?_
 refine El n rfl (by omega) ?_ (by simp only[lw];omega)
 refine Ld (wd u0) rfl (mp hu0) ?_
 refine Go.Vm.Cv u0 rfl ?_
 refine Ar (u0*2^32:Nat) rfl ?_ (Xh0 (n:=32) rfl (by omega) (by decide))
 refine Ar (n-1:Nat) rfl ?_ (wr (by simp only[lw];omega) (by simp only[inK];omega))
 refine El (n-1) rfl (by omega) ?_
 refine Ld (wd u1) rfl (mp hu1) ?_
 refine Go.Vm.Cv u1 rfl ?_
 refine Ar top rfl ?_ (Ybf (by omega) (by omega) (by rw[Xdk u1 u0 32 (by omega),htop]) htopb)
 refine Ar (n-1:Nat) rfl ?_ (wr (by simp only[lw];omega) (by simp only[inK];omega))
 refine Ix (n-1) rfl (mp ht) ?_
 refine Go.Vm.Cv t rfl ?_
 have htt0:=W0z (top/t)
 have htt1:=W3m top t
 refine Ar (top/t:Nat) rfl ?_ (show _/\_ from⟨by omega,Ycs top t htopb⟩)
 refine Cu none (λg:Nat=>[(0,.own 1000001 1 q N),(1,.d (ws (dig y))),(7,.d (.int .u64 g))]) (λ_=>[(1000001,.arr 1 (l.map wd))]) (λg=>V/y<=g/\g<4294967296) rfl ?_ λg0 ⟨hg0,hgB⟩=>?_
 . refine By rfl (λh=>?_) λh=>?_
   . exact Jn 4294967295 [] rfl ⟨by omega,by decide⟩
   . exact Jn (top/t) [] rfl ⟨hest,by omega⟩
 refine Go.Vm.Cv g0 rfl ?_
 refine Ce (r:=.d (ws (dig (y*g0)))) rfl (by have:=Xs7 (Xae y) (Y:=[g0]) (.cons hgB .nil) (by omega) (by simp);rwa[Xag,show val [g0]=g0 by simp[val]] at this) ?_
 refine Lo (λg:Nat=>[(0,.own 1000001 1 q N),(1,.d (ws (dig y))),(7,.d (.int .u64 g)),(8,.d (ws (dig (y*g))))]) (λ_=>[(1000001,.arr 1 (l.map wd))]) (λg=>V/y<=g/\g<4294967296) (λg=>g) g0 [] rfl ⟨hg0,hgB⟩ λg ⟨hg,hgB⟩=>?_
 refine Cn [] rfl (Xhd hw hq hn40) λv hv=>?_
 obtain⟨k,hk,rfl,hkl⟩:=hv
 rw[hV] at hkl
 refine Cn [] rfl (Xov (by omega) hkl (by rw[<-hkl,Xxr (by omega)];omega)) λv hv=>?_
 obtain rfl:v=_:=hv
 refine By rfl (λh=>?_) λh=>?_
 . have hlt2:V<y*g:=Xzv.1 h
   have hg1:V/y<g:=by rw[W2s (W2m hy0),W1i];exact hlt2
   have hyg:y*g-y=y*(g-1):=by rw[Nat.mul_sub_one]
   have hle:y<=y*g:=W4c _ (by omega)
   have hlen:(dig (y*g)).length<=1099511627776:=by
    have h1:=Xk3 y g
    have h2:(dig g).length<=1:=Xas (by omega)
    omega
   refine Ar (g-1:Nat) rfl ?_
   refine Ce rfl (Xd0 hlen hle) ?_
   exact Bk (g-1) [] rfl ⟨by omega,by omega⟩ (by show g-1<g;omega) (by exact⟨by rw[hyg];rfl,rfl,rfl,rfl,rfl⟩)
 . have hge2:y*g<=V:=W4d λhlt=>h (Xzv.2 hlt)
   have hg2:g=V/y:=Nat.le_antisymm ((W7j (W2m hy0)).2 (by rw[W1i];exact hge2)) hg
   refine Go.Vm.Cv g rfl ?_
   exact Rw [] [(1000001,.arr 1 (l.map wd))] rfl (.tup (.cons (.rf rfl) (.one (.rf rfl) (λ_ _ e=>by cases e) (λ_ _ e=>by cases e)))) ⟨rfl,by rw[hg2];rfl⟩
theorem Xc3{x y:Nat}(hx:(dig x).length<=549755813888)(hy:(dig y).length<=549755813888)(hy0:y≠0): C0 279 [.d (ws (dig x)),.d (ws (dig y))] (·=.tup (.pr (.d (ws (dig (x/y)))) (.d (ws (dig (x%y)))))):=by
 refine En Tryz.func279 λ_ _ _=>?_
 refine Ce rfl (Xb2 (by omega)) ?_
 refine By rfl (λh=>?_) λh=>?_
 . have hlt:x<y:=Xzv.1 h
   exact RTt rfl (.cons (.nil (by rw[W4g hlt,Xan];rfl)) (.one (.eq (by rw[W3w hlt])) (λ_ _ e=>by cases e) (λ_ _ e=>by cases e)))
 have hge:y<=x:=W4d λhlt=>h (Xzv.2 hlt)
 have hlenle:=Xar hge
 refine By rfl (λh2=>?_) λh2=>?_<;>simp only[lw] at h2
 . have hx64:x<18446744073709551616:=by
    have:=Xdp x
    have h1:4294967296^(dig x).length<=4294967296^2:=W0m (by decide) (by omega)
    omega
   refine Ce rfl (Xpu (by omega)) ?_
   refine Ce rfl (Xpu (by omega)) ?_
   have hq64:x/y<18446744073709551616:=W1t (W3m ..) hx64
   have hr64:x%y<18446744073709551616:=W1t (Nat.mod_le ..) hx64
   refine Dw rfl ?_
   refine Ar (x/y:Nat) rfl ?_ (show _/\_ from⟨by omega,Ycs x y hx64⟩)
   refine Ce rfl (Xfs hq64) ?_
   refine Ar (x%y:Nat) rfl ?_ (show _/\_ from⟨by omega,Xrk x y⟩)
   refine Ce rfl (Xfs hr64) ?_
   exact R0t
 refine By rfl (λh3=>?_) λh3=>?_<;>simp only[lw] at h3
 . obtain⟨t,ht⟩:=xat (l:=dig y) (k:=0) (by omega)
   have htb:=ww ht (Xae y)
   have hyt:y=t:=by
    have:=Xac ht
    rw[W0b (by omega),Xag] at this
    simpa [val] using this
   have hrt:x%t<t:=W1q _ (by omega)
   have hr0:=W0z (x%t)
   refine Ix 0 rfl (mp ht) ?_
   refine Ce rfl (Ymu (y:=t) hx htb (by omega)) ?_
   refine Go.Vm.Cv (x%t:Nat) rfl ?_
   refine Ce rfl (Xfs (n:=x%t) (by omega)) ?_
   exact RTt rfl (.cons (.eq (by rw[hyt])) (.one (.eq (by rw[hyt])) (λ_ _ e=>by cases e) (λ_ _ e=>by cases e)))
 have hy1:1<=(dig y).length:=by
  have:(dig y).length≠0:=λh=>hy0 (Yn7.1 h)
  omega
 refine Ar (32*(dig y).length:Nat) rfl ?_ (wr (by simp only[lw];omega) (by simp only[inK];omega))
 refine Ca rfl (Xmj (by omega) hy0) λv hv=>?_
 obtain⟨t,ht,ht0,htb,rfl⟩:=hv
 obtain⟨bb1,bb2,bb3⟩:=Xcl ht0
 have hb32:bl t<=32:=by
  have:2^(bl t-1)<2^32:=W1t bb1 htb
  have:=(W2v (by decide:1<2)).1 this
  omega
 obtain⟨s,hs⟩:∃s,s=32-bl t:=⟨_,rfl⟩
 have hs32:s<32:=by omega
 have hs1:2147483648<=t*2^s:=by
  have h1:=W0q (2^(32-bl t)) bb1
  rw[<-W0x,show bl t-1+(32-bl t)=31 by omega] at h1
  rw[hs];exact h1
 have hs2:t*2^s<4294967296:=by
  have h1:=W3c bb2 (W0r (32-bl t))
  rw[<-W0x,show bl t+(32-bl t)=32 by omega] at h1
  rw[hs];exact h1
 refine Ar s rfl ?_
 obtain⟨hlen,t',ht',htt⟩:=Xqj hy0 ht hs1 hs2
 refine Co rfl (Xes hx hs32) λv ob hv=>?_
 obtain⟨lu0,hul,huw,huv,rfl,rfl⟩:=hv
 refine Ca rfl (Xl2 hy hs32) λv hv=>?_
 obtain⟨lv,hvl,hvw,hvv,rfl⟩:=hv
 obtain⟨Y,hY⟩:∃Y,Y=y*2^s:=⟨_,rfl⟩
 rw[<-hY] at hlen hvv
 refine Ce (r:=.d (ws (dig Y))) rfl (by have:=Xa5 hvw (by omega);rwa[hvv] at this) ?_
 obtain⟨mv,hmv⟩:∃mv,mv=(dig Y).length:=⟨_,rfl⟩
 obtain⟨m,hm⟩:∃m,m=(dig x).length:=⟨_,rfl⟩
 refine Mk m rfl (by simp only[lw];omega) ?_ (by simp only[lw,hm])
 refine Ar ((lu0.length-mv:Nat)-1:Int) rfl ?_ (wr (by simp only[lw];omega) (by simp only[inK];omega))
 have hY0:Y≠0:=by rw[hY];exact Nat.mul_ne_zero hy0 (W7q.1 (W0r s))
 have hYl:=Xdp Y
 have hR0:val (lu0.drop (lu0.length-mv))<Y:=by
  have h1:=Xbo lu0 (lu0.length-mv) (by omega)
  rw[huv] at h1
  have h2:=Xq4 hy0
  have h3:=Xdp x
  have hp:=W0r s
  apply W1b
  intro hn2
  have h4:4294967296^(lu0.length-mv)*Y<=x*2^s:=by
   rw[h1]
   have:=W0t (4294967296^(lu0.length-mv)) (W4d hn2)
   omega
  rw[hY,<-W0w] at h4
  have h5:=Nat.le_of_mul_le_mul_right h4 hp
  have h6:=W0t (4294967296^(lu0.length-mv)) h2
  rw[<-W0x,show lu0.length-mv+((dig y).length-1)=(dig x).length by omega] at h6
  omega
 refine Lo (λ(k,lu,lq)=>[(10,.d (.int .i64 s)),(11,.own 63 1 0 lu0.length),(12,.d (ws (dig Y))),(13,.own 70 1 0 m),(14,.d (.int .i64 ((k:Nat)-1:Int)))]) (λ(_,lu,lq)=>[(63,.arr 1 (lu.map wd)),(70,.arr 1 (lq.map wd))])
  (λ(k,lu,lq)=>k<=lu0.length-mv/\lu.length=lu0.length/\Xaq lu/\lq.length=m/\Xaq lq/\(∀j,j<k->lu[j]?=lu0[j]?)/\val (lu.drop k)<Y/\val (lq.drop k)*Y+val (lu.drop k)=val (lu0.drop k)) (λ(k,_,_)=>k) (lu0.length-mv,lu0,List.replicate m 0) [] rfl
  ⟨by omega,rfl,huw,by simp,Xfr _,λ_ _=>rfl,hR0,by rw[List.drop_replicate,Xbv];simp⟩ ?_ (by exact⟨rfl,by simp only[W2i];rfl,rfl,rfl,rfl⟩)
 rintro⟨k,lu,lq⟩ ⟨hk,hln,hwu,hlq,hwq,hsame,hRlt,hQR⟩
 refine By rfl (λh=>?_) λh=>?_
 . obtain⟨hwin,hUlt⟩:=Yam (n:=mv) (i:=k-1) (Y:=Y) hwu (by omega) (by rw[show k-1+1=k by omega];exact hRlt) (by rw[hmv];exact W2h hYl)
   obtain⟨U,hU⟩:∃U,U=val (lu.drop (k-1)):=⟨_,rfl⟩
   rw[<-hU] at hwin hUlt
   have hqB:U/Y<4294967296:=by rw[W2s (W2m hY0)];exact hUlt
   have hqz0:0<=U/Y:=W0z _
   have hUlt2:U%Y<Y:=W1q _ (W2m hY0)
   have eN:k-1+mv+1-(k-1)=mv+1:=by omega
   refine Ar (k-1+mv:Nat) rfl ?_ (wr (by simp only[lw];omega) (by simp only[inK];omega))
   refine Ar (k-1+mv+1:Nat) rfl ?_
   refine Sw (k-1) (k-1+mv+1) rfl (by omega) (by omega) ?_
   have hwin2:val ((lu.drop (0+(k-1))).take (k-1+mv+1-(k-1)))=U:=by rw[W1k,eN];exact hwin.symm
   refine Cn [(1000001,63)] rfl (Xwn (l:=lu) (q:=0+(k-1)) (N:=k-1+mv+1-(k-1)) (V:=U) hwu (by omega) (by omega) hY0 (by omega) hwin2 hUlt (by omega)) λv hv=>?_
   obtain rfl:v=_:=hv
   refine Eo (k-1) rfl (by omega) ?_
   refine Sto rfl (by simp only[lw];omega) ms ?_
   refine Cn [(1000001,63)] rfl (Xhd (l:=lu) (q:=0+(k-1)) (n:=k-1+mv+1-(k-1)) hwu (by omega) (by omega)) λv hv=>?_
   obtain⟨k2,hk2,rfl,hkl⟩:=hv
   rw[hwin2] at hkl
   have hUY:Y*(U/Y)<=U:=Nat.mul_div_le U Y
   have hUmod:U-Y*(U/Y)=U%Y:=by have:=W2o U Y;omega
   refine Cn [(1000001,63)] rfl (Xuv (l:=lu) (q:=0+(k-1)) (m:=k2) (by omega) hkl (by rw[<-hkl,Xxr (by omega)];omega) hUY) λv hv=>?_
   rw[hUmod] at hv
   obtain rfl:v=_:=hv
   have hdlen:=Xar (W2h hUlt2)
   refine Lo (λ(i,lo)=>[(10,.d (.int .i64 s)),(11,.own 63 1 0 lu0.length),(12,.d (ws (dig Y))),(13,.own 70 1 0 m),(14,.d (.int .i64 ((k:Nat)-1:Int))),(15,.own 63 1 (0+(k-1)) (k-1+mv+1-(k-1))),(18,.d (ws (dig (U%Y)))),(19,.d (.int .i64 (i:Nat)))]) (λ(_,lo)=>[(63,.arr 1 (lo.map wd)),(70,.arr 1 ((lq.set (k-1) (U/Y)).map wd))])
    (λ(i,lo)=>i<=mv+1/\lo.length=lu0.length/\Xaq lo/\(∀j,(j<k-1\/k-1+i<=j)->lo[j]?=lu[j]?)/\val ((lo.drop (k-1)).take i)=val ((dig (U%Y)).take i)) (λ(i,_)=>mv+1-i) (0,lu) [] rfl
    ⟨by omega,hln,hwu,λ_ _=>rfl,rfl⟩ ?_
   rintro⟨i,lo⟩ ⟨hi,hlo,hwo,hsame2,hval2⟩
   refine By rfl (λh1=>?_) λh1=>?_
   . refine El i rfl (by omega) ?_
     refine Sto rfl (by simp only[lw];omega) (ms (f:=wd) (u:=0)) ?_
     have eJ:0+(k-1)+i=k-1+i:=by omega
     refine Cu none (λg:Nat=>[(10,.d (.int .i64 s)),(11,.own 63 1 0 lu0.length),(12,.d (ws (dig Y))),(13,.own 70 1 0 m),(14,.d (.int .i64 ((k:Nat)-1:Int))),(15,.own 63 1 (0+(k-1)) (k-1+mv+1-(k-1))),(18,.d (ws (dig (U%Y)))),(19,.d (.int .i64 i))]) (λg=>[(63,.arr 1 ((lo.set (k-1+i) g).map wd)),(70,.arr 1 ((lq.set (k-1) (U/Y)).map wd))])
      (λg=>g<4294967296/\val ((dig (U%Y)).take (i+1))=val ((dig (U%Y)).take i)+4294967296^i*g) rfl ?_ λg ⟨hgb,hg⟩=>?_
     . refine By rfl (λh2=>?_) λh2=>?_<;>simp only[lw] at h2
       . obtain⟨w,hw⟩:=xat (l:=dig (U%Y)) (k:=i) (by omega)
         have hwb:=ww hw (Xae (U%Y))
         refine Ix i rfl (mp hw) ?_
         refine El i rfl (by omega) ?_
         refine Sto rfl (by simp only[lw,W3f];omega) ms ?_
         exact Jn w [] rfl ⟨hwb,Xac hw⟩ (by exact⟨rfl,by rw[List.set_set,eJ];rfl,rfl,rfl,rfl⟩)
       . exact Jn 0 [] rfl ⟨by decide,by rw[Xgo (by omega)];rfl⟩ (by exact⟨rfl,by rw[eJ];rfl,rfl,rfl,rfl⟩)
     refine Ar (i+1:Nat) rfl ?_
     exact Bk (i+1,lo.set (k-1+i) g) [] rfl ⟨by omega,by simp[hlo],Xg9 hwo hgb,λj hj=>by rw[W1w (by omega)];exact hsame2 j (by omega),by rw[Xfu (by omega),hval2,hg]⟩ (by show mv+1-(i+1)<mv+1-i;omega)
   . have hik:i=mv+1:=by omega
     subst hik
     rw[W0b (l:=dig (U%Y)) (by omega),Xag] at hval2
     have hab:val (lo.drop (k-1))=U%Y:=by
      have g1:=Xbo (lo.drop (k-1)) (mv+1) (by rw[W1l];omega)
      have g2:=Xbo (lu.drop (k-1)) (mv+1) (by rw[W1l];omega)
      have g3:(lo.drop (k-1)).drop (mv+1)=(lu.drop (k-1)).drop (mv+1):=by
       rw[W5x,W5x]
       exact Xey λj hj=>hsame2 j (.inr hj)
      rw[<-hU,<-hwin] at g2
      rw[g1,hval2,g3]
      omega
     obtain⟨w,hw⟩:=xat (l:=lu) (k:=k-1) (by omega)
     have hw2:lu0[k-1]?=some w:=by rw[<-hsame (k-1) (by omega)];exact hw
     have hfin:val ((lq.set (k-1) (U/Y)).drop (k-1))*Y+val (lo.drop (k-1))=val (lu0.drop (k-1)):=by
      have g1:=Xbx hw
      have g2:=Xbx hw2
      have g3:=Xbx (l:=lq.set (k-1) (U/Y)) (k:=k-1) (W2w (by omega))
      have g4:(lq.set (k-1) (U/Y)).drop (k-1+1)=lq.drop (k-1+1):=Xey λj hj=>W1w (by omega)
      rw[show k-1+1=k by omega] at g1 g2 g3 g4
      rw[hab,g2,g3,g4,<-hQR,W1h,W0w,W1c]
      have g5:=W2o U Y
      rw[W1i] at g5
      rw[<-hU] at g1
      omega
     refine Ar ((k-1:Nat)-1:Int) rfl ?_
     exact Bk (k-1,lo,lq.set (k-1) (U/Y)) [] rfl ⟨by omega,hlo,hwo,by simp[hlq],Xg9 hwq hqB,λj hj=>(hsame2 j (.inl hj)).trans (hsame j (by omega)),by rw[hab];exact hUlt2,hfin⟩ (by show k-1<k;omega)
 . have hk0:k=0:=by omega
   subst hk0
   rw[W1d] at hRlt hQR
   rw[W1d,W1d,huv] at hQR
   obtain⟨hQ,hR⟩:=Xwl hY.symm hQR hRlt
   refine Fz 25 13 (lq.map wd) rfl (by simp only[lw];omega) (oa hlq) ?_
   refine Fz 25 11 (lu.map wd) rfl (by simp only[lw];omega) (oa hln) ?_
   refine Ce rfl (Xa5 hwq (by omega)) ?_
   refine Ce rfl (Xa5 hwu (by omega)) ?_
   refine Ce rfl (Yfc (by have:=Xar (W2h hRlt);omega) hs32) ?_
   exact RTt rfl (.cons (.eq (by rw[hQ])) (.one (.eq (by rw[hR,Nat.mul_div_cancel _ (W0r s)])) (λ_ _ e=>by cases e) (λ_ _ e=>by cases e)))
end
section
theorem GCD_ok{a b:Int}(ha:(dig a.natAbs).length<=549755813888)(hb:(dig b.natAbs).length<=549755813888): C0 219 [.d (dz a),.d (dz b)] (·=.d (dz (Int.gcd a b))):=by
 refine En Tryz.func219 λ_ _ _=>?_
 refine Dw rfl ?_
 refine Ce rfl (trim_dig_ok (by omega)) ?_
 refine Ce rfl (trim_dig_ok (by omega)) ?_
 refine Lo (λ((x,y):Nat×Nat)=>[(4,.ptr 4 0),(5,.d (ws (dig x))),(6,.d (ws (dig y)))]) (λ_=>[(4,.var (.st (.pr (.b false) .nil)))]) (λ(x,y)=>Nat.gcd x y=Int.gcd a b/\(dig x).length<=549755813888/\(dig y).length<=549755813888) (λ(_,y)=>y) (a.natAbs,b.natAbs) [] rfl ⟨rfl,ha,hb⟩ λ⟨x,y⟩ ⟨hg,hx,hy⟩=>?_
 refine By rfl (λh1=>?_) λh1=>?_<;>simp only[lw] at h1
 . have h0:y≠0:=λe=>by have:=Yn7.2 e;omega
   have hlt:=W1q x (W2m h0)
   refine Ce rfl (Xc3 hx hy h0) ?_
   exact Bk (y,x%y) [] rfl ⟨by rw[<-hg,W7b y,<-Nat.gcd_rec,W7b],hy,W0k (Xar (W2h hlt)) hy⟩ hlt
 . have h0:y=0:=Yn7.1 (by omega)
   subst h0
   rw[Nat.gcd_zero_right] at hg
   refine Ce rfl (Xao (b:=false) (by omega)) ?_
   exact R1 rfl (.eq (by rw[Xhh,hg]))
theorem Xv9{z b q r:Int}(e:b*q+r=z)(h:(0<=r/\r<b)\/(b<r/\r<=0)): z.fdiv b=q/\z.fmod b=r:=by
 rcases h with ⟨h1,h2⟩ | ⟨h1,h2⟩
 . rw[W1r _ (by omega),W5r _ (by omega)]
   exact(W7m (a:=z) (b:=b) (by omega)).2 ⟨by rw[Int.add_comm];exact e,h1,h2⟩
 . have h3:(-z).fdiv (-b)=q/\(-z).fmod (-b)=-r:=by
    rw[W1r _ (by omega),W5r _ (by omega)]
    exact(W7m (a:=-z) (b:=-b) (by omega)).2 ⟨by rw[<-e,Int.neg_mul];omega,by omega,by omega⟩
   rw[W7i,Int.neg_fmod_neg] at h3
   exact⟨h3.1,by omega⟩
theorem qr0{z b:Int}(hb:b≠0): z-sg (decide (z<0) != decide (b<0)) (z.natAbs/b.natAbs)*b=sg (decide (z<0)) (z.natAbs%b.natAbs):=by
 have e:=W2o z.natAbs b.natAbs
 have hz:z=sg (decide (z<0)) z.natAbs:=by unfold sg;by_cases h:z<0<;>simp[h]<;>omega
 have hb:b=sg (decide (b<0)) b.natAbs:=by unfold sg;by_cases h:b<0<;>simp[h]<;>omega
 generalize decide (z<0)=dz at *
 generalize decide (b<0)=db at *
 generalize z.natAbs=A at *
 generalize b.natAbs=B at *
 generalize A/B=q at *
 generalize A%B=r at *
 have e2:(A:Int)=(B:Int)*q+r:=by rw[<-e];push_cast;rfl
 subst hz
 subst hb
 cases dz<;>cases db<;>simp[sg,e2]<;>grind
theorem Xnw(b:Bool)(n:Nat): (sg b n).natAbs=n:=by cases b<;>simp[sg]
theorem Yb5{z b:Int}(hb:b≠0)(h:Xba (sg (decide (z<0)) (z.natAbs%b.natAbs)) 0*Xba b 0<0):
 sg (decide (z<0) != decide (b<0)) (z.natAbs/b.natAbs)-1=z.fdiv b/\sg (decide (z<0)) (z.natAbs%b.natAbs)+b=z.fmod b:=by
 have h0:=@qr0 z b hb
 have h1:=Xnw (decide (z<0)) (z.natAbs%b.natAbs)
 have h2:=W1q z.natAbs (y:=b.natAbs) (by omega)
 generalize sg (decide (z<0)) (z.natAbs%b.natAbs)=r at *
 generalize sg (decide (z<0) != decide (b<0)) (z.natAbs/b.natAbs)=q at *
 have:=Xv9 (z:=z) (b:=b) (q:=q-1) (r:=r+b) (by rw[<-Int.sub_add_cancel z (q*b),h0];grind) (by
  unfold Xba at h
  repeat' split at h
  all_goals first | omega | (left;omega) | (right;omega))
 exact⟨this.1.symm,this.2.symm⟩
theorem Yb6{z b:Int}(hb:b≠0)(h:¬Xba (sg (decide (z<0)) (z.natAbs%b.natAbs)) 0*Xba b 0<0):
 sg (decide (z<0) != decide (b<0)) (z.natAbs/b.natAbs)=z.fdiv b/\sg (decide (z<0)) (z.natAbs%b.natAbs)=z.fmod b:=by
 have h0:=@qr0 z b hb
 have h1:=Xnw (decide (z<0)) (z.natAbs%b.natAbs)
 have h2:=W1q z.natAbs (y:=b.natAbs) (by omega)
 generalize sg (decide (z<0)) (z.natAbs%b.natAbs)=r at *
 generalize sg (decide (z<0) != decide (b<0)) (z.natAbs/b.natAbs)=q at *
 have:=Xv9 (z:=z) (b:=b) (q:=q) (r:=r) (by rw[<-Int.sub_add_cancel z (q*b),h0];grind) (by
  unfold Xba at h
  repeat' split at h
  all_goals first | omega | (left;omega) | (right;omega))
 exact⟨this.1.symm,this.2.symm⟩
theorem Xzw(a b c d:Int): -1<=Xba a b*Xba c d/\Xba a b*Xba c d<=1:=by
 unfold Xba;repeat' split
 all_goals omega
theorem DivMod_ok{a b:Int}(ha:(dig a.natAbs).length<=549755813888)(hb:(dig b.natAbs).length<=549755813888)(hb0:b≠0): C0 281 [.d (dz a),.d (dz b)] (·=.tup (.pr (.d (dz (a.fdiv b))) (.pr (.d (dz (a.fmod b))) (.d (.int .i64 0))))):=by
 have hlq:(dig (a.natAbs/b.natAbs)).length<=549755813888:=W0k (Xar (W3m ..)) ha
 have hlr:(dig (a.natAbs%b.natAbs)).length<=549755813888:=W0k (Xar (Nat.mod_le ..)) ha
 have hlqz:(dig (sg (decide (a<0) != decide (b<0)) (a.natAbs/b.natAbs)*b).natAbs).length<=549755813888:=by
  rw[W3p,Xnw]
  exact W0k (Xar (W6s ..)) ha
 refine En Tryz.func281 λ_ _ _=>?_
 refine Dw rfl ?_
 refine Ce rfl (Norm_ok (by omega)) ?_
 refine Ce rfl (Norm_ok (by omega)) ?_
 refine No rfl (by simp only[lw];have:=@Yn7 b.natAbs;omega) ?_
 refine Ce rfl (Xc3 ha hb (by omega)) ?_
 refine Ce rfl (Xao (by omega)) ?_
 refine Dw rfl ?_
 refine Ce (r:=.d (dz (sg (decide (a<0) != decide (b<0)) (a.natAbs/b.natAbs)*b))) rfl (by rw[Ycc];exact Mul_ok (by rw[Xnw];exact hlq) hb) ?_
 refine Ce rfl (Sub_ok ha hlqz) ?_
 have h0:=qr0 (z:=a) hb0
 refine Dw rfl ?_
 refine Ce rfl (Sign_ok (by rw[h0,Xnw];omega)) ?_
 refine Ce rfl (Sign_ok (by omega)) ?_
 have hr:=Xzw (sg (decide (a<0)) (a.natAbs%b.natAbs)) 0 b 0
 rw[<-h0] at hr
 refine Ar (Xba (a-sg (decide (a<0) != decide (b<0)) (a.natAbs/b.natAbs)*b) 0*Xba b 0) rfl ?_
 refine By rfl (λh=>?_) λh=>?_<;>rw[h0] at h
 . refine Dw rfl ?_
   refine Ce rfl (FromInt_ok (z:=1) (by decide)) ?_
   refine Ce (r:=.d (dz (sg (decide (a<0) != decide (b<0)) (a.natAbs/b.natAbs)-1))) rfl (by rw[Ycc];exact Sub_ok (by rw[Xnw];omega) (W0k (@Xas 1 1 (by decide)) (by decide))) ?_
   refine Ce rfl (Add_ok (by rw[h0,Xnw];omega) hb) ?_
   refine Dz rfl ?_
   exact RTt rfl (.cons (.eq (by rw[(Yb5 hb0 h).1];rfl)) (.cons (.eq (by rw[h0,(Yb5 hb0 h).2];rfl)) (.one (.rf rfl) (λ_ _ e=>by cases e) (λ_ _ e=>by cases e))))
 . refine Dz rfl ?_
   exact RTt rfl (.cons (.eq (by rw[Ycc,(Yb6 hb0 h).1];rfl)) (.cons (.eq (by rw[h0,(Yb6 hb0 h).2];rfl)) (.one (.rf rfl) (λ_ _ e=>by cases e) (λ_ _ e=>by cases e))))
theorem Xo9{z:Int}(hl:(dig z.natAbs).length<=549755813888): C0 352 [.d (dz z)] λv=>∃B:Nat,v=.d (.int .i64 B)/\z.natAbs<2^B/\B<=32*(dig z.natAbs).length:=by
 refine En Tryz.func352 λ_ _ _=>?_
 refine Ce rfl (trim_dig_ok (by omega)) ?_
 by_cases h0:z.natAbs=0
 . refine Ce (r:=.d (.int .i64 0)) rfl (by
    rw[h0,Xan]
    refine En Tryz.func328 λ_ _ _=>?_
    refine Yes rfl rfl ?_
    exact R0) ?_
   exact Rt rfl (.one (.rf rfl) rfl rfl) ⟨0,rfl,by rw[h0];decide,W0z _⟩
 . refine Ca rfl (Xmj (by omega) h0) λv hv=>?_
   obtain⟨t,ht,_,htw,rfl⟩:=hv
   have h1:=(W0n.1 ht).1
   have h2:=Xw6 htw
   exact Rt rfl (.one (.rf rfl) rfl rfl) ⟨_,rfl,Xpg rfl (by omega) ht,by omega⟩
theorem Xw8{l:List Nat}{i w:Nat}(hl:Xaq l)(hw:l[i/32]?=some w)(h:val l%2^(i+1)=0): w%2^(i%32+1)=0:=by
 have h0:=Xfv hw
 have hj:i/32<l.length:=(W0n.1 hw).1
 have hlow:=Xbw (hl.take (i/32))
 rw[W0j,show min (i/32) l.length=i/32 by omega] at hlow
 have hp:4294967296^(i/32)*2^(i%32+1)=2^(i+1):=by
  rw[show (4294967296:Nat)=2^32 from rfl,<-W5w,<-W0x];congr 1;omega
 obtain⟨c,hc⟩:=W4y h
 rw[<-hp,W0w] at hc
 generalize 4294967296^(i/32)=B at *
 generalize val (l.drop (i/32+1))=R at *
 have e1:w+4294967296*R=2^(i%32+1)*c:=by
  have hB:0<B:=by omega
  have h1:(val (l.take (i/32))+B*(w+4294967296*R))/B=w+4294967296*R:=by
   rw[W6o _ _ hB,W4g hlow,W1k]
  have h2:B*(2^(i%32+1)*c)/B=2^(i%32+1)*c:=W7e _ hB
  rw[<-h1,<-h0,hc,h2]
 have e2:(4294967296:Nat)=2^(i%32+1)*2^(31-i%32):=by
  rw[<-W0x,show i%32+1+(31-i%32)=32 by omega]
 rw[e2,W0w] at e1
 have e3:(w+2^(i%32+1)*(2^(31-i%32)*R))%2^(i%32+1)=0:=by rw[e1,Nat.mul_mod_right]
 rwa[W5f] at e3
theorem Xuf{w s:Nat}(h:w%2^(s+1)=0): w|||2^s=w+2^s:=by
 obtain⟨c,rfl⟩:=W4y h
 rw[W1i]
 exact Xdk (2^s) c (s+1) (W3s (by decide) (W7h s))
theorem Yfi{w s:Nat}(h:w%2^(s+1)=0): (w+2^s)&&&2^s=2^s:=by
 obtain⟨c,rfl⟩:=W4y h
 have e:(2^(s+1)*c+2^s)/2^s=2*c+1:=by
  rw[W0y,show 2^s*2*c+2^s=2^s*(2*c+1) by rw[W1c,W0w,W4a]]
  exact W7e _ (W0r s)
 have ht:(2^(s+1)*c+2^s).testBit s=true:=by
  rw[Nat.testBit_eq_decide_div_mod_eq,e]
  simp
 apply Nat.eq_of_testBit_eq
 intro i
 rw[Nat.testBit_and]
 by_cases hi:s=i
 . subst hi;rw[ht,Bool.true_and]
 . rw[Nat.testBit_two_pow_of_ne hi,Bool.and_false]
theorem Xsg{w s:Nat}(hw:w<4294967296)(hs:s<32)(h:w%2^(s+1)=0): w+2^s<4294967296:=by
 rw[<-Xuf h]
 exact Nat.or_lt_two_pow (n:=32) hw (W0v (W3s (by decide) hs) (by decide))
theorem Yc4{l:List Nat}{i w x:Nat}(hw:l[i/32]?=some w)(hx:x=w+2^(i%32)): val (l.set (i/32) x)=val l+2^i:=by
 have hj:i/32<l.length:=(W0n.1 hw).1
 have h0:=Xfv hw
 have h1:=Xfv (l:=l.set (i/32) x) (j:=i/32) (x:=x) (by rw[W2w hj])
 rw[h1,h0,List.take_set_of_le (W0a _),List.drop_set_of_lt (by omega),hx,<-Xh8 i]
 grind
theorem Ye4{w s:Nat}(hw:w+2^s<4294967296)(h:w%2^(s+1)=0): arB .andNot .u32 (w+2^s:Nat) (2^s:Nat) w:=by
 have hp:=W0r s
 have e:=Yfi h
 show IntKind.u32.wrap _=_
 have h1:(BitVec.ofInt 32 ((w+2^s:Nat):Int) &&& ~~~BitVec.ofInt 32 ((2^s:Nat):Int)).toNat=w:=by
  have hx:(BitVec.ofInt 32 ((w+2^s:Nat):Int)).toNat=w+2^s:=by rw[BitVec.toNat_ofInt];omega
  have hy:(BitVec.ofInt 32 ((2^s:Nat):Int)).toNat=2^s:=by rw[BitVec.toNat_ofInt];omega
  apply Nat.eq_of_testBit_eq
  intro i
  rw[BitVec.toNat_and,BitVec.toNat_not,hx,hy,Nat.testBit_and]
  have e1:=congrArg (·.testBit i) e
  simp only[Nat.testBit_and] at e1
  have e2:=Xuf h
  rw[<-e2,Nat.testBit_or]
  have e3:(2^32-1-2^s).testBit i=(decide (i<32) && !(2^s).testBit i):=by
   have:=Nat.testBit_two_pow_sub_succ (x:=2^s) (n:=32) (by omega) i
   rwa[show 2^32-(2^s+1)=2^32-1-2^s by omega] at this
  rw[e3]
  by_cases hi:i<32
  . rw[decide_eq_true hi,Bool.true_and]
    by_cases his:s=i
    . subst his
      rw[<-e2,Nat.testBit_or] at e1
      have hws:w.testBit s=false:=by
       obtain⟨c,rfl⟩:=W4y h
       rw[Nat.testBit_eq_decide_div_mod_eq,W0y,W0w,W7e _ hp]
       simp
      rw[hws,Nat.testBit_two_pow_self];rfl
    . rw[Nat.testBit_two_pow_of_ne his];simp
  . rw[decide_eq_false hi]
    have:w.testBit i=false:=Nat.testBit_lt_two_pow (W0v (by omega:w<2^32) (W0m (by decide) (by omega)))
    rw[this];simp
 rw[show IntKind.bits .u32=32 from rfl,h1]
 exact wW (by omega)
theorem Sqrt_ok{a:Nat}(hl:(dig a).length<=274877906944): C0 334 [.d (dz (a:Int))] (·=.tup (.pr (.d (dz (rt a:Int))) (.d (.int .i64 0)))):=by
 have ha:dz (a:Int)=.st (.pr (.bool (decide ((a:Int)<0))) (ws (dig a))):=rfl
 have hbits:=λ(B n:Nat) (hB:a<2^B) (hn:B<=2*n)=>W0v hB (W0m (by decide) hn:2^B<=2^(2*n))
 refine En Tryz.func334 λ_ _ _=>?_
 refine Ce rfl (Norm_ok (by simp only[W1f];omega)) ?_
 refine No rfl (by omega) ?_
 refine Ca rfl (Xo9 (z:=(a:Int)) (by simp only[W1f];omega)) λv hv=>?_
 obtain⟨B,rfl,hB1,hB2⟩:=hv
 simp only[W1f] at hB1 hB2
 obtain⟨n,hn⟩:∃n,n=(B+1)/2:=⟨_,rfl⟩
 refine Ar (B+1:Nat) rfl ?_
 refine Ar n rfl ?_ (show _/\_ from⟨by decide,by rw[show Int.tdiv ((B+1:Nat):Int) 2=(((B+1)/2:Nat):Int) from rfl,<-hn];exact wI (by omega)⟩)
 refine Ar (n/32:Nat) rfl ?_ (show _/\_ from⟨by decide,by rw[show Int.tdiv (n:Int) 32=((n/32:Nat):Int) from rfl];exact wI (by omega)⟩)
 refine Ar (n/32+1:Nat) rfl ?_
 refine Mk (n/32+1) rfl (by omega) ?_
 refine Ar (n-1:Int) rfl ?_
 refine Lo (λ(k,lo)=>[(1,.ptr 1 0),(2,.ptr 2 0),(5,.own 19 1 0 (n/32+1)),(6,.d (.int .i64 ((k:Nat)-1:Int)))]) (λ(_,lo)=>[(1,.var (.d (dz (a:Int)))),(2,.var (.st (.pr (.b false) .nil))),(19,.arr 1 (lo.map wd))])
  (λ(k,lo)=>k<=n/\lo.length=n/32+1/\Xaq lo/\val lo%2^k=0/\val lo*val lo<=a/\a<(val lo+2^k)*(val lo+2^k)) (λ(k,_)=>k) (n,List.replicate (n/32+1) 0) [] rfl
  ⟨by omega,by simp,Xfr _,by rw[Xbv];simp,by rw[Xbv];omega,by rw[Xbv,W1k,<-W0x,<-Nat.two_mul];exact hbits B n hB1 (by omega)⟩ ?_ (by exact⟨rfl,by simp only[W2i];rfl,rfl,rfl,rfl⟩)
 rintro⟨k,lo⟩ ⟨hk,hlo,hwl,hmod,hsq1,hsq2⟩
 refine By rfl (λh=>?_) λh=>?_
 . obtain⟨i,rfl⟩:∃i,k=i+1:=⟨k-1,by omega⟩
   obtain⟨w,hw⟩:=xat (l:=lo) (k:=i/32) (by omega)
   have hww:=ww hw hwl
   have hwc:=Xw8 hwl hw hmod
   have hwb:=Xsg hww (by omega) hwc
   have hv1:=Yc4 hw rfl
   have hw1:=Xg9 (k:=i/32) hwl hwb
   obtain⟨lo1,hlo1⟩:∃lo1,lo1=lo.set (i/32) (w+2^(i%32)):=⟨_,rfl⟩
   rw[<-hlo1] at hv1 hw1
   have hl1:lo1.length=n/32+1:=by rw[hlo1,W3f,hlo]
   have hlen1:(dig (val lo1)).length<=549755813888:=by
    have h1:=Xas (Xbw hw1)
    omega
   have hq32:arB .quo .i64 (((i+1:Nat):Int)-1) 32 (i/32:Nat):=show _/\_ from⟨by decide,by rw[show (((i+1:Nat):Int)-1)=(i:Int) by omega,show Int.tdiv (i:Int) 32=((i/32:Nat):Int) from rfl];exact wI (by omega)⟩
   have hr32:arB .rem .i64 (((i+1:Nat):Int)-1) 32 (i%32:Nat):=show _/\_ from⟨by decide,by rw[show (((i+1:Nat):Int)-1)=(i:Int) by omega];exact Xrk i 32⟩
   refine Dw rfl ?_
   refine Ar (i/32:Nat) rfl ?_ hq32
   refine Ar (i/32:Nat) rfl ?_ hq32
   refine Eo (i/32) rfl (by omega) ?_
   refine Ld (wd w) rfl (mp hw) ?_
   refine Ar (i%32:Nat) rfl ?_ hr32
   refine Ar (2^(i%32):Nat) rfl ?_ (Xf0 (by omega))
   refine Ar (w+2^(i%32):Nat) rfl ?_ (Ykm hww Ydk (Xuf hwc) hwb)
   refine Eo (i/32) rfl (by omega) ?_
   refine Sto rfl (by simp only[lw];omega) ms ?_
   refine Cu none (λ_:Unit=>[(1,.ptr 1 0),(2,.ptr 2 0),(5,.own 19 1 0 (n/32+1)),(6,.d (.int .i64 (((i+1:Nat):Int)-1))),(47,.b (dc (a<val lo1*val lo1)))]) (λ_=>[(1,.var (.d (dz (a:Int)))),(2,.var (.st (.pr (.b false) .nil))),(19,.arr 1 (lo1.map wd))]) (λ_=>True) rfl ?_ λ_ _=>?_
   . refine Dw rfl ?_
     refine Cn [(1000001,19)] rfl (Xhd (l:=lo1) (q:=0) (n:=n/32+1) hw1 (by omega) (by omega)) (λv hv=>?_) rfl (by rw[hlo1];rfl)
     obtain⟨k1,hk1,rfl,hkl⟩:=hv
     refine Cn [(1000001,19)] rfl (Xhd (l:=lo1) (q:=0) (n:=n/32+1) hw1 (by omega) (by omega)) (λv hv=>?_) rfl (by rw[hlo1];rfl)
     obtain⟨k2,hk2,rfl,hkl2⟩:=hv
     rw[show (lo1.drop 0).take (n/32+1)=lo1 from W0b (by simp[hl1])] at hkl hkl2
     obtain rfl:k2=k1:=by
      have e1:=congrArg List.length hkl
      have e2:=congrArg List.length hkl2
      rw[Xxr (by omega)] at e1 e2
      omega
     refine Cn [(1000001,19)] rfl (Xs8 (l:=lo1) (q:=0) (n:=k2) (by omega) hkl hlen1) (λv hv=>?_) rfl (by rw[hlo1];rfl)
     obtain rfl:v=_:=hv
     refine Ce rfl (Xb2 (y:=a) (W0k (Xk3 ..) (by omega))) ?_
     refine Jn () [] rfl trivial (by exact⟨by
      rw[show (Xba ((val lo1*val lo1:Nat):Int) (a:Int)>0)=(a<val lo1*val lo1) from propext (by
       rcases Xaw ((val lo1*val lo1:Nat):Int) (a:Int) with ⟨g1,g2⟩ | ⟨g1,g2⟩ | ⟨g1,g2⟩<;>rw[g2]<;>omega)]
      rfl,by rw[hlo1];rfl,rfl,rfl,rfl⟩)
   refine By rfl (λh1=>?_) λh1=>?_
   . have hw2:lo1[i/32]?=some (w+2^(i%32)):=by rw[hlo1,W2w (by omega)]
     have hback:lo1.set (i/32) w=lo:=by
      rw[hlo1,List.set_set]
      apply W3y
      intro q
      by_cases hq:i/32=q
      . subst hq;rw[W2w (by omega),hw]
      . rw[W1w hq]
     have hm2:val lo%2^i=0:=by
      obtain⟨c,hc⟩:=W4y hmod
      rw[hc,W0y,W0w];exact Nat.mul_mod_right _ _
     refine Dw rfl ?_
     refine Ar (i/32:Nat) rfl ?_ hq32
     refine Ar (i/32:Nat) rfl ?_ hq32
     refine Eo (i/32) rfl (by omega) ?_
     refine Ld (wd (w+2^(i%32))) rfl (mp hw2) ?_
     refine Ar (i%32:Nat) rfl ?_ hr32
     refine Ar (2^(i%32):Nat) rfl ?_ (Xf0 (by omega))
     refine Ar w rfl ?_ (Ye4 hwb hwc)
     refine Eo (i/32) rfl (by omega) ?_
     refine Sto rfl (by simp only[lw];omega) ms ?_
     refine Ar (i-1:Int) rfl ?_
     exact Bk (i,lo) [] rfl ⟨by omega,hlo,hwl,hm2,hsq1,by rw[<-hv1];exact h1⟩ (by show i<i+1;omega) (by exact⟨rfl,by rw[hback];rfl,rfl,rfl,rfl⟩)
   . have hm2:val lo1%2^i=0:=by
      rw[hv1]
      obtain⟨c,hc⟩:=W4y hmod
      rw[hc,W0y,W0w,Nat.add_mod_right];exact Nat.mul_mod_right _ _
     refine Ar (i-1:Int) rfl ?_
     exact Bk (i,lo1) [] rfl ⟨by omega,hl1,hw1,hm2,W4d h1,by rw[hv1,W4r,<-Nat.two_mul,W1i 2,<-W0y];exact hsq2⟩ (by show i<i+1;omega)
 . have hk0:k=0:=by omega
   subst hk0
   have hrt:rt a=val lo:=Yg4 hsq1 (by simpa using hsq2)
   refine Fz 12 5 (lo.map wd) rfl (by simp only[lw];omega) (oa hlo) ?_
   refine Ce (r:=.d (dz (sg false (val lo)))) rfl (by
    have:=Xps (b:=false) hwl (by omega)
    exact this) ?_
   exact RTt rfl (.cons (.eq (by rw[Xhh,hrt])) (.one (.rf rfl) (λ_ _ e=>by cases e) (λ_ _ e=>by cases e)))
end
end Go.Proofs.YtfjafaehfjjaiaaGreatDoor.R1
namespace Go.Num
theorem Zs.fdv{p:Nat}{z g:Int}(h:Zs p z)(hg:0<g): Zs p (z.fdiv g):=by
 unfold Zs at *
 rw[W1r _ (by omega)]
 have:(z/g).natAbs<=z.natAbs:=Int.natAbs_ediv_le_natAbs ..
 omega
end Go.Num
namespace Go.Proofs.YtfjafaehfjjaiaaGreatDoor.R2
open Go Go.Vm Go.Num Go.Proofs.YtfjafaehfjjaiaaGreatDoor
theorem Yen{a g:Int}(h:g ∣ a)(hg:0<=g): a.fdiv g=a.tdiv g:=by
 rw[W1r _ hg,Int.tdiv_eq_ediv_of_dvd h]
theorem Xmt(a g:Nat): (a:Int).fdiv g=((a/g:Nat):Int):=by
 rw[W1r _ (by omega),Int.natCast_ediv]
theorem Xyy(x y:Rat): (x*y).num=x.num.fdiv (Int.gcd x.num y.den:Int)*y.num.fdiv (Int.gcd y.num x.den:Int):=by
 show (Rat.mul x y).num=_
 delta Rat.mul
 simp only[Int.divExact_eq_tdiv]
 rw[Yen (Int.gcd_dvd_left ..) (by omega),Yen (Int.gcd_dvd_left ..) (by omega)]
 rfl
theorem Xzq(x y:Rat): ((x*y).den:Int)=(x.den:Int).fdiv (Int.gcd y.num x.den:Int)*(y.den:Int).fdiv (Int.gcd x.num y.den:Int):=by
 show ((Rat.mul x y).den:Int)=_
 delta Rat.mul
 simp only[Nat.divExact_eq_div]
 rw[Xmt,Xmt]
 rfl
theorem Xqf{x y:Rat}(h:(Int.gcd x.den y.den:Int)=1): (x+y).num=x.num*y.den+y.num*x.den/\(x+y).den=x.den*y.den:=by
 have hg:x.den.gcd y.den=1:=by have:(x.den.gcd y.den:Int)=1:=h;omega
 show (Rat.add x y).num=_/\(Rat.add x y).den=_
 delta Rat.add
 simp only[hg]
 exact⟨rfl,rfl⟩
theorem Xqe{x y:Rat}(h:¬(Int.gcd x.den y.den:Int)=1): (x+y).num=(x.num*(y.den:Int).fdiv (Int.gcd x.den y.den:Int)+y.num*(x.den:Int).fdiv (Int.gcd x.den y.den:Int)).fdiv (Int.gcd (x.num*(y.den:Int).fdiv (Int.gcd x.den y.den:Int)+y.num*(x.den:Int).fdiv (Int.gcd x.den y.den:Int)) (Int.gcd x.den y.den:Int):Int) /\
 ((x+y).den:Int)=(x.den:Int).fdiv (Int.gcd x.den y.den:Int)*(y.den:Int).fdiv (Int.gcd (x.num*(y.den:Int).fdiv (Int.gcd x.den y.den:Int)+y.num*(x.den:Int).fdiv (Int.gcd x.den y.den:Int)) (Int.gcd x.den y.den:Int):Int):=by
 have hg:¬x.den.gcd y.den=1:=λe=>h (by show ((x.den.gcd y.den:Nat):Int)=1;rw[e];rfl)
 have eg:Int.gcd (x.den:Int) (y.den:Int)=x.den.gcd y.den:=rfl
 rw[eg,Xmt,Xmt]
 generalize hn:x.num*((y.den/x.den.gcd y.den:Nat):Int)+y.num*((x.den/x.den.gcd y.den:Nat):Int)=n
 have et:Int.gcd n ((x.den.gcd y.den:Nat):Int)=n.natAbs.gcd (x.den.gcd y.den):=rfl
 have htd:n.natAbs.gcd (x.den.gcd y.den) ∣ y.den:=Nat.dvd_trans (Nat.gcd_dvd_right ..) (Nat.gcd_dvd_right ..)
 rw[Yen (Int.gcd_dvd_left ..) (by omega),et,Xmt]
 have e:Rat.add x y=x+y:=rfl
 delta Rat.add at e
 simp only[hg,hn,dif_neg,not_false_eq_true,Rat.maybeNormalize_eq] at e
 rw[<-e]
 refine⟨by simp only[Int.divExact_eq_tdiv],?_⟩
 simp only[Nat.divExact_eq_div]
 rw[<-W2p,Nat.mul_div_assoc _ htd]
theorem Xla{a b:Int}(h:b≠0): (Int.gcd a b:Int)≠0:=by have:=@Xv1 a b h;omega
theorem Xei{z:Int}(h:(dig z.natAbs).length<=1099511627776): C0 333 [.d (dz z)] (·=.b true):=by
 refine En Tryz.func333 λ_ _ _=>?_
 refine Dw rfl ?_
 refine Ce rfl (R1.trim_dig_ok h) ?_
 refine Yes rfl rfl ?_
 refine By rfl (λh1=>?_) λh1=>?_
 . exact R0
 . have:(dig z.natAbs).length≠0:=λe=>by have:=Yn7.1 e;omega
   exact R1 rfl (by exact(show dc (((List.map wd (dig z.natAbs)).length:Int)>0)=true by rw[Xah,lw];omega) ▸ .rf rfl)
theorem Xe3{z:Int}: C0 217 [.d (dz z)] (·=.b (dc (z=1))):=by
 refine En Tryz.func217 λ_ _ _=>?_
 refine By rfl (λh1=>?_) λh1=>?_<;>simp only[lw] at h1
 . obtain⟨u,hu⟩:=xat (l:=dig z.natAbs) (k:=0) (by omega)
   have hl:=Yn6 (by omega) hu
   refine Ix 0 rfl (mp hu) ?_
   refine By rfl (λh2=>?_) λh2=>?_
   . refine R1 rfl (.bp ?_)
     rw[<-Xug,hl]
     simp only[W1u,decide_eq_false_iff_not]
     exact⟨λh=>⟨by rw[show u=1 by omega],h⟩,λh=>h.2⟩
   . refine R1 rfl (.bp ⟨nofun,λe=>?_⟩)
     have:=(Xug.2 e).1
     rw[hl] at this;injection this with this;omega
 . exact R1 rfl (.bp ⟨nofun,λe=>absurd (by rw[e];show ((dig 1).length:Int)=1;rw[Yfy];rfl) h1⟩)
theorem Xcj{a b:Int}(ha:(dig a.natAbs).length<=549755813888)(hb:(dig b.natAbs).length<=549755813888)(hb0:b≠0): C0 221 [.d (dz a),.d (dz b)] (·=.d (dz (a.fdiv b))):=by
 refine En Tryz.func221 λ_ _ _=>?_
 refine Ce rfl (R1.DivMod_ok ha hb hb0) ?_
 exact R0
theorem FromInt_ok{z:Int}(h:-9223372036854775808<=z/\z<9223372036854775808): C0 45 [.d (.int .i64 z)] (·=.d (dq z)):=by
 refine En Tryz.func45 λ_ _ _=>?_
 refine Ce rfl (R1.FromInt_ok h) ?_
 refine Ce rfl (R1.FromInt_ok (z:=1) (by decide)) ?_
 exact R0
theorem Make_ok{a b:Int}{p:Nat}(ha:Zs p a)(hb:Zs p b)(hp:p<=8796093022208)(hb0:b≠0): C0 204 [.d (dz a),.d (dz b)] (·=.d (dq (Rat.divInt a b))):=by
 have hla:=ha.len hp
 have hlb:=hb.len hp
 have hlg:=(hb.gcd (x:=a) hb0).len hp
 have h0:=Xv1 (a:=a) hb0
 have key:∀g:Int,g=(if b<0 then -(Int.gcd a b:Int) else (Int.gcd a b:Int))->D.st (.pr (dz (a.fdiv g)) (dz (b.fdiv g)))=dq (Rat.divInt a b):=λg hg=>by rw[hg,Xjs hb0,Xjt hb0];rfl
 have hs:Xba b 0<0↔b<0:=by rcases Xaw b 0 with ⟨g1,g2⟩ | ⟨g1,g2⟩ | ⟨g1,g2⟩<;>omega
 refine En Tryz.func204 λ_ _ _=>?_
 refine Ce rfl (R1.GCD_ok (by omega) (by omega)) ?_
 refine Ce rfl (R1.Sign_ok (by omega)) ?_
 refine By rfl (λh=>?_) λh=>?_
 . refine Ce rfl (R1.Neg_ok (by omega)) ?_
   refine Dw rfl ?_
   refine Ce rfl (Xcj (by omega) (by rw[W5d];omega) (by omega)) ?_
   refine Ce rfl (Xcj (by omega) (by rw[W5d];omega) (by omega)) ?_
   exact R1 rfl (.eq (key _ (by rw[if_pos (hs.1 h)])))
 . refine Dw rfl ?_
   refine Ce rfl (Xcj (by omega) (by omega) (by omega)) ?_
   refine Ce rfl (Xcj (by omega) (by omega) (by omega)) ?_
   exact R1 rfl (.eq (key _ (by rw[if_neg (mt hs.2 h)])))
theorem Frac_ok{a b:Int}(ha:-9223372036854775808<=a/\a<9223372036854775808)(hb:-9223372036854775808<=b/\b<9223372036854775808)(hb0:b≠0): C0 124 [.d (.int .i64 a),.d (.int .i64 b)] (·=.d (dq (Rat.divInt a b))):=by
 refine En Tryz.func124 λ_ _ _=>?_
 refine No rfl hb0 ?_
 refine Ce rfl (R1.FromInt_ok ha) ?_
 refine Ce rfl (R1.FromInt_ok hb) ?_
 refine Ce rfl (Make_ok (p:=64) (by unfold Zs;omega) (by unfold Zs;omega) (by decide) hb0) ?_
 exact R0
theorem Valid_ok{x:Rat}{p:Nat}(hx:Qs p x)(hp:p<=8796093022208): C0 284 [.d (dq x)] (·=.b true):=by
 have h1:=hx.n.len hp
 have h2:=hx.d.len hp
 refine En Tryz.func284 λ_ _ _=>?_
 refine Ce rfl (Xei (z:=x.num) (by omega)) ?_
 refine Yes rfl rfl ?_
 refine Ce rfl (Xei (z:=x.den) (by omega)) ?_
 refine Yes rfl rfl ?_
 refine Ce rfl (R1.Sign_ok (by omega)) ?_
 refine Yes rfl (Ymr.2 (by have:=x.den_pos;omega)) ?_
 refine Ce rfl (R1.GCD_ok (by omega) (by omega)) ?_
 refine Ce rfl Xe3 ?_
 refine R1 rfl (by exact(show dc ((Int.gcd x.num x.den:Int)=1)=true by rw[Xah];exact congrArg Nat.cast (show Int.gcd x.num x.den=1 from x.reduced)) ▸ .rf rfl)
theorem Sign_ok{x:Rat}{p:Nat}(hx:Qs p x)(hp:p<=8796093022208): C0 207 [.d (dq x)] (·=.d (.int .i64 (Xba x.num 0))):=by
 have:=hx.n.len hp
 refine En Tryz.func207 λ_ _ _=>?_
 refine Ce rfl (R1.Sign_ok (by omega)) ?_
 exact R0
theorem Neg_ok{x:Rat}{p:Nat}(hx:Qs p x)(hp:p<=8796093022208): C0 94 [.d (dq x)] (·=.d (dq (-x))):=by
 have:=hx.n.len hp
 refine En Tryz.func94 λ_ _ _=>?_
 refine Dw rfl ?_
 refine Ce rfl (R1.Neg_ok (by omega)) ?_
 exact R1 rfl (.eq (show D.st (.pr (dz (-x.num)) (dz x.den))=dq (-x) by unfold dq;rw[Rat.neg_num,Rat.neg_den]))
theorem zero_of{x:Rat}(h:((List.map wd (dig x.num.natAbs)).length:Int)=0): x=0:=by
 simp only[lw] at h
 have:=Yn7.1 (by omega:(dig x.num.natAbs).length=0)
 exact W6b.1 (by omega)
theorem Mul_ok{x y:Rat}{p q:Nat}(hx:Qs p x)(hy:Qs q y)(hp:p+q+1<=8796093022208): C0 263 [.d (dq x),.d (dq y)] (·=.d (dq (x*y))):=by
 have h1:=hx.n.len (by omega)
 have h2:=hx.d.len (by omega)
 have h3:=hy.n.len (by omega)
 have h4:=hy.d.len (by omega)
 have g1:=hy.d.gcd (x:=x.num) (Xb1 y)
 have g2:=hx.d.gcd (x:=y.num) (Xb1 x)
 have l1:=g1.len (by omega)
 have l2:=g2.len (by omega)
 have k1:=@Xla x.num y.den (Xb1 y)
 have k2:=@Xla y.num x.den (Xb1 x)
 have q1:=(hx.n.fdv (g:=(Int.gcd x.num y.den:Int)) (by omega)).len (by omega)
 have q2:=(hy.n.fdv (g:=(Int.gcd y.num x.den:Int)) (by omega)).len (by omega)
 have q3:=(hx.d.fdv (g:=(Int.gcd y.num x.den:Int)) (by omega)).len (by omega)
 have q4:=(hy.d.fdv (g:=(Int.gcd x.num y.den:Int)) (by omega)).len (by omega)
 refine En Tryz.func263 λ_ _ _=>?_
 refine Cu (some 1) (λ(b:Bool)=>[(2,.ptr 2 0),(3,.ptr 3 0),(4,.ptr 4 0),(18,.b b)]) (λ_=>[(2,.var (.d (dq x))),(3,.var (.d (dq y))),(4,.var q0)]) (λb=>b=true->x*y=0) rfl ?_ λb hb=>?_
 . refine By rfl (λh=>?_) λh=>?_
   . exact Jn true [] rfl λ_=>by rw[zero_of h,W4q]
   . exact Jn (dc _) [] rfl λe=>by rw[zero_of (x:=y) (Xah.1 e),Rat.mul_zero]
 refine By rfl (λh=>?_) λh=>?_
 . refine Ce rfl (FromInt_ok (z:=0) (by decide)) ?_
   exact R1 rfl (.eq (show dq _=dq _ by rw[hb h];rfl))
 refine Cu (some 3) (λ(b:Bool)=>[(2,.ptr 2 0),(3,.ptr 3 0),(4,.ptr 4 0),(27,.b b)]) (λ_=>[(2,.var (.d (dq x))),(3,.var (.d (dq y))),(4,.var q0)]) (λb=>b=true->(x.den:Int)=1/\(y.den:Int)=1) rfl ?_ λb hb=>?_
 . refine Ce rfl Xe3 ?_
   refine By rfl (λh=>?_) λh=>?_
   . refine Ce rfl Xe3 ?_
     exact Jn (dc _) [] rfl λe=>⟨h,Xah.1 e⟩
   . exact Jn false [] rfl nofun
 refine By rfl (λh=>?_) λh=>?_
 . obtain⟨d1,d2⟩:=hb h
   refine Dw rfl ?_
   refine Ce rfl (R1.Mul_ok (by omega) (by omega)) ?_
   exact R1 rfl (.eq (show D.st (.pr (dz (x.num*y.num)) (dz x.den))=dq _ by rw[Xq5 d1 d2,d1];rfl))
 . refine Dw rfl ?_
   refine Ce rfl (R1.GCD_ok (by omega) (by omega)) ?_
   refine Ce rfl (R1.GCD_ok (by omega) (by omega)) ?_
   refine Dw rfl ?_
   refine Ce rfl (Xcj (by omega) (by omega) k1) ?_
   refine Ce rfl (Xcj (by omega) (by omega) k2) ?_
   refine Ce rfl (R1.Mul_ok (by omega) (by omega)) ?_
   refine Ce rfl (Xcj (by omega) (by omega) k2) ?_
   refine Ce rfl (Xcj (by omega) (by omega) k1) ?_
   refine Ce rfl (R1.Mul_ok (by omega) (by omega)) ?_
   exact R1 rfl (.eq (show D.st (.pr (dz _) (dz _))=dq (x*y) by unfold dq;rw[Xyy,Xzq]))
theorem Add_ok{x y:Rat}{p q:Nat}(hx:Qs p x)(hy:Qs q y)(hp:p+q+1<=8796093022208): C0 136 [.d (dq x),.d (dq y)] (·=.d (dq (x+y))):=by
 have h1:=hx.n.len (by omega)
 have h2:=hx.d.len (by omega)
 have h3:=hy.n.len (by omega)
 have h4:=hy.d.len (by omega)
 have h5:=(hx.n.mul hy.d).len (by omega)
 have h6:=(hy.n.mul hx.d).len (by omega)
 have hg:=hy.d.gcd (x:=(x.den:Int)) (Xb1 y)
 have k:=@Xla (x.den:Int) y.den (Xb1 y)
 have hdx:=hx.d.fdv (g:=(Int.gcd x.den y.den:Int)) (by omega)
 have hdy:=hy.d.fdv (g:=(Int.gcd x.den y.den:Int)) (by omega)
 have hn:Zs (p+q+1) (x.num*(y.den:Int).fdiv (Int.gcd x.den y.den:Int)+y.num*(x.den:Int).fdiv (Int.gcd x.den y.den:Int)):=((hx.n.mul hdy).add (hy.n.mul hdx)).mono (by omega)
 have ht:=hg.gcd (x:=x.num*(y.den:Int).fdiv (Int.gcd x.den y.den:Int)+y.num*(x.den:Int).fdiv (Int.gcd x.den y.den:Int)) k
 have kt:=@Xla (x.num*(y.den:Int).fdiv (Int.gcd x.den y.den:Int)+y.num*(x.den:Int).fdiv (Int.gcd x.den y.den:Int)) _ k
 have l1:=hg.len (by omega)
 have l2:=hdx.len (by omega)
 have l3:=hdy.len (by omega)
 have l4:=hn.len (by omega)
 have l5:=ht.len (by omega)
 have l6:=(hx.n.mul hdy).len (by omega)
 have l7:=(hy.n.mul hdx).len (by omega)
 have l8:=(hy.d.fdv (g:=(Int.gcd (x.num*(y.den:Int).fdiv (Int.gcd x.den y.den:Int)+y.num*(x.den:Int).fdiv (Int.gcd x.den y.den:Int)) (Int.gcd x.den y.den:Int):Int)) (by omega)).len (by omega)
 refine En Tryz.func136 λ_ _ _=>?_
 refine By rfl (λh=>?_) λh=>?_
 . exact R1 rfl (.eq (by rw[zero_of h,Rat.zero_add];rfl))
 refine By rfl (λh=>?_) λh=>?_
 . exact R1 rfl (.eq (by rw[zero_of h,W7c];rfl))
 refine Cu (some 5) (λ(b:Bool)=>[(2,.ptr 2 0),(3,.ptr 3 0),(4,.ptr 4 0),(30,.b b)]) (λ_=>[(2,.var (.d (dq x))),(3,.var (.d (dq y))),(4,.var q0)]) (λb=>b=true->(x.den:Int)=1/\(y.den:Int)=1) rfl ?_ λb hb=>?_
 . refine Ce rfl Xe3 ?_
   refine By rfl (λh=>?_) λh=>?_
   . refine Ce rfl Xe3 ?_
     exact Jn (dc _) [] rfl λe=>⟨h,Xah.1 e⟩
   . exact Jn false [] rfl nofun
 refine By rfl (λh=>?_) λh=>?_
 . obtain⟨d1,d2⟩:=hb h
   refine Dw rfl ?_
   refine Ce rfl (R1.Add_ok (by omega) (by omega)) ?_
   exact R1 rfl (.eq (show D.st (.pr (dz (x.num+y.num)) (dz x.den))=dq _ by rw[Xq6 d1 d2,d1];rfl))
 refine Ce rfl (R1.GCD_ok (by omega) (by omega)) ?_
 refine Ce rfl Xe3 ?_
 refine By rfl (λh=>?_) λh=>?_
 . refine Dw rfl ?_
   refine Ce rfl (R1.Mul_ok (by omega) (by omega)) ?_
   refine Ce rfl (R1.Mul_ok (by omega) (by omega)) ?_
   refine Ce rfl (R1.Add_ok (by omega) (by omega)) ?_
   refine Dw rfl ?_
   refine Ce rfl (R1.Mul_ok (by omega) (by omega)) ?_
   exact R1 rfl (.eq (show D.st (.pr (dz _) (dz _))=dq (x+y) by unfold dq;rw[(Xqf h).1,(Xqf h).2,W2p]))
 . refine Dw rfl ?_
   refine Ce rfl (Xcj (by omega) (by omega) k) ?_
   refine Ce rfl (Xcj (by omega) (by omega) k) ?_
   refine Dw rfl ?_
   refine Ce rfl (R1.Mul_ok (by omega) (by omega)) ?_
   refine Ce rfl (R1.Mul_ok (by omega) (by omega)) ?_
   refine Ce rfl (R1.Add_ok (by omega) (by omega)) ?_
   refine Ce rfl (R1.GCD_ok (by omega) (by omega)) ?_
   refine Dw rfl ?_
   refine Ce rfl (Xcj (by omega) (by omega) kt) ?_
   refine Ce rfl (Xcj (by omega) (by omega) kt) ?_
   refine Ce rfl (R1.Mul_ok (by omega) (by omega)) ?_
   exact R1 rfl (.eq (show D.st (.pr (dz _) (dz _))=dq (x+y) by unfold dq;rw[(Xqe h).1,(Xqe h).2]))
theorem Yie{x:Rat}(h0:x≠0): dq x⁻¹=if x.num<0 then D.st (.pr (dz (-x.den)) (dz (-x.num))) else D.st (.pr (dz x.den) (dz x.num)):=by
 have hn:x.num≠0:=λe=>h0 (W6b.1 e)
 unfold dq
 rw[Rat.num_inv,Rat.den_inv,if_neg hn]
 split
 . rename_i h
   rw[Int.sign_eq_neg_one_of_neg h,show (-1*(x.den:Int))=-x.den by omega,show ((x.num.natAbs:Nat):Int)=-x.num by omega]
 . rename_i h
   rw[W6f (by omega),show (1*(x.den:Int))=x.den by omega,show ((x.num.natAbs:Nat):Int)=x.num by omega]
theorem Inv_ok{x:Rat}{p:Nat}(hx:Qs p x)(hp:p<=8796093022208)(h0:x≠0): C0 321 [.d (dq x)] (·=.d (dq x⁻¹)):=by
 have h1:=hx.n.len hp
 have h2:=hx.d.len hp
 have e:=Yie h0
 refine En Tryz.func321 λ_ _ _=>?_
 refine By rfl (λh=>?_) λh=>?_
 . rw[if_pos h] at e
   refine Dw rfl ?_
   refine Ce rfl (R1.Neg_ok (by omega)) ?_
   refine Ce rfl (R1.Neg_ok (by omega)) ?_
   exact R1 rfl (.eq e.symm)
 . rw[if_neg h] at e
   exact R1 rfl (.eq e.symm)
theorem Cmp_ok{x y:Rat}{p q:Nat}(hx:Qs p x)(hy:Qs q y)(hp:p+q<=8796093022208): C0 325 [.d (dq x),.d (dq y)] (·=.d (.int .i64 (Xm3 x y))):=by
 have h1:=hx.n.len (by omega)
 have h2:=hx.d.len (by omega)
 have h3:=hy.n.len (by omega)
 have h4:=hy.d.len (by omega)
 have h5:=(hx.n.mul hy.d).len (by omega)
 have h6:=(hy.n.mul hx.d).len (by omega)
 refine En Tryz.func325 λ_ _ _=>?_
 refine Dw rfl ?_
 refine Ce rfl (R1.Mul_ok (by omega) (by omega)) ?_
 refine Ce rfl (R1.Mul_ok (by omega) (by omega)) ?_
 refine Ce rfl (R1.Cmp_ok (by omega) (by omega)) ?_
 exact R1 rfl (.eq (by rw[Xra]))
theorem Xj8{z w:Int}(hz:(dig z.natAbs).length<=549755813888): C0 335 [.d (dz z),.d (dz w)] (·=.b (dc (z=w))):=by
 refine En Tryz.func335 λ_ _ _=>?_
 refine By rfl (λh=>?_) λh=>?_
 . exact R1 rfl (.bp ⟨nofun,λe=>absurd (by rw[e]) h⟩)
 have h:(z<0↔w<0):=by simpa using h
 refine By rfl (λh1=>?_) λh1=>?_<;>simp only[lw] at h1
 . exact R1 rfl (.bp ⟨nofun,λe=>absurd (by rw[e]) h1⟩)
 refine Lo (λk:Nat=>[(2,.ptr 2 0),(3,.ptr 3 0),(5,.d (.int .i64 k))]) (λ_=>[(2,.var (.d (dz z))),(3,.var (.d (dz w)))]) (λk=>k<=(dig z.natAbs).length/\(dig z.natAbs).take k=(dig w.natAbs).take k) (λk=>(dig z.natAbs).length-k) 0 [] rfl ⟨by omega,rfl⟩ λk ⟨hk,ht⟩=>?_
 refine By rfl (λh2=>?_) λh2=>?_<;>simp only[lw] at h2
 . obtain⟨u,hu⟩:=xat (l:=dig z.natAbs) (k:=k) (by omega)
   obtain⟨v,hv⟩:=xat (l:=dig w.natAbs) (k:=k) (by omega)
   refine Dw rfl ?_
   refine Ix k rfl (mp hu) ?_
   refine Ix k rfl (mp hv) ?_
   refine By rfl (λh3=>?_) λh3=>?_
   . exact R1 rfl (.bp ⟨nofun,λe=>by subst e;rw[hu] at hv;injection hv with hv;omega⟩)
   . refine Ar (k+1:Nat) rfl ?_
     refine Bk (k+1) [] rfl ⟨by omega,?_⟩ (by show _-(k+1)<_-k;omega)
     have h1:=(W0n.1 hu).1
     have h2:=(W0n.1 hv).1
     rw[W2d,W2d,hu,hv,ht,show u=v by omega]
 . refine R1 rfl (.bp ⟨λ_=>?_,λ_=>rfl⟩)
   rw[W0b (by omega),W0b (by omega)] at ht
   have:=Xag z.natAbs
   rw[ht,Xag] at this
   omega
end Go.Proofs.YtfjafaehfjjaiaaGreatDoor.R2

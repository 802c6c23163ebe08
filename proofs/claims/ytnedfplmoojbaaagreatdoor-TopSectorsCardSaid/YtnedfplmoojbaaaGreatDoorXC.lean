/- part 3 -/
import Derived.Test.YtnedfplmoojbaaaGreatDoorXB
import Derived.RangeFuncBox
import Derived.RangeFuncLeaves
import Derived.Shelf.Abstract
import Derived.WalkKit
import Derived.OwnWalkIn
import Derived.TacticsInMore
import Derived.LoopNIn
import Derived.LoopIn
set_option linter.unusedVariables false
set_option linter.unusedSimpArgs false
set_option maxRecDepth 10000
namespace Go.Vm
open Go
section
section
variable{c:Cx}{s:St}
noncomputable def nxT(tb:Nat->Option TI)(n:Nat)(id:Option Nat)(s:St): Option (List (Nat×Bool)×Code×List Kt×Env×Hpl):=match (match id with
 | some id=>runT tb n id 1000 s
 | none=>runN tb n 1000 s) with
 | .j G (.c x::K) E H=>some (G,x,K,E,H)
 | _=>none
def AtJ{α:Type}(E':α->Env)(H':α->Hpl)(I:α->Prop)(s:S): Prop:=∃x,s=sem (E' x) (H' x)/\I x
theorem Cu{α:Type}(id:Option Nat)(E':α->Env)(H':α->Hpl)(I:α->Prop){G:List (Nat×Bool)}{x:Code}{K:List Kt}{E:Env}{H:Hpl}(h:nxT c.tb c.n id s=some (G,x,K,E,H))
 (M:StP c (.j G (.c x::.l (AtJ E' H' I)::K) E H)) (O:∀y,I y->StP c (.j [] K (E' y) (H' y))):StP c s:=by
 have i:StP c (.j G (.c x::K) E H):=J.cut (AtJ E' H' I) M (λs T=>by obtain⟨y,rfl,U⟩:=T;exact O y U)
 unfold nxT at h
 cases id with
 | none =>
  simp only at h
  split at h<;>cases h
  rename_i o
  exact go 1000 o i
 | some id =>
  simp only at h
  split at h<;>cases h
  rename_i o
  exact Xfs 1000 (by rw[o];exact i)
theorem Jn{α:Type}{E':α->Env}{H':α->Hpl}{I:α->Prop}{K:List Kt}{E:Env}{H:Hpl}(x:α)(r:List (Nat×Nat))(h:nxB c.tb c.n s=some (AtJ E' H' I,K,E,H))(hI:I x)(hf:Ynu r E (E' x) H (H' x):=by exact⟨rfl,rfl,rfl,rfl,rfl⟩): StP c s:=by
 unfold nxB at h
 split at h<;>cases h
 rename_i i
 exact go 1000 i (Ypa hf (J.at' ⟨x,rfl,hI⟩))
end
end
section
def Xof(θ:Loc)(H0:Hpl)(b:Nat): Prop:=∃o x,look H0 o=some x/\x.live=true/\(θ o).1=some b
def okH(H0 H':Hpl): Bool:=(H0.all λx=>Xcl H' x.1)&&H'.all λx=>Xcl H0 x.1||Nat.beq x.1 1000000
def Ynt(W0:GW)(θ0:Loc)(H0:Hpl)(Post:AV->Hpl->Prop)(e:Ending)(j:World): Prop :=
 ∃W' h v u H',e=.returned u/\W'.w=j/\Fm W0 W' (Xof θ0 H0)/\Obs W' h (λb=>W0.size<=b\/Xof θ0 H0 b) (look H')/\AV.V W' h v u/\(∀i,v.ids i->∃y,look H' i=some y)/\(∀i y,look H0 i=some y->h i=θ0 i)/\okH H0 H'=true/\Post v H'
def CW(P:Program)[Gb P](f:FuncId)(args:List AV)(H0:Hpl)(Post:AV->Hpl->Prop): Prop:=Yp3 P f/\∀W θ h,Gb.g P W->Obs W θ (λ_=>True) (look H0)->Xjy W θ args h->Calls P f h.toArray W.w (Ynt W θ H0 Post)
theorem Ynl{α:Type _}{H:List (Nat×α)}{i:Nat}: Xcl H i=true↔∃y,look H i=some y:=by
 unfold Xcl;split
 rename_i y h;simp[h]
 rename_i h;simp[h]
theorem Xbp{α:Type _}{H:List (Nat×α)}{i:Nat}(h:Xcl H i=false): look H i=none:=by
 unfold Xcl at h;split at h<;>first | assumption | cases h
theorem Xyk{W:GW}{θ:Loc}: ∀ {asx:List AV} {vs:List Value} {i t:Nat} {v:AV},Xjy W θ asx vs->Ybw i asx t=some v->i<=t/\∃u,vs[t-i]?=some u/\AV.V W θ v u
 | [],[],i,t,v,_,h=>by simp[Ybw] at h
 | a::asx,u::vs,i,t,v,ha,h=>by
  rcases Xae h with ⟨o,j⟩ | ⟨o,j⟩
  subst o;subst j;exact⟨W0a _,u,by simp,ha.1⟩
  obtain⟨O,w,I,M⟩:=Xyk ha.2 j
  exact⟨by omega,w,by rw[show t-i=(t-(i+1))+1 by omega];simpa using I,M⟩
 | [],_::_,_,_,_,h,_=>h.elim
 | _::_,[],_,_,_,h,_=>h.elim
abbrev cxW(P:Program)(gb:Gb P)(t:Tab P)(m:Mx P)(i:∀T ti,t.tb T=some ti->∀a c,ti.z≠.pr a c)(n:Nat)(j:n<=1000000)(fn:Func)(W:GW)(θ:Loc)(H0:Hpl)(Post:AV->Hpl->Prop)(o:gb.g W): Cx:=⟨P,gb,t.tb,λT ti h=>⟨t.ok T ti h,i T ti h⟩,m,n,j,W,Xof θ H0,θ,bodyPost P fn (Ynt W θ H0 Post),o⟩
class WkW (c:Cx) (fn:outParam Func) (H0:outParam Hpl) (Post:outParam (AV->Hpl->Prop)):Prop where
 x:c.X=Xof c.θ0 H0
 f:c.fin=bodyPost c.P fn (Ynt c.W0 c.θ0 H0 Post)
instance {P gb t m h n i fn W θ H0 Post j}:WkW (cxW P gb t m h n i fn W θ H0 Post j) fn H0 Post:=⟨rfl,rfl⟩
theorem EnW {P : Program} [gb : Gb P] [t : Tab P] [hp : Npr P] [m : Mx P] {f n : Nat} {fn : Func} {x : Code} {args : List AV} {H0 : Hpl} {Post : AV → Hpl → Prop} (hf : P.funcs[f]? = some fn) (h : ∀ W θ hg hn, StP (cxW P gb t m hp.h n hn fn W θ H0 Post hg) (.j [] [.c x] (Yig 0 args) H0)) (hname : (fn.name == "runtime.NumGoroutine") = false := by exact rfl) (hb : fn.body = some x := by exact rfl)
 (hN:fn.ntmps=n:=by exact rfl) (hl:(Nat.ble args.length n&&Nat.ble n 1000000&&Xob (Yig 0 args) H0)=true:=by exact rfl):CW P f args H0 Post:=by
 refine⟨⟨fn,hf,hname,by rw[hb];rfl⟩,λW θ vs hg hO ha=>calls_of_wp hf hb ?_⟩
 simp only[W0d] at hl
 obtain⟨⟨hl1,hl2⟩,hl3⟩:=hl
 have hl1:=W1e hl1
 have hlen:=ha.len
 have hc:=Xoa hl3
 have h1:J _ _ (sem _ _):=h W θ hg (W1e hl2)
 refine wp_mono (h1 _ W.w ⟨_,W,θ,rfl,⟨Fm.refl W _,⟨rfl,by simp[hN];omega,λt v ht=>?_⟩,⟨hO.r,λo x b h1 h2 h3=>.inr ⟨o,x,h1,h2,h3⟩,hO.dis,hO.ids⟩,hc.1⟩,λ_ _=>rfl,rfl⟩) λe a w h=>by cases e<;>exact h
 have ht:Ybw 0 args t=some v:=by rw[Xms];exact ht
 obtain⟨_,u,h2,h3⟩:=Xyk ha ht
 rw[W6j] at h2
 have hlt:=Xbe h2
 rw[W0e hlt] at h2
 injection h2 with h2
 simp only[Array.getD]
 rw[dif_pos (by simp;omega)]
 simp[W7d,hlt,h2]
 exact h3
section
variable{c:Cx}{s:St}{p:Pl}
theorem Yfh{W0:GW}{X:Nat->Prop}{n:Nat}{E:Env}{H:Hpl}{a:Act}{W:GW}{θ:Loc}{o U:Nat}(T:look H U=none)(O:Sat W0 X n (sem E H) a W θ): Sat W0 X n (sem (Yc4 o U E) (Xuc o U H)) a W (rnθ o U θ):=by
 have M:∀ {i y},look H i=some y->i≠U:=λh e=>by rw[e,T] at h;cases h
 have hni:∀ {v:AV},(∀i,v.ids i->∃y,look H i=some y)->¬v.ids U:=λh hi=>by obtain⟨y,hy⟩:=h U hi;rw[T] at hy;cases hy
 refine⟨O.fm,⟨O.rel.defers,O.rel.size,λt v ht=>?_⟩,⟨λi x Z=>?_,λi x b Z hl hb=>?_,λi j x x' b Z hx' hl hl' I h2=>?_,λi x q Z hq=>?_⟩,λt v i ht hi=>?_⟩
 obtain⟨u,I,rfl⟩:=Xex ht
 exact Yjx (hni λi hi=>O.ids t u i I hi) (O.rel.has t u I)
 obtain⟨j,y,I,rfl,rfl⟩:=Xbz T Z
 exact Yde (M I) (λhi=>by obtain⟨z,V⟩:=O.obs.ids j y U I hi;have V:look H U=some z:=V;rw[T] at V;cases V) (O.obs.r j y I)
 obtain⟨j,y,I,rfl,rfl⟩:=Xbz T Z
 rw[Xba (M I)] at hb
 exact O.obs.new j y b I (by cases y<;>first | rfl | cases hl) hb
 obtain⟨q,y,k1,rfl,rfl⟩:=Xbz T Z
 obtain⟨q',y',k1',rfl,rfl⟩:=Xbz T hx'
 rw[Xba (M k1)] at I
 rw[Xba (M k1')] at h2
 rw[O.obs.dis q q' y y' b k1 k1' (by cases y<;>first | rfl | cases hl) (by cases y'<;>first | rfl | cases hl') I h2]
 obtain⟨j,y,I,rfl,rfl⟩:=Xbz T Z
 cases y with
 | var a =>
  obtain⟨r,h2,rfl⟩:=Xls (a:=a) hq
  obtain⟨z,V⟩:=O.obs.ids j _ r I h2
  exact Xdd T V
 | _=>exact hq.elim
 obtain⟨u,I,rfl⟩:=Xex ht
 obtain⟨r,h2,rfl⟩:=Xls hi
 obtain⟨z,V⟩:=O.ids t u r I h2
 exact Xdd T V
def okN: List (Nat×Nat)->Hpl->Bool
 | [],_=>true
 | (o,h)::r,H=>!Xcl H h&&okN r (Xuc o h H)
theorem Yc3{W0:GW}{X:Nat->Prop}{n:Nat}{a:Act}{W:GW}: ∀ {r:List (Nat×Nat)} {E:Env} {H:Hpl} {θ:Loc},okN r H=true->Sat W0 X n (sem E H) a W θ->∃θ',Sat W0 X n (sem (rnE r E) (rnH r H)) a W θ'/\∀i,Xcl (r.map λx=>(x.2,x.1)) i=false->θ' i=θ i
 | [],E,H,θ,_,I=>⟨θ,I,λ_ _=>rfl⟩
 | (o,M)::r,E,H,θ,h,I=>by
  simp only[okN,W0d,W1v] at h
  obtain⟨θ',O,T⟩:=Yc3 h.2 (Yfh (Xbp h.1) I)
  refine⟨θ',O,λi hi=>?_⟩
  have j:Nat.beq i M=false/\Xcl (r.map λx=>(x.2,x.1)) i=false:=by
   simp only[Xcl,W5a,look] at hi |-
   cases e:Nat.beq i M with
   | true=>rw[e] at hi;cases hi
   | false=>rw[e] at hi;exact⟨rfl,hi⟩
  rw[T i j.2]
  unfold rnθ
  rw[if_neg λe=>by rw[e] at j;simp at j]
noncomputable def nxW(tb:Nat->Option TI)(n:Nat)(r:List (Nat×Nat))(h:List ResultVar)(s:St): Option (AV×Hpl):=match runN tb n 1000 s with
 | .j _ (.c .ret::_) E H=>match Xy3 tb (sem (rnE r E) (rnH r H)) h with
  | some v=>some (v,H)
  | none=>none
 | .j _ [] E H=>match Xy3 tb (sem (rnE r E) (rnH r H)) h with
  | some v=>some (v,H)
  | none=>none
 | _=>none
theorem Xsm{fn:Func}{H0 H':Hpl}{Post:AV->Hpl->Prop}(hX:c.X=Xof c.θ0 H0){E:Env}{H:Hpl}{r:List (Nat×Nat)}{v v':AV}(hr:Xy3 c.tb (sem (rnE r E) (rnH r H)) fn.results.toList=some v)(hf:FitR (look (rnH r H)) H' v v')(hq:Post v' H')
 (hH:Xua (rnH r H) H') (hk:(okN r H&&okH H0 H'&&(H0.all λx=>Nat.ble 1000000 x.1 && !Xcl (r.map λx=>(x.2,x.1)) x.1)&&H'.all λx=>Xjh H' x.2)=true) {a:Act} {w:World} (h:c.Nx (λs'=>s'=sem E H) a w) :
 a.defers=[]/\∃u,(results fn a.tmps).run c.P w=.ok u w/\Ynt c.W0 c.θ0 H0 Post (.returned u) w:=by
 obtain⟨s',W,θ,rfl,hs,hθ,rfl⟩:=h
 simp only[W0d] at hk
 obtain⟨⟨⟨k1,k2⟩,k3⟩,k4⟩:=hk
 obtain⟨U,T,Z⟩:=Yc3 k1 hs
 obtain⟨u,hu,hv⟩:=Xrj c.hT T hr
 have I:=T.fm
 have j:=T.obs
 refine⟨T.rel.defers,u,hu,?_⟩
 have M:∀ {o x},look H' o=some x->look (rnH r H) o=some x:=λh=>Xlf hH h
 let W':GW:=⟨W.w,λb i=>W.A b i/\((b<c.W0.size/\¬c.X b)\/∃o x,look H' o=some x/\x.live=true/\(U o).1=some b),λb i h=>W.hA b i h.1⟩
 have V:LeF W W':=λb i x O=>⟨O.1,λhA=>O.2 hA.1⟩
 have E:Exi W W' (λb=>c.W0.size<=b\/c.X b) U (look (rnH r H)) H':=⟨j,V,λo x b ho hl hb hk i y hy=>⟨hy,λhA=>by
  rcases hA.2 with ⟨h1,h2⟩ | ⟨o2,x2,h1,h2,h3⟩
  exact(j.new o x b ho hl hb).elim (λh=>absurd h1 (W6f.2 h)) h2
  have:=j.dis o o2 x x2 b ho (M h1) hl h2 hb h3
  subst this
  rw[Xbp hk] at h1;cases h1⟩⟩
 obtain⟨f1,f2⟩:=Ygw E hf hv
 refine⟨W',U,v',u,H',rfl,rfl,?_,?_,f1,f2,λi y hi=>?_,k2,hq⟩
 rw[<-hX]
 exact⟨I.os,I.out,I.tape,I.size,I.same,λb hb O i=>⟨λh=>(I.A b hb O i).1 h.1,λh=>⟨(I.A b hb O i).2 h,.inl ⟨hb,O⟩⟩⟩,I.le.trans V⟩
 rw[<-hX]
 refine⟨λo x O=>(j.r o x (M O)).keep V rfl (λ_ _=>rfl) λhl b hb=>⟨rfl,λi hA=>⟨hA,.inr ⟨o,x,O,hl,hb⟩⟩⟩,λo x b O=>j.new o x b (M O),λo o' x x' b O hx'=>j.dis o o' x x' b (M O) (M hx'),λo x i O hi=>?_⟩
 have:=W1q.1 k4 _ (Xbi O)
 cases x with
 | var a=>exact Xgo (a:=a) this i hi
 | _=>exact hi.elim
 have:=W1q.1 k3 _ (Xbi hi)
 simp only[W0d,W1v] at this
 rw[Z i this.2]
 exact hθ i (W1e this.1)
theorem Rw{fn:Func}{H0:Hpl}{Post:AV->Hpl->Prop}[w:WkW c fn H0 Post](r:List (Nat×Nat))(H':Hpl){v o:AV}{H:Hpl}(h:nxW c.tb c.n r fn.results.toList s=some (v,H))(hf:FitR (look (rnH r H)) H' v o)(hq:Post o H')
 (I:Xua (rnH r H) H':=by exact rfl) (M:(okN r H&&okH H0 H'&&(H0.all λx=>Nat.ble 1000000 x.1 && !Xcl (r.map λx=>(x.2,x.1)) x.1)&&H'.all λx=>Xjh H' x.2)=true:=by exact rfl):StP c s:=by
 unfold nxW at h
 split at h<;>try cases h
 rename_i i
 split at h<;>cases h
 rename_i j
 exact go 1000 i (J.ret λa O h=>by rw[w.f];exact Xsm w.x j hf hq I M h)
 rename_i i
 split at h<;>cases h
 rename_i j
 exact go 1000 i (λa O h=>by show c.fin .normal a O;rw[w.f];exact Xsm w.x j hf hq I M h)
end
def AV.rnf(ρ:Nat->Nat): AV->AV
 | .st a=>.st (a.rnf ρ)
 | .pr a c=>.pr (a.rnf ρ) (c.rnf ρ)
 | .tup a=>.tup (a.rnf ρ)
 | .fm f a=>.fm f (a.rnf ρ)
 | .ptr i f=>.ptr (ρ i) f
 | .own i sz l n=>.own (ρ i) sz l n
 | .ow3 i sz l n=>.ow3 (ρ i) sz l n
 | .gr i sz xs=>.gr (ρ i) sz xs
 | .el i sz j f=>.el (ρ i) sz j f
 | .fn f i=>.fn f (ρ i)
 | .ap i n=>.ap (ρ i) n
 | .cx i l n=>.cx (ρ i) l n
 | a=>a
def Ob.rnf(ρ:Nat->Nat): Ob->Ob
 | .var a=>.var (a.rnf ρ)
 | x=>x
def rnL: List (Nat×Nat)->Nat->Nat
 | [],i=>i
 | (o,h)::r,i=>match Nat.beq i o with
  | true=>h
  | false=>rnL r i
def rfH(ρ:Nat->Nat)(H:Hpl): Hpl:=H.map λx=>(ρ x.1,x.2.rnf ρ)
theorem Yjt{W:GW}{θ:Loc}{ρ:Nat->Nat}: ∀ {a:AV} {cs:List Value},AV.C W θ (a.rnf ρ) cs↔AV.C W (λi=>θ (ρ i)) a cs:=by
 intro a
 induction a with
 | st a h=>exact h
 | pr a c j o=>intro cs;simp only[AV.rnf,AV.C,j,o]
 | fm f a h=>intro cs;simp only[AV.rnf,AV.C,h]
 | _=>intro cs;exact W4a
theorem Yjs{ρ:Nat->Nat}(a:AV): (a.rnf ρ).ag=a.ag:=by cases a<;>rfl
theorem Xvt{W:GW}{θ:Loc}{ρ:Nat->Nat}{a:AV}{v:Value}: AV.V1 W θ (a.rnf ρ) v↔AV.V1 W (λi=>θ (ρ i)) a v:=by
 unfold AV.V1;simp only[Yjt,Yjs]
theorem Yoh{W:GW}{θ:Loc}{ρ:Nat->Nat}: ∀ {a:AV} {vs:List Value},AV.T W θ (a.rnf ρ) vs↔AV.T W (λi=>θ (ρ i)) a vs:=by
 intro a
 induction a with
 | pr a c _ j =>
  intro vs
  match vs with
  | v::vs=>simp only[AV.rnf,AV.T,Xvt,j]
  | []=>exact W4a
 | un =>
  intro vs
  match vs with
  | []=>exact W4a
  | [v]=>exact⟨λ⟨_,h,_⟩=>h.elim,λ⟨_,h,_⟩=>h.elim⟩
  | _::_::_=>exact W4a
 | _ =>
  intro vs
  match vs with
  | []=>exact W4a
  | [v]=>exact Xvt
  | _::_::_=>exact W4a
theorem Yrr{W:GW}{θ:Loc}{ρ:Nat->Nat}{a:AV}{v:Value}: AV.V W θ (a.rnf ρ) v↔AV.V W (λi=>θ (ρ i)) a v:=by
 cases a with
 | tup a=>simp only[AV.rnf,AV.V,Yoh]
 | un=>exact W4a
 | _=>exact Xvt
theorem Yog{ρ:Nat->Nat}{i:Nat}: ∀ {a:AV},(a.rnf ρ).ids i↔∃j,a.ids j/\i=ρ j:=by
 intro a
 induction a with
 | st a O=>exact O
 | tup a O=>exact O
 | fm f a O=>exact O
 | pr a c T U =>
  simp only[AV.rnf,AV.ids,T,U]
  exact⟨λh=>h.elim (λ⟨j,M,I⟩=>⟨j,.inl M,I⟩) λ⟨j,M,I⟩=>⟨j,.inr M,I⟩,λ⟨j,M,I⟩=>M.elim (λh=>.inl ⟨j,h,I⟩) λh=>.inr ⟨j,h,I⟩⟩
 | ptr o f=>exact⟨λh=>⟨o,rfl,h⟩,λ⟨j,M,I⟩=>by rw[show j=o from M] at I;exact I⟩
 | own o _ _ _=>exact⟨λh=>⟨o,rfl,h⟩,λ⟨j,M,I⟩=>by rw[show j=o from M] at I;exact I⟩
 | ow3 o _ _ _=>exact⟨λh=>⟨o,rfl,h⟩,λ⟨j,M,I⟩=>by rw[show j=o from M] at I;exact I⟩
 | gr o _ _=>exact⟨λh=>⟨o,rfl,h⟩,λ⟨j,M,I⟩=>by rw[show j=o from M] at I;exact I⟩
 | el o _ _ _=>exact⟨λh=>⟨o,rfl,h⟩,λ⟨j,M,I⟩=>by rw[show j=o from M] at I;exact I⟩
 | fn _ o=>exact⟨λh=>⟨o,rfl,h⟩,λ⟨j,M,I⟩=>by rw[show j=o from M] at I;exact I⟩
 | ap o _=>exact⟨λh=>⟨o,rfl,h⟩,λ⟨j,M,I⟩=>by rw[show j=o from M] at I;exact I⟩
 | cx o _ _=>exact⟨λh=>⟨o,rfl,h⟩,λ⟨j,M,I⟩=>by rw[show j=o from M] at I;exact I⟩
 | _=>exact⟨λh=>h.elim,λ⟨j,h,_⟩=>h.elim⟩
theorem Yrs{W:GW}{θ:Loc}{ρ:Nat->Nat}{o:Nat}{x:Ob}: (x.rnf ρ).R W θ (ρ o)↔x.R W (λi=>θ (ρ i)) o:=by
 cases x with
 | var a=>simp only[Ob.rnf,Ob.R,Yjt]
 | _=>exact W4a
theorem Xd8{ρ:Nat->Nat}(x:Ob): (x.rnf ρ).live=x.live:=by cases x<;>rfl
theorem Xr5{ρ:Nat->Nat}: ∀ {H:Hpl} {j:Nat} {x:Ob},(∀a b,Xcl H a=true->Xcl H b=true->ρ a=ρ b->a=b)->look (rfH ρ H) j=some x->∃i y,look H i=some y/\j=ρ i/\x=y.rnf ρ
 | [],_,_,_,h=>by simp[rfH,look] at h
 | (s,w)::H,j,x,hi,h=>by
  simp only[rfH,W5a,look] at h
  split at h
  rename_i hb
  injection h with h
  exact⟨s,w,by simp[look],W0c hb,h.symm⟩
  rename_i hb
  have o:∀a,Xcl H a=true->Xcl ((s,w)::H) a=true:=λa ha=>by
   simp only[Xcl,look] at ha |-
   cases Nat.beq a s<;>first | exact ha | rfl
  obtain⟨i,y,M,I,O⟩:=Xr5 (λa b ha hb=>hi a b (o a ha) (o b hb)) h
  refine⟨i,y,?_,I,O⟩
  have:i≠s:=λe=>by subst e;rw[I] at hb;simp at hb
  simp only[look,Ydi this];exact M
theorem Xdc{ρ:Nat->Nat}: ∀ {H:Hpl} {i:Nat} {y:Ob},look H i=some y->∃x,look (rfH ρ H) (ρ i)=some x
 | [],_,_,h=>by simp[look] at h
 | (s,w)::H,i,y,h=>by
  simp only[rfH,W5a,look]
  by_cases e:i=s
  subst e;exact⟨w.rnf ρ,by simp⟩
  simp only[look,Ydi e] at h
  obtain⟨x,j⟩:=Xdc h
  split
  exact⟨_,rfl⟩
  exact⟨x,j⟩
theorem Xdw{g:Hp}: ∀ {l:List (Nat×Ob)} {o:Nat},Xbj g l o=match look l o with | some x=>some x | none=>g o
 | [],_=>rfl
 | (h,x)::l,o=>by
  simp only[Xbj,upd,look]
  cases Nat.beq o h with
  | true=>rfl
  | false=>exact Xdw
theorem Xrh{W:GW}{θ:Loc}{ρ:Nat->Nat}: ∀ {args:List AV} {vs:List Value},Xjy W θ (args.map (AV.rnf ρ)) vs->Xjy W (λi=>θ (ρ i)) args vs
 | [],[],_=>trivial
 | [],_::_,h=>h.elim
 | _::_,[],h=>h.elim
 | _::_,_::_,h=>⟨Yrr.1 h.1,Xrh h.2⟩
theorem CW.cs{P:Program}[Gb P]{f:FuncId}{args:List AV}{H0:Hpl}{Post:AV->Hpl->Prop}(h:CW P f args H0 Post)(r:List (Nat×Nat))(d:Nat){g:Hp}(hd:d<1000000)(hgd:g d=none)(hH:∀o x,look H0 o=some x->g (rnL r o)=some (x.rnf (rnL r)))(h0:Xcl H0 1000000=false)
 (hinj:∀a b,Xcl H0 a=true->Xcl H0 b=true->rnL r a=rnL r b->a=b) (hids:∀a∈args,Xds H0 a=true) (hcl:(H0.all λx=>Xjh H0 x.2)=true) :
 CS P f (args.map (AV.rnf (rnL r))) g λv g'=>∃v0 H',okH H0 H'=true/\Post v0 H'/\v=v0.rnf (rnL ((1000000,d)::r))/\g'=Xbj g (rfH (rnL ((1000000,d)::r)) H'):=by
 refine⟨h.1,λN W θ vs hg hO hN _ ha=>?_⟩
 have hl:∀ {o x},look H0 o=some x->g (rnL r o)=some (x.rnf (rnL r)):=λh=>hH _ _ h
 have hO0:Obs W (λi=>θ (rnL r i)) (λ_=>True) (look H0):=by
  refine⟨λo x M=>Yrs.1 (hO.r _ _ (hl M)),λ_ _ _ _ _ _=>trivial,λo o' x x' b M hx' k k' b1 b2=>?_,λo x i M hi=>?_⟩
  exact hinj o o' (Ynl.2 ⟨x,M⟩) (Ynl.2 ⟨x',hx'⟩) (hO.dis _ _ _ _ b (hl M) (hl hx') (by rw[Xd8];exact k) (by rw[Xd8];exact k') b1 b2)
  have:=W1q.1 hcl _ (Xbi M)
  cases x with
  | var a=>exact Xgo (a:=a) this i hi
  | _=>exact hi.elim
 have ha0:Xjy W (λi=>θ (rnL r i)) args vs:=Xrh ha
 refine(h.2 W _ vs hg hO0 ha0).mono ?_
 rintro e w' ⟨W',θ',v,u,H',rfl,rfl,hf,hob,hv,hvi,hθ,hok,hp⟩
 have hok':=hok
 simp only[okH,W0d] at hok
 obtain⟨ok1,ok2⟩:=hok
 have hX:∀b,Xof (λi=>θ (rnL r i)) H0 b->b<W.size/\N b/\∃o x y,look H0 o=some y/\g (rnL r o)=some x/\x.live=true/\(θ (rnL r o)).1=some b:=by
  rintro b ⟨o,x,O,h2,h3⟩
  have I:(x.rnf (rnL r)).live=true:=by rw[Xd8];exact h2
  exact⟨hO.lt (hl O) I h3,hO.new _ _ b (hl O) I h3,o,_,x,O,hl O,I,h3⟩
 have hnd:∀ {i},Xcl H0 i=true->rnL ((1000000,d)::r) i=rnL r i:=by
  intro i hi
  have:i≠1000000:=λe=>by rw[e,h0] at hi;cases hi
  simp only[rnL,Ydi this]
 have hdn:rnL ((1000000,d)::r) 1000000=d:=by simp[rnL]
 have hcase:∀ {i},Xcl H' i=true->Xcl H0 i=true\/i=1000000:=by
  intro i hi
  obtain⟨y,T⟩:=Ynl.1 hi
  have:=W1q.1 ok2 _ (Xbi T)
  rw[W4e] at this
  exact this.imp id W0c
 have hgo:∀ {i},Xcl H0 i=true->∃x,g (rnL r i)=some x:=λhi=>by obtain⟨y,T⟩:=Ynl.1 hi;exact⟨_,hl T⟩
 have hne:∀ {i},Xcl H0 i=true->rnL r i≠d:=λhi e=>by obtain⟨x,M⟩:=hgo hi;rw[e,hgd] at M;cases M
 have hinj':∀a b,Xcl H' a=true->Xcl H' b=true->rnL ((1000000,d)::r) a=rnL ((1000000,d)::r) b->a=b:=by
  intro a b ha hb hab
  rcases hcase ha with O | O<;>rcases hcase hb with h2 | h2
  rw[hnd O,hnd h2] at hab;exact hinj a b O h2 hab
  rw[hnd O,h2,hdn] at hab;exact absurd hab (hne O)
  rw[hnd h2,O,hdn] at hab;exact absurd hab.symm (hne h2)
  rw[O,h2]
 let θ2:Loc:=λi=>if i=d then θ' 1000000 else θ i
 have Z:∀ {i},Xcl H' i=true->θ2 (rnL ((1000000,d)::r) i)=θ' i:=by
  intro i hi
  rcases hcase hi with O | O
  rw[hnd O]
  obtain⟨y,T⟩:=Ynl.1 O
  show (if _ then _ else _)=_
  rw[if_neg (hne O)]
  exact(hθ i y T).symm
  rw[O,hdn];exact if_pos rfl
 have U:∀ {o x},g o=some x->θ2 o=θ o:=λho=>if_neg λe=>by rw[e,hgd] at ho;cases ho
 have hR':∀ {i y},look H' i=some y->(y.rnf (rnL ((1000000,d)::r))).R W' θ2 (rnL ((1000000,d)::r) i):=by
  intro i y T
  refine Yrs.2 ((hob.r i y T).keep (LeF.refl W') (Z (Ynl.2 ⟨y,T⟩)) (λj hj=>?_) λ_ _ _=>⟨rfl,λ_ h=>h⟩)
  obtain⟨z,hz⟩:=hob.ids i y j T hj
  exact Z (Ynl.2 ⟨z,hz⟩)
 have V:∀ {o x},Xbj g (rfH (rnL ((1000000,d)::r)) H') o=some x->(∃i y,look H' i=some y/\o=rnL ((1000000,d)::r) i/\x=y.rnf (rnL ((1000000,d)::r))) \/
  (g o=some x/\∀b,x.live=true->(θ o).1=some b->b<W.size/\¬Xof (λi=>θ (rnL r i)) H0 b):=by
  intro o x M
  rw[Xdw] at M
  split at M
  rename_i y T
  injection M with M;subst M
  exact .inl (Xr5 hinj' T)
  rename_i hn
  refine .inr ⟨M,λb I hb=>⟨hO.lt M I hb,λhXb=>?_⟩⟩
  obtain⟨_,_,o1,x1,y1,O,h2,h3,h4⟩:=hX b hXb
  have:=hO.dis o _ x x1 b M h2 I h3 hb h4
  have hk:Xcl H' o1=true:=by
   have:=W1q.1 ok1 _ (Xbi O);exact this
  obtain⟨z,hz⟩:=Ynl.1 hk
  obtain⟨q,hq⟩:=Xdc (ρ:=rnL ((1000000,d)::r)) hz
  rw[hnd (Ynl.2 ⟨_,O⟩),<-this,hn] at hq
  cases hq
 have hblk:∀ {i y b},look H' i=some y->y.live=true->(θ2 (rnL ((1000000,d)::r) i)).1=some b->(W.size<=b\/Xof (λi=>θ (rnL r i)) H0 b):=by
  intro i y b T I hb
  rw[Z (Ynl.2 ⟨y,T⟩)] at hb
  exact hob.new i y b T I hb
 refine⟨W',θ2,v.rnf (rnL ((1000000,d)::r)),u,_,rfl,rfl,?_,?_,λi hi=>?_,v,H',hok',hp,rfl,rfl⟩
 exact {
  os:=hf.os,out:=hf.out,tape:=hf.tape,size:=hf.size
  same:=λb hb hN=>hf.same b hb λM=>hN (hX b M).2.1
  A:=λb hb hN=>hf.A b hb λM=>hN (hX b M).2.1
  le:=hf.le
  th:=λi y T=>U T
  hi:=λi hi=>if_neg (by omega)
  obs:={
   r:=λo x M=>by
    rcases V M with ⟨i,y,T,rfl,rfl⟩ | ⟨ho,hb⟩
    exact hR' T
    refine(hO.r o x ho).keep hf.le (U ho) (λi hi=>?_) λI b O=>?_
    obtain⟨z,hz⟩:=hO.ids o x i ho hi
    exact U hz
    obtain⟨b1,b2⟩:=hb b I O
    exact⟨hf.same b b1 b2,λi hA=>(hf.A b b1 b2 i).2 hA⟩
   new:=λo x b M I hb=>by
    rcases V M with ⟨i,y,T,rfl,rfl⟩ | ⟨ho,_⟩
    exact(hblk T (by rw[Xd8] at I;exact I) hb).elim (hN b) λh=>(hX b h).2.1
    rw[U ho] at hb;exact hO.new o x b ho I hb
   dis:=λo o' x x' b M hx' I hlv' hb hb'=>by
    rcases V M with ⟨i,y,T,rfl,rfl⟩ | ⟨ho,O⟩<;>rcases V hx' with ⟨i',y',hy',rfl,rfl⟩ | ⟨ho',h1'⟩
    rw[Xd8] at I hlv'
    rw[Z (Ynl.2 ⟨y,T⟩)] at hb
    rw[Z (Ynl.2 ⟨y',hy'⟩)] at hb'
    rw[hob.dis i i' y y' b T hy' I hlv' hb hb']
    rw[Xd8] at I
    rw[U ho'] at hb'
    obtain⟨b1,b2⟩:=h1' b hlv' hb'
    exact((hblk T I hb).elim (λh=>absurd b1 (W6f.2 h)) b2).elim
    rw[Xd8] at hlv'
    rw[U ho] at hb
    obtain⟨b1,b2⟩:=O b I hb
    exact((hblk hy' hlv' hb').elim (λh=>absurd b1 (W6f.2 h)) b2).elim
    rw[U ho] at hb;rw[U ho'] at hb'
    exact hO.dis o o' x x' b ho ho' I hlv' hb hb'
   ids:=λo x i M hi=>by
    have fin:∀ {j},Xcl H' j=true->∃z,Xbj g (rfH (rnL ((1000000,d)::r)) H') (rnL ((1000000,d)::r) j)=some z:=λhj=>by
     obtain⟨z,hz⟩:=Ynl.1 hj
     obtain⟨q,hq⟩:=Xdc (ρ:=rnL ((1000000,d)::r)) hz
     rw[Xdw,hq];exact⟨q,rfl⟩
    rcases V M with ⟨i',y,T,rfl,rfl⟩ | ⟨ho,_⟩
    cases y with
    | var a =>
     obtain⟨j,O,rfl⟩:=Yog.1 hi
     obtain⟨z,hz⟩:=hob.ids i' _ j T O
     exact fin (Ynl.2 ⟨z,hz⟩)
    | _=>exact hi.elim
    obtain⟨z,hz⟩:=hO.ids o x i ho hi
    rw[Xdw]
    split
    exact⟨_,rfl⟩
    exact⟨z,hz⟩ }
  dom:=λi y T=>by
   rw[Xdw]
   split
   exact⟨_,rfl⟩
   exact⟨y,T⟩ }
 refine Yrr.2 (hv.mono (LeF.refl W') λi hi=>?_)
 obtain⟨z,hz⟩:=hvi i hi
 exact Z (Ynl.2 ⟨z,hz⟩)
 obtain⟨j,O,rfl⟩:=Yog.1 hi
 obtain⟨z,hz⟩:=hvi j O
 obtain⟨q,hq⟩:=Xdc (ρ:=rnL ((1000000,d)::r)) hz
 rw[Xdw,hq];exact⟨q,rfl⟩
end
section
noncomputable def nxK(tb:Nat->Option TI)(n:Nat)(s:St): Option (Pl×FuncId×List AV):=match nxO tb n s with
 | some (p,o)=>match o.op with
  | .call ⟨.value x,asx,h⟩=>match callee (look p.E) x,getEs (look p.E) asx.toList with
   | some (f,ex),some i=>some (p,f,Xj2 tb h.toList i++ex)
   | _,_=>none
  | _=>none
 | none=>none
def Yr5(ρ:Nat->Nat)(H:Hpl): Bool:=H.all λx=>H.all λy=>Nat.beq x.1 y.1 || !Nat.beq (ρ x.1) (ρ y.1)
def Xuf(args:List AV)(H0:Hpl)(r:List (Nat×Nat))(d:Nat)(H:Hpl): Bool:=Nat.blt d 1000000 && !Xcl H d && !Xcl H0 1000000&&Yr5 (rnL r) H0&&(args.all (Xds H0))&&H0.all λx=>Xjh H0 x.2
theorem Xr4{α:Type _}: ∀ {H:List (Nat×α)} {o:Nat} {x:α},(o,x)∈H->Xcl H o=true
 | [],_,_,h=>by cases h
 | (s,w)::H,o,x,h=>by
  simp only[Xcl,look]
  cases e:Nat.beq o s with
  | true=>rfl
  | false =>
   rcases W1s.1 h with h | h
   injection h with i;subst i;simp at e
   exact Xr4 h
section
variable{c:Cx}{s:St}{p:Pl}
theorem Xwb{f:FuncId}{asx:List AV}{R:S->Prop}(h:nxK c.tb c.n s=some (p,f,asx))(hR:R=WL c.P c.tb p.dr p.L (J c p.K) p.l)
 (k:∃o:Oper,p.d=o.dst/\match p.dr with
  | true=>∃j H0 Q,Cd c.P f asx o (look p.H) j H0 Q/\∀r,Nu j o r.2->Q r->R (aft (sem p.E p.H) o r)
  | false=>∃Post,CS c.P f asx (look p.H) Post/\∀v M,Post v M->R (S.put ((sem p.E p.H).1,M) o.dst v)):StP c s:=by
 subst hR
 unfold nxK at h
 split at h<;>try cases h
 rename_i p' o V
 obtain⟨hw,hd⟩:=Xwa V
 split at h<;>try cases h
 rename_i x as' tys he
 split at h<;>cases h
 rename_i ex vs O hf
 obtain⟨Z,i,k⟩:=k
 refine Xnf V (.inl ⟨hw,?_⟩)
 unfold Wb
 rw[he]
 refine .inl ⟨_,_,_,hf,O,?_⟩
 rw[hd] at i
 have e1:∀r,aft (sem p.E p.H) Z r=aft (sem p.E p.H) o r:=λr=>by unfold aft;rw[i]
 have e2:∀j us,Nu j o us↔Nu j Z us:=λj us=>by unfold Nu;rw[i]
 cases I:p.dr with
 | true =>
  rw[I] at k
  obtain⟨j,H0,Q,⟨T,U,k3⟩,k4⟩:=k
  refine⟨j,H0,Q,⟨by rw[i];exact T,U,by rw[i];intro g a b;simp only[e2];exact k3 g a b⟩,λr hr hq=>by rw[<-e1];exact k4 r ((e2 _ _).1 hr) hq⟩
 | false =>
  rw[I] at k
  obtain⟨Post,T,U⟩:=k
  exact⟨_,Post,.inl rfl,T,λv M hv=>by rw[i];exact U v M hv⟩
theorem Xjq{f:FuncId}{args:List AV}{H0:Hpl}{Post:AV->Hpl->Prop}{r:List (Nat×Nat)}{d:Nat}{H:Hpl}(M:CW c.P f args H0 Post)(I:Xuf args H0 r d H=true){g:Hp}(i:g d=none)(O:∀o x,look H0 o=some x->g (rnL r o)=some (x.rnf (rnL r))):
 CS c.P f (args.map (AV.rnf (rnL r))) g λv g'=>∃v0 H',okH H0 H'=true/\Post v0 H'/\v=v0.rnf (rnL ((1000000,d)::r))/\g'=Xbj g (rfH (rnL ((1000000,d)::r)) H'):=by
 simp only[Xuf,W0d,W1v] at I
 obtain⟨⟨⟨⟨⟨T,k2⟩,U⟩,V⟩,Z⟩,k6⟩:=I
 refine M.cs r d (Xr2 T) i O U (λa b ha hb j=>?_) (λa ha=>W1q.1 Z a ha) k6
 obtain⟨x,hx⟩:=Ynl.1 ha
 obtain⟨y,hy⟩:=Ynl.1 hb
 have:=W1q.1 (W1q.1 V _ (Xbi hx)) _ (Xbi hy)
 simp only[W4e,W1v] at this
 rcases this with h | h
 exact W0c h
 rw[j] at h;simp at h
theorem Xpa{H H0:Hpl}{ρ:Nat->Nat}(i:Xua H (rfH ρ H0)){o:Nat}{x:Ob}(h:look H0 o=some x): look H (ρ o)=some (x.rnf ρ):=by
 have j:(ρ o,x.rnf ρ)∈rfH ρ H0:=W4r.2 ⟨_,Xbi h,rfl⟩
 exact W6t.1 i _ j
theorem Cw{f:FuncId}{asx args:List AV}{H0:Hpl}{Post:AV->Hpl->Prop}(r:List (Nat×Nat))(h:nxK c.tb c.n s=some (p,f,asx))(hc:CW c.P f args H0 Post)(k:∀v H',okH H0 H'=true->Post v H'->p.nx' c (v.rnf (rnL ((1000000,p.d.getD 0)::r))) (rfH (rnL ((1000000,p.d.getD 0)::r)) H'))
 (hr:asx=args.map (AV.rnf (rnL r)):=by exact rfl) (hH:Xua p.H (rfH (rnL r) H0):=by exact rfl) (hk:(Xuf args H0 r (p.d.getD 0) p.H && !p.dr)=true:=by exact rfl):StP c s:=by
 rw[W0d,W1v] at hk
 obtain⟨hk,hdr⟩:=hk
 have hk':=hk
 simp only[Xuf,W0d,W1v] at hk'
 refine Xwb h rfl ⟨⟨p.d, .move (.tmp 0), 0, "", #[], none⟩, rfl, ?_⟩
 rw[hdr,hr]
 refine⟨_,Xjq hc hk (Xbp hk'.1.1.1.1.2) (λo x hx=>Xpa hH hx),?_⟩
 rintro v g' ⟨v0,H',h1,h2,rfl,rfl⟩
 have:=Pl.nx'_eq.1 (k v0 H' h1 h2)
 have:WL c.P c.tb p.dr p.L (J c p.K) p.l (sem (Xud p.E p.d _) (_++p.H)):=this
 rw[<-Xfr,hdr] at this
 exact this
theorem Xm0{g:Hp}: ∀ {l:List (Nat×Ob)},(∀o x,(o,x)∈l->g o=some x)->Xbj g l=g
 | [],_=>rfl
 | (o,x)::l,h=>by
  rw[Xbj,Xm0 λo x i=>h o x (W1c _ i)]
  funext t
  by_cases e:t=o
  subst e;rw[Xai,h t x (W0w ..)]
  rw[Xak e]
def CN(P:Program)[Gb P](f:FuncId)(args:List AV)(H0:Hpl)(Q:AV->Prop): Prop:=CW P f args H0 λv H'=>H'=H0/\Q v
theorem Xvu{H0:Hpl}{r:List (Nat×Nat)}{d:Nat}(h0:Xcl H0 1000000=false)(M:(H0.all λx=>Xjh H0 x.2)=true): ∀o x,look H0 o=some x->(rnL ((1000000,d)::r) o,x.rnf (rnL ((1000000,d)::r)))=(rnL r o,x.rnf (rnL r)):=by
 have j:∀i,Xcl H0 i=true->rnL ((1000000,d)::r) i=rnL r i:=λi hi=>by
  have:i≠1000000:=λe=>by rw[e,h0] at hi;cases hi
  simp only[rnL,Ydi this]
 have V:∀ {a:AV},Xds H0 a=true->a.rnf (rnL ((1000000,d)::r))=a.rnf (rnL r):=by
  intro a
  induction a with
  | st a I=>intro h;simp only[AV.rnf];rw[I h]
  | tup a I=>intro h;simp only[AV.rnf];rw[I h]
  | fm f a I=>intro h;simp only[AV.rnf];rw[I h]
  | pr a c O T=>intro h;simp only[Xds,W0d] at h;simp only[AV.rnf];rw[O h.1,T h.2]
  | _=>intro h;first | rfl | (simp only[AV.rnf];rw[j _ h])
 intro o x U
 rw[j o (Ynl.2 ⟨x,U⟩)]
 have:=W1q.1 M _ (Xbi U)
 cases x with
 | var a=>simp only[Ob.rnf];rw[V this]
 | _=>rfl
theorem Cn{f:FuncId}{asx args:List AV}{H0:Hpl}{Q:AV->Prop}(r:List (Nat×Nat))(h:nxK c.tb c.n s=some (p,f,asx))(hc:CN c.P f args H0 Q)(k:∀v,Q v->p.nx c (v.rnf (rnL ((1000000,p.d.getD 0)::r))))
 (hr:asx=args.map (AV.rnf (rnL r)):=by exact rfl) (hH:Xua p.H (rfH (rnL r) H0):=by exact rfl) (hk:(Xuf args H0 r (p.d.getD 0) p.H&&H0.all λx=>asx.any λa=>Xcl (match a with | .ptr o _=>[(o,())] | .own o _ _ _=>[(o,())] | .gr o _ _=>[(o,())] | .fn _ o=>[(o,())] | .ap o _=>[(o,())] | _=>[]) (rnL r x.1))=true:=by exact rfl) (hd:(!p.dr||p.d.isSome)=true:=by exact rfl):StP c s:=by
 rw[W0d] at hk
 obtain⟨hk,hids⟩:=hk
 have hk':=hk
 simp only[Xuf,W0d,W1v] at hk'
 obtain⟨⟨⟨⟨⟨k1,k2⟩,k3⟩,k4⟩,k5⟩,k6⟩:=hk'
 have hsame:∀g:Hp,(∀o x,look H0 o=some x->g (rnL r o)=some (x.rnf (rnL r)))->Xbj g (rfH (rnL ((1000000,p.d.getD 0)::r)) H0)=g:=λg hg=>Xm0 λo x hm=>by
  obtain⟨⟨i,y⟩,hm1,e⟩:=W4r.1 hm
  injection e with e1 e2
  subst e1;subst e2
  have hy:∃z,look H0 i=some z:=by
   exact Ynl.1 (Xr4 hm1)
  obtain⟨z,hz⟩:=hy
  have hm2:=W6t.1 hH (rnL r i,y.rnf (rnL r)) (W4r.2 ⟨_,hm1,rfl⟩)
  have hz2:=Xpa hH hz
  rw[hz2] at hm2
  injection hm2 with hm2
  have h3:=Xvu (d:=p.d.getD 0) (r:=r) k3 k6 i z hz
  injection h3 with h3 h4
  show g (rnL _ i)=some (y.rnf _)
  rw[h3,hg i z hz,hm2]
  congr 1
  have hcl:Xjh H0 y=true:=W1q.1 k6 _ hm1
  have hv:∀ {a:AV},Xds H0 a=true->a.rnf (rnL ((1000000,p.d.getD 0)::r))=a.rnf (rnL r):=by
   intro a
   induction a with
   | st a ih=>intro h;simp only[AV.rnf];rw[ih h]
   | tup a ih=>intro h;simp only[AV.rnf];rw[ih h]
   | fm f a ih=>intro h;simp only[AV.rnf];rw[ih h]
   | pr a c iha ihc=>intro h;simp only[Xds,W0d] at h;simp only[AV.rnf];rw[iha h.1,ihc h.2]
   | _ =>
    intro h
    first
     | rfl
     | (simp only[AV.rnf]
        congr 1
        obtain⟨q,hq⟩:=Ynl.1 h
        have:=Xvu (d:=p.d.getD 0) (r:=r) k3 k6 _ q hq
        injection this)
  cases y with
  | var a=>simp only[Ob.rnf];rw[hv hcl]
  | _=>rfl
 refine Xwb h rfl ⟨⟨p.d, .move (.tmp 0), 0, "", #[], none⟩, rfl, ?_⟩
 have kk:∀v,Q v->WL c.P c.tb p.dr p.L (J c p.K) p.l (S.put (sem p.E p.H) p.d (v.rnf (rnL ((1000000,p.d.getD 0)::r)))):=λv hv=>by
  have:=Pl.nx_eq.1 (k v hv)
  have this:WL c.P c.tb p.dr p.L (J c p.K) p.l (sem (Xud p.E p.d _) p.H):=this
  rw[show S.put (sem p.E p.H) p.d _=sem (Xud p.E p.d _) p.H from Xfr p.E p.H [] p.d _]
  exact this
 have hH':∀o x,look H0 o=some x->look p.H (rnL r o)=some (x.rnf (rnL r)):=λo x hx=>Xpa hH hx
 generalize WL c.P c.tb p.dr p.L (J c p.K) p.l=R at kk |-
 rw[hr] at hids |-
 cases hdr:p.dr with
 | true =>
  obtain⟨dd,hdd⟩:=W3o.1 (show p.d.isSome=true by rw[hdr] at hd;exact hd)
  have hD:p.d.getD 0=dd:=by rw[hdd];rfl
  refine⟨true,look (rfH (rnL r) H0),λq=>q.2=[]/\∃v,Q v/\q.1=v.rnf (rnL ((1000000,p.d.getD 0)::r)),⟨λ_=>⟨dd,hdd,by rw[<-hD];exact Xbp k2⟩,λi y hi=>?_,λg hg hn=>?_⟩,λq _ ⟨hq,v,h1,h2⟩=>?_⟩
  . have hm:=Xbi hi
    refine⟨W6t.1 hH _ hm,?_⟩
    obtain⟨⟨j,z⟩,hm1,e⟩:=W4r.1 hm
    injection e with e1 e2
    have:=W1q.1 hids _ hm1
    obtain⟨a,ha,hk⟩:=List.any_eq_true.1 this
    refine⟨a,ha,?_⟩
    rw[<-e1]
    cases a<;>simp only[Xcl,look] at hk<;>first | (cases hk;done) | skip
    all_goals
     show rnL r j=_
     split at hk
     rename_i hx
     split at hx
     rename_i hb;exact W0c hb
     cases hx
     cases hk
  have hg':∀o x,look H0 o=some x->g (rnL r o)=some (x.rnf (rnL r)):=λo x hx=>hg _ _ (by
   obtain⟨q,hq⟩:=Xdc (ρ:=rnL r) hx
   have h1:=W6t.1 hH _ (Xbi hq)
   rw[hH' o x hx] at h1
   rw[hq];exact h1.symm)
  have hgd:g (p.d.getD 0)=none:=by rw[hD];exact hn rfl dd hdd
  obtain⟨a1,a2⟩:=Xjq hc hk hgd hg'
  refine⟨a1,λN W θ vs b0 b1 b2 b3 b4=>(a2 N W θ vs b0 b1 b2 b3 b4).mono ?_⟩
  rintro e w' ⟨W',θ',v,u,g',c1,c2,c3,c4,c5,v0,H',d1,⟨rfl,d2⟩,rfl,rfl⟩
  exact⟨W',θ',_,u,_,c1,c2,c3,c4,c5,[],.inl rfl,hsame g hg',rfl,v0,d2,rfl⟩
  unfold aft;rw[hq,h2];exact kk v h1
 | false =>
  refine⟨_,Xjq hc hk (Xbp k2) hH',?_⟩
  rintro v g' ⟨v0,H',h1,⟨rfl,h2⟩,rfl,rfl⟩
  rw[hsame _ hH']
  exact kk v0 h2
def CO(P:Program)[Gb P](f:FuncId)(args:List AV)(Q:AV->Ob->Prop): Prop:=CW P f args [] λv H'=>∃h,H'=[(1000000,h)]/\Q v h
theorem Co{f:FuncId}{asx:List AV}{Q:AV->Ob->Prop}(h:nxK c.tb c.n s=some (p,f,asx))(hc:CO c.P f asx Q)(k:∀v ob,Q v ob->p.nx' c (v.rnf (rnL [(1000000,p.d.getD 0)])) [(p.d.getD 0,ob.rnf (rnL [(1000000,p.d.getD 0)]))])
 (hk:(Xuf asx [] [] (p.d.getD 0) p.H&&p.d.isSome)=true:=by exact rfl):StP c s:=by
 rw[W0d] at hk
 obtain⟨hk,hd⟩:=hk
 have hk':=hk
 simp only[Xuf,W0d,W1v] at hk'
 obtain⟨⟨⟨⟨⟨k1,k2⟩,k3⟩,k4⟩,k5⟩,k6⟩:=hk'
 obtain⟨dd,hdd⟩:=W3o.1 hd
 have hD:p.d.getD 0=dd:=by rw[hdd];rfl
 have hid:∀ {a:AV},a.rnf (rnL [])=a:=by
  intro a
  induction a with
  | st a ih=>simp only[AV.rnf,ih]
  | tup a ih=>simp only[AV.rnf,ih]
  | fm f a ih=>simp only[AV.rnf,ih]
  | pr a c iha ihc=>simp only[AV.rnf,iha,ihc]
  | _=>rfl
 have hmap:asx.map (AV.rnf (rnL []))=asx:=by rw[show AV.rnf (rnL [])=id from funext λa=>hid,List.map_id]
 have hcs:∀ {g:Hp},g (p.d.getD 0)=none->CS c.P f asx g λv g'=>∃v0 ob,Q v0 ob/\v=v0.rnf (rnL [(1000000,p.d.getD 0)])/\g'=Xbj g [(p.d.getD 0,ob.rnf (rnL [(1000000,p.d.getD 0)]))]:=by
  intro g hg
  obtain⟨a1,a2⟩:=Xjq hc hk hg (λo x hx=>by simp[look] at hx)
  rw[hmap] at a2
  refine⟨a1,λN W θ vs b0 b1 b2 b3 b4=>(a2 N W θ vs b0 b1 b2 b3 b4).mono ?_⟩
  rintro e w' ⟨W',θ',v,u,g',c1,c2,c3,c4,c5,v0,H',d1,⟨ob,rfl,d2⟩,rfl,rfl⟩
  refine⟨W',θ',_,u,_,c1,c2,c3,c4,c5,v0,ob,d2,rfl,?_⟩
  simp[rfH,rnL]
 refine Xwb h rfl ⟨⟨p.d, .move (.tmp 0), 0, "", #[], none⟩, rfl, ?_⟩
 have kk:∀v ob,Q v ob->WL c.P c.tb p.dr p.L (J c p.K) p.l (S.put ((sem p.E p.H).1,Xbj (sem p.E p.H).2 [(p.d.getD 0,ob.rnf (rnL [(1000000,p.d.getD 0)]))]) p.d (v.rnf (rnL [(1000000,p.d.getD 0)]))):=λv ob hv=>by
  have:=Pl.nx'_eq.1 (k v ob hv)
  have this:WL c.P c.tb p.dr p.L (J c p.K) p.l (sem (Xud p.E p.d _) (_++p.H)):=this
  rw[Xfr]
  exact this
 generalize WL c.P c.tb p.dr p.L (J c p.K) p.l=R at kk |-
 cases p.dr with
 | true =>
  refine⟨true,λ_=>none,λq=>∃v ob,Q v ob/\q=(v.rnf (rnL [(1000000,p.d.getD 0)]),[(p.d.getD 0,ob.rnf (rnL [(1000000,p.d.getD 0)]))]),⟨λ_=>⟨dd,hdd,by rw[<-hD];exact Xbp k2⟩,λi y hi=>(nomatch hi),λg _ hn=>?_⟩,?_⟩
  obtain⟨a1,a2⟩:=hcs (g:=g) (by rw[hD];exact hn rfl dd hdd)
  refine⟨a1,λN W θ vs b0 b1 b2 b3 b4=>(a2 N W θ vs b0 b1 b2 b3 b4).mono ?_⟩
  rintro e w' ⟨W',θ',v,u,g',c1,c2,c3,c4,c5,v0,ob,d1,rfl,rfl⟩
  exact⟨W',θ',_,u,_,c1,c2,c3,c4,c5,_,.inr ⟨rfl,dd,_,hdd,by rw[hD]⟩,rfl,v0,ob,d1,rfl⟩
  rintro q _ ⟨v,ob,h1,rfl⟩
  exact kk v ob h1
 | false =>
  refine⟨_,hcs (Xbp k2),?_⟩
  rintro v g' ⟨v0,ob,h1,rfl,rfl⟩
  exact kk v0 ob h1
def CG(P:Program)[Gb P](f:FuncId)(args:List AV)(sz:Nat)(xs:List D): Prop:=CO P f args λv h=>v=.gr 1000000 sz xs/\h=.tok xs.length sz
theorem Cg{f:FuncId}{asx:List AV}{sz:Nat}{xs:List D}(h:nxK c.tb c.n s=some (p,f,asx))(i:CG c.P f asx sz xs)(k:p.nx' c (.gr (p.d.getD 0) sz xs) [(p.d.getD 0,.tok xs.length sz)])
 (j:(Xuf asx [] [] (p.d.getD 0) p.H&&p.d.isSome)=true:=by exact rfl):StP c s :=
 Co h i (λv I o=>by obtain⟨rfl,rfl⟩:=o;exact k) j
def CA(P:Program)[Gb P](f:FuncId)(args:List AV)(sz:Nat)(xs:List D): Prop:=CO P f args λv h=>v=.own 1000000 sz 0 xs.length/\h=.arr sz xs
theorem Cr{f:FuncId}{asx:List AV}{sz:Nat}{xs:List D}(h:nxK c.tb c.n s=some (p,f,asx))(i:CA c.P f asx sz xs)(k:p.nx' c (.own (p.d.getD 0) sz 0 xs.length) [(p.d.getD 0,.arr sz xs)])
 (j:(Xuf asx [] [] (p.d.getD 0) p.H&&p.d.isSome)=true:=by exact rfl):StP c s :=
 Co h i (λv I o=>by obtain⟨rfl,rfl⟩:=o;exact k) j
end
theorem CW.data{P:Program}[Gb P]{f:FuncId}{args:List AV}{Post:AV->Hpl->Prop}{Q:AV->Prop}(h:CW P f args [] Post)(hn:(args.all Xl2)=true)(hp:∀v H',Post v H'->∃j,FitR (look H') [] v j/\Q j): C P f args Q:=by
 refine⟨h.1,λW vs hg ha=>(h.2 W θe vs hg ⟨λo x h=>(nomatch h),λo x b h=>(nomatch h),λo o' x x' b h=>(nomatch h),λo x i h=>(nomatch h)⟩ ha).mono ?_⟩
 rintro e w' ⟨W',V,v,u,H',rfl,rfl,hf,I,hv,hvi,_,_,Z⟩
 obtain⟨j,M,hq⟩:=hp v H' Z
 have hX:∀b,¬Xof θe ([]:Hpl) b:=λb ⟨o,x,h,_⟩=>(nomatch h)
 let W2:GW:=⟨W'.w,W.A,λb i h=>W0y (W.hA b i h) hf.size⟩
 have hle:LeF W' W2:=λb i x O=>⟨O.1,λT=>O.2 ((hf.A b (W.hA b i T) (hX b) i).2 T)⟩
 have E:Exi W' W2 (λb=>W.size<=b\/Xof θe ([]:Hpl) b) V (look H') []:=⟨I,hle,λo x b ho hl hb _ i y hy=>⟨hy,λT=>absurd (W.hA b i T) (W6f.2 ((I.new o x b ho hl hb).resolve_right (hX b)))⟩⟩
 obtain⟨f1,U⟩:=Ygw E M hv
 have U:∀i,¬j.ids i:=λi hi=>by obtain⟨y,hy⟩:=U i hi;cases hy
 exact⟨W2,j,u,rfl,rfl,⟨hf.os,hf.out,hf.tape,hf.size,λb hb _=>hf.same b hb (hX b),λ_ _ _ _=>W4a,λb i x O=>⟨(hf.le b i x O).1,O.2⟩⟩,f1.mono (LeF.refl W2) λi hi=>absurd hi (U i),U,hq⟩
theorem CG.data{P:Program}[Gb P]{f:FuncId}{args:List AV}{sz:Nat}{xs:List D}(h:CG P f args sz xs)(i:(args.all Xl2)=true:=by exact rfl): C P f args (·=.d (.sl sz xs)) :=
 CW.data h i λv H' ⟨o,e,j,I⟩=>⟨_,by rw[j];exact .one (.gr rfl) rfl rfl,rfl⟩
theorem CA.data{P:Program}[Gb P]{f:FuncId}{args:List AV}{sz:Nat}{xs:List D}(h:CA P f args sz xs)(i:(args.all Xl2)=true:=by exact rfl): C P f args (·=.d (.sl sz xs)) :=
 CW.data h i λv H' ⟨I,e,j,o⟩=>⟨_,by rw[j,e,o];exact .one (.own rfl (by simp) (by simp)) rfl rfl,rfl⟩
end
section
section
variable{c:Cx}{s:St}{p:Pl}
noncomputable def Yqq(tb:Nat->Option TI)(n:Nat)(s:St): Option (Pl×Bool×IntKind×Int×Int):=match nxA tb n s with
 | some (p,o,[.d (.int k x),.d (.int h y)])=>match o.op with
  | .call ⟨.builtin .min,_,_⟩=>if k=h then some (p,true,k,x,y) else none
  | .call ⟨.builtin .max,_,_⟩=>if k=h then some (p,false,k,x,y) else none
  | _=>none
 | _=>none
theorem Mm{b:Bool}{k:IntKind}{x y:Int}(r:Int)(h:Yqq c.tb c.n s=some (p,b,k,x,y))(M:p.nx c (.d (.int k r)))(hr:(match b with | true=>min x y | false=>max x y)=r:=by first | rfl | omega): StP c s:=by
 unfold Yqq at h
 split at h<;>try cases h
 rename_i T o U V Z y1 O
 split at h<;>try cases h
 rename_i asx i j
 split at h<;>cases h
 rename_i I
 refine Xbl (us:=[]) O ?_ (Pl.nx_nil M)
 rw[j]
 simp only[F,Fp,if_pos I]
 subst hr
 simp only[Int.min_def]
 split<;>split<;>first | rfl | (congr;omega)
 rename_i asx i j
 split at h<;>cases h
 rename_i I
 refine Xbl (us:=[]) O ?_ (Pl.nx_nil M)
 rw[j]
 simp only[F,Fp,if_pos I]
 subst hr
 simp only[Int.max_def]
 split<;>split<;>first | rfl | (congr;omega)
noncomputable def nxY(tb:Nat->Option TI)(n:Nat)(s:St): Option (Pl×List UInt8×Int):=match nxA tb n s with
 | some (p,o,[.d (.str t),.d (.int _ j)])=>match o.op with
  | .index T _ _=>match tb T with
   | some ⟨.str _,_,_,_⟩=>some (p,t,j)
   | _=>none
  | _=>none
 | _=>none
theorem Yx(i:Nat)(b:UInt8){t:List UInt8}{j:Int}(h:nxY c.tb c.n s=some (p,t,j))(hb:t[i]?=some b)(o:p.nx c (.d (.int .u8 b.toNat)))(I:j=(i:Int):=by first | exact rfl | omega): StP c s:=by
 subst I
 unfold nxY at h
 split at h<;>try cases h
 rename_i M
 split at h<;>try cases h
 rename_i O
 split at h<;>cases h
 rename_i T
 refine Xbl (us:=[]) M ?_ (Pl.nx_nil o)
 rw[O]
 simp[F,Fp,T,hb]
end
def nbA: AV->AV
 | .d (.bool c)=>.b c
 | a=>a
theorem Yot{W:GW}{θ:Loc}{a:AV}{u:Value}(h:AV.V W θ a u): AV.V W θ (nbA a) u:=by
 unfold nbA;split
 obtain⟨cs,i,j⟩:=h;exact⟨cs,i,j⟩
 exact h
theorem Ykh{W:GW}{θ:Loc}: ∀ {asx:List AV} {vs:List Value},Xjy W θ asx vs->Xjy W θ (asx.map nbA) vs
 | [],[],_=>trivial
 | a::asx,v::vs,h=>⟨Yot h.1,Ykh h.2⟩
 | [],_::_,h=>h.elim
 | _::_,[],h=>h.elim
theorem C.mono{P:Program}[Gb P]{f:FuncId}{asx:List AV}{Q Q':AV->Prop}(h:C P f asx Q)(k:∀v,Q v->Q' v): C P f asx Q':=⟨h.1,λW i j ha=>(h.2 W i j ha).mono λe V ⟨W',v,u,o,I,M,O,T,U⟩=>⟨W',v,u,o,I,M,O,T,k v U⟩⟩
theorem C.nb{P:Program}[Gb P]{f:FuncId}{asx:List AV}{Q:AV->Prop}(h:C P f (asx.map nbA) Q): C P f asx Q:=⟨h.1,λW i j ha=>h.2 W i j (Ykh ha)⟩
end
section
def Yk6: AV->List Nat
 | .st a | .tup a | .fm _ a=>Yk6 a
 | .pr a c=>Yk6 a++Yk6 c
 | .ptr o _ | .own o _ _ _ | .ow3 o _ _ _ | .gr o _ _ | .el o _ _ _ | .fn _ o | .ap o _ | .cx o _ _=>[o]
 | _=>[]
theorem Xff{i:Nat}: ∀ {a:AV},a.ids i->i∈Yk6 a
 | .st a,h=>Xff (a:=a) h
 | .tup a,h=>Xff (a:=a) h
 | .fm _ a,h=>Xff (a:=a) h
 | .pr a c,h=>W2p.2 (h.imp (Xff (a:=a)) (Xff (a:=c)))
 | .ptr o _,h | .own o _ _ _,h | .ow3 o _ _ _,h | .gr o _ _,h | .el o _ _ _,h | .fn _ o,h | .ap o _,h | .cx o _ _,h=>W0g.2 h
abbrev Trk:=List (Nat×List Nat)
def dsL: List Oper->List Nat
 | []=>[]
 | o::l=>match o.dst with
  | some d=>d::dsL l
  | none=>dsL l
theorem Xxo{o:Oper}{d:Nat}(hd:o.dst=some d): ∀ {L:List Oper},o∈L->d∈dsL L
 | x::l,h=>by
  rcases W1s.1 h with e | e
  subst e;simp[dsL,hd]
  have:=Xxo hd e
  simp only[dsL];split<;>simp[this]
def bnd(D:List Nat)(E:Env)(T:Trk)(t:Nat): Option (List Nat):=match inL t D with
 | true=>look T t
 | false=>match look E t with
  | some v=>some (Yk6 v)
  | none=>none
def Ymn: Op->Option Nat
 | .move (.tmp t) | .assign (.tmp t) | .nilCheck (.tmp t) | .fieldAddr _ (.tmp t) _ | .indexAddr _ (.tmp t) _=>some t
 | _=>none
def ldO: Op->Option Nat
 | .load _ (.tmp t)=>some t
 | _=>none
def Xje: Op->Bool
 | .alloc _ | .box _ _=>true
 | _=>false
def trk(D:List Nat)(E:Env): List Oper->Trk->Trk
 | [],T=>T
 | o::l,T=>match o.dst with
  | none=>trk D E l T
  | some d=>match Xje o.op,Ymn o.op with
   | true,_=>trk D E l ((d,[d])::T)
   | false,some t=>match bnd D E T t with
    | some v=>trk D E l ((d,v)::T)
    | none=>trk D E l T
   | false,none=>match ldO o.op with
    | some t=>match bnd D E T t with
     | some []=>trk D E l ((d,[])::T)
     | _=>trk D E l T
    | none=>trk D E l T
def Yqb(a b:List Nat): Bool:=a.all λx=>inL x b
def Xm1(D:List Nat)(E:Env)(T:Trk)(L:List Oper): Bool:=(T.all λx=>!Xcl E x.1)&&L.all λo=>match o.dst with
 | none=>true
 | some d=>match look T d with
  | none=>true
  | some l=>(Xje o.op&&inL d l)||match Ymn o.op with
   | some t=>match bnd D E T t with
    | some v=>Yqb v l
    | none=>false
   | none=>match ldO o.op with
    | some t=>match bnd D E T t with
     | some []=>true
     | _=>false
    | none=>false
def Yku(L:List Oper)(D:List Nat)(E:Env)(T:Trk)(k i:Oper): Bool:=match k.op,i.op with
 | .load _ (.tmp a),.store _ (.tmp b) _=>match bnd D E T a,bnd D E T b with
  | some h,some j=>Xca L k.dst i&&Xca L i.dst k&&h.all λx=>!inL x j
  | _,_=>false
 | _,_=>false
def spT(L:List Oper)(D:List Nat)(E:Env)(T:Trk)(k i:Oper): Bool:=Yku L D E T k i||Yku L D E T i k
def ZT(D:List Nat)(E:Env)(T:Trk)(s:S): Prop:=(∀t,inL t D=false->s.1 t=look E t)/\∀t l,look T t=some l->s.1 t=none\/∃x,s.1 t=some x/\∀i,x.ids i->i∈l
section
variable{tb:Nat->Option TI}
theorem Xoc{D:List Nat}{E:Env}{T:Trk}{s:S}(j:ZT D E T s){t:Nat}{l:List Nat}(h:bnd D E T t=some l){v:AV}(o:s.1 t=some v){i:Nat}(hi:v.ids i): i∈l:=by
 unfold bnd at h
 split at h
 rcases j.2 t l h with e | ⟨x,e,I⟩<;>rw[o] at e
 cases e
 injection e with e;subst e;exact I i hi
 rename_i M
 have e:=j.1 t M
 rw[o] at e
 rw[<-e] at h
 injection h with h;subst h
 exact Xff hi
theorem Yg7{o:Oper}{t:Nat}(ha:Ymn o.op=some t){s:S}{r:AV×List (Nat×Ob)}(h:eff tb o s=some r): ∃v,s.1 t=some v/\∀i,r.1.ids i->v.ids i:=by
 have one:∀ {x:Nat} {asx:List AV},getEs s.1 [.tmp x]=some asx->∃v,s.1 x=some v/\asx=[v]:=by
  intro x asx h
  simp only[getEs,Xb6] at h
  split at h<;>try cases h
  rename_i v I
  exact⟨v,I,rfl⟩
 unfold eff at h
 split at h<;>try cases h
 rename_i asx j
 split at h<;>try cases h
 unfold Ymn at ha
 split at ha<;>cases ha
 all_goals rename_i M
 rw[M] at h j
 obtain⟨v,I,rfl⟩:=one j
 simp only[F,Fp] at h
 injection h with h;subst h
 exact⟨v,I,λ_ h=>h⟩
 rw[M] at h j
 obtain⟨v,I,rfl⟩:=one j
 simp only[F,Fp] at h
 injection h with h;subst h
 exact⟨v,I,λ_ h=>h⟩
 rw[M] at h j
 obtain⟨v,I,rfl⟩:=one j
 refine⟨v,I,?_⟩
 simp only[F,Fp] at h
 split at h<;>try cases h
 rename_i hq
 split at hq<;>cases hq
 rename_i e;cases e
 exact λ_ h=>h
 . rw[M] at h j
   obtain⟨v,I,rfl⟩:=one j
   refine⟨v,I,?_⟩
   simp only[F,Fp] at h
   split at h<;>try cases h
   rename_i hq
   split at hq<;>try cases hq
   split at hq<;>try cases hq
   split at hq<;>try cases hq
   split at hq<;>try cases hq
   rename_i e;cases e
   split at hq<;>cases hq
   exact λ_ h=>h
   all_goals
    rename_i e;cases e
    exact λ_ h=>h
 rw[M] at h j
 rename_i T' U _
 simp only[Op.operands,getEs] at j
 split at j<;>try cases j
 rename_i v I
 split at j<;>try cases j
 rename_i T O
 refine⟨v,I,?_⟩
 simp only[F,Fp] at h
 split at h<;>try cases h
 rename_i hq
 split at hq<;>try cases hq
 rename_i e;cases e
 split at hq<;>try cases hq
 unfold ixA at hq
 split at hq<;>try cases hq
 unfold ixA.ixL at hq
 split at hq<;>try cases hq
 split at hq<;>cases hq
 exact λ_ h=>h.elim
 unfold ixA.ixL at hq
 split at hq<;>try cases hq
 split at hq<;>cases hq
 exact λ_ h=>h.elim
 unfold ixA.ixL at hq
 split at hq<;>try cases hq
 split at hq<;>cases hq
 exact λ_ h=>h.elim
 split at hq<;>cases hq
 exact λ_ h=>h
 split at hq<;>cases hq
 exact λ_ h=>h
 split at hq<;>cases hq
 exact λ_ h=>h
theorem Yo1{o:Oper}{t:Nat}(ha:ldO o.op=some t){s:S}{r:AV×List (Nat×Ob)}(h:eff tb o s=some r): ∃v,s.1 t=some v/\((∃i,v.ids i)\/∀i,¬r.1.ids i):=by
 unfold ldO at ha
 split at ha<;>cases ha
 rename_i I
 have:∃v,s.1 t=some v:=by
  unfold eff at h
  split at h<;>try cases h
  rename_i asx j
  rw[I] at j
  simp only[Op.operands,getEs,Xb6] at j
  split at j<;>try cases j
  exact⟨_,by assumption⟩
 obtain⟨v,O⟩:=this
 refine⟨v,O,?_⟩
 have j:getEs s.1 o.op.operands.toList=some [v]:=by rw[I];simp[Op.operands,getEs,Xb6,O]
 unfold eff at h
 rw[j] at h
 simp only[I,Xed,Bool.false_and,F] at h
 split at h<;>try cases h
 rename_i T M
 cases v<;>try (cases h;done)
 simp only[M] at h
 split at h<;>cases h
 exact .inr λi hi=>Xng _ i hi
 exact .inl ⟨_,rfl⟩
 exact .inl ⟨_,rfl⟩
theorem Ykw{k:Oper}{T:TypeId}{a:Nat}(M:k.op=.load T (.tmp a)){e:Ev}{g g':Hp}{r:AV×List (Nat×Ob)}{v:AV}(U:e a=some v)(O:∀i,v.ids i->g i=g' i)(h:eff tb k (e,g)=some r): r.2=[]/\eff tb k (e,g')=some r:=by
 have o:getEs e k.op.operands.toList=some [v]:=by rw[M];simp[Op.operands,getEs,Xb6,U]
 unfold eff at h |-
 rw[o] at h |-
 simp only[M,Xed,Bool.false_and,F] at h |-
 split at h<;>try cases h
 rename_i ti j
 cases v<;>try (cases h;done)
 simp only[j] at h |-
 split at h<;>cases h
 rename_i hf
 exact⟨rfl,by simp[hf]⟩
 simp only[j] at h |-
 rw[<-O _ rfl]
 split at h<;>try cases h
 rename_i hq
 split at h<;>cases h
 rename_i I
 exact⟨rfl,by simp[hq,I]⟩
 simp only[j] at h |-
 rw[<-O _ rfl]
 split at h<;>try cases h
 rename_i hq
 split at h<;>try cases h
 rename_i V
 split at h<;>try cases h
 rename_i Z
 split at h<;>cases h
 rename_i I
 exact⟨rfl,by simp[hq,V,Z,I]⟩
theorem Yn9{i:Oper}{T:TypeId}{b:Nat}{x:Operand}(I:i.op=.store T (.tmp b) x){e:Ev}{g:Hp}{r:AV×List (Nat×Ob)}(h:eff tb i (e,g)=some r): ∃v o U,e b=some v/\v.ids o/\r.2=[(o,U)]:=by
 unfold eff at h
 split at h<;>try cases h
 rename_i asx j
 rw[I] at j
 simp only[Op.operands,getEs,Xb6] at j
 split at j<;>try cases j
 rename_i v M
 split at j<;>try cases j
 rename_i V O
 split at h<;>try cases h
 rw[I] at h
 simp only[F] at h
 split at h<;>try cases h
 split at h<;>try cases h
 rename_i e;cases e
 split at h<;>try cases h
 split at h<;>cases h
 exact⟨_,_,_,M,rfl,rfl⟩
 rename_i e;cases e
 split at h<;>try cases h
 split at h<;>try cases h
 split at h<;>cases h
 exact⟨_,_,_,M,rfl,rfl⟩
theorem Yfx{o:Oper}(i:Xje o.op=true){s:S}{r:AV×List (Nat×Ob)}(h:eff tb o s=some r): r.1=.ptr (o.dst.getD 0) 0:=by
 unfold eff at h
 split at h<;>try cases h
 rename_i asx j
 split at h<;>try cases h
 unfold Xje at i
 split at i<;>try cases i
 all_goals
  rename_i I
  rw[I] at h
  simp only[F] at h
 split at h<;>cases h;rfl
 split at h<;>try cases h
 split at h<;>cases h;rfl
theorem Ye3{a b:List Nat}(h:Yqb a b=true){i:Nat}(hi:i∈a): i∈b:=Yo3.1 (W1q.1 h i hi)
theorem Ypx{s:S}{o:Oper}{r:AV×List (Nat×Ob)}{t:Nat}(h:o.dst≠some t): (aft s o r).1 t=s.1 t:=by
 unfold aft S.put
 cases hd:o.dst with
 | none=>rfl
 | some d=>exact Xak λe=>h (by rw[hd,e])
theorem Ymq{s:S}{o:Oper}{r:AV×List (Nat×Ob)}{t:Nat}(h:o.dst=some t): (aft s o r).1 t=some r.1:=by
 unfold aft S.put
 rw[h];exact Xai ..
theorem ZT.aft{L:List Oper}{E:Env}{T:Trk}(Z:Xm1 (dsL L) E T L=true){o:Oper}(ho:o∈L){s:S}(M:ZT (dsL L) E T s){r:AV×List (Nat×Ob)}
 (hr:r.1=.un\/(Xal o=true)\/eff tb o s=some r):ZT (dsL L) E T (aft s o r):=by
 refine⟨λt O=>?_,λt l hl=>?_⟩
 rw[Ypx λe=>by rw[Yo3.2 (Xxo e ho)] at O;cases O]
 exact M.1 t O
 by_cases hd:o.dst=some t
 refine .inr ⟨r.1,Ymq hd,λi hi=>?_⟩
 simp only[Xm1,W0d] at Z
 have:=W1q.1 Z.2 o ho
 rw[hd] at this
 simp only[hl,W4e,W0d] at this
 rcases hr with hr | hr | hr
 rw[hr] at hi;exact hi.elim
 obtain⟨x,asx,tys,hc⟩:=Xjf hr
 rw[hc] at this
 simp[Xje,Ymn,ldO] at this
 rcases this with ⟨I,h2⟩ | h
 rw[Yfx I hr,hd] at hi
 have hi:i=t:=hi
 rw[hi];exact Yo3.1 h2
 split at h
 rename_i t' ha
 split at h
 rename_i v U
 obtain⟨x,V,I⟩:=Yg7 ha hr
 exact Ye3 h (Xoc M U V (I i hi))
 cases h
 split at h
 rename_i t' ha
 split at h
 rename_i U
 obtain⟨x,V,⟨j,hj⟩ | I⟩:=Yo1 ha hr
 exact absurd (Xoc M U V hj) (by simp)
 exact absurd hi (I i)
 cases h
 cases h
 rw[Ypx hd];exact M.2 t l hl
theorem Xgk{L:List Oper}{E:Env}{T:Trk}{k i:Oper}(h:Yku L (dsL L) E T k i=true): Xal k=false/\Xal i=false/\Xca L k.dst i=true/\Xca L i.dst k=true/\∀ {s:S},ZT (dsL L) E T s ->
 (∀ {j},efw tb L k s=some j->j.2=[])/\∀ {g:Hp} {O:AV×List (Nat×Ob)},efw tb L i (s.1,g)=some O->∀j,efw tb L k (s.1,g)=some j↔efw tb L k (s.1,Xbj g O.2)=some j:=by
 unfold Yku at h
 split at h
 rename_i T1 a T2 b x U hi
 split at h
 rename_i la lb Z hlb
 simp only[W0d] at h
 obtain⟨⟨h1,h2⟩,h3⟩:=h
 refine⟨by unfold Xal;rw[U];rfl,by unfold Xal;rw[hi];rfl,h1,h2,λ{s} hz=>⟨λ{j} hr=>?_,λ{g O} hri j=>?_⟩⟩
 rcases Xa8 hr with ⟨_,e,_⟩ | ⟨_,e⟩
 exact e
 exact(Ype (o:=k) (by rw[U];rfl) (e:=s.1) (g:=s.2) e).1
 have M:∀ {g g':Hp},(∀o,o ∉ lb->g o=g' o)->efw tb L k (s.1,g)=some j->efw tb L k (s.1,g')=some j:=by
  intro g g' hg hr
  rcases Xa8 hr with ⟨_,_,e⟩ | ⟨hw,e⟩
  exact e g'
  have:∃v,s.1 a=some v:=by
   unfold eff at e
   split at e<;>try cases e
   rename_i asx I
   rw[U] at I
   simp only[Op.operands,getEs,Xb6] at I
   split at I<;>try cases I
   exact⟨_,by assumption⟩
  obtain⟨v,V⟩:=this
  refine Xe3 (s:=(s.1,g)) hw (Ykw U V (λo ho=>hg o λhb=>?_) e).2
  have:=W1q.1 h3 o (Xoc hz Z V ho)
  rw[Yo3.2 hb] at this;cases this
 have hu:∀o,o ∉ lb->g o=Xbj g O.2 o:=by
  intro o hob
  rcases Xa8 hri with ⟨_,e,_⟩ | ⟨_,e⟩
  rw[e];rfl
  obtain⟨v,o',ob,V,ho',e2⟩:=Yn9 hi e
  rw[e2]
  show g o=upd g o' ob o
  rw[Xak λe=>hob (by rw[e];exact Xoc hz hlb V ho')]
 exact⟨M hu,M λo ho=>(hu o ho).symm⟩
 cases h
 cases h
theorem Dm.trk{L:List Oper}{E:Env}{T:Trk}(hT:Xm1 (dsL L) E T L=true): Dm tb L (spT L (dsL L) E T) (ZT (dsL L) E T):=by
 have fin:∀ {k i:Oper} {s:S} {j o:AV×List (Nat×Ob)},Xca L i.dst k=true->j.2=[]->Vm.aft (Vm.aft s i o) k j=Vm.aft (Vm.aft s k j) i o:=by
  intro k i s j o h hr
  unfold Vm.aft
  rw[S.put_g,S.put_g,hr]
  have e1:=S.put_e (s:=s) (g:=Xbj s.2 o.2) (g':=s.2) (d:=i.dst) (v:=o.1)
  have e2:=S.put_e (s:=s) (g:=Xbj s.2 []) (g':=s.2) (d:=k.dst) (v:=j.1)
  rw[e1,e2]
  exact Xlu (s:=s) (λa b ha hb=>Xgs h ha hb) rfl
 have one:∀ {k i:Oper} {s:S} {j o:AV×List (Nat×Ob)},Yku L (dsL L) E T k i=true->ZT (dsL L) E T s->efw tb L k s=some j->efw tb L i s=some o->efw tb L i (Vm.aft s k j)=some o/\efw tb L k (Vm.aft s i o)=some j/\Vm.aft (Vm.aft s i o) k j=Vm.aft (Vm.aft s k j) i o:=by
  intro k i s j o h I O M
  obtain⟨c1,c2,Z,U,V⟩:=Xgk (tb:=tb) h
  obtain⟨b1,b2⟩:=V I
  have e:=b1 O
  exact⟨by rw[Xbt Z,e];exact M,by rw[Xbt U];exact(b2 (g:=s.2) M j).1 O,fin U e⟩
 refine⟨λ{k i} h=>?_,λ{k i s j o} h I O M=>?_,λ{k i s j o} h I O M=>?_,λ{k s r} hk hc I h=>?_,λ{k s r} hk hc I h=>ZT.aft (tb:=tb) hT hk I (.inr (.inl hc))⟩
 rcases W8e.1 h with h | h
 have:=Xgk (tb:=tb) h;exact⟨this.1,this.2.1⟩
 have:=Xgk (tb:=tb) h;exact⟨this.2.1,this.1⟩
 rcases W8e.1 h with h | h
 exact one h I O M
 obtain⟨p1,p2,p3⟩:=one h I M O;exact⟨p2,p1,p3.symm⟩
 rcases W8e.1 h with h | h
 obtain⟨c1,c2,Z,U,V⟩:=Xgk (tb:=tb) h
 rw[Xbt Z,(V I).1 O] at M
 exact M
 obtain⟨c1,c2,Z,U,V⟩:=Xgk (tb:=tb) h
 rw[Xbt U] at M
 exact((V I).2 (g:=s.2) O o).2 M
 refine ZT.aft (tb:=tb) hT hk I ?_
 rcases Xa8 h with ⟨hw,_,e⟩ | ⟨_,e⟩
 refine .inl ?_
 unfold efw at h
 rw[hw] at h
 simp only at h
 split at h<;>cases h
 rfl
 exact .inr (.inr e)
section
variable{c:Cx}{s:St}
def Ysb: St->Bool
 | .o _ _ L _ _ E _=>Xm1 (dsL L) E (trk (dsL L) E L []) L&&Xht L (spT L (dsL L) E (trk (dsL L) E L [])) [] [] L
 | _=>false
theorem ZT.start{L:List Oper}{E:Env}{H:Hpl}{T:Trk}(h:Xm1 (dsL L) E T L=true): ZT (dsL L) E T (sem E H):=by
 refine⟨λt _=>rfl,λt l i=>.inl ?_⟩
 simp only[Xm1,W0d] at h
 have:=W1q.1 h.1 _ (Xbi i)
 rw[W1v] at this
 exact Xbp this
theorem Dz{s':St}(h:nxD c.tb c.n s=some s')(k:StP c s')(i:Ysb s'=true:=by exact rfl): StP c s:=by
 unfold nxD at h
 split at h<;>try cases h
 rename_i o
 split at h<;>cases h
 rename_i j
 have i:=Bool.and_eq_true_iff.1 i
 exact go 1000 o (J.draw (Dm.trk i.1) (ZT.start i.1) j i.2 k)
end
end
end
end Go.Vm
namespace Go.Proofs.YtnedfplmoojbaaaGreatDoor
open Go Go.Vm Go.Num Go.Proofs
section
abbrev C0:=C Tryz.prog
abbrev CG0:=CG Tryz.prog
abbrev CA0:=CA Tryz.prog
abbrev CO0:=CO Tryz.prog
abbrev CN0:=CN Tryz.prog
abbrev CW0:=CW Tryz.prog
def wd(n:Nat): D:=.int .u32 n
def ws(l:List Nat): D:=.sl 1 (l.map wd)
def dS(b:Bool)(l:List Nat): D:=.st (.pr (.bool b) (ws l))
theorem mp{α:Type}{l:List α}{f:α->D}{j:Nat}{u:α}(h:l[j]?=some u): (l.map f)[j]?=some (f u):=by simp[h]
theorem ms{α:Type}{l:List α}{f:α->D}{j:Nat}{u:α}: (l.map f).set j (f u)=(l.set j u).map f:=by simp
theorem Xbb{l:List Nat}(O:Xav l)(T:l.length<=1099511627776): C0 131 [.d (ws l)] (·=.d (ws (dig (val l)))):=by
 refine En Tryz.func131 λ_ _ _=>?_
 refine Lo (λk=>[(0,.d (ws (l.take k)))]) (λ_=>[]) (λk=>k<=l.length/\val (l.take k)=val l) id l.length [] rfl ⟨W0a _,by rw[W2u]⟩ (λk ⟨I,j⟩=>?_) (hf:=⟨by simp only[W2u];rfl,rfl,rfl,rfl,rfl⟩)
 refine By rfl (λh=>?_) λh=>?_<;>simp only[W1k,W0k,W2h I] at h
 have T:((l.take k).map wd).length=k:=by simp;omega
 refine Ar (k-1:Nat) rfl ?_
 have o:=W0e (l:=l) (i:=k-1) (by omega)
 refine Ix (k-1) rfl (u:=wd l[k-1]) (mp (by rw[W1h,if_pos (by omega),o])) ?_
 have M:=Xac o
 rw[show k-1+1=k by omega,j] at M
 refine By rfl (λh0=>?_) λh0=>?_
 refine Ar (k-1:Nat) rfl ?_
 refine Tk (k-1) ((l.take (k-1)).map wd) rfl rfl (by simp;omega) (by rw[<-W2f,List.take_take,W2h (by omega)]) ?_
 exact Bk (k-1) [] rfl ⟨by omega,by rw[M,show l[k-1]=0 by omega,W3l,W2e]⟩ (by omega:k-1<k)
 exact R1 rfl (.eq (by rw[<-j,Xe5 (O.take k) (.inr ⟨l[k-1],by rw[W0k,W2h I,W1h,if_pos (by omega),o],λe=>h0 (by rw[e];rfl)⟩)]))
 refine R1 rfl (.eq ?_)
 rw[show k=0 by omega] at j |-
 rw[<-j,W5k,val,Xap]
theorem Xcr{n:Nat}(h:n<18446744073709551616): C0 179 [.d (.int .u64 n)] (·=.d (ws (dig n))):=by
 refine En Tryz.func179 λ_ _ _=>?_
 refine Go.Vm.Cv (n%4294967296:Nat) rfl ?_ (hr:=by rw[wWm];omega)
 refine Ar (n/4294967296:Nat) rfl ?_ (hr:=show _/\_ from⟨by omega,Yjh n⟩)
 refine Go.Vm.Cv (n/4294967296:Nat) rfl ?_
 exact Ce rfl (Xbb (l:=[n%4294967296,n/4294967296]) (.cons (by omega) (.cons (by omega) .nil)) (by simp))<|R1 rfl (.eq (by rw[show val [n%4294967296,n/4294967296]=n by simp only[val];omega]))
theorem trim_dig_ok{n:Nat}(h:(dig n).length<=1099511627776): C0 131 [.d (ws (dig n))] (·=.d (ws (dig n))):=by
 have:=Xbb (Xaf n) h
 rwa[Xag] at this
theorem Xvb{b:Bool}{n:Nat}(h:(dig n).length<=1099511627776): C0 178 [.d (.bool b),.d (ws (dig n))] (·=.d (dS (b&&n != 0) (dig n))):=by
 refine En Tryz.func178 λ_ _ _=>?_
 refine Ce rfl (trim_dig_ok h)<|By rfl (λh=>?_) λh=>?_<;>simp only[W1k] at h
 have:n=0:=Xtu.1 (W0m (by omega))
 subst this
 exact R1 rfl (by exact .sd (.pd (.bd (by simp)) (.nil (by rw[Xap];rfl))))
 have:n≠0:=λe=>h (by rw[e,Xap];rfl)
 rw[show (b&&n != 0)=b by simp[this]]
 exact R0
def dz(z:Int): D:=dS (decide (z<0)) (dig z.natAbs)
def sg(neg:Bool)(n:Nat): Int:=if neg then -(n:Int) else (n:Int)
theorem Xxy{p:Prop}[Decidable p]: dc p=decide p:=by rw[W4w,Xaj,decide_eq_true_iff]
instance {p:Prop} [Decidable p]:Dc (decide p) p:=⟨decide_eq_true_iff⟩
theorem Yl2{b:Bool}{n:Nat}: dS (b&&n != 0) (dig n)=dz (sg b n):=by
 unfold dz sg
 cases b with
 | true =>
  rw[if_pos rfl,W5l,W1b]
  congr 1
  rw[W4w];simp;omega
 | false=>rw[if_neg (by decide),W1b];congr 1
theorem Xan{b:Bool}{n:Nat}(h:(dig n).length<=1099511627776): C0 178 [.d (.bool b),.d (ws (dig n))] (·=.d (dz (sg b n))):=by
 have:=Xvb (b:=b) h
 rwa[Yl2] at this
theorem Xrb(z:Int): sg (decide (z<0)) z.natAbs=z:=by
 unfold sg;by_cases h:z<0
 rw[if_pos (decide_eq_true h)];omega
 rw[if_neg (by rw[decide_eq_true_eq];exact h)];omega
theorem FromInt_ok{z:Int}(h:-9223372036854775808<=z/\z<9223372036854775808): C0 90 [.d (.int .i64 z)] (·=.d (dz z)):=by
 have i:(dig z.natAbs).length<=2:=Xaq (by omega)
 refine En Tryz.func90 λ_ _ _=>?_
 refine Go.Vm.Cv (z%18446744073709551616) rfl ?_ (hr:=wUm _)
 refine By rfl (λh=>?_) λh=>?_
 refine Ne (z.natAbs:Int) rfl ?_ (hr:=by rw[wUm];omega)
 exact Ce rfl (Xcr (n:=z.natAbs) (by omega))<|Ce rfl (Xan (n:=z.natAbs) (by omega))<|R1 rfl (.eq (by rw[Xxy,Xrb]))
 exact Ce (r:=.d (ws (dig z.natAbs))) rfl (by have:=Xcr (n:=z.natAbs) (by omega);rwa[show ((z.natAbs:Nat):Int)=z%18446744073709551616 by omega] at this)<|Ce rfl (Xan (n:=z.natAbs) (by omega))<|R1 rfl (.eq (by rw[Xxy,Xrb]))
end
section
theorem ww{l:List Nat}{j:Nat}{u:Nat}(h:l[j]?=some u)(i:Xav l): u<4294967296:=i u (W0h h)
theorem xat{l:List Nat}{k:Nat}(h:k<l.length): ∃x,l[k]?=some x:=⟨_,W0e h⟩
theorem Xll{k:IntKind}{s n:Nat}(h:n<=k.bits): arB .shr k s n (s/2^n:Nat):=by
 refine⟨by omega,?_⟩
 rw[W7m,W2h h,show (2:Int)^n=((2^n:Nat):Int) by rw[W7x];rfl,W1r _ (W5x _)]
 rfl
theorem Xi1{x y:Nat}(hx:(dig x).length<=1099511627775)(hy:(dig y).length<=1099511627775): C0 252 [.d (ws (dig x)),.d (ws (dig y))] (·=.d (ws (dig (x+y)))):=by
 refine En Tryz.func252 λ_ _ _=>?_
 refine Cu none (λ(a,b)=>[(0,.d (ws (dig a))),(1,.d (ws (dig b)))]) (λ_=>[]) (λ(a,b)=>a+b=x+y/\(dig b).length<=(dig a).length/\(dig a).length<=1099511627775) rfl ?_ λ⟨a,b⟩ ⟨hs,hle,hbig⟩=>?_
 refine By rfl (λh=>?_) λh=>?_<;>simp only[W1k] at h
 exact Jn (y,x) [] rfl ⟨Nat.add_comm _ _,by omega,hy⟩
 exact Jn (x,y) [] rfl ⟨rfl,by omega,hx⟩
 refine Ar ((dig a).length+1) rfl ?_ (wr (by simp) (by simp only[inK];omega))
 refine Mk 0 rfl (by omega) ?_
 refine Lo (λ(k,lo,i)=>[(1,.d (ws (dig b))),(5,.own 19 1 0 k),(6,.d (.int .u64 (i:Nat))),(20,.d (ws (dig a))),(21,.d (.int .i64 (dig a).length)),(22,.d (.int .i64 (k:Nat)))]) (λ(_,lo,_)=>[(19,.arr 1 (lo.map wd))])
  (λ(k,lo,i)=>k<=(dig a).length/\lo.length=k/\Xav lo/\i<=1/\val lo+4294967296^k*i=val ((dig a).take k)+val ((dig b).take k)) (λ(k,_,_)=>(dig a).length-k) (0,[],0) [] rfl ⟨by omega,rfl,.nil,by omega,by simp[val]⟩ ?_ (by exact⟨by simp only[ws,W1k];rfl,rfl,rfl,rfl,rfl⟩)
 rintro⟨k,lo,i⟩ ⟨hk,j,U,hcr,O⟩
 refine By rfl (λh=>?_) λh=>?_
 obtain⟨u,V⟩:=xat (l:=dig a) (k:=k) (by omega)
 have hub:=ww V (Xaf a)
 refine Ix k rfl (mp V)<|Go.Vm.Cv u rfl ?_
 refine Ar (i+u:Nat) rfl ?_
 refine Cu none (λ(s:Nat)=>[(1,.d (ws (dig b))),(5,.own 19 1 0 k),(6,.d (.int .u64 s)),(20,.d (ws (dig a))),(21,.d (.int .i64 (dig a).length)),(22,.d (.int .i64 k))]) (λ_=>[(19,.arr 1 (lo.map wd))])
  (λs=>s<8589934592/\4294967296^k*s+val lo=val ((dig a).take (k+1))+val ((dig b).take (k+1))) rfl ?_ λs ⟨hs8,Z⟩=>?_
 refine By rfl (λh2=>?_) λh2=>?_<;>simp only[W1k] at h2
 obtain⟨u2,M⟩:=xat (l:=dig b) (k:=k) (by omega)
 have hub2:=ww M (Xaf b)
 refine Ix k rfl (mp M)<|Go.Vm.Cv u2 rfl ?_
 refine Ar (i+u+u2:Nat) rfl ?_
 exact Jn (i+u+u2) [] rfl ⟨by omega,by rw[Xac V,Xac M,W1d,W1d];omega⟩
 exact Jn (i+u) [] rfl ⟨by omega,by rw[Xac V,Xg5 (l:=dig b) (by omega),W1d];omega⟩
 refine Go.Vm.Cv (s%4294967296:Nat) rfl ?_ (by rw[wWm];omega)
 refine ApO ((lo++[s%4294967296]).map wd) rfl rfl (by simp[j]) (by simp;rfl) (by simp;omega) ?_
 refine Ar (s/4294967296:Nat) rfl ?_ (Xll (n:=32) (by decide))
 refine Ar (k+1:Nat) rfl ?_
 refine Bk (k+1,lo++[s%4294967296],s/4294967296) [(46,19)] rfl ⟨by show k+1<=_;omega,by simp[j],U.app (.cons (by omega) .nil),by show s/4294967296<=1;omega,?_⟩ (by show _-(k+1)<_-k;omega) (by exact⟨by simp[j];rfl,rfl,rfl,rfl,rfl⟩)
 rw[Xfb,j,<-Z,W0z,W0v]
 have e2:4294967296^k*s=4294967296^k*(s%4294967296)+4294967296^k*(4294967296*(s/4294967296)):=by rw[<-W1d];congr 1;omega
 simp only[val,W3l,W2e]
 omega
 have o:k=(dig a).length:=by omega
 have I:val lo+4294967296^k*i=x+y:=by rw[O,W0b (by omega),W0b (by omega),Xag,Xag,hs]
 refine By rfl (λh=>?_) λh=>?_
 refine Go.Vm.Cv i rfl ?_
 refine ApO ((lo++[i]).map wd) rfl rfl (by simp[j]) (by simp;rfl) (by simp;omega) ?_
 refine R1 rfl (.own rfl (by simp) ?_)
 have e:val (lo++[i])=val lo+4294967296^k*i:=by rw[Xfb,j];simp[val]
 rw[W1i,W2u,<-I,<-e,Xe5 (U.app (.cons (by omega) .nil)) (.inr ⟨i,by simp,by omega⟩)]
 have hc0:i=0:=by omega
 subst hc0
 refine R1 rfl (.own rfl (by simp[j]) ?_)
 rw[W1i,W0b (by simp[j]),<-I,W3l,W2e,Xe5 U]
 rcases W2t k with T | T
 exact .inl (W0m (by rw[j];exact T))
 have ha:a≠0:=λhh=>by rw[hh,Xap] at o;simp at o;omega
 have hlb:=Xsr ha
 refine Xla U (by omega) ?_
 rw[j,o]
 have hab:a<=x+y:=by omega
 rw[<-o] at hlb |-
 omega
theorem oa{l:List Nat}{n:Nat}(h:l.length=n): ((l.map wd).drop 0).take n=l.map wd:=by rw[W1i,W0b (by simp[h])]
theorem lw(l:List Nat): (l.map wd).length=l.length:=W1k ..
theorem Xec{x y:Nat}(hx:(dig x).length<=1099511627776)(O:y<=x): C0 253 [.d (ws (dig x)),.d (ws (dig y))] (·=.d (ws (dig (x-y)))):=by
 have hll:=Xau O
 refine En Tryz.func253 λ_ _ _=>?_
 refine Mk (dig x).length rfl (by simp only[lw];omega) ?_ (by simp only[lw])
 refine Lo (λ(k,lo,i)=>[(1,.d (ws (dig y))),(5,.own 12 1 0 (dig x).length),(6,.d (.int .u64 (i:Nat))),(13,.d (ws (dig x))),(14,.d (.int .i64 (dig x).length)),(15,.d (.int .i64 (k:Nat)))]) (λ(_,lo,_)=>[(12,.arr 1 (lo.map wd))])
  (λ(k,lo,i)=>k<=(dig x).length/\lo.length=(dig x).length/\Xav lo/\i<=1/\val (lo.take k)+val ((dig y).take k)+4294967296^k*0=val ((dig x).take k)+4294967296^k*i) (λ(k,_,_)=>(dig x).length-k) (0,List.replicate (dig x).length 0,0) [] rfl
  ⟨by omega,by simp,λ_ h=>by rw[(W6n.1 h).2];omega,by omega,by simp[val]⟩ ?_ (by exact⟨by simp only[lw,ws];rfl,by simp only[W2i];rfl,rfl,rfl,rfl⟩)
 rintro⟨k,lo,i⟩ ⟨hk,T,U,hbr,j⟩
 rw[W3l,W2e] at j
 refine By rfl (λh=>?_) λh=>?_
 obtain⟨u,V⟩:=xat (l:=dig x) (k:=k) (by omega)
 have hub:=ww V (Xaf x)
 refine Ix k rfl (mp V)<|Go.Vm.Cv u rfl ?_
 refine Ar ((u+18446744073709551616-i)%18446744073709551616:Nat) rfl ?_ (by show _=_;rw[wUm];omega)
 refine Cu none (λ(s:Nat)=>[(1,.d (ws (dig y))),(5,.own 12 1 0 (dig x).length),(7,.d (.int .i64 k)),(9,.d (.int .u64 s)),(13,.d (ws (dig x))),(14,.d (.int .i64 (dig x).length)),(15,.d (.int .i64 k))]) (λ_=>[(12,.arr 1 (lo.map wd))])
  (λs=>s<18446744073709551616/\s/9223372036854775808<=1/\∃v,s%4294967296+v+i=u+4294967296*(s/9223372036854775808)/\val ((dig y).take (k+1))=val ((dig y).take k)+4294967296^k*v) rfl ?_ λs ⟨hs,hs2,v,Z,hyv⟩=>?_
 refine By rfl (λh2=>?_) λh2=>?_<;>simp only[lw] at h2
 obtain⟨M,o⟩:=xat (l:=dig y) (k:=k) (by omega)
 have hub2:=ww o (Xaf y)
 refine Ix k rfl (mp o)<|Go.Vm.Cv M rfl ?_
 refine Ar ((u+18446744073709551616-i+18446744073709551616-M)%18446744073709551616:Nat) rfl ?_ (by show _=_;rw[wUm];omega)
 exact Jn ((u+18446744073709551616-i+18446744073709551616-M)%18446744073709551616) [] rfl ⟨by omega,by omega,M,by omega,Xac o⟩
 exact Jn ((u+18446744073709551616-i)%18446744073709551616) [] rfl ⟨by omega,by omega,0,by omega,by rw[Xg5 (by omega)];rfl⟩
 refine Go.Vm.Cv (s%4294967296:Nat) rfl ?_ (by rw[wWm];omega)
 refine Eo k rfl (by omega)<|Sto rfl (by simp only[lw];omega) ms ?_
 refine Ar (s/9223372036854775808:Nat) rfl ?_ (Xll (n:=63) (by decide))
 refine Ar (k+1:Nat) rfl ?_
 refine Bk (k+1,lo.set k (s%4294967296),s/9223372036854775808) [] rfl ⟨by omega,by simp[T],λx hx=>(W3x hx).elim (U x) λe=>by rw[e];omega,by omega,?_⟩ (by show _-(k+1)<_-k;omega)
 rw[W3l,W2e,Xbn (by omega),hyv,Xac V,W0z,W0v]
 have e:4294967296^k*(s%4294967296+v+i)=4294967296^k*(u+4294967296*(s/9223372036854775808)):=by rw[Z]
 simp only[W1d] at e
 omega
 have hkn:k=(dig x).length:=by omega
 rw[hkn,W0b (by omega),W0b (by omega),W0b (by omega),Xag,Xag] at j
 have hvl:=Xci U
 rw[T] at hvl
 have I:i=0:=by
  rcases W2t i with h0 | h0
  exact h0
  have h1:4294967296^(dig x).length*1<=4294967296^(dig x).length*i:=W0u _ h0
  omega
 rw[I,W3l] at j
 refine Fz 12 5 (lo.map wd) rfl (by simp only[lw];omega) (oa T) ?_
 exact Ce rfl (Xbb U (by omega))<|R1 rfl (.eq (by rw[show val lo=x-y by omega]))
theorem Xel{a:Int}: C0 277 [.d (.int .i64 a)] (·=.b false):=by
 refine En Tryz.func277 λ_ _ _=>?_
 exact R1 rfl (by exact(show dc (a≠a)=false by rw[W6e];intro h;exact Xaj.1 h rfl) ▸ .rf rfl)
theorem Xek{a:Int}: C0 339 [.d (.int .u32 a)] (·=.b false):=by
 refine En Tryz.func339 λ_ _ _=>?_
 exact R1 rfl (by exact(show dc (a≠a)=false by rw[W6e];intro h;exact Xaj.1 h rfl) ▸ .rf rfl)
theorem Xdn{a b:Int}: C0 189 [.d (.int .i64 a),.d (.int .i64 b)] (·=.d (.int .i64 (Xa9 a b))):=by
 refine En Tryz.func189 λ_ _ _=>?_
 refine Ce rfl Xel<|Ce rfl Xel<|No rfl nofun<|No rfl nofun<|By rfl (λh=>?_) λh=>?_
 exact R1 rfl (.eq (by rw[Xa9,if_pos h]))
 refine By rfl (λi=>?_) λi=>?_
 exact R1 rfl (.eq (by rw[Xa9,if_neg h,if_pos i]))
 exact R1 rfl (.eq (by rw[Xa9,if_neg h,if_neg i]))
theorem Xgt{a b:Int}: C0 278 [.d (.int .u32 a),.d (.int .u32 b)] (·=.d (.int .i64 (Xa9 a b))):=by
 refine En Tryz.func278 λ_ _ _=>?_
 refine Ce rfl Xek<|Ce rfl Xek<|No rfl nofun<|No rfl nofun<|By rfl (λh=>?_) λh=>?_
 exact R1 rfl (.eq (by rw[Xa9,if_pos h]))
 refine By rfl (λi=>?_) λi=>?_
 exact R1 rfl (.eq (by rw[Xa9,if_neg h,if_pos i]))
 exact R1 rfl (.eq (by rw[Xa9,if_neg h,if_neg i]))
theorem Xce{x y:Nat}(hx:(dig x).length<=1099511627776): C0 190 [.d (ws (dig x)),.d (ws (dig y))] (·=.d (.int .i64 (Xa9 x y))):=by
 refine En Tryz.func190 λ_ _ _=>?_
 refine By rfl (λh=>?_) λh=>?_<;>simp only[lw] at h
 refine Ce rfl Xdn<|R1 rfl (.eq ?_)
 simp only[lw]
 congr 1
 have I:(dig x).length≠(dig y).length:=by omega
 rcases W7g I with M | M
 have:=Xdy M
 rw[Xa9,Xa9,if_pos (by omega),if_pos (by omega)]
 have:=Xdy M
 rw[Xa9,Xa9,if_neg (by omega),if_pos (by omega),if_neg (by omega),if_pos (by omega)]
 refine Ar ((dig x).length-1:Int) rfl ?_ (wr (by simp only[lw]) (by simp only[inK];omega))
 refine Lo (λ(k:Nat)=>[(0,.d (ws (dig x))),(1,.d (ws (dig y))),(5,.d (.int .i64 ((k:Int)-1)))]) (λ_=>[]) (λk=>k<=(dig x).length/\(dig x).drop k=(dig y).drop k) (λk=>k) (dig x).length [] rfl ⟨by omega,by rw[W2v (by omega),W2v (by omega)]⟩ λk ⟨hk,hd⟩=>?_
 refine By rfl (λZ=>?_) λZ=>?_
 obtain⟨u,j⟩:=xat (l:=dig x) (k:=k-1) (by omega)
 obtain⟨v,o⟩:=xat (l:=dig y) (k:=k-1) (by omega)
 refine Dw rfl<|Ix (k-1) rfl (mp j)<|Ix (k-1) rfl (mp o)<|By rfl (λh2=>?_) λh2=>?_
 refine Dw rfl<|Ix (k-1) rfl (mp j)<|Ix (k-1) rfl (mp o)<|Ce rfl Xgt<|R1 rfl (.eq ?_)
 congr 1
 have I:u≠v:=by omega
 have O:(dig x).drop (k-1+1)=(dig y).drop (k-1+1):=by rw[show k-1+1=k by omega];exact hd
 rcases W7g I with M | M
 have:=Xkl (Xaf x) (by omega) (by omega) j o O M
 rw[Xag,Xag] at this
 rw[Xa9,Xa9,if_pos (by omega),if_pos (by omega)]
 have:=Xkl (Xaf y) (by omega) (by omega) o j O.symm M
 rw[Xag,Xag] at this
 rw[Xa9,Xa9,if_neg (by omega),if_pos (by omega),if_neg (by omega),if_pos (by omega)]
 refine Ar ((k-1:Nat)-1:Int) rfl ?_
 refine Bk (k-1) [] rfl ⟨by omega,?_⟩ (by show k-1<k;omega)
 have T:u=v:=by omega
 rw[W3w (l:=dig x) (i:=k-1) (by omega),W3w (l:=dig y) (i:=k-1) (by omega),show k-1+1=k by omega,hd]
 rw[W0e (by omega)] at j o
 injection j with j
 injection o with o
 rw[j,o,T]
 have U:k=0:=by omega
 rw[U,W1i,W1i] at hd
 have V:x=y:=by rw[<-Xag x,hd,Xag]
 exact R1 rfl (.eq (by rw[V,Xa9,if_neg (by omega),if_neg (by omega)]))
end
section
theorem Ypq{a b n:Nat}(ha:a<2^n)(hb:b<2^n): (BitVec.ofInt n (a:Int)|||BitVec.ofInt n (b:Int)).toNat=a|||b:=by
 simp[BitVec.toNat_or,W6o]
 rw[W5j ha,W5j hb]
theorem Ynd{a b r:Nat}(ha:a<4294967296)(hb:b<4294967296)(h:a|||b=r)(hr:r<4294967296): arB .or .u32 a b r:=by
 show IntKind.u32.wrap _=_
 rw[show IntKind.bits .u32=32 from rfl,Ypq ha hb,h]
 exact wW (by omega)
theorem Yc9{a b r:Nat}(ha:a<18446744073709551616)(hb:b<18446744073709551616)(h:a|||b=r)(hr:r<18446744073709551616): arB .or .u64 a b r:=by
 show IntKind.u64.wrap _=_
 rw[show IntKind.bits .u64=64 from rfl,Ypq ha hb,h]
 exact wU (by omega)
theorem Xit{u n r:Nat}(h:u*2^n=r)(hr:r<18446744073709551616)(i:n<=64): arB .shl .u64 u n r:=⟨by omega,by subst h;exact Yji hr i⟩
theorem Xcf{l:List Nat}(i:l.length<=1099511627776): C0 130 [.d (ws l)] (·=.d (ws l)):=by
 refine En Tryz.func130 λ_ _ _=>?_
 refine Ub rfl (λh=>?_) ?_
 exact R1 rfl (.nil h)
 by_cases h:l=[]
 subst h
 refine ApE rfl rfl (by decide) ?_
 exact R1 rfl (.lit rfl)
 have h0:=W6l.2 h
 refine ApL (l.map wd) rfl rfl (by simpa using h0) (by simpa using i) ?_
 exact R1 rfl (.own rfl (by simp) (by simp only[W1i];exact W0b (by simp)))
theorem Xle{x y:Nat}(hx:(dig x).length<=549755813888)(hy:(dig y).length<=549755813888): C0 180 [.d (ws (dig x)),.d (ws (dig y))] (·=.d (ws (dig (x*y)))):=by
 have hz:∀ {x:Nat},(dig x).length=0->x=0:=λh=>Xtu.1 (W0m h)
 refine En Tryz.func180 λ_ _ _=>?_
 refine By rfl (λh=>?_) λh=>?_<;>simp only[lw] at h
 exact R1 rfl (.nil (by rw[hz (by omega:(dig x).length=0),W4y,Xap];rfl))
 refine By rfl (λh=>?_) λh=>?_<;>simp only[lw] at h
 exact R1 rfl (.nil (by rw[hz (by omega:(dig y).length=0),W3l,Xap];rfl))
 refine Ar ((dig x).length+(dig y).length:Nat) rfl ?_ (wr (by simp only[lw];omega) (by simp only[inK];omega))
 refine Mk ((dig x).length+(dig y).length) rfl (by omega) ?_
 refine Lo (λ(i,lo)=>[(1,.d (ws (dig y))),(5,.own 24 1 0 ((dig x).length+(dig y).length)),(25,.d (ws (dig x))),(26,.d (.int .i64 (dig x).length)),(27,.d (.int .i64 (i:Nat)))]) (λ(_,lo)=>[(24,.arr 1 (lo.map wd))])
  (λ(i,lo)=>i<=(dig x).length/\lo.length=(dig x).length+(dig y).length/\Xav lo/\val (lo.take (i+(dig y).length))=val ((dig x).take i)*y/\∀j,i+(dig y).length<=j->j<(dig x).length+(dig y).length->lo[j]?=some 0) (λ(i,_)=>(dig x).length-i)
  (0,List.replicate ((dig x).length+(dig y).length) 0) [] rfl ⟨by omega,by simp,λ_ h=>by rw[(W6n.1 h).2];omega,by rw[W5u,Xb3];simp[val],λj _ h=>by rw[W4l,if_pos h]⟩ ?_ (by exact⟨by simp only[lw,ws];rfl,by simp only[W2i];rfl,rfl,rfl,rfl⟩)
 rintro⟨i,I⟩ ⟨hi,V,Z,M,hz0⟩
 refine By rfl (λh=>?_) λh=>?_
 obtain⟨u,hu⟩:=xat (l:=dig x) (k:=i) (by omega)
 have hub:=ww hu (Xaf x)
 refine Ix i rfl (mp hu)<|Lo (λ(k,lo,O)=>[(1,.d (ws (dig y))),(5,.own 24 1 0 ((dig x).length+(dig y).length)),(6,.d (.int .i64 i)),(7,.d (.int .u32 u)),(8,.d (.int .u64 (O:Nat))),(25,.d (ws (dig x))),(26,.d (.int .i64 (dig x).length)),(27,.d (.int .i64 i)),(32,.d (ws (dig y))),(33,.d (.int .i64 (dig y).length)),(34,.d (.int .i64 (k:Nat)))]) (λ(_,lo,_)=>[(24,.arr 1 (lo.map wd))])
  (λ(k,lo,O)=>k<=(dig y).length/\lo.length=(dig x).length+(dig y).length/\Xav lo/\O<4294967296/\(∀j,i+k<=j->lo[j]?=I[j]?)/\val (lo.take (i+k))+4294967296^(i+k)*O=val (I.take (i+k))+4294967296^i*(u*val ((dig y).take k))) (λ(k,_,_)=>(dig y).length-k)
  (0,I,0) [] rfl ⟨by omega,V,Z,by omega,λ_ _=>rfl,by simp[val]⟩ ?_ (by exact⟨by simp only[lw,ws];rfl,rfl,rfl,rfl,rfl⟩)
 rintro⟨k,lo,O⟩ ⟨hk,hl,hw,hcr,o,T⟩
 refine By rfl (λh=>?_) λh=>?_
 obtain⟨v,hv⟩:=xat (l:=dig y) (k:=k) (by omega)
 have hvb:=ww hv (Xaf y)
 obtain⟨w,U⟩:=xat (l:=lo) (k:=i+k) (by omega)
 have hwb:=ww U hw
 have huv:u*v<=4294967295*4294967295:=W2b (by omega) (by omega)
 refine Ix k rfl (mp hv)<|Go.Vm.Cv u rfl ?_
 refine Go.Vm.Cv v rfl ?_
 refine Ar (u*v:Nat) rfl ?_ (wr (W2r ..).symm (by simp only[inK];omega))
 refine Ar (i+k:Nat) rfl ?_
 refine Eo (i+k) rfl (by omega)<|Ld (wd w) rfl (mp U) ?_
 refine Go.Vm.Cv w rfl ?_
 refine Ar (u*v+w:Nat) rfl ?_
 obtain⟨s,hs⟩:∃s,s=O+(u*v+w):=⟨_,rfl⟩
 have hs2:s<18446744073709551616:=by omega
 refine Ar (s:Nat) rfl ?_
 refine Ar (i+k:Nat) rfl ?_
 refine Go.Vm.Cv (s%4294967296:Nat) rfl ?_ (by rw[wWm];omega)
 refine Eo (i+k) rfl (by omega)<|Sto rfl (by simp only[lw];omega) ms ?_
 refine Ar (s/4294967296:Nat) rfl ?_ (Xll (n:=32) (by decide))
 refine Ar (k+1:Nat) rfl ?_
 refine Bk (k+1,lo.set (i+k) (s%4294967296),s/4294967296) [] rfl ⟨by omega,by simp[hl],λx hx=>(W3x hx).elim (hw x) λe=>by rw[e];omega,by omega,λj hj=>by rw[W2l (by omega)];exact o j (by omega),?_⟩ (by show _-(k+1)<_-k;omega)
 have hw0':I[i+k]?=some w:=by rw[<-o (i+k) (W0a _)];exact U
 rw[<-W4z,Xbn (by omega),Xac hw0',Xac hv,W0z,W0v,W1d u,W1d (4294967296^i)]
 have e:4294967296^(i+k)*s=4294967296^(i+k)*(s%4294967296)+4294967296^(i+k)*(4294967296*(s/4294967296)):=by rw[<-W1d];congr 1;omega
 have e2:4294967296^(i+k)*s=4294967296^(i+k)*O+4294967296^i*(u*(4294967296^k*v))+4294967296^(i+k)*w:=by
  rw[hs,W1d,W1d,W0x]
  have:4294967296^i*4294967296^k*(u*v)=4294967296^i*(u*(4294967296^k*v)):=by
   rw[W0v,W5d (4294967296^k) u v]
  omega
 omega
 have hkm:k=(dig y).length:=by omega
 subst hkm
 refine Ar (i+(dig y).length:Nat) rfl ?_ (wr (by simp only[lw];omega) (by simp only[inK];omega))
 refine Go.Vm.Cv O rfl ?_
 refine Eo (i+(dig y).length) rfl (by omega)<|Sto rfl (by simp only[lw];omega) ms ?_
 refine Ar (i+1:Nat) rfl ?_
 refine Bk (i+1,lo.set (i+(dig y).length) O) [] rfl ⟨by omega,by simp[hl],λx hx=>(W3x hx).elim (hw x) λe=>by rw[e];omega,?_,λj h1 h2=>by rw[W2l (by omega),o j (by omega)];exact hz0 j (by omega) h2⟩ (by show _-(i+1)<_-i;omega)
 rw[show i+1+(dig y).length=i+(dig y).length+1 by omega,Xbn (by omega),Xac hu,T,M,W0b (l:=dig y) (by omega),Xag,W1f,W0v]
 have him:i=(dig x).length:=by omega
 rw[him,W0b (by omega),W0b (by omega),Xag] at M
 refine Fz 17 5 (I.map wd) rfl (by simp only[lw];omega) (oa V) ?_
 exact Ce rfl (Xbb Z (by omega))<|R1 rfl (.eq (by rw[M]))
end
section
theorem Xhw{l:List Nat}{k d:Nat}(h:Xav l)(hd:d<4294967296): Xav (l.set k d):=λx i=>(W3x i).elim (h x) λe=>by rw[e];exact hd
theorem Xf4(n:Nat): Xav (List.replicate n 0):=λ_ h=>by rw[(W6n.1 h).2];omega
theorem Yco{u n:Nat}(i:u<4294967296)(j:n<32): u*2^n<9223372036854775808:=by
 have h:2^n<=2^31:=W0o (by decide) (by omega)
 have o:u*2^n<=4294967295*2^31:=W2b (by omega) h
 omega
theorem Xm4{u v n:Nat}(i:u<4294967296)(I:n<32): (u/2^n)|||(v*2^(32-n)%4294967296)=u/2^n+(v%2^n)*2^(32-n)/\u/2^n+(v%2^n)*2^(32-n)<4294967296:=by
 have h:=Xeb v (32-n) (by omega)
 rw[show 32-(32-n)=n by omega] at h
 have hd:u/2^n<2^(32-n):=by
  rw[W3b (W0p n),<-W0x,show 32-n+n=32 by omega]
  exact i
 rw[h,Nat.or_comm,Xej _ _ _ hd,Nat.add_comm]
 refine⟨rfl,?_⟩
 have j:v%2^n+1<=2^n:=W2o _ (W0p _)
 have o:=W0l (2^(32-n)) j
 rw[<-W0x,show n+(32-n)=32 by omega,W2m] at o
 omega
theorem Xq6{a b u v n m P:Nat}(o:n<32)(h:a*2^n+b=P+4294967296^m*(u%2^n)):
 (a+4294967296^m*(u/2^n+(v%2^n)*2^(32-n)))*2^n+b=P+4294967296^m*u+4294967296^(m+1)*(v%2^n):=by
 have i:4294967296^(m+1)=4294967296^m*4294967296:=W0z ..
 have j:v%2^n*2^(32-n)*2^n=4294967296*(v%2^n):=by
  rw[W0v,<-W0x,show 32-n+n=32 by omega,W1g]
 rw[W1f,W0v (4294967296^m),W1f (u/2^n),j,i,W0v (4294967296^m),W1d (4294967296^m)]
 have e:4294967296^m*u=4294967296^m*(u/2^n*2^n)+4294967296^m*(u%2^n):=by
  rw[<-W1d];congr 1;rw[W1g (u/2^n)];exact(W2x ..).symm
 omega
theorem Xhp{n x:Nat}(hx:(dig x).length<=549755813888)(I:n<32): CO0 325 [.d (ws (dig x)),.d (.int .i64 n)] λv ob=>∃l,l.length=(dig x).length+1/\Xav l/\val l=x*2^n/\v=.own 1000000 1 0 l.length/\ob=.arr 1 (l.map wd):=by
 have hp:=W0p n
 have hp32:2^n<=2147483648:=by have:2^n<=2^31:=W0o (by decide) (by omega);omega
 refine EnW Tryz.func325 λ_ _ _ _=>?_
 refine Ar ((dig x).length+1:Nat) rfl ?_ (wr (by simp only[lw];omega) (by simp only[inK];omega))
 refine Mk ((dig x).length+1) rfl (by omega) ?_
 refine Lo (λ(i,lo)=>[(1,.d (.int .i64 n)),(5,.own 12 1 0 ((dig x).length+1)),(13,.d (ws (dig x))),(14,.d (.int .i64 (dig x).length)),(15,.d (.int .i64 (i:Nat)))]) (λ(_,lo)=>[(12,.arr 1 (lo.map wd))])
  (λ(i,lo)=>i<=(dig x).length/\lo.length=(dig x).length+1/\Xav lo/\val (lo.take (i+1))=val ((dig x).take i)*2^n/\∃w,lo[i]?=some w/\w<2^n) (λ(i,_)=>(dig x).length-i) (0,List.replicate ((dig x).length+1) 0) [] rfl
  ⟨by omega,by simp,Xf4 _,by rw[W5u,Xb3];simp[val],0,by simp,hp⟩ ?_ (by exact⟨by simp only[lw,ws];rfl,by simp only[W2i];rfl,rfl,rfl,rfl⟩)
 rintro⟨i,lo⟩ ⟨hi,Z,M,j,w,hw,hwn⟩
 refine By rfl (λh=>?_) λh=>?_
 obtain⟨u,hu⟩:=xat (l:=dig x) (k:=i) (by omega)
 have O:=ww hu (Xaf x)
 have hs1:=Yco O I
 have o:=Xeb u n (by omega)
 obtain⟨s,V⟩:∃s,s=u*2^n:=⟨_,rfl⟩
 have T:=Xit V.symm (by omega) (by omega:n<=64)
 rw[<-V] at hs1 o
 have hor:w|||s%4294967296=s%4294967296+w:=by rw[Nat.or_comm,o];exact Xej _ _ _ hwn
 have U:s%4294967296+w<4294967296:=by
  rw[o]
  have h1:u%2^(32-n)+1<=2^(32-n):=W2o _ (W0p _)
  have h2:=W0l (2^n) h1
  rw[<-W0x,show 32-n+n=32 by omega,W2m] at h2
  omega
 refine Ix i rfl (mp hu)<|Go.Vm.Cv u rfl ?_
 refine Ar s rfl ?_ T
 refine Eo i rfl (by omega)<|Ld (wd w) rfl (mp hw) ?_
 refine Go.Vm.Cv (s%4294967296:Nat) rfl ?_ (by rw[wWm];omega)
 refine Ar (s%4294967296+w:Nat) rfl ?_ (Ynd (by omega) (by omega) hor U)
 refine Eo i rfl (by omega)<|Sto rfl (by simp only[lw];omega) ms ?_
 refine Ar (i+1:Nat) rfl ?_
 refine Ar (s/4294967296:Nat) rfl ?_ (Xll (n:=32) (by decide))
 refine Go.Vm.Cv (s/4294967296:Nat) rfl ?_
 refine Eo (i+1) rfl (by omega)<|Sto rfl (by simp only[W1k,W3c];omega) ms ?_
 refine Ar (i+1:Nat) rfl ?_
 refine Bk (i+1,(lo.set i (s%4294967296+w)).set (i+1) (s/4294967296)) [] rfl ⟨by omega,by simp[Z],Xhw (Xhw M U) (by omega),?_,s/4294967296,by rw[W2n (by rw[W3c];omega)],?_⟩ (by show _-(i+1)<_-i;omega)
 rw[Xbn (by rw[W3c];omega),Xbn (by omega),Xac hu,W1f,<-j,Xac hw,W0v,<-V,W0z,W1d,W0v]
 have e:4294967296^i*s=4294967296^i*(s%4294967296)+4294967296^i*(4294967296*(s/4294967296)):=by rw[<-W1d];congr 1;omega
 omega
 rw[W3b (by decide),V,W1g]
 exact Nat.mul_lt_mul_of_pos_left O hp
 have him:i=(dig x).length:=by omega
 rw[him,W0b (by omega),W0b (by omega),Xag] at j
 exact Rw [(12,1000000)] [(1000000,.arr 1 (lo.map wd))] rfl (.one (.rf rfl) rfl rfl) ⟨_,rfl,lo,Z,M,j,by rw[Z];rfl,rfl⟩
theorem Xgd{n:Nat}{l:List Nat}(hw:Xav l)(hx:l.length<=549755813888)(M:n<32): C0 328 [.d (ws l),.d (.int .i64 n)] λv=>∃l',val l'=val l/2^n/\Xav l'/\l'.length=l.length/\v=.d (ws l'):=by
 have hp:=W0p n
 have hp32:2^n<=2147483648:=by have:2^n<=2^31:=W0o (by decide) (by omega);omega
 refine En Tryz.func328 λ_ _ _=>?_
 refine Mk l.length rfl (by simp only[lw];omega) ?_ (by simp only[lw])
 refine Lo (λ(i,lo)=>[(0,.d (ws l)),(1,.d (.int .i64 n)),(5,.own 10 1 0 l.length),(11,.d (ws l)),(12,.d (.int .i64 l.length)),(13,.d (.int .i64 (i:Nat)))]) (λ(_,lo)=>[(10,.arr 1 (lo.map wd))])
  (λ(i,lo)=>i<=l.length/\lo.length=l.length/\Xav lo/\val (lo.take i)*2^n+val l%2^n=val (l.take i)+4294967296^i*(l.getD i 0%2^n)) (λ(i,_)=>l.length-i) (0,List.replicate l.length 0) [] rfl
  ⟨by omega,by simp,Xf4 _,by simp[val,Xih l n (by omega)]⟩ ?_ (by exact⟨by simp only[lw,ws];rfl,by simp only[W2i];rfl,rfl,rfl,rfl⟩)
 rintro⟨i,lo⟩ ⟨hi,hl,O,j⟩
 refine By rfl (λh=>?_) λh=>?_
 obtain⟨u,hu⟩:=xat (l:=l) (k:=i) (by omega)
 have T:=ww hu hw
 have U:u/2^n<4294967296:=W2a (W3n ..) T
 have hgu:l.getD i 0=u:=by rw[W2g,hu];rfl
 rw[hgu] at j
 refine Ix i rfl (mp hu)<|Ar (u/2^n:Nat) rfl ?_ (Xll (by omega:n<=32))
 refine Eo i rfl (by omega)<|Sto rfl (by simp only[lw];omega) ms ?_
 refine Ar (i+1:Nat) rfl ?_
 refine Cu none (λo:List Nat=>[(0,.d (ws l)),(1,.d (.int .i64 n)),(5,.own 10 1 0 l.length),(11,.d (ws l)),(12,.d (.int .i64 l.length)),(13,.d (.int .i64 i))]) (λo=>[(10,.arr 1 (o.map wd))])
  (λo=>∃v,l.getD (i+1) 0=v/\o=lo.set i (u/2^n+(v%2^n)*2^(32-n))/\u/2^n+(v%2^n)*2^(32-n)<4294967296) rfl ?_ ?_
 refine By rfl (λh2=>?_) λh2=>?_<;>simp only[lw] at h2
 obtain⟨v,V⟩:=xat (l:=l) (k:=i+1) (by omega)
 have hvb:=ww V hw
 have I:=Xm4 (v:=v) T M
 have Z:v*2^(32-n)<18446744073709551616:=by
  have h1:2^(32-n)<=2^32:=W0o (by decide) (by omega)
  have h2:v*2^(32-n)<=4294967295*2^32:=W2b (by omega) h1
  omega
 obtain⟨s,hs⟩:∃s,s=v*2^(32-n):=⟨_,rfl⟩
 have hshl:=Xit hs.symm (by omega) (by omega:32-n<=64)
 rw[<-hs] at I Z
 refine Dw rfl<|Eo i rfl (by omega)<|Ld (wd (u/2^n)) rfl (mp (W2n (by omega))) ?_
 refine Ar (i+1:Nat) rfl ?_
 refine Ix (i+1) rfl (mp V)<|Go.Vm.Cv v rfl ?_
 refine Ar (32-n:Nat) rfl ?_
 refine Ar s rfl ?_ hshl
 refine Go.Vm.Cv (s%4294967296:Nat) rfl ?_ (by rw[wWm];omega)
 refine Ar (u/2^n+(v%2^n)*2^(32-n):Nat) rfl ?_ (Ynd U (by omega) I.1 I.2)
 refine Eo i rfl (by omega)<|Sto rfl (by simp only[W1k,W3c];omega) ms ?_
 exact Jn (lo.set i (u/2^n+(v%2^n)*2^(32-n))) [] rfl ⟨v,by rw[W2g,V];rfl,rfl,I.2⟩ (by exact⟨rfl,by rw[List.set_set];rfl,rfl,rfl,rfl⟩)
 exact Jn (lo.set i (u/2^n)) [] rfl ⟨0,by rw[W2g,W1y (by omega)];rfl,by simp,by simp;exact U⟩
 rintro o ⟨v,V,rfl,hlt⟩
 refine Ar (i+1:Nat) rfl ?_
 refine Bk (i+1,lo.set i (u/2^n+(v%2^n)*2^(32-n))) [] rfl ⟨by omega,by simp[hl],Xhw O hlt,?_⟩ (by show _-(i+1)<_-i;omega)
 rw[Xbn (by omega),Xac hu,V]
 exact Xq6 M j
 have him:i=l.length:=by omega
 rw[him,W0b (by omega),W0b (by omega),W2g,W1y (by omega)] at j
 refine Rt rfl (.one (.own rfl (by simp only[lw];omega) (oa hl)) rfl rfl) ⟨lo,?_,O,hl,rfl⟩
 simp at j
 have:=W2x (val l) (2^n)
 rw[W1g] at this
 exact Nat.eq_of_mul_eq_mul_right hp (by omega)
theorem Xml{x y:Nat}(hx:(dig x).length<=549755813888)(hy:y<4294967296)(Z:y≠0): C0 323 [.d (ws (dig x)),.d (.int .u32 y)] (·=.tup (.pr (.d (ws (dig (x/y)))) (.d (ws (dig (x%y)))))):=by
 refine En Tryz.func323 λ_ _ _=>?_
 refine Mk (dig x).length rfl (by simp only[lw];omega) ?_ (by simp only[lw])
 refine Ar ((dig x).length-1:Int) rfl ?_ (wr (by simp only[lw]) (by simp only[inK];omega))
 refine Lo (λ(k,lo,r)=>[(0,.d (ws (dig x))),(1,.d (.int .u32 y)),(6,.own 11 1 0 (dig x).length),(7,.d (.int .u64 (r:Nat))),(8,.d (.int .i64 ((k:Nat)-1:Int)))]) (λ(_,lo,_)=>[(11,.arr 1 (lo.map wd))])
  (λ(k,lo,r)=>k<=(dig x).length/\lo.length=(dig x).length/\Xav lo/\r<y/\val (lo.drop k)*y+r=val ((dig x).drop k)) (λ(k,_,_)=>k) ((dig x).length,List.replicate (dig x).length 0,0) [] rfl
  ⟨by omega,by simp,Xf4 _,by omega,by rw[W2v (by simp),W2v (by omega)];simp[val]⟩ ?_ (by exact⟨rfl,by simp only[W2i];rfl,rfl,rfl,rfl⟩)
 rintro⟨k,lo,r⟩ ⟨hk,U,o,V,i⟩
 refine By rfl (λh=>?_) λh=>?_
 obtain⟨u,M⟩:=xat (l:=dig x) (k:=k-1) (by omega)
 have hub:=ww M (Xaf x)
 obtain⟨s,hs⟩:∃s,s=r*2^32+u:=⟨_,rfl⟩
 have j:s<18446744073709551616:=by omega
 have I:s/y<4294967296:=by
  rw[W3b (by omega)]
  have:=W0l 4294967296 (by omega:r+1<=y)
  omega
 have O:s%y<y:=W2o _ (by omega)
 have hq0:0<=s/y:=W0r _
 refine Ar (r*2^32:Nat) rfl ?_ (Xit (n:=32) rfl (by omega) (by decide))
 refine Ix (k-1) rfl (mp M)<|Go.Vm.Cv u rfl ?_
 refine Ar s rfl ?_ (Yc9 (by omega) (by omega) (by rw[Xej u r 32 (by omega),<-hs]) j)
 refine Go.Vm.Cv y rfl ?_
 refine Ar (s/y:Nat) rfl ?_ (show _/\_ from⟨by omega,Yez s y j⟩)
 refine Go.Vm.Cv (s/y:Nat) rfl ?_ (wW ⟨W5x _,W7y.2 I⟩)
 refine Eo (k-1) rfl (by omega)<|Sto rfl (by simp only[lw];omega) ms ?_
 refine Go.Vm.Cv y rfl ?_
 refine Ar (s%y:Nat) rfl ?_ (show _/\_ from⟨by omega,Xta s y⟩)
 refine Ar ((k-1:Nat)-1:Int) rfl ?_
 refine Bk (k-1,lo.set (k-1) (s/y),s%y) [] rfl ⟨by omega,by simp[U],Xhw o I,O,?_⟩ (by show k-1<k;omega)
 rw[Xcj M,show k-1+1=k by omega,<-i,drop_set (by omega),val,show k-1+1=k by omega]
 have e:=W2x s y
 rw[W1g] at e
 rw[W1f,W1d,W0v]
 omega
 have T:k=0:=by omega
 subst T
 rw[W1i,W1i,Xag] at i
 have hq:x/y=val lo:=by rw[<-i,W1g,Nat.mul_add_div (by omega),W4o V,W2e]
 have hm:x%y=r:=by rw[<-i,W1g,Nat.mul_add_mod,W5j V]
 refine Fz 9 6 (lo.map wd) rfl (by simp only[lw];omega) (oa U) ?_
 refine Ce rfl (Xbb o (by omega))<|Ce rfl (Xcr (n:=r) (by omega)) ?_
 subst hm
 exact RTt rfl (.cons (.eq (by rw[hq])) (.one (.rf rfl) (λ_ _ e=>by cases e) (λ_ _ e=>by cases e)))
theorem Xs5{x:Nat}(hx:x<4294967296): C0 353 [.d (.int .u32 x)] (·=.d (.int .i64 (bl x))):=by
 refine En Tryz.func353 λ_ _ _=>?_
 refine Cu none (λ((i,n1):Nat×Nat)=>[(0,.d (.int .u32 i)),(2,.d (.int .i64 n1))]) (λ_=>[]) (λ(i,n1)=>i<65536/\bl x=bl i+n1/\n1<=16) rfl ?_ λ⟨i,n1⟩ ⟨T,I,U⟩=>?_
 refine By rfl (λh=>?_) λh=>?_
 refine Ar (x/2^16:Nat) rfl ?_ (Xll (n:=16) (by decide))
 exact Jn (x/2^16,16) [] rfl ⟨by omega,Xmq (by omega),W0a _⟩
 exact Jn (x,0) [] rfl ⟨by omega,rfl,by omega⟩
 refine Cu none (λ((i,n1):Nat×Nat)=>[(0,.d (.int .u32 i)),(2,.d (.int .i64 n1))]) (λ_=>[]) (λ(i,n1)=>i<256/\bl x=bl i+n1/\n1<=24) rfl ?_ λ⟨o,n2⟩ ⟨M,V,Z⟩=>?_
 refine By rfl (λh=>?_) λh=>?_
 refine Ar (i/2^8:Nat) rfl ?_ (Xll (n:=8) (by decide))
 refine Ar (n1+8:Nat) rfl ?_
 exact Jn (i/2^8,n1+8) [] rfl ⟨by omega,by rw[I,Xmq (n:=i) (k:=8) (by omega)];omega,by omega⟩
 exact Jn (i,n1) [] rfl ⟨by omega,I,by omega⟩
 have O:bl o<256:=W0y (Ylm (p:=λj=>bl j<10) (by decide +kernel) o M) (by decide)
 refine Go.Vm.Cv o rfl ?_
 refine Yx o (UInt8.ofNat (bl o)) rfl (by revert M;generalize o=j;revert j;decide +kernel) ?_
 refine Go.Vm.Cv (bl o:Nat) rfl ?_ ((wI ⟨by omega,by rw[Yi0 O];omega⟩).trans (Yi0 O))
 refine Ar (bl x:Nat) rfl ?_
 exact R0
theorem Xhl{x:Nat}(i:x<4294967296)(h0:x≠0): C0 324 [.d (.int .u32 x)] λv=>∃n:Nat,v=.d (.int .i64 n)/\n<32/\2147483648<=x*2^n/\x*2^n<4294967296:=by
 obtain⟨j,I,M⟩:=Xdh h0
 have o:bl x<=32:=by
  have:2^(bl x-1)<2^32:=W2a j i
  have:=(W3i (by decide:1<2)).1 this
  omega
 refine En Tryz.func324 λ_ _ _=>?_
 refine Ce rfl (Xs5 i)<|Ar (32-bl x:Nat) rfl ?_
 refine Rt rfl (.one (.rf rfl) rfl rfl) ⟨32-bl x,rfl,by omega,?_,?_⟩
 have h:=W0l (2^(32-bl x)) j
 rw[<-W0x,show bl x-1+(32-bl x)=31 by omega] at h
 exact h
 have h:=W3g I (W0p (32-bl x))
 rw[<-W0x,show bl x+(32-bl x)=32 by omega] at h
 exact h
end
section
open Go.RowKit Go.Shelf
attribute [local go_sem] Oper.semAt_some
abbrev Wd:={ x:Nat // x<4294967296 }
def bk(zs:List Wd)(k:Nat): List (Nat×Wd):=(List.range k).map λj=>(zs.length-1-j,zs[zs.length-1-j]?.getD ⟨0,by decide⟩)
theorem Yhj(zs:List Wd)(k:Nat): bk zs (k+1)=bk zs k++[(zs.length-1-k,zs[zs.length-1-k]?.getD ⟨0,by decide⟩)]:=by simp[bk,W7z]
theorem Xye(zs:List Wd)(k:Nat): (bk zs k).length=k:=by simp[bk]
structure Kq (n₀ Bs:Nat) (A B:World):Prop where
 a:Below n₀ A B
 b:B.heap[Bs]?=A.heap[Bs]?
theorem Kq.refl(n₀ Bs:Nat)(A:World): Kq n₀ Bs A A:=⟨Below.refl _ _,rfl⟩
theorem Kq.trans{n₀ Bs:Nat}{A B C:World}(h:Kq n₀ Bs A B)(k:Kq n₀ Bs B C): Kq n₀ Bs A C:=⟨h.a.trans k.a,k.b.trans h.b⟩
set_option maxRecDepth 100000 in
set_option maxHeartbeats 2000000 in
theorem Ybq(F:Fence)(n:Nat)(h8:F.fn 229)(hro:F.round=none)(hn:1<=n)(l Bs n₀ b off cap:Nat)(zs:List Wd)(hreach:zs.length*4<=140737488351232)(hb:b<n₀)(J Jx:List (Nat×Wd)->World->Prop)
 (hY:∀pre x W,J pre W->pre.length<zs.length->YieldAt F (n-1) Tryz.prog l #[.int .i64 (x.1:Int),.int .u32 (x.2.1:Int)] W λe W' =>
  (e=.returned (.bool true)/\J (pre++[x]) W'/\Kq n₀ Bs W W')\/(e=.returned (.bool false)/\Jx (pre++[x]) W'))
 (W:World) (hBs:W.cell? ⟨Bs,0,none⟩=some (.slice (some ⟨b,off,none⟩) zs.length cap)) (hc:∀j,j<zs.length->W.cell? ⟨b,off+j,none⟩=some (.int .u32 ((zs[j]?.getD ⟨0,by decide⟩).1:Int))) (h0:J [] W) :
 CallsIn F n Tryz.prog 229 #[.func (.yield l) #[] #[],.pointer (some ⟨Bs,0,none⟩)] W λe W'=>(∃v,e=.returned v) /\
  ((∃ys,ys=bk zs zs.length/\J ys W')\/(∃pre,True/\Jx pre W')):=by
 refine callsIn_of_wp Tryz.func229 rfl h8 ?_ hro
 simp only[Tryz.ntmps229,W5e,W1j,W3r,Nat.reduceAdd,Nat.reduceSub,W4p,W4q,W5f,W4v,W3s,W4g]
 gi_wp2
 gi_loopw [3] (λi wr=>∃k:Nat,k<=zs.length/\i=.int .i64 ((zs.length:Int)-1-k)/\J (bk zs k) wr/\Kq n₀ Bs W wr)
  (λi _=>(intOf i+1).toNat)
 case atStart=>exact⟨0,W0r _,by simp,h0,Kq.refl _ _ _⟩
 case round =>
  obtain⟨k,hk,rfl,hJs,hnx⟩:=hrel
  have hBs':=(World.cell?_of_block hnx.b).trans hBs
  by_cases hlt:k<zs.length
  . obtain⟨q,hq⟩:∃q,q+(k+1)=zs.length:=⟨zs.length-1-k,by omega⟩
    have hqi:((zs.length:Int)-1-k)=(q:Int):=by omega
    have hcx:=(hnx.a.cell (p:=⟨b,off+q,none⟩) hb).trans (hc q (by omega))
    obtain⟨fn,tmps,assign,body,hy,hR⟩:=hY _ (q,zs[q]?.getD ⟨0,by decide⟩) wr hJs (by rw[Xye];exact hlt)
    dsimp only at hy
    rw[hqi]
    gi_wp2
    refine hR.mono ?_
    rintro e W3 (⟨rfl,hJ3,hk3⟩ | ⟨rfl,hJx3⟩)
    . gi_wp2
      go_roundw
      case rel=>exact⟨k+1,by omega,by congr 1;omega,by rw[Yhj,show zs.length-1-k=q by omega];exact hJ3,hnx.trans hk3⟩
      case measure=>simp[intOf]
    . gi_wp2
      refine bodyPost_ret (results_none rfl _ _ _) rfl ?_
      exact⟨⟨_,rfl⟩,.inr ⟨_,trivial,hJx3⟩⟩
  . obtain rfl:k=zs.length:=by omega
    rw[show ((zs.length:Int)-1-(zs.length:Int))=-1 by omega]
    gi_wp2
    go_end0
    exact⟨⟨_,rfl⟩,.inl ⟨_,rfl,hJs⟩⟩
set_option maxRecDepth 100000 in
set_option maxHeartbeats 1000000 in
theorem Xoe(F:Fence)(n:Nat)(h8:F.fn 229)(hro:F.round=none)(l Bs:Nat)(J:List (Nat×Wd)->World->Prop)(W:World){p:Option Addr}{c:Nat}(hBs:W.cell? ⟨Bs,0,none⟩=some (.slice p 0 c))(h0:J [] W):
 CallsIn F n Tryz.prog 229 #[.func (.yield l) #[] #[],.pointer (some ⟨Bs,0,none⟩)] W λe W'=>(∃v,e=.returned v)/\J [] W':=by
 refine callsIn_of_wp Tryz.func229 rfl h8 ?_ hro
 simp only[Tryz.ntmps229,W5e,W1j,W3r,Nat.reduceAdd,Nat.reduceSub,W4p,W4q,W5f,W4v,W3s,W4g]
 gi_wp2
 gi_loopw [3] (λi wr=>i=.int .i64 (-1)/\J [] wr) (λ_ _=>0)
 case atStart=>exact⟨rfl,h0⟩
 case round =>
  obtain⟨rfl,hJs⟩:=hrel
  gi_wp2
  go_end0
  exact⟨⟨_,rfl⟩,hJs⟩
set_option maxHeartbeats 1000000 in
theorem Xyj(F:Fence)(n:Nat)(h6:F.fn 133)(hro:F.round=none)(a:Option Addr)(len cap:Nat)(w:World):
 CallsIn F n Tryz.prog 133 #[.slice a len cap] w λe w'=>e=.returned (.func (.func 229) #[] #[.pointer (some ⟨w.heap.size,0,none⟩)])/\w'=w.alloc (.cells #[.slice a len cap] 56):=by
 refine callsIn_of_wp Tryz.func133 rfl h6 ?_ hro
 simp only[Tryz.ntmps133,W5e,W1j,W3r,Nat.reduceAdd,Nat.reduceSub,W4p,W4q,W5f,W4v,W3s,W4g]
 gi_wp2
 go_ret
 exact⟨rfl,rfl⟩
theorem Xtz(F:Fence)(n:Nat)(U:F.fn 229)(o:F.round=none)(Z:1<=n)(Bs n₀:Nat)(p:Option Addr)(cap:Nat)(zs:List Wd)(h:zs.length*4<=140737488351232)(w:World)(M:Bs<w.heap.size)(i:n₀<=w.heap.size)
 (hc:w.cell? ⟨Bs,0,none⟩=some (.slice p zs.length cap)) (hI:zs=[]\/∃b off,p=some ⟨b,off,none⟩/\b<n₀/\∀j,j<zs.length->w.cell? ⟨b,off+j,none⟩=some (.int .u32 ((zs[j]?.getD ⟨0,by decide⟩).1:Int))) :
 SeqStopsK F n Tryz.prog 229 #[.pointer (some ⟨Bs,0,none⟩)] (λx:Nat×Wd=>#[Value.int .i64 (x.1:Int),Value.int .u32 (x.2.1:Int)]) (Kq n₀ Bs) (λys=>ys=bk zs zs.length)
  (λ_=>True) zs.length w:=λl J Jx W V _ _ hY h0=>by
 have I:=(V.cell (p:=⟨Bs,0,none⟩) M).trans hc
 rcases hI with rfl | ⟨b,off,rfl,hb,O⟩
 exact(Xoe F n U o l Bs J W I h0).mono λe W' ⟨he,T⟩=>⟨he,.inl ⟨_,rfl,T⟩⟩
 exact Ybq F n U o Z l Bs n₀ b off cap zs h hb J Jx hY W I (λj T=>(V.cell (p:=⟨b,off+j,none⟩) (W0y hb i)).trans (O j T)) h0
def acc: List (Nat×Wd)->Nat:=List.foldl (λa x=>(a*4294967296)%18446744073709551616+x.2.1) 0
theorem Yb0(pre:List (Nat×Wd))(x:Nat×Wd): acc (pre++[x])=(acc pre*4294967296)%18446744073709551616+x.2.1:=by simp[acc]
theorem Yhk{p q:Nat}(hp:p<18446744073709551616)(hq:q<18446744073709551616): bits .or .u64 (p:Int) (q:Int)=IntKind.u64.wrap ((p|||q:Nat):Int):=by
 show IntKind.u64.wrap _=_
 congr 2
 exact Ypq hp hq
theorem Yms{a x:Nat}(j:x<4294967296): bits .or .u64 (IntKind.u64.wrap ((a:Int)*4294967296)) (IntKind.u64.wrap (x:Int))=(((a*4294967296)%18446744073709551616+x:Nat):Int):=by
 have h:IntKind.u64.wrap ((a:Int)*4294967296)=(((a*4294967296)%18446744073709551616:Nat):Int):=(wUm _).trans (by omega)
 have i:a*4294967296%18446744073709551616=(a%4294967296)*2^32:=by omega
 rw[h,wU (x:=(x:Int)) (by omega),Yhk (by omega) (by omega),i,Xej x (a%4294967296) 32 (by omega),wU (by omega)]
theorem Ydq{n₀ Bs N:Nat}(W:World)(l:Nat)(o:Obj)(j:N<=l)(I:n₀<=N)(M:Bs<N)(h:W.heap[l]?=some o)(i:Obj): Kq n₀ Bs W (W.putObj l i) :=
 ⟨(Below.refl n₀ W).grown (grownBy_putObj' W l i) (by have:=(W3k.1 h).1;omega) (λk e=>by cases e;omega),World.putObj_heap_other (by omega)⟩
set_option maxRecDepth 100000 in
set_option maxHeartbeats 2000000 in
theorem Xuw(F:Fence)(n:Nat)(h3:F.fn 254)(h5:F.fn 133)(h7:F.fn 229)(hro:F.round=none)(hn:3<=n)(p:Option Addr)(cap:Nat)(zs:List Wd)(hreach:zs.length*4<=140737488351232)(w:World)
 (hI:zs=[]\/∃b off,p=some ⟨b,off,none⟩/\b<w.heap.size/\∀j,j<zs.length->w.cell? ⟨b,off+j,none⟩=some (.int .u32 ((zs[j]?.getD ⟨0,by decide⟩).1:Int))) :
 CallsIn F n Tryz.prog 254 #[.slice p zs.length cap] w λe W'=>e=.returned (.int .u64 (acc (bk zs zs.length):Int))/\Below w.heap.size w W':=by
 have h1:1<=n:=by omega
 refine callsIn_of_wp_marks Tryz.func254 rfl h3 ?_ hro
 simp only[Tryz.ntmps254,W5e,W1j,W3r,Nat.reduceAdd,Nat.reduceSub,W4p,W4q,W5f,W4v,W3s,W4g]
 gi_wp2_with (gi_at_call 133;refine(Xyj F (n-1) h5 hro _ _ _ _).mono ?_;rintro e w' ⟨rfl,rfl⟩)
 have bS:=Boxed.new w 157 (.int .u64 0)
 have bN:=Boxed.new (w.alloc (.cells #[.int .u64 0] 157)) 56 (.slice p zs.length cap)
 rw[World.size_alloc] at bN
 have hB0:Below w.heap.size w ((w.alloc (.cells #[.int .u64 0] 157)).alloc (.cells #[.slice p zs.length cap] 56)):=((Below.refl _ w).alloc (W0a _) _).alloc (by simp) _
 refine wpIn_rangeFunc_ownG hro h1 (gf:=229) (lb:=#[.pointer (some ⟨w.heap.size+1,0,none⟩)]) rfl h7 (enters_of Tryz.func229 (by kernel_rfl) rfl)
  (Xtz F (n-1) h7 hro (by omega) (w.heap.size+1) w.heap.size p cap zs hreach _ (by simp) (by simp;omega) bN.cell (hI.imp_right λ⟨b,off,h1,h2,h3⟩=>⟨b,off,h1,h2,λj hj=>(hB0.cell (p:=⟨b,off+j,none⟩) h2).trans (h3 j hj)⟩)) Kq.trans (λW l o o' hl h _ _=>Ydq W l o hl (by simp;omega) (by simp) h o') (Below.refl _ _) (λ_=>rfl)
  (λpre W=>(W.cell? ⟨w.heap.size,0,none⟩=some (.int .u64 (acc pre:Int))/\W.frozen? ⟨w.heap.size,0,none⟩=false)/\Below w.heap.size w W)
  (λ_ _ _=>False)
  (OwnFrom.and (Own.from (λs A B row hs hg hr=>⟨cell_kept hs.1 hg hr,(frozen_kept hs.1 hg hr).trans hs.2⟩) _) (ownFrom_below (W0a _) (by simp;omega)))
  (λ_ _ _ _ _ hs _ _=>hs)
  ⟨⟨(bS.alloc _).cell,(bS.alloc _).frozen⟩,hB0⟩
  (λx=>{ tmps:=#[.slice p zs.length cap,undef,.int .u64 0,.pointer (some ⟨w.heap.size,0,none⟩),undef,.int .u32 (x.2.1:Int),.slice p zs.length cap,.func (.func 229) #[] #[.pointer (some ⟨w.heap.size+1,0,none⟩)],.int .i64 (x.1:Int),.int .u32 (x.2.1:Int),undef,undef,undef,undef,undef,undef],defers:=[] }) ?assign ?body ?done ?stop
 case assign =>
  intro l x W K hK
  gi_wp2
  exact hK
 case body =>
  rintro l pre x W ⟨⟨hc,hf⟩,hB⟩ _
  gi_wp2
  rw[Yms x.2.2,<-Yb0]
  exact⟨(KeepsOthers.setCell _ _ _).from _,⟨(Below.refl w.heap.size W).setCell (p:=⟨w.heap.size,0,none⟩) (W0a _) _,Below.heap_setCell _ _ _ _ (by simp)⟩,⟨World.cell?_setCell_same' _ _ _ (by rw[hc];rfl),by rw[World.frozen?_setCell];exact hf⟩,hB.setCell (p:=⟨w.heap.size,0,none⟩) (W0a _) _⟩
 case done =>
  rintro D ys W hD rfl ⟨⟨hc,_⟩,hB⟩ hK
  gi_wp2
  refine⟨by simp,.inl ⟨_,_,rfl,run_takeDeferred hK,?_⟩⟩
  exact⟨_,results_tmp rfl _ _ _,rfl,hB.trans (belowK_b (w:=w) (W0a _) W D _ _ (by simp at hD;omega) hK rfl rfl)⟩
 case stop =>
  rintro D c pre W _ _ h _
  exact h.elim
theorem wds{l:List Nat}(h:Xav l): ∃zs:List Wd,zs.map (·.1)=l :=
 by
 induction l with
 | nil=>exact⟨[],rfl⟩
 | cons a l i =>
  obtain⟨zs,j⟩:=i λx o=>h x (W1c _ o)
  exact⟨⟨a,h a (W0w ..)⟩::zs,by rw[W5a,j]⟩
theorem Yht{zs:List Wd}{x:Nat}(h:zs.map (·.1)=dig x)(o:x<18446744073709551616): acc (bk zs zs.length)=x:=by
 have j:(dig x).length<=2:=Xaq (by omega)
 have i:=Xag x
 rw[<-h] at j i
 match zs,j with
 | [],_=>simpa [bk,acc,val] using i
 | [a],_ =>
  have ha:=a.2
  simp[val] at i
  simp[bk,acc,W7z]
  omega
 | [a,b],_ =>
  have ha:=a.2
  have hb:=b.2
  simp[val] at i
  simp[bk,acc,W7z]
  omega
theorem Xsh{W:Vm.GW}{j:World}(h:Below W.w.heap.size W.w j): ∃W':Vm.GW,W'.w=j/\Vm.Fm W W' (λ_=>False) :=
 ⟨⟨j, W.A, λb i k => W0y (W.hA b i k) h.size⟩, rfl,
   { os := h.os, out := h.output, tape := h.tape, size := h.size, same := λb hb _ => h.block b hb, A := λ_ _ _ _ => W4a
     le:=λb i v o=>⟨by
      have hb:b<W.w.heap.size:=by
       apply W0t
       intro I
       have:=o.1
       simp only[World.cell?] at this
       rw[W3y (by omega)] at this
       cases this
      exact(World.cell?_of_block (h.block b hb)).trans o.1,o.2⟩ }⟩
theorem Xga{x:Nat}(Z:x<18446744073709551616): C0 254 [.d (ws (dig x))] (·=.d (.int .u64 x)):=by
 obtain⟨M,U⟩:=wds (Xaf x)
 have hl:(dig x).length<=2:=Xaq (by omega)
 refine⟨⟨_,Tryz.func254,rfl,rfl⟩,λW vs _ ha=>?_⟩
 match vs,ha with
 | [v],ha =>
  obtain⟨p,c,rfl,hc1,hc2,O⟩:=Vm.V_sl ha.1
  have V:((dig x).map wd).length=M.length:=by rw[<-U];simp
  rw[V]
  refine(callsIn_wide (n:=3)).1 ((Xuw Fence.wide 3 trivial trivial trivial rfl (W0a _) p c M (by rw[<-U,W1k] at hl;omega) W.w ?_).mono ?_)
  rcases O with h0 | ⟨b,off,hp,hr⟩
  left
  have:=congrArg List.length h0
  rw[V] at this
  exact W0m (by simpa using this)
  have o:∀j,j<M.length->W.w.cell? ⟨b,off+j,none⟩=some (.int .u32 ((M[j]?.getD ⟨0,by decide⟩).1:Int)):=λj hj=>by
   obtain⟨z,T⟩:∃z,M[j]?=some z:=⟨_,W0e hj⟩
   obtain⟨e,I,h2,h3⟩:=Vm.D.row_get hr (i:=j) (x:=wd z.1) (by rw[<-U];simp[T])
   have I:e=[.int .u32 z.1]:=I.1
   have:=(h3 0 (.int .u32 z.1) (by rw[I];rfl)).1
   rw[T]
   simpa using this
  by_cases h0:M=[]
  exact .inl h0
  refine .inr ⟨b,off,hp,?_,o⟩
  have I:=o 0 (W6l.2 h0)
  apply W0t
  intro hn
  simp only[World.cell?] at I
  rw[W3y (by omega)] at I
  cases I
  rintro e w' ⟨rfl,hB⟩
  obtain⟨W',hw,hE⟩:=Xsh hB
  refine⟨W',.d (.int .u64 x),_,rfl,hw,hE,?_,λ_ h=>h,rfl⟩
  rw[Yht U Z]
  exact Vm.int_V (by show IntKind.u64.wrap _=_;exact wU (by omega))
end
section
theorem Yoy{a b:Nat}(ha:a<4294967296)(hb:b<4294967296): a*b<=18446744065119617025:=by
 have:=W2b (by omega:a<=4294967295) (by omega:b<=4294967295)
 omega
theorem Xo4{q k y d:Nat}{l:List Nat}(hw:Xav l)(hq:q+(k+1)<=l.length)(hk:(dig y).length=k)(hd:d<4294967296)(hk40:k<=1099511627776):
 CW0 326 [.own 1000001 1 q (k+1),.d (ws (dig y)),.d (.int .u64 d)] [(1000001,.arr 1 (l.map wd))] λv H'=>∃(c:Nat) (Z:List Nat),c<=1/\v=.b (dc (c=1))/\H'=[(1000001,.arr 1 (Z.map wd))]/\Z.length=l.length/\Xav Z /\
  (∀j,(j<q\/q+(k+1)<=j)->Z[j]?=l[j]?)/\val ((Z.drop q).take (k+1))+y*d=val ((l.drop q).take (k+1))+4294967296^(k+1)*c:=by
 refine EnW Tryz.func326 λ_ _ _ _=>?_
 refine Lo (λ(i,lo,I)=>[(0,.own 1000001 1 q (k+1)),(1,.d (ws (dig y))),(2,.d (.int .u64 d)),(7,.d (.int .u64 (I:Nat))),(13,.d (ws (dig y))),(14,.d (.int .i64 k)),(15,.d (.int .i64 (i:Nat)))]) (λ(_,lo,_)=>[(1000001,.arr 1 (lo.map wd))])
  (λ(i,lo,I)=>i<=k/\lo.length=l.length/\Xav lo/\I<4294967296/\(∀j,(j<q\/q+i<=j)->lo[j]?=l[j]?)/\val ((lo.drop q).take i)+val ((dig y).take i)*d=val ((l.drop q).take i)+4294967296^i*I) (λ(i,_,_)=>k-i) (0,l,0) [] rfl
  ⟨by omega,rfl,hw,by omega,λ_ _=>rfl,by simp[val]⟩ ?_ (by exact⟨by simp only[lw,ws,hk];rfl,rfl,rfl,rfl,rfl⟩)
 rintro⟨i,lo,I⟩ ⟨hi,hl,M,hbr,o,O⟩
 refine By rfl (λh=>?_) λh=>?_
 obtain⟨w,T⟩:=xat (l:=dig y) (k:=i) (by omega)
 have hwb:=ww T (Xaf y)
 obtain⟨u,U⟩:=xat (l:=lo) (k:=q+i) (by omega)
 have hub:=ww U M
 have hwd:=Yoy hwb hd
 obtain⟨s,hs⟩:∃s,s=w*d+I:=⟨_,rfl⟩
 obtain⟨t,ht⟩:∃t,t=(u+18446744073709551616-s%4294967296)%18446744073709551616:=⟨_,rfl⟩
 refine Ix i rfl (mp T)<|Go.Vm.Cv w rfl ?_
 refine Ar (w*d:Nat) rfl ?_ (wr (W2r ..).symm (by simp only[inK];omega))
 refine Ar s rfl ?_
 refine El i rfl (by omega) ?_
 refine Ld (wd u) rfl (mp U) ?_
 refine Go.Vm.Cv u rfl ?_
 refine Go.Vm.Cv (s%4294967296:Nat) rfl ?_ (by rw[wWm];omega)
 refine Go.Vm.Cv (s%4294967296:Nat) rfl ?_
 refine Ar t rfl ?_ (by show _=_;rw[wUm];omega)
 refine Go.Vm.Cv (t%4294967296:Nat) rfl ?_ (by rw[wWm];omega)
 refine El i rfl (by omega) ?_
 refine Sto rfl (by simp only[lw];omega) ms ?_
 refine Ar (s/4294967296:Nat) rfl ?_ (Xll (n:=32) (by decide))
 refine Ar (t/9223372036854775808:Nat) rfl ?_ (Xll (n:=63) (by decide))
 refine Ar (s/4294967296+t/9223372036854775808:Nat) rfl ?_
 refine Ar (i+1:Nat) rfl ?_
 refine Bk (i+1,lo.set (q+i) (t%4294967296),s/4294967296+t/9223372036854775808) [] rfl ⟨by omega,by simp[hl],Xhw M (by omega),by omega,λj hj=>by rw[W2l (by omega)];exact o j (by omega),?_⟩ (by show k-(i+1)<k-i;omega)
 have V:l[q+i]?=some u:=by rw[<-o (q+i) (.inr (W0a _))];exact U
 have hst:t%4294967296+s=u+4294967296*(s/4294967296+t/9223372036854775808):=by omega
 rw[Xf8 (by omega),Xac T,Xch V,W0z,W0v,W1f,W0v]
 have e:4294967296^i*(t%4294967296+s)=4294967296^i*(u+4294967296*(s/4294967296+t/9223372036854775808)):=by rw[hst]
 have e2:4294967296^i*s=4294967296^i*(w*d)+4294967296^i*I:=by rw[hs,W1d]
 rw[W1d,W1d (4294967296^i) u] at e
 omega
 have hik:i=k:=by omega
 rw[hik] at o O
 rw[W0b (l:=dig y) (by omega),Xag] at O
 obtain⟨u,U⟩:=xat (l:=lo) (k:=q+k) (by omega)
 have hub:=ww U M
 obtain⟨t,ht⟩:∃t,t=(u+18446744073709551616-I)%18446744073709551616:=⟨_,rfl⟩
 refine El k rfl (by omega) ?_ (by simp only[lw];omega)
 refine Ld (wd u) rfl (mp U) ?_
 refine Go.Vm.Cv u rfl ?_
 refine Ar t rfl ?_ (by show _=_;rw[wUm];omega)
 refine Go.Vm.Cv (t%4294967296:Nat) rfl ?_ (by rw[wWm];omega)
 refine El k rfl (by omega) ?_ (by simp only[lw];omega)
 refine Sto rfl (by simp only[lw];omega) ms ?_
 refine Ar (t/9223372036854775808:Nat) rfl ?_ (Xll (n:=63) (by decide))
 have V:l[q+k]?=some u:=by rw[<-o (q+k) (.inr (W0a _))];exact U
 refine Rw [] [(1000001,.arr 1 ((lo.set (q+k) (t%4294967296)).map wd))] rfl (.one (.rf rfl) rfl rfl) ⟨t/9223372036854775808,_,by omega,?_,rfl,by simp[hl],Xhw M (by omega),λj hj=>by rw[W2l (by omega)];exact o j (by omega),?_⟩
 congr 1;exact congrArg dc (propext (by constructor<;>intro<;>omega))
 rw[Xf8 (by omega),Xch V,W0z,W0v]
 have e:4294967296^k*(t%4294967296+I)=4294967296^k*(u+4294967296*(t/9223372036854775808)):=by congr 1;omega
 rw[W1d,W1d (4294967296^k) u] at e
 omega
theorem Xti{q k y:Nat}{l:List Nat}(hw:Xav l)(hq:q+(k+1)<=l.length)(hk:(dig y).length=k)(hk40:k<=1099511627776):
 CW0 327 [.own 1000001 1 q (k+1),.d (ws (dig y))] [(1000001,.arr 1 (l.map wd))] λv H'=>∃(e:Nat) (Z:List Nat),e<=1/\H'=[(1000001,.arr 1 (Z.map wd))]/\Z.length=l.length/\Xav Z /\
  (∀j,(j<q\/q+(k+1)<=j)->Z[j]?=l[j]?)/\val ((Z.drop q).take (k+1))+4294967296^(k+1)*e=val ((l.drop q).take (k+1))+y:=by
 refine EnW Tryz.func327 λ_ _ _ _=>?_
 refine Lo (λ(i,lo,I)=>[(0,.own 1000001 1 q (k+1)),(1,.d (ws (dig y))),(4,.d (.int .u64 (I:Nat))),(7,.d (ws (dig y))),(8,.d (.int .i64 k)),(9,.d (.int .i64 (i:Nat)))]) (λ(_,lo,_)=>[(1000001,.arr 1 (lo.map wd))])
  (λ(i,lo,I)=>i<=k/\lo.length=l.length/\Xav lo/\I<=1/\(∀j,(j<q\/q+i<=j)->lo[j]?=l[j]?)/\val ((lo.drop q).take i)+4294967296^i*I=val ((l.drop q).take i)+val ((dig y).take i)) (λ(i,_,_)=>k-i) (0,l,0) [] rfl
  ⟨by omega,rfl,hw,by omega,λ_ _=>rfl,by simp[val]⟩ ?_ (by exact⟨by simp only[lw,ws,hk];rfl,rfl,rfl,rfl,rfl⟩)
 rintro⟨i,lo,I⟩ ⟨hi,hl,M,hcr,o,O⟩
 refine By rfl (λh=>?_) λh=>?_
 obtain⟨w,T⟩:=xat (l:=dig y) (k:=i) (by omega)
 have hwb:=ww T (Xaf y)
 obtain⟨u,U⟩:=xat (l:=lo) (k:=q+i) (by omega)
 have hub:=ww U M
 obtain⟨s,hs⟩:∃s,s=I+(u+w):=⟨_,rfl⟩
 refine Ix i rfl (mp T)<|El i rfl (by omega) ?_
 refine Ld (wd u) rfl (mp U) ?_
 refine Go.Vm.Cv u rfl ?_
 refine Go.Vm.Cv w rfl ?_
 refine Ar (u+w:Nat) rfl ?_
 refine Ar s rfl ?_
 refine Go.Vm.Cv (s%4294967296:Nat) rfl ?_ (by rw[wWm];omega)
 refine El i rfl (by omega) ?_
 refine Sto rfl (by simp only[lw];omega) ms ?_
 refine Ar (s/4294967296:Nat) rfl ?_ (Xll (n:=32) (by decide))
 refine Ar (i+1:Nat) rfl ?_
 refine Bk (i+1,lo.set (q+i) (s%4294967296),s/4294967296) [] rfl ⟨by omega,by simp[hl],Xhw M (by omega),by omega,λj hj=>by rw[W2l (by omega)];exact o j (by omega),?_⟩ (by show k-(i+1)<k-i;omega)
 have V:l[q+i]?=some u:=by rw[<-o (q+i) (.inr (W0a _))];exact U
 rw[Xf8 (by omega),Xac T,Xch V,W0z,W0v]
 have e:4294967296^i*(s%4294967296+4294967296*(s/4294967296))=4294967296^i*(I+(u+w)):=by congr 1;omega
 simp only[W1d] at e
 omega
 have hik:i=k:=by omega
 rw[hik] at o O
 rw[W0b (l:=dig y) (by omega),Xag] at O
 obtain⟨u,U⟩:=xat (l:=lo) (k:=q+k) (by omega)
 have hub:=ww U M
 refine El k rfl (by omega) ?_ (by simp only[lw];omega)
 refine Ld (wd u) rfl (mp U) ?_
 refine Go.Vm.Cv I rfl ?_
 refine Ar ((u+I)%4294967296:Nat) rfl ?_ (by show _=_;rw[wWm];omega)
 refine El k rfl (by omega) ?_ (by simp only[lw];omega)
 refine Sto rfl (by simp only[lw];omega) ms ?_
 have V:l[q+k]?=some u:=by rw[<-o (q+k) (.inr (W0a _))];exact U
 refine Rw [] [(1000001,.arr 1 ((lo.set (q+k) ((u+I)%4294967296)).map wd))] rfl (.tup (.one (.rf rfl) (λ_ _ e=>by cases e) (λ_ _ e=>by cases e))) ⟨(u+I)/4294967296,_,by omega,rfl,by simp[hl],Xhw M (by omega),λj hj=>by rw[W2l (by omega)];exact o j (by omega),?_⟩
 rw[Xf8 (by omega),Xch V,W0z,W0v]
 have e:4294967296^k*((u+I)%4294967296+4294967296*((u+I)/4294967296))=4294967296^k*(u+I):=by congr 1;omega
 simp only[W1d] at e
 omega
theorem Xj1{n x:Nat}(i:(dig x).length<=549755813888)(h:n<32): C0 325 [.d (ws (dig x)),.d (.int .i64 n)] λv=>∃l,l.length=(dig x).length+1/\Xav l/\val l=x*2^n/\v=.d (ws l) :=
 CW.data (Xhp i h) rfl λv H' ⟨T,e,l,j,o,I,M,O⟩=>⟨.d (ws l),by rw[M,e,O];exact .one (.own rfl (by simp) (oa rfl)) rfl rfl,l,j,o,I,rfl⟩
theorem Xr1{y n:Nat}(hy:y≠0){t:Nat}(ht:(dig y)[(dig y).length-1]?=some t)(M:2147483648<=t*2^n)(Z:t*2^n<4294967296):
 (dig (y*2^n)).length=(dig y).length/\∃i,(dig (y*2^n))[(dig y).length-1]?=some i/\2147483648<=i:=by
 have hl:(dig y).length≠0:=λh=>hy (Xtu.1 (W0m h))
 have O:=Xac ht
 rw[show (dig y).length-1+1=(dig y).length by omega,W2u,Xag] at O
 have T:=Xci ((Xaf y).take ((dig y).length-1))
 rw[W0k,W2h (by omega)] at T
 generalize hk:(dig y).length-1=k at *
 have hlow:4294967296^k*2147483648<=y*2^n:=by
  rw[O,W1f,W0v]
  have:=W0u (4294967296^k) M
  omega
 have U:y*2^n<4294967296^(k+1):=by
  have e:y+1<=4294967296^k*(t+1):=by rw[O,W1d];omega
  have e2:t*2^n+2^n<=4294967296:=by
   have hd:2^n ∣ 4294967296:=by
    have hn:n<32:=by
     have:2^n<2^32:=by
      have:=Nat.le_mul_of_pos_left (2^n) (show 0<t by rcases W2t t with h | h;rw[h] at M;simp at M;exact h)
      omega
     exact(W3i (by decide:1<2)).1 this
    exact⟨2^(32-n),by rw[<-W0x,show n+(32-n)=32 by omega]⟩
   obtain⟨q,hq⟩:=hd
   rw[hq,W1g t] at Z
   have:=Nat.lt_of_mul_lt_mul_left Z
   rw[hq,W1g t,<-Nat.mul_succ]
   exact W0u _ this
  have e3:=W0l (2^n) e
  rw[W0v,W1f t,W7n] at e3
  have e4:=W0u (4294967296^k) e2
  have hp:=W0p n
  rw[W1f,W7n] at e3
  rw[W0z]
  omega
 have j:(dig (y*2^n)).length=(dig y).length:=by
  have h3:=Xaq U
  have h4:k<(dig (y*2^n)).length:=by
   apply W0t
   intro hn
   have:=Xd2 (y*2^n)
   have h5:4294967296^(dig (y*2^n)).length<=4294967296^k:=W0o (by decide) (by omega)
   have:4294967296^k<=4294967296^k*2147483648:=W5c _ (by decide)
   omega
  omega
 refine⟨j,?_⟩
 obtain⟨i,o⟩:=xat (l:=dig (y*2^n)) (k:=k) (by omega)
 refine⟨i,o,?_⟩
 have V:=Xac o
 rw[show k+1=(dig (y*2^n)).length by omega,W2u,Xag] at V
 have I:=Xci ((Xaf (y*2^n)).take k)
 rw[W0k,W2h (by omega)] at I
 apply W0t
 intro hn
 have:4294967296^k*(i+1)<=4294967296^k*2147483648:=W0u _ (by omega)
 rw[W1d] at this
 omega
theorem Ycc{h:List Nat}{i n:Nat}{Y:Nat}(I:Xav h)(hi:i+n<h.length)(M:val (h.drop (i+1))<Y)(O:Y<=4294967296^n):
 val (h.drop i)=val ((h.drop i).take (n+1))/\val (h.drop i)<4294967296*Y:=by
 obtain⟨u,o⟩:=xat (l:=h) (k:=i) (by omega)
 have T:=I u (W0h o)
 have U:=Xcj o
 have V:val (h.drop i)<4294967296*Y:=by
  rw[U]
  have:=W0u 4294967296 (show val (h.drop (i+1))+1<=Y from M)
  omega
 refine⟨?_,V⟩
 have Z:=Xbx (h.drop i) (n+1) (by rw[W1u];omega)
 rw[Z]
 have h4:val (h.drop i)<4294967296^(n+1):=by
  have:=W0u 4294967296 O
  rw[W0z,W1g (4294967296^n)]
  omega
 rcases W2t (val ((h.drop i).drop (n+1))) with j | j
 rw[j,W3l,W2e]
 have:=W5c (4294967296^(n+1)) j
 omega
theorem Xfh{l m:List Nat}{k:Nat}(h:∀j,k<=j->l[j]?=m[j]?): l.drop k=m.drop k:=by
 apply W4t
 intro i
 rw[W1t,W1t]
 exact h _ (by omega)
theorem Yiu(M low h i j:Nat): low+M*j+M*4294967296*i+M*4294967296*4294967296*h=low+M*(j+4294967296*(h*2^32+i)):=by
 grind
theorem Ybh{x y:Nat}: Xa9 (x:Int) (y:Int)<0↔x<y:=by
 unfold Xa9
 split
 constructor<;>intro<;>omega
 split
 constructor<;>intro<;>omega
 constructor<;>intro<;>omega
theorem Xxs{x y Y s Q R:Nat}(i:y*2^s=Y)(h:Q*Y+R=x*2^s)(j:R<Y): Q=x/y/\R=x%y*2^s:=by
 have o:Q=(x*2^s)/(y*2^s):=by
  rw[i,<-h,W1g,Nat.mul_add_div (by omega),W4o j,W2e]
 have I:R=(x*2^s)%(y*2^s):=by
  rw[i,<-h,W1g,Nat.mul_add_mod,W5j j]
 rw[Nat.mul_div_mul_right _ _ (W0p s)] at o
 rw[Nat.mul_mod_mul_right] at I
 exact⟨o,I⟩
theorem Xxx{U Y M low u2 i j Z h dd r:Nat}(hY0:Y≠0)(hM:0<M)(O:U=low+M*(u2+4294967296*i))(T:Y=j+M*(Z+4294967296*h))(hUlt:U<4294967296*Y)(o:j<M)(V:Z<4294967296)(htt:2147483648<=h)
 (hdd:(dd-1)*h+(r+h)=i) (hr:4294967296<=r+h) (hUq:U/Y<dd):dd-1<4294967296/\U/Y<=dd-1/\dd-1<=U/Y+1:=by
 have I:dd-1<4294967296:=by
  apply W0t
  intro hn2
  have h1:=W0l h (by omega:4294967296<=dd-1)
  have h2:i<4294967296*h+4294967296:=by
   apply W0t
   intro hn3
   have h3:M*(4294967296*(4294967296*h+4294967296))<=M*(4294967296*i):=W0u _ (W0u _ (by omega))
   have h4:Y<M*(4294967296*h+4294967296):=by
    rw[T]
    have:M*(Z+4294967296*h+1)<=M*(4294967296*h+4294967296):=W0u _ (by omega)
    rw[W1d M _ 1,W4j] at this
    omega
   have h5:M*(4294967296*(4294967296*h+4294967296))=4294967296*(M*(4294967296*h+4294967296)):=by grind
   have h6:M*(4294967296*i)<=U:=by rw[O,W1d];omega
   omega
  omega
 refine⟨I,by omega,?_⟩
 rw[O,T]
 refine Yd5 (r:=r+h) hM o hdd ?_ I (by omega)
 have h1:=Yoy (a:=dd-1) (b:=Z) I V
 omega
theorem Xbk{x y:Nat}(hx:(dig x).length<=549755813888)(hy:(dig y).length<=549755813888)(hy0:y≠0): C0 251 [.d (ws (dig x)),.d (ws (dig y))] (·=.tup (.pr (.d (ws (dig (x/y)))) (.d (ws (dig (x%y)))))):=by
 refine En Tryz.func251 λ_ _ _=>?_
 refine Ce rfl (Xce (by omega))<|By rfl (λh=>?_) λh=>?_
 have hlt:x<y:=Ybh.1 h
 exact Ce rfl (Xcf (by omega))<|RTt rfl (.cons (.nil (by rw[W4o hlt,Xap];rfl)) (.one (.eq (by rw[W5j hlt])) (λ_ _ e=>by cases e) (λ_ _ e=>by cases e)))
 have hge:y<=x:=W4n λhlt=>h (Ybh.2 hlt)
 have hlenle:=Xau hge
 refine By rfl (λh2=>?_) λh2=>?_<;>simp only[lw] at h2
 have hx64:x<18446744073709551616:=by
  have:=Xd2 x
  have h1:4294967296^(dig x).length<=4294967296^2:=W0o (by decide) (by omega)
  omega
 refine Ce rfl (Xga hx64)<|Ce rfl (Xga (by omega)) ?_
 have hq64:x/y<18446744073709551616:=W2a (W3n ..) hx64
 have hr64:x%y<18446744073709551616:=W2a (Nat.mod_le ..) hx64
 refine Dw rfl<|Ar (x/y:Nat) rfl ?_ (show _/\_ from⟨by omega,Yez x y hx64⟩)
 refine Ce rfl (Xcr hq64)<|Ar (x%y:Nat) rfl ?_ (show _/\_ from⟨by omega,Xta x y⟩)
 exact Ce rfl (Xcr hr64)<|R0t
 refine By rfl (λh3=>?_) λh3=>?_<;>simp only[lw] at h3
 obtain⟨t,ht⟩:=xat (l:=dig y) (k:=0) (by omega)
 have htb:=ww ht (Xaf y)
 have hyt:y=t:=by
  have:=Xac ht
  rw[W0b (by omega),Xag] at this
  simpa [val] using this
 exact Ix 0 rfl (mp ht)<|Ce rfl (Xml (y:=t) hx htb (by omega))<|RTt rfl (.cons (.eq (by rw[hyt])) (.one (.eq (by rw[hyt])) (λ_ _ e=>by cases e) (λ_ _ e=>by cases e)))
 have hy2:2<=(dig y).length:=by
  have:(dig y).length≠0:=λh=>hy0 (Xtu.1 (W0m h))
  omega
 obtain⟨t,ht⟩:=xat (l:=dig y) (k:=(dig y).length-1) (by omega)
 have htb:=ww ht (Xaf y)
 have ht0:t≠0:=by
  rcases Xh2 y with h | ⟨t2,h2,h3⟩
  rw[h] at hy2;simp at hy2
  rw[ht] at h2;injection h2 with h2;rw[h2];exact h3
 refine Ar ((dig y).length-1:Nat) rfl ?_ (wr (by simp only[lw];omega) (by simp only[inK];omega))
 refine Ix ((dig y).length-1) rfl (mp ht)<|Ca rfl (Xhl htb ht0) λv hv=>?_
 obtain⟨s,rfl,hs32,hs1,hs2⟩:=hv
 obtain⟨hlen,T,ht',htt⟩:=Xr1 hy0 ht hs1 hs2
 refine Co rfl (Xhp hx hs32) λv ob hv=>?_
 obtain⟨I,hul,huw,huv,rfl,rfl⟩:=hv
 refine Ca rfl (Xj1 hy hs32) λv hv=>?_
 obtain⟨lv,hvl,hvw,hvv,rfl⟩:=hv
 obtain⟨Y,hY⟩:∃Y,Y=y*2^s:=⟨_,rfl⟩
 rw[<-hY] at hlen ht' hvv
 refine Ce (r:=.d (ws (dig Y))) rfl (by have:=Xbb hvw (by omega);rwa[hvv] at this) ?_
 obtain⟨o,hmv⟩:∃o,o=(dig Y).length:=⟨_,rfl⟩
 have hq0:I.length-o<=549755813889:=by omega
 refine Ar (I.length-o:Nat) rfl ?_ (wr (by simp only[lw];omega) (by simp only[inK];omega))
 refine Mk (I.length-o) rfl (by omega) ?_
 obtain⟨tn,htn⟩:=xat (l:=dig Y) (k:=o-2) (by omega)
 have htnb:=ww htn (Xaf Y)
 have ht1:(dig Y)[o-1]?=some T:=by rw[hmv,hlen];exact ht'
 have htb1:=ww ht1 (Xaf Y)
 refine Dw rfl<|Ar (o-1:Nat) rfl ?_ (wr (by simp only[lw];omega) (by simp only[inK];omega))
 refine Ix (o-1) rfl (mp ht1)<|Go.Vm.Cv T rfl ?_
 refine Ar (o-2:Nat) rfl ?_ (wr (by simp only[lw];omega) (by simp only[inK];omega))
 refine Ix (o-2) rfl (mp htn)<|Go.Vm.Cv tn rfl ?_
 refine Ar ((I.length-o:Nat)-1:Int) rfl ?_
 have hY0:Y≠0:=by rw[hY];exact Nat.mul_ne_zero hy0 (W8f.1 (W0p s))
 have hYl:=Xd2 Y
 have hYM:Y=val ((dig Y).take (o-2))+4294967296^(o-2)*(tn+4294967296*T):=by
  have h1:=Xac htn
  have h2:=Xac (k:=o-2+1) (l:=dig Y) (x:=T) (by rw[show o-2+1=o-1 by omega];exact ht1)
  rw[show o-2+1+1=(dig Y).length by omega,W2u,Xag,h1,W0z,W0v] at h2
  rw[W1d];omega
 have hvlow:val ((dig Y).take (o-2))<4294967296^(o-2):=by
  have:=Xci ((Xaf Y).take (o-2))
  rwa[W0k,W2h (by omega)] at this
 have hM:0<4294967296^(o-2):=Nat.pow_pos (by decide)
 have hR0:val (I.drop (I.length-o))<Y:=by
  have h1:=Xbx I (I.length-o) (by omega)
  rw[huv] at h1
  have h2:=Xsr hy0
  have h3:=Xd2 x
  have hp:=W0p s
  apply W0t
  intro hn2
  have h4:4294967296^(I.length-o)*Y<=x*2^s:=by
   rw[h1]
   have:=W0u (4294967296^(I.length-o)) (W4n hn2)
   omega
  rw[hY,<-W0v] at h4
  have h5:=Nat.le_of_mul_le_mul_right h4 hp
  have h6:=W0u (4294967296^(I.length-o)) h2
  rw[<-W0x,show I.length-o+((dig y).length-1)=(dig x).length by omega] at h6
  omega
 refine Lo (λ(k,V,lq)=>[(8,.d (.int .i64 s)),(9,.own 62 1 0 I.length),(10,.d (ws (dig Y))),(11,.d (.int .i64 o)),(12,.own 73 1 0 (I.length-o)),(13,.d (.int .u64 T)),(14,.d (.int .u64 tn)),(15,.d (.int .i64 ((k:Nat)-1:Int)))]) (λ(_,V,lq)=>[(62,.arr 1 (V.map wd)),(73,.arr 1 (lq.map wd))])
  (λ(k,V,lq)=>k<=I.length-o/\V.length=I.length/\Xav V/\lq.length=I.length-o/\Xav lq/\(∀j,j<k->V[j]?=I[j]?)/\val (V.drop k)<Y/\val (lq.drop k)*Y+val (V.drop k)=val (I.drop k)) (λ(k,_,_)=>k) (I.length-o,I,List.replicate (I.length-o) 0) [] rfl
  ⟨by omega,rfl,huw,by simp,Xf4 _,λ_ _=>rfl,hR0,by rw[W2v (by simp)];simp[val]⟩ ?_ (by exact⟨by simp only[lw,ws,hmv];rfl,by simp only[W2i];rfl,rfl,rfl,rfl⟩)
 rintro⟨k,V,lq⟩ ⟨hk,hln,hwu,hlq,hwq,hsame,hRlt,hQR⟩
 refine By rfl (λh=>?_) λh=>?_
 obtain⟨u0,hu0⟩:=xat (l:=V) (k:=k-1+o) (by omega)
 obtain⟨u1,hu1⟩:=xat (l:=V) (k:=k-1+o-1) (by omega)
 obtain⟨u2,hu2⟩:=xat (l:=V) (k:=k-1+o-2) (by omega)
 have hub0:=ww hu0 hwu
 have hub1:=ww hu1 hwu
 have hub2:=ww hu2 hwu
 obtain⟨hwin,hUlt⟩:=Ycc (n:=o) (i:=k-1) (Y:=Y) hwu (by omega) (by rw[show k-1+1=k by omega];exact hRlt) (by rw[hmv];exact W2k hYl)
 have hUM:val (V.drop (k-1))=val ((V.drop (k-1)).take (o-2))+4294967296^(o-2)*(u2+4294967296*(u0*2^32+u1)):=by
  have g1:=Xch (l:=V) (q:=k-1) (i:=o-2) (u:=u2) (by rw[show k-1+(o-2)=k-1+o-2 by omega];exact hu2)
  have g2:=Xch (l:=V) (q:=k-1) (i:=o-2+1) (u:=u1) (by rw[show k-1+(o-2+1)=k-1+o-1 by omega];exact hu1)
  have g3:=Xch (l:=V) (q:=k-1) (i:=o-2+1+1) (u:=u0) (by rw[show k-1+(o-2+1+1)=k-1+o by omega];exact hu0)
  rw[show o-2+1+1+1=o+1 by omega,g2,g1,<-hwin] at g3
  rw[g3,W0z,W0z]
  exact Yiu ..
 have hlow:val ((V.drop (k-1)).take (o-2))<4294967296^(o-2):=by
  have:=Xci ((hwu.drop (k-1)).take (o-2))
  rwa[W0k,W1u,W2h (by omega)] at this
 obtain⟨U,hU⟩:∃U,U=val (V.drop (k-1)):=⟨_,rfl⟩
 obtain⟨low,hlowg⟩:∃low,low=val ((V.drop (k-1)).take (o-2)):=⟨_,rfl⟩
 obtain⟨vlow,hvlowg⟩:∃vlow,vlow=val ((dig Y).take (o-2)):=⟨_,rfl⟩
 obtain⟨M,hMg⟩:∃M,M=4294967296^(o-2):=⟨_,rfl⟩
 obtain⟨O,htop⟩:∃O,O=u0*2^32+u1:=⟨_,rfl⟩
 have htopb:O<18446744073709551616:=by omega
 rw[<-hU] at hwin hUlt hUM
 rw[<-hMg,<-hlowg,<-htop] at hUM
 rw[<-hMg,<-hvlowg] at hYM
 rw[<-hMg,<-hlowg] at hlow
 rw[<-hMg,<-hvlowg] at hvlow
 rw[<-hMg] at hM
 refine Dw rfl<|Ar (k-1+o:Nat) rfl ?_
 refine Eo (k-1+o) rfl (by omega)<|Ld (wd u0) rfl (mp hu0) ?_
 refine Go.Vm.Cv u0 rfl ?_
 refine Ar (u0*2^32:Nat) rfl ?_ (Xit (n:=32) rfl (by omega) (by decide))
 refine Ar (k-1+o:Nat) rfl ?_
 refine Ar (k-1+o-1:Nat) rfl ?_
 refine Eo (k-1+o-1) rfl (by omega)<|Ld (wd u1) rfl (mp hu1) ?_
 refine Go.Vm.Cv u1 rfl ?_
 refine Ar O rfl ?_ (Yc9 (by omega) (by omega) (by rw[Xej u1 u0 32 (by omega),<-htop]) htopb)
 have hd63:O/T<9223372036854775808:=by
  rw[W3b (by omega)]
  have:=W0u 9223372036854775808 htt
  omega
 have hr63:O%T<T:=W2o _ (by omega)
 have hdz:0<=O/T:=W0r _
 refine Dw rfl<|Ar (O/T:Nat) rfl ?_ (show _/\_ from⟨by omega,Yez O T htopb⟩)
 refine Ar (O%T:Nat) rfl ?_ (show _/\_ from⟨by omega,Xta O T⟩)
 have hqz:U/Y<=O/T:=by
  apply W4n
  intro hlt
  have h1:(O/T+1)*Y<=U:=by
   have:=W7c U Y
   exact W0j (W0l _ hlt) this
  have h2:=W2x O T
  have h4:(O/T+1)*T>=O+1:=by rw[W1f,W1g,W7n];omega
  have h5:(O/T+1)*(M*(4294967296*T))<=(O/T+1)*Y:=W0u _ (by rw[hYM,W1d];omega)
  have h6:(O/T+1)*(M*(4294967296*T))=M*(4294967296*((O/T+1)*T)):=by grind
  have h7:M*(4294967296*(O+1))<=M*(4294967296*((O/T+1)*T)):=W0u _ (W0u _ h4)
  have h8:M*(u2+4294967296*O+1)<=M*(4294967296*(O+1)):=W0u _ (by omega)
  rw[W1d M _ 1,W4j] at h8
  omega
 refine Cu (some 1000003) (λ(dd:Nat)=>[(8,.d (.int .i64 s)),(9,.own 62 1 0 I.length),(10,.d (ws (dig Y))),(11,.d (.int .i64 o)),(12,.own 73 1 0 (I.length-o)),(13,.d (.int .u64 T)),(14,.d (.int .u64 tn)),(15,.d (.int .i64 ((k:Nat)-1:Int))),(17,.d (.int .u64 dd))]) (λ_=>[(62,.arr 1 (V.map wd)),(73,.arr 1 (lq.map wd))])
  (λdd=>dd<4294967296/\U/Y<=dd/\dd<=U/Y+1) rfl ?_ λdd ⟨hdB,hdq,hdq1⟩=>?_
 refine Lo (λ(dd,r)=>[(8,.d (.int .i64 s)),(9,.own 62 1 0 I.length),(10,.d (ws (dig Y))),(11,.d (.int .i64 o)),(12,.own 73 1 0 (I.length-o)),(13,.d (.int .u64 T)),(14,.d (.int .u64 tn)),(15,.d (.int .i64 ((k:Nat)-1:Int))),(17,.d (.int .u64 (dd:Nat))),(18,.d (.int .u64 (r:Nat)))]) (λ_=>[(62,.arr 1 (V.map wd)),(73,.arr 1 (lq.map wd))])
  (λ(dd,r)=>U/Y<=dd/\dd*T+r=O/\r<4294967296/\dd<9223372036854775808) (λ(dd,_)=>dd) (O/T,O%T) [] rfl ⟨hqz,by rw[W1g];exact W2x ..,by omega,hd63⟩ ?_
 rintro⟨dd,r⟩ ⟨hdq,hdt,hr,hd63⟩
 refine By rfl (λh1=>?_) λh1=>?_
 have hUq:U/Y<dd:=Ylu hUlt (W2q hY0) (by omega)
 have hdd1:1<=dd:=W2a (W0r _) hUq
 have hdd:(dd-1)*T+(r+T)=O:=by
  obtain⟨e,rfl⟩:∃e,dd=e+1:=⟨dd-1,by omega⟩
  rw[W7h];rw[W1f,W7n] at hdt;omega
 refine Ar (dd-1:Nat) rfl ?_
 refine Ar (r+T:Nat) rfl ?_
 refine By rfl (λh2=>?_) λh2=>?_
 exact Jn (dd-1) [] rfl (Xxx hY0 hM hUM hYM hUlt hvlow htnb htt hdd (by omega) hUq)
 exact Bk (dd-1,r+T) [] rfl ⟨by omega,hdd,by omega,by omega⟩ (by show dd-1<dd;omega)
 have htd:dd*tn<18446744073709551616:=by have:=Yoy (a:=dd) (b:=tn) (by omega) htnb;omega
 refine Ar (dd*tn:Nat) rfl ?_ (wr (W2r ..).symm (by simp only[inK];omega))
 refine Ar (r*2^32:Nat) rfl ?_ (Xit (n:=32) rfl (by omega) (by decide))
 refine Ar (k-1+o:Nat) rfl ?_
 refine Ar (k-1+o-2:Nat) rfl ?_
 refine Eo (k-1+o-2) rfl (by omega)<|Ld (wd u2) rfl (mp hu2) ?_
 refine Go.Vm.Cv u2 rfl ?_
 refine Ar (r*2^32+u2:Nat) rfl ?_ (Yc9 (by omega) (by omega) (Xej u2 r 32 (by omega)) (by omega))
 refine By rfl (λh2=>?_) λh2=>?_
 have hUq:U/Y<dd:=by
  have h1:r*4294967296+u2<dd*tn:=W7y.1 h2
  have h2:=Ylt hlow hM hdt h1 (by rw[<-hYM];exact W2q hY0)
  rwa[<-hUM,<-hYM] at h2
 have hdd1:1<=dd:=W2a (W0r _) hUq
 have hdd:(dd-1)*T+(r+T)=O:=by
  obtain⟨e,rfl⟩:∃e,dd=e+1:=⟨dd-1,by omega⟩
  rw[W7h];rw[W1f,W7n] at hdt;omega
 refine Ar (dd-1:Nat) rfl ?_
 refine Ar (r+T:Nat) rfl ?_
 refine By rfl (λh2=>?_) λh2=>?_
 exact Jn (dd-1) [] rfl (Xxx hY0 hM hUM hYM hUlt hvlow htnb htt hdd (by omega) hUq)
 exact Bk (dd-1,r+T) [] rfl ⟨by omega,hdd,by omega,by omega⟩ (by show dd-1<dd;omega)
 exact Jn dd [] rfl ⟨by omega,hdq,by
  rw[hUM,hYM]
  exact Yd5 (r:=r) hM hvlow hdt (by have h2:=Int.ofNat_le.1 (Int.not_lt.1 h2);omega) (by omega) (by omega)⟩
 refine Ar (k-1+o:Nat) rfl ?_
 refine Ar (k-1+o+1:Nat) rfl ?_
 refine Sw (k-1) (k-1+o+1) rfl (by omega) (by omega) ?_
 refine Cw (args:=[.own 1000001 1 (k-1) (o+1),.d (ws (dig Y)),.d (.int .u64 dd)]) [(1000001,62)] rfl (Xo4 (l:=V) hwu (by omega) hmv.symm hdB (by omega)) (λv H' _ hv=>?_) (by exact congrArg (·::_) (by rw[W1l,show k-1+o+1-(k-1)=o+1 by omega];rfl))
 obtain⟨cc,lu1,hc1,rfl,rfl,hl1,hw1,hout1,hv1⟩:=hv
 have hwin1:=Xci ((hw1.drop (k-1)).take (o+1))
 have hwin0:=Xci ((hwu.drop (k-1)).take (o+1))
 rw[W0k,W1u,W2h (by omega)] at hwin1 hwin0
 rw[<-hwin] at hv1 hwin0
 have hstep:=Ye5 (W2q hY0) hdq hdq1 hv1 hc1 hwin1 hwin0
 refine Cu none (λ(Z:List Nat)=>[(8,.d (.int .i64 s)),(9,.own 62 1 0 I.length),(10,.d (ws (dig Y))),(11,.d (.int .i64 o)),(12,.own 73 1 0 (I.length-o)),(13,.d (.int .u64 T)),(14,.d (.int .u64 tn)),(15,.d (.int .i64 ((k:Nat)-1:Int))),(17,.d (.int .u64 (U/Y:Nat)))]) (λZ=>[(62,.arr 1 (Z.map wd)),(73,.arr 1 (lq.map wd))])
  (λZ=>Z.length=I.length/\Xav Z/\(∀j,(j<k-1\/k-1+(o+1)<=j)->Z[j]?=V[j]?)/\val ((Z.drop (k-1)).take (o+1))=U%Y) rfl ?_ λZ ⟨hl2,hw2,hout,hwinv⟩=>?_
 refine By rfl (λh1=>?_) λh1=>?_
 obtain⟨hdd1,hrest1⟩:=hstep.2 h1
 refine Ar (U/Y:Nat) rfl ?_ (wr (by rw[hdd1];exact(by omega:((U/Y+1:Nat):Int)-1=((U/Y:Nat):Int))) (by simp only[inK];have:=W0r (U/Y);omega))
 refine Ar (k-1+o:Nat) rfl ?_
 refine Ar (k-1+o+1:Nat) rfl ?_
 refine Sw (k-1) (k-1+o+1) rfl (by omega) (by omega) ?_
 refine Cw (args:=[.own 1000001 1 (k-1) (o+1),.d (ws (dig Y))]) [(1000001,62)] rfl (Xti (l:=lu1) hw1 (by omega) hmv.symm (by omega)) (λv H' _ hv=>?_) (by exact congrArg (·::_) (by rw[W1l,show k-1+o+1-(k-1)=o+1 by omega];rfl))
 obtain⟨e',Z,he1,rfl,hl2,hw2,hout2,hv2⟩:=hv
 have hwin2:=Xci ((hw2.drop (k-1)).take (o+1))
 rw[W0k,W1u,W2h (by omega)] at hwin2
 exact Jn Z [] rfl ⟨by omega,hw2,λj hj=>(hout2 j hj).trans (hout1 j hj),hrest1 _ e' hwin2 hv2 he1⟩
 obtain⟨hdd1,hrest1⟩:=hstep.1 (by omega)
 subst hdd1
 exact Jn lu1 [] rfl ⟨by omega,hw1,hout1,hrest1⟩
 have hqB:U/Y<4294967296:=by omega
 have hqz0:0<=U/Y:=W0r _
 refine Go.Vm.Cv (U/Y:Nat) rfl ?_
 refine Eo (k-1) rfl (by omega)<|Sto rfl (by simp only[lw];omega) ms ?_
 refine Ar ((k-1:Nat)-1:Int) rfl ?_
 have hY1:0<Y:=W2q hY0
 have hab:val (Z.drop (k-1))=U%Y:=by
  have g1:=Xbx (Z.drop (k-1)) (o+1) (by rw[W1u];omega)
  have g2:=Xbx (V.drop (k-1)) (o+1) (by rw[W1u];omega)
  have g3:(Z.drop (k-1)).drop (o+1)=(V.drop (k-1)).drop (o+1):=by
   rw[W6v,W6v]
   exact Xfh λj hj=>hout j (.inr hj)
  rw[<-hU,<-hwin] at g2
  rw[g1,hwinv,g3]
  omega
 refine Bk (k-1,Z,lq.set (k-1) (U/Y)) [] rfl ⟨by omega,hl2,hw2,by simp[hlq],Xhw hwq hqB,λj hj=>(hout j (.inl hj)).trans (hsame j (by omega)),by rw[hab];exact W2o _ hY1,?_⟩ (by show k-1<k;omega)
 obtain⟨w,hw⟩:=xat (l:=V) (k:=k-1) (by omega)
 have hw2':I[k-1]?=some w:=by rw[<-hsame (k-1) (by omega)];exact hw
 have g1:=Xcj hw
 have g2:=Xcj hw2'
 have g3:=Xcj (l:=lq.set (k-1) (U/Y)) (k:=k-1) (W2n (by omega))
 have g4:(lq.set (k-1) (U/Y)).drop (k-1+1)=lq.drop (k-1+1):=Xfh λj hj=>W2l (by omega)
 rw[show k-1+1=k by omega] at g1 g2 g3 g4
 rw[hab,g2,g3,g4,<-hQR,W1f,W0v,W1d]
 have g5:=W2x U Y
 rw[W1g] at g5
 rw[<-hU] at g1
 omega
 have hk0:k=0:=by omega
 subst hk0
 rw[W1i] at hRlt hQR
 rw[W1i,W1i,huv] at hQR
 obtain⟨hQ,hR⟩:=Xxs hY.symm hQR hRlt
 have htk:val (V.take o)=val V:=by
  have g:=Xbx V o (by omega)
  rw[hmv] at g
  rcases W2t (val (V.drop (dig Y).length)) with h5 | h5
  rw[h5,W3l] at g;rw[hmv];omega
  have:=W5c (4294967296^(dig Y).length) h5
  omega
 refine Fz 26 12 (lq.map wd) rfl (by simp only[lw];omega) (oa hlq) ?_
 refine Fz 26 9 (V.map wd) rfl (by simp only[lw];omega) (oa hln) ?_
 refine Dw rfl<|Ce rfl (Xbb hwq (by omega))<|Tk o (V.take o |>.map wd) rfl rfl (by simp only[lw];omega) (W2f ..).symm ?_
 refine Ce rfl (Xbb (hwu.take o) (by rw[W0k];omega))<|Ca rfl (Xgd (Xaf _) (by rw[htk];have:=Xau (W2k hRlt);omega) hs32) λv hv=>?_
 obtain⟨l8,hl8,hw8,hn8,rfl⟩:=hv
 rw[Xag,htk,hR,Nat.mul_div_cancel _ (W0p s)] at hl8
 exact Ce rfl (Xbb hw8 (by rw[hn8,htk];have:=Xau (W2k hRlt);omega))<|RTt rfl (.cons (.eq (by rw[hQ])) (.one (.eq (by rw[hl8])) (λ_ _ e=>by cases e) (λ_ _ e=>by cases e)))
end
end Go.Proofs.YtnedfplmoojbaaaGreatDoor
namespace Go.Num
def rt: Nat->Nat
 | 0=>0
 | n+1=>if (rt n+1)*(rt n+1)<=n+1 then rt n+1 else rt n
theorem Xdp(n:Nat): rt n*rt n<=n/\n<(rt n+1)*(rt n+1):=by
 induction n with
 | zero=>exact⟨W0a _,by decide⟩
 | succ n i =>
  obtain⟨j,o⟩:=i
  simp only[rt]
  split
  rename_i h
  refine⟨h,?_⟩
  have:(rt n+1+1)*(rt n+1+1)=(rt n+1)*(rt n+1)+2*(rt n+1)+1:=by grind
  omega
  rename_i h
  exact⟨by omega,by omega⟩
theorem Xzn{x y:Nat}(h:x*x<y*y): x<y:=by
 by_cases i:x<y
 exact i
 have:=W2b (W4n i) (W4n i)
 omega
theorem Yjp{n s:Nat}(h:s*s<=n)(i:n<(s+1)*(s+1)): rt n=s:=by
 obtain⟨j,o⟩:=Xdp n
 have I:rt n<s+1:=Xzn (by omega)
 have M:s<rt n+1:=Xzn (by omega)
 omega
theorem Yjo{n:Nat}(h:n≠0): 0<rt n:=by
 have:=(Xdp n).2
 by_cases h0:rt n=0
 rw[h0] at this;omega
 omega
theorem Ydh{a x:Nat}(i:0<x): rt a<=(x+a/x)/2:=by
 obtain⟨M,O⟩:=Xdp a
 generalize rt a=s at *
 by_cases h:s<=(x+a/x)/2
 exact h
 exfalso
 have T:x+a/x+1<=2*s:=by omega
 have j:a<(a/x+1)*x:=by
  have:=W2x a x
  have:=W2o a i
  rw[W1f,W1g (a/x)];omega
 obtain⟨q,hq⟩:∃q,q=a/x+1:=⟨_,rfl⟩
 rw[<-hq] at j
 have U:x+q<=2*s:=by omega
 have V:q*x<=s*s:=by
  by_cases o:x<=s
  obtain⟨e,rfl⟩:∃e,s=x+e:=⟨s-x,by omega⟩
  have:q<=x+2*e:=by omega
  have Z:=W0l x this
  have:(x+e)*(x+e)=(x+2*e)*x+e*e:=by grind
  omega
  obtain⟨e,I⟩:∃e,x=s+e:=⟨x-s,by omega⟩
  subst I
  have h8:q+e<=s:=by omega
  obtain⟨f,rfl⟩:∃f,s=q+e+f:=⟨s-q-e,by omega⟩
  have:(q+e+f)*(q+e+f)=q*(q+e+f+e)+(e*e+2*(e*f)+f*q+f*f):=by grind
  omega
 omega
theorem Xto{a x:Nat}(j:0<x)(h:x<=(x+a/x)/2)(hr:rt a<=x): rt a=x:=by
 have i:x<=a/x:=by omega
 have o:x*x<=a:=W0j (W0l x i) (W7c a x)
 have I:=(Xdp a).2
 have M:x<rt a+1:=Xzn (by omega)
 omega
theorem Xvp{a B n:Nat}(h:a<2^B)(i:B<=2*n): rt a<2^n:=by
 refine Xzn ?_
 rw[<-W0x,<-Nat.two_mul]
 exact W2a (Xdp a).1 (W0y h (W0o (by decide) i))
theorem Xi0(n:Nat): 4294967296^(n/32)*2^(n%32)=2^n:=by
 rw[show (4294967296:Nat)=2^32 from rfl,<-W6q,<-W0x]
 congr 1
 omega
theorem Xmm(n:Nat): dig (2^n)=(List.replicate (n/32+1) 0).set (n/32) (2^(n%32)):=by
 have hb:2^(n%32)<4294967296:=W0y (W4f (by decide) (W2o n (by decide))) (by decide)
 have i:val ((List.replicate (n/32+1) 0).set (n/32) (2^(n%32)))=2^n:=by
  have:=Xbn (l:=List.replicate (n/32+1) 0) (k:=n/32) (d:=2^(n%32)) (by simp)
  rw[W0b (by simp),W5u,Xb3,W1l,Xi0] at this
  exact this
 have j:Xav ((List.replicate (n/32+1) 0).set (n/32) (2^(n%32))):=by
  intro y o
  rcases W3x o with h | h
  have:=W5q h;omega
  omega
 rw[<-i]
 refine Xe5 j (Xla j (by simp) ?_)
 rw[i,W3c,W1o,W7h,<-Xi0 n]
 exact W5c _ (W0p _)
theorem Xay(a b:Int): (a<b/\Xa9 a b=-1)\/(a=b/\Xa9 a b=0)\/(b<a/\Xa9 a b=1):=by
 unfold Xa9
 split
 left;exact⟨by assumption,rfl⟩
 split
 right;right;exact⟨by omega,rfl⟩
 right;left;exact⟨by omega,rfl⟩
theorem Xf9{l:List Nat}{j x:Nat}(h:l[j]?=some x): val l=val (l.take j)+4294967296^j*(x+4294967296*val (l.drop (j+1))):=by
 have i:j<l.length:=(W0s.1 h).1
 rw[Xbx l j (by omega),Xcj h]
end Go.Num
namespace Go.Proofs.YtnedfplmoojbaaaGreatDoor
open Go Go.Vm Go.Num
section
theorem Xa7(z:Int): (z<0/\z=-(z.natAbs:Int))\/(¬z<0/\z=(z.natAbs:Int)):=by omega
theorem Ycs(z:Int): sg (!decide (z<0)) z.natAbs=-z:=by
 rcases Xa7 z with ⟨h,e⟩ | ⟨h,e⟩<;>simp[sg,h]<;>omega
theorem Yct(x y:Int): sg (decide (x<0) != decide (y<0)) (x.natAbs*y.natAbs)=x*y:=by
 rcases Xa7 x with ⟨h,e⟩ | ⟨h,e⟩<;>rcases Xa7 y with ⟨i,j⟩ | ⟨i,j⟩ <;>
  (simp only[sg,h,i,decide_true,decide_false]
   generalize x.natAbs=a at *
   generalize y.natAbs=b at *
   subst e
   subst j
   simp[Int.neg_mul,Int.mul_neg])
theorem Ycu{x y:Int}(h:decide (x<0)=decide (y<0)): sg (decide (x<0)) (x.natAbs+y.natAbs)=x+y:=by
 rcases Xa7 x with ⟨i,e⟩ | ⟨i,e⟩<;>rcases Xa7 y with ⟨j,o⟩ | ⟨j,o⟩<;>simp[i,j] at h<;>simp[sg,i]<;>omega
theorem Xra{x y:Int}(h:decide (x<0)≠decide (y<0))(o:y.natAbs<=x.natAbs): sg (decide (x<0)) (x.natAbs-y.natAbs)=x+y:=by
 rcases Xa7 x with ⟨i,e⟩ | ⟨i,e⟩<;>rcases Xa7 y with ⟨j,I⟩ | ⟨j,I⟩<;>simp[i,j] at h<;>simp[sg,i]<;>omega
theorem Xxv{n:Nat}(h:(dig n).length<=2): n<18446744073709551616:=by
 have:=Xd2 n
 have i:4294967296^(dig n).length<=4294967296^2:=W0o (by decide) h
 omega
theorem Xh5(n:Nat): sg false n=(n:Int):=rfl
theorem Yav{a b:Int}(hb:b≠0)(h:decide (a<0)=decide (b<0)): sg (decide (a<0) != decide (b<0)) (a.natAbs/b.natAbs)=a.fdiv b/\sg (decide (b<0)) (a.natAbs%b.natAbs)=a.fmod b:=by
 rcases Xa7 a with ⟨i,e⟩ | ⟨i,e⟩<;>rcases Xa7 b with ⟨j,o⟩ | ⟨j,o⟩<;>simp[i,j] at h<;>simp only[sg,i,j,decide_true,decide_false]
 all_goals
  generalize a.natAbs=x at *
  generalize b.natAbs=y at *
  subst e
  subst o
  simp[W1r,W6d]
theorem Ygy(x y:Nat)(i:0<y): (-(x:Int)).fdiv y=-((x/y+if 0<x%y then 1 else 0:Nat):Int)/\(-(x:Int)).fmod y=((if 0<x%y then y-x%y else 0:Nat):Int):=by
 rw[W1r _ (by omega),W6d _ (by omega)]
 have h:=W2x x y
 have j:=W2o x i
 refine(W8a (by omega)).2 ?_
 generalize x/y=q at *
 generalize x%y=r at *
 split
 refine⟨?_,by omega,by omega⟩
 rw[<-h,Int.natCast_sub (by omega)]
 push_cast
 grind
 have:r=0:=by omega
 subst this
 refine⟨?_,by omega,by omega⟩
 rw[<-h]
 push_cast
 grind
theorem Xsl{a b:Int}(hb:b≠0)(h:decide (a<0)≠decide (b<0)): sg (decide (a<0) != decide (b<0)) (a.natAbs/b.natAbs+if 0<a.natAbs%b.natAbs then 1 else 0)=a.fdiv b/\sg (decide (b<0)) (if 0<a.natAbs%b.natAbs then b.natAbs-a.natAbs%b.natAbs else 0)=a.fmod b:=by
 rcases Xa7 a with ⟨i,e⟩ | ⟨i,e⟩<;>rcases Xa7 b with ⟨j,o⟩ | ⟨j,o⟩<;>simp[i,j] at h<;>simp only[sg,i,j,decide_true,decide_false]
 all_goals
  generalize a.natAbs=x at *
  generalize b.natAbs=y at *
  subst e
  subst o
  have hf:=Ygy x y (by omega)
 rw[hf.1,hf.2]
 exact⟨rfl,rfl⟩
 have I:(x:Int).fdiv (-(y:Int))=(-(x:Int)).fdiv y:=by rw[<-W7s,W7o]
 have M:(x:Int).fmod (-(y:Int))=-((-(x:Int)).fmod y):=by rw[<-Int.neg_fmod_neg,W7o]
 rw[I,M,hf.1,hf.2]
 exact⟨rfl,rfl⟩
theorem Xn8{a b:Int}(h:Xa9 a 0≠Xa9 b 0): Xa9 (Xa9 a 0) (Xa9 b 0)=Xa9 a b:=by
 rcases Xay a 0 with ⟨I,i⟩ | ⟨I,i⟩ | ⟨I,i⟩<;>rcases Xay b 0 with ⟨M,j⟩ | ⟨M,j⟩ | ⟨M,j⟩<;>rw[i,j] at h |- <;>
  first | exact absurd rfl h | (rcases Xay a b with ⟨O,o⟩ | ⟨O,o⟩ | ⟨O,o⟩<;>rw[o]<;>first | rfl | omega)
theorem Xn9{a b:Int}(h:Xa9 a 0=Xa9 b 0): Xa9 a 0*Xa9 (a.natAbs:Int) (b.natAbs:Int)=Xa9 a b:=by
 rcases Xay a 0 with ⟨M,i⟩ | ⟨M,i⟩ | ⟨M,i⟩<;>rcases Xay b 0 with ⟨O,j⟩ | ⟨O,j⟩ | ⟨O,j⟩<;>rw[i,j] at h <;>
  first | (exact absurd h (by decide)) | (rw[i];rcases Xay a b with ⟨T,o⟩ | ⟨T,o⟩ | ⟨T,o⟩<;>rcases Xay (a.natAbs:Int) (b.natAbs:Int) with ⟨U,I⟩ | ⟨U,I⟩ | ⟨U,I⟩<;>rw[o,I]<;>first | rfl | omega)
theorem Xyd{t:Nat}(h:t<4294967296): bl t<=32:=by
 by_cases h0:t=0
 subst h0;decide
 have:=(Xdh h0).1
 by_cases i:bl t<=32
 exact i
 have:2^32<=2^(bl t-1):=W0o (by decide) (by omega)
 omega
theorem Xqs{n m t:Nat}(O:m=(dig n).length)(i:0<m)(j:(dig n)[m-1]?=some t): n<2^(32*(m-1)+bl t):=by
 have h0:=Xf9 j
 have hd:(dig n).drop (m-1+1)=[]:=W2v (by omega)
 rw[Xag,hd] at h0
 have o:=Xci ((Xaf n).take (m-1))
 rw[W0k,show min (m-1) (dig n).length=m-1 by omega] at o
 have e:(4294967296:Nat)^(m-1)=2^(32*(m-1)):=by rw[show (4294967296:Nat)=2^32 from rfl,<-W6q]
 have I:t<2^bl t:=by
  by_cases h:t=0
  subst h;exact W0p _
  exact(Xdh h).2.1
 have M:=W0u (4294967296^(m-1)) (show t+1<=2^bl t from I)
 rw[W1d,W4j] at M
 rw[W0x,<-e]
 simp only[val,W3l,W2e] at h0
 omega
theorem Yfp{n:Nat}: 2^(n%32)<4294967296:=W0y (W4f (by decide) (W2o n (by decide))) (by decide)
theorem Xpr{n:Nat}: (dig (2^n)).length=n/32+1:=by rw[Xmm];simp
theorem f0{g:Hp}{K:Hpl}: Fit g K (.st (.pr (.b false) .nil)) (.d (dz 0)):=.sd (.pd (.bd rfl) (.nil (by rw[Int.natAbs_zero,Xap];rfl)))
theorem f0'{g:Hp}{K:Hpl}{z:Int}(h:z=0): Fit g K (.st (.pr (.b false) .nil)) (.d (dz z)):=h ▸ f0
theorem Yec{a b:Bool}: dc (¬(a=true↔b=true))=(a != b):=by rw[Xxy];cases a<;>cases b<;>rfl
theorem Ypt{a b:Bool}: (a=true↔b=true)↔a=b:=W4w.symm
theorem Xc3{n:Nat}(h:(dig n).length<=1099511627776): C0 131 [.d (ws (dig n))] (·=.d (ws (dig n))):=trim_dig_ok h
theorem Norm_ok{z:Int}(h:(dig z.natAbs).length<=1099511627776): C0 183 [.d (dz z)] (·=.d (dz z)):=by
 refine En Tryz.func183 λ_ _ _=>?_
 exact Dw rfl<|Ce rfl (Xc3 h)<|Ce rfl (Xcf h)<|Ce rfl (Xan h)<|R1 rfl (.eq (by rw[Xrb]))
theorem Neg_ok{z:Int}(h:(dig z.natAbs).length<=1099511627776): C0 181 [.d (dz z)] (·=.d (dz (-z))):=by
 refine En Tryz.func181 λ_ _ _=>?_
 exact Dw rfl<|Ce rfl (Xc3 h)<|Ce rfl (Xcf h)<|Ce rfl (Xan h)<|R1 rfl (.eq (by rw[Ycs]))
theorem Sign_ok{z:Int}(h:(dig z.natAbs).length<=1099511627776): C0 188 [.d (dz z)] (·=.d (.int .i64 (Xa9 z 0))):=by
 refine En Tryz.func188 λ_ _ _=>?_
 refine Ce rfl (Xc3 h)<|By rfl (λi=>?_) λi=>?_<;>simp only[lw] at i
 have:z=0:=by have:=Xtu.1 (W0m (by omega:(dig z.natAbs).length=0));omega
 exact R1 rfl (.eq (by rw[this];rfl))
 have h0:z≠0:=λe=>i (by rw[e,Int.natAbs_zero,Xap];rfl)
 refine By rfl (λj=>?_) λj=>?_
 exact R1 rfl (.eq (by rw[Xa9,if_pos j]))
 exact R1 rfl (.eq (by rw[Xa9,if_neg j,if_pos (by omega)]))
theorem Cmp_ok{a b:Int}(ha:(dig a.natAbs).length<=1099511627776)(hb:(dig b.natAbs).length<=1099511627776): C0 99 [.d (dz a),.d (dz b)] (·=.d (.int .i64 (Xa9 a b))):=by
 refine En Tryz.func99 λ_ _ _=>?_
 refine Dw rfl<|Ce rfl (Sign_ok ha)<|Ce rfl (Sign_ok hb)<|By rfl (λh=>?_) λh=>?_
 exact Ce rfl Xdn<|R1 rfl (.eq (by rw[Xn8 h]))
 have h:Xa9 a 0=Xa9 b 0:=W3j.1 h
 refine Dw rfl<|Ce rfl (Xc3 ha)<|Ce rfl (Xc3 hb)<|Ce rfl (Xce ha)<|Ar (Xa9 a b) rfl ?_ (wr (Xn9 h) (by simp only[inK];rcases Xay a b with ⟨i,j⟩ | ⟨i,j⟩ | ⟨i,j⟩<;>omega))
 exact R0
theorem Mul_ok{a b:Int}(ha:(dig a.natAbs).length<=549755813888)(hb:(dig b.natAbs).length<=549755813888): C0 93 [.d (dz a),.d (dz b)] (·=.d (dz (a*b))):=by
 refine En Tryz.func93 λ_ _ _=>?_
 exact Dw rfl<|Ce rfl (Xc3 (by omega))<|Ce rfl (Xc3 (by omega))<|Ce rfl (Xle ha hb)<|Ce rfl (Xan (W0j (Xl6 ..) (by omega)))<|R1 rfl (.eq (by rw[Yec,Yct]))
theorem Ypl{x y:Nat}: ¬Xa9 (x:Int) (y:Int)<0↔y<=x:=by rw[Ybh];omega
theorem Add_ok{a b:Int}(ha:(dig a.natAbs).length<=549755813888)(hb:(dig b.natAbs).length<=549755813888): C0 197 [.d (dz a),.d (dz b)] (·=.d (dz (a+b))):=by
 refine En Tryz.func197 λ_ _ _=>?_
 refine Dw rfl<|Ce rfl (Xc3 (by omega))<|Ce rfl (Xc3 (by omega))<|By rfl (λh=>?_) λh=>?_<;>rw[Ypt] at h
 exact Dw rfl<|Ce rfl (Xi1 (by omega) (by omega))<|Ce rfl (Xan (W0j (Xhe ..) (by omega)))<|R1 rfl (.eq (by rw[Ycu h]))
 refine Ce rfl (Xce (by omega))<|By rfl (λj=>?_) λj=>?_
 have i:=W2k (Ybh.1 j)
 exact Dw rfl<|Ce rfl (Xec (by omega) i)<|Ce rfl (Xan (W0j (Xau (Nat.sub_le ..)) (by omega)))<|R1 rfl (.eq (by rw[Xra (λe=>h e.symm) i,Int.add_comm]))
 have i:=Ypl.1 j
 exact Dw rfl<|Ce rfl (Xec (by omega) i)<|Ce rfl (Xan (W0j (Xau (Nat.sub_le ..)) (by omega)))<|R1 rfl (.eq (by rw[Xra h i]))
theorem GCD_ok{a b:Int}(ha:(dig a.natAbs).length<=549755813888)(hb:(dig b.natAbs).length<=549755813888): C0 156 [.d (dz a),.d (dz b)] (·=.d (dz (Int.gcd a b))):=by
 have T:∀ {x:Nat},(dig x).length=0↔x=0:=λ{x}=>⟨λh=>Xtu.1 (W0m h),λh=>by rw[h,Xap];rfl⟩
 refine En Tryz.func156 λ_ _ _=>?_
 refine Dw rfl<|Ce rfl (Xc3 (by omega))<|Ce rfl (Xc3 (by omega))<|Cu (some 1000000) (λ((x,y):Nat×Nat)=>[(4,.ptr 4 0),(5,.d (ws (dig x))),(6,.d (ws (dig y)))]) (λ_=>[(4,.var (.st (.pr (.b false) .nil)))]) (λ(x,y)=>Nat.gcd x y=Int.gcd a b/\(dig x).length<=549755813888/\(dig y).length<=2/\((dig x).length<=2\/y=0)) rfl ?_ λ⟨x,y⟩ ⟨j,M,O,Z⟩=>?_
 refine Lo (λ((x,y):Nat×Nat)=>[(4,.ptr 4 0),(5,.d (ws (dig x))),(6,.d (ws (dig y)))]) (λ_=>[(4,.var (.st (.pr (.b false) .nil)))]) (λ(x,y)=>Nat.gcd x y=Int.gcd a b/\(dig x).length<=549755813888/\(dig y).length<=549755813888) (λ(_,y)=>y) (a.natAbs,b.natAbs) [] rfl ⟨rfl,ha,hb⟩ λ⟨x,y⟩ ⟨j,M,O⟩=>?_
 have step:y≠0->Nat.gcd y (x%y)=Int.gcd a b/\(dig y).length<=549755813888/\(dig (x%y)).length<=549755813888/\x%y<y:=λh0=>by
  have U:=W2o x (W2q h0)
  exact⟨by rw[<-j,W7i y,<-Nat.gcd_rec,W7i],O,W0j (Xau (W2k U)) O,U⟩
 refine By rfl (λh1=>?_) λh1=>?_<;>simp only[lw] at h1
 have h0:y≠0:=λe=>by have:=T.2 e;omega
 refine Ce rfl (Xbk M O h0) ?_
 have i:=step h0
 exact Bk (y,x%y) [] rfl ⟨i.1,i.2.1,i.2.2.1⟩ i.2.2.2
 refine By rfl (λi=>?_) λi=>?_<;>simp only[lw] at i
 refine By rfl (λh3=>?_) λh3=>?_<;>simp only[lw] at h3
 have h0:y≠0:=λe=>by have:=T.2 e;omega
 refine Ce rfl (Xbk M O h0) ?_
 have i:=step h0
 exact Bk (y,x%y) [] rfl ⟨i.1,i.2.1,i.2.2.1⟩ i.2.2.2
 exact Jn (x,y) [] rfl ⟨j,M,by omega,.inr (T.1 (by omega))⟩
 exact Jn (x,y) [] rfl ⟨j,M,by omega,.inl (by omega)⟩
 refine By rfl (λh=>?_) λh=>?_<;>simp only[lw] at h
 have h0:y=0:=T.1 (by omega)
 subst h0
 rw[Nat.gcd_zero_right] at j
 exact Ce rfl (Xcf (by omega))<|Ce rfl (Xan (b:=false) (by omega))<|R1 rfl (.eq (by rw[Xh5,j]))
 have o:x<18446744073709551616:=Xxv (by rcases Z with h | h;exact h;exact absurd (T.2 h) (by omega))
 have I:y<18446744073709551616:=Xxv (by omega)
 refine Ce rfl (Xga o)<|Ce rfl (Xga I)<|Lo (λ((x,y):Nat×Nat)=>[(4,.ptr 4 0),(9,.d (.int .u64 x)),(10,.d (.int .u64 y))]) (λ_=>[(4,.var (.st (.pr (.b false) .nil)))]) (λ(x,y)=>x<18446744073709551616/\y<18446744073709551616/\Nat.gcd x y=Int.gcd a b) (λ(_,y)=>y) (x,y) [] rfl ⟨o,I,j⟩ λ⟨x,y⟩ ⟨M,O,j⟩=>?_
 refine By rfl (λh=>?_) λh=>?_
 have hy0:y≠0:=by omega
 have V:=W2o x (W2q hy0)
 refine Dw rfl<|Ar (x%y:Nat) rfl ?_ (show _/\_ from⟨by omega,Xta x y⟩)
 exact Bk (y,x%y) [] rfl ⟨O,by omega,by rw[<-j,W7i y,<-Nat.gcd_rec,W7i]⟩ V
 have h0:y=0:=by omega
 subst h0
 rw[Nat.gcd_zero_right] at j
 exact Ce rfl (Xcr M)<|Ce rfl (Xan (b:=false) (W0j (Xaq (k:=2) (by omega)) (by omega)))<|R1 rfl (.eq (by rw[Xh5,j]))
theorem Yif: dig 1=[1]:=by rw[Xfw (by decide),show 1/4294967296=0 from rfl,Xap]
theorem Xz4{x:Nat}(h:(dig x).length<=1099511627775): C0 252 [.d (ws (dig x)),.d (.sl 1 [.int .u32 1])] (·=.d (ws (dig (x+1)))):=by
 have:=Xi1 (y:=1) h (by rw[Yif];decide)
 rw[Yif] at this
 exact this
theorem DivMod_ok{a b:Int}(ha:(dig a.natAbs).length<=549755813888)(hb:(dig b.natAbs).length<=549755813888)(i:b≠0): C0 155 [.d (dz a),.d (dz b)] (·=.tup (.pr (.d (dz (a.fdiv b))) (.pr (.d (dz (a.fmod b))) (.d (.int .i64 0))))):=by
 have o:∀ {x:Nat},(dig x).length=0↔x=0:=λ{x}=>⟨λh=>Xtu.1 (W0m h),λh=>by rw[h,Xap];rfl⟩
 have hq:(dig (a.natAbs/b.natAbs)).length<=549755813888:=W0j (Xau (W3n ..)) ha
 have O:(dig (a.natAbs%b.natAbs)).length<=549755813888:=W0j (Xau (Nat.mod_le ..)) ha
 have M:(dig (a.natAbs/b.natAbs+1)).length<=549755813889:=W0j (Xhe ..) (by rw[Yif];simp;omega)
 refine En Tryz.func155 λ_ _ _=>?_
 refine Ce rfl (Xc3 (by omega))<|By rfl (λh=>?_) λh=>?_<;>simp only[lw] at h
 exact absurd ((@o b.natAbs).1 (by omega)) (by omega)
 refine Ce rfl (Xc3 (by omega))<|Ce rfl (Xbk ha hb (by omega))<|By rfl (λj=>?_) λj=>?_<;>rw[Ypt] at j
 refine By rfl (λI=>?_) λI=>?_<;>simp only[lw] at I
 have hp:0<a.natAbs%b.natAbs:=W2q λe=>by have:=o.2 e;omega
 have hf:=Xsl i j
 rw[if_pos hp,if_pos hp] at hf
 exact Ce rfl (Xz4 (x:=a.natAbs/b.natAbs) (by omega))<|Ce rfl (Xec (by omega) (W2k (W2o _ (by omega))))<|Dw rfl<|Ce rfl (Xan (by omega))<|Ce rfl (Xan (W0j (Xau (Nat.sub_le ..)) (by omega)))<|RTt rfl (.cons (.eq (by rw[Yec,hf.1])) (.cons (.eq (by rw[hf.2])) (.one (.rf rfl) (λ_ _ e=>by cases e) (λ_ _ e=>by cases e))))
 have hp:¬0<a.natAbs%b.natAbs:=λhp=>by have:=mt o.1 (W8f.1 hp);omega
 have hf:=Xsl i j
 rw[if_neg hp,if_neg hp,W2e] at hf
 exact Dw rfl<|Ce rfl (Xan (by omega))<|Ce rfl (Xan (by omega))<|RTt rfl (.cons (.eq (by rw[Yec,hf.1])) (.cons (.eq (by rw[show a.natAbs%b.natAbs=0 by omega,hf.2])) (.one (.rf rfl) (λ_ _ e=>by cases e) (λ_ _ e=>by cases e))))
 have hf:=Yav i (W3j.1 j)
 exact Dw rfl<|Ce rfl (Xan (by omega))<|Ce rfl (Xan (by omega))<|RTt rfl (.cons (.eq (by rw[Yec,hf.1])) (.cons (.eq (by rw[hf.2])) (.one (.rf rfl) (λ_ _ e=>by cases e) (λ_ _ e=>by cases e))))
theorem Xp0{x:Nat}(i:(dig x).length<=549755813888): C0 375 [.d (ws (dig x))] (·=.d (ws (dig (x/2)))):=by
 refine En Tryz.func375 λ_ _ _=>?_
 refine Ca rfl (Xgd (n:=1) (Xaf x) i (by decide)) λv j=>?_
 obtain⟨l,h,o,I,rfl⟩:=j
 rw[Xag] at h
 exact Ce rfl (Xbb o (by omega))<|R1 rfl (.eq (by rw[h]))
theorem Xgc{j:Nat}(h:j<32): arB .shl .u32 1 j (2^j:Nat):=⟨by omega,by
 rw[W7m,show min j (IntKind.bits .u32)=j from W2h (W2k h),W3e,show (2:Int)^j=((2^j:Nat):Int) by rw[W7x];rfl]
 have:2^j<2^32:=W4f (by decide) h
 exact wW ⟨W5x _,W7y.2 this⟩⟩
theorem Xfc{n:Nat}(h:n<=8796093022210): C0 374 [.d (.int .i64 n)] (·=.d (ws (dig (2^n)))):=by
 refine En Tryz.func374 λ_ _ _=>?_
 refine Ar (n/32:Nat) rfl ?_ (show _/\_ from⟨by decide,by rw[show Int.tdiv (n:Int) 32=((n/32:Nat):Int) from rfl];exact wI (by omega)⟩)
 refine Ar (n/32+1:Nat) rfl ?_
 refine Mk (n/32+1) rfl (by omega) ?_
 refine Ar (n/32:Nat) rfl ?_ (show _/\_ from⟨by decide,by rw[show Int.tdiv (n:Int) 32=((n/32:Nat):Int) from rfl];exact wI (by omega)⟩)
 refine Ar (n%32:Nat) rfl ?_ (show _/\_ from⟨by decide,rfl⟩)
 refine Ar (2^(n%32):Nat) rfl ?_ (Xgc (W2o _ (by decide)))
 refine Eo (n/32) rfl (by omega)<|Sto rfl (by simp) rfl ?_
 refine R1 rfl (.own rfl (by simp) ?_)
 rw[Xmm,W1i,W0b (by simp),<-ms,W2i]
 rfl
end
section
theorem Xqh{z:Int}(o:(dig z.natAbs).length<=549755813888)(h0:z≠0): C0 373 [.d (dz z)] λv=>∃B:Nat,v=.d (.int .i64 B)/\z.natAbs<2^B/\B<=32*(dig z.natAbs).length:=by
 refine En Tryz.func373 λ_ _ _=>?_
 refine Ce rfl (Xc3 (by omega))<|By rfl (λh=>?_) λh=>?_<;>simp only[lw] at h
 exact absurd (Xtu.1 (W0m (by omega:(dig z.natAbs).length=0))) (by omega)
 obtain⟨t,j⟩:=xat (l:=dig z.natAbs) (k:=(dig z.natAbs).length-1) (by omega)
 have i:=ww j (Xaf _)
 have hb:=Xyd i
 refine Ar ((dig z.natAbs).length-1:Nat) rfl ?_ (wr (by simp only[lw];omega) (by simp only[inK];omega))
 refine Ar (32*((dig z.natAbs).length-1):Nat) rfl ?_
 refine Ar ((dig z.natAbs).length-1:Nat) rfl ?_ (wr (by simp only[lw];omega) (by simp only[inK];omega))
 refine Ix ((dig z.natAbs).length-1) rfl (mp j)<|Ce rfl (Xs5 i)<|Ar (32*((dig z.natAbs).length-1)+bl t:Nat) rfl ?_
 exact Rt rfl (.one (.rf rfl) rfl rfl) ⟨_,rfl,Xqs rfl (by omega) j,by omega⟩
theorem Sqrt_ok{a:Nat}(hl:(dig a).length<=274877906944): C0 365 [.d (dz (a:Int))] (·=.tup (.pr (.d (dz (rt a:Int))) (.d (.int .i64 0)))):=by
 have hln:(dig (a:Int).natAbs).length<=274877906944:=by rw[W1b];exact hl
 refine En Tryz.func365 λ_ _ _=>?_
 refine Ce rfl (Sign_ok (z:=a) (by omega))<|By rfl (λh=>?_) λh=>?_
 rcases Xay (a:Int) 0 with ⟨i,j⟩ | ⟨i,j⟩ | ⟨i,j⟩<;>omega
 refine By rfl (λh1=>?_) λh1=>?_
 have o:a=0:=by rcases Xay (a:Int) 0 with ⟨i,j⟩ | ⟨i,j⟩ | ⟨i,j⟩<;>omega
 exact RTt rfl (.cons (f0' (by rw[o];rfl)) (.one (.rf rfl) (λ_ _ e=>by cases e) (λ_ _ e=>by cases e)))
 have o:a≠0:=by rcases Xay (a:Int) 0 with ⟨i,j⟩ | ⟨i,j⟩ | ⟨i,j⟩<;>omega
 refine Ca rfl (Xqh (z:=a) (by omega) (by omega)) λv hv=>?_
 obtain⟨B,rfl,M,O⟩:=hv
 rw[W1b] at M O
 refine Ar (B/2:Nat) rfl ?_ (show _/\_ from⟨by decide,by rw[show Int.tdiv (B:Int) 2=((B/2:Nat):Int) from rfl];exact wI (by omega)⟩)
 refine Ar (B/2+1:Nat) rfl ?_
 refine Ce rfl (Xfc (n:=B/2+1) (by omega))<|Lo (λ(x:Nat)=>[(1,.ptr 1 0),(2,.ptr 2 0),(3,.d (.int .i64 0)),(5,.d (ws (dig x)))]) (λ_=>[(1,.var (.d (dz a))),(2,.var (.st (.pr (.b false) .nil)))]) (λx=>0<x/\rt a<=x/\x<=2^(B/2+1)) (λx=>x) (2^(B/2+1)) [] rfl
  ⟨W0p _,W2k (Xvp M (by omega)),W0a _⟩ λx ⟨I,T,U⟩=>?_
 have hxl:(dig x).length<=549755813000:=W0j (Xau U) (by rw[Xpr];omega)
 have hql:(dig (a/x)).length<=274877906944:=W0j (Xau (W3n a x)) hl
 refine Ce (r:=.d (ws (dig a))) rfl (Xc3 (n:=a) (by omega))<|Ce rfl (Xbk (by omega) (by omega) (by omega))<|Ce rfl (Xi1 (by omega) (by omega))<|Ce rfl (Xp0 (W0j (Xhe ..) (by omega)))<|Ce rfl (Xce (W0j (Xau (W3n ..)) (W0j (Xhe ..) (by omega))))<|By rfl (λh2=>?_) λh2=>?_
 have V:x<=(x+a/x)/2:=by rcases Xay (((x+a/x)/2:Nat):Int) (x:Int) with ⟨i,j⟩ | ⟨i,j⟩ | ⟨i,j⟩<;>omega
 exact Ce rfl (Xan (b:=false) (by omega))<|RTt rfl (.cons (.eq (by rw[Xto I V T];rfl)) (.one (.rf rfl) (λ_ _ e=>by cases e) (λ_ _ e=>by cases e)))
 have Z:(x+a/x)/2<x:=by rcases Xay (((x+a/x)/2:Nat):Int) (x:Int) with ⟨i,j⟩ | ⟨i,j⟩ | ⟨i,j⟩<;>omega
 exact Bk ((x+a/x)/2) [] rfl ⟨W0y (Yjo o) (Ydh I),Ydh I,by omega⟩ Z
end
end Go.Proofs.YtnedfplmoojbaaaGreatDoor
namespace Go.Num
theorem szl{n p:Nat}(h:n<2^p)(hp:p<=8796093022208): (dig n).length<=274877906945:=by
 have i:n<4294967296^(p/32+1):=by
  rw[show 4294967296=2^32 from rfl,<-W6q]
  exact W0y h (W0o (by decide) (by omega))
 have:=Xaq i
 omega
def Zs(p:Nat)(z:Int): Prop:=z.natAbs<2^p
theorem Zs.len{p:Nat}{z:Int}(h:Zs p z)(hp:p<=8796093022208): (dig z.natAbs).length<=274877906945:=szl h hp
theorem Zs.mono{p q:Nat}{z:Int}(h:Zs p z)(hp:p<=q): Zs q z:=W0y h (W0o (by decide) hp)
theorem Zs.mul{p q:Nat}{x y:Int}(h:Zs p x)(k:Zs q y): Zs (p+q) (x*y):=by
 unfold Zs at *
 rw[W4d,W0x]
 exact W3u h k
theorem Zs.add{p q:Nat}{x y:Int}(h:Zs p x)(k:Zs q y): Zs (max p q+1) (x+y):=by
 have i:=h.mono (Nat.le_max_left p q)
 have j:=k.mono (Nat.le_max_right p q)
 unfold Zs at *
 have:=Int.natAbs_add_le x y
 rw[W0z]
 omega
theorem Zs.neg{p:Nat}{x:Int}(h:Zs p x): Zs p (-x):=by
 unfold Zs at *
 rwa[W5l]
theorem Zs.gcd{p:Nat}{x y:Int}(h:Zs p y)(h0:y≠0): Zs p (Int.gcd x y:Int):=by
 unfold Zs at *
 have:Int.gcd x y<=y.natAbs:=Nat.le_of_dvd (by omega) (Int.gcd_dvd_natAbs_right x y)
 omega
theorem Zs.one{p:Nat}(hp:1<=p): Zs p 1:=W0y (by decide) (W0o (by decide) hp:2^1<=2^p)
theorem Zs.zero{p:Nat}: Zs p 0:=W0p p
structure Qs (p:Nat) (x:Rat):Prop where
 n:Zs p x.num
 d:Zs p (x.den:Int)
theorem Qs.mono{p q:Nat}{x:Rat}(h:Qs p x)(hp:p<=q): Qs q x:=⟨h.n.mono hp,h.d.mono hp⟩
theorem Qs.neg{p:Nat}{x:Rat}(h:Qs p x): Qs p (-x):=⟨by rw[Rat.neg_num];exact h.n.neg,by rw[Rat.neg_den];exact h.d⟩
theorem Yaw(a:Int): a.fdiv 1=a:=by rw[W1r _ (by decide),Int.ediv_one]
theorem Xkm{a b:Int}(hb:b≠0): a.fdiv (if b<0 then -(Int.gcd a b:Int) else (Int.gcd a b:Int))=(Rat.divInt a b).num:=by
 rw[Rat.num_divInt,Int.gcd_comm b a]
 split
 rename_i h
 rw[show a.fdiv (-(Int.gcd a b:Int))=(-a).fdiv (Int.gcd a b:Int) by rw[<-W7s,W7o],Int.sign_eq_neg_one_of_neg h,W1r _ (by omega)]
 congr 1
 omega
 rw[W6r (by omega),W3e,W1r _ (by omega)]
theorem Xkn{a b:Int}(hb:b≠0): b.fdiv (if b<0 then -(Int.gcd a b:Int) else (Int.gcd a b:Int))=((Rat.divInt a b).den:Int):=by
 rw[Rat.den_divInt,if_neg hb,Int.gcd_comm b a,Int.natCast_ediv]
 split
 rw[show b.fdiv (-(Int.gcd a b:Int))=(-b).fdiv (Int.gcd a b:Int) by rw[<-W7s,W7o],W1r _ (by omega)]
 congr 1
 omega
 rw[W1r _ (by omega)]
 congr 1
 omega
theorem Xw9{a b:Int}(hb:b≠0): Int.gcd a b≠0:=λh=>hb (W8g.1 h).2
theorem Qs.addNum{p q:Nat}{x y:Rat}(h:Qs p x)(k:Qs q y): Zs (p+q+1) (x.num*y.den+y.num*x.den):=by
 have i:=(h.n.mul k.d).add (k.n.mul h.d)
 exact i.mono (by omega)
theorem Xkw(a:Int)(b:Nat): Rat.divInt a (b:Int)=mkRat a b:=Rat.divInt_ofNat a b
theorem Xk0(x y:Rat): x+y=Rat.divInt (x.num*y.den+y.num*x.den) ((x.den:Int)*y.den):=by
 rw[Rat.add_def',<-W2r,Xkw]
theorem Xkk(x y:Rat): x*y=Rat.divInt (x.num*y.num) ((x.den:Int)*y.den):=by
 rw[Rat.mul_def',<-W2r,Xkw]
theorem Xkv(x y:Rat)(h:y≠0): x/y=Rat.divInt (x.num*y.den) ((x.den:Int)*y.num):=by
 rw[W5n,Rat.inv_def]
 conv=>lhs;rw[<-Rat.num_divInt_den x]
 rw[Rat.divInt_mul_divInt]
theorem Ynm{x:Rat}(h:(x.den:Int)=1): x=(x.num:Rat):=Rat.ext rfl (by show x.den=1;omega)
theorem Xst{x y:Rat}(h:(x.den:Int)=1)(k:(y.den:Int)=1): x+y=((x.num+y.num:Int):Rat):=by
 conv=>lhs;rw[Ynm h,Ynm k]
 norm_cast
theorem Xss{x y:Rat}(h:(x.den:Int)=1)(k:(y.den:Int)=1): x*y=((x.num*y.num:Int):Rat):=by
 conv=>lhs;rw[Ynm h,Ynm k]
 norm_cast
theorem Xcd(x:Rat): (x.den:Int)≠0:=by have:=x.den_nz;omega
theorem Zs.divInt_num{p:Nat}{a b:Int}(ha:Zs p a): Zs p (Rat.divInt a b).num:=by
 unfold Zs at *
 rw[Rat.num_divInt]
 have j:(b.sign*a).natAbs<=a.natAbs:=by
  rw[W4d]
  have:b.sign.natAbs<=1:=by rw[Int.natAbs_sign];split<;>omega
  have:=W0l a.natAbs this
  omega
 have o:((b.sign*a)/(Int.gcd b a:Int)).natAbs<=(b.sign*a).natAbs:=by
  by_cases h:Int.gcd b a=0
  rw[h];simp
  have hd:(Int.gcd b a:Int) ∣ b.sign*a:=Int.dvd_mul_of_dvd_right (Int.gcd_dvd_right b a)
  obtain⟨c,i⟩:=hd
  rw[i,Int.mul_ediv_cancel_left _ (by omega),W4d]
  exact Nat.le_mul_of_pos_left _ (W2q (by rw[W1b];exact h))
 omega
theorem Zs.divInt_den{p:Nat}{a b:Int}(hb:Zs p b)(h0:b≠0): Zs p ((Rat.divInt a b).den:Int):=by
 unfold Zs at *
 rw[Rat.den_divInt,if_neg h0]
 have:=W3n b.natAbs (Int.gcd b a)
 rw[W1b]
 omega
theorem Qs.divInt{p:Nat}{a b:Int}(ha:Zs p a)(hb:Zs p b)(h0:b≠0): Qs p (Rat.divInt a b):=⟨ha.divInt_num,hb.divInt_den h0⟩
theorem Qs.add{p q:Nat}{x y:Rat}(h:Qs p x)(k:Qs q y): Qs (p+q+1) (x+y):=by
 rw[Xk0]
 exact Qs.divInt (h.addNum k) ((h.d.mul k.d).mono (by omega)) (W7e (Xcd x) (Xcd y))
theorem Qs.mul{p q:Nat}{x y:Rat}(h:Qs p x)(k:Qs q y): Qs (p+q) (x*y):=by
 rw[Xkk]
 exact Qs.divInt (h.n.mul k.n) (h.d.mul k.d) (W7e (Xcd x) (Xcd y))
theorem Qs.int{p:Nat}{z:Int}(h:Zs p z)(hp:1<=p): Qs p (z:Rat):=⟨h,Zs.one hp⟩
theorem Ybg{z:Int}: Xa9 z 0>0↔z>0:=by
 unfold Xa9
 split
 constructor<;>intro<;>omega
 split
 constructor<;>intro<;>omega
 constructor<;>intro<;>omega
def Xmw(x y:Rat): Int:=if x<y then -1 else if y<x then 1 else 0
theorem Xsx(x y:Rat): Xa9 (x.num*y.den) (y.num*x.den)=Xmw x y:=by
 unfold Xa9 Xmw
 simp only[Rat.lt_iff,gt_iff_lt]
theorem Xn7{x y:Rat}(h:Xa9 x.num 0<Xa9 y.num 0): Xmw x y=-1:=by
 unfold Xmw
 rw[if_pos]
 rw[Rat.lt_iff]
 have M:=x.den_pos
 have O:=y.den_pos
 rcases Xay x.num 0 with ⟨i,o⟩ | ⟨i,o⟩ | ⟨i,o⟩<;>rcases Xay y.num 0 with ⟨j,I⟩ | ⟨j,I⟩ | ⟨j,I⟩<;>rw[o,I] at h<;>first | omega | skip
 rw[j,W5r];exact Int.mul_neg_of_neg_of_pos i (by omega)
 have:=Int.mul_neg_of_neg_of_pos i (by omega:(0:Int)<y.den)
 have:=Int.mul_pos j (by omega:(0:Int)<x.den)
 omega
 rw[i,W5r];exact Int.mul_pos j (by omega)
theorem Xn6(x y:Rat): Xmw x y=- Xmw y x:=by
 unfold Xmw
 by_cases h:x<y
 have:¬y<x:=by grind
 rw[if_pos h,if_neg this,if_pos h]
 rw[if_neg h]
 by_cases i:y<x
 rw[if_pos i,if_pos i];rfl
 rw[if_neg i,if_neg i,if_neg h];rfl
end Go.Num
namespace Go.Proofs.YtnedfplmoojbaaaGreatDoor
open Go Go.Vm Go.Num
def dq(x:Rat): D:=.st (.pr (dz x.num) (dz x.den))
theorem Yq5{n:Nat}: (dig n).length=0↔n=0:=⟨λh=>Xtu.1 (W0m h),λh=>by rw[h,Xap];rfl⟩
theorem fst{g:Hp}{K:Hpl}{a:AV}{x:D}(h:Fit g K a (.d x)): Fit g K (.st a) (.d (.st x)):=.sd h
theorem Xfm: C0 91 [] (·=.d (dz 1)):=by
 refine En Tryz.func91 λ_ _ _=>?_
 exact Ce rfl (FromInt_ok (z:=1) (by decide))<|R0
theorem Xv7{z:Int}: (dig z.natAbs=[1]/\¬z<0)↔z=1:=by
 constructor
 rintro⟨h,i⟩
 have:=Xag z.natAbs
 rw[h] at this
 simp[val] at this
 omega
 rintro rfl
 exact⟨Yif,by decide⟩
theorem Yks{l:List Nat}{u:Nat}(h:l.length=1)(i:l[0]?=some u): l=[u]:=by
 match l,h,i with
 | [a],_,i=>simp at i;rw[i]
theorem Xfe{z:Int}: C0 92 [.d (dz z)] (·=.b (dc (z=1))):=by
 refine En Tryz.func92 λ_ _ _=>?_
 refine By rfl (λh=>?_) λh=>?_
 refine By rfl (λi=>?_) λi=>?_<;>simp only[lw] at i
 obtain⟨u,j⟩:=xat (l:=dig z.natAbs) (k:=0) (by omega)
 have o:=Yks (by omega) j
 refine Ix 0 rfl (mp j)<|R1 rfl (.bp ?_)
 refine Xaj.trans (Iff.trans ?_ Xv7)
 rw[o]
 constructor
 intro e;exact⟨by rw[show u=1 by omega],h⟩
 rintro⟨e,_⟩;injection e with e;omega
 exact R1 rfl (.bp ⟨nofun,λe=>absurd (by rw[e];show ((dig 1).length:Int)=1;rw[Yif];rfl) i⟩)
 exact R1 rfl (.bp ⟨nofun,λe=>absurd (by rw[e];decide) h⟩)
theorem Xjd{z:Int}: C0 184 [.d (dz z)] (·=.b (dc (z=0))):=by
 refine En Tryz.func184 λ_ _ _=>?_
 refine R1 rfl (.bp ?_)
 simp only[Xaj,lw]
 rw[show ((dig z.natAbs).length:Int)=0↔(dig z.natAbs).length=0 by omega,Yq5];omega
theorem Xcu{a b:Int}(ha:(dig a.natAbs).length<=549755813888)(hb:(dig b.natAbs).length<=549755813888)(i:b≠0): C0 182 [.d (dz a),.d (dz b)] (·=.d (dz (a.fdiv b))):=by
 refine En Tryz.func182 λ_ _ _=>?_
 refine Ce rfl Xfe<|By rfl (λh=>?_) λh=>?_
 exact R1 rfl (.eq (show dz a=dz (a.fdiv b) by rw[h,Yaw]))
 exact Ce rfl (DivMod_ok ha hb i)<|R0
theorem Xgj{a b:Int}{p:Nat}(ha:Zs p a)(hb:Zs p b)(hp:p<=8796093022208)(i:b≠0): C0 94 [.d (dz a),.d (dz b)] (·=.d (dq (Rat.divInt a b))):=by
 have o:Zs p (Int.gcd a b:Int):=hb.gcd i
 have I:=ha.len hp
 have M:=hb.len hp
 have O:=o.len hp
 refine En Tryz.func94 λ_ _ _=>?_
 refine Ce rfl (GCD_ok (by omega) (by omega)) ?_
 have h0:=Xw9 (a:=a) i
 have j:∀g:Int,g=(if b<0 then -(Int.gcd a b:Int) else (Int.gcd a b:Int))->D.st (.pr (dz (a.fdiv g)) (dz (b.fdiv g)))=dq (Rat.divInt a b):=λg o=>by rw[o,Xkm i,Xkn i];rfl
 refine By rfl (λh=>?_) λh=>?_
 exact Ce rfl (Neg_ok (by omega))<|Dw rfl<|Ce rfl (Xcu (by omega) (by rw[W5l];omega) (by omega))<|Ce rfl (Xcu (by omega) (by rw[W5l];omega) (by omega))<|R1 rfl (.eq (j _ (by rw[if_pos h])))
 exact Dw rfl<|Ce rfl (Xcu (by omega) (by omega) (by omega))<|Ce rfl (Xcu (by omega) (by omega) (by omega))<|R1 rfl (.eq (j _ (by rw[if_neg h])))
theorem Make_ok{a b:Int}{p:Nat}(ha:Zs p a)(hb:Zs p b)(hp:p<=8796093022208)(h:b≠0): C0 95 [.d (dz a),.d (dz b)] (·=.tup (.pr (.d (dq (Rat.divInt a b))) (.d (.int .i64 0)))):=by
 have i:=ha.len hp
 have j:=hb.len hp
 refine En Tryz.func95 λ_ _ _=>?_
 exact Dw rfl<|Ce rfl (Norm_ok (by omega))<|Ce rfl (Norm_ok (by omega))<|Ce rfl Xjd<|No rfl h<|Ce rfl (Xgj ha hb hp h)<|R0t
theorem Xah{z:Int}(h:-9223372036854775808<=z/\z<9223372036854775808): C0 42 [.d (.int .i64 z)] (·=.d (dq z)):=by
 refine En Tryz.func42 λ_ _ _=>?_
 exact Ce rfl (FromInt_ok h)<|Ce rfl Xfm<|R0
theorem Xck{a b:Int}(ha:-9223372036854775808<=a/\a<9223372036854775808)(hb:0<b/\b<9223372036854775808): C0 44 [.d (.int .i64 a),.d (.int .i64 b)] (·=.d (dq (Rat.divInt a b))):=by
 refine En Tryz.func44 λ_ _ _=>?_
 exact Ce rfl (FromInt_ok ha)<|Ce rfl (FromInt_ok (by omega))<|Ce rfl (Make_ok (p:=64) (by unfold Zs;omega) (by unfold Zs;omega) (by decide) (by omega))<|No rfl (by decide)<|R0
theorem Xbv{x:Rat}{p:Nat}(h:Qs p x)(hp:p<=8796093022208): C0 98 [.d (dq x)] (·=.d (.int .i64 (Xa9 x.num 0))):=by
 have:=h.n.len hp
 refine En Tryz.func98 λ_ _ _=>?_
 exact Ce rfl (Sign_ok (by omega))<|R0
theorem Xea{x:Rat}{p:Nat}(h:Qs p x)(hp:p<=8796093022208): C0 191 [.d (dq x)] (·=.d (dq (-x))):=by
 have:=h.n.len hp
 refine En Tryz.func191 λ_ _ _=>?_
 exact Dw rfl<|Ce rfl (Neg_ok (by omega))<|R1 rfl (.eq (show D.st (.pr (dz (-x.num)) (dz x.den))=dq (-x) by unfold dq;rw[Rat.neg_num,Rat.neg_den]))
abbrev q0: AV:=.st (.pr (.st (.pr (.b false) .nil)) (.st (.pr (.b false) .nil)))
theorem Xby{x y:Rat}{p q:Nat}(i:Qs p x)(j:Qs q y)(hp:p+q<=8796093022208): C0 43 [.d (dq x),.d (dq y)] (·=.d (dq (x*y))):=by
 have I:=i.n.len (by omega)
 have M:=i.d.len (by omega)
 have O:=j.n.len (by omega)
 have T:=j.d.len (by omega)
 refine En Tryz.func43 λ_ _ _=>?_
 refine Cu (some 1) (λ(b:Bool)=>[(2,.ptr 2 0),(3,.ptr 3 0),(4,.ptr 4 0),(12,.b b)]) (λ_=>[(2,.var (.d (dq x))),(3,.var (.d (dq y))),(4,.var q0)]) (λb=>b=true->(x.den:Int)=1/\(y.den:Int)=1) rfl ?_ λb hb=>?_
 refine Ce rfl Xfe<|By rfl (λh=>?_) λh=>?_
 exact Ce rfl Xfe<|Jn (dc _) [] rfl λe=>⟨h,Xaj.1 e⟩
 exact Jn false [] rfl nofun
 refine By rfl (λh=>?_) λh=>?_
 obtain⟨o,d2⟩:=hb h
 exact Ce rfl (Mul_ok (by omega) (by omega))<|Ce rfl Xfm<|R1 rfl (.eq (show _=dq _ by rw[Xss o d2];rfl))
 exact Dw rfl<|Ce rfl (Mul_ok (by omega) (by omega))<|Ce rfl (Mul_ok (by omega) (by omega))<|Ce rfl (Xgj (i.n.mul j.n) (i.d.mul j.d) hp (W7e (Xcd x) (Xcd y)))<|R1 rfl (.eq (by rw[Xkk]))
theorem Xc0{x y:Rat}{p q:Nat}(i:Qs p x)(j:Qs q y)(hp:p+q+1<=8796093022208): C0 107 [.d (dq x),.d (dq y)] (·=.d (dq (x+y))):=by
 have I:=i.n.len (by omega)
 have M:=i.d.len (by omega)
 have O:=j.n.len (by omega)
 have T:=j.d.len (by omega)
 have U:=(i.n.mul j.d).len (by omega)
 have V:=(j.n.mul i.d).len (by omega)
 refine En Tryz.func107 λ_ _ _=>?_
 refine Cu (some 1) (λ(b:Bool)=>[(2,.ptr 2 0),(3,.ptr 3 0),(4,.ptr 4 0),(13,.b b)]) (λ_=>[(2,.var (.d (dq x))),(3,.var (.d (dq y))),(4,.var q0)]) (λb=>b=true->(x.den:Int)=1/\(y.den:Int)=1) rfl ?_ λb hb=>?_
 refine Ce rfl Xfe<|By rfl (λh=>?_) λh=>?_
 exact Ce rfl Xfe<|Jn (dc _) [] rfl λe=>⟨h,Xaj.1 e⟩
 exact Jn false [] rfl nofun
 refine By rfl (λh=>?_) λh=>?_
 obtain⟨o,d2⟩:=hb h
 exact Ce rfl (Add_ok (by omega) (by omega))<|Ce rfl Xfm<|R1 rfl (.eq (show _=dq _ by rw[Xst o d2];rfl))
 exact Dw rfl<|Ce rfl (Mul_ok (by omega) (by omega))<|Ce rfl (Mul_ok (by omega) (by omega))<|Ce rfl (Add_ok (by omega) (by omega))<|Dw rfl<|Ce rfl (Mul_ok (by omega) (by omega))<|Ce rfl (Xgj (p:=p+q+1) (Qs.addNum i j) ((i.d.mul j.d).mono (by omega)) hp (W7e (Xcd x) (Xcd y)))<|R1 rfl (.eq (by rw[Xk0]))
theorem Xeu{x y:Rat}{p q:Nat}(i:Qs p x)(h:Qs q y)(hp:p+q+1<=8796093022208): C0 100 [.d (dq x),.d (dq y)] (·=.d (dq (x-y))):=by
 refine En Tryz.func100 λ_ _ _=>?_
 exact Dw rfl<|Ce rfl (Xea h (by omega))<|Ce rfl (Xc0 i h.neg hp)<|R1 rfl (.eq (by rw[W4k]))
theorem Xg9{x y:Rat}{p q:Nat}(h:Qs p x)(i:Qs q y)(hp:p+q<=8796093022208)(h0:y≠0): C0 196 [.d (dq x),.d (dq y)] (·=.tup (.pr (.d (dq (x/y))) (.d (.int .i64 0)))):=by
 have o:=h.n.len (by omega)
 have I:=h.d.len (by omega)
 have M:=i.n.len (by omega)
 have O:=i.d.len (by omega)
 have j:y.num≠0:=λe=>h0 (W5g.1 e)
 refine En Tryz.func196 λ_ _ _=>?_
 exact Ce rfl Xjd<|No rfl j<|Dw rfl<|Ce rfl (Mul_ok (by omega) (by omega))<|Ce rfl (Mul_ok (by omega) (by omega))<|Ce rfl (Xgj (h.n.mul i.d) (h.d.mul i.n) hp (W7e (Xcd x) j))<|RTt rfl (.cons (.eq (by rw[Xkv _ _ h0])) (.one (.rf rfl) (λ_ _ e=>by cases e) (λ_ _ e=>by cases e)))
def rz: D:=.st (.pr (.st (.pr (.bool false) (.sl 1 []))) (.st (.pr (.bool false) (.sl 1 []))))
theorem Ylk{g:Hp}{K:Hpl}: Fit g K q0 (.d rz):=.sd (.pd (.sd (.pd (.bd rfl) (.nil rfl))) (.sd (.pd (.bd rfl) (.nil rfl))))
theorem Xz1{x y:Rat}(h0:y=0): C0 196 [.d (dq x),.d (dq y)] (·=.tup (.pr (.d rz) (.d (.int .i64 6)))):=by
 refine En Tryz.func196 λ_ _ _=>?_
 exact Ce rfl Xjd<|Yes rfl (by rw[h0];rfl)<|RTt rfl (.cons Ylk (.one (.rf rfl) (λ_ _ e=>by cases e) (λ_ _ e=>by cases e)))
theorem Xbo{x y:Rat}{p q:Nat}(i:Qs p x)(j:Qs q y)(hp:p+q<=8796093022208): C0 46 [.d (dq x),.d (dq y)] (·=.d (.int .i64 (Xmw x y))):=by
 have o:=i.n.len (by omega)
 have I:=i.d.len (by omega)
 have M:=j.n.len (by omega)
 have O:=j.d.len (by omega)
 have T:=(i.n.mul j.d).len (by omega)
 have U:=(j.n.mul i.d).len (by omega)
 refine En Tryz.func46 λ_ _ _=>?_
 refine Dw rfl<|Ce rfl (Xbv i (by omega))<|Ce rfl (Xbv j (by omega))<|By rfl (λh=>?_) λh=>?_
 refine By rfl (λo=>?_) λo=>?_
 exact R1 rfl (.eq (by rw[Xn7 o]))
 exact R1 rfl (.eq (by rw[Xn6,Xn7 (by omega)];rfl))
 exact Dw rfl<|Ce rfl (Mul_ok (by omega) (by omega))<|Ce rfl (Mul_ok (by omega) (by omega))<|Ce rfl (Cmp_ok (by omega) (by omega))<|R1 rfl (.eq (by rw[Xsx]))
theorem Xey{z:Int}(h:(dig z.natAbs).length<=549755813888): C0 238 [.d (dz z)] (·=.b true):=by
 refine En Tryz.func238 λ_ _ _=>?_
 refine By rfl (λi=>?_) λi=>?_<;>simp only[lw] at i
 have h0:=Yq5.1 (by omega:(dig z.natAbs).length=0)
 exact Yes rfl (by omega:¬z<0)<|R0
 refine Yes rfl (by simp only[lw];omega) ?_
 rcases Xh2 z.natAbs with j | ⟨t,j,o⟩
 rw[j] at i;exact absurd rfl i
 refine Ar ((dig z.natAbs).length-1:Nat) rfl ?_ (wr (by simp only[lw];omega) (by simp only[inK];omega))
 refine Ix ((dig z.natAbs).length-1) rfl (mp j)<|R1 rfl (by exact(show dc ((t:Int)≠0)=true by rw[Xaj];omega) ▸ .rf rfl)
theorem Ypk{z:Int}: Xa9 z 0>0↔z>0:=Ybg
theorem Xnc{x:Rat}{p:Nat}(h:Qs p x)(hp:p<=8796093022208): C0 145 [.d (dq x)] (·=.b true):=by
 have i:=h.n.len hp
 have j:=h.d.len hp
 refine En Tryz.func145 λ_ _ _=>?_
 refine Ce rfl (Xey (z:=x.num) (by omega))<|Yes rfl rfl<|Ce rfl (Xey (z:=x.den) (by omega))<|Yes rfl rfl<|Ce rfl (Sign_ok (by omega))<|Yes rfl (Ypk.2 (by have:=x.den_pos;omega))<|Ce rfl (GCD_ok (by omega) (by omega))<|Ce rfl Xfe<|R1 rfl (by exact(show dc ((Int.gcd x.num x.den:Int)=1)=true by rw[Xaj];exact congrArg Nat.cast (show Int.gcd x.num x.den=1 from x.reduced)) ▸ .rf rfl)
end Go.Proofs.YtnedfplmoojbaaaGreatDoor
namespace Go.Proofs.YtnedfplmoojbaaaGreatDoor.R1
open Go Go.Vm Go.Num Go.Proofs.YtnedfplmoojbaaaGreatDoor
section
theorem Xbb{l:List Nat}(O:Xav l)(T:l.length<=1099511627776): C0 205 [.d (ws l)] (·=.d (ws (dig (val l)))):=by
 refine En Tryz.func205 λ_ _ _=>?_
 refine Lo (λk=>[(0,.d (ws (l.take k)))]) (λ_=>[]) (λk=>k<=l.length/\val (l.take k)=val l) id l.length [] rfl ⟨W0a _,by rw[W2u]⟩ (λk ⟨I,j⟩=>?_) (hf:=⟨by simp only[W2u];rfl,rfl,rfl,rfl,rfl⟩)
 refine By rfl (λh=>?_) λh=>?_<;>simp only[W1k,W0k,W2h I] at h
 have T:((l.take k).map wd).length=k:=by simp;omega
 refine Ar (k-1:Nat) rfl ?_
 have o:=W0e (l:=l) (i:=k-1) (by omega)
 refine Ix (k-1) rfl (u:=wd l[k-1]) (mp (by rw[W1h,if_pos (by omega),o])) ?_
 have M:=Xac o
 rw[show k-1+1=k by omega,j] at M
 refine By rfl (λh0=>?_) λh0=>?_
 refine Ar (k-1:Nat) rfl ?_
 refine Tk (k-1) ((l.take (k-1)).map wd) rfl rfl (by simp;omega) (by rw[<-W2f,List.take_take,W2h (by omega)]) ?_
 exact Bk (k-1) [] rfl ⟨by omega,by rw[M,show l[k-1]=0 by omega,W3l,W2e]⟩ (by omega:k-1<k)
 exact R1 rfl (.eq (by rw[<-j,Xe5 (O.take k) (.inr ⟨l[k-1],by rw[W0k,W2h I,W1h,if_pos (by omega),o],λe=>h0 (by rw[e];rfl)⟩)]))
 refine R1 rfl (.eq ?_)
 rw[show k=0 by omega] at j |-
 rw[<-j,W5k,val,Xap]
theorem trim_dig_ok{n:Nat}(h:(dig n).length<=1099511627776): C0 205 [.d (ws (dig n))] (·=.d (ws (dig n))):=by
 have:=Xbb (Xaf n) h
 rwa[Xag] at this
theorem Xf5{n:Nat}(h:n<18446744073709551616): C0 120 [.d (.int .u64 n)] (·=.d (ws (dig n))):=by
 refine En Tryz.func120 λ_ _ _=>?_
 refine Go.Vm.Cv (n%4294967296:Nat) rfl ?_ (hr:=by rw[wWm];omega)
 refine Ar (n/4294967296:Nat) rfl ?_ (hr:=show _/\_ from⟨by omega,Yjh n⟩)
 refine Go.Vm.Cv (n/4294967296:Nat) rfl ?_
 exact Ce rfl (Xbb (l:=[n%4294967296,n/4294967296]) (.cons (by omega) (.cons (by omega) .nil)) (by simp))<|R1 rfl (.eq (by rw[show val [n%4294967296,n/4294967296]=n by simp only[val];omega]))
theorem Xq5{b:Bool}{l:List Nat}(i:Xav l)(h:l.length<=1099511627776): C0 119 [.d (.bool b),.d (ws l)] (·=.d (dz (sg b (val l)))):=by
 rw[<-Yl2]
 refine C.nb (show C0 _ [.b b,.d (ws l)] _ from ?_)
 obtain⟨n,j⟩:∃n,n=val l:=⟨_,rfl⟩
 refine En Tryz.func119 λ_ _ _=>?_
 refine Ce rfl (Xbb i h) ?_
 rw[<-j]
 cases b with
 | true =>
  exact Yes rfl rfl<|R1 rfl (by exact .sd (.pd (.bd (by
   rw[W4w,Xaj,W0d,bne_iff_ne,lw]
   have:=@Xtu n
   rw[<-W5b] at this
   simp;omega)) (.rf rfl)))
 | false =>
  exact No rfl (by nofun)<|R1 rfl (by exact .sd (.pd (.bd rfl) (.rf rfl)))
theorem Xan{b:Bool}{n:Nat}(h:(dig n).length<=1099511627776): C0 119 [.d (.bool b),.d (ws (dig n))] (·=.d (dz (sg b n))):=by
 have:=Xq5 (b:=b) (Xaf n) h
 rwa[Xag] at this
theorem FromInt_ok{z:Int}(h:-9223372036854775808<=z/\z<9223372036854775808): C0 57 [.d (.int .i64 z)] (·=.d (dz z)):=by
 have i:(dig z.natAbs).length<=2:=Xaq (by omega)
 refine En Tryz.func57 λ_ _ _=>?_
 refine By rfl (λh=>?_) λh=>?_
 refine Go.Vm.Cv (z%18446744073709551616) rfl ?_ (hr:=wUm _)
 refine Ne (z.natAbs:Int) rfl ?_ (hr:=by rw[wUm];omega)
 exact Ce rfl (Xf5 (n:=z.natAbs) (by omega))<|Ce rfl (Xan (n:=z.natAbs) (by omega))<|R1 rfl (.eq (by rw[show sg true z.natAbs=z by unfold sg;rw[if_pos rfl];omega]))
 refine Go.Vm.Cv (z.natAbs:Int) rfl ?_ (hr:=by rw[wUm];omega)
 exact Ce rfl (Xf5 (n:=z.natAbs) (by omega))<|Ce rfl (Xan (n:=z.natAbs) (by omega))<|R1 rfl (.eq (by rw[show sg false z.natAbs=z by unfold sg;rw[if_neg nofun];omega]))
theorem Norm_ok{z:Int}(h:(dig z.natAbs).length<=1099511627776): C0 207 [.d (dz z)] (·=.d (dz z)):=by
 refine En Tryz.func207 λ_ _ _=>?_
 exact Ce rfl (Xan (n:=z.natAbs) h)<|R1 rfl (.eq (by rw[Xrb]))
theorem Sign_ok{z:Int}(h:(dig z.natAbs).length<=1099511627776): C0 116 [.d (dz z)] (·=.d (.int .i64 (Xa9 z 0))):=by
 refine En Tryz.func116 λ_ _ _=>?_
 refine Ce rfl (Norm_ok h)<|By rfl (λh=>?_) λh=>?_<;>simp only[lw] at h
 have:=Xtu.1 (W0m (by omega:(dig z.natAbs).length=0))
 exact R1 rfl (.eq (by rw[show z=0 by omega];rfl))
 have j:z≠0:=λe=>h (by rw[e];simp[Xap])
 refine By rfl (λi=>?_) λi=>?_
 exact R1 rfl (.eq (by rw[Xa9,if_pos i]))
 exact R1 rfl (.eq (by rw[Xa9,if_neg i,if_pos (by omega)]))
theorem Xce{x y:Nat}(hx:(dig x).length<=1099511627776): C0 288 [.d (ws (dig x)),.d (ws (dig y))] (·=.d (.int .i64 (Xa9 x y))):=by
 refine En Tryz.func288 λ_ _ _=>?_
 refine By rfl (λh=>?_) λh=>?_<;>simp only[lw] at h
 refine By rfl (λM=>?_) λM=>?_<;>simp only[lw] at M
 have:=Xdy (m:=x) (n:=y) (by omega)
 exact R1 rfl (.eq (by rw[Xa9,if_pos (by omega)]))
 have:=Xdy (m:=y) (n:=x) (by omega)
 exact R1 rfl (.eq (by rw[Xa9,if_neg (by omega),if_pos (by omega)]))
 refine Ar ((dig x).length-1:Int) rfl ?_ (wr (by simp only[lw]) (by simp only[inK];omega))
 refine Lo (λ(k:Nat)=>[(0,.d (ws (dig x))),(1,.d (ws (dig y))),(5,.d (.int .i64 ((k:Int)-1)))]) (λ_=>[]) (λk=>k<=(dig x).length/\(dig x).drop k=(dig y).drop k) (λk=>k) (dig x).length [] rfl ⟨by omega,by rw[W2v (by omega),W2v (by omega)]⟩ λk ⟨hk,hd⟩=>?_
 refine By rfl (λM=>?_) λM=>?_
 obtain⟨u,j⟩:=xat (l:=dig x) (k:=k-1) (by omega)
 obtain⟨v,o⟩:=xat (l:=dig y) (k:=k-1) (by omega)
 have I:(dig x).drop (k-1+1)=(dig y).drop (k-1+1):=by rw[show k-1+1=k by omega];exact hd
 refine Dw rfl<|Ix (k-1) rfl (mp j)<|Ix (k-1) rfl (mp o)<|By rfl (λV=>?_) λV=>?_
 have:=Xkl (Xaf x) (by omega) (by omega) j o I (by omega)
 rw[Xag,Xag] at this
 exact R1 rfl (.eq (by rw[Xa9,if_pos (by omega)]))
 refine Dw rfl<|Ix (k-1) rfl (mp j)<|Ix (k-1) rfl (mp o)<|By rfl (λZ=>?_) λZ=>?_
 have:=Xkl (Xaf y) (by omega) (by omega) o j I.symm (by omega)
 rw[Xag,Xag] at this
 exact R1 rfl (.eq (by rw[Xa9,if_neg (by omega),if_pos (by omega)]))
 refine Ar ((k-1:Nat)-1:Int) rfl ?_
 refine Bk (k-1) [] rfl ⟨by omega,?_⟩ (by show k-1<k;omega)
 have O:u=v:=by omega
 rw[W3w (l:=dig x) (i:=k-1) (by omega),W3w (l:=dig y) (i:=k-1) (by omega),show k-1+1=k by omega,hd]
 rw[W0e (by omega)] at j o
 injection j with j
 injection o with o
 rw[j,o,O]
 have T:k=0:=by omega
 rw[T,W1i,W1i] at hd
 have U:x=y:=by rw[<-Xag x,hd,Xag]
 exact R1 rfl (.eq (by rw[U,Xa9,if_neg (by omega),if_neg (by omega)]))
end
section
theorem dtk{l:List Nat}{q m k:Nat}(h:k<m): ((l.drop q).take m)[k]?=l[q+k]?:=by rw[W1h,if_pos h,W1t]
theorem Xy5{l:List Nat}{q m:Nat}(h:q+m<=l.length): ((l.drop q).take m).length=m:=by rw[W0k,W1u];omega
theorem Xh1{q n:Nat}{l:List Nat}(O:Xav l)(hq:q+n<=l.length)(T:n<=1099511627776): CN0 205 [.own 1000001 1 q n] [(1000001,.arr 1 (l.map wd))] λv=>∃k,k<=n/\v=.own 1000001 1 q k/\(l.drop q).take k=dig (val ((l.drop q).take n)):=by
 refine EnW Tryz.func205 λ_ _ _ _=>?_
 refine Lo (λk=>[(0,.own 1000001 1 q k)]) (λ_=>[(1000001,.arr 1 (l.map wd))]) (λk=>k<=n/\val ((l.drop q).take k)=val ((l.drop q).take n)) id n [] rfl ⟨W0a _,rfl⟩ λk ⟨I,i⟩=>?_
 have j:=(O.drop q).take k
 refine By rfl (λh=>?_) λh=>?_
 obtain⟨u,o⟩:=xat (l:=l) (k:=q+(k-1)) (by omega)
 have M:=Xac (l:=l.drop q) (k:=k-1) (x:=u) (by rw[W1t];exact o)
 rw[show k-1+1=k by omega,i] at M
 refine Ar (k-1:Nat) rfl ?_
 refine El (k-1) rfl (by omega) ?_
 refine Ld (wd u) rfl (mp o) ?_
 refine By rfl (λh0=>?_) λh0=>?_
 refine Ar (k-1:Nat) rfl ?_
 refine Sw 0 (k-1) rfl (by omega) (by omega) ?_
 exact Bk (k-1) [] rfl ⟨by omega,by rw[M,show u=0 by omega,W3l,W2e]⟩ (by omega:k-1<k)
 exact Rw [] [(1000001,.arr 1 (l.map wd))] rfl (.one (.rf rfl) rfl rfl) ⟨rfl,k,I,rfl,by rw[<-i,Xe5 j (.inr ⟨u,by rw[Xy5 (by omega),dtk (by omega)];exact o,λe=>h0 (by rw[e];rfl)⟩)]⟩
 refine Rw [] [(1000001,.arr 1 (l.map wd))] rfl (.one (.rf rfl) rfl rfl) ⟨rfl,k,I,rfl,?_⟩
 rw[show k=0 by omega] at i |-
 rw[<-i,W5k,val,Xap]
theorem Xp9{x y q m:Nat}{l:List Nat}(hq:q+m<=l.length)(V:(l.drop q).take m=dig x)(hx:(dig x).length<=1099511627776): CN0 288 [.own 1000001 1 q m,.d (ws (dig y))] [(1000001,.arr 1 (l.map wd))] (·=.d (.int .i64 (Xa9 x y))):=by
 have hm:(dig x).length=m:=by rw[<-V,Xy5 hq]
 rw[hm] at hx
 have Z:∀ {k u:Nat},(dig x)[k]?=some u->k<m->l[q+k]?=some u:=λh hk=>by rw[<-V,dtk hk] at h;exact h
 refine EnW Tryz.func288 λ_ _ _ _=>?_
 refine By rfl (λh=>?_) λh=>?_<;>simp only[lw] at h
 refine By rfl (λM=>?_) λM=>?_<;>simp only[lw] at M
 have:=Xdy (m:=x) (n:=y) (by omega)
 exact Rw [] [(1000001,.arr 1 (l.map wd))] rfl (.one (.rf rfl) rfl rfl) ⟨rfl,congrArg AV.d (congrArg (D.int .i64) (by rw[Xa9,if_pos (by omega)]))⟩
 have:=Xdy (m:=y) (n:=x) (by omega)
 exact Rw [] [(1000001,.arr 1 (l.map wd))] rfl (.one (.rf rfl) rfl rfl) ⟨rfl,congrArg AV.d (congrArg (D.int .i64) (by rw[Xa9,if_neg (by omega),if_pos (by omega)]))⟩
 refine Ar (m-1:Int) rfl ?_
 refine Lo (λ(k:Nat)=>[(0,.own 1000001 1 q m),(1,.d (ws (dig y))),(5,.d (.int .i64 ((k:Int)-1)))]) (λ_=>[(1000001,.arr 1 (l.map wd))]) (λk=>k<=m/\(dig x).drop k=(dig y).drop k) (λk=>k) m [] rfl ⟨by omega,by rw[W2v (by omega),W2v (by omega)]⟩ λk ⟨hk,hd⟩=>?_
 refine By rfl (λM=>?_) λM=>?_
 obtain⟨u,j⟩:=xat (l:=dig x) (k:=k-1) (by omega)
 obtain⟨v,o⟩:=xat (l:=dig y) (k:=k-1) (by omega)
 have I:(dig x).drop (k-1+1)=(dig y).drop (k-1+1):=by rw[show k-1+1=k by omega];exact hd
 refine Dw rfl<|El (k-1) rfl (by omega) ?_
 refine Ld (wd u) rfl (mp (Z j (by omega))) ?_
 refine Ix (k-1) rfl (mp o)<|By rfl (λh2=>?_) λh2=>?_
 have:=Xkl (Xaf x) (by omega) (by omega) j o I (by omega)
 rw[Xag,Xag] at this
 exact Rw [] [(1000001,.arr 1 (l.map wd))] rfl (.one (.rf rfl) rfl rfl) ⟨rfl,congrArg AV.d (congrArg (D.int .i64) (by rw[Xa9,if_pos (by omega)]))⟩
 refine Dw rfl<|El (k-1) rfl (by omega) ?_
 refine Ld (wd u) rfl (mp (Z j (by omega))) ?_
 refine Ix (k-1) rfl (mp o)<|By rfl (λh3=>?_) λh3=>?_
 have:=Xkl (Xaf y) (by omega) (by omega) o j I.symm (by omega)
 rw[Xag,Xag] at this
 exact Rw [] [(1000001,.arr 1 (l.map wd))] rfl (.one (.rf rfl) rfl rfl) ⟨rfl,congrArg AV.d (congrArg (D.int .i64) (by rw[Xa9,if_neg (by omega),if_pos (by omega)]))⟩
 refine Ar ((k-1:Nat)-1:Int) rfl ?_
 refine Bk (k-1) [] rfl ⟨by omega,?_⟩ (by show k-1<k;omega)
 have O:u=v:=by omega
 rw[W3w (l:=dig x) (i:=k-1) (by omega),W3w (l:=dig y) (i:=k-1) (by omega),show k-1+1=k by omega,hd]
 rw[W0e (by omega)] at j o
 injection j with j
 injection o with o
 rw[j,o,O]
 have T:k=0:=by omega
 rw[T,W1i,W1i] at hd
 have U:x=y:=by rw[<-Xag x,hd,Xag]
 exact Rw [] [(1000001,.arr 1 (l.map wd))] rfl (.one (.rf rfl) rfl rfl) ⟨rfl,congrArg AV.d (congrArg (D.int .i64) (by rw[U,Xa9,if_neg (by omega),if_neg (by omega)]))⟩
theorem Xwk{x y q m:Nat}{l:List Nat}(hq:q+m<=l.length)(hl:(l.drop q).take m=dig x)(hx:(dig x).length<=1099511627776)(T:y<=x): CN0 289 [.own 1000001 1 q m,.d (ws (dig y))] [(1000001,.arr 1 (l.map wd))] (·=.d (ws (dig (x-y)))):=by
 have hm:(dig x).length=m:=by rw[<-hl,Xy5 hq]
 have hg:∀ {k u:Nat},(dig x)[k]?=some u->k<m->l[q+k]?=some u:=λh hk=>by rw[<-hl,dtk hk] at h;exact h
 rw[hm] at hx
 have hll:=Xau T
 refine EnW Tryz.func289 λ_ _ _ _=>?_
 refine Mk m rfl (by omega) ?_
 refine Lo (λ(k,lo,i)=>[(0,.own 1000001 1 q m),(1,.d (ws (dig y))),(5,.own 12 1 0 m),(6,.d (.int .u64 (i:Nat))),(7,.d (.int .i64 (k:Nat)))]) (λ(_,lo,_)=>[(12,.arr 1 (lo.map wd)),(1000001,.arr 1 (l.map wd))])
  (λ(k,lo,i)=>k<=m/\lo.length=m/\Xav lo/\i<=1/\val (lo.take k)+val ((dig y).take k)=val ((dig x).take k)+4294967296^k*i) (λ(k,_,_)=>m-k) (0,List.replicate m 0,0) [] rfl
  ⟨by omega,by simp,Xf4 _,by omega,by simp[val]⟩ ?_ (by exact⟨rfl,by simp only[W2i];rfl,rfl,rfl,rfl⟩)
 rintro⟨k,lo,i⟩ ⟨hk,o,U,hbr,j⟩
 refine By rfl (λh=>?_) λh=>?_
 obtain⟨u,V⟩:=xat (l:=dig x) (k:=k) (by omega)
 have hub:=ww V (Xaf x)
 refine Cu none (λ(v:Nat)=>[(0,.own 1000001 1 q m),(1,.d (ws (dig y))),(5,.own 12 1 0 m),(6,.d (.int .u64 i)),(7,.d (.int .i64 k)),(8,.d (.int .u64 v))]) (λ_=>[(12,.arr 1 (lo.map wd)),(1000001,.arr 1 (l.map wd))])
  (λv=>v<4294967296/\val ((dig y).take (k+1))=val ((dig y).take k)+4294967296^k*v) rfl ?_ λv ⟨hv,Z⟩=>?_
 refine By rfl (λh2=>?_) λh2=>?_<;>simp only[lw] at h2
 obtain⟨u2,I⟩:=xat (l:=dig y) (k:=k) (by omega)
 have M:=ww I (Xaf y)
 refine Ix k rfl (mp I)<|Go.Vm.Cv u2 rfl ?_
 exact Jn u2 [] rfl ⟨M,Xac I⟩
 exact Jn 0 [] rfl ⟨by omega,by rw[Xg5 (by omega)];rfl⟩
 obtain⟨s,hs⟩:∃s,s=u+4294967296-v-i:=⟨_,rfl⟩
 refine El k rfl (by omega) ?_
 refine Ld (wd u) rfl (mp (hg V (by omega))) ?_
 refine Go.Vm.Cv u rfl ?_
 refine Ar (u+4294967296:Nat) rfl ?_
 refine Ar (u+4294967296-v:Nat) rfl ?_
 refine Ar s rfl ?_
 refine Go.Vm.Cv (s%4294967296:Nat) rfl ?_ (by rw[wWm];omega)
 refine Eo k rfl (by omega)<|Sto rfl (by simp only[lw];omega) ms ?_
 refine Ar (s/4294967296:Nat) rfl ?_ (Xll (n:=32) (by decide))
 refine Ar (1-s/4294967296:Nat) rfl ?_
 refine Ar (k+1:Nat) rfl ?_
 refine Bk (k+1,lo.set k (s%4294967296),1-s/4294967296) [] rfl ⟨by omega,by simp[o],Xhw U (by omega),by omega,?_⟩ (by show m-(k+1)<m-k;omega)
 rw[Xbn (by omega),Z,Xac V,W0z,W0v]
 have e:4294967296^k*(s%4294967296+v+i)=4294967296^k*(u+4294967296*(1-s/4294967296)):=by congr 1;omega
 simp only[W1d] at e
 omega
 have hkn:k=m:=by omega
 rw[hkn,W0b (by omega),W0b (by omega),W0b (by omega),Xag,Xag] at j
 have hvl:=Xci U
 rw[o] at hvl
 have O:i=0:=by
  rcases W2t i with h0 | h0
  exact h0
  have h1:4294967296^m*1<=4294967296^m*i:=W0u _ h0
  omega
 rw[O,W3l] at j
 refine Fz 12 5 (lo.map wd) rfl (by simp only[lw];omega) (oa o) ?_
 exact Ce rfl (Xbb U (by omega))<|Rw [] [(1000001,.arr 1 (l.map wd))] rfl (.one (.rf rfl) rfl rfl) ⟨rfl,by rw[show val lo=x-y by omega]⟩
theorem Xec{x y:Nat}(hx:(dig x).length<=1099511627776)(T:y<=x): C0 289 [.d (ws (dig x)),.d (ws (dig y))] (·=.d (ws (dig (x-y)))):=by
 obtain⟨m,hm⟩:∃m,(dig x).length=m:=⟨_,rfl⟩
 rw[hm] at hx
 have hll:=Xau T
 refine En Tryz.func289 λ_ _ _=>?_
 refine Mk m rfl (by simp only[lw];omega) ?_ (by simp only[lw,hm])
 refine Lo (λ(k,lo,i)=>[(0,.d (ws (dig x))),(1,.d (ws (dig y))),(5,.own 12 1 0 m),(6,.d (.int .u64 (i:Nat))),(7,.d (.int .i64 (k:Nat)))]) (λ(_,lo,_)=>[(12,.arr 1 (lo.map wd))])
  (λ(k,lo,i)=>k<=m/\lo.length=m/\Xav lo/\i<=1/\val (lo.take k)+val ((dig y).take k)=val ((dig x).take k)+4294967296^k*i) (λ(k,_,_)=>m-k) (0,List.replicate m 0,0) [] rfl
  ⟨by omega,by simp,Xf4 _,by omega,by simp[val]⟩ ?_ (by exact⟨rfl,by simp only[W2i];rfl,rfl,rfl,rfl⟩)
 rintro⟨k,lo,i⟩ ⟨hk,o,U,hbr,j⟩
 refine By rfl (λh=>?_) λh=>?_<;>simp only[lw] at h
 obtain⟨u,V⟩:=xat (l:=dig x) (k:=k) (by omega)
 have hub:=ww V (Xaf x)
 refine Cu none (λ(v:Nat)=>[(0,.d (ws (dig x))),(1,.d (ws (dig y))),(5,.own 12 1 0 m),(6,.d (.int .u64 i)),(7,.d (.int .i64 k)),(8,.d (.int .u64 v))]) (λ_=>[(12,.arr 1 (lo.map wd))])
  (λv=>v<4294967296/\val ((dig y).take (k+1))=val ((dig y).take k)+4294967296^k*v) rfl ?_ λv ⟨hv,Z⟩=>?_
 refine By rfl (λh2=>?_) λh2=>?_<;>simp only[lw] at h2
 obtain⟨u2,I⟩:=xat (l:=dig y) (k:=k) (by omega)
 have M:=ww I (Xaf y)
 refine Ix k rfl (mp I)<|Go.Vm.Cv u2 rfl ?_
 exact Jn u2 [] rfl ⟨M,Xac I⟩
 exact Jn 0 [] rfl ⟨by omega,by rw[Xg5 (by omega)];rfl⟩
 obtain⟨s,hs⟩:∃s,s=u+4294967296-v-i:=⟨_,rfl⟩
 refine Ix k rfl (mp V)<|Go.Vm.Cv u rfl ?_
 refine Ar (u+4294967296:Nat) rfl ?_
 refine Ar (u+4294967296-v:Nat) rfl ?_
 refine Ar s rfl ?_
 refine Go.Vm.Cv (s%4294967296:Nat) rfl ?_ (by rw[wWm];omega)
 refine Eo k rfl (by omega)<|Sto rfl (by simp only[lw];omega) ms ?_
 refine Ar (s/4294967296:Nat) rfl ?_ (Xll (n:=32) (by decide))
 refine Ar (1-s/4294967296:Nat) rfl ?_
 refine Ar (k+1:Nat) rfl ?_
 refine Bk (k+1,lo.set k (s%4294967296),1-s/4294967296) [] rfl ⟨by omega,by simp[o],Xhw U (by omega),by omega,?_⟩ (by show m-(k+1)<m-k;omega)
 rw[Xbn (by omega),Z,Xac V,W0z,W0v]
 have e:4294967296^k*(s%4294967296+v+i)=4294967296^k*(u+4294967296*(1-s/4294967296)):=by congr 1;omega
 simp only[W1d] at e
 omega
 have hkn:k=m:=by omega
 rw[hkn,W0b (by omega),W0b (by omega),W0b (by omega),Xag,Xag] at j
 have hvl:=Xci U
 rw[o] at hvl
 have O:i=0:=by
  rcases W2t i with h0 | h0
  exact h0
  have h1:4294967296^m*1<=4294967296^m*i:=W0u _ h0
  omega
 rw[O,W3l] at j
 refine Fz 12 5 (lo.map wd) rfl (by simp only[lw];omega) (oa o) ?_
 exact Ce rfl (Xbb U (by omega))<|R1 rfl (.eq (by rw[show val lo=x-y by omega]))
end
section
theorem Xi1{x y:Nat}(hx:(dig x).length<=549755813888)(hy:(dig y).length<=549755813888): C0 287 [.d (ws (dig x)),.d (ws (dig y))] (·=.d (ws (dig (x+y)))):=by
 refine En Tryz.func287 λ_ _ _=>?_
 refine Cu none (λ(a,b)=>[(0,.d (ws (dig a))),(1,.d (ws (dig b)))]) (λ_=>[]) (λ(a,b)=>a+b=x+y/\(dig b).length<=(dig a).length/\(dig a).length<=549755813888) rfl ?_ λ⟨a,b⟩ ⟨hs,T,I⟩=>?_
 refine By rfl (λh=>?_) λh=>?_<;>simp only[lw] at h
 exact Jn (y,x) [] rfl ⟨Nat.add_comm _ _,by omega,hy⟩
 exact Jn (x,y) [] rfl ⟨rfl,by omega,hx⟩
 obtain⟨m,hm⟩:∃m,(dig a).length=m:=⟨_,rfl⟩
 rw[hm] at T I
 refine Ar (m+1:Nat) rfl ?_ (wr (by simp only[lw,hm];omega) (by simp only[inK];omega))
 refine Mk (m+1) rfl (by omega) ?_
 refine Lo (λ(k,lo,i)=>[(0,.d (ws (dig a))),(1,.d (ws (dig b))),(5,.own 18 1 0 (m+1)),(6,.d (.int .u64 (i:Nat))),(7,.d (.int .i64 (k:Nat)))]) (λ(_,lo,_)=>[(18,.arr 1 (lo.map wd))])
  (λ(k,lo,i)=>k<=m/\lo.length=m+1/\Xav lo/\i<=1/\val (lo.take k)+4294967296^k*i=val ((dig a).take k)+val ((dig b).take k)) (λ(k,_,_)=>m-k) (0,List.replicate (m+1) 0,0) [] rfl ⟨by omega,by simp,Xf4 _,by omega,by simp[val]⟩ ?_ (by exact⟨rfl,by simp only[W2i];rfl,rfl,rfl,rfl⟩)
 rintro⟨k,lo,i⟩ ⟨hk,hl,hw,hcr,j⟩
 refine By rfl (λh=>?_) λh=>?_<;>simp only[lw] at h
 obtain⟨u,O⟩:=xat (l:=dig a) (k:=k) (by omega)
 have hub:=ww O (Xaf a)
 refine Ix k rfl (mp O)<|Go.Vm.Cv u rfl ?_
 refine Ar (i+u:Nat) rfl ?_
 refine Cu none (λ(s:Nat)=>[(0,.d (ws (dig a))),(1,.d (ws (dig b))),(5,.own 18 1 0 (m+1)),(6,.d (.int .u64 s)),(7,.d (.int .i64 k))]) (λ_=>[(18,.arr 1 (lo.map wd))])
  (λs=>s<8589934592/\4294967296^k*s+val (lo.take k)=val ((dig a).take (k+1))+val ((dig b).take (k+1))) rfl ?_ λs ⟨hs8,U⟩=>?_
 refine By rfl (λh2=>?_) λh2=>?_<;>simp only[lw] at h2
 obtain⟨V,o⟩:=xat (l:=dig b) (k:=k) (by omega)
 have hub2:=ww o (Xaf b)
 refine Ix k rfl (mp o)<|Go.Vm.Cv V rfl ?_
 refine Ar (i+u+V:Nat) rfl ?_
 exact Jn (i+u+V) [] rfl ⟨by omega,by rw[Xac O,Xac o,W1d,W1d];omega⟩
 exact Jn (i+u) [] rfl ⟨by omega,by rw[Xac O,Xg5 (l:=dig b) (by omega),W1d];omega⟩
 refine Go.Vm.Cv (s%4294967296:Nat) rfl ?_ (by rw[wWm];omega)
 refine Eo k rfl (by omega)<|Sto rfl (by simp only[lw];omega) ms ?_
 refine Ar (s/4294967296:Nat) rfl ?_ (Xll (n:=32) (by decide))
 refine Ar (k+1:Nat) rfl ?_
 refine Bk (k+1,lo.set k (s%4294967296),s/4294967296) [] rfl ⟨by omega,by simp[hl],Xhw hw (by omega),by show s/4294967296<=1;omega,?_⟩ (by show m-(k+1)<m-k;omega)
 rw[Xbn (by omega),<-U,W0z,W0v]
 have e2:4294967296^k*s=4294967296^k*(s%4294967296)+4294967296^k*(4294967296*(s/4294967296)):=by rw[<-W1d];congr 1;omega
 omega
 have Z:k=m:=by omega
 subst Z
 rw[W0b (l:=dig a) (by omega),W0b (l:=dig b) (by omega),Xag,Xag,hs] at j
 have M:val (lo.set k i)=x+y:=by
  have:=Xbn (l:=lo) (k:=k) (d:=i) (by omega)
  rw[W0b (by rw[W3c];omega)] at this
  rw[this,j]
 refine Go.Vm.Cv i rfl ?_
 refine Eo k rfl (by omega) ?_ (by simp only[lw];omega)
 refine Sto rfl (by simp only[lw];omega) ms ?_
 refine Fz 14 5 ((lo.set k i).map wd) rfl (by simp only[lw,W3c];omega) (oa (by simp[hl])) ?_
 exact Ce rfl (Xbb (Xhw hw (by omega)) (by simp only[W3c];omega))<|R1 rfl (.eq (by rw[M]))
theorem Xux{X Y:List Nat}(hX:Xav X)(hY:Xav Y)(hx:X.length<=549755813888)(hy:Y.length<=549755813888): C0 286 [.d (ws X),.d (ws Y)] (·=.d (ws (dig (val X*val Y)))):=by
 obtain⟨n,hn⟩:∃n,X.length=n:=⟨_,rfl⟩
 obtain⟨m,hm⟩:∃m,Y.length=m:=⟨_,rfl⟩
 rw[hm] at hy
 rw[hn] at hx
 refine En Tryz.func286 λ_ _ _=>?_
 refine Ar (n+m:Nat) rfl ?_ (wr (by simp only[lw];omega) (by simp only[inK];omega))
 refine Mk (n+m) rfl (by omega) ?_
 refine Lo (λ(i,lo)=>[(0,.d (ws X)),(1,.d (ws Y)),(5,.own 14 1 0 (n+m)),(6,.d (.int .i64 (i:Nat)))]) (λ(_,lo)=>[(14,.arr 1 (lo.map wd))])
  (λ(i,lo)=>i<=n/\lo.length=n+m/\Xav lo/\val (lo.take (i+m))=val (X.take i)*val Y/\∀j,i+m<=j->j<n+m->lo[j]?=some 0) (λ(i,_)=>n-i)
  (0,List.replicate (n+m) 0) [] rfl ⟨by omega,by simp,Xf4 _,by rw[W5u,Xb3];simp[val],λj _ h=>by rw[W4l,if_pos h]⟩ ?_ (by exact⟨rfl,by simp only[W2i];rfl,rfl,rfl,rfl⟩)
 rintro⟨i,I⟩ ⟨hi,V,Z,M,hz0⟩
 refine By rfl (λh=>?_) λh=>?_<;>simp only[lw] at h
 obtain⟨u,hu⟩:=xat (l:=X) (k:=i) (by omega)
 have hub:=ww hu (hX)
 refine Lo (λ(k,lo,O)=>[(0,.d (ws X)),(1,.d (ws Y)),(5,.own 14 1 0 (n+m)),(6,.d (.int .i64 i)),(7,.d (.int .u64 (O:Nat))),(8,.d (.int .i64 (k:Nat)))]) (λ(_,lo,_)=>[(14,.arr 1 (lo.map wd))])
  (λ(k,lo,O)=>k<=m/\lo.length=n+m/\Xav lo/\O<4294967296/\(∀j,i+k<=j->lo[j]?=I[j]?)/\val (lo.take (i+k))+4294967296^(i+k)*O=val (I.take (i+k))+4294967296^i*(u*val (Y.take k))) (λ(k,_,_)=>m-k)
  (0,I,0) [] rfl ⟨by omega,V,Z,by omega,λ_ _=>rfl,by simp[val]⟩ ?_
 rintro⟨k,lo,O⟩ ⟨hk,hl1,hw,hcr,o,T⟩
 refine By rfl (λh=>?_) λh=>?_<;>simp only[lw] at h
 obtain⟨v,hv⟩:=xat (l:=Y) (k:=k) (by omega)
 have hvb:=ww hv (hY)
 obtain⟨w,U⟩:=xat (l:=lo) (k:=i+k) (by omega)
 have hwb:=ww U hw
 have huv:u*v<=4294967295*4294967295:=W2b (by omega) (by omega)
 obtain⟨s,hs⟩:∃s,s=O+w+u*v:=⟨_,rfl⟩
 have hs2:s<18446744073709551616:=by omega
 refine Dw rfl<|Ar (i+k:Nat) rfl ?_
 refine Eo (i+k) rfl (by omega)<|Ld (wd w) rfl (mp U) ?_
 refine Go.Vm.Cv w rfl ?_
 refine Ar (O+w:Nat) rfl ?_
 refine Ix i rfl (mp hu)<|Go.Vm.Cv u rfl ?_
 refine Ix k rfl (mp hv)<|Go.Vm.Cv v rfl ?_
 refine Ar (u*v:Nat) rfl ?_ (wr (W2r ..).symm (by simp only[inK];omega))
 refine Ar (s:Nat) rfl ?_
 refine Ar (i+k:Nat) rfl ?_
 refine Go.Vm.Cv (s%4294967296:Nat) rfl ?_ (by rw[wWm];omega)
 refine Eo (i+k) rfl (by omega)<|Sto rfl (by simp only[lw];omega) ms ?_
 refine Ar (s/4294967296:Nat) rfl ?_ (Xll (n:=32) (by decide))
 refine Ar (k+1:Nat) rfl ?_
 refine Bk (k+1,lo.set (i+k) (s%4294967296),s/4294967296) [] rfl ⟨by omega,by simp[hl1],Xhw hw (by omega),by omega,λj hj=>by rw[W2l (by omega)];exact o j (by omega),?_⟩ (by show _-(k+1)<_-k;omega)
 have hw0':I[i+k]?=some w:=by rw[<-o (i+k) (W0a _)];exact U
 rw[<-W4z,Xbn (by omega),Xac hw0',Xac hv,W0z,W0v,W1d u,W1d (4294967296^i)]
 have e:4294967296^(i+k)*s=4294967296^(i+k)*(s%4294967296)+4294967296^(i+k)*(4294967296*(s/4294967296)):=by rw[<-W1d];congr 1;omega
 have e2:4294967296^(i+k)*s=4294967296^(i+k)*O+4294967296^i*(u*(4294967296^k*v))+4294967296^(i+k)*w:=by
  rw[hs,W1d,W1d,W0x]
  have:4294967296^i*4294967296^k*(u*v)=4294967296^i*(u*(4294967296^k*v)):=by
   rw[W0v,W5d (4294967296^k) u v]
  omega
 omega
 have hkm:k=m:=by omega
 subst hkm
 refine Ar (i+k:Nat) rfl ?_ (wr (by simp only[lw];omega) (by simp only[inK];omega))
 refine Go.Vm.Cv O rfl ?_
 refine Eo (i+k) rfl (by omega)<|Sto rfl (by simp only[lw];omega) ms ?_
 refine Ar (i+1:Nat) rfl ?_
 refine Bk (i+1,lo.set (i+k) O) [] rfl ⟨by omega,by simp[hl1],Xhw hw hcr,?_,λj h1 h2=>by rw[W2l (by omega),o j (by omega)];exact hz0 j (by omega) h2⟩ (by show _-(i+1)<_-i;omega)
 rw[show i+1+k=i+k+1 by omega,Xbn (by omega),Xac hu,T,M,show Y.take k=Y from W0b (by omega),W1f,W0v]
 have him:i=n:=by omega
 rw[him,W0b (by omega),W0b (by omega)] at M
 refine Fz 13 5 (I.map wd) rfl (by simp only[lw];omega) (oa V) ?_
 exact Ce rfl (Xbb Z (by omega))<|R1 rfl (.eq (by rw[M]))
theorem Xle{x y:Nat}(h:(dig x).length<=549755813888)(i:(dig y).length<=549755813888): C0 286 [.d (ws (dig x)),.d (ws (dig y))] (·=.d (ws (dig (x*y)))):=by
 have:=Xux (Xaf x) (Xaf y) h i
 rwa[Xag,Xag] at this
theorem Xuy{x q n:Nat}{l:List Nat}(hq:q+n<=l.length)(hl:(l.drop q).take n=dig x)(hx:(dig x).length<=549755813888): CN0 286 [.own 1000001 1 q n,.own 1000001 1 q n] [(1000001,.arr 1 (l.map wd))] (·=.d (ws (dig (x*x)))):=by
 have hg:∀ {k u:Nat},(dig x)[k]?=some u->k<n->l[q+k]?=some u:=λh hk=>by rw[<-hl,dtk hk] at h;exact h
 have hn:(dig x).length=n:=by rw[<-hl,Xy5 hq]
 rw[hn] at hx
 refine EnW Tryz.func286 λ_ _ _ _=>?_
 refine Ar (n+n:Nat) rfl ?_ (wr (by omega) (by simp only[inK];omega))
 refine Mk (n+n) rfl (by omega) ?_
 refine Lo (λ(i,lo)=>[(0,.own 1000001 1 q n),(1,.own 1000001 1 q n),(5,.own 14 1 0 (n+n)),(6,.d (.int .i64 (i:Nat)))]) (λ(_,lo)=>[(14,.arr 1 (lo.map wd)),(1000001,.arr 1 (l.map wd))])
  (λ(i,lo)=>i<=n/\lo.length=n+n/\Xav lo/\val (lo.take (i+n))=val ((dig x).take i)*x/\∀j,i+n<=j->j<n+n->lo[j]?=some 0) (λ(i,_)=>n-i)
  (0,List.replicate (n+n) 0) [] rfl ⟨by omega,by simp,Xf4 _,by rw[W5u,Xb3];simp[val],λj _ h=>by rw[W4l,if_pos h]⟩ ?_ (by exact⟨rfl,by simp only[W2i];rfl,rfl,rfl,rfl⟩)
 rintro⟨i,I⟩ ⟨hi,V,Z,M,hz0⟩
 refine By rfl (λh=>?_) λh=>?_
 obtain⟨u,hu⟩:=xat (l:=dig x) (k:=i) (by omega)
 have hub:=ww hu (Xaf x)
 refine Lo (λ(k,lo,O)=>[(0,.own 1000001 1 q n),(1,.own 1000001 1 q n),(5,.own 14 1 0 (n+n)),(6,.d (.int .i64 i)),(7,.d (.int .u64 (O:Nat))),(8,.d (.int .i64 (k:Nat)))]) (λ(_,lo,_)=>[(14,.arr 1 (lo.map wd)),(1000001,.arr 1 (l.map wd))])
  (λ(k,lo,O)=>k<=n/\lo.length=n+n/\Xav lo/\O<4294967296/\(∀j,i+k<=j->lo[j]?=I[j]?)/\val (lo.take (i+k))+4294967296^(i+k)*O=val (I.take (i+k))+4294967296^i*(u*val ((dig x).take k))) (λ(k,_,_)=>n-k)
  (0,I,0) [] rfl ⟨by omega,V,Z,by omega,λ_ _=>rfl,by simp[val]⟩ ?_
 rintro⟨k,lo,O⟩ ⟨hk,hl1,hw,hcr,o,T⟩
 refine By rfl (λh=>?_) λh=>?_
 obtain⟨v,hv⟩:=xat (l:=dig x) (k:=k) (by omega)
 have hvb:=ww hv (Xaf x)
 obtain⟨w,U⟩:=xat (l:=lo) (k:=i+k) (by omega)
 have hwb:=ww U hw
 have huv:u*v<=4294967295*4294967295:=W2b (by omega) (by omega)
 obtain⟨s,hs⟩:∃s,s=O+w+u*v:=⟨_,rfl⟩
 have hs2:s<18446744073709551616:=by omega
 refine Dw rfl<|Ar (i+k:Nat) rfl ?_
 refine Eo (i+k) rfl (by omega)<|Ld (wd w) rfl (mp U) ?_
 refine Go.Vm.Cv w rfl ?_
 refine Ar (O+w:Nat) rfl ?_
 refine El i rfl (by omega) ?_
 refine Ld (wd u) rfl (mp (hg hu (by omega))) ?_
 refine Go.Vm.Cv u rfl ?_
 refine El k rfl (by omega) ?_
 refine Ld (wd v) rfl (mp (hg hv (by omega))) ?_
 refine Go.Vm.Cv v rfl ?_
 refine Ar (u*v:Nat) rfl ?_ (wr (W2r ..).symm (by simp only[inK];omega))
 refine Ar (s:Nat) rfl ?_
 refine Ar (i+k:Nat) rfl ?_
 refine Go.Vm.Cv (s%4294967296:Nat) rfl ?_ (by rw[wWm];omega)
 refine Eo (i+k) rfl (by omega)<|Sto rfl (by simp only[lw];omega) ms ?_
 refine Ar (s/4294967296:Nat) rfl ?_ (Xll (n:=32) (by decide))
 refine Ar (k+1:Nat) rfl ?_
 refine Bk (k+1,lo.set (i+k) (s%4294967296),s/4294967296) [] rfl ⟨by omega,by simp[hl1],Xhw hw (by omega),by omega,λj hj=>by rw[W2l (by omega)];exact o j (by omega),?_⟩ (by show _-(k+1)<_-k;omega)
 have hw0':I[i+k]?=some w:=by rw[<-o (i+k) (W0a _)];exact U
 rw[<-W4z,Xbn (by omega),Xac hw0',Xac hv,W0z,W0v,W1d u,W1d (4294967296^i)]
 have e:4294967296^(i+k)*s=4294967296^(i+k)*(s%4294967296)+4294967296^(i+k)*(4294967296*(s/4294967296)):=by rw[<-W1d];congr 1;omega
 have e2:4294967296^(i+k)*s=4294967296^(i+k)*O+4294967296^i*(u*(4294967296^k*v))+4294967296^(i+k)*w:=by
  rw[hs,W1d,W1d,W0x]
  have:4294967296^i*4294967296^k*(u*v)=4294967296^i*(u*(4294967296^k*v)):=by
   rw[W0v,W5d (4294967296^k) u v]
  omega
 omega
 have hkm:k=n:=by omega
 subst hkm
 refine Ar (i+k:Nat) rfl ?_ (wr (by omega) (by simp only[inK];omega))
 refine Go.Vm.Cv O rfl ?_
 refine Eo (i+k) rfl (by omega)<|Sto rfl (by simp only[lw];omega) ms ?_
 refine Ar (i+1:Nat) rfl ?_
 refine Bk (i+1,lo.set (i+k) O) [] rfl ⟨by omega,by simp[hl1],Xhw hw hcr,?_,λj h1 h2=>by rw[W2l (by omega),o j (by omega)];exact hz0 j (by omega) h2⟩ (by show _-(i+1)<_-i;omega)
 rw[show i+1+k=i+k+1 by omega,Xbn (by omega),Xac hu,T,M,show (dig x).take k=dig x from W0b (by omega),Xag,W1f,W0v]
 have him:i=n:=by omega
 rw[him,W0b (by omega),W0b (by omega),Xag] at M
 refine Fz 13 5 (I.map wd) rfl (by simp only[lw];omega) (oa V) ?_
 exact Ce rfl (Xbb Z (by omega))<|Rw [] [(1000001,.arr 1 (l.map wd))] rfl (.one (.rf rfl) rfl rfl) ⟨rfl,by rw[M]⟩
end
section
theorem Neg_ok{z:Int}(h:(dig z.natAbs).length<=1099511627776): C0 117 [.d (dz z)] (·=.d (dz (-z))):=by
 refine En Tryz.func117 λ_ _ _=>?_
 exact Ce rfl (Xan h)<|R1 rfl (.eq (by rw[Ycs]))
theorem Add_ok{a b:Int}(ha:(dig a.natAbs).length<=549755813888)(hb:(dig b.natAbs).length<=549755813888): C0 203 [.d (dz a),.d (dz b)] (·=.d (dz (a+b))):=by
 refine En Tryz.func203 λ_ _ _=>?_
 refine Dw rfl<|Ce rfl (Norm_ok (by omega))<|Ce rfl (Norm_ok (by omega))<|By rfl (λh=>?_) λh=>?_<;>rw[Ypt] at h
 exact Dw rfl<|Ce rfl (Xi1 ha hb)<|Ce rfl (Xan (W0j (Xhe ..) (by omega)))<|R1 rfl (.eq (by rw[Ycu h]))
 refine Ce rfl (Xce (by omega))<|By rfl (λj=>?_) λj=>?_
 have i:=Ypl.1 (by omega:¬Xa9 (a.natAbs:Int) (b.natAbs:Int)<0)
 exact Dw rfl<|Ce rfl (Xec (by omega) i)<|Ce rfl (Xan (W0j (Xau (Nat.sub_le ..)) (by omega)))<|R1 rfl (.eq (by rw[Xra h i]))
 have i:=W2k (Ybh.1 (by omega:Xa9 (a.natAbs:Int) (b.natAbs:Int)<0))
 exact Dw rfl<|Ce rfl (Xec (by omega) i)<|Ce rfl (Xan (W0j (Xau (Nat.sub_le ..)) (by omega)))<|R1 rfl (.eq (by rw[Xra (λe=>h e.symm) i,Int.add_comm]))
theorem Sub_ok{a b:Int}(ha:(dig a.natAbs).length<=549755813888)(hb:(dig b.natAbs).length<=549755813888): C0 285 [.d (dz a),.d (dz b)] (·=.d (dz (a-b))):=by
 refine En Tryz.func285 λ_ _ _=>?_
 exact Dw rfl<|Ce rfl (Neg_ok (by omega))<|Ce rfl (Add_ok ha (by rw[W5l];exact hb))<|R0
theorem Mul_ok{a b:Int}(ha:(dig a.natAbs).length<=549755813888)(hb:(dig b.natAbs).length<=549755813888): C0 202 [.d (dz a),.d (dz b)] (·=.d (dz (a*b))):=by
 refine En Tryz.func202 λ_ _ _=>?_
 exact Dw rfl<|Ce rfl (Norm_ok (by omega))<|Ce rfl (Norm_ok (by omega))<|Dw rfl<|Ce rfl (Xle ha hb)<|Ce rfl (Xan (W0j (Xl6 ..) (by omega)))<|R1 rfl (.eq (by rw[Yec,Yct]))
theorem Xx5(a b:Int): Xa9 (a-b) 0=Xa9 a b:=by
 unfold Xa9;split<;>split<;>(try split)<;>(try split)<;>omega
theorem Cmp_ok{a b:Int}(ha:(dig a.natAbs).length<=549755813888)(hb:(dig b.natAbs).length<=549755813888): C0 201 [.d (dz a),.d (dz b)] (·=.d (.int .i64 (Xa9 a b))):=by
 have i:=Xhe a.natAbs b.natAbs
 have h:=Xau (by omega:(a-b).natAbs<=a.natAbs+b.natAbs)
 refine En Tryz.func201 λ_ _ _=>?_
 exact Ce rfl (Sub_ok ha hb)<|Ce rfl (Sign_ok (by omega))<|R1 rfl (.eq (by rw[Xx5]))
theorem Ypo{x y:Nat}(hx:(dig x).length<=549755813888)(hy:y<4294967296)(Z:y≠0): C0 291 [.d (ws (dig x)),.d (.int .u32 y)] (·=.tup (.pr (.d (ws (dig (x/y)))) (.d (.int .u32 (x%y:Nat))))):=by
 refine En Tryz.func291 λ_ _ _=>?_
 refine Mk (dig x).length rfl (by simp only[lw];omega) ?_ (by simp only[lw])
 refine Ar ((dig x).length-1:Int) rfl ?_ (wr (by simp only[lw]) (by simp only[inK];omega))
 refine Lo (λ(k,lo,r)=>[(0,.d (ws (dig x))),(1,.d (.int .u32 y)),(6,.own 11 1 0 (dig x).length),(7,.d (.int .u64 (r:Nat))),(8,.d (.int .i64 ((k:Nat)-1:Int)))]) (λ(_,lo,_)=>[(11,.arr 1 (lo.map wd))])
  (λ(k,lo,r)=>k<=(dig x).length/\lo.length=(dig x).length/\Xav lo/\r<y/\val (lo.drop k)*y+r=val ((dig x).drop k)) (λ(k,_,_)=>k) ((dig x).length,List.replicate (dig x).length 0,0) [] rfl
  ⟨by omega,by simp,Xf4 _,by omega,by rw[W2v (by simp),W2v (by omega)];simp[val]⟩ ?_ (by exact⟨rfl,by simp only[W2i];rfl,rfl,rfl,rfl⟩)
 rintro⟨k,lo,r⟩ ⟨hk,U,o,V,i⟩
 refine By rfl (λh=>?_) λh=>?_
 obtain⟨u,M⟩:=xat (l:=dig x) (k:=k-1) (by omega)
 have hub:=ww M (Xaf x)
 obtain⟨s,hs⟩:∃s,s=r*2^32+u:=⟨_,rfl⟩
 have j:s<18446744073709551616:=by omega
 have I:s/y<4294967296:=by
  rw[W3b (by omega)]
  have:=W0l 4294967296 (by omega:r+1<=y)
  omega
 have O:s%y<y:=W2o _ (by omega)
 have hq0:0<=s/y:=W0r _
 refine Ar (r*2^32:Nat) rfl ?_ (Xit (n:=32) rfl (by omega) (by decide))
 refine Ix (k-1) rfl (mp M)<|Go.Vm.Cv u rfl ?_
 refine Ar s rfl ?_ (Yc9 (by omega) (by omega) (by rw[Xej u r 32 (by omega),<-hs]) j)
 refine Go.Vm.Cv y rfl ?_
 refine Ar (s/y:Nat) rfl ?_ (show _/\_ from⟨by omega,Yez s y j⟩)
 refine Go.Vm.Cv (s/y:Nat) rfl ?_ (wW ⟨W5x _,W7y.2 I⟩)
 refine Eo (k-1) rfl (by omega)<|Sto rfl (by simp only[lw];omega) ms ?_
 refine Go.Vm.Cv y rfl ?_
 refine Ar (s%y:Nat) rfl ?_ (show _/\_ from⟨by omega,Xta s y⟩)
 refine Ar ((k-1:Nat)-1:Int) rfl ?_
 refine Bk (k-1,lo.set (k-1) (s/y),s%y) [] rfl ⟨by omega,by simp[U],Xhw o I,O,?_⟩ (by show k-1<k;omega)
 rw[Xcj M,show k-1+1=k by omega,<-i,drop_set (by omega),val,show k-1+1=k by omega]
 have e:=W2x s y
 rw[W1g] at e
 rw[W1f,W1d,W0v]
 omega
 have T:k=0:=by omega
 subst T
 rw[W1i,W1i,Xag] at i
 have hq:x/y=val lo:=by rw[<-i,W1g,Nat.mul_add_div (by omega),W4o V,W2e]
 have hm:x%y=r:=by rw[<-i,W1g,Nat.mul_add_mod,W5j V]
 refine Fz 9 6 (lo.map wd) rfl (by simp only[lw];omega) (oa U) ?_
 refine Ce rfl (Xbb o (by omega))<|Go.Vm.Cv (x%y:Nat) rfl ?_ (by rw[hm];exact wW (by omega))
 exact RTt rfl (.cons (.eq (by rw[hq])) (.one (.rf rfl) (λ_ _ e=>by cases e) (λ_ _ e=>by cases e)))
theorem Xq7{x:Nat}(O:(dig x).length<=2): C0 290 [.d (ws (dig x))] (·=.d (.int .u64 x)):=by
 refine En Tryz.func290 λ_ _ _=>?_
 refine Ar ((dig x).length-1:Int) rfl ?_ (wr (by simp only[lw]) (by simp only[inK];omega))
 refine Lo (λk=>[(0,.d (ws (dig x))),(3,.d (.int .u64 (val ((dig x).drop k)))),(4,.d (.int .i64 ((k:Nat)-1:Int)))]) (λ_=>[]) (λk=>k<=(dig x).length) (λk=>k) (dig x).length [] rfl (W0a _) (λk T=>?_) (by exact⟨by rw[W2v (W0a _)];rfl,rfl,rfl,rfl,rfl⟩)
 refine By rfl (λh=>?_) λh=>?_
 obtain⟨u,j⟩:=xat (l:=dig x) (k:=k-1) (by omega)
 have I:=ww j (Xaf x)
 have M:val ((dig x).drop k)<4294967296:=by
  have U:=Xci ((Xaf x).drop k)
  have V:4294967296^((dig x).drop k).length<=4294967296^1:=W0o (by decide) (by rw[W1u];omega)
  omega
 have i:=Xcj j
 rw[show k-1+1=k by omega] at i
 obtain⟨s,o⟩:∃s,s=val ((dig x).drop k):=⟨_,rfl⟩
 rw[<-o] at M i
 refine Ar (s*2^32:Nat) rfl ?_ (by rw[<-o];exact Xit (n:=32) rfl (by omega) (by decide))
 refine Ix (k-1) rfl (mp j)<|Go.Vm.Cv u rfl ?_
 refine Ar (val ((dig x).drop (k-1)):Nat) rfl ?_ (Yc9 (by omega) (by omega) (by rw[Xej u s 32 (by omega),i];omega) (by omega))
 refine Ar ((k-1:Nat)-1:Int) rfl ?_
 exact Bk (k-1) [] rfl (by omega:k-1<=_) (by show k-1<k;omega)
 refine R1 rfl (.eq ?_)
 rw[show k=0 by omega,W1i,Xag]
theorem Yhh{x:Nat}(h:x≠0): bl x=bl (x/2)+1:=by
 by_cases i:x/2=0
 have:x=1:=by omega
 subst this
 decide
 exact Xmq (n:=x) (k:=1) i
theorem Xnm{x:Nat}(Z:(dig x).length<=1099511627776)(h0:x≠0): C0 292 [.d (ws (dig x))] λv=>∃t,(dig x)[(dig x).length-1]?=some t/\t≠0/\t<4294967296/\v=.d (.int .i64 (32*((dig x).length-1)+bl t:Nat)):=by
 have T:(dig x).length≠0:=λe=>h0 (Yq5.1 e)
 obtain⟨t,I,o⟩:∃t,(dig x)[(dig x).length-1]?=some t/\t≠0:=by
  rcases Xh2 x with M | M
  exact absurd (Xtu.1 M) h0
  exact M
 have j:=ww I (Xaf x)
 have U:bl t<=32:=by
  obtain⟨V,b2,b3⟩:=Xdh o
  have:2^(bl t-1)<2^32:=W2a V j
  have:=(W3i (by decide:1<2)).1 this
  omega
 refine En Tryz.func292 λ_ _ _=>?_
 refine No rfl (by simp only[lw];omega)<|Ar ((dig x).length-1:Nat) rfl ?_ (wr (by simp only[lw];omega) (by simp only[inK];omega))
 refine Ix ((dig x).length-1) rfl (mp I)<|Lo (λ(k,i)=>[(0,.d (ws (dig x))),(3,.d (.int .i64 (i:Nat))),(4,.d (.int .u32 (k:Nat)))]) (λ_=>[]) (λ(k,i)=>k<4294967296/\bl k+i=bl t) (λ(k,_)=>k) (t,0) [] rfl ⟨j,rfl⟩ ?_
 rintro⟨k,i⟩ ⟨hk,hb⟩
 refine By rfl (λh=>?_) λh=>?_
 have:=Yhh (x:=k) (by omega)
 refine Ar (i+1:Nat) rfl ?_
 refine Ar (k/2:Nat) rfl ?_ (show _/\_ from⟨by decide,by rw[show Int.tdiv (k:Int) 2=((k/2:Nat):Int) from rfl];exact wW (by omega)⟩)
 exact Bk (k/2,i+1) [] rfl ⟨by omega,by omega⟩ (by show k/2<k;omega)
 have O:k=0:=by omega
 subst O
 rw[show bl 0=0 from rfl] at hb
 refine Ar ((dig x).length-1:Nat) rfl ?_ (wr (by simp only[lw];omega) (by simp only[inK];omega))
 refine Ar (32*((dig x).length-1):Nat) rfl ?_
 refine Ar (32*((dig x).length-1)+bl t:Nat) rfl ?_
 exact Rt rfl (.one (.rf rfl) rfl rfl) ⟨t,I,o,j,rfl⟩
theorem Xfc{n x:Nat}(hx:(dig x).length<=549755813888)(I:n<32): CO0 293 [.d (ws (dig x)),.d (.int .i64 n)] λv ob=>∃l,l.length=(dig x).length+1/\Xav l/\val l=x*2^n/\v=.own 1000000 1 0 l.length/\ob=.arr 1 (l.map wd):=by
 have hp:=W0p n
 have hp32:2^n<=2147483648:=by have:2^n<=2^31:=W0o (by decide) (by omega);omega
 refine EnW Tryz.func293 λ_ _ _ _=>?_
 refine Ar ((dig x).length+1:Nat) rfl ?_ (wr (by simp only[lw];omega) (by simp only[inK];omega))
 refine Mk ((dig x).length+1) rfl (by omega) ?_
 refine Lo (λ(i,lo)=>[(0,.d (ws (dig x))),(1,.d (.int .i64 n)),(5,.own 11 1 0 ((dig x).length+1)),(6,.d (.int .i64 (i:Nat)))]) (λ(_,lo)=>[(11,.arr 1 (lo.map wd))])
  (λ(i,lo)=>i<=(dig x).length/\lo.length=(dig x).length+1/\Xav lo/\val (lo.take (i+1))=val ((dig x).take i)*2^n/\∃w,lo[i]?=some w/\w<2^n) (λ(i,_)=>(dig x).length-i) (0,List.replicate ((dig x).length+1) 0) [] rfl
  ⟨by omega,by simp,Xf4 _,by rw[W5u,Xb3];simp[val],0,by simp,hp⟩ ?_ (by exact⟨rfl,by simp only[W2i];rfl,rfl,rfl,rfl⟩)
 rintro⟨i,lo⟩ ⟨hi,Z,M,j,w,hw,hwn⟩
 refine By rfl (λh=>?_) λh=>?_<;>simp only[lw] at h
 obtain⟨u,hu⟩:=xat (l:=dig x) (k:=i) (by omega)
 have O:=ww hu (Xaf x)
 have hs1:=Yco O I
 have o:=Xeb u n (by omega)
 obtain⟨s,V⟩:∃s,s=u*2^n:=⟨_,rfl⟩
 have T:=Xit V.symm (by omega) (by omega:n<=64)
 rw[<-V] at hs1 o
 have hor:w|||s%4294967296=s%4294967296+w:=by rw[Nat.or_comm,o];exact Xej _ _ _ hwn
 have U:s%4294967296+w<4294967296:=by
  rw[o]
  have h1:u%2^(32-n)+1<=2^(32-n):=W2o _ (W0p _)
  have h2:=W0l (2^n) h1
  rw[<-W0x,show 32-n+n=32 by omega,W2m] at h2
  omega
 refine Ix i rfl (mp hu)<|Go.Vm.Cv u rfl ?_
 refine Ar s rfl ?_ T
 refine Eo i rfl (by omega)<|Ld (wd w) rfl (mp hw) ?_
 refine Go.Vm.Cv (s%4294967296:Nat) rfl ?_ (by rw[wWm];omega)
 refine Ar (s%4294967296+w:Nat) rfl ?_ (Ynd (by omega) (by omega) hor U)
 refine Eo i rfl (by omega)<|Sto rfl (by simp only[lw];omega) ms ?_
 refine Ar (i+1:Nat) rfl ?_
 refine Ar (s/4294967296:Nat) rfl ?_ (Xll (n:=32) (by decide))
 refine Go.Vm.Cv (s/4294967296:Nat) rfl ?_
 refine Eo (i+1) rfl (by omega)<|Sto rfl (by simp only[W1k,W3c];omega) ms ?_
 refine Ar (i+1:Nat) rfl ?_
 refine Bk (i+1,(lo.set i (s%4294967296+w)).set (i+1) (s/4294967296)) [] rfl ⟨by omega,by simp[Z],Xhw (Xhw M U) (by omega),?_,s/4294967296,by rw[W2n (by rw[W3c];omega)],?_⟩ (by show _-(i+1)<_-i;omega)
 rw[Xbn (by rw[W3c];omega),Xbn (by omega),Xac hu,W1f,<-j,Xac hw,W0v,<-V,W0z,W1d,W0v]
 have e:4294967296^i*s=4294967296^i*(s%4294967296)+4294967296^i*(4294967296*(s/4294967296)):=by rw[<-W1d];congr 1;omega
 omega
 rw[W3b (by decide),V,W1g]
 exact Nat.mul_lt_mul_of_pos_left O hp
 have him:i=(dig x).length:=by omega
 rw[him,W0b (by omega),W0b (by omega),Xag] at j
 exact Rw [(11,1000000)] [(1000000,.arr 1 (lo.map wd))] rfl (.one (.rf rfl) rfl rfl) ⟨_,rfl,lo,Z,M,j,by rw[Z];rfl,rfl⟩
theorem Xm5{n x:Nat}(i:(dig x).length<=549755813888)(h:n<32): C0 293 [.d (ws (dig x)),.d (.int .i64 n)] λv=>∃l,l.length=(dig x).length+1/\Xav l/\val l=x*2^n/\v=.d (ws l) :=
 CW.data (Xfc i h) rfl λv H' ⟨T,e,l,j,o,I,M,O⟩=>⟨.d (ws l),by rw[M,e,O];exact .one (.own rfl (by simp) (oa rfl)) rfl rfl,l,j,o,I,rfl⟩
theorem Xt0{u v n:Nat}(i:u<4294967296)(j:n<32): (u+v*4294967296)/2^n%4294967296=u/2^n+(v%2^n)*2^(32-n):=by
 have e:v*4294967296=v*2^(32-n)*2^n:=by
  rw[W0v,<-W0x,show 32-n+n=32 by omega]
 rw[e,Nat.add_mul_div_right _ _ (W0p n)]
 have h:=Xeb v (32-n) (by omega)
 rw[show 32-(32-n)=n by omega] at h
 have o:=(Xm4 (v:=v) i j).2
 rw[<-h] at o |-
 generalize v*2^(32-n)=X at *
 generalize u/2^n=A at *
 omega
theorem Yhl{n x:Nat}(hx:(dig x).length<=1099511627776)(o:n<32): C0 295 [.d (ws (dig x)),.d (.int .i64 n)] (·=.d (ws (dig (x/2^n)))):=by
 have hp:=W0p n
 have hp32:2^n<=2147483648:=by have:2^n<=2^31:=W0o (by decide) (by omega);omega
 obtain⟨m,hm⟩:∃m,(dig x).length=m:=⟨_,rfl⟩
 rw[hm] at hx
 have I:=Xag x
 refine En Tryz.func295 λ_ _ _=>?_
 refine Mk m rfl (by simp only[lw];omega) ?_ (by simp only[lw,hm])
 refine Lo (λ(i,lo)=>[(0,.d (ws (dig x))),(1,.d (.int .i64 n)),(5,.own 10 1 0 m),(6,.d (.int .i64 (i:Nat)))]) (λ(_,lo)=>[(10,.arr 1 (lo.map wd))])
  (λ(i,lo)=>i<=m/\lo.length=m/\Xav lo/\val (lo.take i)*2^n+x%2^n=val ((dig x).take i)+4294967296^i*((dig x).getD i 0%2^n)) (λ(i,_)=>m-i) (0,List.replicate m 0) [] rfl
  ⟨by omega,by simp,Xf4 _,by have:=Xih (dig x) n (by omega);rw[I] at this;simp[val,this]⟩ ?_ (by exact⟨rfl,by simp only[W2i];rfl,rfl,rfl,rfl⟩)
 rintro⟨i,lo⟩ ⟨hi,hl,M,j⟩
 refine By rfl (λh=>?_) λh=>?_<;>simp only[lw] at h
 obtain⟨u,Z⟩:=xat (l:=dig x) (k:=i) (by omega)
 have hub:=ww Z (Xaf x)
 have hgu:(dig x).getD i 0=u:=by rw[W2g,Z];rfl
 rw[hgu] at j
 refine Ix i rfl (mp Z)<|Go.Vm.Cv u rfl ?_
 refine Ar (i+1:Nat) rfl ?_
 refine Cu none (λs:Nat=>[(0,.d (ws (dig x))),(1,.d (.int .i64 n)),(5,.own 10 1 0 m),(6,.d (.int .i64 i)),(7,.d (.int .u64 s))]) (λ_=>[(10,.arr 1 (lo.map wd))])
  (λs=>∃v,(dig x).getD (i+1) 0=v/\v<4294967296/\s=u+v*4294967296) rfl ?_ λs ⟨v,O,T,hs⟩=>?_
 refine By rfl (λh2=>?_) λh2=>?_<;>simp only[lw] at h2
 obtain⟨v,O⟩:=xat (l:=dig x) (k:=i+1) (by omega)
 have T:=ww O (Xaf x)
 refine Ar (i+1:Nat) rfl ?_
 refine Ix (i+1) rfl (mp O)<|Go.Vm.Cv v rfl ?_
 refine Ar (v*2^32:Nat) rfl ?_ (Xit (n:=32) rfl (by omega) (by decide))
 refine Ar (u+v*4294967296:Nat) rfl ?_ (Yc9 (by omega) (by omega) (by rw[Nat.or_comm,Xej u v 32 (by omega)];omega) (by omega))
 exact Jn (u+v*4294967296) [] rfl ⟨v,by rw[W2g,O];rfl,T,rfl⟩
 exact Jn u [] rfl ⟨0,by rw[W2g,W1y (by omega)];rfl,by decide,by omega⟩
 have U:=Xt0 (v:=v) hub o
 rw[<-hs] at U
 refine Ar (s/2^n:Nat) rfl ?_ (Xll (by omega:n<=64))
 refine Go.Vm.Cv (s/2^n%4294967296:Nat) rfl ?_ (by rw[wWm];omega)
 refine Eo i rfl (by omega)<|Sto rfl (by simp only[lw];omega) ms ?_
 refine Ar (i+1:Nat) rfl ?_
 refine Bk (i+1,lo.set i (s/2^n%4294967296)) [] rfl ⟨by omega,by simp[hl],Xhw M (by omega),?_⟩ (by show m-(i+1)<m-i;omega)
 rw[Xbn (by omega),Xac Z,O,U]
 exact Xq6 o j
 have him:i=m:=by omega
 rw[him,W0b (by omega),W0b (by omega),W2g,W1y (by omega),I] at j
 have V:val lo=x/2^n:=by
  simp at j
  have:=W2x x (2^n)
  rw[W1g] at this
  exact Nat.eq_of_mul_eq_mul_right hp (by omega)
 refine Fz 9 5 (lo.map wd) rfl (by simp only[lw];omega) (oa hl) ?_
 exact Ce rfl (Xbb M (by omega))<|R1 rfl (.eq (by rw[V]))
end
section
theorem Xxu{q N y V:Nat}{l:List Nat}(hw:Xav l)(hq:q+N<=l.length)(hN:N=(dig y).length+1)(j:y≠0)(hn40:N<=1099511627776)(hV:val ((l.drop q).take N)=V)(O:V<4294967296*y)(hy:(dig y).length<=549755813888):
 CN0 294 [.own 1000001 1 q N,.d (ws (dig y))] [(1000001,.arr 1 (l.map wd))] (·=.tup (.pr (.d (.int .u32 (V/y:Nat))) (.d (ws (dig (y*(V/y))))))):=by
 obtain⟨n,hn⟩:∃n,n=(dig y).length:=⟨_,rfl⟩
 rw[<-hn] at hN hy
 have hn0:n≠0:=λe=>j (Yq5.1 (by omega))
 obtain⟨t,ht,ht0⟩:∃t,(dig y)[n-1]?=some t/\t≠0:=by
  rcases Xh2 y with T | T
  exact absurd (Xtu.1 T) j
  rw[<-hn] at T;exact T
 have htb:=ww ht (Xaf y)
 obtain⟨U,Z⟩:=xat (l:=l) (k:=q+n) (by omega)
 obtain⟨u1,hu1⟩:=xat (l:=l) (k:=q+(n-1)) (by omega)
 have hub0:=ww Z hw
 have hub1:=ww hu1 hw
 have hqB:V/y<4294967296:=by rw[W3b (W2q j)];exact O
 have hq00:=W0r (V/y)
 obtain⟨i,I⟩:∃i,i=U*2^32+u1:=⟨_,rfl⟩
 have o:i<18446744073709551616:=by omega
 have hest:V/y<=i/t:=by
  have e1:=Xch hu1
  rw[show n-1+1=n by omega] at e1
  have e2:=Xch Z
  rw[<-hN,hV,e1] at e2
  have e3:=Xac ht
  rw[show n-1+1=(dig y).length by omega,W2u,Xag] at e3
  have hlow:=Xci ((hw.drop q).take (n-1))
  rw[Xy5 (by omega)] at hlow
  have hM:4294967296^n=4294967296^(n-1)*4294967296:=by rw[<-W0z];congr 1;omega
  rw[hM] at e2
  generalize 4294967296^(n-1)=M at *
  generalize val ((l.drop q).take (n-1))=low at *
  generalize val ((dig y).take (n-1))=vlow at *
  have T:V<M*(i+1):=by
   have:M*(U*2^32+u1+1)=M*u1+M*4294967296*U+M:=by grind
   rw[I];omega
  have h2:M*t<=y:=by omega
  have hM0:0<M:=by omega
  have h3:V/y<=V/(M*t):=Nat.div_le_div_left h2 (W1p hM0 (W2q ht0))
  refine W0j h3 ?_
  rw[<-Nat.div_div_eq_div_mul]
  refine Nat.div_le_div_right ?_
  have:=(W3b hM0).2 (by rw[W1g];exact T)
  omega
 refine EnW Tryz.func294 λ_ _ _ _=>?_
 refine Dw rfl<|El n rfl (by omega) ?_ (by simp only[lw];omega)
 refine Ld (wd U) rfl (mp Z) ?_
 refine Go.Vm.Cv U rfl ?_
 refine Ar (U*2^32:Nat) rfl ?_ (Xit (n:=32) rfl (by omega) (by decide))
 refine Ar (n-1:Nat) rfl ?_ (wr (by simp only[lw];omega) (by simp only[inK];omega))
 refine El (n-1) rfl (by omega) ?_
 refine Ld (wd u1) rfl (mp hu1) ?_
 refine Go.Vm.Cv u1 rfl ?_
 refine Ar i rfl ?_ (Yc9 (by omega) (by omega) (by rw[Xej u1 U 32 (by omega),I]) o)
 refine Ar (n-1:Nat) rfl ?_ (wr (by simp only[lw];omega) (by simp only[inK];omega))
 refine Ix (n-1) rfl (mp ht)<|Go.Vm.Cv t rfl ?_
 have htt0:=W0r (i/t)
 have htt1:=W3n i t
 refine Ar (i/t:Nat) rfl ?_ (show _/\_ from⟨by omega,Yez i t o⟩)
 refine Cu none (λg:Nat=>[(0,.own 1000001 1 q N),(1,.d (ws (dig y))),(7,.d (.int .u64 g))]) (λ_=>[(1000001,.arr 1 (l.map wd))]) (λg=>V/y<=g/\g<4294967296) rfl ?_ λg0 ⟨hg0,hgB⟩=>?_
 refine By rfl (λh=>?_) λh=>?_
 exact Jn 4294967295 [] rfl ⟨by omega,by decide⟩
 exact Jn (i/t) [] rfl ⟨hest,by omega⟩
 refine Go.Vm.Cv g0 rfl ?_
 refine Ce (r:=.d (ws (dig (y*g0)))) rfl (by have:=Xux (Xaf y) (Y:=[g0]) (.cons hgB .nil) (by omega) (by simp);rwa[Xag,show val [g0]=g0 by simp[val]] at this)<|Lo (λg:Nat=>[(0,.own 1000001 1 q N),(1,.d (ws (dig y))),(7,.d (.int .u64 g)),(8,.d (ws (dig (y*g))))]) (λ_=>[(1000001,.arr 1 (l.map wd))]) (λg=>V/y<=g/\g<4294967296) (λg=>g) g0 [] rfl ⟨hg0,hgB⟩ λg ⟨hg,hgB⟩=>?_
 refine Cn [] rfl (Xh1 hw hq hn40) λv hv=>?_
 obtain⟨k,hk,rfl,hkl⟩:=hv
 rw[hV] at hkl
 refine Cn [] rfl (Xp9 (by omega) hkl (by rw[<-hkl,Xy5 (by omega)];omega)) λv hv=>?_
 obtain rfl:v=_:=hv
 refine By rfl (λh=>?_) λh=>?_
 have hlt2:V<y*g:=Ybh.1 h
 have hg1:V/y<g:=by rw[W3b (W2q j),W1g];exact hlt2
 have hyg:y*g-y=y*(g-1):=by rw[Nat.mul_sub_one]
 have hle:y<=y*g:=W5c _ (by omega)
 have hlen:(dig (y*g)).length<=1099511627776:=by
  have T:=Xl6 y g
  have h2:(dig g).length<=1:=Xaq (by omega)
  omega
 refine Ar (g-1:Nat) rfl ?_
 exact Ce rfl (Xec hlen hle)<|Bk (g-1) [] rfl ⟨by omega,by omega⟩ (by show g-1<g;omega) (by exact⟨by rw[hyg];rfl,rfl,rfl,rfl,rfl⟩)
 have hge2:y*g<=V:=W4n λO=>h (Ybh.2 O)
 have hg2:g=V/y:=Nat.le_antisymm ((Nat.le_div_iff_mul_le (W2q j)).2 (by rw[W1g];exact hge2)) hg
 refine Go.Vm.Cv g rfl ?_
 exact Rw [] [(1000001,.arr 1 (l.map wd))] rfl (.tup (.cons (.rf rfl) (.one (.rf rfl) (λ_ _ e=>by cases e) (λ_ _ e=>by cases e)))) ⟨rfl,by rw[hg2];rfl⟩
theorem Xbk{x y:Nat}(hx:(dig x).length<=549755813888)(hy:(dig y).length<=549755813888)(hy0:y≠0): C0 206 [.d (ws (dig x)),.d (ws (dig y))] (·=.tup (.pr (.d (ws (dig (x/y)))) (.d (ws (dig (x%y)))))):=by
 refine En Tryz.func206 λ_ _ _=>?_
 refine Ce rfl (Xce (by omega))<|By rfl (λh=>?_) λh=>?_
 have hlt:x<y:=Ybh.1 h
 exact RTt rfl (.cons (.nil (by rw[W4o hlt,Xap];rfl)) (.one (.eq (by rw[W5j hlt])) (λ_ _ e=>by cases e) (λ_ _ e=>by cases e)))
 have hge:y<=x:=W4n λhlt=>h (Ybh.2 hlt)
 have hlenle:=Xau hge
 refine By rfl (λh2=>?_) λh2=>?_<;>simp only[lw] at h2
 have hx64:x<18446744073709551616:=by
  have:=Xd2 x
  have h1:4294967296^(dig x).length<=4294967296^2:=W0o (by decide) (by omega)
  omega
 refine Ce rfl (Xq7 (by omega))<|Ce rfl (Xq7 (by omega)) ?_
 have hq64:x/y<18446744073709551616:=W2a (W3n ..) hx64
 have hr64:x%y<18446744073709551616:=W2a (Nat.mod_le ..) hx64
 refine Dw rfl<|Ar (x/y:Nat) rfl ?_ (show _/\_ from⟨by omega,Yez x y hx64⟩)
 refine Ce rfl (Xf5 hq64)<|Ar (x%y:Nat) rfl ?_ (show _/\_ from⟨by omega,Xta x y⟩)
 exact Ce rfl (Xf5 hr64)<|R0t
 refine By rfl (λh3=>?_) λh3=>?_<;>simp only[lw] at h3
 obtain⟨t,ht⟩:=xat (l:=dig y) (k:=0) (by omega)
 have htb:=ww ht (Xaf y)
 have hyt:y=t:=by
  have:=Xac ht
  rw[W0b (by omega),Xag] at this
  simpa [val] using this
 have hrt:x%t<t:=W2o _ (by omega)
 have hr0:=W0r (x%t)
 refine Ix 0 rfl (mp ht)<|Ce rfl (Ypo (y:=t) hx htb (by omega))<|Go.Vm.Cv (x%t:Nat) rfl ?_
 exact Ce rfl (Xf5 (n:=x%t) (by omega))<|RTt rfl (.cons (.eq (by rw[hyt])) (.one (.eq (by rw[hyt])) (λ_ _ e=>by cases e) (λ_ _ e=>by cases e)))
 have hy1:1<=(dig y).length:=by
  have:(dig y).length≠0:=λh=>hy0 (Yq5.1 h)
  omega
 refine Ar (32*(dig y).length:Nat) rfl ?_ (wr (by simp only[lw];omega) (by simp only[inK];omega))
 refine Ca rfl (Xnm (by omega) hy0) λv hv=>?_
 obtain⟨t,ht,ht0,htb,rfl⟩:=hv
 obtain⟨bb1,bb2,bb3⟩:=Xdh ht0
 have hb32:bl t<=32:=by
  have:2^(bl t-1)<2^32:=W2a bb1 htb
  have:=(W3i (by decide:1<2)).1 this
  omega
 obtain⟨s,hs⟩:∃s,s=32-bl t:=⟨_,rfl⟩
 have hs32:s<32:=by omega
 have hs1:2147483648<=t*2^s:=by
  have h1:=W0l (2^(32-bl t)) bb1
  rw[<-W0x,show bl t-1+(32-bl t)=31 by omega] at h1
  rw[hs];exact h1
 have hs2:t*2^s<4294967296:=by
  have h1:=W3g bb2 (W0p (32-bl t))
  rw[<-W0x,show bl t+(32-bl t)=32 by omega] at h1
  rw[hs];exact h1
 refine Ar s rfl ?_
 obtain⟨hlen,t',ht',htt⟩:=Xr1 hy0 ht hs1 hs2
 refine Co rfl (Xfc hx hs32) λv ob hv=>?_
 obtain⟨o,hul,huw,huv,rfl,rfl⟩:=hv
 refine Ca rfl (Xm5 hy hs32) λv hv=>?_
 obtain⟨lv,hvl,hvw,hvv,rfl⟩:=hv
 obtain⟨Y,hY⟩:∃Y,Y=y*2^s:=⟨_,rfl⟩
 rw[<-hY] at hlen hvv
 refine Ce (r:=.d (ws (dig Y))) rfl (by have:=Xbb hvw (by omega);rwa[hvv] at this) ?_
 obtain⟨I,hmv⟩:∃I,I=(dig Y).length:=⟨_,rfl⟩
 obtain⟨m,hm⟩:∃m,m=(dig x).length:=⟨_,rfl⟩
 refine Mk m rfl (by simp only[lw];omega) ?_ (by simp only[lw,hm])
 refine Ar ((o.length-I:Nat)-1:Int) rfl ?_ (wr (by simp only[lw];omega) (by simp only[inK];omega))
 have hY0:Y≠0:=by rw[hY];exact Nat.mul_ne_zero hy0 (W8f.1 (W0p s))
 have hYl:=Xd2 Y
 have hR0:val (o.drop (o.length-I))<Y:=by
  have h1:=Xbx o (o.length-I) (by omega)
  rw[huv] at h1
  have h2:=Xsr hy0
  have h3:=Xd2 x
  have hp:=W0p s
  apply W0t
  intro hn2
  have h4:4294967296^(o.length-I)*Y<=x*2^s:=by
   rw[h1]
   have:=W0u (4294967296^(o.length-I)) (W4n hn2)
   omega
  rw[hY,<-W0v] at h4
  have h5:=Nat.le_of_mul_le_mul_right h4 hp
  have h6:=W0u (4294967296^(o.length-I)) h2
  rw[<-W0x,show o.length-I+((dig y).length-1)=(dig x).length by omega] at h6
  omega
 refine Lo (λ(k,M,lq)=>[(10,.d (.int .i64 s)),(11,.own 63 1 0 o.length),(12,.d (ws (dig Y))),(13,.own 70 1 0 m),(14,.d (.int .i64 ((k:Nat)-1:Int)))]) (λ(_,M,lq)=>[(63,.arr 1 (M.map wd)),(70,.arr 1 (lq.map wd))])
  (λ(k,M,lq)=>k<=o.length-I/\M.length=o.length/\Xav M/\lq.length=m/\Xav lq/\(∀j,j<k->M[j]?=o[j]?)/\val (M.drop k)<Y/\val (lq.drop k)*Y+val (M.drop k)=val (o.drop k)) (λ(k,_,_)=>k) (o.length-I,o,List.replicate m 0) [] rfl
  ⟨by omega,rfl,huw,by simp,Xf4 _,λ_ _=>rfl,hR0,by rw[W8h,Xb3];simp⟩ ?_ (by exact⟨rfl,by simp only[W2i];rfl,rfl,rfl,rfl⟩)
 rintro⟨k,M,lq⟩ ⟨hk,hln,hwu,hlq,hwq,hsame,Z,hQR⟩
 refine By rfl (λh=>?_) λh=>?_
 obtain⟨hwin,hUlt⟩:=Ycc (n:=I) (i:=k-1) (Y:=Y) hwu (by omega) (by rw[show k-1+1=k by omega];exact Z) (by rw[hmv];exact W2k hYl)
 obtain⟨U,hU⟩:∃U,U=val (M.drop (k-1)):=⟨_,rfl⟩
 rw[<-hU] at hwin hUlt
 have hqB:U/Y<4294967296:=by rw[W3b (W2q hY0)];exact hUlt
 have hqz0:0<=U/Y:=W0r _
 have hUlt2:U%Y<Y:=W2o _ (W2q hY0)
 have eN:k-1+I+1-(k-1)=I+1:=by omega
 refine Ar (k-1+I:Nat) rfl ?_ (wr (by simp only[lw];omega) (by simp only[inK];omega))
 refine Ar (k-1+I+1:Nat) rfl ?_
 refine Sw (k-1) (k-1+I+1) rfl (by omega) (by omega) ?_
 have hwin2:val ((M.drop (0+(k-1))).take (k-1+I+1-(k-1)))=U:=by rw[W1l,eN];exact hwin.symm
 refine Cn [(1000001,63)] rfl (Xxu (l:=M) (q:=0+(k-1)) (N:=k-1+I+1-(k-1)) (V:=U) hwu (by omega) (by omega) hY0 (by omega) hwin2 hUlt (by omega)) λv hv=>?_
 obtain rfl:v=_:=hv
 refine Eo (k-1) rfl (by omega)<|Sto rfl (by simp only[lw];omega) ms ?_
 refine Cn [(1000001,63)] rfl (Xh1 (l:=M) (q:=0+(k-1)) (n:=k-1+I+1-(k-1)) hwu (by omega) (by omega)) λv hv=>?_
 obtain⟨k2,hk2,rfl,hkl⟩:=hv
 rw[hwin2] at hkl
 have hUY:Y*(U/Y)<=U:=Nat.mul_div_le U Y
 have hUmod:U-Y*(U/Y)=U%Y:=by have:=W2x U Y;omega
 refine Cn [(1000001,63)] rfl (Xwk (l:=M) (q:=0+(k-1)) (m:=k2) (by omega) hkl (by rw[<-hkl,Xy5 (by omega)];omega) hUY) λv hv=>?_
 rw[hUmod] at hv
 obtain rfl:v=_:=hv
 have hdlen:=Xau (W2k hUlt2)
 refine Lo (λ(i,lo)=>[(10,.d (.int .i64 s)),(11,.own 63 1 0 o.length),(12,.d (ws (dig Y))),(13,.own 70 1 0 m),(14,.d (.int .i64 ((k:Nat)-1:Int))),(15,.own 63 1 (0+(k-1)) (k-1+I+1-(k-1))),(18,.d (ws (dig (U%Y)))),(19,.d (.int .i64 (i:Nat)))]) (λ(_,lo)=>[(63,.arr 1 (lo.map wd)),(70,.arr 1 ((lq.set (k-1) (U/Y)).map wd))])
  (λ(i,lo)=>i<=I+1/\lo.length=o.length/\Xav lo/\(∀j,(j<k-1\/k-1+i<=j)->lo[j]?=M[j]?)/\val ((lo.drop (k-1)).take i)=val ((dig (U%Y)).take i)) (λ(i,_)=>I+1-i) (0,M) [] rfl
  ⟨by omega,hln,hwu,λ_ _=>rfl,rfl⟩ ?_
 rintro⟨i,lo⟩ ⟨hi,hlo,hwo,O,T⟩
 refine By rfl (λh1=>?_) λh1=>?_
 refine El i rfl (by omega) ?_
 refine Sto rfl (by simp only[lw];omega) (ms (f:=wd) (u:=0)) ?_
 have eJ:0+(k-1)+i=k-1+i:=by omega
 refine Cu none (λg:Nat=>[(10,.d (.int .i64 s)),(11,.own 63 1 0 o.length),(12,.d (ws (dig Y))),(13,.own 70 1 0 m),(14,.d (.int .i64 ((k:Nat)-1:Int))),(15,.own 63 1 (0+(k-1)) (k-1+I+1-(k-1))),(18,.d (ws (dig (U%Y)))),(19,.d (.int .i64 i))]) (λg=>[(63,.arr 1 ((lo.set (k-1+i) g).map wd)),(70,.arr 1 ((lq.set (k-1) (U/Y)).map wd))])
  (λg=>g<4294967296/\val ((dig (U%Y)).take (i+1))=val ((dig (U%Y)).take i)+4294967296^i*g) rfl ?_ λg ⟨hgb,hg⟩=>?_
 refine By rfl (λh2=>?_) λh2=>?_<;>simp only[lw] at h2
 obtain⟨w,hw⟩:=xat (l:=dig (U%Y)) (k:=i) (by omega)
 have hwb:=ww hw (Xaf (U%Y))
 refine Ix i rfl (mp hw)<|El i rfl (by omega) ?_
 refine Sto rfl (by simp only[lw,W3c];omega) ms ?_
 exact Jn w [] rfl ⟨hwb,Xac hw⟩ (by exact⟨rfl,by rw[List.set_set,eJ];rfl,rfl,rfl,rfl⟩)
 exact Jn 0 [] rfl ⟨by decide,by rw[Xg5 (by omega)];rfl⟩ (by exact⟨rfl,by rw[eJ];rfl,rfl,rfl,rfl⟩)
 refine Ar (i+1:Nat) rfl ?_
 exact Bk (i+1,lo.set (k-1+i) g) [] rfl ⟨by omega,by simp[hlo],Xhw hwo hgb,λj hj=>by rw[W2l (by omega)];exact O j (by omega),by rw[Xf8 (by omega),T,hg]⟩ (by show I+1-(i+1)<I+1-i;omega)
 have hik:i=I+1:=by omega
 subst hik
 rw[W0b (l:=dig (U%Y)) (by omega),Xag] at T
 have hab:val (lo.drop (k-1))=U%Y:=by
  have g1:=Xbx (lo.drop (k-1)) (I+1) (by rw[W1u];omega)
  have g2:=Xbx (M.drop (k-1)) (I+1) (by rw[W1u];omega)
  have g3:(lo.drop (k-1)).drop (I+1)=(M.drop (k-1)).drop (I+1):=by
   rw[W6v,W6v]
   exact Xfh λj hj=>O j (.inr hj)
  rw[<-hU,<-hwin] at g2
  rw[g1,T,g3]
  omega
 obtain⟨w,hw⟩:=xat (l:=M) (k:=k-1) (by omega)
 have hw2:o[k-1]?=some w:=by rw[<-hsame (k-1) (by omega)];exact hw
 have hfin:val ((lq.set (k-1) (U/Y)).drop (k-1))*Y+val (lo.drop (k-1))=val (o.drop (k-1)):=by
  have g1:=Xcj hw
  have g2:=Xcj hw2
  have g3:=Xcj (l:=lq.set (k-1) (U/Y)) (k:=k-1) (W2n (by omega))
  have g4:(lq.set (k-1) (U/Y)).drop (k-1+1)=lq.drop (k-1+1):=Xfh λj hj=>W2l (by omega)
  rw[show k-1+1=k by omega] at g1 g2 g3 g4
  rw[hab,g2,g3,g4,<-hQR,W1f,W0v,W1d]
  have g5:=W2x U Y
  rw[W1g] at g5
  rw[<-hU] at g1
  omega
 refine Ar ((k-1:Nat)-1:Int) rfl ?_
 exact Bk (k-1,lo,lq.set (k-1) (U/Y)) [] rfl ⟨by omega,hlo,hwo,by simp[hlq],Xhw hwq hqB,λj hj=>(O j (.inl hj)).trans (hsame j (by omega)),by rw[hab];exact hUlt2,hfin⟩ (by show k-1<k;omega)
 have hk0:k=0:=by omega
 subst hk0
 rw[W1i] at Z hQR
 rw[W1i,W1i,huv] at hQR
 obtain⟨hQ,hR⟩:=Xxs hY.symm hQR Z
 refine Fz 25 13 (lq.map wd) rfl (by simp only[lw];omega) (oa hlq) ?_
 refine Fz 25 11 (M.map wd) rfl (by simp only[lw];omega) (oa hln) ?_
 exact Ce rfl (Xbb hwq (by omega))<|Ce rfl (Xbb hwu (by omega))<|Ce rfl (Yhl (by have:=Xau (W2k Z);omega) hs32)<|RTt rfl (.cons (.eq (by rw[hQ])) (.one (.eq (by rw[hR,Nat.mul_div_cancel _ (W0p s)])) (λ_ _ e=>by cases e) (λ_ _ e=>by cases e)))
end
section
theorem GCD_ok{a b:Int}(ha:(dig a.natAbs).length<=549755813888)(hb:(dig b.natAbs).length<=549755813888): C0 115 [.d (dz a),.d (dz b)] (·=.d (dz (Int.gcd a b))):=by
 refine En Tryz.func115 λ_ _ _=>?_
 refine Dw rfl<|Ce rfl (trim_dig_ok (by omega))<|Ce rfl (trim_dig_ok (by omega))<|Lo (λ((x,y):Nat×Nat)=>[(4,.ptr 4 0),(5,.d (ws (dig x))),(6,.d (ws (dig y)))]) (λ_=>[(4,.var (.st (.pr (.b false) .nil)))]) (λ(x,y)=>Nat.gcd x y=Int.gcd a b/\(dig x).length<=549755813888/\(dig y).length<=549755813888) (λ(_,y)=>y) (a.natAbs,b.natAbs) [] rfl ⟨rfl,ha,hb⟩ λ⟨x,y⟩ ⟨i,I,j⟩=>?_
 refine By rfl (λo=>?_) λo=>?_<;>simp only[lw] at o
 have h0:y≠0:=λe=>by have:=Yq5.2 e;omega
 have h:=W2o x (W2q h0)
 exact Ce rfl (Xbk I j h0)<|Bk (y,x%y) [] rfl ⟨by rw[<-i,W7i y,<-Nat.gcd_rec,W7i],j,W0j (Xau (W2k h)) j⟩ h
 have h0:y=0:=Yq5.1 (by omega)
 subst h0
 rw[Nat.gcd_zero_right] at i
 exact Ce rfl (Xan (b:=false) (by omega))<|R1 rfl (.eq (by rw[Xh5,i]))
theorem Xxh{z b q r:Int}(e:b*q+r=z)(h:(0<=r/\r<b)\/(b<r/\r<=0)): z.fdiv b=q/\z.fmod b=r:=by
 rcases h with ⟨i,j⟩ | ⟨i,j⟩
 rw[W1r _ (by omega),W6d _ (by omega)]
 exact(W8a (a:=z) (b:=b) (by omega)).2 ⟨by rw[Int.add_comm];exact e,i,j⟩
 have o:(-z).fdiv (-b)=q/\(-z).fmod (-b)=-r:=by
  rw[W1r _ (by omega),W6d _ (by omega)]
  exact(W8a (a:=-z) (b:=-b) (by omega)).2 ⟨by rw[<-e,Int.neg_mul];omega,by omega,by omega⟩
 rw[W7s,Int.neg_fmod_neg] at o
 exact⟨o.1,by omega⟩
theorem qr0{z b:Int}(hb:b≠0): z-sg (decide (z<0) != decide (b<0)) (z.natAbs/b.natAbs)*b=sg (decide (z<0)) (z.natAbs%b.natAbs):=by
 have e:=W2x z.natAbs b.natAbs
 have i:z=sg (decide (z<0)) z.natAbs:=by unfold sg;by_cases h:z<0<;>simp[h]<;>omega
 have hb:b=sg (decide (b<0)) b.natAbs:=by unfold sg;by_cases h:b<0<;>simp[h]<;>omega
 generalize decide (z<0)=dz at *
 generalize decide (b<0)=j at *
 generalize z.natAbs=A at *
 generalize b.natAbs=B at *
 generalize A/B=q at *
 generalize A%B=r at *
 have o:(A:Int)=(B:Int)*q+r:=by rw[<-e];push_cast;rfl
 subst i
 subst hb
 cases dz<;>cases j<;>simp[sg,o]<;>grind
theorem Xo8(b:Bool)(n:Nat): (sg b n).natAbs=n:=by cases b<;>simp[sg]
theorem Yd2{z b:Int}(hb:b≠0)(h:Xa9 (sg (decide (z<0)) (z.natAbs%b.natAbs)) 0*Xa9 b 0<0):
 sg (decide (z<0) != decide (b<0)) (z.natAbs/b.natAbs)-1=z.fdiv b/\sg (decide (z<0)) (z.natAbs%b.natAbs)+b=z.fmod b:=by
 have h0:=@qr0 z b hb
 have i:=Xo8 (decide (z<0)) (z.natAbs%b.natAbs)
 have j:=W2o z.natAbs (y:=b.natAbs) (by omega)
 generalize sg (decide (z<0)) (z.natAbs%b.natAbs)=r at *
 generalize sg (decide (z<0) != decide (b<0)) (z.natAbs/b.natAbs)=q at *
 have:=Xxh (z:=z) (b:=b) (q:=q-1) (r:=r+b) (by rw[<-Int.sub_add_cancel z (q*b),h0];grind) (by
  unfold Xa9 at h
  repeat' split at h
  all_goals first | omega | (left;omega) | (right;omega))
 exact⟨this.1.symm,this.2.symm⟩
theorem Yd3{z b:Int}(hb:b≠0)(h:¬Xa9 (sg (decide (z<0)) (z.natAbs%b.natAbs)) 0*Xa9 b 0<0):
 sg (decide (z<0) != decide (b<0)) (z.natAbs/b.natAbs)=z.fdiv b/\sg (decide (z<0)) (z.natAbs%b.natAbs)=z.fmod b:=by
 have h0:=@qr0 z b hb
 have i:=Xo8 (decide (z<0)) (z.natAbs%b.natAbs)
 have j:=W2o z.natAbs (y:=b.natAbs) (by omega)
 generalize sg (decide (z<0)) (z.natAbs%b.natAbs)=r at *
 generalize sg (decide (z<0) != decide (b<0)) (z.natAbs/b.natAbs)=q at *
 have:=Xxh (z:=z) (b:=b) (q:=q) (r:=r) (by rw[<-Int.sub_add_cancel z (q*b),h0];grind) (by
  unfold Xa9 at h
  repeat' split at h
  all_goals first | omega | (left;omega) | (right;omega))
 exact⟨this.1.symm,this.2.symm⟩
theorem Ybi(a b c d:Int): -1<=Xa9 a b*Xa9 c d/\Xa9 a b*Xa9 c d<=1:=by
 unfold Xa9;repeat' split
 all_goals omega
theorem DivMod_ok{a b:Int}(ha:(dig a.natAbs).length<=549755813888)(hb:(dig b.natAbs).length<=549755813888)(i:b≠0): C0 208 [.d (dz a),.d (dz b)] (·=.tup (.pr (.d (dz (a.fdiv b))) (.pr (.d (dz (a.fmod b))) (.d (.int .i64 0))))):=by
 have o:(dig (a.natAbs/b.natAbs)).length<=549755813888:=W0j (Xau (W3n ..)) ha
 have I:(dig (a.natAbs%b.natAbs)).length<=549755813888:=W0j (Xau (Nat.mod_le ..)) ha
 have j:(dig (sg (decide (a<0) != decide (b<0)) (a.natAbs/b.natAbs)*b).natAbs).length<=549755813888:=by
  rw[W4d,Xo8]
  exact W0j (Xau (W7c ..)) ha
 refine En Tryz.func208 λ_ _ _=>?_
 refine Dw rfl<|Ce rfl (Norm_ok (by omega))<|Ce rfl (Norm_ok (by omega))<|No rfl (by simp only[lw];have:=@Yq5 b.natAbs;omega)<|Ce rfl (Xbk ha hb (by omega))<|Ce rfl (Xan (by omega))<|Dw rfl<|Ce (r:=.d (dz (sg (decide (a<0) != decide (b<0)) (a.natAbs/b.natAbs)*b))) rfl (by rw[Yec];exact Mul_ok (by rw[Xo8];exact o) hb)<|Ce rfl (Sub_ok ha j) ?_
 have h0:=qr0 (z:=a) i
 refine Dw rfl<|Ce rfl (Sign_ok (by rw[h0,Xo8];omega))<|Ce rfl (Sign_ok (by omega)) ?_
 have M:=Ybi (sg (decide (a<0)) (a.natAbs%b.natAbs)) 0 b 0
 rw[<-h0] at M
 refine Ar (Xa9 (a-sg (decide (a<0) != decide (b<0)) (a.natAbs/b.natAbs)*b) 0*Xa9 b 0) rfl ?_
 refine By rfl (λh=>?_) λh=>?_<;>rw[h0] at h
 refine Dw rfl<|Ce rfl (FromInt_ok (z:=1) (by decide))<|Ce (r:=.d (dz (sg (decide (a<0) != decide (b<0)) (a.natAbs/b.natAbs)-1))) rfl (by rw[Yec];exact Sub_ok (by rw[Xo8];omega) (W0j (@Xaq 1 1 (by decide)) (by decide)))<|Ce rfl (Add_ok (by rw[h0,Xo8];omega) hb)<|Dz rfl ?_
 exact RTt rfl (.cons (.eq (by rw[(Yd2 i h).1];rfl)) (.cons (.eq (by rw[h0,(Yd2 i h).2];rfl)) (.one (.rf rfl) (λ_ _ e=>by cases e) (λ_ _ e=>by cases e))))
 refine Dz rfl ?_
 exact RTt rfl (.cons (.eq (by rw[Yec,(Yd3 i h).1];rfl)) (.cons (.eq (by rw[h0,(Yd3 i h).2];rfl)) (.one (.rf rfl) (λ_ _ e=>by cases e) (λ_ _ e=>by cases e))))
theorem Xqh{z:Int}(o:(dig z.natAbs).length<=549755813888): C0 366 [.d (dz z)] λv=>∃B:Nat,v=.d (.int .i64 B)/\z.natAbs<2^B/\B<=32*(dig z.natAbs).length:=by
 refine En Tryz.func366 λ_ _ _=>?_
 refine Ce rfl (trim_dig_ok (by omega)) ?_
 by_cases h0:z.natAbs=0
 refine Ce (r:=.d (.int .i64 0)) rfl (by
  rw[h0,Xap]
  refine En Tryz.func292 λ_ _ _=>?_
  exact Yes rfl rfl<|R0) ?_
 exact Rt rfl (.one (.rf rfl) rfl rfl) ⟨0,rfl,by rw[h0];decide,W0r _⟩
 refine Ca rfl (Xnm (by omega) h0) λv j=>?_
 obtain⟨t,i,_,h,rfl⟩:=j
 have I:=(W0s.1 i).1
 have M:=Xyd h
 exact Rt rfl (.one (.rf rfl) rfl rfl) ⟨_,rfl,Xqs rfl (by omega) i,by omega⟩
theorem Xyg{l:List Nat}{i w:Nat}(T:Xav l)(o:l[i/32]?=some w)(h:val l%2^(i+1)=0): w%2^(i%32+1)=0:=by
 have h0:=Xf9 o
 have hj:i/32<l.length:=(W0s.1 o).1
 have j:=Xci (T.take (i/32))
 rw[W0k,show min (i/32) l.length=i/32 by omega] at j
 have hp:4294967296^(i/32)*2^(i%32+1)=2^(i+1):=by
  rw[show (4294967296:Nat)=2^32 from rfl,<-W6q,<-W0x];congr 1;omega
 obtain⟨c,I⟩:=W5h h
 rw[<-hp,W0v] at I
 generalize 4294967296^(i/32)=B at *
 generalize val (l.drop (i/32+1))=R at *
 have M:w+4294967296*R=2^(i%32+1)*c:=by
  have O:0<B:=by omega
  have U:(val (l.take (i/32))+B*(w+4294967296*R))/B=w+4294967296*R:=by
   rw[W7a _ _ O,W4o j,W1l]
  have V:B*(2^(i%32+1)*c)/B=2^(i%32+1)*c:=W7l _ O
  rw[<-U,<-h0,I,V]
 have Z:(4294967296:Nat)=2^(i%32+1)*2^(31-i%32):=by
  rw[<-W0x,show i%32+1+(31-i%32)=32 by omega]
 rw[Z,W0v] at M
 have e3:(w+2^(i%32+1)*(2^(31-i%32)*R))%2^(i%32+1)=0:=by rw[M,Nat.mul_mod_right]
 rwa[W5m] at e3
theorem Xv6{w s:Nat}(h:w%2^(s+1)=0): w|||2^s=w+2^s:=by
 obtain⟨c,rfl⟩:=W5h h
 rw[W1g]
 exact Xej (2^s) c (s+1) (W4f (by decide) (W5v s))
theorem Yhr{w s:Nat}(h:w%2^(s+1)=0): (w+2^s)&&&2^s=2^s:=by
 obtain⟨c,rfl⟩:=W5h h
 have e:(2^(s+1)*c+2^s)/2^s=2*c+1:=by
  rw[W0z,show 2^s*2*c+2^s=2^s*(2*c+1) by rw[W1d,W0v,W4j]]
  exact W7l _ (W0p s)
 have j:(2^(s+1)*c+2^s).testBit s=true:=by
  rw[Nat.testBit_eq_decide_div_mod_eq,e]
  simp
 apply Nat.eq_of_testBit_eq
 intro i
 rw[Nat.testBit_and]
 by_cases hi:s=i
 subst hi;rw[j,Bool.true_and]
 rw[Nat.testBit_two_pow_of_ne hi,Bool.and_false]
theorem Xt4{w s:Nat}(i:w<4294967296)(j:s<32)(h:w%2^(s+1)=0): w+2^s<4294967296:=by
 rw[<-Xv6 h]
 exact Nat.or_lt_two_pow (n:=32) i (W0y (W4f (by decide) j) (by decide))
theorem Ye9{l:List Nat}{i w x:Nat}(h:l[i/32]?=some w)(o:x=w+2^(i%32)): val (l.set (i/32) x)=val l+2^i:=by
 have I:i/32<l.length:=(W0s.1 h).1
 have h0:=Xf9 h
 have M:=Xf9 (l:=l.set (i/32) x) (j:=i/32) (x:=x) (by rw[W2n I])
 rw[M,h0,List.take_set_of_le (W0a _),List.drop_set_of_lt (by omega),o,<-Xi0 i]
 grind
theorem Yhc{w s:Nat}(Z:w+2^s<4294967296)(h:w%2^(s+1)=0): arB .andNot .u32 (w+2^s:Nat) (2^s:Nat) w:=by
 have hp:=W0p s
 have e:=Yhr h
 show IntKind.u32.wrap _=_
 have O:(BitVec.ofInt 32 ((w+2^s:Nat):Int) &&& ~~~BitVec.ofInt 32 ((2^s:Nat):Int)).toNat=w:=by
  have T:(BitVec.ofInt 32 ((w+2^s:Nat):Int)).toNat=w+2^s:=by rw[W6o];omega
  have U:(BitVec.ofInt 32 ((2^s:Nat):Int)).toNat=2^s:=by rw[W6o];omega
  apply Nat.eq_of_testBit_eq
  intro i
  rw[BitVec.toNat_and,BitVec.toNat_not,T,U,Nat.testBit_and]
  have I:=congrArg (·.testBit i) e
  simp only[Nat.testBit_and] at I
  have M:=Xv6 h
  rw[<-M,Nat.testBit_or]
  have V:(2^32-1-2^s).testBit i=(decide (i<32) && !(2^s).testBit i):=by
   have:=Nat.testBit_two_pow_sub_succ (x:=2^s) (n:=32) (by omega) i
   rwa[show 2^32-(2^s+1)=2^32-1-2^s by omega] at this
  rw[V]
  by_cases hi:i<32
  rw[decide_eq_true hi,Bool.true_and]
  by_cases j:s=i
  subst j
  rw[<-M,Nat.testBit_or] at I
  have o:w.testBit s=false:=by
   obtain⟨c,rfl⟩:=W5h h
   rw[Nat.testBit_eq_decide_div_mod_eq,W0z,W0v,W7l _ hp]
   simp
  rw[o,Nat.testBit_two_pow_self];rfl
  rw[Nat.testBit_two_pow_of_ne j];simp
  rw[decide_eq_false hi]
  have:w.testBit i=false:=Nat.testBit_lt_two_pow (W0y (by omega:w<2^32) (W0o (by decide) (by omega)))
  rw[this];simp
 rw[show IntKind.bits .u32=32 from rfl,O]
 exact wW (by omega)
theorem Sqrt_ok{a:Nat}(hl:(dig a).length<=274877906944): C0 344 [.d (dz (a:Int))] (·=.tup (.pr (.d (dz (rt a:Int))) (.d (.int .i64 0)))):=by
 have ha:dz (a:Int)=.st (.pr (.bool (decide ((a:Int)<0))) (ws (dig a))):=rfl
 have hbits:=λ(B n:Nat) (hB:a<2^B) (hn:B<=2*n)=>W0y hB (W0o (by decide) hn:2^B<=2^(2*n))
 refine En Tryz.func344 λ_ _ _=>?_
 refine Ce rfl (Norm_ok (by simp only[W1b];omega))<|No rfl (by omega)<|Ca rfl (Xqh (z:=(a:Int)) (by simp only[W1b];omega)) λv hv=>?_
 obtain⟨B,rfl,hB1,hB2⟩:=hv
 simp only[W1b] at hB1 hB2
 obtain⟨n,hn⟩:∃n,n=(B+1)/2:=⟨_,rfl⟩
 refine Ar (B+1:Nat) rfl ?_
 refine Ar n rfl ?_ (show _/\_ from⟨by decide,by rw[show Int.tdiv ((B+1:Nat):Int) 2=(((B+1)/2:Nat):Int) from rfl,<-hn];exact wI (by omega)⟩)
 refine Ar (n/32:Nat) rfl ?_ (show _/\_ from⟨by decide,by rw[show Int.tdiv (n:Int) 32=((n/32:Nat):Int) from rfl];exact wI (by omega)⟩)
 refine Ar (n/32+1:Nat) rfl ?_
 refine Mk (n/32+1) rfl (by omega) ?_
 refine Ar (n-1:Int) rfl ?_
 refine Lo (λ(k,lo)=>[(1,.ptr 1 0),(2,.ptr 2 0),(5,.own 19 1 0 (n/32+1)),(6,.d (.int .i64 ((k:Nat)-1:Int)))]) (λ(_,lo)=>[(1,.var (.d (dz (a:Int)))),(2,.var (.st (.pr (.b false) .nil))),(19,.arr 1 (lo.map wd))])
  (λ(k,lo)=>k<=n/\lo.length=n/32+1/\Xav lo/\val lo%2^k=0/\val lo*val lo<=a/\a<(val lo+2^k)*(val lo+2^k)) (λ(k,_)=>k) (n,List.replicate (n/32+1) 0) [] rfl
  ⟨by omega,by simp,Xf4 _,by rw[Xb3];simp,by rw[Xb3];omega,by rw[Xb3,W1l,<-W0x,<-Nat.two_mul];exact hbits B n hB1 (by omega)⟩ ?_ (by exact⟨rfl,by simp only[W2i];rfl,rfl,rfl,rfl⟩)
 rintro⟨k,lo⟩ ⟨hk,hlo,M,O,V,Z⟩
 refine By rfl (λh=>?_) λh=>?_
 obtain⟨i,rfl⟩:∃i,k=i+1:=⟨k-1,by omega⟩
 obtain⟨w,hw⟩:=xat (l:=lo) (k:=i/32) (by omega)
 have hww:=ww hw M
 have hwc:=Xyg M hw O
 have hwb:=Xt4 hww (by omega) hwc
 have U:=Ye9 hw rfl
 have T:=Xhw (k:=i/32) M hwb
 obtain⟨j,o⟩:∃j,j=lo.set (i/32) (w+2^(i%32)):=⟨_,rfl⟩
 rw[<-o] at U T
 have hl1:j.length=n/32+1:=by rw[o,W3c,hlo]
 have hlen1:(dig (val j)).length<=549755813888:=by
  have h1:=Xaq (Xci T)
  omega
 have I:arB .quo .i64 (((i+1:Nat):Int)-1) 32 (i/32:Nat):=show _/\_ from⟨by decide,by rw[show (((i+1:Nat):Int)-1)=(i:Int) by omega,show Int.tdiv (i:Int) 32=((i/32:Nat):Int) from rfl];exact wI (by omega)⟩
 have hr32:arB .rem .i64 (((i+1:Nat):Int)-1) 32 (i%32:Nat):=show _/\_ from⟨by decide,by rw[show (((i+1:Nat):Int)-1)=(i:Int) by omega];exact Xta i 32⟩
 refine Dw rfl<|Ar (i/32:Nat) rfl ?_ I
 refine Ar (i/32:Nat) rfl ?_ I
 refine Eo (i/32) rfl (by omega)<|Ld (wd w) rfl (mp hw) ?_
 refine Ar (i%32:Nat) rfl ?_ hr32
 refine Ar (2^(i%32):Nat) rfl ?_ (Xgc (by omega))
 refine Ar (w+2^(i%32):Nat) rfl ?_ (Ynd hww Yfp (Xv6 hwc) hwb)
 refine Eo (i/32) rfl (by omega)<|Sto rfl (by simp only[lw];omega) ms ?_
 refine Cu none (λ_:Unit=>[(1,.ptr 1 0),(2,.ptr 2 0),(5,.own 19 1 0 (n/32+1)),(6,.d (.int .i64 (((i+1:Nat):Int)-1))),(47,.b (dc (a<val j*val j)))]) (λ_=>[(1,.var (.d (dz (a:Int)))),(2,.var (.st (.pr (.b false) .nil))),(19,.arr 1 (j.map wd))]) (λ_=>True) rfl ?_ λ_ _=>?_
 refine Dw rfl<|Cn [(1000001,19)] rfl (Xh1 (l:=j) (q:=0) (n:=n/32+1) T (by omega) (by omega)) (λv hv=>?_) rfl (by rw[o];rfl)
 obtain⟨k1,hk1,rfl,hkl⟩:=hv
 refine Cn [(1000001,19)] rfl (Xh1 (l:=j) (q:=0) (n:=n/32+1) T (by omega) (by omega)) (λv hv=>?_) rfl (by rw[o];rfl)
 obtain⟨k2,hk2,rfl,hkl2⟩:=hv
 rw[show (j.drop 0).take (n/32+1)=j from W0b (by simp[hl1])] at hkl hkl2
 obtain rfl:k2=k1:=by
  have e1:=congrArg List.length hkl
  have e2:=congrArg List.length hkl2
  rw[Xy5 (by omega)] at e1 e2
  omega
 refine Cn [(1000001,19)] rfl (Xuy (l:=j) (q:=0) (n:=k2) (by omega) hkl hlen1) (λv hv=>?_) rfl (by rw[o];rfl)
 obtain rfl:v=_:=hv
 refine Ce rfl (Xce (y:=a) (W0j (Xl6 ..) (by omega)))<|Jn () [] rfl trivial (by exact⟨by
  rw[show (Xa9 ((val j*val j:Nat):Int) (a:Int)>0)=(a<val j*val j) from propext (by
   rcases Xay ((val j*val j:Nat):Int) (a:Int) with ⟨g1,g2⟩ | ⟨g1,g2⟩ | ⟨g1,g2⟩<;>rw[g2]<;>omega)]
  rfl,by rw[o];rfl,rfl,rfl,rfl⟩)
 refine By rfl (λh1=>?_) λh1=>?_
 have hw2:j[i/32]?=some (w+2^(i%32)):=by rw[o,W2n (by omega)]
 have hback:j.set (i/32) w=lo:=by
  rw[o,List.set_set]
  apply W4t
  intro q
  by_cases hq:i/32=q
  subst hq;rw[W2n (by omega),hw]
  rw[W2l hq]
 have hm2:val lo%2^i=0:=by
  obtain⟨c,hc⟩:=W5h O
  rw[hc,W0z,W0v];exact Nat.mul_mod_right _ _
 refine Dw rfl<|Ar (i/32:Nat) rfl ?_ I
 refine Ar (i/32:Nat) rfl ?_ I
 refine Eo (i/32) rfl (by omega)<|Ld (wd (w+2^(i%32))) rfl (mp hw2) ?_
 refine Ar (i%32:Nat) rfl ?_ hr32
 refine Ar (2^(i%32):Nat) rfl ?_ (Xgc (by omega))
 refine Ar w rfl ?_ (Yhc hwb hwc)
 refine Eo (i/32) rfl (by omega)<|Sto rfl (by simp only[lw];omega) ms ?_
 refine Ar (i-1:Int) rfl ?_
 exact Bk (i,lo) [] rfl ⟨by omega,hlo,M,hm2,V,by rw[<-U];exact h1⟩ (by show i<i+1;omega) (by exact⟨rfl,by rw[hback];rfl,rfl,rfl,rfl⟩)
 have hm2:val j%2^i=0:=by
  rw[U]
  obtain⟨c,hc⟩:=W5h O
  rw[hc,W0z,W0v,Nat.add_mod_right];exact Nat.mul_mod_right _ _
 refine Ar (i-1:Int) rfl ?_
 exact Bk (i,j) [] rfl ⟨by omega,hl1,T,hm2,W4n h1,by rw[U,W4z,<-Nat.two_mul,W1g 2,<-W0z];exact Z⟩ (by show i<i+1;omega)
 have hk0:k=0:=by omega
 subst hk0
 have hrt:rt a=val lo:=Yjp V (by simpa using Z)
 refine Fz 12 5 (lo.map wd) rfl (by simp only[lw];omega) (oa hlo) ?_
 refine Ce (r:=.d (dz (sg false (val lo)))) rfl (by
  have:=Xq5 (b:=false) M (by omega)
  exact this) ?_
 exact RTt rfl (.cons (.eq (by rw[Xh5,hrt])) (.one (.rf rfl) (λ_ _ e=>by cases e) (λ_ _ e=>by cases e)))
end
end Go.Proofs.YtnedfplmoojbaaaGreatDoor.R1
namespace Go.Num
theorem Zs.fdv{p:Nat}{z g:Int}(h:Zs p z)(i:0<g): Zs p (z.fdiv g):=by
 unfold Zs at *
 rw[W1r _ (by omega)]
 have:(z/g).natAbs<=z.natAbs:=Int.natAbs_ediv_le_natAbs ..
 omega
end Go.Num
namespace Go.Proofs.YtnedfplmoojbaaaGreatDoor.R2
open Go Go.Vm Go.Num Go.Proofs.YtnedfplmoojbaaaGreatDoor
theorem Yg0{a g:Int}(h:g ∣ a)(i:0<=g): a.fdiv g=a.tdiv g:=by
 rw[W1r _ i,Int.tdiv_eq_ediv_of_dvd h]
theorem Xnx(a g:Nat): (a:Int).fdiv g=((a/g:Nat):Int):=by
 rw[W1r _ (by omega),Int.natCast_ediv]
theorem Xz9(x y:Rat): (x*y).num=x.num.fdiv (Int.gcd x.num y.den:Int)*y.num.fdiv (Int.gcd y.num x.den:Int):=by
 show (Rat.mul x y).num=_
 delta Rat.mul
 simp only[Int.divExact_eq_tdiv]
 rw[Yg0 (Int.gcd_dvd_left ..) (by omega),Yg0 (Int.gcd_dvd_left ..) (by omega)]
 rfl
theorem Ya9(x y:Rat): ((x*y).den:Int)=(x.den:Int).fdiv (Int.gcd y.num x.den:Int)*(y.den:Int).fdiv (Int.gcd x.num y.den:Int):=by
 show ((Rat.mul x y).den:Int)=_
 delta Rat.mul
 simp only[Nat.divExact_eq_div]
 rw[Xnx,Xnx]
 rfl
theorem Xrx{x y:Rat}(h:(Int.gcd x.den y.den:Int)=1): (x+y).num=x.num*y.den+y.num*x.den/\(x+y).den=x.den*y.den:=by
 have i:x.den.gcd y.den=1:=by have:(x.den.gcd y.den:Int)=1:=h;omega
 show (Rat.add x y).num=_/\(Rat.add x y).den=_
 delta Rat.add
 simp only[i]
 exact⟨rfl,rfl⟩
theorem Xrw{x y:Rat}(h:¬(Int.gcd x.den y.den:Int)=1): (x+y).num=(x.num*(y.den:Int).fdiv (Int.gcd x.den y.den:Int)+y.num*(x.den:Int).fdiv (Int.gcd x.den y.den:Int)).fdiv (Int.gcd (x.num*(y.den:Int).fdiv (Int.gcd x.den y.den:Int)+y.num*(x.den:Int).fdiv (Int.gcd x.den y.den:Int)) (Int.gcd x.den y.den:Int):Int) /\
 ((x+y).den:Int)=(x.den:Int).fdiv (Int.gcd x.den y.den:Int)*(y.den:Int).fdiv (Int.gcd (x.num*(y.den:Int).fdiv (Int.gcd x.den y.den:Int)+y.num*(x.den:Int).fdiv (Int.gcd x.den y.den:Int)) (Int.gcd x.den y.den:Int):Int):=by
 have j:¬x.den.gcd y.den=1:=λe=>h (by show ((x.den.gcd y.den:Nat):Int)=1;rw[e];rfl)
 have o:Int.gcd (x.den:Int) (y.den:Int)=x.den.gcd y.den:=rfl
 rw[o,Xnx,Xnx]
 generalize I:x.num*((y.den/x.den.gcd y.den:Nat):Int)+y.num*((x.den/x.den.gcd y.den:Nat):Int)=n
 have M:Int.gcd n ((x.den.gcd y.den:Nat):Int)=n.natAbs.gcd (x.den.gcd y.den):=rfl
 have i:n.natAbs.gcd (x.den.gcd y.den) ∣ y.den:=Nat.dvd_trans (Nat.gcd_dvd_right ..) (Nat.gcd_dvd_right ..)
 rw[Yg0 (Int.gcd_dvd_left ..) (by omega),M,Xnx]
 have e:Rat.add x y=x+y:=rfl
 delta Rat.add at e
 simp only[j,I,dif_neg,not_false_eq_true,Rat.maybeNormalize_eq] at e
 rw[<-e]
 refine⟨by simp only[Int.divExact_eq_tdiv],?_⟩
 simp only[Nat.divExact_eq_div]
 rw[<-W2r,Nat.mul_div_assoc _ i]
theorem Xma{a b:Int}(h:b≠0): (Int.gcd a b:Int)≠0:=by have:=@Xw9 a b h;omega
theorem Xey{z:Int}(h:(dig z.natAbs).length<=1099511627776): C0 199 [.d (dz z)] (·=.b true):=by
 refine En Tryz.func199 λ_ _ _=>?_
 refine Dw rfl<|Ce rfl (R1.trim_dig_ok h)<|Yes rfl rfl<|By rfl (λi=>?_) λi=>?_
 exact R0
 have:(dig z.natAbs).length≠0:=λe=>by have:=Yq5.1 e;omega
 exact R1 rfl (by exact(show dc (((List.map wd (dig z.natAbs)).length:Int)>0)=true by rw[Xaj,lw];omega) ▸ .rf rfl)
theorem Xfm{z:Int}: C0 200 [.d (dz z)] (·=.b (dc (z=1))):=by
 refine En Tryz.func200 λ_ _ _=>?_
 refine By rfl (λi=>?_) λi=>?_<;>simp only[lw] at i
 obtain⟨u,j⟩:=xat (l:=dig z.natAbs) (k:=0) (by omega)
 have o:=Yks (by omega) j
 refine Ix 0 rfl (mp j)<|By rfl (λI=>?_) λI=>?_
 refine R1 rfl (.bp ?_)
 rw[<-Xv7,o]
 simp only[W1v,decide_eq_false_iff_not]
 exact⟨λh=>⟨by rw[show u=1 by omega],h⟩,λh=>h.2⟩
 refine R1 rfl (.bp ⟨nofun,λe=>?_⟩)
 have:=(Xv7.2 e).1
 rw[o] at this;injection this with this;omega
 exact R1 rfl (.bp ⟨nofun,λe=>absurd (by rw[e];show ((dig 1).length:Int)=1;rw[Yif];rfl) i⟩)
theorem Xcu{a b:Int}(ha:(dig a.natAbs).length<=549755813888)(hb:(dig b.natAbs).length<=549755813888)(h:b≠0): C0 118 [.d (dz a),.d (dz b)] (·=.d (dz (a.fdiv b))):=by
 refine En Tryz.func118 λ_ _ _=>?_
 exact Ce rfl (R1.DivMod_ok ha hb h)<|R0
theorem FromInt_ok{z:Int}(h:-9223372036854775808<=z/\z<9223372036854775808): C0 27 [.d (.int .i64 z)] (·=.d (dq z)):=by
 refine En Tryz.func27 λ_ _ _=>?_
 exact Ce rfl (R1.FromInt_ok h)<|Ce rfl (R1.FromInt_ok (z:=1) (by decide))<|R0
theorem Make_ok{a b:Int}{p:Nat}(ha:Zs p a)(hb:Zs p b)(hp:p<=8796093022208)(i:b≠0): C0 56 [.d (dz a),.d (dz b)] (·=.d (dq (Rat.divInt a b))):=by
 have O:=ha.len hp
 have T:=hb.len hp
 have U:=(hb.gcd (x:=a) i).len hp
 have h0:=Xw9 (a:=a) i
 have j:∀g:Int,g=(if b<0 then -(Int.gcd a b:Int) else (Int.gcd a b:Int))->D.st (.pr (dz (a.fdiv g)) (dz (b.fdiv g)))=dq (Rat.divInt a b):=λg V=>by rw[V,Xkm i,Xkn i];rfl
 have o:Xa9 b 0<0↔b<0:=by rcases Xay b 0 with ⟨I,M⟩ | ⟨I,M⟩ | ⟨I,M⟩<;>omega
 refine En Tryz.func56 λ_ _ _=>?_
 refine Ce rfl (R1.GCD_ok (by omega) (by omega))<|Ce rfl (R1.Sign_ok (by omega))<|By rfl (λh=>?_) λh=>?_
 exact Ce rfl (R1.Neg_ok (by omega))<|Dw rfl<|Ce rfl (Xcu (by omega) (by rw[W5l];omega) (by omega))<|Ce rfl (Xcu (by omega) (by rw[W5l];omega) (by omega))<|R1 rfl (.eq (j _ (by rw[if_pos (o.1 h)])))
 exact Dw rfl<|Ce rfl (Xcu (by omega) (by omega) (by omega))<|Ce rfl (Xcu (by omega) (by omega) (by omega))<|R1 rfl (.eq (j _ (by rw[if_neg (mt o.2 h)])))
theorem Frac_ok{a b:Int}(ha:-9223372036854775808<=a/\a<9223372036854775808)(hb:-9223372036854775808<=b/\b<9223372036854775808)(h:b≠0): C0 18 [.d (.int .i64 a),.d (.int .i64 b)] (·=.d (dq (Rat.divInt a b))):=by
 refine En Tryz.func18 λ_ _ _=>?_
 exact No rfl h<|Ce rfl (R1.FromInt_ok ha)<|Ce rfl (R1.FromInt_ok hb)<|Ce rfl (Make_ok (p:=64) (by unfold Zs;omega) (by unfold Zs;omega) (by decide) h)<|R0
theorem Valid_ok{x:Rat}{p:Nat}(h:Qs p x)(hp:p<=8796093022208): C0 110 [.d (dq x)] (·=.b true):=by
 have i:=h.n.len hp
 have j:=h.d.len hp
 refine En Tryz.func110 λ_ _ _=>?_
 refine Ce rfl (Xey (z:=x.num) (by omega))<|Yes rfl rfl<|Ce rfl (Xey (z:=x.den) (by omega))<|Yes rfl rfl<|Ce rfl (R1.Sign_ok (by omega))<|Yes rfl (Ypk.2 (by have:=x.den_pos;omega))<|Ce rfl (R1.GCD_ok (by omega) (by omega))<|Ce rfl Xfm<|R1 rfl (by exact(show dc ((Int.gcd x.num x.den:Int)=1)=true by rw[Xaj];exact congrArg Nat.cast (show Int.gcd x.num x.den=1 from x.reduced)) ▸ .rf rfl)
theorem Sign_ok{x:Rat}{p:Nat}(h:Qs p x)(hp:p<=8796093022208): C0 343 [.d (dq x)] (·=.d (.int .i64 (Xa9 x.num 0))):=by
 have:=h.n.len hp
 refine En Tryz.func343 λ_ _ _=>?_
 exact Ce rfl (R1.Sign_ok (by omega))<|R0
theorem Neg_ok{x:Rat}{p:Nat}(h:Qs p x)(hp:p<=8796093022208): C0 204 [.d (dq x)] (·=.d (dq (-x))):=by
 have:=h.n.len hp
 refine En Tryz.func204 λ_ _ _=>?_
 exact Dw rfl<|Ce rfl (R1.Neg_ok (by omega))<|R1 rfl (.eq (show D.st (.pr (dz (-x.num)) (dz x.den))=dq (-x) by unfold dq;rw[Rat.neg_num,Rat.neg_den]))
theorem zero_of{x:Rat}(h:((List.map wd (dig x.num.natAbs)).length:Int)=0): x=0:=by
 simp only[lw] at h
 have:=Yq5.1 (by omega:(dig x.num.natAbs).length=0)
 exact W5g.1 (by omega)
theorem Mul_ok{x y:Rat}{p q:Nat}(i:Qs p x)(j:Qs q y)(hp:p+q+1<=8796093022208): C0 114 [.d (dq x),.d (dq y)] (·=.d (dq (x*y))):=by
 have U:=i.n.len (by omega)
 have V:=i.d.len (by omega)
 have Z:=j.n.len (by omega)
 have h4:=j.d.len (by omega)
 have O:=j.d.gcd (x:=x.num) (Xcd y)
 have T:=i.d.gcd (x:=y.num) (Xcd x)
 have l1:=O.len (by omega)
 have l2:=T.len (by omega)
 have o:=@Xma x.num y.den (Xcd y)
 have I:=@Xma y.num x.den (Xcd x)
 have q1:=(i.n.fdv (g:=(Int.gcd x.num y.den:Int)) (by omega)).len (by omega)
 have q2:=(j.n.fdv (g:=(Int.gcd y.num x.den:Int)) (by omega)).len (by omega)
 have q3:=(i.d.fdv (g:=(Int.gcd y.num x.den:Int)) (by omega)).len (by omega)
 have q4:=(j.d.fdv (g:=(Int.gcd x.num y.den:Int)) (by omega)).len (by omega)
 refine En Tryz.func114 λ_ _ _=>?_
 refine Cu (some 1) (λ(b:Bool)=>[(2,.ptr 2 0),(3,.ptr 3 0),(4,.ptr 4 0),(18,.b b)]) (λ_=>[(2,.var (.d (dq x))),(3,.var (.d (dq y))),(4,.var q0)]) (λb=>b=true->x*y=0) rfl ?_ λb hb=>?_
 refine By rfl (λh=>?_) λh=>?_
 exact Jn true [] rfl λ_=>by rw[zero_of h,W3p]
 exact Jn (dc _) [] rfl λe=>by rw[zero_of (x:=y) (Xaj.1 e),W7j]
 refine By rfl (λh=>?_) λh=>?_
 exact Ce rfl (FromInt_ok (z:=0) (by decide))<|R1 rfl (.eq (show dq _=dq _ by rw[hb h];rfl))
 refine Cu (some 3) (λ(b:Bool)=>[(2,.ptr 2 0),(3,.ptr 3 0),(4,.ptr 4 0),(27,.b b)]) (λ_=>[(2,.var (.d (dq x))),(3,.var (.d (dq y))),(4,.var q0)]) (λb=>b=true->(x.den:Int)=1/\(y.den:Int)=1) rfl ?_ λb hb=>?_
 refine Ce rfl Xfm<|By rfl (λh=>?_) λh=>?_
 exact Ce rfl Xfm<|Jn (dc _) [] rfl λe=>⟨h,Xaj.1 e⟩
 exact Jn false [] rfl nofun
 refine By rfl (λh=>?_) λh=>?_
 obtain⟨M,d2⟩:=hb h
 exact Dw rfl<|Ce rfl (R1.Mul_ok (by omega) (by omega))<|R1 rfl (.eq (show D.st (.pr (dz (x.num*y.num)) (dz x.den))=dq _ by rw[Xss M d2,M];rfl))
 exact Dw rfl<|Ce rfl (R1.GCD_ok (by omega) (by omega))<|Ce rfl (R1.GCD_ok (by omega) (by omega))<|Dw rfl<|Ce rfl (Xcu (by omega) (by omega) o)<|Ce rfl (Xcu (by omega) (by omega) I)<|Ce rfl (R1.Mul_ok (by omega) (by omega))<|Ce rfl (Xcu (by omega) (by omega) I)<|Ce rfl (Xcu (by omega) (by omega) o)<|Ce rfl (R1.Mul_ok (by omega) (by omega))<|R1 rfl (.eq (show D.st (.pr (dz _) (dz _))=dq (x*y) by unfold dq;rw[Xz9,Ya9]))
theorem Add_ok{x y:Rat}{p q:Nat}(j:Qs p x)(i:Qs q y)(hp:p+q+1<=8796093022208): C0 112 [.d (dq x),.d (dq y)] (·=.d (dq (x+y))):=by
 have Z:=j.n.len (by omega)
 have h2:=j.d.len (by omega)
 have h3:=i.n.len (by omega)
 have h4:=i.d.len (by omega)
 have h5:=(j.n.mul i.d).len (by omega)
 have h6:=(i.n.mul j.d).len (by omega)
 have M:=i.d.gcd (x:=(x.den:Int)) (Xcd y)
 have k:=@Xma (x.den:Int) y.den (Xcd y)
 have o:=j.d.fdv (g:=(Int.gcd x.den y.den:Int)) (by omega)
 have I:=i.d.fdv (g:=(Int.gcd x.den y.den:Int)) (by omega)
 have U:Zs (p+q+1) (x.num*(y.den:Int).fdiv (Int.gcd x.den y.den:Int)+y.num*(x.den:Int).fdiv (Int.gcd x.den y.den:Int)):=((j.n.mul I).add (i.n.mul o)).mono (by omega)
 have V:=M.gcd (x:=x.num*(y.den:Int).fdiv (Int.gcd x.den y.den:Int)+y.num*(x.den:Int).fdiv (Int.gcd x.den y.den:Int)) k
 have O:=@Xma (x.num*(y.den:Int).fdiv (Int.gcd x.den y.den:Int)+y.num*(x.den:Int).fdiv (Int.gcd x.den y.den:Int)) _ k
 have l1:=M.len (by omega)
 have l2:=o.len (by omega)
 have l3:=I.len (by omega)
 have l4:=U.len (by omega)
 have l5:=V.len (by omega)
 have l6:=(j.n.mul I).len (by omega)
 have l7:=(i.n.mul o).len (by omega)
 have l8:=(i.d.fdv (g:=(Int.gcd (x.num*(y.den:Int).fdiv (Int.gcd x.den y.den:Int)+y.num*(x.den:Int).fdiv (Int.gcd x.den y.den:Int)) (Int.gcd x.den y.den:Int):Int)) (by omega)).len (by omega)
 refine En Tryz.func112 λ_ _ _=>?_
 refine By rfl (λh=>?_) λh=>?_
 exact R1 rfl (.eq (by rw[zero_of h,Rat.zero_add];rfl))
 refine By rfl (λh=>?_) λh=>?_
 exact R1 rfl (.eq (by rw[zero_of h,W6k];rfl))
 refine Cu (some 5) (λ(b:Bool)=>[(2,.ptr 2 0),(3,.ptr 3 0),(4,.ptr 4 0),(30,.b b)]) (λ_=>[(2,.var (.d (dq x))),(3,.var (.d (dq y))),(4,.var q0)]) (λb=>b=true->(x.den:Int)=1/\(y.den:Int)=1) rfl ?_ λb hb=>?_
 refine Ce rfl Xfm<|By rfl (λh=>?_) λh=>?_
 exact Ce rfl Xfm<|Jn (dc _) [] rfl λe=>⟨h,Xaj.1 e⟩
 exact Jn false [] rfl nofun
 refine By rfl (λh=>?_) λh=>?_
 obtain⟨T,d2⟩:=hb h
 exact Dw rfl<|Ce rfl (R1.Add_ok (by omega) (by omega))<|R1 rfl (.eq (show D.st (.pr (dz (x.num+y.num)) (dz x.den))=dq _ by rw[Xst T d2,T];rfl))
 refine Ce rfl (R1.GCD_ok (by omega) (by omega))<|Ce rfl Xfm<|By rfl (λh=>?_) λh=>?_
 exact Dw rfl<|Ce rfl (R1.Mul_ok (by omega) (by omega))<|Ce rfl (R1.Mul_ok (by omega) (by omega))<|Ce rfl (R1.Add_ok (by omega) (by omega))<|Dw rfl<|Ce rfl (R1.Mul_ok (by omega) (by omega))<|R1 rfl (.eq (show D.st (.pr (dz _) (dz _))=dq (x+y) by unfold dq;rw[(Xrx h).1,(Xrx h).2,W2r]))
 exact Dw rfl<|Ce rfl (Xcu (by omega) (by omega) k)<|Ce rfl (Xcu (by omega) (by omega) k)<|Dw rfl<|Ce rfl (R1.Mul_ok (by omega) (by omega))<|Ce rfl (R1.Mul_ok (by omega) (by omega))<|Ce rfl (R1.Add_ok (by omega) (by omega))<|Ce rfl (R1.GCD_ok (by omega) (by omega))<|Dw rfl<|Ce rfl (Xcu (by omega) (by omega) O)<|Ce rfl (Xcu (by omega) (by omega) O)<|Ce rfl (R1.Mul_ok (by omega) (by omega))<|R1 rfl (.eq (show D.st (.pr (dz _) (dz _))=dq (x+y) by unfold dq;rw[(Xrw h).1,(Xrw h).2]))
theorem Yk0{x:Rat}(h0:x≠0): dq x⁻¹=if x.num<0 then D.st (.pr (dz (-x.den)) (dz (-x.num))) else D.st (.pr (dz x.den) (dz x.num)):=by
 have i:x.num≠0:=λe=>h0 (W5g.1 e)
 unfold dq
 rw[Rat.num_inv,Rat.den_inv,if_neg i]
 split
 rename_i h
 rw[Int.sign_eq_neg_one_of_neg h,show (-1*(x.den:Int))=-x.den by omega,show ((x.num.natAbs:Nat):Int)=-x.num by omega]
 rename_i h
 rw[W6r (by omega),show (1*(x.den:Int))=x.den by omega,show ((x.num.natAbs:Nat):Int)=x.num by omega]
theorem Qs.inv{x:Rat}{p:Nat}(h:Qs p x)(h0:x≠0): Qs p x⁻¹:=by
 have i:x.num≠0:=λe=>h0 (W5g.1 e)
 have j:=h.n
 have o:=h.d
 unfold Zs at j o
 rw[W1b] at o
 constructor<;>unfold Zs
 rw[Rat.num_inv,W4d,Int.natAbs_sign_of_ne_zero i,W1b];omega
 rw[Rat.den_inv,if_neg i,W1b];exact j
theorem Inv_ok{x:Rat}{p:Nat}(i:Qs p x)(hp:p<=8796093022208)(h0:x≠0): C0 341 [.d (dq x)] (·=.d (dq x⁻¹)):=by
 have j:=i.n.len hp
 have o:=i.d.len hp
 have e:=Yk0 h0
 refine En Tryz.func341 λ_ _ _=>?_
 refine By rfl (λh=>?_) λh=>?_
 rw[if_pos h] at e
 exact Dw rfl<|Ce rfl (R1.Neg_ok (by omega))<|Ce rfl (R1.Neg_ok (by omega))<|R1 rfl (.eq e.symm)
 rw[if_neg h] at e
 exact R1 rfl (.eq e.symm)
theorem Cmp_ok{x y:Rat}{p q:Nat}(h:Qs p x)(i:Qs q y)(hp:p+q<=8796093022208): C0 111 [.d (dq x),.d (dq y)] (·=.d (.int .i64 (Xmw x y))):=by
 have j:=h.n.len (by omega)
 have o:=h.d.len (by omega)
 have I:=i.n.len (by omega)
 have M:=i.d.len (by omega)
 have O:=(h.n.mul i.d).len (by omega)
 have T:=(i.n.mul h.d).len (by omega)
 refine En Tryz.func111 λ_ _ _=>?_
 exact Dw rfl<|Ce rfl (R1.Mul_ok (by omega) (by omega))<|Ce rfl (R1.Mul_ok (by omega) (by omega))<|Ce rfl (R1.Cmp_ok (by omega) (by omega))<|R1 rfl (.eq (by rw[Xsx]))
theorem Xk1{z w:Int}(T:(dig z.natAbs).length<=549755813888): C0 345 [.d (dz z),.d (dz w)] (·=.b (dc (z=w))):=by
 refine En Tryz.func345 λ_ _ _=>?_
 refine By rfl (λh=>?_) λh=>?_
 exact R1 rfl (.bp ⟨nofun,λe=>absurd (by rw[e]) h⟩)
 have h:(z<0↔w<0):=by simpa using h
 refine By rfl (λj=>?_) λj=>?_<;>simp only[lw] at j
 exact R1 rfl (.bp ⟨nofun,λe=>absurd (by rw[e]) j⟩)
 refine Lo (λk:Nat=>[(2,.ptr 2 0),(3,.ptr 3 0),(5,.d (.int .i64 k))]) (λ_=>[(2,.var (.d (dz z))),(3,.var (.d (dz w)))]) (λk=>k<=(dig z.natAbs).length/\(dig z.natAbs).take k=(dig w.natAbs).take k) (λk=>(dig z.natAbs).length-k) 0 [] rfl ⟨by omega,rfl⟩ λk ⟨U,I⟩=>?_
 refine By rfl (λM=>?_) λM=>?_<;>simp only[lw] at M
 obtain⟨u,o⟩:=xat (l:=dig z.natAbs) (k:=k) (by omega)
 obtain⟨v,i⟩:=xat (l:=dig w.natAbs) (k:=k) (by omega)
 refine Dw rfl<|Ix k rfl (mp o)<|Ix k rfl (mp i)<|By rfl (λO=>?_) λO=>?_
 exact R1 rfl (.bp ⟨nofun,λe=>by subst e;rw[o] at i;injection i with i;omega⟩)
 refine Ar (k+1:Nat) rfl ?_
 refine Bk (k+1) [] rfl ⟨by omega,?_⟩ (by show _-(k+1)<_-k;omega)
 have j:=(W0s.1 o).1
 have M:=(W0s.1 i).1
 rw[W1w,W1w,o,i,I,show u=v by omega]
 refine R1 rfl (.bp ⟨λ_=>?_,λ_=>rfl⟩)
 rw[W0b (by omega),W0b (by omega)] at I
 have:=Xag z.natAbs
 rw[I,Xag] at this
 omega
end Go.Proofs.YtnedfplmoojbaaaGreatDoor.R2

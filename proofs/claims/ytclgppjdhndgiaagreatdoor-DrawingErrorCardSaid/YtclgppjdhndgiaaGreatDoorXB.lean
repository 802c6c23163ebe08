/- part 2 -/
import Derived.Test.YtclgppjdhndgiaaGreatDoorXA
import Derived.KernelRfl
import Derived.ProofKit
import Derived.OpenShut
import Derived.Test.YtclgppjdhndgiaaGreatDoorChecked
import Derived.Test.YtclgppjdhndgiaaGreatDoorRows
set_option linter.unusedVariables false
set_option linter.unusedSimpArgs false
set_option maxRecDepth 10000
namespace Go.Vm
open Go
section
section
variable{P:Program}{N:Nat->Prop}{W:GW}{θ:Loc}{g:Hp}{ρ:Operand->Value}
variable{tb:Nat->Option TI}{dd:Nat}{args:List AV}{v:AV}{us:List (Nat×Ob)}
theorem Yk9{l:List Operand}{a:AV}(h:Xbg W θ g ρ l [a]): ∃x,l=[x]:=by
 match l,h with
 | [x],_=>exact⟨x,rfl⟩
theorem Ygo{l:List Operand}{a b:AV}(h:Xbg W θ g ρ l [a,b]): ∃x y,l=[x,y]:=by
 match l,h with
 | [x,y],_=>exact⟨x,y,rfl⟩
 | [_],h=>exact h.2.elim
 | _::_::_::_,h=>exact h.2.2.elim
def Xdu: Op->Bool
 | .store _ _ _=>true
 | _=>false
theorem Yqq(hT:∀T ti,tb T=some ti->TyOk P T ti/\∀a c,ti.z≠.pr a c)(hO:Obs W θ N g)(hN:∀b,W.size<=b->N b)(hB:dd<1000000)(hy:∀u,ρ (.const u)=u){d:Option Nat}{op:Op}{ty:TypeId}{pos:String}{aft:Array Edge}{gd:Option (Nat×Bool)}
 (hs:Xdu op=true->d=none) (hF:F tb dd g op args=some (v,us)) (ha:Xbg W θ g ρ op.operands.toList args):Good P N W θ g ρ ⟨d,op,ty,pos,aft,gd⟩ v (Xbz g us):=by
 have hT1:∀T ti,tb T=some ti->TyOk P T ti:=λT ti h=>(hT T ti h).1
 have pp:∀ {op:Op},F tb dd g op args=(match Fp tb op args with | some v=>some (v,[]) | none=>none)->F tb dd g op args=some (v,us)->Fp tb op args=some v/\us=[]:=by
  intro op h1 h2
  rw[h1] at h2
  split at h2<;>cases h2
  rename_i h;exact⟨h,rfl⟩
 cases op with
 | load T x=>obtain⟨rfl,h⟩:=Yne (d:=d) (ty:=ty) (pos:=pos) (aft:=aft) (gd:=gd) hT hO hF ha;exact h
 | store T x y=>have:=hs rfl;subst this;exact Ymv hT hO hF ha
 | alloc T =>
  have:args=[]:=by
   match args,ha with
   | [],_=>rfl
  subst this;exact Yoa hT hO hN hB hF
 | box T x=>exact Yn3 hO hN hB hF ha
 | makeSlice T x y=>exact Ync hT hO hN hB hF ha
 | move x=>obtain⟨h,rfl⟩:=pp rfl hF;exact Yna hO h ha
 | assign x=>obtain⟨h,rfl⟩:=pp rfl hF;exact Yn9 hO h ha
 | pick c x y=>obtain⟨h,rfl⟩:=pp rfl hF;exact Yeo hO h ha
 | extract x i=>obtain⟨h,rfl⟩:=pp rfl hF;exact Yj8 hO h ha
 | unOp u T x=>obtain⟨h,rfl⟩:=pp rfl hF;exact Ymo hO h ha
 | binOp o T x y T'=>obtain⟨h,rfl⟩:=pp rfl hF;exact Yk5 hT1 hO h ha (λu e=>by rw[e];exact hy u)
 | convert S T x=>obtain⟨h,rfl⟩:=pp rfl hF;exact Yf9 hT1 hO h ha
 | nilCheck x=>obtain⟨h,rfl⟩:=pp rfl hF;exact Ye0 hO h ha
 | fieldAddr T x f=>obtain⟨h,rfl⟩:=pp rfl hF;exact Yj6 hT1 hO h ha
 | field T x f=>obtain⟨h,rfl⟩:=pp rfl hF;exact Yj1 hT1 hO h ha
 | indexAddr T x y=>obtain⟨h,rfl⟩:=pp rfl hF;exact Yjt hT1 hO h ha
 | index T x y=>obtain⟨h,rfl⟩:=pp rfl hF;exact Yjr hT1 hO h ha
 | slice T x lo hi mx =>
  obtain⟨h,rfl⟩:=pp rfl hF
  exact Yh8 hT1 hO h (by simpa [Op.operands] using ha)
 | build T ps =>
  obtain⟨h,rfl⟩:=pp rfl hF
  exact Yk2 hT1 hO h (by simpa [Op.operands] using ha)
 | buildSlice T n ps =>
  obtain⟨h,rfl⟩:=pp rfl hF
  exact Yn5 hT hO h (by simpa [Op.operands] using ha)
 | makeFunc fn a b =>
  obtain⟨h,rfl⟩:=pp rfl hF
  obtain⟨a⟩:=a
  obtain⟨b⟩:=b
  cases a with
  | cons x l=>simp[Fp] at h
  | nil=>cases b with
   | cons x l =>
    simp only[Fp] at h
    split at h
    . rename_i e;cases e
    . rename_i e
      cases e
      injection h with h
      subst h
      exact Ye5 hO (by simpa [Op.operands] using ha)
    . rename_i e
      cases e
      split at h<;>cases h
      rename_i hc
      exact Ye4 hO (by simpa [Op.operands] using ha) hc
    . cases h
   | nil=>exact Yjb (tb:=tb) (args:=args) hO h
 | call c =>
  obtain⟨cal,asx,tys⟩:=c
  cases cal with
  | builtin b =>
   have ha':Xbg W θ g ρ asx.toList args:=by simpa [Op.operands,Call.operands] using ha
   have has:asx=asx.toList.toArray:=by simp
   cases b with
   | len =>
    obtain⟨h,rfl⟩:=pp rfl hF
    have:∃a,args=[a]:=by
     simp only[Fp] at h
     split at h<;>try cases h
     exact⟨_,rfl⟩
    obtain⟨a,rfl⟩:=this
    obtain⟨x,hx⟩:=Yk9 ha'
    rw[hx] at has ha';subst has
    exact Yji hT1 hO h ha'
   | cap =>
    obtain⟨h,rfl⟩:=pp rfl hF
    have:∃a,args=[a]:=by
     simp only[Fp] at h
     split at h<;>try cases h
     exact⟨_,rfl⟩
    obtain⟨a,rfl⟩:=this
    obtain⟨x,hx⟩:=Yk9 ha'
    rw[hx] at has ha';subst has
    exact Yky hT1 hO h ha'
   | min =>
    obtain⟨h,rfl⟩:=pp rfl hF
    have:∃a c,args=[a,c]:=by
     simp only[Fp] at h
     split at h<;>try cases h
     exact⟨_,_,rfl⟩
    obtain⟨a,c,rfl⟩:=this
    obtain⟨x,y,hx⟩:=Ygo ha'
    rw[hx] at has ha';subst has
    exact Yjd hO h ha'
   | max =>
    obtain⟨h,rfl⟩:=pp rfl hF
    have:∃a c,args=[a,c]:=by
     simp only[Fp] at h
     split at h<;>try cases h
     exact⟨_,_,rfl⟩
    obtain⟨a,c,rfl⟩:=this
    obtain⟨x,y,hx⟩:=Ygo ha'
    rw[hx] at has ha';subst has
    exact Yjg hO h ha'
   | append =>
    have:∃a c T T',args=[a,c]/\tys=#[T,T']:=by
     obtain⟨tl⟩:=tys
     match tl,hF with
     | [T,T'],hF =>
      simp only[F] at hF
      split at hF<;>try cases hF
      exact⟨_,_,T,T',rfl,rfl⟩
     | [],hF=>simp[F,Fp] at hF
     | [_],hF=>simp[F,Fp] at hF
     | _::_::_::_,hF=>simp[F,Fp] at hF
    obtain⟨a,c,T,T',rfl,rfl⟩:=this
    obtain⟨x,y,hx⟩:=Ygo ha'
    rw[hx] at has ha';subst has
    exact Yld hT hO hN hB hF ha'
   | _=>simp[F,Fp] at hF
  | _=>simp[F,Fp] at hF
 | _=>simp[F,Fp] at hF
end
end
section
def ofV: Value->Option AV
 | .int k z=>match k.wrap z==z with
  | true=>some (.d (.int k z))
  | false=>none
 | .bool c=>some (.b c)
 | .string ⟨⟨s⟩⟩=>match Nat.blt s.length 9223372036854775808 with
  | true=>some (.d (.str s))
  | false=>none
 | .slice none 0 0=>some .nil
 | .func f a b=>some (.d (.raw (.func f a b)))
 | .pointer none=>some (.d (.raw (.pointer none)))
 | .nilFunc=>some (.d (.raw .nilFunc))
 | _=>none
def Xcl(e:Ev): Operand->Option AV
 | .tmp t=>e t
 | .const v=>ofV v
 | .func f=>some (.d (.raw (.func (.func f) #[] #[])))
 | .global _=>none
def getEs(e:Ev): List Operand->Option (List AV)
 | []=>some []
 | x::l=>match Xcl e x with
  | none=>none
  | some a=>match getEs e l with
   | none=>none
   | some asx=>some (a::asx)
abbrev S:=Ev×Hp
def S.put(s:S)(d:Option Nat)(v:AV): S:=match d with
 | some d=>(upd s.1 d v,s.2)
 | none=>s
noncomputable def eff(tb:Nat->Option TI)(o:Oper)(s:S): Option (AV×List (Nat×Ob)) :=
 match getEs s.1 o.op.operands.toList with
 | none=>none
 | some asx=>match Xdu o.op&&o.dst.isSome with
  | true=>none
  | false=>F tb (o.dst.getD 0) s.2 o.op asx
def Xm2(ops:List Oper)(j:Nat): Option Nat:=match ops,j with
 | [],_=>none
 | o::_,0=>o.dst
 | _::l,j+1=>Xm2 l j
def want(L:List Oper)(o:Oper)(s:S): Option Bool:=match o.guard with
 | none=>some true
 | some (j,b)=>match Xm2 L j with
  | none=>none
  | some t=>match s.1 t with
   | some (.b c)=>some (c==b)
   | some .un=>some false
   | _=>none
def Xi5(W:GW)(θ:Loc): List AV->List Value->Prop
 | [],[]=>True
 | a::asx,v::vs=>AV.V W θ a v/\Xi5 W θ asx vs
 | _,_=>False
def Yof (P : Program) (f : FuncId) : Prop := ∃ fn, P.funcs[f]? = some fn ∧ (fn.name == "runtime.NumGoroutine") = false ∧ fn.body.isSome = true
class Gb (P:Program) where
 g:GW->Prop
 mono:∀W W',LeF W W'->g W->g W'
def CS(P:Program)[Gb P](f:FuncId)(asx:List AV)(g:Hp)(Post:AV->Hp->Prop): Prop :=
 Yof P f/\∀(N:Nat->Prop) W θ vs,Gb.g P W->Obs W θ N g->(∀b,W.size<=b->N b)->(∀a∈asx,∀i,a.ids i->∃y,g i=some y)->Xi5 W θ asx vs ->
  Calls P f vs.toArray W.w λe w'=>∃W' θ' v u g',e=.returned u/\W'.w=w'/\Stp N W W' θ θ' g g'/\AV.V W' θ' v u/\(∀i,v.ids i->∃y,g' i=some y)/\Post v g'
noncomputable def Xi9(tb:Nat->Option TI): List TypeId->List AV->List AV
 | T::Ts,a::asx=>(match tb T with
  | some ti=>match plain a,toD ti.z a with
   | true,some x=>.d x
   | _,_=>a
  | none=>a)::Xi9 tb Ts asx
 | _,asx=>asx
def callee(e:Ev)(x:Operand): Option (FuncId×List AV):=match Xcl e x with
 | some (.d (.raw (.func (.func f) ⟨[]⟩ ⟨[]⟩)))=>some (f,[])
 | some (.fn f o)=>some (f,[.ptr o 0])
 | some (.fm f a)=>match okA a with
  | true=>some (f,unA a)
  | false=>none
 | _=>none
def aft(s:S)(o:Oper)(r:AV×List (Nat×Ob)): S:=S.put (s.1,Xbz s.2 r.2) o.dst r.1
def Nu(nw:Bool)(o:Oper)(us:List (Nat×Ob)): Prop:=us=[]\/(nw=true/\∃d ob,o.dst=some d/\us=[(d,ob)])
def Cd(P:Program)[Gb P](f:FuncId)(asx:List AV)(o:Oper)(g:Hp)(nw:Bool)(H0:Hp)(Q:AV×List (Nat×Ob)->Prop): Prop :=
 (nw=true->∃d,o.dst=some d/\g d=none)/\(∀i y,H0 i=some y->g i=some y/\∃a∈asx,a.ids i) /\
 ∀g,(∀i y,H0 i=some y->g i=some y)->(nw=true->∀d,o.dst=some d->g d=none)->CS P f asx g λv g'=>∃us,Nu nw o us/\g'=Xbz g us/\Q (v,us)
def Raw(P:Program)[Gb P](o:Oper)(s:S)(r:AV×List (Nat×Ob)): Prop :=
 ∀(N:Nat->Prop) (W:GW) (θ:Loc) (ρ:Operand->Value),(Gb.g P W/\∀g,ρ (.global g)=.pointer (some ⟨g,0,none⟩))->Obs W θ N s.2->(∀b,W.size<=b->N b)->o.dst.getD 0<1000000->(∀x v,Xcl s.1 x=some v->AV.V W θ v (ρ x))->Good P N W θ s.2 ρ o r.1 (Xbz s.2 r.2)
def Wb(P:Program)[Gb P](tb:Nat->Option TI)(dr:Bool)(o:Oper)(R:S->Prop)(s:S): Prop :=
 match o.op with
 | .call ⟨.value x,asx,tys⟩=>∃f ex vs,callee s.1 x=some (f,ex)/\getEs s.1 asx.toList=some vs/\match dr with
  | true=>∃nw H0 Q,Cd P f (Xi9 tb tys.toList vs++ex) o s.2 nw H0 Q/\∀r,Nu nw o r.2->Q r->R (aft s o r)
  | false=>∃as' Post,(as'=Xi9 tb tys.toList vs\/as'=vs)/\CS P f (as'++ex) s.2 Post/\∀v g',Post v g'->R (S.put (s.1,g') o.dst v)
 | _=>(∃r,eff tb o s=some r/\R (S.put (s.1,Xbz s.2 r.2) o.dst r.1))\/(dr=false/\∃r,Raw P o s r/\R (S.put (s.1,Xbz s.2 r.2) o.dst r.1))
def Wo(P:Program)[Gb P](tb:Nat->Option TI)(dr:Bool)(L:List Oper)(o:Oper)(R:S->Prop)(s:S): Prop :=
 (want L o s=some true/\Wb P tb dr o R s)\/(want L o s=some false/\∃d,o.dst=some d/\R (s.put (some d) .un))
section
variable{P:Program}{tb:Nat->Option TI}{W:GW}{θ:Loc}{n:Nat}
theorem Yiz{v:Value}{a:AV}(h:ofV v=some a): AV.V W θ a v/\∀i,¬a.ids i:=by
 unfold ofV at h
 split at h<;>try cases h
 . split at h<;>cases h
   rename_i hw
   exact⟨int_V (by unfold inR;simpa using hw),λ_ h=>h⟩
 . exact⟨b_V _,λ_ h=>h⟩
 . split at h<;>cases h
   rename_i hb
   exact⟨Xlt (by simpa [Nat.blt_eq] using hb),λ_ h=>h⟩
 . exact⟨⟨_,⟨_,rfl⟩,rfl⟩,λ_ h=>h⟩
 . exact⟨⟨_,⟨rfl,rfl⟩,rfl⟩,λ_ h=>h⟩
 . exact⟨⟨_,⟨rfl,rfl⟩,rfl⟩,λ_ h=>h⟩
 . exact⟨⟨_,⟨rfl,rfl⟩,rfl⟩,λ_ h=>h⟩
theorem Xil{W0:GW}{X:Nat->Prop}{s:S}{a:Act}(h:Sat W0 X n s a W θ){x:Operand}{v:AV}(hx:Xcl s.1 x=some v): AV.V W θ v (a.eval x)/\∀i,v.ids i->∃y,s.2 i=some y:=by
 cases x with
 | tmp t=>exact⟨h.rel.has t v hx,λi hi=>h.ids t v i hx hi⟩
 | const c=>have k:=Yiz (W:=W) (θ:=θ) hx;exact⟨k.1,λi hi=>absurd hi (k.2 i)⟩
 | func f=>simp only[Xcl,Option.some.injEq] at hx;subst hx;exact⟨⟨_,⟨rfl,rfl⟩,rfl⟩,λ_ h=>h.elim⟩
 | global g=>simp[Xcl] at hx
theorem Xoo{W0:GW}{X:Nat->Prop}{s:S}{a:Act}(h:Sat W0 X n s a W θ): ∀ {l:List Operand} {vs:List AV},getEs s.1 l=some vs->Xbg W θ s.2 a.eval l vs
 | [],vs,hx=>by simp only[getEs] at hx;injection hx with hx;subst hx;trivial
 | x::l,vs,hx=>by
  simp only[getEs] at hx
  split at hx<;>try cases hx
  rename_i v hv
  split at hx<;>cases hx
  rename_i asx has
  exact⟨Xil h hv,Xoo h has⟩
theorem Xjf{W0:GW}{X:Nat->Prop}{s:S}{a:Act}(h:Sat W0 X n s a W θ){L:List Oper}{o:Oper}{c:Bool}(hw:want L o s=some c): Region.wanted o (yielded L.toArray a.tmps)=c:=by
 unfold want at hw
 unfold Region.wanted
 split at hw
 . rename_i hg;injection hw with hw;subst hw;rw[hg]
 . rename_i j b hg
   rw[hg]
   split at hw<;>try cases hw
   rename_i t ht
   have hd:∀(l:List Oper) j,Xm2 l j=(l[j]?).bind (·.dst):=by
    intro l
    induction l with
    | nil=>intro j;simp[Xm2]
    | cons o l ih=>intro j;cases j with
     | zero=>rfl
     | succ j=>simp[Xm2,ih]
   rw[hd] at ht
   split at hw<;>cases hw
   . rename_i cc hv
     have h1:=V_b (h.rel.has t _ hv)
     have h2:a.tmps[t]?=some (.bool cc):=by
      simp only[Array.getD] at h1
      split at h1
      . rename_i hlt
        rw[W6v hlt]
        exact congrArg some h1
      . simp[undef] at h1
     simp[yielded,ht,h2]
   . rename_i hv
     have h1:a.tmps.getD t undef=undef:=h.rel.has t _ hv
     have h2:a.tmps[t]?=none\/a.tmps[t]?=some undef:=by
      simp only[Array.getD] at h1
      split at h1
      . rename_i hlt
        rw[W6v hlt]
        exact .inr (congrArg some h1)
      . rename_i hlt;exact .inl (W3w (by omega))
     rcases h2 with h2 | h2<;>simp[yielded,ht,h2,undef]
theorem Yhx{z:D}{a:AV}{x:D}(h:toD z a=some x)(hp:plain a=true): a.ag=x.ag:=by
 unfold toD at h
 split at h
 all_goals first
  | (injection h with h;subst h;rfl)
  | (cases hp;done)
  | (cases h;done)
  | (split at h<;>cases h;rfl)
theorem Xqv{g:Hp}{ρ:Operand->Value}(hT:∀T ti,tb T=some ti->TyOk P T ti/\∀a c,ti.z≠.pr a c): ∀ {Ts:List TypeId} {l:List Operand} {asx:List AV},Xbg W θ g ρ l asx ->
 Xi5 W θ (Xi9 tb Ts asx) (l.map ρ)/\∀a∈Xi9 tb Ts asx,∀i,a.ids i->∃y,g i=some y
 | [],[],[],_=>⟨trivial,λa h=>by simp[Xi9] at h⟩
 | T::Ts,[],[],_=>⟨trivial,λa h=>by simp[Xi9] at h⟩
 | [],x::l,a::asx,h=>by
  have k:=Xqv (Ts:=[]) hT h.2
  simp only[Xi9] at k |-
  exact⟨⟨h.1.1,k.1⟩,λb hb=>by
   rcases W1i.1 hb with e | e
   . subst e;exact h.1.2
   . exact k.2 b e⟩
 | T::Ts,x::l,a::asx,h=>by
  have k:=Xqv (Ts:=Ts) hT h.2
  have key:∀b,b=a\/(∃x,b=.d x/\plain a=true/\∃z,toD z a=some x)->Xi5 W θ (b::Xi9 tb Ts asx) ((x::l).map ρ)/\∀c∈b::Xi9 tb Ts asx,∀i,c.ids i->∃y,g i=some y:=by
   intro b hb
   rcases hb with rfl | ⟨y,rfl,hp,z,hz⟩
   . exact⟨⟨h.1.1,k.1⟩,λc hc=>by
      rcases W1i.1 hc with e | e
      . subst e;exact h.1.2
      . exact k.2 c e⟩
   . refine⟨⟨?_,k.1⟩,λc hc=>by
      rcases W1i.1 hc with e | e
      . subst e;exact λ_ h=>h.elim
      . exact k.2 c e⟩
     obtain⟨cs,hc,e⟩:=V_c h.1.1 (λb e=>by subst e;cases hp) (λe=>by subst e;cases hp)
     have h1:=Xls hz hc
     refine⟨cs,h1,?_⟩
     show ρ x=_
     rw[e]
     have:a.ag=y.ag:=Yhx hz hp
     rw[this];rfl
  simp only[Xi9]
  refine key _ ?_
  split
  . split
    . rename_i hp hx;exact .inr ⟨_,rfl,hp,_,hx⟩
    . exact .inl rfl
  . exact .inl rfl
 | _,[],_::_,h=>h.elim
 | _,_::_,[],h=>h.elim
end
end
section
def Nx(W0:GW)(X:Nat->Prop)(θ0:Loc)(n:Nat)(R:S->Prop)(a:Act)(w:World): Prop :=
 ∃s W θ,W.w=w/\Sat W0 X n s a W θ/\(∀i,1000000<=i->θ i=θ0 i)/\R s
theorem Nx.mono{W0:GW}{X:Nat->Prop}{θ0:Loc}{n:Nat}{R R':S->Prop}{a:Act}{w:World}(h:Nx W0 X θ0 n R a w)(k:∀s,R s->R' s): Nx W0 X θ0 n R' a w :=
 let ⟨s,W,θ,h1,h2,h3,h4⟩:=h;⟨s,W,θ,h1,h2,h3,k s h4⟩
def Xeb(n:Nat)(o:Oper): Bool:=match o.dst with
 | none=>true
 | some d=>Nat.blt d n
section
variable{P:Program}[Gb P]{tb:Nat->Option TI}{W0:GW}{X:Nat->Prop}{θ0:Loc}{n:Nat}
theorem Xt6{s:S}{a:Act}{W W':GW}{θ θ':Loc}{g':Hp}{v:AV}{u:Value}{o:Oper}(h:Sat W0 X n s a W θ)(k:Stp (λb=>W0.size<=b\/X b) W W' θ θ' s.2 g')(hd:Xeb n o=true)(hv:AV.V W' θ' v u)
 (hi:∀i,v.ids i->∃y,g' i=some y):Sat W0 X n (S.put (s.1,g') o.dst v) (a.put o.dst u) W' θ':=by
 have h1:=h.step0 k
 unfold Xeb at hd
 cases e:o.dst with
 | none=>exact h1
 | some d =>
  rw[e] at hd
  exact h1.put (Xqy hd) hv hi
theorem Ycm{a:AV}{W:GW}{θ:Loc}{cs:List Value}(h:Yco a=true)(hc:AV.C W θ a cs): ∃v,cs=[v]/\AV.V W θ a v:=by
 unfold Yco at h
 split at h<;>try cases h
 all_goals first
  | (obtain⟨b,h1,h2⟩:=hc;exact⟨_,h2,⟨_,⟨b,h1,rfl⟩,rfl⟩⟩)
  | (obtain⟨h1,h2⟩:=hc;exact⟨_,h1,⟨_,⟨rfl,h2⟩,rfl⟩⟩)
  | (exact⟨_,hc,⟨_,rfl,rfl⟩⟩)
theorem Ymp{W:GW}{θ:Loc}: ∀ {a:AV} {vs:List Value},okA a=true->AV.C W θ a vs->Xi5 W θ (unA a) vs/\∀b∈unA a,∀i,b.ids i->a.ids i:=by
 intro a
 induction a with
 | pr a c _ ih =>
  intro vs h ⟨u,v,e,h1,h2⟩
  simp only[okA,W0f] at h
  obtain⟨w,rfl,hw⟩:=Ycm h.1 h1
  obtain⟨k1,k2⟩:=ih h.2 h2
  subst e
  exact⟨⟨hw,k1⟩,λb hb i hi=>(W1i.1 hb).elim (λe=>.inl (e ▸ hi)) λhb=>.inr (k2 b hb i hi)⟩
 | _ =>
  intro vs h hc
  obtain⟨w,rfl,hw⟩:=Ycm h hc
  exact⟨⟨hw,trivial⟩,λb hb i hi=>by rcases W0g.1 hb with rfl;exact hi⟩
theorem Yod(hT:∀T ti,tb T=some ti->TyOk P T ti/\∀a c,ti.z≠.pr a c)(hn:n<=1000000/\Gb.g P W0){dr:Bool}{o:Oper}(hd:Xeb n o=true){R:S->Prop}{Q:Exit->Act->World->Prop}{s:S}{a:Act}{W:GW}{θ:Loc}(hs:Sat W0 X n s a W θ)
 (hθ:∀i,1000000<=i->θ i=θ0 i) (h:Wb P tb dr o R s):o.wp P a W.w (Nx W0 X θ0 n R) Q:=by
 have hN:∀b,W.size<=b->(λb=>W0.size<=b\/X b) b:=λb hb=>.inl (W0l hs.fm.size hb)
 unfold Wb at h
 split at h
 . rename_i x asx tys he
   obtain⟨f,ex,vs,hc,hg,h⟩:=h
   have h:∃as' Post,(as'=Xi9 tb tys.toList vs\/as'=vs)/\CS P f (as'++ex) s.2 Post/\∀v g',Post v g'->R (S.put (s.1,g') o.dst v):=by
    cases dr with
    | true =>
     obtain⟨nw,H0,Q,⟨h1,h2,h3⟩,h4⟩:=h
     exact⟨_,_,.inl rfl,h3 s.2 (λi y hi=>(h2 i y hi).1) (λhn d hd=>by obtain⟨d',e,k⟩:=h1 hn;rw[hd] at e;injection e with e;subst e;exact k),λv g' ⟨us,u1,u2,u3⟩=>by rw[u2];exact h4 (v,us) u1 u3⟩
    | false=>exact h
   obtain⟨as',Post,has',⟨⟨fn,f1,f2,f3⟩,hcs⟩,hR⟩:=h
   have ha:=Xoo hs hg
   have hna:Xi5 W θ as' (asx.toList.map a.eval)/\∀a∈as',∀i,a.ids i->∃y,s.2 i=some y:=by
    rcases has' with rfl | rfl
    . exact Xqv (Ts:=tys.toList) hT ha
    . have:=Xqv (Ts:=[]) hT ha
      simpa only [Xi9] using this
   have hb:¬fn.body=none:=λh=>by rw[h] at f3;cases f3
   have h2' : ¬ fn.name = "runtime.NumGoroutine" := by simpa using f2
   obtain⟨exs,hr,hex⟩:∃exs:List Value,(execOp a.eval o).run P W.w=.ok (.enter f (asx.toList.map a.eval++exs).toArray) W.w/\Xi5 W θ ex exs/\∀a∈ex,∀i,a.ids i->∃y,s.2 i=some y:=by
    unfold callee at hc
    split at hc<;>try cases hc
    . rename_i hx
      have hx:a.eval x=.func (.func f) #[] #[]:=by
       obtain⟨⟨cs,⟨h1,_⟩,h2⟩,_⟩:=Xil hs hx
       rw[h2,h1];rfl
      refine⟨[],?_,trivial,λa h=>by cases h⟩
      simp only[execOp,he,resolve,hx,Deferred.ofValue]
      simp[invoke,callFunc,program,bind,Sem.bind,Sem.run,pure,f1,h2',hb]
      apply Array.ext';simp
    . rename_i o' hx
      obtain⟨⟨cs,⟨b,h1,h2⟩,h3⟩,h4⟩:=Xil hs hx
      have hx:a.eval x=.func (.func f) #[] #[.pointer (some ⟨b,0,none⟩)]:=by rw[h3,h2];rfl
      refine⟨[.pointer (some ⟨b,0,none⟩)],?_,⟨Xsc h1,trivial⟩,λa h i hi=>by rcases W0g.1 h with rfl;exact h4 i hi⟩
      simp only[execOp,he,resolve,hx,Deferred.ofValue]
      simp[invoke,callFunc,program,bind,Sem.bind,Sem.run,pure,f1,h2',hb]
      apply Array.ext';simp
    . rename_i a' hx
      split at hc<;>cases hc
      rename_i hq
      obtain⟨⟨cs,⟨vs',h1,h2⟩,h3⟩,h4⟩:=Xil hs hx
      have hx:a.eval x=.func (.func f) #[] vs'.toArray:=by rw[h3,h2];rfl
      obtain⟨k1,k2⟩:=Ymp hq h1
      refine⟨vs',?_,k1,λa h i hi=>h4 i (k2 a h i hi)⟩
      simp only[execOp,he,resolve,hx,Deferred.ofValue]
      simp[invoke,callFunc,program,bind,Sem.bind,Sem.run,pure,f1,h2',hb]
   have happ:∀ {l:List AV} {m:List Value},Xi5 W θ l m->Xi5 W θ (l++ex) (m++exs):=by
    intro l
    induction l with
    | nil=>intro m hm;cases m with
     | nil=>exact hex.1
     | cons _ _=>exact hm.elim
    | cons a l ih=>intro m hm;cases m with
     | nil=>exact hm.elim
     | cons _ _=>exact⟨hm.1,ih hm.2⟩
   unfold Oper.wp
   rw[hr,Oper.upon_enter]
   refine(hcs (λb=>W0.size<=b\/X b) W θ _ (Gb.mono W0 W hs.fm.le hn.2) hs.obs hN (λa ha=>(W2j.1 ha).elim (hna.2 a) (hex.2 a)) (happ hna.1)).mono ?_
   rintro e w' ⟨W',θ',v,u,g',rfl,rfl,hst,hv,hi,hp⟩
   exact⟨_,W',θ',rfl,Xt6 hs hst hd hv hi,λi hi=>(hst.hi i hi).trans (hθ i hi),hR v g' hp⟩
 . have hdB:o.dst.getD 0<1000000:=by
    unfold Xeb at hd
    cases e:o.dst with
    | none=>exact W3x _
    | some d=>rw[e] at hd;exact W0s (Xqy hd) hn.1
   have hg:∃v us,Good P (λb=>W0.size<=b\/X b) W θ s.2 a.eval ⟨o.dst,o.op,o.type,o.pos,o.after,o.guard⟩ v (Xbz s.2 us)/\R (S.put (s.1,Xbz s.2 us) o.dst v):=by
    rcases h with ⟨⟨v,us⟩,he,hR⟩ | ⟨_,⟨v,us⟩,hw,hR⟩
    . unfold eff at he
      split at he<;>try cases he
      rename_i asx has
      split at he<;>try cases he
      rename_i hst
      exact⟨v,us,Yqq hT hs.obs hN hdB (λ_=>rfl) (λh=>by
       rw[h,W6q] at hst
       cases e:o.dst with
       | none=>rfl
       | some d=>rw[e] at hst;cases hst) he (Xoo hs has),hR⟩
    . exact⟨v,us,hw _ W θ _ ⟨Gb.mono W0 W hs.fm.le hn.2,λ_=>rfl⟩ hs.obs hN hdB λx v hx=>(Xil hs hx).1,hR⟩
   obtain⟨v,us,hg,hR⟩:=hg
   obtain⟨W',θ',r,hrun,hstp,hres,hi⟩:=hg
   unfold Oper.wp
   rw[show (execOp a.eval o).run P W.w=.ok r W'.w from hrun]
   rcases hres with ⟨rfl,h0⟩ | ⟨u,rfl,hv⟩
   . rw[Oper.upon_skip]
     have h0:o.dst=none:=h0
     rw[h0] at hR |-
     exact⟨_,W',θ',rfl,hs.step0 hstp,λi hi=>(hstp.hi i hi).trans (hθ i hi),hR⟩
   . rw[Oper.upon_value]
     exact⟨_,W',θ',rfl,Xt6 hs hstp hd hv hi,λi hi=>(hstp.hi i hi).trans (hθ i hi),hR⟩
theorem Ygv(hT:∀T ti,tb T=some ti->TyOk P T ti/\∀a c,ti.z≠.pr a c)(hn:n<=1000000/\Gb.g P W0){dr:Bool}{L:List Oper}{o:Oper}(hd:Xeb n o=true){R:S->Prop}{Q:Exit->Act->World->Prop}{a:Act}{w:World}
 (h:Nx W0 X θ0 n (Wo P tb dr L o R) a w):if Region.wanted o (yielded L.toArray a.tmps) then o.wp P a w (Nx W0 X θ0 n R) Q else Nx W0 X θ0 n R (a.put o.dst undef) w:=by
 obtain⟨s,W,θ,rfl,hs,hθ,h⟩:=h
 rcases h with ⟨h1,h2⟩ | ⟨h1,d,h2,h3⟩
 . rw[if_pos (Xjf hs h1)]
   exact Yod hT hn hd hs hθ h2
 . rw[Xjf hs h1]
   unfold Xeb at hd
   rw[h2] at hd |-
   exact⟨_,W,θ,rfl,hs.put (v:=.un) (Xqy hd) rfl (λ_ h=>h.elim),hθ,h3⟩
omit [Gb P] in
theorem Ymi{o:Oper}{a:Act}{w:World}{K:Act->World->Prop}(h:o.wp P a w K (λ_ _ _=>False)): ∃a' w',K a' w':=by
 unfold Oper.wp at h
 generalize (execOp a.eval o).run P w=r at *
 cases r with
 | ok x w' =>
  cases x<;>simp only[Oper.upon] at h
  all_goals first
   | exact⟨_,_,h⟩
   | (obtain⟨e, w2, fr, hR, _⟩ := h []
      cases e with
      | returned v=>exact⟨_,_,hR⟩
      | panicked c=>exact hR.elim
      | outgrown=>obtain⟨_,_,h⟩:=hR;exact h.elim)
   | (obtain⟨v, w2, hR, _⟩ := h default []
      exact⟨_,_,hR⟩)
   | exact h.elim
 | halt x w'=>cases x<;>simp only[Oper.upon] at h<;>exact h.elim
theorem Nx.next(hT:∀T ti,tb T=some ti->TyOk P T ti/\∀a c,ti.z≠.pr a c)(hn:n<=1000000/\Gb.g P W0){dr:Bool}{L:List Oper}{o:Oper}(hd:Xeb n o=true){R:S->Prop}{a:Act}{w:World}(h:Nx W0 X θ0 n (Wo P tb dr L o R) a w):
 ∃a' w',Nx W0 X θ0 n R a' w':=by
 have:=Ygv (Q:=λ_ _ _=>False) hT hn hd h
 split at this
 . exact Ymi this
 . exact⟨_,_,this⟩
def WL(P:Program)[Gb P](tb:Nat->Option TI)(dr:Bool)(L:List Oper)(R:S->Prop): List Oper->S->Prop
 | [],s=>R s
 | o::l,s=>Wo P tb dr L o (WL P tb dr L R l) s
theorem Xyk(hT:∀T ti,tb T=some ti->TyOk P T ti/\∀a c,ti.z≠.pr a c)(hn:n<=1000000/\Gb.g P W0){L:List Oper}{R:S->Prop}{Q:Exit->Act->World->Prop}(hQ:∀a w,Nx W0 X θ0 n R a w->Q .normal a w)(l:List Oper):
 ∀(i:Nat) (a:Act) (w:World),L.drop i=l->(l.all (Xeb n))=true->Nx W0 X θ0 n (WL P tb false L R l) a w->wpOps P L.toArray Q (List.range' i l.length) a w:=by
 induction l with
 | nil=>intro i a w _ _ h;exact hQ a w h
 | cons o l ih =>
  intro i a w hd hok h
  rw[W6r,W0f] at hok
  have ho:L.toArray[i]?=some o:=by
   have h1:(L.drop i)[0]?=some o:=by rw[hd];rfl
   rw[W2f] at h1
   simpa using h1
  have hl:L.drop (i+1)=l:=by
   have:(L.drop i).drop 1=l:=by rw[hd];rfl
   rwa[W4s] at this
  rw[W0k,List.range'_succ]
  simp only[wpOps,ho]
  have:=Ygv (Q:=Q) hT hn hok.1 h
  split at this
  . rename_i hw
    rw[if_pos hw]
    exact .inl (Oper.wp_mono (λa w h=>ih (i+1) a w hl hok.2 h) this)
  . rename_i hw
    rw[if_neg hw]
    exact ih (i+1) _ w hl hok.2 this
end
end
section
def Xf8: List Operand->List Nat
 | []=>[]
 | .tmp t::l=>t::Xf8 l
 | _::l=>Xf8 l
def inL(d:Nat): List Nat->Bool
 | []=>false
 | x::l=>Nat.beq d x||inL d l
def Xn3(L:List Oper)(o:Oper): List Nat:=(match o.guard with
 | none=>[]
 | some (j,_)=>(Xm2 L j).toList)++Xf8 o.op.operands.toList
def cls: Op->Nat
 | .load _ _=>1
 | .alloc _ | .box _ _ | .makeSlice _ _ _=>2
 | .store _ _ _=>3
 | .call ⟨.builtin .append,_,_⟩=>3
 | .call ⟨.value _,_,_⟩=>4
 | _=>0
def Yaw: Nat->Nat->Bool
 | 0,_=>true
 | _,0=>true
 | 1,1 | 1,2 | 2,1 | 2,2=>true
 | 4,1 | 4,2 | 1,4 | 2,4=>true
 | _,_=>false
def Xcx(L:List Oper)(d:Option Nat)(o:Oper): Bool:=match d with
 | none=>true
 | some d=>!inL d (Xn3 L o) && !inL d o.dst.toList
def Xk5(L:List Oper)(k i:Oper): Bool:=Xcx L k.dst i&&Xcx L i.dst k&&Yaw (cls k.op) (cls i.op)&&(!(Nat.beq (cls k.op) 2)||k.dst.isSome)&&(!(Nat.beq (cls i.op) 2)||i.dst.isSome)
theorem Ynk{d:Nat}{l:List Nat}: inL d l=true↔d∈l:=by
 induction l with
 | nil=>simp[inL]
 | cons x l ih=>simp[inL,ih,Nat.beq_eq]
section
variable{P:Program}[Gb P]{tb:Nat->Option TI}
theorem Xz3{e:Ev}{d:Nat}{v:AV}{x:Operand}(h:d ∉ Xf8 [x]): Xcl (upd e d v) x=Xcl e x:=by
 cases x with
 | tmp t=>simp only[Xf8,W0g] at h;exact Xam (λe=>h e.symm)
 | _=>rfl
theorem Xbx(x:Operand)(l:List Operand): Xf8 (x::l)=Xf8 [x]++Xf8 l:=by cases x<;>rfl
theorem Xms{e:Ev}{d:Nat}{v:AV}: ∀ {l:List Operand},d ∉ Xf8 l->getEs (upd e d v) l=getEs e l
 | [],_=>rfl
 | x::l,h=>by
  rw[Xbx] at h
  simp only[getEs]
  rw[Xz3 (λk=>h (W2q _ k)),Xms (λk=>h (W1r _ k))]
theorem Xym{L:List Oper}{o:Oper}{s:S}{d:Option Nat}{v:AV}{g:Hp}(h:Xcx L d o=true): want L o (S.put (s.1,g) d v)=want L o s:=by
 cases d with
 | none=>rfl
 | some d =>
  simp only[Xcx,W0f,W1t] at h
  unfold want
  split
  . rfl
  . rename_i j b hg
    split
    . rfl
    . rename_i t ht
      have:t≠d:=λe=>by
       have h1:d ∉ Xn3 L o:=λhh=>by rw[Ynk.2 hh] at h;exact absurd h.1 (by simp)
       apply h1
       simp[Xn3,hg,ht,e]
      simp only[S.put]
      rw[Xam this]
theorem Yfz{L:List Oper}{o:Oper}{s:S}{d:Option Nat}{v:AV}{g:Hp}(h:Xcx L d o=true): eff tb o (S.put (s.1,g) d v)=eff tb o (s.1,g):=by
 cases d with
 | none=>rfl
 | some d =>
  simp only[Xcx,W0f,W1t] at h
  have h1:d ∉ Xf8 o.op.operands.toList:=λhh=>by
   rw[show inL d (Xn3 L o)=true from Ynk.2 (W1r _ hh)] at h;exact absurd h.1 (by simp)
  unfold eff
  simp only[S.put]
  rw[Xms h1]
noncomputable def efw(tb:Nat->Option TI)(L:List Oper)(o:Oper)(s:S): Option (AV×List (Nat×Ob)):=match want L o s with
 | some true=>eff tb o s
 | some false=>match o.dst with
  | some _=>some (.un,[])
  | none=>none
 | none=>none
def Xao(o:Oper): Bool:=Nat.beq (cls o.op) 4
theorem Xo3{dr:Bool}{o:Oper}(h:Xao o=false){R:S->Prop}{s:S}: Wb P tb dr o R s↔(∃r,eff tb o s=some r/\R (aft s o r))\/(dr=false/\∃r,Raw P o s r/\R (aft s o r)):=by
 unfold Wb
 split
 . rename_i x asx tys he
   simp[Xao,cls,he] at h
 . exact W4a
theorem Ylh{o:Oper}(h:Xao o=false){R:S->Prop}{s:S}: Wb P tb true o R s↔∃r,eff tb o s=some r/\R (aft s o r) :=
 (Xo3 h).trans ⟨λh=>h.elim id λh=>(nomatch h.1),.inl⟩
theorem Xew{L:List Oper}{o:Oper}(h:Xao o=false){R:S->Prop}{s:S}: Wo P tb true L o R s↔∃r,efw tb L o s=some r/\R (aft s o r):=by
 unfold Wo efw
 cases hw:want L o s with
 | none=>simp
 | some c =>
  cases c with
  | true=>simp[Ylh h]
  | false =>
   cases hd:o.dst with
   | none=>simp
   | some d=>simp[aft,S.put,Xbz,hd]
theorem Yfy{L:List Oper}{o:Oper}{s:S}{d:Option Nat}{v:AV}{g:Hp}(h:Xcx L d o=true): efw tb L o (S.put (s.1,g) d v)=efw tb L o (s.1,g):=by
 unfold efw
 rw[Xym h,Yfz h]
 rfl
theorem Xli(c:Call): cls (.call c)=0\/cls (.call c)=3\/cls (.call c)=4:=by
 obtain⟨cal,asx,tys⟩:=c
 cases cal with
 | builtin b=>cases b<;>first | exact .inl rfl | exact .inr (.inl rfl)
 | value x=>exact .inr (.inr rfl)
 | invoke x m=>exact .inl rfl
theorem Yqg{o:Oper}(hc:cls o.op=0){e:Ev}{g:Hp}{r:AV×List (Nat×Ob)}(h:eff tb o (e,g)=some r): r.2=[]/\∀g',eff tb o (e,g')=some r:=by
 unfold eff at h |-
 split at h<;>try cases h
 rename_i asx has
 split at h<;>try cases h
 rename_i hst
 have key:∀g,F tb (o.dst.getD 0) g o.op asx=(match Fp tb o.op asx with | some v=>some (v,[]) | none=>none):=by
  intro g
  unfold F
  split<;>first | rfl | (rename_i he;rw[he] at hc;cases hc)
 rw[key] at h
 split at h<;>cases h
 rename_i v hv
 refine⟨rfl,λg'=>?_⟩
 simp only[has,hst,key,hv]
theorem Ype{o:Oper}(hc:cls o.op=1){e:Ev}{g:Hp}{r:AV×List (Nat×Ob)}(h:eff tb o (e,g)=some r): r.2=[]/\(∀d ob,g d=none->eff tb o (e,upd g d ob)=some r):=by
 unfold eff at h |-
 split at h<;>try cases h
 rename_i asx has
 split at h<;>try cases h
 rename_i hst
 have:∃T x,o.op=.load T x:=by
  cases ho:o.op<;>rw[ho] at hc<;>first | exact⟨_,_,rfl⟩ | (cases hc;done) | (rename_i c;have:=Xli c;omega)
 obtain⟨T,x,ho⟩:=this
 simp only[ho] at h has |-
 simp only[F] at h
 split at h<;>try cases h
 rename_i ti hti
 split at h<;>try cases h
 . split at h<;>cases h
   rename_i hf
   exact⟨rfl,λd ob hg=>by simp[has,F,hti,hf,Xdu]⟩
 . split at h<;>try cases h
   rename_i a ha
   split at h<;>cases h
   rename_i y hy
   refine⟨rfl,λd ob hg=>?_⟩
   have:∀ {o},g o=some (.var a)->upd g d ob o=some (.var a):=λho=>by rw[Xam (λe=>by rw[e,hg] at ho;cases ho)];exact ho
   simp[has,F,hti,this ha,hy,Xdu]
 . split at h<;>try cases h
   rename_i sz xs ha
   split at h<;>try cases h
   rename_i hs
   split at h<;>try cases h
   rename_i x' hx
   split at h<;>cases h
   rename_i y hy
   refine⟨rfl,λd ob hg=>?_⟩
   have:∀ {o sz xs},g o=some (.arr sz xs)->upd g d ob o=some (.arr sz xs):=λho=>by rw[Xam (λe=>by rw[e,hg] at ho;cases ho)];exact ho
   simp[has,F,hti,this ha,hs,hx,hy,Xdu]
theorem Xv3{e:Ev}{g:Hp}(hc:∀t v i,e t=some v->v.ids i->∃y,g i=some y): ∀ {l:List Operand} {asx:List AV},getEs e l=some asx->∀a∈asx,∀i,a.ids i->∃y,g i=some y
 | [],asx,h,a,ha=>by simp only[getEs] at h;injection h with h;subst h;cases ha
 | x::l,asx,h,a,ha=>by
  simp only[getEs] at h
  split at h<;>try cases h
  rename_i v hv
  split at h<;>cases h
  rename_i bs hbs
  rcases W1i.1 ha with e1 | e1
  . subst e1
    intro i hi
    cases x with
    | tmp t=>exact hc t a i hv hi
    | const c=>exact absurd hi ((Yiz (W:=⟨default,λ_ _=>False,λ_ _ h=>h.elim⟩) (θ:=λ_=>(none,0)) hv).2 i)
    | func f=>simp only[Xcl,Option.some.injEq] at hv;subst hv;exact hi.elim
    | global g=>simp[Xcl] at hv
  . exact Xv3 hc hbs a e1
theorem Ykf{o:Oper}(hc:cls o.op=1){e:Ev}{g:Hp}{d:Nat}{ob:Ob}{r:AV×List (Nat×Ob)}(hd:g d=none)(hcl:∀t v i,e t=some v->v.ids i->∃y,g i=some y)(h:eff tb o (e,upd g d ob)=some r): eff tb o (e,g)=some r:=by
 unfold eff at h |-
 split at h<;>try cases h
 rename_i asx has
 have hids:=Xv3 hcl has
 split at h<;>try cases h
 rename_i hst
 have:∃T x,o.op=.load T x:=by
  cases ho:o.op<;>rw[ho] at hc<;>first | exact⟨_,_,rfl⟩ | (cases hc;done) | (rename_i c;have:=Xli c;omega)
 obtain⟨T,x,ho⟩:=this
 simp only[ho] at h has |-
 have hne:∀ {a:AV} {i:Nat},a∈asx->a.ids i->upd g d ob i=g i:=λha hi=>Xam λe=>by
  obtain⟨y,hy⟩:=hids _ ha _ hi
  rw[e,hd] at hy;cases hy
 have key:∀ {dd:Nat},F tb dd (upd g d ob) (.load T x) asx=some r->F tb dd g (.load T x) asx=some r:=by
  intro dd h
  simp only[F] at h |-
  split at h<;>try cases h
  rename_i ti hti
  split at h<;>try cases h
  . exact h
  . rw[hne (W0g.2 rfl) rfl] at h
    exact h
  . rw[hne (W0g.2 rfl) rfl] at h
    exact h
 simp only[has,Xdu,W7f]
 exact key h
theorem Yqf{o:Oper}(hc:cls o.op=2){e:Ev}{g:Hp}{r:AV×List (Nat×Ob)}(h:eff tb o (e,g)=some r): ∃ob,r.2=[(o.dst.getD 0,ob)]/\g (o.dst.getD 0)=none/\∀g',g' (o.dst.getD 0)=none->eff tb o (e,g')=some r:=by
 unfold eff at h |-
 split at h<;>try cases h
 rename_i asx has
 split at h<;>try cases h
 rename_i hst
 simp only[has,hst]
 have:(∃T,o.op=.alloc T)\/(∃T x,o.op=.box T x)\/∃T x y,o.op=.makeSlice T x y:=by
  cases ho:o.op<;>rw[ho] at hc<;>first | exact .inl ⟨_,rfl⟩ | exact .inr (.inl ⟨_,_,rfl⟩) | exact .inr (.inr ⟨_,_,_,rfl⟩) | (cases hc;done) | (rename_i c;have:=Xli c;omega)
 rcases this with ⟨T,ho⟩ | ⟨T,x,ho⟩ | ⟨T,x,y,ho⟩
 . rw[ho] at h |-
   simp only[F] at h |-
   split at h<;>cases h
   rename_i ti h1 h2
   exact⟨_,rfl,h2,λg' hg'=>by simp[h1,hg']⟩
 . rw[ho] at h |-
   simp only[F] at h |-
   split at h<;>try cases h
   rename_i a h2
   split at h<;>cases h
   rename_i hp
   exact⟨_,rfl,h2,λg' hg'=>by simp[hg',hp]⟩
 . rw[ho] at h |-
   simp only[F] at h |-
   split at h<;>try cases h
   rename_i ti _ m _ c h1 h2
   split at h<;>try cases h
   rename_i sz xs hz
   split at h<;>cases h
   rename_i hr
   exact⟨_,rfl,h2,λg' hg'=>by simp only[h1,hg',hz,if_pos hr]⟩
end
end
section
section
variable{P:Program}[Gb P]{tb:Nat->Option TI}
theorem Xct{L:List Oper}{o:Oper}{s:S}{r:AV×List (Nat×Ob)}(h:efw tb L o s=some r):
 (want L o s=some false/\r.2=[]/\∀g',efw tb L o (s.1,g')=some r)\/(want L o s=some true/\eff tb o s=some r):=by
 unfold efw at h
 split at h
 . rename_i hw;exact .inr ⟨hw,h⟩
 . rename_i hw
   split at h<;>cases h
   rename_i d hd
   refine .inl ⟨hw,rfl,λg'=>?_⟩
   unfold efw
   rw[show want L o (s.1,g')=some false from hw]
   simp[hd]
 . cases h
theorem Xjy{L:List Oper}{o:Oper}{s:S}{g':Hp}{r:AV×List (Nat×Ob)}(hw:want L o s=some true)(h:eff tb o (s.1,g')=some r): efw tb L o (s.1,g')=some r:=by
 unfold efw
 rw[show want L o (s.1,g')=some true from hw]
 exact h
theorem Xb8{L:List Oper}{o:Oper}{s:S}{r:AV×List (Nat×Ob)}(hc:Xao o=false)(h:efw tb L o s=some r):
 (r.2=[]/\∀g',efw tb L o (s.1,g')=some r)\/(cls o.op=1/\r.2=[]/\(∀d ob,s.2 d=none->efw tb L o (s.1,upd s.2 d ob)=some r)) \/
 (cls o.op=2/\∃ob,r.2=[(o.dst.getD 0,ob)]/\s.2 (o.dst.getD 0)=none/\∀g',g' (o.dst.getD 0)=none->efw tb L o (s.1,g')=some r)\/cls o.op=3:=by
 rcases Xct h with ⟨_,h1,h2⟩ | ⟨hw,he⟩
 . exact .inl ⟨h1,h2⟩
 . have h4:cls o.op≠4:=λe=>by simp[Xao,e] at hc
   have hcase:cls o.op=0\/cls o.op=1\/cls o.op=2\/cls o.op=3\/cls o.op=4:=by
    unfold cls;split<;>simp
   rcases hcase with e | e | e | e | e
   . obtain⟨a1,a2⟩:=Yqg (e:=s.1) (g:=s.2) e he
     exact .inl ⟨a1,λg'=>Xjy hw (a2 g')⟩
   . obtain⟨a1,a2⟩:=Ype (e:=s.1) (g:=s.2) e he
     exact .inr (.inl ⟨e,a1,λd ob hd=>Xjy hw (a2 d ob hd)⟩)
   . obtain⟨ob,a1,a2,a3⟩:=Yqf (e:=s.1) (g:=s.2) e he
     exact .inr (.inr (.inl ⟨e,ob,a1,a2,λg' hg=>Xjy hw (a3 g' hg)⟩))
   . exact .inr (.inr (.inr e))
   . exact absurd e h4
theorem Xih{L:List Oper}{k i:Oper}(h:Xk5 L k i=true): Xcx L k.dst i=true/\Xcx L i.dst k=true/\Yaw (cls k.op) (cls i.op)=true/\(cls k.op=2->k.dst.isSome=true)/\(cls i.op=2->i.dst.isSome=true):=by
 simp only[Xk5,W0f,W4v,W1t] at h
 obtain⟨⟨⟨⟨h1,h2⟩,h3⟩,h4⟩,h5⟩:=h
 exact⟨h1,h2,h3,λe=>h4.resolve_left (λn=>by rw[e] at n;cases n),λe=>h5.resolve_left (λn=>by rw[e] at n;cases n)⟩
theorem Xit{L:List Oper}{k i:Oper}{a b:Nat}(h:Xcx L k.dst i=true)(ha:k.dst=some a)(hb:i.dst=some b): a≠b:=by
 intro e
 subst e
 rw[ha] at h
 simp[Xcx,hb,inL] at h
theorem Xn4{s:S}{d t:Option Nat}{x y:AV}{g g1 g2:Hp}(h:∀a b,d=some a->t=some b->a≠b)(hg:g1=g2): S.put ((S.put (s.1,g) d x).1,g1) t y=S.put ((S.put (s.1,g) t y).1,g2) d x:=by
 subst hg
 cases d with
 | none=>cases t<;>rfl
 | some a=>cases t with
  | none=>rfl
  | some b=>simp only[S.put];rw[Xkb (h a b rfl rfl)]
theorem S.put_g{s:S}{g:Hp}{d:Option Nat}{v:AV}: (S.put (s.1,g) d v).2=g:=by cases d<;>rfl
theorem S.put_e{s:S}{g g':Hp}{d:Option Nat}{v:AV}: (S.put (s.1,g) d v).1=(S.put (s.1,g') d v).1:=by cases d<;>rfl
theorem Xdb{L:List Oper}{k i:Oper}{s:S}{r:AV×List (Nat×Ob)}(h:Xcx L k.dst i=true): efw tb L i (aft s k r)=efw tb L i (s.1,Xbz s.2 r.2):=Yfy (s:=s) h
theorem par{L:List Oper}{k i:Oper}(hi:Xk5 L k i=true)(ck:Xao k=false)(ci:Xao i=false){s:S}{rk ri:AV×List (Nat×Ob)}(h1:efw tb L k s=some rk)(h2:efw tb L i s=some ri):
 efw tb L i (aft s k rk)=some ri/\efw tb L k (aft s i ri)=some rk/\aft (aft s i ri) k rk=aft (aft s k rk) i ri:=by
 obtain⟨a1,a2,a3,a4,a5⟩:=Xih hi
 have fin:Xbz (Xbz s.2 ri.2) rk.2=Xbz (Xbz s.2 rk.2) ri.2->aft (aft s i ri) k rk=aft (aft s k rk) i ri:=λhg=>by
  unfold aft
  rw[S.put_g,S.put_g,hg]
  have e1:=S.put_e (s:=s) (g:=Xbz s.2 ri.2) (g':=s.2) (d:=i.dst) (v:=ri.1)
  have e2:=S.put_e (s:=s) (g:=Xbz s.2 rk.2) (g':=s.2) (d:=k.dst) (v:=rk.1)
  rw[e1,e2]
  exact Xn4 (s:=s) (λa b ha hb=>Xit a2 ha hb) rfl
 rw[Xdb a1,Xdb a2]
 rcases Xb8 ck h1 with ⟨b1,b2⟩ | ⟨b0,b1,b2⟩ | ⟨b0,ob,b1,b2,b3⟩ | b0
 . rw[b1]
   exact⟨h2,b2 _,fin (by rw[b1];rfl)⟩
 . rw[b1]
   refine⟨h2,?_,fin (by rw[b1];rfl)⟩
   rcases Xb8 ci h2 with ⟨c1,c2⟩ | ⟨c0,c1,c2⟩ | ⟨c0,oc,c1,c2,c3⟩ | c0
   . rw[c1];exact h1
   . rw[c1];exact h1
   . rw[c1];exact b2 _ _ c2
   . rw[b0,c0] at a3;cases a3
 . rcases Xb8 ci h2 with ⟨c1,c2⟩ | ⟨c0,c1,c2⟩ | ⟨c0,oc,c1,c2,c3⟩ | c0
   . rw[c1];exact⟨c2 _,h1,fin (by rw[c1];rfl)⟩
   . rw[c1,b1];exact⟨c2 _ _ b2,h1,fin (by rw[c1];rfl)⟩
   . obtain⟨dk,hdk⟩:=W3f.1 (a4 b0)
     obtain⟨di,hdi⟩:=W3f.1 (a5 c0)
     have hne:=Xit a1 hdk hdi
     rw[hdk] at b1 b2 b3
     rw[hdi] at c1 c2 c3
     simp only[W5z] at b1 b2 b3 c1 c2 c3
     rw[b1,c1]
     refine⟨c3 _ (by show upd s.2 dk ob di=none;rw[Xam (λe=>hne e.symm)];exact c2),b3 _ (by show upd s.2 di oc dk=none;rw[Xam hne];exact b2),fin ?_⟩
     rw[b1,c1]
     exact Xkb (λe=>hne e.symm)
   . rw[b0,c0] at a3;cases a3
 . rcases Xb8 ci h2 with ⟨c1,c2⟩ | ⟨c0,c1,c2⟩ | ⟨c0,oc,c1,c2,c3⟩ | c0
   . rw[c1];exact⟨c2 _,h1,fin (by rw[c1];rfl)⟩
   . rw[b0,c0] at a3;cases a3
   . rw[b0,c0] at a3;cases a3
   . rw[b0,c0] at a3;cases a3
theorem back{L:List Oper}{k i:Oper}(hi:Xk5 L k i=true)(ck:Xao k=false)(ci:Xao i=false){s:S}(hcl:∀t v j,s.1 t=some v->v.ids j->∃y,s.2 j=some y){rk ri:AV×List (Nat×Ob)}(h1:efw tb L k s=some rk)(h2:efw tb L i (aft s k rk)=some ri):
 efw tb L i s=some ri:=by
 obtain⟨a1,a2,a3,a4,a5⟩:=Xih hi
 rw[Xdb a1] at h2
 rcases Xb8 ck h1 with ⟨b1,b2⟩ | ⟨b0,b1,b2⟩ | ⟨b0,ob,b1,b2,b3⟩ | b0
 . rw[b1] at h2;exact h2
 . rw[b1] at h2;exact h2
 . rcases Xb8 (s:=(s.1,Xbz s.2 rk.2)) ci h2 with ⟨c1,c2⟩ | ⟨c0,c1,c2⟩ | ⟨c0,oc,c1,c2,c3⟩ | c0
   . exact c2 s.2
   . rcases Xct h2 with ⟨_,_,d3⟩ | ⟨d1,d2⟩
     . exact d3 s.2
     . rw[b1] at d2
       have d1:want L i s=some true:=d1
       have:=Ykf (o:=i) c0 b2 hcl d2
       exact Xjy (s:=s) d1 this
   . obtain⟨dk,hdk⟩:=W3f.1 (a4 b0)
     obtain⟨di,hdi⟩:=W3f.1 (a5 c0)
     have hne:=Xit a1 hdk hdi
     rw[hdk] at b1
     rw[hdi] at c2 c3
     simp only[W5z] at b1 c2 c3
     refine c3 s.2 ?_
     rw[b1] at c2
     have c2:upd s.2 dk ob di=none:=c2
     rwa[Xam (λe=>hne e.symm)] at c2
   . rw[b0,c0] at a3;cases a3
 . rcases Xb8 (s:=(s.1,Xbz s.2 rk.2)) ci h2 with ⟨c1,c2⟩ | ⟨c0,c1,c2⟩ | ⟨c0,oc,c1,c2,c3⟩ | c0
   . exact c2 s.2
   . rw[b0,c0] at a3;cases a3
   . rw[b0,c0] at a3;cases a3
   . rw[b0,c0] at a3;cases a3
end
end
section
section
variable{P:Program}[Gb P]{tb:Nat->Option TI}
def Xpb(L:List Oper)(o:Oper)(s s':S): Prop:=∀t∈Xn3 L o,s.1 t=s'.1 t
theorem Xpb.symm{L:List Oper}{o:Oper}{s s':S}(h:Xpb L o s s'): Xpb L o s' s:=λt ht=>(h t ht).symm
theorem Xni{L:List Oper}{o:Oper}{s:S}{d:Option Nat}{v:AV}{g:Hp}(h:Xcx L d o=true): Xpb L o (S.put (s.1,g) d v) s:=by
 cases d with
 | none=>exact λ_ _=>rfl
 | some d =>
  intro t ht
  simp only[Xcx,W0f,W1t] at h
  refine Xam λe=>?_
  subst e
  rw[Ynk.2 ht] at h
  exact absurd h.1 (by simp)
theorem Xpb.getEs{L:List Oper}{o:Oper}{s s':S}(h:Xpb L o s s'): ∀ {l:List Operand},(∀t∈Xf8 l,t∈Xf8 o.op.operands.toList)->Vm.getEs s.1 l=Vm.getEs s'.1 l
 | [],_=>rfl
 | x::l,hl=>by
  have h1:Xcl s.1 x=Xcl s'.1 x:=by
   cases x with
   | tmp t=>exact h t (W1r _ (hl t (by rw[Xbx];exact W2q _ (W0g.2 rfl))))
   | _=>rfl
  simp only[Vm.getEs]
  rw[h1,Xpb.getEs h (l:=l) λt ht=>hl t (by rw[Xbx];exact W1r _ ht)]
theorem Xpb.want{L:List Oper}{o:Oper}{s s':S}(h:Xpb L o s s'): Vm.want L o s=Vm.want L o s':=by
 unfold Vm.want
 split
 . rfl
 . rename_i j b hg
   split
   . rfl
   . rename_i t ht
     rw[h t (W2q _ (by simp[hg,ht]))]
theorem Xmp{o:Oper}(hc:Xao o=true): ∃x asx tys,o.op=.call ⟨.value x,asx,tys⟩:=by
 cases ho:o.op<;>simp only[Xao,ho,cls] at hc<;>first | (cases hc;done) | skip
 rename_i c
 obtain⟨cal,asx,tys⟩:=c
 cases cal with
 | builtin b=>cases b<;>cases hc
 | value x=>exact⟨_,_,_,rfl⟩
 | invoke x m=>cases hc
theorem Xn8{v:Value}{a:AV}(h:ofV v=some a)(i:Nat): ¬a.ids i:=by
 unfold ofV at h
 split at h<;>first | (cases h;done) | (injection h with h;subst h;exact id) | (split at h<;>cases h;exact id)
theorem Ydt: ∀ {a:AV} (b:AV),b∈unA a->∀ {i:Nat},b.ids i->a.ids i:=by
 intro a
 induction a with
 | pr a c _ ih=>exact λb hb i hi=>(W1i.1 hb).elim (λe=>.inl (e ▸ hi)) λhb=>.inr (ih b hb hi)
 | _=>exact λb hb i hi=>by rcases W0g.1 hb with rfl;exact hi
theorem Xsn{e:Ev}{x:Operand}{f:FuncId}{ex:List AV}(h:callee e x=some (f,ex)){a:AV}(ha:a∈ex){i:Nat}(hi:a.ids i): ∃t v,x=.tmp t/\e t=some v/\v.ids i:=by
 unfold callee at h
 split at h
 . injection h with h;injection h with h1 h2;subst h2;cases ha
 . rename_i f' o' hx
   injection h with h;injection h with h1 h2;subst h2
   rcases W0g.1 ha with rfl
   cases x with
   | tmp t=>exact⟨t,_,rfl,hx,hi⟩
   | const c=>exact absurd (show (AV.fn f' o').ids i from hi) (Xn8 hx i)
   | func f=>simp[Xcl] at hx
   | global g=>simp[Xcl] at hx
 . rename_i f' a' hx
   split at h<;>try cases h
   have hi:=Ydt a ha hi
   cases x with
   | tmp t=>exact⟨t,_,rfl,hx,hi⟩
   | const c=>exact absurd (show (AV.fm f a').ids i from hi) (Xn8 hx i)
   | func f=>simp[Xcl] at hx
   | global g=>simp[Xcl] at hx
 . cases h
theorem Xmt{e:Ev}{i:Nat}: ∀ {l:List Operand} {vs:List AV},getEs e l=some vs->∀a∈vs,a.ids i->∃t∈Xf8 l,∃v,e t=some v/\v.ids i
 | [],vs,h,a,ha,_=>by simp only[getEs] at h;injection h with h;subst h;cases ha
 | x::l,vs,h,a,ha,hi=>by
  simp only[getEs] at h
  split at h<;>try cases h
  rename_i v hv
  split at h<;>cases h
  rename_i asx has
  rw[Xbx]
  rcases W1i.1 ha with rfl | ha
  . cases x with
    | tmp t=>exact⟨t,W2q _ (W0g.2 rfl),_,hv,hi⟩
    | const c=>exact absurd hi (Xn8 hv i)
    | func f=>simp only[Xcl,Option.some.injEq] at hv;subst hv;exact hi.elim
    | global g=>simp[Xcl] at hv
  . obtain⟨t,h1,h2⟩:=Xmt has a ha hi
    exact⟨t,W1r _ h1,h2⟩
theorem Xqu{i:Nat}: ∀ {Ts:List TypeId} {asx:List AV},∀a∈Xi9 tb Ts asx,a.ids i->∃b∈asx,b.ids i
 | [],asx,a,ha,hi=>⟨a,by simpa [Xi9] using ha,hi⟩
 | T::Ts,[],a,ha,hi=>by simp[Xi9] at ha
 | T::Ts,c::asx,a,ha,hi=>by
  simp only[Xi9] at ha
  rcases W1i.1 ha with e | ha
  . have:a=c\/∃x,a=.d x:=by
     split at e
     . split at e
       . exact .inr ⟨_,e⟩
       . exact .inl e
     . exact .inl e
    rcases this with rfl | ⟨x,rfl⟩
    . exact⟨_,W0w ..,hi⟩
    . exact hi.elim
  . obtain⟨b,h1,h2⟩:=Xqu a ha hi
    exact⟨b,W1e _ h1,h2⟩
theorem Ygt{s:S}{o:Oper}{d:Nat}(h:o.dst=some d): s.put (some d) .un=aft s o (.un,[]):=by unfold aft;rw[h];rfl
theorem Xf2{L:List Oper}{o:Oper}(hc:Xao o=true){s s':S}(h:Xpb L o s s'){R R':S->Prop}(hw:Wo P tb true L o R s)
 (hg:∀i y,s.2 i=some y->(∃t∈Xn3 L o,∃v,s.1 t=some v/\v.ids i)->s'.2 i=some y) (hn:∀d,o.dst=some d->s.2 d=none->s'.2 d=none)
 (hR:∀r,(r.2=[]\/∃d ob,o.dst=some d/\r.2=[(d,ob)]/\s.2 d=none)->R (aft s o r)->R' (aft s' o r)):Wo P tb true L o R' s':=by
 rcases hw with ⟨h1,h2⟩ | ⟨h1,d,h2,h3⟩
 . refine .inl ⟨by rw[<-h.want];exact h1,?_⟩
   obtain⟨x,asx,tys,he⟩:=Xmp hc
   unfold Wb at h2 |-
   rw[he] at h2 |-
   obtain⟨f,ex,vs,a1,a2,nw,H0,Q,⟨a3,a4,a5⟩,a6⟩:=h2
   have hop:o.op.operands.toList=x::asx.toList:=by rw[he];simp[Op.operands,Call.operands]
   have e1:Xcl s.1 x=Xcl s'.1 x:=by
    cases x with
    | tmp t=>exact h t (W1r _ (by rw[hop,Xbx];exact W2q _ (W0g.2 rfl)))
    | _=>rfl
   have hids:∀i,(∃a∈Xi9 tb tys.toList vs++ex,a.ids i)->∃t∈Xn3 L o,∃v,s.1 t=some v/\v.ids i:=by
    rintro i ⟨a,ha,hi⟩
    rcases W2j.1 ha with ha | ha
    . obtain⟨b,hb,hbi⟩:=Xqu a ha hi
      obtain⟨t,t1,t2⟩:=Xmt a2 b hb hbi
      exact⟨t,W1r _ (by rw[hop,Xbx];exact W1r _ t1),t2⟩
    . obtain⟨t,v,rfl,t1,t2⟩:=Xsn a1 ha hi
      exact⟨t,W1r _ (by rw[hop,Xbx];exact W2q _ (W0g.2 rfl)),v,t1,t2⟩
   refine⟨f,ex,vs,by unfold callee at a1 |-;rw[<-e1];exact a1,by rw[<-h.getEs (λt ht=>by rw[hop,Xbx];exact W1r _ ht)];exact a2,nw,H0,Q,⟨λhh=>?_,λi y hy=>?_,a5⟩,λr hu hq=>hR r ?_ (a6 r hu hq)⟩
   . obtain⟨d,d1,d2⟩:=a3 hh;exact⟨d,d1,hn d d1 d2⟩
   . obtain⟨b1,b2⟩:=a4 i y hy;exact⟨hg i y b1 (hids i b2),b2⟩
   . rcases hu with hu | ⟨hh,d,ob,u1,u2⟩
     . exact .inl hu
     . obtain⟨d',d1,d2⟩:=a3 hh
       rw[u1] at d1;injection d1 with d1;subst d1
       exact .inr ⟨_,ob,u1,u2,d2⟩
 . refine .inr ⟨by rw[<-h.want];exact h1,d,h2,?_⟩
   rw[Ygt h2] at h3 |-
   exact hR _ (.inl rfl) h3
theorem Yax{L:List Oper}{o:Oper}(hc:Xao o=true){s:S}{R:S->Prop}(hw:Wo P tb true L o R s): Wo P tb true L o (λs'=>R s'/\∃r,(r.2=[]\/∃d ob,o.dst=some d/\r.2=[(d,ob)]/\s.2 d=none)/\s'=aft s o r) s :=
 Xf2 hc (λ_ _=>rfl) hw (λ_ _ h _=>h) (λ_ _ h=>h) λr hr h=>⟨h,r,hr,rfl⟩
theorem Yde{L:List Oper}{i:Oper}(ci:Xao i=false){s:S}{ri:AV×List (Nat×Ob)}{us:List (Nat×Ob)}(hc:cls i.op≠3)(h2:cls i.op=2->i.dst.isSome=true)(hu:us=[]\/∃d ob,us=[(d,ob)]/\s.2 d=none/\i.dst≠some d)(h:efw tb L i s=some ri):
 efw tb L i (s.1,Xbz s.2 us)=some ri:=by
 rcases hu with rfl | ⟨d,ob,rfl,hd,hne⟩
 . exact h
 . rcases Xb8 ci h with ⟨_,c2⟩ | ⟨_,_,c2⟩ | ⟨c0,oc,_,c2,c3⟩ | c0
   . exact c2 _
   . exact c2 _ _ hd
   . obtain⟨di,hdi⟩:=W3f.1 (h2 c0)
     rw[hdi] at c2 c3 hne
     exact c3 _ (by show upd s.2 d ob di=none;rw[Xam (λe=>hne (by rw[e]))];exact c2)
   . exact absurd c0 hc
theorem Yah{L:List Oper}{i:Oper}(ci:Xao i=false){s:S}{ri:AV×List (Nat×Ob)}{us:List (Nat×Ob)}(hc:cls i.op≠3)(h2:cls i.op=2->i.dst.isSome=true)(hcl:∀t v j,s.1 t=some v->v.ids j->∃y,s.2 j=some y)(hu:us=[]\/∃d ob,us=[(d,ob)]/\s.2 d=none/\i.dst≠some d)
 (h:efw tb L i (s.1,Xbz s.2 us)=some ri):efw tb L i s=some ri:=by
 rcases hu with rfl | ⟨d,ob,rfl,hd,hne⟩
 . exact h
 . rcases Xb8 (s:=(s.1,Xbz s.2 [(d,ob)])) ci h with ⟨_,c2⟩ | ⟨c0,_,c2⟩ | ⟨c0,oc,_,c2,c3⟩ | c0
   . exact c2 s.2
   . rcases Xct h with ⟨_,_,d3⟩ | ⟨d1,d2⟩
     . exact d3 s.2
     . have d1:want L i s=some true:=d1
       exact Xjy (s:=s) d1 (Ykf (o:=i) c0 hd hcl d2)
   . obtain⟨di,hdi⟩:=W3f.1 (h2 c0)
     rw[hdi] at c2 c3 hne
     refine c3 s.2 ?_
     have c2:upd s.2 d ob di=none:=c2
     rwa[Xam (λe=>hne (by rw[e]))] at c2
   . exact absurd c0 hc
theorem Xxy{s:S}{k i:Oper}{r q:AV×List (Nat×Ob)}(hd:∀a b,k.dst=some a->i.dst=some b->a≠b)(hr:r.2=[]\/∃d ob,k.dst=some d/\r.2=[(d,ob)])(hq:q.2=[]\/∃d ob,i.dst=some d/\q.2=[(d,ob)]):
 aft (aft s k r) i q=aft (aft s i q) k r:=by
 have hg:Xbz (Xbz s.2 r.2) q.2=Xbz (Xbz s.2 q.2) r.2:=by
  rcases hr with hr | ⟨a,oa,ha,hr⟩<;>rcases hq with hq | ⟨b,ob,hb,hq⟩<;>rw[hr,hq]<;>try rfl
  exact Xkb (hd a b ha hb)
 unfold aft
 rw[S.put_g,S.put_g,hg]
 have e1:=S.put_e (s:=s) (g:=Xbz s.2 q.2) (g':=s.2) (d:=i.dst) (v:=q.1)
 have e2:=S.put_e (s:=s) (g:=Xbz s.2 r.2) (g':=s.2) (d:=k.dst) (v:=r.1)
 rw[e1,e2]
 exact Xn4 (s:=s) hd rfl
theorem Ydd{L:List Oper}{i:Oper}(ci:Xao i=false){s:S}{ri:AV×List (Nat×Ob)}(hc:cls i.op≠3)(h2:cls i.op=2->i.dst.isSome=true)(h:efw tb L i s=some ri): ri.2=[]\/∃d ob,i.dst=some d/\ri.2=[(d,ob)]/\s.2 d=none:=by
 rcases Xb8 ci h with ⟨c1,_⟩ | ⟨_,c1,_⟩ | ⟨c0,oc,c1,c2,_⟩ | c0
 . exact .inl c1
 . exact .inl c1
 . obtain⟨di,hdi⟩:=W3f.1 (h2 c0)
   rw[hdi] at c1 c2
   exact .inr ⟨di,oc,hdi,c1,c2⟩
 . exact absurd c0 hc
theorem Xq9{s:S}{o:Oper}{us:List (Nat×Ob)}(h:us=[]\/∃d ob,o.dst=some d/\us=[(d,ob)]/\s.2 d=none): us=[]\/∃d ob,o.dst=some d/\us=[(d,ob)]:=h.imp id λ⟨d,ob,h1,h2,_⟩=>⟨d,ob,h1,h2⟩
theorem Yks{a b:Nat}(h:Yaw a b=true)(hb:b=4): a≠3/\a≠4:=by
 subst hb;constructor<;>(intro e;subst e;cases h)
theorem Xxi{a b:Nat}(h:Yaw a b=true)(hb:a=4): b≠3/\b≠4:=by
 subst hb;constructor<;>(intro e;subst e;cases h)
structure Dm (tb:Nat->Option TI) (L:List Oper) (sp:Oper->Oper->Bool) (Z:S->Prop):Prop where
 nc:∀ {k i},sp k i=true->Xao k=false/\Xao i=false
 par:∀ {k i:Oper} {s:S} {rk ri:AV×List (Nat×Ob)},sp k i=true->Z s->efw tb L k s=some rk->efw tb L i s=some ri->efw tb L i (aft s k rk)=some ri/\efw tb L k (aft s i ri)=some rk/\aft (aft s i ri) k rk=aft (aft s k rk) i ri
 back:∀ {k i:Oper} {s:S} {rk ri:AV×List (Nat×Ob)},sp k i=true->Z s->efw tb L k s=some rk->efw tb L i (aft s k rk)=some ri->efw tb L i s=some ri
 clo:∀ {k:Oper} {s:S} {r:AV×List (Nat×Ob)},k∈L->Xao k=false->Z s->efw tb L k s=some r->Z (aft s k r)
 cloC:∀ {k:Oper} {s:S} {r:AV×List (Nat×Ob)},k∈L->Xao k=true->Z s->(r.2=[]\/∃d ob,k.dst=some d/\r.2=[(d,ob)]/\s.2 d=none)->Z (aft s k r)
theorem Dm.no{tb:Nat->Option TI}{L:List Oper}: Dm tb L (λ_ _=>false) λ_=>True:=⟨nofun,nofun,nofun,λ_ _ _ _=>trivial,λ_ _ _ _=>trivial⟩
def Ind(L:List Oper)(sp:Oper->Oper->Bool)(k i:Oper): Prop:=k∈L/\(Xk5 L k i=true\/sp k i=true)
theorem Yem{L:List Oper}{sp:Oper->Oper->Bool}{Z:S->Prop}(D:Dm tb L sp Z){R:S->Prop}{i:Oper}(ci:Xao i=false){v:List Oper}{ri:AV×List (Nat×Ob)}: ∀ {u:List Oper},(∀k∈u,Ind L sp k i)->∀ {s:S},Z s->efw tb L i s=some ri->WL P tb true L R (u++i::v) s->WL P tb true L R (u++v) (aft s i ri)
 | [],_,s,_,h,hw=>by
  obtain⟨r,h1,h2⟩:=(Xew ci).1 hw
  rw[h] at h1;injection h1 with h1;subst h1;exact h2
 | k::u,hu,s,hz,h,hw=>by
  obtain⟨hkL,hk⟩:=hu k (W0w ..)
  have hu':∀k∈u,Ind L sp k i:=λk hk=>hu k (W1e _ hk)
  cases ck:Xao k with
  | false =>
   obtain⟨rk,h1,h2⟩:=(Xew ck).1 hw
   obtain⟨p1,p2,p3⟩:efw tb L i (aft s k rk)=some ri/\efw tb L k (aft s i ri)=some rk/\aft (aft s i ri) k rk=aft (aft s k rk) i ri:=hk.elim (λhk=>par hk ck ci h1 h) λhk=>D.par hk hz h1 h
   refine(Xew ck).2 ⟨rk,p2,?_⟩
   rw[p3]
   exact Yem D ci hu' (D.clo hkL ck hz h1) p1 h2
  | true =>
   have hk:=hk.resolve_right λh=>by rw[(D.nc h).1] at ck;cases ck
   obtain⟨a1,a2,a3,a4,a5⟩:=Xih hk
   have c3:=(Xxi a3 (W0e ck)).1
   have hus:=Ydd ci c3 a5 h
   have hd:∀a b,k.dst=some a->i.dst=some b->a≠b:=λa b ha hb=>Xit a1 ha hb
   have hg2:(aft s i ri).2=Xbz s.2 ri.2:=S.put_g (s:=s)
   refine Xf2 ck (s:=s) (s':=aft s i ri) (Xpb.symm (Xni a2)) hw (λj y hy _=>?_) (λd hkd hdn=>?_) λx hx hx2=>?_
   . rw[hg2]
     rcases hus with e | ⟨d,ob,_,e,hdn⟩
     . rw[e];exact hy
     . rw[e];show upd s.2 d ob j=_;rw[Xam (λe=>by rw[e,hdn] at hy;cases hy)];exact hy
   . rw[hg2]
     rcases hus with e | ⟨d',ob,hid,e,_⟩
     . rw[e];exact hdn
     . rw[e];show upd s.2 d' ob d=_;rw[Xam (hd d d' hkd hid)];exact hdn
   . have e1:efw tb L i (aft s k x)=some ri:=by
      rw[Xdb a1]
      exact Yde ci c3 a5 (hx.imp id λ⟨d,ob,h1,h2,h3⟩=>⟨d,ob,h2,h3,λe=>hd d d h1 e rfl⟩) h
     have:=Yem D ci hu' (D.cloC hkL ck hz hx) e1 hx2
     rwa[Xxy hd (Xq9 (s:=s) hx) (Xq9 (s:=s) hus)] at this
variable{W0:GW}{X:Nat->Prop}{θ0:Loc}{n:Nat}
theorem Xos(hT:∀T ti,tb T=some ti->TyOk P T ti/\∀a c,ti.z≠.pr a c)(hn:n<=1000000/\Gb.g P W0){L:List Oper}{sp:Oper->Oper->Bool}{Z:S->Prop}(D:Dm tb L sp Z){R:S->Prop}{i:Oper}(ci:Xao i=false){v:List Oper}: ∀ {u:List Oper},(∀k∈u,Ind L sp k i)->(∀k∈u,Xeb n k=true) ->
 ∀ {s:S} {a:Act} {W:GW} {θ:Loc},Z s->Sat W0 X n s a W θ->(∀i,1000000<=i->θ i=θ0 i)->WL P tb true L R (u++i::v) s->∃ri,efw tb L i s=some ri
 | [],_,_,s,a,W,θ,_,_,_,hw=>by
  obtain⟨r,h1,_⟩:=(Xew ci).1 hw
  exact⟨r,h1⟩
 | k::u,hu,hd,s,a,W,θ,hz,hs,hθ,hw=>by
  obtain⟨hkL,hk⟩:=hu k (W0w ..)
  have hu':∀k∈u,Ind L sp k i:=λk hk=>hu k (W1e _ hk)
  have hd':∀k∈u,Xeb n k=true:=λk hk=>hd k (W1e _ hk)
  cases ck:Xao k with
  | false =>
   obtain⟨rk,h1,h2⟩:=(Xew ck).1 hw
   obtain⟨a',w',s',W',θ',_,hs',hθ',rfl,hw'⟩:=Nx.next (R:=λs'=>s'=aft s k rk/\WL P tb true L R (u++i::v) s') hT hn (hd k (W0w ..)) ⟨s,W,θ,rfl,hs,hθ,(Xew ck).2 ⟨rk,h1,rfl,h2⟩⟩
   obtain⟨ri,hri⟩:=Xos hT hn D ci hu' hd' (D.clo hkL ck hz h1) hs' hθ' hw'
   exact⟨ri,hk.elim (λhk=>back hk ck ci hs.ids h1 hri) λhk=>D.back hk hz h1 hri⟩
  | true =>
   have hk:=hk.resolve_right λh=>by rw[(D.nc h).1] at ck;cases ck
   obtain⟨a1,a2,a3,a4,a5⟩:=Xih hk
   have c3:=(Xxi a3 (W0e ck)).1
   obtain⟨a',w',s',W',θ',_,hs',hθ',hw',x,hx,rfl⟩:=Nx.next hT hn (hd k (W0w ..)) ⟨s,W,θ,rfl,hs,hθ,Yax ck hw⟩
   obtain⟨ri,hri⟩:=Xos hT hn D ci hu' hd' (D.cloC hkL ck hz hx) hs' hθ' hw'
   rw[Xdb a1] at hri
   exact⟨ri,Yah ci c3 a5 hs.ids (hx.imp id λ⟨d,ob,h1,h2,h3⟩=>⟨d,ob,h2,h3,λe=>Xit a1 h1 e rfl⟩) hri⟩
theorem Yit(hT:∀T ti,tb T=some ti->TyOk P T ti/\∀a c,ti.z≠.pr a c)(hn:n<=1000000/\Gb.g P W0){L:List Oper}{sp:Oper->Oper->Bool}{Z:S->Prop}(D:Dm tb L sp Z){R:S->Prop}{i:Oper}(ci:Xao i=true){v:List Oper}: ∀ {u:List Oper},(∀k∈u,Ind L sp k i)->(∀k∈u,Xeb n k=true) ->
 ∀ {s:S} {a:Act} {W:GW} {θ:Loc},Sat W0 X n s a W θ->(∀i,1000000<=i->θ i=θ0 i)->WL P tb true L R (u++i::v) s->Wo P tb true L i (WL P tb true L R (u++v)) s
 | [],_,_,s,a,W,θ,_,_,hw=>hw
 | k::u,hu,hd,s,a,W,θ,hs,hθ,hw=>by
  have hk:=(hu k (W0w ..)).2.resolve_right λh=>by rw[(D.nc h).2] at ci;cases ci
  have hu':∀k∈u,Ind L sp k i:=λk hk=>hu k (W1e _ hk)
  have hd':∀k∈u,Xeb n k=true:=λk hk=>hd k (W1e _ hk)
  obtain⟨a1,a2,a3,a4,a5⟩:=Xih hk
  obtain⟨c3,c4⟩:=Yks a3 (W0e ci)
  have ck:Xao k=false:=by
   cases ck:Xao k with
   | false=>rfl
   | true=>exact absurd (W0e ck) c4
  obtain⟨rk,h1,h2⟩:=(Xew ck).1 hw
  obtain⟨a',w',s',W',θ',_,hs',hθ',rfl,hw'⟩:=Nx.next (R:=λs'=>s'=aft s k rk/\WL P tb true L R (u++i::v) s') hT hn (hd k (W0w ..)) ⟨s,W,θ,rfl,hs,hθ,(Xew ck).2 ⟨rk,h1,rfl,h2⟩⟩
  have ih:=Yit hT hn D ci hu' hd' hs' hθ' h2
  have hus:=Ydd ck c3 a4 h1
  have hdd:∀a b,k.dst=some a->i.dst=some b->a≠b:=λa b ha hb=>Xit a1 ha hb
  have hg2:(aft s k rk).2=Xbz s.2 rk.2:=S.put_g (s:=s)
  have hag:Xpb L i (aft s k rk) s:=Xni a1
  refine Xf2 ci hag ih (λj y hy ⟨t,ht,q,hq,hqj⟩=>?_) (λd hid hdn=>?_) λx hx hx2=>?_
  . rw[hag t ht] at hq
    obtain⟨y',hy'⟩:=hs.ids t q j hq hqj
    rw[hg2] at hy
    rcases hus with e | ⟨d,ob,_,e,hdn⟩
    . rw[e] at hy;exact hy
    . rw[e] at hy
      have hy:upd s.2 d ob j=some y:=hy
      rwa[Xam (λe=>by rw[e,hdn] at hy';cases hy')] at hy
  . rw[hg2] at hdn
    rcases hus with e | ⟨d',ob,hkd,e,_⟩
    . rw[e] at hdn;exact hdn
    . rw[e] at hdn
      have hdn:upd s.2 d' ob d=none:=hdn
      rwa[Xam (λe=>hdd d' d hkd hid e.symm)] at hdn
  . have hx':x.2=[]\/∃d ob,i.dst=some d/\x.2=[(d,ob)]/\s.2 d=none:=hx.imp id λ⟨d,ob,e1,e2,e3⟩=>⟨d,ob,e1,e2,by
     rw[hg2] at e3
     rcases hus with e | ⟨d',ob',hkd,e,_⟩
     . rw[e] at e3;exact e3
     . rw[e] at e3
       have e3:upd s.2 d' ob' d=none:=e3
       rwa[Xam (λe=>hdd d' d hkd e1 e.symm)] at e3⟩
    refine(Xew ck).2 ⟨rk,?_,?_⟩
    . rw[Xdb a2]
      exact Yde ck c3 a4 (hx'.imp id λ⟨d,ob,e1,e2,e3⟩=>⟨d,ob,e2,e3,λe=>hdd d d e e1 rfl⟩) h1
    . rw[<-Xxy hdd (Xq9 (s:=s) hus) (Xq9 (s:=s) hx')]
      exact hx2
theorem Yp2(hT:∀T ti,tb T=some ti->TyOk P T ti/\∀a c,ti.z≠.pr a c)(hn:n<=1000000/\Gb.g P W0){L:List Oper}{sp:Oper->Oper->Bool}{Z:S->Prop}(D:Dm tb L sp Z){R:S->Prop}{i:Oper}(hi:i∈L){u v:List Oper}(hu:∀k∈u,Ind L sp k i)(hd:∀k∈u,Xeb n k=true){a:Act}{w:World}
 (h:Nx W0 X θ0 n (λs=>Z s/\WL P tb true L R (u++i::v) s) a w):Nx W0 X θ0 n (Wo P tb true L i λs=>Z s/\WL P tb true L R (u++v) s) a w:=by
 obtain⟨s,W,θ,hw,hs,hθ,hz,h⟩:=h
 refine⟨s,W,θ,hw,hs,hθ,?_⟩
 cases ci:Xao i with
 | true=>exact Xf2 ci (λ_ _=>rfl) (Yit hT hn D ci hu hd hs hθ h) (λ_ _ h _=>h) (λ_ _ h=>h) λr hr h=>⟨D.cloC hi ci hz hr,h⟩
 | false =>
  obtain⟨ri,hri⟩:=Xos hT hn D ci hu hd hz hs hθ h
  exact(Xew ci).2 ⟨ri,hri,D.clo hi ci hz hri,Yem D ci hu hz hri h⟩
end
end
section
class Mx (P:Program):Prop where
 h:P.follows .mixedOrders=true
theorem Yjw(m:Region.Mode)(ops:Array Oper)(f:Nat): ∀(t:Nat) (ls:Array Bool) (acc:List Nat),Region.linearise.go m ops f t ls acc=acc.reverse++Region.linearise.go m ops f t ls []:=by
 induction f with
 | zero=>intro t ls acc;simp[Region.linearise.go]
 | succ f ih =>
  intro t ls acc
  simp only[Region.linearise.go]
  split
  . rename_i i hi
    rw[ih _ _ (i::acc),ih _ _ [i]]
    simp
  . simp
def Xe7(o:Oper): List Nat:=(o.after.toList.filter (Region.binds .any)).map (·.on)
def rdy(L:List Oper)(ls:Array Bool): List Nat :=
 (List.range L.toArray.size).filter λi=>!ls.getD i true&&((L.toArray[i]?).map (·.after.all λe=>!Region.binds .any e||ls.getD e.on false)).getD false
theorem Xuk{L:List Oper}{ls:Array Bool}(hs:ls.size=L.length){i:Nat}: i∈rdy L ls↔∃o,L[i]?=some o/\ls.getD i false=false/\∀j∈Xe7 o,ls.getD j false=true:=by
 unfold rdy
 rw[List.mem_filter]
 constructor
 . rintro⟨h1,h2⟩
   have hi:i<L.length:=by simpa using List.mem_range.1 h1
   rw[W0f] at h2
   obtain⟨h2,h3⟩:=h2
   have ho:L[i]?=some L[i]:=W0a hi
   refine⟨L[i],ho,?_,?_⟩
   . have:i<ls.size:=by omega
     simp[Array.getD,this] at h2 |-
     exact h2
   . intro j hj
     have ho':L.toArray[i]?=some L[i]:=by simp
     rw[ho'] at h3
     simp only[Option.map_some,W5z] at h3
     rw[Array.all_eq_true'] at h3
     simp only[Xe7,W4e,List.mem_filter] at hj
     obtain⟨e,⟨he,hb⟩,rfl⟩:=hj
     have:=h3 e (by simpa using he)
     rw[hb] at this
     simpa using this
 . rintro⟨o,ho,h2,h3⟩
   have hi:i<L.length:=Xbn ho
   refine⟨by simpa using hi,?_⟩
   rw[W0f]
   refine⟨?_,?_⟩
   . have:i<ls.size:=by omega
     simp[Array.getD,this] at h2 |-
     exact h2
   . have ho':L.toArray[i]?=some o:=by simpa using ho
     rw[ho']
     simp only[Option.map_some,W5z]
     rw[Array.all_eq_true']
     intro e he
     cases hb:Region.binds .any e with
     | false=>rfl
     | true =>
      have:=h3 e.on (by simp only[Xe7,W4e,List.mem_filter];exact⟨e,⟨by simpa using he,hb⟩,rfl⟩)
      simp[this]
def msk(M:List Nat)(ds:List Nat): Nat:=match ds with
 | []=>0
 | j::ds=>msk M ds|||(2^j|||M.getD j 0)
def Xru(L:List Oper)(sp:Oper->Oper->Bool)(o:Oper)(m:Nat): Nat->List Oper->Bool
 | _,[]=>true
 | k,x::l=>(m.testBit k||Xk5 L x o||sp x o)&&Xru L sp o m (k+1) l
def Xi1(L:List Oper)(sp:Oper->Oper->Bool): List Nat->List Oper->List Oper->Bool
 | _,_,[]=>true
 | M,pre,o::l=>(Xe7 o).all (λj=>Nat.blt j pre.length)&&Xru L sp o (msk M (Xe7 o)) 0 pre&&Xi1 L sp (M++[msk M (Xe7 o)]) (pre++[o]) l
def Xnm(L:List Oper)(p:Nat->Prop): Prop:=∀m o,L[m]?=some o->p m->∀j∈Xe7 o,p j
theorem Xj3{L:List Oper}{sp:Oper->Oper->Bool}{o:Oper}{m:Nat}: ∀ {l:List Oper} {k:Nat},Xru L sp o m k l=true->∀ {q:Nat} {x:Oper},l[q]?=some x->m.testBit (k+q)=true\/Xk5 L x o=true\/sp x o=true
 | [],_,_,q,x,h=>by simp at h
 | y::l,k,hc,q,x,h=>by
  simp only[Xru,W0f,W4v] at hc
  cases q with
  | zero=>simp at h;subst h;exact or_assoc.1 hc.1
  | succ q =>
   have:=Xj3 hc.2 (q:=q) (x:=x) (by simpa using h)
   rwa[show k+1+q=k+(q+1) by omega] at this
theorem Xu8{M:List Nat}{k:Nat}: ∀ {ds:List Nat},(msk M ds).testBit k=true->∃j∈ds,k=j\/(M.getD j 0).testBit k=true
 | [],h=>by simp[msk] at h
 | j::ds,h=>by
  simp only[msk,Nat.testBit_or,W4v] at h
  rcases h with h | h | h
  . obtain⟨i,h1,h2⟩:=Xu8 h
    exact⟨i,W1e _ h1,h2⟩
  . rw[Nat.testBit_two_pow] at h
    exact⟨j,W0w ..,.inl (of_decide_eq_true h).symm⟩
  . exact⟨j,W0w ..,.inr h⟩
theorem Xj4{L:List Oper}{sp:Oper->Oper->Bool}: ∀ {l pre:List Oper} {M:List Nat},L=pre++l->M.length=pre.length->(∀m o,pre[m]?=some o->∀k,(M.getD m 0).testBit k=true->∀p,Xnm L p->(∀j∈Xe7 o,p j)->p k)->Xi1 L sp M pre l=true ->
 ∀ {i:Nat} {o:Oper},pre.length<=i->L[i]?=some o->(∀j∈Xe7 o,j<i)/\∀ {k:Nat} {x:Oper},k<i->L[k]?=some x->(∀p,Xnm L p->(∀j∈Xe7 o,p j)->p k)\/Xk5 L x o=true\/sp x o=true
 | [],pre,M,hL,hM,hb,hc,i,o,hi,ho=>by
  have:=Xbn ho
  rw[hL] at this;simp at this;omega
 | y::l,pre,M,hL,hM,hb,hc,i,o,hi,ho=>by
  simp only[Xi1,W0f] at hc
  obtain⟨⟨hc1,hc2⟩,hc3⟩:=hc
  have hbit:∀k,(msk M (Xe7 y)).testBit k=true->∀p,Xnm L p->(∀j∈Xe7 y,p j)->p k:=by
   intro k hk p hp hj
   obtain⟨j,h1,h2⟩:=Xu8 hk
   rcases h2 with h2 | h2
   . rw[h2];exact hj j h1
   . have hjl:j<pre.length:=Xqy (W1s.1 hc1 j h1)
     have hjo:L[j]?=some pre[j]:=by rw[hL,W1b hjl,W0a hjl]
     exact hb j _ (W0a hjl) k h2 p hp (hp j _ hjo (hj j h1))
  by_cases hii:i=pre.length
  . subst hii
    have hoy:o=y:=by
     rw[hL,W0o (W0c _),W2v] at ho
     simpa using ho.symm
    subst hoy
    refine⟨λj hj=>Xqy (W1s.1 hc1 j hj),λ{k x} hk hx=>?_⟩
    rw[hL,W1b hk] at hx
    rcases Xj3 hc2 hx with h | h
    . rw[W1k] at h
      exact .inl (hbit k h)
    . exact .inr h
  . refine Xj4 (l:=l) (pre:=pre++[y]) (M:=M++[msk M (Xe7 y)]) (by rw[hL];simp) (by simp[hM]) (λm o hm k hk=>?_) hc3 (by simp;omega) ho
    by_cases hml:m<pre.length
    . rw[W1b hml] at hm
      rw[W2x,W1b (by omega),<-W2x] at hk
      exact hb m o hm k hk
    . have hme:m=pre.length:=by
       have:=Xbn hm;simp at this;omega
      subst hme
      rw[W0o (W0c _),W2v] at hm
      simp at hm;subst hm
      rw[W2x,W0o (by omega),hM,W2v] at hk
      exact hbit k hk
def Xjl(ls:Array Bool): Nat->List Oper->List Oper
 | _,[]=>[]
 | k,o::l=>match ls.getD k false with
  | true=>Xjl ls (k+1) l
  | false=>o::Xjl ls (k+1) l
theorem Xem{ls:Array Bool}{i k:Nat}(h:k<ls.size): (ls.setIfInBounds i true).getD k false=if i=k then true else ls.getD k false:=by
 simp only[Array.getD_eq_getD_getElem?,W3o]
 by_cases e:i=k
 . subst e;simp[h]
 . simp[e]
theorem Xui{ls:Array Bool}{i:Nat}: ∀ {l:List Oper} {k:Nat},i<k->k+l.length<=ls.size->Xjl (ls.setIfInBounds i true) k l=Xjl ls k l
 | [],_,_,_=>rfl
 | o::l,k,h,hs=>by
  simp only[W0k] at hs
  simp only[Xjl]
  rw[Xem (by omega),if_neg (by omega),Xui (by omega) (by omega)]
theorem Xjk{ls:Array Bool}{i:Nat}{o:Oper}: ∀ {l:List Oper} {k:Nat},k<=i->k+l.length<=ls.size->l[i-k]?=some o->ls.getD i false=false ->
 ∃u v,Xjl ls k l=u++o::v/\Xjl (ls.setIfInBounds i true) k l=u++v/\∀x∈u,∃q,q+k<i/\l[q]?=some x/\ls.getD (q+k) false=false
 | [],_,_,_,h,_=>by simp at h
 | y::l,k,hk,hs,ho,hi=>by
  simp only[W0k] at hs
  by_cases e:k=i
  . subst e
    rw[W2v] at ho
    simp at ho;subst ho
    refine⟨[],Xjl ls (k+1) l,by simp[Xjl,hi],?_,λx hx=>by cases hx⟩
    simp only[Xjl,Xem (show k<ls.size by omega),if_pos]
    rw[Xui (by omega) (by omega)];rfl
  . obtain⟨u,v,h1,h2,h3⟩:=Xjk (l:=l) (k:=k+1) (by omega) (by omega) (by rw[show i-k=(i-(k+1))+1 by omega] at ho;simpa using ho) hi
    have hgd:(ls.setIfInBounds i true).getD k false=ls.getD k false:=by rw[Xem (by omega),if_neg (λh=>e h.symm)]
    have h3':∀x∈u,∃q,q+k<i/\(y::l)[q]?=some x/\ls.getD (q+k) false=false:=λx hx=>by
     obtain⟨q,q1,q2,q3⟩:=h3 x hx
     exact⟨q+1,by omega,by simpa using q2,by rw[show q+1+k=q+(k+1) by omega];exact q3⟩
    cases hg:ls.getD k false with
    | true=>exact⟨u,v,by simp only[Xjl,hg];exact h1,by simp only[Xjl,hgd,hg];exact h2,h3'⟩
    | false =>
     refine⟨y::u,v,by simp only[Xjl,hg];rw[h1];rfl,by simp only[Xjl,hgd,hg];rw[h2];rfl,λx hx=>?_⟩
     rcases W1i.1 hx with h | h
     . subst h;exact⟨0,by omega,rfl,by simpa using hg⟩
     . exact h3' x h
theorem Xqg{ls:Array Bool}: ∀ {l:List Oper} {k:Nat},(∀q,q<l.length->ls.getD (k+q) false=true)->Xjl ls k l=[]
 | [],_,_=>rfl
 | o::l,k,h=>by
  have h0:=h 0 (by simp)
  rw[W2o] at h0
  simp only[Xjl,h0]
  exact Xqg λq hq=>by have:=h (q+1) (by simp;omega);rwa[show k+(q+1)=k+1+q by omega] at this
section
variable{P:Program}[Gb P]{tb:Nat->Option TI}{W0:GW}{X:Nat->Prop}{θ0:Loc}{n:Nat}
theorem Yf3(hT:∀T ti,tb T=some ti->TyOk P T ti/\∀a c,ti.z≠.pr a c)(hn:n<=1000000/\Gb.g P W0){L:List Oper}{sp:Oper->Oper->Bool}{Z:S->Prop}(D:Dm tb L sp Z){R:S->Prop}{Q:Exit->Act->World->Prop}(hQ:∀a w,Nx W0 X θ0 n R a w->Q .normal a w)
 (hok:(L.all (Xeb n))=true) (hchk:Xi1 L sp [] [] L=true):∀(f t:Nat) (ls:Array Bool) (a:Act) (w:World),ls.size=L.length->Xnm L (λm=>ls.getD m false=true) ->
 (∃free:List Nat,free.length=f/\free.Nodup/\∀q,q∈free↔q<L.length/\ls.getD q false=false)->Nx W0 X θ0 n (λs=>Z s/\WL P tb true L R (Xjl ls 0 L) s) a w ->
 wpOps P L.toArray Q (Region.linearise.go .any L.toArray f t ls []) a w:=by
 intro f
 induction f with
 | zero =>
  rintro t ls a w hs hc ⟨free,hf,_,hq⟩ h
  have hfr:free=[]:=W0n hf
  rw[Xqg (λq hql=>by
   cases e:ls.getD (0+q) false with
   | true=>rfl
   | false =>
    rw[W1k] at e
    have:=(hq q).2 ⟨hql,e⟩
    rw[hfr] at this;cases this)] at h
  exact hQ a w (h.mono λ_ h=>h.2)
 | succ f ih =>
  rintro t ls a w hs hc ⟨free,hf,hnd,hq⟩ h
  have hgo:Region.linearise.go .any L.toArray (f+1) t ls []=match (rdy L ls)[t%(rdy L ls).length]? with | some i=>Region.linearise.go .any L.toArray f (t/(rdy L ls).length) (ls.setIfInBounds i true) [i] | none=>[]:=rfl
  have hall:∀ {i:Nat} {o:Oper},L[i]?=some o->(∀j∈Xe7 o,j<i)/\∀ {k:Nat} {x:Oper},k<i->L[k]?=some x->(∀p,Xnm L p->(∀j∈Xe7 o,p j)->p k)\/Xk5 L x o=true\/sp x o=true:=λho =>
   Xj4 (L:=L) (l:=L) (pre:=[]) (M:=[]) rfl rfl (λm o hm=>by simp at hm) hchk (W0x _) ho
  have hne:∃i,i∈rdy L ls:=by
   have hlow:∀b,(∃q,q<b/\q∈free)->∃q∈free,∀r,r<q->r ∉ free:=by
    intro b
    induction b with
    | zero=>rintro⟨q,h,_⟩;omega
    | succ b ihb =>
     rintro⟨q,h1,h2⟩
     by_cases hb:∃q,q<b/\q∈free
     . exact ihb hb
     . have:q=b:=by
        by_cases h:q<b
        . exact absurd ⟨q,h,h2⟩ hb
        . omega
       subst this
       exact⟨q,h2,λr hr hrf=>hb ⟨r,hr,hrf⟩⟩
   have hmem:∃q,q∈free:=by
    cases free with
    | nil=>simp at hf
    | cons x l=>exact⟨x,W0w ..⟩
   obtain⟨q0,hq0⟩:=hmem
   obtain⟨q,h1,h2⟩:=hlow (q0+1) ⟨q0,by omega,hq0⟩
   obtain⟨h3,h4⟩:=(hq q).1 h1
   refine⟨q,(Xuk hs).2 ⟨L[q],W0a h3,h4,λj hj=>?_⟩⟩
   have hjq:=(hall (W0a h3)).1 j hj
   cases e:ls.getD j false with
   | true=>rfl
   | false=>exact absurd ((hq j).2 ⟨by omega,e⟩) (h2 j hjq)
  have hpos:0<(rdy L ls).length:=by
   obtain⟨i,hi⟩:=hne
   exact List.length_pos_of_mem hi
  have hlt:t%(rdy L ls).length<(rdy L ls).length:=W2d _ hpos
  rw[hgo,W0a hlt]
  simp only[]
  generalize hi:(rdy L ls)[t%(rdy L ls).length]=i
  have hir:i∈rdy L ls:=by rw[<-hi];exact W6n hlt
  obtain⟨o,ho,hif,hdep⟩:=(Xuk hs).1 hir
  rw[Yjw]
  obtain⟨u,v,r1,r2,r3⟩:=Xjk (ls:=ls) (i:=i) (o:=o) (l:=L) (k:=0) (W0x _) (by omega) (by simpa using ho) hif
  rw[r1] at h
  have hu:∀k∈u,Ind L sp k o:=λx hx=>by
   obtain⟨q,q1,q2,q3⟩:=r3 x hx
   rcases(hall ho).2 (by simpa using q1) q2 with h | h
   . have:=h _ hc hdep
     simp at q3 this
     rw[this] at q3;cases q3
   . exact⟨W0h q2,h⟩
  have hd:∀k∈u,Xeb n k=true:=λx hx=>by
   obtain⟨q,_,q2,_⟩:=r3 x hx
   exact W1s.1 hok x (W0h q2)
  have hp:=Yp2 hT hn D (W0h ho) hu hd h
  rw[<-r2] at hp
  have hw:=Ygv (Q:=Q) hT hn (W1s.1 hok o (W0h ho)) hp
  have hil:i<L.length:=Xbn ho
  have next:∀a w,Nx W0 X θ0 n (λs=>Z s/\WL P tb true L R (Xjl (ls.setIfInBounds i true) 0 L) s) a w->wpOps P L.toArray Q (Region.linearise.go .any L.toArray f (t/(rdy L ls).length) (ls.setIfInBounds i true) []) a w:=by
   intro a w hN
   refine ih _ _ a w (by simpa using hs) (λm x hm hml j hj=>?_) ⟨free.erase i,?_,hnd.erase i,λq=>?_⟩ hN
   . have hx:=(hall hm).1 j hj
     have hmL:=Xbn hm
     have hml:(ls.setIfInBounds i true).getD m false=true:=hml
     show (ls.setIfInBounds i true).getD j false=true
     rw[Xem (by omega)] at hml |-
     by_cases e:i=j
     . rw[if_pos e]
     . rw[if_neg e]
       by_cases e2:i=m
       . subst e2
         rw[ho] at hm;injection hm with hm;subst hm
         exact hdep j hj
       . rw[if_neg e2] at hml
         exact hc m x hm hml j hj
   . rw[List.length_erase_of_mem ((hq i).2 ⟨hil,hif⟩),hf];rfl
   . rw[hnd.mem_erase_iff,hq q]
     constructor
     . rintro⟨h1,h2,h3⟩
       exact⟨h2,by rw[Xem (by omega),if_neg (λe=>h1 e.symm)];exact h3⟩
     . rintro⟨h1,h2⟩
       rw[Xem (by omega)] at h2
       by_cases e:i=q
       . rw[if_pos e] at h2;cases h2
       . rw[if_neg e] at h2;exact⟨λh=>e h.symm,h1,h2⟩
  have hoa:L.toArray[i]?=some o:=by simpa using ho
  simp only[List.reverse_cons,List.reverse_nil,W4g,List.singleton_append,wpOps,hoa]
  split at hw
  . rename_i hwn
    rw[if_pos hwn]
    exact .inl (Oper.wp_mono (λa w h=>next a w h) hw)
  . rename_i hwn
    rw[if_neg hwn]
    exact next _ _ hw
end
end
section
inductive Kt where
 | c (c:Code)
 | b (id:Nat)
 | l (I:S->Prop)
structure Cx where
 P:Program
 gb:Gb P
 tb:Nat->Option TI
 hT:∀T ti,tb T=some ti->TyOk P T ti/\∀a c,ti.z≠.pr a c
 mx:Mx P
 n:Nat
 hn:n<=1000000
 W0:GW
 X:Nat->Prop
 θ0:Loc
 fin:Exit->Act->World->Prop
 hg:gb.g W0
attribute [instance] Cx.gb
abbrev Cx.Nx(c:Cx)(R:S->Prop)(a:Act)(w:World): Prop:=Vm.Nx c.W0 c.X c.θ0 c.n R a w
def Xr2(c:Cx): List Kt->Exit->Act->World->Prop
 | [],e,a,w=>c.fin e a w
 | .c x::K,e,a,w=>match e with
  | .normal=>x.wp c.P (Xr2 c K) a w
  | e=>Xr2 c K e a w
 | .b id::K,e,a,w=>match e with
  | .exit id'=>if id'=id then Xr2 c K .normal a w else Xr2 c K (.exit id') a w
  | e=>Xr2 c K e a w
 | .l I::K,e,a,w=>match e with
  | .normal=>c.Nx I a w
  | e=>Xr2 c K e a w
def J(c:Cx)(K:List Kt)(s:S): Prop:=∀a w,c.Nx (λs'=>s'=s) a w->Xr2 c K .normal a w
def Yci(id:Nat): List Kt->Option (List Kt)
 | []=>none
 | .b i::K=>match Nat.beq id i with
  | true=>some K
  | false=>Yci id K
 | _::K=>Yci id K
section
variable{c:Cx}{K:List Kt}{s:S}
theorem J.use{a:Act}{w:World}(h:c.Nx (J c K) a w): Xr2 c K .normal a w:=by
 obtain⟨s,W,θ,h1,h2,h3,h4⟩:=h
 exact h4 a w ⟨s,W,θ,h1,h2,h3,rfl⟩
theorem J.seq{x y:Code}(k:J c (.c x::.c y::K) s): J c (.c (.seq x y)::K) s:=λa w ha=>wp_seq (wp_mono (k a w ha) λe a w h=>by cases e<;>exact h)
theorem J.skip(k:J c K s): J c (.c .skip::K) s:=λa w ha=>wp_skip (k a w ha)
theorem J.block{id:Nat}{x:Code}(k:J c (.c x::.b id::K) s): J c (.c (.block id x)::K) s:=λa w ha=>wp_block (wp_mono (k a w ha) λe a w h=>by cases e<;>exact h)
theorem J.bend{id:Nat}(k:J c K s): J c (.b id::K) s:=λa w ha=>k a w ha
theorem Xww{id:Nat}{K K':List Kt}(h:Yci id K=some K'){a:Act}{w:World}(hd:Xr2 c K' .normal a w): Xr2 c K (.exit id) a w:=by
 induction K with
 | nil=>simp[Yci] at h
 | cons x K ih =>
  cases x with
  | c c=>exact ih h
  | l I=>exact ih h
  | b i =>
   by_cases hi:id=i
   . subst hi
     simp[Yci] at h
     subst h
     simp[Xr2]
     exact hd
   . simp only[Yci,Ycu hi] at h
     simp only[Xr2,if_neg hi]
     exact ih h
theorem J.exit{id:Nat}{K':List Kt}(h:Yci id K=some K')(k:J c K' s): J c (.c (.exit id)::K) s:=λa w ha=>wp_exit (Xww h (k a w ha))
theorem Yaj{K:List Kt}{a:Act}{w:World}(h:c.fin .ret a w): Xr2 c K .ret a w:=by
 induction K with
 | nil=>exact h
 | cons x K ih=>cases x<;>exact ih
theorem J.ret(k:∀a w,c.Nx (λs'=>s'=s) a w->c.fin .ret a w): J c (.c .ret::K) s:=λa w ha=>wp_ret (Yaj (k a w ha))
theorem J.cond{x:Operand}{p q:Code}{pr:Prop}{v:AV}(hv:Xcl s.1 x=some v)(hp:asP v=some pr)(k1:pr->J c (.c p::K) s)(k2:¬pr->J c (.c q::K) s): J c (.c (.cond x p q)::K) s:=by
 intro a w ha
 have ha':=ha
 obtain⟨s',W,θ,hw,hs,hθ,rfl⟩:=ha'
 obtain⟨b,e1,e2⟩:=Ygn hp (Xil hs hv).1
 cases b with
 | true=>exact wp_cond_true e1 (k1 (e2.1 rfl) a w ha)
 | false=>exact wp_cond_false e1 (k2 (λh=>by cases e2.2 h) a w ha)
theorem J.condU{x:Operand}{p q:Code}{pr:Prop}(hv:Xcl s.1 x=some (.ub pr))(k1:pr->J c (.c p::K) s)(k2:J c (.c q::K) s): J c (.c (.cond x p q)::K) s:=by
 intro a w ha
 have ha':=ha
 obtain⟨s',W,θ,hw,hs,hθ,rfl⟩:=ha'
 obtain⟨cs,⟨b,h1,h3⟩,h2⟩:=(Xil hs hv).1
 rw[h1] at h2
 cases b with
 | true=>exact wp_cond_true h2 (k1 (h3 rfl) a w ha)
 | false=>exact wp_cond_false h2 (k2 a w ha)
theorem J.condT{x:Operand}{p q:Code}(hv:Xcl s.1 x=some (.b true))(k:J c (.c p::K) s): J c (.c (.cond x p q)::K) s:=J.cond hv rfl (λ_=>k) (λh=>absurd rfl h)
theorem J.condF{x:Operand}{p q:Code}(hv:Xcl s.1 x=some (.b false))(k:J c (.c q::K) s): J c (.c (.cond x p q)::K) s:=J.cond hv rfl (λh=>by cases h) (λ_=>k)
def Xn7(n:Nat): List Oper->Bool
 | []=>true
 | o::l=>match Xeb n o with
  | true=>Xn7 n l
  | false=>false
theorem Xh9{n:Nat}: ∀ {l:List Oper},Xn7 n l=true->(l.all (Xeb n))=true
 | [],_=>rfl
 | o::l,h=>by
  simp only[Xn7] at h
  split at h
  . rename_i h1;rw[W6r,h1,Xh9 h];rfl
  . cases h
theorem J.reg{id:Nat}{L:List Oper}(hok:Xn7 c.n L=true)(k:WL c.P c.tb false L (J c K) L s): J c (.c (.region id L.toArray false)::K) s:=by
 intro a w ha
 refine wp_region ?_
 have:=Xyk (Q:=Xr2 c K) c.hT ⟨c.hn,c.hg⟩ (λa w h=>J.use h) L 0 a w rfl (Xh9 hok) (ha.mono λs' e=>by rw[e];exact k)
 rw[<-List.range_eq_range'] at this
 simpa using this
theorem Nx.tick{R:S->Prop}{a:Act}{w:World}(h:c.Nx R a w): c.Nx R a w.drew:=by
 obtain⟨s,W,θ,h1,h2,h3,h4⟩:=h
 exact⟨s,W.tick,θ,by rw[<-h1];rfl,h2.step0 (Stp.tick h2.obs),h3,h4⟩
theorem J.draw{id:Nat}{L:List Oper}{sp:Oper->Oper->Bool}{Z:S->Prop}(D:Dm c.tb L sp Z)(hz:Z s)(hok:Xn7 c.n L=true)(hchk:Xi1 L sp [] [] L=true)(k:WL c.P c.tb true L (J c K) L s): J c (.c (.region id L.toArray true)::K) s:=by
 intro a w ha
 refine wp_region_draw λt=>?_
 have hs:Region.schedule (c.P.follows .mixedOrders) L.toArray t=Region.linearise.go .any L.toArray L.length t (Array.replicate L.length false) []:=by
  rw[c.mx.h]
  simp[Region.schedule,Region.linearise]
 rw[hs]
 have hf:∀i,(Array.replicate L.length false).getD i false=false:=by
  intro i
  by_cases h:i<L.length<;>simp[Array.getD,h]
 have hrem:∀(l:List Oper) k,Xjl (Array.replicate L.length false) k l=l:=by
  intro l
  induction l with
  | nil=>intro k;rfl
  | cons o l ih=>intro k;simp only[Xjl,hf];rw[ih]
 refine Yf3 c.hT ⟨c.hn,c.hg⟩ D (λa w h=>J.use h) (Xh9 hok) hchk L.length t _ a _ (by simp) (λm o _ h=>by have h:(Array.replicate L.length false).getD m false=true:=h;rw[hf] at h;cases h) ⟨List.range L.length,by simp,List.nodup_range,λq=>by rw[hf];simp⟩ ?_
 rw[hrem]
 exact Nx.tick (ha.mono λs' e=>by rw[e];exact⟨hz,k⟩)
theorem Xjw(p:Nat->Prop)(h:∃n,p n): ∃n,p n/\∀m,p m->n<=m:=by
 obtain⟨n,hn⟩:=h
 induction n using Nat.strongRecOn with
 | _ n ih =>
  by_cases hs:∃m,m<n/\p m
  . obtain⟨m,hm,hp⟩:=hs;exact ih m hm hp
  . exact⟨n,hn,λm hm=>W4k λhlt=>hs ⟨m,hlt,hm⟩⟩
open Classical in
noncomputable def least(p:Nat->Prop): Nat:=if h:∃n,p n then Classical.choose (Xjw p h) else 0
theorem Xjt{p:Nat->Prop}(h:∃n,p n): p (least p)/\∀m,p m->least p<=m:=by
 unfold least;rw[dif_pos h];exact Classical.choose_spec (Xjw p h)
theorem J.loop{x:Code}(I:S->Nat->Prop)(μ:Nat)(h0:I s μ)(k:∀s μ,I s μ->J c (.c x::.l (λs'=>∃μ',μ'<μ/\I s' μ')::K) s): J c (.c (.loop x)::K) s:=by
 intro a w ha
 refine wp_loop (λa w=>∃μ,c.Nx (λs=>I s μ) a w) (λa w=>least λμ=>c.Nx (λs=>I s μ) a w) ⟨μ,ha.mono λs' e=>by rw[e];exact h0⟩ ?_
 rintro a w hI
 obtain⟨⟨s,W,θ,hw,hs,hθ,hi⟩,hmin⟩:=Xjt (p:=λμ=>c.Nx (λs=>I s μ) a w) hI
 refine wp_mono (k s _ hi a w ⟨s,W,θ,hw,hs,hθ,rfl⟩) ?_
 intro e a' w' h
 cases e<;>first | exact h | skip
 obtain⟨s',W',θ',hw',hs',hθ',μ',hlt,hi'⟩:=h
 have hN:c.Nx (λs=>I s μ') a' w':=⟨s',W',θ',hw',hs',hθ',hi'⟩
 exact⟨⟨μ',hN⟩,W1y ((Xjt (p:=λμ=>c.Nx (λs=>I s μ) a' w') ⟨μ',hN⟩).2 _ hN) hlt⟩
theorem J.at'{I:S->Prop}(h:I s): J c (.l I::K) s:=λa w ha=>ha.mono λs' e=>by rw[e];exact h
theorem J.cut{x:Code}(I:S->Prop)(k1:J c (.c x::.l I::K) s)(k2:∀s,I s->J c K s): J c (.c x::K) s:=by
 intro a w ha
 refine wp_mono (k1 a w ha) ?_
 intro e a' w' h
 cases e<;>first | exact h | skip
 exact J.use (h.mono λs hs=>k2 s hs)
def Xya(s:S): Prop:=(∀t v i,s.1 t=some v->v.ids i->∃y,s.2 i=some y)/\∀o x i,s.2 o=some x->x.ids i->∃y,s.2 i=some y
theorem J.sub(s':S)(h1:∀t v,s'.1 t=some v->s.1 t=some v)(h2:∀o x,s'.2 o=some x->s.2 o=some x)(h3:Xya s')(k:J c K s'): J c K s:=by
 rintro a w ⟨s0,W,θ,hw,hs,hθ,rfl⟩
 exact k a w ⟨s',W,θ,hw,⟨hs.fm,⟨hs.rel.defers,hs.rel.size,λt v ht=>hs.rel.has t v (h1 t v ht)⟩,
  ⟨λo x hx=>hs.obs.r o x (h2 o x hx),λo x b hx=>hs.obs.new o x b (h2 o x hx),λo o' x x' b hx hx'=>hs.obs.dis o o' x x' b (h2 o x hx) (h2 o' x' hx'),h3.2⟩,h3.1⟩,hθ,rfl⟩
end
end
section
def θe: Loc:=λ_=>(none,0)
abbrev Env:=List (Nat×AV)
abbrev Hpl:=List (Nat×Ob)
def look{α:Type _}: List (Nat×α)->Nat->Option α
 | [],_=>none
 | (s,v)::e,t=>match Nat.beq t s with
  | true=>some v
  | false=>look e t
def Xkx: AV->Bool
 | .st a=>Xkx a
 | .pr a c=>Xkx a&&Xkx c
 | .tup a=>Xkx a
 | .ptr _ _ | .own _ _ _ _ | .ow3 _ _ _ _ | .gr _ _ _ | .el _ _ _ _ | .fn _ _ | .ap _ _=>false
 | .fm _ a=>Xkx a
 | _=>true
theorem Xkw: ∀ {a:AV},Xkx a=true->∀i,¬a.ids i:=by
 intro a
 induction a with
 | st a ih=>exact λh i=>ih h i
 | tup a ih=>exact λh i=>ih h i
 | fm f a ih=>exact λh i=>ih h i
 | pr a c iha ihc =>
  intro h i hi
  simp only[Xkx,W0f] at h
  exact hi.elim (iha h.1 i) (ihc h.2 i)
 | _=>intro h i hi;first | exact hi | cases h
def Ret(W0:GW)(Q:AV->Prop)(e:Ending)(w':World): Prop:=∃W' v u,e=.returned u/\W'.w=w'/\Fm W0 W' (λ_=>False)/\AV.V W' θe v u/\(∀i,¬v.ids i)/\Q v
def C(P:Program)[Gb P](f:FuncId)(args:List AV)(Q:AV->Prop): Prop:=Yof P f/\∀W vs,Gb.g P W->Xi5 W θe args vs->Calls P f vs.toArray W.w (Ret W Q)
theorem Xi5.mono{W W':GW}{θ θ':Loc}(l:LeF W W'): ∀ {asx:List AV} {vs:List Value},(∀a∈asx,∀i,a.ids i->θ' i=θ i)->Xi5 W θ asx vs->Xi5 W' θ' asx vs
 | [],[],_,_=>trivial
 | a::asx,v::vs,hi,h=>⟨h.1.mono l (hi a (W0w ..)),h.2.mono l λa ha=>hi a (W1e _ ha)⟩
 | [],_::_,_,h=>h.elim
 | _::_,[],_,h=>h.elim
theorem C.cs{P:Program}[Gb P]{f:FuncId}{args:List AV}{Q:AV->Prop}(h:C P f args Q)(hn:(args.all Xkx)=true)(g:Hp): CS P f args g λv g'=>g'=g/\Q v:=by
 refine⟨h.1,λN W θ vs hg hO hN _ ha=>(h.2 W vs hg (ha.mono (LeF.refl W) λa hm i hi=>absurd hi (Xkw (W1s.1 hn a hm) i))).mono ?_⟩
 rintro e w' ⟨W',v,u,rfl,rfl,hf,hv,hi,hq⟩
 refine⟨W',θ,v,u,g,rfl,rfl,?_,hv.mono (LeF.refl _) λi h=>absurd h (hi i),λi h=>absurd h (hi i),rfl,hq⟩
 exact {
  os:=hf.os,out:=hf.out,tape:=hf.tape,size:=hf.size
  same:=λb hb _=>hf.same b hb id
  A:=λb hb _ i=>hf.A b hb id i
  le:=hf.le
  th:=λ_ _ _=>rfl
  hi:=λ_ _=>rfl
  obs:=⟨λo x hx=>(hO.r o x hx).keep hf.le rfl (λ_ _=>rfl) λhl b hb=>⟨hf.same b (hO.lt hx hl hb) id,λi hA=>(hf.A b (hO.lt hx hl hb) id i).2 hA⟩,hO.new,hO.dis,hO.ids⟩
  dom:=λ_ y h=>⟨y,h⟩ }
def Xb5{α:Type _}(H:List (Nat×α))(i:Nat): Bool:=match look H i with
 | some _=>true
 | none=>false
def Xc9(H:Hpl): AV->Bool
 | .st a=>Xc9 H a
 | .pr a c=>Xc9 H a&&Xc9 H c
 | .tup a=>Xc9 H a
 | .fm _ a=>Xc9 H a
 | .ptr o _ | .own o _ _ _ | .ow3 o _ _ _ | .gr o _ _ | .el o _ _ _ | .fn _ o | .ap o _=>Xb5 H o
 | _=>true
theorem Xfv{H:Hpl}: ∀ {a:AV},Xc9 H a=true->∀i,a.ids i->∃y,look H i=some y:=by
 have hk:∀o,Xb5 H o=true->∃y,look H o=some y:=λo h=>by
  unfold Xb5 at h;split at h
  . rename_i y hy;exact⟨y,hy⟩
  . cases h
 intro a
 induction a with
 | st a ih=>exact ih
 | tup a ih=>exact ih
 | fm f a ih=>exact ih
 | pr a c iha ihc =>
  intro h i hi
  simp only[Xc9,W0f] at h
  exact hi.elim (iha h.1 i) (ihc h.2 i)
 | _=>intro h i hi;first | exact hi.elim | (have hi:i=_:=hi;subst hi;exact hk _ h)
inductive Fit (g:Hp) (K:Hpl):AV->AV->Prop where
 | rf {a:AV} (h:Xc9 K a=true):Fit g K a a
 | eq {x y:D} (h:x=y):Fit g K (.d x) (.d y)
 | nil {sz:Nat} {ys:List D} (h:ys=[]):Fit g K .nil (.d (.sl sz ys))
 | lit {sz:Nat} {xs ys:List D} (h:xs=ys):Fit g K (.lit sz xs) (.d (.sl sz ys))
 | gr {o sz:Nat} {xs ys:List D} (h:xs=ys):Fit g K (.gr o sz xs) (.d (.sl sz ys))
 | own {o sz l n:Nat} {xs ys:List D} (h:g o=some (.arr sz xs)) (hn:l+n<=xs.length) (hy:(xs.drop l).take n=ys) (hk:Xb5 K o=false:=by exact rfl):Fit g K (.own o sz l n) (.d (.sl sz ys))
 | ow3 {o sz l n:Nat} {xs ys:List D} (h:g o=some (.arr sz xs)) (hn:l+n<=xs.length) (hy:(xs.drop l).take n=ys) (hk:Xb5 K o=false:=by exact rfl):Fit g K (.ow3 o sz l n) (.d (.sl sz ys))
 | bq {c:Bool} {p:Prop} (h:c=true↔p):Fit g K (.b c) (.q p)
 | qq {p q:Prop} (h:p↔q):Fit g K (.q p) (.q q)
 | bp {c:Bool} {p:Prop} (h:c=true↔p):Fit g K (.b c) (.b (dc p))
 | bd {c e:Bool} (h:c=e):Fit g K (.b c) (.d (.bool e))
 | qd {p:Prop} {e:Bool} (h:p↔e=true):Fit g K (.q p) (.d (.bool e))
 | dq {c:Bool} {p:Prop} (h:c=true↔p):Fit g K (.d (.bool c)) (.q p)
 | st {a b:AV} (h:Fit g K a b):Fit g K (.st a) (.st b)
 | sd {a:AV} {x:D} (h:Fit g K a (.d x)):Fit g K (.st a) (.d (.st x))
 | pr {a b c e:AV} (h:Fit g K a b) (k:Fit g K c e):Fit g K (.pr a c) (.pr b e)
 | pd {a c:AV} {x y:D} (h:Fit g K a (.d x)) (k:Fit g K c (.d y)):Fit g K (.pr a c) (.d (.pr x y))
inductive FitT (g:Hp) (K:Hpl):AV->AV->Prop where
 | one {a b:AV} (h:Fit g K a b) (ha:∀u v,a≠.pr u v) (hb:∀u v,b≠.pr u v):FitT g K a b
 | cons {a b c e:AV} (h:Fit g K a b) (k:FitT g K c e):FitT g K (.pr a c) (.pr b e)
inductive FitR (g:Hp) (K:Hpl):AV->AV->Prop where
 | one {a b:AV} (h:Fit g K a b) (ha:plain a=true) (hb:plain b=true):FitR g K a b
 | tup {a b:AV} (h:FitT g K a b):FitR g K (.tup a) (.tup b)
structure Exi (W W':GW) (N:Nat->Prop) (θ:Loc) (g:Hp) (K:Hpl):Prop where
 o:Obs W θ N g
 l:LeF W W'
 n:∀o x b,g o=some x->x.live=true->(θ o).1=some b->Xb5 K o=false->∀i v,W.w.cell? ⟨b,i,none⟩=some v->Fr W' b i v
theorem Xz8{W W':GW}{N:Nat->Prop}{θ:Loc}{g:Hp}{K:Hpl}(E:Exi W W' N θ g K){a b:AV}(h:Fit g K a b): (∀ {cs:List Value},AV.C W θ a cs->AV.C W' θ b cs)/\a.ag=b.ag/\∀i,b.ids i->∃y,look K i=some y:=by
 induction h with
 | rf h=>exact⟨λhc=>AV.c_mono E.l _ (λ_ _=>rfl) hc,rfl,Xfv h⟩
 | eq h=>subst h;exact⟨λhc=>D.mono E.l _ hc,rfl,λ_ h=>h.elim⟩
 | nil h=>subst h;exact⟨λ⟨p,e⟩=>⟨p,0,e,W0c _,by decide,.inl rfl⟩,rfl,λ_ h=>h.elim⟩
 | @lit sz xs ys h =>
  subst h
  exact⟨λ{cs} hc=>D.mono E.l (.sl sz xs) (Xls (θ:=θ) (z:=.sl sz []) (a:=.lit sz xs) rfl hc),rfl,λ_ h=>h.elim⟩
 | @gr o sz xs ys h =>
  subst h
  exact⟨λ{cs} hc=>D.mono E.l (.sl sz xs) (Xls (θ:=θ) (z:=.sl sz []) (a:=.gr o sz xs) rfl hc),rfl,λ_ h=>h.elim⟩
 | @own o sz l n xs ys h hn hy hk =>
  subst hy
  refine⟨λ{cs} hc=>?_,rfl,λ_ h=>h.elim⟩
  obtain⟨b,p,h1,h2,h3,e,h5⟩:=hc
  obtain⟨b',bs,T',r1,r2,r3,r4,r5,r6,r7⟩:=E.o.r _ _ h
  rw[h1] at r1;injection r1 with r1;subst r1
  have hlen:((xs.drop l).take n).length=n:=by simp;omega
  refine⟨p,(θ o).2-l,by rw[hlen];exact e,by omega,by omega,?_⟩
  rcases W2u n with hn0 | hn0
  . exact .inl (W2s.1 (by rw[hlen,hn0]))
  . refine .inr ⟨b,l*sz,h5 (by omega),?_⟩
    have hrow:D.Row W' b sz 0 xs:=(AtL.mono E.l (sz:=sz) (xs:=xs) (cs:=bs) r6).row λq v _ hv=>by
     rw[W1k]
     exact E.n o _ b h rfl h1 hk q v (by rw[Xbf r2];exact hv)
    have:=D.row_sub hrow l n
    rwa[W1k] at this
 | @ow3 o sz l n xs ys h hn hy hk =>
  subst hy
  refine⟨λ{cs} hc=>?_,rfl,λ_ h=>h.elim⟩
  obtain⟨b,p,h1,h2,h3,e,h5⟩:=hc
  obtain⟨b',bs,T',r1,r2,r3,r4,r5,r6,r7⟩:=E.o.r _ _ h
  rw[h1] at r1;injection r1 with r1;subst r1
  have hlen:((xs.drop l).take n).length=n:=by simp;omega
  refine⟨p,n,by rw[hlen];exact e,by omega,by omega,?_⟩
  rcases W2u n with hn0 | hn0
  . exact .inl (W2s.1 (by rw[hlen,hn0]))
  . refine .inr ⟨b,l*sz,h5 (by omega),?_⟩
    have hrow:D.Row W' b sz 0 xs:=(AtL.mono E.l (sz:=sz) (xs:=xs) (cs:=bs) r6).row λq v _ hv=>by
     rw[W1k]
     exact E.n o _ b h rfl h1 hk q v (by rw[Xbf r2];exact hv)
    have:=D.row_sub hrow l n
    rwa[W1k] at this
 | bq h=>exact⟨λhc=>⟨_,hc,h⟩,rfl,λ_ h=>h.elim⟩
 | qq h=>exact⟨λ⟨c,e,hp⟩=>⟨c,e,hp.trans h⟩,rfl,λ_ h=>h.elim⟩
 | @bp c p h =>
  have:c=dc p:=W3p.2 (h.trans Xal.symm)
  subst this
  exact⟨λhc=>hc,rfl,λ_ h=>h.elim⟩
 | bd h=>subst h;exact⟨λhc=>hc,rfl,λ_ h=>h.elim⟩
 | @qd p e h =>
  refine⟨λ⟨c,e1,hp⟩=>?_,rfl,λ_ h=>h.elim⟩
  have:c=e:=W3p.2 (hp.trans h)
  subst this;exact e1
 | dq h=>exact⟨λhc=>⟨_,hc,h⟩,rfl,λ_ h=>h.elim⟩
 | st h ih=>exact⟨λhc=>ih.1 hc,rfl,ih.2.2⟩
 | sd h ih=>exact⟨λhc=>ih.1 hc,rfl,λ_ h=>h.elim⟩
 | pr h k ih1 ih2=>exact⟨λ⟨u,v,e,h1,h2⟩=>⟨u,v,e,ih1.1 h1,ih2.1 h2⟩,rfl,λi hi=>hi.elim (ih1.2.2 i) (ih2.2.2 i)⟩
 | pd h k ih1 ih2=>exact⟨λ⟨u,v,e,h1,h2⟩=>⟨u,v,e,ih1.1 h1,ih2.1 h2⟩,rfl,λ_ h=>h.elim⟩
theorem Yc7{W W':GW}{N:Nat->Prop}{θ:Loc}{g:Hp}{K:Hpl}(E:Exi W W' N θ g K){a b:AV}(h:Fit g K a b){v:Value}(hv:AV.V1 W θ a v): AV.V1 W' θ b v:=by
 obtain⟨cs,hc,e⟩:=hv
 obtain⟨f1,f2,f3⟩:=Xz8 E h
 exact⟨cs,f1 hc,by rw[e,f2]⟩
theorem Ynn{W W':GW}{N:Nat->Prop}{θ:Loc}{g:Hp}{K:Hpl}(E:Exi W W' N θ g K){a b:AV}(h:FitT g K a b): (∀ {vs:List Value},AV.T W θ a vs->AV.T W' θ b vs)/\∀i,b.ids i->∃y,look K i=some y:=by
 induction h with
 | @one a b h ha hb =>
  refine⟨λ{vs} hv=>?_,(Xz8 E h).2.2⟩
  by_cases hu:a=.un\/b=.un
  . have:a=.un/\b=.un:=by
     rcases hu with rfl | rfl
     . cases h;exact⟨rfl,rfl⟩
     . cases h;exact⟨rfl,rfl⟩
    obtain⟨rfl,rfl⟩:=this
    match vs,hv with
    | [],_=>trivial
    | [v],⟨_,h,_⟩=>exact h.elim
  have hua:a≠.un:=λe=>hu (.inl e)
  have hub:b≠.un:=λe=>hu (.inr e)
  have key:∀ {W:GW} {θ:Loc} {a:AV},a≠.un->(∀u v,a≠.pr u v)->(AV.T W θ a vs↔∃v,vs=[v]/\AV.V1 W θ a v):=by
   intro W θ a hu ha
   cases a<;>first | exact absurd rfl (ha _ _) | exact absurd rfl hu | skip
   all_goals
    match vs with
    | []=>exact⟨λh=>h.elim,λ⟨v,h,_⟩=>by cases h⟩
    | [v]=>exact⟨λh=>⟨v,rfl,h⟩,λ⟨w,h,k⟩=>by injection h with h;subst h;exact k⟩
    | _::_::_=>exact⟨λh=>h.elim,λ⟨v,h,_⟩=>by cases h⟩
  obtain⟨v,e,h1⟩:=(key hua ha).1 hv
  exact(key hub hb).2 ⟨v,e,Yc7 E h h1⟩
 | cons h k ih =>
  refine⟨λ{vs} hv=>?_,λi hi=>hi.elim ((Xz8 E h).2.2 i) (ih.2 i)⟩
  match vs,hv with
  | v::vs,hv=>exact⟨Yc7 E h hv.1,ih.1 hv.2⟩
theorem Yfr{W W':GW}{N:Nat->Prop}{θ:Loc}{g:Hp}{K:Hpl}(E:Exi W W' N θ g K){a b:AV}(h:FitR g K a b){v:Value}(hv:AV.V W θ a v): AV.V W' θ b v/\∀i,b.ids i->∃y,look K i=some y:=by
 cases h with
 | one h ha hb =>
  obtain⟨cs,hc,e⟩:=V_c hv (λ_ e=>by subst e;cases ha) (λe=>by subst e;cases ha)
  obtain⟨f1,f2,f3⟩:=Xz8 E h
  have:=Yli (f1 hc)
  rw[<-f2,<-e] at this
  exact⟨this,f3⟩
 | tup h =>
  obtain⟨vs,e,ht⟩:=hv
  obtain⟨f1,f2⟩:=Ynn E h
  exact⟨⟨vs,e,f1 ht⟩,f2⟩
def Ylw(tb:Nat->Option TI)(s:S): ResultVar->Option AV
 | .tmp t=>match s.1 t with
  | some a=>match plain a with
   | true=>some a
   | false=>none
  | none=>none
 | .cell t T=>match tb T,s.1 t with
  | some ti,some (.ptr o 0)=>match s.2 o with
   | some (.var a)=>match plain a&&Xz9 ti.z.size ti.z.ag a with
    | true=>some a
    | false=>none
   | _=>none
  | _,_=>none
def Xsa(tb:Nat->Option TI)(s:S): List ResultVar->Option (List AV)
 | []=>some []
 | r::l=>match Ylw tb s r,Xsa tb s l with
  | some a,some asx=>some (a::asx)
  | _,_=>none
def mkT: List AV->AV
 | []=>.un
 | [a]=>a
 | a::l=>.pr a (mkT l)
def Xyd(tb:Nat->Option TI)(s:S)(rs:List ResultVar): Option AV:=match rs,Xsa tb s rs with
 | [_],some [a]=>some a
 | _::_::_,some asx=>some (.tup (mkT asx))
 | [],some []=>some (.tup .un)
 | _,_=>none
def Xqd(tmps:Array Value): ResultVar->Sem Value
 | .tmp t=>pure (tmps.getD t undef)
 | .cell a t=>do loadVar t (<-asAddr (tmps.getD a undef))
section
variable{c:Cx}{K:List Kt}{s:S}
theorem Xzk{W:GW}{θ:Loc}{a:AV}{v:Value}(h:AV.V W θ a v)(hp:plain a=true): AV.V1 W θ a v:=V_c h (λ_ e=>by subst e;cases hp) (λe=>by subst e;cases hp)
theorem Xy8{W0:GW}{X:Nat->Prop}{n:Nat}{a:Act}{W:GW}{θ:Loc}(hT:∀T ti,c.tb T=some ti->TyOk c.P T ti/\∀a c,ti.z≠.pr a c)(hs:Sat W0 X n s a W θ){r:ResultVar}{v:AV}(h:Ylw c.tb s r=some v):
 ∃u,(Xqd a.tmps r).run c.P W.w=.ok u W.w/\AV.V1 W θ v u/\plain v=true:=by
 cases r with
 | tmp t =>
  simp only[Ylw] at h
  split at h<;>try cases h
  rename_i b hb
  split at h<;>cases h
  rename_i hp
  exact⟨_,rfl,Xzk (hs.rel.has t _ hb) hp,hp⟩
 | cell t T =>
  simp only[Ylw] at h
  split at h<;>try cases h
  rename_i ti o hti ht
  split at h<;>try cases h
  rename_i b hg
  split at h<;>cases h
  rename_i hp
  rw[W0f] at hp
  obtain⟨hp1,hp2⟩:=hp
  obtain⟨f1,f2⟩:=Xda hp2
  obtain⟨hk,hpr⟩:=hT _ _ hti
  obtain⟨bb,h1,e⟩:=Xjd (hs.rel.has t _ ht)
  obtain⟨b',cs,T',r1,r2,r3,r4⟩:=hs.obs.r _ _ hg
  rw[h1] at r1;injection r1 with r1;subst r1
  have:=Xhz hk (off:=0) r3 f1 f2 (λe=>by rw[f1];exact ag1 hk (by rw[<-f2];exact e) hpr) (λj u hj=>by rw[Xbf r2,W1k];exact hj)
  refine⟨_,?_,Ylj r3,hp1⟩
  simp only[Xqd,e,asAddr]
  rw[Sem.run_bind]
  show Result.andThen (Result.ok _ _) _=_
  simp only[Result.andThen_ok]
  exact this
theorem Xl5{W0:GW}{X:Nat->Prop}{n:Nat}{a:Act}{W:GW}{θ:Loc}(hT:∀T ti,c.tb T=some ti->TyOk c.P T ti/\∀a c,ti.z≠.pr a c)(hs:Sat W0 X n s a W θ): ∀ {l:List ResultVar} {asx:List AV},Xsa c.tb s l=some asx ->
 ∃us,(l.mapM (Xqd a.tmps)).run c.P W.w=.ok us W.w/\us.length=asx.length/\asx.length=l.length/\(∀(i:Nat) (v:AV),asx[i]?=some v->∃u,us[i]?=some u/\AV.V1 W θ v u/\plain v=true)
 | [],asx,h=>by simp only[Xsa] at h;injection h with h;subst h;exact⟨[],rfl,rfl,rfl,λi v h=>by simp at h⟩
 | r::l,asx,h=>by
  simp only[Xsa] at h
  split at h<;>cases h
  rename_i b bs h1 h2
  obtain⟨u,e1,e2,e3⟩:=Xy8 hT hs h1
  obtain⟨us,k1,k2,k3,k4⟩:=Xl5 hT hs h2
  refine⟨u::us,?_,by simp[k2],by simp[k3],λi v hi=>?_⟩
  . rw[List.mapM_cons,Sem.run_bind,e1]
    simp only[Result.andThen_ok]
    rw[Sem.run_bind,k1]
    rfl
  . cases i with
    | zero=>simp at hi;subst hi;exact⟨u,rfl,e2,e3⟩
    | succ i=>simpa using k4 i v (by simpa using hi)
theorem Yjc{W:GW}{θ:Loc}: ∀ {asx:List AV} {us:List Value},us.length=asx.length->0<asx.length->(∀(i:Nat) (v:AV),asx[i]?=some v->∃u,us[i]?=some u/\AV.V1 W θ v u/\plain v=true)->AV.T W θ (mkT asx) us
 | [a],[u],_,_,h=>by
  obtain⟨w,h1,h2,h3⟩:=h 0 a rfl
  simp at h1;subst h1
  show AV.T W θ a [u]
  cases a<;>first | exact h2 | cases h3
 | a::b::l,u::us,hl,_,h=>by
  obtain⟨w,h1,h2,_⟩:=h 0 a rfl
  simp at h1;subst h1
  exact⟨h2,Yjc (asx:=b::l) (by simpa using hl) (by simp) λi v hi=>by
   have:=h (i+1) v (by simpa using hi)
   simpa using this⟩
 | [],_,_,h,_=>by simp at h
 | [_],[],h,_,_=>by simp at h
 | [_],_::_::_,h,_,_=>by simp at h
 | _::_::_,[],h,_,_=>by simp at h
theorem Xqc{W0:GW}{X:Nat->Prop}{n:Nat}{a:Act}{W:GW}{θ:Loc}(hT:∀T ti,c.tb T=some ti->TyOk c.P T ti/\∀a c,ti.z≠.pr a c)(hs:Sat W0 X n s a W θ){fn:Func}{v:AV}(h:Xyd c.tb s fn.results.toList=some v):
 ∃u,(results fn a.tmps).run c.P W.w=.ok u W.w/\AV.V W θ v u:=by
 have key:∀ {asx:List AV},Xsa c.tb s fn.results.toList=some asx->∃us:List Value,(results fn a.tmps).run c.P W.w=.ok (if h:us.toArray.size=1 then us.toArray[0] else .tuple us.toArray) W.w/\us.length=asx.length/\asx.length=fn.results.toList.length/\(∀(i:Nat) (v:AV),asx[i]?=some v->∃u,us[i]?=some u/\AV.V1 W θ v u/\plain v=true):=by
  intro asx has
  obtain⟨us,k1,k2,k3,k4⟩:=Xl5 hT hs has
  refine⟨us,?_,k2,k3,k4⟩
  unfold results
  have hr:fn.results=fn.results.toList.toArray:=by simp
  have hm:(fn.results.mapM (Xqd a.tmps)).run c.P W.w=.ok us.toArray W.w:=by
   rw[hr,List.mapM_toArray,Sem.run_map,k1]
   rfl
  rw[Sem.run_bind]
  erw[hm]
  rfl
 unfold Xyd at h
 split at h<;>cases h
 . rename_i r hrs has
   obtain⟨us,k1,k2,k3,k4⟩:=key has
   match us,k2,k1 with
   | [u],_,k1 =>
    obtain⟨w,h1,h2,h3⟩:=k4 0 _ rfl
    simp at h1;subst h1
    exact⟨u,by rw[k1];rfl,V1.V h2⟩
 . rename_i r1 r2 rs asx hrs has
   obtain⟨us,k1,k2,k3,k4⟩:=key has
   have hl:2<=us.length:=by rw[k2,k3,hrs];simp
   exact⟨.tuple us.toArray,by rw[k1,dif_neg (by simp;omega)],us,rfl,Yjc k2 (by omega) k4⟩
 . rename_i hrs has
   obtain⟨us,k1,k2,k3,k4⟩:=key has
   have hl:us=[]:=W0n (by rw[k2];rfl)
   subst hl
   exact⟨.tuple #[],by rw[k1];rfl,[],rfl,trivial⟩
theorem Xwn{fn:Func}{Q:AV->Prop}(hX:c.X=λ_=>False){v v':AV}(hr:Xyd c.tb s fn.results.toList=some v)(hf:FitR s.2 [] v v')(hq:Q v'){a:Act}{w:World}(h:c.Nx (λs'=>s'=s) a w):
 a.defers=[]/\∃u,(results fn a.tmps).run c.P w=.ok u w/\Ret c.W0 Q (.returned u) w:=by
 obtain⟨s',W,θ,rfl,hs,hθ,rfl⟩:=h
 obtain⟨u,hu,hv⟩:=Xqc c.hT hs hr
 have hfm:=hs.fm
 have hobs:=hs.obs
 rw[hX] at hfm hobs
 refine⟨hs.rel.defers,u,hu,?_⟩
 let W':GW:=⟨W.w,c.W0.A,λb i h=>W0s (c.W0.hA b i h) hfm.size⟩
 have hle:LeF W W':=λb i x hx=>⟨hx.1,λhA=>hx.2 ((hfm.A b (c.W0.hA b i hA) id i).2 hA)⟩
 have E:Exi W W' (λb=>c.W0.size<=b\/False) θ s'.2 []:=⟨hobs,hle,λo x b ho hl hb _ i y hy=>⟨hy,λhA=>absurd (c.W0.hA b i hA) (W6e.2 ((hobs.new o x b ho hl hb).resolve_right id))⟩⟩
 obtain⟨f1,f2⟩:=Yfr E hf hv
 have f2:∀i,¬v'.ids i:=λi hi=>by obtain⟨y,hy⟩:=f2 i hi;cases hy
 exact⟨W',v',u,rfl,rfl,⟨hfm.os,hfm.out,hfm.tape,hfm.size,hfm.same,λ_ _ _ _=>W4a,λb i x hx=>⟨(hfm.le b i x hx).1,hx.2⟩⟩,f1.mono (LeF.refl W') λi hi=>absurd hi (f2 i),f2,hq⟩
theorem J.retC{fn:Func}{Q:AV->Prop}(hX:c.X=λ_=>False)(hfin:c.fin=bodyPost c.P fn (Ret c.W0 Q)){v v':AV}(hr:Xyd c.tb s fn.results.toList=some v)(hf:FitR s.2 [] v v')(hq:Q v'): J c (.c .ret::K) s :=
 J.ret λa w h=>by rw[hfin];exact Xwn hX hr hf hq h
theorem J.endC{fn:Func}{Q:AV->Prop}(hX:c.X=λ_=>False)(hfin:c.fin=bodyPost c.P fn (Ret c.W0 Q)){v v':AV}(hr:Xyd c.tb s fn.results.toList=some v)(hf:FitR s.2 [] v v')(hq:Q v'): J c [] s :=
 λa w h=>by show c.fin .normal a w;rw[hfin];exact Xwn hX hr hf hq h
end
def Ya4: Nat->List AV->Ev
 | _,[]=>λ_=>none
 | i,v::vs=>upd (Ya4 (i+1) vs) i v
theorem Xnh{W:GW}: ∀ {asx:List AV} {vs:List Value} {i t:Nat} {v:AV},Xi5 W θe asx vs->Ya4 i asx t=some v->i<=t/\∃u,vs[t-i]?=some u/\AV.V W θe v u/\v∈asx
 | [],[],i,t,v,_,h=>by simp[Ya4] at h
 | a::asx,u::vs,i,t,v,ha,h=>by
  rcases Xae h with ⟨e1,e2⟩ | ⟨e1,e2⟩
  . subst e1;subst e2;exact⟨W0c _,u,by simp,ha.1,W0w ..⟩
  . obtain⟨h1,w,h2,h3,h4⟩:=Xnh ha.2 e2
    exact⟨by omega,w,by rw[show t-i=(t-(i+1))+1 by omega];simpa using h2,h3,W1e _ h4⟩
 | [],_::_,_,_,_,h,_=>h.elim
 | _::_,[],_,_,_,h,_=>h.elim
theorem Xi5.len{W:GW}{θ:Loc}: ∀ {asx:List AV} {vs:List Value},Xi5 W θ asx vs->asx.length=vs.length
 | [],[],_=>rfl
 | _::_,_::_,h=>by simp[h.2.len]
 | [],_::_,h=>h.elim
 | _::_,[],h=>h.elim
theorem C.enter {P : Program} [gb : Gb P] [t : Tab P] (hpr : ∀ T ti, t.tb T = some ti → ∀ a c, ti.z ≠ .pr a c) [m : Mx P] {f n : Nat} {fn : Func} {x : Code} {args : List AV} {Q : AV → Prop} (hf : P.funcs[f]? = some fn) (hname : (fn.name == "runtime.NumGoroutine") = false) (hb : fn.body = some x)
 (hN:fn.ntmps=n) (hl:(Nat.ble args.length n&&Nat.ble n 1000000&&args.all Xkx)=true)
 (h:∀W (hg:gb.g W),J ⟨P,gb,t.tb,λT ti h=>⟨t.ok T ti h,hpr T ti h⟩,m,n,by simp only[W0f] at hl;exact W1q hl.1.2,W,λ_=>False,θe,bodyPost P fn (Ret W Q),hg⟩ [.c x] (Ya4 0 args,λ_=>none)):C P f args Q:=by
 refine⟨⟨fn,hf,hname,by rw[hb];rfl⟩,λW vs hg ha=>calls_of_wp hf hb ?_⟩
 simp only[W0f] at hl
 obtain⟨⟨hl1,hl2⟩,hl3⟩:=hl
 have hl1:=W1q hl1
 have hlen:=ha.len
 refine wp_mono (h W hg _ W.w ⟨_,W,θe,rfl,⟨Fm.refl W _,⟨rfl,by simp[hN];omega,λt v ht=>?_⟩,⟨λo x h=>by simp at h,λo x b h=>by simp at h,λo o' x x' b h=>by simp at h,λo x i h=>by simp at h⟩,λt v i ht hi=>?_⟩,λ_ _=>rfl,rfl⟩) λe a w h=>by cases e<;>exact h
 . obtain⟨_,u,h2,h3,_⟩:=Xnh ha ht
   rw[W7a] at h2
   have hlt:=Xbn h2
   rw[W0a hlt] at h2
   injection h2 with h2
   simp only[Array.getD]
   rw[dif_pos (by simp;omega)]
   simp[W6w,hlt,h2]
   exact h3
 . obtain⟨_,u,_,_,h4⟩:=Xnh ha ht
   exact absurd hi (Xkw (W1s.1 hl3 v h4) i)
end
section
abbrev sem(E:Env)(H:Hpl): S:=(look E,look H)
theorem Xa6{α:Type _}(E:List (Nat×α))(d:Nat)(v:α): upd (look E) d v=look ((d,v)::E):=by funext t;simp only[upd,look];cases Nat.beq t d<;>rfl
theorem Xif(H:Hpl): ∀us:List (Nat×Ob),Xbz (look H) us=look (us++H)
 | []=>rfl
 | (o,x)::us=>by rw[Xbz,Xif H us,Xa6];rfl
def Xs1(E:Env)(d:Option Nat)(v:AV): Env:=match d with
 | some d=>(d,v)::E
 | none=>E
theorem Xe2(E:Env)(H:Hpl)(us:List (Nat×Ob))(d:Option Nat)(v:AV): S.put ((sem E H).1,Xbz (sem E H).2 us) d v=sem (Xs1 E d v) (us++H):=by
 cases d with
 | none=>simp only[S.put,Xs1,sem,Xif]
 | some d=>simp only[S.put,Xs1,sem,Xif,Xa6]
def stops: Op->Bool
 | .binOp op _ _ _ _=>match op with
  | .eql | .neq | .lss | .leq | .gtr | .geq=>false
  | _=>true
 | .unOp op _ _=>match op with
  | .not=>false
  | _=>true
 | .convert _ _ _ | .index _ _ _ | .indexAddr _ _ _ | .slice _ _ _ _ _ | .makeSlice _ _ _=>true
 | .call c=>match c.callee with
  | .builtin .len=>false
  | _=>true
 | _=>false
def Ymt(E:Env): Op->Bool
 | .load _ x=>match Xcl (look E) x with
  | some (.el _ _ _ _)=>true
  | _=>false
 | .store _ x _=>match Xcl (look E) x with
  | some (.el _ _ _ _)=>true
  | _=>false
 | _=>false
def Ypf(G:List (Nat×Bool)): Option Nat->List (Nat×Bool)
 | none=>G
 | some d=>(d,false)::G
inductive St where
 | j (G:List (Nat×Bool)) (K:List Kt) (E:Env) (H:Hpl)
 | o (G:List (Nat×Bool)) (dr:Bool) (L l:List Oper) (K:List Kt) (E:Env) (H:Hpl)
def StP(c:Cx): St->Prop
 | .j _ K E H=>J c K (sem E H)
 | .o _ dr L l K E H=>WL c.P c.tb dr L (J c K) l (sem E H)
def inG: List (Nat×Bool)->Nat->Bool
 | [],_=>false
 | (s,b)::G,t=>match Nat.beq s t with
  | true=>b
  | false=>inG G t
def Yhc(G:List (Nat×Bool)): Operand->Bool
 | .const (.bool _)=>true
 | .tmp t=>inG G t
 | _=>false
def Yp6(G:List (Nat×Bool))(E:Env): Op->Bool
 | .assign x | .move x=>Yhc G x
 | .unOp op _ x=>match op with
  | .not=>Yhc G x
  | _=>false
 | .pick x a b=>match Xcl (look E) x with
  | some (.b true)=>Yhc G a
  | some (.b false)=>Yhc G b
  | _=>false
 | _=>false
def Yd8(G:List (Nat×Bool))(L:List Oper)(E:Env)(o:Oper): Bool:=match o.guard with
 | none=>true
 | some (j,_)=>match Xm2 L j with
  | none=>false
  | some t=>match look E t with
   | some .un=>true
   | _=>inG G t
def Ym5(G:List (Nat×Bool)): Op->Bool
 | .pick x _ _=>Yhc G x
 | _=>true
def nfA{α:Type}: AV->(AV->α)->α
 | .d x,k=>k (.d x)
 | .q p,k=>k (.q p)
 | .b c,k=>k (.b c)
 | .ub p,k=>k (.ub p)
 | .nil,k=>k .nil
 | .lit sz xs,k=>k (.lit sz xs)
 | .st a,k=>nfA a λa=>k (.st a)
 | .pr a c,k=>nfA a λa=>nfA c λc=>k (.pr a c)
 | .tup a,k=>nfA a λa=>k (.tup a)
 | .fm f a,k=>nfA a λa=>k (.fm f a)
 | .at x,k=>k (.at x)
 | .ptr o f,k=>k (.ptr o f)
 | .own o sz l n,k=>k (.own o sz l n)
 | .ow3 o sz l n,k=>k (.ow3 o sz l n)
 | .gr o sz xs,k=>k (.gr o sz xs)
 | .el o sz j f,k=>k (.el o sz j f)
 | .fn f o,k=>k (.fn f o)
 | .ap o n,k=>k (.ap o n)
 | .un,k=>k .un
theorem Ycs{α:Type}: ∀(a:AV) (k:AV->α),nfA a k=k a:=by
 intro a
 induction a with
 | st a ih=>intro k;exact ih _
 | tup a ih=>intro k;exact ih _
 | fm f a ih=>intro k;exact ih _
 | pr a c iha ihc=>intro k;show nfA a _=_;rw[iha,ihc]
 | _=>intro k;rfl
def nfO{α:Type}: Ob->(Ob->α)->α
 | .var a,k=>nfA a λa=>k (.var a)
 | .arr sz xs,k=>k (.arr sz xs)
 | .tok n sz,k=>k (.tok n sz)
 | .dead,k=>k .dead
theorem Yi6{α:Type}(x:Ob)(k:Ob->α): nfO x k=k x:=by
 cases x with
 | var a=>exact Ycs a _
 | _=>rfl
def apH{α:Type}: Hpl->Hpl->(Hpl->α)->α
 | [],H,k=>k H
 | (o,x)::us,H,k=>nfO x λx=>apH us H λH=>k ((o,x)::H)
theorem Xxx{α:Type}: ∀(us H:Hpl) (k:Hpl->α),apH us H k=k (us++H)
 | [],_,_=>rfl
 | (o,x)::us,H,k=>by show nfO x _=_;rw[Yi6,Xxx us];rfl
noncomputable def Ylv(tb:Nat->Option TI)(n:Nat): St->Option St
 | .j G (.c (.seq x y)::K) E H=>some (.j G (.c x::.c y::K) E H)
 | .j G (.c .skip::K) E H=>some (.j G K E H)
 | .j G (.c (.block id x)::K) E H=>some (.j G (.c x::.b id::K) E H)
 | .j G (.b _::K) E H=>some (.j G K E H)
 | .j G (.c (.exit id)::K) E H=>match Yci id K with
  | some K'=>some (.j G K' E H)
  | none=>none
 | .j G (.c (.region _ ⟨l⟩ false)::K) E H=>match Xn7 n l with
  | true=>some (.o G false l l K E H)
  | false=>none
 | .j G (.c (.cond x p q)::K) E H=>match Yhc G x with
  | false=>none
  | true=>match Xcl (look E) x with
   | some (.b true)=>some (.j G (.c p::K) E H)
   | some (.b false)=>some (.j G (.c q::K) E H)
   | _=>none
 | .o G _ _ [] K E H=>some (.j G K E H)
 | .o G dr L (o::l) K E H=>match Yd8 G L E o with
  | false=>none
  | true=>match want L o (sem E H) with
   | none=>none
   | some false=>match o.dst with
    | some d=>some (.o ((d,false)::G) dr L l K ((d,.un)::E) H)
    | none=>none
   | some true=>match Ym5 G o.op,stops o.op||Ymt E o.op with
    | true,false=>match eff tb o (sem E H) with
     | some (v,us)=>nfA v λv=>apH us H λH=>match o.dst with
      | none=>some (.o G dr L l K E H)
      | some d=>match Yp6 G E o.op with
       | true=>some (.o ((d,true)::G) dr L l K ((d,v)::E) H)
       | false=>some (.o ((d,false)::G) dr L l K ((d,v)::E) H)
     | none=>none
    | _,_=>none
 | _=>none
noncomputable def runN(tb:Nat->Option TI)(n:Nat): Nat->St->St
 | 0,s=>s
 | m+1,s=>match Ylv tb n s with
  | some s'=>runN tb n m s'
  | none=>s
section
variable{c:Cx}
theorem Xjj{o:Oper}(h:stops o.op=false): Xao o=false:=by
 unfold Xao
 cases ho:o.op<;>first
  | rfl
  | (rename_i c
     obtain⟨cal,asx,tys⟩:=c
     rw[ho] at h
     cases cal with
     | builtin b=>cases b<;>rfl
     | value x=>cases h
     | invoke x m=>rfl)
theorem Xlc{dr:Bool}{L:List Oper}{o:Oper}{E:Env}{H:Hpl}{v:AV}{us:List (Nat×Ob)}{R:S->Prop}(hw:want L o (sem E H)=some true)(hc:Xao o=false)(he:eff c.tb o (sem E H)=some (v,us))(k:R (sem (Xs1 E o.dst v) (us++H))): Wo c.P c.tb dr L o R (sem E H) :=
 .inl ⟨hw,(Xo3 hc).2 (.inl ⟨(v,us),he,by unfold aft;rw[Xe2];exact k⟩)⟩
theorem Xt0{dr:Bool}{L:List Oper}{o:Oper}{E:Env}{H:Hpl}{d:Nat}{R:S->Prop}(hw:want L o (sem E H)=some false)(hd:o.dst=some d)(k:R (sem ((d,.un)::E) H)): Wo c.P c.tb dr L o R (sem E H) :=
 .inr ⟨hw,d,hd,by show R (upd (look E) d .un,look H);rw[Xa6];exact k⟩
theorem Xub{s s':St}(h:Ylv c.tb c.n s=some s')(k:StP c s'): StP c s:=by
 unfold Ylv at h
 split at h
 . injection h with h;subst h;exact J.seq k
 . injection h with h;subst h;exact J.skip k
 . injection h with h;subst h;exact J.block k
 . injection h with h;subst h;exact J.bend k
 . split at h<;>cases h
   rename_i hp;exact J.exit hp k
 . split at h<;>cases h
   rename_i hp;exact J.reg hp k
 . split at h<;>try cases h
   split at h<;>cases h
   . rename_i hv;exact J.condT hv k
   . rename_i hv;exact J.condF hv k
 . injection h with h;subst h;exact k
 . split at h<;>try cases h
   split at h<;>try cases h
   . rename_i hw
     split at h<;>cases h
     rename_i d hd
     exact Xt0 hw hd k
   . rename_i hw
     split at h<;>try cases h
     rename_i hst
     rw[Bool.or_eq_false_iff] at hst
     split at h
     . rename_i v us he
       rw[Ycs,Xxx] at h
       split at h
       . rename_i hd
         injection h with h;subst h
         exact Xlc hw (Xjj hst.1) he (by rw[hd];exact k)
       . rename_i d hd
         split at h<;>(injection h with h;subst h;exact Xlc hw (Xjj hst.1) he (by rw[hd];exact k))
     . cases h
 . cases h
theorem Xua: ∀(m:Nat) {s:St},StP c (runN c.tb c.n m s)->StP c s
 | 0,_,k=>k
 | m+1,s,k=>by
  unfold runN at k
  split at k
  . rename_i s' h;exact Xub h (Xua m k)
  . exact k
theorem go{s:St}(m:Nat){s':St}(h:runN c.tb c.n m s=s')(k:StP c s'): StP c s:=Xua m (by rw[h];exact k)
variable{s:St}{K:List Kt}{E:Env}{H:Hpl}
class Dc (b:Bool) (p:outParam Prop):Prop where
 h:b=true↔p
instance {p:Prop}:Dc (dc p) p:=⟨Xal⟩
instance {b:Bool} {p:Prop} [h:Dc b p]:Dc (!b) (¬p):=⟨by rw[<-h.h];cases b<;>simp⟩
instance (priority:=low) {b:Bool}:Dc b (b=true):=⟨W4a⟩
theorem Xp7{t:Nat}{v:AV}(h:look E t=some v): sem ((t,v)::E) H=sem E H:=by
 unfold sem
 congr 1
 funext u
 simp only[look]
 split
 . rename_i e;rw[W0e e,h]
 . rfl
noncomputable def nxG(tb:Nat->Option TI)(n:Nat)(s:St): Option (Nat×Bool×St×(Bool->St)):=match runN tb n 1000 s with
 | .j G (.c (.cond (.tmp t) p q)::K) E H=>match look E t with
  | some (.b b)=>some (t,b,.j G (.c (.cond (.tmp t) p q)::K) E H,λb=>.j ((t,true)::G) (.c (.cond (.tmp t) p q)::K) ((t,.b b)::E) H)
  | _=>none
 | .o G dr L (o::l) K E H=>match o.op,Yd8 G L E o with
  | .pick (.tmp t) _ _,true=>match look E t with
   | some (.b b)=>some (t,b,.o G dr L (o::l) K E H,λb=>.o ((t,true)::G) dr L (o::l) K ((t,.b b)::E) H)
   | _=>none
  | _,false=>match o.guard with
   | some (j,_)=>match Xm2 L j with
    | some t=>match look E t with
     | some (.b b)=>some (t,b,.o G dr L (o::l) K E H,λb=>.o ((t,true)::G) dr L (o::l) K ((t,.b b)::E) H)
     | _=>none
    | none=>none
   | none=>none
  | _,_=>none
 | _=>none
theorem Ycq{t:Nat}{b:Bool}{s0:St}{f:Bool->St}(h:nxG c.tb c.n s=some (t,b,s0,f))(k:StP c (f b)): StP c s:=by
 unfold nxG at h
 split at h<;>try cases h
 . rename_i hr
   split at h<;>cases h
   rename_i hv
   refine go 1000 hr ?_
   have k:J c _ (sem _ _):=k
   rw[Xp7 hv] at k
   exact k
 . rename_i hr
   have fin:∀ {G dr L l K E H t b},look E t=some (.b b)->StP c (.o ((t,true)::G) dr L l K ((t,.b b)::E) H)->StP c (.o G dr L l K E H):=by
    intro G dr L l K E H t b hv k
    have k:WL _ _ _ _ _ _ (sem _ _):=k
    rw[Xp7 hv] at k
    exact k
   split at h<;>try cases h
   . split at h<;>cases h
     rename_i hv
     exact go 1000 hr (fin hv k)
   . split at h<;>try cases h
     split at h<;>try cases h
     split at h<;>cases h
     rename_i hv
     exact go 1000 hr (fin hv k)
theorem By{t:Nat}{b:Bool}{s0:St}{f:Bool->St}{p:Prop}[d:Dc b p](h:nxG c.tb c.n s=some (t,b,s0,f))(k1:p->StP c (f true))(k2:¬p->StP c (f false)): StP c s:=by
 have:=d.h
 cases b with
 | true=>exact Ycq h (k1 (this.1 rfl))
 | false=>exact Ycq h (k2 λhp=>by cases this.2 hp)
theorem Yes{t:Nat}{b:Bool}{s0:St}{f:Bool->St}{p:Prop}[d:Dc b p](h:nxG c.tb c.n s=some (t,b,s0,f))(hp:p)(k:StP c (f true)): StP c s:=By h (λ_=>k) λhn=>absurd hp hn
theorem No{t:Nat}{b:Bool}{s0:St}{f:Bool->St}{p:Prop}[d:Dc b p](h:nxG c.tb c.n s=some (t,b,s0,f))(hp:¬p)(k:StP c (f false)): StP c s:=By h (λh=>absurd h hp) λ_=>k
noncomputable def nxU(tb:Nat->Option TI)(n:Nat)(s:St): Option (Prop×St×St):=match runN tb n 1000 s with
 | .j G (.c (.cond x p q)::K) E H=>match Xcl (look E) x with
  | some (.ub r)=>some (r,.j G (.c p::K) E H,.j G (.c q::K) E H)
  | _=>none
 | _=>none
theorem Ub{r:Prop}{s1 s2:St}(h:nxU c.tb c.n s=some (r,s1,s2))(k1:r->StP c s1)(k2:StP c s2): StP c s:=by
 unfold nxU at h
 split at h<;>try cases h
 rename_i hr
 split at h<;>cases h
 rename_i hv
 exact go 1000 hr (J.condU hv k1 k2)
noncomputable def nxD(tb:Nat->Option TI)(n:Nat)(s:St): Option St:=match runN tb n 1000 s with
 | .j G (.c (.region _ ⟨L⟩ true)::K) E H=>match Xn7 n L with
  | true=>some (.o G true L L K E H)
  | false=>none
 | _=>none
def Yql: St->Bool
 | .o _ _ L _ _ _ _=>Xi1 L (λ_ _=>false) [] [] L
 | _=>false
theorem Dw{s':St}(h:nxD c.tb c.n s=some s')(k:StP c s')(hchk:Yql s'=true:=by exact rfl): StP c s:=by
 unfold nxD at h
 split at h<;>try cases h
 rename_i hr
 split at h<;>cases h
 rename_i hok
 exact go 1000 hr (J.draw Dm.no trivial hok hchk k)
class Wk (c:Cx) (fn:outParam Func) (Q:outParam (AV->Prop)):Prop where
 x:c.X=λ_=>False
 f:c.fin=bodyPost c.P fn (Ret c.W0 Q)
noncomputable def nxR(tb:Nat->Option TI)(n:Nat)(rs:List ResultVar)(s:St): Option (AV×Hpl):=match runN tb n 1000 s with
 | .j _ (.c .ret::_) E H=>match Xyd tb (sem E H) rs with
  | some v=>some (v,H)
  | none=>none
 | .j _ [] E H=>match Xyd tb (sem E H) rs with
  | some v=>some (v,H)
  | none=>none
 | _=>none
theorem Rt{fn:Func}{Q:AV->Prop}[w:Wk c fn Q]{v v':AV}(h:nxR c.tb c.n fn.results.toList s=some (v,H))(hf:FitR (look H) [] v v')(hq:Q v'): StP c s:=by
 unfold nxR at h
 split at h<;>try cases h
 . rename_i hr
   split at h<;>cases h
   rename_i hv
   exact go 1000 hr (J.retC w.x w.f hv hf hq)
 . rename_i hr
   split at h<;>cases h
   rename_i hv
   exact go 1000 hr (J.endC w.x w.f hv hf hq)
theorem R1{fn:Func}{r:AV}[w:Wk c fn (·=r)]{v:AV}(h:nxR c.tb c.n fn.results.toList s=some (v,H))(hf:Fit (look H) [] v r)(hp:(plain v&&plain r)=true:=by exact rfl): StP c s:=by
 rw[W0f] at hp
 exact Rt (Q:=(·=r)) h (.one hf hp.1 hp.2) rfl
theorem Xu1: ∀ {a:AV},Xkx a=true->Xc9 [] a=true:=by
 intro a
 induction a with
 | st a ih=>exact ih
 | tup a ih=>exact ih
 | fm f a ih=>exact ih
 | pr a c iha ihc=>intro h;simp only[Xkx,W0f] at h;simp only[Xc9,W0f];exact⟨iha h.1,ihc h.2⟩
 | _=>intro h;first | rfl | cases h
theorem R0{fn:Func}{r:AV}[w:Wk c fn (·=r)](h:nxR c.tb c.n fn.results.toList s=some (r,H):=by exact rfl)(hp:(plain r&&Xkx r)=true:=by exact rfl): StP c s:=by
 rw[W0f] at hp
 exact Rt (Q:=(·=r)) h (.one (.rf (Xu1 hp.2)) hp.1 hp.1) rfl
end
theorem Yfs{g:Hp}{K:Hpl}: ∀ {a:AV},Xc9 K a=true->FitT g K a a:=by
 intro a
 induction a with
 | pr a c _ ih=>intro h;simp only[Xc9,W0f] at h;exact .cons (.rf h.1) (ih h.2)
 | _=>intro h;exact .one (.rf h) nofun nofun
theorem R0t{c:Cx}{s:St}{H:Hpl}{fn:Func}{r:AV}[w:Wk c fn (·=.tup r)](h:nxR c.tb c.n fn.results.toList s=some (.tup r,H):=by exact rfl)(hp:Xkx r=true:=by exact rfl): StP c s :=
 Rt (Q:=(·=.tup r)) h (.tup (Yfs (Xu1 hp))) rfl
theorem RTt{c:Cx}{s:St}{H:Hpl}{fn:Func}{a r:AV}[w:Wk c fn (·=.tup r)](h:nxR c.tb c.n fn.results.toList s=some (.tup a,H))(hf:FitT (look H) [] a r): StP c s :=
 Rt (Q:=(·=.tup r)) h (.tup hf) rfl
def Yhg: Nat->List AV->Env
 | _,[]=>[]
 | i,v::vs=>(i,v)::Yhg (i+1) vs
theorem Xll: ∀(asx:List AV) (i:Nat),Ya4 i asx=look (Yhg i asx)
 | [],i=>rfl
 | a::asx,i=>by rw[Ya4,Xll asx,Xa6];rfl
abbrev cx(P:Program)(gb:Gb P)(t:Tab P)(m:Mx P)(hpr:∀T ti,t.tb T=some ti->∀a c,ti.z≠.pr a c)(n:Nat)(hn:n<=1000000)(fn:Func)(W:GW)(Q:AV->Prop)(hg:gb.g W): Cx:=⟨P,gb,t.tb,λT ti h=>⟨t.ok T ti h,hpr T ti h⟩,m,n,hn,W,λ_=>False,θe,bodyPost P fn (Ret W Q),hg⟩
instance {P gb t m hpr n hn fn W Q hg}:Wk (cx P gb t m hpr n hn fn W Q hg) fn Q:=⟨rfl,rfl⟩
class Npr (P:Program) [t:Tab P]:Prop where
 h:∀T ti,t.tb T=some ti->∀a c,ti.z≠.pr a c
theorem En {P : Program} [gb : Gb P] [t : Tab P] [hp : Npr P] [m : Mx P] {f n : Nat} {fn : Func} {x : Code} {args : List AV} {Q : AV → Prop} (hf : P.funcs[f]? = some fn) (h : ∀ W hg hn, StP (cx P gb t m hp.h n hn fn W Q hg) (.j [] [.c x] (Yhg 0 args) [])) (hname : (fn.name == "runtime.NumGoroutine") = false := by exact rfl) (hb : fn.body = some x := by exact rfl)
 (hN:fn.ntmps=n:=by exact rfl) (hl:(Nat.ble args.length n&&Nat.ble n 1000000&&args.all Xkx)=true:=by exact rfl):C P f args Q :=
 C.enter hp.h hf hname hb hN hl λW hg=>by
  have:=h W hg (by simp only[W0f] at hl;exact W1q hl.1.2)
  simp only[StP,sem,<-Xll] at this
  exact this
end
section
def chD(x:D): Nat->D
 | 0=>x
 | n+1=>.pr x (chD x n)
def eqV: Value->Value->Bool
 | .int k z,.int k' z'=>k==k'&&z==z'
 | .bool b,.bool b'=>b==b'
 | .string s,.string s'=>Nat.beq s.size 0&&Nat.beq s'.size 0
 | .slice none 0 0,.slice none 0 0=>true
 | .pointer none,.pointer none=>true
 | .nilFunc,.nilFunc=>true
 | .nilIface,.nilIface=>true
 | _,_=>false
def Ykd: List Value->List Value->Bool
 | [],[]=>true
 | v::vs,w::ws=>eqV v w&&Ykd vs ws
 | _,_=>false
theorem Yia{s:ByteArray}(h:s.size=0): s=ByteArray.empty:=by
 cases s with | mk d =>
 have:d=#[]:=Array.eq_empty_of_size_eq_zero h
 subst this;rfl
theorem Yke{v w:Value}(h:eqV v w=true): v=w:=by
 unfold eqV at h
 split at h<;>first
  | rfl
  | (cases h;done)
  | (simp only[W0f,beq_iff_eq] at h;obtain⟨h1,h2⟩:=h;first | (rw[h1,h2];done) | (rw[Yia (W0e h1),Yia (W0e h2)]))
  | (simp only[beq_iff_eq] at h;rw[h])
theorem Xor: ∀ {v w:List Value},Ykd v w=true->v=w
 | [],[],_=>rfl
 | v::vs,w::ws,h=>by
  simp only[Ykd,W0f] at h
  rw[Yke h.1,Xor h.2]
 | [],_::_,h=>by cases h
 | _::_,[],h=>by cases h
def Yag(P:Program)(E:TypeId)(z:D)(by':Nat): Bool:=match P.info? E with
 | some i=>Nat.beq i.size z.size&&Nat.beq i.bytes by'&&(match i.zero with
  | some v=>Ykd v.cells.toList z.zc
  | none=>false)
 | none=>false
def Xk9(P:Program): Nat->List Field->List D->Bool
 | _,[],[]=>true
 | o,f::fs,c::l=>Nat.beq f.offset o&&(match P.info? f.type,P.underlying f.type with
  | some i,some t=>Nat.beq i.size c.size&&(Ya6 t==c.ag)&&(c.ag||Nat.beq c.size 1)
  | _,_=>false)&&Xk9 P (o+c.size) fs l
 | _,_,_=>false
def Yp9: D->Bool
 | .pr _ _=>true
 | _=>false
def Xvx: Value->Bool
 | .agg _=>true
 | _=>false
def Yjo(P:Program)(ti:TI)(t:TypeDesc): Bool:=match ti.e,t with
 | .int k _,.slice E=>match P.underlying E with
  | some (.int k')=>k==k'
  | _=>false
 | _,_=>true
def Yb2(P:Program)(ti:TI)(t:TypeDesc): Bool:=match ti.z,t with
 | .int k _,.int k'=>k==k'
 | .bool _,.bool=>true
 | .str _,.string=>true
 | .sl sz _,.slice E=>Nat.beq sz ti.e.size&&ti.e.isZ&&Yag P E ti.e ti.eb
 | .st z,.struct fs=>Nat.beq ti.arr 0&&Xk9 P 0 fs.toList z.comps
 | .st _,.array n E=>Nat.beq n ti.arr && !(Nat.beq n 0)&&Yag P E ti.e ti.eb
 | .raw _,_=>true
 | _,_=>false
def tyB(P:Program)(T:TypeId)(ti:TI): Bool:=match P.info? T,P.underlying T with
 | some i,some t=>Nat.beq i.size ti.z.size&&(match i.zero with
  | some v=>Ykd v.cells.toList ti.z.zc&&(Xvx v==ti.z.ag)
  | none=>false)&&ti.z.isZ&&(Ya6 t==ti.z.ag)&&Yb2 P ti t && !(Yp9 ti.z)&&Yjo P ti t
 | _,_=>false
section
variable{P:Program}
theorem Xri{E:TypeId}{z:D}{b:Nat}(h:Yag P E z b=true): Yog P E z b:=by
 unfold Yag at h
 split at h<;>try cases h
 rename_i i hi
 simp only[W0f] at h
 obtain⟨⟨h1,h2⟩,h3⟩:=h
 split at h3<;>try cases h3
 rename_i v hv
 exact⟨i,v,hi,W0e h1,W0e h2,hv,Xor h3⟩
theorem Xjv: ∀ {fs:List Field} {l:List D} {o:Nat},Xk9 P o fs l=true->fs.length=l.length/\∀(f:Nat) c,l[f]?=some c ->
 ∃g i,fs[f]?=some g/\g.offset=o+Xgz l f/\P.info? g.type=some i/\i.size=c.size/\∃t,P.underlying g.type=some t/\Ya6 t=c.ag/\(c.ag=false->c.size=1)
 | [],[],_,_=>⟨rfl,λf c h=>by simp at h⟩
 | f::fs,x::l,o,h=>by
  simp only[Xk9,W0f] at h
  obtain⟨⟨h1,h2⟩,h3⟩:=h
  obtain⟨k1,k2⟩:=Xjv h3
  refine⟨by simp[k1],λn c hc=>?_⟩
  cases n with
  | zero =>
   simp at hc;subst hc
   split at h2<;>try cases h2
   rename_i i t hi ht
   simp only[W0f,W4v,beq_iff_eq] at h2
   obtain⟨⟨a1,a2⟩,a3⟩:=h2
   exact⟨f,i,rfl,by rw[W0e h1];rfl,hi,W0e a1,t,ht,a2,λe=>by
    rcases a3 with a3 | a3
    . rw[e] at a3;cases a3
    . exact W0e a3⟩
  | succ n =>
   obtain⟨g,i,b1,b2,b3⟩:=k2 n c (by simpa using hc)
   exact⟨g,i,by simpa using b1,by rw[b2,Xgz];omega,b3⟩
 | [],_::_,_,h=>by cases h
 | _::_,[],_,h=>by cases h
theorem Yht{T:TypeId}{ti:TI}(h:tyB P T ti=true): TyOk P T ti/\∀a c,ti.z≠.pr a c:=by
 unfold tyB at h
 split at h<;>try cases h
 rename_i i t hi ht
 simp only[W0f,beq_iff_eq,W1t] at h
 obtain⟨⟨⟨⟨⟨⟨h1,h2⟩,h3⟩,h4⟩,h5⟩,h6⟩,hk⟩:=h
 split at h2<;>try cases h2
 rename_i v hv
 obtain⟨h7,h8⟩:=(W0f _ _).mp h2
 have h7:=Xor h7
 have h8:Xvx v=ti.z.ag:=by simpa using h8
 have hkk:∀E k z,P.underlying T=some (.slice E)->ti.e=.int k z->P.underlying E=some (.int k):=λE k z hE he=>by
  rw[ht] at hE;injection hE with hE;subst hE
  unfold Yjo at hk
  rw[he] at hk
  simp only at hk
  split at hk
  . rename_i h;rw[h];simp only[beq_iff_eq] at hk;rw[hk]
  . cases hk
 refine⟨⟨hkk,⟨i,v,hi,W0e h1,hv,h7,?_⟩,h3,t,ht,h4,?_⟩,λa c e=>by rw[e] at h6;cases h6⟩
 . rw[<-h8,<-h7]
   cases v<;>simp[Xvx,mkv,Value.cells]
 . unfold Yb2 at h5
   split at h5
   . rename_i e;rw[e];simp only[beq_iff_eq] at h5;rw[h5]
   . rename_i e;rw[e]
   . rename_i e;rw[e]
   . rename_i e;rw[e]
     simp only[W0f] at h5
     exact⟨_,rfl,W0e h5.1.1,h5.1.2,Xri h5.2⟩
   . rename_i fs e;rw[e]
     simp only[W0f] at h5
     have e0:=W0e h5.1
     obtain⟨k1,k2⟩:=Xjv h5.2
     simp only[e0,if_true]
     exact⟨_,rfl,by simpa using k1,λf c hc=>by
      obtain⟨g,i,b1,b2,b3⟩:=k2 f c hc
      exact⟨g,i,by simpa using b1,by rw[b2];omega,b3⟩⟩
   . rename_i n E e;rw[e]
     simp only[W0f,W1t] at h5
     have e0:=W0e h5.1.1
     have e1:n≠0:=λe=>by rw[e] at h5;exact absurd h5.1.2 (by decide)
     simp only[<-e0,e1,if_false]
     exact⟨_,rfl,Xri h5.2⟩
   . rename_i e;rw[e];trivial
   . cases h5
theorem Ybx{l:List (Nat×TI)}(h:(l.all λx=>tyB P x.1 x.2)=true): ∀T ti,look l T=some ti->TyOk P T ti/\∀a c,ti.z≠.pr a c:=by
 intro T ti ht
 have:(T,ti)∈l:=by
  clear h
  induction l with
  | nil=>simp[look] at ht
  | cons x l ih =>
   obtain⟨S,si⟩:=x
   simp only[look] at ht
   split at ht
   . rename_i hb;injection ht with ht;subst ht;rw[W0e hb];exact W0w ..
   . exact W1e _ (ih ht)
 exact Yht (W1s.1 h _ this)
end
end
section
structure Pl where
 G:List (Nat×Bool)
 dr:Bool
 L:List Oper
 l:List Oper
 K:List Kt
 E:Env
 H:Hpl
 d:Option Nat
def Pl.st: Pl->AV->St
 | ⟨G,dr,L,l,K,E,H,some d⟩,v=>.o ((d,false)::G) dr L l K ((d,v)::E) H
 | ⟨G,dr,L,l,K,E,H,none⟩,v=>.o G dr L l K E H
def Pl.st': Pl->AV->Hpl->St
 | ⟨G,dr,L,l,K,E,H,some d⟩,v,us=>apH us H λH=>.o ((d,false)::G) dr L l K ((d,v)::E) H
 | ⟨G,dr,L,l,K,E,H,none⟩,v,us=>apH us H λH=>.o G dr L l K E H
def Pl.nx(c:Cx)(p:Pl)(v:AV): Prop:=StP c (p.st v)
def Pl.nx'(c:Cx)(p:Pl)(v:AV)(us:Hpl): Prop:=StP c (p.st' v us)
theorem Pl.nx_eq{c:Cx}{p:Pl}{v:AV}: p.nx c v↔StP c (.o (Ypf p.G p.d) p.dr p.L p.l p.K (Xs1 p.E p.d v) p.H):=by
 obtain⟨G,dr,L,l,K,E,H,d⟩:=p
 cases d<;>exact W4a
theorem Pl.nx'_eq{c:Cx}{p:Pl}{v:AV}{us:Hpl}: p.nx' c v us↔StP c (.o (Ypf p.G p.d) p.dr p.L p.l p.K (Xs1 p.E p.d v) (us++p.H)):=by
 obtain⟨G,dr,L,l,K,E,H,d⟩:=p
 cases d<;>(simp only[Pl.nx',Pl.st',Xxx];exact W4a)
theorem Pl.nx_nil{c:Cx}{p:Pl}{v:AV}(h:p.nx c v): p.nx' c v []:=by
 obtain⟨G,dr,L,l,K,E,H,d⟩:=p
 cases d<;>exact h
noncomputable def nxO(tb:Nat->Option TI)(n:Nat)(s:St): Option (Pl×Oper):=match runN tb n 1000 s with
 | .o G dr L (o::l) K E H=>match Yd8 G L E o with
  | true=>match want L o (sem E H) with
   | some true=>some (⟨G,dr,L,l,K,E,H,o.dst⟩,o)
   | _=>none
  | false=>none
 | _=>none
noncomputable def nxC(tb:Nat->Option TI)(n:Nat)(s:St): Option (Pl×FuncId×List AV):=match nxO tb n s with
 | some (p,o)=>match o.op with
  | .call ⟨.value x,asx,tys⟩=>match callee (look p.E) x,getEs (look p.E) asx.toList with
   | some (f,[]),some vs=>match (Xi9 tb tys.toList vs).all Xkx with
    | true=>some (p,f,Xi9 tb tys.toList vs)
    | false=>none
   | _,_=>none
  | _=>none
 | none=>none
section
variable{c:Cx}{s:St}{p:Pl}
theorem Xmh{o:Oper}(h:nxO c.tb c.n s=some (p,o))(k:Wo c.P c.tb p.dr p.L o (WL c.P c.tb p.dr p.L (J c p.K) p.l) (sem p.E p.H)): StP c s:=by
 unfold nxO at h
 split at h<;>try cases h
 rename_i hr
 split at h<;>try cases h
 split at h<;>cases h
 exact go 1000 hr k
theorem Xuz{o:Oper}(h:nxO c.tb c.n s=some (p,o)): want p.L o (sem p.E p.H)=some true/\p.d=o.dst:=by
 unfold nxO at h
 split at h<;>try cases h
 split at h<;>try cases h
 split at h<;>cases h
 rename_i hw
 exact⟨hw,rfl⟩
theorem Ca{f:FuncId}{args:List AV}{Q:AV->Prop}(h:nxC c.tb c.n s=some (p,f,args))(hc:C c.P f args Q)(k:∀v,Q v->p.nx c v): StP c s:=by
 unfold nxC at h
 split at h<;>try cases h
 rename_i p' o ho
 obtain⟨hw,hd⟩:=Xuz ho
 split at h<;>try cases h
 rename_i x asx tys he
 split at h<;>try cases h
 rename_i f' vs hf hvs
 split at h<;>cases h
 rename_i hi
 refine Xmh ho (.inl ⟨hw,?_⟩)
 unfold Wb
 rw[he]
 refine⟨f,[],vs,hf,hvs,?_⟩
 rw[W3g]
 have kk:∀v,Q v->WL c.P c.tb p.dr p.L (J c p.K) p.l (S.put (sem p.E p.H) o.dst v):=λv hv=>by
  have:=Xe2 p.E p.H [] o.dst v
  rw[show S.put (sem p.E p.H) o.dst v=sem (Xs1 p.E o.dst v) p.H from this,<-hd]
  exact Pl.nx_eq.1 (k v hv)
 generalize WL c.P c.tb p.dr p.L (J c p.K) p.l=R at kk |-
 cases p.dr with
 | true =>
  refine⟨false,λ_=>none,λr=>Q r.1,⟨λh=>(nomatch h),λi y h=>(nomatch h),λg _ _=>?_⟩,λr hr hq=>?_⟩
  . obtain⟨h1,h2⟩:=hc.cs hi g
    refine⟨h1,λN W θ vs a0 a1 a2 a3 a4=>(h2 N W θ vs a0 a1 a2 a3 a4).mono ?_⟩
    rintro e w' ⟨W',θ',v,u,g',b1,b2,b3,b4,b5,rfl,b6⟩
    exact⟨W',θ',v,u,_,b1,b2,b3,b4,b5,[],.inl rfl,rfl,b6⟩
  . rcases hr with hr | ⟨h,_⟩
    . unfold aft;rw[hr];exact kk r.1 hq
    . cases h
 | false=>exact⟨_,_,.inl rfl,by rw[W3g];exact hc.cs hi _,λv g' hv=>by rw[hv.1];exact kk v hv.2⟩
theorem Ce{f:FuncId}{args:List AV}{r:AV}(h:nxC c.tb c.n s=some (p,f,args))(hc:C c.P f args (·=r))(k:p.nx c r): StP c s:=Ca h hc λv hv=>by rw[show v=r from hv];exact k
theorem Yi0{o:Oper}{v:AV}{us:Hpl}(h:nxO c.tb c.n s=some (p,o))(hc:Xao o=false)(he:eff c.tb o (sem p.E p.H)=some (v,us))(k:p.nx' c v us): StP c s:=by
 obtain⟨hw,hd⟩:=Xuz h
 refine Xmh h (Xlc hw hc he ?_)
 rw[<-hd];exact Pl.nx'_eq.1 k
noncomputable def nxA(tb:Nat->Option TI)(n:Nat)(s:St): Option (Pl×Oper×List AV):=match nxO tb n s with
 | some (p,o)=>match getEs (look p.E) o.op.operands.toList,Xao o||(Xdu o.op&&o.dst.isSome) with
  | some asx,false=>some (p,o,asx)
  | _,_=>none
 | none=>none
theorem Xb1{o:Oper}{asx:List AV}{v:AV}{us:Hpl}(h:nxA c.tb c.n s=some (p,o,asx))(hF:F c.tb (o.dst.getD 0) (look p.H) o.op asx=some (v,us))(k:p.nx' c v us): StP c s:=by
 unfold nxA at h
 split at h<;>try cases h
 rename_i p' o' ho
 split at h<;>cases h
 rename_i hb has
 rw[Bool.or_eq_false_iff] at hb
 refine Yi0 ho hb.1 ?_ k
 unfold eff
 rw[has]
 simp only[hb.2]
 exact hF
def inK: IntKind->Int->Prop
 | .i8,x=>-128<=x/\x<128
 | .i16,x=>-32768<=x/\x<32768
 | .i32,x=>-2147483648<=x/\x<2147483648
 | .i64,x=>-9223372036854775808<=x/\x<9223372036854775808
 | .u8,x=>0<=x/\x<256
 | .u16,x=>0<=x/\x<65536
 | .u32,x=>0<=x/\x<4294967296
 | .u64,x=>0<=x/\x<18446744073709551616
theorem wr{k:IntKind}{x r:Int}(e:x=r)(h:inK k r): k.wrap x=r:=by
 subst e
 cases k<;>simp only[inK] at h<;>simp[IntKind.wrap,IntKind.bits,IntKind.signed]<;>omega
def arB(op:BinOp)(k:IntKind)(a b r:Int): Prop:=match op with
 | .add=>k.wrap (a+b)=r
 | .sub=>k.wrap (a-b)=r
 | .mul=>k.wrap (a*b)=r
 | .quo=>b≠0/\k.wrap (a.tdiv b)=r
 | .rem=>b≠0/\a.tmod b=r
 | .and=>k.wrap (BitVec.ofInt k.bits a&&&BitVec.ofInt k.bits b).toNat=r
 | .andNot=>k.wrap (BitVec.ofInt k.bits a &&& ~~~BitVec.ofInt k.bits b).toNat=r
 | .or=>k.wrap (BitVec.ofInt k.bits a|||BitVec.ofInt k.bits b).toNat=r
 | .shl=>0<=b/\k.wrap (a*2^(min b.toNat k.bits))=r
 | .shr=>0<=b/\a.fdiv (2^(min b.toNat k.bits))=r
 | _=>False
noncomputable def nxI(tb:Nat->Option TI)(n:Nat)(s:St): Option (Pl×BinOp×IntKind×Int×Int):=match nxA tb n s with
 | some (p,o,[.d (.int k a),.d (.int k' b)])=>match o.op with
  | .binOp op _ _ _ _=>match op with
   | .shl=>some (p,op,k,a,b)
   | .shr=>some (p,op,k,a,b)
   | op=>if k=k' then some (p,op,k,a,b) else none
  | _=>none
 | _=>none
theorem Ar{op:BinOp}{k:IntKind}{a b:Int}(r:Int)(h:nxI c.tb c.n s=some (p,op,k,a,b))(kk:p.nx c (.d (.int k r)))(hr:arB op k a b r:=by exact wr (by omega) (by simp only[inK];omega)): StP c s:=by
 have key:∀ {o:Oper} {k':IntKind},nxA c.tb c.n s=some (p,o,[.d (.int k a),.d (.int k' b)])->(∃T x y T',o.op=.binOp op T x y T')->(op=.shl\/op=.shr\/k=k')->StP c s:=by
  rintro o k' hA ⟨T,x,y,T',ho⟩ hk
  refine Xb1 (v:=.d (.int k r)) (us:=[]) hA ?_ (Pl.nx_nil kk)
  rw[ho]
  show (match Fp c.tb (.binOp op T x y T') [.d (.int k a),.d (.int k' b)] with | some v=>some (v,[]) | none=>none)=_
  have:Fp c.tb (.binOp op T x y T') [.d (.int k a),.d (.int k' b)]=some (.d (.int k r)):=by
   show Ybf (c.tb T) op y (.d (.int k a)) (.d (.int k' b))=_
   cases op<;>simp only[arB] at hr<;>first | exact hr.elim | skip
   all_goals simp only[Ybf,Yl3]
   case shl=>rw[if_neg (by omega),hr.2]
   case shr=>rw[if_neg (by omega),hr.2]
   case quo=>rw[if_pos ((hk.resolve_left nofun).resolve_left nofun),if_neg hr.1,hr.2]
   case rem=>rw[if_pos ((hk.resolve_left nofun).resolve_left nofun),if_neg hr.1,hr.2]
   all_goals rw[if_pos ((hk.resolve_left nofun).resolve_left nofun),hr]
  rw[this]
 unfold nxI at h
 split at h<;>try cases h
 rename_i p' o k1 a1 k2 b1 hA
 split at h<;>try cases h
 rename_i op' T x y T' ho
 split at h
 . cases h;exact key hA ⟨_,_,_,_,ho⟩ (.inl rfl)
 . cases h;exact key hA ⟨_,_,_,_,ho⟩ (.inr (.inl rfl))
 . split at h<;>cases h
   rename_i hk
   exact key hA ⟨_,_,_,_,ho⟩ (.inr (.inr hk))
noncomputable def nxV(tb:Nat->Option TI)(n:Nat)(s:St): Option (Pl×IntKind×Int):=match nxA tb n s with
 | some (p,o,[.d (.int _ a)])=>match o.op with
  | .convert S T _=>match tb S,tb T with
   | some _,some ⟨.int k _,_,_,_⟩=>some (p,k,a)
   | _,_=>none
  | _=>none
 | _=>none
theorem Cv{k:IntKind}{a:Int}(r:Int)(h:nxV c.tb c.n s=some (p,k,a))(kk:p.nx c (.d (.int k r)))(hr:k.wrap a=r:=by exact wr (by omega) (by simp only[inK];omega)): StP c s:=by
 unfold nxV at h
 split at h<;>try cases h
 rename_i p' o k1 a1 hA
 split at h<;>try cases h
 rename_i S T x ho
 split at h<;>cases h
 rename_i h1 h2
 refine Xb1 (v:=.d (.int k r)) (us:=[]) hA ?_ (Pl.nx_nil kk)
 rw[ho]
 simp only[F,Fp,h1,h2,hr]
noncomputable def nxX(tb:Nat->Option TI)(n:Nat)(s:St): Option (Pl×List D×Int):=match nxA tb n s with
 | some (p,o,[a,.d (.int _ j)])=>match o.op with
  | .indexAddr T _ _=>match tb T with
   | some ⟨.sl _ _,e,_,_⟩=>match a with
    | .d (.sl sz xs)=>match Nat.beq sz e.size with
     | true=>some (p,xs,j)
     | false=>none
    | .gr _ sz xs=>match Nat.beq sz e.size with
     | true=>some (p,xs,j)
     | false=>none
    | .lit sz xs=>match Nat.beq sz e.size with
     | true=>some (p,xs,j)
     | false=>none
    | _=>none
   | _=>none
  | _=>none
 | _=>none
theorem Ix(i:Nat){xs:List D}{j:Int}{u:D}(h:nxX c.tb c.n s=some (p,xs,j))(hu:xs[i]?=some u)(kk:p.nx c (.at u))(hj:j=(i:Int):=by first | exact rfl | omega): StP c s:=by
 subst hj
 unfold nxX at h
 split at h<;>try cases h
 rename_i p' o a k1 j1 hA
 split at h<;>try cases h
 rename_i T x y ho
 split at h<;>try cases h
 rename_i e eb ar ht
 split at h<;>try cases h
 all_goals
  split at h<;>cases h
  rename_i hz
  have hz:=W0e hz
  refine Xb1 (v:=.at u) (us:=[]) hA ?_ (Pl.nx_nil kk)
  rw[ho]
  simp[F,Fp,ht,ixA,ixA.ixL,hz,hu]
end
end
section
section
variable{c:Cx}{s:St}{p:Pl}
noncomputable def nxP(tb:Nat->Option TI)(n:Nat)(s:St): Option (Pl×Nat×Nat×List D×AV):=match nxA tb n s with
 | some (p,o,[a,b])=>match o.op with
  | .call ⟨.builtin .append,_,⟨[T,T']⟩⟩=>match Nat.beq T T',tb T,look p.H (o.dst.getD 0) with
   | true,some ti,none=>match Nat.ble ti.eb 128,ti.z,b with
    | true,.sl sz _,.d (.sl s ys)=>match Nat.beq s sz with
     | true=>some (p,o.dst.getD 0,sz,ys,a)
     | false=>none
    | true,.sl sz _,.nil=>some (p,o.dst.getD 0,sz,[],a)
    | true,.sl sz _,.gr _ s ys=>match Nat.beq s sz with
     | true=>some (p,o.dst.getD 0,sz,ys,a)
     | false=>none
    | true,.sl sz _,.lit s ys=>match Nat.beq s sz with
     | true=>some (p,o.dst.getD 0,sz,ys,a)
     | false=>none
    | _,_,_=>none
   | _,_,_=>none
  | _=>none
 | _=>none
theorem Xqr{d sz:Nat}{ys:List D}{a v:AV}{us:Hpl}(h:nxP c.tb c.n s=some (p,d,sz,ys,a))(hF:∀ti:TI,ti.eb<=128->Xyj d (look p.H) ti sz ys a=some (v,us))(k:p.nx' c v us): StP c s:=by
 unfold nxP at h
 split at h<;>try cases h
 rename_i p' o a' b hA
 split at h<;>try cases h
 rename_i asx T T' ho
 split at h<;>try cases h
 rename_i ti hT hti hd
 have hT:=W0e hT
 subst hT
 have fin:∀ {sz' ys' xs0},ti.eb<=128->ti.z=.sl sz' xs0->Xpr (look p'.H) ti.z sz' b=some ys'->(p',o.dst.getD 0,sz',ys',a')=(p,d,sz,ys,a)->StP c s:=by
  intro sz' ys' xs0 he hz hs e
  injection e with e1 e2;injection e2 with e2 e3;injection e3 with e3 e4;injection e4 with e4 e5
  subst e1;subst e2;subst e3;subst e4;subst e5
  refine Xb1 hA ?_ k
  rw[ho]
  simp only[F,if_true,hti,hd,hz]
  rw[hz] at hs
  rw[hs]
  exact hF ti he
 split at h
 . rename_i he hz
   split at h<;>cases h
   rename_i hs
   have hs:=W0e hs
   exact fin (W1q he) hz (by simp[Xpr,toD,hs]) rfl
 . rename_i he hz
   cases h
   exact fin (W1q he) hz (by simp[Xpr,hz,toD]) rfl
 . rename_i he hz
   split at h<;>cases h
   rename_i hs
   have hs:=W0e hs
   exact fin (W1q he) hz (by simp[Xpr,toD,hs]) rfl
 . rename_i he hz
   split at h<;>cases h
   rename_i hs
   have hs:=W0e hs
   exact fin (W1q he) hz (by simp[Xpr,toD,hs]) rfl
 . cases h
theorem Xej{n:Nat}{ti:TI}(h:n<=1099511627776)(he:ti.eb<=128): Xh0 n ti:=⟨by
 have:=W1z h he;omega,by omega⟩
theorem ApG{d sz o:Nat}{xs ys:List D}(zs:List D)(h:nxP c.tb c.n s=some (p,d,sz,ys,.gr o sz xs))(hz:xs++ys=zs)(hr:zs.length<=1099511627776)(k:p.nx' c (.gr d sz zs) [(d,.tok zs.length sz),(o,.dead)])(ht:look p.H o=some (.tok xs.length sz):=by exact rfl): StP c s:=by
 subst hz
 exact Xqr h (λti he=>by simp[Xyj,ht,Xej (by simpa using hr) he]) k
theorem ApL{d sz:Nat}{xs ys:List D}(zs:List D)(h:nxP c.tb c.n s=some (p,d,sz,ys,.lit sz xs))(hz:xs++ys=zs)(h0:0<ys.length)(hr:zs.length<=1099511627776)(k:p.nx' c (.own d sz 0 zs.length) [(d,.arr sz zs)]): StP c s:=by
 subst hz
 exact Xqr h (λti he=>by simp[Xyj,h0,Xej (by simpa using hr) he]) k
theorem ApE{d sz:Nat}{xs ys:List D}(h:nxP c.tb c.n s=some (p,d,sz,ys,.lit sz xs))(h0:ys.length=0)(hr:xs.length<=1099511627776)(k:p.nx' c (.lit sz xs) []): StP c s :=
 Xqr h (λti he=>by simp[Xyj,h0,Xej (by simpa using hr) he]) k
theorem ApO{d sz o n:Nat}{xs ys:List D}(zs:List D)(h:nxP c.tb c.n s=some (p,d,sz,ys,.own o sz 0 n))(ht:look p.H o=some (.arr sz xs))(hn:n=xs.length)(hz:xs++ys=zs)(hr:zs.length<=1099511627776)(k:p.nx' c (.own d sz 0 zs.length) [(d,.arr sz zs),(o,.dead)]): StP c s:=by
 subst hz
 exact Xqr h (λti he=>by subst hn;simp[Xyj,ht,Xej (by simpa using hr) he]) k
def Xsz{α:Type _}(E E':List (Nat×α)): Prop:=E'.map (λx=>look E x.1)=E'.map λx=>some x.2
theorem Xba{α:Type _}: ∀ {E:List (Nat×α)} {t:Nat} {v:α},look E t=some v->(t,v)∈E
 | [],_,_,h=>by simp[look] at h
 | (s,w)::E,t,v,h=>by
  simp only[look] at h
  split at h
  . rename_i hb;injection h with h;subst h;rw[W0e hb];exact W0w ..
  . exact W1e _ (Xba h)
theorem Xkj{α:Type _}{E E':List (Nat×α)}(h:Xsz E E'){t:Nat}{v:α}(hv:look E' t=some v): look E t=some v:=by
 have hm:=Xba hv
 unfold Xsz at h
 have:=W6i.1 h _ hm
 exact this
def Xii(H:Hpl): Ob->Bool
 | .var a=>Xc9 H a
 | _=>true
def Xnb(E:Env)(H:Hpl): Bool:=(E.all λx=>Xc9 H x.2)&&H.all λx=>Xii H x.2
theorem Xna{E:Env}{H:Hpl}(h:Xnb E H=true): Xya (sem E H):=by
 simp only[Xnb,W0f] at h
 refine⟨λt v i hv hi=>Xfv (W1s.1 h.1 _ (Xba hv)) i hi,λo x i hx hi=>?_⟩
 have:=W1s.1 h.2 _ (Xba hx)
 cases x with
 | var a=>exact Xfv (a:=a) this i hi
 | _=>exact hi.elim
theorem Ypy{K:List Kt}{E E':Env}{H H':Hpl}(hE:Xsz E E')(hH:Xsz H H')(hc:Xnb E' H'=true)(k:J c K (sem E' H')): J c K (sem E H) :=
 J.sub _ (λt v h=>Xkj hE h) (λo x h=>Xkj hH h) (Xna hc) k
def rnN(o o' i:Nat): Nat:=match Nat.beq i o with
 | true=>o'
 | false=>i
def AV.ren(o o':Nat): AV->AV
 | .st a=>.st (a.ren o o')
 | .pr a c=>.pr (a.ren o o') (c.ren o o')
 | .tup a=>.tup (a.ren o o')
 | .fm f a=>.fm f (a.ren o o')
 | .ptr i f=>.ptr (rnN o o' i) f
 | .own i sz l n=>.own (rnN o o' i) sz l n
 | .ow3 i sz l n=>.ow3 (rnN o o' i) sz l n
 | .gr i sz xs=>.gr (rnN o o' i) sz xs
 | .el i sz j f=>.el (rnN o o' i) sz j f
 | .fn f i=>.fn f (rnN o o' i)
 | .ap i n=>.ap (rnN o o' i) n
 | a=>a
def Ob.ren(o o':Nat): Ob->Ob
 | .var a=>.var (a.ren o o')
 | x=>x
def Yeg(o o':Nat)(E:Env): Env:=E.map λx=>(x.1,x.2.ren o o')
def Xuh(o o':Nat)(H:Hpl): Hpl:=H.map λx=>(rnN o o' x.1,x.2.ren o o')
def rnθ(o o':Nat)(θ:Loc): Loc:=λi=>if i=o' then θ o else θ i
theorem Xa1{o o' i:Nat}{θ:Loc}(h:i≠o'): rnθ o o' θ (rnN o o' i)=θ i:=by
 unfold rnθ rnN
 cases e:Nat.beq i o with
 | true=>rw[W0e e];simp
 | false=>exact if_neg h
theorem Yin{W:GW}{θ:Loc}{o o':Nat}: ∀ {a:AV} {cs:List Value},¬a.ids o'->AV.C W θ a cs->AV.C W (rnθ o o' θ) (a.ren o o') cs:=by
 intro a
 induction a with
 | st a ih=>intro cs hi h;exact ih hi h
 | pr a c iha ihc=>intro cs hi ⟨u,v,e,h1,h2⟩;exact⟨u,v,e,iha (λh=>hi (.inl h)) h1,ihc (λh=>hi (.inr h)) h2⟩
 | ptr i f=>intro cs hi ⟨b,h1,h2⟩;exact⟨b,by rw[Xa1 (λe=>hi e.symm)];exact h1,h2⟩
 | own i sz l n=>intro cs hi ⟨b,p,h1,h2,h3,h4,h5⟩;exact⟨b,p,by rw[Xa1 (λe=>hi e.symm)];exact h1,by rw[Xa1 (λe=>hi e.symm)];exact h2,by rw[Xa1 (λe=>hi e.symm)];exact h3,by rw[Xa1 (λe=>hi e.symm)];exact h4,by rw[Xa1 (λe=>hi e.symm)];exact h5⟩
 | ow3 i sz l n=>intro cs hi ⟨b,p,h1,h2,h3,h4,h5⟩;exact⟨b,p,by rw[Xa1 (λe=>hi e.symm)];exact h1,by rw[Xa1 (λe=>hi e.symm)];exact h2,by rw[Xa1 (λe=>hi e.symm)];exact h3,h4,h5⟩
 | gr i sz xs=>intro cs hi ⟨p,h1,h2,h3,h4,h5⟩;exact⟨p,by rw[Xa1 (λe=>hi e.symm)];exact h1,by rw[Xa1 (λe=>hi e.symm)];exact h2,by rw[Xa1 (λe=>hi e.symm)];exact h3,by rw[Xa1 (λe=>hi e.symm)];exact h4,by rw[Xa1 (λe=>hi e.symm)];exact h5⟩
 | el i sz j f=>intro cs hi ⟨b,h1,h2⟩;exact⟨b,by rw[Xa1 (λe=>hi e.symm)];exact h1,h2⟩
 | fn f i=>intro cs hi ⟨b,h1,h2⟩;exact⟨b,by rw[Xa1 (λe=>hi e.symm)];exact h1,h2⟩
 | fm f a ih=>intro cs hi ⟨vs,h1,h2⟩;exact⟨vs,ih hi h1,h2⟩
 | ap i n=>intro cs hi ⟨b,h1,h2,h3⟩;exact⟨b,by rw[Xa1 (λe=>hi e.symm)];exact h1,by rw[Xa1 (λe=>hi e.symm)];exact h2,h3⟩
 | _=>intro cs hi h;exact h
theorem Yio{o o':Nat}(a:AV): (a.ren o o').ag=a.ag:=by cases a<;>rfl
theorem Xqf{W:GW}{θ:Loc}{o o':Nat}{a:AV}{v:Value}(hi:¬a.ids o')(h:AV.V1 W θ a v): AV.V1 W (rnθ o o' θ) (a.ren o o') v:=by
 obtain⟨cs,hc,e⟩:=h;exact⟨cs,Yin hi hc,by rw[e,Yio]⟩
theorem Ym3{W:GW}{θ:Loc}{o o':Nat}: ∀ {a:AV} {vs:List Value},¬a.ids o'->AV.T W θ a vs->AV.T W (rnθ o o' θ) (a.ren o o') vs:=by
 intro a
 induction a with
 | pr a c _ ih =>
  intro vs hi h
  match vs,h with
  | v::vs,h=>exact⟨Xqf (λh=>hi (.inl h)) h.1,ih (λh=>hi (.inr h)) h.2⟩
 | un =>
  intro vs hi h
  match vs,h with
  | [],h=>exact h
  | [v],h=>exact Xqf hi h
 | _ =>
  intro vs hi h
  match vs,h with
  | [v],h=>exact Xqf hi h
theorem Yip{W:GW}{θ:Loc}{o o':Nat}{a:AV}{v:Value}(hi:¬a.ids o')(h:AV.V W θ a v): AV.V W (rnθ o o' θ) (a.ren o o') v:=by
 cases a with
 | tup a=>obtain⟨vs,e,h⟩:=h;exact⟨vs,e,Ym3 hi h⟩
 | un=>exact h
 | _=>exact Xqf hi h
theorem Xkr{o o' i:Nat}: ∀ {a:AV},(a.ren o o').ids i->∃j,a.ids j/\i=rnN o o' j:=by
 intro a
 induction a with
 | st a ih=>exact ih
 | tup a ih=>exact ih
 | fm f a ih=>exact ih
 | pr a c iha ihc =>
  intro h
  rcases h with h | h
  . obtain⟨j,h1,h2⟩:=iha h;exact⟨j,.inl h1,h2⟩
  . obtain⟨j,h1,h2⟩:=ihc h;exact⟨j,.inr h1,h2⟩
 | _=>intro h;first | exact h.elim | exact⟨_,rfl,h⟩
theorem Xd6{o o':Nat}: ∀ {E:Env} {t:Nat} {v:AV},look (Yeg o o' E) t=some v->∃w,look E t=some w/\v=w.ren o o'
 | [],t,v,h=>by simp[Yeg,look] at h
 | (s,w)::E,t,v,h=>by
  simp only[Yeg,W3s,look] at h |-
  split at h
  . injection h with h;exact⟨w,rfl,h.symm⟩
  . exact Xd6 h
theorem Xbk{o o':Nat}: ∀ {H:Hpl} {i:Nat} {x:Ob},look H o'=none->look (Xuh o o' H) i=some x->∃j y,look H j=some y/\i=rnN o o' j/\x=y.ren o o'
 | [],i,x,_,h=>by simp[Xuh,look] at h
 | (s,w)::H,i,x,hn,h=>by
  simp only[look] at hn
  split at hn<;>try cases hn
  rename_i hs
  simp only[Xuh,W3s,look] at h
  split at h
  . rename_i hb
    injection h with h
    exact⟨s,w,by simp[look],W0e hb,h.symm⟩
  . rename_i hb
    obtain⟨j,y,h1,h2,h3⟩:=Xbk hn h
    have:j≠s:=λe=>by
     subst e
     rw[h2] at hb
     simp at hb
    exact⟨j,y,by simp only[look,Ycu this];exact h1,h2,h3⟩
theorem Xcr{o o':Nat}: ∀ {H:Hpl} {j:Nat} {y:Ob},look H o'=none->look H j=some y->∃x,look (Xuh o o' H) (rnN o o' j)=some x
 | [],_,_,_,h=>by simp[look] at h
 | (s,w)::H,j,y,hn,h=>by
  simp only[Xuh,W3s,look]
  by_cases e:j=s
  . subst e;exact⟨w.ren o o',by simp⟩
  . simp only[look,Ycu e] at h
    simp only[look] at hn
    split at hn<;>try cases hn
    obtain⟨x,hx⟩:=Xcr hn h
    split
    . exact⟨_,rfl⟩
    . exact⟨x,hx⟩
theorem Ycp{W:GW}{θ:Loc}{o o' j:Nat}{y:Ob}(hj:j≠o')(hi:¬y.ids o')(h:y.R W θ j): (y.ren o o').R W (rnθ o o' θ) (rnN o o' j):=by
 cases y with
 | var a=>obtain⟨b,cs,T,h1,h2,h3,h4⟩:=h;exact⟨b,cs,T,by rw[Xa1 hj];exact h1,h2,Yin hi h3,h4⟩
 | arr sz xs=>obtain⟨b,cs,T,h1,h2,h3,h4,h5,h6⟩:=h;exact⟨b,cs,T,by rw[Xa1 hj];exact h1,h2,by rw[Xa1 hj];exact h3,by rw[Xa1 hj];exact h4,by rw[Xa1 hj];exact h5,h6⟩
 | tok n sz=>obtain⟨h1,h2,h3⟩:=h;exact⟨by rw[Xa1 hj];exact h1,by rw[Xa1 hj];exact h2,by rw[Xa1 hj];exact h3⟩
 | dead=>trivial
theorem Yp1{K:List Kt}{E:Env}{H:Hpl}(o o':Nat)(hb:(Nat.blt o 1000000&&Nat.blt o' 1000000 && !Xb5 H o')=true)(k:J c K (sem (Yeg o o' E) (Xuh o o' H))): J c K (sem E H):=by
 simp only[W0f,W1t] at hb
 obtain⟨⟨hb1,hb2⟩,hb3⟩:=hb
 have hb1:=Xqy hb1
 have hb2:=Xqy hb2
 have hn:look H o'=none:=by
  unfold Xb5 at hb3;split at hb3<;>first | assumption | cases hb3
 rintro a w ⟨s0,W,θ,hw,hs,hθ,rfl⟩
 have hdom:∀ {i y},look H i=some y->i≠o':=λh e=>by rw[e,hn] at h;cases h
 have hni:∀ {v:AV},(∀i,v.ids i->∃y,look H i=some y)->¬v.ids o':=λh hi=>by obtain⟨y,hy⟩:=h o' hi;rw[hn] at hy;cases hy
 refine k a w ⟨_,W,rnθ o o' θ,hw,⟨hs.fm,⟨hs.rel.defers,hs.rel.size,λt v ht=>?_⟩,⟨λi x hx=>?_,λi x b hx hl hb=>?_,λi j x x' b hx hx' hl hl' h1 h2=>?_,λi x q hx hq=>?_⟩,λt v i ht hi=>?_⟩,λi hi=>?_,rfl⟩
 . obtain⟨u,h1,rfl⟩:=Xd6 ht
   exact Yip (hni λi hi=>hs.ids t u i h1 hi) (hs.rel.has t u h1)
 . obtain⟨j,y,h1,rfl,rfl⟩:=Xbk hn hx
   exact Ycp (hdom h1) (λhi=>by obtain⟨z,hz⟩:=hs.obs.ids j y o' h1 hi;have hz:look H o'=some z:=hz;rw[hn] at hz;cases hz) (hs.obs.r j y h1)
 . obtain⟨j,y,h1,rfl,rfl⟩:=Xbk hn hx
   rw[Xa1 (hdom h1)] at hb
   exact hs.obs.new j y b h1 (by cases y<;>first | rfl | cases hl) hb
 . obtain⟨q,y,k1,rfl,rfl⟩:=Xbk hn hx
   obtain⟨q',y',k1',rfl,rfl⟩:=Xbk hn hx'
   rw[Xa1 (hdom k1)] at h1
   rw[Xa1 (hdom k1')] at h2
   rw[hs.obs.dis q q' y y' b k1 k1' (by cases y<;>first | rfl | cases hl) (by cases y'<;>first | rfl | cases hl') h1 h2]
 . obtain⟨j,y,h1,rfl,rfl⟩:=Xbk hn hx
   cases y with
   | var a =>
    obtain⟨r,h2,rfl⟩:=Xkr (a:=a) hq
    obtain⟨z,hz⟩:=hs.obs.ids j _ r h1 h2
    exact Xcr hn hz
   | _=>exact hq.elim
 . obtain⟨u,h1,rfl⟩:=Xd6 ht
   obtain⟨r,h2,rfl⟩:=Xkr hi
   obtain⟨z,hz⟩:=hs.ids t u r h1 h2
   exact Xcr hn hz
 . show (if i=o' then θ o else θ i)=_
   rw[if_neg (by omega)];exact hθ i hi
theorem Yp4{K:List Kt}{E:Env}{H:Hpl}(t o' sz:Nat)(hv:look E t=some .nil)(hb:(Nat.blt o' 1000000 && !Xb5 H o')=true)(k:J c K (sem ((t,.gr o' sz [])::E) ((o',.tok 0 sz)::H))): J c K (sem E H):=by
 simp only[W0f,W1t] at hb
 have hb1:=Xqy hb.1
 have hn:look H o'=none:=by
  have hb3:=hb.2
  unfold Xb5 at hb3;split at hb3<;>first | assumption | cases hb3
 rintro a w ⟨s0,W,θ,hw,hs,hθ,rfl⟩
 have st:=Stp.new0 (d:=o') hs.obs hb1 hn (x:=.tok 0 sz) ⟨by simp,by simp,.inl (by simp)⟩ (λi h=>h)
 have h1:=hs.step0 st
 refine k a w ⟨_,W,_,hw,?_,λi hi=>(st.hi i hi).trans (hθ i hi),rfl⟩
 rw[show sem ((t,AV.gr o' sz [])::E) ((o',Ob.tok 0 sz)::H)=(upd (look E) t (.gr o' sz []),upd (look H) o' (.tok 0 sz)) by rw[Xa6,Xa6]]
 refine⟨h1.fm,⟨h1.rel.defers,h1.rel.size,λq v hq=>?_⟩,h1.obs,λq v i hq hi=>?_⟩
 . rcases Xae hq with ⟨e1,e2⟩ | ⟨e1,e2⟩
   . subst e1;subst e2
     obtain⟨p,e⟩:=Xje (h1.rel.has q _ hv)
     rw[e]
     exact Yfo (o:=o') (θ:=λi=>if i=o' then (none,0) else θ i) rfl (by simp) (.inl (by simp)) (by simp) (by simp) (.inl rfl)
   . exact h1.rel.has q v e2
 . rcases Xae hq with ⟨e1,e2⟩ | ⟨e1,e2⟩
   . subst e2;have hi:i=o':=hi;subst hi;exact⟨_,Xai _ _ _⟩
   . exact h1.ids q v i e2 hi
def rnE: List (Nat×Nat)->Env->Env
 | [],E=>E
 | (o,o')::r,E=>rnE r (Yeg o o' E)
def rnH: List (Nat×Nat)->Hpl->Hpl
 | [],H=>H
 | (o,o')::r,H=>rnH r (Xuh o o' H)
def unE: List (Nat×Nat)->Env->Env
 | [],E=>E
 | (o,o')::r,E=>Yeg o' o (unE r E)
def unH: List (Nat×Nat)->Hpl->Hpl
 | [],H=>H
 | (o,o')::r,H=>Xuh o' o (unH r H)
def okR: List (Nat×Nat)->Hpl->Bool
 | [],_=>true
 | (o,o')::r,H=>Nat.blt o 1000000&&Nat.blt o' 1000000 && !Xb5 H o'&&okR r (Xuh o o' H)
theorem rnS{K:List Kt}: ∀ {r:List (Nat×Nat)} {E:Env} {H:Hpl},okR r H=true->StP c (.j [] K (rnE r E) (rnH r H))->StP c (.j [] K E H)
 | [],_,_,_,k=>k
 | (o,o')::r,E,H,h,k=>by
  simp only[okR,W0f] at h
  exact Yp1 o o' (by simp only[W0f];exact h.1) (rnS h.2 k)
def Ymf(r:List (Nat×Nat))(E E':Env)(H H':Hpl): Prop:=Xsz E (unE r E')/\Xsz H (unH r H')/\(Xnb (unE r E') (unH r H')&&okR r (unH r H'))=true/\rnE r (unE r E')=E'/\rnH r (unH r H')=H'
theorem Yno{K:List Kt}{r:List (Nat×Nat)}{E E':Env}{H H':Hpl}(h:Ymf r E E' H H')(k:StP c (.j [] K E' H')): StP c (.j [] K E H):=by
 obtain⟨h1,h2,h3,h4,h5⟩:=h
 rw[W0f] at h3
 exact Ypy h1 h2 h3.1 (rnS h3.2 (by rw[h4,h5];exact k))
def Yoj{α:Type}(E':α->Env)(H':α->Hpl)(I:α->Prop)(μ:α->Nat)(s:S)(m:Nat): Prop:=∃x,s=sem (E' x) (H' x)/\I x/\μ x=m
noncomputable def nxL(tb:Nat->Option TI)(n:Nat)(s:St): Option (Code×List Kt×Env×Hpl):=match runN tb n 1000 s with
 | .j _ (.c (.loop b)::K) E H=>some (b,K,E,H)
 | _=>none
theorem Lo{α:Type}(E':α->Env)(H':α->Hpl)(I:α->Prop)(μ:α->Nat)(x:α)(r:List (Nat×Nat)){b:Code}{K:List Kt}{E:Env}{H:Hpl}(h:nxL c.tb c.n s=some (b,K,E,H))(h0:I x)
 (k:∀x,I x->StP c (.j [] (.c b::.l (λs'=>∃μ',μ'<μ x/\Yoj E' H' I μ s' μ')::K) (E' x) (H' x))) (hf:Ymf r E (E' x) H (H' x):=by exact⟨rfl,rfl,rfl,rfl,rfl⟩):StP c s:=by
 unfold nxL at h
 split at h<;>cases h
 rename_i hr
 refine go 1000 hr (Yno hf (J.loop (Yoj E' H' I μ) (μ x) ⟨x,rfl,h0,rfl⟩ ?_))
 rintro s m ⟨x,rfl,hx,rfl⟩
 exact k x hx
noncomputable def nxB(tb:Nat->Option TI)(n:Nat)(s:St): Option ((S->Prop)×List Kt×Env×Hpl):=match runN tb n 1000 s with
 | .j _ (.l I::K) E H=>some (I,K,E,H)
 | _=>none
theorem Bk{α:Type}{E':α->Env}{H':α->Hpl}{I:α->Prop}{μ:α->Nat}{m:Nat}{K:List Kt}{E:Env}{H:Hpl}(x:α)(r:List (Nat×Nat))(h:nxB c.tb c.n s=some ((λs'=>∃μ',μ'<m/\Yoj E' H' I μ s' μ'),K,E,H))(hI:I x)(hm:μ x<m)(hf:Ymf r E (E' x) H (H' x):=by exact⟨rfl,rfl,rfl,rfl,rfl⟩): StP c s:=by
 unfold nxB at h
 split at h<;>try cases h
 rename_i hr
 exact go 1000 hr (Yno hf (J.at' ⟨_,hm,x,rfl,hI,rfl⟩))
noncomputable def nxJ(tb:Nat->Option TI)(n:Nat)(s:St): Option (List Kt×Env×Hpl):=match runN tb n 1000 s with
 | .j _ K E H=>some (K,E,H)
 | _=>none
theorem Nl{K:List Kt}{E:Env}{H:Hpl}(t o' sz:Nat)(h:nxJ c.tb c.n s=some (K,E,H))(k:StP c (.j [] K ((t,.gr o' sz [])::E) ((o',.tok 0 sz)::H)))(hv:look E t=some .nil:=by exact rfl)(hb:(Nat.blt o' 1000000 && !Xb5 H o')=true:=by exact rfl): StP c s:=by
 unfold nxJ at h
 split at h<;>cases h
 rename_i hr
 exact go 1000 hr (Yp4 t o' sz hv hb k)
end
end
section
def GW.fz(W:GW)(b:Nat): GW:=⟨W.w,λb' i=>b'≠b/\W.A b' i,λb' i k=>W.hA b' i k.2⟩
theorem Yfp(W:GW)(b:Nat): LeF W (W.fz b):=λ_ _ _ k=>⟨k.1,λhA=>k.2 hA.2⟩
theorem Stp.freeze{N:Nat->Prop}{W:GW}{θ:Loc}{g:Hp}(h:Obs W θ N g){o b sz:Nat}{xs:List D}(ho:g o=some (.arr sz xs))(hb:(θ o).1=some b):
 Stp N W (W.fz b) θ θ g (upd g o .dead) where
 os:=_root_.rfl
 out:=_root_.rfl
 tape:=_root_.rfl
 size:=W0c _
 same:=λ_ _ _=>_root_.rfl
 A:=λb' _ hn i=>⟨λk=>k.2,λk=>⟨λe=>by subst e;exact hn (h.new o _ _ ho _root_.rfl hb),k⟩⟩
 le:=Yfp W b
 th:=λ_ _ _=>_root_.rfl
 hi:=λ_ _=>_root_.rfl
 obs:={
  r:=λo' z hz=>by
   rcases Xae hz with ⟨e1,e2⟩ | ⟨e1,e2⟩
   . subst e2;trivial
   . exact(h.r o' z e2).keep (Yfp W b) _root_.rfl (λ_ _=>_root_.rfl) λhl b' hb'=>⟨_root_.rfl,λi hA=>show b'≠b/\W.A b' i from⟨λe=>by
      subst e
      exact e1 (h.dis o' o z _ _ e2 ho hl _root_.rfl hb' hb),hA⟩⟩
  new:=λo' z b hz hl hb=>by
   rcases Xae hz with ⟨e1,e2⟩ | ⟨e1,e2⟩
   . subst e2;cases hl
   . exact h.new o' z b e2 hl hb
  dis:=λo1 o2 y1 y2 b h1 h2 l1 l2 b1 b2=>by
   rcases Xae h1 with ⟨e1,f1⟩ | ⟨e1,f1⟩
   . subst f1;cases l1
   . rcases Xae h2 with ⟨e2,f2⟩ | ⟨e2,f2⟩
     . subst f2;cases l2
     . exact h.dis o1 o2 y1 y2 b f1 f2 l1 l2 b1 b2
  ids:=λo' z i hz hzi=>by
   have:∃w,g i=some w:=by
    rcases Xae hz with ⟨e1,e2⟩ | ⟨e1,e2⟩
    . subst e2;exact hzi.elim
    . exact h.ids o' z i e2 hzi
   obtain⟨w,hw⟩:=this
   by_cases e:i=o
   . subst e;exact⟨_,Xai _ _ _⟩
   . exact⟨w,by rw[Xam e];exact hw⟩ }
 dom:=λi y hy=>by
  by_cases e:i=o
  . subst e;exact⟨_,Xai _ _ _⟩
  . exact⟨y,by rw[Xam e];exact hy⟩
theorem Xz5{N:Nat->Prop}{W:GW}{θ:Loc}{g:Hp}(h:Obs W θ N g){o b sz l n:Nat}{xs:List D}{v:Value}(ho:g o=some (.arr sz xs))(hb:(θ o).1=some b)(hn:l+n<=xs.length)(hv:AV.V W θ (.own o sz l n) v):
 AV.V (W.fz b) θ (.d (.sl sz ((xs.drop l).take n))) v:=by
 obtain⟨cs,⟨b1,p,h1,h2,h3,e,h5⟩,hc⟩:=hv
 refine⟨cs,?_,hc⟩
 obtain⟨b',bs,T',r1,r2,r3,r4,r5,r6,r7⟩:=h.r _ _ ho
 rw[hb] at r1 h1;injection r1 with r1;injection h1 with h1;subst r1;subst h1
 have hlen:((xs.drop l).take n).length=n:=by simp;omega
 refine⟨p,(θ o).2-l,by rw[hlen];exact e,by omega,by omega,?_⟩
 rcases W2u n with hn0 | hn0
 . exact .inl (W2s.1 (by rw[hlen,hn0]))
 . refine .inr ⟨b,l*sz,h5 (by omega),?_⟩
   have hrow:D.Row (W.fz b) b sz 0 xs:=(AtL.mono (Yfp W b) (sz:=sz) (xs:=xs) (cs:=bs) r6).row λq v _ hv=>by
    rw[W1k]
    exact⟨show W.w.cell? _=_ by rw[Xbf r2];exact hv,λhA=>hA.1 rfl⟩
   have:=D.row_sub hrow l n
   rwa[W1k] at this
def isR(id:Nat): St->Bool
 | .j _ (.c (.region i _ _)::_) _ _=>Nat.beq id i
 | .j _ (.c (.block i _)::_) _ _=>Nat.beq id (i+1000000)
 | _=>false
noncomputable def runT(tb:Nat->Option TI)(n id:Nat): Nat->St->St
 | 0,s=>s
 | m+1,s=>match isR id s with
  | true=>s
  | false=>match Ylv tb n s with
   | some s'=>runT tb n id m s'
   | none=>s
section
variable{c:Cx}{s:St}{p:Pl}
theorem Xgc{id:Nat}: ∀(m:Nat) {s:St},StP c (runT c.tb c.n id m s)->StP c s
 | 0,_,k=>k
 | m+1,s,k=>by
  unfold runT at k
  split at k
  . exact k
  . split at k
    . rename_i s' h;exact Xub h (Xgc m k)
    . exact k
noncomputable def nxF(tb:Nat->Option TI)(n id t:Nat)(s:St): Option (List Kt×Env×Hpl×Nat×Nat×Nat×Nat×List D):=match runT tb n id 1000 s with
 | .j _ K E H=>match look E t with
  | some (.own o sz l n)=>match look H o with
   | some (.arr sz' xs)=>match Nat.beq sz sz' with
    | true=>some (K,E,H,o,sz,l,n,xs)
    | false=>none
   | _=>none
  | _=>none
 | _=>none
theorem Fz(id t:Nat)(ys:List D){K:List Kt}{E:Env}{H:Hpl}{o sz l n:Nat}{xs:List D}(h:nxF c.tb c.n id t s=some (K,E,H,o,sz,l,n,xs))(hn:l+n<=xs.length)(hy:(xs.drop l).take n=ys)(k:StP c (.j [] K ((t,.d (.sl sz ys))::E) ((o,.dead)::H))): StP c s:=by
 unfold nxF at h
 split at h<;>try cases h
 rename_i hr
 split at h<;>try cases h
 rename_i he
 split at h<;>try cases h
 rename_i ho
 split at h<;>cases h
 rename_i hz
 have hz:=W0e hz
 subst hz;subst hy
 refine Xgc (id:=id) 1000 ?_
 rw[hr]
 rintro a w ⟨s0,W,θ,hw,hs,hθ,rfl⟩
 obtain⟨b,bs,T',r1,_⟩:=hs.obs.r _ _ ho
 have st:=Stp.freeze hs.obs ho r1
 have h1:=hs.step0 st
 refine k a w ⟨_,W.fz b,θ,hw,?_,hθ,rfl⟩
 rw[show sem ((t,AV.d (.sl sz ((xs.drop l).take n)))::E) ((o,Ob.dead)::H)=(upd (look E) t (.d (.sl sz ((xs.drop l).take n))),upd (look H) o .dead) by rw[Xa6,Xa6]]
 refine⟨h1.fm,⟨h1.rel.defers,h1.rel.size,λq v hq=>?_⟩,h1.obs,λq v i hq hi=>?_⟩
 . rcases Xae hq with ⟨e1,e2⟩ | ⟨e1,e2⟩
   . subst e1;subst e2
     exact Xz5 hs.obs ho r1 hn (hs.rel.has q _ he)
   . exact h1.rel.has q v e2
 . rcases Xae hq with ⟨e1,e2⟩ | ⟨e1,e2⟩
   . subst e2;exact hi.elim
   . exact h1.ids q v i e2 hi
noncomputable def nxM(tb:Nat->Option TI)(n:Nat)(s:St): Option (Pl×Nat×Nat×D×Int×Int):=match nxA tb n s with
 | some (p,o,[.d (.int _ m),.d (.int _ q)])=>match o.op with
  | .makeSlice T _ _=>match tb T with
   | some ti=>match ti.z,Nat.ble ti.eb 128,look p.H (o.dst.getD 0) with
    | .sl sz _,true,none=>some (p,o.dst.getD 0,sz,ti.e,m,q)
    | _,_,_=>none
   | none=>none
  | _=>none
 | _=>none
theorem Mk(n:Nat){d sz:Nat}{e:D}{m q:Int}(h:nxM c.tb c.n s=some (p,d,sz,e,m,q))(hn:(n:Int)<=q/\q<=1099511627776)(k:p.nx' c (.own d sz 0 n) [(d,.arr sz (List.replicate n e))])(hm:m=n:=by first | exact rfl | omega): StP c s:=by
 subst hm
 unfold nxM at h
 split at h<;>try cases h
 rename_i hA
 split at h<;>try cases h
 rename_i ho
 split at h<;>try cases h
 rename_i ti ht
 split at h<;>cases h
 rename_i he hd hz
 refine Xb1 hA ?_ k
 rw[ho]
 simp only[F,ht,hd,hz]
 rw[if_pos ⟨by omega,by omega,Xej (ti:=ti) (by omega) (W1q he)⟩]
 simp
noncomputable def nxS(tb:Nat->Option TI)(n:Nat)(s:St): Option (Pl×AV×Option Int×Option Int):=match nxA tb n s with
 | some (p,o,asx)=>match o.op with
  | .slice T _ lo hi mx=>match tb T with
   | some ti=>match ti.z,Xlx lo hi mx asx with
    | .sl _ _,some (a,l,h,none)=>match Yoo ti.e.size a with
     | true=>some (p,a,l,h)
     | false=>none
    | _,_=>none
   | none=>none
  | _=>none
 | none=>none
theorem Xqq{a r:AV}{l h':Option Int}(h:nxS c.tb c.n s=some (p,a,l,h'))(hr:slA l h' a=some r)(k:p.nx c r): StP c s:=by
 unfold nxS at h
 split at h<;>try cases h
 rename_i hA
 split at h<;>try cases h
 rename_i ho
 split at h<;>try cases h
 rename_i ti ht
 split at h<;>try cases h
 rename_i hz hs
 split at h<;>cases h
 rename_i hk
 refine Xb1 (us:=[]) hA ?_ (Pl.nx_nil k)
 rw[ho]
 simp only[F,Fp,ht,hz,hs,hk,hr]
def Yl8: AV->Option (Nat×List D)
 | .d (.sl sz xs)=>some (sz,xs)
 | .gr _ sz xs=>some (sz,xs)
 | .lit sz xs=>some (sz,xs)
 | _=>none
theorem Xrq{a:AV}{sz:Nat}{xs:List D}(h:Yl8 a=some (sz,xs))(l h':Option Int): slA l h' a=slA.slL sz xs l h':=by
 unfold Yl8 at h
 split at h<;>cases h<;>rfl
theorem Tk(j:Nat)(zs:List D){a:AV}{i:Int}{sz:Nat}{xs:List D}(h:nxS c.tb c.n s=some (p,a,none,some i))(ha:Yl8 a=some (sz,xs))(hl:j<=xs.length)(hz:xs.take j=zs)(k:p.nx c (.d (.sl sz zs)))(hj:i=j:=by first | exact rfl | omega): StP c s:=by
 subst hj;subst hz
 refine Xqq h ?_ k
 rw[Xrq ha,slA.slL,if_pos ⟨by omega,by omega⟩];simp
theorem Dp(j:Nat)(zs:List D){a:AV}{i:Int}{sz:Nat}{xs:List D}(h:nxS c.tb c.n s=some (p,a,some i,none))(ha:Yl8 a=some (sz,xs))(hl:j<=xs.length)(hz:xs.drop j=zs)(k:p.nx c (.d (.sl sz zs)))(hj:i=j:=by first | exact rfl | omega): StP c s:=by
 subst hj;subst hz
 refine Xqq h ?_ k
 rw[Xrq ha,slA.slL,if_pos ⟨by omega,by omega⟩];simp
theorem Sw(i j:Nat){l h':Option Int}{o sz q n:Nat}(h:nxS c.tb c.n s=some (p,.own o sz q n,l,h'))(hi:i<=j)(hj:j<=n)(k:p.nx c (.own o sz (q+i) (j-i)))(hl:l.getD 0=i:=by first | exact rfl | (simp only[Option.getD];omega))(hh:h'.getD n=j:=by first | exact rfl | (simp only[Option.getD];omega)): StP c s:=by
 refine Xqq h ?_ k
 cases l<;>cases h'<;>simp only[Option.getD] at hl hh
 . have:i=0:=by omega
   have:j=n:=by omega
   subst i;subst j;simp[slA]
 . have:i=0:=by omega
   subst i
   rw[slA,if_pos ⟨by omega,by omega⟩,hh];simp
 . have:j=n:=by omega
   subst j
   rw[slA,if_pos ⟨by omega,by omega⟩,hl];simp
 . rw[slA,if_pos ⟨by omega,by omega,by omega⟩,hl,hh];simp
noncomputable def nxE(tb:Nat->Option TI)(n:Nat)(s:St): Option (Pl×Nat×Nat×Nat×Nat×Int):=match nxA tb n s with
 | some (p,o,[.own q sz l m,.d (.int _ j)])=>match o.op with
  | .indexAddr T _ _=>match tb T with
   | some ti=>match ti.z,Nat.beq sz ti.e.size with
    | .sl _ _,true=>some (p,q,sz,l,m,j)
    | _,_=>none
   | none=>none
  | _=>none
 | _=>none
theorem El(i:Nat){q sz l m:Nat}{j:Int}(h:nxE c.tb c.n s=some (p,q,sz,l,m,j))(hi:i<m)(k:p.nx c (.el q sz (l+i) 0))(hj:j=i:=by first | exact rfl | omega): StP c s:=by
 subst hj
 unfold nxE at h
 split at h<;>try cases h
 rename_i hA
 split at h<;>try cases h
 rename_i ho
 split at h<;>try cases h
 rename_i ti ht
 split at h<;>cases h
 rename_i hz hb
 refine Xb1 (us:=[]) hA ?_ (Pl.nx_nil k)
 rw[ho]
 simp only[F,Fp,ht,hz,ixA]
 rw[if_pos ⟨by omega,by omega,W0e hb⟩]
 simp
theorem Eo(i:Nat){q sz m:Nat}{j:Int}(h:nxE c.tb c.n s=some (p,q,sz,0,m,j))(hi:i<m)(k:p.nx c (.el q sz i 0))(hj:j=i:=by first | exact rfl | omega): StP c s :=
 El i h hi (by rw[W1k];exact k) hj
noncomputable def Yo0(tb:Nat->Option TI)(n:Nat)(s:St): Option (Pl×Nat×Bool×List D×Nat×Nat):=match nxA tb n s with
 | some (p,o,[.el q sz j off])=>match o.op with
  | .load T _=>match tb T,look p.H q with
   | some ti,some (.arr sz' xs)=>match Nat.beq sz sz' with
    | true=>some (p,ti.z.size,ti.z.ag,xs,j,off)
    | false=>none
   | _,_=>none
  | _=>none
 | _=>none
theorem Ld(u:D){z g xs j off y}(h:Yo0 c.tb c.n s=some (p,z,g,xs,j,off))(hu:xs[j]?=some u)(k:p.nx c (nb y))(hy:Xpn z g u off=some y:=by exact rfl): StP c s:=by
 unfold Yo0 at h
 split at h<;>try cases h
 rename_i hA
 split at h<;>try cases h
 rename_i ho
 split at h<;>try cases h
 rename_i ti ht hq
 split at h<;>cases h
 rename_i hz
 have hz:=W0e hz
 refine Xb1 (us:=[]) hA ?_ (Pl.nx_nil k)
 rw[ho]
 simp only[F,ht,hq,hz,if_true,hu,hy]
noncomputable def Ym8(tb:Nat->Option TI)(n:Nat)(s:St): Option (Pl×Nat×Nat×List D×Nat×D):=match nxA tb n s with
 | some (p,o,[.el q sz j 0,v])=>match o.op with
  | .store T _ _=>match tb T,look p.H q with
   | some ti,some (.arr sz' xs)=>match toD ti.z v with
    | some x=>match plain v&&Nat.beq sz sz'&&Nat.beq v.size sz&&Nat.beq x.size sz&&Nat.beq ti.z.size sz with
     | true=>some (p,q,sz,xs,j,x)
     | false=>none
    | none=>none
   | _,_=>none
  | _=>none
 | _=>none
theorem Sto{zs:List D}{q sz xs j x}(h:Ym8 c.tb c.n s=some (p,q,sz,xs,j,x))(hj:j<xs.length)(hz:xs.set j x=zs)(k:p.nx' c (.ub True) [(q,.arr sz zs)]): StP c s:=by
 subst hz
 unfold Ym8 at h
 split at h<;>try cases h
 rename_i hA
 split at h<;>try cases h
 rename_i ho
 split at h<;>try cases h
 rename_i ti ht hq
 split at h<;>try cases h
 rename_i hx
 split at h<;>cases h
 rename_i hb
 simp only[W0f] at hb
 refine Xb1 hA ?_ k
 rw[ho]
 simp only[F,ht,hq,hx]
 rw[if_pos ⟨hb.1.1.1.1,W0e hb.1.1.1.2,W0e hb.1.1.2,W0e hb.1.2,W0e hb.2,hj⟩]
noncomputable def nxN(tb:Nat->Option TI)(n:Nat)(s:St): Option (Pl×IntKind×Int):=match nxA tb n s with
 | some (p,o,[.d (.int k a)])=>match o.op with
  | .unOp op _ _=>match op with
   | .neg=>some (p,k,a)
   | _=>none
  | _=>none
 | _=>none
theorem Ne{k:IntKind}{a:Int}(r:Int)(h:nxN c.tb c.n s=some (p,k,a))(kk:p.nx c (.d (.int k r)))(hr:k.wrap (0-a)=r:=by exact wr (by omega) (by simp only[inK];omega)): StP c s:=by
 unfold nxN at h
 split at h<;>try cases h
 rename_i hA
 split at h<;>try cases h
 rename_i ho
 split at h<;>cases h
 refine Xb1 (us:=[]) hA ?_ (Pl.nx_nil kk)
 rw[ho]
 simp only[F,Fp,hr]
end
end
end Go.Vm
namespace Go.Num
theorem wI{x:Int}(h:-9223372036854775808<=x/\x<9223372036854775808): IntKind.i64.wrap x=x:=by
 have e:IntKind.i64.wrap x=if x%18446744073709551616>=9223372036854775808 then x%18446744073709551616-18446744073709551616 else x%18446744073709551616:=by
  simp[IntKind.wrap,IntKind.bits,IntKind.signed]
 rw[e];split<;>omega
theorem wU{x:Int}(h:0<=x/\x<18446744073709551616): IntKind.u64.wrap x=x:=by
 have e:IntKind.u64.wrap x=x%18446744073709551616:=by simp[IntKind.wrap,IntKind.bits,IntKind.signed]
 rw[e];omega
theorem wUm(x:Int): IntKind.u64.wrap x=x%18446744073709551616:=by simp[IntKind.wrap,IntKind.bits,IntKind.signed]
theorem wW{x:Int}(h:0<=x/\x<4294967296): IntKind.u32.wrap x=x:=by
 have e:IntKind.u32.wrap x=x%4294967296:=by simp[IntKind.wrap,IntKind.bits,IntKind.signed]
 rw[e];omega
theorem wWm(x:Int): IntKind.u32.wrap x=x%4294967296:=by simp[IntKind.wrap,IntKind.bits,IntKind.signed]
def val: List Nat->Nat
 | []=>0
 | x::l=>x+4294967296*val l
def dig(n:Nat): List Nat:=if h:n=0 then [] else (n%4294967296)::dig (n/4294967296)
termination_by n
decreasing_by omega
def Xan(l:List Nat): Prop:=∀x∈l,x<4294967296
theorem Xan.nil: Xan []:=λ_ h=>by cases h
theorem Xan.cons{x:Nat}{l:List Nat}(h:x<4294967296)(k:Xan l): Xan (x::l):=λy hy=>by
 rcases W1i.1 hy with rfl | hy
 . exact h
 . exact k y hy
theorem Xan.hd{x:Nat}{l:List Nat}(h:Xan (x::l)): x<4294967296:=h x (W0w ..)
theorem Xan.tl{x:Nat}{l:List Nat}(h:Xan (x::l)): Xan l:=λy hy=>h y (W1e _ hy)
theorem Xan.app{l m:List Nat}(h:Xan l)(k:Xan m): Xan (l++m):=λy hy=>(W2j.1 hy).elim (h y) (k y)
theorem Xan.take{l:List Nat}(h:Xan l)(k:Nat): Xan (l.take k):=λy hy=>h y (W5t hy)
theorem Xan.drop{l:List Nat}(h:Xan l)(k:Nat): Xan (l.drop k):=λy hy=>h y (W6o hy)
theorem Xak: dig 0=[]:=by rw[dig];simp
theorem Xe6{n:Nat}(h:n≠0): dig n=(n%4294967296)::dig (n/4294967296):=by rw[dig];simp[h]
theorem Xaf(n:Nat): val (dig n)=n:=by
 induction n using Nat.strongRecOn with
 | _ n ih =>
  by_cases h:n=0
  . subst h;rw[Xak];rfl
  . rw[Xe6 h,val,ih _ (by omega)];omega
theorem Xad(n:Nat): Xan (dig n):=by
 induction n using Nat.strongRecOn with
 | _ n ih =>
  by_cases h:n=0
  . subst h;rw[Xak];exact .nil
  . rw[Xe6 h];exact .cons (by omega) (ih _ (by omega))
theorem Xsl{n:Nat}: dig n=[]↔n=0:=by
 constructor
 . intro h;have:=Xaf n;rw[h] at this;exact this.symm
 . rintro rfl;exact Xak
theorem Xck(l m:List Nat): val (l++m)=val l+4294967296^l.length*val m:=by
 induction l with
 | nil=>simp[val]
 | cons x l ih =>
  rw[W3r,val,ih,val,W0k,W0q,W0y,W4p,
   W1f (4294967296^l.length) 4294967296,W0r]
theorem Xbw{l:List Nat}(h:Xan l): val l<4294967296^l.length:=by
 induction l with
 | nil=>simp[val]
 | cons x l ih =>
  have h1:=ih h.tl
  have h2:=h.hd
  rw[val,W0k,W0q]
  omega
theorem Xac{l:List Nat}{k x:Nat}(h:l[k]?=some x): val (l.take (k+1))=val (l.take k)+4294967296^k*x:=by
 have hk:k<l.length:=by
  by_cases hh:k<l.length
  . exact hh
  . rw[W2e (by omega)] at h;cases h
 rw[W1c,h,Xck]
 simp[val,W0j,W2b (W2c hk)]
def Ymc(l:List Nat): Prop:=l=[]\/∃x,l[l.length-1]?=some x/\x≠0
theorem Xdc{l:List Nat}(hw:Xan l)(ht:Ymc l): dig (val l)=l:=by
 induction l with
 | nil=>exact Xak
 | cons x l ih =>
  have hx:=hw.hd
  rcases ht with h | ⟨y,hy,hne⟩
  . cases h
  . by_cases hl:l=[]
    . subst hl
      simp at hy
      subst hy
      rw[Xe6 (by simp[val,hne])]
      simp only[val,W3h,W2o]
      rw[W3y hx,W5i hx,Xak]
    . have ht':Ymc l:=by
       refine .inr ⟨y,?_,hne⟩
       have:l.length≠0:=λh=>hl (W0n h)
       rw[W0k,show l.length+1-1=(l.length-1)+1 by omega] at hy
       simpa using hy
      have ihh:=ih hw.tl ht'
      have hv:val l≠0:=by
       intro h0
       rw[h0,Xak] at ihh
       exact hl ihh.symm
      rw[val,Xe6 (by omega),show (x+4294967296*val l)%4294967296=x by omega,show (x+4294967296*val l)/4294967296=val l by omega,ihh]
theorem Xg2(n:Nat): Ymc (dig n):=by
 induction n using Nat.strongRecOn with
 | _ n ih =>
  by_cases h:n=0
  . subst h;rw[Xak];exact .inl rfl
  . rw[Xe6 h]
    by_cases h2:n/4294967296=0
    . rw[h2,Xak]
      exact .inr ⟨n%4294967296,rfl,by omega⟩
    . rcases ih (n/4294967296) (by omega) with h3 | ⟨x,h3,h4⟩
      . exact absurd (Xsl.1 h3) h2
      . refine .inr ⟨x,?_,h4⟩
        have:(dig (n/4294967296)).length≠0:=λh=>h2 (Xsl.1 (W0n h))
        rw[W0k,show (dig (n/4294967296)).length+1-1=((dig (n/4294967296)).length-1)+1 by omega]
        simpa using h3
theorem Xm3{n:Nat}(h:n≠0): 4294967296^((dig n).length-1)<=n:=by
 induction n using Nat.strongRecOn with
 | _ n ih =>
  rw[Xe6 h,W0k,W3j]
  by_cases h2:n/4294967296=0
  . rw[h2,Xak];simp;omega
  . have h1:=ih (n/4294967296) (by omega) h2
    have hl:(dig (n/4294967296)).length≠0:=λhh=>h2 (Xsl.1 (W0n hh))
    rw[show (dig (n/4294967296)).length=(dig (n/4294967296)).length-1+1 by omega,W0q]
    exact W0l (W0v _ h1) (W6u ..)
theorem Xc0(n:Nat): n<4294967296^(dig n).length:=by
 have:=Xbw (Xad n)
 rwa[Xaf] at this
theorem Xaq{n k:Nat}(h:n<4294967296^k): (dig n).length<=k:=by
 by_cases h0:n=0
 . subst h0;rw[Xak];simp
 . have h1:=Xm3 h0
   apply W1g
   intro hn
   have:4294967296^k<=4294967296^((dig n).length-1):=W0m (by decide) (by omega)
   omega
theorem Xap{m n:Nat}(h:m<=n): (dig m).length<=(dig n).length:=Xaq (W1y h (Xc0 n))
theorem Xdh{m n:Nat}(h:(dig m).length<(dig n).length): m<n:=by
 apply W1g
 intro hn
 have:=Xap (m:=n) (n:=m) (by omega)
 omega
theorem Xfi{l:List Nat}(hw:Xan l)(h0:0<l.length)(h:4294967296^(l.length-1)<=val l): Ymc l:=by
 have hlt:l.length-1<l.length:=by omega
 refine .inr ⟨l[l.length-1],W0a hlt,λhz=>?_⟩
 have h1:=Xac (l:=l) (W0a hlt)
 rw[show l.length-1+1=l.length by omega,W1x,hz,W3h,W2o] at h1
 have h2:=Xbw (hw.take (l.length-1))
 rw[W0j,W2b (by omega)] at h2
 omega
theorem Xgg(x y:Nat): (dig (x+y)).length<=max (dig x).length (dig y).length+1:=by
 apply Xaq
 have h1:=Xc0 x
 have h2:=Xc0 y
 have h3:4294967296^(dig x).length<=4294967296^max (dig x).length (dig y).length:=W0m (by decide) (Nat.le_max_left ..)
 have h4:4294967296^(dig y).length<=4294967296^max (dig x).length (dig y).length:=W0m (by decide) (Nat.le_max_right ..)
 rw[W0q]
 omega
theorem Xk3(x y:Nat): (dig (x*y)).length<=(dig x).length+(dig y).length:=by
 apply Xaq
 rw[W0z]
 exact W5a (Xc0 x) (Xc0 y)
theorem Yib(s:Nat): Int.fdiv (s:Int) (2^(min (Int.toNat 32) (IntKind.bits .u64)))=((s/4294967296:Nat):Int):=by
 have e:(2:Int)^(min (Int.toNat 32) (IntKind.bits .u64))=4294967296:=by decide
 rw[e,W1w _ (by omega)]
 rfl
theorem Xf9{l:List Nat}{k:Nat}(h:l.length<=k): l.take (k+1)=l.take k:=by
 rw[W0b h,W0b (by omega)]
theorem Xbb{l:List Nat}{k d:Nat}(h:k<l.length): val ((l.set k d).take (k+1))=val (l.take k)+4294967296^k*d:=by
 have:=Xac (l:=l.set k d) (k:=k) (x:=d) (by rw[W2l h])
 rw[this,List.take_set_of_le (W0c k)]
theorem Xbi(l:List Nat)(k:Nat)(h:k<=l.length): val l=val (l.take k)+4294967296^k*val (l.drop k):=by
 conv=>lhs;rw[<-W4d k l]
 rw[Xck,W0j,W2b h]
def Xa5(a b:Int): Int:=if a<b then -1 else if a>b then 1 else 0
theorem Xjq{l m:List Nat}(hl:Xan l){k x y:Nat}(hk:k<l.length)(hk2:k<m.length)(hx:l[k]?=some x)(hy:m[k]?=some y)(hd:l.drop (k+1)=m.drop (k+1))(h:x<y): val l<val m:=by
 rw[Xbi l (k+1) (by omega),Xbi m (k+1) (by omega),hd,Xac hx,Xac hy]
 have h1:=Xbw (hl.take k)
 rw[W0j,W2b (by omega)] at h1
 have h2:4294967296^k*(x+1)<=4294967296^k*y:=W0p _ h
 rw[W0y] at h2
 omega
theorem Xbq(n:Nat): val (List.replicate n 0)=0:=by
 induction n with
 | zero=>rfl
 | succ n ih=>rw[W4b,val,ih]
theorem Yic{u n:Nat}(h:u*2^n<18446744073709551616)(hn:n<=64): IntKind.u64.wrap ((u:Int)*2^(min (Int.toNat (n:Int)) (IntKind.bits .u64)))=((u*2^n:Nat):Int):=by
 have e:min (Int.toNat (n:Int)) (IntKind.bits .u64)=n:=by
  rw[W7j];exact W2b hn
 rw[e]
 have e2:(u:Int)*2^n=((u*2^n:Nat):Int):=by rw[W2z,W7t];rfl
 rw[e2]
 exact wU ⟨by omega,by omega⟩
theorem Xdg(a b n:Nat)(h:a<2^n): b*2^n|||a=b*2^n+a:=by
 have:=Nat.shiftLeft_add_eq_or_of_lt h b
 rw[Nat.shiftLeft_eq] at this
 exact this.symm
theorem Xds(u n:Nat)(h:n<=32): u*2^n%4294967296=(u%2^(32-n))*2^n:=by
 have e:4294967296=2^(32-n)*2^n:=by rw[<-W0z,show 32-n+n=32 by omega]
 rw[e,Nat.mul_mod_mul_right]
theorem Xbr{l:List Nat}{k x:Nat}(h:l[k]?=some x): val (l.drop k)=x+4294967296*val (l.drop (k+1)):=by
 have hk:k<l.length:=by
  by_cases hh:k<l.length
  . exact hh
  . rw[W2e (by omega)] at h;cases h
 rw[W3i hk,val]
 rw[W0a hk] at h
 injection h with h
 rw[h]
theorem drop_set{l:List Nat}{k d:Nat}(h:k<l.length): (l.set k d).drop k=d::l.drop (k+1):=by
 rw[W3i (by simpa using h)]
 simp[List.drop_set]
def bl(n:Nat): Nat:=if n=0 then 0 else Nat.log2 n+1
theorem Yc8{p:Nat->Prop}(h:∀j:Fin 256,p j.val)(x:Nat)(hx:x<256): p x:=h ⟨x,hx⟩
theorem Xcg{n:Nat}(h:n≠0): 2^(bl n-1)<=n/\n<2^bl n/\0<bl n:=by
 rw[bl,if_neg h]
 exact⟨Nat.log2_self_le h,Nat.lt_log2_self,Nat.succ_pos _⟩
theorem Yn6{n k:Nat}(h1:2^k<=n)(h2:n<2^(k+1)): bl n=k+1:=by
 have h0:n≠0:=by have:=W0u k;omega
 obtain⟨a,b,c⟩:=Xcg h0
 have p1:k<bl n:=(W2w (by decide:1<2)).1 (W1y h1 b)
 have p2:bl n-1<k+1:=(W2w (by decide:1<2)).1 (W1y a h2)
 omega
theorem Xeq{n k:Nat}(h:n/2^k≠0): bl n=bl (n/2^k)+k:=by
 obtain⟨a,b,c⟩:=Xcg h
 have hp:=W0u k
 have e:bl (n/2^k)+k=(bl (n/2^k)-1+k)+1:=by omega
 rw[e]
 apply Yn6
 . rw[W0z]
   exact(W7r hp).1 a
 . rw[show bl (n/2^k)-1+k+1=bl (n/2^k)+k by omega,W0z]
   exact(W2t hp).1 b
theorem Xhl(l:List Nat)(n:Nat)(h:n<=32): val l%2^n=l.getD 0 0%2^n:=by
 cases l with
 | nil=>rfl
 | cons x l =>
  have e:4294967296=2^n*2^(32-n):=by rw[<-W0z,show n+(32-n)=32 by omega]
  simp only[val,List.getD_cons_zero]
  rw[e,W0r,Nat.add_mul_mod_self_left]
theorem Ydv(s y:Nat)(h:s<18446744073709551616): IntKind.u64.wrap (Int.tdiv (s:Int) (y:Int))=((s/y:Nat):Int):=by
 have e:Int.tdiv (s:Int) (y:Int)=((s/y:Nat):Int):=rfl
 rw[e]
 have h2:s/y<18446744073709551616:=W1y (W4h s y) h
 exact wU ⟨W5j _,W7b.2 h2⟩
theorem Xte(s y:Nat): Int.tmod (s:Int) (y:Int)=((s%y:Nat):Int):=rfl
theorem Xyp{n:Nat}(h:n<256): (((UInt8.ofNat n).toNat:Nat):Int)=(n:Int):=by
 rw[UInt8.toNat_ofNat_of_lt' h]
theorem Ykc{U Y d:Nat}(hU:U<4294967296*Y)(hY:0<Y)(h:4294967296<=d): U/Y<d:=by
 have:U/Y<4294967296:=by rw[W2t hY];exact hU
 omega
theorem Ykb{low u2 top vlow next high M d r:Nat}(hlow:low<M)(hM:0<M)(ht:d*high+r=top)(h:r*4294967296+u2<d*next)(hY:0<vlow+M*(next+4294967296*high)):
 (low+M*(u2+4294967296*top))/(vlow+M*(next+4294967296*high))<d:=by
 rw[W2t hY]
 have h1:d*(next+4294967296*high)=d*next+4294967296*(d*high):=by rw[W0y,W4c]
 have h2:u2+4294967296*top+1<=d*(next+4294967296*high):=by rw[h1,<-ht];omega
 have h3:=W0p M h2
 rw[W0y M _ 1,W3z] at h3
 have h4:d*(vlow+M*(next+4294967296*high))=d*vlow+M*(d*(next+4294967296*high)):=by rw[W0y,W4c]
 omega
theorem Ydb{low u2 top vlow next high M d r:Nat}(hM:0<M)(hv:vlow<M)(ht:d*high+r=top)(h:d*next<=r*4294967296+u2)(hd:d<4294967296)(hh:0<high):
 d<=(low+M*(u2+4294967296*top))/(vlow+M*(next+4294967296*high))+1:=by
 generalize hY:vlow+M*(next+4294967296*high)=Y
 generalize hU:low+M*(u2+4294967296*top)=U
 have hYp:4294967296*M<=Y:=by
  rw[<-hY,W0y]
  have:M*(4294967296*1)<=M*(4294967296*high):=W0p _ (W0p _ hh)
  omega
 have h1:d*(next+4294967296*high)=d*next+4294967296*(d*high):=by rw[W0y,W4c]
 have h2:d*(next+4294967296*high)<=u2+4294967296*top:=by rw[h1,<-ht];omega
 have h3:=W0p M h2
 have h4:d*Y=d*vlow+M*(d*(next+4294967296*high)):=by rw[<-hY,W0y,W4c]
 have h5:d*vlow<=d*M:=W0p _ (W2c hv)
 have h6:d*M<4294967296*M:=W3k hd hM
 have h7:d*Y<U+Y:=by omega
 have h8:=W2p U Y
 have h9:=W2d U (show 0<Y by omega)
 apply W1g
 intro hn
 have h10:(U/Y+2)*Y<=d*Y:=W0v _ (by omega)
 rw[W1h,W1f (U/Y)] at h10
 omega
theorem Yd2{U Y d U1 c P:Nat}(hY:0<Y)(h1:U/Y<=d)(h2:d<=U/Y+1)(h:U1+Y*d=U+P*c)(hc:c<=1)(hU1:U1<P)(hU:U<P):
 (c=0->d=U/Y/\U1=U%Y)/\(c=1->d=U/Y+1/\∀U2 e,U2<P->U2+P*e=U1+Y->e<=1->U2=U%Y):=by
 have hdm:=W2p U Y
 have hm:=W2d U hY
 refine⟨λh0=>?_,λh0=>?_⟩
 . subst h0
   have hd:d=U/Y:=by
    apply W1g
    intro hn
    have:d=U/Y+1:=by omega
    rw[this,W0y,W3z] at h
    omega
   rw[hd] at h
   exact⟨hd,by omega⟩
 . subst h0
   have hd:d=U/Y+1:=by
    apply W1g
    intro hn
    have:d=U/Y:=by omega
    rw[this] at h
    omega
   refine⟨hd,λU2 e hU2 he he1=>?_⟩
   rw[hd,W0y,W3z] at h
   rcases W2u e with h0 | h0
   . subst h0;omega
   . have:e=1:=by omega
     subst this;omega
theorem Xff{l:List Nat}{q i x:Nat}(h:q+i<l.length): val (((l.set (q+i) x).drop q).take (i+1))=val ((l.drop q).take i)+4294967296^i*x:=by
 have e:(l.set (q+i) x).drop q=(l.drop q).set i x:=by
  rw[List.drop_set,if_neg (by omega),W3m]
 rw[e,Xbb (by rw[W1n];omega)]
theorem Xb0{l:List Nat}{q i u:Nat}(h:l[q+i]?=some u): val ((l.drop q).take (i+1))=val ((l.drop q).take i)+4294967296^i*u :=
 Xac (by rw[W2f];exact h)
end Go.Num
namespace Go.Vm
open Go
def gw0(w:World): GW:=⟨w,λ_ _=>False,λ_ _ h=>h.elim⟩
def Reads(P:Program)(t:TypeId)(r:D->Prop): Prop:=∀(w:World) {H:Type} {enc:TypeId×Value->H} {spare:Nat->Bool} {held:Bool} {fuel:Nat} {cs:List Value} {x:DataW H×List MemPlace},
 DataW.trod enc P w 0 spare held fuel t cs=some x->∃d,r d/\D.At (gw0 w) d cs
theorem Reads.mono{P:Program}{t:TypeId}{r s:D->Prop}(h:Reads P t r)(hr:∀d,r d->s d): Reads P t s:=λw _ _ _ _ _ _ _ hx=>let ⟨d,h1,h2⟩:=h w hx;⟨d,hr d h1,h2⟩
theorem Xl6{P:Program}{t:TypeId}{k:IntKind}(ht:P.underlying t=some (.int k))(hk:∀n,(Lit.int k n).wf=true->inR k n): Reads P t λd=>∃z,d=.int k z/\(Lit.int k z).wf=true:=λw _ _ _ _ _ _ _ h =>
 let ⟨n,h1,_,h2⟩:=DataW.trod_int ht h
 ⟨_,⟨n,rfl,h2⟩,h1,hk n h2⟩
theorem Ydo{n:Int}(h:(Lit.int .u8 n).wf=true): 0<=n/\n<256:=by
 simp[Lit.wf,IntKind.min,IntKind.max,IntKind.signed,IntKind.bits] at h;omega
theorem Yhi{n:Int}(h:(Lit.int .i8 n).wf=true): -128<=n/\n<128:=by
 simp[Lit.wf,IntKind.min,IntKind.max,IntKind.signed,IntKind.bits] at h;omega
theorem Xqh{P:Program}{t:TypeId}(ht:P.underlying t=some (.int .u8)): Reads P t λd=>∃n:Nat,d=.int .u8 n/\n<256 :=
 (Xl6 ht λn h=>by
  have:=Ydo h
  show IntKind.u8.wrap n=n
  simp[IntKind.wrap,IntKind.bits,IntKind.signed];omega).mono λd ⟨z,e,h⟩=>⟨z.toNat,by rw[e,W2y (Ydo h).1],by have:=Ydo h;omega⟩
theorem Xy9{P:Program}{t:TypeId}(ht:P.underlying t=some (.int .i8)): Reads P t λd=>∃n:Int,d=.int .i8 n/\-128<=n/\n<128 :=
 (Xl6 ht λn h=>by
  have:=Yhi h
  have e:IntKind.i8.wrap n=if n%256>=128 then n%256-256 else n%256:=by simp[IntKind.wrap,IntKind.bits,IntKind.signed]
  show IntKind.i8.wrap n=n
  rw[e];split<;>omega).mono λd ⟨z,e,h⟩=>⟨z,e,Yhi h⟩
theorem Xn0{P:Program}{t e:TypeId}{r:D->Prop}{sz:Nat}(ht:P.underlying t=some (.slice e))(he:Reads P e r)(hs:P.cellsOf e=sz)(h0:0<sz): Reads P t λd=>∃l:List D,d=.sl sz l/\l.length<9223372036854775808/\∀y∈l,r y:=by
 intro w H enc spare held fuel cs x h
 rcases DataW.trod_slice ht h with ⟨h1,_⟩ | ⟨a,len,cap,elems,rest,n,_,h1,_,hb,hl,hm,hlen,hel,_,_⟩
 . exact⟨_,⟨[],rfl,by decide,λy hy=>nomatch hy⟩,none,0,h1,by decide,by decide,.inl rfl⟩
 . have hcap:cap<9223372036854775808:=by
    have:maxLen<9223372036854775808:=by decide
    omega
   have hdat:∀i,i<len->∃cs' y,w.cells? 0 (a.add (i*P.cellsOf e)) (P.cellsOf e)=some cs'/\r y/\D.At (gw0 w) y cs':=λi hi=>by
    have h2:=hel i hi
    rw[W0a (by omega)] at h2
    obtain⟨cs',h3,h4⟩:=Option.bind_eq_some_iff.1 h2
    obtain⟨y,h5,h6⟩:=he w h4
    exact⟨cs',y,h3,h5,h6⟩
   have hlist:∀k,k<=len->∃ys:List D,ys.length=k/\∀i y,ys[i]?=some y->r y/\∃cs',w.cells? 0 (a.add (i*P.cellsOf e)) (P.cellsOf e)=some cs'/\D.At (gw0 w) y cs':=by
    intro k
    induction k with
    | zero=>intro _;exact⟨[],rfl,λi y h=>nomatch h⟩
    | succ k ih =>
     intro hk
     obtain⟨ys,h1,h2⟩:=ih (by omega)
     obtain⟨cs',y,h3,h4,h5⟩:=hdat k (by omega)
     refine⟨ys++[y],by simp[h1],λi z hz=>?_⟩
     by_cases hik:i<k
     . rw[W1b (by omega)] at hz;exact h2 i z hz
     . rw[W0o (by omega)] at hz
       by_cases hie:i=k
       . subst hie
         rw[h1,W2v] at hz
         injection hz with hz
         subst hz
         exact⟨h4,cs',h3,h5⟩
       . rw[W2e (by simp;omega)] at hz;cases hz
   obtain⟨ys,hy1,hy2⟩:=hlist len (W0c _)
   refine⟨_,⟨ys,rfl,by omega,λy hy=>?_⟩,some a,cap,by rw[h1,hy1],by omega,by omega,?_⟩
   . obtain⟨i,hi⟩:=W4r hy
     exact(hy2 i y hi).1
   by_cases hz:len=0
   . exact .inl (W0n (by omega))
   obtain⟨y0,hy0⟩:∃y,ys[0]?=some y:=⟨_,W0a (by omega)⟩
   obtain⟨_,cs0,h3,h4⟩:=hy2 0 y0 hy0
   obtain⟨_,hl0,hc0⟩:=World.cells?_some h3
   have hcell0:=hc0 0 (by omega)
   have e0:(a.add (0*P.cellsOf e)).add 0=a:=by rw[W4x];rfl
   rw[e0] at hcell0
   obtain⟨v0,hv0⟩:∃v,cs0[0]?=some v:=⟨_,W0a (by omega)⟩
   rw[hv0] at hcell0
   have hsp:a.spot=none:=by
    unfold World.cell? at hcell0
    split at hcell0
    . split at hcell0
      . cases hcell0
      . rename_i hs;cases hh:a.spot with
        | none=>rfl
        | some s=>rw[hh] at hs;simp at hs
    . cases hcell0
   obtain⟨b,off,sp⟩:=a
   have hsp':sp=none:=hsp
   subst hsp'
   have add0:∀(b off k:Nat),(⟨b,off,none⟩:Addr).add k=⟨b,off+k,none⟩:=λb off k=>by
    unfold Addr.add;split
    . rename_i h;subst h;rfl
    . rfl
   refine .inr ⟨b,off,rfl,?_⟩
   have row:∀(ys:List D) (k:Nat),(∀i y,ys[i]?=some y->∃cs',w.cells? 0 ((⟨b,off,none⟩:Addr).add ((k+i)*P.cellsOf e)) (P.cellsOf e)=some cs'/\D.At (gw0 w) y cs')->D.Row (gw0 w) b sz (off+k*sz) ys:=by
    intro ys
    induction ys with
    | nil=>intro k _;trivial
    | cons y ys ih =>
     intro k hh
     obtain⟨cs',h5,h6⟩:=hh 0 y rfl
     obtain⟨_,hl1,hc1⟩:=World.cells?_some h5
     refine⟨⟨cs',h6,by rw[<-D.at_len y h6,hl1,hs],λj v hj=>⟨?_,λh=>h⟩⟩,?_⟩
     . have hjl:j<P.cellsOf e:=by
        rw[<-hl1]
        by_cases h:j<cs'.length
        . exact h
        . rw[W2e (by omega)] at hj;cases hj
       have:=hc1 j hjl
       rw[add0,add0,hj,hs,W2o] at this
       exact this
     . have:=ih (k+1) λi y hi=>by
        obtain⟨cs',h5,h6⟩:=hh (i+1) y hi
        exact⟨cs',by rw[show k+1+i=k+(i+1) by omega];exact h5,h6⟩
       rw[W1h,W7l,<-W4p] at this
       exact this
   have:=row ys 0 λi y hi=>by
    rw[W1k];exact(hy2 i y hi).2
   rw[W4x,W2o] at this
   exact this
inductive FieldsRd (P:Program):List Field->Nat->(D->Prop)->Prop where
 | one {f:Field} {o:Nat} {r:D->Prop} (h1:f.offset=o) (h2:Reads P f.type r):FieldsRd P [f] o r
 | cons {f:Field} {fs:List Field} {o n:Nat} {r s:D->Prop} (h1:f.offset=o) (h2:Reads P f.type r) (h3:P.cellsOf f.type=n) (h4:FieldsRd P fs (o+n) s):FieldsRd P (f::fs) o (λd=>∃a c,d=.pr a c/\r a/\s c)
theorem FieldsRd.read{P:Program}{fs:List Field}{o:Nat}{r:D->Prop}(hf:FieldsRd P fs o r){w:World}{H:Type}{enc:TypeId×Value->H}{spare:Nat->Bool}{held:Bool}{n:Nat}{cs:List Value}
 (h:∀f∈fs,∃x,DataW.trod enc P w 0 spare held n f.type ((cs.drop f.offset).take (P.cellsOf f.type))=some x) (hl:∀f∈fs.getLast?,cs.length=f.offset+P.cellsOf f.type):∃d,r d/\D.At (gw0 w) d (cs.drop o):=by
 induction hf with
 | @one f o r h1 h2 =>
  obtain⟨x,hx⟩:=h f (W0w ..)
  have:=hl f rfl
  rw[W0b (by rw[W1n];omega),h1] at hx
  exact h2 w hx
 | @cons f fs o n r s h1 h2 h3 h4 ih =>
  obtain⟨x,hx⟩:=h f (W0w ..)
  rw[h1,h3] at hx
  obtain⟨i,hi,hi'⟩:=h2 w hx
  obtain⟨j,hj,hj'⟩:=ih (λg hg=>h g (W1e _ hg)) λg hg=>hl g (by cases fs with | nil=>cases hg | cons y ys=>rwa[List.getLast?_cons_cons])
  exact⟨.pr i j,⟨i,j,rfl,hi,hj⟩,_,_,by rw[<-W4s,W4d],hi',hj'⟩
theorem Xgr{P:Program}{t:TypeId}{fs:Array Field}{r:D->Prop}(ht:P.underlying t=some (.struct fs))(hf:FieldsRd P fs.toList 0 r)(hs:∀f∈fs.toList.getLast?,P.cellsOf t=f.offset+P.cellsOf f.type): Reads P t λd=>∃a,d=.st a/\r a:=by
 intro w H enc spare held fuel cs x h
 obtain⟨xs,n,_,_,hl,hxl,hx⟩:=DataW.trod_struct ht h
 obtain⟨d,h1,h2⟩:=hf.read (w:=w) (enc:=enc) (spare:=spare) (held:=held) (n:=n) (cs:=cs) (λf hfm=>by
  obtain⟨i,hi⟩:=W4r hfm
  have hi':fs[i]?=some f:=by simpa using hi
  have hil:i<fs.size:=by
   by_cases h:i<fs.size
   . exact h
   . rw[W3w (by omega)] at hi';cases hi'
  exact⟨_,(hx i f hi').trans (W0a (by omega))⟩) (λf hf=>by rw[hl,hs f hf])
 exact⟨.st d,⟨d,rfl,h1⟩,h2⟩
end Go.Vm
namespace Go.Proofs.YtclgppjdhndgiaaGreatDoor
open Go Go.Vm
def Ypx: List (Nat×TI):=[(2,⟨.int .i64 0,.bool false,0,0⟩),(3,⟨.int .i64 0,.bool false,0,0⟩),(4,⟨.bool false,.bool false,0,0⟩),(5,⟨.int .u8 0,.bool false,0,0⟩),(9,⟨.str [],.bool false,0,0⟩),(21,⟨.int .i32 0,.bool false,0,0⟩),(22,⟨.sl 8 [],.st (.pr (.bool false) (.pr (.bool false) (.pr (.st (.pr (.int .i8 0) (.int .i8 0))) (.pr (.st (.pr (.int .i8 0) (.int .i8 0))) (.pr (.int .u8 0) (.int .u8 0)))))),8,0⟩),(24,⟨.st (.pr (.sl 8 []) (.bool false)),.bool false,0,0⟩),(25,⟨.sl 14 [],.st (.pr (.bool false) (.pr (.st (.pr (.st (.pr (.sl 1 []) (.sl 4 []))) (.st (.pr (.sl 1 []) (.sl 4 []))))) (.pr (.st (.pr (.st (.pr (.sl 1 []) (.sl 4 []))) (.st (.pr (.sl 1 []) (.sl 4 []))))) (.pr (.st (.pr (.st (.pr (.sl 1 []) (.sl 4 []))) (.st (.pr (.sl 1 []) (.sl 4 []))))) (.bool false))))),304,0⟩),(32,⟨.raw (.pointer none),.bool false,0,0⟩),(33,⟨.int .i64 0,.bool false,0,0⟩),(35,⟨.st (.int .i64 0),.bool false,0,0⟩),(36,⟨.sl 1 [],.sl 4 [],24,0⟩),(37,⟨.sl 4 [],.st (.pr (.st (.pr (.bool false) (.sl 1 []))) (.st (.pr (.bool false) (.sl 1 [])))),64,0⟩),(39,⟨.st (.pr (.sl 1 []) (.sl 4 [])),.bool false,0,0⟩),(41,⟨.st (.pr (.st (.pr (.sl 1 []) (.sl 4 []))) (.st (.pr (.sl 1 []) (.sl 4 [])))),.bool false,0,0⟩),(43,⟨.st (.pr (.bool false) (.pr (.st (.pr (.st (.pr (.sl 1 []) (.sl 4 []))) (.st (.pr (.sl 1 []) (.sl 4 []))))) (.pr (.st (.pr (.st (.pr (.sl 1 []) (.sl 4 []))) (.st (.pr (.sl 1 []) (.sl 4 []))))) (.pr (.st (.pr (.st (.pr (.sl 1 []) (.sl 4 []))) (.st (.pr (.sl 1 []) (.sl 4 []))))) (.bool false))))),.bool false,0,0⟩),(49,⟨.sl 1 [],.int .u32 0,4,0⟩),(51,⟨.st (.pr (.bool false) (.sl 1 [])),.bool false,0,0⟩),(53,⟨.st (.pr (.st (.pr (.bool false) (.sl 1 []))) (.st (.pr (.bool false) (.sl 1 [])))),.bool false,0,0⟩)]
def Ypw: List (Nat×TI):=[(55,⟨.st (.pr (.st (.pr (.st (.pr (.bool false) (.sl 1 []))) (.st (.pr (.bool false) (.sl 1 []))))) (.pr (.st (.pr (.st (.pr (.bool false) (.sl 1 []))) (.st (.pr (.bool false) (.sl 1 []))))) (.pr (.st (.pr (.st (.pr (.bool false) (.sl 1 []))) (.st (.pr (.bool false) (.sl 1 []))))) (.st (.pr (.st (.pr (.bool false) (.sl 1 []))) (.st (.pr (.bool false) (.sl 1 [])))))))),.bool false,0,0⟩),(60,⟨.st (.pr (.st (.pr (.st (.pr (.bool false) (.sl 1 []))) (.st (.pr (.bool false) (.sl 1 []))))) (.pr (.st (.pr (.st (.pr (.bool false) (.sl 1 []))) (.st (.pr (.bool false) (.sl 1 []))))) (.pr (.st (.pr (.st (.pr (.bool false) (.sl 1 []))) (.st (.pr (.bool false) (.sl 1 []))))) (.st (.pr (.st (.pr (.bool false) (.sl 1 []))) (.st (.pr (.bool false) (.sl 1 [])))))))),.bool false,0,0⟩),(63,⟨.sl 8 [],.st (.pr (.st (.pr (.st (.pr (.bool false) (.sl 1 []))) (.st (.pr (.bool false) (.sl 1 []))))) (.st (.pr (.st (.pr (.bool false) (.sl 1 []))) (.st (.pr (.bool false) (.sl 1 [])))))),128,0⟩),(66,⟨.sl 4 [],.st (.pr (.str []) (.pr (.bool false) (.st (.pr (.sl 1 []) (.sl 4 []))))),72,0⟩),(69,⟨.sl 1 [],.str [],16,0⟩),(72,⟨.st (.pr (.str []) (.pr (.bool false) (.st (.pr (.sl 1 []) (.sl 4 []))))),.bool false,0,0⟩),(74,⟨.sl 3 [],.st (.pr (.str []) (.st (.pr (.sl 1 []) (.sl 4 [])))),64,0⟩),(79,⟨.st (.pr (.str []) (.st (.pr (.sl 1 []) (.sl 4 [])))),.bool false,0,0⟩),(82,⟨.int .i8 0,.bool false,0,0⟩),(83,⟨.st (.pr (.int .i8 0) (.int .i8 0)),.int .i8 0,1,2⟩),(85,⟨.st (.pr (.bool false) (.pr (.bool false) (.pr (.st (.pr (.int .i8 0) (.int .i8 0))) (.pr (.st (.pr (.int .i8 0) (.int .i8 0))) (.pr (.int .u8 0) (.int .u8 0)))))),.bool false,0,0⟩),(92,⟨.st (.pr (.st (.pr (.bool false) (.sl 1 []))) (.pr (.st (.pr (.bool false) (.sl 1 []))) (.pr (.st (.pr (.bool false) (.sl 1 []))) (.st (.pr (.bool false) (.sl 1 [])))))),.st (.pr (.bool false) (.sl 1 [])),32,4⟩),(93,⟨.sl 4 [],.st (.pr (.st (.pr (.sl 1 []) (.sl 4 []))) (.st (.pr (.sl 1 []) (.sl 4 [])))),96,0⟩),(97,⟨.sl 2 [],.st (.pr (.sl 1 []) (.sl 4 [])),48,0⟩),(104,⟨.raw .nilFunc,.bool false,0,0⟩),(105,⟨.raw .nilFunc,.bool false,0,0⟩),(106,⟨.raw (.pointer none),.bool false,0,0⟩),(108,⟨.st (.pr (.sl 1 []) (.pr (.int .i64 0) (.sl 8 []))),.bool false,0,0⟩),(125,⟨.raw .nilFunc,.bool false,0,0⟩),(139,⟨.st (.pr (.st (.pr (.st (.pr (.bool false) (.sl 1 []))) (.st (.pr (.bool false) (.sl 1 []))))) (.st (.pr (.st (.pr (.bool false) (.sl 1 []))) (.st (.pr (.bool false) (.sl 1 [])))))),.bool false,0,0⟩)]
def Ypv: List (Nat×TI):=[(149,⟨.st (.pr (.st (.pr (.st (.pr (.bool false) (.sl 1 []))) (.st (.pr (.bool false) (.sl 1 []))))) (.st (.pr (.st (.pr (.bool false) (.sl 1 []))) (.st (.pr (.bool false) (.sl 1 [])))))),.bool false,0,0⟩),(158,⟨.raw (.pointer none),.bool false,0,0⟩),(159,⟨.sl 1 [],.int .u8 0,1,0⟩),(161,⟨.st (.pr (.raw (.pointer none)) (.sl 1 [])),.bool false,0,0⟩),(178,⟨.int .u32 0,.bool false,0,0⟩),(180,⟨.int .u64 0,.bool false,0,0⟩),(183,⟨.st (.pr (.st (.pr (.st (.pr (.sl 1 []) (.sl 4 []))) (.st (.pr (.sl 1 []) (.sl 4 []))))) (.st (.pr (.sl 1 []) (.sl 4 [])))),.bool false,0,0⟩),(192,⟨.st (.pr (.st (.pr (.st (.pr (.sl 1 []) (.sl 4 []))) (.st (.pr (.sl 1 []) (.sl 4 []))))) (.int .i64 0)),.bool false,0,0⟩),(204,⟨.raw .nilFunc,.bool false,0,0⟩),(218,⟨.st (.pr (.int .i64 0) (.pr (.int .i64 0) (.int .i64 0))),.int .i64 0,8,3⟩),(219,⟨.st (.pr (.st (.pr (.int .i64 0) (.pr (.int .i64 0) (.int .i64 0)))) (.pr (.st (.pr (.int .i64 0) (.pr (.int .i64 0) (.int .i64 0)))) (.pr (.st (.pr (.int .i64 0) (.pr (.int .i64 0) (.int .i64 0)))) (.pr (.st (.pr (.int .i64 0) (.pr (.int .i64 0) (.int .i64 0)))) (.pr (.st (.pr (.int .i64 0) (.pr (.int .i64 0) (.int .i64 0)))) (.pr (.st (.pr (.int .i64 0) (.pr (.int .i64 0) (.int .i64 0)))) (.pr (.st (.pr (.int .i64 0) (.pr (.int .i64 0) (.int .i64 0)))) (.pr (.st (.pr (.int .i64 0) (.pr (.int .i64 0) (.int .i64 0)))) (.pr (.st (.pr (.int .i64 0) (.pr (.int .i64 0) (.int .i64 0)))) (.pr (.st (.pr (.int .i64 0) (.pr (.int .i64 0) (.int .i64 0)))) (.pr (.st (.pr (.int .i64 0) (.pr (.int .i64 0) (.int .i64 0)))) (.pr (.st (.pr (.int .i64 0) (.pr (.int .i64 0) (.int .i64 0)))) (.pr (.st (.pr (.int .i64 0) (.pr (.int .i64 0) (.int .i64 0)))) (.pr (.st (.pr (.int .i64 0) (.pr (.int .i64 0) (.int .i64 0)))) (.pr (.st (.pr (.int .i64 0) (.pr (.int .i64 0) (.int .i64 0)))) (.st (.pr (.int .i64 0) (.pr (.int .i64 0) (.int .i64 0))))))))))))))))))),.st (.pr (.int .i64 0) (.pr (.int .i64 0) (.int .i64 0))),24,16⟩),(223,⟨.int .u64 0,.bool false,0,0⟩),(233,⟨.raw (.pointer none),.bool false,0,0⟩),(245,⟨.raw (.pointer none),.bool false,0,0⟩),(247,⟨.st (.int .i64 0),.bool false,0,0⟩),(249,⟨.raw .nilFunc,.bool false,0,0⟩),(264,⟨.st (chD (.bool false) 255),.bool false,1,256⟩),(268,⟨.raw (.pointer none),.bool false,0,0⟩),(291,⟨.raw (.pointer none),.bool false,0,0⟩),(294,⟨.st (.pr (.sl 1 []) (.sl 1 [])),.bool false,0,0⟩)]
def Ypu: List (Nat×TI):=[(306,⟨.raw .nilFunc,.bool false,0,0⟩),(316,⟨.st (.pr (.sl 1 []) (.sl 1 [])),.bool false,0,0⟩),(342,⟨.st (.pr (.int .u8 0) (.pr (.int .u8 0) (.pr (.int .u8 0) (.pr (.int .u8 0) (.pr (.int .u8 0) (.pr (.int .u8 0) (.pr (.int .u8 0) (.pr (.int .u8 0) (.pr (.int .u8 0) (.pr (.int .u8 0) (.pr (.int .u8 0) (.pr (.int .u8 0) (.pr (.int .u8 0) (.pr (.int .u8 0) (.pr (.int .u8 0) (.pr (.int .u8 0) (.pr (.int .u8 0) (.pr (.int .u8 0) (.pr (.int .u8 0) (.pr (.int .u8 0) (.pr (.int .u8 0) (.pr (.int .u8 0) (.pr (.int .u8 0) (.int .u8 0)))))))))))))))))))))))),.int .u8 0,1,24⟩),(348,⟨.raw .nilFunc,.bool false,0,0⟩),(352,⟨.st (chD (.int .u8 0) 255),.int .u8 0,1,256⟩),(354,⟨.st (.pr (.int .u8 0) (.int .u8 0)),.bool false,0,0⟩),(355,⟨.st (.pr (.st (.pr (.int .u8 0) (.int .u8 0))) (.pr (.st (.pr (.int .u8 0) (.int .u8 0))) (.pr (.st (.pr (.int .u8 0) (.int .u8 0))) (.pr (.st (.pr (.int .u8 0) (.int .u8 0))) (.pr (.st (.pr (.int .u8 0) (.int .u8 0))) (.pr (.st (.pr (.int .u8 0) (.int .u8 0))) (.pr (.st (.pr (.int .u8 0) (.int .u8 0))) (.pr (.st (.pr (.int .u8 0) (.int .u8 0))) (.pr (.st (.pr (.int .u8 0) (.int .u8 0))) (.pr (.st (.pr (.int .u8 0) (.int .u8 0))) (.pr (.st (.pr (.int .u8 0) (.int .u8 0))) (.pr (.st (.pr (.int .u8 0) (.int .u8 0))) (.pr (.st (.pr (.int .u8 0) (.int .u8 0))) (.pr (.st (.pr (.int .u8 0) (.int .u8 0))) (.pr (.st (.pr (.int .u8 0) (.int .u8 0))) (.st (.pr (.int .u8 0) (.int .u8 0)))))))))))))))))),.st (.pr (.int .u8 0) (.int .u8 0)),2,16⟩),(367,⟨.st (.pr (.int .u64 0) (.pr (.int .u64 0) (.pr (.int .u64 0) (.pr (.int .u64 0) (.pr (.int .u64 0) (.pr (.int .u64 0) (.pr (.int .u64 0) (.pr (.int .u64 0) (.pr (.int .u64 0) (.pr (.int .u64 0) (.pr (.int .u64 0) (.pr (.int .u64 0) (.pr (.int .u64 0) (.pr (.int .u64 0) (.pr (.int .u64 0) (.pr (.int .u64 0) (.pr (.int .u64 0) (.pr (.int .u64 0) (.pr (.int .u64 0) (.int .u64 0)))))))))))))))))))),.int .u64 0,8,20⟩),(368,⟨.st (chD (.int .u8 0) 64),.int .u8 0,1,65⟩),(385,⟨.st (chD (.int .u8 0) 31),.int .u8 0,1,32⟩),(386,⟨.st (chD (.int .u8 0) 63),.int .u8 0,1,64⟩)]
def Ypt: List (Nat×TI):=Ypx++Ypw++Ypv++Ypu
theorem Xtl: (Ypt.all λx=>tyB Tryz.prog x.1 x.2)=true:=by kernel_rfl
instance:Mx Tryz.prog:=⟨Checked.mixed Tryz.checked⟩
instance:Gb Tryz.prog:=⟨λW=>∀i,i<20->Fr W 3 i (.int .u64 ((10^i:Nat):Int)),λ_ _ l h i hi=>l _ _ _ (h i hi)⟩
instance:Tab Tryz.prog:=⟨Vm.look Ypt,λT ti h=>(Ybx Xtl T ti h).1⟩
instance:Npr Tryz.prog:=⟨λT ti h=>(Ybx Xtl T ti h).2⟩
end Go.Proofs.YtclgppjdhndgiaaGreatDoor
namespace Go.Vm
open Go Go.ChangeShapes Go.WideShapes Go.ChangeAt Go.RowKit
def Arg(P:Program)(t:TypeId)(r:D->Prop): Prop:=∀(W:World) (base:Nat) {H:Type} {enc:TypeId×Value->H} {spare:Nat->Bool} {held:Bool} {v:Value} {d:DataW H} {p:List MemPlace},
 Value.okWide P W .any base t v->DataW.Trod enc P W 0 spare held t v d p->∃x,r x/\AV.V (gw0 W) θe (.d x) v
theorem Xst{P:Program}{t:TypeId}{fs:Array Field}{r:D->Prop}(ht:P.underlying t=some (.struct fs))(hr:Reads P t r)(hg:∀x,r x->x.ag=true): Arg P t r:=λW base _ _ _ _ v d p hok h=>by
 unfold Value.okWide at hok
 rw[ht] at hok
 obtain⟨cs,rfl,_⟩:=hok
 obtain⟨fuel,h⟩:=h
 obtain⟨x,h1,h2⟩:=hr W h
 exact⟨x,h1,cs.toList,h2,by rw[show AV.ag (.d x)=true from hg x h1];simp[mkv]⟩
inductive Args (P:Program):List TypeId->(List D->Prop)->Prop where
 | nil:Args P [] (·=[])
 | cons {t:TypeId} {ts:List TypeId} {r:D->Prop} {R:List D->Prop} (h:Arg P t r) (hc:P.readableRec t=true) (hl:t<P.types.size) (k:Args P ts R):Args P (t::ts) λds=>∃x xs,ds=x::xs/\r x/\R xs
theorem Args.read{P:Program}{ts:List TypeId}{R:List D->Prop}(ha:Args P ts R){W:World}{base:Nat}{H:Type}{enc:TypeId×Value->H}{spare:Nat->Bool}{held:Bool}: ∀ {vs:List Value} {ds:List (DataW H)} {p:List MemPlace},
 (∀(j:Nat) t v,ts[j]?=some t->vs[j]?=some v->Value.okWide P W .any base t v)->DataW.TrodAll enc P W 0 spare held ts vs ds p->∃xs,R xs/\Xi5 (gw0 W) θe (xs.map .d) vs:=by
 induction ha with
 | nil=>intro vs ds p _ h;obtain⟨rfl,_⟩:=trodAll_nil h;exact⟨[],rfl,trivial⟩
 | cons h hc hl k ih =>
  intro vs ds p hv ht
  obtain⟨v,vs,d,ds',p,q,rfl,rfl,rfl,hd,hr⟩:=trodAll_cons ht
  obtain⟨x,h1,h2⟩:=h W base (hv 0 _ v rfl rfl) hd
  obtain⟨xs,h3,h4⟩:=ih (λj t v h5 h6=>hv (j+1) t v h5 h6) hr
  exact⟨x::xs,⟨x,xs,rfl,h1,h3⟩,h2,h4⟩
theorem Args.stay{P:Program}(hP:laidOutB P=true){ts:List TypeId}{R:List D->Prop}(ha:Args P ts R){W W':World}{H:Type}{enc:TypeId×Value->H}{spare':Nat->Bool}(hb:Below W.heap.size W W'): ∀ {vs:List Value} {ds:List (DataW H)} {p:List MemPlace},
 (∀x∈p,x.block<W.heap.size)->(∀x∈p,spare' x.block=true)->DataW.TrodAll enc P W 0 (λ_=>true) true ts vs ds p->DataW.TrodAll enc P W' 0 spare' true ts vs ds p:=by
 induction ha with
 | nil=>intro vs ds p _ _ h;obtain⟨rfl,rfl,rfl⟩:=trodAll_nil h;rfl
 | cons h hc hl k ih =>
  intro vs ds p h1 h2 ht
  obtain⟨v,vs,d,ds',p,q,rfl,rfl,rfl,hd,hr⟩:=trodAll_cons ht
  exact⟨p,q,WideElems.Trod_stays hP hc hl hd (λx hx=>hb.same (h1 x (by simp[hx]))) (λx hx=>h2 x (by simp[hx])),ih (λx hx=>h1 x (by simp[hx])) (λx hx=>h2 x (by simp[hx])) hr,rfl⟩
theorem Xkv{H:Type}{enc:TypeId×Value->H}{P:Program}{f:Func}{s:ChangeSpec}{Xcx fresh handsOn again:Bool}{W W':World}{args:Array Value}{v:Value}{ds gs:List (DataW H)}{before pa pv:List MemPlace}
 (hW:DataW.Whole enc P f.params.toList s.vars Xcx W args.toList ds gs before)
 (hres:∀(b:Nat) (sp:Nat->Bool) (hd:Bool),DataW.TrodAll enc P W' b sp hd f.resultTypes.toList (v.resultList f.resultTypes.size) (s.fn H (ds++gs)).results [])
 (hargs:∀sp:Nat->Bool,(∀p∈before,sp p.block=true)->DataW.TrodAll enc P W' 0 sp true f.params.toList args.toList (s.fn H (ds++gs)).args pa)
 (hvars:∀sp:Nat->Bool,(∀p∈before,sp p.block=true)->DataW.TrodVars enc P W' sp s.vars (s.fn H (ds++gs)).vars pv)
 (hps:before=pa++pv) (hb:Below W.heap.size W W')
 (hok:∀(j:Nat) (t:TypeId) (r:Value),f.resultTypes[j]?=some t->(v.resultList f.resultTypes.size)[j]?=some r->Value.okWide P W' .any 0 t r) :
 s.post enc P f Xcx fresh handsOn again W args v W':=by
 have hlt:=hW.lt
 have hold:∀p∈before,(λb=>decide (b<W.heap.size)) p.block=true:=λp hp=>by simpa using hlt p hp
 refine⟨ds,gs,before,[],pa,pv,hW,hres _ _ _,hargs _ hold,hvars _ hold,World.keptBut_mono (λp hp=>⟨hp,?_⟩) (hb.frame (·∈before)),λ_=>?_⟩
 . rw[hps,W2j] at hp
   exact Or.inr hp
 . obtain⟨_,_,_,_,_,hz,hn⟩:=hW
   refine⟨hok,_,_,([]++pa)++pv,⟨[]++pa,pv,trodAll_append (hargs _ (λ_ _=>rfl)) (hres _ _ _),hvars _ (λ_ _=>rfl),rfl,?_,?_⟩,?_⟩
   . intro b off hp
     have hp':MemPlace.cell b off∈before:=by rw[hps];simpa using hp
     rw[hb.frozen (hlt _ hp')]
     exact hz b off hp'
   . intro ha
     have:=hn ha
     rw[hps] at this
     simpa using this
   . intro p hp _
     rw[hps]
     simpa using hp
theorem Yp8{P:Program}[gb:Gb P](hP:laidOutB P=true){tB:TypeId}(hB:P.underlying tB=some .bool){f:FuncId}{fn:Func}{s:ChangeSpec}{H:Type}{enc:TypeId×Value->H}{R:List D->Prop}(hp:Args P fn.params.toList R)(hr:fn.resultTypes=#[tB])(hv0:s.vars=[])
 (hs:∀ds:List (DataW H),ds.length=fn.params.size->s.fn H ds={ results:=[.lit (.bool true)],args:=ds })
 (law:∀xs,R xs->C P f (xs.map .d) (·=.b true))
 (W:World) (base:Nat) (args:Array Value) (ds gs:List (DataW H)) (before:List MemPlace)
 (hval:∀(j:Nat) t v,fn.params[j]?=some t->args[j]?=some v->Value.okWide P W .any base t v)
 (hW:DataW.Whole enc P fn.params.toList s.vars false W args.toList ds gs before) (hgb:gb.g (gw0 W)) :
 Calls P f args W λe W'=>∃v,e=.returned v/\s.post enc P fn false true false false W args v W':=by
 have hW':=hW
 have hlt:=hW.lt
 rw[hv0] at hW
 obtain⟨p,q,hA,hV,rfl,hfz,hnd⟩:=hW
 obtain⟨rfl,rfl⟩:=trodVars_none hV
 obtain⟨xs,h1,h2⟩:=hp.read (λj t v ht hv=>hval j t v (by simpa using ht) (by simpa using hv)) hA
 have hlen:ds.length=fn.params.size:=by
  have:∀ {sp:Nat->Bool} {hd:Bool} {ts:List TypeId} {vs:List Value} {ds:List (DataW H)} {p:List MemPlace},DataW.TrodAll enc P W 0 sp hd ts vs ds p->ds.length=ts.length:=by
   intro sp hd ts
   induction ts with
   | nil=>intro vs ds p h;obtain⟨_,rfl,_⟩:=trodAll_nil h;rfl
   | cons t ts ih=>intro vs ds p h;obtain⟨_,_,_,_,_,_,_,rfl,_,_,h⟩:=trodAll_cons h;simp[ih h]
  rw[this hA];simp
 have hfn:s.fn H (ds++[])={ results:=[.lit (.bool true)],args:=ds }:=by rw[W3g];exact hs ds hlen
 have hc:=(law xs h1).2 (gw0 W) args.toList hgb h2
 rw[show args.toList.toArray=args by simp] at hc
 refine hc.mono ?_
 rintro e w' ⟨W1,v1,u,rfl,rfl,hF,hv,_,rfl⟩
 have hb:Below W.heap.size W W1.w:=⟨hF.os,hF.tape,hF.out,hF.size,λk hk=>hF.same k hk id⟩
 have hu:u=.bool true:=by
  obtain⟨cs,h3,h4⟩:=hv
  have h3:cs=[.bool true]:=h3
  rw[h4,h3];rfl
 subst hu
 refine⟨_,rfl,Xkv (pa:=p) (pv:=[]) hW' (λ_ _ _=>?_) (λsp hsp=>?_) (λ_ _=>?_) (by simp) hb (ok_one hr rfl (okWide_bool_mk hB _))⟩
 . rw[hr,hfn]
   exact trodAll_mk1 (shut_bool hB _)
 . rw[hfn]
   exact hp.stay hP hb (λx hx=>hlt x (by simpa using hx)) (λx hx=>hsp x (by simpa using hx)) hA
 . rw[hv0,hfn];rfl
theorem Yac{P:Program}{f:FuncId}{fn:Func}{s:ChangeSpec}{c:OpenClaim}
 (h1:(c.wf (OpenSpec.ofChange s)&&laidOutB P&&mapsRowed P)=true)
 (h2:(fn.params.all (P.readableRec ·)&&namedTie P c.named s.vars&&(c.stops == [])&&(P.stops == [])&&(c.knobs == [])&&(P.stopKnobs == []))=true)
 (h3:(c.inPlace==P.inPlace f)=true) (h4:(c.unfollowed==P.unfollowed f)=true) (h5:(c.recurses==P.recurses f)=true) (h6:(c.named==P.varsNamed f)=true)
 (h7:((c.maps==(fn.params.toList++s.plain.varTypes P).any (P.mapsRec ·))&&(c.ifaces==(fn.params.toList++s.plain.varTypes P).any (P.ifacesRec ·))&&(c.mapsOut==P.mapsAmong fn.resultTypes.toList) &&
  (c.loops==(fn.params.toList++s.plain.varTypes P).any (P.loopsFrom ·))&&(c.wideKeys==(fn.params.toList++s.plain.varTypes P++fn.resultTypes.toList).any (P.wideKeysFrom ·)))=true)
 (h8:(s.vars.all (P.varReadable ·)&&fn.resultTypes.all (λt=>P.readableRec t&&decide (t<P.types.size))&&(c.ifacesOut==fn.resultTypes.toList.any (P.ifacesRec ·))&&(c.loopsOut==fn.resultTypes.toList.any (P.loopsFrom ·))&&(c.plainKeys==P.plainKeys)&&c.shortTexts.isNone&&P.stopsHeard&&P.mayEnter)=true)
 (h9:((c.lifted==P.liftsFinal)&&(P.make==some c.make)&&(c.kinds==(if c.domain.isEmpty then [] else fn.params.toList.map λt=>match P.underlying t with | some (.int k)=>some k | _=>none))&&(c.pinned==c.pinnedBy))=true)
 (h10:((c.veiled==(fn.params.toList++s.plain.varTypes P++fn.resultTypes.toList).any (P.veiledRec ·))&&c.veiledFits P fn.params.toList (fn.params.toList++s.plain.varTypes P++fn.resultTypes.toList))=true):joinedFacts P f fn s c=true:=by
 unfold joinedFacts
 rw[W0f] at h10
 simp only[W0f] at h1 h2 h7 h8 h9 |-
 exact⟨⟨⟨⟨⟨⟨⟨⟨⟨⟨⟨⟨⟨⟨⟨⟨⟨⟨⟨⟨⟨⟨⟨⟨⟨⟨⟨⟨⟨⟨⟨h1.1.1,h1.1.2⟩,h1.2⟩,h2.1.1.1.1.1⟩,h2.1.1.1.1.2⟩,h2.1.1.1.2⟩,h2.1.1.2⟩,h2.1.2⟩,h2.2⟩,h3⟩,h4⟩,h5⟩,h6⟩,h7.1.1.1.1⟩,h7.1.1.1.2⟩,h7.1.1.2⟩,h7.1.2⟩,h7.2⟩,h8.1.1.1.1.1.1.1⟩,h8.1.1.1.1.1.1.2⟩,h8.1.1.1.1.1.2⟩,h8.1.1.1.1.2⟩,h8.1.1.1.2⟩,h8.1.1.2⟩,h8.1.2⟩,h8.2⟩,h9.1.1.1⟩,h9.1.1.2⟩,h9.1.2⟩,h9.2⟩,h10.1⟩,h10.2⟩
end Go.Vm
namespace Go.Proofs.YtclgppjdhndgiaaGreatDoor
open Go Go.Vm Go.Num
theorem own: ownKnob Tryz.prog.godebug=none:=by kernel_rfl
theorem Yfc: laidOutB Tryz.prog=true:=by kernel_rfl
end Go.Proofs.YtclgppjdhndgiaaGreatDoor
namespace Go.Vm
open Go
section
section
variable{c:Cx}{s:St}
noncomputable def nxT(tb:Nat->Option TI)(n:Nat)(id:Option Nat)(s:St): Option (List (Nat×Bool)×Code×List Kt×Env×Hpl):=match (match id with
 | some id=>runT tb n id 1000 s
 | none=>runN tb n 1000 s) with
 | .j G (.c x::K) E H=>some (G,x,K,E,H)
 | _=>none
def AtJ{α:Type}(E':α->Env)(H':α->Hpl)(I:α->Prop)(s:S): Prop:=∃x,s=sem (E' x) (H' x)/\I x
theorem Cu{α:Type}(id:Option Nat)(E':α->Env)(H':α->Hpl)(I:α->Prop){G:List (Nat×Bool)}{x:Code}{K:List Kt}{E:Env}{H:Hpl}(h:nxT c.tb c.n id s=some (G,x,K,E,H))
 (k1:StP c (.j G (.c x::.l (AtJ E' H' I)::K) E H)) (k2:∀y,I y->StP c (.j [] K (E' y) (H' y))):StP c s:=by
 have key:StP c (.j G (.c x::K) E H):=J.cut (AtJ E' H' I) k1 (λs hs=>by obtain⟨y,rfl,hy⟩:=hs;exact k2 y hy)
 unfold nxT at h
 cases id with
 | none =>
  simp only at h
  split at h<;>cases h
  rename_i hr
  exact go 1000 hr key
 | some id =>
  simp only at h
  split at h<;>cases h
  rename_i hr
  exact Xgc 1000 (by rw[hr];exact key)
theorem Jn{α:Type}{E':α->Env}{H':α->Hpl}{I:α->Prop}{K:List Kt}{E:Env}{H:Hpl}(x:α)(r:List (Nat×Nat))(h:nxB c.tb c.n s=some (AtJ E' H' I,K,E,H))(hI:I x)(hf:Ymf r E (E' x) H (H' x):=by exact⟨rfl,rfl,rfl,rfl,rfl⟩): StP c s:=by
 unfold nxB at h
 split at h<;>cases h
 rename_i hr
 exact go 1000 hr (Yno hf (J.at' ⟨x,rfl,hI⟩))
end
end
section
def Xof(θ:Loc)(H0:Hpl)(b:Nat): Prop:=∃o x,look H0 o=some x/\x.live=true/\(θ o).1=some b
def okH(H0 H':Hpl): Bool:=(H0.all λx=>Xb5 H' x.1)&&H'.all λx=>Xb5 H0 x.1||Nat.beq x.1 1000000
def Ymd(W0:GW)(θ0:Loc)(H0:Hpl)(Post:AV->Hpl->Prop)(e:Ending)(w':World): Prop :=
 ∃W' θ' v u H',e=.returned u/\W'.w=w'/\Fm W0 W' (Xof θ0 H0)/\Obs W' θ' (λb=>W0.size<=b\/Xof θ0 H0 b) (look H')/\AV.V W' θ' v u/\(∀i,v.ids i->∃y,look H' i=some y)/\(∀i y,look H0 i=some y->θ' i=θ0 i)/\okH H0 H'=true/\Post v H'
def CW(P:Program)[Gb P](f:FuncId)(args:List AV)(H0:Hpl)(Post:AV->Hpl->Prop): Prop:=Yof P f/\∀W θ vs,Gb.g P W->Obs W θ (λ_=>True) (look H0)->Xi5 W θ args vs->Calls P f vs.toArray W.w (Ymd W θ H0 Post)
theorem Yl4{α:Type _}{H:List (Nat×α)}{i:Nat}: Xb5 H i=true↔∃y,look H i=some y:=by
 unfold Xb5;split
 . rename_i y hy;simp[hy]
 . rename_i hy;simp[hy]
theorem Xbl{α:Type _}{H:List (Nat×α)}{i:Nat}(h:Xb5 H i=false): look H i=none:=by
 unfold Xb5 at h;split at h<;>first | assumption | cases h
theorem Xxv{W:GW}{θ:Loc}: ∀ {asx:List AV} {vs:List Value} {i t:Nat} {v:AV},Xi5 W θ asx vs->Ya4 i asx t=some v->i<=t/\∃u,vs[t-i]?=some u/\AV.V W θ v u
 | [],[],i,t,v,_,h=>by simp[Ya4] at h
 | a::asx,u::vs,i,t,v,ha,h=>by
  rcases Xae h with ⟨e1,e2⟩ | ⟨e1,e2⟩
  . subst e1;subst e2;exact⟨W0c _,u,by simp,ha.1⟩
  . obtain⟨h1,w,h2,h3⟩:=Xxv ha.2 e2
    exact⟨by omega,w,by rw[show t-i=(t-(i+1))+1 by omega];simpa using h2,h3⟩
 | [],_::_,_,_,_,h,_=>h.elim
 | _::_,[],_,_,_,h,_=>h.elim
abbrev cxW(P:Program)(gb:Gb P)(t:Tab P)(m:Mx P)(hpr:∀T ti,t.tb T=some ti->∀a c,ti.z≠.pr a c)(n:Nat)(hn:n<=1000000)(fn:Func)(W:GW)(θ:Loc)(H0:Hpl)(Post:AV->Hpl->Prop)(hg:gb.g W): Cx:=⟨P,gb,t.tb,λT ti h=>⟨t.ok T ti h,hpr T ti h⟩,m,n,hn,W,Xof θ H0,θ,bodyPost P fn (Ymd W θ H0 Post),hg⟩
class WkW (c:Cx) (fn:outParam Func) (H0:outParam Hpl) (Post:outParam (AV->Hpl->Prop)):Prop where
 x:c.X=Xof c.θ0 H0
 f:c.fin=bodyPost c.P fn (Ymd c.W0 c.θ0 H0 Post)
instance {P gb t m hpr n hn fn W θ H0 Post hg}:WkW (cxW P gb t m hpr n hn fn W θ H0 Post hg) fn H0 Post:=⟨rfl,rfl⟩
theorem EnW {P : Program} [gb : Gb P] [t : Tab P] [hp : Npr P] [m : Mx P] {f n : Nat} {fn : Func} {x : Code} {args : List AV} {H0 : Hpl} {Post : AV → Hpl → Prop} (hf : P.funcs[f]? = some fn) (h : ∀ W θ hg hn, StP (cxW P gb t m hp.h n hn fn W θ H0 Post hg) (.j [] [.c x] (Yhg 0 args) H0)) (hname : (fn.name == "runtime.NumGoroutine") = false := by exact rfl) (hb : fn.body = some x := by exact rfl)
 (hN:fn.ntmps=n:=by exact rfl) (hl:(Nat.ble args.length n&&Nat.ble n 1000000&&Xnb (Yhg 0 args) H0)=true:=by exact rfl):CW P f args H0 Post:=by
 refine⟨⟨fn,hf,hname,by rw[hb];rfl⟩,λW θ vs hg hO ha=>calls_of_wp hf hb ?_⟩
 simp only[W0f] at hl
 obtain⟨⟨hl1,hl2⟩,hl3⟩:=hl
 have hl1:=W1q hl1
 have hlen:=ha.len
 have hc:=Xna hl3
 have h1:J _ _ (sem _ _):=h W θ hg (W1q hl2)
 refine wp_mono (h1 _ W.w ⟨_,W,θ,rfl,⟨Fm.refl W _,⟨rfl,by simp[hN];omega,λt v ht=>?_⟩,⟨hO.r,λo x b h1 h2 h3=>.inr ⟨o,x,h1,h2,h3⟩,hO.dis,hO.ids⟩,hc.1⟩,λ_ _=>rfl,rfl⟩) λe a w h=>by cases e<;>exact h
 have ht:Ya4 0 args t=some v:=by rw[Xll];exact ht
 obtain⟨_,u,h2,h3⟩:=Xxv ha ht
 rw[W7a] at h2
 have hlt:=Xbn h2
 rw[W0a hlt] at h2
 injection h2 with h2
 simp only[Array.getD]
 rw[dif_pos (by simp;omega)]
 simp[W6w,hlt,h2]
 exact h3
section
variable{c:Cx}{s:St}{p:Pl}
theorem Yef{W0:GW}{X:Nat->Prop}{n:Nat}{E:Env}{H:Hpl}{a:Act}{W:GW}{θ:Loc}{o o':Nat}(hn:look H o'=none)(hs:Sat W0 X n (sem E H) a W θ): Sat W0 X n (sem (Yeg o o' E) (Xuh o o' H)) a W (rnθ o o' θ):=by
 have hdom:∀ {i y},look H i=some y->i≠o':=λh e=>by rw[e,hn] at h;cases h
 have hni:∀ {v:AV},(∀i,v.ids i->∃y,look H i=some y)->¬v.ids o':=λh hi=>by obtain⟨y,hy⟩:=h o' hi;rw[hn] at hy;cases hy
 refine⟨hs.fm,⟨hs.rel.defers,hs.rel.size,λt v ht=>?_⟩,⟨λi x hx=>?_,λi x b hx hl hb=>?_,λi j x x' b hx hx' hl hl' h1 h2=>?_,λi x q hx hq=>?_⟩,λt v i ht hi=>?_⟩
 . obtain⟨u,h1,rfl⟩:=Xd6 ht
   exact Yip (hni λi hi=>hs.ids t u i h1 hi) (hs.rel.has t u h1)
 . obtain⟨j,y,h1,rfl,rfl⟩:=Xbk hn hx
   exact Ycp (hdom h1) (λhi=>by obtain⟨z,hz⟩:=hs.obs.ids j y o' h1 hi;have hz:look H o'=some z:=hz;rw[hn] at hz;cases hz) (hs.obs.r j y h1)
 . obtain⟨j,y,h1,rfl,rfl⟩:=Xbk hn hx
   rw[Xa1 (hdom h1)] at hb
   exact hs.obs.new j y b h1 (by cases y<;>first | rfl | cases hl) hb
 . obtain⟨q,y,k1,rfl,rfl⟩:=Xbk hn hx
   obtain⟨q',y',k1',rfl,rfl⟩:=Xbk hn hx'
   rw[Xa1 (hdom k1)] at h1
   rw[Xa1 (hdom k1')] at h2
   rw[hs.obs.dis q q' y y' b k1 k1' (by cases y<;>first | rfl | cases hl) (by cases y'<;>first | rfl | cases hl') h1 h2]
 . obtain⟨j,y,h1,rfl,rfl⟩:=Xbk hn hx
   cases y with
   | var a =>
    obtain⟨r,h2,rfl⟩:=Xkr (a:=a) hq
    obtain⟨z,hz⟩:=hs.obs.ids j _ r h1 h2
    exact Xcr hn hz
   | _=>exact hq.elim
 . obtain⟨u,h1,rfl⟩:=Xd6 ht
   obtain⟨r,h2,rfl⟩:=Xkr hi
   obtain⟨z,hz⟩:=hs.ids t u r h1 h2
   exact Xcr hn hz
def okN: List (Nat×Nat)->Hpl->Bool
 | [],_=>true
 | (o,o')::r,H=>!Xb5 H o'&&okN r (Xuh o o' H)
theorem Ycd{W0:GW}{X:Nat->Prop}{n:Nat}{a:Act}{W:GW}: ∀ {r:List (Nat×Nat)} {E:Env} {H:Hpl} {θ:Loc},okN r H=true->Sat W0 X n (sem E H) a W θ->∃θ',Sat W0 X n (sem (rnE r E) (rnH r H)) a W θ'/\∀i,Xb5 (r.map λx=>(x.2,x.1)) i=false->θ' i=θ i
 | [],E,H,θ,_,hs=>⟨θ,hs,λ_ _=>rfl⟩
 | (o,o')::r,E,H,θ,h,hs=>by
  simp only[okN,W0f,W1t] at h
  obtain⟨θ',h1,h2⟩:=Ycd h.2 (Yef (Xbl h.1) hs)
  refine⟨θ',h1,λi hi=>?_⟩
  have hne:Nat.beq i o'=false/\Xb5 (r.map λx=>(x.2,x.1)) i=false:=by
   simp only[Xb5,W3s,look] at hi |-
   cases e:Nat.beq i o' with
   | true=>rw[e] at hi;cases hi
   | false=>rw[e] at hi;exact⟨rfl,hi⟩
  rw[h2 i hne.2]
  unfold rnθ
  rw[if_neg λe=>by rw[e] at hne;simp at hne]
noncomputable def nxW(tb:Nat->Option TI)(n:Nat)(r:List (Nat×Nat))(rs:List ResultVar)(s:St): Option (AV×Hpl):=match runN tb n 1000 s with
 | .j _ (.c .ret::_) E H=>match Xyd tb (sem (rnE r E) (rnH r H)) rs with
  | some v=>some (v,H)
  | none=>none
 | .j _ [] E H=>match Xyd tb (sem (rnE r E) (rnH r H)) rs with
  | some v=>some (v,H)
  | none=>none
 | _=>none
theorem Xrf{fn:Func}{H0 H':Hpl}{Post:AV->Hpl->Prop}(hX:c.X=Xof c.θ0 H0){E:Env}{H:Hpl}{r:List (Nat×Nat)}{v v':AV}(hr:Xyd c.tb (sem (rnE r E) (rnH r H)) fn.results.toList=some v)(hf:FitR (look (rnH r H)) H' v v')(hq:Post v' H')
 (hH:Xsz (rnH r H) H') (hk:(okN r H&&okH H0 H'&&(H0.all λx=>Nat.ble 1000000 x.1 && !Xb5 (r.map λx=>(x.2,x.1)) x.1)&&H'.all λx=>Xii H' x.2)=true) {a:Act} {w:World} (h:c.Nx (λs'=>s'=sem E H) a w) :
 a.defers=[]/\∃u,(results fn a.tmps).run c.P w=.ok u w/\Ymd c.W0 c.θ0 H0 Post (.returned u) w:=by
 obtain⟨s',W,θ,rfl,hs,hθ,rfl⟩:=h
 simp only[W0f] at hk
 obtain⟨⟨⟨k1,k2⟩,k3⟩,k4⟩:=hk
 obtain⟨θ',hs',hθ'⟩:=Ycd k1 hs
 obtain⟨u,hu,hv⟩:=Xqc c.hT hs' hr
 have hfm:=hs'.fm
 have hobs:=hs'.obs
 refine⟨hs'.rel.defers,u,hu,?_⟩
 have hsub:∀ {o x},look H' o=some x->look (rnH r H) o=some x:=λh=>Xkj hH h
 let W':GW:=⟨W.w,λb i=>W.A b i/\((b<c.W0.size/\¬c.X b)\/∃o x,look H' o=some x/\x.live=true/\(θ' o).1=some b),λb i h=>W.hA b i h.1⟩
 have hle:LeF W W':=λb i x hx=>⟨hx.1,λhA=>hx.2 hA.1⟩
 have E:Exi W W' (λb=>c.W0.size<=b\/c.X b) θ' (look (rnH r H)) H':=⟨hobs,hle,λo x b ho hl hb hk i y hy=>⟨hy,λhA=>by
  rcases hA.2 with ⟨h1,h2⟩ | ⟨o2,x2,h1,h2,h3⟩
  . exact(hobs.new o x b ho hl hb).elim (λh=>absurd h1 (W6e.2 h)) h2
  . have:=hobs.dis o o2 x x2 b ho (hsub h1) hl h2 hb h3
    subst this
    rw[Xbl hk] at h1;cases h1⟩⟩
 obtain⟨f1,f2⟩:=Yfr E hf hv
 refine⟨W',θ',v',u,H',rfl,rfl,?_,?_,f1,f2,λi y hi=>?_,k2,hq⟩
 . rw[<-hX]
   exact⟨hfm.os,hfm.out,hfm.tape,hfm.size,hfm.same,λb hb hx i=>⟨λh=>(hfm.A b hb hx i).1 h.1,λh=>⟨(hfm.A b hb hx i).2 h,.inl ⟨hb,hx⟩⟩⟩,hfm.le.trans hle⟩
 . rw[<-hX]
   refine⟨λo x hx=>(hobs.r o x (hsub hx)).keep hle rfl (λ_ _=>rfl) λhl b hb=>⟨rfl,λi hA=>⟨hA,.inr ⟨o,x,hx,hl,hb⟩⟩⟩,λo x b hx=>hobs.new o x b (hsub hx),λo o' x x' b hx hx'=>hobs.dis o o' x x' b (hsub hx) (hsub hx'),λo x i hx hi=>?_⟩
   have:=W1s.1 k4 _ (Xba hx)
   cases x with
   | var a=>exact Xfv (a:=a) this i hi
   | _=>exact hi.elim
 . have:=W1s.1 k3 _ (Xba hi)
   simp only[W0f,W1t] at this
   rw[hθ' i this.2]
   exact hθ i (W1q this.1)
theorem Rw{fn:Func}{H0:Hpl}{Post:AV->Hpl->Prop}[w:WkW c fn H0 Post](r:List (Nat×Nat))(H':Hpl){v v':AV}{H:Hpl}(h:nxW c.tb c.n r fn.results.toList s=some (v,H))(hf:FitR (look (rnH r H)) H' v v')(hq:Post v' H')
 (hH:Xsz (rnH r H) H':=by exact rfl) (hk:(okN r H&&okH H0 H'&&(H0.all λx=>Nat.ble 1000000 x.1 && !Xb5 (r.map λx=>(x.2,x.1)) x.1)&&H'.all λx=>Xii H' x.2)=true:=by exact rfl):StP c s:=by
 unfold nxW at h
 split at h<;>try cases h
 . rename_i hr
   split at h<;>cases h
   rename_i hv
   exact go 1000 hr (J.ret λa w' h=>by rw[w.f];exact Xrf w.x hv hf hq hH hk h)
 . rename_i hr
   split at h<;>cases h
   rename_i hv
   exact go 1000 hr (λa w' h=>by show c.fin .normal a w';rw[w.f];exact Xrf w.x hv hf hq hH hk h)
end
def AV.rnf(ρ:Nat->Nat): AV->AV
 | .st a=>.st (a.rnf ρ)
 | .pr a c=>.pr (a.rnf ρ) (c.rnf ρ)
 | .tup a=>.tup (a.rnf ρ)
 | .fm f a=>.fm f (a.rnf ρ)
 | .ptr i f=>.ptr (ρ i) f
 | .own i sz l n=>.own (ρ i) sz l n
 | .ow3 i sz l n=>.ow3 (ρ i) sz l n
 | .gr i sz xs=>.gr (ρ i) sz xs
 | .el i sz j f=>.el (ρ i) sz j f
 | .fn f i=>.fn f (ρ i)
 | .ap i n=>.ap (ρ i) n
 | a=>a
def Ob.rnf(ρ:Nat->Nat): Ob->Ob
 | .var a=>.var (a.rnf ρ)
 | x=>x
def rnL: List (Nat×Nat)->Nat->Nat
 | [],i=>i
 | (o,o')::r,i=>match Nat.beq i o with
  | true=>o'
  | false=>rnL r i
def rfH(ρ:Nat->Nat)(H:Hpl): Hpl:=H.map λx=>(ρ x.1,x.2.rnf ρ)
theorem Yil{W:GW}{θ:Loc}{ρ:Nat->Nat}: ∀ {a:AV} {cs:List Value},AV.C W θ (a.rnf ρ) cs↔AV.C W (λi=>θ (ρ i)) a cs:=by
 intro a
 induction a with
 | st a ih=>exact ih
 | pr a c iha ihc=>intro cs;simp only[AV.rnf,AV.C,iha,ihc]
 | fm f a ih=>intro cs;simp only[AV.rnf,AV.C,ih]
 | _=>intro cs;exact W4a
theorem Yik{ρ:Nat->Nat}(a:AV): (a.rnf ρ).ag=a.ag:=by cases a<;>rfl
theorem Xuf{W:GW}{θ:Loc}{ρ:Nat->Nat}{a:AV}{v:Value}: AV.V1 W θ (a.rnf ρ) v↔AV.V1 W (λi=>θ (ρ i)) a v:=by
 unfold AV.V1;simp only[Yil,Yik]
theorem Ym2{W:GW}{θ:Loc}{ρ:Nat->Nat}: ∀ {a:AV} {vs:List Value},AV.T W θ (a.rnf ρ) vs↔AV.T W (λi=>θ (ρ i)) a vs:=by
 intro a
 induction a with
 | pr a c _ ih =>
  intro vs
  match vs with
  | v::vs=>simp only[AV.rnf,AV.T,Xuf,ih]
  | []=>exact W4a
 | un =>
  intro vs
  match vs with
  | []=>exact W4a
  | [v]=>exact⟨λ⟨_,h,_⟩=>h.elim,λ⟨_,h,_⟩=>h.elim⟩
  | _::_::_=>exact W4a
 | _ =>
  intro vs
  match vs with
  | []=>exact W4a
  | [v]=>exact Xuf
  | _::_::_=>exact W4a
theorem Ypz{W:GW}{θ:Loc}{ρ:Nat->Nat}{a:AV}{v:Value}: AV.V W θ (a.rnf ρ) v↔AV.V W (λi=>θ (ρ i)) a v:=by
 cases a with
 | tup a=>simp only[AV.rnf,AV.V,Ym2]
 | un=>exact W4a
 | _=>exact Xuf
theorem Ym1{ρ:Nat->Nat}{i:Nat}: ∀ {a:AV},(a.rnf ρ).ids i↔∃j,a.ids j/\i=ρ j:=by
 intro a
 induction a with
 | st a ih=>exact ih
 | tup a ih=>exact ih
 | fm f a ih=>exact ih
 | pr a c iha ihc =>
  simp only[AV.rnf,AV.ids,iha,ihc]
  exact⟨λh=>h.elim (λ⟨j,h1,h2⟩=>⟨j,.inl h1,h2⟩) λ⟨j,h1,h2⟩=>⟨j,.inr h1,h2⟩,λ⟨j,h1,h2⟩=>h1.elim (λh=>.inl ⟨j,h,h2⟩) λh=>.inr ⟨j,h,h2⟩⟩
 | ptr o f=>exact⟨λh=>⟨o,rfl,h⟩,λ⟨j,h1,h2⟩=>by rw[show j=o from h1] at h2;exact h2⟩
 | own o _ _ _=>exact⟨λh=>⟨o,rfl,h⟩,λ⟨j,h1,h2⟩=>by rw[show j=o from h1] at h2;exact h2⟩
 | ow3 o _ _ _=>exact⟨λh=>⟨o,rfl,h⟩,λ⟨j,h1,h2⟩=>by rw[show j=o from h1] at h2;exact h2⟩
 | gr o _ _=>exact⟨λh=>⟨o,rfl,h⟩,λ⟨j,h1,h2⟩=>by rw[show j=o from h1] at h2;exact h2⟩
 | el o _ _ _=>exact⟨λh=>⟨o,rfl,h⟩,λ⟨j,h1,h2⟩=>by rw[show j=o from h1] at h2;exact h2⟩
 | fn _ o=>exact⟨λh=>⟨o,rfl,h⟩,λ⟨j,h1,h2⟩=>by rw[show j=o from h1] at h2;exact h2⟩
 | ap o _=>exact⟨λh=>⟨o,rfl,h⟩,λ⟨j,h1,h2⟩=>by rw[show j=o from h1] at h2;exact h2⟩
 | _=>exact⟨λh=>h.elim,λ⟨j,h,_⟩=>h.elim⟩
theorem Yp0{W:GW}{θ:Loc}{ρ:Nat->Nat}{o:Nat}{x:Ob}: (x.rnf ρ).R W θ (ρ o)↔x.R W (λi=>θ (ρ i)) o:=by
 cases x with
 | var a=>simp only[Ob.rnf,Ob.R,Yil]
 | _=>exact W4a
theorem Xdp{ρ:Nat->Nat}(x:Ob): (x.rnf ρ).live=x.live:=by cases x<;>rfl
theorem Xq2{ρ:Nat->Nat}: ∀ {H:Hpl} {j:Nat} {x:Ob},(∀a b,Xb5 H a=true->Xb5 H b=true->ρ a=ρ b->a=b)->look (rfH ρ H) j=some x->∃i y,look H i=some y/\j=ρ i/\x=y.rnf ρ
 | [],_,_,_,h=>by simp[rfH,look] at h
 | (s,w)::H,j,x,hi,h=>by
  simp only[rfH,W3s,look] at h
  split at h
  . rename_i hb
    injection h with h
    exact⟨s,w,by simp[look],W0e hb,h.symm⟩
  . rename_i hb
    have hsub:∀a,Xb5 H a=true->Xb5 ((s,w)::H) a=true:=λa ha=>by
     simp only[Xb5,look] at ha |-
     cases Nat.beq a s<;>first | exact ha | rfl
    obtain⟨i,y,h1,h2,h3⟩:=Xq2 (λa b ha hb=>hi a b (hsub a ha) (hsub b hb)) h
    refine⟨i,y,?_,h2,h3⟩
    have:i≠s:=λe=>by subst e;rw[h2] at hb;simp at hb
    simp only[look,Ycu this];exact h1
theorem Xcq{ρ:Nat->Nat}: ∀ {H:Hpl} {i:Nat} {y:Ob},look H i=some y->∃x,look (rfH ρ H) (ρ i)=some x
 | [],_,_,h=>by simp[look] at h
 | (s,w)::H,i,y,h=>by
  simp only[rfH,W3s,look]
  by_cases e:i=s
  . subst e;exact⟨w.rnf ρ,by simp⟩
  . simp only[look,Ycu e] at h
    obtain⟨x,hx⟩:=Xcq h
    split
    . exact⟨_,rfl⟩
    . exact⟨x,hx⟩
theorem Xde{g:Hp}: ∀ {l:List (Nat×Ob)} {o:Nat},Xbz g l o=match look l o with | some x=>some x | none=>g o
 | [],_=>rfl
 | (o',x)::l,o=>by
  simp only[Xbz,upd,look]
  cases Nat.beq o o' with
  | true=>rfl
  | false=>exact Xde
theorem Xqb{W:GW}{θ:Loc}{ρ:Nat->Nat}: ∀ {args:List AV} {vs:List Value},Xi5 W θ (args.map (AV.rnf ρ)) vs->Xi5 W (λi=>θ (ρ i)) args vs
 | [],[],_=>trivial
 | [],_::_,h=>h.elim
 | _::_,[],h=>h.elim
 | _::_,_::_,h=>⟨Ypz.1 h.1,Xqb h.2⟩
theorem CW.cs{P:Program}[Gb P]{f:FuncId}{args:List AV}{H0:Hpl}{Post:AV->Hpl->Prop}(h:CW P f args H0 Post)(r:List (Nat×Nat))(d:Nat){g:Hp}(hd:d<1000000)(hgd:g d=none)(hH:∀o x,look H0 o=some x->g (rnL r o)=some (x.rnf (rnL r)))(h0:Xb5 H0 1000000=false)
 (hinj:∀a b,Xb5 H0 a=true->Xb5 H0 b=true->rnL r a=rnL r b->a=b) (hids:∀a∈args,Xc9 H0 a=true) (hcl:(H0.all λx=>Xii H0 x.2)=true) :
 CS P f (args.map (AV.rnf (rnL r))) g λv g'=>∃v0 H',okH H0 H'=true/\Post v0 H'/\v=v0.rnf (rnL ((1000000,d)::r))/\g'=Xbz g (rfH (rnL ((1000000,d)::r)) H'):=by
 refine⟨h.1,λN W θ vs hg hO hN _ ha=>?_⟩
 have hl:∀ {o x},look H0 o=some x->g (rnL r o)=some (x.rnf (rnL r)):=λh=>hH _ _ h
 have hO0:Obs W (λi=>θ (rnL r i)) (λ_=>True) (look H0):=by
  refine⟨λo x hx=>Yp0.1 (hO.r _ _ (hl hx)),λ_ _ _ _ _ _=>trivial,λo o' x x' b hx hx' k k' b1 b2=>?_,λo x i hx hi=>?_⟩
  . exact hinj o o' (Yl4.2 ⟨x,hx⟩) (Yl4.2 ⟨x',hx'⟩) (hO.dis _ _ _ _ b (hl hx) (hl hx') (by rw[Xdp];exact k) (by rw[Xdp];exact k') b1 b2)
  . have:=W1s.1 hcl _ (Xba hx)
    cases x with
    | var a=>exact Xfv (a:=a) this i hi
    | _=>exact hi.elim
 have ha0:Xi5 W (λi=>θ (rnL r i)) args vs:=Xqb ha
 refine(h.2 W _ vs hg hO0 ha0).mono ?_
 rintro e w' ⟨W',θ',v,u,H',rfl,rfl,hf,hob,hv,hvi,hθ,hok,hp⟩
 have hok':=hok
 simp only[okH,W0f] at hok
 obtain⟨ok1,ok2⟩:=hok
 have hX:∀b,Xof (λi=>θ (rnL r i)) H0 b->b<W.size/\N b/\∃o x y,look H0 o=some y/\g (rnL r o)=some x/\x.live=true/\(θ (rnL r o)).1=some b:=by
  rintro b ⟨o,x,h1,h2,h3⟩
  have hlv:(x.rnf (rnL r)).live=true:=by rw[Xdp];exact h2
  exact⟨hO.lt (hl h1) hlv h3,hO.new _ _ b (hl h1) hlv h3,o,_,x,h1,hl h1,hlv,h3⟩
 have hnd:∀ {i},Xb5 H0 i=true->rnL ((1000000,d)::r) i=rnL r i:=by
  intro i hi
  have:i≠1000000:=λe=>by rw[e,h0] at hi;cases hi
  simp only[rnL,Ycu this]
 have hdn:rnL ((1000000,d)::r) 1000000=d:=by simp[rnL]
 have hcase:∀ {i},Xb5 H' i=true->Xb5 H0 i=true\/i=1000000:=by
  intro i hi
  obtain⟨y,hy⟩:=Yl4.1 hi
  have:=W1s.1 ok2 _ (Xba hy)
  rw[W4v] at this
  exact this.imp id W0e
 have hgo:∀ {i},Xb5 H0 i=true->∃x,g (rnL r i)=some x:=λhi=>by obtain⟨y,hy⟩:=Yl4.1 hi;exact⟨_,hl hy⟩
 have hne:∀ {i},Xb5 H0 i=true->rnL r i≠d:=λhi e=>by obtain⟨x,hx⟩:=hgo hi;rw[e,hgd] at hx;cases hx
 have hinj':∀a b,Xb5 H' a=true->Xb5 H' b=true->rnL ((1000000,d)::r) a=rnL ((1000000,d)::r) b->a=b:=by
  intro a b ha hb hab
  rcases hcase ha with h1 | h1<;>rcases hcase hb with h2 | h2
  . rw[hnd h1,hnd h2] at hab;exact hinj a b h1 h2 hab
  . rw[hnd h1,h2,hdn] at hab;exact absurd hab (hne h1)
  . rw[hnd h2,h1,hdn] at hab;exact absurd hab.symm (hne h2)
  . rw[h1,h2]
 let θ2:Loc:=λi=>if i=d then θ' 1000000 else θ i
 have hθ2:∀ {i},Xb5 H' i=true->θ2 (rnL ((1000000,d)::r) i)=θ' i:=by
  intro i hi
  rcases hcase hi with h1 | h1
  . rw[hnd h1]
    obtain⟨y,hy⟩:=Yl4.1 h1
    show (if _ then _ else _)=_
    rw[if_neg (hne h1)]
    exact(hθ i y hy).symm
  . rw[h1,hdn];exact if_pos rfl
 have hold:∀ {o x},g o=some x->θ2 o=θ o:=λho=>if_neg λe=>by rw[e,hgd] at ho;cases ho
 have hR':∀ {i y},look H' i=some y->(y.rnf (rnL ((1000000,d)::r))).R W' θ2 (rnL ((1000000,d)::r) i):=by
  intro i y hy
  refine Yp0.2 ((hob.r i y hy).keep (LeF.refl W') (hθ2 (Yl4.2 ⟨y,hy⟩)) (λj hj=>?_) λ_ _ _=>⟨rfl,λ_ h=>h⟩)
  obtain⟨z,hz⟩:=hob.ids i y j hy hj
  exact hθ2 (Yl4.2 ⟨z,hz⟩)
 have hrest:∀ {o x},Xbz g (rfH (rnL ((1000000,d)::r)) H') o=some x->(∃i y,look H' i=some y/\o=rnL ((1000000,d)::r) i/\x=y.rnf (rnL ((1000000,d)::r))) \/
  (g o=some x/\∀b,x.live=true->(θ o).1=some b->b<W.size/\¬Xof (λi=>θ (rnL r i)) H0 b):=by
  intro o x hx
  rw[Xde] at hx
  split at hx
  . rename_i y hy
    injection hx with hx;subst hx
    exact .inl (Xq2 hinj' hy)
  . rename_i hn
    refine .inr ⟨hx,λb hlv hb=>⟨hO.lt hx hlv hb,λhXb=>?_⟩⟩
    obtain⟨_,_,o1,x1,y1,h1,h2,h3,h4⟩:=hX b hXb
    have:=hO.dis o _ x x1 b hx h2 hlv h3 hb h4
    have hk:Xb5 H' o1=true:=by
     have:=W1s.1 ok1 _ (Xba h1);exact this
    obtain⟨z,hz⟩:=Yl4.1 hk
    obtain⟨q,hq⟩:=Xcq (ρ:=rnL ((1000000,d)::r)) hz
    rw[hnd (Yl4.2 ⟨_,h1⟩),<-this,hn] at hq
    cases hq
 have hblk:∀ {i y b},look H' i=some y->y.live=true->(θ2 (rnL ((1000000,d)::r) i)).1=some b->(W.size<=b\/Xof (λi=>θ (rnL r i)) H0 b):=by
  intro i y b hy hlv hb
  rw[hθ2 (Yl4.2 ⟨y,hy⟩)] at hb
  exact hob.new i y b hy hlv hb
 refine⟨W',θ2,v.rnf (rnL ((1000000,d)::r)),u,_,rfl,rfl,?_,?_,λi hi=>?_,v,H',hok',hp,rfl,rfl⟩
 . exact {
    os:=hf.os,out:=hf.out,tape:=hf.tape,size:=hf.size
    same:=λb hb hN=>hf.same b hb λhx=>hN (hX b hx).2.1
    A:=λb hb hN=>hf.A b hb λhx=>hN (hX b hx).2.1
    le:=hf.le
    th:=λi y hy=>hold hy
    hi:=λi hi=>if_neg (by omega)
    obs:={
     r:=λo x hx=>by
      rcases hrest hx with ⟨i,y,hy,rfl,rfl⟩ | ⟨ho,hb⟩
      . exact hR' hy
      . refine(hO.r o x ho).keep hf.le (hold ho) (λi hi=>?_) λhlv b h1=>?_
        . obtain⟨z,hz⟩:=hO.ids o x i ho hi
          exact hold hz
        . obtain⟨b1,b2⟩:=hb b hlv h1
          exact⟨hf.same b b1 b2,λi hA=>(hf.A b b1 b2 i).2 hA⟩
     new:=λo x b hx hlv hb=>by
      rcases hrest hx with ⟨i,y,hy,rfl,rfl⟩ | ⟨ho,_⟩
      . exact(hblk hy (by rw[Xdp] at hlv;exact hlv) hb).elim (hN b) λh=>(hX b h).2.1
      . rw[hold ho] at hb;exact hO.new o x b ho hlv hb
     dis:=λo o' x x' b hx hx' hlv hlv' hb hb'=>by
      rcases hrest hx with ⟨i,y,hy,rfl,rfl⟩ | ⟨ho,h1⟩<;>rcases hrest hx' with ⟨i',y',hy',rfl,rfl⟩ | ⟨ho',h1'⟩
      . rw[Xdp] at hlv hlv'
        rw[hθ2 (Yl4.2 ⟨y,hy⟩)] at hb
        rw[hθ2 (Yl4.2 ⟨y',hy'⟩)] at hb'
        rw[hob.dis i i' y y' b hy hy' hlv hlv' hb hb']
      . rw[Xdp] at hlv
        rw[hold ho'] at hb'
        obtain⟨b1,b2⟩:=h1' b hlv' hb'
        exact((hblk hy hlv hb).elim (λh=>absurd b1 (W6e.2 h)) b2).elim
      . rw[Xdp] at hlv'
        rw[hold ho] at hb
        obtain⟨b1,b2⟩:=h1 b hlv hb
        exact((hblk hy' hlv' hb').elim (λh=>absurd b1 (W6e.2 h)) b2).elim
      . rw[hold ho] at hb;rw[hold ho'] at hb'
        exact hO.dis o o' x x' b ho ho' hlv hlv' hb hb'
     ids:=λo x i hx hi=>by
      have fin:∀ {j},Xb5 H' j=true->∃z,Xbz g (rfH (rnL ((1000000,d)::r)) H') (rnL ((1000000,d)::r) j)=some z:=λhj=>by
       obtain⟨z,hz⟩:=Yl4.1 hj
       obtain⟨q,hq⟩:=Xcq (ρ:=rnL ((1000000,d)::r)) hz
       rw[Xde,hq];exact⟨q,rfl⟩
      rcases hrest hx with ⟨i',y,hy,rfl,rfl⟩ | ⟨ho,_⟩
      . cases y with
        | var a =>
         obtain⟨j,h1,rfl⟩:=Ym1.1 hi
         obtain⟨z,hz⟩:=hob.ids i' _ j hy h1
         exact fin (Yl4.2 ⟨z,hz⟩)
        | _=>exact hi.elim
      . obtain⟨z,hz⟩:=hO.ids o x i ho hi
        rw[Xde]
        split
        . exact⟨_,rfl⟩
        . exact⟨z,hz⟩ }
    dom:=λi y hy=>by
     rw[Xde]
     split
     . exact⟨_,rfl⟩
     . exact⟨y,hy⟩ }
 . refine Ypz.2 (hv.mono (LeF.refl W') λi hi=>?_)
   obtain⟨z,hz⟩:=hvi i hi
   exact hθ2 (Yl4.2 ⟨z,hz⟩)
 . obtain⟨j,h1,rfl⟩:=Ym1.1 hi
   obtain⟨z,hz⟩:=hvi j h1
   obtain⟨q,hq⟩:=Xcq (ρ:=rnL ((1000000,d)::r)) hz
   rw[Xde,hq];exact⟨q,rfl⟩
end
section
noncomputable def nxK(tb:Nat->Option TI)(n:Nat)(s:St): Option (Pl×FuncId×List AV):=match nxO tb n s with
 | some (p,o)=>match o.op with
  | .call ⟨.value x,asx,tys⟩=>match callee (look p.E) x,getEs (look p.E) asx.toList with
   | some (f,ex),some vs=>some (p,f,Xi9 tb tys.toList vs++ex)
   | _,_=>none
  | _=>none
 | none=>none
def Yqb(ρ:Nat->Nat)(H:Hpl): Bool:=H.all λx=>H.all λy=>Nat.beq x.1 y.1 || !Nat.beq (ρ x.1) (ρ y.1)
def Xs2(args:List AV)(H0:Hpl)(r:List (Nat×Nat))(d:Nat)(H:Hpl): Bool:=Nat.blt d 1000000 && !Xb5 H d && !Xb5 H0 1000000&&Yqb (rnL r) H0&&(args.all (Xc9 H0))&&H0.all λx=>Xii H0 x.2
theorem Xq0{α:Type _}: ∀ {H:List (Nat×α)} {o:Nat} {x:α},(o,x)∈H->Xb5 H o=true
 | [],_,_,h=>by cases h
 | (s,w)::H,o,x,h=>by
  simp only[Xb5,look]
  cases e:Nat.beq o s with
  | true=>rfl
  | false =>
   rcases W1i.1 h with h | h
   . injection h with h1;subst h1;simp at e
   . exact Xq0 h
section
variable{c:Cx}{s:St}{p:Pl}
theorem Xu0{f:FuncId}{asx:List AV}{R:S->Prop}(h:nxK c.tb c.n s=some (p,f,asx))(hR:R=WL c.P c.tb p.dr p.L (J c p.K) p.l)
 (k:∃o:Oper,p.d=o.dst/\match p.dr with
  | true=>∃nw H0 Q,Cd c.P f asx o (look p.H) nw H0 Q/\∀r,Nu nw o r.2->Q r->R (aft (sem p.E p.H) o r)
  | false=>∃Post,CS c.P f asx (look p.H) Post/\∀v g',Post v g'->R (S.put ((sem p.E p.H).1,g') o.dst v)):StP c s:=by
 subst hR
 unfold nxK at h
 split at h<;>try cases h
 rename_i p' o ho
 obtain⟨hw,hd⟩:=Xuz ho
 split at h<;>try cases h
 rename_i x as' tys he
 split at h<;>cases h
 rename_i ex vs hvs hf
 obtain⟨o',ho',k⟩:=k
 refine Xmh ho (.inl ⟨hw,?_⟩)
 unfold Wb
 rw[he]
 refine⟨_,_,_,hf,hvs,?_⟩
 rw[hd] at ho'
 have e1:∀r,aft (sem p.E p.H) o' r=aft (sem p.E p.H) o r:=λr=>by unfold aft;rw[ho']
 have e2:∀nw us,Nu nw o us↔Nu nw o' us:=λnw us=>by unfold Nu;rw[ho']
 cases hdr:p.dr with
 | true =>
  rw[hdr] at k
  obtain⟨nw,H0,Q,⟨k1,k2,k3⟩,k4⟩:=k
  refine⟨nw,H0,Q,⟨by rw[ho'];exact k1,k2,by rw[ho'];intro g a b;simp only[e2];exact k3 g a b⟩,λr hr hq=>by rw[<-e1];exact k4 r ((e2 _ _).1 hr) hq⟩
 | false =>
  rw[hdr] at k
  obtain⟨Post,k1,k2⟩:=k
  exact⟨_,Post,.inl rfl,k1,λv g' hv=>by rw[ho'];exact k2 v g' hv⟩
theorem Xi0{f:FuncId}{args:List AV}{H0:Hpl}{Post:AV->Hpl->Prop}{r:List (Nat×Nat)}{d:Nat}{H:Hpl}(hc:CW c.P f args H0 Post)(hk:Xs2 args H0 r d H=true){g:Hp}(hgd:g d=none)(hH:∀o x,look H0 o=some x->g (rnL r o)=some (x.rnf (rnL r))):
 CS c.P f (args.map (AV.rnf (rnL r))) g λv g'=>∃v0 H',okH H0 H'=true/\Post v0 H'/\v=v0.rnf (rnL ((1000000,d)::r))/\g'=Xbz g (rfH (rnL ((1000000,d)::r)) H'):=by
 simp only[Xs2,W0f,W1t] at hk
 obtain⟨⟨⟨⟨⟨k1,k2⟩,k3⟩,k4⟩,k5⟩,k6⟩:=hk
 refine hc.cs r d (Xqy k1) hgd hH k3 (λa b ha hb hab=>?_) (λa ha=>W1s.1 k5 a ha) k6
 obtain⟨x,hx⟩:=Yl4.1 ha
 obtain⟨y,hy⟩:=Yl4.1 hb
 have:=W1s.1 (W1s.1 k4 _ (Xba hx)) _ (Xba hy)
 simp only[W4v,W1t] at this
 rcases this with h | h
 . exact W0e h
 . rw[hab] at h;simp at h
theorem Xnz{H H0:Hpl}{ρ:Nat->Nat}(hH:Xsz H (rfH ρ H0)){o:Nat}{x:Ob}(h:look H0 o=some x): look H (ρ o)=some (x.rnf ρ):=by
 have hm:(ρ o,x.rnf ρ)∈rfH ρ H0:=W4e.2 ⟨_,Xba h,rfl⟩
 exact W6i.1 hH _ hm
theorem Cw{f:FuncId}{asx args:List AV}{H0:Hpl}{Post:AV->Hpl->Prop}(r:List (Nat×Nat))(h:nxK c.tb c.n s=some (p,f,asx))(hc:CW c.P f args H0 Post)(k:∀v H',okH H0 H'=true->Post v H'->p.nx' c (v.rnf (rnL ((1000000,p.d.getD 0)::r))) (rfH (rnL ((1000000,p.d.getD 0)::r)) H'))
 (hr:asx=args.map (AV.rnf (rnL r)):=by exact rfl) (hH:Xsz p.H (rfH (rnL r) H0):=by exact rfl) (hk:(Xs2 args H0 r (p.d.getD 0) p.H && !p.dr)=true:=by exact rfl):StP c s:=by
 rw[W0f,W1t] at hk
 obtain⟨hk,hdr⟩:=hk
 have hk':=hk
 simp only[Xs2,W0f,W1t] at hk'
 refine Xu0 h rfl ⟨⟨p.d, .move (.tmp 0), 0, "", #[], none⟩, rfl, ?_⟩
 rw[hdr,hr]
 refine⟨_,Xi0 hc hk (Xbl hk'.1.1.1.1.2) (λo x hx=>Xnz hH hx),?_⟩
 rintro v g' ⟨v0,H',h1,h2,rfl,rfl⟩
 have:=Pl.nx'_eq.1 (k v0 H' h1 h2)
 have:WL c.P c.tb p.dr p.L (J c p.K) p.l (sem (Xs1 p.E p.d _) (_++p.H)):=this
 rw[<-Xe2,hdr] at this
 exact this
theorem Xlr{g:Hp}: ∀ {l:List (Nat×Ob)},(∀o x,(o,x)∈l->g o=some x)->Xbz g l=g
 | [],_=>rfl
 | (o,x)::l,h=>by
  rw[Xbz,Xlr λo x hm=>h o x (W1e _ hm)]
  funext t
  by_cases e:t=o
  . subst e;rw[Xai,h t x (W0w ..)]
  . rw[Xam e]
def CN(P:Program)[Gb P](f:FuncId)(args:List AV)(H0:Hpl)(Q:AV->Prop): Prop:=CW P f args H0 λv H'=>H'=H0/\Q v
theorem Xug{H0:Hpl}{r:List (Nat×Nat)}{d:Nat}(h0:Xb5 H0 1000000=false)(hcl:(H0.all λx=>Xii H0 x.2)=true): ∀o x,look H0 o=some x->(rnL ((1000000,d)::r) o,x.rnf (rnL ((1000000,d)::r)))=(rnL r o,x.rnf (rnL r)):=by
 have hne:∀i,Xb5 H0 i=true->rnL ((1000000,d)::r) i=rnL r i:=λi hi=>by
  have:i≠1000000:=λe=>by rw[e,h0] at hi;cases hi
  simp only[rnL,Ycu this]
 have hv:∀ {a:AV},Xc9 H0 a=true->a.rnf (rnL ((1000000,d)::r))=a.rnf (rnL r):=by
  intro a
  induction a with
  | st a ih=>intro h;simp only[AV.rnf];rw[ih h]
  | tup a ih=>intro h;simp only[AV.rnf];rw[ih h]
  | fm f a ih=>intro h;simp only[AV.rnf];rw[ih h]
  | pr a c iha ihc=>intro h;simp only[Xc9,W0f] at h;simp only[AV.rnf];rw[iha h.1,ihc h.2]
  | _=>intro h;first | rfl | (simp only[AV.rnf];rw[hne _ h])
 intro o x hx
 rw[hne o (Yl4.2 ⟨x,hx⟩)]
 have:=W1s.1 hcl _ (Xba hx)
 cases x with
 | var a=>simp only[Ob.rnf];rw[hv this]
 | _=>rfl
theorem Cn{f:FuncId}{asx args:List AV}{H0:Hpl}{Q:AV->Prop}(r:List (Nat×Nat))(h:nxK c.tb c.n s=some (p,f,asx))(hc:CN c.P f args H0 Q)(k:∀v,Q v->p.nx c (v.rnf (rnL ((1000000,p.d.getD 0)::r))))
 (hr:asx=args.map (AV.rnf (rnL r)):=by exact rfl) (hH:Xsz p.H (rfH (rnL r) H0):=by exact rfl) (hk:(Xs2 args H0 r (p.d.getD 0) p.H&&H0.all λx=>asx.any λa=>Xb5 (match a with | .ptr o _=>[(o,())] | .own o _ _ _=>[(o,())] | .gr o _ _=>[(o,())] | .fn _ o=>[(o,())] | .ap o _=>[(o,())] | _=>[]) (rnL r x.1))=true:=by exact rfl) (hd:(!p.dr||p.d.isSome)=true:=by exact rfl):StP c s:=by
 rw[W0f] at hk
 obtain⟨hk,hids⟩:=hk
 have hk':=hk
 simp only[Xs2,W0f,W1t] at hk'
 obtain⟨⟨⟨⟨⟨k1,k2⟩,k3⟩,k4⟩,k5⟩,k6⟩:=hk'
 have hsame:∀g:Hp,(∀o x,look H0 o=some x->g (rnL r o)=some (x.rnf (rnL r)))->Xbz g (rfH (rnL ((1000000,p.d.getD 0)::r)) H0)=g:=λg hg=>Xlr λo x hm=>by
  obtain⟨⟨i,y⟩,hm1,e⟩:=W4e.1 hm
  injection e with e1 e2
  subst e1;subst e2
  have hy:∃z,look H0 i=some z:=by
   exact Yl4.1 (Xq0 hm1)
  obtain⟨z,hz⟩:=hy
  have hm2:=W6i.1 hH (rnL r i,y.rnf (rnL r)) (W4e.2 ⟨_,hm1,rfl⟩)
  have hz2:=Xnz hH hz
  rw[hz2] at hm2
  injection hm2 with hm2
  have h3:=Xug (d:=p.d.getD 0) (r:=r) k3 k6 i z hz
  injection h3 with h3 h4
  show g (rnL _ i)=some (y.rnf _)
  rw[h3,hg i z hz,hm2]
  congr 1
  have hcl:Xii H0 y=true:=W1s.1 k6 _ hm1
  have hv:∀ {a:AV},Xc9 H0 a=true->a.rnf (rnL ((1000000,p.d.getD 0)::r))=a.rnf (rnL r):=by
   intro a
   induction a with
   | st a ih=>intro h;simp only[AV.rnf];rw[ih h]
   | tup a ih=>intro h;simp only[AV.rnf];rw[ih h]
   | fm f a ih=>intro h;simp only[AV.rnf];rw[ih h]
   | pr a c iha ihc=>intro h;simp only[Xc9,W0f] at h;simp only[AV.rnf];rw[iha h.1,ihc h.2]
   | _ =>
    intro h
    first
     | rfl
     | (simp only[AV.rnf]
        congr 1
        obtain⟨q,hq⟩:=Yl4.1 h
        have:=Xug (d:=p.d.getD 0) (r:=r) k3 k6 _ q hq
        injection this)
  cases y with
  | var a=>simp only[Ob.rnf];rw[hv hcl]
  | _=>rfl
 refine Xu0 h rfl ⟨⟨p.d, .move (.tmp 0), 0, "", #[], none⟩, rfl, ?_⟩
 have kk:∀v,Q v->WL c.P c.tb p.dr p.L (J c p.K) p.l (S.put (sem p.E p.H) p.d (v.rnf (rnL ((1000000,p.d.getD 0)::r)))):=λv hv=>by
  have:=Pl.nx_eq.1 (k v hv)
  have this:WL c.P c.tb p.dr p.L (J c p.K) p.l (sem (Xs1 p.E p.d _) p.H):=this
  rw[show S.put (sem p.E p.H) p.d _=sem (Xs1 p.E p.d _) p.H from Xe2 p.E p.H [] p.d _]
  exact this
 have hH':∀o x,look H0 o=some x->look p.H (rnL r o)=some (x.rnf (rnL r)):=λo x hx=>Xnz hH hx
 generalize WL c.P c.tb p.dr p.L (J c p.K) p.l=R at kk |-
 rw[hr] at hids |-
 cases hdr:p.dr with
 | true =>
  obtain⟨dd,hdd⟩:=W3f.1 (show p.d.isSome=true by rw[hdr] at hd;exact hd)
  have hD:p.d.getD 0=dd:=by rw[hdd];rfl
  refine⟨true,look (rfH (rnL r) H0),λq=>q.2=[]/\∃v,Q v/\q.1=v.rnf (rnL ((1000000,p.d.getD 0)::r)),⟨λ_=>⟨dd,hdd,by rw[<-hD];exact Xbl k2⟩,λi y hi=>?_,λg hg hn=>?_⟩,λq _ ⟨hq,v,h1,h2⟩=>?_⟩
  . have hm:=Xba hi
    refine⟨W6i.1 hH _ hm,?_⟩
    obtain⟨⟨j,z⟩,hm1,e⟩:=W4e.1 hm
    injection e with e1 e2
    have:=W1s.1 hids _ hm1
    obtain⟨a,ha,hk⟩:=List.any_eq_true.1 this
    refine⟨a,ha,?_⟩
    rw[<-e1]
    cases a<;>simp only[Xb5,look] at hk<;>first | (cases hk;done) | skip
    all_goals
     show rnL r j=_
     split at hk
     . rename_i hx
       split at hx
       . rename_i hb;exact W0e hb
       . cases hx
     . cases hk
  . have hg':∀o x,look H0 o=some x->g (rnL r o)=some (x.rnf (rnL r)):=λo x hx=>hg _ _ (by
     obtain⟨q,hq⟩:=Xcq (ρ:=rnL r) hx
     have h1:=W6i.1 hH _ (Xba hq)
     rw[hH' o x hx] at h1
     rw[hq];exact h1.symm)
    have hgd:g (p.d.getD 0)=none:=by rw[hD];exact hn rfl dd hdd
    obtain⟨a1,a2⟩:=Xi0 hc hk hgd hg'
    refine⟨a1,λN W θ vs b0 b1 b2 b3 b4=>(a2 N W θ vs b0 b1 b2 b3 b4).mono ?_⟩
    rintro e w' ⟨W',θ',v,u,g',c1,c2,c3,c4,c5,v0,H',d1,⟨rfl,d2⟩,rfl,rfl⟩
    exact⟨W',θ',_,u,_,c1,c2,c3,c4,c5,[],.inl rfl,hsame g hg',rfl,v0,d2,rfl⟩
  . unfold aft;rw[hq,h2];exact kk v h1
 | false =>
  refine⟨_,Xi0 hc hk (Xbl k2) hH',?_⟩
  rintro v g' ⟨v0,H',h1,⟨rfl,h2⟩,rfl,rfl⟩
  rw[hsame _ hH']
  exact kk v0 h2
def CO(P:Program)[Gb P](f:FuncId)(args:List AV)(Q:AV->Ob->Prop): Prop:=CW P f args [] λv H'=>∃ob,H'=[(1000000,ob)]/\Q v ob
theorem Co{f:FuncId}{asx:List AV}{Q:AV->Ob->Prop}(h:nxK c.tb c.n s=some (p,f,asx))(hc:CO c.P f asx Q)(k:∀v ob,Q v ob->p.nx' c (v.rnf (rnL [(1000000,p.d.getD 0)])) [(p.d.getD 0,ob.rnf (rnL [(1000000,p.d.getD 0)]))])
 (hk:(Xs2 asx [] [] (p.d.getD 0) p.H&&p.d.isSome)=true:=by exact rfl):StP c s:=by
 rw[W0f] at hk
 obtain⟨hk,hd⟩:=hk
 have hk':=hk
 simp only[Xs2,W0f,W1t] at hk'
 obtain⟨⟨⟨⟨⟨k1,k2⟩,k3⟩,k4⟩,k5⟩,k6⟩:=hk'
 obtain⟨dd,hdd⟩:=W3f.1 hd
 have hD:p.d.getD 0=dd:=by rw[hdd];rfl
 have hid:∀ {a:AV},a.rnf (rnL [])=a:=by
  intro a
  induction a with
  | st a ih=>simp only[AV.rnf,ih]
  | tup a ih=>simp only[AV.rnf,ih]
  | fm f a ih=>simp only[AV.rnf,ih]
  | pr a c iha ihc=>simp only[AV.rnf,iha,ihc]
  | _=>rfl
 have hmap:asx.map (AV.rnf (rnL []))=asx:=by rw[show AV.rnf (rnL [])=id from funext λa=>hid,List.map_id]
 have hcs:∀ {g:Hp},g (p.d.getD 0)=none->CS c.P f asx g λv g'=>∃v0 ob,Q v0 ob/\v=v0.rnf (rnL [(1000000,p.d.getD 0)])/\g'=Xbz g [(p.d.getD 0,ob.rnf (rnL [(1000000,p.d.getD 0)]))]:=by
  intro g hg
  obtain⟨a1,a2⟩:=Xi0 hc hk hg (λo x hx=>by simp[look] at hx)
  rw[hmap] at a2
  refine⟨a1,λN W θ vs b0 b1 b2 b3 b4=>(a2 N W θ vs b0 b1 b2 b3 b4).mono ?_⟩
  rintro e w' ⟨W',θ',v,u,g',c1,c2,c3,c4,c5,v0,H',d1,⟨ob,rfl,d2⟩,rfl,rfl⟩
  refine⟨W',θ',_,u,_,c1,c2,c3,c4,c5,v0,ob,d2,rfl,?_⟩
  simp[rfH,rnL]
 refine Xu0 h rfl ⟨⟨p.d, .move (.tmp 0), 0, "", #[], none⟩, rfl, ?_⟩
 have kk:∀v ob,Q v ob->WL c.P c.tb p.dr p.L (J c p.K) p.l (S.put ((sem p.E p.H).1,Xbz (sem p.E p.H).2 [(p.d.getD 0,ob.rnf (rnL [(1000000,p.d.getD 0)]))]) p.d (v.rnf (rnL [(1000000,p.d.getD 0)]))):=λv ob hv=>by
  have:=Pl.nx'_eq.1 (k v ob hv)
  have this:WL c.P c.tb p.dr p.L (J c p.K) p.l (sem (Xs1 p.E p.d _) (_++p.H)):=this
  rw[Xe2]
  exact this
 generalize WL c.P c.tb p.dr p.L (J c p.K) p.l=R at kk |-
 cases p.dr with
 | true =>
  refine⟨true,λ_=>none,λq=>∃v ob,Q v ob/\q=(v.rnf (rnL [(1000000,p.d.getD 0)]),[(p.d.getD 0,ob.rnf (rnL [(1000000,p.d.getD 0)]))]),⟨λ_=>⟨dd,hdd,by rw[<-hD];exact Xbl k2⟩,λi y hi=>(nomatch hi),λg _ hn=>?_⟩,?_⟩
  . obtain⟨a1,a2⟩:=hcs (g:=g) (by rw[hD];exact hn rfl dd hdd)
    refine⟨a1,λN W θ vs b0 b1 b2 b3 b4=>(a2 N W θ vs b0 b1 b2 b3 b4).mono ?_⟩
    rintro e w' ⟨W',θ',v,u,g',c1,c2,c3,c4,c5,v0,ob,d1,rfl,rfl⟩
    exact⟨W',θ',_,u,_,c1,c2,c3,c4,c5,_,.inr ⟨rfl,dd,_,hdd,by rw[hD]⟩,rfl,v0,ob,d1,rfl⟩
  . rintro q _ ⟨v,ob,h1,rfl⟩
    exact kk v ob h1
 | false =>
  refine⟨_,hcs (Xbl k2),?_⟩
  rintro v g' ⟨v0,ob,h1,rfl,rfl⟩
  exact kk v0 ob h1
def CG(P:Program)[Gb P](f:FuncId)(args:List AV)(sz:Nat)(xs:List D): Prop:=CO P f args λv ob=>v=.gr 1000000 sz xs/\ob=.tok xs.length sz
theorem Cg{f:FuncId}{asx:List AV}{sz:Nat}{xs:List D}(h:nxK c.tb c.n s=some (p,f,asx))(hc:CG c.P f asx sz xs)(k:p.nx' c (.gr (p.d.getD 0) sz xs) [(p.d.getD 0,.tok xs.length sz)])
 (hk:(Xs2 asx [] [] (p.d.getD 0) p.H&&p.d.isSome)=true:=by exact rfl):StP c s :=
 Co h hc (λv ob hv=>by obtain⟨rfl,rfl⟩:=hv;exact k) hk
def CA(P:Program)[Gb P](f:FuncId)(args:List AV)(sz:Nat)(xs:List D): Prop:=CO P f args λv ob=>v=.own 1000000 sz 0 xs.length/\ob=.arr sz xs
theorem Cr{f:FuncId}{asx:List AV}{sz:Nat}{xs:List D}(h:nxK c.tb c.n s=some (p,f,asx))(hc:CA c.P f asx sz xs)(k:p.nx' c (.own (p.d.getD 0) sz 0 xs.length) [(p.d.getD 0,.arr sz xs)])
 (hk:(Xs2 asx [] [] (p.d.getD 0) p.H&&p.d.isSome)=true:=by exact rfl):StP c s :=
 Co h hc (λv ob hv=>by obtain⟨rfl,rfl⟩:=hv;exact k) hk
end
theorem CW.data{P:Program}[Gb P]{f:FuncId}{args:List AV}{Post:AV->Hpl->Prop}{Q:AV->Prop}(h:CW P f args [] Post)(hn:(args.all Xkx)=true)(hp:∀v H',Post v H'->∃v',FitR (look H') [] v v'/\Q v'): C P f args Q:=by
 refine⟨h.1,λW vs hg ha=>(h.2 W θe vs hg ⟨λo x h=>(nomatch h),λo x b h=>(nomatch h),λo o' x x' b h=>(nomatch h),λo x i h=>(nomatch h)⟩ ha).mono ?_⟩
 rintro e w' ⟨W',θ',v,u,H',rfl,rfl,hf,hob,hv,hvi,_,_,hpo⟩
 obtain⟨v',hfit,hq⟩:=hp v H' hpo
 have hX:∀b,¬Xof θe ([]:Hpl) b:=λb ⟨o,x,h,_⟩=>(nomatch h)
 let W2:GW:=⟨W'.w,W.A,λb i h=>W0s (W.hA b i h) hf.size⟩
 have hle:LeF W' W2:=λb i x hx=>⟨hx.1,λhA=>hx.2 ((hf.A b (W.hA b i hA) (hX b) i).2 hA)⟩
 have E:Exi W' W2 (λb=>W.size<=b\/Xof θe ([]:Hpl) b) θ' (look H') []:=⟨hob,hle,λo x b ho hl hb _ i y hy=>⟨hy,λhA=>absurd (W.hA b i hA) (W6e.2 ((hob.new o x b ho hl hb).resolve_right (hX b)))⟩⟩
 obtain⟨f1,f2⟩:=Yfr E hfit hv
 have f2:∀i,¬v'.ids i:=λi hi=>by obtain⟨y,hy⟩:=f2 i hi;cases hy
 exact⟨W2,v',u,rfl,rfl,⟨hf.os,hf.out,hf.tape,hf.size,λb hb _=>hf.same b hb (hX b),λ_ _ _ _=>W4a,λb i x hx=>⟨(hf.le b i x hx).1,hx.2⟩⟩,f1.mono (LeF.refl W2) λi hi=>absurd hi (f2 i),f2,hq⟩
theorem CG.data{P:Program}[Gb P]{f:FuncId}{args:List AV}{sz:Nat}{xs:List D}(h:CG P f args sz xs)(hn:(args.all Xkx)=true:=by exact rfl): C P f args (·=.d (.sl sz xs)) :=
 CW.data h hn λv H' ⟨ob,e,h1,h2⟩=>⟨_,by rw[h1];exact .one (.gr rfl) rfl rfl,rfl⟩
theorem CA.data{P:Program}[Gb P]{f:FuncId}{args:List AV}{sz:Nat}{xs:List D}(h:CA P f args sz xs)(hn:(args.all Xkx)=true:=by exact rfl): C P f args (·=.d (.sl sz xs)) :=
 CW.data h hn λv H' ⟨ob,e,h1,h2⟩=>⟨_,by rw[h1,e,h2];exact .one (.own rfl (by simp) (by simp)) rfl rfl,rfl⟩
end
section
section
variable{c:Cx}{s:St}{p:Pl}
noncomputable def Yoz(tb:Nat->Option TI)(n:Nat)(s:St): Option (Pl×Bool×IntKind×Int×Int):=match nxA tb n s with
 | some (p,o,[.d (.int k x),.d (.int k' y)])=>match o.op with
  | .call ⟨.builtin .min,_,_⟩=>if k=k' then some (p,true,k,x,y) else none
  | .call ⟨.builtin .max,_,_⟩=>if k=k' then some (p,false,k,x,y) else none
  | _=>none
 | _=>none
theorem Mm{b:Bool}{k:IntKind}{x y:Int}(r:Int)(h:Yoz c.tb c.n s=some (p,b,k,x,y))(kk:p.nx c (.d (.int k r)))(hr:(match b with | true=>min x y | false=>max x y)=r:=by first | rfl | omega): StP c s:=by
 unfold Yoz at h
 split at h<;>try cases h
 rename_i p' o k1 x1 k2 y1 hA
 split at h<;>try cases h
 . rename_i asx tys ho
   split at h<;>cases h
   rename_i hk
   refine Xb1 (us:=[]) hA ?_ (Pl.nx_nil kk)
   rw[ho]
   simp only[F,Fp,if_pos hk]
   subst hr
   simp only[Int.min_def]
   split<;>split<;>first | rfl | (congr;omega)
 . rename_i asx tys ho
   split at h<;>cases h
   rename_i hk
   refine Xb1 (us:=[]) hA ?_ (Pl.nx_nil kk)
   rw[ho]
   simp only[F,Fp,if_pos hk]
   subst hr
   simp only[Int.max_def]
   split<;>split<;>first | rfl | (congr;omega)
noncomputable def nxY(tb:Nat->Option TI)(n:Nat)(s:St): Option (Pl×List UInt8×Int):=match nxA tb n s with
 | some (p,o,[.d (.str t),.d (.int _ j)])=>match o.op with
  | .index T _ _=>match tb T with
   | some ⟨.str _,_,_,_⟩=>some (p,t,j)
   | _=>none
  | _=>none
 | _=>none
theorem Yx(i:Nat)(b:UInt8){t:List UInt8}{j:Int}(h:nxY c.tb c.n s=some (p,t,j))(hb:t[i]?=some b)(kk:p.nx c (.d (.int .u8 b.toNat)))(hj:j=(i:Int):=by first | exact rfl | omega): StP c s:=by
 subst hj
 unfold nxY at h
 split at h<;>try cases h
 rename_i hA
 split at h<;>try cases h
 rename_i ho
 split at h<;>cases h
 rename_i ht
 refine Xb1 (us:=[]) hA ?_ (Pl.nx_nil kk)
 rw[ho]
 simp[F,Fp,ht,hb]
end
def nbA: AV->AV
 | .d (.bool c)=>.b c
 | a=>a
theorem Ym9{W:GW}{θ:Loc}{a:AV}{u:Value}(h:AV.V W θ a u): AV.V W θ (nbA a) u:=by
 unfold nbA;split
 . obtain⟨cs,h1,h2⟩:=h;exact⟨cs,h1,h2⟩
 . exact h
theorem Yi7{W:GW}{θ:Loc}: ∀ {asx:List AV} {vs:List Value},Xi5 W θ asx vs->Xi5 W θ (asx.map nbA) vs
 | [],[],_=>trivial
 | a::asx,v::vs,h=>⟨Ym9 h.1,Yi7 h.2⟩
 | [],_::_,h=>h.elim
 | _::_,[],h=>h.elim
theorem C.mono{P:Program}[Gb P]{f:FuncId}{asx:List AV}{Q Q':AV->Prop}(h:C P f asx Q)(k:∀v,Q v->Q' v): C P f asx Q':=⟨h.1,λW vs hg ha=>(h.2 W vs hg ha).mono λe w' ⟨W',v,u,h1,h2,h3,h4,h5,h6⟩=>⟨W',v,u,h1,h2,h3,h4,h5,k v h6⟩⟩
theorem C.nb{P:Program}[Gb P]{f:FuncId}{asx:List AV}{Q:AV->Prop}(h:C P f (asx.map nbA) Q): C P f asx Q:=⟨h.1,λW vs hg ha=>h.2 W vs hg (Yi7 ha)⟩
end
section
def Yjs: AV->List Nat
 | .st a | .tup a | .fm _ a=>Yjs a
 | .pr a c=>Yjs a++Yjs c
 | .ptr o _ | .own o _ _ _ | .ow3 o _ _ _ | .gr o _ _ | .el o _ _ _ | .fn _ o | .ap o _=>[o]
 | _=>[]
theorem Xel{i:Nat}: ∀ {a:AV},a.ids i->i∈Yjs a
 | .st a,h=>Xel (a:=a) h
 | .tup a,h=>Xel (a:=a) h
 | .fm _ a,h=>Xel (a:=a) h
 | .pr a c,h=>W2j.2 (h.imp (Xel (a:=a)) (Xel (a:=c)))
 | .ptr o _,h | .own o _ _ _,h | .ow3 o _ _ _,h | .gr o _ _,h | .el o _ _ _,h | .fn _ o,h | .ap o _,h=>W0g.2 h
abbrev Trk:=List (Nat×List Nat)
def dsL: List Oper->List Nat
 | []=>[]
 | o::l=>match o.dst with
  | some d=>d::dsL l
  | none=>dsL l
theorem Xwu{o:Oper}{d:Nat}(hd:o.dst=some d): ∀ {L:List Oper},o∈L->d∈dsL L
 | x::l,h=>by
  rcases W1i.1 h with e | e
  . subst e;simp[dsL,hd]
  . have:=Xwu hd e
    simp only[dsL];split<;>simp[this]
def bnd(D:List Nat)(E:Env)(T:Trk)(t:Nat): Option (List Nat):=match inL t D with
 | true=>look T t
 | false=>match look E t with
  | some v=>some (Yjs v)
  | none=>none
def Yla: Op->Option Nat
 | .move (.tmp t) | .assign (.tmp t) | .nilCheck (.tmp t) | .fieldAddr _ (.tmp t) _ | .indexAddr _ (.tmp t) _=>some t
 | _=>none
def ldO: Op->Option Nat
 | .load _ (.tmp t)=>some t
 | _=>none
def Xvu: Op->Bool
 | .alloc _ | .box _ _=>true
 | _=>false
def trk(D:List Nat)(E:Env): List Oper->Trk->Trk
 | [],T=>T
 | o::l,T=>match o.dst with
  | none=>trk D E l T
  | some d=>match Xvu o.op,Yla o.op with
   | true,_=>trk D E l ((d,[d])::T)
   | false,some t=>match bnd D E T t with
    | some v=>trk D E l ((d,v)::T)
    | none=>trk D E l T
   | false,none=>match ldO o.op with
    | some t=>match bnd D E T t with
     | some []=>trk D E l ((d,[])::T)
     | _=>trk D E l T
    | none=>trk D E l T
def Yop(a b:List Nat): Bool:=a.all λx=>inL x b
def Xr4(D:List Nat)(E:Env)(T:Trk)(L:List Oper): Bool:=(T.all λx=>!Xb5 E x.1)&&L.all λo=>match o.dst with
 | none=>true
 | some d=>match look T d with
  | none=>true
  | some l=>(Xvu o.op&&inL d l)||match Yla o.op with
   | some t=>match bnd D E T t with
    | some v=>Yop v l
    | none=>false
   | none=>match ldO o.op with
    | some t=>match bnd D E T t with
     | some []=>true
     | _=>false
    | none=>false
def Yjk(L:List Oper)(D:List Nat)(E:Env)(T:Trk)(k i:Oper): Bool:=match k.op,i.op with
 | .load _ (.tmp a),.store _ (.tmp b) _=>match bnd D E T a,bnd D E T b with
  | some la,some lb=>Xcx L k.dst i&&Xcx L i.dst k&&la.all λx=>!inL x lb
  | _,_=>false
 | _,_=>false
def spT(L:List Oper)(D:List Nat)(E:Env)(T:Trk)(k i:Oper): Bool:=Yjk L D E T k i||Yjk L D E T i k
def ZT(D:List Nat)(E:Env)(T:Trk)(s:S): Prop:=(∀t,inL t D=false->s.1 t=look E t)/\∀t l,look T t=some l->s.1 t=none\/∃x,s.1 t=some x/\∀i,x.ids i->i∈l
section
variable{tb:Nat->Option TI}
theorem Xrx{D:List Nat}{E:Env}{T:Trk}{s:S}(hz:ZT D E T s){t:Nat}{l:List Nat}(h:bnd D E T t=some l){v:AV}(hv:s.1 t=some v){i:Nat}(hi:v.ids i): i∈l:=by
 unfold bnd at h
 split at h
 . rcases hz.2 t l h with e | ⟨x,e,h1⟩<;>rw[hv] at e
   . cases e
   . injection e with e;subst e;exact h1 i hi
 . rename_i hD
   have e:=hz.1 t hD
   rw[hv] at e
   rw[<-e] at h
   injection h with h;subst h
   exact Xel hi
theorem Yf0{o:Oper}{t:Nat}(ha:Yla o.op=some t){s:S}{r:AV×List (Nat×Ob)}(h:eff tb o s=some r): ∃v,s.1 t=some v/\∀i,r.1.ids i->v.ids i:=by
 have one:∀ {x:Nat} {asx:List AV},getEs s.1 [.tmp x]=some asx->∃v,s.1 x=some v/\asx=[v]:=by
  intro x asx h
  simp only[getEs,Xcl] at h
  split at h<;>try cases h
  rename_i v hv
  exact⟨v,hv,rfl⟩
 unfold eff at h
 split at h<;>try cases h
 rename_i asx has
 split at h<;>try cases h
 unfold Yla at ha
 split at ha<;>cases ha
 all_goals rename_i ho
 . rw[ho] at h has
   obtain⟨v,hv,rfl⟩:=one has
   simp only[F,Fp] at h
   injection h with h;subst h
   exact⟨v,hv,λ_ h=>h⟩
 . rw[ho] at h has
   obtain⟨v,hv,rfl⟩:=one has
   simp only[F,Fp] at h
   injection h with h;subst h
   exact⟨v,hv,λ_ h=>h⟩
 . rw[ho] at h has
   obtain⟨v,hv,rfl⟩:=one has
   refine⟨v,hv,?_⟩
   simp only[F,Fp] at h
   split at h<;>try cases h
   rename_i hq
   split at hq<;>cases hq
   rename_i e;cases e
   exact λ_ h=>h
 . rw[ho] at h has
   obtain⟨v,hv,rfl⟩:=one has
   refine⟨v,hv,?_⟩
   simp only[F,Fp] at h
   split at h<;>try cases h
   rename_i hq
   split at hq<;>try cases hq
   split at hq<;>try cases hq
   split at hq<;>try cases hq
   split at hq<;>try cases hq
   . rename_i e;cases e
     split at hq<;>cases hq
     exact λ_ h=>h
   all_goals
    rename_i e;cases e
    exact λ_ h=>h
 . rw[ho] at h has
   rename_i T' y' _
   simp only[Op.operands,getEs] at has
   split at has<;>try cases has
   rename_i v hv
   split at has<;>try cases has
   rename_i as' has'
   refine⟨v,hv,?_⟩
   simp only[F,Fp] at h
   split at h<;>try cases h
   rename_i hq
   split at hq<;>try cases hq
   rename_i e;cases e
   split at hq<;>try cases hq
   . unfold ixA at hq
     split at hq<;>try cases hq
     . unfold ixA.ixL at hq
       split at hq<;>try cases hq
       split at hq<;>cases hq
       exact λ_ h=>h.elim
     . unfold ixA.ixL at hq
       split at hq<;>try cases hq
       split at hq<;>cases hq
       exact λ_ h=>h.elim
     . unfold ixA.ixL at hq
       split at hq<;>try cases hq
       split at hq<;>cases hq
       exact λ_ h=>h.elim
     . split at hq<;>cases hq
       exact λ_ h=>h
     . split at hq<;>cases hq
       exact λ_ h=>h
   . split at hq<;>cases hq
     exact λ_ h=>h
theorem Ynf{o:Oper}{t:Nat}(ha:ldO o.op=some t){s:S}{r:AV×List (Nat×Ob)}(h:eff tb o s=some r): ∃v,s.1 t=some v/\((∃i,v.ids i)\/∀i,¬r.1.ids i):=by
 unfold ldO at ha
 split at ha<;>cases ha
 rename_i hop
 have:∃v,s.1 t=some v:=by
  unfold eff at h
  split at h<;>try cases h
  rename_i asx has
  rw[hop] at has
  simp only[Op.operands,getEs,Xcl] at has
  split at has<;>try cases has
  exact⟨_,by assumption⟩
 obtain⟨v,hv⟩:=this
 refine⟨v,hv,?_⟩
 have has:getEs s.1 o.op.operands.toList=some [v]:=by rw[hop];simp[Op.operands,getEs,Xcl,hv]
 unfold eff at h
 rw[has] at h
 simp only[hop,Xdu,W7f,F] at h
 split at h<;>try cases h
 rename_i ti hti
 cases v<;>try (cases h;done)
 . simp only[hti] at h
   split at h<;>cases h
   exact .inr λi hi=>Xmj _ i hi
 . exact .inl ⟨_,rfl⟩
 . exact .inl ⟨_,rfl⟩
theorem Yng{k:Oper}{T:TypeId}{a:Nat}(ho:k.op=.load T (.tmp a)){e:Ev}{g g':Hp}{r:AV×List (Nat×Ob)}{v:AV}(hv:e a=some v)(hg:∀i,v.ids i->g i=g' i)(h:eff tb k (e,g)=some r): r.2=[]/\eff tb k (e,g')=some r:=by
 have has:getEs e k.op.operands.toList=some [v]:=by rw[ho];simp[Op.operands,getEs,Xcl,hv]
 unfold eff at h |-
 rw[has] at h |-
 simp only[ho,Xdu,W7f,F] at h |-
 split at h<;>try cases h
 rename_i ti hti
 cases v<;>try (cases h;done)
 . simp only[hti] at h |-
   split at h<;>cases h
   rename_i hf
   exact⟨rfl,by simp[hf]⟩
 . simp only[hti] at h |-
   rw[<-hg _ rfl]
   split at h<;>try cases h
   rename_i hq
   split at h<;>cases h
   rename_i hy
   exact⟨rfl,by simp[hq,hy]⟩
 . simp only[hti] at h |-
   rw[<-hg _ rfl]
   split at h<;>try cases h
   rename_i hq
   split at h<;>try cases h
   rename_i hs
   split at h<;>try cases h
   rename_i hx
   split at h<;>cases h
   rename_i hy
   exact⟨rfl,by simp[hq,hs,hx,hy]⟩
theorem Ymu{i:Oper}{T:TypeId}{b:Nat}{x:Operand}(ho:i.op=.store T (.tmp b) x){e:Ev}{g:Hp}{r:AV×List (Nat×Ob)}(h:eff tb i (e,g)=some r): ∃v o ob,e b=some v/\v.ids o/\r.2=[(o,ob)]:=by
 unfold eff at h
 split at h<;>try cases h
 rename_i asx has
 rw[ho] at has
 simp only[Op.operands,getEs,Xcl] at has
 split at has<;>try cases has
 rename_i v hv
 split at has<;>try cases has
 rename_i as' has'
 split at h<;>try cases h
 rw[ho] at h
 simp only[F] at h
 split at h<;>try cases h
 split at h<;>try cases h
 . rename_i e;cases e
   split at h<;>try cases h
   split at h<;>cases h
   exact⟨_,_,_,hv,rfl,rfl⟩
 . rename_i e;cases e
   split at h<;>try cases h
   split at h<;>try cases h
   split at h<;>cases h
   exact⟨_,_,_,hv,rfl,rfl⟩
theorem Ye1{o:Oper}(hn:Xvu o.op=true){s:S}{r:AV×List (Nat×Ob)}(h:eff tb o s=some r): r.1=.ptr (o.dst.getD 0) 0:=by
 unfold eff at h
 split at h<;>try cases h
 rename_i asx has
 split at h<;>try cases h
 unfold Xvu at hn
 split at hn<;>try cases hn
 all_goals
  rename_i ho
  rw[ho] at h
  simp only[F] at h
 . split at h<;>cases h;rfl
 . split at h<;>try cases h
   split at h<;>cases h;rfl
theorem Yd0{a b:List Nat}(h:Yop a b=true){i:Nat}(hi:i∈a): i∈b:=Ynk.1 (W1s.1 h i hi)
theorem Ypi{s:S}{o:Oper}{r:AV×List (Nat×Ob)}{t:Nat}(h:o.dst≠some t): (aft s o r).1 t=s.1 t:=by
 unfold aft S.put
 cases hd:o.dst with
 | none=>rfl
 | some d=>exact Xam λe=>h (by rw[hd,e])
theorem Yob{s:S}{o:Oper}{r:AV×List (Nat×Ob)}{t:Nat}(h:o.dst=some t): (aft s o r).1 t=some r.1:=by
 unfold aft S.put
 rw[h];exact Xai ..
theorem ZT.aft{L:List Oper}{E:Env}{T:Trk}(hT:Xr4 (dsL L) E T L=true){o:Oper}(ho:o∈L){s:S}(hz:ZT (dsL L) E T s){r:AV×List (Nat×Ob)}
 (hr:r.1=.un\/(Xao o=true)\/eff tb o s=some r):ZT (dsL L) E T (aft s o r):=by
 refine⟨λt ht=>?_,λt l hl=>?_⟩
 . rw[Ypi λe=>by rw[Ynk.2 (Xwu e ho)] at ht;cases ht]
   exact hz.1 t ht
 . by_cases hd:o.dst=some t
   . refine .inr ⟨r.1,Yob hd,λi hi=>?_⟩
     simp only[Xr4,W0f] at hT
     have:=W1s.1 hT.2 o ho
     rw[hd] at this
     simp only[hl,W4v,W0f] at this
     rcases hr with hr | hr | hr
     . rw[hr] at hi;exact hi.elim
     . obtain⟨x,asx,tys,hc⟩:=Xmp hr
       rw[hc] at this
       simp[Xvu,Yla,ldO] at this
     . rcases this with ⟨h1,h2⟩ | h
       . rw[Ye1 h1 hr,hd] at hi
         have hi:i=t:=hi
         rw[hi];exact Ynk.1 h2
       . split at h
         . rename_i t' ha
           split at h
           . rename_i v hv
             obtain⟨x,hx,h1⟩:=Yf0 ha hr
             exact Yd0 h (Xrx hz hv hx (h1 i hi))
           . cases h
         . split at h
           . rename_i t' ha
             split at h
             . rename_i hv
               obtain⟨x,hx,⟨j,hj⟩ | h1⟩:=Ynf ha hr
               . exact absurd (Xrx hz hv hx hj) (by simp)
               . exact absurd hi (h1 i)
             . cases h
           . cases h
   . rw[Ypi hd];exact hz.2 t l hl
theorem Xfs{L:List Oper}{E:Env}{T:Trk}{k i:Oper}(h:Yjk L (dsL L) E T k i=true): Xao k=false/\Xao i=false/\Xcx L k.dst i=true/\Xcx L i.dst k=true/\∀ {s:S},ZT (dsL L) E T s ->
 (∀ {rk},efw tb L k s=some rk->rk.2=[])/\∀ {g:Hp} {ri:AV×List (Nat×Ob)},efw tb L i (s.1,g)=some ri->∀rk,efw tb L k (s.1,g)=some rk↔efw tb L k (s.1,Xbz g ri.2)=some rk:=by
 unfold Yjk at h
 split at h
 . rename_i T1 a T2 b x hk hi
   split at h
   . rename_i la lb hla hlb
     simp only[W0f] at h
     obtain⟨⟨h1,h2⟩,h3⟩:=h
     refine⟨by unfold Xao;rw[hk];rfl,by unfold Xao;rw[hi];rfl,h1,h2,λ{s} hz=>⟨λ{rk} hr=>?_,λ{g ri} hri rk=>?_⟩⟩
     . rcases Xct hr with ⟨_,e,_⟩ | ⟨_,e⟩
       . exact e
       . exact(Ype (o:=k) (by rw[hk];rfl) (e:=s.1) (g:=s.2) e).1
     . have key:∀ {g g':Hp},(∀o,o ∉ lb->g o=g' o)->efw tb L k (s.1,g)=some rk->efw tb L k (s.1,g')=some rk:=by
        intro g g' hg hr
        rcases Xct hr with ⟨_,_,e⟩ | ⟨hw,e⟩
        . exact e g'
        . have:∃v,s.1 a=some v:=by
           unfold eff at e
           split at e<;>try cases e
           rename_i asx has
           rw[hk] at has
           simp only[Op.operands,getEs,Xcl] at has
           split at has<;>try cases has
           exact⟨_,by assumption⟩
          obtain⟨v,hv⟩:=this
          refine Xjy (s:=(s.1,g)) hw (Yng hk hv (λo ho=>hg o λhb=>?_) e).2
          have:=W1s.1 h3 o (Xrx hz hla hv ho)
          rw[Ynk.2 hb] at this;cases this
       have hu:∀o,o ∉ lb->g o=Xbz g ri.2 o:=by
        intro o hob
        rcases Xct hri with ⟨_,e,_⟩ | ⟨_,e⟩
        . rw[e];rfl
        . obtain⟨v,o',ob,hv,ho',e2⟩:=Ymu hi e
          rw[e2]
          show g o=upd g o' ob o
          rw[Xam λe=>hob (by rw[e];exact Xrx hz hlb hv ho')]
       exact⟨key hu,key λo ho=>(hu o ho).symm⟩
   . cases h
 . cases h
theorem Dm.trk{L:List Oper}{E:Env}{T:Trk}(hT:Xr4 (dsL L) E T L=true): Dm tb L (spT L (dsL L) E T) (ZT (dsL L) E T):=by
 have fin:∀ {k i:Oper} {s:S} {rk ri:AV×List (Nat×Ob)},Xcx L i.dst k=true->rk.2=[]->Vm.aft (Vm.aft s i ri) k rk=Vm.aft (Vm.aft s k rk) i ri:=by
  intro k i s rk ri h hr
  unfold Vm.aft
  rw[S.put_g,S.put_g,hr]
  have e1:=S.put_e (s:=s) (g:=Xbz s.2 ri.2) (g':=s.2) (d:=i.dst) (v:=ri.1)
  have e2:=S.put_e (s:=s) (g:=Xbz s.2 []) (g':=s.2) (d:=k.dst) (v:=rk.1)
  rw[e1,e2]
  exact Xn4 (s:=s) (λa b ha hb=>Xit h ha hb) rfl
 have one:∀ {k i:Oper} {s:S} {rk ri:AV×List (Nat×Ob)},Yjk L (dsL L) E T k i=true->ZT (dsL L) E T s->efw tb L k s=some rk->efw tb L i s=some ri->efw tb L i (Vm.aft s k rk)=some ri/\efw tb L k (Vm.aft s i ri)=some rk/\Vm.aft (Vm.aft s i ri) k rk=Vm.aft (Vm.aft s k rk) i ri:=by
  intro k i s rk ri h hz h1 h2
  obtain⟨c1,c2,a1,a2,hh⟩:=Xfs (tb:=tb) h
  obtain⟨b1,b2⟩:=hh hz
  have e:=b1 h1
  exact⟨by rw[Xdb a1,e];exact h2,by rw[Xdb a2];exact(b2 (g:=s.2) h2 rk).1 h1,fin a2 e⟩
 refine⟨λ{k i} h=>?_,λ{k i s rk ri} h hz h1 h2=>?_,λ{k i s rk ri} h hz h1 h2=>?_,λ{k s r} hk hc hz h=>?_,λ{k s r} hk hc hz h=>ZT.aft (tb:=tb) hT hk hz (.inr (.inl hc))⟩
 . rcases W8b.1 h with h | h
   . have:=Xfs (tb:=tb) h;exact⟨this.1,this.2.1⟩
   . have:=Xfs (tb:=tb) h;exact⟨this.2.1,this.1⟩
 . rcases W8b.1 h with h | h
   . exact one h hz h1 h2
   . obtain⟨p1,p2,p3⟩:=one h hz h2 h1;exact⟨p2,p1,p3.symm⟩
 . rcases W8b.1 h with h | h
   . obtain⟨c1,c2,a1,a2,hh⟩:=Xfs (tb:=tb) h
     rw[Xdb a1,(hh hz).1 h1] at h2
     exact h2
   . obtain⟨c1,c2,a1,a2,hh⟩:=Xfs (tb:=tb) h
     rw[Xdb a2] at h2
     exact((hh hz).2 (g:=s.2) h1 ri).2 h2
 . refine ZT.aft (tb:=tb) hT hk hz ?_
   rcases Xct h with ⟨hw,_,e⟩ | ⟨_,e⟩
   . refine .inl ?_
     unfold efw at h
     rw[hw] at h
     simp only at h
     split at h<;>cases h
     rfl
   . exact .inr (.inr e)
section
variable{c:Cx}{s:St}
def Yqk: St->Bool
 | .o _ _ L _ _ E _=>Xr4 (dsL L) E (trk (dsL L) E L []) L&&Xi1 L (spT L (dsL L) E (trk (dsL L) E L [])) [] [] L
 | _=>false
theorem ZT.start{L:List Oper}{E:Env}{H:Hpl}{T:Trk}(hT:Xr4 (dsL L) E T L=true): ZT (dsL L) E T (sem E H):=by
 refine⟨λt _=>rfl,λt l hl=>.inl ?_⟩
 simp only[Xr4,W0f] at hT
 have:=W1s.1 hT.1 _ (Xba hl)
 rw[W1t] at this
 exact Xbl this
theorem Dz{s':St}(h:nxD c.tb c.n s=some s')(k:StP c s')(hchk:Yqk s'=true:=by exact rfl): StP c s:=by
 unfold nxD at h
 split at h<;>try cases h
 rename_i hr
 split at h<;>cases h
 rename_i hok
 have hchk:=Bool.and_eq_true_iff.1 hchk
 exact go 1000 hr (J.draw (Dm.trk hchk.1) (ZT.start hchk.1) hok hchk.2 k)
end
end
end
end Go.Vm

/- part 2 -/
import Derived.Test.YtcmjannkbdflmaaGreatDoorXA
import Derived.KernelRfl
import Derived.ProofKit
import Derived.OpenShut
import Derived.Test.YtcmjannkbdflmaaGreatDoorChecked
import Derived.Test.YtcmjannkbdflmaaGreatDoorRows
set_option linter.unusedVariables false
set_option linter.unusedSimpArgs false
set_option maxRecDepth 10000
namespace Go.Vm
open Go
section
section
variable{P:Program}{N:Nat->Prop}{W:GW}{θ:Loc}{g:Hp}{ρ:Operand->Value}
variable{tb:Nat->Option TI}{dd:Nat}{args:List AV}{v:AV}{us:List (Nat×Ob)}
theorem Ymi{l:List Operand}{a:AV}(h:Xbg W θ g ρ l [a]): ∃x,l=[x]:=by
 match l,h with
 | [x],_=>exact⟨x,rfl⟩
theorem Yhq{l:List Operand}{a b:AV}(h:Xbg W θ g ρ l [a,b]): ∃x y,l=[x,y]:=by
 match l,h with
 | [x,y],_=>exact⟨x,y,rfl⟩
 | [_],h=>exact h.2.elim
 | _::_::_::_,h=>exact h.2.2.elim
def Xeg: Op->Bool
 | .store _ _ _=>true
 | _=>false
theorem Yr0(U:∀T ti,tb T=some ti->TyOk P T ti/\∀a c,ti.z≠.pr a c)(B:Obs W θ N g)(Y:∀b,W.size<=b->N b)(Z:dd<1000000)(hy:∀u,ρ (.const u)=u){d:Option Nat}{op:Op}{ty:TypeId}{pos:String}{aft:Array Edge}{gd:Option (Nat×Bool)}
 (hs:Xeg op=true->d=none) (j:F tb dd g op args=some (v,us)) (ha:Xbg W θ g ρ op.operands.toList args):Good P N W θ g ρ ⟨d,op,ty,pos,aft,gd⟩ v (Xb1 g us):=by
 have I:∀T ti,tb T=some ti->TyOk P T ti:=λT ti h=>(U T ti h).1
 have O:∀ {op:Op},F tb dd g op args=(match Fp tb op args with | some v=>some (v,[]) | none=>none)->F tb dd g op args=some (v,us)->Fp tb op args=some v/\us=[]:=by
  intro op h1 h2
  rw[h1] at h2
  split at h2<;>cases h2
  rename_i h;exact⟨h,rfl⟩
 cases op with
 | load T x=>obtain⟨rfl,h⟩:=Yop (d:=d) (ty:=ty) (pos:=pos) (aft:=aft) (gd:=gd) U B j ha;exact h
 | store T x y=>have:=hs rfl;subst this;exact Yn6 U B j ha
 | alloc T =>
  have:args=[]:=by
   match args,ha with
   | [],_=>rfl
  subst this;exact Ypk U B Y Z j
 | box T x=>exact Ypd B Y Z j ha
 | makeSlice T x y=>exact Yon U B Y Z j ha
 | move x=>obtain⟨h,rfl⟩:=O rfl j;exact Yol B h ha
 | assign x=>obtain⟨h,rfl⟩:=O rfl j;exact Ypj B h ha
 | pick c x y=>obtain⟨h,rfl⟩:=O rfl j;exact Yfu B h ha
 | extract x i=>obtain⟨h,rfl⟩:=O rfl j;exact Ylf B h ha
 | unOp u T x=>obtain⟨h,rfl⟩:=O rfl j;exact Ynz B h ha
 | binOp o T x y T'=>obtain⟨h,rfl⟩:=O rfl j;exact Yme I B h ha (λu e=>by rw[e];exact hy u)
 | convert S T x=>obtain⟨h,rfl⟩:=O rfl j;exact Yha I B h ha
 | nilCheck x=>obtain⟨h,rfl⟩:=O rfl j;exact Yf3 B h ha
 | fieldAddr T x f=>obtain⟨h,rfl⟩:=O rfl j;exact Yld I B h ha
 | field T x f=>obtain⟨h,rfl⟩:=O rfl j;exact Yk9 I B h ha
 | indexAddr T x y=>obtain⟨h,rfl⟩:=O rfl j;exact Yk1 I B h ha
 | index T x y=>obtain⟨h,rfl⟩:=O rfl j;exact Ykz I B h ha
 | slice T x lo hi mx =>
  obtain⟨h,rfl⟩:=O rfl j
  exact Yjb I B h (by simpa [Op.operands] using ha)
 | build T ps =>
  obtain⟨h,rfl⟩:=O rfl j
  exact Ymb I B h (by simpa [Op.operands] using ha)
 | buildSlice T n ps =>
  obtain⟨h,rfl⟩:=O rfl j
  exact Ypf U B h (by simpa [Op.operands] using ha)
 | makeFunc fn a b =>
  obtain⟨h,rfl⟩:=O rfl j
  obtain⟨a⟩:=a
  obtain⟨b⟩:=b
  cases a with
  | cons x l=>simp[Fp] at h
  | nil=>cases b with
   | cons x l =>
    simp only[Fp] at h
    split at h
    . rename_i e;cases e
    . rename_i e
      cases e
      injection h with h
      subst h
      exact Yf8 B (by simpa [Op.operands] using ha)
    . rename_i e
      cases e
      split at h<;>cases h
      rename_i hc
      exact Yf7 B (by simpa [Op.operands] using ha) hc
    . cases h
   | nil=>exact Ykh (tb:=tb) (args:=args) B h
 | call c =>
  obtain⟨cal,asx,V⟩:=c
  cases cal with
  | builtin b =>
   have A:Xbg W θ g ρ asx.toList args:=by simpa [Op.operands,Call.operands] using ha
   have M:asx=asx.toList.toArray:=by simp
   cases b with
   | len =>
    obtain⟨h,rfl⟩:=O rfl j
    have:∃a,args=[a]:=by
     simp only[Fp] at h
     split at h<;>try cases h
     exact⟨_,rfl⟩
    obtain⟨a,rfl⟩:=this
    obtain⟨x,Q⟩:=Ymi A
    rw[Q] at M A;subst M
    exact Ykp I B h A
   | cap =>
    obtain⟨h,rfl⟩:=O rfl j
    have:∃a,args=[a]:=by
     simp only[Fp] at h
     split at h<;>try cases h
     exact⟨_,rfl⟩
    obtain⟨a,rfl⟩:=this
    obtain⟨x,Q⟩:=Ymi A
    rw[Q] at M A;subst M
    exact Yl5 I B h A
   | min =>
    obtain⟨h,rfl⟩:=O rfl j
    have:∃a c,args=[a,c]:=by
     simp only[Fp] at h
     split at h<;>try cases h
     exact⟨_,_,rfl⟩
    obtain⟨a,c,rfl⟩:=this
    obtain⟨x,y,Q⟩:=Yhq A
    rw[Q] at M A;subst M
    exact Ykj B h A
   | max =>
    obtain⟨h,rfl⟩:=O rfl j
    have:∃a c,args=[a,c]:=by
     simp only[Fp] at h
     split at h<;>try cases h
     exact⟨_,_,rfl⟩
    obtain⟨a,c,rfl⟩:=this
    obtain⟨x,y,Q⟩:=Yhq A
    rw[Q] at M A;subst M
    exact Ykn B h A
   | append =>
    have:∃a c T T',args=[a,c]/\V=#[T,T']:=by
     obtain⟨tl⟩:=V
     match tl,j with
     | [T,T'],j =>
      simp only[F] at j
      split at j<;>try cases j
      exact⟨_,_,T,T',rfl,rfl⟩
     | [],j=>simp[F,Fp] at j
     | [_],j=>simp[F,Fp] at j
     | _::_::_::_,j=>simp[F,Fp] at j
    obtain⟨a,c,T,T',rfl,rfl⟩:=this
    obtain⟨x,y,Q⟩:=Yhq A
    rw[Q] at M A;subst M
    exact Ymn U B Y Z j A
   | _=>simp[F,Fp] at j
  | _=>simp[F,Fp] at j
 | _=>simp[F,Fp] at j
end
end
section
def ofV: Value->Option AV
 | .int k z=>match k.wrap z==z with
  | true=>some (.d (.int k z))
  | false=>none
 | .bool c=>some (.b c)
 | .string ⟨⟨s⟩⟩=>match Nat.blt s.length 9223372036854775808 with
  | true=>some (.d (.str s))
  | false=>none
 | .slice none 0 0=>some .nil
 | .func f a b=>some (.d (.raw (.func f a b)))
 | .pointer none=>some (.d (.raw (.pointer none)))
 | .nilFunc=>some (.d (.raw .nilFunc))
 | _=>none
def Xcw(e:Ev): Operand->Option AV
 | .tmp t=>e t
 | .const v=>ofV v
 | .func f=>some (.d (.raw (.func (.func f) #[] #[])))
 | .global _=>none
def getEs(e:Ev): List Operand->Option (List AV)
 | []=>some []
 | x::l=>match Xcw e x with
  | none=>none
  | some a=>match getEs e l with
   | none=>none
   | some asx=>some (a::asx)
abbrev S:=Ev×Hp
def S.put(s:S)(d:Option Nat)(v:AV): S:=match d with
 | some d=>(upd s.1 d v,s.2)
 | none=>s
noncomputable def eff(tb:Nat->Option TI)(o:Oper)(s:S): Option (AV×List (Nat×Ob)) :=
 match getEs s.1 o.op.operands.toList with
 | none=>none
 | some asx=>match Xeg o.op&&o.dst.isSome with
  | true=>none
  | false=>F tb (o.dst.getD 0) s.2 o.op asx
def Xnz(h:List Oper)(j:Nat): Option Nat:=match h,j with
 | [],_=>none
 | o::_,0=>o.dst
 | _::l,j+1=>Xnz l j
def want(L:List Oper)(o:Oper)(s:S): Option Bool:=match o.guard with
 | none=>some true
 | some (j,b)=>match Xnz L j with
  | none=>none
  | some t=>match s.1 t with
   | some (.b c)=>some (c==b)
   | some .un=>some false
   | _=>none
def Xjg(W:GW)(θ:Loc): List AV->List Value->Prop
 | [],[]=>True
 | a::asx,v::h=>AV.V W θ a v/\Xjg W θ asx h
 | _,_=>False
def Ypp (P : Program) (f : FuncId) : Prop := ∃ fn, P.funcs[f]? = some fn ∧ (fn.name == "runtime.NumGoroutine") = false ∧ fn.body.isSome = true
class Gb (P:Program) where
 g:GW->Prop
 mono:∀W W',LeF W W'->g W->g W'
def CS(P:Program)[Gb P](f:FuncId)(asx:List AV)(g:Hp)(Post:AV->Hp->Prop): Prop :=
 Ypp P f/\∀(N:Nat->Prop) W θ o,Gb.g P W->Obs W θ N g->(∀b,W.size<=b->N b)->(∀a∈asx,∀i,a.ids i->∃y,g i=some y)->Xjg W θ asx o ->
  Calls P f o.toArray W.w λe A=>∃W' h v u j,e=.returned u/\W'.w=A/\Stp N W W' θ h g j/\AV.V W' h v u/\(∀i,v.ids i->∃y,j i=some y)/\Post v j
noncomputable def Xjk(tb:Nat->Option TI): List TypeId->List AV->List AV
 | T::Ts,a::asx=>(match tb T with
  | some h=>match plain a,toD h.z a with
   | true,some x=>.d x
   | _,_=>a
  | none=>a)::Xjk tb Ts asx
 | _,asx=>asx
def callee(e:Ev)(x:Operand): Option (FuncId×List AV):=match Xcw e x with
 | some (.d (.raw (.func (.func f) ⟨[]⟩ ⟨[]⟩)))=>some (f,[])
 | some (.fn f o)=>some (f,[.ptr o 0])
 | some (.fm f a)=>match okA a with
  | true=>some (f,unA a)
  | false=>none
 | _=>none
def aft(s:S)(o:Oper)(r:AV×List (Nat×Ob)): S:=S.put (s.1,Xb1 s.2 r.2) o.dst r.1
def Nu(h:Bool)(o:Oper)(us:List (Nat×Ob)): Prop:=us=[]\/(h=true/\∃d i,o.dst=some d/\us=[(d,i)])
def Cd(P:Program)[Gb P](f:FuncId)(asx:List AV)(o:Oper)(g:Hp)(h:Bool)(H0:Hp)(Q:AV×List (Nat×Ob)->Prop): Prop :=
 (h=true->∃d,o.dst=some d/\g d=none)/\(∀i y,H0 i=some y->g i=some y/\∃a∈asx,a.ids i) /\
 ∀g,(∀i y,H0 i=some y->g i=some y)->(h=true->∀d,o.dst=some d->g d=none)->CS P f asx g λv j=>∃us,Nu h o us/\j=Xb1 g us/\Q (v,us)
def Raw(P:Program)[Gb P](o:Oper)(s:S)(r:AV×List (Nat×Ob)): Prop :=
 ∀(N:Nat->Prop) (W:GW) (θ:Loc) (ρ:Operand->Value),(Gb.g P W/\∀g,ρ (.global g)=.pointer (some ⟨g,0,none⟩))->Obs W θ N s.2->(∀b,W.size<=b->N b)->o.dst.getD 0<1000000->(∀x v,Xcw s.1 x=some v->AV.V W θ v (ρ x))->Good P N W θ s.2 ρ o r.1 (Xb1 s.2 r.2)
def Wb(P:Program)[Gb P](tb:Nat->Option TI)(dr:Bool)(o:Oper)(R:S->Prop)(s:S): Prop :=
 match o.op with
 | .call ⟨.value x,asx,i⟩=>∃f ex j,callee s.1 x=some (f,ex)/\getEs s.1 asx.toList=some j/\match dr with
  | true=>∃A H0 Q,Cd P f (Xjk tb i.toList j++ex) o s.2 A H0 Q/\∀r,Nu A o r.2->Q r->R (aft s o r)
  | false=>∃h Post,(h=Xjk tb i.toList j\/h=j)/\CS P f (h++ex) s.2 Post/\∀v B,Post v B->R (S.put (s.1,B) o.dst v)
 | _=>(∃r,eff tb o s=some r/\R (S.put (s.1,Xb1 s.2 r.2) o.dst r.1))\/(dr=false/\∃r,Raw P o s r/\R (S.put (s.1,Xb1 s.2 r.2) o.dst r.1))
def Wo(P:Program)[Gb P](tb:Nat->Option TI)(dr:Bool)(L:List Oper)(o:Oper)(R:S->Prop)(s:S): Prop :=
 (want L o s=some true/\Wb P tb dr o R s)\/(want L o s=some false/\∃d,o.dst=some d/\R (s.put (some d) .un))
section
variable{P:Program}{tb:Nat->Option TI}{W:GW}{θ:Loc}{n:Nat}
theorem Yj5{v:Value}{a:AV}(h:ofV v=some a): AV.V W θ a v/\∀i,¬a.ids i:=by
 unfold ofV at h
 split at h<;>try cases h
 . split at h<;>cases h
   rename_i j
   exact⟨int_V (by unfold inR;simpa using j),λ_ h=>h⟩
 . exact⟨b_V _,λ_ h=>h⟩
 . split at h<;>cases h
   rename_i hb
   exact⟨Xmr (by simpa [Nat.blt_eq] using hb),λ_ h=>h⟩
 . exact⟨⟨_,⟨_,rfl⟩,rfl⟩,λ_ h=>h⟩
 . exact⟨⟨_,⟨rfl,rfl⟩,rfl⟩,λ_ h=>h⟩
 . exact⟨⟨_,⟨rfl,rfl⟩,rfl⟩,λ_ h=>h⟩
 . exact⟨⟨_,⟨rfl,rfl⟩,rfl⟩,λ_ h=>h⟩
theorem Xir{W0:GW}{X:Nat->Prop}{s:S}{a:Act}(h:Sat W0 X n s a W θ){x:Operand}{v:AV}(j:Xcw s.1 x=some v): AV.V W θ v (a.eval x)/\∀i,v.ids i->∃y,s.2 i=some y:=by
 cases x with
 | tmp t=>exact⟨h.rel.has t v j,λi hi=>h.ids t v i j hi⟩
 | const c=>have k:=Yj5 (W:=W) (θ:=θ) j;exact⟨k.1,λi hi=>absurd hi (k.2 i)⟩
 | func f=>simp only[Xcw,Option.some.injEq] at j;subst j;exact⟨⟨_,⟨rfl,rfl⟩,rfl⟩,λ_ h=>h.elim⟩
 | global g=>simp[Xcw] at j
theorem Xpq{W0:GW}{X:Nat->Prop}{s:S}{a:Act}(h:Sat W0 X n s a W θ): ∀ {l:List Operand} {vs:List AV},getEs s.1 l=some vs->Xbg W θ s.2 a.eval l vs
 | [],vs,i=>by simp only[getEs] at i;injection i with i;subst i;trivial
 | x::l,vs,i=>by
  simp only[getEs] at i
  split at i<;>try cases i
  rename_i v o
  split at i<;>cases i
  rename_i asx j
  exact⟨Xir h o,Xpq h j⟩
theorem Xjp{W0:GW}{X:Nat->Prop}{s:S}{a:Act}(h:Sat W0 X n s a W θ){L:List Oper}{o:Oper}{c:Bool}(i:want L o s=some c): Region.wanted o (yielded L.toArray a.tmps)=c:=by
 unfold want at i
 unfold Region.wanted
 split at i
 . rename_i M;injection i with i;subst i;rw[M]
 . rename_i j b M
   rw[M]
   split at i<;>try cases i
   rename_i t O
   have hd:∀(l:List Oper) j,Xnz l j=(l[j]?).bind (·.dst):=by
    intro l
    induction l with
    | nil=>intro j;simp[Xnz]
    | cons o l T=>intro j;cases j with
     | zero=>rfl
     | succ j=>simp[Xnz,T]
   rw[hd] at O
   split at i<;>cases i
   . rename_i U Q
     have B:=V_b (h.rel.has t _ Q)
     have I:a.tmps[t]?=some (.bool U):=by
      simp only[Array.getD] at B
      split at B
      . rename_i A
        rw[W6x A]
        exact congrArg some B
      . simp[undef] at B
     simp[yielded,O,I]
   . rename_i Q
     have B:a.tmps.getD t undef=undef:=h.rel.has t _ Q
     have I:a.tmps[t]?=none\/a.tmps[t]?=some undef:=by
      simp only[Array.getD] at B
      split at B
      . rename_i A
        rw[W6x A]
        exact .inr (congrArg some B)
      . rename_i A;exact .inl (W4b (by omega))
     rcases I with I | I<;>simp[yielded,O,I,undef]
theorem Yi1{z:D}{a:AV}{x:D}(h:toD z a=some x)(hp:plain a=true): a.ag=x.ag:=by
 unfold toD at h
 split at h
 all_goals first
  | (injection h with h;subst h;rfl)
  | (cases hp;done)
  | (cases h;done)
  | (split at h<;>cases h;rfl)
theorem Xr1{g:Hp}{ρ:Operand->Value}(A:∀T ti,tb T=some ti->TyOk P T ti/\∀a c,ti.z≠.pr a c): ∀ {Ts:List TypeId} {l:List Operand} {asx:List AV},Xbg W θ g ρ l asx ->
 Xjg W θ (Xjk tb Ts asx) (l.map ρ)/\∀a∈Xjk tb Ts asx,∀i,a.ids i->∃y,g i=some y
 | [],[],[],_=>⟨trivial,λa h=>by simp[Xjk] at h⟩
 | T::Ts,[],[],_=>⟨trivial,λa h=>by simp[Xjk] at h⟩
 | [],x::l,a::asx,h=>by
  have k:=Xr1 (Ts:=[]) A h.2
  simp only[Xjk] at k |-
  exact⟨⟨h.1.1,k.1⟩,λb hb=>by
   rcases W1h.1 hb with e | e
   . subst e;exact h.1.2
   . exact k.2 b e⟩
 | T::Ts,x::l,a::asx,h=>by
  have k:=Xr1 (Ts:=Ts) A h.2
  have o:∀b,b=a\/(∃x,b=.d x/\plain a=true/\∃z,toD z a=some x)->Xjg W θ (b::Xjk tb Ts asx) ((x::l).map ρ)/\∀c∈b::Xjk tb Ts asx,∀i,c.ids i->∃y,g i=some y:=by
   intro b hb
   rcases hb with rfl | ⟨y,rfl,hp,z,B⟩
   . exact⟨⟨h.1.1,k.1⟩,λc j=>by
      rcases W1h.1 j with e | e
      . subst e;exact h.1.2
      . exact k.2 c e⟩
   . refine⟨⟨?_,k.1⟩,λc j=>by
      rcases W1h.1 j with e | e
      . subst e;exact λ_ h=>h.elim
      . exact k.2 c e⟩
     obtain⟨cs,j,e⟩:=V_c h.1.1 (λb e=>by subst e;cases hp) (λe=>by subst e;cases hp)
     have I:=Xmq B j
     refine⟨cs,I,?_⟩
     show ρ x=_
     rw[e]
     have:a.ag=y.ag:=Yi1 B hp
     rw[this];rfl
  simp only[Xjk]
  refine o _ ?_
  split
  . split
    . rename_i hp M;exact .inr ⟨_,rfl,hp,_,M⟩
    . exact .inl rfl
  . exact .inl rfl
 | _,[],_::_,h=>h.elim
 | _,_::_,[],h=>h.elim
end
end
section
def Nx(W0:GW)(X:Nat->Prop)(θ0:Loc)(n:Nat)(R:S->Prop)(a:Act)(w:World): Prop :=
 ∃s W θ,W.w=w/\Sat W0 X n s a W θ/\(∀i,1000000<=i->θ i=θ0 i)/\R s
theorem Nx.mono{W0:GW}{X:Nat->Prop}{θ0:Loc}{n:Nat}{R R':S->Prop}{a:Act}{w:World}(h:Nx W0 X θ0 n R a w)(k:∀s,R s->R' s): Nx W0 X θ0 n R' a w :=
 let ⟨s,W,θ,i,j,o,A⟩:=h;⟨s,W,θ,i,j,o,k s A⟩
def Xek(n:Nat)(o:Oper): Bool:=match o.dst with
 | none=>true
 | some d=>Nat.blt d n
section
variable{P:Program}[Gb P]{tb:Nat->Option TI}{W0:GW}{X:Nat->Prop}{θ0:Loc}{n:Nat}
theorem Xvc{s:S}{a:Act}{W W':GW}{θ θ':Loc}{g':Hp}{v:AV}{u:Value}{o:Oper}(h:Sat W0 X n s a W θ)(k:Stp (λb=>W0.size<=b\/X b) W W' θ θ' s.2 g')(hd:Xek n o=true)(A:AV.V W' θ' v u)
 (hi:∀i,v.ids i->∃y,g' i=some y):Sat W0 X n (S.put (s.1,g') o.dst v) (a.put o.dst u) W' θ':=by
 have j:=h.step0 k
 unfold Xek at hd
 cases e:o.dst with
 | none=>exact j
 | some d =>
  rw[e] at hd
  exact j.put (Xr4 hd) A hi
theorem Ydk{a:AV}{W:GW}{θ:Loc}{cs:List Value}(h:Ydm a=true)(i:AV.C W θ a cs): ∃v,cs=[v]/\AV.V W θ a v:=by
 unfold Ydm at h
 split at h<;>try cases h
 all_goals first
  | (obtain⟨b,j,o⟩:=i;exact⟨_,o,⟨_,⟨b,j,rfl⟩,rfl⟩⟩)
  | (obtain⟨j,o⟩:=i;exact⟨_,j,⟨_,⟨rfl,o⟩,rfl⟩⟩)
  | (exact⟨_,i,⟨_,rfl,rfl⟩⟩)
theorem Yn0{W:GW}{θ:Loc}: ∀ {a:AV} {vs:List Value},okA a=true->AV.C W θ a vs->Xjg W θ (unA a) vs/\∀b∈unA a,∀i,b.ids i->a.ids i:=by
 intro a
 induction a with
 | pr a c _ o =>
  intro vs h ⟨u,v,e,A,B⟩
  simp only[okA,W0h] at h
  obtain⟨w,rfl,j⟩:=Ydk h.1 A
  obtain⟨I,M⟩:=o h.2 B
  subst e
  exact⟨⟨j,I⟩,λb hb i hi=>(W1h.1 hb).elim (λe=>.inl (e ▸ hi)) λhb=>.inr (M b hb i hi)⟩
 | _ =>
  intro vs h O
  obtain⟨w,rfl,j⟩:=Ydk h O
  exact⟨⟨j,trivial⟩,λb hb i hi=>by rcases W0f.1 hb with rfl;exact hi⟩
theorem Ypn(hT:∀T ti,tb T=some ti->TyOk P T ti/\∀a c,ti.z≠.pr a c)(hn:n<=1000000/\Gb.g P W0){dr:Bool}{o:Oper}(hd:Xek n o=true){R:S->Prop}{Q:Exit->Act->World->Prop}{s:S}{a:Act}{W:GW}{θ:Loc}(hs:Sat W0 X n s a W θ)
 (hθ:∀i,1000000<=i->θ i=θ0 i) (h:Wb P tb dr o R s):o.wp P a W.w (Nx W0 X θ0 n R) Q:=by
 have hN:∀b,W.size<=b->(λb=>W0.size<=b\/X b) b:=λb hb=>.inl (W0l hs.fm.size hb)
 unfold Wb at h
 split at h
 . rename_i x asx tys he
   obtain⟨f,ex,vs,hc,hg,h⟩:=h
   have h:∃as' Post,(as'=Xjk tb tys.toList vs\/as'=vs)/\CS P f (as'++ex) s.2 Post/\∀v g',Post v g'->R (S.put (s.1,g') o.dst v):=by
    cases dr with
    | true =>
     obtain⟨nw,H0,Q,⟨h1,h2,h3⟩,h4⟩:=h
     exact⟨_,_,.inl rfl,h3 s.2 (λi y hi=>(h2 i y hi).1) (λhn d hd=>by obtain⟨d',e,k⟩:=h1 hn;rw[hd] at e;injection e with e;subst e;exact k),λv g' ⟨us,u1,u2,u3⟩=>by rw[u2];exact h4 (v,us) u1 u3⟩
    | false=>exact h
   obtain⟨as',Post,has',⟨⟨fn,f1,f2,f3⟩,hcs⟩,hR⟩:=h
   have ha:=Xpq hs hg
   have hna:Xjg W θ as' (asx.toList.map a.eval)/\∀a∈as',∀i,a.ids i->∃y,s.2 i=some y:=by
    rcases has' with rfl | rfl
    . exact Xr1 (Ts:=tys.toList) hT ha
    . have:=Xr1 (Ts:=[]) hT ha
      simpa only [Xjk] using this
   have hb:¬fn.body=none:=λh=>by rw[h] at f3;cases f3
   have h2' : ¬ fn.name = "runtime.NumGoroutine" := by simpa using f2
   obtain⟨exs,hr,hex⟩:∃exs:List Value,(execOp a.eval o).run P W.w=.ok (.enter f (asx.toList.map a.eval++exs).toArray) W.w/\Xjg W θ ex exs/\∀a∈ex,∀i,a.ids i->∃y,s.2 i=some y:=by
    unfold callee at hc
    split at hc<;>try cases hc
    . rename_i hx
      have hx:a.eval x=.func (.func f) #[] #[]:=by
       obtain⟨⟨cs,⟨h1,_⟩,h2⟩,_⟩:=Xir hs hx
       rw[h2,h1];rfl
      refine⟨[],?_,trivial,λa h=>by cases h⟩
      simp only[execOp,he,resolve,hx,Deferred.ofValue]
      simp[invoke,callFunc,program,bind,Sem.bind,Sem.run,pure,f1,h2',hb]
      apply Array.ext';simp
    . rename_i o' hx
      obtain⟨⟨cs,⟨b,h1,h2⟩,h3⟩,h4⟩:=Xir hs hx
      have hx:a.eval x=.func (.func f) #[] #[.pointer (some ⟨b,0,none⟩)]:=by rw[h3,h2];rfl
      refine⟨[.pointer (some ⟨b,0,none⟩)],?_,⟨Xtm h1,trivial⟩,λa h i hi=>by rcases W0f.1 h with rfl;exact h4 i hi⟩
      simp only[execOp,he,resolve,hx,Deferred.ofValue]
      simp[invoke,callFunc,program,bind,Sem.bind,Sem.run,pure,f1,h2',hb]
      apply Array.ext';simp
    . rename_i a' hx
      split at hc<;>cases hc
      rename_i hq
      obtain⟨⟨cs,⟨vs',h1,h2⟩,h3⟩,h4⟩:=Xir hs hx
      have hx:a.eval x=.func (.func f) #[] vs'.toArray:=by rw[h3,h2];rfl
      obtain⟨k1,k2⟩:=Yn0 hq h1
      refine⟨vs',?_,k1,λa h i hi=>h4 i (k2 a h i hi)⟩
      simp only[execOp,he,resolve,hx,Deferred.ofValue]
      simp[invoke,callFunc,program,bind,Sem.bind,Sem.run,pure,f1,h2',hb]
   have happ:∀ {l:List AV} {m:List Value},Xjg W θ l m->Xjg W θ (l++ex) (m++exs):=by
    intro l
    induction l with
    | nil=>intro m hm;cases m with
     | nil=>exact hex.1
     | cons _ _=>exact hm.elim
    | cons a l ih=>intro m hm;cases m with
     | nil=>exact hm.elim
     | cons _ _=>exact⟨hm.1,ih hm.2⟩
   unfold Oper.wp
   rw[hr,Oper.upon_enter]
   refine(hcs (λb=>W0.size<=b\/X b) W θ _ (Gb.mono W0 W hs.fm.le hn.2) hs.obs hN (λa ha=>(W2c.1 ha).elim (hna.2 a) (hex.2 a)) (happ hna.1)).mono ?_
   rintro e w' ⟨W',θ',v,u,g',rfl,rfl,hst,hv,hi,hp⟩
   exact⟨_,W',θ',rfl,Xvc hs hst hd hv hi,λi hi=>(hst.hi i hi).trans (hθ i hi),hR v g' hp⟩
 . have hdB:o.dst.getD 0<1000000:=by
    unfold Xek at hd
    cases e:o.dst with
    | none=>exact W3u _
    | some d=>rw[e] at hd;exact W0u (Xr4 hd) hn.1
   have hg:∃v us,Good P (λb=>W0.size<=b\/X b) W θ s.2 a.eval ⟨o.dst,o.op,o.type,o.pos,o.after,o.guard⟩ v (Xb1 s.2 us)/\R (S.put (s.1,Xb1 s.2 us) o.dst v):=by
    rcases h with ⟨⟨v,us⟩,he,hR⟩ | ⟨_,⟨v,us⟩,hw,hR⟩
    . unfold eff at he
      split at he<;>try cases he
      rename_i asx has
      split at he<;>try cases he
      rename_i hst
      exact⟨v,us,Yr0 hT hs.obs hN hdB (λ_=>rfl) (λh=>by
       rw[h,W6h] at hst
       cases e:o.dst with
       | none=>rfl
       | some d=>rw[e] at hst;cases hst) he (Xpq hs has),hR⟩
    . exact⟨v,us,hw _ W θ _ ⟨Gb.mono W0 W hs.fm.le hn.2,λ_=>rfl⟩ hs.obs hN hdB λx v hx=>(Xir hs hx).1,hR⟩
   obtain⟨v,us,hg,hR⟩:=hg
   obtain⟨W',θ',r,hrun,hstp,hres,hi⟩:=hg
   unfold Oper.wp
   rw[show (execOp a.eval o).run P W.w=.ok r W'.w from hrun]
   rcases hres with ⟨rfl,h0⟩ | ⟨u,rfl,hv⟩
   . rw[Oper.upon_skip]
     have h0:o.dst=none:=h0
     rw[h0] at hR |-
     exact⟨_,W',θ',rfl,hs.step0 hstp,λi hi=>(hstp.hi i hi).trans (hθ i hi),hR⟩
   . rw[Oper.upon_value]
     exact⟨_,W',θ',rfl,Xvc hs hstp hd hv hi,λi hi=>(hstp.hi i hi).trans (hθ i hi),hR⟩
theorem Yhx(B:∀T ti,tb T=some ti->TyOk P T ti/\∀a c,ti.z≠.pr a c)(I:n<=1000000/\Gb.g P W0){dr:Bool}{L:List Oper}{o:Oper}(hd:Xek n o=true){R:S->Prop}{Q:Exit->Act->World->Prop}{a:Act}{w:World}
 (h:Nx W0 X θ0 n (Wo P tb dr L o R) a w):if Region.wanted o (yielded L.toArray a.tmps) then o.wp P a w (Nx W0 X θ0 n R) Q else Nx W0 X θ0 n R (a.put o.dst undef) w:=by
 obtain⟨s,W,θ,rfl,hs,i,h⟩:=h
 rcases h with ⟨j,A⟩ | ⟨j,d,A,M⟩
 . rw[if_pos (Xjp hs j)]
   exact Ypn B I hd hs i A
 . rw[Xjp hs j]
   unfold Xek at hd
   rw[A] at hd |-
   exact⟨_,W,θ,rfl,hs.put (v:=.un) (Xr4 hd) rfl (λ_ h=>h.elim),i,M⟩
omit [Gb P] in
theorem Ynu{o:Oper}{a:Act}{w:World}{K:Act->World->Prop}(h:o.wp P a w K (λ_ _ _=>False)): ∃j w',K j w':=by
 unfold Oper.wp at h
 generalize (execOp a.eval o).run P w=r at *
 cases r with
 | ok x w' =>
  cases x<;>simp only[Oper.upon] at h
  all_goals first
   | exact⟨_,_,h⟩
   | (obtain⟨e, w2, fr, i, _⟩ := h []
      cases e with
      | returned v=>exact⟨_,_,i⟩
      | panicked c=>exact i.elim
      | outgrown=>obtain⟨_,_,h⟩:=i;exact h.elim)
   | (obtain⟨v, w2, i, _⟩ := h default []
      exact⟨_,_,i⟩)
   | exact h.elim
 | halt x w'=>cases x<;>simp only[Oper.upon] at h<;>exact h.elim
theorem Nx.next(i:∀T ti,tb T=some ti->TyOk P T ti/\∀a c,ti.z≠.pr a c)(j:n<=1000000/\Gb.g P W0){dr:Bool}{L:List Oper}{o:Oper}(hd:Xek n o=true){R:S->Prop}{a:Act}{w:World}(h:Nx W0 X θ0 n (Wo P tb dr L o R) a w):
 ∃A w',Nx W0 X θ0 n R A w':=by
 have:=Yhx (Q:=λ_ _ _=>False) i j hd h
 split at this
 . exact Ynu this
 . exact⟨_,_,this⟩
def WL(P:Program)[Gb P](tb:Nat->Option TI)(dr:Bool)(L:List Oper)(R:S->Prop): List Oper->S->Prop
 | [],s=>R s
 | o::l,s=>Wo P tb dr L o (WL P tb dr L R l) s
theorem Xzi(O:∀T ti,tb T=some ti->TyOk P T ti/\∀a c,ti.z≠.pr a c)(U:n<=1000000/\Gb.g P W0){L:List Oper}{R:S->Prop}{Q:Exit->Act->World->Prop}(V:∀a w,Nx W0 X θ0 n R a w->Q .normal a w)(l:List Oper):
 ∀(i:Nat) (a:Act) (w:World),L.drop i=l->(l.all (Xek n))=true->Nx W0 X θ0 n (WL P tb false L R l) a w->wpOps P L.toArray Q (List.range' i l.length) a w:=by
 induction l with
 | nil=>intro i a w _ _ h;exact V a w h
 | cons o l B =>
  intro i a w hd j h
  rw[W6i,W0h] at j
  have Y:L.toArray[i]?=some o:=by
   have I:(L.drop i)[0]?=some o:=by rw[hd];rfl
   rw[W2h] at I
   simpa using I
  have M:L.drop (i+1)=l:=by
   have:(L.drop i).drop 1=l:=by rw[hd];rfl
   rwa[W4u] at this
  rw[W0j,List.range'_succ]
  simp only[wpOps,Y]
  have:=Yhx (Q:=Q) O U j.1 h
  split at this
  . rename_i A
    rw[if_pos A]
    exact .inl (Oper.wp_mono (λa w h=>B (i+1) a w M j.2 h) this)
  . rename_i A
    rw[if_neg A]
    exact B (i+1) _ w M j.2 this
end
end
section
def Xge: List Operand->List Nat
 | []=>[]
 | .tmp t::l=>t::Xge l
 | _::l=>Xge l
def inL(d:Nat): List Nat->Bool
 | []=>false
 | x::l=>Nat.beq d x||inL d l
def Xo3(L:List Oper)(o:Oper): List Nat:=(match o.guard with
 | none=>[]
 | some (j,_)=>(Xnz L j).toList)++Xge o.op.operands.toList
def cls: Op->Nat
 | .load _ _=>1
 | .alloc _ | .box _ _ | .makeSlice _ _ _=>2
 | .store _ _ _=>3
 | .call ⟨.builtin .append,_,_⟩=>3
 | .call ⟨.value _,_,_⟩=>4
 | _=>0
def Ybx: Nat->Nat->Bool
 | 0,_=>true
 | _,0=>true
 | 1,1 | 1,2 | 2,1 | 2,2=>true
 | 4,1 | 4,2 | 1,4 | 2,4=>true
 | _,_=>false
def Xcy(L:List Oper)(d:Option Nat)(o:Oper): Bool:=match d with
 | none=>true
 | some d=>!inL d (Xo3 L o) && !inL d o.dst.toList
def Xlt(L:List Oper)(k i:Oper): Bool:=Xcy L k.dst i&&Xcy L i.dst k&&Ybx (cls k.op) (cls i.op)&&(!(Nat.beq (cls k.op) 2)||k.dst.isSome)&&(!(Nat.beq (cls i.op) 2)||i.dst.isSome)
theorem You{d:Nat}{l:List Nat}: inL d l=true↔d∈l:=by
 induction l with
 | nil=>simp[inL]
 | cons x l h=>simp[inL,h,Nat.beq_eq]
section
variable{P:Program}[Gb P]{tb:Nat->Option TI}
theorem Ya0{e:Ev}{d:Nat}{v:AV}{x:Operand}(h:d ∉ Xge [x]): Xcw (upd e d v) x=Xcw e x:=by
 cases x with
 | tmp t=>simp only[Xge,W0f] at h;exact Xam (λe=>h e.symm)
 | _=>rfl
theorem Xby(x:Operand)(l:List Operand): Xge (x::l)=Xge [x]++Xge l:=by cases x<;>rfl
theorem Xnq{e:Ev}{d:Nat}{v:AV}: ∀ {l:List Operand},d ∉ Xge l->getEs (upd e d v) l=getEs e l
 | [],_=>rfl
 | x::l,h=>by
  rw[Xby] at h
  simp only[getEs]
  rw[Ya0 (λk=>h (W2l _ k)),Xnq (λk=>h (W1r _ k))]
theorem Xzk{L:List Oper}{o:Oper}{s:S}{d:Option Nat}{v:AV}{g:Hp}(h:Xcy L d o=true): want L o (S.put (s.1,g) d v)=want L o s:=by
 cases d with
 | none=>rfl
 | some d =>
  simp only[Xcy,W0h,W1u] at h
  unfold want
  split
  . rfl
  . rename_i j b i
    split
    . rfl
    . rename_i t A
      have:t≠d:=λe=>by
       have B:d ∉ Xo3 L o:=λI=>by rw[You.2 I] at h;exact absurd h.1 (by simp)
       apply B
       simp[Xo3,i,A,e]
      simp only[S.put]
      rw[Xam this]
theorem Yg0{L:List Oper}{o:Oper}{s:S}{d:Option Nat}{v:AV}{g:Hp}(h:Xcy L d o=true): eff tb o (S.put (s.1,g) d v)=eff tb o (s.1,g):=by
 cases d with
 | none=>rfl
 | some d =>
  simp only[Xcy,W0h,W1u] at h
  have i:d ∉ Xge o.op.operands.toList:=λj=>by
   rw[show inL d (Xo3 L o)=true from You.2 (W1r _ j)] at h;exact absurd h.1 (by simp)
  unfold eff
  simp only[S.put]
  rw[Xnq i]
noncomputable def efw(tb:Nat->Option TI)(L:List Oper)(o:Oper)(s:S): Option (AV×List (Nat×Ob)):=match want L o s with
 | some true=>eff tb o s
 | some false=>match o.dst with
  | some _=>some (.un,[])
  | none=>none
 | none=>none
def Xap(o:Oper): Bool:=Nat.beq (cls o.op) 4
theorem Xp5{dr:Bool}{o:Oper}(h:Xap o=false){R:S->Prop}{s:S}: Wb P tb dr o R s↔(∃r,eff tb o s=some r/\R (aft s o r))\/(dr=false/\∃r,Raw P o s r/\R (aft s o r)):=by
 unfold Wb
 split
 . rename_i x asx i j
   simp[Xap,cls,j] at h
 . exact W4f
theorem Ymr{o:Oper}(h:Xap o=false){R:S->Prop}{s:S}: Wb P tb true o R s↔∃r,eff tb o s=some r/\R (aft s o r) :=
 (Xp5 h).trans ⟨λh=>h.elim id λh=>(nomatch h.1),.inl⟩
theorem Xe7{L:List Oper}{o:Oper}(h:Xap o=false){R:S->Prop}{s:S}: Wo P tb true L o R s↔∃r,efw tb L o s=some r/\R (aft s o r):=by
 unfold Wo efw
 cases i:want L o s with
 | none=>simp
 | some c =>
  cases c with
  | true=>simp[Ymr h]
  | false =>
   cases hd:o.dst with
   | none=>simp
   | some d=>simp[aft,S.put,Xb1,hd]
theorem Ygz{L:List Oper}{o:Oper}{s:S}{d:Option Nat}{v:AV}{g:Hp}(h:Xcy L d o=true): efw tb L o (S.put (s.1,g) d v)=efw tb L o (s.1,g):=by
 unfold efw
 rw[Xzk h,Yg0 h]
 rfl
theorem Xma(c:Call): cls (.call c)=0\/cls (.call c)=3\/cls (.call c)=4:=by
 obtain⟨cal,asx,h⟩:=c
 cases cal with
 | builtin b=>cases b<;>first | exact .inl rfl | exact .inr (.inl rfl)
 | value x=>exact .inr (.inr rfl)
 | invoke x m=>exact .inl rfl
theorem Yrq{o:Oper}(B:cls o.op=0){e:Ev}{g:Hp}{r:AV×List (Nat×Ob)}(h:eff tb o (e,g)=some r): r.2=[]/\∀g',eff tb o (e,g')=some r:=by
 unfold eff at h |-
 split at h<;>try cases h
 rename_i asx j
 split at h<;>try cases h
 rename_i A
 have i:∀g,F tb (o.dst.getD 0) g o.op asx=(match Fp tb o.op asx with | some v=>some (v,[]) | none=>none):=by
  intro g
  unfold F
  split<;>first | rfl | (rename_i I;rw[I] at B;cases B)
 rw[i] at h
 split at h<;>cases h
 rename_i v M
 refine⟨rfl,λg'=>?_⟩
 simp only[j,A,i,M]
theorem Yqo{o:Oper}(O:cls o.op=1){e:Ev}{g:Hp}{r:AV×List (Nat×Ob)}(h:eff tb o (e,g)=some r): r.2=[]/\(∀d B,g d=none->eff tb o (e,upd g d B)=some r):=by
 unfold eff at h |-
 split at h<;>try cases h
 rename_i asx j
 split at h<;>try cases h
 rename_i Q
 have:∃T x,o.op=.load T x:=by
  cases i:o.op<;>rw[i] at O<;>first | exact⟨_,_,rfl⟩ | (cases O;done) | (rename_i c;have:=Xma c;omega)
 obtain⟨T,x,i⟩:=this
 simp only[i] at h j |-
 simp only[F] at h
 split at h<;>try cases h
 rename_i V A
 split at h<;>try cases h
 . split at h<;>cases h
   rename_i hf
   exact⟨rfl,λd B I=>by simp[j,F,A,hf,Xeg]⟩
 . split at h<;>try cases h
   rename_i a ha
   split at h<;>cases h
   rename_i y M
   refine⟨rfl,λd B I=>?_⟩
   have:∀ {o},g o=some (.var a)->upd g d B o=some (.var a):=λi=>by rw[Xam (λe=>by rw[e,I] at i;cases i)];exact i
   simp[j,F,A,this ha,M,Xeg]
 . split at h<;>try cases h
   rename_i sz xs ha
   split at h<;>try cases h
   rename_i hs
   split at h<;>try cases h
   rename_i Y U
   split at h<;>cases h
   rename_i y M
   refine⟨rfl,λd B I=>?_⟩
   have:∀ {o sz xs},g o=some (.arr sz xs)->upd g d B o=some (.arr sz xs):=λi=>by rw[Xam (λe=>by rw[e,I] at i;cases i)];exact i
   simp[j,F,A,this ha,hs,U,M,Xeg]
theorem Xw7{e:Ev}{g:Hp}(B:∀t v i,e t=some v->v.ids i->∃y,g i=some y): ∀ {l:List Operand} {asx:List AV},getEs e l=some asx->∀a∈asx,∀i,a.ids i->∃y,g i=some y
 | [],asx,h,a,ha=>by simp only[getEs] at h;injection h with h;subst h;cases ha
 | x::l,asx,h,a,ha=>by
  simp only[getEs] at h
  split at h<;>try cases h
  rename_i v j
  split at h<;>cases h
  rename_i I o
  rcases W1h.1 ha with A | A
  . subst A
    intro i hi
    cases x with
    | tmp t=>exact B t a i j hi
    | const c=>exact absurd hi ((Yj5 (W:=⟨default,λ_ _=>False,λ_ _ h=>h.elim⟩) (θ:=λ_=>(none,0)) j).2 i)
    | func f=>simp only[Xcw,Option.some.injEq] at j;subst j;exact hi.elim
    | global g=>simp[Xcw] at j
  . exact Xw7 B o a A
theorem Ylm{o:Oper}(U:cls o.op=1){e:Ev}{g:Hp}{d:Nat}{I:Ob}{r:AV×List (Nat×Ob)}(hd:g d=none)(M:∀t v i,e t=some v->v.ids i->∃y,g i=some y)(h:eff tb o (e,upd g d I)=some r): eff tb o (e,g)=some r:=by
 unfold eff at h |-
 split at h<;>try cases h
 rename_i asx j
 have A:=Xw7 M j
 split at h<;>try cases h
 rename_i Y
 have:∃T x,o.op=.load T x:=by
  cases O:o.op<;>rw[O] at U<;>first | exact⟨_,_,rfl⟩ | (cases U;done) | (rename_i c;have:=Xma c;omega)
 obtain⟨T,x,O⟩:=this
 simp only[O] at h j |-
 have B:∀ {a:AV} {i:Nat},a∈asx->a.ids i->upd g d I i=g i:=λha hi=>Xam λe=>by
  obtain⟨y,V⟩:=A _ ha _ hi
  rw[e,hd] at V;cases V
 have Q:∀ {dd:Nat},F tb dd (upd g d I) (.load T x) asx=some r->F tb dd g (.load T x) asx=some r:=by
  intro dd h
  simp only[F] at h |-
  split at h<;>try cases h
  rename_i ti Z
  split at h<;>try cases h
  . exact h
  . rw[B (W0f.2 rfl) rfl] at h
    exact h
  . rw[B (W0f.2 rfl) rfl] at h
    exact h
 simp only[j,Xeg,W8h]
 exact Q h
theorem Yrp{o:Oper}(O:cls o.op=2){e:Ev}{g:Hp}{r:AV×List (Nat×Ob)}(h:eff tb o (e,g)=some r): ∃Q,r.2=[(o.dst.getD 0,Q)]/\g (o.dst.getD 0)=none/\∀g',g' (o.dst.getD 0)=none->eff tb o (e,g')=some r:=by
 unfold eff at h |-
 split at h<;>try cases h
 rename_i asx B
 split at h<;>try cases h
 rename_i I
 simp only[B,I]
 have:(∃T,o.op=.alloc T)\/(∃T x,o.op=.box T x)\/∃T x y,o.op=.makeSlice T x y:=by
  cases j:o.op<;>rw[j] at O<;>first | exact .inl ⟨_,rfl⟩ | exact .inr (.inl ⟨_,_,rfl⟩) | exact .inr (.inr ⟨_,_,_,rfl⟩) | (cases O;done) | (rename_i c;have:=Xma c;omega)
 rcases this with ⟨T,j⟩ | ⟨T,x,j⟩ | ⟨T,x,y,j⟩
 . rw[j] at h |-
   simp only[F] at h |-
   split at h<;>cases h
   rename_i U M A
   exact⟨_,rfl,A,λg' i=>by simp[M,i]⟩
 . rw[j] at h |-
   simp only[F] at h |-
   split at h<;>try cases h
   rename_i a A
   split at h<;>cases h
   rename_i hp
   exact⟨_,rfl,A,λg' i=>by simp[i,hp]⟩
 . rw[j] at h |-
   simp only[F] at h |-
   split at h<;>try cases h
   rename_i U _ m _ c M A
   split at h<;>try cases h
   rename_i sz xs V
   split at h<;>cases h
   rename_i Y
   exact⟨_,rfl,A,λg' i=>by simp only[M,i,V,if_pos Y]⟩
end
end
section
section
variable{P:Program}[Gb P]{tb:Nat->Option TI}
theorem Xct{L:List Oper}{o:Oper}{s:S}{r:AV×List (Nat×Ob)}(h:efw tb L o s=some r):
 (want L o s=some false/\r.2=[]/\∀g',efw tb L o (s.1,g')=some r)\/(want L o s=some true/\eff tb o s=some r):=by
 unfold efw at h
 split at h
 . rename_i i;exact .inr ⟨i,h⟩
 . rename_i i
   split at h<;>cases h
   rename_i d hd
   refine .inl ⟨i,rfl,λg'=>?_⟩
   unfold efw
   rw[show want L o (s.1,g')=some false from i]
   simp[hd]
 . cases h
theorem Xkb{L:List Oper}{o:Oper}{s:S}{g':Hp}{r:AV×List (Nat×Ob)}(i:want L o s=some true)(h:eff tb o (s.1,g')=some r): efw tb L o (s.1,g')=some r:=by
 unfold efw
 rw[show want L o (s.1,g')=some true from i]
 exact h
theorem Xcf{L:List Oper}{o:Oper}{s:S}{r:AV×List (Nat×Ob)}(M:Xap o=false)(h:efw tb L o s=some r):
 (r.2=[]/\∀g',efw tb L o (s.1,g')=some r)\/(cls o.op=1/\r.2=[]/\(∀d i,s.2 d=none->efw tb L o (s.1,upd s.2 d i)=some r)) \/
 (cls o.op=2/\∃i,r.2=[(o.dst.getD 0,i)]/\s.2 (o.dst.getD 0)=none/\∀g',g' (o.dst.getD 0)=none->efw tb L o (s.1,g')=some r)\/cls o.op=3:=by
 rcases Xct h with ⟨_,O,Q⟩ | ⟨B,I⟩
 . exact .inl ⟨O,Q⟩
 . have T:cls o.op≠4:=λe=>by simp[Xap,e] at M
   have j:cls o.op=0\/cls o.op=1\/cls o.op=2\/cls o.op=3\/cls o.op=4:=by
    unfold cls;split<;>simp
   rcases j with e | e | e | e | e
   . obtain⟨a1,A⟩:=Yrq (e:=s.1) (g:=s.2) e I
     exact .inl ⟨a1,λg'=>Xkb B (A g')⟩
   . obtain⟨a1,A⟩:=Yqo (e:=s.1) (g:=s.2) e I
     exact .inr (.inl ⟨e,a1,λd i hd=>Xkb B (A d i hd)⟩)
   . obtain⟨i,a1,A,U⟩:=Yrp (e:=s.1) (g:=s.2) e I
     exact .inr (.inr (.inl ⟨e,i,a1,A,λg' V=>Xkb B (U g' V)⟩))
   . exact .inr (.inr (.inr e))
   . exact absurd e T
theorem Xin{L:List Oper}{k i:Oper}(h:Xlt L k i=true): Xcy L k.dst i=true/\Xcy L i.dst k=true/\Ybx (cls k.op) (cls i.op)=true/\(cls k.op=2->k.dst.isSome=true)/\(cls i.op=2->i.dst.isSome=true):=by
 simp only[Xlt,W0h,W4y,W1u] at h
 obtain⟨⟨⟨⟨j,o⟩,A⟩,B⟩,I⟩:=h
 exact⟨j,o,A,λe=>B.resolve_left (λn=>by rw[e] at n;cases n),λe=>I.resolve_left (λn=>by rw[e] at n;cases n)⟩
theorem Xiz{L:List Oper}{k i:Oper}{a b:Nat}(h:Xcy L k.dst i=true)(ha:k.dst=some a)(hb:i.dst=some b): a≠b:=by
 intro e
 subst e
 rw[ha] at h
 simp[Xcy,hb,inL] at h
theorem Xo4{s:S}{d t:Option Nat}{x y:AV}{g i j:Hp}(h:∀a b,d=some a->t=some b->a≠b)(o:i=j): S.put ((S.put (s.1,g) d x).1,i) t y=S.put ((S.put (s.1,g) t y).1,j) d x:=by
 subst o
 cases d with
 | none=>cases t<;>rfl
 | some a=>cases t with
  | none=>rfl
  | some b=>simp only[S.put];rw[Xkq (h a b rfl rfl)]
theorem S.put_g{s:S}{g:Hp}{d:Option Nat}{v:AV}: (S.put (s.1,g) d v).2=g:=by cases d<;>rfl
theorem S.put_e{s:S}{g g':Hp}{d:Option Nat}{v:AV}: (S.put (s.1,g) d v).1=(S.put (s.1,g') d v).1:=by cases d<;>rfl
theorem Xde{L:List Oper}{k i:Oper}{s:S}{r:AV×List (Nat×Ob)}(h:Xcy L k.dst i=true): efw tb L i (aft s k r)=efw tb L i (s.1,Xb1 s.2 r.2):=Ygz (s:=s) h
theorem par{L:List Oper}{k i:Oper}(hi:Xlt L k i=true)(ck:Xap k=false)(ci:Xap i=false){s:S}{B I:AV×List (Nat×Ob)}(V:efw tb L k s=some B)(Y:efw tb L i s=some I):
 efw tb L i (aft s k B)=some I/\efw tb L k (aft s i I)=some B/\aft (aft s i I) k B=aft (aft s k B) i I:=by
 obtain⟨a1,a2,O,a4,a5⟩:=Xin hi
 have A:Xb1 (Xb1 s.2 I.2) B.2=Xb1 (Xb1 s.2 B.2) I.2->aft (aft s i I) k B=aft (aft s k B) i I:=λhg=>by
  unfold aft
  rw[S.put_g,S.put_g,hg]
  have e1:=S.put_e (s:=s) (g:=Xb1 s.2 I.2) (g':=s.2) (d:=i.dst) (v:=I.1)
  have e2:=S.put_e (s:=s) (g:=Xb1 s.2 B.2) (g':=s.2) (d:=k.dst) (v:=B.1)
  rw[e1,e2]
  exact Xo4 (s:=s) (λa b ha hb=>Xiz a2 ha hb) rfl
 rw[Xde a1,Xde a2]
 rcases Xcf ck V with ⟨M,Q⟩ | ⟨T,M,Q⟩ | ⟨T,ob,M,Q,b3⟩ | T
 . rw[M]
   exact⟨Y,Q _,A (by rw[M];rfl)⟩
 . rw[M]
   refine⟨Y,?_,A (by rw[M];rfl)⟩
   rcases Xcf ci Y with ⟨h,j⟩ | ⟨o,h,j⟩ | ⟨o,oc,h,j,Z⟩ | o
   . rw[h];exact V
   . rw[h];exact V
   . rw[h];exact Q _ _ j
   . rw[T,o] at O;cases O
 . rcases Xcf ci Y with ⟨h,j⟩ | ⟨o,h,j⟩ | ⟨o,oc,h,j,Z⟩ | o
   . rw[h];exact⟨j _,V,A (by rw[h];rfl)⟩
   . rw[h,M];exact⟨j _ _ Q,V,A (by rw[h];rfl)⟩
   . obtain⟨dk,hdk⟩:=W2g.1 (a4 T)
     obtain⟨di,hdi⟩:=W2g.1 (a5 o)
     have U:=Xiz a1 hdk hdi
     rw[hdk] at M Q b3
     rw[hdi] at h j Z
     simp only[W6b] at M Q b3 h j Z
     rw[M,h]
     refine⟨Z _ (by show upd s.2 dk ob di=none;rw[Xam (λe=>U e.symm)];exact j),b3 _ (by show upd s.2 di oc dk=none;rw[Xam U];exact Q),A ?_⟩
     rw[M,h]
     exact Xkq (λe=>U e.symm)
   . rw[T,o] at O;cases O
 . rcases Xcf ci Y with ⟨h,j⟩ | ⟨o,h,j⟩ | ⟨o,oc,h,j,Z⟩ | o
   . rw[h];exact⟨j _,V,A (by rw[h];rfl)⟩
   . rw[T,o] at O;cases O
   . rw[T,o] at O;cases O
   . rw[T,o] at O;cases O
theorem back{L:List Oper}{k i:Oper}(hi:Xlt L k i=true)(ck:Xap k=false)(ci:Xap i=false){s:S}(Z:∀t v j,s.1 t=some v->v.ids j->∃y,s.2 j=some y){V ri:AV×List (Nat×Ob)}(h1:efw tb L k s=some V)(B:efw tb L i (aft s k V)=some ri):
 efw tb L i s=some ri:=by
 obtain⟨a1,a2,I,a4,a5⟩:=Xin hi
 rw[Xde a1] at B
 rcases Xcf ck h1 with ⟨M,b2⟩ | ⟨O,M,b2⟩ | ⟨O,ob,M,b2,b3⟩ | O
 . rw[M] at B;exact B
 . rw[M] at B;exact B
 . rcases Xcf (s:=(s.1,Xb1 s.2 V.2)) ci B with ⟨Q,h⟩ | ⟨A,Q,h⟩ | ⟨A,oc,Q,h,Y⟩ | A
   . exact h s.2
   . rcases Xct B with ⟨_,_,d3⟩ | ⟨d1,d2⟩
     . exact d3 s.2
     . rw[M] at d2
       have d1:want L i s=some true:=d1
       have:=Ylm (o:=i) A b2 Z d2
       exact Xkb (s:=s) d1 this
   . obtain⟨dk,T⟩:=W2g.1 (a4 O)
     obtain⟨di,U⟩:=W2g.1 (a5 A)
     have hne:=Xiz a1 T U
     rw[T] at M
     rw[U] at h Y
     simp only[W6b] at M h Y
     refine Y s.2 ?_
     rw[M] at h
     have h:upd s.2 dk ob di=none:=h
     rwa[Xam (λe=>hne e.symm)] at h
   . rw[O,A] at I;cases I
 . rcases Xcf (s:=(s.1,Xb1 s.2 V.2)) ci B with ⟨Q,h⟩ | ⟨A,Q,h⟩ | ⟨A,oc,Q,h,Y⟩ | A
   . exact h s.2
   . rw[O,A] at I;cases I
   . rw[O,A] at I;cases I
   . rw[O,A] at I;cases I
end
end
section
section
variable{P:Program}[Gb P]{tb:Nat->Option TI}
def Xqe(L:List Oper)(o:Oper)(s s':S): Prop:=∀t∈Xo3 L o,s.1 t=s'.1 t
theorem Xqe.symm{L:List Oper}{o:Oper}{s s':S}(h:Xqe L o s s'): Xqe L o s' s:=λt i=>(h t i).symm
theorem Xoi{L:List Oper}{o:Oper}{s:S}{d:Option Nat}{v:AV}{g:Hp}(h:Xcy L d o=true): Xqe L o (S.put (s.1,g) d v) s:=by
 cases d with
 | none=>exact λ_ _=>rfl
 | some d =>
  intro t i
  simp only[Xcy,W0h,W1u] at h
  refine Xam λe=>?_
  subst e
  rw[You.2 i] at h
  exact absurd h.1 (by simp)
theorem Xqe.getEs{L:List Oper}{o:Oper}{s s':S}(h:Xqe L o s s'): ∀ {l:List Operand},(∀t∈Xge l,t∈Xge o.op.operands.toList)->Vm.getEs s.1 l=Vm.getEs s'.1 l
 | [],_=>rfl
 | x::l,i=>by
  have j:Xcw s.1 x=Xcw s'.1 x:=by
   cases x with
   | tmp t=>exact h t (W1r _ (i t (by rw[Xby];exact W2l _ (W0f.2 rfl))))
   | _=>rfl
  simp only[Vm.getEs]
  rw[j,Xqe.getEs h (l:=l) λt A=>i t (by rw[Xby];exact W1r _ A)]
theorem Xqe.want{L:List Oper}{o:Oper}{s s':S}(h:Xqe L o s s'): Vm.want L o s=Vm.want L o s':=by
 unfold Vm.want
 split
 . rfl
 . rename_i j b i
   split
   . rfl
   . rename_i t A
     rw[h t (W2l _ (by simp[i,A]))]
theorem Xnn{o:Oper}(i:Xap o=true): ∃x asx h,o.op=.call ⟨.value x,asx,h⟩:=by
 cases j:o.op<;>simp only[Xap,j,cls] at i<;>first | (cases i;done) | skip
 rename_i c
 obtain⟨cal,asx,h⟩:=c
 cases cal with
 | builtin b=>cases b<;>cases i
 | value x=>exact⟨_,_,_,rfl⟩
 | invoke x m=>cases i
theorem Xpa{v:Value}{a:AV}(h:ofV v=some a)(i:Nat): ¬a.ids i:=by
 unfold ofV at h
 split at h<;>first | (cases h;done) | (injection h with h;subst h;exact id) | (split at h<;>cases h;exact id)
theorem Yeq: ∀ {a:AV} (b:AV),b∈unA a->∀ {i:Nat},b.ids i->a.ids i:=by
 intro a
 induction a with
 | pr a c _ h=>exact λb hb i hi=>(W1h.1 hb).elim (λe=>.inl (e ▸ hi)) λhb=>.inr (h b hb hi)
 | _=>exact λb hb i hi=>by rcases W0f.1 hb with rfl;exact hi
theorem Xtx{e:Ev}{x:Operand}{f:FuncId}{ex:List AV}(h:callee e x=some (f,ex)){a:AV}(ha:a∈ex){i:Nat}(hi:a.ids i): ∃t v,x=.tmp t/\e t=some v/\v.ids i:=by
 unfold callee at h
 split at h
 . injection h with h;injection h with B o;subst o;cases ha
 . rename_i A I j
   injection h with h;injection h with B o;subst o
   rcases W0f.1 ha with rfl
   cases x with
   | tmp t=>exact⟨t,_,rfl,j,hi⟩
   | const c=>exact absurd (show (AV.fn A I).ids i from hi) (Xpa j i)
   | func f=>simp[Xcw] at j
   | global g=>simp[Xcw] at j
 . rename_i A M j
   split at h<;>try cases h
   have hi:=Yeq a ha hi
   cases x with
   | tmp t=>exact⟨t,_,rfl,j,hi⟩
   | const c=>exact absurd (show (AV.fm f M).ids i from hi) (Xpa j i)
   | func f=>simp[Xcw] at j
   | global g=>simp[Xcw] at j
 . cases h
theorem Xnr{e:Ev}{i:Nat}: ∀ {l:List Operand} {vs:List AV},getEs e l=some vs->∀a∈vs,a.ids i->∃t∈Xge l,∃v,e t=some v/\v.ids i
 | [],vs,h,a,ha,_=>by simp only[getEs] at h;injection h with h;subst h;cases ha
 | x::l,vs,h,a,ha,hi=>by
  simp only[getEs] at h
  split at h<;>try cases h
  rename_i v j
  split at h<;>cases h
  rename_i asx o
  rw[Xby]
  rcases W1h.1 ha with rfl | ha
  . cases x with
    | tmp t=>exact⟨t,W2l _ (W0f.2 rfl),_,j,hi⟩
    | const c=>exact absurd hi (Xpa j i)
    | func f=>simp only[Xcw,Option.some.injEq] at j;subst j;exact hi.elim
    | global g=>simp[Xcw] at j
  . obtain⟨t,A,B⟩:=Xnr o a ha hi
    exact⟨t,W1r _ A,B⟩
theorem Xr0{i:Nat}: ∀ {Ts:List TypeId} {asx:List AV},∀a∈Xjk tb Ts asx,a.ids i->∃b∈asx,b.ids i
 | [],asx,a,ha,hi=>⟨a,by simpa [Xjk] using ha,hi⟩
 | T::Ts,[],a,ha,hi=>by simp[Xjk] at ha
 | T::Ts,c::asx,a,ha,hi=>by
  simp only[Xjk] at ha
  rcases W1h.1 ha with e | ha
  . have:a=c\/∃x,a=.d x:=by
     split at e
     . split at e
       . exact .inr ⟨_,e⟩
       . exact .inl e
     . exact .inl e
    rcases this with rfl | ⟨x,rfl⟩
    . exact⟨_,W0v ..,hi⟩
    . exact hi.elim
  . obtain⟨b,h,j⟩:=Xr0 a ha hi
    exact⟨b,W1b _ h,j⟩
theorem Yhv{s:S}{o:Oper}{d:Nat}(h:o.dst=some d): s.put (some d) .un=aft s o (.un,[]):=by unfold aft;rw[h];rfl
theorem Xf8{L:List Oper}{o:Oper}(hc:Xap o=true){s s':S}(h:Xqe L o s s'){R R':S->Prop}(hw:Wo P tb true L o R s)
 (hg:∀i y,s.2 i=some y->(∃t∈Xo3 L o,∃v,s.1 t=some v/\v.ids i)->s'.2 i=some y) (hn:∀d,o.dst=some d->s.2 d=none->s'.2 d=none)
 (hR:∀r,(r.2=[]\/∃d O,o.dst=some d/\r.2=[(d,O)]/\s.2 d=none)->R (aft s o r)->R' (aft s' o r)):Wo P tb true L o R' s':=by
 rcases hw with ⟨T,B⟩ | ⟨T,d,B,h3⟩
 . refine .inl ⟨by rw[<-h.want];exact T,?_⟩
   obtain⟨x,asx,U,he⟩:=Xnn hc
   unfold Wb at B |-
   rw[he] at B |-
   obtain⟨f,ex,vs,a1,a2,nw,H0,Q,⟨a3,a4,a5⟩,a6⟩:=B
   have j:o.op.operands.toList=x::asx.toList:=by rw[he];simp[Op.operands,Call.operands]
   have e1:Xcw s.1 x=Xcw s'.1 x:=by
    cases x with
    | tmp t=>exact h t (W1r _ (by rw[j,Xby];exact W2l _ (W0f.2 rfl)))
    | _=>rfl
   have I:∀i,(∃a∈Xjk tb U.toList vs++ex,a.ids i)->∃t∈Xo3 L o,∃v,s.1 t=some v/\v.ids i:=by
    rintro i ⟨a,ha,hi⟩
    rcases W2c.1 ha with ha | ha
    . obtain⟨b,hb,V⟩:=Xr0 a ha hi
      obtain⟨t,Y,Z⟩:=Xnr a2 b hb V
      exact⟨t,W1r _ (by rw[j,Xby];exact W1r _ Y),Z⟩
    . obtain⟨t,v,rfl,Y,Z⟩:=Xtx a1 ha hi
      exact⟨t,W1r _ (by rw[j,Xby];exact W2l _ (W0f.2 rfl)),v,Y,Z⟩
   refine⟨f,ex,vs,by unfold callee at a1 |-;rw[<-e1];exact a1,by rw[<-h.getEs (λt ht=>by rw[j,Xby];exact W1r _ ht)];exact a2,nw,H0,Q,⟨λhh=>?_,λi y hy=>?_,a5⟩,λr M hq=>hR r ?_ (a6 r M hq)⟩
   . obtain⟨d,A,d2⟩:=a3 hh;exact⟨d,A,hn d A d2⟩
   . obtain⟨b1,b2⟩:=a4 i y hy;exact⟨hg i y b1 (I i b2),b2⟩
   . rcases M with M | ⟨hh,d,O,u1,u2⟩
     . exact .inl M
     . obtain⟨d',A,d2⟩:=a3 hh
       rw[u1] at A;injection A with A;subst A
       exact .inr ⟨_,O,u1,u2,d2⟩
 . refine .inr ⟨by rw[<-h.want];exact T,d,B,?_⟩
   rw[Yhv B] at h3 |-
   exact hR _ (.inl rfl) h3
theorem Yby{L:List Oper}{o:Oper}(i:Xap o=true){s:S}{R:S->Prop}(j:Wo P tb true L o R s): Wo P tb true L o (λs'=>R s'/\∃r,(r.2=[]\/∃d A,o.dst=some d/\r.2=[(d,A)]/\s.2 d=none)/\s'=aft s o r) s :=
 Xf8 i (λ_ _=>rfl) j (λ_ _ h _=>h) (λ_ _ h=>h) λr B h=>⟨h,r,B,rfl⟩
theorem Yea{L:List Oper}{i:Oper}(Q:Xap i=false){s:S}{M:AV×List (Nat×Ob)}{us:List (Nat×Ob)}(T:cls i.op≠3)(U:cls i.op=2->i.dst.isSome=true)(V:us=[]\/∃d A,us=[(d,A)]/\s.2 d=none/\i.dst≠some d)(h:efw tb L i s=some M):
 efw tb L i (s.1,Xb1 s.2 us)=some M:=by
 rcases V with rfl | ⟨d,A,rfl,hd,o⟩
 . exact h
 . rcases Xcf Q h with ⟨_,j⟩ | ⟨_,_,j⟩ | ⟨B,oc,_,j,O⟩ | B
   . exact j _
   . exact j _ _ hd
   . obtain⟨Y,I⟩:=W2g.1 (U B)
     rw[I] at j O o
     exact O _ (by show upd s.2 d A Y=none;rw[Xam (λe=>o (by rw[e]))];exact j)
   . exact absurd B T
theorem Ybf{L:List Oper}{i:Oper}(Y:Xap i=false){s:S}{U:AV×List (Nat×Ob)}{us:List (Nat×Ob)}(Z:cls i.op≠3)(h2:cls i.op=2->i.dst.isSome=true)(O:∀t v j,s.1 t=some v->v.ids j->∃y,s.2 j=some y)(hu:us=[]\/∃d M,us=[(d,M)]/\s.2 d=none/\i.dst≠some d)
 (h:efw tb L i (s.1,Xb1 s.2 us)=some U):efw tb L i s=some U:=by
 rcases hu with rfl | ⟨d,M,rfl,hd,B⟩
 . exact h
 . rcases Xcf (s:=(s.1,Xb1 s.2 [(d,M)])) Y h with ⟨_,A⟩ | ⟨I,_,A⟩ | ⟨I,oc,_,A,V⟩ | I
   . exact A s.2
   . rcases Xct h with ⟨_,_,d3⟩ | ⟨Q,d2⟩
     . exact d3 s.2
     . have Q:want L i s=some true:=Q
       exact Xkb (s:=s) Q (Ylm (o:=i) I hd O d2)
   . obtain⟨di,T⟩:=W2g.1 (h2 I)
     rw[T] at A V B
     refine V s.2 ?_
     have A:upd s.2 d M di=none:=A
     rwa[Xam (λe=>B (by rw[e]))] at A
   . exact absurd I Z
theorem Xyz{s:S}{k i:Oper}{r q:AV×List (Nat×Ob)}(hd:∀a b,k.dst=some a->i.dst=some b->a≠b)(hr:r.2=[]\/∃d h,k.dst=some d/\r.2=[(d,h)])(hq:q.2=[]\/∃d h,i.dst=some d/\q.2=[(d,h)]):
 aft (aft s k r) i q=aft (aft s i q) k r:=by
 have j:Xb1 (Xb1 s.2 r.2) q.2=Xb1 (Xb1 s.2 q.2) r.2:=by
  rcases hr with hr | ⟨a,oa,ha,hr⟩<;>rcases hq with hq | ⟨b,h,hb,hq⟩<;>rw[hr,hq]<;>try rfl
  exact Xkq (hd a b ha hb)
 unfold aft
 rw[S.put_g,S.put_g,j]
 have o:=S.put_e (s:=s) (g:=Xb1 s.2 q.2) (g':=s.2) (d:=i.dst) (v:=q.1)
 have A:=S.put_e (s:=s) (g:=Xb1 s.2 r.2) (g':=s.2) (d:=k.dst) (v:=r.1)
 rw[o,A]
 exact Xo4 (s:=s) hd rfl
theorem Yd9{L:List Oper}{i:Oper}(M:Xap i=false){s:S}{A:AV×List (Nat×Ob)}(O:cls i.op≠3)(Q:cls i.op=2->i.dst.isSome=true)(h:efw tb L i s=some A): A.2=[]\/∃d T,i.dst=some d/\A.2=[(d,T)]/\s.2 d=none:=by
 rcases Xcf M h with ⟨j,_⟩ | ⟨_,j,_⟩ | ⟨B,oc,j,I,_⟩ | B
 . exact .inl j
 . exact .inl j
 . obtain⟨U,o⟩:=W2g.1 (Q B)
   rw[o] at j I
   exact .inr ⟨U,oc,o,j,I⟩
 . exact absurd B O
theorem Xsi{s:S}{o:Oper}{us:List (Nat×Ob)}(h:us=[]\/∃d i,o.dst=some d/\us=[(d,i)]/\s.2 d=none): us=[]\/∃d i,o.dst=some d/\us=[(d,i)]:=h.imp id λ⟨d,i,j,A,_⟩=>⟨d,i,j,A⟩
theorem Ylz{a b:Nat}(h:Ybx a b=true)(hb:b=4): a≠3/\a≠4:=by
 subst hb;constructor<;>(intro e;subst e;cases h)
theorem Xyf{a b:Nat}(h:Ybx a b=true)(hb:a=4): b≠3/\b≠4:=by
 subst hb;constructor<;>(intro e;subst e;cases h)
structure Dm (tb:Nat->Option TI) (L:List Oper) (sp:Oper->Oper->Bool) (Z:S->Prop):Prop where
 nc:∀ {k i},sp k i=true->Xap k=false/\Xap i=false
 par:∀ {k i:Oper} {s:S} {rk ri:AV×List (Nat×Ob)},sp k i=true->Z s->efw tb L k s=some rk->efw tb L i s=some ri->efw tb L i (aft s k rk)=some ri/\efw tb L k (aft s i ri)=some rk/\aft (aft s i ri) k rk=aft (aft s k rk) i ri
 back:∀ {k i:Oper} {s:S} {rk ri:AV×List (Nat×Ob)},sp k i=true->Z s->efw tb L k s=some rk->efw tb L i (aft s k rk)=some ri->efw tb L i s=some ri
 clo:∀ {k:Oper} {s:S} {r:AV×List (Nat×Ob)},k∈L->Xap k=false->Z s->efw tb L k s=some r->Z (aft s k r)
 cloC:∀ {k:Oper} {s:S} {r:AV×List (Nat×Ob)},k∈L->Xap k=true->Z s->(r.2=[]\/∃d ob,k.dst=some d/\r.2=[(d,ob)]/\s.2 d=none)->Z (aft s k r)
theorem Dm.no{tb:Nat->Option TI}{L:List Oper}: Dm tb L (λ_ _=>false) λ_=>True:=⟨nofun,nofun,nofun,λ_ _ _ _=>trivial,λ_ _ _ _=>trivial⟩
def Ind(L:List Oper)(sp:Oper->Oper->Bool)(k i:Oper): Prop:=k∈L/\(Xlt L k i=true\/sp k i=true)
theorem Yfq{L:List Oper}{sp:Oper->Oper->Bool}{Z:S->Prop}(D:Dm tb L sp Z){R:S->Prop}{i:Oper}(Q:Xap i=false){v:List Oper}{o:AV×List (Nat×Ob)}: ∀ {u:List Oper},(∀k∈u,Ind L sp k i)->∀ {s:S},Z s->efw tb L i s=some o->WL P tb true L R (u++i::v) s->WL P tb true L R (u++v) (aft s i o)
 | [],_,s,_,h,hw=>by
  obtain⟨r,A,T⟩:=(Xe7 Q).1 hw
  rw[h] at A;injection A with A;subst A;exact T
 | k::u,hu,s,hz,h,hw=>by
  obtain⟨U,B⟩:=hu k (W0v ..)
  have V:∀k∈u,Ind L sp k i:=λk B=>hu k (W1b _ B)
  cases I:Xap k with
  | false =>
   obtain⟨Y,A,T⟩:=(Xe7 I).1 hw
   obtain⟨p1,p2,p3⟩:efw tb L i (aft s k Y)=some o/\efw tb L k (aft s i o)=some Y/\aft (aft s i o) k Y=aft (aft s k Y) i o:=B.elim (λB=>par B I Q A h) λB=>D.par B hz A h
   refine(Xe7 I).2 ⟨Y,p2,?_⟩
   rw[p3]
   exact Yfq D Q V (D.clo U I hz A) p1 T
  | true =>
   have B:=B.resolve_right λh=>by rw[(D.nc h).1] at I;cases I
   obtain⟨a1,a2,a3,a4,a5⟩:=Xin B
   have c3:=(Xyf a3 (W0g I)).1
   have O:=Yd9 Q c3 a5 h
   have hd:∀a b,k.dst=some a->i.dst=some b->a≠b:=λa b ha hb=>Xiz a1 ha hb
   have hg2:(aft s i o).2=Xb1 s.2 o.2:=S.put_g (s:=s)
   refine Xf8 I (s:=s) (s':=aft s i o) (Xqe.symm (Xoi a2)) hw (λj y hy _=>?_) (λd hkd M=>?_) λx hx hx2=>?_
   . rw[hg2]
     rcases O with e | ⟨d,ob,_,e,M⟩
     . rw[e];exact hy
     . rw[e];show upd s.2 d ob j=_;rw[Xam (λe=>by rw[e,M] at hy;cases hy)];exact hy
   . rw[hg2]
     rcases O with e | ⟨d',ob,hid,e,_⟩
     . rw[e];exact M
     . rw[e];show upd s.2 d' ob d=_;rw[Xam (hd d d' hkd hid)];exact M
   . have e1:efw tb L i (aft s k x)=some o:=by
      rw[Xde a1]
      exact Yea Q c3 a5 (hx.imp id λ⟨d,ob,A,T,h3⟩=>⟨d,ob,T,h3,λe=>hd d d A e rfl⟩) h
     have:=Yfq D Q V (D.cloC U I hz hx) e1 hx2
     rwa[Xyz hd (Xsi (s:=s) hx) (Xsi (s:=s) O)] at this
variable{W0:GW}{X:Nat->Prop}{θ0:Loc}{n:Nat}
theorem Xpu(hT:∀T ti,tb T=some ti->TyOk P T ti/\∀a c,ti.z≠.pr a c)(hn:n<=1000000/\Gb.g P W0){L:List Oper}{sp:Oper->Oper->Bool}{Z:S->Prop}(D:Dm tb L sp Z){R:S->Prop}{i:Oper}(Q:Xap i=false){v:List Oper}: ∀ {u:List Oper},(∀k∈u,Ind L sp k i)->(∀k∈u,Xek n k=true) ->
 ∀ {s:S} {a:Act} {W:GW} {θ:Loc},Z s->Sat W0 X n s a W θ->(∀i,1000000<=i->θ i=θ0 i)->WL P tb true L R (u++i::v) s->∃U,efw tb L i s=some U
 | [],_,_,s,a,W,θ,_,_,_,hw=>by
  obtain⟨r,I,_⟩:=(Xe7 Q).1 hw
  exact⟨r,I⟩
 | k::u,hu,hd,s,a,W,θ,hz,hs,V,hw=>by
  obtain⟨Y,j⟩:=hu k (W0v ..)
  have hu':∀k∈u,Ind L sp k i:=λk j=>hu k (W1b _ j)
  have hd':∀k∈u,Xek n k=true:=λk j=>hd k (W1b _ j)
  cases B:Xap k with
  | false =>
   obtain⟨rk,I,h2⟩:=(Xe7 B).1 hw
   obtain⟨a',w',s',W',θ',_,M,o,rfl,O⟩:=Nx.next (R:=λs'=>s'=aft s k rk/\WL P tb true L R (u++i::v) s') hT hn (hd k (W0v ..)) ⟨s,W,θ,rfl,hs,V,(Xe7 B).2 ⟨rk,I,rfl,h2⟩⟩
   obtain⟨U,A⟩:=Xpu hT hn D Q hu' hd' (D.clo Y B hz I) M o O
   exact⟨U,j.elim (λj=>back j B Q hs.ids I A) λj=>D.back j hz I A⟩
  | true =>
   have j:=j.resolve_right λh=>by rw[(D.nc h).1] at B;cases B
   obtain⟨a1,a2,a3,a4,a5⟩:=Xin j
   have c3:=(Xyf a3 (W0g B)).1
   obtain⟨a',w',s',W',θ',_,M,o,O,x,hx,rfl⟩:=Nx.next hT hn (hd k (W0v ..)) ⟨s,W,θ,rfl,hs,V,Yby B hw⟩
   obtain⟨U,A⟩:=Xpu hT hn D Q hu' hd' (D.cloC Y B hz hx) M o O
   rw[Xde a1] at A
   exact⟨U,Ybf Q c3 a5 hs.ids (hx.imp id λ⟨d,ob,I,h2,h3⟩=>⟨d,ob,h2,h3,λe=>Xiz a1 I e rfl⟩) A⟩
theorem Yjw(hT:∀T ti,tb T=some ti->TyOk P T ti/\∀a c,ti.z≠.pr a c)(hn:n<=1000000/\Gb.g P W0){L:List Oper}{sp:Oper->Oper->Bool}{Z:S->Prop}(D:Dm tb L sp Z){R:S->Prop}{i:Oper}(ci:Xap i=true){v:List Oper}: ∀ {u:List Oper},(∀k∈u,Ind L sp k i)->(∀k∈u,Xek n k=true) ->
 ∀ {s:S} {a:Act} {W:GW} {θ:Loc},Sat W0 X n s a W θ->(∀i,1000000<=i->θ i=θ0 i)->WL P tb true L R (u++i::v) s->Wo P tb true L i (WL P tb true L R (u++v)) s
 | [],_,_,s,a,W,θ,_,_,hw=>hw
 | k::u,hu,hd,s,a,W,θ,hs,hθ,hw=>by
  have hk:=(hu k (W0v ..)).2.resolve_right λh=>by rw[(D.nc h).2] at ci;cases ci
  have hu':∀k∈u,Ind L sp k i:=λk hk=>hu k (W1b _ hk)
  have hd':∀k∈u,Xek n k=true:=λk hk=>hd k (W1b _ hk)
  obtain⟨a1,a2,a3,a4,a5⟩:=Xin hk
  obtain⟨c3,c4⟩:=Ylz a3 (W0g ci)
  have O:Xap k=false:=by
   cases O:Xap k with
   | false=>rfl
   | true=>exact absurd (W0g O) c4
  obtain⟨Y,h1,h2⟩:=(Xe7 O).1 hw
  obtain⟨a',w',s',W',θ',_,hs',hθ',rfl,hw'⟩:=Nx.next (R:=λs'=>s'=aft s k Y/\WL P tb true L R (u++i::v) s') hT hn (hd k (W0v ..)) ⟨s,W,θ,rfl,hs,hθ,(Xe7 O).2 ⟨Y,h1,rfl,h2⟩⟩
  have ih:=Yjw hT hn D ci hu' hd' hs' hθ' h2
  have A:=Yd9 O c3 a4 h1
  have B:∀a b,k.dst=some a->i.dst=some b->a≠b:=λa b ha hb=>Xiz a1 ha hb
  have Q:(aft s k Y).2=Xb1 s.2 Y.2:=S.put_g (s:=s)
  have hag:Xqe L i (aft s k Y) s:=Xoi a1
  refine Xf8 ci hag ih (λj y U ⟨t,ht,q,hq,hqj⟩=>?_) (λd hid o=>?_) λx hx hx2=>?_
  . rw[hag t ht] at hq
    obtain⟨y',hy'⟩:=hs.ids t q j hq hqj
    rw[Q] at U
    rcases A with e | ⟨d,I,_,e,o⟩
    . rw[e] at U;exact U
    . rw[e] at U
      have U:upd s.2 d I j=some y:=U
      rwa[Xam (λe=>by rw[e,o] at hy';cases hy')] at U
  . rw[Q] at o
    rcases A with e | ⟨d',I,V,e,_⟩
    . rw[e] at o;exact o
    . rw[e] at o
      have o:upd s.2 d' I d=none:=o
      rwa[Xam (λe=>B d' d V hid e.symm)] at o
  . have hx':x.2=[]\/∃d I,i.dst=some d/\x.2=[(d,I)]/\s.2 d=none:=hx.imp id λ⟨d,I,e1,e2,M⟩=>⟨d,I,e1,e2,by
     rw[Q] at M
     rcases A with e | ⟨d',ob',V,e,_⟩
     . rw[e] at M;exact M
     . rw[e] at M
       have M:upd s.2 d' ob' d=none:=M
       rwa[Xam (λe=>B d' d V e1 e.symm)] at M⟩
    refine(Xe7 O).2 ⟨Y,?_,?_⟩
    . rw[Xde a2]
      exact Yea O c3 a4 (hx'.imp id λ⟨d,I,e1,e2,M⟩=>⟨d,I,e2,M,λe=>B d d e e1 rfl⟩) h1
    . rw[<-Xyz B (Xsi (s:=s) A) (Xsi (s:=s) hx')]
      exact hx2
theorem Yrc(M:∀T ti,tb T=some ti->TyOk P T ti/\∀a c,ti.z≠.pr a c)(O:n<=1000000/\Gb.g P W0){L:List Oper}{sp:Oper->Oper->Bool}{Z:S->Prop}(D:Dm tb L sp Z){R:S->Prop}{i:Oper}(hi:i∈L){u v:List Oper}(I:∀k∈u,Ind L sp k i)(hd:∀k∈u,Xek n k=true){a:Act}{w:World}
 (h:Nx W0 X θ0 n (λs=>Z s/\WL P tb true L R (u++i::v) s) a w):Nx W0 X θ0 n (Wo P tb true L i λs=>Z s/\WL P tb true L R (u++v) s) a w:=by
 obtain⟨s,W,θ,Q,hs,j,B,h⟩:=h
 refine⟨s,W,θ,Q,hs,j,?_⟩
 cases o:Xap i with
 | true=>exact Xf8 o (λ_ _=>rfl) (Yjw M O D o I hd hs j h) (λ_ _ h _=>h) (λ_ _ h=>h) λr U h=>⟨D.cloC hi o B U,h⟩
 | false =>
  obtain⟨V,A⟩:=Xpu M O D o I hd B hs j h
  exact(Xe7 o).2 ⟨V,A,D.clo hi o B A,Yfq D o I B A h⟩
end
end
section
class Mx (P:Program):Prop where
 h:P.follows .mixedOrders=true
theorem Yk4(m:Region.Mode)(h:Array Oper)(f:Nat): ∀(t:Nat) (ls:Array Bool) (acc:List Nat),Region.linearise.go m h f t ls acc=acc.reverse++Region.linearise.go m h f t ls []:=by
 induction f with
 | zero=>intro t ls acc;simp[Region.linearise.go]
 | succ f j =>
  intro t ls acc
  simp only[Region.linearise.go]
  split
  . rename_i i hi
    rw[j _ _ (i::acc),j _ _ [i]]
    simp
  . simp
def Xff(o:Oper): List Nat:=(o.after.toList.filter (Region.binds .any)).map (·.on)
def rdy(L:List Oper)(ls:Array Bool): List Nat :=
 (List.range L.toArray.size).filter λi=>!ls.getD i true&&((L.toArray[i]?).map (·.after.all λe=>!Region.binds .any e||ls.getD e.on false)).getD false
theorem Xvq{L:List Oper}{ls:Array Bool}(hs:ls.size=L.length){i:Nat}: i∈rdy L ls↔∃o,L[i]?=some o/\ls.getD i false=false/\∀j∈Xff o,ls.getD j false=true:=by
 unfold rdy
 rw[List.mem_filter]
 constructor
 . rintro⟨Q,h⟩
   have hi:i<L.length:=by simpa using List.mem_range.1 Q
   rw[W0h] at h
   obtain⟨h,B⟩:=h
   have I:L[i]?=some L[i]:=W0a hi
   refine⟨L[i],I,?_,?_⟩
   . have:i<ls.size:=by omega
     simp[Array.getD,this] at h |-
     exact h
   . intro j O
     have A:L.toArray[i]?=some L[i]:=by simp
     rw[A] at B
     simp only[Option.map_some,W6b] at B
     rw[Array.all_eq_true'] at B
     simp only[Xff,W3l,List.mem_filter] at O
     obtain⟨e,⟨M,hb⟩,rfl⟩:=O
     have:=B e (by simpa using M)
     rw[hb] at this
     simpa using this
 . rintro⟨o,I,h,B⟩
   have hi:i<L.length:=Xbn I
   refine⟨by simpa using hi,?_⟩
   rw[W0h]
   refine⟨?_,?_⟩
   . have:i<ls.size:=by omega
     simp[Array.getD,this] at h |-
     exact h
   . have A:L.toArray[i]?=some o:=by simpa using I
     rw[A]
     simp only[Option.map_some,W6b]
     rw[Array.all_eq_true']
     intro e M
     cases hb:Region.binds .any e with
     | false=>rfl
     | true =>
      have:=B e.on (by simp only[Xff,W3l,List.mem_filter];exact⟨e,⟨by simpa using M,hb⟩,rfl⟩)
      simp[this]
def msk(M:List Nat)(h:List Nat): Nat:=match h with
 | []=>0
 | j::h=>msk M h|||(2^j|||M.getD j 0)
def Xs4(L:List Oper)(sp:Oper->Oper->Bool)(o:Oper)(m:Nat): Nat->List Oper->Bool
 | _,[]=>true
 | k,x::l=>(m.testBit k||Xlt L x o||sp x o)&&Xs4 L sp o m (k+1) l
def Xja(L:List Oper)(sp:Oper->Oper->Bool): List Nat->List Oper->List Oper->Bool
 | _,_,[]=>true
 | M,pre,o::l=>(Xff o).all (λj=>Nat.blt j pre.length)&&Xs4 L sp o (msk M (Xff o)) 0 pre&&Xja L sp (M++[msk M (Xff o)]) (pre++[o]) l
def Xom(L:List Oper)(p:Nat->Prop): Prop:=∀m o,L[m]?=some o->p m->∀j∈Xff o,p j
theorem Xkh{L:List Oper}{sp:Oper->Oper->Bool}{o:Oper}{m:Nat}: ∀ {l:List Oper} {k:Nat},Xs4 L sp o m k l=true->∀ {q:Nat} {x:Oper},l[q]?=some x->m.testBit (k+q)=true\/Xlt L x o=true\/sp x o=true
 | [],_,_,q,x,h=>by simp at h
 | y::l,k,i,q,x,h=>by
  simp only[Xs4,W0h,W4y] at i
  cases q with
  | zero=>simp at h;subst h;exact or_assoc.1 i.1
  | succ q =>
   have:=Xkh i.2 (q:=q) (x:=x) (by simpa using h)
   rwa[show k+1+q=k+(q+1) by omega] at this
theorem Xwe{M:List Nat}{k:Nat}: ∀ {o:List Nat},(msk M o).testBit k=true->∃j∈o,k=j\/(M.getD j 0).testBit k=true
 | [],h=>by simp[msk] at h
 | j::o,h=>by
  simp only[msk,Nat.testBit_or,W4y] at h
  rcases h with h | h | h
  . obtain⟨i,A,B⟩:=Xwe h
    exact⟨i,W1b _ A,B⟩
  . rw[Nat.testBit_two_pow] at h
    exact⟨j,W0v ..,.inl (of_decide_eq_true h).symm⟩
  . exact⟨j,W0v ..,.inr h⟩
theorem Xki{L:List Oper}{sp:Oper->Oper->Bool}: ∀ {l pre:List Oper} {M:List Nat},L=pre++l->M.length=pre.length->(∀m o,pre[m]?=some o->∀k,(M.getD m 0).testBit k=true->∀p,Xom L p->(∀j∈Xff o,p j)->p k)->Xja L sp M pre l=true ->
 ∀ {i:Nat} {o:Oper},pre.length<=i->L[i]?=some o->(∀j∈Xff o,j<i)/\∀ {k:Nat} {x:Oper},k<i->L[k]?=some x->(∀p,Xom L p->(∀j∈Xff o,p j)->p k)\/Xlt L x o=true\/sp x o=true
 | [],pre,M,O,Z,hb,hc,i,o,hi,T=>by
  have:=Xbn T
  rw[O] at this;simp at this;omega
 | y::l,pre,M,O,Z,hb,hc,i,o,hi,T=>by
  simp only[Xja,W0h] at hc
  obtain⟨⟨U,hc2⟩,hc3⟩:=hc
  have A:∀k,(msk M (Xff y)).testBit k=true->∀p,Xom L p->(∀j∈Xff y,p j)->p k:=by
   intro k B p hp Y
   obtain⟨j,h1,V⟩:=Xwe B
   rcases V with V | V
   . rw[V];exact Y j h1
   . have I:j<pre.length:=Xr4 (W1q.1 U j h1)
     have hjo:L[j]?=some pre[j]:=by rw[O,W1d I,W0a I]
     exact hb j _ (W0a I) k V p hp (hp j _ hjo (Y j h1))
  by_cases hii:i=pre.length
  . subst hii
    have hoy:o=y:=by
     rw[O,W0o (W0c _),W2v] at T
     simpa using T.symm
    subst hoy
    refine⟨λj Y=>Xr4 (W1q.1 U j Y),λ{k x} B hx=>?_⟩
    rw[O,W1d B] at hx
    rcases Xkh hc2 hx with h | h
    . rw[W1j] at h
      exact .inl (A k h)
    . exact .inr h
  . refine Xki (l:=l) (pre:=pre++[y]) (M:=M++[msk M (Xff y)]) (by rw[O];simp) (by simp[Z]) (λm o Q k B=>?_) hc3 (by simp;omega) T
    by_cases hml:m<pre.length
    . rw[W1d hml] at Q
      rw[W2x,W1d (by omega),<-W2x] at B
      exact hb m o Q k B
    . have hme:m=pre.length:=by
       have:=Xbn Q;simp at this;omega
      subst hme
      rw[W0o (W0c _),W2v] at Q
      simp at Q;subst Q
      rw[W2x,W0o (by omega),Z,W2v] at B
      exact A k B
def Xjv(ls:Array Bool): Nat->List Oper->List Oper
 | _,[]=>[]
 | k,o::l=>match ls.getD k false with
  | true=>Xjv ls (k+1) l
  | false=>o::Xjv ls (k+1) l
theorem Xev{ls:Array Bool}{i k:Nat}(h:k<ls.size): (ls.setIfInBounds i true).getD k false=if i=k then true else ls.getD k false:=by
 simp only[Array.getD_eq_getD_getElem?,W3s]
 by_cases e:i=k
 . subst e;simp[h]
 . simp[e]
theorem Xvo{ls:Array Bool}{i:Nat}: ∀ {l:List Oper} {k:Nat},i<k->k+l.length<=ls.size->Xjv (ls.setIfInBounds i true) k l=Xjv ls k l
 | [],_,_,_=>rfl
 | o::l,k,h,hs=>by
  simp only[W0j] at hs
  simp only[Xjv]
  rw[Xev (by omega),if_neg (by omega),Xvo (by omega) (by omega)]
theorem Xju{ls:Array Bool}{i:Nat}{o:Oper}: ∀ {l:List Oper} {k:Nat},k<=i->k+l.length<=ls.size->l[i-k]?=some o->ls.getD i false=false ->
 ∃u v,Xjv ls k l=u++o::v/\Xjv (ls.setIfInBounds i true) k l=u++v/\∀x∈u,∃q,q+k<i/\l[q]?=some x/\ls.getD (q+k) false=false
 | [],_,_,_,h,_=>by simp at h
 | y::l,k,V,hs,j,hi=>by
  simp only[W0j] at hs
  by_cases e:k=i
  . subst e
    rw[W2v] at j
    simp at j;subst j
    refine⟨[],Xjv ls (k+1) l,by simp[Xjv,hi],?_,λx A=>by cases A⟩
    simp only[Xjv,Xev (show k<ls.size by omega),if_pos]
    rw[Xvo (by omega) (by omega)];rfl
  . obtain⟨u,v,O,Q,T⟩:=Xju (l:=l) (k:=k+1) (by omega) (by omega) (by rw[show i-k=(i-(k+1))+1 by omega] at j;simpa using j) hi
    have B:(ls.setIfInBounds i true).getD k false=ls.getD k false:=by rw[Xev (by omega),if_neg (λh=>e h.symm)]
    have I:∀x∈u,∃q,q+k<i/\(y::l)[q]?=some x/\ls.getD (q+k) false=false:=λx A=>by
     obtain⟨q,q1,q2,U⟩:=T x A
     exact⟨q+1,by omega,by simpa using q2,by rw[show q+1+k=q+(k+1) by omega];exact U⟩
    cases M:ls.getD k false with
    | true=>exact⟨u,v,by simp only[Xjv,M];exact O,by simp only[Xjv,B,M];exact Q,I⟩
    | false =>
     refine⟨y::u,v,by simp only[Xjv,M];rw[O];rfl,by simp only[Xjv,B,M];rw[Q];rfl,λx A=>?_⟩
     rcases W1h.1 A with h | h
     . subst h;exact⟨0,by omega,rfl,by simpa using M⟩
     . exact I x h
theorem Xrl{ls:Array Bool}: ∀ {l:List Oper} {k:Nat},(∀q,q<l.length->ls.getD (k+q) false=true)->Xjv ls k l=[]
 | [],_,_=>rfl
 | o::l,k,h=>by
  have h0:=h 0 (by simp)
  rw[W2r] at h0
  simp only[Xjv,h0]
  exact Xrl λq hq=>by have:=h (q+1) (by simp;omega);rwa[show k+(q+1)=k+1+q by omega] at this
section
variable{P:Program}[Gb P]{tb:Nat->Option TI}{W0:GW}{X:Nat->Prop}{θ0:Loc}{n:Nat}
theorem Yg4(hT:∀T ti,tb T=some ti->TyOk P T ti/\∀a c,ti.z≠.pr a c)(hn:n<=1000000/\Gb.g P W0){L:List Oper}{sp:Oper->Oper->Bool}{Z:S->Prop}(D:Dm tb L sp Z){R:S->Prop}{Q:Exit->Act->World->Prop}(hQ:∀a w,Nx W0 X θ0 n R a w->Q .normal a w)
 (hok:(L.all (Xek n))=true) (hchk:Xja L sp [] [] L=true):∀(f t:Nat) (ls:Array Bool) (a:Act) (w:World),ls.size=L.length->Xom L (λm=>ls.getD m false=true) ->
 (∃A:List Nat,A.length=f/\A.Nodup/\∀q,q∈A↔q<L.length/\ls.getD q false=false)->Nx W0 X θ0 n (λs=>Z s/\WL P tb true L R (Xjv ls 0 L) s) a w ->
 wpOps P L.toArray Q (Region.linearise.go .any L.toArray f t ls []) a w:=by
 intro f
 induction f with
 | zero =>
  rintro t ls a w hs hc ⟨A,hf,_,hq⟩ h
  have hfr:A=[]:=W0n hf
  rw[Xrl (λq hql=>by
   cases e:ls.getD (0+q) false with
   | true=>rfl
   | false =>
    rw[W1j] at e
    have:=(hq q).2 ⟨hql,e⟩
    rw[hfr] at this;cases this)] at h
  exact hQ a w (h.mono λ_ h=>h.2)
 | succ f ih =>
  rintro t ls a w hs hc ⟨A,hf,hnd,hq⟩ h
  have hgo:Region.linearise.go .any L.toArray (f+1) t ls []=match (rdy L ls)[t%(rdy L ls).length]? with | some i=>Region.linearise.go .any L.toArray f (t/(rdy L ls).length) (ls.setIfInBounds i true) [i] | none=>[]:=rfl
  have I:∀ {i:Nat} {o:Oper},L[i]?=some o->(∀j∈Xff o,j<i)/\∀ {k:Nat} {x:Oper},k<i->L[k]?=some x->(∀p,Xom L p->(∀j∈Xff o,p j)->p k)\/Xlt L x o=true\/sp x o=true:=λU =>
   Xki (L:=L) (l:=L) (pre:=[]) (M:=[]) rfl rfl (λm o V=>by simp at V) hchk (W0s _) U
  have hne:∃i,i∈rdy L ls:=by
   have hlow:∀b,(∃q,q<b/\q∈A)->∃q∈A,∀r,r<q->r ∉ A:=by
    intro b
    induction b with
    | zero=>rintro⟨q,h,_⟩;omega
    | succ b ihb =>
     rintro⟨q,h1,B⟩
     by_cases hb:∃q,q<b/\q∈A
     . exact ihb hb
     . have:q=b:=by
        by_cases h:q<b
        . exact absurd ⟨q,h,B⟩ hb
        . omega
       subst this
       exact⟨q,B,λr hr hrf=>hb ⟨r,hr,hrf⟩⟩
   have hmem:∃q,q∈A:=by
    cases A with
    | nil=>simp at hf
    | cons x l=>exact⟨x,W0v ..⟩
   obtain⟨q0,hq0⟩:=hmem
   obtain⟨q,h1,B⟩:=hlow (q0+1) ⟨q0,by omega,hq0⟩
   obtain⟨h3,h4⟩:=(hq q).1 h1
   refine⟨q,(Xvq hs).2 ⟨L[q],W0a h3,h4,λj hj=>?_⟩⟩
   have hjq:=(I (W0a h3)).1 j hj
   cases e:ls.getD j false with
   | true=>rfl
   | false=>exact absurd ((hq j).2 ⟨by omega,e⟩) (B j hjq)
  have hpos:0<(rdy L ls).length:=by
   obtain⟨i,hi⟩:=hne
   exact List.length_pos_of_mem hi
  have hlt:t%(rdy L ls).length<(rdy L ls).length:=W2b _ hpos
  rw[hgo,W0a hlt]
  simp only[]
  generalize hi:(rdy L ls)[t%(rdy L ls).length]=i
  have hir:i∈rdy L ls:=by rw[<-hi];exact W6r hlt
  obtain⟨o,U,hif,Y⟩:=(Xvq hs).1 hir
  rw[Yk4]
  obtain⟨u,v,r1,r2,r3⟩:=Xju (ls:=ls) (i:=i) (o:=o) (l:=L) (k:=0) (W0s _) (by omega) (by simpa using U) hif
  rw[r1] at h
  have hu:∀k∈u,Ind L sp k o:=λx hx=>by
   obtain⟨q,q1,q2,q3⟩:=r3 x hx
   rcases(I U).2 (by simpa using q1) q2 with h | h
   . have:=h _ hc Y
     simp at q3 this
     rw[this] at q3;cases q3
   . exact⟨W0e q2,h⟩
  have hd:∀k∈u,Xek n k=true:=λx hx=>by
   obtain⟨q,_,q2,_⟩:=r3 x hx
   exact W1q.1 hok x (W0e q2)
  have hp:=Yrc hT hn D (W0e U) hu hd h
  rw[<-r2] at hp
  have hw:=Yhx (Q:=Q) hT hn (W1q.1 hok o (W0e U)) hp
  have hil:i<L.length:=Xbn U
  have next:∀a w,Nx W0 X θ0 n (λs=>Z s/\WL P tb true L R (Xjv (ls.setIfInBounds i true) 0 L) s) a w->wpOps P L.toArray Q (Region.linearise.go .any L.toArray f (t/(rdy L ls).length) (ls.setIfInBounds i true) []) a w:=by
   intro a w hN
   refine ih _ _ a w (by simpa using hs) (λm x V O j hj=>?_) ⟨A.erase i,?_,hnd.erase i,λq=>?_⟩ hN
   . have hx:=(I V).1 j hj
     have hmL:=Xbn V
     have O:(ls.setIfInBounds i true).getD m false=true:=O
     show (ls.setIfInBounds i true).getD j false=true
     rw[Xev (by omega)] at O |-
     by_cases e:i=j
     . rw[if_pos e]
     . rw[if_neg e]
       by_cases e2:i=m
       . subst e2
         rw[U] at V;injection V with V;subst V
         exact Y j hj
       . rw[if_neg e2] at O
         exact hc m x V O j hj
   . rw[List.length_erase_of_mem ((hq i).2 ⟨hil,hif⟩),hf];rfl
   . rw[hnd.mem_erase_iff,hq q]
     constructor
     . rintro⟨h1,B,h3⟩
       exact⟨B,by rw[Xev (by omega),if_neg (λe=>h1 e.symm)];exact h3⟩
     . rintro⟨h1,B⟩
       rw[Xev (by omega)] at B
       by_cases e:i=q
       . rw[if_pos e] at B;cases B
       . rw[if_neg e] at B;exact⟨λh=>e h.symm,h1,B⟩
  have hoa:L.toArray[i]?=some o:=by simpa using U
  simp only[List.reverse_cons,List.reverse_nil,W4i,List.singleton_append,wpOps,hoa]
  split at hw
  . rename_i hwn
    rw[if_pos hwn]
    exact .inl (Oper.wp_mono (λa w h=>next a w h) hw)
  . rename_i hwn
    rw[if_neg hwn]
    exact next _ _ hw
end
end
section
inductive Kt where
 | c (c:Code)
 | b (id:Nat)
 | l (I:S->Prop)
structure Cx where
 P:Program
 gb:Gb P
 tb:Nat->Option TI
 hT:∀T ti,tb T=some ti->TyOk P T ti/\∀a c,ti.z≠.pr a c
 mx:Mx P
 n:Nat
 hn:n<=1000000
 W0:GW
 X:Nat->Prop
 θ0:Loc
 fin:Exit->Act->World->Prop
 hg:gb.g W0
attribute [instance] Cx.gb
abbrev Cx.Nx(c:Cx)(R:S->Prop)(a:Act)(w:World): Prop:=Vm.Nx c.W0 c.X c.θ0 c.n R a w
def Xtb(c:Cx): List Kt->Exit->Act->World->Prop
 | [],e,a,w=>c.fin e a w
 | .c x::K,e,a,w=>match e with
  | .normal=>x.wp c.P (Xtb c K) a w
  | e=>Xtb c K e a w
 | .b id::K,e,a,w=>match e with
  | .exit h=>if h=id then Xtb c K .normal a w else Xtb c K (.exit h) a w
  | e=>Xtb c K e a w
 | .l I::K,e,a,w=>match e with
  | .normal=>c.Nx I a w
  | e=>Xtb c K e a w
def J(c:Cx)(K:List Kt)(s:S): Prop:=∀a w,c.Nx (λs'=>s'=s) a w->Xtb c K .normal a w
def Ydg(id:Nat): List Kt->Option (List Kt)
 | []=>none
 | .b i::K=>match Nat.beq id i with
  | true=>some K
  | false=>Ydg id K
 | _::K=>Ydg id K
section
variable{c:Cx}{K:List Kt}{s:S}
theorem J.use{a:Act}{w:World}(h:c.Nx (J c K) a w): Xtb c K .normal a w:=by
 obtain⟨s,W,θ,i,j,o,A⟩:=h
 exact A a w ⟨s,W,θ,i,j,o,rfl⟩
theorem J.seq{x y:Code}(k:J c (.c x::.c y::K) s): J c (.c (.seq x y)::K) s:=λa w ha=>wp_seq (wp_mono (k a w ha) λe a w h=>by cases e<;>exact h)
theorem J.skip(k:J c K s): J c (.c .skip::K) s:=λa w ha=>wp_skip (k a w ha)
theorem J.block{id:Nat}{x:Code}(k:J c (.c x::.b id::K) s): J c (.c (.block id x)::K) s:=λa w ha=>wp_block (wp_mono (k a w ha) λe a w h=>by cases e<;>exact h)
theorem J.bend{id:Nat}(k:J c K s): J c (.b id::K) s:=λa w ha=>k a w ha
theorem Xxv{id:Nat}{K K':List Kt}(h:Ydg id K=some K'){a:Act}{w:World}(hd:Xtb c K' .normal a w): Xtb c K (.exit id) a w:=by
 induction K with
 | nil=>simp[Ydg] at h
 | cons x K j =>
  cases x with
  | c c=>exact j h
  | l I=>exact j h
  | b i =>
   by_cases hi:id=i
   . subst hi
     simp[Ydg] at h
     subst h
     simp[Xtb]
     exact hd
   . simp only[Ydg,Ydt hi] at h
     simp only[Xtb,if_neg hi]
     exact j h
theorem J.exit{id:Nat}{K':List Kt}(h:Ydg id K=some K')(k:J c K' s): J c (.c (.exit id)::K) s:=λa w ha=>wp_exit (Xxv h (k a w ha))
theorem Ybk{K:List Kt}{a:Act}{w:World}(h:c.fin .ret a w): Xtb c K .ret a w:=by
 induction K with
 | nil=>exact h
 | cons x K i=>cases x<;>exact i
theorem J.ret(k:∀a w,c.Nx (λs'=>s'=s) a w->c.fin .ret a w): J c (.c .ret::K) s:=λa w ha=>wp_ret (Ybk (k a w ha))
theorem J.cond{x:Operand}{p q:Code}{pr:Prop}{v:AV}(A:Xcw s.1 x=some v)(hp:asP v=some pr)(B:pr->J c (.c p::K) s)(I:¬pr->J c (.c q::K) s): J c (.c (.cond x p q)::K) s:=by
 intro a w ha
 have i:=ha
 obtain⟨s',W,θ,O,hs,M,rfl⟩:=i
 obtain⟨b,j,o⟩:=Yhp hp (Xir hs A).1
 cases b with
 | true=>exact wp_cond_true j (B (o.1 rfl) a w ha)
 | false=>exact wp_cond_false j (I (λh=>by cases o.2 h) a w ha)
theorem J.condU{x:Operand}{p q:Code}{pr:Prop}(j:Xcw s.1 x=some (.ub pr))(o:pr->J c (.c p::K) s)(A:J c (.c q::K) s): J c (.c (.cond x p q)::K) s:=by
 intro a w ha
 have h:=ha
 obtain⟨s',W,θ,O,hs,B,rfl⟩:=h
 obtain⟨cs,⟨b,I,M⟩,i⟩:=(Xir hs j).1
 rw[I] at i
 cases b with
 | true=>exact wp_cond_true i (o (M rfl) a w ha)
 | false=>exact wp_cond_false i (A a w ha)
theorem J.condT{x:Operand}{p q:Code}(i:Xcw s.1 x=some (.b true))(k:J c (.c p::K) s): J c (.c (.cond x p q)::K) s:=J.cond i rfl (λ_=>k) (λh=>absurd rfl h)
theorem J.condF{x:Operand}{p q:Code}(i:Xcw s.1 x=some (.b false))(k:J c (.c q::K) s): J c (.c (.cond x p q)::K) s:=J.cond i rfl (λh=>by cases h) (λ_=>k)
def Xo9(n:Nat): List Oper->Bool
 | []=>true
 | o::l=>match Xek n o with
  | true=>Xo9 n l
  | false=>false
theorem Xih{n:Nat}: ∀ {l:List Oper},Xo9 n l=true->(l.all (Xek n))=true
 | [],_=>rfl
 | o::l,h=>by
  simp only[Xo9] at h
  split at h
  . rename_i i;rw[W6i,i,Xih h];rfl
  . cases h
theorem J.reg{id:Nat}{L:List Oper}(i:Xo9 c.n L=true)(k:WL c.P c.tb false L (J c K) L s): J c (.c (.region id L.toArray false)::K) s:=by
 intro a w ha
 refine wp_region ?_
 have:=Xzi (Q:=Xtb c K) c.hT ⟨c.hn,c.hg⟩ (λa w h=>J.use h) L 0 a w rfl (Xih i) (ha.mono λs' e=>by rw[e];exact k)
 rw[<-List.range_eq_range'] at this
 simpa using this
theorem Nx.tick{R:S->Prop}{a:Act}{w:World}(h:c.Nx R a w): c.Nx R a w.drew:=by
 obtain⟨s,W,θ,j,i,o,A⟩:=h
 exact⟨s,W.tick,θ,by rw[<-j];rfl,i.step0 (Stp.tick i.obs),o,A⟩
theorem J.draw{id:Nat}{L:List Oper}{sp:Oper->Oper->Bool}{Z:S->Prop}(D:Dm c.tb L sp Z)(I:Z s)(B:Xo9 c.n L=true)(j:Xja L sp [] [] L=true)(k:WL c.P c.tb true L (J c K) L s): J c (.c (.region id L.toArray true)::K) s:=by
 intro a w ha
 refine wp_region_draw λt=>?_
 have hs:Region.schedule (c.P.follows .mixedOrders) L.toArray t=Region.linearise.go .any L.toArray L.length t (Array.replicate L.length false) []:=by
  rw[c.mx.h]
  simp[Region.schedule,Region.linearise]
 rw[hs]
 have hf:∀i,(Array.replicate L.length false).getD i false=false:=by
  intro i
  by_cases h:i<L.length<;>simp[Array.getD,h]
 have A:∀(l:List Oper) k,Xjv (Array.replicate L.length false) k l=l:=by
  intro l
  induction l with
  | nil=>intro k;rfl
  | cons o l M=>intro k;simp only[Xjv,hf];rw[M]
 refine Yg4 c.hT ⟨c.hn,c.hg⟩ D (λa w h=>J.use h) (Xih B) j L.length t _ a _ (by simp) (λm o _ h=>by have h:(Array.replicate L.length false).getD m false=true:=h;rw[hf] at h;cases h) ⟨List.range L.length,by simp,List.nodup_range,λq=>by rw[hf];simp⟩ ?_
 rw[A]
 exact Nx.tick (ha.mono λs' e=>by rw[e];exact⟨I,k⟩)
theorem Xj9(p:Nat->Prop)(h:∃n,p n): ∃n,p n/\∀m,p m->n<=m:=by
 obtain⟨n,o⟩:=h
 induction n using Nat.strongRecOn with
 | _ n A =>
  by_cases hs:∃m,m<n/\p m
  . obtain⟨m,i,hp⟩:=hs;exact A m i hp
  . exact⟨n,o,λm i=>W4m λj=>hs ⟨m,j,i⟩⟩
open Classical in
noncomputable def least(p:Nat->Prop): Nat:=if h:∃n,p n then Classical.choose (Xj9 p h) else 0
theorem Xj4{p:Nat->Prop}(h:∃n,p n): p (least p)/\∀m,p m->least p<=m:=by
 unfold least;rw[dif_pos h];exact Classical.choose_spec (Xj9 p h)
theorem J.loop{x:Code}(I:S->Nat->Prop)(i:Nat)(h0:I s i)(k:∀s i,I s i->J c (.c x::.l (λs'=>∃j,j<i/\I s' j)::K) s): J c (.c (.loop x)::K) s:=by
 intro a w ha
 refine wp_loop (λa w=>∃i,c.Nx (λs=>I s i) a w) (λa w=>least λi=>c.Nx (λs=>I s i) a w) ⟨i,ha.mono λs' e=>by rw[e];exact h0⟩ ?_
 rintro a w hI
 obtain⟨⟨s,W,θ,hw,hs,A,hi⟩,V⟩:=Xj4 (p:=λi=>c.Nx (λs=>I s i) a w) hI
 refine wp_mono (k s _ hi a w ⟨s,W,θ,hw,hs,A,rfl⟩) ?_
 intro e Y Z h
 cases e<;>first | exact h | skip
 obtain⟨s',W',B,M,O,o,j,Q,T⟩:=h
 have U:c.Nx (λs=>I s j) Y Z:=⟨s',W',B,M,O,o,T⟩
 exact⟨⟨j,U⟩,W1y ((Xj4 (p:=λi=>c.Nx (λs=>I s i) Y Z) ⟨j,U⟩).2 _ U) Q⟩
theorem J.at'{I:S->Prop}(h:I s): J c (.l I::K) s:=λa w ha=>ha.mono λs' e=>by rw[e];exact h
theorem J.cut{x:Code}(I:S->Prop)(i:J c (.c x::.l I::K) s)(j:∀s,I s->J c K s): J c (.c x::K) s:=by
 intro a w ha
 refine wp_mono (i a w ha) ?_
 intro e o A h
 cases e<;>first | exact h | skip
 exact J.use (h.mono λs hs=>j s hs)
def Xy8(s:S): Prop:=(∀t v i,s.1 t=some v->v.ids i->∃y,s.2 i=some y)/\∀o x i,s.2 o=some x->x.ids i->∃y,s.2 i=some y
theorem J.sub(s':S)(O:∀t v,s'.1 t=some v->s.1 t=some v)(i:∀o x,s'.2 o=some x->s.2 o=some x)(B:Xy8 s')(k:J c K s'): J c K s:=by
 rintro a w ⟨s0,W,θ,Q,hs,j,rfl⟩
 exact k a w ⟨s',W,θ,Q,⟨hs.fm,⟨hs.rel.defers,hs.rel.size,λt v T=>hs.rel.has t v (O t v T)⟩,
  ⟨λo x h=>hs.obs.r o x (i o x h),λo x b h=>hs.obs.new o x b (i o x h),λo I x M b h A=>hs.obs.dis o I x M b (i o x h) (i I M A),B.2⟩,B.1⟩,j,rfl⟩
end
end
section
def θe: Loc:=λ_=>(none,0)
abbrev Env:=List (Nat×AV)
abbrev Hpl:=List (Nat×Ob)
def look{α:Type _}: List (Nat×α)->Nat->Option α
 | [],_=>none
 | (s,v)::e,t=>match Nat.beq t s with
  | true=>some v
  | false=>look e t
def Xlg: AV->Bool
 | .st a=>Xlg a
 | .pr a c=>Xlg a&&Xlg c
 | .tup a=>Xlg a
 | .ptr _ _ | .own _ _ _ _ | .ow3 _ _ _ _ | .gr _ _ _ | .el _ _ _ _ | .fn _ _ | .ap _ _=>false
 | .fm _ a=>Xlg a
 | _=>true
theorem Xlf: ∀ {a:AV},Xlg a=true->∀i,¬a.ids i:=by
 intro a
 induction a with
 | st a j=>exact λh i=>j h i
 | tup a j=>exact λh i=>j h i
 | fm f a j=>exact λh i=>j h i
 | pr a c o A =>
  intro h i hi
  simp only[Xlg,W0h] at h
  exact hi.elim (o h.1 i) (A h.2 i)
 | _=>intro h i hi;first | exact hi | cases h
def Ret(W0:GW)(Q:AV->Prop)(e:Ending)(w':World): Prop:=∃W' v u,e=.returned u/\W'.w=w'/\Fm W0 W' (λ_=>False)/\AV.V W' θe v u/\(∀i,¬v.ids i)/\Q v
def C(P:Program)[Gb P](f:FuncId)(args:List AV)(Q:AV->Prop): Prop:=Ypp P f/\∀W h,Gb.g P W->Xjg W θe args h->Calls P f h.toArray W.w (Ret W Q)
theorem Xjg.mono{W W':GW}{θ θ':Loc}(l:LeF W W'): ∀ {asx:List AV} {vs:List Value},(∀a∈asx,∀i,a.ids i->θ' i=θ i)->Xjg W θ asx vs->Xjg W' θ' asx vs
 | [],[],_,_=>trivial
 | a::asx,v::vs,hi,h=>⟨h.1.mono l (hi a (W0v ..)),h.2.mono l λa ha=>hi a (W1b _ ha)⟩
 | [],_::_,_,h=>h.elim
 | _::_,[],_,h=>h.elim
theorem C.cs{P:Program}[Gb P]{f:FuncId}{args:List AV}{Q:AV->Prop}(h:C P f args Q)(M:(args.all Xlg)=true)(g:Hp): CS P f args g λv g'=>g'=g/\Q v:=by
 refine⟨h.1,λN W θ O T j Z _ ha=>(h.2 W O T (ha.mono (LeF.refl W) λa U i hi=>absurd hi (Xlf (W1q.1 M a U) i))).mono ?_⟩
 rintro e w' ⟨W',v,u,rfl,rfl,hf,V,hi,hq⟩
 refine⟨W',θ,v,u,g,rfl,rfl,?_,V.mono (LeF.refl _) λi h=>absurd h (hi i),λi h=>absurd h (hi i),rfl,hq⟩
 exact {
  os:=hf.os,out:=hf.out,tape:=hf.tape,size:=hf.size
  same:=λb hb _=>hf.same b hb id
  A:=λb hb _ i=>hf.A b hb id i
  le:=hf.le
  th:=λ_ _ _=>rfl
  hi:=λ_ _=>rfl
  obs:=⟨λo x B=>(j.r o x B).keep hf.le rfl (λ_ _=>rfl) λI b hb=>⟨hf.same b (j.lt B I hb) id,λi Y=>(hf.A b (j.lt B I hb) id i).2 Y⟩,j.new,j.dis,j.ids⟩
  dom:=λ_ y h=>⟨y,h⟩ }
def Xcd{α:Type _}(H:List (Nat×α))(i:Nat): Bool:=match look H i with
 | some _=>true
 | none=>false
def Xdc(H:Hpl): AV->Bool
 | .st a=>Xdc H a
 | .pr a c=>Xdc H a&&Xdc H c
 | .tup a=>Xdc H a
 | .fm _ a=>Xdc H a
 | .ptr o _ | .own o _ _ _ | .ow3 o _ _ _ | .gr o _ _ | .el o _ _ _ | .fn _ o | .ap o _=>Xcd H o
 | _=>true
theorem Xf1{H:Hpl}: ∀ {a:AV},Xdc H a=true->∀i,a.ids i->∃y,look H i=some y:=by
 have I:∀o,Xcd H o=true->∃y,look H o=some y:=λo h=>by
  unfold Xcd at h;split at h
  . rename_i y M;exact⟨y,M⟩
  . cases h
 intro a
 induction a with
 | st a j=>exact j
 | tup a j=>exact j
 | fm f a j=>exact j
 | pr a c A B =>
  intro h i hi
  simp only[Xdc,W0h] at h
  exact hi.elim (A h.1 i) (B h.2 i)
 | _=>intro h i hi;first | exact hi.elim | (have hi:i=_:=hi;subst hi;exact I _ h)
inductive Fit (g:Hp) (K:Hpl):AV->AV->Prop where
 | rf {a:AV} (h:Xdc K a=true):Fit g K a a
 | eq {x y:D} (h:x=y):Fit g K (.d x) (.d y)
 | nil {sz:Nat} {ys:List D} (h:ys=[]):Fit g K .nil (.d (.sl sz ys))
 | lit {sz:Nat} {xs ys:List D} (h:xs=ys):Fit g K (.lit sz xs) (.d (.sl sz ys))
 | gr {o sz:Nat} {xs ys:List D} (h:xs=ys):Fit g K (.gr o sz xs) (.d (.sl sz ys))
 | own {o sz l n:Nat} {xs ys:List D} (h:g o=some (.arr sz xs)) (hn:l+n<=xs.length) (hy:(xs.drop l).take n=ys) (hk:Xcd K o=false:=by exact rfl):Fit g K (.own o sz l n) (.d (.sl sz ys))
 | ow3 {o sz l n:Nat} {xs ys:List D} (h:g o=some (.arr sz xs)) (hn:l+n<=xs.length) (hy:(xs.drop l).take n=ys) (hk:Xcd K o=false:=by exact rfl):Fit g K (.ow3 o sz l n) (.d (.sl sz ys))
 | bq {c:Bool} {p:Prop} (h:c=true↔p):Fit g K (.b c) (.q p)
 | qq {p q:Prop} (h:p↔q):Fit g K (.q p) (.q q)
 | bp {c:Bool} {p:Prop} (h:c=true↔p):Fit g K (.b c) (.b (dc p))
 | bd {c e:Bool} (h:c=e):Fit g K (.b c) (.d (.bool e))
 | qd {p:Prop} {e:Bool} (h:p↔e=true):Fit g K (.q p) (.d (.bool e))
 | dq {c:Bool} {p:Prop} (h:c=true↔p):Fit g K (.d (.bool c)) (.q p)
 | st {a b:AV} (h:Fit g K a b):Fit g K (.st a) (.st b)
 | sd {a:AV} {x:D} (h:Fit g K a (.d x)):Fit g K (.st a) (.d (.st x))
 | pr {a b c e:AV} (h:Fit g K a b) (k:Fit g K c e):Fit g K (.pr a c) (.pr b e)
 | pd {a c:AV} {x y:D} (h:Fit g K a (.d x)) (k:Fit g K c (.d y)):Fit g K (.pr a c) (.d (.pr x y))
inductive FitT (g:Hp) (K:Hpl):AV->AV->Prop where
 | one {a b:AV} (h:Fit g K a b) (ha:∀u v,a≠.pr u v) (hb:∀u v,b≠.pr u v):FitT g K a b
 | cons {a b c e:AV} (h:Fit g K a b) (k:FitT g K c e):FitT g K (.pr a c) (.pr b e)
inductive FitR (g:Hp) (K:Hpl):AV->AV->Prop where
 | one {a b:AV} (h:Fit g K a b) (ha:plain a=true) (hb:plain b=true):FitR g K a b
 | tup {a b:AV} (h:FitT g K a b):FitR g K (.tup a) (.tup b)
structure Exi (W W':GW) (N:Nat->Prop) (θ:Loc) (g:Hp) (K:Hpl):Prop where
 o:Obs W θ N g
 l:LeF W W'
 n:∀o x b,g o=some x->x.live=true->(θ o).1=some b->Xcd K o=false->∀i v,W.w.cell? ⟨b,i,none⟩=some v->Fr W' b i v
theorem Ya4{W W':GW}{N:Nat->Prop}{θ:Loc}{g:Hp}{K:Hpl}(E:Exi W W' N θ g K){a b:AV}(h:Fit g K a b): (∀ {cs:List Value},AV.C W θ a cs->AV.C W' θ b cs)/\a.ag=b.ag/\∀i,b.ids i->∃y,look K i=some y:=by
 induction h with
 | rf h=>exact⟨λj=>AV.c_mono E.l _ (λ_ _=>rfl) j,rfl,Xf1 h⟩
 | eq h=>subst h;exact⟨λj=>D.mono E.l _ j,rfl,λ_ h=>h.elim⟩
 | nil h=>subst h;exact⟨λ⟨p,e⟩=>⟨p,0,e,W0c _,by decide,.inl rfl⟩,rfl,λ_ h=>h.elim⟩
 | @lit sz xs V h =>
  subst h
  exact⟨λ{cs} j=>D.mono E.l (.sl sz xs) (Xmq (θ:=θ) (z:=.sl sz []) (a:=.lit sz xs) rfl j),rfl,λ_ h=>h.elim⟩
 | @gr o sz xs V h =>
  subst h
  exact⟨λ{cs} j=>D.mono E.l (.sl sz xs) (Xmq (θ:=θ) (z:=.sl sz []) (a:=.gr o sz xs) rfl j),rfl,λ_ h=>h.elim⟩
 | @own o sz l n xs V h hn Y Z =>
  subst Y
  refine⟨λ{cs} j=>?_,rfl,λ_ h=>h.elim⟩
  obtain⟨b,p,M,T,h3,e,h5⟩:=j
  obtain⟨b',bs,T',r1,r2,r3,r4,r5,r6,r7⟩:=E.o.r _ _ h
  rw[M] at r1;injection r1 with r1;subst r1
  have A:((xs.drop l).take n).length=n:=by simp;omega
  refine⟨p,(θ o).2-l,by rw[A];exact e,by omega,by omega,?_⟩
  rcases W2o n with B | B
  . exact .inl (W2k.1 (by rw[A,B]))
  . refine .inr ⟨b,l*sz,h5 (by omega),?_⟩
    have I:D.Row W' b sz 0 xs:=(AtL.mono E.l (sz:=sz) (xs:=xs) (cs:=bs) r6).row λq v _ hv=>by
     rw[W1j]
     exact E.n o _ b h rfl M Z q v (by rw[Xbf r2];exact hv)
    have:=D.row_sub I l n
    rwa[W1j] at this
 | @ow3 o sz l n xs V h hn Y Z =>
  subst Y
  refine⟨λ{cs} j=>?_,rfl,λ_ h=>h.elim⟩
  obtain⟨b,p,M,T,h3,e,h5⟩:=j
  obtain⟨b',bs,T',r1,r2,r3,r4,r5,r6,r7⟩:=E.o.r _ _ h
  rw[M] at r1;injection r1 with r1;subst r1
  have A:((xs.drop l).take n).length=n:=by simp;omega
  refine⟨p,n,by rw[A];exact e,by omega,by omega,?_⟩
  rcases W2o n with B | B
  . exact .inl (W2k.1 (by rw[A,B]))
  . refine .inr ⟨b,l*sz,h5 (by omega),?_⟩
    have I:D.Row W' b sz 0 xs:=(AtL.mono E.l (sz:=sz) (xs:=xs) (cs:=bs) r6).row λq v _ hv=>by
     rw[W1j]
     exact E.n o _ b h rfl M Z q v (by rw[Xbf r2];exact hv)
    have:=D.row_sub I l n
    rwa[W1j] at this
 | bq h=>exact⟨λj=>⟨_,j,h⟩,rfl,λ_ h=>h.elim⟩
 | qq h=>exact⟨λ⟨c,e,hp⟩=>⟨c,e,hp.trans h⟩,rfl,λ_ h=>h.elim⟩
 | @bp c p h =>
  have:c=dc p:=W4h.2 (h.trans Xal.symm)
  subst this
  exact⟨λj=>j,rfl,λ_ h=>h.elim⟩
 | bd h=>subst h;exact⟨λj=>j,rfl,λ_ h=>h.elim⟩
 | @qd p e h =>
  refine⟨λ⟨c,e1,hp⟩=>?_,rfl,λ_ h=>h.elim⟩
  have:c=e:=W4h.2 (hp.trans h)
  subst this;exact e1
 | dq h=>exact⟨λj=>⟨_,j,h⟩,rfl,λ_ h=>h.elim⟩
 | st h U=>exact⟨λj=>U.1 j,rfl,U.2.2⟩
 | sd h U=>exact⟨λj=>U.1 j,rfl,λ_ h=>h.elim⟩
 | pr h k O Q=>exact⟨λ⟨u,v,e,M,T⟩=>⟨u,v,e,O.1 M,Q.1 T⟩,rfl,λi hi=>hi.elim (O.2.2 i) (Q.2.2 i)⟩
 | pd h k O Q=>exact⟨λ⟨u,v,e,M,T⟩=>⟨u,v,e,O.1 M,Q.1 T⟩,rfl,λ_ h=>h.elim⟩
theorem Yd3{W W':GW}{N:Nat->Prop}{θ:Loc}{g:Hp}{K:Hpl}(E:Exi W W' N θ g K){a b:AV}(h:Fit g K a b){v:Value}(i:AV.V1 W θ a v): AV.V1 W' θ b v:=by
 obtain⟨cs,j,e⟩:=i
 obtain⟨o,A,B⟩:=Ya4 E h
 exact⟨cs,o j,by rw[e,A]⟩
theorem Yoy{W W':GW}{N:Nat->Prop}{θ:Loc}{g:Hp}{K:Hpl}(E:Exi W W' N θ g K){a b:AV}(h:FitT g K a b): (∀ {vs:List Value},AV.T W θ a vs->AV.T W' θ b vs)/\∀i,b.ids i->∃y,look K i=some y:=by
 induction h with
 | @one a b h ha hb =>
  refine⟨λ{vs} j=>?_,(Ya4 E h).2.2⟩
  by_cases o:a=.un\/b=.un
  . have:a=.un/\b=.un:=by
     rcases o with rfl | rfl
     . cases h;exact⟨rfl,rfl⟩
     . cases h;exact⟨rfl,rfl⟩
    obtain⟨rfl,rfl⟩:=this
    match vs,j with
    | [],_=>trivial
    | [v],⟨_,h,_⟩=>exact h.elim
  have B:a≠.un:=λe=>o (.inl e)
  have I:b≠.un:=λe=>o (.inr e)
  have A:∀ {W:GW} {θ:Loc} {a:AV},a≠.un->(∀u v,a≠.pr u v)->(AV.T W θ a vs↔∃v,vs=[v]/\AV.V1 W θ a v):=by
   intro W θ a o ha
   cases a<;>first | exact absurd rfl (ha _ _) | exact absurd rfl o | skip
   all_goals
    match vs with
    | []=>exact⟨λh=>h.elim,λ⟨v,h,_⟩=>by cases h⟩
    | [v]=>exact⟨λh=>⟨v,rfl,h⟩,λ⟨w,h,k⟩=>by injection h with h;subst h;exact k⟩
    | _::_::_=>exact⟨λh=>h.elim,λ⟨v,h,_⟩=>by cases h⟩
  obtain⟨v,e,O⟩:=(A B ha).1 j
  exact(A I hb).2 ⟨v,e,Yd3 E h O⟩
 | cons h k M =>
  refine⟨λ{vs} j=>?_,λi hi=>hi.elim ((Ya4 E h).2.2 i) (M.2 i)⟩
  match vs,j with
  | v::vs,j=>exact⟨Yd3 E h j.1,M.1 j.2⟩
theorem Ygs{W W':GW}{N:Nat->Prop}{θ:Loc}{g:Hp}{K:Hpl}(E:Exi W W' N θ g K){a b:AV}(h:FitR g K a b){v:Value}(A:AV.V W θ a v): AV.V W' θ b v/\∀i,b.ids i->∃y,look K i=some y:=by
 cases h with
 | one h ha hb =>
  obtain⟨cs,B,e⟩:=V_c A (λ_ e=>by subst e;cases ha) (λe=>by subst e;cases ha)
  obtain⟨j,o,I⟩:=Ya4 E h
  have:=Yms (j B)
  rw[<-o,<-e] at this
  exact⟨this,I⟩
 | tup h =>
  obtain⟨M,e,O⟩:=A
  obtain⟨j,o⟩:=Yoy E h
  exact⟨⟨M,e,j O⟩,o⟩
def Ym9(tb:Nat->Option TI)(s:S): ResultVar->Option AV
 | .tmp t=>match s.1 t with
  | some a=>match plain a with
   | true=>some a
   | false=>none
  | none=>none
 | .cell t T=>match tb T,s.1 t with
  | some h,some (.ptr o 0)=>match s.2 o with
   | some (.var a)=>match plain a&&Ya5 h.z.size h.z.ag a with
    | true=>some a
    | false=>none
   | _=>none
  | _,_=>none
def Xtk(tb:Nat->Option TI)(s:S): List ResultVar->Option (List AV)
 | []=>some []
 | r::l=>match Ym9 tb s r,Xtk tb s l with
  | some a,some asx=>some (a::asx)
  | _,_=>none
def mkT: List AV->AV
 | []=>.un
 | [a]=>a
 | a::l=>.pr a (mkT l)
def Xzb(tb:Nat->Option TI)(s:S)(h:List ResultVar): Option AV:=match h,Xtk tb s h with
 | [_],some [a]=>some a
 | _::_::_,some asx=>some (.tup (mkT asx))
 | [],some []=>some (.tup .un)
 | _,_=>none
def Xri(tmps:Array Value): ResultVar->Sem Value
 | .tmp t=>pure (tmps.getD t undef)
 | .cell a t=>do loadVar t (<-asAddr (tmps.getD a undef))
section
variable{c:Cx}{K:List Kt}{s:S}
theorem Yah{W:GW}{θ:Loc}{a:AV}{v:Value}(h:AV.V W θ a v)(hp:plain a=true): AV.V1 W θ a v:=V_c h (λ_ e=>by subst e;cases hp) (λe=>by subst e;cases hp)
theorem Xz6{W0:GW}{X:Nat->Prop}{n:Nat}{a:Act}{W:GW}{θ:Loc}(V:∀T ti,c.tb T=some ti->TyOk c.P T ti/\∀a c,ti.z≠.pr a c)(hs:Sat W0 X n s a W θ){r:ResultVar}{v:AV}(h:Ym9 c.tb s r=some v):
 ∃u,(Xri a.tmps r).run c.P W.w=.ok u W.w/\AV.V1 W θ v u/\plain v=true:=by
 cases r with
 | tmp t =>
  simp only[Ym9] at h
  split at h<;>try cases h
  rename_i b hb
  split at h<;>cases h
  rename_i hp
  exact⟨_,rfl,Yah (hs.rel.has t _ hb) hp,hp⟩
 | cell t T =>
  simp only[Ym9] at h
  split at h<;>try cases h
  rename_i ti o i Y
  split at h<;>try cases h
  rename_i b Z
  split at h<;>cases h
  rename_i hp
  rw[W0h] at hp
  obtain⟨A,B⟩:=hp
  obtain⟨M,O⟩:=Xdd B
  obtain⟨Q,I⟩:=V _ _ i
  obtain⟨bb,h1,e⟩:=Xjn (hs.rel.has t _ Y)
  obtain⟨b',cs,T',r1,r2,U,r4⟩:=hs.obs.r _ _ Z
  rw[h1] at r1;injection r1 with r1;subst r1
  have:=Xh7 Q (off:=0) U M O (λe=>by rw[M];exact ag1 Q (by rw[<-O];exact e) I) (λj u hj=>by rw[Xbf r2,W1j];exact hj)
  refine⟨_,?_,Ymt U,A⟩
  simp only[Xri,e,asAddr]
  rw[Sem.run_bind]
  show Result.andThen (Result.ok _ _) _=_
  simp only[Result.andThen_ok]
  exact this
theorem Xm4{W0:GW}{X:Nat->Prop}{n:Nat}{a:Act}{W:GW}{θ:Loc}(j:∀T ti,c.tb T=some ti->TyOk c.P T ti/\∀a c,ti.z≠.pr a c)(hs:Sat W0 X n s a W θ): ∀ {l:List ResultVar} {asx:List AV},Xtk c.tb s l=some asx ->
 ∃us,(l.mapM (Xri a.tmps)).run c.P W.w=.ok us W.w/\us.length=asx.length/\asx.length=l.length/\(∀(i:Nat) (v:AV),asx[i]?=some v->∃u,us[i]?=some u/\AV.V1 W θ v u/\plain v=true)
 | [],asx,h=>by simp only[Xtk] at h;injection h with h;subst h;exact⟨[],rfl,rfl,rfl,λi v h=>by simp at h⟩
 | r::l,asx,h=>by
  simp only[Xtk] at h
  split at h<;>cases h
  rename_i b Y o A
  obtain⟨u,B,I,M⟩:=Xz6 j hs o
  obtain⟨us,O,Q,U,V⟩:=Xm4 j hs A
  refine⟨u::us,?_,by simp[Q],by simp[U],λi v hi=>?_⟩
  . rw[List.mapM_cons,Sem.run_bind,B]
    simp only[Result.andThen_ok]
    rw[Sem.run_bind,O]
    rfl
  . cases i with
    | zero=>simp at hi;subst hi;exact⟨u,rfl,I,M⟩
    | succ i=>simpa using V i v (by simpa using hi)
theorem Yki{W:GW}{θ:Loc}: ∀ {asx:List AV} {us:List Value},us.length=asx.length->0<asx.length->(∀(i:Nat) (v:AV),asx[i]?=some v->∃u,us[i]?=some u/\AV.V1 W θ v u/\plain v=true)->AV.T W θ (mkT asx) us
 | [a],[u],_,_,h=>by
  obtain⟨w,j,o,A⟩:=h 0 a rfl
  simp at j;subst j
  show AV.T W θ a [u]
  cases a<;>first | exact o | cases A
 | a::b::l,u::us,B,_,h=>by
  obtain⟨w,j,o,_⟩:=h 0 a rfl
  simp at j;subst j
  exact⟨o,Yki (asx:=b::l) (by simpa using B) (by simp) λi v hi=>by
   have:=h (i+1) v (by simpa using hi)
   simpa using this⟩
 | [],_,_,h,_=>by simp at h
 | [_],[],h,_,_=>by simp at h
 | [_],_::_::_,h,_,_=>by simp at h
 | _::_::_,[],h,_,_=>by simp at h
theorem Xrh{W0:GW}{X:Nat->Prop}{n:Nat}{a:Act}{W:GW}{θ:Loc}(Y:∀T ti,c.tb T=some ti->TyOk c.P T ti/\∀a c,ti.z≠.pr a c)(hs:Sat W0 X n s a W θ){fn:Func}{v:AV}(h:Xzb c.tb s fn.results.toList=some v):
 ∃u,(results fn a.tmps).run c.P W.w=.ok u W.w/\AV.V W θ v u:=by
 have B:∀ {asx:List AV},Xtk c.tb s fn.results.toList=some asx->∃us:List Value,(results fn a.tmps).run c.P W.w=.ok (if h:us.toArray.size=1 then us.toArray[0] else .tuple us.toArray) W.w/\us.length=asx.length/\asx.length=fn.results.toList.length/\(∀(i:Nat) (v:AV),asx[i]?=some v->∃u,us[i]?=some u/\AV.V1 W θ v u/\plain v=true):=by
  intro asx j
  obtain⟨us,o,A,O,M⟩:=Xm4 Y hs j
  refine⟨us,?_,A,O,M⟩
  unfold results
  have Z:fn.results=fn.results.toList.toArray:=by simp
  have hm:(fn.results.mapM (Xri a.tmps)).run c.P W.w=.ok us.toArray W.w:=by
   rw[Z,List.mapM_toArray,Sem.run_map,o]
   rfl
  rw[Sem.run_bind]
  erw[hm]
  rfl
 unfold Xzb at h
 split at h<;>cases h
 . rename_i r I j
   obtain⟨us,o,A,O,M⟩:=B j
   match us,A,o with
   | [u],_,o =>
    obtain⟨w,Q,h2,h3⟩:=M 0 _ rfl
    simp at Q;subst Q
    exact⟨u,by rw[o];rfl,V1.V h2⟩
 . rename_i r1 r2 rs asx I j
   obtain⟨us,o,A,O,M⟩:=B j
   have U:2<=us.length:=by rw[A,O,I];simp
   exact⟨.tuple us.toArray,by rw[o,dif_neg (by simp;omega)],us,rfl,Yki A (by omega) M⟩
 . rename_i I j
   obtain⟨us,o,A,O,M⟩:=B j
   have U:us=[]:=W0n (by rw[A];rfl)
   subst U
   exact⟨.tuple #[],by rw[o];rfl,[],rfl,trivial⟩
theorem Xxp{fn:Func}{Q:AV->Prop}(Y:c.X=λ_=>False){v M:AV}(hr:Xzb c.tb s fn.results.toList=some v)(hf:FitR s.2 [] v M)(hq:Q M){a:Act}{w:World}(h:c.Nx (λs'=>s'=s) a w):
 a.defers=[]/\∃u,(results fn a.tmps).run c.P w=.ok u w/\Ret c.W0 Q (.returned u) w:=by
 obtain⟨s',W,θ,rfl,hs,Z,rfl⟩:=h
 obtain⟨u,hu,hv⟩:=Xrh c.hT hs hr
 have j:=hs.fm
 have B:=hs.obs
 rw[Y] at j B
 refine⟨hs.rel.defers,u,hu,?_⟩
 let W':GW:=⟨W.w,c.W0.A,λb i h=>W0u (c.W0.hA b i h) j.size⟩
 have U:LeF W W':=λb i x I=>⟨I.1,λO=>I.2 ((j.A b (c.W0.hA b i O) id i).2 O)⟩
 have E:Exi W W' (λb=>c.W0.size<=b\/False) θ s'.2 []:=⟨B,U,λo x b ho hl hb _ i y V=>⟨V,λO=>absurd (c.W0.hA b i O) (W6j.2 ((B.new o x b ho hl hb).resolve_right id))⟩⟩
 obtain⟨f1,T⟩:=Ygs E hf hv
 have T:∀i,¬M.ids i:=λi hi=>by obtain⟨y,V⟩:=T i hi;cases V
 exact⟨W',M,u,rfl,rfl,⟨j.os,j.out,j.tape,j.size,j.same,λ_ _ _ _=>W4f,λb i x I=>⟨(j.le b i x I).1,I.2⟩⟩,f1.mono (LeF.refl W') λi hi=>absurd hi (T i),T,hq⟩
theorem J.retC{fn:Func}{Q:AV->Prop}(o:c.X=λ_=>False)(i:c.fin=bodyPost c.P fn (Ret c.W0 Q)){v j:AV}(hr:Xzb c.tb s fn.results.toList=some v)(hf:FitR s.2 [] v j)(hq:Q j): J c (.c .ret::K) s :=
 J.ret λa w h=>by rw[i];exact Xxp o hr hf hq h
theorem J.endC{fn:Func}{Q:AV->Prop}(o:c.X=λ_=>False)(i:c.fin=bodyPost c.P fn (Ret c.W0 Q)){v j:AV}(hr:Xzb c.tb s fn.results.toList=some v)(hf:FitR s.2 [] v j)(hq:Q j): J c [] s :=
 λa w h=>by show c.fin .normal a w;rw[i];exact Xxp o hr hf hq h
end
def Yb5: Nat->List AV->Ev
 | _,[]=>λ_=>none
 | i,v::h=>upd (Yb5 (i+1) h) i v
theorem Xoh{W:GW}: ∀ {asx:List AV} {vs:List Value} {i t:Nat} {v:AV},Xjg W θe asx vs->Yb5 i asx t=some v->i<=t/\∃u,vs[t-i]?=some u/\AV.V W θe v u/\v∈asx
 | [],[],i,t,v,_,h=>by simp[Yb5] at h
 | a::asx,u::vs,i,t,v,ha,h=>by
  rcases Xae h with ⟨o,j⟩ | ⟨o,j⟩
  . subst o;subst j;exact⟨W0c _,u,by simp,ha.1,W0v ..⟩
  . obtain⟨M,w,A,B,I⟩:=Xoh ha.2 j
    exact⟨by omega,w,by rw[show t-i=(t-(i+1))+1 by omega];simpa using A,B,W1b _ I⟩
 | [],_::_,_,_,_,h,_=>h.elim
 | _::_,[],_,_,_,h,_=>h.elim
theorem Xjg.len{W:GW}{θ:Loc}: ∀ {asx:List AV} {vs:List Value},Xjg W θ asx vs->asx.length=vs.length
 | [],[],_=>rfl
 | _::_,_::_,h=>by simp[h.2.len]
 | [],_::_,h=>h.elim
 | _::_,[],h=>h.elim
theorem C.enter {P : Program} [gb : Gb P] [t : Tab P] (hpr : ∀ T ti, t.tb T = some ti → ∀ a c, ti.z ≠ .pr a c) [m : Mx P] {f n : Nat} {fn : Func} {x : Code} {args : List AV} {Q : AV → Prop} (hf : P.funcs[f]? = some fn) (hname : (fn.name == "runtime.NumGoroutine") = false) (hb : fn.body = some x)
 (hN:fn.ntmps=n) (hl:(Nat.ble args.length n&&Nat.ble n 1000000&&args.all Xlg)=true)
 (h:∀W (hg:gb.g W),J ⟨P,gb,t.tb,λT ti h=>⟨t.ok T ti h,hpr T ti h⟩,m,n,by simp only[W0h] at hl;exact W1t hl.1.2,W,λ_=>False,θe,bodyPost P fn (Ret W Q),hg⟩ [.c x] (Yb5 0 args,λ_=>none)):C P f args Q:=by
 refine⟨⟨fn,hf,hname,by rw[hb];rfl⟩,λW vs hg ha=>calls_of_wp hf hb ?_⟩
 simp only[W0h] at hl
 obtain⟨⟨hl1,hl2⟩,hl3⟩:=hl
 have hl1:=W1t hl1
 have hlen:=ha.len
 refine wp_mono (h W hg _ W.w ⟨_,W,θe,rfl,⟨Fm.refl W _,⟨rfl,by simp[hN];omega,λt v ht=>?_⟩,⟨λo x h=>by simp at h,λo x b h=>by simp at h,λo o' x x' b h=>by simp at h,λo x i h=>by simp at h⟩,λt v i ht hi=>?_⟩,λ_ _=>rfl,rfl⟩) λe a w h=>by cases e<;>exact h
 . obtain⟨_,u,h2,h3,_⟩:=Xoh ha ht
   rw[W7c] at h2
   have hlt:=Xbn h2
   rw[W0a hlt] at h2
   injection h2 with h2
   simp only[Array.getD]
   rw[dif_pos (by simp;omega)]
   simp[W6y,hlt,h2]
   exact h3
 . obtain⟨_,u,_,_,h4⟩:=Xoh ha ht
   exact absurd hi (Xlf (W1q.1 hl3 v h4) i)
end
section
abbrev sem(E:Env)(H:Hpl): S:=(look E,look H)
theorem Xa6{α:Type _}(E:List (Nat×α))(d:Nat)(v:α): upd (look E) d v=look ((d,v)::E):=by funext t;simp only[upd,look];cases Nat.beq t d<;>rfl
theorem Xil(H:Hpl): ∀us:List (Nat×Ob),Xb1 (look H) us=look (us++H)
 | []=>rfl
 | (o,x)::us=>by rw[Xb1,Xil H us,Xa6];rfl
def Xub(E:Env)(d:Option Nat)(v:AV): Env:=match d with
 | some d=>(d,v)::E
 | none=>E
theorem Xfb(E:Env)(H:Hpl)(us:List (Nat×Ob))(d:Option Nat)(v:AV): S.put ((sem E H).1,Xb1 (sem E H).2 us) d v=sem (Xub E d v) (us++H):=by
 cases d with
 | none=>simp only[S.put,Xub,sem,Xil]
 | some d=>simp only[S.put,Xub,sem,Xil,Xa6]
def stops: Op->Bool
 | .binOp op _ _ _ _=>match op with
  | .eql | .neq | .lss | .leq | .gtr | .geq=>false
  | _=>true
 | .unOp op _ _=>match op with
  | .not=>false
  | _=>true
 | .convert _ _ _ | .index _ _ _ | .indexAddr _ _ _ | .slice _ _ _ _ _ | .makeSlice _ _ _=>true
 | .call c=>match c.callee with
  | .builtin .len=>false
  | _=>true
 | _=>false
def Yn4(E:Env): Op->Bool
 | .load _ x=>match Xcw (look E) x with
  | some (.el _ _ _ _)=>true
  | _=>false
 | .store _ x _=>match Xcw (look E) x with
  | some (.el _ _ _ _)=>true
  | _=>false
 | _=>false
def Yqp(G:List (Nat×Bool)): Option Nat->List (Nat×Bool)
 | none=>G
 | some d=>(d,false)::G
inductive St where
 | j (G:List (Nat×Bool)) (K:List Kt) (E:Env) (H:Hpl)
 | o (G:List (Nat×Bool)) (dr:Bool) (L l:List Oper) (K:List Kt) (E:Env) (H:Hpl)
def StP(c:Cx): St->Prop
 | .j _ K E H=>J c K (sem E H)
 | .o _ dr L l K E H=>WL c.P c.tb dr L (J c K) l (sem E H)
def inG: List (Nat×Bool)->Nat->Bool
 | [],_=>false
 | (s,b)::G,t=>match Nat.beq s t with
  | true=>b
  | false=>inG G t
def Yig(G:List (Nat×Bool)): Operand->Bool
 | .const (.bool _)=>true
 | .tmp t=>inG G t
 | _=>false
def Yrg(G:List (Nat×Bool))(E:Env): Op->Bool
 | .assign x | .move x=>Yig G x
 | .unOp op _ x=>match op with
  | .not=>Yig G x
  | _=>false
 | .pick x a b=>match Xcw (look E) x with
  | some (.b true)=>Yig G a
  | some (.b false)=>Yig G b
  | _=>false
 | _=>false
def Yfa(G:List (Nat×Bool))(L:List Oper)(E:Env)(o:Oper): Bool:=match o.guard with
 | none=>true
 | some (j,_)=>match Xnz L j with
  | none=>false
  | some t=>match look E t with
   | some .un=>true
   | _=>inG G t
def Yog(G:List (Nat×Bool)): Op->Bool
 | .pick x _ _=>Yig G x
 | _=>true
def nfA{α:Type}: AV->(AV->α)->α
 | .d x,k=>k (.d x)
 | .q p,k=>k (.q p)
 | .b c,k=>k (.b c)
 | .ub p,k=>k (.ub p)
 | .nil,k=>k .nil
 | .lit sz xs,k=>k (.lit sz xs)
 | .st a,k=>nfA a λa=>k (.st a)
 | .pr a c,k=>nfA a λa=>nfA c λc=>k (.pr a c)
 | .tup a,k=>nfA a λa=>k (.tup a)
 | .fm f a,k=>nfA a λa=>k (.fm f a)
 | .at x,k=>k (.at x)
 | .ptr o f,k=>k (.ptr o f)
 | .own o sz l n,k=>k (.own o sz l n)
 | .ow3 o sz l n,k=>k (.ow3 o sz l n)
 | .gr o sz xs,k=>k (.gr o sz xs)
 | .el o sz j f,k=>k (.el o sz j f)
 | .fn f o,k=>k (.fn f o)
 | .ap o n,k=>k (.ap o n)
 | .un,k=>k .un
theorem Ydr{α:Type}: ∀(a:AV) (k:AV->α),nfA a k=k a:=by
 intro a
 induction a with
 | st a h=>intro k;exact h _
 | tup a h=>intro k;exact h _
 | fm f a h=>intro k;exact h _
 | pr a c i j=>intro k;show nfA a _=_;rw[i,j]
 | _=>intro k;rfl
def nfO{α:Type}: Ob->(Ob->α)->α
 | .var a,k=>nfA a λa=>k (.var a)
 | .arr sz xs,k=>k (.arr sz xs)
 | .tok n sz,k=>k (.tok n sz)
 | .dead,k=>k .dead
theorem Ykc{α:Type}(x:Ob)(k:Ob->α): nfO x k=k x:=by
 cases x with
 | var a=>exact Ydr a _
 | _=>rfl
def apH{α:Type}: Hpl->Hpl->(Hpl->α)->α
 | [],H,k=>k H
 | (o,x)::us,H,k=>nfO x λx=>apH us H λH=>k ((o,x)::H)
theorem Xyy{α:Type}: ∀(us H:Hpl) (k:Hpl->α),apH us H k=k (us++H)
 | [],_,_=>rfl
 | (o,x)::us,H,k=>by show nfO x _=_;rw[Ykc,Xyy us];rfl
noncomputable def Ym8(tb:Nat->Option TI)(n:Nat): St->Option St
 | .j G (.c (.seq x y)::K) E H=>some (.j G (.c x::.c y::K) E H)
 | .j G (.c .skip::K) E H=>some (.j G K E H)
 | .j G (.c (.block id x)::K) E H=>some (.j G (.c x::.b id::K) E H)
 | .j G (.b _::K) E H=>some (.j G K E H)
 | .j G (.c (.exit id)::K) E H=>match Ydg id K with
  | some K'=>some (.j G K' E H)
  | none=>none
 | .j G (.c (.region _ ⟨l⟩ false)::K) E H=>match Xo9 n l with
  | true=>some (.o G false l l K E H)
  | false=>none
 | .j G (.c (.cond x p q)::K) E H=>match Yig G x with
  | false=>none
  | true=>match Xcw (look E) x with
   | some (.b true)=>some (.j G (.c p::K) E H)
   | some (.b false)=>some (.j G (.c q::K) E H)
   | _=>none
 | .o G _ _ [] K E H=>some (.j G K E H)
 | .o G dr L (o::l) K E H=>match Yfa G L E o with
  | false=>none
  | true=>match want L o (sem E H) with
   | none=>none
   | some false=>match o.dst with
    | some d=>some (.o ((d,false)::G) dr L l K ((d,.un)::E) H)
    | none=>none
   | some true=>match Yog G o.op,stops o.op||Yn4 E o.op with
    | true,false=>match eff tb o (sem E H) with
     | some (v,us)=>nfA v λv=>apH us H λH=>match o.dst with
      | none=>some (.o G dr L l K E H)
      | some d=>match Yrg G E o.op with
       | true=>some (.o ((d,true)::G) dr L l K ((d,v)::E) H)
       | false=>some (.o ((d,false)::G) dr L l K ((d,v)::E) H)
     | none=>none
    | _,_=>none
 | _=>none
noncomputable def runN(tb:Nat->Option TI)(n:Nat): Nat->St->St
 | 0,s=>s
 | m+1,s=>match Ym8 tb n s with
  | some s'=>runN tb n m s'
  | none=>s
section
variable{c:Cx}
theorem Xjs{o:Oper}(h:stops o.op=false): Xap o=false:=by
 unfold Xap
 cases i:o.op<;>first
  | rfl
  | (rename_i c
     obtain⟨cal,asx,j⟩:=c
     rw[i] at h
     cases cal with
     | builtin b=>cases b<;>rfl
     | value x=>cases h
     | invoke x m=>rfl)
theorem Xl1{dr:Bool}{L:List Oper}{o:Oper}{E:Env}{H:Hpl}{v:AV}{us:List (Nat×Ob)}{R:S->Prop}(h:want L o (sem E H)=some true)(i:Xap o=false)(j:eff c.tb o (sem E H)=some (v,us))(k:R (sem (Xub E o.dst v) (us++H))): Wo c.P c.tb dr L o R (sem E H) :=
 .inl ⟨h,(Xp5 i).2 (.inl ⟨(v,us),j,by unfold aft;rw[Xfb];exact k⟩)⟩
theorem Xu6{dr:Bool}{L:List Oper}{o:Oper}{E:Env}{H:Hpl}{d:Nat}{R:S->Prop}(h:want L o (sem E H)=some false)(hd:o.dst=some d)(k:R (sem ((d,.un)::E) H)): Wo c.P c.tb dr L o R (sem E H) :=
 .inr ⟨h,d,hd,by show R (upd (look E) d .un,look H);rw[Xa6];exact k⟩
theorem Xvh{s s':St}(h:Ym8 c.tb c.n s=some s')(k:StP c s'): StP c s:=by
 unfold Ym8 at h
 split at h
 . injection h with h;subst h;exact J.seq k
 . injection h with h;subst h;exact J.skip k
 . injection h with h;subst h;exact J.block k
 . injection h with h;subst h;exact J.bend k
 . split at h<;>cases h
   rename_i hp;exact J.exit hp k
 . split at h<;>cases h
   rename_i hp;exact J.reg hp k
 . split at h<;>try cases h
   split at h<;>cases h
   . rename_i o;exact J.condT o k
   . rename_i o;exact J.condF o k
 . injection h with h;subst h;exact k
 . split at h<;>try cases h
   split at h<;>try cases h
   . rename_i j
     split at h<;>cases h
     rename_i d hd
     exact Xu6 j hd k
   . rename_i j
     split at h<;>try cases h
     rename_i i
     rw[Bool.or_eq_false_iff] at i
     split at h
     . rename_i v us A
       rw[Ydr,Xyy] at h
       split at h
       . rename_i hd
         injection h with h;subst h
         exact Xl1 j (Xjs i.1) A (by rw[hd];exact k)
       . rename_i d hd
         split at h<;>(injection h with h;subst h;exact Xl1 j (Xjs i.1) A (by rw[hd];exact k))
     . cases h
 . cases h
theorem Xvg: ∀(m:Nat) {s:St},StP c (runN c.tb c.n m s)->StP c s
 | 0,_,k=>k
 | m+1,s,k=>by
  unfold runN at k
  split at k
  . rename_i s' h;exact Xvh h (Xvg m k)
  . exact k
theorem go{s:St}(m:Nat){s':St}(h:runN c.tb c.n m s=s')(k:StP c s'): StP c s:=Xvg m (by rw[h];exact k)
variable{s:St}{K:List Kt}{E:Env}{H:Hpl}
class Dc (b:Bool) (p:outParam Prop):Prop where
 h:b=true↔p
instance {p:Prop}:Dc (dc p) p:=⟨Xal⟩
instance {b:Bool} {p:Prop} [h:Dc b p]:Dc (!b) (¬p):=⟨by rw[<-h.h];cases b<;>simp⟩
instance (priority:=low) {b:Bool}:Dc b (b=true):=⟨W4f⟩
theorem Xrc{t:Nat}{v:AV}(h:look E t=some v): sem ((t,v)::E) H=sem E H:=by
 unfold sem
 congr 1
 funext u
 simp only[look]
 split
 . rename_i e;rw[W0g e,h]
 . rfl
noncomputable def nxG(tb:Nat->Option TI)(n:Nat)(s:St): Option (Nat×Bool×St×(Bool->St)):=match runN tb n 1000 s with
 | .j G (.c (.cond (.tmp t) p q)::K) E H=>match look E t with
  | some (.b b)=>some (t,b,.j G (.c (.cond (.tmp t) p q)::K) E H,λb=>.j ((t,true)::G) (.c (.cond (.tmp t) p q)::K) ((t,.b b)::E) H)
  | _=>none
 | .o G dr L (o::l) K E H=>match o.op,Yfa G L E o with
  | .pick (.tmp t) _ _,true=>match look E t with
   | some (.b b)=>some (t,b,.o G dr L (o::l) K E H,λb=>.o ((t,true)::G) dr L (o::l) K ((t,.b b)::E) H)
   | _=>none
  | _,false=>match o.guard with
   | some (j,_)=>match Xnz L j with
    | some t=>match look E t with
     | some (.b b)=>some (t,b,.o G dr L (o::l) K E H,λb=>.o ((t,true)::G) dr L (o::l) K ((t,.b b)::E) H)
     | _=>none
    | none=>none
   | none=>none
  | _,_=>none
 | _=>none
theorem Ydo{t:Nat}{b:Bool}{s0:St}{f:Bool->St}(h:nxG c.tb c.n s=some (t,b,s0,f))(k:StP c (f b)): StP c s:=by
 unfold nxG at h
 split at h<;>try cases h
 . rename_i A
   split at h<;>cases h
   rename_i i
   refine go 1000 A ?_
   have k:J c _ (sem _ _):=k
   rw[Xrc i] at k
   exact k
 . rename_i A
   have j:∀ {G dr L l K E H t b},look E t=some (.b b)->StP c (.o ((t,true)::G) dr L l K ((t,.b b)::E) H)->StP c (.o G dr L l K E H):=by
    intro G dr L l K E H t b i k
    have k:WL _ _ _ _ _ _ (sem _ _):=k
    rw[Xrc i] at k
    exact k
   split at h<;>try cases h
   . split at h<;>cases h
     rename_i i
     exact go 1000 A (j i k)
   . split at h<;>try cases h
     split at h<;>try cases h
     split at h<;>cases h
     rename_i i
     exact go 1000 A (j i k)
theorem By{t:Nat}{b:Bool}{s0:St}{f:Bool->St}{p:Prop}[d:Dc b p](h:nxG c.tb c.n s=some (t,b,s0,f))(i:p->StP c (f true))(j:¬p->StP c (f false)): StP c s:=by
 have:=d.h
 cases b with
 | true=>exact Ydo h (i (this.1 rfl))
 | false=>exact Ydo h (j λhp=>by cases this.2 hp)
theorem Yes{t:Nat}{b:Bool}{s0:St}{f:Bool->St}{p:Prop}[d:Dc b p](h:nxG c.tb c.n s=some (t,b,s0,f))(hp:p)(k:StP c (f true)): StP c s:=By h (λ_=>k) λi=>absurd hp i
theorem No{t:Nat}{b:Bool}{s0:St}{f:Bool->St}{p:Prop}[d:Dc b p](h:nxG c.tb c.n s=some (t,b,s0,f))(hp:¬p)(k:StP c (f false)): StP c s:=By h (λh=>absurd h hp) λ_=>k
noncomputable def nxU(tb:Nat->Option TI)(n:Nat)(s:St): Option (Prop×St×St):=match runN tb n 1000 s with
 | .j G (.c (.cond x p q)::K) E H=>match Xcw (look E) x with
  | some (.ub r)=>some (r,.j G (.c p::K) E H,.j G (.c q::K) E H)
  | _=>none
 | _=>none
theorem Ub{r:Prop}{s1 s2:St}(h:nxU c.tb c.n s=some (r,s1,s2))(i:r->StP c s1)(j:StP c s2): StP c s:=by
 unfold nxU at h
 split at h<;>try cases h
 rename_i o
 split at h<;>cases h
 rename_i A
 exact go 1000 o (J.condU A i j)
noncomputable def nxD(tb:Nat->Option TI)(n:Nat)(s:St): Option St:=match runN tb n 1000 s with
 | .j G (.c (.region _ ⟨L⟩ true)::K) E H=>match Xo9 n L with
  | true=>some (.o G true L L K E H)
  | false=>none
 | _=>none
def Yrv: St->Bool
 | .o _ _ L _ _ _ _=>Xja L (λ_ _=>false) [] [] L
 | _=>false
theorem Dw{s':St}(h:nxD c.tb c.n s=some s')(k:StP c s')(i:Yrv s'=true:=by exact rfl): StP c s:=by
 unfold nxD at h
 split at h<;>try cases h
 rename_i o
 split at h<;>cases h
 rename_i j
 exact go 1000 o (J.draw Dm.no trivial j i k)
class Wk (c:Cx) (fn:outParam Func) (Q:outParam (AV->Prop)):Prop where
 x:c.X=λ_=>False
 f:c.fin=bodyPost c.P fn (Ret c.W0 Q)
noncomputable def nxR(tb:Nat->Option TI)(n:Nat)(h:List ResultVar)(s:St): Option (AV×Hpl):=match runN tb n 1000 s with
 | .j _ (.c .ret::_) E H=>match Xzb tb (sem E H) h with
  | some v=>some (v,H)
  | none=>none
 | .j _ [] E H=>match Xzb tb (sem E H) h with
  | some v=>some (v,H)
  | none=>none
 | _=>none
theorem Rt{fn:Func}{Q:AV->Prop}[w:Wk c fn Q]{v o:AV}(h:nxR c.tb c.n fn.results.toList s=some (v,H))(hf:FitR (look H) [] v o)(hq:Q o): StP c s:=by
 unfold nxR at h
 split at h<;>try cases h
 . rename_i i
   split at h<;>cases h
   rename_i j
   exact go 1000 i (J.retC w.x w.f j hf hq)
 . rename_i i
   split at h<;>cases h
   rename_i j
   exact go 1000 i (J.endC w.x w.f j hf hq)
theorem R1{fn:Func}{r:AV}[w:Wk c fn (·=r)]{v:AV}(h:nxR c.tb c.n fn.results.toList s=some (v,H))(hf:Fit (look H) [] v r)(hp:(plain v&&plain r)=true:=by exact rfl): StP c s:=by
 rw[W0h] at hp
 exact Rt (Q:=(·=r)) h (.one hf hp.1 hp.2) rfl
theorem Xv8: ∀ {a:AV},Xlg a=true->Xdc [] a=true:=by
 intro a
 induction a with
 | st a i=>exact i
 | tup a i=>exact i
 | fm f a i=>exact i
 | pr a c j o=>intro h;simp only[Xlg,W0h] at h;simp only[Xdc,W0h];exact⟨j h.1,o h.2⟩
 | _=>intro h;first | rfl | cases h
theorem R0{fn:Func}{r:AV}[w:Wk c fn (·=r)](h:nxR c.tb c.n fn.results.toList s=some (r,H):=by exact rfl)(hp:(plain r&&Xlg r)=true:=by exact rfl): StP c s:=by
 rw[W0h] at hp
 exact Rt (Q:=(·=r)) h (.one (.rf (Xv8 hp.2)) hp.1 hp.1) rfl
end
theorem Ygt{g:Hp}{K:Hpl}: ∀ {a:AV},Xdc K a=true->FitT g K a a:=by
 intro a
 induction a with
 | pr a c _ i=>intro h;simp only[Xdc,W0h] at h;exact .cons (.rf h.1) (i h.2)
 | _=>intro h;exact .one (.rf h) nofun nofun
theorem R0t{c:Cx}{s:St}{H:Hpl}{fn:Func}{r:AV}[w:Wk c fn (·=.tup r)](h:nxR c.tb c.n fn.results.toList s=some (.tup r,H):=by exact rfl)(hp:Xlg r=true:=by exact rfl): StP c s :=
 Rt (Q:=(·=.tup r)) h (.tup (Ygt (Xv8 hp))) rfl
theorem RTt{c:Cx}{s:St}{H:Hpl}{fn:Func}{a r:AV}[w:Wk c fn (·=.tup r)](h:nxR c.tb c.n fn.results.toList s=some (.tup a,H))(hf:FitT (look H) [] a r): StP c s :=
 Rt (Q:=(·=.tup r)) h (.tup hf) rfl
def Yik: Nat->List AV->Env
 | _,[]=>[]
 | i,v::h=>(i,v)::Yik (i+1) h
theorem Xmd: ∀(asx:List AV) (i:Nat),Yb5 i asx=look (Yik i asx)
 | [],i=>rfl
 | a::asx,i=>by rw[Yb5,Xmd asx,Xa6];rfl
abbrev cx(P:Program)(gb:Gb P)(t:Tab P)(m:Mx P)(i:∀T ti,t.tb T=some ti->∀a c,ti.z≠.pr a c)(n:Nat)(j:n<=1000000)(fn:Func)(W:GW)(Q:AV->Prop)(o:gb.g W): Cx:=⟨P,gb,t.tb,λT ti h=>⟨t.ok T ti h,i T ti h⟩,m,n,j,W,λ_=>False,θe,bodyPost P fn (Ret W Q),o⟩
instance {P gb t m h n i fn W Q j}:Wk (cx P gb t m h n i fn W Q j) fn Q:=⟨rfl,rfl⟩
class Npr (P:Program) [t:Tab P]:Prop where
 h:∀T ti,t.tb T=some ti->∀a c,ti.z≠.pr a c
theorem En {P : Program} [gb : Gb P] [t : Tab P] [hp : Npr P] [m : Mx P] {f n : Nat} {fn : Func} {x : Code} {args : List AV} {Q : AV → Prop} (hf : P.funcs[f]? = some fn) (h : ∀ W hg hn, StP (cx P gb t m hp.h n hn fn W Q hg) (.j [] [.c x] (Yik 0 args) [])) (hname : (fn.name == "runtime.NumGoroutine") = false := by exact rfl) (hb : fn.body = some x := by exact rfl)
 (hN:fn.ntmps=n:=by exact rfl) (hl:(Nat.ble args.length n&&Nat.ble n 1000000&&args.all Xlg)=true:=by exact rfl):C P f args Q :=
 C.enter hp.h hf hname hb hN hl λW hg=>by
  have:=h W hg (by simp only[W0h] at hl;exact W1t hl.1.2)
  simp only[StP,sem,<-Xmd] at this
  exact this
end
section
def chD(x:D): Nat->D
 | 0=>x
 | n+1=>.pr x (chD x n)
def eqV: Value->Value->Bool
 | .int k z,.int h i=>k==h&&z==i
 | .bool b,.bool j=>b==j
 | .string s,.string s'=>Nat.beq s.size 0&&Nat.beq s'.size 0
 | .slice none 0 0,.slice none 0 0=>true
 | .pointer none,.pointer none=>true
 | .nilFunc,.nilFunc=>true
 | .nilIface,.nilIface=>true
 | _,_=>false
def Ylk: List Value->List Value->Bool
 | [],[]=>true
 | v::h,w::ws=>eqV v w&&Ylk h ws
 | _,_=>false
theorem Yjd{s:ByteArray}(h:s.size=0): s=ByteArray.empty:=by
 cases s with | mk d =>
 have:d=#[]:=Array.eq_empty_of_size_eq_zero h
 subst this;rfl
theorem Yll{v w:Value}(h:eqV v w=true): v=w:=by
 unfold eqV at h
 split at h<;>first
  | rfl
  | (cases h;done)
  | (simp only[W0h,beq_iff_eq] at h;obtain⟨i,j⟩:=h;first | (rw[i,j];done) | (rw[Yjd (W0g i),Yjd (W0g j)]))
  | (simp only[beq_iff_eq] at h;rw[h])
theorem Xpt: ∀ {v w:List Value},Ylk v w=true->v=w
 | [],[],_=>rfl
 | v::i,w::ws,h=>by
  simp only[Ylk,W0h] at h
  rw[Yll h.1,Xpt h.2]
 | [],_::_,h=>by cases h
 | _::_,[],h=>by cases h
def Ybe(P:Program)(E:TypeId)(z:D)(h:Nat): Bool:=match P.info? E with
 | some i=>Nat.beq i.size z.size&&Nat.beq i.bytes h&&(match i.zero with
  | some v=>Ylk v.cells.toList z.zc
  | none=>false)
 | none=>false
def Xly(P:Program): Nat->List Field->List D->Bool
 | _,[],[]=>true
 | o,f::h,c::l=>Nat.beq f.offset o&&(match P.info? f.type,P.underlying f.type with
  | some i,some t=>Nat.beq i.size c.size&&(Yb7 t==c.ag)&&(c.ag||Nat.beq c.size 1)
  | _,_=>false)&&Xly P (o+c.size) h l
 | _,_,_=>false
def Yrj: D->Bool
 | .pr _ _=>true
 | _=>false
def Xw1: Value->Bool
 | .agg _=>true
 | _=>false
def Ykv(P:Program)(ti:TI)(t:TypeDesc): Bool:=match ti.e,t with
 | .int k _,.slice E=>match P.underlying E with
  | some (.int h)=>k==h
  | _=>false
 | _,_=>true
def Ycz(P:Program)(ti:TI)(t:TypeDesc): Bool:=match ti.z,t with
 | .int k _,.int h=>k==h
 | .bool _,.bool=>true
 | .str _,.string=>true
 | .sl sz _,.slice E=>Nat.beq sz ti.e.size&&ti.e.isZ&&Ybe P E ti.e ti.eb
 | .st z,.struct i=>Nat.beq ti.arr 0&&Xly P 0 i.toList z.comps
 | .st _,.array n E=>Nat.beq n ti.arr && !(Nat.beq n 0)&&Ybe P E ti.e ti.eb
 | .raw _,_=>true
 | _,_=>false
def tyB(P:Program)(T:TypeId)(ti:TI): Bool:=match P.info? T,P.underlying T with
 | some i,some t=>Nat.beq i.size ti.z.size&&(match i.zero with
  | some v=>Ylk v.cells.toList ti.z.zc&&(Xw1 v==ti.z.ag)
  | none=>false)&&ti.z.isZ&&(Yb7 t==ti.z.ag)&&Ycz P ti t && !(Yrj ti.z)&&Ykv P ti t
 | _,_=>false
section
variable{P:Program}
theorem Xst{E:TypeId}{z:D}{b:Nat}(h:Ybe P E z b=true): Ypq P E z b:=by
 unfold Ybe at h
 split at h<;>try cases h
 rename_i i hi
 simp only[W0h] at h
 obtain⟨⟨o,A⟩,j⟩:=h
 split at j<;>try cases j
 rename_i v B
 exact⟨i,v,hi,W0g o,W0g A,B,Xpt j⟩
theorem Xj8: ∀ {fs:List Field} {l:List D} {o:Nat},Xly P o fs l=true->fs.length=l.length/\∀(f:Nat) c,l[f]?=some c ->
 ∃g i,fs[f]?=some g/\g.offset=o+Xg6 l f/\P.info? g.type=some i/\i.size=c.size/\∃t,P.underlying g.type=some t/\Yb7 t=c.ag/\(c.ag=false->c.size=1)
 | [],[],_,_=>⟨rfl,λf c h=>by simp at h⟩
 | f::fs,x::l,o,h=>by
  simp only[Xly,W0h] at h
  obtain⟨⟨I,A⟩,M⟩:=h
  obtain⟨O,Q⟩:=Xj8 M
  refine⟨by simp[O],λn c B=>?_⟩
  cases n with
  | zero =>
   simp at B;subst B
   split at A<;>try cases A
   rename_i i t hi T
   simp only[W0h,W4y,beq_iff_eq] at A
   obtain⟨⟨a1,U⟩,j⟩:=A
   exact⟨f,i,rfl,by rw[W0g I];rfl,hi,W0g a1,t,T,U,λe=>by
    rcases j with j | j
    . rw[e] at j;cases j
    . exact W0g j⟩
  | succ n =>
   obtain⟨g,i,V,Y,Z⟩:=Q n c (by simpa using B)
   exact⟨g,i,by simpa using V,by rw[Y,Xg6];omega,Z⟩
 | [],_::_,_,h=>by cases h
 | _::_,[],_,h=>by cases h
theorem Yix{T:TypeId}{ti:TI}(h:tyB P T ti=true): TyOk P T ti/\∀a c,ti.z≠.pr a c:=by
 unfold tyB at h
 split at h<;>try cases h
 rename_i i t hi U
 simp only[W0h,beq_iff_eq,W1u] at h
 obtain⟨⟨⟨⟨⟨⟨Y,I⟩,Z⟩,h4⟩,j⟩,V⟩,o⟩:=h
 split at I<;>try cases I
 rename_i v hv
 obtain⟨A,M⟩:=(W0h _ _).mp I
 have A:=Xpt A
 have M:Xw1 v=ti.z.ag:=by simpa using M
 have O:∀E k z,P.underlying T=some (.slice E)->ti.e=.int k z->P.underlying E=some (.int k):=λE k z B he=>by
  rw[U] at B;injection B with B;subst B
  unfold Ykv at o
  rw[he] at o
  simp only at o
  split at o
  . rename_i h;rw[h];simp only[beq_iff_eq] at o;rw[o]
  . cases o
 refine⟨⟨O,⟨i,v,hi,W0g Y,hv,A,?_⟩,Z,t,U,h4,?_⟩,λa c e=>by rw[e] at V;cases V⟩
 . rw[<-M,<-A]
   cases v<;>simp[Xw1,mkv,Value.cells]
 . unfold Ycz at j
   split at j
   . rename_i e;rw[e];simp only[beq_iff_eq] at j;rw[j]
   . rename_i e;rw[e]
   . rename_i e;rw[e]
   . rename_i e;rw[e]
     simp only[W0h] at j
     exact⟨_,rfl,W0g j.1.1,j.1.2,Xst j.2⟩
   . rename_i fs e;rw[e]
     simp only[W0h] at j
     have Q:=W0g j.1
     obtain⟨k1,k2⟩:=Xj8 j.2
     simp only[Q,if_true]
     exact⟨_,rfl,by simpa using k1,λf c hc=>by
      obtain⟨g,i,b1,b2,b3⟩:=k2 f c hc
      exact⟨g,i,by simpa using b1,by rw[b2];omega,b3⟩⟩
   . rename_i n E e;rw[e]
     simp only[W0h,W1u] at j
     have Q:=W0g j.1.1
     have e1:n≠0:=λe=>by rw[e] at j;exact absurd j.1.2 (by decide)
     simp only[<-Q,e1,if_false]
     exact⟨_,rfl,Xst j.2⟩
   . rename_i e;rw[e];trivial
   . cases j
theorem Ycv{l:List (Nat×TI)}(h:(l.all λx=>tyB P x.1 x.2)=true): ∀T ti,look l T=some ti->TyOk P T ti/\∀a c,ti.z≠.pr a c:=by
 intro T ti i
 have:(T,ti)∈l:=by
  clear h
  induction l with
  | nil=>simp[look] at i
  | cons x l j =>
   obtain⟨S,o⟩:=x
   simp only[look] at i
   split at i
   . rename_i hb;injection i with i;subst i;rw[W0g hb];exact W0v ..
   . exact W1b _ (j i)
 exact Yix (W1q.1 h _ this)
end
end
section
structure Pl where
 G:List (Nat×Bool)
 dr:Bool
 L:List Oper
 l:List Oper
 K:List Kt
 E:Env
 H:Hpl
 d:Option Nat
def Pl.st: Pl->AV->St
 | ⟨G,dr,L,l,K,E,H,some d⟩,v=>.o ((d,false)::G) dr L l K ((d,v)::E) H
 | ⟨G,dr,L,l,K,E,H,none⟩,v=>.o G dr L l K E H
def Pl.st': Pl->AV->Hpl->St
 | ⟨G,dr,L,l,K,E,H,some d⟩,v,us=>apH us H λH=>.o ((d,false)::G) dr L l K ((d,v)::E) H
 | ⟨G,dr,L,l,K,E,H,none⟩,v,us=>apH us H λH=>.o G dr L l K E H
def Pl.nx(c:Cx)(p:Pl)(v:AV): Prop:=StP c (p.st v)
def Pl.nx'(c:Cx)(p:Pl)(v:AV)(us:Hpl): Prop:=StP c (p.st' v us)
theorem Pl.nx_eq{c:Cx}{p:Pl}{v:AV}: p.nx c v↔StP c (.o (Yqp p.G p.d) p.dr p.L p.l p.K (Xub p.E p.d v) p.H):=by
 obtain⟨G,dr,L,l,K,E,H,d⟩:=p
 cases d<;>exact W4f
theorem Pl.nx'_eq{c:Cx}{p:Pl}{v:AV}{us:Hpl}: p.nx' c v us↔StP c (.o (Yqp p.G p.d) p.dr p.L p.l p.K (Xub p.E p.d v) (us++p.H)):=by
 obtain⟨G,dr,L,l,K,E,H,d⟩:=p
 cases d<;>(simp only[Pl.nx',Pl.st',Xyy];exact W4f)
theorem Pl.nx_nil{c:Cx}{p:Pl}{v:AV}(h:p.nx c v): p.nx' c v []:=by
 obtain⟨G,dr,L,l,K,E,H,d⟩:=p
 cases d<;>exact h
noncomputable def nxO(tb:Nat->Option TI)(n:Nat)(s:St): Option (Pl×Oper):=match runN tb n 1000 s with
 | .o G dr L (o::l) K E H=>match Yfa G L E o with
  | true=>match want L o (sem E H) with
   | some true=>some (⟨G,dr,L,l,K,E,H,o.dst⟩,o)
   | _=>none
  | false=>none
 | _=>none
noncomputable def nxC(tb:Nat->Option TI)(n:Nat)(s:St): Option (Pl×FuncId×List AV):=match nxO tb n s with
 | some (p,o)=>match o.op with
  | .call ⟨.value x,asx,h⟩=>match callee (look p.E) x,getEs (look p.E) asx.toList with
   | some (f,[]),some i=>match (Xjk tb h.toList i).all Xlg with
    | true=>some (p,f,Xjk tb h.toList i)
    | false=>none
   | _,_=>none
  | _=>none
 | none=>none
section
variable{c:Cx}{s:St}{p:Pl}
theorem Xne{o:Oper}(h:nxO c.tb c.n s=some (p,o))(k:Wo c.P c.tb p.dr p.L o (WL c.P c.tb p.dr p.L (J c p.K) p.l) (sem p.E p.H)): StP c s:=by
 unfold nxO at h
 split at h<;>try cases h
 rename_i i
 split at h<;>try cases h
 split at h<;>cases h
 exact go 1000 i k
theorem Xv4{o:Oper}(h:nxO c.tb c.n s=some (p,o)): want p.L o (sem p.E p.H)=some true/\p.d=o.dst:=by
 unfold nxO at h
 split at h<;>try cases h
 split at h<;>try cases h
 split at h<;>cases h
 rename_i i
 exact⟨i,rfl⟩
theorem Ca{f:FuncId}{args:List AV}{Q:AV->Prop}(h:nxC c.tb c.n s=some (p,f,args))(T:C c.P f args Q)(k:∀v,Q v->p.nx c v): StP c s:=by
 unfold nxC at h
 split at h<;>try cases h
 rename_i p' o U
 obtain⟨V,hd⟩:=Xv4 U
 split at h<;>try cases h
 rename_i x asx Y Z
 split at h<;>try cases h
 rename_i f' A hf B
 split at h<;>cases h
 rename_i hi
 refine Xne U (.inl ⟨V,?_⟩)
 unfold Wb
 rw[Z]
 refine⟨f,[],A,hf,B,?_⟩
 rw[W3f]
 have I:∀v,Q v->WL c.P c.tb p.dr p.L (J c p.K) p.l (S.put (sem p.E p.H) o.dst v):=λv j=>by
  have:=Xfb p.E p.H [] o.dst v
  rw[show S.put (sem p.E p.H) o.dst v=sem (Xub p.E o.dst v) p.H from this,<-hd]
  exact Pl.nx_eq.1 (k v j)
 generalize WL c.P c.tb p.dr p.L (J c p.K) p.l=R at I |-
 cases p.dr with
 | true =>
  refine⟨false,λ_=>none,λr=>Q r.1,⟨λh=>(nomatch h),λi y h=>(nomatch h),λg _ _=>?_⟩,λr M hq=>?_⟩
  . obtain⟨h1,h2⟩:=T.cs hi g
    refine⟨h1,λN W θ A a0 a1 a2 a3 a4=>(h2 N W θ A a0 a1 a2 a3 a4).mono ?_⟩
    rintro e w' ⟨W',O,v,u,g',b1,b2,b3,b4,b5,rfl,b6⟩
    exact⟨W',O,v,u,_,b1,b2,b3,b4,b5,[],.inl rfl,rfl,b6⟩
  . rcases M with M | ⟨h,_⟩
    . unfold aft;rw[M];exact I r.1 hq
    . cases h
 | false=>exact⟨_,_,.inl rfl,by rw[W3f];exact T.cs hi _,λv g' j=>by rw[j.1];exact I v j.2⟩
theorem Ce{f:FuncId}{args:List AV}{r:AV}(h:nxC c.tb c.n s=some (p,f,args))(i:C c.P f args (·=r))(k:p.nx c r): StP c s:=Ca h i λv j=>by rw[show v=r from j];exact k
theorem Yj6{o:Oper}{v:AV}{us:Hpl}(h:nxO c.tb c.n s=some (p,o))(i:Xap o=false)(j:eff c.tb o (sem p.E p.H)=some (v,us))(k:p.nx' c v us): StP c s:=by
 obtain⟨A,hd⟩:=Xv4 h
 refine Xne h (Xl1 A i j ?_)
 rw[<-hd];exact Pl.nx'_eq.1 k
noncomputable def nxA(tb:Nat->Option TI)(n:Nat)(s:St): Option (Pl×Oper×List AV):=match nxO tb n s with
 | some (p,o)=>match getEs (look p.E) o.op.operands.toList,Xap o||(Xeg o.op&&o.dst.isSome) with
  | some asx,false=>some (p,o,asx)
  | _,_=>none
 | none=>none
theorem Xb3{o:Oper}{asx:List AV}{v:AV}{us:Hpl}(h:nxA c.tb c.n s=some (p,o,asx))(j:F c.tb (o.dst.getD 0) (look p.H) o.op asx=some (v,us))(k:p.nx' c v us): StP c s:=by
 unfold nxA at h
 split at h<;>try cases h
 rename_i B I A
 split at h<;>cases h
 rename_i hb i
 rw[Bool.or_eq_false_iff] at hb
 refine Yj6 A hb.1 ?_ k
 unfold eff
 rw[i]
 simp only[hb.2]
 exact j
def inK: IntKind->Int->Prop
 | .i8,x=>-128<=x/\x<128
 | .i16,x=>-32768<=x/\x<32768
 | .i32,x=>-2147483648<=x/\x<2147483648
 | .i64,x=>-9223372036854775808<=x/\x<9223372036854775808
 | .u8,x=>0<=x/\x<256
 | .u16,x=>0<=x/\x<65536
 | .u32,x=>0<=x/\x<4294967296
 | .u64,x=>0<=x/\x<18446744073709551616
theorem wr{k:IntKind}{x r:Int}(e:x=r)(h:inK k r): k.wrap x=r:=by
 subst e
 cases k<;>simp only[inK] at h<;>simp[IntKind.wrap,IntKind.bits,IntKind.signed]<;>omega
def arB(op:BinOp)(k:IntKind)(a b r:Int): Prop:=match op with
 | .add=>k.wrap (a+b)=r
 | .sub=>k.wrap (a-b)=r
 | .mul=>k.wrap (a*b)=r
 | .quo=>b≠0/\k.wrap (a.tdiv b)=r
 | .rem=>b≠0/\a.tmod b=r
 | .and=>k.wrap (BitVec.ofInt k.bits a&&&BitVec.ofInt k.bits b).toNat=r
 | .andNot=>k.wrap (BitVec.ofInt k.bits a &&& ~~~BitVec.ofInt k.bits b).toNat=r
 | .or=>k.wrap (BitVec.ofInt k.bits a|||BitVec.ofInt k.bits b).toNat=r
 | .shl=>0<=b/\k.wrap (a*2^(min b.toNat k.bits))=r
 | .shr=>0<=b/\a.fdiv (2^(min b.toNat k.bits))=r
 | _=>False
noncomputable def nxI(tb:Nat->Option TI)(n:Nat)(s:St): Option (Pl×BinOp×IntKind×Int×Int):=match nxA tb n s with
 | some (p,o,[.d (.int k a),.d (.int h b)])=>match o.op with
  | .binOp op _ _ _ _=>match op with
   | .shl=>some (p,op,k,a,b)
   | .shr=>some (p,op,k,a,b)
   | op=>if k=h then some (p,op,k,a,b) else none
  | _=>none
 | _=>none
theorem Ar{op:BinOp}{k:IntKind}{a b:Int}(r:Int)(h:nxI c.tb c.n s=some (p,op,k,a,b))(M:p.nx c (.d (.int k r)))(hr:arB op k a b r:=by exact wr (by omega) (by simp only[inK];omega)): StP c s:=by
 have i:∀ {o:Oper} {j:IntKind},nxA c.tb c.n s=some (p,o,[.d (.int k a),.d (.int j b)])->(∃T x y T',o.op=.binOp op T x y T')->(op=.shl\/op=.shr\/k=j)->StP c s:=by
  rintro o j A ⟨T,x,y,T',B⟩ I
  refine Xb3 (v:=.d (.int k r)) (us:=[]) A ?_ (Pl.nx_nil M)
  rw[B]
  show (match Fp c.tb (.binOp op T x y T') [.d (.int k a),.d (.int j b)] with | some v=>some (v,[]) | none=>none)=_
  have:Fp c.tb (.binOp op T x y T') [.d (.int k a),.d (.int j b)]=some (.d (.int k r)):=by
   show Yce (c.tb T) op y (.d (.int k a)) (.d (.int j b))=_
   cases op<;>simp only[arB] at hr<;>first | exact hr.elim | skip
   all_goals simp only[Yce,Yng]
   case shl=>rw[if_neg (by omega),hr.2]
   case shr=>rw[if_neg (by omega),hr.2]
   case quo=>rw[if_pos ((I.resolve_left nofun).resolve_left nofun),if_neg hr.1,hr.2]
   case rem=>rw[if_pos ((I.resolve_left nofun).resolve_left nofun),if_neg hr.1,hr.2]
   all_goals rw[if_pos ((I.resolve_left nofun).resolve_left nofun),hr]
  rw[this]
 unfold nxI at h
 split at h<;>try cases h
 rename_i Q o U a1 V Y A
 split at h<;>try cases h
 rename_i O T x y T' B
 split at h
 . cases h;exact i A ⟨_,_,_,_,B⟩ (.inl rfl)
 . cases h;exact i A ⟨_,_,_,_,B⟩ (.inr (.inl rfl))
 . split at h<;>cases h
   rename_i I
   exact i A ⟨_,_,_,_,B⟩ (.inr (.inr I))
noncomputable def nxV(tb:Nat->Option TI)(n:Nat)(s:St): Option (Pl×IntKind×Int):=match nxA tb n s with
 | some (p,o,[.d (.int _ a)])=>match o.op with
  | .convert S T _=>match tb S,tb T with
   | some _,some ⟨.int k _,_,_,_⟩=>some (p,k,a)
   | _,_=>none
  | _=>none
 | _=>none
theorem Cv{k:IntKind}{a:Int}(r:Int)(h:nxV c.tb c.n s=some (p,k,a))(i:p.nx c (.d (.int k r)))(hr:k.wrap a=r:=by exact wr (by omega) (by simp only[inK];omega)): StP c s:=by
 unfold nxV at h
 split at h<;>try cases h
 rename_i M o O a1 j
 split at h<;>try cases h
 rename_i S T x A
 split at h<;>cases h
 rename_i B I
 refine Xb3 (v:=.d (.int k r)) (us:=[]) j ?_ (Pl.nx_nil i)
 rw[A]
 simp only[F,Fp,B,I,hr]
noncomputable def nxX(tb:Nat->Option TI)(n:Nat)(s:St): Option (Pl×List D×Int):=match nxA tb n s with
 | some (p,o,[a,.d (.int _ j)])=>match o.op with
  | .indexAddr T _ _=>match tb T with
   | some ⟨.sl _ _,e,_,_⟩=>match a with
    | .d (.sl sz xs)=>match Nat.beq sz e.size with
     | true=>some (p,xs,j)
     | false=>none
    | .gr _ sz xs=>match Nat.beq sz e.size with
     | true=>some (p,xs,j)
     | false=>none
    | .lit sz xs=>match Nat.beq sz e.size with
     | true=>some (p,xs,j)
     | false=>none
    | _=>none
   | _=>none
  | _=>none
 | _=>none
theorem Ix(i:Nat){xs:List D}{j:Int}{u:D}(h:nxX c.tb c.n s=some (p,xs,j))(B:xs[i]?=some u)(I:p.nx c (.at u))(M:j=(i:Int):=by first | exact rfl | omega): StP c s:=by
 subst M
 unfold nxX at h
 split at h<;>try cases h
 rename_i V o a Y Z O
 split at h<;>try cases h
 rename_i T x y Q
 split at h<;>try cases h
 rename_i e eb ar U
 split at h<;>try cases h
 all_goals
  split at h<;>cases h
  rename_i A
  have A:=W0g A
  refine Xb3 (v:=.at u) (us:=[]) O ?_ (Pl.nx_nil I)
  rw[Q]
  simp[F,Fp,U,ixA,ixA.ixL,A,B]
end
end
section
section
variable{c:Cx}{s:St}{p:Pl}
noncomputable def nxP(tb:Nat->Option TI)(n:Nat)(s:St): Option (Pl×Nat×Nat×List D×AV):=match nxA tb n s with
 | some (p,o,[a,b])=>match o.op with
  | .call ⟨.builtin .append,_,⟨[T,T']⟩⟩=>match Nat.beq T T',tb T,look p.H (o.dst.getD 0) with
   | true,some i,none=>match Nat.ble i.eb 128,i.z,b with
    | true,.sl sz _,.d (.sl s h)=>match Nat.beq s sz with
     | true=>some (p,o.dst.getD 0,sz,h,a)
     | false=>none
    | true,.sl sz _,.nil=>some (p,o.dst.getD 0,sz,[],a)
    | true,.sl sz _,.gr _ s h=>match Nat.beq s sz with
     | true=>some (p,o.dst.getD 0,sz,h,a)
     | false=>none
    | true,.sl sz _,.lit s h=>match Nat.beq s sz with
     | true=>some (p,o.dst.getD 0,sz,h,a)
     | false=>none
    | _,_,_=>none
   | _,_,_=>none
  | _=>none
 | _=>none
theorem Xrx{d sz:Nat}{ys:List D}{a v:AV}{us:Hpl}(h:nxP c.tb c.n s=some (p,d,sz,ys,a))(hF:∀ti:TI,ti.eb<=128->Xzg d (look p.H) ti sz ys a=some (v,us))(k:p.nx' c v us): StP c s:=by
 unfold nxP at h
 split at h<;>try cases h
 rename_i Z o a' b hA
 split at h<;>try cases h
 rename_i asx T T' ho
 split at h<;>try cases h
 rename_i ti O Q hd
 have O:=W0g O
 subst O
 have j:∀ {A I M},ti.eb<=128->ti.z=.sl A M->Xqw (look Z.H) ti.z A b=some I->(Z,o.dst.getD 0,A,I,a')=(p,d,sz,ys,a)->StP c s:=by
  intro A I M B i hs e
  injection e with e1 U;injection U with U V;injection V with V Y;injection Y with Y e5
  subst e1;subst U;subst V;subst Y;subst e5
  refine Xb3 hA ?_ k
  rw[ho]
  simp only[F,if_true,Q,hd,i]
  rw[i] at hs
  rw[hs]
  exact hF ti B
 split at h
 . rename_i B i
   split at h<;>cases h
   rename_i hs
   have hs:=W0g hs
   exact j (W1t B) i (by simp[Xqw,toD,hs]) rfl
 . rename_i B i
   cases h
   exact j (W1t B) i (by simp[Xqw,i,toD]) rfl
 . rename_i B i
   split at h<;>cases h
   rename_i hs
   have hs:=W0g hs
   exact j (W1t B) i (by simp[Xqw,toD,hs]) rfl
 . rename_i B i
   split at h<;>cases h
   rename_i hs
   have hs:=W0g hs
   exact j (W1t B) i (by simp[Xqw,toD,hs]) rfl
 . cases h
theorem Xes{n:Nat}{ti:TI}(h:n<=1099511627776)(i:ti.eb<=128): Xh8 n ti:=⟨by
 have:=W1z h i;omega,by omega⟩
theorem ApG{d sz o:Nat}{xs ys:List D}(zs:List D)(h:nxP c.tb c.n s=some (p,d,sz,ys,.gr o sz xs))(i:xs++ys=zs)(hr:zs.length<=1099511627776)(k:p.nx' c (.gr d sz zs) [(d,.tok zs.length sz),(o,.dead)])(j:look p.H o=some (.tok xs.length sz):=by exact rfl): StP c s:=by
 subst i
 exact Xrx h (λB A=>by simp[Xzg,j,Xes (by simpa using hr) A]) k
theorem ApL{d sz:Nat}{xs ys:List D}(zs:List D)(h:nxP c.tb c.n s=some (p,d,sz,ys,.lit sz xs))(i:xs++ys=zs)(h0:0<ys.length)(hr:zs.length<=1099511627776)(k:p.nx' c (.own d sz 0 zs.length) [(d,.arr sz zs)]): StP c s:=by
 subst i
 exact Xrx h (λo j=>by simp[Xzg,h0,Xes (by simpa using hr) j]) k
theorem ApE{d sz:Nat}{xs ys:List D}(h:nxP c.tb c.n s=some (p,d,sz,ys,.lit sz xs))(h0:ys.length=0)(hr:xs.length<=1099511627776)(k:p.nx' c (.lit sz xs) []): StP c s :=
 Xrx h (λj i=>by simp[Xzg,h0,Xes (by simpa using hr) i]) k
theorem ApO{d sz o n:Nat}{xs ys:List D}(zs:List D)(h:nxP c.tb c.n s=some (p,d,sz,ys,.own o sz 0 n))(i:look p.H o=some (.arr sz xs))(j:n=xs.length)(A:xs++ys=zs)(hr:zs.length<=1099511627776)(k:p.nx' c (.own d sz 0 zs.length) [(d,.arr sz zs),(o,.dead)]): StP c s:=by
 subst A
 exact Xrx h (λI B=>by subst j;simp[Xzg,i,Xes (by simpa using hr) B]) k
def Xt9{α:Type _}(E E':List (Nat×α)): Prop:=E'.map (λx=>look E x.1)=E'.map λx=>some x.2
theorem Xbc{α:Type _}: ∀ {E:List (Nat×α)} {t:Nat} {v:α},look E t=some v->(t,v)∈E
 | [],_,_,h=>by simp[look] at h
 | (s,w)::E,t,v,h=>by
  simp only[look] at h
  split at h
  . rename_i hb;injection h with h;subst h;rw[W0g hb];exact W0v ..
  . exact W1b _ (Xbc h)
theorem Xkx{α:Type _}{E E':List (Nat×α)}(h:Xt9 E E'){t:Nat}{v:α}(i:look E' t=some v): look E t=some v:=by
 have j:=Xbc i
 unfold Xt9 at h
 have:=W6l.1 h _ j
 exact this
def Xio(H:Hpl): Ob->Bool
 | .var a=>Xdc H a
 | _=>true
def Xoa(E:Env)(H:Hpl): Bool:=(E.all λx=>Xdc H x.2)&&H.all λx=>Xio H x.2
theorem Xn9{E:Env}{H:Hpl}(h:Xoa E H=true): Xy8 (sem E H):=by
 simp only[Xoa,W0h] at h
 refine⟨λt v i j hi=>Xf1 (W1q.1 h.1 _ (Xbc j)) i hi,λo x i A hi=>?_⟩
 have:=W1q.1 h.2 _ (Xbc A)
 cases x with
 | var a=>exact Xf1 (a:=a) this i hi
 | _=>exact hi.elim
theorem Yq8{K:List Kt}{E E':Env}{H H':Hpl}(i:Xt9 E E')(j:Xt9 H H')(A:Xoa E' H'=true)(k:J c K (sem E' H')): J c K (sem E H) :=
 J.sub _ (λt v h=>Xkx i h) (λo x h=>Xkx j h) (Xn9 A) k
def rnN(o h i:Nat): Nat:=match Nat.beq i o with
 | true=>h
 | false=>i
def AV.ren(o h:Nat): AV->AV
 | .st a=>.st (a.ren o h)
 | .pr a c=>.pr (a.ren o h) (c.ren o h)
 | .tup a=>.tup (a.ren o h)
 | .fm f a=>.fm f (a.ren o h)
 | .ptr i f=>.ptr (rnN o h i) f
 | .own i sz l n=>.own (rnN o h i) sz l n
 | .ow3 i sz l n=>.ow3 (rnN o h i) sz l n
 | .gr i sz xs=>.gr (rnN o h i) sz xs
 | .el i sz j f=>.el (rnN o h i) sz j f
 | .fn f i=>.fn f (rnN o h i)
 | .ap i n=>.ap (rnN o h i) n
 | a=>a
def Ob.ren(o h:Nat): Ob->Ob
 | .var a=>.var (a.ren o h)
 | x=>x
def Yfi(o h:Nat)(E:Env): Env:=E.map λx=>(x.1,x.2.ren o h)
def Xvn(o h:Nat)(H:Hpl): Hpl:=H.map λx=>(rnN o h x.1,x.2.ren o h)
def rnθ(o h:Nat)(θ:Loc): Loc:=λi=>if i=h then θ o else θ i
theorem Xa2{o j i:Nat}{θ:Loc}(h:i≠j): rnθ o j θ (rnN o j i)=θ i:=by
 unfold rnθ rnN
 cases e:Nat.beq i o with
 | true=>rw[W0g e];simp
 | false=>exact if_neg h
theorem Yjq{W:GW}{θ:Loc}{o Q:Nat}: ∀ {a:AV} {cs:List Value},¬a.ids Q->AV.C W θ a cs->AV.C W (rnθ o Q θ) (a.ren o Q) cs:=by
 intro a
 induction a with
 | st a T=>intro cs hi h;exact T hi h
 | pr a c U V=>intro cs hi ⟨u,v,e,A,B⟩;exact⟨u,v,e,U (λh=>hi (.inl h)) A,V (λh=>hi (.inr h)) B⟩
 | ptr i f=>intro cs hi ⟨b,A,B⟩;exact⟨b,by rw[Xa2 (λe=>hi e.symm)];exact A,B⟩
 | own i sz l n=>intro cs hi ⟨b,p,A,B,I,M,O⟩;exact⟨b,p,by rw[Xa2 (λe=>hi e.symm)];exact A,by rw[Xa2 (λe=>hi e.symm)];exact B,by rw[Xa2 (λe=>hi e.symm)];exact I,by rw[Xa2 (λe=>hi e.symm)];exact M,by rw[Xa2 (λe=>hi e.symm)];exact O⟩
 | ow3 i sz l n=>intro cs hi ⟨b,p,A,B,I,M,O⟩;exact⟨b,p,by rw[Xa2 (λe=>hi e.symm)];exact A,by rw[Xa2 (λe=>hi e.symm)];exact B,by rw[Xa2 (λe=>hi e.symm)];exact I,M,O⟩
 | gr i sz xs=>intro cs hi ⟨p,A,B,I,M,O⟩;exact⟨p,by rw[Xa2 (λe=>hi e.symm)];exact A,by rw[Xa2 (λe=>hi e.symm)];exact B,by rw[Xa2 (λe=>hi e.symm)];exact I,by rw[Xa2 (λe=>hi e.symm)];exact M,by rw[Xa2 (λe=>hi e.symm)];exact O⟩
 | el i sz j f=>intro cs hi ⟨b,A,B⟩;exact⟨b,by rw[Xa2 (λe=>hi e.symm)];exact A,B⟩
 | fn f i=>intro cs hi ⟨b,A,B⟩;exact⟨b,by rw[Xa2 (λe=>hi e.symm)];exact A,B⟩
 | fm f a T=>intro cs hi ⟨Y,A,B⟩;exact⟨Y,T hi A,B⟩
 | ap i n=>intro cs hi ⟨b,A,B,I⟩;exact⟨b,by rw[Xa2 (λe=>hi e.symm)];exact A,by rw[Xa2 (λe=>hi e.symm)];exact B,I⟩
 | _=>intro cs hi h;exact h
theorem Yjr{o h:Nat}(a:AV): (a.ren o h).ag=a.ag:=by cases a<;>rfl
theorem Xrk{W:GW}{θ:Loc}{o i:Nat}{a:AV}{v:Value}(hi:¬a.ids i)(h:AV.V1 W θ a v): AV.V1 W (rnθ o i θ) (a.ren o i) v:=by
 obtain⟨cs,j,e⟩:=h;exact⟨cs,Yjq hi j,by rw[e,Yjr]⟩
theorem Yoe{W:GW}{θ:Loc}{o i:Nat}: ∀ {a:AV} {vs:List Value},¬a.ids i->AV.T W θ a vs->AV.T W (rnθ o i θ) (a.ren o i) vs:=by
 intro a
 induction a with
 | pr a c _ j =>
  intro vs hi h
  match vs,h with
  | v::vs,h=>exact⟨Xrk (λh=>hi (.inl h)) h.1,j (λh=>hi (.inr h)) h.2⟩
 | un =>
  intro vs hi h
  match vs,h with
  | [],h=>exact h
  | [v],h=>exact Xrk hi h
 | _ =>
  intro vs hi h
  match vs,h with
  | [v],h=>exact Xrk hi h
theorem Yjs{W:GW}{θ:Loc}{o i:Nat}{a:AV}{v:Value}(hi:¬a.ids i)(h:AV.V W θ a v): AV.V W (rnθ o i θ) (a.ren o i) v:=by
 cases a with
 | tup a=>obtain⟨j,e,h⟩:=h;exact⟨j,e,Yoe hi h⟩
 | un=>exact h
 | _=>exact Xrk hi h
theorem Xk5{o Q i:Nat}: ∀ {a:AV},(a.ren o Q).ids i->∃j,a.ids j/\i=rnN o Q j:=by
 intro a
 induction a with
 | st a A=>exact A
 | tup a A=>exact A
 | fm f a A=>exact A
 | pr a c B I =>
  intro h
  rcases h with h | h
  . obtain⟨j,M,O⟩:=B h;exact⟨j,.inl M,O⟩
  . obtain⟨j,M,O⟩:=I h;exact⟨j,.inr M,O⟩
 | _=>intro h;first | exact h.elim | exact⟨_,rfl,h⟩
theorem Xef{o i:Nat}: ∀ {E:Env} {t:Nat} {v:AV},look (Yfi o i E) t=some v->∃w,look E t=some w/\v=w.ren o i
 | [],t,v,h=>by simp[Yfi,look] at h
 | (s,w)::E,t,v,h=>by
  simp only[Yfi,W3t,look] at h |-
  split at h
  . injection h with h;exact⟨w,rfl,h.symm⟩
  . exact Xef h
theorem Xbj{o A:Nat}: ∀ {H:Hpl} {i:Nat} {x:Ob},look H A=none->look (Xvn o A H) i=some x->∃j y,look H j=some y/\i=rnN o A j/\x=y.ren o A
 | [],i,x,_,h=>by simp[Xvn,look] at h
 | (s,w)::H,i,x,B,h=>by
  simp only[look] at B
  split at B<;>try cases B
  rename_i hs
  simp only[Xvn,W3t,look] at h
  split at h
  . rename_i hb
    injection h with h
    exact⟨s,w,by simp[look],W0g hb,h.symm⟩
  . rename_i hb
    obtain⟨j,y,M,I,O⟩:=Xbj B h
    have:j≠s:=λe=>by
     subst e
     rw[I] at hb
     simp at hb
    exact⟨j,y,by simp only[look,Ydt this];exact M,I,O⟩
theorem Xcr{o i:Nat}: ∀ {H:Hpl} {j:Nat} {y:Ob},look H i=none->look H j=some y->∃x,look (Xvn o i H) (rnN o i j)=some x
 | [],_,_,_,h=>by simp[look] at h
 | (s,w)::H,j,y,A,h=>by
  simp only[Xvn,W3t,look]
  by_cases e:j=s
  . subst e;exact⟨w.ren o i,by simp⟩
  . simp only[look,Ydt e] at h
    simp only[look] at A
    split at A<;>try cases A
    obtain⟨x,B⟩:=Xcr A h
    split
    . exact⟨_,rfl⟩
    . exact⟨x,B⟩
theorem Ydn{W:GW}{θ:Loc}{o A j:Nat}{y:Ob}(i:j≠A)(hi:¬y.ids A)(h:y.R W θ j): (y.ren o A).R W (rnθ o A θ) (rnN o A j):=by
 cases y with
 | var a=>obtain⟨b,cs,T,B,I,M,O⟩:=h;exact⟨b,cs,T,by rw[Xa2 i];exact B,I,Yjq hi M,O⟩
 | arr sz xs=>obtain⟨b,cs,T,B,I,M,O,Q,U⟩:=h;exact⟨b,cs,T,by rw[Xa2 i];exact B,I,by rw[Xa2 i];exact M,by rw[Xa2 i];exact O,by rw[Xa2 i];exact Q,U⟩
 | tok n sz=>obtain⟨B,I,M⟩:=h;exact⟨by rw[Xa2 i];exact B,by rw[Xa2 i];exact I,by rw[Xa2 i];exact M⟩
 | dead=>trivial
theorem Yrb{K:List Kt}{E:Env}{H:Hpl}(o I:Nat)(hb:(Nat.blt o 1000000&&Nat.blt I 1000000 && !Xcd H I)=true)(k:J c K (sem (Yfi o I E) (Xvn o I H))): J c K (sem E H):=by
 simp only[W0h,W1u] at hb
 obtain⟨⟨V,Y⟩,Q⟩:=hb
 have V:=Xr4 V
 have Y:=Xr4 Y
 have M:look H I=none:=by
  unfold Xcd at Q;split at Q<;>first | assumption | cases Q
 rintro a w ⟨s0,W,θ,hw,hs,hθ,rfl⟩
 have B:∀ {i y},look H i=some y->i≠I:=λh e=>by rw[e,M] at h;cases h
 have hni:∀ {v:AV},(∀i,v.ids i->∃y,look H i=some y)->¬v.ids I:=λh hi=>by obtain⟨y,hy⟩:=h I hi;rw[M] at hy;cases hy
 refine k a w ⟨_,W,rnθ o I θ,hw,⟨hs.fm,⟨hs.rel.defers,hs.rel.size,λt v ht=>?_⟩,⟨λi x T=>?_,λi x b T hl hb=>?_,λi j x x' b T hx' hl hl' A U=>?_,λi x q T hq=>?_⟩,λt v i ht hi=>?_⟩,λi hi=>?_,rfl⟩
 . obtain⟨u,A,rfl⟩:=Xef ht
   exact Yjs (hni λi hi=>hs.ids t u i A hi) (hs.rel.has t u A)
 . obtain⟨j,y,A,rfl,rfl⟩:=Xbj M T
   exact Ydn (B A) (λhi=>by obtain⟨z,O⟩:=hs.obs.ids j y I A hi;have O:look H I=some z:=O;rw[M] at O;cases O) (hs.obs.r j y A)
 . obtain⟨j,y,A,rfl,rfl⟩:=Xbj M T
   rw[Xa2 (B A)] at hb
   exact hs.obs.new j y b A (by cases y<;>first | rfl | cases hl) hb
 . obtain⟨q,y,k1,rfl,rfl⟩:=Xbj M T
   obtain⟨q',y',Z,rfl,rfl⟩:=Xbj M hx'
   rw[Xa2 (B k1)] at A
   rw[Xa2 (B Z)] at U
   rw[hs.obs.dis q q' y y' b k1 Z (by cases y<;>first | rfl | cases hl) (by cases y'<;>first | rfl | cases hl') A U]
 . obtain⟨j,y,A,rfl,rfl⟩:=Xbj M T
   cases y with
   | var a =>
    obtain⟨r,U,rfl⟩:=Xk5 (a:=a) hq
    obtain⟨z,O⟩:=hs.obs.ids j _ r A U
    exact Xcr M O
   | _=>exact hq.elim
 . obtain⟨u,A,rfl⟩:=Xef ht
   obtain⟨r,U,rfl⟩:=Xk5 hi
   obtain⟨z,O⟩:=hs.ids t u r A U
   exact Xcr M O
 . show (if i=I then θ o else θ i)=_
   rw[if_neg (by omega)];exact hθ i hi
theorem Yre{K:List Kt}{E:Env}{H:Hpl}(t j sz:Nat)(T:look E t=some .nil)(hb:(Nat.blt j 1000000 && !Xcd H j)=true)(k:J c K (sem ((t,.gr j sz [])::E) ((j,.tok 0 sz)::H))): J c K (sem E H):=by
 simp only[W0h,W1u] at hb
 have O:=Xr4 hb.1
 have U:look H j=none:=by
  have A:=hb.2
  unfold Xcd at A;split at A<;>first | assumption | cases A
 rintro a w ⟨s0,W,θ,V,hs,Q,rfl⟩
 have st:=Stp.new0 (d:=j) hs.obs O U (x:=.tok 0 sz) ⟨by simp,by simp,.inl (by simp)⟩ (λi h=>h)
 have B:=hs.step0 st
 refine k a w ⟨_,W,_,V,?_,λi hi=>(st.hi i hi).trans (Q i hi),rfl⟩
 rw[show sem ((t,AV.gr j sz [])::E) ((j,Ob.tok 0 sz)::H)=(upd (look E) t (.gr j sz []),upd (look H) j (.tok 0 sz)) by rw[Xa6,Xa6]]
 refine⟨B.fm,⟨B.rel.defers,B.rel.size,λq v hq=>?_⟩,B.obs,λq v i hq hi=>?_⟩
 . rcases Xae hq with ⟨M,I⟩ | ⟨M,I⟩
   . subst M;subst I
     obtain⟨p,e⟩:=Xjo (B.rel.has q _ T)
     rw[e]
     exact Ygq (o:=j) (θ:=λi=>if i=j then (none,0) else θ i) rfl (by simp) (.inl (by simp)) (by simp) (by simp) (.inl rfl)
   . exact B.rel.has q v I
 . rcases Xae hq with ⟨M,I⟩ | ⟨M,I⟩
   . subst I;have hi:i=j:=hi;subst hi;exact⟨_,Xai _ _ _⟩
   . exact B.ids q v i I hi
def rnE: List (Nat×Nat)->Env->Env
 | [],E=>E
 | (o,h)::r,E=>rnE r (Yfi o h E)
def rnH: List (Nat×Nat)->Hpl->Hpl
 | [],H=>H
 | (o,h)::r,H=>rnH r (Xvn o h H)
def unE: List (Nat×Nat)->Env->Env
 | [],E=>E
 | (o,h)::r,E=>Yfi h o (unE r E)
def unH: List (Nat×Nat)->Hpl->Hpl
 | [],H=>H
 | (o,h)::r,H=>Xvn h o (unH r H)
def okR: List (Nat×Nat)->Hpl->Bool
 | [],_=>true
 | (o,h)::r,H=>Nat.blt o 1000000&&Nat.blt h 1000000 && !Xcd H h&&okR r (Xvn o h H)
theorem rnS{K:List Kt}: ∀ {r:List (Nat×Nat)} {E:Env} {H:Hpl},okR r H=true->StP c (.j [] K (rnE r E) (rnH r H))->StP c (.j [] K E H)
 | [],_,_,_,k=>k
 | (o,i)::r,E,H,h,k=>by
  simp only[okR,W0h] at h
  exact Yrb o i (by simp only[W0h];exact h.1) (rnS h.2 k)
def Yns(r:List (Nat×Nat))(E E':Env)(H H':Hpl): Prop:=Xt9 E (unE r E')/\Xt9 H (unH r H')/\(Xoa (unE r E') (unH r H')&&okR r (unH r H'))=true/\rnE r (unE r E')=E'/\rnH r (unH r H')=H'
theorem Yoz{K:List Kt}{r:List (Nat×Nat)}{E E':Env}{H H':Hpl}(h:Yns r E E' H H')(k:StP c (.j [] K E' H')): StP c (.j [] K E H):=by
 obtain⟨o,A,i,B,I⟩:=h
 rw[W0h] at i
 exact Yq8 o A i.1 (rnS i.2 (by rw[B,I];exact k))
def Ypt{α:Type}(E':α->Env)(H':α->Hpl)(I:α->Prop)(h:α->Nat)(s:S)(m:Nat): Prop:=∃x,s=sem (E' x) (H' x)/\I x/\h x=m
noncomputable def nxL(tb:Nat->Option TI)(n:Nat)(s:St): Option (Code×List Kt×Env×Hpl):=match runN tb n 1000 s with
 | .j _ (.c (.loop b)::K) E H=>some (b,K,E,H)
 | _=>none
theorem Lo{α:Type}(E':α->Env)(H':α->Hpl)(I:α->Prop)(o:α->Nat)(x:α)(r:List (Nat×Nat)){b:Code}{K:List Kt}{E:Env}{H:Hpl}(h:nxL c.tb c.n s=some (b,K,E,H))(h0:I x)
 (k:∀x,I x->StP c (.j [] (.c b::.l (λs'=>∃i,i<o x/\Ypt E' H' I o s' i)::K) (E' x) (H' x))) (hf:Yns r E (E' x) H (H' x):=by exact⟨rfl,rfl,rfl,rfl,rfl⟩):StP c s:=by
 unfold nxL at h
 split at h<;>cases h
 rename_i A
 refine go 1000 A (Yoz hf (J.loop (Ypt E' H' I o) (o x) ⟨x,rfl,h0,rfl⟩ ?_))
 rintro s m ⟨x,rfl,B,rfl⟩
 exact k x B
noncomputable def nxB(tb:Nat->Option TI)(n:Nat)(s:St): Option ((S->Prop)×List Kt×Env×Hpl):=match runN tb n 1000 s with
 | .j _ (.l I::K) E H=>some (I,K,E,H)
 | _=>none
theorem Bk{α:Type}{E':α->Env}{H':α->Hpl}{I:α->Prop}{j:α->Nat}{m:Nat}{K:List Kt}{E:Env}{H:Hpl}(x:α)(r:List (Nat×Nat))(h:nxB c.tb c.n s=some ((λs'=>∃i,i<m/\Ypt E' H' I j s' i),K,E,H))(o:I x)(A:j x<m)(hf:Yns r E (E' x) H (H' x):=by exact⟨rfl,rfl,rfl,rfl,rfl⟩): StP c s:=by
 unfold nxB at h
 split at h<;>try cases h
 rename_i B
 exact go 1000 B (Yoz hf (J.at' ⟨_,A,x,rfl,o,rfl⟩))
noncomputable def nxJ(tb:Nat->Option TI)(n:Nat)(s:St): Option (List Kt×Env×Hpl):=match runN tb n 1000 s with
 | .j _ K E H=>some (K,E,H)
 | _=>none
theorem Nl{K:List Kt}{E:Env}{H:Hpl}(t i sz:Nat)(h:nxJ c.tb c.n s=some (K,E,H))(k:StP c (.j [] K ((t,.gr i sz [])::E) ((i,.tok 0 sz)::H)))(o:look E t=some .nil:=by exact rfl)(hb:(Nat.blt i 1000000 && !Xcd H i)=true:=by exact rfl): StP c s:=by
 unfold nxJ at h
 split at h<;>cases h
 rename_i A
 exact go 1000 A (Yre t i sz o hb k)
end
end
section
def GW.fz(W:GW)(b:Nat): GW:=⟨W.w,λh i=>h≠b/\W.A h i,λh i k=>W.hA h i k.2⟩
theorem Ygr(W:GW)(b:Nat): LeF W (W.fz b):=λ_ _ _ k=>⟨k.1,λh=>k.2 h.2⟩
theorem Stp.freeze{N:Nat->Prop}{W:GW}{θ:Loc}{g:Hp}(h:Obs W θ N g){o b sz:Nat}{xs:List D}(Z:g o=some (.arr sz xs))(hb:(θ o).1=some b):
 Stp N W (W.fz b) θ θ g (upd g o .dead) where
 os:=_root_.rfl
 out:=_root_.rfl
 tape:=_root_.rfl
 size:=W0c _
 same:=λ_ _ _=>_root_.rfl
 A:=λT _ hn i=>⟨λk=>k.2,λk=>⟨λe=>by subst e;exact hn (h.new o _ _ Z _root_.rfl hb),k⟩⟩
 le:=Ygr W b
 th:=λ_ _ _=>_root_.rfl
 hi:=λ_ _=>_root_.rfl
 obs:={
  r:=λI z M=>by
   rcases Xae M with ⟨B,j⟩ | ⟨B,j⟩
   . subst j;trivial
   . exact(h.r I z j).keep (Ygr W b) _root_.rfl (λ_ _=>_root_.rfl) λQ T U=>⟨_root_.rfl,λi hA=>show T≠b/\W.A T i from⟨λe=>by
      subst e
      exact B (h.dis I o z _ _ j Z Q _root_.rfl U hb),hA⟩⟩
  new:=λI z b M Q hb=>by
   rcases Xae M with ⟨B,j⟩ | ⟨B,j⟩
   . subst j;cases Q
   . exact h.new I z b j Q hb
  dis:=λo1 o2 y1 y2 b h1 h2 l1 l2 b1 b2=>by
   rcases Xae h1 with ⟨B,V⟩ | ⟨B,V⟩
   . subst V;cases l1
   . rcases Xae h2 with ⟨j,Y⟩ | ⟨j,Y⟩
     . subst Y;cases l2
     . exact h.dis o1 o2 y1 y2 b V Y l1 l2 b1 b2
  ids:=λI z i M O=>by
   have:∃w,g i=some w:=by
    rcases Xae M with ⟨B,j⟩ | ⟨B,j⟩
    . subst j;exact O.elim
    . exact h.ids I z i j O
   obtain⟨w,hw⟩:=this
   by_cases e:i=o
   . subst e;exact⟨_,Xai _ _ _⟩
   . exact⟨w,by rw[Xam e];exact hw⟩ }
 dom:=λi y hy=>by
  by_cases e:i=o
  . subst e;exact⟨_,Xai _ _ _⟩
  . exact⟨y,by rw[Xam e];exact hy⟩
theorem Ya1{N:Nat->Prop}{W:GW}{θ:Loc}{g:Hp}(h:Obs W θ N g){o b sz l n:Nat}{xs:List D}{v:Value}(M:g o=some (.arr sz xs))(hb:(θ o).1=some b)(hn:l+n<=xs.length)(I:AV.V W θ (.own o sz l n) v):
 AV.V (W.fz b) θ (.d (.sl sz ((xs.drop l).take n))) v:=by
 obtain⟨cs,⟨b1,p,B,h2,h3,e,O⟩,Q⟩:=I
 refine⟨cs,?_,Q⟩
 obtain⟨b',T,T',r1,U,r3,r4,r5,Y,r7⟩:=h.r _ _ M
 rw[hb] at r1 B;injection r1 with r1;injection B with B;subst r1;subst B
 have i:((xs.drop l).take n).length=n:=by simp;omega
 refine⟨p,(θ o).2-l,by rw[i];exact e,by omega,by omega,?_⟩
 rcases W2o n with j | j
 . exact .inl (W2k.1 (by rw[i,j]))
 . refine .inr ⟨b,l*sz,O (by omega),?_⟩
   have A:D.Row (W.fz b) b sz 0 xs:=(AtL.mono (Ygr W b) (sz:=sz) (xs:=xs) (cs:=T) Y).row λq v _ I=>by
    rw[W1j]
    exact⟨show W.w.cell? _=_ by rw[Xbf U];exact I,λZ=>Z.1 rfl⟩
   have:=D.row_sub A l n
   rwa[W1j] at this
def isR(id:Nat): St->Bool
 | .j _ (.c (.region i _ _)::_) _ _=>Nat.beq id i
 | .j _ (.c (.block i _)::_) _ _=>Nat.beq id (i+1000000)
 | _=>false
noncomputable def runT(tb:Nat->Option TI)(n id:Nat): Nat->St->St
 | 0,s=>s
 | m+1,s=>match isR id s with
  | true=>s
  | false=>match Ym8 tb n s with
   | some s'=>runT tb n id m s'
   | none=>s
section
variable{c:Cx}{s:St}{p:Pl}
theorem Xgi{id:Nat}: ∀(m:Nat) {s:St},StP c (runT c.tb c.n id m s)->StP c s
 | 0,_,k=>k
 | m+1,s,k=>by
  unfold runT at k
  split at k
  . exact k
  . split at k
    . rename_i s' h;exact Xvh h (Xgi m k)
    . exact k
noncomputable def nxF(tb:Nat->Option TI)(n id t:Nat)(s:St): Option (List Kt×Env×Hpl×Nat×Nat×Nat×Nat×List D):=match runT tb n id 1000 s with
 | .j _ K E H=>match look E t with
  | some (.own o sz l n)=>match look H o with
   | some (.arr h xs)=>match Nat.beq sz h with
    | true=>some (K,E,H,o,sz,l,n,xs)
    | false=>none
   | _=>none
  | _=>none
 | _=>none
theorem Fz(id t:Nat)(ys:List D){K:List Kt}{E:Env}{H:Hpl}{o sz l n:Nat}{xs:List D}(h:nxF c.tb c.n id t s=some (K,E,H,o,sz,l,n,xs))(T:l+n<=xs.length)(U:(xs.drop l).take n=ys)(k:StP c (.j [] K ((t,.d (.sl sz ys))::E) ((o,.dead)::H))): StP c s:=by
 unfold nxF at h
 split at h<;>try cases h
 rename_i V
 split at h<;>try cases h
 rename_i Y
 split at h<;>try cases h
 rename_i M
 split at h<;>cases h
 rename_i O
 have O:=W0g O
 subst O;subst U
 refine Xgi (id:=id) 1000 ?_
 rw[V]
 rintro a w ⟨s0,W,θ,Z,hs,Q,rfl⟩
 obtain⟨b,bs,T',r1,_⟩:=hs.obs.r _ _ M
 have st:=Stp.freeze hs.obs M r1
 have B:=hs.step0 st
 refine k a w ⟨_,W.fz b,θ,Z,?_,Q,rfl⟩
 rw[show sem ((t,AV.d (.sl sz ((xs.drop l).take n)))::E) ((o,Ob.dead)::H)=(upd (look E) t (.d (.sl sz ((xs.drop l).take n))),upd (look H) o .dead) by rw[Xa6,Xa6]]
 refine⟨B.fm,⟨B.rel.defers,B.rel.size,λq v hq=>?_⟩,B.obs,λq v i hq hi=>?_⟩
 . rcases Xae hq with ⟨I,A⟩ | ⟨I,A⟩
   . subst I;subst A
     exact Ya1 hs.obs M r1 T (hs.rel.has q _ Y)
   . exact B.rel.has q v A
 . rcases Xae hq with ⟨I,A⟩ | ⟨I,A⟩
   . subst A;exact hi.elim
   . exact B.ids q v i A hi
noncomputable def nxM(tb:Nat->Option TI)(n:Nat)(s:St): Option (Pl×Nat×Nat×D×Int×Int):=match nxA tb n s with
 | some (p,o,[.d (.int _ m),.d (.int _ q)])=>match o.op with
  | .makeSlice T _ _=>match tb T with
   | some h=>match h.z,Nat.ble h.eb 128,look p.H (o.dst.getD 0) with
    | .sl sz _,true,none=>some (p,o.dst.getD 0,sz,h.e,m,q)
    | _,_,_=>none
   | none=>none
  | _=>none
 | _=>none
theorem Mk(n:Nat){d sz:Nat}{e:D}{m q:Int}(h:nxM c.tb c.n s=some (p,d,sz,e,m,q))(M:(n:Int)<=q/\q<=1099511627776)(k:p.nx' c (.own d sz 0 n) [(d,.arr sz (List.replicate n e))])(i:m=n:=by first | exact rfl | omega): StP c s:=by
 subst i
 unfold nxM at h
 split at h<;>try cases h
 rename_i j
 split at h<;>try cases h
 rename_i o
 split at h<;>try cases h
 rename_i ti A
 split at h<;>cases h
 rename_i B hd I
 refine Xb3 j ?_ k
 rw[o]
 simp only[F,A,hd,I]
 rw[if_pos ⟨by omega,by omega,Xes (ti:=ti) (by omega) (W1t B)⟩]
 simp
noncomputable def nxS(tb:Nat->Option TI)(n:Nat)(s:St): Option (Pl×AV×Option Int×Option Int):=match nxA tb n s with
 | some (p,o,asx)=>match o.op with
  | .slice T _ lo hi j=>match tb T with
   | some i=>match i.z,Xmw lo hi j asx with
    | .sl _ _,some (a,l,h,none)=>match Ypy i.e.size a with
     | true=>some (p,a,l,h)
     | false=>none
    | _,_=>none
   | none=>none
  | _=>none
 | none=>none
theorem Xrw{a r:AV}{l i:Option Int}(h:nxS c.tb c.n s=some (p,a,l,i))(hr:slA l i a=some r)(k:p.nx c r): StP c s:=by
 unfold nxS at h
 split at h<;>try cases h
 rename_i j
 split at h<;>try cases h
 rename_i o
 split at h<;>try cases h
 rename_i M A
 split at h<;>try cases h
 rename_i B hs
 split at h<;>cases h
 rename_i I
 refine Xb3 (us:=[]) j ?_ (Pl.nx_nil k)
 rw[o]
 simp only[F,Fp,A,B,hs,I,hr]
def Ynl: AV->Option (Nat×List D)
 | .d (.sl sz xs)=>some (sz,xs)
 | .gr _ sz xs=>some (sz,xs)
 | .lit sz xs=>some (sz,xs)
 | _=>none
theorem Xs0{a:AV}{sz:Nat}{xs:List D}(h:Ynl a=some (sz,xs))(l i:Option Int): slA l i a=slA.slL sz xs l i:=by
 unfold Ynl at h
 split at h<;>cases h<;>rfl
theorem Tk(j:Nat)(zs:List D){a:AV}{i:Int}{sz:Nat}{xs:List D}(h:nxS c.tb c.n s=some (p,a,none,some i))(ha:Ynl a=some (sz,xs))(B:j<=xs.length)(o:xs.take j=zs)(k:p.nx c (.d (.sl sz zs)))(A:i=j:=by first | exact rfl | omega): StP c s:=by
 subst A;subst o
 refine Xrw h ?_ k
 rw[Xs0 ha,slA.slL,if_pos ⟨by omega,by omega⟩];simp
theorem Dp(j:Nat)(zs:List D){a:AV}{i:Int}{sz:Nat}{xs:List D}(h:nxS c.tb c.n s=some (p,a,some i,none))(ha:Ynl a=some (sz,xs))(B:j<=xs.length)(o:xs.drop j=zs)(k:p.nx c (.d (.sl sz zs)))(A:i=j:=by first | exact rfl | omega): StP c s:=by
 subst A;subst o
 refine Xrw h ?_ k
 rw[Xs0 ha,slA.slL,if_pos ⟨by omega,by omega⟩];simp
theorem Sw(i j:Nat){l A:Option Int}{o sz q n:Nat}(h:nxS c.tb c.n s=some (p,.own o sz q n,l,A))(hi:i<=j)(M:j<=n)(k:p.nx c (.own o sz (q+i) (j-i)))(B:l.getD 0=i:=by first | exact rfl | (simp only[Option.getD];omega))(I:A.getD n=j:=by first | exact rfl | (simp only[Option.getD];omega)): StP c s:=by
 refine Xrw h ?_ k
 cases l<;>cases A<;>simp only[Option.getD] at B I
 . have:i=0:=by omega
   have:j=n:=by omega
   subst i;subst j;simp[slA]
 . have:i=0:=by omega
   subst i
   rw[slA,if_pos ⟨by omega,by omega⟩,I];simp
 . have:j=n:=by omega
   subst j
   rw[slA,if_pos ⟨by omega,by omega⟩,B];simp
 . rw[slA,if_pos ⟨by omega,by omega,by omega⟩,B,I];simp
noncomputable def nxE(tb:Nat->Option TI)(n:Nat)(s:St): Option (Pl×Nat×Nat×Nat×Nat×Int):=match nxA tb n s with
 | some (p,o,[.own q sz l m,.d (.int _ j)])=>match o.op with
  | .indexAddr T _ _=>match tb T with
   | some h=>match h.z,Nat.beq sz h.e.size with
    | .sl _ _,true=>some (p,q,sz,l,m,j)
    | _,_=>none
   | none=>none
  | _=>none
 | _=>none
theorem El(i:Nat){q sz l m:Nat}{j:Int}(h:nxE c.tb c.n s=some (p,q,sz,l,m,j))(hi:i<m)(k:p.nx c (.el q sz (l+i) 0))(o:j=i:=by first | exact rfl | omega): StP c s:=by
 subst o
 unfold nxE at h
 split at h<;>try cases h
 rename_i A
 split at h<;>try cases h
 rename_i B
 split at h<;>try cases h
 rename_i O I
 split at h<;>cases h
 rename_i M hb
 refine Xb3 (us:=[]) A ?_ (Pl.nx_nil k)
 rw[B]
 simp only[F,Fp,I,M,ixA]
 rw[if_pos ⟨by omega,by omega,W0g hb⟩]
 simp
theorem Eo(i:Nat){q sz m:Nat}{j:Int}(h:nxE c.tb c.n s=some (p,q,sz,0,m,j))(hi:i<m)(k:p.nx c (.el q sz i 0))(o:j=i:=by first | exact rfl | omega): StP c s :=
 El i h hi (by rw[W1j];exact k) o
noncomputable def Yqa(tb:Nat->Option TI)(n:Nat)(s:St): Option (Pl×Nat×Bool×List D×Nat×Nat):=match nxA tb n s with
 | some (p,o,[.el q sz j off])=>match o.op with
  | .load T _=>match tb T,look p.H q with
   | some i,some (.arr h xs)=>match Nat.beq sz h with
    | true=>some (p,i.z.size,i.z.ag,xs,j,off)
    | false=>none
   | _,_=>none
  | _=>none
 | _=>none
theorem Ld(u:D){z g xs j off y}(h:Yqa c.tb c.n s=some (p,z,g,xs,j,off))(o:xs[j]?=some u)(k:p.nx c (nb y))(A:Xqs z g u off=some y:=by exact rfl): StP c s:=by
 unfold Yqa at h
 split at h<;>try cases h
 rename_i B
 split at h<;>try cases h
 rename_i I
 split at h<;>try cases h
 rename_i O M hq
 split at h<;>cases h
 rename_i i
 have i:=W0g i
 refine Xb3 (us:=[]) B ?_ (Pl.nx_nil k)
 rw[I]
 simp only[F,M,hq,i,if_true,o,A]
noncomputable def Yoj(tb:Nat->Option TI)(n:Nat)(s:St): Option (Pl×Nat×Nat×List D×Nat×D):=match nxA tb n s with
 | some (p,o,[.el q sz j 0,v])=>match o.op with
  | .store T _ _=>match tb T,look p.H q with
   | some i,some (.arr h xs)=>match toD i.z v with
    | some x=>match plain v&&Nat.beq sz h&&Nat.beq v.size sz&&Nat.beq x.size sz&&Nat.beq i.z.size sz with
     | true=>some (p,q,sz,xs,j,x)
     | false=>none
    | none=>none
   | _,_=>none
  | _=>none
 | _=>none
theorem Sto{zs:List D}{q sz xs j x}(h:Yoj c.tb c.n s=some (p,q,sz,xs,j,x))(i:j<xs.length)(o:xs.set j x=zs)(k:p.nx' c (.ub True) [(q,.arr sz zs)]): StP c s:=by
 subst o
 unfold Yoj at h
 split at h<;>try cases h
 rename_i A
 split at h<;>try cases h
 rename_i B
 split at h<;>try cases h
 rename_i O I hq
 split at h<;>try cases h
 rename_i M
 split at h<;>cases h
 rename_i hb
 simp only[W0h] at hb
 refine Xb3 A ?_ k
 rw[B]
 simp only[F,I,hq,M]
 rw[if_pos ⟨hb.1.1.1.1,W0g hb.1.1.1.2,W0g hb.1.1.2,W0g hb.1.2,W0g hb.2,i⟩]
noncomputable def nxN(tb:Nat->Option TI)(n:Nat)(s:St): Option (Pl×IntKind×Int):=match nxA tb n s with
 | some (p,o,[.d (.int k a)])=>match o.op with
  | .unOp op _ _=>match op with
   | .neg=>some (p,k,a)
   | _=>none
  | _=>none
 | _=>none
theorem Ne{k:IntKind}{a:Int}(r:Int)(h:nxN c.tb c.n s=some (p,k,a))(i:p.nx c (.d (.int k r)))(hr:k.wrap (0-a)=r:=by exact wr (by omega) (by simp only[inK];omega)): StP c s:=by
 unfold nxN at h
 split at h<;>try cases h
 rename_i j
 split at h<;>try cases h
 rename_i o
 split at h<;>cases h
 refine Xb3 (us:=[]) j ?_ (Pl.nx_nil i)
 rw[o]
 simp only[F,Fp,hr]
end
end
end Go.Vm
namespace Go.Num
theorem wI{x:Int}(h:-9223372036854775808<=x/\x<9223372036854775808): IntKind.i64.wrap x=x:=by
 have e:IntKind.i64.wrap x=if x%18446744073709551616>=9223372036854775808 then x%18446744073709551616-18446744073709551616 else x%18446744073709551616:=by
  simp[IntKind.wrap,IntKind.bits,IntKind.signed]
 rw[e];split<;>omega
theorem wU{x:Int}(h:0<=x/\x<18446744073709551616): IntKind.u64.wrap x=x:=by
 have e:IntKind.u64.wrap x=x%18446744073709551616:=by simp[IntKind.wrap,IntKind.bits,IntKind.signed]
 rw[e];omega
theorem wUm(x:Int): IntKind.u64.wrap x=x%18446744073709551616:=by simp[IntKind.wrap,IntKind.bits,IntKind.signed]
theorem wW{x:Int}(h:0<=x/\x<4294967296): IntKind.u32.wrap x=x:=by
 have e:IntKind.u32.wrap x=x%4294967296:=by simp[IntKind.wrap,IntKind.bits,IntKind.signed]
 rw[e];omega
theorem wWm(x:Int): IntKind.u32.wrap x=x%4294967296:=by simp[IntKind.wrap,IntKind.bits,IntKind.signed]
def val: List Nat->Nat
 | []=>0
 | x::l=>x+4294967296*val l
def dig(n:Nat): List Nat:=if h:n=0 then [] else (n%4294967296)::dig (n/4294967296)
termination_by n
decreasing_by omega
def Xao(l:List Nat): Prop:=∀x∈l,x<4294967296
theorem Xao.nil: Xao []:=λ_ h=>by cases h
theorem Xao.cons{x:Nat}{l:List Nat}(h:x<4294967296)(k:Xao l): Xao (x::l):=λy i=>by
 rcases W1h.1 i with rfl | i
 . exact h
 . exact k y i
theorem Xao.hd{x:Nat}{l:List Nat}(h:Xao (x::l)): x<4294967296:=h x (W0v ..)
theorem Xao.tl{x:Nat}{l:List Nat}(h:Xao (x::l)): Xao l:=λy i=>h y (W1b _ i)
theorem Xao.app{l m:List Nat}(h:Xao l)(k:Xao m): Xao (l++m):=λy i=>(W2c.1 i).elim (h y) (k y)
theorem Xao.take{l:List Nat}(h:Xao l)(k:Nat): Xao (l.take k):=λy i=>h y (W5f i)
theorem Xao.drop{l:List Nat}(h:Xao l)(k:Nat): Xao (l.drop k):=λy i=>h y (W6s i)
theorem Xaj: dig 0=[]:=by rw[dig];simp
theorem Xfe{n:Nat}(h:n≠0): dig n=(n%4294967296)::dig (n/4294967296):=by rw[dig];simp[h]
theorem Xaf(n:Nat): val (dig n)=n:=by
 induction n using Nat.strongRecOn with
 | _ n i =>
  by_cases h:n=0
  . subst h;rw[Xaj];rfl
  . rw[Xfe h,val,i _ (by omega)];omega
theorem Xad(n:Nat): Xao (dig n):=by
 induction n using Nat.strongRecOn with
 | _ n i =>
  by_cases h:n=0
  . subst h;rw[Xaj];exact .nil
  . rw[Xfe h];exact .cons (by omega) (i _ (by omega))
theorem Xtv{n:Nat}: dig n=[]↔n=0:=by
 constructor
 . intro h;have:=Xaf n;rw[h] at this;exact this.symm
 . rintro rfl;exact Xaj
theorem Xcm(l m:List Nat): val (l++m)=val l+4294967296^l.length*val m:=by
 induction l with
 | nil=>simp[val]
 | cons x l h =>
  rw[W3q,val,h,val,W0j,W0q,W0z,W4r,
   W1f (4294967296^l.length) 4294967296,W0t]
theorem Xbx{l:List Nat}(h:Xao l): val l<4294967296^l.length:=by
 induction l with
 | nil=>simp[val]
 | cons x l i =>
  have j:=i h.tl
  have o:=h.hd
  rw[val,W0j,W0q]
  omega
theorem Xac{l:List Nat}{k x:Nat}(h:l[k]?=some x): val (l.take (k+1))=val (l.take k)+4294967296^k*x:=by
 have i:k<l.length:=by
  by_cases j:k<l.length
  . exact j
  . rw[W2f (by omega)] at h;cases h
 rw[W1c,h,Xcm]
 simp[val,W0k,W2d (W2e i)]
def Ynp(l:List Nat): Prop:=l=[]\/∃x,l[l.length-1]?=some x/\x≠0
theorem Xdg{l:List Nat}(I:Xao l)(O:Ynp l): dig (val l)=l:=by
 induction l with
 | nil=>exact Xaj
 | cons x l Q =>
  have M:=I.hd
  rcases O with h | ⟨y,o,j⟩
  . cases h
  . by_cases A:l=[]
    . subst A
      simp at o
      subst o
      rw[Xfe (by simp[val,j])]
      simp only[val,W3i,W2r]
      rw[W3v M,W5m M,Xaj]
    . have B:Ynp l:=by
       refine .inr ⟨y,?_,j⟩
       have:l.length≠0:=λh=>A (W0n h)
       rw[W0j,show l.length+1-1=(l.length-1)+1 by omega] at o
       simpa using o
      have i:=Q I.tl B
      have T:val l≠0:=by
       intro h0
       rw[h0,Xaj] at i
       exact A i.symm
      rw[val,Xfe (by omega),show (x+4294967296*val l)%4294967296=x by omega,show (x+4294967296*val l)/4294967296=val l by omega,i]
theorem Xg9(n:Nat): Ynp (dig n):=by
 induction n using Nat.strongRecOn with
 | _ n o =>
  by_cases h:n=0
  . subst h;rw[Xaj];exact .inl rfl
  . rw[Xfe h]
    by_cases i:n/4294967296=0
    . rw[i,Xaj]
      exact .inr ⟨n%4294967296,rfl,by omega⟩
    . rcases o (n/4294967296) (by omega) with j | ⟨x,j,A⟩
      . exact absurd (Xtv.1 j) i
      . refine .inr ⟨x,?_,A⟩
        have:(dig (n/4294967296)).length≠0:=λh=>i (Xtv.1 (W0n h))
        rw[W0j,show (dig (n/4294967296)).length+1-1=((dig (n/4294967296)).length-1)+1 by omega]
        simpa using j
theorem Xn0{n:Nat}(h:n≠0): 4294967296^((dig n).length-1)<=n:=by
 induction n using Nat.strongRecOn with
 | _ n j =>
  rw[Xfe h,W0j,W3m]
  by_cases i:n/4294967296=0
  . rw[i,Xaj];simp;omega
  . have o:=j (n/4294967296) (by omega) i
    have B:(dig (n/4294967296)).length≠0:=λA=>i (Xtv.1 (W0n A))
    rw[show (dig (n/4294967296)).length=(dig (n/4294967296)).length-1+1 by omega,W0q]
    exact W0l (W0x _ o) (W6w ..)
theorem Xc1(n:Nat): n<4294967296^(dig n).length:=by
 have:=Xbx (Xad n)
 rwa[Xaf] at this
theorem Xaq{n k:Nat}(h:n<4294967296^k): (dig n).length<=k:=by
 by_cases h0:n=0
 . subst h0;rw[Xaj];simp
 . have i:=Xn0 h0
   apply W1g
   intro j
   have:4294967296^k<=4294967296^((dig n).length-1):=W0m (by decide) (by omega)
   omega
theorem Xan{m n:Nat}(h:m<=n): (dig m).length<=(dig n).length:=Xaq (W1y h (Xc1 n))
theorem Xdn{m n:Nat}(h:(dig m).length<(dig n).length): m<n:=by
 apply W1g
 intro i
 have:=Xan (m:=n) (n:=m) (by omega)
 omega
theorem Xfp{l:List Nat}(j:Xao l)(h0:0<l.length)(h:4294967296^(l.length-1)<=val l): Ynp l:=by
 have i:l.length-1<l.length:=by omega
 refine .inr ⟨l[l.length-1],W0a i,λo=>?_⟩
 have A:=Xac (l:=l) (W0a i)
 rw[show l.length-1+1=l.length by omega,W1x,o,W3i,W2r] at A
 have B:=Xbx (j.take (l.length-1))
 rw[W0k,W2d (by omega)] at B
 omega
theorem Xgn(x y:Nat): (dig (x+y)).length<=max (dig x).length (dig y).length+1:=by
 apply Xaq
 have h:=Xc1 x
 have i:=Xc1 y
 have j:4294967296^(dig x).length<=4294967296^max (dig x).length (dig y).length:=W0m (by decide) (Nat.le_max_left ..)
 have o:4294967296^(dig y).length<=4294967296^max (dig x).length (dig y).length:=W0m (by decide) (Nat.le_max_right ..)
 rw[W0q]
 omega
theorem Xlp(x y:Nat): (dig (x*y)).length<=(dig x).length+(dig y).length:=by
 apply Xaq
 rw[W1a]
 exact W5d (Xc1 x) (Xc1 y)
theorem Yje(s:Nat): Int.fdiv (s:Int) (2^(min (Int.toNat 32) (IntKind.bits .u64)))=((s/4294967296:Nat):Int):=by
 have e:(2:Int)^(min (Int.toNat 32) (IntKind.bits .u64))=4294967296:=by decide
 rw[e,W1s _ (by omega)]
 rfl
theorem Xgf{l:List Nat}{k:Nat}(h:l.length<=k): l.take (k+1)=l.take k:=by
 rw[W0b h,W0b (by omega)]
theorem Xbd{l:List Nat}{k d:Nat}(h:k<l.length): val ((l.set k d).take (k+1))=val (l.take k)+4294967296^k*d:=by
 have:=Xac (l:=l.set k d) (k:=k) (x:=d) (by rw[W2n h])
 rw[this,List.take_set_of_le (W0c k)]
theorem Xbi(l:List Nat)(k:Nat)(h:k<=l.length): val l=val (l.take k)+4294967296^k*val (l.drop k):=by
 conv=>lhs;rw[<-W3w k l]
 rw[Xcm,W0k,W2d h]
def Xa5(a b:Int): Int:=if a<b then -1 else if a>b then 1 else 0
theorem Xj1{l m:List Nat}(i:Xao l){k x y:Nat}(M:k<l.length)(j:k<m.length)(o:l[k]?=some x)(A:m[k]?=some y)(hd:l.drop (k+1)=m.drop (k+1))(h:x<y): val l<val m:=by
 rw[Xbi l (k+1) (by omega),Xbi m (k+1) (by omega),hd,Xac o,Xac A]
 have B:=Xbx (i.take k)
 rw[W0k,W2d (by omega)] at B
 have I:4294967296^k*(x+1)<=4294967296^k*y:=W0p _ h
 rw[W0z] at I
 omega
theorem Xbq(n:Nat): val (List.replicate n 0)=0:=by
 induction n with
 | zero=>rfl
 | succ n h=>rw[W3p,val,h]
theorem Yjf{u n:Nat}(h:u*2^n<18446744073709551616)(i:n<=64): IntKind.u64.wrap ((u:Int)*2^(min (Int.toNat (n:Int)) (IntKind.bits .u64)))=((u*2^n:Nat):Int):=by
 have e:min (Int.toNat (n:Int)) (IntKind.bits .u64)=n:=by
  rw[W7m];exact W2d i
 rw[e]
 have j:(u:Int)*2^n=((u*2^n:Nat):Int):=by rw[W2z,W7v];rfl
 rw[j]
 exact wU ⟨by omega,by omega⟩
theorem Xdm(a b n:Nat)(h:a<2^n): b*2^n|||a=b*2^n+a:=by
 have:=Nat.shiftLeft_add_eq_or_of_lt h b
 rw[Nat.shiftLeft_eq] at this
 exact this.symm
theorem Xdy(u n:Nat)(h:n<=32): u*2^n%4294967296=(u%2^(32-n))*2^n:=by
 have e:4294967296=2^(32-n)*2^n:=by rw[<-W1a,show 32-n+n=32 by omega]
 rw[e,Nat.mul_mod_mul_right]
theorem Xbs{l:List Nat}{k x:Nat}(h:l[k]?=some x): val (l.drop k)=x+4294967296*val (l.drop (k+1)):=by
 have i:k<l.length:=by
  by_cases j:k<l.length
  . exact j
  . rw[W2f (by omega)] at h;cases h
 rw[W3k i,val]
 rw[W0a i] at h
 injection h with h
 rw[h]
theorem drop_set{l:List Nat}{k d:Nat}(h:k<l.length): (l.set k d).drop k=d::l.drop (k+1):=by
 rw[W3k (by simpa using h)]
 simp[List.drop_set]
def bl(n:Nat): Nat:=if n=0 then 0 else Nat.log2 n+1
theorem Yd4{p:Nat->Prop}(h:∀j:Fin 256,p j.val)(x:Nat)(i:x<256): p x:=h ⟨x,i⟩
theorem Xck{n:Nat}(h:n≠0): 2^(bl n-1)<=n/\n<2^bl n/\0<bl n:=by
 rw[bl,if_neg h]
 exact⟨Nat.log2_self_le h,Nat.lt_log2_self,Nat.succ_pos _⟩
theorem Ypg{n k:Nat}(h:2^k<=n)(i:n<2^(k+1)): bl n=k+1:=by
 have h0:n≠0:=by have:=W0r k;omega
 obtain⟨a,b,c⟩:=Xck h0
 have j:k<bl n:=(W2w (by decide:1<2)).1 (W1y h b)
 have o:bl n-1<k+1:=(W2w (by decide:1<2)).1 (W1y a i)
 omega
theorem Xe0{n k:Nat}(h:n/2^k≠0): bl n=bl (n/2^k)+k:=by
 obtain⟨a,b,c⟩:=Xck h
 have hp:=W0r k
 have e:bl (n/2^k)+k=(bl (n/2^k)-1+k)+1:=by omega
 rw[e]
 apply Ypg
 . rw[W1a]
   exact(W7t hp).1 a
 . rw[show bl (n/2^k)-1+k+1=bl (n/2^k)+k by omega,W1a]
   exact(W2u hp).1 b
theorem Xhr(l:List Nat)(n:Nat)(h:n<=32): val l%2^n=l.getD 0 0%2^n:=by
 cases l with
 | nil=>rfl
 | cons x l =>
  have e:4294967296=2^n*2^(32-n):=by rw[<-W1a,show n+(32-n)=32 by omega]
  simp only[val,List.getD_cons_zero]
  rw[e,W0t,Nat.add_mul_mod_self_left]
theorem Yeu(s y:Nat)(h:s<18446744073709551616): IntKind.u64.wrap (Int.tdiv (s:Int) (y:Int))=((s/y:Nat):Int):=by
 have e:Int.tdiv (s:Int) (y:Int)=((s/y:Nat):Int):=rfl
 rw[e]
 have i:s/y<18446744073709551616:=W1y (W4j s y) h
 exact wU ⟨W5n _,W7d.2 i⟩
theorem Xuo(s y:Nat): Int.tmod (s:Int) (y:Int)=((s%y:Nat):Int):=rfl
theorem Xzn{n:Nat}(h:n<256): (((UInt8.ofNat n).toNat:Nat):Int)=(n:Int):=by
 rw[UInt8.toNat_ofNat_of_lt' h]
theorem Ylj{U Y d:Nat}(i:U<4294967296*Y)(j:0<Y)(h:4294967296<=d): U/Y<d:=by
 have:U/Y<4294967296:=by rw[W2u j];exact i
 omega
theorem Yli{low o j i next high M d r:Nat}(A:low<M)(U:0<M)(B:d*high+r=j)(h:r*4294967296+o<d*next)(I:0<i+M*(next+4294967296*high)):
 (low+M*(o+4294967296*j))/(i+M*(next+4294967296*high))<d:=by
 rw[W2u I]
 have O:d*(next+4294967296*high)=d*next+4294967296*(d*high):=by rw[W0z,W4e]
 have Q:o+4294967296*j+1<=d*(next+4294967296*high):=by rw[O,<-B];omega
 have T:=W0p M Q
 rw[W0z M _ 1,W4c] at T
 have V:d*(i+M*(next+4294967296*high))=d*i+M*(d*(next+4294967296*high)):=by rw[W0z,W4e]
 omega
theorem Yd7{low o j i next high M d r:Nat}(I:0<M)(O:i<M)(Q:d*high+r=j)(h:d*next<=r*4294967296+o)(hd:d<4294967296)(T:0<high):
 d<=(low+M*(o+4294967296*j))/(i+M*(next+4294967296*high))+1:=by
 generalize B:i+M*(next+4294967296*high)=Y
 generalize hU:low+M*(o+4294967296*j)=U
 have V:4294967296*M<=Y:=by
  rw[<-B,W0z]
  have:M*(4294967296*1)<=M*(4294967296*high):=W0p _ (W0p _ T)
  omega
 have Z:d*(next+4294967296*high)=d*next+4294967296*(d*high):=by rw[W0z,W4e]
 have h2:d*(next+4294967296*high)<=o+4294967296*j:=by rw[Z,<-Q];omega
 have h3:=W0p M h2
 have h4:d*Y=d*i+M*(d*(next+4294967296*high)):=by rw[<-B,W0z,W4e]
 have h5:d*i<=d*M:=W0p _ (W2e O)
 have h6:d*M<4294967296*M:=W3n hd I
 have h7:d*Y<U+Y:=by omega
 have h8:=W2s U Y
 have h9:=W2b U (show 0<Y by omega)
 apply W1g
 intro hn
 have A:(U/Y+2)*Y<=d*Y:=W0x _ (by omega)
 rw[W1i,W1f (U/Y)] at A
 omega
theorem Ye3{U Y d U1 c P:Nat}(i:0<Y)(M:U/Y<=d)(O:d<=U/Y+1)(h:U1+Y*d=U+P*c)(Q:c<=1)(j:U1<P)(T:U<P):
 (c=0->d=U/Y/\U1=U%Y)/\(c=1->d=U/Y+1/\∀U2 e,U2<P->U2+P*e=U1+Y->e<=1->U2=U%Y):=by
 have o:=W2s U Y
 have V:=W2b U i
 refine⟨λh0=>?_,λh0=>?_⟩
 . subst h0
   have hd:d=U/Y:=by
    apply W1g
    intro A
    have:d=U/Y+1:=by omega
    rw[this,W0z,W4c] at h
    omega
   rw[hd] at h
   exact⟨hd,by omega⟩
 . subst h0
   have hd:d=U/Y+1:=by
    apply W1g
    intro A
    have:d=U/Y:=by omega
    rw[this] at h
    omega
   refine⟨hd,λU2 e B Z I=>?_⟩
   rw[hd,W0z,W4c] at h
   rcases W2o e with h0 | h0
   . subst h0;omega
   . have:e=1:=by omega
     subst this;omega
theorem Xfm{l:List Nat}{q i x:Nat}(h:q+i<l.length): val (((l.set (q+i) x).drop q).take (i+1))=val ((l.drop q).take i)+4294967296^i*x:=by
 have e:(l.set (q+i) x).drop q=(l.drop q).set i x:=by
  rw[List.drop_set,if_neg (by omega),W3r]
 rw[e,Xbd (by rw[W1n];omega)]
theorem Xb2{l:List Nat}{q i u:Nat}(h:l[q+i]?=some u): val ((l.drop q).take (i+1))=val ((l.drop q).take i)+4294967296^i*u :=
 Xac (by rw[W2h];exact h)
end Go.Num
namespace Go.Vm
open Go
def gw0(w:World): GW:=⟨w,λ_ _=>False,λ_ _ h=>h.elim⟩
def Reads(P:Program)(t:TypeId)(r:D->Prop): Prop:=∀(w:World) {H:Type} {enc:TypeId×Value->H} {h:Nat->Bool} {i:Bool} {j:Nat} {cs:List Value} {x:DataW H×List MemPlace},
 DataW.trod enc P w 0 h i j t cs=some x->∃d,r d/\D.At (gw0 w) d cs
theorem Reads.mono{P:Program}{t:TypeId}{r s:D->Prop}(h:Reads P t r)(hr:∀d,r d->s d): Reads P t s:=λw _ _ _ _ _ _ _ i=>let ⟨d,j,o⟩:=h w i;⟨d,hr d j,o⟩
theorem Xh9{P:Program}{t:TypeId}{k:IntKind}(j:P.underlying t=some (.int k))(o:∀n,(Lit.int k n).wf=true->inR k n): Reads P t λd=>∃z,d=.int k z/\(Lit.int k z).wf=true:=λw _ _ _ _ _ _ _ h =>
 let ⟨n,A,_,i⟩:=DataW.trod_int j h
 ⟨_,⟨n,rfl,i⟩,A,o n i⟩
theorem Yel{n:Int}(h:(Lit.int .u8 n).wf=true): 0<=n/\n<256:=by
 simp[Lit.wf,IntKind.min,IntKind.max,IntKind.signed,IntKind.bits] at h;omega
theorem Yim{n:Int}(h:(Lit.int .i8 n).wf=true): -128<=n/\n<128:=by
 simp[Lit.wf,IntKind.min,IntKind.max,IntKind.signed,IntKind.bits] at h;omega
theorem Yck{n:Int}(h:(Lit.int .i64 n).wf=true): -9223372036854775808<=n/\n<9223372036854775808:=by
 simp[Lit.wf,IntKind.min,IntKind.max,IntKind.signed,IntKind.bits] at h;omega
theorem Xk6{P:Program}{t:TypeId}(i:P.underlying t=some (.int .u8)): Reads P t λd=>∃n:Nat,d=.int .u8 n/\n<256 :=
 (Xh9 i λn h=>by
  have:=Yel h
  show IntKind.u8.wrap n=n
  simp[IntKind.wrap,IntKind.bits,IntKind.signed];omega).mono λd ⟨z,e,h⟩=>⟨z.toNat,by rw[e,W2y (Yel h).1],by have:=Yel h;omega⟩
theorem Xz7{P:Program}{t:TypeId}(i:P.underlying t=some (.int .i8)): Reads P t λd=>∃n:Int,d=.int .i8 n/\-128<=n/\n<128 :=
 (Xh9 i λn h=>by
  have:=Yim h
  have e:IntKind.i8.wrap n=if n%256>=128 then n%256-256 else n%256:=by simp[IntKind.wrap,IntKind.bits,IntKind.signed]
  show IntKind.i8.wrap n=n
  rw[e];split<;>omega).mono λd ⟨z,e,h⟩=>⟨z,e,Yim h⟩
theorem Xvp{P:Program}{t:TypeId}(i:P.underlying t=some (.int .i64)): Reads P t λd=>∃n:Int,d=.int .i64 n/\-9223372036854775808<=n/\n<9223372036854775808 :=
 (Xh9 i λn h=>Num.wI (Yck h)).mono λd ⟨z,e,h⟩=>⟨z,e,Yck h⟩
theorem Xo0{P:Program}{t e:TypeId}{r:D->Prop}{sz:Nat}(ht:P.underlying t=some (.slice e))(he:Reads P e r)(hs:P.cellsOf e=sz)(h0:0<sz): Reads P t λd=>∃l:List D,d=.sl sz l/\l.length<9223372036854775808/\∀y∈l,r y:=by
 intro w H enc spare held fuel cs x h
 rcases DataW.trod_slice ht h with ⟨T,_⟩ | ⟨a,len,cap,elems,rest,n,_,T,_,hb,hl,hm,hlen,hel,_,_⟩
 . exact⟨_,⟨[],rfl,by decide,λy hy=>nomatch hy⟩,none,0,T,by decide,by decide,.inl rfl⟩
 . have hcap:cap<9223372036854775808:=by
    have:maxLen<9223372036854775808:=by decide
    omega
   have V:∀i,i<len->∃A y,w.cells? 0 (a.add (i*P.cellsOf e)) (P.cellsOf e)=some A/\r y/\D.At (gw0 w) y A:=λi hi=>by
    have h2:=hel i hi
    rw[W0a (by omega)] at h2
    obtain⟨A,Y,h4⟩:=Option.bind_eq_some_iff.1 h2
    obtain⟨y,M,U⟩:=he w h4
    exact⟨A,y,Y,M,U⟩
   have O:∀k,k<=len->∃B:List D,B.length=k/\∀i y,B[i]?=some y->r y/\∃A,w.cells? 0 (a.add (i*P.cellsOf e)) (P.cellsOf e)=some A/\D.At (gw0 w) y A:=by
    intro k
    induction k with
    | zero=>intro _;exact⟨[],rfl,λi y h=>nomatch h⟩
    | succ k ih =>
     intro hk
     obtain⟨B,T,h2⟩:=ih (by omega)
     obtain⟨A,y,Y,h4,M⟩:=V k (by omega)
     refine⟨B++[y],by simp[T],λi z I=>?_⟩
     by_cases hik:i<k
     . rw[W1d (by omega)] at I;exact h2 i z I
     . rw[W0o (by omega)] at I
       by_cases hie:i=k
       . subst hie
         rw[T,W2v] at I
         injection I with I
         subst I
         exact⟨h4,A,Y,M⟩
       . rw[W2f (by simp;omega)] at I;cases I
   obtain⟨B,hy1,Q⟩:=O len (W0c _)
   refine⟨_,⟨B,rfl,by omega,λy hy=>?_⟩,some a,cap,by rw[T,hy1],by omega,by omega,?_⟩
   . obtain⟨i,hi⟩:=W4t hy
     exact(Q i y hi).1
   by_cases I:len=0
   . exact .inl (W0n (by omega))
   obtain⟨y0,hy0⟩:∃y,B[0]?=some y:=⟨_,W0a (by omega)⟩
   obtain⟨_,cs0,Y,h4⟩:=Q 0 y0 hy0
   obtain⟨_,hl0,hc0⟩:=World.cells?_some Y
   have o:=hc0 0 (by omega)
   have e0:(a.add (0*P.cellsOf e)).add 0=a:=by rw[W4q];rfl
   rw[e0] at o
   obtain⟨v0,hv0⟩:∃v,cs0[0]?=some v:=⟨_,W0a (by omega)⟩
   rw[hv0] at o
   have hsp:a.spot=none:=by
    unfold World.cell? at o
    split at o
    . split at o
      . cases o
      . rename_i hs;cases hh:a.spot with
        | none=>rfl
        | some s=>rw[hh] at hs;simp at hs
    . cases o
   obtain⟨b,off,sp⟩:=a
   have Z:sp=none:=hsp
   subst Z
   have add0:∀(b off k:Nat),(⟨b,off,none⟩:Addr).add k=⟨b,off+k,none⟩:=λb off k=>by
    unfold Addr.add;split
    . rename_i h;subst h;rfl
    . rfl
   refine .inr ⟨b,off,rfl,?_⟩
   have row:∀(B:List D) (k:Nat),(∀i y,B[i]?=some y->∃A,w.cells? 0 ((⟨b,off,none⟩:Addr).add ((k+i)*P.cellsOf e)) (P.cellsOf e)=some A/\D.At (gw0 w) y A)->D.Row (gw0 w) b sz (off+k*sz) B:=by
    intro B
    induction B with
    | nil=>intro k _;trivial
    | cons y B ih =>
     intro k hh
     obtain⟨A,M,U⟩:=hh 0 y rfl
     obtain⟨_,hl1,hc1⟩:=World.cells?_some M
     refine⟨⟨A,U,by rw[<-D.at_len y U,hl1,hs],λj v hj=>⟨?_,λh=>h⟩⟩,?_⟩
     . have hjl:j<P.cellsOf e:=by
        rw[<-hl1]
        by_cases h:j<A.length
        . exact h
        . rw[W2f (by omega)] at hj;cases hj
       have:=hc1 j hjl
       rw[add0,add0,hj,hs,W2r] at this
       exact this
     . have:=ih (k+1) λi y hi=>by
        obtain⟨A,M,U⟩:=hh (i+1) y hi
        exact⟨A,by rw[show k+1+i=k+(i+1) by omega];exact M,U⟩
       rw[W1i,W7o,<-W4r] at this
       exact this
   have:=row B 0 λi y hi=>by
    rw[W1j];exact(Q i y hi).2
   rw[W4q,W2r] at this
   exact this
inductive FieldsRd (P:Program):List Field->Nat->(D->Prop)->Prop where
 | one {f:Field} {o:Nat} {r:D->Prop} (h1:f.offset=o) (h2:Reads P f.type r):FieldsRd P [f] o r
 | cons {f:Field} {fs:List Field} {o n:Nat} {r s:D->Prop} (h1:f.offset=o) (h2:Reads P f.type r) (h3:P.cellsOf f.type=n) (h4:FieldsRd P fs (o+n) s):FieldsRd P (f::fs) o (λd=>∃a c,d=.pr a c/\r a/\s c)
theorem FieldsRd.read{P:Program}{fs:List Field}{o:Nat}{r:D->Prop}(hf:FieldsRd P fs o r){w:World}{H:Type}{enc:TypeId×Value->H}{spare:Nat->Bool}{held:Bool}{n:Nat}{cs:List Value}
 (h:∀f∈fs,∃x,DataW.trod enc P w 0 spare held n f.type ((cs.drop f.offset).take (P.cellsOf f.type))=some x) (T:∀f∈fs.getLast?,cs.length=f.offset+P.cellsOf f.type):∃d,r d/\D.At (gw0 w) d (cs.drop o):=by
 induction hf with
 | @one f o r B I =>
  obtain⟨x,A⟩:=h f (W0v ..)
  have:=T f rfl
  rw[W0b (by rw[W1n];omega),B] at A
  exact I w A
 | @cons f fs o n r s B I U Z V =>
  obtain⟨x,A⟩:=h f (W0v ..)
  rw[B,U] at A
  obtain⟨i,hi,M⟩:=I w A
  obtain⟨j,Y,O⟩:=V (λg Q=>h g (W1b _ Q)) λg Q=>T g (by cases fs with | nil=>cases Q | cons y ys=>rwa[List.getLast?_cons_cons])
  exact⟨.pr i j,⟨i,j,rfl,hi,Y⟩,_,_,by rw[<-W4u,W3w],M,O⟩
theorem Xgx{P:Program}{t:TypeId}{fs:Array Field}{r:D->Prop}(B:P.underlying t=some (.struct fs))(hf:FieldsRd P fs.toList 0 r)(hs:∀f∈fs.toList.getLast?,P.cellsOf t=f.offset+P.cellsOf f.type): Reads P t λd=>∃a,d=.st a/\r a:=by
 intro w H enc spare held A cs x h
 obtain⟨xs,n,_,_,I,M,O⟩:=DataW.trod_struct B h
 obtain⟨d,Q,T⟩:=hf.read (w:=w) (enc:=enc) (spare:=spare) (held:=held) (n:=n) (cs:=cs) (λf o=>by
  obtain⟨i,hi⟩:=W4t o
  have j:fs[i]?=some f:=by simpa using hi
  have U:i<fs.size:=by
   by_cases h:i<fs.size
   . exact h
   . rw[W4b (by omega)] at j;cases j
  exact⟨_,(O i f j).trans (W0a (by omega))⟩) (λf hf=>by rw[I,hs f hf])
 exact⟨.st d,⟨d,rfl,Q⟩,T⟩
end Go.Vm
namespace Go.Proofs.YtcmjannkbdflmaaGreatDoor
open Go Go.Vm
def Yq7: List (Nat×TI):=[(2,⟨.int .i64 0,.bool false,0,0⟩),(3,⟨.int .i64 0,.bool false,0,0⟩),(4,⟨.bool false,.bool false,0,0⟩),(5,⟨.int .u8 0,.bool false,0,0⟩),(9,⟨.str [],.bool false,0,0⟩),(21,⟨.int .i32 0,.bool false,0,0⟩),(22,⟨.sl 8 [],.st (.pr (.bool false) (.pr (.bool false) (.pr (.st (.pr (.int .i8 0) (.int .i8 0))) (.pr (.st (.pr (.int .i8 0) (.int .i8 0))) (.pr (.int .u8 0) (.int .u8 0)))))),8,0⟩),(24,⟨.st (.pr (.sl 8 []) (.bool false)),.bool false,0,0⟩),(25,⟨.sl 14 [],.st (.pr (.bool false) (.pr (.st (.pr (.st (.pr (.sl 1 []) (.sl 4 []))) (.st (.pr (.sl 1 []) (.sl 4 []))))) (.pr (.st (.pr (.st (.pr (.sl 1 []) (.sl 4 []))) (.st (.pr (.sl 1 []) (.sl 4 []))))) (.pr (.st (.pr (.st (.pr (.sl 1 []) (.sl 4 []))) (.st (.pr (.sl 1 []) (.sl 4 []))))) (.bool false))))),304,0⟩),(29,⟨.sl 1 [],.sl 4 [],24,0⟩),(30,⟨.sl 4 [],.st (.pr (.st (.pr (.bool false) (.sl 1 []))) (.st (.pr (.bool false) (.sl 1 [])))),64,0⟩),(32,⟨.st (.pr (.sl 1 []) (.sl 4 [])),.bool false,0,0⟩),(34,⟨.st (.pr (.st (.pr (.sl 1 []) (.sl 4 []))) (.st (.pr (.sl 1 []) (.sl 4 [])))),.bool false,0,0⟩),(36,⟨.st (.pr (.bool false) (.pr (.st (.pr (.st (.pr (.sl 1 []) (.sl 4 []))) (.st (.pr (.sl 1 []) (.sl 4 []))))) (.pr (.st (.pr (.st (.pr (.sl 1 []) (.sl 4 []))) (.st (.pr (.sl 1 []) (.sl 4 []))))) (.pr (.st (.pr (.st (.pr (.sl 1 []) (.sl 4 []))) (.st (.pr (.sl 1 []) (.sl 4 []))))) (.bool false))))),.bool false,0,0⟩),(37,⟨.int .i64 0,.bool false,0,0⟩),(40,⟨.sl 8 [],.st (.pr (.st (.pr (.st (.pr (.bool false) (.sl 1 []))) (.st (.pr (.bool false) (.sl 1 []))))) (.st (.pr (.st (.pr (.bool false) (.sl 1 []))) (.st (.pr (.bool false) (.sl 1 [])))))),128,0⟩),(47,⟨.raw (.pointer none),.bool false,0,0⟩),(49,⟨.st (.int .i64 0),.bool false,0,0⟩),(53,⟨.sl 1 [],.int .u32 0,4,0⟩),(55,⟨.st (.pr (.bool false) (.sl 1 [])),.bool false,0,0⟩)]
def Yq6: List (Nat×TI):=[(57,⟨.st (.pr (.st (.pr (.bool false) (.sl 1 []))) (.st (.pr (.bool false) (.sl 1 [])))),.bool false,0,0⟩),(59,⟨.st (.pr (.st (.pr (.st (.pr (.bool false) (.sl 1 []))) (.st (.pr (.bool false) (.sl 1 []))))) (.pr (.st (.pr (.st (.pr (.bool false) (.sl 1 []))) (.st (.pr (.bool false) (.sl 1 []))))) (.pr (.st (.pr (.st (.pr (.bool false) (.sl 1 []))) (.st (.pr (.bool false) (.sl 1 []))))) (.st (.pr (.st (.pr (.bool false) (.sl 1 []))) (.st (.pr (.bool false) (.sl 1 [])))))))),.bool false,0,0⟩),(64,⟨.st (.pr (.st (.pr (.st (.pr (.bool false) (.sl 1 []))) (.st (.pr (.bool false) (.sl 1 []))))) (.pr (.st (.pr (.st (.pr (.bool false) (.sl 1 []))) (.st (.pr (.bool false) (.sl 1 []))))) (.pr (.st (.pr (.st (.pr (.bool false) (.sl 1 []))) (.st (.pr (.bool false) (.sl 1 []))))) (.st (.pr (.st (.pr (.bool false) (.sl 1 []))) (.st (.pr (.bool false) (.sl 1 [])))))))),.bool false,0,0⟩),(67,⟨.sl 4 [],.st (.pr (.str []) (.pr (.bool false) (.st (.pr (.sl 1 []) (.sl 4 []))))),72,0⟩),(70,⟨.sl 1 [],.str [],16,0⟩),(72,⟨.st (.pr (.str []) (.pr (.bool false) (.st (.pr (.sl 1 []) (.sl 4 []))))),.bool false,0,0⟩),(75,⟨.sl 3 [],.st (.pr (.str []) (.st (.pr (.sl 1 []) (.sl 4 [])))),64,0⟩),(79,⟨.st (.pr (.str []) (.st (.pr (.sl 1 []) (.sl 4 [])))),.bool false,0,0⟩),(80,⟨.raw (.pointer none),.bool false,0,0⟩),(83,⟨.st (.pr (.sl 1 []) (.pr (.int .i64 0) (.sl 8 []))),.bool false,0,0⟩),(88,⟨.st (.pr (.st (.pr (.st (.pr (.bool false) (.sl 1 []))) (.st (.pr (.bool false) (.sl 1 []))))) (.st (.pr (.st (.pr (.bool false) (.sl 1 []))) (.st (.pr (.bool false) (.sl 1 [])))))),.bool false,0,0⟩),(92,⟨.raw .nilFunc,.bool false,0,0⟩),(95,⟨.int .i8 0,.bool false,0,0⟩),(96,⟨.st (.pr (.int .i8 0) (.int .i8 0)),.int .i8 0,1,2⟩),(98,⟨.st (.pr (.bool false) (.pr (.bool false) (.pr (.st (.pr (.int .i8 0) (.int .i8 0))) (.pr (.st (.pr (.int .i8 0) (.int .i8 0))) (.pr (.int .u8 0) (.int .u8 0)))))),.bool false,0,0⟩),(103,⟨.st (.pr (.st (.pr (.bool false) (.sl 1 []))) (.pr (.st (.pr (.bool false) (.sl 1 []))) (.pr (.st (.pr (.bool false) (.sl 1 []))) (.st (.pr (.bool false) (.sl 1 [])))))),.st (.pr (.bool false) (.sl 1 [])),32,4⟩),(104,⟨.sl 4 [],.st (.pr (.st (.pr (.sl 1 []) (.sl 4 []))) (.st (.pr (.sl 1 []) (.sl 4 [])))),96,0⟩),(108,⟨.sl 2 [],.st (.pr (.sl 1 []) (.sl 4 [])),48,0⟩),(115,⟨.raw .nilFunc,.bool false,0,0⟩),(130,⟨.raw (.pointer none),.bool false,0,0⟩)]
def Yq5: List (Nat×TI):=[(131,⟨.sl 1 [],.int .u8 0,1,0⟩),(133,⟨.st (.pr (.raw (.pointer none)) (.sl 1 [])),.bool false,0,0⟩),(157,⟨.raw .nilFunc,.bool false,0,0⟩),(179,⟨.int .u32 0,.bool false,0,0⟩),(181,⟨.int .u64 0,.bool false,0,0⟩),(183,⟨.st (.pr (.st (.pr (.st (.pr (.sl 1 []) (.sl 4 []))) (.st (.pr (.sl 1 []) (.sl 4 []))))) (.st (.pr (.sl 1 []) (.sl 4 [])))),.bool false,0,0⟩),(189,⟨.st (.pr (.st (.pr (.st (.pr (.sl 1 []) (.sl 4 []))) (.st (.pr (.sl 1 []) (.sl 4 []))))) (.int .i64 0)),.bool false,0,0⟩),(194,⟨.int .u64 0,.bool false,0,0⟩),(204,⟨.raw (.pointer none),.bool false,0,0⟩),(223,⟨.raw .nilFunc,.bool false,0,0⟩),(229,⟨.st (.pr (.int .i64 0) (.pr (.int .i64 0) (.int .i64 0))),.int .i64 0,8,3⟩),(230,⟨.st (.pr (.st (.pr (.int .i64 0) (.pr (.int .i64 0) (.int .i64 0)))) (.pr (.st (.pr (.int .i64 0) (.pr (.int .i64 0) (.int .i64 0)))) (.pr (.st (.pr (.int .i64 0) (.pr (.int .i64 0) (.int .i64 0)))) (.pr (.st (.pr (.int .i64 0) (.pr (.int .i64 0) (.int .i64 0)))) (.pr (.st (.pr (.int .i64 0) (.pr (.int .i64 0) (.int .i64 0)))) (.pr (.st (.pr (.int .i64 0) (.pr (.int .i64 0) (.int .i64 0)))) (.pr (.st (.pr (.int .i64 0) (.pr (.int .i64 0) (.int .i64 0)))) (.pr (.st (.pr (.int .i64 0) (.pr (.int .i64 0) (.int .i64 0)))) (.pr (.st (.pr (.int .i64 0) (.pr (.int .i64 0) (.int .i64 0)))) (.pr (.st (.pr (.int .i64 0) (.pr (.int .i64 0) (.int .i64 0)))) (.pr (.st (.pr (.int .i64 0) (.pr (.int .i64 0) (.int .i64 0)))) (.pr (.st (.pr (.int .i64 0) (.pr (.int .i64 0) (.int .i64 0)))) (.pr (.st (.pr (.int .i64 0) (.pr (.int .i64 0) (.int .i64 0)))) (.pr (.st (.pr (.int .i64 0) (.pr (.int .i64 0) (.int .i64 0)))) (.pr (.st (.pr (.int .i64 0) (.pr (.int .i64 0) (.int .i64 0)))) (.st (.pr (.int .i64 0) (.pr (.int .i64 0) (.int .i64 0))))))))))))))))))),.st (.pr (.int .i64 0) (.pr (.int .i64 0) (.int .i64 0))),24,16⟩),(244,⟨.raw (.pointer none),.bool false,0,0⟩),(246,⟨.st (.int .i64 0),.bool false,0,0⟩),(248,⟨.raw .nilFunc,.bool false,0,0⟩),(269,⟨.st (.pr (.st (.pr (.st (.pr (.bool false) (.sl 1 []))) (.st (.pr (.bool false) (.sl 1 []))))) (.st (.pr (.st (.pr (.bool false) (.sl 1 []))) (.st (.pr (.bool false) (.sl 1 [])))))),.bool false,0,0⟩),(283,⟨.st (chD (.bool false) 255),.bool false,1,256⟩),(287,⟨.raw (.pointer none),.bool false,0,0⟩),(293,⟨.raw (.pointer none),.bool false,0,0⟩),(296,⟨.st (.pr (.sl 1 []) (.sl 1 [])),.bool false,0,0⟩)]
def Yq4: List (Nat×TI):=[(306,⟨.raw .nilFunc,.bool false,0,0⟩),(316,⟨.st (.pr (.sl 1 []) (.sl 1 [])),.bool false,0,0⟩),(325,⟨.st (.pr (.int .u8 0) (.pr (.int .u8 0) (.pr (.int .u8 0) (.pr (.int .u8 0) (.pr (.int .u8 0) (.pr (.int .u8 0) (.pr (.int .u8 0) (.pr (.int .u8 0) (.pr (.int .u8 0) (.pr (.int .u8 0) (.pr (.int .u8 0) (.pr (.int .u8 0) (.pr (.int .u8 0) (.pr (.int .u8 0) (.pr (.int .u8 0) (.pr (.int .u8 0) (.pr (.int .u8 0) (.pr (.int .u8 0) (.pr (.int .u8 0) (.pr (.int .u8 0) (.pr (.int .u8 0) (.pr (.int .u8 0) (.pr (.int .u8 0) (.int .u8 0)))))))))))))))))))))))),.int .u8 0,1,24⟩),(353,⟨.raw .nilFunc,.bool false,0,0⟩),(358,⟨.st (.pr (.int .u64 0) (.pr (.int .u64 0) (.pr (.int .u64 0) (.pr (.int .u64 0) (.pr (.int .u64 0) (.pr (.int .u64 0) (.pr (.int .u64 0) (.pr (.int .u64 0) (.pr (.int .u64 0) (.pr (.int .u64 0) (.pr (.int .u64 0) (.pr (.int .u64 0) (.pr (.int .u64 0) (.pr (.int .u64 0) (.pr (.int .u64 0) (.pr (.int .u64 0) (.pr (.int .u64 0) (.pr (.int .u64 0) (.pr (.int .u64 0) (.int .u64 0)))))))))))))))))))),.int .u64 0,8,20⟩),(359,⟨.st (chD (.int .u8 0) 64),.int .u8 0,1,65⟩),(366,⟨.st (chD (.int .u8 0) 255),.int .u8 0,1,256⟩),(368,⟨.st (.pr (.int .u8 0) (.int .u8 0)),.bool false,0,0⟩),(369,⟨.st (.pr (.st (.pr (.int .u8 0) (.int .u8 0))) (.pr (.st (.pr (.int .u8 0) (.int .u8 0))) (.pr (.st (.pr (.int .u8 0) (.int .u8 0))) (.pr (.st (.pr (.int .u8 0) (.int .u8 0))) (.pr (.st (.pr (.int .u8 0) (.int .u8 0))) (.pr (.st (.pr (.int .u8 0) (.int .u8 0))) (.pr (.st (.pr (.int .u8 0) (.int .u8 0))) (.pr (.st (.pr (.int .u8 0) (.int .u8 0))) (.pr (.st (.pr (.int .u8 0) (.int .u8 0))) (.pr (.st (.pr (.int .u8 0) (.int .u8 0))) (.pr (.st (.pr (.int .u8 0) (.int .u8 0))) (.pr (.st (.pr (.int .u8 0) (.int .u8 0))) (.pr (.st (.pr (.int .u8 0) (.int .u8 0))) (.pr (.st (.pr (.int .u8 0) (.int .u8 0))) (.pr (.st (.pr (.int .u8 0) (.int .u8 0))) (.st (.pr (.int .u8 0) (.int .u8 0)))))))))))))))))),.st (.pr (.int .u8 0) (.int .u8 0)),2,16⟩),(393,⟨.st (chD (.int .u8 0) 31),.int .u8 0,1,32⟩),(394,⟨.st (chD (.int .u8 0) 63),.int .u8 0,1,64⟩)]
def Yq3: List (Nat×TI):=Yq7++Yq6++Yq5++Yq4
theorem Xus: (Yq3.all λx=>tyB Tryz.prog x.1 x.2)=true:=by kernel_rfl
instance:Mx Tryz.prog:=⟨Checked.mixed Tryz.checked⟩
instance:Gb Tryz.prog:=⟨λW=>∀i,i<20->Fr W 1 i (.int .u64 ((10^i:Nat):Int)),λ_ _ l h i hi=>l _ _ _ (h i hi)⟩
instance:Tab Tryz.prog:=⟨Vm.look Yq3,λT i h=>(Ycv Xus T i h).1⟩
instance:Npr Tryz.prog:=⟨λT i h=>(Ycv Xus T i h).2⟩
end Go.Proofs.YtcmjannkbdflmaaGreatDoor
namespace Go.Vm
open Go Go.ChangeShapes Go.WideShapes Go.ChangeAt Go.RowKit
def Arg(P:Program)(t:TypeId)(r:D->Prop): Prop:=∀(W:World) (i:Nat) {H:Type} {enc:TypeId×Value->H} {h:Nat->Bool} {j:Bool} {v:Value} {d:DataW H} {p:List MemPlace},
 Value.okWide P W .any i t v->DataW.Trod enc P W 0 h j t v d p->∃x,r x/\AV.V (gw0 W) θe (.d x) v
theorem Xt3{P:Program}{t:TypeId}{fs:Array Field}{r:D->Prop}(B:P.underlying t=some (.struct fs))(hr:Reads P t r)(I:∀x,r x->x.ag=true): Arg P t r:=λW j _ _ _ _ v d p i h=>by
 unfold Value.okWide at i
 rw[B] at i
 obtain⟨cs,rfl,_⟩:=i
 obtain⟨o,h⟩:=h
 obtain⟨x,A,M⟩:=hr W h
 exact⟨x,A,cs.toList,M,by rw[show AV.ag (.d x)=true from I x A];simp[mkv]⟩
theorem Xyu{P:Program}{t:TypeId}{k:IntKind}{r:D->Prop}(B:P.underlying t=some (.int k))(hr:Reads P t r)(I:∀x,r x->x.ag=false): Arg P t r:=λW j _ _ _ _ v d p i h=>by
 obtain⟨z,rfl⟩:=okWide_int B i
 obtain⟨o,h⟩:=h
 obtain⟨x,A,M⟩:=hr W h
 exact⟨x,A,_,M,by rw[show AV.ag (.d x)=false from I x A];rfl⟩
inductive Args (P:Program):List TypeId->(List D->Prop)->Prop where
 | nil:Args P [] (·=[])
 | cons {t:TypeId} {ts:List TypeId} {r:D->Prop} {R:List D->Prop} (h:Arg P t r) (hc:P.readableRec t=true) (hl:t<P.types.size) (k:Args P ts R):Args P (t::ts) λds=>∃x xs,ds=x::xs/\r x/\R xs
theorem Args.read{P:Program}{o:List TypeId}{R:List D->Prop}(ha:Args P o R){W:World}{i:Nat}{H:Type}{enc:TypeId×Value->H}{spare:Nat->Bool}{held:Bool}: ∀ {vs:List Value} {A:List (DataW H)} {p:List MemPlace},
 (∀(j:Nat) t v,o[j]?=some t->vs[j]?=some v->Value.okWide P W .any i t v)->DataW.TrodAll enc P W 0 spare held o vs A p->∃xs,R xs/\Xjg (gw0 W) θe (xs.map .d) vs:=by
 induction ha with
 | nil=>intro vs A p _ h;obtain⟨rfl,_⟩:=trodAll_nil h;exact⟨[],rfl,trivial⟩
 | cons h hc hl k I =>
  intro vs A p B M
  obtain⟨v,vs,d,O,p,q,rfl,rfl,rfl,hd,Q⟩:=trodAll_cons M
  obtain⟨x,T,U⟩:=h W i (B 0 _ v rfl rfl) hd
  obtain⟨xs,V,Y⟩:=I (λj t v Z h6=>B (j+1) t v Z h6) Q
  exact⟨x::xs,⟨x,xs,rfl,T,V⟩,U,Y⟩
theorem Args.stay{P:Program}(M:laidOutB P=true){A:List TypeId}{R:List D->Prop}(ha:Args P A R){W W':World}{H:Type}{enc:TypeId×Value->H}{i:Nat->Bool}(hb:Below W.heap.size W W'): ∀ {vs:List Value} {o:List (DataW H)} {p:List MemPlace},
 (∀x∈p,x.block<W.heap.size)->(∀x∈p,i x.block=true)->DataW.TrodAll enc P W 0 (λ_=>true) true A vs o p->DataW.TrodAll enc P W' 0 i true A vs o p:=by
 induction ha with
 | nil=>intro vs o p _ _ h;obtain⟨rfl,rfl,rfl⟩:=trodAll_nil h;rfl
 | cons h O Q k T =>
  intro vs o p B I U
  obtain⟨v,vs,d,V,p,q,rfl,rfl,rfl,hd,Y⟩:=trodAll_cons U
  exact⟨p,q,WideElems.Trod_stays M O Q hd (λx j=>hb.same (B x (by simp[j]))) (λx j=>I x (by simp[j])),T (λx j=>B x (by simp[j])) (λx j=>I x (by simp[j])) Y,rfl⟩
theorem Xlc{H:Type}{enc:TypeId×Value->H}{P:Program}{f:Func}{s:ChangeSpec}{Xcy O i Q:Bool}{W W':World}{args:Array Value}{v:Value}{T U:List (DataW H)}{h pa pv:List MemPlace}
 (Z:DataW.Whole enc P f.params.toList s.vars Xcy W args.toList T U h)
 (I:∀(b:Nat) (sp:Nat->Bool) (hd:Bool),DataW.TrodAll enc P W' b sp hd f.resultTypes.toList (v.resultList f.resultTypes.size) (s.fn H (T++U)).results [])
 (o:∀sp:Nat->Bool,(∀p∈h,sp p.block=true)->DataW.TrodAll enc P W' 0 sp true f.params.toList args.toList (s.fn H (T++U)).args pa)
 (A:∀sp:Nat->Bool,(∀p∈h,sp p.block=true)->DataW.TrodVars enc P W' sp s.vars (s.fn H (T++U)).vars pv)
 (B:h=pa++pv) (hb:Below W.heap.size W W')
 (hok:∀(j:Nat) (t:TypeId) (r:Value),f.resultTypes[j]?=some t->(v.resultList f.resultTypes.size)[j]?=some r->Value.okWide P W' .any 0 t r) :
 s.post enc P f Xcy O i Q W args v W':=by
 have V:=Z.lt
 have M:∀p∈h,(λb=>decide (b<W.heap.size)) p.block=true:=λp hp=>by simpa using V p hp
 refine⟨T,U,h,[],pa,pv,Z,I _ _ _,o _ M,A _ M,World.keptBut_mono (λp hp=>⟨hp,?_⟩) (hb.frame (·∈h)),λ_=>?_⟩
 . rw[B,W2c] at hp
   exact Or.inr hp
 . obtain⟨_,_,_,_,_,hz,hn⟩:=Z
   refine⟨hok,_,_,([]++pa)++pv,⟨[]++pa,pv,trodAll_append (o _ (λ_ _=>rfl)) (I _ _ _),A _ (λ_ _=>rfl),rfl,?_,?_⟩,?_⟩
   . intro b off hp
     have Y:MemPlace.cell b off∈h:=by rw[B];simpa using hp
     rw[hb.frozen (V _ Y)]
     exact hz b off Y
   . intro ha
     have:=hn ha
     rw[B] at this
     simpa using this
   . intro p hp _
     rw[B]
     simpa using hp
theorem Yri{P:Program}[gb:Gb P](hP:laidOutB P=true){tB:TypeId}(hB:P.underlying tB=some .bool){f:FuncId}{fn:Func}{s:ChangeSpec}{H:Type}{enc:TypeId×Value->H}{R:List D->Prop}(hp:Args P fn.params.toList R)(hr:fn.resultTypes=#[tB])(B:s.vars=[])
 (hs:∀i:List (DataW H),i.length=fn.params.size->s.fn H i={ results:=[.lit (.bool true)],args:=i })
 (V:∀xs,R xs->C P f (xs.map .d) (·=.b true))
 (W:World) (I:Nat) (args:Array Value) (i gs:List (DataW H)) (o:List MemPlace)
 (M:∀(j:Nat) t v,fn.params[j]?=some t->args[j]?=some v->Value.okWide P W .any I t v)
 (U:DataW.Whole enc P fn.params.toList s.vars false W args.toList i gs o) (Y:gb.g (gw0 W)) :
 Calls P f args W λe W'=>∃v,e=.returned v/\s.post enc P fn false true false false W args v W':=by
 have Z:=U
 have hlt:=U.lt
 rw[B] at U
 obtain⟨p,q,hA,hV,rfl,hfz,hnd⟩:=U
 obtain⟨rfl,rfl⟩:=trodVars_none hV
 obtain⟨xs,h1,h2⟩:=hp.read (λj t v ht hv=>M j t v (by simpa using ht) (by simpa using hv)) hA
 have O:i.length=fn.params.size:=by
  have:∀ {sp:Nat->Bool} {hd:Bool} {Q:List TypeId} {vs:List Value} {i:List (DataW H)} {p:List MemPlace},DataW.TrodAll enc P W 0 sp hd Q vs i p->i.length=Q.length:=by
   intro sp hd Q
   induction Q with
   | nil=>intro vs i p h;obtain⟨_,rfl,_⟩:=trodAll_nil h;rfl
   | cons t Q ih=>intro vs i p h;obtain⟨_,_,_,_,_,_,_,rfl,_,_,h⟩:=trodAll_cons h;simp[ih h]
  rw[this hA];simp
 have A:s.fn H (i++[])={ results:=[.lit (.bool true)],args:=i }:=by rw[W3f];exact hs i O
 have hc:=(V xs h1).2 (gw0 W) args.toList Y h2
 rw[show args.toList.toArray=args by simp] at hc
 refine hc.mono ?_
 rintro e w' ⟨W1,v1,u,rfl,rfl,T,hv,_,rfl⟩
 have hb:Below W.heap.size W W1.w:=⟨T.os,T.tape,T.out,T.size,λk hk=>T.same k hk id⟩
 have hu:u=.bool true:=by
  obtain⟨cs,h3,h4⟩:=hv
  have h3:cs=[.bool true]:=h3
  rw[h4,h3];rfl
 subst hu
 refine⟨_,rfl,Xlc (pa:=p) (pv:=[]) Z (λ_ _ _=>?_) (λsp hsp=>?_) (λ_ _=>?_) (by simp) hb (ok_one hr rfl (okWide_bool_mk hB _))⟩
 . rw[hr,A]
   exact trodAll_mk1 (shut_bool hB _)
 . rw[A]
   exact hp.stay hP hb (λx hx=>hlt x (by simpa using hx)) (λx hx=>hsp x (by simpa using hx)) hA
 . rw[B,A];rfl
theorem Ya8{P:Program}{f:FuncId}{fn:Func}{s:ChangeSpec}{c:OpenClaim}
 (B:(c.wf (OpenSpec.ofChange s)&&laidOutB P&&mapsRowed P)=true)
 (i:(fn.params.all (P.readableRec ·)&&namedTie P c.named s.vars&&(c.stops == [])&&(P.stops == [])&&(c.knobs == [])&&(P.stopKnobs == []))=true)
 (I:(c.inPlace==P.inPlace f)=true) (M:(c.unfollowed==P.unfollowed f)=true) (O:(c.recurses==P.recurses f)=true) (Q:(c.named==P.varsNamed f)=true)
 (o:((c.maps==(fn.params.toList++s.plain.varTypes P).any (P.mapsRec ·))&&(c.ifaces==(fn.params.toList++s.plain.varTypes P).any (P.ifacesRec ·))&&(c.mapsOut==P.mapsAmong fn.resultTypes.toList) &&
  (c.loops==(fn.params.toList++s.plain.varTypes P).any (P.loopsFrom ·))&&(c.wideKeys==(fn.params.toList++s.plain.varTypes P++fn.resultTypes.toList).any (P.wideKeysFrom ·)))=true)
 (h:(s.vars.all (P.varReadable ·)&&fn.resultTypes.all (λt=>P.readableRec t&&decide (t<P.types.size))&&(c.ifacesOut==fn.resultTypes.toList.any (P.ifacesRec ·))&&(c.loopsOut==fn.resultTypes.toList.any (P.loopsFrom ·))&&(c.plainKeys==P.plainKeys)&&c.shortTexts.isNone&&P.stopsHeard&&P.mayEnter)=true)
 (A:((c.lifted==P.liftsFinal)&&(P.make==some c.make)&&(c.kinds==(if c.domain.isEmpty then [] else fn.params.toList.map λt=>match P.underlying t with | some (.int k)=>some k | _=>none))&&(c.pinned==c.pinnedBy))=true)
 (j:((c.veiled==(fn.params.toList++s.plain.varTypes P++fn.resultTypes.toList).any (P.veiledRec ·))&&c.veiledFits P fn.params.toList (fn.params.toList++s.plain.varTypes P++fn.resultTypes.toList))=true):joinedFacts P f fn s c=true:=by
 unfold joinedFacts
 rw[W0h] at j
 simp only[W0h] at B i o h A |-
 exact⟨⟨⟨⟨⟨⟨⟨⟨⟨⟨⟨⟨⟨⟨⟨⟨⟨⟨⟨⟨⟨⟨⟨⟨⟨⟨⟨⟨⟨⟨⟨B.1.1,B.1.2⟩,B.2⟩,i.1.1.1.1.1⟩,i.1.1.1.1.2⟩,i.1.1.1.2⟩,i.1.1.2⟩,i.1.2⟩,i.2⟩,I⟩,M⟩,O⟩,Q⟩,o.1.1.1.1⟩,o.1.1.1.2⟩,o.1.1.2⟩,o.1.2⟩,o.2⟩,h.1.1.1.1.1.1.1⟩,h.1.1.1.1.1.1.2⟩,h.1.1.1.1.1.2⟩,h.1.1.1.1.2⟩,h.1.1.1.2⟩,h.1.1.2⟩,h.1.2⟩,h.2⟩,A.1.1.1⟩,A.1.1.2⟩,A.1.2⟩,A.2⟩,j.1⟩,j.2⟩
end Go.Vm
namespace Go.Proofs.YtcmjannkbdflmaaGreatDoor
open Go Go.Vm Go.Num
theorem own: ownKnob Tryz.prog.godebug=none:=by kernel_rfl
theorem Yge: laidOutB Tryz.prog=true:=by kernel_rfl
end Go.Proofs.YtcmjannkbdflmaaGreatDoor
namespace Go.Vm
open Go
section
section
variable{c:Cx}{s:St}
noncomputable def nxT(tb:Nat->Option TI)(n:Nat)(id:Option Nat)(s:St): Option (List (Nat×Bool)×Code×List Kt×Env×Hpl):=match (match id with
 | some id=>runT tb n id 1000 s
 | none=>runN tb n 1000 s) with
 | .j G (.c x::K) E H=>some (G,x,K,E,H)
 | _=>none
def AtJ{α:Type}(E':α->Env)(H':α->Hpl)(I:α->Prop)(s:S): Prop:=∃x,s=sem (E' x) (H' x)/\I x
theorem Cu{α:Type}(id:Option Nat)(E':α->Env)(H':α->Hpl)(I:α->Prop){G:List (Nat×Bool)}{x:Code}{K:List Kt}{E:Env}{H:Hpl}(h:nxT c.tb c.n id s=some (G,x,K,E,H))
 (A:StP c (.j G (.c x::.l (AtJ E' H' I)::K) E H)) (B:∀y,I y->StP c (.j [] K (E' y) (H' y))):StP c s:=by
 have i:StP c (.j G (.c x::K) E H):=J.cut (AtJ E' H' I) A (λs hs=>by obtain⟨y,rfl,M⟩:=hs;exact B y M)
 unfold nxT at h
 cases id with
 | none =>
  simp only at h
  split at h<;>cases h
  rename_i o
  exact go 1000 o i
 | some id =>
  simp only at h
  split at h<;>cases h
  rename_i o
  exact Xgi 1000 (by rw[o];exact i)
theorem Jn{α:Type}{E':α->Env}{H':α->Hpl}{I:α->Prop}{K:List Kt}{E:Env}{H:Hpl}(x:α)(r:List (Nat×Nat))(h:nxB c.tb c.n s=some (AtJ E' H' I,K,E,H))(i:I x)(hf:Yns r E (E' x) H (H' x):=by exact⟨rfl,rfl,rfl,rfl,rfl⟩): StP c s:=by
 unfold nxB at h
 split at h<;>cases h
 rename_i j
 exact go 1000 j (Yoz hf (J.at' ⟨x,rfl,i⟩))
end
end
section
def Xof(θ:Loc)(H0:Hpl)(b:Nat): Prop:=∃o x,look H0 o=some x/\x.live=true/\(θ o).1=some b
def okH(H0 H':Hpl): Bool:=(H0.all λx=>Xcd H' x.1)&&H'.all λx=>Xcd H0 x.1||Nat.beq x.1 1000000
def Ynq(W0:GW)(θ0:Loc)(H0:Hpl)(Post:AV->Hpl->Prop)(e:Ending)(w':World): Prop :=
 ∃W' h v u H',e=.returned u/\W'.w=w'/\Fm W0 W' (Xof θ0 H0)/\Obs W' h (λb=>W0.size<=b\/Xof θ0 H0 b) (look H')/\AV.V W' h v u/\(∀i,v.ids i->∃y,look H' i=some y)/\(∀i y,look H0 i=some y->h i=θ0 i)/\okH H0 H'=true/\Post v H'
def CW(P:Program)[Gb P](f:FuncId)(args:List AV)(H0:Hpl)(Post:AV->Hpl->Prop): Prop:=Ypp P f/\∀W θ h,Gb.g P W->Obs W θ (λ_=>True) (look H0)->Xjg W θ args h->Calls P f h.toArray W.w (Ynq W θ H0 Post)
theorem Ynh{α:Type _}{H:List (Nat×α)}{i:Nat}: Xcd H i=true↔∃y,look H i=some y:=by
 unfold Xcd;split
 . rename_i y h;simp[h]
 . rename_i h;simp[h]
theorem Xbk{α:Type _}{H:List (Nat×α)}{i:Nat}(h:Xcd H i=false): look H i=none:=by
 unfold Xcd at h;split at h<;>first | assumption | cases h
theorem Xyw{W:GW}{θ:Loc}: ∀ {asx:List AV} {vs:List Value} {i t:Nat} {v:AV},Xjg W θ asx vs->Yb5 i asx t=some v->i<=t/\∃u,vs[t-i]?=some u/\AV.V W θ v u
 | [],[],i,t,v,_,h=>by simp[Yb5] at h
 | a::asx,u::vs,i,t,v,ha,h=>by
  rcases Xae h with ⟨o,j⟩ | ⟨o,j⟩
  . subst o;subst j;exact⟨W0c _,u,by simp,ha.1⟩
  . obtain⟨I,w,A,B⟩:=Xyw ha.2 j
    exact⟨by omega,w,by rw[show t-i=(t-(i+1))+1 by omega];simpa using A,B⟩
 | [],_::_,_,_,_,h,_=>h.elim
 | _::_,[],_,_,_,h,_=>h.elim
abbrev cxW(P:Program)(gb:Gb P)(t:Tab P)(m:Mx P)(i:∀T ti,t.tb T=some ti->∀a c,ti.z≠.pr a c)(n:Nat)(j:n<=1000000)(fn:Func)(W:GW)(θ:Loc)(H0:Hpl)(Post:AV->Hpl->Prop)(o:gb.g W): Cx:=⟨P,gb,t.tb,λT ti h=>⟨t.ok T ti h,i T ti h⟩,m,n,j,W,Xof θ H0,θ,bodyPost P fn (Ynq W θ H0 Post),o⟩
class WkW (c:Cx) (fn:outParam Func) (H0:outParam Hpl) (Post:outParam (AV->Hpl->Prop)):Prop where
 x:c.X=Xof c.θ0 H0
 f:c.fin=bodyPost c.P fn (Ynq c.W0 c.θ0 H0 Post)
instance {P gb t m h n i fn W θ H0 Post j}:WkW (cxW P gb t m h n i fn W θ H0 Post j) fn H0 Post:=⟨rfl,rfl⟩
theorem EnW {P : Program} [gb : Gb P] [t : Tab P] [hp : Npr P] [m : Mx P] {f n : Nat} {fn : Func} {x : Code} {args : List AV} {H0 : Hpl} {Post : AV → Hpl → Prop} (hf : P.funcs[f]? = some fn) (h : ∀ W θ hg hn, StP (cxW P gb t m hp.h n hn fn W θ H0 Post hg) (.j [] [.c x] (Yik 0 args) H0)) (hname : (fn.name == "runtime.NumGoroutine") = false := by exact rfl) (hb : fn.body = some x := by exact rfl)
 (hN:fn.ntmps=n:=by exact rfl) (hl:(Nat.ble args.length n&&Nat.ble n 1000000&&Xoa (Yik 0 args) H0)=true:=by exact rfl):CW P f args H0 Post:=by
 refine⟨⟨fn,hf,hname,by rw[hb];rfl⟩,λW θ vs hg hO ha=>calls_of_wp hf hb ?_⟩
 simp only[W0h] at hl
 obtain⟨⟨hl1,hl2⟩,hl3⟩:=hl
 have hl1:=W1t hl1
 have hlen:=ha.len
 have hc:=Xn9 hl3
 have h1:J _ _ (sem _ _):=h W θ hg (W1t hl2)
 refine wp_mono (h1 _ W.w ⟨_,W,θ,rfl,⟨Fm.refl W _,⟨rfl,by simp[hN];omega,λt v ht=>?_⟩,⟨hO.r,λo x b h1 h2 h3=>.inr ⟨o,x,h1,h2,h3⟩,hO.dis,hO.ids⟩,hc.1⟩,λ_ _=>rfl,rfl⟩) λe a w h=>by cases e<;>exact h
 have ht:Yb5 0 args t=some v:=by rw[Xmd];exact ht
 obtain⟨_,u,h2,h3⟩:=Xyw ha ht
 rw[W7c] at h2
 have hlt:=Xbn h2
 rw[W0a hlt] at h2
 injection h2 with h2
 simp only[Array.getD]
 rw[dif_pos (by simp;omega)]
 simp[W6y,hlt,h2]
 exact h3
section
variable{c:Cx}{s:St}{p:Pl}
theorem Yfh{W0:GW}{X:Nat->Prop}{n:Nat}{E:Env}{H:Hpl}{a:Act}{W:GW}{θ:Loc}{o M:Nat}(I:look H M=none)(hs:Sat W0 X n (sem E H) a W θ): Sat W0 X n (sem (Yfi o M E) (Xvn o M H)) a W (rnθ o M θ):=by
 have B:∀ {i y},look H i=some y->i≠M:=λh e=>by rw[e,I] at h;cases h
 have V:∀ {v:AV},(∀i,v.ids i->∃y,look H i=some y)->¬v.ids M:=λh hi=>by obtain⟨y,hy⟩:=h M hi;rw[I] at hy;cases hy
 refine⟨hs.fm,⟨hs.rel.defers,hs.rel.size,λt v Y=>?_⟩,⟨λi x Q=>?_,λi x b Q Z hb=>?_,λi j x x' b Q hx' Z hl' A T=>?_,λi x q Q hq=>?_⟩,λt v i Y hi=>?_⟩
 . obtain⟨u,A,rfl⟩:=Xef Y
   exact Yjs (V λi hi=>hs.ids t u i A hi) (hs.rel.has t u A)
 . obtain⟨j,y,A,rfl,rfl⟩:=Xbj I Q
   exact Ydn (B A) (λhi=>by obtain⟨z,O⟩:=hs.obs.ids j y M A hi;have O:look H M=some z:=O;rw[I] at O;cases O) (hs.obs.r j y A)
 . obtain⟨j,y,A,rfl,rfl⟩:=Xbj I Q
   rw[Xa2 (B A)] at hb
   exact hs.obs.new j y b A (by cases y<;>first | rfl | cases Z) hb
 . obtain⟨q,y,k1,rfl,rfl⟩:=Xbj I Q
   obtain⟨q',y',U,rfl,rfl⟩:=Xbj I hx'
   rw[Xa2 (B k1)] at A
   rw[Xa2 (B U)] at T
   rw[hs.obs.dis q q' y y' b k1 U (by cases y<;>first | rfl | cases Z) (by cases y'<;>first | rfl | cases hl') A T]
 . obtain⟨j,y,A,rfl,rfl⟩:=Xbj I Q
   cases y with
   | var a =>
    obtain⟨r,T,rfl⟩:=Xk5 (a:=a) hq
    obtain⟨z,O⟩:=hs.obs.ids j _ r A T
    exact Xcr I O
   | _=>exact hq.elim
 . obtain⟨u,A,rfl⟩:=Xef Y
   obtain⟨r,T,rfl⟩:=Xk5 hi
   obtain⟨z,O⟩:=hs.ids t u r A T
   exact Xcr I O
def okN: List (Nat×Nat)->Hpl->Bool
 | [],_=>true
 | (o,h)::r,H=>!Xcd H h&&okN r (Xvn o h H)
theorem Ydb{W0:GW}{X:Nat->Prop}{n:Nat}{a:Act}{W:GW}: ∀ {r:List (Nat×Nat)} {E:Env} {H:Hpl} {θ:Loc},okN r H=true->Sat W0 X n (sem E H) a W θ->∃θ',Sat W0 X n (sem (rnE r E) (rnH r H)) a W θ'/\∀i,Xcd (r.map λx=>(x.2,x.1)) i=false->θ' i=θ i
 | [],E,H,θ,_,hs=>⟨θ,hs,λ_ _=>rfl⟩
 | (o,A)::r,E,H,θ,h,hs=>by
  simp only[okN,W0h,W1u] at h
  obtain⟨θ',B,I⟩:=Ydb h.2 (Yfh (Xbk h.1) hs)
  refine⟨θ',B,λi hi=>?_⟩
  have j:Nat.beq i A=false/\Xcd (r.map λx=>(x.2,x.1)) i=false:=by
   simp only[Xcd,W3t,look] at hi |-
   cases e:Nat.beq i A with
   | true=>rw[e] at hi;cases hi
   | false=>rw[e] at hi;exact⟨rfl,hi⟩
  rw[I i j.2]
  unfold rnθ
  rw[if_neg λe=>by rw[e] at j;simp at j]
noncomputable def nxW(tb:Nat->Option TI)(n:Nat)(r:List (Nat×Nat))(h:List ResultVar)(s:St): Option (AV×Hpl):=match runN tb n 1000 s with
 | .j _ (.c .ret::_) E H=>match Xzb tb (sem (rnE r E) (rnH r H)) h with
  | some v=>some (v,H)
  | none=>none
 | .j _ [] E H=>match Xzb tb (sem (rnE r E) (rnH r H)) h with
  | some v=>some (v,H)
  | none=>none
 | _=>none
theorem Xsq{fn:Func}{H0 H':Hpl}{Post:AV->Hpl->Prop}(hX:c.X=Xof c.θ0 H0){E:Env}{H:Hpl}{r:List (Nat×Nat)}{v v':AV}(hr:Xzb c.tb (sem (rnE r E) (rnH r H)) fn.results.toList=some v)(hf:FitR (look (rnH r H)) H' v v')(hq:Post v' H')
 (hH:Xt9 (rnH r H) H') (Z:(okN r H&&okH H0 H'&&(H0.all λx=>Nat.ble 1000000 x.1 && !Xcd (r.map λx=>(x.2,x.1)) x.1)&&H'.all λx=>Xio H' x.2)=true) {a:Act} {w:World} (h:c.Nx (λs'=>s'=sem E H) a w) :
 a.defers=[]/\∃u,(results fn a.tmps).run c.P w=.ok u w/\Ynq c.W0 c.θ0 H0 Post (.returned u) w:=by
 obtain⟨s',W,θ,rfl,hs,hθ,rfl⟩:=h
 simp only[W0h] at Z
 obtain⟨⟨⟨k1,k2⟩,k3⟩,k4⟩:=Z
 obtain⟨Q,O,U⟩:=Ydb k1 hs
 obtain⟨u,hu,hv⟩:=Xrh c.hT O hr
 have B:=O.fm
 have j:=O.obs
 refine⟨O.rel.defers,u,hu,?_⟩
 have I:∀ {o x},look H' o=some x->look (rnH r H) o=some x:=λh=>Xkx hH h
 let W':GW:=⟨W.w,λb i=>W.A b i/\((b<c.W0.size/\¬c.X b)\/∃o x,look H' o=some x/\x.live=true/\(Q o).1=some b),λb i h=>W.hA b i h.1⟩
 have T:LeF W W':=λb i x M=>⟨M.1,λV=>M.2 V.1⟩
 have E:Exi W W' (λb=>c.W0.size<=b\/c.X b) Q (look (rnH r H)) H':=⟨j,T,λo x b ho hl hb Z i y hy=>⟨hy,λV=>by
  rcases V.2 with ⟨Y,h2⟩ | ⟨o2,x2,Y,h2,h3⟩
  . exact(j.new o x b ho hl hb).elim (λh=>absurd Y (W6j.2 h)) h2
  . have:=j.dis o o2 x x2 b ho (I Y) hl h2 hb h3
    subst this
    rw[Xbk Z] at Y;cases Y⟩⟩
 obtain⟨f1,f2⟩:=Ygs E hf hv
 refine⟨W',Q,v',u,H',rfl,rfl,?_,?_,f1,f2,λi y hi=>?_,k2,hq⟩
 . rw[<-hX]
   exact⟨B.os,B.out,B.tape,B.size,B.same,λb hb M i=>⟨λh=>(B.A b hb M i).1 h.1,λh=>⟨(B.A b hb M i).2 h,.inl ⟨hb,M⟩⟩⟩,B.le.trans T⟩
 . rw[<-hX]
   refine⟨λo x M=>(j.r o x (I M)).keep T rfl (λ_ _=>rfl) λhl b hb=>⟨rfl,λi V=>⟨V,.inr ⟨o,x,M,hl,hb⟩⟩⟩,λo x b M=>j.new o x b (I M),λo o' x x' b M hx'=>j.dis o o' x x' b (I M) (I hx'),λo x i M hi=>?_⟩
   have:=W1q.1 k4 _ (Xbc M)
   cases x with
   | var a=>exact Xf1 (a:=a) this i hi
   | _=>exact hi.elim
 . have:=W1q.1 k3 _ (Xbc hi)
   simp only[W0h,W1u] at this
   rw[U i this.2]
   exact hθ i (W1t this.1)
theorem Rw{fn:Func}{H0:Hpl}{Post:AV->Hpl->Prop}[w:WkW c fn H0 Post](r:List (Nat×Nat))(H':Hpl){v o:AV}{H:Hpl}(h:nxW c.tb c.n r fn.results.toList s=some (v,H))(hf:FitR (look (rnH r H)) H' v o)(hq:Post o H')
 (A:Xt9 (rnH r H) H':=by exact rfl) (B:(okN r H&&okH H0 H'&&(H0.all λx=>Nat.ble 1000000 x.1 && !Xcd (r.map λx=>(x.2,x.1)) x.1)&&H'.all λx=>Xio H' x.2)=true:=by exact rfl):StP c s:=by
 unfold nxW at h
 split at h<;>try cases h
 . rename_i i
   split at h<;>cases h
   rename_i j
   exact go 1000 i (J.ret λa I h=>by rw[w.f];exact Xsq w.x j hf hq A B h)
 . rename_i i
   split at h<;>cases h
   rename_i j
   exact go 1000 i (λa I h=>by show c.fin .normal a I;rw[w.f];exact Xsq w.x j hf hq A B h)
end
def AV.rnf(ρ:Nat->Nat): AV->AV
 | .st a=>.st (a.rnf ρ)
 | .pr a c=>.pr (a.rnf ρ) (c.rnf ρ)
 | .tup a=>.tup (a.rnf ρ)
 | .fm f a=>.fm f (a.rnf ρ)
 | .ptr i f=>.ptr (ρ i) f
 | .own i sz l n=>.own (ρ i) sz l n
 | .ow3 i sz l n=>.ow3 (ρ i) sz l n
 | .gr i sz xs=>.gr (ρ i) sz xs
 | .el i sz j f=>.el (ρ i) sz j f
 | .fn f i=>.fn f (ρ i)
 | .ap i n=>.ap (ρ i) n
 | a=>a
def Ob.rnf(ρ:Nat->Nat): Ob->Ob
 | .var a=>.var (a.rnf ρ)
 | x=>x
def rnL: List (Nat×Nat)->Nat->Nat
 | [],i=>i
 | (o,h)::r,i=>match Nat.beq i o with
  | true=>h
  | false=>rnL r i
def rfH(ρ:Nat->Nat)(H:Hpl): Hpl:=H.map λx=>(ρ x.1,x.2.rnf ρ)
theorem Yjo{W:GW}{θ:Loc}{ρ:Nat->Nat}: ∀ {a:AV} {cs:List Value},AV.C W θ (a.rnf ρ) cs↔AV.C W (λi=>θ (ρ i)) a cs:=by
 intro a
 induction a with
 | st a h=>exact h
 | pr a c j o=>intro cs;simp only[AV.rnf,AV.C,j,o]
 | fm f a h=>intro cs;simp only[AV.rnf,AV.C,h]
 | _=>intro cs;exact W4f
theorem Yjn{ρ:Nat->Nat}(a:AV): (a.rnf ρ).ag=a.ag:=by cases a<;>rfl
theorem Xvl{W:GW}{θ:Loc}{ρ:Nat->Nat}{a:AV}{v:Value}: AV.V1 W θ (a.rnf ρ) v↔AV.V1 W (λi=>θ (ρ i)) a v:=by
 unfold AV.V1;simp only[Yjo,Yjn]
theorem Yod{W:GW}{θ:Loc}{ρ:Nat->Nat}: ∀ {a:AV} {vs:List Value},AV.T W θ (a.rnf ρ) vs↔AV.T W (λi=>θ (ρ i)) a vs:=by
 intro a
 induction a with
 | pr a c _ j =>
  intro vs
  match vs with
  | v::vs=>simp only[AV.rnf,AV.T,Xvl,j]
  | []=>exact W4f
 | un =>
  intro vs
  match vs with
  | []=>exact W4f
  | [v]=>exact⟨λ⟨_,h,_⟩=>h.elim,λ⟨_,h,_⟩=>h.elim⟩
  | _::_::_=>exact W4f
 | _ =>
  intro vs
  match vs with
  | []=>exact W4f
  | [v]=>exact Xvl
  | _::_::_=>exact W4f
theorem Yq9{W:GW}{θ:Loc}{ρ:Nat->Nat}{a:AV}{v:Value}: AV.V W θ (a.rnf ρ) v↔AV.V W (λi=>θ (ρ i)) a v:=by
 cases a with
 | tup a=>simp only[AV.rnf,AV.V,Yod]
 | un=>exact W4f
 | _=>exact Xvl
theorem Yoc{ρ:Nat->Nat}{i:Nat}: ∀ {a:AV},(a.rnf ρ).ids i↔∃j,a.ids j/\i=ρ j:=by
 intro a
 induction a with
 | st a I=>exact I
 | tup a I=>exact I
 | fm f a I=>exact I
 | pr a c M O =>
  simp only[AV.rnf,AV.ids,M,O]
  exact⟨λh=>h.elim (λ⟨j,B,A⟩=>⟨j,.inl B,A⟩) λ⟨j,B,A⟩=>⟨j,.inr B,A⟩,λ⟨j,B,A⟩=>B.elim (λh=>.inl ⟨j,h,A⟩) λh=>.inr ⟨j,h,A⟩⟩
 | ptr o f=>exact⟨λh=>⟨o,rfl,h⟩,λ⟨j,B,A⟩=>by rw[show j=o from B] at A;exact A⟩
 | own o _ _ _=>exact⟨λh=>⟨o,rfl,h⟩,λ⟨j,B,A⟩=>by rw[show j=o from B] at A;exact A⟩
 | ow3 o _ _ _=>exact⟨λh=>⟨o,rfl,h⟩,λ⟨j,B,A⟩=>by rw[show j=o from B] at A;exact A⟩
 | gr o _ _=>exact⟨λh=>⟨o,rfl,h⟩,λ⟨j,B,A⟩=>by rw[show j=o from B] at A;exact A⟩
 | el o _ _ _=>exact⟨λh=>⟨o,rfl,h⟩,λ⟨j,B,A⟩=>by rw[show j=o from B] at A;exact A⟩
 | fn _ o=>exact⟨λh=>⟨o,rfl,h⟩,λ⟨j,B,A⟩=>by rw[show j=o from B] at A;exact A⟩
 | ap o _=>exact⟨λh=>⟨o,rfl,h⟩,λ⟨j,B,A⟩=>by rw[show j=o from B] at A;exact A⟩
 | _=>exact⟨λh=>h.elim,λ⟨j,h,_⟩=>h.elim⟩
theorem Yra{W:GW}{θ:Loc}{ρ:Nat->Nat}{o:Nat}{x:Ob}: (x.rnf ρ).R W θ (ρ o)↔x.R W (λi=>θ (ρ i)) o:=by
 cases x with
 | var a=>simp only[Ob.rnf,Ob.R,Yjo]
 | _=>exact W4f
theorem Xdu{ρ:Nat->Nat}(x:Ob): (x.rnf ρ).live=x.live:=by cases x<;>rfl
theorem Xsc{ρ:Nat->Nat}: ∀ {H:Hpl} {j:Nat} {x:Ob},(∀a b,Xcd H a=true->Xcd H b=true->ρ a=ρ b->a=b)->look (rfH ρ H) j=some x->∃i y,look H i=some y/\j=ρ i/\x=y.rnf ρ
 | [],_,_,_,h=>by simp[rfH,look] at h
 | (s,w)::H,j,x,hi,h=>by
  simp only[rfH,W3t,look] at h
  split at h
  . rename_i hb
    injection h with h
    exact⟨s,w,by simp[look],W0g hb,h.symm⟩
  . rename_i hb
    have o:∀a,Xcd H a=true->Xcd ((s,w)::H) a=true:=λa ha=>by
     simp only[Xcd,look] at ha |-
     cases Nat.beq a s<;>first | exact ha | rfl
    obtain⟨i,y,B,A,I⟩:=Xsc (λa b ha hb=>hi a b (o a ha) (o b hb)) h
    refine⟨i,y,?_,A,I⟩
    have:i≠s:=λe=>by subst e;rw[A] at hb;simp at hb
    simp only[look,Ydt this];exact B
theorem Xcq{ρ:Nat->Nat}: ∀ {H:Hpl} {i:Nat} {y:Ob},look H i=some y->∃x,look (rfH ρ H) (ρ i)=some x
 | [],_,_,h=>by simp[look] at h
 | (s,w)::H,i,y,h=>by
  simp only[rfH,W3t,look]
  by_cases e:i=s
  . subst e;exact⟨w.rnf ρ,by simp⟩
  . simp only[look,Ydt e] at h
    obtain⟨x,j⟩:=Xcq h
    split
    . exact⟨_,rfl⟩
    . exact⟨x,j⟩
theorem Xdi{g:Hp}: ∀ {l:List (Nat×Ob)} {o:Nat},Xb1 g l o=match look l o with | some x=>some x | none=>g o
 | [],_=>rfl
 | (h,x)::l,o=>by
  simp only[Xb1,upd,look]
  cases Nat.beq o h with
  | true=>rfl
  | false=>exact Xdi
theorem Xrg{W:GW}{θ:Loc}{ρ:Nat->Nat}: ∀ {args:List AV} {vs:List Value},Xjg W θ (args.map (AV.rnf ρ)) vs->Xjg W (λi=>θ (ρ i)) args vs
 | [],[],_=>trivial
 | [],_::_,h=>h.elim
 | _::_,[],h=>h.elim
 | _::_,_::_,h=>⟨Yq9.1 h.1,Xrg h.2⟩
theorem CW.cs{P:Program}[Gb P]{f:FuncId}{args:List AV}{H0:Hpl}{Post:AV->Hpl->Prop}(h:CW P f args H0 Post)(r:List (Nat×Nat))(d:Nat){g:Hp}(hd:d<1000000)(hgd:g d=none)(hH:∀o x,look H0 o=some x->g (rnL r o)=some (x.rnf (rnL r)))(h0:Xcd H0 1000000=false)
 (hinj:∀a b,Xcd H0 a=true->Xcd H0 b=true->rnL r a=rnL r b->a=b) (hids:∀a∈args,Xdc H0 a=true) (hcl:(H0.all λx=>Xio H0 x.2)=true) :
 CS P f (args.map (AV.rnf (rnL r))) g λv g'=>∃v0 H',okH H0 H'=true/\Post v0 H'/\v=v0.rnf (rnL ((1000000,d)::r))/\g'=Xb1 g (rfH (rnL ((1000000,d)::r)) H'):=by
 refine⟨h.1,λN W θ vs hg hO hN _ ha=>?_⟩
 have hl:∀ {o x},look H0 o=some x->g (rnL r o)=some (x.rnf (rnL r)):=λh=>hH _ _ h
 have hO0:Obs W (λi=>θ (rnL r i)) (λ_=>True) (look H0):=by
  refine⟨λo x I=>Yra.1 (hO.r _ _ (hl I)),λ_ _ _ _ _ _=>trivial,λo o' x x' b I hx' k k' b1 b2=>?_,λo x i I hi=>?_⟩
  . exact hinj o o' (Ynh.2 ⟨x,I⟩) (Ynh.2 ⟨x',hx'⟩) (hO.dis _ _ _ _ b (hl I) (hl hx') (by rw[Xdu];exact k) (by rw[Xdu];exact k') b1 b2)
  . have:=W1q.1 hcl _ (Xbc I)
    cases x with
    | var a=>exact Xf1 (a:=a) this i hi
    | _=>exact hi.elim
 have ha0:Xjg W (λi=>θ (rnL r i)) args vs:=Xrg ha
 refine(h.2 W _ vs hg hO0 ha0).mono ?_
 rintro e w' ⟨W',θ',v,u,H',rfl,rfl,hf,hob,hv,hvi,hθ,hok,hp⟩
 have hok':=hok
 simp only[okH,W0h] at hok
 obtain⟨ok1,ok2⟩:=hok
 have hX:∀b,Xof (λi=>θ (rnL r i)) H0 b->b<W.size/\N b/\∃o x y,look H0 o=some y/\g (rnL r o)=some x/\x.live=true/\(θ (rnL r o)).1=some b:=by
  rintro b ⟨o,x,M,h2,h3⟩
  have B:(x.rnf (rnL r)).live=true:=by rw[Xdu];exact h2
  exact⟨hO.lt (hl M) B h3,hO.new _ _ b (hl M) B h3,o,_,x,M,hl M,B,h3⟩
 have hnd:∀ {i},Xcd H0 i=true->rnL ((1000000,d)::r) i=rnL r i:=by
  intro i hi
  have:i≠1000000:=λe=>by rw[e,h0] at hi;cases hi
  simp only[rnL,Ydt this]
 have hdn:rnL ((1000000,d)::r) 1000000=d:=by simp[rnL]
 have Y:∀ {i},Xcd H' i=true->Xcd H0 i=true\/i=1000000:=by
  intro i hi
  obtain⟨y,O⟩:=Ynh.1 hi
  have:=W1q.1 ok2 _ (Xbc O)
  rw[W4y] at this
  exact this.imp id W0g
 have hgo:∀ {i},Xcd H0 i=true->∃x,g (rnL r i)=some x:=λhi=>by obtain⟨y,O⟩:=Ynh.1 hi;exact⟨_,hl O⟩
 have hne:∀ {i},Xcd H0 i=true->rnL r i≠d:=λhi e=>by obtain⟨x,I⟩:=hgo hi;rw[e,hgd] at I;cases I
 have hinj':∀a b,Xcd H' a=true->Xcd H' b=true->rnL ((1000000,d)::r) a=rnL ((1000000,d)::r) b->a=b:=by
  intro a b ha hb hab
  rcases Y ha with M | M<;>rcases Y hb with h2 | h2
  . rw[hnd M,hnd h2] at hab;exact hinj a b M h2 hab
  . rw[hnd M,h2,hdn] at hab;exact absurd hab (hne M)
  . rw[hnd h2,M,hdn] at hab;exact absurd hab.symm (hne h2)
  . rw[M,h2]
 let θ2:Loc:=λi=>if i=d then θ' 1000000 else θ i
 have U:∀ {i},Xcd H' i=true->θ2 (rnL ((1000000,d)::r) i)=θ' i:=by
  intro i hi
  rcases Y hi with M | M
  . rw[hnd M]
    obtain⟨y,O⟩:=Ynh.1 M
    show (if _ then _ else _)=_
    rw[if_neg (hne M)]
    exact(hθ i y O).symm
  . rw[M,hdn];exact if_pos rfl
 have Q:∀ {o x},g o=some x->θ2 o=θ o:=λZ=>if_neg λe=>by rw[e,hgd] at Z;cases Z
 have hR':∀ {i y},look H' i=some y->(y.rnf (rnL ((1000000,d)::r))).R W' θ2 (rnL ((1000000,d)::r) i):=by
  intro i y O
  refine Yra.2 ((hob.r i y O).keep (LeF.refl W') (U (Ynh.2 ⟨y,O⟩)) (λj hj=>?_) λ_ _ _=>⟨rfl,λ_ h=>h⟩)
  obtain⟨z,hz⟩:=hob.ids i y j O hj
  exact U (Ynh.2 ⟨z,hz⟩)
 have T:∀ {o x},Xb1 g (rfH (rnL ((1000000,d)::r)) H') o=some x->(∃i y,look H' i=some y/\o=rnL ((1000000,d)::r) i/\x=y.rnf (rnL ((1000000,d)::r))) \/
  (g o=some x/\∀b,x.live=true->(θ o).1=some b->b<W.size/\¬Xof (λi=>θ (rnL r i)) H0 b):=by
  intro o x I
  rw[Xdi] at I
  split at I
  . rename_i y O
    injection I with I;subst I
    exact .inl (Xsc hinj' O)
  . rename_i hn
    refine .inr ⟨I,λb B hb=>⟨hO.lt I B hb,λhXb=>?_⟩⟩
    obtain⟨_,_,o1,x1,y1,M,h2,h3,h4⟩:=hX b hXb
    have:=hO.dis o _ x x1 b I h2 B h3 hb h4
    have hk:Xcd H' o1=true:=by
     have:=W1q.1 ok1 _ (Xbc M);exact this
    obtain⟨z,hz⟩:=Ynh.1 hk
    obtain⟨q,hq⟩:=Xcq (ρ:=rnL ((1000000,d)::r)) hz
    rw[hnd (Ynh.2 ⟨_,M⟩),<-this,hn] at hq
    cases hq
 have hblk:∀ {i y b},look H' i=some y->y.live=true->(θ2 (rnL ((1000000,d)::r) i)).1=some b->(W.size<=b\/Xof (λi=>θ (rnL r i)) H0 b):=by
  intro i y b O B hb
  rw[U (Ynh.2 ⟨y,O⟩)] at hb
  exact hob.new i y b O B hb
 refine⟨W',θ2,v.rnf (rnL ((1000000,d)::r)),u,_,rfl,rfl,?_,?_,λi hi=>?_,v,H',hok',hp,rfl,rfl⟩
 . exact {
    os:=hf.os,out:=hf.out,tape:=hf.tape,size:=hf.size
    same:=λb hb hN=>hf.same b hb λI=>hN (hX b I).2.1
    A:=λb hb hN=>hf.A b hb λI=>hN (hX b I).2.1
    le:=hf.le
    th:=λi y O=>Q O
    hi:=λi hi=>if_neg (by omega)
    obs:={
     r:=λo x I=>by
      rcases T I with ⟨i,y,O,rfl,rfl⟩ | ⟨Z,hb⟩
      . exact hR' O
      . refine(hO.r o x Z).keep hf.le (Q Z) (λi hi=>?_) λB b M=>?_
        . obtain⟨z,hz⟩:=hO.ids o x i Z hi
          exact Q hz
        . obtain⟨b1,b2⟩:=hb b B M
          exact⟨hf.same b b1 b2,λi hA=>(hf.A b b1 b2 i).2 hA⟩
     new:=λo x b I B hb=>by
      rcases T I with ⟨i,y,O,rfl,rfl⟩ | ⟨Z,_⟩
      . exact(hblk O (by rw[Xdu] at B;exact B) hb).elim (hN b) λh=>(hX b h).2.1
      . rw[Q Z] at hb;exact hO.new o x b Z B hb
     dis:=λo o' x x' b I hx' B V hb hb'=>by
      rcases T I with ⟨i,y,O,rfl,rfl⟩ | ⟨Z,M⟩<;>rcases T hx' with ⟨i',y',hy',rfl,rfl⟩ | ⟨ho',h1'⟩
      . rw[Xdu] at B V
        rw[U (Ynh.2 ⟨y,O⟩)] at hb
        rw[U (Ynh.2 ⟨y',hy'⟩)] at hb'
        rw[hob.dis i i' y y' b O hy' B V hb hb']
      . rw[Xdu] at B
        rw[Q ho'] at hb'
        obtain⟨b1,b2⟩:=h1' b V hb'
        exact((hblk O B hb).elim (λh=>absurd b1 (W6j.2 h)) b2).elim
      . rw[Xdu] at V
        rw[Q Z] at hb
        obtain⟨b1,b2⟩:=M b B hb
        exact((hblk hy' V hb').elim (λh=>absurd b1 (W6j.2 h)) b2).elim
      . rw[Q Z] at hb;rw[Q ho'] at hb'
        exact hO.dis o o' x x' b Z ho' B V hb hb'
     ids:=λo x i I hi=>by
      have fin:∀ {j},Xcd H' j=true->∃z,Xb1 g (rfH (rnL ((1000000,d)::r)) H') (rnL ((1000000,d)::r) j)=some z:=λhj=>by
       obtain⟨z,hz⟩:=Ynh.1 hj
       obtain⟨q,hq⟩:=Xcq (ρ:=rnL ((1000000,d)::r)) hz
       rw[Xdi,hq];exact⟨q,rfl⟩
      rcases T I with ⟨i',y,O,rfl,rfl⟩ | ⟨Z,_⟩
      . cases y with
        | var a =>
         obtain⟨j,M,rfl⟩:=Yoc.1 hi
         obtain⟨z,hz⟩:=hob.ids i' _ j O M
         exact fin (Ynh.2 ⟨z,hz⟩)
        | _=>exact hi.elim
      . obtain⟨z,hz⟩:=hO.ids o x i Z hi
        rw[Xdi]
        split
        . exact⟨_,rfl⟩
        . exact⟨z,hz⟩ }
    dom:=λi y O=>by
     rw[Xdi]
     split
     . exact⟨_,rfl⟩
     . exact⟨y,O⟩ }
 . refine Yq9.2 (hv.mono (LeF.refl W') λi hi=>?_)
   obtain⟨z,hz⟩:=hvi i hi
   exact U (Ynh.2 ⟨z,hz⟩)
 . obtain⟨j,M,rfl⟩:=Yoc.1 hi
   obtain⟨z,hz⟩:=hvi j M
   obtain⟨q,hq⟩:=Xcq (ρ:=rnL ((1000000,d)::r)) hz
   rw[Xdi,hq];exact⟨q,rfl⟩
end
section
noncomputable def nxK(tb:Nat->Option TI)(n:Nat)(s:St): Option (Pl×FuncId×List AV):=match nxO tb n s with
 | some (p,o)=>match o.op with
  | .call ⟨.value x,asx,h⟩=>match callee (look p.E) x,getEs (look p.E) asx.toList with
   | some (f,ex),some i=>some (p,f,Xjk tb h.toList i++ex)
   | _,_=>none
  | _=>none
 | none=>none
def Yrl(ρ:Nat->Nat)(H:Hpl): Bool:=H.all λx=>H.all λy=>Nat.beq x.1 y.1 || !Nat.beq (ρ x.1) (ρ y.1)
def Xuc(args:List AV)(H0:Hpl)(r:List (Nat×Nat))(d:Nat)(H:Hpl): Bool:=Nat.blt d 1000000 && !Xcd H d && !Xcd H0 1000000&&Yrl (rnL r) H0&&(args.all (Xdc H0))&&H0.all λx=>Xio H0 x.2
theorem Xr9{α:Type _}: ∀ {H:List (Nat×α)} {o:Nat} {x:α},(o,x)∈H->Xcd H o=true
 | [],_,_,h=>by cases h
 | (s,w)::H,o,x,h=>by
  simp only[Xcd,look]
  cases e:Nat.beq o s with
  | true=>rfl
  | false =>
   rcases W1h.1 h with h | h
   . injection h with i;subst i;simp at e
   . exact Xr9 h
section
variable{c:Cx}{s:St}{p:Pl}
theorem Xv5{f:FuncId}{asx:List AV}{R:S->Prop}(h:nxK c.tb c.n s=some (p,f,asx))(Y:R=WL c.P c.tb p.dr p.L (J c p.K) p.l)
 (k:∃o:Oper,p.d=o.dst/\match p.dr with
  | true=>∃j H0 Q,Cd c.P f asx o (look p.H) j H0 Q/\∀r,Nu j o r.2->Q r->R (aft (sem p.E p.H) o r)
  | false=>∃Post,CS c.P f asx (look p.H) Post/\∀v B,Post v B->R (S.put ((sem p.E p.H).1,B) o.dst v)):StP c s:=by
 subst Y
 unfold nxK at h
 split at h<;>try cases h
 rename_i p' o T
 obtain⟨Z,hd⟩:=Xv4 T
 split at h<;>try cases h
 rename_i x as' tys he
 split at h<;>cases h
 rename_i ex vs I hf
 obtain⟨U,i,k⟩:=k
 refine Xne T (.inl ⟨Z,?_⟩)
 unfold Wb
 rw[he]
 refine⟨_,_,_,hf,I,?_⟩
 rw[hd] at i
 have e1:∀r,aft (sem p.E p.H) U r=aft (sem p.E p.H) o r:=λr=>by unfold aft;rw[i]
 have V:∀j us,Nu j o us↔Nu j U us:=λj us=>by unfold Nu;rw[i]
 cases A:p.dr with
 | true =>
  rw[A] at k
  obtain⟨j,H0,Q,⟨M,O,k3⟩,k4⟩:=k
  refine⟨j,H0,Q,⟨by rw[i];exact M,O,by rw[i];intro g a b;simp only[V];exact k3 g a b⟩,λr hr hq=>by rw[<-e1];exact k4 r ((V _ _).1 hr) hq⟩
 | false =>
  rw[A] at k
  obtain⟨Post,M,O⟩:=k
  exact⟨_,Post,.inl rfl,M,λv B hv=>by rw[i];exact O v B hv⟩
theorem Xi9{f:FuncId}{args:List AV}{H0:Hpl}{Post:AV->Hpl->Prop}{r:List (Nat×Nat)}{d:Nat}{H:Hpl}(B:CW c.P f args H0 Post)(A:Xuc args H0 r d H=true){g:Hp}(i:g d=none)(I:∀o x,look H0 o=some x->g (rnL r o)=some (x.rnf (rnL r))):
 CS c.P f (args.map (AV.rnf (rnL r))) g λv g'=>∃v0 H',okH H0 H'=true/\Post v0 H'/\v=v0.rnf (rnL ((1000000,d)::r))/\g'=Xb1 g (rfH (rnL ((1000000,d)::r)) H'):=by
 simp only[Xuc,W0h,W1u] at A
 obtain⟨⟨⟨⟨⟨M,Z⟩,O⟩,Q⟩,T⟩,U⟩:=A
 refine B.cs r d (Xr4 M) i I O (λa b ha hb j=>?_) (λa ha=>W1q.1 T a ha) U
 obtain⟨x,V⟩:=Ynh.1 ha
 obtain⟨y,Y⟩:=Ynh.1 hb
 have:=W1q.1 (W1q.1 Q _ (Xbc V)) _ (Xbc Y)
 simp only[W4y,W1u] at this
 rcases this with h | h
 . exact W0g h
 . rw[j] at h;simp at h
theorem Xoz{H H0:Hpl}{ρ:Nat->Nat}(i:Xt9 H (rfH ρ H0)){o:Nat}{x:Ob}(h:look H0 o=some x): look H (ρ o)=some (x.rnf ρ):=by
 have j:(ρ o,x.rnf ρ)∈rfH ρ H0:=W3l.2 ⟨_,Xbc h,rfl⟩
 exact W6l.1 i _ j
theorem Cw{f:FuncId}{asx args:List AV}{H0:Hpl}{Post:AV->Hpl->Prop}(r:List (Nat×Nat))(h:nxK c.tb c.n s=some (p,f,asx))(hc:CW c.P f args H0 Post)(k:∀v H',okH H0 H'=true->Post v H'->p.nx' c (v.rnf (rnL ((1000000,p.d.getD 0)::r))) (rfH (rnL ((1000000,p.d.getD 0)::r)) H'))
 (hr:asx=args.map (AV.rnf (rnL r)):=by exact rfl) (hH:Xt9 p.H (rfH (rnL r) H0):=by exact rfl) (hk:(Xuc args H0 r (p.d.getD 0) p.H && !p.dr)=true:=by exact rfl):StP c s:=by
 rw[W0h,W1u] at hk
 obtain⟨hk,hdr⟩:=hk
 have hk':=hk
 simp only[Xuc,W0h,W1u] at hk'
 refine Xv5 h rfl ⟨⟨p.d, .move (.tmp 0), 0, "", #[], none⟩, rfl, ?_⟩
 rw[hdr,hr]
 refine⟨_,Xi9 hc hk (Xbk hk'.1.1.1.1.2) (λo x hx=>Xoz hH hx),?_⟩
 rintro v g' ⟨v0,H',h1,h2,rfl,rfl⟩
 have:=Pl.nx'_eq.1 (k v0 H' h1 h2)
 have:WL c.P c.tb p.dr p.L (J c p.K) p.l (sem (Xub p.E p.d _) (_++p.H)):=this
 rw[<-Xfb,hdr] at this
 exact this
theorem Xmo{g:Hp}: ∀ {l:List (Nat×Ob)},(∀o x,(o,x)∈l->g o=some x)->Xb1 g l=g
 | [],_=>rfl
 | (o,x)::l,h=>by
  rw[Xb1,Xmo λo x i=>h o x (W1b _ i)]
  funext t
  by_cases e:t=o
  . subst e;rw[Xai,h t x (W0v ..)]
  . rw[Xam e]
def CN(P:Program)[Gb P](f:FuncId)(args:List AV)(H0:Hpl)(Q:AV->Prop): Prop:=CW P f args H0 λv H'=>H'=H0/\Q v
theorem Xvm{H0:Hpl}{r:List (Nat×Nat)}{d:Nat}(h0:Xcd H0 1000000=false)(B:(H0.all λx=>Xio H0 x.2)=true): ∀o x,look H0 o=some x->(rnL ((1000000,d)::r) o,x.rnf (rnL ((1000000,d)::r)))=(rnL r o,x.rnf (rnL r)):=by
 have j:∀i,Xcd H0 i=true->rnL ((1000000,d)::r) i=rnL r i:=λi hi=>by
  have:i≠1000000:=λe=>by rw[e,h0] at hi;cases hi
  simp only[rnL,Ydt this]
 have Q:∀ {a:AV},Xdc H0 a=true->a.rnf (rnL ((1000000,d)::r))=a.rnf (rnL r):=by
  intro a
  induction a with
  | st a A=>intro h;simp only[AV.rnf];rw[A h]
  | tup a A=>intro h;simp only[AV.rnf];rw[A h]
  | fm f a A=>intro h;simp only[AV.rnf];rw[A h]
  | pr a c I M=>intro h;simp only[Xdc,W0h] at h;simp only[AV.rnf];rw[I h.1,M h.2]
  | _=>intro h;first | rfl | (simp only[AV.rnf];rw[j _ h])
 intro o x O
 rw[j o (Ynh.2 ⟨x,O⟩)]
 have:=W1q.1 B _ (Xbc O)
 cases x with
 | var a=>simp only[Ob.rnf];rw[Q this]
 | _=>rfl
theorem Cn{f:FuncId}{asx args:List AV}{H0:Hpl}{Q:AV->Prop}(r:List (Nat×Nat))(h:nxK c.tb c.n s=some (p,f,asx))(hc:CN c.P f args H0 Q)(k:∀v,Q v->p.nx c (v.rnf (rnL ((1000000,p.d.getD 0)::r))))
 (hr:asx=args.map (AV.rnf (rnL r)):=by exact rfl) (hH:Xt9 p.H (rfH (rnL r) H0):=by exact rfl) (hk:(Xuc args H0 r (p.d.getD 0) p.H&&H0.all λx=>asx.any λa=>Xcd (match a with | .ptr o _=>[(o,())] | .own o _ _ _=>[(o,())] | .gr o _ _=>[(o,())] | .fn _ o=>[(o,())] | .ap o _=>[(o,())] | _=>[]) (rnL r x.1))=true:=by exact rfl) (hd:(!p.dr||p.d.isSome)=true:=by exact rfl):StP c s:=by
 rw[W0h] at hk
 obtain⟨hk,hids⟩:=hk
 have hk':=hk
 simp only[Xuc,W0h,W1u] at hk'
 obtain⟨⟨⟨⟨⟨k1,k2⟩,k3⟩,k4⟩,k5⟩,k6⟩:=hk'
 have hsame:∀g:Hp,(∀o x,look H0 o=some x->g (rnL r o)=some (x.rnf (rnL r)))->Xb1 g (rfH (rnL ((1000000,p.d.getD 0)::r)) H0)=g:=λg hg=>Xmo λo x hm=>by
  obtain⟨⟨i,y⟩,hm1,e⟩:=W3l.1 hm
  injection e with e1 e2
  subst e1;subst e2
  have hy:∃z,look H0 i=some z:=by
   exact Ynh.1 (Xr9 hm1)
  obtain⟨z,hz⟩:=hy
  have hm2:=W6l.1 hH (rnL r i,y.rnf (rnL r)) (W3l.2 ⟨_,hm1,rfl⟩)
  have hz2:=Xoz hH hz
  rw[hz2] at hm2
  injection hm2 with hm2
  have h3:=Xvm (d:=p.d.getD 0) (r:=r) k3 k6 i z hz
  injection h3 with h3 h4
  show g (rnL _ i)=some (y.rnf _)
  rw[h3,hg i z hz,hm2]
  congr 1
  have hcl:Xio H0 y=true:=W1q.1 k6 _ hm1
  have hv:∀ {a:AV},Xdc H0 a=true->a.rnf (rnL ((1000000,p.d.getD 0)::r))=a.rnf (rnL r):=by
   intro a
   induction a with
   | st a ih=>intro h;simp only[AV.rnf];rw[ih h]
   | tup a ih=>intro h;simp only[AV.rnf];rw[ih h]
   | fm f a ih=>intro h;simp only[AV.rnf];rw[ih h]
   | pr a c iha ihc=>intro h;simp only[Xdc,W0h] at h;simp only[AV.rnf];rw[iha h.1,ihc h.2]
   | _ =>
    intro h
    first
     | rfl
     | (simp only[AV.rnf]
        congr 1
        obtain⟨q,hq⟩:=Ynh.1 h
        have:=Xvm (d:=p.d.getD 0) (r:=r) k3 k6 _ q hq
        injection this)
  cases y with
  | var a=>simp only[Ob.rnf];rw[hv hcl]
  | _=>rfl
 refine Xv5 h rfl ⟨⟨p.d, .move (.tmp 0), 0, "", #[], none⟩, rfl, ?_⟩
 have kk:∀v,Q v->WL c.P c.tb p.dr p.L (J c p.K) p.l (S.put (sem p.E p.H) p.d (v.rnf (rnL ((1000000,p.d.getD 0)::r)))):=λv hv=>by
  have:=Pl.nx_eq.1 (k v hv)
  have this:WL c.P c.tb p.dr p.L (J c p.K) p.l (sem (Xub p.E p.d _) p.H):=this
  rw[show S.put (sem p.E p.H) p.d _=sem (Xub p.E p.d _) p.H from Xfb p.E p.H [] p.d _]
  exact this
 have hH':∀o x,look H0 o=some x->look p.H (rnL r o)=some (x.rnf (rnL r)):=λo x hx=>Xoz hH hx
 generalize WL c.P c.tb p.dr p.L (J c p.K) p.l=R at kk |-
 rw[hr] at hids |-
 cases hdr:p.dr with
 | true =>
  obtain⟨dd,hdd⟩:=W2g.1 (show p.d.isSome=true by rw[hdr] at hd;exact hd)
  have hD:p.d.getD 0=dd:=by rw[hdd];rfl
  refine⟨true,look (rfH (rnL r) H0),λq=>q.2=[]/\∃v,Q v/\q.1=v.rnf (rnL ((1000000,p.d.getD 0)::r)),⟨λ_=>⟨dd,hdd,by rw[<-hD];exact Xbk k2⟩,λi y hi=>?_,λg hg hn=>?_⟩,λq _ ⟨hq,v,h1,h2⟩=>?_⟩
  . have hm:=Xbc hi
    refine⟨W6l.1 hH _ hm,?_⟩
    obtain⟨⟨j,z⟩,hm1,e⟩:=W3l.1 hm
    injection e with e1 e2
    have:=W1q.1 hids _ hm1
    obtain⟨a,ha,hk⟩:=List.any_eq_true.1 this
    refine⟨a,ha,?_⟩
    rw[<-e1]
    cases a<;>simp only[Xcd,look] at hk<;>first | (cases hk;done) | skip
    all_goals
     show rnL r j=_
     split at hk
     . rename_i hx
       split at hx
       . rename_i hb;exact W0g hb
       . cases hx
     . cases hk
  . have hg':∀o x,look H0 o=some x->g (rnL r o)=some (x.rnf (rnL r)):=λo x hx=>hg _ _ (by
     obtain⟨q,hq⟩:=Xcq (ρ:=rnL r) hx
     have h1:=W6l.1 hH _ (Xbc hq)
     rw[hH' o x hx] at h1
     rw[hq];exact h1.symm)
    have hgd:g (p.d.getD 0)=none:=by rw[hD];exact hn rfl dd hdd
    obtain⟨a1,a2⟩:=Xi9 hc hk hgd hg'
    refine⟨a1,λN W θ vs b0 b1 b2 b3 b4=>(a2 N W θ vs b0 b1 b2 b3 b4).mono ?_⟩
    rintro e w' ⟨W',θ',v,u,g',c1,c2,c3,c4,c5,v0,H',d1,⟨rfl,d2⟩,rfl,rfl⟩
    exact⟨W',θ',_,u,_,c1,c2,c3,c4,c5,[],.inl rfl,hsame g hg',rfl,v0,d2,rfl⟩
  . unfold aft;rw[hq,h2];exact kk v h1
 | false =>
  refine⟨_,Xi9 hc hk (Xbk k2) hH',?_⟩
  rintro v g' ⟨v0,H',h1,⟨rfl,h2⟩,rfl,rfl⟩
  rw[hsame _ hH']
  exact kk v0 h2
def CO(P:Program)[Gb P](f:FuncId)(args:List AV)(Q:AV->Ob->Prop): Prop:=CW P f args [] λv H'=>∃h,H'=[(1000000,h)]/\Q v h
theorem Co{f:FuncId}{asx:List AV}{Q:AV->Ob->Prop}(h:nxK c.tb c.n s=some (p,f,asx))(hc:CO c.P f asx Q)(k:∀v ob,Q v ob->p.nx' c (v.rnf (rnL [(1000000,p.d.getD 0)])) [(p.d.getD 0,ob.rnf (rnL [(1000000,p.d.getD 0)]))])
 (hk:(Xuc asx [] [] (p.d.getD 0) p.H&&p.d.isSome)=true:=by exact rfl):StP c s:=by
 rw[W0h] at hk
 obtain⟨hk,hd⟩:=hk
 have hk':=hk
 simp only[Xuc,W0h,W1u] at hk'
 obtain⟨⟨⟨⟨⟨k1,k2⟩,k3⟩,k4⟩,k5⟩,k6⟩:=hk'
 obtain⟨dd,hdd⟩:=W2g.1 hd
 have hD:p.d.getD 0=dd:=by rw[hdd];rfl
 have hid:∀ {a:AV},a.rnf (rnL [])=a:=by
  intro a
  induction a with
  | st a ih=>simp only[AV.rnf,ih]
  | tup a ih=>simp only[AV.rnf,ih]
  | fm f a ih=>simp only[AV.rnf,ih]
  | pr a c iha ihc=>simp only[AV.rnf,iha,ihc]
  | _=>rfl
 have hmap:asx.map (AV.rnf (rnL []))=asx:=by rw[show AV.rnf (rnL [])=id from funext λa=>hid,List.map_id]
 have hcs:∀ {g:Hp},g (p.d.getD 0)=none->CS c.P f asx g λv g'=>∃v0 ob,Q v0 ob/\v=v0.rnf (rnL [(1000000,p.d.getD 0)])/\g'=Xb1 g [(p.d.getD 0,ob.rnf (rnL [(1000000,p.d.getD 0)]))]:=by
  intro g hg
  obtain⟨a1,a2⟩:=Xi9 hc hk hg (λo x hx=>by simp[look] at hx)
  rw[hmap] at a2
  refine⟨a1,λN W θ vs b0 b1 b2 b3 b4=>(a2 N W θ vs b0 b1 b2 b3 b4).mono ?_⟩
  rintro e w' ⟨W',θ',v,u,g',c1,c2,c3,c4,c5,v0,H',d1,⟨ob,rfl,d2⟩,rfl,rfl⟩
  refine⟨W',θ',_,u,_,c1,c2,c3,c4,c5,v0,ob,d2,rfl,?_⟩
  simp[rfH,rnL]
 refine Xv5 h rfl ⟨⟨p.d, .move (.tmp 0), 0, "", #[], none⟩, rfl, ?_⟩
 have kk:∀v ob,Q v ob->WL c.P c.tb p.dr p.L (J c p.K) p.l (S.put ((sem p.E p.H).1,Xb1 (sem p.E p.H).2 [(p.d.getD 0,ob.rnf (rnL [(1000000,p.d.getD 0)]))]) p.d (v.rnf (rnL [(1000000,p.d.getD 0)]))):=λv ob hv=>by
  have:=Pl.nx'_eq.1 (k v ob hv)
  have this:WL c.P c.tb p.dr p.L (J c p.K) p.l (sem (Xub p.E p.d _) (_++p.H)):=this
  rw[Xfb]
  exact this
 generalize WL c.P c.tb p.dr p.L (J c p.K) p.l=R at kk |-
 cases p.dr with
 | true =>
  refine⟨true,λ_=>none,λq=>∃v ob,Q v ob/\q=(v.rnf (rnL [(1000000,p.d.getD 0)]),[(p.d.getD 0,ob.rnf (rnL [(1000000,p.d.getD 0)]))]),⟨λ_=>⟨dd,hdd,by rw[<-hD];exact Xbk k2⟩,λi y hi=>(nomatch hi),λg _ hn=>?_⟩,?_⟩
  . obtain⟨a1,a2⟩:=hcs (g:=g) (by rw[hD];exact hn rfl dd hdd)
    refine⟨a1,λN W θ vs b0 b1 b2 b3 b4=>(a2 N W θ vs b0 b1 b2 b3 b4).mono ?_⟩
    rintro e w' ⟨W',θ',v,u,g',c1,c2,c3,c4,c5,v0,ob,d1,rfl,rfl⟩
    exact⟨W',θ',_,u,_,c1,c2,c3,c4,c5,_,.inr ⟨rfl,dd,_,hdd,by rw[hD]⟩,rfl,v0,ob,d1,rfl⟩
  . rintro q _ ⟨v,ob,h1,rfl⟩
    exact kk v ob h1
 | false =>
  refine⟨_,hcs (Xbk k2),?_⟩
  rintro v g' ⟨v0,ob,h1,rfl,rfl⟩
  exact kk v0 ob h1
def CG(P:Program)[Gb P](f:FuncId)(args:List AV)(sz:Nat)(xs:List D): Prop:=CO P f args λv h=>v=.gr 1000000 sz xs/\h=.tok xs.length sz
theorem Cg{f:FuncId}{asx:List AV}{sz:Nat}{xs:List D}(h:nxK c.tb c.n s=some (p,f,asx))(i:CG c.P f asx sz xs)(k:p.nx' c (.gr (p.d.getD 0) sz xs) [(p.d.getD 0,.tok xs.length sz)])
 (j:(Xuc asx [] [] (p.d.getD 0) p.H&&p.d.isSome)=true:=by exact rfl):StP c s :=
 Co h i (λv A o=>by obtain⟨rfl,rfl⟩:=o;exact k) j
def CA(P:Program)[Gb P](f:FuncId)(args:List AV)(sz:Nat)(xs:List D): Prop:=CO P f args λv h=>v=.own 1000000 sz 0 xs.length/\h=.arr sz xs
theorem Cr{f:FuncId}{asx:List AV}{sz:Nat}{xs:List D}(h:nxK c.tb c.n s=some (p,f,asx))(i:CA c.P f asx sz xs)(k:p.nx' c (.own (p.d.getD 0) sz 0 xs.length) [(p.d.getD 0,.arr sz xs)])
 (j:(Xuc asx [] [] (p.d.getD 0) p.H&&p.d.isSome)=true:=by exact rfl):StP c s :=
 Co h i (λv A o=>by obtain⟨rfl,rfl⟩:=o;exact k) j
end
theorem CW.data{P:Program}[Gb P]{f:FuncId}{args:List AV}{Post:AV->Hpl->Prop}{Q:AV->Prop}(h:CW P f args [] Post)(hn:(args.all Xlg)=true)(hp:∀v H',Post v H'->∃j,FitR (look H') [] v j/\Q j): C P f args Q:=by
 refine⟨h.1,λW vs hg ha=>(h.2 W θe vs hg ⟨λo x h=>(nomatch h),λo x b h=>(nomatch h),λo o' x x' b h=>(nomatch h),λo x i h=>(nomatch h)⟩ ha).mono ?_⟩
 rintro e w' ⟨W',U,v,u,H',rfl,rfl,hf,B,hv,hvi,_,_,V⟩
 obtain⟨j,I,hq⟩:=hp v H' V
 have Y:∀b,¬Xof θe ([]:Hpl) b:=λb ⟨o,x,h,_⟩=>(nomatch h)
 let W2:GW:=⟨W'.w,W.A,λb i h=>W0u (W.hA b i h) hf.size⟩
 have Z:LeF W' W2:=λb i x M=>⟨M.1,λO=>M.2 ((hf.A b (W.hA b i O) (Y b) i).2 O)⟩
 have E:Exi W' W2 (λb=>W.size<=b\/Xof θe ([]:Hpl) b) U (look H') []:=⟨B,Z,λo x b ho hl hb _ i y hy=>⟨hy,λO=>absurd (W.hA b i O) (W6j.2 ((B.new o x b ho hl hb).resolve_right (Y b)))⟩⟩
 obtain⟨f1,T⟩:=Ygs E I hv
 have T:∀i,¬j.ids i:=λi hi=>by obtain⟨y,hy⟩:=T i hi;cases hy
 exact⟨W2,j,u,rfl,rfl,⟨hf.os,hf.out,hf.tape,hf.size,λb hb _=>hf.same b hb (Y b),λ_ _ _ _=>W4f,λb i x M=>⟨(hf.le b i x M).1,M.2⟩⟩,f1.mono (LeF.refl W2) λi hi=>absurd hi (T i),T,hq⟩
theorem CG.data{P:Program}[Gb P]{f:FuncId}{args:List AV}{sz:Nat}{xs:List D}(h:CG P f args sz xs)(i:(args.all Xlg)=true:=by exact rfl): C P f args (·=.d (.sl sz xs)) :=
 CW.data h i λv H' ⟨o,e,j,A⟩=>⟨_,by rw[j];exact .one (.gr rfl) rfl rfl,rfl⟩
theorem CA.data{P:Program}[Gb P]{f:FuncId}{args:List AV}{sz:Nat}{xs:List D}(h:CA P f args sz xs)(i:(args.all Xlg)=true:=by exact rfl): C P f args (·=.d (.sl sz xs)) :=
 CW.data h i λv H' ⟨A,e,j,o⟩=>⟨_,by rw[j,e,o];exact .one (.own rfl (by simp) (by simp)) rfl rfl,rfl⟩
end
section
section
variable{c:Cx}{s:St}{p:Pl}
noncomputable def Yp9(tb:Nat->Option TI)(n:Nat)(s:St): Option (Pl×Bool×IntKind×Int×Int):=match nxA tb n s with
 | some (p,o,[.d (.int k x),.d (.int h y)])=>match o.op with
  | .call ⟨.builtin .min,_,_⟩=>if k=h then some (p,true,k,x,y) else none
  | .call ⟨.builtin .max,_,_⟩=>if k=h then some (p,false,k,x,y) else none
  | _=>none
 | _=>none
theorem Mm{b:Bool}{k:IntKind}{x y:Int}(r:Int)(h:Yp9 c.tb c.n s=some (p,b,k,x,y))(B:p.nx c (.d (.int k r)))(hr:(match b with | true=>min x y | false=>max x y)=r:=by first | rfl | omega): StP c s:=by
 unfold Yp9 at h
 split at h<;>try cases h
 rename_i M o O Q T U I
 split at h<;>try cases h
 . rename_i asx i j
   split at h<;>cases h
   rename_i A
   refine Xb3 (us:=[]) I ?_ (Pl.nx_nil B)
   rw[j]
   simp only[F,Fp,if_pos A]
   subst hr
   simp only[Int.min_def]
   split<;>split<;>first | rfl | (congr;omega)
 . rename_i asx i j
   split at h<;>cases h
   rename_i A
   refine Xb3 (us:=[]) I ?_ (Pl.nx_nil B)
   rw[j]
   simp only[F,Fp,if_pos A]
   subst hr
   simp only[Int.max_def]
   split<;>split<;>first | rfl | (congr;omega)
noncomputable def nxY(tb:Nat->Option TI)(n:Nat)(s:St): Option (Pl×List UInt8×Int):=match nxA tb n s with
 | some (p,o,[.d (.str t),.d (.int _ j)])=>match o.op with
  | .index T _ _=>match tb T with
   | some ⟨.str _,_,_,_⟩=>some (p,t,j)
   | _=>none
  | _=>none
 | _=>none
theorem Yx(i:Nat)(b:UInt8){t:List UInt8}{j:Int}(h:nxY c.tb c.n s=some (p,t,j))(hb:t[i]?=some b)(o:p.nx c (.d (.int .u8 b.toNat)))(A:j=(i:Int):=by first | exact rfl | omega): StP c s:=by
 subst A
 unfold nxY at h
 split at h<;>try cases h
 rename_i B
 split at h<;>try cases h
 rename_i I
 split at h<;>cases h
 rename_i M
 refine Xb3 (us:=[]) B ?_ (Pl.nx_nil o)
 rw[I]
 simp[F,Fp,M,hb]
end
def nbA: AV->AV
 | .d (.bool c)=>.b c
 | a=>a
theorem Yok{W:GW}{θ:Loc}{a:AV}{u:Value}(h:AV.V W θ a u): AV.V W θ (nbA a) u:=by
 unfold nbA;split
 . obtain⟨cs,i,j⟩:=h;exact⟨cs,i,j⟩
 . exact h
theorem Ykd{W:GW}{θ:Loc}: ∀ {asx:List AV} {vs:List Value},Xjg W θ asx vs->Xjg W θ (asx.map nbA) vs
 | [],[],_=>trivial
 | a::asx,v::vs,h=>⟨Yok h.1,Ykd h.2⟩
 | [],_::_,h=>h.elim
 | _::_,[],h=>h.elim
theorem C.mono{P:Program}[Gb P]{f:FuncId}{asx:List AV}{Q Q':AV->Prop}(h:C P f asx Q)(k:∀v,Q v->Q' v): C P f asx Q':=⟨h.1,λW i j ha=>(h.2 W i j ha).mono λe T ⟨W',v,u,o,A,B,I,M,O⟩=>⟨W',v,u,o,A,B,I,M,k v O⟩⟩
theorem C.nb{P:Program}[Gb P]{f:FuncId}{asx:List AV}{Q:AV->Prop}(h:C P f (asx.map nbA) Q): C P f asx Q:=⟨h.1,λW i j ha=>h.2 W i j (Ykd ha)⟩
end
section
def Yk0: AV->List Nat
 | .st a | .tup a | .fm _ a=>Yk0 a
 | .pr a c=>Yk0 a++Yk0 c
 | .ptr o _ | .own o _ _ _ | .ow3 o _ _ _ | .gr o _ _ | .el o _ _ _ | .fn _ o | .ap o _=>[o]
 | _=>[]
theorem Xeu{i:Nat}: ∀ {a:AV},a.ids i->i∈Yk0 a
 | .st a,h=>Xeu (a:=a) h
 | .tup a,h=>Xeu (a:=a) h
 | .fm _ a,h=>Xeu (a:=a) h
 | .pr a c,h=>W2c.2 (h.imp (Xeu (a:=a)) (Xeu (a:=c)))
 | .ptr o _,h | .own o _ _ _,h | .ow3 o _ _ _,h | .gr o _ _,h | .el o _ _ _,h | .fn _ o,h | .ap o _,h=>W0f.2 h
abbrev Trk:=List (Nat×List Nat)
def dsL: List Oper->List Nat
 | []=>[]
 | o::l=>match o.dst with
  | some d=>d::dsL l
  | none=>dsL l
theorem Xxu{o:Oper}{d:Nat}(hd:o.dst=some d): ∀ {L:List Oper},o∈L->d∈dsL L
 | x::l,h=>by
  rcases W1h.1 h with e | e
  . subst e;simp[dsL,hd]
  . have:=Xxu hd e
    simp only[dsL];split<;>simp[this]
def bnd(D:List Nat)(E:Env)(T:Trk)(t:Nat): Option (List Nat):=match inL t D with
 | true=>look T t
 | false=>match look E t with
  | some v=>some (Yk0 v)
  | none=>none
def Ymk: Op->Option Nat
 | .move (.tmp t) | .assign (.tmp t) | .nilCheck (.tmp t) | .fieldAddr _ (.tmp t) _ | .indexAddr _ (.tmp t) _=>some t
 | _=>none
def Xwy: Op->Bool
 | .alloc _ | .box _ _=>true
 | _=>false
def trk(D:List Nat)(E:Env): List Oper->Trk->Trk
 | [],T=>T
 | o::l,T=>match o.dst with
  | none=>trk D E l T
  | some d=>match Xwy o.op,Ymk o.op with
   | true,_=>trk D E l ((d,[d])::T)
   | false,some t=>match bnd D E T t with
    | some v=>trk D E l ((d,v)::T)
    | none=>trk D E l T
   | false,none=>trk D E l T
def Ypz(a b:List Nat): Bool:=a.all λx=>inL x b
def Xtd(D:List Nat)(E:Env)(T:Trk)(L:List Oper): Bool:=(T.all λx=>!Xcd E x.1)&&L.all λo=>match o.dst with
 | none=>true
 | some d=>match look T d with
  | none=>true
  | some l=>(Xwy o.op&&inL d l)||match Ymk o.op with
   | some t=>match bnd D E T t with
    | some v=>Ypz v l
    | none=>false
   | none=>false
def Ykr(L:List Oper)(D:List Nat)(E:Env)(T:Trk)(k i:Oper): Bool:=match k.op,i.op with
 | .load _ (.tmp a),.store _ (.tmp b) _=>match bnd D E T a,bnd D E T b with
  | some h,some j=>Xcy L k.dst i&&Xcy L i.dst k&&h.all λx=>!inL x j
  | _,_=>false
 | _,_=>false
def spT(L:List Oper)(D:List Nat)(E:Env)(T:Trk)(k i:Oper): Bool:=Ykr L D E T k i||Ykr L D E T i k
def ZT(D:List Nat)(E:Env)(T:Trk)(s:S): Prop:=(∀t,inL t D=false->s.1 t=look E t)/\∀t l,look T t=some l->s.1 t=none\/∃x,s.1 t=some x/\∀i,x.ids i->i∈l
section
variable{tb:Nat->Option TI}
theorem Xym{D:List Nat}{E:Env}{T:Trk}{s:S}(j:ZT D E T s){t:Nat}{l:List Nat}(h:bnd D E T t=some l){v:AV}(o:s.1 t=some v){i:Nat}(hi:v.ids i): i∈l:=by
 unfold bnd at h
 split at h
 . rcases j.2 t l h with e | ⟨x,e,A⟩<;>rw[o] at e
   . cases e
   . injection e with e;subst e;exact A i hi
 . rename_i B
   have e:=j.1 t B
   rw[o] at e
   rw[<-e] at h
   injection h with h;subst h
   exact Xeu hi
theorem Yg1{o:Oper}{t:Nat}(ha:Ymk o.op=some t){s:S}{r:AV×List (Nat×Ob)}(h:eff tb o s=some r): ∃v,s.1 t=some v/\∀i,r.1.ids i->v.ids i:=by
 have one:∀ {x:Nat} {asx:List AV},getEs s.1 [.tmp x]=some asx->∃v,s.1 x=some v/\asx=[v]:=by
  intro x asx h
  simp only[getEs,Xcw] at h
  split at h<;>try cases h
  rename_i v A
  exact⟨v,A,rfl⟩
 unfold eff at h
 split at h<;>try cases h
 rename_i asx j
 split at h<;>try cases h
 unfold Ymk at ha
 split at ha<;>cases ha
 all_goals rename_i B
 . rw[B] at h j
   obtain⟨v,A,rfl⟩:=one j
   simp only[F,Fp] at h
   injection h with h;subst h
   exact⟨v,A,λ_ h=>h⟩
 . rw[B] at h j
   obtain⟨v,A,rfl⟩:=one j
   simp only[F,Fp] at h
   injection h with h;subst h
   exact⟨v,A,λ_ h=>h⟩
 . rw[B] at h j
   obtain⟨v,A,rfl⟩:=one j
   refine⟨v,A,?_⟩
   simp only[F,Fp] at h
   split at h<;>try cases h
   rename_i hq
   split at hq<;>cases hq
   rename_i e;cases e
   exact λ_ h=>h
 . rw[B] at h j
   obtain⟨v,A,rfl⟩:=one j
   refine⟨v,A,?_⟩
   simp only[F,Fp] at h
   split at h<;>try cases h
   rename_i hq
   split at hq<;>try cases hq
   split at hq<;>try cases hq
   split at hq<;>try cases hq
   split at hq<;>try cases hq
   . rename_i e;cases e
     split at hq<;>cases hq
     exact λ_ h=>h
   all_goals
    rename_i e;cases e
    exact λ_ h=>h
 . rw[B] at h j
   rename_i T' O _
   simp only[Op.operands,getEs] at j
   split at j<;>try cases j
   rename_i v A
   split at j<;>try cases j
   rename_i M I
   refine⟨v,A,?_⟩
   simp only[F,Fp] at h
   split at h<;>try cases h
   rename_i hq
   split at hq<;>try cases hq
   rename_i e;cases e
   split at hq<;>try cases hq
   . unfold ixA at hq
     split at hq<;>try cases hq
     . unfold ixA.ixL at hq
       split at hq<;>try cases hq
       split at hq<;>cases hq
       exact λ_ h=>h.elim
     . unfold ixA.ixL at hq
       split at hq<;>try cases hq
       split at hq<;>cases hq
       exact λ_ h=>h.elim
     . unfold ixA.ixL at hq
       split at hq<;>try cases hq
       split at hq<;>cases hq
       exact λ_ h=>h.elim
     . split at hq<;>cases hq
       exact λ_ h=>h
     . split at hq<;>cases hq
       exact λ_ h=>h
   . split at hq<;>cases hq
     exact λ_ h=>h
theorem Yoq{k:Oper}{T:TypeId}{a:Nat}(B:k.op=.load T (.tmp a)){e:Ev}{g g':Hp}{r:AV×List (Nat×Ob)}{v:AV}(M:e a=some v)(I:∀i,v.ids i->g i=g' i)(h:eff tb k (e,g)=some r): r.2=[]/\eff tb k (e,g')=some r:=by
 have o:getEs e k.op.operands.toList=some [v]:=by rw[B];simp[Op.operands,getEs,Xcw,M]
 unfold eff at h |-
 rw[o] at h |-
 simp only[B,Xeg,W8h,F] at h |-
 split at h<;>try cases h
 rename_i Q j
 cases v<;>try (cases h;done)
 . simp only[j] at h |-
   split at h<;>cases h
   rename_i hf
   exact⟨rfl,by simp[hf]⟩
 . simp only[j] at h |-
   rw[<-I _ rfl]
   split at h<;>try cases h
   rename_i hq
   split at h<;>cases h
   rename_i A
   exact⟨rfl,by simp[hq,A]⟩
 . simp only[j] at h |-
   rw[<-I _ rfl]
   split at h<;>try cases h
   rename_i hq
   split at h<;>try cases h
   rename_i hs
   split at h<;>try cases h
   rename_i O
   split at h<;>cases h
   rename_i A
   exact⟨rfl,by simp[hq,hs,O,A]⟩
theorem Yn5{i:Oper}{T:TypeId}{b:Nat}{x:Operand}(A:i.op=.store T (.tmp b) x){e:Ev}{g:Hp}{r:AV×List (Nat×Ob)}(h:eff tb i (e,g)=some r): ∃v o M,e b=some v/\v.ids o/\r.2=[(o,M)]:=by
 unfold eff at h
 split at h<;>try cases h
 rename_i asx j
 rw[A] at j
 simp only[Op.operands,getEs,Xcw] at j
 split at j<;>try cases j
 rename_i v B
 split at j<;>try cases j
 rename_i O I
 split at h<;>try cases h
 rw[A] at h
 simp only[F] at h
 split at h<;>try cases h
 split at h<;>try cases h
 . rename_i e;cases e
   split at h<;>try cases h
   split at h<;>cases h
   exact⟨_,_,_,B,rfl,rfl⟩
 . rename_i e;cases e
   split at h<;>try cases h
   split at h<;>try cases h
   split at h<;>cases h
   exact⟨_,_,_,B,rfl,rfl⟩
theorem Yf4{o:Oper}(i:Xwy o.op=true){s:S}{r:AV×List (Nat×Ob)}(h:eff tb o s=some r): r.1=.ptr (o.dst.getD 0) 0:=by
 unfold eff at h
 split at h<;>try cases h
 rename_i asx j
 split at h<;>try cases h
 unfold Xwy at i
 split at i<;>try cases i
 all_goals
  rename_i A
  rw[A] at h
  simp only[F] at h
 . split at h<;>cases h;rfl
 . split at h<;>try cases h
   split at h<;>cases h;rfl
theorem Ye1{a b:List Nat}(h:Ypz a b=true){i:Nat}(hi:i∈a): i∈b:=You.1 (W1q.1 h i hi)
theorem Yqs{s:S}{o:Oper}{r:AV×List (Nat×Ob)}{t:Nat}(h:o.dst≠some t): (aft s o r).1 t=s.1 t:=by
 unfold aft S.put
 cases hd:o.dst with
 | none=>rfl
 | some d=>exact Xam λe=>h (by rw[hd,e])
theorem Ypl{s:S}{o:Oper}{r:AV×List (Nat×Ob)}{t:Nat}(h:o.dst=some t): (aft s o r).1 t=some r.1:=by
 unfold aft S.put
 rw[h];exact Xai ..
theorem ZT.aft{L:List Oper}{E:Env}{T:Trk}(I:Xtd (dsL L) E T L=true){o:Oper}(M:o∈L){s:S}(j:ZT (dsL L) E T s){r:AV×List (Nat×Ob)}
 (hr:r.1=.un\/(Xap o=true)\/eff tb o s=some r):ZT (dsL L) E T (aft s o r):=by
 refine⟨λt A=>?_,λt l O=>?_⟩
 . rw[Yqs λe=>by rw[You.2 (Xxu e M)] at A;cases A]
   exact j.1 t A
 . by_cases hd:o.dst=some t
   . refine .inr ⟨r.1,Ypl hd,λi hi=>?_⟩
     simp only[Xtd,W0h] at I
     have:=W1q.1 I.2 o M
     rw[hd] at this
     simp only[O,W4y,W0h] at this
     rcases hr with hr | hr | hr
     . rw[hr] at hi;exact hi.elim
     . obtain⟨x,asx,Q,U⟩:=Xnn hr
       rw[U] at this
       simp[Xwy,Ymk] at this
     . rcases this with ⟨B,V⟩ | h
       . rw[Yf4 B hr,hd] at hi
         have hi:i=t:=hi
         rw[hi];exact You.1 V
       . split at h
         . rename_i t' ha
           split at h
           . rename_i v Y
             obtain⟨x,Z,B⟩:=Yg1 ha hr
             exact Ye1 h (Xym j Y Z (B i hi))
           . cases h
         . cases h
   . rw[Yqs hd];exact j.2 t l O
theorem Xfy{L:List Oper}{E:Env}{T:Trk}{k i:Oper}(h:Ykr L (dsL L) E T k i=true): Xap k=false/\Xap i=false/\Xcy L k.dst i=true/\Xcy L i.dst k=true/\∀ {s:S},ZT (dsL L) E T s ->
 (∀ {j},efw tb L k s=some j->j.2=[])/\∀ {g:Hp} {I:AV×List (Nat×Ob)},efw tb L i (s.1,g)=some I->∀j,efw tb L k (s.1,g)=some j↔efw tb L k (s.1,Xb1 g I.2)=some j:=by
 unfold Ykr at h
 split at h
 . rename_i T1 a T2 b x M hi
   split at h
   . rename_i la lb U V
     simp only[W0h] at h
     obtain⟨⟨h1,h2⟩,h3⟩:=h
     refine⟨by unfold Xap;rw[M];rfl,by unfold Xap;rw[hi];rfl,h1,h2,λ{s} hz=>⟨λ{j} Y=>?_,λ{g I} Z j=>?_⟩⟩
     . rcases Xct Y with ⟨_,e,_⟩ | ⟨_,e⟩
       . exact e
       . exact(Yqo (o:=k) (by rw[M];rfl) (e:=s.1) (g:=s.2) e).1
     . have B:∀ {g O:Hp},(∀o,o ∉ lb->g o=O o)->efw tb L k (s.1,g)=some j->efw tb L k (s.1,O)=some j:=by
        intro g O hg Y
        rcases Xct Y with ⟨_,_,e⟩ | ⟨hw,e⟩
        . exact e O
        . have:∃v,s.1 a=some v:=by
           unfold eff at e
           split at e<;>try cases e
           rename_i asx A
           rw[M] at A
           simp only[Op.operands,getEs,Xcw] at A
           split at A<;>try cases A
           exact⟨_,by assumption⟩
          obtain⟨v,Q⟩:=this
          refine Xkb (s:=(s.1,g)) hw (Yoq M Q (λo ho=>hg o λhb=>?_) e).2
          have:=W1q.1 h3 o (Xym hz U Q ho)
          rw[You.2 hb] at this;cases this
       have hu:∀o,o ∉ lb->g o=Xb1 g I.2 o:=by
        intro o hob
        rcases Xct Z with ⟨_,e,_⟩ | ⟨_,e⟩
        . rw[e];rfl
        . obtain⟨v,o',ob,Q,ho',e2⟩:=Yn5 hi e
          rw[e2]
          show g o=upd g o' ob o
          rw[Xam λe=>hob (by rw[e];exact Xym hz V Q ho')]
       exact⟨B hu,B λo ho=>(hu o ho).symm⟩
   . cases h
 . cases h
theorem Dm.trk{L:List Oper}{E:Env}{T:Trk}(V:Xtd (dsL L) E T L=true): Dm tb L (spT L (dsL L) E T) (ZT (dsL L) E T):=by
 have Q:∀ {k i:Oper} {s:S} {j o:AV×List (Nat×Ob)},Xcy L i.dst k=true->j.2=[]->Vm.aft (Vm.aft s i o) k j=Vm.aft (Vm.aft s k j) i o:=by
  intro k i s j o h hr
  unfold Vm.aft
  rw[S.put_g,S.put_g,hr]
  have e1:=S.put_e (s:=s) (g:=Xb1 s.2 o.2) (g':=s.2) (d:=i.dst) (v:=o.1)
  have e2:=S.put_e (s:=s) (g:=Xb1 s.2 []) (g':=s.2) (d:=k.dst) (v:=j.1)
  rw[e1,e2]
  exact Xo4 (s:=s) (λa b ha hb=>Xiz h ha hb) rfl
 have one:∀ {k i:Oper} {s:S} {j o:AV×List (Nat×Ob)},Ykr L (dsL L) E T k i=true->ZT (dsL L) E T s->efw tb L k s=some j->efw tb L i s=some o->efw tb L i (Vm.aft s k j)=some o/\efw tb L k (Vm.aft s i o)=some j/\Vm.aft (Vm.aft s i o) k j=Vm.aft (Vm.aft s k j) i o:=by
  intro k i s j o h A I B
  obtain⟨Y,Z,a1,M,O⟩:=Xfy (tb:=tb) h
  obtain⟨b1,b2⟩:=O A
  have e:=b1 I
  exact⟨by rw[Xde a1,e];exact B,by rw[Xde M];exact(b2 (g:=s.2) B j).1 I,Q M e⟩
 refine⟨λ{k i} h=>?_,λ{k i s j o} h A I B=>?_,λ{k i s j o} h A I B=>?_,λ{k s r} U hc A h=>?_,λ{k s r} U hc A h=>ZT.aft (tb:=tb) V U A (.inr (.inl hc))⟩
 . rcases W8e.1 h with h | h
   . have:=Xfy (tb:=tb) h;exact⟨this.1,this.2.1⟩
   . have:=Xfy (tb:=tb) h;exact⟨this.2.1,this.1⟩
 . rcases W8e.1 h with h | h
   . exact one h A I B
   . obtain⟨p1,p2,p3⟩:=one h A B I;exact⟨p2,p1,p3.symm⟩
 . rcases W8e.1 h with h | h
   . obtain⟨Y,Z,a1,M,O⟩:=Xfy (tb:=tb) h
     rw[Xde a1,(O A).1 I] at B
     exact B
   . obtain⟨Y,Z,a1,M,O⟩:=Xfy (tb:=tb) h
     rw[Xde M] at B
     exact((O A).2 (g:=s.2) I o).2 B
 . refine ZT.aft (tb:=tb) V U A ?_
   rcases Xct h with ⟨hw,_,e⟩ | ⟨_,e⟩
   . refine .inl ?_
     unfold efw at h
     rw[hw] at h
     simp only at h
     split at h<;>cases h
     rfl
   . exact .inr (.inr e)
section
variable{c:Cx}{s:St}
def Yru: St->Bool
 | .o _ _ L _ _ E _=>Xtd (dsL L) E (trk (dsL L) E L []) L&&Xja L (spT L (dsL L) E (trk (dsL L) E L [])) [] [] L
 | _=>false
theorem ZT.start{L:List Oper}{E:Env}{H:Hpl}{T:Trk}(h:Xtd (dsL L) E T L=true): ZT (dsL L) E T (sem E H):=by
 refine⟨λt _=>rfl,λt l i=>.inl ?_⟩
 simp only[Xtd,W0h] at h
 have:=W1q.1 h.1 _ (Xbc i)
 rw[W1u] at this
 exact Xbk this
theorem Dz{s':St}(h:nxD c.tb c.n s=some s')(k:StP c s')(i:Yru s'=true:=by exact rfl): StP c s:=by
 unfold nxD at h
 split at h<;>try cases h
 rename_i o
 split at h<;>cases h
 rename_i j
 have i:=Bool.and_eq_true_iff.1 i
 exact go 1000 o (J.draw (Dm.trk i.1) (ZT.start i.1) j i.2 k)
end
end
end
end Go.Vm

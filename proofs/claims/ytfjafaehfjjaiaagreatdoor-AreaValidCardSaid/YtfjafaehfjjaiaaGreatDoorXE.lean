/- part 5 -/
import Derived.Test.YtfjafaehfjjaiaaGreatDoorXD
import Derived.Test.YtfjafaehfjjaiaaGreatDoorCards
import Derived.Test.YtfjafaehfjjaiaaGreatDoorTie
import Derived.Deep.DeepHandedRow
import Derived.Lib.LaidTab
import Derived.MakeChecks
import Derived.Stop.LaidErr
import Derived.Lib.AppendZeros
set_option linter.unusedVariables false
set_option linter.unusedSimpArgs false
set_option maxRecDepth 100000
namespace Go.Proofs.YtfjafaehfjjaiaaGreatDoor.R9
open Go Go.Vm Go.Num Go.Tow Go.Proofs.YtfjafaehfjjaiaaGreatDoor
abbrev n0: D:=.st (.pr (dts []) (dqs []))
theorem fit0{g:Hp}{K:Hpl}: Fit g K (.st (.pr .nil .nil)) (.d n0):=.sd (.pd (.nil rfl) (.nil rfl))
section
variable{c:Fg}{K:Nat}{G:Tw K}{S:List (Tow.El K)}{r p:Nat}{x y:Nm}{vx vy:Tow.El K}
theorem Yat(W:Wy c G S)(hx:NOk G S r p x vx)(hy:NOk G S r p y vy)(hp:oW c p<=4398046511104): C0 78 [.d (dN x),.d (dN y)] λv=>∃m T a b,v=.tup (.pr (.d (dN ⟨m,T,a⟩)) (.pr (.d (dN ⟨m,T,b⟩)) (.d (.int .i64 0))))/\JnR c G S p vx vy m T a b:=by
 refine En Tryz.func78 λ_ _ _=>?_
 refine Ca rfl (Join_ok W hx hy hp) λv hv=>?_
 obtain⟨m,T,a,b,rfl,h⟩:=hv
 refine No rfl (by simp) ?_
 refine Dz rfl ?_
 refine Ix 0 rfl (u:=dN ⟨m,T,a⟩) rfl ?_
 refine Ix 1 rfl (u:=dN ⟨m,T,b⟩) rfl ?_
 exact Rt rfl (.tup (.cons (.rf rfl) (.cons (.rf rfl) Xa7))) ⟨m,T,a,b,rfl,h⟩
def OpR(c:Fg)(G:Tw K)(S:List (Tow.El K))(p:Nat)(w:Tow.El K)(v:AV): Prop:=∃z:Nm,v=.tup (.pr (.d (dN z)) (.d (.int .i64 0)))/\NOk G S c.R p z w
theorem Add_ok(W:Wy c G S)(hx:NOk G S r p x vx)(hy:NOk G S r p y vy)(hp:oW c p<=4398046511104): C0 32 [.d (dN x),.d (dN y)] (OpR c G S (oW c p) (Tow.add K vx vy)):=by
 have hO:oW c p=2*jW c p+cB c.R c.H+1:=rfl
 have hH:=W.k.h
 refine En Tryz.func32 λ_ _ _=>?_
 refine Ca rfl (Yat W hx hy hp) λv hv=>?_
 obtain⟨m,T,a,b,rfl,ρ,h1,h3,h4,h5,h6⟩:=hv
 have h2:=W.t h1
 have hm:=W.le h1
 refine No rfl (by simp) ?_
 refine Dw rfl ?_
 refine Ce rfl (R6.Add_el (k:=m) (a:=a) (b:=b) (by omega) h5.ps h6.ps (by omega)) ?_
 exact Rt rfl (.tup (.cons (.rf rfl) Xa7)) ⟨⟨m,T,Tow.add m a b⟩,rfl,⟨ρ,h1,by rw[<-h3,<-h4];exact Xct⟩,h2,by rw[Xav];exact(h5.add h6).mono (by omega)⟩
theorem Mul_ok(W:Wy c G S)(hx:NOk G S r p x vx)(hy:NOk G S r p y vy)(hp:oW c p<=4398046511104): C0 123 [.d (dN x),.d (dN y)] (OpR c G S (oW c p) (Tow.mul K G vx vy)):=by
 have hO:oW c p=2*jW c p+cB c.R c.H+1:=rfl
 have hH:=W.k.h
 refine En Tryz.func123 λ_ _ _=>?_
 refine Ca rfl (Yat W hx hy hp) λv hv=>?_
 obtain⟨m,T,a,b,rfl,ρ,h1,h3,h4,h5,h6⟩:=hv
 have h2:=W.t h1
 have hm:=W.le h1
 have hc:=Xe4 (r:=c.R) hm
 refine No rfl (by simp) ?_
 refine Dw rfl ?_
 refine Ce rfl (R6.Mul_el (k:=m) (t:=T) (a:=a) (b:=b) h2 h5 h6 (by omega) (by omega)) ?_
 exact Rt rfl (.tup (.cons (.rf rfl) Xa7)) ⟨⟨m,T,Tow.mul m T a b⟩,rfl,⟨ρ,h1,by rw[<-h3,<-h4];exact Xa4 h1.h⟩,h2,(h5.mul h2 h6).mono (by omega)⟩
theorem Neg_ok(hx:NOk G S r p x vx)(hk:x.k<=16)(hp:p<=8796093022208): C0 14 [.d (dN x)] (·=.d (dN ⟨x.k,x.t,Tow.neg x.k x.a⟩)):=by
 refine En Tryz.func14 λ_ _ _=>?_
 refine Dw rfl ?_
 refine Ce rfl (R6.Neg_el hk hx.p.ps hp) ?_
 exact R1 rfl (.rf rfl)
theorem Sub_ok(W:Wy c G S)(hx:NOk G S r p x vx)(hy:NOk G S r p y vy)(hp:oW c p<=4398046511104): C0 118 [.d (dN x),.d (dN y)] (OpR c G S (oW c p) (Tow.add K vx (Tow.neg K vy))):=by
 have:=hy.le (Xad W.g) W.s
 have hH:=W.k.h
 have hO:oW c p=2*jW c p+cB c.R c.H+1:=rfl
 have hpj:p<=jW c p:=Xvd
 refine En Tryz.func118 λ_ _ _=>?_
 refine Dw rfl ?_
 refine Ce rfl (Neg_ok hy (by omega) (by omega)) ?_
 refine Ca rfl (Add_ok W hx hy.neg hp) λv hv=>?_
 obtain⟨z,rfl,h⟩:=hv
 exact Rt rfl (.tup (.cons (.rf rfl) Xa7)) ⟨z,rfl,h⟩
theorem Sign_ok(hG:red K G)(hx:NOk G S r p x vx)(hk:x.k<=16)(hv:vB r x.k p<=4398046511104): C0 27 [.d (dN x)] (·=.d (.int .i64 (sgn K G vx))):=by
 refine En Tryz.func27 λ_ _ _=>?_
 refine Ce rfl (R7.Fast_ok hx.r hx.p hk hv) ?_
 rw[hx.sgn (Xad hG)]
 exact R0
def RtR(x:Nm)(v:AV): Prop:=∃z:Nm,v=.tup (.pr (.d (dN z)) (.d (.int .i64 0)))/\((∃y,z=⟨x.k,x.t,y⟩/\Tow.mul x.k x.t y y=x.a/\0<=sgn x.k x.t y)\/(z=⟨x.k+1,tsn x.t x.a,Xcr (x.k+1) x.k⟩/\0<=sgn x.k x.t x.a/\¬Xcp x.k x.t x.a))
theorem Sqrt_ok(hr:red x.k x.t)(hT:TS r x.k x.t)(ha:Sz p (toL x.k x.a))(h0:0<=sgn x.k x.t x.a)(hk:x.k<8)(hq:qB r x.k p<=4398046511104)(hq2:qB r x.k r<=4398046511104)(hv:vB r x.k (p+gC r x.k)<=4398046511104)(hv2:vB r x.k r<=4398046511104):
 C0 199 [.d (dN x)] (RtR x):=by
 refine En Tryz.func199 λ_ _ _=>?_
 refine Ca rfl (R8.Adjoin_ok hT ha hr hk hq hq2 hv hv2) λv hv=>?_
 rcases hv with ⟨h1,rfl⟩ | ⟨y,h1,h2,rfl⟩ | ⟨h1,h2,h3,rfl⟩
 . omega
 . refine No rfl (by simp) ?_
   exact Rt rfl (.tup (.cons (.rf rfl) Xa7)) ⟨⟨x.k,x.t,y⟩,rfl,.inl ⟨y,rfl,h1,h2⟩⟩
 . refine No rfl (by simp) ?_
   exact Rt rfl (.tup (.cons (.rf rfl) Xa7)) ⟨⟨x.k+1,tsn x.t x.a,Xcr (x.k+1) x.k⟩,rfl,.inr ⟨rfl,h1,h2⟩⟩
theorem FromRat_ok{q:Rat}: C0 56 [.d (dq q)] (·=.d (dN ⟨0,(),q⟩)):=by
 refine En Tryz.func56 λ_ _ _=>?_
 exact R1 rfl (.sd (.pd (.nil rfl) (.lit rfl)))
theorem FromInt_ok{z:Int}(h:-9223372036854775808<=z/\z<9223372036854775808): C0 19 [.d (.int .i64 z)] (·=.d (dN ⟨0,(),(z:Rat)⟩)):=by
 refine En Tryz.func19 λ_ _ _=>?_
 refine Ce rfl (R2.FromInt_ok h) ?_
 refine Ce rfl FromRat_ok ?_
 exact R1 rfl (.rf rfl)
theorem Frac_ok{a b:Int}(ha:-9223372036854775808<=a/\a<9223372036854775808)(hb:-9223372036854775808<=b/\b<9223372036854775808)(hb0:b≠0): C0 196 [.d (.int .i64 a),.d (.int .i64 b)] (·=.d (dN ⟨0,(),Rat.divInt a b⟩)):=by
 refine En Tryz.func196 λ_ _ _=>?_
 refine Ce rfl (R2.Frac_ok ha hb hb0) ?_
 refine Ce rfl FromRat_ok ?_
 exact R1 rfl (.rf rfl)
theorem Xgr: C0 197 [.d (dN x),.d (.int .i64 0),.d (dN y)] (·=.d (dN x)):=by
 refine En Tryz.func197 λ_ _ _=>?_
 refine No rfl (by simp) ?_
 exact R1 rfl (.rf rfl)
theorem Xyz: C0 197 [.d n0,.d (.int .i64 6),.d (dN y)] (·=.d (dN y)):=by
 refine En Tryz.func197 λ_ _ _=>?_
 refine Yes rfl (by simp) ?_
 exact R1 rfl (.rf rfl)
end
end Go.Proofs.YtfjafaehfjjaiaaGreatDoor.R9
namespace Go.Vm
open Go
def Ykr: Op->Bool
 | .buildSlice _ _ _=>true
 | _=>false
def Ykq: List Oper->List Nat
 | []=>[]
 | o::l=>match Ykr o.op,o.dst with
  | true,some d=>d::Ykq l
  | _,_=>Ykq l
def Xu7(E:Env)(LB:List Nat)(L:List Oper): Bool:=(LB.all λb=>!Xcd E b)&&L.all λo=>match o.dst with
 | none=>true
 | some d=>!inL d LB||Ykr o.op
def apD(LB:List Nat)(k:Oper): Option Nat:=match k.op,k.dst with
 | .call ⟨.builtin .append,⟨[.tmp b,_]⟩,_⟩,some d=>match inL b LB with
  | true=>some d
  | false=>none
 | _,_=>none
def Yh8(LB:List Nat)(L:List Oper)(D:List Nat)(E:Env)(T:Trk)(k i:Oper): Bool:=match k.op,apD LB i with
 | .load _ (.tmp a),some d=>match bnd D E T a with
  | some la=>Xby L k.dst i&&Xby L i.dst k && !inL d la
  | none=>false
 | _,_=>false
def Yfu(LB:List Nat)(L:List Oper)(k i:Oper): Bool:=match Xij k.op,k.dst,apD LB i with
 | true,some dk,some d=>Xby L k.dst i&&Xby L i.dst k
 | _,_,_=>false
def ZL(LB:List Nat)(s:S): Prop:=∀b,inL b LB=true->s.1 b=none\/s.1 b=some .un\/∃sz xs,s.1 b=some (.lit sz xs)
section
variable{tb:Nat->Option TI}
theorem Ygn{g g':Hp}{z:D}{sz:Nat}{c:AV}{ys:List D}(hg:∀o s xs,g o=some (.arr s xs)->g' o=some (.arr s xs))(h:Xkl g z sz c=some ys): Xkl g' z sz c=some ys:=by
 unfold Xkl at h |-
 split at h
 . split at h<;>try cases h
   rename_i ho
   rw[hg _ _ _ ho];exact h
 . split at h<;>try cases h
   rename_i ho
   rw[hg _ _ _ ho];exact h
 . exact h
theorem Xz5{LB:List Nat}{k:Oper}{d:Nat}(hk:apD LB k=some d){s:S}(hz:ZL LB s){r:AV×List (Nat×Ob)}{g:Hp}(h:eff tb k (s.1,g)=some r): k.dst=some d/\Xap k=false/\g d=none/\(r.2=[]\/∃ob,r.2=[(d,ob)])/\∀g',g' d=none->(∀o s xs,g o=some (.arr s xs)->g' o=some (.arr s xs))->eff tb k (s.1,g')=some r:=by
 unfold apD at hk
 split at hk<;>try cases hk
 rename_i b y tys d' ho hd
 split at hk<;>cases hk
 rename_i hb
 unfold eff at h
 split at h<;>try cases h
 rename_i asx has
 split at h<;>try cases h
 rename_i hst
 have has0:=has
 have has:getEs s.1 [.tmp b,y]=some asx:=by rw[ho] at has;exact has
 simp only[getEs,Xc4] at has
 split at has<;>try cases has
 rename_i v hv
 split at has<;>try cases has
 rename_i as' has'
 split at has'<;>try cases has'
 rename_i w hw
 have htys:∃T T',tys=⟨[T,T']⟩:=by
  rcases tys with ⟨_ | ⟨T,_ | ⟨T',_ | ⟨U,l⟩⟩⟩⟩
  . rw[ho] at h;simp[F,Fp] at h
  . rw[ho] at h;simp[F,Fp] at h
  . exact⟨_,_,rfl⟩
  . rw[ho] at h;simp[F,Fp] at h
 obtain⟨T,T',rfl⟩:=htys
 rcases hz b hb with e | e | ⟨sz,xs,e⟩
 . rw[e] at hv;cases hv
 . rw[e] at hv;injection hv with hv;subst hv
   exfalso
   rw[ho] at h
   simp only[F] at h
   repeat' split at h
   all_goals first
    | (cases h;done)
    | (simp[Xlt] at h;done)
    | simp_all[Fp,Xlt]
 . rw[e] at hv;injection hv with hv;subst hv
   rw[ho] at h
   simp only[F,hd,W3v] at h
   split at h<;>try cases h
   rename_i hT
   split at h<;>try cases h
   rename_i ti ht hgd
   split at h<;>try cases h
   rename_i sz' xs' hz'
   split at h<;>try cases h
   rename_i ys hys
   refine⟨hd,by unfold Xap;rw[ho];rfl,hgd,?_,λg' h1 h2=>?_⟩
   . simp only[Xlt] at h
     split at h
     . cases h;exact .inr ⟨_,rfl⟩
     . split at h<;>cases h
       exact .inl rfl
   . unfold eff
     rw[has0]
     simp only[hst]
     rw[ho]
     subst hT
     have hs':=Ygn h2 hys
     rw[hz'] at hs'
     simp only[F,hd,W3v,ht,h1,hz',hs',if_true]
     exact h
theorem Xf7{LB:List Nat}{L:List Oper}{E:Env}{T:Trk}{k i:Oper}(h:Yh8 LB L (dsL L) E T k i=true): Xap k=false/\Xby L k.dst i=true/\Xby L i.dst k=true/\(∃d,apD LB i=some d)/\∀ {s:S},ZT (dsL L) E T s->ZL LB s ->
 (∀ {rk},efw tb L k s=some rk->rk.2=[])/\∀ {g:Hp} {ri:AV×List (Nat×Ob)},efw tb L i (s.1,g)=some ri->∀rk,efw tb L k (s.1,g)=some rk↔efw tb L k (s.1,Xbe g ri.2)=some rk:=by
 unfold Yh8 at h
 split at h<;>try cases h
 rename_i T1 a d hk hi
 split at h<;>try cases h
 rename_i la hla
 simp only[W0g,W1u] at h
 obtain⟨⟨h1,h2⟩,h3⟩:=h
 refine⟨by unfold Xap;rw[hk];rfl,h1,h2,⟨d,hi⟩,λ{s} hz hl=>⟨λ{rk} hr=>?_,λ{g ri} hri rk=>?_⟩⟩
 . rcases Xay hr with ⟨_,e,_⟩ | ⟨_,e⟩
   . exact e
   . exact(Ymo (o:=k) (by rw[hk];rfl) (e:=s.1) (g:=s.2) e).1
 . have key:∀ {g g':Hp},(∀o,o≠d->g o=g' o)->efw tb L k (s.1,g)=some rk->efw tb L k (s.1,g')=some rk:=by
    intro g g' hg hr
    rcases Xay hr with ⟨_,_,e⟩ | ⟨hw,e⟩
    . exact e g'
    . have:∃v,s.1 a=some v:=by
       unfold eff at e
       split at e<;>try cases e
       rename_i asx has
       rw[hk] at has
       simp only[Op.operands,getEs,Xc4] at has
       split at has<;>try cases has
       exact⟨_,by assumption⟩
      obtain⟨v,hv⟩:=this
      refine Xem (s:=(s.1,g)) hw (Yh9 hk hv (λo ho=>hg o λhb=>?_) e).2
      subst hb
      rw[Yl9.2 (Xna hz hla hv ho)] at h3;cases h3
   have hu:∀o,o≠d->g o=Xbe g ri.2 o:=by
    intro o hod
    rcases Xay hri with ⟨_,e,_⟩ | ⟨_,e⟩
    . rw[e];rfl
    . obtain⟨_,_,_,e1 | ⟨ob,e1⟩,_⟩:=Xz5 hi hl e
      . rw[e1];rfl
      . rw[e1];exact(Xak hod).symm
   exact⟨key hu,key λo ho=>(hu o ho).symm⟩
theorem Xuo{o:Oper}(hn:Xij o.op=true){s:S}{r:AV×List (Nat×Ob)}(h:eff tb o s=some r): ∃a,r.2=[(o.dst.getD 0,.var a)]/\s.2 (o.dst.getD 0)=none/\∀g',g' (o.dst.getD 0)=none->eff tb o (s.1,g')=some r:=by
 have hc:cls o.op=2:=by unfold Xij at hn;split at hn<;>first | (rename_i e;rw[e];rfl) | cases hn
 obtain⟨ob,h1,h2,h3⟩:=Yoa (e:=s.1) (g:=s.2) hc h
 have:∃a,r.2=[(o.dst.getD 0,.var a)]:=by
  unfold eff at h
  split at h<;>try cases h
  split at h<;>try cases h
  unfold Xij at hn
  split at hn<;>try cases hn
  all_goals
   rename_i ho
   rw[ho] at h
   simp only[F] at h
  . split at h<;>cases h;exact⟨_,rfl⟩
  . split at h<;>try cases h
    split at h<;>cases h;exact⟨_,rfl⟩
 obtain⟨a,ha⟩:=this
 exact⟨a,ha,h2,h3⟩
theorem Xjo{LB:List Nat}{L:List Oper}{k i:Oper}(h:Yfu LB L k i=true): Xij k.op=true/\Xap k=false/\Xby L k.dst i=true/\Xby L i.dst k=true/\∃dk d,k.dst=some dk/\apD LB i=some d:=by
 unfold Yfu at h
 split at h<;>try cases h
 rename_i dk d h1 h2 h3
 simp only[W0g] at h
 refine⟨h1,?_,h.1,h.2,dk,d,h2,h3⟩
 unfold Xij at h1
 unfold Xap
 split at h1<;>first | (rename_i e;rw[e];rfl) | cases h1
theorem Xkx{LB:List Nat}{L:List Oper}{k i:Oper}(h:Yfu LB L k i=true){s:S}(hl:ZL LB s){rk ri:AV×List (Nat×Ob)}:
 (efw tb L k s=some rk->efw tb L i s=some ri->efw tb L i (s.1,Xbe s.2 rk.2)=some ri/\efw tb L k (s.1,Xbe s.2 ri.2)=some rk/\Xbe (Xbe s.2 ri.2) rk.2=Xbe (Xbe s.2 rk.2) ri.2) /\
 (efw tb L k s=some rk->efw tb L i (s.1,Xbe s.2 rk.2)=some ri->efw tb L i s=some ri)/\(efw tb L i s=some ri->efw tb L k (s.1,Xbe s.2 ri.2)=some rk->efw tb L k s=some rk):=by
 obtain⟨hn,_,a1,a2,dk,d,hdk,hd⟩:=Xjo h
 have hi0:i.dst=some d:=by
  unfold apD at hd
  split at hd<;>try cases hd
  rename_i h1 h2
  split at hd<;>cases hd
  exact h2
 have hne:dk≠d:=Xgc a1 hdk hi0
 refine⟨λh1 h2=>?_,λh1 h2=>?_,λh1 h2=>?_⟩
 . rcases Xay h1 with ⟨_,e1,f1⟩ | ⟨w1,e1⟩
   . rw[e1];exact⟨h2,f1 _,rfl⟩
   . obtain⟨a,k1,k2,k3⟩:=Xuo hn e1
     rw[hdk] at k1 k2 k3
     simp only[W3v] at k1 k2 k3
     rcases Xay h2 with ⟨_,e2,f2⟩ | ⟨w2,e2⟩
     . rw[e2];exact⟨f2 _,h1,rfl⟩
     . obtain⟨_,_,j2,j3,j4⟩:=Xz5 hd hl (g:=s.2) e2
       refine⟨?_,?_,?_⟩
       . rw[k1]
         refine Xem (s:=s) w2 (j4 _ (by show upd s.2 dk _ d=none;rw[Xak λe=>hne e.symm];exact j2) λo sz xs ho=>?_)
         show upd s.2 dk _ o=_
         rw[Xak λe=>by rw[e,k2] at ho;cases ho];exact ho
       . refine Xem (s:=s) w1 (k3 _ ?_)
         rcases j3 with e | ⟨ob,e⟩<;>rw[e]
         . exact k2
         . show upd s.2 d ob dk=none;rw[Xak hne];exact k2
       . rw[k1]
         rcases j3 with e | ⟨ob,e⟩<;>rw[e]
         . rfl
         . exact Xhc (λe=>hne e.symm)
 . rcases Xay h1 with ⟨_,e1,f1⟩ | ⟨w1,e1⟩
   . rw[e1] at h2;exact h2
   . obtain⟨a,k1,k2,k3⟩:=Xuo hn e1
     rw[hdk] at k1 k2
     simp only[W3v] at k1 k2
     rcases Xay h2 with ⟨_,e2,f2⟩ | ⟨w2,e2⟩
     . exact f2 s.2
     . obtain⟨_,_,j2,j3,j4⟩:=Xz5 (s:=s) hd hl e2
       rw[k1] at j2 j4
       have j2:upd s.2 dk (.var a) d=none:=j2
       rw[Xak λe=>hne e.symm] at j2
       refine Xem (s:=s) w2 (j4 s.2 j2 λo sz xs ho=>?_)
       have ho:upd s.2 dk (.var a) o=_:=ho
       rcases Xaf ho with ⟨_,e⟩ | ⟨_,e⟩
       . cases e
       . exact e
 . rcases Xay h1 with ⟨_,e1,f1⟩ | ⟨w1,e1⟩
   . rw[e1] at h2;exact h2
   . obtain⟨_,_,j2,j3,j4⟩:=Xz5 hd hl (g:=s.2) e1
     rcases Xay h2 with ⟨_,e2,f2⟩ | ⟨w2,e2⟩
     . exact f2 s.2
     . obtain⟨a,k1,k2,k3⟩:=Xuo (s:=(s.1,Xbe s.2 ri.2)) hn e2
       rw[hdk] at k2 k3
       simp only[W3v] at k2 k3
       refine Xem (s:=s) w2 (k3 s.2 ?_)
       rcases j3 with e | ⟨ob,e⟩<;>rw[e] at k2
       . exact k2
       . have k2:upd s.2 d ob dk=none:=k2
         rwa[Xak hne] at k2
theorem Yjq{o:Oper}(ho:Ykr o.op=true){s:S}{r:AV×List (Nat×Ob)}(h:eff tb o s=some r): ∃sz xs,r.1=.lit sz xs:=by
 unfold eff at h
 split at h<;>try cases h
 split at h<;>try cases h
 unfold Ykr at ho
 split at ho<;>try cases ho
 rename_i ho
 rw[ho] at h
 simp only[F,Fp] at h
 split at h<;>try cases h
 rename_i hq
 split at hq<;>try cases hq
 split at hq<;>try cases hq
 split at hq<;>cases hq
 exact⟨_,_,rfl⟩
theorem ZL.aft{E:Env}{LB:List Nat}{L:List Oper}(hL:Xu7 E LB L=true){o:Oper}(ho:o∈L){s:S}(hz:ZL LB s){r:AV×List (Nat×Ob)}(hr:r.1=.un\/Xap o=true\/eff tb o s=some r): ZL LB (aft s o r):=λb hb=>by
 by_cases hd:o.dst=some b
 . rw[Yj2 hd]
   simp only[Xu7,W0g] at hL
   have:=W1n.1 hL.2 o ho
   rw[hd] at this
   simp only[hb,Bool.not_true,Bool.false_or] at this
   rcases hr with hr | hr | hr
   . rw[hr];exact .inr (.inl rfl)
   . obtain⟨x,asx,tys,hc⟩:=Xik hr
     rw[hc] at this;cases this
   . obtain⟨sz,xs,e⟩:=Yjq this hr
     rw[e];exact .inr (.inr ⟨_,_,rfl⟩)
 . rw[Ym3 hd];exact hz b hb
def spL(LB:List Nat)(L:List Oper)(E:Env)(T:Trk)(k i:Oper): Bool:=Yh8 LB L (dsL L) E T k i||Yh8 LB L (dsL L) E T i k||Yfu LB L k i||Yfu LB L i k
def Yoc: St->Bool
 | .o _ _ L _ _ E _=>Xu7 E (Ykq L) L&&Xlx (dsL L) E (trk (dsL L) E L []) L&&Xg6 L (spL (Ykq L) L E (trk (dsL L) E L [])) [] [] L
 | _=>false
theorem Dm.lit{L:List Oper}{E:Env}{T:Trk}{LB:List Nat}(hL:Xu7 E LB L=true)(hT:Xlx (dsL L) E T L=true): Dm tb L (spL LB L E T) λs=>ZT (dsL L) E T s/\ZL LB s:=by
 have fin:∀ {k i:Oper} {s:S} {rk ri:AV×List (Nat×Ob)},Xby L i.dst k=true->Xbe (Xbe s.2 ri.2) rk.2=Xbe (Xbe s.2 rk.2) ri.2->Vm.aft (Vm.aft s i ri) k rk=Vm.aft (Vm.aft s k rk) i ri:=by
  intro k i s rk ri h hg
  unfold Vm.aft
  rw[S.put_g,S.put_g,hg]
  have e1:=S.put_e (s:=s) (g:=Xbe s.2 ri.2) (g':=s.2) (d:=i.dst) (v:=ri.1)
  have e2:=S.put_e (s:=s) (g:=Xbe s.2 rk.2) (g':=s.2) (d:=k.dst) (v:=rk.1)
  rw[e1,e2]
  exact Xkt (s:=s) (λa b ha hb=>Xgc h ha hb) rfl
 have one:∀ {k i:Oper} {s:S} {rk ri:AV×List (Nat×Ob)},Yh8 LB L (dsL L) E T k i=true->ZT (dsL L) E T s/\ZL LB s->efw tb L k s=some rk->efw tb L i s=some ri->efw tb L i (Vm.aft s k rk)=some ri/\efw tb L k (Vm.aft s i ri)=some rk/\Vm.aft (Vm.aft s i ri) k rk=Vm.aft (Vm.aft s k rk) i ri:=by
  intro k i s rk ri h hz h1 h2
  obtain⟨c1,a1,a2,_,hh⟩:=Xf7 (tb:=tb) h
  obtain⟨b1,b2⟩:=hh hz.1 hz.2
  have e:=b1 h1
  exact⟨by rw[Xbl a1,e];exact h2,by rw[Xbl a2];exact(b2 (g:=s.2) h2 rk).1 h1,fin a2 (by rw[e];rfl)⟩
 have two:∀ {k i:Oper} {s:S} {rk ri:AV×List (Nat×Ob)},Yfu LB L k i=true->ZL LB s->efw tb L k s=some rk->efw tb L i s=some ri->efw tb L i (Vm.aft s k rk)=some ri/\efw tb L k (Vm.aft s i ri)=some rk/\Vm.aft (Vm.aft s i ri) k rk=Vm.aft (Vm.aft s k rk) i ri:=by
  intro k i s rk ri h hz h1 h2
  obtain⟨_,_,a1,a2,_⟩:=Xjo h
  obtain⟨b1,b2,b3⟩:=(Xkx (tb:=tb) h hz).1 h1 h2
  exact⟨by rw[Xbl a1];exact b1,by rw[Xbl a2];exact b2,fin a2 b3⟩
 have ncA:∀ {i:Oper} {d:Nat},apD LB i=some d->Xap i=false:=λ{i d} h=>by
  unfold apD at h
  split at h<;>try cases h
  rename_i h1 h2
  unfold Xap;rw[h1];rfl
 refine⟨λ{k i} h=>?_,λ{k i s rk ri} h hz h1 h2=>?_,λ{k i s rk ri} h hz h1 h2=>?_,λ{k s r} hk hc hz h=>?_,λ{k s r} hk hc hz h=>⟨ZT.aft (tb:=tb) hT hk hz.1 (.inr (.inl hc)),ZL.aft (tb:=tb) hL hk hz.2 (.inr (.inl hc))⟩⟩
 . simp only[spL,W3q] at h
   rcases h with ((h | h) | h) | h
   . obtain⟨c1,_,_,⟨d,hd⟩,_⟩:=Xf7 (tb:=tb) h;exact⟨c1,ncA hd⟩
   . obtain⟨c1,_,_,⟨d,hd⟩,_⟩:=Xf7 (tb:=tb) h;exact⟨ncA hd,c1⟩
   . obtain⟨_,c1,_,_,dk,d,_,hd⟩:=Xjo h;exact⟨c1,ncA hd⟩
   . obtain⟨_,c1,_,_,dk,d,_,hd⟩:=Xjo h;exact⟨ncA hd,c1⟩
 . simp only[spL,W3q] at h
   rcases h with ((h | h) | h) | h
   . exact one h hz h1 h2
   . obtain⟨p1,p2,p3⟩:=one h hz h2 h1;exact⟨p2,p1,p3.symm⟩
   . exact two h hz.2 h1 h2
   . obtain⟨p1,p2,p3⟩:=two h hz.2 h2 h1;exact⟨p2,p1,p3.symm⟩
 . simp only[spL,W3q] at h
   rcases h with ((h | h) | h) | h
   . obtain⟨c1,a1,a2,_,hh⟩:=Xf7 (tb:=tb) h
     rw[Xbl a1,(hh hz.1 hz.2).1 h1] at h2
     exact h2
   . obtain⟨c1,a1,a2,_,hh⟩:=Xf7 (tb:=tb) h
     rw[Xbl a2] at h2
     exact((hh hz.1 hz.2).2 (g:=s.2) h1 ri).2 h2
   . obtain⟨_,_,a1,a2,_⟩:=Xjo h
     rw[Xbl a1] at h2
     exact(Xkx (tb:=tb) h hz.2).2.1 h1 h2
   . obtain⟨_,_,a1,a2,_⟩:=Xjo h
     rw[Xbl a2] at h2
     exact(Xkx (tb:=tb) h hz.2).2.2 h1 h2
 . have hr:r.1=.un\/Xap k=true\/eff tb k s=some r:=by
    rcases Xay h with ⟨hw,_,e⟩ | ⟨_,e⟩
    . refine .inl ?_
      unfold efw at h
      rw[hw] at h
      simp only at h
      split at h<;>cases h
      rfl
    . exact .inr (.inr e)
   exact⟨ZT.aft (tb:=tb) hT hk hz.1 hr,ZL.aft (tb:=tb) hL hk hz.2 hr⟩
end
section
variable{c:Cx}{s:St}
theorem Dl{s':St}(h:nxD c.tb c.n s=some s')(k:StP c s')(hchk:Yoc s'=true:=by exact rfl): StP c s:=by
 unfold nxD at h
 split at h<;>try cases h
 rename_i hr
 split at h<;>cases h
 rename_i hok
 simp only[Yoc,W0g] at hchk
 obtain⟨⟨h1,h2⟩,h3⟩:=hchk
 refine go 1000 hr (J.draw (Dm.lit h1 h2) ⟨ZT.start h2,λb hb=>.inl ?_⟩ hok h3 k)
 simp only[Xu7,W0g] at h1
 have:=W1n.1 h1.1 b (Yl9.1 hb)
 rw[W1u] at this
 exact Xbi this
variable{p:Pl}
noncomputable def nxQ(tb:Nat->Option TI)(n:Nat)(s:St): Option (Pl×Nat×Nat×Nat×Nat×List D×AV):=match nxA tb n s with
 | some (p,o,[a,b])=>match o.op with
  | .call ⟨.builtin .append,_,⟨[T,T']⟩⟩=>match Nat.beq T T',tb T,look p.H (o.dst.getD 0) with
   | true,some ti,none=>match Nat.ble ti.eb 128,ti.z,b with
    | true,.sl sz _,.own q s l m=>match look p.H q with
     | some (.arr s' xs)=>match Nat.beq s sz&&Nat.beq s' sz with
      | true=>some (p,o.dst.getD 0,sz,l,m,xs,a)
      | false=>none
     | _=>none
    | true,.sl sz _,.ow3 q s l m=>match look p.H q with
     | some (.arr s' xs)=>match Nat.beq s sz&&Nat.beq s' sz with
      | true=>some (p,o.dst.getD 0,sz,l,m,xs,a)
      | false=>none
     | _=>none
    | _,_,_=>none
   | _,_,_=>none
  | _=>none
 | _=>none
theorem Xuk{d sz l m:Nat}{xs ys:List D}{a v:AV}{us:Hpl}(h:nxQ c.tb c.n s=some (p,d,sz,l,m,xs,a))(hl:l+m<=xs.length)(hy:(xs.drop l).take m=ys)(hF:∀ti:TI,ti.eb<=128->Xlt d (look p.H) ti sz ys a=some (v,us))(k:p.nx' c v us): StP c s:=by
 unfold nxQ at h
 split at h<;>try cases h
 rename_i p' o a' b hA
 split at h<;>try cases h
 rename_i asx T T' ho
 split at h<;>try cases h
 rename_i ti hT hti hd
 have hT:=W0e hT
 subst hT
 have fin:∀ {sz' xs0},ti.eb<=128->ti.z=.sl sz' xs0->Xkl (look p'.H) ti.z sz' b=some ys->(p',o.dst.getD 0,sz',a')=(p,d,sz,a)->StP c s:=by
  intro sz' xs0 he hz hs e
  injection e with e1 e2;injection e2 with e2 e3;injection e3 with e3 e4
  subst e1;subst e2;subst e3;subst e4
  refine Xbr hA ?_ k
  rw[ho]
  simp only[F,if_true,hti,hd,hz]
  rw[hz] at hs
  rw[hs]
  exact hF ti he
 split at h
 . rename_i he hz
   split at h<;>try cases h
   rename_i hq
   split at h<;>cases h
   rename_i hs
   rw[W0g] at hs
   have h1:=W0e hs.1
   have h2:=W0e hs.2
   exact fin (W1g he) hz (by simp only[Xkl,hq];rw[if_pos ⟨h2,h1,hl⟩,hy]) rfl
 . rename_i he hz
   split at h<;>try cases h
   rename_i hq
   split at h<;>cases h
   rename_i hs
   rw[W0g] at hs
   have h1:=W0e hs.1
   have h2:=W0e hs.2
   exact fin (W1g he) hz (by simp only[Xkl,hq];rw[if_pos ⟨h2,h1,hl⟩,hy]) rfl
 . cases h
theorem AqN{d sz l m:Nat}{xs:List D}(zs:List D)(h:nxQ c.tb c.n s=some (p,d,sz,l,m,xs,.nil))(hl:l+m<=xs.length)(hz:(xs.drop l).take m=zs)(hr:zs.length<=1099511627776)(k:p.nx' c (.gr d sz zs) [(d,.tok zs.length sz)]): StP c s :=
 Xuk h hl hz (λti he=>by simp[Xlt,Xc6 hr he]) k
theorem Aq3{d sz o n l m:Nat}{xs ws:List D}(zs:List D)(h:nxQ c.tb c.n s=some (p,d,sz,l,m,xs,.ow3 o sz 0 n))(ht:look p.H o=some (.arr sz ws))(hl:l+m<=xs.length)(hn:n<=ws.length)(hz:ws.take n++(xs.drop l).take m=zs)(h0:0<m)(hr:zs.length<=1099511627776)(k:p.nx' c (.own d sz 0 zs.length) [(d,.arr sz zs)]): StP c s:=by
 subst hz
 have e1:((xs.drop l).take m).length=m:=by simp;omega
 have e:(ws.take n++(xs.drop l).take m).length=n+m:=by rw[W0d,e1,W0j];omega
 rw[e] at hr k
 refine Xuk h hl rfl (λti he=>?_) k
 simp only[Xlt,ht]
 rw[if_pos ⟨by rw[e1];exact Xc6 hr he,rfl,hn,rfl,rfl⟩,if_neg (by omega),e1]
theorem Yog{d sz o n l m:Nat}{xs ws:List D}(h:nxQ c.tb c.n s=some (p,d,sz,l,m,xs,.ow3 o sz 0 n))(ht:look p.H o=some (.arr sz ws))(hl:l+m<=xs.length)(hn:n<=ws.length)(h0:m=0)(hr:n<=1099511627776)(k:p.nx' c (.ow3 o sz 0 n) []): StP c s:=by
 subst h0
 refine Xuk (ys:=[]) h hl (W5c) (λti he=>?_) k
 simp only[Xlt,ht,W4j,W2n]
 rw[if_pos ⟨Xc6 hr he,rfl,hn,rfl,rfl⟩,if_pos trivial]
end
end Go.Vm
namespace Go.Proofs.YtfjafaehfjjaiaaGreatDoor.R9
open Go Go.Vm Go.Num Go.Tow Go.Proofs.YtfjafaehfjjaiaaGreatDoor
theorem Yni{a i:Nat}(hi:i<=63): arB .shr .i64 a i (a/2^i:Nat):=show _/\_ from⟨by omega,by
 rw[show min (Int.toNat (i:Int)) (IntKind.bits .i64)=i by show min (Int.toNat (i:Int)) 64=i;omega,W1r _ (Int.pow_nonneg (by decide)),show (2:Int)^i=((2^i:Nat):Int) by simp]
 exact(Int.natCast_ediv _ _).symm⟩
theorem Ynk{a:Nat}: arB .rem .i64 a 2 (a%2:Nat):=show _/\_ from⟨by decide,Xrk a 2⟩
theorem num0{x:Rat}: Xba x.num 0≠0↔x≠0:=by
 rw[Xhg]
 rcases Xbb x with ⟨h,e⟩ | ⟨h,e⟩ | ⟨h,e⟩<;>rw[e]
 . exact⟨λ_ e=>by rw[e] at h;exact absurd h (by decide),λ_=>by decide⟩
 . exact⟨λh=>absurd rfl h,λh'=>absurd h h'⟩
 . exact⟨λ_ e=>by rw[e] at h;exact absurd h (by decide),λ_=>by decide⟩
theorem Xuh{l:List Rat}{p i:Nat}(hl:Ps p l)(hp:p<=8796093022208)(hi:i<=63)(hn:l.length<=1048576): C0 261 [.d (dqs l),.d (.int .i64 i)] (·=.b (dc (oc l i))):=by
 refine En Tryz.func261 λ_ _ _=>?_
 refine Lo (λk:Nat=>[(0,.d (dqs l)),(1,.d (.int .i64 i)),(5,.d (.int .i64 k))]) (λ_=>[]) (λk=>k<=l.length/\∀q x,q<k->l[q]?=some x->q/2^i%2=1->x=0) (λk=>l.length-k) 0 [] rfl ⟨by omega,λq x h=>by omega⟩ λk ⟨hk,ht⟩=>?_
 refine By rfl (λh=>?_) λh=>?_<;>simp only[lq] at h
 . obtain⟨x,hx⟩:=qat (l:=l) (k:=k) (by omega)
   have next:(k/2^i%2=1->x=0)->k+1<=l.length/\∀q y,q<k+1->l[q]?=some y->q/2^i%2=1->y=0:=λh1=>⟨by omega,λq y hq hy hb=>by
    by_cases e:q=k
    . subst e;rw[hx] at hy;injection hy with hy;rw[<-hy];exact h1 hb
    . exact ht q y (by omega) hy hb⟩
   refine Ar (k/2^i:Nat) rfl ?_ (Yni hi)
   refine Ar (k/2^i%2:Nat) rfl ?_ Ynk
   refine By rfl (λh1=>?_) λh1=>?_
   . refine Ix k rfl (mp hx) ?_
     refine Ce rfl (R2.Sign_ok (hl x (W0f hx)) hp) ?_
     refine By rfl (λh2=>?_) λh2=>?_
     . exact R1 rfl (.bp ⟨λ_=>⟨k,x,hx,by omega,num0.1 h2⟩,λ_=>rfl⟩)
     . refine Ar (k+1:Nat) rfl ?_
       exact Bk (k+1) [] rfl (next λ_=>W1b λh3=>h2 (num0.2 h3)) (by show l.length-(k+1)<l.length-k;omega)
   . refine Ar (k+1:Nat) rfl ?_
     exact Bk (k+1) [] rfl (next λh3=>absurd (by omega) h1) (by show l.length-(k+1)<l.length-k;omega)
 . exact R1 rfl (.bp ⟨nofun,λ⟨q,x,h1,h2,h3⟩=>absurd (ht q x (by have:=(W0n.1 h1).1;omega) h1 h2) h3⟩)
theorem Xsp{α:Type}{l:List α}{k i:Nat}{x:α}(hx:l[k]?=some x): wo (l.take (k+1)) i=wo (l.take k) i++(if k/2^i%2=0 then [x] else []):=by
 have hk:=(W0n.1 hx).1
 unfold wo
 rw[W2d,hx,Xnl,W0j,W2f (by omega),W1k]
 rfl
theorem Xri{l:List Rat}{i:Nat}(hi:i<=63)(hn:l.length<=1048576): C0 262 [.d (dqs l),.d (.int .i64 i)] (·=.d (dqs (wo l i))):=by
 have hlen:∀k,(wo (l.take k) i).length<=k:=λk=>by
  induction k with
  | zero=>simp[wo,woA]
  | succ k ih =>
   by_cases h:k<l.length
   . rw[Xsp (W0c h),W0d]
     split<;>simp<;>omega
   . rw[W0b (by omega)]
     rw[W0b (by omega)] at ih;omega
 refine En Tryz.func262 λ_ _ _=>?_
 refine Nl 5 5 4 rfl ?_
 refine Lo (λk:Nat=>[(0,.d (dqs l)),(1,.d (.int .i64 i)),(5,.gr 5 4 ((wo (l.take k) i).map dq)),(6,.d (.int .i64 k))]) (λk=>[(5,.tok ((wo (l.take k) i).map dq).length 4)]) (λk=>k<=l.length) (λk=>l.length-k) 0 [] rfl (by omega) λk hk=>?_
 refine By rfl (λh=>?_) λh=>?_<;>simp only[lq] at h
 . obtain⟨x,hx⟩:=qat (l:=l) (k:=k) (by omega)
   have hw:=Xsp (i:=i) hx
   have hl:=hlen (k+1)
   refine Ar (k/2^i:Nat) rfl ?_ (Yni hi)
   refine Ar (k/2^i%2:Nat) rfl ?_ Ynk
   refine By rfl (λh1=>?_) λh1=>?_
   . rw[if_pos (by omega)] at hw
     refine Ix k rfl (mp hx) ?_
     refine ApG ((wo (l.take (k+1)) i).map dq) rfl (by rw[hw];simp) (by simp;omega) ?_
     refine Ar (k+1:Nat) rfl ?_
     exact Bk (k+1) [(24,5)] rfl (show k+1<=l.length by omega) (by show l.length-(k+1)<l.length-k;omega)
   . rw[if_neg (by omega),W4l] at hw
     refine Ar (k+1:Nat) rfl ?_
     exact Bk (k+1) [] rfl (show k+1<=l.length by omega) (by show l.length-(k+1)<l.length-k;omega) (by exact⟨by rw[hw];rfl,by rw[hw];rfl,rfl,rfl,rfl⟩)
 . rw[W0b (by omega)]
   exact R1 rfl (.gr rfl)
end Go.Proofs.YtfjafaehfjjaiaaGreatDoor.R9
namespace Go.Tow
open Go Go.Num Go.Proofs.YtfjafaehfjjaiaaGreatDoor
def nd(x:Nm)(i:Nat): Prop:=oc (toL x.k x.a) i\/∃q l,i<q/\(toT x.k x.t)[q]?=some l/\oc l i
def Tm(x:Nm): Prop:=∀i,i<x.k->nd x i
theorem Ycl{α:Type}{i:Nat}{l:List α}: ∀ {p n:Nat} {x:α},l[n]?=some x->(p+n)/2^i%2=0->x∈woA i p l:=by
 induction l with
 | nil=>intro p n x h;simp at h
 | cons y l ih =>
  intro p n x h hb
  cases n with
  | zero =>
   simp at h
   subst h
   simp only[woA]
   rw[if_pos (by simpa using hb)];exact W0l ..
  | succ n =>
   have:=ih (p:=p+1) (n:=n) (x:=x) (by simpa using h) (by rw[<-hb];congr 2;omega)
   simp only[woA]
   split
   . exact W0p _ this
   . exact this
theorem Yda{k i:Nat}{b:El (k+1)}(hi:i<=k)(ho:¬oc (toL (k+1) b) i)(h:rm k i b=zero k): b=zero (k+1):=(Xam (k+1) b).2 λx hx=>W1b λh0=>by
 obtain⟨p,hp⟩:=W3a hx
 by_cases hb:p/2^i%2=1
 . exact ho ⟨p,x,hp,hb,h0⟩
 . have h1:x∈woA i 0 (toL (k+1) b):=Ycl hp (by rw[W1k];omega)
   have h2:toL k (rm k i b)=woA i 0 (toL (k+1) b):=Xfy hi
   rw[<-h2,h] at h1
   exact h0 ((Xam k (zero k)).1 rfl x h1)
theorem Yhi{k:Nat}{a:El (k+1)}(h:a.2≠zero k): oc (toL (k+1) a) k:=W1b λho=>h ((Xdl ho).1 rfl)
theorem Ydp{k i:Nat}{a:El (k+1)}(hi:i<k)(h:oc (toL k a.1) i): oc (toL (k+1) a) i:=W1b λho=>((Xdl ho).2 hi).1 h
theorem Xyx{k i:Nat}{a:El (k+1)}(hi:i<k)(h:oc (toL k a.2) i): oc (toL (k+1) a) i:=W1b λho=>((Xdl ho).2 hi).2 h
theorem Ybj{k i:Nat}{a:El k}(h:k<=i): ¬oc (toL k a) i:=λ⟨p,x,h1,h2,_⟩=>by
 have:=(W0n.1 h1).1
 rw[Xab] at this
 rw[W4g (W0v this (W0m (by decide) h))] at h2
 cases h2
theorem Xyw{k i:Nat}{a:El (k+1)}(h:oc (toL (k+1) a) i): oc (toL k a.1) i\/oc (toL k a.2) i\/(i=k/\a.2≠zero k):=by
 obtain⟨p,x,h1,h2,h3⟩:=h
 have h1:(toL k a.1++toL k a.2)[p]?=some x:=h1
 by_cases hp:p<2^k
 . rw[W1a (by rw[Xab];exact hp)] at h1
   exact .inl ⟨p,x,h1,h2,h3⟩
 . rw[W0u (by rw[Xab];omega),Xab] at h1
   have hlt:=(W0n.1 h1).1
   rw[Xab] at hlt
   by_cases hik:i<k
   . refine .inr (.inl ⟨p-2^k,x,h1,?_,h3⟩)
     obtain⟨d,hd⟩:∃d,k=i+1+d:=⟨k-i-1,by omega⟩
     have e:p=p-2^k+2^i*(2*2^d):=by
      have:2^k=2^i*(2*2^d):=by rw[hd,W0x,W0y,W0w]
      omega
     rw[e,W6o _ _ (W0r i),W5f] at h2
     exact h2
   . by_cases e:i=k
     . exact .inr (.inr ⟨e,λh0=>h3 ((Xam k a.2).1 h0 x (W0f h1))⟩)
     . exfalso
       have:p<2^i:=W0v (show p<2^(k+1) by rw[W0y];omega) (W0m (by decide) (by omega))
       rw[W4g this] at h2
       cases h2
theorem Yhj: ∀ {k i j:Nat} {a:El (k+1)},i<=j->j<k->¬oc (toL (k+1) a) i->oc (toL (k+1) a) (j+1)->oc (toL k (rm k i a)) j:=by
 intro k
 induction k with
 | zero=>intro i j a _ h;omega
 | succ k ih =>
  intro i j a hij hj hno h
  obtain⟨n1,n2⟩:=(Xdl hno).2 (show i<k+1 by omega)
  rw[show rm (k+1) i a=pr (rm k i a.1) (rm k i a.2) from if_neg (by omega)]
  rcases Xyw h with h | h | ⟨h,h0⟩
  . have hjk:j<k:=by
     by_cases e:j<k
     . exact e
     . exact absurd h (Ybj (by omega))
    exact Ydp hjk (ih hij hjk n1 h)
  . have hjk:j<k:=by
     by_cases e:j<k
     . exact e
     . exact absurd h (Ybj (by omega))
    exact Xyx hjk (ih hij hjk n2 h)
  . obtain rfl:j=k:=by omega
    exact Yhi λe=>h0 (Yda hij n2 e)
theorem Yhr{m i j:Nat}{T:Tw (m+1)}{c:El (m+1)}(hi:i<=m)(hno:¬nd ⟨m+1,T,c⟩ i)(hij:i<=j)(hj:j<m)(h:nd ⟨m+1,T,c⟩ (j+1)): nd ⟨m,rmT m i T,rm m i c⟩ j:=by
 rcases h with h | ⟨q,l,hq,hl,ho⟩
 . exact .inl (Yhj hij hj (λe=>hno (.inl e)) h)
 . have hqm:q<(toT (m+1) T).length:=(W0n.1 hl).1
   rw[Xaa] at hqm
   obtain⟨e,e1,_,_⟩:=Tw.at (t:=T) hqm
   have hl:(toT (m+1) T)[q]?=some l:=hl
   rw[hl] at e1
   injection e1 with e1
   subst e1
   have hn:¬oc (toL q e) i:=λh=>hno (.inr ⟨q,_,by omega,hl,h⟩)
   obtain⟨q,rfl⟩:∃q',q=q'+1:=⟨q-1,by omega⟩
   refine .inr ⟨q,wo (toL (q+1) e) i,by omega,?_,?_⟩
   . show (toT m (rmT m i T))[q]?=_
     rw[Xkf hi,W0u (by rw[W0j,Xaa];omega),W0j,Xaa,W2f (by omega),W1p,W1y,show i+1+(q-i)=q+1 by omega,hl]
     rfl
   . rw[<-Xfy (show i<=q by omega)]
     exact Yhj hij (by omega) hn ho
end Go.Tow
namespace Go.Proofs.YtfjafaehfjjaiaaGreatDoor.R9
open Go Go.Vm Go.Num Go.Tow Go.Proofs.YtfjafaehfjjaiaaGreatDoor
section
def wl(i j:Nat)(zs:List (List Rat)): List (List Rat):=zs.mapIdx λq r=>if i<q/\q<j then wo r i else r
theorem Xhp{i j q:Nat}{zs:List (List Rat)}: (wl i j zs)[q]?=zs[q]?.map λr=>if i<q/\q<j then wo r i else r:=by unfold wl;rw[List.getElem?_mapIdx]
theorem Xft{i j:Nat}{zs:List (List Rat)}: (wl i j zs).length=zs.length:=by unfold wl;simp
theorem Xpc{i:Nat}{zs:List (List Rat)}: wl i (i+1) zs=zs:=W3y λq=>by
 rw[Xhp]
 cases zs[q]? with
 | none=>rfl
 | some r=>simp only[W4k];rw[if_neg (by omega)]
theorem Yak{i j:Nat}{zs:List (List Rat)}{r:List Rat}(hi:i<j)(h:zs[j]?=some r): (wl i j zs).set j (wo r i)=wl i (j+1) zs:=W3y λq=>by
 have hj:=(W0n.1 h).1
 rw[Xhp,List.getElem?_set]
 by_cases e:j=q
 . subst e
   rw[if_pos rfl,if_pos (by rw[Xft];exact hj),h,W4k,if_pos ⟨hi,by omega⟩]
 . rw[if_neg e,Xhp]
   cases zs[q]? with
   | none=>rfl
   | some r=>simp only[W4k];congr 1;split<;>split<;>first | rfl | omega
theorem Yal{m i:Nat}{T:Tw (m+1)}{zs:List (List Rat)}(hz:zs.take (m+1)=toT (m+1) T)(hi:i<=m): (wl i (m+1) zs).take i++((wl i (m+1) zs).drop (i+1)).take (m+1-(i+1))=toT m (rmT m i T):=by
 rw[Xkf hi,<-hz]
 congr 1
 . refine W3y λq=>?_
   rw[W1e,W1e,W1e,Xhp]
   split
   . rw[if_pos (by omega)]
     cases zs[q]? with
     | none=>rfl
     | some r=>simp only[W4k];rw[if_neg (by omega)]
   . rfl
 . refine W3y λq=>?_
   rw[W1e,W1y,W1p,W1y,W1e,Xhp]
   split
   . rw[if_pos (by omega)]
     cases zs[i+1+q]? with
     | none=>rfl
     | some r=>simp only[W4k];rw[if_pos (by omega)]
   . rw[if_neg (by omega)];rfl
open Classical in
noncomputable def trS(n:Nat)(z:Nm): Nm:=if nd z n then z else match z with
 | ⟨0,t,a⟩=>⟨0,t,a⟩
 | ⟨m+1,t,a⟩=>⟨m,rmT m n t,rm m n a⟩
noncomputable def trF: Nat->Nm->Nm
 | 0,z=>z
 | n+1,z=>trF n (trS n z)
theorem Xke{n:Nat}{z:Nm}(h:nd z n): trF (n+1) z=trF n z:=congrArg (trF n) (if_pos h)
theorem Xs3{n m:Nat}{t:Tw (m+1)}{a:Tow.El (m+1)}(h:¬nd ⟨m+1,t,a⟩ n): trF (n+1) ⟨m+1,t,a⟩=trF n ⟨m,rmT m n t,rm m n a⟩:=congrArg (trF n) (if_neg h)
section
variable{K:Nat}{G:Tw K}{S:List (Tow.El K)}{r p:Nat}{x:Nm}{v:Tow.El K}
structure Tst where
 n:Nat
 kd:Nat
 z:Nm
 zs:List (List Rat)
def Als(P:Rat->Prop)(z:Nm): Prop:=(∀q∈toL z.k z.a,P q)/\∀l∈toT z.k z.t,∀q∈l,P q
def TI(y:Nm)(P:Rat->Prop)(G:Tw K)(S:List (Tow.El K))(r p:Nat)(v:Tow.El K)(s:Tst): Prop:=(NOk G S r p s.z v/\Als P s.z/\trF s.n s.z=y)/\s.n<=s.z.k/\s.zs.take s.z.k=toT s.z.k s.z.t/\(s.kd=0->s.z.k=0)/\(s.kd=1->s.zs.length=s.z.k)/\(3<=s.kd->s.n=0/\s.zs.length=s.z.k)/\∀j,s.n<=j->j<s.z.k->nd s.z j
abbrev TH(s:Tst): Hpl:=(2,.var (.st (.pr .nil .nil)))::match s.kd with
 | 0=>[(3,.var (.st (.pr (.lit 1 []) (.d (de s.z.a)))))]
 | 1=>[(3,.var (.st (.pr (.own 11 1 0 (s.zs.map dqs).length) (.d (de s.z.a))))),(11,.arr 1 (s.zs.map dqs))]
 | 2=>[(3,.var (.st (.pr (.ow3 11 1 0 s.z.k) (.d (de s.z.a))))),(11,.arr 1 (s.zs.map dqs))]
 | _=>[(3,.var (.st (.pr (.gr 11 1 (s.zs.map dqs)) (.d (de s.z.a))))),(11,.tok (s.zs.map dqs).length 1)]
abbrev TH'(kd m:Nat)(c:List Rat)(zs ws:List (List Rat)): Hpl:=(2,.var (.st (.pr .nil .nil)))::match kd with
 | 1=>[(3,.var (.st (.pr (.own 11 1 0 (zs.map dqs).length) (.d (dqs c))))),(11,.arr 1 (ws.map dqs))]
 | _=>[(3,.var (.st (.pr (.ow3 11 1 0 (m+1)) (.d (dqs c))))),(11,.arr 1 (ws.map dqs))]
theorem Xxi{P:Rat->Prop}(hP:Als P x)(hG:red K G)(hS:S.length<=3)(hx:NOk G S r p x v)(hr:r<=8796093022208)(hp:p<=8796093022208): C0 201 [.d (dN x)] λw=>∃z:Nm,w=.d (dN z)/\NOk G S r p z v/\(Tm z/\Als P z)/\z=trF x.k x:=by
 have hGr:=Xad hG
 have hk3:=hx.le hGr hS
 obtain⟨k,t,a⟩:=x
 obtain⟨y,hy⟩:∃y,trF k ⟨k,t,a⟩=y:=⟨_,rfl⟩
 have hk3:k<=3:=hk3
 have hlen:=Xaa k t
 refine En Tryz.func201 λ_ _ _=>?_
 refine Dl rfl ?_
 by_cases k0:k=0
 . subst k0
   refine ApE rfl rfl (by decide) ?_
   refine Ar (-1) rfl ?_ (show arB .sub .i64 0 1 (-1) from wr rfl (by simp[inK]))
   refine Lo (λ(s:Tst)=>[(2,.ptr 2 0),(3,.ptr 3 0),(4,.d (.int .i64 ((s.n:Int)-1)))]) (λs=>TH s) (λs=>TI y P G S r p v s/\s.kd=0/\s.n=0) (λs=>s.n) ⟨0,0,⟨0,t,a⟩,[]⟩ [] rfl ⟨⟨⟨hx,hP,hy⟩,W0a _,rfl,λ_=>rfl,nofun,λh=>absurd h (show ¬3<=0 by decide),λj _ hj=>absurd hj (W3h _)⟩,rfl,rfl⟩ (λ⟨n,kd,⟨m,T,c⟩,zs⟩ hI=>?_)
   obtain⟨⟨⟨h1,hF⟩,h2,h3,h4,h5,h6,h8⟩,rfl,rfl⟩:=hI
   obtain rfl:=h4 rfl
   refine No rfl (show ¬((0:Nat):Int)-1>=0 by decide) ?_
   exact Rt rfl (.one (.sd (.pd (.lit rfl) (.eq rfl))) rfl rfl) ⟨_,rfl,h1,⟨λi hi=>absurd hi (W3h _),hF.1⟩,hF.2.trans hy.symm⟩
 . refine ApL ((toT k t).map dqs) rfl rfl (by simp[hlen];omega) (by simp[hlen];omega) ?_
   refine Ar (k-1) rfl ?_ (wr (by simp[hlen]) (by simp only[inK];omega))
   refine Lo (λ(s:Tst)=>[(2,.ptr 2 0),(3,.ptr 3 0),(4,.d (.int .i64 ((s.n:Int)-1)))]) (λs=>TH s) (λs=>TI y P G S r p v s/\s.kd≠0) (λs=>s.n) ⟨k,1,⟨k,t,a⟩,toT k t⟩ [] rfl ⟨⟨⟨hx,hP,hy⟩,W0a _,W0b (by rw[hlen];exact W0a _),nofun,λ_=>hlen,λh=>absurd h (show ¬3<=1 by decide),λj h1 h2=>absurd h2 (W5t.2 h1)⟩,show 1≠0 by decide⟩ (λ⟨n,kd,⟨m,T,c⟩,zs⟩ hI=>?_)
   obtain⟨⟨⟨h1,hF⟩,h2,h3,h4,h5,h6,h8⟩,h7⟩:=hI
   simp only at h1 h2 h3 h4 h5 h6 h7 h8
   have hm3:m<=3:=h1.le hGr hS
   have hT:TS r m T:=h1.r
   have hc:Sz p (toL m c):=h1.p
   have hcl:=Xab m c
   have hpm:=p16 (show m<=16 by omega)
   have hTl:=Xaa m T
   have hzl:m<=zs.length:=by have:=congrArg List.length h3;rw[W0j,hTl] at this;omega
   cases n with
   | zero =>
    refine No rfl (show ¬((0:Nat):Int)-1>=0 by decide) ?_
    match kd,h5,h6,h7 with
    | 1,h5,_,_ =>
     exact Rt rfl (.one (.sd (.pd (.own rfl (by omega) (by rw[W1d,W2j,<-h3,W0b (by omega)])) (.eq rfl))) rfl rfl) ⟨⟨m,T,c⟩,rfl,h1,⟨λi hi=>h8 i (W0z _) hi,hF.1⟩,hF.2.trans hy.symm⟩
    | 2,_,_,_ =>
     exact Rt rfl (.one (.sd (.pd (.ow3 rfl (by simp;omega) (by rw[W1d,<-W2e,h3])) (.eq rfl))) rfl rfl) ⟨⟨m,T,c⟩,rfl,h1,⟨λi hi=>h8 i (W0z _) hi,hF.1⟩,hF.2.trans hy.symm⟩
    | kd+3,_,h6,_ =>
     exact Rt rfl (.one (.sd (.pd (.gr (by rw[<-h3,W0b (by have:=(h6 (by omega)).2;omega)])) (.eq rfl))) rfl rfl) ⟨⟨m,T,c⟩,rfl,h1,⟨λi hi=>h8 i (W0z _) hi,hF.1⟩,hF.2.trans hy.symm⟩
   | succ i =>
    obtain⟨m,rfl⟩:∃m',m=m'+1:=⟨m-1,by omega⟩
    have hkd:kd=1\/kd=2:=by
     have:¬3<=kd:=λh=>by have:=(h6 h).1;omega
     omega
    let need:Nat->Nat->Prop:=λi j=>oc (toL (m+1) c) i\/∃q l,i<q/\q<j/\(toT (m+1) T)[q]?=some l/\oc l i
    have need0:dc (oc (toL (m+1) c) i)=true↔need i (i+1):=by
     rw[Xah];exact⟨.inl,λh=>h.elim id λ⟨q,l,a1,a2,_⟩=>by omega⟩
    have needS:∀ {j:Nat} {l:List Rat},(toT (m+1) T)[j]?=some l->i+1<=j->(need i (j+1)↔need i j\/oc l i):=λ{j l} hl hij=>by
     refine⟨λh=>h.elim (λh=>.inl (.inl h)) λ⟨q,l',a1,a2,a3,a4⟩=>?_,λh=>h.elim (λh=>h.elim .inl λ⟨q,l',a1,a2,a3,a4⟩=>.inr ⟨q,l',a1,by omega,a3,a4⟩) λh=>.inr ⟨j,l,by omega,by omega,hl,h⟩⟩
     by_cases e:q=j
     . subst e;rw[hl] at a3;injection a3 with a3;subst a3;exact .inr a4
     . exact .inl (.inr ⟨q,l',a1,by omega,a3,a4⟩)
    have rad:∀j,j<m+1->∃l,(toT (m+1) T)[j]?=some l/\zs[j]?=some l/\Sz r l:=λj hj=>by
     obtain⟨e,e1,e2,_⟩:=Tw.at (t:=T) hj
     refine⟨_,e1,?_,e2 r hT⟩
     rw[<-h3,W1e,if_pos hj] at e1;exact e1
    have rlen:∀ {j:Nat} {l:List Rat},(toT (m+1) T)[j]?=some l->l.length=2^j:=λh=>(TS.pt hT _ _ h).1
    have nod:¬need i (m+1)->¬nd ⟨m+1,T,c⟩ i:=λh e=>h (e.elim .inl λ⟨q,l,a1,a3,a4⟩=>.inr ⟨q,l,a1,by have:=(W0n.1 a3).1;rwa[hTl] at this,a3,a4⟩)
    have out:¬need i (m+1)->(NOk G S r p ⟨m,rmT m i T,rm m i c⟩ v/\Als P ⟨m,rmT m i T,rm m i c⟩/\trF i ⟨m,rmT m i T,rm m i c⟩=y)/\toL m (rm m i c)=wo (toL (m+1) c) i:=λh=>by
     have him:i<=m:=by omega
     obtain⟨ρ,a1,a2⟩:=h1.ex
     refine⟨⟨⟨⟨skip i ρ,a1.rm hGr him λj l hj hl ho=>h (.inr ⟨j,l,hj,by have:=(W0n.1 hl).1;rw[hTl] at this;omega,hl,ho⟩),by rw[<-a2];exact Yep him λho=>h (.inl ho)⟩,hT.rm him,?_⟩,⟨?_,?_⟩,(Xs3 (nod h)).symm.trans hF.2⟩,Xfy him⟩
     . show Sz p (toL m (rm m i c))
       rw[Xfy him];exact hc.sub λx hx=>Xe6 hx
     . show ∀q∈toL m (rm m i c),P q
       rw[Xfy him];exact λq hq=>hF.1.1 q (Xe6 hq)
     . show ∀l∈toT m (rmT m i T),∀q∈l,P q
       rw[Xkf him]
       intro l hl q hq
       rcases W1s.1 hl with hl | hl
       . exact hF.1.2 l (W4e hl) q hq
       . obtain⟨l',hl',rfl⟩:=W2y.1 hl
         exact hF.1.2 l' (W4f hl') q (Xe6 hq)
    have keep:need i (m+1)->∀j,i<=j->j<m+1->nd ⟨m+1,T,c⟩ j:=λh j a b=>by
     by_cases e:i=j
     . subst e
       exact h.elim .inl λ⟨q,l,a1,_,a3,a4⟩=>.inr ⟨q,l,a1,a3,a4⟩
     . exact h8 j (by omega) b
    have gone:¬need i (m+1)->∀j,i<=j->j<m->nd ⟨m,rmT m i T,rm m i c⟩ j:=λh j a b=>Yhr (by omega) (λe=>h (e.elim .inl λ⟨q,l,a1,a3,a4⟩=>.inr ⟨q,l,a1,by have:=(W0n.1 a3).1;rwa[hTl] at this,a3,a4⟩)) a b (h8 (j+1) (by omega) (by omega))
    refine Yes rfl (show ((i+1:Nat):Int)-1>=0 by omega) ?_
    have ei:((i+1:Nat):Int)-1=i:=by omega
    have hoc:∀ {l:List Rat} {p:Nat},Ps p l->p<=8796093022208->l.length<=1048576->C0 261 [.d (dqs l),.d (.int .i64 (((i+1:Nat):Int)-1))] (·=.b (dc (oc l i))):=λh1 h2 h3=>by
     have:=Xuh (i:=i) h1 h2 (by omega) h3
     rwa[<-ei] at this
    have hwo:∀ {l:List Rat},l.length<=1048576->C0 262 [.d (dqs l),.d (.int .i64 (((i+1:Nat):Int)-1))] (·=.d (dqs (wo l i))):=λh=>by
     have:=Xri (i:=i) (by omega) h
     rwa[<-ei] at this
    rcases hkd with rfl | rfl
    . refine Ce rfl (hoc (l:=toL (m+1) c) hc.ps hp (by omega)) ?_
      refine Ar (i+1:Nat) rfl ?_ (wr (show ((i+1:Nat):Int)-1+1=((i+1:Nat):Int) by omega) (by simp only[inK];omega))
      refine Lo (λ(q:Nat×Bool)=>[(2,.ptr 2 0),(3,.ptr 3 0),(4,.d (.int .i64 (((i+1:Nat):Int)-1))),(5,.b q.2),(6,.d (.int .i64 q.1))]) (λ_=>TH ⟨i+1,1,⟨m+1,T,c⟩,zs⟩) (λq=>i+1<=q.1/\q.1<=m+1/\(q.2=true↔need i q.1)) (λq=>m+1-q.1) (i+1,dc (oc (toL (m+1) c) i)) [] rfl ⟨W0a _,by show i+1<=m+1;omega,need0⟩ (λ(j,b) ⟨g1,g2,g3⟩=>?_)
      simp only at g1 g2 g3
      refine By rfl (λh=>?_) λh=>?_<;>try simp only[lt'] at h
      . obtain⟨l,hl,hzj,hls⟩:=rad j (by omega)
        refine By rfl (λhb=>?_) λhb=>?_
        . refine Ar (j+1:Nat) rfl ?_
          exact Bk (j+1,true) [] rfl ⟨by show i+1<=j+1;omega,by show j+1<=m+1;omega,by show true=true↔_;rw[needS hl g1];exact⟨λ_=>.inl (g3.1 hb),λ_=>rfl⟩⟩ (by show m+1-(j+1)<m+1-j;omega)
        . refine Eo j rfl (by first | omega | (simp only[lt'];omega)) ?_
          refine Ld (dqs l) rfl (mp hzj) ?_
          refine Ce rfl (hoc (l:=l) hls.ps hr (by rw[rlen hl];have:=p16 (show j<=16 by omega);omega)) ?_
          refine Ar (j+1:Nat) rfl ?_
          exact Bk (j+1,dc (oc l i)) [] rfl ⟨by show i+1<=j+1;omega,by show j+1<=m+1;omega,by show dc (oc l i)=true↔_;rw[needS hl g1,Xah];exact⟨.inr,λh=>h.elim (λh=>absurd (g3.2 h) hb) id⟩⟩ (by show m+1-(j+1)<m+1-j;omega)
      . obtain rfl:j=m+1:=by omega
        refine By rfl (λhb=>?_) λhb=>?_
        . refine Ar ((i:Int)-1) rfl ?_ (wr (show ((i+1:Nat):Int)-1-1=(i:Int)-1 by omega) (by simp only[inK];omega))
          exact Bk ⟨i,1,⟨m+1,T,c⟩,zs⟩ [] rfl ⟨⟨⟨h1,hF.1,(Xke (keep (g3.1 hb) i (W0a _) (by omega))).symm.trans hF.2⟩,by show i<=m+1;omega,h3,h4,h5,λh=>absurd h (show ¬3<=1 by decide),keep (g3.1 hb)⟩,h7⟩ (show i<i+1 by omega)
        . have hno:¬need i (m+1):=λh=>hb (g3.2 h)
          obtain⟨w1,w2⟩:=out hno
          have hw0:=hwo (l:=toL (m+1) c) (by omega)
          rw[<-w2] at hw0
          refine Ce rfl hw0 ?_
          refine Ar (i+1:Nat) rfl ?_ (wr (show ((i+1:Nat):Int)-1+1=((i+1:Nat):Int) by omega) (by simp only[inK];omega))
          refine Lo (λ(j:Nat)=>[(2,.ptr 2 0),(3,.ptr 3 0),(4,.d (.int .i64 (((i+1:Nat):Int)-1))),(7,.d (.int .i64 j))]) (λj=>TH' 1 m (toL m (rm m i c)) zs (wl i j zs)) (λj=>i+1<=j/\j<=m+1) (λj=>m+1-j) (i+1) [] rfl ⟨W0a _,by omega⟩ (λj ⟨g1,g2⟩=>?_) (by rw[Xpc];exact⟨rfl,rfl,rfl,rfl,rfl⟩)
          refine By rfl (λh=>?_) λh=>?_<;>try simp only[lt'] at h
          . obtain⟨l,hl,hzj,hls⟩:=rad j (by omega)
            refine Dw rfl ?_
            refine Eo j rfl (by first | omega | (simp only[lt',Xft];omega)) ?_
            refine Ld (dqs l) rfl (mp (by rw[Xhp,hzj,W4k,if_neg (by omega)])) ?_
            refine Ce rfl (hwo (l:=l) (by rw[rlen hl];have:=p16 (show j<=16 by omega);omega)) ?_
            refine Eo j rfl (by first | omega | (simp only[lt',Xft];omega)) ?_
            refine Sto rfl (by simp only[lt',Xft];omega) (zs:=(wl i (j+1) zs).map dqs) (by rw[<-Yak (by omega) hzj];exact ms) ?_
            refine Ar (j+1:Nat) rfl ?_
            exact Bk (j+1) [] rfl ⟨by omega,by omega⟩ (by show m+1-(j+1)<m+1-j;omega)
          . obtain rfl:j=m+1:=by omega
            have hwe:=Yal h3 (show i<=m by omega)
            have hws:(wl i (m+1) zs).length=zs.length:=Xft
            have hr':=Xaa m (rmT m i T)
            refine Dw rfl ?_
            by_cases i0:i=0
            . subst i0
              refine S30 rfl rfl ?_
              refine Ar (0+1:Nat) rfl ?_
              refine Sw (0+1) (m+1) rfl (by omega) (by simp only[lt'];omega) ?_ (hh:=by simp only[Option.getD,lt'];omega)
              have hz0:(((wl 0 (m+1) zs).map dqs).drop (0+(0+1))).take (m+1-(0+1))=(toT m (rmT m 0 T)).map dqs:=by rw[<-hwe,W5c,W3z,W1k,<-W4z,<-W2e]
              refine AqN ((toT m (rmT m 0 T)).map dqs) rfl (by simp only[lt'];omega) hz0 (by simp[hr'];omega) ?_
              refine Ar (((0:Nat):Int)-1) rfl ?_ (wr (show ((0+1:Nat):Int)-1-1=((0:Nat):Int)-1 by omega) (by simp[inK]))
              exact Bk ⟨0,3,⟨m,rmT m 0 T,rm m 0 c⟩,toT m (rmT m 0 T)⟩ [(11,90),(82,11)] rfl ⟨⟨w1,W0z _,W0b (by rw[hr'];exact W0a _),λh=>absurd h (show ¬3=0 by decide),λh=>absurd h (show ¬3=1 by decide),λ_=>⟨rfl,hr'⟩,gone hno⟩,show 3≠0 by decide⟩ (show 0<0+1 by decide)
            . refine S3 i rfl (.inl rfl) (by omega) (by first | omega | (simp only[lt'];omega)) ?_
              refine Ar (i+1:Nat) rfl ?_ (wr (show ((i+1:Nat):Int)-1+1=((i+1:Nat):Int) by omega) (by simp only[inK];omega))
              refine Sw (i+1) (m+1) rfl (by omega) (by simp only[lt'];omega) ?_ (hh:=by simp only[Option.getD,lt'];omega)
              by_cases im:i=m
              . subst im
                refine Yog rfl rfl (by simp only[lt'];omega) (by simp only[lt'];omega) (by omega) (by omega) ?_
                refine Ar ((i:Int)-1) rfl ?_ (wr (show ((i+1:Nat):Int)-1-1=(i:Int)-1 by omega) (by simp only[inK];omega))
                rw[W3b,W5c,W4l] at hwe
                exact Bk ⟨i,2,⟨i,rmT i i T,rm i i c⟩,wl i (i+1) zs⟩ [] rfl ⟨⟨w1,W0a _,hwe,λh=>absurd h (show ¬2=0 by decide),λh=>absurd h (show ¬2=1 by decide),λh=>absurd h (show ¬3<=2 by decide),gone hno⟩,show 2≠0 by decide⟩ (show i<i+1 by omega)
              . have hz0:((wl i (m+1) zs).map dqs).take i++(((wl i (m+1) zs).map dqs).drop (0+(i+1))).take (m+1-(i+1))=(toT m (rmT m i T)).map dqs:=by rw[<-hwe,W1k,<-W2e,<-W4z,<-W2e,<-W2c]
                refine Aq3 ((toT m (rmT m i T)).map dqs) rfl rfl (by simp only[lt'];omega) (by simp only[lt'];omega) hz0 (by omega) (by simp[hr'];omega) ?_
                refine Ar ((i:Int)-1) rfl ?_ (wr (show ((i+1:Nat):Int)-1-1=(i:Int)-1 by omega) (by simp only[inK];omega))
                exact Bk ⟨i,1,⟨m,rmT m i T,rm m i c⟩,toT m (rmT m i T)⟩ [(11,90),(82,11)] rfl ⟨⟨w1,by show i<=m;omega,W0b (by rw[hr'];exact W0a _),λh=>absurd h (show ¬1=0 by decide),λ_=>hr',λh=>absurd h (show ¬3<=1 by decide),gone hno⟩,show 1≠0 by decide⟩ (show i<i+1 by omega)
    . refine Ce rfl (hoc (l:=toL (m+1) c) hc.ps hp (by omega)) ?_
      refine Ar (i+1:Nat) rfl ?_ (wr (show ((i+1:Nat):Int)-1+1=((i+1:Nat):Int) by omega) (by simp only[inK];omega))
      refine Lo (λ(q:Nat×Bool)=>[(2,.ptr 2 0),(3,.ptr 3 0),(4,.d (.int .i64 (((i+1:Nat):Int)-1))),(5,.b q.2),(6,.d (.int .i64 q.1))]) (λ_=>TH ⟨i+1,2,⟨m+1,T,c⟩,zs⟩) (λq=>i+1<=q.1/\q.1<=m+1/\(q.2=true↔need i q.1)) (λq=>m+1-q.1) (i+1,dc (oc (toL (m+1) c) i)) [] rfl ⟨W0a _,by show i+1<=m+1;omega,need0⟩ (λ(j,b) ⟨g1,g2,g3⟩=>?_)
      simp only at g1 g2 g3
      refine By rfl (λh=>?_) λh=>?_<;>try simp only[lt'] at h
      . obtain⟨l,hl,hzj,hls⟩:=rad j (by omega)
        refine By rfl (λhb=>?_) λhb=>?_
        . refine Ar (j+1:Nat) rfl ?_
          exact Bk (j+1,true) [] rfl ⟨by show i+1<=j+1;omega,by show j+1<=m+1;omega,by show true=true↔_;rw[needS hl g1];exact⟨λ_=>.inl (g3.1 hb),λ_=>rfl⟩⟩ (by show m+1-(j+1)<m+1-j;omega)
        . refine E3 j rfl (by first | omega | (simp only[lt'];omega)) ?_
          refine Ld (dqs l) rfl (mp hzj) ?_
          refine Ce rfl (hoc (l:=l) hls.ps hr (by rw[rlen hl];have:=p16 (show j<=16 by omega);omega)) ?_
          refine Ar (j+1:Nat) rfl ?_
          exact Bk (j+1,dc (oc l i)) [] rfl ⟨by show i+1<=j+1;omega,by show j+1<=m+1;omega,by show dc (oc l i)=true↔_;rw[needS hl g1,Xah];exact⟨.inr,λh=>h.elim (λh=>absurd (g3.2 h) hb) id⟩⟩ (by show m+1-(j+1)<m+1-j;omega)
      . obtain rfl:j=m+1:=by omega
        refine By rfl (λhb=>?_) λhb=>?_
        . refine Ar ((i:Int)-1) rfl ?_ (wr (show ((i+1:Nat):Int)-1-1=(i:Int)-1 by omega) (by simp only[inK];omega))
          exact Bk ⟨i,2,⟨m+1,T,c⟩,zs⟩ [] rfl ⟨⟨⟨h1,hF.1,(Xke (keep (g3.1 hb) i (W0a _) (by omega))).symm.trans hF.2⟩,by show i<=m+1;omega,h3,h4,h5,λh=>absurd h (show ¬3<=2 by decide),keep (g3.1 hb)⟩,h7⟩ (show i<i+1 by omega)
        . have hno:¬need i (m+1):=λh=>hb (g3.2 h)
          obtain⟨w1,w2⟩:=out hno
          have hw0:=hwo (l:=toL (m+1) c) (by omega)
          rw[<-w2] at hw0
          refine Ce rfl hw0 ?_
          refine Ar (i+1:Nat) rfl ?_ (wr (show ((i+1:Nat):Int)-1+1=((i+1:Nat):Int) by omega) (by simp only[inK];omega))
          refine Lo (λ(j:Nat)=>[(2,.ptr 2 0),(3,.ptr 3 0),(4,.d (.int .i64 (((i+1:Nat):Int)-1))),(7,.d (.int .i64 j))]) (λj=>TH' 2 m (toL m (rm m i c)) zs (wl i j zs)) (λj=>i+1<=j/\j<=m+1) (λj=>m+1-j) (i+1) [] rfl ⟨W0a _,by omega⟩ (λj ⟨g1,g2⟩=>?_) (by rw[Xpc];exact⟨rfl,rfl,rfl,rfl,rfl⟩)
          refine By rfl (λh=>?_) λh=>?_<;>try simp only[lt'] at h
          . obtain⟨l,hl,hzj,hls⟩:=rad j (by omega)
            refine Dw rfl ?_
            refine E3 j rfl (by first | omega | (simp only[lt',Xft];omega)) ?_
            refine Ld (dqs l) rfl (mp (by rw[Xhp,hzj,W4k,if_neg (by omega)])) ?_
            refine Ce rfl (hwo (l:=l) (by rw[rlen hl];have:=p16 (show j<=16 by omega);omega)) ?_
            refine E3 j rfl (by first | omega | (simp only[lt',Xft];omega)) ?_
            refine Sto rfl (by simp only[lt',Xft];omega) (zs:=(wl i (j+1) zs).map dqs) (by rw[<-Yak (by omega) hzj];exact ms) ?_
            refine Ar (j+1:Nat) rfl ?_
            exact Bk (j+1) [] rfl ⟨by omega,by omega⟩ (by show m+1-(j+1)<m+1-j;omega)
          . obtain rfl:j=m+1:=by omega
            have hwe:=Yal h3 (show i<=m by omega)
            have hws:(wl i (m+1) zs).length=zs.length:=Xft
            have hr':=Xaa m (rmT m i T)
            refine Dw rfl ?_
            by_cases i0:i=0
            . subst i0
              refine S30 rfl rfl ?_
              refine Ar (0+1:Nat) rfl ?_
              refine D3 (0+1) rfl (by omega) ?_
              have hz0:(((wl 0 (m+1) zs).map dqs).drop (0+(0+1))).take (m+1-(0+1))=(toT m (rmT m 0 T)).map dqs:=by rw[<-hwe,W5c,W3z,W1k,<-W4z,<-W2e]
              refine AqN ((toT m (rmT m 0 T)).map dqs) rfl (by simp only[lt'];omega) hz0 (by simp[hr'];omega) ?_
              refine Ar (((0:Nat):Int)-1) rfl ?_ (wr (show ((0+1:Nat):Int)-1-1=((0:Nat):Int)-1 by omega) (by simp[inK]))
              exact Bk ⟨0,3,⟨m,rmT m 0 T,rm m 0 c⟩,toT m (rmT m 0 T)⟩ [(11,90),(82,11)] rfl ⟨⟨w1,W0z _,W0b (by rw[hr'];exact W0a _),λh=>absurd h (show ¬3=0 by decide),λh=>absurd h (show ¬3=1 by decide),λ_=>⟨rfl,hr'⟩,gone hno⟩,show 3≠0 by decide⟩ (show 0<0+1 by decide)
            . refine S3 i rfl (.inr rfl) (by omega) (by first | omega | (simp only[lt'];omega)) ?_
              refine Ar (i+1:Nat) rfl ?_ (wr (show ((i+1:Nat):Int)-1+1=((i+1:Nat):Int) by omega) (by simp only[inK];omega))
              refine D3 (i+1) rfl (by omega) ?_
              by_cases im:i=m
              . subst im
                refine Yog rfl rfl (by simp only[lt'];omega) (by simp only[lt'];omega) (by omega) (by omega) ?_
                refine Ar ((i:Int)-1) rfl ?_ (wr (show ((i+1:Nat):Int)-1-1=(i:Int)-1 by omega) (by simp only[inK];omega))
                rw[W3b,W5c,W4l] at hwe
                exact Bk ⟨i,2,⟨i,rmT i i T,rm i i c⟩,wl i (i+1) zs⟩ [] rfl ⟨⟨w1,W0a _,hwe,λh=>absurd h (show ¬2=0 by decide),λh=>absurd h (show ¬2=1 by decide),λh=>absurd h (show ¬3<=2 by decide),gone hno⟩,show 2≠0 by decide⟩ (show i<i+1 by omega)
              . have hz0:((wl i (m+1) zs).map dqs).take i++(((wl i (m+1) zs).map dqs).drop (0+(i+1))).take (m+1-(i+1))=(toT m (rmT m i T)).map dqs:=by rw[<-hwe,W1k,<-W2e,<-W4z,<-W2e,<-W2c]
                refine Aq3 ((toT m (rmT m i T)).map dqs) rfl rfl (by simp only[lt'];omega) (by simp only[lt'];omega) hz0 (by omega) (by simp[hr'];omega) ?_
                refine Ar ((i:Int)-1) rfl ?_ (wr (show ((i+1:Nat):Int)-1-1=(i:Int)-1 by omega) (by simp only[inK];omega))
                exact Bk ⟨i,1,⟨m,rmT m i T,rm m i c⟩,toT m (rmT m i T)⟩ [(11,90),(82,11)] rfl ⟨⟨w1,by show i<=m;omega,W0b (by rw[hr'];exact W0a _),λh=>absurd h (show ¬1=0 by decide),λ_=>hr',λh=>absurd h (show ¬3<=1 by decide),gone hno⟩,show 1≠0 by decide⟩ (show i<i+1 by omega)
end
end
section
def sh(x:Rat): Prop:=(dig x.num.natAbs).length<=2/\(dig x.den).length<=2
def shN(x:Nm): Prop:=(∀q∈toL x.k x.a,sh q)/\∀l∈toT x.k x.t,∀q∈l,sh q
theorem sh.qs{x:Rat}(h:sh x): Qs 64 x:=by
 have key:∀n:Nat,(dig n).length<=2->n<2^64:=λn hn=>by
  have h1:=Xbw (Xae n)
  rw[Xag] at h1
  have h2:4294967296^(dig n).length<=4294967296^2:=W0m (by decide) hn
  omega
 exact⟨key _ h.1,by show ((x.den:Int)).natAbs<_;rw[W1f];exact key _ h.2⟩
theorem Yd1{x:Nm}(hk:x.k<=16): C0 200 [.d (dN x)] (·=.b (dc (¬shN x))):=by
 obtain⟨k,t,a⟩:=x
 have hk:k<=16:=hk
 have hp:=p16 hk
 have hcl:=Xab k a
 have hTl:=Xaa k t
 refine En Tryz.func200 λ_ _ _=>?_
 refine Lo (λi:Nat=>[(1,.ptr 1 0),(3,.d (.int .i64 i))]) (λ_=>[(1,.var (.d (dN ⟨k,t,a⟩)))]) (λi=>i<=2^k/\∀j q,j<i->(toL k a)[j]?=some q->sh q) (λi=>2^k-i) 0 [] rfl ⟨by omega,λj q h=>by omega⟩ λi ⟨hi,hs⟩=>?_
 refine By rfl (λh=>?_) λh=>?_
 . have h:(i:Int)<(((toL k a).map dq).length:Nat):=h
   rw[lq,hcl] at h
   obtain⟨x,hx⟩:=qat (l:=toL k a) (k:=i) (by omega)
   have no:¬sh x->¬shN ⟨k,t,a⟩:=λh h2=>h (h2.1 x (W0f hx))
   refine Ix i rfl (mp hx) ?_
   refine By rfl (λh1=>?_) λh1=>?_
   . have h1:((((dig x.num.natAbs).map wd).length:Nat):Int)>2:=h1
     rw[lw] at h1
     exact R1 rfl (.bp ⟨λ_=>no λh=>by have:=h.1;omega,λ_=>rfl⟩)
   . have h1:¬((((dig x.num.natAbs).map wd).length:Nat):Int)>2:=h1
     rw[lw] at h1
     refine Ix i rfl (mp hx) ?_
     refine By rfl (λh2=>?_) λh2=>?_
     . have h2:((((dig ((x.den:Int)).natAbs).map wd).length:Nat):Int)>2:=h2
       rw[lw,W1f] at h2
       exact R1 rfl (.bp ⟨λ_=>no λh=>by have:=h.2;omega,λ_=>rfl⟩)
     . have h2:¬((((dig ((x.den:Int)).natAbs).map wd).length:Nat):Int)>2:=h2
       rw[lw,W1f] at h2
       refine Ar (i+1:Nat) rfl ?_
       refine Bk (i+1) [] rfl ⟨by omega,λj q hj hq=>?_⟩ (by show 2^k-(i+1)<2^k-i;omega)
       by_cases e:j=i
       . subst e;rw[hx] at hq;injection hq with hq;subst hq;exact⟨by omega,by omega⟩
       . exact hs j q (by omega) hq
 have h:¬(i:Int)<(((toL k a).map dq).length:Nat):=h
 rw[lq,hcl] at h
 have hc:∀q∈toL k a,sh q:=λq hq=>by
  obtain⟨j,hj⟩:=W3a hq
  exact hs j q (by have:=(W0n.1 hj).1;omega) hj
 refine Lo (λi:Nat=>[(1,.ptr 1 0),(4,.d (.int .i64 i))]) (λ_=>[(1,.var (.d (dN ⟨k,t,a⟩)))]) (λi=>i<=k/\∀j l,j<i->(toT k t)[j]?=some l->∀q∈l,sh q) (λi=>k-i) 0 [] rfl ⟨by omega,λj q h=>by omega⟩ λi ⟨hi,hs⟩=>?_
 refine By rfl (λh=>?_) λh=>?_
 . have h:(i:Int)<(((toT k t).map dqs).length:Nat):=h
   rw[lt',hTl] at h
   obtain⟨l,hl⟩:∃l,(toT k t)[i]?=some l:=⟨_,W0c (by omega)⟩
   obtain⟨e,e1,_,_⟩:=Tw.at (t:=t) (show i<k by omega)
   obtain rfl:l=toL i e:=by rw[hl] at e1;injection e1
   have hll:=Xab i e
   have hpi:=p16 (show i<=16 by omega)
   refine Lo (λj:Nat=>[(1,.ptr 1 0),(4,.d (.int .i64 i)),(5,.d (.int .i64 j))]) (λ_=>[(1,.var (.d (dN ⟨k,t,a⟩)))]) (λj=>j<=2^i/\∀m q,m<j->(toL i e)[m]?=some q->sh q) (λj=>2^i-j) 0 [] rfl ⟨by omega,λj q h=>by omega⟩ λj ⟨hj,hjs⟩=>?_
   refine Ix i rfl (mp hl) ?_
   refine By rfl (λh1=>?_) λh1=>?_
   . have h1:(j:Int)<(((toL i e).map dq).length:Nat):=h1
     rw[lq,hll] at h1
     obtain⟨x,hx⟩:=qat (l:=toL i e) (k:=j) (by omega)
     have no:¬sh x->¬shN ⟨k,t,a⟩:=λh h2=>h (h2.2 _ (W0f hl) x (W0f hx))
     refine Ix i rfl (mp hl) ?_
     refine Ix j rfl (mp hx) ?_
     refine By rfl (λh1=>?_) λh1=>?_
     . have h1:((((dig x.num.natAbs).map wd).length:Nat):Int)>2:=h1
       rw[lw] at h1
       exact R1 rfl (.bp ⟨λ_=>no λh=>by have:=h.1;omega,λ_=>rfl⟩)
     . have h1:¬((((dig x.num.natAbs).map wd).length:Nat):Int)>2:=h1
       rw[lw] at h1
       refine By rfl (λh2=>?_) λh2=>?_
       . have h2:((((dig ((x.den:Int)).natAbs).map wd).length:Nat):Int)>2:=h2
         rw[lw,W1f] at h2
         exact R1 rfl (.bp ⟨λ_=>no λh=>by have:=h.2;omega,λ_=>rfl⟩)
       . have h2:¬((((dig ((x.den:Int)).natAbs).map wd).length:Nat):Int)>2:=h2
         rw[lw,W1f] at h2
         refine Ar (j+1:Nat) rfl ?_
         refine Bk (j+1) [] rfl ⟨by omega,λm q hm hq=>?_⟩ (by show 2^i-(j+1)<2^i-j;omega)
         by_cases e:m=j
         . subst e;rw[hx] at hq;injection hq with hq;subst hq;exact⟨by omega,by omega⟩
         . exact hjs m q (by omega) hq
   . have h1:¬(j:Int)<(((toL i e).map dq).length:Nat):=h1
     rw[lq,hll] at h1
     refine Ar (i+1:Nat) rfl ?_
     refine Bk (i+1) [] rfl ⟨by omega,λm l hm hl' q hq=>?_⟩ (by show k-(i+1)<k-i;omega)
     by_cases e:m=i
     . subst e;rw[hl] at hl';injection hl' with hl';subst hl'
       obtain⟨n,hn⟩:=W3a hq
       exact hjs n q (by have:=(W0n.1 hn).1;omega) hn
     . exact hs m l (by omega) hl' q hq
 . have h:¬(i:Int)<(((toT k t).map dqs).length:Nat):=h
   rw[lt',hTl] at h
   refine R1 rfl (.bp ⟨nofun,λh2=>absurd ⟨hc,λl hl q hq=>?_⟩ h2⟩)
   obtain⟨n,hn⟩:=W3a hl
   have h6:n<(toT k t).length:=(W0n.1 hn).1
   exact hs n l (by omega) hn q hq
end
end Go.Proofs.YtfjafaehfjjaiaaGreatDoor.R9
namespace Go.Tow
open Go Go.Num Go.Proofs.YtfjafaehfjjaiaaGreatDoor
variable{K:Nat}{G:Tw K}{ρ:Nat->El K}{S:List (El K)}{r p:Nat}{x:Nm}{v:El K}
theorem TOk.sub{k:Nat}{t:Tw k}{S':List (El K)}(h:TOk G S k t ρ)(hs:∀s∈S,s∈S'): TOk G S' k t ρ:=⟨h.r,h.h,λi hi=>hs _ (h.s i hi)⟩
theorem NOk.sub{S':List (El K)}(h:NOk G S r p x v)(hs:∀s∈S,s∈S'): NOk G S' r p x v:=by
 obtain⟨ρ,h1,h2⟩:=h.ex
 exact⟨⟨ρ,h1.sub hs,h2⟩,h.r,h.p⟩
theorem NOk.tsn(hG:Xb4 K G){w:El K}(h:NOk G S r p x v): NOk (Tow.tsn G w) (S.map (up K)) r p x (up K v):=by
 obtain⟨ρ,h1,h2⟩:=h.ex
 exact⟨⟨_,⟨h1.r,h1.h.tsn hG,λi hi=>W2y.2 ⟨_,h1.s i hi,rfl⟩⟩,by rw[Xjz,h2]⟩,h.r,h.p⟩
theorem _root_.Go.Proofs.YtfjafaehfjjaiaaGreatDoor.TS.of{r:Nat}{k:Nat}: ∀ {t:Tw k},(∀(i:Nat) l,(toT k t)[i]?=some l->Sz r l)->TS r k t:=by
 induction k with
 | zero=>intro t _;trivial
 | succ k ih =>
  intro t h
  have hl:=Xaa k t.1
  refine⟨ih λi l hi=>h i l ?_,h k _ ?_⟩
  . show (toT k t.1++[toL k t.2])[i]?=_
    rw[W1a (W0n.1 hi).1,hi]
  . show (toT k t.1++[toL k t.2])[k]?=_
    rw[W0u (by omega),hl,W3b];rfl
def Wld(n:Nat)(l:List Nm)(P:∀ {K:Nat},Tw K->List (El K)->Prop): Prop:=∃(K:Nat) (G:Tw K) (S:List (El K)),red K G/\S.length<=n/\Yce G S 300 600/\(∀y∈l,∃v,NOk G S 300 600 y v)/\P G S
theorem Xrp{n:Nat}{l:List Nm}(hG:red K G)(hS:S.length<=n)(hq:Yce G S 300 600)(hl:∀y∈l,∃v,NOk G S 300 600 y v){k:Nat}{t:Tw k}{a:El k}(ht:TOk G S k t ρ)(h3:TS 300 k t)(h6:Sz 600 (toL k a))(h0:0<=sgn k t a)(hn:¬Xcp k t a)(hT:TS r (k+1) (tsn t a))(hr:Sz p (toL (k+1) (Xcr (k+1) k))):
 Wld (n+1) l λG S=>∃v,NOk G S r p ⟨k+1,tsn t a,Xcr (k+1) k⟩ v:=by
 have hGr:=Xad hG
 have L:=Xaz K G
 have Sg:=Xau hGr
 have ha0:a≠zero k:=λe=>hn ⟨zero k,by rw[e,(Xaz k t).mz]⟩
 have h1:sgn k t a=1:=by
  rcases Xca t a with h | h | h
  . exact h
  . exact absurd ((Xbh ht.r).1 h) ha0
  . omega
 have hv:sgn K G (ev G ρ k a)=1:=by rw[Xc8 hGr ht.h];exact h1
 by_cases hs:Xcp K G (ev G ρ k a)
 . obtain⟨s,hs⟩:=hs
   obtain⟨s,hs,hp⟩:∃s,mul K G s s=ev G ρ k a/\sgn K G s=1:=by
    rcases Xca G s with h | h | h
    . exact⟨s,hs,h⟩
    . rw[<-hs,Sg.sm,h] at hv;cases hv
    . exact⟨neg K s,by rw[L.mn,L.nm,L.nn,hs],by rw[Sg.sn,h];rfl⟩
   have hsub:∀y∈S,y∈s::S:=λy h=>W0p _ h
   refine⟨K,G,s::S,hG,by simp;omega,λg hg=>?_,λy hy=>(hl y hy).elim λv h=>⟨v,h.sub hsub⟩,_,⟨_,(ht.sub hsub).snoc hGr hn (W0l ..) hs hp,rfl⟩,hT,hr⟩
   rcases W1j.1 hg with rfl | hg
   . exact⟨⟨k,t,a⟩,⟨_,ht.sub hsub,hs.symm⟩,h3,h6⟩
   . obtain⟨z,hz⟩:=hq g hg
     exact⟨z,hz.sub hsub⟩
 . have hG':red (K+1) (tsn G (ev G ρ k a)):=⟨hG,hv,hs⟩
   have hm:∀y∈S.map (up K),y∈rt1 K::S.map (up K):=λy h=>W0p _ h
   have hto:TOk (tsn G (ev G ρ k a)) (rt1 K::S.map (up K)) k t (λi=>up K (ρ i)):=⟨ht.r,ht.h.tsn hGr,λi hi=>hm _ (W2y.2 ⟨_,ht.s i hi,rfl⟩)⟩
   refine⟨K+1,tsn G (ev G ρ k a),rt1 K::S.map (up K),hG',by simp;omega,λg hg=>?_,λy hy=>(hl y hy).elim λv h=>⟨_,(h.tsn hGr).sub hm⟩,_,⟨_,hto.snoc (Xad hG') hn (W0l ..) (s:=rt1 K) ?_ ?_,rfl⟩,hT,hr⟩
   . rcases W1j.1 hg with rfl | hg
     . exact⟨⟨k,t,a⟩,⟨_,hto,by rw[Xjz];exact(Xji (t:=Tow.tsn G (ev G ρ k a))).symm⟩,h3,h6⟩
     . obtain⟨g',hg',rfl⟩:=W2y.1 hg
       obtain⟨z,hz⟩:=hq g' hg'
       exact⟨z,by rw[Xic];exact(hz.tsn hGr).sub hm⟩
   . rw[Xjz];exact Xji
   . exact Xnv (t:=tsn G (ev G ρ k a)) hGr
end Go.Tow
namespace Go.Proofs.YtfjafaehfjjaiaaGreatDoor
open Go Go.Vm Go.Num Go.Tow
structure RO where
 kind:Nat
 a:Nat
 b:Nat
 n:Int
 d:Nat
 h:kind<256/\a<256/\b<256/\d<256/\-128<=n/\n<128
abbrev dO(o:RO): D:=.st (.pr (.int .u8 o.kind) (.pr (.int .u8 o.a) (.pr (.int .u8 o.b) (.pr (.int .i8 o.n) (.int .u8 o.d)))))
abbrev dRs(l:List RO): D:=.sl 5 (l.map dO)
end Go.Proofs.YtfjafaehfjjaiaaGreatDoor
namespace Go.Proofs.YtfjafaehfjjaiaaGreatDoor.R9
open Go Go.Vm Go.Num Go.Tow Go.Proofs.YtfjafaehfjjaiaaGreatDoor
theorem sh_sz{l:List Rat}{n q:Nat}(h:∀x∈l,sh x)(hn:l.length<=n)(hq:64*n+1<=q): Sz q l:=(Sz.all λx hx=>(h x hx).qs).mono (W0k (by have:=W0t 64 hn;omega) hq)
theorem shN.ok{K:Nat}{G:Tw K}{S:List (Tow.El K)}{r p:Nat}{z:Nm}{v:Tow.El K}(hs:shN z)(h:NOk G S r p z v)(hk:z.k<=3): NOk G S 300 600 z v :=
 ⟨h.ex,TS.of λi l hl=>by
  have hi:=(W0n.1 hl).1
  rw[Xaa] at hi
  have:l.length<=4:=by
   rw[(TS.pt h.r _ _ hl).1];exact W0m (n:=2) (by decide) (show i<=2 by omega)
  exact sh_sz (n:=4) (hs.2 l (W0f hl)) this (by decide),
  sh_sz (n:=8) hs.1 (by rw[Xab];exact W0m (n:=2) (by decide) hk) (by decide)⟩
def Big(l:List Nm)(n:Nat)(z:Nm): Prop:=n<=3/\Wld n l λG S=>∃v,NOk G S gF.R (oW gF 1000000) z v
theorem Yfz: 300<=gF.R/\600<=oW gF 1000000/\600+gC 300 3<=oW gF 1000000/\900<=gF.R/\iS 300 3 600<=1000000/\iB 300 3 600<=4398046511104/\qB 300 3 600<=4398046511104/\qB 300 3 300<=4398046511104/\vB 300 3 (600+gC 300 3)<=4398046511104/\vB 300 3 300<=4398046511104/\vB 300 3 600<=4398046511104/\oW gF 1000000<=8796093022208/\oW gF 1000000<=4398046511104:=by decide +kernel
theorem remN{a m:Nat}{k:IntKind}(hm:0<m): arB .rem k a m (a%m:Nat):=show _/\_ from⟨by omega,Xrk a m⟩
theorem Xxv{n m:Nat}{l:List Nm}{P:∀ {K:Nat},Tw K->List (Tow.El K)->Prop}(h:Wld n l @P)(hn:n<=m): Wld m l @P:=by
 obtain⟨K,G,S,h1,h2,h3,h4⟩:=h
 exact⟨K,G,S,h1,W0k h2 hn,h3,h4⟩
theorem Yej{n:Int}{d:Nat}(hn:-128<=n/\n<128)(hd:0<d/\d<=8): sh (Rat.divInt n d):=by
 have h1:(Rat.divInt n d).num.natAbs<=n.natAbs:=by
  rw[Rat.num_divInt,Int.natAbs_ediv_of_dvd ?_]
  . have hs:((d:Int)).sign=1:=W6f (by omega)
    rw[hs,W5n]
    exact W3m ..
  . have hs:((d:Int)).sign=1:=W6f (by omega)
    rw[hs,W5n];exact Int.gcd_dvd_right ..
 have h2:(Rat.divInt n d).den<=d:=by
  rw[Rat.den_divInt,if_neg (by omega),W1f]
  exact W3m ..
 exact⟨Xas (W1t h1 (by omega)),Xas (W1t h2 (by omega))⟩
end Go.Proofs.YtfjafaehfjjaiaaGreatDoor.R9
namespace Go.Vm
open Go Go.ChangeShapes Go.WideShapes Go.ChangeAt Go.RowKit
end Go.Vm
namespace Go.Proofs.YtfjafaehfjjaiaaGreatDoor
open Go Go.Vm Go.Num
theorem Yl3{α:Type}{f:α->D}{l:List D}(h:∀y∈l,∃x,y=f x): ∃m:List α,l=m.map f:=by
 induction l with
 | nil=>exact⟨[],rfl⟩
 | cons y l ih =>
  obtain⟨x,hx⟩:=h y (W0l ..)
  obtain⟨m,hm⟩:=ih λz hz=>h z (W0p _ hz)
  exact⟨x::m,by rw[hx,hm];rfl⟩
theorem Xyk: Reads Tryz.prog 214 λd=>∃o:RO,d=dO o :=
 (Xed Tryz.underlying214 (.cons (n:=1) rfl (Xeu Tryz.underlying5) (by kernel_rfl) (.cons (n:=1) rfl (Xeu Tryz.underlying5) (by kernel_rfl) (.cons (n:=1) rfl (Xeu Tryz.underlying5) (by kernel_rfl) (.cons (n:=1) rfl (Xyi Tryz.underlying212) (by kernel_rfl) (.one rfl (Xeu Tryz.underlying5)))))) (λf hf=>by cases hf;kernel_rfl)).mono λd hd=>by
  obtain⟨_,rfl,_,_,rfl,⟨a,rfl,ha⟩,_,_,rfl,⟨b,rfl,hb⟩,_,_,rfl,⟨c,rfl,hc⟩,_,_,rfl,⟨n,rfl,hn⟩,⟨e,rfl,he⟩⟩:=hd
  exact⟨⟨a,b,c,n,e,ha,hb,hc,he,hn⟩,rfl⟩
theorem Xt4{t:TypeId}(ht:Tryz.prog.underlying t=some (.slice 214)): Reads Tryz.prog t λd=>∃ops:List RO,d=dRs ops :=
 (Xfd ht Xyk (sz:=5) (by kernel_rfl) (by decide)).mono λd ⟨l,e,_,h⟩=>by
  obtain⟨m,hm⟩:=Yl3 h
  exact⟨m,by rw[e,hm]⟩
theorem Yjx: Arg Tryz.prog 5 λd=>∃n:Nat,d=.int .u8 n/\n<256:=Yff Tryz.underlying5 (Xeu Tryz.underlying5) λx ⟨_,e,_⟩=>by rw[e];rfl
open Go Go.Vm Go.Num Go.ChangeShapes Go.WideShapes Go.ChangeAt Go.RowKit
abbrev Yd5 : List (String × DataW Unit) := [("math/bits.deBruijn32tab", Rows.laid_math_bits_deBruijn32tab), ("math/bits.deBruijn64tab", Rows.laid_math_bits_deBruijn64tab), ("internal/strconv.uint64pow10", Rows.laid_internal_strconv_uint64pow10)]
def Yoh: List Int:=(List.range 20).map λi=>((10^i:Nat):Int)
theorem Ycv: ∀i,i<20->Yoh.getD i 0=((10^i:Nat):Int):=by decide
theorem Yiq : Tryz.prog.globalNamed "internal/strconv.uint64pow10" = some 0 := by kernel_rfl
theorem Yip: (Tryz.prog.globals[0]?).map (·.type)=some 297:=by kernel_rfl
theorem Ymc{W:World}(h:laidMetH Tryz.prog Yd5 W): Gb.g Tryz.prog (gw0 W):=by
 rw[Go.MakeChecks.laidMetH_plain Tryz.prog Yd5 W (by kernel_rfl)] at h
 have h3 : laidMet Tryz.prog (("internal/strconv.uint64pow10", Lib.tabData .u64 Yoh) :: []) W := h.tail.tail
 have ht:=Lib.tabIs_of_head Yiq Yip Tryz.underlying297 Tryz.underlying178 (by kernel_rfl) (by kernel_rfl) h3
 exact λi hi=>⟨by rw[show (gw0 W).w=W from rfl,ht.cell Yiq i (by rw[show Yoh.length=20 from rfl];exact hi),Ycv i hi],λh=>h⟩
def lay(vs:List (Nat×Array Value))(w:World): World:={ w with heap:=vs.foldl (λh p=>h.modify p.1 fun | .cells _ t frozen=>.cells p.2 t frozen | o=>o) w.heap }
def u8s(l:List Nat): Array Value:=(l.map λ(n:Nat)=>Value.int .u8 n).toArray
def Yoi: List (Nat×Array Value):=[(0,(Yoh.map λz=>Value.int .u64 z).toArray),
 (2,u8s [0,1,28,2,29,14,24,3,30,22,20,15,25,17,4,8,31,27,13,23,21,19,16,7,26,12,18,6,11,5,10,9]),
 (3,u8s [0,1,56,2,57,49,28,3,61,58,42,50,38,29,17,4,62,47,59,36,45,43,51,22,53,39,33,30,24,18,12,5,63,55,48,27,60,41,37,16,46,35,44,21,52,32,23,11,54,26,40,15,34,20,31,10,25,14,19,9,13,8,7,6])]
noncomputable def Xdn(os:Os): World:=lay Yoi (World.holding Tryz.prog os ⟨#[],#[],[]⟩)
theorem Xy0(os:Os)(args:Array Value): laidMet Tryz.prog Yd5 ((Xdn os).forCall (λ_ _=>0) ⟨#[],args,[]⟩).memory :=
 laidMet_of_run' 8 (by kernel_rfl) (by kernel_rfl)
end Go.Proofs.YtfjafaehfjjaiaaGreatDoor
namespace Go.Vm
open Go
section
variable{c:Cx}{s:St}{p:Pl}
theorem Xry{o:Oper}{v:AV}{us:Hpl}(h:nxO c.tb c.n s=some (p,o))(hc:Xap o=false)(hdr:p.dr=false)(hr:Raw c.P o (sem p.E p.H) (v,us))(k:p.nx' c v us): StP c s:=by
 obtain⟨hw,hd⟩:=Xul h
 refine Xme h (.inl ⟨hw,(Xo1 hc).2 (.inr ⟨hdr,(v,us),hr,?_⟩)⟩)
 unfold aft
 rw[Xfa,<-hd];exact Pl.nx'_eq.1 k
noncomputable def Yn4(tb:Nat->Option TI)(n:Nat)(s:St): Option (Pl×Oper×Operand×Operand×TypeId×TypeId×TI×Nat×Int):=match nxO tb n s with
 | some (p,o)=>match o.op,p.dr with
  | .call ⟨.builtin .append,⟨[x,y]⟩,⟨[T,T']⟩⟩,false=>match Xc4 (look p.E) x,Xc4 (look p.E) y,tb T,tb T' with
   | some .nil,some (.d (.int .i64 m)),some ti,some ⟨.int _ _,_,_,_⟩=>match look p.H (o.dst.getD 0),ti.z,Nat.ble ti.eb 128 with
    | none,.sl sz _,true=>some (p,o,x,y,T,T',ti,sz,m)
    | _,_,_=>none
   | _,_,_,_=>none
  | _,_=>none
 | none=>none
end
theorem Ygz{P:Program}(w:World)(t tn ty e:TypeId)(i:TypeInfo)(z:Value)(k kn:IntKind)(ht:P.underlying t=some (.slice e))(htn:P.underlying tn=some (.int kn))(hi:P.info? e=some i)(hz:i.zero=some z)(q:Option Addr)
 (n:Nat) (h0:0<n) (hs:0<i.size) (h63:(n:Int)<=9223372036854775807) (h48:n*i.bytes<=281474976710656) :
 (Builtin.append_ #[t,tn] ty #[.slice q 0 0,.int k n]).run P w =
  .ok (.slice (some ⟨w.heap.size,0,none⟩) n (grownCap w n 0 e)) (w.drew.alloc (.cells (Builtin.zeroCells z.cells n++Builtin.zeroCells z.cells (grownCap w n 0 e-n)) e)):=by
 cases q with
 | none=>exact Go.Lib.run_append_nil_zeros w t tn ty e i z k kn ht htn hi hz n h0 hs h63 h48
 | some a =>
  have hn:n≠0:=by omega
  have hw:IntKind.i64.wrap (n:Int)=n:=by rw[IntKind.wrap_i64];omega
  have h63':¬(9223372036854775807<(n:Int)):=by omega
  have h48':¬(281474976710656<Builtin.nextslicecap n 0*i.bytes):=by rw[nextslicecap_zero h0];omega
  have h48i:¬(281474976710656<(n:Int)*(i.bytes:Int)):=by
   rw[<-W2p]
   omega
  have hneg:¬((n:Int)<0):=by omega
  have hns:¬(n*i.size=0):=Nat.mul_ne_zero hn (by omega)
  simp[Builtin.append_,run_underlying ht,run_underlying htn,sizeOf,typeInfo,zeroValue,hi,hz,asInt,asIntOf,hw,hn,hneg,hns,h63',h48',h48i,Question.forced,Builtin.firstCells,loadCells,loadCellsFrom,newRow,grownCap]
section
variable{c:Cx}{s:St}{p:Pl}
theorem ApM{o:Oper}{x y:Operand}{T T':TypeId}{ti:TI}{sz:Nat}{m:Int}(n:Nat)(h:Yn4 c.tb c.n s=some (p,o,x,y,T,T',ti,sz,m))(h0:0<n)(hr:n<=1099511627776)(k:p.nx' c (.own (o.dst.getD 0) sz 0 n) [(o.dst.getD 0,.arr sz [])])(hm:m=(n:Int):=by first | exact rfl | omega): StP c s:=by
 subst hm
 unfold Yn4 at h
 split at h<;>try cases h
 rename_i p' o' ho
 split at h<;>try cases h
 rename_i x' y' T1 T2 hop hdr
 split at h<;>try cases h
 rename_i m' ti1 kn _ e' eb' ar' hx hy hti hti'
 split at h<;>cases h
 rename_i hd hb hz
 refine Xry ho (by unfold Xap;rw[hop];rfl) hdr (λN W θ ρ _ hO hN hB hv=>?_) k
 obtain⟨hk,_⟩:=c.hT _ _ hti
 obtain⟨t,u1,_,u3⟩:=hk.u
 rw[hz] at u3
 obtain⟨E,e,hsz,hez,ii,v0,i1,i2,i3,i4,i5⟩:=u3
 subst e
 obtain⟨hk',_⟩:=c.hT _ _ hti'
 obtain⟨t',u1',_,u3'⟩:=hk'.u
 have u3':t'=.int kn:=u3'
 subst u3'
 obtain⟨q,ex⟩:=Xng (hv _ _ hx)
 obtain⟨ey,_⟩:=Xdg (hv _ _ hy)
 have hsp:0<ii.size:=by rw[i2];exact D.size_pos _
 have hbb:n*ii.bytes<=281474976710656:=by rw[i3];have:=W2b hr (W1g hb);omega
 have hrun:=Ygz (P:=c.P) W.w T T' o.type E ii v0 .i64 kn u1 u1' i1 i4 q n h0 hsp (by omega) hbb
 have hge:=grownCap_ge W.w n 0 E
 have hlt:grownCap W.w n 0 E<9223372036854775808:=by
  have:=W1q (W.w.tape W.w.drawn (.appendCap n 0 E)) (show 0<2^63-n by omega)
  simp only[grownCap,Question.cut] at *
  omega
 have hzs:v0.cells.size=sz:=by rw[hsz,<-D.zc_len,<-i5];simp
 obtain⟨W',θ',e1,e2,e3⟩:=Xkw (W:=W.tick) (θ:=θ) (g:=(sem p.E p.H).2) (dd:=o.dst.getD 0) (E:=E) (sz:=sz) (xs:=[]) (cs:=[]) (c:=grownCap W.w n 0 E) (zs:=(Builtin.zeroCells v0.cells n++Builtin.zeroCells v0.cells (grownCap W.w n 0 E-n)).toList) (Stp.tick hO).obs hN hB hd (λi x h=>by simp at h) (by simp) (by simp) hlt (by
  rw[W3z,Array.length_toList,Array.size_append,size_zeroCells,size_zeroCells,hzs,<-W1h]
  congr 1
  omega)
 obtain⟨cs,⟨b,pp,k1,k2,k3,k4,k5⟩,k6⟩:=e3
 subst k4
 have k6:Value.slice (some ⟨W.tick.size,0,none⟩) 0 (grownCap W.w n 0 E)=.slice pp 0 ((θ' (o.dst.getD 0)).2-0):=k6
 injection k6 with k6 k7 k8
 have k5:=k5 (.inl rfl)
 rw[<-k6] at k5
 injection k5 with k5
 injection k5 with k5
 have k5:W.size=b:=k5
 subst k5
 refine⟨W',θ',.value (.slice (some ⟨W.size,0,none⟩) n (grownCap W.w n 0 E)),?_,(Stp.tick hO).trans e2,.inr ⟨_,rfl,Xyt (xs:=[]) k1 (by omega) (by omega) k3⟩,λi hi=>⟨_,by subst hi;exact Xaj _ _ _⟩⟩
 have h1:execOp ρ o=(Builtin.append_ #[T,T'] o.type #[ρ x,ρ y] >>= λv=>pure (.value v)):=by
  simp[execOp,hop,resolve,invoke,builtin]
 rw[h1,Sem.run_bind,ex,ey,hrun,e1]
 have fin:∀ {a b:Array Value},a=b->(Result.ok (Next.value (.slice (some ⟨W.size,0,none⟩) n (grownCap W.w n 0 E))) (W.w.drew.alloc (.cells a E)):Result Next)=.ok (.value (.slice (some ⟨W.size,0,none⟩) n (grownCap W.w n 0 E))) (W.tick.w.alloc (.cells b E)):=by
  rintro a b rfl;rfl
 exact fin (by simp)
noncomputable def Ynw(tb:Nat->Option TI)(n:Nat)(s:St): Option Pl:=match nxA tb n s with
 | some (p,o,[.nil])=>match o.op with
  | .call ⟨.builtin .cap,_,⟨[T]⟩⟩=>match tb T with
   | some ⟨.sl _ _,_,_,_⟩=>some p
   | _=>none
  | _=>none
 | _=>none
theorem Kp(h:Ynw c.tb c.n s=some p)(k:p.nx c (.d (.int .i64 0))): StP c s:=by
 unfold Ynw at h
 split at h<;>try cases h
 rename_i p' o hA
 split at h<;>try cases h
 rename_i asx T ho
 split at h<;>cases h
 rename_i ht
 refine Xbr (us:=[]) hA ?_ (Pl.nx_nil k)
 rw[ho]
 simp[F,Fp,ht]
theorem Sn{h':Int}(h:nxS c.tb c.n s=some (p,.nil,none,some h'))(k:p.nx c .nil)(hh:h'=0:=by exact rfl): StP c s:=Xmd h (by subst hh;rfl) k
noncomputable def Ynx(tb:Nat->Option TI)(n:Nat)(s:St): Option (Pl×FuncId×List AV):=match nxO tb n s with
 | some (p,o)=>match o.op with
  | .call ⟨.value x,asx,tys⟩=>match callee (look p.E) x,getEs (look p.E) asx.toList with
   | some (f,ex),some vs=>some (p,f,vs++ex)
   | _,_=>none
  | _=>none
 | none=>none
theorem CoN{f:FuncId}{asx:List AV}{Q:AV->Ob->Prop}(h:Ynx c.tb c.n s=some (p,f,asx))(hc:CO c.P f asx Q)(k:∀v ob,Q v ob->p.nx' c (v.rnf (rnL [(1000000,p.d.getD 0)])) [(p.d.getD 0,ob.rnf (rnL [(1000000,p.d.getD 0)]))])
 (hk:(Xsm asx [] [] (p.d.getD 0) p.H && !p.dr)=true:=by exact rfl):StP c s:=by
 rw[W0g,W1u] at hk
 obtain⟨hk,hdr⟩:=hk
 have hk':=hk
 simp only[Xsm,W0g,W1u] at hk'
 obtain⟨⟨⟨⟨⟨k1,k2⟩,k3⟩,k4⟩,k5⟩,k6⟩:=hk'
 have hid:∀ {a:AV},a.rnf (rnL [])=a:=by
  intro a
  induction a with
  | st a ih=>simp only[AV.rnf,ih]
  | tup a ih=>simp only[AV.rnf,ih]
  | fm f a ih=>simp only[AV.rnf,ih]
  | pr a c iha ihc=>simp only[AV.rnf,iha,ihc]
  | _=>rfl
 have hmap:asx.map (AV.rnf (rnL []))=asx:=by rw[show AV.rnf (rnL [])=id from funext λa=>hid,List.map_id]
 unfold Ynx at h
 split at h<;>try cases h
 rename_i p' o ho
 obtain⟨hw,hd⟩:=Xul ho
 split at h<;>try cases h
 rename_i x as' tys he
 split at h<;>cases h
 rename_i ex vs hvs hf
 have kk:∀v ob,Q v ob->WL c.P c.tb p.dr p.L (J c p.K) p.l (S.put ((sem p.E p.H).1,Xbe (sem p.E p.H).2 [(p.d.getD 0,ob.rnf (rnL [(1000000,p.d.getD 0)]))]) o.dst (v.rnf (rnL [(1000000,p.d.getD 0)]))):=λv ob hv=>by
  have:=Pl.nx'_eq.1 (k v ob hv)
  have this:WL c.P c.tb p.dr p.L (J c p.K) p.l (sem (Xsl p.E p.d _) (_++p.H)):=this
  rw[<-hd,Xfa]
  exact this
 refine Xme ho (.inl ⟨hw,?_⟩)
 unfold Wb
 rw[he]
 refine⟨_,_,_,hf,hvs,?_⟩
 rw[hdr] at kk |-
 obtain⟨a1,a2⟩:=Xiy hc hk (Xbi k2) (g:=look p.H) (λo x hx=>by simp[look] at hx)
 rw[hmap] at a2
 refine⟨_,_,.inr rfl,⟨a1,a2⟩,?_⟩
 rintro v g' ⟨v0,H',d1,⟨ob,rfl,d2⟩,rfl,rfl⟩
 have:=kk v0 ob d2
 simpa [rfH,rnL] using this
end
def AV.nl(o sz:Nat): AV->AV
 | .nil=>.gr o sz []
 | .st a=>.st (a.nl o sz)
 | .pr a c=>.pr (a.nl o sz) (c.nl o sz)
 | a=>a
theorem Yox{W:GW}{θ:Loc}{o sz:Nat}(h0:θ o=(none,0)): ∀ {a:AV} {cs:List Value},AV.C W θ a cs->AV.C W θ (a.nl o sz) cs:=by
 intro a
 induction a with
 | st a ih=>intro cs h;exact ih h
 | pr a c iha ihc=>intro cs ⟨u,v,h,h1,h2⟩;exact⟨u,v,h,iha h1,ihc h2⟩
 | nil=>intro cs ⟨p,h⟩;exact⟨p,by rw[h,h0];rfl,.inl (by rw[h0]),by simp,by rw[h0];decide,.inl rfl⟩
 | _=>intro cs h;exact h
theorem Yhp{o sz i:Nat}: ∀ {a:AV},(a.nl o sz).ids i->i=o\/a.ids i:=by
 intro a
 induction a with
 | st a ih=>exact ih
 | pr a c iha ihc=>exact λh=>h.elim (λh=>(iha h).imp id .inl) λh=>(ihc h).imp id .inr
 | nil=>exact .inl
 | _=>exact .inr
section
variable{c:Cx}{s:St}{p:Pl}
theorem nvS{K:List Kt}{E:Env}{H:Hpl}(q o' sz:Nat){a:AV}(hv:look H q=some (.var a))(hb:(Nat.blt o' 1000000 && !Xcd H o')=true)(k:J c K (sem E ((q,.var (a.nl o' sz))::(o',.tok 0 sz)::H))): J c K (sem E H):=by
 simp only[W0g,W1u] at hb
 have hb1:=Xqk hb.1
 have hn:look H o'=none:=Xbi hb.2
 have hq:q≠o':=λe=>by rw[e,hn] at hv;cases hv
 rintro x w ⟨s0,W,θ,hw,hs,hθ,rfl⟩
 have st:=Stp.new0 (d:=o') hs.obs hb1 hn (x:=.tok 0 sz) ⟨by simp,by simp,.inl (by simp)⟩ (λi h=>h)
 have h1:=hs.step0 st
 refine k x w ⟨_,W,_,hw,?_,λi hi=>(st.hi i hi).trans (hθ i hi),rfl⟩
 rw[show sem E ((q,Ob.var (a.nl o' sz))::(o',Ob.tok 0 sz)::H)=(look E,upd (upd (look H) o' (.tok 0 sz)) q (.var (a.nl o' sz))) by rw[Xa2,Xa2]]
 have hq1:upd (look H) o' (.tok 0 sz) q=some (.var a):=by rw[Xak hq];exact hv
 have hdom:∀ {i:Nat} {y:Ob},upd (look H) o' (.tok 0 sz) i=some y->∃z,upd (upd (look H) o' (.tok 0 sz)) q (.var (a.nl o' sz)) i=some z:=λ{i y} hy=>by
  by_cases e:i=q
  . subst e;exact⟨_,Xaj _ _ _⟩
  . exact⟨y,by rw[Xak e];exact hy⟩
 refine⟨h1.fm,h1.rel,⟨λi y hy=>?_,λi y b hy hl hb=>?_,λi j y y' b hy hy' hl hl' b1 b2=>?_,λi y j hy hj=>?_⟩,λt v i ht hi=>?_⟩
 . rcases Xaf hy with ⟨e1,e2⟩ | ⟨e1,e2⟩
   . subst e1;subst e2
     obtain⟨b,cs,T,r1,r2,r3,r4⟩:=h1.obs.r _ _ hq1
     exact⟨b,cs,T,r1,r2,Yox (by simp) r3,r4⟩
   . exact h1.obs.r _ _ e2
 . rcases Xaf hy with ⟨e1,e2⟩ | ⟨e1,e2⟩
   . subst e1;exact h1.obs.new _ _ b hq1 rfl hb
   . exact h1.obs.new _ _ b e2 hl hb
 . rcases Xaf hy with ⟨e1,e2⟩ | ⟨e1,e2⟩<;>rcases Xaf hy' with ⟨f1,f2⟩ | ⟨f1,f2⟩
   . rw[e1,f1]
   . subst e1;exact h1.obs.dis _ _ _ _ b hq1 f2 rfl hl' b1 b2
   . subst f1;exact h1.obs.dis _ _ _ _ b e2 hq1 hl rfl b1 b2
   . exact h1.obs.dis _ _ _ _ b e2 f2 hl hl' b1 b2
 . rcases Xaf hy with ⟨e1,e2⟩ | ⟨e1,e2⟩
   . subst e2
     rcases Yhp (a:=a) hj with h | h
     . exact hdom (y:=.tok 0 sz) (by rw[h];exact Xaj _ _ _)
     . obtain⟨z,hz⟩:=h1.obs.ids _ _ j hq1 h
       exact hdom hz
   . obtain⟨z,hz⟩:=h1.obs.ids _ _ j e2 hj
     exact hdom hz
 . obtain⟨z,hz⟩:=h1.ids t v i ht hi
   exact hdom hz
theorem Nv{K:List Kt}{E:Env}{H:Hpl}(q o' sz:Nat){a:AV}(h:nxJ c.tb c.n s=some (K,E,H))(k:StP c (.j [] K E ((q,.var (a.nl o' sz))::(o',.tok 0 sz)::H)))(hv:look H q=some (.var a):=by exact rfl)(hb:(Nat.blt o' 1000000 && !Xcd H o')=true:=by exact rfl): StP c s:=by
 unfold nxJ at h
 split at h<;>cases h
 rename_i hr
 exact go 1000 hr (nvS q o' sz hv hb k)
end
end Go.Vm
namespace Go.Proofs.YtfjafaehfjjaiaaGreatDoor
open Go Go.Vm Go.Num Go.Tow
theorem Xix{l:List Rat}(h0:0<l.length)(hl:l.length<=1048576): CA0 152 [.d (dqs l)] 4 (l.map dq):=by
 refine EnW Tryz.func152 λ_ _ _ _=>?_
 refine Ub rfl (λh=>?_) ?_
 . exact absurd h (by intro e; have:l.length = 0 := by simpa using congrArg List.length e
                      omega)
 refine ApL (l.map dq) rfl rfl (by simpa using h0) (by simpa using W0k hl (by decide)) ?_
 exact Rw [(7,1000000)] [(1000000,.arr 4 (l.map dq))] rfl (.one (.rf rfl) rfl rfl) ⟨_,rfl,rfl,rfl⟩
theorem Xj3{l:List Rat}(h0:0<l.length)(hl:l.length<=1048576): C0 152 [.d (dqs l)] (·=.d (dqs l)):=(Xix h0 hl).data
theorem Xv0{n:Nat}(h0:0<n)(hn:n<=1048576): CA0 366 [.nil,.d (.int .i64 n)] 4 []:=by
 refine EnW Tryz.func366 λ_ _ _ _=>?_
 refine No rfl (by omega) ?_
 refine Kp rfl ?_
 refine Ar 0 rfl ?_
 refine Ar n rfl ?_
 refine Yes rfl (by omega) ?_
 refine Kp rfl ?_
 refine Sn rfl ?_
 refine ApM n rfl h0 (by omega) ?_
 refine Sw 0 0 rfl (by omega) (by omega) ?_
 exact Rw [(22,1000000)] [(1000000,.arr 4 [])] rfl (.one (.rf rfl) rfl rfl) ⟨_,rfl,rfl,rfl⟩
theorem Yn9{c c':Bool}(h:c=c'){g:Hp}{K:Hpl}: FitT g K (.b c) (.b c'):=by
 subst h;exact .one (.rf rfl) (λ_ _ e=>by cases e) (λ_ _ e=>by cases e)
theorem Xq7{p q:Prop}(h:p↔q): dc p=dc q:=by rw[show p=q from propext h]
namespace P8
theorem Xz8{n:Int}(hn:n<0)(hl:(dig n.natAbs).length<=274877906944): C0 359 [.d (dz n)] (·=.tup (.pr (.d (dS false [])) (.d (.int .i64 7)))):=by
 refine En Tryz.func359 λ_ _ _=>?_
 refine Ce rfl (Sign_ok (z:=n) (by omega)) ?_
 refine Yes rfl (by rcases Xaw n 0 with ⟨g1,g2⟩ | ⟨g1,g2⟩ | ⟨g1,g2⟩<;>omega) ?_
 exact RTt rfl (.cons (.sd (.pd (.bd rfl) (.nil rfl))) Xa7)
theorem Xkr{n:Int}(hl:(dig n.natAbs).length<=274877906944): C0 365 [.d (dz n)] λv=>∃b l,v=.tup (.pr (.d (dS b l)) (.b (dc (0<=n/\sqN n.natAbs))))/\(0<=n->dS b l=dz (rt n.natAbs:Int)):=by
 have hs:=@Sqrt_ok n.natAbs hl
 refine En Tryz.func365 λ_ _ _=>?_
 by_cases hn:0<=n
 . have e:((n.natAbs:Nat):Int)=n:=by omega
   rw[e] at hs
   have hr:=(Xdc n.natAbs).1
   have h3:rt n.natAbs<=rt n.natAbs*rt n.natAbs:=Nat.le_mul_self _
   have l1:=Xar (show rt n.natAbs<=n.natAbs by omega)
   have l2:=Xar hr
   refine Ce rfl hs ?_
   refine Dw rfl ?_
   refine Yes rfl rfl ?_
   refine Ce rfl (Mul_ok (by rw[W1f];omega) (by rw[W1f];omega)) ?_
   refine Ce rfl (Cmp_ok (by rw[<-W2p,W1f];omega) (by omega)) ?_
   refine Rt rfl (.tup (.cons (.rf rfl) (Yn9 (Xq7 ?_)))) ⟨_,_,rfl,λ_=>rfl⟩
   unfold sqN
   rcases Xaw ((rt n.natAbs:Int)*(rt n.natAbs:Int)) n with ⟨g1,g2⟩ | ⟨g1,g2⟩ | ⟨g1,g2⟩<;>rw[<-W2p] at g1<;>rw[<-W2p] at g2 |-<;>omega
 . refine Ce rfl (Xz8 (by omega) hl) ?_
   refine Dw rfl ?_
   refine No rfl (by decide) ?_
   exact Rt rfl (.tup (.cons (.rf rfl) (Xv7 λh=>hn h.1))) ⟨_,_,rfl,λh=>absurd h hn⟩
theorem Xxj{x:Rat}{p:Nat}(hx:Qs p x)(hp:p<=4398046511104): C0 353 [.d (dq x)] λv=>∃b l b' l',v=.tup (.pr (.d (R2.dR b l b' l')) (.b (dc (∃y:Rat,y*y=x))))/\((∃y:Rat,y*y=x)->∃y:Rat,y*y=x/\R2.dR b l b' l'=dq y):=by
 have h1:=hx.n.len2 hp
 have h2:=hx.d.len2 hp
 have hi:=Xti (q:=x)
 refine En Tryz.func353 λ_ _ _=>?_
 refine Ca rfl (Xkr (n:=x.num) (by omega)) λv hv=>?_
 obtain⟨b,l,rfl,hb⟩:=hv
 refine Ca rfl (Xkr (n:=(x.den:Int)) (by omega)) λv hv=>?_
 obtain⟨b',l',rfl,hb'⟩:=hv
 have z:∀ {c g K},(c=false/\¬ ∃y:Rat,y*y=x)->FitT g K (.pr (.st (.pr (.st (.pr (.b false) .nil)) (.st (.pr (.b false) .nil)))) (.b c)) (.pr (.d (R2.dR false [] false [])) (.b (dc (∃y:Rat,y*y=x)))):=λ⟨h0,h⟩=>by
  subst h0;exact .cons (.sd (.pd (.sd (.pd (.bd rfl) (.nil rfl))) (.sd (.pd (.bd rfl) (.nil rfl))))) (Xv7 h)
 refine By rfl (λh=>?_) λh=>?_
 . have h:¬(0<=x.num/\sqN x.num.natAbs):=by simpa only [Xal,Xah] using h
   have no:¬ ∃y:Rat,y*y=x:=λe=>h ⟨(hi.1 e).1,(hi.1 e).2.1⟩
   exact Rt rfl (.tup (z ⟨rfl,no⟩)) ⟨false,[],false,[],rfl,λe=>absurd e no⟩
 have h:0<=x.num/\sqN x.num.natAbs:=by simpa [Xal,Xah] using h
 refine By rfl (λk=>?_) λk=>?_
 . have k:¬(0<=(x.den:Int)/\sqN (x.den:Int).natAbs):=by simpa only [Xal,Xah] using k
   have no:¬ ∃y:Rat,y*y=x:=λe=>k ⟨by omega,by rw[W1f];exact(hi.1 e).2.2⟩
   exact Rt rfl (.tup (z ⟨rfl,no⟩)) ⟨false,[],false,[],rfl,λe=>absurd e no⟩
 have k:0<=(x.den:Int)/\sqN (x.den:Int).natAbs:=by simpa [Xal,Xah] using k
 rw[W1f] at k
 obtain⟨y,y1,y2,y3⟩:=Xkm (q:=x) h.1 h.2 k.2
 refine Rt rfl (.tup (.cons (.rf rfl) (Xxp ⟨y,y3⟩))) ⟨_,_,_,_,rfl,λ_=>⟨y,y3,?_⟩⟩
 have e1:=hb h.1
 have e2:=hb' k.1
 rw[W1f] at e2
 show D.st (.pr (dS b l) (dS b' l'))=D.st (.pr (dz _) (dz _))
 rw[e1,e2,y1,y2]
theorem Xon{k r p:Nat}{t:Tw k}{a:Tow.El k}(hT:TS r k t)(ha:Sz p (toL k a))(hk:k<=16)(hp:p+3+cB r k<=4398046511104)(hr:r<=4398046511104): C0 356 [.d (dt t),.d (de a)] (·=.d (de (mul k t a (rat k (1/2))))):=by
 refine En Tryz.func356 λ_ _ _=>?_
 refine Ce rfl (Xcf (a:=1) (b:=2) (by decide) (by decide)) ?_
 rw[Xvz]
 refine Ce rfl (Xcw (x:=1/2) (p:=3) hT hk hr ⟨show (1/2:Rat).num.natAbs<2^3 by decide +kernel,show ((1/2:Rat).den:Int).natAbs<2^3 by decide +kernel⟩ (by decide)) ?_
 refine Ce rfl (Xdv hT ha Sz.half hk (by omega) hr) ?_
 exact R0
theorem Xq9{a b:List D}(h0:0<a.length+b.length)(hl:a.length+b.length<=1048576): C0 354 [.d (.sl 1 [.sl 4 a,.sl 4 b])] (·=.d (.sl 4 (a++b))):=by
 refine En Tryz.func354 λ_ _ _=>?_
 refine Lo (λ(x:Nat×Nat)=>[(0,.d (.sl 1 [.sl 4 a,.sl 4 b])),(2,.nil),(3,.d (.int .i64 x.2)),(9,.d (.sl 1 [.sl 4 a,.sl 4 b])),(10,.d (.int .i64 2)),(11,.d (.int .i64 x.1))]) (λ_=>[]) (λx=>x=(0,0)\/x=(1,a.length)\/x=(2,a.length+b.length)) (λx=>2-x.1) (0,0) [] rfl (.inl rfl) (λx hI=>?_)
 rcases hI with rfl | rfl | rfl
 . refine Yes rfl (show ((0:Nat):Int)<2 by decide) ?_
   refine Ix 0 rfl (u:=.sl 4 a) rfl ?_
   refine Ar a.length rfl ?_ (wr (by omega) (by simp only[inK];omega))
   refine No rfl (by omega) ?_
   refine Ar (1:Nat) rfl ?_
   exact Bk (1,a.length) [] rfl (.inr (.inl rfl)) (show 1<2 by decide)
 . refine Yes rfl (show ((1:Nat):Int)<2 by decide) ?_
   refine Ix 1 rfl (u:=.sl 4 b) rfl ?_
   refine Ar (a.length+b.length:Nat) rfl ?_ (wr (by omega) (by simp only[inK];omega))
   refine No rfl (by omega) ?_
   refine Ar (2:Nat) rfl ?_
   exact Bk (2,a.length+b.length) [] rfl (.inr (.inr rfl)) (show 0<1 by decide)
 refine No rfl (show ¬((2:Nat):Int)<2 by decide) ?_
 refine CoN rfl (Xv0 (n:=a.length+b.length) (by omega) hl) (λv ob hv=>?_)
 obtain⟨rfl,rfl⟩:=hv
 refine Lo (λ(x:Nat×List D)=>[(0,.d (.sl 1 [.sl 4 a,.sl 4 b])),(2,.nil),(6,.own 24 4 0 x.2.length),(25,.d (.sl 1 [.sl 4 a,.sl 4 b])),(26,.d (.int .i64 2)),(27,.d (.int .i64 x.1))]) (λx=>[(24,.arr 4 x.2)]) (λx=>x=(0,[])\/x=(1,a)\/x=(2,a++b)) (λx=>2-x.1) (0,[]) [] rfl (.inl rfl) (λx hI=>?_)
 rcases hI with rfl | rfl | rfl
 . refine Yes rfl (show ((0:Nat):Int)<2 by decide) ?_
   refine Ix 0 rfl (u:=.sl 4 a) rfl ?_
   refine ApO a rfl rfl rfl rfl (by omega) ?_
   refine Ar (1:Nat) rfl ?_
   exact Bk (1,a) [(24,90),(33,24)] rfl (.inr (.inl rfl)) (show 1<2 by decide)
 . refine Yes rfl (show ((1:Nat):Int)<2 by decide) ?_
   refine Ix 1 rfl (u:=.sl 4 b) rfl ?_
   refine ApO (a++b) rfl rfl rfl (by simp) (by simp;omega) ?_
   refine Ar (2:Nat) rfl ?_
   exact Bk (2,a++b) [(24,90),(33,24)] rfl (.inr (.inr rfl)) (show 0<1 by decide)
 refine No rfl (show ¬((2:Nat):Int)<2 by decide) ?_
 exact R1 rfl (.own rfl (by simp) (by rw[W1d];exact W0b (by simp)))
theorem Xmz{k:Nat}{x y:Tow.El k}(hk:k<=16): C0 354 [.d (.sl 1 [de x,de y])] (·=.d (de (pr x y))):=by
 have:=Xq9 (a:=(toL k x).map dq) (b:=(toL k y).map dq) (by simp[Xab];have:=W0r k;omega) (by simp[Xab];have:=p16 hk;omega)
 rwa[<-W2c] at this
end P8
open Go Go.Num Go.Tow
theorem Yb0{r:Nat}: ∀ {k p:Nat},0<iS r k p
 | 0,p=>Nat.succ_pos p
 | k+1,p=>by have:=Yb0 (r:=r) (k:=k) (p:=nS r k p);show 0<p+iS r k (nS r k p)+cB r k;omega
theorem Yma{r:Nat}: ∀ {k p:Nat},p<=iS r k p
 | 0,p=>Nat.le_succ p
 | k+1,p=>by show p<=p+iS r k (nS r k p)+cB r k;omega
theorem Yil{r:Nat}: ∀ {k p:Nat},p<=iB r k p
 | 0,p=>Nat.le_succ p
 | k+1,p=>by show p<=2*(p+iB r k (nB r k p)+cB r k);omega
end Go.Proofs.YtfjafaehfjjaiaaGreatDoor
namespace Go.Proofs.YtfjafaehfjjaiaaGreatDoor.P8
open Go Go.Vm Go.Num Go.Tow Go.Proofs.YtfjafaehfjjaiaaGreatDoor
def SqP(k:Nat)(t:Tw k)(a:Tow.El k)(v:AV): Prop:=∃w:List D,w.length<=2^k/\v=.tup (.pr (.d (.sl 4 w)) (.b (dc (Xcp k t a))))/\(Xcp k t a->∃x,mul k t x x=a/\D.sl 4 w=de x)
theorem Xjd{k r:Nat}{t:Tw k}(hT:TS r k t)(hk:k<=16)(hr:r<=4398046511104): C0 228 [.d (dt t),.d (dq ((0:Int):Rat))] (·=.d (de (zero k))):=by
 have:=Xcw (x:=((0:Int):Rat)) (p:=1) hT hk hr (Qs.int Zs.zero (W0a 1)) (by decide)
 rwa[show ((0:Int):Rat)=0 from rfl,Xdx] at this
theorem Xea{k:Nat}: ∀ {r p:Nat} {t:Tw k} {a:Tow.El k},TS r k t->Sz p (toL k a)->red k t->k<=16->qB r k p<=4398046511104->r<=4398046511104->C0 336 [.d (dt t),.d (de a)] (SqP k t a):=by
 induction k with
 | zero =>
  intro r p t a hT ha hR hk hq hr
  have hq:p<=4398046511104:=hq
  have key:∀y:Rat,Qs p y->C0 336 [.d (dts []),.d (dqs [y])] λv=>∃w:List D,w.length<=2^0/\v=.tup (.pr (.d (.sl 4 w)) (.b (dc (∃x:Rat,x*x=y))))/\((∃x:Rat,x*x=y)->∃x:Rat,x*x=y/\D.sl 4 w=dqs [x]):=λy hy=>by
   refine En Tryz.func336 λ_ _ _=>?_
   refine Yes rfl rfl ?_
   refine Ix 0 rfl (u:=dq y) rfl ?_
   refine Ca rfl (Xxj hy (by omega)) λv hv=>?_
   obtain⟨b,l,b',l',rfl,hw⟩:=hv
   exact Rt rfl (.tup (.cons (.lit rfl) (.one (.rf rfl) (λ_ _ e=>by cases e) (λ_ _ e=>by cases e)))) ⟨_,W0a _,rfl,λh=>let ⟨y,h1,h2⟩:=hw h;⟨y,h1,by rw[show dqs [y]=D.sl 4 [dq y] from rfl,<-h2];rfl⟩⟩
  exact key a (ha.qs (W0h.2 rfl))
 | succ k ih =>
  intro r p t a hT ha hR hk hq hr
  have hx:Sz p (toL k a.1):=Sz.left ha
  have hy:Sz p (toL k a.2):=Sz.right ha
  have hlen:=Xab k
  have hk0:=W0r k
  have hpk:=p16 (show k<=16 by omega)
  have hz:=ha.normS hT
  have L:=Xaz k t.1
  have hqq:p+vB r (k+1) p+vB r (k+1) r+nB r k p+qB r k (sX r k p)+iB r k (sX r k p+gC r k)+iS r k (sX r k p+gC r k)+iB r k r+2*cB r k+4<=4398046511104:=hq
  have hX:sX r k p=p+nS r k p+gC r k+cB r k+iS r k r+4:=rfl
  have hN:nB r k p=4*p+3*cB r k+r+1:=rfl
  have hI:0<iS r k r:=Yb0
  have q6:=Yma (r:=r) (k:=k) (p:=sX r k p+gC r k)
  have q7:=Yil (r:=r) (k:=k) (p:=sX r k p+gC r k)
  have q1:qB r k p<=qB r k (sX r k p):=Xdd (by omega)
  have q2:qB r k (nS r k p)<=qB r k (sX r k p):=Xdd (by omega)
  have q3:qB r k (p+iS r k r+cB r k)<=qB r k (sX r k p):=Xdd (by omega)
  have q4:sX r k p<=qB r k (sX r k p):=Ydg
  have hr0:t.2≠zero k:=λh0=>hR.2.2 ⟨zero k,by rw[h0,L.mz]⟩
  obtain⟨i,hi⟩:=(Xcn hR.1).2 t.2 hr0
  have him:=Xb9 hi
  have hiz:=Sz.invS hT.1 hT.2 hi
  have no0:∀ {g K},¬Xcp (k+1) t a->FitT g K (.pr .nil (.b false)) (.pr (.d (.sl 4 [])) (.b (dc (Xcp (k+1) t a)))):=λh=>.cons (.nil (sz:=4) rfl) (Xv7 h)
  refine En Tryz.func336 λ_ _ _=>?_
  refine No rfl (by show ¬((((toT k t.1++[toL k t.2]).map dqs).length:Nat):Int)=0;rw[twL];omega) ?_
  refine Dw rfl ?_
  refine Ar k rfl ?_ (tw1 t (by omega))
  refine Tk k ((toT k t.1).map dqs) rfl rfl (Xi6 t) (twT t) ?_
  refine Ar k rfl ?_ (tw1 t (by omega))
  refine Ix k rfl (twU t) ?_
  refine Dw rfl ?_
  refine Ar (2^k:Nat) rfl ?_ (hvq a (by omega))
  refine Tk (2^k) ((toL k a.1).map dq) rfl rfl (Xcc a) (hvT a) ?_
  refine Ar (2^k:Nat) rfl ?_ (hvq a (by omega))
  refine Dp (2^k) ((toL k a.2).map dq) rfl rfl (Xcc a) (hvD a) ?_
  refine Ce rfl (Xer (l:=toL k a.2) hy.ps (by omega) (by rw[hlen];omega)) ?_
  refine By rfl (λhv=>?_) λhv=>?_
  . have ev:=(Xam k a.2).2 hv
    have ea:a=up k a.1:=by show (a.1,a.2)=(a.1,zero k);rw[ev]
    refine Ca rfl (ih hT.1 hx hR.1 (by omega) (by omega) hr) λv hv=>?_
    obtain⟨w,hwl,rfl,hw⟩:=hv
    refine By rfl (λh1=>?_) λh1=>?_
    . obtain⟨x,hx1,hx2⟩:=hw h1
      injection hx2 with _ hx2
      subst hx2
      have hs:mul (k+1) t (pr x (zero k)) (pr x (zero k))=a:=(Ygp hx1).trans ea.symm
      refine Ce rfl (Xat (z:=0) (by decide)) ?_
      refine Ce rfl (Xjd hT.1 (by omega) hr) ?_
      refine Ce rfl (Xmz (x:=x) (y:=zero k) (by omega)) ?_
      exact Rt rfl (.tup (.cons (.rf rfl) (Xxp ⟨_,hs⟩))) ⟨_,by simp[Xab],rfl,λ_=>⟨_,hs,rfl⟩⟩
    . refine Ce rfl (Xnp hT.1 hT.2 (by omega) (by omega) hr hi) ?_
      refine No rfl (by decide) ?_
      refine Ce rfl (Xdv hT.1 hx hiz (by omega) (by omega) hr) ?_
      refine Ca rfl (ih hT.1 (hx.mul hT.1 hiz) hR.1 (by omega) (by omega) hr) λv hv=>?_
      obtain⟨w,hwl,rfl,hw⟩:=hv
      refine Ce rfl (Xat (z:=0) (by decide)) ?_
      refine Ce rfl (Xjd hT.1 (by omega) hr) ?_
      refine Ce rfl (Xq9 (a:=(toL k (zero k)).map dq) (b:=w) (by simp[hlen];omega) (by simp[hlen];omega)) ?_
      have hiff:Xcp k t.1 (mul k t.1 a.1 i)↔Xcp (k+1) t a:=⟨λ⟨x,hx1⟩=>⟨_,(Xtg him hx1).trans ea.symm⟩,λe=>W1b λh2=>Xlz hR.1 him h1 h2 (ea ▸ e)⟩
      refine Rt rfl (.tup (.cons (.rf rfl) (Yn9 (Xq7 hiff)))) ⟨_,by simp[hlen];omega,rfl,λe=>?_⟩
      obtain⟨x,hx1,hx2⟩:=hw (hiff.2 e)
      injection hx2 with _ hx2
      subst hx2
      exact⟨(zero k,x),(Xtg him hx1).trans ea.symm,by rw[<-W2c];rfl⟩
  have ev:a.2≠zero k:=λe=>hv ((Xam k a.2).1 e)
  refine Ce rfl (Xx2 hT ha hk (by omega) hr) ?_
  refine Ca rfl (ih hT.1 hz hR.1 (by omega) (by omega) hr) λv hv=>?_
  obtain⟨w,hwl,rfl,hw⟩:=hv
  refine By rfl (λh1=>?_) λh1=>?_
  . have no:¬Xcp (k+1) t a:=λe=>by
     exact h1 (Xtf e)
    exact Rt rfl (.tup (.cons (.nil (sz:=4) rfl) (Xv7 no))) ⟨[],W0z _,rfl,λe=>absurd e no⟩
  obtain⟨m,hm,hm2⟩:=hw (W2g.1 h1)
  injection hm2 with _ hm2
  subst hm2
  have hm:mul k t.1 m m=Tow.norm k t a:=hm
  have hmz:=hz.rootS hT.1 hR.1 hm
  refine Ce rfl (Xhx hT.1 hx hmz (by omega) (by omega) hr) ?_
  refine Ce rfl (Xki hT.1 hx hmz (by omega) (by omega) hr) ?_
  refine Lo (λ(x:Nat)=>[(4,.nil),(5,.b false),(8,.d (dt t.1)),(11,.d (de a.2)),(117,.lit 1 [de (Tow.add k a.1 m),de (Tow.add k a.1 (Tow.neg k m))]),(118,.d (.int .i64 2)),(119,.d (.int .i64 x))]) (λ_=>[]) (λx=>x=0\/(x=1/\¬Xcp k t.1 (mul k t.1 (rat k (1/2)) (Tow.add k a.1 m)))\/(x=2/\¬Xcp k t.1 (mul k t.1 (rat k (1/2)) (Tow.add k a.1 m))/\¬Xcp k t.1 (mul k t.1 (rat k (1/2)) (Tow.add k a.1 (Tow.neg k m))))) (λx=>2-x) 0 [] rfl (.inl rfl) (λx hI=>?_)
  have step:∀(mm:Tow.El k),mul k t.1 mm mm=Tow.norm k t a->Sz (nS r k p+gC r k) (toL k mm)->Sz (3+(p+(nS r k p+gC r k)+1)+cB r k) (toL k (mul k t.1 (Tow.add k a.1 mm) (rat k (1/2))))/\mul k t.1 (Tow.add k a.1 mm) (rat k (1/2))=mul k t.1 (rat k (1/2)) (Tow.add k a.1 mm):=λmm _ hs=>⟨by
   rw[L.mc];exact Sz.half.mul hT.1 (by rw[Xav];exact hx.add hs),L.mc _ _⟩
  have q5:qB r k (3+(p+(nS r k p+gC r k)+1)+cB r k)<=qB r k (sX r k p):=Xdd (by omega)
  refine By rfl (λh2=>?_) λh2=>?_
  . obtain⟨mm,e1,e2,e3,next⟩:∃mm,[de (Tow.add k a.1 m),de (Tow.add k a.1 (Tow.neg k m))][x]?=some (de (Tow.add k a.1 mm))/\mul k t.1 mm mm=Tow.norm k t a/\Sz (nS r k p+gC r k) (toL k mm)/\(¬Xcp k t.1 (mul k t.1 (rat k (1/2)) (Tow.add k a.1 mm))->(x+1=0\/(x+1=1/\¬Xcp k t.1 (mul k t.1 (rat k (1/2)) (Tow.add k a.1 m)))\/(x+1=2/\¬Xcp k t.1 (mul k t.1 (rat k (1/2)) (Tow.add k a.1 m))/\¬Xcp k t.1 (mul k t.1 (rat k (1/2)) (Tow.add k a.1 (Tow.neg k m)))))):=by
     rcases hI with rfl | ⟨rfl,g1⟩ | ⟨rfl,g1,g2⟩
     . exact⟨m,rfl,hm,hmz,λh=>.inr (.inl ⟨rfl,h⟩)⟩
     . exact⟨Tow.neg k m,rfl,by rw[L.mn,L.nm,L.nn,hm],Xg3 hmz,λh=>.inr (.inr ⟨rfl,g1,h⟩)⟩
     . omega
    refine Ix x rfl e1 ?_
    obtain⟨s1,s2⟩:=step mm e2 e3
    refine Ce rfl (Xon hT.1 (a:=Tow.add k a.1 mm) (p:=p+(nS r k p+gC r k)+1) (by rw[Xav];exact hx.add e3) (by omega) (by omega) hr) ?_
    refine Ca rfl (ih hT.1 s1 hR.1 (by omega) (by omega) hr) λv hv=>?_
    obtain⟨w,hwl,rfl,hw⟩:=hv
    refine By rfl (λh3=>?_) λh3=>?_
    . have h3:¬Xcp k t.1 (mul k t.1 (Tow.add k a.1 mm) (rat k (1/2))):=by simpa only [Xal,Xah] using h3
      rw[s2] at h3
      refine Ar (x+1:Nat) rfl ?_
      exact Bk (x+1) [] rfl (next h3) (by omega)
    . have h3:Xcp k t.1 (mul k t.1 (Tow.add k a.1 mm) (rat k (1/2))):=by simpa [Xal,Xah] using h3
      obtain⟨w,hw1,hw2⟩:=hw h3
      injection hw2 with _ hw2
      subst hw2
      rw[s2] at hw1
      have hw0:=Ygo hR ev e2 hw1
      have hwz:Sz (3+(p+(nS r k p+gC r k)+1)+cB r k+gC r k) (toL k w):=(s2 ▸ s1).rootS hT.1 hR.1 hw1
      have hw2:Tow.add k w w≠zero k:=λe=>hw0 (by
       have e3:mul k t.1 (rat k (1/2)) (Tow.add k w w)=w:=by rw[L.md,<-L.dm,Xgb,L.om]
       rw[<-e3,e,L.mz])
      obtain⟨j,hj⟩:=(Xcn hR.1).2 _ hw2
      have hdz:Sz (sX r k p+gC r k) (toL k (Tow.add k w w)):=by rw[Xav];exact hwz.dbl.mono (by omega)
      have hjz:=Sz.invS hT.1 hdz hj
      have hs:=Ygq e2 hw1 (Xb9 hj)
      refine Ce rfl (Xer (l:=toL k w) hwz.ps (by omega) (by rw[hlen];omega)) ?_
      refine No rfl (λe=>hw0 ((Xam k w).2 e)) ?_
      refine Ce rfl (Xhx hT.1 hwz hwz (by omega) (by omega) hr) ?_
      refine Ce rfl (Xnp hT.1 hdz (by omega) (by omega) hr hj) ?_
      refine Ce rfl (Xdv hT.1 hy hjz (by omega) (by omega) hr) ?_
      refine Ce rfl (Xmz (by omega)) ?_
      exact Rt rfl (.tup (.cons (.rf rfl) (Xxp ⟨_,hs⟩))) ⟨_,by simp[Xab],rfl,λ_=>⟨_,hs,rfl⟩⟩
  . have no:¬Xcp (k+1) t a:=λe=>by
     rcases hI with rfl | ⟨rfl,g1⟩ | ⟨rfl,g1,g2⟩
     . omega
     . omega
     . obtain⟨w,_,h6 | h6⟩:=Xpo hR.1 ev hm e
       . exact g1 ⟨w,h6⟩
       . exact g2 ⟨w,h6⟩
    exact Rt rfl (.tup (.cons (.nil (sz:=4) rfl) (Xv7 no))) ⟨[],W0z _,rfl,λe=>absurd e no⟩
theorem Xn4{k r p:Nat}{t:Tw k}{a:Tow.El k}(hT:TS r k t)(ha:Sz p (toL k a))(hR:red k t)(hk:k<=16)(hq:qB r k p<=4398046511104)(hv:vB r k (p+gC r k)<=4398046511104)(hr:vB r k r<=4398046511104):
 C0 289 [.d (dt t),.d (de a)] λv=>∃w:D,v=.tup (.pr (.d w) (.b (dc (Xcp k t a))))/\(Xcp k t a->∃x,mul k t x x=a/\0<=sgn k t x/\w=de x):=by
 have L:=Xaz k t
 have S:=Xau (Xad hR)
 have:=Xds (r:=r) k (p+gC r k)
 have hr2:=Xds (r:=r) k r
 refine En Tryz.func289 λ_ _ _=>?_
 refine Ca rfl (Xea hT ha hR hk hq (by omega)) λv hv=>?_
 obtain⟨w,_,rfl,hw⟩:=hv
 refine By rfl (λh=>?_) λh=>?_
 . exact Rt rfl (.tup (.cons (.nil (sz:=4) rfl) (Xv7 h))) ⟨_,rfl,λe=>absurd e h⟩
 have h:=W2g.1 h
 obtain⟨x,hx,hx2⟩:=hw h
 injection hx2 with _ hx2
 subst hx2
 have hz:=ha.rootS hT hR hx
 refine Ce rfl (Xlo hT hz (Xad hR) hk hv hr (by omega)) ?_
 refine By rfl (λh1=>?_) λh1=>?_
 . refine Ce rfl (Xtc hT hz hk (by omega) (by omega)) ?_
   exact Rt rfl (.tup (.cons (.rf rfl) (Xxp h))) ⟨_,rfl,λ_=>⟨Tow.neg k x,by rw[L.mn,L.nm,L.nn,hx],by rw[S.sn];omega,rfl⟩⟩
 . exact Rt rfl (.tup (.cons (.rf rfl) (Xxp h))) ⟨_,rfl,λ_=>⟨x,hx,by omega,rfl⟩⟩
theorem Reduced_ok{k r:Nat}{t:Tw k}(hT:TS r k t)(hR:red k t)(hk:k<=16)(hq:qB r k r<=4398046511104)(hv:vB r k r<=4398046511104): C0 288 [.d (dt t)] (·=.b true):=by
 have:=Xds (r:=r) k r
 refine En Tryz.func288 λ_ _ _=>?_
 refine Lo (λi:Nat=>[(0,.d (dt t)),(2,.b false),(7,.d (dt t)),(8,.d (.int .i64 ((toT k t).map dqs).length)),(9,.d (.int .i64 i))]) (λ_=>[]) (λi=>i<=k) (λi=>k-i) 0 [] rfl (by omega) (λi hi=>?_)
 refine By rfl (λh=>?_) λh=>?_<;>simp only[lt',Xaa] at h
 . obtain⟨w,x,h1,h2,h3,h4,h5⟩:=Tw.take (t:=t) (i:=i) (by omega)
   have hx:=h3 r hT
   obtain⟨h6,h7,h8⟩:=h5 hR
   have q1:=Xn2 (r:=r) (p:=r) (show i<=k by omega)
   have v1:=Xgj (r:=r) (s:=r) (show i<=k by omega)
   refine Ix i rfl (mp h2) ?_
   refine Tk i ((toT i w).map dqs) rfl rfl (by rw[lt',Xaa];omega) (by rw[<-W2e,h1]) ?_
   refine Ce rfl (Xb0 hx.1 hx.2 (by omega) (by omega) (by omega)) ?_
   refine No rfl (by simp) ?_
   refine Tk i ((toT i w).map dqs) rfl rfl (by rw[lt',Xaa];omega) (by rw[<-W2e,h1]) ?_
   refine Ce rfl (Xlo hx.1 hx.2 (Xad h6) (by omega) (by omega) (by omega) (by omega)) ?_
   refine No rfl (λe=>e (by rcases Xca w x with h | h | h<;>omega)) ?_
   refine Tk i ((toT i w).map dqs) rfl rfl (by rw[lt',Xaa];omega) (by rw[<-W2e,h1]) ?_
   refine Ca rfl (Xea hx.1 hx.2 h6 (by omega) (by omega) (by omega)) λv hv=>?_
   obtain⟨d,_,rfl,hd⟩:=hv
   refine No rfl h8 ?_
   refine Ar (i+1:Nat) rfl ?_
   exact Bk (i+1) [] rfl (show i+1<=k by omega) (by show k-(i+1)<k-i;omega)
 . exact R0
theorem Xrc{l:List (List Rat)}(hl:l.length<=1048576)(h:∀x∈l,0<x.length/\x.length<=1048576): CA0 290 [.d (dts l)] 1 (l.map dqs):=by
 have hll:(l.map dqs).length=l.length:=by simp
 refine EnW Tryz.func290 λ_ _ _ _=>?_
 refine Mk l.length rfl (by omega) ?_ (by simp[hll])
 refine Lo (λi:Nat=>[(0,.d (dts l)),(2,.nil),(3,.own 8 1 0 l.length),(9,.d (dts l)),(10,.d (.int .i64 (l.map dqs).length)),(11,.d (.int .i64 i))]) (λi=>[(8,.arr 1 (fl (l.map dqs) (.sl 4 []) i))]) (λi=>i<=l.length) (λi=>l.length-i) 0 [] rfl (by omega) (λi hi=>?_) (by exact⟨rfl,by rw[<-Xis hll];rfl,rfl,rfl,rfl⟩)
 refine By rfl (λg=>?_) λg=>?_<;>simp only[lt'] at g
 . have hu:l[i]?=some l[i]:=W0c (by omega)
   have hm:=h _ (W6n (l:=l) (n:=i) (by omega))
   refine Ix i rfl (mp hu) ?_
   refine Ce rfl (Xj3 hm.1 hm.2) ?_
   refine Eo i rfl (by omega) ?_
   refine Sto rfl (by rw[Xjw (by omega)];omega) (Xmq (u:=dqs l[i]) (by rw[W1p,hu];rfl)) ?_
   refine Ar (i+1:Nat) rfl ?_
   exact Bk (i+1) [] rfl (show i+1<=l.length by omega) (by show l.length-(i+1)<l.length-i;omega)
 . exact Rw [(8,1000000)] [(1000000,.arr 1 (l.map dqs))] rfl (.one (.rf rfl) rfl rfl) ⟨_,rfl,by rw[hll];rfl,rfl⟩ (by rw[Xmr (by omega)];rfl)
theorem Adjoin_ok{k r p:Nat}{t:Tw k}{a:Tow.El k}(hT:TS r k t)(ha:Sz p (toL k a))(hR:red k t)(hk:k<8)(hq:qB r k p<=4398046511104)(hq2:qB r k r<=4398046511104)(hv:vB r k (p+gC r k)<=4398046511104)(hr:vB r k r<=4398046511104):
 C0 227 [.d (dt t),.d (de a)] (R8.AdjR k t a):=by
 have h0:=Xds (r:=r) k r
 have h1:=Xds (r:=r) k (p+gC r k)
 have h2:=Xcv (r:=r) (k:=k) (show p<=p+gC r k by omega)
 have hlen:=Xaa k t
 have e2:(((toT k t).map dqs).length:Int)=k:=by simp[hlen]
 have hle:∀x∈toT k t,0<x.length/\x.length<=1048576:=λx hx=>by
  obtain⟨i,hi,e⟩:=List.mem_iff_getElem.1 hx
  have:=(Xkg hT (i:=i) (l:=x) (by rw[W0c hi,e])).1
  rw[hlen] at hi
  have h3:=W0m (n:=2) (by decide) (show i<=8 by omega)
  have:=W0r i
  omega
 refine En Tryz.func227 λ_ _ _=>?_
 refine Ce rfl (Xb0 hT ha (by omega) (by omega) (by omega)) ?_
 refine No rfl (by simp) ?_
 refine Ce rfl (Reduced_ok hT hR (by omega) hq2 hr) ?_
 refine No rfl (by simp) ?_
 refine Ce rfl (Xlo hT ha (Xad hR) (by omega) (by omega) hr (by omega)) ?_
 refine By rfl (λh=>?_) λh=>?_
 . exact Rt rfl (.tup (.cons (.nil rfl) (.cons (.nil rfl) Xa7))) (.inl ⟨h,rfl⟩)
 refine Ca rfl (Xn4 hT ha hR (by omega) hq hv hr) λv hv=>?_
 obtain⟨w,rfl,hw⟩:=hv
 refine By rfl (λh1=>?_) λh1=>?_
 . obtain⟨x,x1,x2,rfl⟩:=hw h1
   refine Ce rfl (Xrc (by omega) hle).data ?_
   exact Rt rfl (.tup (.cons (.rf rfl) (.cons (.rf rfl) Xa7))) (.inr (.inl ⟨x,x1,x2,rfl⟩))
 refine No rfl (by simp only[lt',hlen];omega) ?_
 refine Cr rfl (Xrc (by omega) hle) ?_
 refine Ce rfl (Xj3 (by rw[Xab];exact W0r k) (by rw[Xab];have:=W0m (n:=2) (by decide) (show k<=8 by omega);omega)) ?_
 refine ApO ((toT k t++[toL k a]).map dqs) rfl rfl rfl (by simp) (by simp[hlen];omega) ?_
 refine Fz 11 9 ((toT k t++[toL k a]).map dqs) rfl (by simp) (by rw[W1d];exact W0b (by simp)) ?_
 have hrt:=Xx1 (r:=max r p) (t:=tsn t a) (i:=k) ?_ (by omega) (by omega) (by omega)
 rw[<-e2] at hrt
 refine Ce rfl hrt ?_
 exact Rt rfl (.tup (.cons (.rf rfl) (.cons (.rf rfl) Xa7))) (.inr (.inr ⟨by omega,h1,hk,rfl⟩))
 exact⟨hT.mono (by omega),ha.mono (by omega)⟩
end Go.Proofs.YtfjafaehfjjaiaaGreatDoor.P8
namespace Go.Proofs.YtfjafaehfjjaiaaGreatDoor.P9
open Go Go.Vm Go.Num Go.Tow Go.Proofs.YtfjafaehfjjaiaaGreatDoor
section
theorem Xj2{x:Rat}{p:Nat}(hx:Qs p x)(hp:p<=4398046511104): C0 117 [.d (dq x)] (·=.d (dq x)):=by
 have h1:=hx.n.len2 hp
 have h2:=hx.d.len2 hp
 refine En Tryz.func117 λ_ _ _=>?_
 refine Dw rfl ?_
 refine Ce rfl (Xbq (l:=dig x.num.natAbs) (by omega)) ?_
 refine Ce rfl (Xbq (l:=dig (x.den:Int).natAbs) (by omega)) ?_
 exact R0
theorem Xiw{l:List Rat}{p:Nat}(hl:Ps p l)(hp:p<=4398046511104)(hn:l.length<=1048576): C0 230 [.d (dqs l)] (·=.d (dqs l)):=by
 have hll:(l.map dq).length=l.length:=by simp
 refine En Tryz.func230 λ_ _ _=>?_
 refine Mk l.length rfl (by omega) ?_ (by simp[hll])
 refine Lo (λi:Nat=>[(0,.d (dqs l)),(2,.nil),(3,.own 8 4 0 l.length),(9,.d (dqs l)),(10,.d (.int .i64 (l.map dq).length)),(11,.d (.int .i64 i))]) (λi=>[(8,.arr 4 (fl (l.map dq) rz i))]) (λi=>i<=l.length) (λi=>l.length-i) 0 [] rfl (by omega) (λi hi=>?_) (by exact⟨rfl,by rw[<-Xis hll];rfl,rfl,rfl,rfl⟩)
 refine By rfl (λg=>?_) λg=>?_<;>simp only[lq] at g
 . obtain⟨u,hu⟩:=qat (l:=l) (k:=i) (by omega)
   refine Ix i rfl (mp hu) ?_
   refine Ce rfl (Xj2 (hl u (W0f hu)) hp) ?_
   refine Eo i rfl (by omega) ?_
   refine Sto rfl (by rw[Xjw (by omega)];omega) (Xmq (u:=dq u) (by rw[W1p,hu];rfl)) ?_
   refine Ar (i+1:Nat) rfl ?_
   exact Bk (i+1) [] rfl (show i+1<=l.length by omega) (by show l.length-(i+1)<l.length-i;omega)
 . refine R1 rfl (.own rfl (by rw[Xjw (by omega)];simp) ?_)
   rw[Xmr (by omega),W1d]
   exact W0b (by simp)
theorem Xyc{x y:Rat}{p q:Nat}(hx:Qs p x)(hy:Qs q y)(hp:p+q<=8796093022208): C0 144 [.d (dq x),.d (dq y)] (·=.b (dc (x=y))):=by
 refine En Tryz.func144 λ_ _ _=>?_
 refine Ce rfl (Xbt hx hy hp) ?_
 exact R1 rfl (.bp (Xah.trans ⟨λh=>W1b λe=>R9.cmpQ_ne.2 e h,λe=>W1b λh=>R9.cmpQ_ne.1 h e⟩))
theorem Xzk{l m:List Rat}{p q:Nat}(hl:Ps p l)(hm:Ps q m)(hp:p+q<=8796093022208)(hn:l.length<=1048576): C0 143 [.d (dqs l),.d (dqs m),.d (.raw (.func (.func 144) #[] #[]))] (·=.b (dc (l=m))):=by
 refine En Tryz.func143 λ_ _ _=>?_
 refine By rfl (λh=>?_) λh=>?_<;>simp only[lq] at h
 . exact R1 rfl (.bp ⟨nofun,λe=>absurd (by rw[e]) h⟩)
 have h:l.length=m.length:=by omega
 refine Lo (λk:Nat=>[(0,.d (dqs l)),(1,.d (dqs m)),(2,.d (.raw (.func (.func 144) #[] #[]))),(15,.d (dqs l)),(16,.d (.int .i64 (l.map dq).length)),(17,.d (.int .i64 k))]) (λ_=>[]) (λk=>k<=l.length/\l.take k=m.take k) (λk=>l.length-k) 0 [] rfl ⟨by omega,rfl⟩ λk ⟨hk,ht⟩=>?_
 refine By rfl (λh2=>?_) λh2=>?_<;>simp only[lq] at h2
 . obtain⟨x,hx⟩:=qat (l:=l) (k:=k) (by omega)
   obtain⟨y,hy⟩:=qat (l:=m) (k:=k) (by omega)
   refine Ix k rfl (mp hx) ?_
   refine Ix k rfl (mp hy) ?_
   refine Ce rfl (Xyc (hl x (W0f hx)) (hm y (W0f hy)) hp) ?_
   refine By rfl (λh3=>?_) λh3=>?_
   . have h3:¬x=y:=by simpa [Xal,Xah] using h3
     exact R1 rfl (.bp ⟨nofun,λe=>by subst e;rw[hx] at hy;injection hy with hy;exact absurd hy h3⟩)
   . have e:x=y:=by simpa [Xal,Xah] using h3
     refine Ar (k+1:Nat) rfl ?_
     exact Bk (k+1) [] rfl ⟨by omega,by rw[W2d,W2d,hx,hy,ht,e]⟩ (by show l.length-(k+1)<l.length-k;omega)
 . rw[W0b (by omega),W0b (by omega)] at ht
   exact R1 rfl (.bp ⟨λ_=>ht,λ_=>rfl⟩)
theorem sameElement_ok{l m:List Rat}{p q:Nat}(hl:Ps p l)(hm:Ps q m)(hp:p+q<=8796093022208)(hn:l.length<=1048576): C0 87 [.d (dqs l),.d (dqs m)] (·=.b (dc (l=m))):=by
 refine En Tryz.func87 λ_ _ _=>?_
 refine Ce rfl (Xzk hl hm hp hn) ?_
 exact R0
theorem Xzj{T U:List (List Rat)}{p q:Nat}(hT:Pt p T)(hU:Pt q U)(hp:p+q<=8796093022208)(hl:T.length<=16): C0 142 [.d (dts T),.d (dts U),.d (.raw (.func (.func 87) #[] #[]))] (·=.b (dc (T=U))):=by
 refine En Tryz.func142 λ_ _ _=>?_
 refine By rfl (λh=>?_) λh=>?_<;>simp only[lt'] at h
 . exact R1 rfl (.bp ⟨nofun,λe=>absurd (by rw[e]) h⟩)
 have h:T.length=U.length:=by omega
 refine Lo (λk:Nat=>[(0,.d (dts T)),(1,.d (dts U)),(2,.d (.raw (.func (.func 87) #[] #[]))),(15,.d (dts T)),(16,.d (.int .i64 (T.map dqs).length)),(17,.d (.int .i64 k))]) (λ_=>[]) (λk=>k<=T.length/\T.take k=U.take k) (λk=>T.length-k) 0 [] rfl ⟨by omega,rfl⟩ λk ⟨hk,ht⟩=>?_
 refine By rfl (λh2=>?_) λh2=>?_<;>simp only[lt'] at h2
 . obtain⟨x,hx⟩:∃x,T[k]?=some x:=⟨_,W0c (by omega)⟩
   obtain⟨y,hy⟩:∃y,U[k]?=some y:=⟨_,W0c (by omega)⟩
   obtain⟨x1,x2⟩:=hT k x hx
   obtain⟨y1,y2⟩:=hU k y hy
   have:=p16 (show k<=16 by omega)
   refine Ix k rfl (mp hx) ?_
   refine Ix k rfl (mp hy) ?_
   refine Ce rfl (sameElement_ok x2 y2 hp (by omega)) ?_
   refine By rfl (λh3=>?_) λh3=>?_
   . have h3:¬x=y:=by simpa [Xal,Xah] using h3
     exact R1 rfl (.bp ⟨nofun,λe=>by subst e;rw[hx] at hy;injection hy with hy;exact absurd hy h3⟩)
   . have e:x=y:=by simpa [Xal,Xah] using h3
     refine Ar (k+1:Nat) rfl ?_
     exact Bk (k+1) [] rfl ⟨by omega,by rw[W2d,W2d,hx,hy,ht,e]⟩ (by show T.length-(k+1)<T.length-k;omega)
 . rw[W0b (by omega),W0b (by omega)] at ht
   exact R1 rfl (.bp ⟨λ_=>ht,λ_=>rfl⟩)
theorem begins_ok{T U:List (List Rat)}{p q:Nat}(hT:Pt p T)(hU:Pt q U)(hp:p+q<=8796093022208)(hl:T.length<=16): C0 86 [.d (dts T),.d (dts U)] (·=.b (dc (T.take U.length=U))):=by
 refine En Tryz.func86 λ_ _ _=>?_
 refine By rfl (λh=>?_) λh=>?_<;>simp only[lt'] at h
 . have hq:Pt p (T.take U.length):=λi r hi=>by
    rw[W1e] at hi
    split at hi
    . exact hT i r hi
    . cases hi
   refine Tk U.length ((T.take U.length).map dqs) rfl rfl (by simp only[lt'];omega) (by rw[W2e]) ?_ (by simp only[lt'])
   refine Ce rfl (Xzj hq hU hp (by rw[W0j];omega)) ?_
   exact R0
 . exact R1 rfl (.bp ⟨nofun,λe=>absurd (congrArg List.length e) (by rw[W0j];omega)⟩)
theorem Yhf{T:List (List Rat)}{l:List Rat}(h0:0<l.length)(hT:T.length<=16)(hl:l.length<=2^T.length): C0 92 [.d (dts T),.d (dqs l)] (·=.d (dqs (l++List.replicate (2^T.length-l.length) 0))):=by
 have hp:=p16 hT
 obtain⟨n,hn⟩:∃n,n=2^T.length:=⟨_,rfl⟩
 rw[<-hn] at hp hl |-
 refine En Tryz.func92 λ_ _ _=>?_
 refine Cr rfl (Xix h0 (by omega)) ?_
 refine Lo (λk:Nat=>[(0,.d (dts T)),(5,.own 7 4 0 ((l++List.replicate k 0).map dq).length)]) (λk=>[(7,.arr 4 ((l++List.replicate k 0).map dq))]) (λk=>l.length+k<=n) (λk=>n-k) 0 [] rfl (by omega) (λk hk=>?_) (by exact⟨by simp;rfl,by simp;rfl,rfl,rfl,rfl⟩)
 refine Ar n rfl ?_ (by rw[hn];simp only[lt'];exact Xbs (by omega))
 refine By rfl (λh=>?_) λh=>?_<;>simp only[lq,W0d,W1v] at h
 . refine Ce rfl (Xat (z:=0) (by decide)) ?_
   refine ApO ((l++List.replicate (k+1) 0).map dq) rfl rfl rfl (by rw[W6p];simp) (by simp;omega) ?_
   exact Bk (k+1) [(7,90),(17,7)] rfl (show l.length+(k+1)<=n by omega) (by show n-(k+1)<n-k;omega)
 . refine R1 rfl (.own rfl (by omega) ?_)
   rw[W1d,show n-l.length=k by omega]
   exact W0b (by simp)
theorem Xqa{k m:Nat}{s:Tow.El k}{b:Tow.El m}{T:Tw m}(h:Lf s b)(hk:k<=m)(hm:m<=16): C0 92 [.d (dt T),.d (de s)] (·=.d (de b)):=by
 have:=Yhf (T:=toT m T) (l:=toL k s) (by rw[Xab];exact W0r k) (by rw[Xaa];omega) (by rw[Xab,Xaa];exact W0m (by decide) hk)
 rw[Xaa,Xab,<-h] at this
 exact this
abbrev dE(T rs:List (List Rat)): D:=.st (.pr (dts T) (dts rs))
theorem Xd2{k R z:Nat}{T:Tw k}{rs:List (List Rat)}{σ:Nat->Tow.El k}(hT:TS R k T)(hk:k<=16)(hR:R<=4398046511104): ∀ {j p:Nat} {a:Tow.El j},R9.Rts k z j rs σ->Sz p (toL j a)->j<=16->imB (cB R k) z j p<=4398046511104 ->
 C0 147 [.d (dE (toT k T) rs),.d (de a)] (·=.d (de (ev T σ j a))):=by
 intro j
 induction j with
 | zero =>
  intro p a _ ha hj hb
  have hb:p+1<=4398046511104:=hb
  have key:∀y:Rat,Qs p y->C0 147 [.d (dE (toT k T) rs),.d (dqs [y])] (·=.d (de (rat k y))):=λy hy=>by
   refine En Tryz.func147 λ_ _ _=>?_
   refine Yes rfl rfl ?_
   refine Dw rfl ?_
   refine Ix 0 rfl (u:=dq y) rfl ?_
   refine Ce rfl (Xcw hT hk hR hy (by omega)) ?_
   exact R0
  exact key a (ha.qs (W0h.2 rfl))
 | succ j ih =>
  intro p a hr ha hj hb
  have hb':2*imB (cB R k) z j p+z+cB R k+1<=4398046511104:=hb
  have hr':R9.Rts k z j rs σ:=λi hi=>hr i (by omega)
  have hpj:=p16 (show j<=16 by omega)
  have hp0:=W0r j
  have hpp:=Ybz (c:=cB R k) (z:=z) (p:=p) (j:=j)
  have hs:∀i,i<j->Sz z (toL k (σ i)):=λi hi=>(hr' i hi).elim λ_ h=>h.elim λ_ h=>h.2.2.2
  have h1:=Xi9 hT (a:=a.1) hs (Sz.left ha)
  have h2:=Xi9 hT (a:=a.2) hs (Sz.right ha)
  obtain⟨m,s,m1,m2,m3,m4⟩:=hr j (by omega)
  refine En Tryz.func147 λ_ _ _=>?_
  refine No rfl (by show ¬((((toL j a.1++toL j a.2).map dq).length:Nat):Int)=1;rw[hvL];omega) ?_
  refine Ar (2^j:Nat) rfl ?_ (hvq a (by omega))
  refine Lo (λi:Nat=>[(1,.d (de a)),(2,.ptr 2 0),(4,.nil),(5,.d (.int .i64 (2^j:Nat))),(6,.d (.int .i64 i))]) (λ_=>[(2,.var (.d (dE (toT k T) rs)))]) (λi=>i<=j) (λi=>j-i) 0 [] rfl (by omega) λi hi=>?_
  refine Ar (i+1:Nat) rfl ?_
  refine Ar (2^(i+1):Nat) rfl ?_ (Xbs (by omega))
  refine By rfl (λh=>?_) λh=>?_
  . have h:((2^(i+1):Nat):Int)<(((toL j a.1++toL j a.2).map dq).length:Nat):=h
    rw[hvL,<-Nat.pow_succ'] at h
    have h:i+1<j+1:=(W2v (by decide:1<2)).1 (by omega)
    refine Ar (i+1:Nat) rfl ?_
    exact Bk (i+1) [] rfl (show i+1<=j by omega) (by show j-(i+1)<j-i;omega)
  . have h:¬((2^(i+1):Nat):Int)<(((toL j a.1++toL j a.2).map dq).length:Nat):=h
    rw[hvL,<-Nat.pow_succ'] at h
    have h:¬i+1<j+1:=λe=>h (by have:=(W2v (by decide:1<2)).2 e;omega)
    obtain rfl:i=j:=by omega
    refine Dw rfl ?_
    refine Tk (2^i) ((toL i a.1).map dq) rfl rfl (Xcc a) (hvT a) ?_
    refine Ce rfl (ih hr' (Sz.left ha) (by omega) (by omega)) ?_
    refine Dp (2^i) ((toL i a.2).map dq) rfl rfl (Xcc a) (hvD a) ?_
    refine Ce rfl (Xer (l:=toL i a.2) (Sz.right ha).ps (by omega) (by rw[Xab];omega)) ?_
    refine By rfl (λhv=>?_) λhv=>?_
    . have hv:a.2=zero i:=(Xam i a.2).2 hv
      have e:ev T σ i a.1=ev T σ (i+1) a:=by
       have L:=Xaz k T
       show _=Tow.add k (ev T σ i a.1) (mul k T (ev T σ i a.2) (σ i))
       rw[hv,Xd3,L.mc,L.mz,L.az]
      exact R1 rfl (.eq (congrArg de e))
    . refine Dw rfl ?_
      refine Dp (2^i) ((toL i a.2).map dq) rfl rfl (Xcc a) (hvD a) ?_
      refine Ce rfl (ih hr' (Sz.right ha) (by omega) (by omega)) ?_
      refine Ix i rfl (mp m2) ?_
      refine Ce rfl (Xqa (T:=T) m3 m1 hk) ?_
      refine Ce rfl (Xdv hT h2 m4 hk (by omega) hR) ?_
      refine Ce rfl (Xhx hT h1 (h2.mul hT m4) hk (by omega) hR) ?_
      exact R0
section
variable{c:Fg}{K:Nat}{G:Tw K}{S:List (Tow.El K)}{k l:Nat}{t:Tw k}{u:Tw l}{ρ ρu:Nat->Tow.El K}
theorem Xc1(W:Wy c G S)(ht:TOk G S k t ρ)(hu:TOk G S l u ρu): C0 146 [.d (dt t),.d (dt u)] (R9.ExQ c G S l k t ρ ρu λT rs=>.tup (.pr (.d (.st (.pr T rs))) (.d (.int .i64 0)))):=by
 have hl3:=W.le hu
 have hH:=W.k.h
 refine En Tryz.func146 λ_ _ _=>?_
 refine Nv 6 7 1 rfl ?_
 refine Lo (λ(x:Nat×(Σ m,Tw m)×List (List Rat))=>[(4,.ptr 4 0),(5,.d (.int .i64 0)),(6,.ptr 6 0),(14,.d (dt u)),(15,.d (.int .i64 ((toT l u).map dqs).length)),(16,.d (.int .i64 x.1))]) (λx=>[(4,.var (.st (.pr .nil .nil))),(6,.var (.st (.pr (.d (dt x.2.1.2)) (.gr 7 1 (x.2.2.map dqs))))),(7,.tok (x.2.2.map dqs).length 1)])
  (R9.ExI c G S l k t ρ ρu) (λx=>l-x.1) (0,⟨k,t⟩,[]) [] rfl ⟨W0z _,rfl,ρ,ht,Beg.rf,λ_ _=>rfl,λi hi=>by omega,λ_=>rfl⟩ (λ(i,⟨m,T⟩,rs) hI=>?_)
 have hI':=hI
 obtain⟨hi,hrl,ρ',hT,hB,ha,hrt,hc⟩:=hI
 simp only at hi hrl hT hB ha hrt hc
 have hm3:=W.le hT
 have hz:=W.t hT
 refine By rfl (λh=>?_) λh=>?_<;>simp only[lt',Xaa] at h
 . have hil:i<l:=by omega
   obtain⟨x,σ,x1,x2,s1,s2,hev,x4,hsz⟩:=R9.ExI.rad W hu hil hT hrt
   obtain⟨q1,q2,q3,q4⟩:=R9.exB W.k hm3
   have hE:=Xxy hm3 (show i<c.H by omega)
   have hR:=W.k.r
   have hE':=W.k.e
   have hlen:(rs.map dqs).length<=c.H:=by rw[W0i];omega
   refine Ix i rfl (mp x1) ?_
   refine Dw rfl ?_
   refine Ce rfl (Xd2 (k:=m) (T:=T) hz (by omega) (by omega) s1 x2 (by omega) (by omega)) ?_
   refine Ca rfl (P8.Adjoin_ok (k:=m) (t:=T) hz hsz hT.r (by omega) q1 q2 q3 q4) λv hv=>?_
   rcases hv with ⟨h1,rfl⟩ | ⟨y,h1,h2,rfl⟩ | ⟨h1,h2,h3,rfl⟩
   . have:=Xc8 (Xad W.g) hT.h (a:=ev T σ i x)
     rw[hev,(Xau (Xad W.g)).sm,x4] at this
     omega
   . refine No rfl (by simp) ?_
     refine ApG ((rs++[toL m y]).map dqs) rfl (by simp) (by simp at hlen |-;omega) ?_
     refine Ar (i+1:Nat) rfl ?_
     exact Bk (i+1,⟨m,T⟩,rs++[toL m y]) [(7,90),(39,7)] rfl (hI'.sq W hu hil hT hB ha hrt hc s2 hev x4 h1 h2) (by show l-(i+1)<l-i;omega)
   . refine No rfl (by simp) ?_
     refine ApG ((rs++[toL (m+1) (Xcr (m+1) m)]).map dqs) rfl (by simp) (by simp at hlen |-;omega) ?_
     refine Ar (i+1:Nat) rfl ?_
     exact Bk (i+1,⟨m+1,tsn T (ev T σ i x)⟩,rs++[toL (m+1) (Xcr (m+1) m)]) [(7,90),(39,7)] rfl (hI'.new W hu hil hT hB ha hrt hev x4 h2) (by show l-(i+1)<l-i;omega)
 . obtain rfl:i=l:=by omega
   exact Rt rfl (.tup (.cons (.sd (.pd (.rf rfl) (.gr rfl))) Xa7)) ⟨m,T,rs,ρ',rfl,hT,hB,ha,hrt,hc⟩
end
end
section
theorem Xeo{x:Nm}{r p:Nat}(hr:TS r x.k x.t)(hp:Sz p (toL x.k x.a))(hk:x.k<=16)(h1:r<=4398046511104)(h2:p<=4398046511104): C0 148 [.d (dN x)] (·=.d (dN x)):=by
 have hpk:=p16 hk
 refine En Tryz.func148 λ_ _ _=>?_
 refine Ce rfl (Xiw hp.ps h2 (by rw[Xab];omega)) ?_
 refine Nv 3 7 1 rfl ?_
 refine Lo (λ(i:Nat)=>[(2,.ptr 2 0),(3,.ptr 3 0),(11,.d (dt x.t)),(12,.d (.int .i64 ((toT x.k x.t).map dqs).length)),(13,.d (.int .i64 i))]) (λi=>[(2,.var (.st (.pr .nil .nil))),(3,.var (.st (.pr (.gr 7 1 (((toT x.k x.t).take i).map dqs)) (.d (de x.a))))),(7,.tok (((toT x.k x.t).take i).map dqs).length 1)])
  (λi=>i<=x.k) (λi=>x.k-i) 0 [] rfl (W0z _) (λi hi=>?_)
 refine By rfl (λh=>?_) λh=>?_<;>simp only[lt',Xaa] at h
 . obtain⟨w,y,y1,y2,y3,_⟩:=Tw.take (t:=x.t) (i:=i) (by omega)
   have hy:=(y3 r hr).2
   refine Ix i rfl (mp y2) ?_
   refine Dw rfl ?_
   refine Ce rfl (Xiw hy.ps h1 (by rw[Xab];have:=p16 (show i<=16 by omega);omega)) ?_
   refine ApG (((toT x.k x.t).take (i+1)).map dqs) rfl (by rw[W2d,y2];simp) (by simp[Xaa];omega) ?_
   refine Ar (i+1:Nat) rfl ?_
   exact Bk (i+1) [(7,90),(22,7)] rfl (show i+1<=x.k by omega) (by show x.k-(i+1)<x.k-i;omega)
 . have e:(toT x.k x.t).take i=toT x.k x.t:=W0b (by rw[Xaa];omega)
   refine R1 rfl (.sd (.pd (.gr ?_) (.rf rfl)))
   rw[e]
theorem Xqb: ∀ {k:Nat},rat k 1≠zero k
 | 0,h=>by have h:(1:Rat)=0:=h;exact absurd h (by decide)
 | k+1,h=>Xqb (k:=k) (congrArg Prod.fst h)
theorem inv_zero{k:Nat}{t:Tw k}{a:Tow.El k}(h:a=zero k): Tow.inv k t a=none:=by
 cases e:Tow.inv k t a with
 | none=>rfl
 | some i =>
  have:=Xb9 e
  rw[h,(Xaz k t).mz] at this
  exact absurd this.symm Xqb
section
variable{c:Fg}{K:Nat}{G:Tw K}{S:List (Tow.El K)}{r p:Nat}{x y:Nm}{vx vy:Tow.El K}
theorem Xwx(W:Wy c G S)(hx:NOk G S r p x vx)(hy:NOk G S r p y vy): C0 145 [.d (dNs [x,y])] λv=>∃m T,v=.tup (.pr (.d (dt T)) (.d (.int .i64 0)))/\R9.CmP G S x y m T:=by
 have hG:=W.g
 have hR:=W.k.r
 have hH:=W.k.h
 obtain⟨ρx,hx1,hx2⟩:=hx.ex
 obtain⟨ρy,hy1,hy2⟩:=hy.ex
 have hx3:=W.le hx1
 have hy3:=W.le hy1
 have hxr:=W.t hx1
 have hyr:=W.t hy1
 refine En Tryz.func145 λ_ _ _=>?_
 refine Nd 4 1 rfl ?_
 refine Lo (λ(s:Nat×(Σ m,Tw m))=>[(2,.nil),(3,.d (.int .i64 0)),(4,.d (dt s.2.2)),(9,.d (dNs [x,y])),(10,.d (.int .i64 2)),(11,.d (.int .i64 s.1))]) (λ_=>[]) (λs=>(s.1=0/\s.2=⟨0,()⟩)\/(s.1=1/\s.2=⟨x.k,x.t⟩)\/(s.1=2/\R9.CmP G S x y s.2.1 s.2.2)) (λs=>2-s.1) (0,⟨0,()⟩) [] rfl (.inl ⟨rfl,rfl⟩) (λ(i,⟨m,T⟩) hI=>?_)
 simp only at hI
 rcases hI with ⟨rfl,e⟩ | ⟨rfl,e⟩ | ⟨rfl,hP⟩
 . cases e
   refine Yes rfl (show ((0:Nat):Int)<2 by decide) ?_
   refine Ix 0 rfl (u:=dN x) rfl ?_
   refine Ce rfl (begins_ok (T:=[]) (U:=toT x.k x.t) (p:=1) (λi r h=>by simp at h) (TS.pt hxr) (by omega) (by decide)) ?_
   refine By rfl (λh=>?_) λh=>?_
   . obtain⟨kx,tx,ax⟩:=x
     have h:[]=toT kx tx:=by simpa using h
     obtain rfl:kx=0:=by have:=congrArg List.length h;rw[Xaa] at this;exact this.symm
     refine Ar (0+1:Nat) rfl ?_
     exact Bk (1,⟨0,tx⟩) [] rfl (.inr (.inl ⟨rfl,rfl⟩)) (show 1<2 by decide)
   . refine Ce rfl (begins_ok (U:=[]) (q:=1) (TS.pt hxr) (λi r h=>by simp at h) (by omega) (by rw[Xaa];omega)) ?_
     refine Yes rfl (by simp) ?_
     refine Ar (0+1:Nat) rfl ?_
     exact Bk (1,⟨x.k,x.t⟩) [] rfl (.inr (.inl ⟨rfl,rfl⟩)) (show 1<2 by decide)
 . cases e
   have last:∀h:(toT x.k x.t).take (toT y.k y.t).length=toT y.k y.t,R9.CmP G S x y x.k x.t:=λh=>.mk hG hx1 hy1 hx1 R9.rts (R9.beg_rt hG (show Beg y.k y.t x.k x.t from h) hy1 hx1)
   refine Yes rfl (show ((1:Nat):Int)<2 by decide) ?_
   refine Ix 1 rfl (u:=dN y) rfl ?_
   refine Ce rfl (begins_ok (T:=toT x.k x.t) (U:=toT y.k y.t) (TS.pt hxr) (TS.pt hyr) (by omega) (by rw[Xaa];omega)) ?_
   refine By rfl (λh=>?_) λh=>?_
   . refine Ar (1+1:Nat) rfl ?_
     exact Bk (2,⟨x.k,x.t⟩) [] rfl (.inr (.inr ⟨rfl,last h⟩)) (show 0<1 by decide)
   refine Ce rfl (begins_ok (T:=toT y.k y.t) (U:=toT x.k x.t) (TS.pt hyr) (TS.pt hxr) (by omega) (by rw[Xaa];omega)) ?_
   refine By rfl (λh1=>?_) λh1=>?_
   . have hb:Beg x.k x.t y.k y.t:=h1
     refine Ar (1+1:Nat) rfl ?_
     exact Bk (2,⟨y.k,y.t⟩) [] rfl (.inr (.inr ⟨rfl,.mk hG hx1 hy1 hy1 (R9.beg_rt hG hb hx1 hy1) R9.rts⟩)) (show 0<1 by decide)
   . refine Ca rfl (Xc1 W hx1 hy1) λv hv=>?_
     obtain⟨m,T,rs,ρ',rfl,g1,g2,g3,g5,g6⟩:=hv
     refine No rfl (by simp) ?_
     refine Ar (1+1:Nat) rfl ?_
     exact Bk (2,⟨m,T⟩) [] rfl (.inr (.inr ⟨rfl,.ext hG hx1 hy1 g1 g2 g5⟩)) (show 0<1 by decide)
 . refine No rfl (show ¬((2:Nat):Int)<2 by decide) ?_
   exact Rt rfl (.tup (.cons (.rf rfl) Xa7)) ⟨m,T,rfl,hP⟩
theorem Join_ok(W:Wy c G S)(hx:NOk G S r p x vx)(hy:NOk G S r p y vy)(hp:oW c p<=4398046511104): C0 88 [.d (dNs [x,y])] λv=>∃m T a b,v=.tup (.pr (.d (dNs [⟨m,T,a⟩,⟨m,T,b⟩])) (.d (.int .i64 0)))/\R9.JnR c G S p vx vy m T a b:=by
 have hc:=Xwx W hx hy
 have hG:=W.g
 have hR:=W.k.r
 have hH:=W.k.h
 have hO:oW c p=2*jW c p+cB c.R c.H+1:=rfl
 have hpj:p<=jW c p:=Xvd
 refine En Tryz.func88 λ_ _ _=>?_
 refine Ca rfl hc λv hv=>?_
 obtain⟨m,T,rfl,hP⟩:=hv
 obtain⟨ρ,hT,hcon⟩:=hP
 have hTr:=W.t hT
 have hm3:=W.le hT
 refine No rfl (by decide) ?_
 refine Nl 6 6 2 rfl ?_
 refine Lo (λ(s:Nat×List (Tow.El m))=>[(2,.nil),(3,.d (.int .i64 0)),(4,.d (dt T)),(6,.gr 6 2 (s.2.map λa=>dN ⟨m,T,a⟩)),(20,.d (dNs [x,y])),(21,.d (.int .i64 2)),(22,.d (.int .i64 s.1))]) (λs=>[(6,.tok (s.2.map λa=>dN ⟨m,T,a⟩).length 2)])
  (R9.JnI c G p m ρ vx vy) (λs=>2-s.1) (0,[]) [] rfl ⟨W0z _,rfl,λi hi=>absurd hi (W3h _)⟩ (λ(j,bs) hI=>?_)
 have hI':=hI
 obtain⟨hj,hjl,has⟩:=hI
 simp only at hj hjl has
 refine By rfl (λh=>?_) λh=>?_
 . have h:(j:Int)<2:=h
   obtain⟨z,v,ρz,z1,z2,z3,z4,z6⟩:=R9.both hx hy j (by omega)
   have z5:=W.t z3
   have hzu:([x,y].map dN)[j]?=some (dN z):=by rw[W1p,z1];rfl
   have hzm:=hcon z (W0f z1) ρz z3
   have hz3:=W.le z3
   refine Ix j rfl hzu ?_
   refine Ce rfl (begins_ok (T:=toT m T) (U:=toT z.k z.t) (TS.pt hTr) (TS.pt z5) (by omega) (by rw[Xaa];omega)) ?_
   refine By rfl (λh1=>?_) λh1=>?_
   . have hb:Beg z.k z.t m T:=h1
     obtain⟨b,hlb⟩:=Lf.ex hb.le z.a
     have hv1:ev G ρ m b=v:=by rw[hlb.ev hb.le,Xa8 (R9.beg_ag hG hb z3 hT),z4]
     refine Ce rfl (Xqa (T:=T) hlb hb.le (by omega)) ?_
     refine Ce rfl (Xeo (x:=⟨_,T,b⟩) hTr ((hlb.sz z6).mono hpj) (show _<=16 by show m<=16;omega) (by omega) (by omega)) ?_
     refine ApG ((bs++[b]).map λa=>dN ⟨m,T,a⟩) rfl (by simp) (by simp;omega) ?_
     refine Ar (j+1:Nat) rfl ?_
     exact Bk (j+1,bs++[b]) [(6,90),(56,6)] rfl (hI'.step (by omega) z2 hv1 ((hlb.sz z6).mono hpj)) (by show 2-(j+1)<2-j;omega)
   . refine Ca rfl (Xc1 W hT z3) λv' hv=>?_
     obtain⟨m',T',rs,ρ',rfl,g1,g2,g3,g5,g6⟩:=hv
     obtain rfl:m'=m:=by have:=congrArg List.length (g6 hzm);rwa[Xaa,Xaa] at this
     obtain rfl:T=T':=(Xht (g6 hzm)).symm
     have g5:RtV G m' c.Z z.k rs ρ ρz:=g5.mono (W0a _) (W0a _) (λi hi=>(g3 i hi).symm)
     obtain⟨σ,s1,s2⟩:=g5.sig
     have hbd:=Xvc (p:=p) hm3 hz3
     refine No rfl (by simp) ?_
     refine Ce rfl (Xd2 hTr (by omega) (by omega) s1 z6 (by omega) (by omega)) ?_
     refine Ce rfl (Xeo (x:=⟨_,T,ev T σ z.k z.a⟩) hTr (R9.img W hT z3 s1 z6) (show _<=16 by show m'<=16;omega) (by omega) (by omega)) ?_
     refine ApG ((bs++[ev T σ z.k z.a]).map λa=>dN ⟨m',T,a⟩) rfl (by simp) (by simp;omega) ?_
     refine Ar (j+1:Nat) rfl ?_
     exact Bk (j+1,bs++[ev T σ z.k z.a]) [(6,90),(56,6)] rfl (hI'.step (by omega) z2 (by rw[Xit hT.h s2,z4]) (R9.img W hT z3 s1 z6)) (by show 2-(j+1)<2-j;omega)
 . have h:¬(j:Int)<2:=h
   obtain rfl:j=2:=by omega
   obtain⟨a,b,rfl,hJ⟩:=hI'.done hT
   exact Rt rfl (.tup (.cons (.gr rfl) Xa7)) ⟨m,T,a,b,rfl,hJ⟩
def OpF(c:Fg)(f:FuncId)(p:Nat)(g:(m:Nat)->Tw m->Tow.El m->Tow.El m->Tow.El m): Prop:=∀(m:Nat) (T:Tw m) (a b:Tow.El m),m<=c.H->TS c.R m T->Sz (jW c p) (toL m a)->Sz (jW c p) (toL m b)->C0 f [.d (dt T),.d (de a),.d (de b)] (·=.d (de (g m T a b)))
theorem Xgu{f:FuncId}{g:(m:Nat)->Tw m->Tow.El m->Tow.El m->Tow.El m}(hf:OpF c f p g)(W:Wy c G S)(hx:NOk G S r p x vx)(hy:NOk G S r p y vy)(hp:oW c p<=4398046511104): C0 73 [.d (dN x),.d (dN y),.d (fnD f)] λv=>∃m T a b,v=.tup (.pr (.d (dN ⟨m,T,g m T a b⟩)) (.d (.int .i64 0)))/\R9.JnR c G S p vx vy m T a b:=by
 refine En Tryz.func73 λ_ _ _=>?_
 refine Ca rfl (Join_ok W hx hy hp) λv hv=>?_
 obtain⟨m,T,a,b,rfl,h⟩:=hv
 obtain⟨ρ,h1,h3,h4,h5,h6⟩:=id h
 have h2:=W.t h1
 have hm:=W.le h1
 refine No rfl (by simp) ?_
 refine Ix 0 rfl (u:=dN ⟨m,T,a⟩) rfl ?_
 refine Dw rfl ?_
 refine Ix 0 rfl (u:=dN ⟨m,T,a⟩) rfl ?_
 refine Ix 1 rfl (u:=dN ⟨m,T,b⟩) rfl ?_
 refine Ce rfl (hf m T a b hm h2 h5 h6) ?_
 exact Rt rfl (.tup (.cons (.rf rfl) Xa7)) ⟨m,T,a,b,rfl,h⟩
theorem Add_ok(W:Wy c G S)(hx:NOk G S r p x vx)(hy:NOk G S r p y vy)(hp:oW c p<=4398046511104): C0 29 [.d (dN x),.d (dN y)] (R9.OpR c G S (oW c p) (Tow.add K vx vy)):=by
 have hO:oW c p=2*jW c p+cB c.R c.H+1:=rfl
 have hH:=W.k.h
 have hR:=W.k.r
 refine En Tryz.func29 λ_ _ _=>?_
 refine Ca rfl (Xgu (g:=λm T a b=>Tow.add m a b) (λm T a b hm h2 h5 h6=>Xhx h2 h5 h6 (by omega) (by omega) (by omega)) W hx hy hp) λv hv=>?_
 obtain⟨m,T,a,b,rfl,ρ,h1,h3,h4,h5,h6⟩:=hv
 have h2:=W.t h1
 exact Rt rfl (.tup (.cons (.rf rfl) Xa7)) ⟨⟨m,T,Tow.add m a b⟩,rfl,⟨ρ,h1,by rw[<-h3,<-h4];exact Xct⟩,h2,by rw[Xav];exact(h5.add h6).mono (by omega)⟩
theorem Mul_ok(W:Wy c G S)(hx:NOk G S r p x vx)(hy:NOk G S r p y vy)(hp:oW c p<=4398046511104): C0 100 [.d (dN x),.d (dN y)] (R9.OpR c G S (oW c p) (Tow.mul K G vx vy)):=by
 have hO:oW c p=2*jW c p+cB c.R c.H+1:=rfl
 have hH:=W.k.h
 have hR:=W.k.r
 refine En Tryz.func100 λ_ _ _=>?_
 refine Ca rfl (Xgu (g:=λm T a b=>Tow.mul m T a b) (λm T a b hm h2 h5 h6=>Xdv h2 h5 h6 (by omega) (by have:=Xe4 (r:=c.R) hm;omega) (by omega)) W hx hy hp) λv hv=>?_
 obtain⟨m,T,a,b,rfl,ρ,h1,h3,h4,h5,h6⟩:=hv
 have h2:=W.t h1
 have hm:=W.le h1
 have hc:=Xe4 (r:=c.R) hm
 exact Rt rfl (.tup (.cons (.rf rfl) Xa7)) ⟨⟨m,T,Tow.mul m T a b⟩,rfl,⟨ρ,h1,by rw[<-h3,<-h4];exact Xa4 h1.h⟩,h2,(h5.mul h2 h6).mono (by omega)⟩
theorem Sub_ok(W:Wy c G S)(hx:NOk G S r p x vx)(hy:NOk G S r p y vy)(hp:oW c p<=4398046511104): C0 141 [.d (dN x),.d (dN y)] (R9.OpR c G S (oW c p) (Tow.add K vx (Tow.neg K vy))):=by
 have hO:oW c p=2*jW c p+cB c.R c.H+1:=rfl
 have hH:=W.k.h
 have hR:=W.k.r
 refine En Tryz.func141 λ_ _ _=>?_
 refine Ca rfl (Xgu (g:=λm T a b=>Tow.add m a (Tow.neg m b)) (λm T a b hm h2 h5 h6=>Xki h2 h5 h6 (by omega) (by omega) (by omega)) W hx hy hp) λv hv=>?_
 obtain⟨m,T,a,b,rfl,ρ,h1,h3,h4,h5,h6⟩:=hv
 have h2:=W.t h1
 exact Rt rfl (.tup (.cons (.rf rfl) Xa7)) ⟨⟨m,T,Tow.add m a (Tow.neg m b)⟩,rfl,⟨ρ,h1,by rw[<-h3,<-h4,<-Xd5];exact Xct⟩,h2,by rw[Xav];exact(h5.add (Xg3 h6)).mono (by omega)⟩
theorem Neg_ok(hx:NOk G S r p x vx)(hk:x.k<=16)(hr:r<=4398046511104)(hp:p<=4398046511104): C0 162 [.d (dN x)] (·=.d (dN ⟨x.k,x.t,Tow.neg x.k x.a⟩)):=by
 refine En Tryz.func162 λ_ _ _=>?_
 refine Ce rfl (Xeo hx.r hx.p hk hr hp) ?_
 refine Ce rfl (Xtc hx.r hx.p hk hp hr) ?_
 exact R0
theorem Sign_ok(hG:red K G)(hx:NOk G S r p x vx)(hk:x.k<=16)(hv:vB r x.k p<=4398046511104)(hr:vB r x.k r<=4398046511104): C0 82 [.d (dN x)] (·=.d (.int .i64 (sgn K G vx))):=by
 obtain⟨ρ,h1,h2⟩:=hx.ex
 have:=Xds (r:=r) x.k r
 refine En Tryz.func82 λ_ _ _=>?_
 refine Ce rfl (Xlo hx.r hx.p (Xad h1.r) hk hv hr (by omega)) ?_
 rw[hx.sgn (Xad hG)]
 exact R0
theorem FromRat_ok{q:Rat}{p:Nat}(hq:Qs p q)(hp:p<=4398046511104): C0 63 [.d (dq q)] (·=.d (dN ⟨0,(),q⟩)):=by
 refine En Tryz.func63 λ_ _ _=>?_
 refine Ce rfl (Xj2 hq hp) ?_
 exact R1 rfl (.sd (.pd (.nil rfl) (.lit rfl)))
theorem FromInt_ok{z:Int}(h:-9223372036854775808<=z/\z<9223372036854775808): C0 54 [.d (.int .i64 z)] (·=.d (dN ⟨0,(),(z:Rat)⟩)):=by
 refine En Tryz.func54 λ_ _ _=>?_
 refine Ce rfl (Xat h) ?_
 refine Ce rfl (FromRat_ok (q:=(z:Rat)) (p:=64) (Qs.int (by unfold Zs;omega) (by omega)) (by decide)) ?_
 exact R0
theorem Cmp_ok(W:Wy c G S)(hx:NOk G S r p x vx)(hy:NOk G S r p y vy)(hp:oW c p<=4398046511104)(hv:vB c.R c.H (oW c p)<=4398046511104): C0 85 [.d (dN x),.d (dN y)] (·=.tup (.pr (.d (.int .i64 (sgn K G (Tow.add K vx (Tow.neg K vy))))) (.d (.int .i64 0)))):=by
 refine En Tryz.func85 λ_ _ _=>?_
 refine Ca rfl (Sub_ok W hx hy hp) λv hv=>?_
 obtain⟨z,rfl,hz⟩:=hv
 have h3:=hz.le (Xad W.g) W.s
 have hH:=W.k.h
 refine No rfl (by simp) ?_
 refine Ce rfl (Sign_ok W.g hz (by omega) (W0k (Xgj h3) hv) (W0k (Xgj h3) W.k.q4)) ?_
 exact RTt rfl (.cons (.rf rfl) Xa7)
theorem Div_ok(W:Wy c G S){q:Nat}(hx:NOk G S r q x vx)(hy:NOk G S r p y vy)(hq:iS r c.H p<=q)(hi:iB r c.H p<=4398046511104)(hp:oW c q<=4398046511104)(hr:r<=4398046511104):
 C0 308 [.d (dN x),.d (dN y)] λv=>(vy=zero K/\v=.tup (.pr (.d R9.n0) (.d (.int .i64 6))))\/∃w,Tow.mul K G w vy=rat K 1/\R9.OpR c G S (oW c q) (Tow.mul K G vx w) v:=by
 have hy3:=hy.le (Xad W.g) W.s
 have hH:=W.k.h
 obtain⟨ρ,h1,h2⟩:=hy.ex
 have hle:=Yik (r:=r) (p:=p) hy3
 have hls:=Yed (r:=r) (p:=p) hy3
 refine En Tryz.func308 λ_ _ _=>?_
 by_cases h0:y.a=zero y.k
 . refine Ce rfl (Xx3 hy.r hy.p (by omega) (by omega) (by omega) (inv_zero h0)) ?_
   refine Yes rfl (by decide) ?_
   exact Rt rfl (.tup (.cons R9.fit0 Xa7)) (.inl ⟨by rw[<-h2,h0,Xd3],rfl⟩)
 . obtain⟨i,hi1⟩:=(Xcn h1.r).2 y.a h0
   refine Ce rfl (Xnp hy.r hy.p (by omega) (by omega) (by omega) hi1) ?_
   refine No rfl (by decide) ?_
   have hz:NOk G S r q ⟨y.k,y.t,i⟩ (ev G ρ y.k i):=⟨⟨ρ,h1,rfl⟩,hy.r,(Sz.invS hy.r hy.p hi1).mono (by omega)⟩
   refine Ca rfl (Mul_ok (y:=⟨y.k,y.t,i⟩) W hx hz hp) λv hv=>?_
   obtain⟨z,rfl,h⟩:=hv
   exact Rt rfl (.tup (.cons (.rf rfl) Xa7)) (.inr ⟨ev G ρ y.k i,by rw[<-h2,<-Xa4 h1.h,Xb9 hi1,Xc2],z,rfl,h⟩)
end
end
end Go.Proofs.YtfjafaehfjjaiaaGreatDoor.P9
namespace Go.Tow
open Go Go.Num Go.Proofs.YtfjafaehfjjaiaaGreatDoor
variable{K:Nat}{G:Tw K}{S:List (El K)}{ρ:Nat->El K}
def Yk3(G:Tw K)(S:List (El K)): Prop:=∀s∈S,∃d:Rat,Qs 64 d/\mul K G s s=rat K d
def FlT: (k:Nat)->Tw k->Prop
 | 0,_=>True
 | k+1,t=>FlT k t.1/\∃d:Rat,Qs 64 d/\t.2=rat k d
theorem Yk3.tow(hG:red K G)(hF:Yk3 G S): ∀ {m:Nat} {T:Tw m},TOk G S m T ρ->FlT m T
 | 0,_,_=>trivial
 | m+1,T,h=>⟨hF.tow hG h.low,by
  obtain⟨d,hd,e⟩:=hF _ (h.s m (by omega))
  exact⟨d,hd,Xcs (Xad hG) h.h.1 h.r.1 (by rw[<-h.h.2.1,e,Xc2])⟩⟩
theorem FlT.ts: ∀ {m:Nat} {T:Tw m},FlT m T->TS 65 m T
 | 0,_,_=>trivial
 | m+1,T,⟨h,d,hd,e⟩=>⟨h.ts,by rw[e];exact Sz.rat m hd⟩
theorem Yde{x d:Rat}{p:Nat}(h:Qs p d)(e:x*x=d): Qs p x:=by
 obtain⟨e1,e2⟩:=Xl9 x
 have le:∀n:Nat,n<=n*n:=λn=>by
  rcases n with _ | n
  . exact W0a _
  . exact W4c _ (Nat.succ_pos n)
 subst e
 have hn:=h.n
 have hd:=h.d
 rw[e1] at hn
 rw[e2] at hd
 unfold Zs at hn hd
 rw[W3p] at hn
 exact⟨W1t (le _) hn,W1t (le x.den) hd⟩
theorem Xvy{k:Nat}{t:Tw k}{x:El k}(h:add k x x=zero k): x=zero k:=by
 have L:=Xaz k t
 have e:add k (rat k (1/2)) (rat k (1/2))=rat k 1:=by rw[<-Xfe];congr 1;decide +kernel
 have e2:mul k t (add k x x) (rat k (1/2))=mul k t x (add k (rat k (1/2)) (rat k (1/2))):=(Laws.req L [x,rat k (1/2)] (.mul (.add (.v 0) (.v 0)) (.v 1)) (.mul (.v 0) (.add (.v 1) (.v 1))) (by decide +kernel))
 rw[h,L.zm,e,L.mo] at e2
 exact e2.symm
theorem mul_zero{k:Nat}{t:Tw k}(hr:red k t){u v:El k}(h:mul k t u v=zero k): u=zero k\/v=zero k:=by
 by_cases h0:u=zero k
 . exact .inl h0
 . obtain⟨i,hi⟩:=(Xcn hr).2 u h0
   have L:=Xaz k t
   exact .inr (by rw[<-L.om v,<-Xb9 hi,L.ma,h,L.mz])
theorem kum: ∀ {k:Nat} {T:Tw k},red k T->FlT k T->∀ {e:El k} {d:Rat} {p:Nat},Qs p d->mul k T e e=rat k d->Sz (p+65*k+k+1) (toL k e)
 | 0,T,_,_,e,d,p,hd,h=>Sz.rat 0 (x:=(e:Rat)) (Yde (x:=(e:Rat)) hd h)
 | k+1,T,hr,⟨hF,ρ,hρ,eρ⟩,(u,v),d,p,hd,h=>by
  have L:=Xaz k T.1
  have h1:add k (mul k T.1 u u) (mul k T.1 (mul k T.1 v v) T.2)=rat k d:=congrArg Prod.fst h
  have h2:add k (mul k T.1 u v) (mul k T.1 v u)=zero k:=congrArg Prod.snd h
  rw[L.mc v u] at h2
  rcases mul_zero hr.1 (Xvy (t:=T.1) h2) with hu | hv
  . have hne:ρ≠0:=λe=>by
     have:=hr.2.1
     rw[eρ,e,Xdx] at this
     rw[(Xbh hr.1).2 rfl] at this
     cases this
    have h3:mul k T.1 v v=rat k (d*(1/ρ)):=by
     have e:ρ*(1/ρ)=1:=by grind
     rw[hu,L.zm,L.za,eρ] at h1
     rw[Xco k T.1,<-h1,L.ma,<-Xco,e]
     exact(L.mo _).symm
    have h4:=kum hr.1 hF (hd.mul (Qs.inv1 hρ)) h3
    have h5:=(Sz.zero k).append h4
    rw[hu]
    exact h5.mono (by omega)
  . have h3:mul k T.1 u u=rat k d:=by rw[hv,L.zm,L.zm,L.az] at h1;exact h1
    have h4:=kum hr.1 hF hd h3
    have:=h4.append (Sz.zero k)
    rw[hv]
    exact this.mono (by omega)
def fF: Fg:=⟨6,65,λ_=>461,461⟩
theorem Ymk: fF.Ok:=⟨by decide,by decide,λi hi=>W0a _,by decide,by decide +kernel,by decide +kernel,by decide +kernel,by decide +kernel⟩
theorem Yk3.wd(hG:red K G)(hS:S.length<=6)(hF:Yk3 G S): Wy fF G S :=
 ⟨Ymk,hG,hS,λh=>(hF.tow hG h).ts,λ{m l T u ρ ρu} hT hu i hi _ e he=>by
  obtain⟨d,hd,hq⟩:=hF _ (hu.s i hi)
  have hm:m<=6:=W0k (hT.le (Xad hG)) hS
  have h1:mul m T e e=rat m d:=Xcs (Xad hG) hT.h hT.r (by rw[Xa4 hT.h,he,hq,Xc2])
  exact(kum hT.r (hF.tow hG hT) hd h1).mono (by show 64+65*m+m+1<=461;omega)⟩
theorem Xjv: ∀(D:List Rat),(∀d∈D,Qs 64 d/\0<d)->∃(K:Nat) (G:Tw K) (S:List (El K)),red K G/\S.length<=D.length/\Yk3 G S/\∀d∈D,∃s∈S,mul K G s s=rat K d/\sgn K G s=1
 | [],_=>⟨0,(),[],trivial,W0a _,nofun,nofun⟩
 | d::D,h=>by
  obtain⟨K,G,S,hG,hS,hF,hD⟩:=Xjv D λx hx=>h x (W0p _ hx)
  obtain⟨hd,hd0⟩:=h d (W0l ..)
  have hGr:=Xad hG
  have L:=Xaz K G
  have Sg:=Xau hGr
  have hv:sgn K G (rat K d)=1:=by rw[Xec hGr,Xb7 hd0]
  by_cases hs:Xcp K G (rat K d)
  . obtain⟨s,hs⟩:=hs
    obtain⟨s,hs,hp⟩:∃s,mul K G s s=rat K d/\sgn K G s=1:=by
     rcases Xca G s with h | h | h
     . exact⟨s,hs,h⟩
     . rw[<-hs,Sg.sm,h] at hv;cases hv
     . exact⟨neg K s,by rw[L.mn,L.nm,L.nn,hs],by rw[Sg.sn,h];rfl⟩
    refine⟨K,G,s::S,hG,Nat.succ_le_succ hS,λx hx=>?_,λx hx=>?_⟩
    . rcases W1j.1 hx with rfl | hx
      . exact⟨d,hd,hs⟩
      . exact hF x hx
    . rcases W1j.1 hx with rfl | hx
      . exact⟨s,W0l ..,hs,hp⟩
      . obtain⟨s',h1,h2⟩:=hD x hx
        exact⟨s',W0p _ h1,h2⟩
  . have hG':red (K+1) (tsn G (rat K d)):=⟨hG,hv,hs⟩
    have hup:∀ {s:El K} {x:Rat},mul K G s s=rat K x->mul (K+1) (tsn G (rat K d)) (up K s) (up K s)=rat (K+1) x:=λ{s x} h=>by
     rw[Xic]
     show up K (mul K G s s)=_
     rw[h];rfl
    refine⟨K+1,tsn G (rat K d),rt1 K::S.map (up K),hG',by simp;omega,λx hx=>?_,λx hx=>?_⟩
    . rcases W1j.1 hx with rfl | hx
      . exact⟨d,hd,Xji⟩
      . obtain⟨s,hs,rfl⟩:=W2y.1 hx
        obtain⟨y,hy,e⟩:=hF s hs
        exact⟨y,hy,hup e⟩
    . rcases W1j.1 hx with rfl | hx
      . exact⟨rt1 K,W0l ..,Xji,Xnv (t:=tsn G (rat K _)) hGr⟩
      . obtain⟨s,h1,h2,h3⟩:=hD x hx
        exact⟨up K s,W0p _ (W2y.2 ⟨s,h1,rfl⟩),hup h2,by rw[Xl3 _ (show Xb4 K (tsn G (rat K d)).1 from hGr)];exact h3⟩
end Go.Tow
namespace Go.Proofs.YtfjafaehfjjaiaaGreatDoor
open Go Go.Num Go.Tow
def One(z:Nm): Prop:=z.k<=1/\R9.shN z/\red z.k z.t
theorem One.ok{K:Nat}{G:Tw K}{S:List (El K)}{z:Nm}(h:One z)(hG:red K G)(hS:∀d:Rat,toT z.k z.t=[[d]]->∃s∈S,mul K G s s=rat K d/\sgn K G s=1): ∃v,NOk G S 65 129 z v:=by
 obtain⟨k,t,a⟩:=z
 obtain⟨hk,hs,hr⟩:=h
 have hk:k<=1:=hk
 rcases(show k=0\/k=1 by omega) with rfl | rfl
 . exact⟨_,⟨λ_=>zero _,⟨trivial,trivial,nofun⟩,rfl⟩,trivial,R9.sh_sz (n:=1) hs.1 (W0a _) (by decide)⟩
 . obtain⟨s,s1,s2,s3⟩:=hS t.2 rfl
   refine⟨_,⟨λ_=>s,⟨hr,⟨trivial,s2,s3⟩,λ_ _=>s1⟩,rfl⟩,⟨trivial,R9.sh_sz (n:=1) (hs.2 _ (W0l ..)) (W0a _) (by decide)⟩,R9.sh_sz (n:=2) hs.1 (W0a _) (by decide)⟩
open Classical in
theorem Ynm{l:List Nm}(hw:Wld 3 l λ_ _=>True): ∃D:List Rat,D.length<=3/\(∀d∈D,Qs 64 d/\0<d)/\(∀z∈l,red z.k z.t)/\∀z∈l,One z->∀d:Rat,toT z.k z.t=[[d]]->d∈D:=by
 obtain⟨K,G,S,hG,hS,hq,hall,_⟩:=hw
 have hGr:=Xad hG
 let P:El K->Rat->Prop:=λs d=>mul K G s s=rat K d/\Qs 64 d/\0<d
 let f:El K->Option Rat:=λs=>if h:∃d,P s d then some h.choose else none
 have hf:∀ {s d},f s=some d->P s d:=λ{s d} h=>by
  by_cases e:∃d,P s d
  . have h':f s=some e.choose:=dif_pos e
    rw[h] at h'
    injection h' with h'
    rw[h'];exact e.choose_spec
  . have h':f s=none:=dif_neg e
    rw[h] at h'
    cases h'
 refine⟨S.filterMap f,W0k (List.length_filterMap_le _ _) hS,λd hd=>?_,λz hz=>?_,λz hz ho d hd=>?_⟩
 . obtain⟨s,_,h⟩:=List.mem_filterMap.1 hd
   exact(hf h).2
 . obtain⟨v,hv⟩:=hall z hz
   obtain⟨ρ,h1,_⟩:=hv.ex
   exact h1.r
 . obtain⟨v,hv⟩:=hall z hz
   obtain⟨ρ,h1,_⟩:=hv.ex
   obtain⟨k,t,a⟩:=z
   obtain⟨hk,hs,hr⟩:=ho
   have hk:k<=1:=hk
   rcases(show k=0\/k=1 by omega) with rfl | rfl
   . cases hd
   . have e:[[(t.2:Rat)]]=[[d]]:=hd
     injection e with e
     injection e with e
     subst e
     have hp:P (ρ 0) t.2:=⟨h1.h.2.1,(hs.2 [t.2] (W0l ..) t.2 (W0l ..)).qs,by
      have h3:Xi5 (t.2:Rat)=1:=hr.2.1
      rcases Xbb (t.2:Rat) with ⟨h,e⟩ | ⟨h,e⟩ | ⟨h,e⟩
      . exact h
      . rw[e] at h3;cases h3
      . rw[e] at h3;cases h3⟩
     refine List.mem_filterMap.2 ⟨ρ 0,h1.s 0 W7k,?_⟩
     have he:∃d,P (ρ 0) d:=⟨_,hp⟩
     show (if h:∃d,P (ρ 0) d then some h.choose else none)=_
     rw[dif_pos he]
     exact congrArg some (Xt8 (he.choose_spec.1.symm.trans hp.1))
theorem Ymg{l m:List Nm}(hl:Wld 3 l λ_ _=>True)(hm:Wld 3 m λ_ _=>True): ∃(K:Nat) (G:Tw K) (S:List (El K)),red K G/\S.length<=6/\Yk3 G S/\(∀z∈l++m,red z.k z.t)/\∀z∈l++m,One z->∃v,NOk G S 65 129 z v:=by
 obtain⟨D,d1,d2,d3,d4⟩:=Ynm hl
 obtain⟨E,e1,e2,e3,e4⟩:=Ynm hm
 obtain⟨K,G,S,hG,hS,hF,hD⟩:=Xjv (D++E) λd hd=>(W1s.1 hd).elim (d2 d) (e2 d)
 refine⟨K,G,S,hG,W0k hS (by rw[W0d];omega),hF,λz hz=>(W1s.1 hz).elim (d3 z) (e3 z),λz hz ho=>ho.ok hG λd hd=>hD d ?_⟩
 rcases W1s.1 hz with hz | hz
 . exact W2k _ (d4 z hz ho d hd)
 . exact W1o _ (e4 z hz ho d hd)
end Go.Proofs.YtfjafaehfjjaiaaGreatDoor
namespace Go.Tow
open Go Go.Num Go.Proofs.YtfjafaehfjjaiaaGreatDoor
variable{K:Nat}{G:Tw K}{S:List (El K)}{N:List Nm}{n m:Nat}{x y z:Nm}{v w:El K}{r p:Nat}
structure Wn (G:Tw K) (S:List (El K)) (N:List Nm):Prop where
 w:Wy fF G S
 h:∀z∈N,∃ρz,TOk G S z.k z.t ρz
def gB(n:Nat): Nat:=n*20000-4160
theorem fC: cB fF.R fF.H=4158:=by decide +kernel
theorem fV: vB fF.R fF.H 15995840<=4398046511104:=by decide +kernel
theorem fO: oW fF 7995840<=4398046511104:=by decide +kernel
theorem fV1: vB fF.R fF.H (oW fF 7995840)<=4398046511104:=by decide +kernel
theorem fB: iB fF.R fF.H 235840<=4398046511104:=by decide +kernel
theorem fQ: oW fF 31000000<=4398046511104:=by decide +kernel
structure Gd (G:Tw K) (S:List (El K)) (N:List Nm) (n:Nat) (x:Nm) (v:El K):Prop where
 o:NOk G S fF.R (gB n) x v
 g:Gs G S N (gB n) v
 n:1<=n
theorem Yeh(h:n<=m): gB n<=gB m:=by unfold gB;omega
theorem Gd.mono(h:Gd G S N n x v)(hm:n<=m): Gd G S N m x v:=⟨h.o.mono (W0a _) (Yeh hm),h.g.mono (Yeh hm),W0k h.n hm⟩
theorem Gd.neg(h:Gd G S N n x v): Gd G S N n ⟨x.k,x.t,Tow.neg x.k x.a⟩ (Tow.neg K v):=⟨h.o.neg,h.g.neg,h.n⟩
theorem Gd.short(W:Wn G S N)(hk:z.k<=1)(hz:NOk G S 65 129 z v)(hN:z∈N): Gd G S N 1 z v:=by
 have h:=(Gs.short W.w hz hN hk).mono (show _<=gB 1 by decide +kernel)
 exact⟨hz.re W.w W.h h,h,W0a _⟩
theorem Gd.add(W:Wn G S N)(hx:Gd G S N n x v)(hy:Gd G S N m y w)(hz:NOk G S r p z (Tow.add K v w)): Gd G S N (n+m) z (Tow.add K v w):=by
 have h:=(hx.g.add hy.g).mono (show _<=gB (n+m) by have:=hx.n;have:=hy.n;unfold gB;omega)
 exact⟨hz.re W.w W.h h,h,W0k hx.n (W5l ..)⟩
theorem Gd.mul(W:Wn G S N)(hx:Gd G S N n x v)(hy:Gd G S N m y w)(hz:NOk G S r p z (Tow.mul K G v w)): Gd G S N (n+m) z (Tow.mul K G v w):=by
 have h:=(hx.g.mul W.w hy.g).mono (show _<=gB (n+m) by rw[fC];have:=hx.n;have:=hy.n;unfold gB;omega)
 exact⟨hz.re W.w W.h h,h,W0k hx.n (W5l ..)⟩
theorem fS{p:Nat}: iS fF.R fF.H p=127*p+347887:=by
 show iS 65 6 p=_
 simp only[iS,nS,show cB 65 0=0 by decide,show cB 65 1=66 by decide,show cB 65 2=198 by decide,show cB 65 3=462 by decide,show cB 65 4=990 by decide,show cB 65 5=2046 by decide]
 omega
theorem Gd.inv(W:Wn G S N)(hy:Gd G S N m y w)(hv:Tow.mul K G v w=Tow.rat K 1): Gs G S N (gB (127*m+1)) v:=(hy.g.inv W.w hv).mono (by rw[fS];have:=hy.n;unfold gB;omega)
theorem Gd.div(W:Wn G S N){u:El K}(hx:Gd G S N n x v)(hy:Gd G S N m y w)(hv:Tow.mul K G u w=Tow.rat K 1)(hz:NOk G S r p z (Tow.mul K G v u)): Gd G S N (n+(127*m+1)) z (Tow.mul K G v u):=by
 have h:=(hx.g.mul W.w (hy.inv W hv)).mono (show _<=gB (n+(127*m+1)) by rw[fC];have:=hx.n;unfold gB;omega)
 exact⟨hz.re W.w W.h h,h,W0k hx.n (W5l ..)⟩
theorem Gd.rat(W:Wn G S N){q:Rat}(h:Qs 64 q): Gd G S N 1 ⟨0,(),q⟩ (Tow.rat K q):=by
 have h0:NOk G S 0 65 ⟨0,(),q⟩ (Tow.rat K q):=⟨⟨λ_=>zero _,⟨trivial,trivial,λi hi=>absurd hi (W3h _)⟩,rfl⟩,trivial,Sz.rat 0 h⟩
 have hg:Gs G S N (gB 1) (Tow.rat K q):=(Gs.rat h).mono (by decide)
 exact⟨h0.re W.w W.h hg,hg,W0a _⟩
theorem Gd.le(W:Wn G S N)(h:Gd G S N n x v): x.k<=6:=h.o.le (Xad W.w.g) W.w.s
theorem Gd.op(h:Gd G S N n x v)(hn:n<=400): NOk G S fF.R 7995840 x v:=h.o.mono (W0a _) (by unfold gB;omega)
theorem Gd.op1(h:Gd G S N n x v)(hn:n<=400): NOk G S fF.R 7995840 x v:=h.o.mono (W0a _) (by unfold gB;omega)
theorem Yf7(W:Wn G S N)(h:Gd G S N n x v)(hn:n<=800): vB fF.R x.k (gB n)<=4398046511104:=W0k (W0k (Xgj (h.le W)) (Xcv (show gB n<=15995840 by unfold gB;omega))) fV
theorem Yf6(W:Wn G S N)(h:Gd G S N n x v): vB fF.R x.k fF.R<=4398046511104:=W0k (Xgj (h.le W)) Ymk.q4
end Go.Tow
namespace Go.Proofs.YtfjafaehfjjaiaaGreatDoor
open Go Go.Vm Go.Num Go.Tow
section
variable{K:Nat}{G:Tw K}{S:List (Tow.El K)}{N:List Nm}{n m:Nat}{x y z:Nm}{v w:Tow.El K}
def OpG(G:Tw K)(S:List (Tow.El K))(N:List Nm)(n:Nat)(w:Tow.El K)(r:AV): Prop:=∃z:Nm,r=.tup (.pr (.d (dN z)) (.d (.int .i64 0)))/\Gd G S N n z w
def OnG(G:Tw K)(S:List (Tow.El K))(N:List Nm)(n:Nat)(w:Tow.El K)(r:AV): Prop:=∃z:Nm,r=.d (dN z)/\Gd G S N n z w
theorem P9.Add_g(W:Wn G S N)(hx:Gd G S N n x v)(hy:Gd G S N m y w)(hn:n<=400)(hm:m<=400): C0 29 [.d (dN x),.d (dN y)] (OpG G S N (n+m) (Tow.add K v w)):=(P9.Add_ok W.w (hx.op hn) (hy.op hm) fO).mono λ_ ⟨z,e,h⟩=>⟨z,e,hx.add W hy h⟩
theorem R9.Add_g(W:Wn G S N)(hx:Gd G S N n x v)(hy:Gd G S N m y w)(hn:n<=400)(hm:m<=400): C0 32 [.d (dN x),.d (dN y)] (OpG G S N (n+m) (Tow.add K v w)):=(R9.Add_ok W.w (hx.op hn) (hy.op hm) fO).mono λ_ ⟨z,e,h⟩=>⟨z,e,hx.add W hy h⟩
theorem P9.Mul_g(W:Wn G S N)(hx:Gd G S N n x v)(hy:Gd G S N m y w)(hn:n<=400)(hm:m<=400): C0 100 [.d (dN x),.d (dN y)] (OpG G S N (n+m) (Tow.mul K G v w)):=(P9.Mul_ok W.w (hx.op hn) (hy.op hm) fO).mono λ_ ⟨z,e,h⟩=>⟨z,e,hx.mul W hy h⟩
theorem R9.Mul_g(W:Wn G S N)(hx:Gd G S N n x v)(hy:Gd G S N m y w)(hn:n<=400)(hm:m<=400): C0 123 [.d (dN x),.d (dN y)] (OpG G S N (n+m) (Tow.mul K G v w)):=(R9.Mul_ok W.w (hx.op hn) (hy.op hm) fO).mono λ_ ⟨z,e,h⟩=>⟨z,e,hx.mul W hy h⟩
theorem R9.Sub_g(W:Wn G S N)(hx:Gd G S N n x v)(hy:Gd G S N m y w)(hn:n<=400)(hm:m<=400): C0 118 [.d (dN x),.d (dN y)] (OpG G S N (n+m) (Tow.add K v (Tow.neg K w))):=(R9.Sub_ok W.w (hx.op hn) (hy.op hm) fO).mono λ_ ⟨z,e,h⟩=>⟨z,e,hx.add W hy.neg h⟩
theorem P9.Neg_g(W:Wn G S N)(hx:Gd G S N n x v)(hn:n<=400): C0 162 [.d (dN x)] (OnG G S N n (Tow.neg K v)):=(P9.Neg_ok hx.o (by have:=hx.le W;omega) (by decide) (by unfold gB;omega)).mono λ_ e=>⟨_,e,hx.neg⟩
theorem R9.Neg_g(W:Wn G S N)(hx:Gd G S N n x v)(hn:n<=400): C0 14 [.d (dN x)] (OnG G S N n (Tow.neg K v)):=(R9.Neg_ok hx.o (by have:=hx.le W;omega) (by unfold gB;omega)).mono λ_ e=>⟨_,e,hx.neg⟩
theorem P9.Sign_g(W:Wn G S N)(hx:Gd G S N n x v)(hn:n<=800): C0 82 [.d (dN x)] (·=.d (.int .i64 (sgn K G v))):=P9.Sign_ok W.w.g hx.o (by have:=hx.le W;omega) (Yf7 W hx hn) (Yf6 W hx)
theorem R9.Sign_g(W:Wn G S N)(hx:Gd G S N n x v)(hn:n<=800): C0 27 [.d (dN x)] (·=.d (.int .i64 (sgn K G v))):=R9.Sign_ok W.w.g hx.o (by have:=hx.le W;omega) (Yf7 W hx hn)
theorem P9.Cmp_g(W:Wn G S N)(hx:Gd G S N n x v)(hy:Gd G S N m y w)(hn:n<=400)(hm:m<=400): C0 85 [.d (dN x),.d (dN y)] (·=.tup (.pr (.d (.int .i64 (sgn K G (Tow.add K v (Tow.neg K w))))) (.d (.int .i64 0)))):=P9.Cmp_ok W.w (hx.op1 hn) (hy.op1 hm) fO fV1
def DvG(G:Tw K)(S:List (Tow.El K))(N:List Nm)(n:Nat)(v w:Tow.El K)(r:AV): Prop:=(w=zero K/\r=.tup (.pr (.d R9.n0) (.d (.int .i64 6))))\/∃u,Tow.mul K G u w=rat K 1/\OpG G S N n (Tow.mul K G v u) r
theorem P9.Div_g(W:Wn G S N)(hx:Gd G S N n x v)(hy:Gd G S N m y w)(hn:n<=190)(hm:m<=12): C0 308 [.d (dN x),.d (dN y)] (DvG G S N (n+(127*m+1)) v w):=by
 have hi:iB fF.R fF.H (gB m)<=4398046511104:=W0k (Xin (W0a _) (show gB m<=235840 by unfold gB;omega)) fB
 have hq:iS fF.R fF.H (gB m)<=31000000:=by rw[fS];unfold gB;omega
 refine(P9.Div_ok W.w ((hx.op1 (W0k hn (by decide))).mono (W0a _) (by decide)) hy.o hq hi fQ (by decide)).mono λr hr=>?_
 rcases hr with h | ⟨u,h1,z,e,h2⟩
 . exact .inl h
 . exact .inr ⟨u,h1,z,e,hx.div W hy h1 h2⟩
end
end Go.Proofs.YtfjafaehfjjaiaaGreatDoor
namespace Go.Tow
open Go
abbrev V2(K:Nat):=El K×El K
section
variable{K:Nat}{G:Tw K}{p q:V2 K}
def Xhq(G:Tw K)(p q:V2 K): El K:=add K (mul K G p.1 q.1) (mul K G p.2 q.2)
def Xc5(G:Tw K)(p q:V2 K): El K:=Xhq G (neg K p.2,p.1) q
def Xe2(G:Tw K)(p q:V2 K): V2 K:=(add K (mul K G p.1 q.1) (neg K (mul K G p.2 q.2)),add K (mul K G p.1 q.2) (mul K G p.2 q.1))
def Xnm(p:V2 K): V2 K:=(p.1,neg K p.2)
def vz(K:Nat): V2 K:=(zero K,zero K)
def vup(G:Tw K)(p:V2 K): Prop:=0<sgn K G p.2\/(sgn K G p.2=0/\0<sgn K G p.1)
instance:Decidable (vup G p):=by unfold vup;infer_instance
def Xcu(G:Tw K)(p:V2 K): Prop:=sgn K G p.2=0/\0<sgn K G p.1
def Xst(G:Tw K)(p q:V2 K): Int:=if vup G p↔vup G q then-sgn K G (Xc5 G p q) else if vup G p then -1 else 1
theorem Yap: Xhq G (Xnm p) q=(Xe2 G p q).1:=by
 have L:=Xaz K G
 show add K (mul K G p.1 q.1) (mul K G (neg K p.2) q.2)=add K (mul K G p.1 q.1) (neg K (mul K G p.2 q.2))
 rw[L.nm]
theorem Yao: Xc5 G (Xnm p) q=(Xe2 G p q).2:=by
 have L:=Xaz K G
 show add K (mul K G (neg K (neg K p.2)) q.1) (mul K G p.1 q.2)=add K (mul K G p.1 q.2) (mul K G p.2 q.1)
 rw[L.nn,L.ac]
theorem Xgy(hG:red K G): p=vz K↔sgn K G p.1=0/\sgn K G p.2=0:=by
 rw[Xbh hG,Xbh hG]
 exact⟨λh=>by rw[h];exact⟨rfl,rfl⟩,λh=>W3j h.1 h.2⟩
theorem vsq(hG:red K G)(h:sgn K G (Xhq G p p)=0): p=vz K:=by
 have Sg:=Xau (Xad hG)
 have h1:=Xeb (Sg.tri p.1)
 have h2:=Xeb (Sg.tri p.2)
 rw[Xgy hG]
 have e1:=Sg.sm p.1 p.1
 have e2:=Sg.sm p.2 p.2
 have L:=Xaz K G
 by_cases a1:sgn K G p.1=0
 . refine⟨a1,W1b λa2=>?_⟩
   have:=Sg.sp (mul K G p.2 p.2) (mul K G p.1 p.1) (by rw[e2];exact h2.2.1 a2) (by rw[e1];exact h1.1)
   rw[L.ac] at this
   rw[show add K (mul K G p.1 p.1) (mul K G p.2 p.2)=Xhq G p p from rfl,h] at this
   cases this
 . have:=Sg.sp (mul K G p.1 p.1) (mul K G p.2 p.2) (by rw[e1];exact h1.2.1 a1) (by rw[e2];exact h2.1)
   rw[show add K (mul K G p.1 p.1) (mul K G p.2 p.2)=Xhq G p p from rfl,h] at this
   cases this
theorem Yco: Xhq G (Xe2 G p q) (Xe2 G p q)=mul K G (Xhq G p p) (Xhq G q q):=by
 obtain⟨a,b⟩:=p
 obtain⟨c,d⟩:=q
 have L:=Xaz K G
 exact(Laws.req L [a,b,c,d] (.add (.mul (.add (.mul (.v 0) (.v 2)) (.neg (.mul (.v 1) (.v 3)))) (.add (.mul (.v 0) (.v 2)) (.neg (.mul (.v 1) (.v 3))))) (.mul (.add (.mul (.v 0) (.v 3)) (.mul (.v 1) (.v 2))) (.add (.mul (.v 0) (.v 3)) (.mul (.v 1) (.v 2))))) (.mul (.add (.mul (.v 0) (.v 0)) (.mul (.v 1) (.v 1))) (.add (.mul (.v 2) (.v 2)) (.mul (.v 3) (.v 3)))) (by decide +kernel))
theorem Xsq(hG:red K G)(hp:p≠vz K)(hq:q≠vz K): Xe2 G p q≠vz K:=λh=>by
 have Sg:=Xau (Xad hG)
 have L:=Xaz K G
 have h0:sgn K G (Xhq G (Xe2 G p q) (Xe2 G p q))=0:=by
  rw[h]
  show sgn K G (add K (mul K G (zero K) (zero K)) (mul K G (zero K) (zero K)))=0
  rw[L.mz,L.az,Xbh hG]
 rw[Yco,Sg.sm] at h0
 rcases W7o.1 h0 with h | h
 . exact hp (vsq hG h)
 . exact hq (vsq hG h)
theorem Xss(hG:red K G): Xst G p p=0:=by
 obtain⟨a,b⟩:=p
 have L:=Xaz K G
 unfold Xst
 rw[if_pos W3x,show Xc5 G (a,b) (a,b)=zero K from(Laws.req L [a,b] (.add (.mul (.neg (.v 1)) (.v 0)) (.mul (.v 0) (.v 1))) .z (by decide +kernel)),(Xau (Xad hG)).s0 L]
 rfl
def Xgi(G:Tw K)(p q:V2 K)(f g:Int): Int:=if Xst G (Xe2 G p q) p<0 then f+g+1 else f+g
end
end Go.Tow
namespace Go.Proofs.YtfjafaehfjjaiaaGreatDoor
open Go Go.Vm Go.Num Go.Tow
section
structure Vn where
 x:Nm
 y:Nm
abbrev dV(v:Vn): D:=.st (.pr (dN v.x) (dN v.y))
abbrev dVs(l:List Vn): D:=.sl 4 (l.map dV)
abbrev n00: Nm:=⟨0,(),((0:Int):Rat)⟩
structure Gv {K:Nat} (G:Tw K) (S:List (Tow.El K)) (N:List Nm) (n:Nat) (v:Vn) (p:V2 K):Prop where
 x:Gd G S N n v.x p.1
 y:Gd G S N n v.y p.2
def IsB(r:AV): Prop:=∃c:Bool,r=.b c
section
variable{K:Nat}{G:Tw K}{S:List (Tow.El K)}{N:List Nm}{n m:Nat}{x y z:Nm}{a b v w:Tow.El K}{u s:Vn}{p q:V2 K}
theorem Gv.mono(h:Gv G S N n u p)(hm:n<=m): Gv G S N m u p:=⟨h.x.mono hm,h.y.mono hm⟩
def VeG(G:Tw K)(S:List (Tow.El K))(N:List Nm)(n:Nat)(p:V2 K)(r:AV): Prop:=∃v:Vn,r=.d (dV v)/\Gv G S N n v p
def VoG(G:Tw K)(S:List (Tow.El K))(N:List Nm)(n:Nat)(p:V2 K)(r:AV): Prop:=∃v:Vn,r=.tup (.pr (.d (dV v)) (.d (.int .i64 0)))/\Gv G S N n v p
theorem R9.Cmp_g(W:Wn G S N)(hx:Gd G S N n x v)(hy:Gd G S N m y w)(hn:n<=400)(hm:m<=400): C0 64 [.d (dN x),.d (dN y)] (·=.tup (.pr (.d (.int .i64 (sgn K G (Tow.add K v (Tow.neg K w))))) (.d (.int .i64 0)))):=by
 refine En Tryz.func64 λ_ _ _=>?_
 refine Ca rfl (R9.Sub_g W hx hy (by omega) (by omega)) λv hv=>?_
 obtain⟨z,rfl,hz⟩:=hv
 refine No rfl (by simp) ?_
 refine Ce rfl (R9.Sign_g W hz (by omega)) ?_
 exact RTt rfl (.cons (.rf rfl) Xa7)
theorem R9.Equal_g(W:Wn G S N)(hx:Gd G S N n x v)(hy:Gd G S N m y w)(hn:n<=400)(hm:m<=400): C0 22 [.d (dN x),.d (dN y)] (·=.b (dc (v=w))):=by
 refine En Tryz.func22 λ_ _ _=>?_
 refine Ce rfl (R9.Cmp_g W hx hy hn hm) ?_
 refine Yes rfl (by simp) ?_
 have e:sgn K G (Tow.add K v (Tow.neg K w))=0↔v=w:=by
  rw[Xbh W.w.g]
  exact⟨λh=>(Xaz K G).sub0 h,λh=>(Xaz K G).sb h⟩
 exact R1 rfl (.bp (Xah.trans e))
theorem R9.Valid_g(W:Wn G S N)(hx:Gd G S N n x v)(hn:n<=800): C0 81 [.d (dN x)] (·=.b true):=by
 have hk:=hx.le W
 obtain⟨ρ,h1,h2⟩:=hx.o.ex
 have hT:=W.w.t h1
 have q2:=W0k (Xn2 (r:=fF.R) (p:=fF.R) hk) Ymk.q2
 refine En Tryz.func81 λ_ _ _=>?_
 refine Yes rfl (by rw[lt',Xaa];omega) ?_
 refine Ce rfl (R6.Formed_ok (TS.pt hT) (by decide) hx.o.p.ps (by unfold gB;omega) (by rw[Xaa];omega) (by rw[Xab,Xaa])) ?_
 refine Yes rfl rfl ?_
 refine Ce rfl (R8.Reduced_ok hT h1.r (by omega) q2 (Yf6 W hx)) ?_
 exact R0
theorem R9.Light_ok{x:Nm}(hk:x.k<=16): C0 202 [.d (dN x)] IsB:=by
 obtain⟨k,t,a⟩:=x
 have hk:k<=16:=hk
 have hp:=p16 hk
 have hcl:=Xab k a
 have hTl:=Xaa k t
 refine En Tryz.func202 λ_ _ _=>?_
 refine Lo (λi:Nat=>[(1,.ptr 1 0),(3,.d (.int .i64 i))]) (λ_=>[(1,.var (.d (dN ⟨k,t,a⟩)))]) (λi=>i<=2^k) (λi=>2^k-i) 0 [] rfl (W0z _) λi hi=>?_
 refine By rfl (λh=>?_) λh=>?_
 . have h:(i:Int)<(((toL k a).map dq).length:Nat):=h
   rw[lq,hcl] at h
   obtain⟨x,hx⟩:=qat (l:=toL k a) (k:=i) (by omega)
   refine Ix i rfl (mp hx) ?_
   refine By rfl (λh1=>?_) λh1=>?_
   . exact Rt rfl (.one (.rf rfl) rfl rfl) ⟨_,rfl⟩
   . refine Ix i rfl (mp hx) ?_
     refine By rfl (λh2=>?_) λh2=>?_
     . exact Rt rfl (.one (.rf rfl) rfl rfl) ⟨_,rfl⟩
     . refine Ar (i+1:Nat) rfl ?_
       exact Bk (i+1) [] rfl (show i+1<=2^k by omega) (by show 2^k-(i+1)<2^k-i;omega)
 refine Lo (λi:Nat=>[(1,.ptr 1 0),(4,.d (.int .i64 i))]) (λ_=>[(1,.var (.d (dN ⟨k,t,a⟩)))]) (λi=>i<=k) (λi=>k-i) 0 [] rfl (W0z _) λi hi=>?_
 refine By rfl (λh=>?_) λh=>?_
 . have h:(i:Int)<(((toT k t).map dqs).length:Nat):=h
   rw[lt',hTl] at h
   obtain⟨l,hl⟩:∃l,(toT k t)[i]?=some l:=⟨_,W0c (by omega)⟩
   obtain⟨e,e1,_,_⟩:=Tw.at (t:=t) (show i<k by omega)
   obtain rfl:l=toL i e:=by rw[hl] at e1;injection e1
   have hll:=Xab i e
   have hpi:=p16 (show i<=16 by omega)
   refine Lo (λj:Nat=>[(1,.ptr 1 0),(4,.d (.int .i64 i)),(5,.d (.int .i64 j))]) (λ_=>[(1,.var (.d (dN ⟨k,t,a⟩)))]) (λj=>j<=2^i) (λj=>2^i-j) 0 [] rfl (W0z _) λj hj=>?_
   refine Ix i rfl (mp hl) ?_
   refine By rfl (λh1=>?_) λh1=>?_
   . have h1:(j:Int)<(((toL i e).map dq).length:Nat):=h1
     rw[lq,hll] at h1
     obtain⟨x,hx⟩:=qat (l:=toL i e) (k:=j) (by omega)
     refine Ix i rfl (mp hl) ?_
     refine Ix j rfl (mp hx) ?_
     refine By rfl (λh1=>?_) λh1=>?_
     . exact Rt rfl (.one (.rf rfl) rfl rfl) ⟨_,rfl⟩
     . refine Ix i rfl (mp hl) ?_
       refine Ix j rfl (mp hx) ?_
       refine By rfl (λh2=>?_) λh2=>?_
       . exact Rt rfl (.one (.rf rfl) rfl rfl) ⟨_,rfl⟩
       . refine Ar (j+1:Nat) rfl ?_
         exact Bk (j+1) [] rfl (show j+1<=2^i by omega) (by show 2^i-(j+1)<2^i-j;omega)
   . refine Ar (i+1:Nat) rfl ?_
     exact Bk (i+1) [] rfl (show i+1<=k by omega) (by show k-(i+1)<k-i;omega)
 . exact Rt rfl (.one (.rf rfl) rfl rfl) ⟨_,rfl⟩
theorem R9.All_ok{l:List Nm}(hl:∀z∈l,z.k<=16)(hn:l.length<=1000): C0 121 [.d (dNs l)] IsB:=by
 refine En Tryz.func121 λ_ _ _=>?_
 refine Lo (λi:Nat=>[(0,.d (dNs l)),(3,.d (.int .i64 i))]) (λ_=>[]) (λi=>i<=l.length) (λi=>l.length-i) 0 [] rfl (W0z _) λi hi=>?_
 refine By rfl (λh=>?_) λh=>?_<;>simp only[W0i] at h
 . obtain⟨z,hz⟩:∃z,l[i]?=some z:=⟨_,W0c (by omega)⟩
   refine Ix i rfl (mp hz) ?_
   refine Ca rfl (R9.Light_ok (hl z (W0f hz))) λv hv=>?_
   obtain⟨c,rfl⟩:=hv
   refine By rfl (λh2=>?_) λh2=>?_
   . exact Rt rfl (.one (.rf rfl) rfl rfl) ⟨_,rfl⟩
   . refine Ar (i+1:Nat) rfl ?_
     exact Bk (i+1) [] rfl (show i+1<=l.length by omega) (by show l.length-(i+1)<l.length-i;omega)
 . exact Rt rfl (.one (.rf rfl) rfl rfl) ⟨_,rfl⟩
theorem R9.At_ok{l:List Nm}{i:Nat}(hi:i<256)(hn:l.length<=1000): C0 122 [.d (dNs l),.d (.int .i64 i)] λv=>∃z∈n00::l,v=.d (dN z):=by
 refine En Tryz.func122 λ_ _ _=>?_
 refine By rfl (λh=>?_) λh=>?_<;>simp only[W0i] at h
 . refine Ce rfl (R9.FromInt_ok (z:=0) (by decide)) ?_
   exact Rt rfl (.one (.rf rfl) rfl rfl) ⟨_,W0l ..,rfl⟩
 . refine No rfl (by omega) ?_
   obtain⟨z,hz⟩:∃z,l[i%l.length]?=some z:=⟨_,W0c (W1q _ (by omega))⟩
   refine Ar (i%l.length:Nat) rfl ?_ (by rw[W0i];exact R9.remN (by omega))
   refine Ix (i%l.length) rfl (mp hz) ?_
   exact Rt rfl (.one (.rf rfl) rfl rfl) ⟨z,W0p _ (W0f hz),rfl⟩
end
end
section
section
variable{K:Nat}{G:Tw K}{S:List (Tow.El K)}{N:List Nm}{n m:Nat}{x y z:Nm}{a b:Tow.El K}{u s:Vn}{p q:V2 K}
theorem R13.Left_g(W:Wn G S N)(hu:Gv G S N n u p)(hn:n<=400): C0 159 [.d (dV u)] (VeG G S N n (neg K p.2,p.1)):=by
 refine En Tryz.func159 λ_ _ _=>?_
 refine Dw rfl ?_
 refine Ca rfl (R9.Neg_g W hu.y hn) λv hv=>?_
 obtain⟨z,rfl,hz⟩:=hv
 exact Rt rfl (.one (.rf rfl) rfl rfl) ⟨⟨z,u.x⟩,rfl,hz,hu.x⟩
theorem R13.Dot_g(W:Wn G S N)(hu:Gv G S N n u p)(hs:Gv G S N m s q)(hn:n<=400)(hm:m<=400)(h2:n+m<=400): C0 97 [.d (dV u),.d (dV s)] (OpG G S N (n+m+(n+m)) (Xhq G p q)):=by
 refine En Tryz.func97 λ_ _ _=>?_
 refine Ca rfl (R9.Mul_g W hu.x hs.x hn hm) λv hv=>?_
 obtain⟨z,rfl,hz⟩:=hv
 refine Ca rfl (R9.Mul_g W hu.y hs.y hn hm) λv hv=>?_
 obtain⟨w,rfl,hw⟩:=hv
 refine No rfl (by simp) ?_
 refine No rfl (by simp) ?_
 refine Ca rfl (R9.Add_g W hz hw h2 h2) λv hv=>?_
 obtain⟨r,rfl,hr⟩:=hv
 exact Rt rfl (.tup (.cons (.rf rfl) Xa7)) ⟨r,rfl,hr⟩
theorem R13.Cross_g(W:Wn G S N)(hu:Gv G S N n u p)(hs:Gv G S N m s q)(hn:n<=400)(hm:m<=400)(h2:n+m<=400): C0 98 [.d (dV u),.d (dV s)] (OpG G S N (n+m+(n+m)) (Xc5 G p q)):=by
 refine En Tryz.func98 λ_ _ _=>?_
 refine Dw rfl ?_
 refine Ca rfl (R13.Left_g W hu hn) λv hv=>?_
 obtain⟨r,rfl,hr⟩:=hv
 refine Ca rfl (R13.Dot_g W hr hs hn hm h2) λv hv=>?_
 obtain⟨z,rfl,hz⟩:=hv
 exact Rt rfl (.tup (.cons (.rf rfl) Xa7)) ⟨z,rfl,hz⟩
theorem R13.Zero_g(W:Wn G S N)(hu:Gv G S N n u p)(hn:n<=800): C0 49 [.d (dV u)] (·=.b (dc (p=vz K))):=by
 refine En Tryz.func49 λ_ _ _=>?_
 refine Ce rfl (R9.Sign_g W hu.x hn) ?_
 refine By rfl (λh=>?_) λh=>?_
 . refine Ce rfl (R9.Sign_g W hu.y hn) ?_
   exact R1 rfl (.bp (Xah.trans ⟨λh2=>(Xgy W.w.g).2 ⟨h,h2⟩,λh2=>((Xgy W.w.g).1 h2).2⟩))
 . exact R1 rfl (.bp ⟨nofun,λh2=>absurd ((Xgy W.w.g).1 h2).1 h⟩)
theorem R13.Valid_g(W:Wn G S N)(hu:Gv G S N n u p)(hn:n<=800): C0 65 [.d (dV u)] (·=.b true):=by
 refine En Tryz.func65 λ_ _ _=>?_
 refine Ce rfl (R9.Valid_g W hu.x hn) ?_
 refine Yes rfl rfl ?_
 refine Ce rfl (R9.Valid_g W hu.y hn) ?_
 exact R0
theorem R13.Make_ok{i j:Rat}: C0 44 [.d (dq i),.d (dq j)] (·=.d (dV ⟨⟨0,(),i⟩,⟨0,(),j⟩⟩)):=by
 refine En Tryz.func44 λ_ _ _=>?_
 refine Dw rfl ?_
 refine Ce rfl R9.FromRat_ok ?_
 refine Ce rfl R9.FromRat_ok ?_
 exact R0
theorem R13.Whole_ok{i j:Int}(hi:-9223372036854775808<=i/\i<9223372036854775808)(hj:-9223372036854775808<=j/\j<9223372036854775808): C0 15 [.d (.int .i64 i),.d (.int .i64 j)] (·=.d (dV ⟨⟨0,(),(i:Rat)⟩,⟨0,(),(j:Rat)⟩⟩)):=by
 refine En Tryz.func15 λ_ _ _=>?_
 refine Ce rfl (R2.FromInt_ok hi) ?_
 refine Ce rfl (R2.FromInt_ok hj) ?_
 refine Ce rfl R13.Make_ok ?_
 exact R0
abbrev cal: Ob:=.var (.d (.st (.int .i64 0)))
theorem R15.note_ok: CN0 157 [.ptr 1000001 0,.d (.int .i64 0)] [(1000001,cal)] (λ_=>True):=by
 refine EnW Tryz.func157 λ_ _ _ _=>?_
 refine Yes rfl (by decide) ?_
 exact Rw [] [(1000001,cal)] rfl (.tup (.one (.rf rfl) (λ_ _ e=>by cases e) (λ_ _ e=>by cases e))) ⟨rfl,trivial⟩
theorem R15.num_ok{x:Nm}: CN0 96 [.ptr 1000001 0,.d (dN x),.d (.int .i64 0)] [(1000001,cal)] (·=.d (dN x)):=by
 refine EnW Tryz.func96 λ_ _ _ _=>?_
 refine Cn [] rfl R15.note_ok λv hv=>?_
 refine No rfl (by decide) ?_
 exact Rw [] [(1000001,cal)] rfl (.one (.rf rfl) rfl rfl) ⟨rfl,rfl⟩
theorem R15.Add_g(W:Wn G S N)(hx:Gd G S N n x a)(hy:Gd G S N m y b)(hn:n<=400)(hm:m<=400): CN0 68 [.ptr 1000001 0,.d (dN x),.d (dN y)] [(1000001,cal)] (OnG G S N (n+m) (Tow.add K a b)):=by
 refine EnW Tryz.func68 λ_ _ _ _=>?_
 refine Ca rfl (R9.Add_g W hx hy hn hm) λv hv=>?_
 obtain⟨z,rfl,hz⟩:=hv
 refine Cn [] rfl R15.num_ok λv hv=>?_
 subst hv
 exact Rw [] [(1000001,cal)] rfl (.one (.rf rfl) rfl rfl) ⟨rfl,z,rfl,hz⟩
theorem R15.Sub_g(W:Wn G S N)(hx:Gd G S N n x a)(hy:Gd G S N m y b)(hn:n<=400)(hm:m<=400): CN0 282 [.ptr 1000001 0,.d (dN x),.d (dN y)] [(1000001,cal)] (OnG G S N (n+m) (Tow.add K a (Tow.neg K b))):=by
 refine EnW Tryz.func282 λ_ _ _ _=>?_
 refine Ca rfl (R9.Sub_g W hx hy hn hm) λv hv=>?_
 obtain⟨z,rfl,hz⟩:=hv
 refine Cn [] rfl R15.num_ok λv hv=>?_
 subst hv
 exact Rw [] [(1000001,cal)] rfl (.one (.rf rfl) rfl rfl) ⟨rfl,z,rfl,hz⟩
theorem R15.Mul_g(W:Wn G S N)(hx:Gd G S N n x a)(hy:Gd G S N m y b)(hn:n<=400)(hm:m<=400): CN0 283 [.ptr 1000001 0,.d (dN x),.d (dN y)] [(1000001,cal)] (OnG G S N (n+m) (Tow.mul K G a b)):=by
 refine EnW Tryz.func283 λ_ _ _ _=>?_
 refine Ca rfl (R9.Mul_g W hx hy hn hm) λv hv=>?_
 obtain⟨z,rfl,hz⟩:=hv
 refine Cn [] rfl R15.num_ok λv hv=>?_
 subst hv
 exact Rw [] [(1000001,cal)] rfl (.one (.rf rfl) rfl rfl) ⟨rfl,z,rfl,hz⟩
theorem R15.Cross_g(W:Wn G S N)(hu:Gv G S N n u p)(hs:Gv G S N m s q)(hn:n<=400)(hm:m<=400)(h2:n+m<=400): CN0 52 [.ptr 1000001 0,.d (dV u),.d (dV s)] [(1000001,cal)] (OnG G S N (n+m+(n+m)) (Xc5 G p q)):=by
 refine EnW Tryz.func52 λ_ _ _ _=>?_
 refine Ca rfl (R13.Cross_g W hu hs hn hm h2) λv hv=>?_
 obtain⟨z,rfl,hz⟩:=hv
 refine Cn [] rfl R15.num_ok λv hv=>?_
 subst hv
 exact Rw [] [(1000001,cal)] rfl (.one (.rf rfl) rfl rfl) ⟨rfl,z,rfl,hz⟩
end
end
section
abbrev dT(v:Vn)(f:Int): D:=.st (.pr (dV v) (.int .i64 f))
abbrev dT0: D:=.st (.pr (.st (.pr R9.n0 R9.n0)) (.int .i64 0))
theorem Xr5{g:Hp}{K:Hpl}: Fit g K (.st (.pr (.st (.pr (.st (.pr .nil .nil)) (.st (.pr .nil .nil)))) (.d (.int .i64 0)))) (.d dT0):=.sd (.pd (.sd (.pd R9.fit0 R9.fit0)) (.rf rfl))
def lim(f:Int): Prop:=-1000000<=f/\f<=1000000
instance {f:Int}:Decidable (lim f):=by unfold lim;infer_instance
def few(f:Int): Prop:=-1000000000<=f/\f<=1000000000
theorem lim.few{f:Int}(h:lim f): few f:=by unfold lim at h;unfold Proofs.YtfjafaehfjjaiaaGreatDoor.few;omega
def Xs9{K:Nat}(G:Tw K)(p q:V2 K)(f g:Int): Int:=if f<g then -1 else if f>g then 1 else Xst G p q
section
variable{K:Nat}{G:Tw K}{S:List (Tow.El K)}{N:List Nm}{n m:Nat}{x y z:Nm}{a b:Tow.El K}{u s:Vn}{p q:V2 K}{f g:Int}
def TuG(G:Tw K)(S:List (Tow.El K))(N:List Nm)(n:Nat)(p:V2 K)(f:Int)(r:AV): Prop:=(lim f/\∃v,r=.tup (.pr (.d (dT v f)) (.d (.int .i64 0)))/\Gv G S N n v p)\/(¬lim f/\r=.tup (.pr (.d dT0) (.d (.int .i64 3))))
theorem R19.Valid_g(W:Wn G S N)(hu:Gv G S N n u p)(hn:n<=800): C0 46 [.d (dT u f)] (·=.b (dc (p≠vz K/\lim f))):=by
 refine En Tryz.func46 λ_ _ _=>?_
 refine Ce rfl (R13.Zero_g W hu hn) ?_
 refine By rfl (λh=>?_) λh=>?_
 . have h:p≠vz K:=by simpa [Xal,Xah] using h
   refine By rfl (λh2=>?_) λh2=>?_
   . exact R1 rfl (.bp (Xah.trans ⟨λh3=>⟨h,h2,h3⟩,λh3=>h3.2.2⟩))
   . exact R1 rfl (.bp ⟨nofun,λh3=>absurd h3.2.1 h2⟩)
 . have h:p=vz K:=by simpa [Xal,Xah] using h
   exact R1 rfl (.bp ⟨nofun,λh3=>absurd h h3.1⟩)
theorem R19.half_g(W:Wn G S N)(hu:Gv G S N n u p)(hn:n<=800): C0 195 [.d (dV u)] (·=.d (.int .i64 (if vup G p then 0 else 1))):=by
 refine En Tryz.func195 λ_ _ _=>?_
 refine Ce rfl (R9.Sign_g W hu.y hn) ?_
 refine By rfl (λh=>?_) λh=>?_
 . rw[if_pos (show vup G p from .inl h)];exact R0
 . refine By rfl (λh2=>?_) λh2=>?_
   . refine Ce rfl (R9.Sign_g W hu.x hn) ?_
     refine By rfl (λh3=>?_) λh3=>?_
     . rw[if_pos (show vup G p from .inr ⟨h2,h3⟩)];exact R0
     . rw[if_neg (show ¬vup G p from λe=>e.elim h λe=>h3 e.2)];exact R0
   . rw[if_neg (show ¬vup G p from λe=>e.elim h λe=>h2 e.1)];exact R0
theorem R19.order_g(W:Wn G S N)(hu:Gv G S N n u p)(hs:Gv G S N m s q)(hn:n<=400)(hm:m<=400)(h2:n+m<=400): CN0 119 [.ptr 1000001 0,.d (dV u),.d (dV s)] [(1000001,cal)] (·=.d (.int .i64 (Xst G p q))):=by
 refine EnW Tryz.func119 λ_ _ _ _=>?_
 refine Dw rfl ?_
 refine Ce rfl (R19.half_g W hu (by omega)) ?_
 refine Ce rfl (R19.half_g W hs (by omega)) ?_
 refine By rfl (λh=>?_) λh=>?_
 . refine Dw rfl ?_
   refine Ce rfl (R19.half_g W hu (by omega)) ?_
   refine Ce rfl (R19.half_g W hs (by omega)) ?_
   refine Ar (Xst G p q) rfl ?_ (by
    unfold Xst
    by_cases h1:vup G p<;>by_cases h2:vup G q<;>simp[h1,h2] at h |-<;>rfl)
   exact Rw [] [(1000001,cal)] rfl (.one (.rf rfl) rfl rfl) ⟨rfl,rfl⟩
 . refine Cn [] rfl (R15.Cross_g W hu hs hn hm h2) λv hv=>?_
   obtain⟨z,rfl,hz⟩:=hv
   refine Ce rfl (R9.Sign_g W hz (by omega)) ?_
   have hi:vup G p↔vup G q:=by
    by_cases h1:vup G p<;>by_cases h2:vup G q<;>simp[h1,h2] at h |-
   have ht:=Xca G (Xc5 G p q)
   refine Ne (Xst G p q) rfl ?_ (by
    unfold Xst
    rw[if_pos hi]
    exact wr (Int.zero_sub _) (by simp only[inK];omega))
   exact Rw [] [(1000001,cal)] rfl (.one (.rf rfl) rfl rfl) ⟨rfl,rfl⟩
theorem R19.product_g(W:Wn G S N)(hu:Gv G S N n u p)(hs:Gv G S N m s q)(h2:n+m<=400): CN0 222 [.ptr 1000001 0,.d (dV u),.d (dV s)] [(1000001,cal)] (VeG G S N (n+m+(n+m)) (Xe2 G p q)):=by
 refine EnW Tryz.func222 λ_ _ _ _=>?_
 refine Dw rfl ?_
 refine Cn [] rfl (R15.Mul_g W hu.x hs.x (by omega) (by omega)) λv hv=>?_
 obtain⟨z1,rfl,h1⟩:=hv
 refine Cn [] rfl (R15.Mul_g W hu.y hs.y (by omega) (by omega)) λv hv=>?_
 obtain⟨z2,rfl,h2'⟩:=hv
 refine Cn [] rfl (R15.Sub_g W h1 h2' h2 h2) λv hv=>?_
 obtain⟨z3,rfl,h3⟩:=hv
 refine Cn [] rfl (R15.Mul_g W hu.x hs.y (by omega) (by omega)) λv hv=>?_
 obtain⟨z4,rfl,h4⟩:=hv
 refine Cn [] rfl (R15.Mul_g W hu.y hs.x (by omega) (by omega)) λv hv=>?_
 obtain⟨z5,rfl,h5⟩:=hv
 refine Cn [] rfl (R15.Add_g W h4 h5 h2 h2) λv hv=>?_
 obtain⟨z6,rfl,h6⟩:=hv
 exact Rw [] [(1000001,cal)] rfl (.one (.rf rfl) rfl rfl) ⟨rfl,⟨z3,z6⟩,rfl,h3,h6⟩
theorem R19.sum_g(W:Wn G S N)(hu:Gv G S N n u p)(hs:Gv G S N m s q)(h2:n+m+(n+m)+n<=400)(hf:few f)(hg:few g): CN0 137 [.ptr 1000001 0,.d (dT u f),.d (dT s g)] [(1000001,cal)] (λr=>∃v,r=.d (dT v (Xgi G p q f g))/\Gv G S N (n+m+(n+m)) v (Xe2 G p q)):=by
 unfold few at hf hg
 refine EnW Tryz.func137 λ_ _ _ _=>?_
 refine Cn [] rfl (R19.product_g W hu hs (by omega)) λv hv=>?_
 obtain⟨d,rfl,hd⟩:=hv
 refine Ar (f+g) rfl ?_ (wr rfl (by simp only[inK];omega))
 refine Yes rfl (by decide) ?_
 refine Cn [] rfl (R19.order_g W hd hu (by omega) (by omega) h2) λv hv=>?_
 subst hv
 refine By rfl (λh=>?_) λh=>?_
 . refine Ar (f+g+1) rfl ?_ (wr rfl (by simp only[inK];omega))
   exact Rw [] [(1000001,cal)] rfl (.one (.rf rfl) rfl rfl) ⟨rfl,d,by rw[Xgi,if_pos h],hd⟩
 . exact Rw [] [(1000001,cal)] rfl (.one (.rf rfl) rfl rfl) ⟨rfl,d,by rw[Xgi,if_neg h],hd⟩
theorem R19.result_g(hu:Gv G S N n u p): CN0 50 [.ptr 1000001 0,.d (dT u f)] [(1000001,cal)] (TuG G S N n p f):=by
 refine EnW Tryz.func50 λ_ _ _ _=>?_
 refine No rfl (by decide) ?_
 refine By rfl (λh=>?_) λh=>?_
 . exact Rw [] [(1000001,cal)] rfl (.tup (.cons Xr5 Xa7)) ⟨rfl,.inr ⟨λh2=>by unfold lim at h2;omega,rfl⟩⟩
 . refine By rfl (λh2=>?_) λh2=>?_
   . exact Rw [] [(1000001,cal)] rfl (.tup (.cons Xr5 Xa7)) ⟨rfl,.inr ⟨λh2=>by unfold lim at h2;omega,rfl⟩⟩
   . exact Rw [] [(1000001,cal)] rfl (.tup (.cons (.rf rfl) Xa7)) ⟨rfl,.inl ⟨by unfold lim;omega,u,rfl,hu⟩⟩
theorem R19.Add_g(W:Wn G S N)(hu:Gv G S N n u p)(hs:Gv G S N m s q)(h2:n+m+(n+m)+n<=400)(hf:few f)(hg:few g): C0 80 [.d (dT u f),.d (dT s g)] (TuG G S N (n+m+(n+m)) (Xe2 G p q) (Xgi G p q f g)):=by
 refine En Tryz.func80 λ_ _ _=>?_
 refine Cn [(1000001,8)] rfl (R19.sum_g W hu hs h2 hf hg) λv hv=>?_
 obtain⟨d,rfl,hd⟩:=hv
 refine Cn [(1000001,8)] rfl (R19.result_g hd) λv hv=>?_
 rcases hv with ⟨h1,w,rfl,hw⟩ | ⟨h1,rfl⟩
 . exact Rt rfl (.tup (.cons (.rf rfl) Xa7)) (.inl ⟨h1,w,rfl,hw⟩)
 . exact Rt rfl (.tup (.cons (.rf rfl) Xa7)) (.inr ⟨h1,rfl⟩)
theorem R19.Cmp_g(W:Wn G S N)(hu:Gv G S N n u p)(hs:Gv G S N m s q)(h2:n+m<=400): C0 66 [.d (dT u f),.d (dT s g)] (·=.tup (.pr (.d (.int .i64 (Xs9 G p q f g))) (.d (.int .i64 0)))):=by
 refine En Tryz.func66 λ_ _ _=>?_
 unfold Xs9
 refine By rfl (λh=>?_) λh=>?_
 . rw[if_pos h];exact RTt rfl (.cons (.rf rfl) Xa7)
 rw[if_neg h]
 refine By rfl (λh=>?_) λh=>?_
 . rw[if_pos h];exact RTt rfl (.cons (.rf rfl) Xa7)
 rw[if_neg h]
 refine Cn [(1000001,19)] rfl (R19.order_g W hu hs (by omega) (by omega) h2) λv hv=>?_
 subst hv
 refine No rfl (by decide) ?_
 exact RTt rfl (.cons (.rf rfl) Xa7)
def Xs2(G:Tw K)(p q:V2 K)(f g:Int): Prop:=(p≠vz K/\lim f)/\(q≠vz K/\lim g)/\Xs9 G p q f g=0
theorem R19.Same_g(W:Wn G S N)(hu:Gv G S N n u p)(hs:Gv G S N m s q)(h2:n+m<=400): C0 23 [.d (dT u f),.d (dT s g)] (·=.b (dc (Xs2 G p q f g))):=by
 refine En Tryz.func23 λ_ _ _=>?_
 refine Ce rfl (R13.Valid_g W hu (by omega)) ?_
 refine No rfl (by simp) ?_
 refine Ce rfl (R13.Valid_g W hs (by omega)) ?_
 refine No rfl (by simp) ?_
 refine Ce rfl (R19.Valid_g W hu (by omega)) ?_
 refine By rfl (λh=>?_) λh=>?_
 . have h:¬(p≠vz K/\lim f):=by simpa [Xal,Xah] using h
   exact R1 rfl (.bp ⟨nofun,λe=>absurd e.1 h⟩)
 have h:p≠vz K/\lim f:=by simpa [Xal,Xah] using h
 refine Ce rfl (R19.Valid_g W hs (by omega)) ?_
 refine By rfl (λh1=>?_) λh1=>?_
 . have h1:¬(q≠vz K/\lim g):=by simpa [Xal,Xah] using h1
   exact R1 rfl (.bp ⟨nofun,λe=>absurd e.2.1 h1⟩)
 have h1:q≠vz K/\lim g:=by simpa [Xal,Xah] using h1
 refine Ce rfl (R19.Cmp_g W hu hs h2) ?_
 refine By rfl (λh3=>?_) λh3=>?_
 . exact R1 rfl (.bp ⟨λ_=>⟨h,h1,h3⟩,λ_=>Xah.2 rfl⟩)
 . exact R1 rfl (.bp ⟨nofun,λe=>absurd e.2.2 h3⟩)
end
end
open Go Go.Vm Go.Num Go.Tow
section
variable{K:Nat}{G:Tw K}{S:List (Tow.El K)}{N:List Nm}{n m:Nat}{x y z:Nm}{a b:Tow.El K}{u s:Vn}{p q:V2 K}{f g:Int}
namespace P13
theorem Xz0(W:Wn G S N)(hu:Gv G S N n u p)(hs:Gv G S N m s q)(hn:n<=400)(hm:m<=400): C0 161 [.d (dV u),.d (dV s),.d (fnD 100)] (VoG G S N (n+m) (Tow.mul K G p.1 q.1,Tow.mul K G p.2 q.2)):=by
 refine En Tryz.func161 λ_ _ _=>?_
 refine Ca rfl (P9.Mul_g W hu.x hs.x hn hm) λv hv=>?_
 obtain⟨z,rfl,hz⟩:=hv
 refine No rfl (by simp) ?_
 refine Ca rfl (P9.Mul_g W hu.y hs.y hn hm) λv hv=>?_
 obtain⟨w,rfl,hw⟩:=hv
 refine No rfl (by simp) ?_
 exact Rt rfl (.tup (.cons (.rf rfl) Xa7)) ⟨⟨z,w⟩,rfl,hz,hw⟩
theorem Xzr(W:Wn G S N)(hx:Gd G S N n x a)(hn:n<=400): C0 163 [.d (dN x)] (OnG G S N n a):=by
 refine En Tryz.func163 λ_ _ _=>?_
 refine Ca rfl (P9.Neg_g W hx hn) λv hv=>?_
 obtain⟨z,rfl,hz⟩:=hv
 refine Ca rfl (P9.Neg_g W hz hn) λv hv=>?_
 obtain⟨w,rfl,hw⟩:=hv
 rw[(Xaz K G).nn] at hw
 exact Rt rfl (.one (.rf rfl) rfl rfl) ⟨w,rfl,hw⟩
theorem Left_g(W:Wn G S N)(hu:Gv G S N n u p)(hn:n<=400): C0 102 [.d (dV u)] (VeG G S N n (neg K p.2,p.1)):=by
 refine En Tryz.func102 λ_ _ _=>?_
 refine Dw rfl ?_
 refine Ca rfl (P9.Neg_g W hu.y hn) λv hv=>?_
 obtain⟨z,rfl,hz⟩:=hv
 refine Ca rfl (Xzr W hu.x hn) λv hv=>?_
 obtain⟨w,rfl,hw⟩:=hv
 exact Rt rfl (.one (.rf rfl) rfl rfl) ⟨⟨z,w⟩,rfl,hz,hw⟩
theorem Dot_g(W:Wn G S N)(hu:Gv G S N n u p)(hs:Gv G S N m s q)(hn:n<=400)(hm:m<=400)(h2:n+m<=400): C0 101 [.d (dV u),.d (dV s)] (OpG G S N (n+m+(n+m)) (Xhq G p q)):=by
 refine En Tryz.func101 λ_ _ _=>?_
 refine Ca rfl (Xz0 W hu hs hn hm) λv hv=>?_
 obtain⟨r,rfl,hr⟩:=hv
 refine No rfl (by simp) ?_
 refine Ca rfl (P9.Add_g W hr.x hr.y h2 h2) λv hv=>?_
 obtain⟨z,rfl,hz⟩:=hv
 exact Rt rfl (.tup (.cons (.rf rfl) Xa7)) ⟨z,rfl,hz⟩
theorem Cross_g(W:Wn G S N)(hu:Gv G S N n u p)(hs:Gv G S N m s q)(hn:n<=400)(hm:m<=400)(h2:n+m<=400): C0 57 [.d (dV u),.d (dV s)] (OpG G S N (n+m+(n+m)) (Xc5 G p q)):=by
 refine En Tryz.func57 λ_ _ _=>?_
 refine Dw rfl ?_
 refine Ca rfl (Left_g W hu hn) λv hv=>?_
 obtain⟨r,rfl,hr⟩:=hv
 refine Ca rfl (Dot_g W hr hs hn hm h2) λv hv=>?_
 obtain⟨z,rfl,hz⟩:=hv
 exact Rt rfl (.tup (.cons (.rf rfl) Xa7)) ⟨z,rfl,hz⟩
theorem Zero_g(W:Wn G S N)(hu:Gv G S N n u p)(hn:n<=800): C0 83 [.d (dV u)] (·=.b (dc (p=vz K))):=by
 refine En Tryz.func83 λ_ _ _=>?_
 refine Ce rfl (P9.Sign_g W hu.x hn) ?_
 refine By rfl (λh=>?_) λh=>?_
 . refine Ce rfl (P9.Sign_g W hu.y hn) ?_
   exact R1 rfl (.bp (Xah.trans ⟨λh2=>(Xgy W.w.g).2 ⟨h,h2⟩,λh2=>((Xgy W.w.g).1 h2).2⟩))
 . exact R1 rfl (.bp ⟨nofun,λh2=>absurd ((Xgy W.w.g).1 h2).1 h⟩)
end P13
namespace P19
theorem Xr1(W:Wn G S N)(hu:Gv G S N n u p)(hs:Gv G S N m s q)(h2:n+m<=400): C0 212 [.d (dV u),.d (dV s)] (VoG G S N (n+m+(n+m)) (Xe2 G p q)):=by
 refine En Tryz.func212 λ_ _ _=>?_
 refine Dw rfl ?_
 refine Ca rfl (P9.Neg_g W hu.y (by omega)) λv hv=>?_
 obtain⟨z,rfl,hz⟩:=hv
 refine Ca rfl (P13.Dot_g (u:=⟨u.x,z⟩) (p:=Xnm p) W ⟨hu.x,hz⟩ hs (by omega) (by omega) h2) λv hv=>?_
 obtain⟨d,rfl,hd⟩:=hv
 rw[Yap] at hd
 refine No rfl (by simp) ?_
 refine Dw rfl ?_
 refine Ca rfl (P9.Neg_g W hu.y (by omega)) λv hv=>?_
 obtain⟨z',rfl,hz'⟩:=hv
 refine Ca rfl (P13.Cross_g (u:=⟨u.x,z'⟩) (p:=Xnm p) W ⟨hu.x,hz'⟩ hs (by omega) (by omega) h2) λv hv=>?_
 obtain⟨c,rfl,hc⟩:=hv
 rw[Yao] at hc
 refine No rfl (by simp) ?_
 exact Rt rfl (.tup (.cons (.rf rfl) Xa7)) ⟨⟨d,c⟩,rfl,hd,hc⟩
theorem Xsv(W:Wn G S N)(hu:Gv G S N n u p)(hn:n<=800): C0 153 [.d (dV u)] (·=.b (dc (vup G p))):=by
 refine En Tryz.func153 λ_ _ _=>?_
 refine Ce rfl (P9.Sign_g W hu.y hn) ?_
 refine By rfl (λh=>?_) λh=>?_
 . exact R1 rfl (.bp ⟨λ_=>.inl h,λ_=>rfl⟩)
 . refine By rfl (λh2=>?_) λh2=>?_
   . refine Ce rfl (P9.Sign_g W hu.x hn) ?_
     exact R1 rfl (.bp (Xah.trans ⟨λh3=>.inr ⟨h2,h3⟩,λh3=>h3.elim (λe=>absurd e h) λe=>e.2⟩))
   . exact R1 rfl (.bp ⟨nofun,λh3=>h3.elim (λe=>absurd e h) λe=>absurd e.1 h2⟩)
theorem Yit(W:Wn G S N)(hu:Gv G S N n u p)(hn:n<=800): C0 84 [.d (dV u)] (·=.b (dc (Xcu G p))):=by
 refine En Tryz.func84 λ_ _ _=>?_
 refine Ce rfl (P9.Sign_g W hu.y hn) ?_
 refine By rfl (λh=>?_) λh=>?_
 . refine Ce rfl (P9.Sign_g W hu.x hn) ?_
   exact R1 rfl (.bp (Xah.trans ⟨λh3=>⟨h,h3⟩,λh3=>h3.2⟩))
 . exact R1 rfl (.bp ⟨nofun,λh3=>absurd h3.1 h⟩)
theorem Xck(W:Wn G S N)(hu:Gv G S N n u p)(hs:Gv G S N m s q)(h2:n+m<=400): C0 93 [.d (dV u),.d (dV s)] (·=.tup (.pr (.d (.int .i64 (Xst G p q))) (.d (.int .i64 0)))):=by
 refine En Tryz.func93 λ_ _ _=>?_
 refine Dw rfl ?_
 refine Ce rfl (Xsv W hu (by omega)) ?_
 refine Ce rfl (Xsv W hs (by omega)) ?_
 unfold Xst
 refine By rfl (λh=>?_) λh=>?_
 . refine By rfl (λh1=>?_) λh1=>?_
   . rw[if_neg (by simp[Xah,h1] at h |-;exact h),if_pos h1]
     exact RTt rfl (.cons (.rf rfl) Xa7)
   . rw[if_neg (by simp[Xah,h1] at h |-;exact h),if_neg h1]
     exact RTt rfl (.cons (.rf rfl) Xa7)
 . have d1:dc True=true:=Xah.2 trivial
   have d2:dc False=false:=W6i.2 λh=>Xah.1 h
   have h:vup G p↔vup G q:=by
    by_cases h1:vup G p<;>by_cases h2:vup G q<;>simp[h1,h2,d1,d2] at h |-
   rw[if_pos h]
   refine Ca rfl (P13.Cross_g W hu hs (by omega) (by omega) h2) λv hv=>?_
   obtain⟨z,rfl,hz⟩:=hv
   refine Ce rfl (P9.Sign_g W hz (by omega)) ?_
   have ht:=Xca G (Xc5 G p q)
   refine Ne (-sgn K G (Xc5 G p q)) rfl ?_ (wr (Int.zero_sub _) (by simp only[inK];omega))
   exact RTt rfl (.cons (.rf rfl) Xa7)
theorem Ym4(W:Wn G S N)(hu:Gv G S N n u p)(hs:Gv G S N m s q)(h2:n+m+(n+m)+n<=400)(hf:few f)(hg:few g): C0 134 [.d (dT u f),.d (dT s g)] (λr=>∃v,r=.tup (.pr (.d (dT v (Xgi G p q f g))) (.d (.int .i64 0)))/\Gv G S N (n+m+(n+m)) v (Xe2 G p q)):=by
 unfold few at hf hg
 refine En Tryz.func134 λ_ _ _=>?_
 refine Ca rfl (Xr1 W hu hs (by omega)) λv hv=>?_
 obtain⟨d,rfl,hd⟩:=hv
 refine No rfl (by simp) ?_
 refine Ce rfl (Xck W hd hu h2) ?_
 refine No rfl (by simp) ?_
 refine Ar (f+g) rfl ?_ (wr rfl (by simp only[inK];omega))
 refine By rfl (λh=>?_) λh=>?_
 . refine Ar (f+g+1) rfl ?_ (wr rfl (by simp only[inK];omega))
   exact Rt rfl (.tup (.cons (.rf rfl) Xa7)) ⟨d,by rw[Xgi,if_pos h],hd⟩
 . exact Rt rfl (.tup (.cons (.rf rfl) Xa7)) ⟨d,by rw[Xgi,if_neg h],hd⟩
theorem Xu8(hu:Gv G S N n u p): C0 133 [.d (dT u f),.d (.int .i64 0)] (TuG G S N n p f):=by
 refine En Tryz.func133 λ_ _ _=>?_
 refine Yes rfl (by decide) ?_
 refine By rfl (λh=>?_) λh=>?_
 . refine Yes rfl (by decide) ?_
   exact Rt rfl (.tup (.cons Xr5 Xa7)) (.inr ⟨λh2=>by unfold lim at h2;omega,rfl⟩)
 . refine By rfl (λh2=>?_) λh2=>?_
   . refine Yes rfl (by decide) ?_
     exact Rt rfl (.tup (.cons Xr5 Xa7)) (.inr ⟨λh2=>by unfold lim at h2;omega,rfl⟩)
   . refine No rfl (by decide) ?_
     exact Rt rfl (.tup (.cons (.rf rfl) Xa7)) (.inl ⟨by unfold lim;omega,u,rfl,hu⟩)
theorem Add_g(W:Wn G S N)(hu:Gv G S N n u p)(hs:Gv G S N m s q)(h2:n+m+(n+m)+n<=400)(hf:few f)(hg:few g): C0 76 [.d (dT u f),.d (dT s g)] (TuG G S N (n+m+(n+m)) (Xe2 G p q) (Xgi G p q f g)):=by
 refine En Tryz.func76 λ_ _ _=>?_
 refine Ca rfl (Ym4 W hu hs h2 hf hg) λv hv=>?_
 obtain⟨d,rfl,hd⟩:=hv
 refine Ca rfl (Xu8 hd) λv hv=>?_
 rcases hv with ⟨h1,w,rfl,hw⟩ | ⟨h1,rfl⟩
 . exact Rt rfl (.tup (.cons (.rf rfl) Xa7)) (.inl ⟨h1,w,rfl,hw⟩)
 . exact Rt rfl (.tup (.cons (.rf rfl) Xa7)) (.inr ⟨h1,rfl⟩)
theorem Cmp_g(W:Wn G S N)(hu:Gv G S N n u p)(hs:Gv G S N m s q)(h2:n+m<=400): C0 42 [.d (dT u f),.d (dT s g)] (·=.tup (.pr (.d (.int .i64 (Xs9 G p q f g))) (.d (.int .i64 0)))):=by
 refine En Tryz.func42 λ_ _ _=>?_
 unfold Xs9
 refine By rfl (λh=>?_) λh=>?_
 . rw[if_pos h];exact RTt rfl (.cons (.rf rfl) Xa7)
 rw[if_neg h]
 refine By rfl (λh=>?_) λh=>?_
 . rw[if_pos h];exact RTt rfl (.cons (.rf rfl) Xa7)
 rw[if_neg h]
 refine Ce rfl (Xck W hu hs h2) ?_
 refine No rfl (by simp) ?_
 exact RTt rfl (.cons (.rf rfl) Xa7)
theorem Zero_g(W:Wn G S N)(hu:Gv G S N n u p)(hn:n<=800): C0 37 [.d (dT u f)] (·=.b (dc (f=0/\Xcu G p))):=by
 refine En Tryz.func37 λ_ _ _=>?_
 refine By rfl (λh=>?_) λh=>?_
 . refine Ce rfl (Yit W hu hn) ?_
   exact R1 rfl (.bp (Xah.trans ⟨λh2=>⟨h,h2⟩,λh2=>h2.2⟩))
 . exact R1 rfl (.bp ⟨nofun,λh2=>absurd h2.1 h⟩)
def OfG(G:Tw K)(S:List (Tow.El K))(N:List Nm)(n:Nat)(p q:V2 K)(r:AV): Prop:=(¬(p=vz K\/q=vz K)/\∃v,r=.tup (.pr (.d (dT v 0)) (.d (.int .i64 0)))/\Gv G S N n v (Xe2 G (Xnm p) q))\/((p=vz K\/q=vz K)/\r=.tup (.pr (.d dT0) (.d (.int .i64 6))))
end P19
end
end Go.Proofs.YtfjafaehfjjaiaaGreatDoor
namespace Go.Vm
open Go
section
variable{c:Cx}{s:St}{p:Pl}
end
end Go.Vm
namespace Go.Proofs.YtfjafaehfjjaiaaGreatDoor
open Go Go.Vm Go.Num Go.Tow
section
abbrev dAt(l:List (Fin 256)): D:=.sl 1 (l.map λn=>.int .u8 n.val)
abbrev dPl(ops:List RO)(l:List (Fin 256)): D:=.st (.pr (dRs ops) (dAt l))
def PtF(l:List Nm)(v:AV): Prop:=v=.tup (.pr (.d (dVs [])) (.b false))\/∃L:List Vn,v=.tup (.pr (.d (dVs L)) (.b true))/\L.length<=24/\∀x∈L,x.x∈n00::l/\x.y∈n00::l
theorem Xop{c:Bool}{g:Hp}{K:Hpl}: FitT g K (.b c) (.b c):=.one (.rf rfl) (λ_ _ e=>by cases e) (λ_ _ e=>by cases e)
theorem Yab{ops:List RO}{at':List (Fin 256)}{l:List Nm}(hb:C0 120 [.d (dRs ops)] (·=.d (dNs l)))(hl24:l.length<=24)(hk:∀z∈l,z.k<=16): C0 67 [.d (dPl ops at')] (PtF l):=by
 refine En Tryz.func67 λ_ _ _=>?_
 refine Ce rfl hb ?_
 refine Ca rfl (R9.All_ok hk (by omega)) λv hv=>?_
 obtain⟨c,rfl⟩:=hv
 refine By rfl (λh=>?_) λh=>?_
 . exact Rt rfl (.tup (.cons (.nil rfl) Xop)) (.inl rfl)
 refine By rfl (λh2=>?_) λh2=>?_
 . exact Rt rfl (.tup (.cons (.nil rfl) Xop)) (.inl rfl)
 have h2:¬((at'.map λn=>(D.int .u8 n.val:D)).length:Int)>24:=h2
 rw[W0i] at h2
 refine Nl 5 5 4 rfl ?_
 refine Lo (λ(s:Nat×List Vn)=>[(1,.ptr 1 0),(4,.d (dNs l)),(5,.gr 5 4 (s.2.map dV)),(6,.d (.int .i64 s.1))]) (λs=>[(1,.var (.d (dPl ops at'))),(5,.tok (s.2.map dV).length 4)]) (λs=>s.1<=24/\s.2.length<=s.1/\∀x∈s.2,x.x∈n00::l/\x.y∈n00::l) (λs=>24-s.1) (0,[]) [] rfl ⟨W0z _,W0a _,λx hx=>nomatch hx⟩ (λ(i,vs) ⟨hi,hv,hm⟩=>?_)
 simp only at hi hv hm
 refine Ar (i+1:Nat) rfl ?_
 refine By rfl (λh3=>?_) λh3=>?_
 . have h3:((i+1:Nat):Int)<((at'.map λn=>(D.int .u8 n.val:D)).length:Nat):=h3
   rw[W0i] at h3
   obtain⟨a,ha⟩:∃a,at'[i]?=some a:=⟨_,W0c (by omega)⟩
   obtain⟨b,hb⟩:∃b,at'[i+1]?=some b:=⟨_,W0c (by omega)⟩
   refine Dw rfl ?_
   refine Ix i rfl (mp (f:=λn:Fin 256=>(D.int .u8 n.val:D)) ha) ?_
   refine Go.Vm.Cv (a.val:Nat) rfl ?_ (wI (by omega))
   refine Ca rfl (R9.At_ok a.isLt (by omega)) λv hv=>?_
   obtain⟨x,hx,rfl⟩:=hv
   refine Ar (i+1:Nat) rfl ?_
   refine Ix (i+1) rfl (mp (f:=λn:Fin 256=>(D.int .u8 n.val:D)) hb) ?_
   refine Go.Vm.Cv (b.val:Nat) rfl ?_ (wI (by omega))
   refine Ca rfl (R9.At_ok b.isLt (by omega)) λv hv=>?_
   obtain⟨y,hy,rfl⟩:=hv
   refine ApG ((vs++[(⟨x,y⟩:Vn)]).map dV) rfl (by simp) (by simp;omega) ?_
   refine Ar (i+2:Nat) rfl ?_
   refine Bk (i+2,vs++[(⟨x,y⟩:Vn)]) [(47,5)] rfl ⟨by show i+2<=24;omega,by simp;omega,λz hz=>?_⟩ (by show 24-(i+2)<24-i;omega)
   rcases W1s.1 hz with hz | hz
   . exact hm z hz
   . obtain rfl:=W0h.1 hz
     exact⟨hx,hy⟩
 . exact Rt rfl (.tup (.cons (.gr rfl) Xop)) (.inr ⟨vs,rfl,by omega,hm⟩)
def SvF(l:List Nm)(n:Nat)(v:AV): Prop:=∃(L:List Vn) (c:Bool),v=.tup (.pr (.d (dVs L)) (.b c))/\L.length<=24/\(c=true->n<=L.length/\∀x∈L,x.x∈n00::l/\x.y∈n00::l)
theorem Xxk{ops:List RO}{at':List (Fin 256)}{l:List Nm}{n:Nat}(hb:C0 120 [.d (dRs ops)] (·=.d (dNs l)))(hl24:l.length<=24)(hk:∀z∈l,z.k<=16): C0 24 [.d (dPl ops at'),.d (.int .i64 n)] (SvF l n):=by
 refine En Tryz.func24 λ_ _ _=>?_
 refine Ca rfl (Yab hb hl24 hk) λv hv=>?_
 rcases hv with rfl | ⟨L,rfl,h1,h2⟩
 . refine No rfl (by decide) ?_
   exact Rt rfl (.tup (.cons (.rf rfl) Xop)) ⟨[],false,rfl,W0z _,λh=>nomatch h⟩
 . refine Yes rfl rfl ?_
   refine Rt rfl (.tup (.cons (.rf rfl) Xop)) ⟨L,_,rfl,h1,λh=>⟨?_,h2⟩⟩
   have h:(((L.map dV).length:Nat):Int)>=n:=Xah.1 h
   rw[W0i] at h
   omega
end
section
theorem Xyj{t:TypeId}(ht:Tryz.prog.underlying t=some (.slice 5)): Reads Tryz.prog t λd=>∃l:List (Fin 256),d=dAt l :=
 (Xfd ht (Xeu Tryz.underlying5) (sz:=1) (by kernel_rfl) (by decide)).mono λd ⟨l,e,_,h⟩=>by
  obtain⟨m,hm⟩:=Yl3 (f:=λn:Fin 256=>(D.int .u8 n.val:D)) λy hy=>let ⟨n,e,hn⟩:=h y hy;⟨⟨n,hn⟩,e⟩
  exact⟨m,by rw[e,hm]⟩
theorem Xru: Reads Tryz.prog 26 λd=>∃ops l,d=dPl ops l :=
 (Xed Tryz.underlying26 (.cons (n:=1) rfl (Xt4 Tryz.underlying23) (by kernel_rfl) (.one rfl (Xyj Tryz.underlying24))) (λf hf=>by cases hf;kernel_rfl)).mono λd hd=>by
  obtain⟨_,rfl,_,_,rfl,⟨ops,rfl⟩,⟨l,rfl⟩⟩:=hd
  exact⟨ops,l,rfl⟩
def i64(a:Int): Prop:=-9223372036854775808<=a/\a<9223372036854775808
end
section
def lo2(x y:Rat): Rat:=if y<x then y else x
def hi2(x y:Rat): Rat:=if x<y then y else x
def Xuy(x:Rat)(r:List Rat): Rat:=r.foldl lo2 x
def Xu4(x:Rat)(r:List Rat): Rat:=r.foldl hi2 x
theorem Ybt{s:Nat}{x y:Rat}(hx:Qs s x)(hy:Qs s y): Qs s (lo2 x y):=by unfold lo2;split<;>assumption
theorem Yb1{s:Nat}{x y:Rat}(hx:Qs s x)(hy:Qs s y): Qs s (hi2 x y):=by unfold hi2;split<;>assumption
theorem Xuw(x:Rat)(r:List Rat)(y:Rat): Xuy x (r++[y])=lo2 (Xuy x r) y:=by simp[Xuy]
theorem Xu2(x:Rat)(r:List Rat)(y:Rat): Xu4 x (r++[y])=hi2 (Xu4 x r) y:=by simp[Xu4]
theorem Xux{s:Nat}{x:Rat}{r:List Rat}(h:∀y∈x::r,Qs s y): Qs s (Xuy x r):=by
 induction r generalizing x with
 | nil=>exact h x (W0l ..)
 | cons y r ih=>exact ih (x:=lo2 x y) (λz hz=>by
  rcases W1j.1 hz with rfl | hz
  . exact Ybt (h x (W0l ..)) (h y (by simp))
  . exact h z (by simp[hz]))
theorem Xu3{s:Nat}{x:Rat}{r:List Rat}(h:∀y∈x::r,Qs s y): Qs s (Xu4 x r):=by
 induction r generalizing x with
 | nil=>exact h x (W0l ..)
 | cons y r ih=>exact ih (x:=hi2 x y) (λz hz=>by
  rcases W1j.1 hz with rfl | hz
  . exact Yb1 (h x (W0l ..)) (h y (by simp))
  . exact h z (by simp[hz]))
theorem Ye2{x y:Rat}: Xm3 x y<0↔x<y:=by
 unfold Xm3
 split
 . rename_i h;simp[h]
 . rename_i h
   split<;>simp[h]
theorem Xwy{x y:Rat}: Xm3 x y>0↔y<x:=by
 rw[Xm1,<-Ye2];omega
theorem Xt9{s:Nat}{x:Rat}{r:List Rat}(h:∀y∈x::r,Qs s y)(k:Nat): ∀y∈x::r.take k,Qs s y:=λy hy=>h y (by
 rcases W1j.1 hy with rfl | hy
 . exact W0l ..
 . exact W0p _ (W4e hy))
theorem Xwm(n:Int): Rat.divInt n 1=(n:Rat):=by
 rw[W5j]
 have:((1:Int):Rat)=1:=rfl
 grind
def pw(b:Nat): Rat:=((2^b:Int):Rat)
theorem Zs.two{b p:Nat}(h:b+1<=p): Zs p (2^b:Int):=by
 refine Zs.mono (p:=b+1) ?_ h
 unfold Zs
 rw[Int.natAbs_pow]
 exact W3s (by decide) (W7h b)
theorem Xfw(b:Nat): (2^b:Int)≠0:=by have:=Int.pow_pos (n:=2) (m:=b) (by decide);omega
theorem Xn3(b:Nat): Qs (b+1) (pw b):=⟨Zs.two (W0a _),Zs.one (by omega)⟩
theorem Zs.floor{s:Nat}{x:Rat}(h:Qs s x): Zs s x.floor:=by
 have hn:=h.n
 unfold Zs at *
 rw[Rat.floor_def]
 exact W1t (Int.natAbs_ediv_le_natAbs _ _) hn
def dnQ(x:Rat)(b:Nat): Rat:=Rat.divInt (x*pw b).floor (2^b)
def upQ(x:Rat)(b:Nat): Rat:=-dnQ (-x) b
theorem Xwj{s:Nat}{x:Rat}(h:Qs s x)(b:Nat): Qs (s+b+1) (dnQ x b) :=
 Qs.divInt (p:=s+b+1) ((Zs.floor (h.mul (Xn3 b))).mono (by omega)) (Zs.two (by omega)) (Xfw b)
theorem Ygc{s:Nat}{x:Rat}(h:Qs s x)(b:Nat): Qs (s+b+1) (upQ x b):=(Xwj h.neg b).neg
theorem Xlh{x y:Rat}: Xm3 x y<=0↔¬y<x:=by rw[<-Xwy];omega
theorem Yd3{a p:Nat}(h:a<2^p): (dig a).length<=p/32+1:=by
 refine Xas (W0v h ?_)
 rw[show (4294967296:Nat)=2^32 from rfl,<-W5w]
 exact W0m (by decide) (by omega)
def rtF(x:Rat): Nat:=rt x.floor.toNat
theorem Ylm(n:Nat): rt n<=n:=by
 have h:=(Xdc n).1
 by_cases h0:rt n=0
 . omega
 . have:=W0t (rt n) (show 1<=rt n by omega)
   omega
theorem Xel{x:Rat}(h:0<=x): x.floor=(x.floor.toNat:Int):=by
 have:(0:Int)<=x.floor:=Rat.le_floor_iff.2 h
 omega
theorem Ya7{s:Nat}{x:Rat}(h:Qs s x)(h0:0<=x): Zs s (rtF x:Int):=by
 have h1:=Zs.floor h
 rw[Xel h0] at h1
 have h2:=Ylm x.floor.toNat
 unfold Zs at *
 have h1:x.floor.toNat<2^s:=h1
 show rt x.floor.toNat<2^s
 omega
theorem Xa0(b:Nat): 0<pw b:=Rat.intCast_pos.2 (Int.pow_pos (by decide))
def sq2(x:Rat)(b:Nat): Rat:=x*(pw b*pw b)
def Xdq(x:Rat)(b:Nat): Rat:=Rat.divInt (rtF (sq2 x b):Int) (2^b)
open Classical in
noncomputable def Xth(x:Rat): Nat:=if ((rtF x*rtF x:Int):Rat)<x then rtF x+1 else rtF x
noncomputable def Xtk(x:Rat)(b:Nat): Rat:=Rat.divInt (Xth (sq2 x b):Int) (2^b)
theorem Yay{s b:Nat}{x:Rat}(h:Qs s x): Qs (s+(2*b+2)) (sq2 x b):=(h.mul ((Xn3 b).mul (Xn3 b))).mono (by omega)
theorem Xgz{x:Rat}{b:Nat}(h:0<=x): 0<=sq2 x b:=Rat.mul_nonneg h (Rat.mul_nonneg (W2q (Xa0 b)) (W2q (Xa0 b)))
theorem Xhm(x:Rat)(n:Nat): (x.num*2^n).fdiv x.den=(x*pw n).floor:=by
 have hd:(0:Int)<x.den:=Int.natCast_pos.2 (W2m x.den_nz)
 rw[W1r _ (by omega)]
 have key:∀z:Int,z<=(x.num*2^n)/x.den↔z<=(x*pw n).floor:=by
  intro z
  rw[Int.le_ediv_iff_mul_le hd,Rat.le_floor_iff]
  have e:x*pw n*(x.den:Rat)=((x.num*2^n:Int):Rat):=by
   have:=Xk1 x
   have h2:pw n=((2^n:Int):Rat):=rfl
   rw[W3t,<-h2,<-this]
   grind
  have hdr:(0:Rat)<(x.den:Rat):=by
   have:=Rat.intCast_pos.2 hd
   exact this
  rw[<-W3k,W3t,<-e]
  constructor
  . intro h
    exact W2a h hdr
  . intro h
    exact W2r h (W2q hdr)
 have h1:=(key _).1 (W7t _)
 have h2:=(key _).2 (W7t _)
 omega
theorem Yba(b:Nat): pw (2*b)=pw b*pw b:=by
 show ((2^(2*b):Int):Rat)=((2^b:Int):Rat)*((2^b:Int):Rat)
 rw[<-W3t,<-Int.pow_add]
 congr 2;omega
theorem Xx7{x:Rat}(b:Nat)(h0:0<=x): (x.num*2^(2*b)).fdiv x.den=((sq2 x b).floor.toNat:Int):=by
 rw[Xhm,Yba]
 exact Xel (Xgz h0)
theorem Xkn{s:Nat}{x:Rat}(h:Qs s x)(h0:0<=x)(b:Nat): Qs (s+(2*b+2)) (Xdq x b) :=
 Qs.divInt (Ya7 (Yay h) (Xgz h0)) (Zs.two (by omega)) (Xfw b)
def mx0(x:Rat): Rat:=if x<0 then 0 else x
theorem Xg4(x:Rat): 0<=mx0 x:=by unfold mx0;split<;>grind
theorem Ybq{s:Nat}{x:Rat}(h:Qs s x)(hs:1<=s): Qs s (mx0 x):=by
 unfold mx0
 split
 . exact qs0.mono hs
 . exact h
theorem Yjg{x:Rat}: Xba x.num 0<0↔x<0:=by
 rw[Xhg]
 rcases Xbb x with ⟨h,e⟩ | ⟨h,e⟩ | ⟨h,e⟩<;>rw[e]
 . exact⟨λh=>absurd h (by decide),λh'=>absurd h' (by grind)⟩
 . exact⟨λh=>absurd h (by decide),λh'=>absurd h' (by grind)⟩
 . exact⟨λ_=>h,λ_=>by decide⟩
def rnd(p:Rat×Rat)(b:Nat): Rat×Rat:=(dnQ p.1 b,upQ p.2 b)
def rts(p:Rat×Rat)(b:Nat): Rat×Rat:=(Xdq (mx0 p.1) b,Xdq p.2 b+Rat.divInt 1 (2^b))
def Xbu(p q:Rat×Rat): Rat×Rat:=(Xuy (p.1*q.1) [p.1*q.2,p.2*q.1,p.2*q.2],Xu4 (p.1*q.1) [p.1*q.2,p.2*q.1,p.2*q.2])
def Xhb(p q:Rat×Rat): Rat×Rat:=(p.1+q.1,p.2+q.2)
def enc: (k:Nat)->Tw k->El k->Nat->Rat×Rat
 | 0=>λ_ (x:Rat) _=>(x,x)
 | k+1=>λt a b=>if (∀x∈toL k a.2,x=0) then enc k t.1 a.1 b else rnd (Xhb (enc k t.1 a.1 b) (Xbu (enc k t.1 a.2 b) (rts (enc k t.1 t.2 b) b))) b
theorem Ycb(x:Rat)(b:Nat): dnQ x b*pw b=((x*pw b).floor:Rat):=by
 unfold dnQ
 rw[W5j]
 have h:=Xa0 b
 show ((x*pw b).floor:Rat)/pw b*pw b=_
 rw[W5e (by grind)]
theorem Xq3(x:Rat)(b:Nat): dnQ x b<=x:=by
 refine W2a ?_ (Xa0 b)
 rw[Ycb]
 exact Rat.floor_le _
theorem Xwk(x:Rat)(b:Nat): x*pw b<dnQ x b*pw b+1:=by
 rw[Ycb]
 have:=@Rat.lt_floor (x*pw b)
 grind
theorem Xsx(x:Rat)(b:Nat): x<=upQ x b:=by
 have:=Xq3 (-x) b
 unfold upQ;grind
theorem Yas(x:Rat)(b:Nat): upQ x b*pw b<x*pw b+1:=by
 have:=Xwk (-x) b
 unfold upQ;grind
theorem Xu6{x y:Rat}: lo2 x y<=x/\lo2 x y<=y:=by unfold lo2;split<;>grind
theorem Xvx{x y:Rat}: x<=hi2 x y/\y<=hi2 x y:=by unfold hi2;split<;>grind
theorem Xu5{x y:Rat}: lo2 x y=x\/lo2 x y=y:=by unfold lo2;split<;>simp
theorem Xvw{x y:Rat}: hi2 x y=x\/hi2 x y=y:=by unfold hi2;split<;>simp
theorem Xif(p q:Rat×Rat): (Xbu p q).1<=p.1*q.1/\(Xbu p q).1<=p.1*q.2/\(Xbu p q).1<=p.2*q.1/\(Xbu p q).1<=p.2*q.2:=by
 show lo2 (lo2 (lo2 (p.1*q.1) (p.1*q.2)) (p.2*q.1)) (p.2*q.2)<=_/\lo2 (lo2 (lo2 (p.1*q.1) (p.1*q.2)) (p.2*q.1)) (p.2*q.2)<=_/\lo2 (lo2 (lo2 (p.1*q.1) (p.1*q.2)) (p.2*q.1)) (p.2*q.2)<=_/\lo2 (lo2 (lo2 (p.1*q.1) (p.1*q.2)) (p.2*q.1)) (p.2*q.2)<=_
 have h1:=@Xu6 (p.1*q.1) (p.1*q.2)
 have h2:=@Xu6 (lo2 (p.1*q.1) (p.1*q.2)) (p.2*q.1)
 have h3:=@Xu6 (lo2 (lo2 (p.1*q.1) (p.1*q.2)) (p.2*q.1)) (p.2*q.2)
 refine⟨?_,?_,?_,h3.2⟩<;>grind
theorem Xig(p q:Rat×Rat): p.1*q.1<=(Xbu p q).2/\p.1*q.2<=(Xbu p q).2/\p.2*q.1<=(Xbu p q).2/\p.2*q.2<=(Xbu p q).2:=by
 show _<=hi2 (hi2 (hi2 (p.1*q.1) (p.1*q.2)) (p.2*q.1)) (p.2*q.2)/\_<=hi2 (hi2 (hi2 (p.1*q.1) (p.1*q.2)) (p.2*q.1)) (p.2*q.2)/\_<=hi2 (hi2 (hi2 (p.1*q.1) (p.1*q.2)) (p.2*q.1)) (p.2*q.2)/\_<=hi2 (hi2 (hi2 (p.1*q.1) (p.1*q.2)) (p.2*q.1)) (p.2*q.2)
 have h1:=@Xvx (p.1*q.1) (p.1*q.2)
 have h2:=@Xvx (hi2 (p.1*q.1) (p.1*q.2)) (p.2*q.1)
 have h3:=@Xvx (hi2 (hi2 (p.1*q.1) (p.1*q.2)) (p.2*q.1)) (p.2*q.2)
 refine⟨?_,?_,?_,h3.2⟩<;>grind
theorem Xe8(x:Rat)(b:Nat): Xdq x b*pw b=((rtF (sq2 x b):Int):Rat):=by
 unfold Xdq
 rw[W5j]
 have h:=Xa0 b
 show ((rtF (sq2 x b):Int):Rat)/pw b*pw b=_
 rw[W5e (by grind)]
theorem Xdu(b:Nat): Rat.divInt 1 (2^b)*pw b=1:=by
 rw[W5j]
 have h:=Xa0 b
 show ((1:Int):Rat)/pw b*pw b=_
 rw[W5e (by grind)];rfl
theorem Xda(x:Rat)(b:Nat): 0<=Xdq x b:=by
 refine W2a ?_ (Xa0 b)
 rw[Xe8,W4q]
 exact Rat.intCast_nonneg.2 (by omega)
theorem Ya8{x:Rat}(h:0<=x): (((rtF x:Int)):Rat)*((rtF x:Int):Rat)<=x:=by
 have h1:=(Xdc x.floor.toNat).1
 have h2:=Xel h
 have h3:=@Rat.floor_le x
 have h4:((rtF x*rtF x:Int):Rat)<=(x.floor:Rat):=by
  rw[W3k,h2]
  unfold rtF
  exact_mod_cast h1
 rw[W3t] at h4
 exact W5p h4 h3
theorem Xtx{x:Rat}(h:0<=x): x<(((rtF x:Int))+1:Rat)*(((rtF x:Int))+1:Rat):=by
 have h1:=(Xdc x.floor.toNat).2
 have h2:=Xel h
 have h3:=@Rat.lt_floor x
 have h4:((x.floor+1:Int):Rat)<=(((rtF x+1:Int)*(rtF x+1:Int):Int):Rat):=by
  rw[W3k,h2]
  unfold rtF
  have h1:x.floor.toNat+1<=(rt x.floor.toNat+1)*(rt x.floor.toNat+1):=h1
  exact_mod_cast h1
 rw[W3t,W6d,W6d] at h4
 have h5:((1:Int):Rat)=1:=rfl
 rw[h5] at h4
 grind
theorem Xhy{x:Rat}{b:Nat}(h:0<=x): Xdq x b*Xdq x b<=x:=by
 have hp:=Xa0 b
 have hpp:=W4s hp hp
 refine W2a ?_ hpp
 have h1:=Ya8 (Xgz (b:=b) h)
 rw[<-Xe8] at h1
 unfold sq2 at h1
 grind
theorem Xtj{x:Rat}{b:Nat}(h:0<=x): x<=(Xdq x b+Rat.divInt 1 (2^b))*(Xdq x b+Rat.divInt 1 (2^b)):=by
 have hp:=Xa0 b
 have hpp:=W4s hp hp
 refine W2a ?_ hpp
 have h1:=Xtx (Xgz (b:=b) h)
 have h2:=Xdu b
 rw[<-Xe8] at h1
 have h3:sq2 x b=x*(pw b*pw b):=rfl
 have h4:(Xdq x b+Rat.divInt 1 (2^b))*(Xdq x b+Rat.divInt 1 (2^b))*(pw b*pw b)=(Xdq x b*pw b+1)*(Xdq x b*pw b+1):=by
  rw[<-h2];grind
 rw[h4,<-h3]
 exact W2q h1
theorem Xg5: ∀ {k:Nat} {t:Tw k} (h:Xb4 k t) (a:El k) (b:Nat),inI k t a (enc k t a b).1 (enc k t a b).2
 | 0,t,h,a,b=>⟨(Xau h).le_rf (Xaz 0 t) a,(Xau h).le_rf (Xaz 0 t) a⟩
 | k+1,t,h,a,b=>by
  have iu:=Xml (t:=t) h.1 (Xg5 h.1 a.1 b)
  have hs:=Xq2 (t:=t) a
  by_cases hz:∀x∈toL k a.2,x=0
  . have he:enc (k+1) t a b=enc k t.1 a.1 b:=if_pos hz
    rw[he]
    have ha:a=up k a.1:=W3j rfl ((Xam k a.2).2 hz)
    rw[ha]
    exact iu
  . have he:enc (k+1) t a b=rnd (Xhb (enc k t.1 a.1 b) (Xbu (enc k t.1 a.2 b) (rts (enc k t.1 t.2 b) b))) b:=if_neg hz
    have iv:=Xml (t:=t) h.1 (Xg5 h.1 a.2 b)
    have ir:=Xg5 h.1 t.2 b
    have hr2:0<=(enc k t.1 t.2 b).2:=by
     have h0:le k t.1 (rat k 0) t.2:=(Xib h.1).2 (by rw[h.2];decide)
     exact(Xbk h.1).1 (le_tr h.1 h0 ir.2)
    have hu:0<=Rat.divInt 1 (2^b):=W2a (by rw[Xdu,W4q];decide) (Xa0 b)
    have is:=Xvn h ir (c:=Xdq (mx0 (enc k t.1 t.2 b).1) b) (d:=Xdq (enc k t.1 t.2 b).2 b+Rat.divInt 1 (2^b)) (Xda _ _) (by have:=Xda (enc k t.1 t.2 b).2 b;grind)
     (by
      have h1:=Xhy (b:=b) (Xg4 (enc k t.1 t.2 b).1)
      by_cases h0:(enc k t.1 t.2 b).1<0
      . right
        have e:mx0 (enc k t.1 t.2 b).1=0:=if_pos h0
        rw[e] at h1 |-
        have h2:=Xda 0 b
        by_cases h3:Xdq 0 b=0
        . exact h3
        . have:=W4s (show 0<Xdq 0 b by grind) (show 0<Xdq 0 b by grind)
          grind
      . left
        have e:mx0 (enc k t.1 t.2 b).1=(enc k t.1 t.2 b).1:=if_neg h0
        rw[e] at h1 |-
        exact h1) (Xtj hr2)
    have im:=Xvo h iv is (Xda _ _) (Xif (enc k t.1 a.2 b) (rts (enc k t.1 t.2 b) b)).1 (Xif (enc k t.1 a.2 b) (rts (enc k t.1 t.2 b) b)).2.1 (Xig (enc k t.1 a.2 b) (rts (enc k t.1 t.2 b) b)).2.2.1 (Xig (enc k t.1 a.2 b) (rts (enc k t.1 t.2 b) b)).2.2.2
    have ia:=Xvp h iu im
    rw[<-hs] at ia
    rw[he]
    exact Xqs h ia (Xq3 _ _) (Xsx _ _)
def eB(s b:Nat): Nat->Nat
 | 0=>s
 | k+1=>3*eB s b k+4*b+6
theorem Xzn(s b:Nat): ∀k,s<=eB s b k
 | 0=>W0a _
 | k+1=>by have:=Xzn s b k;show s<=3*eB s b k+4*b+6;omega
theorem Yb8{k:Nat}{t:Tw (k+1)}(h:Xb4 (k+1) t)(b:Nat): 0<=(enc k t.1 t.2 b).2:=by
 have h0:le k t.1 (rat k 0) t.2:=(Xib h.1).2 (by rw[h.2];decide)
 exact(Xbk h.1).1 (le_tr h.1 h0 (Xg5 h.1 t.2 b).2)
def Q2(s:Nat)(p:Rat×Rat): Prop:=Qs s p.1/\Qs s p.2
theorem Xhs(b:Nat): Qs (b+1) (Rat.divInt 1 (2^b)):=Qs.divInt (Zs.one (by omega)) (Zs.two (W0a _)) (Xfw b)
theorem Ya5{s b:Nat}{p:Rat×Rat}(h:Q2 s p)(h0:0<=p.2)(hs:1<=s): Q2 (s+3*b+4) (rts p b) :=
 ⟨(Xkn (Ybq h.1 hs) (Xg4 _) b).mono (by omega),((Xkn h.2 h0 b).add (Xhs b)).mono (by omega)⟩
theorem Xcb{s s':Nat}{p q:Rat×Rat}(h:Q2 s p)(h':Q2 s' q): Q2 (s+s') (Xbu p q):=by
 have key:∀y∈p.1*q.1::[p.1*q.2,p.2*q.1,p.2*q.2],Qs (s+s') y:=by
  intro y hy
  simp at hy
  rcases hy with rfl | rfl | rfl | rfl
  . exact h.1.mul h'.1
  . exact h.1.mul h'.2
  . exact h.2.mul h'.1
  . exact h.2.mul h'.2
 exact⟨Xux key,Xu3 key⟩
theorem Xln{s s':Nat}{p q:Rat×Rat}(h:Q2 s p)(h':Q2 s' q): Q2 (s+s'+1) (Xhb p q):=⟨h.1.add h'.1,h.2.add h'.2⟩
theorem Yg8{s:Nat}{p:Rat×Rat}(h:Q2 s p)(b:Nat): Q2 (s+b+1) (rnd p b):=⟨Xwj h.1 b,Ygc h.2 b⟩
theorem Q2.mono{s s':Nat}{p:Rat×Rat}(h:Q2 s p)(hs:s<=s'): Q2 s' p:=⟨h.1.mono hs,h.2.mono hs⟩
theorem Xiu: ∀ {k:Nat} {t:Tw k} {a:El k} {s b:Nat},Xb4 k t->TS s k t->Sz s (toL k a)->1<=s->Q2 (eB s b k) (enc k t a b)
 | 0,t,a,s,b,h,hT,ha,hs=>⟨ha.qs (W0h.2 rfl),ha.qs (W0h.2 rfl)⟩
 | k+1,t,a,s,b,h,hT,ha,hs=>by
  have hu:=Xiu (b:=b) h.1 hT.1 (Sz.left (l:=toL k a.1) (m:=toL k a.2) ha) hs
  have hv:=Xiu (b:=b) h.1 hT.1 (Sz.right (l:=toL k a.1) (m:=toL k a.2) ha) hs
  have hr:=Xiu (b:=b) h.1 hT.1 hT.2 hs
  have hge:=Xzn s b k
  show Q2 (3*eB s b k+4*b+6) (if (∀x∈toL k a.2,x=0) then enc k t.1 a.1 b else rnd (Xhb (enc k t.1 a.1 b) (Xbu (enc k t.1 a.2 b) (rts (enc k t.1 t.2 b) b))) b)
  split
  . exact hu.mono (by omega)
  . exact(Yg8 (Xln hu (Xcb hv (Ya5 hr (Yb8 h b) (by omega)))) b).mono (by omega)
theorem Xmb(a b:Nat): pw (a+b)=pw a*pw b:=by
 show ((2^(a+b):Int):Rat)=((2^a:Int):Rat)*((2^b:Int):Rat)
 rw[<-W3t,<-Int.pow_add]
theorem Xcx(n:Nat): pw (n+1)=2*pw n:=by rw[Xmb,show pw 1=2 from rfl];grind
theorem Xg1(n:Nat): 1<=pw n:=by
 induction n with
 | zero=>exact W6r
 | succ n ih=>rw[Xcx];grind
theorem Xh7{a b:Nat}(h:a<=b): pw a<=pw b:=by
 obtain⟨c,rfl⟩:=Nat.le.dest h
 rw[Xmb]
 have h1:=W2z (Xg1 c) (W2q (Xa0 a))
 grind
theorem Xjp{x y:Rat}(h:0<=x)(k:0<=y): 0<=x*y:=Rat.mul_nonneg h k
theorem Ybr{a b c d:Rat}(h:a<=b)(k:c<=d)(hc:0<=c)(hb:0<=b): a*c<=b*d:=by
 have h1:=W2r h hc
 have h2:=W2z k hb
 grind
theorem Xk2{x y X Y:Rat}(h1:-X<=x)(h2:x<=X)(h3:-Y<=y)(h4:y<=Y): x*y<=X*Y:=by
 have a:=Xjp (show 0<=X-x by grind) (show 0<=Y+y by grind)
 have b:=Xjp (show 0<=X+x by grind) (show 0<=Y-y by grind)
 grind
theorem Xqp{x y:Rat}(hy:0<=y)(h:x*x<=y*y): x<=y:=by
 by_cases hxy:x<=y
 . exact hxy
 . have h1:y<x:=by grind
   have a:=W4s (show 0<x-y by grind) (show 0<x by grind)
   have b:=Xjp hy (show 0<=x-y by grind)
   grind
def Wid(p:Rat×Rat)(e:Nat): Prop:=p.1<=p.2/\(p.2-p.1)*pw e<=1
def Mg(p:Rat×Rat)(m:Nat): Prop:=-pw m<=p.1/\p.2<=pw m
theorem Wid.mono{p:Rat×Rat}{e f:Nat}(h:Wid p e)(hf:f<=e): Wid p f:=by
 refine⟨h.1,?_⟩
 have:=W2z (Xh7 hf) (show 0<=p.2-p.1 by have:=h.1;grind)
 have:=h.2
 grind
theorem Mg.mono{p:Rat×Rat}{m n:Nat}(h:Mg p m)(hn:m<=n): Mg p n:=by
 have:=Xh7 hn
 have h1:=h.1
 have h2:=h.2
 exact⟨by grind,by grind⟩
structure RtOf (r:Rat×Rat) (b:Nat) (s:Rat×Rat):Prop where
 lo:s.1=Xdq (mx0 r.1) b
 l:Xdq r.2 b<=s.2
 h:s.2<=Xdq r.2 b+Rat.divInt 1 (2^b)
theorem Xdt(b:Nat): 0<Rat.divInt 1 (2^b):=by
 by_cases h:0<Rat.divInt 1 (2^b)
 . exact h
 . have h1:=W2r (show Rat.divInt 1 (2^b)<=0 by grind) (W2q (Xa0 b))
   rw[Xdu] at h1
   exact absurd h1 (by grind)
theorem Xsy{b f:Nat}(h:f+1<=b): 2*(Rat.divInt 1 (2^b)*pw f)<=1:=by
 have h1:=W2z (Xh7 h) (W2q (Xdt b))
 rw[Xdu,Xcx] at h1
 grind
theorem Xkd(b:Nat): Rat.divInt 1 (2^b)<=1:=by
 have h1:=W2z (Xg1 b) (W2q (Xdt b))
 rw[Xdu] at h1
 grind
theorem Yhu(x:Rat): x<=mx0 x:=by unfold mx0;split<;>grind
theorem Xhz{x y:Rat}{b:Nat}(hx:0<=x)(h:x<=y): Xdq x b<=Xdq y b:=by
 have hp:=Xa0 b
 refine W2a ?_ hp
 rw[Xe8,Xe8,W3k]
 have h1:sq2 x b<=sq2 y b:=W2r h (W2q (W4s hp hp))
 have h2:=Ya8 (Xgz (b:=b) hx)
 have h3:=Xtx (x:=sq2 y b) (W5p (Xgz (b:=b) hx) h1)
 by_cases h4:(rtF (sq2 x b):Int)<=rtF (sq2 y b)
 . exact h4
 . have h5:(rtF (sq2 y b):Int)+1<=rtF (sq2 x b):=by omega
   have h6:=W3k.2 h5
   rw[W6d,show ((1:Int):Rat)=1 from rfl] at h6
   have h7:(0:Rat)<=((rtF (sq2 y b):Int):Rat):=Rat.intCast_nonneg.2 (by omega)
   have h8:=Ybr h6 h6 (by grind) (by grind)
   grind
theorem RtOf.wd{r s:Rat×Rat}{b e f:Nat}(R:RtOf r b s)(hr:Wid r e)(h0:0<=r.2)(hf:2*f<=e)(hb:f+1<=b): s.1<=s.2/\(s.2-s.1)*pw f<=2:=by
 obtain⟨r1,r2⟩:=r
 obtain⟨c,d⟩:=s
 obtain⟨h1,h2,h3⟩:=R
 dsimp only at *
 have hA:=Xhy (b:=b) h0
 have hB:=Xtj (b:=b) (Xg4 r1)
 have hB0:=Xda (mx0 r1) b
 have hm:=Yhu r1
 have hu:=Xdt b
 have hul:=Xsy hb
 rw[<-h1] at hB hB0
 have hw:=(hr.mono hf).2
 have hpf:=Xa0 f
 rw[show 2*f=f+f by omega,Xmb] at hw
 dsimp only at hw
 generalize Rat.divInt 1 (2^b)=ε at *
 generalize hAe:Xdq r2 b=A at *
 have key:(A-(c+ε))*pw f<=1:=by
  by_cases hk:(A-(c+ε))*pw f<=1
  . exact hk
  . have hk:1<(A-(c+ε))*pw f:=by grind
    have hD:0<A-(c+ε):=by
     by_cases hD:0<A-(c+ε)
     . exact hD
     . have:=W2r (show A-(c+ε)<=0 by grind) (W2q hpf)
       grind
    have e1:=Xjp (W2q hD) (show 0<=2*(c+ε) by grind)
    have e2:(A-(c+ε))*(A-(c+ε))<=r2-r1:=by grind
    have e3:=W2r e2 (W2q (W4s hpf hpf))
    have e4:=Ybr (W2q hk) (W2q hk) (by decide) (by grind)
    have e5:=W4s (show 0<(A-(c+ε))*pw f-1 by grind) (show 0<(A-(c+ε))*pw f by grind)
    grind
 refine⟨?_,?_⟩
 . have hmono:mx0 r1<=r2:=by
    have:=hr.1
    unfold mx0
    dsimp only at this
    split
    . exact h0
    . exact this
   have:=Xhz (b:=b) (Xg4 r1) hmono
   rw[hAe,<-h1] at this
   grind
 . have:=W2r (show d-c<=(A-(c+ε))+2*ε by grind) (W2q hpf)
   grind
theorem RtOf.mg{r s:Rat×Rat}{b m:Nat}(R:RtOf r b s)(hr:Mg r m)(h0:0<=r.2): 0<=s.1/\s.2<=pw (m+1):=by
 have h1:=Xhy (b:=b) h0
 have h2:=Xda (mx0 r.1) b
 rw[<-R.lo] at h2
 refine⟨h2,?_⟩
 have h3:Xdq r.2 b<=pw m:=by
  refine Xqp (W2q (Xa0 m)) (W5p h1 (W5p hr.2 ?_))
  have:=W2z (Xg1 m) (W2q (Xa0 m))
  grind
 have h4:=R.h
 have h5:=Xkd b
 have h6:=Xg1 m
 rw[Xcx]
 grind
theorem Xut(p q:Rat×Rat): (∃v s,(v=p.1\/v=p.2)/\(s=q.1\/s=q.2)/\(Xbu p q).1=v*s)/\∃v s,(v=p.1\/v=p.2)/\(s=q.1\/s=q.2)/\(Xbu p q).2=v*s:=by
 constructor
 . show ∃v s,(v=p.1\/v=p.2)/\(s=q.1\/s=q.2)/\lo2 (lo2 (lo2 (p.1*q.1) (p.1*q.2)) (p.2*q.1)) (p.2*q.2)=v*s
   rcases @Xu5 (lo2 (lo2 (p.1*q.1) (p.1*q.2)) (p.2*q.1)) (p.2*q.2) with h | h<;>rw[h]
   . rcases @Xu5 (lo2 (p.1*q.1) (p.1*q.2)) (p.2*q.1) with h | h<;>rw[h]
     . rcases @Xu5 (p.1*q.1) (p.1*q.2) with h | h<;>rw[h]
       . exact⟨_,_,.inl rfl,.inl rfl,rfl⟩
       . exact⟨_,_,.inl rfl,.inr rfl,rfl⟩
     . exact⟨_,_,.inr rfl,.inl rfl,rfl⟩
   . exact⟨_,_,.inr rfl,.inr rfl,rfl⟩
 . show ∃v s,(v=p.1\/v=p.2)/\(s=q.1\/s=q.2)/\hi2 (hi2 (hi2 (p.1*q.1) (p.1*q.2)) (p.2*q.1)) (p.2*q.2)=v*s
   rcases @Xvw (hi2 (hi2 (p.1*q.1) (p.1*q.2)) (p.2*q.1)) (p.2*q.2) with h | h<;>rw[h]
   . rcases @Xvw (hi2 (p.1*q.1) (p.1*q.2)) (p.2*q.1) with h | h<;>rw[h]
     . rcases @Xvw (p.1*q.1) (p.1*q.2) with h | h<;>rw[h]
       . exact⟨_,_,.inl rfl,.inl rfl,rfl⟩
       . exact⟨_,_,.inl rfl,.inr rfl,rfl⟩
     . exact⟨_,_,.inr rfl,.inl rfl,rfl⟩
   . exact⟨_,_,.inr rfl,.inr rfl,rfl⟩
theorem Xpl{u v r s:Rat×Rat}{b b' e f m:Nat}(hu:Wid u f)(hv:Wid v f)(hr:Wid r e)(hf:2*f<=e)(mv:Mg v m)(ms:0<=s.1/\s.2<=pw (m+1))(h0:0<=r.2)(R:RtOf r b s)(hb:f+1<=b)(hb':b<=b')(he:m+3<=f):
 Wid (rnd (Xhb u (Xbu v s)) b') (f-(m+3)):=by
 have hs:=R.wd hr h0 (f:=f) hf hb
 have wu:=hu.2
 have wv:=hv.2
 have hu1:=hu.1
 have hv1:=hv.1
 have hs1:=hs.1
 have hs2:=hs.2
 have hpf:=Xa0 f
 have hpm:=Xa0 m
 obtain⟨⟨v1,s1,hv1',hs1',e1⟩,v2,s2,hv2',hs2',e2⟩:=Xut v s
 have hle:=(Xif v s).1
 have hge:=(Xig v s).1
 have hP:(Xbu v s).2-(Xbu v s).1<=pw m*(s.2-s.1)+pw (m+1)*(v.2-v.1):=by
  rw[e1,e2]
  have a1:-pw m<=v2/\v2<=pw m:=by
   have:=mv.1;have:=mv.2
   rcases hv2' with rfl | rfl<;>exact⟨by grind,by grind⟩
  have a2:-(s.2-s.1)<=s2-s1/\s2-s1<=s.2-s.1:=by
   rcases hs1' with rfl | rfl<;>rcases hs2' with rfl | rfl<;>exact⟨by grind,by grind⟩
  have a3:-pw (m+1)<=s1/\s1<=pw (m+1):=by
   have:=ms.1;have:=ms.2;have:=Xa0 (m+1)
   rcases hs1' with rfl | rfl<;>exact⟨by grind,by grind⟩
  have a4:-(v.2-v.1)<=v2-v1/\v2-v1<=v.2-v.1:=by
   rcases hv1' with rfl | rfl<;>rcases hv2' with rfl | rfl<;>exact⟨by grind,by grind⟩
  have b1:=Xk2 a1.1 a1.2 a2.1 a2.2
  have b2:=Xk2 a3.1 a3.2 a4.1 a4.2
  grind
 have hPf:((Xbu v s).2-(Xbu v s).1)*pw f<=pw (m+2):=by
  have c1:=W2r hP (W2q hpf)
  have c2:=W2z hs2 (W2q hpm)
  have c3:=W2z wv (W2q (Xa0 (m+1)))
  rw[Xcx,Xcx] at *
  grind
 have d1:=Xwk (u.1+(Xbu v s).1) b'
 have d2:=Yas (u.2+(Xbu v s).2) b'
 have d3:=Xq3 (u.1+(Xbu v s).1) b'
 have d4:=Xsx (u.2+(Xbu v s).2) b'
 have hε:=Xsy (b:=b') (f:=f) (by omega)
 have hεp:=Xdt b'
 have hεe:=Xdu b'
 have d5:u.1+(Xbu v s).1-Rat.divInt 1 (2^b')<=dnQ (u.1+(Xbu v s).1) b':=by
  refine W2a ?_ (Xa0 b')
  grind
 have d6:upQ (u.2+(Xbu v s).2) b'<=u.2+(Xbu v s).2+Rat.divInt 1 (2^b'):=by
  refine W2a ?_ (Xa0 b')
  grind
 refine⟨?_,?_⟩
 . show dnQ (u.1+(Xbu v s).1) b'<=upQ (u.2+(Xbu v s).2) b'
   grind
 . show (upQ (u.2+(Xbu v s).2) b'-dnQ (u.1+(Xbu v s).1) b')*pw (f-(m+3))<=1
   refine W2a ?_ (Xa0 (m+3))
   rw[Rat.mul_assoc,<-Xmb,show f-(m+3)+(m+3)=f by omega,Rat.one_mul]
   have g1:=W2r (show upQ (u.2+(Xbu v s).2) b'-dnQ (u.1+(Xbu v s).1) b'<=(u.2-u.1)+((Xbu v s).2-(Xbu v s).1)+2*Rat.divInt 1 (2^b') by grind) (W2q hpf)
   have g2:=Xg1 (m+1)
   rw[Xcx (m+1)] at hPf
   rw[Xcx (m+2),Xcx (m+1)]
   grind
theorem Ycx{u v r s:Rat×Rat}{b b' e m:Nat}(hu:Wid u e)(hv:Wid v e)(hr:Wid r e)(mv:Mg v m)(mr:Mg r m)(h0:0<=r.2)(R:RtOf r b s)(hb:e/2+1<=b)(hb':b<=b')(he:m+3<=e/2):
 Wid (rnd (Xhb u (Xbu v s)) b') (e/2-(m+3)):=Xpl (hu.mono (by omega)) (hv.mono (by omega)) hr (by omega) mv (R.mg mr h0) h0 R hb hb' he
theorem Xpm{u v s:Rat×Rat}{b' m j:Nat}(mu:Mg u m)(mv:Mg v m)(ms:0<=s.1/\s.2<=pw (j+1))(hs1:s.1<=s.2)(hv1:v.1<=v.2): Mg (rnd (Xhb u (Xbu v s)) b') (m+j+2):=by
 obtain⟨⟨v1,s1,hv1',hs1',e1⟩,v2,s2,hv2',hs2',e2⟩:=Xut v s
 have key:∀x y,(x=v.1\/x=v.2)->(y=s.1\/y=s.2)->-(pw m*pw (j+1))<=x*y/\x*y<=pw m*pw (j+1):=by
  intro x y hx hy
  have a1:-pw m<=x/\x<=pw m:=by
   have:=mv.1;have:=mv.2
   rcases hx with rfl | rfl<;>exact⟨by grind,by grind⟩
  have a3:-pw (j+1)<=y/\y<=pw (j+1):=by
   have:=ms.1;have:=ms.2;have:=Xa0 (j+1)
   rcases hy with rfl | rfl<;>exact⟨by grind,by grind⟩
  have b1:=Xk2 a1.1 a1.2 a3.1 a3.2
  have b2:=Xk2 (x:=-x) (show -pw m<=-x by grind) (show -x<=pw m by grind) a3.1 a3.2
  exact⟨by grind,b1⟩
 have k1:=(key _ _ hv1' hs1').1
 have k2:=(key _ _ hv2' hs2').2
 rw[<-e1] at k1
 rw[<-e2] at k2
 have hεe:=Xdu b'
 have hε1:=Xkd b'
 have d1:=Xwk (u.1+(Xbu v s).1) b'
 have d2:=Yas (u.2+(Xbu v s).2) b'
 have d5:u.1+(Xbu v s).1-Rat.divInt 1 (2^b')<=dnQ (u.1+(Xbu v s).1) b':=by
  refine W2a ?_ (Xa0 b')
  grind
 have d6:upQ (u.2+(Xbu v s).2) b'<=u.2+(Xbu v s).2+Rat.divInt 1 (2^b'):=by
  refine W2a ?_ (Xa0 b')
  grind
 have e3:pw (m+j+2)=2*(pw m*pw (j+1)):=by rw[<-Xmb,<-Xcx];congr 1
 have e4:pw m+1<=pw m*pw (j+1):=by
  have h1:=Xg1 m
  have h3:=Xg1 j
  have h2:=W2z (show 2<=pw (j+1) by rw[Xcx];grind) (W2q (Xa0 m))
  grind
 have m1:=mu.1
 have m2:=mu.2
 refine⟨?_,?_⟩
 . show -pw (m+j+2)<=dnQ (u.1+(Xbu v s).1) b'
   rw[e3];grind
 . show upQ (u.2+(Xbu v s).2) b'<=pw (m+j+2)
   rw[e3];grind
theorem Ycz{u v r s:Rat×Rat}{b b' m:Nat}(mu:Mg u m)(mv:Mg v m)(mr:Mg r m)(h0:0<=r.2)(hs1:s.1<=s.2)(hv1:v.1<=v.2)(R:RtOf r b s): Mg (rnd (Xhb u (Xbu v s)) b') (2*m+2):=by
 rw[show 2*m+2=m+m+2 by omega];exact Xpm mu mv (R.mg mr h0) hs1 hv1
def mW(m:Nat): Nat->Nat
 | 0=>m
 | k+1=>2*mW m k+2
def eW(m b:Nat): Nat->Nat
 | 0=>2*b-2
 | k+1=>eW m b k/2-(mW m k+3)
theorem Yi6(m b:Nat): ∀k,eW m b k<=2*b-2
 | 0=>W0a _
 | k+1=>by have:=Yi6 m b k;show eW m b k/2-(mW m k+3)<=_;omega
theorem Yhz{m:Nat}{x:Rat}(h:Qs m x): Mg (x,x) m:=by
 have h1:=h.n
 unfold Zs at h1
 have e:=Xk1 x
 have hd:(1:Rat)<=(x.den:Rat):=by
  have:((1:Int):Rat)<=((x.den:Int):Rat):=W3k.2 (by have:=x.den_pos;omega)
  exact this
 have h2:((x.num:Int):Rat) <= pw m := W3k.2 (by have:(x.num.natAbs:Int) < ((2^m:Nat):Int) := by exact_mod_cast h1
                                                have e2:((2^m:Nat):Int)=2^m:=by simp
                                                omega)
 have h3:-pw m<=((x.num:Int):Rat):=by
  have h4:((-(2^m):Int):Rat) <= ((x.num:Int):Rat) := W3k.2 (by have:(x.num.natAbs:Int) < ((2^m:Nat):Int) := by exact_mod_cast h1
                                                               have e2:((2^m:Nat):Int)=2^m:=by simp
                                                               omega)
  rwa[W7n] at h4
 have hp:=Xa0 m
 refine⟨?_,?_⟩
 . show -pw m<=x
   by_cases h0:0<=x
   . grind
   . have:=Xjp (show 0<=-x by grind) (show 0<=(x.den:Rat)-1 by grind)
     grind
 . show x<=pw m
   by_cases h0:0<=x
   . have:=Xjp h0 (show 0<=(x.den:Rat)-1 by grind)
     grind
   . grind
def MgL(m:Nat)(l:List Rat): Prop:=∀x∈l,Qs m x
def MgT(m:Nat): (k:Nat)->Tw k->Prop
 | 0,_=>True
 | k+1,t=>MgT m k t.1/\MgL m (toL k t.2)
theorem Ya6(r:Rat×Rat)(b:Nat): RtOf r b (rts r b):=⟨rfl,by have:=Xdt b;show _<=Xdq r.2 b+_;grind,W6r⟩
theorem Xwf{k:Nat}{t:Tw k}(h:Xb4 k t)(a:El k)(b:Nat): (enc k t a b).1<=(enc k t a b).2:=Ybx h (Xg5 h a b)
theorem Xmw: ∀ {k:Nat} {t:Tw k} {a:El k} {m:Nat} (b:Nat),Xb4 k t->MgT m k t->MgL m (toL k a)->Mg (enc k t a b) (mW m k)
 | 0,t,a,m,b,h,hT,ha=>Yhz (ha _ (W0h.2 rfl))
 | k+1,t,a,m,b,h,hT,ha=>by
  have hu:=Xmw (a:=a.1) b h.1 hT.1 λx hx=>ha x (W2k _ hx)
  have hv:=Xmw (a:=a.2) b h.1 hT.1 λx hx=>ha x (W1o _ hx)
  have hr:=Xmw b h.1 hT.1 hT.2
  have h0:0<=(enc k t.1 t.2 b).2:=by
   have h0:le k t.1 (rat k 0) t.2:=(Xib h.1).2 (by rw[h.2];decide)
   exact(Xbk h.1).1 (le_tr h.1 h0 (Xg5 h.1 t.2 b).2)
  show Mg (if (∀x∈toL k a.2,x=0) then enc k t.1 a.1 b else rnd (Xhb (enc k t.1 a.1 b) (Xbu (enc k t.1 a.2 b) (rts (enc k t.1 t.2 b) b))) b) (2*mW m k+2)
  split
  . exact hu.mono (by omega)
  . refine Ycz hu hv hr h0 ?_ (Xwf h.1 _ _) (Ya6 _ b)
    have hle:=Xwf h.1 t.2 b
    have hm:mx0 (enc k t.1 t.2 b).1<=(enc k t.1 t.2 b).2:=by unfold mx0;split<;>assumption
    have:=Xhz (b:=b) (Xg4 _) hm
    have:=Xdt b
    show Xdq (mx0 (enc k t.1 t.2 b).1) b<=Xdq (enc k t.1 t.2 b).2 b+Rat.divInt 1 (2^b)
    grind
theorem Xq0: ∀ {k:Nat} {t:Tw k} {a:El k} {m b:Nat},Xb4 k t->MgT m k t->MgL m (toL k a)->0<eW m b k->Wid (enc k t a b) (eW m b k)
 | 0,t,a,m,b,h,hT,ha,he=>⟨W6r,(λ(x:Rat)=>(by grind:(x-x)*pw (eW m b 0)<=1)) a⟩
 | k+1,t,a,m,b,h,hT,ha,he=>by
  have he':0<eW m b k/2-(mW m k+3):=he
  have hle:=Yi6 m b k
  have hu:=Xq0 (a:=a.1) (m:=m) (b:=b) h.1 hT.1 (λx hx=>ha x (W2k _ hx)) (by omega)
  have hv:=Xq0 (a:=a.2) (m:=m) (b:=b) h.1 hT.1 (λx hx=>ha x (W1o _ hx)) (by omega)
  have hr:=Xq0 (m:=m) (b:=b) h.1 hT.1 hT.2 (by omega)
  have mv:=Xmw (a:=a.2) b h.1 hT.1 λx hx=>ha x (W1o _ hx)
  have mr:=Xmw b h.1 hT.1 hT.2
  have h0:0<=(enc k t.1 t.2 b).2:=by
   have h0:le k t.1 (rat k 0) t.2:=(Xib h.1).2 (by rw[h.2];decide)
   exact(Xbk h.1).1 (le_tr h.1 h0 (Xg5 h.1 t.2 b).2)
  show Wid (if (∀x∈toL k a.2,x=0) then enc k t.1 a.1 b else rnd (Xhb (enc k t.1 a.1 b) (Xbu (enc k t.1 a.2 b) (rts (enc k t.1 t.2 b) b))) b) (eW m b k/2-(mW m k+3))
  split
  . exact hu.mono (by omega)
  . exact Ycx hu hv hr mv mr h0 (Ya6 _ b) (by omega) (W0a _) (by omega)
end
section
theorem Xot{s b b':Nat}(h:b<=b'): ∀k,eB s b k<=eB s b' k
 | 0=>W0a _
 | k+1=>by have:=Xot (s:=s) h k;show 3*eB s b k+4*b+6<=3*eB s b' k+4*b'+6;omega
theorem Yk8{x y:Rat}{b:Nat}: Xm3 (y-x) (Rat.divInt 1 (2^b))<=0↔(y-x)*pw b<=1:=by
 rw[Xlh]
 have h:=Xdu b
 constructor
 . intro h1
   have:=W2r (show y-x<=Rat.divInt 1 (2^b) by grind) (W2q (Xa0 b))
   rwa[h] at this
 . intro h1 h2
   have:=W4s (show 0<y-x-Rat.divInt 1 (2^b) by grind) (Xa0 b)
   grind
def Xdh(k:Nat)(t:Tw k)(a:El k)(z:Int): Prop:=le k t (rat k (z:Rat)) a/\sgn k t (add k a (neg k (rat k ((z+1:Int):Rat))))=-1
theorem Ybs{k:Nat}{t:Tw k}(h:Xb4 k t){a b:El k}: sgn k t (add k a (neg k b))=-1↔¬le k t b a:=by
 unfold le
 have:=(Xau h).tri (add k a (neg k b))
 omega
theorem Xdh.uniq{k:Nat}{t:Tw k}{a:El k}{z z':Int}(h:Xb4 k t)(i:Xdh k t a z)(j:Xdh k t a z'): z=z':=by
 have key:∀z z',Xdh k t a z->Xdh k t a z'->z<=z':=by
  intro z z' i j
  by_cases hz:z<=z'
  . exact hz
  . exact absurd (le_tr h ((Xbk h).2 (W3k.2 (show z'+1<=z by omega))) i.1) ((Ybs h).1 j.2)
 have:=key _ _ i j
 have:=key _ _ j i
 omega
theorem Xzc{k:Nat}{t:Tw k}{a:El k}{x y:Rat}(h:Xb4 k t)(i:inI k t a x y)(hw:Wid (x,y) 1): (sgn k t (add k a (neg k (rat k (y.floor:Rat))))<0->Xdh k t a (y.floor-1))/\(¬sgn k t (add k a (neg k (rat k (y.floor:Rat))))<0->Xdh k t a y.floor):=by
 have h1:=@Rat.floor_le y
 have h2:=@Rat.lt_floor y
 have h3:(y-x)*2<=1:=hw.2
 have e1:((1:Int):Rat)=1:=rfl
 have hup:sgn k t (add k a (neg k (rat k ((y.floor+1:Int):Rat))))=-1:=by
  rw[Ybs h]
  intro hl
  have:=(Xbk h).1 (le_tr h hl i.2)
  rw[W6d,e1] at this
  grind
 refine⟨λhn=>⟨le_tr h ((Xbk h).2 ?_) i.1,?_⟩,λhn=>⟨?_,hup⟩⟩
 . rw[Rat.intCast_sub,e1]
   grind
 . rw[show y.floor-1+1=y.floor by omega]
   have:=(Xau h).tri (add k a (neg k (rat k (y.floor:Rat))))
   omega
 . show 0<=_
   omega
noncomputable def rtb(p:Rat×Rat)(b:Nat): Rat×Rat:=(Xdq (mx0 p.1) b,Xtk p.2 b)
noncomputable def bx: (k:Nat)->Tw k->El k->Nat->Rat×Rat
 | 0=>λ_ (x:Rat) _=>(x,x)
 | k+1=>λt a b=>rnd (Xhb (bx k t.1 a.1 b) (Xbu (bx k t.1 a.2 b) (rtb (bx k t.1 t.2 b) b))) (b+20)
theorem Xns(x:Rat)(b:Nat): Xtk x b*pw b=((Xth (sq2 x b):Int):Rat):=by
 unfold Xtk
 rw[W5j]
 have h:=Xa0 b
 show ((Xth (sq2 x b):Int):Rat)/pw b*pw b=_
 rw[W5e (by grind)]
theorem Yc2(x:Rat): (Xth x=rtF x/\x<=((rtF x:Int):Rat)*((rtF x:Int):Rat))\/Xth x=rtF x+1:=by
 unfold Xth
 split
 . exact .inr rfl
 . rename_i h
   rw[W3t] at h
   exact .inl ⟨rfl,by grind⟩
theorem Xl0(x:Rat): ((rtF x:Int):Rat)<=((Xth x:Int):Rat)/\((Xth x:Int):Rat)<=((rtF x:Int):Rat)+1/\(0<=x->x<=((Xth x:Int):Rat)*((Xth x:Int):Rat)):=by
 have e1:((1:Int):Rat)=1:=rfl
 rcases Yc2 x with ⟨h,h2⟩ | h
 . rw[h];exact⟨W6r,by grind,λ_=>h2⟩
 . have e:((Xth x:Int):Rat)=((rtF x:Int):Rat)+1:=by
    rw[h,<-e1,<-W6d];congr 1
   rw[e]
   exact⟨by grind,W6r,λh0=>W2q (Xtx h0)⟩
theorem Xpz(r:Rat×Rat)(b:Nat): RtOf r b (rtb r b):=by
 have h:=Xl0 (sq2 r.2 b)
 have hp:=Xa0 b
 refine⟨rfl,?_,?_⟩
 . refine W2a ?_ hp
   rw[Xe8]
   show _<=Xtk r.2 b*pw b
   rw[Xns];exact h.1
 . refine W2a ?_ hp
   show Xtk r.2 b*pw b<=_
   have e:=Xe8 r.2 b
   have e2:=Xdu b
   have e3:=Xns r.2 b
   have h2:=h.2.1
   grind
theorem Xx8{x:Rat}{b:Nat}(h:0<=x): x<=Xtk x b*Xtk x b:=by
 have hp:=Xa0 b
 have hpp:=W4s hp hp
 refine W2a ?_ hpp
 have h1:=(Xl0 (sq2 x b)).2.2 (Xgz h)
 rw[<-Xns] at h1
 have h3:sq2 x b=x*(pw b*pw b):=rfl
 rw[<-h3]
 have h4:Xtk x b*Xtk x b*(pw b*pw b)=Xtk x b*pw b*(Xtk x b*pw b):=by grind
 rw[h4];exact h1
theorem Yl4{x:Rat}{b:Nat}: Xdq (mx0 x) b*Xdq (mx0 x) b<=x\/Xdq (mx0 x) b=0:=by
 have h1:=Xhy (b:=b) (Xg4 x)
 by_cases h0:x<0
 . right
   have e:mx0 x=0:=if_pos h0
   rw[e] at h1 |-
   have h2:=Xda 0 b
   by_cases h3:Xdq 0 b=0
   . exact h3
   . have:=W4s (show 0<Xdq 0 b by grind) (show 0<Xdq 0 b by grind)
     grind
 . left
   have e:mx0 x=x:=if_neg h0
   rw[e] at h1 |-
   exact h1
theorem Xl4{k:Nat}{t:Tw (k+1)}(h:Xb4 (k+1) t){x y:Rat}(i:inI k t.1 t.2 x y): 0<=y:=by
 have h0:le k t.1 (rat k 0) t.2:=(Xib h.1).2 (by rw[h.2];decide)
 exact(Xbk h.1).1 (le_tr h.1 h0 i.2)
theorem Yc0{k:Nat}{t:Tw (k+1)}(h:Xb4 (k+1) t){a:El (k+1)}{u v r s:Rat×Rat}{b b':Nat}(iu:inI k t.1 a.1 u.1 u.2)(iv:inI k t.1 a.2 v.1 v.2)(ir:inI k t.1 t.2 r.1 r.2)(R:RtOf r b s)(hs:r.2<=s.2*s.2):
 inI (k+1) t a (rnd (Xhb u (Xbu v s)) b').1 (rnd (Xhb u (Xbu v s)) b').2:=by
 have iu:=Xml (t:=t) h.1 iu
 have iv:=Xml (t:=t) h.1 iv
 have hr2:=Xl4 h ir
 have h0:0<=s.1:=by rw[R.lo];exact Xda _ _
 have h2:0<=s.2:=W5p (Xda _ _) R.l
 have is:=Xvn h ir (c:=s.1) (d:=s.2) h0 h2 (by rw[R.lo];exact Yl4) hs
 have im:=Xvo h iv is h0 (Xif v s).1 (Xif v s).2.1 (Xig v s).2.2.1 (Xig v s).2.2.2
 have ia:=Xvp h iu im
 rw[<-Xq2 a] at ia
 exact Xqs h ia (Xq3 _ _) (Xsx _ _)
theorem Xox{k:Nat}{t:Tw (k+1)}{a:El (k+1)}{b:Nat}: bx (k+1) t a b=rnd (Xhb (bx k t.1 a.1 b) (Xbu (bx k t.1 a.2 b) (rtb (bx k t.1 t.2 b) b))) (b+20):=rfl
theorem Xoy: ∀ {k:Nat} {t:Tw k} (h:Xb4 k t) (a:El k) (b:Nat),inI k t a (bx k t a b).1 (bx k t a b).2
 | 0,t,h,a,b=>⟨(Xau h).le_rf (Xaz 0 t) a,(Xau h).le_rf (Xaz 0 t) a⟩
 | k+1,t,h,a,b=>by
  have hu:=Xoy h.1 a.1 b
  have hv:=Xoy h.1 a.2 b
  have hr:=Xoy h.1 t.2 b
  have hs:(bx k t.1 t.2 b).2<=(rtb (bx k t.1 t.2 b) b).2*(rtb (bx k t.1 t.2 b) b).2:=Xx8 (Xl4 h hr)
  have R:=Xpz (bx k t.1 t.2 b) b
  rw[Xox]
  generalize rtb (bx k t.1 t.2 b) b=s at *
  exact Yc0 h hu hv hr R hs
theorem Yjp{k:Nat}{t:Tw k}(h:Xb4 k t)(a:El k)(b:Nat): (bx k t a b).1<=(bx k t a b).2:=Ybx h (Xoy h a b)
theorem Yg0{r:Rat×Rat}{b:Nat}(h0:0<=r.2)(h:r.1<=r.2): (rtb r b).1<=(rtb r b).2:=by
 have hm:mx0 r.1<=r.2:=by unfold mx0;split<;>assumption
 exact W5p (Xhz (b:=b) (Xg4 _) hm) (Xpz r b).l
def bB(s b:Nat): Nat->Nat
 | 0=>s
 | k+1=>3*bB s b k+3*b+30
end
section
abbrev dI(p:Rat×Rat): D:=.st (.pr (dq p.1) (dq p.2))
theorem Yiv{a b a' b':D}{g:Hp}{K:Hpl}(h1:a=a')(h2:b=b'): Fit g K (.d (.st (.pr a b))) (.d (.st (.pr a' b'))):=.eq (by rw[h1,h2])
abbrev zq: AV:=.st (.pr (.st (.pr (.b false) .nil)) (.st (.pr (.b false) .nil)))
abbrev zI: AV:=.st (.pr zq zq)
theorem Xom{x:Rat}{r:List Rat}{s:Nat}(hx:∀y∈x::r,Qs s y)(hs:s+3<=4398046511104)(hn:r.length<=1000): C0 251 [.d (dqs (x::r))] (·=.d (dI (Xuy x r,Xu4 x r))):=by
 refine En Tryz.func251 λ_ _ _=>?_
 refine Dz rfl ?_
 refine Ix 0 rfl (u:=dq x) rfl ?_
 refine Ix 0 rfl (u:=dq x) rfl ?_
 refine Dp 1 (r.map dq) rfl rfl (by simp) rfl ?_
 refine Lo (λ(q:Nat×Rat×Rat)=>[(2,.ptr 2 0),(3,.ptr 3 0),(4,.ptr 4 0),(15,.d (dqs r)),(16,.d (.int .i64 (r.map dq).length)),(17,.d (.int .i64 q.1))]) (λq=>[(2,.var zI),(3,.var (.d (dq q.2.1))),(4,.var (.d (dq q.2.2)))]) (λq=>q.1<=r.length/\q.2.1=Xuy x (r.take q.1)/\q.2.2=Xu4 x (r.take q.1)) (λq=>r.length-q.1) (0,x,x) [] rfl ⟨W0z _,rfl,rfl⟩ (λ(k,lo,hi) ⟨hk,hlo,hhi⟩=>?_)
 simp only at hk hlo hhi
 have qlo:Qs s lo:=hlo ▸ Xux (Xt9 hx k)
 have qhi:Qs s hi:=hhi ▸ Xu3 (Xt9 hx k)
 refine By rfl (λh=>?_) λh=>?_
 . have h:(k:Int)<((r.map dq).length:Nat):=h
   rw[lq] at h
   obtain⟨y,hy⟩:=qat (l:=r) (k:=k) (by omega)
   have qy:Qs s y:=hx y (W0p _ (W0f hy))
   have e:r.take (k+1)=r.take k++[y]:=by rw[W2d,hy];rfl
   have e1:Xuy x (r.take (k+1))=lo2 lo y:=by rw[e,Xuw,hlo]
   have e2:Xu4 x (r.take (k+1))=hi2 hi y:=by rw[e,Xu2,hhi]
   have fin:∀lo' hi',lo'=lo2 lo y->hi'=hi2 hi y->k+1<=r.length/\lo'=Xuy x (r.take (k+1))/\hi'=Xu4 x (r.take (k+1)):=λlo' hi' a b=>⟨by omega,by rw[a,e1],by rw[b,e2]⟩
   refine Ix k rfl (mp hy) ?_
   refine Ce rfl (Xbt qy qlo (by omega)) ?_
   refine By rfl (λh1=>?_) λh1=>?_
   . refine Ce rfl (Xbt qy qhi (by omega)) ?_
     refine By rfl (λh2=>?_) λh2=>?_
     . refine Ar (k+1:Nat) rfl ?_ (wr (show (k:Int)+1=((k+1:Nat):Int) by omega) (by simp only[inK];omega))
       exact Bk (k+1,y,y) [] rfl (fin y y (if_pos (Ye2.1 h1)).symm (if_pos (Xwy.1 h2)).symm) (by show r.length-(k+1)<r.length-k;omega)
     . refine Ar (k+1:Nat) rfl ?_ (wr (show (k:Int)+1=((k+1:Nat):Int) by omega) (by simp only[inK];omega))
       exact Bk (k+1,y,hi) [] rfl (fin y hi (if_pos (Ye2.1 h1)).symm (if_neg λh=>h2 (Xwy.2 h)).symm) (by show r.length-(k+1)<r.length-k;omega)
   . refine Ce rfl (Xbt qy qhi (by omega)) ?_
     refine By rfl (λh2=>?_) λh2=>?_
     . refine Ar (k+1:Nat) rfl ?_ (wr (show (k:Int)+1=((k+1:Nat):Int) by omega) (by simp only[inK];omega))
       exact Bk (k+1,lo,y) [] rfl (fin lo y (if_neg λh=>h1 (Ye2.2 h)).symm (if_pos (Xwy.1 h2)).symm) (by show r.length-(k+1)<r.length-k;omega)
     . refine Ar (k+1:Nat) rfl ?_ (wr (show (k:Int)+1=((k+1:Nat):Int) by omega) (by simp only[inK];omega))
       exact Bk (k+1,lo,hi) [] rfl (fin lo hi (if_neg λh=>h1 (Ye2.2 h)).symm (if_neg λh=>h2 (Xwy.2 h)).symm) (by show r.length-(k+1)<r.length-k;omega)
 . have h:¬(k:Int)<((r.map dq).length:Nat):=h
   rw[lq] at h
   rw[W0b (by omega)] at hlo hhi
   refine Ce rfl (Xat (z:=0) (by decide)) ?_
   refine Dw rfl ?_
   refine Ce rfl (Xdy (y:=0) qlo qs0 (by omega)) ?_
   refine Ce rfl (Xdy (y:=0) qhi qs0 (by omega)) ?_
   exact R1 rfl (Yiv (by rw[W7c,hlo]) (by rw[W7c,hhi]))
section
variable{p q:Rat×Rat}{s t:Nat}
theorem Xdo{x:Rat}(hx:Qs s x)(hs:s+3<=4398046511104): C0 305 [.d (dq x)] (·=.d (dI (x,x))):=by
 have e1:Xuy x [x]=x:=by show lo2 x x=x;unfold lo2;split<;>rfl
 have e2:Xu4 x [x]=x:=by show hi2 x x=x;unfold hi2;split<;>rfl
 have:=Xom (x:=x) (r:=[x]) (s:=s) (λy hy=>by simp at hy;rw[hy];exact hx) hs (by simp)
 rw[e1,e2] at this
 refine En Tryz.func305 λ_ _ _=>?_
 refine Ce rfl this ?_
 exact R1 rfl (.rf rfl)
theorem Xga(hp:Q2 s p)(hs:2*s+1<=4398046511104): C0 109 [.d (dI p)] (·=.d (dq (p.2-p.1))):=by
 refine En Tryz.func109 λ_ _ _=>?_
 refine Ce rfl (Xn1 hp.2 hp.1 (by omega)) ?_
 exact R1 rfl (.rf rfl)
theorem Xfh(hp:Q2 s p)(hq:Q2 t q)(hs:s+t+1<=4398046511104): C0 179 [.d (dI p),.d (dI q)] (·=.d (dI (Xhb p q))):=by
 refine En Tryz.func179 λ_ _ _=>?_
 refine Dw rfl ?_
 refine Ce rfl (Xdy hp.1 hq.1 (by omega)) ?_
 refine Ce rfl (Xdy hp.2 hq.2 (by omega)) ?_
 exact R1 rfl (Yiv rfl rfl)
theorem Xfg(hp:Q2 s p)(hq:Q2 t q)(hs:s+t+3<=4398046511104): C0 180 [.d (dI p),.d (dI q)] (·=.d (dI (Xbu p q))):=by
 have hh:=Xom (x:=p.1*q.1) (r:=[p.1*q.2,p.2*q.1,p.2*q.2]) (s:=s+t) (λy hy=>by
  simp only[W1j,List.not_mem_nil,or_false] at hy
  rcases hy with rfl | rfl | rfl | rfl
  . exact hp.1.mul hq.1
  . exact hp.1.mul hq.2
  . exact hp.2.mul hq.1
  . exact hp.2.mul hq.2) hs (by simp)
 refine En Tryz.func180 λ_ _ _=>?_
 refine Dw rfl ?_
 refine Ce rfl (Xef hp.1 hq.1 (by omega)) ?_
 refine Ce rfl (Xef hp.1 hq.2 (by omega)) ?_
 refine Ce rfl (Xef hp.2 hq.1 (by omega)) ?_
 refine Ce rfl (Xef hp.2 hq.2 (by omega)) ?_
 refine Ce rfl hh ?_
 exact R1 rfl (.rf rfl)
end
theorem Yja{n m r:Nat}(hr:n/m=r)(hm:0<m)(hn:n<9223372036854775808): arB .quo .i64 n m r:=show _/\_ from⟨by omega,by
 rw[show Int.tdiv (n:Int) (m:Int)=((n/m:Nat):Int) from rfl,hr]
 have:=W3m n m
 exact wI (by omega)⟩
theorem Xcy{n:Nat}(hn:n<=8796093022200): C0 246 [.d (.int .i64 n)] (·=.d (dz (2^n:Int))):=by
 have e:(2^n:Int)=((2^n:Nat):Int):=by simp
 refine En Tryz.func246 λ_ _ _=>?_
 refine Ar (n/32:Nat) rfl ?_ (Yja (m:=32) rfl (by decide) (by omega))
 refine Ar (n/32+1:Nat) rfl ?_
 refine Mk (n/32+1) rfl (by omega) ?_
 refine Ar (n/32:Nat) rfl ?_ (Yja (m:=32) rfl (by decide) (by omega))
 refine Ar (n%32:Nat) rfl ?_ (show _/\_ from⟨by decide,Xrk n 32⟩)
 refine Ar (2^(n%32):Nat) rfl ?_ (Xf0 (W1q _ (by decide)))
 refine Eo (n/32) rfl (by omega) ?_
 refine Sto rfl (by simp) rfl ?_
 refine R1 rfl (.sd (.pd (.bd (by rw[e];exact(decide_eq_false (by have:=Int.pow_pos (n:=2) (m:=n) (by decide);omega)).symm)) (.own rfl (by simp) ?_)))
 rw[e,W1f,Xlg,W1d,W0b (by simp),<-ms,W2i]
 rfl
theorem Xb1(x:Rat): (x.den:Int)≠0:=by have:=x.den_nz;omega
section
variable{x:Rat}{s b:Nat}
theorem Xwh(hx:Qs s x)(hb:b<=1099511627776)(hs:s<=1099511627776): C0 342 [.d (dq x),.d (.int .i64 b)] (·=.d (dq (dnQ x b))):=by
 have hp:=hx.mul (Xn3 b)
 have h2:Zs (b+1) (2^b:Int):=Zs.two (W0a _)
 have hn2:=(hx.n.mul h2).len (by omega)
 have l1:=hx.n.len (by omega)
 have l2:=h2.len (by omega)
 have l3:=hx.d.len (by omega)
 have hm:=Make_ok (p:=s+b+1) (a:=(x*pw b).floor) (b:=2^b) ((Zs.floor hp).mono (by omega)) (h2.mono (by omega)) (by omega) (Xfw b)
 have hd:=DivMod_ok (a:=x.num*2^b) (b:=x.den) (by omega) (by omega) (Xb1 x)
 rw[Xhm] at hd
 refine En Tryz.func342 λ_ _ _=>?_
 refine Ce rfl (Xcy (n:=b) (by omega)) ?_
 refine Dz rfl ?_
 refine Ce rfl (Mul_ok (by omega) (by omega)) ?_
 refine Ce rfl hd ?_
 refine Ce rfl hm ?_
 exact R1 rfl (.rf rfl)
theorem Yk9(hx:Qs s x)(hb:b<=1099511627776)(hs:s<=1099511627776): C0 343 [.d (dq x),.d (.int .i64 b)] (·=.d (dq (upQ x b))):=by
 refine En Tryz.func343 λ_ _ _=>?_
 refine Ce rfl (Xff hx (by omega)) ?_
 refine Ce rfl (Xwh hx.neg hb hs) ?_
 refine Ce rfl (Xff (Xwj hx.neg b) (by omega)) ?_
 exact R1 rfl (.rf rfl)
theorem Xyf{p:Rat×Rat}(hp:Q2 s p)(hb:b<=1099511627776)(hs:s<=1099511627776): C0 306 [.d (dI p),.d (.int .i64 b)] (·=.d (dI (rnd p b))):=by
 refine En Tryz.func306 λ_ _ _=>?_
 refine Dw rfl ?_
 refine Ce rfl (Xwh hp.1 hb hs) ?_
 refine Ce rfl (Yk9 hp.2 hb hs) ?_
 exact R1 rfl (Yiv rfl rfl)
theorem Xc7(hx:Qs s x)(hx0:0<=x)(hb:b<=1099511627776)(hs:s<=1099511627776): C0 344 [.d (dq x),.d (.int .i64 b)] (·=.d (dq (Xdq x b))):=by
 have h2:Zs (2*b+1) (2^(2*b):Int):=Zs.two (W0a _)
 have hn2:=(hx.n.mul h2).len (by omega)
 have qx:=Yay (b:=b) hx
 have nx:=Xgz (b:=b) hx0
 have zx:=Ya7 qx nx
 have fx:=Zs.floor qx
 rw[Xel nx] at fx
 have lx:=Yd3 (show (sq2 x b).floor.toNat<_ from fx)
 have l1:=hx.n.len (by omega)
 have l2:=h2.len (by omega)
 have l3:=hx.d.len (by omega)
 have hd:=DivMod_ok (a:=x.num*2^(2*b)) (b:=x.den) (by omega) (by omega) (Xb1 x)
 rw[Xx7 b hx0] at hd
 refine En Tryz.func344 λ_ _ _=>?_
 refine Dz rfl ?_
 refine Ar (2*b:Nat) rfl ?_
 refine Ce rfl (Xcy (n:=2*b) (by omega)) ?_
 refine Ce rfl (Mul_ok (by omega) (by omega)) ?_
 refine Ce rfl hd ?_
 refine Ce rfl (Sqrt_ok (a:=(sq2 x b).floor.toNat) (by omega)) ?_
 refine Dz rfl ?_
 refine Ce rfl (Xcy (n:=b) (by omega)) ?_
 refine Ce rfl (Make_ok (p:=s+(2*b+2)) (a:=(rtF (sq2 x b):Int)) (b:=2^b) zx (Zs.two (by omega)) (by omega) (Xfw b)) ?_
 exact R1 rfl (.rf rfl)
theorem Xyg{p:Rat×Rat}(hp:Q2 s p)(hp0:0<=p.2)(hb:b<=1099511627776)(hs1:1<=s)(hs:s<=1099511627776): C0 307 [.d (dI p),.d (.int .i64 b)] (·=.d (dI (rts p b))):=by
 have hm:=Ybq hp.1 hs1
 have hmk:=Make_ok (p:=b+1) (a:=1) (b:=2^b) (Zs.one (by omega)) (Zs.two (W0a _)) (by omega) (Xfw b)
 refine En Tryz.func307 λ_ _ _=>?_
 refine Ce rfl (Xf2 hp.1 (by omega)) ?_
 refine By rfl (λh=>?_) λh=>?_
 . have e:mx0 p.1=0:=if_pos (Yjg.1 h)
   rw[e] at hm
   refine Ce rfl (Xat (z:=0) (by decide)) ?_
   refine Ce rfl (FromInt_ok (z:=1) (by decide)) ?_
   refine Ce rfl (Xcy (n:=b) (by omega)) ?_
   refine Ce rfl hmk ?_
   refine Dw rfl ?_
   refine Ce rfl (Xc7 (x:=0) hm W6r hb hs) ?_
   refine Ce rfl (Xc7 hp.2 hp0 hb hs) ?_
   refine Ce rfl (Xdy (Xkn hp.2 hp0 b) (Xhs b) (by omega)) ?_
   exact R1 rfl (Yiv (by show dq _=dq (Xdq (mx0 p.1) b);rw[e]) rfl)
 . have e:mx0 p.1=p.1:=if_neg (λe=>h (Yjg.2 e))
   refine Ce rfl (FromInt_ok (z:=1) (by decide)) ?_
   refine Ce rfl (Xcy (n:=b) (by omega)) ?_
   refine Ce rfl hmk ?_
   refine Dw rfl ?_
   refine Ce rfl (Xc7 hp.1 (by rw[<-e];exact Xg4 _) hb hs) ?_
   refine Ce rfl (Xc7 hp.2 hp0 hb hs) ?_
   refine Ce rfl (Xdy (Xkn hp.2 hp0 b) (Xhs b) (by omega)) ?_
   exact R1 rfl (Yiv (by show dq _=dq (Xdq (mx0 p.1) b);rw[e]) rfl)
end
theorem Xr6{k:Nat}: ∀ {s b:Nat} {t:Tw k} {a:Tow.El k},Xb4 k t->TS s k t->Sz s (toL k a)->1<=s->k<=16->eB s b k<=274877906944->b<=274877906944->C0 247 [.d (dt t),.d (de a),.d (.int .i64 b)] (·=.d (dI (enc k t a b))):=by
 induction k with
 | zero =>
  intro s b t a hR hT ha hs1 hk hs hb
  have hs:s<=274877906944:=hs
  have key:∀y:Rat,Qs s y->C0 247 [.d (dts []),.d (dqs [y]),.d (.int .i64 b)] (·=.d (dI (y,y))):=λy hy=>by
   refine En Tryz.func247 λ_ _ _=>?_
   refine Yes rfl rfl ?_
   refine Ix 0 rfl (u:=dq y) rfl ?_
   refine Ce rfl (Xdo hy (by omega)) ?_
   exact R1 rfl (.rf rfl)
  exact key a (ha.qs (W0h.2 rfl))
 | succ k ih =>
  intro s b t a hR hT ha hs1 hk hs hb
  have hx:Sz s (toL k a.1):=Sz.left ha
  have hy:Sz s (toL k a.2):=Sz.right ha
  have hge:=Xzn s b k
  have hs':3*eB s b k+4*b+6<=274877906944:=hs
  have qu:=Xiu (b:=b) hR.1 hT.1 hx hs1
  have qv:=Xiu (b:=b) hR.1 hT.1 hy hs1
  have qr:=Xiu (b:=b) hR.1 hT.1 hT.2 hs1
  have hhi:=Yb8 hR b
  have qs:=Ya5 (b:=b) qr hhi (by omega)
  have qm:=Xcb qv qs
  have qa:=Xln qu qm
  have hlen:=Xab k
  have hp:=p16 hk
  refine En Tryz.func247 λ_ _ _=>?_
  refine No rfl (by show ¬((((toT k t.1++[toL k t.2]).map dqs).length:Nat):Int)=0;rw[twL];omega) ?_
  refine Ar k rfl ?_ (tw1 t (by omega))
  refine Ar (2^k:Nat) rfl ?_ (hvq a (by omega))
  refine Tk k ((toT k t.1).map dqs) rfl rfl (Xi6 t) (twT t) ?_
  refine Tk (2^k) ((toL k a.1).map dq) rfl rfl (Xcc a) (hvT a) ?_
  refine Ce rfl (ih hR.1 hT.1 hx hs1 (by omega) (by omega) hb) ?_
  refine Dp (2^k) ((toL k a.2).map dq) rfl rfl (Xcc a) (hvD a) ?_
  refine Ce rfl (Xer (l:=toL k a.2) hy.ps (by omega) (by rw[hlen];have:=p16 (show k<=16 by omega);omega)) ?_
  refine By rfl (λh=>?_) λh=>?_
  . have he:enc (k+1) t a b=enc k t.1 a.1 b:=if_pos h
    exact R1 rfl (by rw[he];exact .rf rfl)
  . have he:enc (k+1) t a b=rnd (Xhb (enc k t.1 a.1 b) (Xbu (enc k t.1 a.2 b) (rts (enc k t.1 t.2 b) b))) b:=if_neg h
    refine Dz rfl ?_
    refine Dp (2^k) ((toL k a.2).map dq) rfl rfl (Xcc a) (hvD a) ?_
    refine Ce rfl (ih hR.1 hT.1 hy hs1 (by omega) (by omega) hb) ?_
    refine Ix k rfl (twU t) ?_
    refine Ce rfl (ih hR.1 hT.1 hT.2 hs1 (by omega) (by omega) hb) ?_
    refine Dw rfl ?_
    refine Ce rfl (Xyg qr hhi (by omega) (by omega) (by omega)) ?_
    refine Ce rfl (Xfg qv qs (by omega)) ?_
    refine Ce rfl (Xfh qu qm (by omega)) ?_
    refine Ce rfl (Xyf qa (by omega) (by omega)) ?_
    rw[he]
    exact R1 rfl (.rf rfl)
theorem Xgx{k:Nat}{t:Tw k}{a:Tow.El k}{bits P s:Nat}(hR:Xb4 k t)(hw:∀b,P<=b->Wid (enc k t a b) bits)(hT:TS s k t)(ha:Sz s (toL k a))(hs1:1<=s)(hk:k<=16)(hv:vB s k s<=4398046511104)(hb:bits<=1024)(hP:P<=1000000000)(he:eB s (2*(P+bits+16)) k<=274877906944):
 C0 177 [.d (dt t),.d (de a),.d (.int .i64 bits)] λv=>∃p:Rat×Rat,v=.d (dI p)/\inI k t a p.1 p.2/\Wid p bits/\Q2 (eB s (2*(P+bits+16)) k) p:=by
 have hsb:s<=4398046511104:=W0k (Xds k s) hv
 obtain⟨B,hB⟩:∃B,B=eB s (2*(P+bits+16)) k:=⟨_,rfl⟩
 rw[<-hB] at he |-
 have hq:∀b,b<=2*(P+bits+16)->Q2 B (enc k t a b):=λb hb=>(Xiu hR hT ha hs1).mono (by rw[hB];exact Xot hb k)
 refine En Tryz.func177 λ_ _ _=>?_
 refine No rfl (by omega) ?_
 refine No rfl (by omega) ?_
 refine Ce rfl (Xk9 (l:=[toL k a]) (s:=s) hT hR hk hv hsb (λx hx=>⟨a,W0h.1 hx,ha⟩) (by simp) hsb) ?_
 refine No rfl (by simp) ?_
 refine Ce rfl (FromInt_ok (z:=1) (by decide)) ?_
 refine Ce rfl (Xcy (n:=bits) (by omega)) ?_
 refine Ce rfl (Make_ok (p:=bits+1) (a:=1) (b:=2^bits) (Zs.one (by omega)) (Zs.two (W0a _)) (by omega) (Xfw bits)) ?_
 refine Ar (bits+16:Nat) rfl ?_
 refine Lo (λ(g:Nat)=>[(0,.d (dt t)),(1,.d (de a)),(6,.ptr 6 0),(7,.ptr 7 0),(9,.d (.int .i64 g))]) (λ_=>[(6,.var (.st (.pr (.st (.pr (.st (.pr (.b false) .nil)) (.st (.pr (.b false) .nil)))) (.st (.pr (.st (.pr (.b false) .nil)) (.st (.pr (.b false) .nil))))))),(7,.var (.d (dq (Rat.divInt 1 (2^bits)))))]) (λg=>1<=g/\g<=2*(P+bits+16)) (λg=>2*(P+bits+16)-g) (bits+16) [] rfl ⟨by omega,by omega⟩ (λg ⟨hg1,hg⟩=>?_)
 have hge:=hq g hg
 have heB:eB s g k<=274877906944:=W0k (Xot hg k) (by omega)
 refine Ce rfl (Xr6 hR hT ha hs1 hk heB (by omega)) ?_
 refine Dw rfl ?_
 refine Ce rfl (Xga hge (by omega)) ?_
 refine Ce rfl (Xbt (by rw[W6a];exact hge.2.add hge.1.neg) (Xhs bits) (by omega)) ?_
 refine By rfl (λh=>?_) λh=>?_
 . exact Rt rfl (.one (.rf rfl) rfl rfl) ⟨_,rfl,Xg5 hR a g,⟨Xwf hR a g,Yk8.1 h⟩,hge⟩
 . have hgP:g<P:=by
    by_cases hgP:g<P
    . exact hgP
    . exact absurd (Yk8.2 (hw g (by omega)).2) h
   refine Ar (2*g:Nat) rfl ?_
   exact Bk (2*g) [] rfl ⟨by omega,by omega⟩ (by show 2*(P+bits+16)-2*g<2*(P+bits+16)-g;omega)
end
end Go.Proofs.YtfjafaehfjjaiaaGreatDoor
namespace Go.Proofs.YtfjafaehfjjaiaaGreatDoor.P20
open Go Go.Vm Go.Num Go.Tow Go.Proofs.YtfjafaehfjjaiaaGreatDoor
section
variable{s b:Nat}{x:Rat}
def Yft(p q:Rat×Rat): Rat×Rat:=(p.1-q.2,p.2-q.1)
theorem Xvt{n:Nat}(hn:n<=8796093022200): C0 361 [.d (.int .i64 n)] (·=.d (dz (2^n:Int))):=by
 have e:(2^n:Int)=((2^n:Nat):Int):=by simp
 refine En Tryz.func361 λ_ _ _=>?_
 refine Ar (n/32:Nat) rfl ?_ (Yja (m:=32) rfl (by decide) (by omega))
 refine Ar (n/32+1:Nat) rfl ?_
 refine Mk (n/32+1) rfl (by omega) ?_
 refine Ar (n/32:Nat) rfl ?_ (Yja (m:=32) rfl (by decide) (by omega))
 refine Ar (n%32:Nat) rfl ?_ (show _/\_ from⟨by decide,Xrk n 32⟩)
 refine Ar (2^(n%32):Nat) rfl ?_ (Xf0 (W1q _ (by decide)))
 refine Eo (n/32) rfl (by omega) ?_
 refine Sto rfl (by simp) rfl ?_
 refine R1 rfl (.sd (.pd (.bd (by rw[e];exact(decide_eq_false (Int.not_lt.2 (W5b _))).symm)) (.own rfl (by simp) ?_)))
 rw[e,W1f,Xlg,W1d,W0b (by simp),<-ms,W2i]
 rfl
theorem Xvs{p q:Rat×Rat}{t:Nat}(hp:Q2 s p)(hq:Q2 t q)(hs:s+t+1<=4398046511104): C0 311 [.d (dI p),.d (dI q)] (·=.d (dI (Yft p q))):=by
 refine En Tryz.func311 λ_ _ _=>?_
 refine Dw rfl ?_
 refine Ce rfl (Xn1 hp.1 hq.2 (by omega)) ?_
 refine Ce rfl (Xn1 hp.2 hq.1 (by omega)) ?_
 exact R0
theorem Xhl(hx:Qs s x)(hb:b<=1099511627776)(hs:s<=1099511627776): C0 363 [.d (dq x),.d (dz (2^b:Int))] (·=.d (dz (x*pw b).floor)):=by
 have h2:Zs (b+1) (2^b:Int):=Zs.two (W0a _)
 have hn2:=(hx.n.mul h2).len (by omega)
 have l1:=hx.n.len (by omega)
 have l2:=h2.len (by omega)
 have l3:=hx.d.len (by omega)
 have hd:=DivMod_ok (a:=x.num*2^b) (b:=x.den) (by omega) (by omega) (Xb1 x)
 rw[Xhm] at hd
 refine En Tryz.func363 λ_ _ _=>?_
 refine Dz rfl ?_
 refine Ce rfl (Mul_ok (by omega) (by omega)) ?_
 refine Ce rfl hd ?_
 exact R0
theorem Ye5(hx:Qs s x)(hb:b<=1099511627776)(hs:s<=1099511627776): C0 364 [.d (dq x),.d (dz (2^b:Int))] (·=.d (dz (-((-x)*pw b).floor))):=by
 have hf:=Zs.floor (hx.neg.mul (Xn3 b))
 have hl:=hf.len (by omega)
 refine En Tryz.func364 λ_ _ _=>?_
 refine Dw rfl ?_
 refine Ce rfl (Xff hx (by omega)) ?_
 refine Ce rfl (Xhl hx.neg hb hs) ?_
 refine Ce rfl (Neg_ok (by omega)) ?_
 exact R0
theorem Xud{n:Int}{p:Nat}(hn:Zs p n)(hp:p<=1099511627776)(hb:b<=1099511627776): C0 362 [.d (dz n),.d (dz (2^b:Int))] (·=.d (dq (Rat.divInt n (2^b)))):=by
 refine En Tryz.func362 λ_ _ _=>?_
 refine Ce rfl (Make_ok (p:=p+b+1) (hn.mono (by omega)) (Zs.two (by omega)) (by omega) (Xfw b)) ?_
 exact R0
theorem Ygd{x:Rat}{b:Nat}: upQ x b=Rat.divInt (-((-x)*pw b).floor) (2^b):=by
 unfold upQ dnQ
 rw[Rat.neg_divInt]
theorem Xej{p:Rat×Rat}(hp:Q2 s p)(hb:b<=4096)(hs:s<=1099511627): C0 347 [.d (dI p),.d (.int .i64 b)] (·=.d (dI (rnd p b))):=by
 have h1:=Zs.floor (hp.1.mul (Xn3 b))
 have h2:=(Zs.floor (hp.2.neg.mul (Xn3 b))).neg
 refine En Tryz.func347 λ_ _ _=>?_
 refine No rfl (by omega) ?_
 refine No rfl (by omega) ?_
 refine Ce rfl (Xvt (n:=b) (by omega)) ?_
 refine Dw rfl ?_
 refine Ce rfl (Xhl hp.1 (by omega) (by omega)) ?_
 refine Ce rfl (Xud h1 (by omega) (by omega)) ?_
 refine Ce rfl (Ye5 hp.2 (by omega) (by omega)) ?_
 refine Ce rfl (Xud h2 (by omega) (by omega)) ?_
 rw[<-Ygd]
 exact R0
def Xb8(p q:Rat×Rat): Rat×Rat:=(hi2 p.1 q.1,lo2 p.2 q.2)
theorem Xy6{p q:Rat×Rat}(hp:Q2 s p)(hq:Q2 s q)(hs:s<=1099511627)(h:¬(Xb8 p q).2<(Xb8 p q).1): C0 309 [.d (dI p),.d (dI q)] (·=.tup (.pr (.d (dI (Xb8 p q))) (.b true))):=by
 have q1:Qs s (Xb8 p q).1:=Yb1 hp.1 hq.1
 have q2:Qs s (Xb8 p q).2:=Ybt hp.2 hq.2
 have hh:=Xom (x:=(Xb8 p q).1) (r:=[(Xb8 p q).2]) (s:=s) (λy hy=>by
  simp only[W1j,List.not_mem_nil,or_false] at hy
  rcases hy with rfl | rfl
  . exact q1
  . exact q2) (by omega) (by simp)
 have e1:Xuy (Xb8 p q).1 [(Xb8 p q).2]=(Xb8 p q).1:=if_neg h
 have e2:Xu4 (Xb8 p q).1 [(Xb8 p q).2]=(Xb8 p q).2:=by
  show (if (Xb8 p q).1<(Xb8 p q).2 then (Xb8 p q).2 else (Xb8 p q).1)=_
  split
  . rfl
  . grind
 rw[e1,e2] at hh
 have fin:∀ {l u:Rat},l=(Xb8 p q).1->u=(Xb8 p q).2->C0 251 [.d (dqs [l,u])] (·=.d (dI (Xb8 p q))):=λe f=>by rw[e,f];exact hh
 have nlt:∀ {l u:Rat},l=(Xb8 p q).1->u=(Xb8 p q).2->¬Xm3 l u>0:=λe f=>by rw[e,f,Xwy];exact h
 refine En Tryz.func309 λ_ _ _=>?_
 refine Dz rfl ?_
 refine Ce rfl (Xbt hq.1 hp.1 (by omega)) ?_
 refine By rfl (λh1=>?_) λh1=>?_
 . have e1:q.1=(Xb8 p q).1:=(if_pos (Xwy.1 h1)).symm
   refine Ce rfl (Xbt hq.2 hp.2 (by omega)) ?_
   refine By rfl (λh2=>?_) λh2=>?_
   . have e2:q.2=(Xb8 p q).2:=(if_pos (Ye2.1 h2)).symm
     refine Ce rfl (Xbt (x:=q.1) (y:=q.2) hq.1 hq.2 (by omega)) ?_
     refine No rfl (nlt e1 e2) ?_
     refine Ce rfl (fin e1 e2) ?_
     exact RTt rfl (.cons (.rf rfl) (.one (.rf rfl) (λ_ _ e=>by cases e) (λ_ _ e=>by cases e)))
   . have e2:p.2=(Xb8 p q).2:=(if_neg λh=>h2 (Ye2.2 h)).symm
     refine Ce rfl (Xbt (x:=q.1) (y:=p.2) hq.1 hp.2 (by omega)) ?_
     refine No rfl (nlt e1 e2) ?_
     refine Ce rfl (fin e1 e2) ?_
     exact RTt rfl (.cons (.rf rfl) (.one (.rf rfl) (λ_ _ e=>by cases e) (λ_ _ e=>by cases e)))
 . have e1:p.1=(Xb8 p q).1:=(if_neg λh=>h1 (Xwy.2 h)).symm
   refine Ce rfl (Xbt hq.2 hp.2 (by omega)) ?_
   refine By rfl (λh2=>?_) λh2=>?_
   . have e2:q.2=(Xb8 p q).2:=(if_pos (Ye2.1 h2)).symm
     refine Ce rfl (Xbt (x:=p.1) (y:=q.2) hp.1 hq.2 (by omega)) ?_
     refine No rfl (nlt e1 e2) ?_
     refine Ce rfl (fin e1 e2) ?_
     exact RTt rfl (.cons (.rf rfl) (.one (.rf rfl) (λ_ _ e=>by cases e) (λ_ _ e=>by cases e)))
   . have e2:p.2=(Xb8 p q).2:=(if_neg λh=>h2 (Ye2.2 h)).symm
     refine Ce rfl (Xbt (x:=p.1) (y:=p.2) hp.1 hp.2 (by omega)) ?_
     refine No rfl (nlt e1 e2) ?_
     refine Ce rfl (fin e1 e2) ?_
     exact RTt rfl (.cons (.rf rfl) (.one (.rf rfl) (λ_ _ e=>by cases e) (λ_ _ e=>by cases e)))
end
section
def sm(p:Rat×Rat): Bool:=Nat.ble (p.1.num.natAbs+1) (2^250)&&Nat.ble (p.1.den+1) (2^250)&&Nat.ble (p.2.num.natAbs+1) (2^250)&&Nat.ble (p.2.den+1) (2^250)
theorem Xnk{p:Rat×Rat}(h:sm p=true): Q2 250 p:=by
 unfold sm at h
 simp only[W0g] at h
 obtain⟨⟨⟨h1,h2⟩,h3⟩,h4⟩:=h
 have h1:=W1g h1
 have h2:=W1g h2
 have h3:=W1g h3
 have h4:=W1g h4
 exact⟨⟨h1,by show ((p.1.den:Int)).natAbs<_;rw[W1f];exact h2⟩,⟨h3,by show ((p.2.den:Int)).natAbs<_;rw[W1f];exact h4⟩⟩
def Xls(b k:Nat)(P:Rat×Rat): Rat×Rat:=rnd (Xbu P (Rat.divInt 1 (2*k+1:Nat),Rat.divInt 1 (2*k+1:Nat))) b
def Yj0(k:Nat)(S T:Rat×Rat): Rat×Rat:=if k%2=0 then Xhb S T else Yft S T
def Yky(b:Nat)(Q:Rat×Rat): Nat->Nat->Rat×Rat->Rat×Rat->Option (Rat×Rat)
 | 0,_,_,_=>none
 | n+1,k,P,S=>if sm P&&sm (Xls b k P)&&sm S&&sm (Yj0 k S (Xls b k P)) then
  (if 2*k+1>b then some (Xhb (Yj0 k S (Xls b k P)) (-(Xls b k P).2,(Xls b k P).2)) else Yky b Q n (k+1) (rnd (Xbu P Q) b) (Yj0 k S (Xls b k P))) else none
def Yfh(z:Rat)(b:Nat): Rat×Rat:=rnd (z,z) b
def Yf1(z:Rat)(b:Nat): Rat×Rat:=rnd (Xbu (Yfh z b) (Yfh z b)) b
def Xxs(z:Rat)(b:Nat): Option (Rat×Rat):=if sm (z,z)&&sm (Yfh z b)&&sm (Yf1 z b) then Yky b (Yf1 z b) 150 0 (Yfh z b) (0,0) else none
theorem Yos{a m:Nat}(hm:0<m): arB .rem .i64 a m (a%m:Nat):=R9.remN hm
theorem Ylz{a b:Nat}(h:a*b<9223372036854775808): arB .mul .i64 a b (a*b:Nat):=by
 show IntKind.i64.wrap ((a:Int)*b)=((a*b:Nat):Int)
 rw[W2p]
 exact wI (by rw[<-W2p];omega)
theorem Xv4{k:Nat}(hk:k<=1000): Qs 40 (Rat.divInt 1 (2*k+1:Nat)):=Qs.divInt (Zs.one (by decide)) (show (((2*k+1:Nat):Int)).natAbs<2^40 by rw[W1f];omega) (by omega)
theorem Yjz{z:Rat}{b:Nat}{R:Rat×Rat}(hb:b<=300)(h:Xxs z b=some R): C0 312 [.d (dq z),.d (.int .i64 b)] (·=.d (dI R)):=by
 unfold Xxs at h
 split at h<;>try cases h
 rename_i hc
 simp only[W0g] at hc
 obtain⟨⟨c1,c2⟩,c3⟩:=hc
 have q1:=(Xnk c1)
 have q2:=(Xnk c2)
 have q3:=(Xnk c3)
 refine En Tryz.func312 λ_ _ _=>?_
 refine Ce rfl (Xdo q1.1 (by decide)) ?_
 refine Ce rfl (Xej q1 (by omega) (by decide)) ?_
 refine Ce rfl (Xfg (p:=Yfh z b) (q:=Yfh z b) q2 q2 (by decide)) ?_
 refine Ce rfl (Xej (Xcb q2 q2) (by omega) (by decide)) ?_
 refine Ce rfl (Xat (z:=0) (by decide)) ?_
 refine Ce rfl (Xdo (x:=0) qs0 (by decide)) ?_
 refine Lo (λ(s:Nat×Nat×(Rat×Rat)×(Rat×Rat))=>[(1,.d (.int .i64 b)),(4,.ptr 4 0),(5,.ptr 5 0),(6,.ptr 6 0),(7,.ptr 7 0),(8,.d (.int .i64 s.2.1))]) (λs=>[(4,.var zI),(5,.var (.d (dI s.2.2.1))),(6,.var (.d (dI (Yf1 z b)))),(7,.var (.d (dI s.2.2.2)))]) (λs=>s.1+s.2.1<=150/\Yky b (Yf1 z b) s.1 s.2.1 s.2.2.1 s.2.2.2=some R) (λs=>s.1) (150,0,Yfh z b,(0,0)) [] rfl ⟨W0a _,h⟩ (λ(n,k,P,S) ⟨hn,hR⟩=>?_)
 simp only at hn hR
 cases n with
 | zero=>cases hR
 | succ n =>
  unfold Yky at hR
  split at hR<;>try cases hR
  rename_i hc
  simp only[W0g] at hc
  obtain⟨⟨⟨c4,c5⟩,c6⟩,c7⟩:=hc
  have q4:=(Xnk c4)
  have q5:=(Xnk c5)
  have q6:=(Xnk c6)
  have q7:=(Xnk c7)
  have fq:Q2 40 (Rat.divInt 1 (2*k+1:Nat),Rat.divInt 1 (2*k+1:Nat)):=⟨Xv4 (by omega),Xv4 (by omega)⟩
  refine Dw rfl ?_
  refine Ar (2*k:Nat) rfl ?_ (Ylz (a:=2) (b:=k) (by omega))
  refine Ar (2*k+1:Nat) rfl ?_ (wr (show ((2*k:Nat):Int)+1=((2*k+1:Nat):Int) by omega) (by simp only[inK];omega))
  refine Ce rfl (Xcf (a:=1) (b:=(2*k+1:Nat)) (by omega) (by omega)) ?_
  refine Ce rfl (Xdo fq.1 (by decide)) ?_
  refine Ce rfl (Xfg q4 fq (by decide)) ?_
  refine Ce rfl (Xej (Xcb q4 fq) (by omega) (by decide)) ?_
  refine Ar (k%2:Nat) rfl ?_ (Yos (a:=k) (m:=2) (by decide))
  refine By rfl (λh1=>?_) λh1=>?_
  . have eS:Yj0 k S (Xls b k P)=Xhb S (Xls b k P):=if_pos (by omega)
    rw[eS] at hR q7
    refine Ce rfl (Xfh q6 q5 (by decide)) ?_
    refine Ar (2*k:Nat) rfl ?_ (Ylz (a:=2) (b:=k) (by omega))
    refine Ar (2*k+1:Nat) rfl ?_ (wr (show ((2*k:Nat):Int)+1=((2*k+1:Nat):Int) by omega) (by simp only[inK];omega))
    refine By rfl (λh2=>?_) λh2=>?_
    . rw[if_pos (by omega)] at hR
      injection hR with hR
      refine Dw rfl ?_
      refine Ce rfl (Xff q5.2 (by decide)) ?_
      refine Ce rfl (Xfh (p:=Xhb S (Xls b k P)) (q:=(-(Xls b k P).2,(Xls b k P).2)) q7 ⟨q5.2.neg,q5.2⟩ (by decide)) ?_
      rw[hR]
      exact R0
    . rw[if_neg (by omega)] at hR
      refine Ce rfl (Xfg q4 q3 (by decide)) ?_
      refine Ce rfl (Xej (Xcb q4 q3) (by omega) (by decide)) ?_
      refine Ar (k+1:Nat) rfl ?_ (wr (show (k:Int)+1=((k+1:Nat):Int) by omega) (by simp only[inK];omega))
      exact Bk (n,k+1,rnd (Xbu P (Yf1 z b)) b,Xhb S (Xls b k P)) [] rfl ⟨by show n+(k+1)<=150;omega,hR⟩ (show n<n+1 by omega)
  . have eS:Yj0 k S (Xls b k P)=Yft S (Xls b k P):=if_neg (by omega)
    rw[eS] at hR q7
    refine Ce rfl (Xvs q6 q5 (by decide)) ?_
    refine Ar (2*k:Nat) rfl ?_ (Ylz (a:=2) (b:=k) (by omega))
    refine Ar (2*k+1:Nat) rfl ?_ (wr (show ((2*k:Nat):Int)+1=((2*k+1:Nat):Int) by omega) (by simp only[inK];omega))
    refine By rfl (λh2=>?_) λh2=>?_
    . rw[if_pos (by omega)] at hR
      injection hR with hR
      refine Dw rfl ?_
      refine Ce rfl (Xff q5.2 (by decide)) ?_
      refine Ce rfl (Xfh (p:=Yft S (Xls b k P)) (q:=(-(Xls b k P).2,(Xls b k P).2)) q7 ⟨q5.2.neg,q5.2⟩ (by decide)) ?_
      rw[hR]
      exact R0
    . rw[if_neg (by omega)] at hR
      refine Ce rfl (Xfg q4 q3 (by decide)) ?_
      refine Ce rfl (Xej (Xcb q4 q3) (by omega) (by decide)) ?_
      refine Ar (k+1:Nat) rfl ?_ (wr (show (k:Int)+1=((k+1:Nat):Int) by omega) (by simp only[inK];omega))
      exact Bk (n,k+1,rnd (Xbu P (Yf1 z b)) b,Yft S (Xls b k P)) [] rfl ⟨by show n+(k+1)<=150;omega,hR⟩ (show n<n+1 by omega)
end
end Go.Proofs.YtfjafaehfjjaiaaGreatDoor.P20
namespace Go.Proofs.YtfjafaehfjjaiaaGreatDoor.P9
open Go Go.Vm Go.Num Go.Tow Go.Proofs.YtfjafaehfjjaiaaGreatDoor
end Go.Proofs.YtfjafaehfjjaiaaGreatDoor.P9
namespace Go.Proofs.YtfjafaehfjjaiaaGreatDoor.P55
open Go Go.Vm Go.Num Go.Tow Go.Proofs.YtfjafaehfjjaiaaGreatDoor
def Qp(s:Nat)(p:Rat×Rat): Prop:=Qs s p.1/\Qs s p.2
abbrev v0(p:Rat×Rat): Vn:=⟨⟨0,(),p.1⟩,⟨0,(),p.2⟩⟩
theorem W0: Wn (K:=0) () ([]:List (Tow.El 0)) []:=⟨Yk3.wd trivial (W0z _) nofun,λz hz=>nomatch hz⟩
theorem g0{q:Rat}{s:Nat}(h:Qs s q)(hs:s<=10000:=by decide): Gd (K:=0) () [] [] 1 ⟨0,(),q⟩ q:=by
 have h0:NOk (K:=0) () ([]:List (Tow.El 0)) 0 (s+1) ⟨0,(),q⟩ (Tow.rat 0 q):=⟨⟨λ_=>zero _,⟨trivial,trivial,λi hi=>absurd hi (W3h _)⟩,rfl⟩,trivial,Sz.rat 0 h⟩
 have hg:Gs (K:=0) () ([]:List (Tow.El 0)) [] (gB 1) (Tow.rat 0 q):=(Gs.rat h).mono (by unfold gB;omega)
 exact⟨h0.re W0.w W0.h hg,hg,W0a _⟩
theorem gv0{p:Rat×Rat}{s:Nat}(h:Qp s p)(hs:s<=10000:=by decide): Gv (K:=0) () [] [] 1 (v0 p) p:=⟨g0 h.1 hs,g0 h.2 hs⟩
theorem zw{r p:Nat}{x:Nm}{v:Rat}(h:NOk (K:=0) () ([]:List (Tow.El 0)) r p x v): x=⟨0,(),v⟩:=by
 obtain⟨ρ,h1,h2⟩:=h.ex
 obtain⟨k,t,a⟩:=x
 have hk:k<=([]:List (Tow.El 0)).length:=h1.le (show Xb4 0 () from trivial)
 obtain rfl:k=0:=Nat.le_zero.1 hk
 have h2:(a:Rat)=v:=h2
 rw[<-h2]
 cases t
 rfl
theorem Xk8{n:Nat}{v:Vn}{p:Rat×Rat}(h:Gv (K:=0) () ([]:List (Tow.El 0)) [] n v p): v=v0 p:=by
 obtain⟨x,y⟩:=v
 rw[show x=_ from zw h.x.o,show y=_ from zw h.y.o]
instance {p:Nat} {z:Int}:Decidable (Zs p z):=inferInstanceAs (Decidable (z.natAbs<2^p))
instance {p:Nat} {x:Rat}:Decidable (Qs p x):=decidable_of_iff (Zs p x.num/\Zs p x.den) ⟨λh=>⟨h.1,h.2⟩,λh=>⟨h.1,h.2⟩⟩
instance {p:Nat} {x:Rat×Rat}:Decidable (Qp p x):=by unfold Qp;infer_instance
end Go.Proofs.YtfjafaehfjjaiaaGreatDoor.P55
namespace Go.Proofs.YtfjafaehfjjaiaaGreatDoor.P20
open Go Go.Vm Go.Num Go.Tow Go.Proofs.YtfjafaehfjjaiaaGreatDoor
open Go.Proofs.YtfjafaehfjjaiaaGreatDoor.P55 (v0 W0 g0 gv0 zw Xk8 Qp)
abbrev nr(q:Rat): Nm:=⟨0,(),q⟩
instance {p:Nat} {x:Rat×Rat}:Decidable (Q2 p x):=by unfold Q2;infer_instance
def Xj6(z:Rat)(b:Nat): Rat×Rat:=(Xxs z b).getD (0,0)
theorem Yfg{z:Rat}{b:Nat}(h:(Xxs z b).isSome=true): Xxs z b=some (Xj6 z b):=by
 unfold Xj6
 cases e:Xxs z b with
 | none=>rw[e] at h;cases h
 | some R=>rfl
abbrev z5: Rat:=Rat.divInt 1 5
abbrev Ykh: Rat:=Rat.divInt 1 239
theorem a5: (Xxs z5 186).isSome=true:=by decide +kernel
theorem Yo9: (Xxs Ykh 186).isSome=true:=by decide +kernel
theorem a0: (Xxs 0 186).isSome=true:=by decide +kernel
def pt(x:Rat): Rat×Rat:=(x,x)
def qV: Rat×Rat:=Yft (Xbu (Xj6 z5 186) (pt 8)) (Xbu (Xj6 Ykh 186) (pt 2))
def rV: Rat×Rat:=Xhb (Xhb ((Xj6 0 186).1,(Xj6 0 186).2) (Xbu qV (pt 1))) (Xbu qV (pt 0))
def hp: Nat->Rat
 | 0=>1
 | n+1=>hp n*Rat.divInt 1 2
theorem Ymj: (sm (Xj6 z5 186)&&sm (Xj6 Ykh 186)&&sm (Xj6 0 186)&&sm qV&&sm rV&&decide (rV.2-rV.1<=hp 138))=true:=by decide +kernel
theorem Xo0{z:Rat}(h:(Xxs z 186).isSome=true): C0 312 [.d (dq z),.d (.int .i64 186)] (·=.d (dI (Xj6 z 186))):=Yjz (b:=186) (by decide) (Yfg h)
theorem fct: sm (Xj6 z5 186)=true/\sm (Xj6 Ykh 186)=true/\sm (Xj6 0 186)=true/\sm qV=true/\sm rV=true/\rV.2-rV.1<=hp 138:=by
 have:=Ymj
 simp only[W0g,decide_eq_true_eq] at this
 obtain⟨⟨⟨⟨⟨h1,h2⟩,h3⟩,h4⟩,h5⟩,h6⟩:=this
 exact⟨h1,h2,h3,h4,h5,h6⟩
theorem Xrx{n:Int}(h:Zs 64 n): Q2 64 (pt (n:Rat)):=⟨Qs.int h (by decide),Qs.int h (by decide)⟩
theorem Xfz{p:Rat×Rat}{n:Int}(hp:Q2 250 p)(h:-9223372036854775808<=n/\n<9223372036854775808): C0 249 [.d (dI p),.d (.int .i64 n)] (·=.d (dI (Xbu p (pt (n:Rat))))):=by
 have hq:=Xrx (n:=n) (by unfold Zs;omega)
 refine En Tryz.func249 λ_ _ _=>?_
 refine Dw rfl ?_
 refine Ce rfl (Xat h) ?_
 refine Ce rfl (Xdo hq.1 (by decide)) ?_
 refine Ce rfl (Xfg (q:=pt (n:Rat)) hp hq (by decide)) ?_
 exact R0
theorem Xjl: C0 250 [.d (.int .i64 186)] (·=.d (dI qV)):=by
 obtain⟨h1,h2,_⟩:=fct
 have q1:=Xnk h1
 have q2:=Xnk h2
 refine En Tryz.func250 λ_ _ _=>?_
 refine Ce rfl (Xcf (a:=1) (b:=5) (by decide) (by decide)) ?_
 refine Ce rfl (Xo0 a5) ?_
 refine Ce rfl (Xfz (n:=8) q1 (by decide)) ?_
 refine Ce rfl (Xcf (a:=1) (b:=239) (by decide) (by decide)) ?_
 refine Ce rfl (Xo0 Yo9) ?_
 refine Ce rfl (Xfz (n:=2) q2 (by decide)) ?_
 refine Ce rfl (Xvs (Xcb q1 (Xrx (n:=8) (by decide))) (Xcb q2 (Xrx (n:=2) (by decide))) (by decide)) ?_
 exact R0
theorem Xhw: C0 310 [.d (dq 0),.d (.int .i64 186)] (·=.d (dI (Xj6 0 186))):=by
 refine En Tryz.func310 λ_ _ _=>?_
 refine Ce rfl (Xcf (a:=1) (b:=2) (by decide) (by decide)) ?_
 refine Ce rfl (Xbt (x:=0) (p:=1) (q:=40) qs0 (Qs.divInt (Zs.one (by decide)) (by decide) (by decide)) (by decide)) ?_
 refine Yes rfl (by decide +kernel) ?_
 refine Ce rfl (Xo0 a0) ?_
 exact R0
theorem Yet{x:Rat}{b:Nat}(hx:Qs 64 x): C0 247 [.d (dts []),.d (dqs [x]),.d (.int .i64 b)] (·=.d (dI (pt x))):=by
 refine En Tryz.func247 λ_ _ _=>?_
 refine Yes rfl rfl ?_
 refine Ix 0 rfl (u:=dq x) rfl ?_
 refine Ce rfl (Xdo hx (by decide)) ?_
 exact R0
theorem Xfq{x:Rat}{bits:Nat}(hx:Qs 64 x)(hb:bits<=1000): C0 177 [.d (dts []),.d (dqs [x]),.d (.int .i64 bits)] (·=.d (dI (pt x))):=by
 have hw:Qs 129 ((pt x).2-(pt x).1):=by rw[W6a];exact hx.add hx.neg
 refine En Tryz.func177 λ_ _ _=>?_
 refine No rfl (by omega) ?_
 refine No rfl (by omega) ?_
 refine Ce rfl (Xk9 (k:=0) (t:=()) (l:=[[x]]) (r:=1) (s:=65) trivial trivial (by decide) (by decide) (by decide) (λy hy=>⟨(x:Rat),W0h.1 hy,Sz.rat 0 hx⟩) (by simp) (by decide)) ?_
 refine No rfl (by simp) ?_
 refine Ce rfl (FromInt_ok (z:=1) (by decide)) ?_
 refine Ce rfl (Xcy (n:=bits) (by omega)) ?_
 refine Ce rfl (Make_ok (p:=bits+1) (a:=1) (b:=2^bits) (Zs.one (by omega)) (Zs.two (W0a _)) (by omega) (Xfw bits)) ?_
 refine Ar (bits+16:Nat) rfl ?_
 refine Lo (λ_:Unit=>[(0,.d (dts [])),(1,.d (dqs [x])),(6,.ptr 6 0),(7,.ptr 7 0),(9,.d (.int .i64 (bits+16:Nat)))]) (λ_=>[(6,.var zI),(7,.var (.d (dq (Rat.divInt 1 (2^bits)))))]) (λ_=>True) (λ_=>0) () [] rfl trivial (λ_ _=>?_)
 refine Ce rfl (Yet hx) ?_
 refine Dw rfl ?_
 refine Ce rfl (Xga (p:=pt x) ⟨hx,hx⟩ (by decide)) ?_
 refine Ce rfl (Xbt (x:=(pt x).2-(pt x).1) hw (Xhs bits) (by omega)) ?_
 refine Yes rfl (by
  rw[Xlh]
  have:=Xdt bits
  show ¬_<x-x
  rw[Rat.sub_self]
  grind) ?_
 exact R0
theorem Xrv: C0 248 [.d (dV (v0 (0,1))),.d (.int .i64 186)] (·=.tup (.pr (.d (dI (Xhb ((Xj6 0 186).1,(Xj6 0 186).2) (Xbu qV (pt 1))))) (.d (.int .i64 0)))):=by
 obtain⟨_,_,h3,h4,_⟩:=fct
 have q3:=Xnk h3
 have q4:=Xnk h4
 have c0:Qs 64 0:=by decide +kernel
 have c1:Qs 64 1:=by decide +kernel
 refine En Tryz.func248 λ_ _ _=>?_
 refine Lo (λi:Nat=>[(1,.d (.int .i64 186)),(2,.ptr 2 0),(4,.ptr 4 0),(5,.d (.int .i64 0)),(6,.d (.int .i64 i))]) (λi=>[(2,.var (.d (dV (v0 (if i=0 then (0,1) else (1,0)))))),(4,.var zI)]) (λi=>i=0\/i=1) (λi=>1-i) 0 [] rfl (.inl rfl) (λi hi=>?_)
 rcases hi with rfl | rfl
 . refine Ce rfl (P9.Sign_g W0 (g0 (q:=0) c0) (by decide)) ?_
   refine Yes rfl (by decide +kernel) ?_
   refine Dw rfl ?_
   refine Ca rfl (P9.Neg_g W0 (g0 (q:=0) c0) (by decide)) λv hv=>?_
   obtain⟨z,rfl,hz⟩:=hv
   rw[zw hz.o,show Tow.neg 0 (0:Rat)=(0:Rat) from Rat.neg_zero]
   refine Ar (0+1:Nat) rfl ?_
   exact Bk 1 [] rfl (.inr rfl) (show 0<1 by decide)
 . refine Ce rfl (P9.Sign_g W0 (g0 (q:=1) c1) (by decide)) ?_
   refine No rfl (by decide +kernel) ?_
   refine Ce rfl (P9.Sign_g W0 (g0 (q:=0) c0) (by decide)) ?_
   refine No rfl (by decide +kernel) ?_
   refine Ce rfl (P9.Cmp_g W0 (g0 (q:=0) c0) (g0 (q:=1) c1) (by decide) (by decide)) ?_
   refine No rfl (by decide) ?_
   refine Dz rfl ?_
   refine No rfl (by decide +kernel) ?_
   refine Ca rfl (P9.Div_g W0 (g0 (q:=0) c0) (g0 (q:=1) c1) (by decide) (by decide)) λv hv=>?_
   rcases hv with ⟨e,_⟩ | ⟨u,_,z,rfl,hz⟩
   . exact absurd e (show ¬(1:Rat)=0 by decide +kernel)
   rw[zw hz.o,show Tow.mul 0 () (0:Rat) u=(0:Rat) from W4q u]
   refine No rfl (by decide) ?_
   refine Mm 186 rfl ?_ rfl
   refine Ce rfl (Xfq (x:=0) (bits:=186) c0 (by decide)) ?_
   refine Ce rfl (Xat (z:=0) (by decide)) ?_
   refine Ce rfl (Xat (z:=1) (by decide)) ?_
   have hm:=Xy6 (p:=pt 0) (q:=(0,1)) (s:=64) (by decide +kernel) (by decide +kernel) (by decide) (by decide +kernel)
   rw[show Xb8 (pt 0) (0,1)=pt 0 by decide +kernel] at hm
   refine Ce rfl hm ?_
   refine Dw rfl ?_
   refine Ce rfl Xhw ?_
   refine Ce rfl Xhw ?_
   refine Ce rfl Xjl ?_
   refine No rfl (by decide +kernel) ?_
   refine Dw rfl ?_
   refine Ce rfl (Xfz (n:=1) q4 (by decide)) ?_
   refine Ce rfl (Xfh (p:=((Xj6 0 186).1,(Xj6 0 186).2)) q3 (Xcb q4 (Xrx (n:=1) (by decide))) (by decide)) ?_
   exact RTt rfl (.cons (.rf rfl) Xa7)
theorem Yim: ∀i,i<=138->Qs 200 (hp i):=by decide +kernel
theorem Xsh: C0 178 [.d (dT (v0 (0,1)) 0),.d (.int .i64 138)] (·=.tup (.pr (.d (dI rV)) (.d (.int .i64 0)))):=by
 obtain⟨_,_,h3,h4,h5,h6⟩:=fct
 have q3:=Xnk h3
 have q4:=Xnk h4
 have q5:=Xnk h5
 have hq:=Yim
 refine En Tryz.func178 λ_ _ _=>?_
 refine No rfl (by decide) ?_
 refine No rfl (by decide) ?_
 refine Ce rfl (Xat (z:=1) (by decide)) ?_
 refine Lo (λi:Nat=>[(1,.d (.int .i64 138)),(2,.ptr 2 0),(4,.ptr 4 0),(5,.d (.int .i64 0)),(6,.ptr 6 0),(18,.d (.int .i64 138)),(19,.d (.int .i64 i))]) (λi=>[(2,.var (.d (dT (v0 (0,1)) 0))),(4,.var zI),(6,.var (.d (dq (hp i))))]) (λi=>i<=138) (λi=>138-i) 0 [] rfl (W0z _) (λi hi=>?_)
 refine By rfl (λh=>?_) λh=>?_
 . refine Dw rfl ?_
   refine Ce rfl (Xcf (a:=1) (b:=2) (by decide) (by decide)) ?_
   refine Ce rfl (Xef (hq i hi) (Qs.divInt (p:=64) (by decide) (by decide) (by decide)) (by decide)) ?_
   refine Ar (i+1:Nat) rfl ?_
   exact Bk (i+1) [] rfl (show i+1<=138 by omega) (by show 138-(i+1)<138-i;omega)
 . obtain rfl:i=138:=by omega
   refine Ar (186:Nat) rfl ?_ (wr rfl (by simp only[inK];omega))
   refine Lo (λ_:Unit=>[(1,.d (.int .i64 138)),(2,.ptr 2 0),(4,.ptr 4 0),(5,.d (.int .i64 0)),(6,.ptr 6 0),(7,.d (.int .i64 186))]) (λ_=>[(2,.var (.d (dT (v0 (0,1)) 0))),(4,.var zI),(6,.var (.d (dq (hp 138))))]) (λ_=>True) (λ_=>0) () [] rfl trivial (λ_ _=>?_)
   refine Ce rfl Xrv ?_
   refine No rfl (by decide) ?_
   refine Dw rfl ?_
   refine Ce rfl Xjl ?_
   refine Ar (0:Int) rfl ?_ rfl
   refine Ce rfl (Xfz (n:=0) q4 (by decide)) ?_
   have qa:=Xln (p:=((Xj6 0 186).1,(Xj6 0 186).2)) q3 (Xcb q4 (Xrx (n:=1) (by decide)))
   refine Ce rfl (Xfh qa (Xcb q4 (Xrx (n:=0) (by decide))) (by decide)) ?_
   refine Dw rfl ?_
   refine Ce rfl (Xga (p:=rV) q5 (by decide)) ?_
   have qw:Qs 501 (rV.2-rV.1):=by rw[W6a];exact q5.2.add q5.1.neg
   refine Ce rfl (Xbt qw (hq 138 (by decide)) (by decide)) ?_
   refine Yes rfl (by rw[Xlh];exact Rat.not_lt.2 h6) ?_
   exact RTt rfl (.cons (.rf rfl) Xa7)
end Go.Proofs.YtfjafaehfjjaiaaGreatDoor.P20
namespace Go.Tow
open Go
section
section
variable{K:Nat}{G:Tw K}{p q r u x y w z:V2 K}
section
variable(hG:red K G)(hp:p≠vz K)(hq:q≠vz K)
include hG hp hq
end
theorem Ycp(hG:red K G)(hp:p≠vz K): Xnm p≠vz K:=λh=>hp (by
 have Sg:=Xau (Xad hG)
 rw[Xgy hG] at h |-
 have h2:sgn K G (neg K p.2)=0:=h.2
 rw[Sg.sn] at h2
 exact⟨h.1,by omega⟩)
end
end
section
section
variable{K:Nat}{G:Tw K}{p q r u x y w z:V2 K}{s:El K}
end
end
end Go.Tow
namespace Go.Proofs.YtfjafaehfjjaiaaGreatDoor
open Go Go.Vm Go.Num Go.Tow
section
variable{K:Nat}{G:Tw K}{S:List (Tow.El K)}{N:List Nm}{n m k:Nat}{x y z:Nm}{a b v w:Tow.El K}{u s t:Vn}{p q r:V2 K}
def Xxn{K:Nat}(p q:V2 K): V2 K:=(Tow.add K p.1 (Tow.neg K q.1),Tow.add K p.2 (Tow.neg K q.2))
def Yf5{K:Nat}(p q:V2 K): V2 K:=(Tow.add K p.1 q.1,Tow.add K p.2 q.2)
theorem Ygf{K:Nat}{a b:Tow.El K}: toL K a=toL K b↔a=b:=⟨Xgk,λe=>by rw[e]⟩
theorem P9.Equal_g(W:Wn G S N)(hx:Gd G S N n x v)(hy:Gd G S N m y w)(hn:n<=400)(hm:m<=400): C0 39 [.d (dN x),.d (dN y)] (·=.b (dc (v=w))):=by
 have hG:=W.w.g
 have hO:oW fF 7995840=2*jW fF 7995840+cB fF.R fF.H+1:=rfl
 have hO1:=fO
 have hH:fF.H=6:=rfl
 have hR:fF.R=65:=rfl
 have hx':=hx.op1 hn
 have hy':=hy.op1 hm
 obtain⟨ρx,hx1,hx2⟩:=hx'.ex
 obtain⟨ρy,hy1,hy2⟩:=hy'.ex
 have hx3:=W.w.le hx1
 have hy3:=W.w.le hy1
 have hxr:=W.w.t hx1
 have hyr:=W.w.t hy1
 have hpx:=p16 (show x.k<=16 by omega)
 have hj:C0 88 [.d (dNs [x,y])] λv'=>∃m T a b,v'=.tup (.pr (.d (dNs [⟨m,T,a⟩,⟨m,T,b⟩])) (.d (.int .i64 0)))/\R9.JnR fF G S 7995840 v w m T a b:=P9.Join_ok W.w hx' hy' fO
 have fin:∀ {k:Nat} {T:Tw k} {a b:Tow.El k} {ρ:Nat->Tow.El K},TOk G S k T ρ->ev G ρ k a=v->ev G ρ k b=w->(dc (toL k a=toL k b)=true↔v=w):=λ{k T a b ρ} h1 h2 h3=>by
  rw[Xah,Ygf,<-h2,<-h3]
  exact⟨λe=>by rw[e],λe=>Xcs (Xad hG) h1.h h1.r e⟩
 refine En Tryz.func39 λ_ _ _=>?_
 refine Ce rfl (P9.begins_ok (T:=toT x.k x.t) (U:=toT y.k y.t) (TS.pt hxr) (TS.pt hyr) (by omega) (by rw[Xaa];omega)) ?_
 refine By rfl (λh1=>?_) λh1=>?_
 . refine Ce rfl (P9.begins_ok (T:=toT y.k y.t) (U:=toT x.k x.t) (TS.pt hyr) (TS.pt hxr) (by omega) (by rw[Xaa];omega)) ?_
   refine By rfl (λh2=>?_) λh2=>?_
   . refine Ce rfl (P9.sameElement_ok hx'.p.ps hy'.p.ps (by omega) (by rw[Xab];omega)) ?_
     refine R1 rfl (.bp ?_)
     have e1:(toT x.k x.t).take (toT y.k y.t).length=toT y.k y.t:=h1
     have e2:(toT y.k y.t).take (toT x.k x.t).length=toT x.k x.t:=h2
     have l1:=congrArg List.length e1
     have l2:=congrArg List.length e2
     rw[W0j,Xaa,Xaa] at l1 l2
     obtain⟨kx,tx,ax⟩:=x
     obtain⟨ky,ty,ay⟩:=y
     have l1:min ky kx=ky:=l1
     have l2:min kx ky=kx:=l2
     obtain rfl:kx=ky:=by omega
     have e3:toT kx tx=toT kx ty:=by
      have e1:(toT kx tx).take (toT kx ty).length=toT kx ty:=e1
      rwa[Xaa,W0b (by rw[Xaa];omega)] at e1
     obtain rfl:=Xht e3
     have hy2:ev G ρx kx ay=w:=by rw[<-hy2];exact Xa8 λi hi=>Hom.uniq hG hx1.h hy1.h i hi
     exact fin hx1 hx2 hy2
   . refine Ca rfl hj λv' hv=>?_
     obtain⟨m',T,a,b,rfl,ρ,j1,j2,j3,j4,j5⟩:=hv
     have jm:=W.w.le j1
     have jp:=p16 (show m'<=16 by omega)
     refine Yes rfl (by decide) ?_
     refine Dw rfl ?_
     refine Ix 0 rfl (u:=dN ⟨m',T,a⟩) rfl ?_
     refine Ix 1 rfl (u:=dN ⟨m',T,b⟩) rfl ?_
     refine Ce rfl (P9.sameElement_ok (l:=toL m' a) (m:=toL m' b) j4.ps j5.ps (by omega) (by rw[Xab];omega)) ?_
     exact R1 rfl (.bp (fin j1 j2 j3))
 . refine Ca rfl hj λv' hv=>?_
   obtain⟨m',T,a,b,rfl,ρ,j1,j2,j3,j4,j5⟩:=hv
   have jm:=W.w.le j1
   have jp:=p16 (show m'<=16 by omega)
   refine Yes rfl (by decide) ?_
   refine Dw rfl ?_
   refine Ix 0 rfl (u:=dN ⟨m',T,a⟩) rfl ?_
   refine Ix 1 rfl (u:=dN ⟨m',T,b⟩) rfl ?_
   refine Ce rfl (P9.sameElement_ok (l:=toL m' a) (m:=toL m' b) j4.ps j5.ps (by omega) (by rw[Xab];omega)) ?_
   exact R1 rfl (.bp (fin j1 j2 j3))
end
end Go.Proofs.YtfjafaehfjjaiaaGreatDoor
namespace Go.Tow
open Go.Proofs.YtfjafaehfjjaiaaGreatDoor (Yf5)
section
variable{K:Nat}
def Yle(h:Nat->El K): Nat->El K
 | 0=>zero K
 | k+1=>add K (Yle h k) (h k)
variable(G:Tw K)
include G
def pgn(g:Nat->V2 K)(n:Nat): El K:=Yle (λi=>Xc5 G (g i) (g ((i+1)%n))) n
variable{G}
end
section
variable{K:Nat}{G:Tw K}{u v w p q:V2 K}
end
end Go.Tow
namespace Go.Proofs.YtfjafaehfjjaiaaGreatDoor.P20
open Go Go.Vm Go.Num Go.Tow Go.Proofs.YtfjafaehfjjaiaaGreatDoor
open Go.Proofs.YtfjafaehfjjaiaaGreatDoor.P55 (v0 W0 g0 gv0 zw Xk8 Qp)
structure Sn where
 c:Nm
 v:Vn
 f:Int
abbrev dSe(s:Sn): D:=.st (.pr (dN s.c) (dT s.v s.f))
abbrev dSs(l:List Sn): D:=.sl 7 (l.map dSe)
abbrev dAr(x:Nm)(l:List Sn): D:=.st (.pr (dN x) (dSs l))
abbrev dA0: D:=.st (.pr R9.n0 (dSs []))
abbrev zA: AV:=.st (.pr (.st (.pr .nil .nil)) .nil)
theorem Yiw{g:Hp}{K:Hpl}: Fit g K (.st (.pr (.st (.pr .nil .nil)) .nil)) (.d dA0):=.sd (.pd R9.fit0 (.nil rfl))
abbrev hf2: Rat:=Rat.divInt 1 2
theorem Xqt: Qs 64 hf2:=by decide +kernel
section
variable{K:Nat}{G:Tw K}{S:List (Tow.El K)}{N:List Nm}{n m:Nat}{x y z:Nm}{a b:Tow.El K}
variable{K':Nat}{G':Tw K'}{S':List (Tow.El K')}{N':List Nm}{u s:Vn}{p q:V2 K'}{f g:Int}
theorem Xjm(W:Wn G S N)(hx:Gd G S N n x a)(hn:n<=800): C0 35 [.d (dN x)] (·=.b (dc (sgn K G a>0))):=by
 refine En Tryz.func35 λ_ _ _=>?_
 refine Ce rfl (P9.Sign_g W hx hn) ?_
 exact R0
theorem Ybu(W:Wn G S N)(hx:Gd G S N n x a)(hy:Gd G S N m y b)(hn:n<=400)(hm:m<=400): C0 38 [.d (dN x),.d (dN y)] (·=.b (dc (sgn K G (Tow.add K a (Tow.neg K b))<0))):=by
 refine En Tryz.func38 λ_ _ _=>?_
 refine Ce rfl (P9.Cmp_g W hx hy hn hm) ?_
 refine Yes rfl (by decide) ?_
 exact R0
theorem Xgg: C0 53 [.d (dN x)] (·=.d (dAr x [])):=by
 refine En Tryz.func53 λ_ _ _=>?_
 exact R1 rfl (.sd (.pd (.rf rfl) (.nil rfl)))
theorem half_g(W:Wn G S N)(hx:Gd G S N n x a)(hn:n<=400): C0 55 [.d (dN x)] (OpG G S N (n+1) (Tow.mul K G a (Tow.rat K hf2))):=by
 refine En Tryz.func55 λ_ _ _=>?_
 refine Dw rfl ?_
 refine Ce rfl (Xcf (a:=1) (b:=2) (by decide) (by decide)) ?_
 refine Ce rfl (P9.FromRat_ok (q:=hf2) Xqt (by decide)) ?_
 refine Ca rfl (P9.Mul_g W hx (Gd.rat W Xqt) (by omega) (by decide)) λv hv=>?_
 obtain⟨z,rfl,hz⟩:=hv
 exact Rt rfl (.tup (.cons (.rf rfl) Xa7)) ⟨z,rfl,hz⟩
def ScG(G:Tw K)(S:List (Tow.El K))(N:List Nm)(n:Nat)(a:Tow.El K)(G':Tw K')(p:V2 K')(u:Vn)(f:Int)(r:AV): Prop :=
 (¬sgn K G a>0/\r=.tup (.pr (.d dA0) (.d (.int .i64 1))))\/(sgn K G a>0/\(f=0/\Xcu G' p)/\r=.tup (.pr (.d (dAr n00 [])) (.d (.int .i64 0)))) \/
 (sgn K G a>0/\¬(f=0/\Xcu G' p)/\∃z,r=.tup (.pr (.d (dAr n00 [⟨z,u,f⟩])) (.d (.int .i64 0)))/\Gd G S N n z (Tow.mul K G a (Tow.rat K hf2)))
theorem Xlp(W:Wn G S N)(W':Wn G' S' N')(hx:Gd G S N n x a)(hu:Gv G' S' N' m u p)(hn:n<=400)(hm:m<=800): C0 18 [.d (dN x),.d (dT u f)] (ScG G S N (n+1) a G' p u f):=by
 refine En Tryz.func18 λ_ _ _=>?_
 refine Ce rfl (Xjm W hx (by omega)) ?_
 refine By rfl (λh=>?_) λh=>?_
 . have h:¬sgn K G a>0:=by simpa only [Xal,Xah] using h
   exact Rt rfl (.tup (.cons Yiw Xa7)) (.inl ⟨h,rfl⟩)
 have h:sgn K G a>0:=W2g.1 (by simpa only [Xal,Xah] using h)
 refine Ce rfl (P9.FromInt_ok (z:=0) (by decide)) ?_
 refine Ce rfl Xgg ?_
 refine Ce rfl (P19.Zero_g W' hu hm) ?_
 refine By rfl (λh1=>?_) λh1=>?_
 . exact Rt rfl (.tup (.cons (.rf rfl) Xa7)) (.inr (.inl ⟨h,h1,rfl⟩))
 . refine Ca rfl (half_g W hx hn) λv hv=>?_
   obtain⟨z,rfl,hz⟩:=hv
   refine No rfl (by decide) ?_
   exact Rt rfl (.tup (.cons (.sd (.pd (.rf rfl) (.lit rfl))) Xa7)) (.inr (.inr ⟨h,h1,z,rfl,hz⟩))
def Ydj(G:Tw K)(g:Nat->V2 K)(n:Nat)(k:Nat): Tow.El K:=Tow.add K (Tow.rat K ((0:Int):Rat)) (Yle (λi=>Xc5 G (g i) (g ((i+1)%n))) k)
theorem Ybd(g:Nat->V2 K)(n:Nat): Ydj G g n 0=Tow.rat K ((0:Int):Rat):=(Xaz K G).az _
theorem Ybb(g:Nat->V2 K)(n k:Nat): Ydj G g n (k+1)=Tow.add K (Ydj G g n k) (Xc5 G (g k) (g ((k+1)%n))):=((Xaz K G).aa ..).symm
theorem Ybc(g:Nat->V2 K)(n:Nat): Ydj G g n n=pgn G g n:=by
 have:Tow.rat K ((0:Int):Rat)=zero K:=Xdx K
 unfold Ydj
 rw[this,(Xaz K G).za]
 rfl
theorem remN(a:Nat){m:Nat}(hm:0<m): arB .rem .i64 a m (a%m:Nat):=R9.remN hm
theorem Xi0(W:Wn G S N){l:List Vn}{g:Nat->V2 K}(hl:∀(i:Nat) v,l[i]?=some v->Gv G S N n v (g i))(h0:0<l.length)(h8:l.length<=8)(hn:1<=n/\n<=4): C0 20 [.d (dVs l)] (λr=>∃z,r=.tup (.pr (.d (dAr z [])) (.d (.int .i64 0)))/\Gd G S N 130 z (Tow.mul K G (pgn G g l.length) (Tow.rat K hf2))):=by
 have lm:(l.map dV).length=l.length:=W0i ..
 refine En Tryz.func20 λ_ _ _=>?_
 refine Ce rfl (P9.FromInt_ok (z:=0) (by decide)) ?_
 refine Lo (λ((k,z):Nat×Nm)=>[(0,.d (dVs l)),(2,.ptr 2 0),(4,.ptr 4 0),(12,.d (dVs l)),(13,.d (.int .i64 (l.map dV).length)),(14,.d (.int .i64 k))]) (λ(k,z)=>[(2,.var zA),(4,.var (.d (dN z)))]) (λ(k,z)=>k<=l.length/\Gd G S N (1+16*k) z (Ydj G g l.length k)) (λ(k,_)=>l.length-k) (0,n00) [] rfl ⟨W0z _,by rw[Ybd];exact Gd.rat W (by decide +kernel)⟩ ?_
 rintro⟨k,z⟩ ⟨hk,hz⟩
 refine By rfl (λh=>?_) λh=>?_<;>simp only[lm] at h
 . obtain⟨v,hv⟩:∃v,l[k]?=some v:=⟨_,W0c (by omega)⟩
   obtain⟨w,hw⟩:∃w,l[(k+1)%l.length]?=some w:=⟨_,W0c (W1q _ h0)⟩
   refine Ix k rfl (mp hv) ?_
   first | refine Dw rfl ?_ | refine Dz rfl ?_
   refine Ar (k+1:Nat) rfl ?_
   refine Ar ((k+1)%l.length:Nat) rfl ?_ (by rw[lm];exact remN _ h0)
   refine Ix ((k+1)%l.length) rfl (mp hw) ?_
   refine Ca rfl (P13.Cross_g W (hl k v hv) (hl _ w hw) (by omega) (by omega) (by omega)) λv hv=>?_
   obtain⟨c,rfl,hc⟩:=hv
   refine Yes rfl (by decide) ?_
   refine Ca rfl (P9.Add_g W hz hc (by omega) (by omega)) λv hv=>?_
   obtain⟨z',rfl,hz'⟩:=hv
   rw[<-Ybb] at hz'
   refine No rfl (by decide) ?_
   refine Ar (k+1:Nat) rfl ?_
   exact Bk (k+1,z') [] rfl ⟨by omega,hz'.mono (by omega)⟩ (by show l.length-(k+1)<l.length-k;omega)
 . obtain rfl:k=l.length:=by omega
   rw[Ybc] at hz
   refine Ca rfl (half_g W hz (by omega)) λv hv=>?_
   obtain⟨z',rfl,hz'⟩:=hv
   refine No rfl (by decide) ?_
   refine Ce rfl Xgg ?_
   exact Rt rfl (.tup (.cons (.rf rfl) Xa7)) ⟨z',rfl,hz'.mono (by omega)⟩
end
end Go.Proofs.YtfjafaehfjjaiaaGreatDoor.P20

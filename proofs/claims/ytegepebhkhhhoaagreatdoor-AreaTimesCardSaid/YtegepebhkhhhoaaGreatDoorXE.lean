/- part 5 -/
import Derived.Test.YtegepebhkhhhoaaGreatDoorXD
import Derived.Test.YtegepebhkhhhoaaGreatDoorCards
import Derived.Test.YtegepebhkhhhoaaGreatDoorTie
import Derived.Deep.DeepHandedRow
import Derived.Lib.LaidTab
import Derived.MakeChecks
import Derived.Stop.LaidErr
import Derived.Lib.AppendZeros
set_option linter.unusedVariables false
set_option linter.unusedSimpArgs false
set_option maxRecDepth 100000
namespace Go.Proofs.YtegepebhkhhhoaaGreatDoor.R9
open Go Go.Vm Go.Num Go.Tow Go.Proofs.YtegepebhkhhhoaaGreatDoor
abbrev n0: D:=.st (.pr (dts []) (dqs []))
theorem fit0{g:Hp}{K:Hpl}: Fit g K (.st (.pr .nil .nil)) (.d n0):=.sd (.pd (.nil rfl) (.nil rfl))
section
variable{K:Nat}{G:Tw K}{S:List (Tow.El K)}{r p:Nat}{x y:Nm}{vx vy:Tow.El K}
theorem Ybf(W:Wy G S wR)(hx:NOk G S r p x vx)(hy:NOk G S r p y vy)(hp:p<=9000000000): C0 85 [.d (dN x),.d (dN y)] λv=>∃m T a b,v=.tup (.pr (.d (dN ⟨m,T,a⟩)) (.pr (.d (dN ⟨m,T,b⟩)) (.d (.int .i64 0))))/\JnR G S p vx vy m T a b:=by
 refine En Tryz.func85 λ_ _ _=>?_
 refine Ca rfl (Join_ok W hx hy hp) λv hv=>?_
 obtain⟨m,T,a,b,rfl,h⟩:=hv
 refine No rfl (by simp) ?_
 refine Dz rfl ?_
 refine Ix 0 rfl (u:=dN ⟨m,T,a⟩) rfl ?_
 refine Ix 1 rfl (u:=dN ⟨m,T,b⟩) rfl ?_
 exact Rt rfl (.tup (.cons (.rf rfl) (.cons (.rf rfl) Xa2))) ⟨m,T,a,b,rfl,h⟩
def OpR(G:Tw K)(S:List (Tow.El K))(p:Nat)(w:Tow.El K)(v:AV): Prop:=∃z:Nm,v=.tup (.pr (.d (dN z)) (.d (.int .i64 0)))/\NOk G S wR p z w
theorem Add_ok(W:Wy G S wR)(hx:NOk G S r p x vx)(hy:NOk G S r p y vy)(hp:p<=9000000000): C0 70 [.d (dN x),.d (dN y)] (OpR G S (oW p) (Tow.add K vx vy)):=by
 have hO:oW p=16*p+147714794:=rfl
 have hJ:jW p=8*p+73803682:=rfl
 refine En Tryz.func70 λ_ _ _=>?_
 refine Ca rfl (Ybf W hx hy hp) λv hv=>?_
 obtain⟨m,T,a,b,rfl,ρ,h1,h3,h4,h5,h6⟩:=hv
 have h2:=W.t h1
 have hm:=W.le h1
 refine No rfl (by simp) ?_
 refine Dw rfl ?_
 refine Ce rfl (R6.Add_el (k:=m) (a:=a) (b:=b) (by omega) h5.ps h6.ps (by omega)) ?_
 exact Rt rfl (.tup (.cons (.rf rfl) Xa2)) ⟨⟨m,T,Tow.add m a b⟩,rfl,⟨ρ,h1,by rw[<-h3,<-h4];exact Xc8⟩,h2,by rw[Xax];exact(h5.add h6).mono (by omega)⟩
theorem Mul_ok(W:Wy G S wR)(hx:NOk G S r p x vx)(hy:NOk G S r p y vy)(hp:p<=9000000000): C0 37 [.d (dN x),.d (dN y)] (OpR G S (oW p) (Tow.mul K G vx vy)):=by
 have hO:oW p=16*p+147714794:=rfl
 have hJ:jW p=8*p+73803682:=rfl
 refine En Tryz.func37 λ_ _ _=>?_
 refine Ca rfl (Ybf W hx hy hp) λv hv=>?_
 obtain⟨m,T,a,b,rfl,ρ,h1,h3,h4,h5,h6⟩:=hv
 have h2:=W.t h1
 have hm:=W.le h1
 have hc:=Xgs (r:=wR) hm
 have hC:=wC
 refine No rfl (by simp) ?_
 refine Dw rfl ?_
 refine Ce rfl (R6.Mul_el (k:=m) (t:=T) (a:=a) (b:=b) h2 h5 h6 (by omega) (by omega)) ?_
 exact Rt rfl (.tup (.cons (.rf rfl) Xa2)) ⟨⟨m,T,Tow.mul m T a b⟩,rfl,⟨ρ,h1,by rw[<-h3,<-h4];exact Xbd h1.h⟩,h2,(h5.mul h2 h6).mono (by omega)⟩
theorem Neg_ok(hx:NOk G S r p x vx)(hk:x.k<=16)(hp:p<=8796093022208): C0 31 [.d (dN x)] (·=.d (dN ⟨x.k,x.t,Tow.neg x.k x.a⟩)):=by
 refine En Tryz.func31 λ_ _ _=>?_
 refine Dw rfl ?_
 refine Ce rfl (R6.Neg_el hk hx.p.ps hp) ?_
 exact R1 rfl (.rf rfl)
theorem Sub_ok(W:Wy G S wR)(hx:NOk G S r p x vx)(hy:NOk G S r p y vy)(hp:p<=9000000000): C0 116 [.d (dN x),.d (dN y)] (OpR G S (oW p) (Tow.add K vx (Tow.neg K vy))):=by
 have:=hy.le (Xad W.g) W.s
 refine En Tryz.func116 λ_ _ _=>?_
 refine Dw rfl ?_
 refine Ce rfl (Neg_ok hy (by omega) (by omega)) ?_
 refine Ca rfl (Add_ok W hx hy.neg hp) λv hv=>?_
 obtain⟨z,rfl,h⟩:=hv
 exact Rt rfl (.tup (.cons (.rf rfl) Xa2)) ⟨z,rfl,h⟩
theorem Sign_ok(hG:red K G)(hx:NOk G S r p x vx)(hk:x.k<=16)(hv:vB r x.k p<=4398046511104): C0 24 [.d (dN x)] (·=.d (.int .i64 (sgn K G vx))):=by
 refine En Tryz.func24 λ_ _ _=>?_
 refine Ce rfl (R7.Fast_ok hx.r hx.p hk hv) ?_
 rw[hx.sgn (Xad hG)]
 exact R0
theorem Div_ok(W:Wy G S wR){q:Nat}(hx:NOk G S r q x vx)(hy:NOk G S r p y vy)(hq:iS r 3 p<=q)(hi:iB r 3 p<=4398046511104)(hp:q<=9000000000):
 C0 199 [.d (dN x),.d (dN y)] λv=>(vy=zero K/\v=.tup (.pr (.d n0) (.d (.int .i64 6))))\/∃w,Tow.mul K G w vy=rat K 1/\OpR G S (oW q) (Tow.mul K G vx w) v:=by
 have hy3:=hy.le (Xad W.g) W.s
 obtain⟨ρ,h1,h2⟩:=hy.ex
 refine En Tryz.func199 λ_ _ _=>?_
 by_cases h0:y.a=zero y.k
 . have hc:=R6.Inv0_ok (t:=y.t) (by omega)
   rw[<-h0] at hc
   refine Ce rfl hc ?_
   refine Yes rfl (by decide) ?_
   exact Rt rfl (.tup (.cons fit0 Xa2)) (.inl ⟨by rw[<-h2,h0,Xed],rfl⟩)
 . obtain⟨i,hi1⟩:=(Xc3 h1.r).2 y.a h0
   have hle:=Yjf (r:=r) (p:=p) hy3
   have hls:=Ye3 (r:=r) (p:=p) hy3
   refine Ce rfl (R6.Inv_ok hy.r hy.p h1.r hi1 (by omega) (by omega)) ?_
   refine No rfl (by simp) ?_
   have hz:NOk G S r q ⟨y.k,y.t,i⟩ (ev G ρ y.k i):=⟨⟨ρ,h1,rfl⟩,hy.r,(Sz.invS hy.r hy.p hi1).mono (by omega)⟩
   refine Ca rfl (Mul_ok (y:=⟨y.k,y.t,i⟩) W hx hz hp) λv hv=>?_
   obtain⟨z,rfl,h⟩:=hv
   exact Rt rfl (.tup (.cons (.rf rfl) Xa2)) (.inr ⟨ev G ρ y.k i,by rw[<-h2,<-Xbd h1.h,Xch hi1,Xdv],z,rfl,h⟩)
def RtR(x:Nm)(v:AV): Prop:=∃z:Nm,v=.tup (.pr (.d (dN z)) (.d (.int .i64 0)))/\((∃y,z=⟨x.k,x.t,y⟩/\Tow.mul x.k x.t y y=x.a/\0<=sgn x.k x.t y)\/(z=⟨x.k+1,tsn x.t x.a,Xdd (x.k+1) x.k⟩/\0<=sgn x.k x.t x.a/\¬Xdc x.k x.t x.a))
theorem Sqrt_ok(hr:red x.k x.t)(hT:TS r x.k x.t)(ha:Sz p (toL x.k x.a))(h0:0<=sgn x.k x.t x.a)(hk:x.k<8)(hq:qB r x.k p<=4398046511104)(hq2:qB r x.k r<=4398046511104)(hv:vB r x.k (p+gC r x.k)<=4398046511104)(hv2:vB r x.k r<=4398046511104):
 C0 200 [.d (dN x)] (RtR x):=by
 refine En Tryz.func200 λ_ _ _=>?_
 refine Ca rfl (R8.Adjoin_ok hT ha hr hk hq hq2 hv hv2) λv hv=>?_
 rcases hv with ⟨h1,rfl⟩ | ⟨y,h1,h2,rfl⟩ | ⟨h1,h2,h3,rfl⟩
 . omega
 . refine No rfl (by simp) ?_
   exact Rt rfl (.tup (.cons (.rf rfl) Xa2)) ⟨⟨x.k,x.t,y⟩,rfl,.inl ⟨y,rfl,h1,h2⟩⟩
 . refine No rfl (by simp) ?_
   exact Rt rfl (.tup (.cons (.rf rfl) Xa2)) ⟨⟨x.k+1,tsn x.t x.a,Xdd (x.k+1) x.k⟩,rfl,.inr ⟨rfl,h1,h2⟩⟩
theorem FromRat_ok{q:Rat}: C0 49 [.d (dq q)] (·=.d (dN ⟨0,(),q⟩)):=by
 refine En Tryz.func49 λ_ _ _=>?_
 exact R1 rfl (.sd (.pd (.nil rfl) (.lit rfl)))
theorem FromInt_ok{z:Int}(h:-9223372036854775808<=z/\z<9223372036854775808): C0 15 [.d (.int .i64 z)] (·=.d (dN ⟨0,(),(z:Rat)⟩)):=by
 refine En Tryz.func15 λ_ _ _=>?_
 refine Ce rfl (R2.FromInt_ok h) ?_
 refine Ce rfl FromRat_ok ?_
 exact R1 rfl (.rf rfl)
theorem Frac_ok{a b:Int}(ha:-9223372036854775808<=a/\a<9223372036854775808)(hb:-9223372036854775808<=b/\b<9223372036854775808)(hb0:b≠0): C0 197 [.d (.int .i64 a),.d (.int .i64 b)] (·=.d (dN ⟨0,(),Rat.divInt a b⟩)):=by
 refine En Tryz.func197 λ_ _ _=>?_
 refine Ce rfl (R2.Frac_ok ha hb hb0) ?_
 refine Ce rfl FromRat_ok ?_
 exact R1 rfl (.rf rfl)
theorem Xhb: C0 198 [.d (dN x),.d (.int .i64 0),.d (dN y)] (·=.d (dN x)):=by
 refine En Tryz.func198 λ_ _ _=>?_
 refine No rfl (by simp) ?_
 exact R1 rfl (.rf rfl)
theorem Xzq: C0 198 [.d n0,.d (.int .i64 6),.d (dN y)] (·=.d (dN y)):=by
 refine En Tryz.func198 λ_ _ _=>?_
 refine Yes rfl (by simp) ?_
 exact R1 rfl (.rf rfl)
end
end Go.Proofs.YtegepebhkhhhoaaGreatDoor.R9
namespace Go.Vm
open Go
def Yli: Op->Bool
 | .buildSlice _ _ _=>true
 | _=>false
def Ylh: List Oper->List Nat
 | []=>[]
 | o::l=>match Yli o.op,o.dst with
  | true,some d=>d::Ylh l
  | _,_=>Ylh l
def Xvt(E:Env)(LB:List Nat)(L:List Oper): Bool:=(LB.all λb=>!Xcf E b)&&L.all λo=>match o.dst with
 | none=>true
 | some d=>!inL d LB||Yli o.op
def apD(LB:List Nat)(k:Oper): Option Nat:=match k.op,k.dst with
 | .call ⟨.builtin .append,⟨[.tmp b,_]⟩,_⟩,some d=>match inL b LB with
  | true=>some d
  | false=>none
 | _,_=>none
def Yi4(LB:List Nat)(L:List Oper)(D:List Nat)(E:Env)(T:Trk)(k i:Oper): Bool:=match k.op,apD LB i with
 | .load _ (.tmp a),some d=>match bnd D E T a with
  | some la=>Xb4 L k.dst i&&Xb4 L i.dst k && !inL d la
  | none=>false
 | _,_=>false
def Ygk(LB:List Nat)(L:List Oper)(k i:Oper): Bool:=match Xi6 k.op,k.dst,apD LB i with
 | true,some dk,some d=>Xb4 L k.dst i&&Xb4 L i.dst k
 | _,_,_=>false
def ZL(LB:List Nat)(s:S): Prop:=∀b,inL b LB=true->s.1 b=none\/s.1 b=some .un\/∃sz xs,s.1 b=some (.lit sz xs)
section
variable{tb:Nat->Option TI}
theorem Yhk{g g':Hp}{z:D}{sz:Nat}{c:AV}{ys:List D}(hg:∀o s xs,g o=some (.arr s xs)->g' o=some (.arr s xs))(h:Xk6 g z sz c=some ys): Xk6 g' z sz c=some ys:=by
 unfold Xk6 at h |-
 split at h
 . split at h<;>try cases h
   rename_i ho
   rw[hg _ _ _ ho];exact h
 . split at h<;>try cases h
   rename_i ho
   rw[hg _ _ _ ho];exact h
 . exact h
theorem Yaw{LB:List Nat}{k:Oper}{d:Nat}(hk:apD LB k=some d){s:S}(hz:ZL LB s){r:AV×List (Nat×Ob)}{g:Hp}(h:eff tb k (s.1,g)=some r): k.dst=some d/\Xal k=false/\g d=none/\(r.2=[]\/∃ob,r.2=[(d,ob)])/\∀g',g' d=none->(∀o s xs,g o=some (.arr s xs)->g' o=some (.arr s xs))->eff tb k (s.1,g')=some r:=by
 unfold apD at hk
 split at hk<;>try cases hk
 rename_i b y tys d' ho hd
 split at hk<;>cases hk
 rename_i hb
 unfold eff at h
 split at h<;>try cases h
 rename_i asx has
 split at h<;>try cases h
 rename_i hst
 have has0:=has
 have has:getEs s.1 [.tmp b,y]=some asx:=by rw[ho] at has;exact has
 simp only[getEs,Xcr] at has
 split at has<;>try cases has
 rename_i v hv
 split at has<;>try cases has
 rename_i as' has'
 split at has'<;>try cases has'
 rename_i w hw
 have htys:∃T T',tys=⟨[T,T']⟩:=by
  rcases tys with ⟨_ | ⟨T,_ | ⟨T',_ | ⟨U,l⟩⟩⟩⟩
  . rw[ho] at h;simp[F,Fp] at h
  . rw[ho] at h;simp[F,Fp] at h
  . exact⟨_,_,rfl⟩
  . rw[ho] at h;simp[F,Fp] at h
 obtain⟨T,T',rfl⟩:=htys
 rcases hz b hb with e | e | ⟨sz,xs,e⟩
 . rw[e] at hv;cases hv
 . rw[e] at hv;injection hv with hv;subst hv
   exfalso
   rw[ho] at h
   simp only[F] at h
   repeat' split at h
   all_goals first
    | (cases h;done)
    | (simp[Xko] at h;done)
    | simp_all[Fp,Xko]
 . rw[e] at hv;injection hv with hv;subst hv
   rw[ho] at h
   simp only[F,hd,W3y] at h
   split at h<;>try cases h
   rename_i hT
   split at h<;>try cases h
   rename_i ti ht hgd
   split at h<;>try cases h
   rename_i sz' xs' hz'
   split at h<;>try cases h
   rename_i ys hys
   refine⟨hd,by unfold Xal;rw[ho];rfl,hgd,?_,λg' h1 h2=>?_⟩
   . simp only[Xko] at h
     split at h
     . cases h;exact .inr ⟨_,rfl⟩
     . split at h<;>cases h
       exact .inl rfl
   . unfold eff
     rw[has0]
     simp only[hst]
     rw[ho]
     subst hT
     have hs':=Yhk h2 hys
     rw[hz'] at hs'
     simp only[F,hd,W3y,ht,h1,hz',hs',if_true]
     exact h
theorem Xgi{LB:List Nat}{L:List Oper}{E:Env}{T:Trk}{k i:Oper}(h:Yi4 LB L (dsL L) E T k i=true): Xal k=false/\Xb4 L k.dst i=true/\Xb4 L i.dst k=true/\(∃d,apD LB i=some d)/\∀ {s:S},ZT (dsL L) E T s->ZL LB s ->
 (∀ {rk},efw tb L k s=some rk->rk.2=[])/\∀ {g:Hp} {ri:AV×List (Nat×Ob)},efw tb L i (s.1,g)=some ri->∀rk,efw tb L k (s.1,g)=some rk↔efw tb L k (s.1,Xbi g ri.2)=some rk:=by
 unfold Yi4 at h
 split at h<;>try cases h
 rename_i T1 a d hk hi
 split at h<;>try cases h
 rename_i la hla
 simp only[W0f,W1t] at h
 obtain⟨⟨h1,h2⟩,h3⟩:=h
 refine⟨by unfold Xal;rw[hk];rfl,h1,h2,⟨d,hi⟩,λ{s} hz hl=>⟨λ{rk} hr=>?_,λ{g ri} hri rk=>?_⟩⟩
 . rcases Xa4 hr with ⟨_,e,_⟩ | ⟨_,e⟩
   . exact e
   . exact(Yna (o:=k) (by rw[hk];rfl) (e:=s.1) (g:=s.2) e).1
 . have key:∀ {g g':Hp},(∀o,o≠d->g o=g' o)->efw tb L k (s.1,g)=some rk->efw tb L k (s.1,g')=some rk:=by
    intro g g' hg hr
    rcases Xa4 hr with ⟨_,_,e⟩ | ⟨hw,e⟩
    . exact e g'
    . have:∃v,s.1 a=some v:=by
       unfold eff at e
       split at e<;>try cases e
       rename_i asx has
       rw[hk] at has
       simp only[Op.operands,getEs,Xcr] at has
       split at has<;>try cases has
       exact⟨_,by assumption⟩
      obtain⟨v,hv⟩:=this
      refine Xew (s:=(s.1,g)) hw (Yi5 hk hv (λo ho=>hg o λhb=>?_) e).2
      subst hb
      rw[Ym1.2 (Xnv hz hla hv ho)] at h3;cases h3
   have hu:∀o,o≠d->g o=Xbi g ri.2 o:=by
    intro o hod
    rcases Xa4 hri with ⟨_,e,_⟩ | ⟨_,e⟩
    . rw[e];rfl
    . obtain⟨_,_,_,e1 | ⟨ob,e1⟩,_⟩:=Yaw hi hl e
      . rw[e1];rfl
      . rw[e1];exact(Xak hod).symm
   exact⟨key hu,key λo ho=>(hu o ho).symm⟩
theorem Xva{o:Oper}(hn:Xi6 o.op=true){s:S}{r:AV×List (Nat×Ob)}(h:eff tb o s=some r): ∃a,r.2=[(o.dst.getD 0,.var a)]/\s.2 (o.dst.getD 0)=none/\∀g',g' (o.dst.getD 0)=none->eff tb o (s.1,g')=some r:=by
 have hc:cls o.op=2:=by unfold Xi6 at hn;split at hn<;>first | (rename_i e;rw[e];rfl) | cases hn
 obtain⟨ob,h1,h2,h3⟩:=Yow (e:=s.1) (g:=s.2) hc h
 have:∃a,r.2=[(o.dst.getD 0,.var a)]:=by
  unfold eff at h
  split at h<;>try cases h
  split at h<;>try cases h
  unfold Xi6 at hn
  split at hn<;>try cases hn
  all_goals
   rename_i ho
   rw[ho] at h
   simp only[F] at h
  . split at h<;>cases h;exact⟨_,rfl⟩
  . split at h<;>try cases h
    split at h<;>cases h;exact⟨_,rfl⟩
 obtain⟨a,ha⟩:=this
 exact⟨a,ha,h2,h3⟩
theorem Xj5{LB:List Nat}{L:List Oper}{k i:Oper}(h:Ygk LB L k i=true): Xi6 k.op=true/\Xal k=false/\Xb4 L k.dst i=true/\Xb4 L i.dst k=true/\∃dk d,k.dst=some dk/\apD LB i=some d:=by
 unfold Ygk at h
 split at h<;>try cases h
 rename_i dk d h1 h2 h3
 simp only[W0f] at h
 refine⟨h1,?_,h.1,h.2,dk,d,h2,h3⟩
 unfold Xi6 at h1
 unfold Xal
 split at h1<;>first | (rename_i e;rw[e];rfl) | cases h1
theorem Xlk{LB:List Nat}{L:List Oper}{k i:Oper}(h:Ygk LB L k i=true){s:S}(hl:ZL LB s){rk ri:AV×List (Nat×Ob)}:
 (efw tb L k s=some rk->efw tb L i s=some ri->efw tb L i (s.1,Xbi s.2 rk.2)=some ri/\efw tb L k (s.1,Xbi s.2 ri.2)=some rk/\Xbi (Xbi s.2 ri.2) rk.2=Xbi (Xbi s.2 rk.2) ri.2) /\
 (efw tb L k s=some rk->efw tb L i (s.1,Xbi s.2 rk.2)=some ri->efw tb L i s=some ri)/\(efw tb L i s=some ri->efw tb L k (s.1,Xbi s.2 ri.2)=some rk->efw tb L k s=some rk):=by
 obtain⟨hn,_,a1,a2,dk,d,hdk,hd⟩:=Xj5 h
 have hi0:i.dst=some d:=by
  unfold apD at hd
  split at hd<;>try cases hd
  rename_i h1 h2
  split at hd<;>cases hd
  exact h2
 have hne:dk≠d:=Xgo a1 hdk hi0
 refine⟨λh1 h2=>?_,λh1 h2=>?_,λh1 h2=>?_⟩
 . rcases Xa4 h1 with ⟨_,e1,f1⟩ | ⟨w1,e1⟩
   . rw[e1];exact⟨h2,f1 _,rfl⟩
   . obtain⟨a,k1,k2,k3⟩:=Xva hn e1
     rw[hdk] at k1 k2 k3
     simp only[W3y] at k1 k2 k3
     rcases Xa4 h2 with ⟨_,e2,f2⟩ | ⟨w2,e2⟩
     . rw[e2];exact⟨f2 _,h1,rfl⟩
     . obtain⟨_,_,j2,j3,j4⟩:=Yaw hd hl (g:=s.2) e2
       refine⟨?_,?_,?_⟩
       . rw[k1]
         refine Xew (s:=s) w2 (j4 _ (by show upd s.2 dk _ d=none;rw[Xak λe=>hne e.symm];exact j2) λo sz xs ho=>?_)
         show upd s.2 dk _ o=_
         rw[Xak λe=>by rw[e,k2] at ho;cases ho];exact ho
       . refine Xew (s:=s) w1 (k3 _ ?_)
         rcases j3 with e | ⟨ob,e⟩<;>rw[e]
         . exact k2
         . show upd s.2 d ob dk=none;rw[Xak hne];exact k2
       . rw[k1]
         rcases j3 with e | ⟨ob,e⟩<;>rw[e]
         . rfl
         . exact Xh1 (λe=>hne e.symm)
 . rcases Xa4 h1 with ⟨_,e1,f1⟩ | ⟨w1,e1⟩
   . rw[e1] at h2;exact h2
   . obtain⟨a,k1,k2,k3⟩:=Xva hn e1
     rw[hdk] at k1 k2
     simp only[W3y] at k1 k2
     rcases Xa4 h2 with ⟨_,e2,f2⟩ | ⟨w2,e2⟩
     . exact f2 s.2
     . obtain⟨_,_,j2,j3,j4⟩:=Yaw (s:=s) hd hl e2
       rw[k1] at j2 j4
       have j2:upd s.2 dk (.var a) d=none:=j2
       rw[Xak λe=>hne e.symm] at j2
       refine Xew (s:=s) w2 (j4 s.2 j2 λo sz xs ho=>?_)
       have ho:upd s.2 dk (.var a) o=_:=ho
       rcases Xaf ho with ⟨_,e⟩ | ⟨_,e⟩
       . cases e
       . exact e
 . rcases Xa4 h1 with ⟨_,e1,f1⟩ | ⟨w1,e1⟩
   . rw[e1] at h2;exact h2
   . obtain⟨_,_,j2,j3,j4⟩:=Yaw hd hl (g:=s.2) e1
     rcases Xa4 h2 with ⟨_,e2,f2⟩ | ⟨w2,e2⟩
     . exact f2 s.2
     . obtain⟨a,k1,k2,k3⟩:=Xva (s:=(s.1,Xbi s.2 ri.2)) hn e2
       rw[hdk] at k2 k3
       simp only[W3y] at k2 k3
       refine Xew (s:=s) w2 (k3 s.2 ?_)
       rcases j3 with e | ⟨ob,e⟩<;>rw[e] at k2
       . exact k2
       . have k2:upd s.2 d ob dk=none:=k2
         rwa[Xak hne] at k2
theorem Ykj{o:Oper}(ho:Yli o.op=true){s:S}{r:AV×List (Nat×Ob)}(h:eff tb o s=some r): ∃sz xs,r.1=.lit sz xs:=by
 unfold eff at h
 split at h<;>try cases h
 split at h<;>try cases h
 unfold Yli at ho
 split at ho<;>try cases ho
 rename_i ho
 rw[ho] at h
 simp only[F,Fp] at h
 split at h<;>try cases h
 rename_i hq
 split at hq<;>try cases hq
 split at hq<;>try cases hq
 split at hq<;>cases hq
 exact⟨_,_,rfl⟩
theorem ZL.aft{E:Env}{LB:List Nat}{L:List Oper}(hL:Xvt E LB L=true){o:Oper}(ho:o∈L){s:S}(hz:ZL LB s){r:AV×List (Nat×Ob)}(hr:r.1=.un\/Xal o=true\/eff tb o s=some r): ZL LB (aft s o r):=λb hb=>by
 by_cases hd:o.dst=some b
 . rw[Ykv hd]
   simp only[Xvt,W0f] at hL
   have:=W1o.1 hL.2 o ho
   rw[hd] at this
   simp only[hb,Bool.not_true,Bool.false_or] at this
   rcases hr with hr | hr | hr
   . rw[hr];exact .inr (.inl rfl)
   . obtain⟨x,asx,tys,hc⟩:=Xi7 hr
     rw[hc] at this;cases this
   . obtain⟨sz,xs,e⟩:=Ykj this hr
     rw[e];exact .inr (.inr ⟨_,_,rfl⟩)
 . rw[Ynq hd];exact hz b hb
def spL(LB:List Nat)(L:List Oper)(E:Env)(T:Trk)(k i:Oper): Bool:=Yi4 LB L (dsL L) E T k i||Yi4 LB L (dsL L) E T i k||Ygk LB L k i||Ygk LB L i k
def Yoy: St->Bool
 | .o _ _ L _ _ E _=>Xvt E (Ylh L) L&&Xmk (dsL L) E (trk (dsL L) E L []) L&&Xhs L (spL (Ylh L) L E (trk (dsL L) E L [])) [] [] L
 | _=>false
theorem Dm.lit{L:List Oper}{E:Env}{T:Trk}{LB:List Nat}(hL:Xvt E LB L=true)(hT:Xmk (dsL L) E T L=true): Dm tb L (spL LB L E T) λs=>ZT (dsL L) E T s/\ZL LB s:=by
 have fin:∀ {k i:Oper} {s:S} {rk ri:AV×List (Nat×Ob)},Xb4 L i.dst k=true->Xbi (Xbi s.2 ri.2) rk.2=Xbi (Xbi s.2 rk.2) ri.2->Vm.aft (Vm.aft s i ri) k rk=Vm.aft (Vm.aft s k rk) i ri:=by
  intro k i s rk ri h hg
  unfold Vm.aft
  rw[S.put_g,S.put_g,hg]
  have e1:=S.put_e (s:=s) (g:=Xbi s.2 ri.2) (g':=s.2) (d:=i.dst) (v:=ri.1)
  have e2:=S.put_e (s:=s) (g:=Xbi s.2 rk.2) (g':=s.2) (d:=k.dst) (v:=rk.1)
  rw[e1,e2]
  exact Xlf (s:=s) (λa b ha hb=>Xgo h ha hb) rfl
 have one:∀ {k i:Oper} {s:S} {rk ri:AV×List (Nat×Ob)},Yi4 LB L (dsL L) E T k i=true->ZT (dsL L) E T s/\ZL LB s->efw tb L k s=some rk->efw tb L i s=some ri->efw tb L i (Vm.aft s k rk)=some ri/\efw tb L k (Vm.aft s i ri)=some rk/\Vm.aft (Vm.aft s i ri) k rk=Vm.aft (Vm.aft s k rk) i ri:=by
  intro k i s rk ri h hz h1 h2
  obtain⟨c1,a1,a2,_,hh⟩:=Xgi (tb:=tb) h
  obtain⟨b1,b2⟩:=hh hz.1 hz.2
  have e:=b1 h1
  exact⟨by rw[Xbp a1,e];exact h2,by rw[Xbp a2];exact(b2 (g:=s.2) h2 rk).1 h1,fin a2 (by rw[e];rfl)⟩
 have two:∀ {k i:Oper} {s:S} {rk ri:AV×List (Nat×Ob)},Ygk LB L k i=true->ZL LB s->efw tb L k s=some rk->efw tb L i s=some ri->efw tb L i (Vm.aft s k rk)=some ri/\efw tb L k (Vm.aft s i ri)=some rk/\Vm.aft (Vm.aft s i ri) k rk=Vm.aft (Vm.aft s k rk) i ri:=by
  intro k i s rk ri h hz h1 h2
  obtain⟨_,_,a1,a2,_⟩:=Xj5 h
  obtain⟨b1,b2,b3⟩:=(Xlk (tb:=tb) h hz).1 h1 h2
  exact⟨by rw[Xbp a1];exact b1,by rw[Xbp a2];exact b2,fin a2 b3⟩
 have ncA:∀ {i:Oper} {d:Nat},apD LB i=some d->Xal i=false:=λ{i d} h=>by
  unfold apD at h
  split at h<;>try cases h
  rename_i h1 h2
  unfold Xal;rw[h1];rfl
 refine⟨λ{k i} h=>?_,λ{k i s rk ri} h hz h1 h2=>?_,λ{k i s rk ri} h hz h1 h2=>?_,λ{k s r} hk hc hz h=>?_,λ{k s r} hk hc hz h=>⟨ZT.aft (tb:=tb) hT hk hz.1 (.inr (.inl hc)),ZL.aft (tb:=tb) hL hk hz.2 (.inr (.inl hc))⟩⟩
 . simp only[spL,W3r] at h
   rcases h with ((h | h) | h) | h
   . obtain⟨c1,_,_,⟨d,hd⟩,_⟩:=Xgi (tb:=tb) h;exact⟨c1,ncA hd⟩
   . obtain⟨c1,_,_,⟨d,hd⟩,_⟩:=Xgi (tb:=tb) h;exact⟨ncA hd,c1⟩
   . obtain⟨_,c1,_,_,dk,d,_,hd⟩:=Xj5 h;exact⟨c1,ncA hd⟩
   . obtain⟨_,c1,_,_,dk,d,_,hd⟩:=Xj5 h;exact⟨ncA hd,c1⟩
 . simp only[spL,W3r] at h
   rcases h with ((h | h) | h) | h
   . exact one h hz h1 h2
   . obtain⟨p1,p2,p3⟩:=one h hz h2 h1;exact⟨p2,p1,p3.symm⟩
   . exact two h hz.2 h1 h2
   . obtain⟨p1,p2,p3⟩:=two h hz.2 h2 h1;exact⟨p2,p1,p3.symm⟩
 . simp only[spL,W3r] at h
   rcases h with ((h | h) | h) | h
   . obtain⟨c1,a1,a2,_,hh⟩:=Xgi (tb:=tb) h
     rw[Xbp a1,(hh hz.1 hz.2).1 h1] at h2
     exact h2
   . obtain⟨c1,a1,a2,_,hh⟩:=Xgi (tb:=tb) h
     rw[Xbp a2] at h2
     exact((hh hz.1 hz.2).2 (g:=s.2) h1 ri).2 h2
   . obtain⟨_,_,a1,a2,_⟩:=Xj5 h
     rw[Xbp a1] at h2
     exact(Xlk (tb:=tb) h hz.2).2.1 h1 h2
   . obtain⟨_,_,a1,a2,_⟩:=Xj5 h
     rw[Xbp a2] at h2
     exact(Xlk (tb:=tb) h hz.2).2.2 h1 h2
 . have hr:r.1=.un\/Xal k=true\/eff tb k s=some r:=by
    rcases Xa4 h with ⟨hw,_,e⟩ | ⟨_,e⟩
    . refine .inl ?_
      unfold efw at h
      rw[hw] at h
      simp only at h
      split at h<;>cases h
      rfl
    . exact .inr (.inr e)
   exact⟨ZT.aft (tb:=tb) hT hk hz.1 hr,ZL.aft (tb:=tb) hL hk hz.2 hr⟩
end
section
variable{c:Cx}{s:St}
theorem Dl{s':St}(h:nxD c.tb c.n s=some s')(k:StP c s')(hchk:Yoy s'=true:=by exact rfl): StP c s:=by
 unfold nxD at h
 split at h<;>try cases h
 rename_i hr
 split at h<;>cases h
 rename_i hok
 simp only[Yoy,W0f] at hchk
 obtain⟨⟨h1,h2⟩,h3⟩:=hchk
 refine go 1000 hr (J.draw (Dm.lit h1 h2) ⟨ZT.start h2,λb hb=>.inl ?_⟩ hok h3 k)
 simp only[Xvt,W0f] at h1
 have:=W1o.1 h1.1 b (Ym1.1 hb)
 rw[W1t] at this
 exact Xbm this
variable{p:Pl}
noncomputable def nxQ(tb:Nat->Option TI)(n:Nat)(s:St): Option (Pl×Nat×Nat×Nat×Nat×List D×AV):=match nxA tb n s with
 | some (p,o,[a,b])=>match o.op with
  | .call ⟨.builtin .append,_,⟨[T,T']⟩⟩=>match Nat.beq T T',tb T,look p.H (o.dst.getD 0) with
   | true,some ti,none=>match Nat.ble ti.eb 128,ti.z,b with
    | true,.sl sz _,.own q s l m=>match look p.H q with
     | some (.arr s' xs)=>match Nat.beq s sz&&Nat.beq s' sz with
      | true=>some (p,o.dst.getD 0,sz,l,m,xs,a)
      | false=>none
     | _=>none
    | true,.sl sz _,.ow3 q s l m=>match look p.H q with
     | some (.arr s' xs)=>match Nat.beq s sz&&Nat.beq s' sz with
      | true=>some (p,o.dst.getD 0,sz,l,m,xs,a)
      | false=>none
     | _=>none
    | _,_,_=>none
   | _,_,_=>none
  | _=>none
 | _=>none
theorem Xq0{d sz l m:Nat}{xs ys:List D}{a v:AV}{us:Hpl}(h:nxQ c.tb c.n s=some (p,d,sz,l,m,xs,a))(hl:l+m<=xs.length)(hy:(xs.drop l).take m=ys)(hF:∀ti:TI,ti.eb<=128->Xko d (look p.H) ti sz ys a=some (v,us))(k:p.nx' c v us): StP c s:=by
 unfold nxQ at h
 split at h<;>try cases h
 rename_i p' o a' b hA
 split at h<;>try cases h
 rename_i asx T T' ho
 split at h<;>try cases h
 rename_i ti hT hti hd
 have hT:=W0e hT
 subst hT
 have fin:∀ {sz' xs0},ti.eb<=128->ti.z=.sl sz' xs0->Xk6 (look p'.H) ti.z sz' b=some ys->(p',o.dst.getD 0,sz',a')=(p,d,sz,a)->StP c s:=by
  intro sz' xs0 he hz hs e
  injection e with e1 e2;injection e2 with e2 e3;injection e3 with e3 e4
  subst e1;subst e2;subst e3;subst e4
  refine Xbw hA ?_ k
  rw[ho]
  simp only[F,if_true,hti,hd,hz]
  rw[hz] at hs
  rw[hs]
  exact hF ti he
 split at h
 . rename_i he hz
   split at h<;>try cases h
   rename_i hq
   split at h<;>cases h
   rename_i hs
   rw[W0f] at hs
   have h1:=W0e hs.1
   have h2:=W0e hs.2
   exact fin (W1i he) hz (by simp only[Xk6,hq];rw[if_pos ⟨h2,h1,hl⟩,hy]) rfl
 . rename_i he hz
   split at h<;>try cases h
   rename_i hq
   split at h<;>cases h
   rename_i hs
   rw[W0f] at hs
   have h1:=W0e hs.1
   have h2:=W0e hs.2
   exact fin (W1i he) hz (by simp only[Xk6,hq];rw[if_pos ⟨h2,h1,hl⟩,hy]) rfl
 . cases h
theorem AqN{d sz l m:Nat}{xs:List D}(zs:List D)(h:nxQ c.tb c.n s=some (p,d,sz,l,m,xs,.nil))(hl:l+m<=xs.length)(hz:(xs.drop l).take m=zs)(hr:zs.length<=1099511627776)(k:p.nx' c (.gr d sz zs) [(d,.tok zs.length sz)]): StP c s :=
 Xq0 h hl hz (λti he=>by simp[Xko,Xcy hr he]) k
theorem Aq3{d sz o n l m:Nat}{xs ws:List D}(zs:List D)(h:nxQ c.tb c.n s=some (p,d,sz,l,m,xs,.ow3 o sz 0 n))(ht:look p.H o=some (.arr sz ws))(hl:l+m<=xs.length)(hn:n<=ws.length)(hz:ws.take n++(xs.drop l).take m=zs)(h0:0<m)(hr:zs.length<=1099511627776)(k:p.nx' c (.own d sz 0 zs.length) [(d,.arr sz zs)]): StP c s:=by
 subst hz
 have e1:((xs.drop l).take m).length=m:=by simp;omega
 have e:(ws.take n++(xs.drop l).take m).length=n+m:=by rw[W0d,e1,W0g];omega
 rw[e] at hr k
 refine Xq0 h hl rfl (λti he=>?_) k
 simp only[Xko,ht]
 rw[if_pos ⟨by rw[e1];exact Xcy hr he,rfl,hn,rfl,rfl⟩,if_neg (by omega),e1]
theorem Yo3{d sz o n l m:Nat}{xs ws:List D}(h:nxQ c.tb c.n s=some (p,d,sz,l,m,xs,.ow3 o sz 0 n))(ht:look p.H o=some (.arr sz ws))(hl:l+m<=xs.length)(hn:n<=ws.length)(h0:m=0)(hr:n<=1099511627776)(k:p.nx' c (.ow3 o sz 0 n) []): StP c s:=by
 subst h0
 refine Xq0 (ys:=[]) h hl (W5c) (λti he=>?_) k
 simp only[Xko,ht,W4m,W2j]
 rw[if_pos ⟨Xcy hr he,rfl,hn,rfl,rfl⟩,if_pos trivial]
end
end Go.Vm
namespace Go.Proofs.YtegepebhkhhhoaaGreatDoor.R9
open Go Go.Vm Go.Num Go.Tow Go.Proofs.YtegepebhkhhhoaaGreatDoor
theorem shrI{a i:Nat}(hi:i<=63): arB .shr .i64 a i (a/2^i:Nat):=show _/\_ from⟨by omega,by
 rw[show min (Int.toNat (i:Int)) (IntKind.bits .i64)=i by show min (Int.toNat (i:Int)) 64=i;omega,W1r _ (Int.pow_nonneg (by decide)),show (2:Int)^i=((2^i:Nat):Int) by simp]
 exact(Int.natCast_ediv _ _).symm⟩
theorem Yn7{a:Nat}: arB .rem .i64 a 2 (a%2:Nat):=show _/\_ from⟨by decide,Xr8 a 2⟩
theorem num0{x:Rat}: Xba x.num 0≠0↔x≠0:=by
 rw[Xh5]
 rcases Xbg x with ⟨h,e⟩ | ⟨h,e⟩ | ⟨h,e⟩<;>rw[e]
 . exact⟨λ_ e=>by rw[e] at h;exact absurd h (by decide),λ_=>by decide⟩
 . exact⟨λh=>absurd rfl h,λh'=>absurd h h'⟩
 . exact⟨λ_ e=>by rw[e] at h;exact absurd h (by decide),λ_=>by decide⟩
theorem Xgf{l:List Rat}{p i:Nat}(hl:Ps p l)(hp:p<=8796093022208)(hi:i<=63)(hn:l.length<=1048576): C0 271 [.d (dqs l),.d (.int .i64 i)] (·=.b (dc (oc l i))):=by
 refine En Tryz.func271 λ_ _ _=>?_
 refine Lo (λk:Nat=>[(0,.d (dqs l)),(1,.d (.int .i64 i)),(5,.d (.int .i64 k))]) (λ_=>[]) (λk=>k<=l.length/\∀q x,q<k->l[q]?=some x->q/2^i%2=1->x=0) (λk=>l.length-k) 0 [] rfl ⟨by omega,λq x h=>by omega⟩ λk ⟨hk,ht⟩=>?_
 refine By rfl (λh=>?_) λh=>?_<;>simp only[lq] at h
 . obtain⟨x,hx⟩:=qat (l:=l) (k:=k) (by omega)
   have next:(k/2^i%2=1->x=0)->k+1<=l.length/\∀q y,q<k+1->l[q]?=some y->q/2^i%2=1->y=0:=λh1=>⟨by omega,λq y hq hy hb=>by
    by_cases e:q=k
    . subst e;rw[hx] at hy;injection hy with hy;rw[<-hy];exact h1 hb
    . exact ht q y (by omega) hy hb⟩
   refine Ar (k/2^i:Nat) rfl ?_ (shrI hi)
   refine Ar (k/2^i%2:Nat) rfl ?_ Yn7
   refine By rfl (λh1=>?_) λh1=>?_
   . refine Ix k rfl (mp hx) ?_
     refine Ce rfl (R2.Sign_ok (hl x (W0h hx)) hp) ?_
     refine By rfl (λh2=>?_) λh2=>?_
     . exact R1 rfl (.bp ⟨λ_=>⟨k,x,hx,by omega,num0.1 h2⟩,λ_=>rfl⟩)
     . refine Ar (k+1:Nat) rfl ?_
       exact Bk (k+1) [] rfl (next λ_=>W0s λh3=>h2 (num0.2 h3)) (by show l.length-(k+1)<l.length-k;omega)
   . refine Ar (k+1:Nat) rfl ?_
     exact Bk (k+1) [] rfl (next λh3=>absurd (by omega) h1) (by show l.length-(k+1)<l.length-k;omega)
 . exact R1 rfl (.bp ⟨nofun,λ⟨q,x,h1,h2,h3⟩=>absurd (ht q x (by have:=(W0m.1 h1).1;omega) h1 h2) h3⟩)
theorem wo_take{α:Type}{l:List α}{k i:Nat}{x:α}(hx:l[k]?=some x): wo (l.take (k+1)) i=wo (l.take k) i++(if k/2^i%2=0 then [x] else []):=by
 have hk:=(W0m.1 hx).1
 unfold wo
 rw[W1p,hx,Xn6,W0g,W2e (by omega),W1k]
 rfl
theorem Xgw{l:List Rat}{i:Nat}(hi:i<=63)(hn:l.length<=1048576): C0 272 [.d (dqs l),.d (.int .i64 i)] (·=.d (dqs (wo l i))):=by
 have hlen:∀k,(wo (l.take k) i).length<=k:=λk=>by
  induction k with
  | zero=>simp[wo,woA]
  | succ k ih =>
   by_cases h:k<l.length
   . rw[wo_take (W0c h),W0d]
     split<;>simp<;>omega
   . rw[W0a (by omega)]
     rw[W0a (by omega)] at ih;omega
 refine En Tryz.func272 λ_ _ _=>?_
 refine Nl 5 5 4 rfl ?_
 refine Lo (λk:Nat=>[(0,.d (dqs l)),(1,.d (.int .i64 i)),(5,.gr 5 4 ((wo (l.take k) i).map dq)),(6,.d (.int .i64 k))]) (λk=>[(5,.tok ((wo (l.take k) i).map dq).length 4)]) (λk=>k<=l.length) (λk=>l.length-k) 0 [] rfl (by omega) λk hk=>?_
 refine By rfl (λh=>?_) λh=>?_<;>simp only[lq] at h
 . obtain⟨x,hx⟩:=qat (l:=l) (k:=k) (by omega)
   have hw:=wo_take (i:=i) hx
   have hl:=hlen (k+1)
   refine Ar (k/2^i:Nat) rfl ?_ (shrI hi)
   refine Ar (k/2^i%2:Nat) rfl ?_ Yn7
   refine By rfl (λh1=>?_) λh1=>?_
   . rw[if_pos (by omega)] at hw
     refine Ix k rfl (mp hx) ?_
     refine ApG ((wo (l.take (k+1)) i).map dq) rfl (by rw[hw];simp) (by simp;omega) ?_
     refine Ar (k+1:Nat) rfl ?_
     exact Bk (k+1) [(24,5)] rfl (show k+1<=l.length by omega) (by show l.length-(k+1)<l.length-k;omega)
   . rw[if_neg (by omega),W3t] at hw
     refine Ar (k+1:Nat) rfl ?_
     exact Bk (k+1) [] rfl (show k+1<=l.length by omega) (by show l.length-(k+1)<l.length-k;omega) (by exact⟨by rw[hw];rfl,by rw[hw];rfl,rfl,rfl,rfl⟩)
 . rw[W0a (by omega)]
   exact R1 rfl (.gr rfl)
end Go.Proofs.YtegepebhkhhhoaaGreatDoor.R9
namespace Go.Tow
open Go Go.Num Go.Proofs.YtegepebhkhhhoaaGreatDoor
def nd(x:Nm)(i:Nat): Prop:=oc (toL x.k x.a) i\/∃q l,i<q/\(toT x.k x.t)[q]?=some l/\oc l i
def Tm(x:Nm): Prop:=∀i,i<x.k->nd x i
theorem Yda{α:Type}{i:Nat}{l:List α}: ∀ {p n:Nat} {x:α},l[n]?=some x->(p+n)/2^i%2=0->x∈woA i p l:=by
 induction l with
 | nil=>intro p n x h;simp at h
 | cons y l ih =>
  intro p n x h hb
  cases n with
  | zero =>
   simp at h
   subst h
   simp only[woA]
   rw[if_pos (by simpa using hb)];exact W1a ..
  | succ n =>
   have:=ih (p:=p+1) (n:=n) (x:=x) (by simpa using h) (by rw[<-hb];congr 2;omega)
   simp only[woA]
   split
   . exact W1c _ this
   . exact this
theorem Yd3{k i:Nat}{b:El (k+1)}(hi:i<=k)(ho:¬oc (toL (k+1) b) i)(h:rm k i b=zero k): b=zero (k+1):=(Xam (k+1) b).2 λx hx=>W0s λh0=>by
 obtain⟨p,hp⟩:=W2w hx
 by_cases hb:p/2^i%2=1
 . exact ho ⟨p,x,hp,hb,h0⟩
 . have h1:x∈woA i 0 (toL (k+1) b):=Yda hp (by rw[W1k];omega)
   have h2:toL k (rm k i b)=woA i 0 (toL (k+1) b):=Xf7 hi
   rw[<-h2,h] at h1
   exact h0 ((Xam k (zero k)).1 rfl x h1)
theorem Yif{k:Nat}{a:El (k+1)}(h:a.2≠zero k): oc (toL (k+1) a) k:=W0s λho=>h ((Xdq ho).1 rfl)
theorem Yeg{k i:Nat}{a:El (k+1)}(hi:i<k)(h:oc (toL k a.1) i): oc (toL (k+1) a) i:=W0s λho=>((Xdq ho).2 hi).1 h
theorem Xzo{k i:Nat}{a:El (k+1)}(hi:i<k)(h:oc (toL k a.2) i): oc (toL (k+1) a) i:=W0s λho=>((Xdq ho).2 hi).2 h
theorem Yb7{k i:Nat}{a:El k}(h:k<=i): ¬oc (toL k a) i:=λ⟨p,x,h1,h2,_⟩=>by
 have:=(W0m.1 h1).1
 rw[Xab] at this
 rw[W4h (W0v this (W0l (by decide) h))] at h2
 cases h2
theorem Xzn{k i:Nat}{a:El (k+1)}(h:oc (toL (k+1) a) i): oc (toL k a.1) i\/oc (toL k a.2) i\/(i=k/\a.2≠zero k):=by
 obtain⟨p,x,h1,h2,h3⟩:=h
 have h1:(toL k a.1++toL k a.2)[p]?=some x:=h1
 by_cases hp:p<2^k
 . rw[W0r (by rw[Xab];exact hp)] at h1
   exact .inl ⟨p,x,h1,h2,h3⟩
 . rw[W0q (by rw[Xab];omega),Xab] at h1
   have hlt:=(W0m.1 h1).1
   rw[Xab] at hlt
   by_cases hik:i<k
   . refine .inr (.inl ⟨p-2^k,x,h1,?_,h3⟩)
     obtain⟨d,hd⟩:∃d,k=i+1+d:=⟨k-i-1,by omega⟩
     have e:p=p-2^k+2^i*(2*2^d):=by
      have:2^k=2^i*(2*2^d):=by rw[hd,W0y,W0z,W0x]
      omega
     rw[e,W6s _ _ (W0p i),W5f] at h2
     exact h2
   . by_cases e:i=k
     . exact .inr (.inr ⟨e,λh0=>h3 ((Xam k a.2).1 h0 x (W0h h1))⟩)
     . exfalso
       have:p<2^i:=W0v (show p<2^(k+1) by rw[W0z];omega) (W0l (by decide) (by omega))
       rw[W4h this] at h2
       cases h2
theorem Yig: ∀ {k i j:Nat} {a:El (k+1)},i<=j->j<k->¬oc (toL (k+1) a) i->oc (toL (k+1) a) (j+1)->oc (toL k (rm k i a)) j:=by
 intro k
 induction k with
 | zero=>intro i j a _ h;omega
 | succ k ih =>
  intro i j a hij hj hno h
  obtain⟨n1,n2⟩:=(Xdq hno).2 (show i<k+1 by omega)
  rw[show rm (k+1) i a=pr (rm k i a.1) (rm k i a.2) from if_neg (by omega)]
  rcases Xzn h with h | h | ⟨h,h0⟩
  . have hjk:j<k:=by
     by_cases e:j<k
     . exact e
     . exact absurd h (Yb7 (by omega))
    exact Yeg hjk (ih hij hjk n1 h)
  . have hjk:j<k:=by
     by_cases e:j<k
     . exact e
     . exact absurd h (Yb7 (by omega))
    exact Xzo hjk (ih hij hjk n2 h)
  . obtain rfl:j=k:=by omega
    exact Yif λe=>h0 (Yd3 hij n2 e)
theorem Ymo{m i j:Nat}{T:Tw (m+1)}{c:El (m+1)}(hi:i<=m)(hno:¬nd ⟨m+1,T,c⟩ i)(hij:i<=j)(hj:j<m)(h:nd ⟨m+1,T,c⟩ (j+1)): nd ⟨m,rmT m i T,rm m i c⟩ j:=by
 rcases h with h | ⟨q,l,hq,hl,ho⟩
 . exact .inl (Yig hij hj (λe=>hno (.inl e)) h)
 . have hqm:q<(toT (m+1) T).length:=(W0m.1 hl).1
   rw[Xaa] at hqm
   obtain⟨e,e1,_,_⟩:=Tw.at (t:=T) hqm
   have hl:(toT (m+1) T)[q]?=some l:=hl
   rw[hl] at e1
   injection e1 with e1
   subst e1
   have hn:¬oc (toL q e) i:=λh=>hno (.inr ⟨q,_,by omega,hl,h⟩)
   obtain⟨q,rfl⟩:∃q',q=q'+1:=⟨q-1,by omega⟩
   refine .inr ⟨q,wo (toL (q+1) e) i,by omega,?_,?_⟩
   . show (toT m (rmT m i T))[q]?=_
     rw[Xn9 hi,W0q (by rw[W0g,Xaa];omega),W0g,Xaa,W2e (by omega),W1s,W1q,show i+1+(q-i)=q+1 by omega,hl]
     rfl
   . rw[<-Xf7 (show i<=q by omega)]
     exact Yig hij (by omega) hn ho
end Go.Tow
namespace Go.Proofs.YtegepebhkhhhoaaGreatDoor.R9
open Go Go.Vm Go.Num Go.Tow Go.Proofs.YtegepebhkhhhoaaGreatDoor
section
def wl(i j:Nat)(zs:List (List Rat)): List (List Rat):=zs.mapIdx λq r=>if i<q/\q<j then wo r i else r
theorem wl_get{i j q:Nat}{zs:List (List Rat)}: (wl i j zs)[q]?=zs[q]?.map λr=>if i<q/\q<j then wo r i else r:=by unfold wl;rw[List.getElem?_mapIdx]
theorem wl_len{i j:Nat}{zs:List (List Rat)}: (wl i j zs).length=zs.length:=by unfold wl;simp
theorem wl_start{i:Nat}{zs:List (List Rat)}: wl i (i+1) zs=zs:=W4k λq=>by
 rw[wl_get]
 cases zs[q]? with
 | none=>rfl
 | some r=>simp only[W3i];rw[if_neg (by omega)]
theorem wl_set{i j:Nat}{zs:List (List Rat)}{r:List Rat}(hi:i<j)(h:zs[j]?=some r): (wl i j zs).set j (wo r i)=wl i (j+1) zs:=W4k λq=>by
 have hj:=(W0m.1 h).1
 rw[wl_get,List.getElem?_set]
 by_cases e:j=q
 . subst e
   rw[if_pos rfl,if_pos (by rw[wl_len];exact hj),h,W3i,if_pos ⟨hi,by omega⟩]
 . rw[if_neg e,wl_get]
   cases zs[q]? with
   | none=>rfl
   | some r=>simp only[W3i];congr 1;split<;>split<;>first | rfl | omega
theorem wl_end{m i:Nat}{T:Tw (m+1)}{zs:List (List Rat)}(hz:zs.take (m+1)=toT (m+1) T)(hi:i<=m): (wl i (m+1) zs).take i++((wl i (m+1) zs).drop (i+1)).take (m+1-(i+1))=toT m (rmT m i T):=by
 rw[Xn9 hi,<-hz]
 congr 1
 . refine W4k λq=>?_
   rw[W1e,W1e,W1e,wl_get]
   split
   . rw[if_pos (by omega)]
     cases zs[q]? with
     | none=>rfl
     | some r=>simp only[W3i];rw[if_neg (by omega)]
   . rfl
 . refine W4k λq=>?_
   rw[W1e,W1q,W1s,W1q,W1e,wl_get]
   split
   . rw[if_pos (by omega)]
     cases zs[i+1+q]? with
     | none=>rfl
     | some r=>simp only[W3i];rw[if_pos (by omega)]
   . rw[if_neg (by omega)];rfl
open Classical in
noncomputable def trS(n:Nat)(z:Nm): Nm:=if nd z n then z else match z with
 | ⟨0,t,a⟩=>⟨0,t,a⟩
 | ⟨m+1,t,a⟩=>⟨m,rmT m n t,rm m n a⟩
noncomputable def trF: Nat->Nm->Nm
 | 0,z=>z
 | n+1,z=>trF n (trS n z)
theorem Xpx{n:Nat}{z:Nm}(h:nd z n): trF (n+1) z=trF n z:=congrArg (trF n) (if_pos h)
theorem Ydk{n m:Nat}{t:Tw (m+1)}{a:Tow.El (m+1)}(h:¬nd ⟨m+1,t,a⟩ n): trF (n+1) ⟨m+1,t,a⟩=trF n ⟨m,rmT m n t,rm m n a⟩:=congrArg (trF n) (if_neg h)
section
variable{K:Nat}{G:Tw K}{S:List (Tow.El K)}{r p:Nat}{x:Nm}{v:Tow.El K}
structure Tst where
 n:Nat
 kd:Nat
 z:Nm
 zs:List (List Rat)
def Als(P:Rat->Prop)(z:Nm): Prop:=(∀q∈toL z.k z.a,P q)/\∀l∈toT z.k z.t,∀q∈l,P q
def TI(y:Nm)(P:Rat->Prop)(G:Tw K)(S:List (Tow.El K))(r p:Nat)(v:Tow.El K)(s:Tst): Prop:=(NOk G S r p s.z v/\Als P s.z/\trF s.n s.z=y)/\s.n<=s.z.k/\s.zs.take s.z.k=toT s.z.k s.z.t/\(s.kd=0->s.z.k=0)/\(s.kd=1->s.zs.length=s.z.k)/\(3<=s.kd->s.n=0/\s.zs.length=s.z.k)/\∀j,s.n<=j->j<s.z.k->nd s.z j
abbrev TH(s:Tst): Hpl:=(2,.var (.st (.pr .nil .nil)))::match s.kd with
 | 0=>[(3,.var (.st (.pr (.lit 1 []) (.d (de s.z.a)))))]
 | 1=>[(3,.var (.st (.pr (.own 11 1 0 (s.zs.map dqs).length) (.d (de s.z.a))))),(11,.arr 1 (s.zs.map dqs))]
 | 2=>[(3,.var (.st (.pr (.ow3 11 1 0 s.z.k) (.d (de s.z.a))))),(11,.arr 1 (s.zs.map dqs))]
 | _=>[(3,.var (.st (.pr (.gr 11 1 (s.zs.map dqs)) (.d (de s.z.a))))),(11,.tok (s.zs.map dqs).length 1)]
abbrev TH'(kd m:Nat)(c:List Rat)(zs ws:List (List Rat)): Hpl:=(2,.var (.st (.pr .nil .nil)))::match kd with
 | 1=>[(3,.var (.st (.pr (.own 11 1 0 (zs.map dqs).length) (.d (dqs c))))),(11,.arr 1 (ws.map dqs))]
 | _=>[(3,.var (.st (.pr (.ow3 11 1 0 (m+1)) (.d (dqs c))))),(11,.arr 1 (ws.map dqs))]
theorem Xx3{P:Rat->Prop}(hP:Als P x)(hG:red K G)(hS:S.length<=3)(hx:NOk G S r p x v)(hr:r<=8796093022208)(hp:p<=8796093022208): C0 202 [.d (dN x)] λw=>∃z:Nm,w=.d (dN z)/\NOk G S r p z v/\(Tm z/\Als P z)/\z=trF x.k x:=by
 have hGr:=Xad hG
 have hk3:=hx.le hGr hS
 obtain⟨k,t,a⟩:=x
 obtain⟨y,hy⟩:∃y,trF k ⟨k,t,a⟩=y:=⟨_,rfl⟩
 have hk3:k<=3:=hk3
 have hlen:=Xaa k t
 refine En Tryz.func202 λ_ _ _=>?_
 refine Dl rfl ?_
 by_cases k0:k=0
 . subst k0
   refine ApE rfl rfl (by decide) ?_
   refine Ar (-1) rfl ?_ (show arB .sub .i64 0 1 (-1) from wr rfl (by simp[inK]))
   refine Lo (λ(s:Tst)=>[(2,.ptr 2 0),(3,.ptr 3 0),(4,.d (.int .i64 ((s.n:Int)-1)))]) (λs=>TH s) (λs=>TI y P G S r p v s/\s.kd=0/\s.n=0) (λs=>s.n) ⟨0,0,⟨0,t,a⟩,[]⟩ [] rfl ⟨⟨⟨hx,hP,hy⟩,W0b _,rfl,λ_=>rfl,nofun,λh=>absurd h (show ¬3<=0 by decide),λj _ hj=>absurd hj (W4d _)⟩,rfl,rfl⟩ (λ⟨n,kd,⟨m,T,c⟩,zs⟩ hI=>?_)
   obtain⟨⟨⟨h1,hF⟩,h2,h3,h4,h5,h6,h8⟩,rfl,rfl⟩:=hI
   obtain rfl:=h4 rfl
   refine No rfl (show ¬((0:Nat):Int)-1>=0 by decide) ?_
   exact Rt rfl (.one (.sd (.pd (.lit rfl) (.eq rfl))) rfl rfl) ⟨_,rfl,h1,⟨λi hi=>absurd hi (W4d _),hF.1⟩,hF.2.trans hy.symm⟩
 . refine ApL ((toT k t).map dqs) rfl rfl (by simp[hlen];omega) (by simp[hlen];omega) ?_
   refine Ar (k-1) rfl ?_ (wr (by simp[hlen]) (by simp only[inK];omega))
   refine Lo (λ(s:Tst)=>[(2,.ptr 2 0),(3,.ptr 3 0),(4,.d (.int .i64 ((s.n:Int)-1)))]) (λs=>TH s) (λs=>TI y P G S r p v s/\s.kd≠0) (λs=>s.n) ⟨k,1,⟨k,t,a⟩,toT k t⟩ [] rfl ⟨⟨⟨hx,hP,hy⟩,W0b _,W0a (by rw[hlen];exact W0b _),nofun,λ_=>hlen,λh=>absurd h (show ¬3<=1 by decide),λj h1 h2=>absurd h2 (W5t.2 h1)⟩,show 1≠0 by decide⟩ (λ⟨n,kd,⟨m,T,c⟩,zs⟩ hI=>?_)
   obtain⟨⟨⟨h1,hF⟩,h2,h3,h4,h5,h6,h8⟩,h7⟩:=hI
   simp only at h1 h2 h3 h4 h5 h6 h7 h8
   have hm3:m<=3:=h1.le hGr hS
   have hT:TS r m T:=h1.r
   have hc:Sz p (toL m c):=h1.p
   have hcl:=Xab m c
   have hpm:=p16 (show m<=16 by omega)
   have hTl:=Xaa m T
   have hzl:m<=zs.length:=by have:=congrArg List.length h3;rw[W0g,hTl] at this;omega
   cases n with
   | zero =>
    refine No rfl (show ¬((0:Nat):Int)-1>=0 by decide) ?_
    match kd,h5,h6,h7 with
    | 1,h5,_,_ =>
     exact Rt rfl (.one (.sd (.pd (.own rfl (by omega) (by rw[W1d,W2i,<-h3,W0a (by omega)])) (.eq rfl))) rfl rfl) ⟨⟨m,T,c⟩,rfl,h1,⟨λi hi=>h8 i (W0w _) hi,hF.1⟩,hF.2.trans hy.symm⟩
    | 2,_,_,_ =>
     exact Rt rfl (.one (.sd (.pd (.ow3 rfl (by simp;omega) (by rw[W1d,<-W2d,h3])) (.eq rfl))) rfl rfl) ⟨⟨m,T,c⟩,rfl,h1,⟨λi hi=>h8 i (W0w _) hi,hF.1⟩,hF.2.trans hy.symm⟩
    | kd+3,_,h6,_ =>
     exact Rt rfl (.one (.sd (.pd (.gr (by rw[<-h3,W0a (by have:=(h6 (by omega)).2;omega)])) (.eq rfl))) rfl rfl) ⟨⟨m,T,c⟩,rfl,h1,⟨λi hi=>h8 i (W0w _) hi,hF.1⟩,hF.2.trans hy.symm⟩
   | succ i =>
    obtain⟨m,rfl⟩:∃m',m=m'+1:=⟨m-1,by omega⟩
    have hkd:kd=1\/kd=2:=by
     have:¬3<=kd:=λh=>by have:=(h6 h).1;omega
     omega
    let need:Nat->Nat->Prop:=λi j=>oc (toL (m+1) c) i\/∃q l,i<q/\q<j/\(toT (m+1) T)[q]?=some l/\oc l i
    have need0:dc (oc (toL (m+1) c) i)=true↔need i (i+1):=by
     rw[Xaj];exact⟨.inl,λh=>h.elim id λ⟨q,l,a1,a2,_⟩=>by omega⟩
    have needS:∀ {j:Nat} {l:List Rat},(toT (m+1) T)[j]?=some l->i+1<=j->(need i (j+1)↔need i j\/oc l i):=λ{j l} hl hij=>by
     refine⟨λh=>h.elim (λh=>.inl (.inl h)) λ⟨q,l',a1,a2,a3,a4⟩=>?_,λh=>h.elim (λh=>h.elim .inl λ⟨q,l',a1,a2,a3,a4⟩=>.inr ⟨q,l',a1,by omega,a3,a4⟩) λh=>.inr ⟨j,l,by omega,by omega,hl,h⟩⟩
     by_cases e:q=j
     . subst e;rw[hl] at a3;injection a3 with a3;subst a3;exact .inr a4
     . exact .inl (.inr ⟨q,l',a1,by omega,a3,a4⟩)
    have rad:∀j,j<m+1->∃l,(toT (m+1) T)[j]?=some l/\zs[j]?=some l/\Sz r l:=λj hj=>by
     obtain⟨e,e1,e2,_⟩:=Tw.at (t:=T) hj
     refine⟨_,e1,?_,e2 r hT⟩
     rw[<-h3,W1e,if_pos hj] at e1;exact e1
    have rlen:∀ {j:Nat} {l:List Rat},(toT (m+1) T)[j]?=some l->l.length=2^j:=λh=>(TS.pt hT _ _ h).1
    have nod:¬need i (m+1)->¬nd ⟨m+1,T,c⟩ i:=λh e=>h (e.elim .inl λ⟨q,l,a1,a3,a4⟩=>.inr ⟨q,l,a1,by have:=(W0m.1 a3).1;rwa[hTl] at this,a3,a4⟩)
    have out:¬need i (m+1)->(NOk G S r p ⟨m,rmT m i T,rm m i c⟩ v/\Als P ⟨m,rmT m i T,rm m i c⟩/\trF i ⟨m,rmT m i T,rm m i c⟩=y)/\toL m (rm m i c)=wo (toL (m+1) c) i:=λh=>by
     have him:i<=m:=by omega
     obtain⟨ρ,a1,a2⟩:=h1.ex
     refine⟨⟨⟨⟨skip i ρ,a1.rm hGr him λj l hj hl ho=>h (.inr ⟨j,l,hj,by have:=(W0m.1 hl).1;rw[hTl] at this;omega,hl,ho⟩),by rw[<-a2];exact Yfd him λho=>h (.inl ho)⟩,hT.rm him,?_⟩,⟨?_,?_⟩,(Ydk (nod h)).symm.trans hF.2⟩,Xf7 him⟩
     . show Sz p (toL m (rm m i c))
       rw[Xf7 him];exact hc.sub λx hx=>Xif hx
     . show ∀q∈toL m (rm m i c),P q
       rw[Xf7 him];exact λq hq=>hF.1.1 q (Xif hq)
     . show ∀l∈toT m (rmT m i T),∀q∈l,P q
       rw[Xn9 him]
       intro l hl q hq
       rcases W1v.1 hl with hl | hl
       . exact hF.1.2 l (W5i hl) q hq
       . obtain⟨l',hl',rfl⟩:=W3s.1 hl
         exact hF.1.2 l' (W4g hl') q (Xif hq)
    have keep:need i (m+1)->∀j,i<=j->j<m+1->nd ⟨m+1,T,c⟩ j:=λh j a b=>by
     by_cases e:i=j
     . subst e
       exact h.elim .inl λ⟨q,l,a1,_,a3,a4⟩=>.inr ⟨q,l,a1,a3,a4⟩
     . exact h8 j (by omega) b
    have gone:¬need i (m+1)->∀j,i<=j->j<m->nd ⟨m,rmT m i T,rm m i c⟩ j:=λh j a b=>Ymo (by omega) (λe=>h (e.elim .inl λ⟨q,l,a1,a3,a4⟩=>.inr ⟨q,l,a1,by have:=(W0m.1 a3).1;rwa[hTl] at this,a3,a4⟩)) a b (h8 (j+1) (by omega) (by omega))
    refine Yes rfl (show ((i+1:Nat):Int)-1>=0 by omega) ?_
    have ei:((i+1:Nat):Int)-1=i:=by omega
    have hoc:∀ {l:List Rat} {p:Nat},Ps p l->p<=8796093022208->l.length<=1048576->C0 271 [.d (dqs l),.d (.int .i64 (((i+1:Nat):Int)-1))] (·=.b (dc (oc l i))):=λh1 h2 h3=>by
     have:=Xgf (i:=i) h1 h2 (by omega) h3
     rwa[<-ei] at this
    have hwo:∀ {l:List Rat},l.length<=1048576->C0 272 [.d (dqs l),.d (.int .i64 (((i+1:Nat):Int)-1))] (·=.d (dqs (wo l i))):=λh=>by
     have:=Xgw (i:=i) (by omega) h
     rwa[<-ei] at this
    rcases hkd with rfl | rfl
    . refine Ce rfl (hoc (l:=toL (m+1) c) hc.ps hp (by omega)) ?_
      refine Ar (i+1:Nat) rfl ?_ (wr (show ((i+1:Nat):Int)-1+1=((i+1:Nat):Int) by omega) (by simp only[inK];omega))
      refine Lo (λ(q:Nat×Bool)=>[(2,.ptr 2 0),(3,.ptr 3 0),(4,.d (.int .i64 (((i+1:Nat):Int)-1))),(5,.b q.2),(6,.d (.int .i64 q.1))]) (λ_=>TH ⟨i+1,1,⟨m+1,T,c⟩,zs⟩) (λq=>i+1<=q.1/\q.1<=m+1/\(q.2=true↔need i q.1)) (λq=>m+1-q.1) (i+1,dc (oc (toL (m+1) c) i)) [] rfl ⟨W0b _,by show i+1<=m+1;omega,need0⟩ (λ(j,b) ⟨g1,g2,g3⟩=>?_)
      simp only at g1 g2 g3
      refine By rfl (λh=>?_) λh=>?_<;>try simp only[lt'] at h
      . obtain⟨l,hl,hzj,hls⟩:=rad j (by omega)
        refine By rfl (λhb=>?_) λhb=>?_
        . refine Ar (j+1:Nat) rfl ?_
          exact Bk (j+1,true) [] rfl ⟨by show i+1<=j+1;omega,by show j+1<=m+1;omega,by show true=true↔_;rw[needS hl g1];exact⟨λ_=>.inl (g3.1 hb),λ_=>rfl⟩⟩ (by show m+1-(j+1)<m+1-j;omega)
        . refine Eo j rfl (by first | omega | (simp only[lt'];omega)) ?_
          refine Ld (dqs l) rfl (mp hzj) ?_
          refine Ce rfl (hoc (l:=l) hls.ps hr (by rw[rlen hl];have:=p16 (show j<=16 by omega);omega)) ?_
          refine Ar (j+1:Nat) rfl ?_
          exact Bk (j+1,dc (oc l i)) [] rfl ⟨by show i+1<=j+1;omega,by show j+1<=m+1;omega,by show dc (oc l i)=true↔_;rw[needS hl g1,Xaj];exact⟨.inr,λh=>h.elim (λh=>absurd (g3.2 h) hb) id⟩⟩ (by show m+1-(j+1)<m+1-j;omega)
      . obtain rfl:j=m+1:=by omega
        refine By rfl (λhb=>?_) λhb=>?_
        . refine Ar ((i:Int)-1) rfl ?_ (wr (show ((i+1:Nat):Int)-1-1=(i:Int)-1 by omega) (by simp only[inK];omega))
          exact Bk ⟨i,1,⟨m+1,T,c⟩,zs⟩ [] rfl ⟨⟨⟨h1,hF.1,(Xpx (keep (g3.1 hb) i (W0b _) (by omega))).symm.trans hF.2⟩,by show i<=m+1;omega,h3,h4,h5,λh=>absurd h (show ¬3<=1 by decide),keep (g3.1 hb)⟩,h7⟩ (show i<i+1 by omega)
        . have hno:¬need i (m+1):=λh=>hb (g3.2 h)
          obtain⟨w1,w2⟩:=out hno
          have hw0:=hwo (l:=toL (m+1) c) (by omega)
          rw[<-w2] at hw0
          refine Ce rfl hw0 ?_
          refine Ar (i+1:Nat) rfl ?_ (wr (show ((i+1:Nat):Int)-1+1=((i+1:Nat):Int) by omega) (by simp only[inK];omega))
          refine Lo (λ(j:Nat)=>[(2,.ptr 2 0),(3,.ptr 3 0),(4,.d (.int .i64 (((i+1:Nat):Int)-1))),(7,.d (.int .i64 j))]) (λj=>TH' 1 m (toL m (rm m i c)) zs (wl i j zs)) (λj=>i+1<=j/\j<=m+1) (λj=>m+1-j) (i+1) [] rfl ⟨W0b _,by omega⟩ (λj ⟨g1,g2⟩=>?_) (by rw[wl_start];exact⟨rfl,rfl,rfl,rfl,rfl⟩)
          refine By rfl (λh=>?_) λh=>?_<;>try simp only[lt'] at h
          . obtain⟨l,hl,hzj,hls⟩:=rad j (by omega)
            refine Dw rfl ?_
            refine Eo j rfl (by first | omega | (simp only[lt',wl_len];omega)) ?_
            refine Ld (dqs l) rfl (mp (by rw[wl_get,hzj,W3i,if_neg (by omega)])) ?_
            refine Ce rfl (hwo (l:=l) (by rw[rlen hl];have:=p16 (show j<=16 by omega);omega)) ?_
            refine Eo j rfl (by first | omega | (simp only[lt',wl_len];omega)) ?_
            refine Sto rfl (by simp only[lt',wl_len];omega) (zs:=(wl i (j+1) zs).map dqs) (by rw[<-wl_set (by omega) hzj];exact ms) ?_
            refine Ar (j+1:Nat) rfl ?_
            exact Bk (j+1) [] rfl ⟨by omega,by omega⟩ (by show m+1-(j+1)<m+1-j;omega)
          . obtain rfl:j=m+1:=by omega
            have hwe:=wl_end h3 (show i<=m by omega)
            have hws:(wl i (m+1) zs).length=zs.length:=wl_len
            have hr':=Xaa m (rmT m i T)
            refine Dw rfl ?_
            by_cases i0:i=0
            . subst i0
              refine S30 rfl rfl ?_
              refine Ar (0+1:Nat) rfl ?_
              refine Sw (0+1) (m+1) rfl (by omega) (by simp only[lt'];omega) ?_ (hh:=by simp only[Option.getD,lt'];omega)
              have hz0:(((wl 0 (m+1) zs).map dqs).drop (0+(0+1))).take (m+1-(0+1))=(toT m (rmT m 0 T)).map dqs:=by rw[<-hwe,W5c,W4b,W1k,<-W4j,<-W2d]
              refine AqN ((toT m (rmT m 0 T)).map dqs) rfl (by simp only[lt'];omega) hz0 (by simp[hr'];omega) ?_
              refine Ar (((0:Nat):Int)-1) rfl ?_ (wr (show ((0+1:Nat):Int)-1-1=((0:Nat):Int)-1 by omega) (by simp[inK]))
              exact Bk ⟨0,3,⟨m,rmT m 0 T,rm m 0 c⟩,toT m (rmT m 0 T)⟩ [(11,90),(82,11)] rfl ⟨⟨w1,W0w _,W0a (by rw[hr'];exact W0b _),λh=>absurd h (show ¬3=0 by decide),λh=>absurd h (show ¬3=1 by decide),λ_=>⟨rfl,hr'⟩,gone hno⟩,show 3≠0 by decide⟩ (show 0<0+1 by decide)
            . refine S3 i rfl (.inl rfl) (by omega) (by first | omega | (simp only[lt'];omega)) ?_
              refine Ar (i+1:Nat) rfl ?_ (wr (show ((i+1:Nat):Int)-1+1=((i+1:Nat):Int) by omega) (by simp only[inK];omega))
              refine Sw (i+1) (m+1) rfl (by omega) (by simp only[lt'];omega) ?_ (hh:=by simp only[Option.getD,lt'];omega)
              by_cases im:i=m
              . subst im
                refine Yo3 rfl rfl (by simp only[lt'];omega) (by simp only[lt'];omega) (by omega) (by omega) ?_
                refine Ar ((i:Int)-1) rfl ?_ (wr (show ((i+1:Nat):Int)-1-1=(i:Int)-1 by omega) (by simp only[inK];omega))
                rw[W3b,W5c,W3t] at hwe
                exact Bk ⟨i,2,⟨i,rmT i i T,rm i i c⟩,wl i (i+1) zs⟩ [] rfl ⟨⟨w1,W0b _,hwe,λh=>absurd h (show ¬2=0 by decide),λh=>absurd h (show ¬2=1 by decide),λh=>absurd h (show ¬3<=2 by decide),gone hno⟩,show 2≠0 by decide⟩ (show i<i+1 by omega)
              . have hz0:((wl i (m+1) zs).map dqs).take i++(((wl i (m+1) zs).map dqs).drop (0+(i+1))).take (m+1-(i+1))=(toT m (rmT m i T)).map dqs:=by rw[<-hwe,W1k,<-W2d,<-W4j,<-W2d,<-W2a]
                refine Aq3 ((toT m (rmT m i T)).map dqs) rfl rfl (by simp only[lt'];omega) (by simp only[lt'];omega) hz0 (by omega) (by simp[hr'];omega) ?_
                refine Ar ((i:Int)-1) rfl ?_ (wr (show ((i+1:Nat):Int)-1-1=(i:Int)-1 by omega) (by simp only[inK];omega))
                exact Bk ⟨i,1,⟨m,rmT m i T,rm m i c⟩,toT m (rmT m i T)⟩ [(11,90),(82,11)] rfl ⟨⟨w1,by show i<=m;omega,W0a (by rw[hr'];exact W0b _),λh=>absurd h (show ¬1=0 by decide),λ_=>hr',λh=>absurd h (show ¬3<=1 by decide),gone hno⟩,show 1≠0 by decide⟩ (show i<i+1 by omega)
    . refine Ce rfl (hoc (l:=toL (m+1) c) hc.ps hp (by omega)) ?_
      refine Ar (i+1:Nat) rfl ?_ (wr (show ((i+1:Nat):Int)-1+1=((i+1:Nat):Int) by omega) (by simp only[inK];omega))
      refine Lo (λ(q:Nat×Bool)=>[(2,.ptr 2 0),(3,.ptr 3 0),(4,.d (.int .i64 (((i+1:Nat):Int)-1))),(5,.b q.2),(6,.d (.int .i64 q.1))]) (λ_=>TH ⟨i+1,2,⟨m+1,T,c⟩,zs⟩) (λq=>i+1<=q.1/\q.1<=m+1/\(q.2=true↔need i q.1)) (λq=>m+1-q.1) (i+1,dc (oc (toL (m+1) c) i)) [] rfl ⟨W0b _,by show i+1<=m+1;omega,need0⟩ (λ(j,b) ⟨g1,g2,g3⟩=>?_)
      simp only at g1 g2 g3
      refine By rfl (λh=>?_) λh=>?_<;>try simp only[lt'] at h
      . obtain⟨l,hl,hzj,hls⟩:=rad j (by omega)
        refine By rfl (λhb=>?_) λhb=>?_
        . refine Ar (j+1:Nat) rfl ?_
          exact Bk (j+1,true) [] rfl ⟨by show i+1<=j+1;omega,by show j+1<=m+1;omega,by show true=true↔_;rw[needS hl g1];exact⟨λ_=>.inl (g3.1 hb),λ_=>rfl⟩⟩ (by show m+1-(j+1)<m+1-j;omega)
        . refine E3 j rfl (by first | omega | (simp only[lt'];omega)) ?_
          refine Ld (dqs l) rfl (mp hzj) ?_
          refine Ce rfl (hoc (l:=l) hls.ps hr (by rw[rlen hl];have:=p16 (show j<=16 by omega);omega)) ?_
          refine Ar (j+1:Nat) rfl ?_
          exact Bk (j+1,dc (oc l i)) [] rfl ⟨by show i+1<=j+1;omega,by show j+1<=m+1;omega,by show dc (oc l i)=true↔_;rw[needS hl g1,Xaj];exact⟨.inr,λh=>h.elim (λh=>absurd (g3.2 h) hb) id⟩⟩ (by show m+1-(j+1)<m+1-j;omega)
      . obtain rfl:j=m+1:=by omega
        refine By rfl (λhb=>?_) λhb=>?_
        . refine Ar ((i:Int)-1) rfl ?_ (wr (show ((i+1:Nat):Int)-1-1=(i:Int)-1 by omega) (by simp only[inK];omega))
          exact Bk ⟨i,2,⟨m+1,T,c⟩,zs⟩ [] rfl ⟨⟨⟨h1,hF.1,(Xpx (keep (g3.1 hb) i (W0b _) (by omega))).symm.trans hF.2⟩,by show i<=m+1;omega,h3,h4,h5,λh=>absurd h (show ¬3<=2 by decide),keep (g3.1 hb)⟩,h7⟩ (show i<i+1 by omega)
        . have hno:¬need i (m+1):=λh=>hb (g3.2 h)
          obtain⟨w1,w2⟩:=out hno
          have hw0:=hwo (l:=toL (m+1) c) (by omega)
          rw[<-w2] at hw0
          refine Ce rfl hw0 ?_
          refine Ar (i+1:Nat) rfl ?_ (wr (show ((i+1:Nat):Int)-1+1=((i+1:Nat):Int) by omega) (by simp only[inK];omega))
          refine Lo (λ(j:Nat)=>[(2,.ptr 2 0),(3,.ptr 3 0),(4,.d (.int .i64 (((i+1:Nat):Int)-1))),(7,.d (.int .i64 j))]) (λj=>TH' 2 m (toL m (rm m i c)) zs (wl i j zs)) (λj=>i+1<=j/\j<=m+1) (λj=>m+1-j) (i+1) [] rfl ⟨W0b _,by omega⟩ (λj ⟨g1,g2⟩=>?_) (by rw[wl_start];exact⟨rfl,rfl,rfl,rfl,rfl⟩)
          refine By rfl (λh=>?_) λh=>?_<;>try simp only[lt'] at h
          . obtain⟨l,hl,hzj,hls⟩:=rad j (by omega)
            refine Dw rfl ?_
            refine E3 j rfl (by first | omega | (simp only[lt',wl_len];omega)) ?_
            refine Ld (dqs l) rfl (mp (by rw[wl_get,hzj,W3i,if_neg (by omega)])) ?_
            refine Ce rfl (hwo (l:=l) (by rw[rlen hl];have:=p16 (show j<=16 by omega);omega)) ?_
            refine E3 j rfl (by first | omega | (simp only[lt',wl_len];omega)) ?_
            refine Sto rfl (by simp only[lt',wl_len];omega) (zs:=(wl i (j+1) zs).map dqs) (by rw[<-wl_set (by omega) hzj];exact ms) ?_
            refine Ar (j+1:Nat) rfl ?_
            exact Bk (j+1) [] rfl ⟨by omega,by omega⟩ (by show m+1-(j+1)<m+1-j;omega)
          . obtain rfl:j=m+1:=by omega
            have hwe:=wl_end h3 (show i<=m by omega)
            have hws:(wl i (m+1) zs).length=zs.length:=wl_len
            have hr':=Xaa m (rmT m i T)
            refine Dw rfl ?_
            by_cases i0:i=0
            . subst i0
              refine S30 rfl rfl ?_
              refine Ar (0+1:Nat) rfl ?_
              refine D3 (0+1) rfl (by omega) ?_
              have hz0:(((wl 0 (m+1) zs).map dqs).drop (0+(0+1))).take (m+1-(0+1))=(toT m (rmT m 0 T)).map dqs:=by rw[<-hwe,W5c,W4b,W1k,<-W4j,<-W2d]
              refine AqN ((toT m (rmT m 0 T)).map dqs) rfl (by simp only[lt'];omega) hz0 (by simp[hr'];omega) ?_
              refine Ar (((0:Nat):Int)-1) rfl ?_ (wr (show ((0+1:Nat):Int)-1-1=((0:Nat):Int)-1 by omega) (by simp[inK]))
              exact Bk ⟨0,3,⟨m,rmT m 0 T,rm m 0 c⟩,toT m (rmT m 0 T)⟩ [(11,90),(82,11)] rfl ⟨⟨w1,W0w _,W0a (by rw[hr'];exact W0b _),λh=>absurd h (show ¬3=0 by decide),λh=>absurd h (show ¬3=1 by decide),λ_=>⟨rfl,hr'⟩,gone hno⟩,show 3≠0 by decide⟩ (show 0<0+1 by decide)
            . refine S3 i rfl (.inr rfl) (by omega) (by first | omega | (simp only[lt'];omega)) ?_
              refine Ar (i+1:Nat) rfl ?_ (wr (show ((i+1:Nat):Int)-1+1=((i+1:Nat):Int) by omega) (by simp only[inK];omega))
              refine D3 (i+1) rfl (by omega) ?_
              by_cases im:i=m
              . subst im
                refine Yo3 rfl rfl (by simp only[lt'];omega) (by simp only[lt'];omega) (by omega) (by omega) ?_
                refine Ar ((i:Int)-1) rfl ?_ (wr (show ((i+1:Nat):Int)-1-1=(i:Int)-1 by omega) (by simp only[inK];omega))
                rw[W3b,W5c,W3t] at hwe
                exact Bk ⟨i,2,⟨i,rmT i i T,rm i i c⟩,wl i (i+1) zs⟩ [] rfl ⟨⟨w1,W0b _,hwe,λh=>absurd h (show ¬2=0 by decide),λh=>absurd h (show ¬2=1 by decide),λh=>absurd h (show ¬3<=2 by decide),gone hno⟩,show 2≠0 by decide⟩ (show i<i+1 by omega)
              . have hz0:((wl i (m+1) zs).map dqs).take i++(((wl i (m+1) zs).map dqs).drop (0+(i+1))).take (m+1-(i+1))=(toT m (rmT m i T)).map dqs:=by rw[<-hwe,W1k,<-W2d,<-W4j,<-W2d,<-W2a]
                refine Aq3 ((toT m (rmT m i T)).map dqs) rfl rfl (by simp only[lt'];omega) (by simp only[lt'];omega) hz0 (by omega) (by simp[hr'];omega) ?_
                refine Ar ((i:Int)-1) rfl ?_ (wr (show ((i+1:Nat):Int)-1-1=(i:Int)-1 by omega) (by simp only[inK];omega))
                exact Bk ⟨i,1,⟨m,rmT m i T,rm m i c⟩,toT m (rmT m i T)⟩ [(11,90),(82,11)] rfl ⟨⟨w1,by show i<=m;omega,W0a (by rw[hr'];exact W0b _),λh=>absurd h (show ¬1=0 by decide),λ_=>hr',λh=>absurd h (show ¬3<=1 by decide),gone hno⟩,show 1≠0 by decide⟩ (show i<i+1 by omega)
theorem Xpm{P:Rat->Prop}(hP:Als P x)(hG:red K G)(hS:S.length<=3)(hx:NOk G S r p x v)(hr:r<=8796093022208)(hp:p<=8796093022208): C0 202 [.d (dN x)] λw=>∃z:Nm,w=.d (dN z)/\NOk G S r p z v/\Tm z/\Als P z :=
 (Xx3 hP hG hS hx hr hp).mono λ_ ⟨z,e,h1,h2,_⟩=>⟨z,e,h1,h2⟩
end
end
section
def sh(x:Rat): Prop:=(dig x.num.natAbs).length<=2/\(dig x.den).length<=2
def shN(x:Nm): Prop:=(∀q∈toL x.k x.a,sh q)/\∀l∈toT x.k x.t,∀q∈l,sh q
theorem sh.qs{x:Rat}(h:sh x): Qs 64 x:=by
 have key:∀n:Nat,(dig n).length<=2->n<2^64:=λn hn=>by
  have h1:=Xb2 (Xae n)
  rw[Xag] at h1
  have h2:4294967296^(dig n).length<=4294967296^2:=W0l (by decide) hn
  omega
 exact⟨key _ h.1,by show ((x.den:Int)).natAbs<_;rw[W1g];exact key _ h.2⟩
theorem Yer{x:Nm}(hk:x.k<=16): C0 201 [.d (dN x)] (·=.b (dc (¬shN x))):=by
 obtain⟨k,t,a⟩:=x
 have hk:k<=16:=hk
 have hp:=p16 hk
 have hcl:=Xab k a
 have hTl:=Xaa k t
 refine En Tryz.func201 λ_ _ _=>?_
 refine Lo (λi:Nat=>[(1,.ptr 1 0),(3,.d (.int .i64 i))]) (λ_=>[(1,.var (.d (dN ⟨k,t,a⟩)))]) (λi=>i<=2^k/\∀j q,j<i->(toL k a)[j]?=some q->sh q) (λi=>2^k-i) 0 [] rfl ⟨by omega,λj q h=>by omega⟩ λi ⟨hi,hs⟩=>?_
 refine By rfl (λh=>?_) λh=>?_
 . have h:(i:Int)<(((toL k a).map dq).length:Nat):=h
   rw[lq,hcl] at h
   obtain⟨x,hx⟩:=qat (l:=toL k a) (k:=i) (by omega)
   have no:¬sh x->¬shN ⟨k,t,a⟩:=λh h2=>h (h2.1 x (W0h hx))
   refine Ix i rfl (mp hx) ?_
   refine By rfl (λh1=>?_) λh1=>?_
   . have h1:((((dig x.num.natAbs).map wd).length:Nat):Int)>2:=h1
     rw[lw] at h1
     exact R1 rfl (.bp ⟨λ_=>no λh=>by have:=h.1;omega,λ_=>rfl⟩)
   . have h1:¬((((dig x.num.natAbs).map wd).length:Nat):Int)>2:=h1
     rw[lw] at h1
     refine Ix i rfl (mp hx) ?_
     refine By rfl (λh2=>?_) λh2=>?_
     . have h2:((((dig ((x.den:Int)).natAbs).map wd).length:Nat):Int)>2:=h2
       rw[lw,W1g] at h2
       exact R1 rfl (.bp ⟨λ_=>no λh=>by have:=h.2;omega,λ_=>rfl⟩)
     . have h2:¬((((dig ((x.den:Int)).natAbs).map wd).length:Nat):Int)>2:=h2
       rw[lw,W1g] at h2
       refine Ar (i+1:Nat) rfl ?_
       refine Bk (i+1) [] rfl ⟨by omega,λj q hj hq=>?_⟩ (by show 2^k-(i+1)<2^k-i;omega)
       by_cases e:j=i
       . subst e;rw[hx] at hq;injection hq with hq;subst hq;exact⟨by omega,by omega⟩
       . exact hs j q (by omega) hq
 have h:¬(i:Int)<(((toL k a).map dq).length:Nat):=h
 rw[lq,hcl] at h
 have hc:∀q∈toL k a,sh q:=λq hq=>by
  obtain⟨j,hj⟩:=W2w hq
  exact hs j q (by have:=(W0m.1 hj).1;omega) hj
 refine Lo (λi:Nat=>[(1,.ptr 1 0),(4,.d (.int .i64 i))]) (λ_=>[(1,.var (.d (dN ⟨k,t,a⟩)))]) (λi=>i<=k/\∀j l,j<i->(toT k t)[j]?=some l->∀q∈l,sh q) (λi=>k-i) 0 [] rfl ⟨by omega,λj q h=>by omega⟩ λi ⟨hi,hs⟩=>?_
 refine By rfl (λh=>?_) λh=>?_
 . have h:(i:Int)<(((toT k t).map dqs).length:Nat):=h
   rw[lt',hTl] at h
   obtain⟨l,hl⟩:∃l,(toT k t)[i]?=some l:=⟨_,W0c (by omega)⟩
   obtain⟨e,e1,_,_⟩:=Tw.at (t:=t) (show i<k by omega)
   obtain rfl:l=toL i e:=by rw[hl] at e1;injection e1
   have hll:=Xab i e
   have hpi:=p16 (show i<=16 by omega)
   refine Lo (λj:Nat=>[(1,.ptr 1 0),(4,.d (.int .i64 i)),(5,.d (.int .i64 j))]) (λ_=>[(1,.var (.d (dN ⟨k,t,a⟩)))]) (λj=>j<=2^i/\∀m q,m<j->(toL i e)[m]?=some q->sh q) (λj=>2^i-j) 0 [] rfl ⟨by omega,λj q h=>by omega⟩ λj ⟨hj,hjs⟩=>?_
   refine Ix i rfl (mp hl) ?_
   refine By rfl (λh1=>?_) λh1=>?_
   . have h1:(j:Int)<(((toL i e).map dq).length:Nat):=h1
     rw[lq,hll] at h1
     obtain⟨x,hx⟩:=qat (l:=toL i e) (k:=j) (by omega)
     have no:¬sh x->¬shN ⟨k,t,a⟩:=λh h2=>h (h2.2 _ (W0h hl) x (W0h hx))
     refine Ix i rfl (mp hl) ?_
     refine Ix j rfl (mp hx) ?_
     refine By rfl (λh1=>?_) λh1=>?_
     . have h1:((((dig x.num.natAbs).map wd).length:Nat):Int)>2:=h1
       rw[lw] at h1
       exact R1 rfl (.bp ⟨λ_=>no λh=>by have:=h.1;omega,λ_=>rfl⟩)
     . have h1:¬((((dig x.num.natAbs).map wd).length:Nat):Int)>2:=h1
       rw[lw] at h1
       refine By rfl (λh2=>?_) λh2=>?_
       . have h2:((((dig ((x.den:Int)).natAbs).map wd).length:Nat):Int)>2:=h2
         rw[lw,W1g] at h2
         exact R1 rfl (.bp ⟨λ_=>no λh=>by have:=h.2;omega,λ_=>rfl⟩)
       . have h2:¬((((dig ((x.den:Int)).natAbs).map wd).length:Nat):Int)>2:=h2
         rw[lw,W1g] at h2
         refine Ar (j+1:Nat) rfl ?_
         refine Bk (j+1) [] rfl ⟨by omega,λm q hm hq=>?_⟩ (by show 2^i-(j+1)<2^i-j;omega)
         by_cases e:m=j
         . subst e;rw[hx] at hq;injection hq with hq;subst hq;exact⟨by omega,by omega⟩
         . exact hjs m q (by omega) hq
   . have h1:¬(j:Int)<(((toL i e).map dq).length:Nat):=h1
     rw[lq,hll] at h1
     refine Ar (i+1:Nat) rfl ?_
     refine Bk (i+1) [] rfl ⟨by omega,λm l hm hl' q hq=>?_⟩ (by show k-(i+1)<k-i;omega)
     by_cases e:m=i
     . subst e;rw[hl] at hl';injection hl' with hl';subst hl'
       obtain⟨n,hn⟩:=W2w hq
       exact hjs n q (by have:=(W0m.1 hn).1;omega) hn
     . exact hs m l (by omega) hl' q hq
 . have h:¬(i:Int)<(((toT k t).map dqs).length:Nat):=h
   rw[lt',hTl] at h
   refine R1 rfl (.bp ⟨nofun,λh2=>absurd ⟨hc,λl hl q hq=>?_⟩ h2⟩)
   obtain⟨n,hn⟩:=W2w hl
   have h6:n<(toT k t).length:=(W0m.1 hn).1
   exact hs n l (by omega) hn q hq
end
end Go.Proofs.YtegepebhkhhhoaaGreatDoor.R9
namespace Go.Tow
open Go Go.Num Go.Proofs.YtegepebhkhhhoaaGreatDoor
variable{K:Nat}{G:Tw K}{ρ:Nat->El K}{S:List (El K)}{r p:Nat}{x:Nm}{v:El K}
theorem TOk.sub{k:Nat}{t:Tw k}{S':List (El K)}(h:TOk G S k t ρ)(hs:∀s∈S,s∈S'): TOk G S' k t ρ:=⟨h.r,h.h,λi hi=>hs _ (h.s i hi)⟩
theorem NOk.sub{S':List (El K)}(h:NOk G S r p x v)(hs:∀s∈S,s∈S'): NOk G S' r p x v:=by
 obtain⟨ρ,h1,h2⟩:=h.ex
 exact⟨⟨ρ,h1.sub hs,h2⟩,h.r,h.p⟩
theorem NOk.tsn(hG:Xb9 K G){w:El K}(h:NOk G S r p x v): NOk (Tow.tsn G w) (S.map (up K)) r p x (up K v):=by
 obtain⟨ρ,h1,h2⟩:=h.ex
 exact⟨⟨_,⟨h1.r,h1.h.tsn hG,λi hi=>W3s.2 ⟨_,h1.s i hi,rfl⟩⟩,by rw[Xkg,h2]⟩,h.r,h.p⟩
theorem _root_.Go.Proofs.YtegepebhkhhhoaaGreatDoor.TS.of{r:Nat}{k:Nat}: ∀ {t:Tw k},(∀(i:Nat) l,(toT k t)[i]?=some l->Sz r l)->TS r k t:=by
 induction k with
 | zero=>intro t _;trivial
 | succ k ih =>
  intro t h
  have hl:=Xaa k t.1
  refine⟨ih λi l hi=>h i l ?_,h k _ ?_⟩
  . show (toT k t.1++[toL k t.2])[i]?=_
    rw[W0r (W0m.1 hi).1,hi]
  . show (toT k t.1++[toL k t.2])[k]?=_
    rw[W0q (by omega),hl,W3b];rfl
def Wld(n:Nat)(l:List Nm)(P:∀ {K:Nat},Tw K->List (El K)->Prop): Prop:=∃(K:Nat) (G:Tw K) (S:List (El K)),red K G/\S.length<=n/\Ygb G S 300 600/\(∀y∈l,∃v,NOk G S 300 600 y v)/\P G S
theorem Xsd{n:Nat}{l:List Nm}(hG:red K G)(hS:S.length<=n)(hq:Ygb G S 300 600)(hl:∀y∈l,∃v,NOk G S 300 600 y v){k:Nat}{t:Tw k}{a:El k}(ht:TOk G S k t ρ)(h3:TS 300 k t)(h6:Sz 600 (toL k a))(h0:0<=sgn k t a)(hn:¬Xdc k t a)(hT:TS r (k+1) (tsn t a))(hr:Sz p (toL (k+1) (Xdd (k+1) k))):
 Wld (n+1) l λG S=>∃v,NOk G S r p ⟨k+1,tsn t a,Xdd (k+1) k⟩ v:=by
 have hGr:=Xad hG
 have L:=Xay K G
 have Sg:=Xap hGr
 have ha0:a≠zero k:=λe=>hn ⟨zero k,by rw[e,(Xay k t).mz]⟩
 have h1:sgn k t a=1:=by
  rcases Xcc t a with h | h | h
  . exact h
  . exact absurd ((Xa9 ht.r).1 h) ha0
  . omega
 have hv:sgn K G (ev G ρ k a)=1:=by rw[Xef hGr ht.h];exact h1
 by_cases hs:Xdc K G (ev G ρ k a)
 . obtain⟨s,hs⟩:=hs
   obtain⟨s,hs,hp⟩:∃s,mul K G s s=ev G ρ k a/\sgn K G s=1:=by
    rcases Xcc G s with h | h | h
    . exact⟨s,hs,h⟩
    . rw[<-hs,Sg.sm,h] at hv;cases hv
    . exact⟨neg K s,by rw[L.mn,L.nm,L.nn,hs],by rw[Sg.sn,h];rfl⟩
   have hsub:∀y∈S,y∈s::S:=λy h=>W1c _ h
   refine⟨K,G,s::S,hG,by simp;omega,λg hg=>?_,λy hy=>(hl y hy).elim λv h=>⟨v,h.sub hsub⟩,_,⟨_,(ht.sub hsub).snoc hGr hn (W1a ..) hs hp,rfl⟩,hT,hr⟩
   rcases W1n.1 hg with rfl | hg
   . exact⟨⟨k,t,a⟩,⟨_,ht.sub hsub,hs.symm⟩,h3,h6⟩
   . obtain⟨z,hz⟩:=hq g hg
     exact⟨z,hz.sub hsub⟩
 . have hG':red (K+1) (tsn G (ev G ρ k a)):=⟨hG,hv,hs⟩
   have hm:∀y∈S.map (up K),y∈rt1 K::S.map (up K):=λy h=>W1c _ h
   have hto:TOk (tsn G (ev G ρ k a)) (rt1 K::S.map (up K)) k t (λi=>up K (ρ i)):=⟨ht.r,ht.h.tsn hGr,λi hi=>hm _ (W3s.2 ⟨_,ht.s i hi,rfl⟩)⟩
   refine⟨K+1,tsn G (ev G ρ k a),rt1 K::S.map (up K),hG',by simp;omega,λg hg=>?_,λy hy=>(hl y hy).elim λv h=>⟨_,(h.tsn hGr).sub hm⟩,_,⟨_,hto.snoc (Xad hG') hn (W1a ..) (s:=rt1 K) ?_ ?_,rfl⟩,hT,hr⟩
   . rcases W1n.1 hg with rfl | hg
     . exact⟨⟨k,t,a⟩,⟨_,hto,by rw[Xkg];exact(Xqm (t:=Tow.tsn G (ev G ρ k a))).symm⟩,h3,h6⟩
     . obtain⟨g',hg',rfl⟩:=W3s.1 hg
       obtain⟨z,hz⟩:=hq g' hg'
       exact⟨z,by rw[Xj6];exact(hz.tsn hGr).sub hm⟩
   . rw[Xkg];exact Xqm
   . exact Xue (t:=tsn G (ev G ρ k a)) hGr
end Go.Tow
namespace Go.Proofs.YtegepebhkhhhoaaGreatDoor
open Go Go.Vm Go.Num Go.Tow
structure RO where
 kind:Nat
 a:Nat
 b:Nat
 n:Int
 d:Nat
 h:kind<256/\a<256/\b<256/\d<256/\-128<=n/\n<128
abbrev dO(o:RO): D:=.st (.pr (.int .u8 o.kind) (.pr (.int .u8 o.a) (.pr (.int .u8 o.b) (.pr (.int .i8 o.n) (.int .u8 o.d)))))
abbrev dRs(l:List RO): D:=.sl 5 (l.map dO)
end Go.Proofs.YtegepebhkhhhoaaGreatDoor
namespace Go.Proofs.YtegepebhkhhhoaaGreatDoor.R9
open Go Go.Vm Go.Num Go.Tow Go.Proofs.YtegepebhkhhhoaaGreatDoor
theorem Ydw{l:List Rat}{n q:Nat}(h:∀x∈l,sh x)(hn:l.length<=n)(hq:64*n+1<=q): Sz q l:=(Sz.all λx hx=>(h x hx).qs).mono (W0k (by have:=W0t 64 hn;omega) hq)
theorem shN.ok{K:Nat}{G:Tw K}{S:List (Tow.El K)}{r p:Nat}{z:Nm}{v:Tow.El K}(hs:shN z)(h:NOk G S r p z v)(hk:z.k<=3): NOk G S 300 600 z v :=
 ⟨h.ex,TS.of λi l hl=>by
  have hi:=(W0m.1 hl).1
  rw[Xaa] at hi
  have:l.length<=4:=by
   rw[(TS.pt h.r _ _ hl).1];exact W0l (n:=2) (by decide) (show i<=2 by omega)
  exact Ydw (n:=4) (hs.2 l (W0h hl)) this (by decide),
  Ydw (n:=8) hs.1 (by rw[Xab];exact W0l (n:=2) (by decide) hk) (by decide)⟩
def Big(l:List Nm)(n:Nat)(z:Nm): Prop:=n<=3/\Wld n l λG S=>∃v,NOk G S wR (oW 1000000) z v
theorem Ynk: 300<=wR/\600<=oW 1000000/\600+gC 300 3<=oW 1000000/\900<=wR/\iS 300 3 600<=1000000/\iB 300 3 600<=4398046511104/\qB 300 3 600<=4398046511104/\qB 300 3 300<=4398046511104/\vB 300 3 (600+gC 300 3)<=4398046511104/\vB 300 3 300<=4398046511104/\vB 300 3 600<=4398046511104/\oW 1000000<=8796093022208:=by decide +kernel
theorem remN{a m:Nat}{k:IntKind}(hm:0<m): arB .rem k a m (a%m:Nat):=show _/\_ from⟨by omega,Xr8 a m⟩
theorem Xpt{n m:Nat}{l:List Nm}{P:∀ {K:Nat},Tw K->List (Tow.El K)->Prop}(h:Wld n l @P)(hn:n<=m): Wld m l @P:=by
 obtain⟨K,G,S,h1,h2,h3,h4⟩:=h
 exact⟨K,G,S,h1,W0k h2 hn,h3,h4⟩
theorem Ye7{n:Int}{d:Nat}(hn:-128<=n/\n<128)(hd:0<d/\d<=8): sh (Rat.divInt n d):=by
 have h1:(Rat.divInt n d).num.natAbs<=n.natAbs:=by
  rw[Rat.num_divInt,Int.natAbs_ediv_of_dvd ?_]
  . have hs:((d:Int)).sign=1:=W6i (by omega)
    rw[hs,W3j]
    exact W3g ..
  . have hs:((d:Int)).sign=1:=W6i (by omega)
    rw[hs,W3j];exact Int.gcd_dvd_right ..
 have h2:(Rat.divInt n d).den<=d:=by
  rw[Rat.den_divInt,if_neg (by omega),W1g]
  exact W3g ..
 exact⟨Xat (W1y h1 (by omega)),Xat (W1y h2 (by omega))⟩
theorem Ylu{ops:List RO}: C0 118 [.d (dRs ops)] λv=>∃l:List Nm,v=.d (dNs l)/\l.length<=24/\(∀z∈l,Tm z/\shN z)/\Wld 3 l λ_ _=>True:=by
 obtain⟨b1,b2,b3,b4,b5,b6,b7,b8,b9,b10,b11,b12⟩:=Ynk
 have app:∀ {K:Nat} {G:Tw K} {S:List (Tow.El K)} {l:List Nm} {z:Nm} {v:Tow.El K},(∀y∈l,∃v,NOk G S 300 600 y v)->NOk G S 300 600 z v->∀y∈l++[z],∃v,NOk G S 300 600 y v:=λh hz y hy=>by
  rcases W1v.1 hy with hy | hy
  . exact h y hy
  . rw[W0i.1 hy];exact⟨_,hz⟩
 have apt:∀ {l:List Nm} {z:Nm},(∀y∈l,Tm y/\shN y)->(Tm z/\shN z)->∀y∈l++[z],Tm y/\shN y:=λh hz y hy=>by
  rcases W1v.1 hy with hy | hy
  . exact h y hy
  . rw[W0i.1 hy];exact hz
 refine En Tryz.func118 λ_ _ _=>?_
 refine Nl 3 3 2 rfl ?_
 refine Lo (λ(s:Nat×Nat×List Nm)=>[(0,.d (dRs ops)),(3,.gr 3 2 (s.2.2.map dN)),(4,.d (.int .i64 s.2.1)),(5,.d (.int .i64 s.1))]) (λs=>[(3,.tok (s.2.2.map dN).length 2)]) (λs=>s.1<=24/\s.2.2.length=s.1/\s.2.1<=3/\(∀z∈s.2.2,Tm z/\shN z)/\Wld s.2.1 s.2.2 λ_ _=>True) (λs=>24-s.1) (0,0,[]) [] rfl
  ⟨W0w _,rfl,W0w _,λz hz=>(nomatch hz),0,(),[],trivial,W0b _,λg hg=>(by cases hg),λy hy=>(by cases hy),trivial⟩ (λ(i,n,l) ⟨hi,hl,hn3,hm,hw⟩=>?_)
 simp only at hi hl hn3 hm hw
 refine By rfl (λh=>?_) λh=>?_
 . have h:(i:Int)<((ops.map dO).length:Nat):=h
   rw[W0j] at h
   refine By rfl (λh2=>?_) λh2=>?_
   . have h2:(i:Int)<24:=h2
     obtain⟨o,ho⟩:∃o,ops[i]?=some o:=⟨_,W0c (by omega)⟩
     obtain⟨o1,o2,o3,o4,o5⟩:=o.h
     refine Ix i rfl (u:=dO o) (by rw[W1s,ho];rfl) ?_
     have frac:sh (Rat.divInt o.n (o.d%8+1:Nat)):=Ye7 ⟨o5.1,o5.2⟩ ⟨by omega,by omega⟩
     obtain⟨q,hqe⟩:∃q,q=Rat.divInt o.n (o.d%8+1:Nat):=⟨_,rfl⟩
     rw[<-hqe] at frac
     have hqs:shN ⟨0,(),q⟩:=⟨λx hx=>by obtain rfl:=W0i.1 hx;exact frac,λl hl=>nomatch hl⟩
     have hq0:∀ {K:Nat} (G:Tw K) (S:List (Tow.El K)) (r p:Nat),65<=p->NOk G S r p ⟨0,(),q⟩ (rat K q):=λG S r p hp=>⟨⟨λ_=>zero _,⟨trivial,trivial,λi hi=>absurd hi (W4d _)⟩,rfl⟩,trivial,Ydw (n:=1) hqs.1 (W0b _) (by omega)⟩
     refine Go.Vm.Cv o.n rfl ?_ (wI (by omega))
     refine Ar (o.d%8:Nat) rfl ?_ (remN (by decide))
     refine Go.Vm.Cv (o.d%8:Nat) rfl ?_ (wI (by omega))
     refine Ar (o.d%8+1:Nat) rfl ?_
     have hfr:=Frac_ok (a:=o.n) (b:=(o.d%8+1:Nat)) (by omega) (by omega) (by omega)
     rw[<-hqe] at hfr
     refine Ce rfl hfr ?_
     refine By rfl (λh3=>?_) λh3=>?_
     . have h3:((l.map dN).length:Int)>0:=h3
       rw[W0j] at h3
       refine Ar (o.kind%6:Nat) rfl ?_ (remN (by decide))
       refine Cu none (λ(s:Nm×Nat)=>[(0,.d (dRs ops)),(3,.gr 3 2 (l.map dN)),(4,.d (.int .i64 s.2)),(5,.d (.int .i64 i)),(7,.ptr 7 0)]) (λs=>[(3,.tok (l.map dN).length 2),(7,.var (.d (dN s.1)))]) (λs=>Big l s.2 s.1) rfl ?_ (λ(z,n') hB=>?_)
       . obtain⟨K,G,S,hG,hS,hq,hall,_⟩:=hw
         have hS3:=W0k hS hn3
         have hGr:=Xad hG
         have W:=hq.wd hG hS3
         refine By rfl (λh4=>?_) λh4=>?_
         . obtain⟨xa,hxa⟩:∃x,l[o.a%l.length]?=some x:=⟨_,W0c (W1x _ (by omega))⟩
           obtain⟨xb,hxb⟩:∃x,l[o.b%l.length]?=some x:=⟨_,W0c (W1x _ (by omega))⟩
           obtain⟨va,ha⟩:=hall xa (W0h hxa)
           obtain⟨vb,hb⟩:=hall xb (W0h hxb)
           have ha1:NOk G S 300 1000000 xa va:=ha.mono (W0b _) (by decide)
           have hb1:NOk G S 300 1000000 xb vb:=hb.mono (W0b _) (by decide)
           have hua:(l.map dN)[o.a%l.length]?=some (dN xa):=by rw[W1s,hxa];rfl
           have hub:(l.map dN)[o.b%l.length]?=some (dN xb):=by rw[W1s,hxb];rfl
           have hrm:∀ {c:Nat},arB .rem .i64 c ((l.map dN).length:Nat) (c%l.length:Nat):=λ{c}=>by rw[W0j];exact remN (by omega)
           have ka:=ha.le hGr hS3
           have ok:∀ {z:Nm} {v:Tow.El K},NOk G S wR (oW 1000000) z v->Big l n z:=λh=>⟨hn3,K,G,S,hG,hS,hq,hall,_,h⟩
           have same:Big l n xa:=ok (ha.mono b1 b2)
           refine Dz rfl ?_
           refine Go.Vm.Cv (o.a:Nat) rfl ?_ (wI (by omega))
           refine Ar (o.a%l.length:Nat) rfl ?_ hrm
           refine Ix (o.a%l.length) rfl hua ?_
           refine Go.Vm.Cv (o.b:Nat) rfl ?_ (wI (by omega))
           refine Ar (o.b%l.length:Nat) rfl ?_ hrm
           refine Ix (o.b%l.length) rfl hub ?_
           refine Ar (o.kind%6:Nat) rfl ?_ (remN (by decide))
           refine By rfl (λc1=>?_) λc1=>?_
           . refine Ca rfl (Add_ok W ha1 hb1 (by decide)) λv hv=>?_
             obtain⟨z,rfl,hz⟩:=hv
             refine Ce rfl (Xhb (x:=z) (y:=xa)) ?_
             exact Jn (z,n) [] rfl (ok hz)
           refine By rfl (λc2=>?_) λc2=>?_
           . refine Ca rfl (Sub_ok W ha1 hb1 (by decide)) λv hv=>?_
             obtain⟨z,rfl,hz⟩:=hv
             refine Ce rfl (Xhb (x:=z) (y:=xa)) ?_
             exact Jn (z,n) [] rfl (ok hz)
           refine By rfl (λc3=>?_) λc3=>?_
           . refine Ca rfl (Mul_ok W ha1 hb1 (by decide)) λv hv=>?_
             obtain⟨z,rfl,hz⟩:=hv
             refine Ce rfl (Xhb (x:=z) (y:=xa)) ?_
             exact Jn (z,n) [] rfl (ok hz)
           refine By rfl (λc4=>?_) λc4=>?_
           . refine Ca rfl (Div_ok W ha1 hb b5 b6 (by decide)) λv hv=>?_
             rcases hv with ⟨_,rfl⟩ | ⟨w,_,z,rfl,hz⟩
             . refine Ce rfl (Xzq (y:=xa)) ?_
               exact Jn (xa,n) [] rfl same
             . refine Ce rfl (Xhb (x:=z) (y:=xa)) ?_
               exact Jn (z,n) [] rfl (ok hz)
           have rt:∀ {y:Nm} {vy:Tow.El K} {v:AV},NOk G S 300 600 y vy->RtR y v->n<3->∃z:Nm,v=.tup (.pr (.d (dN z)) (.d (.int .i64 0)))/\Big l (n+1) z:=λ{y vy v} hy hv hn=>by
            obtain⟨ρ,y1,y2⟩:=hy.ex
            have ky:=hy.le hGr hS3
            obtain⟨z,rfl,⟨w,rfl,e1,e2⟩ | ⟨rfl,e1,e2⟩⟩:=hv
            . exact⟨_,rfl,by omega,K,G,S,hG,by omega,hq,hall,_,⟨ρ,y1,rfl⟩,hy.r.mono b1,(hy.p.rootS hy.r y1.r e1).mono (W0k (Nat.add_le_add_left (Xwk ky) _) b3)⟩
            . exact⟨_,rfl,by omega,Xsd hG hS hq hall y1 hy.r hy.p e1 e2 ⟨hy.r.mono b1,hy.p.mono (by omega)⟩ ((Xup y.k).mono (by omega))⟩
           have sq:∀ {y:Nm} {vy:Tow.El K},NOk G S 300 600 y vy->0<=sgn K G vy->C0 200 [.d (dN y)] (RtR y):=λ{y vy} hy h0=>by
            obtain⟨ρ,y1,y2⟩:=hy.ex
            have ky:=hy.le hGr hS3
            rw[hy.sgn hGr] at h0
            have q1:=Xop (r:=300) (p:=600) ky
            have q2:=Xop (r:=300) (p:=300) ky
            have q3:=Xcv (r:=300) (k:=y.k) (show 600+gC 300 y.k<=600+gC 300 3 by have:=Xwk (r:=300) ky;omega)
            have q4:=Xg0 (r:=300) (s:=600+gC 300 3) ky
            have q5:=Xg0 (r:=300) (s:=300) ky
            exact Sqrt_ok y1.r hy.r hy.p h0 (by omega) (by omega) (by omega) (by omega) (by omega)
           have q6:=Xg0 (r:=300) (s:=600) ka
           refine Ce rfl (Sign_ok hG ha (by omega) (by omega)) ?_
           refine By rfl (λc5=>?_) λc5=>?_
           . refine Ce rfl (Neg_ok ha (by omega) (by decide)) ?_
             have hneg:=ha.neg
             refine By rfl (λc6=>?_) λc6=>?_
             . have c6:(n:Int)<3:=c6
               refine Ar (n+1:Nat) rfl ?_ (wr (show (n:Int)+1=((n+1:Nat):Int) by omega) (by simp only[inK];omega))
               refine Ca rfl (sq hneg (by rw[(Xap hGr).sn];omega)) λv hv=>?_
               obtain⟨z,rfl,hz⟩:=rt hneg hv (by omega)
               refine Ce rfl (Xhb (x:=z) (y:=⟨xa.k,xa.t,Tow.neg xa.k xa.a⟩)) ?_
               exact Jn (z,n+1) [] rfl hz
             . exact Jn (xa,n) [] rfl same
           . refine By rfl (λc6=>?_) λc6=>?_
             . have c6:(n:Int)<3:=c6
               refine Ar (n+1:Nat) rfl ?_ (wr (show (n:Int)+1=((n+1:Nat):Int) by omega) (by simp only[inK];omega))
               refine Ca rfl (sq ha (by omega)) λv hv=>?_
               obtain⟨z,rfl,hz⟩:=rt ha hv (by omega)
               refine Ce rfl (Xhb (x:=z) (y:=xa)) ?_
               exact Jn (z,n+1) [] rfl hz
             . exact Jn (xa,n) [] rfl same
         . exact Jn (⟨0,(),q⟩,n) [] rfl ⟨hn3,K,G,S,hG,hS,hq,hall,_,hq0 G S _ _ (by omega)⟩
       . obtain⟨hn',K,G,S,hG,hS,hq,hall,v,hz⟩:=hB
         have hS3:=W0k hS hn'
         have hGr:=Xad hG
         have kz:z.k<=3:=hz.le hGr hS3
         refine Yes rfl (by rw[W0j];exact h3) ?_
         refine Ce rfl (Yer (x:=z) (W0k kz (by decide))) ?_
         refine By rfl (λh5=>?_) λh5=>?_
         . obtain⟨y,hy⟩:∃y,l[l.length-1]?=some y:=⟨_,W0c (by omega)⟩
           obtain⟨vy,hvy⟩:=hall y (W0h hy)
           refine Ar (l.length-1:Nat) rfl ?_ (wr (by rw[W0j];omega) (by simp only[inK];omega))
           refine Ix (l.length-1) rfl (u:=dN y) (by rw[W1s,hy];rfl) ?_
           refine Ca rfl (Xpm (hm y (W0h hy)).2 hG hS3 hvy (by decide) (by decide)) λv hv=>?_
           obtain⟨z',rfl,hz',ht'⟩:=hv
           refine ApG ((l++[z']).map dN) rfl (by simp) (by simp;omega) ?_
           refine Ar (i+1:Nat) rfl ?_
           exact Bk (i+1,n',l++[z']) [(157,3)] rfl ⟨by show i+1<=24;omega,by simp[hl],hn',apt hm ht',K,G,S,hG,hS,hq,app hall hz',trivial⟩ (by show 24-(i+1)<24-i;omega)
         . have hsh:shN z:=by simpa [Xaq,Xaj] using h5
           refine Ca rfl (Xpm hsh hG hS3 (hsh.ok hz kz) (by decide) (by decide)) λv hv=>?_
           obtain⟨z',rfl,hz',ht'⟩:=hv
           refine ApG ((l++[z']).map dN) rfl (by simp) (by simp;omega) ?_
           refine Ar (i+1:Nat) rfl ?_
           exact Bk (i+1,n',l++[z']) [(157,3)] rfl ⟨by show i+1<=24;omega,by simp[hl],hn',apt hm ht',K,G,S,hG,hS,hq,app hall hz',trivial⟩ (by show 24-(i+1)<24-i;omega)
     . have h3:¬((l.map dN).length:Int)>0:=h3
       rw[W0j] at h3
       obtain⟨K,G,S,hG,hS,hq,hall,_⟩:=hw
       have hS3:=W0k hS hn3
       refine No rfl (by rw[W0j];exact h3) ?_
       refine Ca rfl (Xpm hqs hG hS3 (hq0 G S 300 600 (by decide)) (by decide) (by decide)) λv hv=>?_
       obtain⟨z',rfl,hz',ht'⟩:=hv
       refine ApG ((l++[z']).map dN) rfl (by simp) (by simp;omega) ?_
       refine Ar (i+1:Nat) rfl ?_
       exact Bk (i+1,n,l++[z']) [(157,3)] rfl ⟨by show i+1<=24;omega,by simp[hl],hn3,apt hm ht',K,G,S,hG,hS,hq,app hall hz',trivial⟩ (by show 24-(i+1)<24-i;omega)
   . exact Rt rfl (.one (.gr rfl) rfl rfl) ⟨l,rfl,by omega,hm,Xpt hw hn3⟩
 . exact Rt rfl (.one (.gr rfl) rfl rfl) ⟨l,rfl,by omega,hm,Xpt hw hn3⟩
theorem Build_ok{ops:List RO}: C0 118 [.d (dRs ops)] λv=>∃l:List Nm,v=.d (dNs l)/\l.length<=24/\(∀z∈l,Tm z)/\Wld 3 l λ_ _=>True :=
 Ylu.mono λ_ ⟨l,h1,h2,h3,h4⟩=>⟨l,h1,h2,λz hz=>(h3 z hz).1,h4⟩
end Go.Proofs.YtegepebhkhhhoaaGreatDoor.R9
namespace Go.Vm
open Go Go.ChangeShapes Go.WideShapes Go.ChangeAt Go.RowKit
end Go.Vm
namespace Go.Proofs.YtegepebhkhhhoaaGreatDoor
open Go Go.Vm Go.Num
theorem Ymu{α:Type}{f:α->D}{l:List D}(h:∀y∈l,∃x,y=f x): ∃m:List α,l=m.map f:=by
 induction l with
 | nil=>exact⟨[],rfl⟩
 | cons y l ih =>
  obtain⟨x,hx⟩:=h y (W1a ..)
  obtain⟨m,hm⟩:=ih λz hz=>h z (W1c _ hz)
  exact⟨x::m,by rw[hx,hm];rfl⟩
theorem Xzb: Reads Tryz.prog 206 λd=>∃o:RO,d=dO o :=
 (Xen Tryz.underlying206 (.cons (n:=1) rfl (Xgc Tryz.underlying5) (by kernel_rfl) (.cons (n:=1) rfl (Xgc Tryz.underlying5) (by kernel_rfl) (.cons (n:=1) rfl (Xgc Tryz.underlying5) (by kernel_rfl) (.cons (n:=1) rfl (Xy9 Tryz.underlying204) (by kernel_rfl) (.one rfl (Xgc Tryz.underlying5)))))) (λf hf=>by cases hf;kernel_rfl)).mono λd hd=>by
  obtain⟨_,rfl,_,_,rfl,⟨a,rfl,ha⟩,_,_,rfl,⟨b,rfl,hb⟩,_,_,rfl,⟨c,rfl,hc⟩,_,_,rfl,⟨n,rfl,hn⟩,⟨e,rfl,he⟩⟩:=hd
  exact⟨⟨a,b,c,n,e,ha,hb,hc,he,hn⟩,rfl⟩
theorem Xuu{t:TypeId}(ht:Tryz.prog.underlying t=some (.slice 206)): Reads Tryz.prog t λd=>∃ops:List RO,d=dRs ops :=
 (Xfm ht Xzb (sz:=5) (by kernel_rfl) (by decide)).mono λd ⟨l,e,_,h⟩=>by
  obtain⟨m,hm⟩:=Ymu h
  exact⟨m,by rw[e,hm]⟩
theorem Yf3: Arg Tryz.prog 3 λd=>∃n:Int,d=.int .i64 n/\-9223372036854775808<=n/\n<9223372036854775808:=Yf2 Tryz.underlying3 (Xmu Tryz.underlying3) λx ⟨_,e,_⟩=>by rw[e];rfl
open Go Go.Vm Go.Num Go.ChangeShapes Go.WideShapes Go.ChangeAt Go.RowKit
abbrev Yew : List (String × DataW Unit) := [("math/bits.deBruijn32tab", Rows.laid_math_bits_deBruijn32tab), ("math/bits.deBruijn64tab", Rows.laid_math_bits_deBruijn64tab), ("internal/strconv.uint64pow10", Rows.laid_internal_strconv_uint64pow10)]
def Yo4: List Int:=(List.range 20).map λi=>((10^i:Nat):Int)
theorem Ydp: ∀i,i<20->Yo4.getD i 0=((10^i:Nat):Int):=by decide
theorem Yjl : Tryz.prog.globalNamed "internal/strconv.uint64pow10" = some 0 := by kernel_rfl
theorem Yjk: (Tryz.prog.globals[0]?).map (·.type)=some 299:=by kernel_rfl
theorem Ym4{W:World}(h:laidMetH Tryz.prog Yew W): Gb.g Tryz.prog (gw0 W):=by
 rw[Go.MakeChecks.laidMetH_plain Tryz.prog Yew W (by kernel_rfl)] at h
 have h3 : laidMet Tryz.prog (("internal/strconv.uint64pow10", Lib.tabData .u64 Yo4) :: []) W := h.tail.tail
 have ht:=Lib.tabIs_of_head Yjl Yjk Tryz.underlying299 Tryz.underlying163 (by kernel_rfl) (by kernel_rfl) h3
 exact λi hi=>⟨by rw[show (gw0 W).w=W from rfl,ht.cell Yjl i (by rw[show Yo4.length=20 from rfl];exact hi),Ydp i hi],λh=>h⟩
def lay(vs:List (Nat×Array Value))(w:World): World:={ w with heap:=vs.foldl (λh p=>h.modify p.1 fun | .cells _ t frozen=>.cells p.2 t frozen | o=>o) w.heap }
def u8s(l:List Nat): Array Value:=(l.map λ(n:Nat)=>Value.int .u8 n).toArray
def Yo5: List (Nat×Array Value):=[(0,(Yo4.map λz=>Value.int .u64 z).toArray),
 (2,u8s [0,1,28,2,29,14,24,3,30,22,20,15,25,17,4,8,31,27,13,23,21,19,16,7,26,12,18,6,11,5,10,9]),
 (3,u8s [0,1,56,2,57,49,28,3,61,58,42,50,38,29,17,4,62,47,59,36,45,43,51,22,53,39,33,30,24,18,12,5,63,55,48,27,60,41,37,16,46,35,44,21,52,32,23,11,54,26,40,15,34,20,31,10,25,14,19,9,13,8,7,6])]
noncomputable def Xds(os:Os): World:=lay Yo5 (World.holding Tryz.prog os ⟨#[],#[],[]⟩)
theorem Xzr(os:Os)(args:Array Value): laidMet Tryz.prog Yew ((Xds os).forCall (λ_ _=>0) ⟨#[],args,[]⟩).memory :=
 laidMet_of_run' 8 (by kernel_rfl) (by kernel_rfl)
end Go.Proofs.YtegepebhkhhhoaaGreatDoor
namespace Go.Vm
open Go
section
variable{c:Cx}{s:St}{p:Pl}
theorem Xmz{o:Oper}{v:AV}{us:Hpl}(h:nxO c.tb c.n s=some (p,o))(hc:Xal o=false)(hdr:p.dr=false)(hr:Raw c.P o (sem p.E p.H) (v,us))(k:p.nx' c v us): StP c s:=by
 obtain⟨hw,hd⟩:=Xu6 h
 refine Xm0 h (.inl ⟨hw,(Xpk hc).2 (.inr ⟨hdr,(v,us),hr,?_⟩)⟩)
 unfold aft
 rw[Xfl,<-hd];exact Pl.nx'_eq.1 k
noncomputable def Yoq(tb:Nat->Option TI)(n:Nat)(s:St): Option (Pl×Oper×Operand×Operand×TypeId×TypeId×TI×Nat×Int):=match nxO tb n s with
 | some (p,o)=>match o.op,p.dr with
  | .call ⟨.builtin .append,⟨[x,y]⟩,⟨[T,T']⟩⟩,false=>match Xcr (look p.E) x,Xcr (look p.E) y,tb T,tb T' with
   | some .nil,some (.d (.int .i64 m)),some ti,some ⟨.int _ _,_,_,_⟩=>match look p.H (o.dst.getD 0),ti.z,Nat.ble ti.eb 128 with
    | none,.sl sz _,true=>some (p,o,x,y,T,T',ti,sz,m)
    | _,_,_=>none
   | _,_,_,_=>none
  | _,_=>none
 | none=>none
end
theorem Yhu{P:Program}(w:World)(t tn ty e:TypeId)(i:TypeInfo)(z:Value)(k kn:IntKind)(ht:P.underlying t=some (.slice e))(htn:P.underlying tn=some (.int kn))(hi:P.info? e=some i)(hz:i.zero=some z)(q:Option Addr)
 (n:Nat) (h0:0<n) (hs:0<i.size) (h63:(n:Int)<=9223372036854775807) (h48:n*i.bytes<=281474976710656) :
 (Builtin.append_ #[t,tn] ty #[.slice q 0 0,.int k n]).run P w =
  .ok (.slice (some ⟨w.heap.size,0,none⟩) n (grownCap w n 0 e)) (w.drew.alloc (.cells (Builtin.zeroCells z.cells n++Builtin.zeroCells z.cells (grownCap w n 0 e-n)) e)):=by
 cases q with
 | none=>exact Go.Lib.run_append_nil_zeros w t tn ty e i z k kn ht htn hi hz n h0 hs h63 h48
 | some a =>
  have hn:n≠0:=by omega
  have hw:IntKind.i64.wrap (n:Int)=n:=by rw[IntKind.wrap_i64];omega
  have h63':¬(9223372036854775807<(n:Int)):=by omega
  have h48':¬(281474976710656<Builtin.nextslicecap n 0*i.bytes):=by rw[nextslicecap_zero h0];omega
  have h48i:¬(281474976710656<(n:Int)*(i.bytes:Int)):=by
   rw[<-W2o]
   omega
  have hneg:¬((n:Int)<0):=by omega
  have hns:¬(n*i.size=0):=Nat.mul_ne_zero hn (by omega)
  simp[Builtin.append_,run_underlying ht,run_underlying htn,sizeOf,typeInfo,zeroValue,hi,hz,asInt,asIntOf,hw,hn,hneg,hns,h63',h48',h48i,Question.forced,Builtin.firstCells,loadCells,loadCellsFrom,newRow,grownCap]
section
variable{c:Cx}{s:St}{p:Pl}
theorem ApM{o:Oper}{x y:Operand}{T T':TypeId}{ti:TI}{sz:Nat}{m:Int}(n:Nat)(h:Yoq c.tb c.n s=some (p,o,x,y,T,T',ti,sz,m))(h0:0<n)(hr:n<=1099511627776)(k:p.nx' c (.own (o.dst.getD 0) sz 0 n) [(o.dst.getD 0,.arr sz [])])(hm:m=(n:Int):=by first | exact rfl | omega): StP c s:=by
 subst hm
 unfold Yoq at h
 split at h<;>try cases h
 rename_i p' o' ho
 split at h<;>try cases h
 rename_i x' y' T1 T2 hop hdr
 split at h<;>try cases h
 rename_i m' ti1 kn _ e' eb' ar' hx hy hti hti'
 split at h<;>cases h
 rename_i hd hb hz
 refine Xmz ho (by unfold Xal;rw[hop];rfl) hdr (λN W θ ρ _ hO hN hB hv=>?_) k
 obtain⟨hk,_⟩:=c.hT _ _ hti
 obtain⟨t,u1,_,u3⟩:=hk.u
 rw[hz] at u3
 obtain⟨E,e,hsz,hez,ii,v0,i1,i2,i3,i4,i5⟩:=u3
 subst e
 obtain⟨hk',_⟩:=c.hT _ _ hti'
 obtain⟨t',u1',_,u3'⟩:=hk'.u
 have u3':t'=.int kn:=u3'
 subst u3'
 obtain⟨q,ex⟩:=Xn1 (hv _ _ hx)
 obtain⟨ey,_⟩:=Xct (hv _ _ hy)
 have hsp:0<ii.size:=by rw[i2];exact D.size_pos _
 have hbb:n*ii.bytes<=281474976710656:=by rw[i3];have:=W2c hr (W1i hb);omega
 have hrun:=Yhu (P:=c.P) W.w T T' o.type E ii v0 .i64 kn u1 u1' i1 i4 q n h0 hsp (by omega) hbb
 have hge:=grownCap_ge W.w n 0 E
 have hlt:grownCap W.w n 0 E<9223372036854775808:=by
  have:=W1x (W.w.tape W.w.drawn (.appendCap n 0 E)) (show 0<2^63-n by omega)
  simp only[grownCap,Question.cut] at *
  omega
 have hzs:v0.cells.size=sz:=by rw[hsz,<-D.zc_len,<-i5];simp
 obtain⟨W',θ',e1,e2,e3⟩:=Xli (W:=W.tick) (θ:=θ) (g:=(sem p.E p.H).2) (dd:=o.dst.getD 0) (E:=E) (sz:=sz) (xs:=[]) (cs:=[]) (c:=grownCap W.w n 0 E) (zs:=(Builtin.zeroCells v0.cells n++Builtin.zeroCells v0.cells (grownCap W.w n 0 E-n)).toList) (Stp.tick hO).obs hN hB hd (λi x h=>by simp at h) (by simp) (by simp) hlt (by
  rw[W4b,Array.length_toList,Array.size_append,size_zeroCells,size_zeroCells,hzs,<-W1h]
  congr 1
  omega)
 obtain⟨cs,⟨b,pp,k1,k2,k3,k4,k5⟩,k6⟩:=e3
 subst k4
 have k6:Value.slice (some ⟨W.tick.size,0,none⟩) 0 (grownCap W.w n 0 E)=.slice pp 0 ((θ' (o.dst.getD 0)).2-0):=k6
 injection k6 with k6 k7 k8
 have k5:=k5 (.inl rfl)
 rw[<-k6] at k5
 injection k5 with k5
 injection k5 with k5
 have k5:W.size=b:=k5
 subst k5
 refine⟨W',θ',.value (.slice (some ⟨W.size,0,none⟩) n (grownCap W.w n 0 E)),?_,(Stp.tick hO).trans e2,.inr ⟨_,rfl,Xzk (xs:=[]) k1 (by omega) (by omega) k3⟩,λi hi=>⟨_,by subst hi;exact Xai _ _ _⟩⟩
 have h1:execOp ρ o=(Builtin.append_ #[T,T'] o.type #[ρ x,ρ y] >>= λv=>pure (.value v)):=by
  simp[execOp,hop,resolve,invoke,builtin]
 rw[h1,Sem.run_bind,ex,ey,hrun,e1]
 have fin:∀ {a b:Array Value},a=b->(Result.ok (Next.value (.slice (some ⟨W.size,0,none⟩) n (grownCap W.w n 0 E))) (W.w.drew.alloc (.cells a E)):Result Next)=.ok (.value (.slice (some ⟨W.size,0,none⟩) n (grownCap W.w n 0 E))) (W.tick.w.alloc (.cells b E)):=by
  rintro a b rfl;rfl
 exact fin (by simp)
noncomputable def Yoi(tb:Nat->Option TI)(n:Nat)(s:St): Option Pl:=match nxA tb n s with
 | some (p,o,[.nil])=>match o.op with
  | .call ⟨.builtin .cap,_,⟨[T]⟩⟩=>match tb T with
   | some ⟨.sl _ _,_,_,_⟩=>some p
   | _=>none
  | _=>none
 | _=>none
theorem Kp(h:Yoi c.tb c.n s=some p)(k:p.nx c (.d (.int .i64 0))): StP c s:=by
 unfold Yoi at h
 split at h<;>try cases h
 rename_i p' o hA
 split at h<;>try cases h
 rename_i asx T ho
 split at h<;>cases h
 rename_i ht
 refine Xbw (us:=[]) hA ?_ (Pl.nx_nil k)
 rw[ho]
 simp[F,Fp,ht]
theorem Sn{h':Int}(h:nxS c.tb c.n s=some (p,.nil,none,some h'))(k:p.nx c .nil)(hh:h'=0:=by exact rfl): StP c s:=Xmy h (by subst hh;rfl) k
noncomputable def Yoj(tb:Nat->Option TI)(n:Nat)(s:St): Option (Pl×FuncId×List AV):=match nxO tb n s with
 | some (p,o)=>match o.op with
  | .call ⟨.value x,asx,tys⟩=>match callee (look p.E) x,getEs (look p.E) asx.toList with
   | some (f,ex),some vs=>some (p,f,vs++ex)
   | _,_=>none
  | _=>none
 | none=>none
theorem CoN{f:FuncId}{asx:List AV}{Q:AV->Ob->Prop}(h:Yoj c.tb c.n s=some (p,f,asx))(hc:CO c.P f asx Q)(k:∀v ob,Q v ob->p.nx' c (v.rnf (rnL [(1000000,p.d.getD 0)])) [(p.d.getD 0,ob.rnf (rnL [(1000000,p.d.getD 0)]))])
 (hk:(Xta asx [] [] (p.d.getD 0) p.H && !p.dr)=true:=by exact rfl):StP c s:=by
 rw[W0f,W1t] at hk
 obtain⟨hk,hdr⟩:=hk
 have hk':=hk
 simp only[Xta,W0f,W1t] at hk'
 obtain⟨⟨⟨⟨⟨k1,k2⟩,k3⟩,k4⟩,k5⟩,k6⟩:=hk'
 have hid:∀ {a:AV},a.rnf (rnL [])=a:=by
  intro a
  induction a with
  | st a ih=>simp only[AV.rnf,ih]
  | tup a ih=>simp only[AV.rnf,ih]
  | fm f a ih=>simp only[AV.rnf,ih]
  | pr a c iha ihc=>simp only[AV.rnf,iha,ihc]
  | _=>rfl
 have hmap:asx.map (AV.rnf (rnL []))=asx:=by rw[show AV.rnf (rnL [])=id from funext λa=>hid,List.map_id]
 unfold Yoj at h
 split at h<;>try cases h
 rename_i p' o ho
 obtain⟨hw,hd⟩:=Xu6 ho
 split at h<;>try cases h
 rename_i x as' tys he
 split at h<;>cases h
 rename_i ex vs hvs hf
 have kk:∀v ob,Q v ob->WL c.P c.tb p.dr p.L (J c p.K) p.l (S.put ((sem p.E p.H).1,Xbi (sem p.E p.H).2 [(p.d.getD 0,ob.rnf (rnL [(1000000,p.d.getD 0)]))]) o.dst (v.rnf (rnL [(1000000,p.d.getD 0)]))):=λv ob hv=>by
  have:=Pl.nx'_eq.1 (k v ob hv)
  have this:WL c.P c.tb p.dr p.L (J c p.K) p.l (sem (Xs9 p.E p.d _) (_++p.H)):=this
  rw[<-hd,Xfl]
  exact this
 refine Xm0 ho (.inl ⟨hw,?_⟩)
 unfold Wb
 rw[he]
 refine⟨_,_,_,hf,hvs,?_⟩
 rw[hdr] at kk |-
 obtain⟨a1,a2⟩:=Xjj hc hk (Xbm k2) (g:=look p.H) (λo x hx=>by simp[look] at hx)
 rw[hmap] at a2
 refine⟨_,_,.inr rfl,⟨a1,a2⟩,?_⟩
 rintro v g' ⟨v0,H',d1,⟨ob,rfl,d2⟩,rfl,rfl⟩
 have:=kk v0 ob d2
 simpa [rfH,rnL] using this
end
def AV.nl(o sz:Nat): AV->AV
 | .nil=>.gr o sz []
 | .st a=>.st (a.nl o sz)
 | .pr a c=>.pr (a.nl o sz) (c.nl o sz)
 | a=>a
theorem Ypi{W:GW}{θ:Loc}{o sz:Nat}(h0:θ o=(none,0)): ∀ {a:AV} {cs:List Value},AV.C W θ a cs->AV.C W θ (a.nl o sz) cs:=by
 intro a
 induction a with
 | st a ih=>intro cs h;exact ih h
 | pr a c iha ihc=>intro cs ⟨u,v,h,h1,h2⟩;exact⟨u,v,h,iha h1,ihc h2⟩
 | nil=>intro cs ⟨p,h⟩;exact⟨p,by rw[h,h0];rfl,.inl (by rw[h0]),by simp,by rw[h0];decide,.inl rfl⟩
 | _=>intro cs h;exact h
theorem Yil{o sz i:Nat}: ∀ {a:AV},(a.nl o sz).ids i->i=o\/a.ids i:=by
 intro a
 induction a with
 | st a ih=>exact ih
 | pr a c iha ihc=>exact λh=>h.elim (λh=>(iha h).imp id .inl) λh=>(ihc h).imp id .inr
 | nil=>exact .inl
 | _=>exact .inr
section
variable{c:Cx}{s:St}{p:Pl}
theorem nvS{K:List Kt}{E:Env}{H:Hpl}(q o' sz:Nat){a:AV}(hv:look H q=some (.var a))(hb:(Nat.blt o' 1000000 && !Xcf H o')=true)(k:J c K (sem E ((q,.var (a.nl o' sz))::(o',.tok 0 sz)::H))): J c K (sem E H):=by
 simp only[W0f,W1t] at hb
 have hb1:=Xq8 hb.1
 have hn:look H o'=none:=Xbm hb.2
 have hq:q≠o':=λe=>by rw[e,hn] at hv;cases hv
 rintro x w ⟨s0,W,θ,hw,hs,hθ,rfl⟩
 have st:=Stp.new0 (d:=o') hs.obs hb1 hn (x:=.tok 0 sz) ⟨by simp,by simp,.inl (by simp)⟩ (λi h=>h)
 have h1:=hs.step0 st
 refine k x w ⟨_,W,_,hw,?_,λi hi=>(st.hi i hi).trans (hθ i hi),rfl⟩
 rw[show sem E ((q,Ob.var (a.nl o' sz))::(o',Ob.tok 0 sz)::H)=(look E,upd (upd (look H) o' (.tok 0 sz)) q (.var (a.nl o' sz))) by rw[Xa7,Xa7]]
 have hq1:upd (look H) o' (.tok 0 sz) q=some (.var a):=by rw[Xak hq];exact hv
 have hdom:∀ {i:Nat} {y:Ob},upd (look H) o' (.tok 0 sz) i=some y->∃z,upd (upd (look H) o' (.tok 0 sz)) q (.var (a.nl o' sz)) i=some z:=λ{i y} hy=>by
  by_cases e:i=q
  . subst e;exact⟨_,Xai _ _ _⟩
  . exact⟨y,by rw[Xak e];exact hy⟩
 refine⟨h1.fm,h1.rel,⟨λi y hy=>?_,λi y b hy hl hb=>?_,λi j y y' b hy hy' hl hl' b1 b2=>?_,λi y j hy hj=>?_⟩,λt v i ht hi=>?_⟩
 . rcases Xaf hy with ⟨e1,e2⟩ | ⟨e1,e2⟩
   . subst e1;subst e2
     obtain⟨b,cs,T,r1,r2,r3,r4⟩:=h1.obs.r _ _ hq1
     exact⟨b,cs,T,r1,r2,Ypi (by simp) r3,r4⟩
   . exact h1.obs.r _ _ e2
 . rcases Xaf hy with ⟨e1,e2⟩ | ⟨e1,e2⟩
   . subst e1;exact h1.obs.new _ _ b hq1 rfl hb
   . exact h1.obs.new _ _ b e2 hl hb
 . rcases Xaf hy with ⟨e1,e2⟩ | ⟨e1,e2⟩<;>rcases Xaf hy' with ⟨f1,f2⟩ | ⟨f1,f2⟩
   . rw[e1,f1]
   . subst e1;exact h1.obs.dis _ _ _ _ b hq1 f2 rfl hl' b1 b2
   . subst f1;exact h1.obs.dis _ _ _ _ b e2 hq1 hl rfl b1 b2
   . exact h1.obs.dis _ _ _ _ b e2 f2 hl hl' b1 b2
 . rcases Xaf hy with ⟨e1,e2⟩ | ⟨e1,e2⟩
   . subst e2
     rcases Yil (a:=a) hj with h | h
     . exact hdom (y:=.tok 0 sz) (by rw[h];exact Xai _ _ _)
     . obtain⟨z,hz⟩:=h1.obs.ids _ _ j hq1 h
       exact hdom hz
   . obtain⟨z,hz⟩:=h1.obs.ids _ _ j e2 hj
     exact hdom hz
 . obtain⟨z,hz⟩:=h1.ids t v i ht hi
   exact hdom hz
theorem Nv{K:List Kt}{E:Env}{H:Hpl}(q o' sz:Nat){a:AV}(h:nxJ c.tb c.n s=some (K,E,H))(k:StP c (.j [] K E ((q,.var (a.nl o' sz))::(o',.tok 0 sz)::H)))(hv:look H q=some (.var a):=by exact rfl)(hb:(Nat.blt o' 1000000 && !Xcf H o')=true:=by exact rfl): StP c s:=by
 unfold nxJ at h
 split at h<;>cases h
 rename_i hr
 exact go 1000 hr (nvS q o' sz hv hb k)
end
end Go.Vm
namespace Go.Proofs.YtegepebhkhhhoaaGreatDoor
open Go Go.Vm Go.Num Go.Tow
theorem Xji{l:List Rat}(h0:0<l.length)(hl:l.length<=1048576): CA0 245 [.d (dqs l)] 4 (l.map dq):=by
 refine EnW Tryz.func245 λ_ _ _ _=>?_
 refine Ub rfl (λh=>?_) ?_
 . exact absurd h (by intro e; have:l.length = 0 := by simpa using congrArg List.length e
                      omega)
 refine ApL (l.map dq) rfl rfl (by simpa using h0) (by simpa using W0k hl (by decide)) ?_
 exact Rw [(7,1000000)] [(1000000,.arr 4 (l.map dq))] rfl (.one (.rf rfl) rfl rfl) ⟨_,rfl,rfl,rfl⟩
theorem Xkk{l:List Rat}(h0:0<l.length)(hl:l.length<=1048576): C0 245 [.d (dqs l)] (·=.d (dqs l)):=(Xji h0 hl).data
theorem Xwi{n:Nat}(h0:0<n)(hn:n<=1048576): CA0 381 [.nil,.d (.int .i64 n)] 4 []:=by
 refine EnW Tryz.func381 λ_ _ _ _=>?_
 refine No rfl (by omega) ?_
 refine Kp rfl ?_
 refine Ar 0 rfl ?_
 refine Ar n rfl ?_
 refine Yes rfl (by omega) ?_
 refine Kp rfl ?_
 refine Sn rfl ?_
 refine ApM n rfl h0 (by omega) ?_
 refine Sw 0 0 rfl (by omega) (by omega) ?_
 exact Rw [(22,1000000)] [(1000000,.arr 4 [])] rfl (.one (.rf rfl) rfl rfl) ⟨_,rfl,rfl,rfl⟩
theorem Yov{c c':Bool}(h:c=c'){g:Hp}{K:Hpl}: FitT g K (.b c) (.b c'):=by
 subst h;exact .one (.rf rfl) (λ_ _ e=>by cases e) (λ_ _ e=>by cases e)
theorem Xrv{p q:Prop}(h:p↔q): dc p=dc q:=by rw[show p=q from propext h]
namespace P8
theorem Yaz{n:Int}(hn:n<0)(hl:(dig n.natAbs).length<=274877906944): C0 366 [.d (dz n)] (·=.tup (.pr (.d (dS false [])) (.d (.int .i64 7)))):=by
 refine En Tryz.func366 λ_ _ _=>?_
 refine Ce rfl (Sign_ok (z:=n) (by omega)) ?_
 refine Yes rfl (by rcases Xa1 n 0 with ⟨g1,g2⟩ | ⟨g1,g2⟩ | ⟨g1,g2⟩<;>omega) ?_
 exact RTt rfl (.cons (.sd (.pd (.bd rfl) (.nil rfl))) Xa2)
theorem Xlc{n:Int}(hl:(dig n.natAbs).length<=274877906944): C0 380 [.d (dz n)] λv=>∃b l,v=.tup (.pr (.d (dS b l)) (.b (dc (0<=n/\sqN n.natAbs))))/\(0<=n->dS b l=dz (rt n.natAbs:Int)):=by
 have hs:=@Sqrt_ok n.natAbs hl
 refine En Tryz.func380 λ_ _ _=>?_
 by_cases hn:0<=n
 . have e:((n.natAbs:Nat):Int)=n:=by omega
   rw[e] at hs
   have hr:=(Xdh n.natAbs).1
   have h3:rt n.natAbs<=rt n.natAbs*rt n.natAbs:=Nat.le_mul_self _
   have l1:=Xas (show rt n.natAbs<=n.natAbs by omega)
   have l2:=Xas hr
   refine Ce rfl hs ?_
   refine Dw rfl ?_
   refine Yes rfl rfl ?_
   refine Ce rfl (Mul_ok (by rw[W1g];omega) (by rw[W1g];omega)) ?_
   refine Ce rfl (Cmp_ok (by rw[<-W2o,W1g];omega) (by omega)) ?_
   refine Rt rfl (.tup (.cons (.rf rfl) (Yov (Xrv ?_)))) ⟨_,_,rfl,λ_=>rfl⟩
   unfold sqN
   rcases Xa1 ((rt n.natAbs:Int)*(rt n.natAbs:Int)) n with ⟨g1,g2⟩ | ⟨g1,g2⟩ | ⟨g1,g2⟩<;>rw[<-W2o] at g1<;>rw[<-W2o] at g2 |-<;>omega
 . refine Ce rfl (Yaz (by omega) hl) ?_
   refine Dw rfl ?_
   refine No rfl (by decide) ?_
   exact Rt rfl (.tup (.cons (.rf rfl) (Xwq λh=>hn h.1))) ⟨_,_,rfl,λh=>absurd h hn⟩
theorem Xx5{x:Rat}{p:Nat}(hx:Qs p x)(hp:p<=4398046511104): C0 372 [.d (dq x)] λv=>∃b l b' l',v=.tup (.pr (.d (R2.dR b l b' l')) (.b (dc (∃y:Rat,y*y=x))))/\((∃y:Rat,y*y=x)->∃y:Rat,y*y=x/\R2.dR b l b' l'=dq y):=by
 have h1:=hx.n.len2 hp
 have h2:=hx.d.len2 hp
 have hi:=Xt8 (q:=x)
 refine En Tryz.func372 λ_ _ _=>?_
 refine Ca rfl (Xlc (n:=x.num) (by omega)) λv hv=>?_
 obtain⟨b,l,rfl,hb⟩:=hv
 refine Ca rfl (Xlc (n:=(x.den:Int)) (by omega)) λv hv=>?_
 obtain⟨b',l',rfl,hb'⟩:=hv
 have z:∀ {c g K},(c=false/\¬ ∃y:Rat,y*y=x)->FitT g K (.pr (.st (.pr (.st (.pr (.b false) .nil)) (.st (.pr (.b false) .nil)))) (.b c)) (.pr (.d (R2.dR false [] false [])) (.b (dc (∃y:Rat,y*y=x)))):=λ⟨h0,h⟩=>by
  subst h0;exact .cons (.sd (.pd (.sd (.pd (.bd rfl) (.nil rfl))) (.sd (.pd (.bd rfl) (.nil rfl))))) (Xwq h)
 refine By rfl (λh=>?_) λh=>?_
 . have h:¬(0<=x.num/\sqN x.num.natAbs):=by simpa only [Xaq,Xaj] using h
   have no:¬ ∃y:Rat,y*y=x:=λe=>h ⟨(hi.1 e).1,(hi.1 e).2.1⟩
   exact Rt rfl (.tup (z ⟨rfl,no⟩)) ⟨false,[],false,[],rfl,λe=>absurd e no⟩
 have h:0<=x.num/\sqN x.num.natAbs:=by simpa [Xaq,Xaj] using h
 refine By rfl (λk=>?_) λk=>?_
 . have k:¬(0<=(x.den:Int)/\sqN (x.den:Int).natAbs):=by simpa only [Xaq,Xaj] using k
   have no:¬ ∃y:Rat,y*y=x:=λe=>k ⟨by omega,by rw[W1g];exact(hi.1 e).2.2⟩
   exact Rt rfl (.tup (z ⟨rfl,no⟩)) ⟨false,[],false,[],rfl,λe=>absurd e no⟩
 have k:0<=(x.den:Int)/\sqN (x.den:Int).natAbs:=by simpa [Xaq,Xaj] using k
 rw[W1g] at k
 obtain⟨y,y1,y2,y3⟩:=Xk7 (q:=x) h.1 h.2 k.2
 refine Rt rfl (.tup (.cons (.rf rfl) (Xyc ⟨y,y3⟩))) ⟨_,_,_,_,rfl,λ_=>⟨y,y3,?_⟩⟩
 have e1:=hb h.1
 have e2:=hb' k.1
 rw[W1g] at e2
 show D.st (.pr (dS b l) (dS b' l'))=D.st (.pr (dz _) (dz _))
 rw[e1,e2,y1,y2]
theorem Xo7{k r p:Nat}{t:Tw k}{a:Tow.El k}(hT:TS r k t)(ha:Sz p (toL k a))(hk:k<=16)(hp:p+3+cB r k<=4398046511104)(hr:r<=4398046511104): C0 375 [.d (dt t),.d (de a)] (·=.d (de (mul k t a (rat k (1/2))))):=by
 refine En Tryz.func375 λ_ _ _=>?_
 refine Ce rfl (Xcm (a:=1) (b:=2) (by decide) (by decide)) ?_
 rw[Xwh]
 refine Ce rfl (Xc2 (x:=1/2) (p:=3) hT hk hr ⟨show (1/2:Rat).num.natAbs<2^3 by decide +kernel,show ((1/2:Rat).den:Int).natAbs<2^3 by decide +kernel⟩ (by decide)) ?_
 refine Ce rfl (Xd5 hT ha Sz.half hk (by omega) hr) ?_
 exact R0
theorem Xrx{a b:List D}(h0:0<a.length+b.length)(hl:a.length+b.length<=1048576): C0 373 [.d (.sl 1 [.sl 4 a,.sl 4 b])] (·=.d (.sl 4 (a++b))):=by
 refine En Tryz.func373 λ_ _ _=>?_
 refine Lo (λ(x:Nat×Nat)=>[(0,.d (.sl 1 [.sl 4 a,.sl 4 b])),(2,.nil),(3,.d (.int .i64 x.2)),(9,.d (.sl 1 [.sl 4 a,.sl 4 b])),(10,.d (.int .i64 2)),(11,.d (.int .i64 x.1))]) (λ_=>[]) (λx=>x=(0,0)\/x=(1,a.length)\/x=(2,a.length+b.length)) (λx=>2-x.1) (0,0) [] rfl (.inl rfl) (λx hI=>?_)
 rcases hI with rfl | rfl | rfl
 . refine Yes rfl (show ((0:Nat):Int)<2 by decide) ?_
   refine Ix 0 rfl (u:=.sl 4 a) rfl ?_
   refine Ar a.length rfl ?_ (wr (by omega) (by simp only[inK];omega))
   refine No rfl (by omega) ?_
   refine Ar (1:Nat) rfl ?_
   exact Bk (1,a.length) [] rfl (.inr (.inl rfl)) (show 1<2 by decide)
 . refine Yes rfl (show ((1:Nat):Int)<2 by decide) ?_
   refine Ix 1 rfl (u:=.sl 4 b) rfl ?_
   refine Ar (a.length+b.length:Nat) rfl ?_ (wr (by omega) (by simp only[inK];omega))
   refine No rfl (by omega) ?_
   refine Ar (2:Nat) rfl ?_
   exact Bk (2,a.length+b.length) [] rfl (.inr (.inr rfl)) (show 0<1 by decide)
 refine No rfl (show ¬((2:Nat):Int)<2 by decide) ?_
 refine CoN rfl (Xwi (n:=a.length+b.length) (by omega) hl) (λv ob hv=>?_)
 obtain⟨rfl,rfl⟩:=hv
 refine Lo (λ(x:Nat×List D)=>[(0,.d (.sl 1 [.sl 4 a,.sl 4 b])),(2,.nil),(6,.own 24 4 0 x.2.length),(25,.d (.sl 1 [.sl 4 a,.sl 4 b])),(26,.d (.int .i64 2)),(27,.d (.int .i64 x.1))]) (λx=>[(24,.arr 4 x.2)]) (λx=>x=(0,[])\/x=(1,a)\/x=(2,a++b)) (λx=>2-x.1) (0,[]) [] rfl (.inl rfl) (λx hI=>?_)
 rcases hI with rfl | rfl | rfl
 . refine Yes rfl (show ((0:Nat):Int)<2 by decide) ?_
   refine Ix 0 rfl (u:=.sl 4 a) rfl ?_
   refine ApO a rfl rfl rfl rfl (by omega) ?_
   refine Ar (1:Nat) rfl ?_
   exact Bk (1,a) [(24,90),(33,24)] rfl (.inr (.inl rfl)) (show 1<2 by decide)
 . refine Yes rfl (show ((1:Nat):Int)<2 by decide) ?_
   refine Ix 1 rfl (u:=.sl 4 b) rfl ?_
   refine ApO (a++b) rfl rfl rfl (by simp) (by simp;omega) ?_
   refine Ar (2:Nat) rfl ?_
   exact Bk (2,a++b) [(24,90),(33,24)] rfl (.inr (.inr rfl)) (show 0<1 by decide)
 refine No rfl (show ¬((2:Nat):Int)<2 by decide) ?_
 exact R1 rfl (.own rfl (by simp) (by rw[W1d];exact W0a (by simp)))
theorem Xnl{k:Nat}{x y:Tow.El k}(hk:k<=16): C0 373 [.d (.sl 1 [de x,de y])] (·=.d (de (pr x y))):=by
 have:=Xrx (a:=(toL k x).map dq) (b:=(toL k y).map dq) (by simp[Xab];have:=W0p k;omega) (by simp[Xab];have:=p16 hk;omega)
 rwa[<-W2a] at this
end P8
open Go Go.Num Go.Tow
theorem Yco{r:Nat}: ∀ {k p:Nat},0<iS r k p
 | 0,p=>Nat.succ_pos p
 | k+1,p=>by have:=Yco (r:=r) (k:=k) (p:=nS r k p);show 0<p+iS r k (nS r k p)+cB r k;omega
theorem Ym2{r:Nat}: ∀ {k p:Nat},p<=iS r k p
 | 0,p=>Nat.le_succ p
 | k+1,p=>by show p<=p+iS r k (nS r k p)+cB r k;omega
theorem Yjg{r:Nat}: ∀ {k p:Nat},p<=iB r k p
 | 0,p=>Nat.le_succ p
 | k+1,p=>by show p<=2*(p+iB r k (nB r k p)+cB r k);omega
end Go.Proofs.YtegepebhkhhhoaaGreatDoor
namespace Go.Proofs.YtegepebhkhhhoaaGreatDoor.P8
open Go Go.Vm Go.Num Go.Tow Go.Proofs.YtegepebhkhhhoaaGreatDoor
def SqP(k:Nat)(t:Tw k)(a:Tow.El k)(v:AV): Prop:=∃w:List D,w.length<=2^k/\v=.tup (.pr (.d (.sl 4 w)) (.b (dc (Xdc k t a))))/\(Xdc k t a->∃x,mul k t x x=a/\D.sl 4 w=de x)
theorem Xjx{k r:Nat}{t:Tw k}(hT:TS r k t)(hk:k<=16)(hr:r<=4398046511104): C0 290 [.d (dt t),.d (dq ((0:Int):Rat))] (·=.d (de (zero k))):=by
 have:=Xc2 (x:=((0:Int):Rat)) (p:=1) hT hk hr (Qs.int Zs.zero (W0b 1)) (by decide)
 rwa[show ((0:Int):Rat)=0 from rfl,Xd8] at this
theorem Xel{k:Nat}: ∀ {r p:Nat} {t:Tw k} {a:Tow.El k},TS r k t->Sz p (toL k a)->red k t->k<=16->qB r k p<=4398046511104->r<=4398046511104->C0 362 [.d (dt t),.d (de a)] (SqP k t a):=by
 induction k with
 | zero =>
  intro r p t a hT ha hR hk hq hr
  have hq:p<=4398046511104:=hq
  have key:∀y:Rat,Qs p y->C0 362 [.d (dts []),.d (dqs [y])] λv=>∃w:List D,w.length<=2^0/\v=.tup (.pr (.d (.sl 4 w)) (.b (dc (∃x:Rat,x*x=y))))/\((∃x:Rat,x*x=y)->∃x:Rat,x*x=y/\D.sl 4 w=dqs [x]):=λy hy=>by
   refine En Tryz.func362 λ_ _ _=>?_
   refine Yes rfl rfl ?_
   refine Ix 0 rfl (u:=dq y) rfl ?_
   refine Ca rfl (Xx5 hy (by omega)) λv hv=>?_
   obtain⟨b,l,b',l',rfl,hw⟩:=hv
   exact Rt rfl (.tup (.cons (.lit rfl) (.one (.rf rfl) (λ_ _ e=>by cases e) (λ_ _ e=>by cases e)))) ⟨_,W0b _,rfl,λh=>let ⟨y,h1,h2⟩:=hw h;⟨y,h1,by rw[show dqs [y]=D.sl 4 [dq y] from rfl,<-h2];rfl⟩⟩
  exact key a (ha.qs (W0i.2 rfl))
 | succ k ih =>
  intro r p t a hT ha hR hk hq hr
  have hx:Sz p (toL k a.1):=Sz.left ha
  have hy:Sz p (toL k a.2):=Sz.right ha
  have hlen:=Xab k
  have hk0:=W0p k
  have hpk:=p16 (show k<=16 by omega)
  have hz:=ha.normS hT
  have L:=Xay k t.1
  have hqq:p+vB r (k+1) p+vB r (k+1) r+nB r k p+qB r k (sX r k p)+iB r k (sX r k p+gC r k)+iS r k (sX r k p+gC r k)+iB r k r+2*cB r k+4<=4398046511104:=hq
  have hX:sX r k p=p+nS r k p+gC r k+cB r k+iS r k r+4:=rfl
  have hN:nB r k p=4*p+3*cB r k+r+1:=rfl
  have hI:0<iS r k r:=Yco
  have q6:=Ym2 (r:=r) (k:=k) (p:=sX r k p+gC r k)
  have q7:=Yjg (r:=r) (k:=k) (p:=sX r k p+gC r k)
  have q1:qB r k p<=qB r k (sX r k p):=Xdj (by omega)
  have q2:qB r k (nS r k p)<=qB r k (sX r k p):=Xdj (by omega)
  have q3:qB r k (p+iS r k r+cB r k)<=qB r k (sX r k p):=Xdj (by omega)
  have q4:sX r k p<=qB r k (sX r k p):=Yh6
  have hr0:t.2≠zero k:=λh0=>hR.2.2 ⟨zero k,by rw[h0,L.mz]⟩
  obtain⟨i,hi⟩:=(Xc3 hR.1).2 t.2 hr0
  have him:=Xch hi
  have hiz:=Sz.invS hT.1 hT.2 hi
  have no0:∀ {g K},¬Xdc (k+1) t a->FitT g K (.pr .nil (.b false)) (.pr (.d (.sl 4 [])) (.b (dc (Xdc (k+1) t a)))):=λh=>.cons (.nil (sz:=4) rfl) (Xwq h)
  refine En Tryz.func362 λ_ _ _=>?_
  refine No rfl (by show ¬((((toT k t.1++[toL k t.2]).map dqs).length:Nat):Int)=0;rw[twL];omega) ?_
  refine Dw rfl ?_
  refine Ar k rfl ?_ (tw1 t (by omega))
  refine Tk k ((toT k t.1).map dqs) rfl rfl (Xjq t) (twT t) ?_
  refine Ar k rfl ?_ (tw1 t (by omega))
  refine Ix k rfl (twU t) ?_
  refine Dw rfl ?_
  refine Ar (2^k:Nat) rfl ?_ (hvq a (by omega))
  refine Tk (2^k) ((toL k a.1).map dq) rfl rfl (Xci a) (hvT a) ?_
  refine Ar (2^k:Nat) rfl ?_ (hvq a (by omega))
  refine Dp (2^k) ((toL k a.2).map dq) rfl rfl (Xci a) (hvD a) ?_
  refine Ce rfl (Xe3 (l:=toL k a.2) hy.ps (by omega) (by rw[hlen];omega)) ?_
  refine By rfl (λhv=>?_) λhv=>?_
  . have ev:=(Xam k a.2).2 hv
    have ea:a=up k a.1:=by show (a.1,a.2)=(a.1,zero k);rw[ev]
    refine Ca rfl (ih hT.1 hx hR.1 (by omega) (by omega) hr) λv hv=>?_
    obtain⟨w,hwl,rfl,hw⟩:=hv
    refine By rfl (λh1=>?_) λh1=>?_
    . obtain⟨x,hx1,hx2⟩:=hw h1
      injection hx2 with _ hx2
      subst hx2
      have hs:mul (k+1) t (pr x (zero k)) (pr x (zero k))=a:=(Yhm hx1).trans ea.symm
      refine Ce rfl (Xau (z:=0) (by decide)) ?_
      refine Ce rfl (Xjx hT.1 (by omega) hr) ?_
      refine Ce rfl (Xnl (x:=x) (y:=zero k) (by omega)) ?_
      exact Rt rfl (.tup (.cons (.rf rfl) (Xyc ⟨_,hs⟩))) ⟨_,by simp[Xab],rfl,λ_=>⟨_,hs,rfl⟩⟩
    . refine Ce rfl (Xoc hT.1 hT.2 (by omega) (by omega) hr hi) ?_
      refine No rfl (by decide) ?_
      refine Ce rfl (Xd5 hT.1 hx hiz (by omega) (by omega) hr) ?_
      refine Ca rfl (ih hT.1 (hx.mul hT.1 hiz) hR.1 (by omega) (by omega) hr) λv hv=>?_
      obtain⟨w,hwl,rfl,hw⟩:=hv
      refine Ce rfl (Xau (z:=0) (by decide)) ?_
      refine Ce rfl (Xjx hT.1 (by omega) hr) ?_
      refine Ce rfl (Xrx (a:=(toL k (zero k)).map dq) (b:=w) (by simp[hlen];omega) (by simp[hlen];omega)) ?_
      have hiff:Xdc k t.1 (mul k t.1 a.1 i)↔Xdc (k+1) t a:=⟨λ⟨x,hx1⟩=>⟨_,(Xt6 him hx1).trans ea.symm⟩,λe=>W0s λh2=>Xmm hR.1 him h1 h2 (ea ▸ e)⟩
      refine Rt rfl (.tup (.cons (.rf rfl) (Yov (Xrv hiff)))) ⟨_,by simp[hlen];omega,rfl,λe=>?_⟩
      obtain⟨x,hx1,hx2⟩:=hw (hiff.2 e)
      injection hx2 with _ hx2
      subst hx2
      exact⟨(zero k,x),(Xt6 him hx1).trans ea.symm,by rw[<-W2a];rfl⟩
  have ev:a.2≠zero k:=λe=>hv ((Xam k a.2).1 e)
  refine Ce rfl (Xyt hT ha hk (by omega) hr) ?_
  refine Ca rfl (ih hT.1 hz hR.1 (by omega) (by omega) hr) λv hv=>?_
  obtain⟨w,hwl,rfl,hw⟩:=hv
  refine By rfl (λh1=>?_) λh1=>?_
  . have no:¬Xdc (k+1) t a:=λe=>by
     exact h1 (Xt5 e)
    exact Rt rfl (.tup (.cons (.nil (sz:=4) rfl) (Xwq no))) ⟨[],W0w _,rfl,λe=>absurd e no⟩
  obtain⟨m,hm,hm2⟩:=hw (W3a.1 h1)
  injection hm2 with _ hm2
  subst hm2
  have hm:mul k t.1 m m=Tow.norm k t a:=hm
  have hmz:=hz.rootS hT.1 hR.1 hm
  refine Ce rfl (Xin hT.1 hx hmz (by omega) (by omega) hr) ?_
  refine Ce rfl (Xk3 hT.1 hx hmz (by omega) (by omega) hr) ?_
  refine Lo (λ(x:Nat)=>[(4,.nil),(5,.b false),(8,.d (dt t.1)),(11,.d (de a.2)),(117,.lit 1 [de (Tow.add k a.1 m),de (Tow.add k a.1 (Tow.neg k m))]),(118,.d (.int .i64 2)),(119,.d (.int .i64 x))]) (λ_=>[]) (λx=>x=0\/(x=1/\¬Xdc k t.1 (mul k t.1 (rat k (1/2)) (Tow.add k a.1 m)))\/(x=2/\¬Xdc k t.1 (mul k t.1 (rat k (1/2)) (Tow.add k a.1 m))/\¬Xdc k t.1 (mul k t.1 (rat k (1/2)) (Tow.add k a.1 (Tow.neg k m))))) (λx=>2-x) 0 [] rfl (.inl rfl) (λx hI=>?_)
  have step:∀(mm:Tow.El k),mul k t.1 mm mm=Tow.norm k t a->Sz (nS r k p+gC r k) (toL k mm)->Sz (3+(p+(nS r k p+gC r k)+1)+cB r k) (toL k (mul k t.1 (Tow.add k a.1 mm) (rat k (1/2))))/\mul k t.1 (Tow.add k a.1 mm) (rat k (1/2))=mul k t.1 (rat k (1/2)) (Tow.add k a.1 mm):=λmm _ hs=>⟨by
   rw[L.mc];exact Sz.half.mul hT.1 (by rw[Xax];exact hx.add hs),L.mc _ _⟩
  have q5:qB r k (3+(p+(nS r k p+gC r k)+1)+cB r k)<=qB r k (sX r k p):=Xdj (by omega)
  refine By rfl (λh2=>?_) λh2=>?_
  . obtain⟨mm,e1,e2,e3,next⟩:∃mm,[de (Tow.add k a.1 m),de (Tow.add k a.1 (Tow.neg k m))][x]?=some (de (Tow.add k a.1 mm))/\mul k t.1 mm mm=Tow.norm k t a/\Sz (nS r k p+gC r k) (toL k mm)/\(¬Xdc k t.1 (mul k t.1 (rat k (1/2)) (Tow.add k a.1 mm))->(x+1=0\/(x+1=1/\¬Xdc k t.1 (mul k t.1 (rat k (1/2)) (Tow.add k a.1 m)))\/(x+1=2/\¬Xdc k t.1 (mul k t.1 (rat k (1/2)) (Tow.add k a.1 m))/\¬Xdc k t.1 (mul k t.1 (rat k (1/2)) (Tow.add k a.1 (Tow.neg k m)))))):=by
     rcases hI with rfl | ⟨rfl,g1⟩ | ⟨rfl,g1,g2⟩
     . exact⟨m,rfl,hm,hmz,λh=>.inr (.inl ⟨rfl,h⟩)⟩
     . exact⟨Tow.neg k m,rfl,by rw[L.mn,L.nm,L.nn,hm],Xhp hmz,λh=>.inr (.inr ⟨rfl,g1,h⟩)⟩
     . omega
    refine Ix x rfl e1 ?_
    obtain⟨s1,s2⟩:=step mm e2 e3
    refine Ce rfl (Xo7 hT.1 (a:=Tow.add k a.1 mm) (p:=p+(nS r k p+gC r k)+1) (by rw[Xax];exact hx.add e3) (by omega) (by omega) hr) ?_
    refine Ca rfl (ih hT.1 s1 hR.1 (by omega) (by omega) hr) λv hv=>?_
    obtain⟨w,hwl,rfl,hw⟩:=hv
    refine By rfl (λh3=>?_) λh3=>?_
    . have h3:¬Xdc k t.1 (mul k t.1 (Tow.add k a.1 mm) (rat k (1/2))):=by simpa only [Xaq,Xaj] using h3
      rw[s2] at h3
      refine Ar (x+1:Nat) rfl ?_
      exact Bk (x+1) [] rfl (next h3) (by omega)
    . have h3:Xdc k t.1 (mul k t.1 (Tow.add k a.1 mm) (rat k (1/2))):=by simpa [Xaq,Xaj] using h3
      obtain⟨w,hw1,hw2⟩:=hw h3
      injection hw2 with _ hw2
      subst hw2
      rw[s2] at hw1
      have hw0:=Yhl hR ev e2 hw1
      have hwz:Sz (3+(p+(nS r k p+gC r k)+1)+cB r k+gC r k) (toL k w):=(s2 ▸ s1).rootS hT.1 hR.1 hw1
      have hw2:Tow.add k w w≠zero k:=λe=>hw0 (by
       have e3:mul k t.1 (rat k (1/2)) (Tow.add k w w)=w:=by rw[L.md,<-L.dm,Xgn,L.om]
       rw[<-e3,e,L.mz])
      obtain⟨j,hj⟩:=(Xc3 hR.1).2 _ hw2
      have hdz:Sz (sX r k p+gC r k) (toL k (Tow.add k w w)):=by rw[Xax];exact hwz.dbl.mono (by omega)
      have hjz:=Sz.invS hT.1 hdz hj
      have hs:=Yhn e2 hw1 (Xch hj)
      refine Ce rfl (Xe3 (l:=toL k w) hwz.ps (by omega) (by rw[hlen];omega)) ?_
      refine No rfl (λe=>hw0 ((Xam k w).2 e)) ?_
      refine Ce rfl (Xin hT.1 hwz hwz (by omega) (by omega) hr) ?_
      refine Ce rfl (Xoc hT.1 hdz (by omega) (by omega) hr hj) ?_
      refine Ce rfl (Xd5 hT.1 hy hjz (by omega) (by omega) hr) ?_
      refine Ce rfl (Xnl (by omega)) ?_
      exact Rt rfl (.tup (.cons (.rf rfl) (Xyc ⟨_,hs⟩))) ⟨_,by simp[Xab],rfl,λ_=>⟨_,hs,rfl⟩⟩
  . have no:¬Xdc (k+1) t a:=λe=>by
     rcases hI with rfl | ⟨rfl,g1⟩ | ⟨rfl,g1,g2⟩
     . omega
     . omega
     . obtain⟨w,_,h6 | h6⟩:=Xp9 hR.1 ev hm e
       . exact g1 ⟨w,h6⟩
       . exact g2 ⟨w,h6⟩
    exact Rt rfl (.tup (.cons (.nil (sz:=4) rfl) (Xwq no))) ⟨[],W0w _,rfl,λe=>absurd e no⟩
theorem Xor{k r p:Nat}{t:Tw k}{a:Tow.El k}(hT:TS r k t)(ha:Sz p (toL k a))(hR:red k t)(hk:k<=16)(hq:qB r k p<=4398046511104)(hv:vB r k (p+gC r k)<=4398046511104)(hr:vB r k r<=4398046511104):
 C0 336 [.d (dt t),.d (de a)] λv=>∃w:D,v=.tup (.pr (.d w) (.b (dc (Xdc k t a))))/\(Xdc k t a->∃x,mul k t x x=a/\0<=sgn k t x/\w=de x):=by
 have L:=Xay k t
 have S:=Xap (Xad hR)
 have:=Xd2 (r:=r) k (p+gC r k)
 have hr2:=Xd2 (r:=r) k r
 refine En Tryz.func336 λ_ _ _=>?_
 refine Ca rfl (Xel hT ha hR hk hq (by omega)) λv hv=>?_
 obtain⟨w,_,rfl,hw⟩:=hv
 refine By rfl (λh=>?_) λh=>?_
 . exact Rt rfl (.tup (.cons (.nil (sz:=4) rfl) (Xwq h))) ⟨_,rfl,λe=>absurd e h⟩
 have h:=W3a.1 h
 obtain⟨x,hx,hx2⟩:=hw h
 injection hx2 with _ hx2
 subst hx2
 have hz:=ha.rootS hT hR hx
 refine Ce rfl (Xmb hT hz (Xad hR) hk hv hr (by omega)) ?_
 refine By rfl (λh1=>?_) λh1=>?_
 . refine Ce rfl (Xt2 hT hz hk (by omega) (by omega)) ?_
   exact Rt rfl (.tup (.cons (.rf rfl) (Xyc h))) ⟨_,rfl,λ_=>⟨Tow.neg k x,by rw[L.mn,L.nm,L.nn,hx],by rw[S.sn];omega,rfl⟩⟩
 . exact Rt rfl (.tup (.cons (.rf rfl) (Xyc h))) ⟨_,rfl,λ_=>⟨x,hx,by omega,rfl⟩⟩
theorem Reduced_ok{k r:Nat}{t:Tw k}(hT:TS r k t)(hR:red k t)(hk:k<=16)(hq:qB r k r<=4398046511104)(hv:vB r k r<=4398046511104): C0 335 [.d (dt t)] (·=.b true):=by
 have:=Xd2 (r:=r) k r
 refine En Tryz.func335 λ_ _ _=>?_
 refine Lo (λi:Nat=>[(0,.d (dt t)),(2,.b false),(7,.d (dt t)),(8,.d (.int .i64 ((toT k t).map dqs).length)),(9,.d (.int .i64 i))]) (λ_=>[]) (λi=>i<=k) (λi=>k-i) 0 [] rfl (by omega) (λi hi=>?_)
 refine By rfl (λh=>?_) λh=>?_<;>simp only[lt',Xaa] at h
 . obtain⟨w,x,h1,h2,h3,h4,h5⟩:=Tw.take (t:=t) (i:=i) (by omega)
   have hx:=h3 r hT
   obtain⟨h6,h7,h8⟩:=h5 hR
   have q1:=Xop (r:=r) (p:=r) (show i<=k by omega)
   have v1:=Xg0 (r:=r) (s:=r) (show i<=k by omega)
   refine Ix i rfl (mp h2) ?_
   refine Tk i ((toT i w).map dqs) rfl rfl (by rw[lt',Xaa];omega) (by rw[<-W2d,h1]) ?_
   refine Ce rfl (Xb6 hx.1 hx.2 (by omega) (by omega) (by omega)) ?_
   refine No rfl (by simp) ?_
   refine Tk i ((toT i w).map dqs) rfl rfl (by rw[lt',Xaa];omega) (by rw[<-W2d,h1]) ?_
   refine Ce rfl (Xmb hx.1 hx.2 (Xad h6) (by omega) (by omega) (by omega) (by omega)) ?_
   refine No rfl (λe=>e (by rcases Xcc w x with h | h | h<;>omega)) ?_
   refine Tk i ((toT i w).map dqs) rfl rfl (by rw[lt',Xaa];omega) (by rw[<-W2d,h1]) ?_
   refine Ca rfl (Xel hx.1 hx.2 h6 (by omega) (by omega) (by omega)) λv hv=>?_
   obtain⟨d,_,rfl,hd⟩:=hv
   refine No rfl h8 ?_
   refine Ar (i+1:Nat) rfl ?_
   exact Bk (i+1) [] rfl (show i+1<=k by omega) (by show k-(i+1)<k-i;omega)
 . exact R0
theorem Xr0{l:List (List Rat)}(hl:l.length<=1048576)(h:∀x∈l,0<x.length/\x.length<=1048576): CA0 337 [.d (dts l)] 1 (l.map dqs):=by
 have hll:(l.map dqs).length=l.length:=by simp
 refine EnW Tryz.func337 λ_ _ _ _=>?_
 refine Mk l.length rfl (by omega) ?_ (by simp[hll])
 refine Lo (λi:Nat=>[(0,.d (dts l)),(2,.nil),(3,.own 8 1 0 l.length),(9,.d (dts l)),(10,.d (.int .i64 (l.map dqs).length)),(11,.d (.int .i64 i))]) (λi=>[(8,.arr 1 (fl (l.map dqs) (.sl 4 []) i))]) (λi=>i<=l.length) (λi=>l.length-i) 0 [] rfl (by omega) (λi hi=>?_) (by exact⟨rfl,by rw[<-Xjf hll];rfl,rfl,rfl,rfl⟩)
 refine By rfl (λg=>?_) λg=>?_<;>simp only[lt'] at g
 . have hu:l[i]?=some l[i]:=W0c (by omega)
   have hm:=h _ (W6r (l:=l) (n:=i) (by omega))
   refine Ix i rfl (mp hu) ?_
   refine Ce rfl (Xkk hm.1 hm.2) ?_
   refine Eo i rfl (by omega) ?_
   refine Sto rfl (by rw[Xkd (by omega)];omega) (Xnb (u:=dqs l[i]) (by rw[W1s,hu];rfl)) ?_
   refine Ar (i+1:Nat) rfl ?_
   exact Bk (i+1) [] rfl (show i+1<=l.length by omega) (by show l.length-(i+1)<l.length-i;omega)
 . exact Rw [(8,1000000)] [(1000000,.arr 1 (l.map dqs))] rfl (.one (.rf rfl) rfl rfl) ⟨_,rfl,by rw[hll];rfl,rfl⟩ (by rw[Xnc (by omega)];rfl)
theorem Adjoin_ok{k r p:Nat}{t:Tw k}{a:Tow.El k}(hT:TS r k t)(ha:Sz p (toL k a))(hR:red k t)(hk:k<8)(hq:qB r k p<=4398046511104)(hq2:qB r k r<=4398046511104)(hv:vB r k (p+gC r k)<=4398046511104)(hr:vB r k r<=4398046511104):
 C0 289 [.d (dt t),.d (de a)] (R8.AdjR k t a):=by
 have h0:=Xd2 (r:=r) k r
 have h1:=Xd2 (r:=r) k (p+gC r k)
 have h2:=Xcv (r:=r) (k:=k) (show p<=p+gC r k by omega)
 have hlen:=Xaa k t
 have e2:(((toT k t).map dqs).length:Int)=k:=by simp[hlen]
 have hle:∀x∈toT k t,0<x.length/\x.length<=1048576:=λx hx=>by
  obtain⟨i,hi,e⟩:=List.mem_iff_getElem.1 hx
  have:=(Xk1 hT (i:=i) (l:=x) (by rw[W0c hi,e])).1
  rw[hlen] at hi
  have h3:=W0l (n:=2) (by decide) (show i<=8 by omega)
  have:=W0p i
  omega
 refine En Tryz.func289 λ_ _ _=>?_
 refine Ce rfl (Xb6 hT ha (by omega) (by omega) (by omega)) ?_
 refine No rfl (by simp) ?_
 refine Ce rfl (Reduced_ok hT hR (by omega) hq2 hr) ?_
 refine No rfl (by simp) ?_
 refine Ce rfl (Xmb hT ha (Xad hR) (by omega) (by omega) hr (by omega)) ?_
 refine By rfl (λh=>?_) λh=>?_
 . exact Rt rfl (.tup (.cons (.nil rfl) (.cons (.nil rfl) Xa2))) (.inl ⟨h,rfl⟩)
 refine Ca rfl (Xor hT ha hR (by omega) hq hv hr) λv hv=>?_
 obtain⟨w,rfl,hw⟩:=hv
 refine By rfl (λh1=>?_) λh1=>?_
 . obtain⟨x,x1,x2,rfl⟩:=hw h1
   refine Ce rfl (Xr0 (by omega) hle).data ?_
   exact Rt rfl (.tup (.cons (.rf rfl) (.cons (.rf rfl) Xa2))) (.inr (.inl ⟨x,x1,x2,rfl⟩))
 refine No rfl (by simp only[lt',hlen];omega) ?_
 refine Cr rfl (Xr0 (by omega) hle) ?_
 refine Ce rfl (Xkk (by rw[Xab];exact W0p k) (by rw[Xab];have:=W0l (n:=2) (by decide) (show k<=8 by omega);omega)) ?_
 refine ApO ((toT k t++[toL k a]).map dqs) rfl rfl rfl (by simp) (by simp[hlen];omega) ?_
 refine Fz 11 9 ((toT k t++[toL k a]).map dqs) rfl (by simp) (by rw[W1d];exact W0a (by simp)) ?_
 have hrt:=Xys (r:=max r p) (t:=tsn t a) (i:=k) ?_ (by omega) (by omega) (by omega)
 rw[<-e2] at hrt
 refine Ce rfl hrt ?_
 exact Rt rfl (.tup (.cons (.rf rfl) (.cons (.rf rfl) Xa2))) (.inr (.inr ⟨by omega,h1,hk,rfl⟩))
 exact⟨hT.mono (by omega),ha.mono (by omega)⟩
end Go.Proofs.YtegepebhkhhhoaaGreatDoor.P8
namespace Go.Proofs.YtegepebhkhhhoaaGreatDoor.P9
open Go Go.Vm Go.Num Go.Tow Go.Proofs.YtegepebhkhhhoaaGreatDoor
section
theorem Xkj{x:Rat}{p:Nat}(hx:Qs p x)(hp:p<=4398046511104): C0 115 [.d (dq x)] (·=.d (dq x)):=by
 have h1:=hx.n.len2 hp
 have h2:=hx.d.len2 hp
 refine En Tryz.func115 λ_ _ _=>?_
 refine Dw rfl ?_
 refine Ce rfl (Xbv (l:=dig x.num.natAbs) (by omega)) ?_
 refine Ce rfl (Xbv (l:=dig (x.den:Int).natAbs) (by omega)) ?_
 exact R0
theorem Xda{l:List Rat}{p:Nat}(hl:Ps p l)(hp:p<=4398046511104)(hn:l.length<=1048576): C0 131 [.d (dqs l)] (·=.d (dqs l)):=by
 have hll:(l.map dq).length=l.length:=by simp
 refine En Tryz.func131 λ_ _ _=>?_
 refine Mk l.length rfl (by omega) ?_ (by simp[hll])
 refine Lo (λi:Nat=>[(0,.d (dqs l)),(2,.nil),(3,.own 8 4 0 l.length),(9,.d (dqs l)),(10,.d (.int .i64 (l.map dq).length)),(11,.d (.int .i64 i))]) (λi=>[(8,.arr 4 (fl (l.map dq) rz i))]) (λi=>i<=l.length) (λi=>l.length-i) 0 [] rfl (by omega) (λi hi=>?_) (by exact⟨rfl,by rw[<-Xjf hll];rfl,rfl,rfl,rfl⟩)
 refine By rfl (λg=>?_) λg=>?_<;>simp only[lq] at g
 . obtain⟨u,hu⟩:=qat (l:=l) (k:=i) (by omega)
   refine Ix i rfl (mp hu) ?_
   refine Ce rfl (Xkj (hl u (W0h hu)) hp) ?_
   refine Eo i rfl (by omega) ?_
   refine Sto rfl (by rw[Xkd (by omega)];omega) (Xnb (u:=dq u) (by rw[W1s,hu];rfl)) ?_
   refine Ar (i+1:Nat) rfl ?_
   exact Bk (i+1) [] rfl (show i+1<=l.length by omega) (by show l.length-(i+1)<l.length-i;omega)
 . refine R1 rfl (.own rfl (by rw[Xkd (by omega)];simp) ?_)
   rw[Xnc (by omega),W1d]
   exact W0a (by simp)
theorem Xy3{x y:Rat}{p q:Nat}(hx:Qs p x)(hy:Qs q y)(hp:p+q<=8796093022208): C0 243 [.d (dq x),.d (dq y)] (·=.b (dc (x=y))):=by
 refine En Tryz.func243 λ_ _ _=>?_
 refine Ce rfl (Xbz hx hy hp) ?_
 exact R1 rfl (.bp (Xaj.trans ⟨λh=>W0s λe=>R9.cmpQ_ne.2 e h,λe=>W0s λh=>R9.cmpQ_ne.1 h e⟩))
theorem Yab{l m:List Rat}{p q:Nat}(hl:Ps p l)(hm:Ps q m)(hp:p+q<=8796093022208)(hn:l.length<=1048576): C0 242 [.d (dqs l),.d (dqs m),.d (.raw (.func (.func 243) #[] #[]))] (·=.b (dc (l=m))):=by
 refine En Tryz.func242 λ_ _ _=>?_
 refine By rfl (λh=>?_) λh=>?_<;>simp only[lq] at h
 . exact R1 rfl (.bp ⟨nofun,λe=>absurd (by rw[e]) h⟩)
 have h:l.length=m.length:=by omega
 refine Lo (λk:Nat=>[(0,.d (dqs l)),(1,.d (dqs m)),(2,.d (.raw (.func (.func 243) #[] #[]))),(15,.d (dqs l)),(16,.d (.int .i64 (l.map dq).length)),(17,.d (.int .i64 k))]) (λ_=>[]) (λk=>k<=l.length/\l.take k=m.take k) (λk=>l.length-k) 0 [] rfl ⟨by omega,rfl⟩ λk ⟨hk,ht⟩=>?_
 refine By rfl (λh2=>?_) λh2=>?_<;>simp only[lq] at h2
 . obtain⟨x,hx⟩:=qat (l:=l) (k:=k) (by omega)
   obtain⟨y,hy⟩:=qat (l:=m) (k:=k) (by omega)
   refine Ix k rfl (mp hx) ?_
   refine Ix k rfl (mp hy) ?_
   refine Ce rfl (Xy3 (hl x (W0h hx)) (hm y (W0h hy)) hp) ?_
   refine By rfl (λh3=>?_) λh3=>?_
   . have h3:¬x=y:=by simpa [Xaq,Xaj] using h3
     exact R1 rfl (.bp ⟨nofun,λe=>by subst e;rw[hx] at hy;injection hy with hy;exact absurd hy h3⟩)
   . have e:x=y:=by simpa [Xaq,Xaj] using h3
     refine Ar (k+1:Nat) rfl ?_
     exact Bk (k+1) [] rfl ⟨by omega,by rw[W1p,W1p,hx,hy,ht,e]⟩ (by show l.length-(k+1)<l.length-k;omega)
 . rw[W0a (by omega),W0a (by omega)] at ht
   exact R1 rfl (.bp ⟨λ_=>ht,λ_=>rfl⟩)
theorem sameElement_ok{l m:List Rat}{p q:Nat}(hl:Ps p l)(hm:Ps q m)(hp:p+q<=8796093022208)(hn:l.length<=1048576): C0 156 [.d (dqs l),.d (dqs m)] (·=.b (dc (l=m))):=by
 refine En Tryz.func156 λ_ _ _=>?_
 refine Ce rfl (Yab hl hm hp hn) ?_
 exact R0
theorem Yaa{T U:List (List Rat)}{p q:Nat}(hT:Pt p T)(hU:Pt q U)(hp:p+q<=8796093022208)(hl:T.length<=16): C0 241 [.d (dts T),.d (dts U),.d (.raw (.func (.func 156) #[] #[]))] (·=.b (dc (T=U))):=by
 refine En Tryz.func241 λ_ _ _=>?_
 refine By rfl (λh=>?_) λh=>?_<;>simp only[lt'] at h
 . exact R1 rfl (.bp ⟨nofun,λe=>absurd (by rw[e]) h⟩)
 have h:T.length=U.length:=by omega
 refine Lo (λk:Nat=>[(0,.d (dts T)),(1,.d (dts U)),(2,.d (.raw (.func (.func 156) #[] #[]))),(15,.d (dts T)),(16,.d (.int .i64 (T.map dqs).length)),(17,.d (.int .i64 k))]) (λ_=>[]) (λk=>k<=T.length/\T.take k=U.take k) (λk=>T.length-k) 0 [] rfl ⟨by omega,rfl⟩ λk ⟨hk,ht⟩=>?_
 refine By rfl (λh2=>?_) λh2=>?_<;>simp only[lt'] at h2
 . obtain⟨x,hx⟩:∃x,T[k]?=some x:=⟨_,W0c (by omega)⟩
   obtain⟨y,hy⟩:∃y,U[k]?=some y:=⟨_,W0c (by omega)⟩
   obtain⟨x1,x2⟩:=hT k x hx
   obtain⟨y1,y2⟩:=hU k y hy
   have:=p16 (show k<=16 by omega)
   refine Ix k rfl (mp hx) ?_
   refine Ix k rfl (mp hy) ?_
   refine Ce rfl (sameElement_ok x2 y2 hp (by omega)) ?_
   refine By rfl (λh3=>?_) λh3=>?_
   . have h3:¬x=y:=by simpa [Xaq,Xaj] using h3
     exact R1 rfl (.bp ⟨nofun,λe=>by subst e;rw[hx] at hy;injection hy with hy;exact absurd hy h3⟩)
   . have e:x=y:=by simpa [Xaq,Xaj] using h3
     refine Ar (k+1:Nat) rfl ?_
     exact Bk (k+1) [] rfl ⟨by omega,by rw[W1p,W1p,hx,hy,ht,e]⟩ (by show T.length-(k+1)<T.length-k;omega)
 . rw[W0a (by omega),W0a (by omega)] at ht
   exact R1 rfl (.bp ⟨λ_=>ht,λ_=>rfl⟩)
theorem begins_ok{T U:List (List Rat)}{p q:Nat}(hT:Pt p T)(hU:Pt q U)(hp:p+q<=8796093022208)(hl:T.length<=16): C0 155 [.d (dts T),.d (dts U)] (·=.b (dc (T.take U.length=U))):=by
 refine En Tryz.func155 λ_ _ _=>?_
 refine By rfl (λh=>?_) λh=>?_<;>simp only[lt'] at h
 . have hq:Pt p (T.take U.length):=λi r hi=>by
    rw[W1e] at hi
    split at hi
    . exact hT i r hi
    . cases hi
   refine Tk U.length ((T.take U.length).map dqs) rfl rfl (by simp only[lt'];omega) (by rw[W2d]) ?_ (by simp only[lt'])
   refine Ce rfl (Yaa hq hU hp (by rw[W0g];omega)) ?_
   exact R0
 . exact R1 rfl (.bp ⟨nofun,λe=>absurd (congrArg List.length e) (by rw[W0g];omega)⟩)
theorem Yia{T:List (List Rat)}{l:List Rat}(h0:0<l.length)(hT:T.length<=16)(hl:l.length<=2^T.length): C0 160 [.d (dts T),.d (dqs l)] (·=.d (dqs (l++List.replicate (2^T.length-l.length) 0))):=by
 have hp:=p16 hT
 obtain⟨n,hn⟩:∃n,n=2^T.length:=⟨_,rfl⟩
 rw[<-hn] at hp hl |-
 refine En Tryz.func160 λ_ _ _=>?_
 refine Cr rfl (Xji h0 (by omega)) ?_
 refine Lo (λk:Nat=>[(0,.d (dts T)),(5,.own 7 4 0 ((l++List.replicate k 0).map dq).length)]) (λk=>[(7,.arr 4 ((l++List.replicate k 0).map dq))]) (λk=>l.length+k<=n) (λk=>n-k) 0 [] rfl (by omega) (λk hk=>?_) (by exact⟨by simp;rfl,by simp;rfl,rfl,rfl,rfl⟩)
 refine Ar n rfl ?_ (by rw[hn];simp only[lt'];exact Xby (by omega))
 refine By rfl (λh=>?_) λh=>?_<;>simp only[lq,W0d,W1l] at h
 . refine Ce rfl (Xau (z:=0) (by decide)) ?_
   refine ApO ((l++List.replicate (k+1) 0).map dq) rfl rfl rfl (by rw[W6t];simp) (by simp;omega) ?_
   exact Bk (k+1) [(7,90),(17,7)] rfl (show l.length+(k+1)<=n by omega) (by show n-(k+1)<n-k;omega)
 . refine R1 rfl (.own rfl (by omega) ?_)
   rw[W1d,show n-l.length=k by omega]
   exact W0a (by simp)
theorem Xqx{k m:Nat}{s:Tow.El k}{b:Tow.El m}{T:Tw m}(h:Lf s b)(hk:k<=m)(hm:m<=16): C0 160 [.d (dt T),.d (de s)] (·=.d (de b)):=by
 have:=Yia (T:=toT m T) (l:=toL k s) (by rw[Xab];exact W0p k) (by rw[Xaa];omega) (by rw[Xab,Xaa];exact W0l (by decide) hk)
 rw[Xaa,Xab,<-h] at this
 exact this
abbrev dE(T rs:List (List Rat)): D:=.st (.pr (dts T) (dts rs))
theorem Xgk{k R z:Nat}{T:Tw k}{rs:List (List Rat)}{σ:Nat->Tow.El k}(hT:TS R k T)(hk:k<=16)(hR:R<=4398046511104): ∀ {j p:Nat} {a:Tow.El j},R9.Rts k z j rs σ->Sz p (toL j a)->j<=16->imB (cB R k) z j p<=4398046511104 ->
 C0 221 [.d (dE (toT k T) rs),.d (de a)] (·=.d (de (ev T σ j a))):=by
 intro j
 induction j with
 | zero =>
  intro p a _ ha hj hb
  have hb:p+1<=4398046511104:=hb
  have key:∀y:Rat,Qs p y->C0 221 [.d (dE (toT k T) rs),.d (dqs [y])] (·=.d (de (rat k y))):=λy hy=>by
   refine En Tryz.func221 λ_ _ _=>?_
   refine Yes rfl rfl ?_
   refine Dw rfl ?_
   refine Ix 0 rfl (u:=dq y) rfl ?_
   refine Ce rfl (Xc2 hT hk hR hy (by omega)) ?_
   exact R0
  exact key a (ha.qs (W0i.2 rfl))
 | succ j ih =>
  intro p a hr ha hj hb
  have hb':2*imB (cB R k) z j p+z+cB R k+1<=4398046511104:=hb
  have hr':R9.Rts k z j rs σ:=λi hi=>hr i (by omega)
  have hpj:=p16 (show j<=16 by omega)
  have hp0:=W0p j
  have hpp:=Ycn (c:=cB R k) (z:=z) (p:=p) (j:=j)
  have hs:∀i,i<j->Sz z (toL k (σ i)):=λi hi=>(hr' i hi).elim λ_ h=>h.elim λ_ h=>h.2.2.2
  have h1:=Xlz hT (a:=a.1) hs (Sz.left ha)
  have h2:=Xlz hT (a:=a.2) hs (Sz.right ha)
  obtain⟨m,s,m1,m2,m3,m4⟩:=hr j (by omega)
  refine En Tryz.func221 λ_ _ _=>?_
  refine No rfl (by show ¬((((toL j a.1++toL j a.2).map dq).length:Nat):Int)=1;rw[hvL];omega) ?_
  refine Ar (2^j:Nat) rfl ?_ (hvq a (by omega))
  refine Lo (λi:Nat=>[(1,.d (de a)),(2,.ptr 2 0),(4,.nil),(5,.d (.int .i64 (2^j:Nat))),(6,.d (.int .i64 i))]) (λ_=>[(2,.var (.d (dE (toT k T) rs)))]) (λi=>i<=j) (λi=>j-i) 0 [] rfl (by omega) λi hi=>?_
  refine Ar (i+1:Nat) rfl ?_
  refine Ar (2^(i+1):Nat) rfl ?_ (Xby (by omega))
  refine By rfl (λh=>?_) λh=>?_
  . have h:((2^(i+1):Nat):Int)<(((toL j a.1++toL j a.2).map dq).length:Nat):=h
    rw[hvL,<-Nat.pow_succ'] at h
    have h:i+1<j+1:=(W2t (by decide:1<2)).1 (by omega)
    refine Ar (i+1:Nat) rfl ?_
    exact Bk (i+1) [] rfl (show i+1<=j by omega) (by show j-(i+1)<j-i;omega)
  . have h:¬((2^(i+1):Nat):Int)<(((toL j a.1++toL j a.2).map dq).length:Nat):=h
    rw[hvL,<-Nat.pow_succ'] at h
    have h:¬i+1<j+1:=λe=>h (by have:=(W2t (by decide:1<2)).2 e;omega)
    obtain rfl:i=j:=by omega
    refine Dw rfl ?_
    refine Tk (2^i) ((toL i a.1).map dq) rfl rfl (Xci a) (hvT a) ?_
    refine Ce rfl (ih hr' (Sz.left ha) (by omega) (by omega)) ?_
    refine Dp (2^i) ((toL i a.2).map dq) rfl rfl (Xci a) (hvD a) ?_
    refine Ce rfl (Xe3 (l:=toL i a.2) (Sz.right ha).ps (by omega) (by rw[Xab];omega)) ?_
    refine By rfl (λhv=>?_) λhv=>?_
    . have hv:a.2=zero i:=(Xam i a.2).2 hv
      have e:ev T σ i a.1=ev T σ (i+1) a:=by
       have L:=Xay k T
       show _=Tow.add k (ev T σ i a.1) (mul k T (ev T σ i a.2) (σ i))
       rw[hv,Xed,L.mc,L.mz,L.az]
      exact R1 rfl (.eq (congrArg de e))
    . refine Dw rfl ?_
      refine Dp (2^i) ((toL i a.2).map dq) rfl rfl (Xci a) (hvD a) ?_
      refine Ce rfl (ih hr' (Sz.right ha) (by omega) (by omega)) ?_
      refine Ix i rfl (mp m2) ?_
      refine Ce rfl (Xqx (T:=T) m3 m1 hk) ?_
      refine Ce rfl (Xd5 hT h2 m4 hk (by omega) hR) ?_
      refine Ce rfl (Xin hT h1 (h2.mul hT m4) hk (by omega) hR) ?_
      exact R0
section
variable{K:Nat}{G:Tw K}{S:List (Tow.El K)}{k l:Nat}{t:Tw k}{u:Tw l}{ρ ρu:Nat->Tow.El K}
theorem Xdu(W:Wy G S wR)(ht:TOk G S k t ρ)(hu:TOk G S l u ρu): C0 220 [.d (dt t),.d (dt u)] (R9.ExQ G S l k t ρ ρu λT rs=>.tup (.pr (.d (.st (.pr T rs))) (.d (.int .i64 0)))):=by
 have hl3:l<=3:=W.le hu
 refine En Tryz.func220 λ_ _ _=>?_
 refine Nv 6 7 1 rfl ?_
 refine Lo (λ(x:Nat×(Σ m,Tw m)×List (List Rat))=>[(4,.ptr 4 0),(5,.d (.int .i64 0)),(6,.ptr 6 0),(14,.d (dt u)),(15,.d (.int .i64 ((toT l u).map dqs).length)),(16,.d (.int .i64 x.1))]) (λx=>[(4,.var (.st (.pr .nil .nil))),(6,.var (.st (.pr (.d (dt x.2.1.2)) (.gr 7 1 (x.2.2.map dqs))))),(7,.tok (x.2.2.map dqs).length 1)])
  (R9.ExI G S l k t ρ ρu) (λx=>l-x.1) (0,⟨k,t⟩,[]) [] rfl ⟨W0w _,rfl,ρ,ht,Beg.rf,λ_ _=>rfl,λi hi=>by omega,λ_=>rfl⟩ (λ(i,⟨m,T⟩,rs) hI=>?_)
 have hI':=hI
 obtain⟨hi,hrl,ρ',hT,hB,ha,hrt,hc⟩:=hI
 simp only at hi hrl hT hB ha hrt hc
 have hm3:m<=3:=W.le hT
 have hz:=W.t hT
 refine By rfl (λh=>?_) λh=>?_<;>simp only[lt',Xaa] at h
 . have hil:i<l:=by omega
   obtain⟨x,σ,x1,x2,s1,s2,hev,x4,hsz⟩:=R9.ExI.rad W hu hil hT hrt
   obtain⟨q1,q2,q3,q4⟩:=R9.exB hm3
   have hE:=Ydd hm3 (show i<=2 by omega)
   have hR:=Xhw
   have hE':=Ygu
   have hlen:(rs.map dqs).length<=3:=by rw[W0j];omega
   refine Ix i rfl (mp x1) ?_
   refine Dw rfl ?_
   refine Ce rfl (Xgk (k:=m) (T:=T) hz (by omega) (by omega) s1 x2 (by omega) (by omega)) ?_
   refine Ca rfl (P8.Adjoin_ok (k:=m) (t:=T) hz hsz hT.r (by omega) q1 q2 q3 q4) λv hv=>?_
   rcases hv with ⟨h1,rfl⟩ | ⟨y,h1,h2,rfl⟩ | ⟨h1,h2,h3,rfl⟩
   . have:=Xef (Xad W.g) hT.h (a:=ev T σ i x)
     rw[hev,(Xap (Xad W.g)).sm,x4] at this
     omega
   . refine No rfl (by simp) ?_
     refine ApG ((rs++[toL m y]).map dqs) rfl (by simp) (by simp at hlen |-;omega) ?_
     refine Ar (i+1:Nat) rfl ?_
     exact Bk (i+1,⟨m,T⟩,rs++[toL m y]) [(7,90),(39,7)] rfl (hI'.sq W hu hil hT hB ha hrt hc s2 hev x4 h1 h2) (by show l-(i+1)<l-i;omega)
   . refine No rfl (by simp) ?_
     refine ApG ((rs++[toL (m+1) (Xdd (m+1) m)]).map dqs) rfl (by simp) (by simp at hlen |-;omega) ?_
     refine Ar (i+1:Nat) rfl ?_
     exact Bk (i+1,⟨m+1,tsn T (ev T σ i x)⟩,rs++[toL (m+1) (Xdd (m+1) m)]) [(7,90),(39,7)] rfl (hI'.new W hu hil hT hB ha hrt hev x4 h2) (by show l-(i+1)<l-i;omega)
 . obtain rfl:i=l:=by omega
   exact Rt rfl (.tup (.cons (.sd (.pd (.rf rfl) (.gr rfl))) Xa2)) ⟨m,T,rs,ρ',rfl,hT,hB,ha,hrt,hc⟩
end
end
section
theorem Xdx{x:Nm}{r p:Nat}(hr:TS r x.k x.t)(hp:Sz p (toL x.k x.a))(hk:x.k<=16)(h1:r<=4398046511104)(h2:p<=4398046511104): C0 74 [.d (dN x)] (·=.d (dN x)):=by
 have hpk:=p16 hk
 refine En Tryz.func74 λ_ _ _=>?_
 refine Ce rfl (Xda hp.ps h2 (by rw[Xab];omega)) ?_
 refine Nv 3 7 1 rfl ?_
 refine Lo (λ(i:Nat)=>[(2,.ptr 2 0),(3,.ptr 3 0),(11,.d (dt x.t)),(12,.d (.int .i64 ((toT x.k x.t).map dqs).length)),(13,.d (.int .i64 i))]) (λi=>[(2,.var (.st (.pr .nil .nil))),(3,.var (.st (.pr (.gr 7 1 (((toT x.k x.t).take i).map dqs)) (.d (de x.a))))),(7,.tok (((toT x.k x.t).take i).map dqs).length 1)])
  (λi=>i<=x.k) (λi=>x.k-i) 0 [] rfl (W0w _) (λi hi=>?_)
 refine By rfl (λh=>?_) λh=>?_<;>simp only[lt',Xaa] at h
 . obtain⟨w,y,y1,y2,y3,_⟩:=Tw.take (t:=x.t) (i:=i) (by omega)
   have hy:=(y3 r hr).2
   refine Ix i rfl (mp y2) ?_
   refine Dw rfl ?_
   refine Ce rfl (Xda hy.ps h1 (by rw[Xab];have:=p16 (show i<=16 by omega);omega)) ?_
   refine ApG (((toT x.k x.t).take (i+1)).map dqs) rfl (by rw[W1p,y2];simp) (by simp[Xaa];omega) ?_
   refine Ar (i+1:Nat) rfl ?_
   exact Bk (i+1) [(7,90),(22,7)] rfl (show i+1<=x.k by omega) (by show x.k-(i+1)<x.k-i;omega)
 . have e:(toT x.k x.t).take i=toT x.k x.t:=W0a (by rw[Xaa];omega)
   refine R1 rfl (.sd (.pd (.gr ?_) (.rf rfl)))
   rw[e]
theorem Xqy: ∀ {k:Nat},rat k 1≠zero k
 | 0,h=>by have h:(1:Rat)=0:=h;exact absurd h (by decide)
 | k+1,h=>Xqy (k:=k) (congrArg Prod.fst h)
theorem inv_zero{k:Nat}{t:Tw k}{a:Tow.El k}(h:a=zero k): Tow.inv k t a=none:=by
 cases e:Tow.inv k t a with
 | none=>rfl
 | some i =>
  have:=Xch e
  rw[h,(Xay k t).mz] at this
  exact absurd this.symm Xqy
section
variable{K:Nat}{G:Tw K}{S:List (Tow.El K)}{r p:Nat}{x y:Nm}{vx vy:Tow.El K}
theorem Xxh(W:Wy G S wR)(hx:NOk G S r p x vx)(hy:NOk G S r p y vy): C0 219 [.d (dNs [x,y])] λv=>∃m T,v=.tup (.pr (.d (dt T)) (.d (.int .i64 0)))/\R9.CmP G S x y m T:=by
 have hG:=W.g
 have hR:=Xhw
 obtain⟨ρx,hx1,hx2⟩:=hx.ex
 obtain⟨ρy,hy1,hy2⟩:=hy.ex
 have hx3:=W.le hx1
 have hy3:=W.le hy1
 have hxr:=W.t hx1
 have hyr:=W.t hy1
 refine En Tryz.func219 λ_ _ _=>?_
 refine Nd 4 1 rfl ?_
 refine Lo (λ(s:Nat×(Σ m,Tw m))=>[(2,.nil),(3,.d (.int .i64 0)),(4,.d (dt s.2.2)),(9,.d (dNs [x,y])),(10,.d (.int .i64 2)),(11,.d (.int .i64 s.1))]) (λ_=>[]) (λs=>(s.1=0/\s.2=⟨0,()⟩)\/(s.1=1/\s.2=⟨x.k,x.t⟩)\/(s.1=2/\R9.CmP G S x y s.2.1 s.2.2)) (λs=>2-s.1) (0,⟨0,()⟩) [] rfl (.inl ⟨rfl,rfl⟩) (λ(i,⟨m,T⟩) hI=>?_)
 simp only at hI
 rcases hI with ⟨rfl,e⟩ | ⟨rfl,e⟩ | ⟨rfl,hP⟩
 . cases e
   refine Yes rfl (show ((0:Nat):Int)<2 by decide) ?_
   refine Ix 0 rfl (u:=dN x) rfl ?_
   refine Ce rfl (begins_ok (T:=[]) (U:=toT x.k x.t) (p:=1) (λi r h=>by simp at h) (TS.pt hxr) (by omega) (by decide)) ?_
   refine By rfl (λh=>?_) λh=>?_
   . obtain⟨kx,tx,ax⟩:=x
     have h:[]=toT kx tx:=by simpa using h
     obtain rfl:kx=0:=by have:=congrArg List.length h;rw[Xaa] at this;exact this.symm
     refine Ar (0+1:Nat) rfl ?_
     exact Bk (1,⟨0,tx⟩) [] rfl (.inr (.inl ⟨rfl,rfl⟩)) (show 1<2 by decide)
   . refine Ce rfl (begins_ok (U:=[]) (q:=1) (TS.pt hxr) (λi r h=>by simp at h) (by omega) (by rw[Xaa];omega)) ?_
     refine Yes rfl (by simp) ?_
     refine Ar (0+1:Nat) rfl ?_
     exact Bk (1,⟨x.k,x.t⟩) [] rfl (.inr (.inl ⟨rfl,rfl⟩)) (show 1<2 by decide)
 . cases e
   have last:∀h:(toT x.k x.t).take (toT y.k y.t).length=toT y.k y.t,R9.CmP G S x y x.k x.t:=λh=>.mk hG hx1 hy1 hx1 R9.rts (R9.beg_rt hG (show Beg y.k y.t x.k x.t from h) hy1 hx1)
   refine Yes rfl (show ((1:Nat):Int)<2 by decide) ?_
   refine Ix 1 rfl (u:=dN y) rfl ?_
   refine Ce rfl (begins_ok (T:=toT x.k x.t) (U:=toT y.k y.t) (TS.pt hxr) (TS.pt hyr) (by omega) (by rw[Xaa];omega)) ?_
   refine By rfl (λh=>?_) λh=>?_
   . refine Ar (1+1:Nat) rfl ?_
     exact Bk (2,⟨x.k,x.t⟩) [] rfl (.inr (.inr ⟨rfl,last h⟩)) (show 0<1 by decide)
   refine Ce rfl (begins_ok (T:=toT y.k y.t) (U:=toT x.k x.t) (TS.pt hyr) (TS.pt hxr) (by omega) (by rw[Xaa];omega)) ?_
   refine By rfl (λh1=>?_) λh1=>?_
   . have hb:Beg x.k x.t y.k y.t:=h1
     refine Ar (1+1:Nat) rfl ?_
     exact Bk (2,⟨y.k,y.t⟩) [] rfl (.inr (.inr ⟨rfl,.mk hG hx1 hy1 hy1 (R9.beg_rt hG hb hx1 hy1) R9.rts⟩)) (show 0<1 by decide)
   . refine Ca rfl (Xdu W hx1 hy1) λv hv=>?_
     obtain⟨m,T,rs,ρ',rfl,g1,g2,g3,g5,g6⟩:=hv
     refine No rfl (by simp) ?_
     refine Ar (1+1:Nat) rfl ?_
     exact Bk (2,⟨m,T⟩) [] rfl (.inr (.inr ⟨rfl,.ext hG hx1 hy1 g1 g2 g5⟩)) (show 0<1 by decide)
 . refine No rfl (show ¬((2:Nat):Int)<2 by decide) ?_
   exact Rt rfl (.tup (.cons (.rf rfl) Xa2)) ⟨m,T,rfl,hP⟩
theorem Join_ok(W:Wy G S wR)(hx:NOk G S r p x vx)(hy:NOk G S r p y vy)(hp:p<=9000000000): C0 137 [.d (dNs [x,y])] λv=>∃m T a b,v=.tup (.pr (.d (dNs [⟨m,T,a⟩,⟨m,T,b⟩])) (.d (.int .i64 0)))/\R9.JnR G S p vx vy m T a b:=by
 have hc:=Xxh W hx hy
 have hG:=W.g
 have hR:=Xhw
 have hJ:jW p=8*p+73803682:=rfl
 refine En Tryz.func137 λ_ _ _=>?_
 refine Ca rfl hc λv hv=>?_
 obtain⟨m,T,rfl,hP⟩:=hv
 obtain⟨ρ,hT,hcon⟩:=hP
 have hTr:=W.t hT
 have hm3:=W.le hT
 refine No rfl (by decide) ?_
 refine Nl 6 6 2 rfl ?_
 refine Lo (λ(s:Nat×List (Tow.El m))=>[(2,.nil),(3,.d (.int .i64 0)),(4,.d (dt T)),(6,.gr 6 2 (s.2.map λa=>dN ⟨m,T,a⟩)),(20,.d (dNs [x,y])),(21,.d (.int .i64 2)),(22,.d (.int .i64 s.1))]) (λs=>[(6,.tok (s.2.map λa=>dN ⟨m,T,a⟩).length 2)])
  (R9.JnI G p m ρ vx vy) (λs=>2-s.1) (0,[]) [] rfl ⟨W0w _,rfl,λi hi=>absurd hi (W4d _)⟩ (λ(j,bs) hI=>?_)
 have hI':=hI
 obtain⟨hj,hjl,has⟩:=hI
 simp only at hj hjl has
 refine By rfl (λh=>?_) λh=>?_
 . have h:(j:Int)<2:=h
   obtain⟨z,v,ρz,z1,z2,z3,z4,z6⟩:=R9.both hx hy j (by omega)
   have z5:=W.t z3
   have hzu:([x,y].map dN)[j]?=some (dN z):=by rw[W1s,z1];rfl
   have hzm:=hcon z (W0h z1) ρz z3
   have hz3:=W.le z3
   have hpj:p<=jW p:=R9.jW_ge
   refine Ix j rfl hzu ?_
   refine Ce rfl (begins_ok (T:=toT m T) (U:=toT z.k z.t) (TS.pt hTr) (TS.pt z5) (by omega) (by rw[Xaa];omega)) ?_
   refine By rfl (λh1=>?_) λh1=>?_
   . have hb:Beg z.k z.t m T:=h1
     obtain⟨b,hlb⟩:=Lf.ex hb.le z.a
     have hv1:ev G ρ m b=v:=by rw[hlb.ev hb.le,Xbs (R9.beg_ag hG hb z3 hT),z4]
     refine Ce rfl (Xqx (T:=T) hlb hb.le (by omega)) ?_
     refine Ce rfl (Xdx (x:=⟨_,T,b⟩) hTr ((hlb.sz z6).mono hpj) (show _<=16 by show m<=16;omega) (by omega) (by omega)) ?_
     refine ApG ((bs++[b]).map λa=>dN ⟨m,T,a⟩) rfl (by simp) (by simp;omega) ?_
     refine Ar (j+1:Nat) rfl ?_
     exact Bk (j+1,bs++[b]) [(6,90),(56,6)] rfl (hI'.step (by omega) z2 hv1 ((hlb.sz z6).mono hpj)) (by show 2-(j+1)<2-j;omega)
   . refine Ca rfl (Xdu W hT z3) λv' hv=>?_
     obtain⟨m',T',rs,ρ',rfl,g1,g2,g3,g5,g6⟩:=hv
     obtain rfl:m'=m:=by have:=congrArg List.length (g6 hzm);rwa[Xaa,Xaa] at this
     obtain rfl:T=T':=(Xk0 (g6 hzm)).symm
     have g5:RtV G m' (zM wR 3) z.k rs ρ ρz:=g5.mono (W0b _) (W0b _) (λi hi=>(g3 i hi).symm)
     obtain⟨σ,s1,s2⟩:=g5.sig
     have hbd:=Yey (p:=p) hm3 hz3
     refine No rfl (by simp) ?_
     refine Ce rfl (Xgk hTr (by omega) (by omega) s1 z6 (by omega) (by omega)) ?_
     refine Ce rfl (Xdx (x:=⟨_,T,ev T σ z.k z.a⟩) hTr (R9.img W hT z3 s1 z6) (show _<=16 by show m'<=16;omega) (by omega) (by omega)) ?_
     refine ApG ((bs++[ev T σ z.k z.a]).map λa=>dN ⟨m',T,a⟩) rfl (by simp) (by simp;omega) ?_
     refine Ar (j+1:Nat) rfl ?_
     exact Bk (j+1,bs++[ev T σ z.k z.a]) [(6,90),(56,6)] rfl (hI'.step (by omega) z2 (by rw[Xl0 hT.h s2,z4]) (R9.img W hT z3 s1 z6)) (by show 2-(j+1)<2-j;omega)
 . have h:¬(j:Int)<2:=h
   obtain rfl:j=2:=by omega
   obtain⟨a,b,rfl,hJ⟩:=hI'.done hT
   exact Rt rfl (.tup (.cons (.gr rfl) Xa2)) ⟨m,T,a,b,rfl,hJ⟩
def OpF(f:FuncId)(p:Nat)(g:(m:Nat)->Tw m->Tow.El m->Tow.El m->Tow.El m): Prop:=∀(m:Nat) (T:Tw m) (a b:Tow.El m),m<=3->TS wR m T->Sz (jW p) (toL m a)->Sz (jW p) (toL m b)->C0 f [.d (dt T),.d (de a),.d (de b)] (·=.d (de (g m T a b)))
theorem Xhf{f:FuncId}{g:(m:Nat)->Tw m->Tow.El m->Tow.El m->Tow.El m}(hf:OpF f p g)(W:Wy G S wR)(hx:NOk G S r p x vx)(hy:NOk G S r p y vy)(hp:p<=9000000000): C0 79 [.d (dN x),.d (dN y),.d (fnD f)] λv=>∃m T a b,v=.tup (.pr (.d (dN ⟨m,T,g m T a b⟩)) (.d (.int .i64 0)))/\R9.JnR G S p vx vy m T a b:=by
 refine En Tryz.func79 λ_ _ _=>?_
 refine Ca rfl (Join_ok W hx hy hp) λv hv=>?_
 obtain⟨m,T,a,b,rfl,h⟩:=hv
 obtain⟨ρ,h1,h3,h4,h5,h6⟩:=id h
 have h2:=W.t h1
 have hm:=W.le h1
 refine No rfl (by simp) ?_
 refine Ix 0 rfl (u:=dN ⟨m,T,a⟩) rfl ?_
 refine Dw rfl ?_
 refine Ix 0 rfl (u:=dN ⟨m,T,a⟩) rfl ?_
 refine Ix 1 rfl (u:=dN ⟨m,T,b⟩) rfl ?_
 refine Ce rfl (hf m T a b hm h2 h5 h6) ?_
 exact Rt rfl (.tup (.cons (.rf rfl) Xa2)) ⟨m,T,a,b,rfl,h⟩
theorem Add_ok(W:Wy G S wR)(hx:NOk G S r p x vx)(hy:NOk G S r p y vy)(hp:p<=9000000000): C0 50 [.d (dN x),.d (dN y)] (R9.OpR G S (oW p) (Tow.add K vx vy)):=by
 have hO:oW p=16*p+147714794:=rfl
 have hJ:jW p=8*p+73803682:=rfl
 have hC:=wC
 have hR:=Xhw
 refine En Tryz.func50 λ_ _ _=>?_
 refine Ca rfl (Xhf (g:=λm T a b=>Tow.add m a b) (λm T a b hm h2 h5 h6=>Xin h2 h5 h6 (by omega) (by omega) (by omega)) W hx hy hp) λv hv=>?_
 obtain⟨m,T,a,b,rfl,ρ,h1,h3,h4,h5,h6⟩:=hv
 have h2:=W.t h1
 exact Rt rfl (.tup (.cons (.rf rfl) Xa2)) ⟨⟨m,T,Tow.add m a b⟩,rfl,⟨ρ,h1,by rw[<-h3,<-h4];exact Xc8⟩,h2,by rw[Xax];exact(h5.add h6).mono (by omega)⟩
theorem Mul_ok(W:Wy G S wR)(hx:NOk G S r p x vx)(hy:NOk G S r p y vy)(hp:p<=9000000000): C0 33 [.d (dN x),.d (dN y)] (R9.OpR G S (oW p) (Tow.mul K G vx vy)):=by
 have hO:oW p=16*p+147714794:=rfl
 have hJ:jW p=8*p+73803682:=rfl
 have hC:=wC
 have hR:=Xhw
 refine En Tryz.func33 λ_ _ _=>?_
 refine Ca rfl (Xhf (g:=λm T a b=>Tow.mul m T a b) (λm T a b hm h2 h5 h6=>Xd5 h2 h5 h6 (by omega) (by have:=Xgs (r:=wR) hm;omega) (by omega)) W hx hy hp) λv hv=>?_
 obtain⟨m,T,a,b,rfl,ρ,h1,h3,h4,h5,h6⟩:=hv
 have h2:=W.t h1
 have hm:=W.le h1
 have hc:=Xgs (r:=wR) hm
 exact Rt rfl (.tup (.cons (.rf rfl) Xa2)) ⟨⟨m,T,Tow.mul m T a b⟩,rfl,⟨ρ,h1,by rw[<-h3,<-h4];exact Xbd h1.h⟩,h2,(h5.mul h2 h6).mono (by omega)⟩
theorem Sub_ok(W:Wy G S wR)(hx:NOk G S r p x vx)(hy:NOk G S r p y vy)(hp:p<=9000000000): C0 240 [.d (dN x),.d (dN y)] (R9.OpR G S (oW p) (Tow.add K vx (Tow.neg K vy))):=by
 have hO:oW p=16*p+147714794:=rfl
 have hJ:jW p=8*p+73803682:=rfl
 have hC:=wC
 have hR:=Xhw
 refine En Tryz.func240 λ_ _ _=>?_
 refine Ca rfl (Xhf (g:=λm T a b=>Tow.add m a (Tow.neg m b)) (λm T a b hm h2 h5 h6=>Xk3 h2 h5 h6 (by omega) (by omega) (by omega)) W hx hy hp) λv hv=>?_
 obtain⟨m,T,a,b,rfl,ρ,h1,h3,h4,h5,h6⟩:=hv
 have h2:=W.t h1
 exact Rt rfl (.tup (.cons (.rf rfl) Xa2)) ⟨⟨m,T,Tow.add m a (Tow.neg m b)⟩,rfl,⟨ρ,h1,by rw[<-h3,<-h4,<-Xeg];exact Xc8⟩,h2,by rw[Xax];exact(h5.add (Xhp h6)).mono (by omega)⟩
theorem Neg_ok(hx:NOk G S r p x vx)(hk:x.k<=16)(hr:r<=4398046511104)(hp:p<=4398046511104): C0 29 [.d (dN x)] (·=.d (dN ⟨x.k,x.t,Tow.neg x.k x.a⟩)):=by
 refine En Tryz.func29 λ_ _ _=>?_
 refine Ce rfl (Xdx hx.r hx.p hk hr hp) ?_
 refine Ce rfl (Xt2 hx.r hx.p hk hp hr) ?_
 exact R0
theorem Sign_ok(hG:red K G)(hx:NOk G S r p x vx)(hk:x.k<=16)(hv:vB r x.k p<=4398046511104)(hr:vB r x.k r<=4398046511104): C0 92 [.d (dN x)] (·=.d (.int .i64 (sgn K G vx))):=by
 obtain⟨ρ,h1,h2⟩:=hx.ex
 have:=Xd2 (r:=r) x.k r
 refine En Tryz.func92 λ_ _ _=>?_
 refine Ce rfl (Xmb hx.r hx.p (Xad h1.r) hk hv hr (by omega)) ?_
 rw[hx.sgn (Xad hG)]
 exact R0
theorem FromRat_ok{q:Rat}{p:Nat}(hq:Qs p q)(hp:p<=4398046511104): C0 59 [.d (dq q)] (·=.d (dN ⟨0,(),q⟩)):=by
 refine En Tryz.func59 λ_ _ _=>?_
 refine Ce rfl (Xkj hq hp) ?_
 exact R1 rfl (.sd (.pd (.nil rfl) (.lit rfl)))
theorem FromInt_ok{z:Int}(h:-9223372036854775808<=z/\z<9223372036854775808): C0 34 [.d (.int .i64 z)] (·=.d (dN ⟨0,(),(z:Rat)⟩)):=by
 refine En Tryz.func34 λ_ _ _=>?_
 refine Ce rfl (Xau h) ?_
 refine Ce rfl (FromRat_ok (q:=(z:Rat)) (p:=64) (Qs.int (by unfold Zs;omega) (by omega)) (by decide)) ?_
 exact R0
theorem Cmp_ok(W:Wy G S wR)(hx:NOk G S r p x vx)(hy:NOk G S r p y vy)(hp:p<=4000000000): C0 154 [.d (dN x),.d (dN y)] (·=.tup (.pr (.d (.int .i64 (sgn K G (Tow.add K vx (Tow.neg K vy))))) (.d (.int .i64 0)))):=by
 refine En Tryz.func154 λ_ _ _=>?_
 refine Ca rfl (Sub_ok W hx hy (W0k hp (by decide))) λv hv=>?_
 obtain⟨z,rfl,hz⟩:=hv
 have h3:=hz.le (Xad W.g) W.s
 refine No rfl (by simp) ?_
 refine Ce rfl (Sign_ok W.g hz (by omega) (W0k (W0k (Xg0 h3) (Xcv (by unfold oW;omega))) wV) (W0k (Xg0 h3) wQ.2.2.2)) ?_
 exact RTt rfl (.cons (.rf rfl) Xa2)
theorem Div_ok(W:Wy G S wR){q:Nat}(hx:NOk G S r q x vx)(hy:NOk G S r p y vy)(hq:iS r 3 p<=q)(hi:iB r 3 p<=4398046511104)(hp:q<=9000000000)(hr:r<=4398046511104):
 C0 311 [.d (dN x),.d (dN y)] λv=>(vy=zero K/\v=.tup (.pr (.d R9.n0) (.d (.int .i64 6))))\/∃w,Tow.mul K G w vy=rat K 1/\R9.OpR G S (oW q) (Tow.mul K G vx w) v:=by
 have hy3:=hy.le (Xad W.g) W.s
 obtain⟨ρ,h1,h2⟩:=hy.ex
 have hle:=Yjf (r:=r) (p:=p) hy3
 have hls:=Ye3 (r:=r) (p:=p) hy3
 refine En Tryz.func311 λ_ _ _=>?_
 by_cases h0:y.a=zero y.k
 . refine Ce rfl (Xyu hy.r hy.p (by omega) (by omega) (by omega) (inv_zero h0)) ?_
   refine Yes rfl (by decide) ?_
   exact Rt rfl (.tup (.cons R9.fit0 Xa2)) (.inl ⟨by rw[<-h2,h0,Xed],rfl⟩)
 . obtain⟨i,hi1⟩:=(Xc3 h1.r).2 y.a h0
   refine Ce rfl (Xoc hy.r hy.p (by omega) (by omega) (by omega) hi1) ?_
   refine No rfl (by decide) ?_
   have hz:NOk G S r q ⟨y.k,y.t,i⟩ (ev G ρ y.k i):=⟨⟨ρ,h1,rfl⟩,hy.r,(Sz.invS hy.r hy.p hi1).mono (by omega)⟩
   refine Ca rfl (Mul_ok (y:=⟨y.k,y.t,i⟩) W hx hz hp) λv hv=>?_
   obtain⟨z,rfl,h⟩:=hv
   exact Rt rfl (.tup (.cons (.rf rfl) Xa2)) (.inr ⟨ev G ρ y.k i,by rw[<-h2,<-Xbd h1.h,Xch hi1,Xdv],z,rfl,h⟩)
end
end
end Go.Proofs.YtegepebhkhhhoaaGreatDoor.P9
namespace Go.Tow
open Go Go.Num Go.Proofs.YtegepebhkhhhoaaGreatDoor
variable{K:Nat}{G:Tw K}{S:List (El K)}{N:List Nm}{n m:Nat}{x y z:Nm}{v w:El K}{r p:Nat}
structure Wn (G:Tw K) (S:List (El K)) (N:List Nm):Prop where
 w:Wy G S wR
 h:∀z∈N,∃ρz,TOk G S z.k z.t ρz
def gB(n:Nat): Nat:=n*20000000-107430
structure Gd (G:Tw K) (S:List (El K)) (N:List Nm) (n:Nat) (x:Nm) (v:El K):Prop where
 o:NOk G S wR (gB n) x v
 g:Gs G S N (gB n) v
 n:1<=n
theorem Xwl(h:n<=m): gB n<=gB m:=by unfold gB;omega
theorem Gd.mono(h:Gd G S N n x v)(hm:n<=m): Gd G S N m x v:=⟨h.o.mono (W0b _) (Xwl hm),h.g.mono (Xwl hm),W0k h.n hm⟩
theorem Gd.neg(h:Gd G S N n x v): Gd G S N n ⟨x.k,x.t,Tow.neg x.k x.a⟩ (Tow.neg K v):=⟨h.o.neg,h.g.neg,h.n⟩
theorem Gd.short(W:Wn G S N)(hz:NOk G S 300 600 z v)(hN:z∈N): Gd G S N 1 z v:=by
 have h:=(Gs.short W.w hz hN).mono (show _<=gB 1 by decide +kernel)
 exact⟨hz.re W.w W.h h,h,W0b _⟩
theorem Gd.add(W:Wn G S N)(hx:Gd G S N n x v)(hy:Gd G S N m y w)(hz:NOk G S r p z (Tow.add K v w)): Gd G S N (n+m) z (Tow.add K v w):=by
 have h:=(hx.g.add hy.g).mono (show _<=gB (n+m) by have:=hx.n;have:=hy.n;unfold gB;omega)
 exact⟨hz.re W.w W.h h,h,W0k hx.n (W5n ..)⟩
theorem Gd.mul(W:Wn G S N)(hx:Gd G S N n x v)(hy:Gd G S N m y w)(hz:NOk G S r p z (Tow.mul K G v w)): Gd G S N (n+m) z (Tow.mul K G v w):=by
 have h:=(hx.g.mul W.w hy.g).mono (show _<=gB (n+m) by rw[wC];have:=hx.n;have:=hy.n;unfold gB;omega)
 exact⟨hz.re W.w W.h h,h,W0k hx.n (W5n ..)⟩
theorem wS{p:Nat}: iS wR 3 p=15*p+966862:=by
 show p+(nS wR 2 p+(nS wR 1 (nS wR 2 p)+(nS wR 0 (nS wR 1 (nS wR 2 p))+1)+cB wR 0)+cB wR 1)+cB wR 2=_
 unfold nS
 rw[show cB wR 0=0 from rfl,show cB wR 1=15347 by decide +kernel,show cB wR 2=46041 by decide +kernel,Xhw]
 omega
theorem Gd.inv(W:Wn G S N)(hy:Gd G S N m y w)(hv:Tow.mul K G v w=Tow.rat K 1): Gs G S N (gB (15*m+1)) v:=(hy.g.inv W.w hv).mono (by rw[wS];have:=hy.n;unfold gB;omega)
theorem Gd.div(W:Wn G S N){u:El K}(hx:Gd G S N n x v)(hy:Gd G S N m y w)(hv:Tow.mul K G u w=Tow.rat K 1)(hz:NOk G S r p z (Tow.mul K G v u)): Gd G S N (n+(15*m+1)) z (Tow.mul K G v u):=by
 have h:=(hx.g.mul W.w (hy.inv W hv)).mono (show _<=gB (n+(15*m+1)) by rw[wC];have:=hx.n;unfold gB;omega)
 exact⟨hz.re W.w W.h h,h,W0k hx.n (W5n ..)⟩
theorem Gd.rat(W:Wn G S N){q:Rat}(h:Qs 64 q): Gd G S N 1 ⟨0,(),q⟩ (Tow.rat K q):=by
 have h0:NOk G S 0 65 ⟨0,(),q⟩ (Tow.rat K q):=⟨⟨λ_=>zero _,⟨trivial,trivial,λi hi=>absurd hi (W4d _)⟩,rfl⟩,trivial,Sz.rat 0 h⟩
 have hg:Gs G S N (gB 1) (Tow.rat K q):=(Gs.rat h).mono (by decide)
 exact⟨h0.re W.w W.h hg,hg,W0b _⟩
theorem Gd.le(W:Wn G S N)(h:Gd G S N n x v): x.k<=3:=h.o.le (Xad W.w.g) W.w.s
theorem Gd.op(h:Gd G S N n x v)(hn:n<=400): NOk G S wR 7999892570 x v:=h.o.mono (W0b _) (by unfold gB;omega)
theorem Gd.op1(h:Gd G S N n x v)(hn:n<=190): NOk G S wR 3799892570 x v:=h.o.mono (W0b _) (by unfold gB;omega)
theorem Yg1(W:Wn G S N)(h:Gd G S N n x v)(hn:n<=800): vB wR x.k (gB n)<=4398046511104:=W0k (W0k (Xg0 (h.le W)) (Xcv (show gB n<=oW 4000000000 by unfold gB oW;omega))) wV
theorem Yg0(W:Wn G S N)(h:Gd G S N n x v): vB wR x.k wR<=4398046511104:=W0k (Xg0 (h.le W)) wQ.2.2.2
end Go.Tow
namespace Go.Proofs.YtegepebhkhhhoaaGreatDoor
open Go Go.Vm Go.Num Go.Tow
section
variable{K:Nat}{G:Tw K}{S:List (Tow.El K)}{N:List Nm}{n m:Nat}{x y z:Nm}{v w:Tow.El K}
def OpG(G:Tw K)(S:List (Tow.El K))(N:List Nm)(n:Nat)(w:Tow.El K)(r:AV): Prop:=∃z:Nm,r=.tup (.pr (.d (dN z)) (.d (.int .i64 0)))/\Gd G S N n z w
def OnG(G:Tw K)(S:List (Tow.El K))(N:List Nm)(n:Nat)(w:Tow.El K)(r:AV): Prop:=∃z:Nm,r=.d (dN z)/\Gd G S N n z w
theorem P9.Add_g(W:Wn G S N)(hx:Gd G S N n x v)(hy:Gd G S N m y w)(hn:n<=400)(hm:m<=400): C0 50 [.d (dN x),.d (dN y)] (OpG G S N (n+m) (Tow.add K v w)):=(P9.Add_ok W.w (hx.op hn) (hy.op hm) (by decide)).mono λ_ ⟨z,e,h⟩=>⟨z,e,hx.add W hy h⟩
theorem R9.Add_g(W:Wn G S N)(hx:Gd G S N n x v)(hy:Gd G S N m y w)(hn:n<=400)(hm:m<=400): C0 70 [.d (dN x),.d (dN y)] (OpG G S N (n+m) (Tow.add K v w)):=(R9.Add_ok W.w (hx.op hn) (hy.op hm) (by decide)).mono λ_ ⟨z,e,h⟩=>⟨z,e,hx.add W hy h⟩
theorem P9.Mul_g(W:Wn G S N)(hx:Gd G S N n x v)(hy:Gd G S N m y w)(hn:n<=400)(hm:m<=400): C0 33 [.d (dN x),.d (dN y)] (OpG G S N (n+m) (Tow.mul K G v w)):=(P9.Mul_ok W.w (hx.op hn) (hy.op hm) (by decide)).mono λ_ ⟨z,e,h⟩=>⟨z,e,hx.mul W hy h⟩
theorem R9.Mul_g(W:Wn G S N)(hx:Gd G S N n x v)(hy:Gd G S N m y w)(hn:n<=400)(hm:m<=400): C0 37 [.d (dN x),.d (dN y)] (OpG G S N (n+m) (Tow.mul K G v w)):=(R9.Mul_ok W.w (hx.op hn) (hy.op hm) (by decide)).mono λ_ ⟨z,e,h⟩=>⟨z,e,hx.mul W hy h⟩
theorem R9.Sub_g(W:Wn G S N)(hx:Gd G S N n x v)(hy:Gd G S N m y w)(hn:n<=400)(hm:m<=400): C0 116 [.d (dN x),.d (dN y)] (OpG G S N (n+m) (Tow.add K v (Tow.neg K w))):=(R9.Sub_ok W.w (hx.op hn) (hy.op hm) (by decide)).mono λ_ ⟨z,e,h⟩=>⟨z,e,hx.add W hy.neg h⟩
theorem P9.Neg_g(W:Wn G S N)(hx:Gd G S N n x v)(hn:n<=400): C0 29 [.d (dN x)] (OnG G S N n (Tow.neg K v)):=(P9.Neg_ok hx.o (by have:=hx.le W;omega) (by decide) (by unfold gB;omega)).mono λ_ e=>⟨_,e,hx.neg⟩
theorem R9.Neg_g(W:Wn G S N)(hx:Gd G S N n x v)(hn:n<=400): C0 31 [.d (dN x)] (OnG G S N n (Tow.neg K v)):=(R9.Neg_ok hx.o (by have:=hx.le W;omega) (by unfold gB;omega)).mono λ_ e=>⟨_,e,hx.neg⟩
theorem P9.Sign_g(W:Wn G S N)(hx:Gd G S N n x v)(hn:n<=800): C0 92 [.d (dN x)] (·=.d (.int .i64 (sgn K G v))):=P9.Sign_ok W.w.g hx.o (by have:=hx.le W;omega) (Yg1 W hx hn) (Yg0 W hx)
theorem R9.Sign_g(W:Wn G S N)(hx:Gd G S N n x v)(hn:n<=800): C0 24 [.d (dN x)] (·=.d (.int .i64 (sgn K G v))):=R9.Sign_ok W.w.g hx.o (by have:=hx.le W;omega) (Yg1 W hx hn)
theorem P9.Cmp_g(W:Wn G S N)(hx:Gd G S N n x v)(hy:Gd G S N m y w)(hn:n<=190)(hm:m<=190): C0 154 [.d (dN x),.d (dN y)] (·=.tup (.pr (.d (.int .i64 (sgn K G (Tow.add K v (Tow.neg K w))))) (.d (.int .i64 0)))):=P9.Cmp_ok W.w (hx.op1 hn) (hy.op1 hm) (by decide)
def DvG(G:Tw K)(S:List (Tow.El K))(N:List Nm)(n:Nat)(v w:Tow.El K)(r:AV): Prop:=(w=zero K/\r=.tup (.pr (.d R9.n0) (.d (.int .i64 6))))\/∃u,Tow.mul K G u w=rat K 1/\OpG G S N n (Tow.mul K G v u) r
theorem P9.Div_g(W:Wn G S N)(hx:Gd G S N n x v)(hy:Gd G S N m y w)(hn:n<=190)(hm:m<=12): C0 311 [.d (dN x),.d (dN y)] (DvG G S N (n+(15*m+1)) v w):=by
 have hi:iB wR 3 (gB m)<=4398046511104:=W0k (Xja (W0b _) (show gB m<=4000000000 by unfold gB;omega)) wB
 have hq:iS wR 3 (gB m)<=3799892570:=by rw[wS];unfold gB;omega
 refine(P9.Div_ok W.w (hx.op1 hn) hy.o hq hi (by decide) (by decide)).mono λr hr=>?_
 rcases hr with h | ⟨u,h1,z,e,h2⟩
 . exact .inl h
 . exact .inr ⟨u,h1,z,e,hx.div W hy h1 h2⟩
end
end Go.Proofs.YtegepebhkhhhoaaGreatDoor
namespace Go.Tow
open Go
abbrev V2(K:Nat):=El K×El K
section
variable{K:Nat}{G:Tw K}{p q:V2 K}
def Xgu(G:Tw K)(p q:V2 K): El K:=add K (mul K G p.1 q.1) (mul K G p.2 q.2)
def Xaw(G:Tw K)(p q:V2 K): El K:=Xgu G (neg K p.2,p.1) q
def Xav(G:Tw K)(p q:V2 K): V2 K:=(add K (mul K G p.1 q.1) (neg K (mul K G p.2 q.2)),add K (mul K G p.1 q.2) (mul K G p.2 q.1))
def Xbn(p:V2 K): V2 K:=(p.1,neg K p.2)
def vz(K:Nat): V2 K:=(zero K,zero K)
def vup(G:Tw K)(p:V2 K): Prop:=0<sgn K G p.2\/(sgn K G p.2=0/\0<sgn K G p.1)
instance:Decidable (vup G p):=by unfold vup;infer_instance
def Xbc(G:Tw K)(p:V2 K): Prop:=sgn K G p.2=0/\0<sgn K G p.1
instance:Decidable (Xbc G p):=by unfold Xbc;infer_instance
def Xpw(G:Tw K)(p q:V2 K): Int:=if vup G p↔vup G q then-sgn K G (Xaw G p q) else if vup G p then -1 else 1
theorem Ybc: Xgu G (Xbn p) q=(Xav G p q).1:=by
 have L:=Xay K G
 show add K (mul K G p.1 q.1) (mul K G (neg K p.2) q.2)=add K (mul K G p.1 q.1) (neg K (mul K G p.2 q.2))
 rw[L.nm]
theorem Ybb: Xaw G (Xbn p) q=(Xav G p q).2:=by
 have L:=Xay K G
 show add K (mul K G (neg K (neg K p.2)) q.1) (mul K G p.1 q.2)=add K (mul K G p.1 q.2) (mul K G p.2 q.1)
 rw[L.nn,L.ac]
theorem Xhk(hG:red K G): p=vz K↔sgn K G p.1=0/\sgn K G p.2=0:=by
 rw[Xa9 hG,Xa9 hG]
 exact⟨λh=>by rw[h];exact⟨rfl,rfl⟩,λh=>W2y h.1 h.2⟩
theorem vsq(hG:red K G)(h:sgn K G (Xgu G p p)=0): p=vz K:=by
 have Sg:=Xap (Xad hG)
 have h1:=Xdo (Sg.tri p.1)
 have h2:=Xdo (Sg.tri p.2)
 rw[Xhk hG]
 have e1:=Sg.sm p.1 p.1
 have e2:=Sg.sm p.2 p.2
 have L:=Xay K G
 by_cases a1:sgn K G p.1=0
 . refine⟨a1,W0s λa2=>?_⟩
   have:=Sg.sp (mul K G p.2 p.2) (mul K G p.1 p.1) (by rw[e2];exact h2.2.1 a2) (by rw[e1];exact h1.1)
   rw[L.ac] at this
   rw[show add K (mul K G p.1 p.1) (mul K G p.2 p.2)=Xgu G p p from rfl,h] at this
   cases this
 . have:=Sg.sp (mul K G p.1 p.1) (mul K G p.2 p.2) (by rw[e1];exact h1.2.1 a1) (by rw[e2];exact h2.1)
   rw[show add K (mul K G p.1 p.1) (mul K G p.2 p.2)=Xgu G p p from rfl,h] at this
   cases this
theorem Ydf: Xgu G (Xav G p q) (Xav G p q)=mul K G (Xgu G p p) (Xgu G q q):=by
 obtain⟨a,b⟩:=p
 obtain⟨c,d⟩:=q
 have L:=Xay K G
 exact(Laws.req L [a,b,c,d] (.add (.mul (.add (.mul (.v 0) (.v 2)) (.neg (.mul (.v 1) (.v 3)))) (.add (.mul (.v 0) (.v 2)) (.neg (.mul (.v 1) (.v 3))))) (.mul (.add (.mul (.v 0) (.v 3)) (.mul (.v 1) (.v 2))) (.add (.mul (.v 0) (.v 3)) (.mul (.v 1) (.v 2))))) (.mul (.add (.mul (.v 0) (.v 0)) (.mul (.v 1) (.v 1))) (.add (.mul (.v 2) (.v 2)) (.mul (.v 3) (.v 3)))) (by decide +kernel))
theorem Xbx(hG:red K G)(hp:p≠vz K)(hq:q≠vz K): Xav G p q≠vz K:=λh=>by
 have Sg:=Xap (Xad hG)
 have L:=Xay K G
 have h0:sgn K G (Xgu G (Xav G p q) (Xav G p q))=0:=by
  rw[h]
  show sgn K G (add K (mul K G (zero K) (zero K)) (mul K G (zero K) (zero K)))=0
  rw[L.mz,L.az,Xa9 hG]
 rw[Ydf,Sg.sm] at h0
 rcases W7q.1 h0 with h | h
 . exact hp (vsq hG h)
 . exact hq (vsq hG h)
theorem Xtk(hG:red K G): Xpw G p p=0:=by
 obtain⟨a,b⟩:=p
 have L:=Xay K G
 unfold Xpw
 rw[if_pos W3p,show Xaw G (a,b) (a,b)=zero K from(Laws.req L [a,b] (.add (.mul (.neg (.v 1)) (.v 0)) (.mul (.v 0) (.v 1))) .z (by decide +kernel)),(Xap (Xad hG)).s0 L]
 rfl
def Xdb(G:Tw K)(p q:V2 K)(f g:Int): Int:=if Xpw G (Xav G p q) p<0 then f+g+1 else f+g
end
end Go.Tow
namespace Go.Proofs.YtegepebhkhhhoaaGreatDoor
open Go Go.Vm Go.Num Go.Tow
section
structure Vn where
 x:Nm
 y:Nm
abbrev dV(v:Vn): D:=.st (.pr (dN v.x) (dN v.y))
abbrev dVs(l:List Vn): D:=.sl 4 (l.map dV)
abbrev n00: Nm:=⟨0,(),((0:Int):Rat)⟩
abbrev n01: Nm:=⟨0,(),((1:Int):Rat)⟩
structure Gv {K:Nat} (G:Tw K) (S:List (Tow.El K)) (N:List Nm) (n:Nat) (v:Vn) (p:V2 K):Prop where
 x:Gd G S N n v.x p.1
 y:Gd G S N n v.y p.2
structure Ww {K:Nat} (G:Tw K) (S:List (Tow.El K)) (N:List Nm):Prop where
 w:Wn G S N
 n:∀z∈N,∃v,NOk G S 300 600 z v
 t:∀z∈N,Tm z
def IsB(r:AV): Prop:=∃c:Bool,r=.b c
section
variable{K:Nat}{G:Tw K}{S:List (Tow.El K)}{N:List Nm}{n m:Nat}{x y z:Nm}{a b v w:Tow.El K}{u s:Vn}{p q:V2 K}
theorem Gv.mono(h:Gv G S N n u p)(hm:n<=m): Gv G S N m u p:=⟨h.x.mono hm,h.y.mono hm⟩
theorem Ww.gd(W:Ww G S N)(h:z∈N): ∃v,Gd G S N 1 z v:=let ⟨v,hv⟩:=W.n z h;⟨v,.short W.w hv h⟩
def VeG(G:Tw K)(S:List (Tow.El K))(N:List Nm)(n:Nat)(p:V2 K)(r:AV): Prop:=∃v:Vn,r=.d (dV v)/\Gv G S N n v p
def VoG(G:Tw K)(S:List (Tow.El K))(N:List Nm)(n:Nat)(p:V2 K)(r:AV): Prop:=∃v:Vn,r=.tup (.pr (.d (dV v)) (.d (.int .i64 0)))/\Gv G S N n v p
theorem R9.Cmp_g(W:Wn G S N)(hx:Gd G S N n x v)(hy:Gd G S N m y w)(hn:n<=190)(hm:m<=190): C0 60 [.d (dN x),.d (dN y)] (·=.tup (.pr (.d (.int .i64 (sgn K G (Tow.add K v (Tow.neg K w))))) (.d (.int .i64 0)))):=by
 refine En Tryz.func60 λ_ _ _=>?_
 refine Ca rfl (R9.Sub_g W hx hy (by omega) (by omega)) λv hv=>?_
 obtain⟨z,rfl,hz⟩:=hv
 refine No rfl (by simp) ?_
 refine Ce rfl (R9.Sign_g W hz (by omega)) ?_
 exact RTt rfl (.cons (.rf rfl) Xa2)
theorem R9.Equal_g(W:Wn G S N)(hx:Gd G S N n x v)(hy:Gd G S N m y w)(hn:n<=190)(hm:m<=190): C0 19 [.d (dN x),.d (dN y)] (·=.b (dc (v=w))):=by
 refine En Tryz.func19 λ_ _ _=>?_
 refine Ce rfl (R9.Cmp_g W hx hy hn hm) ?_
 refine Yes rfl (by simp) ?_
 have e:sgn K G (Tow.add K v (Tow.neg K w))=0↔v=w:=by
  rw[Xa9 W.w.g]
  exact⟨λh=>(Xay K G).sub0 h,λh=>(Xay K G).sb h⟩
 exact R1 rfl (.bp (Xaj.trans e))
theorem R9.Valid_g(W:Wn G S N)(hx:Gd G S N n x v)(hn:n<=800): C0 72 [.d (dN x)] (·=.b true):=by
 have hk:=hx.le W
 obtain⟨ρ,h1,h2⟩:=hx.o.ex
 have hT:=W.w.t h1
 have q2:=W0k (Xop (r:=wR) (p:=wR) hk) wQ.2.1
 refine En Tryz.func72 λ_ _ _=>?_
 refine Yes rfl (by rw[lt',Xaa];omega) ?_
 refine Ce rfl (R6.Formed_ok (TS.pt hT) (by decide) hx.o.p.ps (by unfold gB;omega) (by rw[Xaa];omega) (by rw[Xab,Xaa])) ?_
 refine Yes rfl rfl ?_
 refine Ce rfl (R8.Reduced_ok hT h1.r (by omega) q2 (Yg0 W hx)) ?_
 exact R0
theorem R9.Light_ok{x:Nm}(hk:x.k<=16): C0 203 [.d (dN x)] IsB:=by
 obtain⟨k,t,a⟩:=x
 have hk:k<=16:=hk
 have hp:=p16 hk
 have hcl:=Xab k a
 have hTl:=Xaa k t
 refine En Tryz.func203 λ_ _ _=>?_
 refine Lo (λi:Nat=>[(1,.ptr 1 0),(3,.d (.int .i64 i))]) (λ_=>[(1,.var (.d (dN ⟨k,t,a⟩)))]) (λi=>i<=2^k) (λi=>2^k-i) 0 [] rfl (W0w _) λi hi=>?_
 refine By rfl (λh=>?_) λh=>?_
 . have h:(i:Int)<(((toL k a).map dq).length:Nat):=h
   rw[lq,hcl] at h
   obtain⟨x,hx⟩:=qat (l:=toL k a) (k:=i) (by omega)
   refine Ix i rfl (mp hx) ?_
   refine By rfl (λh1=>?_) λh1=>?_
   . exact Rt rfl (.one (.rf rfl) rfl rfl) ⟨_,rfl⟩
   . refine Ix i rfl (mp hx) ?_
     refine By rfl (λh2=>?_) λh2=>?_
     . exact Rt rfl (.one (.rf rfl) rfl rfl) ⟨_,rfl⟩
     . refine Ar (i+1:Nat) rfl ?_
       exact Bk (i+1) [] rfl (show i+1<=2^k by omega) (by show 2^k-(i+1)<2^k-i;omega)
 refine Lo (λi:Nat=>[(1,.ptr 1 0),(4,.d (.int .i64 i))]) (λ_=>[(1,.var (.d (dN ⟨k,t,a⟩)))]) (λi=>i<=k) (λi=>k-i) 0 [] rfl (W0w _) λi hi=>?_
 refine By rfl (λh=>?_) λh=>?_
 . have h:(i:Int)<(((toT k t).map dqs).length:Nat):=h
   rw[lt',hTl] at h
   obtain⟨l,hl⟩:∃l,(toT k t)[i]?=some l:=⟨_,W0c (by omega)⟩
   obtain⟨e,e1,_,_⟩:=Tw.at (t:=t) (show i<k by omega)
   obtain rfl:l=toL i e:=by rw[hl] at e1;injection e1
   have hll:=Xab i e
   have hpi:=p16 (show i<=16 by omega)
   refine Lo (λj:Nat=>[(1,.ptr 1 0),(4,.d (.int .i64 i)),(5,.d (.int .i64 j))]) (λ_=>[(1,.var (.d (dN ⟨k,t,a⟩)))]) (λj=>j<=2^i) (λj=>2^i-j) 0 [] rfl (W0w _) λj hj=>?_
   refine Ix i rfl (mp hl) ?_
   refine By rfl (λh1=>?_) λh1=>?_
   . have h1:(j:Int)<(((toL i e).map dq).length:Nat):=h1
     rw[lq,hll] at h1
     obtain⟨x,hx⟩:=qat (l:=toL i e) (k:=j) (by omega)
     refine Ix i rfl (mp hl) ?_
     refine Ix j rfl (mp hx) ?_
     refine By rfl (λh1=>?_) λh1=>?_
     . exact Rt rfl (.one (.rf rfl) rfl rfl) ⟨_,rfl⟩
     . refine Ix i rfl (mp hl) ?_
       refine Ix j rfl (mp hx) ?_
       refine By rfl (λh2=>?_) λh2=>?_
       . exact Rt rfl (.one (.rf rfl) rfl rfl) ⟨_,rfl⟩
       . refine Ar (j+1:Nat) rfl ?_
         exact Bk (j+1) [] rfl (show j+1<=2^i by omega) (by show 2^i-(j+1)<2^i-j;omega)
   . refine Ar (i+1:Nat) rfl ?_
     exact Bk (i+1) [] rfl (show i+1<=k by omega) (by show k-(i+1)<k-i;omega)
 . exact Rt rfl (.one (.rf rfl) rfl rfl) ⟨_,rfl⟩
theorem R9.All_ok{l:List Nm}(hl:∀z∈l,z.k<=16)(hn:l.length<=1000): C0 119 [.d (dNs l)] IsB:=by
 refine En Tryz.func119 λ_ _ _=>?_
 refine Lo (λi:Nat=>[(0,.d (dNs l)),(3,.d (.int .i64 i))]) (λ_=>[]) (λi=>i<=l.length) (λi=>l.length-i) 0 [] rfl (W0w _) λi hi=>?_
 refine By rfl (λh=>?_) λh=>?_<;>simp only[W0j] at h
 . obtain⟨z,hz⟩:∃z,l[i]?=some z:=⟨_,W0c (by omega)⟩
   refine Ix i rfl (mp hz) ?_
   refine Ca rfl (R9.Light_ok (hl z (W0h hz))) λv hv=>?_
   obtain⟨c,rfl⟩:=hv
   refine By rfl (λh2=>?_) λh2=>?_
   . exact Rt rfl (.one (.rf rfl) rfl rfl) ⟨_,rfl⟩
   . refine Ar (i+1:Nat) rfl ?_
     exact Bk (i+1) [] rfl (show i+1<=l.length by omega) (by show l.length-(i+1)<l.length-i;omega)
 . exact Rt rfl (.one (.rf rfl) rfl rfl) ⟨_,rfl⟩
theorem R9.At_ok{l:List Nm}{i:Nat}(hi:i<256)(hn:l.length<=1000): C0 120 [.d (dNs l),.d (.int .i64 i)] λv=>∃z∈n00::l,v=.d (dN z):=by
 refine En Tryz.func120 λ_ _ _=>?_
 refine By rfl (λh=>?_) λh=>?_<;>simp only[W0j] at h
 . refine Ce rfl (R9.FromInt_ok (z:=0) (by decide)) ?_
   exact Rt rfl (.one (.rf rfl) rfl rfl) ⟨_,W1a ..,rfl⟩
 . refine No rfl (by omega) ?_
   obtain⟨z,hz⟩:∃z,l[i%l.length]?=some z:=⟨_,W0c (W1x _ (by omega))⟩
   refine Ar (i%l.length:Nat) rfl ?_ (by rw[W0j];exact R9.remN (by omega))
   refine Ix (i%l.length) rfl (mp hz) ?_
   exact Rt rfl (.one (.rf rfl) rfl rfl) ⟨z,W1c _ (W0h hz),rfl⟩
end
end
section
section
variable{K:Nat}{G:Tw K}{S:List (Tow.El K)}{N:List Nm}{n m:Nat}{x y z:Nm}{a b:Tow.El K}{u s:Vn}{p q:V2 K}
theorem R13.Left_g(W:Wn G S N)(hu:Gv G S N n u p)(hn:n<=400): C0 149 [.d (dV u)] (VeG G S N n (neg K p.2,p.1)):=by
 refine En Tryz.func149 λ_ _ _=>?_
 refine Dw rfl ?_
 refine Ca rfl (R9.Neg_g W hu.y hn) λv hv=>?_
 obtain⟨z,rfl,hz⟩:=hv
 exact Rt rfl (.one (.rf rfl) rfl rfl) ⟨⟨z,u.x⟩,rfl,hz,hu.x⟩
theorem R13.Dot_g(W:Wn G S N)(hu:Gv G S N n u p)(hs:Gv G S N m s q)(hn:n<=400)(hm:m<=400)(h2:n+m<=400): C0 89 [.d (dV u),.d (dV s)] (OpG G S N (n+m+(n+m)) (Xgu G p q)):=by
 refine En Tryz.func89 λ_ _ _=>?_
 refine Ca rfl (R9.Mul_g W hu.x hs.x hn hm) λv hv=>?_
 obtain⟨z,rfl,hz⟩:=hv
 refine Ca rfl (R9.Mul_g W hu.y hs.y hn hm) λv hv=>?_
 obtain⟨w,rfl,hw⟩:=hv
 refine No rfl (by simp) ?_
 refine No rfl (by simp) ?_
 refine Ca rfl (R9.Add_g W hz hw h2 h2) λv hv=>?_
 obtain⟨r,rfl,hr⟩:=hv
 exact Rt rfl (.tup (.cons (.rf rfl) Xa2)) ⟨r,rfl,hr⟩
theorem R13.Cross_g(W:Wn G S N)(hu:Gv G S N n u p)(hs:Gv G S N m s q)(hn:n<=400)(hm:m<=400)(h2:n+m<=400): C0 90 [.d (dV u),.d (dV s)] (OpG G S N (n+m+(n+m)) (Xaw G p q)):=by
 refine En Tryz.func90 λ_ _ _=>?_
 refine Dw rfl ?_
 refine Ca rfl (R13.Left_g W hu hn) λv hv=>?_
 obtain⟨r,rfl,hr⟩:=hv
 refine Ca rfl (R13.Dot_g W hr hs hn hm h2) λv hv=>?_
 obtain⟨z,rfl,hz⟩:=hv
 exact Rt rfl (.tup (.cons (.rf rfl) Xa2)) ⟨z,rfl,hz⟩
theorem R13.Zero_g(W:Wn G S N)(hu:Gv G S N n u p)(hn:n<=800): C0 40 [.d (dV u)] (·=.b (dc (p=vz K))):=by
 refine En Tryz.func40 λ_ _ _=>?_
 refine Ce rfl (R9.Sign_g W hu.x hn) ?_
 refine By rfl (λh=>?_) λh=>?_
 . refine Ce rfl (R9.Sign_g W hu.y hn) ?_
   exact R1 rfl (.bp (Xaj.trans ⟨λh2=>(Xhk W.w.g).2 ⟨h,h2⟩,λh2=>((Xhk W.w.g).1 h2).2⟩))
 . exact R1 rfl (.bp ⟨nofun,λh2=>absurd ((Xhk W.w.g).1 h2).1 h⟩)
theorem R13.Valid_g(W:Wn G S N)(hu:Gv G S N n u p)(hn:n<=800): C0 61 [.d (dV u)] (·=.b true):=by
 refine En Tryz.func61 λ_ _ _=>?_
 refine Ce rfl (R9.Valid_g W hu.x hn) ?_
 refine Yes rfl rfl ?_
 refine Ce rfl (R9.Valid_g W hu.y hn) ?_
 exact R0
theorem R13.Make_ok{i j:Rat}: C0 44 [.d (dq i),.d (dq j)] (·=.d (dV ⟨⟨0,(),i⟩,⟨0,(),j⟩⟩)):=by
 refine En Tryz.func44 λ_ _ _=>?_
 refine Dw rfl ?_
 refine Ce rfl R9.FromRat_ok ?_
 refine Ce rfl R9.FromRat_ok ?_
 exact R0
theorem R13.Whole_ok{i j:Int}(hi:-9223372036854775808<=i/\i<9223372036854775808)(hj:-9223372036854775808<=j/\j<9223372036854775808): C0 13 [.d (.int .i64 i),.d (.int .i64 j)] (·=.d (dV ⟨⟨0,(),(i:Rat)⟩,⟨0,(),(j:Rat)⟩⟩)):=by
 refine En Tryz.func13 λ_ _ _=>?_
 refine Ce rfl (R2.FromInt_ok hi) ?_
 refine Ce rfl (R2.FromInt_ok hj) ?_
 refine Ce rfl R13.Make_ok ?_
 exact R0
abbrev cal: Ob:=.var (.d (.st (.int .i64 0)))
theorem R15.note_ok: CN0 147 [.ptr 1000001 0,.d (.int .i64 0)] [(1000001,cal)] (λ_=>True):=by
 refine EnW Tryz.func147 λ_ _ _ _=>?_
 refine Yes rfl (by decide) ?_
 exact Rw [] [(1000001,cal)] rfl (.tup (.one (.rf rfl) (λ_ _ e=>by cases e) (λ_ _ e=>by cases e))) ⟨rfl,trivial⟩
theorem R15.num_ok{x:Nm}: CN0 88 [.ptr 1000001 0,.d (dN x),.d (.int .i64 0)] [(1000001,cal)] (·=.d (dN x)):=by
 refine EnW Tryz.func88 λ_ _ _ _=>?_
 refine Cn [] rfl R15.note_ok λv hv=>?_
 refine No rfl (by decide) ?_
 exact Rw [] [(1000001,cal)] rfl (.one (.rf rfl) rfl rfl) ⟨rfl,rfl⟩
theorem R15.Add_g(W:Wn G S N)(hx:Gd G S N n x a)(hy:Gd G S N m y b)(hn:n<=400)(hm:m<=400): CN0 65 [.ptr 1000001 0,.d (dN x),.d (dN y)] [(1000001,cal)] (OnG G S N (n+m) (Tow.add K a b)):=by
 refine EnW Tryz.func65 λ_ _ _ _=>?_
 refine Ca rfl (R9.Add_g W hx hy hn hm) λv hv=>?_
 obtain⟨z,rfl,hz⟩:=hv
 refine Cn [] rfl R15.num_ok λv hv=>?_
 subst hv
 exact Rw [] [(1000001,cal)] rfl (.one (.rf rfl) rfl rfl) ⟨rfl,z,rfl,hz⟩
theorem R15.Sub_g(W:Wn G S N)(hx:Gd G S N n x a)(hy:Gd G S N m y b)(hn:n<=400)(hm:m<=400): CN0 235 [.ptr 1000001 0,.d (dN x),.d (dN y)] [(1000001,cal)] (OnG G S N (n+m) (Tow.add K a (Tow.neg K b))):=by
 refine EnW Tryz.func235 λ_ _ _ _=>?_
 refine Ca rfl (R9.Sub_g W hx hy hn hm) λv hv=>?_
 obtain⟨z,rfl,hz⟩:=hv
 refine Cn [] rfl R15.num_ok λv hv=>?_
 subst hv
 exact Rw [] [(1000001,cal)] rfl (.one (.rf rfl) rfl rfl) ⟨rfl,z,rfl,hz⟩
theorem R15.Mul_g(W:Wn G S N)(hx:Gd G S N n x a)(hy:Gd G S N m y b)(hn:n<=400)(hm:m<=400): CN0 236 [.ptr 1000001 0,.d (dN x),.d (dN y)] [(1000001,cal)] (OnG G S N (n+m) (Tow.mul K G a b)):=by
 refine EnW Tryz.func236 λ_ _ _ _=>?_
 refine Ca rfl (R9.Mul_g W hx hy hn hm) λv hv=>?_
 obtain⟨z,rfl,hz⟩:=hv
 refine Cn [] rfl R15.num_ok λv hv=>?_
 subst hv
 exact Rw [] [(1000001,cal)] rfl (.one (.rf rfl) rfl rfl) ⟨rfl,z,rfl,hz⟩
theorem R15.Cross_g(W:Wn G S N)(hu:Gv G S N n u p)(hs:Gv G S N m s q)(hn:n<=400)(hm:m<=400)(h2:n+m<=400): CN0 43 [.ptr 1000001 0,.d (dV u),.d (dV s)] [(1000001,cal)] (OnG G S N (n+m+(n+m)) (Xaw G p q)):=by
 refine EnW Tryz.func43 λ_ _ _ _=>?_
 refine Ca rfl (R13.Cross_g W hu hs hn hm h2) λv hv=>?_
 obtain⟨z,rfl,hz⟩:=hv
 refine Cn [] rfl R15.num_ok λv hv=>?_
 subst hv
 exact Rw [] [(1000001,cal)] rfl (.one (.rf rfl) rfl rfl) ⟨rfl,z,rfl,hz⟩
end
end
section
abbrev dT(v:Vn)(f:Int): D:=.st (.pr (dV v) (.int .i64 f))
abbrev dT0: D:=.st (.pr (.st (.pr R9.n0 R9.n0)) (.int .i64 0))
theorem Xss{g:Hp}{K:Hpl}: Fit g K (.st (.pr (.st (.pr (.st (.pr .nil .nil)) (.st (.pr .nil .nil)))) (.d (.int .i64 0)))) (.d dT0):=.sd (.pd (.sd (.pd R9.fit0 R9.fit0)) (.rf rfl))
def lim(f:Int): Prop:=-1000000<=f/\f<=1000000
instance {f:Int}:Decidable (lim f):=by unfold lim;infer_instance
def few(f:Int): Prop:=-1000000000<=f/\f<=1000000000
theorem lim.few{f:Int}(h:lim f): few f:=by unfold lim at h;unfold Proofs.YtegepebhkhhhoaaGreatDoor.few;omega
def Yhf{K:Nat}(G:Tw K)(p q:V2 K)(f g:Int): Int:=if f<g then -1 else if f>g then 1 else Xpw G p q
section
variable{K:Nat}{G:Tw K}{S:List (Tow.El K)}{N:List Nm}{n m:Nat}{x y z:Nm}{a b:Tow.El K}{u s:Vn}{p q:V2 K}{f g:Int}
def TuG(G:Tw K)(S:List (Tow.El K))(N:List Nm)(n:Nat)(p:V2 K)(f:Int)(r:AV): Prop:=(lim f/\∃v,r=.tup (.pr (.d (dT v f)) (.d (.int .i64 0)))/\Gv G S N n v p)\/(¬lim f/\r=.tup (.pr (.d dT0) (.d (.int .i64 3))))
theorem R19.Valid_g(W:Wn G S N)(hu:Gv G S N n u p)(hn:n<=800): C0 62 [.d (dT u f)] (·=.b (dc (p≠vz K/\lim f))):=by
 refine En Tryz.func62 λ_ _ _=>?_
 refine Ce rfl (R13.Zero_g W hu hn) ?_
 refine By rfl (λh=>?_) λh=>?_
 . have h:p≠vz K:=by simpa [Xaq,Xaj] using h
   refine By rfl (λh2=>?_) λh2=>?_
   . exact R1 rfl (.bp (Xaj.trans ⟨λh3=>⟨h,h2,h3⟩,λh3=>h3.2.2⟩))
   . exact R1 rfl (.bp ⟨nofun,λh3=>absurd h3.2.1 h2⟩)
 . have h:p=vz K:=by simpa [Xaq,Xaj] using h
   exact R1 rfl (.bp ⟨nofun,λh3=>absurd h h3.1⟩)
theorem R19.half_g(W:Wn G S N)(hu:Gv G S N n u p)(hn:n<=800): C0 196 [.d (dV u)] (·=.d (.int .i64 (if vup G p then 0 else 1))):=by
 refine En Tryz.func196 λ_ _ _=>?_
 refine Ce rfl (R9.Sign_g W hu.y hn) ?_
 refine By rfl (λh=>?_) λh=>?_
 . rw[if_pos (show vup G p from .inl h)];exact R0
 . refine By rfl (λh2=>?_) λh2=>?_
   . refine Ce rfl (R9.Sign_g W hu.x hn) ?_
     refine By rfl (λh3=>?_) λh3=>?_
     . rw[if_pos (show vup G p from .inr ⟨h2,h3⟩)];exact R0
     . rw[if_neg (show ¬vup G p from λe=>e.elim h λe=>h3 e.2)];exact R0
   . rw[if_neg (show ¬vup G p from λe=>e.elim h λe=>h2 e.1)];exact R0
theorem R19.order_g(W:Wn G S N)(hu:Gv G S N n u p)(hs:Gv G S N m s q)(hn:n<=400)(hm:m<=400)(h2:n+m<=400): CN0 117 [.ptr 1000001 0,.d (dV u),.d (dV s)] [(1000001,cal)] (·=.d (.int .i64 (Xpw G p q))):=by
 refine EnW Tryz.func117 λ_ _ _ _=>?_
 refine Dw rfl ?_
 refine Ce rfl (R19.half_g W hu (by omega)) ?_
 refine Ce rfl (R19.half_g W hs (by omega)) ?_
 refine By rfl (λh=>?_) λh=>?_
 . refine Dw rfl ?_
   refine Ce rfl (R19.half_g W hu (by omega)) ?_
   refine Ce rfl (R19.half_g W hs (by omega)) ?_
   refine Ar (Xpw G p q) rfl ?_ (by
    unfold Xpw
    by_cases h1:vup G p<;>by_cases h2:vup G q<;>simp[h1,h2] at h |-<;>rfl)
   exact Rw [] [(1000001,cal)] rfl (.one (.rf rfl) rfl rfl) ⟨rfl,rfl⟩
 . refine Cn [] rfl (R15.Cross_g W hu hs hn hm h2) λv hv=>?_
   obtain⟨z,rfl,hz⟩:=hv
   refine Ce rfl (R9.Sign_g W hz (by omega)) ?_
   have hi:vup G p↔vup G q:=by
    by_cases h1:vup G p<;>by_cases h2:vup G q<;>simp[h1,h2] at h |-
   have ht:=Xcc G (Xaw G p q)
   refine Ne (Xpw G p q) rfl ?_ (by
    unfold Xpw
    rw[if_pos hi]
    exact wr (W7r _) (by simp only[inK];omega))
   exact Rw [] [(1000001,cal)] rfl (.one (.rf rfl) rfl rfl) ⟨rfl,rfl⟩
theorem R19.product_g(W:Wn G S N)(hu:Gv G S N n u p)(hs:Gv G S N m s q)(h2:n+m<=400): CN0 146 [.ptr 1000001 0,.d (dV u),.d (dV s)] [(1000001,cal)] (VeG G S N (n+m+(n+m)) (Xav G p q)):=by
 refine EnW Tryz.func146 λ_ _ _ _=>?_
 refine Dw rfl ?_
 refine Cn [] rfl (R15.Mul_g W hu.x hs.x (by omega) (by omega)) λv hv=>?_
 obtain⟨z1,rfl,h1⟩:=hv
 refine Cn [] rfl (R15.Mul_g W hu.y hs.y (by omega) (by omega)) λv hv=>?_
 obtain⟨z2,rfl,h2'⟩:=hv
 refine Cn [] rfl (R15.Sub_g W h1 h2' h2 h2) λv hv=>?_
 obtain⟨z3,rfl,h3⟩:=hv
 refine Cn [] rfl (R15.Mul_g W hu.x hs.y (by omega) (by omega)) λv hv=>?_
 obtain⟨z4,rfl,h4⟩:=hv
 refine Cn [] rfl (R15.Mul_g W hu.y hs.x (by omega) (by omega)) λv hv=>?_
 obtain⟨z5,rfl,h5⟩:=hv
 refine Cn [] rfl (R15.Add_g W h4 h5 h2 h2) λv hv=>?_
 obtain⟨z6,rfl,h6⟩:=hv
 exact Rw [] [(1000001,cal)] rfl (.one (.rf rfl) rfl rfl) ⟨rfl,⟨z3,z6⟩,rfl,h3,h6⟩
theorem R19.sum_g(W:Wn G S N)(hu:Gv G S N n u p)(hs:Gv G S N m s q)(h2:n+m+(n+m)+n<=400)(hf:few f)(hg:few g): CN0 87 [.ptr 1000001 0,.d (dT u f),.d (dT s g)] [(1000001,cal)] (λr=>∃v,r=.d (dT v (Xdb G p q f g))/\Gv G S N (n+m+(n+m)) v (Xav G p q)):=by
 unfold few at hf hg
 refine EnW Tryz.func87 λ_ _ _ _=>?_
 refine Cn [] rfl (R19.product_g W hu hs (by omega)) λv hv=>?_
 obtain⟨d,rfl,hd⟩:=hv
 refine Ar (f+g) rfl ?_ (wr rfl (by simp only[inK];omega))
 refine Yes rfl (by decide) ?_
 refine Cn [] rfl (R19.order_g W hd hu (by omega) (by omega) h2) λv hv=>?_
 subst hv
 refine By rfl (λh=>?_) λh=>?_
 . refine Ar (f+g+1) rfl ?_ (wr rfl (by simp only[inK];omega))
   exact Rw [] [(1000001,cal)] rfl (.one (.rf rfl) rfl rfl) ⟨rfl,d,by rw[Xdb,if_pos h],hd⟩
 . exact Rw [] [(1000001,cal)] rfl (.one (.rf rfl) rfl rfl) ⟨rfl,d,by rw[Xdb,if_neg h],hd⟩
theorem R19.result_g(hu:Gv G S N n u p): CN0 41 [.ptr 1000001 0,.d (dT u f)] [(1000001,cal)] (TuG G S N n p f):=by
 refine EnW Tryz.func41 λ_ _ _ _=>?_
 refine No rfl (by decide) ?_
 refine By rfl (λh=>?_) λh=>?_
 . exact Rw [] [(1000001,cal)] rfl (.tup (.cons Xss Xa2)) ⟨rfl,.inr ⟨λh2=>by unfold lim at h2;omega,rfl⟩⟩
 . refine By rfl (λh2=>?_) λh2=>?_
   . exact Rw [] [(1000001,cal)] rfl (.tup (.cons Xss Xa2)) ⟨rfl,.inr ⟨λh2=>by unfold lim at h2;omega,rfl⟩⟩
   . exact Rw [] [(1000001,cal)] rfl (.tup (.cons (.rf rfl) Xa2)) ⟨rfl,.inl ⟨by unfold lim;omega,u,rfl,hu⟩⟩
theorem R19.Add_g(W:Wn G S N)(hu:Gv G S N n u p)(hs:Gv G S N m s q)(h2:n+m+(n+m)+n<=400)(hf:few f)(hg:few g): C0 128 [.d (dT u f),.d (dT s g)] (TuG G S N (n+m+(n+m)) (Xav G p q) (Xdb G p q f g)):=by
 refine En Tryz.func128 λ_ _ _=>?_
 refine Cn [(1000001,8)] rfl (R19.sum_g W hu hs h2 hf hg) λv hv=>?_
 obtain⟨d,rfl,hd⟩:=hv
 refine Cn [(1000001,8)] rfl (R19.result_g hd) λv hv=>?_
 rcases hv with ⟨h1,w,rfl,hw⟩ | ⟨h1,rfl⟩
 . exact Rt rfl (.tup (.cons (.rf rfl) Xa2)) (.inl ⟨h1,w,rfl,hw⟩)
 . exact Rt rfl (.tup (.cons (.rf rfl) Xa2)) (.inr ⟨h1,rfl⟩)
theorem R19.Cmp_g(W:Wn G S N)(hu:Gv G S N n u p)(hs:Gv G S N m s q)(h2:n+m<=400): C0 63 [.d (dT u f),.d (dT s g)] (·=.tup (.pr (.d (.int .i64 (Yhf G p q f g))) (.d (.int .i64 0)))):=by
 refine En Tryz.func63 λ_ _ _=>?_
 unfold Yhf
 refine By rfl (λh=>?_) λh=>?_
 . rw[if_pos h];exact RTt rfl (.cons (.rf rfl) Xa2)
 rw[if_neg h]
 refine By rfl (λh=>?_) λh=>?_
 . rw[if_pos h];exact RTt rfl (.cons (.rf rfl) Xa2)
 rw[if_neg h]
 refine Cn [(1000001,19)] rfl (R19.order_g W hu hs (by omega) (by omega) h2) λv hv=>?_
 subst hv
 refine No rfl (by decide) ?_
 exact RTt rfl (.cons (.rf rfl) Xa2)
def Yg9(G:Tw K)(p q:V2 K)(f g:Int): Prop:=(p≠vz K/\lim f)/\(q≠vz K/\lim g)/\Yhf G p q f g=0
theorem R19.Same_g(W:Wn G S N)(hu:Gv G S N n u p)(hs:Gv G S N m s q)(h2:n+m<=400): C0 20 [.d (dT u f),.d (dT s g)] (·=.b (dc (Yg9 G p q f g))):=by
 refine En Tryz.func20 λ_ _ _=>?_
 refine Ce rfl (R13.Valid_g W hu (by omega)) ?_
 refine No rfl (by simp) ?_
 refine Ce rfl (R13.Valid_g W hs (by omega)) ?_
 refine No rfl (by simp) ?_
 refine Ce rfl (R19.Valid_g W hu (by omega)) ?_
 refine By rfl (λh=>?_) λh=>?_
 . have h:¬(p≠vz K/\lim f):=by simpa [Xaq,Xaj] using h
   exact R1 rfl (.bp ⟨nofun,λe=>absurd e.1 h⟩)
 have h:p≠vz K/\lim f:=by simpa [Xaq,Xaj] using h
 refine Ce rfl (R19.Valid_g W hs (by omega)) ?_
 refine By rfl (λh1=>?_) λh1=>?_
 . have h1:¬(q≠vz K/\lim g):=by simpa [Xaq,Xaj] using h1
   exact R1 rfl (.bp ⟨nofun,λe=>absurd e.2.1 h1⟩)
 have h1:q≠vz K/\lim g:=by simpa [Xaq,Xaj] using h1
 refine Ce rfl (R19.Cmp_g W hu hs h2) ?_
 refine By rfl (λh3=>?_) λh3=>?_
 . exact R1 rfl (.bp ⟨λ_=>⟨h,h1,h3⟩,λ_=>Xaj.2 rfl⟩)
 . exact R1 rfl (.bp ⟨nofun,λe=>absurd e.2.2 h3⟩)
end
end
open Go Go.Vm Go.Num Go.Tow
section
variable{K:Nat}{G:Tw K}{S:List (Tow.El K)}{N:List Nm}{n m:Nat}{x y z:Nm}{a b:Tow.El K}{u s:Vn}{p q:V2 K}{f g:Int}
namespace P13
theorem Yar(W:Wn G S N)(hu:Gv G S N n u p)(hs:Gv G S N m s q)(hn:n<=400)(hm:m<=400): C0 163 [.d (dV u),.d (dV s),.d (fnD 33)] (VoG G S N (n+m) (Tow.mul K G p.1 q.1,Tow.mul K G p.2 q.2)):=by
 refine En Tryz.func163 λ_ _ _=>?_
 refine Ca rfl (P9.Mul_g W hu.x hs.x hn hm) λv hv=>?_
 obtain⟨z,rfl,hz⟩:=hv
 refine No rfl (by simp) ?_
 refine Ca rfl (P9.Mul_g W hu.y hs.y hn hm) λv hv=>?_
 obtain⟨w,rfl,hw⟩:=hv
 refine No rfl (by simp) ?_
 exact Rt rfl (.tup (.cons (.rf rfl) Xa2)) ⟨⟨z,w⟩,rfl,hz,hw⟩
theorem Yai(W:Wn G S N)(hx:Gd G S N n x a)(hn:n<=400): C0 164 [.d (dN x)] (OnG G S N n a):=by
 refine En Tryz.func164 λ_ _ _=>?_
 refine Ca rfl (P9.Neg_g W hx hn) λv hv=>?_
 obtain⟨z,rfl,hz⟩:=hv
 refine Ca rfl (P9.Neg_g W hz hn) λv hv=>?_
 obtain⟨w,rfl,hw⟩:=hv
 rw[(Xay K G).nn] at hw
 exact Rt rfl (.one (.rf rfl) rfl rfl) ⟨w,rfl,hw⟩
theorem Left_g(W:Wn G S N)(hu:Gv G S N n u p)(hn:n<=400): C0 100 [.d (dV u)] (VeG G S N n (neg K p.2,p.1)):=by
 refine En Tryz.func100 λ_ _ _=>?_
 refine Dw rfl ?_
 refine Ca rfl (P9.Neg_g W hu.y hn) λv hv=>?_
 obtain⟨z,rfl,hz⟩:=hv
 refine Ca rfl (Yai W hu.x hn) λv hv=>?_
 obtain⟨w,rfl,hw⟩:=hv
 exact Rt rfl (.one (.rf rfl) rfl rfl) ⟨⟨z,w⟩,rfl,hz,hw⟩
theorem Dot_g(W:Wn G S N)(hu:Gv G S N n u p)(hs:Gv G S N m s q)(hn:n<=400)(hm:m<=400)(h2:n+m<=400): C0 99 [.d (dV u),.d (dV s)] (OpG G S N (n+m+(n+m)) (Xgu G p q)):=by
 refine En Tryz.func99 λ_ _ _=>?_
 refine Ca rfl (Yar W hu hs hn hm) λv hv=>?_
 obtain⟨r,rfl,hr⟩:=hv
 refine No rfl (by simp) ?_
 refine Ca rfl (P9.Add_g W hr.x hr.y h2 h2) λv hv=>?_
 obtain⟨z,rfl,hz⟩:=hv
 exact Rt rfl (.tup (.cons (.rf rfl) Xa2)) ⟨z,rfl,hz⟩
theorem Cross_g(W:Wn G S N)(hu:Gv G S N n u p)(hs:Gv G S N m s q)(hn:n<=400)(hm:m<=400)(h2:n+m<=400): C0 53 [.d (dV u),.d (dV s)] (OpG G S N (n+m+(n+m)) (Xaw G p q)):=by
 refine En Tryz.func53 λ_ _ _=>?_
 refine Dw rfl ?_
 refine Ca rfl (Left_g W hu hn) λv hv=>?_
 obtain⟨r,rfl,hr⟩:=hv
 refine Ca rfl (Dot_g W hr hs hn hm h2) λv hv=>?_
 obtain⟨z,rfl,hz⟩:=hv
 exact Rt rfl (.tup (.cons (.rf rfl) Xa2)) ⟨z,rfl,hz⟩
end P13
namespace P19
theorem Xso(W:Wn G S N)(hu:Gv G S N n u p)(hs:Gv G S N m s q)(h2:n+m<=400): C0 140 [.d (dV u),.d (dV s)] (VoG G S N (n+m+(n+m)) (Xav G p q)):=by
 refine En Tryz.func140 λ_ _ _=>?_
 refine Dw rfl ?_
 refine Ca rfl (P9.Neg_g W hu.y (by omega)) λv hv=>?_
 obtain⟨z,rfl,hz⟩:=hv
 refine Ca rfl (P13.Dot_g (u:=⟨u.x,z⟩) (p:=Xbn p) W ⟨hu.x,hz⟩ hs (by omega) (by omega) h2) λv hv=>?_
 obtain⟨d,rfl,hd⟩:=hv
 rw[Ybc] at hd
 refine No rfl (by simp) ?_
 refine Dw rfl ?_
 refine Ca rfl (P9.Neg_g W hu.y (by omega)) λv hv=>?_
 obtain⟨z',rfl,hz'⟩:=hv
 refine Ca rfl (P13.Cross_g (u:=⟨u.x,z'⟩) (p:=Xbn p) W ⟨hu.x,hz'⟩ hs (by omega) (by omega) h2) λv hv=>?_
 obtain⟨c,rfl,hc⟩:=hv
 rw[Ybb] at hc
 refine No rfl (by simp) ?_
 exact Rt rfl (.tup (.cons (.rf rfl) Xa2)) ⟨⟨d,c⟩,rfl,hd,hc⟩
theorem Xtm(W:Wn G S N)(hu:Gv G S N n u p)(hn:n<=800): C0 226 [.d (dV u)] (·=.b (dc (vup G p))):=by
 refine En Tryz.func226 λ_ _ _=>?_
 refine Ce rfl (P9.Sign_g W hu.y hn) ?_
 refine By rfl (λh=>?_) λh=>?_
 . exact R1 rfl (.bp ⟨λ_=>.inl h,λ_=>rfl⟩)
 . refine By rfl (λh2=>?_) λh2=>?_
   . refine Ce rfl (P9.Sign_g W hu.x hn) ?_
     exact R1 rfl (.bp (Xaj.trans ⟨λh3=>.inr ⟨h2,h3⟩,λh3=>h3.elim (λe=>absurd e h) λe=>e.2⟩))
   . exact R1 rfl (.bp ⟨nofun,λh3=>h3.elim (λe=>absurd e h) λe=>absurd e.1 h2⟩)
theorem Ycs(W:Wn G S N)(hu:Gv G S N n u p)(hn:n<=800): C0 84 [.d (dV u)] (·=.b (dc (Xbc G p))):=by
 refine En Tryz.func84 λ_ _ _=>?_
 refine Ce rfl (P9.Sign_g W hu.y hn) ?_
 refine By rfl (λh=>?_) λh=>?_
 . refine Ce rfl (P9.Sign_g W hu.x hn) ?_
   exact R1 rfl (.bp (Xaj.trans ⟨λh3=>⟨h,h3⟩,λh3=>h3.2⟩))
 . exact R1 rfl (.bp ⟨nofun,λh3=>absurd h3.1 h⟩)
theorem compare_g(W:Wn G S N)(hu:Gv G S N n u p)(hs:Gv G S N m s q)(h2:n+m<=400): C0 141 [.d (dV u),.d (dV s)] (·=.tup (.pr (.d (.int .i64 (Xpw G p q))) (.d (.int .i64 0)))):=by
 refine En Tryz.func141 λ_ _ _=>?_
 refine Dw rfl ?_
 refine Ce rfl (Xtm W hu (by omega)) ?_
 refine Ce rfl (Xtm W hs (by omega)) ?_
 unfold Xpw
 refine By rfl (λh=>?_) λh=>?_
 . refine By rfl (λh1=>?_) λh1=>?_
   . rw[if_neg (by simp[Xaj,h1] at h |-;exact h),if_pos h1]
     exact RTt rfl (.cons (.rf rfl) Xa2)
   . rw[if_neg (by simp[Xaj,h1] at h |-;exact h),if_neg h1]
     exact RTt rfl (.cons (.rf rfl) Xa2)
 . have d1:dc True=true:=Xaj.2 trivial
   have d2:dc False=false:=W6m.2 λh=>Xaj.1 h
   have h:vup G p↔vup G q:=by
    by_cases h1:vup G p<;>by_cases h2:vup G q<;>simp[h1,h2,d1,d2] at h |-
   rw[if_pos h]
   refine Ca rfl (P13.Cross_g W hu hs (by omega) (by omega) h2) λv hv=>?_
   obtain⟨z,rfl,hz⟩:=hv
   refine Ce rfl (P9.Sign_g W hz (by omega)) ?_
   have ht:=Xcc G (Xaw G p q)
   refine Ne (-sgn K G (Xaw G p q)) rfl ?_ (wr (W7r _) (by simp only[inK];omega))
   exact RTt rfl (.cons (.rf rfl) Xa2)
theorem add_g(W:Wn G S N)(hu:Gv G S N n u p)(hs:Gv G S N m s q)(h2:n+m+(n+m)+n<=400)(hf:few f)(hg:few g): C0 82 [.d (dT u f),.d (dT s g)] (λr=>∃v,r=.tup (.pr (.d (dT v (Xdb G p q f g))) (.d (.int .i64 0)))/\Gv G S N (n+m+(n+m)) v (Xav G p q)):=by
 unfold few at hf hg
 refine En Tryz.func82 λ_ _ _=>?_
 refine Ca rfl (Xso W hu hs (by omega)) λv hv=>?_
 obtain⟨d,rfl,hd⟩:=hv
 refine No rfl (by simp) ?_
 refine Ce rfl (compare_g W hd hu h2) ?_
 refine No rfl (by simp) ?_
 refine Ar (f+g) rfl ?_ (wr rfl (by simp only[inK];omega))
 refine By rfl (λh=>?_) λh=>?_
 . refine Ar (f+g+1) rfl ?_ (wr rfl (by simp only[inK];omega))
   exact Rt rfl (.tup (.cons (.rf rfl) Xa2)) ⟨d,by rw[Xdb,if_pos h],hd⟩
 . exact Rt rfl (.tup (.cons (.rf rfl) Xa2)) ⟨d,by rw[Xdb,if_neg h],hd⟩
theorem limited_g(hu:Gv G S N n u p): C0 83 [.d (dT u f),.d (.int .i64 0)] (TuG G S N n p f):=by
 refine En Tryz.func83 λ_ _ _=>?_
 refine Yes rfl (by decide) ?_
 refine By rfl (λh=>?_) λh=>?_
 . refine Yes rfl (by decide) ?_
   exact Rt rfl (.tup (.cons Xss Xa2)) (.inr ⟨λh2=>by unfold lim at h2;omega,rfl⟩)
 . refine By rfl (λh2=>?_) λh2=>?_
   . refine Yes rfl (by decide) ?_
     exact Rt rfl (.tup (.cons Xss Xa2)) (.inr ⟨λh2=>by unfold lim at h2;omega,rfl⟩)
   . refine No rfl (by decide) ?_
     exact Rt rfl (.tup (.cons (.rf rfl) Xa2)) (.inl ⟨by unfold lim;omega,u,rfl,hu⟩)
theorem Add_g(W:Wn G S N)(hu:Gv G S N n u p)(hs:Gv G S N m s q)(h2:n+m+(n+m)+n<=400)(hf:few f)(hg:few g): C0 97 [.d (dT u f),.d (dT s g)] (TuG G S N (n+m+(n+m)) (Xav G p q) (Xdb G p q f g)):=by
 refine En Tryz.func97 λ_ _ _=>?_
 refine Ca rfl (add_g W hu hs h2 hf hg) λv hv=>?_
 obtain⟨d,rfl,hd⟩:=hv
 refine Ca rfl (limited_g hd) λv hv=>?_
 rcases hv with ⟨h1,w,rfl,hw⟩ | ⟨h1,rfl⟩
 . exact Rt rfl (.tup (.cons (.rf rfl) Xa2)) (.inl ⟨h1,w,rfl,hw⟩)
 . exact Rt rfl (.tup (.cons (.rf rfl) Xa2)) (.inr ⟨h1,rfl⟩)
theorem Zero_g(W:Wn G S N)(hu:Gv G S N n u p)(hn:n<=800): C0 36 [.d (dT u f)] (·=.b (dc (f=0/\Xbc G p))):=by
 refine En Tryz.func36 λ_ _ _=>?_
 refine By rfl (λh=>?_) λh=>?_
 . refine Ce rfl (Ycs W hu hn) ?_
   exact R1 rfl (.bp (Xaj.trans ⟨λh2=>⟨h,h2⟩,λh2=>h2.2⟩))
 . exact R1 rfl (.bp ⟨nofun,λh2=>absurd h2.1 h⟩)
def OfG(G:Tw K)(S:List (Tow.El K))(N:List Nm)(n:Nat)(p q:V2 K)(r:AV): Prop:=(¬(p=vz K\/q=vz K)/\∃v,r=.tup (.pr (.d (dT v 0)) (.d (.int .i64 0)))/\Gv G S N n v (Xav G (Xbn p) q))\/((p=vz K\/q=vz K)/\r=.tup (.pr (.d dT0) (.d (.int .i64 6))))
def vopp(G:Tw K)(p:V2 K)(f:Int): Int:=if Xbc G p then -f else -f-1
end P19
end
end Go.Proofs.YtegepebhkhhhoaaGreatDoor
namespace Go.Vm
open Go
section
variable{c:Cx}{s:St}{p:Pl}
end
end Go.Vm
namespace Go.Proofs.YtegepebhkhhhoaaGreatDoor
open Go Go.Vm Go.Num Go.Tow
section
abbrev dAt(l:List (Fin 256)): D:=.sl 1 (l.map λn=>.int .u8 n.val)
abbrev dPl(ops:List RO)(l:List (Fin 256)): D:=.st (.pr (dRs ops) (dAt l))
def InW(P:∀ {K:Nat},Tw K->List (Tow.El K)->List Nm->Prop): Prop:=∃(K:Nat) (G:Tw K) (S:List (Tow.El K)) (N:List Nm),Ww G S N/\P G S N
def PtR(v:AV): Prop:=v=.tup (.pr (.d (dVs [])) (.b false))\/∃l:List Vn,v=.tup (.pr (.d (dVs l)) (.b true))/\l.length<=24/\InW λ_ _ N=>∀x∈l,x.x∈N/\x.y∈N
theorem Xlx{c:Bool}{g:Hp}{K:Hpl}: FitT g K (.b c) (.b c):=.one (.rf rfl) (λ_ _ e=>by cases e) (λ_ _ e=>by cases e)
theorem Xx7{ops:List RO}{at':List (Fin 256)}: C0 64 [.d (dPl ops at')] PtR:=by
 refine En Tryz.func64 λ_ _ _=>?_
 refine Ca rfl R9.Build_ok λv hv=>?_
 obtain⟨l,rfl,hl24,htm,K,G,S,hG,hS,hq,hall,_⟩:=hv
 have hk:∀z∈l,z.k<=16:=λz hz=>by
  obtain⟨v,hv⟩:=hall z hz
  exact W0k (hv.le (Xad hG) hS) (by decide)
 refine Ca rfl (R9.All_ok hk (by omega)) λv hv=>?_
 obtain⟨c,rfl⟩:=hv
 refine By rfl (λh=>?_) λh=>?_
 . exact Rt rfl (.tup (.cons (.nil rfl) Xlx)) (.inl rfl)
 refine By rfl (λh2=>?_) λh2=>?_
 . exact Rt rfl (.tup (.cons (.nil rfl) Xlx)) (.inl rfl)
 have h2:¬((at'.map λn=>(D.int .u8 n.val:D)).length:Int)>24:=h2
 rw[W0j] at h2
 refine Nl 5 5 4 rfl ?_
 refine Lo (λ(s:Nat×List Vn)=>[(1,.ptr 1 0),(4,.d (dNs l)),(5,.gr 5 4 (s.2.map dV)),(6,.d (.int .i64 s.1))]) (λs=>[(1,.var (.d (dPl ops at'))),(5,.tok (s.2.map dV).length 4)]) (λs=>s.1<=24/\s.2.length<=s.1/\∀x∈s.2,x.x∈n00::l/\x.y∈n00::l) (λs=>24-s.1) (0,[]) [] rfl ⟨W0w _,W0b _,λx hx=>nomatch hx⟩ (λ(i,vs) ⟨hi,hv,hm⟩=>?_)
 simp only at hi hv hm
 refine Ar (i+1:Nat) rfl ?_
 refine By rfl (λh3=>?_) λh3=>?_
 . have h3:((i+1:Nat):Int)<((at'.map λn=>(D.int .u8 n.val:D)).length:Nat):=h3
   rw[W0j] at h3
   obtain⟨a,ha⟩:∃a,at'[i]?=some a:=⟨_,W0c (by omega)⟩
   obtain⟨b,hb⟩:∃b,at'[i+1]?=some b:=⟨_,W0c (by omega)⟩
   refine Dw rfl ?_
   refine Ix i rfl (mp (f:=λn:Fin 256=>(D.int .u8 n.val:D)) ha) ?_
   refine Go.Vm.Cv (a.val:Nat) rfl ?_ (wI (by omega))
   refine Ca rfl (R9.At_ok a.isLt (by omega)) λv hv=>?_
   obtain⟨x,hx,rfl⟩:=hv
   refine Ar (i+1:Nat) rfl ?_
   refine Ix (i+1) rfl (mp (f:=λn:Fin 256=>(D.int .u8 n.val:D)) hb) ?_
   refine Go.Vm.Cv (b.val:Nat) rfl ?_ (wI (by omega))
   refine Ca rfl (R9.At_ok b.isLt (by omega)) λv hv=>?_
   obtain⟨y,hy,rfl⟩:=hv
   refine ApG ((vs++[(⟨x,y⟩:Vn)]).map dV) rfl (by simp) (by simp;omega) ?_
   refine Ar (i+2:Nat) rfl ?_
   refine Bk (i+2,vs++[(⟨x,y⟩:Vn)]) [(47,5)] rfl ⟨by show i+2<=24;omega,by simp;omega,λz hz=>?_⟩ (by show 24-(i+2)<24-i;omega)
   rcases W1v.1 hz with hz | hz
   . exact hm z hz
   . obtain rfl:=W0i.1 hz
     exact⟨hx,hy⟩
 . refine Rt rfl (.tup (.cons (.gr rfl) Xlx)) (.inr ⟨vs,rfl,by omega,K,G,S,n00::l,⟨⟨hq.wd hG hS,λz hz=>?_⟩,λz hz=>?_,λz hz=>?_⟩,hm⟩)
   . rcases W1n.1 hz with rfl | hz
     . exact⟨λ_=>zero _,⟨trivial,trivial,λi hi=>absurd hi (W4d _)⟩⟩
     . obtain⟨v,hv⟩:=hall z hz
       obtain⟨ρ,h1,_⟩:=hv.ex
       exact⟨ρ,h1⟩
   . rcases W1n.1 hz with rfl | hz
     . exact⟨rat K ((0:Int):Rat),⟨λ_=>zero _,⟨trivial,trivial,λi hi=>absurd hi (W4d _)⟩,rfl⟩,trivial,(Sz.rat 0 (x:=((0:Int):Rat)) (p:=1) ⟨show ((0:Int):Rat).num.natAbs<2^1 by decide +kernel,show (((0:Int):Rat).den:Int).natAbs<2^1 by decide +kernel⟩).mono (by decide)⟩
     . exact hall z hz
   . rcases W1n.1 hz with rfl | hz
     . exact λi hi=>absurd hi (W4d _)
     . exact htm z hz
theorem Ww.gv{K:Nat}{G:Tw K}{S:List (Tow.El K)}{N:List Nm}{x:Vn}(W:Ww G S N)(h:x.x∈N/\x.y∈N): ∃p:V2 K,Gv G S N 1 x p:=by
 obtain⟨a,ha⟩:=W.gd h.1
 obtain⟨b,hb⟩:=W.gd h.2
 exact⟨(a,b),ha,hb⟩
end
section
theorem Xza{t:TypeId}(ht:Tryz.prog.underlying t=some (.slice 5)): Reads Tryz.prog t λd=>∃l:List (Fin 256),d=dAt l :=
 (Xfm ht (Xgc Tryz.underlying5) (sz:=1) (by kernel_rfl) (by decide)).mono λd ⟨l,e,_,h⟩=>by
  obtain⟨m,hm⟩:=Ymu (f:=λn:Fin 256=>(D.int .u8 n.val:D)) λy hy=>let ⟨n,e,hn⟩:=h y hy;⟨⟨n,hn⟩,e⟩
  exact⟨m,by rw[e,hm]⟩
theorem Xsh: Reads Tryz.prog 26 λd=>∃ops l,d=dPl ops l :=
 (Xen Tryz.underlying26 (.cons (n:=1) rfl (Xuu Tryz.underlying23) (by kernel_rfl) (.one rfl (Xza Tryz.underlying24))) (λf hf=>by cases hf;kernel_rfl)).mono λd hd=>by
  obtain⟨_,rfl,_,_,rfl,⟨ops,rfl⟩,⟨l,rfl⟩⟩:=hd
  exact⟨ops,l,rfl⟩
def i64(a:Int): Prop:=-9223372036854775808<=a/\a<9223372036854775808
end
section
def lo2(x y:Rat): Rat:=if y<x then y else x
def hi2(x y:Rat): Rat:=if x<y then y else x
def Xvk(x:Rat)(r:List Rat): Rat:=r.foldl lo2 x
def Xvq(x:Rat)(r:List Rat): Rat:=r.foldl hi2 x
theorem Ych{s:Nat}{x y:Rat}(hx:Qs s x)(hy:Qs s y): Qs s (lo2 x y):=by unfold lo2;split<;>assumption
theorem Ycp{s:Nat}{x y:Rat}(hx:Qs s x)(hy:Qs s y): Qs s (hi2 x y):=by unfold hi2;split<;>assumption
theorem Xvi(x:Rat)(r:List Rat)(y:Rat): Xvk x (r++[y])=lo2 (Xvk x r) y:=by simp[Xvk]
theorem Xvo(x:Rat)(r:List Rat)(y:Rat): Xvq x (r++[y])=hi2 (Xvq x r) y:=by simp[Xvq]
theorem Xvj{s:Nat}{x:Rat}{r:List Rat}(h:∀y∈x::r,Qs s y): Qs s (Xvk x r):=by
 induction r generalizing x with
 | nil=>exact h x (W1a ..)
 | cons y r ih=>exact ih (x:=lo2 x y) (λz hz=>by
  rcases W1n.1 hz with rfl | hz
  . exact Ych (h x (W1a ..)) (h y (by simp))
  . exact h z (by simp[hz]))
theorem Xvp{s:Nat}{x:Rat}{r:List Rat}(h:∀y∈x::r,Qs s y): Qs s (Xvq x r):=by
 induction r generalizing x with
 | nil=>exact h x (W1a ..)
 | cons y r ih=>exact ih (x:=hi2 x y) (λz hz=>by
  rcases W1n.1 hz with rfl | hz
  . exact Ycp (h x (W1a ..)) (h y (by simp))
  . exact h z (by simp[hz]))
theorem Yfq{x y:Rat}: Xnp x y<0↔x<y:=by
 unfold Xnp
 split
 . rename_i h;simp[h]
 . rename_i h
   split<;>simp[h]
theorem Xxi{x y:Rat}: Xnp x y>0↔y<x:=by
 rw[Xnn,<-Yfq];omega
theorem Xux{s:Nat}{x:Rat}{r:List Rat}(h:∀y∈x::r,Qs s y)(k:Nat): ∀y∈x::r.take k,Qs s y:=λy hy=>h y (by
 rcases W1n.1 hy with rfl | hy
 . exact W1a ..
 . exact W1c _ (W5i hy))
theorem Xw5(n:Int): Rat.divInt n 1=(n:Rat):=by
 rw[W5k]
 have:((1:Int):Rat)=1:=rfl
 grind
def pw(b:Nat): Rat:=((2^b:Int):Rat)
theorem Zs.two{b p:Nat}(h:b+1<=p): Zs p (2^b:Int):=by
 refine Zs.mono (p:=b+1) ?_ h
 unfold Zs
 rw[Int.natAbs_pow]
 exact W3v (by decide) (W5m b)
theorem Xf5(b:Nat): (2^b:Int)≠0:=by have:=Int.pow_pos (n:=2) (m:=b) (by decide);omega
theorem Xoq(b:Nat): Qs (b+1) (pw b):=⟨Zs.two (W0b _),Zs.one (by omega)⟩
theorem Zs.floor{s:Nat}{x:Rat}(h:Qs s x): Zs s x.floor:=by
 have hn:=h.n
 unfold Zs at *
 rw[Rat.floor_def]
 exact W1y (Int.natAbs_ediv_le_natAbs _ _) hn
def dnQ(x:Rat)(b:Nat): Rat:=Rat.divInt (x*pw b).floor (2^b)
def upQ(x:Rat)(b:Nat): Rat:=-dnQ (-x) b
theorem Xw2{s:Nat}{x:Rat}(h:Qs s x)(b:Nat): Qs (s+b+1) (dnQ x b) :=
 Qs.divInt (p:=s+b+1) ((Zs.floor (h.mul (Xoq b))).mono (by omega)) (Zs.two (by omega)) (Xf5 b)
theorem Yg6{s:Nat}{x:Rat}(h:Qs s x)(b:Nat): Qs (s+b+1) (upQ x b):=(Xw2 h.neg b).neg
theorem Xl5{x y:Rat}: Xnp x y<=0↔¬y<x:=by rw[<-Xxi];omega
theorem Yeu{a p:Nat}(h:a<2^p): (dig a).length<=p/32+1:=by
 refine Xat (W0v h ?_)
 rw[show (4294967296:Nat)=2^32 from rfl,<-W5w]
 exact W0l (by decide) (by omega)
def rtF(x:Rat): Nat:=rt x.floor.toNat
theorem Ymd(n:Nat): rt n<=n:=by
 have h:=(Xdh n).1
 by_cases h0:rt n=0
 . omega
 . have:=W0t (rt n) (show 1<=rt n by omega)
   omega
theorem Xev{x:Rat}(h:0<=x): x.floor=(x.floor.toNat:Int):=by
 have:(0:Int)<=x.floor:=Rat.le_floor_iff.2 h
 omega
theorem Ybu{s:Nat}{x:Rat}(h:Qs s x)(h0:0<=x): Zs s (rtF x:Int):=by
 have h1:=Zs.floor h
 rw[Xev h0] at h1
 have h2:=Ymd x.floor.toNat
 unfold Zs at *
 have h1:x.floor.toNat<2^s:=h1
 show rt x.floor.toNat<2^s
 omega
theorem Xa5(b:Nat): 0<pw b:=Rat.intCast_pos.2 (Int.pow_pos (by decide))
def sq2(x:Rat)(b:Nat): Rat:=x*(pw b*pw b)
def Xdy(x:Rat)(b:Nat): Rat:=Rat.divInt (rtF (sq2 x b):Int) (2^b)
open Classical in
noncomputable def Xt7(x:Rat): Nat:=if ((rtF x*rtF x:Int):Rat)<x then rtF x+1 else rtF x
noncomputable def Xua(x:Rat)(b:Nat): Rat:=Rat.divInt (Xt7 (sq2 x b):Int) (2^b)
theorem Ybk{s b:Nat}{x:Rat}(h:Qs s x): Qs (s+(2*b+2)) (sq2 x b):=(h.mul ((Xoq b).mul (Xoq b))).mono (by omega)
theorem Xhm{x:Rat}{b:Nat}(h:0<=x): 0<=sq2 x b:=Rat.mul_nonneg h (Rat.mul_nonneg (W2p (Xa5 b)) (W2p (Xa5 b)))
theorem Xic(x:Rat)(n:Nat): (x.num*2^n).fdiv x.den=(x*pw n).floor:=by
 have hd:(0:Int)<x.den:=Int.natCast_pos.2 (W2m x.den_nz)
 rw[W1r _ (by omega)]
 have key:∀z:Int,z<=(x.num*2^n)/x.den↔z<=(x*pw n).floor:=by
  intro z
  rw[Int.le_ediv_iff_mul_le hd,Rat.le_floor_iff]
  have e:x*pw n*(x.den:Rat)=((x.num*2^n:Int):Rat):=by
   have:=Xlo x
   have h2:pw n=((2^n:Int):Rat):=rfl
   rw[W3w,<-h2,<-this]
   grind
  have hdr:(0:Rat)<(x.den:Rat):=by
   have:=Rat.intCast_pos.2 hd
   exact this
  rw[<-W3l,W3w,<-e]
  constructor
  . intro h
    exact W2b h hdr
  . intro h
    exact W2q h (W2p hdr)
 have h1:=(key _).1 (W7w _)
 have h2:=(key _).2 (W7w _)
 omega
theorem Yby(b:Nat): pw (2*b)=pw b*pw b:=by
 show ((2^(2*b):Int):Rat)=((2^b:Int):Rat)*((2^b:Int):Rat)
 rw[<-W3w,<-Int.pow_add]
 congr 2;omega
theorem Xyy{x:Rat}(b:Nat)(h0:0<=x): (x.num*2^(2*b)).fdiv x.den=((sq2 x b).floor.toNat:Int):=by
 rw[Xic,Yby]
 exact Xev (Xhm h0)
theorem Xk8{s:Nat}{x:Rat}(h:Qs s x)(h0:0<=x)(b:Nat): Qs (s+(2*b+2)) (Xdy x b) :=
 Qs.divInt (Ybu (Ybk h) (Xhm h0)) (Zs.two (by omega)) (Xf5 b)
def mx0(x:Rat): Rat:=if x<0 then 0 else x
theorem Xhq(x:Rat): 0<=mx0 x:=by unfold mx0;split<;>grind
theorem Yce{s:Nat}{x:Rat}(h:Qs s x)(hs:1<=s): Qs s (mx0 x):=by
 unfold mx0
 split
 . exact qs0.mono hs
 . exact h
theorem Yka{x:Rat}: Xba x.num 0<0↔x<0:=by
 rw[Xh5]
 rcases Xbg x with ⟨h,e⟩ | ⟨h,e⟩ | ⟨h,e⟩<;>rw[e]
 . exact⟨λh=>absurd h (by decide),λh'=>absurd h' (by grind)⟩
 . exact⟨λh=>absurd h (by decide),λh'=>absurd h' (by grind)⟩
 . exact⟨λ_=>h,λ_=>by decide⟩
def rnd(p:Rat×Rat)(b:Nat): Rat×Rat:=(dnQ p.1 b,upQ p.2 b)
def rts(p:Rat×Rat)(b:Nat): Rat×Rat:=(Xdy (mx0 p.1) b,Xdy p.2 b+Rat.divInt 1 (2^b))
def Xb0(p q:Rat×Rat): Rat×Rat:=(Xvk (p.1*q.1) [p.1*q.2,p.2*q.1,p.2*q.2],Xvq (p.1*q.1) [p.1*q.2,p.2*q.1,p.2*q.2])
def Xhz(p q:Rat×Rat): Rat×Rat:=(p.1+q.1,p.2+q.2)
def enc: (k:Nat)->Tw k->El k->Nat->Rat×Rat
 | 0=>λ_ (x:Rat) _=>(x,x)
 | k+1=>λt a b=>if (∀x∈toL k a.2,x=0) then enc k t.1 a.1 b else rnd (Xhz (enc k t.1 a.1 b) (Xb0 (enc k t.1 a.2 b) (rts (enc k t.1 t.2 b) b))) b
theorem Yc1(x:Rat)(b:Nat): dnQ x b*pw b=((x*pw b).floor:Rat):=by
 unfold dnQ
 rw[W5k]
 have h:=Xa5 b
 show ((x*pw b).floor:Rat)/pw b*pw b=_
 rw[W5e (by grind)]
theorem Xrr(x:Rat)(b:Nat): dnQ x b<=x:=by
 refine W2b ?_ (Xa5 b)
 rw[Yc1]
 exact Rat.floor_le _
theorem Xw3(x:Rat)(b:Nat): x*pw b<dnQ x b*pw b+1:=by
 rw[Yc1]
 have:=@Rat.lt_floor (x*pw b)
 grind
theorem Xto(x:Rat)(b:Nat): x<=upQ x b:=by
 have:=Xrr (-x) b
 unfold upQ;grind
theorem Ybe(x:Rat)(b:Nat): upQ x b*pw b<x*pw b+1:=by
 have:=Xw3 (-x) b
 unfold upQ;grind
theorem Xvs{x y:Rat}: lo2 x y<=x/\lo2 x y<=y:=by unfold lo2;split<;>grind
theorem Xwg{x y:Rat}: x<=hi2 x y/\y<=hi2 x y:=by unfold hi2;split<;>grind
theorem Xvr{x y:Rat}: lo2 x y=x\/lo2 x y=y:=by unfold lo2;split<;>simp
theorem Xwf{x y:Rat}: hi2 x y=x\/hi2 x y=y:=by unfold hi2;split<;>simp
theorem Xi2(p q:Rat×Rat): (Xb0 p q).1<=p.1*q.1/\(Xb0 p q).1<=p.1*q.2/\(Xb0 p q).1<=p.2*q.1/\(Xb0 p q).1<=p.2*q.2:=by
 show lo2 (lo2 (lo2 (p.1*q.1) (p.1*q.2)) (p.2*q.1)) (p.2*q.2)<=_/\lo2 (lo2 (lo2 (p.1*q.1) (p.1*q.2)) (p.2*q.1)) (p.2*q.2)<=_/\lo2 (lo2 (lo2 (p.1*q.1) (p.1*q.2)) (p.2*q.1)) (p.2*q.2)<=_/\lo2 (lo2 (lo2 (p.1*q.1) (p.1*q.2)) (p.2*q.1)) (p.2*q.2)<=_
 have h1:=@Xvs (p.1*q.1) (p.1*q.2)
 have h2:=@Xvs (lo2 (p.1*q.1) (p.1*q.2)) (p.2*q.1)
 have h3:=@Xvs (lo2 (lo2 (p.1*q.1) (p.1*q.2)) (p.2*q.1)) (p.2*q.2)
 refine⟨?_,?_,?_,h3.2⟩<;>grind
theorem Xi3(p q:Rat×Rat): p.1*q.1<=(Xb0 p q).2/\p.1*q.2<=(Xb0 p q).2/\p.2*q.1<=(Xb0 p q).2/\p.2*q.2<=(Xb0 p q).2:=by
 show _<=hi2 (hi2 (hi2 (p.1*q.1) (p.1*q.2)) (p.2*q.1)) (p.2*q.2)/\_<=hi2 (hi2 (hi2 (p.1*q.1) (p.1*q.2)) (p.2*q.1)) (p.2*q.2)/\_<=hi2 (hi2 (hi2 (p.1*q.1) (p.1*q.2)) (p.2*q.1)) (p.2*q.2)/\_<=hi2 (hi2 (hi2 (p.1*q.1) (p.1*q.2)) (p.2*q.1)) (p.2*q.2)
 have h1:=@Xwg (p.1*q.1) (p.1*q.2)
 have h2:=@Xwg (hi2 (p.1*q.1) (p.1*q.2)) (p.2*q.1)
 have h3:=@Xwg (hi2 (hi2 (p.1*q.1) (p.1*q.2)) (p.2*q.1)) (p.2*q.2)
 refine⟨?_,?_,?_,h3.2⟩<;>grind
theorem Xfj(x:Rat)(b:Nat): Xdy x b*pw b=((rtF (sq2 x b):Int):Rat):=by
 unfold Xdy
 rw[W5k]
 have h:=Xa5 b
 show ((rtF (sq2 x b):Int):Rat)/pw b*pw b=_
 rw[W5e (by grind)]
theorem Xd4(b:Nat): Rat.divInt 1 (2^b)*pw b=1:=by
 rw[W5k]
 have h:=Xa5 b
 show ((1:Int):Rat)/pw b*pw b=_
 rw[W5e (by grind)];rfl
theorem Xdg(x:Rat)(b:Nat): 0<=Xdy x b:=by
 refine W2b ?_ (Xa5 b)
 rw[Xfj,W4o]
 exact Rat.intCast_nonneg.2 (by omega)
theorem Ybv{x:Rat}(h:0<=x): (((rtF x:Int)):Rat)*((rtF x:Int):Rat)<=x:=by
 have h1:=(Xdh x.floor.toNat).1
 have h2:=Xev h
 have h3:=@Rat.floor_le x
 have h4:((rtF x*rtF x:Int):Rat)<=(x.floor:Rat):=by
  rw[W3l,h2]
  unfold rtF
  exact_mod_cast h1
 rw[W3w] at h4
 exact W5q h4 h3
theorem Xuo{x:Rat}(h:0<=x): x<(((rtF x:Int))+1:Rat)*(((rtF x:Int))+1:Rat):=by
 have h1:=(Xdh x.floor.toNat).2
 have h2:=Xev h
 have h3:=@Rat.lt_floor x
 have h4:((x.floor+1:Int):Rat)<=(((rtF x+1:Int)*(rtF x+1:Int):Int):Rat):=by
  rw[W3l,h2]
  unfold rtF
  have h1:x.floor.toNat+1<=(rt x.floor.toNat+1)*(rt x.floor.toNat+1):=h1
  exact_mod_cast h1
 rw[W3w,W6g,W6g] at h4
 have h5:((1:Int):Rat)=1:=rfl
 rw[h5] at h4
 grind
theorem Xio{x:Rat}{b:Nat}(h:0<=x): Xdy x b*Xdy x b<=x:=by
 have hp:=Xa5 b
 have hpp:=W4q hp hp
 refine W2b ?_ hpp
 have h1:=Ybv (Xhm (b:=b) h)
 rw[<-Xfj] at h1
 unfold sq2 at h1
 grind
theorem Xt9{x:Rat}{b:Nat}(h:0<=x): x<=(Xdy x b+Rat.divInt 1 (2^b))*(Xdy x b+Rat.divInt 1 (2^b)):=by
 have hp:=Xa5 b
 have hpp:=W4q hp hp
 refine W2b ?_ hpp
 have h1:=Xuo (Xhm (b:=b) h)
 have h2:=Xd4 b
 rw[<-Xfj] at h1
 have h3:sq2 x b=x*(pw b*pw b):=rfl
 have h4:(Xdy x b+Rat.divInt 1 (2^b))*(Xdy x b+Rat.divInt 1 (2^b))*(pw b*pw b)=(Xdy x b*pw b+1)*(Xdy x b*pw b+1):=by
  rw[<-h2];grind
 rw[h4,<-h3]
 exact W2p h1
theorem Xhr: ∀ {k:Nat} {t:Tw k} (h:Xb9 k t) (a:El k) (b:Nat),inI k t a (enc k t a b).1 (enc k t a b).2
 | 0,t,h,a,b=>⟨(Xap h).le_rf (Xay 0 t) a,(Xap h).le_rf (Xay 0 t) a⟩
 | k+1,t,h,a,b=>by
  have iu:=Xm7 (t:=t) h.1 (Xhr h.1 a.1 b)
  have hs:=Xrq (t:=t) a
  by_cases hz:∀x∈toL k a.2,x=0
  . have he:enc (k+1) t a b=enc k t.1 a.1 b:=if_pos hz
    rw[he]
    have ha:a=up k a.1:=W2y rfl ((Xam k a.2).2 hz)
    rw[ha]
    exact iu
  . have he:enc (k+1) t a b=rnd (Xhz (enc k t.1 a.1 b) (Xb0 (enc k t.1 a.2 b) (rts (enc k t.1 t.2 b) b))) b:=if_neg hz
    have iv:=Xm7 (t:=t) h.1 (Xhr h.1 a.2 b)
    have ir:=Xhr h.1 t.2 b
    have hr2:0<=(enc k t.1 t.2 b).2:=by
     have h0:le k t.1 (rat k 0) t.2:=(Xiz h.1).2 (by rw[h.2];decide)
     exact(Xbo h.1).1 (le_tr h.1 h0 ir.2)
    have hu:0<=Rat.divInt 1 (2^b):=W2b (by rw[Xd4,W4o];decide) (Xa5 b)
    have is:=Xv6 h ir (c:=Xdy (mx0 (enc k t.1 t.2 b).1) b) (d:=Xdy (enc k t.1 t.2 b).2 b+Rat.divInt 1 (2^b)) (Xdg _ _) (by have:=Xdg (enc k t.1 t.2 b).2 b;grind)
     (by
      have h1:=Xio (b:=b) (Xhq (enc k t.1 t.2 b).1)
      by_cases h0:(enc k t.1 t.2 b).1<0
      . right
        have e:mx0 (enc k t.1 t.2 b).1=0:=if_pos h0
        rw[e] at h1 |-
        have h2:=Xdg 0 b
        by_cases h3:Xdy 0 b=0
        . exact h3
        . have:=W4q (show 0<Xdy 0 b by grind) (show 0<Xdy 0 b by grind)
          grind
      . left
        have e:mx0 (enc k t.1 t.2 b).1=(enc k t.1 t.2 b).1:=if_neg h0
        rw[e] at h1 |-
        exact h1) (Xt9 hr2)
    have im:=Xv7 h iv is (Xdg _ _) (Xi2 (enc k t.1 a.2 b) (rts (enc k t.1 t.2 b) b)).1 (Xi2 (enc k t.1 a.2 b) (rts (enc k t.1 t.2 b) b)).2.1 (Xi3 (enc k t.1 a.2 b) (rts (enc k t.1 t.2 b) b)).2.2.1 (Xi3 (enc k t.1 a.2 b) (rts (enc k t.1 t.2 b) b)).2.2.2
    have ia:=Xv8 h iu im
    rw[<-hs] at ia
    rw[he]
    exact Xrg h ia (Xrr _ _) (Xto _ _)
def eB(s b:Nat): Nat->Nat
 | 0=>s
 | k+1=>3*eB s b k+4*b+6
theorem Yae(s b:Nat): ∀k,s<=eB s b k
 | 0=>W0b _
 | k+1=>by have:=Yae s b k;show s<=3*eB s b k+4*b+6;omega
theorem Ycy{k:Nat}{t:Tw (k+1)}(h:Xb9 (k+1) t)(b:Nat): 0<=(enc k t.1 t.2 b).2:=by
 have h0:le k t.1 (rat k 0) t.2:=(Xiz h.1).2 (by rw[h.2];decide)
 exact(Xbo h.1).1 (le_tr h.1 h0 (Xhr h.1 t.2 b).2)
def Q2(s:Nat)(p:Rat×Rat): Prop:=Qs s p.1/\Qs s p.2
theorem Xij(b:Nat): Qs (b+1) (Rat.divInt 1 (2^b)):=Qs.divInt (Zs.one (by omega)) (Zs.two (W0b _)) (Xf5 b)
theorem Ybs{s b:Nat}{p:Rat×Rat}(h:Q2 s p)(h0:0<=p.2)(hs:1<=s): Q2 (s+3*b+4) (rts p b) :=
 ⟨(Xk8 (Yce h.1 hs) (Xhq _) b).mono (by omega),((Xk8 h.2 h0 b).add (Xij b)).mono (by omega)⟩
theorem Xcg{s s':Nat}{p q:Rat×Rat}(h:Q2 s p)(h':Q2 s' q): Q2 (s+s') (Xb0 p q):=by
 have key:∀y∈p.1*q.1::[p.1*q.2,p.2*q.1,p.2*q.2],Qs (s+s') y:=by
  intro y hy
  simp at hy
  rcases hy with rfl | rfl | rfl | rfl
  . exact h.1.mul h'.1
  . exact h.1.mul h'.2
  . exact h.2.mul h'.1
  . exact h.2.mul h'.2
 exact⟨Xvj key,Xvp key⟩
theorem Xma{s s':Nat}{p q:Rat×Rat}(h:Q2 s p)(h':Q2 s' q): Q2 (s+s'+1) (Xhz p q):=⟨h.1.add h'.1,h.2.add h'.2⟩
theorem Yh2{s:Nat}{p:Rat×Rat}(h:Q2 s p)(b:Nat): Q2 (s+b+1) (rnd p b):=⟨Xw2 h.1 b,Yg6 h.2 b⟩
theorem Q2.mono{s s':Nat}{p:Rat×Rat}(h:Q2 s p)(hs:s<=s'): Q2 s' p:=⟨h.1.mono hs,h.2.mono hs⟩
theorem Xjg: ∀ {k:Nat} {t:Tw k} {a:El k} {s b:Nat},Xb9 k t->TS s k t->Sz s (toL k a)->1<=s->Q2 (eB s b k) (enc k t a b)
 | 0,t,a,s,b,h,hT,ha,hs=>⟨ha.qs (W0i.2 rfl),ha.qs (W0i.2 rfl)⟩
 | k+1,t,a,s,b,h,hT,ha,hs=>by
  have hu:=Xjg (b:=b) h.1 hT.1 (Sz.left (l:=toL k a.1) (m:=toL k a.2) ha) hs
  have hv:=Xjg (b:=b) h.1 hT.1 (Sz.right (l:=toL k a.1) (m:=toL k a.2) ha) hs
  have hr:=Xjg (b:=b) h.1 hT.1 hT.2 hs
  have hge:=Yae s b k
  show Q2 (3*eB s b k+4*b+6) (if (∀x∈toL k a.2,x=0) then enc k t.1 a.1 b else rnd (Xhz (enc k t.1 a.1 b) (Xb0 (enc k t.1 a.2 b) (rts (enc k t.1 t.2 b) b))) b)
  split
  . exact hu.mono (by omega)
  . exact(Yh2 (Xma hu (Xcg hv (Ybs hr (Ycy h b) (by omega)))) b).mono (by omega)
theorem Xmw(a b:Nat): pw (a+b)=pw a*pw b:=by
 show ((2^(a+b):Int):Rat)=((2^a:Int):Rat)*((2^b:Int):Rat)
 rw[<-W3w,<-Int.pow_add]
theorem Xc4(n:Nat): pw (n+1)=2*pw n:=by rw[Xmw,show pw 1=2 from rfl];grind
theorem Xho(n:Nat): 1<=pw n:=by
 induction n with
 | zero=>exact W6u
 | succ n ih=>rw[Xc4];grind
theorem Xiv{a b:Nat}(h:a<=b): pw a<=pw b:=by
 obtain⟨c,rfl⟩:=Nat.le.dest h
 rw[Xmw]
 have h1:=W2z (Xho c) (W2p (Xa5 a))
 grind
theorem Xj7{x y:Rat}(h:0<=x)(k:0<=y): 0<=x*y:=Rat.mul_nonneg h k
theorem Ycf{a b c d:Rat}(h:a<=b)(k:c<=d)(hc:0<=c)(hb:0<=b): a*c<=b*d:=by
 have h1:=W2q h hc
 have h2:=W2z k hb
 grind
theorem Xlp{x y X Y:Rat}(h1:-X<=x)(h2:x<=X)(h3:-Y<=y)(h4:y<=Y): x*y<=X*Y:=by
 have a:=Xj7 (show 0<=X-x by grind) (show 0<=Y+y by grind)
 have b:=Xj7 (show 0<=X+x by grind) (show 0<=Y-y by grind)
 grind
theorem Xrd{x y:Rat}(hy:0<=y)(h:x*x<=y*y): x<=y:=by
 by_cases hxy:x<=y
 . exact hxy
 . have h1:y<x:=by grind
   have a:=W4q (show 0<x-y by grind) (show 0<x by grind)
   have b:=Xj7 hy (show 0<=x-y by grind)
   grind
def Wid(p:Rat×Rat)(e:Nat): Prop:=p.1<=p.2/\(p.2-p.1)*pw e<=1
def Mg(p:Rat×Rat)(m:Nat): Prop:=-pw m<=p.1/\p.2<=pw m
theorem Wid.mono{p:Rat×Rat}{e f:Nat}(h:Wid p e)(hf:f<=e): Wid p f:=by
 refine⟨h.1,?_⟩
 have:=W2z (Xiv hf) (show 0<=p.2-p.1 by have:=h.1;grind)
 have:=h.2
 grind
theorem Mg.mono{p:Rat×Rat}{m n:Nat}(h:Mg p m)(hn:m<=n): Mg p n:=by
 have:=Xiv hn
 have h1:=h.1
 have h2:=h.2
 exact⟨by grind,by grind⟩
structure RtOf (r:Rat×Rat) (b:Nat) (s:Rat×Rat):Prop where
 lo:s.1=Xdy (mx0 r.1) b
 l:Xdy r.2 b<=s.2
 h:s.2<=Xdy r.2 b+Rat.divInt 1 (2^b)
theorem Xd3(b:Nat): 0<Rat.divInt 1 (2^b):=by
 by_cases h:0<Rat.divInt 1 (2^b)
 . exact h
 . have h1:=W2q (show Rat.divInt 1 (2^b)<=0 by grind) (W2p (Xa5 b))
   rw[Xd4] at h1
   exact absurd h1 (by grind)
theorem Xtp{b f:Nat}(h:f+1<=b): 2*(Rat.divInt 1 (2^b)*pw f)<=1:=by
 have h1:=W2z (Xiv h) (W2p (Xd3 b))
 rw[Xd4,Xc4] at h1
 grind
theorem Xkz(b:Nat): Rat.divInt 1 (2^b)<=1:=by
 have h1:=W2z (Xho b) (W2p (Xd3 b))
 rw[Xd4] at h1
 grind
theorem Yiq(x:Rat): x<=mx0 x:=by unfold mx0;split<;>grind
theorem Xip{x y:Rat}{b:Nat}(hx:0<=x)(h:x<=y): Xdy x b<=Xdy y b:=by
 have hp:=Xa5 b
 refine W2b ?_ hp
 rw[Xfj,Xfj,W3l]
 have h1:sq2 x b<=sq2 y b:=W2q h (W2p (W4q hp hp))
 have h2:=Ybv (Xhm (b:=b) hx)
 have h3:=Xuo (x:=sq2 y b) (W5q (Xhm (b:=b) hx) h1)
 by_cases h4:(rtF (sq2 x b):Int)<=rtF (sq2 y b)
 . exact h4
 . have h5:(rtF (sq2 y b):Int)+1<=rtF (sq2 x b):=by omega
   have h6:=W3l.2 h5
   rw[W6g,show ((1:Int):Rat)=1 from rfl] at h6
   have h7:(0:Rat)<=((rtF (sq2 y b):Int):Rat):=Rat.intCast_nonneg.2 (by omega)
   have h8:=Ycf h6 h6 (by grind) (by grind)
   grind
theorem RtOf.wd{r s:Rat×Rat}{b e f:Nat}(R:RtOf r b s)(hr:Wid r e)(h0:0<=r.2)(hf:2*f<=e)(hb:f+1<=b): s.1<=s.2/\(s.2-s.1)*pw f<=2:=by
 obtain⟨r1,r2⟩:=r
 obtain⟨c,d⟩:=s
 obtain⟨h1,h2,h3⟩:=R
 dsimp only at *
 have hA:=Xio (b:=b) h0
 have hB:=Xt9 (b:=b) (Xhq r1)
 have hB0:=Xdg (mx0 r1) b
 have hm:=Yiq r1
 have hu:=Xd3 b
 have hul:=Xtp hb
 rw[<-h1] at hB hB0
 have hw:=(hr.mono hf).2
 have hpf:=Xa5 f
 rw[show 2*f=f+f by omega,Xmw] at hw
 dsimp only at hw
 generalize Rat.divInt 1 (2^b)=ε at *
 generalize hAe:Xdy r2 b=A at *
 have key:(A-(c+ε))*pw f<=1:=by
  by_cases hk:(A-(c+ε))*pw f<=1
  . exact hk
  . have hk:1<(A-(c+ε))*pw f:=by grind
    have hD:0<A-(c+ε):=by
     by_cases hD:0<A-(c+ε)
     . exact hD
     . have:=W2q (show A-(c+ε)<=0 by grind) (W2p hpf)
       grind
    have e1:=Xj7 (W2p hD) (show 0<=2*(c+ε) by grind)
    have e2:(A-(c+ε))*(A-(c+ε))<=r2-r1:=by grind
    have e3:=W2q e2 (W2p (W4q hpf hpf))
    have e4:=Ycf (W2p hk) (W2p hk) (by decide) (by grind)
    have e5:=W4q (show 0<(A-(c+ε))*pw f-1 by grind) (show 0<(A-(c+ε))*pw f by grind)
    grind
 refine⟨?_,?_⟩
 . have hmono:mx0 r1<=r2:=by
    have:=hr.1
    unfold mx0
    dsimp only at this
    split
    . exact h0
    . exact this
   have:=Xip (b:=b) (Xhq r1) hmono
   rw[hAe,<-h1] at this
   grind
 . have:=W2q (show d-c<=(A-(c+ε))+2*ε by grind) (W2p hpf)
   grind
theorem RtOf.mg{r s:Rat×Rat}{b m:Nat}(R:RtOf r b s)(hr:Mg r m)(h0:0<=r.2): 0<=s.1/\s.2<=pw (m+1):=by
 have h1:=Xio (b:=b) h0
 have h2:=Xdg (mx0 r.1) b
 rw[<-R.lo] at h2
 refine⟨h2,?_⟩
 have h3:Xdy r.2 b<=pw m:=by
  refine Xrd (W2p (Xa5 m)) (W5q h1 (W5q hr.2 ?_))
  have:=W2z (Xho m) (W2p (Xa5 m))
  grind
 have h4:=R.h
 have h5:=Xkz b
 have h6:=Xho m
 rw[Xc4]
 grind
theorem Xvf(p q:Rat×Rat): (∃v s,(v=p.1\/v=p.2)/\(s=q.1\/s=q.2)/\(Xb0 p q).1=v*s)/\∃v s,(v=p.1\/v=p.2)/\(s=q.1\/s=q.2)/\(Xb0 p q).2=v*s:=by
 constructor
 . show ∃v s,(v=p.1\/v=p.2)/\(s=q.1\/s=q.2)/\lo2 (lo2 (lo2 (p.1*q.1) (p.1*q.2)) (p.2*q.1)) (p.2*q.2)=v*s
   rcases @Xvr (lo2 (lo2 (p.1*q.1) (p.1*q.2)) (p.2*q.1)) (p.2*q.2) with h | h<;>rw[h]
   . rcases @Xvr (lo2 (p.1*q.1) (p.1*q.2)) (p.2*q.1) with h | h<;>rw[h]
     . rcases @Xvr (p.1*q.1) (p.1*q.2) with h | h<;>rw[h]
       . exact⟨_,_,.inl rfl,.inl rfl,rfl⟩
       . exact⟨_,_,.inl rfl,.inr rfl,rfl⟩
     . exact⟨_,_,.inr rfl,.inl rfl,rfl⟩
   . exact⟨_,_,.inr rfl,.inr rfl,rfl⟩
 . show ∃v s,(v=p.1\/v=p.2)/\(s=q.1\/s=q.2)/\hi2 (hi2 (hi2 (p.1*q.1) (p.1*q.2)) (p.2*q.1)) (p.2*q.2)=v*s
   rcases @Xwf (hi2 (hi2 (p.1*q.1) (p.1*q.2)) (p.2*q.1)) (p.2*q.2) with h | h<;>rw[h]
   . rcases @Xwf (hi2 (p.1*q.1) (p.1*q.2)) (p.2*q.1) with h | h<;>rw[h]
     . rcases @Xwf (p.1*q.1) (p.1*q.2) with h | h<;>rw[h]
       . exact⟨_,_,.inl rfl,.inl rfl,rfl⟩
       . exact⟨_,_,.inl rfl,.inr rfl,rfl⟩
     . exact⟨_,_,.inr rfl,.inl rfl,rfl⟩
   . exact⟨_,_,.inr rfl,.inr rfl,rfl⟩
theorem Xp5{u v r s:Rat×Rat}{b b' e f m:Nat}(hu:Wid u f)(hv:Wid v f)(hr:Wid r e)(hf:2*f<=e)(mv:Mg v m)(ms:0<=s.1/\s.2<=pw (m+1))(h0:0<=r.2)(R:RtOf r b s)(hb:f+1<=b)(hb':b<=b')(he:m+3<=f):
 Wid (rnd (Xhz u (Xb0 v s)) b') (f-(m+3)):=by
 have hs:=R.wd hr h0 (f:=f) hf hb
 have wu:=hu.2
 have wv:=hv.2
 have hu1:=hu.1
 have hv1:=hv.1
 have hs1:=hs.1
 have hs2:=hs.2
 have hpf:=Xa5 f
 have hpm:=Xa5 m
 obtain⟨⟨v1,s1,hv1',hs1',e1⟩,v2,s2,hv2',hs2',e2⟩:=Xvf v s
 have hle:=(Xi2 v s).1
 have hge:=(Xi3 v s).1
 have hP:(Xb0 v s).2-(Xb0 v s).1<=pw m*(s.2-s.1)+pw (m+1)*(v.2-v.1):=by
  rw[e1,e2]
  have a1:-pw m<=v2/\v2<=pw m:=by
   have:=mv.1;have:=mv.2
   rcases hv2' with rfl | rfl<;>exact⟨by grind,by grind⟩
  have a2:-(s.2-s.1)<=s2-s1/\s2-s1<=s.2-s.1:=by
   rcases hs1' with rfl | rfl<;>rcases hs2' with rfl | rfl<;>exact⟨by grind,by grind⟩
  have a3:-pw (m+1)<=s1/\s1<=pw (m+1):=by
   have:=ms.1;have:=ms.2;have:=Xa5 (m+1)
   rcases hs1' with rfl | rfl<;>exact⟨by grind,by grind⟩
  have a4:-(v.2-v.1)<=v2-v1/\v2-v1<=v.2-v.1:=by
   rcases hv1' with rfl | rfl<;>rcases hv2' with rfl | rfl<;>exact⟨by grind,by grind⟩
  have b1:=Xlp a1.1 a1.2 a2.1 a2.2
  have b2:=Xlp a3.1 a3.2 a4.1 a4.2
  grind
 have hPf:((Xb0 v s).2-(Xb0 v s).1)*pw f<=pw (m+2):=by
  have c1:=W2q hP (W2p hpf)
  have c2:=W2z hs2 (W2p hpm)
  have c3:=W2z wv (W2p (Xa5 (m+1)))
  rw[Xc4,Xc4] at *
  grind
 have d1:=Xw3 (u.1+(Xb0 v s).1) b'
 have d2:=Ybe (u.2+(Xb0 v s).2) b'
 have d3:=Xrr (u.1+(Xb0 v s).1) b'
 have d4:=Xto (u.2+(Xb0 v s).2) b'
 have hε:=Xtp (b:=b') (f:=f) (by omega)
 have hεp:=Xd3 b'
 have hεe:=Xd4 b'
 have d5:u.1+(Xb0 v s).1-Rat.divInt 1 (2^b')<=dnQ (u.1+(Xb0 v s).1) b':=by
  refine W2b ?_ (Xa5 b')
  grind
 have d6:upQ (u.2+(Xb0 v s).2) b'<=u.2+(Xb0 v s).2+Rat.divInt 1 (2^b'):=by
  refine W2b ?_ (Xa5 b')
  grind
 refine⟨?_,?_⟩
 . show dnQ (u.1+(Xb0 v s).1) b'<=upQ (u.2+(Xb0 v s).2) b'
   grind
 . show (upQ (u.2+(Xb0 v s).2) b'-dnQ (u.1+(Xb0 v s).1) b')*pw (f-(m+3))<=1
   refine W2b ?_ (Xa5 (m+3))
   rw[Rat.mul_assoc,<-Xmw,show f-(m+3)+(m+3)=f by omega,Rat.one_mul]
   have g1:=W2q (show upQ (u.2+(Xb0 v s).2) b'-dnQ (u.1+(Xb0 v s).1) b'<=(u.2-u.1)+((Xb0 v s).2-(Xb0 v s).1)+2*Rat.divInt 1 (2^b') by grind) (W2p hpf)
   have g2:=Xho (m+1)
   rw[Xc4 (m+1)] at hPf
   rw[Xc4 (m+2),Xc4 (m+1)]
   grind
theorem Ydr{u v r s:Rat×Rat}{b b' e m:Nat}(hu:Wid u e)(hv:Wid v e)(hr:Wid r e)(mv:Mg v m)(mr:Mg r m)(h0:0<=r.2)(R:RtOf r b s)(hb:e/2+1<=b)(hb':b<=b')(he:m+3<=e/2):
 Wid (rnd (Xhz u (Xb0 v s)) b') (e/2-(m+3)):=Xp5 (hu.mono (by omega)) (hv.mono (by omega)) hr (by omega) mv (R.mg mr h0) h0 R hb hb' he
theorem Xp6{u v s:Rat×Rat}{b' m j:Nat}(mu:Mg u m)(mv:Mg v m)(ms:0<=s.1/\s.2<=pw (j+1))(hs1:s.1<=s.2)(hv1:v.1<=v.2): Mg (rnd (Xhz u (Xb0 v s)) b') (m+j+2):=by
 obtain⟨⟨v1,s1,hv1',hs1',e1⟩,v2,s2,hv2',hs2',e2⟩:=Xvf v s
 have key:∀x y,(x=v.1\/x=v.2)->(y=s.1\/y=s.2)->-(pw m*pw (j+1))<=x*y/\x*y<=pw m*pw (j+1):=by
  intro x y hx hy
  have a1:-pw m<=x/\x<=pw m:=by
   have:=mv.1;have:=mv.2
   rcases hx with rfl | rfl<;>exact⟨by grind,by grind⟩
  have a3:-pw (j+1)<=y/\y<=pw (j+1):=by
   have:=ms.1;have:=ms.2;have:=Xa5 (j+1)
   rcases hy with rfl | rfl<;>exact⟨by grind,by grind⟩
  have b1:=Xlp a1.1 a1.2 a3.1 a3.2
  have b2:=Xlp (x:=-x) (show -pw m<=-x by grind) (show -x<=pw m by grind) a3.1 a3.2
  exact⟨by grind,b1⟩
 have k1:=(key _ _ hv1' hs1').1
 have k2:=(key _ _ hv2' hs2').2
 rw[<-e1] at k1
 rw[<-e2] at k2
 have hεe:=Xd4 b'
 have hε1:=Xkz b'
 have d1:=Xw3 (u.1+(Xb0 v s).1) b'
 have d2:=Ybe (u.2+(Xb0 v s).2) b'
 have d5:u.1+(Xb0 v s).1-Rat.divInt 1 (2^b')<=dnQ (u.1+(Xb0 v s).1) b':=by
  refine W2b ?_ (Xa5 b')
  grind
 have d6:upQ (u.2+(Xb0 v s).2) b'<=u.2+(Xb0 v s).2+Rat.divInt 1 (2^b'):=by
  refine W2b ?_ (Xa5 b')
  grind
 have e3:pw (m+j+2)=2*(pw m*pw (j+1)):=by rw[<-Xmw,<-Xc4];congr 1
 have e4:pw m+1<=pw m*pw (j+1):=by
  have h1:=Xho m
  have h3:=Xho j
  have h2:=W2z (show 2<=pw (j+1) by rw[Xc4];grind) (W2p (Xa5 m))
  grind
 have m1:=mu.1
 have m2:=mu.2
 refine⟨?_,?_⟩
 . show -pw (m+j+2)<=dnQ (u.1+(Xb0 v s).1) b'
   rw[e3];grind
 . show upQ (u.2+(Xb0 v s).2) b'<=pw (m+j+2)
   rw[e3];grind
theorem Ydt{u v r s:Rat×Rat}{b b' m:Nat}(mu:Mg u m)(mv:Mg v m)(mr:Mg r m)(h0:0<=r.2)(hs1:s.1<=s.2)(hv1:v.1<=v.2)(R:RtOf r b s): Mg (rnd (Xhz u (Xb0 v s)) b') (2*m+2):=by
 rw[show 2*m+2=m+m+2 by omega];exact Xp6 mu mv (R.mg mr h0) hs1 hv1
def mW(m:Nat): Nat->Nat
 | 0=>m
 | k+1=>2*mW m k+2
def eW(m b:Nat): Nat->Nat
 | 0=>2*b-2
 | k+1=>eW m b k/2-(mW m k+3)
theorem Yjz(m b:Nat): ∀k,eW m b k<=2*b-2
 | 0=>W0b _
 | k+1=>by have:=Yjz m b k;show eW m b k/2-(mW m k+3)<=_;omega
theorem Yiv{m:Nat}{x:Rat}(h:Qs m x): Mg (x,x) m:=by
 have h1:=h.n
 unfold Zs at h1
 have e:=Xlo x
 have hd:(1:Rat)<=(x.den:Rat):=by
  have:((1:Int):Rat)<=((x.den:Int):Rat):=W3l.2 (by have:=x.den_pos;omega)
  exact this
 have h2:((x.num:Int):Rat) <= pw m := W3l.2 (by have:(x.num.natAbs:Int) < ((2^m:Nat):Int) := by exact_mod_cast h1
                                                have e2:((2^m:Nat):Int)=2^m:=by simp
                                                omega)
 have h3:-pw m<=((x.num:Int):Rat):=by
  have h4:((-(2^m):Int):Rat) <= ((x.num:Int):Rat) := W3l.2 (by have:(x.num.natAbs:Int) < ((2^m:Nat):Int) := by exact_mod_cast h1
                                                               have e2:((2^m:Nat):Int)=2^m:=by simp
                                                               omega)
  rwa[W7p] at h4
 have hp:=Xa5 m
 refine⟨?_,?_⟩
 . show -pw m<=x
   by_cases h0:0<=x
   . grind
   . have:=Xj7 (show 0<=-x by grind) (show 0<=(x.den:Rat)-1 by grind)
     grind
 . show x<=pw m
   by_cases h0:0<=x
   . have:=Xj7 h0 (show 0<=(x.den:Rat)-1 by grind)
     grind
   . grind
def MgL(m:Nat)(l:List Rat): Prop:=∀x∈l,Qs m x
def MgT(m:Nat): (k:Nat)->Tw k->Prop
 | 0,_=>True
 | k+1,t=>MgT m k t.1/\MgL m (toL k t.2)
theorem Ybt(r:Rat×Rat)(b:Nat): RtOf r b (rts r b):=⟨rfl,by have:=Xd3 b;show _<=Xdy r.2 b+_;grind,W6u⟩
theorem Xwy{k:Nat}{t:Tw k}(h:Xb9 k t)(a:El k)(b:Nat): (enc k t a b).1<=(enc k t a b).2:=Ycl h (Xhr h a b)
theorem Xnh: ∀ {k:Nat} {t:Tw k} {a:El k} {m:Nat} (b:Nat),Xb9 k t->MgT m k t->MgL m (toL k a)->Mg (enc k t a b) (mW m k)
 | 0,t,a,m,b,h,hT,ha=>Yiv (ha _ (W0i.2 rfl))
 | k+1,t,a,m,b,h,hT,ha=>by
  have hu:=Xnh (a:=a.1) b h.1 hT.1 λx hx=>ha x (W2x _ hx)
  have hv:=Xnh (a:=a.2) b h.1 hT.1 λx hx=>ha x (W1u _ hx)
  have hr:=Xnh b h.1 hT.1 hT.2
  have h0:0<=(enc k t.1 t.2 b).2:=by
   have h0:le k t.1 (rat k 0) t.2:=(Xiz h.1).2 (by rw[h.2];decide)
   exact(Xbo h.1).1 (le_tr h.1 h0 (Xhr h.1 t.2 b).2)
  show Mg (if (∀x∈toL k a.2,x=0) then enc k t.1 a.1 b else rnd (Xhz (enc k t.1 a.1 b) (Xb0 (enc k t.1 a.2 b) (rts (enc k t.1 t.2 b) b))) b) (2*mW m k+2)
  split
  . exact hu.mono (by omega)
  . refine Ydt hu hv hr h0 ?_ (Xwy h.1 _ _) (Ybt _ b)
    have hle:=Xwy h.1 t.2 b
    have hm:mx0 (enc k t.1 t.2 b).1<=(enc k t.1 t.2 b).2:=by unfold mx0;split<;>assumption
    have:=Xip (b:=b) (Xhq _) hm
    have:=Xd3 b
    show Xdy (mx0 (enc k t.1 t.2 b).1) b<=Xdy (enc k t.1 t.2 b).2 b+Rat.divInt 1 (2^b)
    grind
theorem Xro: ∀ {k:Nat} {t:Tw k} {a:El k} {m b:Nat},Xb9 k t->MgT m k t->MgL m (toL k a)->0<eW m b k->Wid (enc k t a b) (eW m b k)
 | 0,t,a,m,b,h,hT,ha,he=>⟨W6u,(λ(x:Rat)=>(by grind:(x-x)*pw (eW m b 0)<=1)) a⟩
 | k+1,t,a,m,b,h,hT,ha,he=>by
  have he':0<eW m b k/2-(mW m k+3):=he
  have hle:=Yjz m b k
  have hu:=Xro (a:=a.1) (m:=m) (b:=b) h.1 hT.1 (λx hx=>ha x (W2x _ hx)) (by omega)
  have hv:=Xro (a:=a.2) (m:=m) (b:=b) h.1 hT.1 (λx hx=>ha x (W1u _ hx)) (by omega)
  have hr:=Xro (m:=m) (b:=b) h.1 hT.1 hT.2 (by omega)
  have mv:=Xnh (a:=a.2) b h.1 hT.1 λx hx=>ha x (W1u _ hx)
  have mr:=Xnh b h.1 hT.1 hT.2
  have h0:0<=(enc k t.1 t.2 b).2:=by
   have h0:le k t.1 (rat k 0) t.2:=(Xiz h.1).2 (by rw[h.2];decide)
   exact(Xbo h.1).1 (le_tr h.1 h0 (Xhr h.1 t.2 b).2)
  show Wid (if (∀x∈toL k a.2,x=0) then enc k t.1 a.1 b else rnd (Xhz (enc k t.1 a.1 b) (Xb0 (enc k t.1 a.2 b) (rts (enc k t.1 t.2 b) b))) b) (eW m b k/2-(mW m k+3))
  split
  . exact hu.mono (by omega)
  . exact Ydr hu hv hr mv mr h0 (Ybt _ b) (by omega) (W0b _) (by omega)
end
section
theorem Xpc{s b b':Nat}(h:b<=b'): ∀k,eB s b k<=eB s b' k
 | 0=>W0b _
 | k+1=>by have:=Xpc (s:=s) h k;show 3*eB s b k+4*b+6<=3*eB s b' k+4*b'+6;omega
theorem Yly{x y:Rat}{b:Nat}: Xnp (y-x) (Rat.divInt 1 (2^b))<=0↔(y-x)*pw b<=1:=by
 rw[Xl5]
 have h:=Xd4 b
 constructor
 . intro h1
   have:=W2q (show y-x<=Rat.divInt 1 (2^b) by grind) (W2p (Xa5 b))
   rwa[h] at this
 . intro h1 h2
   have:=W4q (show 0<y-x-Rat.divInt 1 (2^b) by grind) (Xa5 b)
   grind
def Xdm(k:Nat)(t:Tw k)(a:El k)(z:Int): Prop:=le k t (rat k (z:Rat)) a/\sgn k t (add k a (neg k (rat k ((z+1:Int):Rat))))=-1
theorem Ycg{k:Nat}{t:Tw k}(h:Xb9 k t){a b:El k}: sgn k t (add k a (neg k b))=-1↔¬le k t b a:=by
 unfold le
 have:=(Xap h).tri (add k a (neg k b))
 omega
theorem Xdm.uniq{k:Nat}{t:Tw k}{a:El k}{z z':Int}(h:Xb9 k t)(i:Xdm k t a z)(j:Xdm k t a z'): z=z':=by
 have key:∀z z',Xdm k t a z->Xdm k t a z'->z<=z':=by
  intro z z' i j
  by_cases hz:z<=z'
  . exact hz
  . exact absurd (le_tr h ((Xbo h).2 (W3l.2 (show z'+1<=z by omega))) i.1) ((Ycg h).1 j.2)
 have:=key _ _ i j
 have:=key _ _ j i
 omega
theorem Xz3{k:Nat}{t:Tw k}{a:El k}{x y:Rat}(h:Xb9 k t)(i:inI k t a x y)(hw:Wid (x,y) 1): (sgn k t (add k a (neg k (rat k (y.floor:Rat))))<0->Xdm k t a (y.floor-1))/\(¬sgn k t (add k a (neg k (rat k (y.floor:Rat))))<0->Xdm k t a y.floor):=by
 have h1:=@Rat.floor_le y
 have h2:=@Rat.lt_floor y
 have h3:(y-x)*2<=1:=hw.2
 have e1:((1:Int):Rat)=1:=rfl
 have hup:sgn k t (add k a (neg k (rat k ((y.floor+1:Int):Rat))))=-1:=by
  rw[Ycg h]
  intro hl
  have:=(Xbo h).1 (le_tr h hl i.2)
  rw[W6g,e1] at this
  grind
 refine⟨λhn=>⟨le_tr h ((Xbo h).2 ?_) i.1,?_⟩,λhn=>⟨?_,hup⟩⟩
 . rw[Rat.intCast_sub,e1]
   grind
 . rw[show y.floor-1+1=y.floor by omega]
   have:=(Xap h).tri (add k a (neg k (rat k (y.floor:Rat))))
   omega
 . show 0<=_
   omega
noncomputable def rtb(p:Rat×Rat)(b:Nat): Rat×Rat:=(Xdy (mx0 p.1) b,Xua p.2 b)
noncomputable def bx: (k:Nat)->Tw k->El k->Nat->Rat×Rat
 | 0=>λ_ (x:Rat) _=>(x,x)
 | k+1=>λt a b=>rnd (Xhz (bx k t.1 a.1 b) (Xb0 (bx k t.1 a.2 b) (rtb (bx k t.1 t.2 b) b))) (b+20)
theorem Xog(x:Rat)(b:Nat): Xua x b*pw b=((Xt7 (sq2 x b):Int):Rat):=by
 unfold Xua
 rw[W5k]
 have h:=Xa5 b
 show ((Xt7 (sq2 x b):Int):Rat)/pw b*pw b=_
 rw[W5e (by grind)]
theorem Ydv(x:Rat): (Xt7 x=rtF x/\x<=((rtF x:Int):Rat)*((rtF x:Int):Rat))\/Xt7 x=rtF x+1:=by
 unfold Xt7
 split
 . exact .inr rfl
 . rename_i h
   rw[W3w] at h
   exact .inl ⟨rfl,by grind⟩
theorem Xmn(x:Rat): ((rtF x:Int):Rat)<=((Xt7 x:Int):Rat)/\((Xt7 x:Int):Rat)<=((rtF x:Int):Rat)+1/\(0<=x->x<=((Xt7 x:Int):Rat)*((Xt7 x:Int):Rat)):=by
 have e1:((1:Int):Rat)=1:=rfl
 rcases Ydv x with ⟨h,h2⟩ | h
 . rw[h];exact⟨W6u,by grind,λ_=>h2⟩
 . have e:((Xt7 x:Int):Rat)=((rtF x:Int):Rat)+1:=by
    rw[h,<-e1,<-W6g];congr 1
   rw[e]
   exact⟨by grind,W6u,λh0=>W2p (Xuo h0)⟩
theorem Xql(r:Rat×Rat)(b:Nat): RtOf r b (rtb r b):=by
 have h:=Xmn (sq2 r.2 b)
 have hp:=Xa5 b
 refine⟨rfl,?_,?_⟩
 . refine W2b ?_ hp
   rw[Xfj]
   show _<=Xua r.2 b*pw b
   rw[Xog];exact h.1
 . refine W2b ?_ hp
   show Xua r.2 b*pw b<=_
   have e:=Xfj r.2 b
   have e2:=Xd4 b
   have e3:=Xog r.2 b
   have h2:=h.2.1
   grind
theorem Xyz{x:Rat}{b:Nat}(h:0<=x): x<=Xua x b*Xua x b:=by
 have hp:=Xa5 b
 have hpp:=W4q hp hp
 refine W2b ?_ hpp
 have h1:=(Xmn (sq2 x b)).2.2 (Xhm h)
 rw[<-Xog] at h1
 have h3:sq2 x b=x*(pw b*pw b):=rfl
 rw[<-h3]
 have h4:Xua x b*Xua x b*(pw b*pw b)=Xua x b*pw b*(Xua x b*pw b):=by grind
 rw[h4];exact h1
theorem Ymv{x:Rat}{b:Nat}: Xdy (mx0 x) b*Xdy (mx0 x) b<=x\/Xdy (mx0 x) b=0:=by
 have h1:=Xio (b:=b) (Xhq x)
 by_cases h0:x<0
 . right
   have e:mx0 x=0:=if_pos h0
   rw[e] at h1 |-
   have h2:=Xdg 0 b
   by_cases h3:Xdy 0 b=0
   . exact h3
   . have:=W4q (show 0<Xdy 0 b by grind) (show 0<Xdy 0 b by grind)
     grind
 . left
   have e:mx0 x=x:=if_neg h0
   rw[e] at h1 |-
   exact h1
theorem Xmq{k:Nat}{t:Tw (k+1)}(h:Xb9 (k+1) t){x y:Rat}(i:inI k t.1 t.2 x y): 0<=y:=by
 have h0:le k t.1 (rat k 0) t.2:=(Xiz h.1).2 (by rw[h.2];decide)
 exact(Xbo h.1).1 (le_tr h.1 h0 i.2)
theorem Ydu{k:Nat}{t:Tw (k+1)}(h:Xb9 (k+1) t){a:El (k+1)}{u v r s:Rat×Rat}{b b':Nat}(iu:inI k t.1 a.1 u.1 u.2)(iv:inI k t.1 a.2 v.1 v.2)(ir:inI k t.1 t.2 r.1 r.2)(R:RtOf r b s)(hs:r.2<=s.2*s.2):
 inI (k+1) t a (rnd (Xhz u (Xb0 v s)) b').1 (rnd (Xhz u (Xb0 v s)) b').2:=by
 have iu:=Xm7 (t:=t) h.1 iu
 have iv:=Xm7 (t:=t) h.1 iv
 have hr2:=Xmq h ir
 have h0:0<=s.1:=by rw[R.lo];exact Xdg _ _
 have h2:0<=s.2:=W5q (Xdg _ _) R.l
 have is:=Xv6 h ir (c:=s.1) (d:=s.2) h0 h2 (by rw[R.lo];exact Ymv) hs
 have im:=Xv7 h iv is h0 (Xi2 v s).1 (Xi2 v s).2.1 (Xi3 v s).2.2.1 (Xi3 v s).2.2.2
 have ia:=Xv8 h iu im
 rw[<-Xrq a] at ia
 exact Xrg h ia (Xrr _ _) (Xto _ _)
theorem Xpg{k:Nat}{t:Tw (k+1)}{a:El (k+1)}{b:Nat}: bx (k+1) t a b=rnd (Xhz (bx k t.1 a.1 b) (Xb0 (bx k t.1 a.2 b) (rtb (bx k t.1 t.2 b) b))) (b+20):=rfl
theorem Xph: ∀ {k:Nat} {t:Tw k} (h:Xb9 k t) (a:El k) (b:Nat),inI k t a (bx k t a b).1 (bx k t a b).2
 | 0,t,h,a,b=>⟨(Xap h).le_rf (Xay 0 t) a,(Xap h).le_rf (Xay 0 t) a⟩
 | k+1,t,h,a,b=>by
  have hu:=Xph h.1 a.1 b
  have hv:=Xph h.1 a.2 b
  have hr:=Xph h.1 t.2 b
  have hs:(bx k t.1 t.2 b).2<=(rtb (bx k t.1 t.2 b) b).2*(rtb (bx k t.1 t.2 b) b).2:=Xyz (Xmq h hr)
  have R:=Xql (bx k t.1 t.2 b) b
  rw[Xpg]
  generalize rtb (bx k t.1 t.2 b) b=s at *
  exact Ydu h hu hv hr R hs
theorem Yki{k:Nat}{t:Tw k}(h:Xb9 k t)(a:El k)(b:Nat): (bx k t a b).1<=(bx k t a b).2:=Ycl h (Xph h a b)
theorem Yhv{r:Rat×Rat}{b:Nat}(h0:0<=r.2)(h:r.1<=r.2): (rtb r b).1<=(rtb r b).2:=by
 have hm:mx0 r.1<=r.2:=by unfold mx0;split<;>assumption
 exact W5q (Xip (b:=b) (Xhq _) hm) (Xql r b).l
def bB(s b:Nat): Nat->Nat
 | 0=>s
 | k+1=>3*bB s b k+3*b+30
end
section
abbrev dI(p:Rat×Rat): D:=.st (.pr (dq p.1) (dq p.2))
theorem Yjp{a b a' b':D}{g:Hp}{K:Hpl}(h1:a=a')(h2:b=b'): Fit g K (.d (.st (.pr a b))) (.d (.st (.pr a' b'))):=.eq (by rw[h1,h2])
abbrev zq: AV:=.st (.pr (.st (.pr (.b false) .nil)) (.st (.pr (.b false) .nil)))
abbrev zI: AV:=.st (.pr zq zq)
theorem Xo6{x:Rat}{r:List Rat}{s:Nat}(hx:∀y∈x::r,Qs s y)(hs:s+3<=4398046511104)(hn:r.length<=1000): C0 262 [.d (dqs (x::r))] (·=.d (dI (Xvk x r,Xvq x r))):=by
 refine En Tryz.func262 λ_ _ _=>?_
 refine Dz rfl ?_
 refine Ix 0 rfl (u:=dq x) rfl ?_
 refine Ix 0 rfl (u:=dq x) rfl ?_
 refine Dp 1 (r.map dq) rfl rfl (by simp) rfl ?_
 refine Lo (λ(q:Nat×Rat×Rat)=>[(2,.ptr 2 0),(3,.ptr 3 0),(4,.ptr 4 0),(15,.d (dqs r)),(16,.d (.int .i64 (r.map dq).length)),(17,.d (.int .i64 q.1))]) (λq=>[(2,.var zI),(3,.var (.d (dq q.2.1))),(4,.var (.d (dq q.2.2)))]) (λq=>q.1<=r.length/\q.2.1=Xvk x (r.take q.1)/\q.2.2=Xvq x (r.take q.1)) (λq=>r.length-q.1) (0,x,x) [] rfl ⟨W0w _,rfl,rfl⟩ (λ(k,lo,hi) ⟨hk,hlo,hhi⟩=>?_)
 simp only at hk hlo hhi
 have qlo:Qs s lo:=hlo ▸ Xvj (Xux hx k)
 have qhi:Qs s hi:=hhi ▸ Xvp (Xux hx k)
 refine By rfl (λh=>?_) λh=>?_
 . have h:(k:Int)<((r.map dq).length:Nat):=h
   rw[lq] at h
   obtain⟨y,hy⟩:=qat (l:=r) (k:=k) (by omega)
   have qy:Qs s y:=hx y (W1c _ (W0h hy))
   have e:r.take (k+1)=r.take k++[y]:=by rw[W1p,hy];rfl
   have e1:Xvk x (r.take (k+1))=lo2 lo y:=by rw[e,Xvi,hlo]
   have e2:Xvq x (r.take (k+1))=hi2 hi y:=by rw[e,Xvo,hhi]
   have fin:∀lo' hi',lo'=lo2 lo y->hi'=hi2 hi y->k+1<=r.length/\lo'=Xvk x (r.take (k+1))/\hi'=Xvq x (r.take (k+1)):=λlo' hi' a b=>⟨by omega,by rw[a,e1],by rw[b,e2]⟩
   refine Ix k rfl (mp hy) ?_
   refine Ce rfl (Xbz qy qlo (by omega)) ?_
   refine By rfl (λh1=>?_) λh1=>?_
   . refine Ce rfl (Xbz qy qhi (by omega)) ?_
     refine By rfl (λh2=>?_) λh2=>?_
     . refine Ar (k+1:Nat) rfl ?_ (wr (show (k:Int)+1=((k+1:Nat):Int) by omega) (by simp only[inK];omega))
       exact Bk (k+1,y,y) [] rfl (fin y y (if_pos (Yfq.1 h1)).symm (if_pos (Xxi.1 h2)).symm) (by show r.length-(k+1)<r.length-k;omega)
     . refine Ar (k+1:Nat) rfl ?_ (wr (show (k:Int)+1=((k+1:Nat):Int) by omega) (by simp only[inK];omega))
       exact Bk (k+1,y,hi) [] rfl (fin y hi (if_pos (Yfq.1 h1)).symm (if_neg λh=>h2 (Xxi.2 h)).symm) (by show r.length-(k+1)<r.length-k;omega)
   . refine Ce rfl (Xbz qy qhi (by omega)) ?_
     refine By rfl (λh2=>?_) λh2=>?_
     . refine Ar (k+1:Nat) rfl ?_ (wr (show (k:Int)+1=((k+1:Nat):Int) by omega) (by simp only[inK];omega))
       exact Bk (k+1,lo,y) [] rfl (fin lo y (if_neg λh=>h1 (Yfq.2 h)).symm (if_pos (Xxi.1 h2)).symm) (by show r.length-(k+1)<r.length-k;omega)
     . refine Ar (k+1:Nat) rfl ?_ (wr (show (k:Int)+1=((k+1:Nat):Int) by omega) (by simp only[inK];omega))
       exact Bk (k+1,lo,hi) [] rfl (fin lo hi (if_neg λh=>h1 (Yfq.2 h)).symm (if_neg λh=>h2 (Xxi.2 h)).symm) (by show r.length-(k+1)<r.length-k;omega)
 . have h:¬(k:Int)<((r.map dq).length:Nat):=h
   rw[lq] at h
   rw[W0a (by omega)] at hlo hhi
   refine Ce rfl (Xau (z:=0) (by decide)) ?_
   refine Dw rfl ?_
   refine Ce rfl (Xd9 (y:=0) qlo qs0 (by omega)) ?_
   refine Ce rfl (Xd9 (y:=0) qhi qs0 (by omega)) ?_
   exact R1 rfl (Yjp (by rw[W7e,hlo]) (by rw[W7e,hhi]))
section
variable{p q:Rat×Rat}{s t:Nat}
theorem Xdt{x:Rat}(hx:Qs s x)(hs:s+3<=4398046511104): C0 308 [.d (dq x)] (·=.d (dI (x,x))):=by
 have e1:Xvk x [x]=x:=by show lo2 x x=x;unfold lo2;split<;>rfl
 have e2:Xvq x [x]=x:=by show hi2 x x=x;unfold hi2;split<;>rfl
 have:=Xo6 (x:=x) (r:=[x]) (s:=s) (λy hy=>by simp at hy;rw[hy];exact hx) hs (by simp)
 rw[e1,e2] at this
 refine En Tryz.func308 λ_ _ _=>?_
 refine Ce rfl this ?_
 exact R1 rfl (.rf rfl)
theorem Xgm(hp:Q2 s p)(hs:2*s+1<=4398046511104): C0 107 [.d (dI p)] (·=.d (dq (p.2-p.1))):=by
 refine En Tryz.func107 λ_ _ _=>?_
 refine Ce rfl (Xoo hp.2 hp.1 (by omega)) ?_
 exact R1 rfl (.rf rfl)
theorem Xfp(hp:Q2 s p)(hq:Q2 t q)(hs:s+t+1<=4398046511104): C0 180 [.d (dI p),.d (dI q)] (·=.d (dI (Xhz p q))):=by
 refine En Tryz.func180 λ_ _ _=>?_
 refine Dw rfl ?_
 refine Ce rfl (Xd9 hp.1 hq.1 (by omega)) ?_
 refine Ce rfl (Xd9 hp.2 hq.2 (by omega)) ?_
 exact R1 rfl (Yjp rfl rfl)
theorem Xfo(hp:Q2 s p)(hq:Q2 t q)(hs:s+t+3<=4398046511104): C0 181 [.d (dI p),.d (dI q)] (·=.d (dI (Xb0 p q))):=by
 have hh:=Xo6 (x:=p.1*q.1) (r:=[p.1*q.2,p.2*q.1,p.2*q.2]) (s:=s+t) (λy hy=>by
  simp only[W1n,List.not_mem_nil,or_false] at hy
  rcases hy with rfl | rfl | rfl | rfl
  . exact hp.1.mul hq.1
  . exact hp.1.mul hq.2
  . exact hp.2.mul hq.1
  . exact hp.2.mul hq.2) hs (by simp)
 refine En Tryz.func181 λ_ _ _=>?_
 refine Dw rfl ?_
 refine Ce rfl (Xep hp.1 hq.1 (by omega)) ?_
 refine Ce rfl (Xep hp.1 hq.2 (by omega)) ?_
 refine Ce rfl (Xep hp.2 hq.1 (by omega)) ?_
 refine Ce rfl (Xep hp.2 hq.2 (by omega)) ?_
 refine Ce rfl hh ?_
 exact R1 rfl (.rf rfl)
end
theorem Yj3{n m r:Nat}(hr:n/m=r)(hm:0<m)(hn:n<9223372036854775808): arB .quo .i64 n m r:=show _/\_ from⟨by omega,by
 rw[show Int.tdiv (n:Int) (m:Int)=((n/m:Nat):Int) from rfl,hr]
 have:=W3g n m
 exact wI (by omega)⟩
theorem Xc5{n:Nat}(hn:n<=8796093022200): C0 257 [.d (.int .i64 n)] (·=.d (dz (2^n:Int))):=by
 have e:(2^n:Int)=((2^n:Nat):Int):=by simp
 refine En Tryz.func257 λ_ _ _=>?_
 refine Ar (n/32:Nat) rfl ?_ (Yj3 (m:=32) rfl (by decide) (by omega))
 refine Ar (n/32+1:Nat) rfl ?_
 refine Mk (n/32+1) rfl (by omega) ?_
 refine Ar (n/32:Nat) rfl ?_ (Yj3 (m:=32) rfl (by decide) (by omega))
 refine Ar (n%32:Nat) rfl ?_ (show _/\_ from⟨by decide,Xr8 n 32⟩)
 refine Ar (2^(n%32):Nat) rfl ?_ (Xf9 (W1x _ (by decide)))
 refine Eo (n/32) rfl (by omega) ?_
 refine Sto rfl (by simp) rfl ?_
 refine R1 rfl (.sd (.pd (.bd (by rw[e];exact(decide_eq_false (by have:=Int.pow_pos (n:=2) (m:=n) (by decide);omega)).symm)) (.own rfl (by simp) ?_)))
 rw[e,W1g,Xl4,W1d,W0a (by simp),<-ms,W2g]
 rfl
theorem Xb7(x:Rat): (x.den:Int)≠0:=by have:=x.den_nz;omega
section
variable{x:Rat}{s b:Nat}
theorem Xw0(hx:Qs s x)(hb:b<=1099511627776)(hs:s<=1099511627776): C0 352 [.d (dq x),.d (.int .i64 b)] (·=.d (dq (dnQ x b))):=by
 have hp:=hx.mul (Xoq b)
 have h2:Zs (b+1) (2^b:Int):=Zs.two (W0b _)
 have hn2:=(hx.n.mul h2).len (by omega)
 have l1:=hx.n.len (by omega)
 have l2:=h2.len (by omega)
 have l3:=hx.d.len (by omega)
 have hm:=Make_ok (p:=s+b+1) (a:=(x*pw b).floor) (b:=2^b) ((Zs.floor hp).mono (by omega)) (h2.mono (by omega)) (by omega) (Xf5 b)
 have hd:=DivMod_ok (a:=x.num*2^b) (b:=x.den) (by omega) (by omega) (Xb7 x)
 rw[Xic] at hd
 refine En Tryz.func352 λ_ _ _=>?_
 refine Ce rfl (Xc5 (n:=b) (by omega)) ?_
 refine Dz rfl ?_
 refine Ce rfl (Mul_ok (by omega) (by omega)) ?_
 refine Ce rfl hd ?_
 refine Ce rfl hm ?_
 exact R1 rfl (.rf rfl)
theorem Yl0(hx:Qs s x)(hb:b<=1099511627776)(hs:s<=1099511627776): C0 353 [.d (dq x),.d (.int .i64 b)] (·=.d (dq (upQ x b))):=by
 refine En Tryz.func353 λ_ _ _=>?_
 refine Ce rfl (Xfn hx (by omega)) ?_
 refine Ce rfl (Xw0 hx.neg hb hs) ?_
 refine Ce rfl (Xfn (Xw2 hx.neg b) (by omega)) ?_
 exact R1 rfl (.rf rfl)
theorem Xy6{p:Rat×Rat}(hp:Q2 s p)(hb:b<=1099511627776)(hs:s<=1099511627776): C0 309 [.d (dI p),.d (.int .i64 b)] (·=.d (dI (rnd p b))):=by
 refine En Tryz.func309 λ_ _ _=>?_
 refine Dw rfl ?_
 refine Ce rfl (Xw0 hp.1 hb hs) ?_
 refine Ce rfl (Yl0 hp.2 hb hs) ?_
 exact R1 rfl (Yjp rfl rfl)
theorem Xde(hx:Qs s x)(hx0:0<=x)(hb:b<=1099511627776)(hs:s<=1099511627776): C0 354 [.d (dq x),.d (.int .i64 b)] (·=.d (dq (Xdy x b))):=by
 have h2:Zs (2*b+1) (2^(2*b):Int):=Zs.two (W0b _)
 have hn2:=(hx.n.mul h2).len (by omega)
 have qx:=Ybk (b:=b) hx
 have nx:=Xhm (b:=b) hx0
 have zx:=Ybu qx nx
 have fx:=Zs.floor qx
 rw[Xev nx] at fx
 have lx:=Yeu (show (sq2 x b).floor.toNat<_ from fx)
 have l1:=hx.n.len (by omega)
 have l2:=h2.len (by omega)
 have l3:=hx.d.len (by omega)
 have hd:=DivMod_ok (a:=x.num*2^(2*b)) (b:=x.den) (by omega) (by omega) (Xb7 x)
 rw[Xyy b hx0] at hd
 refine En Tryz.func354 λ_ _ _=>?_
 refine Dz rfl ?_
 refine Ar (2*b:Nat) rfl ?_
 refine Ce rfl (Xc5 (n:=2*b) (by omega)) ?_
 refine Ce rfl (Mul_ok (by omega) (by omega)) ?_
 refine Ce rfl hd ?_
 refine Ce rfl (Sqrt_ok (a:=(sq2 x b).floor.toNat) (by omega)) ?_
 refine Dz rfl ?_
 refine Ce rfl (Xc5 (n:=b) (by omega)) ?_
 refine Ce rfl (Make_ok (p:=s+(2*b+2)) (a:=(rtF (sq2 x b):Int)) (b:=2^b) zx (Zs.two (by omega)) (by omega) (Xf5 b)) ?_
 exact R1 rfl (.rf rfl)
theorem Xy7{p:Rat×Rat}(hp:Q2 s p)(hp0:0<=p.2)(hb:b<=1099511627776)(hs1:1<=s)(hs:s<=1099511627776): C0 310 [.d (dI p),.d (.int .i64 b)] (·=.d (dI (rts p b))):=by
 have hm:=Yce hp.1 hs1
 have hmk:=Make_ok (p:=b+1) (a:=1) (b:=2^b) (Zs.one (by omega)) (Zs.two (W0b _)) (by omega) (Xf5 b)
 refine En Tryz.func310 λ_ _ _=>?_
 refine Ce rfl (Xe6 hp.1 (by omega)) ?_
 refine By rfl (λh=>?_) λh=>?_
 . have e:mx0 p.1=0:=if_pos (Yka.1 h)
   rw[e] at hm
   refine Ce rfl (Xau (z:=0) (by decide)) ?_
   refine Ce rfl (FromInt_ok (z:=1) (by decide)) ?_
   refine Ce rfl (Xc5 (n:=b) (by omega)) ?_
   refine Ce rfl hmk ?_
   refine Dw rfl ?_
   refine Ce rfl (Xde (x:=0) hm W6u hb hs) ?_
   refine Ce rfl (Xde hp.2 hp0 hb hs) ?_
   refine Ce rfl (Xd9 (Xk8 hp.2 hp0 b) (Xij b) (by omega)) ?_
   exact R1 rfl (Yjp (by show dq _=dq (Xdy (mx0 p.1) b);rw[e]) rfl)
 . have e:mx0 p.1=p.1:=if_neg (λe=>h (Yka.2 e))
   refine Ce rfl (FromInt_ok (z:=1) (by decide)) ?_
   refine Ce rfl (Xc5 (n:=b) (by omega)) ?_
   refine Ce rfl hmk ?_
   refine Dw rfl ?_
   refine Ce rfl (Xde hp.1 (by rw[<-e];exact Xhq _) hb hs) ?_
   refine Ce rfl (Xde hp.2 hp0 hb hs) ?_
   refine Ce rfl (Xd9 (Xk8 hp.2 hp0 b) (Xij b) (by omega)) ?_
   exact R1 rfl (Yjp (by show dq _=dq (Xdy (mx0 p.1) b);rw[e]) rfl)
end
theorem Xst{k:Nat}: ∀ {s b:Nat} {t:Tw k} {a:Tow.El k},Xb9 k t->TS s k t->Sz s (toL k a)->1<=s->k<=16->eB s b k<=274877906944->b<=274877906944->C0 258 [.d (dt t),.d (de a),.d (.int .i64 b)] (·=.d (dI (enc k t a b))):=by
 induction k with
 | zero =>
  intro s b t a hR hT ha hs1 hk hs hb
  have hs:s<=274877906944:=hs
  have key:∀y:Rat,Qs s y->C0 258 [.d (dts []),.d (dqs [y]),.d (.int .i64 b)] (·=.d (dI (y,y))):=λy hy=>by
   refine En Tryz.func258 λ_ _ _=>?_
   refine Yes rfl rfl ?_
   refine Ix 0 rfl (u:=dq y) rfl ?_
   refine Ce rfl (Xdt hy (by omega)) ?_
   exact R1 rfl (.rf rfl)
  exact key a (ha.qs (W0i.2 rfl))
 | succ k ih =>
  intro s b t a hR hT ha hs1 hk hs hb
  have hx:Sz s (toL k a.1):=Sz.left ha
  have hy:Sz s (toL k a.2):=Sz.right ha
  have hge:=Yae s b k
  have hs':3*eB s b k+4*b+6<=274877906944:=hs
  have qu:=Xjg (b:=b) hR.1 hT.1 hx hs1
  have qv:=Xjg (b:=b) hR.1 hT.1 hy hs1
  have qr:=Xjg (b:=b) hR.1 hT.1 hT.2 hs1
  have hhi:=Ycy hR b
  have qs:=Ybs (b:=b) qr hhi (by omega)
  have qm:=Xcg qv qs
  have qa:=Xma qu qm
  have hlen:=Xab k
  have hp:=p16 hk
  refine En Tryz.func258 λ_ _ _=>?_
  refine No rfl (by show ¬((((toT k t.1++[toL k t.2]).map dqs).length:Nat):Int)=0;rw[twL];omega) ?_
  refine Ar k rfl ?_ (tw1 t (by omega))
  refine Ar (2^k:Nat) rfl ?_ (hvq a (by omega))
  refine Tk k ((toT k t.1).map dqs) rfl rfl (Xjq t) (twT t) ?_
  refine Tk (2^k) ((toL k a.1).map dq) rfl rfl (Xci a) (hvT a) ?_
  refine Ce rfl (ih hR.1 hT.1 hx hs1 (by omega) (by omega) hb) ?_
  refine Dp (2^k) ((toL k a.2).map dq) rfl rfl (Xci a) (hvD a) ?_
  refine Ce rfl (Xe3 (l:=toL k a.2) hy.ps (by omega) (by rw[hlen];have:=p16 (show k<=16 by omega);omega)) ?_
  refine By rfl (λh=>?_) λh=>?_
  . have he:enc (k+1) t a b=enc k t.1 a.1 b:=if_pos h
    exact R1 rfl (by rw[he];exact .rf rfl)
  . have he:enc (k+1) t a b=rnd (Xhz (enc k t.1 a.1 b) (Xb0 (enc k t.1 a.2 b) (rts (enc k t.1 t.2 b) b))) b:=if_neg h
    refine Dz rfl ?_
    refine Dp (2^k) ((toL k a.2).map dq) rfl rfl (Xci a) (hvD a) ?_
    refine Ce rfl (ih hR.1 hT.1 hy hs1 (by omega) (by omega) hb) ?_
    refine Ix k rfl (twU t) ?_
    refine Ce rfl (ih hR.1 hT.1 hT.2 hs1 (by omega) (by omega) hb) ?_
    refine Dw rfl ?_
    refine Ce rfl (Xy7 qr hhi (by omega) (by omega) (by omega)) ?_
    refine Ce rfl (Xfo qv qs (by omega)) ?_
    refine Ce rfl (Xfp qu qm (by omega)) ?_
    refine Ce rfl (Xy6 qa (by omega) (by omega)) ?_
    rw[he]
    exact R1 rfl (.rf rfl)
theorem Xhj{k:Nat}{t:Tw k}{a:Tow.El k}{bits P s:Nat}(hR:Xb9 k t)(hw:∀b,P<=b->Wid (enc k t a b) bits)(hT:TS s k t)(ha:Sz s (toL k a))(hs1:1<=s)(hk:k<=16)(hv:vB s k s<=4398046511104)(hb:bits<=1024)(hP:P<=1000000000)(he:eB s (2*(P+bits+16)) k<=274877906944):
 C0 178 [.d (dt t),.d (de a),.d (.int .i64 bits)] λv=>∃p:Rat×Rat,v=.d (dI p)/\inI k t a p.1 p.2/\Wid p bits/\Q2 (eB s (2*(P+bits+16)) k) p:=by
 have hsb:s<=4398046511104:=W0k (Xd2 k s) hv
 obtain⟨B,hB⟩:∃B,B=eB s (2*(P+bits+16)) k:=⟨_,rfl⟩
 rw[<-hB] at he |-
 have hq:∀b,b<=2*(P+bits+16)->Q2 B (enc k t a b):=λb hb=>(Xjg hR hT ha hs1).mono (by rw[hB];exact Xpc hb k)
 refine En Tryz.func178 λ_ _ _=>?_
 refine No rfl (by omega) ?_
 refine No rfl (by omega) ?_
 refine Ce rfl (Xhd (l:=[toL k a]) (s:=s) hT hR hk hv hsb (λx hx=>⟨a,W0i.1 hx,ha⟩) (by simp) hsb) ?_
 refine No rfl (by simp) ?_
 refine Ce rfl (FromInt_ok (z:=1) (by decide)) ?_
 refine Ce rfl (Xc5 (n:=bits) (by omega)) ?_
 refine Ce rfl (Make_ok (p:=bits+1) (a:=1) (b:=2^bits) (Zs.one (by omega)) (Zs.two (W0b _)) (by omega) (Xf5 bits)) ?_
 refine Ar (bits+16:Nat) rfl ?_
 refine Lo (λ(g:Nat)=>[(0,.d (dt t)),(1,.d (de a)),(6,.ptr 6 0),(7,.ptr 7 0),(9,.d (.int .i64 g))]) (λ_=>[(6,.var (.st (.pr (.st (.pr (.st (.pr (.b false) .nil)) (.st (.pr (.b false) .nil)))) (.st (.pr (.st (.pr (.b false) .nil)) (.st (.pr (.b false) .nil))))))),(7,.var (.d (dq (Rat.divInt 1 (2^bits)))))]) (λg=>1<=g/\g<=2*(P+bits+16)) (λg=>2*(P+bits+16)-g) (bits+16) [] rfl ⟨by omega,by omega⟩ (λg ⟨hg1,hg⟩=>?_)
 have hge:=hq g hg
 have heB:eB s g k<=274877906944:=W0k (Xpc hg k) (by omega)
 refine Ce rfl (Xst hR hT ha hs1 hk heB (by omega)) ?_
 refine Dw rfl ?_
 refine Ce rfl (Xgm hge (by omega)) ?_
 refine Ce rfl (Xbz (by rw[W6d];exact hge.2.add hge.1.neg) (Xij bits) (by omega)) ?_
 refine By rfl (λh=>?_) λh=>?_
 . exact Rt rfl (.one (.rf rfl) rfl rfl) ⟨_,rfl,Xhr hR a g,⟨Xwy hR a g,Yly.1 h⟩,hge⟩
 . have hgP:g<P:=by
    by_cases hgP:g<P
    . exact hgP
    . exact absurd (Yly.2 (hw g (by omega)).2) h
   refine Ar (2*g:Nat) rfl ?_
   exact Bk (2*g) [] rfl ⟨by omega,by omega⟩ (by show 2*(P+bits+16)-2*g<2*(P+bits+16)-g;omega)
end
end Go.Proofs.YtegepebhkhhhoaaGreatDoor
namespace Go.Proofs.YtegepebhkhhhoaaGreatDoor.P20
open Go Go.Vm Go.Num Go.Tow Go.Proofs.YtegepebhkhhhoaaGreatDoor
section
variable{s b:Nat}{x:Rat}
def Ygi(p q:Rat×Rat): Rat×Rat:=(p.1-q.2,p.2-q.1)
theorem Xwc{n:Nat}(hn:n<=8796093022200): C0 368 [.d (.int .i64 n)] (·=.d (dz (2^n:Int))):=by
 have e:(2^n:Int)=((2^n:Nat):Int):=by simp
 refine En Tryz.func368 λ_ _ _=>?_
 refine Ar (n/32:Nat) rfl ?_ (Yj3 (m:=32) rfl (by decide) (by omega))
 refine Ar (n/32+1:Nat) rfl ?_
 refine Mk (n/32+1) rfl (by omega) ?_
 refine Ar (n/32:Nat) rfl ?_ (Yj3 (m:=32) rfl (by decide) (by omega))
 refine Ar (n%32:Nat) rfl ?_ (show _/\_ from⟨by decide,Xr8 n 32⟩)
 refine Ar (2^(n%32):Nat) rfl ?_ (Xf9 (W1x _ (by decide)))
 refine Eo (n/32) rfl (by omega) ?_
 refine Sto rfl (by simp) rfl ?_
 refine R1 rfl (.sd (.pd (.bd (by rw[e];exact(decide_eq_false (Int.not_lt.2 (W5b _))).symm)) (.own rfl (by simp) ?_)))
 rw[e,W1g,Xl4,W1d,W0a (by simp),<-ms,W2g]
 rfl
theorem Xwb{p q:Rat×Rat}{t:Nat}(hp:Q2 s p)(hq:Q2 t q)(hs:s+t+1<=4398046511104): C0 314 [.d (dI p),.d (dI q)] (·=.d (dI (Ygi p q))):=by
 refine En Tryz.func314 λ_ _ _=>?_
 refine Dw rfl ?_
 refine Ce rfl (Xoo hp.1 hq.2 (by omega)) ?_
 refine Ce rfl (Xoo hp.2 hq.1 (by omega)) ?_
 exact R0
theorem Xib(hx:Qs s x)(hb:b<=1099511627776)(hs:s<=1099511627776): C0 370 [.d (dq x),.d (dz (2^b:Int))] (·=.d (dz (x*pw b).floor)):=by
 have h2:Zs (b+1) (2^b:Int):=Zs.two (W0b _)
 have hn2:=(hx.n.mul h2).len (by omega)
 have l1:=hx.n.len (by omega)
 have l2:=h2.len (by omega)
 have l3:=hx.d.len (by omega)
 have hd:=DivMod_ok (a:=x.num*2^b) (b:=x.den) (by omega) (by omega) (Xb7 x)
 rw[Xic] at hd
 refine En Tryz.func370 λ_ _ _=>?_
 refine Dz rfl ?_
 refine Ce rfl (Mul_ok (by omega) (by omega)) ?_
 refine Ce rfl hd ?_
 exact R0
theorem Yft(hx:Qs s x)(hb:b<=1099511627776)(hs:s<=1099511627776): C0 371 [.d (dq x),.d (dz (2^b:Int))] (·=.d (dz (-((-x)*pw b).floor))):=by
 have hf:=Zs.floor (hx.neg.mul (Xoq b))
 have hl:=hf.len (by omega)
 refine En Tryz.func371 λ_ _ _=>?_
 refine Dw rfl ?_
 refine Ce rfl (Xfn hx (by omega)) ?_
 refine Ce rfl (Xib hx.neg hb hs) ?_
 refine Ce rfl (Neg_ok (by omega)) ?_
 exact R0
theorem Xu1{n:Int}{p:Nat}(hn:Zs p n)(hp:p<=1099511627776)(hb:b<=1099511627776): C0 369 [.d (dz n),.d (dz (2^b:Int))] (·=.d (dq (Rat.divInt n (2^b)))):=by
 refine En Tryz.func369 λ_ _ _=>?_
 refine Ce rfl (Make_ok (p:=p+b+1) (hn.mono (by omega)) (Zs.two (by omega)) (by omega) (Xf5 b)) ?_
 exact R0
theorem Yg7{x:Rat}{b:Nat}: upQ x b=Rat.divInt (-((-x)*pw b).floor) (2^b):=by
 unfold upQ dnQ
 rw[Rat.neg_divInt]
theorem Xet{p:Rat×Rat}(hp:Q2 s p)(hb:b<=4096)(hs:s<=1099511627): C0 357 [.d (dI p),.d (.int .i64 b)] (·=.d (dI (rnd p b))):=by
 have h1:=Zs.floor (hp.1.mul (Xoq b))
 have h2:=(Zs.floor (hp.2.neg.mul (Xoq b))).neg
 refine En Tryz.func357 λ_ _ _=>?_
 refine No rfl (by omega) ?_
 refine No rfl (by omega) ?_
 refine Ce rfl (Xwc (n:=b) (by omega)) ?_
 refine Dw rfl ?_
 refine Ce rfl (Xib hp.1 (by omega) (by omega)) ?_
 refine Ce rfl (Xu1 h1 (by omega) (by omega)) ?_
 refine Ce rfl (Yft hp.2 (by omega) (by omega)) ?_
 refine Ce rfl (Xu1 h2 (by omega) (by omega)) ?_
 rw[<-Yg7]
 exact R0
def Xcd(p q:Rat×Rat): Rat×Rat:=(hi2 p.1 q.1,lo2 p.2 q.2)
theorem Xzy{p q:Rat×Rat}(hp:Q2 s p)(hq:Q2 s q)(hs:s<=1099511627)(h:¬(Xcd p q).2<(Xcd p q).1): C0 312 [.d (dI p),.d (dI q)] (·=.tup (.pr (.d (dI (Xcd p q))) (.b true))):=by
 have q1:Qs s (Xcd p q).1:=Ycp hp.1 hq.1
 have q2:Qs s (Xcd p q).2:=Ych hp.2 hq.2
 have hh:=Xo6 (x:=(Xcd p q).1) (r:=[(Xcd p q).2]) (s:=s) (λy hy=>by
  simp only[W1n,List.not_mem_nil,or_false] at hy
  rcases hy with rfl | rfl
  . exact q1
  . exact q2) (by omega) (by simp)
 have e1:Xvk (Xcd p q).1 [(Xcd p q).2]=(Xcd p q).1:=if_neg h
 have e2:Xvq (Xcd p q).1 [(Xcd p q).2]=(Xcd p q).2:=by
  show (if (Xcd p q).1<(Xcd p q).2 then (Xcd p q).2 else (Xcd p q).1)=_
  split
  . rfl
  . grind
 rw[e1,e2] at hh
 have fin:∀ {l u:Rat},l=(Xcd p q).1->u=(Xcd p q).2->C0 262 [.d (dqs [l,u])] (·=.d (dI (Xcd p q))):=λe f=>by rw[e,f];exact hh
 have nlt:∀ {l u:Rat},l=(Xcd p q).1->u=(Xcd p q).2->¬Xnp l u>0:=λe f=>by rw[e,f,Xxi];exact h
 refine En Tryz.func312 λ_ _ _=>?_
 refine Dz rfl ?_
 refine Ce rfl (Xbz hq.1 hp.1 (by omega)) ?_
 refine By rfl (λh1=>?_) λh1=>?_
 . have e1:q.1=(Xcd p q).1:=(if_pos (Xxi.1 h1)).symm
   refine Ce rfl (Xbz hq.2 hp.2 (by omega)) ?_
   refine By rfl (λh2=>?_) λh2=>?_
   . have e2:q.2=(Xcd p q).2:=(if_pos (Yfq.1 h2)).symm
     refine Ce rfl (Xbz (x:=q.1) (y:=q.2) hq.1 hq.2 (by omega)) ?_
     refine No rfl (nlt e1 e2) ?_
     refine Ce rfl (fin e1 e2) ?_
     exact RTt rfl (.cons (.rf rfl) (.one (.rf rfl) (λ_ _ e=>by cases e) (λ_ _ e=>by cases e)))
   . have e2:p.2=(Xcd p q).2:=(if_neg λh=>h2 (Yfq.2 h)).symm
     refine Ce rfl (Xbz (x:=q.1) (y:=p.2) hq.1 hp.2 (by omega)) ?_
     refine No rfl (nlt e1 e2) ?_
     refine Ce rfl (fin e1 e2) ?_
     exact RTt rfl (.cons (.rf rfl) (.one (.rf rfl) (λ_ _ e=>by cases e) (λ_ _ e=>by cases e)))
 . have e1:p.1=(Xcd p q).1:=(if_neg λh=>h1 (Xxi.2 h)).symm
   refine Ce rfl (Xbz hq.2 hp.2 (by omega)) ?_
   refine By rfl (λh2=>?_) λh2=>?_
   . have e2:q.2=(Xcd p q).2:=(if_pos (Yfq.1 h2)).symm
     refine Ce rfl (Xbz (x:=p.1) (y:=q.2) hp.1 hq.2 (by omega)) ?_
     refine No rfl (nlt e1 e2) ?_
     refine Ce rfl (fin e1 e2) ?_
     exact RTt rfl (.cons (.rf rfl) (.one (.rf rfl) (λ_ _ e=>by cases e) (λ_ _ e=>by cases e)))
   . have e2:p.2=(Xcd p q).2:=(if_neg λh=>h2 (Yfq.2 h)).symm
     refine Ce rfl (Xbz (x:=p.1) (y:=p.2) hp.1 hp.2 (by omega)) ?_
     refine No rfl (nlt e1 e2) ?_
     refine Ce rfl (fin e1 e2) ?_
     exact RTt rfl (.cons (.rf rfl) (.one (.rf rfl) (λ_ _ e=>by cases e) (λ_ _ e=>by cases e)))
end
section
def sm(p:Rat×Rat): Bool:=Nat.ble (p.1.num.natAbs+1) (2^250)&&Nat.ble (p.1.den+1) (2^250)&&Nat.ble (p.2.num.natAbs+1) (2^250)&&Nat.ble (p.2.den+1) (2^250)
theorem Xn5{p:Rat×Rat}(h:sm p=true): Q2 250 p:=by
 unfold sm at h
 simp only[W0f] at h
 obtain⟨⟨⟨h1,h2⟩,h3⟩,h4⟩:=h
 have h1:=W1i h1
 have h2:=W1i h2
 have h3:=W1i h3
 have h4:=W1i h4
 exact⟨⟨h1,by show ((p.1.den:Int)).natAbs<_;rw[W1g];exact h2⟩,⟨h3,by show ((p.2.den:Int)).natAbs<_;rw[W1g];exact h4⟩⟩
def Xme(b k:Nat)(P:Rat×Rat): Rat×Rat:=rnd (Xb0 P (Rat.divInt 1 (2*k+1:Nat),Rat.divInt 1 (2*k+1:Nat))) b
def Ykt(k:Nat)(S T:Rat×Rat): Rat×Rat:=if k%2=0 then Xhz S T else Ygi S T
def Ylo(b:Nat)(Q:Rat×Rat): Nat->Nat->Rat×Rat->Rat×Rat->Option (Rat×Rat)
 | 0,_,_,_=>none
 | n+1,k,P,S=>if sm P&&sm (Xme b k P)&&sm S&&sm (Ykt k S (Xme b k P)) then
  (if 2*k+1>b then some (Xhz (Ykt k S (Xme b k P)) (-(Xme b k P).2,(Xme b k P).2)) else Ylo b Q n (k+1) (rnd (Xb0 P Q) b) (Ykt k S (Xme b k P))) else none
def Yf5(z:Rat)(b:Nat): Rat×Rat:=rnd (z,z) b
def Ygq(z:Rat)(b:Nat): Rat×Rat:=rnd (Xb0 (Yf5 z b) (Yf5 z b)) b
def Xyf(z:Rat)(b:Nat): Option (Rat×Rat):=if sm (z,z)&&sm (Yf5 z b)&&sm (Ygq z b) then Ylo b (Ygq z b) 150 0 (Yf5 z b) (0,0) else none
theorem Ypd{a m:Nat}(hm:0<m): arB .rem .i64 a m (a%m:Nat):=R9.remN hm
theorem Ymr{a b:Nat}(h:a*b<9223372036854775808): arB .mul .i64 a b (a*b:Nat):=by
 show IntKind.i64.wrap ((a:Int)*b)=((a*b:Nat):Int)
 rw[W2o]
 exact wI (by rw[<-W2o];omega)
theorem Xwn{k:Nat}(hk:k<=1000): Qs 40 (Rat.divInt 1 (2*k+1:Nat)):=Qs.divInt (Zs.one (by decide)) (show (((2*k+1:Nat):Int)).natAbs<2^40 by rw[W1g];omega) (by omega)
theorem Yks{z:Rat}{b:Nat}{R:Rat×Rat}(hb:b<=300)(h:Xyf z b=some R): C0 315 [.d (dq z),.d (.int .i64 b)] (·=.d (dI R)):=by
 unfold Xyf at h
 split at h<;>try cases h
 rename_i hc
 simp only[W0f] at hc
 obtain⟨⟨c1,c2⟩,c3⟩:=hc
 have q1:=(Xn5 c1)
 have q2:=(Xn5 c2)
 have q3:=(Xn5 c3)
 refine En Tryz.func315 λ_ _ _=>?_
 refine Ce rfl (Xdt q1.1 (by decide)) ?_
 refine Ce rfl (Xet q1 (by omega) (by decide)) ?_
 refine Ce rfl (Xfo (p:=Yf5 z b) (q:=Yf5 z b) q2 q2 (by decide)) ?_
 refine Ce rfl (Xet (Xcg q2 q2) (by omega) (by decide)) ?_
 refine Ce rfl (Xau (z:=0) (by decide)) ?_
 refine Ce rfl (Xdt (x:=0) qs0 (by decide)) ?_
 refine Lo (λ(s:Nat×Nat×(Rat×Rat)×(Rat×Rat))=>[(1,.d (.int .i64 b)),(4,.ptr 4 0),(5,.ptr 5 0),(6,.ptr 6 0),(7,.ptr 7 0),(8,.d (.int .i64 s.2.1))]) (λs=>[(4,.var zI),(5,.var (.d (dI s.2.2.1))),(6,.var (.d (dI (Ygq z b)))),(7,.var (.d (dI s.2.2.2)))]) (λs=>s.1+s.2.1<=150/\Ylo b (Ygq z b) s.1 s.2.1 s.2.2.1 s.2.2.2=some R) (λs=>s.1) (150,0,Yf5 z b,(0,0)) [] rfl ⟨W0b _,h⟩ (λ(n,k,P,S) ⟨hn,hR⟩=>?_)
 simp only at hn hR
 cases n with
 | zero=>cases hR
 | succ n =>
  unfold Ylo at hR
  split at hR<;>try cases hR
  rename_i hc
  simp only[W0f] at hc
  obtain⟨⟨⟨c4,c5⟩,c6⟩,c7⟩:=hc
  have q4:=(Xn5 c4)
  have q5:=(Xn5 c5)
  have q6:=(Xn5 c6)
  have q7:=(Xn5 c7)
  have fq:Q2 40 (Rat.divInt 1 (2*k+1:Nat),Rat.divInt 1 (2*k+1:Nat)):=⟨Xwn (by omega),Xwn (by omega)⟩
  refine Dw rfl ?_
  refine Ar (2*k:Nat) rfl ?_ (Ymr (a:=2) (b:=k) (by omega))
  refine Ar (2*k+1:Nat) rfl ?_ (wr (show ((2*k:Nat):Int)+1=((2*k+1:Nat):Int) by omega) (by simp only[inK];omega))
  refine Ce rfl (Xcm (a:=1) (b:=(2*k+1:Nat)) (by omega) (by omega)) ?_
  refine Ce rfl (Xdt fq.1 (by decide)) ?_
  refine Ce rfl (Xfo q4 fq (by decide)) ?_
  refine Ce rfl (Xet (Xcg q4 fq) (by omega) (by decide)) ?_
  refine Ar (k%2:Nat) rfl ?_ (Ypd (a:=k) (m:=2) (by decide))
  refine By rfl (λh1=>?_) λh1=>?_
  . have eS:Ykt k S (Xme b k P)=Xhz S (Xme b k P):=if_pos (by omega)
    rw[eS] at hR q7
    refine Ce rfl (Xfp q6 q5 (by decide)) ?_
    refine Ar (2*k:Nat) rfl ?_ (Ymr (a:=2) (b:=k) (by omega))
    refine Ar (2*k+1:Nat) rfl ?_ (wr (show ((2*k:Nat):Int)+1=((2*k+1:Nat):Int) by omega) (by simp only[inK];omega))
    refine By rfl (λh2=>?_) λh2=>?_
    . rw[if_pos (by omega)] at hR
      injection hR with hR
      refine Dw rfl ?_
      refine Ce rfl (Xfn q5.2 (by decide)) ?_
      refine Ce rfl (Xfp (p:=Xhz S (Xme b k P)) (q:=(-(Xme b k P).2,(Xme b k P).2)) q7 ⟨q5.2.neg,q5.2⟩ (by decide)) ?_
      rw[hR]
      exact R0
    . rw[if_neg (by omega)] at hR
      refine Ce rfl (Xfo q4 q3 (by decide)) ?_
      refine Ce rfl (Xet (Xcg q4 q3) (by omega) (by decide)) ?_
      refine Ar (k+1:Nat) rfl ?_ (wr (show (k:Int)+1=((k+1:Nat):Int) by omega) (by simp only[inK];omega))
      exact Bk (n,k+1,rnd (Xb0 P (Ygq z b)) b,Xhz S (Xme b k P)) [] rfl ⟨by show n+(k+1)<=150;omega,hR⟩ (show n<n+1 by omega)
  . have eS:Ykt k S (Xme b k P)=Ygi S (Xme b k P):=if_neg (by omega)
    rw[eS] at hR q7
    refine Ce rfl (Xwb q6 q5 (by decide)) ?_
    refine Ar (2*k:Nat) rfl ?_ (Ymr (a:=2) (b:=k) (by omega))
    refine Ar (2*k+1:Nat) rfl ?_ (wr (show ((2*k:Nat):Int)+1=((2*k+1:Nat):Int) by omega) (by simp only[inK];omega))
    refine By rfl (λh2=>?_) λh2=>?_
    . rw[if_pos (by omega)] at hR
      injection hR with hR
      refine Dw rfl ?_
      refine Ce rfl (Xfn q5.2 (by decide)) ?_
      refine Ce rfl (Xfp (p:=Ygi S (Xme b k P)) (q:=(-(Xme b k P).2,(Xme b k P).2)) q7 ⟨q5.2.neg,q5.2⟩ (by decide)) ?_
      rw[hR]
      exact R0
    . rw[if_neg (by omega)] at hR
      refine Ce rfl (Xfo q4 q3 (by decide)) ?_
      refine Ce rfl (Xet (Xcg q4 q3) (by omega) (by decide)) ?_
      refine Ar (k+1:Nat) rfl ?_ (wr (show (k:Int)+1=((k+1:Nat):Int) by omega) (by simp only[inK];omega))
      exact Bk (n,k+1,rnd (Xb0 P (Ygq z b)) b,Ygi S (Xme b k P)) [] rfl ⟨by show n+(k+1)<=150;omega,hR⟩ (show n<n+1 by omega)
end
end Go.Proofs.YtegepebhkhhhoaaGreatDoor.P20
namespace Go.Proofs.YtegepebhkhhhoaaGreatDoor.P9
open Go Go.Vm Go.Num Go.Tow Go.Proofs.YtegepebhkhhhoaaGreatDoor
theorem Yoz{a:Nat}(h:a<4611686018427387904): arB .and .i64 a 1 (a%2:Nat):=by
 show IntKind.i64.wrap _=_
 have e:(BitVec.ofInt 64 (a:Int)&&&BitVec.ofInt 64 1).toNat=a%2:=by
  rw[BitVec.toNat_and,W6c,W6c,show ((a:Int)%((2^64:Nat):Int)).toNat=a by omega,show ((1:Int)%((2^64:Nat):Int)).toNat=1 by omega,Nat.and_one_is_mod]
 rw[show IntKind.bits .i64=64 from rfl,e]
 exact wI (by omega)
theorem Xgf{l:List Rat}{p i:Nat}(hl:Ps p l)(hp:p<=8796093022208)(hi:i<=63)(hn:l.length<=1048576): C0 284 [.d (dqs l),.d (.int .i64 i)] (·=.b (dc (oc l i))):=by
 refine En Tryz.func284 λ_ _ _=>?_
 refine Lo (λk:Nat=>[(1,.d (.int .i64 i)),(7,.d (dqs l)),(8,.d (.int .i64 (l.map dq).length)),(9,.d (.int .i64 k))]) (λ_=>[]) (λk=>k<=l.length/\∀q x,q<k->l[q]?=some x->q/2^i%2=1->x=0) (λk=>l.length-k) 0 [] rfl ⟨by omega,λq x h=>by omega⟩ λk ⟨hk,ht⟩=>?_
 refine By rfl (λh=>?_) λh=>?_<;>simp only[lq] at h
 . obtain⟨x,hx⟩:=qat (l:=l) (k:=k) (by omega)
   have next:(k/2^i%2=1->x=0)->k+1<=l.length/\∀q y,q<k+1->l[q]?=some y->q/2^i%2=1->y=0:=λh1=>⟨by omega,λq y hq hy hb=>by
    by_cases e:q=k
    . subst e;rw[hx] at hy;injection hy with hy;rw[<-hy];exact h1 hb
    . exact ht q y (by omega) hy hb⟩
   refine Ix k rfl (mp hx) ?_
   refine Ar (k/2^i:Nat) rfl ?_ (R9.shrI hi)
   refine Ar (k/2^i%2:Nat) rfl ?_ (Yoz (by have:=W3g k (2^i);omega))
   refine By rfl (λh1=>?_) λh1=>?_
   . refine Ce rfl (Xe6 (hl x (W0h hx)) hp) ?_
     refine By rfl (λh2=>?_) λh2=>?_
     . exact R1 rfl (.bp ⟨λ_=>⟨k,x,hx,by omega,R9.num0.1 h2⟩,λ_=>rfl⟩)
     . refine Ar (k+1:Nat) rfl ?_
       exact Bk (k+1) [] rfl (next λ_=>W0s λh3=>h2 (R9.num0.2 h3)) (by show l.length-(k+1)<l.length-k;omega)
   . refine Ar (k+1:Nat) rfl ?_
     exact Bk (k+1) [] rfl (next λh3=>absurd (by omega) h1) (by show l.length-(k+1)<l.length-k;omega)
 . exact R1 rfl (.bp ⟨nofun,λ⟨q,x,h1,h2,h3⟩=>absurd (ht q x (by have:=(W0m.1 h1).1;omega) h1 h2) h3⟩)
abbrev Xzt(i:Nat): Ob:=.var (.d (.int .i64 i))
theorem Xyr{l:List Rat}{p i:Nat}(hl:Ps p l)(hp:p<=8796093022208)(hi:i<=63)(hn:l.length<=1048576): CN0 286 [.d (dqs l),.ptr 1000001 0] [(1000001,Xzt i)] (·=.b (dc (oc l i))):=by
 refine EnW Tryz.func286 λ_ _ _ _=>?_
 refine Ce rfl (Xgf hl hp hi hn) ?_
 exact Rw [] [(1000001,Xzt i)] rfl (.one (.rf rfl) rfl rfl) ⟨rfl,rfl⟩
end Go.Proofs.YtegepebhkhhhoaaGreatDoor.P9
namespace Go.Proofs.YtegepebhkhhhoaaGreatDoor.P55
open Go Go.Vm Go.Num Go.Tow Go.Proofs.YtegepebhkhhhoaaGreatDoor
def Qp(s:Nat)(p:Rat×Rat): Prop:=Qs s p.1/\Qs s p.2
abbrev v0(p:Rat×Rat): Vn:=⟨⟨0,(),p.1⟩,⟨0,(),p.2⟩⟩
theorem W0: Wn (K:=0) () ([]:List (Tow.El 0)) []:=⟨⟨trivial,W0w _,λ{m T ρ} h=>by
 have:=h.le (show Xb9 0 () from trivial)
 have e:m=0:=by have h0:([]:List (Tow.El 0)).length=0:=rfl;omega
 subst e
 trivial⟩,λz hz=>nomatch hz⟩
theorem g0{q:Rat}{s:Nat}(h:Qs s q)(hs:s<=10000:=by decide): Gd (K:=0) () [] [] 1 ⟨0,(),q⟩ q:=by
 have h0:NOk (K:=0) () ([]:List (Tow.El 0)) 0 (s+1) ⟨0,(),q⟩ (Tow.rat 0 q):=⟨⟨λ_=>zero _,⟨trivial,trivial,λi hi=>absurd hi (W4d _)⟩,rfl⟩,trivial,Sz.rat 0 h⟩
 have hg:Gs (K:=0) () ([]:List (Tow.El 0)) [] (gB 1) (Tow.rat 0 q):=(Gs.rat h).mono (by unfold gB;omega)
 exact⟨h0.re W0.w W0.h hg,hg,W0b _⟩
theorem gv0{p:Rat×Rat}{s:Nat}(h:Qp s p)(hs:s<=10000:=by decide): Gv (K:=0) () [] [] 1 (v0 p) p:=⟨g0 h.1 hs,g0 h.2 hs⟩
theorem zw{r p:Nat}{x:Nm}{v:Rat}(h:NOk (K:=0) () ([]:List (Tow.El 0)) r p x v): x=⟨0,(),v⟩:=by
 obtain⟨ρ,h1,h2⟩:=h.ex
 obtain⟨k,t,a⟩:=x
 have hk:k<=([]:List (Tow.El 0)).length:=h1.le (show Xb9 0 () from trivial)
 obtain rfl:k=0:=Nat.le_zero.1 hk
 have h2:(a:Rat)=v:=h2
 rw[<-h2]
 cases t
 rfl
theorem Xlv{n:Nat}{v:Vn}{p:Rat×Rat}(h:Gv (K:=0) () ([]:List (Tow.El 0)) [] n v p): v=v0 p:=by
 obtain⟨x,y⟩:=v
 rw[show x=_ from zw h.x.o,show y=_ from zw h.y.o]
instance {p:Nat} {z:Int}:Decidable (Zs p z):=inferInstanceAs (Decidable (z.natAbs<2^p))
instance {p:Nat} {x:Rat}:Decidable (Qs p x):=decidable_of_iff (Zs p x.num/\Zs p x.den) ⟨λh=>⟨h.1,h.2⟩,λh=>⟨h.1,h.2⟩⟩
instance {p:Nat} {x:Rat×Rat}:Decidable (Qp p x):=by unfold Qp;infer_instance
end Go.Proofs.YtegepebhkhhhoaaGreatDoor.P55
namespace Go.Proofs.YtegepebhkhhhoaaGreatDoor.P20
open Go Go.Vm Go.Num Go.Tow Go.Proofs.YtegepebhkhhhoaaGreatDoor
open Go.Proofs.YtegepebhkhhhoaaGreatDoor.P55 (v0 W0 g0 gv0 zw Xlv Qp)
abbrev nr(q:Rat): Nm:=⟨0,(),q⟩
instance {p:Nat} {x:Rat×Rat}:Decidable (Q2 p x):=by unfold Q2;infer_instance
def Xkn(z:Rat)(b:Nat): Rat×Rat:=(Xyf z b).getD (0,0)
theorem Yf4{z:Rat}{b:Nat}(h:(Xyf z b).isSome=true): Xyf z b=some (Xkn z b):=by
 unfold Xkn
 cases e:Xyf z b with
 | none=>rw[e] at h;cases h
 | some R=>rfl
abbrev z5: Rat:=Rat.divInt 1 5
abbrev Yk8: Rat:=Rat.divInt 1 239
theorem a5: (Xyf z5 186).isSome=true:=by decide +kernel
theorem Ypu: (Xyf Yk8 186).isSome=true:=by decide +kernel
theorem a0: (Xyf 0 186).isSome=true:=by decide +kernel
def pt(x:Rat): Rat×Rat:=(x,x)
def qV: Rat×Rat:=Ygi (Xb0 (Xkn z5 186) (pt 8)) (Xb0 (Xkn Yk8 186) (pt 2))
def rV: Rat×Rat:=Xhz (Xhz ((Xkn 0 186).1,(Xkn 0 186).2) (Xb0 qV (pt 1))) (Xb0 qV (pt 0))
def hp: Nat->Rat
 | 0=>1
 | n+1=>hp n*Rat.divInt 1 2
theorem Ym7: (sm (Xkn z5 186)&&sm (Xkn Yk8 186)&&sm (Xkn 0 186)&&sm qV&&sm rV&&decide (rV.2-rV.1<=hp 138))=true:=by decide +kernel
theorem Xpj{z:Rat}(h:(Xyf z 186).isSome=true): C0 315 [.d (dq z),.d (.int .i64 186)] (·=.d (dI (Xkn z 186))):=Yks (b:=186) (by decide) (Yf4 h)
theorem fct: sm (Xkn z5 186)=true/\sm (Xkn Yk8 186)=true/\sm (Xkn 0 186)=true/\sm qV=true/\sm rV=true/\rV.2-rV.1<=hp 138:=by
 have:=Ym7
 simp only[W0f,decide_eq_true_eq] at this
 obtain⟨⟨⟨⟨⟨h1,h2⟩,h3⟩,h4⟩,h5⟩,h6⟩:=this
 exact⟨h1,h2,h3,h4,h5,h6⟩
theorem Xsk{n:Int}(h:Zs 64 n): Q2 64 (pt (n:Rat)):=⟨Qs.int h (by decide),Qs.int h (by decide)⟩
theorem Xf8{p:Rat×Rat}{n:Int}(hp:Q2 250 p)(h:-9223372036854775808<=n/\n<9223372036854775808): C0 260 [.d (dI p),.d (.int .i64 n)] (·=.d (dI (Xb0 p (pt (n:Rat))))):=by
 have hq:=Xsk (n:=n) (by unfold Zs;omega)
 refine En Tryz.func260 λ_ _ _=>?_
 refine Dw rfl ?_
 refine Ce rfl (Xau h) ?_
 refine Ce rfl (Xdt hq.1 (by decide)) ?_
 refine Ce rfl (Xfo (q:=pt (n:Rat)) hp hq (by decide)) ?_
 exact R0
theorem Xj3: C0 261 [.d (.int .i64 186)] (·=.d (dI qV)):=by
 obtain⟨h1,h2,_⟩:=fct
 have q1:=Xn5 h1
 have q2:=Xn5 h2
 refine En Tryz.func261 λ_ _ _=>?_
 refine Ce rfl (Xcm (a:=1) (b:=5) (by decide) (by decide)) ?_
 refine Ce rfl (Xpj a5) ?_
 refine Ce rfl (Xf8 (n:=8) q1 (by decide)) ?_
 refine Ce rfl (Xcm (a:=1) (b:=239) (by decide) (by decide)) ?_
 refine Ce rfl (Xpj Ypu) ?_
 refine Ce rfl (Xf8 (n:=2) q2 (by decide)) ?_
 refine Ce rfl (Xwb (Xcg q1 (Xsk (n:=8) (by decide))) (Xcg q2 (Xsk (n:=2) (by decide))) (by decide)) ?_
 exact R0
theorem Xim: C0 313 [.d (dq 0),.d (.int .i64 186)] (·=.d (dI (Xkn 0 186))):=by
 refine En Tryz.func313 λ_ _ _=>?_
 refine Ce rfl (Xcm (a:=1) (b:=2) (by decide) (by decide)) ?_
 refine Ce rfl (Xbz (x:=0) (p:=1) (q:=40) qs0 (Qs.divInt (Zs.one (by decide)) (by decide) (by decide)) (by decide)) ?_
 refine Yes rfl (by decide +kernel) ?_
 refine Ce rfl (Xpj a0) ?_
 exact R0
theorem Yfg{x:Rat}{b:Nat}(hx:Qs 64 x): C0 258 [.d (dts []),.d (dqs [x]),.d (.int .i64 b)] (·=.d (dI (pt x))):=by
 refine En Tryz.func258 λ_ _ _=>?_
 refine Yes rfl rfl ?_
 refine Ix 0 rfl (u:=dq x) rfl ?_
 refine Ce rfl (Xdt hx (by decide)) ?_
 exact R0
theorem Xfy{x:Rat}{bits:Nat}(hx:Qs 64 x)(hb:bits<=1000): C0 178 [.d (dts []),.d (dqs [x]),.d (.int .i64 bits)] (·=.d (dI (pt x))):=by
 have hw:Qs 129 ((pt x).2-(pt x).1):=by rw[W6d];exact hx.add hx.neg
 refine En Tryz.func178 λ_ _ _=>?_
 refine No rfl (by omega) ?_
 refine No rfl (by omega) ?_
 refine Ce rfl (Xhd (k:=0) (t:=()) (l:=[[x]]) (r:=1) (s:=65) trivial trivial (by decide) (by decide) (by decide) (λy hy=>⟨(x:Rat),W0i.1 hy,Sz.rat 0 hx⟩) (by simp) (by decide)) ?_
 refine No rfl (by simp) ?_
 refine Ce rfl (FromInt_ok (z:=1) (by decide)) ?_
 refine Ce rfl (Xc5 (n:=bits) (by omega)) ?_
 refine Ce rfl (Make_ok (p:=bits+1) (a:=1) (b:=2^bits) (Zs.one (by omega)) (Zs.two (W0b _)) (by omega) (Xf5 bits)) ?_
 refine Ar (bits+16:Nat) rfl ?_
 refine Lo (λ_:Unit=>[(0,.d (dts [])),(1,.d (dqs [x])),(6,.ptr 6 0),(7,.ptr 7 0),(9,.d (.int .i64 (bits+16:Nat)))]) (λ_=>[(6,.var zI),(7,.var (.d (dq (Rat.divInt 1 (2^bits)))))]) (λ_=>True) (λ_=>0) () [] rfl trivial (λ_ _=>?_)
 refine Ce rfl (Yfg hx) ?_
 refine Dw rfl ?_
 refine Ce rfl (Xgm (p:=pt x) ⟨hx,hx⟩ (by decide)) ?_
 refine Ce rfl (Xbz (x:=(pt x).2-(pt x).1) hw (Xij bits) (by omega)) ?_
 refine Yes rfl (by
  rw[Xl5]
  have:=Xd3 bits
  show ¬_<x-x
  rw[Rat.sub_self]
  grind) ?_
 exact R0
theorem Xsi: C0 259 [.d (dV (v0 (0,1))),.d (.int .i64 186)] (·=.tup (.pr (.d (dI (Xhz ((Xkn 0 186).1,(Xkn 0 186).2) (Xb0 qV (pt 1))))) (.d (.int .i64 0)))):=by
 obtain⟨_,_,h3,h4,_⟩:=fct
 have q3:=Xn5 h3
 have q4:=Xn5 h4
 have c0:Qs 64 0:=by decide +kernel
 have c1:Qs 64 1:=by decide +kernel
 refine En Tryz.func259 λ_ _ _=>?_
 refine Lo (λi:Nat=>[(1,.d (.int .i64 186)),(2,.ptr 2 0),(4,.ptr 4 0),(5,.d (.int .i64 0)),(6,.d (.int .i64 i))]) (λi=>[(2,.var (.d (dV (v0 (if i=0 then (0,1) else (1,0)))))),(4,.var zI)]) (λi=>i=0\/i=1) (λi=>1-i) 0 [] rfl (.inl rfl) (λi hi=>?_)
 rcases hi with rfl | rfl
 . refine Ce rfl (P9.Sign_g W0 (g0 (q:=0) c0) (by decide)) ?_
   refine Yes rfl (by decide +kernel) ?_
   refine Dw rfl ?_
   refine Ca rfl (P9.Neg_g W0 (g0 (q:=0) c0) (by decide)) λv hv=>?_
   obtain⟨z,rfl,hz⟩:=hv
   rw[zw hz.o,show Tow.neg 0 (0:Rat)=(0:Rat) from Rat.neg_zero]
   refine Ar (0+1:Nat) rfl ?_
   exact Bk 1 [] rfl (.inr rfl) (show 0<1 by decide)
 . refine Ce rfl (P9.Sign_g W0 (g0 (q:=1) c1) (by decide)) ?_
   refine No rfl (by decide +kernel) ?_
   refine Ce rfl (P9.Sign_g W0 (g0 (q:=0) c0) (by decide)) ?_
   refine No rfl (by decide +kernel) ?_
   refine Ce rfl (P9.Cmp_g W0 (g0 (q:=0) c0) (g0 (q:=1) c1) (by decide) (by decide)) ?_
   refine No rfl (by decide) ?_
   refine Dz rfl ?_
   refine No rfl (by decide +kernel) ?_
   refine Ca rfl (P9.Div_g W0 (g0 (q:=0) c0) (g0 (q:=1) c1) (by decide) (by decide)) λv hv=>?_
   rcases hv with ⟨e,_⟩ | ⟨u,_,z,rfl,hz⟩
   . exact absurd e (show ¬(1:Rat)=0 by decide +kernel)
   rw[zw hz.o,show Tow.mul 0 () (0:Rat) u=(0:Rat) from W4o u]
   refine No rfl (by decide) ?_
   refine Mm 186 rfl ?_ rfl
   refine Ce rfl (Xfy (x:=0) (bits:=186) c0 (by decide)) ?_
   refine Ce rfl (Xau (z:=0) (by decide)) ?_
   refine Ce rfl (Xau (z:=1) (by decide)) ?_
   have hm:=Xzy (p:=pt 0) (q:=(0,1)) (s:=64) (by decide +kernel) (by decide +kernel) (by decide) (by decide +kernel)
   rw[show Xcd (pt 0) (0,1)=pt 0 by decide +kernel] at hm
   refine Ce rfl hm ?_
   refine Dw rfl ?_
   refine Ce rfl Xim ?_
   refine Ce rfl Xim ?_
   refine Ce rfl Xj3 ?_
   refine No rfl (by decide +kernel) ?_
   refine Dw rfl ?_
   refine Ce rfl (Xf8 (n:=1) q4 (by decide)) ?_
   refine Ce rfl (Xfp (p:=((Xkn 0 186).1,(Xkn 0 186).2)) q3 (Xcg q4 (Xsk (n:=1) (by decide))) (by decide)) ?_
   exact RTt rfl (.cons (.rf rfl) Xa2)
theorem Yjh: ∀i,i<=138->Qs 200 (hp i):=by decide +kernel
theorem Xs4: C0 179 [.d (dT (v0 (0,1)) 0),.d (.int .i64 138)] (·=.tup (.pr (.d (dI rV)) (.d (.int .i64 0)))):=by
 obtain⟨_,_,h3,h4,h5,h6⟩:=fct
 have q3:=Xn5 h3
 have q4:=Xn5 h4
 have q5:=Xn5 h5
 have hq:=Yjh
 refine En Tryz.func179 λ_ _ _=>?_
 refine No rfl (by decide) ?_
 refine No rfl (by decide) ?_
 refine Ce rfl (Xau (z:=1) (by decide)) ?_
 refine Lo (λi:Nat=>[(1,.d (.int .i64 138)),(2,.ptr 2 0),(4,.ptr 4 0),(5,.d (.int .i64 0)),(6,.ptr 6 0),(18,.d (.int .i64 138)),(19,.d (.int .i64 i))]) (λi=>[(2,.var (.d (dT (v0 (0,1)) 0))),(4,.var zI),(6,.var (.d (dq (hp i))))]) (λi=>i<=138) (λi=>138-i) 0 [] rfl (W0w _) (λi hi=>?_)
 refine By rfl (λh=>?_) λh=>?_
 . refine Dw rfl ?_
   refine Ce rfl (Xcm (a:=1) (b:=2) (by decide) (by decide)) ?_
   refine Ce rfl (Xep (hq i hi) (Qs.divInt (p:=64) (by decide) (by decide) (by decide)) (by decide)) ?_
   refine Ar (i+1:Nat) rfl ?_
   exact Bk (i+1) [] rfl (show i+1<=138 by omega) (by show 138-(i+1)<138-i;omega)
 . obtain rfl:i=138:=by omega
   refine Ar (186:Nat) rfl ?_ (wr rfl (by simp only[inK];omega))
   refine Lo (λ_:Unit=>[(1,.d (.int .i64 138)),(2,.ptr 2 0),(4,.ptr 4 0),(5,.d (.int .i64 0)),(6,.ptr 6 0),(7,.d (.int .i64 186))]) (λ_=>[(2,.var (.d (dT (v0 (0,1)) 0))),(4,.var zI),(6,.var (.d (dq (hp 138))))]) (λ_=>True) (λ_=>0) () [] rfl trivial (λ_ _=>?_)
   refine Ce rfl Xsi ?_
   refine No rfl (by decide) ?_
   refine Dw rfl ?_
   refine Ce rfl Xj3 ?_
   refine Ar (0:Int) rfl ?_ rfl
   refine Ce rfl (Xf8 (n:=0) q4 (by decide)) ?_
   have qa:=Xma (p:=((Xkn 0 186).1,(Xkn 0 186).2)) q3 (Xcg q4 (Xsk (n:=1) (by decide)))
   refine Ce rfl (Xfp qa (Xcg q4 (Xsk (n:=0) (by decide))) (by decide)) ?_
   refine Dw rfl ?_
   refine Ce rfl (Xgm (p:=rV) q5 (by decide)) ?_
   have qw:Qs 501 (rV.2-rV.1):=by rw[W6d];exact q5.2.add q5.1.neg
   refine Ce rfl (Xbz qw (hq 138 (by decide)) (by decide)) ?_
   refine Yes rfl (by rw[Xl5];exact Rat.not_lt.2 h6) ?_
   exact RTt rfl (.cons (.rf rfl) Xa2)
end Go.Proofs.YtegepebhkhhhoaaGreatDoor.P20

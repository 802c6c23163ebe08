/- part 5 -/
import Derived.Test.YtnedfplmoojbaaaGreatDoorXD
import Derived.Test.YtnedfplmoojbaaaGreatDoorCards
import Derived.Test.YtnedfplmoojbaaaGreatDoorTie
import Derived.Deep.DeepHandedRow
import Derived.Lib.LaidTab
import Derived.MakeChecks
import Derived.Stop.LaidErr
import Derived.Lib.AppendZeros
set_option linter.unusedVariables false
set_option linter.unusedSimpArgs false
set_option maxRecDepth 100000
namespace Go.Proofs.YtnedfplmoojbaaaGreatDoor.R9
open Go Go.Vm Go.Num Go.Tow Go.Proofs.YtnedfplmoojbaaaGreatDoor
abbrev n0: D:=.st (.pr (dts []) (dqs []))
theorem fit0{g:Hp}{K:Hpl}: Fit g K (.st (.pr .nil .nil)) (.d n0):=.sd (.pd (.nil rfl) (.nil rfl))
section
variable{c:Fg}{K:Nat}{G:Tw K}{S:List (Tow.El K)}{r p:Nat}{x y:Nm}{vx vy:Tow.El K}
theorem Ych(W:Wy c G S)(i:NOk G S r p x vx)(j:NOk G S r p y vy)(hp:oW c p<=4398046511104): C0 255 [.d (dN x),.d (dN y)] λv=>∃m T a b,v=.tup (.pr (.d (dN ⟨m,T,a⟩)) (.pr (.d (dN ⟨m,T,b⟩)) (.d (.int .i64 0))))/\JnR c G S p vx vy m T a b:=by
 refine En Tryz.func255 λ_ _ _=>?_
 refine Ca rfl (Join_ok W i j hp) λv o=>?_
 obtain⟨m,T,a,b,rfl,h⟩:=o
 refine No rfl (by simp)<|Dz rfl ?_
 exact Ix 0 rfl (u:=dN ⟨m,T,a⟩) rfl<|Ix 1 rfl (u:=dN ⟨m,T,b⟩) rfl<|Rt rfl (.tup (.cons (.rf rfl) (.cons (.rf rfl) Xbs))) ⟨m,T,a,b,rfl,h⟩
def OpR(c:Fg)(G:Tw K)(S:List (Tow.El K))(p:Nat)(w:Tow.El K)(v:AV): Prop:=∃z:Nm,v=.tup (.pr (.d (dN z)) (.d (.int .i64 0)))/\NOk G S c.R p z w
theorem Add_ok(W:Wy c G S)(I:NOk G S r p x vx)(M:NOk G S r p y vy)(hp:oW c p<=4398046511104): C0 210 [.d (dN x),.d (dN y)] (OpR c G S (oW c p) (Tow.add K vx vy)):=by
 have hO:oW c p=2*jW c p+cB c.R c.H+1:=rfl
 have hH:=W.k.h
 refine En Tryz.func210 λ_ _ _=>?_
 refine Ca rfl (Ych W I M hp) λv O=>?_
 obtain⟨m,T,a,b,rfl,ρ,i,U,V,j,o⟩:=O
 have Z:=W.t i
 have hm:=W.le i
 exact No rfl (by simp)<|Dw rfl<|Ce rfl (R6.Add_el (k:=m) (a:=a) (b:=b) (by omega) j.ps o.ps (by omega))<|Rt rfl (.tup (.cons (.rf rfl) Xbs)) ⟨⟨m,T,Tow.add m a b⟩,rfl,⟨ρ,i,by rw[<-U,<-V];exact Xcv⟩,Z,by rw[Xa0];exact(j.add o).mono (by omega)⟩
theorem Mul_ok(W:Wy c G S)(M:NOk G S r p x vx)(O:NOk G S r p y vy)(hp:oW c p<=4398046511104): C0 157 [.d (dN x),.d (dN y)] (OpR c G S (oW c p) (Tow.mul K G vx vy)):=by
 have hO:oW c p=2*jW c p+cB c.R c.H+1:=rfl
 have hH:=W.k.h
 refine En Tryz.func157 λ_ _ _=>?_
 refine Ca rfl (Ych W M O hp) λv U=>?_
 obtain⟨m,T,a,b,rfl,ρ,i,V,Z,o,I⟩:=U
 have j:=W.t i
 have hm:=W.le i
 have hc:=Xgv (r:=c.R) hm
 exact No rfl (by simp)<|Dw rfl<|Ce rfl (R6.Mul_el (k:=m) (t:=T) (a:=a) (b:=b) j o I (by omega) (by omega))<|Rt rfl (.tup (.cons (.rf rfl) Xbs)) ⟨⟨m,T,Tow.mul m T a b⟩,rfl,⟨ρ,i,by rw[<-V,<-Z];exact Xbg i.h⟩,j,(o.mul j I).mono (by omega)⟩
theorem Neg_ok(h:NOk G S r p x vx)(i:x.k<=16)(hp:p<=8796093022208): C0 213 [.d (dN x)] (·=.d (dN ⟨x.k,x.t,Tow.neg x.k x.a⟩)):=by
 refine En Tryz.func213 λ_ _ _=>?_
 exact Dw rfl<|Ce rfl (R6.Neg_el i h.p.ps hp)<|R1 rfl (.rf rfl)
theorem Sub_ok(W:Wy c G S)(j:NOk G S r p x vx)(i:NOk G S r p y vy)(hp:oW c p<=4398046511104): C0 173 [.d (dN x),.d (dN y)] (OpR c G S (oW c p) (Tow.add K vx (Tow.neg K vy))):=by
 have:=i.le (Xad W.g) W.s
 have M:=W.k.h
 have O:oW c p=2*jW c p+cB c.R c.H+1:=rfl
 have o:p<=jW c p:=Ygg
 refine En Tryz.func173 λ_ _ _=>?_
 refine Dw rfl<|Ce rfl (Neg_ok i (by omega) (by omega))<|Ca rfl (Add_ok W j i.neg hp) λv I=>?_
 obtain⟨z,rfl,h⟩:=I
 exact Rt rfl (.tup (.cons (.rf rfl) Xbs)) ⟨z,rfl,h⟩
theorem Sign_ok(hG:red K G)(h:NOk G S r p x vx)(i:x.k<=16)(j:vB r x.k p<=4398046511104): C0 124 [.d (dN x)] (·=.d (.int .i64 (sgn K G vx))):=by
 refine En Tryz.func124 λ_ _ _=>?_
 refine Ce rfl (R7.Fast_ok h.r h.p i j) ?_
 rw[h.sgn (Xad hG)]
 exact R0
theorem Div_ok(W:Wy c G S){q:Nat}(U:NOk G S r q x vx)(j:NOk G S r p y vy)(hq:iS r c.H p<=q)(hi:iB r c.H p<=4398046511104)(hp:oW c q<=4398046511104):
 C0 212 [.d (dN x),.d (dN y)] λv=>(vy=zero K/\v=.tup (.pr (.d n0) (.d (.int .i64 6))))\/∃w,Tow.mul K G w vy=rat K 1/\OpR c G S (oW c q) (Tow.mul K G vx w) v:=by
 have I:=j.le (Xad W.g) W.s
 have hH:=W.k.h
 obtain⟨ρ,M,O⟩:=j.ex
 refine En Tryz.func212 λ_ _ _=>?_
 by_cases h0:y.a=zero y.k
 have T:=R6.Inv0_ok (t:=y.t) (by omega)
 rw[<-h0] at T
 exact Ce rfl T<|Yes rfl (by decide)<|Rt rfl (.tup (.cons fit0 Xbs)) (.inl ⟨by rw[<-O,h0,Xef],rfl⟩)
 obtain⟨i,o⟩:=(Xcp M.r).2 y.a h0
 have V:=Yk9 (r:=r) (p:=p) I
 have Z:=Ygq (r:=r) (p:=p) I
 refine Ce rfl (R6.Inv_ok j.r j.p M.r o (by omega) (by omega))<|No rfl (by simp) ?_
 have hz:NOk G S r q ⟨y.k,y.t,i⟩ (ev G ρ y.k i):=⟨⟨ρ,M,rfl⟩,j.r,(Sz.invS j.r j.p o).mono (by omega)⟩
 refine Ca rfl (Mul_ok (y:=⟨y.k,y.t,i⟩) W U hz hp) λv hv=>?_
 obtain⟨z,rfl,h⟩:=hv
 exact Rt rfl (.tup (.cons (.rf rfl) Xbs)) (.inr ⟨ev G ρ y.k i,by rw[<-O,<-Xbg M.h,Xb9 o,Xdf],z,rfl,h⟩)
def RtR(x:Nm)(v:AV): Prop:=∃z:Nm,v=.tup (.pr (.d (dN z)) (.d (.int .i64 0)))/\((∃y,z=⟨x.k,x.t,y⟩/\Tow.mul x.k x.t y y=x.a/\0<=sgn x.k x.t y)\/(z=⟨x.k+1,tsn x.t x.a,Xdi (x.k+1) x.k⟩/\0<=sgn x.k x.t x.a/\¬Xde x.k x.t x.a))
theorem Sqrt_ok(hr:red x.k x.t)(M:TS r x.k x.t)(ha:Sz p (toL x.k x.a))(h0:0<=sgn x.k x.t x.a)(O:x.k<8)(hq:qB r x.k p<=4398046511104)(i:qB r x.k r<=4398046511104)(j:vB r x.k (p+gC r x.k)<=4398046511104)(o:vB r x.k r<=4398046511104):
 C0 21 [.d (dN x)] (RtR x):=by
 refine En Tryz.func21 λ_ _ _=>?_
 refine Ca rfl (R8.Adjoin_ok M ha hr O hq i j o) λv j=>?_
 rcases j with ⟨h,rfl⟩ | ⟨y,h,I,rfl⟩ | ⟨h,I,T,rfl⟩
 omega
 exact No rfl (by simp)<|Rt rfl (.tup (.cons (.rf rfl) Xbs)) ⟨⟨x.k,x.t,y⟩,rfl,.inl ⟨y,rfl,h,I⟩⟩
 exact No rfl (by simp)<|Rt rfl (.tup (.cons (.rf rfl) Xbs)) ⟨⟨x.k+1,tsn x.t x.a,Xdi (x.k+1) x.k⟩,rfl,.inr ⟨rfl,h,I⟩⟩
theorem FromRat_ok{q:Rat}: C0 26 [.d (dq q)] (·=.d (dN ⟨0,(),q⟩)):=by
 refine En Tryz.func26 λ_ _ _=>?_
 exact R1 rfl (.sd (.pd (.nil rfl) (.lit rfl)))
theorem FromInt_ok{z:Int}(h:-9223372036854775808<=z/\z<9223372036854775808): C0 6 [.d (.int .i64 z)] (·=.d (dN ⟨0,(),(z:Rat)⟩)):=by
 refine En Tryz.func6 λ_ _ _=>?_
 exact Ce rfl (R2.FromInt_ok h)<|Ce rfl FromRat_ok<|R1 rfl (.rf rfl)
theorem Frac_ok{a b:Int}(ha:-9223372036854775808<=a/\a<9223372036854775808)(hb:-9223372036854775808<=b/\b<9223372036854775808)(h:b≠0): C0 209 [.d (.int .i64 a),.d (.int .i64 b)] (·=.d (dN ⟨0,(),Rat.divInt a b⟩)):=by
 refine En Tryz.func209 λ_ _ _=>?_
 exact Ce rfl (R2.Frac_ok ha hb h)<|Ce rfl FromRat_ok<|R1 rfl (.rf rfl)
theorem Xhd: C0 211 [.d (dN x),.d (.int .i64 0),.d (dN y)] (·=.d (dN x)):=by
 refine En Tryz.func211 λ_ _ _=>?_
 exact No rfl (by simp)<|R1 rfl (.rf rfl)
theorem Yaa: C0 211 [.d n0,.d (.int .i64 6),.d (dN y)] (·=.d (dN y)):=by
 refine En Tryz.func211 λ_ _ _=>?_
 exact Yes rfl (by simp)<|R1 rfl (.rf rfl)
end
end Go.Proofs.YtnedfplmoojbaaaGreatDoor.R9
namespace Go.Vm
open Go
def Ynj: Op->Bool
 | .buildSlice _ _ _=>true
 | _=>false
def Yni: List Oper->List Nat
 | []=>[]
 | o::l=>match Ynj o.op,o.dst with
  | true,some d=>d::Yni l
  | _,_=>Yni l
def Xwn(E:Env)(LB:List Nat)(L:List Oper): Bool:=(LB.all λb=>!Xcl E b)&&L.all λo=>match o.dst with
 | none=>true
 | some d=>!inL d LB||Ynj o.op
def apD(LB:List Nat)(k:Oper): Option Nat:=match k.op,k.dst with
 | .call ⟨.builtin .append,⟨[.tmp b,_]⟩,_⟩,some d=>match inL b LB with
  | true=>some d
  | false=>none
 | _,_=>none
def Ykv(LB:List Nat)(L:List Oper)(D:List Nat)(E:Env)(T:Trk)(k i:Oper): Bool:=match k.op,apD LB i with
 | .load _ (.tmp a),some d=>match bnd D E T a with
  | some h=>Xca L k.dst i&&Xca L i.dst k && !inL d h
  | none=>false
 | _,_=>false
def Yib(LB:List Nat)(L:List Oper)(k i:Oper): Bool:=match Xje k.op,k.dst,apD LB i with
 | true,some h,some d=>Xca L k.dst i&&Xca L i.dst k
 | _,_,_=>false
def ZL(LB:List Nat)(s:S): Prop:=∀b,inL b LB=true->s.1 b=none\/s.1 b=some .un\/∃sz xs,s.1 b=some (.lit sz xs)
section
variable{tb:Nat->Option TI}
theorem Yi8{g g':Hp}{z:D}{sz:Nat}{c:AV}{ys:List D}(j:∀o s xs,g o=some (.arr s xs)->g' o=some (.arr s xs))(h:Xh3 g z sz c=some ys): Xh3 g' z sz c=some ys:=by
 unfold Xh3 at h |-
 split at h
 split at h<;>try cases h
 rename_i i
 rw[j _ _ _ i];exact h
 split at h<;>try cases h
 rename_i i
 rw[j _ _ _ i];exact h
 exact h
theorem Yby{LB:List Nat}{k:Oper}{d:Nat}(O:apD LB k=some d){s:S}(hz:ZL LB s){r:AV×List (Nat×Ob)}{g:Hp}(h:eff tb k (s.1,g)=some r): k.dst=some d/\Xal k=false/\g d=none/\(r.2=[]\/∃ob,r.2=[(d,ob)])/\∀g',g' d=none->(∀o s xs,g o=some (.arr s xs)->g' o=some (.arr s xs))->eff tb k (s.1,g')=some r:=by
 unfold apD at O
 split at O<;>try cases O
 rename_i b y V d' I hd
 split at O<;>cases O
 rename_i hb
 unfold eff at h
 split at h<;>try cases h
 rename_i asx i
 split at h<;>try cases h
 rename_i hst
 have Z:=i
 have i:getEs s.1 [.tmp b,y]=some asx:=by rw[I] at i;exact i
 simp only[getEs,Xb6] at i
 split at i<;>try cases i
 rename_i v j
 split at i<;>try cases i
 rename_i as' M
 split at M<;>try cases M
 rename_i w hw
 have htys:∃T T',V=⟨[T,T']⟩:=by
  rcases V with ⟨_ | ⟨T,_ | ⟨T',_ | ⟨U,l⟩⟩⟩⟩
  rw[I] at h;simp[F,Fp] at h
  rw[I] at h;simp[F,Fp] at h
  exact⟨_,_,rfl⟩
  rw[I] at h;simp[F,Fp] at h
 obtain⟨T,T',rfl⟩:=htys
 rcases hz b hb with e | e | ⟨sz,xs,e⟩
 rw[e] at j;cases j
 . rw[e] at j;injection j with j;subst j
   exfalso
   rw[I] at h
   simp only[F] at h
   repeat' split at h
   all_goals first
    | (cases h;done)
    | (simp[Xj3] at h;done)
    | simp_all[Fp,Xj3]
 rw[e] at j;injection j with j;subst j
 rw[I] at h
 simp only[F,hd,W4m] at h
 split at h<;>try cases h
 rename_i hT
 split at h<;>try cases h
 rename_i ti ht hgd
 split at h<;>try cases h
 rename_i sz' xs' hz'
 split at h<;>try cases h
 rename_i ys hys
 refine⟨hd,by unfold Xal;rw[I];rfl,hgd,?_,λg' h1 h2=>?_⟩
 simp only[Xj3] at h
 split at h
 cases h;exact .inr ⟨_,rfl⟩
 split at h<;>cases h
 exact .inl rfl
 unfold eff
 rw[Z]
 simp only[hst]
 rw[I]
 subst hT
 have hs':=Yi8 h2 hys
 rw[hz'] at hs'
 simp only[F,hd,W4m,ht,h1,hz',hs',if_true]
 exact h
theorem Xgl{LB:List Nat}{L:List Oper}{E:Env}{T:Trk}{k i:Oper}(h:Ykv LB L (dsL L) E T k i=true): Xal k=false/\Xca L k.dst i=true/\Xca L i.dst k=true/\(∃d,apD LB i=some d)/\∀ {s:S},ZT (dsL L) E T s->ZL LB s ->
 (∀ {j},efw tb L k s=some j->j.2=[])/\∀ {g:Hp} {O:AV×List (Nat×Ob)},efw tb L i (s.1,g)=some O->∀j,efw tb L k (s.1,g)=some j↔efw tb L k (s.1,Xbj g O.2)=some j:=by
 unfold Ykv at h
 split at h<;>try cases h
 rename_i T1 a d U hi
 split at h<;>try cases h
 rename_i la V
 simp only[W0d,W1v] at h
 obtain⟨⟨h1,h2⟩,h3⟩:=h
 refine⟨by unfold Xal;rw[U];rfl,h1,h2,⟨d,hi⟩,λ{s} hz hl=>⟨λ{j} Z=>?_,λ{g O} hri j=>?_⟩⟩
 rcases Xa8 Z with ⟨_,e,_⟩ | ⟨_,e⟩
 exact e
 exact(Ype (o:=k) (by rw[U];rfl) (e:=s.1) (g:=s.2) e).1
 have M:∀ {g g':Hp},(∀o,o≠d->g o=g' o)->efw tb L k (s.1,g)=some j->efw tb L k (s.1,g')=some j:=by
  intro g g' hg Z
  rcases Xa8 Z with ⟨_,_,e⟩ | ⟨hw,e⟩
  exact e g'
  have:∃v,s.1 a=some v:=by
   unfold eff at e
   split at e<;>try cases e
   rename_i asx I
   rw[U] at I
   simp only[Op.operands,getEs,Xb6] at I
   split at I<;>try cases I
   exact⟨_,by assumption⟩
  obtain⟨v,hv⟩:=this
  refine Xe3 (s:=(s.1,g)) hw (Ykw U hv (λo ho=>hg o λhb=>?_) e).2
  subst hb
  rw[Yo3.2 (Xoc hz V hv ho)] at h3;cases h3
 have hu:∀o,o≠d->g o=Xbj g O.2 o:=by
  intro o hod
  rcases Xa8 hri with ⟨_,e,_⟩ | ⟨_,e⟩
  rw[e];rfl
  obtain⟨_,_,_,e1 | ⟨ob,e1⟩,_⟩:=Yby hi hl e
  rw[e1];rfl
  rw[e1];exact(Xak hod).symm
 exact⟨M hu,M λo ho=>(hu o ho).symm⟩
theorem Xwd{o:Oper}(i:Xje o.op=true){s:S}{r:AV×List (Nat×Ob)}(h:eff tb o s=some r): ∃a,r.2=[(o.dst.getD 0,.var a)]/\s.2 (o.dst.getD 0)=none/\∀g',g' (o.dst.getD 0)=none->eff tb o (s.1,g')=some r:=by
 have j:cls o.op=2:=by unfold Xje at i;split at i<;>first | (rename_i e;rw[e];rfl) | cases i
 obtain⟨T,U,I,M⟩:=Yq8 (e:=s.1) (g:=s.2) j h
 have:∃a,r.2=[(o.dst.getD 0,.var a)]:=by
  unfold eff at h
  split at h<;>try cases h
  split at h<;>try cases h
  unfold Xje at i
  split at i<;>try cases i
  all_goals
   rename_i O
   rw[O] at h
   simp only[F] at h
  split at h<;>cases h;exact⟨_,rfl⟩
  split at h<;>try cases h
  split at h<;>cases h;exact⟨_,rfl⟩
 obtain⟨a,ha⟩:=this
 exact⟨a,ha,I,M⟩
theorem Xki{LB:List Nat}{L:List Oper}{k i:Oper}(h:Yib LB L k i=true): Xje k.op=true/\Xal k=false/\Xca L k.dst i=true/\Xca L i.dst k=true/\∃o d,k.dst=some o/\apD LB i=some d:=by
 unfold Yib at h
 split at h<;>try cases h
 rename_i o d j I M
 simp only[W0d] at h
 refine⟨j,?_,h.1,h.2,o,d,I,M⟩
 unfold Xje at j
 unfold Xal
 split at j<;>first | (rename_i e;rw[e];rfl) | cases j
theorem Xl0{LB:List Nat}{L:List Oper}{k i:Oper}(h:Yib LB L k i=true){s:S}(hl:ZL LB s){U T:AV×List (Nat×Ob)}:
 (efw tb L k s=some U->efw tb L i s=some T->efw tb L i (s.1,Xbj s.2 U.2)=some T/\efw tb L k (s.1,Xbj s.2 T.2)=some U/\Xbj (Xbj s.2 T.2) U.2=Xbj (Xbj s.2 U.2) T.2) /\
 (efw tb L k s=some U->efw tb L i (s.1,Xbj s.2 U.2)=some T->efw tb L i s=some T)/\(efw tb L i s=some T->efw tb L k (s.1,Xbj s.2 T.2)=some U->efw tb L k s=some U):=by
 obtain⟨hn,_,a1,a2,dk,d,V,hd⟩:=Xki h
 have hi0:i.dst=some d:=by
  unfold apD at hd
  split at hd<;>try cases hd
  rename_i h1 I
  split at hd<;>cases hd
  exact I
 have M:dk≠d:=Xgs a1 V hi0
 refine⟨λh1 I=>?_,λh1 I=>?_,λh1 I=>?_⟩
 rcases Xa8 h1 with ⟨_,O,f1⟩ | ⟨w1,O⟩
 rw[O];exact⟨I,f1 _,rfl⟩
 obtain⟨a,Z,j,k3⟩:=Xwd hn O
 rw[V] at Z j k3
 simp only[W4m] at Z j k3
 rcases Xa8 I with ⟨_,e2,f2⟩ | ⟨w2,e2⟩
 rw[e2];exact⟨f2 _,h1,rfl⟩
 obtain⟨_,_,j2,j3,j4⟩:=Yby hd hl (g:=s.2) e2
 refine⟨?_,?_,?_⟩
 rw[Z]
 refine Xe3 (s:=s) w2 (j4 _ (by show upd s.2 dk _ d=none;rw[Xak λe=>M e.symm];exact j2) λo sz xs ho=>?_)
 show upd s.2 dk _ o=_
 rw[Xak λe=>by rw[e,j] at ho;cases ho];exact ho
 refine Xe3 (s:=s) w1 (k3 _ ?_)
 rcases j3 with e | ⟨ob,e⟩<;>rw[e]
 exact j
 show upd s.2 d ob dk=none;rw[Xak M];exact j
 rw[Z]
 rcases j3 with e | ⟨ob,e⟩<;>rw[e]
 rfl
 exact Xh0 (λe=>M e.symm)
 rcases Xa8 h1 with ⟨_,O,f1⟩ | ⟨w1,O⟩
 rw[O] at I;exact I
 obtain⟨a,Z,j,k3⟩:=Xwd hn O
 rw[V] at Z j
 simp only[W4m] at Z j
 rcases Xa8 I with ⟨_,e2,f2⟩ | ⟨w2,e2⟩
 exact f2 s.2
 obtain⟨_,_,j2,j3,j4⟩:=Yby (s:=s) hd hl e2
 rw[Z] at j2 j4
 have j2:upd s.2 dk (.var a) d=none:=j2
 rw[Xak λe=>M e.symm] at j2
 refine Xe3 (s:=s) w2 (j4 s.2 j2 λo sz xs ho=>?_)
 have ho:upd s.2 dk (.var a) o=_:=ho
 rcases Xae ho with ⟨_,e⟩ | ⟨_,e⟩
 cases e
 exact e
 rcases Xa8 h1 with ⟨_,O,f1⟩ | ⟨w1,O⟩
 rw[O] at I;exact I
 obtain⟨_,_,j2,j3,j4⟩:=Yby hd hl (g:=s.2) O
 rcases Xa8 I with ⟨_,e2,f2⟩ | ⟨w2,e2⟩
 exact f2 s.2
 obtain⟨a,Z,j,k3⟩:=Xwd (s:=(s.1,Xbj s.2 T.2)) hn e2
 rw[V] at j k3
 simp only[W4m] at j k3
 refine Xe3 (s:=s) w2 (k3 s.2 ?_)
 rcases j3 with e | ⟨ob,e⟩<;>rw[e] at j
 exact j
 have j:upd s.2 d ob dk=none:=j
 rwa[Xak M] at j
theorem Ymh{o:Oper}(i:Ynj o.op=true){s:S}{r:AV×List (Nat×Ob)}(h:eff tb o s=some r): ∃sz xs,r.1=.lit sz xs:=by
 unfold eff at h
 split at h<;>try cases h
 split at h<;>try cases h
 unfold Ynj at i
 split at i<;>try cases i
 rename_i i
 rw[i] at h
 simp only[F,Fp] at h
 split at h<;>try cases h
 rename_i hq
 split at hq<;>try cases hq
 split at hq<;>try cases hq
 split at hq<;>cases hq
 exact⟨_,_,rfl⟩
theorem ZL.aft{E:Env}{LB:List Nat}{L:List Oper}(h:Xwn E LB L=true){o:Oper}(i:o∈L){s:S}(j:ZL LB s){r:AV×List (Nat×Ob)}(hr:r.1=.un\/Xal o=true\/eff tb o s=some r): ZL LB (aft s o r):=λb hb=>by
 by_cases hd:o.dst=some b
 rw[Ymq hd]
 simp only[Xwn,W0d] at h
 have:=W1q.1 h.2 o i
 rw[hd] at this
 simp only[hb,Bool.not_true,Bool.false_or] at this
 rcases hr with hr | hr | hr
 rw[hr];exact .inr (.inl rfl)
 obtain⟨x,asx,I,M⟩:=Xjf hr
 rw[M] at this;cases this
 obtain⟨sz,xs,e⟩:=Ymh this hr
 rw[e];exact .inr (.inr ⟨_,_,rfl⟩)
 rw[Ypx hd];exact j b hb
def spL(LB:List Nat)(L:List Oper)(E:Env)(T:Trk)(k i:Oper): Bool:=Ykv LB L (dsL L) E T k i||Ykv LB L (dsL L) E T i k||Yib LB L k i||Yib LB L i k
def Yrb: St->Bool
 | .o _ _ L _ _ E _=>Xwn E (Yni L) L&&Xm1 (dsL L) E (trk (dsL L) E L []) L&&Xht L (spL (Yni L) L E (trk (dsL L) E L [])) [] [] L
 | _=>false
theorem Dm.lit{L:List Oper}{E:Env}{T:Trk}{LB:List Nat}(hL:Xwn E LB L=true)(hT:Xm1 (dsL L) E T L=true): Dm tb L (spL LB L E T) λs=>ZT (dsL L) E T s/\ZL LB s:=by
 have fin:∀ {k i:Oper} {s:S} {j o:AV×List (Nat×Ob)},Xca L i.dst k=true->Xbj (Xbj s.2 o.2) j.2=Xbj (Xbj s.2 j.2) o.2->Vm.aft (Vm.aft s i o) k j=Vm.aft (Vm.aft s k j) i o:=by
  intro k i s j o h hg
  unfold Vm.aft
  rw[S.put_g,S.put_g,hg]
  have e1:=S.put_e (s:=s) (g:=Xbj s.2 o.2) (g':=s.2) (d:=i.dst) (v:=o.1)
  have e2:=S.put_e (s:=s) (g:=Xbj s.2 j.2) (g':=s.2) (d:=k.dst) (v:=j.1)
  rw[e1,e2]
  exact Xlu (s:=s) (λa b ha hb=>Xgs h ha hb) rfl
 have one:∀ {k i:Oper} {s:S} {j o:AV×List (Nat×Ob)},Ykv LB L (dsL L) E T k i=true->ZT (dsL L) E T s/\ZL LB s->efw tb L k s=some j->efw tb L i s=some o->efw tb L i (Vm.aft s k j)=some o/\efw tb L k (Vm.aft s i o)=some j/\Vm.aft (Vm.aft s i o) k j=Vm.aft (Vm.aft s k j) i o:=by
  intro k i s j o h I O M
  obtain⟨V,Z,U,_,hh⟩:=Xgl (tb:=tb) h
  obtain⟨b1,b2⟩:=hh I.1 I.2
  have e:=b1 O
  exact⟨by rw[Xbt Z,e];exact M,by rw[Xbt U];exact(b2 (g:=s.2) M j).1 O,fin U (by rw[e];rfl)⟩
 have two:∀ {k i:Oper} {s:S} {j o:AV×List (Nat×Ob)},Yib LB L k i=true->ZL LB s->efw tb L k s=some j->efw tb L i s=some o->efw tb L i (Vm.aft s k j)=some o/\efw tb L k (Vm.aft s i o)=some j/\Vm.aft (Vm.aft s i o) k j=Vm.aft (Vm.aft s k j) i o:=by
  intro k i s j o h I O M
  obtain⟨_,_,Z,U,_⟩:=Xki h
  obtain⟨b1,b2,b3⟩:=(Xl0 (tb:=tb) h I).1 O M
  exact⟨by rw[Xbt Z];exact b1,by rw[Xbt U];exact b2,fin U b3⟩
 have ncA:∀ {i:Oper} {d:Nat},apD LB i=some d->Xal i=false:=λ{i d} h=>by
  unfold apD at h
  split at h<;>try cases h
  rename_i O M
  unfold Xal;rw[O];rfl
 refine⟨λ{k i} h=>?_,λ{k i s j o} h I O M=>?_,λ{k i s j o} h I O M=>?_,λ{k s r} hk hc I h=>?_,λ{k s r} hk hc I h=>⟨ZT.aft (tb:=tb) hT hk I.1 (.inr (.inl hc)),ZL.aft (tb:=tb) hL hk I.2 (.inr (.inl hc))⟩⟩
 simp only[spL,W4e] at h
 rcases h with ((h | h) | h) | h
 obtain⟨V,_,_,⟨d,hd⟩,_⟩:=Xgl (tb:=tb) h;exact⟨V,ncA hd⟩
 obtain⟨V,_,_,⟨d,hd⟩,_⟩:=Xgl (tb:=tb) h;exact⟨ncA hd,V⟩
 obtain⟨_,V,_,_,dk,d,_,hd⟩:=Xki h;exact⟨V,ncA hd⟩
 obtain⟨_,V,_,_,dk,d,_,hd⟩:=Xki h;exact⟨ncA hd,V⟩
 simp only[spL,W4e] at h
 rcases h with ((h | h) | h) | h
 exact one h I O M
 obtain⟨p1,p2,p3⟩:=one h I M O;exact⟨p2,p1,p3.symm⟩
 exact two h I.2 O M
 obtain⟨p1,p2,p3⟩:=two h I.2 M O;exact⟨p2,p1,p3.symm⟩
 simp only[spL,W4e] at h
 rcases h with ((h | h) | h) | h
 obtain⟨V,Z,U,_,hh⟩:=Xgl (tb:=tb) h
 rw[Xbt Z,(hh I.1 I.2).1 O] at M
 exact M
 obtain⟨V,Z,U,_,hh⟩:=Xgl (tb:=tb) h
 rw[Xbt U] at M
 exact((hh I.1 I.2).2 (g:=s.2) O o).2 M
 obtain⟨_,_,Z,U,_⟩:=Xki h
 rw[Xbt Z] at M
 exact(Xl0 (tb:=tb) h I.2).2.1 O M
 obtain⟨_,_,Z,U,_⟩:=Xki h
 rw[Xbt U] at M
 exact(Xl0 (tb:=tb) h I.2).2.2 O M
 have hr:r.1=.un\/Xal k=true\/eff tb k s=some r:=by
  rcases Xa8 h with ⟨hw,_,e⟩ | ⟨_,e⟩
  refine .inl ?_
  unfold efw at h
  rw[hw] at h
  simp only at h
  split at h<;>cases h
  rfl
  exact .inr (.inr e)
 exact⟨ZT.aft (tb:=tb) hT hk I.1 hr,ZL.aft (tb:=tb) hL hk I.2 hr⟩
end
section
variable{c:Cx}{s:St}
theorem Dl{s':St}(h:nxD c.tb c.n s=some s')(k:StP c s')(i:Yrb s'=true:=by exact rfl): StP c s:=by
 unfold nxD at h
 split at h<;>try cases h
 rename_i M
 split at h<;>cases h
 rename_i j
 simp only[Yrb,W0d] at i
 obtain⟨⟨o,I⟩,O⟩:=i
 refine go 1000 M (J.draw (Dm.lit o I) ⟨ZT.start I,λb hb=>.inl ?_⟩ j O k)
 simp only[Xwn,W0d] at o
 have:=W1q.1 o.1 b (Yo3.1 hb)
 rw[W1v] at this
 exact Xbp this
variable{p:Pl}
noncomputable def nxQ(tb:Nat->Option TI)(n:Nat)(s:St): Option (Pl×Nat×Nat×Nat×Nat×List D×AV):=match nxA tb n s with
 | some (p,o,[a,b])=>match o.op with
  | .call ⟨.builtin .append,_,⟨[T,T']⟩⟩=>match Nat.beq T T',tb T,look p.H (o.dst.getD 0) with
   | true,some h,none=>match Nat.ble h.eb 128,h.z,b with
    | true,.sl sz _,.own q s l m=>match look p.H q with
     | some (.arr s' xs)=>match Nat.beq s sz&&Nat.beq s' sz with
      | true=>some (p,o.dst.getD 0,sz,l,m,xs,a)
      | false=>none
     | _=>none
    | true,.sl sz _,.ow3 q s l m=>match look p.H q with
     | some (.arr s' xs)=>match Nat.beq s sz&&Nat.beq s' sz with
      | true=>some (p,o.dst.getD 0,sz,l,m,xs,a)
      | false=>none
     | _=>none
    | _,_,_=>none
   | _,_,_=>none
  | _=>none
 | _=>none
theorem Xru{d sz l m:Nat}{xs ys:List D}{a v:AV}{us:Hpl}(h:nxQ c.tb c.n s=some (p,d,sz,l,m,xs,a))(hl:l+m<=xs.length)(hy:(xs.drop l).take m=ys)(hF:∀ti:TI,ti.eb<=128->Xj3 d (look p.H) ti sz ys a=some (v,us))(k:p.nx' c v us): StP c s:=by
 unfold nxQ at h
 split at h<;>try cases h
 rename_i p' o a' b hA
 split at h<;>try cases h
 rename_i asx T T' ho
 split at h<;>try cases h
 rename_i ti V Z hd
 have V:=W0c V
 subst V
 have M:∀ {j O},ti.eb<=128->ti.z=.sl j O->Xh3 (look p'.H) ti.z j b=some ys->(p',o.dst.getD 0,j,a')=(p,d,sz,a)->StP c s:=by
  intro j O U I i e
  injection e with e1 e2;injection e2 with e2 e3;injection e3 with e3 e4
  subst e1;subst e2;subst e3;subst e4
  refine Xbl hA ?_ k
  rw[ho]
  simp only[F,if_true,Z,hd,I]
  rw[I] at i
  rw[i]
  exact hF ti U
 split at h
 rename_i U I
 split at h<;>try cases h
 rename_i hq
 split at h<;>cases h
 rename_i i
 rw[W0d] at i
 have h1:=W0c i.1
 have h2:=W0c i.2
 exact M (W1e U) I (by simp only[Xh3,hq];rw[if_pos ⟨h2,h1,hl⟩,hy]) rfl
 rename_i U I
 split at h<;>try cases h
 rename_i hq
 split at h<;>cases h
 rename_i i
 rw[W0d] at i
 have h1:=W0c i.1
 have h2:=W0c i.2
 exact M (W1e U) I (by simp only[Xh3,hq];rw[if_pos ⟨h2,h1,hl⟩,hy]) rfl
 cases h
theorem AqN{d sz l m:Nat}{xs:List D}(zs:List D)(h:nxQ c.tb c.n s=some (p,d,sz,l,m,xs,.nil))(i:l+m<=xs.length)(j:(xs.drop l).take m=zs)(hr:zs.length<=1099511627776)(k:p.nx' c (.gr d sz zs) [(d,.tok zs.length sz)]): StP c s :=
 Xru h i j (λI o=>by simp[Xj3,Xc6 hr o]) k
theorem Aq3{d sz o n l m:Nat}{xs ws:List D}(zs:List D)(h:nxQ c.tb c.n s=some (p,d,sz,l,m,xs,.ow3 o sz 0 n))(j:look p.H o=some (.arr sz ws))(I:l+m<=xs.length)(M:n<=ws.length)(O:ws.take n++(xs.drop l).take m=zs)(h0:0<m)(hr:zs.length<=1099511627776)(k:p.nx' c (.own d sz 0 zs.length) [(d,.arr sz zs)]): StP c s:=by
 subst O
 have i:((xs.drop l).take m).length=m:=by simp;omega
 have e:(ws.take n++(xs.drop l).take m).length=n+m:=by rw[W0i,i,W0k];omega
 rw[e] at hr k
 refine Xru h I rfl (λU T=>?_) k
 simp only[Xj3,j]
 rw[if_pos ⟨by rw[i];exact Xc6 hr T,rfl,M,rfl,rfl⟩,if_neg (by omega),i]
theorem Yrg{d sz o n l m:Nat}{xs ws:List D}(h:nxQ c.tb c.n s=some (p,d,sz,l,m,xs,.ow3 o sz 0 n))(i:look p.H o=some (.arr sz ws))(j:l+m<=xs.length)(I:n<=ws.length)(h0:m=0)(hr:n<=1099511627776)(k:p.nx' c (.ow3 o sz 0 n) []): StP c s:=by
 subst h0
 refine Xru (ys:=[]) h j (W5k) (λO M=>?_) k
 simp only[Xj3,i,W3r,W2e]
 rw[if_pos ⟨Xc6 hr M,rfl,I,rfl,rfl⟩,if_pos trivial]
end
end Go.Vm
namespace Go.Proofs.YtnedfplmoojbaaaGreatDoor.R9
open Go Go.Vm Go.Num Go.Tow Go.Proofs.YtnedfplmoojbaaaGreatDoor
theorem shrI{a i:Nat}(hi:i<=63): arB .shr .i64 a i (a/2^i:Nat):=show _/\_ from⟨by omega,by
 rw[show min (Int.toNat (i:Int)) (IntKind.bits .i64)=i by show min (Int.toNat (i:Int)) 64=i;omega,W1r _ (Int.pow_nonneg (by decide)),show (2:Int)^i=((2^i:Nat):Int) by simp]
 exact(Int.natCast_ediv _ _).symm⟩
theorem Yqe{a:Nat}: arB .rem .i64 a 2 (a%2:Nat):=show _/\_ from⟨by decide,Xta a 2⟩
theorem num0{x:Rat}: Xa9 x.num 0≠0↔x≠0:=by
 rw[Xh4]
 rcases Xbc x with ⟨h,e⟩ | ⟨h,e⟩ | ⟨h,e⟩<;>rw[e]
 exact⟨λ_ e=>by rw[e] at h;exact absurd h (by decide),λ_=>by decide⟩
 exact⟨λh=>absurd rfl h,λi=>absurd h i⟩
 exact⟨λ_ e=>by rw[e] at h;exact absurd h (by decide),λ_=>by decide⟩
theorem Xgi{l:List Rat}{p i:Nat}(U:Ps p l)(hp:p<=8796093022208)(hi:i<=63)(V:l.length<=1048576): C0 299 [.d (dqs l),.d (.int .i64 i)] (·=.b (dc (oc l i))):=by
 refine En Tryz.func299 λ_ _ _=>?_
 refine Lo (λk:Nat=>[(0,.d (dqs l)),(1,.d (.int .i64 i)),(5,.d (.int .i64 k))]) (λ_=>[]) (λk=>k<=l.length/\∀q x,q<k->l[q]?=some x->q/2^i%2=1->x=0) (λk=>l.length-k) 0 [] rfl ⟨by omega,λq x h=>by omega⟩ λk ⟨Z,T⟩=>?_
 refine By rfl (λh=>?_) λh=>?_<;>simp only[lq] at h
 . obtain⟨x,M⟩:=qat (l:=l) (k:=k) (by omega)
   have next:(k/2^i%2=1->x=0)->k+1<=l.length/\∀q y,q<k+1->l[q]?=some y->q/2^i%2=1->y=0:=λj=>⟨by omega,λq y hq o hb=>by
    by_cases e:q=k
    subst e;rw[M] at o;injection o with o;rw[<-o];exact j hb
    exact T q y (by omega) o hb⟩
   refine Ar (k/2^i:Nat) rfl ?_ (shrI hi)
   refine Ar (k/2^i%2:Nat) rfl ?_ Yqe
   refine By rfl (λj=>?_) λj=>?_
   . refine Ix k rfl (mp M)<|Ce rfl (R2.Sign_ok (U x (W0h M)) hp)<|By rfl (λI=>?_) λI=>?_
     exact R1 rfl (.bp ⟨λ_=>⟨k,x,M,by omega,num0.1 I⟩,λ_=>rfl⟩)
     . refine Ar (k+1:Nat) rfl ?_
       exact Bk (k+1) [] rfl (next λ_=>W0t λO=>I (num0.2 O)) (by show l.length-(k+1)<l.length-k;omega)
   . refine Ar (k+1:Nat) rfl ?_
     exact Bk (k+1) [] rfl (next λO=>absurd (by omega) j) (by show l.length-(k+1)<l.length-k;omega)
 exact R1 rfl (.bp ⟨nofun,λ⟨q,x,j,I,O⟩=>absurd (T q x (by have:=(W0s.1 j).1;omega) j I) O⟩)
theorem wo_take{α:Type}{l:List α}{k i:Nat}{x:α}(h:l[k]?=some x): wo (l.take (k+1)) i=wo (l.take k) i++(if k/2^i%2=0 then [x] else []):=by
 have j:=(W0s.1 h).1
 unfold wo
 rw[W1w,h,Xou,W0k,W2h (by omega),W1l]
 rfl
theorem Xgx{l:List Rat}{i:Nat}(hi:i<=63)(T:l.length<=1048576): C0 300 [.d (dqs l),.d (.int .i64 i)] (·=.d (dqs (wo l i))):=by
 have j:∀k,(wo (l.take k) i).length<=k:=λk=>by
  induction k with
  | zero=>simp[wo,woA]
  | succ k M =>
   by_cases h:k<l.length
   rw[wo_take (W0e h),W0i]
   split<;>simp<;>omega
   rw[W0b (by omega)]
   rw[W0b (by omega)] at M;omega
 refine En Tryz.func300 λ_ _ _=>?_
 refine Nl 5 5 4 rfl ?_
 refine Lo (λk:Nat=>[(0,.d (dqs l)),(1,.d (.int .i64 i)),(5,.gr 5 4 ((wo (l.take k) i).map dq)),(6,.d (.int .i64 k))]) (λk=>[(5,.tok ((wo (l.take k) i).map dq).length 4)]) (λk=>k<=l.length) (λk=>l.length-k) 0 [] rfl (by omega) λk U=>?_
 refine By rfl (λh=>?_) λh=>?_<;>simp only[lq] at h
 obtain⟨x,I⟩:=qat (l:=l) (k:=k) (by omega)
 have o:=wo_take (i:=i) I
 have V:=j (k+1)
 refine Ar (k/2^i:Nat) rfl ?_ (shrI hi)
 refine Ar (k/2^i%2:Nat) rfl ?_ Yqe
 refine By rfl (λO=>?_) λO=>?_
 rw[if_pos (by omega)] at o
 refine Ix k rfl (mp I)<|ApG ((wo (l.take (k+1)) i).map dq) rfl (by rw[o];simp) (by simp;omega) ?_
 refine Ar (k+1:Nat) rfl ?_
 exact Bk (k+1) [(24,5)] rfl (by omega:k+1<=l.length) (by show l.length-(k+1)<l.length-k;omega)
 rw[if_neg (by omega),W4x] at o
 refine Ar (k+1:Nat) rfl ?_
 exact Bk (k+1) [] rfl (by omega:k+1<=l.length) (by show l.length-(k+1)<l.length-k;omega) (by exact⟨by rw[o];rfl,by rw[o];rfl,rfl,rfl,rfl⟩)
 rw[W0b (by omega)]
 exact R1 rfl (.gr rfl)
end Go.Proofs.YtnedfplmoojbaaaGreatDoor.R9
namespace Go.Tow
open Go Go.Num Go.Proofs.YtnedfplmoojbaaaGreatDoor
def nd(x:Nm)(i:Nat): Prop:=oc (toL x.k x.a) i\/∃q l,i<q/\(toT x.k x.t)[q]?=some l/\oc l i
def Tm(x:Nm): Prop:=∀i,i<x.k->nd x i
theorem Yei{α:Type}{i:Nat}{l:List α}: ∀ {p n:Nat} {x:α},l[n]?=some x->(p+n)/2^i%2=0->x∈woA i p l:=by
 induction l with
 | nil=>intro p n x h;simp at h
 | cons y l j =>
  intro p n x h hb
  cases n with
  | zero =>
   simp at h
   subst h
   simp only[woA]
   rw[if_pos (by simpa using hb)];exact W0w ..
  | succ n =>
   have:=j (p:=p+1) (n:=n) (x:=x) (by simpa using h) (by rw[<-hb];congr 2;omega)
   simp only[woA]
   split
   exact W1c _ this
   exact this
theorem Yff{k i:Nat}{b:El (k+1)}(hi:i<=k)(o:¬oc (toL (k+1) b) i)(h:rm k i b=zero k): b=zero (k+1):=(Xam (k+1) b).2 λx I=>W0t λh0=>by
 obtain⟨p,hp⟩:=W3d I
 by_cases hb:p/2^i%2=1
 exact o ⟨p,x,hp,hb,h0⟩
 have j:x∈woA i 0 (toL (k+1) b):=Yei hp (by rw[W1l];omega)
 have M:toL k (rm k i b)=woA i 0 (toL (k+1) b):=Xgb hi
 rw[<-M,h] at j
 exact h0 ((Xam k (zero k)).1 rfl x j)
theorem Yj7{k:Nat}{a:El (k+1)}(h:a.2≠zero k): oc (toL (k+1) a) k:=W0t λi=>h ((Xdx i).1 rfl)
theorem Yft{k i:Nat}{a:El (k+1)}(hi:i<k)(h:oc (toL k a.1) i): oc (toL (k+1) a) i:=W0t λj=>((Xdx j).2 hi).1 h
theorem Xz8{k i:Nat}{a:El (k+1)}(hi:i<k)(h:oc (toL k a.2) i): oc (toL (k+1) a) i:=W0t λj=>((Xdx j).2 hi).2 h
theorem Ydd{k i:Nat}{a:El k}(h:k<=i): ¬oc (toL k a) i:=λ⟨p,x,o,j,_⟩=>by
 have:=(W0s.1 o).1
 rw[Xab] at this
 rw[W4o (W0y this (W0o (by decide) h))] at j
 cases j
theorem Xz7{k i:Nat}{a:El (k+1)}(h:oc (toL (k+1) a) i): oc (toL k a.1) i\/oc (toL k a.2) i\/(i=k/\a.2≠zero k):=by
 obtain⟨p,x,j,o,I⟩:=h
 have j:(toL k a.1++toL k a.2)[p]?=some x:=j
 by_cases hp:p<2^k
 rw[W0q (by rw[Xab];exact hp)] at j
 exact .inl ⟨p,x,j,o,I⟩
 rw[W0n (by rw[Xab];omega),Xab] at j
 have M:=(W0s.1 j).1
 rw[Xab] at M
 by_cases O:i<k
 refine .inr (.inl ⟨p-2^k,x,j,?_,I⟩)
 obtain⟨d,hd⟩:∃d,k=i+1+d:=⟨k-i-1,by omega⟩
 have e:p=p-2^k+2^i*(2*2^d):=by
  have:2^k=2^i*(2*2^d):=by rw[hd,W0x,W0z,W0v]
  omega
 rw[e,W7a _ _ (W0p i),W5m] at o
 exact o
 by_cases e:i=k
 exact .inr (.inr ⟨e,λh0=>I ((Xam k a.2).1 h0 x (W0h j))⟩)
 exfalso
 have:p<2^i:=W0y (show p<2^(k+1) by rw[W0z];omega) (W0o (by decide) (by omega))
 rw[W4o this] at o
 cases o
theorem Yj8: ∀ {k i j:Nat} {a:El (k+1)},i<=j->j<k->¬oc (toL (k+1) a) i->oc (toL (k+1) a) (j+1)->oc (toL k (rm k i a)) j:=by
 intro k
 induction k with
 | zero=>intro i j a _ h;omega
 | succ k O =>
  intro i j a I U M h
  obtain⟨n1,T⟩:=(Xdx M).2 (by omega:i<k+1)
  rw[show rm (k+1) i a=pr (rm k i a.1) (rm k i a.2) from if_neg (by omega)]
  rcases Xz7 h with h | h | ⟨h,h0⟩
  have o:j<k:=by
   by_cases e:j<k
   exact e
   exact absurd h (Ydd (by omega))
  exact Yft o (O I o n1 h)
  have o:j<k:=by
   by_cases e:j<k
   exact e
   exact absurd h (Ydd (by omega))
  exact Xz8 o (O I o T h)
  obtain rfl:j=k:=by omega
  exact Yj7 λe=>h0 (Yff I T e)
theorem Yos{m i j:Nat}{T:Tw (m+1)}{c:El (m+1)}(hi:i<=m)(I:¬nd ⟨m+1,T,c⟩ i)(M:i<=j)(V:j<m)(h:nd ⟨m+1,T,c⟩ (j+1)): nd ⟨m,rmT m i T,rm m i c⟩ j:=by
 rcases h with h | ⟨q,l,hq,o,Z⟩
 exact .inl (Yj8 M V (λe=>I (.inl e)) h)
 have O:q<(toT (m+1) T).length:=(W0s.1 o).1
 rw[Xaa] at O
 obtain⟨e,U,_,_⟩:=Tw.at (t:=T) O
 have o:(toT (m+1) T)[q]?=some l:=o
 rw[o] at U
 injection U with U
 subst U
 have hn:¬oc (toL q e) i:=λh=>I (.inr ⟨q,_,by omega,o,h⟩)
 obtain⟨q,rfl⟩:∃q',q=q'+1:=⟨q-1,by omega⟩
 refine .inr ⟨q,wo (toL (q+1) e) i,by omega,?_,?_⟩
 show (toT m (rmT m i T))[q]?=_
 rw[Xo0 hi,W0n (by rw[W0k,Xaa];omega),W0k,Xaa,W2h (by omega),W2c,W1t,show i+1+(q-i)=q+1 by omega,o]
 rfl
 rw[<-Xgb (by omega:i<=q)]
 exact Yj8 M (by omega) hn Z
end Go.Tow
namespace Go.Proofs.YtnedfplmoojbaaaGreatDoor.R9
open Go Go.Vm Go.Num Go.Tow Go.Proofs.YtnedfplmoojbaaaGreatDoor
section
def wl(i j:Nat)(zs:List (List Rat)): List (List Rat):=zs.mapIdx λq r=>if i<q/\q<j then wo r i else r
theorem wl_get{i j q:Nat}{zs:List (List Rat)}: (wl i j zs)[q]?=zs[q]?.map λr=>if i<q/\q<j then wo r i else r:=by unfold wl;rw[List.getElem?_mapIdx]
theorem wl_len{i j:Nat}{zs:List (List Rat)}: (wl i j zs).length=zs.length:=by unfold wl;simp
theorem wl_start{i:Nat}{zs:List (List Rat)}: wl i (i+1) zs=zs:=W4t λq=>by
 rw[wl_get]
 cases zs[q]? with
 | none=>rfl
 | some r=>simp only[W3m];rw[if_neg (by omega)]
theorem wl_set{i j:Nat}{zs:List (List Rat)}{r:List Rat}(hi:i<j)(h:zs[j]?=some r): (wl i j zs).set j (wo r i)=wl i (j+1) zs:=W4t λq=>by
 have o:=(W0s.1 h).1
 rw[wl_get,List.getElem?_set]
 by_cases e:j=q
 subst e
 rw[if_pos rfl,if_pos (by rw[wl_len];exact o),h,W3m,if_pos ⟨hi,by omega⟩]
 rw[if_neg e,wl_get]
 cases zs[q]? with
 | none=>rfl
 | some r=>simp only[W3m];congr 1;split<;>split<;>first | rfl | omega
theorem wl_end{m i:Nat}{T:Tw (m+1)}{zs:List (List Rat)}(h:zs.take (m+1)=toT (m+1) T)(hi:i<=m): (wl i (m+1) zs).take i++((wl i (m+1) zs).drop (i+1)).take (m+1-(i+1))=toT m (rmT m i T):=by
 rw[Xo0 hi,<-h]
 congr 1
 refine W4t λq=>?_
 rw[W1h,W1h,W1h,wl_get]
 split
 rw[if_pos (by omega)]
 cases zs[q]? with
 | none=>rfl
 | some r=>simp only[W3m];rw[if_neg (by omega)]
 rfl
 refine W4t λq=>?_
 rw[W1h,W1t,W2c,W1t,W1h,wl_get]
 split
 rw[if_pos (by omega)]
 cases zs[i+1+q]? with
 | none=>rfl
 | some r=>simp only[W3m];rw[if_pos (by omega)]
 rw[if_neg (by omega)];rfl
open Classical in
noncomputable def trS(n:Nat)(z:Nm): Nm:=if nd z n then z else match z with
 | ⟨0,t,a⟩=>⟨0,t,a⟩
 | ⟨m+1,t,a⟩=>⟨m,rmT m n t,rm m n a⟩
noncomputable def trF: Nat->Nm->Nm
 | 0,z=>z
 | n+1,z=>trF n (trS n z)
theorem Xqq{n:Nat}{z:Nm}(h:nd z n): trF (n+1) z=trF n z:=congrArg (trF n) (if_pos h)
theorem Yey{n m:Nat}{t:Tw (m+1)}{a:Tow.El (m+1)}(h:¬nd ⟨m+1,t,a⟩ n): trF (n+1) ⟨m+1,t,a⟩=trF n ⟨m,rmT m n t,rm m n a⟩:=congrArg (trF n) (if_neg h)
section
variable{K:Nat}{G:Tw K}{S:List (Tow.El K)}{r p:Nat}{x:Nm}{v:Tow.El K}
structure Tst where
 n:Nat
 kd:Nat
 z:Nm
 zs:List (List Rat)
def Als(P:Rat->Prop)(z:Nm): Prop:=(∀q∈toL z.k z.a,P q)/\∀l∈toT z.k z.t,∀q∈l,P q
def TI(y:Nm)(P:Rat->Prop)(G:Tw K)(S:List (Tow.El K))(r p:Nat)(v:Tow.El K)(s:Tst): Prop:=(NOk G S r p s.z v/\Als P s.z/\trF s.n s.z=y)/\s.n<=s.z.k/\s.zs.take s.z.k=toT s.z.k s.z.t/\(s.kd=0->s.z.k=0)/\(s.kd=1->s.zs.length=s.z.k)/\(3<=s.kd->s.n=0/\s.zs.length=s.z.k)/\∀j,s.n<=j->j<s.z.k->nd s.z j
abbrev TH(s:Tst): Hpl:=(2,.var (.st (.pr .nil .nil)))::match s.kd with
 | 0=>[(3,.var (.st (.pr (.lit 1 []) (.d (de s.z.a)))))]
 | 1=>[(3,.var (.st (.pr (.own 11 1 0 (s.zs.map dqs).length) (.d (de s.z.a))))),(11,.arr 1 (s.zs.map dqs))]
 | 2=>[(3,.var (.st (.pr (.ow3 11 1 0 s.z.k) (.d (de s.z.a))))),(11,.arr 1 (s.zs.map dqs))]
 | _=>[(3,.var (.st (.pr (.gr 11 1 (s.zs.map dqs)) (.d (de s.z.a))))),(11,.tok (s.zs.map dqs).length 1)]
abbrev TH'(kd m:Nat)(c:List Rat)(zs ws:List (List Rat)): Hpl:=(2,.var (.st (.pr .nil .nil)))::match kd with
 | 1=>[(3,.var (.st (.pr (.own 11 1 0 (zs.map dqs).length) (.d (dqs c))))),(11,.arr 1 (ws.map dqs))]
 | _=>[(3,.var (.st (.pr (.ow3 11 1 0 (m+1)) (.d (dqs c))))),(11,.arr 1 (ws.map dqs))]
theorem Xys{P:Rat->Prop}(hP:Als P x)(hG:red K G)(hS:S.length<=3)(hx:NOk G S r p x v)(hr:r<=8796093022208)(hp:p<=8796093022208): C0 215 [.d (dN x)] λw=>∃z:Nm,w=.d (dN z)/\NOk G S r p z v/\(Tm z/\Als P z)/\z=trF x.k x:=by
 have hGr:=Xad hG
 have hk3:=hx.le hGr hS
 obtain⟨k,t,a⟩:=x
 obtain⟨y,hy⟩:∃y,trF k ⟨k,t,a⟩=y:=⟨_,rfl⟩
 have hk3:k<=3:=hk3
 have hlen:=Xaa k t
 refine En Tryz.func215 λ_ _ _=>?_
 refine Dl rfl ?_
 by_cases k0:k=0
 subst k0
 refine ApE rfl rfl (by decide) ?_
 refine Ar (-1) rfl ?_ (show arB .sub .i64 0 1 (-1) from wr rfl (by simp[inK]))
 refine Lo (λ(s:Tst)=>[(2,.ptr 2 0),(3,.ptr 3 0),(4,.d (.int .i64 ((s.n:Int)-1)))]) (λs=>TH s) (λs=>TI y P G S r p v s/\s.kd=0/\s.n=0) (λs=>s.n) ⟨0,0,⟨0,t,a⟩,[]⟩ [] rfl ⟨⟨⟨hx,hP,hy⟩,W0a _,rfl,λ_=>rfl,nofun,λh=>absurd h (by decide:¬3<=0),λj _ hj=>absurd hj (W3t _)⟩,rfl,rfl⟩ (λ⟨n,kd,⟨m,T,c⟩,zs⟩ hI=>?_)
 obtain⟨⟨⟨h1,hF⟩,h2,h3,h4,h5,h6,h8⟩,rfl,rfl⟩:=hI
 obtain rfl:=h4 rfl
 exact No rfl (by decide:¬((0:Nat):Int)-1>=0)<|Rt rfl (.one (.sd (.pd (.lit rfl) (.eq rfl))) rfl rfl) ⟨_,rfl,h1,⟨λi hi=>absurd hi (W3t _),hF.1⟩,hF.2.trans hy.symm⟩
 . refine ApL ((toT k t).map dqs) rfl rfl (by simp[hlen];omega) (by simp[hlen];omega) ?_
   refine Ar (k-1) rfl ?_ (wr (by simp[hlen]) (by simp only[inK];omega))
   refine Lo (λ(s:Tst)=>[(2,.ptr 2 0),(3,.ptr 3 0),(4,.d (.int .i64 ((s.n:Int)-1)))]) (λs=>TH s) (λs=>TI y P G S r p v s/\s.kd≠0) (λs=>s.n) ⟨k,1,⟨k,t,a⟩,toT k t⟩ [] rfl ⟨⟨⟨hx,hP,hy⟩,W0a _,W0b (by rw[hlen];exact W0a _),nofun,λ_=>hlen,λh=>absurd h (by decide:¬3<=1),λj h1 h2=>absurd h2 (W6f.2 h1)⟩,show 1≠0 by decide⟩ (λ⟨n,kd,⟨m,T,c⟩,zs⟩ hI=>?_)
   obtain⟨⟨⟨h1,hF⟩,h2,h3,h4,h5,h6,h8⟩,h7⟩:=hI
   simp only at h1 h2 h3 h4 h5 h6 h7 h8
   have hm3:m<=3:=h1.le hGr hS
   have hT:TS r m T:=h1.r
   have hc:Sz p (toL m c):=h1.p
   have hcl:=Xab m c
   have hpm:=p16 (by omega:m<=16)
   have hTl:=Xaa m T
   have hzl:m<=zs.length:=by have:=congrArg List.length h3;rw[W0k,hTl] at this;omega
   cases n with
   | zero =>
    refine No rfl (by decide:¬((0:Nat):Int)-1>=0) ?_
    match kd,h5,h6,h7 with
    | 1,h5,_,_ =>
     exact Rt rfl (.one (.sd (.pd (.own rfl (by omega) (by rw[W1i,W2u,<-h3,W0b (by omega)])) (.eq rfl))) rfl rfl) ⟨⟨m,T,c⟩,rfl,h1,⟨λi hi=>h8 i (W0r _) hi,hF.1⟩,hF.2.trans hy.symm⟩
    | 2,_,_,_ =>
     exact Rt rfl (.one (.sd (.pd (.ow3 rfl (by simp;omega) (by rw[W1i,<-W2f,h3])) (.eq rfl))) rfl rfl) ⟨⟨m,T,c⟩,rfl,h1,⟨λi hi=>h8 i (W0r _) hi,hF.1⟩,hF.2.trans hy.symm⟩
    | kd+3,_,h6,_ =>
     exact Rt rfl (.one (.sd (.pd (.gr (by rw[<-h3,W0b (by have:=(h6 (by omega)).2;omega)])) (.eq rfl))) rfl rfl) ⟨⟨m,T,c⟩,rfl,h1,⟨λi hi=>h8 i (W0r _) hi,hF.1⟩,hF.2.trans hy.symm⟩
   | succ i =>
    obtain⟨m,rfl⟩:∃m',m=m'+1:=⟨m-1,by omega⟩
    have hkd:kd=1\/kd=2:=by
     have:¬3<=kd:=λh=>by have:=(h6 h).1;omega
     omega
    let o:Nat->Nat->Prop:=λi j=>oc (toL (m+1) c) i\/∃q l,i<q/\q<j/\(toT (m+1) T)[q]?=some l/\oc l i
    have need0:dc (oc (toL (m+1) c) i)=true↔o i (i+1):=by
     rw[Xaj];exact⟨.inl,λh=>h.elim id λ⟨q,l,a1,a2,_⟩=>by omega⟩
    have U:∀ {j:Nat} {l:List Rat},(toT (m+1) T)[j]?=some l->i+1<=j->(o i (j+1)↔o i j\/oc l i):=λ{j l} M hij=>by
     refine⟨λh=>h.elim (λh=>.inl (.inl h)) λ⟨q,l',a1,a2,a3,a4⟩=>?_,λh=>h.elim (λh=>h.elim .inl λ⟨q,l',a1,a2,a3,a4⟩=>.inr ⟨q,l',a1,by omega,a3,a4⟩) λh=>.inr ⟨j,l,by omega,by omega,M,h⟩⟩
     by_cases e:q=j
     subst e;rw[M] at a3;injection a3 with a3;subst a3;exact .inr a4
     exact .inl (.inr ⟨q,l',a1,by omega,a3,a4⟩)
    have rad:∀j,j<m+1->∃l,(toT (m+1) T)[j]?=some l/\zs[j]?=some l/\Sz r l:=λj hj=>by
     obtain⟨e,e1,e2,_⟩:=Tw.at (t:=T) hj
     refine⟨_,e1,?_,e2 r hT⟩
     rw[<-h3,W1h,if_pos hj] at e1;exact e1
    have rlen:∀ {j:Nat} {l:List Rat},(toT (m+1) T)[j]?=some l->l.length=2^j:=λh=>(TS.pt hT _ _ h).1
    have nod:¬o i (m+1)->¬nd ⟨m+1,T,c⟩ i:=λh e=>h (e.elim .inl λ⟨q,l,a1,a3,a4⟩=>.inr ⟨q,l,a1,by have:=(W0s.1 a3).1;rwa[hTl] at this,a3,a4⟩)
    have out:¬o i (m+1)->(NOk G S r p ⟨m,rmT m i T,rm m i c⟩ v/\Als P ⟨m,rmT m i T,rm m i c⟩/\trF i ⟨m,rmT m i T,rm m i c⟩=y)/\toL m (rm m i c)=wo (toL (m+1) c) i:=λh=>by
     have him:i<=m:=by omega
     obtain⟨ρ,a1,a2⟩:=h1.ex
     refine⟨⟨⟨⟨skip i ρ,a1.rm hGr him λj l hj M ho=>h (.inr ⟨j,l,hj,by have:=(W0s.1 M).1;rw[hTl] at this;omega,M,ho⟩),by rw[<-a2];exact Yg1 him λho=>h (.inl ho)⟩,hT.rm him,?_⟩,⟨?_,?_⟩,(Yey (nod h)).symm.trans hF.2⟩,Xgb him⟩
     show Sz p (toL m (rm m i c))
     rw[Xgb him];exact hc.sub λx hx=>Xif hx
     show ∀q∈toL m (rm m i c),P q
     rw[Xgb him];exact λq hq=>hF.1.1 q (Xif hq)
     show ∀l∈toT m (rmT m i T),∀q∈l,P q
     rw[Xo0 him]
     intro l M q hq
     rcases W2p.1 M with M | M
     exact hF.1.2 l (W7v M) q hq
     obtain⟨l',hl',rfl⟩:=W4r.1 M
     exact hF.1.2 l' (W7w hl') q (Xif hq)
    have keep:o i (m+1)->∀j,i<=j->j<m+1->nd ⟨m+1,T,c⟩ j:=λh j a b=>by
     by_cases e:i=j
     subst e
     exact h.elim .inl λ⟨q,l,a1,_,a3,a4⟩=>.inr ⟨q,l,a1,a3,a4⟩
     exact h8 j (by omega) b
    have O:¬o i (m+1)->∀j,i<=j->j<m->nd ⟨m,rmT m i T,rm m i c⟩ j:=λh j a b=>Yos (by omega) (λe=>h (e.elim .inl λ⟨q,l,a1,a3,a4⟩=>.inr ⟨q,l,a1,by have:=(W0s.1 a3).1;rwa[hTl] at this,a3,a4⟩)) a b (h8 (j+1) (by omega) (by omega))
    refine Yes rfl (by omega:((i+1:Nat):Int)-1>=0) ?_
    have ei:((i+1:Nat):Int)-1=i:=by omega
    have hoc:∀ {l:List Rat} {p:Nat},Ps p l->p<=8796093022208->l.length<=1048576->C0 299 [.d (dqs l),.d (.int .i64 (((i+1:Nat):Int)-1))] (·=.b (dc (oc l i))):=λh1 h2 h3=>by
     have:=Xgi (i:=i) h1 h2 (by omega) h3
     rwa[<-ei] at this
    have hwo:∀ {l:List Rat},l.length<=1048576->C0 300 [.d (dqs l),.d (.int .i64 (((i+1:Nat):Int)-1))] (·=.d (dqs (wo l i))):=λh=>by
     have:=Xgx (i:=i) (by omega) h
     rwa[<-ei] at this
    rcases hkd with rfl | rfl
    refine Ce rfl (hoc (l:=toL (m+1) c) hc.ps hp (by omega))<|Ar (i+1:Nat) rfl ?_ (wr (by omega:((i+1:Nat):Int)-1+1=((i+1:Nat):Int)) (by simp only[inK];omega))
    refine Lo (λ(q:Nat×Bool)=>[(2,.ptr 2 0),(3,.ptr 3 0),(4,.d (.int .i64 (((i+1:Nat):Int)-1))),(5,.b q.2),(6,.d (.int .i64 q.1))]) (λ_=>TH ⟨i+1,1,⟨m+1,T,c⟩,zs⟩) (λq=>i+1<=q.1/\q.1<=m+1/\(q.2=true↔o i q.1)) (λq=>m+1-q.1) (i+1,dc (oc (toL (m+1) c) i)) [] rfl ⟨W0a _,by show i+1<=m+1;omega,need0⟩ (λ(j,b) ⟨g1,g2,g3⟩=>?_)
    simp only at g1 g2 g3
    refine By rfl (λh=>?_) λh=>?_<;>try simp only[lt'] at h
    obtain⟨l,M,V,hls⟩:=rad j (by omega)
    refine By rfl (λhb=>?_) λhb=>?_
    refine Ar (j+1:Nat) rfl ?_
    exact Bk (j+1,true) [] rfl ⟨by show i+1<=j+1;omega,by show j+1<=m+1;omega,by show true=true↔_;rw[U M g1];exact⟨λ_=>.inl (g3.1 hb),λ_=>rfl⟩⟩ (by show m+1-(j+1)<m+1-j;omega)
    refine Eo j rfl (by first | omega | (simp only[lt'];omega))<|Ld (dqs l) rfl (mp V) ?_
    refine Ce rfl (hoc (l:=l) hls.ps hr (by rw[rlen M];have:=p16 (by omega:j<=16);omega))<|Ar (j+1:Nat) rfl ?_
    exact Bk (j+1,dc (oc l i)) [] rfl ⟨by show i+1<=j+1;omega,by show j+1<=m+1;omega,by show dc (oc l i)=true↔_;rw[U M g1,Xaj];exact⟨.inr,λh=>h.elim (λh=>absurd (g3.2 h) hb) id⟩⟩ (by show m+1-(j+1)<m+1-j;omega)
    obtain rfl:j=m+1:=by omega
    refine By rfl (λhb=>?_) λhb=>?_
    refine Ar ((i:Int)-1) rfl ?_ (wr (by omega:((i+1:Nat):Int)-1-1=(i:Int)-1) (by simp only[inK];omega))
    exact Bk ⟨i,1,⟨m+1,T,c⟩,zs⟩ [] rfl ⟨⟨⟨h1,hF.1,(Xqq (keep (g3.1 hb) i (W0a _) (by omega))).symm.trans hF.2⟩,by show i<=m+1;omega,h3,h4,h5,λh=>absurd h (by decide:¬3<=1),keep (g3.1 hb)⟩,h7⟩ (by omega:i<i+1)
    have Z:¬o i (m+1):=λh=>hb (g3.2 h)
    obtain⟨w1,w2⟩:=out Z
    have hw0:=hwo (l:=toL (m+1) c) (by omega)
    rw[<-w2] at hw0
    refine Ce rfl hw0<|Ar (i+1:Nat) rfl ?_ (wr (by omega:((i+1:Nat):Int)-1+1=((i+1:Nat):Int)) (by simp only[inK];omega))
    refine Lo (λ(j:Nat)=>[(2,.ptr 2 0),(3,.ptr 3 0),(4,.d (.int .i64 (((i+1:Nat):Int)-1))),(7,.d (.int .i64 j))]) (λj=>TH' 1 m (toL m (rm m i c)) zs (wl i j zs)) (λj=>i+1<=j/\j<=m+1) (λj=>m+1-j) (i+1) [] rfl ⟨W0a _,by omega⟩ (λj ⟨g1,g2⟩=>?_) (by rw[wl_start];exact⟨rfl,rfl,rfl,rfl,rfl⟩)
    refine By rfl (λh=>?_) λh=>?_<;>try simp only[lt'] at h
    obtain⟨l,M,V,hls⟩:=rad j (by omega)
    refine Dw rfl<|Eo j rfl (by first | omega | (simp only[lt',wl_len];omega))<|Ld (dqs l) rfl (mp (by rw[wl_get,V,W3m,if_neg (by omega)])) ?_
    refine Ce rfl (hwo (l:=l) (by rw[rlen M];have:=p16 (by omega:j<=16);omega))<|Eo j rfl (by first | omega | (simp only[lt',wl_len];omega))<|Sto rfl (by simp only[lt',wl_len];omega) (zs:=(wl i (j+1) zs).map dqs) (by rw[<-wl_set (by omega) V];exact ms) ?_
    refine Ar (j+1:Nat) rfl ?_
    exact Bk (j+1) [] rfl ⟨by omega,by omega⟩ (by show m+1-(j+1)<m+1-j;omega)
    obtain rfl:j=m+1:=by omega
    have hwe:=wl_end h3 (by omega:i<=m)
    have hws:(wl i (m+1) zs).length=zs.length:=wl_len
    have I:=Xaa m (rmT m i T)
    refine Dw rfl ?_
    by_cases i0:i=0
    subst i0
    refine S30 rfl rfl ?_
    refine Ar (0+1:Nat) rfl ?_
    refine Sw (0+1) (m+1) rfl (by omega) (by simp only[lt'];omega) ?_ (hh:=by simp only[Option.getD,lt'];omega)
    have hz0:(((wl 0 (m+1) zs).map dqs).drop (0+(0+1))).take (m+1-(0+1))=(toT m (rmT m 0 T)).map dqs:=by rw[<-hwe,W5k,W3s,W1l,<-W5i,<-W2f]
    refine AqN ((toT m (rmT m 0 T)).map dqs) rfl (by simp only[lt'];omega) hz0 (by simp[I];omega) ?_
    refine Ar (((0:Nat):Int)-1) rfl ?_ (wr (by omega:((0+1:Nat):Int)-1-1=((0:Nat):Int)-1) (by simp[inK]))
    exact Bk ⟨0,3,⟨m,rmT m 0 T,rm m 0 c⟩,toT m (rmT m 0 T)⟩ [(11,90),(82,11)] rfl ⟨⟨w1,W0r _,W0b (by rw[I];exact W0a _),λh=>absurd h (by decide:¬3=0),λh=>absurd h (by decide:¬3=1),λ_=>⟨rfl,I⟩,O Z⟩,show 3≠0 by decide⟩ (by decide:0<0+1)
    refine S3 i rfl (.inl rfl) (by omega) (by first | omega | (simp only[lt'];omega)) ?_
    refine Ar (i+1:Nat) rfl ?_ (wr (by omega:((i+1:Nat):Int)-1+1=((i+1:Nat):Int)) (by simp only[inK];omega))
    refine Sw (i+1) (m+1) rfl (by omega) (by simp only[lt'];omega) ?_ (hh:=by simp only[Option.getD,lt'];omega)
    by_cases im:i=m
    subst im
    refine Yrg rfl rfl (by simp only[lt'];omega) (by simp only[lt'];omega) (by omega) (by omega) ?_
    refine Ar ((i:Int)-1) rfl ?_ (wr (by omega:((i+1:Nat):Int)-1-1=(i:Int)-1) (by simp only[inK];omega))
    rw[W3a,W5k,W4x] at hwe
    exact Bk ⟨i,2,⟨i,rmT i i T,rm i i c⟩,wl i (i+1) zs⟩ [] rfl ⟨⟨w1,W0a _,hwe,λh=>absurd h (by decide:¬2=0),λh=>absurd h (by decide:¬2=1),λh=>absurd h (by decide:¬3<=2),O Z⟩,show 2≠0 by decide⟩ (by omega:i<i+1)
    have hz0:((wl i (m+1) zs).map dqs).take i++(((wl i (m+1) zs).map dqs).drop (0+(i+1))).take (m+1-(i+1))=(toT m (rmT m i T)).map dqs:=by rw[<-hwe,W1l,<-W2f,<-W5i,<-W2f,<-W2j]
    refine Aq3 ((toT m (rmT m i T)).map dqs) rfl rfl (by simp only[lt'];omega) (by simp only[lt'];omega) hz0 (by omega) (by simp[I];omega) ?_
    refine Ar ((i:Int)-1) rfl ?_ (wr (by omega:((i+1:Nat):Int)-1-1=(i:Int)-1) (by simp only[inK];omega))
    exact Bk ⟨i,1,⟨m,rmT m i T,rm m i c⟩,toT m (rmT m i T)⟩ [(11,90),(82,11)] rfl ⟨⟨w1,by show i<=m;omega,W0b (by rw[I];exact W0a _),λh=>absurd h (by decide:¬1=0),λ_=>I,λh=>absurd h (by decide:¬3<=1),O Z⟩,show 1≠0 by decide⟩ (by omega:i<i+1)
    refine Ce rfl (hoc (l:=toL (m+1) c) hc.ps hp (by omega))<|Ar (i+1:Nat) rfl ?_ (wr (by omega:((i+1:Nat):Int)-1+1=((i+1:Nat):Int)) (by simp only[inK];omega))
    refine Lo (λ(q:Nat×Bool)=>[(2,.ptr 2 0),(3,.ptr 3 0),(4,.d (.int .i64 (((i+1:Nat):Int)-1))),(5,.b q.2),(6,.d (.int .i64 q.1))]) (λ_=>TH ⟨i+1,2,⟨m+1,T,c⟩,zs⟩) (λq=>i+1<=q.1/\q.1<=m+1/\(q.2=true↔o i q.1)) (λq=>m+1-q.1) (i+1,dc (oc (toL (m+1) c) i)) [] rfl ⟨W0a _,by show i+1<=m+1;omega,need0⟩ (λ(j,b) ⟨g1,g2,g3⟩=>?_)
    simp only at g1 g2 g3
    refine By rfl (λh=>?_) λh=>?_<;>try simp only[lt'] at h
    obtain⟨l,M,V,hls⟩:=rad j (by omega)
    refine By rfl (λhb=>?_) λhb=>?_
    refine Ar (j+1:Nat) rfl ?_
    exact Bk (j+1,true) [] rfl ⟨by show i+1<=j+1;omega,by show j+1<=m+1;omega,by show true=true↔_;rw[U M g1];exact⟨λ_=>.inl (g3.1 hb),λ_=>rfl⟩⟩ (by show m+1-(j+1)<m+1-j;omega)
    refine E3 j rfl (by first | omega | (simp only[lt'];omega)) ?_
    refine Ld (dqs l) rfl (mp V) ?_
    refine Ce rfl (hoc (l:=l) hls.ps hr (by rw[rlen M];have:=p16 (by omega:j<=16);omega))<|Ar (j+1:Nat) rfl ?_
    exact Bk (j+1,dc (oc l i)) [] rfl ⟨by show i+1<=j+1;omega,by show j+1<=m+1;omega,by show dc (oc l i)=true↔_;rw[U M g1,Xaj];exact⟨.inr,λh=>h.elim (λh=>absurd (g3.2 h) hb) id⟩⟩ (by show m+1-(j+1)<m+1-j;omega)
    obtain rfl:j=m+1:=by omega
    refine By rfl (λhb=>?_) λhb=>?_
    refine Ar ((i:Int)-1) rfl ?_ (wr (by omega:((i+1:Nat):Int)-1-1=(i:Int)-1) (by simp only[inK];omega))
    exact Bk ⟨i,2,⟨m+1,T,c⟩,zs⟩ [] rfl ⟨⟨⟨h1,hF.1,(Xqq (keep (g3.1 hb) i (W0a _) (by omega))).symm.trans hF.2⟩,by show i<=m+1;omega,h3,h4,h5,λh=>absurd h (by decide:¬3<=2),keep (g3.1 hb)⟩,h7⟩ (by omega:i<i+1)
    have Z:¬o i (m+1):=λh=>hb (g3.2 h)
    obtain⟨w1,w2⟩:=out Z
    have hw0:=hwo (l:=toL (m+1) c) (by omega)
    rw[<-w2] at hw0
    refine Ce rfl hw0<|Ar (i+1:Nat) rfl ?_ (wr (by omega:((i+1:Nat):Int)-1+1=((i+1:Nat):Int)) (by simp only[inK];omega))
    refine Lo (λ(j:Nat)=>[(2,.ptr 2 0),(3,.ptr 3 0),(4,.d (.int .i64 (((i+1:Nat):Int)-1))),(7,.d (.int .i64 j))]) (λj=>TH' 2 m (toL m (rm m i c)) zs (wl i j zs)) (λj=>i+1<=j/\j<=m+1) (λj=>m+1-j) (i+1) [] rfl ⟨W0a _,by omega⟩ (λj ⟨g1,g2⟩=>?_) (by rw[wl_start];exact⟨rfl,rfl,rfl,rfl,rfl⟩)
    refine By rfl (λh=>?_) λh=>?_<;>try simp only[lt'] at h
    obtain⟨l,M,V,hls⟩:=rad j (by omega)
    refine Dw rfl<|E3 j rfl (by first | omega | (simp only[lt',wl_len];omega)) ?_
    refine Ld (dqs l) rfl (mp (by rw[wl_get,V,W3m,if_neg (by omega)])) ?_
    refine Ce rfl (hwo (l:=l) (by rw[rlen M];have:=p16 (by omega:j<=16);omega))<|E3 j rfl (by first | omega | (simp only[lt',wl_len];omega)) ?_
    refine Sto rfl (by simp only[lt',wl_len];omega) (zs:=(wl i (j+1) zs).map dqs) (by rw[<-wl_set (by omega) V];exact ms) ?_
    refine Ar (j+1:Nat) rfl ?_
    exact Bk (j+1) [] rfl ⟨by omega,by omega⟩ (by show m+1-(j+1)<m+1-j;omega)
    obtain rfl:j=m+1:=by omega
    have hwe:=wl_end h3 (by omega:i<=m)
    have hws:(wl i (m+1) zs).length=zs.length:=wl_len
    have I:=Xaa m (rmT m i T)
    refine Dw rfl ?_
    by_cases i0:i=0
    subst i0
    refine S30 rfl rfl ?_
    refine Ar (0+1:Nat) rfl ?_
    refine D3 (0+1) rfl (by omega) ?_
    have hz0:(((wl 0 (m+1) zs).map dqs).drop (0+(0+1))).take (m+1-(0+1))=(toT m (rmT m 0 T)).map dqs:=by rw[<-hwe,W5k,W3s,W1l,<-W5i,<-W2f]
    refine AqN ((toT m (rmT m 0 T)).map dqs) rfl (by simp only[lt'];omega) hz0 (by simp[I];omega) ?_
    refine Ar (((0:Nat):Int)-1) rfl ?_ (wr (by omega:((0+1:Nat):Int)-1-1=((0:Nat):Int)-1) (by simp[inK]))
    exact Bk ⟨0,3,⟨m,rmT m 0 T,rm m 0 c⟩,toT m (rmT m 0 T)⟩ [(11,90),(82,11)] rfl ⟨⟨w1,W0r _,W0b (by rw[I];exact W0a _),λh=>absurd h (by decide:¬3=0),λh=>absurd h (by decide:¬3=1),λ_=>⟨rfl,I⟩,O Z⟩,show 3≠0 by decide⟩ (by decide:0<0+1)
    refine S3 i rfl (.inr rfl) (by omega) (by first | omega | (simp only[lt'];omega)) ?_
    refine Ar (i+1:Nat) rfl ?_ (wr (by omega:((i+1:Nat):Int)-1+1=((i+1:Nat):Int)) (by simp only[inK];omega))
    refine D3 (i+1) rfl (by omega) ?_
    by_cases im:i=m
    subst im
    refine Yrg rfl rfl (by simp only[lt'];omega) (by simp only[lt'];omega) (by omega) (by omega) ?_
    refine Ar ((i:Int)-1) rfl ?_ (wr (by omega:((i+1:Nat):Int)-1-1=(i:Int)-1) (by simp only[inK];omega))
    rw[W3a,W5k,W4x] at hwe
    exact Bk ⟨i,2,⟨i,rmT i i T,rm i i c⟩,wl i (i+1) zs⟩ [] rfl ⟨⟨w1,W0a _,hwe,λh=>absurd h (by decide:¬2=0),λh=>absurd h (by decide:¬2=1),λh=>absurd h (by decide:¬3<=2),O Z⟩,show 2≠0 by decide⟩ (by omega:i<i+1)
    have hz0:((wl i (m+1) zs).map dqs).take i++(((wl i (m+1) zs).map dqs).drop (0+(i+1))).take (m+1-(i+1))=(toT m (rmT m i T)).map dqs:=by rw[<-hwe,W1l,<-W2f,<-W5i,<-W2f,<-W2j]
    refine Aq3 ((toT m (rmT m i T)).map dqs) rfl rfl (by simp only[lt'];omega) (by simp only[lt'];omega) hz0 (by omega) (by simp[I];omega) ?_
    refine Ar ((i:Int)-1) rfl ?_ (wr (by omega:((i+1:Nat):Int)-1-1=(i:Int)-1) (by simp only[inK];omega))
    exact Bk ⟨i,1,⟨m,rmT m i T,rm m i c⟩,toT m (rmT m i T)⟩ [(11,90),(82,11)] rfl ⟨⟨w1,by show i<=m;omega,W0b (by rw[I];exact W0a _),λh=>absurd h (by decide:¬1=0),λ_=>I,λh=>absurd h (by decide:¬3<=1),O Z⟩,show 1≠0 by decide⟩ (by omega:i<i+1)
theorem Xc2{P:Rat->Prop}(h:Als P x)(hG:red K G)(i:S.length<=3)(j:NOk G S r p x v)(hr:r<=8796093022208)(hp:p<=8796093022208): C0 215 [.d (dN x)] λw=>∃z:Nm,w=.d (dN z)/\NOk G S r p z v/\Tm z/\Als P z :=
 (Xys h hG i j hr hp).mono λ_ ⟨z,e,o,I,_⟩=>⟨z,e,o,I⟩
end
end
section
def sh(x:Rat): Prop:=(dig x.num.natAbs).length<=2/\(dig x.den).length<=2
def shN(x:Nm): Prop:=(∀q∈toL x.k x.a,sh q)/\∀l∈toT x.k x.t,∀q∈l,sh q
theorem sh.qs{x:Rat}(h:sh x): Qs 64 x:=by
 have i:∀n:Nat,(dig n).length<=2->n<2^64:=λn j=>by
  have o:=Xci (Xaf n)
  rw[Xag] at o
  have I:4294967296^(dig n).length<=4294967296^2:=W0o (by decide) j
  omega
 exact⟨i _ h.1,by show ((x.den:Int)).natAbs<_;rw[W1b];exact i _ h.2⟩
theorem Yf8{x:Nm}(hk:x.k<=16): C0 214 [.d (dN x)] (·=.b (dc (¬shN x))):=by
 obtain⟨k,t,a⟩:=x
 have hk:k<=16:=hk
 have hp:=p16 hk
 have U:=Xab k a
 have V:=Xaa k t
 refine En Tryz.func214 λ_ _ _=>?_
 refine Lo (λi:Nat=>[(1,.ptr 1 0),(3,.d (.int .i64 i))]) (λ_=>[(1,.var (.d (dN ⟨k,t,a⟩)))]) (λi=>i<=2^k/\∀j q,j<i->(toL k a)[j]?=some q->sh q) (λi=>2^k-i) 0 [] rfl ⟨by omega,λj q h=>by omega⟩ λi ⟨hi,Z⟩=>?_
 refine By rfl (λh=>?_) λh=>?_
 have h:(i:Int)<(((toL k a).map dq).length:Nat):=h
 rw[lq,U] at h
 obtain⟨x,O⟩:=qat (l:=toL k a) (k:=i) (by omega)
 have no:¬sh x->¬shN ⟨k,t,a⟩:=λh I=>h (I.1 x (W0h O))
 refine Ix i rfl (mp O)<|By rfl (λo=>?_) λo=>?_
 have o:((((dig x.num.natAbs).map wd).length:Nat):Int)>2:=o
 rw[lw] at o
 exact R1 rfl (.bp ⟨λ_=>no λh=>by have:=h.1;omega,λ_=>rfl⟩)
 have o:¬((((dig x.num.natAbs).map wd).length:Nat):Int)>2:=o
 rw[lw] at o
 refine Ix i rfl (mp O)<|By rfl (λI=>?_) λI=>?_
 have I:((((dig ((x.den:Int)).natAbs).map wd).length:Nat):Int)>2:=I
 rw[lw,W1b] at I
 exact R1 rfl (.bp ⟨λ_=>no λh=>by have:=h.2;omega,λ_=>rfl⟩)
 have I:¬((((dig ((x.den:Int)).natAbs).map wd).length:Nat):Int)>2:=I
 rw[lw,W1b] at I
 refine Ar (i+1:Nat) rfl ?_
 refine Bk (i+1) [] rfl ⟨by omega,λj q hj hq=>?_⟩ (by show 2^k-(i+1)<2^k-i;omega)
 by_cases e:j=i
 subst e;rw[O] at hq;injection hq with hq;subst hq;exact⟨by omega,by omega⟩
 exact Z j q (by omega) hq
 have h:¬(i:Int)<(((toL k a).map dq).length:Nat):=h
 rw[lq,U] at h
 have hc:∀q∈toL k a,sh q:=λq hq=>by
  obtain⟨j,hj⟩:=W3d hq
  exact Z j q (by have:=(W0s.1 hj).1;omega) hj
 refine Lo (λi:Nat=>[(1,.ptr 1 0),(4,.d (.int .i64 i))]) (λ_=>[(1,.var (.d (dN ⟨k,t,a⟩)))]) (λi=>i<=k/\∀j l,j<i->(toT k t)[j]?=some l->∀q∈l,sh q) (λi=>k-i) 0 [] rfl ⟨by omega,λj q h=>by omega⟩ λi ⟨hi,Z⟩=>?_
 refine By rfl (λh=>?_) λh=>?_
 have h:(i:Int)<(((toT k t).map dqs).length:Nat):=h
 rw[lt',V] at h
 obtain⟨l,T⟩:∃l,(toT k t)[i]?=some l:=⟨_,W0e (by omega)⟩
 obtain⟨e,e1,_,_⟩:=Tw.at (t:=t) (by omega:i<k)
 obtain rfl:l=toL i e:=by rw[T] at e1;injection e1
 have hll:=Xab i e
 have hpi:=p16 (by omega:i<=16)
 refine Lo (λj:Nat=>[(1,.ptr 1 0),(4,.d (.int .i64 i)),(5,.d (.int .i64 j))]) (λ_=>[(1,.var (.d (dN ⟨k,t,a⟩)))]) (λj=>j<=2^i/\∀m q,m<j->(toL i e)[m]?=some q->sh q) (λj=>2^i-j) 0 [] rfl ⟨by omega,λj q h=>by omega⟩ λj ⟨hj,hjs⟩=>?_
 refine Ix i rfl (mp T)<|By rfl (λo=>?_) λo=>?_
 have o:(j:Int)<(((toL i e).map dq).length:Nat):=o
 rw[lq,hll] at o
 obtain⟨x,O⟩:=qat (l:=toL i e) (k:=j) (by omega)
 have no:¬sh x->¬shN ⟨k,t,a⟩:=λh I=>h (I.2 _ (W0h T) x (W0h O))
 refine Ix i rfl (mp T)<|Ix j rfl (mp O)<|By rfl (λo=>?_) λo=>?_
 have o:((((dig x.num.natAbs).map wd).length:Nat):Int)>2:=o
 rw[lw] at o
 exact R1 rfl (.bp ⟨λ_=>no λh=>by have:=h.1;omega,λ_=>rfl⟩)
 have o:¬((((dig x.num.natAbs).map wd).length:Nat):Int)>2:=o
 rw[lw] at o
 refine By rfl (λI=>?_) λI=>?_
 have I:((((dig ((x.den:Int)).natAbs).map wd).length:Nat):Int)>2:=I
 rw[lw,W1b] at I
 exact R1 rfl (.bp ⟨λ_=>no λh=>by have:=h.2;omega,λ_=>rfl⟩)
 have I:¬((((dig ((x.den:Int)).natAbs).map wd).length:Nat):Int)>2:=I
 rw[lw,W1b] at I
 refine Ar (j+1:Nat) rfl ?_
 refine Bk (j+1) [] rfl ⟨by omega,λm q hm hq=>?_⟩ (by show 2^i-(j+1)<2^i-j;omega)
 by_cases e:m=j
 subst e;rw[O] at hq;injection hq with hq;subst hq;exact⟨by omega,by omega⟩
 exact hjs m q (by omega) hq
 have o:¬(j:Int)<(((toL i e).map dq).length:Nat):=o
 rw[lq,hll] at o
 refine Ar (i+1:Nat) rfl ?_
 refine Bk (i+1) [] rfl ⟨by omega,λm l hm M q hq=>?_⟩ (by show k-(i+1)<k-i;omega)
 by_cases e:m=i
 subst e;rw[T] at M;injection M with M;subst M
 obtain⟨n,hn⟩:=W3d hq
 exact hjs n q (by have:=(W0s.1 hn).1;omega) hn
 exact Z m l (by omega) M q hq
 have h:¬(i:Int)<(((toT k t).map dqs).length:Nat):=h
 rw[lt',V] at h
 refine R1 rfl (.bp ⟨nofun,λI=>absurd ⟨hc,λl T q hq=>?_⟩ I⟩)
 obtain⟨n,hn⟩:=W3d T
 have h6:n<(toT k t).length:=(W0s.1 hn).1
 exact Z n l (by omega) hn q hq
end
end Go.Proofs.YtnedfplmoojbaaaGreatDoor.R9
namespace Go.Tow
open Go Go.Num Go.Proofs.YtnedfplmoojbaaaGreatDoor
variable{K:Nat}{G:Tw K}{ρ:Nat->El K}{S:List (El K)}{r p:Nat}{x:Nm}{v:El K}
theorem TOk.sub{k:Nat}{t:Tw k}{S':List (El K)}(h:TOk G S k t ρ)(j:∀s∈S,s∈S'): TOk G S' k t ρ:=⟨h.r,h.h,λi hi=>j _ (h.s i hi)⟩
theorem NOk.sub{S':List (El K)}(h:NOk G S r p x v)(i:∀s∈S,s∈S'): NOk G S' r p x v:=by
 obtain⟨ρ,j,o⟩:=h.ex
 exact⟨⟨ρ,j.sub i,o⟩,h.r,h.p⟩
theorem NOk.tsn(hG:Xcg K G){w:El K}(h:NOk G S r p x v): NOk (Tow.tsn G w) (S.map (up K)) r p x (up K v):=by
 obtain⟨ρ,j,o⟩:=h.ex
 exact⟨⟨_,⟨j.r,j.h.tsn hG,λi hi=>W4r.2 ⟨_,j.s i hi,rfl⟩⟩,by rw[Xkt,o]⟩,h.r,h.p⟩
theorem _root_.Go.Proofs.YtnedfplmoojbaaaGreatDoor.TS.of{r:Nat}{k:Nat}: ∀ {t:Tw k},(∀(i:Nat) l,(toT k t)[i]?=some l->Sz r l)->TS r k t:=by
 induction k with
 | zero=>intro t _;trivial
 | succ k j =>
  intro t h
  have o:=Xaa k t.1
  refine⟨j λi l hi=>h i l ?_,h k _ ?_⟩
  show (toT k t.1++[toL k t.2])[i]?=_
  rw[W0q (W0s.1 hi).1,hi]
  show (toT k t.1++[toL k t.2])[k]?=_
  rw[W0n (by omega),o,W3a];rfl
def Wld(n:Nat)(l:List Nm)(P:∀ {K:Nat},Tw K->List (El K)->Prop): Prop:=∃(K:Nat) (G:Tw K) (S:List (El K)),red K G/\S.length<=n/\Yhy G S 300 600/\(∀y∈l,∃v,NOk G S 300 600 y v)/\P G S
theorem Xth{n:Nat}{l:List Nm}(hG:red K G)(hS:S.length<=n)(hq:Yhy G S 300 600)(hl:∀y∈l,∃v,NOk G S 300 600 y v){k:Nat}{t:Tw k}{a:El k}(M:TOk G S k t ρ)(h3:TS 300 k t)(h6:Sz 600 (toL k a))(h0:0<=sgn k t a)(V:¬Xde k t a)(hT:TS r (k+1) (tsn t a))(hr:Sz p (toL (k+1) (Xdi (k+1) k))):
 Wld (n+1) l λG S=>∃v,NOk G S r p ⟨k+1,tsn t a,Xdi (k+1) k⟩ v:=by
 have j:=Xad hG
 have L:=Xax K G
 have Sg:=Xao j
 have Z:a≠zero k:=λe=>V ⟨zero k,by rw[e,(Xax k t).mz]⟩
 have h1:sgn k t a=1:=by
  rcases Xco t a with h | h | h
  exact h
  exact absurd ((Xat M.r).1 h) Z
  omega
 have hv:sgn K G (ev G ρ k a)=1:=by rw[Xdl j M.h];exact h1
 by_cases I:Xde K G (ev G ρ k a)
 obtain⟨s,I⟩:=I
 obtain⟨s,I,hp⟩:∃s,mul K G s s=ev G ρ k a/\sgn K G s=1:=by
  rcases Xco G s with h | h | h
  exact⟨s,I,h⟩
  rw[<-I,Sg.sm,h] at hv;cases hv
  exact⟨neg K s,by rw[L.mn,L.nm,L.nn,I],by rw[Sg.sn,h];rfl⟩
 have o:∀y∈S,y∈s::S:=λy h=>W1c _ h
 refine⟨K,G,s::S,hG,by simp;omega,λg O=>?_,λy hy=>(hl y hy).elim λv h=>⟨v,h.sub o⟩,_,⟨_,(M.sub o).snoc j V (W0w ..) I hp,rfl⟩,hT,hr⟩
 rcases W1s.1 O with rfl | O
 exact⟨⟨k,t,a⟩,⟨_,M.sub o,I.symm⟩,h3,h6⟩
 obtain⟨z,hz⟩:=hq g O
 exact⟨z,hz.sub o⟩
 have T:red (K+1) (tsn G (ev G ρ k a)):=⟨hG,hv,I⟩
 have hm:∀y∈S.map (up K),y∈rt1 K::S.map (up K):=λy h=>W1c _ h
 have U:TOk (tsn G (ev G ρ k a)) (rt1 K::S.map (up K)) k t (λi=>up K (ρ i)):=⟨M.r,M.h.tsn j,λi hi=>hm _ (W4r.2 ⟨_,M.s i hi,rfl⟩)⟩
 refine⟨K+1,tsn G (ev G ρ k a),rt1 K::S.map (up K),T,by simp;omega,λg O=>?_,λy hy=>(hl y hy).elim λv h=>⟨_,(h.tsn j).sub hm⟩,_,⟨_,U.snoc (Xad T) V (W0w ..) (s:=rt1 K) ?_ ?_,rfl⟩,hT,hr⟩
 rcases W1s.1 O with rfl | O
 exact⟨⟨k,t,a⟩,⟨_,U,by rw[Xkt];exact(Xrd (t:=Tow.tsn G (ev G ρ k a))).symm⟩,h3,h6⟩
 obtain⟨g',hg',rfl⟩:=W4r.1 O
 obtain⟨z,hz⟩:=hq g' hg'
 exact⟨z,by rw[Xkj];exact(hz.tsn j).sub hm⟩
 rw[Xkt];exact Xrd
 exact Xve (t:=tsn G (ev G ρ k a)) j
end Go.Tow
namespace Go.Proofs.YtnedfplmoojbaaaGreatDoor
open Go Go.Vm Go.Num Go.Tow
structure RO where
 kind:Nat
 a:Nat
 b:Nat
 n:Int
 d:Nat
 h:kind<256/\a<256/\b<256/\d<256/\-128<=n/\n<128
abbrev dO(o:RO): D:=.st (.pr (.int .u8 o.kind) (.pr (.int .u8 o.a) (.pr (.int .u8 o.b) (.pr (.int .i8 o.n) (.int .u8 o.d)))))
abbrev dRs(l:List RO): D:=.sl 5 (l.map dO)
end Go.Proofs.YtnedfplmoojbaaaGreatDoor
namespace Go.Proofs.YtnedfplmoojbaaaGreatDoor.R9
open Go Go.Vm Go.Num Go.Tow Go.Proofs.YtnedfplmoojbaaaGreatDoor
theorem Xzp{l:List Rat}{n q:Nat}(h:∀x∈l,sh x)(i:l.length<=n)(hq:64*n+1<=q): Sz q l:=(Sz.all λx j=>(h x j).qs).mono (W0j (by have:=W0u 64 i;omega) hq)
theorem shN.ok{K:Nat}{G:Tw K}{S:List (Tow.El K)}{r p:Nat}{z:Nm}{v:Tow.El K}(o:shN z)(h:NOk G S r p z v)(I:z.k<=3): NOk G S 300 600 z v :=
 ⟨h.ex,TS.of λi l j=>by
  have hi:=(W0s.1 j).1
  rw[Xaa] at hi
  have:l.length<=4:=by
   rw[(TS.pt h.r _ _ j).1];exact W0o (n:=2) (by decide) (by omega:i<=2)
  exact Xzp (n:=4) (o.2 l (W0h j)) this (by decide),
  Xzp (n:=8) o.1 (by rw[Xab];exact W0o (n:=2) (by decide) I) (by decide)⟩
def Big(l:List Nm)(n:Nat)(z:Nm): Prop:=n<=3/\Wld n l λG S=>∃v,NOk G S gF.R (oW gF 1000000) z v
theorem bnds: 300<=gF.R/\600<=oW gF 1000000/\600+gC 300 3<=oW gF 1000000/\900<=gF.R/\iS 300 3 600<=1000000/\iB 300 3 600<=4398046511104/\qB 300 3 600<=4398046511104/\qB 300 3 300<=4398046511104/\vB 300 3 (600+gC 300 3)<=4398046511104/\vB 300 3 300<=4398046511104/\vB 300 3 600<=4398046511104/\oW gF 1000000<=8796093022208/\oW gF 1000000<=4398046511104:=by decide +kernel
theorem remN{a m:Nat}{k:IntKind}(h:0<m): arB .rem k a m (a%m:Nat):=show _/\_ from⟨by omega,Xta a m⟩
theorem Xqj{n m:Nat}{l:List Nm}{P:∀ {K:Nat},Tw K->List (Tow.El K)->Prop}(h:Wld n l @P)(i:n<=m): Wld m l @P:=by
 obtain⟨K,G,S,j,o,I,M⟩:=h
 exact⟨K,G,S,j,W0j o i,I,M⟩
theorem Ygu{n:Int}{d:Nat}(o:-128<=n/\n<128)(hd:0<d/\d<=8): sh (Rat.divInt n d):=by
 have i:(Rat.divInt n d).num.natAbs<=n.natAbs:=by
  rw[Rat.num_divInt,Int.natAbs_ediv_of_dvd ?_]
  have h:((d:Int)).sign=1:=W6r (by omega)
  rw[h,W3e]
  exact W3n ..
  have h:((d:Int)).sign=1:=W6r (by omega)
  rw[h,W3e];exact Int.gcd_dvd_right ..
 have j:(Rat.divInt n d).den<=d:=by
  rw[Rat.den_divInt,if_neg (by omega),W1b]
  exact W3n ..
 exact⟨Xaq (W2a i (by omega)),Xaq (W2a j (by omega))⟩
theorem Ynv{ops:List RO}: C0 121 [.d (dRs ops)] λv=>∃l:List Nm,v=.d (dNs l)/\l.length<=24/\(∀z∈l,Tm z/\shN z)/\Wld 3 l λ_ _=>True:=by
 obtain⟨b1,b2,b3,b4,b5,b6,b7,b8,b9,b10,b11,b12,b13⟩:=bnds
 have app:∀ {K:Nat} {G:Tw K} {S:List (Tow.El K)} {l:List Nm} {z:Nm} {v:Tow.El K},(∀y∈l,∃v,NOk G S 300 600 y v)->NOk G S 300 600 z v->∀y∈l++[z],∃v,NOk G S 300 600 y v:=λh O y I=>by
  rcases W2p.1 I with I | I
  exact h y I
  rw[W0g.1 I];exact⟨_,O⟩
 have apt:∀ {l:List Nm} {z:Nm},(∀y∈l,Tm y/\shN y)->(Tm z/\shN z)->∀y∈l++[z],Tm y/\shN y:=λh O y I=>by
  rcases W2p.1 I with I | I
  exact h y I
  rw[W0g.1 I];exact O
 refine En Tryz.func121 λ_ _ _=>?_
 refine Nl 3 3 2 rfl ?_
 refine Lo (λ(s:Nat×Nat×List Nm)=>[(0,.d (dRs ops)),(3,.gr 3 2 (s.2.2.map dN)),(4,.d (.int .i64 s.2.1)),(5,.d (.int .i64 s.1))]) (λs=>[(3,.tok (s.2.2.map dN).length 2)]) (λs=>s.1<=24/\s.2.2.length=s.1/\s.2.1<=3/\(∀z∈s.2.2,Tm z/\shN z)/\Wld s.2.1 s.2.2 λ_ _=>True) (λs=>24-s.1) (0,0,[]) [] rfl
  ⟨W0r _,rfl,W0r _,λz O=>(nomatch O),0,(),[],trivial,W0a _,λg hg=>(by cases hg),λy I=>(by cases I),trivial⟩ (λ(i,n,l) ⟨hi,hl,U,hm,hw⟩=>?_)
 simp only at hi hl U hm hw
 refine By rfl (λh=>?_) λh=>?_
 have h:(i:Int)<((ops.map dO).length:Nat):=h
 rw[W1k] at h
 refine By rfl (λh2=>?_) λh2=>?_
 have h2:(i:Int)<24:=h2
 obtain⟨o,ho⟩:∃o,ops[i]?=some o:=⟨_,W0e (by omega)⟩
 obtain⟨o1,o2,o3,o4,o5⟩:=o.h
 refine Ix i rfl (u:=dO o) (by rw[W2c,ho];rfl) ?_
 have frac:sh (Rat.divInt o.n (o.d%8+1:Nat)):=Ygu ⟨o5.1,o5.2⟩ ⟨by omega,by omega⟩
 obtain⟨q,hqe⟩:∃q,q=Rat.divInt o.n (o.d%8+1:Nat):=⟨_,rfl⟩
 rw[<-hqe] at frac
 have hqs:shN ⟨0,(),q⟩:=⟨λx hx=>by obtain rfl:=W0g.1 hx;exact frac,λl hl=>nomatch hl⟩
 have hq0:∀ {K:Nat} (G:Tw K) (S:List (Tow.El K)) (r p:Nat),65<=p->NOk G S r p ⟨0,(),q⟩ (rat K q):=λG S r p hp=>⟨⟨λ_=>zero _,⟨trivial,trivial,λi hi=>absurd hi (W3t _)⟩,rfl⟩,trivial,Xzp (n:=1) hqs.1 (W0a _) (by omega)⟩
 refine Go.Vm.Cv o.n rfl ?_ (wI (by omega))
 refine Ar (o.d%8:Nat) rfl ?_ (remN (by decide))
 refine Go.Vm.Cv (o.d%8:Nat) rfl ?_ (wI (by omega))
 refine Ar (o.d%8+1:Nat) rfl ?_
 have hfr:=Frac_ok (a:=o.n) (b:=(o.d%8+1:Nat)) (by omega) (by omega) (by omega)
 rw[<-hqe] at hfr
 refine Ce rfl hfr<|By rfl (λh3=>?_) λh3=>?_
 have h3:((l.map dN).length:Int)>0:=h3
 rw[W1k] at h3
 refine Ar (o.kind%6:Nat) rfl ?_ (remN (by decide))
 refine Cu none (λ(s:Nm×Nat)=>[(0,.d (dRs ops)),(3,.gr 3 2 (l.map dN)),(4,.d (.int .i64 s.2)),(5,.d (.int .i64 i)),(7,.ptr 7 0)]) (λs=>[(3,.tok (l.map dN).length 2),(7,.var (.d (dN s.1)))]) (λs=>Big l s.2 s.1) rfl ?_ (λ(z,n') hB=>?_)
 obtain⟨K,G,S,hG,hS,hq,j,_⟩:=hw
 have M:=W0j hS U
 have Z:=Xad hG
 have W:=hq.wd hG M
 refine By rfl (λh4=>?_) λh4=>?_
 obtain⟨V,hxa⟩:∃x,l[o.a%l.length]?=some x:=⟨_,W0e (W2o _ (by omega))⟩
 obtain⟨xb,hxb⟩:∃x,l[o.b%l.length]?=some x:=⟨_,W0e (W2o _ (by omega))⟩
 obtain⟨va,ha⟩:=j V (W0h hxa)
 obtain⟨vb,hb⟩:=j xb (W0h hxb)
 have ha1:NOk G S 300 1000000 V va:=ha.mono (W0a _) (by decide)
 have hb1:NOk G S 300 1000000 xb vb:=hb.mono (W0a _) (by decide)
 have hua:(l.map dN)[o.a%l.length]?=some (dN V):=by rw[W2c,hxa];rfl
 have hub:(l.map dN)[o.b%l.length]?=some (dN xb):=by rw[W2c,hxb];rfl
 have hrm:∀ {c:Nat},arB .rem .i64 c ((l.map dN).length:Nat) (c%l.length:Nat):=λ{c}=>by rw[W1k];exact remN (by omega)
 have ka:=ha.le Z M
 have ok:∀ {z:Nm} {v:Tow.El K},NOk G S gF.R (oW gF 1000000) z v->Big l n z:=λh=>⟨U,K,G,S,hG,hS,hq,j,_,h⟩
 have same:Big l n V:=ok (ha.mono b1 b2)
 refine Dz rfl ?_
 refine Go.Vm.Cv (o.a:Nat) rfl ?_ (wI (by omega))
 refine Ar (o.a%l.length:Nat) rfl ?_ hrm
 refine Ix (o.a%l.length) rfl hua<|Go.Vm.Cv (o.b:Nat) rfl ?_ (wI (by omega))
 refine Ar (o.b%l.length:Nat) rfl ?_ hrm
 refine Ix (o.b%l.length) rfl hub<|Ar (o.kind%6:Nat) rfl ?_ (remN (by decide))
 refine By rfl (λc1=>?_) λc1=>?_
 refine Ca rfl (Add_ok W ha1 hb1 b13) λv T=>?_
 obtain⟨z,rfl,O⟩:=T
 exact Ce rfl (Xhd (x:=z) (y:=V))<|Jn (z,n) [] rfl (ok O)
 refine By rfl (λc2=>?_) λc2=>?_
 refine Ca rfl (Sub_ok W ha1 hb1 b13) λv T=>?_
 obtain⟨z,rfl,O⟩:=T
 exact Ce rfl (Xhd (x:=z) (y:=V))<|Jn (z,n) [] rfl (ok O)
 refine By rfl (λc3=>?_) λc3=>?_
 refine Ca rfl (Mul_ok W ha1 hb1 b13) λv T=>?_
 obtain⟨z,rfl,O⟩:=T
 exact Ce rfl (Xhd (x:=z) (y:=V))<|Jn (z,n) [] rfl (ok O)
 refine By rfl (λc4=>?_) λc4=>?_
 refine Ca rfl (Div_ok W ha1 hb b5 b6 b13) λv T=>?_
 rcases T with ⟨_,rfl⟩ | ⟨w,_,z,rfl,O⟩
 exact Ce rfl (Yaa (y:=V))<|Jn (V,n) [] rfl same
 exact Ce rfl (Xhd (x:=z) (y:=V))<|Jn (z,n) [] rfl (ok O)
 have rt:∀ {y:Nm} {vy:Tow.El K} {v:AV},NOk G S 300 600 y vy->RtR y v->n<3->∃z:Nm,v=.tup (.pr (.d (dN z)) (.d (.int .i64 0)))/\Big l (n+1) z:=λ{y vy v} I T hn=>by
  obtain⟨ρ,y1,y2⟩:=I.ex
  have ky:=I.le Z M
  obtain⟨z,rfl,⟨w,rfl,e1,e2⟩ | ⟨rfl,e1,e2⟩⟩:=T
  exact⟨_,rfl,by omega,K,G,S,hG,by omega,hq,j,_,⟨ρ,y1,rfl⟩,I.r.mono b1,(I.p.rootS I.r y1.r e1).mono (W0j (Nat.add_le_add_left (Xxa ky) _) b3)⟩
  exact⟨_,rfl,by omega,Xth hG hS hq j y1 I.r I.p e1 e2 ⟨I.r.mono b1,I.p.mono (by omega)⟩ ((Xvr y.k).mono (by omega))⟩
 have sq:∀ {y:Nm} {vy:Tow.El K},NOk G S 300 600 y vy->0<=sgn K G vy->C0 21 [.d (dN y)] (RtR y):=λ{y vy} I h0=>by
  obtain⟨ρ,y1,y2⟩:=I.ex
  have ky:=I.le Z M
  rw[I.sgn Z] at h0
  have q1:=Xpc (r:=300) (p:=600) ky
  have q2:=Xpc (r:=300) (p:=300) ky
  have q3:=Xc9 (r:=300) (k:=y.k) (show 600+gC 300 y.k<=600+gC 300 3 by have:=Xxa (r:=300) ky;omega)
  have q4:=Xg0 (r:=300) (s:=600+gC 300 3) ky
  have q5:=Xg0 (r:=300) (s:=300) ky
  exact Sqrt_ok y1.r I.r I.p h0 (by omega) (by omega) (by omega) (by omega) (by omega)
 have q6:=Xg0 (r:=300) (s:=600) ka
 refine Ce rfl (Sign_ok hG ha (by omega) (by omega))<|By rfl (λc5=>?_) λc5=>?_
 refine Ce rfl (Neg_ok ha (by omega) (by decide)) ?_
 have hneg:=ha.neg
 refine By rfl (λc6=>?_) λc6=>?_
 have c6:(n:Int)<3:=c6
 refine Ar (n+1:Nat) rfl ?_ (wr (by omega:(n:Int)+1=((n+1:Nat):Int)) (by simp only[inK];omega))
 refine Ca rfl (sq hneg (by rw[(Xao Z).sn];omega)) λv T=>?_
 obtain⟨z,rfl,O⟩:=rt hneg T (by omega)
 exact Ce rfl (Xhd (x:=z) (y:=⟨V.k,V.t,Tow.neg V.k V.a⟩))<|Jn (z,n+1) [] rfl O
 exact Jn (V,n) [] rfl same
 refine By rfl (λc6=>?_) λc6=>?_
 have c6:(n:Int)<3:=c6
 refine Ar (n+1:Nat) rfl ?_ (wr (by omega:(n:Int)+1=((n+1:Nat):Int)) (by simp only[inK];omega))
 refine Ca rfl (sq ha (by omega)) λv T=>?_
 obtain⟨z,rfl,O⟩:=rt ha T (by omega)
 exact Ce rfl (Xhd (x:=z) (y:=V))<|Jn (z,n+1) [] rfl O
 exact Jn (V,n) [] rfl same
 exact Jn (⟨0,(),q⟩,n) [] rfl ⟨U,K,G,S,hG,hS,hq,j,_,hq0 G S _ _ (by omega)⟩
 obtain⟨hn',K,G,S,hG,hS,hq,j,v,O⟩:=hB
 have M:=W0j hS hn'
 have Z:=Xad hG
 have kz:z.k<=3:=O.le Z M
 refine Yes rfl (by rw[W1k];exact h3)<|Ce rfl (Yf8 (x:=z) (W0j kz (by decide)))<|By rfl (λh5=>?_) λh5=>?_
 obtain⟨y,I⟩:∃y,l[l.length-1]?=some y:=⟨_,W0e (by omega)⟩
 obtain⟨vy,hvy⟩:=j y (W0h I)
 refine Ar (l.length-1:Nat) rfl ?_ (wr (by rw[W1k];omega) (by simp only[inK];omega))
 refine Ix (l.length-1) rfl (u:=dN y) (by rw[W2c,I];rfl)<|Ca rfl (Xc2 (hm y (W0h I)).2 hG M hvy (by decide) (by decide)) λv T=>?_
 obtain⟨z',rfl,hz',ht'⟩:=T
 refine ApG ((l++[z']).map dN) rfl (by simp) (by simp;omega) ?_
 refine Ar (i+1:Nat) rfl ?_
 exact Bk (i+1,n',l++[z']) [(157,3)] rfl ⟨by show i+1<=24;omega,by simp[hl],hn',apt hm ht',K,G,S,hG,hS,hq,app j hz',trivial⟩ (by show 24-(i+1)<24-i;omega)
 have hsh:shN z:=by simpa [Xas,Xaj] using h5
 refine Ca rfl (Xc2 hsh hG M (hsh.ok O kz) (by decide) (by decide)) λv T=>?_
 obtain⟨z',rfl,hz',ht'⟩:=T
 refine ApG ((l++[z']).map dN) rfl (by simp) (by simp;omega) ?_
 refine Ar (i+1:Nat) rfl ?_
 exact Bk (i+1,n',l++[z']) [(157,3)] rfl ⟨by show i+1<=24;omega,by simp[hl],hn',apt hm ht',K,G,S,hG,hS,hq,app j hz',trivial⟩ (by show 24-(i+1)<24-i;omega)
 have h3:¬((l.map dN).length:Int)>0:=h3
 rw[W1k] at h3
 obtain⟨K,G,S,hG,hS,hq,j,_⟩:=hw
 have M:=W0j hS U
 refine No rfl (by rw[W1k];exact h3)<|Ca rfl (Xc2 hqs hG M (hq0 G S 300 600 (by decide)) (by decide) (by decide)) λv T=>?_
 obtain⟨z',rfl,hz',ht'⟩:=T
 refine ApG ((l++[z']).map dN) rfl (by simp) (by simp;omega) ?_
 refine Ar (i+1:Nat) rfl ?_
 exact Bk (i+1,n,l++[z']) [(157,3)] rfl ⟨by show i+1<=24;omega,by simp[hl],U,apt hm ht',K,G,S,hG,hS,hq,app j hz',trivial⟩ (by show 24-(i+1)<24-i;omega)
 exact Rt rfl (.one (.gr rfl) rfl rfl) ⟨l,rfl,by omega,hm,Xqj hw U⟩
 exact Rt rfl (.one (.gr rfl) rfl rfl) ⟨l,rfl,by omega,hm,Xqj hw U⟩
theorem Build_ok{h:List RO}: C0 121 [.d (dRs h)] λv=>∃l:List Nm,v=.d (dNs l)/\l.length<=24/\(∀z∈l,Tm z)/\Wld 3 l λ_ _=>True :=
 Ynv.mono λ_ ⟨l,i,j,o,I⟩=>⟨l,i,j,λz M=>(o z M).1,I⟩
end Go.Proofs.YtnedfplmoojbaaaGreatDoor.R9
namespace Go.Vm
open Go Go.ChangeShapes Go.WideShapes Go.ChangeAt Go.RowKit
end Go.Vm
namespace Go.Proofs.YtnedfplmoojbaaaGreatDoor
open Go Go.Vm Go.Num
theorem Yq3{α:Type}{f:α->D}{l:List D}(h:∀y∈l,∃x,y=f x): ∃m:List α,l=m.map f:=by
 induction l with
 | nil=>exact⟨[],rfl⟩
 | cons y l i =>
  obtain⟨x,j⟩:=h y (W0w ..)
  obtain⟨m,o⟩:=i λz I=>h z (W1c _ I)
  exact⟨x::m,by rw[j,o];rfl⟩
theorem Xz0: Reads Tryz.prog 229 λd=>∃o:RO,d=dO o :=
 (Xes Tryz.underlying229 (.cons (n:=1) rfl (Xgf Tryz.underlying5) (by kernel_rfl) (.cons (n:=1) rfl (Xgf Tryz.underlying5) (by kernel_rfl) (.cons (n:=1) rfl (Xgf Tryz.underlying5) (by kernel_rfl) (.cons (n:=1) rfl (Xrn Tryz.underlying30) (by kernel_rfl) (.one rfl (Xgf Tryz.underlying5)))))) (λf hf=>by cases hf;kernel_rfl)).mono λd hd=>by
  obtain⟨_,rfl,_,_,rfl,⟨a,rfl,ha⟩,_,_,rfl,⟨b,rfl,hb⟩,_,_,rfl,⟨c,rfl,h⟩,_,_,rfl,⟨n,rfl,i⟩,⟨e,rfl,j⟩⟩:=hd
  exact⟨⟨a,b,c,n,e,ha,hb,h,j,i⟩,rfl⟩
theorem Xvw{t:TypeId}(j:Tryz.prog.underlying t=some (.slice 229)): Reads Tryz.prog t λd=>∃i:List RO,d=dRs i :=
 (Xix j Xz0 (sz:=5) (by kernel_rfl) (by decide)).mono λd ⟨l,e,_,h⟩=>by
  obtain⟨m,o⟩:=Yq3 h
  exact⟨m,by rw[e,o]⟩
open Go Go.Vm Go.Num Go.ChangeShapes Go.WideShapes Go.ChangeAt Go.RowKit
abbrev Ygd : List (String × DataW Unit) := [("math/bits.deBruijn32tab", Rows.laid_math_bits_deBruijn32tab), ("math/bits.deBruijn64tab", Rows.laid_math_bits_deBruijn64tab), ("internal/strconv.uint64pow10", Rows.laid_internal_strconv_uint64pow10)]
def Yri: List Int:=(List.range 20).map λi=>((10^i:Nat):Int)
theorem Ye2: ∀i,i<20->Yri.getD i 0=((10^i:Nat):Int):=by decide
theorem Ylg : Tryz.prog.globalNamed "internal/strconv.uint64pow10" = some 0 := by kernel_rfl
theorem Ylf: (Tryz.prog.globals[0]?).map (·.type)=some 314:=by kernel_rfl
theorem Yo5{W:World}(h:laidMetH Tryz.prog Ygd W): Gb.g Tryz.prog (gw0 W):=by
 rw[Go.MakeChecks.laidMetH_plain Tryz.prog Ygd W (by kernel_rfl)] at h
 have h3 : laidMet Tryz.prog (("internal/strconv.uint64pow10", Lib.tabData .u64 Yri) :: []) W := h.tail.tail
 have ht:=Lib.tabIs_of_head Ylg Ylf Tryz.underlying314 Tryz.underlying157 (by kernel_rfl) (by kernel_rfl) h3
 exact λi hi=>⟨by rw[show (gw0 W).w=W from rfl,ht.cell Ylg i (by rw[show Yri.length=20 from rfl];exact hi),Ye2 i hi],λh=>h⟩
def lay(vs:List (Nat×Array Value))(w:World): World:={ w with heap:=vs.foldl (λh p=>h.modify p.1 fun | .cells _ t frozen=>.cells p.2 t frozen | o=>o) w.heap }
def u8s(l:List Nat): Array Value:=(l.map λ(n:Nat)=>Value.int .u8 n).toArray
def Yrj: List (Nat×Array Value):=[(0,(Yri.map λz=>Value.int .u64 z).toArray),
 (2,u8s [0,1,28,2,29,14,24,3,30,22,20,15,25,17,4,8,31,27,13,23,21,19,16,7,26,12,18,6,11,5,10,9]),
 (3,u8s [0,1,56,2,57,49,28,3,61,58,42,50,38,29,17,4,62,47,59,36,45,43,51,22,53,39,33,30,24,18,12,5,63,55,48,27,60,41,37,16,46,35,44,21,52,32,23,11,54,26,40,15,34,20,31,10,25,14,19,9,13,8,7,6])]
noncomputable def Xdz(os:Os): World:=lay Yrj (World.holding Tryz.prog os ⟨#[],#[],[]⟩)
theorem Yab(os:Os)(args:Array Value): laidMet Tryz.prog Ygd ((Xdz os).forCall (λ_ _=>0) ⟨#[],args,[]⟩).memory :=
 laidMet_of_run' 8 (by kernel_rfl) (by kernel_rfl)
end Go.Proofs.YtnedfplmoojbaaaGreatDoor
namespace Go.Vm
open Go
section
variable{c:Cx}{s:St}{p:Pl}
theorem Xne{o:Oper}{v:AV}{us:Hpl}(h:nxO c.tb c.n s=some (p,o))(j:Xal o=false)(i:p.dr=false)(hr:Raw c.P o (sem p.E p.H) (v,us))(k:p.nx' c v us): StP c s:=by
 obtain⟨I,hd⟩:=Xwa h
 refine Xnf h (.inl ⟨I,(Xqc j).2 (.inr ⟨i,(·=(v,us)),λN W θ ρ M O T U V=>⟨_,rfl,hr N W θ ρ M O T U V⟩,λr hr=>?_⟩)⟩)
 subst hr
 unfold aft
 rw[Xfr,<-hd];exact Pl.nx'_eq.1 k
noncomputable def Yq2(tb:Nat->Option TI)(n:Nat)(s:St): Option (Pl×Oper×Operand×Operand×TypeId×TypeId×TI×Nat×Int):=match nxO tb n s with
 | some (p,o)=>match o.op,p.dr with
  | .call ⟨.builtin .append,⟨[x,y]⟩,⟨[T,T']⟩⟩,false=>match Xb6 (look p.E) x,Xb6 (look p.E) y,tb T,tb T' with
   | some .nil,some (.d (.int .i64 m)),some h,some ⟨.int _ _,_,_,_⟩=>match look p.H (o.dst.getD 0),h.z,Nat.ble h.eb 128 with
    | none,.sl sz _,true=>some (p,o,x,y,T,T',h,sz,m)
    | _,_,_=>none
   | _,_,_,_=>none
  | _,_=>none
 | none=>none
end
theorem Yjk{P:Program}(w:World)(t O ty e:TypeId)(i:TypeInfo)(z:Value)(k Z:IntKind)(ht:P.underlying t=some (.slice e))(h:P.underlying O=some (.int Z))(hi:P.info? e=some i)(hz:i.zero=some z)(q:Option Addr)
 (n:Nat) (h0:0<n) (hs:0<i.size) (T:(n:Int)<=9223372036854775807) (U:n*i.bytes<=281474976710656) :
 (Builtin.append_ #[t,O] ty #[.slice q 0 0,.int k n]).run P w =
  .ok (.slice (some ⟨w.heap.size,0,none⟩) n (grownCap w n 0 e)) (w.drew.alloc (.cells (Builtin.zeroCells z.cells n++Builtin.zeroCells z.cells (grownCap w n 0 e-n)) e)):=by
 cases q with
 | none=>exact Go.Lib.run_append_nil_zeros w t O ty e i z k Z ht h hi hz n h0 hs T U
 | some a =>
  have hn:n≠0:=by omega
  have hw:IntKind.i64.wrap (n:Int)=n:=by rw[IntKind.wrap_i64];omega
  have j:¬(9223372036854775807<(n:Int)):=by omega
  have o:¬(281474976710656<Builtin.nextslicecap n 0*i.bytes):=by rw[nextslicecap_zero h0];omega
  have I:¬(281474976710656<(n:Int)*(i.bytes:Int)):=by
   rw[<-W2r]
   omega
  have M:¬((n:Int)<0):=by omega
  have V:¬(n*i.size=0):=Nat.mul_ne_zero hn (by omega)
  simp[Builtin.append_,run_underlying ht,run_underlying h,sizeOf,typeInfo,zeroValue,hi,hz,asInt,asIntOf,hw,hn,M,V,j,o,I,Question.forced,Builtin.firstCells,loadCells,loadCellsFrom,newRow,grownCap]
section
variable{c:Cx}{s:St}{p:Pl}
theorem ApM{o:Oper}{x y:Operand}{T T':TypeId}{ti:TI}{sz:Nat}{m:Int}(n:Nat)(h:Yq2 c.tb c.n s=some (p,o,x,y,T,T',ti,sz,m))(h0:0<n)(hr:n<=1099511627776)(k:p.nx' c (.own (o.dst.getD 0) sz 0 n) [(o.dst.getD 0,.arr sz [])])(hm:m=(n:Int):=by first | exact rfl | omega): StP c s:=by
 subst hm
 unfold Yq2 at h
 split at h<;>try cases h
 rename_i p' o' ho
 split at h<;>try cases h
 rename_i x' y' T1 T2 M hdr
 split at h<;>try cases h
 rename_i m' ti1 kn _ e' eb' ar' hx hy hti O
 split at h<;>cases h
 rename_i hd hb hz
 refine Xne ho (by unfold Xal;rw[M];rfl) hdr (λN W θ ρ _ hO hN hB hv=>?_) k
 obtain⟨hk,_⟩:=c.hT _ _ hti
 obtain⟨t,u1,_,u3⟩:=hk.u
 rw[hz] at u3
 obtain⟨E,e,hsz,hez,ii,v0,i1,i2,i3,i4,i5⟩:=u3
 subst e
 obtain⟨hk',_⟩:=c.hT _ _ O
 obtain⟨t',u1',_,I⟩:=hk'.u
 have I:t'=.int kn:=I
 subst I
 obtain⟨q,ex⟩:=Xol (hv _ _ hx)
 obtain⟨ey,_⟩:=Xcw (hv _ _ hy)
 have hsp:0<ii.size:=by rw[i2];exact D.size_pos _
 have hbb:n*ii.bytes<=281474976710656:=by rw[i3];have:=W2b hr (W1e hb);omega
 have U:=Yjk (P:=c.P) W.w T T' o.type E ii v0 .i64 kn u1 u1' i1 i4 q n h0 hsp (by omega) hbb
 have hge:=grownCap_ge W.w n 0 E
 have hlt:grownCap W.w n 0 E<9223372036854775808:=by
  have:=W2o (W.w.tape W.w.drawn (.appendCap n 0 E)) (by omega:0<2^63-n)
  simp only[grownCap,Question.cut] at *
  omega
 have hzs:v0.cells.size=sz:=by rw[hsz,<-D.zc_len,<-i5];simp
 obtain⟨W',V,e1,e2,e3⟩:=Xly (W:=W.tick) (θ:=θ) (g:=(sem p.E p.H).2) (dd:=o.dst.getD 0) (E:=E) (sz:=sz) (xs:=[]) (cs:=[]) (c:=grownCap W.w n 0 E) (zs:=(Builtin.zeroCells v0.cells n++Builtin.zeroCells v0.cells (grownCap W.w n 0 E-n)).toList) (Stp.tick hO).obs hN hB hd (λi x h=>by simp at h) (by simp) (by simp) hlt (by
  rw[W3s,Array.length_toList,Array.size_append,size_zeroCells,size_zeroCells,hzs,<-W1f]
  congr 1
  omega)
 obtain⟨cs,⟨b,pp,k1,k2,k3,k4,j⟩,Z⟩:=e3
 subst k4
 have Z:Value.slice (some ⟨W.tick.size,0,none⟩) 0 (grownCap W.w n 0 E)=.slice pp 0 ((V (o.dst.getD 0)).2-0):=Z
 injection Z with Z k7 k8
 have j:=j (.inl rfl)
 rw[<-Z] at j
 injection j with j
 injection j with j
 have j:W.size=b:=j
 subst j
 refine⟨W',V,.value (.slice (some ⟨W.size,0,none⟩) n (grownCap W.w n 0 E)),?_,(Stp.tick hO).trans e2,.inr ⟨_,rfl,Xz6 (xs:=[]) k1 (by omega) (by omega) k3⟩,λi hi=>⟨_,by subst hi;exact Xai _ _ _⟩⟩
 have h1:execOp ρ o=(Builtin.append_ #[T,T'] o.type #[ρ x,ρ y] >>= λv=>pure (.value v)):=by
  simp[execOp,M,resolve,invoke,builtin]
 rw[h1,Sem.run_bind,ex,ey,U,e1]
 have fin:∀ {a b:Array Value},a=b->(Result.ok (Next.value (.slice (some ⟨W.size,0,none⟩) n (grownCap W.w n 0 E))) (W.w.drew.alloc (.cells a E)):Result Next)=.ok (.value (.slice (some ⟨W.size,0,none⟩) n (grownCap W.w n 0 E))) (W.tick.w.alloc (.cells b E)):=by
  rintro a b rfl;rfl
 exact fin (by simp)
noncomputable def Yqs(tb:Nat->Option TI)(n:Nat)(s:St): Option Pl:=match nxA tb n s with
 | some (p,o,[.nil])=>match o.op with
  | .call ⟨.builtin .cap,_,⟨[T]⟩⟩=>match tb T with
   | some ⟨.sl _ _,_,_,_⟩=>some p
   | _=>none
  | _=>none
 | _=>none
theorem Kp(h:Yqs c.tb c.n s=some p)(k:p.nx c (.d (.int .i64 0))): StP c s:=by
 unfold Yqs at h
 split at h<;>try cases h
 rename_i M o i
 split at h<;>try cases h
 rename_i asx T j
 split at h<;>cases h
 rename_i I
 refine Xbl (us:=[]) i ?_ (Pl.nx_nil k)
 rw[j]
 simp[F,Fp,I]
theorem Sn{i:Int}(h:nxS c.tb c.n s=some (p,.nil,none,some i))(k:p.nx c .nil)(hh:i=0:=by exact rfl): StP c s:=Xkh h (by subst hh;rfl) k
noncomputable def Yqt(tb:Nat->Option TI)(n:Nat)(s:St): Option (Pl×FuncId×List AV):=match nxO tb n s with
 | some (p,o)=>match o.op with
  | .call ⟨.value x,asx,h⟩=>match callee (look p.E) x,getEs (look p.E) asx.toList with
   | some (f,ex),some i=>some (p,f,i++ex)
   | _,_=>none
  | _=>none
 | none=>none
theorem CoN{f:FuncId}{asx:List AV}{Q:AV->Ob->Prop}(h:Yqt c.tb c.n s=some (p,f,asx))(hc:CO c.P f asx Q)(k:∀v i,Q v i->p.nx' c (v.rnf (rnL [(1000000,p.d.getD 0)])) [(p.d.getD 0,i.rnf (rnL [(1000000,p.d.getD 0)]))])
 (j:(Xuf asx [] [] (p.d.getD 0) p.H && !p.dr)=true:=by exact rfl):StP c s:=by
 rw[W0d,W1v] at j
 obtain⟨j,T⟩:=j
 have I:=j
 simp only[Xuf,W0d,W1v] at I
 obtain⟨⟨⟨⟨⟨k1,k2⟩,k3⟩,k4⟩,k5⟩,k6⟩:=I
 have U:∀ {a:AV},a.rnf (rnL [])=a:=by
  intro a
  induction a with
  | st a M=>simp only[AV.rnf,M]
  | tup a M=>simp only[AV.rnf,M]
  | fm f a M=>simp only[AV.rnf,M]
  | pr a c V Z=>simp only[AV.rnf,V,Z]
  | _=>rfl
 have O:asx.map (AV.rnf (rnL []))=asx:=by rw[show AV.rnf (rnL [])=id from funext λa=>U,List.map_id]
 unfold Yqt at h
 split at h<;>try cases h
 rename_i p' o ho
 obtain⟨hw,hd⟩:=Xwa ho
 split at h<;>try cases h
 rename_i x as' tys he
 split at h<;>cases h
 rename_i ex vs hvs hf
 have kk:∀v i,Q v i->WL c.P c.tb p.dr p.L (J c p.K) p.l (S.put ((sem p.E p.H).1,Xbj (sem p.E p.H).2 [(p.d.getD 0,i.rnf (rnL [(1000000,p.d.getD 0)]))]) o.dst (v.rnf (rnL [(1000000,p.d.getD 0)]))):=λv i hv=>by
  have:=Pl.nx'_eq.1 (k v i hv)
  have this:WL c.P c.tb p.dr p.L (J c p.K) p.l (sem (Xud p.E p.d _) (_++p.H)):=this
  rw[<-hd,Xfr]
  exact this
 refine Xnf ho (.inl ⟨hw,?_⟩)
 unfold Wb
 rw[he]
 refine .inl ⟨_,_,_,hf,hvs,?_⟩
 rw[T] at kk |-
 obtain⟨a1,a2⟩:=Xjq hc j (Xbp k2) (g:=look p.H) (λo x hx=>by simp[look] at hx)
 rw[O] at a2
 refine⟨_,_,.inr rfl,⟨a1,a2⟩,?_⟩
 rintro v g' ⟨v0,H',d1,⟨i,rfl,d2⟩,rfl,rfl⟩
 have:=kk v0 i d2
 simpa [rfH,rnL] using this
end
def AV.nl(o sz:Nat): AV->AV
 | .nil=>.gr o sz []
 | .st a=>.st (a.nl o sz)
 | .pr a c=>.pr (a.nl o sz) (c.nl o sz)
 | a=>a
theorem Yrz{W:GW}{θ:Loc}{o sz:Nat}(h0:θ o=(none,0)): ∀ {a:AV} {cs:List Value},AV.C W θ a cs->AV.C W θ (a.nl o sz) cs:=by
 intro a
 induction a with
 | st a I=>intro cs h;exact I h
 | pr a c i j=>intro cs ⟨u,v,h,M,O⟩;exact⟨u,v,h,i M,j O⟩
 | nil=>intro cs ⟨p,h⟩;exact⟨p,by rw[h,h0];rfl,.inl (by rw[h0]),by simp,by rw[h0];decide,.inl rfl⟩
 | _=>intro cs h;exact h
theorem Yke{o sz i:Nat}: ∀ {a:AV},(a.nl o sz).ids i->i=o\/a.ids i:=by
 intro a
 induction a with
 | st a M=>exact M
 | pr a c j I=>exact λh=>h.elim (λh=>(j h).imp id .inl) λh=>(I h).imp id .inr
 | nil=>exact .inl
 | _=>exact .inr
section
variable{c:Cx}{s:St}{p:Pl}
theorem nvS{K:List Kt}{E:Env}{H:Hpl}(q o sz:Nat){a:AV}(hv:look H q=some (.var a))(hb:(Nat.blt o 1000000 && !Xcl H o)=true)(k:J c K (sem E ((q,.var (a.nl o sz))::(o,.tok 0 sz)::H))): J c K (sem E H):=by
 simp only[W0d,W1v] at hb
 have hb1:=Xr2 hb.1
 have hn:look H o=none:=Xbp hb.2
 have hq:q≠o:=λe=>by rw[e,hn] at hv;cases hv
 rintro x w ⟨s0,W,θ,hw,hs,hθ,rfl⟩
 have st:=Stp.new0 (d:=o) hs.obs hb1 hn (x:=.tok 0 sz) ⟨by simp,by simp,.inl (by simp)⟩ (λi h=>h)
 have O:=hs.step0 st
 refine k x w ⟨_,W,_,hw,?_,λi hi=>(st.hi i hi).trans (hθ i hi),rfl⟩
 rw[show sem E ((q,Ob.var (a.nl o sz))::(o,Ob.tok 0 sz)::H)=(look E,upd (upd (look H) o (.tok 0 sz)) q (.var (a.nl o sz))) by rw[Xa4,Xa4]]
 have U:upd (look H) o (.tok 0 sz) q=some (.var a):=by rw[Xak hq];exact hv
 have I:∀ {i:Nat} {y:Ob},upd (look H) o (.tok 0 sz) i=some y->∃z,upd (upd (look H) o (.tok 0 sz)) q (.var (a.nl o sz)) i=some z:=λ{i y} Z=>by
  by_cases e:i=q
  subst e;exact⟨_,Xai _ _ _⟩
  exact⟨y,by rw[Xak e];exact Z⟩
 refine⟨O.fm,O.rel,⟨λi y Z=>?_,λi y b Z hl hb=>?_,λi j y y' b Z hy' hl hl' b1 b2=>?_,λi y j Z hj=>?_⟩,λt v i ht hi=>?_⟩
 rcases Xae Z with ⟨V,M⟩ | ⟨V,M⟩
 subst V;subst M
 obtain⟨b,cs,T,r1,r2,r3,r4⟩:=O.obs.r _ _ U
 exact⟨b,cs,T,r1,r2,Yrz (by simp) r3,r4⟩
 exact O.obs.r _ _ M
 rcases Xae Z with ⟨V,M⟩ | ⟨V,M⟩
 subst V;exact O.obs.new _ _ b U rfl hb
 exact O.obs.new _ _ b M hl hb
 rcases Xae Z with ⟨V,M⟩ | ⟨V,M⟩<;>rcases Xae hy' with ⟨f1,f2⟩ | ⟨f1,f2⟩
 rw[V,f1]
 subst V;exact O.obs.dis _ _ _ _ b U f2 rfl hl' b1 b2
 subst f1;exact O.obs.dis _ _ _ _ b M U hl rfl b1 b2
 exact O.obs.dis _ _ _ _ b M f2 hl hl' b1 b2
 rcases Xae Z with ⟨V,M⟩ | ⟨V,M⟩
 subst M
 rcases Yke (a:=a) hj with h | h
 exact I (y:=.tok 0 sz) (by rw[h];exact Xai _ _ _)
 obtain⟨z,hz⟩:=O.obs.ids _ _ j U h
 exact I hz
 obtain⟨z,hz⟩:=O.obs.ids _ _ j M hj
 exact I hz
 obtain⟨z,hz⟩:=O.ids t v i ht hi
 exact I hz
theorem Nv{K:List Kt}{E:Env}{H:Hpl}(q i sz:Nat){a:AV}(h:nxJ c.tb c.n s=some (K,E,H))(k:StP c (.j [] K E ((q,.var (a.nl i sz))::(i,.tok 0 sz)::H)))(o:look H q=some (.var a):=by exact rfl)(hb:(Nat.blt i 1000000 && !Xcl H i)=true:=by exact rfl): StP c s:=by
 unfold nxJ at h
 split at h<;>cases h
 rename_i I
 exact go 1000 I (nvS q i sz o hb k)
end
end Go.Vm
namespace Go.Proofs.YtnedfplmoojbaaaGreatDoor
open Go Go.Vm Go.Num Go.Tow
theorem Xeg{l:List Rat}(h0:0<l.length)(i:l.length<=1048576): CA0 141 [.d (dqs l)] 4 (l.map dq):=by
 refine EnW Tryz.func141 λ_ _ _ _=>?_
 refine Ub rfl (λh=>?_) ?_
 exact absurd h (by intro e; have:l.length = 0 := by simpa using congrArg List.length e
                    omega)
 refine ApL (l.map dq) rfl rfl (by simpa using h0) (by simpa using W0j i (by decide)) ?_
 exact Rw [(7,1000000)] [(1000000,.arr 4 (l.map dq))] rfl (.one (.rf rfl) rfl rfl) ⟨_,rfl,rfl,rfl⟩
theorem Xhj{l:List Rat}(h0:0<l.length)(h:l.length<=1048576): C0 141 [.d (dqs l)] (·=.d (dqs l)):=(Xeg h0 h).data
theorem Xw7{n:Nat}(h0:0<n)(h:n<=1048576): CA0 381 [.nil,.d (.int .i64 n)] 4 []:=by
 refine EnW Tryz.func381 λ_ _ _ _=>?_
 refine No rfl (by omega)<|Kp rfl ?_
 refine Ar 0 rfl ?_
 refine Ar n rfl ?_
 refine Yes rfl (by omega)<|Kp rfl ?_
 refine Sn rfl ?_
 refine ApM n rfl h0 (by omega) ?_
 refine Sw 0 0 rfl (by omega) (by omega) ?_
 exact Rw [(22,1000000)] [(1000000,.arr 4 [])] rfl (.one (.rf rfl) rfl rfl) ⟨_,rfl,rfl,rfl⟩
theorem Yq6{c c':Bool}(h:c=c'){g:Hp}{K:Hpl}: FitT g K (.b c) (.b c'):=by
 subst h;exact .one (.rf rfl) (λ_ _ e=>by cases e) (λ_ _ e=>by cases e)
theorem Xsu{p q:Prop}(h:p↔q): dc p=dc q:=by rw[show p=q from propext h]
namespace P8
theorem Yb3{n:Int}(j:n<0)(o:(dig n.natAbs).length<=274877906944): C0 365 [.d (dz n)] (·=.tup (.pr (.d (dS false [])) (.d (.int .i64 7)))):=by
 refine En Tryz.func365 λ_ _ _=>?_
 exact Ce rfl (Sign_ok (z:=n) (by omega))<|Yes rfl (by rcases Xay n 0 with ⟨h,i⟩ | ⟨h,i⟩ | ⟨h,i⟩<;>omega)<|RTt rfl (.cons (.sd (.pd (.bd rfl) (.nil rfl))) Xbs)
theorem Xlq{n:Int}(o:(dig n.natAbs).length<=274877906944): C0 380 [.d (dz n)] λv=>∃b l,v=.tup (.pr (.d (dS b l)) (.b (dc (0<=n/\sqN n.natAbs))))/\(0<=n->dS b l=dz (rt n.natAbs:Int)):=by
 have I:=@Sqrt_ok n.natAbs o
 refine En Tryz.func380 λ_ _ _=>?_
 by_cases M:0<=n
 have e:((n.natAbs:Nat):Int)=n:=by omega
 rw[e] at I
 have O:=(Xdp n.natAbs).1
 have T:rt n.natAbs<=rt n.natAbs*rt n.natAbs:=Nat.le_mul_self _
 have l1:=Xau (by omega:rt n.natAbs<=n.natAbs)
 have U:=Xau O
 refine Ce rfl I<|Dw rfl<|Yes rfl rfl<|Ce rfl (Mul_ok (by rw[W1b];omega) (by rw[W1b];omega))<|Ce rfl (Cmp_ok (by rw[<-W2r,W1b];omega) (by omega))<|Rt rfl (.tup (.cons (.rf rfl) (Yq6 (Xsu ?_)))) ⟨_,_,rfl,λ_=>rfl⟩
 unfold sqN
 rcases Xay ((rt n.natAbs:Int)*(rt n.natAbs:Int)) n with ⟨i,j⟩ | ⟨i,j⟩ | ⟨i,j⟩<;>rw[<-W2r] at i<;>rw[<-W2r] at j |-<;>omega
 exact Ce rfl (Yb3 (by omega) o)<|Dw rfl<|No rfl (by decide)<|Rt rfl (.tup (.cons (.rf rfl) (Xxf λh=>M h.1))) ⟨_,_,rfl,λh=>absurd h M⟩
theorem Xyt{x:Rat}{p:Nat}(M:Qs p x)(hp:p<=4398046511104): C0 376 [.d (dq x)] λv=>∃b l i j,v=.tup (.pr (.d (R2.dR b l i j)) (.b (dc (∃y:Rat,y*y=x))))/\((∃y:Rat,y*y=x)->∃y:Rat,y*y=x/\R2.dR b l i j=dq y):=by
 have h1:=M.n.len2 hp
 have h2:=M.d.len2 hp
 have hi:=Xo5 (q:=x)
 refine En Tryz.func376 λ_ _ _=>?_
 refine Ca rfl (Xlq (n:=x.num) (by omega)) λv o=>?_
 obtain⟨b,l,rfl,hb⟩:=o
 refine Ca rfl (Xlq (n:=(x.den:Int)) (by omega)) λv o=>?_
 obtain⟨i,j,rfl,I⟩:=o
 have z:∀ {c g K},(c=false/\¬ ∃y:Rat,y*y=x)->FitT g K (.pr (.st (.pr (.st (.pr (.b false) .nil)) (.st (.pr (.b false) .nil)))) (.b c)) (.pr (.d (R2.dR false [] false [])) (.b (dc (∃y:Rat,y*y=x)))):=λ⟨h0,h⟩=>by
  subst h0;exact .cons (.sd (.pd (.sd (.pd (.bd rfl) (.nil rfl))) (.sd (.pd (.bd rfl) (.nil rfl))))) (Xxf h)
 refine By rfl (λh=>?_) λh=>?_
 have h:¬(0<=x.num/\sqN x.num.natAbs):=by simpa only [Xas,Xaj] using h
 have no:¬ ∃y:Rat,y*y=x:=λe=>h ⟨(hi.1 e).1,(hi.1 e).2.1⟩
 exact Rt rfl (.tup (z ⟨rfl,no⟩)) ⟨false,[],false,[],rfl,λe=>absurd e no⟩
 have h:0<=x.num/\sqN x.num.natAbs:=by simpa [Xas,Xaj] using h
 refine By rfl (λk=>?_) λk=>?_
 have k:¬(0<=(x.den:Int)/\sqN (x.den:Int).natAbs):=by simpa only [Xas,Xaj] using k
 have no:¬ ∃y:Rat,y*y=x:=λe=>k ⟨by omega,by rw[W1b];exact(hi.1 e).2.2⟩
 exact Rt rfl (.tup (z ⟨rfl,no⟩)) ⟨false,[],false,[],rfl,λe=>absurd e no⟩
 have k:0<=(x.den:Int)/\sqN (x.den:Int).natAbs:=by simpa [Xas,Xaj] using k
 rw[W1b] at k
 obtain⟨y,U,V,O⟩:=Xlh (q:=x) h.1 h.2 k.2
 refine Rt rfl (.tup (.cons (.rf rfl) (Xy4 ⟨y,O⟩))) ⟨_,_,_,_,rfl,λ_=>⟨y,O,?_⟩⟩
 have Z:=hb h.1
 have T:=I k.1
 rw[W1b] at T
 show D.st (.pr (dS b l) (dS i j))=D.st (.pr (dz _) (dz _))
 rw[Z,T,U,V]
theorem Xp0{k r p:Nat}{t:Tw k}{a:Tow.El k}(h:TS r k t)(ha:Sz p (toL k a))(i:k<=16)(hp:p+3+cB r k<=4398046511104)(hr:r<=4398046511104): C0 379 [.d (dt t),.d (de a)] (·=.d (de (mul k t a (rat k (1/2))))):=by
 refine En Tryz.func379 λ_ _ _=>?_
 refine Ce rfl (Xck (a:=1) (b:=2) (by decide) (by decide)) ?_
 rw[Xw5]
 exact Ce rfl (Xb8 (x:=1/2) (p:=3) h i hr ⟨show (1/2:Rat).num.natAbs<2^3 by decide +kernel,show ((1/2:Rat).den:Int).natAbs<2^3 by decide +kernel⟩ (by decide))<|Ce rfl (Xdo h ha Sz.half i (by omega) hr)<|R0
theorem Xsw{a b:List D}(h0:0<a.length+b.length)(h:a.length+b.length<=1048576): C0 377 [.d (.sl 1 [.sl 4 a,.sl 4 b])] (·=.d (.sl 4 (a++b))):=by
 refine En Tryz.func377 λ_ _ _=>?_
 refine Lo (λ(x:Nat×Nat)=>[(0,.d (.sl 1 [.sl 4 a,.sl 4 b])),(2,.nil),(3,.d (.int .i64 x.2)),(9,.d (.sl 1 [.sl 4 a,.sl 4 b])),(10,.d (.int .i64 2)),(11,.d (.int .i64 x.1))]) (λ_=>[]) (λx=>x=(0,0)\/x=(1,a.length)\/x=(2,a.length+b.length)) (λx=>2-x.1) (0,0) [] rfl (.inl rfl) (λx hI=>?_)
 rcases hI with rfl | rfl | rfl
 refine Yes rfl (by decide:((0:Nat):Int)<2)<|Ix 0 rfl (u:=.sl 4 a) rfl<|Ar a.length rfl ?_ (wr (by omega) (by simp only[inK];omega))
 refine No rfl (by omega)<|Ar (1:Nat) rfl ?_
 exact Bk (1,a.length) [] rfl (.inr (.inl rfl)) (by decide:1<2)
 refine Yes rfl (by decide:((1:Nat):Int)<2)<|Ix 1 rfl (u:=.sl 4 b) rfl<|Ar (a.length+b.length:Nat) rfl ?_ (wr (by omega) (by simp only[inK];omega))
 refine No rfl (by omega)<|Ar (2:Nat) rfl ?_
 exact Bk (2,a.length+b.length) [] rfl (.inr (.inr rfl)) (by decide:0<1)
 refine No rfl (by decide:¬((2:Nat):Int)<2)<|CoN rfl (Xw7 (n:=a.length+b.length) (by omega) h) (λv j i=>?_)
 obtain⟨rfl,rfl⟩:=i
 refine Lo (λ(x:Nat×List D)=>[(0,.d (.sl 1 [.sl 4 a,.sl 4 b])),(2,.nil),(6,.own 24 4 0 x.2.length),(25,.d (.sl 1 [.sl 4 a,.sl 4 b])),(26,.d (.int .i64 2)),(27,.d (.int .i64 x.1))]) (λx=>[(24,.arr 4 x.2)]) (λx=>x=(0,[])\/x=(1,a)\/x=(2,a++b)) (λx=>2-x.1) (0,[]) [] rfl (.inl rfl) (λx hI=>?_)
 rcases hI with rfl | rfl | rfl
 refine Yes rfl (by decide:((0:Nat):Int)<2)<|Ix 0 rfl (u:=.sl 4 a) rfl<|ApO a rfl rfl rfl rfl (by omega) ?_
 refine Ar (1:Nat) rfl ?_
 exact Bk (1,a) [(24,90),(33,24)] rfl (.inr (.inl rfl)) (by decide:1<2)
 refine Yes rfl (by decide:((1:Nat):Int)<2)<|Ix 1 rfl (u:=.sl 4 b) rfl<|ApO (a++b) rfl rfl rfl (by simp) (by simp;omega) ?_
 refine Ar (2:Nat) rfl ?_
 exact Bk (2,a++b) [(24,90),(33,24)] rfl (.inr (.inr rfl)) (by decide:0<1)
 exact No rfl (by decide:¬((2:Nat):Int)<2)<|R1 rfl (.own rfl (by simp) (by rw[W1i];exact W0b (by simp)))
theorem Xn4{k:Nat}{x y:Tow.El k}(h:k<=16): C0 377 [.d (.sl 1 [de x,de y])] (·=.d (de (pr x y))):=by
 have:=Xsw (a:=(toL k x).map dq) (b:=(toL k y).map dq) (by simp[Xab];have:=W0p k;omega) (by simp[Xab];have:=p16 h;omega)
 rwa[<-W2j] at this
end P8
open Go Go.Num Go.Tow
theorem Ydv{r:Nat}: ∀ {k p:Nat},0<iS r k p
 | 0,p=>Nat.succ_pos p
 | k+1,p=>by have:=Ydv (r:=r) (k:=k) (p:=nS r k p);show 0<p+iS r k (nS r k p)+cB r k;omega
theorem Yo4{r:Nat}: ∀ {k p:Nat},p<=iS r k p
 | 0,p=>Nat.le_succ p
 | k+1,p=>by show p<=p+iS r k (nS r k p)+cB r k;omega
theorem Yla{r:Nat}: ∀ {k p:Nat},p<=iB r k p
 | 0,p=>Nat.le_succ p
 | k+1,p=>by show p<=2*(p+iB r k (nB r k p)+cB r k);omega
end Go.Proofs.YtnedfplmoojbaaaGreatDoor
namespace Go.Proofs.YtnedfplmoojbaaaGreatDoor.P8
open Go Go.Vm Go.Num Go.Tow Go.Proofs.YtnedfplmoojbaaaGreatDoor
def SqP(k:Nat)(t:Tw k)(a:Tow.El k)(v:AV): Prop:=∃w:List D,w.length<=2^k/\v=.tup (.pr (.d (.sl 4 w)) (.b (dc (Xde k t a))))/\(Xde k t a->∃x,mul k t x x=a/\D.sl 4 w=de x)
theorem Xj7{k r:Nat}{t:Tw k}(h:TS r k t)(i:k<=16)(hr:r<=4398046511104): C0 67 [.d (dt t),.d (dq ((0:Int):Rat))] (·=.d (de (zero k))):=by
 have:=Xb8 (x:=((0:Int):Rat)) (p:=1) h i hr (Qs.int Zs.zero (W0a 1)) (by decide)
 rwa[show ((0:Int):Rat)=0 from rfl,Xc7] at this
theorem Xeq{k:Nat}: ∀ {r p:Nat} {t:Tw k} {a:Tow.El k},TS r k t->Sz p (toL k a)->red k t->k<=16->qB r k p<=4398046511104->r<=4398046511104->C0 371 [.d (dt t),.d (de a)] (SqP k t a):=by
 induction k with
 | zero =>
  intro r p t a o ha U hk hq O
  have hq:p<=4398046511104:=hq
  have key:∀y:Rat,Qs p y->C0 371 [.d (dts []),.d (dqs [y])] λv=>∃w:List D,w.length<=2^0/\v=.tup (.pr (.d (.sl 4 w)) (.b (dc (∃x:Rat,x*x=y))))/\((∃x:Rat,x*x=y)->∃x:Rat,x*x=y/\D.sl 4 w=dqs [x]):=λy hy=>by
   refine En Tryz.func371 λ_ _ _=>?_
   refine Yes rfl rfl<|Ix 0 rfl (u:=dq y) rfl<|Ca rfl (Xyt hy (by omega)) λv V=>?_
   obtain⟨b,l,b',l',rfl,hw⟩:=V
   exact Rt rfl (.tup (.cons (.lit rfl) (.one (.rf rfl) (λ_ _ e=>by cases e) (λ_ _ e=>by cases e)))) ⟨_,W0a _,rfl,λh=>let ⟨y,h1,h2⟩:=hw h;⟨y,h1,by rw[show dqs [y]=D.sl 4 [dq y] from rfl,<-h2];rfl⟩⟩
  exact key a (ha.qs (W0g.2 rfl))
 | succ k ih =>
  intro r p t a o ha U hk hq O
  have hx:Sz p (toL k a.1):=Sz.left ha
  have hy:Sz p (toL k a.2):=Sz.right ha
  have M:=Xab k
  have hk0:=W0p k
  have hpk:=p16 (by omega:k<=16)
  have hz:=ha.normS o
  have L:=Xax k t.1
  have hqq:p+vB r (k+1) p+vB r (k+1) r+nB r k p+qB r k (sX r k p)+iB r k (sX r k p+gC r k)+iS r k (sX r k p+gC r k)+iB r k r+2*cB r k+4<=4398046511104:=hq
  have hX:sX r k p=p+nS r k p+gC r k+cB r k+iS r k r+4:=rfl
  have hN:nB r k p=4*p+3*cB r k+r+1:=rfl
  have hI:0<iS r k r:=Ydv
  have q6:=Yo4 (r:=r) (k:=k) (p:=sX r k p+gC r k)
  have q7:=Yla (r:=r) (k:=k) (p:=sX r k p+gC r k)
  have q1:qB r k p<=qB r k (sX r k p):=Xdr (by omega)
  have q2:qB r k (nS r k p)<=qB r k (sX r k p):=Xdr (by omega)
  have q3:qB r k (p+iS r k r+cB r k)<=qB r k (sX r k p):=Xdr (by omega)
  have q4:sX r k p<=qB r k (sX r k p):=Yfm
  have hr0:t.2≠zero k:=λh0=>U.2.2 ⟨zero k,by rw[h0,L.mz]⟩
  obtain⟨i,hi⟩:=(Xcp U.1).2 t.2 hr0
  have him:=Xb9 hi
  have hiz:=Sz.invS o.1 o.2 hi
  have no0:∀ {g K},¬Xde (k+1) t a->FitT g K (.pr .nil (.b false)) (.pr (.d (.sl 4 [])) (.b (dc (Xde (k+1) t a)))):=λh=>.cons (.nil (sz:=4) rfl) (Xxf h)
  refine En Tryz.func371 λ_ _ _=>?_
  refine No rfl (by show ¬((((toT k t.1++[toL k t.2]).map dqs).length:Nat):Int)=0;rw[twL];omega)<|Dw rfl<|Ar k rfl ?_ (tw1 t (by omega))
  refine Tk k ((toT k t.1).map dqs) rfl rfl (Xj0 t) (twT t) ?_
  refine Ar k rfl ?_ (tw1 t (by omega))
  refine Ix k rfl (twU t)<|Dw rfl<|Ar (2^k:Nat) rfl ?_ (hvq a (by omega))
  refine Tk (2^k) ((toL k a.1).map dq) rfl rfl (Xcq a) (hvT a) ?_
  refine Ar (2^k:Nat) rfl ?_ (hvq a (by omega))
  refine Dp (2^k) ((toL k a.2).map dq) rfl rfl (Xcq a) (hvD a) ?_
  refine Ce rfl (Xc5 (l:=toL k a.2) hy.ps (by omega) (by rw[M];omega))<|By rfl (λV=>?_) λV=>?_
  have ev:=(Xam k a.2).2 V
  have ea:a=up k a.1:=by show (a.1,a.2)=(a.1,zero k);rw[ev]
  refine Ca rfl (ih o.1 hx U.1 (by omega) (by omega) O) λv V=>?_
  obtain⟨w,hwl,rfl,hw⟩:=V
  refine By rfl (λh1=>?_) λh1=>?_
  obtain⟨x,Z,T⟩:=hw h1
  injection T with _ T
  subst T
  have hs:mul (k+1) t (pr x (zero k)) (pr x (zero k))=a:=(Yjb Z).trans ea.symm
  exact Ce rfl (Xah (z:=0) (by decide))<|Ce rfl (Xj7 o.1 (by omega) O)<|Ce rfl (Xn4 (x:=x) (y:=zero k) (by omega))<|Rt rfl (.tup (.cons (.rf rfl) (Xy4 ⟨_,hs⟩))) ⟨_,by simp[Xab],rfl,λ_=>⟨_,hs,rfl⟩⟩
  refine Ce rfl (Xo3 o.1 o.2 (by omega) (by omega) O hi)<|No rfl (by decide)<|Ce rfl (Xdo o.1 hx hiz (by omega) (by omega) O)<|Ca rfl (ih o.1 (hx.mul o.1 hiz) U.1 (by omega) (by omega) O) λv V=>?_
  obtain⟨w,hwl,rfl,hw⟩:=V
  refine Ce rfl (Xah (z:=0) (by decide))<|Ce rfl (Xj7 o.1 (by omega) O)<|Ce rfl (Xsw (a:=(toL k (zero k)).map dq) (b:=w) (by simp[M];omega) (by simp[M];omega)) ?_
  have hiff:Xde k t.1 (mul k t.1 a.1 i)↔Xde (k+1) t a:=⟨λ⟨x,Z⟩=>⟨_,(Xu7 him Z).trans ea.symm⟩,λe=>W0t λh2=>Xm3 U.1 him h1 h2 (ea ▸ e)⟩
  refine Rt rfl (.tup (.cons (.rf rfl) (Yq6 (Xsu hiff)))) ⟨_,by simp[M];omega,rfl,λe=>?_⟩
  obtain⟨x,Z,T⟩:=hw (hiff.2 e)
  injection T with _ T
  subst T
  exact⟨(zero k,x),(Xu7 him Z).trans ea.symm,by rw[<-W2j];rfl⟩
  have ev:a.2≠zero k:=λe=>V ((Xam k a.2).1 e)
  refine Ce rfl (Xzj o ha hk (by omega) O)<|Ca rfl (ih o.1 hz U.1 (by omega) (by omega) O) λv V=>?_
  obtain⟨w,hwl,rfl,hw⟩:=V
  refine By rfl (λh1=>?_) λh1=>?_
  have no:¬Xde (k+1) t a:=λe=>by
   exact h1 (Xu6 e)
  exact Rt rfl (.tup (.cons (.nil (sz:=4) rfl) (Xxf no))) ⟨[],W0r _,rfl,λe=>absurd e no⟩
  obtain⟨m,hm,hm2⟩:=hw (W3j.1 h1)
  injection hm2 with _ hm2
  subst hm2
  have hm:mul k t.1 m m=Tow.norm k t a:=hm
  have hmz:=hz.rootS o.1 U.1 hm
  refine Ce rfl (Xip o.1 hx hmz (by omega) (by omega) O)<|Ce rfl (Xio o.1 hx hmz (by omega) (by omega) O)<|Lo (λ(x:Nat)=>[(4,.nil),(5,.b false),(8,.d (dt t.1)),(11,.d (de a.2)),(117,.lit 1 [de (Tow.add k a.1 m),de (Tow.add k a.1 (Tow.neg k m))]),(118,.d (.int .i64 2)),(119,.d (.int .i64 x))]) (λ_=>[]) (λx=>x=0\/(x=1/\¬Xde k t.1 (mul k t.1 (rat k (1/2)) (Tow.add k a.1 m)))\/(x=2/\¬Xde k t.1 (mul k t.1 (rat k (1/2)) (Tow.add k a.1 m))/\¬Xde k t.1 (mul k t.1 (rat k (1/2)) (Tow.add k a.1 (Tow.neg k m))))) (λx=>2-x) 0 [] rfl (.inl rfl) (λx hI=>?_)
  have step:∀(I:Tow.El k),mul k t.1 I I=Tow.norm k t a->Sz (nS r k p+gC r k) (toL k I)->Sz (3+(p+(nS r k p+gC r k)+1)+cB r k) (toL k (mul k t.1 (Tow.add k a.1 I) (rat k (1/2))))/\mul k t.1 (Tow.add k a.1 I) (rat k (1/2))=mul k t.1 (rat k (1/2)) (Tow.add k a.1 I):=λI _ hs=>⟨by
   rw[L.mc];exact Sz.half.mul o.1 (by rw[Xa0];exact hx.add hs),L.mc _ _⟩
  have q5:qB r k (3+(p+(nS r k p+gC r k)+1)+cB r k)<=qB r k (sX r k p):=Xdr (by omega)
  refine By rfl (λh2=>?_) λh2=>?_
  . obtain⟨I,e1,e2,e3,next⟩:∃I,[de (Tow.add k a.1 m),de (Tow.add k a.1 (Tow.neg k m))][x]?=some (de (Tow.add k a.1 I))/\mul k t.1 I I=Tow.norm k t a/\Sz (nS r k p+gC r k) (toL k I)/\(¬Xde k t.1 (mul k t.1 (rat k (1/2)) (Tow.add k a.1 I))->(x+1=0\/(x+1=1/\¬Xde k t.1 (mul k t.1 (rat k (1/2)) (Tow.add k a.1 m)))\/(x+1=2/\¬Xde k t.1 (mul k t.1 (rat k (1/2)) (Tow.add k a.1 m))/\¬Xde k t.1 (mul k t.1 (rat k (1/2)) (Tow.add k a.1 (Tow.neg k m)))))):=by
     rcases hI with rfl | ⟨rfl,g1⟩ | ⟨rfl,g1,g2⟩
     exact⟨m,rfl,hm,hmz,λh=>.inr (.inl ⟨rfl,h⟩)⟩
     exact⟨Tow.neg k m,rfl,by rw[L.mn,L.nm,L.nn,hm],Xhr hmz,λh=>.inr (.inr ⟨rfl,g1,h⟩)⟩
     omega
    refine Ix x rfl e1 ?_
    obtain⟨s1,s2⟩:=step I e2 e3
    refine Ce rfl (Xp0 o.1 (a:=Tow.add k a.1 I) (p:=p+(nS r k p+gC r k)+1) (by rw[Xa0];exact hx.add e3) (by omega) (by omega) O)<|Ca rfl (ih o.1 s1 U.1 (by omega) (by omega) O) λv V=>?_
    obtain⟨w,hwl,rfl,hw⟩:=V
    refine By rfl (λh3=>?_) λh3=>?_
    . have h3:¬Xde k t.1 (mul k t.1 (Tow.add k a.1 I) (rat k (1/2))):=by simpa only [Xas,Xaj] using h3
      rw[s2] at h3
      refine Ar (x+1:Nat) rfl ?_
      exact Bk (x+1) [] rfl (next h3) (by omega)
    have h3:Xde k t.1 (mul k t.1 (Tow.add k a.1 I) (rat k (1/2))):=by simpa [Xas,Xaj] using h3
    obtain⟨w,hw1,hw2⟩:=hw h3
    injection hw2 with _ hw2
    subst hw2
    rw[s2] at hw1
    have hw0:=Yja U ev e2 hw1
    have hwz:Sz (3+(p+(nS r k p+gC r k)+1)+cB r k+gC r k) (toL k w):=(s2 ▸ s1).rootS o.1 U.1 hw1
    have hw2:Tow.add k w w≠zero k:=λe=>hw0 (by
     have e3:mul k t.1 (rat k (1/2)) (Tow.add k w w)=w:=by rw[L.md,<-L.dm,Xgq,L.om]
     rw[<-e3,e,L.mz])
    obtain⟨j,hj⟩:=(Xcp U.1).2 _ hw2
    have hdz:Sz (sX r k p+gC r k) (toL k (Tow.add k w w)):=by rw[Xa0];exact hwz.dbl.mono (by omega)
    have hjz:=Sz.invS o.1 hdz hj
    have hs:=Yjc e2 hw1 (Xb9 hj)
    exact Ce rfl (Xc5 (l:=toL k w) hwz.ps (by omega) (by rw[M];omega))<|No rfl (λe=>hw0 ((Xam k w).2 e))<|Ce rfl (Xip o.1 hwz hwz (by omega) (by omega) O)<|Ce rfl (Xo3 o.1 hdz (by omega) (by omega) O hj)<|Ce rfl (Xdo o.1 hy hjz (by omega) (by omega) O)<|Ce rfl (Xn4 (by omega))<|Rt rfl (.tup (.cons (.rf rfl) (Xy4 ⟨_,hs⟩))) ⟨_,by simp[Xab],rfl,λ_=>⟨_,hs,rfl⟩⟩
  have no:¬Xde (k+1) t a:=λe=>by
   rcases hI with rfl | ⟨rfl,g1⟩ | ⟨rfl,g1,g2⟩
   omega
   omega
   obtain⟨w,_,h6 | h6⟩:=Xq1 U.1 ev hm e
   exact g1 ⟨w,h6⟩
   exact g2 ⟨w,h6⟩
  exact Rt rfl (.tup (.cons (.nil (sz:=4) rfl) (Xxf no))) ⟨[],W0r _,rfl,λe=>absurd e no⟩
theorem Xpf{k r p:Nat}{t:Tw k}{a:Tow.El k}(j:TS r k t)(ha:Sz p (toL k a))(o:red k t)(I:k<=16)(hq:qB r k p<=4398046511104)(M:vB r k (p+gC r k)<=4398046511104)(hr:vB r k r<=4398046511104):
 C0 359 [.d (dt t),.d (de a)] λv=>∃w:D,v=.tup (.pr (.d w) (.b (dc (Xde k t a))))/\(Xde k t a->∃x,mul k t x x=a/\0<=sgn k t x/\w=de x):=by
 have L:=Xax k t
 have S:=Xao (Xad o)
 have:=Xdv (r:=r) k (p+gC r k)
 have U:=Xdv (r:=r) k r
 refine En Tryz.func359 λ_ _ _=>?_
 refine Ca rfl (Xeq j ha o I hq (by omega)) λv M=>?_
 obtain⟨w,_,rfl,V⟩:=M
 refine By rfl (λh=>?_) λh=>?_
 exact Rt rfl (.tup (.cons (.nil (sz:=4) rfl) (Xxf h))) ⟨_,rfl,λe=>absurd e h⟩
 have h:=W3j.1 h
 obtain⟨x,O,i⟩:=V h
 injection i with _ i
 subst i
 have T:=ha.rootS j o O
 refine Ce rfl (Xmt j T (Xad o) I M hr (by omega))<|By rfl (λZ=>?_) λZ=>?_
 exact Ce rfl (Xu1 j T I (by omega) (by omega))<|Rt rfl (.tup (.cons (.rf rfl) (Xy4 h))) ⟨_,rfl,λ_=>⟨Tow.neg k x,by rw[L.mn,L.nm,L.nn,O],by rw[S.sn];omega,rfl⟩⟩
 exact Rt rfl (.tup (.cons (.rf rfl) (Xy4 h))) ⟨_,rfl,λ_=>⟨x,O,by omega,rfl⟩⟩
theorem Reduced_ok{k r:Nat}{t:Tw k}(O:TS r k t)(T:red k t)(hk:k<=16)(hq:qB r k r<=4398046511104)(I:vB r k r<=4398046511104): C0 358 [.d (dt t)] (·=.b true):=by
 have:=Xdv (r:=r) k r
 refine En Tryz.func358 λ_ _ _=>?_
 refine Lo (λi:Nat=>[(0,.d (dt t)),(2,.b false),(7,.d (dt t)),(8,.d (.int .i64 ((toT k t).map dqs).length)),(9,.d (.int .i64 i))]) (λ_=>[]) (λi=>i<=k) (λi=>k-i) 0 [] rfl (by omega) (λi hi=>?_)
 refine By rfl (λh=>?_) λh=>?_<;>simp only[lt',Xaa] at h
 obtain⟨w,x,o,U,V,h4,Z⟩:=Tw.take (t:=t) (i:=i) (by omega)
 have j:=V r O
 obtain⟨M,h7,h8⟩:=Z T
 have q1:=Xpc (r:=r) (p:=r) (by omega:i<=k)
 have v1:=Xg0 (r:=r) (s:=r) (by omega:i<=k)
 refine Ix i rfl (mp U)<|Tk i ((toT i w).map dqs) rfl rfl (by rw[lt',Xaa];omega) (by rw[<-W2f,o]) ?_
 refine Ce rfl (Xcc j.1 j.2 (by omega) (by omega) (by omega))<|No rfl (by simp)<|Tk i ((toT i w).map dqs) rfl rfl (by rw[lt',Xaa];omega) (by rw[<-W2f,o]) ?_
 refine Ce rfl (Xmt j.1 j.2 (Xad M) (by omega) (by omega) (by omega) (by omega))<|No rfl (λe=>e (by rcases Xco w x with h | h | h<;>omega))<|Tk i ((toT i w).map dqs) rfl rfl (by rw[lt',Xaa];omega) (by rw[<-W2f,o]) ?_
 refine Ca rfl (Xeq j.1 j.2 M (by omega) (by omega) (by omega)) λv I=>?_
 obtain⟨d,_,rfl,hd⟩:=I
 refine No rfl h8<|Ar (i+1:Nat) rfl ?_
 exact Bk (i+1) [] rfl (by omega:i+1<=k) (by show k-(i+1)<k-i;omega)
 exact R0
theorem Xsy{l:List (List Rat)}(M:l.length<=1048576)(h:∀x∈l,0<x.length/\x.length<=1048576): CA0 360 [.d (dts l)] 1 (l.map dqs):=by
 have j:(l.map dqs).length=l.length:=by simp
 refine EnW Tryz.func360 λ_ _ _ _=>?_
 refine Mk l.length rfl (by omega) ?_ (by simp[j])
 refine Lo (λi:Nat=>[(0,.d (dts l)),(2,.nil),(3,.own 8 1 0 l.length),(9,.d (dts l)),(10,.d (.int .i64 (l.map dqs).length)),(11,.d (.int .i64 i))]) (λi=>[(8,.arr 1 (fl (l.map dqs) (.sl 4 []) i))]) (λi=>i<=l.length) (λi=>l.length-i) 0 [] rfl (by omega) (λi hi=>?_) (by exact⟨rfl,by rw[<-Xjn j];rfl,rfl,rfl,rfl⟩)
 refine By rfl (λg=>?_) λg=>?_<;>simp only[lt'] at g
 have o:l[i]?=some l[i]:=W0e (by omega)
 have I:=h _ (W6z (l:=l) (n:=i) (by omega))
 refine Ix i rfl (mp o)<|Ce rfl (Xhj I.1 I.2)<|Eo i rfl (by omega)<|Sto rfl (by rw[Xkq (by omega)];omega) (Xnu (u:=dqs l[i]) (by rw[W2c,o];rfl)) ?_
 refine Ar (i+1:Nat) rfl ?_
 exact Bk (i+1) [] rfl (by omega:i+1<=l.length) (by show l.length-(i+1)<l.length-i;omega)
 exact Rw [(8,1000000)] [(1000000,.arr 1 (l.map dqs))] rfl (.one (.rf rfl) rfl rfl) ⟨_,rfl,by rw[j];rfl,rfl⟩ (by rw[Xnv (by omega)];rfl)
theorem Adjoin_ok{k r p:Nat}{t:Tw k}{a:Tow.El k}(o:TS r k t)(ha:Sz p (toL k a))(T:red k t)(Z:k<8)(hq:qB r k p<=4398046511104)(U:qB r k r<=4398046511104)(V:vB r k (p+gC r k)<=4398046511104)(hr:vB r k r<=4398046511104):
 C0 331 [.d (dt t),.d (de a)] (R8.AdjR k t a):=by
 have h0:=Xdv (r:=r) k r
 have O:=Xdv (r:=r) k (p+gC r k)
 have h2:=Xc9 (r:=r) (k:=k) (by omega:p<=p+gC r k)
 have j:=Xaa k t
 have e2:(((toT k t).map dqs).length:Int)=k:=by simp[j]
 have I:∀x∈toT k t,0<x.length/\x.length<=1048576:=λx hx=>by
  obtain⟨i,hi,e⟩:=List.mem_iff_getElem.1 hx
  have:=(Xlc o (i:=i) (l:=x) (by rw[W0e hi,e])).1
  rw[j] at hi
  have h3:=W0o (n:=2) (by decide) (by omega:i<=8)
  have:=W0p i
  omega
 refine En Tryz.func331 λ_ _ _=>?_
 refine Ce rfl (Xcc o ha (by omega) (by omega) (by omega))<|No rfl (by simp)<|Ce rfl (Reduced_ok o T (by omega) U hr)<|No rfl (by simp)<|Ce rfl (Xmt o ha (Xad T) (by omega) (by omega) hr (by omega))<|By rfl (λh=>?_) λh=>?_
 exact Rt rfl (.tup (.cons (.nil rfl) (.cons (.nil rfl) Xbs))) (.inl ⟨h,rfl⟩)
 refine Ca rfl (Xpf o ha T (by omega) hq V hr) λv V=>?_
 obtain⟨w,rfl,hw⟩:=V
 refine By rfl (λO=>?_) λO=>?_
 obtain⟨x,x1,x2,rfl⟩:=hw O
 exact Ce rfl (Xsy (by omega) I).data<|Rt rfl (.tup (.cons (.rf rfl) (.cons (.rf rfl) Xbs))) (.inr (.inl ⟨x,x1,x2,rfl⟩))
 refine No rfl (by simp only[lt',j];omega)<|Cr rfl (Xsy (by omega) I) ?_
 refine Ce rfl (Xhj (by rw[Xab];exact W0p k) (by rw[Xab];have:=W0o (n:=2) (by decide) (by omega:k<=8);omega))<|ApO ((toT k t++[toL k a]).map dqs) rfl rfl rfl (by simp) (by simp[j];omega) ?_
 refine Fz 11 9 ((toT k t++[toL k a]).map dqs) rfl (by simp) (by rw[W1i];exact W0b (by simp)) ?_
 have M:=Xzi (r:=max r p) (t:=tsn t a) (i:=k) ?_ (by omega) (by omega) (by omega)
 rw[<-e2] at M
 exact Ce rfl M<|Rt rfl (.tup (.cons (.rf rfl) (.cons (.rf rfl) Xbs))) (.inr (.inr ⟨by omega,O,Z,rfl⟩))
 exact⟨o.mono (by omega),ha.mono (by omega)⟩
end Go.Proofs.YtnedfplmoojbaaaGreatDoor.P8
namespace Go.Proofs.YtnedfplmoojbaaaGreatDoor.P9
open Go Go.Vm Go.Num Go.Tow Go.Proofs.YtnedfplmoojbaaaGreatDoor
section
theorem Xkx{x:Rat}{p:Nat}(h:Qs p x)(hp:p<=4398046511104): C0 159 [.d (dq x)] (·=.d (dq x)):=by
 have i:=h.n.len2 hp
 have j:=h.d.len2 hp
 refine En Tryz.func159 λ_ _ _=>?_
 exact Dw rfl<|Ce rfl (Xcf (l:=dig x.num.natAbs) (by omega))<|Ce rfl (Xcf (l:=dig (x.den:Int).natAbs) (by omega))<|R0
theorem Xdg{l:List Rat}{p:Nat}(o:Ps p l)(hp:p<=4398046511104)(I:l.length<=1048576): C0 279 [.d (dqs l)] (·=.d (dqs l)):=by
 have h:(l.map dq).length=l.length:=by simp
 refine En Tryz.func279 λ_ _ _=>?_
 refine Mk l.length rfl (by omega) ?_ (by simp[h])
 refine Lo (λi:Nat=>[(0,.d (dqs l)),(2,.nil),(3,.own 8 4 0 l.length),(9,.d (dqs l)),(10,.d (.int .i64 (l.map dq).length)),(11,.d (.int .i64 i))]) (λi=>[(8,.arr 4 (fl (l.map dq) rz i))]) (λi=>i<=l.length) (λi=>l.length-i) 0 [] rfl (by omega) (λi hi=>?_) (by exact⟨rfl,by rw[<-Xjn h];rfl,rfl,rfl,rfl⟩)
 refine By rfl (λg=>?_) λg=>?_<;>simp only[lq] at g
 obtain⟨u,j⟩:=qat (l:=l) (k:=i) (by omega)
 refine Ix i rfl (mp j)<|Ce rfl (Xkx (o u (W0h j)) hp)<|Eo i rfl (by omega)<|Sto rfl (by rw[Xkq (by omega)];omega) (Xnu (u:=dq u) (by rw[W2c,j];rfl)) ?_
 refine Ar (i+1:Nat) rfl ?_
 exact Bk (i+1) [] rfl (by omega:i+1<=l.length) (by show l.length-(i+1)<l.length-i;omega)
 refine R1 rfl (.own rfl (by rw[Xkq (by omega)];simp) ?_)
 rw[Xnv (by omega),W1i]
 exact W0b (by simp)
theorem Xzs{x y:Rat}{p q:Nat}(i:Qs p x)(j:Qs q y)(hp:p+q<=8796093022208): C0 264 [.d (dq x),.d (dq y)] (·=.b (dc (x=y))):=by
 refine En Tryz.func264 λ_ _ _=>?_
 exact Ce rfl (Xbo i j hp)<|R1 rfl (.bp (Xaj.trans ⟨λh=>W0t λe=>R9.cmpQ_ne.2 e h,λe=>W0t λh=>R9.cmpQ_ne.1 h e⟩))
theorem Ya1{l m:List Rat}{p q:Nat}(O:Ps p l)(T:Ps q m)(hp:p+q<=8796093022208)(U:l.length<=1048576): C0 263 [.d (dqs l),.d (dqs m),.d (.raw (.func (.func 264) #[] #[]))] (·=.b (dc (l=m))):=by
 refine En Tryz.func263 λ_ _ _=>?_
 refine By rfl (λh=>?_) λh=>?_<;>simp only[lq] at h
 exact R1 rfl (.bp ⟨nofun,λe=>absurd (by rw[e]) h⟩)
 have h:l.length=m.length:=by omega
 refine Lo (λk:Nat=>[(0,.d (dqs l)),(1,.d (dqs m)),(2,.d (.raw (.func (.func 264) #[] #[]))),(15,.d (dqs l)),(16,.d (.int .i64 (l.map dq).length)),(17,.d (.int .i64 k))]) (λ_=>[]) (λk=>k<=l.length/\l.take k=m.take k) (λk=>l.length-k) 0 [] rfl ⟨by omega,rfl⟩ λk ⟨V,I⟩=>?_
 refine By rfl (λM=>?_) λM=>?_<;>simp only[lq] at M
 obtain⟨x,o⟩:=qat (l:=l) (k:=k) (by omega)
 obtain⟨y,i⟩:=qat (l:=m) (k:=k) (by omega)
 refine Ix k rfl (mp o)<|Ix k rfl (mp i)<|Ce rfl (Xzs (O x (W0h o)) (T y (W0h i)) hp)<|By rfl (λj=>?_) λj=>?_
 have j:¬x=y:=by simpa [Xas,Xaj] using j
 exact R1 rfl (.bp ⟨nofun,λe=>by subst e;rw[o] at i;injection i with i;exact absurd i j⟩)
 have e:x=y:=by simpa [Xas,Xaj] using j
 refine Ar (k+1:Nat) rfl ?_
 exact Bk (k+1) [] rfl ⟨by omega,by rw[W1w,W1w,o,i,I,e]⟩ (by show l.length-(k+1)<l.length-k;omega)
 rw[W0b (by omega),W0b (by omega)] at I
 exact R1 rfl (.bp ⟨λ_=>I,λ_=>rfl⟩)
theorem sameElement_ok{l m:List Rat}{p q:Nat}(h:Ps p l)(i:Ps q m)(hp:p+q<=8796093022208)(j:l.length<=1048576): C0 167 [.d (dqs l),.d (dqs m)] (·=.b (dc (l=m))):=by
 refine En Tryz.func167 λ_ _ _=>?_
 exact Ce rfl (Ya1 h i hp j)<|R0
theorem Ya0{T U:List (List Rat)}{p q:Nat}(O:Pt p T)(V:Pt q U)(hp:p+q<=8796093022208)(hl:T.length<=16): C0 262 [.d (dts T),.d (dts U),.d (.raw (.func (.func 167) #[] #[]))] (·=.b (dc (T=U))):=by
 refine En Tryz.func262 λ_ _ _=>?_
 refine By rfl (λh=>?_) λh=>?_<;>simp only[lt'] at h
 exact R1 rfl (.bp ⟨nofun,λe=>absurd (by rw[e]) h⟩)
 have h:T.length=U.length:=by omega
 refine Lo (λk:Nat=>[(0,.d (dts T)),(1,.d (dts U)),(2,.d (.raw (.func (.func 167) #[] #[]))),(15,.d (dts T)),(16,.d (.int .i64 (T.map dqs).length)),(17,.d (.int .i64 k))]) (λ_=>[]) (λk=>k<=T.length/\T.take k=U.take k) (λk=>T.length-k) 0 [] rfl ⟨by omega,rfl⟩ λk ⟨hk,I⟩=>?_
 refine By rfl (λM=>?_) λM=>?_<;>simp only[lt'] at M
 obtain⟨x,o⟩:∃x,T[k]?=some x:=⟨_,W0e (by omega)⟩
 obtain⟨y,i⟩:∃y,U[k]?=some y:=⟨_,W0e (by omega)⟩
 obtain⟨x1,Z⟩:=O k x o
 obtain⟨y1,y2⟩:=V k y i
 have:=p16 (by omega:k<=16)
 refine Ix k rfl (mp o)<|Ix k rfl (mp i)<|Ce rfl (sameElement_ok Z y2 hp (by omega))<|By rfl (λj=>?_) λj=>?_
 have j:¬x=y:=by simpa [Xas,Xaj] using j
 exact R1 rfl (.bp ⟨nofun,λe=>by subst e;rw[o] at i;injection i with i;exact absurd i j⟩)
 have e:x=y:=by simpa [Xas,Xaj] using j
 refine Ar (k+1:Nat) rfl ?_
 exact Bk (k+1) [] rfl ⟨by omega,by rw[W1w,W1w,o,i,I,e]⟩ (by show T.length-(k+1)<T.length-k;omega)
 rw[W0b (by omega),W0b (by omega)] at I
 exact R1 rfl (.bp ⟨λ_=>I,λ_=>rfl⟩)
theorem begins_ok{T U:List (List Rat)}{p q:Nat}(j:Pt p T)(o:Pt q U)(hp:p+q<=8796093022208)(I:T.length<=16): C0 166 [.d (dts T),.d (dts U)] (·=.b (dc (T.take U.length=U))):=by
 refine En Tryz.func166 λ_ _ _=>?_
 refine By rfl (λh=>?_) λh=>?_<;>simp only[lt'] at h
 have hq:Pt p (T.take U.length):=λi r hi=>by
  rw[W1h] at hi
  split at hi
  exact j i r hi
  cases hi
 refine Tk U.length ((T.take U.length).map dqs) rfl rfl (by simp only[lt'];omega) (by rw[W2f]) ?_ (by simp only[lt'])
 exact Ce rfl (Ya0 hq o hp (by rw[W0k];omega))<|R0
 exact R1 rfl (.bp ⟨nofun,λe=>absurd (congrArg List.length e) (by rw[W0k];omega)⟩)
theorem Yj2{T:List (List Rat)}{l:List Rat}(h0:0<l.length)(j:T.length<=16)(o:l.length<=2^T.length): C0 170 [.d (dts T),.d (dqs l)] (·=.d (dqs (l++List.replicate (2^T.length-l.length) 0))):=by
 have hp:=p16 j
 obtain⟨n,i⟩:∃n,n=2^T.length:=⟨_,rfl⟩
 rw[<-i] at hp o |-
 refine En Tryz.func170 λ_ _ _=>?_
 refine Cr rfl (Xeg h0 (by omega)) ?_
 refine Lo (λk:Nat=>[(0,.d (dts T)),(5,.own 7 4 0 ((l++List.replicate k 0).map dq).length)]) (λk=>[(7,.arr 4 ((l++List.replicate k 0).map dq))]) (λk=>l.length+k<=n) (λk=>n-k) 0 [] rfl (by omega) (λk I=>?_) (by exact⟨by simp;rfl,by simp;rfl,rfl,rfl,rfl⟩)
 refine Ar n rfl ?_ (by rw[i];simp only[lt'];exact Xb1 (by omega))
 refine By rfl (λh=>?_) λh=>?_<;>simp only[lq,W0i,W1o] at h
 refine Ce rfl (Xah (z:=0) (by decide))<|ApO ((l++List.replicate (k+1) 0).map dq) rfl rfl rfl (by rw[W7b];simp) (by simp;omega) ?_
 exact Bk (k+1) [(7,90),(17,7)] rfl (by omega:l.length+(k+1)<=n) (by show n-(k+1)<n-k;omega)
 refine R1 rfl (.own rfl (by omega) ?_)
 rw[W1i,show n-l.length=k by omega]
 exact W0b (by simp)
theorem Xrq{k m:Nat}{s:Tow.El k}{b:Tow.El m}{T:Tw m}(h:Lf s b)(i:k<=m)(j:m<=16): C0 170 [.d (dt T),.d (de s)] (·=.d (de b)):=by
 have:=Yj2 (T:=toT m T) (l:=toL k s) (by rw[Xab];exact W0p k) (by rw[Xaa];omega) (by rw[Xab,Xaa];exact W0o (by decide) i)
 rw[Xaa,Xab,<-h] at this
 exact this
abbrev dE(T h:List (List Rat)): D:=.st (.pr (dts T) (dts h))
theorem Xgn{k R z:Nat}{T:Tw k}{M:List (List Rat)}{σ:Nat->Tow.El k}(I:TS R k T)(O:k<=16)(V:R<=4398046511104): ∀ {j p:Nat} {a:Tow.El j},R9.Rts k z j M σ->Sz p (toL j a)->j<=16->imB (cB R k) z j p<=4398046511104 ->
 C0 261 [.d (dE (toT k T) M),.d (de a)] (·=.d (de (ev T σ j a))):=by
 intro j
 induction j with
 | zero =>
  intro p a _ ha hj hb
  have hb:p+1<=4398046511104:=hb
  have Z:∀y:Rat,Qs p y->C0 261 [.d (dE (toT k T) M),.d (dqs [y])] (·=.d (de (rat k y))):=λy hy=>by
   refine En Tryz.func261 λ_ _ _=>?_
   exact Yes rfl rfl<|Dw rfl<|Ix 0 rfl (u:=dq y) rfl<|Ce rfl (Xb8 I O V hy (by omega))<|R0
  exact Z a (ha.qs (W0g.2 rfl))
 | succ j ih =>
  intro p a hr ha hj hb
  have hb':2*imB (cB R k) z j p+z+cB R k+1<=4398046511104:=hb
  have o:R9.Rts k z j M σ:=λi hi=>hr i (by omega)
  have hpj:=p16 (by omega:j<=16)
  have hp0:=W0p j
  have hpp:=Ydu (c:=cB R k) (z:=z) (p:=p) (j:=j)
  have hs:∀i,i<j->Sz z (toL k (σ i)):=λi hi=>(o i hi).elim λ_ h=>h.elim λ_ h=>h.2.2.2
  have h1:=Xme I (a:=a.1) hs (Sz.left ha)
  have h2:=Xme I (a:=a.2) hs (Sz.right ha)
  obtain⟨m,s,m1,m2,m3,m4⟩:=hr j (by omega)
  refine En Tryz.func261 λ_ _ _=>?_
  refine No rfl (by show ¬((((toL j a.1++toL j a.2).map dq).length:Nat):Int)=1;rw[hvL];omega)<|Ar (2^j:Nat) rfl ?_ (hvq a (by omega))
  refine Lo (λi:Nat=>[(1,.d (de a)),(2,.ptr 2 0),(4,.nil),(5,.d (.int .i64 (2^j:Nat))),(6,.d (.int .i64 i))]) (λ_=>[(2,.var (.d (dE (toT k T) M)))]) (λi=>i<=j) (λi=>j-i) 0 [] rfl (by omega) λi hi=>?_
  refine Ar (i+1:Nat) rfl ?_
  refine Ar (2^(i+1):Nat) rfl ?_ (Xb1 (by omega))
  refine By rfl (λh=>?_) λh=>?_
  have h:((2^(i+1):Nat):Int)<(((toL j a.1++toL j a.2).map dq).length:Nat):=h
  rw[hvL,<-Nat.pow_succ'] at h
  have h:i+1<j+1:=(W3i (by decide:1<2)).1 (by omega)
  refine Ar (i+1:Nat) rfl ?_
  exact Bk (i+1) [] rfl (by omega:i+1<=j) (by show j-(i+1)<j-i;omega)
  have h:¬((2^(i+1):Nat):Int)<(((toL j a.1++toL j a.2).map dq).length:Nat):=h
  rw[hvL,<-Nat.pow_succ'] at h
  have h:¬i+1<j+1:=λe=>h (by have:=(W3i (by decide:1<2)).2 e;omega)
  obtain rfl:i=j:=by omega
  refine Dw rfl<|Tk (2^i) ((toL i a.1).map dq) rfl rfl (Xcq a) (hvT a) ?_
  refine Ce rfl (ih o (Sz.left ha) (by omega) (by omega))<|Dp (2^i) ((toL i a.2).map dq) rfl rfl (Xcq a) (hvD a) ?_
  refine Ce rfl (Xc5 (l:=toL i a.2) (Sz.right ha).ps (by omega) (by rw[Xab];omega))<|By rfl (λU=>?_) λU=>?_
  have U:a.2=zero i:=(Xam i a.2).2 U
  have e:ev T σ i a.1=ev T σ (i+1) a:=by
   have L:=Xax k T
   show _=Tow.add k (ev T σ i a.1) (mul k T (ev T σ i a.2) (σ i))
   rw[U,Xef,L.mc,L.mz,L.az]
  exact R1 rfl (.eq (congrArg de e))
  refine Dw rfl<|Dp (2^i) ((toL i a.2).map dq) rfl rfl (Xcq a) (hvD a) ?_
  exact Ce rfl (ih o (Sz.right ha) (by omega) (by omega))<|Ix i rfl (mp m2)<|Ce rfl (Xrq (T:=T) m3 m1 O)<|Ce rfl (Xdo I h2 m4 O (by omega) V)<|Ce rfl (Xip I h1 (h2.mul I m4) O (by omega) V)<|R0
section
variable{c:Fg}{K:Nat}{G:Tw K}{S:List (Tow.El K)}{k l:Nat}{t:Tw k}{u:Tw l}{ρ ρu:Nat->Tow.El K}
theorem Xd1(W:Wy c G S)(ht:TOk G S k t ρ)(hu:TOk G S l u ρu): C0 260 [.d (dt t),.d (dt u)] (R9.ExQ c G S l k t ρ ρu λT I=>.tup (.pr (.d (.st (.pr T I))) (.d (.int .i64 0)))):=by
 have hl3:=W.le hu
 have hH:=W.k.h
 refine En Tryz.func260 λ_ _ _=>?_
 refine Nv 6 7 1 rfl ?_
 refine Lo (λ(x:Nat×(Σ m,Tw m)×List (List Rat))=>[(4,.ptr 4 0),(5,.d (.int .i64 0)),(6,.ptr 6 0),(14,.d (dt u)),(15,.d (.int .i64 ((toT l u).map dqs).length)),(16,.d (.int .i64 x.1))]) (λx=>[(4,.var (.st (.pr .nil .nil))),(6,.var (.st (.pr (.d (dt x.2.1.2)) (.gr 7 1 (x.2.2.map dqs))))),(7,.tok (x.2.2.map dqs).length 1)])
  (R9.ExI c G S l k t ρ ρu) (λx=>l-x.1) (0,⟨k,t⟩,[]) [] rfl ⟨W0r _,rfl,ρ,ht,Beg.rf,λ_ _=>rfl,λi hi=>by omega,λ_=>rfl⟩ (λ(i,⟨m,T⟩,I) hI=>?_)
 have V:=hI
 obtain⟨hi,hrl,ρ',o,hB,ha,j,hc⟩:=hI
 simp only at hi hrl o hB ha j hc
 have Z:=W.le o
 have hz:=W.t o
 refine By rfl (λh=>?_) λh=>?_<;>simp only[lt',Xaa] at h
 have O:i<l:=by omega
 obtain⟨x,σ,x1,x2,s1,s2,U,x4,hsz⟩:=R9.ExI.rad W hu O o j
 obtain⟨q1,q2,q3,q4⟩:=R9.exB W.k Z
 have hE:=Yel Z (by omega:i<c.H)
 have hR:=W.k.r
 have hE':=W.k.e
 have M:(I.map dqs).length<=c.H:=by rw[W1k];omega
 refine Ix i rfl (mp x1)<|Dw rfl<|Ce rfl (Xgn (k:=m) (T:=T) hz (by omega) (by omega) s1 x2 (by omega) (by omega))<|Ca rfl (P8.Adjoin_ok (k:=m) (t:=T) hz hsz o.r (by omega) q1 q2 q3 q4) λv hv=>?_
 rcases hv with ⟨h1,rfl⟩ | ⟨y,h1,h2,rfl⟩ | ⟨h1,h2,h3,rfl⟩
 have:=Xdl (Xad W.g) o.h (a:=ev T σ i x)
 rw[U,(Xao (Xad W.g)).sm,x4] at this
 omega
 refine No rfl (by simp)<|ApG ((I++[toL m y]).map dqs) rfl (by simp) (by simp at M |-;omega) ?_
 refine Ar (i+1:Nat) rfl ?_
 exact Bk (i+1,⟨m,T⟩,I++[toL m y]) [(7,90),(39,7)] rfl (V.sq W hu O o hB ha j hc s2 U x4 h1 h2) (by show l-(i+1)<l-i;omega)
 refine No rfl (by simp)<|ApG ((I++[toL (m+1) (Xdi (m+1) m)]).map dqs) rfl (by simp) (by simp at M |-;omega) ?_
 refine Ar (i+1:Nat) rfl ?_
 exact Bk (i+1,⟨m+1,tsn T (ev T σ i x)⟩,I++[toL (m+1) (Xdi (m+1) m)]) [(7,90),(39,7)] rfl (V.new W hu O o hB ha j U x4 h2) (by show l-(i+1)<l-i;omega)
 obtain rfl:i=l:=by omega
 exact Rt rfl (.tup (.cons (.sd (.pd (.rf rfl) (.gr rfl))) Xbs)) ⟨m,T,I,ρ',rfl,o,hB,ha,j,hc⟩
end
end
section
theorem Xd3{x:Nm}{r p:Nat}(hr:TS r x.k x.t)(hp:Sz p (toL x.k x.a))(o:x.k<=16)(I:r<=4398046511104)(M:p<=4398046511104): C0 192 [.d (dN x)] (·=.d (dN x)):=by
 have O:=p16 o
 refine En Tryz.func192 λ_ _ _=>?_
 refine Ce rfl (Xdg hp.ps M (by rw[Xab];omega))<|Nv 3 7 1 rfl ?_
 refine Lo (λ(i:Nat)=>[(2,.ptr 2 0),(3,.ptr 3 0),(11,.d (dt x.t)),(12,.d (.int .i64 ((toT x.k x.t).map dqs).length)),(13,.d (.int .i64 i))]) (λi=>[(2,.var (.st (.pr .nil .nil))),(3,.var (.st (.pr (.gr 7 1 (((toT x.k x.t).take i).map dqs)) (.d (de x.a))))),(7,.tok (((toT x.k x.t).take i).map dqs).length 1)])
  (λi=>i<=x.k) (λi=>x.k-i) 0 [] rfl (W0r _) (λi hi=>?_)
 refine By rfl (λh=>?_) λh=>?_<;>simp only[lt',Xaa] at h
 obtain⟨w,y,V,j,T,_⟩:=Tw.take (t:=x.t) (i:=i) (by omega)
 have U:=(T r hr).2
 refine Ix i rfl (mp j)<|Dw rfl<|Ce rfl (Xdg U.ps I (by rw[Xab];have:=p16 (by omega:i<=16);omega))<|ApG (((toT x.k x.t).take (i+1)).map dqs) rfl (by rw[W1w,j];simp) (by simp[Xaa];omega) ?_
 refine Ar (i+1:Nat) rfl ?_
 exact Bk (i+1) [(7,90),(22,7)] rfl (by omega:i+1<=x.k) (by show x.k-(i+1)<x.k-i;omega)
 have e:(toT x.k x.t).take i=toT x.k x.t:=W0b (by rw[Xaa];omega)
 refine R1 rfl (.sd (.pd (.gr ?_) (.rf rfl)))
 rw[e]
theorem Xrr: ∀ {k:Nat},rat k 1≠zero k
 | 0,h=>by have h:(1:Rat)=0:=h;exact absurd h (by decide)
 | k+1,h=>Xrr (k:=k) (congrArg Prod.fst h)
theorem inv_zero{k:Nat}{t:Tw k}{a:Tow.El k}(h:a=zero k): Tow.inv k t a=none:=by
 cases e:Tow.inv k t a with
 | none=>rfl
 | some i =>
  have:=Xb9 e
  rw[h,(Xax k t).mz] at this
  exact absurd this.symm Xrr
section
variable{c:Fg}{K:Nat}{G:Tw K}{S:List (Tow.El K)}{r p:Nat}{x y:Nm}{vx vy:Tow.El K}
theorem Xx3(W:Wy c G S)(hx:NOk G S r p x vx)(hy:NOk G S r p y vy): C0 259 [.d (dNs [x,y])] λv=>∃m T,v=.tup (.pr (.d (dt T)) (.d (.int .i64 0)))/\R9.CmP G S x y m T:=by
 have hG:=W.g
 have hR:=W.k.r
 have hH:=W.k.h
 obtain⟨ρx,j,hx2⟩:=hx.ex
 obtain⟨ρy,o,hy2⟩:=hy.ex
 have hx3:=W.le j
 have hy3:=W.le o
 have I:=W.t j
 have M:=W.t o
 refine En Tryz.func259 λ_ _ _=>?_
 refine Nd 4 1 rfl ?_
 refine Lo (λ(s:Nat×(Σ m,Tw m))=>[(2,.nil),(3,.d (.int .i64 0)),(4,.d (dt s.2.2)),(9,.d (dNs [x,y])),(10,.d (.int .i64 2)),(11,.d (.int .i64 s.1))]) (λ_=>[]) (λs=>(s.1=0/\s.2=⟨0,()⟩)\/(s.1=1/\s.2=⟨x.k,x.t⟩)\/(s.1=2/\R9.CmP G S x y s.2.1 s.2.2)) (λs=>2-s.1) (0,⟨0,()⟩) [] rfl (.inl ⟨rfl,rfl⟩) (λ(i,⟨m,T⟩) hI=>?_)
 simp only at hI
 rcases hI with ⟨rfl,e⟩ | ⟨rfl,e⟩ | ⟨rfl,hP⟩
 cases e
 refine Yes rfl (by decide:((0:Nat):Int)<2)<|Ix 0 rfl (u:=dN x) rfl<|Ce rfl (begins_ok (T:=[]) (U:=toT x.k x.t) (p:=1) (λi r h=>by simp at h) (TS.pt I) (by omega) (by decide))<|By rfl (λh=>?_) λh=>?_
 obtain⟨V,tx,ax⟩:=x
 have h:[]=toT V tx:=by simpa using h
 obtain rfl:V=0:=by have:=congrArg List.length h;rw[Xaa] at this;exact this.symm
 refine Ar (0+1:Nat) rfl ?_
 exact Bk (1,⟨0,tx⟩) [] rfl (.inr (.inl ⟨rfl,rfl⟩)) (by decide:1<2)
 refine Ce rfl (begins_ok (U:=[]) (q:=1) (TS.pt I) (λi r h=>by simp at h) (by omega) (by rw[Xaa];omega))<|Yes rfl (by simp)<|Ar (0+1:Nat) rfl ?_
 exact Bk (1,⟨x.k,x.t⟩) [] rfl (.inr (.inl ⟨rfl,rfl⟩)) (by decide:1<2)
 cases e
 have O:∀h:(toT x.k x.t).take (toT y.k y.t).length=toT y.k y.t,R9.CmP G S x y x.k x.t:=λh=>.mk hG j o j R9.rts (R9.beg_rt hG (show Beg y.k y.t x.k x.t from h) o j)
 refine Yes rfl (by decide:((1:Nat):Int)<2)<|Ix 1 rfl (u:=dN y) rfl<|Ce rfl (begins_ok (T:=toT x.k x.t) (U:=toT y.k y.t) (TS.pt I) (TS.pt M) (by omega) (by rw[Xaa];omega))<|By rfl (λh=>?_) λh=>?_
 refine Ar (1+1:Nat) rfl ?_
 exact Bk (2,⟨x.k,x.t⟩) [] rfl (.inr (.inr ⟨rfl,O h⟩)) (by decide:0<1)
 refine Ce rfl (begins_ok (T:=toT y.k y.t) (U:=toT x.k x.t) (TS.pt M) (TS.pt I) (by omega) (by rw[Xaa];omega))<|By rfl (λZ=>?_) λZ=>?_
 have hb:Beg x.k x.t y.k y.t:=Z
 refine Ar (1+1:Nat) rfl ?_
 exact Bk (2,⟨y.k,y.t⟩) [] rfl (.inr (.inr ⟨rfl,.mk hG j o o (R9.beg_rt hG hb j o) R9.rts⟩)) (by decide:0<1)
 refine Ca rfl (Xd1 W j o) λv hv=>?_
 obtain⟨m,T,rs,ρ',rfl,g1,g2,g3,g5,g6⟩:=hv
 refine No rfl (by simp)<|Ar (1+1:Nat) rfl ?_
 exact Bk (2,⟨m,T⟩) [] rfl (.inr (.inr ⟨rfl,.ext hG j o g1 g2 g5⟩)) (by decide:0<1)
 exact No rfl (by decide:¬((2:Nat):Int)<2)<|Rt rfl (.tup (.cons (.rf rfl) Xbs)) ⟨m,T,rfl,hP⟩
theorem Join_ok(W:Wy c G S)(hx:NOk G S r p x vx)(hy:NOk G S r p y vy)(hp:oW c p<=4398046511104): C0 163 [.d (dNs [x,y])] λv=>∃m T a b,v=.tup (.pr (.d (dNs [⟨m,T,a⟩,⟨m,T,b⟩])) (.d (.int .i64 0)))/\R9.JnR c G S p vx vy m T a b:=by
 have hc:=Xx3 W hx hy
 have hG:=W.g
 have hR:=W.k.r
 have hH:=W.k.h
 have hO:oW c p=2*jW c p+cB c.R c.H+1:=rfl
 have hpj:p<=jW c p:=Ygg
 refine En Tryz.func163 λ_ _ _=>?_
 refine Ca rfl hc λv hv=>?_
 obtain⟨m,T,rfl,hP⟩:=hv
 obtain⟨ρ,M,hcon⟩:=hP
 have o:=W.t M
 have hm3:=W.le M
 refine No rfl (by decide)<|Nl 6 6 2 rfl ?_
 refine Lo (λ(s:Nat×List (Tow.El m))=>[(2,.nil),(3,.d (.int .i64 0)),(4,.d (dt T)),(6,.gr 6 2 (s.2.map λa=>dN ⟨m,T,a⟩)),(20,.d (dNs [x,y])),(21,.d (.int .i64 2)),(22,.d (.int .i64 s.1))]) (λs=>[(6,.tok (s.2.map λa=>dN ⟨m,T,a⟩).length 2)])
  (R9.JnI c G p m ρ vx vy) (λs=>2-s.1) (0,[]) [] rfl ⟨W0r _,rfl,λi hi=>absurd hi (W3t _)⟩ (λ(j,bs) hI=>?_)
 have O:=hI
 obtain⟨hj,hjl,has⟩:=hI
 simp only at hj hjl has
 refine By rfl (λh=>?_) λh=>?_
 have h:(j:Int)<2:=h
 obtain⟨z,v,ρz,z1,z2,V,z4,z6⟩:=R9.both hx hy j (by omega)
 have z5:=W.t V
 have hzu:([x,y].map dN)[j]?=some (dN z):=by rw[W2c,z1];rfl
 have hzm:=hcon z (W0h z1) ρz V
 have hz3:=W.le V
 refine Ix j rfl hzu<|Ce rfl (begins_ok (T:=toT m T) (U:=toT z.k z.t) (TS.pt o) (TS.pt z5) (by omega) (by rw[Xaa];omega))<|By rfl (λh1=>?_) λh1=>?_
 have hb:Beg z.k z.t m T:=h1
 obtain⟨b,I⟩:=Lf.ex hb.le z.a
 have hv1:ev G ρ m b=v:=by rw[I.ev hb.le,Xbw (R9.beg_ag hG hb V M),z4]
 refine Ce rfl (Xrq (T:=T) I hb.le (by omega))<|Ce rfl (Xd3 (x:=⟨_,T,b⟩) o ((I.sz z6).mono hpj) (show _<=16 by show m<=16;omega) (by omega) (by omega))<|ApG ((bs++[b]).map λa=>dN ⟨m,T,a⟩) rfl (by simp) (by simp;omega) ?_
 refine Ar (j+1:Nat) rfl ?_
 exact Bk (j+1,bs++[b]) [(6,90),(56,6)] rfl (O.step (by omega) z2 hv1 ((I.sz z6).mono hpj)) (by show 2-(j+1)<2-j;omega)
 refine Ca rfl (Xd1 W M V) λv' hv=>?_
 obtain⟨m',T',rs,ρ',rfl,g1,g2,g3,g5,g6⟩:=hv
 obtain rfl:m'=m:=by have:=congrArg List.length (g6 hzm);rwa[Xaa,Xaa] at this
 obtain rfl:T=T':=(Xlb (g6 hzm)).symm
 have g5:RtV G m' c.Z z.k rs ρ ρz:=g5.mono (W0a _) (W0a _) (λi hi=>(g3 i hi).symm)
 obtain⟨σ,s1,s2⟩:=g5.sig
 have hbd:=Ygf (p:=p) hm3 hz3
 refine No rfl (by simp)<|Ce rfl (Xgn o (by omega) (by omega) s1 z6 (by omega) (by omega))<|Ce rfl (Xd3 (x:=⟨_,T,ev T σ z.k z.a⟩) o (R9.img W M V s1 z6) (show _<=16 by show m'<=16;omega) (by omega) (by omega))<|ApG ((bs++[ev T σ z.k z.a]).map λa=>dN ⟨m',T,a⟩) rfl (by simp) (by simp;omega) ?_
 refine Ar (j+1:Nat) rfl ?_
 exact Bk (j+1,bs++[ev T σ z.k z.a]) [(6,90),(56,6)] rfl (O.step (by omega) z2 (by rw[Xmf M.h s2,z4]) (R9.img W M V s1 z6)) (by show 2-(j+1)<2-j;omega)
 . have h:¬(j:Int)<2:=h
   obtain rfl:j=2:=by omega
   obtain⟨a,b,rfl,hJ⟩:=O.done M
   exact Rt rfl (.tup (.cons (.gr rfl) Xbs)) ⟨m,T,a,b,rfl,hJ⟩
def OpF(c:Fg)(f:FuncId)(p:Nat)(g:(m:Nat)->Tw m->Tow.El m->Tow.El m->Tow.El m): Prop:=∀(m:Nat) (T:Tw m) (a b:Tow.El m),m<=c.H->TS c.R m T->Sz (jW c p) (toL m a)->Sz (jW c p) (toL m b)->C0 f [.d (dt T),.d (de a),.d (de b)] (·=.d (de (g m T a b)))
theorem Xhi{f:FuncId}{g:(m:Nat)->Tw m->Tow.El m->Tow.El m->Tow.El m}(hf:OpF c f p g)(W:Wy c G S)(j:NOk G S r p x vx)(o:NOk G S r p y vy)(hp:oW c p<=4398046511104): C0 79 [.d (dN x),.d (dN y),.d (fnD f)] λv=>∃m T a b,v=.tup (.pr (.d (dN ⟨m,T,g m T a b⟩)) (.d (.int .i64 0)))/\R9.JnR c G S p vx vy m T a b:=by
 refine En Tryz.func79 λ_ _ _=>?_
 refine Ca rfl (Join_ok W j o hp) λv I=>?_
 obtain⟨m,T,a,b,rfl,h⟩:=I
 obtain⟨ρ,i,Z,h4,M,O⟩:=id h
 have U:=W.t i
 have V:=W.le i
 exact No rfl (by simp)<|Ix 0 rfl (u:=dN ⟨m,T,a⟩) rfl<|Dw rfl<|Ix 0 rfl (u:=dN ⟨m,T,a⟩) rfl<|Ix 1 rfl (u:=dN ⟨m,T,b⟩) rfl<|Ce rfl (hf m T a b V U M O)<|Rt rfl (.tup (.cons (.rf rfl) Xbs)) ⟨m,T,a,b,rfl,h⟩
theorem Add_ok(W:Wy c G S)(M:NOk G S r p x vx)(O:NOk G S r p y vy)(hp:oW c p<=4398046511104): C0 35 [.d (dN x),.d (dN y)] (R9.OpR c G S (oW c p) (Tow.add K vx vy)):=by
 have hO:oW c p=2*jW c p+cB c.R c.H+1:=rfl
 have hH:=W.k.h
 have hR:=W.k.r
 refine En Tryz.func35 λ_ _ _=>?_
 refine Ca rfl (Xhi (g:=λm T a b=>Tow.add m a b) (λm T a b hm i j o=>Xip i j o (by omega) (by omega) (by omega)) W M O hp) λv U=>?_
 obtain⟨m,T,a,b,rfl,ρ,I,V,Z,j,o⟩:=U
 have i:=W.t I
 exact Rt rfl (.tup (.cons (.rf rfl) Xbs)) ⟨⟨m,T,Tow.add m a b⟩,rfl,⟨ρ,I,by rw[<-V,<-Z];exact Xcv⟩,i,by rw[Xa0];exact(j.add o).mono (by omega)⟩
theorem Mul_ok(W:Wy c G S)(O:NOk G S r p x vx)(U:NOk G S r p y vy)(hp:oW c p<=4398046511104): C0 41 [.d (dN x),.d (dN y)] (R9.OpR c G S (oW c p) (Tow.mul K G vx vy)):=by
 have hO:oW c p=2*jW c p+cB c.R c.H+1:=rfl
 have hH:=W.k.h
 have hR:=W.k.r
 refine En Tryz.func41 λ_ _ _=>?_
 refine Ca rfl (Xhi (g:=λm T a b=>Tow.mul m T a b) (λm T a b o i I M=>Xdo i I M (by omega) (by have:=Xgv (r:=c.R) o;omega) (by omega)) W O U hp) λv V=>?_
 obtain⟨m,T,a,b,rfl,ρ,j,Z,h4,I,M⟩:=V
 have i:=W.t j
 have o:=W.le j
 have hc:=Xgv (r:=c.R) o
 exact Rt rfl (.tup (.cons (.rf rfl) Xbs)) ⟨⟨m,T,Tow.mul m T a b⟩,rfl,⟨ρ,j,by rw[<-Z,<-h4];exact Xbg j.h⟩,i,(I.mul i M).mono (by omega)⟩
theorem Sub_ok(W:Wy c G S)(M:NOk G S r p x vx)(O:NOk G S r p y vy)(hp:oW c p<=4398046511104): C0 194 [.d (dN x),.d (dN y)] (R9.OpR c G S (oW c p) (Tow.add K vx (Tow.neg K vy))):=by
 have hO:oW c p=2*jW c p+cB c.R c.H+1:=rfl
 have hH:=W.k.h
 have hR:=W.k.r
 refine En Tryz.func194 λ_ _ _=>?_
 refine Ca rfl (Xhi (g:=λm T a b=>Tow.add m a (Tow.neg m b)) (λm T a b hm i j o=>Xio i j o (by omega) (by omega) (by omega)) W M O hp) λv U=>?_
 obtain⟨m,T,a,b,rfl,ρ,I,V,Z,j,o⟩:=U
 have i:=W.t I
 exact Rt rfl (.tup (.cons (.rf rfl) Xbs)) ⟨⟨m,T,Tow.add m a (Tow.neg m b)⟩,rfl,⟨ρ,I,by rw[<-V,<-Z,<-Xdm];exact Xcv⟩,i,by rw[Xa0];exact(j.add (Xhr o)).mono (by omega)⟩
theorem Neg_ok(h:NOk G S r p x vx)(i:x.k<=16)(hr:r<=4398046511104)(hp:p<=4398046511104): C0 101 [.d (dN x)] (·=.d (dN ⟨x.k,x.t,Tow.neg x.k x.a⟩)):=by
 refine En Tryz.func101 λ_ _ _=>?_
 exact Ce rfl (Xd3 h.r h.p i hr hp)<|Ce rfl (Xu1 h.r h.p i hp hr)<|R0
theorem Sign_ok(hG:red K G)(h:NOk G S r p x vx)(i:x.k<=16)(j:vB r x.k p<=4398046511104)(hr:vB r x.k r<=4398046511104): C0 74 [.d (dN x)] (·=.d (.int .i64 (sgn K G vx))):=by
 obtain⟨ρ,o,I⟩:=h.ex
 have:=Xdv (r:=r) x.k r
 refine En Tryz.func74 λ_ _ _=>?_
 refine Ce rfl (Xmt h.r h.p (Xad o.r) i j hr (by omega)) ?_
 rw[h.sgn (Xad hG)]
 exact R0
theorem FromRat_ok{q:Rat}{p:Nat}(hq:Qs p q)(hp:p<=4398046511104): C0 75 [.d (dq q)] (·=.d (dN ⟨0,(),q⟩)):=by
 refine En Tryz.func75 λ_ _ _=>?_
 exact Ce rfl (Xkx hq hp)<|R1 rfl (.sd (.pd (.nil rfl) (.lit rfl)))
theorem FromInt_ok{z:Int}(h:-9223372036854775808<=z/\z<9223372036854775808): C0 30 [.d (.int .i64 z)] (·=.d (dN ⟨0,(),(z:Rat)⟩)):=by
 refine En Tryz.func30 λ_ _ _=>?_
 exact Ce rfl (Xah h)<|Ce rfl (FromRat_ok (q:=(z:Rat)) (p:=64) (Qs.int (by unfold Zs;omega) (by omega)) (by decide))<|R0
theorem Cmp_ok(W:Wy c G S)(I:NOk G S r p x vx)(M:NOk G S r p y vy)(hp:oW c p<=4398046511104)(i:vB c.R c.H (oW c p)<=4398046511104): C0 102 [.d (dN x),.d (dN y)] (·=.tup (.pr (.d (.int .i64 (sgn K G (Tow.add K vx (Tow.neg K vy))))) (.d (.int .i64 0)))):=by
 refine En Tryz.func102 λ_ _ _=>?_
 refine Ca rfl (Sub_ok W I M hp) λv i=>?_
 obtain⟨z,rfl,j⟩:=i
 have o:=j.le (Xad W.g) W.s
 have O:=W.k.h
 exact No rfl (by simp)<|Ce rfl (Sign_ok W.g j (by omega) (W0j (Xg0 o) i) (W0j (Xg0 o) W.k.q4))<|RTt rfl (.cons (.rf rfl) Xbs)
theorem Div_ok(W:Wy c G S){q:Nat}(T:NOk G S r q x vx)(j:NOk G S r p y vy)(hq:iS r c.H p<=q)(hi:iB r c.H p<=4398046511104)(hp:oW c q<=4398046511104)(hr:r<=4398046511104):
 C0 103 [.d (dN x),.d (dN y)] λv=>(vy=zero K/\v=.tup (.pr (.d R9.n0) (.d (.int .i64 6))))\/∃w,Tow.mul K G w vy=rat K 1/\R9.OpR c G S (oW c q) (Tow.mul K G vx w) v:=by
 have I:=j.le (Xad W.g) W.s
 have hH:=W.k.h
 obtain⟨ρ,M,O⟩:=j.ex
 have U:=Yk9 (r:=r) (p:=p) I
 have V:=Ygq (r:=r) (p:=p) I
 refine En Tryz.func103 λ_ _ _=>?_
 by_cases h0:y.a=zero y.k
 exact Ce rfl (Xzk j.r j.p (by omega) (by omega) (by omega) (inv_zero h0))<|Yes rfl (by decide)<|Rt rfl (.tup (.cons R9.fit0 Xbs)) (.inl ⟨by rw[<-O,h0,Xef],rfl⟩)
 obtain⟨i,o⟩:=(Xcp M.r).2 y.a h0
 refine Ce rfl (Xo3 j.r j.p (by omega) (by omega) (by omega) o)<|No rfl (by decide) ?_
 have Z:NOk G S r q ⟨y.k,y.t,i⟩ (ev G ρ y.k i):=⟨⟨ρ,M,rfl⟩,j.r,(Sz.invS j.r j.p o).mono (by omega)⟩
 refine Ca rfl (Mul_ok (y:=⟨y.k,y.t,i⟩) W T Z hp) λv hv=>?_
 obtain⟨z,rfl,h⟩:=hv
 exact Rt rfl (.tup (.cons (.rf rfl) Xbs)) (.inr ⟨ev G ρ y.k i,by rw[<-O,<-Xbg M.h,Xb9 o,Xdf],z,rfl,h⟩)
end
end
end Go.Proofs.YtnedfplmoojbaaaGreatDoor.P9
namespace Go.Tow
open Go Go.Num Go.Proofs.YtnedfplmoojbaaaGreatDoor
variable{K:Nat}{G:Tw K}{S:List (El K)}{N:List Nm}{n m:Nat}{x y z:Nm}{v w:El K}{r p:Nat}
structure Wn (G:Tw K) (S:List (El K)) (N:List Nm):Prop where
 w:Wy gF G S
 h:∀z∈N,∃ρz,TOk G S z.k z.t ρz
def gB(n:Nat): Nat:=n*20000000-107430
theorem fC: cB gF.R gF.H=107429:=by decide +kernel
theorem fV: vB gF.R gF.H 15999892570<=4398046511104:=by decide +kernel
theorem fO: oW gF 7999892570<=4398046511104:=by decide +kernel
theorem fV1: vB gF.R gF.H (oW gF 3799892570)<=4398046511104:=by decide +kernel
theorem fO1: oW gF 3799892570<=4398046511104:=by decide +kernel
theorem fB: iB gF.R gF.H 4000000000<=4398046511104:=by decide +kernel
structure Gd (G:Tw K) (S:List (El K)) (N:List Nm) (n:Nat) (x:Nm) (v:El K):Prop where
 o:NOk G S gF.R (gB n) x v
 g:Gs G S N (gB n) v
 n:1<=n
theorem Yao(h:n<=m): gB n<=gB m:=by unfold gB;omega
theorem Gd.mono(h:Gd G S N n x v)(i:n<=m): Gd G S N m x v:=⟨h.o.mono (W0a _) (Yao i),h.g.mono (Yao i),W0j h.n i⟩
theorem Gd.neg(h:Gd G S N n x v): Gd G S N n ⟨x.k,x.t,Tow.neg x.k x.a⟩ (Tow.neg K v):=⟨h.o.neg,h.g.neg,h.n⟩
theorem Gd.short(W:Wn G S N)(i:NOk G S 300 600 z v)(hN:z∈N): Gd G S N 1 z v:=by
 have h:=(Gs.short W.w i hN (i.le (Xad W.w.g) W.w.s)).mono (by decide +kernel:_<=gB 1)
 exact⟨i.re W.w W.h h,h,W0a _⟩
theorem Gd.add(W:Wn G S N)(i:Gd G S N n x v)(j:Gd G S N m y w)(o:NOk G S r p z (Tow.add K v w)): Gd G S N (n+m) z (Tow.add K v w):=by
 have h:=(i.g.add j.g).mono (show _<=gB (n+m) by have:=i.n;have:=j.n;unfold gB;omega)
 exact⟨o.re W.w W.h h,h,W0j i.n (W6i ..)⟩
theorem Gd.mul(W:Wn G S N)(i:Gd G S N n x v)(j:Gd G S N m y w)(o:NOk G S r p z (Tow.mul K G v w)): Gd G S N (n+m) z (Tow.mul K G v w):=by
 have h:=(i.g.mul W.w j.g).mono (show _<=gB (n+m) by rw[fC];have:=i.n;have:=j.n;unfold gB;omega)
 exact⟨o.re W.w W.h h,h,W0j i.n (W6i ..)⟩
theorem fS{p:Nat}: iS gF.R gF.H p=15*p+966862:=by
 show iS 15346 3 p=_
 simp only[iS,nS,show cB 15346 0=0 from rfl,show cB 15346 1=15347 by decide +kernel,show cB 15346 2=46041 by decide +kernel]
 omega
theorem Gd.inv(W:Wn G S N)(h:Gd G S N m y w)(i:Tow.mul K G v w=Tow.rat K 1): Gs G S N (gB (15*m+1)) v:=(h.g.inv W.w i).mono (by rw[fS];have:=h.n;unfold gB;omega)
theorem Gd.div(W:Wn G S N){u:El K}(i:Gd G S N n x v)(j:Gd G S N m y w)(o:Tow.mul K G u w=Tow.rat K 1)(I:NOk G S r p z (Tow.mul K G v u)): Gd G S N (n+(15*m+1)) z (Tow.mul K G v u):=by
 have h:=(i.g.mul W.w (j.inv W o)).mono (show _<=gB (n+(15*m+1)) by rw[fC];have:=i.n;unfold gB;omega)
 exact⟨I.re W.w W.h h,h,W0j i.n (W6i ..)⟩
theorem Gd.rat(W:Wn G S N){q:Rat}(h:Qs 64 q): Gd G S N 1 ⟨0,(),q⟩ (Tow.rat K q):=by
 have h0:NOk G S 0 65 ⟨0,(),q⟩ (Tow.rat K q):=⟨⟨λ_=>zero _,⟨trivial,trivial,λi hi=>absurd hi (W3t _)⟩,rfl⟩,trivial,Sz.rat 0 h⟩
 have j:Gs G S N (gB 1) (Tow.rat K q):=(Gs.rat h).mono (by decide)
 exact⟨h0.re W.w W.h j,j,W0a _⟩
theorem Gd.le(W:Wn G S N)(h:Gd G S N n x v): x.k<=3:=h.o.le (Xad W.w.g) W.w.s
theorem Gd.op(h:Gd G S N n x v)(i:n<=400): NOk G S gF.R 7999892570 x v:=h.o.mono (W0a _) (by unfold gB;omega)
theorem Gd.op1(h:Gd G S N n x v)(i:n<=190): NOk G S gF.R 3799892570 x v:=h.o.mono (W0a _) (by unfold gB;omega)
theorem Yit(W:Wn G S N)(h:Gd G S N n x v)(i:n<=800): vB gF.R x.k (gB n)<=4398046511104:=W0j (W0j (Xg0 (h.le W)) (Xc9 (show gB n<=15999892570 by unfold gB;omega))) fV
theorem Yet(W:Wn G S N)(h:Gd G S N n x v): vB gF.R x.k gF.R<=4398046511104:=W0j (Xg0 (h.le W)) Yo6.q4
end Go.Tow
namespace Go.Proofs.YtnedfplmoojbaaaGreatDoor
open Go Go.Vm Go.Num Go.Tow
section
variable{K:Nat}{G:Tw K}{S:List (Tow.El K)}{N:List Nm}{n m:Nat}{x y z:Nm}{v w:Tow.El K}
def OpG(G:Tw K)(S:List (Tow.El K))(N:List Nm)(n:Nat)(w:Tow.El K)(r:AV): Prop:=∃z:Nm,r=.tup (.pr (.d (dN z)) (.d (.int .i64 0)))/\Gd G S N n z w
def OnG(G:Tw K)(S:List (Tow.El K))(N:List Nm)(n:Nat)(w:Tow.El K)(r:AV): Prop:=∃z:Nm,r=.d (dN z)/\Gd G S N n z w
theorem P9.Add_g(W:Wn G S N)(i:Gd G S N n x v)(j:Gd G S N m y w)(o:n<=400)(I:m<=400): C0 35 [.d (dN x),.d (dN y)] (OpG G S N (n+m) (Tow.add K v w)):=(P9.Add_ok W.w (i.op o) (j.op I) fO).mono λ_ ⟨z,e,h⟩=>⟨z,e,i.add W j h⟩
theorem R9.Add_g(W:Wn G S N)(i:Gd G S N n x v)(j:Gd G S N m y w)(o:n<=400)(I:m<=400): C0 210 [.d (dN x),.d (dN y)] (OpG G S N (n+m) (Tow.add K v w)):=(R9.Add_ok W.w (i.op o) (j.op I) fO).mono λ_ ⟨z,e,h⟩=>⟨z,e,i.add W j h⟩
theorem P9.Mul_g(W:Wn G S N)(i:Gd G S N n x v)(j:Gd G S N m y w)(o:n<=400)(I:m<=400): C0 41 [.d (dN x),.d (dN y)] (OpG G S N (n+m) (Tow.mul K G v w)):=(P9.Mul_ok W.w (i.op o) (j.op I) fO).mono λ_ ⟨z,e,h⟩=>⟨z,e,i.mul W j h⟩
theorem R9.Mul_g(W:Wn G S N)(i:Gd G S N n x v)(j:Gd G S N m y w)(o:n<=400)(I:m<=400): C0 157 [.d (dN x),.d (dN y)] (OpG G S N (n+m) (Tow.mul K G v w)):=(R9.Mul_ok W.w (i.op o) (j.op I) fO).mono λ_ ⟨z,e,h⟩=>⟨z,e,i.mul W j h⟩
theorem R9.Sub_g(W:Wn G S N)(i:Gd G S N n x v)(j:Gd G S N m y w)(o:n<=400)(I:m<=400): C0 173 [.d (dN x),.d (dN y)] (OpG G S N (n+m) (Tow.add K v (Tow.neg K w))):=(R9.Sub_ok W.w (i.op o) (j.op I) fO).mono λ_ ⟨z,e,h⟩=>⟨z,e,i.add W j.neg h⟩
theorem P9.Neg_g(W:Wn G S N)(h:Gd G S N n x v)(i:n<=400): C0 101 [.d (dN x)] (OnG G S N n (Tow.neg K v)):=(P9.Neg_ok h.o (by have:=h.le W;omega) (by decide) (by unfold gB;omega)).mono λ_ e=>⟨_,e,h.neg⟩
theorem R9.Neg_g(W:Wn G S N)(h:Gd G S N n x v)(i:n<=400): C0 213 [.d (dN x)] (OnG G S N n (Tow.neg K v)):=(R9.Neg_ok h.o (by have:=h.le W;omega) (by unfold gB;omega)).mono λ_ e=>⟨_,e,h.neg⟩
theorem P9.Sign_g(W:Wn G S N)(h:Gd G S N n x v)(i:n<=800): C0 74 [.d (dN x)] (·=.d (.int .i64 (sgn K G v))):=P9.Sign_ok W.w.g h.o (by have:=h.le W;omega) (Yit W h i) (Yet W h)
theorem R9.Sign_g(W:Wn G S N)(h:Gd G S N n x v)(i:n<=800): C0 124 [.d (dN x)] (·=.d (.int .i64 (sgn K G v))):=R9.Sign_ok W.w.g h.o (by have:=h.le W;omega) (Yit W h i)
theorem P9.Cmp_g(W:Wn G S N)(h:Gd G S N n x v)(i:Gd G S N m y w)(j:n<=190)(o:m<=190): C0 102 [.d (dN x),.d (dN y)] (·=.tup (.pr (.d (.int .i64 (sgn K G (Tow.add K v (Tow.neg K w))))) (.d (.int .i64 0)))):=P9.Cmp_ok W.w (h.op1 j) (i.op1 o) fO1 fV1
def DvG(G:Tw K)(S:List (Tow.El K))(N:List Nm)(n:Nat)(v w:Tow.El K)(r:AV): Prop:=(w=zero K/\r=.tup (.pr (.d R9.n0) (.d (.int .i64 6))))\/∃u,Tow.mul K G u w=rat K 1/\OpG G S N n (Tow.mul K G v u) r
theorem P9.Div_g(W:Wn G S N)(i:Gd G S N n x v)(j:Gd G S N m y w)(M:n<=190)(U:m<=12): C0 103 [.d (dN x),.d (dN y)] (DvG G S N (n+(15*m+1)) v w):=by
 have hi:iB gF.R gF.H (gB m)<=4398046511104:=W0j (Xji (W0a _) (show gB m<=4000000000 by unfold gB;omega)) fB
 have hq:iS gF.R gF.H (gB m)<=3799892570:=by rw[fS];unfold gB;omega
 refine(P9.Div_ok W.w (i.op1 M) j.o hq hi fO1 (by decide)).mono λr O=>?_
 rcases O with h | ⟨u,I,z,e,T⟩
 exact .inl h
 exact .inr ⟨u,I,z,e,i.div W j I T⟩
end
end Go.Proofs.YtnedfplmoojbaaaGreatDoor
namespace Go.Tow
open Go
abbrev V2(K:Nat):=El K×El K
section
variable{K:Nat}{G:Tw K}{p q:V2 K}
def Xmv(G:Tw K)(p q:V2 K): El K:=add K (mul K G p.1 q.1) (mul K G p.2 q.2)
def Xa3(G:Tw K)(p q:V2 K): El K:=Xmv G (neg K p.2,p.1) q
def Xaz(G:Tw K)(p q:V2 K): V2 K:=(add K (mul K G p.1 q.1) (neg K (mul K G p.2 q.2)),add K (mul K G p.1 q.2) (mul K G p.2 q.1))
def Xcx(p:V2 K): V2 K:=(p.1,neg K p.2)
def vz(K:Nat): V2 K:=(zero K,zero K)
def vup(G:Tw K)(p:V2 K): Prop:=0<sgn K G p.2\/(sgn K G p.2=0/\0<sgn K G p.1)
instance:Decidable (vup G p):=by unfold vup;infer_instance
def Xa5(G:Tw K)(p:V2 K): Prop:=sgn K G p.2=0/\0<sgn K G p.1
instance:Decidable (Xa5 G p):=by unfold Xa5;infer_instance
def Xhy(G:Tw K)(p q:V2 K): Int:=if vup G p↔vup G q then-sgn K G (Xa3 G p q) else if vup G p then -1 else 1
theorem Yiq: Xmv G (Xcx p) q=(Xaz G p q).1:=by
 have L:=Xax K G
 show add K (mul K G p.1 q.1) (mul K G (neg K p.2) q.2)=add K (mul K G p.1 q.1) (neg K (mul K G p.2 q.2))
 rw[L.nm]
theorem Yip: Xa3 G (Xcx p) q=(Xaz G p q).2:=by
 have L:=Xax K G
 show add K (mul K G (neg K (neg K p.2)) q.1) (mul K G p.1 q.2)=add K (mul K G p.1 q.2) (mul K G p.2 q.1)
 rw[L.nn,L.ac]
theorem Xhm(hG:red K G): p=vz K↔sgn K G p.1=0/\sgn K G p.2=0:=by
 rw[Xat hG,Xat hG]
 exact⟨λh=>by rw[h];exact⟨rfl,rfl⟩,λh=>W3f h.1 h.2⟩
theorem vsq(hG:red K G)(h:sgn K G (Xmv G p p)=0): p=vz K:=by
 have Sg:=Xao (Xad hG)
 have i:=Xei (Sg.tri p.1)
 have j:=Xei (Sg.tri p.2)
 rw[Xhm hG]
 have o:=Sg.sm p.1 p.1
 have I:=Sg.sm p.2 p.2
 have L:=Xax K G
 by_cases M:sgn K G p.1=0
 refine⟨M,W0t λO=>?_⟩
 have:=Sg.sp (mul K G p.2 p.2) (mul K G p.1 p.1) (by rw[I];exact j.2.1 O) (by rw[o];exact i.1)
 rw[L.ac] at this
 rw[show add K (mul K G p.1 p.1) (mul K G p.2 p.2)=Xmv G p p from rfl,h] at this
 cases this
 have:=Sg.sp (mul K G p.1 p.1) (mul K G p.2 p.2) (by rw[o];exact i.2.1 M) (by rw[I];exact j.1)
 rw[show add K (mul K G p.1 p.1) (mul K G p.2 p.2)=Xmv G p p from rfl,h] at this
 cases this
theorem Yen: Xmv G (Xaz G p q) (Xaz G p q)=mul K G (Xmv G p p) (Xmv G q q):=by
 obtain⟨a,b⟩:=p
 obtain⟨c,d⟩:=q
 have L:=Xax K G
 exact(Laws.req L [a,b,c,d] (.add (.mul (.add (.mul (.v 0) (.v 2)) (.neg (.mul (.v 1) (.v 3)))) (.add (.mul (.v 0) (.v 2)) (.neg (.mul (.v 1) (.v 3))))) (.mul (.add (.mul (.v 0) (.v 3)) (.mul (.v 1) (.v 2))) (.add (.mul (.v 0) (.v 3)) (.mul (.v 1) (.v 2))))) (.mul (.add (.mul (.v 0) (.v 0)) (.mul (.v 1) (.v 1))) (.add (.mul (.v 2) (.v 2)) (.mul (.v 3) (.v 3)))) (by decide +kernel))
theorem Xb0(hG:red K G)(hp:p≠vz K)(hq:q≠vz K): Xaz G p q≠vz K:=λh=>by
 have Sg:=Xao (Xad hG)
 have L:=Xax K G
 have h0:sgn K G (Xmv G (Xaz G p q) (Xaz G p q))=0:=by
  rw[h]
  show sgn K G (add K (mul K G (zero K) (zero K)) (mul K G (zero K) (zero K)))=0
  rw[L.mz,L.az,Xat hG]
 rw[Yen,Sg.sm] at h0
 rcases W8c.1 h0 with h | h
 exact hp (vsq hG h)
 exact hq (vsq hG h)
theorem Xf7(hG:red K G): Xhy G p p=0:=by
 obtain⟨a,b⟩:=p
 have L:=Xax K G
 unfold Xhy
 rw[if_pos W4a,show Xa3 G (a,b) (a,b)=zero K from(Laws.req L [a,b] (.add (.mul (.neg (.v 1)) (.v 0)) (.mul (.v 0) (.v 1))) .z (by decide +kernel)),(Xao (Xad hG)).s0 L]
 rfl
def Xcm(G:Tw K)(p q:V2 K)(f g:Int): Int:=if Xhy G (Xaz G p q) p<0 then f+g+1 else f+g
end
end Go.Tow
namespace Go.Proofs.YtnedfplmoojbaaaGreatDoor
open Go Go.Vm Go.Num Go.Tow
section
structure Vn where
 x:Nm
 y:Nm
abbrev dV(v:Vn): D:=.st (.pr (dN v.x) (dN v.y))
abbrev dVs(l:List Vn): D:=.sl 4 (l.map dV)
abbrev n00: Nm:=⟨0,(),((0:Int):Rat)⟩
abbrev n01: Nm:=⟨0,(),((1:Int):Rat)⟩
structure Gv {K:Nat} (G:Tw K) (S:List (Tow.El K)) (N:List Nm) (n:Nat) (v:Vn) (p:V2 K):Prop where
 x:Gd G S N n v.x p.1
 y:Gd G S N n v.y p.2
structure Ww {K:Nat} (G:Tw K) (S:List (Tow.El K)) (N:List Nm):Prop where
 w:Wn G S N
 n:∀z∈N,∃v,NOk G S 300 600 z v
 t:∀z∈N,Tm z
def IsB(r:AV): Prop:=∃c:Bool,r=.b c
section
variable{K:Nat}{G:Tw K}{S:List (Tow.El K)}{N:List Nm}{n m:Nat}{x y z:Nm}{a b v w:Tow.El K}{u s:Vn}{p q:V2 K}
theorem Gv.mono(h:Gv G S N n u p)(i:n<=m): Gv G S N m u p:=⟨h.x.mono i,h.y.mono i⟩
theorem Ww.gd(W:Ww G S N)(h:z∈N): ∃v,Gd G S N 1 z v:=let ⟨v,i⟩:=W.n z h;⟨v,.short W.w i h⟩
def VeG(G:Tw K)(S:List (Tow.El K))(N:List Nm)(n:Nat)(p:V2 K)(r:AV): Prop:=∃v:Vn,r=.d (dV v)/\Gv G S N n v p
def VoG(G:Tw K)(S:List (Tow.El K))(N:List Nm)(n:Nat)(p:V2 K)(r:AV): Prop:=∃v:Vn,r=.tup (.pr (.d (dV v)) (.d (.int .i64 0)))/\Gv G S N n v p
theorem R9.Cmp_g(W:Wn G S N)(h:Gd G S N n x v)(i:Gd G S N m y w)(I:n<=190)(M:m<=190): C0 85 [.d (dN x),.d (dN y)] (·=.tup (.pr (.d (.int .i64 (sgn K G (Tow.add K v (Tow.neg K w))))) (.d (.int .i64 0)))):=by
 refine En Tryz.func85 λ_ _ _=>?_
 refine Ca rfl (R9.Sub_g W h i (by omega) (by omega)) λv j=>?_
 obtain⟨z,rfl,o⟩:=j
 exact No rfl (by simp)<|Ce rfl (R9.Sign_g W o (by omega))<|RTt rfl (.cons (.rf rfl) Xbs)
theorem R9.Equal_g(W:Wn G S N)(i:Gd G S N n x v)(j:Gd G S N m y w)(o:n<=190)(I:m<=190): C0 38 [.d (dN x),.d (dN y)] (·=.b (dc (v=w))):=by
 refine En Tryz.func38 λ_ _ _=>?_
 refine Ce rfl (R9.Cmp_g W i j o I)<|Yes rfl (by simp) ?_
 have e:sgn K G (Tow.add K v (Tow.neg K w))=0↔v=w:=by
  rw[Xat W.w.g]
  exact⟨λh=>(Xax K G).sub0 h,λh=>(Xax K G).sb h⟩
 exact R1 rfl (.bp (Xaj.trans e))
theorem R9.Valid_g(W:Wn G S N)(h:Gd G S N n x v)(M:n<=800): C0 174 [.d (dN x)] (·=.b true):=by
 have I:=h.le W
 obtain⟨ρ,i,O⟩:=h.o.ex
 have j:=W.w.t i
 have q2:=W0j (Xpc (r:=gF.R) (p:=gF.R) I) Yo6.q2
 refine En Tryz.func174 λ_ _ _=>?_
 exact Yes rfl (by rw[lt',Xaa];omega)<|Ce rfl (R6.Formed_ok (TS.pt j) (by decide) h.o.p.ps (by unfold gB;omega) (by rw[Xaa];omega) (by rw[Xab,Xaa]))<|Yes rfl rfl<|Ce rfl (R8.Reduced_ok j i.r (by omega) q2 (Yet W h))<|R0
theorem R9.Light_ok{x:Nm}(O:x.k<=16): C0 216 [.d (dN x)] IsB:=by
 obtain⟨k,t,a⟩:=x
 have O:k<=16:=O
 have hp:=p16 O
 have T:=Xab k a
 have U:=Xaa k t
 refine En Tryz.func216 λ_ _ _=>?_
 refine Lo (λi:Nat=>[(1,.ptr 1 0),(3,.d (.int .i64 i))]) (λ_=>[(1,.var (.d (dN ⟨k,t,a⟩)))]) (λi=>i<=2^k) (λi=>2^k-i) 0 [] rfl (W0r _) λi hi=>?_
 refine By rfl (λh=>?_) λh=>?_
 have h:(i:Int)<(((toL k a).map dq).length:Nat):=h
 rw[lq,T] at h
 obtain⟨x,I⟩:=qat (l:=toL k a) (k:=i) (by omega)
 refine Ix i rfl (mp I)<|By rfl (λo=>?_) λo=>?_
 exact Rt rfl (.one (.rf rfl) rfl rfl) ⟨_,rfl⟩
 refine Ix i rfl (mp I)<|By rfl (λV=>?_) λV=>?_
 exact Rt rfl (.one (.rf rfl) rfl rfl) ⟨_,rfl⟩
 refine Ar (i+1:Nat) rfl ?_
 exact Bk (i+1) [] rfl (by omega:i+1<=2^k) (by show 2^k-(i+1)<2^k-i;omega)
 refine Lo (λi:Nat=>[(1,.ptr 1 0),(4,.d (.int .i64 i))]) (λ_=>[(1,.var (.d (dN ⟨k,t,a⟩)))]) (λi=>i<=k) (λi=>k-i) 0 [] rfl (W0r _) λi hi=>?_
 refine By rfl (λh=>?_) λh=>?_
 have h:(i:Int)<(((toT k t).map dqs).length:Nat):=h
 rw[lt',U] at h
 obtain⟨l,M⟩:∃l,(toT k t)[i]?=some l:=⟨_,W0e (by omega)⟩
 obtain⟨e,e1,_,_⟩:=Tw.at (t:=t) (by omega:i<k)
 obtain rfl:l=toL i e:=by rw[M] at e1;injection e1
 have Z:=Xab i e
 have hpi:=p16 (by omega:i<=16)
 refine Lo (λj:Nat=>[(1,.ptr 1 0),(4,.d (.int .i64 i)),(5,.d (.int .i64 j))]) (λ_=>[(1,.var (.d (dN ⟨k,t,a⟩)))]) (λj=>j<=2^i) (λj=>2^i-j) 0 [] rfl (W0r _) λj hj=>?_
 refine Ix i rfl (mp M)<|By rfl (λo=>?_) λo=>?_
 have o:(j:Int)<(((toL i e).map dq).length:Nat):=o
 rw[lq,Z] at o
 obtain⟨x,I⟩:=qat (l:=toL i e) (k:=j) (by omega)
 refine Ix i rfl (mp M)<|Ix j rfl (mp I)<|By rfl (λo=>?_) λo=>?_
 exact Rt rfl (.one (.rf rfl) rfl rfl) ⟨_,rfl⟩
 refine Ix i rfl (mp M)<|Ix j rfl (mp I)<|By rfl (λV=>?_) λV=>?_
 exact Rt rfl (.one (.rf rfl) rfl rfl) ⟨_,rfl⟩
 refine Ar (j+1:Nat) rfl ?_
 exact Bk (j+1) [] rfl (by omega:j+1<=2^i) (by show 2^i-(j+1)<2^i-j;omega)
 refine Ar (i+1:Nat) rfl ?_
 exact Bk (i+1) [] rfl (by omega:i+1<=k) (by show k-(i+1)<k-i;omega)
 exact Rt rfl (.one (.rf rfl) rfl rfl) ⟨_,rfl⟩
theorem R9.All_ok{l:List Nm}(o:∀z∈l,z.k<=16)(O:l.length<=1000): C0 122 [.d (dNs l)] IsB:=by
 refine En Tryz.func122 λ_ _ _=>?_
 refine Lo (λi:Nat=>[(0,.d (dNs l)),(3,.d (.int .i64 i))]) (λ_=>[]) (λi=>i<=l.length) (λi=>l.length-i) 0 [] rfl (W0r _) λi hi=>?_
 refine By rfl (λh=>?_) λh=>?_<;>simp only[W1k] at h
 obtain⟨z,j⟩:∃z,l[i]?=some z:=⟨_,W0e (by omega)⟩
 refine Ix i rfl (mp j)<|Ca rfl (R9.Light_ok (o z (W0h j))) λv I=>?_
 obtain⟨c,rfl⟩:=I
 refine By rfl (λM=>?_) λM=>?_
 exact Rt rfl (.one (.rf rfl) rfl rfl) ⟨_,rfl⟩
 refine Ar (i+1:Nat) rfl ?_
 exact Bk (i+1) [] rfl (by omega:i+1<=l.length) (by show l.length-(i+1)<l.length-i;omega)
 exact Rt rfl (.one (.rf rfl) rfl rfl) ⟨_,rfl⟩
theorem R9.At_ok{l:List Nm}{i:Nat}(hi:i<256)(o:l.length<=1000): C0 123 [.d (dNs l),.d (.int .i64 i)] λv=>∃z∈n00::l,v=.d (dN z):=by
 refine En Tryz.func123 λ_ _ _=>?_
 refine By rfl (λh=>?_) λh=>?_<;>simp only[W1k] at h
 exact Ce rfl (R9.FromInt_ok (z:=0) (by decide))<|Rt rfl (.one (.rf rfl) rfl rfl) ⟨_,W0w ..,rfl⟩
 refine No rfl (by omega) ?_
 obtain⟨z,j⟩:∃z,l[i%l.length]?=some z:=⟨_,W0e (W2o _ (by omega))⟩
 refine Ar (i%l.length:Nat) rfl ?_ (by rw[W1k];exact R9.remN (by omega))
 exact Ix (i%l.length) rfl (mp j)<|Rt rfl (.one (.rf rfl) rfl rfl) ⟨z,W1c _ (W0h j),rfl⟩
end
end
section
section
variable{K:Nat}{G:Tw K}{S:List (Tow.El K)}{N:List Nm}{n m:Nat}{x y z:Nm}{a b:Tow.El K}{u s:Vn}{p q:V2 K}
theorem R13.Left_g(W:Wn G S N)(h:Gv G S N n u p)(i:n<=400): C0 364 [.d (dV u)] (VeG G S N n (neg K p.2,p.1)):=by
 refine En Tryz.func364 λ_ _ _=>?_
 refine Dw rfl<|Ca rfl (R9.Neg_g W h.y i) λv j=>?_
 obtain⟨z,rfl,o⟩:=j
 exact Rt rfl (.one (.rf rfl) rfl rfl) ⟨⟨z,u.x⟩,rfl,o,h.x⟩
theorem R13.Dot_g(W:Wn G S N)(i:Gv G S N n u p)(j:Gv G S N m s q)(o:n<=400)(I:m<=400)(M:n+m<=400): C0 363 [.d (dV u),.d (dV s)] (OpG G S N (n+m+(n+m)) (Xmv G p q)):=by
 refine En Tryz.func363 λ_ _ _=>?_
 refine Ca rfl (R9.Mul_g W i.x j.x o I) λv h=>?_
 obtain⟨z,rfl,O⟩:=h
 refine Ca rfl (R9.Mul_g W i.y j.y o I) λv h=>?_
 obtain⟨w,rfl,T⟩:=h
 refine No rfl (by simp)<|No rfl (by simp)<|Ca rfl (R9.Add_g W O T M M) λv h=>?_
 obtain⟨r,rfl,U⟩:=h
 exact Rt rfl (.tup (.cons (.rf rfl) Xbs)) ⟨r,rfl,U⟩
theorem R13.Cross_g(W:Wn G S N)(j:Gv G S N n u p)(o:Gv G S N m s q)(i:n<=400)(I:m<=400)(M:n+m<=400): C0 334 [.d (dV u),.d (dV s)] (OpG G S N (n+m+(n+m)) (Xa3 G p q)):=by
 refine En Tryz.func334 λ_ _ _=>?_
 refine Dw rfl<|Ca rfl (R13.Left_g W j i) λv h=>?_
 obtain⟨r,rfl,O⟩:=h
 refine Ca rfl (R13.Dot_g W O o i I M) λv h=>?_
 obtain⟨z,rfl,T⟩:=h
 exact Rt rfl (.tup (.cons (.rf rfl) Xbs)) ⟨z,rfl,T⟩
theorem R13.Zero_g(W:Wn G S N)(j:Gv G S N n u p)(o:n<=800): C0 59 [.d (dV u)] (·=.b (dc (p=vz K))):=by
 refine En Tryz.func59 λ_ _ _=>?_
 refine Ce rfl (R9.Sign_g W j.x o)<|By rfl (λh=>?_) λh=>?_
 exact Ce rfl (R9.Sign_g W j.y o)<|R1 rfl (.bp (Xaj.trans ⟨λi=>(Xhm W.w.g).2 ⟨h,i⟩,λi=>((Xhm W.w.g).1 i).2⟩))
 exact R1 rfl (.bp ⟨nofun,λi=>absurd ((Xhm W.w.g).1 i).1 h⟩)
theorem R13.Valid_g(W:Wn G S N)(h:Gv G S N n u p)(i:n<=800): C0 86 [.d (dV u)] (·=.b true):=by
 refine En Tryz.func86 λ_ _ _=>?_
 exact Ce rfl (R9.Valid_g W h.x i)<|Yes rfl rfl<|Ce rfl (R9.Valid_g W h.y i)<|R0
theorem R13.Make_ok{i j:Rat}: C0 71 [.d (dq i),.d (dq j)] (·=.d (dV ⟨⟨0,(),i⟩,⟨0,(),j⟩⟩)):=by
 refine En Tryz.func71 λ_ _ _=>?_
 exact Dw rfl<|Ce rfl R9.FromRat_ok<|Ce rfl R9.FromRat_ok<|R0
theorem R13.Whole_ok{i j:Int}(hi:-9223372036854775808<=i/\i<9223372036854775808)(h:-9223372036854775808<=j/\j<9223372036854775808): C0 24 [.d (.int .i64 i),.d (.int .i64 j)] (·=.d (dV ⟨⟨0,(),(i:Rat)⟩,⟨0,(),(j:Rat)⟩⟩)):=by
 refine En Tryz.func24 λ_ _ _=>?_
 exact Ce rfl (R2.FromInt_ok hi)<|Ce rfl (R2.FromInt_ok h)<|Ce rfl R13.Make_ok<|R0
abbrev cal: Ob:=.var (.d (.st (.int .i64 0)))
theorem R15.note_ok: CN0 362 [.ptr 1000001 0,.d (.int .i64 0)] [(1000001,cal)] (λ_=>True):=by
 refine EnW Tryz.func362 λ_ _ _ _=>?_
 exact Yes rfl (by decide)<|Rw [] [(1000001,cal)] rfl (.tup (.one (.rf rfl) (λ_ _ e=>by cases e) (λ_ _ e=>by cases e))) ⟨rfl,trivial⟩
theorem R15.num_ok{x:Nm}: CN0 333 [.ptr 1000001 0,.d (dN x),.d (.int .i64 0)] [(1000001,cal)] (·=.d (dN x)):=by
 refine EnW Tryz.func333 λ_ _ _ _=>?_
 refine Cn [] rfl R15.note_ok λv h=>?_
 exact No rfl (by decide)<|Rw [] [(1000001,cal)] rfl (.one (.rf rfl) rfl rfl) ⟨rfl,rfl⟩
theorem R15.Cross_g(W:Wn G S N)(i:Gv G S N n u p)(j:Gv G S N m s q)(o:n<=400)(I:m<=400)(M:n+m<=400): CN0 267 [.ptr 1000001 0,.d (dV u),.d (dV s)] [(1000001,cal)] (OnG G S N (n+m+(n+m)) (Xa3 G p q)):=by
 refine EnW Tryz.func267 λ_ _ _ _=>?_
 refine Ca rfl (R13.Cross_g W i j o I M) λv h=>?_
 obtain⟨z,rfl,O⟩:=h
 refine Cn [] rfl R15.num_ok λv h=>?_
 subst h
 exact Rw [] [(1000001,cal)] rfl (.one (.rf rfl) rfl rfl) ⟨rfl,z,rfl,O⟩
end
end
section
abbrev dT(v:Vn)(f:Int): D:=.st (.pr (dV v) (.int .i64 f))
abbrev dT0: D:=.st (.pr (.st (.pr R9.n0 R9.n0)) (.int .i64 0))
theorem Yll{g:Hp}{K:Hpl}: Fit g K (.st (.pr (.st (.pr (.st (.pr .nil .nil)) (.st (.pr .nil .nil)))) (.d (.int .i64 0)))) (.d dT0):=.sd (.pd (.sd (.pd R9.fit0 R9.fit0)) (.rf rfl))
def lim(f:Int): Prop:=-1000000<=f/\f<=1000000
instance {f:Int}:Decidable (lim f):=by unfold lim;infer_instance
def few(f:Int): Prop:=-1000000000<=f/\f<=1000000000
theorem lim.few{f:Int}(h:lim f): few f:=by unfold lim at h;unfold Proofs.YtnedfplmoojbaaaGreatDoor.few;omega
def Ym8{K:Nat}(G:Tw K)(p q:V2 K)(f g:Int): Int:=if f<g then -1 else if f>g then 1 else Xhy G p q
section
variable{K:Nat}{G:Tw K}{S:List (Tow.El K)}{N:List Nm}{n m:Nat}{x y z:Nm}{a b:Tow.El K}{u s:Vn}{p q:V2 K}{f g:Int}
def TuG(G:Tw K)(S:List (Tow.El K))(N:List Nm)(n:Nat)(p:V2 K)(f:Int)(r:AV): Prop:=(lim f/\∃v,r=.tup (.pr (.d (dT v f)) (.d (.int .i64 0)))/\Gv G S N n v p)\/(¬lim f/\r=.tup (.pr (.d dT0) (.d (.int .i64 3))))
theorem R19.Valid_g(W:Wn G S N)(o:Gv G S N n u p)(I:n<=800): C0 20 [.d (dT u f)] (·=.b (dc (p≠vz K/\lim f))):=by
 refine En Tryz.func20 λ_ _ _=>?_
 refine Ce rfl (R13.Zero_g W o I)<|By rfl (λh=>?_) λh=>?_
 have h:p≠vz K:=by simpa [Xas,Xaj] using h
 refine By rfl (λj=>?_) λj=>?_
 exact R1 rfl (.bp (Xaj.trans ⟨λi=>⟨h,j,i⟩,λi=>i.2.2⟩))
 exact R1 rfl (.bp ⟨nofun,λi=>absurd i.2.1 j⟩)
 have h:p=vz K:=by simpa [Xas,Xaj] using h
 exact R1 rfl (.bp ⟨nofun,λi=>absurd h i.1⟩)
theorem R19.half_g(W:Wn G S N)(o:Gv G S N n u p)(I:n<=800): C0 266 [.d (dV u)] (·=.d (.int .i64 (if vup G p then 0 else 1))):=by
 refine En Tryz.func266 λ_ _ _=>?_
 refine Ce rfl (R9.Sign_g W o.y I)<|By rfl (λh=>?_) λh=>?_
 rw[if_pos (show vup G p from .inl h)];exact R0
 refine By rfl (λi=>?_) λi=>?_
 refine Ce rfl (R9.Sign_g W o.x I)<|By rfl (λj=>?_) λj=>?_
 rw[if_pos (show vup G p from .inr ⟨i,j⟩)];exact R0
 rw[if_neg (show ¬vup G p from λe=>e.elim h λe=>j e.2)];exact R0
 rw[if_neg (show ¬vup G p from λe=>e.elim h λe=>i e.1)];exact R0
theorem R19.order_g(W:Wn G S N)(j:Gv G S N n u p)(o:Gv G S N m s q)(M:n<=400)(O:m<=400)(i:n+m<=400): CN0 175 [.ptr 1000001 0,.d (dV u),.d (dV s)] [(1000001,cal)] (·=.d (.int .i64 (Xhy G p q))):=by
 refine EnW Tryz.func175 λ_ _ _ _=>?_
 refine Dw rfl<|Ce rfl (R19.half_g W j (by omega))<|Ce rfl (R19.half_g W o (by omega))<|By rfl (λh=>?_) λh=>?_
 refine Dw rfl<|Ce rfl (R19.half_g W j (by omega))<|Ce rfl (R19.half_g W o (by omega))<|Ar (Xhy G p q) rfl ?_ (by
  unfold Xhy
  by_cases I:vup G p<;>by_cases i:vup G q<;>simp[I,i] at h |-<;>rfl)
 exact Rw [] [(1000001,cal)] rfl (.one (.rf rfl) rfl rfl) ⟨rfl,rfl⟩
 refine Cn [] rfl (R15.Cross_g W j o M O i) λv T=>?_
 obtain⟨z,rfl,U⟩:=T
 refine Ce rfl (R9.Sign_g W U (by omega)) ?_
 have hi:vup G p↔vup G q:=by
  by_cases I:vup G p<;>by_cases i:vup G q<;>simp[I,i] at h |-
 have V:=Xco G (Xa3 G p q)
 refine Ne (Xhy G p q) rfl ?_ (by
  unfold Xhy
  rw[if_pos hi]
  exact wr (Int.zero_sub _) (by simp only[inK];omega))
 exact Rw [] [(1000001,cal)] rfl (.one (.rf rfl) rfl rfl) ⟨rfl,rfl⟩
theorem R19.Cmp_g(W:Wn G S N)(i:Gv G S N n u p)(j:Gv G S N m s q)(o:n+m<=400): C0 87 [.d (dT u f),.d (dT s g)] (·=.tup (.pr (.d (.int .i64 (Ym8 G p q f g))) (.d (.int .i64 0)))):=by
 refine En Tryz.func87 λ_ _ _=>?_
 unfold Ym8
 refine By rfl (λh=>?_) λh=>?_
 rw[if_pos h];exact RTt rfl (.cons (.rf rfl) Xbs)
 rw[if_neg h]
 refine By rfl (λh=>?_) λh=>?_
 rw[if_pos h];exact RTt rfl (.cons (.rf rfl) Xbs)
 rw[if_neg h]
 refine Cn [(1000001,19)] rfl (R19.order_g W i j (by omega) (by omega) o) λv I=>?_
 subst I
 exact No rfl (by decide)<|RTt rfl (.cons (.rf rfl) Xbs)
def Xzf(G:Tw K)(p q:V2 K)(f g:Int): Prop:=(p≠vz K/\lim f)/\(q≠vz K/\lim g)/\Ym8 G p q f g=0
theorem R19.Same_g(W:Wn G S N)(j:Gv G S N n u p)(o:Gv G S N m s q)(M:n+m<=400): C0 39 [.d (dT u f),.d (dT s g)] (·=.b (dc (Xzf G p q f g))):=by
 refine En Tryz.func39 λ_ _ _=>?_
 refine Ce rfl (R13.Valid_g W j (by omega))<|No rfl (by simp)<|Ce rfl (R13.Valid_g W o (by omega))<|No rfl (by simp)<|Ce rfl (R19.Valid_g W j (by omega))<|By rfl (λh=>?_) λh=>?_
 have h:¬(p≠vz K/\lim f):=by simpa [Xas,Xaj] using h
 exact R1 rfl (.bp ⟨nofun,λe=>absurd e.1 h⟩)
 have h:p≠vz K/\lim f:=by simpa [Xas,Xaj] using h
 refine Ce rfl (R19.Valid_g W o (by omega))<|By rfl (λi=>?_) λi=>?_
 have i:¬(q≠vz K/\lim g):=by simpa [Xas,Xaj] using i
 exact R1 rfl (.bp ⟨nofun,λe=>absurd e.2.1 i⟩)
 have i:q≠vz K/\lim g:=by simpa [Xas,Xaj] using i
 refine Ce rfl (R19.Cmp_g W j o M)<|By rfl (λI=>?_) λI=>?_
 exact R1 rfl (.bp ⟨λ_=>⟨h,i,I⟩,λ_=>Xaj.2 rfl⟩)
 exact R1 rfl (.bp ⟨nofun,λe=>absurd e.2.2 I⟩)
end
end
open Go Go.Vm Go.Num Go.Tow
section
variable{K:Nat}{G:Tw K}{S:List (Tow.El K)}{N:List Nm}{n m:Nat}{x y z:Nm}{a b:Tow.El K}{u s:Vn}{p q:V2 K}{f g:Int}
namespace P13
theorem Ybm(W:Wn G S N)(i:Gv G S N n u p)(j:Gv G S N m s q)(o:n<=400)(I:m<=400): C0 257 [.d (dV u),.d (dV s),.d (fnD 41)] (VoG G S N (n+m) (Tow.mul K G p.1 q.1,Tow.mul K G p.2 q.2)):=by
 refine En Tryz.func257 λ_ _ _=>?_
 refine Ca rfl (P9.Mul_g W i.x j.x o I) λv h=>?_
 obtain⟨z,rfl,M⟩:=h
 refine No rfl (by simp)<|Ca rfl (P9.Mul_g W i.y j.y o I) λv h=>?_
 obtain⟨w,rfl,O⟩:=h
 exact No rfl (by simp)<|Rt rfl (.tup (.cons (.rf rfl) Xbs)) ⟨⟨z,w⟩,rfl,M,O⟩
theorem Ybb(W:Wn G S N)(o:Gd G S N n x a)(i:n<=400): C0 330 [.d (dN x)] (OnG G S N n a):=by
 refine En Tryz.func330 λ_ _ _=>?_
 refine Ca rfl (P9.Neg_g W o i) λv h=>?_
 obtain⟨z,rfl,I⟩:=h
 refine Ca rfl (P9.Neg_g W I i) λv h=>?_
 obtain⟨w,rfl,j⟩:=h
 rw[(Xax K G).nn] at j
 exact Rt rfl (.one (.rf rfl) rfl rfl) ⟨w,rfl,j⟩
theorem Left_g(W:Wn G S N)(i:Gv G S N n u p)(j:n<=400): C0 258 [.d (dV u)] (VeG G S N n (neg K p.2,p.1)):=by
 refine En Tryz.func258 λ_ _ _=>?_
 refine Dw rfl<|Ca rfl (P9.Neg_g W i.y j) λv h=>?_
 obtain⟨z,rfl,o⟩:=h
 refine Ca rfl (Ybb W i.x j) λv h=>?_
 obtain⟨w,rfl,I⟩:=h
 exact Rt rfl (.one (.rf rfl) rfl rfl) ⟨⟨z,w⟩,rfl,o,I⟩
theorem Dot_g(W:Wn G S N)(o:Gv G S N n u p)(I:Gv G S N m s q)(M:n<=400)(O:m<=400)(i:n+m<=400): C0 160 [.d (dV u),.d (dV s)] (OpG G S N (n+m+(n+m)) (Xmv G p q)):=by
 refine En Tryz.func160 λ_ _ _=>?_
 refine Ca rfl (Ybm W o I M O) λv h=>?_
 obtain⟨r,rfl,j⟩:=h
 refine No rfl (by simp)<|Ca rfl (P9.Add_g W j.x j.y i i) λv h=>?_
 obtain⟨z,rfl,T⟩:=h
 exact Rt rfl (.tup (.cons (.rf rfl) Xbs)) ⟨z,rfl,T⟩
theorem Cross_g(W:Wn G S N)(j:Gv G S N n u p)(o:Gv G S N m s q)(i:n<=400)(I:m<=400)(M:n+m<=400): C0 161 [.d (dV u),.d (dV s)] (OpG G S N (n+m+(n+m)) (Xa3 G p q)):=by
 refine En Tryz.func161 λ_ _ _=>?_
 refine Dw rfl<|Ca rfl (Left_g W j i) λv h=>?_
 obtain⟨r,rfl,O⟩:=h
 refine Ca rfl (Dot_g W O o i I M) λv h=>?_
 obtain⟨z,rfl,T⟩:=h
 exact Rt rfl (.tup (.cons (.rf rfl) Xbs)) ⟨z,rfl,T⟩
end P13
namespace P19
theorem Xtq(W:Wn G S N)(i:Gv G S N n u p)(o:Gv G S N m s q)(I:n+m<=400): C0 77 [.d (dV u),.d (dV s)] (VoG G S N (n+m+(n+m)) (Xaz G p q)):=by
 refine En Tryz.func77 λ_ _ _=>?_
 refine Dw rfl<|Ca rfl (P9.Neg_g W i.y (by omega)) λv h=>?_
 obtain⟨z,rfl,O⟩:=h
 refine Ca rfl (P13.Dot_g (u:=⟨u.x,z⟩) (p:=Xcx p) W ⟨i.x,O⟩ o (by omega) (by omega) I) λv h=>?_
 obtain⟨d,rfl,hd⟩:=h
 rw[Yiq] at hd
 refine No rfl (by simp)<|Dw rfl<|Ca rfl (P9.Neg_g W i.y (by omega)) λv h=>?_
 obtain⟨T,rfl,j⟩:=h
 refine Ca rfl (P13.Cross_g (u:=⟨u.x,T⟩) (p:=Xcx p) W ⟨i.x,j⟩ o (by omega) (by omega) I) λv h=>?_
 obtain⟨c,rfl,M⟩:=h
 rw[Yip] at M
 exact No rfl (by simp)<|Rt rfl (.tup (.cons (.rf rfl) Xbs)) ⟨⟨d,c⟩,rfl,hd,M⟩
theorem Xuq(W:Wn G S N)(o:Gv G S N n u p)(I:n<=800): C0 162 [.d (dV u)] (·=.b (dc (vup G p))):=by
 refine En Tryz.func162 λ_ _ _=>?_
 refine Ce rfl (P9.Sign_g W o.y I)<|By rfl (λh=>?_) λh=>?_
 exact R1 rfl (.bp ⟨λ_=>.inl h,λ_=>rfl⟩)
 refine By rfl (λj=>?_) λj=>?_
 exact Ce rfl (P9.Sign_g W o.x I)<|R1 rfl (.bp (Xaj.trans ⟨λi=>.inr ⟨j,i⟩,λi=>i.elim (λe=>absurd e h) λe=>e.2⟩))
 exact R1 rfl (.bp ⟨nofun,λi=>i.elim (λe=>absurd e h) λe=>absurd e.1 j⟩)
theorem Yd0(W:Wn G S N)(j:Gv G S N n u p)(o:n<=800): C0 76 [.d (dV u)] (·=.b (dc (Xa5 G p))):=by
 refine En Tryz.func76 λ_ _ _=>?_
 refine Ce rfl (P9.Sign_g W j.y o)<|By rfl (λh=>?_) λh=>?_
 exact Ce rfl (P9.Sign_g W j.x o)<|R1 rfl (.bp (Xaj.trans ⟨λi=>⟨h,i⟩,λi=>i.2⟩))
 exact R1 rfl (.bp ⟨nofun,λi=>absurd i.1 h⟩)
theorem Xx2(W:Wn G S N)(o:Gv G S N n u p)(I:Gv G S N m s q)(j:n+m<=400): C0 78 [.d (dV u),.d (dV s)] (·=.tup (.pr (.d (.int .i64 (Xhy G p q))) (.d (.int .i64 0)))):=by
 refine En Tryz.func78 λ_ _ _=>?_
 refine Dw rfl<|Ce rfl (Xuq W o (by omega))<|Ce rfl (Xuq W I (by omega)) ?_
 unfold Xhy
 refine By rfl (λh=>?_) λh=>?_
 refine By rfl (λi=>?_) λi=>?_
 rw[if_neg (by simp[Xaj,i] at h |-;exact h),if_pos i]
 exact RTt rfl (.cons (.rf rfl) Xbs)
 rw[if_neg (by simp[Xaj,i] at h |-;exact h),if_neg i]
 exact RTt rfl (.cons (.rf rfl) Xbs)
 have M:dc True=true:=Xaj.2 trivial
 have d2:dc False=false:=W6e.2 λh=>Xaj.1 h
 have h:vup G p↔vup G q:=by
  by_cases i:vup G p<;>by_cases j:vup G q<;>simp[i,j,M,d2] at h |-
 rw[if_pos h]
 refine Ca rfl (P13.Cross_g W o I (by omega) (by omega) j) λv O=>?_
 obtain⟨z,rfl,T⟩:=O
 refine Ce rfl (P9.Sign_g W T (by omega)) ?_
 have U:=Xco G (Xa3 G p q)
 refine Ne (-sgn K G (Xa3 G p q)) rfl ?_ (wr (Int.zero_sub _) (by simp only[inK];omega))
 exact RTt rfl (.cons (.rf rfl) Xbs)
theorem add_g(W:Wn G S N)(i:Gv G S N n u p)(j:Gv G S N m s q)(o:n+m+(n+m)+n<=400)(hf:few f)(I:few g): C0 34 [.d (dT u f),.d (dT s g)] (λr=>∃v,r=.tup (.pr (.d (dT v (Xcm G p q f g))) (.d (.int .i64 0)))/\Gv G S N (n+m+(n+m)) v (Xaz G p q)):=by
 unfold few at hf I
 refine En Tryz.func34 λ_ _ _=>?_
 refine Ca rfl (Xtq W i j (by omega)) λv M=>?_
 obtain⟨d,rfl,hd⟩:=M
 refine No rfl (by simp)<|Ce rfl (Xx2 W hd i o)<|No rfl (by simp)<|Ar (f+g) rfl ?_ (wr rfl (by simp only[inK];omega))
 refine By rfl (λh=>?_) λh=>?_
 refine Ar (f+g+1) rfl ?_ (wr rfl (by simp only[inK];omega))
 exact Rt rfl (.tup (.cons (.rf rfl) Xbs)) ⟨d,by rw[Xcm,if_pos h],hd⟩
 exact Rt rfl (.tup (.cons (.rf rfl) Xbs)) ⟨d,by rw[Xcm,if_neg h],hd⟩
theorem limited_g(j:Gv G S N n u p): C0 33 [.d (dT u f),.d (.int .i64 0)] (TuG G S N n p f):=by
 refine En Tryz.func33 λ_ _ _=>?_
 refine Yes rfl (by decide)<|By rfl (λh=>?_) λh=>?_
 exact Yes rfl (by decide)<|Rt rfl (.tup (.cons Yll Xbs)) (.inr ⟨λi=>by unfold lim at i;omega,rfl⟩)
 refine By rfl (λi=>?_) λi=>?_
 exact Yes rfl (by decide)<|Rt rfl (.tup (.cons Yll Xbs)) (.inr ⟨λi=>by unfold lim at i;omega,rfl⟩)
 exact No rfl (by decide)<|Rt rfl (.tup (.cons (.rf rfl) Xbs)) (.inl ⟨by unfold lim;omega,u,rfl,j⟩)
theorem Add_g(W:Wn G S N)(j:Gv G S N n u p)(o:Gv G S N m s q)(I:n+m+(n+m)+n<=400)(hf:few f)(M:few g): C0 8 [.d (dT u f),.d (dT s g)] (TuG G S N (n+m+(n+m)) (Xaz G p q) (Xcm G p q f g)):=by
 refine En Tryz.func8 λ_ _ _=>?_
 refine Ca rfl (add_g W j o I hf M) λv h=>?_
 obtain⟨d,rfl,hd⟩:=h
 refine Ca rfl (limited_g hd) λv h=>?_
 rcases h with ⟨i,w,rfl,O⟩ | ⟨i,rfl⟩
 exact Rt rfl (.tup (.cons (.rf rfl) Xbs)) (.inl ⟨i,w,rfl,O⟩)
 exact Rt rfl (.tup (.cons (.rf rfl) Xbs)) (.inr ⟨i,rfl⟩)
theorem Zero_g(W:Wn G S N)(j:Gv G S N n u p)(o:n<=800): C0 31 [.d (dT u f)] (·=.b (dc (f=0/\Xa5 G p))):=by
 refine En Tryz.func31 λ_ _ _=>?_
 refine By rfl (λh=>?_) λh=>?_
 exact Ce rfl (Yd0 W j o)<|R1 rfl (.bp (Xaj.trans ⟨λi=>⟨h,i⟩,λi=>i.2⟩))
 exact R1 rfl (.bp ⟨nofun,λi=>absurd i.1 h⟩)
def vopp(G:Tw K)(p:V2 K)(f:Int): Int:=if Xa5 G p then -f else -f-1
end P19
end
end Go.Proofs.YtnedfplmoojbaaaGreatDoor
namespace Go.Vm
open Go
section
variable{c:Cx}{s:St}{p:Pl}
noncomputable def Yq1(tb:Nat->Option TI)(n:Nat)(s:St): Option (Pl×Nat×Nat×Int×Nat×Nat):=match nxA tb n s with
 | some (p,o,[.ptr q off,.d (.int _ j)])=>match o.op with
  | .indexAddr T _ _=>match tb T with
   | some ⟨.st _,e,_,h⟩=>some (p,q,off,j,e.size,h)
   | _=>none
  | _=>none
 | _=>none
theorem Ia(i:Nat){q off sz I:Nat}{j:Int}(h:Yq1 c.tb c.n s=some (p,q,off,j,sz,I))(hi:i<I)(O:p.nx c (.ptr q (off+i*sz)))(U:j=(i:Int):=by first | exact rfl | omega): StP c s:=by
 subst U
 unfold Yq1 at h
 split at h<;>try cases h
 rename_i p' o q1 M k1 j1 V
 split at h<;>try cases h
 rename_i T x y Z
 split at h<;>try cases h
 rename_i z e eb ht
 refine Xbl (v:=.ptr q (off+i*e.size)) (us:=[]) V ?_ (Pl.nx_nil O)
 rw[Z]
 simp[F,Fp,ht,hi]
end
end Go.Vm
namespace Go.Proofs.YtnedfplmoojbaaaGreatDoor
open Go Go.Vm Go.Num Go.Tow
section
abbrev dAt(l:List (Fin 256)): D:=.sl 1 (l.map λn=>.int .u8 n.val)
abbrev dPl(h:List RO)(l:List (Fin 256)): D:=.st (.pr (dRs h) (dAt l))
def InW(P:∀ {K:Nat},Tw K->List (Tow.El K)->List Nm->Prop): Prop:=∃(K:Nat) (G:Tw K) (S:List (Tow.El K)) (N:List Nm),Ww G S N/\P G S N
def PtR(v:AV): Prop:=v=.tup (.pr (.d (dVs [])) (.b false))\/∃l:List Vn,v=.tup (.pr (.d (dVs l)) (.b true))/\l.length<=24/\InW λ_ _ N=>∀x∈l,x.x∈N/\x.y∈N
theorem Xgr{c:Bool}{g:Hp}{K:Hpl}: FitT g K (.b c) (.b c):=.one (.rf rfl) (λ_ _ e=>by cases e) (λ_ _ e=>by cases e)
theorem Xyv{M:List RO}{at':List (Fin 256)}: C0 58 [.d (dPl M at')] PtR:=by
 refine En Tryz.func58 λ_ _ _=>?_
 refine Ca rfl R9.Build_ok λv o=>?_
 obtain⟨l,rfl,hl24,U,K,G,S,hG,hS,hq,I,_⟩:=o
 have hk:∀z∈l,z.k<=16:=λz j=>by
  obtain⟨v,o⟩:=I z j
  exact W0j (o.le (Xad hG) hS) (by decide)
 refine Ca rfl (R9.All_ok hk (by omega)) λv o=>?_
 obtain⟨c,rfl⟩:=o
 refine By rfl (λh=>?_) λh=>?_
 exact Rt rfl (.tup (.cons (.nil rfl) Xgr)) (.inl rfl)
 refine By rfl (λO=>?_) λO=>?_
 exact Rt rfl (.tup (.cons (.nil rfl) Xgr)) (.inl rfl)
 have O:¬((at'.map λn=>(D.int .u8 n.val:D)).length:Int)>24:=O
 rw[W1k] at O
 refine Nl 5 5 4 rfl ?_
 refine Lo (λ(s:Nat×List Vn)=>[(1,.ptr 1 0),(4,.d (dNs l)),(5,.gr 5 4 (s.2.map dV)),(6,.d (.int .i64 s.1))]) (λs=>[(1,.var (.d (dPl M at'))),(5,.tok (s.2.map dV).length 4)]) (λs=>s.1<=24/\s.2.length<=s.1/\∀x∈s.2,x.x∈n00::l/\x.y∈n00::l) (λs=>24-s.1) (0,[]) [] rfl ⟨W0r _,W0a _,λx V=>nomatch V⟩ (λ(i,vs) ⟨hi,o,Z⟩=>?_)
 simp only at hi o Z
 refine Ar (i+1:Nat) rfl ?_
 refine By rfl (λT=>?_) λT=>?_
 have T:((i+1:Nat):Int)<((at'.map λn=>(D.int .u8 n.val:D)).length:Nat):=T
 rw[W1k] at T
 obtain⟨a,ha⟩:∃a,at'[i]?=some a:=⟨_,W0e (by omega)⟩
 obtain⟨b,hb⟩:∃b,at'[i+1]?=some b:=⟨_,W0e (by omega)⟩
 refine Dw rfl<|Ix i rfl (mp (f:=λn:Fin 256=>(D.int .u8 n.val:D)) ha)<|Go.Vm.Cv (a.val:Nat) rfl ?_ (wI (by omega))
 refine Ca rfl (R9.At_ok a.isLt (by omega)) λv o=>?_
 obtain⟨x,V,rfl⟩:=o
 refine Ar (i+1:Nat) rfl ?_
 refine Ix (i+1) rfl (mp (f:=λn:Fin 256=>(D.int .u8 n.val:D)) hb)<|Go.Vm.Cv (b.val:Nat) rfl ?_ (wI (by omega))
 refine Ca rfl (R9.At_ok b.isLt (by omega)) λv o=>?_
 obtain⟨y,hy,rfl⟩:=o
 refine ApG ((vs++[(⟨x,y⟩:Vn)]).map dV) rfl (by simp) (by simp;omega) ?_
 refine Ar (i+2:Nat) rfl ?_
 refine Bk (i+2,vs++[(⟨x,y⟩:Vn)]) [(47,5)] rfl ⟨by show i+2<=24;omega,by simp;omega,λz j=>?_⟩ (by show 24-(i+2)<24-i;omega)
 rcases W2p.1 j with j | j
 exact Z z j
 obtain rfl:=W0g.1 j
 exact⟨V,hy⟩
 refine Rt rfl (.tup (.cons (.gr rfl) Xgr)) (.inr ⟨vs,rfl,by omega,K,G,S,n00::l,⟨⟨hq.wd hG hS,λz j=>?_⟩,λz j=>?_,λz j=>?_⟩,Z⟩)
 rcases W1s.1 j with rfl | j
 exact⟨λ_=>zero _,⟨trivial,trivial,λi hi=>absurd hi (W3t _)⟩⟩
 obtain⟨v,o⟩:=I z j
 obtain⟨ρ,h1,_⟩:=o.ex
 exact⟨ρ,h1⟩
 rcases W1s.1 j with rfl | j
 exact⟨rat K ((0:Int):Rat),⟨λ_=>zero _,⟨trivial,trivial,λi hi=>absurd hi (W3t _)⟩,rfl⟩,trivial,(Sz.rat 0 (x:=((0:Int):Rat)) (p:=1) ⟨show ((0:Int):Rat).num.natAbs<2^1 by decide +kernel,show (((0:Int):Rat).den:Int).natAbs<2^1 by decide +kernel⟩).mono (by decide)⟩
 exact I z j
 rcases W1s.1 j with rfl | j
 exact λi hi=>absurd hi (W3t _)
 exact U z j
def SvR(n:Nat)(v:AV): Prop:=∃(l:List Vn) (c:Bool),v=.tup (.pr (.d (dVs l)) (.b c))/\(c=true->n<=l.length/\InW λ_ _ N=>∀x∈l,x.x∈N/\x.y∈N)
theorem Xt6{i:List RO}{at':List (Fin 256)}{n:Nat}: C0 19 [.d (dPl i at'),.d (.int .i64 n)] (SvR n):=by
 refine En Tryz.func19 λ_ _ _=>?_
 refine Ca rfl Xyv λv j=>?_
 rcases j with rfl | ⟨l,rfl,I,o⟩
 exact No rfl (by decide)<|Rt rfl (.tup (.cons (.rf rfl) Xgr)) ⟨[],false,rfl,λh=>nomatch h⟩
 refine Yes rfl rfl<|Rt rfl (.tup (.cons (.rf rfl) Xgr)) ⟨l,_,rfl,λh=>⟨?_,o⟩⟩
 have h:(((l.map dV).length:Nat):Int)>=n:=Xaj.1 h
 rw[W1k] at h
 omega
abbrev dCs(h:List RO)(l:List (Fin 256))(a b c:Int): D:=.st (.pr (dPl h l) (.st (.pr (.int .i64 a) (.pr (.int .i64 b) (.int .i64 c)))))
abbrev dTs(l:List (Vn×Int)): D:=.sl 5 (l.map λx=>dT x.1 x.2)
def TsR(n:Nat)(v:AV): Prop:=(∃l,v=.tup (.pr (.d (dTs l)) (.b false)))\/∃l:List (Vn×Int),v=.tup (.pr (.d (dTs l)) (.b true))/\l.length=n/\InW λ{K} G S N=>∀x∈l,x.1.x∈N/\x.1.y∈N/\lim x.2/\∃p:V2 K,Gv G S N 1 x.1 p/\p≠vz K
theorem Ww.gv{K:Nat}{G:Tw K}{S:List (Tow.El K)}{N:List Nm}{x:Vn}(W:Ww G S N)(h:x.x∈N/\x.y∈N): ∃p:V2 K,Gv G S N 1 x p:=by
 obtain⟨a,ha⟩:=W.gd h.1
 obtain⟨b,hb⟩:=W.gd h.2
 exact⟨(a,b),ha,hb⟩
theorem Yb1{U:List RO}{at':List (Fin 256)}{a b c:Int}{n:Nat}(hn:n<=3): C0 4 [.d (dCs U at' a b c),.d (.int .i64 n)] (TsR n):=by
 refine En Tryz.func4 λ_ _ _=>?_
 refine Ca rfl (Xt6 (n:=n)) λv M=>?_
 obtain⟨l,c',rfl,hc⟩:=M
 refine By rfl (λh=>?_) λh=>?_
 exact Rt rfl (.tup (.cons (.nil rfl) Xgr)) (.inl ⟨[],rfl⟩)
 have h:c'=true:=by simpa using h
 obtain⟨hl,K,G,S,N,W,hm⟩:=hc h
 refine Nl 8 8 5 rfl ?_
 refine Lo (λ(s:Nat×List (Vn×Int))=>[(1,.d (.int .i64 n)),(2,.ptr 2 0),(6,.d (dVs l)),(8,.gr 8 5 (s.2.map λx=>dT x.1 x.2)),(9,.d (.int .i64 s.1))]) (λs=>[(2,.var (.d (dCs U at' a b c))),(8,.tok (s.2.map λx=>dT x.1 x.2).length 5)]) (λs=>s.1<=n/\s.2.length=s.1/\∀x∈s.2,x.1.x∈N/\x.1.y∈N/\lim x.2/\∃p:V2 K,Gv G S N 1 x.1 p/\p≠vz K) (λs=>n-s.1) (0,[]) [] rfl ⟨W0r _,rfl,λx hx=>nomatch hx⟩ (λ(i,T) ⟨hi,M,O⟩=>?_)
 simp only at hi M O
 refine By rfl (λh3=>?_) λh3=>?_
 obtain⟨u,V⟩:∃u,l[i]?=some u:=⟨_,W0e (by omega)⟩
 have I:=hm u (W0h V)
 obtain⟨p,hp⟩:=W.gv I
 have Z:i=0\/i=1\/i=2:=by omega
 rcases Z with rfl | rfl | rfl
 refine Dw rfl<|Ix 0 rfl (mp V)<|Ar (0%3:Nat) rfl ?_ (R9.remN (by decide))
 refine Ia 0 rfl (by decide) ?_
 refine ApG ((T++[(u,a)]).map λx=>dT x.1 x.2) rfl (by simp) (by simp;omega) ?_
 refine Ix 0 rfl (u:=dT u a) (by rw[W2j,W0n (by simp[M])];simp[M])<|Ce rfl (R19.Valid_g W.w hp (by decide))<|By rfl (λj=>?_) λj=>?_
 exact Rt rfl (.tup (.cons (.nil rfl) Xgr)) (.inl ⟨[],rfl⟩)
 have j:p≠vz K/\lim a:=by simpa [Xas,Xaj] using j
 refine Ar (0+1:Nat) rfl ?_
 refine Bk (0+1,T++[(u,a)]) [(36,8)] rfl ⟨by show 0+1<=n;omega,by simp[M],λz o=>?_⟩ (by show n-(0+1)<n-0;omega)
 rcases W2p.1 o with o | o
 exact O z o
 obtain rfl:=W0g.1 o
 exact⟨I.1,I.2,j.2,p,hp,j.1⟩
 refine Dw rfl<|Ix 1 rfl (mp V)<|Ar (1%3:Nat) rfl ?_ (R9.remN (by decide))
 refine Ia 1 rfl (by decide) ?_
 refine ApG ((T++[(u,b)]).map λx=>dT x.1 x.2) rfl (by simp) (by simp;omega) ?_
 refine Ix 1 rfl (u:=dT u b) (by rw[W2j,W0n (by simp[M])];simp[M])<|Ce rfl (R19.Valid_g W.w hp (by decide))<|By rfl (λj=>?_) λj=>?_
 exact Rt rfl (.tup (.cons (.nil rfl) Xgr)) (.inl ⟨[],rfl⟩)
 have j:p≠vz K/\lim b:=by simpa [Xas,Xaj] using j
 refine Ar (1+1:Nat) rfl ?_
 refine Bk (1+1,T++[(u,b)]) [(36,8)] rfl ⟨by show 1+1<=n;omega,by simp[M],λz o=>?_⟩ (by show n-(1+1)<n-1;omega)
 rcases W2p.1 o with o | o
 exact O z o
 obtain rfl:=W0g.1 o
 exact⟨I.1,I.2,j.2,p,hp,j.1⟩
 refine Dw rfl<|Ix 2 rfl (mp V)<|Ar (2%3:Nat) rfl ?_ (R9.remN (by decide))
 refine Ia 2 rfl (by decide) ?_
 refine ApG ((T++[(u,c)]).map λx=>dT x.1 x.2) rfl (by simp) (by simp;omega) ?_
 refine Ix 2 rfl (u:=dT u c) (by rw[W2j,W0n (by simp[M])];simp[M])<|Ce rfl (R19.Valid_g W.w hp (by decide))<|By rfl (λj=>?_) λj=>?_
 exact Rt rfl (.tup (.cons (.nil rfl) Xgr)) (.inl ⟨[],rfl⟩)
 have j:p≠vz K/\lim c:=by simpa [Xas,Xaj] using j
 refine Ar (2+1:Nat) rfl ?_
 refine Bk (2+1,T++[(u,c)]) [(36,8)] rfl ⟨by show 2+1<=n;omega,by simp[M],λz o=>?_⟩ (by show n-(2+1)<n-2;omega)
 rcases W2p.1 o with o | o
 exact O z o
 obtain rfl:=W0g.1 o
 exact⟨I.1,I.2,j.2,p,hp,j.1⟩
 have e:i=n:=by omega
 subst e
 exact Rt rfl (.tup (.cons (.gr rfl) Xgr)) (.inr ⟨T,rfl,M,K,G,S,N,W,O⟩)
end
section
theorem Xzz{t:TypeId}(i:Tryz.prog.underlying t=some (.slice 5)): Reads Tryz.prog t λd=>∃l:List (Fin 256),d=dAt l :=
 (Xix i (Xgf Tryz.underlying5) (sz:=1) (by kernel_rfl) (by decide)).mono λd ⟨l,e,_,h⟩=>by
  obtain⟨m,j⟩:=Yq3 (f:=λn:Fin 256=>(D.int .u8 n.val:D)) λy o=>let ⟨n,e,I⟩:=h y o;⟨⟨n,I⟩,e⟩
  exact⟨m,by rw[e,j]⟩
theorem Xtk: Reads Tryz.prog 26 λd=>∃h l,d=dPl h l :=
 (Xes Tryz.underlying26 (.cons (n:=1) rfl (Xvw Tryz.underlying23) (by kernel_rfl) (.one rfl (Xzz Tryz.underlying24))) (λf hf=>by cases hf;kernel_rfl)).mono λd hd=>by
  obtain⟨_,rfl,_,_,rfl,⟨h,rfl⟩,⟨l,rfl⟩⟩:=hd
  exact⟨h,l,rfl⟩
def i64(a:Int): Prop:=-9223372036854775808<=a/\a<9223372036854775808
theorem Xtl: Reads Tryz.prog 29 λd=>∃h l a b c,d=dCs h l a b c/\i64 a/\i64 b/\i64 c :=
 (Xes Tryz.underlying29 (.cons (n:=2) rfl Xtk (by kernel_rfl) (.one rfl (Xna Tryz.underlying27 (Xvx Tryz.underlying3) (by kernel_rfl) (by kernel_rfl)))) (λf hf=>by cases hf;kernel_rfl)).mono λd hd=>by
  obtain⟨_,rfl,_,_,rfl,⟨h,l,rfl⟩,⟨_,_,_,rfl,⟨a,rfl,ha⟩,⟨b,rfl,hb⟩,⟨c,rfl,i⟩⟩⟩:=hd
  exact⟨h,l,a,b,c,rfl,ha,hb,i⟩
theorem Ybv: Arg Tryz.prog 29 λd=>∃h l a b c,d=dCs h l a b c/\i64 a/\i64 b/\i64 c:=Xt2 Tryz.underlying29 Xtl λx ⟨_,_,_,_,_,e,_⟩=>by rw[e];rfl
end
section
def lo2(x y:Rat): Rat:=if y<x then y else x
def hi2(x y:Rat): Rat:=if x<y then y else x
def Xpo(x:Rat)(r:List Rat): Rat:=r.foldl lo2 x
def Xpq(x:Rat)(r:List Rat): Rat:=r.foldl hi2 x
theorem Xr6{s:Nat}{x y:Rat}(h:Qs s x)(i:Qs s y): Qs s (lo2 x y):=by unfold lo2;split<;>assumption
theorem Xsd{s:Nat}{x y:Rat}(h:Qs s x)(i:Qs s y): Qs s (hi2 x y):=by unfold hi2;split<;>assumption
theorem Xnh(x:Rat)(r:List Rat)(y:Rat): Xpo x (r++[y])=lo2 (Xpo x r) y:=by simp[Xpo]
theorem Xni(x:Rat)(r:List Rat)(y:Rat): Xpq x (r++[y])=hi2 (Xpq x r) y:=by simp[Xpq]
theorem Xpn{s:Nat}{x:Rat}{r:List Rat}(h:∀y∈x::r,Qs s y): Qs s (Xpo x r):=by
 induction r generalizing x with
 | nil=>exact h x (W0w ..)
 | cons y r j=>exact j (x:=lo2 x y) (λz i=>by
  rcases W1s.1 i with rfl | i
  exact Xr6 (h x (W0w ..)) (h y (by simp))
  exact h z (by simp[i]))
theorem Xpp{s:Nat}{x:Rat}{r:List Rat}(h:∀y∈x::r,Qs s y): Qs s (Xpq x r):=by
 induction r generalizing x with
 | nil=>exact h x (W0w ..)
 | cons y r j=>exact j (x:=hi2 x y) (λz i=>by
  rcases W1s.1 i with rfl | i
  exact Xsd (h x (W0w ..)) (h y (by simp))
  exact h z (by simp[i]))
theorem Yhb{x y:Rat}: Xmw x y<0↔x<y:=by
 unfold Xmw
 split
 rename_i h;simp[h]
 rename_i h
 split<;>simp[h]
theorem Xx4{x y:Rat}: Xmw x y>0↔y<x:=by
 rw[Xn6,<-Yhb];omega
theorem Xlt{s:Nat}{x:Rat}{r:List Rat}(h:∀y∈x::r,Qs s y)(k:Nat): ∀y∈x::r.take k,Qs s y:=λy i=>h y (by
 rcases W1s.1 i with rfl | i
 exact W0w ..
 exact W1c _ (W7v i))
theorem Xxt(n:Int): Rat.divInt n 1=(n:Rat):=by
 rw[W4u]
 have:((1:Int):Rat)=1:=rfl
 grind
def pw(b:Nat): Rat:=((2^b:Int):Rat)
theorem Zs.two{b p:Nat}(h:b+1<=p): Zs p (2^b:Int):=by
 refine Zs.mono (p:=b+1) ?_ h
 unfold Zs
 rw[Int.natAbs_pow]
 exact W4f (by decide) (W5v b)
theorem Xfk(b:Nat): (2^b:Int)≠0:=by have:=W8k (n:=2) (m:=b) (by decide);omega
theorem Xpd(b:Nat): Qs (b+1) (pw b):=⟨Zs.two (W0a _),Zs.one (by omega)⟩
theorem Zs.floor{s:Nat}{x:Rat}(h:Qs s x): Zs s x.floor:=by
 have i:=h.n
 unfold Zs at *
 rw[Rat.floor_def]
 exact W2a (Int.natAbs_ediv_le_natAbs _ _) i
def dnQ(x:Rat)(b:Nat): Rat:=Rat.divInt (x*pw b).floor (2^b)
def upQ(x:Rat)(b:Nat): Rat:=-dnQ (-x) b
theorem Xxr{s:Nat}{x:Rat}(h:Qs s x)(b:Nat): Qs (s+b+1) (dnQ x b) :=
 Qs.divInt (p:=s+b+1) ((Zs.floor (h.mul (Xpd b))).mono (by omega)) (Zs.two (by omega)) (Xfk b)
theorem Yiy{s:Nat}{x:Rat}(h:Qs s x)(b:Nat): Qs (s+b+1) (upQ x b):=(Xxr h.neg b).neg
theorem Xjp{x y:Rat}: Xmw x y<=0↔¬y<x:=by rw[<-Xx4];omega
theorem Yga{a p:Nat}(h:a<2^p): (dig a).length<=p/32+1:=by
 refine Xaq (W0y h ?_)
 rw[show (4294967296:Nat)=2^32 from rfl,<-W6q]
 exact W0o (by decide) (by omega)
def rtF(x:Rat): Nat:=rt x.floor.toNat
theorem Yoe(n:Nat): rt n<=n:=by
 have h:=(Xdp n).1
 by_cases h0:rt n=0
 omega
 have:=W0u (rt n) (by omega:1<=rt n)
 omega
theorem Xe1{x:Rat}(h:0<=x): x.floor=(x.floor.toNat:Int):=by
 have:(0:Int)<=x.floor:=Rat.le_floor_iff.2 h
 omega
theorem Ycz{s:Nat}{x:Rat}(h:Qs s x)(h0:0<=x): Zs s (rtF x:Int):=by
 have i:=Zs.floor h
 rw[Xe1 h0] at i
 have j:=Yoe x.floor.toNat
 unfold Zs at *
 have i:x.floor.toNat<2^s:=i
 show rt x.floor.toNat<2^s
 omega
theorem Xaw(b:Nat): 0<pw b:=Rat.intCast_pos.2 (W8k (by decide))
def sq2(x:Rat)(b:Nat): Rat:=x*(pw b*pw b)
def Xen(x:Rat)(b:Nat): Rat:=Rat.divInt (rtF (sq2 x b):Int) (2^b)
open Classical in
noncomputable def Yrp(x:Rat): Nat:=if ((rtF x*rtF x:Int):Rat)<x then rtF x+1 else rtF x
noncomputable def Yrq(x:Rat)(b:Nat): Rat:=Rat.divInt (Yrp (sq2 x b):Int) (2^b)
theorem Ycn{s b:Nat}{x:Rat}(h:Qs s x): Qs (s+(2*b+2)) (sq2 x b):=(h.mul ((Xpd b).mul (Xpd b))).mono (by omega)
theorem Xis{x:Rat}{b:Nat}(h:0<=x): 0<=sq2 x b:=W2z h (W2z (W1m (Xaw b)) (W1m (Xaw b)))
theorem Xia(x:Rat)(n:Nat): (x.num*2^n).fdiv x.den=(x*pw n).floor:=by
 have hd:(0:Int)<x.den:=Int.natCast_pos.2 (W2q x.den_nz)
 rw[W1r _ (by omega)]
 have i:∀z:Int,z<=(x.num*2^n)/x.den↔z<=(x*pw n).floor:=by
  intro z
  rw[Int.le_ediv_iff_mul_le hd,Rat.le_floor_iff]
  have e:x*pw n*(x.den:Rat)=((x.num*2^n:Int):Rat):=by
   have:=Xl4 x
   have o:pw n=((2^n:Int):Rat):=rfl
   rw[W4b,<-o,<-this]
   grind
  have j:(0:Rat)<(x.den:Rat):=by
   have:=Rat.intCast_pos.2 hd
   exact this
  rw[<-W3h,W4b,<-e]
  constructor
  intro h
  exact W2d h j
  intro h
  exact W0f h (W1m j)
 have I:=(i _).1 (W7p _)
 have o:=(i _).2 (W7p _)
 omega
theorem Yc5(b:Nat): pw (2*b)=pw b*pw b:=by
 show ((2^(2*b):Int):Rat)=((2^b:Int):Rat)*((2^b:Int):Rat)
 rw[<-W4b,<-Int.pow_add]
 congr 2;omega
theorem Xzo{x:Rat}(b:Nat)(h0:0<=x): (x.num*2^(2*b)).fdiv x.den=((sq2 x b).floor.toNat:Int):=by
 rw[Xia,Yc5]
 exact Xe1 (Xis h0)
theorem Xlj{s:Nat}{x:Rat}(h:Qs s x)(h0:0<=x)(b:Nat): Qs (s+(2*b+2)) (Xen x b) :=
 Qs.divInt (Ycz (Ycn h) (Xis h0)) (Zs.two (by omega)) (Xfk b)
def mx0(x:Rat): Rat:=if x<0 then 0 else x
theorem Xi4(x:Rat): 0<=mx0 x:=by unfold mx0;split<;>grind
theorem Ydk{s:Nat}{x:Rat}(h:Qs s x)(i:1<=s): Qs s (mx0 x):=by
 unfold mx0
 split
 exact qs0.mono i
 exact h
theorem Ymc{x:Rat}: Xa9 x.num 0<0↔x<0:=by
 rw[Xh4]
 rcases Xbc x with ⟨h,e⟩ | ⟨h,e⟩ | ⟨h,e⟩<;>rw[e]
 exact⟨λh=>absurd h (by decide),λi=>absurd i (by grind)⟩
 exact⟨λh=>absurd h (by decide),λi=>absurd i (by grind)⟩
 exact⟨λ_=>h,λ_=>by decide⟩
def rnd(p:Rat×Rat)(b:Nat): Rat×Rat:=(dnQ p.1 b,upQ p.2 b)
def rts(p:Rat×Rat)(b:Nat): Rat×Rat:=(Xen (mx0 p.1) b,Xen p.2 b+Rat.divInt 1 (2^b))
def Xa6(p q:Rat×Rat): Rat×Rat:=(Xpo (p.1*q.1) [p.1*q.2,p.2*q.1,p.2*q.2],Xpq (p.1*q.1) [p.1*q.2,p.2*q.1,p.2*q.2])
def Xf0(p q:Rat×Rat): Rat×Rat:=(p.1+q.1,p.2+q.2)
def enc: (k:Nat)->Tw k->El k->Nat->Rat×Rat
 | 0=>λ_ (x:Rat) _=>(x,x)
 | k+1=>λt a b=>if (∀x∈toL k a.2,x=0) then enc k t.1 a.1 b else rnd (Xf0 (enc k t.1 a.1 b) (Xa6 (enc k t.1 a.2 b) (rts (enc k t.1 t.2 b) b))) b
theorem Xn2(x:Rat)(b:Nat): dnQ x b*pw b=((x*pw b).floor:Rat):=by
 unfold dnQ
 rw[W4u]
 have h:=Xaw b
 show ((x*pw b).floor:Rat)/pw b*pw b=_
 rw[W5y (by grind)]
theorem Xn1(x:Rat)(b:Nat): dnQ x b<=x:=by
 refine W2d ?_ (Xaw b)
 rw[Xn2]
 exact Rat.floor_le _
theorem Xsq(x:Rat)(b:Nat): x*pw b<dnQ x b*pw b+1:=by
 rw[Xn2]
 have:=@Rat.lt_floor (x*pw b)
 grind
theorem Xqo(x:Rat)(b:Nat): x<=upQ x b:=by
 have:=Xn1 (-x) b
 unfold upQ;grind
theorem Xus(x:Rat)(b:Nat): upQ x b*pw b<x*pw b+1:=by
 have:=Xsq (-x) b
 unfold upQ;grind
theorem Xnl{x y:Rat}: lo2 x y<=x/\lo2 x y<=y:=by unfold lo2;split<;>grind
theorem Xnq{x y:Rat}: x<=hi2 x y/\y<=hi2 x y:=by unfold hi2;split<;>grind
theorem Xnk{x y:Rat}: lo2 x y=x\/lo2 x y=y:=by unfold lo2;split<;>simp
theorem Xnp{x y:Rat}: hi2 x y=x\/hi2 x y=y:=by unfold hi2;split<;>simp
theorem Xi8(p q:Rat×Rat): (Xa6 p q).1<=p.1*q.1/\(Xa6 p q).1<=p.1*q.2/\(Xa6 p q).1<=p.2*q.1/\(Xa6 p q).1<=p.2*q.2:=by
 show lo2 (lo2 (lo2 (p.1*q.1) (p.1*q.2)) (p.2*q.1)) (p.2*q.2)<=_/\lo2 (lo2 (lo2 (p.1*q.1) (p.1*q.2)) (p.2*q.1)) (p.2*q.2)<=_/\lo2 (lo2 (lo2 (p.1*q.1) (p.1*q.2)) (p.2*q.1)) (p.2*q.2)<=_/\lo2 (lo2 (lo2 (p.1*q.1) (p.1*q.2)) (p.2*q.1)) (p.2*q.2)<=_
 have i:=@Xnl (p.1*q.1) (p.1*q.2)
 have j:=@Xnl (lo2 (p.1*q.1) (p.1*q.2)) (p.2*q.1)
 have h:=@Xnl (lo2 (lo2 (p.1*q.1) (p.1*q.2)) (p.2*q.1)) (p.2*q.2)
 refine⟨?_,?_,?_,h.2⟩<;>grind
theorem Xi9(p q:Rat×Rat): p.1*q.1<=(Xa6 p q).2/\p.1*q.2<=(Xa6 p q).2/\p.2*q.1<=(Xa6 p q).2/\p.2*q.2<=(Xa6 p q).2:=by
 show _<=hi2 (hi2 (hi2 (p.1*q.1) (p.1*q.2)) (p.2*q.1)) (p.2*q.2)/\_<=hi2 (hi2 (hi2 (p.1*q.1) (p.1*q.2)) (p.2*q.1)) (p.2*q.2)/\_<=hi2 (hi2 (hi2 (p.1*q.1) (p.1*q.2)) (p.2*q.1)) (p.2*q.2)/\_<=hi2 (hi2 (hi2 (p.1*q.1) (p.1*q.2)) (p.2*q.1)) (p.2*q.2)
 have i:=@Xnq (p.1*q.1) (p.1*q.2)
 have j:=@Xnq (hi2 (p.1*q.1) (p.1*q.2)) (p.2*q.1)
 have h:=@Xnq (hi2 (hi2 (p.1*q.1) (p.1*q.2)) (p.2*q.1)) (p.2*q.2)
 refine⟨?_,?_,?_,h.2⟩<;>grind
theorem Xir(x:Rat)(b:Nat): Xen x b*pw b=((rtF (sq2 x b):Int):Rat):=by
 unfold Xen
 rw[W4u]
 have h:=Xaw b
 show ((rtF (sq2 x b):Int):Rat)/pw b*pw b=_
 rw[W5y (by grind)]
theorem Xep(b:Nat): Rat.divInt 1 (2^b)*pw b=1:=by
 rw[W4u]
 have h:=Xaw b
 show ((1:Int):Rat)/pw b*pw b=_
 rw[W5y (by grind)];rfl
theorem Xfq(x:Rat)(b:Nat): 0<=Xen x b:=by
 refine W2d ?_ (Xaw b)
 rw[Xir,W3p]
 exact Rat.intCast_nonneg.2 (by omega)
theorem Yc0{x:Rat}(h:0<=x): (((rtF x:Int)):Rat)*((rtF x:Int):Rat)<=x:=by
 have j:=(Xdp x.floor.toNat).1
 have o:=Xe1 h
 have I:=@Rat.floor_le x
 have i:((rtF x*rtF x:Int):Rat)<=(x.floor:Rat):=by
  rw[W3h,o]
  unfold rtF
  exact_mod_cast j
 rw[W4b] at i
 exact W1n i I
theorem Yc1{x:Rat}(h:0<=x): x<(((rtF x:Int))+1:Rat)*(((rtF x:Int))+1:Rat):=by
 have i:=(Xdp x.floor.toNat).2
 have o:=Xe1 h
 have M:=@Rat.lt_floor x
 have j:((x.floor+1:Int):Rat)<=(((rtF x+1:Int)*(rtF x+1:Int):Int):Rat):=by
  rw[W3h,o]
  unfold rtF
  have i:x.floor.toNat+1<=(rt x.floor.toNat+1)*(rt x.floor.toNat+1):=i
  exact_mod_cast i
 rw[W4b,W5s,W5s] at j
 have I:((1:Int):Rat)=1:=rfl
 rw[I] at j
 grind
theorem Xli{x:Rat}{b:Nat}(h:0<=x): Xen x b*Xen x b<=x:=by
 have hp:=Xaw b
 have i:=W5o hp hp
 refine W2d ?_ i
 have j:=Yc0 (Xis (b:=b) h)
 rw[<-Xir] at j
 unfold sq2 at j
 grind
theorem Xu8{x:Rat}{b:Nat}(h:0<=x): x<=(Xen x b+Rat.divInt 1 (2^b))*(Xen x b+Rat.divInt 1 (2^b)):=by
 have hp:=Xaw b
 have i:=W5o hp hp
 refine W2d ?_ i
 have j:=Yc1 (Xis (b:=b) h)
 have o:=Xep b
 rw[<-Xir] at j
 have I:sq2 x b=x*(pw b*pw b):=rfl
 have M:(Xen x b+Rat.divInt 1 (2^b))*(Xen x b+Rat.divInt 1 (2^b))*(pw b*pw b)=(Xen x b*pw b+1)*(Xen x b*pw b+1):=by
  rw[<-o];grind
 rw[M,<-I]
 exact W1m j
theorem Xe2: ∀ {k:Nat} {t:Tw k} (h:Xcg k t) (a:El k) (b:Nat),inI k t a (enc k t a b).1 (enc k t a b).2
 | 0,t,h,a,b=>⟨(Xao h).le_rf (Xax 0 t) a,(Xao h).le_rf (Xax 0 t) a⟩
 | k+1,t,h,a,b=>by
  have M:=Xwy (t:=t) h.1 (Xe2 h.1 a.1 b)
  have U:=Ya4 (t:=t) a
  by_cases i:∀x∈toL k a.2,x=0
  have j:enc (k+1) t a b=enc k t.1 a.1 b:=if_pos i
  rw[j]
  have ha:a=up k a.1:=W3f rfl ((Xam k a.2).2 i)
  rw[ha]
  exact M
  have j:enc (k+1) t a b=rnd (Xf0 (enc k t.1 a.1 b) (Xa6 (enc k t.1 a.2 b) (rts (enc k t.1 t.2 b) b))) b:=if_neg i
  have V:=Xwy (t:=t) h.1 (Xe2 h.1 a.2 b)
  have O:=Xe2 h.1 t.2 b
  have o:0<=(enc k t.1 t.2 b).2:=by
   have h0:le k t.1 (rat k 0) t.2:=(Xi3 h.1).2 (by rw[h.2];decide)
   exact(Xbr h.1).1 (le_tr h.1 h0 O.2)
  have hu:0<=Rat.divInt 1 (2^b):=W2d (by rw[Xep,W3p];decide) (Xaw b)
  have is:=Ygm h O (c:=Xen (mx0 (enc k t.1 t.2 b).1) b) (d:=Xen (enc k t.1 t.2 b).2 b+Rat.divInt 1 (2^b)) (Xfq _ _) (by have:=Xfq (enc k t.1 t.2 b).2 b;grind)
   (by
    have I:=Xli (b:=b) (Xi4 (enc k t.1 t.2 b).1)
    by_cases h0:(enc k t.1 t.2 b).1<0
    right
    have e:mx0 (enc k t.1 t.2 b).1=0:=if_pos h0
    rw[e] at I |-
    have h2:=Xfq 0 b
    by_cases Z:Xen 0 b=0
    exact Z
    have:=W5o (show 0<Xen 0 b by grind) (show 0<Xen 0 b by grind)
    grind
    left
    have e:mx0 (enc k t.1 t.2 b).1=(enc k t.1 t.2 b).1:=if_neg h0
    rw[e] at I |-
    exact I) (Xu8 o)
  have im:=Ygn h V is (Xfq _ _) (Xi8 (enc k t.1 a.2 b) (rts (enc k t.1 t.2 b) b)).1 (Xi8 (enc k t.1 a.2 b) (rts (enc k t.1 t.2 b) b)).2.1 (Xi9 (enc k t.1 a.2 b) (rts (enc k t.1 t.2 b) b)).2.2.1 (Xi9 (enc k t.1 a.2 b) (rts (enc k t.1 t.2 b) b)).2.2.2
  have T:=Ygo h M im
  rw[<-U] at T
  rw[j]
  exact Yak h T (Xn1 _ _) (Xqo _ _)
def eB(s b:Nat): Nat->Nat
 | 0=>s
 | k+1=>3*eB s b k+4*b+6
theorem Xxn(s b:Nat): ∀k,s<=eB s b k
 | 0=>W0a _
 | k+1=>by have:=Xxn s b k;show s<=3*eB s b k+4*b+6;omega
theorem Yd7{k:Nat}{t:Tw (k+1)}(h:Xcg (k+1) t)(b:Nat): 0<=(enc k t.1 t.2 b).2:=by
 have h0:le k t.1 (rat k 0) t.2:=(Xi3 h.1).2 (by rw[h.2];decide)
 exact(Xbr h.1).1 (le_tr h.1 h0 (Xe2 h.1 t.2 b).2)
def Q2(s:Nat)(p:Rat×Rat): Prop:=Qs s p.1/\Qs s p.2
theorem Xij(b:Nat): Qs (b+1) (Rat.divInt 1 (2^b)):=Qs.divInt (Zs.one (by omega)) (Zs.two (W0a _)) (Xfk b)
theorem Ycy{s b:Nat}{p:Rat×Rat}(h:Q2 s p)(h0:0<=p.2)(i:1<=s): Q2 (s+3*b+4) (rts p b) :=
 ⟨(Xlj (Ydk h.1 i) (Xi4 _) b).mono (by omega),((Xlj h.2 h0 b).add (Xij b)).mono (by omega)⟩
theorem Xb2{s s':Nat}{p q:Rat×Rat}(h:Q2 s p)(j:Q2 s' q): Q2 (s+s') (Xa6 p q):=by
 have i:∀y∈p.1*q.1::[p.1*q.2,p.2*q.1,p.2*q.2],Qs (s+s') y:=by
  intro y o
  simp at o
  rcases o with rfl | rfl | rfl | rfl
  exact h.1.mul j.1
  exact h.1.mul j.2
  exact h.2.mul j.1
  exact h.2.mul j.2
 exact⟨Xpn i,Xpp i⟩
theorem Xeh{s s':Nat}{p q:Rat×Rat}(h:Q2 s p)(i:Q2 s' q): Q2 (s+s'+1) (Xf0 p q):=⟨h.1.add i.1,h.2.add i.2⟩
theorem Yju{s:Nat}{p:Rat×Rat}(h:Q2 s p)(b:Nat): Q2 (s+b+1) (rnd p b):=⟨Xxr h.1 b,Yiy h.2 b⟩
theorem Q2.mono{s s':Nat}{p:Rat×Rat}(h:Q2 s p)(i:s<=s'): Q2 s' p:=⟨h.1.mono i,h.2.mono i⟩
theorem Xhs: ∀ {k:Nat} {t:Tw k} {a:El k} {s b:Nat},Xcg k t->TS s k t->Sz s (toL k a)->1<=s->Q2 (eB s b k) (enc k t a b)
 | 0,t,a,s,b,h,i,ha,j=>⟨ha.qs (W0g.2 rfl),ha.qs (W0g.2 rfl)⟩
 | k+1,t,a,s,b,h,i,ha,j=>by
  have o:=Xhs (b:=b) h.1 i.1 (Sz.left (l:=toL k a.1) (m:=toL k a.2) ha) j
  have I:=Xhs (b:=b) h.1 i.1 (Sz.right (l:=toL k a.1) (m:=toL k a.2) ha) j
  have M:=Xhs (b:=b) h.1 i.1 i.2 j
  have O:=Xxn s b k
  show Q2 (3*eB s b k+4*b+6) (if (∀x∈toL k a.2,x=0) then enc k t.1 a.1 b else rnd (Xf0 (enc k t.1 a.1 b) (Xa6 (enc k t.1 a.2 b) (rts (enc k t.1 t.2 b) b))) b)
  split
  exact o.mono (by omega)
  exact(Yju (Xeh o (Xb2 I (Ycy M (Yd7 h b) (by omega)))) b).mono (by omega)
theorem Xiz(a b:Nat): pw (a+b)=pw a*pw b:=by
 show ((2^(a+b):Int):Rat)=((2^a:Int):Rat)*((2^b:Int):Rat)
 rw[<-W4b,<-Int.pow_add]
theorem Xc1(n:Nat): pw (n+1)=2*pw n:=by rw[Xiz,show pw 1=2 from rfl];grind
theorem Xhq(n:Nat): 1<=pw n:=by
 induction n with
 | zero=>exact W1x
 | succ n h=>rw[Xc1];grind
theorem Xev{a b:Nat}(h:a<=b): pw a<=pw b:=by
 obtain⟨c,rfl⟩:=Nat.le.dest h
 rw[Xiz]
 have i:=W1a (Xhq c) (W1m (Xaw a))
 grind
theorem Xi5{x y:Rat}(h:0<=x)(k:0<=y): 0<=x*y:=W2z h k
theorem Ydl{a b c d:Rat}(h:a<=b)(k:c<=d)(i:0<=c)(hb:0<=b): a*c<=b*d:=by
 have j:=W0f h i
 have o:=W1a k hb
 grind
theorem Xl5{x y X Y:Rat}(h:-X<=x)(i:x<=X)(j:-Y<=y)(o:y<=Y): x*y<=X*Y:=by
 have a:=Xi5 (show 0<=X-x by grind) (show 0<=Y+y by grind)
 have b:=Xi5 (show 0<=X+x by grind) (show 0<=Y-y by grind)
 grind
theorem Xr8{x y:Rat}(j:0<=y)(h:x*x<=y*y): x<=y:=by
 by_cases i:x<=y
 exact i
 have o:y<x:=by grind
 have a:=W5o (show 0<x-y by grind) (show 0<x by grind)
 have b:=Xi5 j (show 0<=x-y by grind)
 grind
def Wid(p:Rat×Rat)(e:Nat): Prop:=p.1<=p.2/\(p.2-p.1)*pw e<=1
def Mg(p:Rat×Rat)(m:Nat): Prop:=-pw m<=p.1/\p.2<=pw m
theorem Wid.mono{p:Rat×Rat}{e f:Nat}(h:Wid p e)(hf:f<=e): Wid p f:=by
 refine⟨h.1,?_⟩
 have:=W1a (Xev hf) (show 0<=p.2-p.1 by have:=h.1;grind)
 have:=h.2
 grind
theorem Mg.mono{p:Rat×Rat}{m n:Nat}(h:Mg p m)(i:m<=n): Mg p n:=by
 have:=Xev i
 have j:=h.1
 have o:=h.2
 exact⟨by grind,by grind⟩
structure RtOf (r:Rat×Rat) (b:Nat) (s:Rat×Rat):Prop where
 lo:s.1=Xen (mx0 r.1) b
 l:Xen r.2 b<=s.2
 h:s.2<=Xen r.2 b+Rat.divInt 1 (2^b)
theorem Xdj(b:Nat): 0<Rat.divInt 1 (2^b):=by
 by_cases h:0<Rat.divInt 1 (2^b)
 exact h
 have i:=W0f (show Rat.divInt 1 (2^b)<=0 by grind) (W1m (Xaw b))
 rw[Xep] at i
 exact absurd i (by grind)
theorem Xut{b f:Nat}(h:f+1<=b): 2*(Rat.divInt 1 (2^b)*pw f)<=1:=by
 have i:=W1a (Xev h) (W1m (Xdj b))
 rw[Xep,Xc1] at i
 grind
theorem Xk9(b:Nat): Rat.divInt 1 (2^b)<=1:=by
 have h:=W1a (Xhq b) (W1m (Xdj b))
 rw[Xep] at h
 grind
theorem Yki(x:Rat): x<=mx0 x:=by unfold mx0;split<;>grind
theorem Xiq{x y:Rat}{b:Nat}(j:0<=x)(h:x<=y): Xen x b<=Xen y b:=by
 have hp:=Xaw b
 refine W2d ?_ hp
 rw[Xir,Xir,W3h]
 have o:sq2 x b<=sq2 y b:=W0f h (W1m (W5o hp hp))
 have O:=Yc0 (Xis (b:=b) j)
 have T:=Yc1 (x:=sq2 y b) (W1n (Xis (b:=b) j) o)
 by_cases I:(rtF (sq2 x b):Int)<=rtF (sq2 y b)
 exact I
 have M:(rtF (sq2 y b):Int)+1<=rtF (sq2 x b):=by omega
 have i:=W3h.2 M
 rw[W5s,show ((1:Int):Rat)=1 from rfl] at i
 have U:(0:Rat)<=((rtF (sq2 y b):Int):Rat):=Rat.intCast_nonneg.2 (by omega)
 have V:=Ydl i i (by grind) (by grind)
 grind
theorem RtOf.wd{r s:Rat×Rat}{b e f:Nat}(R:RtOf r b s)(hr:Wid r e)(h0:0<=r.2)(hf:2*f<=e)(hb:f+1<=b): s.1<=s.2/\(s.2-s.1)*pw f<=2:=by
 obtain⟨r1,I⟩:=r
 obtain⟨c,d⟩:=s
 obtain⟨U,h2,h3⟩:=R
 dsimp only at *
 have hA:=Xli (b:=b) h0
 have Z:=Xu8 (b:=b) (Xi4 r1)
 have M:=Xfq (mx0 r1) b
 have hm:=Yki r1
 have hu:=Xdj b
 have hul:=Xut hb
 rw[<-U] at Z M
 have V:=(hr.mono hf).2
 have i:=Xaw f
 rw[show 2*f=f+f by omega,Xiz] at V
 dsimp only at V
 generalize Rat.divInt 1 (2^b)=h at *
 generalize O:Xen I b=A at *
 have key:(A-(c+h))*pw f<=1:=by
  by_cases o:(A-(c+h))*pw f<=1
  exact o
  have o:1<(A-(c+h))*pw f:=by grind
  have T:0<A-(c+h):=by
   by_cases T:0<A-(c+h)
   exact T
   have:=W0f (show A-(c+h)<=0 by grind) (W1m i)
   grind
  have e1:=Xi5 (W1m T) (show 0<=2*(c+h) by grind)
  have e2:(A-(c+h))*(A-(c+h))<=I-r1:=by grind
  have e3:=W0f e2 (W1m (W5o i i))
  have e4:=Ydl (W1m o) (W1m o) (by decide) (by grind)
  have e5:=W5o (show 0<(A-(c+h))*pw f-1 by grind) (show 0<(A-(c+h))*pw f by grind)
  grind
 refine⟨?_,?_⟩
 have j:mx0 r1<=I:=by
  have:=hr.1
  unfold mx0
  dsimp only at this
  split
  exact h0
  exact this
 have:=Xiq (b:=b) (Xi4 r1) j
 rw[O,<-U] at this
 grind
 have:=W0f (show d-c<=(A-(c+h))+2*h by grind) (W1m i)
 grind
theorem RtOf.mg{r s:Rat×Rat}{b m:Nat}(R:RtOf r b s)(hr:Mg r m)(h0:0<=r.2): 0<=s.1/\s.2<=pw (m+1):=by
 have j:=Xli (b:=b) h0
 have i:=Xfq (mx0 r.1) b
 rw[<-R.lo] at i
 refine⟨i,?_⟩
 have o:Xen r.2 b<=pw m:=by
  refine Xr8 (W1m (Xaw m)) (W1n j (W1n hr.2 ?_))
  have:=W1a (Xhq m) (W1m (Xaw m))
  grind
 have I:=R.h
 have M:=Xk9 b
 have O:=Xhq m
 rw[Xc1]
 grind
theorem Xhc(p q:Rat×Rat): (∃v s,(v=p.1\/v=p.2)/\(s=q.1\/s=q.2)/\(Xa6 p q).1=v*s)/\∃v s,(v=p.1\/v=p.2)/\(s=q.1\/s=q.2)/\(Xa6 p q).2=v*s:=by
 constructor
 show ∃v s,(v=p.1\/v=p.2)/\(s=q.1\/s=q.2)/\lo2 (lo2 (lo2 (p.1*q.1) (p.1*q.2)) (p.2*q.1)) (p.2*q.2)=v*s
 rcases @Xnk (lo2 (lo2 (p.1*q.1) (p.1*q.2)) (p.2*q.1)) (p.2*q.2) with h | h<;>rw[h]
 rcases @Xnk (lo2 (p.1*q.1) (p.1*q.2)) (p.2*q.1) with h | h<;>rw[h]
 rcases @Xnk (p.1*q.1) (p.1*q.2) with h | h<;>rw[h]
 exact⟨_,_,.inl rfl,.inl rfl,rfl⟩
 exact⟨_,_,.inl rfl,.inr rfl,rfl⟩
 exact⟨_,_,.inr rfl,.inl rfl,rfl⟩
 exact⟨_,_,.inr rfl,.inr rfl,rfl⟩
 show ∃v s,(v=p.1\/v=p.2)/\(s=q.1\/s=q.2)/\hi2 (hi2 (hi2 (p.1*q.1) (p.1*q.2)) (p.2*q.1)) (p.2*q.2)=v*s
 rcases @Xnp (hi2 (hi2 (p.1*q.1) (p.1*q.2)) (p.2*q.1)) (p.2*q.2) with h | h<;>rw[h]
 rcases @Xnp (hi2 (p.1*q.1) (p.1*q.2)) (p.2*q.1) with h | h<;>rw[h]
 rcases @Xnp (p.1*q.1) (p.1*q.2) with h | h<;>rw[h]
 exact⟨_,_,.inl rfl,.inl rfl,rfl⟩
 exact⟨_,_,.inl rfl,.inr rfl,rfl⟩
 exact⟨_,_,.inr rfl,.inl rfl,rfl⟩
 exact⟨_,_,.inr rfl,.inr rfl,rfl⟩
theorem Xqx{u v r s:Rat×Rat}{b h e f m:Nat}(Z:Wid u f)(hv:Wid v f)(hr:Wid r e)(hf:2*f<=e)(mv:Mg v m)(ms:0<=s.1/\s.2<=pw (m+1))(h0:0<=r.2)(R:RtOf r b s)(hb:f+1<=b)(hb':b<=h)(he:m+3<=f):
 Wid (rnd (Xf0 u (Xa6 v s)) h) (f-(m+3)):=by
 have hs:=R.wd hr h0 (f:=f) hf hb
 have wu:=Z.2
 have wv:=hv.2
 have hu1:=Z.1
 have hv1:=hv.1
 have hs1:=hs.1
 have T:=hs.2
 have o:=Xaw f
 have U:=Xaw m
 obtain⟨⟨v1,s1,I,i,e1⟩,O,s2,j,M,e2⟩:=Xhc v s
 have hle:=(Xi8 v s).1
 have hge:=(Xi9 v s).1
 have hP:(Xa6 v s).2-(Xa6 v s).1<=pw m*(s.2-s.1)+pw (m+1)*(v.2-v.1):=by
  rw[e1,e2]
  have a1:-pw m<=O/\O<=pw m:=by
   have:=mv.1;have:=mv.2
   rcases j with rfl | rfl<;>exact⟨by grind,by grind⟩
  have a2:-(s.2-s.1)<=s2-s1/\s2-s1<=s.2-s.1:=by
   rcases i with rfl | rfl<;>rcases M with rfl | rfl<;>exact⟨by grind,by grind⟩
  have a3:-pw (m+1)<=s1/\s1<=pw (m+1):=by
   have:=ms.1;have:=ms.2;have:=Xaw (m+1)
   rcases i with rfl | rfl<;>exact⟨by grind,by grind⟩
  have a4:-(v.2-v.1)<=O-v1/\O-v1<=v.2-v.1:=by
   rcases I with rfl | rfl<;>rcases j with rfl | rfl<;>exact⟨by grind,by grind⟩
  have b1:=Xl5 a1.1 a1.2 a2.1 a2.2
  have b2:=Xl5 a3.1 a3.2 a4.1 a4.2
  grind
 have V:((Xa6 v s).2-(Xa6 v s).1)*pw f<=pw (m+2):=by
  have c1:=W0f hP (W1m o)
  have c2:=W1a T (W1m U)
  have c3:=W1a wv (W1m (Xaw (m+1)))
  rw[Xc1,Xc1] at *
  grind
 have d1:=Xsq (u.1+(Xa6 v s).1) h
 have d2:=Xus (u.2+(Xa6 v s).2) h
 have d3:=Xn1 (u.1+(Xa6 v s).1) h
 have d4:=Xqo (u.2+(Xa6 v s).2) h
 have hε:=Xut (b:=h) (f:=f) (by omega)
 have hεp:=Xdj h
 have hεe:=Xep h
 have d5:u.1+(Xa6 v s).1-Rat.divInt 1 (2^h)<=dnQ (u.1+(Xa6 v s).1) h:=by
  refine W2d ?_ (Xaw h)
  grind
 have d6:upQ (u.2+(Xa6 v s).2) h<=u.2+(Xa6 v s).2+Rat.divInt 1 (2^h):=by
  refine W2d ?_ (Xaw h)
  grind
 refine⟨?_,?_⟩
 show dnQ (u.1+(Xa6 v s).1) h<=upQ (u.2+(Xa6 v s).2) h
 grind
 show (upQ (u.2+(Xa6 v s).2) h-dnQ (u.1+(Xa6 v s).1) h)*pw (f-(m+3))<=1
 refine W2d ?_ (Xaw (m+3))
 rw[W4i,<-Xiz,show f-(m+3)+(m+3)=f by omega,W5p]
 have g1:=W0f (show upQ (u.2+(Xa6 v s).2) h-dnQ (u.1+(Xa6 v s).1) h<=(u.2-u.1)+((Xa6 v s).2-(Xa6 v s).1)+2*Rat.divInt 1 (2^h) by grind) (W1m o)
 have g2:=Xhq (m+1)
 rw[Xc1 (m+1)] at V
 rw[Xc1 (m+2),Xc1 (m+1)]
 grind
theorem Ye4{u v r s:Rat×Rat}{b i e m:Nat}(j:Wid u e)(o:Wid v e)(hr:Wid r e)(I:Mg v m)(M:Mg r m)(h0:0<=r.2)(R:RtOf r b s)(hb:e/2+1<=b)(h:b<=i)(O:m+3<=e/2):
 Wid (rnd (Xf0 u (Xa6 v s)) i) (e/2-(m+3)):=Xqx (j.mono (by omega)) (o.mono (by omega)) hr (by omega) I (R.mg M h0) h0 R hb h O
theorem Xqy{u v s:Rat×Rat}{h m j:Nat}(U:Mg u m)(V:Mg v m)(ms:0<=s.1/\s.2<=pw (j+1))(hs1:s.1<=s.2)(hv1:v.1<=v.2): Mg (rnd (Xf0 u (Xa6 v s)) h) (m+j+2):=by
 obtain⟨⟨v1,s1,i,o,e1⟩,v2,s2,I,M,e2⟩:=Xhc v s
 have O:∀x y,(x=v.1\/x=v.2)->(y=s.1\/y=s.2)->-(pw m*pw (j+1))<=x*y/\x*y<=pw m*pw (j+1):=by
  intro x y hx hy
  have Z:-pw m<=x/\x<=pw m:=by
   have:=V.1;have:=V.2
   rcases hx with rfl | rfl<;>exact⟨by grind,by grind⟩
  have T:-pw (j+1)<=y/\y<=pw (j+1):=by
   have:=ms.1;have:=ms.2;have:=Xaw (j+1)
   rcases hy with rfl | rfl<;>exact⟨by grind,by grind⟩
  have b1:=Xl5 Z.1 Z.2 T.1 T.2
  have b2:=Xl5 (x:=-x) (show -pw m<=-x by grind) (show -x<=pw m by grind) T.1 T.2
  exact⟨by grind,b1⟩
 have k1:=(O _ _ i o).1
 have k2:=(O _ _ I M).2
 rw[<-e1] at k1
 rw[<-e2] at k2
 have hεe:=Xep h
 have hε1:=Xk9 h
 have d1:=Xsq (u.1+(Xa6 v s).1) h
 have d2:=Xus (u.2+(Xa6 v s).2) h
 have d5:u.1+(Xa6 v s).1-Rat.divInt 1 (2^h)<=dnQ (u.1+(Xa6 v s).1) h:=by
  refine W2d ?_ (Xaw h)
  grind
 have d6:upQ (u.2+(Xa6 v s).2) h<=u.2+(Xa6 v s).2+Rat.divInt 1 (2^h):=by
  refine W2d ?_ (Xaw h)
  grind
 have e3:pw (m+j+2)=2*(pw m*pw (j+1)):=by rw[<-Xiz,<-Xc1];congr 1
 have e4:pw m+1<=pw m*pw (j+1):=by
  have h1:=Xhq m
  have h3:=Xhq j
  have h2:=W1a (show 2<=pw (j+1) by rw[Xc1];grind) (W1m (Xaw m))
  grind
 have m1:=U.1
 have m2:=U.2
 refine⟨?_,?_⟩
 show -pw (m+j+2)<=dnQ (u.1+(Xa6 v s).1) h
 rw[e3];grind
 show upQ (u.2+(Xa6 v s).2) h<=pw (m+j+2)
 rw[e3];grind
theorem Ye6{u v r s:Rat×Rat}{b j m:Nat}(o:Mg u m)(I:Mg v m)(M:Mg r m)(h0:0<=r.2)(h:s.1<=s.2)(i:v.1<=v.2)(R:RtOf r b s): Mg (rnd (Xf0 u (Xa6 v s)) j) (2*m+2):=by
 rw[show 2*m+2=m+m+2 by omega];exact Xqy o I (R.mg M h0) h i
def mW(m:Nat): Nat->Nat
 | 0=>m
 | k+1=>2*mW m k+2
def eW(m b:Nat): Nat->Nat
 | 0=>2*b-2
 | k+1=>eW m b k/2-(mW m k+3)
theorem Yly(m b:Nat): ∀k,eW m b k<=2*b-2
 | 0=>W0a _
 | k+1=>by have:=Yly m b k;show eW m b k/2-(mW m k+3)<=_;omega
theorem Ykn{m:Nat}{x:Rat}(h:Qs m x): Mg (x,x) m:=by
 have i:=h.n
 unfold Zs at i
 have e:=Xl4 x
 have hd:(1:Rat)<=(x.den:Rat):=by
  have:((1:Int):Rat)<=((x.den:Int):Rat):=W3h.2 (by have:=x.den_pos;omega)
  exact this
 have I:((x.num:Int):Rat) <= pw m := W3h.2 (by have:(x.num.natAbs:Int) < ((2^m:Nat):Int) := by exact_mod_cast i
                                               have j:((2^m:Nat):Int)=2^m:=by simp
                                               omega)
 have M:-pw m<=((x.num:Int):Rat):=by
  have o:((-(2^m):Int):Rat) <= ((x.num:Int):Rat) := W3h.2 (by have:(x.num.natAbs:Int) < ((2^m:Nat):Int) := by exact_mod_cast i
                                                              have j:((2^m:Nat):Int)=2^m:=by simp
                                                              omega)
  rwa[W5t] at o
 have hp:=Xaw m
 refine⟨?_,?_⟩
 show -pw m<=x
 by_cases h0:0<=x
 grind
 have:=Xi5 (show 0<=-x by grind) (show 0<=(x.den:Rat)-1 by grind)
 grind
 show x<=pw m
 by_cases h0:0<=x
 have:=Xi5 h0 (show 0<=(x.den:Rat)-1 by grind)
 grind
 grind
def MgL(m:Nat)(l:List Rat): Prop:=∀x∈l,Qs m x
def MgT(m:Nat): (k:Nat)->Tw k->Prop
 | 0,_=>True
 | k+1,t=>MgT m k t.1/\MgL m (toL k t.2)
theorem Xm8(r:Rat×Rat)(b:Nat): RtOf r b (rts r b):=⟨rfl,by have:=Xdj b;show _<=Xen r.2 b+_;grind,W1x⟩
theorem Xku{k:Nat}{t:Tw k}(h:Xcg k t)(a:El k)(b:Nat): (enc k t a b).1<=(enc k t a b).2:=Yk4 h (Xe2 h a b)
theorem Xnz: ∀ {k:Nat} {t:Tw k} {a:El k} {m:Nat} (b:Nat),Xcg k t->MgT m k t->MgL m (toL k a)->Mg (enc k t a b) (mW m k)
 | 0,t,a,m,b,h,i,ha=>Ykn (ha _ (W0g.2 rfl))
 | k+1,t,a,m,b,h,i,ha=>by
  have o:=Xnz (a:=a.1) b h.1 i.1 λx j=>ha x (W2y _ j)
  have I:=Xnz (a:=a.2) b h.1 i.1 λx j=>ha x (W1z _ j)
  have M:=Xnz b h.1 i.1 i.2
  have h0:0<=(enc k t.1 t.2 b).2:=by
   have h0:le k t.1 (rat k 0) t.2:=(Xi3 h.1).2 (by rw[h.2];decide)
   exact(Xbr h.1).1 (le_tr h.1 h0 (Xe2 h.1 t.2 b).2)
  show Mg (if (∀x∈toL k a.2,x=0) then enc k t.1 a.1 b else rnd (Xf0 (enc k t.1 a.1 b) (Xa6 (enc k t.1 a.2 b) (rts (enc k t.1 t.2 b) b))) b) (2*mW m k+2)
  split
  exact o.mono (by omega)
  refine Ye6 o I M h0 ?_ (Xku h.1 _ _) (Xm8 _ b)
  have O:=Xku h.1 t.2 b
  have T:mx0 (enc k t.1 t.2 b).1<=(enc k t.1 t.2 b).2:=by unfold mx0;split<;>assumption
  have:=Xiq (b:=b) (Xi4 _) T
  have:=Xdj b
  show Xen (mx0 (enc k t.1 t.2 b).1) b<=Xen (enc k t.1 t.2 b).2 b+Rat.divInt 1 (2^b)
  grind
theorem Xso: ∀ {k:Nat} {t:Tw k} {a:El k} {m b:Nat},Xcg k t->MgT m k t->MgL m (toL k a)->0<eW m b k->Wid (enc k t a b) (eW m b k)
 | 0,t,a,m,b,h,i,ha,o=>⟨W1x,(λ(x:Rat)=>(by grind:(x-x)*pw (eW m b 0)<=1)) a⟩
 | k+1,t,a,m,b,h,i,ha,o=>by
  have M:0<eW m b k/2-(mW m k+3):=o
  have O:=Yly m b k
  have I:=Xso (a:=a.1) (m:=m) (b:=b) h.1 i.1 (λx j=>ha x (W2y _ j)) (by omega)
  have T:=Xso (a:=a.2) (m:=m) (b:=b) h.1 i.1 (λx j=>ha x (W1z _ j)) (by omega)
  have U:=Xso (m:=m) (b:=b) h.1 i.1 i.2 (by omega)
  have V:=Xnz (a:=a.2) b h.1 i.1 λx j=>ha x (W1z _ j)
  have Z:=Xnz b h.1 i.1 i.2
  have h0:0<=(enc k t.1 t.2 b).2:=by
   have h0:le k t.1 (rat k 0) t.2:=(Xi3 h.1).2 (by rw[h.2];decide)
   exact(Xbr h.1).1 (le_tr h.1 h0 (Xe2 h.1 t.2 b).2)
  show Wid (if (∀x∈toL k a.2,x=0) then enc k t.1 a.1 b else rnd (Xf0 (enc k t.1 a.1 b) (Xa6 (enc k t.1 a.2 b) (rts (enc k t.1 t.2 b) b))) b) (eW m b k/2-(mW m k+3))
  split
  exact I.mono (by omega)
  exact Ye4 I T U V Z h0 (Xm8 _ b) (by omega) (W0a _) (by omega)
end
section
theorem Xmk{s b i:Nat}(h:b<=i): ∀k,eB s b k<=eB s i k
 | 0=>W0a _
 | k+1=>by have:=Xmk (s:=s) h k;show 3*eB s b k+4*b+6<=3*eB s i k+4*i+6;omega
theorem Ynz{x y:Rat}{b:Nat}: Xmw (y-x) (Rat.divInt 1 (2^b))<=0↔(y-x)*pw b<=1:=by
 rw[Xjp]
 have h:=Xep b
 constructor
 intro i
 have:=W0f (show y-x<=Rat.divInt 1 (2^b) by grind) (W1m (Xaw b))
 rwa[h] at this
 intro i j
 have:=W5o (show 0<y-x-Rat.divInt 1 (2^b) by grind) (Xaw b)
 grind
def Xe7(k:Nat)(t:Tw k)(a:El k)(z:Int): Prop:=le k t (rat k (z:Rat)) a/\sgn k t (add k a (neg k (rat k ((z+1:Int):Rat))))=-1
theorem Ydn{k:Nat}{t:Tw k}(h:Xcg k t){a b:El k}: sgn k t (add k a (neg k b))=-1↔¬le k t b a:=by
 unfold le
 have:=(Xao h).tri (add k a (neg k b))
 omega
theorem Xe7.uniq{k:Nat}{t:Tw k}{a:El k}{z o:Int}(h:Xcg k t)(i:Xe7 k t a z)(j:Xe7 k t a o): z=o:=by
 have I:∀z o,Xe7 k t a z->Xe7 k t a o->z<=o:=by
  intro z o i j
  by_cases M:z<=o
  exact M
  exact absurd (le_tr h ((Xbr h).2 (W3h.2 (by omega:o+1<=z))) i.1) ((Ydn h).1 j.2)
 have:=I _ _ i j
 have:=I _ _ j i
 omega
theorem Yas{k:Nat}{t:Tw k}{a:El k}{x y:Rat}(h:Xcg k t)(i:inI k t a x y)(I:Wid (x,y) 1): (sgn k t (add k a (neg k (rat k (y.floor:Rat))))<0->Xe7 k t a (y.floor-1))/\(¬sgn k t (add k a (neg k (rat k (y.floor:Rat))))<0->Xe7 k t a y.floor):=by
 have T:=@Rat.floor_le y
 have U:=@Rat.lt_floor y
 have V:(y-x)*2<=1:=I.2
 have o:((1:Int):Rat)=1:=rfl
 have j:sgn k t (add k a (neg k (rat k ((y.floor+1:Int):Rat))))=-1:=by
  rw[Ydn h]
  intro M
  have:=(Xbr h).1 (le_tr h M i.2)
  rw[W5s,o] at this
  grind
 refine⟨λO=>⟨le_tr h ((Xbr h).2 ?_) i.1,?_⟩,λO=>⟨?_,j⟩⟩
 rw[W8d,o]
 grind
 rw[show y.floor-1+1=y.floor by omega]
 have:=(Xao h).tri (add k a (neg k (rat k (y.floor:Rat))))
 omega
 show 0<=_
 omega
noncomputable def rtb(p:Rat×Rat)(b:Nat): Rat×Rat:=(Xen (mx0 p.1) b,Yrq p.2 b)
noncomputable def bx: (k:Nat)->Tw k->El k->Nat->Rat×Rat
 | 0=>λ_ (x:Rat) _=>(x,x)
 | k+1=>λt a b=>rnd (Xf0 (bx k t.1 a.1 b) (Xa6 (bx k t.1 a.2 b) (rtb (bx k t.1 t.2 b) b))) (b+20)
theorem Ycr{k:Nat}{t:Tw (k+1)}(h:Xcg (k+1) t){x y:Rat}(i:inI k t.1 t.2 x y): 0<=y:=by
 have h0:le k t.1 (rat k 0) t.2:=(Xi3 h.1).2 (by rw[h.2];decide)
 exact(Xbr h.1).1 (le_tr h.1 h0 i.2)
def bB(s b:Nat): Nat->Nat
 | 0=>s
 | k+1=>3*bB s b k+3*b+30
end
section
abbrev dI(p:Rat×Rat): D:=.st (.pr (dq p.1) (dq p.2))
theorem Xue{a b h i:D}{g:Hp}{K:Hpl}(j:a=h)(o:b=i): Fit g K (.d (.st (.pr a b))) (.d (.st (.pr h i))):=.eq (by rw[j,o])
abbrev zq: AV:=.st (.pr (.st (.pr (.b false) .nil)) (.st (.pr (.b false) .nil)))
abbrev zI: AV:=.st (.pr zq zq)
theorem Xpz{x:Rat}{r:List Rat}{s:Nat}(Z:∀y∈x::r,Qs s y)(hs:s+3<=4398046511104)(hn:r.length<=1000): C0 187 [.d (dqs (x::r))] (·=.d (dI (Xpo x r,Xpq x r))):=by
 refine En Tryz.func187 λ_ _ _=>?_
 refine Dz rfl ?_
 refine Ix 0 rfl (u:=dq x) rfl<|Ix 0 rfl (u:=dq x) rfl<|Dp 1 (r.map dq) rfl rfl (by simp) rfl ?_
 refine Lo (λ(q:Nat×Rat×Rat)=>[(2,.ptr 2 0),(3,.ptr 3 0),(4,.ptr 4 0),(15,.d (dqs r)),(16,.d (.int .i64 (r.map dq).length)),(17,.d (.int .i64 q.1))]) (λq=>[(2,.var zI),(3,.var (.d (dq q.2.1))),(4,.var (.d (dq q.2.2)))]) (λq=>q.1<=r.length/\q.2.1=Xpo x (r.take q.1)/\q.2.2=Xpq x (r.take q.1)) (λq=>r.length-q.1) (0,x,x) [] rfl ⟨W0r _,rfl,rfl⟩ (λ(k,lo,hi) ⟨hk,i,j⟩=>?_)
 simp only at hk i j
 have U:Qs s lo:=i ▸ Xpn (Xlt Z k)
 have I:Qs s hi:=j ▸ Xpp (Xlt Z k)
 refine By rfl (λh=>?_) λh=>?_
 have h:(k:Int)<((r.map dq).length:Nat):=h
 rw[lq] at h
 obtain⟨y,hy⟩:=qat (l:=r) (k:=k) (by omega)
 have qy:Qs s y:=Z y (W1c _ (W0h hy))
 have e:r.take (k+1)=r.take k++[y]:=by rw[W1w,hy];rfl
 have e1:Xpo x (r.take (k+1))=lo2 lo y:=by rw[e,Xnh,i]
 have e2:Xpq x (r.take (k+1))=hi2 hi y:=by rw[e,Xni,j]
 have o:∀M O,M=lo2 lo y->O=hi2 hi y->k+1<=r.length/\M=Xpo x (r.take (k+1))/\O=Xpq x (r.take (k+1)):=λM O a b=>⟨by omega,by rw[a,e1],by rw[b,e2]⟩
 refine Ix k rfl (mp hy)<|Ce rfl (Xbo qy U (by omega))<|By rfl (λV=>?_) λV=>?_
 refine Ce rfl (Xbo qy I (by omega))<|By rfl (λT=>?_) λT=>?_
 refine Ar (k+1:Nat) rfl ?_ (wr (by omega:(k:Int)+1=((k+1:Nat):Int)) (by simp only[inK];omega))
 exact Bk (k+1,y,y) [] rfl (o y y (if_pos (Yhb.1 V)).symm (if_pos (Xx4.1 T)).symm) (by show r.length-(k+1)<r.length-k;omega)
 refine Ar (k+1:Nat) rfl ?_ (wr (by omega:(k:Int)+1=((k+1:Nat):Int)) (by simp only[inK];omega))
 exact Bk (k+1,y,hi) [] rfl (o y hi (if_pos (Yhb.1 V)).symm (if_neg λh=>T (Xx4.2 h)).symm) (by show r.length-(k+1)<r.length-k;omega)
 refine Ce rfl (Xbo qy I (by omega))<|By rfl (λT=>?_) λT=>?_
 refine Ar (k+1:Nat) rfl ?_ (wr (by omega:(k:Int)+1=((k+1:Nat):Int)) (by simp only[inK];omega))
 exact Bk (k+1,lo,y) [] rfl (o lo y (if_neg λh=>V (Yhb.2 h)).symm (if_pos (Xx4.1 T)).symm) (by show r.length-(k+1)<r.length-k;omega)
 refine Ar (k+1:Nat) rfl ?_ (wr (by omega:(k:Int)+1=((k+1:Nat):Int)) (by simp only[inK];omega))
 exact Bk (k+1,lo,hi) [] rfl (o lo hi (if_neg λh=>V (Yhb.2 h)).symm (if_neg λh=>T (Xx4.2 h)).symm) (by show r.length-(k+1)<r.length-k;omega)
 have h:¬(k:Int)<((r.map dq).length:Nat):=h
 rw[lq] at h
 rw[W0b (by omega)] at i j
 exact Ce rfl (Xah (z:=0) (by decide))<|Dw rfl<|Ce rfl (Xc0 (y:=0) U qs0 (by omega))<|Ce rfl (Xc0 (y:=0) I qs0 (by omega))<|R1 rfl (Xue (by rw[W6k,i]) (by rw[W6k,j]))
section
variable{p q:Rat×Rat}{s t:Nat}
theorem Xd0{x:Rat}(i:Qs s x)(j:s+3<=4398046511104): C0 108 [.d (dq x)] (·=.d (dI (x,x))):=by
 have o:Xpo x [x]=x:=by show lo2 x x=x;unfold lo2;split<;>rfl
 have I:Xpq x [x]=x:=by show hi2 x x=x;unfold hi2;split<;>rfl
 have:=Xpz (x:=x) (r:=[x]) (s:=s) (λy h=>by simp at h;rw[h];exact i) j (by simp)
 rw[o,I] at this
 refine En Tryz.func108 λ_ _ _=>?_
 exact Ce rfl this<|R1 rfl (.rf rfl)
theorem Xgp(hp:Q2 s p)(h:2*s+1<=4398046511104): C0 47 [.d (dI p)] (·=.d (dq (p.2-p.1))):=by
 refine En Tryz.func47 λ_ _ _=>?_
 exact Ce rfl (Xeu hp.2 hp.1 (by omega))<|R1 rfl (.rf rfl)
theorem Xee(hp:Q2 s p)(hq:Q2 t q)(h:s+t+1<=4398046511104): C0 49 [.d (dI p),.d (dI q)] (·=.d (dI (Xf0 p q))):=by
 refine En Tryz.func49 λ_ _ _=>?_
 exact Dw rfl<|Ce rfl (Xc0 hp.1 hq.1 (by omega))<|Ce rfl (Xc0 hp.2 hq.2 (by omega))<|R1 rfl (Xue rfl rfl)
theorem Xfu(hp:Q2 s p)(hq:Q2 t q)(i:s+t+3<=4398046511104): C0 97 [.d (dI p),.d (dI q)] (·=.d (dI (Xa6 p q))):=by
 have j:=Xpz (x:=p.1*q.1) (r:=[p.1*q.2,p.2*q.1,p.2*q.2]) (s:=s+t) (λy h=>by
  simp only[W1s,List.not_mem_nil,or_false] at h
  rcases h with rfl | rfl | rfl | rfl
  exact hp.1.mul hq.1
  exact hp.1.mul hq.2
  exact hp.2.mul hq.1
  exact hp.2.mul hq.2) i (by simp)
 refine En Tryz.func97 λ_ _ _=>?_
 exact Dw rfl<|Ce rfl (Xby hp.1 hq.1 (by omega))<|Ce rfl (Xby hp.1 hq.2 (by omega))<|Ce rfl (Xby hp.2 hq.1 (by omega))<|Ce rfl (Xby hp.2 hq.2 (by omega))<|Ce rfl j<|R1 rfl (.rf rfl)
end
theorem Yl4{n m r:Nat}(hr:n/m=r)(h:0<m)(i:n<9223372036854775808): arB .quo .i64 n m r:=show _/\_ from⟨by omega,by
 rw[show Int.tdiv (n:Int) (m:Int)=((n/m:Nat):Int) from rfl,hr]
 have:=W3n n m
 exact wI (by omega)⟩
theorem Xdb{n:Nat}(h:n<=8796093022200): C0 185 [.d (.int .i64 n)] (·=.d (dz (2^n:Int))):=by
 have e:(2^n:Int)=((2^n:Nat):Int):=by simp
 refine En Tryz.func185 λ_ _ _=>?_
 refine Ar (n/32:Nat) rfl ?_ (Yl4 (m:=32) rfl (by decide) (by omega))
 refine Ar (n/32+1:Nat) rfl ?_
 refine Mk (n/32+1) rfl (by omega) ?_
 refine Ar (n/32:Nat) rfl ?_ (Yl4 (m:=32) rfl (by decide) (by omega))
 refine Ar (n%32:Nat) rfl ?_ (show _/\_ from⟨by decide,Xta n 32⟩)
 refine Ar (2^(n%32):Nat) rfl ?_ (Xgc (W2o _ (by decide)))
 refine Eo (n/32) rfl (by omega)<|Sto rfl (by simp) rfl ?_
 refine R1 rfl (.sd (.pd (.bd (by rw[e];exact(decide_eq_false (by have:=W8k (n:=2) (m:=n) (by decide);omega)).symm)) (.own rfl (by simp) ?_)))
 rw[e,W1b,Xmm,W1i,W0b (by simp),<-ms,W2i]
 rfl
theorem Xcd(x:Rat): (x.den:Int)≠0:=by have:=x.den_nz;omega
section
variable{x:Rat}{s b:Nat}
theorem Xxp(h:Qs s x)(hb:b<=1099511627776)(I:s<=1099511627776): C0 336 [.d (dq x),.d (.int .i64 b)] (·=.d (dq (dnQ x b))):=by
 have hp:=h.mul (Xpd b)
 have i:Zs (b+1) (2^b:Int):=Zs.two (W0a _)
 have j:=(h.n.mul i).len (by omega)
 have l1:=h.n.len (by omega)
 have M:=i.len (by omega)
 have O:=h.d.len (by omega)
 have o:=Make_ok (p:=s+b+1) (a:=(x*pw b).floor) (b:=2^b) ((Zs.floor hp).mono (by omega)) (i.mono (by omega)) (by omega) (Xfk b)
 have hd:=DivMod_ok (a:=x.num*2^b) (b:=x.den) (by omega) (by omega) (Xcd x)
 rw[Xia] at hd
 refine En Tryz.func336 λ_ _ _=>?_
 refine Ce rfl (Xdb (n:=b) (by omega))<|Dz rfl ?_
 exact Ce rfl (Mul_ok (by omega) (by omega))<|Ce rfl hd<|Ce rfl o<|R1 rfl (.rf rfl)
theorem Yn3(h:Qs s x)(hb:b<=1099511627776)(i:s<=1099511627776): C0 337 [.d (dq x),.d (.int .i64 b)] (·=.d (dq (upQ x b))):=by
 refine En Tryz.func337 λ_ _ _=>?_
 exact Ce rfl (Xea h (by omega))<|Ce rfl (Xxp h.neg hb i)<|Ce rfl (Xea (Xxr h.neg b) (by omega))<|R1 rfl (.rf rfl)
theorem Xzv{p:Rat×Rat}(hp:Q2 s p)(hb:b<=1099511627776)(h:s<=1099511627776): C0 275 [.d (dI p),.d (.int .i64 b)] (·=.d (dI (rnd p b))):=by
 refine En Tryz.func275 λ_ _ _=>?_
 exact Dw rfl<|Ce rfl (Xxp hp.1 hb h)<|Ce rfl (Yn3 hp.2 hb h)<|R1 rfl (Xue rfl rfl)
theorem Xdk(i:Qs s x)(h:0<=x)(hb:b<=1099511627776)(T:s<=1099511627776): C0 338 [.d (dq x),.d (.int .i64 b)] (·=.d (dq (Xen x b))):=by
 have j:Zs (2*b+1) (2^(2*b):Int):=Zs.two (W0a _)
 have M:=(i.n.mul j).len (by omega)
 have o:=Ycn (b:=b) i
 have nx:=Xis (b:=b) h
 have O:=Ycz o nx
 have I:=Zs.floor o
 rw[Xe1 nx] at I
 have U:=Yga (show (sq2 x b).floor.toNat<_ from I)
 have l1:=i.n.len (by omega)
 have V:=j.len (by omega)
 have Z:=i.d.len (by omega)
 have hd:=DivMod_ok (a:=x.num*2^(2*b)) (b:=x.den) (by omega) (by omega) (Xcd x)
 rw[Xzo b h] at hd
 refine En Tryz.func338 λ_ _ _=>?_
 refine Dz rfl ?_
 refine Ar (2*b:Nat) rfl ?_
 refine Ce rfl (Xdb (n:=2*b) (by omega))<|Ce rfl (Mul_ok (by omega) (by omega))<|Ce rfl hd<|Ce rfl (Sqrt_ok (a:=(sq2 x b).floor.toNat) (by omega))<|Dz rfl ?_
 exact Ce rfl (Xdb (n:=b) (by omega))<|Ce rfl (Make_ok (p:=s+(2*b+2)) (a:=(rtF (sq2 x b):Int)) (b:=2^b) O (Zs.two (by omega)) (by omega) (Xfk b))<|R1 rfl (.rf rfl)
theorem Xzw{p:Rat×Rat}(hp:Q2 s p)(i:0<=p.2)(hb:b<=1099511627776)(I:1<=s)(o:s<=1099511627776): C0 276 [.d (dI p),.d (.int .i64 b)] (·=.d (dI (rts p b))):=by
 have M:=Ydk hp.1 I
 have j:=Make_ok (p:=b+1) (a:=1) (b:=2^b) (Zs.one (by omega)) (Zs.two (W0a _)) (by omega) (Xfk b)
 refine En Tryz.func276 λ_ _ _=>?_
 refine Ce rfl (Xbv hp.1 (by omega))<|By rfl (λh=>?_) λh=>?_
 have e:mx0 p.1=0:=if_pos (Ymc.1 h)
 rw[e] at M
 exact Ce rfl (Xah (z:=0) (by decide))<|Ce rfl (FromInt_ok (z:=1) (by decide))<|Ce rfl (Xdb (n:=b) (by omega))<|Ce rfl j<|Dw rfl<|Ce rfl (Xdk (x:=0) M W1x hb o)<|Ce rfl (Xdk hp.2 i hb o)<|Ce rfl (Xc0 (Xlj hp.2 i b) (Xij b) (by omega))<|R1 rfl (Xue (by show dq _=dq (Xen (mx0 p.1) b);rw[e]) rfl)
 have e:mx0 p.1=p.1:=if_neg (λe=>h (Ymc.2 e))
 exact Ce rfl (FromInt_ok (z:=1) (by decide))<|Ce rfl (Xdb (n:=b) (by omega))<|Ce rfl j<|Dw rfl<|Ce rfl (Xdk hp.1 (by rw[<-e];exact Xi4 _) hb o)<|Ce rfl (Xdk hp.2 i hb o)<|Ce rfl (Xc0 (Xlj hp.2 i b) (Xij b) (by omega))<|R1 rfl (Xue (by show dq _=dq (Xen (mx0 p.1) b);rw[e]) rfl)
end
theorem Xtt{k:Nat}: ∀ {s b:Nat} {t:Tw k} {a:Tow.El k},Xcg k t->TS s k t->Sz s (toL k a)->1<=s->k<=16->eB s b k<=1099511627776->b<=274877906944->C0 186 [.d (dt t),.d (de a),.d (.int .i64 b)] (·=.d (dI (enc k t a b))):=by
 induction k with
 | zero =>
  intro s b t a o j ha i hk T hb
  have T:s<=1099511627776:=T
  have U:∀y:Rat,Qs s y->C0 186 [.d (dts []),.d (dqs [y]),.d (.int .i64 b)] (·=.d (dI (y,y))):=λy I=>by
   refine En Tryz.func186 λ_ _ _=>?_
   exact Yes rfl rfl<|Ix 0 rfl (u:=dq y) rfl<|Ce rfl (Xd0 I (by omega))<|R1 rfl (.rf rfl)
  exact U a (ha.qs (W0g.2 rfl))
 | succ k V =>
  intro s b t a o j ha i hk T hb
  have hx:Sz s (toL k a.1):=Sz.left ha
  have I:Sz s (toL k a.2):=Sz.right ha
  have hge:=Xxn s b k
  have hs':3*eB s b k+4*b+6<=1099511627776:=T
  have qu:=Xhs (b:=b) o.1 j.1 hx i
  have qv:=Xhs (b:=b) o.1 j.1 I i
  have qr:=Xhs (b:=b) o.1 j.1 j.2 i
  have M:=Yd7 o b
  have qs:=Ycy (b:=b) qr M (by omega)
  have qm:=Xb2 qv qs
  have qa:=Xeh qu qm
  have O:=Xab k
  have hp:=p16 hk
  refine En Tryz.func186 λ_ _ _=>?_
  refine No rfl (by show ¬((((toT k t.1++[toL k t.2]).map dqs).length:Nat):Int)=0;rw[twL];omega)<|Ar k rfl ?_ (tw1 t (by omega))
  refine Ar (2^k:Nat) rfl ?_ (hvq a (by omega))
  refine Tk k ((toT k t.1).map dqs) rfl rfl (Xj0 t) (twT t) ?_
  refine Tk (2^k) ((toL k a.1).map dq) rfl rfl (Xcq a) (hvT a) ?_
  refine Ce rfl (V o.1 j.1 hx i (by omega) (by omega) hb)<|Dp (2^k) ((toL k a.2).map dq) rfl rfl (Xcq a) (hvD a) ?_
  refine Ce rfl (Xc5 (l:=toL k a.2) I.ps (by omega) (by rw[O];have:=p16 (by omega:k<=16);omega))<|By rfl (λh=>?_) λh=>?_
  have Z:enc (k+1) t a b=enc k t.1 a.1 b:=if_pos h
  exact R1 rfl (by rw[Z];exact .rf rfl)
  have Z:enc (k+1) t a b=rnd (Xf0 (enc k t.1 a.1 b) (Xa6 (enc k t.1 a.2 b) (rts (enc k t.1 t.2 b) b))) b:=if_neg h
  refine Dz rfl ?_
  refine Dp (2^k) ((toL k a.2).map dq) rfl rfl (Xcq a) (hvD a) ?_
  refine Ce rfl (V o.1 j.1 I i (by omega) (by omega) hb)<|Ix k rfl (twU t)<|Ce rfl (V o.1 j.1 j.2 i (by omega) (by omega) hb)<|Dw rfl<|Ce rfl (Xzw qr M (by omega) (by omega) (by omega))<|Ce rfl (Xfu qv qs (by omega))<|Ce rfl (Xee qu qm (by omega))<|Ce rfl (Xzv qa (by omega) (by omega)) ?_
  rw[Z]
  exact R1 rfl (.rf rfl)
theorem Xjw{k:Nat}{t:Tw k}{a:Tow.El k}{bits P r s:Nat}(M:Xcg k t)(hw:∀b,P<=b->Wid (enc k t a b) bits)(hT:TS r k t)(i:TS s k t)(ha:Sz s (toL k a))(o:1<=s)(Z:k<=16)(hv:vB r k r<=4398046511104)(hb:bits<=1024)(hP:P<=20000000000)(O:eB s (2*(P+bits+16)) k<=1099511627776):
 C0 96 [.d (dt t),.d (de a),.d (.int .i64 bits)] λv=>∃g,g<=2*(P+bits+16)/\v=.d (dI (enc k t a g))/\Wid (enc k t a g) bits:=by
 have hsb:s<=1099511627776:=W0j (Xxn s _ k) O
 obtain⟨B,hB⟩:∃B,B=eB s (2*(P+bits+16)) k:=⟨_,rfl⟩
 have T:=O
 rw[<-hB] at O
 have i:=i
 have hq:∀b,b<=2*(P+bits+16)->Q2 B (enc k t a b):=λb hb=>(Xhs M i ha o).mono (by rw[hB];exact Xmk hb k)
 refine En Tryz.func96 λ_ _ _=>?_
 refine No rfl (by omega)<|No rfl (by omega)<|Ce rfl (Xjl (l:=[toL k a]) (s:=s) hT M Z hv (W0j (Xdv k r) hv) (λx hx=>⟨a,W0g.1 hx,ha⟩) (by simp) (by omega))<|No rfl (by simp)<|Ce rfl (FromInt_ok (z:=1) (by decide))<|Ce rfl (Xdb (n:=bits) (by omega))<|Ce rfl (Make_ok (p:=bits+1) (a:=1) (b:=2^bits) (Zs.one (by omega)) (Zs.two (W0a _)) (by omega) (Xfk bits))<|Ar (bits+16:Nat) rfl ?_
 refine Lo (λ(g:Nat)=>[(0,.d (dt t)),(1,.d (de a)),(6,.ptr 6 0),(7,.ptr 7 0),(9,.d (.int .i64 g))]) (λ_=>[(6,.var (.st (.pr (.st (.pr (.st (.pr (.b false) .nil)) (.st (.pr (.b false) .nil)))) (.st (.pr (.st (.pr (.b false) .nil)) (.st (.pr (.b false) .nil))))))),(7,.var (.d (dq (Rat.divInt 1 (2^bits)))))]) (λg=>1<=g/\g<=2*(P+bits+16)) (λg=>2*(P+bits+16)-g) (bits+16) [] rfl ⟨by omega,by omega⟩ (λg ⟨hg1,U⟩=>?_)
 have j:=hq g U
 have V:eB s g k<=1099511627776:=W0j (Xmk U k) T
 refine Ce rfl (Xtt M i ha o Z V (by omega))<|Dw rfl<|Ce rfl (Xgp j (by omega))<|Ce rfl (Xbo (by rw[W4k];exact j.2.add j.1.neg) (Xij bits) (by omega))<|By rfl (λh=>?_) λh=>?_
 exact Rt rfl (.one (.rf rfl) rfl rfl) ⟨g,U,rfl,Xku M a g,Ynz.1 h⟩
 have I:g<P:=by
  by_cases I:g<P
  exact I
  exact absurd (Ynz.2 (hw g (by omega)).2) h
 refine Ar (2*g:Nat) rfl ?_
 exact Bk (2*g) [] rfl ⟨by omega,by omega⟩ (by show 2*(P+bits+16)-2*g<2*(P+bits+16)-g;omega)
theorem Xt8{k:Nat}{t:Tw k}{a:Tow.El k}{bits P s:Nat}(i:Xcg k t)(o:∀b,P<=b->Wid (enc k t a b) bits)(j:TS s k t)(ha:Sz s (toL k a))(h:1<=s)(I:k<=16)(M:vB s k s<=4398046511104)(hb:bits<=1024)(O:P<=1000000000)(T:eB s (2*(P+bits+16)) k<=274877906944):
 C0 96 [.d (dt t),.d (de a),.d (.int .i64 bits)] λv=>∃p:Rat×Rat,v=.d (dI p)/\inI k t a p.1 p.2/\Wid p bits/\Q2 (eB s (2*(P+bits+16)) k) p :=
 (Xjw i o j j ha h I M hb (W0j O (by decide)) (W0j T (by decide))).mono λv ⟨g,U,e,w⟩=>⟨_,e,Xe2 i a g,w,(Xhs i j ha h).mono (Xmk U k)⟩
end
end Go.Proofs.YtnedfplmoojbaaaGreatDoor
namespace Go.Proofs.YtnedfplmoojbaaaGreatDoor.P20
open Go Go.Vm Go.Num Go.Tow Go.Proofs.YtnedfplmoojbaaaGreatDoor
section
variable{s b:Nat}{x:Rat}
def Xy2(p q:Rat×Rat): Rat×Rat:=(p.1-q.2,p.2-q.1)
theorem Xu2{s s':Nat}{p q:Rat×Rat}(h:Q2 s p)(i:Q2 s' q): Q2 (s+s'+1) (Xy2 p q):=⟨by show Qs _ (p.1-q.2);rw[W4k];exact h.1.add i.2.neg,by show Qs _ (p.2-q.1);rw[W4k];exact h.2.add i.1.neg⟩
theorem Xw1{n:Nat}(h:n<=8796093022200): C0 281 [.d (.int .i64 n)] (·=.d (dz (2^n:Int))):=by
 have e:(2^n:Int)=((2^n:Nat):Int):=by simp
 refine En Tryz.func281 λ_ _ _=>?_
 refine Ar (n/32:Nat) rfl ?_ (Yl4 (m:=32) rfl (by decide) (by omega))
 refine Ar (n/32+1:Nat) rfl ?_
 refine Mk (n/32+1) rfl (by omega) ?_
 refine Ar (n/32:Nat) rfl ?_ (Yl4 (m:=32) rfl (by decide) (by omega))
 refine Ar (n%32:Nat) rfl ?_ (show _/\_ from⟨by decide,Xta n 32⟩)
 refine Ar (2^(n%32):Nat) rfl ?_ (Xgc (W2o _ (by decide)))
 refine Eo (n/32) rfl (by omega)<|Sto rfl (by simp) rfl ?_
 refine R1 rfl (.sd (.pd (.bd (by rw[e];exact(decide_eq_false (Int.not_lt.2 (W5x _))).symm)) (.own rfl (by simp) ?_)))
 rw[e,W1b,Xmm,W1i,W0b (by simp),<-ms,W2i]
 rfl
theorem Xpx{p q:Rat×Rat}{t:Nat}(hp:Q2 s p)(hq:Q2 t q)(h:s+t+1<=4398046511104): C0 106 [.d (dI p),.d (dI q)] (·=.d (dI (Xy2 p q))):=by
 refine En Tryz.func106 λ_ _ _=>?_
 exact Dw rfl<|Ce rfl (Xeu hp.1 hq.2 (by omega))<|Ce rfl (Xeu hp.2 hq.1 (by omega))<|R0
theorem Xsj(h:Qs s x)(hb:b<=1099511627776)(o:s<=1099511627776): C0 283 [.d (dq x),.d (dz (2^b:Int))] (·=.d (dz (x*pw b).floor)):=by
 have i:Zs (b+1) (2^b:Int):=Zs.two (W0a _)
 have j:=(h.n.mul i).len (by omega)
 have l1:=h.n.len (by omega)
 have I:=i.len (by omega)
 have M:=h.d.len (by omega)
 have hd:=DivMod_ok (a:=x.num*2^b) (b:=x.den) (by omega) (by omega) (Xcd x)
 rw[Xia] at hd
 refine En Tryz.func283 λ_ _ _=>?_
 refine Dz rfl ?_
 exact Ce rfl (Mul_ok (by omega) (by omega))<|Ce rfl hd<|R0
theorem Yhe(h:Qs s x)(hb:b<=1099511627776)(i:s<=1099511627776): C0 284 [.d (dq x),.d (dz (2^b:Int))] (·=.d (dz (-((-x)*pw b).floor))):=by
 have hf:=Zs.floor (h.neg.mul (Xpd b))
 have j:=hf.len (by omega)
 refine En Tryz.func284 λ_ _ _=>?_
 exact Dw rfl<|Ce rfl (Xea h (by omega))<|Ce rfl (Xsj h.neg hb i)<|Ce rfl (Neg_ok (by omega))<|R0
theorem Xv5{n:Int}{p:Nat}(h:Zs p n)(hp:p<=1099511627776)(hb:b<=1099511627776): C0 282 [.d (dz n),.d (dz (2^b:Int))] (·=.d (dq (Rat.divInt n (2^b)))):=by
 refine En Tryz.func282 λ_ _ _=>?_
 exact Ce rfl (Make_ok (p:=p+b+1) (h.mono (by omega)) (Zs.two (by omega)) (by omega) (Xfk b))<|R0
theorem Yiz{x:Rat}{b:Nat}: upQ x b=Rat.divInt (-((-x)*pw b).floor) (2^b):=by
 unfold upQ dnQ
 rw[Rat.neg_divInt]
theorem Xez{p:Rat×Rat}(hp:Q2 s p)(hb:b<=4096)(j:s<=1000000000000): C0 198 [.d (dI p),.d (.int .i64 b)] (·=.d (dI (rnd p b))):=by
 have h:=Zs.floor (hp.1.mul (Xpd b))
 have i:=(Zs.floor (hp.2.neg.mul (Xpd b))).neg
 refine En Tryz.func198 λ_ _ _=>?_
 refine No rfl (by omega)<|No rfl (by omega)<|Ce rfl (Xw1 (n:=b) (by omega))<|Dw rfl<|Ce rfl (Xsj hp.1 (by omega) (by omega))<|Ce rfl (Xv5 h (by omega) (by omega))<|Ce rfl (Yhe hp.2 (by omega) (by omega))<|Ce rfl (Xv5 i (by omega) (by omega)) ?_
 rw[<-Yiz]
 exact R0
def meetI(p q:Rat×Rat): Rat×Rat:=(hi2 p.1 q.1,lo2 p.2 q.2)
theorem Xsc{p q:Rat×Rat}(hp:Q2 s p)(hq:Q2 s q)(V:s<=1000000000000)(h:¬(meetI p q).2<(meetI p q).1): C0 104 [.d (dI p),.d (dI q)] (·=.tup (.pr (.d (dI (meetI p q))) (.b true))):=by
 have q1:Qs s (meetI p q).1:=Xsd hp.1 hq.1
 have q2:Qs s (meetI p q).2:=Xr6 hp.2 hq.2
 have T:=Xpz (x:=(meetI p q).1) (r:=[(meetI p q).2]) (s:=s) (λy U=>by
  simp only[W1s,List.not_mem_nil,or_false] at U
  rcases U with rfl | rfl
  exact q1
  exact q2) (by omega) (by simp)
 have j:Xpo (meetI p q).1 [(meetI p q).2]=(meetI p q).1:=if_neg h
 have i:Xpq (meetI p q).1 [(meetI p q).2]=(meetI p q).2:=by
  show (if (meetI p q).1<(meetI p q).2 then (meetI p q).2 else (meetI p q).1)=_
  split
  rfl
  grind
 rw[j,i] at T
 have o:∀ {l u:Rat},l=(meetI p q).1->u=(meetI p q).2->C0 187 [.d (dqs [l,u])] (·=.d (dI (meetI p q))):=λe f=>by rw[e,f];exact T
 have I:∀ {l u:Rat},l=(meetI p q).1->u=(meetI p q).2->¬Xmw l u>0:=λe f=>by rw[e,f,Xx4];exact h
 refine En Tryz.func104 λ_ _ _=>?_
 refine Dz rfl ?_
 refine Ce rfl (Xbo hq.1 hp.1 (by omega))<|By rfl (λO=>?_) λO=>?_
 have j:q.1=(meetI p q).1:=(if_pos (Xx4.1 O)).symm
 refine Ce rfl (Xbo hq.2 hp.2 (by omega))<|By rfl (λM=>?_) λM=>?_
 have i:q.2=(meetI p q).2:=(if_pos (Yhb.1 M)).symm
 exact Ce rfl (Xbo (x:=q.1) (y:=q.2) hq.1 hq.2 (by omega))<|No rfl (I j i)<|Ce rfl (o j i)<|RTt rfl (.cons (.rf rfl) (.one (.rf rfl) (λ_ _ e=>by cases e) (λ_ _ e=>by cases e)))
 have i:p.2=(meetI p q).2:=(if_neg λh=>M (Yhb.2 h)).symm
 exact Ce rfl (Xbo (x:=q.1) (y:=p.2) hq.1 hp.2 (by omega))<|No rfl (I j i)<|Ce rfl (o j i)<|RTt rfl (.cons (.rf rfl) (.one (.rf rfl) (λ_ _ e=>by cases e) (λ_ _ e=>by cases e)))
 have j:p.1=(meetI p q).1:=(if_neg λh=>O (Xx4.2 h)).symm
 refine Ce rfl (Xbo hq.2 hp.2 (by omega))<|By rfl (λM=>?_) λM=>?_
 have i:q.2=(meetI p q).2:=(if_pos (Yhb.1 M)).symm
 exact Ce rfl (Xbo (x:=p.1) (y:=q.2) hp.1 hq.2 (by omega))<|No rfl (I j i)<|Ce rfl (o j i)<|RTt rfl (.cons (.rf rfl) (.one (.rf rfl) (λ_ _ e=>by cases e) (λ_ _ e=>by cases e)))
 have i:p.2=(meetI p q).2:=(if_neg λh=>M (Yhb.2 h)).symm
 exact Ce rfl (Xbo (x:=p.1) (y:=p.2) hp.1 hp.2 (by omega))<|No rfl (I j i)<|Ce rfl (o j i)<|RTt rfl (.cons (.rf rfl) (.one (.rf rfl) (λ_ _ e=>by cases e) (λ_ _ e=>by cases e)))
end
section
def sm(p:Rat×Rat): Bool:=Nat.ble (p.1.num.natAbs+1) (2^250)&&Nat.ble (p.1.den+1) (2^250)&&Nat.ble (p.2.num.natAbs+1) (2^250)&&Nat.ble (p.2.den+1) (2^250)
theorem Yh8{p:Rat×Rat}(h:sm p=true): Q2 250 p:=by
 unfold sm at h
 simp only[W0d] at h
 obtain⟨⟨⟨i,j⟩,o⟩,I⟩:=h
 have i:=W1e i
 have j:=W1e j
 have o:=W1e o
 have I:=W1e I
 exact⟨⟨i,by show ((p.1.den:Int)).natAbs<_;rw[W1b];exact j⟩,⟨o,by show ((p.2.den:Int)).natAbs<_;rw[W1b];exact I⟩⟩
def Xdu(b k:Nat)(P:Rat×Rat): Rat×Rat:=rnd (Xa6 P (Rat.divInt 1 (2*k+1:Nat),Rat.divInt 1 (2*k+1:Nat))) b
def Xib(k:Nat)(S T:Rat×Rat): Rat×Rat:=if k%2=0 then Xf0 S T else Xy2 S T
def Xym(b:Nat)(Q:Rat×Rat): Nat->Nat->Rat×Rat->Rat×Rat->Option (Rat×Rat)
 | 0,_,_,_=>none
 | n+1,k,P,S=>if sm P&&sm (Xdu b k P)&&sm S&&sm (Xib k S (Xdu b k P)) then
  (if 2*k+1>b then some (Xf0 (Xib k S (Xdu b k P)) (-(Xdu b k P).2,(Xdu b k P).2)) else Xym b Q n (k+1) (rnd (Xa6 P Q) b) (Xib k S (Xdu b k P))) else none
def Xoj(z:Rat)(b:Nat): Rat×Rat:=rnd (z,z) b
def Xyn(z:Rat)(b:Nat): Rat×Rat:=rnd (Xa6 (Xoj z b) (Xoj z b)) b
def Yrc(z:Rat)(b:Nat): Option (Rat×Rat):=if sm (z,z)&&sm (Xoj z b)&&sm (Xyn z b) then Xym b (Xyn z b) 150 0 (Xoj z b) (0,0) else none
def Ybx(z:Rat)(b:Nat): Option (Rat×Rat):=if sm (Xoj z b)&&sm (Xyn z b) then Xym b (Xyn z b) 150 0 (Xoj z b) (0,0) else none
theorem Yrt{a m:Nat}(h:0<m): arB .rem .i64 a m (a%m:Nat):=R9.remN h
theorem Yox{a b:Nat}(h:a*b<9223372036854775808): arB .mul .i64 a b (a*b:Nat):=by
 show IntKind.i64.wrap ((a:Int)*b)=((a*b:Nat):Int)
 rw[W2r]
 exact wI (by rw[<-W2r];omega)
theorem Xxc{k:Nat}(h:k<=1000): Qs 40 (Rat.divInt 1 (2*k+1:Nat)):=Qs.divInt (Zs.one (by decide)) (show (((2*k+1:Nat):Int)).natAbs<2^40 by rw[W1b];omega) (by omega)
theorem Xjs{z:Rat}{b s:Nat}{R:Rat×Rat}(V:Qs s z)(hs:s<=100000000000)(hb:b<=300)(h:Ybx z b=some R): C0 109 [.d (dq z),.d (.int .i64 b)] (·=.d (dI R)):=by
 unfold Ybx at h
 split at h<;>try cases h
 rename_i o
 simp only[W0d] at o
 obtain⟨c2,c3⟩:=o
 have q1:Q2 s (z,z):=⟨V,V⟩
 have q2:=(Yh8 c2)
 have I:=(Yh8 c3)
 refine En Tryz.func109 λ_ _ _=>?_
 refine Ce rfl (Xd0 q1.1 (by omega))<|Ce rfl (Xez q1 (by omega) (by omega))<|Ce rfl (Xfu (p:=Xoj z b) (q:=Xoj z b) q2 q2 (by decide))<|Ce rfl (Xez (Xb2 q2 q2) (by omega) (by decide))<|Ce rfl (Xah (z:=0) (by decide))<|Ce rfl (Xd0 (x:=0) qs0 (by decide))<|Lo (λ(s:Nat×Nat×(Rat×Rat)×(Rat×Rat))=>[(1,.d (.int .i64 b)),(4,.ptr 4 0),(5,.ptr 5 0),(6,.ptr 6 0),(7,.ptr 7 0),(8,.d (.int .i64 s.2.1))]) (λs=>[(4,.var zI),(5,.var (.d (dI s.2.2.1))),(6,.var (.d (dI (Xyn z b)))),(7,.var (.d (dI s.2.2.2)))]) (λs=>s.1+s.2.1<=150/\Xym b (Xyn z b) s.1 s.2.1 s.2.2.1 s.2.2.2=some R) (λs=>s.1) (150,0,Xoj z b,(0,0)) [] rfl ⟨W0a _,h⟩ (λ(n,k,P,S) ⟨hn,i⟩=>?_)
 simp only at hn i
 cases n with
 | zero=>cases i
 | succ n =>
  unfold Xym at i
  split at i<;>try cases i
  rename_i o
  simp only[W0d] at o
  obtain⟨⟨⟨c4,c5⟩,c6⟩,c7⟩:=o
  have q4:=(Yh8 c4)
  have j:=(Yh8 c5)
  have Z:=(Yh8 c6)
  have M:=(Yh8 c7)
  have O:Q2 40 (Rat.divInt 1 (2*k+1:Nat),Rat.divInt 1 (2*k+1:Nat)):=⟨Xxc (by omega),Xxc (by omega)⟩
  refine Dw rfl<|Ar (2*k:Nat) rfl ?_ (Yox (a:=2) (b:=k) (by omega))
  refine Ar (2*k+1:Nat) rfl ?_ (wr (by omega:((2*k:Nat):Int)+1=((2*k+1:Nat):Int)) (by simp only[inK];omega))
  refine Ce rfl (Xck (a:=1) (b:=(2*k+1:Nat)) (by omega) (by omega))<|Ce rfl (Xd0 O.1 (by decide))<|Ce rfl (Xfu q4 O (by decide))<|Ce rfl (Xez (Xb2 q4 O) (by omega) (by decide))<|Ar (k%2:Nat) rfl ?_ (Yrt (a:=k) (m:=2) (by decide))
  refine By rfl (λh1=>?_) λh1=>?_
  have T:Xib k S (Xdu b k P)=Xf0 S (Xdu b k P):=if_pos (by omega)
  rw[T] at i M
  refine Ce rfl (Xee Z j (by decide))<|Ar (2*k:Nat) rfl ?_ (Yox (a:=2) (b:=k) (by omega))
  refine Ar (2*k+1:Nat) rfl ?_ (wr (by omega:((2*k:Nat):Int)+1=((2*k+1:Nat):Int)) (by simp only[inK];omega))
  refine By rfl (λU=>?_) λU=>?_
  rw[if_pos (by omega)] at i
  injection i with i
  refine Dw rfl<|Ce rfl (Xea j.2 (by decide))<|Ce rfl (Xee (p:=Xf0 S (Xdu b k P)) (q:=(-(Xdu b k P).2,(Xdu b k P).2)) M ⟨j.2.neg,j.2⟩ (by decide)) ?_
  rw[i]
  exact R0
  rw[if_neg (by omega)] at i
  refine Ce rfl (Xfu q4 I (by decide))<|Ce rfl (Xez (Xb2 q4 I) (by omega) (by decide))<|Ar (k+1:Nat) rfl ?_ (wr (by omega:(k:Int)+1=((k+1:Nat):Int)) (by simp only[inK];omega))
  exact Bk (n,k+1,rnd (Xa6 P (Xyn z b)) b,Xf0 S (Xdu b k P)) [] rfl ⟨by show n+(k+1)<=150;omega,i⟩ (by omega:n<n+1)
  have T:Xib k S (Xdu b k P)=Xy2 S (Xdu b k P):=if_neg (by omega)
  rw[T] at i M
  refine Ce rfl (Xpx Z j (by decide))<|Ar (2*k:Nat) rfl ?_ (Yox (a:=2) (b:=k) (by omega))
  refine Ar (2*k+1:Nat) rfl ?_ (wr (by omega:((2*k:Nat):Int)+1=((2*k+1:Nat):Int)) (by simp only[inK];omega))
  refine By rfl (λU=>?_) λU=>?_
  rw[if_pos (by omega)] at i
  injection i with i
  refine Dw rfl<|Ce rfl (Xea j.2 (by decide))<|Ce rfl (Xee (p:=Xy2 S (Xdu b k P)) (q:=(-(Xdu b k P).2,(Xdu b k P).2)) M ⟨j.2.neg,j.2⟩ (by decide)) ?_
  rw[i]
  exact R0
  rw[if_neg (by omega)] at i
  refine Ce rfl (Xfu q4 I (by decide))<|Ce rfl (Xez (Xb2 q4 I) (by omega) (by decide))<|Ar (k+1:Nat) rfl ?_ (wr (by omega:(k:Int)+1=((k+1:Nat):Int)) (by simp only[inK];omega))
  exact Bk (n,k+1,rnd (Xa6 P (Xyn z b)) b,Xy2 S (Xdu b k P)) [] rfl ⟨by show n+(k+1)<=150;omega,i⟩ (by omega:n<n+1)
end
section
def inB(x:Rat)(p:Rat×Rat): Prop:=p.1<=x/\x<=p.2
section
variable{x y:Rat}{p q:Rat×Rat}{b:Nat}
theorem inB.rnd(h:inB x p): inB x (rnd p b):=⟨W1n (Xn1 _ _) h.1,W1n h.2 (Xqo _ _)⟩
theorem inB.add(h:inB x p)(k:inB y q): inB (x+y) (Xf0 p q):=by
 obtain⟨a,b⟩:=h;obtain⟨c,d⟩:=k
 exact⟨show p.1+q.1<=x+y by grind,show x+y<=p.2+q.2 by grind⟩
theorem inB.sub(h:inB x p)(k:inB y q): inB (x-y) (Xy2 p q):=by
 obtain⟨a,b⟩:=h;obtain⟨c,d⟩:=k
 exact⟨show p.1-q.2<=x-y by grind,show x-y<=p.2-q.1 by grind⟩
theorem Xpl(h:inB x p)(y:Rat): (∃v,(v=p.1\/v=p.2)/\v*y<=x*y)/\∃v,(v=p.1\/v=p.2)/\x*y<=v*y:=by
 rcases Rat.le_total (a:=0) (b:=y) with j | j
 exact⟨⟨p.1,.inl rfl,W0f h.1 j⟩,p.2,.inr rfl,W0f h.2 j⟩
 have i:0<=-y:=by grind
 have o:=W0f h.1 i
 have I:=W0f h.2 i
 exact⟨⟨p.2,.inr rfl,by grind⟩,p.1,.inl rfl,by grind⟩
theorem inB.mul(h:inB x p)(k:inB y q): inB (x*y) (Xa6 p q):=by
 obtain⟨⟨v,I,T⟩,o,i,U⟩:=Xpl h y
 obtain⟨⟨w,M,V⟩,_⟩:=Xpl k v
 obtain⟨_,O,j,Z⟩:=Xpl k o
 have L:=Xi8 p q
 have R:=Xi9 p q
 refine⟨?_,?_⟩
 have:(Xa6 p q).1<=v*w:=by rcases I with rfl | rfl<;>rcases M with rfl | rfl<;>first | exact L.1 | exact L.2.1 | exact L.2.2.1 | exact L.2.2.2
 grind
 have:o*O<=(Xa6 p q).2:=by rcases i with rfl | rfl<;>rcases j with rfl | rfl<;>first | exact R.1 | exact R.2.1 | exact R.2.2.1 | exact R.2.2.2
 grind
end
def trm(z:Rat)(k:Nat): Rat:=z^(2*k+1)*Rat.divInt 1 (2*k+1:Nat)
def aTs(z:Rat): Nat->Rat
 | 0=>0
 | k+1=>if k%2=0 then aTs z k+trm z k else aTs z k-trm z k
section
variable{z:Rat}
theorem Xkf(h0:0<=z): ∀n:Nat,0<=z^n:=λn=>Rat.pow_nonneg h0
theorem Xgh(m:Nat): 0<=Rat.divInt 1 (m+1:Nat):=by
 exact Rat.divInt_nonneg (by decide) (by omega)
theorem one_mul(m:Nat): ((m+1:Nat):Rat)*Rat.divInt 1 (m+1:Nat)=1:=by
 rw[W4u,W5n,show ((1:Int):Rat)=1 from rfl,W5p]
 exact W5z _ (λh => by have:(m + 1:Nat) = 0 := by exact_mod_cast h
                       omega)
theorem Xrs{m n:Nat}(h:m<=n): Rat.divInt 1 (n+1:Nat)<=Rat.divInt 1 (m+1:Nat):=by
 have a:=one_mul m
 have b:=one_mul n
 have p:=Xgh m
 have q:=Xgh n
 have i:((m+1:Nat):Rat)<=((n+1:Nat):Rat):=by exact_mod_cast Nat.succ_le_succ h
 have s:=W1a (W0f i p) q
 rw[a,W5w,<-W4i,W8b (Rat.divInt 1 (n+1:Nat)),b,W5p] at s
 exact s
theorem Xuv(h0:0<=z)(k:Nat): 0<=trm z k:=W2z (Xkf h0 _) (Xgh _)
theorem Xqp(h0:0<=z)(o:z<=1)(k:Nat): trm z (k+1)<=trm z k:=by
 have hi:Rat.divInt 1 (2*(k+1)+1:Nat)<=Rat.divInt 1 (2*k+1:Nat):=Xrs (by omega)
 have h:z*z<=1:=by have:=W0f o h0;grind
 have i:=Xgh (2*(k+1))
 have j:=Xkf h0 (2*k+1)
 have e:z^(2*(k+1)+1)=z^(2*k+1)*(z*z):=by rw[show 2*(k+1)+1=2*k+1+1+1 by omega,W3q,W3q,W4i]
 unfold trm
 rw[e]
 have s1:=W1a h j
 rw[W5w] at s1
 exact W1n (W0f s1 i) (W1a hi j)
theorem alt(h0:0<=z)(h:z<=1): ∀d M,if M%2=0 then aTs z M<=aTs z (M+d)/\aTs z (M+d)<=aTs z M+trm z M else aTs z M-trm z M<=aTs z (M+d)/\aTs z (M+d)<=aTs z M
 | 0,M=>by
  have:=Xuv h0 M
  split<;>exact⟨by rw[W2e];grind,by rw[W2e];grind⟩
 | d+1,M=>by
  have i:=alt h0 h d (M+1)
  have a:=Xqp h0 h M
  have n:=Xuv h0 (M+1)
  rw[show M+(d+1)=M+1+d by omega]
  have e:aTs z (M+1)=if M%2=0 then aTs z M+trm z M else aTs z M-trm z M:=rfl
  by_cases j:M%2=0
  rw[if_pos j] at e |-
  rw[if_neg (by omega)] at i
  rw[e] at i
  exact⟨by grind,by grind⟩
  rw[if_neg j] at e |-
  rw[if_pos (by omega)] at i
  rw[e] at i
  exact⟨by grind,by grind⟩
theorem Yhq{b:Nat}{Q:Rat×Rat}(h0:0<=z)(I:z<=1)(T:inB (z*z) Q): ∀n k P S R,Xym b Q n k P S=some R->inB (z^(2*k+1)) P->inB (aTs z k) S->∀N,k+n<=N->inB (aTs z N) R:=by
 intro n
 induction n with
 | zero=>intro k P S R h;cases h
 | succ n U =>
  intro k P S R h M O N V
  have o:inB (trm z k) (Xdu b k P):=(M.mul ⟨W1x,W1x⟩).rnd
  have j:inB (aTs z (k+1)) (Xib k S (Xdu b k P)):=by
   unfold Xib
   show inB (if k%2=0 then aTs z k+trm z k else aTs z k-trm z k) _
   split
   exact O.add o
   exact O.sub o
  unfold Xym at h
  split at h
  split at h
  injection h with h
  subst h
  obtain⟨d,rfl⟩:∃d,N=k+1+d:=⟨N-(k+1),by omega⟩
  have i:=alt h0 I d (k+1)
  have a:=Xqp h0 I k
  have n:=Xuv h0 (k+1)
  have t:=o.2
  obtain⟨s1,Z⟩:=j
  refine⟨?_,?_⟩
  show (Xib k S (Xdu b k P)).1+-(Xdu b k P).2<=_
  split at i<;>grind
  show _<=(Xib k S (Xdu b k P)).2+(Xdu b k P).2
  split at i<;>grind
  refine U (k+1) _ _ R h ?_ j N (by omega)
  rw[show 2*(k+1)+1=2*k+1+1+1 by omega,W3q,W3q,W4i]
  exact(M.mul T).rnd
  cases h
def Xog(t:Nat->Rat): Nat->Rat
 | 0=>0
 | k+1=>if k%2=0 then Xog t k+t k else Xog t k-t k
theorem Xs2{t:Nat->Rat}(h0:∀k,0<=t k)(h:∀k,t (k+1)<=t k): ∀d M,if M%2=0 then Xog t M<=Xog t (M+d)/\Xog t (M+d)<=Xog t M+t M else Xog t M-t M<=Xog t (M+d)/\Xog t (M+d)<=Xog t M
 | 0,M=>by
  have:=h0 M
  split<;>exact⟨by rw[W2e];grind,by rw[W2e];grind⟩
 | d+1,M=>by
  have i:=Xs2 h0 h d (M+1)
  have a:=h M
  have n:=h0 (M+1)
  rw[show M+(d+1)=M+1+d by omega]
  have e:Xog t (M+1)=if M%2=0 then Xog t M+t M else Xog t M-t M:=rfl
  by_cases j:M%2=0
  rw[if_pos j] at e |-
  rw[if_neg (by omega)] at i
  rw[e] at i
  exact⟨by grind,by grind⟩
  rw[if_neg j] at e |-
  rw[if_pos (by omega)] at i
  rw[e] at i
  exact⟨by grind,by grind⟩
theorem Xs1{y:Rat}: ∀N,aTs z N-aTs y N=Xog (λk=>trm z k-trm y k) N
 | 0=>by show (0:Rat)-0=0;grind
 | N+1=>by
  have i:=Xs1 (y:=y) N
  show (if N%2=0 then aTs z N+trm z N else aTs z N-trm z N)-(if N%2=0 then aTs y N+trm y N else aTs y N-trm y N)=if N%2=0 then Xog _ N+(trm z N-trm y N) else Xog _ N-(trm z N-trm y N)
  rw[<-i]
  split<;>grind
variable{x y:Rat}
theorem Xqn(j:0<=y)(h:y<=x): ∀n:Nat,0<=x^n-y^n
 | 0=>by rw[W6a,W6a];grind
 | n+1=>by
  have i:=Xqn j h n
  have o:0<=x:=W1n j h
  have a:=W2z i o
  have b:=W2z (Xkf j n) (show 0<=x-y by grind)
  rw[W3q,W3q]
  grind
theorem Xk8(j:0<=y)(h:y<=x)(o:x<=1): ∀n:Nat,(n:Rat)*(x^(n+1)-y^(n+1))<=((n:Rat)+1)*(x^n-y^n)
 | 0=>by rw[W6a,W6a];show (0:Rat)*_<=_;grind
 | n+1=>by
  have i:=Xk8 j h o n
  have O:0<=x:=W1n j h
  have I:=W2z O j
  have u:=Xqn j h (n+1)
  have V:(0:Rat)<=n:=by exact_mod_cast W0r n
  obtain⟨m,M⟩:∃m:Rat,m=n:=⟨_,rfl⟩
  have T:x^(n+1+1)-y^(n+1+1)=(x+y)*(x^(n+1)-y^(n+1))-x*y*(x^n-y^n):=by
   rw[W3q x (n+1),W3q y (n+1),W3q x n,W3q y n];grind
  have s1:=W1a i I
  have U:0<=(1-x)*(1-y):=W2z (by grind) (by grind)
  have Z:x*y<=1:=by
   have:=W0f o j
   grind
  have g3:0<=((m+1)*((1-x)*(1-y))+(1-x*y))*(x^(n+1)-y^(n+1)):=W2z (by
   have:=W2z (show 0<=m+1 by rw[M];grind) U
   grind) u
  rw[T,show ((n+1:Nat):Rat)=m+1 by rw[M];exact_mod_cast rfl]
  rw[<-M] at s1
  generalize x^(n+1)-y^(n+1)=v at *
  generalize x^n-y^n=w at *
  grind
theorem Xzg(i:0<=y)(h:y<=x)(k:Nat): 0<=trm x k-trm y k:=by
 have:=W2z (Xqn i h (2*k+1)) (Xgh (2*k))
 unfold trm
 grind
theorem Xs9(j:0<=y)(h:y<=x)(i:x<=1)(k:Nat): trm x (k+1)-trm y (k+1)<=trm x k-trm y k:=by
 have s1:=Xk8 j h i (2*k+1)
 have T:=Xk8 j h i (2*k+1+1)
 have i1:=one_mul (2*k)
 have i2:=one_mul (2*(k+1))
 have p1:=Xgh (2*k)
 have U:=Xgh (2*(k+1))
 have u2:=Xqn j h (2*k+1+1)
 unfold trm
 rw[show 2*(k+1)+1=2*k+1+1+1 by omega] at i2 U |-
 have o:((2*k+1+1:Nat):Rat)=((2*k+1:Nat):Rat)+1:=by exact_mod_cast rfl
 have c2:((2*k+1+1+1:Nat):Rat)=((2*k+1:Nat):Rat)+2:=by
  rw[Rat.natCast_add,o];show _+1+1=_;grind
 have M:(0:Rat)<=((2*k+1:Nat):Rat):=by exact_mod_cast W0r _
 rw[o] at T
 rw[c2] at i2
 have e3:∀L:Rat,x^(2*k+1+1+1)*L-y^(2*k+1+1+1)*L=(x^(2*k+1+1+1)-y^(2*k+1+1+1))*L:=λL=>by grind
 rw[e3]
 generalize x^(2*k+1+1+1)-y^(2*k+1+1+1)=O at *
 generalize x^(2*k+1+1)-y^(2*k+1+1)=w2 at *
 have V:=one_mul (2*k+1)
 have p3:=Xgh (2*k+1)
 rw[o] at V
 generalize ((2*k+1:Nat):Rat)=m at *
 generalize Rat.divInt 1 ((2*k+1:Nat):Int)=I at *
 generalize Rat.divInt 1 ((2*k+1+1:Nat):Int)=J at *
 generalize Rat.divInt 1 ((2*k+1+1+1:Nat):Int)=L at *
 generalize x^(2*k+1)=a at *
 generalize y^(2*k+1)=b at *
 have t1:=W1a T M
 have t2:=W1a s1 (show 0<=m+2 by grind)
 have t3:(m+1)*(m*O)<=(m+1)*((m+2)*(a-b)):=by grind
 have Z:=W1a t3 p3
 rw[<-W4i,<-W4i J (m+1),W8b J (m+1),V,W5p,W5p] at Z
 have t5:=W0f Z (W2z p1 U)
 have f1:m*O*(I*L)=(m*I)*(O*L):=by grind
 have f2:(m+2)*(a-b)*(I*L)=((m+2)*L)*(a*I-b*I):=by grind
 rw[i1,W5p] at f1
 rw[i2,W5p] at f2
 rw[f1,f2] at t5
 exact t5
theorem Xic(o:0<=y)(i:y<=x)(j:x<=1)(N:Nat): aTs y N<=aTs x N/\aTs x N<=aTs y N+(x-y):=by
 have h:=Xs2 (t:=λk=>trm x k-trm y k) (Xzg o i) (Xs9 o i j) N 0
 rw[if_pos rfl,W1l,<-Xs1 (z:=x) (y:=y) N] at h
 have e:Xog (λk=>trm x k-trm y k) 0=0:=rfl
 have I:trm x 0-trm y 0=x-y:=by
  unfold trm
  rw[show Rat.divInt 1 ((2*0+1:Nat):Int)=1 by decide +kernel,show 2*0+1=0+1 from rfl,W3q,W3q,W6a,W6a]
  grind
 rw[e,I] at h
 exact⟨by grind,by grind⟩
theorem Xju{b:Nat}{R:Rat×Rat}(h0:0<=z)(j:z<=1)(h:Ybx z b=some R)(N:Nat)(hN:150<=N): inB (aTs z N) R:=by
 unfold Ybx at h
 split at h
 have i:inB z (Xoj z b):=inB.rnd ⟨W1x,W1x⟩
 exact Yhq h0 j (i.mul i).rnd 150 0 _ _ R h (by rw[show z^(2*0+1)=z by rw[W3q,W6a,W5p]];exact i) ⟨W1x,W1x⟩ N (by omega)
 cases h
def rst(q:Rat): Rat:=(q-1/2)*(1+q*(1/2))⁻¹
def atn(q:Rat)(N:Nat): Rat:=if q<=1/2 then aTs q N else aTs (1/2) N+aTs (rst q) N
theorem Xvq{q:Rat}(h:1/2<=q)(i:q<=1): 0<=rst q/\rst q<=1:=by
 have hp:0<1+q*(1/2):=by grind
 have hi:=Rat.inv_pos.2 hp
 have e:=W5z (1+q*(1/2)) (by grind)
 have a:=W2z (show 0<=q-1/2 by grind) (W1m hi)
 have b:=W0f (show q-1/2<=1+q*(1/2) by grind) (W1m hi)
 rw[e] at b
 exact⟨a,b⟩
theorem Xre{q r:Rat}(h:1/2<=q)(M:q<=r)(V:r<=1): rst q<=rst r/\rst r<=rst q+(r-q):=by
 have hp:0<1+q*(1/2):=by grind
 have o:0<1+r*(1/2):=by grind
 have hi:=Rat.inv_pos.2 hp
 have i:=Rat.inv_pos.2 o
 have e:=W5z (1+q*(1/2)) (by grind)
 have O:=W5z (1+r*(1/2)) (by grind)
 unfold rst
 generalize (1+q*(1/2))⁻¹=u at *
 generalize (1+r*(1/2))⁻¹=v at *
 have I:=W2z (W1m hi) (W1m i)
 have T:(r-1/2)*v-(q-1/2)*u=(5/4)*(r-q)*(u*v):=by
  have a:(r-1/2)*v=(r-1/2)*v*((1+q*(1/2))*u):=by rw[e,W5w]
  have b:(q-1/2)*u=(q-1/2)*u*((1+r*(1/2))*v):=by rw[O,W5w]
  rw[a,b]
  grind
 have hd:0<=r-q:=by grind
 have Z:=W2z (W2z (by decide +kernel:(0:Rat)<=5/4) hd) I
 have hu:u<=4/5:=by
  have:=W0f (show (5:Rat)/4<=1+q*(1/2) by grind) (W1m hi)
  grind
 have U:v<=1:=by
  have:=W0f (show (1:Rat)<=1+r*(1/2) by grind) (W1m i)
  grind
 have j:u*v<=4/5:=by
  have:=W1a U (W1m hi)
  grind
 have g2:=W1a j (W2z (by decide +kernel:(0:Rat)<=5/4) hd)
 exact⟨by grind,by grind⟩
theorem Xmr{q r:Rat}(h0:0<=q)(h:q<=r)(i:r<=1)(N:Nat): atn q N<=atn r N/\atn r N<=atn q N+(r-q):=by
 unfold atn
 by_cases I:r<=1/2
 rw[if_pos I,if_pos (W1n h I)]
 exact Xic h0 h i N
 have j:1/2<=r:=by grind
 rw[if_neg I]
 have b:=Xvq j i
 by_cases hq:q<=1/2
 rw[if_pos hq]
 have a:=Xic h0 hq (by decide +kernel) N
 have c:=Xic (y:=0) (x:=rst r) W1x b.1 b.2 N
 have z0:∀N,aTs 0 N=0:=λN=>by
  induction N with
  | zero=>rfl
  | succ N M =>
   have:trm 0 N=0:=by unfold trm;rw[W3q,W7j,W3p]
   show (if N%2=0 then aTs 0 N+trm 0 N else aTs 0 N-trm 0 N)=0
   rw[M,this];split<;>grind
 rw[z0] at c
 have d:=Xre (q:=1/2) W1x j i
 have e:rst (1/2)=0:=by decide +kernel
 rw[e] at d
 exact⟨by grind,by grind⟩
 have o:1/2<=q:=by grind
 rw[if_neg hq]
 have m:=Xre o h i
 have c:=Xic (Xvq o (W1n h i)).1 m.1 b.2 N
 exact⟨by grind,by grind⟩
end
end
section
def UI(p:Rat×Rat): Prop:=0<=p.1/\p.1<=p.2/\p.2<=1
section
variable{x y z:Rat}{p q:Rat×Rat}{b:Nat}
theorem Ydp{i:Int}{x:Rat}(h:(i:Rat)<=x): i<=x.floor:=by
 have o:=@Rat.lt_floor x
 have j:(i:Rat)<((x.floor+1:Int):Rat):=by
  rw[W5s]
  have e:((1:Int):Rat)=1:=rfl
  rw[e]
  grind
 have I:i<x.floor+1:=by exact_mod_cast j
 omega
theorem Yl3(h:0<=x)(b:Nat): 0<=dnQ x b:=by
 refine Rat.divInt_nonneg ?_ (by exact_mod_cast W0r (2^b))
 exact Ydp (by have:=W2z h (W1m (Xaw b));exact_mod_cast this)
theorem Yeu(h:x<=1)(b:Nat): upQ x b<=1:=by
 have e:=Xn2 (-x) b
 have hp:=Xaw b
 have hf:-(2^b:Int)<=(-x*pw b).floor:=Ydp (by
  have:=W0f h (W1m hp)
  have i:((-(2^b:Int):Int):Rat)=-pw b:=by unfold pw;exact_mod_cast rfl
  rw[i]
  grind)
 have j:-pw b<=((-x*pw b).floor:Rat):=by
  have i:((-(2^b:Int):Int):Rat)=-pw b:=by unfold pw;exact_mod_cast rfl
  rw[<-i]
  exact_mod_cast hf
 rw[<-e] at j
 unfold upQ
 have:(-1:Rat)<=dnQ (-x) b:=W2d (by grind) hp
 grind
theorem UI.rnd(h:UI p)(b:Nat): UI (rnd p b):=⟨Yl3 h.1 b,W1n (Xn1 _ _) (W1n h.2.1 (Xqo _ _)),Yeu h.2.2 b⟩
theorem Yc2(p:Rat×Rat)(b:Nat): ((rnd p b).2-(rnd p b).1)*pw b<=(p.2-p.1)*pw b+2:=by
 have a:=Xsq p.1 b
 have c:=Xus p.2 b
 show (upQ p.2 b-dnQ p.1 b)*pw b<=_
 grind
theorem UI.mul(h:UI p)(k:UI q): UI (Xa6 p q)/\(Xa6 p q).2-(Xa6 p q).1<=(p.2-p.1)+(q.2-q.1):=by
 obtain⟨i,U,M⟩:=h
 obtain⟨q0,q1,q2⟩:=k
 obtain⟨⟨v,s,V,Z,e⟩,O,s',j,o,T⟩:=Xhc p q
 have I:(Xa6 p q).1<=(Xa6 p q).2:=W1n (Xi8 p q).1 (Xi9 p q).1
 have v0:p.1<=v:=by rcases V with rfl | rfl<;>grind
 have s0:q.1<=s:=by rcases Z with rfl | rfl<;>grind
 have v1:O<=p.2/\0<=O:=by rcases j with rfl | rfl<;>exact⟨by grind,by grind⟩
 have s1:s'<=q.2/\0<=s':=by rcases o with rfl | rfl<;>exact⟨by grind,by grind⟩
 have a1:=W0f v0 q0
 have a2:=W1a s0 (W1n i v0)
 have c1:=W0f v1.1 s1.2
 have c2:=W1a s1.1 (W1n i U)
 have n:=W2z i q0
 have d1:=W0f M (W1n q0 q1)
 have d2:=W0f M (show 0<=q.2-q.1 by grind)
 have d3:=W0f (W1n q1 q2) (show 0<=p.2-p.1 by grind)
 exact⟨⟨by rw[e];grind,I,by rw[T];grind⟩,by rw[e,T];grind⟩
theorem Xwh(h:UI p)(k:UI q){u v:Rat}(i:(p.2-p.1)*pw b<=u)(j:(q.2-q.1)*pw b<=v): UI (rnd (Xa6 p q) b)/\((rnd (Xa6 p q) b).2-(rnd (Xa6 p q) b).1)*pw b<=u+v+2:=by
 obtain⟨a,c⟩:=h.mul k
 refine⟨a.rnd b,W1n (Yc2 _ b) ?_⟩
 have:=W0f c (W1m (Xaw b))
 grind
theorem Xv8(k:Nat): UI (Rat.divInt 1 (2*k+1:Nat),Rat.divInt 1 (2*k+1:Nat)):=⟨Xgh _,W1x,by
 have:=Xrs (m:=0) (n:=2*k) (W0r _)
 have e:Rat.divInt 1 ((0+1:Nat):Int)=1:=by decide +kernel
 rw[e] at this
 exact this⟩
theorem Xse(h0:0<=z)(h:z<=1/2): ∀n:Nat,z^n*pw n<=1
 | 0=>by rw[W6a];decide +kernel
 | n+1=>by
  have i:=Xse h0 h n
  have e:pw (n+1)=pw n*2:=by unfold pw;rw[Int.pow_succ];exact_mod_cast rfl
  have p:=W2z (Xkf h0 n) (W1m (Xaw n))
  have:=W1a (show z*2<=1 by grind) p
  rw[W3q,e]
  grind
theorem Xev{m n:Nat}(h:m<=n): pw m<=pw n:=by
 have:=W0o (n:=2) (by decide) h
 unfold pw
 exact_mod_cast this
theorem Yhp{Q:Rat×Rat}(h0:0<=z)(h1:z<=1/2)(hz:inB (z*z) Q)(hQ:UI Q)(I:(Q.2-Q.1)*pw b<=6): ∀n k P S R,Xym b Q n k P S=some R->UI P->inB (z^(2*k+1)) P->(P.2-P.1)*pw b<=2+8*(k:Rat)->(S.2-S.1)*pw b<=4*(k:Rat)*k->k+n<=150->(R.2-R.1)*pw b<=131072:=by
 intro n
 induction n with
 | zero=>intro k P S R h;cases h
 | succ n ih =>
  intro k P S R h O j o hSw hkn
  have hp:=W1m (Xaw b)
  obtain⟨U,V⟩:=Xwh (b:=b) O (Xv8 k) o (v:=0) (by grind)
  have hT:inB (trm z k) (Xdu b k P):=(j.mul ⟨W1x,W1x⟩).rnd
  have M:(0:Rat)<=k:=by exact_mod_cast W0r k
  have i:(k:Rat)<=149:=by exact_mod_cast (by omega:k<=149)
  have Z:((k+1:Nat):Rat)=(k:Rat)+1:=by exact_mod_cast rfl
  have U:UI (Xdu b k P):=U
  have V:((Xdu b k P).2-(Xdu b k P).1)*pw b<=2+8*(k:Rat)+0+2:=V
  have wS:((Xib k S (Xdu b k P)).2-(Xib k S (Xdu b k P)).1)*pw b<=4*((k:Rat)+1)*((k:Rat)+1):=by
   unfold Xib
   generalize Xdu b k P=T at *
   split
   show ((S.2+T.2)-(S.1+T.1))*pw b<=_
   grind
   show ((S.2-T.1)-(S.1-T.2))*pw b<=_
   grind
  unfold Xym at h
  split at h
  split at h
  rename_i hb
  injection h with h
  subst h
  have e1:=Xse h0 h1 (2*k+1)
  have e2:=W1a (Xev (by omega:b<=2*k+1)) (Xkf h0 (2*k+1))
  have e3:trm z k<=z^(2*k+1):=by
   have:=W1a (Xv8 k).2.2 (Xkf h0 (2*k+1))
   unfold trm
   rw[W5w] at this
   exact this
  have e4:=W0f e3 hp
  have e5:=W0f hT.1 hp
  have kk:=W1a i M
  show (((Xib k S (Xdu b k P)).2+(Xdu b k P).2)-((Xib k S (Xdu b k P)).1+-(Xdu b k P).2))*pw b<=_
  generalize Xib k S (Xdu b k P)=S' at *
  generalize Xdu b k P=T at *
  generalize z^(2*k+1)=w at *
  generalize trm z k=u at *
  generalize (k:Rat)=m at *
  generalize pw b=B at *
  have f1:T.2*B<=1+(2+8*m+0+2):=by grind
  have f2:4*(m+1)*(m+1)<=4*149*m+8*m+4:=by grind
  grind
  obtain⟨uP,wP⟩:=Xwh (b:=b) O hQ o I
  refine ih (k+1) _ _ R h uP ?_ (by rw[Z];grind) (by rw[Z];exact wS) (by omega)
  rw[show 2*(k+1)+1=2*k+1+1+1 by omega,W3q,W3q,W4i]
  exact(j.mul hz).rnd
  cases h
theorem Xjt{R:Rat×Rat}(h0:0<=z)(M:z<=1/2)(h:Ybx z b=some R): (R.2-R.1)*pw b<=131072:=by
 unfold Ybx at h
 split at h
 have i:z<=1:=by grind
 have O:UI (z,z):=⟨h0,W1x,i⟩
 have j:inB z (Xoj z b):=inB.rnd ⟨W1x,W1x⟩
 have o:UI (Xoj z b):=O.rnd b
 have I:((Xoj z b).2-(Xoj z b).1)*pw b<=2:=by
  have:=Yc2 (z,z) b
  have e:((z,z):Rat×Rat).2-((z,z):Rat×Rat).1=0:=by show z-z=0;grind
  rw[e,W3p] at this
  exact W1n this (by decide +kernel)
 obtain⟨T,wQ⟩:=Xwh (b:=b) o o I I
 refine Yhp h0 M (j.mul j).rnd T (W1n wQ (by decide +kernel)) 150 0 _ _ R h o (by rw[show z^(2*0+1)=z by rw[W3q,W6a,W5p]];exact j) (W1n I (by decide +kernel)) ?_ (by omega)
 show ((0:Rat)-0)*pw b<=_
 rw[show ((0:Rat)-0)=0 by decide +kernel,W3p]
 decide +kernel
 cases h
def Dy(b:Nat)(x:Rat): Prop:=(∃i:Int,x*pw b=(i:Rat))/\-256<=x/\x<=256
theorem Dy.rnd1(p:Rat×Rat)(b:Nat): (∃i:Int,(rnd p b).1*pw b=(i:Rat))/\∃i:Int,(rnd p b).2*pw b=(i:Rat) :=
 ⟨⟨_, Xn2 p.1 b⟩, -(-p.2 * pw b).floor, by
   have:=Xn2 (-p.2) b
   show -dnQ (-p.2) b*pw b=_
   rw[Rat.neg_mul,this,W5t]⟩
theorem Ya6(h:UI (rnd p b)): Dy b (rnd p b).1/\Dy b (rnd p b).2:=by
 obtain⟨a,c⟩:=Dy.rnd1 p b
 obtain⟨i,j,o⟩:=h
 exact⟨⟨a,by grind,by grind⟩,c,by grind,by grind⟩
theorem Dy.qs(hb:b<=200)(h:Dy b x): Qs 250 x:=by
 obtain⟨⟨i,hi⟩,o,I⟩:=h
 have hp:=Xaw b
 have e:x=Rat.divInt i (2^b):=by
  rw[W4u,<-hi]
  show x=x*pw b/pw b
  rw[W5n,W4i,W5z _ (by grind),W5w]
 have M:=W0f o (W1m hp)
 have j:=W0f I (W1m hp)
 rw[hi] at M j
 have U:-(256*2^b:Int)<=i:=by
  have:((-(256*2^b:Int):Int):Rat)<=i:=by
   rw[W5t,W4b]
   show -((256:Rat)*pw b)<=_
   grind
  exact_mod_cast this
 have V:i<=(256*2^b:Int):=by
  have:(i:Rat)<=((256*2^b:Int):Rat):=by
   rw[W4b]
   exact j
  exact_mod_cast this
 have O:(2:Int)^b<=2^200:=by
  have:=W0o (n:=2) (by decide) hb
  exact_mod_cast this
 have T:(0:Int)<2^b:=W8k (by decide)
 rw[e]
 refine Qs.divInt ?_ ?_ (by omega)
 show i.natAbs<2^250
 omega
 show ((2:Int)^b).natAbs<2^250
 omega
theorem Xtf(hb:b<=200)(h:Dy b p.1)(k:Dy b p.2): sm p=true:=by
 have q1:=h.qs hb
 have q2:=k.qs hb
 unfold sm
 simp only[W0d]
 have a:=q1.n
 have c:=q1.d
 have d:=q2.n
 have e:=q2.d
 exact⟨⟨⟨W6b a,W6b (by have:((p.1.den:Int)).natAbs<2^250:=c;rwa[W1b] at this)⟩,W6b d⟩,W6b (by have:((p.2.den:Int)).natAbs<2^250:=e;rwa[W1b] at this)⟩
theorem Yho{k:Nat}{S T:Rat×Rat}(U:k<=200)(o:∃i:Int,S.1*pw b=(i:Rat))(I:∃i:Int,S.2*pw b=(i:Rat))(V:-(k:Rat)<=S.1/\S.1<=k)(Z:-(k:Rat)<=S.2/\S.2<=k)(M:UI T)(dT:Dy b T.1/\Dy b T.2):
 ((∃i:Int,(Xib k S T).1*pw b=(i:Rat))/\∃i:Int,(Xib k S T).2*pw b=(i:Rat))/\(-((k+1:Nat):Rat)<=(Xib k S T).1/\(Xib k S T).1<=((k+1:Nat):Rat))/\(-((k+1:Nat):Rat)<=(Xib k S T).2/\(Xib k S T).2<=((k+1:Nat):Rat)):=by
 obtain⟨i1,e1⟩:=o
 obtain⟨i2,e2⟩:=I
 obtain⟨⟨h,f1⟩,_⟩:=dT.1
 obtain⟨⟨j,f2⟩,_⟩:=dT.2
 obtain⟨t0,t1,t2⟩:=M
 have O:((k+1:Nat):Rat)=(k:Rat)+1:=by exact_mod_cast rfl
 rw[O]
 unfold Xib
 split
 refine⟨⟨⟨i1+h,?_⟩,i2+j,?_⟩,?_,?_⟩
 show (S.1+T.1)*pw b=_
 rw[W5s];grind
 show (S.2+T.2)*pw b=_
 rw[W5s];grind
 exact⟨show _<=S.1+T.1 by grind,show S.1+T.1<=_ by grind⟩
 exact⟨show _<=S.2+T.2 by grind,show S.2+T.2<=_ by grind⟩
 refine⟨⟨⟨i1-j,?_⟩,i2-h,?_⟩,?_,?_⟩
 show (S.1-T.2)*pw b=_
 rw[W8d];grind
 show (S.2-T.1)*pw b=_
 rw[W8d];grind
 exact⟨show _<=S.1-T.2 by grind,show S.1-T.2<=_ by grind⟩
 exact⟨show _<=S.2-T.1 by grind,show S.2-T.1<=_ by grind⟩
theorem Xyl{Q:Rat×Rat}(hb:b<=200)(hQ:UI Q): ∀(n k:Nat) (P S:Rat×Rat),UI P->Dy b P.1/\Dy b P.2->(∃i:Int,S.1*pw b=(i:Rat))->(∃i:Int,S.2*pw b=(i:Rat))->(-(k:Rat)<=S.1/\S.1<=k)->(-(k:Rat)<=S.2/\S.2<=k)->b+1<2*(k+n)->2*k<=b+1->k+n<=150->∃R,Xym b Q n k P S=some R/\Q2 501 R:=by
 intro n
 induction n with
 | zero =>
  intro k P S O T U V h3 h4 j Z hkn
  exact absurd j (by omega)
 | succ n ih =>
  intro k P S O T U V h3 h4 j Z hkn
  have uT:UI (Xdu b k P):=((O.mul (Xv8 k)).1.rnd b)
  have dT:Dy b (Xdu b k P).1/\Dy b (Xdu b k P).2:=Ya6 uT
  obtain⟨⟨s1,s2⟩,s3,s4⟩:=Yho (by omega) U V h3 h4 uT dT
  have hk0:(0:Rat)<=k:=by exact_mod_cast W0r k
  have hk:(k:Rat)<=150:=by exact_mod_cast (by omega:k<=150)
  have M:((k+1:Nat):Rat)=(k:Rat)+1:=by exact_mod_cast rfl
  have dS:Dy b S.1/\Dy b S.2:=⟨⟨U,by grind,by grind⟩,V,by grind,by grind⟩
  have h:Dy b (Xib k S (Xdu b k P)).1/\Dy b (Xib k S (Xdu b k P)).2:=⟨⟨s1,by rw[M] at s3;grind,by rw[M] at s3;grind⟩,s2,by rw[M] at s4;grind,by rw[M] at s4;grind⟩
  unfold Xym
  rw[if_pos (by simp only[W0d];exact⟨⟨⟨Xtf hb T.1 T.2,Xtf hb dT.1 dT.2⟩,Xtf hb dS.1 dS.2⟩,Xtf hb h.1 h.2⟩)]
  by_cases o:2*k+1>b
  rw[if_pos o];exact⟨_,rfl,Xeh (s:=250) (s':=250) ⟨h.1.qs hb,h.2.qs hb⟩ ⟨(dT.2.qs hb).neg,dT.2.qs hb⟩⟩
  rw[if_neg o]
  have I:UI (rnd (Xa6 P Q) b):=(O.mul hQ).1.rnd b
  exact ih (k+1) _ _ I (Ya6 I) s1 s2 s3 s4 (by omega) (by omega) (by omega)
theorem Xe6(hb:b<=200)(h0:0<=z)(O:z<=1): ∃R,Ybx z b=some R/\Q2 501 R:=by
 have T:UI (z,z):=⟨h0,W1x,O⟩
 have h:UI (Xoj z b):=T.rnd b
 have o:UI (Xyn z b):=(h.mul h).1.rnd b
 have j:Dy b (Xoj z b).1/\Dy b (Xoj z b).2:=Ya6 h
 have I:Dy b (Xyn z b).1/\Dy b (Xyn z b).2:=Ya6 o
 unfold Ybx
 rw[if_pos (by simp only[W0d];exact⟨Xtf hb j.1 j.2,Xtf hb I.1 I.2⟩)]
 have M:∃i:Int,(0:Rat)*pw b=(i:Rat):=⟨0,by rw[W3p];rfl⟩
 have z0:-((0:Nat):Rat)<=0/\(0:Rat)<=((0:Nat):Rat):=by decide +kernel
 exact Xyl hb o 150 0 _ _ h j M M z0 z0 (by omega) (by omega) (by omega)
end
end
end Go.Proofs.YtnedfplmoojbaaaGreatDoor.P20

/- part 5 -/
import Derived.Test.YtfjafaehfjjaiaaGreatDoorXD
import Derived.Test.YtfjafaehfjjaiaaGreatDoorCards
import Derived.Test.YtfjafaehfjjaiaaGreatDoorTie
import Derived.Deep.DeepHandedRow
import Derived.Lib.LaidTab
import Derived.MakeChecks
import Derived.Stop.LaidErr
import Derived.Lib.AppendZeros
set_option linter.unusedVariables false
set_option linter.unusedSimpArgs false
set_option maxRecDepth 100000
namespace Go.Proofs.YtfjafaehfjjaiaaGreatDoor.R9
open Go Go.Vm Go.Num Go.Tow Go.Proofs.YtfjafaehfjjaiaaGreatDoor
abbrev n0: D:=.st (.pr (dts []) (dqs []))
theorem fit0{g:Hp}{K:Hpl}: Fit g K (.st (.pr .nil .nil)) (.d n0):=.sd (.pd (.nil rfl) (.nil rfl))
section
variable{c:Fg}{K:Nat}{G:Tw K}{S:List (Tow.El K)}{r p:Nat}{x y:Nm}{vx vy:Tow.El K}
theorem Ybl(W:Wy c G S)(i:NOk G S r p x vx)(j:NOk G S r p y vy)(hp:oW c p<=4398046511104): C0 78 [.d (dN x),.d (dN y)] λv=>∃m T a b,v=.tup (.pr (.d (dN ⟨m,T,a⟩)) (.pr (.d (dN ⟨m,T,b⟩)) (.d (.int .i64 0))))/\JnR c G S p vx vy m T a b:=by
 refine En Tryz.func78 λ_ _ _=>?_
 refine Ca rfl (Join_ok W i j hp) λv o=>?_
 obtain⟨m,T,a,b,rfl,h⟩:=o
 refine No rfl (by simp) ?_
 refine Dz rfl ?_
 refine Ix 0 rfl (u:=dN ⟨m,T,a⟩) rfl ?_
 refine Ix 1 rfl (u:=dN ⟨m,T,b⟩) rfl ?_
 exact Rt rfl (.tup (.cons (.rf rfl) (.cons (.rf rfl) Xa1))) ⟨m,T,a,b,rfl,h⟩
def OpR(c:Fg)(G:Tw K)(S:List (Tow.El K))(p:Nat)(w:Tow.El K)(v:AV): Prop:=∃z:Nm,v=.tup (.pr (.d (dN z)) (.d (.int .i64 0)))/\NOk G S c.R p z w
theorem Add_ok(W:Wy c G S)(I:NOk G S r p x vx)(O:NOk G S r p y vy)(hp:oW c p<=4398046511104): C0 32 [.d (dN x),.d (dN y)] (OpR c G S (oW c p) (Tow.add K vx vy)):=by
 have hO:oW c p=2*jW c p+cB c.R c.H+1:=rfl
 have hH:=W.k.h
 refine En Tryz.func32 λ_ _ _=>?_
 refine Ca rfl (Ybl W I O hp) λv Q=>?_
 obtain⟨m,T,a,b,rfl,ρ,i,V,Z,j,o⟩:=Q
 have h2:=W.t i
 have hm:=W.le i
 refine No rfl (by simp) ?_
 refine Dw rfl ?_
 refine Ce rfl (R6.Add_el (k:=m) (a:=a) (b:=b) (by omega) j.ps o.ps (by omega)) ?_
 exact Rt rfl (.tup (.cons (.rf rfl) Xa1)) ⟨⟨m,T,Tow.add m a b⟩,rfl,⟨ρ,i,by rw[<-V,<-Z];exact Xcy⟩,h2,by rw[Xav];exact(j.add o).mono (by omega)⟩
theorem Mul_ok(W:Wy c G S)(O:NOk G S r p x vx)(Q:NOk G S r p y vy)(hp:oW c p<=4398046511104): C0 123 [.d (dN x),.d (dN y)] (OpR c G S (oW c p) (Tow.mul K G vx vy)):=by
 have hO:oW c p=2*jW c p+cB c.R c.H+1:=rfl
 have hH:=W.k.h
 refine En Tryz.func123 λ_ _ _=>?_
 refine Ca rfl (Ybl W O Q hp) λv V=>?_
 obtain⟨m,T,a,b,rfl,ρ,i,Z,h4,o,I⟩:=V
 have j:=W.t i
 have hm:=W.le i
 have hc:=Xfe (r:=c.R) hm
 refine No rfl (by simp) ?_
 refine Dw rfl ?_
 refine Ce rfl (R6.Mul_el (k:=m) (t:=T) (a:=a) (b:=b) j o I (by omega) (by omega)) ?_
 exact Rt rfl (.tup (.cons (.rf rfl) Xa1)) ⟨⟨m,T,Tow.mul m T a b⟩,rfl,⟨ρ,i,by rw[<-Z,<-h4];exact Xa5 i.h⟩,j,(o.mul j I).mono (by omega)⟩
theorem Neg_ok(h:NOk G S r p x vx)(i:x.k<=16)(hp:p<=8796093022208): C0 14 [.d (dN x)] (·=.d (dN ⟨x.k,x.t,Tow.neg x.k x.a⟩)):=by
 refine En Tryz.func14 λ_ _ _=>?_
 refine Dw rfl ?_
 refine Ce rfl (R6.Neg_el i h.p.ps hp) ?_
 exact R1 rfl (.rf rfl)
theorem Sub_ok(W:Wy c G S)(j:NOk G S r p x vx)(i:NOk G S r p y vy)(hp:oW c p<=4398046511104): C0 118 [.d (dN x),.d (dN y)] (OpR c G S (oW c p) (Tow.add K vx (Tow.neg K vy))):=by
 have:=i.le (Xad W.g) W.s
 have O:=W.k.h
 have Q:oW c p=2*jW c p+cB c.R c.H+1:=rfl
 have o:p<=jW c p:=Xvx
 refine En Tryz.func118 λ_ _ _=>?_
 refine Dw rfl ?_
 refine Ce rfl (Neg_ok i (by omega) (by omega)) ?_
 refine Ca rfl (Add_ok W j i.neg hp) λv I=>?_
 obtain⟨z,rfl,h⟩:=I
 exact Rt rfl (.tup (.cons (.rf rfl) Xa1)) ⟨z,rfl,h⟩
theorem Sign_ok(hG:red K G)(h:NOk G S r p x vx)(i:x.k<=16)(j:vB r x.k p<=4398046511104): C0 27 [.d (dN x)] (·=.d (.int .i64 (sgn K G vx))):=by
 refine En Tryz.func27 λ_ _ _=>?_
 refine Ce rfl (R7.Fast_ok h.r h.p i j) ?_
 rw[h.sgn (Xad hG)]
 exact R0
def RtR(x:Nm)(v:AV): Prop:=∃z:Nm,v=.tup (.pr (.d (dN z)) (.d (.int .i64 0)))/\((∃y,z=⟨x.k,x.t,y⟩/\Tow.mul x.k x.t y y=x.a/\0<=sgn x.k x.t y)\/(z=⟨x.k+1,tsn x.t x.a,Xcw (x.k+1) x.k⟩/\0<=sgn x.k x.t x.a/\¬Xcu x.k x.t x.a))
theorem Sqrt_ok(hr:red x.k x.t)(O:TS r x.k x.t)(ha:Sz p (toL x.k x.a))(h0:0<=sgn x.k x.t x.a)(Q:x.k<8)(hq:qB r x.k p<=4398046511104)(i:qB r x.k r<=4398046511104)(j:vB r x.k (p+gC r x.k)<=4398046511104)(o:vB r x.k r<=4398046511104):
 C0 199 [.d (dN x)] (RtR x):=by
 refine En Tryz.func199 λ_ _ _=>?_
 refine Ca rfl (R8.Adjoin_ok O ha hr Q hq i j o) λv j=>?_
 rcases j with ⟨h,rfl⟩ | ⟨y,h,I,rfl⟩ | ⟨h,I,T,rfl⟩
 . omega
 . refine No rfl (by simp) ?_
   exact Rt rfl (.tup (.cons (.rf rfl) Xa1)) ⟨⟨x.k,x.t,y⟩,rfl,.inl ⟨y,rfl,h,I⟩⟩
 . refine No rfl (by simp) ?_
   exact Rt rfl (.tup (.cons (.rf rfl) Xa1)) ⟨⟨x.k+1,tsn x.t x.a,Xcw (x.k+1) x.k⟩,rfl,.inr ⟨rfl,h,I⟩⟩
theorem FromRat_ok{q:Rat}: C0 56 [.d (dq q)] (·=.d (dN ⟨0,(),q⟩)):=by
 refine En Tryz.func56 λ_ _ _=>?_
 exact R1 rfl (.sd (.pd (.nil rfl) (.lit rfl)))
theorem FromInt_ok{z:Int}(h:-9223372036854775808<=z/\z<9223372036854775808): C0 19 [.d (.int .i64 z)] (·=.d (dN ⟨0,(),(z:Rat)⟩)):=by
 refine En Tryz.func19 λ_ _ _=>?_
 refine Ce rfl (R2.FromInt_ok h) ?_
 refine Ce rfl FromRat_ok ?_
 exact R1 rfl (.rf rfl)
theorem Frac_ok{a b:Int}(ha:-9223372036854775808<=a/\a<9223372036854775808)(hb:-9223372036854775808<=b/\b<9223372036854775808)(h:b≠0): C0 196 [.d (.int .i64 a),.d (.int .i64 b)] (·=.d (dN ⟨0,(),Rat.divInt a b⟩)):=by
 refine En Tryz.func196 λ_ _ _=>?_
 refine Ce rfl (R2.Frac_ok ha hb h) ?_
 refine Ce rfl FromRat_ok ?_
 exact R1 rfl (.rf rfl)
theorem Xg3: C0 197 [.d (dN x),.d (.int .i64 0),.d (dN y)] (·=.d (dN x)):=by
 refine En Tryz.func197 λ_ _ _=>?_
 refine No rfl (by simp) ?_
 exact R1 rfl (.rf rfl)
theorem Xzn: C0 197 [.d n0,.d (.int .i64 6),.d (dN y)] (·=.d (dN y)):=by
 refine En Tryz.func197 λ_ _ _=>?_
 refine Yes rfl (by simp) ?_
 exact R1 rfl (.rf rfl)
end
end Go.Proofs.YtfjafaehfjjaiaaGreatDoor.R9
namespace Go.Vm
open Go
def Ylz: Op->Bool
 | .buildSlice _ _ _=>true
 | _=>false
def Yly: List Oper->List Nat
 | []=>[]
 | o::l=>match Ylz o.op,o.dst with
  | true,some d=>d::Yly l
  | _,_=>Yly l
def Xvr(E:Env)(LB:List Nat)(L:List Oper): Bool:=(LB.all λb=>!Xcj E b)&&L.all λo=>match o.dst with
 | none=>true
 | some d=>!inL d LB||Ylz o.op
def apD(LB:List Nat)(k:Oper): Option Nat:=match k.op,k.dst with
 | .call ⟨.builtin .append,⟨[.tmp b,_]⟩,_⟩,some d=>match inL b LB with
  | true=>some d
  | false=>none
 | _,_=>none
def Yji(LB:List Nat)(L:List Oper)(D:List Nat)(E:Env)(T:Trk)(k i:Oper): Bool:=match k.op,apD LB i with
 | .load _ (.tmp a),some d=>match bnd D E T a with
  | some h=>Xb2 L k.dst i&&Xb2 L i.dst k && !inL d h
  | none=>false
 | _,_=>false
def Ygv(LB:List Nat)(L:List Oper)(k i:Oper): Bool:=match Xiw k.op,k.dst,apD LB i with
 | true,some h,some d=>Xb2 L k.dst i&&Xb2 L i.dst k
 | _,_,_=>false
def ZL(LB:List Nat)(s:S): Prop:=∀b,inL b LB=true->s.1 b=none\/s.1 b=some .un\/∃sz xs,s.1 b=some (.lit sz xs)
section
variable{tb:Nat->Option TI}
theorem Yhr{g g':Hp}{z:D}{sz:Nat}{c:AV}{ys:List D}(j:∀o s xs,g o=some (.arr s xs)->g' o=some (.arr s xs))(h:Xhn g z sz c=some ys): Xhn g' z sz c=some ys:=by
 unfold Xhn at h |-
 split at h
 . split at h<;>try cases h
   rename_i i
   rw[j _ _ _ i];exact h
 . split at h<;>try cases h
   rename_i i
   rw[j _ _ _ i];exact h
 . exact h
theorem Yau{LB:List Nat}{k:Oper}{d:Nat}(Q:apD LB k=some d){s:S}(hz:ZL LB s){r:AV×List (Nat×Ob)}{g:Hp}(h:eff tb k (s.1,g)=some r): k.dst=some d/\Xal k=false/\g d=none/\(r.2=[]\/∃ob,r.2=[(d,ob)])/\∀g',g' d=none->(∀o s xs,g o=some (.arr s xs)->g' o=some (.arr s xs))->eff tb k (s.1,g')=some r:=by
 unfold apD at Q
 split at Q<;>try cases Q
 rename_i b y V d' I hd
 split at Q<;>cases Q
 rename_i hb
 unfold eff at h
 split at h<;>try cases h
 rename_i asx i
 split at h<;>try cases h
 rename_i hst
 have Z:=i
 have i:getEs s.1 [.tmp b,y]=some asx:=by rw[I] at i;exact i
 simp only[getEs,Xbt] at i
 split at i<;>try cases i
 rename_i v j
 split at i<;>try cases i
 rename_i as' O
 split at O<;>try cases O
 rename_i w hw
 have htys:∃T T',V=⟨[T,T']⟩:=by
  rcases V with ⟨_ | ⟨T,_ | ⟨T',_ | ⟨U,l⟩⟩⟩⟩
  . rw[I] at h;simp[F,Fp] at h
  . rw[I] at h;simp[F,Fp] at h
  . exact⟨_,_,rfl⟩
  . rw[I] at h;simp[F,Fp] at h
 obtain⟨T,T',rfl⟩:=htys
 rcases hz b hb with e | e | ⟨sz,xs,e⟩
 . rw[e] at j;cases j
 . rw[e] at j;injection j with j;subst j
   exfalso
   rw[I] at h
   simp only[F] at h
   repeat' split at h
   all_goals first
    | (cases h;done)
    | (simp[Xkm] at h;done)
    | simp_all[Fp,Xkm]
 . rw[e] at j;injection j with j;subst j
   rw[I] at h
   simp only[F,hd,W4a] at h
   split at h<;>try cases h
   rename_i hT
   split at h<;>try cases h
   rename_i ti ht hgd
   split at h<;>try cases h
   rename_i sz' xs' hz'
   split at h<;>try cases h
   rename_i ys hys
   refine⟨hd,by unfold Xal;rw[I];rfl,hgd,?_,λg' h1 h2=>?_⟩
   . simp only[Xkm] at h
     split at h
     . cases h;exact .inr ⟨_,rfl⟩
     . split at h<;>cases h
       exact .inl rfl
   . unfold eff
     rw[Z]
     simp only[hst]
     rw[I]
     subst hT
     have hs':=Yhr h2 hys
     rw[hz'] at hs'
     simp only[F,hd,W4a,ht,h1,hz',hs',if_true]
     exact h
theorem Xgc{LB:List Nat}{L:List Oper}{E:Env}{T:Trk}{k i:Oper}(h:Yji LB L (dsL L) E T k i=true): Xal k=false/\Xb2 L k.dst i=true/\Xb2 L i.dst k=true/\(∃d,apD LB i=some d)/\∀ {s:S},ZT (dsL L) E T s->ZL LB s ->
 (∀ {j},efw tb L k s=some j->j.2=[])/\∀ {g:Hp} {Q:AV×List (Nat×Ob)},efw tb L i (s.1,g)=some Q->∀j,efw tb L k (s.1,g)=some j↔efw tb L k (s.1,Xbg g Q.2)=some j:=by
 unfold Yji at h
 split at h<;>try cases h
 rename_i T1 a d V hi
 split at h<;>try cases h
 rename_i la Z
 simp only[W0g,W1x] at h
 obtain⟨⟨h1,h2⟩,h3⟩:=h
 refine⟨by unfold Xal;rw[V];rfl,h1,h2,⟨d,hi⟩,λ{s} hz hl=>⟨λ{j} hr=>?_,λ{g Q} hri j=>?_⟩⟩
 . rcases Xa2 hr with ⟨_,e,_⟩ | ⟨_,e⟩
   . exact e
   . exact(Yny (o:=k) (by rw[V];rfl) (e:=s.1) (g:=s.2) e).1
 . have O:∀ {g g':Hp},(∀o,o≠d->g o=g' o)->efw tb L k (s.1,g)=some j->efw tb L k (s.1,g')=some j:=by
    intro g g' hg hr
    rcases Xa2 hr with ⟨_,_,e⟩ | ⟨hw,e⟩
    . exact e g'
    . have:∃v,s.1 a=some v:=by
       unfold eff at e
       split at e<;>try cases e
       rename_i asx I
       rw[V] at I
       simp only[Op.operands,getEs,Xbt] at I
       split at I<;>try cases I
       exact⟨_,by assumption⟩
      obtain⟨v,hv⟩:=this
      refine Xeu (s:=(s.1,g)) hw (Yjj V hv (λo ho=>hg o λhb=>?_) e).2
      subst hb
      rw[Ynl.2 (Xno hz Z hv ho)] at h3;cases h3
   have hu:∀o,o≠d->g o=Xbg g Q.2 o:=by
    intro o hod
    rcases Xa2 hri with ⟨_,e,_⟩ | ⟨_,e⟩
    . rw[e];rfl
    . obtain⟨_,_,_,e1 | ⟨ob,e1⟩,_⟩:=Yau hi hl e
      . rw[e1];rfl
      . rw[e1];exact(Xak hod).symm
   exact⟨O hu,O λo ho=>(hu o ho).symm⟩
theorem Xu6{o:Oper}(i:Xiw o.op=true){s:S}{r:AV×List (Nat×Ob)}(h:eff tb o s=some r): ∃a,r.2=[(o.dst.getD 0,.var a)]/\s.2 (o.dst.getD 0)=none/\∀g',g' (o.dst.getD 0)=none->eff tb o (s.1,g')=some r:=by
 have j:cls o.op=2:=by unfold Xiw at i;split at i<;>first | (rename_i e;rw[e];rfl) | cases i
 obtain⟨T,V,I,O⟩:=Ypr (e:=s.1) (g:=s.2) j h
 have:∃a,r.2=[(o.dst.getD 0,.var a)]:=by
  unfold eff at h
  split at h<;>try cases h
  split at h<;>try cases h
  unfold Xiw at i
  split at i<;>try cases i
  all_goals
   rename_i Q
   rw[Q] at h
   simp only[F] at h
  . split at h<;>cases h;exact⟨_,rfl⟩
  . split at h<;>try cases h
    split at h<;>cases h;exact⟨_,rfl⟩
 obtain⟨a,ha⟩:=this
 exact⟨a,ha,I,O⟩
theorem Xj1{LB:List Nat}{L:List Oper}{k i:Oper}(h:Ygv LB L k i=true): Xiw k.op=true/\Xal k=false/\Xb2 L k.dst i=true/\Xb2 L i.dst k=true/\∃o d,k.dst=some o/\apD LB i=some d:=by
 unfold Ygv at h
 split at h<;>try cases h
 rename_i o d j I O
 simp only[W0g] at h
 refine⟨j,?_,h.1,h.2,o,d,I,O⟩
 unfold Xiw at j
 unfold Xal
 split at j<;>first | (rename_i e;rw[e];rfl) | cases j
theorem Xlf{LB:List Nat}{L:List Oper}{k i:Oper}(h:Ygv LB L k i=true){s:S}(hl:ZL LB s){V T:AV×List (Nat×Ob)}:
 (efw tb L k s=some V->efw tb L i s=some T->efw tb L i (s.1,Xbg s.2 V.2)=some T/\efw tb L k (s.1,Xbg s.2 T.2)=some V/\Xbg (Xbg s.2 T.2) V.2=Xbg (Xbg s.2 V.2) T.2) /\
 (efw tb L k s=some V->efw tb L i (s.1,Xbg s.2 V.2)=some T->efw tb L i s=some T)/\(efw tb L i s=some T->efw tb L k (s.1,Xbg s.2 T.2)=some V->efw tb L k s=some V):=by
 obtain⟨hn,_,a1,a2,dk,d,Z,hd⟩:=Xj1 h
 have hi0:i.dst=some d:=by
  unfold apD at hd
  split at hd<;>try cases hd
  rename_i h1 I
  split at hd<;>cases hd
  exact I
 have O:dk≠d:=Xgh a1 Z hi0
 refine⟨λh1 I=>?_,λh1 I=>?_,λh1 I=>?_⟩
 . rcases Xa2 h1 with ⟨_,Q,f1⟩ | ⟨w1,Q⟩
   . rw[Q];exact⟨I,f1 _,rfl⟩
   . obtain⟨a,k1,j,k3⟩:=Xu6 hn Q
     rw[Z] at k1 j k3
     simp only[W4a] at k1 j k3
     rcases Xa2 I with ⟨_,e2,f2⟩ | ⟨w2,e2⟩
     . rw[e2];exact⟨f2 _,h1,rfl⟩
     . obtain⟨_,_,j2,j3,j4⟩:=Yau hd hl (g:=s.2) e2
       refine⟨?_,?_,?_⟩
       . rw[k1]
         refine Xeu (s:=s) w2 (j4 _ (by show upd s.2 dk _ d=none;rw[Xak λe=>O e.symm];exact j2) λo sz xs ho=>?_)
         show upd s.2 dk _ o=_
         rw[Xak λe=>by rw[e,j] at ho;cases ho];exact ho
       . refine Xeu (s:=s) w1 (k3 _ ?_)
         rcases j3 with e | ⟨ob,e⟩<;>rw[e]
         . exact j
         . show upd s.2 d ob dk=none;rw[Xak O];exact j
       . rw[k1]
         rcases j3 with e | ⟨ob,e⟩<;>rw[e]
         . rfl
         . exact Xhs (λe=>O e.symm)
 . rcases Xa2 h1 with ⟨_,Q,f1⟩ | ⟨w1,Q⟩
   . rw[Q] at I;exact I
   . obtain⟨a,k1,j,k3⟩:=Xu6 hn Q
     rw[Z] at k1 j
     simp only[W4a] at k1 j
     rcases Xa2 I with ⟨_,e2,f2⟩ | ⟨w2,e2⟩
     . exact f2 s.2
     . obtain⟨_,_,j2,j3,j4⟩:=Yau (s:=s) hd hl e2
       rw[k1] at j2 j4
       have j2:upd s.2 dk (.var a) d=none:=j2
       rw[Xak λe=>O e.symm] at j2
       refine Xeu (s:=s) w2 (j4 s.2 j2 λo sz xs ho=>?_)
       have ho:upd s.2 dk (.var a) o=_:=ho
       rcases Xaf ho with ⟨_,e⟩ | ⟨_,e⟩
       . cases e
       . exact e
 . rcases Xa2 h1 with ⟨_,Q,f1⟩ | ⟨w1,Q⟩
   . rw[Q] at I;exact I
   . obtain⟨_,_,j2,j3,j4⟩:=Yau hd hl (g:=s.2) Q
     rcases Xa2 I with ⟨_,e2,f2⟩ | ⟨w2,e2⟩
     . exact f2 s.2
     . obtain⟨a,k1,j,k3⟩:=Xu6 (s:=(s.1,Xbg s.2 T.2)) hn e2
       rw[Z] at j k3
       simp only[W4a] at j k3
       refine Xeu (s:=s) w2 (k3 s.2 ?_)
       rcases j3 with e | ⟨ob,e⟩<;>rw[e] at j
       . exact j
       . have j:upd s.2 d ob dk=none:=j
         rwa[Xak O] at j
theorem Yk1{o:Oper}(i:Ylz o.op=true){s:S}{r:AV×List (Nat×Ob)}(h:eff tb o s=some r): ∃sz xs,r.1=.lit sz xs:=by
 unfold eff at h
 split at h<;>try cases h
 split at h<;>try cases h
 unfold Ylz at i
 split at i<;>try cases i
 rename_i i
 rw[i] at h
 simp only[F,Fp] at h
 split at h<;>try cases h
 rename_i hq
 split at hq<;>try cases hq
 split at hq<;>try cases hq
 split at hq<;>cases hq
 exact⟨_,_,rfl⟩
theorem ZL.aft{E:Env}{LB:List Nat}{L:List Oper}(h:Xvr E LB L=true){o:Oper}(i:o∈L){s:S}(j:ZL LB s){r:AV×List (Nat×Ob)}(hr:r.1=.un\/Xal o=true\/eff tb o s=some r): ZL LB (aft s o r):=λb hb=>by
 by_cases hd:o.dst=some b
 . rw[Ylc hd]
   simp only[Xvr,W0g] at h
   have:=W1o.1 h.2 o i
   rw[hd] at this
   simp only[hb,Bool.not_true,Bool.false_or] at this
   rcases hr with hr | hr | hr
   . rw[hr];exact .inr (.inl rfl)
   . obtain⟨x,asx,I,O⟩:=Xix hr
     rw[O] at this;cases this
   . obtain⟨sz,xs,e⟩:=Yk1 this hr
     rw[e];exact .inr (.inr ⟨_,_,rfl⟩)
 . rw[Yod hd];exact j b hb
def spL(LB:List Nat)(L:List Oper)(E:Env)(T:Trk)(k i:Oper): Bool:=Yji LB L (dsL L) E T k i||Yji LB L (dsL L) E T i k||Ygv LB L k i||Ygv LB L i k
def Ypt: St->Bool
 | .o _ _ L _ _ E _=>Xvr E (Yly L) L&&Xmd (dsL L) E (trk (dsL L) E L []) L&&Xhi L (spL (Yly L) L E (trk (dsL L) E L [])) [] [] L
 | _=>false
theorem Dm.lit{L:List Oper}{E:Env}{T:Trk}{LB:List Nat}(hL:Xvr E LB L=true)(hT:Xmd (dsL L) E T L=true): Dm tb L (spL LB L E T) λs=>ZT (dsL L) E T s/\ZL LB s:=by
 have fin:∀ {k i:Oper} {s:S} {j o:AV×List (Nat×Ob)},Xb2 L i.dst k=true->Xbg (Xbg s.2 o.2) j.2=Xbg (Xbg s.2 j.2) o.2->Vm.aft (Vm.aft s i o) k j=Vm.aft (Vm.aft s k j) i o:=by
  intro k i s j o h hg
  unfold Vm.aft
  rw[S.put_g,S.put_g,hg]
  have e1:=S.put_e (s:=s) (g:=Xbg s.2 o.2) (g':=s.2) (d:=i.dst) (v:=o.1)
  have e2:=S.put_e (s:=s) (g:=Xbg s.2 j.2) (g':=s.2) (d:=k.dst) (v:=j.1)
  rw[e1,e2]
  exact Xlb (s:=s) (λa b ha hb=>Xgh h ha hb) rfl
 have one:∀ {k i:Oper} {s:S} {j o:AV×List (Nat×Ob)},Yji LB L (dsL L) E T k i=true->ZT (dsL L) E T s/\ZL LB s->efw tb L k s=some j->efw tb L i s=some o->efw tb L i (Vm.aft s k j)=some o/\efw tb L k (Vm.aft s i o)=some j/\Vm.aft (Vm.aft s i o) k j=Vm.aft (Vm.aft s k j) i o:=by
  intro k i s j o h I Q O
  obtain⟨Z,a1,V,_,hh⟩:=Xgc (tb:=tb) h
  obtain⟨b1,b2⟩:=hh I.1 I.2
  have e:=b1 Q
  exact⟨by rw[Xbn a1,e];exact O,by rw[Xbn V];exact(b2 (g:=s.2) O j).1 Q,fin V (by rw[e];rfl)⟩
 have two:∀ {k i:Oper} {s:S} {j o:AV×List (Nat×Ob)},Ygv LB L k i=true->ZL LB s->efw tb L k s=some j->efw tb L i s=some o->efw tb L i (Vm.aft s k j)=some o/\efw tb L k (Vm.aft s i o)=some j/\Vm.aft (Vm.aft s i o) k j=Vm.aft (Vm.aft s k j) i o:=by
  intro k i s j o h I Q O
  obtain⟨_,_,a1,V,_⟩:=Xj1 h
  obtain⟨b1,b2,b3⟩:=(Xlf (tb:=tb) h I).1 Q O
  exact⟨by rw[Xbn a1];exact b1,by rw[Xbn V];exact b2,fin V b3⟩
 have ncA:∀ {i:Oper} {d:Nat},apD LB i=some d->Xal i=false:=λ{i d} h=>by
  unfold apD at h
  split at h<;>try cases h
  rename_i Q O
  unfold Xal;rw[Q];rfl
 refine⟨λ{k i} h=>?_,λ{k i s j o} h I Q O=>?_,λ{k i s j o} h I Q O=>?_,λ{k s r} hk hc I h=>?_,λ{k s r} hk hc I h=>⟨ZT.aft (tb:=tb) hT hk I.1 (.inr (.inl hc)),ZL.aft (tb:=tb) hL hk I.2 (.inr (.inl hc))⟩⟩
 . simp only[spL,W3t] at h
   rcases h with ((h | h) | h) | h
   . obtain⟨Z,_,_,⟨d,hd⟩,_⟩:=Xgc (tb:=tb) h;exact⟨Z,ncA hd⟩
   . obtain⟨Z,_,_,⟨d,hd⟩,_⟩:=Xgc (tb:=tb) h;exact⟨ncA hd,Z⟩
   . obtain⟨_,Z,_,_,dk,d,_,hd⟩:=Xj1 h;exact⟨Z,ncA hd⟩
   . obtain⟨_,Z,_,_,dk,d,_,hd⟩:=Xj1 h;exact⟨ncA hd,Z⟩
 . simp only[spL,W3t] at h
   rcases h with ((h | h) | h) | h
   . exact one h I Q O
   . obtain⟨p1,p2,p3⟩:=one h I O Q;exact⟨p2,p1,p3.symm⟩
   . exact two h I.2 Q O
   . obtain⟨p1,p2,p3⟩:=two h I.2 O Q;exact⟨p2,p1,p3.symm⟩
 . simp only[spL,W3t] at h
   rcases h with ((h | h) | h) | h
   . obtain⟨Z,a1,V,_,hh⟩:=Xgc (tb:=tb) h
     rw[Xbn a1,(hh I.1 I.2).1 Q] at O
     exact O
   . obtain⟨Z,a1,V,_,hh⟩:=Xgc (tb:=tb) h
     rw[Xbn V] at O
     exact((hh I.1 I.2).2 (g:=s.2) Q o).2 O
   . obtain⟨_,_,a1,V,_⟩:=Xj1 h
     rw[Xbn a1] at O
     exact(Xlf (tb:=tb) h I.2).2.1 Q O
   . obtain⟨_,_,a1,V,_⟩:=Xj1 h
     rw[Xbn V] at O
     exact(Xlf (tb:=tb) h I.2).2.2 Q O
 . have hr:r.1=.un\/Xal k=true\/eff tb k s=some r:=by
    rcases Xa2 h with ⟨hw,_,e⟩ | ⟨_,e⟩
    . refine .inl ?_
      unfold efw at h
      rw[hw] at h
      simp only at h
      split at h<;>cases h
      rfl
    . exact .inr (.inr e)
   exact⟨ZT.aft (tb:=tb) hT hk I.1 hr,ZL.aft (tb:=tb) hL hk I.2 hr⟩
end
section
variable{c:Cx}{s:St}
theorem Dl{s':St}(h:nxD c.tb c.n s=some s')(k:StP c s')(i:Ypt s'=true:=by exact rfl): StP c s:=by
 unfold nxD at h
 split at h<;>try cases h
 rename_i O
 split at h<;>cases h
 rename_i j
 simp only[Ypt,W0g] at i
 obtain⟨⟨o,I⟩,Q⟩:=i
 refine go 1000 O (J.draw (Dm.lit o I) ⟨ZT.start I,λb hb=>.inl ?_⟩ j Q k)
 simp only[Xvr,W0g] at o
 have:=W1o.1 o.1 b (Ynl.1 hb)
 rw[W1x] at this
 exact Xbk this
variable{p:Pl}
noncomputable def nxQ(tb:Nat->Option TI)(n:Nat)(s:St): Option (Pl×Nat×Nat×Nat×Nat×List D×AV):=match nxA tb n s with
 | some (p,o,[a,b])=>match o.op with
  | .call ⟨.builtin .append,_,⟨[T,T']⟩⟩=>match Nat.beq T T',tb T,look p.H (o.dst.getD 0) with
   | true,some h,none=>match Nat.ble h.eb 128,h.z,b with
    | true,.sl sz _,.own q s l m=>match look p.H q with
     | some (.arr s' xs)=>match Nat.beq s sz&&Nat.beq s' sz with
      | true=>some (p,o.dst.getD 0,sz,l,m,xs,a)
      | false=>none
     | _=>none
    | true,.sl sz _,.ow3 q s l m=>match look p.H q with
     | some (.arr s' xs)=>match Nat.beq s sz&&Nat.beq s' sz with
      | true=>some (p,o.dst.getD 0,sz,l,m,xs,a)
      | false=>none
     | _=>none
    | _,_,_=>none
   | _,_,_=>none
  | _=>none
 | _=>none
theorem Xu3{d sz l m:Nat}{xs ys:List D}{a v:AV}{us:Hpl}(h:nxQ c.tb c.n s=some (p,d,sz,l,m,xs,a))(hl:l+m<=xs.length)(hy:(xs.drop l).take m=ys)(hF:∀ti:TI,ti.eb<=128->Xkm d (look p.H) ti sz ys a=some (v,us))(k:p.nx' c v us): StP c s:=by
 unfold nxQ at h
 split at h<;>try cases h
 rename_i p' o a' b hA
 split at h<;>try cases h
 rename_i asx T T' ho
 split at h<;>try cases h
 rename_i ti V Z hd
 have V:=W0d V
 subst V
 have I:∀ {i O},ti.eb<=128->ti.z=.sl i O->Xhn (look p'.H) ti.z i b=some ys->(p',o.dst.getD 0,i,a')=(p,d,sz,a)->StP c s:=by
  intro i O Q j hs e
  injection e with e1 e2;injection e2 with e2 e3;injection e3 with e3 e4
  subst e1;subst e2;subst e3;subst e4
  refine Xbj hA ?_ k
  rw[ho]
  simp only[F,if_true,Z,hd,j]
  rw[j] at hs
  rw[hs]
  exact hF ti Q
 split at h
 . rename_i Q j
   split at h<;>try cases h
   rename_i hq
   split at h<;>cases h
   rename_i hs
   rw[W0g] at hs
   have h1:=W0d hs.1
   have h2:=W0d hs.2
   exact I (W1g Q) j (by simp only[Xhn,hq];rw[if_pos ⟨h2,h1,hl⟩,hy]) rfl
 . rename_i Q j
   split at h<;>try cases h
   rename_i hq
   split at h<;>cases h
   rename_i hs
   rw[W0g] at hs
   have h1:=W0d hs.1
   have h2:=W0d hs.2
   exact I (W1g Q) j (by simp only[Xhn,hq];rw[if_pos ⟨h2,h1,hl⟩,hy]) rfl
 . cases h
theorem AqN{d sz l m:Nat}{xs:List D}(zs:List D)(h:nxQ c.tb c.n s=some (p,d,sz,l,m,xs,.nil))(i:l+m<=xs.length)(j:(xs.drop l).take m=zs)(hr:zs.length<=1099511627776)(k:p.nx' c (.gr d sz zs) [(d,.tok zs.length sz)]): StP c s :=
 Xu3 h i j (λI o=>by simp[Xkm,Xda hr o]) k
theorem Aq3{d sz o n l m:Nat}{xs ws:List D}(zs:List D)(h:nxQ c.tb c.n s=some (p,d,sz,l,m,xs,.ow3 o sz 0 n))(j:look p.H o=some (.arr sz ws))(I:l+m<=xs.length)(O:n<=ws.length)(Q:ws.take n++(xs.drop l).take m=zs)(h0:0<m)(hr:zs.length<=1099511627776)(k:p.nx' c (.own d sz 0 zs.length) [(d,.arr sz zs)]): StP c s:=by
 subst Q
 have i:((xs.drop l).take m).length=m:=by simp;omega
 have e:(ws.take n++(xs.drop l).take m).length=n+m:=by rw[W0c,i,W0f];omega
 rw[e] at hr k
 refine Xu3 h I rfl (λV T=>?_) k
 simp only[Xkm,j]
 rw[if_pos ⟨by rw[i];exact Xda hr T,rfl,O,rfl,rfl⟩,if_neg (by omega),i]
theorem Ypx{d sz o n l m:Nat}{xs ws:List D}(h:nxQ c.tb c.n s=some (p,d,sz,l,m,xs,.ow3 o sz 0 n))(i:look p.H o=some (.arr sz ws))(j:l+m<=xs.length)(I:n<=ws.length)(h0:m=0)(hr:n<=1099511627776)(k:p.nx' c (.ow3 o sz 0 n) []): StP c s:=by
 subst h0
 refine Xu3 (ys:=[]) h j (W5e) (λQ O=>?_) k
 simp only[Xkm,i,W4p,W2i]
 rw[if_pos ⟨Xda hr O,rfl,I,rfl,rfl⟩,if_pos trivial]
end
end Go.Vm
namespace Go.Proofs.YtfjafaehfjjaiaaGreatDoor.R9
open Go Go.Vm Go.Num Go.Tow Go.Proofs.YtfjafaehfjjaiaaGreatDoor
theorem You{a i:Nat}(hi:i<=63): arB .shr .i64 a i (a/2^i:Nat):=show _/\_ from⟨by omega,by
 rw[show min (Int.toNat (i:Int)) (IntKind.bits .i64)=i by show min (Int.toNat (i:Int)) 64=i;omega,W1t _ (Int.pow_nonneg (by decide)),show (2:Int)^i=((2^i:Nat):Int) by simp]
 exact(Int.natCast_ediv _ _).symm⟩
theorem Yow{a:Nat}: arB .rem .i64 a 2 (a%2:Nat):=show _/\_ from⟨by decide,Xr2 a 2⟩
theorem num0{x:Rat}: Xbb x.num 0≠0↔x≠0:=by
 rw[Xhw]
 rcases Xbc x with ⟨h,e⟩ | ⟨h,e⟩ | ⟨h,e⟩<;>rw[e]
 . exact⟨λ_ e=>by rw[e] at h;exact absurd h (by decide),λ_=>by decide⟩
 . exact⟨λh=>absurd rfl h,λi=>absurd h i⟩
 . exact⟨λ_ e=>by rw[e] at h;exact absurd h (by decide),λ_=>by decide⟩
theorem Xu0{l:List Rat}{p i:Nat}(V:Ps p l)(hp:p<=8796093022208)(hi:i<=63)(Z:l.length<=1048576): C0 261 [.d (dqs l),.d (.int .i64 i)] (·=.b (dc (oc l i))):=by
 refine En Tryz.func261 λ_ _ _=>?_
 refine Lo (λk:Nat=>[(0,.d (dqs l)),(1,.d (.int .i64 i)),(5,.d (.int .i64 k))]) (λ_=>[]) (λk=>k<=l.length/\∀q x,q<k->l[q]?=some x->q/2^i%2=1->x=0) (λk=>l.length-k) 0 [] rfl ⟨by omega,λq x h=>by omega⟩ λk ⟨hk,T⟩=>?_
 refine By rfl (λh=>?_) λh=>?_<;>simp only[lq] at h
 . obtain⟨x,O⟩:=qat (l:=l) (k:=k) (by omega)
   have next:(k/2^i%2=1->x=0)->k+1<=l.length/\∀q y,q<k+1->l[q]?=some y->q/2^i%2=1->y=0:=λj=>⟨by omega,λq y hq o hb=>by
    by_cases e:q=k
    . subst e;rw[O] at o;injection o with o;rw[<-o];exact j hb
    . exact T q y (by omega) o hb⟩
   refine Ar (k/2^i:Nat) rfl ?_ (You hi)
   refine Ar (k/2^i%2:Nat) rfl ?_ Yow
   refine By rfl (λj=>?_) λj=>?_
   . refine Ix k rfl (mp O) ?_
     refine Ce rfl (R2.Sign_ok (V x (W0h O)) hp) ?_
     refine By rfl (λI=>?_) λI=>?_
     . exact R1 rfl (.bp ⟨λ_=>⟨k,x,O,by omega,num0.1 I⟩,λ_=>rfl⟩)
     . refine Ar (k+1:Nat) rfl ?_
       exact Bk (k+1) [] rfl (next λ_=>W1b λQ=>I (num0.2 Q)) (by show l.length-(k+1)<l.length-k;omega)
   . refine Ar (k+1:Nat) rfl ?_
     exact Bk (k+1) [] rfl (next λQ=>absurd (by omega) j) (by show l.length-(k+1)<l.length-k;omega)
 . exact R1 rfl (.bp ⟨nofun,λ⟨q,x,j,I,Q⟩=>absurd (T q x (by have:=(W0n.1 j).1;omega) j I) Q⟩)
theorem Xs7{α:Type}{l:List α}{k i:Nat}{x:α}(h:l[k]?=some x): wo (l.take (k+1)) i=wo (l.take k) i++(if k/2^i%2=0 then [x] else []):=by
 have j:=(W0n.1 h).1
 unfold wo
 rw[W2c,h,Xnz,W0f,W2e (by omega),W1l]
 rfl
theorem Xrz{l:List Rat}{i:Nat}(hi:i<=63)(T:l.length<=1048576): C0 262 [.d (dqs l),.d (.int .i64 i)] (·=.d (dqs (wo l i))):=by
 have j:∀k,(wo (l.take k) i).length<=k:=λk=>by
  induction k with
  | zero=>simp[wo,woA]
  | succ k O =>
   by_cases h:k<l.length
   . rw[Xs7 (W0e h),W0c]
     split<;>simp<;>omega
   . rw[W0b (by omega)]
     rw[W0b (by omega)] at O;omega
 refine En Tryz.func262 λ_ _ _=>?_
 refine Nl 5 5 4 rfl ?_
 refine Lo (λk:Nat=>[(0,.d (dqs l)),(1,.d (.int .i64 i)),(5,.gr 5 4 ((wo (l.take k) i).map dq)),(6,.d (.int .i64 k))]) (λk=>[(5,.tok ((wo (l.take k) i).map dq).length 4)]) (λk=>k<=l.length) (λk=>l.length-k) 0 [] rfl (by omega) λk V=>?_
 refine By rfl (λh=>?_) λh=>?_<;>simp only[lq] at h
 . obtain⟨x,I⟩:=qat (l:=l) (k:=k) (by omega)
   have o:=Xs7 (i:=i) I
   have Z:=j (k+1)
   refine Ar (k/2^i:Nat) rfl ?_ (You hi)
   refine Ar (k/2^i%2:Nat) rfl ?_ Yow
   refine By rfl (λQ=>?_) λQ=>?_
   . rw[if_pos (by omega)] at o
     refine Ix k rfl (mp I) ?_
     refine ApG ((wo (l.take (k+1)) i).map dq) rfl (by rw[o];simp) (by simp;omega) ?_
     refine Ar (k+1:Nat) rfl ?_
     exact Bk (k+1) [(24,5)] rfl (show k+1<=l.length by omega) (by show l.length-(k+1)<l.length-k;omega)
   . rw[if_neg (by omega),W4e] at o
     refine Ar (k+1:Nat) rfl ?_
     exact Bk (k+1) [] rfl (show k+1<=l.length by omega) (by show l.length-(k+1)<l.length-k;omega) (by exact⟨by rw[o];rfl,by rw[o];rfl,rfl,rfl,rfl⟩)
 . rw[W0b (by omega)]
   exact R1 rfl (.gr rfl)
end Go.Proofs.YtfjafaehfjjaiaaGreatDoor.R9
namespace Go.Tow
open Go Go.Num Go.Proofs.YtfjafaehfjjaiaaGreatDoor
def nd(x:Nm)(i:Nat): Prop:=oc (toL x.k x.a) i\/∃q l,i<q/\(toT x.k x.t)[q]?=some l/\oc l i
def Tm(x:Nm): Prop:=∀i,i<x.k->nd x i
theorem Ydi{α:Type}{i:Nat}{l:List α}: ∀ {p n:Nat} {x:α},l[n]?=some x->(p+n)/2^i%2=0->x∈woA i p l:=by
 induction l with
 | nil=>intro p n x h;simp at h
 | cons y l j =>
  intro p n x h hb
  cases n with
  | zero =>
   simp at h
   subst h
   simp only[woA]
   rw[if_pos (by simpa using hb)];exact W0l ..
  | succ n =>
   have:=j (p:=p+1) (n:=n) (x:=x) (by simpa using h) (by rw[<-hb];congr 2;omega)
   simp only[woA]
   split
   . exact W0o _ this
   . exact this
theorem Yd8{k i:Nat}{b:El (k+1)}(hi:i<=k)(o:¬oc (toL (k+1) b) i)(h:rm k i b=zero k): b=zero (k+1):=(Xam (k+1) b).2 λx I=>W1b λh0=>by
 obtain⟨p,hp⟩:=W3a I
 by_cases hb:p/2^i%2=1
 . exact o ⟨p,x,hp,hb,h0⟩
 . have j:x∈woA i 0 (toL (k+1) b):=Ydi hp (by rw[W1l];omega)
   have O:toL k (rm k i b)=woA i 0 (toL (k+1) b):=Xf2 hi
   rw[<-O,h] at j
   exact h0 ((Xam k (zero k)).1 rfl x j)
theorem Yin{k:Nat}{a:El (k+1)}(h:a.2≠zero k): oc (toL (k+1) a) k:=W1b λi=>h ((Xdo i).1 rfl)
theorem Yen{k i:Nat}{a:El (k+1)}(hi:i<k)(h:oc (toL k a.1) i): oc (toL (k+1) a) i:=W1b λj=>((Xdo j).2 hi).1 h
theorem Xzl{k i:Nat}{a:El (k+1)}(hi:i<k)(h:oc (toL k a.2) i): oc (toL (k+1) a) i:=W1b λj=>((Xdo j).2 hi).2 h
theorem Ycc{k i:Nat}{a:El k}(h:k<=i): ¬oc (toL k a) i:=λ⟨p,x,o,j,_⟩=>by
 have:=(W0n.1 o).1
 rw[Xab] at this
 rw[W4l (W0x this (W0p (by decide) h))] at j
 cases j
theorem Xzk{k i:Nat}{a:El (k+1)}(h:oc (toL (k+1) a) i): oc (toL k a.1) i\/oc (toL k a.2) i\/(i=k/\a.2≠zero k):=by
 obtain⟨p,x,j,o,I⟩:=h
 have j:(toL k a.1++toL k a.2)[p]?=some x:=j
 by_cases hp:p<2^k
 . rw[W0r (by rw[Xab];exact hp)] at j
   exact .inl ⟨p,x,j,o,I⟩
 . rw[W0s (by rw[Xab];omega),Xab] at j
   have O:=(W0n.1 j).1
   rw[Xab] at O
   by_cases Q:i<k
   . refine .inr (.inl ⟨p-2^k,x,j,?_,I⟩)
     obtain⟨d,hd⟩:∃d,k=i+1+d:=⟨k-i-1,by omega⟩
     have e:p=p-2^k+2^i*(2*2^d):=by
      have:2^k=2^i*(2*2^d):=by rw[hd,W0z,W1a,W0y]
      omega
     rw[e,W6s _ _ (W0u i),W5h] at o
     exact o
   . by_cases e:i=k
     . exact .inr (.inr ⟨e,λh0=>I ((Xam k a.2).1 h0 x (W0h j))⟩)
     . exfalso
       have:p<2^i:=W0x (show p<2^(k+1) by rw[W1a];omega) (W0p (by decide) (by omega))
       rw[W4l this] at o
       cases o
theorem Yio: ∀ {k i j:Nat} {a:El (k+1)},i<=j->j<k->¬oc (toL (k+1) a) i->oc (toL (k+1) a) (j+1)->oc (toL k (rm k i a)) j:=by
 intro k
 induction k with
 | zero=>intro i j a _ h;omega
 | succ k Q =>
  intro i j a I V O h
  obtain⟨n1,T⟩:=(Xdo O).2 (show i<k+1 by omega)
  rw[show rm (k+1) i a=pr (rm k i a.1) (rm k i a.2) from if_neg (by omega)]
  rcases Xzk h with h | h | ⟨h,h0⟩
  . have o:j<k:=by
     by_cases e:j<k
     . exact e
     . exact absurd h (Ycc (by omega))
    exact Yen o (Q I o n1 h)
  . have o:j<k:=by
     by_cases e:j<k
     . exact e
     . exact absurd h (Ycc (by omega))
    exact Xzl o (Q I o T h)
  . obtain rfl:j=k:=by omega
    exact Yin λe=>h0 (Yd8 I T e)
theorem Yiz{m i j:Nat}{T:Tw (m+1)}{c:El (m+1)}(hi:i<=m)(I:¬nd ⟨m+1,T,c⟩ i)(O:i<=j)(Z:j<m)(h:nd ⟨m+1,T,c⟩ (j+1)): nd ⟨m,rmT m i T,rm m i c⟩ j:=by
 rcases h with h | ⟨q,l,hq,o,ho⟩
 . exact .inl (Yio O Z (λe=>I (.inl e)) h)
 . have Q:q<(toT (m+1) T).length:=(W0n.1 o).1
   rw[Xaa] at Q
   obtain⟨e,V,_,_⟩:=Tw.at (t:=T) Q
   have o:(toT (m+1) T)[q]?=some l:=o
   rw[o] at V
   injection V with V
   subst V
   have hn:¬oc (toL q e) i:=λh=>I (.inr ⟨q,_,by omega,o,h⟩)
   obtain⟨q,rfl⟩:∃q',q=q'+1:=⟨q-1,by omega⟩
   refine .inr ⟨q,wo (toL (q+1) e) i,by omega,?_,?_⟩
   . show (toT m (rmT m i T))[q]?=_
     rw[Xkx hi,W0s (by rw[W0f,Xaa];omega),W0f,Xaa,W2e (by omega),W1q,W1v,show i+1+(q-i)=q+1 by omega,o]
     rfl
   . rw[<-Xf2 (show i<=q by omega)]
     exact Yio O (by omega) hn ho
end Go.Tow
namespace Go.Proofs.YtfjafaehfjjaiaaGreatDoor.R9
open Go Go.Vm Go.Num Go.Tow Go.Proofs.YtfjafaehfjjaiaaGreatDoor
section
def wl(i j:Nat)(zs:List (List Rat)): List (List Rat):=zs.mapIdx λq r=>if i<q/\q<j then wo r i else r
theorem Xh4{i j q:Nat}{zs:List (List Rat)}: (wl i j zs)[q]?=zs[q]?.map λr=>if i<q/\q<j then wo r i else r:=by unfold wl;rw[List.getElem?_mapIdx]
theorem Xfx{i j:Nat}{zs:List (List Rat)}: (wl i j zs).length=zs.length:=by unfold wl;simp
theorem Xpr{i:Nat}{zs:List (List Rat)}: wl i (i+1) zs=zs:=W4c λq=>by
 rw[Xh4]
 cases zs[q]? with
 | none=>rfl
 | some r=>simp only[W3g];rw[if_neg (by omega)]
theorem Yba{i j:Nat}{zs:List (List Rat)}{r:List Rat}(hi:i<j)(h:zs[j]?=some r): (wl i j zs).set j (wo r i)=wl i (j+1) zs:=W4c λq=>by
 have o:=(W0n.1 h).1
 rw[Xh4,List.getElem?_set]
 by_cases e:j=q
 . subst e
   rw[if_pos rfl,if_pos (by rw[Xfx];exact o),h,W3g,if_pos ⟨hi,by omega⟩]
 . rw[if_neg e,Xh4]
   cases zs[q]? with
   | none=>rfl
   | some r=>simp only[W3g];congr 1;split<;>split<;>first | rfl | omega
theorem Ybb{m i:Nat}{T:Tw (m+1)}{zs:List (List Rat)}(h:zs.take (m+1)=toT (m+1) T)(hi:i<=m): (wl i (m+1) zs).take i++((wl i (m+1) zs).drop (i+1)).take (m+1-(i+1))=toT m (rmT m i T):=by
 rw[Xkx hi,<-h]
 congr 1
 . refine W4c λq=>?_
   rw[W1d,W1d,W1d,Xh4]
   split
   . rw[if_pos (by omega)]
     cases zs[q]? with
     | none=>rfl
     | some r=>simp only[W3g];rw[if_neg (by omega)]
   . rfl
 . refine W4c λq=>?_
   rw[W1d,W1v,W1q,W1v,W1d,Xh4]
   split
   . rw[if_pos (by omega)]
     cases zs[i+1+q]? with
     | none=>rfl
     | some r=>simp only[W3g];rw[if_pos (by omega)]
   . rw[if_neg (by omega)];rfl
open Classical in
noncomputable def trS(n:Nat)(z:Nm): Nm:=if nd z n then z else match z with
 | ⟨0,t,a⟩=>⟨0,t,a⟩
 | ⟨m+1,t,a⟩=>⟨m,rmT m n t,rm m n a⟩
noncomputable def trF: Nat->Nm->Nm
 | 0,z=>z
 | n+1,z=>trF n (trS n z)
theorem Xkw{n:Nat}{z:Nm}(h:nd z n): trF (n+1) z=trF n z:=congrArg (trF n) (if_pos h)
theorem Xtk{n m:Nat}{t:Tw (m+1)}{a:Tow.El (m+1)}(h:¬nd ⟨m+1,t,a⟩ n): trF (n+1) ⟨m+1,t,a⟩=trF n ⟨m,rmT m n t,rm m n a⟩:=congrArg (trF n) (if_neg h)
section
variable{K:Nat}{G:Tw K}{S:List (Tow.El K)}{r p:Nat}{x:Nm}{v:Tow.El K}
structure Tst where
 n:Nat
 kd:Nat
 z:Nm
 zs:List (List Rat)
def Als(P:Rat->Prop)(z:Nm): Prop:=(∀q∈toL z.k z.a,P q)/\∀l∈toT z.k z.t,∀q∈l,P q
def TI(y:Nm)(P:Rat->Prop)(G:Tw K)(S:List (Tow.El K))(r p:Nat)(v:Tow.El K)(s:Tst): Prop:=(NOk G S r p s.z v/\Als P s.z/\trF s.n s.z=y)/\s.n<=s.z.k/\s.zs.take s.z.k=toT s.z.k s.z.t/\(s.kd=0->s.z.k=0)/\(s.kd=1->s.zs.length=s.z.k)/\(3<=s.kd->s.n=0/\s.zs.length=s.z.k)/\∀j,s.n<=j->j<s.z.k->nd s.z j
abbrev TH(s:Tst): Hpl:=(2,.var (.st (.pr .nil .nil)))::match s.kd with
 | 0=>[(3,.var (.st (.pr (.lit 1 []) (.d (de s.z.a)))))]
 | 1=>[(3,.var (.st (.pr (.own 11 1 0 (s.zs.map dqs).length) (.d (de s.z.a))))),(11,.arr 1 (s.zs.map dqs))]
 | 2=>[(3,.var (.st (.pr (.ow3 11 1 0 s.z.k) (.d (de s.z.a))))),(11,.arr 1 (s.zs.map dqs))]
 | _=>[(3,.var (.st (.pr (.gr 11 1 (s.zs.map dqs)) (.d (de s.z.a))))),(11,.tok (s.zs.map dqs).length 1)]
abbrev TH'(kd m:Nat)(c:List Rat)(zs ws:List (List Rat)): Hpl:=(2,.var (.st (.pr .nil .nil)))::match kd with
 | 1=>[(3,.var (.st (.pr (.own 11 1 0 (zs.map dqs).length) (.d (dqs c))))),(11,.arr 1 (ws.map dqs))]
 | _=>[(3,.var (.st (.pr (.ow3 11 1 0 (m+1)) (.d (dqs c))))),(11,.arr 1 (ws.map dqs))]
theorem Xx2{P:Rat->Prop}(hP:Als P x)(hG:red K G)(hS:S.length<=3)(hx:NOk G S r p x v)(hr:r<=8796093022208)(hp:p<=8796093022208): C0 201 [.d (dN x)] λw=>∃z:Nm,w=.d (dN z)/\NOk G S r p z v/\(Tm z/\Als P z)/\z=trF x.k x:=by
 have hGr:=Xad hG
 have hk3:=hx.le hGr hS
 obtain⟨k,t,a⟩:=x
 obtain⟨y,hy⟩:∃y,trF k ⟨k,t,a⟩=y:=⟨_,rfl⟩
 have hk3:k<=3:=hk3
 have hlen:=Xaa k t
 refine En Tryz.func201 λ_ _ _=>?_
 refine Dl rfl ?_
 by_cases k0:k=0
 . subst k0
   refine ApE rfl rfl (by decide) ?_
   refine Ar (-1) rfl ?_ (show arB .sub .i64 0 1 (-1) from wr rfl (by simp[inK]))
   refine Lo (λ(s:Tst)=>[(2,.ptr 2 0),(3,.ptr 3 0),(4,.d (.int .i64 ((s.n:Int)-1)))]) (λs=>TH s) (λs=>TI y P G S r p v s/\s.kd=0/\s.n=0) (λs=>s.n) ⟨0,0,⟨0,t,a⟩,[]⟩ [] rfl ⟨⟨⟨hx,hP,hy⟩,W0a _,rfl,λ_=>rfl,nofun,λh=>absurd h (show ¬3<=0 by decide),λj _ hj=>absurd hj (W4r _)⟩,rfl,rfl⟩ (λ⟨n,kd,⟨m,T,c⟩,zs⟩ hI=>?_)
   obtain⟨⟨⟨h1,hF⟩,h2,h3,h4,h5,h6,h8⟩,rfl,rfl⟩:=hI
   obtain rfl:=h4 rfl
   refine No rfl (show ¬((0:Nat):Int)-1>=0 by decide) ?_
   exact Rt rfl (.one (.sd (.pd (.lit rfl) (.eq rfl))) rfl rfl) ⟨_,rfl,h1,⟨λi hi=>absurd hi (W4r _),hF.1⟩,hF.2.trans hy.symm⟩
 . refine ApL ((toT k t).map dqs) rfl rfl (by simp[hlen];omega) (by simp[hlen];omega) ?_
   refine Ar (k-1) rfl ?_ (wr (by simp[hlen]) (by simp only[inK];omega))
   refine Lo (λ(s:Tst)=>[(2,.ptr 2 0),(3,.ptr 3 0),(4,.d (.int .i64 ((s.n:Int)-1)))]) (λs=>TH s) (λs=>TI y P G S r p v s/\s.kd≠0) (λs=>s.n) ⟨k,1,⟨k,t,a⟩,toT k t⟩ [] rfl ⟨⟨⟨hx,hP,hy⟩,W0a _,W0b (by rw[hlen];exact W0a _),nofun,λ_=>hlen,λh=>absurd h (show ¬3<=1 by decide),λj h1 h2=>absurd h2 (W5w.2 h1)⟩,show 1≠0 by decide⟩ (λ⟨n,kd,⟨m,T,c⟩,zs⟩ hI=>?_)
   obtain⟨⟨⟨h1,hF⟩,h2,h3,h4,h5,h6,h8⟩,h7⟩:=hI
   simp only at h1 h2 h3 h4 h5 h6 h7 h8
   have hm3:m<=3:=h1.le hGr hS
   have hT:TS r m T:=h1.r
   have hc:Sz p (toL m c):=h1.p
   have hcl:=Xab m c
   have hpm:=p16 (show m<=16 by omega)
   have hTl:=Xaa m T
   have hzl:m<=zs.length:=by have:=congrArg List.length h3;rw[W0f,hTl] at this;omega
   cases n with
   | zero =>
    refine No rfl (show ¬((0:Nat):Int)-1>=0 by decide) ?_
    match kd,h5,h6,h7 with
    | 1,h5,_,_ =>
     exact Rt rfl (.one (.sd (.pd (.own rfl (by omega) (by rw[W1e,W2h,<-h3,W0b (by omega)])) (.eq rfl))) rfl rfl) ⟨⟨m,T,c⟩,rfl,h1,⟨λi hi=>h8 i (W0w _) hi,hF.1⟩,hF.2.trans hy.symm⟩
    | 2,_,_,_ =>
     exact Rt rfl (.one (.sd (.pd (.ow3 rfl (by simp;omega) (by rw[W1e,<-W2g,h3])) (.eq rfl))) rfl rfl) ⟨⟨m,T,c⟩,rfl,h1,⟨λi hi=>h8 i (W0w _) hi,hF.1⟩,hF.2.trans hy.symm⟩
    | kd+3,_,h6,_ =>
     exact Rt rfl (.one (.sd (.pd (.gr (by rw[<-h3,W0b (by have:=(h6 (by omega)).2;omega)])) (.eq rfl))) rfl rfl) ⟨⟨m,T,c⟩,rfl,h1,⟨λi hi=>h8 i (W0w _) hi,hF.1⟩,hF.2.trans hy.symm⟩
   | succ i =>
    obtain⟨m,rfl⟩:∃m',m=m'+1:=⟨m-1,by omega⟩
    have hkd:kd=1\/kd=2:=by
     have:¬3<=kd:=λh=>by have:=(h6 h).1;omega
     omega
    let o:Nat->Nat->Prop:=λi j=>oc (toL (m+1) c) i\/∃q l,i<q/\q<j/\(toT (m+1) T)[q]?=some l/\oc l i
    have need0:dc (oc (toL (m+1) c) i)=true↔o i (i+1):=by
     rw[Xaj];exact⟨.inl,λh=>h.elim id λ⟨q,l,a1,a2,_⟩=>by omega⟩
    have V:∀ {j:Nat} {l:List Rat},(toT (m+1) T)[j]?=some l->i+1<=j->(o i (j+1)↔o i j\/oc l i):=λ{j l} O hij=>by
     refine⟨λh=>h.elim (λh=>.inl (.inl h)) λ⟨q,l',a1,a2,a3,a4⟩=>?_,λh=>h.elim (λh=>h.elim .inl λ⟨q,l',a1,a2,a3,a4⟩=>.inr ⟨q,l',a1,by omega,a3,a4⟩) λh=>.inr ⟨j,l,by omega,by omega,O,h⟩⟩
     by_cases e:q=j
     . subst e;rw[O] at a3;injection a3 with a3;subst a3;exact .inr a4
     . exact .inl (.inr ⟨q,l',a1,by omega,a3,a4⟩)
    have rad:∀j,j<m+1->∃l,(toT (m+1) T)[j]?=some l/\zs[j]?=some l/\Sz r l:=λj hj=>by
     obtain⟨e,e1,e2,_⟩:=Tw.at (t:=T) hj
     refine⟨_,e1,?_,e2 r hT⟩
     rw[<-h3,W1d,if_pos hj] at e1;exact e1
    have rlen:∀ {j:Nat} {l:List Rat},(toT (m+1) T)[j]?=some l->l.length=2^j:=λh=>(TS.pt hT _ _ h).1
    have nod:¬o i (m+1)->¬nd ⟨m+1,T,c⟩ i:=λh e=>h (e.elim .inl λ⟨q,l,a1,a3,a4⟩=>.inr ⟨q,l,a1,by have:=(W0n.1 a3).1;rwa[hTl] at this,a3,a4⟩)
    have out:¬o i (m+1)->(NOk G S r p ⟨m,rmT m i T,rm m i c⟩ v/\Als P ⟨m,rmT m i T,rm m i c⟩/\trF i ⟨m,rmT m i T,rm m i c⟩=y)/\toL m (rm m i c)=wo (toL (m+1) c) i:=λh=>by
     have him:i<=m:=by omega
     obtain⟨ρ,a1,a2⟩:=h1.ex
     refine⟨⟨⟨⟨skip i ρ,a1.rm hGr him λj l hj O ho=>h (.inr ⟨j,l,hj,by have:=(W0n.1 O).1;rw[hTl] at this;omega,O,ho⟩),by rw[<-a2];exact Yfo him λho=>h (.inl ho)⟩,hT.rm him,?_⟩,⟨?_,?_⟩,(Xtk (nod h)).symm.trans hF.2⟩,Xf2 him⟩
     . show Sz p (toL m (rm m i c))
       rw[Xf2 him];exact hc.sub λx hx=>Xfg hx
     . show ∀q∈toL m (rm m i c),P q
       rw[Xf2 him];exact λq hq=>hF.1.1 q (Xfg hq)
     . show ∀l∈toT m (rmT m i T),∀q∈l,P q
       rw[Xkx him]
       intro l O q hq
       rcases W1r.1 O with O | O
       . exact hF.1.2 l (W3v O) q hq
       . obtain⟨l',hl',rfl⟩:=W2l.1 O
         exact hF.1.2 l' (W4k hl') q (Xfg hq)
    have keep:o i (m+1)->∀j,i<=j->j<m+1->nd ⟨m+1,T,c⟩ j:=λh j a b=>by
     by_cases e:i=j
     . subst e
       exact h.elim .inl λ⟨q,l,a1,_,a3,a4⟩=>.inr ⟨q,l,a1,a3,a4⟩
     . exact h8 j (by omega) b
    have Q:¬o i (m+1)->∀j,i<=j->j<m->nd ⟨m,rmT m i T,rm m i c⟩ j:=λh j a b=>Yiz (by omega) (λe=>h (e.elim .inl λ⟨q,l,a1,a3,a4⟩=>.inr ⟨q,l,a1,by have:=(W0n.1 a3).1;rwa[hTl] at this,a3,a4⟩)) a b (h8 (j+1) (by omega) (by omega))
    refine Yes rfl (show ((i+1:Nat):Int)-1>=0 by omega) ?_
    have ei:((i+1:Nat):Int)-1=i:=by omega
    have hoc:∀ {l:List Rat} {p:Nat},Ps p l->p<=8796093022208->l.length<=1048576->C0 261 [.d (dqs l),.d (.int .i64 (((i+1:Nat):Int)-1))] (·=.b (dc (oc l i))):=λh1 h2 h3=>by
     have:=Xu0 (i:=i) h1 h2 (by omega) h3
     rwa[<-ei] at this
    have hwo:∀ {l:List Rat},l.length<=1048576->C0 262 [.d (dqs l),.d (.int .i64 (((i+1:Nat):Int)-1))] (·=.d (dqs (wo l i))):=λh=>by
     have:=Xrz (i:=i) (by omega) h
     rwa[<-ei] at this
    rcases hkd with rfl | rfl
    . refine Ce rfl (hoc (l:=toL (m+1) c) hc.ps hp (by omega)) ?_
      refine Ar (i+1:Nat) rfl ?_ (wr (show ((i+1:Nat):Int)-1+1=((i+1:Nat):Int) by omega) (by simp only[inK];omega))
      refine Lo (λ(q:Nat×Bool)=>[(2,.ptr 2 0),(3,.ptr 3 0),(4,.d (.int .i64 (((i+1:Nat):Int)-1))),(5,.b q.2),(6,.d (.int .i64 q.1))]) (λ_=>TH ⟨i+1,1,⟨m+1,T,c⟩,zs⟩) (λq=>i+1<=q.1/\q.1<=m+1/\(q.2=true↔o i q.1)) (λq=>m+1-q.1) (i+1,dc (oc (toL (m+1) c) i)) [] rfl ⟨W0a _,by show i+1<=m+1;omega,need0⟩ (λ(j,b) ⟨g1,g2,g3⟩=>?_)
      simp only at g1 g2 g3
      refine By rfl (λh=>?_) λh=>?_<;>try simp only[lt'] at h
      . obtain⟨l,O,Z,hls⟩:=rad j (by omega)
        refine By rfl (λhb=>?_) λhb=>?_
        . refine Ar (j+1:Nat) rfl ?_
          exact Bk (j+1,true) [] rfl ⟨by show i+1<=j+1;omega,by show j+1<=m+1;omega,by show true=true↔_;rw[V O g1];exact⟨λ_=>.inl (g3.1 hb),λ_=>rfl⟩⟩ (by show m+1-(j+1)<m+1-j;omega)
        . refine Eo j rfl (by first | omega | (simp only[lt'];omega)) ?_
          refine Ld (dqs l) rfl (mp Z) ?_
          refine Ce rfl (hoc (l:=l) hls.ps hr (by rw[rlen O];have:=p16 (show j<=16 by omega);omega)) ?_
          refine Ar (j+1:Nat) rfl ?_
          exact Bk (j+1,dc (oc l i)) [] rfl ⟨by show i+1<=j+1;omega,by show j+1<=m+1;omega,by show dc (oc l i)=true↔_;rw[V O g1,Xaj];exact⟨.inr,λh=>h.elim (λh=>absurd (g3.2 h) hb) id⟩⟩ (by show m+1-(j+1)<m+1-j;omega)
      . obtain rfl:j=m+1:=by omega
        refine By rfl (λhb=>?_) λhb=>?_
        . refine Ar ((i:Int)-1) rfl ?_ (wr (show ((i+1:Nat):Int)-1-1=(i:Int)-1 by omega) (by simp only[inK];omega))
          exact Bk ⟨i,1,⟨m+1,T,c⟩,zs⟩ [] rfl ⟨⟨⟨h1,hF.1,(Xkw (keep (g3.1 hb) i (W0a _) (by omega))).symm.trans hF.2⟩,by show i<=m+1;omega,h3,h4,h5,λh=>absurd h (show ¬3<=1 by decide),keep (g3.1 hb)⟩,h7⟩ (show i<i+1 by omega)
        . have hno:¬o i (m+1):=λh=>hb (g3.2 h)
          obtain⟨w1,w2⟩:=out hno
          have hw0:=hwo (l:=toL (m+1) c) (by omega)
          rw[<-w2] at hw0
          refine Ce rfl hw0 ?_
          refine Ar (i+1:Nat) rfl ?_ (wr (show ((i+1:Nat):Int)-1+1=((i+1:Nat):Int) by omega) (by simp only[inK];omega))
          refine Lo (λ(j:Nat)=>[(2,.ptr 2 0),(3,.ptr 3 0),(4,.d (.int .i64 (((i+1:Nat):Int)-1))),(7,.d (.int .i64 j))]) (λj=>TH' 1 m (toL m (rm m i c)) zs (wl i j zs)) (λj=>i+1<=j/\j<=m+1) (λj=>m+1-j) (i+1) [] rfl ⟨W0a _,by omega⟩ (λj ⟨g1,g2⟩=>?_) (by rw[Xpr];exact⟨rfl,rfl,rfl,rfl,rfl⟩)
          refine By rfl (λh=>?_) λh=>?_<;>try simp only[lt'] at h
          . obtain⟨l,O,Z,hls⟩:=rad j (by omega)
            refine Dw rfl ?_
            refine Eo j rfl (by first | omega | (simp only[lt',Xfx];omega)) ?_
            refine Ld (dqs l) rfl (mp (by rw[Xh4,Z,W3g,if_neg (by omega)])) ?_
            refine Ce rfl (hwo (l:=l) (by rw[rlen O];have:=p16 (show j<=16 by omega);omega)) ?_
            refine Eo j rfl (by first | omega | (simp only[lt',Xfx];omega)) ?_
            refine Sto rfl (by simp only[lt',Xfx];omega) (zs:=(wl i (j+1) zs).map dqs) (by rw[<-Yba (by omega) Z];exact ms) ?_
            refine Ar (j+1:Nat) rfl ?_
            exact Bk (j+1) [] rfl ⟨by omega,by omega⟩ (by show m+1-(j+1)<m+1-j;omega)
          . obtain rfl:j=m+1:=by omega
            have hwe:=Ybb h3 (show i<=m by omega)
            have hws:(wl i (m+1) zs).length=zs.length:=Xfx
            have I:=Xaa m (rmT m i T)
            refine Dw rfl ?_
            by_cases i0:i=0
            . subst i0
              refine S30 rfl rfl ?_
              refine Ar (0+1:Nat) rfl ?_
              refine Sw (0+1) (m+1) rfl (by omega) (by simp only[lt'];omega) ?_ (hh:=by simp only[Option.getD,lt'];omega)
              have hz0:(((wl 0 (m+1) zs).map dqs).drop (0+(0+1))).take (m+1-(0+1))=(toT m (rmT m 0 T)).map dqs:=by rw[<-hwe,W5e,W3u,W1l,<-W5b,<-W2g]
              refine AqN ((toT m (rmT m 0 T)).map dqs) rfl (by simp only[lt'];omega) hz0 (by simp[I];omega) ?_
              refine Ar (((0:Nat):Int)-1) rfl ?_ (wr (show ((0+1:Nat):Int)-1-1=((0:Nat):Int)-1 by omega) (by simp[inK]))
              exact Bk ⟨0,3,⟨m,rmT m 0 T,rm m 0 c⟩,toT m (rmT m 0 T)⟩ [(11,90),(82,11)] rfl ⟨⟨w1,W0w _,W0b (by rw[I];exact W0a _),λh=>absurd h (show ¬3=0 by decide),λh=>absurd h (show ¬3=1 by decide),λ_=>⟨rfl,I⟩,Q hno⟩,show 3≠0 by decide⟩ (show 0<0+1 by decide)
            . refine S3 i rfl (.inl rfl) (by omega) (by first | omega | (simp only[lt'];omega)) ?_
              refine Ar (i+1:Nat) rfl ?_ (wr (show ((i+1:Nat):Int)-1+1=((i+1:Nat):Int) by omega) (by simp only[inK];omega))
              refine Sw (i+1) (m+1) rfl (by omega) (by simp only[lt'];omega) ?_ (hh:=by simp only[Option.getD,lt'];omega)
              by_cases im:i=m
              . subst im
                refine Ypx rfl rfl (by simp only[lt'];omega) (by simp only[lt'];omega) (by omega) (by omega) ?_
                refine Ar ((i:Int)-1) rfl ?_ (wr (show ((i+1:Nat):Int)-1-1=(i:Int)-1 by omega) (by simp only[inK];omega))
                rw[W3c,W5e,W4e] at hwe
                exact Bk ⟨i,2,⟨i,rmT i i T,rm i i c⟩,wl i (i+1) zs⟩ [] rfl ⟨⟨w1,W0a _,hwe,λh=>absurd h (show ¬2=0 by decide),λh=>absurd h (show ¬2=1 by decide),λh=>absurd h (show ¬3<=2 by decide),Q hno⟩,show 2≠0 by decide⟩ (show i<i+1 by omega)
              . have hz0:((wl i (m+1) zs).map dqs).take i++(((wl i (m+1) zs).map dqs).drop (0+(i+1))).take (m+1-(i+1))=(toT m (rmT m i T)).map dqs:=by rw[<-hwe,W1l,<-W2g,<-W5b,<-W2g,<-W1u]
                refine Aq3 ((toT m (rmT m i T)).map dqs) rfl rfl (by simp only[lt'];omega) (by simp only[lt'];omega) hz0 (by omega) (by simp[I];omega) ?_
                refine Ar ((i:Int)-1) rfl ?_ (wr (show ((i+1:Nat):Int)-1-1=(i:Int)-1 by omega) (by simp only[inK];omega))
                exact Bk ⟨i,1,⟨m,rmT m i T,rm m i c⟩,toT m (rmT m i T)⟩ [(11,90),(82,11)] rfl ⟨⟨w1,by show i<=m;omega,W0b (by rw[I];exact W0a _),λh=>absurd h (show ¬1=0 by decide),λ_=>I,λh=>absurd h (show ¬3<=1 by decide),Q hno⟩,show 1≠0 by decide⟩ (show i<i+1 by omega)
    . refine Ce rfl (hoc (l:=toL (m+1) c) hc.ps hp (by omega)) ?_
      refine Ar (i+1:Nat) rfl ?_ (wr (show ((i+1:Nat):Int)-1+1=((i+1:Nat):Int) by omega) (by simp only[inK];omega))
      refine Lo (λ(q:Nat×Bool)=>[(2,.ptr 2 0),(3,.ptr 3 0),(4,.d (.int .i64 (((i+1:Nat):Int)-1))),(5,.b q.2),(6,.d (.int .i64 q.1))]) (λ_=>TH ⟨i+1,2,⟨m+1,T,c⟩,zs⟩) (λq=>i+1<=q.1/\q.1<=m+1/\(q.2=true↔o i q.1)) (λq=>m+1-q.1) (i+1,dc (oc (toL (m+1) c) i)) [] rfl ⟨W0a _,by show i+1<=m+1;omega,need0⟩ (λ(j,b) ⟨g1,g2,g3⟩=>?_)
      simp only at g1 g2 g3
      refine By rfl (λh=>?_) λh=>?_<;>try simp only[lt'] at h
      . obtain⟨l,O,Z,hls⟩:=rad j (by omega)
        refine By rfl (λhb=>?_) λhb=>?_
        . refine Ar (j+1:Nat) rfl ?_
          exact Bk (j+1,true) [] rfl ⟨by show i+1<=j+1;omega,by show j+1<=m+1;omega,by show true=true↔_;rw[V O g1];exact⟨λ_=>.inl (g3.1 hb),λ_=>rfl⟩⟩ (by show m+1-(j+1)<m+1-j;omega)
        . refine E3 j rfl (by first | omega | (simp only[lt'];omega)) ?_
          refine Ld (dqs l) rfl (mp Z) ?_
          refine Ce rfl (hoc (l:=l) hls.ps hr (by rw[rlen O];have:=p16 (show j<=16 by omega);omega)) ?_
          refine Ar (j+1:Nat) rfl ?_
          exact Bk (j+1,dc (oc l i)) [] rfl ⟨by show i+1<=j+1;omega,by show j+1<=m+1;omega,by show dc (oc l i)=true↔_;rw[V O g1,Xaj];exact⟨.inr,λh=>h.elim (λh=>absurd (g3.2 h) hb) id⟩⟩ (by show m+1-(j+1)<m+1-j;omega)
      . obtain rfl:j=m+1:=by omega
        refine By rfl (λhb=>?_) λhb=>?_
        . refine Ar ((i:Int)-1) rfl ?_ (wr (show ((i+1:Nat):Int)-1-1=(i:Int)-1 by omega) (by simp only[inK];omega))
          exact Bk ⟨i,2,⟨m+1,T,c⟩,zs⟩ [] rfl ⟨⟨⟨h1,hF.1,(Xkw (keep (g3.1 hb) i (W0a _) (by omega))).symm.trans hF.2⟩,by show i<=m+1;omega,h3,h4,h5,λh=>absurd h (show ¬3<=2 by decide),keep (g3.1 hb)⟩,h7⟩ (show i<i+1 by omega)
        . have hno:¬o i (m+1):=λh=>hb (g3.2 h)
          obtain⟨w1,w2⟩:=out hno
          have hw0:=hwo (l:=toL (m+1) c) (by omega)
          rw[<-w2] at hw0
          refine Ce rfl hw0 ?_
          refine Ar (i+1:Nat) rfl ?_ (wr (show ((i+1:Nat):Int)-1+1=((i+1:Nat):Int) by omega) (by simp only[inK];omega))
          refine Lo (λ(j:Nat)=>[(2,.ptr 2 0),(3,.ptr 3 0),(4,.d (.int .i64 (((i+1:Nat):Int)-1))),(7,.d (.int .i64 j))]) (λj=>TH' 2 m (toL m (rm m i c)) zs (wl i j zs)) (λj=>i+1<=j/\j<=m+1) (λj=>m+1-j) (i+1) [] rfl ⟨W0a _,by omega⟩ (λj ⟨g1,g2⟩=>?_) (by rw[Xpr];exact⟨rfl,rfl,rfl,rfl,rfl⟩)
          refine By rfl (λh=>?_) λh=>?_<;>try simp only[lt'] at h
          . obtain⟨l,O,Z,hls⟩:=rad j (by omega)
            refine Dw rfl ?_
            refine E3 j rfl (by first | omega | (simp only[lt',Xfx];omega)) ?_
            refine Ld (dqs l) rfl (mp (by rw[Xh4,Z,W3g,if_neg (by omega)])) ?_
            refine Ce rfl (hwo (l:=l) (by rw[rlen O];have:=p16 (show j<=16 by omega);omega)) ?_
            refine E3 j rfl (by first | omega | (simp only[lt',Xfx];omega)) ?_
            refine Sto rfl (by simp only[lt',Xfx];omega) (zs:=(wl i (j+1) zs).map dqs) (by rw[<-Yba (by omega) Z];exact ms) ?_
            refine Ar (j+1:Nat) rfl ?_
            exact Bk (j+1) [] rfl ⟨by omega,by omega⟩ (by show m+1-(j+1)<m+1-j;omega)
          . obtain rfl:j=m+1:=by omega
            have hwe:=Ybb h3 (show i<=m by omega)
            have hws:(wl i (m+1) zs).length=zs.length:=Xfx
            have I:=Xaa m (rmT m i T)
            refine Dw rfl ?_
            by_cases i0:i=0
            . subst i0
              refine S30 rfl rfl ?_
              refine Ar (0+1:Nat) rfl ?_
              refine D3 (0+1) rfl (by omega) ?_
              have hz0:(((wl 0 (m+1) zs).map dqs).drop (0+(0+1))).take (m+1-(0+1))=(toT m (rmT m 0 T)).map dqs:=by rw[<-hwe,W5e,W3u,W1l,<-W5b,<-W2g]
              refine AqN ((toT m (rmT m 0 T)).map dqs) rfl (by simp only[lt'];omega) hz0 (by simp[I];omega) ?_
              refine Ar (((0:Nat):Int)-1) rfl ?_ (wr (show ((0+1:Nat):Int)-1-1=((0:Nat):Int)-1 by omega) (by simp[inK]))
              exact Bk ⟨0,3,⟨m,rmT m 0 T,rm m 0 c⟩,toT m (rmT m 0 T)⟩ [(11,90),(82,11)] rfl ⟨⟨w1,W0w _,W0b (by rw[I];exact W0a _),λh=>absurd h (show ¬3=0 by decide),λh=>absurd h (show ¬3=1 by decide),λ_=>⟨rfl,I⟩,Q hno⟩,show 3≠0 by decide⟩ (show 0<0+1 by decide)
            . refine S3 i rfl (.inr rfl) (by omega) (by first | omega | (simp only[lt'];omega)) ?_
              refine Ar (i+1:Nat) rfl ?_ (wr (show ((i+1:Nat):Int)-1+1=((i+1:Nat):Int) by omega) (by simp only[inK];omega))
              refine D3 (i+1) rfl (by omega) ?_
              by_cases im:i=m
              . subst im
                refine Ypx rfl rfl (by simp only[lt'];omega) (by simp only[lt'];omega) (by omega) (by omega) ?_
                refine Ar ((i:Int)-1) rfl ?_ (wr (show ((i+1:Nat):Int)-1-1=(i:Int)-1 by omega) (by simp only[inK];omega))
                rw[W3c,W5e,W4e] at hwe
                exact Bk ⟨i,2,⟨i,rmT i i T,rm i i c⟩,wl i (i+1) zs⟩ [] rfl ⟨⟨w1,W0a _,hwe,λh=>absurd h (show ¬2=0 by decide),λh=>absurd h (show ¬2=1 by decide),λh=>absurd h (show ¬3<=2 by decide),Q hno⟩,show 2≠0 by decide⟩ (show i<i+1 by omega)
              . have hz0:((wl i (m+1) zs).map dqs).take i++(((wl i (m+1) zs).map dqs).drop (0+(i+1))).take (m+1-(i+1))=(toT m (rmT m i T)).map dqs:=by rw[<-hwe,W1l,<-W2g,<-W5b,<-W2g,<-W1u]
                refine Aq3 ((toT m (rmT m i T)).map dqs) rfl rfl (by simp only[lt'];omega) (by simp only[lt'];omega) hz0 (by omega) (by simp[I];omega) ?_
                refine Ar ((i:Int)-1) rfl ?_ (wr (show ((i+1:Nat):Int)-1-1=(i:Int)-1 by omega) (by simp only[inK];omega))
                exact Bk ⟨i,1,⟨m,rmT m i T,rm m i c⟩,toT m (rmT m i T)⟩ [(11,90),(82,11)] rfl ⟨⟨w1,by show i<=m;omega,W0b (by rw[I];exact W0a _),λh=>absurd h (show ¬1=0 by decide),λ_=>I,λh=>absurd h (show ¬3<=1 by decide),Q hno⟩,show 1≠0 by decide⟩ (show i<i+1 by omega)
end
end
section
def sh(x:Rat): Prop:=(dig x.num.natAbs).length<=2/\(dig x.den).length<=2
def shN(x:Nm): Prop:=(∀q∈toL x.k x.a,sh q)/\∀l∈toT x.k x.t,∀q∈l,sh q
theorem sh.qs{x:Rat}(h:sh x): Qs 64 x:=by
 have i:∀n:Nat,(dig n).length<=2->n<2^64:=λn j=>by
  have o:=Xby (Xae n)
  rw[Xag] at o
  have I:4294967296^(dig n).length<=4294967296^2:=W0p (by decide) j
  omega
 exact⟨i _ h.1,by show ((x.den:Int)).natAbs<_;rw[W1j];exact i _ h.2⟩
theorem Ye1{x:Nm}(hk:x.k<=16): C0 200 [.d (dN x)] (·=.b (dc (¬shN x))):=by
 obtain⟨k,t,a⟩:=x
 have hk:k<=16:=hk
 have hp:=p16 hk
 have V:=Xab k a
 have Z:=Xaa k t
 refine En Tryz.func200 λ_ _ _=>?_
 refine Lo (λi:Nat=>[(1,.ptr 1 0),(3,.d (.int .i64 i))]) (λ_=>[(1,.var (.d (dN ⟨k,t,a⟩)))]) (λi=>i<=2^k/\∀j q,j<i->(toL k a)[j]?=some q->sh q) (λi=>2^k-i) 0 [] rfl ⟨by omega,λj q h=>by omega⟩ λi ⟨hi,hs⟩=>?_
 refine By rfl (λh=>?_) λh=>?_
 . have h:(i:Int)<(((toL k a).map dq).length:Nat):=h
   rw[lq,V] at h
   obtain⟨x,Q⟩:=qat (l:=toL k a) (k:=i) (by omega)
   have no:¬sh x->¬shN ⟨k,t,a⟩:=λh I=>h (I.1 x (W0h Q))
   refine Ix i rfl (mp Q) ?_
   refine By rfl (λo=>?_) λo=>?_
   . have o:((((dig x.num.natAbs).map wd).length:Nat):Int)>2:=o
     rw[lw] at o
     exact R1 rfl (.bp ⟨λ_=>no λh=>by have:=h.1;omega,λ_=>rfl⟩)
   . have o:¬((((dig x.num.natAbs).map wd).length:Nat):Int)>2:=o
     rw[lw] at o
     refine Ix i rfl (mp Q) ?_
     refine By rfl (λI=>?_) λI=>?_
     . have I:((((dig ((x.den:Int)).natAbs).map wd).length:Nat):Int)>2:=I
       rw[lw,W1j] at I
       exact R1 rfl (.bp ⟨λ_=>no λh=>by have:=h.2;omega,λ_=>rfl⟩)
     . have I:¬((((dig ((x.den:Int)).natAbs).map wd).length:Nat):Int)>2:=I
       rw[lw,W1j] at I
       refine Ar (i+1:Nat) rfl ?_
       refine Bk (i+1) [] rfl ⟨by omega,λj q hj hq=>?_⟩ (by show 2^k-(i+1)<2^k-i;omega)
       by_cases e:j=i
       . subst e;rw[Q] at hq;injection hq with hq;subst hq;exact⟨by omega,by omega⟩
       . exact hs j q (by omega) hq
 have h:¬(i:Int)<(((toL k a).map dq).length:Nat):=h
 rw[lq,V] at h
 have hc:∀q∈toL k a,sh q:=λq hq=>by
  obtain⟨j,hj⟩:=W3a hq
  exact hs j q (by have:=(W0n.1 hj).1;omega) hj
 refine Lo (λi:Nat=>[(1,.ptr 1 0),(4,.d (.int .i64 i))]) (λ_=>[(1,.var (.d (dN ⟨k,t,a⟩)))]) (λi=>i<=k/\∀j l,j<i->(toT k t)[j]?=some l->∀q∈l,sh q) (λi=>k-i) 0 [] rfl ⟨by omega,λj q h=>by omega⟩ λi ⟨hi,hs⟩=>?_
 refine By rfl (λh=>?_) λh=>?_
 . have h:(i:Int)<(((toT k t).map dqs).length:Nat):=h
   rw[lt',Z] at h
   obtain⟨l,T⟩:∃l,(toT k t)[i]?=some l:=⟨_,W0e (by omega)⟩
   obtain⟨e,e1,_,_⟩:=Tw.at (t:=t) (show i<k by omega)
   obtain rfl:l=toL i e:=by rw[T] at e1;injection e1
   have hll:=Xab i e
   have hpi:=p16 (show i<=16 by omega)
   refine Lo (λj:Nat=>[(1,.ptr 1 0),(4,.d (.int .i64 i)),(5,.d (.int .i64 j))]) (λ_=>[(1,.var (.d (dN ⟨k,t,a⟩)))]) (λj=>j<=2^i/\∀m q,m<j->(toL i e)[m]?=some q->sh q) (λj=>2^i-j) 0 [] rfl ⟨by omega,λj q h=>by omega⟩ λj ⟨hj,hjs⟩=>?_
   refine Ix i rfl (mp T) ?_
   refine By rfl (λo=>?_) λo=>?_
   . have o:(j:Int)<(((toL i e).map dq).length:Nat):=o
     rw[lq,hll] at o
     obtain⟨x,Q⟩:=qat (l:=toL i e) (k:=j) (by omega)
     have no:¬sh x->¬shN ⟨k,t,a⟩:=λh I=>h (I.2 _ (W0h T) x (W0h Q))
     refine Ix i rfl (mp T) ?_
     refine Ix j rfl (mp Q) ?_
     refine By rfl (λo=>?_) λo=>?_
     . have o:((((dig x.num.natAbs).map wd).length:Nat):Int)>2:=o
       rw[lw] at o
       exact R1 rfl (.bp ⟨λ_=>no λh=>by have:=h.1;omega,λ_=>rfl⟩)
     . have o:¬((((dig x.num.natAbs).map wd).length:Nat):Int)>2:=o
       rw[lw] at o
       refine By rfl (λI=>?_) λI=>?_
       . have I:((((dig ((x.den:Int)).natAbs).map wd).length:Nat):Int)>2:=I
         rw[lw,W1j] at I
         exact R1 rfl (.bp ⟨λ_=>no λh=>by have:=h.2;omega,λ_=>rfl⟩)
       . have I:¬((((dig ((x.den:Int)).natAbs).map wd).length:Nat):Int)>2:=I
         rw[lw,W1j] at I
         refine Ar (j+1:Nat) rfl ?_
         refine Bk (j+1) [] rfl ⟨by omega,λm q hm hq=>?_⟩ (by show 2^i-(j+1)<2^i-j;omega)
         by_cases e:m=j
         . subst e;rw[Q] at hq;injection hq with hq;subst hq;exact⟨by omega,by omega⟩
         . exact hjs m q (by omega) hq
   . have o:¬(j:Int)<(((toL i e).map dq).length:Nat):=o
     rw[lq,hll] at o
     refine Ar (i+1:Nat) rfl ?_
     refine Bk (i+1) [] rfl ⟨by omega,λm l hm O q hq=>?_⟩ (by show k-(i+1)<k-i;omega)
     by_cases e:m=i
     . subst e;rw[T] at O;injection O with O;subst O
       obtain⟨n,hn⟩:=W3a hq
       exact hjs n q (by have:=(W0n.1 hn).1;omega) hn
     . exact hs m l (by omega) O q hq
 . have h:¬(i:Int)<(((toT k t).map dqs).length:Nat):=h
   rw[lt',Z] at h
   refine R1 rfl (.bp ⟨nofun,λI=>absurd ⟨hc,λl T q hq=>?_⟩ I⟩)
   obtain⟨n,hn⟩:=W3a T
   have h6:n<(toT k t).length:=(W0n.1 hn).1
   exact hs n l (by omega) hn q hq
end
end Go.Proofs.YtfjafaehfjjaiaaGreatDoor.R9
namespace Go.Tow
open Go Go.Num Go.Proofs.YtfjafaehfjjaiaaGreatDoor
variable{K:Nat}{G:Tw K}{ρ:Nat->El K}{S:List (El K)}{r p:Nat}{x:Nm}{v:El K}
theorem TOk.sub{k:Nat}{t:Tw k}{S':List (El K)}(h:TOk G S k t ρ)(hs:∀s∈S,s∈S'): TOk G S' k t ρ:=⟨h.r,h.h,λi hi=>hs _ (h.s i hi)⟩
theorem NOk.sub{S':List (El K)}(h:NOk G S r p x v)(hs:∀s∈S,s∈S'): NOk G S' r p x v:=by
 obtain⟨ρ,i,j⟩:=h.ex
 exact⟨⟨ρ,i.sub hs,j⟩,h.r,h.p⟩
theorem NOk.tsn(hG:Xb8 K G){w:El K}(h:NOk G S r p x v): NOk (Tow.tsn G w) (S.map (up K)) r p x (up K v):=by
 obtain⟨ρ,j,o⟩:=h.ex
 exact⟨⟨_,⟨j.r,j.h.tsn hG,λi hi=>W2l.2 ⟨_,j.s i hi,rfl⟩⟩,by rw[Xkd,o]⟩,h.r,h.p⟩
theorem _root_.Go.Proofs.YtfjafaehfjjaiaaGreatDoor.TS.of{r:Nat}{k:Nat}: ∀ {t:Tw k},(∀(i:Nat) l,(toT k t)[i]?=some l->Sz r l)->TS r k t:=by
 induction k with
 | zero=>intro t _;trivial
 | succ k j =>
  intro t h
  have o:=Xaa k t.1
  refine⟨j λi l hi=>h i l ?_,h k _ ?_⟩
  . show (toT k t.1++[toL k t.2])[i]?=_
    rw[W0r (W0n.1 hi).1,hi]
  . show (toT k t.1++[toL k t.2])[k]?=_
    rw[W0s (by omega),o,W3c];rfl
def Wld(n:Nat)(l:List Nm)(P:∀ {K:Nat},Tw K->List (El K)->Prop): Prop:=∃(K:Nat) (G:Tw K) (S:List (El K)),red K G/\S.length<=n/\Ydb G S 300 600/\(∀y∈l,∃v,NOk G S 300 600 y v)/\P G S
theorem Xr7{n:Nat}{l:List Nm}(hG:red K G)(hS:S.length<=n)(hq:Ydb G S 300 600)(hl:∀y∈l,∃v,NOk G S 300 600 y v){k:Nat}{t:Tw k}{a:El k}(I:TOk G S k t ρ)(h3:TS 300 k t)(h6:Sz 600 (toL k a))(h0:0<=sgn k t a)(V:¬Xcu k t a)(hT:TS r (k+1) (tsn t a))(hr:Sz p (toL (k+1) (Xcw (k+1) k))):
 Wld (n+1) l λG S=>∃v,NOk G S r p ⟨k+1,tsn t a,Xcw (k+1) k⟩ v:=by
 have j:=Xad hG
 have L:=Xay K G
 have Sg:=Xaq j
 have Z:a≠zero k:=λe=>V ⟨zero k,by rw[e,(Xay k t).mz]⟩
 have h1:sgn k t a=1:=by
  rcases Xb1 t a with h | h | h
  . exact h
  . exact absurd ((Xbe I.r).1 h) Z
  . omega
 have hv:sgn K G (ev G ρ k a)=1:=by rw[Xdc j I.h];exact h1
 by_cases hs:Xcu K G (ev G ρ k a)
 . obtain⟨s,hs⟩:=hs
   obtain⟨s,hs,hp⟩:∃s,mul K G s s=ev G ρ k a/\sgn K G s=1:=by
    rcases Xb1 G s with h | h | h
    . exact⟨s,hs,h⟩
    . rw[<-hs,Sg.sm,h] at hv;cases hv
    . exact⟨neg K s,by rw[L.mn,L.nm,L.nn,hs],by rw[Sg.sn,h];rfl⟩
   have o:∀y∈S,y∈s::S:=λy h=>W0o _ h
   refine⟨K,G,s::S,hG,by simp;omega,λg O=>?_,λy hy=>(hl y hy).elim λv h=>⟨v,h.sub o⟩,_,⟨_,(I.sub o).snoc j V (W0l ..) hs hp,rfl⟩,hT,hr⟩
   rcases W1i.1 O with rfl | O
   . exact⟨⟨k,t,a⟩,⟨_,I.sub o,hs.symm⟩,h3,h6⟩
   . obtain⟨z,hz⟩:=hq g O
     exact⟨z,hz.sub o⟩
 . have Q:red (K+1) (tsn G (ev G ρ k a)):=⟨hG,hv,hs⟩
   have hm:∀y∈S.map (up K),y∈rt1 K::S.map (up K):=λy h=>W0o _ h
   have T:TOk (tsn G (ev G ρ k a)) (rt1 K::S.map (up K)) k t (λi=>up K (ρ i)):=⟨I.r,I.h.tsn j,λi hi=>hm _ (W2l.2 ⟨_,I.s i hi,rfl⟩)⟩
   refine⟨K+1,tsn G (ev G ρ k a),rt1 K::S.map (up K),Q,by simp;omega,λg O=>?_,λy hy=>(hl y hy).elim λv h=>⟨_,(h.tsn j).sub hm⟩,_,⟨_,T.snoc (Xad Q) V (W0l ..) (s:=rt1 K) ?_ ?_,rfl⟩,hT,hr⟩
   . rcases W1i.1 O with rfl | O
     . exact⟨⟨k,t,a⟩,⟨_,T,by rw[Xkd];exact(Xju (t:=Tow.tsn G (ev G ρ k a))).symm⟩,h3,h6⟩
     . obtain⟨g',hg',rfl⟩:=W2l.1 O
       obtain⟨z,hz⟩:=hq g' hg'
       exact⟨z,by rw[Xip];exact(hz.tsn j).sub hm⟩
   . rw[Xkd];exact Xju
   . exact Xoa (t:=tsn G (ev G ρ k a)) j
end Go.Tow
namespace Go.Proofs.YtfjafaehfjjaiaaGreatDoor
open Go Go.Vm Go.Num Go.Tow
structure RO where
 kind:Nat
 a:Nat
 b:Nat
 n:Int
 d:Nat
 h:kind<256/\a<256/\b<256/\d<256/\-128<=n/\n<128
abbrev dO(o:RO): D:=.st (.pr (.int .u8 o.kind) (.pr (.int .u8 o.a) (.pr (.int .u8 o.b) (.pr (.int .i8 o.n) (.int .u8 o.d)))))
abbrev dRs(l:List RO): D:=.sl 5 (l.map dO)
end Go.Proofs.YtfjafaehfjjaiaaGreatDoor
namespace Go.Proofs.YtfjafaehfjjaiaaGreatDoor.R9
open Go Go.Vm Go.Num Go.Tow Go.Proofs.YtfjafaehfjjaiaaGreatDoor
theorem sh_sz{l:List Rat}{n q:Nat}(h:∀x∈l,sh x)(i:l.length<=n)(hq:64*n+1<=q): Sz q l:=(Sz.all λx j=>(h x j).qs).mono (W0m (by have:=W0v 64 i;omega) hq)
theorem shN.ok{K:Nat}{G:Tw K}{S:List (Tow.El K)}{r p:Nat}{z:Nm}{v:Tow.El K}(hs:shN z)(h:NOk G S r p z v)(o:z.k<=3): NOk G S 300 600 z v :=
 ⟨h.ex,TS.of λi l j=>by
  have hi:=(W0n.1 j).1
  rw[Xaa] at hi
  have:l.length<=4:=by
   rw[(TS.pt h.r _ _ j).1];exact W0p (n:=2) (by decide) (show i<=2 by omega)
  exact sh_sz (n:=4) (hs.2 l (W0h j)) this (by decide),
  sh_sz (n:=8) hs.1 (by rw[Xab];exact W0p (n:=2) (by decide) o) (by decide)⟩
def Big(l:List Nm)(n:Nat)(z:Nm): Prop:=n<=3/\Wld n l λG S=>∃v,NOk G S gF.R (oW gF 1000000) z v
theorem Yg0: 300<=gF.R/\600<=oW gF 1000000/\600+gC 300 3<=oW gF 1000000/\900<=gF.R/\iS 300 3 600<=1000000/\iB 300 3 600<=4398046511104/\qB 300 3 600<=4398046511104/\qB 300 3 300<=4398046511104/\vB 300 3 (600+gC 300 3)<=4398046511104/\vB 300 3 300<=4398046511104/\vB 300 3 600<=4398046511104/\oW gF 1000000<=8796093022208/\oW gF 1000000<=4398046511104:=by decide +kernel
theorem remN{a m:Nat}{k:IntKind}(h:0<m): arB .rem k a m (a%m:Nat):=show _/\_ from⟨by omega,Xr2 a m⟩
theorem Xyg{n m:Nat}{l:List Nm}{P:∀ {K:Nat},Tw K->List (Tow.El K)->Prop}(h:Wld n l @P)(i:n<=m): Wld m l @P:=by
 obtain⟨K,G,S,j,o,I,O⟩:=h
 exact⟨K,G,S,j,W0m o i,I,O⟩
theorem Yfi{n:Int}{d:Nat}(j:-128<=n/\n<128)(hd:0<d/\d<=8): sh (Rat.divInt n d):=by
 have h:(Rat.divInt n d).num.natAbs<=n.natAbs:=by
  rw[Rat.num_divInt,Int.natAbs_ediv_of_dvd ?_]
  . have hs:((d:Int)).sign=1:=W6k (by omega)
    rw[hs,W4v]
    exact W3o ..
  . have hs:((d:Int)).sign=1:=W6k (by omega)
    rw[hs,W4v];exact Int.gcd_dvd_right ..
 have i:(Rat.divInt n d).den<=d:=by
  rw[Rat.den_divInt,if_neg (by omega),W1j]
  exact W3o ..
 exact⟨Xat (W1w h (by omega)),Xat (W1w i (by omega))⟩
end Go.Proofs.YtfjafaehfjjaiaaGreatDoor.R9
namespace Go.Vm
open Go Go.ChangeShapes Go.WideShapes Go.ChangeAt Go.RowKit
end Go.Vm
namespace Go.Proofs.YtfjafaehfjjaiaaGreatDoor
open Go Go.Vm Go.Num
theorem Ynf{α:Type}{f:α->D}{l:List D}(h:∀y∈l,∃x,y=f x): ∃m:List α,l=m.map f:=by
 induction l with
 | nil=>exact⟨[],rfl⟩
 | cons y l i =>
  obtain⟨x,j⟩:=h y (W0l ..)
  obtain⟨m,o⟩:=i λz I=>h z (W0o _ I)
  exact⟨x::m,by rw[j,o];rfl⟩
theorem Xy9: Reads Tryz.prog 214 λd=>∃o:RO,d=dO o :=
 (Xel Tryz.underlying214 (.cons (n:=1) rfl (Xf7 Tryz.underlying5) (by kernel_rfl) (.cons (n:=1) rfl (Xf7 Tryz.underlying5) (by kernel_rfl) (.cons (n:=1) rfl (Xf7 Tryz.underlying5) (by kernel_rfl) (.cons (n:=1) rfl (Xy7 Tryz.underlying212) (by kernel_rfl) (.one rfl (Xf7 Tryz.underlying5)))))) (λf hf=>by cases hf;kernel_rfl)).mono λd hd=>by
  obtain⟨_,rfl,_,_,rfl,⟨a,rfl,ha⟩,_,_,rfl,⟨b,rfl,hb⟩,_,_,rfl,⟨c,rfl,h⟩,_,_,rfl,⟨n,rfl,i⟩,⟨e,rfl,j⟩⟩:=hd
  exact⟨⟨a,b,c,n,e,ha,hb,h,j,i⟩,rfl⟩
theorem Xum{t:TypeId}(j:Tryz.prog.underlying t=some (.slice 214)): Reads Tryz.prog t λd=>∃i:List RO,d=dRs i :=
 (Xfi j Xy9 (sz:=5) (by kernel_rfl) (by decide)).mono λd ⟨l,e,_,h⟩=>by
  obtain⟨m,o⟩:=Ynf h
  exact⟨m,by rw[e,o]⟩
open Go Go.Vm Go.Num Go.ChangeShapes Go.WideShapes Go.ChangeAt Go.RowKit
abbrev Ye5 : List (String × DataW Unit) := [("math/bits.deBruijn32tab", Rows.laid_math_bits_deBruijn32tab), ("math/bits.deBruijn64tab", Rows.laid_math_bits_deBruijn64tab), ("internal/strconv.uint64pow10", Rows.laid_internal_strconv_uint64pow10)]
def Ypz: List Int:=(List.range 20).map λi=>((10^i:Nat):Int)
theorem Yds: ∀i,i<20->Ypz.getD i 0=((10^i:Nat):Int):=by decide
theorem Yj0 : Tryz.prog.globalNamed "internal/strconv.uint64pow10" = some 0 := by kernel_rfl
theorem Yjz: (Tryz.prog.globals[0]?).map (·.type)=some 297:=by kernel_rfl
theorem Yno{W:World}(h:laidMetH Tryz.prog Ye5 W): Gb.g Tryz.prog (gw0 W):=by
 rw[Go.MakeChecks.laidMetH_plain Tryz.prog Ye5 W (by kernel_rfl)] at h
 have h3 : laidMet Tryz.prog (("internal/strconv.uint64pow10", Lib.tabData .u64 Ypz) :: []) W := h.tail.tail
 have ht:=Lib.tabIs_of_head Yj0 Yjz Tryz.underlying297 Tryz.underlying178 (by kernel_rfl) (by kernel_rfl) h3
 exact λi hi=>⟨by rw[show (gw0 W).w=W from rfl,ht.cell Yj0 i (by rw[show Ypz.length=20 from rfl];exact hi),Yds i hi],λh=>h⟩
def lay(vs:List (Nat×Array Value))(w:World): World:={ w with heap:=vs.foldl (λh p=>h.modify p.1 fun | .cells _ t frozen=>.cells p.2 t frozen | o=>o) w.heap }
def u8s(l:List Nat): Array Value:=(l.map λ(n:Nat)=>Value.int .u8 n).toArray
def Yp0: List (Nat×Array Value):=[(0,(Ypz.map λz=>Value.int .u64 z).toArray),
 (2,u8s [0,1,28,2,29,14,24,3,30,22,20,15,25,17,4,8,31,27,13,23,21,19,16,7,26,12,18,6,11,5,10,9]),
 (3,u8s [0,1,56,2,57,49,28,3,61,58,42,50,38,29,17,4,62,47,59,36,45,43,51,22,53,39,33,30,24,18,12,5,63,55,48,27,60,41,37,16,46,35,44,21,52,32,23,11,54,26,40,15,34,20,31,10,25,14,19,9,13,8,7,6])]
noncomputable def Xdr(os:Os): World:=lay Yp0 (World.holding Tryz.prog os ⟨#[],#[],[]⟩)
theorem Xzo(os:Os)(args:Array Value): laidMet Tryz.prog Ye5 ((Xdr os).forCall (λ_ _=>0) ⟨#[],args,[]⟩).memory :=
 laidMet_of_run' 8 (by kernel_rfl) (by kernel_rfl)
end Go.Proofs.YtfjafaehfjjaiaaGreatDoor
namespace Go.Vm
open Go
section
variable{c:Cx}{s:St}{p:Pl}
theorem Xhq{o:Oper}{v:AV}{us:Hpl}(h:nxO c.tb c.n s=some (p,o))(j:Xal o=false)(i:p.dr=false)(hr:Raw c.P o (sem p.E p.H) (v,us))(k:p.nx' c v us): StP c s:=by
 obtain⟨I,hd⟩:=Xsg h
 refine Xj0 h (.inl ⟨I,(Xph j).2 (.inr ⟨i,(·=(v,us)),λN W θ ρ O Q T V Z=>⟨_,rfl,hr N W θ ρ O Q T V Z⟩,λr hr=>?_⟩)⟩)
 subst hr
 unfold aft
 rw[Xek,<-hd];exact Pl.nx'_eq.1 k
theorem Yce{o:Oper}{Q:AV×List (Nat×Ob)->Prop}(h:nxO c.tb c.n s=some (p,o))(i:p.dr=false)(hr:Yoj c.P o (sem p.E p.H) Q)(k:∀v us,Q (v,us)->p.nx' c v us): StP c s:=by
 obtain⟨j,hd⟩:=Xsg h
 refine Xj0 h (.inl ⟨j,?_⟩)
 unfold Wb
 refine .inr ⟨i,Q,hr,λ⟨v,us⟩ hq=>?_⟩
 rw[Xek,<-hd];exact Pl.nx'_eq.1 (k v us hq)
noncomputable def Ypl(tb:Nat->Option TI)(n:Nat)(s:St): Option (Pl×Oper×Operand×Operand×TypeId×TypeId×TI×Nat×Int):=match nxO tb n s with
 | some (p,o)=>match o.op,p.dr with
  | .call ⟨.builtin .append,⟨[x,y]⟩,⟨[T,T']⟩⟩,false=>match Xbt (look p.E) x,Xbt (look p.E) y,tb T,tb T' with
   | some .nil,some (.d (.int .i64 m)),some h,some ⟨.int _ _,_,_,_⟩=>match look p.H (o.dst.getD 0),h.z,Nat.ble h.eb 128 with
    | none,.sl sz _,true=>some (p,o,x,y,T,T',h,sz,m)
    | _,_,_=>none
   | _,_,_,_=>none
  | _,_=>none
 | none=>none
end
theorem Yh4{P:Program}(w:World)(t Q ty e:TypeId)(i:TypeInfo)(z:Value)(k kn:IntKind)(ht:P.underlying t=some (.slice e))(h:P.underlying Q=some (.int kn))(hi:P.info? e=some i)(hz:i.zero=some z)(q:Option Addr)
 (n:Nat) (h0:0<n) (hs:0<i.size) (T:(n:Int)<=9223372036854775807) (V:n*i.bytes<=281474976710656) :
 (Builtin.append_ #[t,Q] ty #[.slice q 0 0,.int k n]).run P w =
  .ok (.slice (some ⟨w.heap.size,0,none⟩) n (grownCap w n 0 e)) (w.drew.alloc (.cells (Builtin.zeroCells z.cells n++Builtin.zeroCells z.cells (grownCap w n 0 e-n)) e)):=by
 cases q with
 | none=>exact Go.Lib.run_append_nil_zeros w t Q ty e i z k kn ht h hi hz n h0 hs T V
 | some a =>
  have hn:n≠0:=by omega
  have hw:IntKind.i64.wrap (n:Int)=n:=by rw[IntKind.wrap_i64];omega
  have j:¬(9223372036854775807<(n:Int)):=by omega
  have o:¬(281474976710656<Builtin.nextslicecap n 0*i.bytes):=by rw[nextslicecap_zero h0];omega
  have I:¬(281474976710656<(n:Int)*(i.bytes:Int)):=by
   rw[<-W2n]
   omega
  have O:¬((n:Int)<0):=by omega
  have Z:¬(n*i.size=0):=W7q hn (by omega)
  simp[Builtin.append_,run_underlying ht,run_underlying h,sizeOf,typeInfo,zeroValue,hi,hz,asInt,asIntOf,hw,hn,O,Z,j,o,I,Question.forced,Builtin.firstCells,loadCells,loadCellsFrom,newRow,grownCap]
section
variable{c:Cx}{s:St}{p:Pl}
theorem ApM{o:Oper}{x y:Operand}{T T':TypeId}{ti:TI}{sz:Nat}{m:Int}(n:Nat)(h:Ypl c.tb c.n s=some (p,o,x,y,T,T',ti,sz,m))(h0:0<n)(hr:n<=1099511627776)(k:p.nx' c (.own (o.dst.getD 0) sz 0 n) [(o.dst.getD 0,.arr sz [])])(hm:m=(n:Int):=by first | exact rfl | omega): StP c s:=by
 subst hm
 unfold Ypl at h
 split at h<;>try cases h
 rename_i p' o' ho
 split at h<;>try cases h
 rename_i x' y' T1 T2 O hdr
 split at h<;>try cases h
 rename_i m' ti1 kn _ e' eb' ar' hx hy hti Q
 split at h<;>cases h
 rename_i hd hb hz
 refine Xhq ho (by unfold Xal;rw[O];rfl) hdr (λN W θ ρ _ hO hN hB hv=>?_) k
 obtain⟨hk,_⟩:=c.hT _ _ hti
 obtain⟨t,u1,_,u3⟩:=hk.u
 rw[hz] at u3
 obtain⟨E,e,hsz,hez,ii,v0,i1,i2,i3,i4,i5⟩:=u3
 subst e
 obtain⟨hk',_⟩:=c.hT _ _ Q
 obtain⟨t',u1',_,I⟩:=hk'.u
 have I:t'=.int kn:=I
 subst I
 obtain⟨q,ex⟩:=Xl4 (hv _ _ hx)
 obtain⟨ey,_⟩:=Xcf (hv _ _ hy)
 have hsp:0<ii.size:=by rw[i2];exact D.size_pos _
 have hbb:n*ii.bytes<=281474976710656:=by rw[i3];have:=W1z hr (W1g hb);omega
 have V:=Yh4 (P:=c.P) W.w T T' o.type E ii v0 .i64 kn u1 u1' i1 i4 q n h0 hsp (by omega) hbb
 have hge:=grownCap_ge W.w n 0 E
 have hlt:grownCap W.w n 0 E<9223372036854775808:=by
  have:=W1s (W.w.tape W.w.drawn (.appendCap n 0 E)) (show 0<2^63-n by omega)
  simp only[grownCap,Question.cut] at *
  omega
 have hzs:v0.cells.size=sz:=by rw[hsz,<-D.zc_len,<-i5];simp
 obtain⟨W',Z,e1,e2,e3⟩:=Xg1 (W:=W.tick) (θ:=θ) (g:=(sem p.E p.H).2) (dd:=o.dst.getD 0) (E:=E) (sz:=sz) (xs:=[]) (cs:=[]) (c:=grownCap W.w n 0 E) (zs:=(Builtin.zeroCells v0.cells n++Builtin.zeroCells v0.cells (grownCap W.w n 0 E-n)).toList) (Stp.tick hO).obs hN hB hd (λi x h=>by simp at h) (by simp) (by simp) hlt (by
  rw[W3u,W7u,Array.size_append,size_zeroCells,size_zeroCells,hzs,<-W1c]
  congr 1
  omega)
 obtain⟨cs,⟨b,pp,k1,k2,k3,k4,j⟩,k6⟩:=e3
 subst k4
 have k6:Value.slice (some ⟨W.tick.size,0,none⟩) 0 (grownCap W.w n 0 E)=.slice pp 0 ((Z (o.dst.getD 0)).2-0):=k6
 injection k6 with k6 k7 k8
 have j:=j (.inl rfl)
 rw[<-k6] at j
 injection j with j
 injection j with j
 have j:W.size=b:=j
 subst j
 refine⟨W',Z,.value (.slice (some ⟨W.size,0,none⟩) n (grownCap W.w n 0 E)),?_,(Stp.tick hO).trans e2,.inr ⟨_,rfl,Xuv (xs:=[]) k1 (by omega) (by omega) k3⟩,λi hi=>⟨_,by subst hi;exact Xah _ _ _⟩⟩
 have h1:execOp ρ o=(Builtin.append_ #[T,T'] o.type #[ρ x,ρ y] >>= λv=>pure (.value v)):=by
  simp[execOp,O,resolve,invoke,builtin]
 rw[h1,Sem.run_bind,ex,ey,V,e1]
 have fin:∀ {a b:Array Value},a=b->(Result.ok (Next.value (.slice (some ⟨W.size,0,none⟩) n (grownCap W.w n 0 E))) (W.w.drew.alloc (.cells a E)):Result Next)=.ok (.value (.slice (some ⟨W.size,0,none⟩) n (grownCap W.w n 0 E))) (W.tick.w.alloc (.cells b E)):=by
  rintro a b rfl;rfl
 exact fin (by simp)
noncomputable def Ypb(tb:Nat->Option TI)(n:Nat)(s:St): Option Pl:=match nxA tb n s with
 | some (p,o,[.nil])=>match o.op with
  | .call ⟨.builtin .cap,_,⟨[T]⟩⟩=>match tb T with
   | some ⟨.sl _ _,_,_,_⟩=>some p
   | _=>none
  | _=>none
 | _=>none
theorem Kp(h:Ypb c.tb c.n s=some p)(k:p.nx c (.d (.int .i64 0))): StP c s:=by
 unfold Ypb at h
 split at h<;>try cases h
 rename_i O o i
 split at h<;>try cases h
 rename_i asx T j
 split at h<;>cases h
 rename_i I
 refine Xbj (us:=[]) i ?_ (Pl.nx_nil k)
 rw[j]
 simp[F,Fp,I]
theorem Sn{i:Int}(h:nxS c.tb c.n s=some (p,.nil,none,some i))(k:p.nx c .nil)(hh:i=0:=by exact rfl): StP c s:=Xjz h (by subst hh;rfl) k
noncomputable def Ypd(tb:Nat->Option TI)(n:Nat)(s:St): Option (Pl×FuncId×List AV):=match nxO tb n s with
 | some (p,o)=>match o.op with
  | .call ⟨.value x,asx,h⟩=>match callee (look p.E) x,getEs (look p.E) asx.toList with
   | some (f,ex),some i=>some (p,f,i++ex)
   | _,_=>none
  | _=>none
 | none=>none
theorem CoN{f:FuncId}{asx:List AV}{Q:AV->Ob->Prop}(h:Ypd c.tb c.n s=some (p,f,asx))(hc:CO c.P f asx Q)(k:∀v i,Q v i->p.nx' c (v.rnf (rnL [(1000000,p.d.getD 0)])) [(p.d.getD 0,i.rnf (rnL [(1000000,p.d.getD 0)]))])
 (j:(Xs4 asx [] [] (p.d.getD 0) p.H && !p.dr)=true:=by exact rfl):StP c s:=by
 rw[W0g,W1x] at j
 obtain⟨j,V⟩:=j
 have I:=j
 simp only[Xs4,W0g,W1x] at I
 obtain⟨⟨⟨⟨⟨k1,k2⟩,k3⟩,k4⟩,k5⟩,k6⟩:=I
 have Z:∀ {a:AV},a.rnf (rnL [])=a:=by
  intro a
  induction a with
  | st a O=>simp only[AV.rnf,O]
  | tup a O=>simp only[AV.rnf,O]
  | fm f a O=>simp only[AV.rnf,O]
  | pr a c iha ihc=>simp only[AV.rnf,iha,ihc]
  | _=>rfl
 have T:asx.map (AV.rnf (rnL []))=asx:=by rw[show AV.rnf (rnL [])=id from funext λa=>Z,List.map_id]
 unfold Ypd at h
 split at h<;>try cases h
 rename_i p' o ho
 obtain⟨hw,hd⟩:=Xsg ho
 split at h<;>try cases h
 rename_i x as' tys he
 split at h<;>cases h
 rename_i ex vs hvs hf
 have kk:∀v i,Q v i->WL c.P c.tb p.dr p.L (J c p.K) p.l (S.put ((sem p.E p.H).1,Xbg (sem p.E p.H).2 [(p.d.getD 0,i.rnf (rnL [(1000000,p.d.getD 0)]))]) o.dst (v.rnf (rnL [(1000000,p.d.getD 0)]))):=λv i hv=>by
  have:=Pl.nx'_eq.1 (k v i hv)
  have this:WL c.P c.tb p.dr p.L (J c p.K) p.l (sem (Xs3 p.E p.d _) (_++p.H)):=this
  rw[<-hd,Xek]
  exact this
 refine Xj0 ho (.inl ⟨hw,?_⟩)
 unfold Wb
 rw[he]
 refine .inl ⟨_,_,_,hf,hvs,?_⟩
 rw[V] at kk |-
 obtain⟨a1,a2⟩:=Xjb hc j (Xbk k2) (g:=look p.H) (λo x hx=>by simp[look] at hx)
 rw[T] at a2
 refine⟨_,_,.inr rfl,⟨a1,a2⟩,?_⟩
 rintro v g' ⟨v0,H',d1,⟨i,rfl,d2⟩,rfl,rfl⟩
 have:=kk v0 i d2
 simpa [rfH,rnL] using this
end
def AV.nl(o sz:Nat): AV->AV
 | .nil=>.gr o sz []
 | .st a=>.st (a.nl o sz)
 | .pr a c=>.pr (a.nl o sz) (c.nl o sz)
 | a=>a
theorem Yqe{W:GW}{θ:Loc}{o sz:Nat}(h0:θ o=(none,0)): ∀ {a:AV} {cs:List Value},AV.C W θ a cs->AV.C W θ (a.nl o sz) cs:=by
 intro a
 induction a with
 | st a I=>intro cs h;exact I h
 | pr a c i j=>intro cs ⟨u,v,h,O,Q⟩;exact⟨u,v,h,i O,j Q⟩
 | nil=>intro cs ⟨p,h⟩;exact⟨p,by rw[h,h0];rfl,.inl (by rw[h0]),by simp,by rw[h0];decide,.inl rfl⟩
 | _=>intro cs h;exact h
theorem Yix{o sz i:Nat}: ∀ {a:AV},(a.nl o sz).ids i->i=o\/a.ids i:=by
 intro a
 induction a with
 | st a O=>exact O
 | pr a c j I=>exact λh=>h.elim (λh=>(j h).imp id .inl) λh=>(I h).imp id .inr
 | nil=>exact .inl
 | _=>exact .inr
section
variable{c:Cx}{s:St}{p:Pl}
theorem nvS{K:List Kt}{E:Env}{H:Hpl}(q o sz:Nat){a:AV}(hv:look H q=some (.var a))(hb:(Nat.blt o 1000000 && !Xcj H o)=true)(k:J c K (sem E ((q,.var (a.nl o sz))::(o,.tok 0 sz)::H))): J c K (sem E H):=by
 simp only[W0g,W1x] at hb
 have hb1:=Xqz hb.1
 have hn:look H o=none:=Xbk hb.2
 have hq:q≠o:=λe=>by rw[e,hn] at hv;cases hv
 rintro x w ⟨s0,W,θ,hw,hs,hθ,rfl⟩
 have st:=Stp.new0 (d:=o) hs.obs hb1 hn (x:=.tok 0 sz) ⟨by simp,by simp,.inl (by simp)⟩ (λi h=>h)
 have Q:=hs.step0 st
 refine k x w ⟨_,W,_,hw,?_,λi hi=>(st.hi i hi).trans (hθ i hi),rfl⟩
 rw[show sem E ((q,Ob.var (a.nl o sz))::(o,Ob.tok 0 sz)::H)=(look E,upd (upd (look H) o (.tok 0 sz)) q (.var (a.nl o sz))) by rw[Xa7,Xa7]]
 have V:upd (look H) o (.tok 0 sz) q=some (.var a):=by rw[Xak hq];exact hv
 have I:∀ {i:Nat} {y:Ob},upd (look H) o (.tok 0 sz) i=some y->∃z,upd (upd (look H) o (.tok 0 sz)) q (.var (a.nl o sz)) i=some z:=λ{i y} hy=>by
  by_cases e:i=q
  . subst e;exact⟨_,Xah _ _ _⟩
  . exact⟨y,by rw[Xak e];exact hy⟩
 refine⟨Q.fm,Q.rel,⟨λi y hy=>?_,λi y b hy hl hb=>?_,λi j y y' b hy hy' hl hl' b1 b2=>?_,λi y j hy hj=>?_⟩,λt v i ht hi=>?_⟩
 . rcases Xaf hy with ⟨Z,O⟩ | ⟨Z,O⟩
   . subst Z;subst O
     obtain⟨b,cs,T,r1,r2,r3,r4⟩:=Q.obs.r _ _ V
     exact⟨b,cs,T,r1,r2,Yqe (by simp) r3,r4⟩
   . exact Q.obs.r _ _ O
 . rcases Xaf hy with ⟨Z,O⟩ | ⟨Z,O⟩
   . subst Z;exact Q.obs.new _ _ b V rfl hb
   . exact Q.obs.new _ _ b O hl hb
 . rcases Xaf hy with ⟨Z,O⟩ | ⟨Z,O⟩<;>rcases Xaf hy' with ⟨f1,f2⟩ | ⟨f1,f2⟩
   . rw[Z,f1]
   . subst Z;exact Q.obs.dis _ _ _ _ b V f2 rfl hl' b1 b2
   . subst f1;exact Q.obs.dis _ _ _ _ b O V hl rfl b1 b2
   . exact Q.obs.dis _ _ _ _ b O f2 hl hl' b1 b2
 . rcases Xaf hy with ⟨Z,O⟩ | ⟨Z,O⟩
   . subst O
     rcases Yix (a:=a) hj with h | h
     . exact I (y:=.tok 0 sz) (by rw[h];exact Xah _ _ _)
     . obtain⟨z,hz⟩:=Q.obs.ids _ _ j V h
       exact I hz
   . obtain⟨z,hz⟩:=Q.obs.ids _ _ j O hj
     exact I hz
 . obtain⟨z,hz⟩:=Q.ids t v i ht hi
   exact I hz
theorem Nv{K:List Kt}{E:Env}{H:Hpl}(q i sz:Nat){a:AV}(h:nxJ c.tb c.n s=some (K,E,H))(k:StP c (.j [] K E ((q,.var (a.nl i sz))::(i,.tok 0 sz)::H)))(o:look H q=some (.var a):=by exact rfl)(hb:(Nat.blt i 1000000 && !Xcj H i)=true:=by exact rfl): StP c s:=by
 unfold nxJ at h
 split at h<;>cases h
 rename_i I
 exact go 1000 I (nvS q i sz o hb k)
end
end Go.Vm
namespace Go.Proofs.YtfjafaehfjjaiaaGreatDoor
open Go Go.Vm Go.Num Go.Tow
theorem Xja{l:List Rat}(h0:0<l.length)(i:l.length<=1048576): CA0 152 [.d (dqs l)] 4 (l.map dq):=by
 refine EnW Tryz.func152 λ_ _ _ _=>?_
 refine Ub rfl (λh=>?_) ?_
 . exact absurd h (by intro e; have:l.length = 0 := by simpa using congrArg List.length e
                      omega)
 refine ApL (l.map dq) rfl rfl (by simpa using h0) (by simpa using W0m i (by decide)) ?_
 exact Rw [(7,1000000)] [(1000000,.arr 4 (l.map dq))] rfl (.one (.rf rfl) rfl rfl) ⟨_,rfl,rfl,rfl⟩
theorem Xkh{l:List Rat}(h0:0<l.length)(h:l.length<=1048576): C0 152 [.d (dqs l)] (·=.d (dqs l)):=(Xja h0 h).data
theorem Xwj{n:Nat}(h0:0<n)(h:n<=1048576): CA0 366 [.nil,.d (.int .i64 n)] 4 []:=by
 refine EnW Tryz.func366 λ_ _ _ _=>?_
 refine No rfl (by omega) ?_
 refine Kp rfl ?_
 refine Ar 0 rfl ?_
 refine Ar n rfl ?_
 refine Yes rfl (by omega) ?_
 refine Kp rfl ?_
 refine Sn rfl ?_
 refine ApM n rfl h0 (by omega) ?_
 refine Sw 0 0 rfl (by omega) (by omega) ?_
 exact Rw [(22,1000000)] [(1000000,.arr 4 [])] rfl (.one (.rf rfl) rfl rfl) ⟨_,rfl,rfl,rfl⟩
theorem Ypq{c c':Bool}(h:c=c'){g:Hp}{K:Hpl}: FitT g K (.b c) (.b c'):=by
 subst h;exact .one (.rf rfl) (λ_ _ e=>by cases e) (λ_ _ e=>by cases e)
theorem Xrn{p q:Prop}(h:p↔q): dc p=dc q:=by rw[show p=q from propext h]
namespace P8
theorem Yax{n:Int}(j:n<0)(o:(dig n.natAbs).length<=274877906944): C0 359 [.d (dz n)] (·=.tup (.pr (.d (dS false [])) (.d (.int .i64 7)))):=by
 refine En Tryz.func359 λ_ _ _=>?_
 refine Ce rfl (Sign_ok (z:=n) (by omega)) ?_
 refine Yes rfl (by rcases Xaz n 0 with ⟨h,i⟩ | ⟨h,i⟩ | ⟨h,i⟩<;>omega) ?_
 exact RTt rfl (.cons (.sd (.pd (.bd rfl) (.nil rfl))) Xa1)
theorem Xk8{n:Int}(o:(dig n.natAbs).length<=274877906944): C0 365 [.d (dz n)] λv=>∃b l,v=.tup (.pr (.d (dS b l)) (.b (dc (0<=n/\sqN n.natAbs))))/\(0<=n->dS b l=dz (rt n.natAbs:Int)):=by
 have hs:=@Sqrt_ok n.natAbs o
 refine En Tryz.func365 λ_ _ _=>?_
 by_cases I:0<=n
 . have e:((n.natAbs:Nat):Int)=n:=by omega
   rw[e] at hs
   have O:=(Xdf n.natAbs).1
   have Q:rt n.natAbs<=rt n.natAbs*rt n.natAbs:=Nat.le_mul_self _
   have l1:=Xas (show rt n.natAbs<=n.natAbs by omega)
   have T:=Xas O
   refine Ce rfl hs ?_
   refine Dw rfl ?_
   refine Yes rfl rfl ?_
   refine Ce rfl (Mul_ok (by rw[W1j];omega) (by rw[W1j];omega)) ?_
   refine Ce rfl (Cmp_ok (by rw[<-W2n,W1j];omega) (by omega)) ?_
   refine Rt rfl (.tup (.cons (.rf rfl) (Ypq (Xrn ?_)))) ⟨_,_,rfl,λ_=>rfl⟩
   unfold sqN
   rcases Xaz ((rt n.natAbs:Int)*(rt n.natAbs:Int)) n with ⟨i,j⟩ | ⟨i,j⟩ | ⟨i,j⟩<;>rw[<-W2n] at i<;>rw[<-W2n] at j |-<;>omega
 . refine Ce rfl (Yax (by omega) o) ?_
   refine Dw rfl ?_
   refine No rfl (by decide) ?_
   exact Rt rfl (.tup (.cons (.rf rfl) (Xwq λh=>I h.1))) ⟨_,_,rfl,λh=>absurd h I⟩
theorem Xx3{x:Rat}{p:Nat}(O:Qs p x)(hp:p<=4398046511104): C0 353 [.d (dq x)] λv=>∃b l i j,v=.tup (.pr (.d (R2.dR b l i j)) (.b (dc (∃y:Rat,y*y=x))))/\((∃y:Rat,y*y=x)->∃y:Rat,y*y=x/\R2.dR b l i j=dq y):=by
 have h1:=O.n.len2 hp
 have h2:=O.d.len2 hp
 have hi:=Xtz (q:=x)
 refine En Tryz.func353 λ_ _ _=>?_
 refine Ca rfl (Xk8 (n:=x.num) (by omega)) λv o=>?_
 obtain⟨b,l,rfl,hb⟩:=o
 refine Ca rfl (Xk8 (n:=(x.den:Int)) (by omega)) λv o=>?_
 obtain⟨i,j,rfl,I⟩:=o
 have z:∀ {c g K},(c=false/\¬ ∃y:Rat,y*y=x)->FitT g K (.pr (.st (.pr (.st (.pr (.b false) .nil)) (.st (.pr (.b false) .nil)))) (.b c)) (.pr (.d (R2.dR false [] false [])) (.b (dc (∃y:Rat,y*y=x)))):=λ⟨h0,h⟩=>by
  subst h0;exact .cons (.sd (.pd (.sd (.pd (.bd rfl) (.nil rfl))) (.sd (.pd (.bd rfl) (.nil rfl))))) (Xwq h)
 refine By rfl (λh=>?_) λh=>?_
 . have h:¬(0<=x.num/\sqN x.num.natAbs):=by simpa only [Xap,Xaj] using h
   have no:¬ ∃y:Rat,y*y=x:=λe=>h ⟨(hi.1 e).1,(hi.1 e).2.1⟩
   exact Rt rfl (.tup (z ⟨rfl,no⟩)) ⟨false,[],false,[],rfl,λe=>absurd e no⟩
 have h:0<=x.num/\sqN x.num.natAbs:=by simpa [Xap,Xaj] using h
 refine By rfl (λk=>?_) λk=>?_
 . have k:¬(0<=(x.den:Int)/\sqN (x.den:Int).natAbs):=by simpa only [Xap,Xaj] using k
   have no:¬ ∃y:Rat,y*y=x:=λe=>k ⟨by omega,by rw[W1j];exact(hi.1 e).2.2⟩
   exact Rt rfl (.tup (z ⟨rfl,no⟩)) ⟨false,[],false,[],rfl,λe=>absurd e no⟩
 have k:0<=(x.den:Int)/\sqN (x.den:Int).natAbs:=by simpa [Xap,Xaj] using k
 rw[W1j] at k
 obtain⟨y,V,Z,Q⟩:=Xk3 (q:=x) h.1 h.2 k.2
 refine Rt rfl (.tup (.cons (.rf rfl) (Xya ⟨y,Q⟩))) ⟨_,_,_,_,rfl,λ_=>⟨y,Q,?_⟩⟩
 have e1:=hb h.1
 have T:=I k.1
 rw[W1j] at T
 show D.st (.pr (dS b l) (dS i j))=D.st (.pr (dz _) (dz _))
 rw[e1,T,V,Z]
theorem Xo3{k r p:Nat}{t:Tw k}{a:Tow.El k}(h:TS r k t)(ha:Sz p (toL k a))(i:k<=16)(hp:p+3+cB r k<=4398046511104)(hr:r<=4398046511104): C0 356 [.d (dt t),.d (de a)] (·=.d (de (mul k t a (rat k (1/2))))):=by
 refine En Tryz.func356 λ_ _ _=>?_
 refine Ce rfl (Xcl (a:=1) (b:=2) (by decide) (by decide)) ?_
 rw[Xwi]
 refine Ce rfl (Xc1 (x:=1/2) (p:=3) h i hr ⟨show (1/2:Rat).num.natAbs<2^3 by decide +kernel,show ((1/2:Rat).den:Int).natAbs<2^3 by decide +kernel⟩ (by decide)) ?_
 refine Ce rfl (Xdz h ha Sz.half i (by omega) hr) ?_
 exact R0
theorem Xrp{a b:List D}(h0:0<a.length+b.length)(i:a.length+b.length<=1048576): C0 354 [.d (.sl 1 [.sl 4 a,.sl 4 b])] (·=.d (.sl 4 (a++b))):=by
 refine En Tryz.func354 λ_ _ _=>?_
 refine Lo (λ(x:Nat×Nat)=>[(0,.d (.sl 1 [.sl 4 a,.sl 4 b])),(2,.nil),(3,.d (.int .i64 x.2)),(9,.d (.sl 1 [.sl 4 a,.sl 4 b])),(10,.d (.int .i64 2)),(11,.d (.int .i64 x.1))]) (λ_=>[]) (λx=>x=(0,0)\/x=(1,a.length)\/x=(2,a.length+b.length)) (λx=>2-x.1) (0,0) [] rfl (.inl rfl) (λx h=>?_)
 rcases h with rfl | rfl | rfl
 . refine Yes rfl (show ((0:Nat):Int)<2 by decide) ?_
   refine Ix 0 rfl (u:=.sl 4 a) rfl ?_
   refine Ar a.length rfl ?_ (wr (by omega) (by simp only[inK];omega))
   refine No rfl (by omega) ?_
   refine Ar (1:Nat) rfl ?_
   exact Bk (1,a.length) [] rfl (.inr (.inl rfl)) (show 1<2 by decide)
 . refine Yes rfl (show ((1:Nat):Int)<2 by decide) ?_
   refine Ix 1 rfl (u:=.sl 4 b) rfl ?_
   refine Ar (a.length+b.length:Nat) rfl ?_ (wr (by omega) (by simp only[inK];omega))
   refine No rfl (by omega) ?_
   refine Ar (2:Nat) rfl ?_
   exact Bk (2,a.length+b.length) [] rfl (.inr (.inr rfl)) (show 0<1 by decide)
 refine No rfl (show ¬((2:Nat):Int)<2 by decide) ?_
 refine CoN rfl (Xwj (n:=a.length+b.length) (by omega) i) (λv o j=>?_)
 obtain⟨rfl,rfl⟩:=j
 refine Lo (λ(x:Nat×List D)=>[(0,.d (.sl 1 [.sl 4 a,.sl 4 b])),(2,.nil),(6,.own 24 4 0 x.2.length),(25,.d (.sl 1 [.sl 4 a,.sl 4 b])),(26,.d (.int .i64 2)),(27,.d (.int .i64 x.1))]) (λx=>[(24,.arr 4 x.2)]) (λx=>x=(0,[])\/x=(1,a)\/x=(2,a++b)) (λx=>2-x.1) (0,[]) [] rfl (.inl rfl) (λx h=>?_)
 rcases h with rfl | rfl | rfl
 . refine Yes rfl (show ((0:Nat):Int)<2 by decide) ?_
   refine Ix 0 rfl (u:=.sl 4 a) rfl ?_
   refine ApO a rfl rfl rfl rfl (by omega) ?_
   refine Ar (1:Nat) rfl ?_
   exact Bk (1,a) [(24,90),(33,24)] rfl (.inr (.inl rfl)) (show 1<2 by decide)
 . refine Yes rfl (show ((1:Nat):Int)<2 by decide) ?_
   refine Ix 1 rfl (u:=.sl 4 b) rfl ?_
   refine ApO (a++b) rfl rfl rfl (by simp) (by simp;omega) ?_
   refine Ar (2:Nat) rfl ?_
   exact Bk (2,a++b) [(24,90),(33,24)] rfl (.inr (.inr rfl)) (show 0<1 by decide)
 refine No rfl (show ¬((2:Nat):Int)<2 by decide) ?_
 exact R1 rfl (.own rfl (by simp) (by rw[W1e];exact W0b (by simp)))
theorem Xne{k:Nat}{x y:Tow.El k}(h:k<=16): C0 354 [.d (.sl 1 [de x,de y])] (·=.d (de (pr x y))):=by
 have:=Xrp (a:=(toL k x).map dq) (b:=(toL k y).map dq) (by simp[Xab];have:=W0u k;omega) (by simp[Xab];have:=p16 h;omega)
 rwa[<-W1u] at this
end P8
open Go Go.Num Go.Tow
theorem Ycv{r:Nat}: ∀ {k p:Nat},0<iS r k p
 | 0,p=>Nat.succ_pos p
 | k+1,p=>by have:=Ycv (r:=r) (k:=k) (p:=nS r k p);show 0<p+iS r k (nS r k p)+cB r k;omega
theorem Ynm{r:Nat}: ∀ {k p:Nat},p<=iS r k p
 | 0,p=>Nat.le_succ p
 | k+1,p=>by show p<=p+iS r k (nS r k p)+cB r k;omega
theorem Yjv{r:Nat}: ∀ {k p:Nat},p<=iB r k p
 | 0,p=>Nat.le_succ p
 | k+1,p=>by show p<=2*(p+iB r k (nB r k p)+cB r k);omega
end Go.Proofs.YtfjafaehfjjaiaaGreatDoor
namespace Go.Proofs.YtfjafaehfjjaiaaGreatDoor.P8
open Go Go.Vm Go.Num Go.Tow Go.Proofs.YtfjafaehfjjaiaaGreatDoor
def SqP(k:Nat)(t:Tw k)(a:Tow.El k)(v:AV): Prop:=∃w:List D,w.length<=2^k/\v=.tup (.pr (.d (.sl 4 w)) (.b (dc (Xcu k t a))))/\(Xcu k t a->∃x,mul k t x x=a/\D.sl 4 w=de x)
theorem Xjp{k r:Nat}{t:Tw k}(h:TS r k t)(i:k<=16)(hr:r<=4398046511104): C0 228 [.d (dt t),.d (dq ((0:Int):Rat))] (·=.d (de (zero k))):=by
 have:=Xc1 (x:=((0:Int):Rat)) (p:=1) h i hr (Qs.int Zs.zero (W0a 1)) (by decide)
 rwa[show ((0:Int):Rat)=0 from rfl,Xd3] at this
theorem Xei{k:Nat}: ∀ {r p:Nat} {t:Tw k} {a:Tow.El k},TS r k t->Sz p (toL k a)->red k t->k<=16->qB r k p<=4398046511104->r<=4398046511104->C0 336 [.d (dt t),.d (de a)] (SqP k t a):=by
 induction k with
 | zero =>
  intro r p t a o ha V hk hq Q
  have hq:p<=4398046511104:=hq
  have key:∀y:Rat,Qs p y->C0 336 [.d (dts []),.d (dqs [y])] λv=>∃w:List D,w.length<=2^0/\v=.tup (.pr (.d (.sl 4 w)) (.b (dc (∃x:Rat,x*x=y))))/\((∃x:Rat,x*x=y)->∃x:Rat,x*x=y/\D.sl 4 w=dqs [x]):=λy hy=>by
   refine En Tryz.func336 λ_ _ _=>?_
   refine Yes rfl rfl ?_
   refine Ix 0 rfl (u:=dq y) rfl ?_
   refine Ca rfl (Xx3 hy (by omega)) λv Z=>?_
   obtain⟨b,l,b',l',rfl,hw⟩:=Z
   exact Rt rfl (.tup (.cons (.lit rfl) (.one (.rf rfl) (λ_ _ e=>by cases e) (λ_ _ e=>by cases e)))) ⟨_,W0a _,rfl,λh=>let ⟨y,h1,h2⟩:=hw h;⟨y,h1,by rw[show dqs [y]=D.sl 4 [dq y] from rfl,<-h2];rfl⟩⟩
  exact key a (ha.qs (W0j.2 rfl))
 | succ k ih =>
  intro r p t a o ha V hk hq Q
  have hx:Sz p (toL k a.1):=Sz.left ha
  have hy:Sz p (toL k a.2):=Sz.right ha
  have O:=Xab k
  have hk0:=W0u k
  have hpk:=p16 (show k<=16 by omega)
  have hz:=ha.normS o
  have L:=Xay k t.1
  have hqq:p+vB r (k+1) p+vB r (k+1) r+nB r k p+qB r k (sX r k p)+iB r k (sX r k p+gC r k)+iS r k (sX r k p+gC r k)+iB r k r+2*cB r k+4<=4398046511104:=hq
  have hX:sX r k p=p+nS r k p+gC r k+cB r k+iS r k r+4:=rfl
  have hN:nB r k p=4*p+3*cB r k+r+1:=rfl
  have hI:0<iS r k r:=Ycv
  have q6:=Ynm (r:=r) (k:=k) (p:=sX r k p+gC r k)
  have q7:=Yjv (r:=r) (k:=k) (p:=sX r k p+gC r k)
  have q1:qB r k p<=qB r k (sX r k p):=Xdg (by omega)
  have q2:qB r k (nS r k p)<=qB r k (sX r k p):=Xdg (by omega)
  have q3:qB r k (p+iS r k r+cB r k)<=qB r k (sX r k p):=Xdg (by omega)
  have q4:sX r k p<=qB r k (sX r k p):=Yee
  have hr0:t.2≠zero k:=λh0=>V.2.2 ⟨zero k,by rw[h0,L.mz]⟩
  obtain⟨i,hi⟩:=(Xcs V.1).2 t.2 hr0
  have him:=Xce hi
  have hiz:=Sz.invS o.1 o.2 hi
  have no0:∀ {g K},¬Xcu (k+1) t a->FitT g K (.pr .nil (.b false)) (.pr (.d (.sl 4 [])) (.b (dc (Xcu (k+1) t a)))):=λh=>.cons (.nil (sz:=4) rfl) (Xwq h)
  refine En Tryz.func336 λ_ _ _=>?_
  refine No rfl (by show ¬((((toT k t.1++[toL k t.2]).map dqs).length:Nat):Int)=0;rw[twL];omega) ?_
  refine Dw rfl ?_
  refine Ar k rfl ?_ (tw1 t (by omega))
  refine Tk k ((toT k t.1).map dqs) rfl rfl (Xjj t) (twT t) ?_
  refine Ar k rfl ?_ (tw1 t (by omega))
  refine Ix k rfl (twU t) ?_
  refine Dw rfl ?_
  refine Ar (2^k:Nat) rfl ?_ (hvq a (by omega))
  refine Tk (2^k) ((toL k a.1).map dq) rfl rfl (Xci a) (hvT a) ?_
  refine Ar (2^k:Nat) rfl ?_ (hvq a (by omega))
  refine Dp (2^k) ((toL k a.2).map dq) rfl rfl (Xci a) (hvD a) ?_
  refine Ce rfl (Xe0 (l:=toL k a.2) hy.ps (by omega) (by rw[O];omega)) ?_
  refine By rfl (λZ=>?_) λZ=>?_
  . have ev:=(Xam k a.2).2 Z
    have ea:a=up k a.1:=by show (a.1,a.2)=(a.1,zero k);rw[ev]
    refine Ca rfl (ih o.1 hx V.1 (by omega) (by omega) Q) λv Z=>?_
    obtain⟨w,hwl,rfl,hw⟩:=Z
    refine By rfl (λh1=>?_) λh1=>?_
    . obtain⟨x,hx1,T⟩:=hw h1
      injection T with _ T
      subst T
      have hs:mul (k+1) t (pr x (zero k)) (pr x (zero k))=a:=(Yhu hx1).trans ea.symm
      refine Ce rfl (Xau (z:=0) (by decide)) ?_
      refine Ce rfl (Xjp o.1 (by omega) Q) ?_
      refine Ce rfl (Xne (x:=x) (y:=zero k) (by omega)) ?_
      exact Rt rfl (.tup (.cons (.rf rfl) (Xya ⟨_,hs⟩))) ⟨_,by simp[Xab],rfl,λ_=>⟨_,hs,rfl⟩⟩
    . refine Ce rfl (Xn4 o.1 o.2 (by omega) (by omega) Q hi) ?_
      refine No rfl (by decide) ?_
      refine Ce rfl (Xdz o.1 hx hiz (by omega) (by omega) Q) ?_
      refine Ca rfl (ih o.1 (hx.mul o.1 hiz) V.1 (by omega) (by omega) Q) λv Z=>?_
      obtain⟨w,hwl,rfl,hw⟩:=Z
      refine Ce rfl (Xau (z:=0) (by decide)) ?_
      refine Ce rfl (Xjp o.1 (by omega) Q) ?_
      refine Ce rfl (Xrp (a:=(toL k (zero k)).map dq) (b:=w) (by simp[O];omega) (by simp[O];omega)) ?_
      have hiff:Xcu k t.1 (mul k t.1 a.1 i)↔Xcu (k+1) t a:=⟨λ⟨x,hx1⟩=>⟨_,(Xtx him hx1).trans ea.symm⟩,λe=>W1b λh2=>Xmf V.1 him h1 h2 (ea ▸ e)⟩
      refine Rt rfl (.tup (.cons (.rf rfl) (Ypq (Xrn hiff)))) ⟨_,by simp[O];omega,rfl,λe=>?_⟩
      obtain⟨x,hx1,T⟩:=hw (hiff.2 e)
      injection T with _ T
      subst T
      exact⟨(zero k,x),(Xtx him hx1).trans ea.symm,by rw[<-W1u];rfl⟩
  have ev:a.2≠zero k:=λe=>Z ((Xam k a.2).1 e)
  refine Ce rfl (Xyr o ha hk (by omega) Q) ?_
  refine Ca rfl (ih o.1 hz V.1 (by omega) (by omega) Q) λv Z=>?_
  obtain⟨w,hwl,rfl,hw⟩:=Z
  refine By rfl (λh1=>?_) λh1=>?_
  . have no:¬Xcu (k+1) t a:=λe=>by
     exact h1 (Xtw e)
    exact Rt rfl (.tup (.cons (.nil (sz:=4) rfl) (Xwq no))) ⟨[],W0w _,rfl,λe=>absurd e no⟩
  obtain⟨m,hm,hm2⟩:=hw (W2u.1 h1)
  injection hm2 with _ hm2
  subst hm2
  have hm:mul k t.1 m m=Tow.norm k t a:=hm
  have hmz:=hz.rootS o.1 V.1 hm
  refine Ce rfl (Xid o.1 hx hmz (by omega) (by omega) Q) ?_
  refine Ce rfl (Xk0 o.1 hx hmz (by omega) (by omega) Q) ?_
  refine Lo (λ(x:Nat)=>[(4,.nil),(5,.b false),(8,.d (dt t.1)),(11,.d (de a.2)),(117,.lit 1 [de (Tow.add k a.1 m),de (Tow.add k a.1 (Tow.neg k m))]),(118,.d (.int .i64 2)),(119,.d (.int .i64 x))]) (λ_=>[]) (λx=>x=0\/(x=1/\¬Xcu k t.1 (mul k t.1 (rat k (1/2)) (Tow.add k a.1 m)))\/(x=2/\¬Xcu k t.1 (mul k t.1 (rat k (1/2)) (Tow.add k a.1 m))/\¬Xcu k t.1 (mul k t.1 (rat k (1/2)) (Tow.add k a.1 (Tow.neg k m))))) (λx=>2-x) 0 [] rfl (.inl rfl) (λx hI=>?_)
  have step:∀(I:Tow.El k),mul k t.1 I I=Tow.norm k t a->Sz (nS r k p+gC r k) (toL k I)->Sz (3+(p+(nS r k p+gC r k)+1)+cB r k) (toL k (mul k t.1 (Tow.add k a.1 I) (rat k (1/2))))/\mul k t.1 (Tow.add k a.1 I) (rat k (1/2))=mul k t.1 (rat k (1/2)) (Tow.add k a.1 I):=λI _ hs=>⟨by
   rw[L.mc];exact Sz.half.mul o.1 (by rw[Xav];exact hx.add hs),L.mc _ _⟩
  have q5:qB r k (3+(p+(nS r k p+gC r k)+1)+cB r k)<=qB r k (sX r k p):=Xdg (by omega)
  refine By rfl (λh2=>?_) λh2=>?_
  . obtain⟨I,e1,e2,e3,next⟩:∃I,[de (Tow.add k a.1 m),de (Tow.add k a.1 (Tow.neg k m))][x]?=some (de (Tow.add k a.1 I))/\mul k t.1 I I=Tow.norm k t a/\Sz (nS r k p+gC r k) (toL k I)/\(¬Xcu k t.1 (mul k t.1 (rat k (1/2)) (Tow.add k a.1 I))->(x+1=0\/(x+1=1/\¬Xcu k t.1 (mul k t.1 (rat k (1/2)) (Tow.add k a.1 m)))\/(x+1=2/\¬Xcu k t.1 (mul k t.1 (rat k (1/2)) (Tow.add k a.1 m))/\¬Xcu k t.1 (mul k t.1 (rat k (1/2)) (Tow.add k a.1 (Tow.neg k m)))))):=by
     rcases hI with rfl | ⟨rfl,g1⟩ | ⟨rfl,g1,g2⟩
     . exact⟨m,rfl,hm,hmz,λh=>.inr (.inl ⟨rfl,h⟩)⟩
     . exact⟨Tow.neg k m,rfl,by rw[L.mn,L.nm,L.nn,hm],Xhf hmz,λh=>.inr (.inr ⟨rfl,g1,h⟩)⟩
     . omega
    refine Ix x rfl e1 ?_
    obtain⟨s1,s2⟩:=step I e2 e3
    refine Ce rfl (Xo3 o.1 (a:=Tow.add k a.1 I) (p:=p+(nS r k p+gC r k)+1) (by rw[Xav];exact hx.add e3) (by omega) (by omega) Q) ?_
    refine Ca rfl (ih o.1 s1 V.1 (by omega) (by omega) Q) λv Z=>?_
    obtain⟨w,hwl,rfl,hw⟩:=Z
    refine By rfl (λh3=>?_) λh3=>?_
    . have h3:¬Xcu k t.1 (mul k t.1 (Tow.add k a.1 I) (rat k (1/2))):=by simpa only [Xap,Xaj] using h3
      rw[s2] at h3
      refine Ar (x+1:Nat) rfl ?_
      exact Bk (x+1) [] rfl (next h3) (by omega)
    . have h3:Xcu k t.1 (mul k t.1 (Tow.add k a.1 I) (rat k (1/2))):=by simpa [Xap,Xaj] using h3
      obtain⟨w,hw1,hw2⟩:=hw h3
      injection hw2 with _ hw2
      subst hw2
      rw[s2] at hw1
      have hw0:=Yht V ev e2 hw1
      have hwz:Sz (3+(p+(nS r k p+gC r k)+1)+cB r k+gC r k) (toL k w):=(s2 ▸ s1).rootS o.1 V.1 hw1
      have hw2:Tow.add k w w≠zero k:=λe=>hw0 (by
       have e3:mul k t.1 (rat k (1/2)) (Tow.add k w w)=w:=by rw[L.md,<-L.dm,Xgg,L.om]
       rw[<-e3,e,L.mz])
      obtain⟨j,hj⟩:=(Xcs V.1).2 _ hw2
      have hdz:Sz (sX r k p+gC r k) (toL k (Tow.add k w w)):=by rw[Xav];exact hwz.dbl.mono (by omega)
      have hjz:=Sz.invS o.1 hdz hj
      have hs:=Yhv e2 hw1 (Xce hj)
      refine Ce rfl (Xe0 (l:=toL k w) hwz.ps (by omega) (by rw[O];omega)) ?_
      refine No rfl (λe=>hw0 ((Xam k w).2 e)) ?_
      refine Ce rfl (Xid o.1 hwz hwz (by omega) (by omega) Q) ?_
      refine Ce rfl (Xn4 o.1 hdz (by omega) (by omega) Q hj) ?_
      refine Ce rfl (Xdz o.1 hy hjz (by omega) (by omega) Q) ?_
      refine Ce rfl (Xne (by omega)) ?_
      exact Rt rfl (.tup (.cons (.rf rfl) (Xya ⟨_,hs⟩))) ⟨_,by simp[Xab],rfl,λ_=>⟨_,hs,rfl⟩⟩
  . have no:¬Xcu (k+1) t a:=λe=>by
     rcases hI with rfl | ⟨rfl,g1⟩ | ⟨rfl,g1,g2⟩
     . omega
     . omega
     . obtain⟨w,_,h6 | h6⟩:=Xp4 V.1 ev hm e
       . exact g1 ⟨w,h6⟩
       . exact g2 ⟨w,h6⟩
    exact Rt rfl (.tup (.cons (.nil (sz:=4) rfl) (Xwq no))) ⟨[],W0w _,rfl,λe=>absurd e no⟩
theorem Xok{k r p:Nat}{t:Tw k}{a:Tow.El k}(j:TS r k t)(ha:Sz p (toL k a))(o:red k t)(I:k<=16)(hq:qB r k p<=4398046511104)(O:vB r k (p+gC r k)<=4398046511104)(hr:vB r k r<=4398046511104):
 C0 289 [.d (dt t),.d (de a)] λv=>∃w:D,v=.tup (.pr (.d w) (.b (dc (Xcu k t a))))/\(Xcu k t a->∃x,mul k t x x=a/\0<=sgn k t x/\w=de x):=by
 have L:=Xay k t
 have S:=Xaq (Xad o)
 have:=Xdv (r:=r) k (p+gC r k)
 have V:=Xdv (r:=r) k r
 refine En Tryz.func289 λ_ _ _=>?_
 refine Ca rfl (Xei j ha o I hq (by omega)) λv O=>?_
 obtain⟨w,_,rfl,Z⟩:=O
 refine By rfl (λh=>?_) λh=>?_
 . exact Rt rfl (.tup (.cons (.nil (sz:=4) rfl) (Xwq h))) ⟨_,rfl,λe=>absurd e h⟩
 have h:=W2u.1 h
 obtain⟨x,Q,i⟩:=Z h
 injection i with _ i
 subst i
 have T:=ha.rootS j o Q
 refine Ce rfl (Xl5 j T (Xad o) I O hr (by omega)) ?_
 refine By rfl (λh1=>?_) λh1=>?_
 . refine Ce rfl (Xts j T I (by omega) (by omega)) ?_
   exact Rt rfl (.tup (.cons (.rf rfl) (Xya h))) ⟨_,rfl,λ_=>⟨Tow.neg k x,by rw[L.mn,L.nm,L.nn,Q],by rw[S.sn];omega,rfl⟩⟩
 . exact Rt rfl (.tup (.cons (.rf rfl) (Xya h))) ⟨_,rfl,λ_=>⟨x,Q,by omega,rfl⟩⟩
theorem Reduced_ok{k r:Nat}{t:Tw k}(Q:TS r k t)(T:red k t)(hk:k<=16)(hq:qB r k r<=4398046511104)(I:vB r k r<=4398046511104): C0 288 [.d (dt t)] (·=.b true):=by
 have:=Xdv (r:=r) k r
 refine En Tryz.func288 λ_ _ _=>?_
 refine Lo (λi:Nat=>[(0,.d (dt t)),(2,.b false),(7,.d (dt t)),(8,.d (.int .i64 ((toT k t).map dqs).length)),(9,.d (.int .i64 i))]) (λ_=>[]) (λi=>i<=k) (λi=>k-i) 0 [] rfl (by omega) (λi hi=>?_)
 refine By rfl (λh=>?_) λh=>?_<;>simp only[lt',Xaa] at h
 . obtain⟨w,x,o,V,Z,h4,h5⟩:=Tw.take (t:=t) (i:=i) (by omega)
   have j:=Z r Q
   obtain⟨O,h7,h8⟩:=h5 T
   have q1:=Xoi (r:=r) (p:=r) (show i<=k by omega)
   have v1:=Xgq (r:=r) (s:=r) (show i<=k by omega)
   refine Ix i rfl (mp V) ?_
   refine Tk i ((toT i w).map dqs) rfl rfl (by rw[lt',Xaa];omega) (by rw[<-W2g,o]) ?_
   refine Ce rfl (Xb4 j.1 j.2 (by omega) (by omega) (by omega)) ?_
   refine No rfl (by simp) ?_
   refine Tk i ((toT i w).map dqs) rfl rfl (by rw[lt',Xaa];omega) (by rw[<-W2g,o]) ?_
   refine Ce rfl (Xl5 j.1 j.2 (Xad O) (by omega) (by omega) (by omega) (by omega)) ?_
   refine No rfl (λe=>e (by rcases Xb1 w x with h | h | h<;>omega)) ?_
   refine Tk i ((toT i w).map dqs) rfl rfl (by rw[lt',Xaa];omega) (by rw[<-W2g,o]) ?_
   refine Ca rfl (Xei j.1 j.2 O (by omega) (by omega) (by omega)) λv I=>?_
   obtain⟨d,_,rfl,hd⟩:=I
   refine No rfl h8 ?_
   refine Ar (i+1:Nat) rfl ?_
   exact Bk (i+1) [] rfl (show i+1<=k by omega) (by show k-(i+1)<k-i;omega)
 . exact R0
theorem Xrs{l:List (List Rat)}(O:l.length<=1048576)(h:∀x∈l,0<x.length/\x.length<=1048576): CA0 290 [.d (dts l)] 1 (l.map dqs):=by
 have j:(l.map dqs).length=l.length:=by simp
 refine EnW Tryz.func290 λ_ _ _ _=>?_
 refine Mk l.length rfl (by omega) ?_ (by simp[j])
 refine Lo (λi:Nat=>[(0,.d (dts l)),(2,.nil),(3,.own 8 1 0 l.length),(9,.d (dts l)),(10,.d (.int .i64 (l.map dqs).length)),(11,.d (.int .i64 i))]) (λi=>[(8,.arr 1 (fl (l.map dqs) (.sl 4 []) i))]) (λi=>i<=l.length) (λi=>l.length-i) 0 [] rfl (by omega) (λi hi=>?_) (by exact⟨rfl,by rw[<-Xi5 j];rfl,rfl,rfl,rfl⟩)
 refine By rfl (λg=>?_) λg=>?_<;>simp only[lt'] at g
 . have o:l[i]?=some l[i]:=W0e (by omega)
   have I:=h _ (W6r (l:=l) (n:=i) (by omega))
   refine Ix i rfl (mp o) ?_
   refine Ce rfl (Xkh I.1 I.2) ?_
   refine Eo i rfl (by omega) ?_
   refine Sto rfl (by rw[Xka (by omega)];omega) (Xm5 (u:=dqs l[i]) (by rw[W1q,o];rfl)) ?_
   refine Ar (i+1:Nat) rfl ?_
   exact Bk (i+1) [] rfl (show i+1<=l.length by omega) (by show l.length-(i+1)<l.length-i;omega)
 . exact Rw [(8,1000000)] [(1000000,.arr 1 (l.map dqs))] rfl (.one (.rf rfl) rfl rfl) ⟨_,rfl,by rw[j];rfl,rfl⟩ (by rw[Xm6 (by omega)];rfl)
theorem Adjoin_ok{k r p:Nat}{t:Tw k}{a:Tow.El k}(o:TS r k t)(ha:Sz p (toL k a))(T:red k t)(hk:k<8)(hq:qB r k p<=4398046511104)(V:qB r k r<=4398046511104)(Z:vB r k (p+gC r k)<=4398046511104)(hr:vB r k r<=4398046511104):
 C0 227 [.d (dt t),.d (de a)] (R8.AdjR k t a):=by
 have h0:=Xdv (r:=r) k r
 have Q:=Xdv (r:=r) k (p+gC r k)
 have h2:=Xc0 (r:=r) (k:=k) (show p<=p+gC r k by omega)
 have j:=Xaa k t
 have e2:(((toT k t).map dqs).length:Int)=k:=by simp[j]
 have I:∀x∈toT k t,0<x.length/\x.length<=1048576:=λx hx=>by
  obtain⟨i,hi,e⟩:=List.mem_iff_getElem.1 hx
  have:=(Xky o (i:=i) (l:=x) (by rw[W0e hi,e])).1
  rw[j] at hi
  have h3:=W0p (n:=2) (by decide) (show i<=8 by omega)
  have:=W0u i
  omega
 refine En Tryz.func227 λ_ _ _=>?_
 refine Ce rfl (Xb4 o ha (by omega) (by omega) (by omega)) ?_
 refine No rfl (by simp) ?_
 refine Ce rfl (Reduced_ok o T (by omega) V hr) ?_
 refine No rfl (by simp) ?_
 refine Ce rfl (Xl5 o ha (Xad T) (by omega) (by omega) hr (by omega)) ?_
 refine By rfl (λh=>?_) λh=>?_
 . exact Rt rfl (.tup (.cons (.nil rfl) (.cons (.nil rfl) Xa1))) (.inl ⟨h,rfl⟩)
 refine Ca rfl (Xok o ha T (by omega) hq Z hr) λv Z=>?_
 obtain⟨w,rfl,hw⟩:=Z
 refine By rfl (λQ=>?_) λQ=>?_
 . obtain⟨x,x1,x2,rfl⟩:=hw Q
   refine Ce rfl (Xrs (by omega) I).data ?_
   exact Rt rfl (.tup (.cons (.rf rfl) (.cons (.rf rfl) Xa1))) (.inr (.inl ⟨x,x1,x2,rfl⟩))
 refine No rfl (by simp only[lt',j];omega) ?_
 refine Cr rfl (Xrs (by omega) I) ?_
 refine Ce rfl (Xkh (by rw[Xab];exact W0u k) (by rw[Xab];have:=W0p (n:=2) (by decide) (show k<=8 by omega);omega)) ?_
 refine ApO ((toT k t++[toL k a]).map dqs) rfl rfl rfl (by simp) (by simp[j];omega) ?_
 refine Fz 11 9 ((toT k t++[toL k a]).map dqs) rfl (by simp) (by rw[W1e];exact W0b (by simp)) ?_
 have O:=Xyq (r:=max r p) (t:=tsn t a) (i:=k) ?_ (by omega) (by omega) (by omega)
 rw[<-e2] at O
 refine Ce rfl O ?_
 exact Rt rfl (.tup (.cons (.rf rfl) (.cons (.rf rfl) Xa1))) (.inr (.inr ⟨by omega,Q,hk,rfl⟩))
 exact⟨o.mono (by omega),ha.mono (by omega)⟩
end Go.Proofs.YtfjafaehfjjaiaaGreatDoor.P8
namespace Go.Proofs.YtfjafaehfjjaiaaGreatDoor.P9
open Go Go.Vm Go.Num Go.Tow Go.Proofs.YtfjafaehfjjaiaaGreatDoor
section
theorem Xkg{x:Rat}{p:Nat}(h:Qs p x)(hp:p<=4398046511104): C0 117 [.d (dq x)] (·=.d (dq x)):=by
 have i:=h.n.len2 hp
 have j:=h.d.len2 hp
 refine En Tryz.func117 λ_ _ _=>?_
 refine Dw rfl ?_
 refine Ce rfl (Xbs (l:=dig x.num.natAbs) (by omega)) ?_
 refine Ce rfl (Xbs (l:=dig (x.den:Int).natAbs) (by omega)) ?_
 exact R0
theorem Xi9{l:List Rat}{p:Nat}(o:Ps p l)(hp:p<=4398046511104)(I:l.length<=1048576): C0 230 [.d (dqs l)] (·=.d (dqs l)):=by
 have h:(l.map dq).length=l.length:=by simp
 refine En Tryz.func230 λ_ _ _=>?_
 refine Mk l.length rfl (by omega) ?_ (by simp[h])
 refine Lo (λi:Nat=>[(0,.d (dqs l)),(2,.nil),(3,.own 8 4 0 l.length),(9,.d (dqs l)),(10,.d (.int .i64 (l.map dq).length)),(11,.d (.int .i64 i))]) (λi=>[(8,.arr 4 (fl (l.map dq) rz i))]) (λi=>i<=l.length) (λi=>l.length-i) 0 [] rfl (by omega) (λi hi=>?_) (by exact⟨rfl,by rw[<-Xi5 h];rfl,rfl,rfl,rfl⟩)
 refine By rfl (λg=>?_) λg=>?_<;>simp only[lq] at g
 . obtain⟨u,j⟩:=qat (l:=l) (k:=i) (by omega)
   refine Ix i rfl (mp j) ?_
   refine Ce rfl (Xkg (o u (W0h j)) hp) ?_
   refine Eo i rfl (by omega) ?_
   refine Sto rfl (by rw[Xka (by omega)];omega) (Xm5 (u:=dq u) (by rw[W1q,j];rfl)) ?_
   refine Ar (i+1:Nat) rfl ?_
   exact Bk (i+1) [] rfl (show i+1<=l.length by omega) (by show l.length-(i+1)<l.length-i;omega)
 . refine R1 rfl (.own rfl (by rw[Xka (by omega)];simp) ?_)
   rw[Xm6 (by omega),W1e]
   exact W0b (by simp)
theorem Xy1{x y:Rat}{p q:Nat}(i:Qs p x)(j:Qs q y)(hp:p+q<=8796093022208): C0 144 [.d (dq x),.d (dq y)] (·=.b (dc (x=y))):=by
 refine En Tryz.func144 λ_ _ _=>?_
 refine Ce rfl (Xbv i j hp) ?_
 exact R1 rfl (.bp (Xaj.trans ⟨λh=>W1b λe=>R9.cmpQ_ne.2 e h,λe=>W1b λh=>R9.cmpQ_ne.1 h e⟩))
theorem Xz8{l m:List Rat}{p q:Nat}(Q:Ps p l)(T:Ps q m)(hp:p+q<=8796093022208)(V:l.length<=1048576): C0 143 [.d (dqs l),.d (dqs m),.d (.raw (.func (.func 144) #[] #[]))] (·=.b (dc (l=m))):=by
 refine En Tryz.func143 λ_ _ _=>?_
 refine By rfl (λh=>?_) λh=>?_<;>simp only[lq] at h
 . exact R1 rfl (.bp ⟨nofun,λe=>absurd (by rw[e]) h⟩)
 have h:l.length=m.length:=by omega
 refine Lo (λk:Nat=>[(0,.d (dqs l)),(1,.d (dqs m)),(2,.d (.raw (.func (.func 144) #[] #[]))),(15,.d (dqs l)),(16,.d (.int .i64 (l.map dq).length)),(17,.d (.int .i64 k))]) (λ_=>[]) (λk=>k<=l.length/\l.take k=m.take k) (λk=>l.length-k) 0 [] rfl ⟨by omega,rfl⟩ λk ⟨Z,I⟩=>?_
 refine By rfl (λO=>?_) λO=>?_<;>simp only[lq] at O
 . obtain⟨x,o⟩:=qat (l:=l) (k:=k) (by omega)
   obtain⟨y,i⟩:=qat (l:=m) (k:=k) (by omega)
   refine Ix k rfl (mp o) ?_
   refine Ix k rfl (mp i) ?_
   refine Ce rfl (Xy1 (Q x (W0h o)) (T y (W0h i)) hp) ?_
   refine By rfl (λj=>?_) λj=>?_
   . have j:¬x=y:=by simpa [Xap,Xaj] using j
     exact R1 rfl (.bp ⟨nofun,λe=>by subst e;rw[o] at i;injection i with i;exact absurd i j⟩)
   . have e:x=y:=by simpa [Xap,Xaj] using j
     refine Ar (k+1:Nat) rfl ?_
     exact Bk (k+1) [] rfl ⟨by omega,by rw[W2c,W2c,o,i,I,e]⟩ (by show l.length-(k+1)<l.length-k;omega)
 . rw[W0b (by omega),W0b (by omega)] at I
   exact R1 rfl (.bp ⟨λ_=>I,λ_=>rfl⟩)
theorem sameElement_ok{l m:List Rat}{p q:Nat}(h:Ps p l)(i:Ps q m)(hp:p+q<=8796093022208)(j:l.length<=1048576): C0 87 [.d (dqs l),.d (dqs m)] (·=.b (dc (l=m))):=by
 refine En Tryz.func87 λ_ _ _=>?_
 refine Ce rfl (Xz8 h i hp j) ?_
 exact R0
theorem Xz7{T U:List (List Rat)}{p q:Nat}(Q:Pt p T)(V:Pt q U)(hp:p+q<=8796093022208)(hl:T.length<=16): C0 142 [.d (dts T),.d (dts U),.d (.raw (.func (.func 87) #[] #[]))] (·=.b (dc (T=U))):=by
 refine En Tryz.func142 λ_ _ _=>?_
 refine By rfl (λh=>?_) λh=>?_<;>simp only[lt'] at h
 . exact R1 rfl (.bp ⟨nofun,λe=>absurd (by rw[e]) h⟩)
 have h:T.length=U.length:=by omega
 refine Lo (λk:Nat=>[(0,.d (dts T)),(1,.d (dts U)),(2,.d (.raw (.func (.func 87) #[] #[]))),(15,.d (dts T)),(16,.d (.int .i64 (T.map dqs).length)),(17,.d (.int .i64 k))]) (λ_=>[]) (λk=>k<=T.length/\T.take k=U.take k) (λk=>T.length-k) 0 [] rfl ⟨by omega,rfl⟩ λk ⟨hk,I⟩=>?_
 refine By rfl (λO=>?_) λO=>?_<;>simp only[lt'] at O
 . obtain⟨x,o⟩:∃x,T[k]?=some x:=⟨_,W0e (by omega)⟩
   obtain⟨y,i⟩:∃y,U[k]?=some y:=⟨_,W0e (by omega)⟩
   obtain⟨x1,Z⟩:=Q k x o
   obtain⟨y1,y2⟩:=V k y i
   have:=p16 (show k<=16 by omega)
   refine Ix k rfl (mp o) ?_
   refine Ix k rfl (mp i) ?_
   refine Ce rfl (sameElement_ok Z y2 hp (by omega)) ?_
   refine By rfl (λj=>?_) λj=>?_
   . have j:¬x=y:=by simpa [Xap,Xaj] using j
     exact R1 rfl (.bp ⟨nofun,λe=>by subst e;rw[o] at i;injection i with i;exact absurd i j⟩)
   . have e:x=y:=by simpa [Xap,Xaj] using j
     refine Ar (k+1:Nat) rfl ?_
     exact Bk (k+1) [] rfl ⟨by omega,by rw[W2c,W2c,o,i,I,e]⟩ (by show T.length-(k+1)<T.length-k;omega)
 . rw[W0b (by omega),W0b (by omega)] at I
   exact R1 rfl (.bp ⟨λ_=>I,λ_=>rfl⟩)
theorem begins_ok{T U:List (List Rat)}{p q:Nat}(j:Pt p T)(o:Pt q U)(hp:p+q<=8796093022208)(I:T.length<=16): C0 86 [.d (dts T),.d (dts U)] (·=.b (dc (T.take U.length=U))):=by
 refine En Tryz.func86 λ_ _ _=>?_
 refine By rfl (λh=>?_) λh=>?_<;>simp only[lt'] at h
 . have hq:Pt p (T.take U.length):=λi r hi=>by
    rw[W1d] at hi
    split at hi
    . exact j i r hi
    . cases hi
   refine Tk U.length ((T.take U.length).map dqs) rfl rfl (by simp only[lt'];omega) (by rw[W2g]) ?_ (by simp only[lt'])
   refine Ce rfl (Xz7 hq o hp (by rw[W0f];omega)) ?_
   exact R0
 . exact R1 rfl (.bp ⟨nofun,λe=>absurd (congrArg List.length e) (by rw[W0f];omega)⟩)
theorem Yik{T:List (List Rat)}{l:List Rat}(h0:0<l.length)(j:T.length<=16)(o:l.length<=2^T.length): C0 92 [.d (dts T),.d (dqs l)] (·=.d (dqs (l++List.replicate (2^T.length-l.length) 0))):=by
 have hp:=p16 j
 obtain⟨n,i⟩:∃n,n=2^T.length:=⟨_,rfl⟩
 rw[<-i] at hp o |-
 refine En Tryz.func92 λ_ _ _=>?_
 refine Cr rfl (Xja h0 (by omega)) ?_
 refine Lo (λk:Nat=>[(0,.d (dts T)),(5,.own 7 4 0 ((l++List.replicate k 0).map dq).length)]) (λk=>[(7,.arr 4 ((l++List.replicate k 0).map dq))]) (λk=>l.length+k<=n) (λk=>n-k) 0 [] rfl (by omega) (λk I=>?_) (by exact⟨by simp;rfl,by simp;rfl,rfl,rfl,rfl⟩)
 refine Ar n rfl ?_ (by rw[i];simp only[lt'];exact Xbu (by omega))
 refine By rfl (λh=>?_) λh=>?_<;>simp only[lq,W0c,W1n] at h
 . refine Ce rfl (Xau (z:=0) (by decide)) ?_
   refine ApO ((l++List.replicate (k+1) 0).map dq) rfl rfl rfl (by rw[W6t];simp) (by simp;omega) ?_
   exact Bk (k+1) [(7,90),(17,7)] rfl (show l.length+(k+1)<=n by omega) (by show n-(k+1)<n-k;omega)
 . refine R1 rfl (.own rfl (by omega) ?_)
   rw[W1e,show n-l.length=k by omega]
   exact W0b (by simp)
theorem Xqp{k m:Nat}{s:Tow.El k}{b:Tow.El m}{T:Tw m}(h:Lf s b)(i:k<=m)(j:m<=16): C0 92 [.d (dt T),.d (de s)] (·=.d (de b)):=by
 have:=Yik (T:=toT m T) (l:=toL k s) (by rw[Xab];exact W0u k) (by rw[Xaa];omega) (by rw[Xab,Xaa];exact W0p (by decide) i)
 rw[Xaa,Xab,<-h] at this
 exact this
abbrev dE(T h:List (List Rat)): D:=.st (.pr (dts T) (dts h))
theorem Xd8{k R z:Nat}{T:Tw k}{O:List (List Rat)}{σ:Nat->Tow.El k}(I:TS R k T)(Q:k<=16)(Z:R<=4398046511104): ∀ {j p:Nat} {a:Tow.El j},R9.Rts k z j O σ->Sz p (toL j a)->j<=16->imB (cB R k) z j p<=4398046511104 ->
 C0 147 [.d (dE (toT k T) O),.d (de a)] (·=.d (de (ev T σ j a))):=by
 intro j
 induction j with
 | zero =>
  intro p a _ ha hj hb
  have hb:p+1<=4398046511104:=hb
  have key:∀y:Rat,Qs p y->C0 147 [.d (dE (toT k T) O),.d (dqs [y])] (·=.d (de (rat k y))):=λy hy=>by
   refine En Tryz.func147 λ_ _ _=>?_
   refine Yes rfl rfl ?_
   refine Dw rfl ?_
   refine Ix 0 rfl (u:=dq y) rfl ?_
   refine Ce rfl (Xc1 I Q Z hy (by omega)) ?_
   exact R0
  exact key a (ha.qs (W0j.2 rfl))
 | succ j ih =>
  intro p a hr ha hj hb
  have hb':2*imB (cB R k) z j p+z+cB R k+1<=4398046511104:=hb
  have o:R9.Rts k z j O σ:=λi hi=>hr i (by omega)
  have hpj:=p16 (show j<=16 by omega)
  have hp0:=W0u j
  have hpp:=Ycu (c:=cB R k) (z:=z) (p:=p) (j:=j)
  have hs:∀i,i<j->Sz z (toL k (σ i)):=λi hi=>(o i hi).elim λ_ h=>h.elim λ_ h=>h.2.2.2
  have h1:=Xjm I (a:=a.1) hs (Sz.left ha)
  have h2:=Xjm I (a:=a.2) hs (Sz.right ha)
  obtain⟨m,s,m1,m2,m3,m4⟩:=hr j (by omega)
  refine En Tryz.func147 λ_ _ _=>?_
  refine No rfl (by show ¬((((toL j a.1++toL j a.2).map dq).length:Nat):Int)=1;rw[hvL];omega) ?_
  refine Ar (2^j:Nat) rfl ?_ (hvq a (by omega))
  refine Lo (λi:Nat=>[(1,.d (de a)),(2,.ptr 2 0),(4,.nil),(5,.d (.int .i64 (2^j:Nat))),(6,.d (.int .i64 i))]) (λ_=>[(2,.var (.d (dE (toT k T) O)))]) (λi=>i<=j) (λi=>j-i) 0 [] rfl (by omega) λi hi=>?_
  refine Ar (i+1:Nat) rfl ?_
  refine Ar (2^(i+1):Nat) rfl ?_ (Xbu (by omega))
  refine By rfl (λh=>?_) λh=>?_
  . have h:((2^(i+1):Nat):Int)<(((toL j a.1++toL j a.2).map dq).length:Nat):=h
    rw[hvL,<-Nat.pow_succ'] at h
    have h:i+1<j+1:=(W2w (by decide:1<2)).1 (by omega)
    refine Ar (i+1:Nat) rfl ?_
    exact Bk (i+1) [] rfl (show i+1<=j by omega) (by show j-(i+1)<j-i;omega)
  . have h:¬((2^(i+1):Nat):Int)<(((toL j a.1++toL j a.2).map dq).length:Nat):=h
    rw[hvL,<-Nat.pow_succ'] at h
    have h:¬i+1<j+1:=λe=>h (by have:=(W2w (by decide:1<2)).2 e;omega)
    obtain rfl:i=j:=by omega
    refine Dw rfl ?_
    refine Tk (2^i) ((toL i a.1).map dq) rfl rfl (Xci a) (hvT a) ?_
    refine Ce rfl (ih o (Sz.left ha) (by omega) (by omega)) ?_
    refine Dp (2^i) ((toL i a.2).map dq) rfl rfl (Xci a) (hvD a) ?_
    refine Ce rfl (Xe0 (l:=toL i a.2) (Sz.right ha).ps (by omega) (by rw[Xab];omega)) ?_
    refine By rfl (λV=>?_) λV=>?_
    . have V:a.2=zero i:=(Xam i a.2).2 V
      have e:ev T σ i a.1=ev T σ (i+1) a:=by
       have L:=Xay k T
       show _=Tow.add k (ev T σ i a.1) (mul k T (ev T σ i a.2) (σ i))
       rw[V,Xd9,L.mc,L.mz,L.az]
      exact R1 rfl (.eq (congrArg de e))
    . refine Dw rfl ?_
      refine Dp (2^i) ((toL i a.2).map dq) rfl rfl (Xci a) (hvD a) ?_
      refine Ce rfl (ih o (Sz.right ha) (by omega) (by omega)) ?_
      refine Ix i rfl (mp m2) ?_
      refine Ce rfl (Xqp (T:=T) m3 m1 Q) ?_
      refine Ce rfl (Xdz I h2 m4 Q (by omega) Z) ?_
      refine Ce rfl (Xid I h1 (h2.mul I m4) Q (by omega) Z) ?_
      exact R0
section
variable{c:Fg}{K:Nat}{G:Tw K}{S:List (Tow.El K)}{k l:Nat}{t:Tw k}{u:Tw l}{ρ ρu:Nat->Tow.El K}
theorem Xc6(W:Wy c G S)(ht:TOk G S k t ρ)(hu:TOk G S l u ρu): C0 146 [.d (dt t),.d (dt u)] (R9.ExQ c G S l k t ρ ρu λT I=>.tup (.pr (.d (.st (.pr T I))) (.d (.int .i64 0)))):=by
 have hl3:=W.le hu
 have hH:=W.k.h
 refine En Tryz.func146 λ_ _ _=>?_
 refine Nv 6 7 1 rfl ?_
 refine Lo (λ(x:Nat×(Σ m,Tw m)×List (List Rat))=>[(4,.ptr 4 0),(5,.d (.int .i64 0)),(6,.ptr 6 0),(14,.d (dt u)),(15,.d (.int .i64 ((toT l u).map dqs).length)),(16,.d (.int .i64 x.1))]) (λx=>[(4,.var (.st (.pr .nil .nil))),(6,.var (.st (.pr (.d (dt x.2.1.2)) (.gr 7 1 (x.2.2.map dqs))))),(7,.tok (x.2.2.map dqs).length 1)])
  (R9.ExI c G S l k t ρ ρu) (λx=>l-x.1) (0,⟨k,t⟩,[]) [] rfl ⟨W0w _,rfl,ρ,ht,Beg.rf,λ_ _=>rfl,λi hi=>by omega,λ_=>rfl⟩ (λ(i,⟨m,T⟩,I) hI=>?_)
 have Z:=hI
 obtain⟨hi,hrl,ρ',o,hB,ha,j,hc⟩:=hI
 simp only at hi hrl o hB ha j hc
 have hm3:=W.le o
 have hz:=W.t o
 refine By rfl (λh=>?_) λh=>?_<;>simp only[lt',Xaa] at h
 . have Q:i<l:=by omega
   obtain⟨x,σ,x1,x2,s1,s2,V,x4,hsz⟩:=R9.ExI.rad W hu Q o j
   obtain⟨q1,q2,q3,q4⟩:=R9.exB W.k hm3
   have hE:=Xyj hm3 (show i<c.H by omega)
   have hR:=W.k.r
   have hE':=W.k.e
   have O:(I.map dqs).length<=c.H:=by rw[W0i];omega
   refine Ix i rfl (mp x1) ?_
   refine Dw rfl ?_
   refine Ce rfl (Xd8 (k:=m) (T:=T) hz (by omega) (by omega) s1 x2 (by omega) (by omega)) ?_
   refine Ca rfl (P8.Adjoin_ok (k:=m) (t:=T) hz hsz o.r (by omega) q1 q2 q3 q4) λv hv=>?_
   rcases hv with ⟨h1,rfl⟩ | ⟨y,h1,h2,rfl⟩ | ⟨h1,h2,h3,rfl⟩
   . have:=Xdc (Xad W.g) o.h (a:=ev T σ i x)
     rw[V,(Xaq (Xad W.g)).sm,x4] at this
     omega
   . refine No rfl (by simp) ?_
     refine ApG ((I++[toL m y]).map dqs) rfl (by simp) (by simp at O |-;omega) ?_
     refine Ar (i+1:Nat) rfl ?_
     exact Bk (i+1,⟨m,T⟩,I++[toL m y]) [(7,90),(39,7)] rfl (Z.sq W hu Q o hB ha j hc s2 V x4 h1 h2) (by show l-(i+1)<l-i;omega)
   . refine No rfl (by simp) ?_
     refine ApG ((I++[toL (m+1) (Xcw (m+1) m)]).map dqs) rfl (by simp) (by simp at O |-;omega) ?_
     refine Ar (i+1:Nat) rfl ?_
     exact Bk (i+1,⟨m+1,tsn T (ev T σ i x)⟩,I++[toL (m+1) (Xcw (m+1) m)]) [(7,90),(39,7)] rfl (Z.new W hu Q o hB ha j V x4 h2) (by show l-(i+1)<l-i;omega)
 . obtain rfl:i=l:=by omega
   exact Rt rfl (.tup (.cons (.sd (.pd (.rf rfl) (.gr rfl))) Xa1)) ⟨m,T,I,ρ',rfl,o,hB,ha,j,hc⟩
end
end
section
theorem Xew{x:Nm}{r p:Nat}(hr:TS r x.k x.t)(hp:Sz p (toL x.k x.a))(o:x.k<=16)(I:r<=4398046511104)(O:p<=4398046511104): C0 148 [.d (dN x)] (·=.d (dN x)):=by
 have Q:=p16 o
 refine En Tryz.func148 λ_ _ _=>?_
 refine Ce rfl (Xi9 hp.ps O (by rw[Xab];omega)) ?_
 refine Nv 3 7 1 rfl ?_
 refine Lo (λ(i:Nat)=>[(2,.ptr 2 0),(3,.ptr 3 0),(11,.d (dt x.t)),(12,.d (.int .i64 ((toT x.k x.t).map dqs).length)),(13,.d (.int .i64 i))]) (λi=>[(2,.var (.st (.pr .nil .nil))),(3,.var (.st (.pr (.gr 7 1 (((toT x.k x.t).take i).map dqs)) (.d (de x.a))))),(7,.tok (((toT x.k x.t).take i).map dqs).length 1)])
  (λi=>i<=x.k) (λi=>x.k-i) 0 [] rfl (W0w _) (λi hi=>?_)
 refine By rfl (λh=>?_) λh=>?_<;>simp only[lt',Xaa] at h
 . obtain⟨w,y,Z,j,T,_⟩:=Tw.take (t:=x.t) (i:=i) (by omega)
   have V:=(T r hr).2
   refine Ix i rfl (mp j) ?_
   refine Dw rfl ?_
   refine Ce rfl (Xi9 V.ps I (by rw[Xab];have:=p16 (show i<=16 by omega);omega)) ?_
   refine ApG (((toT x.k x.t).take (i+1)).map dqs) rfl (by rw[W2c,j];simp) (by simp[Xaa];omega) ?_
   refine Ar (i+1:Nat) rfl ?_
   exact Bk (i+1) [(7,90),(22,7)] rfl (show i+1<=x.k by omega) (by show x.k-(i+1)<x.k-i;omega)
 . have e:(toT x.k x.t).take i=toT x.k x.t:=W0b (by rw[Xaa];omega)
   refine R1 rfl (.sd (.pd (.gr ?_) (.rf rfl)))
   rw[e]
theorem Xqq: ∀ {k:Nat},rat k 1≠zero k
 | 0,h=>by have h:(1:Rat)=0:=h;exact absurd h (by decide)
 | k+1,h=>Xqq (k:=k) (congrArg Prod.fst h)
theorem inv_zero{k:Nat}{t:Tw k}{a:Tow.El k}(h:a=zero k): Tow.inv k t a=none:=by
 cases e:Tow.inv k t a with
 | none=>rfl
 | some i =>
  have:=Xce e
  rw[h,(Xay k t).mz] at this
  exact absurd this.symm Xqq
section
variable{c:Fg}{K:Nat}{G:Tw K}{S:List (Tow.El K)}{r p:Nat}{x y:Nm}{vx vy:Tow.El K}
theorem Xxh(W:Wy c G S)(hx:NOk G S r p x vx)(hy:NOk G S r p y vy): C0 145 [.d (dNs [x,y])] λv=>∃m T,v=.tup (.pr (.d (dt T)) (.d (.int .i64 0)))/\R9.CmP G S x y m T:=by
 have hG:=W.g
 have hR:=W.k.r
 have hH:=W.k.h
 obtain⟨ρx,j,hx2⟩:=hx.ex
 obtain⟨ρy,o,hy2⟩:=hy.ex
 have hx3:=W.le j
 have hy3:=W.le o
 have I:=W.t j
 have O:=W.t o
 refine En Tryz.func145 λ_ _ _=>?_
 refine Nd 4 1 rfl ?_
 refine Lo (λ(s:Nat×(Σ m,Tw m))=>[(2,.nil),(3,.d (.int .i64 0)),(4,.d (dt s.2.2)),(9,.d (dNs [x,y])),(10,.d (.int .i64 2)),(11,.d (.int .i64 s.1))]) (λ_=>[]) (λs=>(s.1=0/\s.2=⟨0,()⟩)\/(s.1=1/\s.2=⟨x.k,x.t⟩)\/(s.1=2/\R9.CmP G S x y s.2.1 s.2.2)) (λs=>2-s.1) (0,⟨0,()⟩) [] rfl (.inl ⟨rfl,rfl⟩) (λ(i,⟨m,T⟩) V=>?_)
 simp only at V
 rcases V with ⟨rfl,e⟩ | ⟨rfl,e⟩ | ⟨rfl,hP⟩
 . cases e
   refine Yes rfl (show ((0:Nat):Int)<2 by decide) ?_
   refine Ix 0 rfl (u:=dN x) rfl ?_
   refine Ce rfl (begins_ok (T:=[]) (U:=toT x.k x.t) (p:=1) (λi r h=>by simp at h) (TS.pt I) (by omega) (by decide)) ?_
   refine By rfl (λh=>?_) λh=>?_
   . obtain⟨Z,tx,ax⟩:=x
     have h:[]=toT Z tx:=by simpa using h
     obtain rfl:Z=0:=by have:=congrArg List.length h;rw[Xaa] at this;exact this.symm
     refine Ar (0+1:Nat) rfl ?_
     exact Bk (1,⟨0,tx⟩) [] rfl (.inr (.inl ⟨rfl,rfl⟩)) (show 1<2 by decide)
   . refine Ce rfl (begins_ok (U:=[]) (q:=1) (TS.pt I) (λi r h=>by simp at h) (by omega) (by rw[Xaa];omega)) ?_
     refine Yes rfl (by simp) ?_
     refine Ar (0+1:Nat) rfl ?_
     exact Bk (1,⟨x.k,x.t⟩) [] rfl (.inr (.inl ⟨rfl,rfl⟩)) (show 1<2 by decide)
 . cases e
   have Q:∀h:(toT x.k x.t).take (toT y.k y.t).length=toT y.k y.t,R9.CmP G S x y x.k x.t:=λh=>.mk hG j o j R9.rts (R9.beg_rt hG (show Beg y.k y.t x.k x.t from h) o j)
   refine Yes rfl (show ((1:Nat):Int)<2 by decide) ?_
   refine Ix 1 rfl (u:=dN y) rfl ?_
   refine Ce rfl (begins_ok (T:=toT x.k x.t) (U:=toT y.k y.t) (TS.pt I) (TS.pt O) (by omega) (by rw[Xaa];omega)) ?_
   refine By rfl (λh=>?_) λh=>?_
   . refine Ar (1+1:Nat) rfl ?_
     exact Bk (2,⟨x.k,x.t⟩) [] rfl (.inr (.inr ⟨rfl,Q h⟩)) (show 0<1 by decide)
   refine Ce rfl (begins_ok (T:=toT y.k y.t) (U:=toT x.k x.t) (TS.pt O) (TS.pt I) (by omega) (by rw[Xaa];omega)) ?_
   refine By rfl (λh1=>?_) λh1=>?_
   . have hb:Beg x.k x.t y.k y.t:=h1
     refine Ar (1+1:Nat) rfl ?_
     exact Bk (2,⟨y.k,y.t⟩) [] rfl (.inr (.inr ⟨rfl,.mk hG j o o (R9.beg_rt hG hb j o) R9.rts⟩)) (show 0<1 by decide)
   . refine Ca rfl (Xc6 W j o) λv hv=>?_
     obtain⟨m,T,rs,ρ',rfl,g1,g2,g3,g5,g6⟩:=hv
     refine No rfl (by simp) ?_
     refine Ar (1+1:Nat) rfl ?_
     exact Bk (2,⟨m,T⟩) [] rfl (.inr (.inr ⟨rfl,.ext hG j o g1 g2 g5⟩)) (show 0<1 by decide)
 . refine No rfl (show ¬((2:Nat):Int)<2 by decide) ?_
   exact Rt rfl (.tup (.cons (.rf rfl) Xa1)) ⟨m,T,rfl,hP⟩
theorem Join_ok(W:Wy c G S)(hx:NOk G S r p x vx)(hy:NOk G S r p y vy)(hp:oW c p<=4398046511104): C0 88 [.d (dNs [x,y])] λv=>∃m T a b,v=.tup (.pr (.d (dNs [⟨m,T,a⟩,⟨m,T,b⟩])) (.d (.int .i64 0)))/\R9.JnR c G S p vx vy m T a b:=by
 have hc:=Xxh W hx hy
 have hG:=W.g
 have hR:=W.k.r
 have hH:=W.k.h
 have hO:oW c p=2*jW c p+cB c.R c.H+1:=rfl
 have hpj:p<=jW c p:=Xvx
 refine En Tryz.func88 λ_ _ _=>?_
 refine Ca rfl hc λv hv=>?_
 obtain⟨m,T,rfl,hP⟩:=hv
 obtain⟨ρ,O,hcon⟩:=hP
 have o:=W.t O
 have hm3:=W.le O
 refine No rfl (by decide) ?_
 refine Nl 6 6 2 rfl ?_
 refine Lo (λ(s:Nat×List (Tow.El m))=>[(2,.nil),(3,.d (.int .i64 0)),(4,.d (dt T)),(6,.gr 6 2 (s.2.map λa=>dN ⟨m,T,a⟩)),(20,.d (dNs [x,y])),(21,.d (.int .i64 2)),(22,.d (.int .i64 s.1))]) (λs=>[(6,.tok (s.2.map λa=>dN ⟨m,T,a⟩).length 2)])
  (R9.JnI c G p m ρ vx vy) (λs=>2-s.1) (0,[]) [] rfl ⟨W0w _,rfl,λi hi=>absurd hi (W4r _)⟩ (λ(j,bs) hI=>?_)
 have Q:=hI
 obtain⟨hj,hjl,has⟩:=hI
 simp only at hj hjl has
 refine By rfl (λh=>?_) λh=>?_
 . have h:(j:Int)<2:=h
   obtain⟨z,v,ρz,z1,z2,V,z4,z6⟩:=R9.both hx hy j (by omega)
   have z5:=W.t V
   have hzu:([x,y].map dN)[j]?=some (dN z):=by rw[W1q,z1];rfl
   have hzm:=hcon z (W0h z1) ρz V
   have hz3:=W.le V
   refine Ix j rfl hzu ?_
   refine Ce rfl (begins_ok (T:=toT m T) (U:=toT z.k z.t) (TS.pt o) (TS.pt z5) (by omega) (by rw[Xaa];omega)) ?_
   refine By rfl (λh1=>?_) λh1=>?_
   . have hb:Beg z.k z.t m T:=h1
     obtain⟨b,I⟩:=Lf.ex hb.le z.a
     have hv1:ev G ρ m b=v:=by rw[I.ev hb.le,Xa8 (R9.beg_ag hG hb V O),z4]
     refine Ce rfl (Xqp (T:=T) I hb.le (by omega)) ?_
     refine Ce rfl (Xew (x:=⟨_,T,b⟩) o ((I.sz z6).mono hpj) (show _<=16 by show m<=16;omega) (by omega) (by omega)) ?_
     refine ApG ((bs++[b]).map λa=>dN ⟨m,T,a⟩) rfl (by simp) (by simp;omega) ?_
     refine Ar (j+1:Nat) rfl ?_
     exact Bk (j+1,bs++[b]) [(6,90),(56,6)] rfl (Q.step (by omega) z2 hv1 ((I.sz z6).mono hpj)) (by show 2-(j+1)<2-j;omega)
   . refine Ca rfl (Xc6 W O V) λv' hv=>?_
     obtain⟨m',T',rs,ρ',rfl,g1,g2,g3,g5,g6⟩:=hv
     obtain rfl:m'=m:=by have:=congrArg List.length (g6 hzm);rwa[Xaa,Xaa] at this
     obtain rfl:T=T':=(Xh9 (g6 hzm)).symm
     have g5:RtV G m' c.Z z.k rs ρ ρz:=g5.mono (W0a _) (W0a _) (λi hi=>(g3 i hi).symm)
     obtain⟨σ,s1,s2⟩:=g5.sig
     have hbd:=Xvw (p:=p) hm3 hz3
     refine No rfl (by simp) ?_
     refine Ce rfl (Xd8 o (by omega) (by omega) s1 z6 (by omega) (by omega)) ?_
     refine Ce rfl (Xew (x:=⟨_,T,ev T σ z.k z.a⟩) o (R9.img W O V s1 z6) (show _<=16 by show m'<=16;omega) (by omega) (by omega)) ?_
     refine ApG ((bs++[ev T σ z.k z.a]).map λa=>dN ⟨m',T,a⟩) rfl (by simp) (by simp;omega) ?_
     refine Ar (j+1:Nat) rfl ?_
     exact Bk (j+1,bs++[ev T σ z.k z.a]) [(6,90),(56,6)] rfl (Q.step (by omega) z2 (by rw[Xi6 O.h s2,z4]) (R9.img W O V s1 z6)) (by show 2-(j+1)<2-j;omega)
 . have h:¬(j:Int)<2:=h
   obtain rfl:j=2:=by omega
   obtain⟨a,b,rfl,hJ⟩:=Q.done O
   exact Rt rfl (.tup (.cons (.gr rfl) Xa1)) ⟨m,T,a,b,rfl,hJ⟩
def OpF(c:Fg)(f:FuncId)(p:Nat)(g:(m:Nat)->Tw m->Tow.El m->Tow.El m->Tow.El m): Prop:=∀(m:Nat) (T:Tw m) (a b:Tow.El m),m<=c.H->TS c.R m T->Sz (jW c p) (toL m a)->Sz (jW c p) (toL m b)->C0 f [.d (dt T),.d (de a),.d (de b)] (·=.d (de (g m T a b)))
theorem Xg7{f:FuncId}{g:(m:Nat)->Tw m->Tow.El m->Tow.El m->Tow.El m}(hf:OpF c f p g)(W:Wy c G S)(j:NOk G S r p x vx)(o:NOk G S r p y vy)(hp:oW c p<=4398046511104): C0 73 [.d (dN x),.d (dN y),.d (fnD f)] λv=>∃m T a b,v=.tup (.pr (.d (dN ⟨m,T,g m T a b⟩)) (.d (.int .i64 0)))/\R9.JnR c G S p vx vy m T a b:=by
 refine En Tryz.func73 λ_ _ _=>?_
 refine Ca rfl (Join_ok W j o hp) λv I=>?_
 obtain⟨m,T,a,b,rfl,h⟩:=I
 obtain⟨ρ,i,h3,h4,O,Q⟩:=id h
 have V:=W.t i
 have Z:=W.le i
 refine No rfl (by simp) ?_
 refine Ix 0 rfl (u:=dN ⟨m,T,a⟩) rfl ?_
 refine Dw rfl ?_
 refine Ix 0 rfl (u:=dN ⟨m,T,a⟩) rfl ?_
 refine Ix 1 rfl (u:=dN ⟨m,T,b⟩) rfl ?_
 refine Ce rfl (hf m T a b Z V O Q) ?_
 exact Rt rfl (.tup (.cons (.rf rfl) Xa1)) ⟨m,T,a,b,rfl,h⟩
theorem Add_ok(W:Wy c G S)(O:NOk G S r p x vx)(Q:NOk G S r p y vy)(hp:oW c p<=4398046511104): C0 29 [.d (dN x),.d (dN y)] (R9.OpR c G S (oW c p) (Tow.add K vx vy)):=by
 have hO:oW c p=2*jW c p+cB c.R c.H+1:=rfl
 have hH:=W.k.h
 have hR:=W.k.r
 refine En Tryz.func29 λ_ _ _=>?_
 refine Ca rfl (Xg7 (g:=λm T a b=>Tow.add m a b) (λm T a b hm i j o=>Xid i j o (by omega) (by omega) (by omega)) W O Q hp) λv V=>?_
 obtain⟨m,T,a,b,rfl,ρ,I,Z,h4,j,o⟩:=V
 have i:=W.t I
 exact Rt rfl (.tup (.cons (.rf rfl) Xa1)) ⟨⟨m,T,Tow.add m a b⟩,rfl,⟨ρ,I,by rw[<-Z,<-h4];exact Xcy⟩,i,by rw[Xav];exact(j.add o).mono (by omega)⟩
theorem Mul_ok(W:Wy c G S)(Q:NOk G S r p x vx)(V:NOk G S r p y vy)(hp:oW c p<=4398046511104): C0 100 [.d (dN x),.d (dN y)] (R9.OpR c G S (oW c p) (Tow.mul K G vx vy)):=by
 have hO:oW c p=2*jW c p+cB c.R c.H+1:=rfl
 have hH:=W.k.h
 have hR:=W.k.r
 refine En Tryz.func100 λ_ _ _=>?_
 refine Ca rfl (Xg7 (g:=λm T a b=>Tow.mul m T a b) (λm T a b o i I O=>Xdz i I O (by omega) (by have:=Xfe (r:=c.R) o;omega) (by omega)) W Q V hp) λv Z=>?_
 obtain⟨m,T,a,b,rfl,ρ,j,h3,h4,I,O⟩:=Z
 have i:=W.t j
 have o:=W.le j
 have hc:=Xfe (r:=c.R) o
 exact Rt rfl (.tup (.cons (.rf rfl) Xa1)) ⟨⟨m,T,Tow.mul m T a b⟩,rfl,⟨ρ,j,by rw[<-h3,<-h4];exact Xa5 j.h⟩,i,(I.mul i O).mono (by omega)⟩
theorem Sub_ok(W:Wy c G S)(O:NOk G S r p x vx)(Q:NOk G S r p y vy)(hp:oW c p<=4398046511104): C0 141 [.d (dN x),.d (dN y)] (R9.OpR c G S (oW c p) (Tow.add K vx (Tow.neg K vy))):=by
 have hO:oW c p=2*jW c p+cB c.R c.H+1:=rfl
 have hH:=W.k.h
 have hR:=W.k.r
 refine En Tryz.func141 λ_ _ _=>?_
 refine Ca rfl (Xg7 (g:=λm T a b=>Tow.add m a (Tow.neg m b)) (λm T a b hm i j o=>Xk0 i j o (by omega) (by omega) (by omega)) W O Q hp) λv V=>?_
 obtain⟨m,T,a,b,rfl,ρ,I,Z,h4,j,o⟩:=V
 have i:=W.t I
 exact Rt rfl (.tup (.cons (.rf rfl) Xa1)) ⟨⟨m,T,Tow.add m a (Tow.neg m b)⟩,rfl,⟨ρ,I,by rw[<-Z,<-h4,<-Xed];exact Xcy⟩,i,by rw[Xav];exact(j.add (Xhf o)).mono (by omega)⟩
theorem Neg_ok(h:NOk G S r p x vx)(i:x.k<=16)(hr:r<=4398046511104)(hp:p<=4398046511104): C0 162 [.d (dN x)] (·=.d (dN ⟨x.k,x.t,Tow.neg x.k x.a⟩)):=by
 refine En Tryz.func162 λ_ _ _=>?_
 refine Ce rfl (Xew h.r h.p i hr hp) ?_
 refine Ce rfl (Xts h.r h.p i hp hr) ?_
 exact R0
theorem Sign_ok(hG:red K G)(h:NOk G S r p x vx)(i:x.k<=16)(j:vB r x.k p<=4398046511104)(hr:vB r x.k r<=4398046511104): C0 82 [.d (dN x)] (·=.d (.int .i64 (sgn K G vx))):=by
 obtain⟨ρ,o,I⟩:=h.ex
 have:=Xdv (r:=r) x.k r
 refine En Tryz.func82 λ_ _ _=>?_
 refine Ce rfl (Xl5 h.r h.p (Xad o.r) i j hr (by omega)) ?_
 rw[h.sgn (Xad hG)]
 exact R0
theorem FromRat_ok{q:Rat}{p:Nat}(hq:Qs p q)(hp:p<=4398046511104): C0 63 [.d (dq q)] (·=.d (dN ⟨0,(),q⟩)):=by
 refine En Tryz.func63 λ_ _ _=>?_
 refine Ce rfl (Xkg hq hp) ?_
 exact R1 rfl (.sd (.pd (.nil rfl) (.lit rfl)))
theorem FromInt_ok{z:Int}(h:-9223372036854775808<=z/\z<9223372036854775808): C0 54 [.d (.int .i64 z)] (·=.d (dN ⟨0,(),(z:Rat)⟩)):=by
 refine En Tryz.func54 λ_ _ _=>?_
 refine Ce rfl (Xau h) ?_
 refine Ce rfl (FromRat_ok (q:=(z:Rat)) (p:=64) (Qs.int (by unfold Zs;omega) (by omega)) (by decide)) ?_
 exact R0
theorem Cmp_ok(W:Wy c G S)(I:NOk G S r p x vx)(O:NOk G S r p y vy)(hp:oW c p<=4398046511104)(i:vB c.R c.H (oW c p)<=4398046511104): C0 85 [.d (dN x),.d (dN y)] (·=.tup (.pr (.d (.int .i64 (sgn K G (Tow.add K vx (Tow.neg K vy))))) (.d (.int .i64 0)))):=by
 refine En Tryz.func85 λ_ _ _=>?_
 refine Ca rfl (Sub_ok W I O hp) λv i=>?_
 obtain⟨z,rfl,j⟩:=i
 have o:=j.le (Xad W.g) W.s
 have Q:=W.k.h
 refine No rfl (by simp) ?_
 refine Ce rfl (Sign_ok W.g j (by omega) (W0m (Xgq o) i) (W0m (Xgq o) W.k.q4)) ?_
 exact RTt rfl (.cons (.rf rfl) Xa1)
theorem Div_ok(W:Wy c G S){q:Nat}(T:NOk G S r q x vx)(j:NOk G S r p y vy)(hq:iS r c.H p<=q)(hi:iB r c.H p<=4398046511104)(hp:oW c q<=4398046511104)(hr:r<=4398046511104):
 C0 308 [.d (dN x),.d (dN y)] λv=>(vy=zero K/\v=.tup (.pr (.d R9.n0) (.d (.int .i64 6))))\/∃w,Tow.mul K G w vy=rat K 1/\R9.OpR c G S (oW c q) (Tow.mul K G vx w) v:=by
 have I:=j.le (Xad W.g) W.s
 have hH:=W.k.h
 obtain⟨ρ,O,Q⟩:=j.ex
 have V:=Yju (r:=r) (p:=p) I
 have Z:=Yfd (r:=r) (p:=p) I
 refine En Tryz.func308 λ_ _ _=>?_
 by_cases h0:y.a=zero y.k
 . refine Ce rfl (Xys j.r j.p (by omega) (by omega) (by omega) (inv_zero h0)) ?_
   refine Yes rfl (by decide) ?_
   exact Rt rfl (.tup (.cons R9.fit0 Xa1)) (.inl ⟨by rw[<-Q,h0,Xd9],rfl⟩)
 . obtain⟨i,o⟩:=(Xcs O.r).2 y.a h0
   refine Ce rfl (Xn4 j.r j.p (by omega) (by omega) (by omega) o) ?_
   refine No rfl (by decide) ?_
   have hz:NOk G S r q ⟨y.k,y.t,i⟩ (ev G ρ y.k i):=⟨⟨ρ,O,rfl⟩,j.r,(Sz.invS j.r j.p o).mono (by omega)⟩
   refine Ca rfl (Mul_ok (y:=⟨y.k,y.t,i⟩) W T hz hp) λv hv=>?_
   obtain⟨z,rfl,h⟩:=hv
   exact Rt rfl (.tup (.cons (.rf rfl) Xa1)) (.inr ⟨ev G ρ y.k i,by rw[<-Q,<-Xa5 O.h,Xce o,Xc7],z,rfl,h⟩)
end
end
end Go.Proofs.YtfjafaehfjjaiaaGreatDoor.P9
namespace Go.Tow
open Go Go.Num Go.Proofs.YtfjafaehfjjaiaaGreatDoor
variable{K:Nat}{G:Tw K}{S:List (El K)}{ρ:Nat->El K}
def Ymc(G:Tw K)(S:List (El K)): Prop:=∀s∈S,∃d:Rat,Qs 64 d/\mul K G s s=rat K d
def FlT: (k:Nat)->Tw k->Prop
 | 0,_=>True
 | k+1,t=>FlT k t.1/\∃d:Rat,Qs 64 d/\t.2=rat k d
theorem Ymc.tow(hG:red K G)(i:Ymc G S): ∀ {m:Nat} {T:Tw m},TOk G S m T ρ->FlT m T
 | 0,_,_=>trivial
 | m+1,T,h=>⟨i.tow hG h.low,by
  obtain⟨d,hd,e⟩:=i _ (h.s m (by omega))
  exact⟨d,hd,Xcx (Xad hG) h.h.1 h.r.1 (by rw[<-h.h.2.1,e,Xc7])⟩⟩
theorem FlT.ts: ∀ {m:Nat} {T:Tw m},FlT m T->TS 65 m T
 | 0,_,_=>trivial
 | m+1,T,⟨h,d,hd,e⟩=>⟨h.ts,by rw[e];exact Sz.rat m hd⟩
theorem Yec{x d:Rat}{p:Nat}(h:Qs p d)(e:x*x=d): Qs p x:=by
 obtain⟨j,o⟩:=Xmo x
 have le:∀n:Nat,n<=n*n:=λn=>by
  rcases n with _ | n
  . exact W0a _
  . exact W4i _ (Nat.succ_pos n)
 subst e
 have i:=h.n
 have hd:=h.d
 rw[j] at i
 rw[o] at hd
 unfold Zs at i hd
 rw[W3s] at i
 exact⟨W1w (le _) i,W1w (le x.den) hd⟩
theorem Xwh{k:Nat}{t:Tw k}{x:El k}(h:add k x x=zero k): x=zero k:=by
 have L:=Xay k t
 have e:add k (rat k (1/2)) (rat k (1/2))=rat k 1:=by rw[<-Xfj];congr 1;decide +kernel
 have i:mul k t (add k x x) (rat k (1/2))=mul k t x (add k (rat k (1/2)) (rat k (1/2))):=(Laws.req L [x,rat k (1/2)] (.mul (.add (.v 0) (.v 0)) (.v 1)) (.mul (.v 0) (.add (.v 1) (.v 1))) (by decide +kernel))
 rw[h,L.zm,e,L.mo] at i
 exact i.symm
theorem mul_zero{k:Nat}{t:Tw k}(hr:red k t){u v:El k}(h:mul k t u v=zero k): u=zero k\/v=zero k:=by
 by_cases h0:u=zero k
 . exact .inl h0
 . obtain⟨i,hi⟩:=(Xcs hr).2 u h0
   have L:=Xay k t
   exact .inr (by rw[<-L.om v,<-Xce hi,L.ma,h,L.mz])
theorem kum: ∀ {k:Nat} {T:Tw k},red k T->FlT k T->∀ {e:El k} {d:Rat} {p:Nat},Qs p d->mul k T e e=rat k d->Sz (p+65*k+k+1) (toL k e)
 | 0,T,_,_,e,d,p,hd,h=>Sz.rat 0 (x:=(e:Rat)) (Yec (x:=(e:Rat)) hd h)
 | k+1,T,i,⟨V,ρ,I,j⟩,(u,v),d,p,hd,h=>by
  have L:=Xay k T.1
  have o:add k (mul k T.1 u u) (mul k T.1 (mul k T.1 v v) T.2)=rat k d:=congrArg Prod.fst h
  have Z:add k (mul k T.1 u v) (mul k T.1 v u)=zero k:=congrArg Prod.snd h
  rw[L.mc v u] at Z
  rcases mul_zero i.1 (Xwh (t:=T.1) Z) with hu | hv
  . have hne:ρ≠0:=λe=>by
     have:=i.2.1
     rw[j,e,Xd3] at this
     rw[(Xbe i.1).2 rfl] at this
     cases this
    have O:mul k T.1 v v=rat k (d*(1/ρ)):=by
     have e:ρ*(1/ρ)=1:=by grind
     rw[hu,L.zm,L.za,j] at o
     rw[Xct k T.1,<-o,L.ma,<-Xct,e]
     exact(L.mo _).symm
    have Q:=kum i.1 V (hd.mul (Qs.inv1 I)) O
    have h5:=(Sz.zero k).append Q
    rw[hu]
    exact h5.mono (by omega)
  . have O:mul k T.1 u u=rat k d:=by rw[hv,L.zm,L.zm,L.az] at o;exact o
    have Q:=kum i.1 V hd O
    have:=Q.append (Sz.zero k)
    rw[hv]
    exact this.mono (by omega)
def fF: Fg:=⟨6,65,λ_=>461,461⟩
theorem Ynv: fF.Ok:=⟨by decide,by decide,λi hi=>W0a _,by decide,by decide +kernel,by decide +kernel,by decide +kernel,by decide +kernel⟩
theorem Ymc.wd(hG:red K G)(I:S.length<=6)(o:Ymc G S): Wy fF G S :=
 ⟨Ynv,hG,I,λh=>(o.tow hG h).ts,λ{m l T u ρ ρu} j O i hi _ e Q=>by
  obtain⟨d,hd,hq⟩:=o _ (O.s i hi)
  have Z:m<=6:=W0m (j.le (Xad hG)) I
  have V:mul m T e e=rat m d:=Xcx (Xad hG) j.h j.r (by rw[Xa5 j.h,Q,hq,Xc7])
  exact(kum j.r (o.tow hG j) hd V).mono (by show 64+65*m+m+1<=461;omega)⟩
theorem Xj9: ∀(D:List Rat),(∀d∈D,Qs 64 d/\0<d)->∃(K:Nat) (G:Tw K) (S:List (El K)),red K G/\S.length<=D.length/\Ymc G S/\∀d∈D,∃s∈S,mul K G s s=rat K d/\sgn K G s=1
 | [],_=>⟨0,(),[],trivial,W0a _,nofun,nofun⟩
 | d::D,h=>by
  obtain⟨K,G,S,hG,hS,Z,hD⟩:=Xj9 D λx i=>h x (W0o _ i)
  obtain⟨hd,I⟩:=h d (W0l ..)
  have j:=Xad hG
  have L:=Xay K G
  have Sg:=Xaq j
  have O:sgn K G (rat K d)=1:=by rw[Xej j,Xcc I]
  by_cases hs:Xcu K G (rat K d)
  . obtain⟨s,hs⟩:=hs
    obtain⟨s,hs,hp⟩:∃s,mul K G s s=rat K d/\sgn K G s=1:=by
     rcases Xb1 G s with h | h | h
     . exact⟨s,hs,h⟩
     . rw[<-hs,Sg.sm,h] at O;cases O
     . exact⟨neg K s,by rw[L.mn,L.nm,L.nn,hs],by rw[Sg.sn,h];rfl⟩
    refine⟨K,G,s::S,hG,Nat.succ_le_succ hS,λx i=>?_,λx i=>?_⟩
    . rcases W1i.1 i with rfl | i
      . exact⟨d,hd,hs⟩
      . exact Z x i
    . rcases W1i.1 i with rfl | i
      . exact⟨s,W0l ..,hs,hp⟩
      . obtain⟨s',Q,T⟩:=hD x i
        exact⟨s',W0o _ Q,T⟩
  . have V:red (K+1) (tsn G (rat K d)):=⟨hG,O,hs⟩
    have o:∀ {s:El K} {x:Rat},mul K G s s=rat K x->mul (K+1) (tsn G (rat K d)) (up K s) (up K s)=rat (K+1) x:=λ{s x} h=>by
     rw[Xip]
     show up K (mul K G s s)=_
     rw[h];rfl
    refine⟨K+1,tsn G (rat K d),rt1 K::S.map (up K),V,by simp;omega,λx i=>?_,λx i=>?_⟩
    . rcases W1i.1 i with rfl | i
      . exact⟨d,hd,Xju⟩
      . obtain⟨s,hs,rfl⟩:=W2l.1 i
        obtain⟨y,hy,e⟩:=Z s hs
        exact⟨y,hy,o e⟩
    . rcases W1i.1 i with rfl | i
      . exact⟨rt1 K,W0l ..,Xju,Xoa (t:=tsn G (rat K _)) j⟩
      . obtain⟨s,Q,T,h3⟩:=hD x i
        exact⟨up K s,W0o _ (W2l.2 ⟨s,Q,rfl⟩),o T,by rw[Xmj _ (show Xb8 K (tsn G (rat K d)).1 from j)];exact h3⟩
end Go.Tow
namespace Go.Proofs.YtfjafaehfjjaiaaGreatDoor
open Go Go.Num Go.Tow
def One(z:Nm): Prop:=z.k<=1/\R9.shN z/\red z.k z.t
theorem One.ok{K:Nat}{G:Tw K}{S:List (El K)}{z:Nm}(h:One z)(hG:red K G)(j:∀d:Rat,toT z.k z.t=[[d]]->∃s∈S,mul K G s s=rat K d/\sgn K G s=1): ∃v,NOk G S 65 129 z v:=by
 obtain⟨k,t,a⟩:=z
 obtain⟨i,hs,o⟩:=h
 have i:k<=1:=i
 rcases(show k=0\/k=1 by omega) with rfl | rfl
 . exact⟨_,⟨λ_=>zero _,⟨trivial,trivial,nofun⟩,rfl⟩,trivial,R9.sh_sz (n:=1) hs.1 (W0a _) (by decide)⟩
 . obtain⟨s,s1,s2,I⟩:=j t.2 rfl
   refine⟨_,⟨λ_=>s,⟨o,⟨trivial,s2,I⟩,λ_ _=>s1⟩,rfl⟩,⟨trivial,R9.sh_sz (n:=1) (hs.2 _ (W0l ..)) (W0a _) (by decide)⟩,R9.sh_sz (n:=2) hs.1 (W0a _) (by decide)⟩
open Classical in
theorem Yox{l:List Nm}(Z:Wld 3 l λ_ _=>True): ∃D:List Rat,D.length<=3/\(∀d∈D,Qs 64 d/\0<d)/\(∀z∈l,red z.k z.t)/\∀z∈l,One z->∀d:Rat,toT z.k z.t=[[d]]->d∈D:=by
 obtain⟨K,G,S,hG,hS,hq,i,_⟩:=Z
 have hGr:=Xad hG
 let P:El K->Rat->Prop:=λs d=>mul K G s s=rat K d/\Qs 64 d/\0<d
 let f:El K->Option Rat:=λs=>if h:∃d,P s d then some h.choose else none
 have hf:∀ {s d},f s=some d->P s d:=λ{s d} h=>by
  by_cases e:∃d,P s d
  . have j:f s=some e.choose:=dif_pos e
    rw[h] at j
    injection j with j
    rw[j];exact e.choose_spec
  . have j:f s=none:=dif_neg e
    rw[h] at j
    cases j
 refine⟨S.filterMap f,W0m (List.length_filterMap_le _ _) hS,λd hd=>?_,λz O=>?_,λz O ho d hd=>?_⟩
 . obtain⟨s,_,h⟩:=List.mem_filterMap.1 hd
   exact(hf h).2
 . obtain⟨v,Q⟩:=i z O
   obtain⟨ρ,o,_⟩:=Q.ex
   exact o.r
 . obtain⟨v,Q⟩:=i z O
   obtain⟨ρ,o,_⟩:=Q.ex
   obtain⟨k,t,a⟩:=z
   obtain⟨T,hs,hr⟩:=ho
   have T:k<=1:=T
   rcases(show k=0\/k=1 by omega) with rfl | rfl
   . cases hd
   . have e:[[(t.2:Rat)]]=[[d]]:=hd
     injection e with e
     injection e with e
     subst e
     have hp:P (ρ 0) t.2:=⟨o.h.2.1,(hs.2 [t.2] (W0l ..) t.2 (W0l ..)).qs,by
      have I:Xji (t.2:Rat)=1:=hr.2.1
      rcases Xbc (t.2:Rat) with ⟨h,e⟩ | ⟨h,e⟩ | ⟨h,e⟩
      . exact h
      . rw[e] at I;cases I
      . rw[e] at I;cases I⟩
     refine List.mem_filterMap.2 ⟨ρ 0,o.s 0 W7o,?_⟩
     have V:∃d,P (ρ 0) d:=⟨_,hp⟩
     show (if h:∃d,P (ρ 0) d then some h.choose else none)=_
     rw[dif_pos V]
     exact congrArg some (Xuq (V.choose_spec.1.symm.trans hp.1))
theorem Ynr{l m:List Nm}(j:Wld 3 l λ_ _=>True)(o:Wld 3 m λ_ _=>True): ∃(K:Nat) (G:Tw K) (S:List (El K)),red K G/\S.length<=6/\Ymc G S/\(∀z∈l++m,red z.k z.t)/\∀z∈l++m,One z->∃v,NOk G S 65 129 z v:=by
 obtain⟨D,d1,d2,I,O⟩:=Yox j
 obtain⟨E,e1,Q,T,V⟩:=Yox o
 obtain⟨K,G,S,hG,Z,hF,hD⟩:=Xj9 (D++E) λd hd=>(W1r.1 hd).elim (d2 d) (Q d)
 refine⟨K,G,S,hG,W0m Z (by rw[W0c];omega),hF,λz h=>(W1r.1 h).elim (I z) (T z),λz h i=>i.ok hG λd hd=>hD d ?_⟩
 rcases W1r.1 h with h | h
 . exact W2m _ (O z h i d hd)
 . exact W1p _ (V z h i d hd)
end Go.Proofs.YtfjafaehfjjaiaaGreatDoor
namespace Go.Tow
open Go Go.Num Go.Proofs.YtfjafaehfjjaiaaGreatDoor
variable{K:Nat}{G:Tw K}{S:List (El K)}{N:List Nm}{n m:Nat}{x y z:Nm}{v w:El K}{r p:Nat}
structure Wn (G:Tw K) (S:List (El K)) (N:List Nm):Prop where
 w:Wy fF G S
 h:∀z∈N,∃ρz,TOk G S z.k z.t ρz
def gB(n:Nat): Nat:=n*20000-4160
theorem fC: cB fF.R fF.H=4158:=by decide +kernel
theorem fV: vB fF.R fF.H 15995840<=4398046511104:=by decide +kernel
theorem fO: oW fF 7995840<=4398046511104:=by decide +kernel
theorem fV1: vB fF.R fF.H (oW fF 7995840)<=4398046511104:=by decide +kernel
theorem fB: iB fF.R fF.H 235840<=4398046511104:=by decide +kernel
theorem fQ: oW fF 31000000<=4398046511104:=by decide +kernel
structure Gd (G:Tw K) (S:List (El K)) (N:List Nm) (n:Nat) (x:Nm) (v:El K):Prop where
 o:NOk G S fF.R (gB n) x v
 g:Gs G S N (gB n) v
 n:1<=n
theorem Yfh(h:n<=m): gB n<=gB m:=by unfold gB;omega
theorem Gd.mono(h:Gd G S N n x v)(i:n<=m): Gd G S N m x v:=⟨h.o.mono (W0a _) (Yfh i),h.g.mono (Yfh i),W0m h.n i⟩
theorem Gd.neg(h:Gd G S N n x v): Gd G S N n ⟨x.k,x.t,Tow.neg x.k x.a⟩ (Tow.neg K v):=⟨h.o.neg,h.g.neg,h.n⟩
theorem Gd.short(W:Wn G S N)(j:z.k<=1)(i:NOk G S 65 129 z v)(o:z∈N): Gd G S N 1 z v:=by
 have h:=(Gs.short W.w i o j).mono (show _<=gB 1 by decide +kernel)
 exact⟨i.re W.w W.h h,h,W0a _⟩
theorem Gd.add(W:Wn G S N)(i:Gd G S N n x v)(j:Gd G S N m y w)(o:NOk G S r p z (Tow.add K v w)): Gd G S N (n+m) z (Tow.add K v w):=by
 have h:=(i.g.add j.g).mono (show _<=gB (n+m) by have:=i.n;have:=j.n;unfold gB;omega)
 exact⟨o.re W.w W.h h,h,W0m i.n (W5o ..)⟩
theorem Gd.mul(W:Wn G S N)(i:Gd G S N n x v)(j:Gd G S N m y w)(o:NOk G S r p z (Tow.mul K G v w)): Gd G S N (n+m) z (Tow.mul K G v w):=by
 have h:=(i.g.mul W.w j.g).mono (show _<=gB (n+m) by rw[fC];have:=i.n;have:=j.n;unfold gB;omega)
 exact⟨o.re W.w W.h h,h,W0m i.n (W5o ..)⟩
theorem fS{p:Nat}: iS fF.R fF.H p=127*p+347887:=by
 show iS 65 6 p=_
 simp only[iS,nS,show cB 65 0=0 by decide,show cB 65 1=66 by decide,show cB 65 2=198 by decide,show cB 65 3=462 by decide,show cB 65 4=990 by decide,show cB 65 5=2046 by decide]
 omega
theorem Gd.inv(W:Wn G S N)(h:Gd G S N m y w)(i:Tow.mul K G v w=Tow.rat K 1): Gs G S N (gB (127*m+1)) v:=(h.g.inv W.w i).mono (by rw[fS];have:=h.n;unfold gB;omega)
theorem Gd.div(W:Wn G S N){u:El K}(i:Gd G S N n x v)(j:Gd G S N m y w)(o:Tow.mul K G u w=Tow.rat K 1)(I:NOk G S r p z (Tow.mul K G v u)): Gd G S N (n+(127*m+1)) z (Tow.mul K G v u):=by
 have h:=(i.g.mul W.w (j.inv W o)).mono (show _<=gB (n+(127*m+1)) by rw[fC];have:=i.n;unfold gB;omega)
 exact⟨I.re W.w W.h h,h,W0m i.n (W5o ..)⟩
theorem Gd.rat(W:Wn G S N){q:Rat}(h:Qs 64 q): Gd G S N 1 ⟨0,(),q⟩ (Tow.rat K q):=by
 have h0:NOk G S 0 65 ⟨0,(),q⟩ (Tow.rat K q):=⟨⟨λ_=>zero _,⟨trivial,trivial,λi hi=>absurd hi (W4r _)⟩,rfl⟩,trivial,Sz.rat 0 h⟩
 have j:Gs G S N (gB 1) (Tow.rat K q):=(Gs.rat h).mono (by decide)
 exact⟨h0.re W.w W.h j,j,W0a _⟩
theorem Gd.le(W:Wn G S N)(h:Gd G S N n x v): x.k<=6:=h.o.le (Xad W.w.g) W.w.s
theorem Gd.op(h:Gd G S N n x v)(i:n<=400): NOk G S fF.R 7995840 x v:=h.o.mono (W0a _) (by unfold gB;omega)
theorem Gd.op1(h:Gd G S N n x v)(i:n<=400): NOk G S fF.R 7995840 x v:=h.o.mono (W0a _) (by unfold gB;omega)
theorem Yhc(W:Wn G S N)(h:Gd G S N n x v)(i:n<=800): vB fF.R x.k (gB n)<=4398046511104:=W0m (W0m (Xgq (h.le W)) (Xc0 (show gB n<=15995840 by unfold gB;omega))) fV
theorem Yhb(W:Wn G S N)(h:Gd G S N n x v): vB fF.R x.k fF.R<=4398046511104:=W0m (Xgq (h.le W)) Ynv.q4
end Go.Tow
namespace Go.Proofs.YtfjafaehfjjaiaaGreatDoor
open Go Go.Vm Go.Num Go.Tow
section
variable{K:Nat}{G:Tw K}{S:List (Tow.El K)}{N:List Nm}{n m:Nat}{x y z:Nm}{v w:Tow.El K}
def OpG(G:Tw K)(S:List (Tow.El K))(N:List Nm)(n:Nat)(w:Tow.El K)(r:AV): Prop:=∃z:Nm,r=.tup (.pr (.d (dN z)) (.d (.int .i64 0)))/\Gd G S N n z w
def OnG(G:Tw K)(S:List (Tow.El K))(N:List Nm)(n:Nat)(w:Tow.El K)(r:AV): Prop:=∃z:Nm,r=.d (dN z)/\Gd G S N n z w
theorem P9.Add_g(W:Wn G S N)(i:Gd G S N n x v)(j:Gd G S N m y w)(o:n<=400)(I:m<=400): C0 29 [.d (dN x),.d (dN y)] (OpG G S N (n+m) (Tow.add K v w)):=(P9.Add_ok W.w (i.op o) (j.op I) fO).mono λ_ ⟨z,e,h⟩=>⟨z,e,i.add W j h⟩
theorem R9.Add_g(W:Wn G S N)(i:Gd G S N n x v)(j:Gd G S N m y w)(o:n<=400)(I:m<=400): C0 32 [.d (dN x),.d (dN y)] (OpG G S N (n+m) (Tow.add K v w)):=(R9.Add_ok W.w (i.op o) (j.op I) fO).mono λ_ ⟨z,e,h⟩=>⟨z,e,i.add W j h⟩
theorem P9.Mul_g(W:Wn G S N)(i:Gd G S N n x v)(j:Gd G S N m y w)(o:n<=400)(I:m<=400): C0 100 [.d (dN x),.d (dN y)] (OpG G S N (n+m) (Tow.mul K G v w)):=(P9.Mul_ok W.w (i.op o) (j.op I) fO).mono λ_ ⟨z,e,h⟩=>⟨z,e,i.mul W j h⟩
theorem R9.Mul_g(W:Wn G S N)(i:Gd G S N n x v)(j:Gd G S N m y w)(o:n<=400)(I:m<=400): C0 123 [.d (dN x),.d (dN y)] (OpG G S N (n+m) (Tow.mul K G v w)):=(R9.Mul_ok W.w (i.op o) (j.op I) fO).mono λ_ ⟨z,e,h⟩=>⟨z,e,i.mul W j h⟩
theorem R9.Sub_g(W:Wn G S N)(i:Gd G S N n x v)(j:Gd G S N m y w)(o:n<=400)(I:m<=400): C0 118 [.d (dN x),.d (dN y)] (OpG G S N (n+m) (Tow.add K v (Tow.neg K w))):=(R9.Sub_ok W.w (i.op o) (j.op I) fO).mono λ_ ⟨z,e,h⟩=>⟨z,e,i.add W j.neg h⟩
theorem P9.Neg_g(W:Wn G S N)(h:Gd G S N n x v)(i:n<=400): C0 162 [.d (dN x)] (OnG G S N n (Tow.neg K v)):=(P9.Neg_ok h.o (by have:=h.le W;omega) (by decide) (by unfold gB;omega)).mono λ_ e=>⟨_,e,h.neg⟩
theorem R9.Neg_g(W:Wn G S N)(h:Gd G S N n x v)(i:n<=400): C0 14 [.d (dN x)] (OnG G S N n (Tow.neg K v)):=(R9.Neg_ok h.o (by have:=h.le W;omega) (by unfold gB;omega)).mono λ_ e=>⟨_,e,h.neg⟩
theorem P9.Sign_g(W:Wn G S N)(h:Gd G S N n x v)(i:n<=800): C0 82 [.d (dN x)] (·=.d (.int .i64 (sgn K G v))):=P9.Sign_ok W.w.g h.o (by have:=h.le W;omega) (Yhc W h i) (Yhb W h)
theorem R9.Sign_g(W:Wn G S N)(h:Gd G S N n x v)(i:n<=800): C0 27 [.d (dN x)] (·=.d (.int .i64 (sgn K G v))):=R9.Sign_ok W.w.g h.o (by have:=h.le W;omega) (Yhc W h i)
theorem P9.Cmp_g(W:Wn G S N)(h:Gd G S N n x v)(i:Gd G S N m y w)(j:n<=400)(o:m<=400): C0 85 [.d (dN x),.d (dN y)] (·=.tup (.pr (.d (.int .i64 (sgn K G (Tow.add K v (Tow.neg K w))))) (.d (.int .i64 0)))):=P9.Cmp_ok W.w (h.op1 j) (i.op1 o) fO fV1
def DvG(G:Tw K)(S:List (Tow.El K))(N:List Nm)(n:Nat)(v w:Tow.El K)(r:AV): Prop:=(w=zero K/\r=.tup (.pr (.d R9.n0) (.d (.int .i64 6))))\/∃u,Tow.mul K G u w=rat K 1/\OpG G S N n (Tow.mul K G v u) r
theorem P9.Div_g(W:Wn G S N)(i:Gd G S N n x v)(j:Gd G S N m y w)(O:n<=190)(V:m<=12): C0 308 [.d (dN x),.d (dN y)] (DvG G S N (n+(127*m+1)) v w):=by
 have hi:iB fF.R fF.H (gB m)<=4398046511104:=W0m (Xi0 (W0a _) (show gB m<=235840 by unfold gB;omega)) fB
 have hq:iS fF.R fF.H (gB m)<=31000000:=by rw[fS];unfold gB;omega
 refine(P9.Div_ok W.w ((i.op1 (W0m O (by decide))).mono (W0a _) (by decide)) j.o hq hi fQ (by decide)).mono λr Q=>?_
 rcases Q with h | ⟨u,I,z,e,T⟩
 . exact .inl h
 . exact .inr ⟨u,I,z,e,i.div W j I T⟩
end
end Go.Proofs.YtfjafaehfjjaiaaGreatDoor
namespace Go.Tow
open Go
abbrev V2(K:Nat):=El K×El K
section
variable{K:Nat}{G:Tw K}{p q:V2 K}
def Xgo(G:Tw K)(p q:V2 K): El K:=add K (mul K G p.1 q.1) (mul K G p.2 q.2)
def Xb9(G:Tw K)(p q:V2 K): El K:=Xgo G (neg K p.2,p.1) q
def Xb7(G:Tw K)(p q:V2 K): V2 K:=(add K (mul K G p.1 q.1) (neg K (mul K G p.2 q.2)),add K (mul K G p.1 q.2) (mul K G p.2 q.1))
def Xn0(p:V2 K): V2 K:=(p.1,neg K p.2)
def vz(K:Nat): V2 K:=(zero K,zero K)
def vup(G:Tw K)(p:V2 K): Prop:=0<sgn K G p.2\/(sgn K G p.2=0/\0<sgn K G p.1)
instance:Decidable (vup G p):=by unfold vup;infer_instance
def Xcz(G:Tw K)(p:V2 K): Prop:=sgn K G p.2=0/\0<sgn K G p.1
def Xr0(G:Tw K)(p q:V2 K): Int:=if vup G p↔vup G q then-sgn K G (Xb9 G p q) else if vup G p then -1 else 1
theorem Ybg: Xgo G (Xn0 p) q=(Xb7 G p q).1:=by
 have L:=Xay K G
 show add K (mul K G p.1 q.1) (mul K G (neg K p.2) q.2)=add K (mul K G p.1 q.1) (neg K (mul K G p.2 q.2))
 rw[L.nm]
theorem Ybf: Xb9 G (Xn0 p) q=(Xb7 G p q).2:=by
 have L:=Xay K G
 show add K (mul K G (neg K (neg K p.2)) q.1) (mul K G p.1 q.2)=add K (mul K G p.1 q.2) (mul K G p.2 q.1)
 rw[L.nn,L.ac]
theorem Xh5(hG:red K G): p=vz K↔sgn K G p.1=0/\sgn K G p.2=0:=by
 rw[Xbe hG,Xbe hG]
 exact⟨λh=>by rw[h];exact⟨rfl,rfl⟩,λh=>W3i h.1 h.2⟩
theorem vsq(hG:red K G)(h:sgn K G (Xgo G p p)=0): p=vz K:=by
 have Sg:=Xaq (Xad hG)
 have i:=Xdl (Sg.tri p.1)
 have j:=Xdl (Sg.tri p.2)
 rw[Xh5 hG]
 have o:=Sg.sm p.1 p.1
 have I:=Sg.sm p.2 p.2
 have L:=Xay K G
 by_cases O:sgn K G p.1=0
 . refine⟨O,W1b λQ=>?_⟩
   have:=Sg.sp (mul K G p.2 p.2) (mul K G p.1 p.1) (by rw[I];exact j.2.1 Q) (by rw[o];exact i.1)
   rw[L.ac] at this
   rw[show add K (mul K G p.1 p.1) (mul K G p.2 p.2)=Xgo G p p from rfl,h] at this
   cases this
 . have:=Sg.sp (mul K G p.1 p.1) (mul K G p.2 p.2) (by rw[o];exact i.2.1 O) (by rw[I];exact j.1)
   rw[show add K (mul K G p.1 p.1) (mul K G p.2 p.2)=Xgo G p p from rfl,h] at this
   cases this
theorem Ydl: Xgo G (Xb7 G p q) (Xb7 G p q)=mul K G (Xgo G p p) (Xgo G q q):=by
 obtain⟨a,b⟩:=p
 obtain⟨c,d⟩:=q
 have L:=Xay K G
 exact(Laws.req L [a,b,c,d] (.add (.mul (.add (.mul (.v 0) (.v 2)) (.neg (.mul (.v 1) (.v 3)))) (.add (.mul (.v 0) (.v 2)) (.neg (.mul (.v 1) (.v 3))))) (.mul (.add (.mul (.v 0) (.v 3)) (.mul (.v 1) (.v 2))) (.add (.mul (.v 0) (.v 3)) (.mul (.v 1) (.v 2))))) (.mul (.add (.mul (.v 0) (.v 0)) (.mul (.v 1) (.v 1))) (.add (.mul (.v 2) (.v 2)) (.mul (.v 3) (.v 3)))) (by decide +kernel))
theorem Xh6(hG:red K G)(hp:p≠vz K)(hq:q≠vz K): Xb7 G p q≠vz K:=λh=>by
 have Sg:=Xaq (Xad hG)
 have L:=Xay K G
 have h0:sgn K G (Xgo G (Xb7 G p q) (Xb7 G p q))=0:=by
  rw[h]
  show sgn K G (add K (mul K G (zero K) (zero K)) (mul K G (zero K) (zero K)))=0
  rw[L.mz,L.az,Xbe hG]
 rw[Ydl,Sg.sm] at h0
 rcases W7t.1 h0 with h | h
 . exact hp (vsq hG h)
 . exact hq (vsq hG h)
theorem Xta(hG:red K G): Xr0 G p p=0:=by
 obtain⟨a,b⟩:=p
 have L:=Xay K G
 unfold Xr0
 rw[if_pos W4d,show Xb9 G (a,b) (a,b)=zero K from(Laws.req L [a,b] (.add (.mul (.neg (.v 1)) (.v 0)) (.mul (.v 0) (.v 1))) .z (by decide +kernel)),(Xaq (Xad hG)).s0 L]
 rfl
def Xec(G:Tw K)(p q:V2 K)(f g:Int): Int:=if Xr0 G (Xb7 G p q) p<0 then f+g+1 else f+g
end
end Go.Tow
namespace Go.Proofs.YtfjafaehfjjaiaaGreatDoor
open Go Go.Vm Go.Num Go.Tow
section
structure Vn where
 x:Nm
 y:Nm
abbrev dV(v:Vn): D:=.st (.pr (dN v.x) (dN v.y))
abbrev dVs(l:List Vn): D:=.sl 4 (l.map dV)
abbrev n00: Nm:=⟨0,(),((0:Int):Rat)⟩
structure Gv {K:Nat} (G:Tw K) (S:List (Tow.El K)) (N:List Nm) (n:Nat) (v:Vn) (p:V2 K):Prop where
 x:Gd G S N n v.x p.1
 y:Gd G S N n v.y p.2
def IsB(r:AV): Prop:=∃c:Bool,r=.b c
section
variable{K:Nat}{G:Tw K}{S:List (Tow.El K)}{N:List Nm}{n m:Nat}{x y z:Nm}{a b v w:Tow.El K}{u s:Vn}{p q:V2 K}
theorem Gv.mono(h:Gv G S N n u p)(i:n<=m): Gv G S N m u p:=⟨h.x.mono i,h.y.mono i⟩
def VeG(G:Tw K)(S:List (Tow.El K))(N:List Nm)(n:Nat)(p:V2 K)(r:AV): Prop:=∃v:Vn,r=.d (dV v)/\Gv G S N n v p
def VoG(G:Tw K)(S:List (Tow.El K))(N:List Nm)(n:Nat)(p:V2 K)(r:AV): Prop:=∃v:Vn,r=.tup (.pr (.d (dV v)) (.d (.int .i64 0)))/\Gv G S N n v p
theorem R9.Cmp_g(W:Wn G S N)(h:Gd G S N n x v)(i:Gd G S N m y w)(I:n<=400)(O:m<=400): C0 64 [.d (dN x),.d (dN y)] (·=.tup (.pr (.d (.int .i64 (sgn K G (Tow.add K v (Tow.neg K w))))) (.d (.int .i64 0)))):=by
 refine En Tryz.func64 λ_ _ _=>?_
 refine Ca rfl (R9.Sub_g W h i (by omega) (by omega)) λv j=>?_
 obtain⟨z,rfl,o⟩:=j
 refine No rfl (by simp) ?_
 refine Ce rfl (R9.Sign_g W o (by omega)) ?_
 exact RTt rfl (.cons (.rf rfl) Xa1)
theorem R9.Equal_g(W:Wn G S N)(i:Gd G S N n x v)(j:Gd G S N m y w)(o:n<=400)(I:m<=400): C0 22 [.d (dN x),.d (dN y)] (·=.b (dc (v=w))):=by
 refine En Tryz.func22 λ_ _ _=>?_
 refine Ce rfl (R9.Cmp_g W i j o I) ?_
 refine Yes rfl (by simp) ?_
 have e:sgn K G (Tow.add K v (Tow.neg K w))=0↔v=w:=by
  rw[Xbe W.w.g]
  exact⟨λh=>(Xay K G).sub0 h,λh=>(Xay K G).sb h⟩
 exact R1 rfl (.bp (Xaj.trans e))
theorem R9.Valid_g(W:Wn G S N)(h:Gd G S N n x v)(O:n<=800): C0 81 [.d (dN x)] (·=.b true):=by
 have I:=h.le W
 obtain⟨ρ,i,Q⟩:=h.o.ex
 have j:=W.w.t i
 have q2:=W0m (Xoi (r:=fF.R) (p:=fF.R) I) Ynv.q2
 refine En Tryz.func81 λ_ _ _=>?_
 refine Yes rfl (by rw[lt',Xaa];omega) ?_
 refine Ce rfl (R6.Formed_ok (TS.pt j) (by decide) h.o.p.ps (by unfold gB;omega) (by rw[Xaa];omega) (by rw[Xab,Xaa])) ?_
 refine Yes rfl rfl ?_
 refine Ce rfl (R8.Reduced_ok j i.r (by omega) q2 (Yhb W h)) ?_
 exact R0
theorem R9.Light_ok{x:Nm}(Q:x.k<=16): C0 202 [.d (dN x)] IsB:=by
 obtain⟨k,t,a⟩:=x
 have Q:k<=16:=Q
 have hp:=p16 Q
 have T:=Xab k a
 have V:=Xaa k t
 refine En Tryz.func202 λ_ _ _=>?_
 refine Lo (λi:Nat=>[(1,.ptr 1 0),(3,.d (.int .i64 i))]) (λ_=>[(1,.var (.d (dN ⟨k,t,a⟩)))]) (λi=>i<=2^k) (λi=>2^k-i) 0 [] rfl (W0w _) λi hi=>?_
 refine By rfl (λh=>?_) λh=>?_
 . have h:(i:Int)<(((toL k a).map dq).length:Nat):=h
   rw[lq,T] at h
   obtain⟨x,I⟩:=qat (l:=toL k a) (k:=i) (by omega)
   refine Ix i rfl (mp I) ?_
   refine By rfl (λo=>?_) λo=>?_
   . exact Rt rfl (.one (.rf rfl) rfl rfl) ⟨_,rfl⟩
   . refine Ix i rfl (mp I) ?_
     refine By rfl (λZ=>?_) λZ=>?_
     . exact Rt rfl (.one (.rf rfl) rfl rfl) ⟨_,rfl⟩
     . refine Ar (i+1:Nat) rfl ?_
       exact Bk (i+1) [] rfl (show i+1<=2^k by omega) (by show 2^k-(i+1)<2^k-i;omega)
 refine Lo (λi:Nat=>[(1,.ptr 1 0),(4,.d (.int .i64 i))]) (λ_=>[(1,.var (.d (dN ⟨k,t,a⟩)))]) (λi=>i<=k) (λi=>k-i) 0 [] rfl (W0w _) λi hi=>?_
 refine By rfl (λh=>?_) λh=>?_
 . have h:(i:Int)<(((toT k t).map dqs).length:Nat):=h
   rw[lt',V] at h
   obtain⟨l,O⟩:∃l,(toT k t)[i]?=some l:=⟨_,W0e (by omega)⟩
   obtain⟨e,e1,_,_⟩:=Tw.at (t:=t) (show i<k by omega)
   obtain rfl:l=toL i e:=by rw[O] at e1;injection e1
   have hll:=Xab i e
   have hpi:=p16 (show i<=16 by omega)
   refine Lo (λj:Nat=>[(1,.ptr 1 0),(4,.d (.int .i64 i)),(5,.d (.int .i64 j))]) (λ_=>[(1,.var (.d (dN ⟨k,t,a⟩)))]) (λj=>j<=2^i) (λj=>2^i-j) 0 [] rfl (W0w _) λj hj=>?_
   refine Ix i rfl (mp O) ?_
   refine By rfl (λo=>?_) λo=>?_
   . have o:(j:Int)<(((toL i e).map dq).length:Nat):=o
     rw[lq,hll] at o
     obtain⟨x,I⟩:=qat (l:=toL i e) (k:=j) (by omega)
     refine Ix i rfl (mp O) ?_
     refine Ix j rfl (mp I) ?_
     refine By rfl (λo=>?_) λo=>?_
     . exact Rt rfl (.one (.rf rfl) rfl rfl) ⟨_,rfl⟩
     . refine Ix i rfl (mp O) ?_
       refine Ix j rfl (mp I) ?_
       refine By rfl (λZ=>?_) λZ=>?_
       . exact Rt rfl (.one (.rf rfl) rfl rfl) ⟨_,rfl⟩
       . refine Ar (j+1:Nat) rfl ?_
         exact Bk (j+1) [] rfl (show j+1<=2^i by omega) (by show 2^i-(j+1)<2^i-j;omega)
   . refine Ar (i+1:Nat) rfl ?_
     exact Bk (i+1) [] rfl (show i+1<=k by omega) (by show k-(i+1)<k-i;omega)
 . exact Rt rfl (.one (.rf rfl) rfl rfl) ⟨_,rfl⟩
theorem R9.All_ok{l:List Nm}(o:∀z∈l,z.k<=16)(Q:l.length<=1000): C0 121 [.d (dNs l)] IsB:=by
 refine En Tryz.func121 λ_ _ _=>?_
 refine Lo (λi:Nat=>[(0,.d (dNs l)),(3,.d (.int .i64 i))]) (λ_=>[]) (λi=>i<=l.length) (λi=>l.length-i) 0 [] rfl (W0w _) λi hi=>?_
 refine By rfl (λh=>?_) λh=>?_<;>simp only[W0i] at h
 . obtain⟨z,j⟩:∃z,l[i]?=some z:=⟨_,W0e (by omega)⟩
   refine Ix i rfl (mp j) ?_
   refine Ca rfl (R9.Light_ok (o z (W0h j))) λv I=>?_
   obtain⟨c,rfl⟩:=I
   refine By rfl (λO=>?_) λO=>?_
   . exact Rt rfl (.one (.rf rfl) rfl rfl) ⟨_,rfl⟩
   . refine Ar (i+1:Nat) rfl ?_
     exact Bk (i+1) [] rfl (show i+1<=l.length by omega) (by show l.length-(i+1)<l.length-i;omega)
 . exact Rt rfl (.one (.rf rfl) rfl rfl) ⟨_,rfl⟩
theorem R9.At_ok{l:List Nm}{i:Nat}(hi:i<256)(o:l.length<=1000): C0 122 [.d (dNs l),.d (.int .i64 i)] λv=>∃z∈n00::l,v=.d (dN z):=by
 refine En Tryz.func122 λ_ _ _=>?_
 refine By rfl (λh=>?_) λh=>?_<;>simp only[W0i] at h
 . refine Ce rfl (R9.FromInt_ok (z:=0) (by decide)) ?_
   exact Rt rfl (.one (.rf rfl) rfl rfl) ⟨_,W0l ..,rfl⟩
 . refine No rfl (by omega) ?_
   obtain⟨z,j⟩:∃z,l[i%l.length]?=some z:=⟨_,W0e (W1s _ (by omega))⟩
   refine Ar (i%l.length:Nat) rfl ?_ (by rw[W0i];exact R9.remN (by omega))
   refine Ix (i%l.length) rfl (mp j) ?_
   exact Rt rfl (.one (.rf rfl) rfl rfl) ⟨z,W0o _ (W0h j),rfl⟩
end
end
section
section
variable{K:Nat}{G:Tw K}{S:List (Tow.El K)}{N:List Nm}{n m:Nat}{x y z:Nm}{a b:Tow.El K}{u s:Vn}{p q:V2 K}
theorem R13.Left_g(W:Wn G S N)(h:Gv G S N n u p)(i:n<=400): C0 159 [.d (dV u)] (VeG G S N n (neg K p.2,p.1)):=by
 refine En Tryz.func159 λ_ _ _=>?_
 refine Dw rfl ?_
 refine Ca rfl (R9.Neg_g W h.y i) λv j=>?_
 obtain⟨z,rfl,o⟩:=j
 exact Rt rfl (.one (.rf rfl) rfl rfl) ⟨⟨z,u.x⟩,rfl,o,h.x⟩
theorem R13.Dot_g(W:Wn G S N)(i:Gv G S N n u p)(hs:Gv G S N m s q)(j:n<=400)(o:m<=400)(I:n+m<=400): C0 97 [.d (dV u),.d (dV s)] (OpG G S N (n+m+(n+m)) (Xgo G p q)):=by
 refine En Tryz.func97 λ_ _ _=>?_
 refine Ca rfl (R9.Mul_g W i.x hs.x j o) λv h=>?_
 obtain⟨z,rfl,O⟩:=h
 refine Ca rfl (R9.Mul_g W i.y hs.y j o) λv h=>?_
 obtain⟨w,rfl,Q⟩:=h
 refine No rfl (by simp) ?_
 refine No rfl (by simp) ?_
 refine Ca rfl (R9.Add_g W O Q I I) λv h=>?_
 obtain⟨r,rfl,T⟩:=h
 exact Rt rfl (.tup (.cons (.rf rfl) Xa1)) ⟨r,rfl,T⟩
theorem R13.Cross_g(W:Wn G S N)(j:Gv G S N n u p)(hs:Gv G S N m s q)(i:n<=400)(o:m<=400)(I:n+m<=400): C0 98 [.d (dV u),.d (dV s)] (OpG G S N (n+m+(n+m)) (Xb9 G p q)):=by
 refine En Tryz.func98 λ_ _ _=>?_
 refine Dw rfl ?_
 refine Ca rfl (R13.Left_g W j i) λv h=>?_
 obtain⟨r,rfl,O⟩:=h
 refine Ca rfl (R13.Dot_g W O hs i o I) λv h=>?_
 obtain⟨z,rfl,Q⟩:=h
 exact Rt rfl (.tup (.cons (.rf rfl) Xa1)) ⟨z,rfl,Q⟩
theorem R13.Zero_g(W:Wn G S N)(j:Gv G S N n u p)(o:n<=800): C0 49 [.d (dV u)] (·=.b (dc (p=vz K))):=by
 refine En Tryz.func49 λ_ _ _=>?_
 refine Ce rfl (R9.Sign_g W j.x o) ?_
 refine By rfl (λh=>?_) λh=>?_
 . refine Ce rfl (R9.Sign_g W j.y o) ?_
   exact R1 rfl (.bp (Xaj.trans ⟨λi=>(Xh5 W.w.g).2 ⟨h,i⟩,λi=>((Xh5 W.w.g).1 i).2⟩))
 . exact R1 rfl (.bp ⟨nofun,λi=>absurd ((Xh5 W.w.g).1 i).1 h⟩)
theorem R13.Valid_g(W:Wn G S N)(h:Gv G S N n u p)(i:n<=800): C0 65 [.d (dV u)] (·=.b true):=by
 refine En Tryz.func65 λ_ _ _=>?_
 refine Ce rfl (R9.Valid_g W h.x i) ?_
 refine Yes rfl rfl ?_
 refine Ce rfl (R9.Valid_g W h.y i) ?_
 exact R0
theorem R13.Make_ok{i j:Rat}: C0 44 [.d (dq i),.d (dq j)] (·=.d (dV ⟨⟨0,(),i⟩,⟨0,(),j⟩⟩)):=by
 refine En Tryz.func44 λ_ _ _=>?_
 refine Dw rfl ?_
 refine Ce rfl R9.FromRat_ok ?_
 refine Ce rfl R9.FromRat_ok ?_
 exact R0
theorem R13.Whole_ok{i j:Int}(hi:-9223372036854775808<=i/\i<9223372036854775808)(h:-9223372036854775808<=j/\j<9223372036854775808): C0 15 [.d (.int .i64 i),.d (.int .i64 j)] (·=.d (dV ⟨⟨0,(),(i:Rat)⟩,⟨0,(),(j:Rat)⟩⟩)):=by
 refine En Tryz.func15 λ_ _ _=>?_
 refine Ce rfl (R2.FromInt_ok hi) ?_
 refine Ce rfl (R2.FromInt_ok h) ?_
 refine Ce rfl R13.Make_ok ?_
 exact R0
abbrev cal: Ob:=.var (.d (.st (.int .i64 0)))
theorem R15.note_ok: CN0 157 [.ptr 1000001 0,.d (.int .i64 0)] [(1000001,cal)] (λ_=>True):=by
 refine EnW Tryz.func157 λ_ _ _ _=>?_
 refine Yes rfl (by decide) ?_
 exact Rw [] [(1000001,cal)] rfl (.tup (.one (.rf rfl) (λ_ _ e=>by cases e) (λ_ _ e=>by cases e))) ⟨rfl,trivial⟩
theorem R15.num_ok{x:Nm}: CN0 96 [.ptr 1000001 0,.d (dN x),.d (.int .i64 0)] [(1000001,cal)] (·=.d (dN x)):=by
 refine EnW Tryz.func96 λ_ _ _ _=>?_
 refine Cn [] rfl R15.note_ok λv h=>?_
 refine No rfl (by decide) ?_
 exact Rw [] [(1000001,cal)] rfl (.one (.rf rfl) rfl rfl) ⟨rfl,rfl⟩
theorem R15.Add_g(W:Wn G S N)(i:Gd G S N n x a)(j:Gd G S N m y b)(o:n<=400)(I:m<=400): CN0 68 [.ptr 1000001 0,.d (dN x),.d (dN y)] [(1000001,cal)] (OnG G S N (n+m) (Tow.add K a b)):=by
 refine EnW Tryz.func68 λ_ _ _ _=>?_
 refine Ca rfl (R9.Add_g W i j o I) λv h=>?_
 obtain⟨z,rfl,O⟩:=h
 refine Cn [] rfl R15.num_ok λv h=>?_
 subst h
 exact Rw [] [(1000001,cal)] rfl (.one (.rf rfl) rfl rfl) ⟨rfl,z,rfl,O⟩
theorem R15.Sub_g(W:Wn G S N)(i:Gd G S N n x a)(j:Gd G S N m y b)(o:n<=400)(I:m<=400): CN0 282 [.ptr 1000001 0,.d (dN x),.d (dN y)] [(1000001,cal)] (OnG G S N (n+m) (Tow.add K a (Tow.neg K b))):=by
 refine EnW Tryz.func282 λ_ _ _ _=>?_
 refine Ca rfl (R9.Sub_g W i j o I) λv h=>?_
 obtain⟨z,rfl,O⟩:=h
 refine Cn [] rfl R15.num_ok λv h=>?_
 subst h
 exact Rw [] [(1000001,cal)] rfl (.one (.rf rfl) rfl rfl) ⟨rfl,z,rfl,O⟩
theorem R15.Mul_g(W:Wn G S N)(i:Gd G S N n x a)(j:Gd G S N m y b)(o:n<=400)(I:m<=400): CN0 283 [.ptr 1000001 0,.d (dN x),.d (dN y)] [(1000001,cal)] (OnG G S N (n+m) (Tow.mul K G a b)):=by
 refine EnW Tryz.func283 λ_ _ _ _=>?_
 refine Ca rfl (R9.Mul_g W i j o I) λv h=>?_
 obtain⟨z,rfl,O⟩:=h
 refine Cn [] rfl R15.num_ok λv h=>?_
 subst h
 exact Rw [] [(1000001,cal)] rfl (.one (.rf rfl) rfl rfl) ⟨rfl,z,rfl,O⟩
theorem R15.Cross_g(W:Wn G S N)(i:Gv G S N n u p)(hs:Gv G S N m s q)(j:n<=400)(o:m<=400)(I:n+m<=400): CN0 52 [.ptr 1000001 0,.d (dV u),.d (dV s)] [(1000001,cal)] (OnG G S N (n+m+(n+m)) (Xb9 G p q)):=by
 refine EnW Tryz.func52 λ_ _ _ _=>?_
 refine Ca rfl (R13.Cross_g W i hs j o I) λv h=>?_
 obtain⟨z,rfl,O⟩:=h
 refine Cn [] rfl R15.num_ok λv h=>?_
 subst h
 exact Rw [] [(1000001,cal)] rfl (.one (.rf rfl) rfl rfl) ⟨rfl,z,rfl,O⟩
end
end
section
abbrev dT(v:Vn)(f:Int): D:=.st (.pr (dV v) (.int .i64 f))
abbrev dT0: D:=.st (.pr (.st (.pr R9.n0 R9.n0)) (.int .i64 0))
theorem Xsn{g:Hp}{K:Hpl}: Fit g K (.st (.pr (.st (.pr (.st (.pr .nil .nil)) (.st (.pr .nil .nil)))) (.d (.int .i64 0)))) (.d dT0):=.sd (.pd (.sd (.pd R9.fit0 R9.fit0)) (.rf rfl))
def lim(f:Int): Prop:=-1000000<=f/\f<=1000000
instance {f:Int}:Decidable (lim f):=by unfold lim;infer_instance
def few(f:Int): Prop:=-1000000000<=f/\f<=1000000000
theorem lim.few{f:Int}(h:lim f): few f:=by unfold lim at h;unfold Proofs.YtfjafaehfjjaiaaGreatDoor.few;omega
def Ygs{K:Nat}(G:Tw K)(p q:V2 K)(f g:Int): Int:=if f<g then -1 else if f>g then 1 else Xr0 G p q
section
variable{K:Nat}{G:Tw K}{S:List (Tow.El K)}{N:List Nm}{n m:Nat}{x y z:Nm}{a b:Tow.El K}{u s:Vn}{p q:V2 K}{f g:Int}
def TuG(G:Tw K)(S:List (Tow.El K))(N:List Nm)(n:Nat)(p:V2 K)(f:Int)(r:AV): Prop:=(lim f/\∃v,r=.tup (.pr (.d (dT v f)) (.d (.int .i64 0)))/\Gv G S N n v p)\/(¬lim f/\r=.tup (.pr (.d dT0) (.d (.int .i64 3))))
theorem R19.Valid_g(W:Wn G S N)(o:Gv G S N n u p)(I:n<=800): C0 46 [.d (dT u f)] (·=.b (dc (p≠vz K/\lim f))):=by
 refine En Tryz.func46 λ_ _ _=>?_
 refine Ce rfl (R13.Zero_g W o I) ?_
 refine By rfl (λh=>?_) λh=>?_
 . have h:p≠vz K:=by simpa [Xap,Xaj] using h
   refine By rfl (λj=>?_) λj=>?_
   . exact R1 rfl (.bp (Xaj.trans ⟨λi=>⟨h,j,i⟩,λi=>i.2.2⟩))
   . exact R1 rfl (.bp ⟨nofun,λi=>absurd i.2.1 j⟩)
 . have h:p=vz K:=by simpa [Xap,Xaj] using h
   exact R1 rfl (.bp ⟨nofun,λi=>absurd h i.1⟩)
theorem R19.half_g(W:Wn G S N)(o:Gv G S N n u p)(I:n<=800): C0 195 [.d (dV u)] (·=.d (.int .i64 (if vup G p then 0 else 1))):=by
 refine En Tryz.func195 λ_ _ _=>?_
 refine Ce rfl (R9.Sign_g W o.y I) ?_
 refine By rfl (λh=>?_) λh=>?_
 . rw[if_pos (show vup G p from .inl h)];exact R0
 . refine By rfl (λi=>?_) λi=>?_
   . refine Ce rfl (R9.Sign_g W o.x I) ?_
     refine By rfl (λj=>?_) λj=>?_
     . rw[if_pos (show vup G p from .inr ⟨i,j⟩)];exact R0
     . rw[if_neg (show ¬vup G p from λe=>e.elim h λe=>j e.2)];exact R0
   . rw[if_neg (show ¬vup G p from λe=>e.elim h λe=>i e.1)];exact R0
theorem R19.order_g(W:Wn G S N)(j:Gv G S N n u p)(hs:Gv G S N m s q)(I:n<=400)(O:m<=400)(i:n+m<=400): CN0 119 [.ptr 1000001 0,.d (dV u),.d (dV s)] [(1000001,cal)] (·=.d (.int .i64 (Xr0 G p q))):=by
 refine EnW Tryz.func119 λ_ _ _ _=>?_
 refine Dw rfl ?_
 refine Ce rfl (R19.half_g W j (by omega)) ?_
 refine Ce rfl (R19.half_g W hs (by omega)) ?_
 refine By rfl (λh=>?_) λh=>?_
 . refine Dw rfl ?_
   refine Ce rfl (R19.half_g W j (by omega)) ?_
   refine Ce rfl (R19.half_g W hs (by omega)) ?_
   refine Ar (Xr0 G p q) rfl ?_ (by
    unfold Xr0
    by_cases o:vup G p<;>by_cases i:vup G q<;>simp[o,i] at h |-<;>rfl)
   exact Rw [] [(1000001,cal)] rfl (.one (.rf rfl) rfl rfl) ⟨rfl,rfl⟩
 . refine Cn [] rfl (R15.Cross_g W j hs I O i) λv Q=>?_
   obtain⟨z,rfl,T⟩:=Q
   refine Ce rfl (R9.Sign_g W T (by omega)) ?_
   have hi:vup G p↔vup G q:=by
    by_cases o:vup G p<;>by_cases i:vup G q<;>simp[o,i] at h |-
   have V:=Xb1 G (Xb9 G p q)
   refine Ne (Xr0 G p q) rfl ?_ (by
    unfold Xr0
    rw[if_pos hi]
    exact wr (Int.zero_sub _) (by simp only[inK];omega))
   exact Rw [] [(1000001,cal)] rfl (.one (.rf rfl) rfl rfl) ⟨rfl,rfl⟩
theorem R19.product_g(W:Wn G S N)(i:Gv G S N n u p)(hs:Gv G S N m s q)(j:n+m<=400): CN0 222 [.ptr 1000001 0,.d (dV u),.d (dV s)] [(1000001,cal)] (VeG G S N (n+m+(n+m)) (Xb7 G p q)):=by
 refine EnW Tryz.func222 λ_ _ _ _=>?_
 refine Dw rfl ?_
 refine Cn [] rfl (R15.Mul_g W i.x hs.x (by omega) (by omega)) λv h=>?_
 obtain⟨z1,rfl,I⟩:=h
 refine Cn [] rfl (R15.Mul_g W i.y hs.y (by omega) (by omega)) λv h=>?_
 obtain⟨z2,rfl,o⟩:=h
 refine Cn [] rfl (R15.Sub_g W I o j j) λv h=>?_
 obtain⟨O,rfl,Q⟩:=h
 refine Cn [] rfl (R15.Mul_g W i.x hs.y (by omega) (by omega)) λv h=>?_
 obtain⟨z4,rfl,T⟩:=h
 refine Cn [] rfl (R15.Mul_g W i.y hs.x (by omega) (by omega)) λv h=>?_
 obtain⟨z5,rfl,V⟩:=h
 refine Cn [] rfl (R15.Add_g W T V j j) λv h=>?_
 obtain⟨Z,rfl,h6⟩:=h
 exact Rw [] [(1000001,cal)] rfl (.one (.rf rfl) rfl rfl) ⟨rfl,⟨O,Z⟩,rfl,Q,h6⟩
theorem R19.sum_g(W:Wn G S N)(j:Gv G S N n u p)(hs:Gv G S N m s q)(o:n+m+(n+m)+n<=400)(hf:few f)(I:few g): CN0 137 [.ptr 1000001 0,.d (dT u f),.d (dT s g)] [(1000001,cal)] (λr=>∃v,r=.d (dT v (Xec G p q f g))/\Gv G S N (n+m+(n+m)) v (Xb7 G p q)):=by
 unfold few at hf I
 refine EnW Tryz.func137 λ_ _ _ _=>?_
 refine Cn [] rfl (R19.product_g W j hs (by omega)) λv i=>?_
 obtain⟨d,rfl,hd⟩:=i
 refine Ar (f+g) rfl ?_ (wr rfl (by simp only[inK];omega))
 refine Yes rfl (by decide) ?_
 refine Cn [] rfl (R19.order_g W hd j (by omega) (by omega) o) λv i=>?_
 subst i
 refine By rfl (λh=>?_) λh=>?_
 . refine Ar (f+g+1) rfl ?_ (wr rfl (by simp only[inK];omega))
   exact Rw [] [(1000001,cal)] rfl (.one (.rf rfl) rfl rfl) ⟨rfl,d,by rw[Xec,if_pos h],hd⟩
 . exact Rw [] [(1000001,cal)] rfl (.one (.rf rfl) rfl rfl) ⟨rfl,d,by rw[Xec,if_neg h],hd⟩
theorem R19.result_g(j:Gv G S N n u p): CN0 50 [.ptr 1000001 0,.d (dT u f)] [(1000001,cal)] (TuG G S N n p f):=by
 refine EnW Tryz.func50 λ_ _ _ _=>?_
 refine No rfl (by decide) ?_
 refine By rfl (λh=>?_) λh=>?_
 . exact Rw [] [(1000001,cal)] rfl (.tup (.cons Xsn Xa1)) ⟨rfl,.inr ⟨λi=>by unfold lim at i;omega,rfl⟩⟩
 . refine By rfl (λi=>?_) λi=>?_
   . exact Rw [] [(1000001,cal)] rfl (.tup (.cons Xsn Xa1)) ⟨rfl,.inr ⟨λi=>by unfold lim at i;omega,rfl⟩⟩
   . exact Rw [] [(1000001,cal)] rfl (.tup (.cons (.rf rfl) Xa1)) ⟨rfl,.inl ⟨by unfold lim;omega,u,rfl,j⟩⟩
theorem R19.Add_g(W:Wn G S N)(j:Gv G S N n u p)(hs:Gv G S N m s q)(o:n+m+(n+m)+n<=400)(hf:few f)(I:few g): C0 80 [.d (dT u f),.d (dT s g)] (TuG G S N (n+m+(n+m)) (Xb7 G p q) (Xec G p q f g)):=by
 refine En Tryz.func80 λ_ _ _=>?_
 refine Cn [(1000001,8)] rfl (R19.sum_g W j hs o hf I) λv h=>?_
 obtain⟨d,rfl,hd⟩:=h
 refine Cn [(1000001,8)] rfl (R19.result_g hd) λv h=>?_
 rcases h with ⟨i,w,rfl,O⟩ | ⟨i,rfl⟩
 . exact Rt rfl (.tup (.cons (.rf rfl) Xa1)) (.inl ⟨i,w,rfl,O⟩)
 . exact Rt rfl (.tup (.cons (.rf rfl) Xa1)) (.inr ⟨i,rfl⟩)
theorem R19.Cmp_g(W:Wn G S N)(i:Gv G S N n u p)(hs:Gv G S N m s q)(j:n+m<=400): C0 66 [.d (dT u f),.d (dT s g)] (·=.tup (.pr (.d (.int .i64 (Ygs G p q f g))) (.d (.int .i64 0)))):=by
 refine En Tryz.func66 λ_ _ _=>?_
 unfold Ygs
 refine By rfl (λh=>?_) λh=>?_
 . rw[if_pos h];exact RTt rfl (.cons (.rf rfl) Xa1)
 rw[if_neg h]
 refine By rfl (λh=>?_) λh=>?_
 . rw[if_pos h];exact RTt rfl (.cons (.rf rfl) Xa1)
 rw[if_neg h]
 refine Cn [(1000001,19)] rfl (R19.order_g W i hs (by omega) (by omega) j) λv o=>?_
 subst o
 refine No rfl (by decide) ?_
 exact RTt rfl (.cons (.rf rfl) Xa1)
def Yml(G:Tw K)(p q:V2 K)(f g:Int): Prop:=(p≠vz K/\lim f)/\(q≠vz K/\lim g)/\Ygs G p q f g=0
theorem R19.Same_g(W:Wn G S N)(j:Gv G S N n u p)(hs:Gv G S N m s q)(I:n+m<=400): C0 23 [.d (dT u f),.d (dT s g)] (·=.b (dc (Yml G p q f g))):=by
 refine En Tryz.func23 λ_ _ _=>?_
 refine Ce rfl (R13.Valid_g W j (by omega)) ?_
 refine No rfl (by simp) ?_
 refine Ce rfl (R13.Valid_g W hs (by omega)) ?_
 refine No rfl (by simp) ?_
 refine Ce rfl (R19.Valid_g W j (by omega)) ?_
 refine By rfl (λh=>?_) λh=>?_
 . have h:¬(p≠vz K/\lim f):=by simpa [Xap,Xaj] using h
   exact R1 rfl (.bp ⟨nofun,λe=>absurd e.1 h⟩)
 have h:p≠vz K/\lim f:=by simpa [Xap,Xaj] using h
 refine Ce rfl (R19.Valid_g W hs (by omega)) ?_
 refine By rfl (λi=>?_) λi=>?_
 . have i:¬(q≠vz K/\lim g):=by simpa [Xap,Xaj] using i
   exact R1 rfl (.bp ⟨nofun,λe=>absurd e.2.1 i⟩)
 have i:q≠vz K/\lim g:=by simpa [Xap,Xaj] using i
 refine Ce rfl (R19.Cmp_g W j hs I) ?_
 refine By rfl (λo=>?_) λo=>?_
 . exact R1 rfl (.bp ⟨λ_=>⟨h,i,o⟩,λ_=>Xaj.2 rfl⟩)
 . exact R1 rfl (.bp ⟨nofun,λe=>absurd e.2.2 o⟩)
end
end
open Go Go.Vm Go.Num Go.Tow
section
variable{K:Nat}{G:Tw K}{S:List (Tow.El K)}{N:List Nm}{n m:Nat}{x y z:Nm}{a b:Tow.El K}{u s:Vn}{p q:V2 K}{f g:Int}
namespace P13
theorem Yao(W:Wn G S N)(i:Gv G S N n u p)(hs:Gv G S N m s q)(j:n<=400)(o:m<=400): C0 161 [.d (dV u),.d (dV s),.d (fnD 100)] (VoG G S N (n+m) (Tow.mul K G p.1 q.1,Tow.mul K G p.2 q.2)):=by
 refine En Tryz.func161 λ_ _ _=>?_
 refine Ca rfl (P9.Mul_g W i.x hs.x j o) λv h=>?_
 obtain⟨z,rfl,I⟩:=h
 refine No rfl (by simp) ?_
 refine Ca rfl (P9.Mul_g W i.y hs.y j o) λv h=>?_
 obtain⟨w,rfl,O⟩:=h
 refine No rfl (by simp) ?_
 exact Rt rfl (.tup (.cons (.rf rfl) Xa1)) ⟨⟨z,w⟩,rfl,I,O⟩
theorem Yaf(W:Wn G S N)(o:Gd G S N n x a)(i:n<=400): C0 163 [.d (dN x)] (OnG G S N n a):=by
 refine En Tryz.func163 λ_ _ _=>?_
 refine Ca rfl (P9.Neg_g W o i) λv h=>?_
 obtain⟨z,rfl,I⟩:=h
 refine Ca rfl (P9.Neg_g W I i) λv h=>?_
 obtain⟨w,rfl,j⟩:=h
 rw[(Xay K G).nn] at j
 exact Rt rfl (.one (.rf rfl) rfl rfl) ⟨w,rfl,j⟩
theorem Left_g(W:Wn G S N)(i:Gv G S N n u p)(j:n<=400): C0 102 [.d (dV u)] (VeG G S N n (neg K p.2,p.1)):=by
 refine En Tryz.func102 λ_ _ _=>?_
 refine Dw rfl ?_
 refine Ca rfl (P9.Neg_g W i.y j) λv h=>?_
 obtain⟨z,rfl,o⟩:=h
 refine Ca rfl (Yaf W i.x j) λv h=>?_
 obtain⟨w,rfl,I⟩:=h
 exact Rt rfl (.one (.rf rfl) rfl rfl) ⟨⟨z,w⟩,rfl,o,I⟩
theorem Dot_g(W:Wn G S N)(o:Gv G S N n u p)(hs:Gv G S N m s q)(I:n<=400)(O:m<=400)(i:n+m<=400): C0 101 [.d (dV u),.d (dV s)] (OpG G S N (n+m+(n+m)) (Xgo G p q)):=by
 refine En Tryz.func101 λ_ _ _=>?_
 refine Ca rfl (Yao W o hs I O) λv h=>?_
 obtain⟨r,rfl,j⟩:=h
 refine No rfl (by simp) ?_
 refine Ca rfl (P9.Add_g W j.x j.y i i) λv h=>?_
 obtain⟨z,rfl,Q⟩:=h
 exact Rt rfl (.tup (.cons (.rf rfl) Xa1)) ⟨z,rfl,Q⟩
theorem Cross_g(W:Wn G S N)(j:Gv G S N n u p)(hs:Gv G S N m s q)(i:n<=400)(o:m<=400)(I:n+m<=400): C0 57 [.d (dV u),.d (dV s)] (OpG G S N (n+m+(n+m)) (Xb9 G p q)):=by
 refine En Tryz.func57 λ_ _ _=>?_
 refine Dw rfl ?_
 refine Ca rfl (Left_g W j i) λv h=>?_
 obtain⟨r,rfl,O⟩:=h
 refine Ca rfl (Dot_g W O hs i o I) λv h=>?_
 obtain⟨z,rfl,Q⟩:=h
 exact Rt rfl (.tup (.cons (.rf rfl) Xa1)) ⟨z,rfl,Q⟩
end P13
namespace P19
theorem Xsj(W:Wn G S N)(i:Gv G S N n u p)(hs:Gv G S N m s q)(o:n+m<=400): C0 212 [.d (dV u),.d (dV s)] (VoG G S N (n+m+(n+m)) (Xb7 G p q)):=by
 refine En Tryz.func212 λ_ _ _=>?_
 refine Dw rfl ?_
 refine Ca rfl (P9.Neg_g W i.y (by omega)) λv h=>?_
 obtain⟨z,rfl,O⟩:=h
 refine Ca rfl (P13.Dot_g (u:=⟨u.x,z⟩) (p:=Xn0 p) W ⟨i.x,O⟩ hs (by omega) (by omega) o) λv h=>?_
 obtain⟨d,rfl,hd⟩:=h
 rw[Ybg] at hd
 refine No rfl (by simp) ?_
 refine Dw rfl ?_
 refine Ca rfl (P9.Neg_g W i.y (by omega)) λv h=>?_
 obtain⟨Q,rfl,j⟩:=h
 refine Ca rfl (P13.Cross_g (u:=⟨u.x,Q⟩) (p:=Xn0 p) W ⟨i.x,j⟩ hs (by omega) (by omega) o) λv h=>?_
 obtain⟨c,rfl,I⟩:=h
 rw[Ybf] at I
 refine No rfl (by simp) ?_
 exact Rt rfl (.tup (.cons (.rf rfl) Xa1)) ⟨⟨d,c⟩,rfl,hd,I⟩
theorem Xtd(W:Wn G S N)(o:Gv G S N n u p)(I:n<=800): C0 153 [.d (dV u)] (·=.b (dc (vup G p))):=by
 refine En Tryz.func153 λ_ _ _=>?_
 refine Ce rfl (P9.Sign_g W o.y I) ?_
 refine By rfl (λh=>?_) λh=>?_
 . exact R1 rfl (.bp ⟨λ_=>.inl h,λ_=>rfl⟩)
 . refine By rfl (λj=>?_) λj=>?_
   . refine Ce rfl (P9.Sign_g W o.x I) ?_
     exact R1 rfl (.bp (Xaj.trans ⟨λi=>.inr ⟨j,i⟩,λi=>i.elim (λe=>absurd e h) λe=>e.2⟩))
   . exact R1 rfl (.bp ⟨nofun,λi=>i.elim (λe=>absurd e h) λe=>absurd e.1 j⟩)
theorem Yj3(W:Wn G S N)(j:Gv G S N n u p)(o:n<=800): C0 84 [.d (dV u)] (·=.b (dc (Xcz G p))):=by
 refine En Tryz.func84 λ_ _ _=>?_
 refine Ce rfl (P9.Sign_g W j.y o) ?_
 refine By rfl (λh=>?_) λh=>?_
 . refine Ce rfl (P9.Sign_g W j.x o) ?_
   exact R1 rfl (.bp (Xaj.trans ⟨λi=>⟨h,i⟩,λi=>i.2⟩))
 . exact R1 rfl (.bp ⟨nofun,λi=>absurd i.1 h⟩)
theorem compare_g(W:Wn G S N)(o:Gv G S N n u p)(hs:Gv G S N m s q)(j:n+m<=400): C0 93 [.d (dV u),.d (dV s)] (·=.tup (.pr (.d (.int .i64 (Xr0 G p q))) (.d (.int .i64 0)))):=by
 refine En Tryz.func93 λ_ _ _=>?_
 refine Dw rfl ?_
 refine Ce rfl (Xtd W o (by omega)) ?_
 refine Ce rfl (Xtd W hs (by omega)) ?_
 unfold Xr0
 refine By rfl (λh=>?_) λh=>?_
 . refine By rfl (λi=>?_) λi=>?_
   . rw[if_neg (by simp[Xaj,i] at h |-;exact h),if_pos i]
     exact RTt rfl (.cons (.rf rfl) Xa1)
   . rw[if_neg (by simp[Xaj,i] at h |-;exact h),if_neg i]
     exact RTt rfl (.cons (.rf rfl) Xa1)
 . have I:dc True=true:=Xaj.2 trivial
   have d2:dc False=false:=W6n.2 λh=>Xaj.1 h
   have h:vup G p↔vup G q:=by
    by_cases i:vup G p<;>by_cases j:vup G q<;>simp[i,j,I,d2] at h |-
   rw[if_pos h]
   refine Ca rfl (P13.Cross_g W o hs (by omega) (by omega) j) λv O=>?_
   obtain⟨z,rfl,Q⟩:=O
   refine Ce rfl (P9.Sign_g W Q (by omega)) ?_
   have T:=Xb1 G (Xb9 G p q)
   refine Ne (-sgn K G (Xb9 G p q)) rfl ?_ (wr (Int.zero_sub _) (by simp only[inK];omega))
   exact RTt rfl (.cons (.rf rfl) Xa1)
theorem Yoe(W:Wn G S N)(i:Gv G S N n u p)(hs:Gv G S N m s q)(j:n+m+(n+m)+n<=400)(hf:few f)(o:few g): C0 134 [.d (dT u f),.d (dT s g)] (λr=>∃v,r=.tup (.pr (.d (dT v (Xec G p q f g))) (.d (.int .i64 0)))/\Gv G S N (n+m+(n+m)) v (Xb7 G p q)):=by
 unfold few at hf o
 refine En Tryz.func134 λ_ _ _=>?_
 refine Ca rfl (Xsj W i hs (by omega)) λv I=>?_
 obtain⟨d,rfl,hd⟩:=I
 refine No rfl (by simp) ?_
 refine Ce rfl (compare_g W hd i j) ?_
 refine No rfl (by simp) ?_
 refine Ar (f+g) rfl ?_ (wr rfl (by simp only[inK];omega))
 refine By rfl (λh=>?_) λh=>?_
 . refine Ar (f+g+1) rfl ?_ (wr rfl (by simp only[inK];omega))
   exact Rt rfl (.tup (.cons (.rf rfl) Xa1)) ⟨d,by rw[Xec,if_pos h],hd⟩
 . exact Rt rfl (.tup (.cons (.rf rfl) Xa1)) ⟨d,by rw[Xec,if_neg h],hd⟩
theorem Xvs(j:Gv G S N n u p): C0 133 [.d (dT u f),.d (.int .i64 0)] (TuG G S N n p f):=by
 refine En Tryz.func133 λ_ _ _=>?_
 refine Yes rfl (by decide) ?_
 refine By rfl (λh=>?_) λh=>?_
 . refine Yes rfl (by decide) ?_
   exact Rt rfl (.tup (.cons Xsn Xa1)) (.inr ⟨λi=>by unfold lim at i;omega,rfl⟩)
 . refine By rfl (λi=>?_) λi=>?_
   . refine Yes rfl (by decide) ?_
     exact Rt rfl (.tup (.cons Xsn Xa1)) (.inr ⟨λi=>by unfold lim at i;omega,rfl⟩)
   . refine No rfl (by decide) ?_
     exact Rt rfl (.tup (.cons (.rf rfl) Xa1)) (.inl ⟨by unfold lim;omega,u,rfl,j⟩)
theorem Add_g(W:Wn G S N)(j:Gv G S N n u p)(hs:Gv G S N m s q)(o:n+m+(n+m)+n<=400)(hf:few f)(I:few g): C0 76 [.d (dT u f),.d (dT s g)] (TuG G S N (n+m+(n+m)) (Xb7 G p q) (Xec G p q f g)):=by
 refine En Tryz.func76 λ_ _ _=>?_
 refine Ca rfl (Yoe W j hs o hf I) λv h=>?_
 obtain⟨d,rfl,hd⟩:=h
 refine Ca rfl (Xvs hd) λv h=>?_
 rcases h with ⟨i,w,rfl,O⟩ | ⟨i,rfl⟩
 . exact Rt rfl (.tup (.cons (.rf rfl) Xa1)) (.inl ⟨i,w,rfl,O⟩)
 . exact Rt rfl (.tup (.cons (.rf rfl) Xa1)) (.inr ⟨i,rfl⟩)
theorem Cmp_g(W:Wn G S N)(i:Gv G S N n u p)(hs:Gv G S N m s q)(j:n+m<=400): C0 42 [.d (dT u f),.d (dT s g)] (·=.tup (.pr (.d (.int .i64 (Ygs G p q f g))) (.d (.int .i64 0)))):=by
 refine En Tryz.func42 λ_ _ _=>?_
 unfold Ygs
 refine By rfl (λh=>?_) λh=>?_
 . rw[if_pos h];exact RTt rfl (.cons (.rf rfl) Xa1)
 rw[if_neg h]
 refine By rfl (λh=>?_) λh=>?_
 . rw[if_pos h];exact RTt rfl (.cons (.rf rfl) Xa1)
 rw[if_neg h]
 refine Ce rfl (compare_g W i hs j) ?_
 refine No rfl (by simp) ?_
 exact RTt rfl (.cons (.rf rfl) Xa1)
theorem Zero_g(W:Wn G S N)(j:Gv G S N n u p)(o:n<=800): C0 37 [.d (dT u f)] (·=.b (dc (f=0/\Xcz G p))):=by
 refine En Tryz.func37 λ_ _ _=>?_
 refine By rfl (λh=>?_) λh=>?_
 . refine Ce rfl (Yj3 W j o) ?_
   exact R1 rfl (.bp (Xaj.trans ⟨λi=>⟨h,i⟩,λi=>i.2⟩))
 . exact R1 rfl (.bp ⟨nofun,λi=>absurd i.1 h⟩)
def OfG(G:Tw K)(S:List (Tow.El K))(N:List Nm)(n:Nat)(p q:V2 K)(r:AV): Prop:=(¬(p=vz K\/q=vz K)/\∃v,r=.tup (.pr (.d (dT v 0)) (.d (.int .i64 0)))/\Gv G S N n v (Xb7 G (Xn0 p) q))\/((p=vz K\/q=vz K)/\r=.tup (.pr (.d dT0) (.d (.int .i64 6))))
end P19
end
end Go.Proofs.YtfjafaehfjjaiaaGreatDoor
namespace Go.Vm
open Go
section
variable{c:Cx}{s:St}{p:Pl}
end
end Go.Vm
namespace Go.Proofs.YtfjafaehfjjaiaaGreatDoor
open Go Go.Vm Go.Num Go.Tow
section
abbrev dAt(l:List (Fin 256)): D:=.sl 1 (l.map λn=>.int .u8 n.val)
abbrev dPl(h:List RO)(l:List (Fin 256)): D:=.st (.pr (dRs h) (dAt l))
def PtF(l:List Nm)(v:AV): Prop:=v=.tup (.pr (.d (dVs [])) (.b false))\/∃L:List Vn,v=.tup (.pr (.d (dVs L)) (.b true))/\L.length<=24/\∀x∈L,x.x∈n00::l/\x.y∈n00::l
theorem Xo5{c:Bool}{g:Hp}{K:Hpl}: FitT g K (.b c) (.b c):=.one (.rf rfl) (λ_ _ e=>by cases e) (λ_ _ e=>by cases e)
theorem Ya0{j:List RO}{at':List (Fin 256)}{l:List Nm}(hb:C0 120 [.d (dRs j)] (·=.d (dNs l)))(hl24:l.length<=24)(hk:∀z∈l,z.k<=16): C0 67 [.d (dPl j at')] (PtF l):=by
 refine En Tryz.func67 λ_ _ _=>?_
 refine Ce rfl hb ?_
 refine Ca rfl (R9.All_ok hk (by omega)) λv o=>?_
 obtain⟨c,rfl⟩:=o
 refine By rfl (λh=>?_) λh=>?_
 . exact Rt rfl (.tup (.cons (.nil rfl) Xo5)) (.inl rfl)
 refine By rfl (λO=>?_) λO=>?_
 . exact Rt rfl (.tup (.cons (.nil rfl) Xo5)) (.inl rfl)
 have O:¬((at'.map λn=>(D.int .u8 n.val:D)).length:Int)>24:=O
 rw[W0i] at O
 refine Nl 5 5 4 rfl ?_
 refine Lo (λ(s:Nat×List Vn)=>[(1,.ptr 1 0),(4,.d (dNs l)),(5,.gr 5 4 (s.2.map dV)),(6,.d (.int .i64 s.1))]) (λs=>[(1,.var (.d (dPl j at'))),(5,.tok (s.2.map dV).length 4)]) (λs=>s.1<=24/\s.2.length<=s.1/\∀x∈s.2,x.x∈n00::l/\x.y∈n00::l) (λs=>24-s.1) (0,[]) [] rfl ⟨W0w _,W0a _,λx T=>nomatch T⟩ (λ(i,V) ⟨hi,o,Z⟩=>?_)
 simp only at hi o Z
 refine Ar (i+1:Nat) rfl ?_
 refine By rfl (λQ=>?_) λQ=>?_
 . have Q:((i+1:Nat):Int)<((at'.map λn=>(D.int .u8 n.val:D)).length:Nat):=Q
   rw[W0i] at Q
   obtain⟨a,ha⟩:∃a,at'[i]?=some a:=⟨_,W0e (by omega)⟩
   obtain⟨b,hb⟩:∃b,at'[i+1]?=some b:=⟨_,W0e (by omega)⟩
   refine Dw rfl ?_
   refine Ix i rfl (mp (f:=λn:Fin 256=>(D.int .u8 n.val:D)) ha) ?_
   refine Go.Vm.Cv (a.val:Nat) rfl ?_ (wI (by omega))
   refine Ca rfl (R9.At_ok a.isLt (by omega)) λv o=>?_
   obtain⟨x,T,rfl⟩:=o
   refine Ar (i+1:Nat) rfl ?_
   refine Ix (i+1) rfl (mp (f:=λn:Fin 256=>(D.int .u8 n.val:D)) hb) ?_
   refine Go.Vm.Cv (b.val:Nat) rfl ?_ (wI (by omega))
   refine Ca rfl (R9.At_ok b.isLt (by omega)) λv o=>?_
   obtain⟨y,hy,rfl⟩:=o
   refine ApG ((V++[(⟨x,y⟩:Vn)]).map dV) rfl (by simp) (by simp;omega) ?_
   refine Ar (i+2:Nat) rfl ?_
   refine Bk (i+2,V++[(⟨x,y⟩:Vn)]) [(47,5)] rfl ⟨by show i+2<=24;omega,by simp;omega,λz I=>?_⟩ (by show 24-(i+2)<24-i;omega)
   rcases W1r.1 I with I | I
   . exact Z z I
   . obtain rfl:=W0j.1 I
     exact⟨T,hy⟩
 . exact Rt rfl (.tup (.cons (.gr rfl) Xo5)) (.inr ⟨V,rfl,by omega,Z⟩)
def SvF(l:List Nm)(n:Nat)(v:AV): Prop:=∃(L:List Vn) (c:Bool),v=.tup (.pr (.d (dVs L)) (.b c))/\L.length<=24/\(c=true->n<=L.length/\∀x∈L,x.x∈n00::l/\x.y∈n00::l)
theorem Xx4{i:List RO}{at':List (Fin 256)}{l:List Nm}{n:Nat}(hb:C0 120 [.d (dRs i)] (·=.d (dNs l)))(j:l.length<=24)(o:∀z∈l,z.k<=16): C0 24 [.d (dPl i at'),.d (.int .i64 n)] (SvF l n):=by
 refine En Tryz.func24 λ_ _ _=>?_
 refine Ca rfl (Ya0 hb j o) λv I=>?_
 rcases I with rfl | ⟨L,rfl,O,Q⟩
 . refine No rfl (by decide) ?_
   exact Rt rfl (.tup (.cons (.rf rfl) Xo5)) ⟨[],false,rfl,W0w _,λh=>nomatch h⟩
 . refine Yes rfl rfl ?_
   refine Rt rfl (.tup (.cons (.rf rfl) Xo5)) ⟨L,_,rfl,O,λh=>⟨?_,Q⟩⟩
   have h:(((L.map dV).length:Nat):Int)>=n:=Xaj.1 h
   rw[W0i] at h
   omega
end
section
theorem Xy8{t:TypeId}(i:Tryz.prog.underlying t=some (.slice 5)): Reads Tryz.prog t λd=>∃l:List (Fin 256),d=dAt l :=
 (Xfi i (Xf7 Tryz.underlying5) (sz:=1) (by kernel_rfl) (by decide)).mono λd ⟨l,e,_,h⟩=>by
  obtain⟨m,j⟩:=Ynf (f:=λn:Fin 256=>(D.int .u8 n.val:D)) λy o=>let ⟨n,e,I⟩:=h y o;⟨⟨n,I⟩,e⟩
  exact⟨m,by rw[e,j]⟩
theorem Xsb: Reads Tryz.prog 26 λd=>∃h l,d=dPl h l :=
 (Xel Tryz.underlying26 (.cons (n:=1) rfl (Xum Tryz.underlying23) (by kernel_rfl) (.one rfl (Xy8 Tryz.underlying24))) (λf hf=>by cases hf;kernel_rfl)).mono λd hd=>by
  obtain⟨_,rfl,_,_,rfl,⟨h,rfl⟩,⟨l,rfl⟩⟩:=hd
  exact⟨h,l,rfl⟩
def i64(a:Int): Prop:=-9223372036854775808<=a/\a<9223372036854775808
end
section
def lo2(x y:Rat): Rat:=if y<x then y else x
def hi2(x y:Rat): Rat:=if x<y then y else x
def Xvg(x:Rat)(r:List Rat): Rat:=r.foldl lo2 x
def Xvo(x:Rat)(r:List Rat): Rat:=r.foldl hi2 x
theorem Ycn{s:Nat}{x y:Rat}(h:Qs s x)(i:Qs s y): Qs s (lo2 x y):=by unfold lo2;split<;>assumption
theorem Ycw{s:Nat}{x y:Rat}(h:Qs s x)(i:Qs s y): Qs s (hi2 x y):=by unfold hi2;split<;>assumption
theorem Xve(x:Rat)(r:List Rat)(y:Rat): Xvg x (r++[y])=lo2 (Xvg x r) y:=by simp[Xvg]
theorem Xvm(x:Rat)(r:List Rat)(y:Rat): Xvo x (r++[y])=hi2 (Xvo x r) y:=by simp[Xvo]
theorem Xvf{s:Nat}{x:Rat}{r:List Rat}(h:∀y∈x::r,Qs s y): Qs s (Xvg x r):=by
 induction r generalizing x with
 | nil=>exact h x (W0l ..)
 | cons y r j=>exact j (x:=lo2 x y) (λz i=>by
  rcases W1i.1 i with rfl | i
  . exact Ycn (h x (W0l ..)) (h y (by simp))
  . exact h z (by simp[i]))
theorem Xvn{s:Nat}{x:Rat}{r:List Rat}(h:∀y∈x::r,Qs s y): Qs s (Xvo x r):=by
 induction r generalizing x with
 | nil=>exact h x (W0l ..)
 | cons y r j=>exact j (x:=hi2 x y) (λz i=>by
  rcases W1i.1 i with rfl | i
  . exact Ycw (h x (W0l ..)) (h y (by simp))
  . exact h z (by simp[i]))
theorem Yf0{x y:Rat}: Xni x y<0↔x<y:=by
 unfold Xni
 split
 . rename_i h;simp[h]
 . rename_i h
   split<;>simp[h]
theorem Xxi{x y:Rat}: Xni x y>0↔y<x:=by
 rw[Xng,<-Yf0];omega
theorem Xur{s:Nat}{x:Rat}{r:List Rat}(h:∀y∈x::r,Qs s y)(k:Nat): ∀y∈x::r.take k,Qs s y:=λy i=>h y (by
 rcases W1i.1 i with rfl | i
 . exact W0l ..
 . exact W0o _ (W3v i))
theorem Xw5(n:Int): Rat.divInt n 1=(n:Rat):=by
 rw[W5l]
 have:((1:Int):Rat)=1:=rfl
 grind
def pw(b:Nat): Rat:=((2^b:Int):Rat)
theorem Zs.two{b p:Nat}(h:b+1<=p): Zs p (2^b:Int):=by
 refine Zs.mono (p:=b+1) ?_ h
 unfold Zs
 rw[Int.natAbs_pow]
 exact W3x (by decide) (W7l b)
theorem Xf0(b:Nat): (2^b:Int)≠0:=by have:=Int.pow_pos (n:=2) (m:=b) (by decide);omega
theorem Xoj(b:Nat): Qs (b+1) (pw b):=⟨Zs.two (W0a _),Zs.one (by omega)⟩
theorem Zs.floor{s:Nat}{x:Rat}(h:Qs s x): Zs s x.floor:=by
 have i:=h.n
 unfold Zs at *
 rw[Rat.floor_def]
 exact W1w (Int.natAbs_ediv_le_natAbs _ _) i
def dnQ(x:Rat)(b:Nat): Rat:=Rat.divInt (x*pw b).floor (2^b)
def upQ(x:Rat)(b:Nat): Rat:=-dnQ (-x) b
theorem Xw2{s:Nat}{x:Rat}(h:Qs s x)(b:Nat): Qs (s+b+1) (dnQ x b) :=
 Qs.divInt (p:=s+b+1) ((Zs.floor (h.mul (Xoj b))).mono (by omega)) (Zs.two (by omega)) (Xf0 b)
theorem Yhh{s:Nat}{x:Rat}(h:Qs s x)(b:Nat): Qs (s+b+1) (upQ x b):=(Xw2 h.neg b).neg
theorem Xlw{x y:Rat}: Xni x y<=0↔¬y<x:=by rw[<-Xxi];omega
theorem Ye3{a p:Nat}(h:a<2^p): (dig a).length<=p/32+1:=by
 refine Xat (W0x h ?_)
 rw[show (4294967296:Nat)=2^32 from rfl,<-W5z]
 exact W0p (by decide) (by omega)
def rtF(x:Rat): Nat:=rt x.floor.toNat
theorem Ymw(n:Nat): rt n<=n:=by
 have h:=(Xdf n).1
 by_cases h0:rt n=0
 . omega
 . have:=W0v (rt n) (show 1<=rt n by omega)
   omega
theorem Xet{x:Rat}(h:0<=x): x.floor=(x.floor.toNat:Int):=by
 have:(0:Int)<=x.floor:=Rat.le_floor_iff.2 h
 omega
theorem Yb0{s:Nat}{x:Rat}(h:Qs s x)(h0:0<=x): Zs s (rtF x:Int):=by
 have i:=Zs.floor h
 rw[Xet h0] at i
 have j:=Ymw x.floor.toNat
 unfold Zs at *
 have i:x.floor.toNat<2^s:=i
 show rt x.floor.toNat<2^s
 omega
theorem Xa3(b:Nat): 0<pw b:=Rat.intCast_pos.2 (Int.pow_pos (by decide))
def sq2(x:Rat)(b:Nat): Rat:=x*(pw b*pw b)
def Xdu(x:Rat)(b:Nat): Rat:=Rat.divInt (rtF (sq2 x b):Int) (2^b)
open Classical in
noncomputable def Xty(x:Rat): Nat:=if ((rtF x*rtF x:Int):Rat)<x then rtF x+1 else rtF x
noncomputable def Xt1(x:Rat)(b:Nat): Rat:=Rat.divInt (Xty (sq2 x b):Int) (2^b)
theorem Ybr{s b:Nat}{x:Rat}(h:Qs s x): Qs (s+(2*b+2)) (sq2 x b):=(h.mul ((Xoj b).mul (Xoj b))).mono (by omega)
theorem Xhc{x:Rat}{b:Nat}(h:0<=x): 0<=sq2 x b:=Rat.mul_nonneg h (Rat.mul_nonneg (W2r (Xa3 b)) (W2r (Xa3 b)))
theorem Xh1(x:Rat)(n:Nat): (x.num*2^n).fdiv x.den=(x*pw n).floor:=by
 have hd:(0:Int)<x.den:=Int.natCast_pos.2 (W2p x.den_nz)
 rw[W1t _ (by omega)]
 have i:∀z:Int,z<=(x.num*2^n)/x.den↔z<=(x*pw n).floor:=by
  intro z
  rw[Int.le_ediv_iff_mul_le hd,Rat.le_floor_iff]
  have e:x*pw n*(x.den:Rat)=((x.num*2^n:Int):Rat):=by
   have:=Xlj x
   have o:pw n=((2^n:Int):Rat):=rfl
   rw[W3y,<-o,<-this]
   grind
  have j:(0:Rat)<(x.den:Rat):=by
   have:=Rat.intCast_pos.2 hd
   exact this
  rw[<-W3m,W3y,<-e]
  constructor
  . intro h
    exact W2d h j
  . intro h
    exact W2s h (W2r j)
 have I:=(i _).1 (W8a _)
 have o:=(i _).2 (W8a _)
 omega
theorem Yb3(b:Nat): pw (2*b)=pw b*pw b:=by
 show ((2^(2*b):Int):Rat)=((2^b:Int):Rat)*((2^b:Int):Rat)
 rw[<-W3y,<-Int.pow_add]
 congr 2;omega
theorem Xyw{x:Rat}(b:Nat)(h0:0<=x): (x.num*2^(2*b)).fdiv x.den=((sq2 x b).floor.toNat:Int):=by
 rw[Xh1,Yb3]
 exact Xet (Xhc h0)
theorem Xk4{s:Nat}{x:Rat}(h:Qs s x)(h0:0<=x)(b:Nat): Qs (s+(2*b+2)) (Xdu x b) :=
 Qs.divInt (Yb0 (Ybr h) (Xhc h0)) (Zs.two (by omega)) (Xf0 b)
def mx0(x:Rat): Rat:=if x<0 then 0 else x
theorem Xhg(x:Rat): 0<=mx0 x:=by unfold mx0;split<;>grind
theorem Yck{s:Nat}{x:Rat}(h:Qs s x)(hs:1<=s): Qs s (mx0 x):=by
 unfold mx0
 split
 . exact qs0.mono hs
 . exact h
theorem Ykt{x:Rat}: Xbb x.num 0<0↔x<0:=by
 rw[Xhw]
 rcases Xbc x with ⟨h,e⟩ | ⟨h,e⟩ | ⟨h,e⟩<;>rw[e]
 . exact⟨λh=>absurd h (by decide),λi=>absurd i (by grind)⟩
 . exact⟨λh=>absurd h (by decide),λi=>absurd i (by grind)⟩
 . exact⟨λ_=>h,λ_=>by decide⟩
def rnd(p:Rat×Rat)(b:Nat): Rat×Rat:=(dnQ p.1 b,upQ p.2 b)
def rts(p:Rat×Rat)(b:Nat): Rat×Rat:=(Xdu (mx0 p.1) b,Xdu p.2 b+Rat.divInt 1 (2^b))
def Xbw(p q:Rat×Rat): Rat×Rat:=(Xvg (p.1*q.1) [p.1*q.2,p.2*q.1,p.2*q.2],Xvo (p.1*q.1) [p.1*q.2,p.2*q.1,p.2*q.2])
def Xhr(p q:Rat×Rat): Rat×Rat:=(p.1+q.1,p.2+q.2)
def enc: (k:Nat)->Tw k->El k->Nat->Rat×Rat
 | 0=>λ_ (x:Rat) _=>(x,x)
 | k+1=>λt a b=>if (∀x∈toL k a.2,x=0) then enc k t.1 a.1 b else rnd (Xhr (enc k t.1 a.1 b) (Xbw (enc k t.1 a.2 b) (rts (enc k t.1 t.2 b) b))) b
theorem Yc7(x:Rat)(b:Nat): dnQ x b*pw b=((x*pw b).floor:Rat):=by
 unfold dnQ
 rw[W5l]
 have h:=Xa3 b
 show ((x*pw b).floor:Rat)/pw b*pw b=_
 rw[W5g (by grind)]
theorem Xrj(x:Rat)(b:Nat): dnQ x b<=x:=by
 refine W2d ?_ (Xa3 b)
 rw[Yc7]
 exact Rat.floor_le _
theorem Xw3(x:Rat)(b:Nat): x*pw b<dnQ x b*pw b+1:=by
 rw[Yc7]
 have:=@Rat.lt_floor (x*pw b)
 grind
theorem Xtf(x:Rat)(b:Nat): x<=upQ x b:=by
 have:=Xrj (-x) b
 unfold upQ;grind
theorem Ybk(x:Rat)(b:Nat): upQ x b*pw b<x*pw b+1:=by
 have:=Xw3 (-x) b
 unfold upQ;grind
theorem Xvq{x y:Rat}: lo2 x y<=x/\lo2 x y<=y:=by unfold lo2;split<;>grind
theorem Xwg{x y:Rat}: x<=hi2 x y/\y<=hi2 x y:=by unfold hi2;split<;>grind
theorem Xvp{x y:Rat}: lo2 x y=x\/lo2 x y=y:=by unfold lo2;split<;>simp
theorem Xwf{x y:Rat}: hi2 x y=x\/hi2 x y=y:=by unfold hi2;split<;>simp
theorem Xis(p q:Rat×Rat): (Xbw p q).1<=p.1*q.1/\(Xbw p q).1<=p.1*q.2/\(Xbw p q).1<=p.2*q.1/\(Xbw p q).1<=p.2*q.2:=by
 show lo2 (lo2 (lo2 (p.1*q.1) (p.1*q.2)) (p.2*q.1)) (p.2*q.2)<=_/\lo2 (lo2 (lo2 (p.1*q.1) (p.1*q.2)) (p.2*q.1)) (p.2*q.2)<=_/\lo2 (lo2 (lo2 (p.1*q.1) (p.1*q.2)) (p.2*q.1)) (p.2*q.2)<=_/\lo2 (lo2 (lo2 (p.1*q.1) (p.1*q.2)) (p.2*q.1)) (p.2*q.2)<=_
 have i:=@Xvq (p.1*q.1) (p.1*q.2)
 have j:=@Xvq (lo2 (p.1*q.1) (p.1*q.2)) (p.2*q.1)
 have h:=@Xvq (lo2 (lo2 (p.1*q.1) (p.1*q.2)) (p.2*q.1)) (p.2*q.2)
 refine⟨?_,?_,?_,h.2⟩<;>grind
theorem Xit(p q:Rat×Rat): p.1*q.1<=(Xbw p q).2/\p.1*q.2<=(Xbw p q).2/\p.2*q.1<=(Xbw p q).2/\p.2*q.2<=(Xbw p q).2:=by
 show _<=hi2 (hi2 (hi2 (p.1*q.1) (p.1*q.2)) (p.2*q.1)) (p.2*q.2)/\_<=hi2 (hi2 (hi2 (p.1*q.1) (p.1*q.2)) (p.2*q.1)) (p.2*q.2)/\_<=hi2 (hi2 (hi2 (p.1*q.1) (p.1*q.2)) (p.2*q.1)) (p.2*q.2)/\_<=hi2 (hi2 (hi2 (p.1*q.1) (p.1*q.2)) (p.2*q.1)) (p.2*q.2)
 have i:=@Xwg (p.1*q.1) (p.1*q.2)
 have j:=@Xwg (hi2 (p.1*q.1) (p.1*q.2)) (p.2*q.1)
 have h:=@Xwg (hi2 (hi2 (p.1*q.1) (p.1*q.2)) (p.2*q.1)) (p.2*q.2)
 refine⟨?_,?_,?_,h.2⟩<;>grind
theorem Xfh(x:Rat)(b:Nat): Xdu x b*pw b=((rtF (sq2 x b):Int):Rat):=by
 unfold Xdu
 rw[W5l]
 have h:=Xa3 b
 show ((rtF (sq2 x b):Int):Rat)/pw b*pw b=_
 rw[W5g (by grind)]
theorem Xdx(b:Nat): Rat.divInt 1 (2^b)*pw b=1:=by
 rw[W5l]
 have h:=Xa3 b
 show ((1:Int):Rat)/pw b*pw b=_
 rw[W5g (by grind)];rfl
theorem Xde(x:Rat)(b:Nat): 0<=Xdu x b:=by
 refine W2d ?_ (Xa3 b)
 rw[Xfh,W4t]
 exact Rat.intCast_nonneg.2 (by omega)
theorem Yb1{x:Rat}(h:0<=x): (((rtF x:Int)):Rat)*((rtF x:Int):Rat)<=x:=by
 have j:=(Xdf x.floor.toNat).1
 have o:=Xet h
 have I:=@Rat.floor_le x
 have i:((rtF x*rtF x:Int):Rat)<=(x.floor:Rat):=by
  rw[W3m,o]
  unfold rtF
  exact_mod_cast j
 rw[W3y] at i
 exact W5s i I
theorem Xuf{x:Rat}(h:0<=x): x<(((rtF x:Int))+1:Rat)*(((rtF x:Int))+1:Rat):=by
 have i:=(Xdf x.floor.toNat).2
 have o:=Xet h
 have O:=@Rat.lt_floor x
 have j:((x.floor+1:Int):Rat)<=(((rtF x+1:Int)*(rtF x+1:Int):Int):Rat):=by
  rw[W3m,o]
  unfold rtF
  have i:x.floor.toNat+1<=(rt x.floor.toNat+1)*(rt x.floor.toNat+1):=i
  exact_mod_cast i
 rw[W3y,W6h,W6h] at j
 have I:((1:Int):Rat)=1:=rfl
 rw[I] at j
 grind
theorem Xie{x:Rat}{b:Nat}(h:0<=x): Xdu x b*Xdu x b<=x:=by
 have hp:=Xa3 b
 have i:=W4w hp hp
 refine W2d ?_ i
 have j:=Yb1 (Xhc (b:=b) h)
 rw[<-Xfh] at j
 unfold sq2 at j
 grind
theorem Xt0{x:Rat}{b:Nat}(h:0<=x): x<=(Xdu x b+Rat.divInt 1 (2^b))*(Xdu x b+Rat.divInt 1 (2^b)):=by
 have hp:=Xa3 b
 have i:=W4w hp hp
 refine W2d ?_ i
 have j:=Xuf (Xhc (b:=b) h)
 have o:=Xdx b
 rw[<-Xfh] at j
 have I:sq2 x b=x*(pw b*pw b):=rfl
 have O:(Xdu x b+Rat.divInt 1 (2^b))*(Xdu x b+Rat.divInt 1 (2^b))*(pw b*pw b)=(Xdu x b*pw b+1)*(Xdu x b*pw b+1):=by
  rw[<-o];grind
 rw[O,<-I]
 exact W2r j
theorem Xhh: ∀ {k:Nat} {t:Tw k} (h:Xb8 k t) (a:El k) (b:Nat),inI k t a (enc k t a b).1 (enc k t a b).2
 | 0,t,h,a,b=>⟨(Xaq h).le_rf (Xay 0 t) a,(Xaq h).le_rf (Xay 0 t) a⟩
 | k+1,t,h,a,b=>by
  have O:=Xm0 (t:=t) h.1 (Xhh h.1 a.1 b)
  have hs:=Xri (t:=t) a
  by_cases i:∀x∈toL k a.2,x=0
  . have j:enc (k+1) t a b=enc k t.1 a.1 b:=if_pos i
    rw[j]
    have ha:a=up k a.1:=W3i rfl ((Xam k a.2).2 i)
    rw[ha]
    exact O
  . have j:enc (k+1) t a b=rnd (Xhr (enc k t.1 a.1 b) (Xbw (enc k t.1 a.2 b) (rts (enc k t.1 t.2 b) b))) b:=if_neg i
    have V:=Xm0 (t:=t) h.1 (Xhh h.1 a.2 b)
    have Q:=Xhh h.1 t.2 b
    have o:0<=(enc k t.1 t.2 b).2:=by
     have h0:le k t.1 (rat k 0) t.2:=(Xio h.1).2 (by rw[h.2];decide)
     exact(Xbm h.1).1 (le_tr h.1 h0 Q.2)
    have hu:0<=Rat.divInt 1 (2^b):=W2d (by rw[Xdx,W4t];decide) (Xa3 b)
    have is:=Xv6 h Q (c:=Xdu (mx0 (enc k t.1 t.2 b).1) b) (d:=Xdu (enc k t.1 t.2 b).2 b+Rat.divInt 1 (2^b)) (Xde _ _) (by have:=Xde (enc k t.1 t.2 b).2 b;grind)
     (by
      have I:=Xie (b:=b) (Xhg (enc k t.1 t.2 b).1)
      by_cases h0:(enc k t.1 t.2 b).1<0
      . right
        have e:mx0 (enc k t.1 t.2 b).1=0:=if_pos h0
        rw[e] at I |-
        have h2:=Xde 0 b
        by_cases Z:Xdu 0 b=0
        . exact Z
        . have:=W4w (show 0<Xdu 0 b by grind) (show 0<Xdu 0 b by grind)
          grind
      . left
        have e:mx0 (enc k t.1 t.2 b).1=(enc k t.1 t.2 b).1:=if_neg h0
        rw[e] at I |-
        exact I) (Xt0 o)
    have im:=Xv7 h V is (Xde _ _) (Xis (enc k t.1 a.2 b) (rts (enc k t.1 t.2 b) b)).1 (Xis (enc k t.1 a.2 b) (rts (enc k t.1 t.2 b) b)).2.1 (Xit (enc k t.1 a.2 b) (rts (enc k t.1 t.2 b) b)).2.2.1 (Xit (enc k t.1 a.2 b) (rts (enc k t.1 t.2 b) b)).2.2.2
    have T:=Xv8 h O im
    rw[<-hs] at T
    rw[j]
    exact Xq8 h T (Xrj _ _) (Xtf _ _)
def eB(s b:Nat): Nat->Nat
 | 0=>s
 | k+1=>3*eB s b k+4*b+6
theorem Yab(s b:Nat): ∀k,s<=eB s b k
 | 0=>W0a _
 | k+1=>by have:=Yab s b k;show s<=3*eB s b k+4*b+6;omega
theorem Yc4{k:Nat}{t:Tw (k+1)}(h:Xb8 (k+1) t)(b:Nat): 0<=(enc k t.1 t.2 b).2:=by
 have h0:le k t.1 (rat k 0) t.2:=(Xio h.1).2 (by rw[h.2];decide)
 exact(Xbm h.1).1 (le_tr h.1 h0 (Xhh h.1 t.2 b).2)
def Q2(s:Nat)(p:Rat×Rat): Prop:=Qs s p.1/\Qs s p.2
theorem Xh8(b:Nat): Qs (b+1) (Rat.divInt 1 (2^b)):=Qs.divInt (Zs.one (by omega)) (Zs.two (W0a _)) (Xf0 b)
theorem Yby{s b:Nat}{p:Rat×Rat}(h:Q2 s p)(h0:0<=p.2)(hs:1<=s): Q2 (s+3*b+4) (rts p b) :=
 ⟨(Xk4 (Yck h.1 hs) (Xhg _) b).mono (by omega),((Xk4 h.2 h0 b).add (Xh8 b)).mono (by omega)⟩
theorem Xch{s s':Nat}{p q:Rat×Rat}(h:Q2 s p)(j:Q2 s' q): Q2 (s+s') (Xbw p q):=by
 have i:∀y∈p.1*q.1::[p.1*q.2,p.2*q.1,p.2*q.2],Qs (s+s') y:=by
  intro y o
  simp at o
  rcases o with rfl | rfl | rfl | rfl
  . exact h.1.mul j.1
  . exact h.1.mul j.2
  . exact h.2.mul j.1
  . exact h.2.mul j.2
 exact⟨Xvf i,Xvn i⟩
theorem Xl3{s s':Nat}{p q:Rat×Rat}(h:Q2 s p)(i:Q2 s' q): Q2 (s+s'+1) (Xhr p q):=⟨h.1.add i.1,h.2.add i.2⟩
theorem Yid{s:Nat}{p:Rat×Rat}(h:Q2 s p)(b:Nat): Q2 (s+b+1) (rnd p b):=⟨Xw2 h.1 b,Yhh h.2 b⟩
theorem Q2.mono{s s':Nat}{p:Rat×Rat}(h:Q2 s p)(hs:s<=s'): Q2 s' p:=⟨h.1.mono hs,h.2.mono hs⟩
theorem Xi7: ∀ {k:Nat} {t:Tw k} {a:El k} {s b:Nat},Xb8 k t->TS s k t->Sz s (toL k a)->1<=s->Q2 (eB s b k) (enc k t a b)
 | 0,t,a,s,b,h,i,ha,hs=>⟨ha.qs (W0j.2 rfl),ha.qs (W0j.2 rfl)⟩
 | k+1,t,a,s,b,h,i,ha,hs=>by
  have j:=Xi7 (b:=b) h.1 i.1 (Sz.left (l:=toL k a.1) (m:=toL k a.2) ha) hs
  have o:=Xi7 (b:=b) h.1 i.1 (Sz.right (l:=toL k a.1) (m:=toL k a.2) ha) hs
  have I:=Xi7 (b:=b) h.1 i.1 i.2 hs
  have O:=Yab s b k
  show Q2 (3*eB s b k+4*b+6) (if (∀x∈toL k a.2,x=0) then enc k t.1 a.1 b else rnd (Xhr (enc k t.1 a.1 b) (Xbw (enc k t.1 a.2 b) (rts (enc k t.1 t.2 b) b))) b)
  split
  . exact j.mono (by omega)
  . exact(Yid (Xl3 j (Xch o (Yby I (Yc4 h b) (by omega)))) b).mono (by omega)
theorem Xmq(a b:Nat): pw (a+b)=pw a*pw b:=by
 show ((2^(a+b):Int):Rat)=((2^a:Int):Rat)*((2^b:Int):Rat)
 rw[<-W3y,<-Int.pow_add]
theorem Xc2(n:Nat): pw (n+1)=2*pw n:=by rw[Xmq,show pw 1=2 from rfl];grind
theorem Xhe(n:Nat): 1<=pw n:=by
 induction n with
 | zero=>exact W6v
 | succ n h=>rw[Xc2];grind
theorem Xik{a b:Nat}(h:a<=b): pw a<=pw b:=by
 obtain⟨c,rfl⟩:=Nat.le.dest h
 rw[Xmq]
 have i:=W2z (Xhe c) (W2r (Xa3 a))
 grind
theorem Xj2{x y:Rat}(h:0<=x)(k:0<=y): 0<=x*y:=Rat.mul_nonneg h k
theorem Ycl{a b c d:Rat}(h:a<=b)(k:c<=d)(i:0<=c)(hb:0<=b): a*c<=b*d:=by
 have j:=W2s h i
 have o:=W2z k hb
 grind
theorem Xlk{x y X Y:Rat}(h:-X<=x)(i:x<=X)(j:-Y<=y)(o:y<=Y): x*y<=X*Y:=by
 have a:=Xj2 (show 0<=X-x by grind) (show 0<=Y+y by grind)
 have b:=Xj2 (show 0<=X+x by grind) (show 0<=Y-y by grind)
 grind
theorem Xq5{x y:Rat}(j:0<=y)(h:x*x<=y*y): x<=y:=by
 by_cases i:x<=y
 . exact i
 . have o:y<x:=by grind
   have a:=W4w (show 0<x-y by grind) (show 0<x by grind)
   have b:=Xj2 j (show 0<=x-y by grind)
   grind
def Wid(p:Rat×Rat)(e:Nat): Prop:=p.1<=p.2/\(p.2-p.1)*pw e<=1
def Mg(p:Rat×Rat)(m:Nat): Prop:=-pw m<=p.1/\p.2<=pw m
theorem Wid.mono{p:Rat×Rat}{e f:Nat}(h:Wid p e)(hf:f<=e): Wid p f:=by
 refine⟨h.1,?_⟩
 have:=W2z (Xik hf) (show 0<=p.2-p.1 by have:=h.1;grind)
 have:=h.2
 grind
theorem Mg.mono{p:Rat×Rat}{m n:Nat}(h:Mg p m)(i:m<=n): Mg p n:=by
 have:=Xik i
 have j:=h.1
 have o:=h.2
 exact⟨by grind,by grind⟩
structure RtOf (r:Rat×Rat) (b:Nat) (s:Rat×Rat):Prop where
 lo:s.1=Xdu (mx0 r.1) b
 l:Xdu r.2 b<=s.2
 h:s.2<=Xdu r.2 b+Rat.divInt 1 (2^b)
theorem Xdw(b:Nat): 0<Rat.divInt 1 (2^b):=by
 by_cases h:0<Rat.divInt 1 (2^b)
 . exact h
 . have i:=W2s (show Rat.divInt 1 (2^b)<=0 by grind) (W2r (Xa3 b))
   rw[Xdx] at i
   exact absurd i (by grind)
theorem Xtg{b f:Nat}(h:f+1<=b): 2*(Rat.divInt 1 (2^b)*pw f)<=1:=by
 have i:=W2z (Xik h) (W2r (Xdw b))
 rw[Xdx,Xc2] at i
 grind
theorem Xkv(b:Nat): Rat.divInt 1 (2^b)<=1:=by
 have h:=W2z (Xhe b) (W2r (Xdw b))
 rw[Xdx] at h
 grind
theorem Yi2(x:Rat): x<=mx0 x:=by unfold mx0;split<;>grind
theorem Xif{x y:Rat}{b:Nat}(j:0<=x)(h:x<=y): Xdu x b<=Xdu y b:=by
 have hp:=Xa3 b
 refine W2d ?_ hp
 rw[Xfh,Xfh,W3m]
 have o:sq2 x b<=sq2 y b:=W2s h (W2r (W4w hp hp))
 have Q:=Yb1 (Xhc (b:=b) j)
 have T:=Xuf (x:=sq2 y b) (W5s (Xhc (b:=b) j) o)
 by_cases I:(rtF (sq2 x b):Int)<=rtF (sq2 y b)
 . exact I
 . have O:(rtF (sq2 y b):Int)+1<=rtF (sq2 x b):=by omega
   have i:=W3m.2 O
   rw[W6h,show ((1:Int):Rat)=1 from rfl] at i
   have V:(0:Rat)<=((rtF (sq2 y b):Int):Rat):=Rat.intCast_nonneg.2 (by omega)
   have Z:=Ycl i i (by grind) (by grind)
   grind
theorem RtOf.wd{r s:Rat×Rat}{b e f:Nat}(R:RtOf r b s)(hr:Wid r e)(h0:0<=r.2)(hf:2*f<=e)(hb:f+1<=b): s.1<=s.2/\(s.2-s.1)*pw f<=2:=by
 obtain⟨r1,I⟩:=r
 obtain⟨c,d⟩:=s
 obtain⟨V,h2,h3⟩:=R
 dsimp only at *
 have hA:=Xie (b:=b) h0
 have hB:=Xt0 (b:=b) (Xhg r1)
 have O:=Xde (mx0 r1) b
 have hm:=Yi2 r1
 have hu:=Xdw b
 have hul:=Xtg hb
 rw[<-V] at hB O
 have Z:=(hr.mono hf).2
 have i:=Xa3 f
 rw[show 2*f=f+f by omega,Xmq] at Z
 dsimp only at Z
 generalize Rat.divInt 1 (2^b)=h at *
 generalize Q:Xdu I b=A at *
 have key:(A-(c+h))*pw f<=1:=by
  by_cases o:(A-(c+h))*pw f<=1
  . exact o
  . have o:1<(A-(c+h))*pw f:=by grind
    have T:0<A-(c+h):=by
     by_cases T:0<A-(c+h)
     . exact T
     . have:=W2s (show A-(c+h)<=0 by grind) (W2r i)
       grind
    have e1:=Xj2 (W2r T) (show 0<=2*(c+h) by grind)
    have e2:(A-(c+h))*(A-(c+h))<=I-r1:=by grind
    have e3:=W2s e2 (W2r (W4w i i))
    have e4:=Ycl (W2r o) (W2r o) (by decide) (by grind)
    have e5:=W4w (show 0<(A-(c+h))*pw f-1 by grind) (show 0<(A-(c+h))*pw f by grind)
    grind
 refine⟨?_,?_⟩
 . have j:mx0 r1<=I:=by
    have:=hr.1
    unfold mx0
    dsimp only at this
    split
    . exact h0
    . exact this
   have:=Xif (b:=b) (Xhg r1) j
   rw[Q,<-V] at this
   grind
 . have:=W2s (show d-c<=(A-(c+h))+2*h by grind) (W2r i)
   grind
theorem RtOf.mg{r s:Rat×Rat}{b m:Nat}(R:RtOf r b s)(hr:Mg r m)(h0:0<=r.2): 0<=s.1/\s.2<=pw (m+1):=by
 have j:=Xie (b:=b) h0
 have i:=Xde (mx0 r.1) b
 rw[<-R.lo] at i
 refine⟨i,?_⟩
 have o:Xdu r.2 b<=pw m:=by
  refine Xq5 (W2r (Xa3 m)) (W5s j (W5s hr.2 ?_))
  have:=W2z (Xhe m) (W2r (Xa3 m))
  grind
 have I:=R.h
 have O:=Xkv b
 have Q:=Xhe m
 rw[Xc2]
 grind
theorem Xvb(p q:Rat×Rat): (∃v s,(v=p.1\/v=p.2)/\(s=q.1\/s=q.2)/\(Xbw p q).1=v*s)/\∃v s,(v=p.1\/v=p.2)/\(s=q.1\/s=q.2)/\(Xbw p q).2=v*s:=by
 constructor
 . show ∃v s,(v=p.1\/v=p.2)/\(s=q.1\/s=q.2)/\lo2 (lo2 (lo2 (p.1*q.1) (p.1*q.2)) (p.2*q.1)) (p.2*q.2)=v*s
   rcases @Xvp (lo2 (lo2 (p.1*q.1) (p.1*q.2)) (p.2*q.1)) (p.2*q.2) with h | h<;>rw[h]
   . rcases @Xvp (lo2 (p.1*q.1) (p.1*q.2)) (p.2*q.1) with h | h<;>rw[h]
     . rcases @Xvp (p.1*q.1) (p.1*q.2) with h | h<;>rw[h]
       . exact⟨_,_,.inl rfl,.inl rfl,rfl⟩
       . exact⟨_,_,.inl rfl,.inr rfl,rfl⟩
     . exact⟨_,_,.inr rfl,.inl rfl,rfl⟩
   . exact⟨_,_,.inr rfl,.inr rfl,rfl⟩
 . show ∃v s,(v=p.1\/v=p.2)/\(s=q.1\/s=q.2)/\hi2 (hi2 (hi2 (p.1*q.1) (p.1*q.2)) (p.2*q.1)) (p.2*q.2)=v*s
   rcases @Xwf (hi2 (hi2 (p.1*q.1) (p.1*q.2)) (p.2*q.1)) (p.2*q.2) with h | h<;>rw[h]
   . rcases @Xwf (hi2 (p.1*q.1) (p.1*q.2)) (p.2*q.1) with h | h<;>rw[h]
     . rcases @Xwf (p.1*q.1) (p.1*q.2) with h | h<;>rw[h]
       . exact⟨_,_,.inl rfl,.inl rfl,rfl⟩
       . exact⟨_,_,.inl rfl,.inr rfl,rfl⟩
     . exact⟨_,_,.inr rfl,.inl rfl,rfl⟩
   . exact⟨_,_,.inr rfl,.inr rfl,rfl⟩
theorem Xp0{u v r s:Rat×Rat}{b h e f m:Nat}(hu:Wid u f)(hv:Wid v f)(hr:Wid r e)(hf:2*f<=e)(mv:Mg v m)(ms:0<=s.1/\s.2<=pw (m+1))(h0:0<=r.2)(R:RtOf r b s)(hb:f+1<=b)(hb':b<=h)(he:m+3<=f):
 Wid (rnd (Xhr u (Xbw v s)) h) (f-(m+3)):=by
 have hs:=R.wd hr h0 (f:=f) hf hb
 have wu:=hu.2
 have wv:=hv.2
 have hu1:=hu.1
 have hv1:=hv.1
 have hs1:=hs.1
 have T:=hs.2
 have o:=Xa3 f
 have V:=Xa3 m
 obtain⟨⟨v1,s1,I,i,e1⟩,Q,s2,j,O,e2⟩:=Xvb v s
 have hle:=(Xis v s).1
 have hge:=(Xit v s).1
 have hP:(Xbw v s).2-(Xbw v s).1<=pw m*(s.2-s.1)+pw (m+1)*(v.2-v.1):=by
  rw[e1,e2]
  have a1:-pw m<=Q/\Q<=pw m:=by
   have:=mv.1;have:=mv.2
   rcases j with rfl | rfl<;>exact⟨by grind,by grind⟩
  have a2:-(s.2-s.1)<=s2-s1/\s2-s1<=s.2-s.1:=by
   rcases i with rfl | rfl<;>rcases O with rfl | rfl<;>exact⟨by grind,by grind⟩
  have a3:-pw (m+1)<=s1/\s1<=pw (m+1):=by
   have:=ms.1;have:=ms.2;have:=Xa3 (m+1)
   rcases i with rfl | rfl<;>exact⟨by grind,by grind⟩
  have a4:-(v.2-v.1)<=Q-v1/\Q-v1<=v.2-v.1:=by
   rcases I with rfl | rfl<;>rcases j with rfl | rfl<;>exact⟨by grind,by grind⟩
  have b1:=Xlk a1.1 a1.2 a2.1 a2.2
  have b2:=Xlk a3.1 a3.2 a4.1 a4.2
  grind
 have Z:((Xbw v s).2-(Xbw v s).1)*pw f<=pw (m+2):=by
  have c1:=W2s hP (W2r o)
  have c2:=W2z T (W2r V)
  have c3:=W2z wv (W2r (Xa3 (m+1)))
  rw[Xc2,Xc2] at *
  grind
 have d1:=Xw3 (u.1+(Xbw v s).1) h
 have d2:=Ybk (u.2+(Xbw v s).2) h
 have d3:=Xrj (u.1+(Xbw v s).1) h
 have d4:=Xtf (u.2+(Xbw v s).2) h
 have hε:=Xtg (b:=h) (f:=f) (by omega)
 have hεp:=Xdw h
 have hεe:=Xdx h
 have d5:u.1+(Xbw v s).1-Rat.divInt 1 (2^h)<=dnQ (u.1+(Xbw v s).1) h:=by
  refine W2d ?_ (Xa3 h)
  grind
 have d6:upQ (u.2+(Xbw v s).2) h<=u.2+(Xbw v s).2+Rat.divInt 1 (2^h):=by
  refine W2d ?_ (Xa3 h)
  grind
 refine⟨?_,?_⟩
 . show dnQ (u.1+(Xbw v s).1) h<=upQ (u.2+(Xbw v s).2) h
   grind
 . show (upQ (u.2+(Xbw v s).2) h-dnQ (u.1+(Xbw v s).1) h)*pw (f-(m+3))<=1
   refine W2d ?_ (Xa3 (m+3))
   rw[Rat.mul_assoc,<-Xmq,show f-(m+3)+(m+3)=f by omega,Rat.one_mul]
   have g1:=W2s (show upQ (u.2+(Xbw v s).2) h-dnQ (u.1+(Xbw v s).1) h<=(u.2-u.1)+((Xbw v s).2-(Xbw v s).1)+2*Rat.divInt 1 (2^h) by grind) (W2r o)
   have g2:=Xhe (m+1)
   rw[Xc2 (m+1)] at Z
   rw[Xc2 (m+2),Xc2 (m+1)]
   grind
theorem Ydu{u v r s:Rat×Rat}{b i e m:Nat}(j:Wid u e)(o:Wid v e)(hr:Wid r e)(I:Mg v m)(O:Mg r m)(h0:0<=r.2)(R:RtOf r b s)(hb:e/2+1<=b)(h:b<=i)(Q:m+3<=e/2):
 Wid (rnd (Xhr u (Xbw v s)) i) (e/2-(m+3)):=Xp0 (j.mono (by omega)) (o.mono (by omega)) hr (by omega) I (R.mg O h0) h0 R hb h Q
theorem Xp1{u v s:Rat×Rat}{h m j:Nat}(V:Mg u m)(Z:Mg v m)(ms:0<=s.1/\s.2<=pw (j+1))(hs1:s.1<=s.2)(hv1:v.1<=v.2): Mg (rnd (Xhr u (Xbw v s)) h) (m+j+2):=by
 obtain⟨⟨v1,s1,i,o,e1⟩,v2,s2,I,O,e2⟩:=Xvb v s
 have Q:∀x y,(x=v.1\/x=v.2)->(y=s.1\/y=s.2)->-(pw m*pw (j+1))<=x*y/\x*y<=pw m*pw (j+1):=by
  intro x y hx hy
  have a1:-pw m<=x/\x<=pw m:=by
   have:=Z.1;have:=Z.2
   rcases hx with rfl | rfl<;>exact⟨by grind,by grind⟩
  have T:-pw (j+1)<=y/\y<=pw (j+1):=by
   have:=ms.1;have:=ms.2;have:=Xa3 (j+1)
   rcases hy with rfl | rfl<;>exact⟨by grind,by grind⟩
  have b1:=Xlk a1.1 a1.2 T.1 T.2
  have b2:=Xlk (x:=-x) (show -pw m<=-x by grind) (show -x<=pw m by grind) T.1 T.2
  exact⟨by grind,b1⟩
 have k1:=(Q _ _ i o).1
 have k2:=(Q _ _ I O).2
 rw[<-e1] at k1
 rw[<-e2] at k2
 have hεe:=Xdx h
 have hε1:=Xkv h
 have d1:=Xw3 (u.1+(Xbw v s).1) h
 have d2:=Ybk (u.2+(Xbw v s).2) h
 have d5:u.1+(Xbw v s).1-Rat.divInt 1 (2^h)<=dnQ (u.1+(Xbw v s).1) h:=by
  refine W2d ?_ (Xa3 h)
  grind
 have d6:upQ (u.2+(Xbw v s).2) h<=u.2+(Xbw v s).2+Rat.divInt 1 (2^h):=by
  refine W2d ?_ (Xa3 h)
  grind
 have e3:pw (m+j+2)=2*(pw m*pw (j+1)):=by rw[<-Xmq,<-Xc2];congr 1
 have e4:pw m+1<=pw m*pw (j+1):=by
  have h1:=Xhe m
  have h3:=Xhe j
  have h2:=W2z (show 2<=pw (j+1) by rw[Xc2];grind) (W2r (Xa3 m))
  grind
 have m1:=V.1
 have m2:=V.2
 refine⟨?_,?_⟩
 . show -pw (m+j+2)<=dnQ (u.1+(Xbw v s).1) h
   rw[e3];grind
 . show upQ (u.2+(Xbw v s).2) h<=pw (m+j+2)
   rw[e3];grind
theorem Ydw{u v r s:Rat×Rat}{b j m:Nat}(o:Mg u m)(I:Mg v m)(O:Mg r m)(h0:0<=r.2)(h:s.1<=s.2)(i:v.1<=v.2)(R:RtOf r b s): Mg (rnd (Xhr u (Xbw v s)) j) (2*m+2):=by
 rw[show 2*m+2=m+m+2 by omega];exact Xp1 o I (R.mg O h0) h i
def mW(m:Nat): Nat->Nat
 | 0=>m
 | k+1=>2*mW m k+2
def eW(m b:Nat): Nat->Nat
 | 0=>2*b-2
 | k+1=>eW m b k/2-(mW m k+3)
theorem Ykg(m b:Nat): ∀k,eW m b k<=2*b-2
 | 0=>W0a _
 | k+1=>by have:=Ykg m b k;show eW m b k/2-(mW m k+3)<=_;omega
theorem Yi7{m:Nat}{x:Rat}(h:Qs m x): Mg (x,x) m:=by
 have i:=h.n
 unfold Zs at i
 have e:=Xlj x
 have hd:(1:Rat)<=(x.den:Rat):=by
  have:((1:Int):Rat)<=((x.den:Int):Rat):=W3m.2 (by have:=x.den_pos;omega)
  exact this
 have I:((x.num:Int):Rat) <= pw m := W3m.2 (by have:(x.num.natAbs:Int) < ((2^m:Nat):Int) := by exact_mod_cast i
                                               have j:((2^m:Nat):Int)=2^m:=by simp
                                               omega)
 have O:-pw m<=((x.num:Int):Rat):=by
  have o:((-(2^m):Int):Rat) <= ((x.num:Int):Rat) := W3m.2 (by have:(x.num.natAbs:Int) < ((2^m:Nat):Int) := by exact_mod_cast i
                                                              have j:((2^m:Nat):Int)=2^m:=by simp
                                                              omega)
  rwa[W7s] at o
 have hp:=Xa3 m
 refine⟨?_,?_⟩
 . show -pw m<=x
   by_cases h0:0<=x
   . grind
   . have:=Xj2 (show 0<=-x by grind) (show 0<=(x.den:Rat)-1 by grind)
     grind
 . show x<=pw m
   by_cases h0:0<=x
   . have:=Xj2 h0 (show 0<=(x.den:Rat)-1 by grind)
     grind
   . grind
def MgL(m:Nat)(l:List Rat): Prop:=∀x∈l,Qs m x
def MgT(m:Nat): (k:Nat)->Tw k->Prop
 | 0,_=>True
 | k+1,t=>MgT m k t.1/\MgL m (toL k t.2)
theorem Ybz(r:Rat×Rat)(b:Nat): RtOf r b (rts r b):=⟨rfl,by have:=Xdw b;show _<=Xdu r.2 b+_;grind,W6v⟩
theorem Xwy{k:Nat}{t:Tw k}(h:Xb8 k t)(a:El k)(b:Nat): (enc k t a b).1<=(enc k t a b).2:=Ycs h (Xhh h a b)
theorem Xnb: ∀ {k:Nat} {t:Tw k} {a:El k} {m:Nat} (b:Nat),Xb8 k t->MgT m k t->MgL m (toL k a)->Mg (enc k t a b) (mW m k)
 | 0,t,a,m,b,h,i,ha=>Yi7 (ha _ (W0j.2 rfl))
 | k+1,t,a,m,b,h,i,ha=>by
  have o:=Xnb (a:=a.1) b h.1 i.1 λx j=>ha x (W2m _ j)
  have I:=Xnb (a:=a.2) b h.1 i.1 λx j=>ha x (W1p _ j)
  have O:=Xnb b h.1 i.1 i.2
  have h0:0<=(enc k t.1 t.2 b).2:=by
   have h0:le k t.1 (rat k 0) t.2:=(Xio h.1).2 (by rw[h.2];decide)
   exact(Xbm h.1).1 (le_tr h.1 h0 (Xhh h.1 t.2 b).2)
  show Mg (if (∀x∈toL k a.2,x=0) then enc k t.1 a.1 b else rnd (Xhr (enc k t.1 a.1 b) (Xbw (enc k t.1 a.2 b) (rts (enc k t.1 t.2 b) b))) b) (2*mW m k+2)
  split
  . exact o.mono (by omega)
  . refine Ydw o I O h0 ?_ (Xwy h.1 _ _) (Ybz _ b)
    have Q:=Xwy h.1 t.2 b
    have T:mx0 (enc k t.1 t.2 b).1<=(enc k t.1 t.2 b).2:=by unfold mx0;split<;>assumption
    have:=Xif (b:=b) (Xhg _) T
    have:=Xdw b
    show Xdu (mx0 (enc k t.1 t.2 b).1) b<=Xdu (enc k t.1 t.2 b).2 b+Rat.divInt 1 (2^b)
    grind
theorem Xrg: ∀ {k:Nat} {t:Tw k} {a:El k} {m b:Nat},Xb8 k t->MgT m k t->MgL m (toL k a)->0<eW m b k->Wid (enc k t a b) (eW m b k)
 | 0,t,a,m,b,h,i,ha,o=>⟨W6v,(λ(x:Rat)=>(by grind:(x-x)*pw (eW m b 0)<=1)) a⟩
 | k+1,t,a,m,b,h,i,ha,o=>by
  have O:0<eW m b k/2-(mW m k+3):=o
  have Q:=Ykg m b k
  have I:=Xrg (a:=a.1) (m:=m) (b:=b) h.1 i.1 (λx j=>ha x (W2m _ j)) (by omega)
  have T:=Xrg (a:=a.2) (m:=m) (b:=b) h.1 i.1 (λx j=>ha x (W1p _ j)) (by omega)
  have V:=Xrg (m:=m) (b:=b) h.1 i.1 i.2 (by omega)
  have Z:=Xnb (a:=a.2) b h.1 i.1 λx j=>ha x (W1p _ j)
  have mr:=Xnb b h.1 i.1 i.2
  have h0:0<=(enc k t.1 t.2 b).2:=by
   have h0:le k t.1 (rat k 0) t.2:=(Xio h.1).2 (by rw[h.2];decide)
   exact(Xbm h.1).1 (le_tr h.1 h0 (Xhh h.1 t.2 b).2)
  show Wid (if (∀x∈toL k a.2,x=0) then enc k t.1 a.1 b else rnd (Xhr (enc k t.1 a.1 b) (Xbw (enc k t.1 a.2 b) (rts (enc k t.1 t.2 b) b))) b) (eW m b k/2-(mW m k+3))
  split
  . exact I.mono (by omega)
  . exact Ydu I T V Z mr h0 (Ybz _ b) (by omega) (W0a _) (by omega)
end
section
theorem Xo9{s b i:Nat}(h:b<=i): ∀k,eB s b k<=eB s i k
 | 0=>W0a _
 | k+1=>by have:=Xo9 (s:=s) h k;show 3*eB s b k+4*b+6<=3*eB s i k+4*i+6;omega
theorem Ymh{x y:Rat}{b:Nat}: Xni (y-x) (Rat.divInt 1 (2^b))<=0↔(y-x)*pw b<=1:=by
 rw[Xlw]
 have h:=Xdx b
 constructor
 . intro i
   have:=W2s (show y-x<=Rat.divInt 1 (2^b) by grind) (W2r (Xa3 b))
   rwa[h] at this
 . intro i j
   have:=W4w (show 0<y-x-Rat.divInt 1 (2^b) by grind) (Xa3 b)
   grind
def Xdj(k:Nat)(t:Tw k)(a:El k)(z:Int): Prop:=le k t (rat k (z:Rat)) a/\sgn k t (add k a (neg k (rat k ((z+1:Int):Rat))))=-1
theorem Ycm{k:Nat}{t:Tw k}(h:Xb8 k t){a b:El k}: sgn k t (add k a (neg k b))=-1↔¬le k t b a:=by
 unfold le
 have:=(Xaq h).tri (add k a (neg k b))
 omega
theorem Xdj.uniq{k:Nat}{t:Tw k}{a:El k}{z o:Int}(h:Xb8 k t)(i:Xdj k t a z)(j:Xdj k t a o): z=o:=by
 have I:∀z o,Xdj k t a z->Xdj k t a o->z<=o:=by
  intro z o i j
  by_cases O:z<=o
  . exact O
  . exact absurd (le_tr h ((Xbm h).2 (W3m.2 (show o+1<=z by omega))) i.1) ((Ycm h).1 j.2)
 have:=I _ _ i j
 have:=I _ _ j i
 omega
theorem Xz0{k:Nat}{t:Tw k}{a:El k}{x y:Rat}(h:Xb8 k t)(i:inI k t a x y)(I:Wid (x,y) 1): (sgn k t (add k a (neg k (rat k (y.floor:Rat))))<0->Xdj k t a (y.floor-1))/\(¬sgn k t (add k a (neg k (rat k (y.floor:Rat))))<0->Xdj k t a y.floor):=by
 have T:=@Rat.floor_le y
 have V:=@Rat.lt_floor y
 have Z:(y-x)*2<=1:=I.2
 have o:((1:Int):Rat)=1:=rfl
 have j:sgn k t (add k a (neg k (rat k ((y.floor+1:Int):Rat))))=-1:=by
  rw[Ycm h]
  intro O
  have:=(Xbm h).1 (le_tr h O i.2)
  rw[W6h,o] at this
  grind
 refine⟨λQ=>⟨le_tr h ((Xbm h).2 ?_) i.1,?_⟩,λQ=>⟨?_,j⟩⟩
 . rw[Rat.intCast_sub,o]
   grind
 . rw[show y.floor-1+1=y.floor by omega]
   have:=(Xaq h).tri (add k a (neg k (rat k (y.floor:Rat))))
   omega
 . show 0<=_
   omega
noncomputable def rtb(p:Rat×Rat)(b:Nat): Rat×Rat:=(Xdu (mx0 p.1) b,Xt1 p.2 b)
noncomputable def bx: (k:Nat)->Tw k->El k->Nat->Rat×Rat
 | 0=>λ_ (x:Rat) _=>(x,x)
 | k+1=>λt a b=>rnd (Xhr (bx k t.1 a.1 b) (Xbw (bx k t.1 a.2 b) (rtb (bx k t.1 t.2 b) b))) (b+20)
theorem Xn7(x:Rat)(b:Nat): Xt1 x b*pw b=((Xty (sq2 x b):Int):Rat):=by
 unfold Xt1
 rw[W5l]
 have h:=Xa3 b
 show ((Xty (sq2 x b):Int):Rat)/pw b*pw b=_
 rw[W5g (by grind)]
theorem Yd1(x:Rat): (Xty x=rtF x/\x<=((rtF x:Int):Rat)*((rtF x:Int):Rat))\/Xty x=rtF x+1:=by
 unfold Xty
 split
 . exact .inr rfl
 . rename_i h
   rw[W3y] at h
   exact .inl ⟨rfl,by grind⟩
theorem Xmg(x:Rat): ((rtF x:Int):Rat)<=((Xty x:Int):Rat)/\((Xty x:Int):Rat)<=((rtF x:Int):Rat)+1/\(0<=x->x<=((Xty x:Int):Rat)*((Xty x:Int):Rat)):=by
 have i:((1:Int):Rat)=1:=rfl
 rcases Yd1 x with ⟨h,j⟩ | h
 . rw[h];exact⟨W6v,by grind,λ_=>j⟩
 . have e:((Xty x:Int):Rat)=((rtF x:Int):Rat)+1:=by
    rw[h,<-i,<-W6h];congr 1
   rw[e]
   exact⟨by grind,W6v,λh0=>W2r (Xuf h0)⟩
theorem Xqf(r:Rat×Rat)(b:Nat): RtOf r b (rtb r b):=by
 have h:=Xmg (sq2 r.2 b)
 have hp:=Xa3 b
 refine⟨rfl,?_,?_⟩
 . refine W2d ?_ hp
   rw[Xfh]
   show _<=Xt1 r.2 b*pw b
   rw[Xn7];exact h.1
 . refine W2d ?_ hp
   show Xt1 r.2 b*pw b<=_
   have e:=Xfh r.2 b
   have i:=Xdx b
   have j:=Xn7 r.2 b
   have o:=h.2.1
   grind
theorem Xyx{x:Rat}{b:Nat}(h:0<=x): x<=Xt1 x b*Xt1 x b:=by
 have hp:=Xa3 b
 have i:=W4w hp hp
 refine W2d ?_ i
 have j:=(Xmg (sq2 x b)).2.2 (Xhc h)
 rw[<-Xn7] at j
 have o:sq2 x b=x*(pw b*pw b):=rfl
 rw[<-o]
 have I:Xt1 x b*Xt1 x b*(pw b*pw b)=Xt1 x b*pw b*(Xt1 x b*pw b):=by grind
 rw[I];exact j
theorem Yng{x:Rat}{b:Nat}: Xdu (mx0 x) b*Xdu (mx0 x) b<=x\/Xdu (mx0 x) b=0:=by
 have h:=Xie (b:=b) (Xhg x)
 by_cases h0:x<0
 . right
   have e:mx0 x=0:=if_pos h0
   rw[e] at h |-
   have j:=Xde 0 b
   by_cases i:Xdu 0 b=0
   . exact i
   . have:=W4w (show 0<Xdu 0 b by grind) (show 0<Xdu 0 b by grind)
     grind
 . left
   have e:mx0 x=x:=if_neg h0
   rw[e] at h |-
   exact h
theorem Xmk{k:Nat}{t:Tw (k+1)}(h:Xb8 (k+1) t){x y:Rat}(i:inI k t.1 t.2 x y): 0<=y:=by
 have h0:le k t.1 (rat k 0) t.2:=(Xio h.1).2 (by rw[h.2];decide)
 exact(Xbm h.1).1 (le_tr h.1 h0 i.2)
theorem Ydx{k:Nat}{t:Tw (k+1)}(h:Xb8 (k+1) t){a:El (k+1)}{u v r s:Rat×Rat}{b o:Nat}(i:inI k t.1 a.1 u.1 u.2)(j:inI k t.1 a.2 v.1 v.2)(I:inI k t.1 t.2 r.1 r.2)(R:RtOf r b s)(hs:r.2<=s.2*s.2):
 inI (k+1) t a (rnd (Xhr u (Xbw v s)) o).1 (rnd (Xhr u (Xbw v s)) o).2:=by
 have i:=Xm0 (t:=t) h.1 i
 have j:=Xm0 (t:=t) h.1 j
 have Q:=Xmk h I
 have h0:0<=s.1:=by rw[R.lo];exact Xde _ _
 have T:0<=s.2:=W5s (Xde _ _) R.l
 have is:=Xv6 h I (c:=s.1) (d:=s.2) h0 T (by rw[R.lo];exact Yng) hs
 have im:=Xv7 h j is h0 (Xis v s).1 (Xis v s).2.1 (Xit v s).2.2.1 (Xit v s).2.2.2
 have O:=Xv8 h i im
 rw[<-Xri a] at O
 exact Xq8 h O (Xrj _ _) (Xtf _ _)
theorem Xpd{k:Nat}{t:Tw (k+1)}{a:El (k+1)}{b:Nat}: bx (k+1) t a b=rnd (Xhr (bx k t.1 a.1 b) (Xbw (bx k t.1 a.2 b) (rtb (bx k t.1 t.2 b) b))) (b+20):=rfl
theorem Xpe: ∀ {k:Nat} {t:Tw k} (h:Xb8 k t) (a:El k) (b:Nat),inI k t a (bx k t a b).1 (bx k t a b).2
 | 0,t,h,a,b=>⟨(Xaq h).le_rf (Xay 0 t) a,(Xaq h).le_rf (Xay 0 t) a⟩
 | k+1,t,h,a,b=>by
  have j:=Xpe h.1 a.1 b
  have o:=Xpe h.1 a.2 b
  have i:=Xpe h.1 t.2 b
  have hs:(bx k t.1 t.2 b).2<=(rtb (bx k t.1 t.2 b) b).2*(rtb (bx k t.1 t.2 b) b).2:=Xyx (Xmk h i)
  have R:=Xqf (bx k t.1 t.2 b) b
  rw[Xpd]
  generalize rtb (bx k t.1 t.2 b) b=s at *
  exact Ydx h j o i R hs
theorem Yk0{k:Nat}{t:Tw k}(h:Xb8 k t)(a:El k)(b:Nat): (bx k t a b).1<=(bx k t a b).2:=Ycs h (Xpe h a b)
theorem Yh5{r:Rat×Rat}{b:Nat}(h0:0<=r.2)(h:r.1<=r.2): (rtb r b).1<=(rtb r b).2:=by
 have i:mx0 r.1<=r.2:=by unfold mx0;split<;>assumption
 exact W5s (Xif (b:=b) (Xhg _) i) (Xqf r b).l
def bB(s b:Nat): Nat->Nat
 | 0=>s
 | k+1=>3*bB s b k+3*b+30
end
section
abbrev dI(p:Rat×Rat): D:=.st (.pr (dq p.1) (dq p.2))
theorem Yj5{a b h i:D}{g:Hp}{K:Hpl}(j:a=h)(o:b=i): Fit g K (.d (.st (.pr a b))) (.d (.st (.pr h i))):=.eq (by rw[j,o])
abbrev zq: AV:=.st (.pr (.st (.pr (.b false) .nil)) (.st (.pr (.b false) .nil)))
abbrev zI: AV:=.st (.pr zq zq)
theorem Xo2{x:Rat}{r:List Rat}{s:Nat}(hx:∀y∈x::r,Qs s y)(hs:s+3<=4398046511104)(hn:r.length<=1000): C0 251 [.d (dqs (x::r))] (·=.d (dI (Xvg x r,Xvo x r))):=by
 refine En Tryz.func251 λ_ _ _=>?_
 refine Dz rfl ?_
 refine Ix 0 rfl (u:=dq x) rfl ?_
 refine Ix 0 rfl (u:=dq x) rfl ?_
 refine Dp 1 (r.map dq) rfl rfl (by simp) rfl ?_
 refine Lo (λ(q:Nat×Rat×Rat)=>[(2,.ptr 2 0),(3,.ptr 3 0),(4,.ptr 4 0),(15,.d (dqs r)),(16,.d (.int .i64 (r.map dq).length)),(17,.d (.int .i64 q.1))]) (λq=>[(2,.var zI),(3,.var (.d (dq q.2.1))),(4,.var (.d (dq q.2.2)))]) (λq=>q.1<=r.length/\q.2.1=Xvg x (r.take q.1)/\q.2.2=Xvo x (r.take q.1)) (λq=>r.length-q.1) (0,x,x) [] rfl ⟨W0w _,rfl,rfl⟩ (λ(k,lo,hi) ⟨hk,i,j⟩=>?_)
 simp only at hk i j
 have V:Qs s lo:=i ▸ Xvf (Xur hx k)
 have I:Qs s hi:=j ▸ Xvn (Xur hx k)
 refine By rfl (λh=>?_) λh=>?_
 . have h:(k:Int)<((r.map dq).length:Nat):=h
   rw[lq] at h
   obtain⟨y,hy⟩:=qat (l:=r) (k:=k) (by omega)
   have qy:Qs s y:=hx y (W0o _ (W0h hy))
   have e:r.take (k+1)=r.take k++[y]:=by rw[W2c,hy];rfl
   have e1:Xvg x (r.take (k+1))=lo2 lo y:=by rw[e,Xve,i]
   have e2:Xvo x (r.take (k+1))=hi2 hi y:=by rw[e,Xvm,j]
   have o:∀O Q,O=lo2 lo y->Q=hi2 hi y->k+1<=r.length/\O=Xvg x (r.take (k+1))/\Q=Xvo x (r.take (k+1)):=λO Q a b=>⟨by omega,by rw[a,e1],by rw[b,e2]⟩
   refine Ix k rfl (mp hy) ?_
   refine Ce rfl (Xbv qy V (by omega)) ?_
   refine By rfl (λZ=>?_) λZ=>?_
   . refine Ce rfl (Xbv qy I (by omega)) ?_
     refine By rfl (λT=>?_) λT=>?_
     . refine Ar (k+1:Nat) rfl ?_ (wr (show (k:Int)+1=((k+1:Nat):Int) by omega) (by simp only[inK];omega))
       exact Bk (k+1,y,y) [] rfl (o y y (if_pos (Yf0.1 Z)).symm (if_pos (Xxi.1 T)).symm) (by show r.length-(k+1)<r.length-k;omega)
     . refine Ar (k+1:Nat) rfl ?_ (wr (show (k:Int)+1=((k+1:Nat):Int) by omega) (by simp only[inK];omega))
       exact Bk (k+1,y,hi) [] rfl (o y hi (if_pos (Yf0.1 Z)).symm (if_neg λh=>T (Xxi.2 h)).symm) (by show r.length-(k+1)<r.length-k;omega)
   . refine Ce rfl (Xbv qy I (by omega)) ?_
     refine By rfl (λT=>?_) λT=>?_
     . refine Ar (k+1:Nat) rfl ?_ (wr (show (k:Int)+1=((k+1:Nat):Int) by omega) (by simp only[inK];omega))
       exact Bk (k+1,lo,y) [] rfl (o lo y (if_neg λh=>Z (Yf0.2 h)).symm (if_pos (Xxi.1 T)).symm) (by show r.length-(k+1)<r.length-k;omega)
     . refine Ar (k+1:Nat) rfl ?_ (wr (show (k:Int)+1=((k+1:Nat):Int) by omega) (by simp only[inK];omega))
       exact Bk (k+1,lo,hi) [] rfl (o lo hi (if_neg λh=>Z (Yf0.2 h)).symm (if_neg λh=>T (Xxi.2 h)).symm) (by show r.length-(k+1)<r.length-k;omega)
 . have h:¬(k:Int)<((r.map dq).length:Nat):=h
   rw[lq] at h
   rw[W0b (by omega)] at i j
   refine Ce rfl (Xau (z:=0) (by decide)) ?_
   refine Dw rfl ?_
   refine Ce rfl (Xd4 (y:=0) V qs0 (by omega)) ?_
   refine Ce rfl (Xd4 (y:=0) I qs0 (by omega)) ?_
   exact R1 rfl (Yj5 (by rw[W7g,i]) (by rw[W7g,j]))
section
variable{p q:Rat×Rat}{s t:Nat}
theorem Xds{x:Rat}(i:Qs s x)(hs:s+3<=4398046511104): C0 305 [.d (dq x)] (·=.d (dI (x,x))):=by
 have j:Xvg x [x]=x:=by show lo2 x x=x;unfold lo2;split<;>rfl
 have o:Xvo x [x]=x:=by show hi2 x x=x;unfold hi2;split<;>rfl
 have:=Xo2 (x:=x) (r:=[x]) (s:=s) (λy h=>by simp at h;rw[h];exact i) hs (by simp)
 rw[j,o] at this
 refine En Tryz.func305 λ_ _ _=>?_
 refine Ce rfl this ?_
 exact R1 rfl (.rf rfl)
theorem Xgf(hp:Q2 s p)(hs:2*s+1<=4398046511104): C0 109 [.d (dI p)] (·=.d (dq (p.2-p.1))):=by
 refine En Tryz.func109 λ_ _ _=>?_
 refine Ce rfl (Xoh hp.2 hp.1 (by omega)) ?_
 exact R1 rfl (.rf rfl)
theorem Xfm(hp:Q2 s p)(hq:Q2 t q)(hs:s+t+1<=4398046511104): C0 179 [.d (dI p),.d (dI q)] (·=.d (dI (Xhr p q))):=by
 refine En Tryz.func179 λ_ _ _=>?_
 refine Dw rfl ?_
 refine Ce rfl (Xd4 hp.1 hq.1 (by omega)) ?_
 refine Ce rfl (Xd4 hp.2 hq.2 (by omega)) ?_
 exact R1 rfl (Yj5 rfl rfl)
theorem Xfl(hp:Q2 s p)(hq:Q2 t q)(hs:s+t+3<=4398046511104): C0 180 [.d (dI p),.d (dI q)] (·=.d (dI (Xbw p q))):=by
 have i:=Xo2 (x:=p.1*q.1) (r:=[p.1*q.2,p.2*q.1,p.2*q.2]) (s:=s+t) (λy h=>by
  simp only[W1i,List.not_mem_nil,or_false] at h
  rcases h with rfl | rfl | rfl | rfl
  . exact hp.1.mul hq.1
  . exact hp.1.mul hq.2
  . exact hp.2.mul hq.1
  . exact hp.2.mul hq.2) hs (by simp)
 refine En Tryz.func180 λ_ _ _=>?_
 refine Dw rfl ?_
 refine Ce rfl (Xen hp.1 hq.1 (by omega)) ?_
 refine Ce rfl (Xen hp.1 hq.2 (by omega)) ?_
 refine Ce rfl (Xen hp.2 hq.1 (by omega)) ?_
 refine Ce rfl (Xen hp.2 hq.2 (by omega)) ?_
 refine Ce rfl i ?_
 exact R1 rfl (.rf rfl)
end
theorem Ykk{n m r:Nat}(hr:n/m=r)(h:0<m)(i:n<9223372036854775808): arB .quo .i64 n m r:=show _/\_ from⟨by omega,by
 rw[show Int.tdiv (n:Int) (m:Int)=((n/m:Nat):Int) from rfl,hr]
 have:=W3o n m
 exact wI (by omega)⟩
theorem Xc3{n:Nat}(h:n<=8796093022200): C0 246 [.d (.int .i64 n)] (·=.d (dz (2^n:Int))):=by
 have e:(2^n:Int)=((2^n:Nat):Int):=by simp
 refine En Tryz.func246 λ_ _ _=>?_
 refine Ar (n/32:Nat) rfl ?_ (Ykk (m:=32) rfl (by decide) (by omega))
 refine Ar (n/32+1:Nat) rfl ?_
 refine Mk (n/32+1) rfl (by omega) ?_
 refine Ar (n/32:Nat) rfl ?_ (Ykk (m:=32) rfl (by decide) (by omega))
 refine Ar (n%32:Nat) rfl ?_ (show _/\_ from⟨by decide,Xr2 n 32⟩)
 refine Ar (2^(n%32):Nat) rfl ?_ (Xf4 (W1s _ (by decide)))
 refine Eo (n/32) rfl (by omega) ?_
 refine Sto rfl (by simp) rfl ?_
 refine R1 rfl (.sd (.pd (.bd (by rw[e];exact(decide_eq_false (by have:=Int.pow_pos (n:=2) (m:=n) (by decide);omega)).symm)) (.own rfl (by simp) ?_)))
 rw[e,W1j,Xlv,W1e,W0b (by simp),<-ms,W2j]
 rfl
theorem Xb5(x:Rat): (x.den:Int)≠0:=by have:=x.den_nz;omega
section
variable{x:Rat}{s b:Nat}
theorem Xw0(h:Qs s x)(hb:b<=1099511627776)(hs:s<=1099511627776): C0 342 [.d (dq x),.d (.int .i64 b)] (·=.d (dq (dnQ x b))):=by
 have hp:=h.mul (Xoj b)
 have i:Zs (b+1) (2^b:Int):=Zs.two (W0a _)
 have j:=(h.n.mul i).len (by omega)
 have l1:=h.n.len (by omega)
 have I:=i.len (by omega)
 have O:=h.d.len (by omega)
 have o:=Make_ok (p:=s+b+1) (a:=(x*pw b).floor) (b:=2^b) ((Zs.floor hp).mono (by omega)) (i.mono (by omega)) (by omega) (Xf0 b)
 have hd:=DivMod_ok (a:=x.num*2^b) (b:=x.den) (by omega) (by omega) (Xb5 x)
 rw[Xh1] at hd
 refine En Tryz.func342 λ_ _ _=>?_
 refine Ce rfl (Xc3 (n:=b) (by omega)) ?_
 refine Dz rfl ?_
 refine Ce rfl (Mul_ok (by omega) (by omega)) ?_
 refine Ce rfl hd ?_
 refine Ce rfl o ?_
 exact R1 rfl (.rf rfl)
theorem Ymi(h:Qs s x)(hb:b<=1099511627776)(hs:s<=1099511627776): C0 343 [.d (dq x),.d (.int .i64 b)] (·=.d (dq (upQ x b))):=by
 refine En Tryz.func343 λ_ _ _=>?_
 refine Ce rfl (Xfk h (by omega)) ?_
 refine Ce rfl (Xw0 h.neg hb hs) ?_
 refine Ce rfl (Xfk (Xw2 h.neg b) (by omega)) ?_
 exact R1 rfl (.rf rfl)
theorem Xy4{p:Rat×Rat}(hp:Q2 s p)(hb:b<=1099511627776)(hs:s<=1099511627776): C0 306 [.d (dI p),.d (.int .i64 b)] (·=.d (dI (rnd p b))):=by
 refine En Tryz.func306 λ_ _ _=>?_
 refine Dw rfl ?_
 refine Ce rfl (Xw0 hp.1 hb hs) ?_
 refine Ce rfl (Ymi hp.2 hb hs) ?_
 exact R1 rfl (Yj5 rfl rfl)
theorem Xdb(i:Qs s x)(h:0<=x)(hb:b<=1099511627776)(hs:s<=1099511627776): C0 344 [.d (dq x),.d (.int .i64 b)] (·=.d (dq (Xdu x b))):=by
 have j:Zs (2*b+1) (2^(2*b):Int):=Zs.two (W0a _)
 have O:=(i.n.mul j).len (by omega)
 have o:=Ybr (b:=b) i
 have nx:=Xhc (b:=b) h
 have Q:=Yb0 o nx
 have I:=Zs.floor o
 rw[Xet nx] at I
 have T:=Ye3 (show (sq2 x b).floor.toNat<_ from I)
 have l1:=i.n.len (by omega)
 have V:=j.len (by omega)
 have Z:=i.d.len (by omega)
 have hd:=DivMod_ok (a:=x.num*2^(2*b)) (b:=x.den) (by omega) (by omega) (Xb5 x)
 rw[Xyw b h] at hd
 refine En Tryz.func344 λ_ _ _=>?_
 refine Dz rfl ?_
 refine Ar (2*b:Nat) rfl ?_
 refine Ce rfl (Xc3 (n:=2*b) (by omega)) ?_
 refine Ce rfl (Mul_ok (by omega) (by omega)) ?_
 refine Ce rfl hd ?_
 refine Ce rfl (Sqrt_ok (a:=(sq2 x b).floor.toNat) (by omega)) ?_
 refine Dz rfl ?_
 refine Ce rfl (Xc3 (n:=b) (by omega)) ?_
 refine Ce rfl (Make_ok (p:=s+(2*b+2)) (a:=(rtF (sq2 x b):Int)) (b:=2^b) Q (Zs.two (by omega)) (by omega) (Xf0 b)) ?_
 exact R1 rfl (.rf rfl)
theorem Xy5{p:Rat×Rat}(hp:Q2 s p)(i:0<=p.2)(hb:b<=1099511627776)(o:1<=s)(hs:s<=1099511627776): C0 307 [.d (dI p),.d (.int .i64 b)] (·=.d (dI (rts p b))):=by
 have I:=Yck hp.1 o
 have j:=Make_ok (p:=b+1) (a:=1) (b:=2^b) (Zs.one (by omega)) (Zs.two (W0a _)) (by omega) (Xf0 b)
 refine En Tryz.func307 λ_ _ _=>?_
 refine Ce rfl (Xf8 hp.1 (by omega)) ?_
 refine By rfl (λh=>?_) λh=>?_
 . have e:mx0 p.1=0:=if_pos (Ykt.1 h)
   rw[e] at I
   refine Ce rfl (Xau (z:=0) (by decide)) ?_
   refine Ce rfl (FromInt_ok (z:=1) (by decide)) ?_
   refine Ce rfl (Xc3 (n:=b) (by omega)) ?_
   refine Ce rfl j ?_
   refine Dw rfl ?_
   refine Ce rfl (Xdb (x:=0) I W6v hb hs) ?_
   refine Ce rfl (Xdb hp.2 i hb hs) ?_
   refine Ce rfl (Xd4 (Xk4 hp.2 i b) (Xh8 b) (by omega)) ?_
   exact R1 rfl (Yj5 (by show dq _=dq (Xdu (mx0 p.1) b);rw[e]) rfl)
 . have e:mx0 p.1=p.1:=if_neg (λe=>h (Ykt.2 e))
   refine Ce rfl (FromInt_ok (z:=1) (by decide)) ?_
   refine Ce rfl (Xc3 (n:=b) (by omega)) ?_
   refine Ce rfl j ?_
   refine Dw rfl ?_
   refine Ce rfl (Xdb hp.1 (by rw[<-e];exact Xhg _) hb hs) ?_
   refine Ce rfl (Xdb hp.2 i hb hs) ?_
   refine Ce rfl (Xd4 (Xk4 hp.2 i b) (Xh8 b) (by omega)) ?_
   exact R1 rfl (Yj5 (by show dq _=dq (Xdu (mx0 p.1) b);rw[e]) rfl)
end
theorem Xso{k:Nat}: ∀ {s b:Nat} {t:Tw k} {a:Tow.El k},Xb8 k t->TS s k t->Sz s (toL k a)->1<=s->k<=16->eB s b k<=274877906944->b<=274877906944->C0 247 [.d (dt t),.d (de a),.d (.int .i64 b)] (·=.d (dI (enc k t a b))):=by
 induction k with
 | zero =>
  intro s b t a o j ha i hk hs hb
  have hs:s<=274877906944:=hs
  have T:∀y:Rat,Qs s y->C0 247 [.d (dts []),.d (dqs [y]),.d (.int .i64 b)] (·=.d (dI (y,y))):=λy I=>by
   refine En Tryz.func247 λ_ _ _=>?_
   refine Yes rfl rfl ?_
   refine Ix 0 rfl (u:=dq y) rfl ?_
   refine Ce rfl (Xds I (by omega)) ?_
   exact R1 rfl (.rf rfl)
  exact T a (ha.qs (W0j.2 rfl))
 | succ k V =>
  intro s b t a o j ha i hk hs hb
  have hx:Sz s (toL k a.1):=Sz.left ha
  have I:Sz s (toL k a.2):=Sz.right ha
  have hge:=Yab s b k
  have hs':3*eB s b k+4*b+6<=274877906944:=hs
  have qu:=Xi7 (b:=b) o.1 j.1 hx i
  have qv:=Xi7 (b:=b) o.1 j.1 I i
  have qr:=Xi7 (b:=b) o.1 j.1 j.2 i
  have O:=Yc4 o b
  have qs:=Yby (b:=b) qr O (by omega)
  have qm:=Xch qv qs
  have qa:=Xl3 qu qm
  have Q:=Xab k
  have hp:=p16 hk
  refine En Tryz.func247 λ_ _ _=>?_
  refine No rfl (by show ¬((((toT k t.1++[toL k t.2]).map dqs).length:Nat):Int)=0;rw[twL];omega) ?_
  refine Ar k rfl ?_ (tw1 t (by omega))
  refine Ar (2^k:Nat) rfl ?_ (hvq a (by omega))
  refine Tk k ((toT k t.1).map dqs) rfl rfl (Xjj t) (twT t) ?_
  refine Tk (2^k) ((toL k a.1).map dq) rfl rfl (Xci a) (hvT a) ?_
  refine Ce rfl (V o.1 j.1 hx i (by omega) (by omega) hb) ?_
  refine Dp (2^k) ((toL k a.2).map dq) rfl rfl (Xci a) (hvD a) ?_
  refine Ce rfl (Xe0 (l:=toL k a.2) I.ps (by omega) (by rw[Q];have:=p16 (show k<=16 by omega);omega)) ?_
  refine By rfl (λh=>?_) λh=>?_
  . have Z:enc (k+1) t a b=enc k t.1 a.1 b:=if_pos h
    exact R1 rfl (by rw[Z];exact .rf rfl)
  . have Z:enc (k+1) t a b=rnd (Xhr (enc k t.1 a.1 b) (Xbw (enc k t.1 a.2 b) (rts (enc k t.1 t.2 b) b))) b:=if_neg h
    refine Dz rfl ?_
    refine Dp (2^k) ((toL k a.2).map dq) rfl rfl (Xci a) (hvD a) ?_
    refine Ce rfl (V o.1 j.1 I i (by omega) (by omega) hb) ?_
    refine Ix k rfl (twU t) ?_
    refine Ce rfl (V o.1 j.1 j.2 i (by omega) (by omega) hb) ?_
    refine Dw rfl ?_
    refine Ce rfl (Xy5 qr O (by omega) (by omega) (by omega)) ?_
    refine Ce rfl (Xfl qv qs (by omega)) ?_
    refine Ce rfl (Xfm qu qm (by omega)) ?_
    refine Ce rfl (Xy4 qa (by omega) (by omega)) ?_
    rw[Z]
    exact R1 rfl (.rf rfl)
theorem Xha{k:Nat}{t:Tw k}{a:Tow.El k}{bits P s:Nat}(j:Xb8 k t)(hw:∀b,P<=b->Wid (enc k t a b) bits)(Q:TS s k t)(ha:Sz s (toL k a))(o:1<=s)(V:k<=16)(Z:vB s k s<=4398046511104)(hb:bits<=1024)(hP:P<=1000000000)(he:eB s (2*(P+bits+16)) k<=274877906944):
 C0 177 [.d (dt t),.d (de a),.d (.int .i64 bits)] λv=>∃p:Rat×Rat,v=.d (dI p)/\inI k t a p.1 p.2/\Wid p bits/\Q2 (eB s (2*(P+bits+16)) k) p:=by
 have I:s<=4398046511104:=W0m (Xdv k s) Z
 obtain⟨B,hB⟩:∃B,B=eB s (2*(P+bits+16)) k:=⟨_,rfl⟩
 rw[<-hB] at he |-
 have hq:∀b,b<=2*(P+bits+16)->Q2 B (enc k t a b):=λb hb=>(Xi7 j Q ha o).mono (by rw[hB];exact Xo9 hb k)
 refine En Tryz.func177 λ_ _ _=>?_
 refine No rfl (by omega) ?_
 refine No rfl (by omega) ?_
 refine Ce rfl (Xg5 (l:=[toL k a]) (s:=s) Q j V Z I (λx hx=>⟨a,W0j.1 hx,ha⟩) (by simp) I) ?_
 refine No rfl (by simp) ?_
 refine Ce rfl (FromInt_ok (z:=1) (by decide)) ?_
 refine Ce rfl (Xc3 (n:=bits) (by omega)) ?_
 refine Ce rfl (Make_ok (p:=bits+1) (a:=1) (b:=2^bits) (Zs.one (by omega)) (Zs.two (W0a _)) (by omega) (Xf0 bits)) ?_
 refine Ar (bits+16:Nat) rfl ?_
 refine Lo (λ(g:Nat)=>[(0,.d (dt t)),(1,.d (de a)),(6,.ptr 6 0),(7,.ptr 7 0),(9,.d (.int .i64 g))]) (λ_=>[(6,.var (.st (.pr (.st (.pr (.st (.pr (.b false) .nil)) (.st (.pr (.b false) .nil)))) (.st (.pr (.st (.pr (.b false) .nil)) (.st (.pr (.b false) .nil))))))),(7,.var (.d (dq (Rat.divInt 1 (2^bits)))))]) (λg=>1<=g/\g<=2*(P+bits+16)) (λg=>2*(P+bits+16)-g) (bits+16) [] rfl ⟨by omega,by omega⟩ (λg ⟨hg1,hg⟩=>?_)
 have i:=hq g hg
 have T:eB s g k<=274877906944:=W0m (Xo9 hg k) (by omega)
 refine Ce rfl (Xso j Q ha o V T (by omega)) ?_
 refine Dw rfl ?_
 refine Ce rfl (Xgf i (by omega)) ?_
 refine Ce rfl (Xbv (by rw[W6e];exact i.2.add i.1.neg) (Xh8 bits) (by omega)) ?_
 refine By rfl (λh=>?_) λh=>?_
 . exact Rt rfl (.one (.rf rfl) rfl rfl) ⟨_,rfl,Xhh j a g,⟨Xwy j a g,Ymh.1 h⟩,i⟩
 . have O:g<P:=by
    by_cases O:g<P
    . exact O
    . exact absurd (Ymh.2 (hw g (by omega)).2) h
   refine Ar (2*g:Nat) rfl ?_
   exact Bk (2*g) [] rfl ⟨by omega,by omega⟩ (by show 2*(P+bits+16)-2*g<2*(P+bits+16)-g;omega)
end
end Go.Proofs.YtfjafaehfjjaiaaGreatDoor
namespace Go.Proofs.YtfjafaehfjjaiaaGreatDoor.P20
open Go Go.Vm Go.Num Go.Tow Go.Proofs.YtfjafaehfjjaiaaGreatDoor
section
variable{s b:Nat}{x:Rat}
def Ygt(p q:Rat×Rat): Rat×Rat:=(p.1-q.2,p.2-q.1)
theorem Xwc{n:Nat}(h:n<=8796093022200): C0 361 [.d (.int .i64 n)] (·=.d (dz (2^n:Int))):=by
 have e:(2^n:Int)=((2^n:Nat):Int):=by simp
 refine En Tryz.func361 λ_ _ _=>?_
 refine Ar (n/32:Nat) rfl ?_ (Ykk (m:=32) rfl (by decide) (by omega))
 refine Ar (n/32+1:Nat) rfl ?_
 refine Mk (n/32+1) rfl (by omega) ?_
 refine Ar (n/32:Nat) rfl ?_ (Ykk (m:=32) rfl (by decide) (by omega))
 refine Ar (n%32:Nat) rfl ?_ (show _/\_ from⟨by decide,Xr2 n 32⟩)
 refine Ar (2^(n%32):Nat) rfl ?_ (Xf4 (W1s _ (by decide)))
 refine Eo (n/32) rfl (by omega) ?_
 refine Sto rfl (by simp) rfl ?_
 refine R1 rfl (.sd (.pd (.bd (by rw[e];exact(decide_eq_false (Int.not_lt.2 (W5d _))).symm)) (.own rfl (by simp) ?_)))
 rw[e,W1j,Xlv,W1e,W0b (by simp),<-ms,W2j]
 rfl
theorem Xwb{p q:Rat×Rat}{t:Nat}(hp:Q2 s p)(hq:Q2 t q)(hs:s+t+1<=4398046511104): C0 311 [.d (dI p),.d (dI q)] (·=.d (dI (Ygt p q))):=by
 refine En Tryz.func311 λ_ _ _=>?_
 refine Dw rfl ?_
 refine Ce rfl (Xoh hp.1 hq.2 (by omega)) ?_
 refine Ce rfl (Xoh hp.2 hq.1 (by omega)) ?_
 exact R0
theorem Xh0(h:Qs s x)(hb:b<=1099511627776)(hs:s<=1099511627776): C0 363 [.d (dq x),.d (dz (2^b:Int))] (·=.d (dz (x*pw b).floor)):=by
 have i:Zs (b+1) (2^b:Int):=Zs.two (W0a _)
 have j:=(h.n.mul i).len (by omega)
 have l1:=h.n.len (by omega)
 have o:=i.len (by omega)
 have I:=h.d.len (by omega)
 have hd:=DivMod_ok (a:=x.num*2^b) (b:=x.den) (by omega) (by omega) (Xb5 x)
 rw[Xh1] at hd
 refine En Tryz.func363 λ_ _ _=>?_
 refine Dz rfl ?_
 refine Ce rfl (Mul_ok (by omega) (by omega)) ?_
 refine Ce rfl hd ?_
 exact R0
theorem Yf5(h:Qs s x)(hb:b<=1099511627776)(hs:s<=1099511627776): C0 364 [.d (dq x),.d (dz (2^b:Int))] (·=.d (dz (-((-x)*pw b).floor))):=by
 have hf:=Zs.floor (h.neg.mul (Xoj b))
 have i:=hf.len (by omega)
 refine En Tryz.func364 λ_ _ _=>?_
 refine Dw rfl ?_
 refine Ce rfl (Xfk h (by omega)) ?_
 refine Ce rfl (Xh0 h.neg hb hs) ?_
 refine Ce rfl (Neg_ok (by omega)) ?_
 exact R0
theorem Xuw{n:Int}{p:Nat}(h:Zs p n)(hp:p<=1099511627776)(hb:b<=1099511627776): C0 362 [.d (dz n),.d (dz (2^b:Int))] (·=.d (dq (Rat.divInt n (2^b)))):=by
 refine En Tryz.func362 λ_ _ _=>?_
 refine Ce rfl (Make_ok (p:=p+b+1) (h.mono (by omega)) (Zs.two (by omega)) (by omega) (Xf0 b)) ?_
 exact R0
theorem Yhi{x:Rat}{b:Nat}: upQ x b=Rat.divInt (-((-x)*pw b).floor) (2^b):=by
 unfold upQ dnQ
 rw[Rat.neg_divInt]
theorem Xer{p:Rat×Rat}(hp:Q2 s p)(hb:b<=4096)(hs:s<=1099511627): C0 347 [.d (dI p),.d (.int .i64 b)] (·=.d (dI (rnd p b))):=by
 have h:=Zs.floor (hp.1.mul (Xoj b))
 have i:=(Zs.floor (hp.2.neg.mul (Xoj b))).neg
 refine En Tryz.func347 λ_ _ _=>?_
 refine No rfl (by omega) ?_
 refine No rfl (by omega) ?_
 refine Ce rfl (Xwc (n:=b) (by omega)) ?_
 refine Dw rfl ?_
 refine Ce rfl (Xh0 hp.1 (by omega) (by omega)) ?_
 refine Ce rfl (Xuw h (by omega) (by omega)) ?_
 refine Ce rfl (Yf5 hp.2 (by omega) (by omega)) ?_
 refine Ce rfl (Xuw i (by omega) (by omega)) ?_
 rw[<-Yhi]
 exact R0
def Xcd(p q:Rat×Rat): Rat×Rat:=(hi2 p.1 q.1,lo2 p.2 q.2)
theorem Xzv{p q:Rat×Rat}(hp:Q2 s p)(hq:Q2 s q)(hs:s<=1099511627)(h:¬(Xcd p q).2<(Xcd p q).1): C0 309 [.d (dI p),.d (dI q)] (·=.tup (.pr (.d (dI (Xcd p q))) (.b true))):=by
 have q1:Qs s (Xcd p q).1:=Ycw hp.1 hq.1
 have q2:Qs s (Xcd p q).2:=Ycn hp.2 hq.2
 have T:=Xo2 (x:=(Xcd p q).1) (r:=[(Xcd p q).2]) (s:=s) (λy V=>by
  simp only[W1i,List.not_mem_nil,or_false] at V
  rcases V with rfl | rfl
  . exact q1
  . exact q2) (by omega) (by simp)
 have j:Xvg (Xcd p q).1 [(Xcd p q).2]=(Xcd p q).1:=if_neg h
 have i:Xvo (Xcd p q).1 [(Xcd p q).2]=(Xcd p q).2:=by
  show (if (Xcd p q).1<(Xcd p q).2 then (Xcd p q).2 else (Xcd p q).1)=_
  split
  . rfl
  . grind
 rw[j,i] at T
 have o:∀ {l u:Rat},l=(Xcd p q).1->u=(Xcd p q).2->C0 251 [.d (dqs [l,u])] (·=.d (dI (Xcd p q))):=λe f=>by rw[e,f];exact T
 have I:∀ {l u:Rat},l=(Xcd p q).1->u=(Xcd p q).2->¬Xni l u>0:=λe f=>by rw[e,f,Xxi];exact h
 refine En Tryz.func309 λ_ _ _=>?_
 refine Dz rfl ?_
 refine Ce rfl (Xbv hq.1 hp.1 (by omega)) ?_
 refine By rfl (λQ=>?_) λQ=>?_
 . have j:q.1=(Xcd p q).1:=(if_pos (Xxi.1 Q)).symm
   refine Ce rfl (Xbv hq.2 hp.2 (by omega)) ?_
   refine By rfl (λO=>?_) λO=>?_
   . have i:q.2=(Xcd p q).2:=(if_pos (Yf0.1 O)).symm
     refine Ce rfl (Xbv (x:=q.1) (y:=q.2) hq.1 hq.2 (by omega)) ?_
     refine No rfl (I j i) ?_
     refine Ce rfl (o j i) ?_
     exact RTt rfl (.cons (.rf rfl) (.one (.rf rfl) (λ_ _ e=>by cases e) (λ_ _ e=>by cases e)))
   . have i:p.2=(Xcd p q).2:=(if_neg λh=>O (Yf0.2 h)).symm
     refine Ce rfl (Xbv (x:=q.1) (y:=p.2) hq.1 hp.2 (by omega)) ?_
     refine No rfl (I j i) ?_
     refine Ce rfl (o j i) ?_
     exact RTt rfl (.cons (.rf rfl) (.one (.rf rfl) (λ_ _ e=>by cases e) (λ_ _ e=>by cases e)))
 . have j:p.1=(Xcd p q).1:=(if_neg λh=>Q (Xxi.2 h)).symm
   refine Ce rfl (Xbv hq.2 hp.2 (by omega)) ?_
   refine By rfl (λO=>?_) λO=>?_
   . have i:q.2=(Xcd p q).2:=(if_pos (Yf0.1 O)).symm
     refine Ce rfl (Xbv (x:=p.1) (y:=q.2) hp.1 hq.2 (by omega)) ?_
     refine No rfl (I j i) ?_
     refine Ce rfl (o j i) ?_
     exact RTt rfl (.cons (.rf rfl) (.one (.rf rfl) (λ_ _ e=>by cases e) (λ_ _ e=>by cases e)))
   . have i:p.2=(Xcd p q).2:=(if_neg λh=>O (Yf0.2 h)).symm
     refine Ce rfl (Xbv (x:=p.1) (y:=p.2) hp.1 hp.2 (by omega)) ?_
     refine No rfl (I j i) ?_
     refine Ce rfl (o j i) ?_
     exact RTt rfl (.cons (.rf rfl) (.one (.rf rfl) (λ_ _ e=>by cases e) (λ_ _ e=>by cases e)))
end
section
def sm(p:Rat×Rat): Bool:=Nat.ble (p.1.num.natAbs+1) (2^250)&&Nat.ble (p.1.den+1) (2^250)&&Nat.ble (p.2.num.natAbs+1) (2^250)&&Nat.ble (p.2.den+1) (2^250)
theorem Xny{p:Rat×Rat}(h:sm p=true): Q2 250 p:=by
 unfold sm at h
 simp only[W0g] at h
 obtain⟨⟨⟨i,j⟩,o⟩,I⟩:=h
 have i:=W1g i
 have j:=W1g j
 have o:=W1g o
 have I:=W1g I
 exact⟨⟨i,by show ((p.1.den:Int)).natAbs<_;rw[W1j];exact j⟩,⟨o,by show ((p.2.den:Int)).natAbs<_;rw[W1j];exact I⟩⟩
def Xl8(b k:Nat)(P:Rat×Rat): Rat×Rat:=rnd (Xbw P (Rat.divInt 1 (2*k+1:Nat),Rat.divInt 1 (2*k+1:Nat))) b
def Yla(k:Nat)(S T:Rat×Rat): Rat×Rat:=if k%2=0 then Xhr S T else Ygt S T
def Yl7(b:Nat)(Q:Rat×Rat): Nat->Nat->Rat×Rat->Rat×Rat->Option (Rat×Rat)
 | 0,_,_,_=>none
 | n+1,k,P,S=>if sm P&&sm (Xl8 b k P)&&sm S&&sm (Yla k S (Xl8 b k P)) then
  (if 2*k+1>b then some (Xhr (Yla k S (Xl8 b k P)) (-(Xl8 b k P).2,(Xl8 b k P).2)) else Yl7 b Q n (k+1) (rnd (Xbw P Q) b) (Yla k S (Xl8 b k P))) else none
def Ygf(z:Rat)(b:Nat): Rat×Rat:=rnd (z,z) b
def Yg2(z:Rat)(b:Nat): Rat×Rat:=rnd (Xbw (Ygf z b) (Ygf z b)) b
def Xyd(z:Rat)(b:Nat): Option (Rat×Rat):=if sm (z,z)&&sm (Ygf z b)&&sm (Yg2 z b) then Yl7 b (Yg2 z b) 150 0 (Ygf z b) (0,0) else none
theorem Yqa{a m:Nat}(h:0<m): arB .rem .i64 a m (a%m:Nat):=R9.remN h
theorem Ync{a b:Nat}(h:a*b<9223372036854775808): arB .mul .i64 a b (a*b:Nat):=by
 show IntKind.i64.wrap ((a:Int)*b)=((a*b:Nat):Int)
 rw[W2n]
 exact wI (by rw[<-W2n];omega)
theorem Xwn{k:Nat}(h:k<=1000): Qs 40 (Rat.divInt 1 (2*k+1:Nat)):=Qs.divInt (Zs.one (by decide)) (show (((2*k+1:Nat):Int)).natAbs<2^40 by rw[W1j];omega) (by omega)
theorem Yk9{z:Rat}{b:Nat}{R:Rat×Rat}(hb:b<=300)(h:Xyd z b=some R): C0 312 [.d (dq z),.d (.int .i64 b)] (·=.d (dI R)):=by
 unfold Xyd at h
 split at h<;>try cases h
 rename_i o
 simp only[W0g] at o
 obtain⟨⟨c1,c2⟩,c3⟩:=o
 have q1:=(Xny c1)
 have q2:=(Xny c2)
 have I:=(Xny c3)
 refine En Tryz.func312 λ_ _ _=>?_
 refine Ce rfl (Xds q1.1 (by decide)) ?_
 refine Ce rfl (Xer q1 (by omega) (by decide)) ?_
 refine Ce rfl (Xfl (p:=Ygf z b) (q:=Ygf z b) q2 q2 (by decide)) ?_
 refine Ce rfl (Xer (Xch q2 q2) (by omega) (by decide)) ?_
 refine Ce rfl (Xau (z:=0) (by decide)) ?_
 refine Ce rfl (Xds (x:=0) qs0 (by decide)) ?_
 refine Lo (λ(s:Nat×Nat×(Rat×Rat)×(Rat×Rat))=>[(1,.d (.int .i64 b)),(4,.ptr 4 0),(5,.ptr 5 0),(6,.ptr 6 0),(7,.ptr 7 0),(8,.d (.int .i64 s.2.1))]) (λs=>[(4,.var zI),(5,.var (.d (dI s.2.2.1))),(6,.var (.d (dI (Yg2 z b)))),(7,.var (.d (dI s.2.2.2)))]) (λs=>s.1+s.2.1<=150/\Yl7 b (Yg2 z b) s.1 s.2.1 s.2.2.1 s.2.2.2=some R) (λs=>s.1) (150,0,Ygf z b,(0,0)) [] rfl ⟨W0a _,h⟩ (λ(n,k,P,S) ⟨hn,i⟩=>?_)
 simp only at hn i
 cases n with
 | zero=>cases i
 | succ n =>
  unfold Yl7 at i
  split at i<;>try cases i
  rename_i o
  simp only[W0g] at o
  obtain⟨⟨⟨c4,c5⟩,c6⟩,c7⟩:=o
  have q4:=(Xny c4)
  have j:=(Xny c5)
  have Z:=(Xny c6)
  have O:=(Xny c7)
  have Q:Q2 40 (Rat.divInt 1 (2*k+1:Nat),Rat.divInt 1 (2*k+1:Nat)):=⟨Xwn (by omega),Xwn (by omega)⟩
  refine Dw rfl ?_
  refine Ar (2*k:Nat) rfl ?_ (Ync (a:=2) (b:=k) (by omega))
  refine Ar (2*k+1:Nat) rfl ?_ (wr (show ((2*k:Nat):Int)+1=((2*k+1:Nat):Int) by omega) (by simp only[inK];omega))
  refine Ce rfl (Xcl (a:=1) (b:=(2*k+1:Nat)) (by omega) (by omega)) ?_
  refine Ce rfl (Xds Q.1 (by decide)) ?_
  refine Ce rfl (Xfl q4 Q (by decide)) ?_
  refine Ce rfl (Xer (Xch q4 Q) (by omega) (by decide)) ?_
  refine Ar (k%2:Nat) rfl ?_ (Yqa (a:=k) (m:=2) (by decide))
  refine By rfl (λh1=>?_) λh1=>?_
  . have T:Yla k S (Xl8 b k P)=Xhr S (Xl8 b k P):=if_pos (by omega)
    rw[T] at i O
    refine Ce rfl (Xfm Z j (by decide)) ?_
    refine Ar (2*k:Nat) rfl ?_ (Ync (a:=2) (b:=k) (by omega))
    refine Ar (2*k+1:Nat) rfl ?_ (wr (show ((2*k:Nat):Int)+1=((2*k+1:Nat):Int) by omega) (by simp only[inK];omega))
    refine By rfl (λV=>?_) λV=>?_
    . rw[if_pos (by omega)] at i
      injection i with i
      refine Dw rfl ?_
      refine Ce rfl (Xfk j.2 (by decide)) ?_
      refine Ce rfl (Xfm (p:=Xhr S (Xl8 b k P)) (q:=(-(Xl8 b k P).2,(Xl8 b k P).2)) O ⟨j.2.neg,j.2⟩ (by decide)) ?_
      rw[i]
      exact R0
    . rw[if_neg (by omega)] at i
      refine Ce rfl (Xfl q4 I (by decide)) ?_
      refine Ce rfl (Xer (Xch q4 I) (by omega) (by decide)) ?_
      refine Ar (k+1:Nat) rfl ?_ (wr (show (k:Int)+1=((k+1:Nat):Int) by omega) (by simp only[inK];omega))
      exact Bk (n,k+1,rnd (Xbw P (Yg2 z b)) b,Xhr S (Xl8 b k P)) [] rfl ⟨by show n+(k+1)<=150;omega,i⟩ (show n<n+1 by omega)
  . have T:Yla k S (Xl8 b k P)=Ygt S (Xl8 b k P):=if_neg (by omega)
    rw[T] at i O
    refine Ce rfl (Xwb Z j (by decide)) ?_
    refine Ar (2*k:Nat) rfl ?_ (Ync (a:=2) (b:=k) (by omega))
    refine Ar (2*k+1:Nat) rfl ?_ (wr (show ((2*k:Nat):Int)+1=((2*k+1:Nat):Int) by omega) (by simp only[inK];omega))
    refine By rfl (λV=>?_) λV=>?_
    . rw[if_pos (by omega)] at i
      injection i with i
      refine Dw rfl ?_
      refine Ce rfl (Xfk j.2 (by decide)) ?_
      refine Ce rfl (Xfm (p:=Ygt S (Xl8 b k P)) (q:=(-(Xl8 b k P).2,(Xl8 b k P).2)) O ⟨j.2.neg,j.2⟩ (by decide)) ?_
      rw[i]
      exact R0
    . rw[if_neg (by omega)] at i
      refine Ce rfl (Xfl q4 I (by decide)) ?_
      refine Ce rfl (Xer (Xch q4 I) (by omega) (by decide)) ?_
      refine Ar (k+1:Nat) rfl ?_ (wr (show (k:Int)+1=((k+1:Nat):Int) by omega) (by simp only[inK];omega))
      exact Bk (n,k+1,rnd (Xbw P (Yg2 z b)) b,Ygt S (Xl8 b k P)) [] rfl ⟨by show n+(k+1)<=150;omega,i⟩ (show n<n+1 by omega)
end
end Go.Proofs.YtfjafaehfjjaiaaGreatDoor.P20
namespace Go.Proofs.YtfjafaehfjjaiaaGreatDoor.P9
open Go Go.Vm Go.Num Go.Tow Go.Proofs.YtfjafaehfjjaiaaGreatDoor
end Go.Proofs.YtfjafaehfjjaiaaGreatDoor.P9
namespace Go.Proofs.YtfjafaehfjjaiaaGreatDoor.P55
open Go Go.Vm Go.Num Go.Tow Go.Proofs.YtfjafaehfjjaiaaGreatDoor
def Qp(s:Nat)(p:Rat×Rat): Prop:=Qs s p.1/\Qs s p.2
abbrev v0(p:Rat×Rat): Vn:=⟨⟨0,(),p.1⟩,⟨0,(),p.2⟩⟩
theorem W0: Wn (K:=0) () ([]:List (Tow.El 0)) []:=⟨Ymc.wd trivial (W0w _) nofun,λz h=>nomatch h⟩
theorem g0{q:Rat}{s:Nat}(h:Qs s q)(hs:s<=10000:=by decide): Gd (K:=0) () [] [] 1 ⟨0,(),q⟩ q:=by
 have h0:NOk (K:=0) () ([]:List (Tow.El 0)) 0 (s+1) ⟨0,(),q⟩ (Tow.rat 0 q):=⟨⟨λ_=>zero _,⟨trivial,trivial,λi hi=>absurd hi (W4r _)⟩,rfl⟩,trivial,Sz.rat 0 h⟩
 have j:Gs (K:=0) () ([]:List (Tow.El 0)) [] (gB 1) (Tow.rat 0 q):=(Gs.rat h).mono (by unfold gB;omega)
 exact⟨h0.re W0.w W0.h j,j,W0a _⟩
theorem gv0{p:Rat×Rat}{s:Nat}(h:Qp s p)(hs:s<=10000:=by decide): Gv (K:=0) () [] [] 1 (v0 p) p:=⟨g0 h.1 hs,g0 h.2 hs⟩
theorem zw{r p:Nat}{x:Nm}{v:Rat}(h:NOk (K:=0) () ([]:List (Tow.El 0)) r p x v): x=⟨0,(),v⟩:=by
 obtain⟨ρ,j,i⟩:=h.ex
 obtain⟨k,t,a⟩:=x
 have o:k<=([]:List (Tow.El 0)).length:=j.le (show Xb8 0 () from trivial)
 obtain rfl:k=0:=Nat.le_zero.1 o
 have i:(a:Rat)=v:=i
 rw[<-i]
 cases t
 rfl
theorem Xlp{n:Nat}{v:Vn}{p:Rat×Rat}(h:Gv (K:=0) () ([]:List (Tow.El 0)) [] n v p): v=v0 p:=by
 obtain⟨x,y⟩:=v
 rw[show x=_ from zw h.x.o,show y=_ from zw h.y.o]
instance {p:Nat} {z:Int}:Decidable (Zs p z):=inferInstanceAs (Decidable (z.natAbs<2^p))
instance {p:Nat} {x:Rat}:Decidable (Qs p x):=decidable_of_iff (Zs p x.num/\Zs p x.den) ⟨λh=>⟨h.1,h.2⟩,λh=>⟨h.1,h.2⟩⟩
instance {p:Nat} {x:Rat×Rat}:Decidable (Qp p x):=by unfold Qp;infer_instance
end Go.Proofs.YtfjafaehfjjaiaaGreatDoor.P55
namespace Go.Proofs.YtfjafaehfjjaiaaGreatDoor.P20
open Go Go.Vm Go.Num Go.Tow Go.Proofs.YtfjafaehfjjaiaaGreatDoor
open Go.Proofs.YtfjafaehfjjaiaaGreatDoor.P55 (v0 W0 g0 gv0 zw Xlp Qp)
abbrev nr(q:Rat): Nm:=⟨0,(),q⟩
instance {p:Nat} {x:Rat×Rat}:Decidable (Q2 p x):=by unfold Q2;infer_instance
def Xkl(z:Rat)(b:Nat): Rat×Rat:=(Xyd z b).getD (0,0)
theorem Yge{z:Rat}{b:Nat}(h:(Xyd z b).isSome=true): Xyd z b=some (Xkl z b):=by
 unfold Xkl
 cases e:Xyd z b with
 | none=>rw[e] at h;cases h
 | some R=>rfl
abbrev z5: Rat:=Rat.divInt 1 5
abbrev Ylp: Rat:=Rat.divInt 1 239
theorem a5: (Xyd z5 186).isSome=true:=by decide +kernel
theorem Yqq: (Xyd Ylp 186).isSome=true:=by decide +kernel
theorem a0: (Xyd 0 186).isSome=true:=by decide +kernel
def pt(x:Rat): Rat×Rat:=(x,x)
def qV: Rat×Rat:=Ygt (Xbw (Xkl z5 186) (pt 8)) (Xbw (Xkl Ylp 186) (pt 2))
def rV: Rat×Rat:=Xhr (Xhr ((Xkl 0 186).1,(Xkl 0 186).2) (Xbw qV (pt 1))) (Xbw qV (pt 0))
def hp: Nat->Rat
 | 0=>1
 | n+1=>hp n*Rat.divInt 1 2
theorem Ynu: (sm (Xkl z5 186)&&sm (Xkl Ylp 186)&&sm (Xkl 0 186)&&sm qV&&sm rV&&decide (rV.2-rV.1<=hp 138))=true:=by decide +kernel
theorem Xpg{z:Rat}(h:(Xyd z 186).isSome=true): C0 312 [.d (dq z),.d (.int .i64 186)] (·=.d (dI (Xkl z 186))):=Yk9 (b:=186) (by decide) (Yge h)
theorem fct: sm (Xkl z5 186)=true/\sm (Xkl Ylp 186)=true/\sm (Xkl 0 186)=true/\sm qV=true/\sm rV=true/\rV.2-rV.1<=hp 138:=by
 have:=Ynu
 simp only[W0g,decide_eq_true_eq] at this
 obtain⟨⟨⟨⟨⟨h,i⟩,j⟩,o⟩,I⟩,O⟩:=this
 exact⟨h,i,j,o,I,O⟩
theorem Xse{n:Int}(h:Zs 64 n): Q2 64 (pt (n:Rat)):=⟨Qs.int h (by decide),Qs.int h (by decide)⟩
theorem Xf3{p:Rat×Rat}{n:Int}(hp:Q2 250 p)(h:-9223372036854775808<=n/\n<9223372036854775808): C0 249 [.d (dI p),.d (.int .i64 n)] (·=.d (dI (Xbw p (pt (n:Rat))))):=by
 have hq:=Xse (n:=n) (by unfold Zs;omega)
 refine En Tryz.func249 λ_ _ _=>?_
 refine Dw rfl ?_
 refine Ce rfl (Xau h) ?_
 refine Ce rfl (Xds hq.1 (by decide)) ?_
 refine Ce rfl (Xfl (q:=pt (n:Rat)) hp hq (by decide)) ?_
 exact R0
theorem Xjx: C0 250 [.d (.int .i64 186)] (·=.d (dI qV)):=by
 obtain⟨h,i,_⟩:=fct
 have q1:=Xny h
 have q2:=Xny i
 refine En Tryz.func250 λ_ _ _=>?_
 refine Ce rfl (Xcl (a:=1) (b:=5) (by decide) (by decide)) ?_
 refine Ce rfl (Xpg a5) ?_
 refine Ce rfl (Xf3 (n:=8) q1 (by decide)) ?_
 refine Ce rfl (Xcl (a:=1) (b:=239) (by decide) (by decide)) ?_
 refine Ce rfl (Xpg Yqq) ?_
 refine Ce rfl (Xf3 (n:=2) q2 (by decide)) ?_
 refine Ce rfl (Xwb (Xch q1 (Xse (n:=8) (by decide))) (Xch q2 (Xse (n:=2) (by decide))) (by decide)) ?_
 exact R0
theorem Xic: C0 310 [.d (dq 0),.d (.int .i64 186)] (·=.d (dI (Xkl 0 186))):=by
 refine En Tryz.func310 λ_ _ _=>?_
 refine Ce rfl (Xcl (a:=1) (b:=2) (by decide) (by decide)) ?_
 refine Ce rfl (Xbv (x:=0) (p:=1) (q:=40) qs0 (Qs.divInt (Zs.one (by decide)) (by decide) (by decide)) (by decide)) ?_
 refine Yes rfl (by decide +kernel) ?_
 refine Ce rfl (Xpg a0) ?_
 exact R0
theorem Yfr{x:Rat}{b:Nat}(h:Qs 64 x): C0 247 [.d (dts []),.d (dqs [x]),.d (.int .i64 b)] (·=.d (dI (pt x))):=by
 refine En Tryz.func247 λ_ _ _=>?_
 refine Yes rfl rfl ?_
 refine Ix 0 rfl (u:=dq x) rfl ?_
 refine Ce rfl (Xds h (by decide)) ?_
 exact R0
theorem Xfu{x:Rat}{bits:Nat}(h:Qs 64 x)(hb:bits<=1000): C0 177 [.d (dts []),.d (dqs [x]),.d (.int .i64 bits)] (·=.d (dI (pt x))):=by
 have i:Qs 129 ((pt x).2-(pt x).1):=by rw[W6e];exact h.add h.neg
 refine En Tryz.func177 λ_ _ _=>?_
 refine No rfl (by omega) ?_
 refine No rfl (by omega) ?_
 refine Ce rfl (Xg5 (k:=0) (t:=()) (l:=[[x]]) (r:=1) (s:=65) trivial trivial (by decide) (by decide) (by decide) (λy j=>⟨(x:Rat),W0j.1 j,Sz.rat 0 h⟩) (by simp) (by decide)) ?_
 refine No rfl (by simp) ?_
 refine Ce rfl (FromInt_ok (z:=1) (by decide)) ?_
 refine Ce rfl (Xc3 (n:=bits) (by omega)) ?_
 refine Ce rfl (Make_ok (p:=bits+1) (a:=1) (b:=2^bits) (Zs.one (by omega)) (Zs.two (W0a _)) (by omega) (Xf0 bits)) ?_
 refine Ar (bits+16:Nat) rfl ?_
 refine Lo (λ_:Unit=>[(0,.d (dts [])),(1,.d (dqs [x])),(6,.ptr 6 0),(7,.ptr 7 0),(9,.d (.int .i64 (bits+16:Nat)))]) (λ_=>[(6,.var zI),(7,.var (.d (dq (Rat.divInt 1 (2^bits)))))]) (λ_=>True) (λ_=>0) () [] rfl trivial (λ_ _=>?_)
 refine Ce rfl (Yfr h) ?_
 refine Dw rfl ?_
 refine Ce rfl (Xgf (p:=pt x) ⟨h,h⟩ (by decide)) ?_
 refine Ce rfl (Xbv (x:=(pt x).2-(pt x).1) i (Xh8 bits) (by omega)) ?_
 refine Yes rfl (by
  rw[Xlw]
  have:=Xdw bits
  show ¬_<x-x
  rw[Rat.sub_self]
  grind) ?_
 exact R0
theorem Xsc: C0 248 [.d (dV (v0 (0,1))),.d (.int .i64 186)] (·=.tup (.pr (.d (dI (Xhr ((Xkl 0 186).1,(Xkl 0 186).2) (Xbw qV (pt 1))))) (.d (.int .i64 0)))):=by
 obtain⟨_,_,T,V,_⟩:=fct
 have Z:=Xny T
 have q4:=Xny V
 have h:Qs 64 0:=by decide +kernel
 have j:Qs 64 1:=by decide +kernel
 refine En Tryz.func248 λ_ _ _=>?_
 refine Lo (λi:Nat=>[(1,.d (.int .i64 186)),(2,.ptr 2 0),(4,.ptr 4 0),(5,.d (.int .i64 0)),(6,.d (.int .i64 i))]) (λi=>[(2,.var (.d (dV (v0 (if i=0 then (0,1) else (1,0)))))),(4,.var zI)]) (λi=>i=0\/i=1) (λi=>1-i) 0 [] rfl (.inl rfl) (λi hi=>?_)
 rcases hi with rfl | rfl
 . refine Ce rfl (P9.Sign_g W0 (g0 (q:=0) h) (by decide)) ?_
   refine Yes rfl (by decide +kernel) ?_
   refine Dw rfl ?_
   refine Ca rfl (P9.Neg_g W0 (g0 (q:=0) h) (by decide)) λv I=>?_
   obtain⟨z,rfl,O⟩:=I
   rw[zw O.o,show Tow.neg 0 (0:Rat)=(0:Rat) from Rat.neg_zero]
   refine Ar (0+1:Nat) rfl ?_
   exact Bk 1 [] rfl (.inr rfl) (show 0<1 by decide)
 . refine Ce rfl (P9.Sign_g W0 (g0 (q:=1) j) (by decide)) ?_
   refine No rfl (by decide +kernel) ?_
   refine Ce rfl (P9.Sign_g W0 (g0 (q:=0) h) (by decide)) ?_
   refine No rfl (by decide +kernel) ?_
   refine Ce rfl (P9.Cmp_g W0 (g0 (q:=0) h) (g0 (q:=1) j) (by decide) (by decide)) ?_
   refine No rfl (by decide) ?_
   refine Dz rfl ?_
   refine No rfl (by decide +kernel) ?_
   refine Ca rfl (P9.Div_g W0 (g0 (q:=0) h) (g0 (q:=1) j) (by decide) (by decide)) λv I=>?_
   rcases I with ⟨e,_⟩ | ⟨u,_,z,rfl,O⟩
   . exact absurd e (show ¬(1:Rat)=0 by decide +kernel)
   rw[zw O.o,show Tow.mul 0 () (0:Rat) u=(0:Rat) from W4t u]
   refine No rfl (by decide) ?_
   refine Mm 186 rfl ?_ rfl
   refine Ce rfl (Xfu (x:=0) (bits:=186) h (by decide)) ?_
   refine Ce rfl (Xau (z:=0) (by decide)) ?_
   refine Ce rfl (Xau (z:=1) (by decide)) ?_
   have Q:=Xzv (p:=pt 0) (q:=(0,1)) (s:=64) (by decide +kernel) (by decide +kernel) (by decide) (by decide +kernel)
   rw[show Xcd (pt 0) (0,1)=pt 0 by decide +kernel] at Q
   refine Ce rfl Q ?_
   refine Dw rfl ?_
   refine Ce rfl Xic ?_
   refine Ce rfl Xic ?_
   refine Ce rfl Xjx ?_
   refine No rfl (by decide +kernel) ?_
   refine Dw rfl ?_
   refine Ce rfl (Xf3 (n:=1) q4 (by decide)) ?_
   refine Ce rfl (Xfm (p:=((Xkl 0 186).1,(Xkl 0 186).2)) Z (Xch q4 (Xse (n:=1) (by decide))) (by decide)) ?_
   exact RTt rfl (.cons (.rf rfl) Xa1)
theorem Yjw: ∀i,i<=138->Qs 200 (hp i):=by decide +kernel
theorem Xsz: C0 178 [.d (dT (v0 (0,1)) 0),.d (.int .i64 138)] (·=.tup (.pr (.d (dI rV)) (.d (.int .i64 0)))):=by
 obtain⟨_,_,o,I,O,Q⟩:=fct
 have T:=Xny o
 have q4:=Xny I
 have j:=Xny O
 have hq:=Yjw
 refine En Tryz.func178 λ_ _ _=>?_
 refine No rfl (by decide) ?_
 refine No rfl (by decide) ?_
 refine Ce rfl (Xau (z:=1) (by decide)) ?_
 refine Lo (λi:Nat=>[(1,.d (.int .i64 138)),(2,.ptr 2 0),(4,.ptr 4 0),(5,.d (.int .i64 0)),(6,.ptr 6 0),(18,.d (.int .i64 138)),(19,.d (.int .i64 i))]) (λi=>[(2,.var (.d (dT (v0 (0,1)) 0))),(4,.var zI),(6,.var (.d (dq (hp i))))]) (λi=>i<=138) (λi=>138-i) 0 [] rfl (W0w _) (λi hi=>?_)
 refine By rfl (λh=>?_) λh=>?_
 . refine Dw rfl ?_
   refine Ce rfl (Xcl (a:=1) (b:=2) (by decide) (by decide)) ?_
   refine Ce rfl (Xen (hq i hi) (Qs.divInt (p:=64) (by decide) (by decide) (by decide)) (by decide)) ?_
   refine Ar (i+1:Nat) rfl ?_
   exact Bk (i+1) [] rfl (show i+1<=138 by omega) (by show 138-(i+1)<138-i;omega)
 . obtain rfl:i=138:=by omega
   refine Ar (186:Nat) rfl ?_ (wr rfl (by simp only[inK];omega))
   refine Lo (λ_:Unit=>[(1,.d (.int .i64 138)),(2,.ptr 2 0),(4,.ptr 4 0),(5,.d (.int .i64 0)),(6,.ptr 6 0),(7,.d (.int .i64 186))]) (λ_=>[(2,.var (.d (dT (v0 (0,1)) 0))),(4,.var zI),(6,.var (.d (dq (hp 138))))]) (λ_=>True) (λ_=>0) () [] rfl trivial (λ_ _=>?_)
   refine Ce rfl Xsc ?_
   refine No rfl (by decide) ?_
   refine Dw rfl ?_
   refine Ce rfl Xjx ?_
   refine Ar (0:Int) rfl ?_ rfl
   refine Ce rfl (Xf3 (n:=0) q4 (by decide)) ?_
   have V:=Xl3 (p:=((Xkl 0 186).1,(Xkl 0 186).2)) T (Xch q4 (Xse (n:=1) (by decide)))
   refine Ce rfl (Xfm V (Xch q4 (Xse (n:=0) (by decide))) (by decide)) ?_
   refine Dw rfl ?_
   refine Ce rfl (Xgf (p:=rV) j (by decide)) ?_
   have Z:Qs 501 (rV.2-rV.1):=by rw[W6e];exact j.2.add j.1.neg
   refine Ce rfl (Xbv Z (hq 138 (by decide)) (by decide)) ?_
   refine Yes rfl (by rw[Xlw];exact Rat.not_lt.2 Q) ?_
   exact RTt rfl (.cons (.rf rfl) Xa1)
end Go.Proofs.YtfjafaehfjjaiaaGreatDoor.P20
namespace Go.Tow
open Go
section
section
variable{K:Nat}{G:Tw K}{p q r u x y w z:V2 K}
def Xnx(p:V2 K): V2 K:=(neg K p.1,neg K p.2)
theorem Xyn: Xb9 G p (Xb7 G p q)=mul K G (Xgo G p p) q.2:=by
 obtain⟨a,b⟩:=p
 obtain⟨c,d⟩:=q
 have L:=Xay K G
 exact(Laws.req L [a,b,c,d] (.add (.mul (.neg (.v 1)) (.add (.mul (.v 0) (.v 2)) (.neg (.mul (.v 1) (.v 3))))) (.mul (.v 0) (.add (.mul (.v 0) (.v 3)) (.mul (.v 1) (.v 2))))) (.mul (.add (.mul (.v 0) (.v 0)) (.mul (.v 1) (.v 1))) (.v 3)) (by decide +kernel))
theorem Xyo: Xb9 G q p=neg K (Xb9 G p q):=by
 obtain⟨a,b⟩:=p
 obtain⟨c,d⟩:=q
 have L:=Xay K G
 exact(Laws.req L [a,b,c,d] (.add (.mul (.neg (.v 3)) (.v 0)) (.mul (.v 2) (.v 1))) (.neg (.add (.mul (.neg (.v 1)) (.v 2)) (.mul (.v 0) (.v 3)))) (by decide +kernel))
theorem Xeh: Xb7 G p q=Xb7 G q p:=by
 obtain⟨a,b⟩:=p
 obtain⟨c,d⟩:=q
 have L:=Xay K G
 exact W3i (Laws.req L [a,b,c,d] (.add (.mul (.v 0) (.v 2)) (.neg (.mul (.v 1) (.v 3)))) (.add (.mul (.v 2) (.v 0)) (.neg (.mul (.v 3) (.v 1)))) (by decide +kernel)) (Laws.req L [a,b,c,d] (.add (.mul (.v 0) (.v 3)) (.mul (.v 1) (.v 2))) (.add (.mul (.v 2) (.v 1)) (.mul (.v 3) (.v 0))) (by decide +kernel))
theorem Xkt: Xb7 G (Xnx p) q=Xnx (Xb7 G p q):=by
 obtain⟨a,b⟩:=p
 obtain⟨c,d⟩:=q
 have L:=Xay K G
 exact W3i (Laws.req L [a,b,c,d] (.add (.mul (.neg (.v 0)) (.v 2)) (.neg (.mul (.neg (.v 1)) (.v 3)))) (.neg (.add (.mul (.v 0) (.v 2)) (.neg (.mul (.v 1) (.v 3))))) (by decide +kernel)) (Laws.req L [a,b,c,d] (.add (.mul (.neg (.v 0)) (.v 3)) (.mul (.neg (.v 1)) (.v 2))) (.neg (.add (.mul (.v 0) (.v 3)) (.mul (.v 1) (.v 2)))) (by decide +kernel))
theorem Xl9(G:Tw K){p:V2 K}: Xnx (Xnx p)=p:=W3i ((Xay K G).nn _) ((Xay K G).nn _)
theorem Xq1: Xb7 G p (Xnx q)=Xnx (Xb7 G p q):=by rw[Xeh,Xkt,Xeh]
theorem Xym(hG:red K G)(hp:p≠vz K): sgn K G (Xgo G p p)=1:=by
 have Sg:=Xaq (Xad hG)
 have j:=(Xdl (Sg.tri p.1)).1
 have o:=(Xdl (Sg.tri p.2)).1
 have i:=Sg.sa (mul K G p.1 p.1) (mul K G p.2 p.2) (by rw[Sg.sm];exact j) (by rw[Sg.sm];exact o)
 have i:0<=sgn K G (Xgo G p p):=i
 rcases Sg.tri (Xgo G p p) with h | h | h
 . exact h
 . exact absurd (vsq hG h) hp
 . omega
theorem Xs8(hG:red K G)(hp:p≠vz K): vup G (Xnx p)↔¬vup G p:=by
 have Sg:=Xaq (Xad hG)
 have h0:¬(sgn K G p.1=0/\sgn K G p.2=0):=λh=>hp ((Xh5 hG).2 h)
 have i:=Sg.tri p.1
 have j:=Sg.tri p.2
 unfold vup Xnx
 simp only[Sg.sn]
 omega
theorem Yg7(h:vup G p): 0<=sgn K G p.2:=by unfold vup at h;omega
theorem Ybe(hG:red K G)(h:vup G p): p≠vz K:=λe=>by
 have:=(Xh5 hG).1 e
 unfold vup at h
 omega
theorem Xyk(hG:red K G)(hp:vup G p)(hq:vup G q)(h:sgn K G p.2=0): vup G (Xb7 G p q):=by
 have Sg:=Xaq (Xad hG)
 have L:=Xay K G
 have j:sgn K G p.1=1:=by have:=Sg.tri p.1;unfold vup at hp;omega
 have i:=(Xbe hG).1 h
 have o:(Xb7 G p q).1=mul K G p.1 q.1:=by
  show add K (mul K G p.1 q.1) (neg K (mul K G p.2 q.2))=_
  rw[i,L.zm,L.nz,L.az]
 have I:(Xb7 G p q).2=mul K G p.1 q.2:=by
  show add K (mul K G p.1 q.2) (mul K G p.2 q.1)=_
  rw[i,L.zm,L.az]
 unfold vup
 rw[o,I,Sg.sm,Sg.sm,j,W4v,W4v]
 exact hq
def vh(G:Tw K)(p:V2 K): Int:=if vup G p then 0 else 1
def Xhm(G:Tw K)(p:V2 K): V2 K:=if vup G p then p else Xnx p
def vhe(G:Tw K)(p q:V2 K): Int:=vh G (Xb7 G (Xhm G p) (Xhm G q))
theorem Xhb: vh G p=0/\vup G p\/vh G p=1/\¬vup G p:=by
 unfold vh
 by_cases h:vup G p
 . rw[if_pos h];exact .inl ⟨rfl,h⟩
 . rw[if_neg h];exact .inr ⟨rfl,h⟩
theorem Ybi(hG:red K G)(hp:p≠vz K): vh G (Xnx p)=1-vh G p:=by
 have h:=Xs8 hG hp
 unfold vh
 by_cases i:vup G p
 . rw[if_pos i,if_neg λe=>h.1 e i];rfl
 . rw[if_neg i,if_pos (h.2 i)];rfl
theorem Xks(hG:red K G)(hp:p≠vz K): vup G (Xhm G p):=by
 unfold Xhm
 by_cases h:vup G p
 . rw[if_pos h];exact h
 . rw[if_neg h];exact(Xs8 hG hp).2 h
theorem Xgn: vh G p=0/\vup G p/\p=Xhm G p\/vh G p=1/\¬vup G p/\p=Xnx (Xhm G p):=by
 unfold Xhm
 rcases Xhb (G:=G) (p:=p) with ⟨i,h⟩ | ⟨i,h⟩
 . rw[if_pos h];exact .inl ⟨i,h,rfl⟩
 . rw[if_neg h,Xl9 G];exact .inr ⟨i,h,rfl⟩
section
variable(hG:red K G)(hp:p≠vz K)(hq:q≠vz K)
include hG hp hq
theorem Ypy: Xb7 G (Xhm G p) (Xhm G q)≠vz K:=Xh6 hG (Ybe hG (Xks hG hp)) (Ybe hG (Xks hG hq))
theorem Yg9: vh G (Xb7 G p q)=(vh G p+vh G q+vhe G p q)%2:=by
 have I:=Ypy hG hp hq
 have O:=Xhb (G:=G) (p:=Xb7 G (Xhm G p) (Xhm G q))
 unfold vhe
 rcases Xgn (G:=G) (p:=p) with ⟨h,_,i⟩ | ⟨h,_,i⟩<;>rcases Xgn (G:=G) (p:=q) with ⟨j,_,o⟩ | ⟨j,_,o⟩
 . rw[h,j,show Xb7 G p q=Xb7 G (Xhm G p) (Xhm G q) by rw[<-i,<-o]];omega
 . rw[h,j,show Xb7 G p q=Xnx (Xb7 G (Xhm G p) (Xhm G q)) by rw[<-Xq1,<-i,<-o],Ybi hG I];omega
 . rw[h,j,show Xb7 G p q=Xnx (Xb7 G (Xhm G p) (Xhm G q)) by rw[<-Xkt,<-i,<-o],Ybi hG I];omega
 . rw[h,j,show Xb7 G p q=Xnx (Xnx (Xb7 G (Xhm G p) (Xhm G q))) by rw[<-Xkt,<-Xq1,<-i,<-o],Xl9 G];omega
omit hG hp hq in
theorem Yha: Xr0 G p q=if vh G p=vh G q then-sgn K G (Xb9 G p q) else vh G p-vh G q:=by
 unfold Xr0
 rcases Xhb (G:=G) (p:=p) with ⟨h,i⟩ | ⟨h,i⟩<;>rcases Xhb (G:=G) (p:=q) with ⟨j,o⟩ | ⟨j,o⟩<;>rw[h,j]<;>simp[i,o]
theorem Xtb{f g:Int}: Xec G p q f g=f+g+(vh G p+vh G q+vhe G p q)/2:=by
 have Sg:=Xaq (Xad hG)
 have T:=Yg9 hG hp hq
 have hpq:=Xh6 hG hp hq
 have V:=Yha (G:=G) (p:=Xb7 G p q) (q:=p)
 have Z:=Xhb (G:=G) (p:=Xb7 G (Xhm G p) (Xhm G q))
 have e1:sgn K G (Xb9 G (Xb7 G p q) p)=- sgn K G q.2:=by
  rw[Xyo,Sg.sn,Xyn,Sg.sm,Xym hG hp,W4v]
 rw[e1] at V
 have ty:=Sg.tri q.2
 have he:vhe G p q=vh G (Xb7 G (Xhm G p) (Xhm G q)):=rfl
 rw[<-he] at Z
 have hf:sgn K G q.2=0->vhe G p q=0:=λh0=>by
  have hy:sgn K G (Xhm G q).2=0:=by
   rcases Xgn (G:=G) (p:=q) with ⟨_,_,e2⟩ | ⟨_,i,_⟩
   . rw[<-e2];exact h0
   . rw[show Xhm G q=Xnx q from if_neg i];show sgn K G (neg K q.2)=0;rw[Sg.sn,h0];rfl
  have:=Xyk hG (Xks hG hq) (Xks hG hp) hy
  rw[Xeh] at this
  rw[he];exact if_pos this
 have hq':(vh G q=0->0<=sgn K G q.2)/\(vh G q=1->sgn K G q.2<=0):=by
  rcases Xhb (G:=G) (p:=q) with ⟨j,i⟩ | ⟨j,i⟩
  . exact⟨λ_=>Yg7 i,λh=>by omega⟩
  . refine⟨λh=>by omega,λ_=>?_⟩
    unfold vup at i;omega
 have o:vh G p=0\/vh G p=1:=by rcases Xhb (G:=G) (p:=p) with ⟨a,_⟩ | ⟨a,_⟩<;>omega
 have I:vh G q=0\/vh G q=1:=by rcases Xhb (G:=G) (p:=q) with ⟨a,_⟩ | ⟨a,_⟩<;>omega
 unfold Xec
 rw[V]
 rcases o with O | O<;>rcases I with j | j<;>rcases Z with ⟨Q,_⟩ | ⟨Q,_⟩<;>rw[O,j,Q] at T<;>rw[O,j,Q,T]<;>simp<;>omega
omit hG hp hq in
theorem Xyl: vhe G p q=vhe G q p:=by unfold vhe;rw[Xeh]
end
theorem Xtc(hG:red K G)(hp:p≠vz K)(hq:q≠vz K){f g:Int}: Xec G p q f g=Xec G q p g f:=by
 rw[Xtb hG hp hq,Xtb hG hq hp,Xyl (p:=p)]
 omega
theorem Ydm(hG:red K G)(hp:p≠vz K): Xn0 p≠vz K:=λh=>hp (by
 have Sg:=Xaq (Xad hG)
 rw[Xh5 hG] at h |-
 have i:sgn K G (neg K p.2)=0:=h.2
 rw[Sg.sn] at i
 exact⟨h.1,by omega⟩)
end
end
section
section
variable{K:Nat}{G:Tw K}{p q r u x y w z:V2 K}{s:El K}
end
end
end Go.Tow
namespace Go.Proofs.YtfjafaehfjjaiaaGreatDoor
open Go Go.Vm Go.Num Go.Tow
section
variable{K:Nat}{G:Tw K}{S:List (Tow.El K)}{N:List Nm}{n m k:Nat}{x y z:Nm}{a b v w:Tow.El K}{u s t:Vn}{p q r:V2 K}
def Xx8{K:Nat}(p q:V2 K): V2 K:=(Tow.add K p.1 (Tow.neg K q.1),Tow.add K p.2 (Tow.neg K q.2))
def Yg8{K:Nat}(p q:V2 K): V2 K:=(Tow.add K p.1 q.1,Tow.add K p.2 q.2)
theorem Yhk{K:Nat}{a b:Tow.El K}: toL K a=toL K b↔a=b:=⟨Xgr,λe=>by rw[e]⟩
theorem P9.Equal_g(W:Wn G S N)(hx:Gd G S N n x v)(hy:Gd G S N m y w)(hn:n<=400)(hm:m<=400): C0 39 [.d (dN x),.d (dN y)] (·=.b (dc (v=w))):=by
 have hG:=W.w.g
 have hO:oW fF 7995840=2*jW fF 7995840+cB fF.R fF.H+1:=rfl
 have hO1:=fO
 have hH:fF.H=6:=rfl
 have hR:fF.R=65:=rfl
 have O:=hx.op1 hn
 have Q:=hy.op1 hm
 obtain⟨ρx,I,hx2⟩:=O.ex
 obtain⟨ρy,V,Z⟩:=Q.ex
 have hx3:=W.w.le I
 have hy3:=W.w.le V
 have hxr:=W.w.t I
 have hyr:=W.w.t V
 have hpx:=p16 (show x.k<=16 by omega)
 have hj:C0 88 [.d (dNs [x,y])] λv'=>∃m T a b,v'=.tup (.pr (.d (dNs [⟨m,T,a⟩,⟨m,T,b⟩])) (.d (.int .i64 0)))/\R9.JnR fF G S 7995840 v w m T a b:=P9.Join_ok W.w O Q fO
 have fin:∀ {k:Nat} {T:Tw k} {a b:Tow.El k} {ρ:Nat->Tow.El K},TOk G S k T ρ->ev G ρ k a=v->ev G ρ k b=w->(dc (toL k a=toL k b)=true↔v=w):=λ{k T a b ρ} h1 h2 h3=>by
  rw[Xaj,Yhk,<-h2,<-h3]
  exact⟨λe=>by rw[e],λe=>Xcx (Xad hG) h1.h h1.r e⟩
 refine En Tryz.func39 λ_ _ _=>?_
 refine Ce rfl (P9.begins_ok (T:=toT x.k x.t) (U:=toT y.k y.t) (TS.pt hxr) (TS.pt hyr) (by omega) (by rw[Xaa];omega)) ?_
 refine By rfl (λh1=>?_) λh1=>?_
 . refine Ce rfl (P9.begins_ok (T:=toT y.k y.t) (U:=toT x.k x.t) (TS.pt hyr) (TS.pt hxr) (by omega) (by rw[Xaa];omega)) ?_
   refine By rfl (λh2=>?_) λh2=>?_
   . refine Ce rfl (P9.sameElement_ok O.p.ps Q.p.ps (by omega) (by rw[Xab];omega)) ?_
     refine R1 rfl (.bp ?_)
     have e1:(toT x.k x.t).take (toT y.k y.t).length=toT y.k y.t:=h1
     have e2:(toT y.k y.t).take (toT x.k x.t).length=toT x.k x.t:=h2
     have l1:=congrArg List.length e1
     have l2:=congrArg List.length e2
     rw[W0f,Xaa,Xaa] at l1 l2
     obtain⟨o,tx,ax⟩:=x
     obtain⟨ky,ty,ay⟩:=y
     have l1:min ky o=ky:=l1
     have l2:min o ky=o:=l2
     obtain rfl:o=ky:=by omega
     have e3:toT o tx=toT o ty:=by
      have e1:(toT o tx).take (toT o ty).length=toT o ty:=e1
      rwa[Xaa,W0b (by rw[Xaa];omega)] at e1
     obtain rfl:=Xh9 e3
     have Z:ev G ρx o ay=w:=by rw[<-Z];exact Xa8 λi hi=>Hom.uniq hG I.h V.h i hi
     exact fin I hx2 Z
   . refine Ca rfl hj λv' hv=>?_
     obtain⟨j,T,a,b,rfl,ρ,j1,j2,j3,j4,j5⟩:=hv
     have jm:=W.w.le j1
     have jp:=p16 (show j<=16 by omega)
     refine Yes rfl (by decide) ?_
     refine Dw rfl ?_
     refine Ix 0 rfl (u:=dN ⟨j,T,a⟩) rfl ?_
     refine Ix 1 rfl (u:=dN ⟨j,T,b⟩) rfl ?_
     refine Ce rfl (P9.sameElement_ok (l:=toL j a) (m:=toL j b) j4.ps j5.ps (by omega) (by rw[Xab];omega)) ?_
     exact R1 rfl (.bp (fin j1 j2 j3))
 . refine Ca rfl hj λv' hv=>?_
   obtain⟨j,T,a,b,rfl,ρ,j1,j2,j3,j4,j5⟩:=hv
   have jm:=W.w.le j1
   have jp:=p16 (show j<=16 by omega)
   refine Yes rfl (by decide) ?_
   refine Dw rfl ?_
   refine Ix 0 rfl (u:=dN ⟨j,T,a⟩) rfl ?_
   refine Ix 1 rfl (u:=dN ⟨j,T,b⟩) rfl ?_
   refine Ce rfl (P9.sameElement_ok (l:=toL j a) (m:=toL j b) j4.ps j5.ps (by omega) (by rw[Xab];omega)) ?_
   exact R1 rfl (.bp (fin j1 j2 j3))
end
end Go.Proofs.YtfjafaehfjjaiaaGreatDoor
namespace Go.Tow
open Go.Proofs.YtfjafaehfjjaiaaGreatDoor (Yg8)
section
variable{K:Nat}
def Ymo(h:Nat->El K): Nat->El K
 | 0=>zero K
 | k+1=>add K (Ymo h k) (h k)
variable(G:Tw K)
include G
def pgn(g:Nat->V2 K)(n:Nat): El K:=Ymo (λi=>Xb9 G (g i) (g ((i+1)%n))) n
variable{G}
end
section
variable{K:Nat}{G:Tw K}{u v w p q:V2 K}
end
end Go.Tow

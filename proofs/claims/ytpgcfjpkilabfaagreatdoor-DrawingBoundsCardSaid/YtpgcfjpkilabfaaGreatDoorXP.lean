/- part 6 -/
import Derived.Test.YtpgcfjpkilabfaaGreatDoorXO
import Derived.Lib.Bytealg
import Derived.Shelf.Strings.AsciiSet
import Derived.Shelf.Strings.BuilderK
import Derived.Shelf.Strings.OnBuilder
import Derived.RangeFuncLeaves
import Derived.ControlIn
import Derived.RangeFuncCalls
set_option linter.unusedVariables false
set_option linter.unusedSimpArgs false
set_option maxRecDepth 100000
set_option maxHeartbeats 4000000
namespace Go.Vm
open Go
section
section
variable {c : Cx} {s : St} {p : Pl}
noncomputable def Ymy (tb : Nat→Option TI) (n : Nat) (s : St) : Option (Pl × List UInt8 × List UInt8):=match nxA tb n s with
 | some (p,o,[.d (.str a),.d (.str b)])=>match o.op with
  | .binOp op _ _ _ _=>match op with
   | .add=>some (p,a,b)
   | _=>none
  | _=>none
 | _=>none
theorem Sc {a b : List UInt8} (t : List UInt8) (h : Ymy c.tb c.n s=some (p,a,b)) (ht : a++b=t) (hl : a.length+b.length<9223372036854775808) (kk : p.nx c (.d (.str t))) : StP c s:=by
 subst ht
 unfold Ymy at h
 split at h <;> try cases h
 rename_i hA
 split at h <;> try cases h
 rename_i ho
 split at h <;> cases h
 refine Xcd (us:=[]) hA ?_ (Pl.nx_nil kk)
 rw [ho]
 simp only [F,Fp,Xz2,if_pos hl]
noncomputable def Yhi (tb : Nat→Option TI) (n : Nat) (s : St) : Option (Pl × List UInt8 × Option Int × Option Int):=match nxA tb n s with
 | some (p,o,asx)=>match o.op with
  | .slice T _ lo hi mx=>match tb T with
   | some ti=>match ti.z,Xlh lo hi mx asx with
    | .str _,some (.d (.str s),l,h,none)=>some (p,s,l,h)
    | _,_=>none
   | none=>none
  | _=>none
 | none=>none
theorem Xnr {t : List UInt8} {r : AV} {l h' : Option Int} (h : Yhi c.tb c.n s=some (p,t,l,h')) (hr : slS t l h'=some r) (k : p.nx c r) : StP c s:=by
 unfold Yhi at h
 split at h <;> try cases h
 rename_i hA
 split at h <;> try cases h
 rename_i ho
 split at h <;> try cases h
 rename_i ti ht
 split at h <;> cases h
 rename_i hz hs
 refine Xcd (us:=[]) hA ?_ (Pl.nx_nil k)
 rw [ho]
 simp only [F,Fp,ht,hz,hs,hr]
theorem Stk (j : Nat) (zs : List UInt8) {i : Int} {xs : List UInt8} (h : Yhi c.tb c.n s=some (p,xs,none,some i)) (hl : j≤xs.length) (hz : xs.take j=zs) (k : p.nx c (.d (.str zs))) (hj : i=j:=by first | exact rfl | omega) : StP c s:=by
 subst hj;subst hz
 refine Xnr h ?_ k
 rw [slS,if_pos ⟨by omega,by omega⟩];simp
theorem Sdp (j : Nat) (zs : List UInt8) {i : Int} {xs : List UInt8} (h : Yhi c.tb c.n s=some (p,xs,some i,none)) (hl : j≤xs.length) (hz : xs.drop j=zs) (k : p.nx c (.d (.str zs))) (hj : i=j:=by first | exact rfl | omega) : StP c s:=by
 subst hj;subst hz
 refine Xnr h ?_ k
 rw [slS,if_pos ⟨by omega,by omega⟩];simp
theorem Smd (i j : Nat) (zs : List UInt8) {i' j' : Int} {xs : List UInt8} (h : Yhi c.tb c.n s=some (p,xs,some i',some j')) (hl : i≤j∧j≤xs.length) (hz : (xs.drop i).take (j - i)=zs) (k : p.nx c (.d (.str zs))) (hi : i'=i:=by first | exact rfl | omega) (hj : j'=j:=by first | exact rfl | omega) : StP c s:=by
 subst hi;subst hj;subst hz
 refine Xnr h ?_ k
 rw [slS,if_pos ⟨by omega,by omega,by omega⟩];simp
noncomputable def Ym3 (tb : Nat→Option TI) (n : Nat) (s : St) : Option (Pl × AV):=match nxA tb n s with
 | some (p,o,[a])=>match o.op with
  | .convert S T _=>match tb S,tb T,Yfr a with
   | some ⟨.sl _ _,.int .u8 _,_,_⟩,some ⟨.str _,_,_,_⟩,true=>some (p,a)
   | _,_,_=>none
  | _=>none
 | _=>none
theorem Bs (zs : List UInt8) {a : AV} (h : Ym3 c.tb c.n s=some (p,a)) (hz : Yj3 a=some zs) (kk : p.nx c (.d (.str zs))) : StP c s:=by
 unfold Ym3 at h
 split at h <;> try cases h
 rename_i hA
 split at h <;> try cases h
 rename_i ho
 split at h <;> cases h
 rename_i h1 h2 h3
 refine Xcd (us:=[]) hA ?_ (Pl.nx_nil kk)
 rw [ho]
 have : ∀ k z,a≠.d (.int k z):=fun k z e=>by subst e;cases h3
 cases a with
 | d x=>cases x <;> first | exact absurd rfl (this _ _) | simp only [F,Fp,h2,h1,hz]
 | _=>simp only [F,Fp,h2,h1,hz]
end
end
section
theorem Xwb {W : GW} {z : D} : ∀ {cs : List Value},(∀ x∈z.comps,x.size=1)→D.At W z cs→AtL W 1 z.comps cs∧cs.length=z.comps.length:=by
 have one : ∀ {x : D} {cs : List Value},x.size=1→D.At W x cs→AtL W 1 [x] cs∧cs.length=1:=fun {x cs} h1 h =>
  ⟨fun i y hi=>by
   cases i with
   | zero=>simp at hi;subst hi;exact ⟨cs,h,h1,fun j v hj=>by simpa using hj⟩
   | succ i=>simp at hi,by rw [D.at_len x h,h1]⟩
 induction z using D.ind with
 | leaf x h1 h2 =>
  intro cs hs h
  have e : x.comps=[x]:=by cases x <;> first | rfl | exact absurd rfl (h2 _ _)
  rw [e] at hs ⊢
  exact one (hs x (W0e.2 rfl)) h
 | st a _=>intro cs hs h;exact one (hs _ (W0e.2 rfl)) h
 | pr a c _ ih =>
  intro cs hs ⟨u,v,e,h1,h2⟩
  have hs : ∀ x∈a::c.comps,x.size=1:=hs
  obtain ⟨k1,k2⟩:=one (hs a (W0t ..)) h1
  obtain ⟨k3,k4⟩:=ih (fun x hx=>hs x (W0x _ hx)) h2
  subst e
  have:=k1.app k3 (by rw [k2];rfl)
  exact ⟨this,by rw [W0d,k2,k4];show _=(a::c.comps).length;simp;omega⟩
theorem Stp.vara {N : Nat→Prop} {W : GW} {θ : Loc} {g : Hp} (h : Obs W θ N g) {o d b n sz : Nat} {a : AV} {xs : List D} (ho : g o=some (.var a)) (hb : (θ o).1=some b) (hB : d<1000000) (hd : g d=none) (hx : (Ob.arr sz xs).R W (fun i=>if i=d then (some b,n) else θ i) d) :
 Stp N W W θ (fun i=>if i=d then (some b,n) else θ i) g (upd (upd g o .dead) d (.arr sz xs)) where
 os:=_root_.rfl
 out:=_root_.rfl
 tape:=_root_.rfl
 size:=W0c _
 same:=fun _ _ _=>_root_.rfl
 A:=fun _ _ _ _=>W3j
 le:=LeF.refl W
 th:=fun i y hy=>if_neg fun e=>by rw [e,hd] at hy;cases hy
 hi:=fun i h=>if_neg (by omega)
 obs:=by
  have hg : ∀ {i : Nat} {y : Ob},upd (upd g o .dead) d (.arr sz xs) i=some y→(i=d∧y=.arr sz xs)∨(i≠d∧i=o∧y=.dead)∨(i≠d∧i≠o∧g i=some y):=fun {i y} hy=>by
   rcases Xae hy with ⟨e1,e2⟩ | ⟨e1,e2⟩
   · exact .inl ⟨e1,e2⟩
   · rcases Xae e2 with ⟨f1,f2⟩ | ⟨f1,f2⟩
     · exact .inr (.inl ⟨e1,f1,f2⟩)
     · exact .inr (.inr ⟨e1,f1,f2⟩)
  have hnd : ∀ {i : Nat},(∃ z,g i=some z)→i≠d:=fun ⟨z,hz⟩ e=>by rw [e,hd] at hz;cases hz
  refine ⟨fun i y hy=>?_,fun i y b' hy hl hb'=>?_,fun i j y y' b' hy hy' hl hl' b1 b2=>?_,fun i y j hy hj=>?_⟩
  · rcases hg hy with ⟨rfl,rfl⟩ | ⟨_,_,rfl⟩ | ⟨e1,e2,e3⟩
    · exact hx
    · trivial
    · exact (h.r i y e3).keep (LeF.refl W) (if_neg e1) (fun j hj=>if_neg (hnd (h.ids i y j e3 hj))) fun _ _ _=>⟨_root_.rfl,fun _ h=>h⟩
  · rcases hg hy with ⟨rfl,rfl⟩ | ⟨_,_,rfl⟩ | ⟨e1,e2,e3⟩
    · rw [if_pos _root_.rfl] at hb'
      exact h.new o _ b' ho _root_.rfl (hb.trans hb')
    · cases hl
    · rw [if_neg e1] at hb';exact h.new i y b' e3 hl hb'
  · rcases hg hy with ⟨rfl,rfl⟩ | ⟨_,_,rfl⟩ | ⟨e1,e2,e3⟩
    · rcases hg hy' with ⟨rfl,rfl⟩ | ⟨_,_,rfl⟩ | ⟨f1,f2,f3⟩
      · exact _root_.rfl
      · cases hl'
      · rw [if_pos _root_.rfl] at b1;rw [if_neg f1] at b2
        exact absurd (h.dis j o y' _ b' f3 ho hl' _root_.rfl b2 (hb.trans b1)) f2
    · cases hl
    · rcases hg hy' with ⟨rfl,rfl⟩ | ⟨_,_,rfl⟩ | ⟨f1,f2,f3⟩
      · rw [if_pos _root_.rfl] at b2;rw [if_neg e1] at b1
        exact absurd (h.dis i o y _ b' e3 ho hl _root_.rfl b1 (hb.trans b2)) e2
      · cases hl'
      · rw [if_neg e1] at b1;rw [if_neg f1] at b2;exact h.dis i j y y' b' e3 f3 hl hl' b1 b2
  · rcases hg hy with ⟨rfl,rfl⟩ | ⟨_,_,rfl⟩ | ⟨e1,e2,e3⟩
    · exact hj.elim
    · exact hj.elim
    · have hz:=h.ids i y j e3 hj
      rw [Xam (hnd hz)]
      by_cases e : j=o
      · subst e;exact ⟨_,Xaj _ _ _⟩
      · rw [Xam e];exact hz
 dom:=fun i y hy=>by
  rw [Xam (fun e=>by rw [e,hd] at hy;cases hy)]
  by_cases e : i=o
  · subst e;exact ⟨_,Xaj _ _ _⟩
  · exact ⟨y,by rw [Xam e];exact hy⟩
section
variable {c : Cx} {s : St} {p : Pl}
noncomputable def Ymw (tb : Nat→Option TI) (n id t : Nat) (s : St) : Option (List Kt × Env × Hpl × Nat × D):=match runT tb n id 1000 s with
 | .j _ K E H=>match look E t with
  | some (.ptr o 0)=>match look H o with
   | some (.var (.d (.st z)))=>some (K,E,H,o,z)
   | _=>none
  | _=>none
 | _=>none
theorem Va (id t d m : Nat) (xs : List D) {K : List Kt} {E : Env} {H : Hpl} {o : Nat} {z : D} (h : Ymw c.tb c.n id t s=some (K,E,H,o,z)) (hz : z.comps=xs) (hs : ∀ x∈xs,x.size=1) (hm : xs.length=m) (k : StP c (.j [] K ((t,.ap d m)::E) ((d,.arr 1 xs)::(o,.dead)::H)))
 (hd : (Nat.blt d 1000000 && !Xb9 H d && Nat.blt m 1000000)=true:=by exact rfl) : StP c s:=by
 subst hz
 simp only [W0g,W1s] at hd
 obtain ⟨⟨hd1,hd2⟩,hm1⟩:=hd
 have hd1:=Xp7 hd1
 have hm1:=Xp7 hm1
 have hdn : look H d=none:=Xbi hd2
 unfold Ymw at h
 split at h <;> try cases h
 rename_i hr
 split at h <;> try cases h
 rename_i he
 split at h <;> cases h
 rename_i ho
 refine Xhl (id:=id) 1000 ?_
 rw [hr]
 rintro a w ⟨s0,W,θ,hw,hs0,hθ,rfl⟩
 obtain ⟨b,cs,T',r1,r2,r3,r4⟩:=hs0.obs.r _ _ ho
 have r3 : D.At W z cs:=r3
 obtain ⟨k1,k2⟩:=Xwb hs r3
 have st:=Stp.vara (n:=m) (sz:=1) (xs:=z.comps) hs0.obs ho r1 hd1 hdn ⟨b,cs,T',by simp,r2,by rw [k2,hm];simp,by simp only [if_true];omega,by simp only [if_true];omega,k1,r4⟩
 have h1:=hs0.step0 st
 refine k a w ⟨_,W,_,hw,?_,fun i hi=>(st.hi i hi).trans (hθ i hi),rfl⟩
 rw [show sem ((t,AV.ap d m)::E) ((d,Ob.arr 1 z.comps)::(o,Ob.dead)::H)=(upd (look E) t (.ap d m),upd (upd (look H) o .dead) d (.arr 1 z.comps)) from by rw [Xa5,Xa5,Xa5]]
 refine ⟨h1.fm,⟨h1.rel.defers,h1.rel.size,fun q v hq=>?_⟩,h1.obs,fun q v i hq hi=>?_⟩
 · rcases Xae hq with ⟨e1,e2⟩ | ⟨e1,e2⟩
   · subst e1;subst e2
     obtain ⟨b',f1,f2⟩:=Xio (hs0.rel.has q _ he)
     rw [r1] at f1;injection f1 with f1;subst f1
     exact ⟨_,⟨b,by simp,by simp,rfl⟩,f2⟩
   · exact h1.rel.has q v e2
 · rcases Xae hq with ⟨e1,e2⟩ | ⟨e1,e2⟩
   · subst e2
     have hi : i=d:=hi
     subst hi
     exact ⟨_,Xaj _ _ _⟩
   · exact h1.ids q v i e2 hi
noncomputable def Ymx (tb : Nat→Option TI) (n : Nat) (s : St) : Option (Pl × Oper × TypeId × Operand × Operand × Nat × Nat × Nat × Nat × D × Int):=match nxO tb n s with
 | some (p,o)=>match o.op,p.dr with
  | .slice T x none (some y) none,false=>match Xdp (look p.E) x,Xdp (look p.E) y,tb T with
   | some (.ap q m),some (.d (.int _ j)),some ⟨.st z,e,eb,ar⟩=>match Nat.beq m ar,look p.H q with
    | true,some _=>some (p,o,T,x,y,q,m,e.size,eb,z,j)
    | _,_=>none
   | _,_,_=>none
  | _,_=>none
 | none=>none
theorem Sp (j : Nat) {o : Oper} {T : TypeId} {x y : Operand} {q m sz eb : Nat} {z : D} {i : Int} (h : Ymx c.tb c.n s=some (p,o,T,x,y,q,m,sz,eb,z,i)) (hj : j≤m) (h0 : 0<m) (k : p.nx c (.own q sz 0 j)) (hm : m<1000000) (hi : i=(j : Int):=by first | exact rfl | omega) : StP c s:=by
 subst hi
 unfold Ymx at h
 split at h <;> try cases h
 rename_i p' o' ho
 split at h <;> try cases h
 rename_i T' x' y' hop hdr
 split at h <;> try cases h
 rename_i k2 e eb' ar hx hy hti
 split at h <;> cases h
 rename_i hH hma
 have hma:=W0f hma
 subst hma
 refine Xyg (us:=[]) ho (by unfold Xar;rw [hop];rfl) hdr (fun N W θ ρ _ hO hN hB hv=>?_) (Pl.nx_nil k)
 obtain ⟨hk,_⟩:=c.hT _ _ hti
 obtain ⟨t,u1,_,u3⟩:=hk.u
 simp only [show ¬ m=0 from by omega,if_false] at u3
 obtain ⟨E,e1,i,v0,i1,i2,_⟩:=u3
 subst e1
 obtain ⟨cs,⟨b,f1,f2,f3⟩,f4⟩:=hv _ _ hx
 subst f3
 have f4 : ρ x=.pointer (some ⟨b,0,none⟩):=f4
 obtain ⟨ey,_⟩:=Xc5 (hv _ _ hy)
 have hg : (sem p.E p.H).2 q=some _:=hH
 refine .val (u:=.slice (some ⟨b,0,none⟩) j m) hO ?_ ?_ (fun i hi=>by subst hi;exact ⟨_,hg⟩)
 · have hm0 : ¬ m=0:=by omega
   simp [execOp,hop,f4,ey,Instr.sliceAt,Instr.sureAddr,Instr.sliceBounds,Instr.sliceBound,asIntOf,sizeOf,typeInfo,underlying,program,bind,Sem.bind,Sem.run,pure,u1,i1,i2,hm0,hj,add0]
 · exact ⟨[.slice (some ⟨b,0,none⟩) j m],⟨b,some ⟨b,0,none⟩,f1,by omega,by omega,by rw [f2,W6r],fun _=>by rw [W4v]⟩,rfl⟩
noncomputable def Ym4 (tb : Nat→Option TI) (n : Nat) (s : St) : Option (Pl × Oper × TypeId × TypeId × Operand × Nat × Nat × Nat × List D):=match nxO tb n s with
 | some (p,o)=>match o.op,p.dr with
  | .convert S T x,false=>match Xdp (look p.E) x,tb S,tb T with
   | some (.own q 1 l m),some ⟨.sl _ _,.int .u8 _,_,_⟩,some ⟨.str _,_,_,_⟩=>match look p.H q with
    | some (.arr 1 xs)=>some (p,o,S,T,x,q,l,m,xs)
    | _=>none
   | _,_,_=>none
  | _,_=>none
 | none=>none
theorem Bo (zs : List UInt8) {o : Oper} {S T : TypeId} {x : Operand} {q l m : Nat} {xs : List D} (h : Ym4 c.tb c.n s=some (p,o,S,T,x,q,l,m,xs)) (hl : l+m≤xs.length) (hz : Xzn ((xs.drop l).take m)=some zs) (k : p.nx c (.d (.str zs))) : StP c s:=by
 unfold Ym4 at h
 split at h <;> try cases h
 rename_i p' o' ho
 split at h <;> try cases h
 rename_i S' T' x' hop hdr
 split at h <;> try cases h
 rename_i hx hS hT
 split at h <;> cases h
 rename_i hH
 refine Xyg (us:=[]) ho (by unfold Xar;rw [hop];rfl) hdr (fun N W θ ρ _ hO hN hB hv=>?_) (Pl.nx_nil k)
 obtain ⟨hk,_⟩:=c.hT _ _ hS
 obtain ⟨t,u1,_,E,u3,_⟩:=hk.u
 subst u3
 obtain ⟨t',u1',_,u3⟩:=(c.hT _ _ hT).1.u
 have u3 : t'=.string:=u3
 subst u3
 have ue:=hk.k E _ _ u1 rfl
 obtain ⟨b,pp,f1,f2,f3,e,f5⟩:=Xk2 (hv _ _ hx)
 obtain ⟨b',bs,T1,r1,r2,r3,r4,r5,r6,r7⟩:=hO.r _ _ hH
 rw [f1] at r1;injection r1 with r1;subst r1
 obtain ⟨ns,hn1,rfl⟩:=Xkz hz
 have hlen : ns.length=m:=by
  have:=congrArg List.length hn1
  simp at this;omega
 refine .val (u:=.string ⟨(ns.map fun z=>UInt8.ofNat z.toNat).toArray⟩) hO ?_ (Xld (by simp;omega)) (fun _ h=>h.elim)
 have hc : (convert S T (ρ x)).run c.P W.w=.ok (.string ⟨(ns.map fun z=>UInt8.ofNat z.toNat).toArray⟩) W.w:=by
  rw [e,run_convert_bytes_string W.w S T E pp _ _ u1 ue u1']
  by_cases hm0 : m=0
  · subst hm0
    have : ns=[]:=W4g.1 hlen
    subst this
    cases pp with
    | none=>rfl
    | some a=>exact run_bytesToString W.w a _ _ [] rfl
  · rw [f5 (by omega)]
    rw [run_bytesToString W.w _ _ _ ns (by
     have h:=run_loadCells (P:=c.P) (b:=b) (off:=l*1) (w:=W.w) (ns.map (Value.int .u8)) 0 #[] (fun j v hj=>by
      rw [W1f] at hj
      cases hz : ns[j]? with
      | none=>rw [hz] at hj;cases hj
      | some z =>
       rw [hz] at hj;injection hj with hj;subst hj
       have hj' : ((xs.drop l).take m)[j]?=some (.int .u8 z):=by rw [hn1,W1f,hz];rfl
       have hj2 : xs[l+j]?=some (.int .u8 z):=by
        rw [W1i] at hj'
        split at hj'
        · rwa [W2m] at hj'
        · cases hj'
       obtain ⟨e1,g1,_,g2⟩:=r6 _ _ hj2
       have g1:=g1.1
       subst g1
       have:=g2 0 _ rfl
       rw [show l*1+(0+j)=(l+j)*1+0 by omega,Xba r2]
       exact this)
     simp only [W0i] at h
     rw [←hlen]
     simpa [loadCells] using h)]
    have:=Xe0 ns []
    rw [show (ByteArray.empty : ByteArray)=⟨([] : List UInt8).toArray⟩ from rfl,this]
    simp
 unfold execOp
 rw [hop]
 simp only
 rw [Sem.run_bind,hc];rfl
noncomputable def Ym2 (tb : Nat→Option TI) (n : Nat) (s : St) : Option (Pl × Oper × TypeId × Nat × Operand × Nat × Int):=match nxO tb n s with
 | some (p,o)=>match o.op,p.dr with
  | .indexAddr T (.global g) y,false=>match Xdp (look p.E) y,tb T with
   | some (.d (.int _ j)),some ⟨.st _,.int _ _,_,ar⟩=>match Nat.beq ar 0 with
    | false=>some (p,o,T,g,y,ar,j)
    | true=>none
   | _,_=>none
  | _,_=>none
 | none=>none
theorem Gx (j : Nat) (k : IntKind) (z : Int) {o : Oper} {T : TypeId} {y : Operand} {g ar : Nat} {i : Int} (h : Ym2 c.tb c.n s=some (p,o,T,g,y,ar,i)) (hj : j<ar) (hg : ∀ W,c.gb.g W→Fr W g j (.int k z)) (hr : inR k z) (kk : p.nx c (.at (.int k z))) (hi : i=(j : Int):=by first | exact rfl | omega) : StP c s:=by
 subst hi
 unfold Ym2 at h
 split at h <;> try cases h
 rename_i p' o' ho
 split at h <;> try cases h
 rename_i T' g' y' hop hdr
 split at h <;> try cases h
 rename_i k1 j1 z1 k2 z2 eb ar1 hy hti
 split at h <;> cases h
 rename_i hz
 have hz : ¬ ar=0:=fun e=>by subst e;cases hz
 refine Xyg (us:=[]) ho (by unfold Xar;rw [hop];rfl) hdr (fun N W θ ρ hgb hO hN hB hv=>?_) (Pl.nx_nil kk)
 obtain ⟨hk,_⟩:=c.hT _ _ hti
 obtain ⟨t,u1,_,u3⟩:=hk.u
 simp only [hz,if_false] at u3
 obtain ⟨E,e1,i,v0,i1,i2,_⟩:=u3
 subst e1
 obtain ⟨ey,_⟩:=Xc5 (hv _ _ hy)
 have eg:=hgb.2 g
 have i2 : i.size=1:=i2
 refine .val (u:=.pointer (some ⟨g,j,none⟩)) hO ?_ (Yl8 (e:=[.int k z]) ⟨rfl,hr⟩ fun q v hq=>?_) (fun _ h=>h.elim)
 · have hjl : (j : Int)<(ar : Int):=by omega
   simp [execOp,hop,eg,ey,Instr.indexAt,Instr.sureAddr,asIntOf,sizeOf,typeInfo,underlying,program,bind,Sem.bind,Sem.run,pure,u1,i1,i2,hjl,hj,add0]
 · cases q with
   | zero=>simp at hq;subst hq;exact hg W hgb.1
   | succ q=>simp at hq
end
end
section
section
variable {c : Cx} {s : St} {p : Pl}
end
end
end Go.Vm
namespace Go.Proofs.YtpgcfjpkilabfaaGreatDoor
open Go Go.Vm Go.Num
abbrev Tx (s : List UInt8) : Prop:=s.length<4611686018427387904
theorem Xgn {s t : List UInt8} (hs : Tx s) (ht : Tx t) : C0 257 [.d (.str s),.d (.str t)] (·=.b (dc (s.take t.length=t))):=by
 refine En Tryz.func257 fun _ _ _=>?_
 refine By rfl (fun h=>?_) fun h=>?_
 · refine Stk t.length _ rfl (by omega) rfl ?_
   exact R1 rfl (.bp Xan)
 · refine R1 rfl (.bp ⟨fun e=>(by cases e),fun e=>?_⟩)
   have:=congrArg List.length e
   rw [W0j] at this
   omega
theorem Xm2 {s t : List UInt8} (hs : Tx s) (ht : Tx t) : C0 104 [.d (.str s),.d (.str t)] (·=.tup (.pr (.d (.str (if s.take t.length=t then s.drop t.length else s))) (.b (dc (s.take t.length=t))))):=by
 have h1 : C0 182 [.d (.str s),.d (.str t)] (·=.tup (.pr (.d (.str (if s.take t.length=t then s.drop t.length else s))) (.b (dc (s.take t.length=t))))):=by
  refine En Tryz.func182 fun _ _ _=>?_
  refine Ce rfl (Xgn hs ht) ?_
  refine By rfl (fun h=>?_) fun h=>?_
  · refine RTt rfl (.cons (.eq (by rw [if_neg h])) (.one (by exact .bp (c:=false) ⟨fun e=>(by cases e),fun e=>absurd e h⟩) (fun _ _ e=>by cases e) (fun _ _ e=>by cases e)))
  · have h:=W4k.1 h
    have hl : t.length≤s.length:=by have:=congrArg List.length h;rw [W0j] at this;omega
    refine Sdp t.length _ rfl hl rfl ?_
    refine RTt rfl (.cons (.eq (by rw [if_pos h])) (.one (by exact .bp (c:=true) ⟨fun _=>h,fun _=>rfl⟩) (fun _ _ e=>by cases e) (fun _ _ e=>by cases e)))
 refine En Tryz.func104 fun _ _ _=>?_
 refine Ce rfl h1 ?_
 exact R0t
end Go.Proofs.YtpgcfjpkilabfaaGreatDoor
namespace Go.Num
def dec (n : Nat) : List UInt8:=if h : n<10 then [UInt8.ofNat (48+n)] else dec (n / 10)++[UInt8.ofNat (48+n % 10)]
termination_by n
decreasing_by omega
theorem Xdf {n : Nat} (h : n<10) : dec n=[UInt8.ofNat (48+n)]:=by rw [dec,dif_pos h]
theorem Xfp {n : Nat} (h : 10≤n) : dec n=dec (n / 10)++[UInt8.ofNat (48+n % 10)]:=by rw [dec,dif_neg (by omega)]
theorem Xv7 (n : Nat) : dec n≠[]:=by
 rw [dec];split <;> simp
theorem Xv5 (n : Nat) : 0<(dec n).length:=W5q.2 (Xv7 n)
theorem Xe3 : ∀ (k n : Nat),n<10 ^ (k+1)→(dec n).length≤k+1
 | 0,n,h=>by rw [Xdf (by simpa using h)];simp
 | k+1,n,h=>by
  by_cases h1 : n<10
  · rw [Xdf h1];simp
  · rw [Xfp (by omega),W0d]
    have:=Xe3 k (n / 10) (W4e (by rw [W0s] at h;omega))
    simp;omega
theorem Xel : ∀ (k n : Nat),10 ^ k≤n→k+1≤(dec n).length
 | 0,n,h=>Xv5 n
 | k+1,n,h=>by
  rw [W0s] at h
  have : 0<10 ^ k:=W7r (by decide)
  rw [Xfp (by omega),W0d]
  have:=Xel k (n / 10) (by omega)
  simp;omega
theorem Yi0 (n : Nat) : n<10 ^ (dec n).length:=by
 induction n using Nat.strongRecOn with
 | ind n ih =>
  by_cases h : n<10
  · rw [Xdf h];simpa using h
  · rw [Xfp (by omega),W0d]
    have:=ih (n / 10) (by omega)
    simp only [W6e]
    rw [W0s];omega
def tx (z : Int) : List UInt8:=(if z<0 then [45] else [])++dec z.natAbs
theorem Xyb (l : Nat) : 4294967296 ^ l≤10 ^ (10*l):=by
 rw [W4b];exact W6k (by decide) l
theorem Xob (n : Nat) : (dec n).length≤10*(dig n).length+1:=by
 refine Xe3 _ n (W0p (W0p (by have:=Xbq (Xad n);rwa [Xaf] at this) (Xyb _)) (W0k (by decide) (by omega)))
theorem dg {d : Nat} (h : d<10) : (UInt8.ofNat (48+d)).toNat=48+d:=by
 rw [UInt8.toNat_ofNat'];exact W3p (by omega)
def Xsi (b : UInt8) : Prop:=48≤b.toNat∧b.toNat≤57
theorem Yi1 (n : Nat) : ∀ b∈dec n,Xsi b:=by
 induction n using Nat.strongRecOn with
 | ind n ih =>
  intro b hb
  by_cases h : n<10
  · rw [Xdf h,W0e] at hb;subst hb;exact ⟨by rw [dg h];omega,by rw [dg h];omega⟩
  · rw [Xfp (by omega),W2x,W0e] at hb
    rcases hb with hb | hb
    · exact ih _ (by omega) b hb
    · subst hb;have:=W1y n (show 0<10 by decide);exact ⟨by rw [dg this];omega,by rw [dg this];omega⟩
def pad (k : Nat) (d : List UInt8) : List UInt8:=List.replicate (k+1 - d.length) 48++d
theorem Yde (k : Nat) (d : List UInt8) : (pad k d).length=max (k+1) d.length:=by simp [pad];omega
def pt (k : Nat) (p : List UInt8) : List UInt8:=if k=0 then p else p.take (p.length - k)++46::p.drop (p.length - k)
def txt (z : Int) (k : Nat) : List UInt8:=(if z<0 then [45] else [])++pt k (pad k (dec z.natAbs))
def Xxd (l : List UInt8) : Nat:=l.foldl (fun a b=>10*a+(b.toNat - 48)) 0
theorem Xmi (l : List UInt8) (b : UInt8) : Xxd (l++[b])=10*Xxd l+(b.toNat - 48):=by simp [Xxd]
theorem Xxu {p : List UInt8→Prop} (h0 : p []) (hs : ∀ l b,p l→p (l++[b])) (l : List UInt8) : p l:=by
 rw [←List.reverse_reverse l]
 induction l.reverse with
 | nil=>exact h0
 | cons b l ih=>rw [List.reverse_cons];exact hs _ _ ih
theorem Yef {l : List UInt8} (h : ∀ b∈l,Xsi b) : Xxd l<10 ^ l.length:=by
 induction l using Xxu with
 | h0=>decide
 | hs l b ih =>
  have h1:=ih fun x hx=>h x (W2r _ hx)
  have h2:=h b (W1p _ (W0e.2 rfl))
  unfold Xsi at h2
  rw [Xmi,W0d,W6e,W0s]
  omega
theorem Xzb (b : UInt8) : Xxd [b]=b.toNat - 48:=by simp [Xxd]
end Go.Num
namespace Go.Proofs.YtpgcfjpkilabfaaGreatDoor
open Go Go.Vm Go.Num Go.Proofs Go.Shelf Go.RowKit
section
def d2 (n : Nat) : List UInt8:=[UInt8.ofNat (48+n / 10),UInt8.ofNat (48+n % 10)]
theorem Yi2 {n : Nat} (h : 10≤n) (h1 : n<100) : dec n=d2 n:=by rw [Xfp h,Xdf (by omega)];rfl
def tb2 : List UInt8:=(List.range 100).flatMap d2
theorem Xxv {n : Nat} (hn : n<100) : C0 327 [.d (.int .i64 n)] (·=.d (.str (dec n))):=by
 refine En Tryz.func327 fun _ _ _=>?_
 refine By rfl (fun h=>?_) fun h=>?_
 · refine Ar (n+1 : Nat) rfl ?_
   refine Smd n (n+1) (dec n) rfl ⟨by omega,by simp;omega⟩ ?_ ?_
   · rw [Xdf (by omega)]
     have h1 : n<10:=by omega
     clear hn h
     revert h1;generalize n=j;revert j;decide +kernel
   · exact R0
 · refine Ar (n*2 : Nat) rfl ?_
   refine Ar (n*2 : Nat) rfl ?_
   refine Ar (n*2+2 : Nat) rfl ?_
   refine Smd (n*2) (n*2+2) (dec n) rfl ⟨by omega,by simp;omega⟩ ?_ ?_
   · rw [Yi2 (by omega) hn]
     clear h
     revert hn;generalize n=j;revert j;decide +kernel
   · exact R0
theorem Xl0 {n : Nat} (hn : n≤64) : C0 368 [.d (.int .i64 n)] (·=.d (.int .i64 (n*78913 / 262144 : Nat))):=by
 refine En Tryz.func368 fun _ _ _=>?_
 refine Ar (n*78913 : Nat) rfl ?_
 refine Ar (n*78913 / 2 ^ 18 : Nat) rfl ?_ (Xij (n:=18) (by decide))
 exact R1 rfl (.eq rfl)
theorem Xzp {p : Prop} : C0 370 [.b (dc p)] (fun v=>∃ n : Nat,v=.d (.int .i64 n)∧(n=1∧p∨n=0∧¬ p)):=by
 refine En Tryz.func370 fun _ _ _=>?_
 refine By rfl (fun h=>?_) fun h=>?_
 · exact Rt rfl (.one (.rf rfl) rfl rfl) ⟨1,rfl,.inl ⟨rfl,h⟩⟩
 · exact Rt rfl (.one (.rf rfl) rfl rfl) ⟨0,rfl,.inr ⟨rfl,h⟩⟩
theorem Xz0 {x : Nat} (hx : x<18446744073709551616) : C0 369 [.d (.int .u64 x)] (·=.d (.int .i64 (bl x))):=by
 refine En Tryz.func369 fun _ _ _=>?_
 refine Cu none (fun ((x1,n1) : Nat × Nat)=>[(0,.d (.int .u64 x1)),(2,.d (.int .i64 n1))]) (fun _=>[]) (fun (x1,n1)=>x1<4294967296∧bl x=bl x1+n1∧n1≤32) rfl ?_ fun ⟨x0,n0⟩ ⟨hx0,hb0,hn0⟩=>?_
 · refine By rfl (fun h=>?_) fun h=>?_
   · refine Ar (x / 2 ^ 32 : Nat) rfl ?_ (Xij (n:=32) (by decide))
     exact Jn (x / 2 ^ 32,32) [] rfl ⟨by omega,Xen (by omega),W0c _⟩
   · exact Jn (x,0) [] rfl ⟨by omega,rfl,by omega⟩
 refine Cu none (fun ((x1,n1) : Nat × Nat)=>[(0,.d (.int .u64 x1)),(2,.d (.int .i64 n1))]) (fun _=>[]) (fun (x1,n1)=>x1<65536∧bl x=bl x1+n1∧n1≤48) rfl ?_ fun ⟨x1,n1⟩ ⟨hx1,hb1,hn1⟩=>?_
 · refine By rfl (fun h=>?_) fun h=>?_
   · refine Ar (x0 / 2 ^ 16 : Nat) rfl ?_ (Xij (n:=16) (by decide))
     refine Ar (n0+16 : Nat) rfl ?_
     exact Jn (x0 / 2 ^ 16,n0+16) [] rfl ⟨by omega,by rw [hb0,Xen (n:=x0) (k:=16) (by omega)];omega,by omega⟩
   · exact Jn (x0,n0) [] rfl ⟨by omega,hb0,by omega⟩
 refine Cu none (fun ((x1,n1) : Nat × Nat)=>[(0,.d (.int .u64 x1)),(2,.d (.int .i64 n1))]) (fun _=>[]) (fun (x1,n1)=>x1<256∧bl x=bl x1+n1∧n1≤56) rfl ?_ fun ⟨x2,n2⟩ ⟨hx2,hb2,hn2⟩=>?_
 · refine By rfl (fun h=>?_) fun h=>?_
   · refine Ar (x1 / 2 ^ 8 : Nat) rfl ?_ (Xij (n:=8) (by decide))
     refine Ar (n1+8 : Nat) rfl ?_
     exact Jn (x1 / 2 ^ 8,n1+8) [] rfl ⟨by omega,by rw [hb1,Xen (n:=x1) (k:=8) (by omega)];omega,by omega⟩
   · exact Jn (x1,n1) [] rfl ⟨by omega,hb1,by omega⟩
 have hbl : bl x2<256:=W0p (Ybr (p:=fun j=>bl j<10) (by decide +kernel) x2 hx2) (by decide)
 refine Go.Vm.Cv x2 rfl ?_
 refine Yx x2 (UInt8.ofNat (bl x2)) rfl (by revert hx2;generalize x2=j;revert j;decide +kernel) ?_
 refine Go.Vm.Cv (bl x2 : Nat) rfl ?_ ((wI ⟨by omega,by rw [Xxm hbl];omega⟩).trans (Xxm hbl))
 refine Ar (bl x : Nat) rfl ?_
 exact R0
theorem Xlw {x : Nat} (h1 : 100≤x) (hx : x<1000000000) : C0 328 [.d (.int .u64 x)] (·=.d (.int .i64 (dec x).length)):=by
 obtain ⟨b1,b2,b3⟩:=Xcf (n:=x) (by omega)
 have hb7 : 7≤bl x:=by
  have : 2 ^ 6<2 ^ bl x:=W1r (by omega) b2
  have:=(W2p (by decide : 1<2)).1 this
  omega
 have hb30 : bl x≤30:=by
  have : 2 ^ (bl x - 1)<2 ^ 30:=W1r b1 (by omega)
  have:=(W2p (by decide : 1<2)).1 this
  omega
 obtain ⟨t,ht⟩ : ∃ t,t=bl x*78913 / 262144:=⟨_,rfl⟩
 have ht9 : t≤9:=by omega
 have key : 10 ^ (t - 1)≤x∧x<10 ^ (t+1)∧1≤t:=by
  have hc : ∀ b,b≤30→7≤b→10 ^ (b*78913 / 262144 - 1)≤2 ^ (b - 1)∧2 ^ b≤10 ^ (b*78913 / 262144+1)∧1≤b*78913 / 262144:=by decide +kernel
  obtain ⟨c1,c2,c3⟩:=hc (bl x) hb30 hb7
  rw [←ht] at c1 c2 c3
  exact ⟨W0h c1 b1,W0p b2 c2,c3⟩
 refine En Tryz.func328 fun _ _ _=>?_
 refine Ce rfl (Xz0 (by omega)) ?_
 refine Ce rfl (show C0 _ _ (·=.d (.int .i64 (t : Nat))) by rw [ht];exact Xl0 (by omega)) ?_
 refine Gx t .u64 ((10 ^ t : Nat) : Int) rfl (by omega) (fun W h=>h t (by omega)) ?_ ?_
 · have : 10 ^ t≤10 ^ 9:=W0k (by decide) ht9
   exact wr rfl (by simp only [inK];omega)
 refine Ca rfl (C.nb Xzp) fun v hv=>?_
 obtain ⟨n,rfl,hn⟩:=hv
 refine Ar ((dec x).length : Nat) rfl ?_ ?_
 · exact R0
 · refine wr ?_ ?_
   · rcases hn with ⟨rfl,hp⟩ | ⟨rfl,hp⟩
     · have:=Xe3 t x key.2.1
       have:=Xel t x (by omega)
       omega
     · have h3:=Xe3 (t - 1) x (by rw [show t - 1+1=t by omega];omega)
       have h4:=Xel (t - 1) x key.1
       omega
   · have:=Xe3 9 x (by omega)
     simp only [inK];omega
end
section
def dgs : Nat→Nat→List UInt8
 | 0,_=>[]
 | w+1,n=>dgs w (n / 10)++[UInt8.ofNat (48+n % 10)]
theorem Yej (w n : Nat) : dgs (w+2) n=dgs w (n / 100)++d2 (n % 100):=by
 rw [dgs,dgs,W5y,d2,show n / 10 % 10=n % 100 / 10 by omega,show n % 10=n % 100 % 10 by omega]
 simp
theorem Xv4 (n : Nat) : dgs (dec n).length n=dec n:=by
 induction n using Nat.strongRecOn with
 | ind n ih =>
  by_cases h : n<10
  · rw [Xdf h];show dgs 1 n=_;rw [dgs,dgs,W3p h];rfl
  · rw [Xfp (by omega),W0d];show dgs (_+1) n=_
    rw [dgs,ih _ (by omega)]
def b8 (b : UInt8) : D:=.int .u8 b.toNat
theorem Xwl : ∀ l : List UInt8,Xzn (l.map b8)=some l
 | []=>rfl
 | b::l=>by
  show (match Xzn (l.map b8) with | some s=>some (UInt8.ofNat ((b.toNat : Int)).toNat::s) | none=>none)=_
  rw [Xwl l];simp
theorem st1 {z acc : List UInt8} {i j : Nat} {a : UInt8} (h1 : j+1=i) (h2 : i≤z.length) : ((z.take i++acc).map b8).set j (b8 a)=(z.take j++a::acc).map b8:=by
 subst h1
 rw [←List.map_set]
 congr 1
 apply W5z
 intro k
 by_cases hk : k<j
 · rw [W1w (by omega),W1a (by simp;omega),W1a (by simp;omega),W1i,W1i,if_pos (by omega),if_pos (by omega)]
 · by_cases hk2 : k=j
   · subst hk2
     rw [W2u (by simp;omega),W0v (by simp;omega)]
     have : k - (List.take k z).length=0:=by simp;omega
     rw [this];rfl
   · obtain ⟨q,rfl⟩ : ∃ q,k=j+1+q:=⟨k - (j+1),by omega⟩
     rw [W1w (by omega),W0v (by simp;omega),W0v (by simp;omega)]
     have e1 : j+1+q - (List.take (j+1) z).length=q:=by simp;omega
     have e2 : j+1+q - (List.take j z).length=q+1:=by simp;omega
     rw [e1,e2];simp
def Ymp (l : List UInt8) : Prop:=∀ v,v<100→l[v*2+1]?=some (UInt8.ofNat (48+v % 10))∧l[v*2]?=some (UInt8.ofNat (48+v / 10))
instance (l : List UInt8) : Decidable (Ymp l):=inferInstanceAs (Decidable (∀ v,v<100→_))
theorem quN {k : IntKind} {a b r : Nat} (hb : b≠0) (h : a / b=r) (hk : inK k (r : Int)) : arB .quo k (a : Int) (b : Int) (r : Int):=show _∧_ from ⟨by omega,wr (by subst h;rfl) hk⟩
theorem reN {k : IntKind} {a b r : Nat} (hb : b≠0) (h : a % b=r) : arB .rem k (a : Int) (b : Int) (r : Int):=show _∧_ from ⟨by omega,by subst h;rfl⟩
theorem tbl : Ymp (List.flatten ((List.range 100).map d2)):=by decide +kernel
theorem Stb {c : Cx} {s : St} {p : Pl} {q j : Nat} {xs : List D} {z : Int} (a : UInt8) {zs : List D} (h : Yk9 c.tb c.n s=some (p,q,1,xs,j,.int .u8 z)) (hj : j<xs.length) (hz : xs.set j (b8 a)=zs) (k : p.nx' c (.ub True) [(q,.arr 1 zs)]) (hza : z=(a.toNat : Int):=by exact rfl) : StP c s:=by
 subst hza
 exact Sto h hj hz k
theorem Xh3 {nd x : Nat} {z0 : List UInt8} (h1 : nd≤9) (hx : x<1000000000) (hxn : x<10 ^ nd) (hz0 : nd≤z0.length) (hz24 : z0.length<1000) :
 CW0 329 [.own 1000001 1 0 nd,.d (.int .u64 x)] [(1000001,.arr 1 (z0.map b8))] fun v H'=>H'=[(1000001,.arr 1 ((dgs nd x++z0.drop nd).map b8))]:=by
 refine EnW Tryz.func329 fun _ _ _ _=>?_
 refine Lo (fun ((i,u,acc) : Nat × Nat × List UInt8)=>[(0,.own 1000001 1 0 nd),(1,.d (.int .u64 u)),(4,.d (.int .i64 i))]) (fun (i,_,acc)=>[(1000001,.arr 1 ((z0.take i++acc).map b8))])
  (fun (i,u,acc)=>i≤nd∧u<10 ^ i∧u<1000000000∧dgs i u++acc=dgs nd x++z0.drop nd) (fun (i,_,_)=>i) (nd,x,z0.drop nd) [] rfl ⟨W0c _,hxn,hx,rfl⟩ ?_ (by exact ⟨rfl,by simp only [W5h];rfl,rfl,rfl,rfl⟩)
 rintro ⟨i,u,acc⟩ ⟨hi,hu,hu9,hI⟩
 refine By rfl (fun h=>?_) fun h=>?_
 · obtain ⟨v,hv⟩ : ∃ v,v=u % 100000000:=⟨_,rfl⟩
   obtain ⟨t6,ht6⟩ : ∃ t,t=v / 10000:=⟨_,rfl⟩
   obtain ⟨t7,ht7⟩ : ∃ t,t=v % 10000:=⟨_,rfl⟩
   obtain ⟨v0,hv0⟩ : ∃ w,w=t7 % 100:=⟨_,rfl⟩
   obtain ⟨v1,hv1⟩ : ∃ w,w=t7 / 100:=⟨_,rfl⟩
   obtain ⟨v2,hv2⟩ : ∃ w,w=t6 % 100:=⟨_,rfl⟩
   obtain ⟨v3,hv3⟩ : ∃ w,w=t6 / 100:=⟨_,rfl⟩
   have Bv0 : v0<100:=by omega
   have Bv1 : v1<100:=by omega
   have Bv2 : v2<100:=by omega
   have Bv3 : v3<100:=by omega
   refine Ar (v : Nat) rfl ?_ (reN (b:=100000000) (by decide) hv.symm)
   refine Go.Vm.Cv v rfl ?_
   refine Ar (u / 100000000 : Nat) rfl ?_ (quN (b:=100000000) (by decide) rfl (by simp only [inK];omega))
   refine Ar t6 rfl ?_ (quN (b:=10000) (by decide) ht6.symm (by simp only [inK];omega))
   refine Ar t7 rfl ?_ (reN (b:=10000) (by decide) ht7.symm)
   refine Ar v1 rfl ?_ (quN (b:=100) (by decide) hv1.symm (by simp only [inK];omega))
   refine Ar (v1*2 : Nat) rfl ?_
   refine Ar v0 rfl ?_ (reN (b:=100) (by decide) hv0.symm)
   refine Ar (v0*2 : Nat) rfl ?_
   refine Ar v3 rfl ?_ (quN (b:=100) (by decide) hv3.symm (by simp only [inK];omega))
   refine Ar (v3*2 : Nat) rfl ?_
   refine Ar v2 rfl ?_ (reN (b:=100) (by decide) hv2.symm)
   refine Ar (v2*2 : Nat) rfl ?_
   refine Dw rfl ?_
   refine Ar ((i - 1 : Nat) : Int) rfl ?_
   refine Ar ((i - 2 : Nat) : Int) rfl ?_
   refine Ar ((v0*2+1 : Nat) : Int) rfl ?_
   refine Yx (v0*2+1) (UInt8.ofNat (48+v0 % 10)) rfl (tbl v0 Bv0).1 ?_
   refine Yx (v0*2) (UInt8.ofNat (48+v0 / 10)) rfl (tbl v0 Bv0).2 ?_
   refine Eo (i - 1) rfl (by omega) ?_
   refine Stb (UInt8.ofNat (48+v0 % 10)) rfl (by simp only [W0i,W0d,W0j,W0o];omega) (st1 (by omega) (by omega)) ?_
   refine Eo (i - 2) rfl (by omega) ?_
   refine Stb (UInt8.ofNat (48+v0 / 10)) rfl (by simp only [W0i,W0d,W0j,W0o];omega) (st1 (by omega) (by omega)) ?_
   refine Dw rfl ?_
   refine Ar ((i - 3 : Nat) : Int) rfl ?_
   refine Ar ((i - 4 : Nat) : Int) rfl ?_
   refine Ar ((v1*2+1 : Nat) : Int) rfl ?_
   refine Yx (v1*2+1) (UInt8.ofNat (48+v1 % 10)) rfl (tbl v1 Bv1).1 ?_
   refine Yx (v1*2) (UInt8.ofNat (48+v1 / 10)) rfl (tbl v1 Bv1).2 ?_
   refine Eo (i - 3) rfl (by omega) ?_
   refine Stb (UInt8.ofNat (48+v1 % 10)) rfl (by simp only [W0i,W0d,W0j,W0o];omega) (st1 (by omega) (by omega)) ?_
   refine Eo (i - 4) rfl (by omega) ?_
   refine Stb (UInt8.ofNat (48+v1 / 10)) rfl (by simp only [W0i,W0d,W0j,W0o];omega) (st1 (by omega) (by omega)) ?_
   refine Dw rfl ?_
   refine Ar ((i - 5 : Nat) : Int) rfl ?_
   refine Ar ((i - 6 : Nat) : Int) rfl ?_
   refine Ar ((v2*2+1 : Nat) : Int) rfl ?_
   refine Yx (v2*2+1) (UInt8.ofNat (48+v2 % 10)) rfl (tbl v2 Bv2).1 ?_
   refine Yx (v2*2) (UInt8.ofNat (48+v2 / 10)) rfl (tbl v2 Bv2).2 ?_
   refine Eo (i - 5) rfl (by omega) ?_
   refine Stb (UInt8.ofNat (48+v2 % 10)) rfl (by simp only [W0i,W0d,W0j,W0o];omega) (st1 (by omega) (by omega)) ?_
   refine Eo (i - 6) rfl (by omega) ?_
   refine Stb (UInt8.ofNat (48+v2 / 10)) rfl (by simp only [W0i,W0d,W0j,W0o];omega) (st1 (by omega) (by omega)) ?_
   refine Dw rfl ?_
   refine Ar ((i - 7 : Nat) : Int) rfl ?_
   refine Ar ((i - 8 : Nat) : Int) rfl ?_
   refine Ar ((v3*2+1 : Nat) : Int) rfl ?_
   refine Yx (v3*2+1) (UInt8.ofNat (48+v3 % 10)) rfl (tbl v3 Bv3).1 ?_
   refine Yx (v3*2) (UInt8.ofNat (48+v3 / 10)) rfl (tbl v3 Bv3).2 ?_
   refine Eo (i - 7) rfl (by omega) ?_
   refine Stb (UInt8.ofNat (48+v3 % 10)) rfl (by simp only [W0i,W0d,W0j,W0o];omega) (st1 (by omega) (by omega)) ?_
   refine Eo (i - 8) rfl (by omega) ?_
   refine Stb (UInt8.ofNat (48+v3 / 10)) rfl (by simp only [W0i,W0d,W0j,W0o];omega) (st1 (by omega) (by omega)) ?_
   refine Ar ((i - 8 : Nat) : Int) rfl ?_
   refine Bk (i - 8,u / 100000000,d2 v3++(d2 v2++(d2 v1++(d2 v0++acc)))) [] rfl ⟨by omega,?_,by omega,?_⟩ (by show i - 8<i;omega) (by exact ⟨rfl,rfl,rfl,rfl,rfl⟩)
   · obtain ⟨q,rfl⟩ : ∃ q,i=q+8:=⟨i - 8,by omega⟩
     rw [W0u] at hu
     rw [W3m]
     exact W4e (by rw [W1d];exact hu)
   · obtain ⟨q,rfl⟩ : ∃ q,i=q+8:=⟨i - 8,by omega⟩
     rw [W3m,←hI,show q+8=q+6+2 from rfl,Yej,show q+6=q+4+2 from rfl,Yej,show q+4=q+2+2 from rfl,Yej,Yej]
     rw [show u / 100 / 100 / 100 / 100=u / 100000000 by omega,show u % 100=v0 by omega,show u / 100 % 100=v1 by omega,show u / 100 / 100 % 100=v2 by omega,show u / 100 / 100 / 100 % 100=v3 by omega]
     simp only [W3c]
 have hi8 : i<8:=by omega
 have hu8 : u<10 ^ 8:=W0p hu (W0k (by decide) (by omega))
 refine Go.Vm.Cv u rfl ?_
 refine Cu none (fun ((i,u,acc) : Nat × Nat × List UInt8)=>[(0,.own 1000001 1 0 nd),(12,.d (.int .u32 u)),(4,.d (.int .i64 i))]) (fun (i,_,acc)=>[(1000001,.arr 1 ((z0.take i++acc).map b8))])
  (fun (i,u,acc)=>i≤nd∧i<4∧u<10 ^ i∧dgs i u++acc=dgs nd x++z0.drop nd) rfl ?_ ?_
 · refine By rfl (fun h4=>?_) fun h4=>?_
   · obtain ⟨v,hv⟩ : ∃ v,v=u % 10000:=⟨_,rfl⟩
     obtain ⟨v0,hv0⟩ : ∃ w,w=v % 100:=⟨_,rfl⟩
     obtain ⟨v1,hv1⟩ : ∃ w,w=v / 100:=⟨_,rfl⟩
     have Bv0 : v0<100:=by omega
     have Bv1 : v1<100:=by omega
     refine Ar (v : Nat) rfl ?_ (reN (b:=10000) (by decide) hv.symm)
     refine Ar (u / 10000 : Nat) rfl ?_ (quN (b:=10000) (by decide) rfl (by simp only [inK];omega))
     refine Ar v1 rfl ?_ (quN (b:=100) (by decide) hv1.symm (by simp only [inK];omega))
     refine Ar (v1*2 : Nat) rfl ?_
     refine Ar v0 rfl ?_ (reN (b:=100) (by decide) hv0.symm)
     refine Ar (v0*2 : Nat) rfl ?_
     refine Dw rfl ?_
     refine Ar ((i - 1 : Nat) : Int) rfl ?_
     refine Ar ((i - 2 : Nat) : Int) rfl ?_
     refine Ar ((v0*2+1 : Nat) : Int) rfl ?_
     refine Yx (v0*2+1) (UInt8.ofNat (48+v0 % 10)) rfl (tbl v0 Bv0).1 ?_
     refine Yx (v0*2) (UInt8.ofNat (48+v0 / 10)) rfl (tbl v0 Bv0).2 ?_
     refine Eo (i - 1) rfl (by omega) ?_
     refine Stb (UInt8.ofNat (48+v0 % 10)) rfl (by simp only [W0i,W0d,W0j,W0o];omega) (st1 (by omega) (by omega)) ?_
     refine Eo (i - 2) rfl (by omega) ?_
     refine Stb (UInt8.ofNat (48+v0 / 10)) rfl (by simp only [W0i,W0d,W0j,W0o];omega) (st1 (by omega) (by omega)) ?_
     refine Dw rfl ?_
     refine Ar ((i - 3 : Nat) : Int) rfl ?_
     refine Ar ((i - 4 : Nat) : Int) rfl ?_
     refine Ar ((v1*2+1 : Nat) : Int) rfl ?_
     refine Yx (v1*2+1) (UInt8.ofNat (48+v1 % 10)) rfl (tbl v1 Bv1).1 ?_
     refine Yx (v1*2) (UInt8.ofNat (48+v1 / 10)) rfl (tbl v1 Bv1).2 ?_
     refine Eo (i - 3) rfl (by omega) ?_
     refine Stb (UInt8.ofNat (48+v1 % 10)) rfl (by simp only [W0i,W0d,W0j,W0o];omega) (st1 (by omega) (by omega)) ?_
     refine Eo (i - 4) rfl (by omega) ?_
     refine Stb (UInt8.ofNat (48+v1 / 10)) rfl (by simp only [W0i,W0d,W0j,W0o];omega) (st1 (by omega) (by omega)) ?_
     refine Ar ((i - 4 : Nat) : Int) rfl ?_
     refine Jn (i - 4,u / 10000,d2 v1++(d2 v0++acc)) [] rfl ⟨by omega,by omega,?_,?_⟩
     · obtain ⟨q,rfl⟩ : ∃ q,i=q+4:=⟨i - 4,by omega⟩
       rw [W0u] at hu
       rw [W3m]
       exact W4e (by rw [W1d];exact hu)
     · obtain ⟨q,rfl⟩ : ∃ q,i=q+4:=⟨i - 4,by omega⟩
       rw [W3m,←hI,show q+4=q+2+2 from rfl,Yej,Yej]
       rw [show u / 100 / 100=u / 10000 by omega,show u % 100=v0 by omega,show u / 100 % 100=v1 by omega]
       simp only [W3c]
   · exact Jn (i,u,acc) [] rfl ⟨hi,by omega,hu,hI⟩
 clear hu8 hi8 h hI hu9 hu hi acc u i
 rintro ⟨i,u,acc⟩ ⟨hi,hi4,hu,hI⟩
 have hu4 : u<10 ^ 4:=W0p hu (W0k (by decide) (by omega))
 refine Cu none (fun ((i,u,acc) : Nat × Nat × List UInt8)=>[(0,.own 1000001 1 0 nd),(12,.d (.int .u32 u)),(4,.d (.int .i64 i))]) (fun (i,_,acc)=>[(1000001,.arr 1 ((z0.take i++acc).map b8))])
  (fun (i,u,acc)=>i≤nd∧i<2∧u<10 ^ i∧dgs i u++acc=dgs nd x++z0.drop nd) rfl ?_ ?_
 · refine By rfl (fun h4=>?_) fun h4=>?_
   · obtain ⟨v0,hv0⟩ : ∃ w,w=u % 100:=⟨_,rfl⟩
     have Bv0 : v0<100:=by omega
     refine Ar v0 rfl ?_ (reN (b:=100) (by decide) hv0.symm)
     refine Ar (v0*2 : Nat) rfl ?_
     refine Ar (u / 100 : Nat) rfl ?_ (quN (b:=100) (by decide) rfl (by simp only [inK];omega))
     refine Dw rfl ?_
     refine Ar ((i - 1 : Nat) : Int) rfl ?_
     refine Ar ((i - 2 : Nat) : Int) rfl ?_
     refine Ar ((v0*2+1 : Nat) : Int) rfl ?_
     refine Yx (v0*2+1) (UInt8.ofNat (48+v0 % 10)) rfl (tbl v0 Bv0).1 ?_
     refine Yx (v0*2) (UInt8.ofNat (48+v0 / 10)) rfl (tbl v0 Bv0).2 ?_
     refine Eo (i - 1) rfl (by omega) ?_
     refine Stb (UInt8.ofNat (48+v0 % 10)) rfl (by simp only [W0i,W0d,W0j,W0o];omega) (st1 (by omega) (by omega)) ?_
     refine Eo (i - 2) rfl (by omega) ?_
     refine Stb (UInt8.ofNat (48+v0 / 10)) rfl (by simp only [W0i,W0d,W0j,W0o];omega) (st1 (by omega) (by omega)) ?_
     refine Ar ((i - 2 : Nat) : Int) rfl ?_
     refine Jn (i - 2,u / 100,d2 v0++acc) [] rfl ⟨by omega,by omega,?_,?_⟩
     · obtain ⟨q,rfl⟩ : ∃ q,i=q+2:=⟨i - 2,by omega⟩
       rw [W0u] at hu
       rw [W3m]
       exact W4e (by rw [W1d];exact hu)
     · obtain ⟨q,rfl⟩ : ∃ q,i=q+2:=⟨i - 2,by omega⟩
       rw [W3m,←hI,Yej,←hv0]
       simp only [W3c]
   · exact Jn (i,u,acc) [] rfl ⟨hi,by omega,hu,hI⟩
 clear hu4 hi4 hI hu hi acc u i
 rintro ⟨i,u,acc⟩ ⟨hi,hi2,hu,hI⟩
 refine By rfl (fun h4=>?_) fun h4=>?_
 · have : i=1:=by omega
   subst this
   have hu1 : u<10:=by simpa using hu
   refine Ar (48+u : Nat) rfl ?_
   refine Go.Vm.Cv (48+u : Nat) rfl ?_
   refine Eo 0 rfl (by omega) ?_
   refine Stb (UInt8.ofNat (48+u)) rfl (by simp only [W0i,W0d,W0j];omega) (st1 (i:=1) rfl (by omega)) ?_ (by rw [dg hu1])
   refine Rw [] [(1000001,.arr 1 ((z0.take 0++UInt8.ofNat (48+u)::acc).map b8))] rfl (.tup (.one (.rf rfl) (fun _ _ e=>by cases e) (fun _ _ e=>by cases e))) ?_
   rw [←hI,dgs,dgs,W3p hu1];rfl
 · have : i=0:=by omega
   subst this
   refine Rw [] [(1000001,.arr 1 ((z0.take 0++acc).map b8))] rfl (.tup (.one (.rf rfl) (fun _ _ e=>by cases e) (fun _ _ e=>by cases e))) ?_
   rw [←hI,dgs];rfl
end
section
theorem Xk5 {x : Nat} (hx : x<1000000000) : C0 185 [.d (.int .u64 x),.d (.int .i64 10)] (·=.d (.str (dec x))):=by
 have h1 : C0 259 [.d (.int .u64 x),.d (.int .i64 10)] (·=.d (.str (dec x))):=by
  refine En Tryz.func259 fun _ _ _=>?_
  refine Yes rfl rfl ?_
  refine By rfl (fun h=>?_) fun h=>?_
  · refine Go.Vm.Cv x rfl ?_
    refine Ce rfl (Xxv (by omega)) ?_
    exact R0
  · have hl:=Xe3 8 x hx
    have hg:=Xel 2 x (by omega)
    refine Va 5 5 900 24 ((List.replicate 24 (0 : UInt8)).map b8) rfl rfl (by decide) rfl ?_
    refine Ce rfl (Xlw (by omega) hx) ?_
    refine Sp (dec x).length rfl (by omega) (by decide) ?_ (by decide)
    refine Cw (args:=[.own 1000001 1 0 (dec x).length,.d (.int .u64 x)]) [(1000001,900)] rfl (Xh3 (z0:=List.replicate 24 (0 : UInt8)) hl hx (Yi0 x) (by simp;omega) (by simp)) (fun v H' _ hv=>?_) rfl
    subst hv
    refine Sp (dec x).length rfl (by omega) (by decide) ?_ (by decide)
    refine Bo (dec x) rfl ?_ ?_ ?_
    · simp [Xv4]
    · rw [Xv4]
      simp only [W1b]
      rw [←W2w,W6p rfl,Xwl]
    · exact R0
 refine En Tryz.func185 fun _ _ _=>?_
 refine Ce rfl h1 ?_
 exact R0
end
section
theorem Xdq {s t : List UInt8} (hs : Tx s) (ht : Tx t) : C0 187 [.d (.str s),.d (.str t)] (·=.b (dc (s.take t.length=t))):=by
 refine En Tryz.func187 fun _ _ _=>?_
 refine Ce rfl (Xgn hs ht) ?_
 exact R0
theorem Yfh {n : Nat} (hn : n<65) : C0 186 [.d (.int .u64 1),.d (.int .u64 n)] (·=.tup (.pr (.d (.int .u64 0)) (.d (.int .u64 n)))):=by
 have h1 : C0 261 [.d (.int .u64 1),.d (.int .u64 n)] (·=.tup (.pr (.d (.int .u64 0)) (.d (.int .u64 n)))):=by
  refine En Tryz.func261 fun _ _ _=>?_
  refine Ar 1 rfl ?_ (by simp only [arB];decide +kernel)
  refine Ar 0 rfl ?_ (by simp only [arB];decide +kernel)
  refine Ar n rfl ?_ (by simp only [arB];revert hn;generalize n=j;revert j;decide +kernel)
  refine Ar 0 rfl ?_ (by simp only [arB];revert hn;generalize n=j;revert j;decide +kernel)
  refine Ar n rfl ?_
  refine Ar 0 rfl ?_
  refine Ar 0 rfl ?_ (by simp only [arB];revert hn;generalize n=j;revert j;decide +kernel)
  refine Ar 0 rfl ?_
  refine Ar 0 rfl ?_ (by simp only [arB];decide +kernel)
  refine Ar 0 rfl ?_ (by simp only [arB];decide +kernel)
  refine Ar 0 rfl ?_
  refine Ar 0 rfl ?_
  refine Ar 0 rfl ?_
  refine Ar 0 rfl ?_
  refine Ar 0 rfl ?_ (by simp only [arB];decide +kernel)
  refine Ar 0 rfl ?_
  refine Ar n rfl ?_
  exact R0t
 refine En Tryz.func186 fun _ _ _=>?_
 refine Ce rfl h1 ?_
 exact R0t
theorem Xjg {n : Nat} (hn : n<65) : C0 106 [.d (.str [48]),.d (.int .i64 n)] (·=.d (.str (List.replicate n 48))):=by
 refine En Tryz.func106 fun _ _ _=>?_
 refine By rfl (fun h=>?_) fun h=>?_
 · have : n=0:=by omega
   subst this;exact R1 rfl (.eq rfl)
 refine By rfl (fun h1=>?_) fun h1=>?_
 · have : n=1:=by omega
   subst this;exact R1 rfl (.eq rfl)
 refine No rfl (by omega) ?_
 refine Go.Vm.Cv 1 rfl ?_ (by decide)
 refine Go.Vm.Cv n rfl ?_
 refine Ce rfl (Yfh hn) ?_
 refine No rfl (by decide) ?_
 refine No rfl (by omega) ?_
 refine Go.Vm.Cv n rfl ?_
 refine No rfl (by decide) ?_
 refine Yx 0 48 rfl rfl ?_
 refine No rfl (by decide) ?_
 refine No rfl (by decide) ?_
 refine Yes rfl (by decide) ?_
 refine Yes rfl (by omega) ?_
 refine Ce rfl (Xdq (by decide) (by decide)) ?_
 refine No rfl (by decide) ?_
 refine Yes rfl (by omega) ?_
 refine Ce rfl (Xdq (by decide) (by decide)) ?_
 refine No rfl (by decide) ?_
 refine Yes rfl (by omega) ?_
 refine Ce rfl (Xdq (by decide) (by decide)) ?_
 refine Yes rfl (by decide) ?_
 refine Stk n (List.replicate n 48) rfl (by simp;omega) ?_ ?_
 · clear h h1
   revert hn;generalize n=j;revert j;decide +kernel
 · exact R0
end
section
end
section
end
section
end
section
def rnB : Ren:=⟨fun n=>match n with
 | 166=>108
 | 167=>183
 | 169=>109
 | 240=>189
 | 276=>262
 | _=>0,fun n=>match n with
 | 3=>3
 | 4=>4
 | 5=>5
 | 9=>9
 | 20=>20
 | 37=>146
 | 70=>145
 | 72=>148
 | 75=>151
 | 80=>154
 | 127=>217
 | 164=>264
 | _=>0,fun n=>n⟩
theorem Yh2 : Lays.n166 Tryz.prog rnB where
 mixed:=by kernel_rfl
 f166:=by kernel_rfl
 f240:=by kernel_rfl
 f276:=by kernel_rfl
 t0:=by kernel_rfl
 a0:=fun _=>by kernel_rfl
 z0:=fun _=>by kernel_rfl
 v0:=fun _=>by kernel_rfl
 t3:=by kernel_rfl
 a3:=fun _=>by kernel_rfl
 z3:=fun _=>by kernel_rfl
 v3:=fun _=>by kernel_rfl
 t4:=by kernel_rfl
 a4:=fun _=>by kernel_rfl
 z4:=fun _=>by kernel_rfl
 v4:=fun _=>by kernel_rfl
 t9:=by kernel_rfl
 a9:=fun _=>by kernel_rfl
 z9:=fun _=>by kernel_rfl
 v9:=fun _=>by kernel_rfl
 t20:=by kernel_rfl
 a20:=fun _=>by kernel_rfl
 z20:=fun _=>by kernel_rfl
 v20:=fun _=>by kernel_rfl
 t37:=by kernel_rfl
 a37:=fun _=>by kernel_rfl
 z37:=fun _=>by kernel_rfl
 v37:=fun _=>by kernel_rfl
 t70:=by kernel_rfl
 a70:=fun _=>by kernel_rfl
 z70:=fun _=>by kernel_rfl
 v70:=fun _=>by kernel_rfl
 t72:=by kernel_rfl
 a72:=fun _=>by kernel_rfl
 z72:=fun _=>by kernel_rfl
 v72:=fun _=>by kernel_rfl
 t75:=by kernel_rfl
 a75:=fun _=>by kernel_rfl
 z75:=fun _=>by kernel_rfl
 v75:=fun _=>by kernel_rfl
 t164:=by kernel_rfl
 a164:=fun _=>by kernel_rfl
 z164:=fun _=>by kernel_rfl
 v164:=fun _=>by kernel_rfl
theorem Yh1 : Lays.n167 Tryz.prog rnB where
 mixed:=by kernel_rfl
 f167:=by kernel_rfl
 f240:=by kernel_rfl
 f276:=by kernel_rfl
 t0:=by kernel_rfl
 a0:=fun _=>by kernel_rfl
 z0:=fun _=>by kernel_rfl
 v0:=fun _=>by kernel_rfl
 t4:=by kernel_rfl
 a4:=fun _=>by kernel_rfl
 z4:=fun _=>by kernel_rfl
 v4:=fun _=>by kernel_rfl
 t5:=by kernel_rfl
 a5:=fun _=>by kernel_rfl
 z5:=fun _=>by kernel_rfl
 v5:=fun _=>by kernel_rfl
 t9:=by kernel_rfl
 a9:=fun _=>by kernel_rfl
 z9:=fun _=>by kernel_rfl
 v9:=fun _=>by kernel_rfl
 t20:=by kernel_rfl
 a20:=fun _=>by kernel_rfl
 z20:=fun _=>by kernel_rfl
 v20:=fun _=>by kernel_rfl
 t37:=by kernel_rfl
 a37:=fun _=>by kernel_rfl
 z37:=fun _=>by kernel_rfl
 v37:=fun _=>by kernel_rfl
 t70:=by kernel_rfl
 a70:=fun _=>by kernel_rfl
 z70:=fun _=>by kernel_rfl
 v70:=fun _=>by kernel_rfl
 t72:=by kernel_rfl
 a72:=fun _=>by kernel_rfl
 z72:=fun _=>by kernel_rfl
 v72:=fun _=>by kernel_rfl
 t75:=by kernel_rfl
 a75:=fun _=>by kernel_rfl
 z75:=fun _=>by kernel_rfl
 v75:=fun _=>by kernel_rfl
 t164:=by kernel_rfl
 a164:=fun _=>by kernel_rfl
 z164:=fun _=>by kernel_rfl
 v164:=fun _=>by kernel_rfl
theorem Ybj : Lays.n169 Tryz.prog rnB where
 mixed:=by kernel_rfl
 f169:=by kernel_rfl
 t0:=by kernel_rfl
 a0:=fun _=>by kernel_rfl
 z0:=fun _=>by kernel_rfl
 v0:=fun _=>by kernel_rfl
 t3:=by kernel_rfl
 a3:=fun _=>by kernel_rfl
 z3:=fun _=>by kernel_rfl
 v3:=fun _=>by kernel_rfl
 t9:=by kernel_rfl
 a9:=fun _=>by kernel_rfl
 z9:=fun _=>by kernel_rfl
 v9:=fun _=>by kernel_rfl
 t37:=by kernel_rfl
 a37:=fun _=>by kernel_rfl
 z37:=fun _=>by kernel_rfl
 v37:=fun _=>by kernel_rfl
 t70:=by kernel_rfl
 a70:=fun _=>by kernel_rfl
 z70:=fun _=>by kernel_rfl
 v70:=fun _=>by kernel_rfl
 t72:=by kernel_rfl
 a72:=fun _=>by kernel_rfl
 z72:=fun _=>by kernel_rfl
 v72:=fun _=>by kernel_rfl
 t127:=by kernel_rfl
 a127:=fun _=>by kernel_rfl
 z127:=fun _=>by kernel_rfl
 v127:=fun _=>by kernel_rfl
theorem Yke : Builder.Extra Tryz.prog rnB where
 sizeBuilder:=by kernel_rfl
 liesBuilder:=by kernel_rfl
 t5:=by kernel_rfl
 a5:=fun _=>by kernel_rfl
 z5:=fun _=>by kernel_rfl
 v5:=fun _=>by kernel_rfl
 infoByte:=by kernel_rfl
 cellsByte:=by kernel_rfl
 sizeByte:=by kernel_rfl
 neB5:=by decide
end
section
def rnJ : Ren:=⟨fun n=>match n with
 | 156=>49
 | 165=>107
 | 166=>108
 | 169=>109
 | 240=>189
 | 241=>190
 | 276=>262
 | 277=>263
 | _=>0,fun n=>match n with
 | 3=>3
 | 4=>4
 | 5=>5
 | 9=>9
 | 20=>20
 | 31=>94
 | 37=>146
 | 70=>145
 | 72=>148
 | 75=>151
 | 76=>152
 | 80=>154
 | 127=>217
 | 164=>264
 | _=>0,fun n=>n⟩
theorem Xuv : Lays.n156 Tryz.prog rnJ where
 mixed:=by kernel_rfl
 f156:=by kernel_rfl
 f165:=by kernel_rfl
 f166:=by kernel_rfl
 f169:=by kernel_rfl
 f240:=by kernel_rfl
 f241:=by kernel_rfl
 f276:=by kernel_rfl
 f277:=by kernel_rfl
 t0:=by kernel_rfl
 a0:=fun _=>by kernel_rfl
 z0:=fun _=>by kernel_rfl
 v0:=fun _=>by kernel_rfl
 t3:=by kernel_rfl
 a3:=fun _=>by kernel_rfl
 z3:=fun _=>by kernel_rfl
 v3:=fun _=>by kernel_rfl
 t4:=by kernel_rfl
 a4:=fun _=>by kernel_rfl
 z4:=fun _=>by kernel_rfl
 v4:=fun _=>by kernel_rfl
 t9:=by kernel_rfl
 a9:=fun _=>by kernel_rfl
 z9:=fun _=>by kernel_rfl
 v9:=fun _=>by kernel_rfl
 t20:=by kernel_rfl
 a20:=fun _=>by kernel_rfl
 z20:=fun _=>by kernel_rfl
 v20:=fun _=>by kernel_rfl
 t31:=by kernel_rfl
 a31:=fun _=>by kernel_rfl
 z31:=fun _=>by kernel_rfl
 v31:=fun _=>by kernel_rfl
 t37:=by kernel_rfl
 a37:=fun _=>by kernel_rfl
 z37:=fun _=>by kernel_rfl
 v37:=fun _=>by kernel_rfl
 t70:=by kernel_rfl
 a70:=fun _=>by kernel_rfl
 z70:=fun _=>by kernel_rfl
 v70:=fun _=>by kernel_rfl
 t72:=by kernel_rfl
 a72:=fun _=>by kernel_rfl
 z72:=fun _=>by kernel_rfl
 v72:=fun _=>by kernel_rfl
 t75:=by kernel_rfl
 a75:=fun _=>by kernel_rfl
 z75:=fun _=>by kernel_rfl
 v75:=fun _=>by kernel_rfl
 t76:=by kernel_rfl
 a76:=fun _=>by kernel_rfl
 z76:=fun _=>by kernel_rfl
 v76:=fun _=>by kernel_rfl
 t127:=by kernel_rfl
 a127:=fun _=>by kernel_rfl
 z127:=fun _=>by kernel_rfl
 v127:=fun _=>by kernel_rfl
 t164:=by kernel_rfl
 a164:=fun _=>by kernel_rfl
 z164:=fun _=>by kernel_rfl
 v164:=fun _=>by kernel_rfl
theorem Ylr : Builder.Extra Tryz.prog rnJ where
 sizeBuilder:=by kernel_rfl
 liesBuilder:=by kernel_rfl
 t5:=by kernel_rfl
 a5:=fun _=>by kernel_rfl
 z5:=fun _=>by kernel_rfl
 v5:=fun _=>by kernel_rfl
 infoByte:=by kernel_rfl
 cellsByte:=by kernel_rfl
 sizeByte:=by kernel_rfl
 neB5:=by decide
abbrev tB (s : List UInt8) : ByteArray:=⟨s.toArray⟩
abbrev dXs (l : List (List UInt8)) : D:=.sl 1 (l.map .str)
theorem Join_ok {l : List (List UInt8)} {sep : List UInt8} (hn : l.length≤1000000) (hl : (Lib.join l sep).length≤140737488355328) : C0 49 [.d (dXs l),.d (.str sep)] (·=.d (.str (Lib.join l sep))):=by
 refine ⟨⟨_,Tryz.func49,rfl,rfl⟩,fun W vs _ ha=>?_⟩
 match vs,ha with
 | [v,u],ha =>
  obtain ⟨p,c,rfl,h1,h2,h3⟩:=V_sl ha.1
  obtain ⟨rfl,_⟩:=Xr9 ha.2.1
  have hmm : (l.map tB).map (·.data.toList)=l:=by rw [List.map_map];exact (List.map_congr_left fun x _=>by simp [tB]).trans (List.map_id l)
  have hsp : (tB sep).data.toList=sep:=by simp [tB]
  have key : Calls Tryz.prog 49 #[.slice p (l.map D.str).length c,.string (tB sep)] W.w fun e w'=>e=.returned (.string (tB (Lib.join l sep)))∧Below W.w.heap.size W.w w':=by
   rcases h3 with h3 | ⟨b,off,rfl,hrow⟩
   · obtain rfl : l=[]:=List.map_eq_nil_iff.1 h3
     exact (Any.strings_Join_none Xuv Ylr p c (tB sep) W.w).mono fun e w' ⟨he,hw⟩=>⟨he,hw ▸ Below.refl _ _⟩
   · cases hl0 : l with
     | nil =>
      exact (Any.strings_Join_none Xuv Ylr _ c (tB sep) W.w).mono fun e w' ⟨he,hw⟩=>⟨he,hw ▸ Below.refl _ _⟩
     | cons x0 r =>
      rw [←hl0]
      have hc : ∀ (j : Nat) x,(l.map tB)[j]?=some x→W.w.cell? ⟨b,off+j,none⟩=some (.string x):=fun j x hj=>by
       rw [W1f,Option.map_eq_some_iff] at hj
       obtain ⟨s,hs,rfl⟩:=hj
       obtain ⟨e,g1,_,g3⟩:=D.row_get hrow (i:=j) (x:=.str s) (by rw [W1f,hs];rfl)
       have:=(g3 0 (.string (tB s)) (by rw [g1.1];rfl)).1
       rwa [W3q,W2n] at this
      have hb : b<W.w.heap.size:=World.block_lt_of_cell? _ _ (hc 0 (tB x0) (by rw [hl0];rfl))
      have:=Any.strings_Join Xuv Ylr b off c (l.map tB) (tB sep) W.w hc hb (by rw [W0i];omega) (by rw [W0i] at h1 ⊢;exact h1) (by rw [hmm,hsp];exact hl)
      rw [hmm,hsp] at this
      rw [W0i] at this ⊢
      exact this
  refine key.mono ?_
  rintro e w' ⟨rfl,hw⟩
  obtain ⟨W',hW,hE⟩:=Xko hw
  exact ⟨W',.d (.str (Lib.join l sep)),_,rfl,hW,hE,Xld (by omega),fun _ h=>h.elim,rfl⟩
end
end Go.Proofs.YtpgcfjpkilabfaaGreatDoor
namespace Go.Proofs.YtpgcfjpkilabfaaGreatDoor.P55
open Go Go.Vm Go.Num Go.Tow Go.Proofs.YtpgcfjpkilabfaaGreatDoor
section
inductive Wv where
 | mk (s : List UInt8)
 | nu (x : Nm)
abbrev dMk (s : List UInt8) : D:=.st (.pr (.str s) (.pr (.bool false) R9.n0))
abbrev dNu (x : Nm) : D:=.st (.pr (.str []) (.pr (.bool true) (dN x)))
def dWv : Wv→D
 | .mk s=>dMk s
 | .nu x=>dNu x
abbrev dWs (l : List Wv) : D:=.sl 4 (l.map dWv)
theorem Xc0 {s : List UInt8} : C0 97 [.d (.str s)] (·=.d (dMk s)):=by
 refine En Tryz.func97 fun _ _ _=>?_
 exact R1 rfl (.sd (.pd (.rf rfl) (.pd (.bd rfl) R9.fit0)))
theorem num_ok {x : Nm} : C0 98 [.d (dN x)] (·=.d (dNu x)):=by
 refine En Tryz.func98 fun _ _ _=>?_
 exact R1 rfl (.sd (.pd (.rf rfl) (.pd (.bd rfl) (.rf rfl))))
def flB (b : Bool) : List UInt8:=if b then [49] else [48]
theorem Xkp {b : Bool} : C0 100 [.d (.bool b)] (·=.d (dMk (flB b))):=by
 refine C.nb (show C0 _ [.b b] _ from ?_)
 cases b with
 | true =>
  refine En Tryz.func100 fun _ _ _=>?_
  refine Yes rfl rfl ?_
  refine Ce rfl Xc0 ?_
  exact R0
 | false =>
  refine En Tryz.func100 fun _ _ _=>?_
  refine No rfl nofun ?_
  refine Ce rfl Xc0 ?_
  exact R0
def Xft (r : Nm) (lg cc : Bool) (x : Vn) : List Wv:=[.mk [65],.nu r,.nu r,.mk [48],.mk (flB lg),.mk (flB cc),.nu x.x,.nu x.y]
theorem Yal {w : List Wv} {r : Nm} {c : Cv} {lg : Bool} {x : Vn} (hw : w.length≤100000) : CW0 99 [.d (.bool lg),.d (dV x),.ptr 1000001 0,.ptr 1000002 0,.ptr 1000003 0] [(1000001,.var (.lit 4 (w.map dWv))),(1000002,.var (.d (dN r))),(1000003,.var (.d (dC c)))]
 (fun v H'=>v=.tup .un∧H'=[(1000001,.var (.own 1000000 4 0 ((w++Xft r lg (!c.cw) x).map dWv).length)),(1000002,.var (.d (dN r))),(1000003,.var (.d (dC c))),(1000000,.arr 4 ((w++Xft r lg (!c.cw) x).map dWv))]):=by
 obtain ⟨arc,A,B,C,cw⟩:=c
 refine EnW Tryz.func99 fun _ _ _ _=>?_
 refine Dw rfl ?_
 refine Ce rfl Xc0 ?_
 refine Ce rfl num_ok ?_
 refine Ce rfl num_ok ?_
 refine Ce rfl Xc0 ?_
 refine Ce rfl Xkp ?_
 refine Ce rfl Xkp ?_
 refine Ce rfl num_ok ?_
 refine Ce rfl num_ok ?_
 refine ApL ((w++Xft r lg (!cw) x).map dWv) rfl (by rw [W1u];rfl) (W4p _) (by simp [Xft];omega) ?_
 exact Rw [(27,1000000)] [(1000001,.var (.own 1000000 4 0 ((w++Xft r lg (!cw) x).map dWv).length)),(1000002,.var (.d (dN r))),(1000003,.var (.d (dC ⟨arc,A,B,C,cw⟩))),(1000000,.arr 4 ((w++Xft r lg (!cw) x).map dWv))] rfl (.tup (.one (.rf rfl) (fun _ _ e=>by cases e) (fun _ _ e=>by cases e))) ⟨rfl,rfl⟩
theorem Xow {w : List Wv} {r : Nm} {c : Cv} {lg : Bool} {x : Vn} (hw : w.length≤100000) : CW0 99 [.d (.bool lg),.d (dV x),.ptr 1000001 0,.ptr 1000002 0,.ptr 1000003 0] [(1000001,.var (.own 1000004 4 0 (w.map dWv).length)),(1000002,.var (.d (dN r))),(1000003,.var (.d (dC c))),(1000004,.arr 4 (w.map dWv))]
 (fun v H'=>v=.tup .un∧H'=[(1000001,.var (.own 1000000 4 0 ((w++Xft r lg (!c.cw) x).map dWv).length)),(1000002,.var (.d (dN r))),(1000003,.var (.d (dC c))),(1000004,.dead),(1000000,.arr 4 ((w++Xft r lg (!c.cw) x).map dWv))]):=by
 obtain ⟨arc,A,B,C,cw⟩:=c
 refine EnW Tryz.func99 fun _ _ _ _=>?_
 refine Dw rfl ?_
 refine Ce rfl Xc0 ?_
 refine Ce rfl num_ok ?_
 refine Ce rfl num_ok ?_
 refine Ce rfl Xc0 ?_
 refine Ce rfl Xkp ?_
 refine Ce rfl Xkp ?_
 refine Ce rfl num_ok ?_
 refine Ce rfl num_ok ?_
 refine ApO ((w++Xft r lg (!cw) x).map dWv) rfl rfl rfl (by rw [W1u];rfl) (by simp [Xft];omega) ?_
 exact Rw [(27,1000000)] [(1000001,.var (.own 1000000 4 0 ((w++Xft r lg (!cw) x).map dWv).length)),(1000002,.var (.d (dN r))),(1000003,.var (.d (dC ⟨arc,A,B,C,cw⟩))),(1000004,.dead),(1000000,.arr 4 ((w++Xft r lg (!cw) x).map dWv))] rfl (.tup (.one (.rf rfl) (fun _ _ e=>by cases e) (fun _ _ e=>by cases e))) ⟨rfl,rfl⟩
abbrev Ygw (B : Vn) : List Wv:=[.mk [76],.nu B.x,.nu B.y]
inductive WdC (c : Cv) : List Wv→Prop where
 | seg (h : c.arc=false) : WdC c [.mk [76],.nu c.B.x,.nu c.B.y]
 | full {r : Nm} {w x : Vn} (h : c.arc=true) (h1 : C0 54 [.d (dC c)] (·=.tup (.pr (.d (dN r)) (.d (.int .i64 0))))) (h2 : C0 96 [.d (dV c.A),.d (dV c.B)] (·=.b true)) (h3 : C0 101 [.d (dV c.C),.d (dV c.A)] (·=.tup (.pr (.d (dV w)) (.d (.int .i64 0)))))
  (h4 : C0 56 [.d (dV c.C),.d (dV w)] (·=.tup (.pr (.d (dV x)) (.d (.int .i64 0))))) : WdC c (Xft r false (!c.cw) x++Xft r false (!c.cw) c.B)
 | part {r : Nm} {lg : Bool} (h : c.arc=true) (h1 : C0 54 [.d (dC c)] (·=.tup (.pr (.d (dN r)) (.d (.int .i64 0))))) (h2 : C0 96 [.d (dV c.A),.d (dV c.B)] (·=.b false)) (h3 : C0 102 [.d (dC c)] (·=.tup (.pr (.b lg) (.d (.int .i64 0))))) : WdC c (Xft r lg (!c.cw) c.B)
theorem WdC.len {c : Cv} {w : List Wv} (h : WdC c w) : w.length≤16:=by cases h <;> simp [Xft]
def ouH (w0 : List Wv) : Option (List Wv)→Hpl
 | none=>[(4,.var (.lit 4 (w0.map dWv)))]
 | some w=>[(4,.var (.own 600 4 0 (w.map dWv).length)),(600,.arr 4 (w.map dWv))]
def ouW (w0 : List Wv) : Option (List Wv)→List Wv
 | none=>w0
 | some w=>w
def hdW (c0 : Cv) : List Wv:=[.mk [77],.nu c0.A.x,.nu c0.A.y]
theorem Xco {c0 d0 : Cv} {l : List Cv} {Z : List (List Wv)} {cl : Bool} (h0 : l[0]?=some c0) (h9 : l[l.length - 1]?=some d0) (hl : l.length≤1000) (hZ : Z.length=l.length) (hC : ∀ (i : Nat) c w,l[i]?=some c→Z[i]?=some w→WdC c w) (he : C0 96 [.d (dV c0.A),.d (dV d0.B)] (·=.b cl)) :
 C0 47 [.d (Xes l)] (·=.tup (.pr (.d (dWs (hdW c0++Z.flatten++(if cl then [.mk [90]] else [])))) (.d (.int .i64 0)))):=by
 have hl0 : 0<l.length:=(W2s.1 h0).1
 have hfl : ∀ k,k≤l.length→(Z.take k).flatten.length≤16*k:=fun k=>by
  induction k with
  | zero=>intro _;simp
  | succ k ih =>
   intro hk
   obtain ⟨w,hw⟩ : ∃ w,Z[k]?=some w:=⟨_,W0b (by omega)⟩
   obtain ⟨c,hc⟩ : ∃ c,l[k]?=some c:=⟨_,W0b (by omega)⟩
   have:=(hC k c w hc hw).len
   have:=ih (by omega)
   rw [W0z,hw]
   simp only [List.flatten_append,W0d,Option.toList_some,List.flatten_cons,List.flatten_nil,W4w]
   omega
 have hw0l : (hdW c0).length=3:=rfl
 have hlm : (l.map dC).length=l.length:=W0i ..
 refine En Tryz.func47 fun _ _ _=>?_
 refine Dw rfl ?_
 refine Ce rfl Xc0 ?_
 refine Ix 0 rfl (u:=dC c0) (by rw [W1f,h0];rfl) ?_
 refine Ce rfl num_ok ?_
 refine Ix 0 rfl (u:=dC c0) (by rw [W1f,h0];rfl) ?_
 refine Ce rfl num_ok ?_
 refine Lo (fun ((k,o) : Nat × Option (List Wv))=>[(0,.d (Xes l)),(4,.ptr 4 0),(28,.d (Xes l)),(29,.d (.int .i64 (l.map dC).length)),(30,.d (.int .i64 k))]) (fun (_,o)=>ouH (hdW c0) o) (fun (k,o)=>k≤l.length∧ouW (hdW c0) o=(hdW c0)++(Z.take k).flatten∧(o=none↔k=0)) (fun (k,_)=>l.length - k) (0,none) [] rfl ⟨W1c _,by simp [ouW],by simp⟩ ?_
 rintro ⟨k,o⟩ ⟨hk,hw,ho⟩
 cases o with
 | none =>
  obtain rfl : k=0:=ho.1 rfl
  have hw : (hdW c0)=(hdW c0)++(Z.take 0).flatten:=hw
  refine By rfl (fun h=>?_) fun h=>?_
  · have h : ((0 : Nat) : Int)<((l.map dC).length : Nat):=h
    rw [W0i] at h
    have hkl : 0<l.length:=hl0
    obtain ⟨c,hc⟩ : ∃ c,l[0]?=some c:=⟨_,W0b hkl⟩
    obtain ⟨z,hz⟩ : ∃ z,Z[0]?=some z:=⟨_,W0b (by omega)⟩
    have hnx : ∀ u,u=(hdW c0)++z→0+1≤l.length∧ouW (hdW c0) (some u)=(hdW c0)++(Z.take (0+1)).flatten∧(some u=none↔0+1=0):=fun u hu=>⟨hkl,by rw [W0z,hz];show u=_;rw [hu];simp [←W3c,←hw],by simp⟩
    have hcl : ((hdW c0)).length≤20000:=by rw [hw,W0d];have:=hfl 0 (W1c _);omega
    refine Ix 0 rfl (u:=dC c) (by rw [W1f,hc];rfl) ?_
    have hWc:=hC 0 c z hc hz
    obtain ⟨arc,A,B,C,cw⟩:=c
    cases hWc with
    | seg h =>
     obtain rfl : arc=false:=h
     refine Yes rfl nofun ?_
     refine Dw rfl ?_
     refine Ce rfl Xc0 ?_
     refine Ce rfl num_ok ?_
     refine Ce rfl num_ok ?_
     refine ApL (((hdW c0)++Ygw B).map dWv) rfl (by rw [W1u];rfl) (W4p _) (by rw [W0i,W0d];show _+3≤_;omega) ?_
     refine Ar (0+1 : Nat) rfl ?_
     exact Bk (0+1,some ((hdW c0)++Ygw B)) [(48,600)] rfl (hnx _ rfl) (by show l.length - (0+1)<l.length - 0;omega)
    | @full r w x h h1 h2 h3 h4 =>
     obtain rfl : arc=true:=h
     refine No rfl (fun h=>h rfl) ?_
     refine Ce rfl h1 ?_
     refine No rfl (by decide) ?_
     refine Ce rfl h2 ?_
     refine Yes rfl rfl ?_
     refine Ce rfl h3 ?_
     refine No rfl (by decide) ?_
     refine Ce rfl h4 ?_
     refine No rfl (by decide) ?_
     refine Cw [(1000001,4),(1000002,7),(1000003,6)] rfl (Yal (w:=hdW c0) (r:=r) (c:=⟨true,A,B,C,cw⟩) (lg:=false) (x:=x) (by omega)) fun v H' _ hv=>?_
     obtain ⟨rfl,rfl⟩:=hv
     refine Cw [(1000001,4),(1000002,7),(1000003,6),(1000004,86)] rfl (Xow (w:=(hdW c0)++Xft r false (!cw) x) (r:=r) (c:=⟨true,A,B,C,cw⟩) (lg:=false) (x:=B) (by simp [Xft];omega)) fun v H' _ hv=>?_
     obtain ⟨rfl,rfl⟩:=hv
     refine Ar (0+1 : Nat) rfl ?_
     exact Bk (0+1,some ((hdW c0)++Xft r false (!cw) x++Xft r false (!cw) B)) [(90,600)] rfl (hnx _ (by simp)) (by show l.length - (0+1)<l.length - 0;omega)
    | @part r lg h h1 h2 h3 =>
     obtain rfl : arc=true:=h
     refine No rfl (fun h=>h rfl) ?_
     refine Ce rfl h1 ?_
     refine No rfl (by decide) ?_
     refine Ce rfl h2 ?_
     refine No rfl nofun ?_
     refine Ce rfl h3 ?_
     refine No rfl (by decide) ?_
     refine Cw [(1000001,4),(1000002,7),(1000003,6)] rfl (Yal (w:=hdW c0) (r:=r) (c:=⟨true,A,B,C,cw⟩) (lg:=lg) (x:=B) (by omega)) fun v H' _ hv=>?_
     obtain ⟨rfl,rfl⟩:=hv
     refine Ar (0+1 : Nat) rfl ?_
     exact Bk (0+1,some ((hdW c0)++Xft r lg (!cw) B)) [(103,600)] rfl (hnx _ rfl) (by show l.length - (0+1)<l.length - 0;omega)
  · have h : ¬ ((0 : Nat) : Int)<((l.map dC).length : Nat):=h
    rw [W0i] at h
    omega
 | some w' =>
  have hw : w'=(hdW c0)++(Z.take k).flatten:=hw
  refine By rfl (fun h=>?_) fun h=>?_
  · have h : (k : Int)<((l.map dC).length : Nat):=h
    rw [W0i] at h
    have hkl : k<l.length:=by omega
    obtain ⟨c,hc⟩ : ∃ c,l[k]?=some c:=⟨_,W0b hkl⟩
    obtain ⟨z,hz⟩ : ∃ z,Z[k]?=some z:=⟨_,W0b (by omega)⟩
    have hnx : ∀ u,u=w'++z→k+1≤l.length∧ouW (hdW c0) (some u)=(hdW c0)++(Z.take (k+1)).flatten∧(some u=none↔k+1=0):=fun u hu=>⟨hkl,by rw [W0z,hz];show u=_;rw [hu];simp [←W3c,←hw],by simp⟩
    have hcl : (w').length≤20000:=by rw [hw,W0d];have:=hfl k hk;omega
    refine Ix k rfl (u:=dC c) (by rw [W1f,hc];rfl) ?_
    have hWc:=hC k c z hc hz
    obtain ⟨arc,A,B,C,cw⟩:=c
    cases hWc with
    | seg h =>
     obtain rfl : arc=false:=h
     refine Yes rfl nofun ?_
     refine Dw rfl ?_
     refine Ce rfl Xc0 ?_
     refine Ce rfl num_ok ?_
     refine Ce rfl num_ok ?_
     refine ApO ((w'++Ygw B).map dWv) rfl rfl rfl (by rw [W1u];rfl) (by rw [W0i,W0d];show _+3≤_;omega) ?_
     refine Ar (k+1 : Nat) rfl ?_
     exact Bk (k+1,some (w'++Ygw B)) [(600,900),(48,600)] rfl (hnx _ rfl) (by show l.length - (k+1)<l.length - k;omega)
    | @full r w x h h1 h2 h3 h4 =>
     obtain rfl : arc=true:=h
     refine No rfl (fun h=>h rfl) ?_
     refine Ce rfl h1 ?_
     refine No rfl (by decide) ?_
     refine Ce rfl h2 ?_
     refine Yes rfl rfl ?_
     refine Ce rfl h3 ?_
     refine No rfl (by decide) ?_
     refine Ce rfl h4 ?_
     refine No rfl (by decide) ?_
     refine Cw [(1000001,4),(1000002,7),(1000003,6),(1000004,600)] rfl (Xow (w:=w') (r:=r) (c:=⟨true,A,B,C,cw⟩) (lg:=false) (x:=x) (by omega)) fun v H' _ hv=>?_
     obtain ⟨rfl,rfl⟩:=hv
     refine Cw [(1000001,4),(1000002,7),(1000003,6),(1000004,86)] rfl (Xow (w:=w'++Xft r false (!cw) x) (r:=r) (c:=⟨true,A,B,C,cw⟩) (lg:=false) (x:=B) (by simp [Xft];omega)) fun v H' _ hv=>?_
     obtain ⟨rfl,rfl⟩:=hv
     refine Ar (k+1 : Nat) rfl ?_
     exact Bk (k+1,some (w'++Xft r false (!cw) x++Xft r false (!cw) B)) [(600,900),(90,600)] rfl (hnx _ (by simp)) (by show l.length - (k+1)<l.length - k;omega)
    | @part r lg h h1 h2 h3 =>
     obtain rfl : arc=true:=h
     refine No rfl (fun h=>h rfl) ?_
     refine Ce rfl h1 ?_
     refine No rfl (by decide) ?_
     refine Ce rfl h2 ?_
     refine No rfl nofun ?_
     refine Ce rfl h3 ?_
     refine No rfl (by decide) ?_
     refine Cw [(1000001,4),(1000002,7),(1000003,6),(1000004,600)] rfl (Xow (w:=w') (r:=r) (c:=⟨true,A,B,C,cw⟩) (lg:=lg) (x:=B) (by omega)) fun v H' _ hv=>?_
     obtain ⟨rfl,rfl⟩:=hv
     refine Ar (k+1 : Nat) rfl ?_
     exact Bk (k+1,some (w'++Xft r lg (!cw) B)) [(600,900),(103,600)] rfl (hnx _ rfl) (by show l.length - (k+1)<l.length - k;omega)
  · have h : ¬ (k : Int)<((l.map dC).length : Nat):=h
    rw [W0i] at h
    obtain rfl : k=l.length:=by omega
    have hwl : w'.length≤20000:=by rw [hw,W0d];have:=hfl l.length hk;omega
    have hwz : w'=(hdW c0)++Z.flatten:=by rw [hw,W0a (by omega)]
    refine Dw rfl ?_
    refine Ix 0 rfl (u:=dC c0) (by rw [W1f,h0];rfl) ?_
    refine Ar (l.length - 1 : Nat) rfl ?_
    refine Ix (l.length - 1) rfl (u:=dC d0) (by rw [W1f,h9];rfl) ?_
    refine Ce rfl he ?_
    cases cl with
    | true =>
     refine Yes rfl rfl ?_
     refine Dw rfl ?_
     refine Ce rfl Xc0 ?_
     refine ApO ((w'++([.mk [90]] : List Wv)).map dWv) rfl rfl rfl (by rw [W1u];rfl) (by rw [W0i,W0d];show _+1≤_;omega) ?_
     exact RTt rfl (.cons (.own rfl (by rw [W1n];exact W0c _) (by rw [W1b,W2b,hwz];rfl)) Xa3)
    | false =>
     refine No rfl nofun ?_
     exact RTt rfl (.cons (.own rfl (by rw [W1n];exact W0c _) (by rw [W1b,W2b,hwz];exact congrArg (List.map dWv) (W4w _).symm)) Xa3)
end
section
theorem lC (l : List Cv) : (l.map dC).length=l.length:=W0i ..
theorem cAt {l : List Cv} {k : Nat} {c : Cv} (h : l[k]?=some c) : (l.map dC)[k]?=some (dC c):=by rw [W1f,h];rfl
theorem Xl3 {l : List Cv} (hl : l.length≤1000) (h0 : 0<l.length) (hv : ∀ c∈l,C0 53 [.d (dC c)] (·=.b true)) (he : ∀ (i : Nat) c d,l[i]?=some c→l[i+1]?=some d→C0 96 [.d (dV c.B),.d (dV d.A)] (·=.b true)) :
 C0 46 [.d (Xes l)] (·=.b true):=by
 refine En Tryz.func46 fun _ _ _=>?_
 refine Lo (fun k : Nat=>[(0,.d (Xes l)),(5,.d (Xes l)),(6,.d (.int .i64 (l.map dC).length)),(7,.d (.int .i64 k))]) (fun _=>[]) (fun k=>k≤l.length) (fun k=>l.length - k) 0 [] rfl (W1c _) fun k hk=>?_
 refine By rfl (fun h=>?_) fun h=>?_ <;> simp only [lC] at h
 · obtain ⟨c,hc⟩ : ∃ c,l[k]?=some c:=⟨_,W0b (by omega)⟩
   refine Ix k rfl (cAt hc) ?_
   refine Dw rfl ?_
   refine Ce rfl (hv c (W0r hc)) ?_
   refine No rfl (fun h=>h rfl) ?_
   refine By rfl (fun h1=>?_) fun h1=>?_
   · obtain ⟨b,hb⟩ : ∃ b,l[k - 1]?=some b:=⟨_,W0b (by omega)⟩
     refine Ar (k - 1 : Nat) rfl ?_
     refine Ix (k - 1) rfl (cAt hb) ?_
     refine Ce rfl (he (k - 1) b c hb (by rw [show k - 1+1=k by omega];exact hc)) ?_
     refine No rfl (fun h=>h rfl) ?_
     refine Ar (k+1 : Nat) rfl ?_
     exact Bk (k+1) [] rfl (by omega) (by show l.length - (k+1)<l.length - k;omega)
   · refine Ar (k+1 : Nat) rfl ?_
     exact Bk (k+1) [] rfl (by omega) (by show l.length - (k+1)<l.length - k;omega)
 · exact R1 rfl (by exact (show dc (((l.map dC).length : Int) > 0)=true by rw [Xan,lC];omega) ▸ .rf rfl)
def FmW (d : Int) : Wv→List UInt8→Prop
 | .mk s,t=>t=s
 | .nu x,t=>C0 48 [.d (dN x),.d (.int .i64 d)] (·=.tup (.pr (.d (.str t)) (.d (.int .i64 0))))
theorem lWv (l : List Wv) : (l.map dWv).length=l.length:=W0i ..
theorem Xw1 {l : List Cv} {d : Int} {W : List Wv} {T : List (List UInt8)} (hd : 0≤d∧d≤20) (hp : C0 46 [.d (Xes l)] (·=.b true)) (hw : C0 47 [.d (Xes l)] (·=.tup (.pr (.d (dWs W)) (.d (.int .i64 0)))))
 (hW : W.length≤100000) (hT : T.length=W.length) (hF : ∀ (i : Nat) w t,W[i]?=some w→T[i]?=some t→FmW d w t) (hj : (Lib.join T [32]).length≤140737488355328) : C0 16 [.d (Xes l),.d (.int .i64 d)] (·=.tup (.pr (.d (.str (Lib.join T [32]))) (.d (.int .i64 0)))):=by
 refine En Tryz.func16 fun _ _ _=>?_
 refine No rfl (by omega) ?_
 refine No rfl (by omega) ?_
 refine Ce rfl hp ?_
 refine No rfl (fun h=>h rfl) ?_
 refine Ce rfl hw ?_
 refine No rfl (by decide) ?_
 refine Nl 8 8 1 rfl ?_
 refine Lo (fun k : Nat=>[(1,.d (.int .i64 d)),(8,.gr 8 1 ((T.take k).map .str)),(31,.d (dWs W)),(32,.d (.int .i64 (W.map dWv).length)),(33,.d (.int .i64 k))]) (fun k=>[(8,.tok ((T.take k).map D.str).length 1)]) (fun k=>k≤W.length) (fun k=>W.length - k) 0 [] rfl (W1c _) fun k hk=>?_
 refine By rfl (fun h=>?_) fun h=>?_ <;> simp only [lWv] at h
 · obtain ⟨w,hw1⟩ : ∃ w,W[k]?=some w:=⟨_,W0b (by omega)⟩
   obtain ⟨t,ht⟩ : ∃ t,T[k]?=some t:=⟨_,W0b (by omega)⟩
   have hf:=hF k w t hw1 ht
   have hz : (T.take k).map D.str++[D.str t]=(T.take (k+1)).map .str:=by rw [W0z,ht];simp
   refine Ix k rfl (u:=dWv w) (by rw [W1f,hw1];rfl) ?_
   cases w with
   | mk s =>
    obtain rfl : t=s:=hf
    refine No rfl nofun ?_
    refine ApG ((T.take (k+1)).map .str) rfl hz (by simp;omega) ?_
    refine Ar (k+1 : Nat) rfl ?_
    exact Bk (k+1) [(8,90),(54,8)] rfl (by omega) (by show W.length - (k+1)<W.length - k;omega)
   | nu x =>
    have hf : C0 48 [.d (dN x),.d (.int .i64 d)] (·=.tup (.pr (.d (.str t)) (.d (.int .i64 0)))):=hf
    refine Yes rfl rfl ?_
    refine Ce rfl hf ?_
    refine No rfl (by decide) ?_
    refine ApG ((T.take (k+1)).map .str) rfl hz (by simp;omega) ?_
    refine Ar (k+1 : Nat) rfl ?_
    exact Bk (k+1) [(8,90),(54,8)] rfl (by omega) (by show W.length - (k+1)<W.length - k;omega)
 · have e : T.take k=T:=W0a (by omega)
   have hjn:=Join_ok (l:=T) (sep:=[32]) (by omega) hj
   rw [e]
   refine Ce rfl hjn ?_
   exact R0t
end
section
def Qp (s : Nat) (p : Rat × Rat) : Prop:=Qs s p.1∧Qs s p.2
abbrev v0 (p : Rat × Rat) : Vn:=⟨⟨0,(),p.1⟩,⟨0,(),p.2⟩⟩
theorem W0 : Wn (K:=0) () ([] : List (Tow.El 0)) []:=⟨⟨trivial,W1c _,fun {m T ρ} h=>by
 have:=h.le (show Xbu 0 () from trivial)
 have e : m=0:=by have h0 : ([] : List (Tow.El 0)).length=0:=rfl;omega
 subst e
 trivial⟩,fun z hz=>nomatch hz⟩
theorem g0 {q : Rat} (h : Qs 64 q) : Gd (K:=0) () [] [] 1 ⟨0,(),q⟩ q:=Gd.rat W0 h
theorem gv0 {p : Rat × Rat} (h : Qp 64 p) : Gv (K:=0) () [] [] 1 (v0 p) p:=⟨g0 h.1,g0 h.2⟩
theorem zw {r p : Nat} {x : Nm} {v : Rat} (h : NOk (K:=0) () ([] : List (Tow.El 0)) r p x v) : x=⟨0,(),v⟩:=by
 obtain ⟨ρ,h1,h2⟩:=h.ex
 obtain ⟨k,t,a⟩:=x
 have hk : k≤([] : List (Tow.El 0)).length:=h1.le (show Xbu 0 () from trivial)
 obtain rfl : k=0:=Nat.le_zero.1 hk
 have h2 : (a : Rat)=v:=h2
 rw [←h2]
 cases t
 rfl
theorem Xl7 {n : Nat} {v : Vn} {p : Rat × Rat} (h : Gv (K:=0) () ([] : List (Tow.El 0)) [] n v p) : v=v0 p:=by
 obtain ⟨x,y⟩:=v
 rw [show x=_ from zw h.x.o,show y=_ from zw h.y.o]
instance {p : Nat} {z : Int} : Decidable (Zs p z):=inferInstanceAs (Decidable (z.natAbs<2 ^ p))
instance {p : Nat} {x : Rat} : Decidable (Qs p x):=decidable_of_iff (Zs p x.num∧Zs p x.den) ⟨fun h=>⟨h.1,h.2⟩,fun h=>⟨h.1,h.2⟩⟩
theorem Xbe {q : Rat} (h : Qs 64 q) : P19.Trm ⟨0,(),q⟩:=by
 unfold P19.Trm
 refine En Tryz.func192 fun _ _ _=>?_
 refine Ce rfl (P9.detach_ok (x:=⟨0,(),q⟩) (r:=1) (p:=65) trivial (Sz.rat 0 h) (show (0 : Nat)≤16 by decide) (by decide) (by decide)) ?_
 refine Ar (-1 : Int) rfl ?_ (wr (show ((0 : Nat) : Int) - 1=-1 by decide) (by simp only [inK];omega))
 refine Lo (fun _ : Unit=>[(1,.ptr 1 0),(2,.ptr 2 0),(3,.ptr 3 0)]) (fun _=>[(1,.var (.d (dN ⟨0,(),q⟩))),(2,.var (.st (.pr .nil .nil))),(3,.var (.d (.int .i64 (-1))))]) (fun _=>True) (fun _=>0) () [] rfl trivial (fun _ _=>?_)
 refine No rfl (by decide) ?_
 exact R0
instance {p : Nat} {x : Rat × Rat} : Decidable (Qp p x):=by unfold Qp;infer_instance
end
section
def d2 (p q : Rat × Rat) : Rat:=Xb2 (K:=0) () (Xa8 (K:=0) p q) (Xa8 (K:=0) p q)
abbrev nr (q : Rat) : Nm:=⟨0,(),q⟩
theorem Yhf : Sz 1000 (toL 1 (root 1 0)):=by
 have : Sz (1*2+1) (toL 1 (root 1 0)):=Sz.all (p:=1) (l:=[(0 : Rat),1]) fun x hx=>by
  have hx : x∈[(0 : Rat),1]:=hx
  rcases W1k.1 hx with rfl | hx
  · exact ⟨show (0 : Int).natAbs<2 ^ 1 by decide,show ((1 : Nat) : Int).natAbs<2 ^ 1 by decide⟩
  · obtain rfl:=W0e.1 hx;exact ⟨show (1 : Int).natAbs<2 ^ 1 by decide,show ((1 : Nat) : Int).natAbs<2 ^ 1 by decide⟩
 exact this.mono (by decide)
theorem Yjs {s : Rat} (h : Qs 200 s) (hs : 0≤s) : C0 115 [.d (dN (nr s))] (R9.RtR (nr s)):=by
 have hS : Sz 201 (toL 0 (s : Tow.El 0)):=Sz.rat 0 h
 refine En Tryz.func115 fun _ _ _=>?_
 refine Ca rfl (P8.Adjoin_ok (k:=0) (t:=()) (a:=(s : Tow.El 0)) (r:=1) (p:=201) trivial hS trivial (by decide) (by decide +kernel) (by decide +kernel) (by decide +kernel) (by decide +kernel)) fun v hv=>?_
 rcases hv with ⟨h1,rfl⟩ | ⟨y,h1,h2,rfl⟩ | ⟨h1,h2,h3,rfl⟩
 · have h1 : Xew s<0:=h1
   rcases Xax s with ⟨_,e⟩ | ⟨_,e⟩ | ⟨e,_⟩
   · omega
   · omega
   · grind
 · refine No rfl (by simp) ?_
   have hy : Sz 1000 (toL 0 (y : Tow.El 0)):=(hS.rootS (k:=0) (r:=1) (t:=()) (s:=(y : Tow.El 0)) trivial trivial h1).mono (by decide)
   refine Ce rfl (P9.detach_ok (x:=⟨0,(),y⟩) (r:=1) (p:=1000) trivial hy (show 0≤16 by decide) (by decide) (by decide)) ?_
   exact Rt rfl (.tup (.cons (.rf rfl) Xa3)) ⟨⟨0,(),y⟩,rfl,.inl ⟨y,rfl,h1,h2⟩⟩
 · refine No rfl (by simp) ?_
   refine Ce rfl (P9.detach_ok (x:=⟨1,tsn () s,root 1 0⟩) (r:=201) (p:=1000) ⟨trivial,hS⟩ Yhf (show 1≤16 by decide) (by decide) (by decide)) ?_
   exact Rt rfl (.tup (.cons (.rf rfl) Xa3)) ⟨⟨1,tsn () s,root 1 0⟩,rfl,.inr ⟨rfl,h1,h2⟩⟩
theorem radius_r {c : Cv} {p q : Rat × Rat} (hC : c.C=v0 p) (hA : c.A=v0 q) (hp : Qp 64 p) (hq : Qp 64 q) (hne : p≠q) (hs : Qs 200 (d2 q p)) (h0 : 0≤d2 q p) : C0 54 [.d (dC c)] (R9.RtR (nr (d2 q p))):=by
 obtain ⟨arc,A,B,C,cw⟩:=c
 obtain rfl : C=v0 p:=hC
 obtain rfl : A=v0 q:=hA
 refine En Tryz.func54 fun _ _ _=>?_
 refine Ca rfl (P15.Around_g W0 (gv0 hp) (gv0 hq) (Xbe hp.1) (Xbe hp.2) (by decide) hne) fun v hv=>?_
 obtain ⟨z,rfl,hz⟩:=hv
 obtain rfl:=zw hz.o
 refine No rfl (by decide) ?_
 refine Ca rfl (Yjs hs h0) fun v hv=>?_
 obtain ⟨z,rfl,hz⟩:=hv
 exact Rt rfl (.tup (.cons (.rf rfl) Xa3)) ⟨z,rfl,hz⟩
def Xzd (r m : Nm) : List Vn:=[⟨r,n00⟩,⟨n00,r⟩,⟨m,n00⟩,⟨n00,m⟩]
def sel : List Vn→List Bool→List Vn
 | x::X,b::B=>if b then x::sel X B else sel X B
 | _,_=>[]
theorem Xeg {x : Vn} {b : Bool} : ∀ {X : List Vn} {B : List Bool},X.length=B.length→sel (X++[x]) (B++[b])=sel X B++(if b then [x] else [])
 | [],[],_=>by cases b <;> rfl
 | y::X,c::B,h=>by
  have:=Xeg (x:=x) (b:=b) (X:=X) (B:=B) (by simpa using h)
  simp only [W4q,sel,this]
  cases c <;> simp
theorem Xey : ∀ {X : List Vn} {B : List Bool},(sel X B).length≤X.length
 | [],_=>by simp [sel]
 | _::_,[]=>by simp [sel]
 | x::X,b::B=>by
  have:=Xey (X:=X) (B:=B)
  simp only [sel];split <;> simp <;> omega
def exA (e0 : List Vn) : Option (List Vn)→AV
 | none=>.lit 4 (e0.map dV)
 | some w=>.own 600 4 0 (w.map dV).length
def exH (c : Cv) : Option (List Vn)→Hpl
 | none=>[(1,.var (.d (dC c)))]
 | some w=>[(1,.var (.d (dC c))),(600,.arr 4 (w.map dV))]
def exW (e0 : List Vn) : Option (List Vn)→List Vn
 | none=>e0
 | some w=>w
theorem Xoo : C0 55 [.d (.int .i64 0)] (·=.d (dN n00)):=P9.FromInt_ok (z:=0) (by decide)
theorem extremes_seg {c : Cv} (h : c.arc=false) : C0 21 [.d (dC c)] (·=.tup (.pr (.d (dVs [c.A,c.B])) (.d (.int .i64 0)))):=by
 obtain ⟨arc,A,B,C,cw⟩:=c
 obtain rfl : arc=false:=h
 refine En Tryz.func21 fun _ _ _=>?_
 refine Yes rfl nofun ?_
 exact RTt rfl (.cons (.lit rfl) Xa3)
theorem extremes_arc {c : Cv} {r m : Nm} {X : List Vn} {B : List Bool} (h : c.arc=true) (hr : C0 54 [.d (dC c)] (·=.tup (.pr (.d (dN r)) (.d (.int .i64 0))))) (hm : C0 22 [.d (dN r)] (·=.d (dN m))) (hX : X.length=4) (hB : B.length=4)
 (hx : ∀ (i : Nat) d x b,(Xzd r m)[i]?=some d→X[i]?=some x→B[i]?=some b→C0 56 [.d (dV c.C),.d (dV d)] (·=.tup (.pr (.d (dV x)) (.d (.int .i64 0))))∧C0 57 [.d (dC c),.d (dV x)] (·=.b b)) :
 C0 21 [.d (dC c)] (·=.tup (.pr (.d (dVs ([c.A,c.B]++sel X B))) (.d (.int .i64 0)))):=by
 obtain ⟨arc,A,B',C,cw⟩:=c
 obtain rfl : arc=true:=h
 refine En Tryz.func21 fun _ _ _=>?_
 refine No rfl (fun h=>h rfl) ?_
 refine Ce rfl hr ?_
 refine No rfl (by decide) ?_
 refine Ce rfl Xoo ?_
 refine Dw rfl ?_
 refine Ce rfl hm ?_
 refine Ce rfl hm ?_
 refine Lo (fun ((k,o) : Nat × Option (List Vn))=>[(1,.ptr 1 0),(4,exA [A,B'] o),(44,.lit 4 ((Xzd r m).map dV)),(45,.d (.int .i64 4)),(46,.d (.int .i64 k))]) (fun (_,o)=>exH ⟨true,A,B',C,cw⟩ o) (fun (k,o)=>k≤4∧exW [A,B'] o=[A,B']++sel (X.take k) (B.take k)) (fun (k,_)=>4 - k) (0,none) [] rfl ⟨W1c _,by simp [exW,sel]⟩ ?_
 rintro ⟨k,o⟩ ⟨hk,hw⟩
 have hwl : (exW [A,B'] o).length≤6:=by
  have hw : exW [A,B'] o=_:=hw
  rw [hw,W0d]
  have:=Xey (X:=X.take k) (B:=B.take k)
  rw [W0j] at this
  simp only [W0o,W3s]
  omega
 cases o with
 | none =>
  have hw : [A,B']=[A,B']++sel (X.take k) (B.take k):=hw
  refine By rfl (fun h=>?_) fun h=>?_
  · have h : (k : Int)<4:=h
    obtain ⟨d,hd⟩ : ∃ d,(Xzd r m)[k]?=some d:=⟨_,W0b (show k<4 by omega)⟩
    obtain ⟨x,hxk⟩ : ∃ x,X[k]?=some x:=⟨_,W0b (by omega)⟩
    obtain ⟨b,hbk⟩ : ∃ b,B[k]?=some b:=⟨_,W0b (by omega)⟩
    obtain ⟨g1,g2⟩:=hx k d x b hd hxk hbk
    have hs : sel (X.take (k+1)) (B.take (k+1))=sel (X.take k) (B.take k)++(if b then [x] else []):=by
     rw [W0z,W0z,hxk,hbk];exact Xeg (by rw [W0j,W0j,hX,hB])
    refine Ix k rfl (u:=dV d) (by rw [W1f,hd];rfl) ?_
    refine Ce rfl g1 ?_
    refine No rfl (by decide) ?_
    refine Ce rfl g2 ?_
    cases b with
    | false =>
     refine No rfl nofun ?_
     refine Ar (k+1 : Nat) rfl ?_
     exact Bk (k+1,none) [] rfl ⟨by omega,by rw [hs];simpa [exW] using hw⟩ (by show 4 - (k+1)<4 - k;omega)
    | true =>
     refine Yes rfl rfl ?_
     refine ApL (([A,B']++[x]).map dV) rfl rfl (W4p _) (show 3≤1099511627776 by decide) ?_
     refine Ar (k+1 : Nat) rfl ?_
     exact Bk (k+1,some ([A,B']++[x])) [(66,600)] rfl ⟨by omega,by rw [hs,←W3c,←hw];rfl⟩ (by show 4 - (k+1)<4 - k;omega)
  · have h : ¬ (k : Int)<4:=h
    rw [W0a (by omega),W0a (by omega)] at hw
    exact RTt rfl (.cons (.lit (by rw [←hw])) Xa3)
 | some w =>
  have hw : w=[A,B']++sel (X.take k) (B.take k):=hw
  have hwl : w.length≤6:=hwl
  refine By rfl (fun h=>?_) fun h=>?_
  · have h : (k : Int)<4:=h
    obtain ⟨d,hd⟩ : ∃ d,(Xzd r m)[k]?=some d:=⟨_,W0b (show k<4 by omega)⟩
    obtain ⟨x,hxk⟩ : ∃ x,X[k]?=some x:=⟨_,W0b (by omega)⟩
    obtain ⟨b,hbk⟩ : ∃ b,B[k]?=some b:=⟨_,W0b (by omega)⟩
    obtain ⟨g1,g2⟩:=hx k d x b hd hxk hbk
    have hs : sel (X.take (k+1)) (B.take (k+1))=sel (X.take k) (B.take k)++(if b then [x] else []):=by
     rw [W0z,W0z,hxk,hbk];exact Xeg (by rw [W0j,W0j,hX,hB])
    refine Ix k rfl (u:=dV d) (by rw [W1f,hd];rfl) ?_
    refine Ce rfl g1 ?_
    refine No rfl (by decide) ?_
    refine Ce rfl g2 ?_
    cases b with
    | false =>
     refine No rfl nofun ?_
     refine Ar (k+1 : Nat) rfl ?_
     exact Bk (k+1,some w) [] rfl ⟨by omega,by rw [hs];simpa [exW] using hw⟩ (by show 4 - (k+1)<4 - k;omega)
    | true =>
     refine Yes rfl rfl ?_
     refine ApO ((w++[x]).map dV) rfl rfl rfl (by rw [W1u];rfl) (by simp;omega) ?_
     refine Ar (k+1 : Nat) rfl ?_
     exact Bk (k+1,some (w++[x])) [(600,900),(66,600)] rfl ⟨by omega,by rw [hs,←W3c,←hw];rfl⟩ (by show 4 - (k+1)<4 - k;omega)
  · have h : ¬ (k : Int)<4:=h
    rw [W0a (by omega),W0a (by omega)] at hw
    exact RTt rfl (.cons (.own rfl (by rw [W1n];exact W0c _) (by rw [W1b,W2b,hw])) Xa3)
end
end Go.Proofs.YtpgcfjpkilabfaaGreatDoor.P55
namespace Go.Proofs.YtpgcfjpkilabfaaGreatDoor
open Go Go.Num Go.Tow Go.Vm
section
def lo2 (x y : Rat) : Rat:=if y<x then y else x
def hi2 (x y : Rat) : Rat:=if x<y then y else x
def Xm6 (x : Rat) (r : List Rat) : Rat:=r.foldl lo2 x
def Xm7 (x : Rat) (r : List Rat) : Rat:=r.foldl hi2 x
theorem Yhw {s : Nat} {x y : Rat} (hx : Qs s x) (hy : Qs s y) : Qs s (lo2 x y):=by unfold lo2;split <;> assumption
theorem Yib {s : Nat} {x y : Rat} (hx : Qs s x) (hy : Qs s y) : Qs s (hi2 x y):=by unfold hi2;split <;> assumption
theorem Xlx (x : Rat) (r : List Rat) (y : Rat) : Xm6 x (r++[y])=lo2 (Xm6 x r) y:=by simp [Xm6]
theorem Xlz (x : Rat) (r : List Rat) (y : Rat) : Xm7 x (r++[y])=hi2 (Xm7 x r) y:=by simp [Xm7]
theorem Xnv {s : Nat} {x : Rat} {r : List Rat} (h : ∀ y∈x::r,Qs s y) : Qs s (Xm6 x r):=by
 induction r generalizing x with
 | nil=>exact h x (W0t ..)
 | cons y r ih=>exact ih (x:=lo2 x y) (fun z hz=>by
  rcases W1k.1 hz with rfl | hz
  · exact Yhw (h x (W0t ..)) (h y (by simp))
  · exact h z (by simp [hz]))
theorem Xnw {s : Nat} {x : Rat} {r : List Rat} (h : ∀ y∈x::r,Qs s y) : Qs s (Xm7 x r):=by
 induction r generalizing x with
 | nil=>exact h x (W0t ..)
 | cons y r ih=>exact ih (x:=hi2 x y) (fun z hz=>by
  rcases W1k.1 hz with rfl | hz
  · exact Yib (h x (W0t ..)) (h y (by simp))
  · exact h z (by simp [hz]))
theorem Xwe {x y : Rat} : Xgu x y<0↔x<y:=by
 unfold Xgu
 split
 · rename_i h;simp [h]
 · rename_i h
   split <;> simp [h]
theorem Yeo {x y : Rat} : Xgu x y > 0↔y<x:=by
 rw [Xmn,←Xwe];omega
theorem Xj5 {s : Nat} {x : Rat} {r : List Rat} (h : ∀ y∈x::r,Qs s y) (k : Nat) : ∀ y∈x::r.take k,Qs s y:=fun y hy=>h y (by
 rcases W1k.1 hy with rfl | hy
 · exact W0t ..
 · exact W0x _ (W7f hy))
theorem Xib (n : Int) : Rat.divInt n 1=(n : Rat):=by
 rw [W3b]
 have : ((1 : Int) : Rat)=1:=rfl
 grind
def pw (b : Nat) : Rat:=((2 ^ b : Int) : Rat)
theorem Zs.two {b p : Nat} (h : b+1≤p) : Zs p (2 ^ b : Int):=by
 refine Zs.mono (p:=b+1) ?_ h
 unfold Zs
 rw [W5l]
 exact W3n (by decide) (Nat.lt_succ_self b)
theorem Xc8 (b : Nat) : (2 ^ b : Int)≠0:=by have:=W5w (n:=2) (m:=b) (by decide);omega
theorem Xgs (b : Nat) : Qs (b+1) (pw b):=⟨Zs.two (W0c _),Zs.one (by omega)⟩
theorem Zs.floor {s : Nat} {x : Rat} (h : Qs s x) : Zs s x.floor:=by
 have hn:=h.n
 unfold Zs at *
 rw [Rat.floor_def]
 exact W1r (Int.natAbs_ediv_le_natAbs _ _) hn
def dnQ (x : Rat) (b : Nat) : Rat:=Rat.divInt (x*pw b).floor (2 ^ b)
def upQ (x : Rat) (b : Nat) : Rat:=-dnQ (-x) b
theorem Xqw {s : Nat} {x : Rat} (h : Qs s x) (b : Nat) : Qs (s+b+1) (dnQ x b) :=
 Qs.divInt (p:=s+b+1) ((Zs.floor (h.mul (Xgs b))).mono (by omega)) (Zs.two (by omega)) (Xc8 b)
theorem Yga {s : Nat} {x : Rat} (h : Qs s x) (b : Nat) : Qs (s+b+1) (upQ x b):=(Xqw h.neg b).neg
theorem Xoe {x y : Rat} : Xgu x y≤0↔¬ y<x:=by rw [←Yeo];omega
theorem Xny {a p : Nat} (h : a<2 ^ p) : (dig a).length≤p / 32+1:=by
 refine Xap (W0p h ?_)
 rw [show (4294967296 : Nat)=2 ^ 32 from rfl,←W4b]
 exact W0k (by decide) (by omega)
def rtF (x : Rat) : Nat:=rt x.floor.toNat
theorem Yk0 (n : Nat) : rt n≤n:=by
 have h:=(Xcx n).1
 by_cases h0 : rt n=0
 · omega
 · have:=W0m (rt n) (show 1≤rt n by omega)
   omega
theorem Xb0 {x : Rat} (h : 0≤x) : x.floor=(x.floor.toNat : Int):=by
 have : (0 : Int)≤x.floor:=W7d.2 h
 omega
theorem Xlm {s : Nat} {x : Rat} (h : Qs s x) (h0 : 0≤x) : Zs s (rtF x : Int):=by
 have h1:=Zs.floor h
 rw [Xb0 h0] at h1
 have h2:=Yk0 x.floor.toNat
 unfold Zs at *
 have h1 : x.floor.toNat<2 ^ s:=h1
 show rt x.floor.toNat<2 ^ s
 omega
theorem Xaw (b : Nat) : 0<pw b:=Rat.intCast_pos.2 (W5w (by decide))
def sq2 (x : Rat) (b : Nat) : Rat:=x*(pw b*pw b)
def Xdg (x : Rat) (b : Nat) : Rat:=Rat.divInt (rtF (sq2 x b) : Int) (2 ^ b)
open Classical in
noncomputable def Xrm (x : Rat) : Nat:=if ((rtF x*rtF x : Int) : Rat)<x then rtF x+1 else rtF x
noncomputable def Xm5 (x : Rat) (b : Nat) : Rat:=Rat.divInt (Xrm (sq2 x b) : Int) (2 ^ b)
theorem Xlg {s b : Nat} {x : Rat} (h : Qs s x) : Qs (s+(2*b+2)) (sq2 x b):=(h.mul ((Xgs b).mul (Xgs b))).mono (by omega)
theorem Xdx {x : Rat} {b : Nat} (h : 0≤x) : 0≤sq2 x b:=Rat.mul_nonneg h (Rat.mul_nonneg (W2g (Xaw b)) (W2g (Xaw b)))
theorem Ycu {x : Rat} (h : 0≤x) : ¬ Xa1 x.num 0<0:=by
 have:=Rat.num_nonneg.2 h
 rcases Xau x.num 0 with ⟨h1,e1⟩ | ⟨h1,e1⟩ | ⟨h1,e1⟩ <;> omega
theorem Xkv (x : Rat) (n : Nat) : (x.num*2 ^ n).fdiv x.den=(x*pw n).floor:=by
 have hd : (0 : Int)<x.den:=Int.natCast_pos.2 (W2h x.den_nz)
 rw [W1l _ (by omega)]
 have key : ∀ z : Int,z≤(x.num*2 ^ n) / x.den↔z≤(x*pw n).floor:=by
  intro z
  rw [Int.le_ediv_iff_mul_le hd,W7d]
  have e : x*pw n*(x.den : Rat)=((x.num*2 ^ n : Int) : Rat):=by
   have:=Xkd x
   have h2 : pw n=((2 ^ n : Int) : Rat):=rfl
   rw [W4n,←h2,←this]
   grind
  have hdr : (0 : Rat)<(x.den : Rat):=by
   have:=Rat.intCast_pos.2 hd
   exact this
  rw [←W3g,W4n,←e]
  constructor
  · intro h
    exact W1v h hdr
  · intro h
    exact W2k h (W2g hdr)
 have h1:=(key _).1 (W7s _)
 have h2:=(key _).2 (W7s _)
 omega
theorem Ya5 (b : Nat) : pw (2*b)=pw b*pw b:=by
 show ((2 ^ (2*b) : Int) : Rat)=((2 ^ b : Int) : Rat)*((2 ^ b : Int) : Rat)
 rw [←W4n,←W6z]
 congr 2;omega
theorem Xxs {x : Rat} (b : Nat) (h0 : 0≤x) : (x.num*2 ^ (2*b)).fdiv x.den=((sq2 x b).floor.toNat : Int):=by
 rw [Xkv,Ya5]
 exact Xb0 (Xdx h0)
theorem Xhf {s : Nat} {x : Rat} (h : Qs s x) (h0 : 0≤x) (b : Nat) : Qs (s+(2*b+2)) (Xdg x b) :=
 Qs.divInt (Xlm (Xlg h) (Xdx h0)) (Zs.two (by omega)) (Xc8 b)
def mx0 (x : Rat) : Rat:=if x<0 then 0 else x
theorem Xer (x : Rat) : 0≤mx0 x:=by unfold mx0;split <;> grind
theorem Xqa {s : Nat} {x : Rat} (h : Qs s x) (hs : 1≤s) : Qs s (mx0 x):=by
 unfold mx0
 split
 · exact qs0.mono hs
 · exact h
theorem Yi7 {x : Rat} : Xa1 x.num 0<0↔x<0:=by
 rw [Xj1]
 rcases Xax x with ⟨h,e⟩ | ⟨h,e⟩ | ⟨h,e⟩ <;> rw [e]
 · exact ⟨fun h=>absurd h (by decide),fun h'=>absurd h' (by grind)⟩
 · exact ⟨fun h=>absurd h (by decide),fun h'=>absurd h' (by grind)⟩
 · exact ⟨fun _=>h,fun _=>by decide⟩
def rnd (p : Rat × Rat) (b : Nat) : Rat × Rat:=(dnQ p.1 b,upQ p.2 b)
def rts (p : Rat × Rat) (b : Nat) : Rat × Rat:=(Xdg (mx0 p.1) b,Xdg p.2 b+Rat.divInt 1 (2 ^ b))
def Xb1 (p q : Rat × Rat) : Rat × Rat:=(Xm6 (p.1*q.1) [p.1*q.2,p.2*q.1,p.2*q.2],Xm7 (p.1*q.1) [p.1*q.2,p.2*q.1,p.2*q.2])
def Xk6 (p q : Rat × Rat) : Rat × Rat:=(p.1+q.1,p.2+q.2)
def enc : (k : Nat)→Tw k→El k→Nat→Rat × Rat
 | 0=>fun _ (x : Rat) _=>(x,x)
 | k+1=>fun t a b=>if (∀ x∈toL k a.2,x=0) then enc k t.1 a.1 b else rnd (Xk6 (enc k t.1 a.1 b) (Xb1 (enc k t.1 a.2 b) (rts (enc k t.1 t.2 b) b))) b
theorem Yby (x : Rat) (b : Nat) : dnQ x b*pw b=((x*pw b).floor : Rat):=by
 unfold dnQ
 rw [W3b]
 have h:=Xaw b
 show ((x*pw b).floor : Rat) / pw b*pw b=_
 rw [W5g (by grind)]
theorem Xqx (x : Rat) (b : Nat) : dnQ x b≤x:=by
 refine W1v ?_ (Xaw b)
 rw [Yby]
 exact W7l _
theorem Xv0 (x : Rat) (b : Nat) : x*pw b<dnQ x b*pw b+1:=by
 rw [Yby]
 have:=@Rat.lt_floor (x*pw b)
 grind
theorem Xsu (x : Rat) (b : Nat) : x≤upQ x b:=by
 have:=Xqx (-x) b
 unfold upQ;grind
theorem Yai (x : Rat) (b : Nat) : upQ x b*pw b<x*pw b+1:=by
 have:=Xv0 (-x) b
 unfold upQ;grind
theorem Xus {x y : Rat} : lo2 x y≤x∧lo2 x y≤y:=by unfold lo2;split <;> grind
theorem Xvg {x y : Rat} : x≤hi2 x y∧y≤hi2 x y:=by unfold hi2;split <;> grind
theorem Xur {x y : Rat} : lo2 x y=x∨lo2 x y=y:=by unfold lo2;split <;> simp
theorem Xvf {x y : Rat} : hi2 x y=x∨hi2 x y=y:=by unfold hi2;split <;> simp
theorem Xf6 (p q : Rat × Rat) : (Xb1 p q).1≤p.1*q.1∧(Xb1 p q).1≤p.1*q.2∧(Xb1 p q).1≤p.2*q.1∧(Xb1 p q).1≤p.2*q.2:=by
 show lo2 (lo2 (lo2 (p.1*q.1) (p.1*q.2)) (p.2*q.1)) (p.2*q.2)≤_∧lo2 (lo2 (lo2 (p.1*q.1) (p.1*q.2)) (p.2*q.1)) (p.2*q.2)≤_∧lo2 (lo2 (lo2 (p.1*q.1) (p.1*q.2)) (p.2*q.1)) (p.2*q.2)≤_∧lo2 (lo2 (lo2 (p.1*q.1) (p.1*q.2)) (p.2*q.1)) (p.2*q.2)≤_
 have h1:=@Xus (p.1*q.1) (p.1*q.2)
 have h2:=@Xus (lo2 (p.1*q.1) (p.1*q.2)) (p.2*q.1)
 have h3:=@Xus (lo2 (lo2 (p.1*q.1) (p.1*q.2)) (p.2*q.1)) (p.2*q.2)
 refine ⟨?_,?_,?_,h3.2⟩ <;> grind
theorem Xf7 (p q : Rat × Rat) : p.1*q.1≤(Xb1 p q).2∧p.1*q.2≤(Xb1 p q).2∧p.2*q.1≤(Xb1 p q).2∧p.2*q.2≤(Xb1 p q).2:=by
 show _≤hi2 (hi2 (hi2 (p.1*q.1) (p.1*q.2)) (p.2*q.1)) (p.2*q.2)∧_≤hi2 (hi2 (hi2 (p.1*q.1) (p.1*q.2)) (p.2*q.1)) (p.2*q.2)∧_≤hi2 (hi2 (hi2 (p.1*q.1) (p.1*q.2)) (p.2*q.1)) (p.2*q.2)∧_≤hi2 (hi2 (hi2 (p.1*q.1) (p.1*q.2)) (p.2*q.1)) (p.2*q.2)
 have h1:=@Xvg (p.1*q.1) (p.1*q.2)
 have h2:=@Xvg (hi2 (p.1*q.1) (p.1*q.2)) (p.2*q.1)
 have h3:=@Xvg (hi2 (hi2 (p.1*q.1) (p.1*q.2)) (p.2*q.1)) (p.2*q.2)
 refine ⟨?_,?_,?_,h3.2⟩ <;> grind
theorem Xev (x : Rat) (b : Nat) : Xdg x b*pw b=((rtF (sq2 x b) : Int) : Rat):=by
 unfold Xdg
 rw [W3b]
 have h:=Xaw b
 show ((rtF (sq2 x b) : Int) : Rat) / pw b*pw b=_
 rw [W5g (by grind)]
theorem Xdh (b : Nat) : Rat.divInt 1 (2 ^ b)*pw b=1:=by
 rw [W3b]
 have h:=Xaw b
 show ((1 : Int) : Rat) / pw b*pw b=_
 rw [W5g (by grind)];rfl
theorem Xcv (x : Rat) (b : Nat) : 0≤Xdg x b:=by
 refine W1v ?_ (Xaw b)
 rw [Xev,W5f]
 exact Rat.intCast_nonneg.2 (by omega)
theorem Ya0 {x : Rat} (h : 0≤x) : (((rtF x : Int)) : Rat)*((rtF x : Int) : Rat)≤x:=by
 have h1:=(Xcx x.floor.toNat).1
 have h2:=Xb0 h
 have h3:=@W7l x
 have h4 : ((rtF x*rtF x : Int) : Rat)≤(x.floor : Rat):=by
  rw [W3g,h2]
  unfold rtF
  exact_mod_cast h1
 rw [W4n] at h4
 exact W4z h4 h3
theorem Xtt {x : Rat} (h : 0≤x) : x<(((rtF x : Int))+1 : Rat)*(((rtF x : Int))+1 : Rat):=by
 have h1:=(Xcx x.floor.toNat).2
 have h2:=Xb0 h
 have h3:=@Rat.lt_floor x
 have h4 : ((x.floor+1 : Int) : Rat)≤(((rtF x+1 : Int)*(rtF x+1 : Int) : Int) : Rat):=by
  rw [W3g,h2]
  unfold rtF
  have h1 : x.floor.toNat+1≤(rt x.floor.toNat+1)*(rt x.floor.toNat+1):=h1
  exact_mod_cast h1
 rw [W4n,W4y,W4y] at h4
 have h5 : ((1 : Int) : Rat)=1:=rfl
 rw [h5] at h4
 grind
theorem Xhe {x : Rat} {b : Nat} (h : 0≤x) : Xdg x b*Xdg x b≤x:=by
 have hp:=Xaw b
 have hpp:=W4c hp hp
 refine W1v ?_ hpp
 have h1:=Ya0 (Xdx (b:=b) h)
 rw [←Xev] at h1
 unfold sq2 at h1
 grind
theorem Xtd {x : Rat} {b : Nat} (h : 0≤x) : x≤(Xdg x b+Rat.divInt 1 (2 ^ b))*(Xdg x b+Rat.divInt 1 (2 ^ b)):=by
 have hp:=Xaw b
 have hpp:=W4c hp hp
 refine W1v ?_ hpp
 have h1:=Xtt (Xdx (b:=b) h)
 have h2:=Xdh b
 rw [←Xev] at h1
 have h3 : sq2 x b=x*(pw b*pw b):=rfl
 have h4 : (Xdg x b+Rat.divInt 1 (2 ^ b))*(Xdg x b+Rat.divInt 1 (2 ^ b))*(pw b*pw b)=(Xdg x b*pw b+1)*(Xdg x b*pw b+1):=by
  rw [←h2];grind
 rw [h4,←h3]
 exact W2g h1
theorem Xgk : ∀ {k : Nat} {t : Tw k} (h : Xbu k t) (a : El k) (b : Nat),inI k t a (enc k t a b).1 (enc k t a b).2
 | 0,t,h,a,b=>⟨(Xas h).le_rf (Xay 0 t) a,(Xas h).le_rf (Xay 0 t) a⟩
 | k+1,t,h,a,b=>by
  have iu:=Xl5 (t:=t) h.1 (Xgk h.1 a.1 b)
  have hs:=Xqv (t:=t) a
  by_cases hz : ∀ x∈toL k a.2,x=0
  · have he : enc (k+1) t a b=enc k t.1 a.1 b:=if_pos hz
    rw [he]
    have ha : a=up k a.1:=W2f rfl ((Xaq k a.2).2 hz)
    rw [ha]
    exact iu
  · have he : enc (k+1) t a b=rnd (Xk6 (enc k t.1 a.1 b) (Xb1 (enc k t.1 a.2 b) (rts (enc k t.1 t.2 b) b))) b:=if_neg hz
    have iv:=Xl5 (t:=t) h.1 (Xgk h.1 a.2 b)
    have ir:=Xgk h.1 t.2 b
    have hr2 : 0≤(enc k t.1 t.2 b).2:=by
     have h0 : le k t.1 (rat k 0) t.2:=(Xhu h.1).2 (by rw [h.2];decide)
     exact (Xa2 h.1).1 (le_tr h.1 h0 ir.2)
    have hu : 0≤Rat.divInt 1 (2 ^ b):=W1v (by rw [Xdh,W5f];decide) (Xaw b)
    have is:=Xu4 h ir (c:=Xdg (mx0 (enc k t.1 t.2 b).1) b) (d:=Xdg (enc k t.1 t.2 b).2 b+Rat.divInt 1 (2 ^ b)) (Xcv _ _) (by have:=Xcv (enc k t.1 t.2 b).2 b;grind)
     (by
      have h1:=Xhe (b:=b) (Xer (enc k t.1 t.2 b).1)
      by_cases h0 : (enc k t.1 t.2 b).1<0
      · right
        have e : mx0 (enc k t.1 t.2 b).1=0:=if_pos h0
        rw [e] at h1 ⊢
        have h2:=Xcv 0 b
        by_cases h3 : Xdg 0 b=0
        · exact h3
        · have:=W4c (show 0<Xdg 0 b by grind) (show 0<Xdg 0 b by grind)
          grind
      · left
        have e : mx0 (enc k t.1 t.2 b).1=(enc k t.1 t.2 b).1:=if_neg h0
        rw [e] at h1 ⊢
        exact h1) (Xtd hr2)
    have im:=Xu5 h iv is (Xcv _ _) (Xf6 (enc k t.1 a.2 b) (rts (enc k t.1 t.2 b) b)).1 (Xf6 (enc k t.1 a.2 b) (rts (enc k t.1 t.2 b) b)).2.1 (Xf7 (enc k t.1 a.2 b) (rts (enc k t.1 t.2 b) b)).2.2.1 (Xf7 (enc k t.1 a.2 b) (rts (enc k t.1 t.2 b) b)).2.2.2
    have ia:=Xu6 h iu im
    rw [←hs] at ia
    rw [he]
    exact Xqj h ia (Xqx _ _) (Xsu _ _)
def eB (s b : Nat) : Nat→Nat
 | 0=>s
 | k+1=>3*eB s b k+4*b+6
theorem Xza (s b : Nat) : ∀ k,s≤eB s b k
 | 0=>W0c _
 | k+1=>by have:=Xza s b k;show s≤3*eB s b k+4*b+6;omega
theorem Ybv {k : Nat} {t : Tw (k+1)} (h : Xbu (k+1) t) (b : Nat) : 0≤(enc k t.1 t.2 b).2:=by
 have h0 : le k t.1 (rat k 0) t.2:=(Xhu h.1).2 (by rw [h.2];decide)
 exact (Xa2 h.1).1 (le_tr h.1 h0 (Xgk h.1 t.2 b).2)
def Q2 (s : Nat) (p : Rat × Rat) : Prop:=Qs s p.1∧Qs s p.2
theorem Xjn (b : Nat) : Qs (b+1) (Rat.divInt 1 (2 ^ b)):=Qs.divInt (Zs.one (by omega)) (Zs.two (W0c _)) (Xc8 b)
theorem Yaw {s b : Nat} {p : Rat × Rat} (h : Q2 s p) (h0 : 0≤p.2) (hs : 1≤s) : Q2 (s+3*b+4) (rts p b) :=
 ⟨(Xhf (Xqa h.1 hs) (Xer _) b).mono (by omega),((Xhf h.2 h0 b).add (Xjn b)).mono (by omega)⟩
theorem Xkf {s s' : Nat} {p q : Rat × Rat} (h : Q2 s p) (h' : Q2 s' q) : Q2 (s+s') (Xb1 p q):=by
 have key : ∀ y∈p.1*q.1::[p.1*q.2,p.2*q.1,p.2*q.2],Qs (s+s') y:=by
  intro y hy
  simp at hy
  rcases hy with rfl | rfl | rfl | rfl
  · exact h.1.mul h'.1
  · exact h.1.mul h'.2
  · exact h.2.mul h'.1
  · exact h.2.mul h'.2
 exact ⟨Xnv key,Xnw key⟩
theorem Xk1 {s s' : Nat} {p q : Rat × Rat} (h : Q2 s p) (h' : Q2 s' q) : Q2 (s+s'+1) (Xk6 p q):=⟨h.1.add h'.1,h.2.add h'.2⟩
theorem Ya2 {s : Nat} {p : Rat × Rat} (h : Q2 s p) (b : Nat) : Q2 (s+b+1) (rnd p b):=⟨Xqw h.1 b,Yga h.2 b⟩
theorem Q2.mono {s s' : Nat} {p : Rat × Rat} (h : Q2 s p) (hs : s≤s') : Q2 s' p:=⟨h.1.mono hs,h.2.mono hs⟩
theorem Xh7 : ∀ {k : Nat} {t : Tw k} {a : El k} {s b : Nat},Xbu k t→TS s k t→Sz s (toL k a)→1≤s→Q2 (eB s b k) (enc k t a b)
 | 0,t,a,s,b,h,hT,ha,hs=>⟨ha.qs (W0e.2 rfl),ha.qs (W0e.2 rfl)⟩
 | k+1,t,a,s,b,h,hT,ha,hs=>by
  have hu:=Xh7 (b:=b) h.1 hT.1 (Sz.left (l:=toL k a.1) (m:=toL k a.2) ha) hs
  have hv:=Xh7 (b:=b) h.1 hT.1 (Sz.right (l:=toL k a.1) (m:=toL k a.2) ha) hs
  have hr:=Xh7 (b:=b) h.1 hT.1 hT.2 hs
  have hge:=Xza s b k
  show Q2 (3*eB s b k+4*b+6) (if (∀ x∈toL k a.2,x=0) then enc k t.1 a.1 b else rnd (Xk6 (enc k t.1 a.1 b) (Xb1 (enc k t.1 a.2 b) (rts (enc k t.1 t.2 b) b))) b)
  split
  · exact hu.mono (by omega)
  · exact (Ya2 (Xk1 hu (Xkf hv (Yaw hr (Ybv h b) (by omega)))) b).mono (by omega)
theorem Xlt (a b : Nat) : pw (a+b)=pw a*pw b:=by
 show ((2 ^ (a+b) : Int) : Rat)=((2 ^ a : Int) : Rat)*((2 ^ b : Int) : Rat)
 rw [←W4n,←W6z]
theorem Xch (n : Nat) : pw (n+1)=2*pw n:=by rw [Xlt,show pw 1=2 from rfl];grind
theorem Xgh (n : Nat) : 1≤pw n:=by
 induction n with
 | zero=>exact W6i
 | succ n ih=>rw [Xch];grind
theorem Xhp {a b : Nat} (h : a≤b) : pw a≤pw b:=by
 obtain ⟨c,rfl⟩:=Nat.le.dest h
 rw [Xlt]
 have h1:=W2v (Xgh c) (W2g (Xaw a))
 grind
theorem Xiy {x y : Rat} (h : 0≤x) (k : 0≤y) : 0≤x*y:=Rat.mul_nonneg h k
theorem Ybi {a b c d : Rat} (h : a≤b) (k : c≤d) (hc : 0≤c) (hb : 0≤b) : a*c≤b*d:=by
 have h1:=W2k h hc
 have h2:=W2v k hb
 grind
theorem Xke {x y X Y : Rat} (h1 : -X≤x) (h2 : x≤X) (h3 : -Y≤y) (h4 : y≤Y) : x*y≤X*Y:=by
 have a:=Xiy (show 0≤X - x by grind) (show 0≤Y+y by grind)
 have b:=Xiy (show 0≤X+x by grind) (show 0≤Y - y by grind)
 grind
theorem Xqh {x y : Rat} (hy : 0≤y) (h : x*x≤y*y) : x≤y:=by
 by_cases hxy : x≤y
 · exact hxy
 · have h1 : y<x:=by grind
   have a:=W4c (show 0<x - y by grind) (show 0<x by grind)
   have b:=Xiy hy (show 0≤x - y by grind)
   grind
def Wid (p : Rat × Rat) (e : Nat) : Prop:=p.1≤p.2∧(p.2 - p.1)*pw e≤1
def Mg (p : Rat × Rat) (m : Nat) : Prop:=-pw m≤p.1∧p.2≤pw m
theorem Wid.mono {p : Rat × Rat} {e f : Nat} (h : Wid p e) (hf : f≤e) : Wid p f:=by
 refine ⟨h.1,?_⟩
 have:=W2v (Xhp hf) (show 0≤p.2 - p.1 by have:=h.1;grind)
 have:=h.2
 grind
theorem Mg.mono {p : Rat × Rat} {m n : Nat} (h : Mg p m) (hn : m≤n) : Mg p n:=by
 have:=Xhp hn
 have h1:=h.1
 have h2:=h.2
 exact ⟨by grind,by grind⟩
structure RtOf (r : Rat × Rat) (b : Nat) (s : Rat × Rat) : Prop where
 lo : s.1=Xdg (mx0 r.1) b
 l : Xdg r.2 b≤s.2
 h : s.2≤Xdg r.2 b+Rat.divInt 1 (2 ^ b)
theorem Xed (b : Nat) : 0<Rat.divInt 1 (2 ^ b):=by
 by_cases h : 0<Rat.divInt 1 (2 ^ b)
 · exact h
 · have h1:=W2k (show Rat.divInt 1 (2 ^ b)≤0 by grind) (W2g (Xaw b))
   rw [Xdh] at h1
   exact absurd h1 (by grind)
theorem Xsv {b f : Nat} (h : f+1≤b) : 2*(Rat.divInt 1 (2 ^ b)*pw f)≤1:=by
 have h1:=W2v (Xhp h) (W2g (Xed b))
 rw [Xdh,Xch] at h1
 grind
theorem Xjo (b : Nat) : Rat.divInt 1 (2 ^ b)≤1:=by
 have h1:=W2v (Xgh b) (W2g (Xed b))
 rw [Xdh] at h1
 grind
theorem Yhn (x : Rat) : x≤mx0 x:=by unfold mx0;split <;> grind
theorem Xhg {x y : Rat} {b : Nat} (hx : 0≤x) (h : x≤y) : Xdg x b≤Xdg y b:=by
 have hp:=Xaw b
 refine W1v ?_ hp
 rw [Xev,Xev,W3g]
 have h1 : sq2 x b≤sq2 y b:=W2k h (W2g (W4c hp hp))
 have h2:=Ya0 (Xdx (b:=b) hx)
 have h3:=Xtt (x:=sq2 y b) (W4z (Xdx (b:=b) hx) h1)
 by_cases h4 : (rtF (sq2 x b) : Int)≤rtF (sq2 y b)
 · exact h4
 · have h5 : (rtF (sq2 y b) : Int)+1≤rtF (sq2 x b):=by omega
   have h6:=W3g.2 h5
   rw [W4y,show ((1 : Int) : Rat)=1 from rfl] at h6
   have h7 : (0 : Rat)≤((rtF (sq2 y b) : Int) : Rat):=Rat.intCast_nonneg.2 (by omega)
   have h8:=Ybi h6 h6 (by grind) (by grind)
   grind
theorem RtOf.wd {r s : Rat × Rat} {b e f : Nat} (R : RtOf r b s) (hr : Wid r e) (h0 : 0≤r.2) (hf : 2*f≤e) (hb : f+1≤b) : s.1≤s.2∧(s.2 - s.1)*pw f≤2:=by
 obtain ⟨r1,r2⟩:=r
 obtain ⟨c,d⟩:=s
 obtain ⟨h1,h2,h3⟩:=R
 dsimp only at *
 have hA:=Xhe (b:=b) h0
 have hB:=Xtd (b:=b) (Xer r1)
 have hB0:=Xcv (mx0 r1) b
 have hm:=Yhn r1
 have hu:=Xed b
 have hul:=Xsv hb
 rw [←h1] at hB hB0
 have hw:=(hr.mono hf).2
 have hpf:=Xaw f
 rw [show 2*f=f+f by omega,Xlt] at hw
 dsimp only at hw
 generalize Rat.divInt 1 (2 ^ b)=ε at *
 generalize hAe : Xdg r2 b=A at *
 have key : (A - (c+ε))*pw f≤1:=by
  by_cases hk : (A - (c+ε))*pw f≤1
  · exact hk
  · have hk : 1<(A - (c+ε))*pw f:=by grind
    have hD : 0<A - (c+ε):=by
     by_cases hD : 0<A - (c+ε)
     · exact hD
     · have:=W2k (show A - (c+ε)≤0 by grind) (W2g hpf)
       grind
    have e1:=Xiy (W2g hD) (show 0≤2*(c+ε) by grind)
    have e2 : (A - (c+ε))*(A - (c+ε))≤r2 - r1:=by grind
    have e3:=W2k e2 (W2g (W4c hpf hpf))
    have e4:=Ybi (W2g hk) (W2g hk) (by decide) (by grind)
    have e5:=W4c (show 0<(A - (c+ε))*pw f - 1 by grind) (show 0<(A - (c+ε))*pw f by grind)
    grind
 refine ⟨?_,?_⟩
 · have hmono : mx0 r1≤r2:=by
    have:=hr.1
    unfold mx0
    dsimp only at this
    split
    · exact h0
    · exact this
   have:=Xhg (b:=b) (Xer r1) hmono
   rw [hAe,←h1] at this
   grind
 · have:=W2k (show d - c≤(A - (c+ε))+2*ε by grind) (W2g hpf)
   grind
theorem RtOf.mg {r s : Rat × Rat} {b m : Nat} (R : RtOf r b s) (hr : Mg r m) (h0 : 0≤r.2) : 0≤s.1∧s.2≤pw (m+1):=by
 have h1:=Xhe (b:=b) h0
 have h2:=Xcv (mx0 r.1) b
 rw [←R.lo] at h2
 refine ⟨h2,?_⟩
 have h3 : Xdg r.2 b≤pw m:=by
  refine Xqh (W2g (Xaw m)) (W4z h1 (W4z hr.2 ?_))
  have:=W2v (Xgh m) (W2g (Xaw m))
  grind
 have h4:=R.h
 have h5:=Xjo b
 have h6:=Xgh m
 rw [Xch]
 grind
theorem Xuk (p q : Rat × Rat) : (∃ v s,(v=p.1∨v=p.2)∧(s=q.1∨s=q.2)∧(Xb1 p q).1=v*s)∧∃ v s,(v=p.1∨v=p.2)∧(s=q.1∨s=q.2)∧(Xb1 p q).2=v*s:=by
 constructor
 · show ∃ v s,(v=p.1∨v=p.2)∧(s=q.1∨s=q.2)∧lo2 (lo2 (lo2 (p.1*q.1) (p.1*q.2)) (p.2*q.1)) (p.2*q.2)=v*s
   rcases @Xur (lo2 (lo2 (p.1*q.1) (p.1*q.2)) (p.2*q.1)) (p.2*q.2) with h | h <;> rw [h]
   · rcases @Xur (lo2 (p.1*q.1) (p.1*q.2)) (p.2*q.1) with h | h <;> rw [h]
     · rcases @Xur (p.1*q.1) (p.1*q.2) with h | h <;> rw [h]
       · exact ⟨_,_,.inl rfl,.inl rfl,rfl⟩
       · exact ⟨_,_,.inl rfl,.inr rfl,rfl⟩
     · exact ⟨_,_,.inr rfl,.inl rfl,rfl⟩
   · exact ⟨_,_,.inr rfl,.inr rfl,rfl⟩
 · show ∃ v s,(v=p.1∨v=p.2)∧(s=q.1∨s=q.2)∧hi2 (hi2 (hi2 (p.1*q.1) (p.1*q.2)) (p.2*q.1)) (p.2*q.2)=v*s
   rcases @Xvf (hi2 (hi2 (p.1*q.1) (p.1*q.2)) (p.2*q.1)) (p.2*q.2) with h | h <;> rw [h]
   · rcases @Xvf (hi2 (p.1*q.1) (p.1*q.2)) (p.2*q.1) with h | h <;> rw [h]
     · rcases @Xvf (p.1*q.1) (p.1*q.2) with h | h <;> rw [h]
       · exact ⟨_,_,.inl rfl,.inl rfl,rfl⟩
       · exact ⟨_,_,.inl rfl,.inr rfl,rfl⟩
     · exact ⟨_,_,.inr rfl,.inl rfl,rfl⟩
   · exact ⟨_,_,.inr rfl,.inr rfl,rfl⟩
theorem Xo2 {u v r s : Rat × Rat} {b b' e f m : Nat} (hu : Wid u f) (hv : Wid v f) (hr : Wid r e) (hf : 2*f≤e) (mv : Mg v m) (ms : 0≤s.1∧s.2≤pw (m+1)) (h0 : 0≤r.2) (R : RtOf r b s) (hb : f+1≤b) (hb' : b≤b') (he : m+3≤f) :
 Wid (rnd (Xk6 u (Xb1 v s)) b') (f - (m+3)):=by
 have hs:=R.wd hr h0 (f:=f) hf hb
 have wu:=hu.2
 have wv:=hv.2
 have hu1:=hu.1
 have hv1:=hv.1
 have hs1:=hs.1
 have hs2:=hs.2
 have hpf:=Xaw f
 have hpm:=Xaw m
 obtain ⟨⟨v1,s1,hv1',hs1',e1⟩,v2,s2,hv2',hs2',e2⟩:=Xuk v s
 have hle:=(Xf6 v s).1
 have hge:=(Xf7 v s).1
 have hP : (Xb1 v s).2 - (Xb1 v s).1≤pw m*(s.2 - s.1)+pw (m+1)*(v.2 - v.1):=by
  rw [e1,e2]
  have a1 : -pw m≤v2∧v2≤pw m:=by
   have:=mv.1;have:=mv.2
   rcases hv2' with rfl | rfl <;> exact ⟨by grind,by grind⟩
  have a2 : -(s.2 - s.1)≤s2 - s1∧s2 - s1≤s.2 - s.1:=by
   rcases hs1' with rfl | rfl <;> rcases hs2' with rfl | rfl <;> exact ⟨by grind,by grind⟩
  have a3 : -pw (m+1)≤s1∧s1≤pw (m+1):=by
   have:=ms.1;have:=ms.2;have:=Xaw (m+1)
   rcases hs1' with rfl | rfl <;> exact ⟨by grind,by grind⟩
  have a4 : -(v.2 - v.1)≤v2 - v1∧v2 - v1≤v.2 - v.1:=by
   rcases hv1' with rfl | rfl <;> rcases hv2' with rfl | rfl <;> exact ⟨by grind,by grind⟩
  have b1:=Xke a1.1 a1.2 a2.1 a2.2
  have b2:=Xke a3.1 a3.2 a4.1 a4.2
  grind
 have hPf : ((Xb1 v s).2 - (Xb1 v s).1)*pw f≤pw (m+2):=by
  have c1:=W2k hP (W2g hpf)
  have c2:=W2v hs2 (W2g hpm)
  have c3:=W2v wv (W2g (Xaw (m+1)))
  rw [Xch,Xch] at *
  grind
 have d1:=Xv0 (u.1+(Xb1 v s).1) b'
 have d2:=Yai (u.2+(Xb1 v s).2) b'
 have d3:=Xqx (u.1+(Xb1 v s).1) b'
 have d4:=Xsu (u.2+(Xb1 v s).2) b'
 have hε:=Xsv (b:=b') (f:=f) (by omega)
 have hεp:=Xed b'
 have hεe:=Xdh b'
 have d5 : u.1+(Xb1 v s).1 - Rat.divInt 1 (2 ^ b')≤dnQ (u.1+(Xb1 v s).1) b':=by
  refine W1v ?_ (Xaw b')
  grind
 have d6 : upQ (u.2+(Xb1 v s).2) b'≤u.2+(Xb1 v s).2+Rat.divInt 1 (2 ^ b'):=by
  refine W1v ?_ (Xaw b')
  grind
 refine ⟨?_,?_⟩
 · show dnQ (u.1+(Xb1 v s).1) b'≤upQ (u.2+(Xb1 v s).2) b'
   grind
 · show (upQ (u.2+(Xb1 v s).2) b' - dnQ (u.1+(Xb1 v s).1) b')*pw (f - (m+3))≤1
   refine W1v ?_ (Xaw (m+3))
   rw [Rat.mul_assoc,←Xlt,show f - (m+3)+(m+3)=f by omega,Rat.one_mul]
   have g1:=W2k (show upQ (u.2+(Xb1 v s).2) b' - dnQ (u.1+(Xb1 v s).1) b'≤(u.2 - u.1)+((Xb1 v s).2 - (Xb1 v s).1)+2*Rat.divInt 1 (2 ^ b') by grind) (W2g hpf)
   have g2:=Xgh (m+1)
   rw [Xch (m+1)] at hPf
   rw [Xch (m+2),Xch (m+1)]
   grind
theorem Ycp {u v r s : Rat × Rat} {b b' e m : Nat} (hu : Wid u e) (hv : Wid v e) (hr : Wid r e) (mv : Mg v m) (mr : Mg r m) (h0 : 0≤r.2) (R : RtOf r b s) (hb : e / 2+1≤b) (hb' : b≤b') (he : m+3≤e / 2) :
 Wid (rnd (Xk6 u (Xb1 v s)) b') (e / 2 - (m+3)):=Xo2 (hu.mono (by omega)) (hv.mono (by omega)) hr (by omega) mv (R.mg mr h0) h0 R hb hb' he
theorem Xo3 {u v s : Rat × Rat} {b' m j : Nat} (mu : Mg u m) (mv : Mg v m) (ms : 0≤s.1∧s.2≤pw (j+1)) (hs1 : s.1≤s.2) (hv1 : v.1≤v.2) : Mg (rnd (Xk6 u (Xb1 v s)) b') (m+j+2):=by
 obtain ⟨⟨v1,s1,hv1',hs1',e1⟩,v2,s2,hv2',hs2',e2⟩:=Xuk v s
 have key : ∀ x y,(x=v.1∨x=v.2)→(y=s.1∨y=s.2)→-(pw m*pw (j+1))≤x*y∧x*y≤pw m*pw (j+1):=by
  intro x y hx hy
  have a1 : -pw m≤x∧x≤pw m:=by
   have:=mv.1;have:=mv.2
   rcases hx with rfl | rfl <;> exact ⟨by grind,by grind⟩
  have a3 : -pw (j+1)≤y∧y≤pw (j+1):=by
   have:=ms.1;have:=ms.2;have:=Xaw (j+1)
   rcases hy with rfl | rfl <;> exact ⟨by grind,by grind⟩
  have b1:=Xke a1.1 a1.2 a3.1 a3.2
  have b2:=Xke (x:=-x) (show -pw m≤-x by grind) (show -x≤pw m by grind) a3.1 a3.2
  exact ⟨by grind,b1⟩
 have k1:=(key _ _ hv1' hs1').1
 have k2:=(key _ _ hv2' hs2').2
 rw [←e1] at k1
 rw [←e2] at k2
 have hεe:=Xdh b'
 have hε1:=Xjo b'
 have d1:=Xv0 (u.1+(Xb1 v s).1) b'
 have d2:=Yai (u.2+(Xb1 v s).2) b'
 have d5 : u.1+(Xb1 v s).1 - Rat.divInt 1 (2 ^ b')≤dnQ (u.1+(Xb1 v s).1) b':=by
  refine W1v ?_ (Xaw b')
  grind
 have d6 : upQ (u.2+(Xb1 v s).2) b'≤u.2+(Xb1 v s).2+Rat.divInt 1 (2 ^ b'):=by
  refine W1v ?_ (Xaw b')
  grind
 have e3 : pw (m+j+2)=2*(pw m*pw (j+1)):=by rw [←Xlt,←Xch];congr 1
 have e4 : pw m+1≤pw m*pw (j+1):=by
  have h1:=Xgh m
  have h3:=Xgh j
  have h2:=W2v (show 2≤pw (j+1) by rw [Xch];grind) (W2g (Xaw m))
  grind
 have m1:=mu.1
 have m2:=mu.2
 refine ⟨?_,?_⟩
 · show -pw (m+j+2)≤dnQ (u.1+(Xb1 v s).1) b'
   rw [e3];grind
 · show upQ (u.2+(Xb1 v s).2) b'≤pw (m+j+2)
   rw [e3];grind
theorem Ycr {u v r s : Rat × Rat} {b b' m : Nat} (mu : Mg u m) (mv : Mg v m) (mr : Mg r m) (h0 : 0≤r.2) (hs1 : s.1≤s.2) (hv1 : v.1≤v.2) (R : RtOf r b s) : Mg (rnd (Xk6 u (Xb1 v s)) b') (2*m+2):=by
 rw [show 2*m+2=m+m+2 by omega];exact Xo3 mu mv (R.mg mr h0) hs1 hv1
def mW (m : Nat) : Nat→Nat
 | 0=>m
 | k+1=>2*mW m k+2
def eW (m b : Nat) : Nat→Nat
 | 0=>2*b - 2
 | k+1=>eW m b k / 2 - (mW m k+3)
theorem Yiw (m b : Nat) : ∀ k,eW m b k≤2*b - 2
 | 0=>W0c _
 | k+1=>by have:=Yiw m b k;show eW m b k / 2 - (mW m k+3)≤_;omega
theorem Yht {m : Nat} {x : Rat} (h : Qs m x) : Mg (x,x) m:=by
 have h1:=h.n
 unfold Zs at h1
 have e:=Xkd x
 have hd : (1 : Rat)≤(x.den : Rat):=by
  have : ((1 : Int) : Rat)≤((x.den : Int) : Rat):=W3g.2 (by have:=x.den_pos;omega)
  exact this
 have h2 : ((x.num : Int) : Rat) ≤ pw m := W3g.2 (by have : (x.num.natAbs : Int) < ((2 ^ m : Nat) : Int) := by exact_mod_cast h1
                                                     have e2 : ((2 ^ m : Nat) : Int)=2 ^ m:=by simp
                                                     omega)
 have h3 : -pw m≤((x.num : Int) : Rat):=by
  have h4 : ((-(2 ^ m) : Int) : Rat) ≤ ((x.num : Int) : Rat) := W3g.2 (by have : (x.num.natAbs : Int) < ((2 ^ m : Nat) : Int) := by exact_mod_cast h1
                                                                          have e2 : ((2 ^ m : Nat) : Int)=2 ^ m:=by simp
                                                                          omega)
  rwa [Rat.intCast_neg] at h4
 have hp:=Xaw m
 refine ⟨?_,?_⟩
 · show -pw m≤x
   by_cases h0 : 0≤x
   · grind
   · have:=Xiy (show 0≤-x by grind) (show 0≤(x.den : Rat) - 1 by grind)
     grind
 · show x≤pw m
   by_cases h0 : 0≤x
   · have:=Xiy h0 (show 0≤(x.den : Rat) - 1 by grind)
     grind
   · grind
def MgL (m : Nat) (l : List Rat) : Prop:=∀ x∈l,Qs m x
def MgT (m : Nat) : (k : Nat)→Tw k→Prop
 | 0,_=>True
 | k+1,t=>MgT m k t.1∧MgL m (toL k t.2)
theorem Yax (r : Rat × Rat) (b : Nat) : RtOf r b (rts r b):=⟨rfl,by have:=Xed b;show _≤Xdg r.2 b+_;grind,W6i⟩
theorem Xvv {k : Nat} {t : Tw k} (h : Xbu k t) (a : El k) (b : Nat) : (enc k t a b).1≤(enc k t a b).2:=Ybl h (Xgk h a b)
theorem Xmh : ∀ {k : Nat} {t : Tw k} {a : El k} {m : Nat} (b : Nat),Xbu k t→MgT m k t→MgL m (toL k a)→Mg (enc k t a b) (mW m k)
 | 0,t,a,m,b,h,hT,ha=>Yht (ha _ (W0e.2 rfl))
 | k+1,t,a,m,b,h,hT,ha=>by
  have hu:=Xmh (a:=a.1) b h.1 hT.1 fun x hx=>ha x (W2r _ hx)
  have hv:=Xmh (a:=a.2) b h.1 hT.1 fun x hx=>ha x (W1p _ hx)
  have hr:=Xmh b h.1 hT.1 hT.2
  have h0 : 0≤(enc k t.1 t.2 b).2:=by
   have h0 : le k t.1 (rat k 0) t.2:=(Xhu h.1).2 (by rw [h.2];decide)
   exact (Xa2 h.1).1 (le_tr h.1 h0 (Xgk h.1 t.2 b).2)
  show Mg (if (∀ x∈toL k a.2,x=0) then enc k t.1 a.1 b else rnd (Xk6 (enc k t.1 a.1 b) (Xb1 (enc k t.1 a.2 b) (rts (enc k t.1 t.2 b) b))) b) (2*mW m k+2)
  split
  · exact hu.mono (by omega)
  · refine Ycr hu hv hr h0 ?_ (Xvv h.1 _ _) (Yax _ b)
    have hle:=Xvv h.1 t.2 b
    have hm : mx0 (enc k t.1 t.2 b).1≤(enc k t.1 t.2 b).2:=by unfold mx0;split <;> assumption
    have:=Xhg (b:=b) (Xer _) hm
    have:=Xed b
    show Xdg (mx0 (enc k t.1 t.2 b).1) b≤Xdg (enc k t.1 t.2 b).2 b+Rat.divInt 1 (2 ^ b)
    grind
theorem Xqt : ∀ {k : Nat} {t : Tw k} {a : El k} {m b : Nat},Xbu k t→MgT m k t→MgL m (toL k a)→0<eW m b k→Wid (enc k t a b) (eW m b k)
 | 0,t,a,m,b,h,hT,ha,he=>⟨W6i,(fun (x : Rat)=>(by grind : (x - x)*pw (eW m b 0)≤1)) a⟩
 | k+1,t,a,m,b,h,hT,ha,he=>by
  have he' : 0<eW m b k / 2 - (mW m k+3):=he
  have hle:=Yiw m b k
  have hu:=Xqt (a:=a.1) (m:=m) (b:=b) h.1 hT.1 (fun x hx=>ha x (W2r _ hx)) (by omega)
  have hv:=Xqt (a:=a.2) (m:=m) (b:=b) h.1 hT.1 (fun x hx=>ha x (W1p _ hx)) (by omega)
  have hr:=Xqt (m:=m) (b:=b) h.1 hT.1 hT.2 (by omega)
  have mv:=Xmh (a:=a.2) b h.1 hT.1 fun x hx=>ha x (W1p _ hx)
  have mr:=Xmh b h.1 hT.1 hT.2
  have h0 : 0≤(enc k t.1 t.2 b).2:=by
   have h0 : le k t.1 (rat k 0) t.2:=(Xhu h.1).2 (by rw [h.2];decide)
   exact (Xa2 h.1).1 (le_tr h.1 h0 (Xgk h.1 t.2 b).2)
  show Wid (if (∀ x∈toL k a.2,x=0) then enc k t.1 a.1 b else rnd (Xk6 (enc k t.1 a.1 b) (Xb1 (enc k t.1 a.2 b) (rts (enc k t.1 t.2 b) b))) b) (eW m b k / 2 - (mW m k+3))
  split
  · exact hu.mono (by omega)
  · exact Ycp hu hv hr mv mr h0 (Yax _ b) (by omega) (W0c _) (by omega)
end
section
theorem Xn9 {s b b' : Nat} (h : b≤b') : ∀ k,eB s b k≤eB s b' k
 | 0=>W0c _
 | k+1=>by have:=Xn9 (s:=s) h k;show 3*eB s b k+4*b+6≤3*eB s b' k+4*b'+6;omega
theorem Ykn {x y : Rat} {b : Nat} : Xgu (y - x) (Rat.divInt 1 (2 ^ b))≤0↔(y - x)*pw b≤1:=by
 rw [Xoe]
 have h:=Xdh b
 constructor
 · intro h1
   have:=W2k (show y - x≤Rat.divInt 1 (2 ^ b) by grind) (W2g (Xaw b))
   rwa [h] at this
 · intro h1 h2
   have:=W4c (show 0<y - x - Rat.divInt 1 (2 ^ b) by grind) (Xaw b)
   grind
def Xa7 (k : Nat) (t : Tw k) (a : El k) (z : Int) : Prop:=le k t (rat k (z : Rat)) a∧sgn k t (add k a (neg k (rat k ((z+1 : Int) : Rat))))=-1
theorem Xqe {k : Nat} {t : Tw k} (h : Xbu k t) {a b : El k} : sgn k t (add k a (neg k b))=-1↔¬ le k t b a:=by
 unfold le
 have:=(Xas h).tri (add k a (neg k b))
 omega
theorem Xa7.uniq {k : Nat} {t : Tw k} {a : El k} {z z' : Int} (h : Xbu k t) (i : Xa7 k t a z) (j : Xa7 k t a z') : z=z':=by
 have key : ∀ z z',Xa7 k t a z→Xa7 k t a z'→z≤z':=by
  intro z z' i j
  by_cases hz : z≤z'
  · exact hz
  · exact absurd (le_tr h ((Xa2 h).2 (W3g.2 (show z'+1≤z by omega))) i.1) ((Xqe h).1 j.2)
 have:=key _ _ i j
 have:=key _ _ j i
 omega
theorem Xqo {k : Nat} {t : Tw k} {a : El k} {x y : Rat} (h : Xbu k t) (i : inI k t a x y) (hw : Wid (x,y) 1) : (sgn k t (add k a (neg k (rat k (y.floor : Rat))))<0→Xa7 k t a (y.floor - 1))∧(¬ sgn k t (add k a (neg k (rat k (y.floor : Rat))))<0→Xa7 k t a y.floor):=by
 have h1:=@W7l y
 have h2:=@Rat.lt_floor y
 have h3 : (y - x)*2≤1:=hw.2
 have e1 : ((1 : Int) : Rat)=1:=rfl
 have hup : sgn k t (add k a (neg k (rat k ((y.floor+1 : Int) : Rat))))=-1:=by
  rw [Xqe h]
  intro hl
  have:=(Xa2 h).1 (le_tr h hl i.2)
  rw [W4y,e1] at this
  grind
 refine ⟨fun hn=>⟨le_tr h ((Xa2 h).2 ?_) i.1,?_⟩,fun hn=>⟨?_,hup⟩⟩
 · rw [Rat.intCast_sub,e1]
   grind
 · rw [show y.floor - 1+1=y.floor by omega]
   have:=(Xas h).tri (add k a (neg k (rat k (y.floor : Rat))))
   omega
 · show 0≤_
   omega
noncomputable def rtb (p : Rat × Rat) (b : Nat) : Rat × Rat:=(Xdg (mx0 p.1) b,Xm5 p.2 b)
noncomputable def bx : (k : Nat)→Tw k→El k→Nat→Rat × Rat
 | 0=>fun _ (x : Rat) _=>(x,x)
 | k+1=>fun t a b=>rnd (Xk6 (bx k t.1 a.1 b) (Xb1 (bx k t.1 a.2 b) (rtb (bx k t.1 t.2 b) b))) (b+20)
theorem Xnd (x : Rat) (b : Nat) : Xm5 x b*pw b=((Xrm (sq2 x b) : Int) : Rat):=by
 unfold Xm5
 rw [W3b]
 have h:=Xaw b
 show ((Xrm (sq2 x b) : Int) : Rat) / pw b*pw b=_
 rw [W5g (by grind)]
theorem Xtb (x : Rat) : (Xrm x=rtF x∧x≤((rtF x : Int) : Rat)*((rtF x : Int) : Rat))∨Xrm x=rtF x+1:=by
 unfold Xrm
 split
 · exact .inr rfl
 · rename_i h
   rw [W4n] at h
   exact .inl ⟨rfl,by grind⟩
theorem Xlf (x : Rat) : ((rtF x : Int) : Rat)≤((Xrm x : Int) : Rat)∧((Xrm x : Int) : Rat)≤((rtF x : Int) : Rat)+1∧(0≤x→x≤((Xrm x : Int) : Rat)*((Xrm x : Int) : Rat)):=by
 have e1 : ((1 : Int) : Rat)=1:=rfl
 rcases Xtb x with ⟨h,h2⟩ | h
 · rw [h];exact ⟨W6i,by grind,fun _=>h2⟩
 · have e : ((Xrm x : Int) : Rat)=((rtF x : Int) : Rat)+1:=by
    rw [h,←e1,←W4y];congr 1
   rw [e]
   exact ⟨by grind,W6i,fun h0=>W2g (Xtt h0)⟩
theorem Xph (r : Rat × Rat) (b : Nat) : RtOf r b (rtb r b):=by
 have h:=Xlf (sq2 r.2 b)
 have hp:=Xaw b
 refine ⟨rfl,?_,?_⟩
 · refine W1v ?_ hp
   rw [Xev]
   show _≤Xm5 r.2 b*pw b
   rw [Xnd];exact h.1
 · refine W1v ?_ hp
   show Xm5 r.2 b*pw b≤_
   have e:=Xev r.2 b
   have e2:=Xdh b
   have e3:=Xnd r.2 b
   have h2:=h.2.1
   grind
theorem Xxt {x : Rat} {b : Nat} (h : 0≤x) : x≤Xm5 x b*Xm5 x b:=by
 have hp:=Xaw b
 have hpp:=W4c hp hp
 refine W1v ?_ hpp
 have h1:=(Xlf (sq2 x b)).2.2 (Xdx h)
 rw [←Xnd] at h1
 have h3 : sq2 x b=x*(pw b*pw b):=rfl
 rw [←h3]
 have h4 : Xm5 x b*Xm5 x b*(pw b*pw b)=Xm5 x b*pw b*(Xm5 x b*pw b):=by grind
 rw [h4];exact h1
theorem Yct {s : Nat} {x : Rat} (h : Qs s x) (h0 : 0≤x) (b : Nat) : Qs (s+(2*b+3)) (Xm5 x b):=by
 refine Qs.divInt ?_ (Zs.two (by omega)) (Xc8 b)
 have h1:=Xlm (Xlg (b:=b) h) (Xdx h0)
 rcases Xtb (sq2 x b) with ⟨e,_⟩ | e <;> rw [e]
 · exact h1.mono (by omega)
 · exact (h1.add (Zs.one (p:=1) (by decide))).mono (by omega)
theorem Ylf {x : Rat} {b : Nat} : Xdg (mx0 x) b*Xdg (mx0 x) b≤x∨Xdg (mx0 x) b=0:=by
 have h1:=Xhe (b:=b) (Xer x)
 by_cases h0 : x<0
 · right
   have e : mx0 x=0:=if_pos h0
   rw [e] at h1 ⊢
   have h2:=Xcv 0 b
   by_cases h3 : Xdg 0 b=0
   · exact h3
   · have:=W4c (show 0<Xdg 0 b by grind) (show 0<Xdg 0 b by grind)
     grind
 · left
   have e : mx0 x=x:=if_neg h0
   rw [e] at h1 ⊢
   exact h1
theorem Xhi {k : Nat} {t : Tw (k+1)} (h : Xbu (k+1) t) {x y : Rat} (i : inI k t.1 t.2 x y) : 0≤y:=by
 have h0 : le k t.1 (rat k 0) t.2:=(Xhu h.1).2 (by rw [h.2];decide)
 exact (Xa2 h.1).1 (le_tr h.1 h0 i.2)
theorem Ycs {k : Nat} {t : Tw (k+1)} (h : Xbu (k+1) t) {a : El (k+1)} {u v r s : Rat × Rat} {b b' : Nat} (iu : inI k t.1 a.1 u.1 u.2) (iv : inI k t.1 a.2 v.1 v.2) (ir : inI k t.1 t.2 r.1 r.2) (R : RtOf r b s) (hs : r.2≤s.2*s.2) :
 inI (k+1) t a (rnd (Xk6 u (Xb1 v s)) b').1 (rnd (Xk6 u (Xb1 v s)) b').2:=by
 have iu:=Xl5 (t:=t) h.1 iu
 have iv:=Xl5 (t:=t) h.1 iv
 have hr2:=Xhi h ir
 have h0 : 0≤s.1:=by rw [R.lo];exact Xcv _ _
 have h2 : 0≤s.2:=W4z (Xcv _ _) R.l
 have is:=Xu4 h ir (c:=s.1) (d:=s.2) h0 h2 (by rw [R.lo];exact Ylf) hs
 have im:=Xu5 h iv is h0 (Xf6 v s).1 (Xf6 v s).2.1 (Xf7 v s).2.2.1 (Xf7 v s).2.2.2
 have ia:=Xu6 h iu im
 rw [←Xqv a] at ia
 exact Xqj h ia (Xqx _ _) (Xsu _ _)
theorem Xig {k : Nat} {t : Tw (k+1)} {a : El (k+1)} {b : Nat} : bx (k+1) t a b=rnd (Xk6 (bx k t.1 a.1 b) (Xb1 (bx k t.1 a.2 b) (rtb (bx k t.1 t.2 b) b))) (b+20):=rfl
theorem Xgv : ∀ {k : Nat} {t : Tw k} (h : Xbu k t) (a : El k) (b : Nat),inI k t a (bx k t a b).1 (bx k t a b).2
 | 0,t,h,a,b=>⟨(Xas h).le_rf (Xay 0 t) a,(Xas h).le_rf (Xay 0 t) a⟩
 | k+1,t,h,a,b=>by
  have hu:=Xgv h.1 a.1 b
  have hv:=Xgv h.1 a.2 b
  have hr:=Xgv h.1 t.2 b
  have hs : (bx k t.1 t.2 b).2≤(rtb (bx k t.1 t.2 b) b).2*(rtb (bx k t.1 t.2 b) b).2:=Xxt (Xhi h hr)
  have R:=Xph (bx k t.1 t.2 b) b
  rw [Xig]
  generalize rtb (bx k t.1 t.2 b) b=s at *
  exact Ycs h hu hv hr R hs
theorem Yer {k : Nat} {t : Tw k} (h : Xbu k t) (a : El k) (b : Nat) : (bx k t a b).1≤(bx k t a b).2:=Ybl h (Xgv h a b)
theorem Ygz {r : Rat × Rat} {b : Nat} (h0 : 0≤r.2) (h : r.1≤r.2) : (rtb r b).1≤(rtb r b).2:=by
 have hm : mx0 r.1≤r.2:=by unfold mx0;split <;> assumption
 exact W4z (Xhg (b:=b) (Xer _) hm) (Xph r b).l
def bB (s b : Nat) : Nat→Nat
 | 0=>s
 | k+1=>3*bB s b k+3*b+30
theorem Xzs (s b : Nat) : ∀ k,s≤bB s b k
 | 0=>W0c _
 | k+1=>by have:=Xzs s b k;show s≤3*bB s b k+3*b+30;omega
theorem Yay {s b : Nat} {p : Rat × Rat} (h : Q2 s p) (h0 : 0≤p.2) (hs : 1≤s) : Q2 (s+2*b+3) (rtb p b) :=
 ⟨(Xhf (Xqa h.1 hs) (Xer _) b).mono (by omega),(Yct h.2 h0 b).mono (by omega)⟩
theorem Xmt : ∀ {k : Nat} {t : Tw k} {a : El k} {s b : Nat},Xbu k t→TS s k t→Sz s (toL k a)→1≤s→Q2 (bB s b k) (bx k t a b)
 | 0,t,a,s,b,h,hT,ha,hs=>⟨ha.qs (W0e.2 rfl),ha.qs (W0e.2 rfl)⟩
 | k+1,t,a,s,b,h,hT,ha,hs=>by
  have hu:=Xmt (b:=b) h.1 hT.1 (Sz.left (l:=toL k a.1) (m:=toL k a.2) ha) hs
  have hv:=Xmt (b:=b) h.1 hT.1 (Sz.right (l:=toL k a.1) (m:=toL k a.2) ha) hs
  have hr:=Xmt (b:=b) h.1 hT.1 hT.2 hs
  have hge:=Xzs s b k
  rw [Xig]
  exact (Ya2 (Xk1 hu (Xkf hv (Yay hr (Xhi h (Xgv h.1 t.2 b)) (by omega)))) (b+20)).mono (by show _≤3*bB s b k+3*b+30;omega)
theorem Xqc (p q : Rat × Rat) : (Xb1 p q).1≤(Xb1 p q).2:=W4z (Xf6 p q).1 (Xf7 p q).1
theorem Xoi {s b b' : Nat} (h : b≤b') : ∀ k,bB s b k≤bB s b' k
 | 0=>W0c _
 | k+1=>by have:=Xoi (s:=s) h k;show 3*bB s b k+3*b+30≤3*bB s b' k+3*b'+30;omega
theorem Xyv {k : Nat} {t : Tw k} {a : El k} {x y : Rat} (h : Xbu k t) (i : inI k t a x y) (hw : Wid (x,y) 1) : (0≤sgn k t (add k a (neg k (rat k ((x.floor+1 : Int) : Rat))))→Xa7 k t a (x.floor+1))∧(¬ 0≤sgn k t (add k a (neg k (rat k ((x.floor+1 : Int) : Rat))))→Xa7 k t a x.floor):=by
 have h1:=@W7l x
 have h2:=@Rat.lt_floor x
 have h3 : (y - x)*2≤1:=hw.2
 have e1 : ((1 : Int) : Rat)=1:=rfl
 refine ⟨fun hn=>⟨hn,?_⟩,fun hn=>⟨le_tr h ((Xa2 h).2 (W7l x)) i.1,?_⟩⟩
 · rw [Xqe h]
   intro hl
   have:=(Xa2 h).1 (le_tr h hl i.2)
   rw [W4y,W4y,e1] at this
   grind
 · have:=(Xas h).tri (add k a (neg k (rat k ((x.floor+1 : Int) : Rat))))
   omega
end
section
abbrev dI (p : Rat × Rat) : D:=.st (.pr (dq p.1) (dq p.2))
theorem Xxc {a b a' b' : D} {g : Hp} {K : Hpl} (h1 : a=a') (h2 : b=b') : Fit g K (.d (.st (.pr a b))) (.d (.st (.pr a' b'))):=.eq (by rw [h1,h2])
abbrev zq : AV:=.st (.pr (.st (.pr (.b false) .nil)) (.st (.pr (.b false) .nil)))
abbrev zI : AV:=.st (.pr zq zq)
theorem Xve {x : Rat} {r : List Rat} {s : Nat} (hx : ∀ y∈x::r,Qs s y) (hs : s+3≤4398046511104) (hn : r.length≤1000) : C0 381 [.d (dqs (x::r))] (·=.d (dI (Xm6 x r,Xm7 x r))):=by
 refine En Tryz.func381 fun _ _ _=>?_
 refine Dz rfl ?_
 refine Ix 0 rfl (u:=dq x) rfl ?_
 refine Ix 0 rfl (u:=dq x) rfl ?_
 refine Dp 1 (r.map dq) rfl rfl (by simp) rfl ?_
 refine Lo (fun (q : Nat × Rat × Rat)=>[(2,.ptr 2 0),(3,.ptr 3 0),(4,.ptr 4 0),(15,.d (dqs r)),(16,.d (.int .i64 (r.map dq).length)),(17,.d (.int .i64 q.1))]) (fun q=>[(2,.var zI),(3,.var (.d (dq q.2.1))),(4,.var (.d (dq q.2.2)))]) (fun q=>q.1≤r.length∧q.2.1=Xm6 x (r.take q.1)∧q.2.2=Xm7 x (r.take q.1)) (fun q=>r.length - q.1) (0,x,x) [] rfl ⟨W1c _,rfl,rfl⟩ (fun (k,lo,hi) ⟨hk,hlo,hhi⟩=>?_)
 simp only at hk hlo hhi
 have qlo : Qs s lo:=hlo ▸ Xnv (Xj5 hx k)
 have qhi : Qs s hi:=hhi ▸ Xnw (Xj5 hx k)
 refine By rfl (fun h=>?_) fun h=>?_
 · have h : (k : Int)<((r.map dq).length : Nat):=h
   rw [lq] at h
   obtain ⟨y,hy⟩:=qat (l:=r) (k:=k) (by omega)
   have qy : Qs s y:=hx y (W0x _ (W0r hy))
   have e : r.take (k+1)=r.take k++[y]:=by rw [W0z,hy];rfl
   have e1 : Xm6 x (r.take (k+1))=lo2 lo y:=by rw [e,Xlx,hlo]
   have e2 : Xm7 x (r.take (k+1))=hi2 hi y:=by rw [e,Xlz,hhi]
   have fin : ∀ lo' hi',lo'=lo2 lo y→hi'=hi2 hi y→k+1≤r.length∧lo'=Xm6 x (r.take (k+1))∧hi'=Xm7 x (r.take (k+1)):=fun lo' hi' a b=>⟨by omega,by rw [a,e1],by rw [b,e2]⟩
   refine Ix k rfl (mp hy) ?_
   refine Ce rfl (Xf4 qy qlo (by omega)) ?_
   refine By rfl (fun h1=>?_) fun h1=>?_
   · refine Ce rfl (Xf4 qy qhi (by omega)) ?_
     refine By rfl (fun h2=>?_) fun h2=>?_
     · refine Ar (k+1 : Nat) rfl ?_ (wr (show (k : Int)+1=((k+1 : Nat) : Int) by omega) (by simp only [inK];omega))
       exact Bk (k+1,y,y) [] rfl (fin y y (if_pos (Xwe.1 h1)).symm (if_pos (Yeo.1 h2)).symm) (by show r.length - (k+1)<r.length - k;omega)
     · refine Ar (k+1 : Nat) rfl ?_ (wr (show (k : Int)+1=((k+1 : Nat) : Int) by omega) (by simp only [inK];omega))
       exact Bk (k+1,y,hi) [] rfl (fin y hi (if_pos (Xwe.1 h1)).symm (if_neg fun h=>h2 (Yeo.2 h)).symm) (by show r.length - (k+1)<r.length - k;omega)
   · refine Ce rfl (Xf4 qy qhi (by omega)) ?_
     refine By rfl (fun h2=>?_) fun h2=>?_
     · refine Ar (k+1 : Nat) rfl ?_ (wr (show (k : Int)+1=((k+1 : Nat) : Int) by omega) (by simp only [inK];omega))
       exact Bk (k+1,lo,y) [] rfl (fin lo y (if_neg fun h=>h1 (Xwe.2 h)).symm (if_pos (Yeo.1 h2)).symm) (by show r.length - (k+1)<r.length - k;omega)
     · refine Ar (k+1 : Nat) rfl ?_ (wr (show (k : Int)+1=((k+1 : Nat) : Int) by omega) (by simp only [inK];omega))
       exact Bk (k+1,lo,hi) [] rfl (fin lo hi (if_neg fun h=>h1 (Xwe.2 h)).symm (if_neg fun h=>h2 (Yeo.2 h)).symm) (by show r.length - (k+1)<r.length - k;omega)
 · have h : ¬ (k : Int)<((r.map dq).length : Nat):=h
   rw [lq] at h
   rw [W0a (by omega)] at hlo hhi
   refine Ce rfl (Xa0 (z:=0) (by decide)) ?_
   refine Dw rfl ?_
   refine Ce rfl (Xd0 (y:=0) qlo qs0 (by omega)) ?_
   refine Ce rfl (Xd0 (y:=0) qhi qs0 (by omega)) ?_
   exact R1 rfl (Xxc (by rw [W5p,hlo]) (by rw [W5p,hhi]))
section
variable {p q : Rat × Rat} {s t : Nat}
theorem Xvc {x : Rat} (hx : Qs s x) (hs : s+3≤4398046511104) : C0 344 [.d (dq x)] (·=.d (dI (x,x))):=by
 have e1 : Xm6 x [x]=x:=by show lo2 x x=x;unfold lo2;split <;> rfl
 have e2 : Xm7 x [x]=x:=by show hi2 x x=x;unfold hi2;split <;> rfl
 have:=Xve (x:=x) (r:=[x]) (s:=s) (fun y hy=>by simp at hy;rw [hy];exact hx) hs (by simp)
 rw [e1,e2] at this
 refine En Tryz.func344 fun _ _ _=>?_
 refine Ce rfl this ?_
 exact R1 rfl (.rf rfl)
theorem Xu9 (hp : Q2 s p) (hs : 2*s+1≤4398046511104) : C0 301 [.d (dI p)] (·=.d (dq (p.2 - p.1))):=by
 refine En Tryz.func301 fun _ _ _=>?_
 refine Ce rfl (Yc8 hp.2 hp.1 (by omega)) ?_
 exact R1 rfl (.rf rfl)
theorem Yd2 (hp : Q2 s p) (hq : Q2 t q) (hs : s+t+1≤4398046511104) : C0 346 [.d (dI p),.d (dI q)] (·=.d (dI (Xk6 p q))):=by
 refine En Tryz.func346 fun _ _ _=>?_
 refine Dw rfl ?_
 refine Ce rfl (Xd0 hp.1 hq.1 (by omega)) ?_
 refine Ce rfl (Xd0 hp.2 hq.2 (by omega)) ?_
 exact R1 rfl (Xxc rfl rfl)
theorem Yd1 (hp : Q2 s p) (hq : Q2 t q) (hs : s+t+3≤4398046511104) : C0 347 [.d (dI p),.d (dI q)] (·=.d (dI (Xb1 p q))):=by
 have hh:=Xve (x:=p.1*q.1) (r:=[p.1*q.2,p.2*q.1,p.2*q.2]) (s:=s+t) (fun y hy=>by
  simp only [W1k,W5d,or_false] at hy
  rcases hy with rfl | rfl | rfl | rfl
  · exact hp.1.mul hq.1
  · exact hp.1.mul hq.2
  · exact hp.2.mul hq.1
  · exact hp.2.mul hq.2) hs (by simp)
 refine En Tryz.func347 fun _ _ _=>?_
 refine Dw rfl ?_
 refine Ce rfl (Xho hp.1 hq.1 (by omega)) ?_
 refine Ce rfl (Xho hp.1 hq.2 (by omega)) ?_
 refine Ce rfl (Xho hp.2 hq.1 (by omega)) ?_
 refine Ce rfl (Xho hp.2 hq.2 (by omega)) ?_
 refine Ce rfl hh ?_
 exact R1 rfl (.rf rfl)
end
theorem Ylv {n m r : Nat} (hr : n / m=r) (hm : 0<m) (hn : n<9223372036854775808) : arB .quo .i64 n m r:=show _∧_ from ⟨by omega,by
 rw [show Int.tdiv (n : Int) (m : Int)=((n / m : Nat) : Int) from rfl,hr]
 have:=W3u n m
 exact wI (by omega)⟩
theorem Xda {n : Nat} (hn : n≤8796093022200) : C0 299 [.d (.int .i64 n)] (·=.d (dz (2 ^ n : Int))):=by
 have e : (2 ^ n : Int)=((2 ^ n : Nat) : Int):=by simp
 refine En Tryz.func299 fun _ _ _=>?_
 refine Ar (n / 32 : Nat) rfl ?_ (Ylv (m:=32) rfl (by decide) (by omega))
 refine Ar (n / 32+1 : Nat) rfl ?_
 refine Mk (n / 32+1) rfl (by omega) ?_
 refine Ar (n / 32 : Nat) rfl ?_ (Ylv (m:=32) rfl (by decide) (by omega))
 refine Ar (n % 32 : Nat) rfl ?_ (show _∧_ from ⟨by decide,Xsy n 32⟩)
 refine Ar (2 ^ (n % 32) : Nat) rfl ?_ (Xgy (W1y _ (by decide)))
 refine Eo (n / 32) rfl (by omega) ?_
 refine Sto rfl (by simp) rfl ?_
 refine R1 rfl (.sd (.pd (.bd (by rw [e];exact (decide_eq_false (by have:=W5w (n:=2) (m:=n) (by decide);omega)).symm)) (.own rfl (by simp) ?_)))
 rw [e,W1h,Xoa,W1b,W0a (by simp),←ms,W2d]
 rfl
theorem Xbs (x : Rat) : (x.den : Int)≠0:=by have:=x.den_nz;omega
section
variable {x : Rat} {s b : Nat}
theorem Xia (hx : Qs s x) (hb : b≤1099511627776) (hs : s≤1099511627776) : C0 382 [.d (dq x),.d (.int .i64 b)] (·=.d (dq (dnQ x b))):=by
 have hp:=hx.mul (Xgs b)
 have h2 : Zs (b+1) (2 ^ b : Int):=Zs.two (W0c _)
 have hn2:=(hx.n.mul h2).len (by omega)
 have l1:=hx.n.len (by omega)
 have l2:=h2.len (by omega)
 have l3:=hx.d.len (by omega)
 have hm:=Make_ok (p:=s+b+1) (a:=(x*pw b).floor) (b:=2 ^ b) ((Zs.floor hp).mono (by omega)) (h2.mono (by omega)) (by omega) (Xc8 b)
 have hd:=DivMod_ok (a:=x.num*2 ^ b) (b:=x.den) (by omega) (by omega) (Xbs x)
 rw [Xkv] at hd
 refine En Tryz.func382 fun _ _ _=>?_
 refine Ce rfl (Xda (n:=b) (by omega)) ?_
 refine Dz rfl ?_
 refine Ce rfl (Mul_ok (by omega) (by omega)) ?_
 refine Ce rfl hd ?_
 refine Ce rfl hm ?_
 exact R1 rfl (.rf rfl)
theorem Ycf (hx : Qs s x) (hb : b≤1099511627776) (hs : s≤1099511627776) : C0 383 [.d (dq x),.d (.int .i64 b)] (·=.d (dq (upQ x b))):=by
 refine En Tryz.func383 fun _ _ _=>?_
 refine Ce rfl (Xj6 hx (by omega)) ?_
 refine Ce rfl (Xia hx.neg hb hs) ?_
 refine Ce rfl (Xj6 (Xqw hx.neg b) (by omega)) ?_
 exact R1 rfl (.rf rfl)
theorem Xx0 {p : Rat × Rat} (hp : Q2 s p) (hb : b≤1099511627776) (hs : s≤1099511627776) : C0 345 [.d (dI p),.d (.int .i64 b)] (·=.d (dI (rnd p b))):=by
 refine En Tryz.func345 fun _ _ _=>?_
 refine Dw rfl ?_
 refine Ce rfl (Xia hp.1 hb hs) ?_
 refine Ce rfl (Ycf hp.2 hb hs) ?_
 exact R1 rfl (Xxc rfl rfl)
theorem Xcq (hx : Qs s x) (hx0 : 0≤x) (hb : b≤1099511627776) (hs : s≤1099511627776) : C0 384 [.d (dq x),.d (.int .i64 b)] (·=.d (dq (Xdg x b))):=by
 have h2 : Zs (2*b+1) (2 ^ (2*b) : Int):=Zs.two (W0c _)
 have hn2:=(hx.n.mul h2).len (by omega)
 have qx:=Xlg (b:=b) hx
 have nx:=Xdx (b:=b) hx0
 have zx:=Xlm qx nx
 have fx:=Zs.floor qx
 rw [Xb0 nx] at fx
 have lx:=Xny (show (sq2 x b).floor.toNat<_ from fx)
 have l1:=hx.n.len (by omega)
 have l2:=h2.len (by omega)
 have l3:=hx.d.len (by omega)
 have hd:=DivMod_ok (a:=x.num*2 ^ (2*b)) (b:=x.den) (by omega) (by omega) (Xbs x)
 rw [Xxs b hx0] at hd
 refine En Tryz.func384 fun _ _ _=>?_
 refine Dz rfl ?_
 refine Ar (2*b : Nat) rfl ?_
 refine Ce rfl (Xda (n:=2*b) (by omega)) ?_
 refine Ce rfl (Mul_ok (by omega) (by omega)) ?_
 refine Ce rfl hd ?_
 refine Ce rfl (Sqrt_ok (a:=(sq2 x b).floor.toNat) (by omega)) ?_
 refine Dz rfl ?_
 refine Ce rfl (Xda (n:=b) (by omega)) ?_
 refine Ce rfl (Make_ok (p:=s+(2*b+2)) (a:=(rtF (sq2 x b) : Int)) (b:=2 ^ b) zx (Zs.two (by omega)) (by omega) (Xc8 b)) ?_
 exact R1 rfl (.rf rfl)
theorem Xx2 {p : Rat × Rat} (hp : Q2 s p) (hp0 : 0≤p.2) (hb : b≤1099511627776) (hs1 : 1≤s) (hs : s≤1099511627776) : C0 348 [.d (dI p),.d (.int .i64 b)] (·=.d (dI (rts p b))):=by
 have hm:=Xqa hp.1 hs1
 have hmk:=Make_ok (p:=b+1) (a:=1) (b:=2 ^ b) (Zs.one (by omega)) (Zs.two (W0c _)) (by omega) (Xc8 b)
 refine En Tryz.func348 fun _ _ _=>?_
 refine Ce rfl (Xff hp.1 (by omega)) ?_
 refine By rfl (fun h=>?_) fun h=>?_
 · have e : mx0 p.1=0:=if_pos (Yi7.1 h)
   rw [e] at hm
   refine Ce rfl (Xa0 (z:=0) (by decide)) ?_
   refine Ce rfl (FromInt_ok (z:=1) (by decide)) ?_
   refine Ce rfl (Xda (n:=b) (by omega)) ?_
   refine Ce rfl hmk ?_
   refine Dw rfl ?_
   refine Ce rfl (Xcq (x:=0) hm W6i hb hs) ?_
   refine Ce rfl (Xcq hp.2 hp0 hb hs) ?_
   refine Ce rfl (Xd0 (Xhf hp.2 hp0 b) (Xjn b) (by omega)) ?_
   exact R1 rfl (Xxc (by show dq _=dq (Xdg (mx0 p.1) b);rw [e]) rfl)
 · have e : mx0 p.1=p.1:=if_neg (fun e=>h (Yi7.2 e))
   refine Ce rfl (FromInt_ok (z:=1) (by decide)) ?_
   refine Ce rfl (Xda (n:=b) (by omega)) ?_
   refine Ce rfl hmk ?_
   refine Dw rfl ?_
   refine Ce rfl (Xcq hp.1 (by rw [←e];exact Xer _) hb hs) ?_
   refine Ce rfl (Xcq hp.2 hp0 hb hs) ?_
   refine Ce rfl (Xd0 (Xhf hp.2 hp0 b) (Xjn b) (by omega)) ?_
   exact R1 rfl (Xxc (by show dq _=dq (Xdg (mx0 p.1) b);rw [e]) rfl)
end
theorem Xry {k : Nat} : ∀ {s b : Nat} {t : Tw k} {a : Tow.El k},Xbu k t→TS s k t→Sz s (toL k a)→1≤s→k≤16→eB s b k≤274877906944→b≤274877906944→C0 300 [.d (dt t),.d (de a),.d (.int .i64 b)] (·=.d (dI (enc k t a b))):=by
 induction k with
 | zero =>
  intro s b t a hR hT ha hs1 hk hs hb
  have hs : s≤274877906944:=hs
  have key : ∀ y : Rat,Qs s y→C0 300 [.d (dts []),.d (dqs [y]),.d (.int .i64 b)] (·=.d (dI (y,y))):=fun y hy=>by
   refine En Tryz.func300 fun _ _ _=>?_
   refine Yes rfl rfl ?_
   refine Ix 0 rfl (u:=dq y) rfl ?_
   refine Ce rfl (Xvc hy (by omega)) ?_
   exact R1 rfl (.rf rfl)
  exact key a (ha.qs (W0e.2 rfl))
 | succ k ih =>
  intro s b t a hR hT ha hs1 hk hs hb
  have hx : Sz s (toL k a.1):=Sz.left ha
  have hy : Sz s (toL k a.2):=Sz.right ha
  have hge:=Xza s b k
  have hs' : 3*eB s b k+4*b+6≤274877906944:=hs
  have qu:=Xh7 (b:=b) hR.1 hT.1 hx hs1
  have qv:=Xh7 (b:=b) hR.1 hT.1 hy hs1
  have qr:=Xh7 (b:=b) hR.1 hT.1 hT.2 hs1
  have hhi:=Ybv hR b
  have qs:=Yaw (b:=b) qr hhi (by omega)
  have qm:=Xkf qv qs
  have qa:=Xk1 qu qm
  have hlen:=Xab k
  have hp:=p16 hk
  refine En Tryz.func300 fun _ _ _=>?_
  refine No rfl (by show ¬ ((((toT k t.1++[toL k t.2]).map dqs).length : Nat) : Int)=0;rw [twL];omega) ?_
  refine Ar k rfl ?_ (tw1 t (by omega))
  refine Ar (2 ^ k : Nat) rfl ?_ (hvq a (by omega))
  refine Tk k ((toT k t.1).map dqs) rfl rfl (Xgq t) (twT t) ?_
  refine Tk (2 ^ k) ((toL k a.1).map dq) rfl rfl (Xb7 a) (hvT a) ?_
  refine Ce rfl (ih hR.1 hT.1 hx hs1 (by omega) (by omega) hb) ?_
  refine Dp (2 ^ k) ((toL k a.2).map dq) rfl rfl (Xb7 a) (hvD a) ?_
  refine Ce rfl (Xee (l:=toL k a.2) hy.ps (by omega) (by rw [hlen];have:=p16 (show k≤16 by omega);omega)) ?_
  refine By rfl (fun h=>?_) fun h=>?_
  · have he : enc (k+1) t a b=enc k t.1 a.1 b:=if_pos h
    exact R1 rfl (by rw [he];exact .rf rfl)
  · have he : enc (k+1) t a b=rnd (Xk6 (enc k t.1 a.1 b) (Xb1 (enc k t.1 a.2 b) (rts (enc k t.1 t.2 b) b))) b:=if_neg h
    refine Dz rfl ?_
    refine Dp (2 ^ k) ((toL k a.2).map dq) rfl rfl (Xb7 a) (hvD a) ?_
    refine Ce rfl (ih hR.1 hT.1 hy hs1 (by omega) (by omega) hb) ?_
    refine Ix k rfl (twU t) ?_
    refine Ce rfl (ih hR.1 hT.1 hT.2 hs1 (by omega) (by omega) hb) ?_
    refine Dw rfl ?_
    refine Ce rfl (Xx2 qr hhi (by omega) (by omega) (by omega)) ?_
    refine Ce rfl (Yd1 qv qs (by omega)) ?_
    refine Ce rfl (Yd2 qu qm (by omega)) ?_
    refine Ce rfl (Xx0 qa (by omega) (by omega)) ?_
    rw [he]
    exact R1 rfl (.rf rfl)
theorem Xsc {k : Nat} {t : Tw k} {a : Tow.El k} {bits P s : Nat} (hR : Xbu k t) (hw : ∀ b,P≤b→Wid (enc k t a b) bits) (hT : TS s k t) (ha : Sz s (toL k a)) (hs1 : 1≤s) (hk : k≤16) (hv : vB s k s≤4398046511104) (hb : bits≤1024) (hP : P≤1000000000) (he : eB s (2*(P+bits+16)) k≤274877906944) :
 C0 223 [.d (dt t),.d (de a),.d (.int .i64 bits)] fun v=>∃ p : Rat × Rat,v=.d (dI p)∧inI k t a p.1 p.2∧Wid p bits∧Q2 (eB s (2*(P+bits+16)) k) p:=by
 have hsb : s≤4398046511104:=W0h (Xc6 k s) hv
 obtain ⟨B,hB⟩ : ∃ B,B=eB s (2*(P+bits+16)) k:=⟨_,rfl⟩
 rw [←hB] at he ⊢
 have hq : ∀ b,b≤2*(P+bits+16)→Q2 B (enc k t a b):=fun b hb=>(Xh7 hR hT ha hs1).mono (by rw [hB];exact Xn9 hb k)
 refine En Tryz.func223 fun _ _ _=>?_
 refine No rfl (by omega) ?_
 refine No rfl (by omega) ?_
 refine Ce rfl (Xn5 (l:=[toL k a]) (s:=s) hT hR hk hv hsb (fun x hx=>⟨a,W0e.1 hx,ha⟩) (by simp) hsb) ?_
 refine No rfl (by simp) ?_
 refine Ce rfl (FromInt_ok (z:=1) (by decide)) ?_
 refine Ce rfl (Xda (n:=bits) (by omega)) ?_
 refine Ce rfl (Make_ok (p:=bits+1) (a:=1) (b:=2 ^ bits) (Zs.one (by omega)) (Zs.two (W0c _)) (by omega) (Xc8 bits)) ?_
 refine Ar (bits+16 : Nat) rfl ?_
 refine Lo (fun (g : Nat)=>[(0,.d (dt t)),(1,.d (de a)),(6,.ptr 6 0),(7,.ptr 7 0),(9,.d (.int .i64 g))]) (fun _=>[(6,.var (.st (.pr (.st (.pr (.st (.pr (.b false) .nil)) (.st (.pr (.b false) .nil)))) (.st (.pr (.st (.pr (.b false) .nil)) (.st (.pr (.b false) .nil))))))),(7,.var (.d (dq (Rat.divInt 1 (2 ^ bits)))))]) (fun g=>1≤g∧g≤2*(P+bits+16)) (fun g=>2*(P+bits+16) - g) (bits+16) [] rfl ⟨by omega,by omega⟩ (fun g ⟨hg1,hg⟩=>?_)
 have hge:=hq g hg
 have heB : eB s g k≤274877906944:=W0h (Xn9 hg k) (by omega)
 refine Ce rfl (Xry hR hT ha hs1 hk heB (by omega)) ?_
 refine Dw rfl ?_
 refine Ce rfl (Xu9 hge (by omega)) ?_
 refine Ce rfl (Xf4 (by rw [W5u];exact hge.2.add hge.1.neg) (Xjn bits) (by omega)) ?_
 refine By rfl (fun h=>?_) fun h=>?_
 · exact Rt rfl (.one (.rf rfl) rfl rfl) ⟨_,rfl,Xgk hR a g,⟨Xvv hR a g,Ykn.1 h⟩,hge⟩
 · have hgP : g<P:=by
    by_cases hgP : g<P
    · exact hgP
    · exact absurd (Ykn.2 (hw g (by omega)).2) h
   refine Ar (2*g : Nat) rfl ?_
   exact Bk (2*g) [] rfl ⟨by omega,by omega⟩ (by show 2*(P+bits+16) - 2*g<2*(P+bits+16) - g;omega)
end
section
theorem RtOf.mg2 {r s : Rat × Rat} {b j : Nat} (R : RtOf r b s) (hr : r.2≤pw (2*j)) (h0 : 0≤r.2) : 0≤s.1∧s.2≤pw (j+1):=by
 have h1:=Xhe (b:=b) h0
 have h2:=Xcv (mx0 r.1) b
 rw [←R.lo] at h2
 refine ⟨h2,?_⟩
 have h3 : Xdg r.2 b≤pw j:=Xqh (W2g (Xaw j)) (W4z h1 (by rw [←Ya5];exact hr))
 have h4:=R.h
 have h5:=Xjo b
 have h6:=Xgh j
 rw [Xch]
 grind
def mE (m : Nat) : Nat→Nat→Nat
 | 0,M=>M
 | k+1,M=>mE m k M+(mE m k m+1) / 2+2
def eE (m b : Nat) : Nat→Nat→Nat
 | 0,_=>2*b - 2
 | k+1,M=>min (eE m b k M) (eE m b k m / 2) - (max (mE m k M) ((mE m k m+1) / 2)+3)
theorem Yix (m b : Nat) : ∀ k M,eE m b k M≤2*b - 2
 | 0,_=>W0c _
 | k+1,M=>by have:=Yix m b k M;show min (eE m b k M) (eE m b k m / 2) - (max (mE m k M) ((mE m k m+1) / 2)+3)≤_;omega
theorem Yjc {k : Nat} {t : Tw (k+1)} {m b : Nat} (h : Xbu (k+1) t) (hr : Mg (bx k t.1 t.2 b) (mE m k m)) : 0≤(rtb (bx k t.1 t.2 b) b).1∧(rtb (bx k t.1 t.2 b) b).2≤pw ((mE m k m+1) / 2+1) :=
 (Xph _ b).mg2 (W4z hr.2 (Xhp (by omega))) (Xhi h (Xgv h.1 t.2 b))
theorem Xmu : ∀ {k : Nat} {t : Tw k} {a : El k} {m M : Nat} (b : Nat),Xbu k t→MgT m k t→MgL M (toL k a)→Mg (bx k t a b) (mE m k M)
 | 0,t,a,m,M,b,h,hT,ha=>Yht (ha _ (W0e.2 rfl))
 | k+1,t,a,m,M,b,h,hT,ha=>by
  have hu:=Xmu (a:=a.1) (M:=M) b h.1 hT.1 fun x hx=>ha x (W2r _ hx)
  have hv:=Xmu (a:=a.2) (M:=M) b h.1 hT.1 fun x hx=>ha x (W1p _ hx)
  have hr:=Xmu (M:=m) b h.1 hT.1 hT.2
  have h0:=Xhi h (Xgv h.1 t.2 b)
  rw [Xig]
  exact Xo3 hu hv (Yjc h hr) (Ygz h0 (Yer h.1 _ _)) (Yer h.1 _ _)
theorem Xgm : ∀ {k : Nat} {t : Tw k} {a : El k} {m M b : Nat},Xbu k t→MgT m k t→MgL M (toL k a)→0<eE m b k M→Wid (bx k t a b) (eE m b k M)
 | 0,t,a,m,M,b,h,hT,ha,he=>⟨W6i,(fun (x : Rat)=>(by grind : (x - x)*pw (eE m b 0 M)≤1)) a⟩
 | k+1,t,a,m,M,b,h,hT,ha,he=>by
  have he' : 0<min (eE m b k M) (eE m b k m / 2) - (max (mE m k M) ((mE m k m+1) / 2)+3):=he
  have hle:=Yix m b k m
  have hu:=Xgm (a:=a.1) (m:=m) (M:=M) (b:=b) h.1 hT.1 (fun x hx=>ha x (W2r _ hx)) (by omega)
  have hv:=Xgm (a:=a.2) (m:=m) (M:=M) (b:=b) h.1 hT.1 (fun x hx=>ha x (W1p _ hx)) (by omega)
  have hr:=Xgm (m:=m) (M:=m) (b:=b) h.1 hT.1 hT.2 (by omega)
  have mv:=Xmu (a:=a.2) (M:=M) b h.1 hT.1 fun x hx=>ha x (W1p _ hx)
  have mr:=Xmu (M:=m) b h.1 hT.1 hT.2
  have ms:=Yjc h mr
  have h0:=Xhi h (Xgv h.1 t.2 b)
  rw [Xig]
  exact Xo2 (m:=max (mE m k M) ((mE m k m+1) / 2)) (hu.mono (by omega)) (hv.mono (by omega)) hr (by omega) (mv.mono (by omega)) ⟨ms.1,W4z ms.2 (Xhp (by omega))⟩ h0 (Xph _ b) (by omega) (by omega) (by omega)
theorem Yet {k : Nat} {t : Tw k} {a : El k} (h : Xbu k t) (hT : MgT 64 k t) (ha : MgL 300 (toL k a)) (hk : k≤3) : Wid (bx k t a 2048) 1:=by
 have hk : k=0∨k=1∨k=2∨k=3:=by omega
 rcases hk with rfl | rfl | rfl | rfl
 · exact (Xgm h hT ha (show 0<eE 64 2048 0 300 by decide)).mono (by decide)
 · exact (Xgm h hT ha (show 0<eE 64 2048 1 300 by decide)).mono (by decide)
 · exact (Xgm h hT ha (show 0<eE 64 2048 2 300 by decide)).mono (by decide)
 · exact (Xgm h hT ha (show 0<eE 64 2048 3 300 by decide)).mono (by decide)
theorem Xh8 {k : Nat} {t : Tw k} {a : El k} {m : Nat} (h : Xbu k t) (hT : MgT m k t) (ha : MgL m (toL k a)) (hk : k≤3) (hm : m≤10000) : ∀ b,1000000≤b→Wid (enc k t a b) 1:=fun b hb=>by
 have key : ∀ e,(0<e→Wid (enc k t a b) e)→1≤e→Wid (enc k t a b) 1:=fun e h1 h2=>(h1 (by omega)).mono h2
 refine key _ (fun he=>Xqt h hT ha he) ?_
 have hk : k=0∨k=1∨k=2∨k=3:=by omega
 rcases hk with rfl | rfl | rfl | rfl <;> simp only [eW,mW] <;> omega
end
section
theorem Zs.pow {q : Nat} {z : Int} (h : Zs q z) (n : Nat) : Zs (q*n+1) (z ^ n):=by
 unfold Zs at *
 rw [W5l]
 have h1 : z.natAbs ^ n≤(2 ^ q) ^ n:=W6k (W1z h) n
 rw [←W4b] at h1
 rw [W0s]
 have:=W0n (q*n)
 omega
theorem Zs.len2 {q : Nat} {z : Int} (h : Zs q z) (hq : q≤8000000000000) : (dig z.natAbs).length≤274877906944:=by
 have h1 : z.natAbs<4294967296 ^ (q / 32+1):=by
  rw [show 4294967296=2 ^ 32 from rfl,←W4b]
  exact W0p h (W0k (by decide) (by omega))
 have:=Xap h1
 omega
theorem Xyp {a : Int} (ha : (dig a.natAbs).length≤549755813888) : C0 227 [.d (dz a),.d (dz 1)] (·=.d (dz (a - 1))):=by
 have h1 : (dig (Int.natAbs (-1))).length≤549755813888:=W0h (Xap (n:=1) (k:=1) (by decide)) (by decide)
 have h:=Add_ok (a:=a) (b:=-1) ha h1
 have hc : C0 303 [.d (dz a),.d (.st (.pr (.bool (!decide ((1 : Int)<0))) (ws (dig (Int.natAbs 1)))))] (·=.d (dz (a - 1))):=h
 refine En Tryz.func227 fun _ _ _=>?_
 refine Ce rfl hc ?_
 exact R1 rfl (.rf rfl)
theorem Xt6 {x : Rat} {p : Nat} (hx : Qs p x) (hp : p≤4398046511104) : C0 222 [.d (dq x)] (·=.d (dz x.floor)):=by
 have h:=DivMod_ok (a:=x.num) (b:=x.den) (W0h (hx.n.len (by omega)) (by decide)) (W0h (hx.d.len (by omega)) (by decide)) (Xbs x)
 have e : x.num.fdiv x.den=x.floor:=by
  have:=Xkv x 0
  rw [show pw 0=1 from rfl,Rat.mul_one,W6u,W4u] at this
  exact this
 rw [e] at h
 refine En Tryz.func222 fun _ _ _=>?_
 refine Ce rfl h ?_
 exact R1 rfl (.rf rfl)
theorem Xvb {n : Nat} {z : Int} {q : Nat} (hz : Zs q z) (hn : n≤4096) (hq : q≤100000) : C0 66 [.d (dz z),.d (.int .i64 n)] (·=.tup (.pr (.d (dz (z ^ n))) (.d (.int .i64 0)))):=by
 refine En Tryz.func66 fun _ _ _=>?_
 refine No rfl (by omega) ?_
 refine No rfl (by omega) ?_
 refine Dw rfl ?_
 refine Ce rfl (FromInt_ok (z:=1) (by decide)) ?_
 refine Ce rfl (Norm_ok (W0h (hz.len (by omega)) (by decide))) ?_
 refine Lo (fun ((m,o,e) : Nat × Nat × Nat)=>[(1,.d (.int .i64 m)),(4,.ptr 4 0),(5,.d (.int .i64 0)),(6,.ptr 6 0),(7,.ptr 7 0)]) (fun (m,o,e)=>[(4,.var (.st (.pr (.b false) .nil))),(6,.var (.d (dz (z ^ o)))),(7,.var (.d (dz (z ^ e))))]) (fun (m,o,e)=>o+e*m=n∧e≤max n 1∧m≤n) (fun (m,_,_)=>m) (n,0,1) [] rfl ⟨by omega,by omega,W0c n⟩ ?_ (by exact ⟨rfl,by show Xsf _ [(4,Ob.var (AV.st (.pr (.b false) .nil))),(6,Ob.var (AV.d (dz (z ^ 0)))),(7,Ob.var (AV.d (dz (z ^ 1))))];rw [W6u,show z ^ 1=z by rw [Int.pow_succ,W6u,W3y]];rfl,rfl,rfl,rfl⟩)
 rintro ⟨m,o,e⟩ ⟨hm,he,hmn⟩
 have hsz : ∀ j,j≤4096→(dig (z ^ j).natAbs).length≤549755813888:=fun j hj=>by
  have:=Zs.pow hz j
  have hqj : q*j≤100000*4096:=W1t hq hj
  exact W0h (this.len (by omega)) (by decide)
 have ho : o≤4096:=by have:=W1c (e*m);omega
 have he4 : e≤4096:=by omega
 refine By rfl (fun h=>?_) fun h=>?_
 · have h : (m : Int) > 0:=h
   have hdm:=W2j m 2
   have hem : e*m=2*(e*(m / 2))+e*(m % 2):=by
    conv=>lhs;rw [←hdm,W0w]
    rw [W4i]
   have hq2 : arB .quo .i64 (m : Int) 2 ((m / 2 : Nat) : Int):=Ylv (m:=2) rfl (by decide) (by omega)
   have sqr : ∀ e : Nat,z ^ e*z ^ e=z ^ (e+e):=fun e=>(W6z ..).symm
   refine Ar (m % 2 : Nat) rfl ?_ (show _∧_ from ⟨by decide,Xsy m 2⟩)
   refine By rfl (fun h1=>?_) fun h1=>?_
   · have h1 : m % 2=1:=by omega
     rw [h1,W3q] at hem
     refine Ce rfl (Mul_ok (hsz o ho) (hsz e he4)) ?_
     rw [←W6z]
     refine Ar (m / 2 : Nat) rfl ?_ hq2
     refine By rfl (fun h2=>?_) fun h2=>?_
     · have he2 : e*1≤e*(m / 2):=W0m e (by omega)
       refine Ce rfl (Mul_ok (hsz e he4) (hsz e he4)) ?_
       rw [sqr]
       exact Bk (m / 2,o+e,e+e) [] rfl ⟨by rw [W1g];omega,by omega,by omega⟩ (by show m / 2<m;omega)
     · have h20 : m / 2=0:=by omega
       rw [h20] at hem
       exact Bk (m / 2,o+e,e) [] rfl ⟨by rw [h20];omega,he,by omega⟩ (by show m / 2<m;omega)
   · have h1 : m % 2=0:=by omega
     rw [h1,W2z] at hem
     refine Ar (m / 2 : Nat) rfl ?_ hq2
     have he2 : e*1≤e*(m / 2):=W0m e (by omega)
     refine Yes rfl (by omega) ?_
     refine Ce rfl (Mul_ok (hsz e he4) (hsz e he4)) ?_
     rw [sqr]
     exact Bk (m / 2,o,e+e) [] rfl ⟨by rw [W1g];omega,by omega,by omega⟩ (by show m / 2<m;omega)
 · have h : ¬ (m : Int) > 0:=h
   have hm0 : m=0:=by omega
   rw [hm0,W2z,W2n] at hm
   rw [hm]
   exact RTt rfl (.cons (.rf rfl) Xa3)
theorem Xtn {k : Nat} {t : Tw k} {a : Tow.El k} {P s : Nat} (hR : Xbu k t) (hw : ∀ b,P≤b→Wid (enc k t a b) 1) (hT : TS s k t) (ha : Sz s (toL k a)) (hs1 : 1≤s) (hk : k≤16) (hP : P≤1000000000) (he : eB s (2*(P+1+16)) k≤274877906944) (hv : vB s k (s+eB s (2*(P+1+16)) k+4)≤4398046511104) :
 C0 132 [.d (dt t),.d (de a)] fun v=>∃ z,v=.d (dz z)∧Xa7 k t a z∧(dig z.natAbs).length≤274877906944:=by
 have hsB:=W0h (Xc6 (r:=s) k _) hv
 obtain ⟨B,hB⟩ : ∃ B,B=eB s (2*(P+1+16)) k:=⟨_,rfl⟩
 have hvs : vB s k s≤4398046511104:=W0h (Xct (by omega)) hv
 have hE:=Xsc (bits:=1) hR hw hT ha hs1 hk hvs (by decide) hP he
 rw [←hB] at he hv hsB hE
 have hB1 : 1≤B:=by rw [hB];exact W0h hs1 (Xza ..)
 refine En Tryz.func132 fun _ _ _=>?_
 refine Ce rfl (Xn5 (l:=[toL k a]) (s:=s) hT hR hk hvs (by omega) (fun x hx=>⟨a,W0e.1 hx,ha⟩) (by simp) (by omega)) ?_
 refine No rfl (by simp) ?_
 refine Ca rfl hE fun v hv'=>?_
 obtain ⟨p,rfl,hin,hwd,hq⟩:=hv'
 have hz:=Zs.floor hq.2
 have hfl:=Xqo hR hin hwd
 have hl0:=Zs.len2 (z:=p.2.floor) hz (by omega)
 have hl1:=Zs.len2 (z:=p.2.floor - 1) (q:=B+1) (by unfold Zs at *;rw [W0s];omega) (by omega)
 have hmk:=Make_ok (p:=B) (a:=p.2.floor) (b:=1) hz (Zs.one (by omega)) (by omega) (by decide)
 rw [Xib] at hmk
 have qz : Qs B ((p.2.floor : Int) : Rat):=Qs.int hz (by omega)
 have hzr:=Sz.rat k qz
 refine Ce rfl (Xt6 hq.2 (by omega)) ?_
 refine Dw rfl ?_
 refine Ce rfl (FromInt_ok (z:=1) (by decide)) ?_
 refine Ce rfl hmk ?_
 refine Ce rfl (Xcg hT hk (by omega) qz (by omega)) ?_
 refine Ce rfl (Xju hT ha hzr hk (by omega) (by omega)) ?_
 refine Ce rfl (Xjl (s:=s+B+4) hT (by rw [Xat,Xb4];exact (ha.add hzr.neg).mono (by omega)) hk hv (by omega)) ?_
 refine By rfl (fun h=>?_) fun h=>?_
 · refine Dw rfl ?_
   refine Ce rfl (FromInt_ok (z:=1) (by decide)) ?_
   refine Ce rfl (Xyp (W0h (hz.len (by omega)) (by decide))) ?_
   exact Rt rfl (.one (.rf rfl) rfl rfl) ⟨_,rfl,hfl.1 h,hl1⟩
 · exact Rt rfl (.one (.rf rfl) rfl rfl) ⟨_,rfl,hfl.2 h,hl0⟩
end
end Go.Proofs.YtpgcfjpkilabfaaGreatDoor
namespace Go.Proofs.YtpgcfjpkilabfaaGreatDoor.P55
open Go Go.Vm Go.Num Go.Tow Go.Proofs.YtpgcfjpkilabfaaGreatDoor
theorem Yd0 {f : FuncId} {l : List Cv} (hl : l.length≤1000) (hf : ∀ c∈l,C0 f [.d (dC c)] (·=.b false)) : C0 112 [.d (Xes l),.d (fnD f)] (·=.d (.int .i64 (-1))):=by
 refine En Tryz.func112 fun _ _ _=>?_
 refine Lo (fun k : Nat=>[(0,.d (Xes l)),(1,.d (fnD f)),(7,.d (.int .i64 (l.map dC).length)),(8,.d (.int .i64 k))]) (fun _=>[]) (fun k=>k≤l.length) (fun k=>l.length - k) 0 [] rfl (W1c _) fun k hk=>?_
 refine By rfl (fun h=>?_) fun h=>?_ <;> simp only [lC] at h
 · obtain ⟨c,hc⟩ : ∃ c,l[k]?=some c:=⟨_,W0b (by omega)⟩
   refine Ix k rfl (cAt hc) ?_
   refine Ce rfl (hf c (W0r hc)) ?_
   refine No rfl nofun ?_
   refine Ar (k+1 : Nat) rfl ?_
   exact Bk (k+1) [] rfl (by omega) (by show l.length - (k+1)<l.length - k;omega)
 · exact R0
theorem Yen {f : FuncId} {l : List Cv} (hl : l.length≤1000) (hf : ∀ c∈l,C0 f [.d (dC c)] (·=.b false)) : C0 51 [.d (Xes l),.d (fnD f)] (·=.b false):=by
 refine En Tryz.func51 fun _ _ _=>?_
 refine Ce rfl (Yd0 hl hf) ?_
 exact R1 rfl (by exact (show dc ((-1 : Int) ≥ 0)=false from W4j.2 fun e=>absurd (Xan.1 e) (by decide)) ▸ .rf rfl)
theorem Xg1 {l : List Cv} {d : Int} (hd : 0≤d∧d≤20) (h0 : 0<l.length) (hl : l.length≤1000) (hv : ∀ c∈l,C0 53 [.d (dC c)] (·=.b true)) : C0 20 [.d (Xes l),.d (.int .i64 d)] (·=.b true):=by
 have hr : ∀ c∈l,C0 52 [.d (dC c)] (·=.b false):=fun c hc=>by
  refine En Tryz.func52 fun _ _ _=>?_
  refine Ce rfl (hv c hc) ?_
  exact R1 rfl (by exact (show (!true)=false from rfl) ▸ .rf rfl)
 refine En Tryz.func20 fun _ _ _=>?_
 refine Yes rfl (by omega) ?_
 refine Yes rfl (by omega) ?_
 refine Yes rfl (by rw [lC];omega) ?_
 refine Ce rfl (Yen hl hr) ?_
 exact R0
def qb (z : Int) (d : Nat) : Rat:=Rat.divInt z (10 ^ d)
abbrev Zb (z : Int) : Prop:=(dig z.natAbs).length≤274877906944
theorem Zb.zs {z : Int} (h : Zb z) : Zs (max (32*(dig z.natAbs).length) 200) z:=by
 have h1 : Zs (32*(dig z.natAbs).length) z:=by
  show z.natAbs<2 ^ _
  rw [W4b];exact Xcm _
 exact h1.mono (Nat.le_max_left ..)
theorem Zb.neg {z : Int} (h : Zb z) : Zb (-z):=by unfold Zb;rw [W3x];exact h
theorem Yly {a b : Int} : Xa1 a b<0↔a<b:=by rcases Xau a b with ⟨g1,g2⟩ | ⟨g1,g2⟩ | ⟨g1,g2⟩ <;> omega
theorem Xc9 {z : Int} {d : Nat} (hz : Zb z) (hd : d≤20) : C0 25 [.d (dz z),.d (.int .i64 d)] (·=.d (dq (qb z d))):=by
 refine En Tryz.func25 fun _ _ _=>?_
 refine Ce rfl (FromInt_ok (z:=10) (by decide)) ?_
 refine Ce rfl (Xvb (z:=10) (q:=4) (show (10 : Int).natAbs<2 ^ 4 by decide) (by omega) (by decide)) ?_
 have h10 : Zs (max (32*(dig z.natAbs).length) 200) (10 ^ d : Int):=by
  have h1 : (10 : Nat) ^ d≤10 ^ 20:=W0k (by decide) hd
  have h2 : Zs 200 (10 ^ d : Int):=by
   show ((10 : Int) ^ d).natAbs<2 ^ 200
   rw [W5l]
   exact W1r h1 (by decide)
  exact h2.mono (W7b ..)
 have h0 : (10 ^ d : Int)≠0:=by have:=W5w (n:=10) (m:=d) (by decide);omega
 refine Ce rfl (Make_ok hz.zs h10 (by have hz : _≤_:=hz;omega) h0) ?_
 exact R1 rfl (.rf rfl)
structure F4 where
 a : Int
 b : Int
 c : Int
 e : Int
def mn (x y : Int) : Int:=if y<x then y else x
structure O4 where
 a : Option Int
 b : Option Int
 c : Option Int
 e : Option Int
def nx (o : Option Int) (f : Int) : Option Int:=match o with
 | none=>some f
 | some g=>some (mn g f)
def O4.nx (o : O4) (f : F4) : O4:=⟨P55.nx o.a f.a,P55.nx o.b f.b,P55.nx o.c f.c,P55.nx o.e f.e⟩
def o40 : O4:=⟨none,none,none,none⟩
def lst (l : List F4) : O4:=l.foldl O4.nx o40
def f40 (f : F4) : O4:=⟨some f.a,some f.b,some f.c,some f.e⟩
theorem Xki (l : List F4) (f : F4) : lst (l++[f])=(lst l).nx f:=by simp [lst]
abbrev zIA : AV:=.st (.pr (.b false) .nil)
def ent : Option Int→AV
 | none=>zIA
 | some z=>.d (dz z)
def arA : O4→AV
 | ⟨some a,some b,some c,some e⟩=>.d (.st (.pr (dz a) (.pr (dz b) (.pr (dz c) (dz e)))))
 | o=>.st (.pr (ent o.a) (.pr (ent o.b) (.pr (ent o.c) (ent o.e))))
abbrev zRA : AV:=.st (.pr zIA zIA)
abbrev zBA : AV:=.st (.pr zRA (.pr zRA (.pr zRA zRA)))
structure PtF (d : Int) (p : Vn) (f : F4) : Prop where
 n : ∃ x y,C0 22 [.d (dN p.x)] (·=.d (dN x))∧C0 22 [.d (dN p.y)] (·=.d (dN y))∧C0 23 [.d (dN x),.d (.int .i64 d)] (·=.tup (.pr (.d (dz f.c)) (.d (.int .i64 0))))∧C0 23 [.d (dN y),.d (.int .i64 d)] (·=.tup (.pr (.d (dz f.e)) (.d (.int .i64 0))))
 x : C0 23 [.d (dN p.x),.d (.int .i64 d)] (·=.tup (.pr (.d (dz f.a)) (.d (.int .i64 0))))
 y : C0 23 [.d (dN p.y),.d (.int .i64 d)] (·=.tup (.pr (.d (dz f.b)) (.d (.int .i64 0))))
 z : Zb f.a∧Zb f.b∧Zb f.c∧Zb f.e
def CuF (d : Int) (c : Cv) (fs : List F4) : Prop:=∃ P : List Vn,C0 21 [.d (dC c)] (·=.tup (.pr (.d (dVs P)) (.d (.int .i64 0))))∧P.length=fs.length∧P.length≤100∧∀ (i : Nat) p f,P[i]?=some p→fs[i]?=some f→PtF d p f
theorem Xqk {a b : Int} (ha : Zb a) (hb : Zb b) : C0 24 [.d (dz a),.d (dz b)] (·=.d (.int .i64 (Xa1 a b))):=Cmp_ok (W0h ha (by decide)) (W0h hb (by decide))
def Yex (o : F4) (d : Nat) : D:=.st (.pr (dq (qb o.a d)) (.pr (dq (qb o.b d)) (.pr (dq (qb (-o.c) d)) (dq (qb (-o.e) d)))))
def ofO : Option F4→O4
 | none=>o40
 | some g=>f40 g
def nxF (o : Option F4) (f : F4) : F4:=match o with
 | none=>f
 | some g=>⟨mn g.a f.a,mn g.b f.b,mn g.c f.c,mn g.e f.e⟩
theorem Xix {o : Option F4} {f : F4} : (ofO o).nx f=f40 (nxF o f):=by cases o <;> rfl
def BdZ (f : F4) : Prop:=Zb f.a∧Zb f.b∧Zb f.c∧Zb f.e
theorem Xyj {x y : Int} (hx : Zb x) (hy : Zb y) : Zb (mn x y):=by unfold mn;split <;> assumption
theorem BdZ.nx {o : Option F4} {f : F4} (ho : ∀ g,o=some g→BdZ g) (hf : BdZ f) : BdZ (nxF o f):=by
 cases o with
 | none=>exact hf
 | some g =>
  have hg:=ho g rfl
  exact ⟨Xyj hg.1 hf.1,Xyj hg.2.1 hf.2.1,Xyj hg.2.2.1 hf.2.2.1,Xyj hg.2.2.2 hf.2.2.2⟩
def part (o : O4) (f : F4) : Nat→O4
 | 0=>o
 | 1=>⟨nx o.a f.a,o.b,o.c,o.e⟩
 | 2=>⟨nx o.a f.a,nx o.b f.b,o.c,o.e⟩
 | 3=>⟨nx o.a f.a,nx o.b f.b,nx o.c f.c,o.e⟩
 | _=>o.nx f
theorem Xkg {x y : Int} (h : y<x) : mn x y=y:=if_pos h
theorem Xkh {x y : Int} (h : ¬ y<x) : mn x y=x:=if_neg h
theorem Bounds_ok {l : List Cv} {Fs : List (List F4)} {d : Nat} {o : F4} (hd : d≤20) (h0 : 0<l.length) (hl : l.length≤1000) (hv : ∀ c∈l,C0 53 [.d (dC c)] (·=.b true)) (hF : Fs.length=l.length) (hC : ∀ (i : Nat) c fs,l[i]?=some c→Fs[i]?=some fs→CuF d c fs) (ho : lst Fs.flatten=f40 o) :
 C0 7 [.d (Xes l),.d (.int .i64 d)] (·=.tup (.pr (.d (Yex o d)) (.d (.int .i64 0)))):=by
 refine En Tryz.func7 fun _ _ _=>?_
 refine Ce rfl (Xg1 (by omega) h0 hl hv) ?_
 refine No rfl (fun h=>h rfl) ?_
 refine Lo (fun ((k,o) : Nat × Option F4)=>[(1,.d (.int .i64 d)),(4,.ptr 4 0),(6,.ptr 6 0),(7,.b o.isNone),(23,.d (Xes l)),(24,.d (.int .i64 (l.map dC).length)),(25,.d (.int .i64 k))]) (fun (_,o)=>[(4,.var zBA),(6,.var (arA (ofO o)))]) (fun (k,o)=>k≤l.length∧lst (Fs.take k).flatten=ofO o∧∀ g,o=some g→BdZ g) (fun (k,_)=>l.length - k) (0,none) [] rfl ⟨W1c _,rfl,nofun⟩ ?_
 rintro ⟨k,o1⟩ ⟨hk,ho1,hz1⟩
 have ho1 : lst (Fs.take k).flatten=ofO o1:=ho1
 refine By rfl (fun h=>?_) fun h=>?_
 · have h : (k : Int)<((l.map dC).length : Nat):=h
   rw [lC] at h
   obtain ⟨c,hc⟩ : ∃ c,l[k]?=some c:=⟨_,W0b (by omega)⟩
   obtain ⟨fs,hfs⟩ : ∃ fs,Fs[k]?=some fs:=⟨_,W0b (by omega)⟩
   obtain ⟨P,hP,hPl,hP1,hPf⟩:=hC k c fs hc hfs
   have hnext : (Fs.take (k+1)).flatten=(Fs.take k).flatten++fs:=by rw [W0z,hfs];simp
   refine Ix k rfl (cAt hc) ?_
   refine Ce rfl hP ?_
   refine No rfl (by decide) ?_
   refine Lo (fun ((j,o) : Nat × Option F4)=>[(1,.d (.int .i64 d)),(4,.ptr 4 0),(6,.ptr 6 0),(7,.b o.isNone),(23,.d (Xes l)),(24,.d (.int .i64 (l.map dC).length)),(25,.d (.int .i64 k)),(38,.d (dVs P)),(39,.d (.int .i64 (P.map dV).length)),(40,.d (.int .i64 j))]) (fun (_,o)=>[(4,.var zBA),(6,.var (arA (ofO o)))]) (fun (j,o)=>j≤fs.length∧lst ((Fs.take k).flatten++fs.take j)=ofO o∧∀ g,o=some g→BdZ g) (fun (j,_)=>fs.length - j) (0,o1) [] rfl ⟨W1c _,by simpa using ho1,hz1⟩ ?_ (by exact ⟨rfl,rfl,by cases o1 <;> rfl,rfl,rfl⟩)
   rintro ⟨j,o2⟩ ⟨hj,ho2,hz2⟩
   have ho2 : lst ((Fs.take k).flatten++fs.take j)=ofO o2:=ho2
   refine By rfl (fun h=>?_) fun h=>?_
   · have h : (j : Int)<((P.map dV).length : Nat):=h
     rw [W0i] at h
     obtain ⟨p,hp⟩ : ∃ p,P[j]?=some p:=⟨_,W0b (by omega)⟩
     obtain ⟨f,hf⟩ : ∃ f,fs[j]?=some f:=⟨_,W0b (by omega)⟩
     obtain ⟨⟨x',y',n1,n2,n3,n4⟩,m1,m2,m3⟩:=hPf j p f hp hf
     have hst : lst ((Fs.take k).flatten++fs.take (j+1))=ofO (some (nxF o2 f)):=by
      rw [W0z,hf,←W3c,Option.toList_some,Xki,ho2];exact Xix
     refine Ix j rfl (u:=dV p) (by rw [W1f,hp];rfl) ?_
     refine Dw rfl ?_
     refine Ce rfl n1 ?_
     refine Ce rfl n2 ?_
     refine Lo (fun ((i,_) : Nat × O4)=>[(1,.d (.int .i64 d)),(4,.ptr 4 0),(6,.ptr 6 0),(7,.b o2.isNone),(23,.d (Xes l)),(24,.d (.int .i64 (l.map dC).length)),(25,.d (.int .i64 k)),(38,.d (dVs P)),(39,.d (.int .i64 (P.map dV).length)),(40,.d (.int .i64 j)),(54,.lit 2 [dN p.x,dN p.y,dN x',dN y']),(55,.d (.int .i64 4)),(56,.d (.int .i64 i))]) (fun (_,c)=>[(4,.var zBA),(6,.var (arA c))]) (fun (i,c)=>i≤4∧c=part (ofO o2) f i) (fun (i,_)=>4 - i) (0,ofO o2) [] rfl ⟨by decide,rfl⟩ ?_ (by exact ⟨rfl,rfl,by cases o2 <;> rfl,rfl,rfl⟩)
     rintro ⟨i,c4⟩ ⟨hi,hc4⟩
     have hc4 : c4=part (ofO o2) f i:=hc4
     have hi : i=0∨i=1∨i=2∨i=3∨i=4:=by have hi : i≤4:=hi;omega
     rcases hi with rfl | rfl | rfl | rfl | rfl
     · obtain rfl : c4=part (ofO o2) f 0:=hc4
       refine Yes rfl (by decide) ?_
       refine Ix 0 rfl (u:=dN p.x) rfl ?_
       refine Ce rfl m1 ?_
       refine No rfl (by decide) ?_
       cases o2 with
       | none =>
        refine Dw rfl ?_
        refine Yes rfl rfl ?_
        refine Ia 0 rfl (by decide) ?_
        refine Ar (0+1 : Nat) rfl ?_
        exact Bk (0+1,part (ofO none) f (0+1)) [] rfl ⟨by decide,rfl⟩ (by show 4 - (0+1)<4 - 0;decide)
       | some g =>
        refine Dw rfl ?_
        refine No rfl nofun ?_
        refine Ia 0 rfl (by decide) ?_
        refine Ce rfl (Xqk (a:=f.a) (b:=g.a) m3.1 (hz2 g rfl).1) ?_
        refine By rfl (fun h1=>?_) fun h1=>?_
        · have h1 : f.a<g.a:=Yly.1 h1
          refine Ia 0 rfl (by decide) ?_
          refine Ar (0+1 : Nat) rfl ?_
          exact Bk (0+1,⟨some f.a,(ofO (some g)).b,(ofO (some g)).c,(ofO (some g)).e⟩) [] rfl ⟨by decide,by show _=part (f40 g) f 1;simp [part,ofO,f40,nx,O4.nx,Xkg h1]⟩ (by show 4 - (0+1)<4 - 0;decide)
        · have h1 : ¬ f.a<g.a:=fun e=>h1 (Yly.2 e)
          refine Ar (0+1 : Nat) rfl ?_
          exact Bk (0+1,part (ofO (some g)) f 0) [] rfl ⟨by decide,by show _=part (f40 g) f 1;simp [part,ofO,f40,nx,O4.nx,Xkh h1]⟩ (by show 4 - (0+1)<4 - 0;decide)
     · obtain rfl : c4=part (ofO o2) f 1:=hc4
       refine Yes rfl (by decide) ?_
       refine Ix 1 rfl (u:=dN p.y) rfl ?_
       refine Ce rfl m2 ?_
       refine No rfl (by decide) ?_
       cases o2 with
       | none =>
        refine Dw rfl ?_
        refine Yes rfl rfl ?_
        refine Ia 1 rfl (by decide) ?_
        refine Ar (1+1 : Nat) rfl ?_
        exact Bk (1+1,part (ofO none) f (1+1)) [] rfl ⟨by decide,rfl⟩ (by show 4 - (1+1)<4 - 1;decide)
       | some g =>
        refine Dw rfl ?_
        refine No rfl nofun ?_
        refine Ia 1 rfl (by decide) ?_
        refine Ce rfl (Xqk (a:=f.b) (b:=g.b) m3.2.1 (hz2 g rfl).2.1) ?_
        refine By rfl (fun h1=>?_) fun h1=>?_
        · have h1 : f.b<g.b:=Yly.1 h1
          refine Ia 1 rfl (by decide) ?_
          refine Ar (1+1 : Nat) rfl ?_
          exact Bk (1+1,⟨nx (ofO (some g)).a f.a,some f.b,(ofO (some g)).c,(ofO (some g)).e⟩) [] rfl ⟨by decide,by show _=part (f40 g) f 2;simp [part,ofO,f40,nx,O4.nx,Xkg h1]⟩ (by show 4 - (1+1)<4 - 1;decide)
        · have h1 : ¬ f.b<g.b:=fun e=>h1 (Yly.2 e)
          refine Ar (1+1 : Nat) rfl ?_
          exact Bk (1+1,part (ofO (some g)) f 1) [] rfl ⟨by decide,by show _=part (f40 g) f 2;simp [part,ofO,f40,nx,O4.nx,Xkh h1]⟩ (by show 4 - (1+1)<4 - 1;decide)
     · obtain rfl : c4=part (ofO o2) f 2:=hc4
       refine Yes rfl (by decide) ?_
       refine Ix 2 rfl (u:=dN x') rfl ?_
       refine Ce rfl n3 ?_
       refine No rfl (by decide) ?_
       cases o2 with
       | none =>
        refine Dw rfl ?_
        refine Yes rfl rfl ?_
        refine Ia 2 rfl (by decide) ?_
        refine Ar (2+1 : Nat) rfl ?_
        exact Bk (2+1,part (ofO none) f (2+1)) [] rfl ⟨by decide,rfl⟩ (by show 4 - (2+1)<4 - 2;decide)
       | some g =>
        refine Dw rfl ?_
        refine No rfl nofun ?_
        refine Ia 2 rfl (by decide) ?_
        refine Ce rfl (Xqk (a:=f.c) (b:=g.c) m3.2.2.1 (hz2 g rfl).2.2.1) ?_
        refine By rfl (fun h1=>?_) fun h1=>?_
        · have h1 : f.c<g.c:=Yly.1 h1
          refine Ia 2 rfl (by decide) ?_
          refine Ar (2+1 : Nat) rfl ?_
          exact Bk (2+1,⟨nx (ofO (some g)).a f.a,nx (ofO (some g)).b f.b,some f.c,(ofO (some g)).e⟩) [] rfl ⟨by decide,by show _=part (f40 g) f 3;simp [part,ofO,f40,nx,O4.nx,Xkg h1]⟩ (by show 4 - (2+1)<4 - 2;decide)
        · have h1 : ¬ f.c<g.c:=fun e=>h1 (Yly.2 e)
          refine Ar (2+1 : Nat) rfl ?_
          exact Bk (2+1,part (ofO (some g)) f 2) [] rfl ⟨by decide,by show _=part (f40 g) f 3;simp [part,ofO,f40,nx,O4.nx,Xkh h1]⟩ (by show 4 - (2+1)<4 - 2;decide)
     · obtain rfl : c4=part (ofO o2) f 3:=hc4
       refine Yes rfl (by decide) ?_
       refine Ix 3 rfl (u:=dN y') rfl ?_
       refine Ce rfl n4 ?_
       refine No rfl (by decide) ?_
       cases o2 with
       | none =>
        refine Dw rfl ?_
        refine Yes rfl rfl ?_
        refine Ia 3 rfl (by decide) ?_
        refine Ar (3+1 : Nat) rfl ?_
        exact Bk (3+1,part (ofO none) f (3+1)) [] rfl ⟨by decide,rfl⟩ (by show 4 - (3+1)<4 - 3;decide)
       | some g =>
        refine Dw rfl ?_
        refine No rfl nofun ?_
        refine Ia 3 rfl (by decide) ?_
        refine Ce rfl (Xqk (a:=f.e) (b:=g.e) m3.2.2.2 (hz2 g rfl).2.2.2) ?_
        refine By rfl (fun h1=>?_) fun h1=>?_
        · have h1 : f.e<g.e:=Yly.1 h1
          refine Ia 3 rfl (by decide) ?_
          refine Ar (3+1 : Nat) rfl ?_
          exact Bk (3+1,⟨nx (ofO (some g)).a f.a,nx (ofO (some g)).b f.b,nx (ofO (some g)).c f.c,some f.e⟩) [] rfl ⟨by decide,by show _=part (f40 g) f 4;simp [part,ofO,f40,nx,O4.nx,Xkg h1]⟩ (by show 4 - (3+1)<4 - 3;decide)
        · have h1 : ¬ f.e<g.e:=fun e=>h1 (Yly.2 e)
          refine Ar (3+1 : Nat) rfl ?_
          exact Bk (3+1,part (ofO (some g)) f 3) [] rfl ⟨by decide,by show _=part (f40 g) f 4;simp [part,ofO,f40,nx,O4.nx,Xkh h1]⟩ (by show 4 - (3+1)<4 - 3;decide)
     · obtain rfl : c4=(ofO o2).nx f:=hc4
       refine No rfl (by decide) ?_
       refine Ar (j+1 : Nat) rfl ?_
       exact Bk (j+1,some (nxF o2 f)) [] rfl ⟨by omega,hst,fun g hg=>by cases hg;exact BdZ.nx hz2 m3⟩ (by show fs.length - (j+1)<fs.length - j;omega) (by exact ⟨rfl,by rw [Xix];rfl,rfl,rfl,rfl⟩)
   · have h : ¬ (j : Int)<((P.map dV).length : Nat):=h
     rw [W0i] at h
     have hjf : fs.take j=fs:=W0a (by omega)
     refine Ar (k+1 : Nat) rfl ?_
     exact Bk (k+1,o2) [] rfl ⟨by omega,by rw [hnext,←hjf];exact ho2,hz2⟩ (by show l.length - (k+1)<l.length - k;omega) (by exact ⟨rfl,rfl,by cases o2 <;> rfl,rfl,rfl⟩)
 · have h : ¬ (k : Int)<((l.map dC).length : Nat):=h
   rw [lC] at h
   rw [W0a (by omega),ho] at ho1
   cases o1 with
   | none=>cases ho1
   | some g =>
    have hg : f40 o=f40 g:=ho1
    obtain rfl : o=g:=by cases o;cases g;simp only [f40,O4.mk.injEq,Option.some.injEq] at hg;obtain ⟨rfl,rfl,rfl,rfl⟩:=hg;rfl
    obtain ⟨z1,z2,z3,z4⟩:=hz1 o rfl
    refine Dw rfl ?_
    refine Ia 0 rfl (by decide) ?_
    refine Ce rfl (Xc9 z1 hd) ?_
    refine Ia 1 rfl (by decide) ?_
    refine Ce rfl (Xc9 z2 hd) ?_
    refine Ia 2 rfl (by decide) ?_
    refine Ce rfl (Neg_ok (z:=o.c) (W0h z3 (by decide))) ?_
    refine Ce rfl (Xc9 z3.neg hd) ?_
    refine Ia 3 rfl (by decide) ?_
    refine Ce rfl (Neg_ok (z:=o.e) (W0h z4 (by decide))) ?_
    refine Ce rfl (Xc9 z4.neg hd) ?_
    exact R0t
end Go.Proofs.YtpgcfjpkilabfaaGreatDoor.P55
namespace Go.Proofs.YtpgcfjpkilabfaaGreatDoor.P9
open Go Go.Vm Go.Num Go.Tow Go.Proofs.YtpgcfjpkilabfaaGreatDoor
abbrev nq (q : Rat) : Nm:=⟨0,(),q⟩
theorem Yhx {k : Nat} {q : Rat} : Lf (k:=0) (m:=k) q (rat k q):=by
 show toL k (rat k q)=[q]++_
 rw [Xcu];rfl
section
variable {r p s : Nat} {x : Nm} {q : Rat}
theorem Xzh (hr : TS r x.k x.t) (hk : x.k≤8) (hr2 : r≤4000000000) : C0 275 [.d (dNs [x,nq q])] (·=.tup (.pr (.d (dt x.t)) (.d (.int .i64 0)))):=by
 refine En Tryz.func275 fun _ _ _=>?_
 refine Nd 4 1 rfl ?_
 refine Lo (fun (s : Nat × (Σ m,Tw m))=>[(2,.nil),(3,.d (.int .i64 0)),(4,.d (dt s.2.2)),(9,.d (dNs [x,nq q])),(10,.d (.int .i64 2)),(11,.d (.int .i64 s.1))]) (fun _=>[]) (fun s=>(s.1=0∧s.2=⟨0,()⟩)∨(s.1=1∧s.2=⟨x.k,x.t⟩)∨(s.1=2∧s.2=⟨x.k,x.t⟩)) (fun s=>2 - s.1) (0,⟨0,()⟩) [] rfl (.inl ⟨rfl,rfl⟩) (fun (i,⟨m,T⟩) hI=>?_)
 simp only at hI
 rcases hI with ⟨rfl,e⟩ | ⟨rfl,e⟩ | ⟨rfl,e⟩
 · cases e
   refine Yes rfl (show ((0 : Nat) : Int)<2 by decide) ?_
   refine Ix 0 rfl (u:=dN x) rfl ?_
   refine Ce rfl (begins_ok (T:=[]) (U:=toT x.k x.t) (p:=1) (fun i r h=>by simp at h) (TS.pt hr) (by omega) (by decide)) ?_
   refine By rfl (fun h=>?_) fun h=>?_
   · obtain ⟨kx,tx,ax⟩:=x
     have h : []=toT kx tx:=by simpa using h
     obtain rfl : kx=0:=by have:=congrArg List.length h;rw [Xaa] at this;exact this.symm
     refine Ar (0+1 : Nat) rfl ?_
     exact Bk (1,⟨0,tx⟩) [] rfl (.inr (.inl ⟨rfl,rfl⟩)) (show 1<2 by decide)
   · refine Ce rfl (begins_ok (U:=[]) (q:=1) (TS.pt hr) (fun i r h=>by simp at h) (by omega) (by rw [Xaa];omega)) ?_
     refine Yes rfl (by simp) ?_
     refine Ar (0+1 : Nat) rfl ?_
     exact Bk (1,⟨x.k,x.t⟩) [] rfl (.inr (.inl ⟨rfl,rfl⟩)) (show 1<2 by decide)
 · cases e
   refine Yes rfl (show ((1 : Nat) : Int)<2 by decide) ?_
   refine Ix 1 rfl (u:=dN (nq q)) rfl ?_
   refine Ce rfl (begins_ok (T:=toT x.k x.t) (U:=[]) (q:=1) (TS.pt hr) (fun i r h=>by simp at h) (by omega) (by rw [Xaa];omega)) ?_
   refine Yes rfl (by simp) ?_
   refine Ar (1+1 : Nat) rfl ?_
   exact Bk (2,⟨x.k,x.t⟩) [] rfl (.inr (.inr ⟨rfl,rfl⟩)) (show 0<1 by decide)
 · cases e
   refine No rfl (show ¬ ((2 : Nat) : Int)<2 by decide) ?_
   exact R0t
theorem Yjy (hr : TS r x.k x.t) (hp : Sz p (toL x.k x.a)) (hq : Qs s q) (hk : x.k≤8) (hr2 : r≤4000000000) (hp2 : p≤4000000000) (hs2 : s<4000000000) : C0 197 [.d (dNs [x,nq q])] (·=.tup (.pr (.d (dNs [x,⟨x.k,x.t,rat x.k q⟩])) (.d (.int .i64 0)))):=by
 have hc:=Xzh (q:=q) hr hk hr2
 refine En Tryz.func197 fun _ _ _=>?_
 refine Ce rfl hc ?_
 refine No rfl (by decide) ?_
 refine Nl 6 6 2 rfl ?_
 refine Lo (fun (j : Nat)=>[(2,.nil),(3,.d (.int .i64 0)),(4,.d (dt x.t)),(6,.gr 6 2 (([x,⟨x.k,x.t,rat x.k q⟩].take j).map dN)),(20,.d (dNs [x,nq q])),(21,.d (.int .i64 2)),(22,.d (.int .i64 j))]) (fun j=>[(6,.tok (([x,⟨x.k,x.t,rat x.k q⟩].take j).map dN).length 2)])
  (fun j=>j≤2) (fun j=>2 - j) 0 [] rfl (W1c _) (fun j hj=>?_)
 have hj : j=0∨j=1∨j=2:=by omega
 rcases hj with rfl | rfl | rfl
 · refine Yes rfl (show ((0 : Nat) : Int)<2 by decide) ?_
   refine Ix 0 rfl (u:=dN x) rfl ?_
   refine Ce rfl (begins_ok (T:=toT x.k x.t) (U:=toT x.k x.t) (TS.pt hr) (TS.pt hr) (by omega) (by rw [Xaa];omega)) ?_
   refine Yes rfl (W2b ..) ?_
   refine Ce rfl (Xpw (T:=x.t) (Lf.rfl' x.a) (W0c _) (by omega)) ?_
   refine Ce rfl (detach_ok (x:=x) hr hp (by omega) (by omega) (by omega)) ?_
   refine ApG ([x].map dN) rfl (by simp) (by simp) ?_
   refine Ar (0+1 : Nat) rfl ?_
   exact Bk 1 [(6,90),(56,6)] rfl (show 1≤2 by decide) (show 2 - 1<2 - 0 by decide)
 · refine Yes rfl (show ((1 : Nat) : Int)<2 by decide) ?_
   refine Ix 1 rfl (u:=dN (nq q)) rfl ?_
   refine Ce rfl (begins_ok (T:=toT x.k x.t) (U:=[]) (q:=1) (TS.pt hr) (fun i r h=>by simp at h) (by omega) (by rw [Xaa];omega)) ?_
   refine Yes rfl (by simp) ?_
   refine Ce rfl (Xpw (k:=0) (T:=x.t) (Yhx (q:=q)) (W1c _) (by omega)) ?_
   refine Ce rfl (detach_ok (x:=⟨x.k,x.t,rat x.k q⟩) hr (Sz.rat x.k hq) (show _≤16 from by show x.k≤16;omega) (by omega) (by omega)) ?_
   refine ApG ([x,⟨x.k,x.t,rat x.k q⟩].map dN) rfl (by simp) (by simp) ?_
   refine Ar (1+1 : Nat) rfl ?_
   exact Bk 2 [(6,90),(56,6)] rfl (show 2≤2 by decide) (show 2 - 2<2 - 1 by decide)
 · refine No rfl (show ¬ ((2 : Nat) : Int)<2 by decide) ?_
   exact RTt rfl (.cons (.gr rfl) Xa3)
theorem Xmm {f : FuncId} {z : Tow.El x.k} (hf : C0 f [.d (dt x.t),.d (de x.a),.d (de (rat x.k q))] (·=.d (de z))) (hr : TS r x.k x.t) (hp : Sz p (toL x.k x.a)) (hq : Qs s q) (hk : x.k≤8) (hr2 : r≤4000000000) (hp2 : p≤4000000000) (hs2 : s<4000000000) : C0 204 [.d (dN x),.d (dN (nq q)),.d (fnD f)] (·=.tup (.pr (.d (dN ⟨x.k,x.t,z⟩)) (.d (.int .i64 0)))):=by
 refine En Tryz.func204 fun _ _ _=>?_
 refine Ce rfl (Yjy hr hp hq hk hr2 hp2 hs2) ?_
 refine No rfl (by simp) ?_
 refine Ix 0 rfl (u:=dN x) rfl ?_
 refine Dw rfl ?_
 refine Ix 0 rfl (u:=dN x) rfl ?_
 refine Ix 1 rfl (u:=dN ⟨x.k,x.t,rat x.k q⟩) rfl ?_
 refine Ce rfl hf ?_
 exact RTt rfl (.cons (.rf rfl) Xa3)
theorem Yml (hr : TS r x.k x.t) (hp : Sz p (toL x.k x.a)) (hq : Qs s q) (hk : x.k≤8) (hr2 : r≤4000000000) (hp2 : p≤2000000000) (hs2 : s<2000000000) : C0 118 [.d (dN x),.d (dN (nq q))] (·=.tup (.pr (.d (dN ⟨x.k,x.t,Tow.add x.k x.a (rat x.k q)⟩)) (.d (.int .i64 0)))):=by
 refine En Tryz.func118 fun _ _ _=>?_
 refine Ce rfl (Xmm (Xhd hr hp (Sz.rat x.k hq) (by omega) (by omega) (by omega)) hr hp hq hk hr2 (by omega) (by omega)) ?_
 exact R0t
theorem Ymh (hr : TS r x.k x.t) (hp : Sz p (toL x.k x.a)) (hq : Qs s q) (hk : x.k≤8) (hr2 : r≤4000000000) (hp2 : p≤2000000000) (hs2 : s<2000000000) (hc : cB r x.k≤1000000000) : C0 129 [.d (dN x),.d (dN (nq q))] (·=.tup (.pr (.d (dN ⟨x.k,x.t,Tow.mul x.k x.t x.a (rat x.k q)⟩)) (.d (.int .i64 0)))):=by
 refine En Tryz.func129 fun _ _ _=>?_
 refine Ce rfl (Xmm (Xdi hr hp (Sz.rat x.k hq) (by omega) (by omega) (by omega)) hr hp hq hk hr2 (by omega) (by omega)) ?_
 exact R0t
end
end Go.Proofs.YtpgcfjpkilabfaaGreatDoor.P9
namespace Go.Num
def isD (b : UInt8) : Bool:=decide (48≤b.toNat) && decide (b.toNat≤57)
theorem Ylj {b : UInt8} : isD b=true↔Xsi b:=by simp [isD,Xsi]
def z0 (l : List UInt8) : Bool:=l.all (· == 48)
def fr (ng : Bool) (a b : List UInt8) : Rat:=if ng then -(((Xxd (a++b) : Int) : Rat) / ((10 ^ b.length : Int) : Rat)) else ((Xxd (a++b) : Int) : Rat) / ((10 ^ b.length : Int) : Rat)
end Go.Num
namespace Go.Proofs.YtpgcfjpkilabfaaGreatDoor
open Go Go.Vm Go.Num
end Go.Proofs.YtpgcfjpkilabfaaGreatDoor
namespace Go.Num
open Go.Proofs.YtpgcfjpkilabfaaGreatDoor
section
end
section
theorem Xpv {k m d : Nat} (hd : d<10) (hm : m<10 ^ (k+1)) : pad k (dec m)++[UInt8.ofNat (48+d)]=pad (k+1) (dec (10*m+d)):=by
 by_cases h0 : m=0
 · subst h0
   rw [show 10*0+d=d by omega,Xdf hd,Xdf (show 0<10 by decide)]
   show List.replicate (k+1 - 1) 48++[UInt8.ofNat (48+0)]++[UInt8.ofNat (48+d)]=List.replicate (k+1+1 - 1) 48++[UInt8.ofNat (48+d)]
   rw [show k+1+1 - 1=k+1 - 1+1 by omega,W6h]
   rfl
 · have e : dec (10*m+d)=dec m++[UInt8.ofNat (48+d)]:=by
    rw [Xfp (show 10≤10*m+d by omega),show (10*m+d) / 10=m by omega,show (10*m+d) % 10=d by omega]
   rw [e]
   unfold pad
   rw [W0d,W6e,show k+1+1 - ((dec m).length+1)=k+1 - (dec m).length by omega,W3c]
theorem Xv6 : ∀ (k n : Nat),10 ^ (k+1)≤n→dec n=dec (n / 10 ^ (k+1))++pad k (dec (n % 10 ^ (k+1)))
 | 0,n,h=>by
  have h : 10≤n:=h
  rw [Xfp h]
  show _=dec (n / 10)++pad 0 (dec (n % 10))
  rw [Xdf (n:=n % 10) (W1y _ (by decide))]
  rfl
 | k+1,n,h=>by
  have e1 : 10 ^ (k+1+1)=10*10 ^ (k+1):=by rw [W0s];omega
  have hp : 0<10 ^ (k+1):=W7r (by decide)
  have h10 : 10≤n:=by omega
  have ih:=Xv6 k (n / 10) (by rw [W7e (by decide)];omega)
  have hm : n / 10 % 10 ^ (k+1)<10 ^ (k+1):=W1y _ hp
  rw [Xfp h10,ih,W3c,Xpv (W1y _ (by decide)) hm,W5y,←e1]
  congr 3
  have:=Nat.mod_mul (a:=10) (b:=10 ^ (k+1)) (x:=n)
  rw [e1,this];omega
def cks (n : Nat) : List Nat:=if h : n=0 then [] else n % 1000000000::cks (n / 1000000000)
termination_by n
decreasing_by omega
theorem Xem : cks 0=[]:=by rw [cks,dif_pos rfl]
theorem Xe4 {n : Nat} (h : n≠0) : cks n=n % 1000000000::cks (n / 1000000000):=by rw [cks,dif_neg h]
theorem Yi9 : ∀ (n c : Nat),c∈cks n→c<1000000000:=fun n=>by
 induction n using Nat.strongRecOn with
 | _ n ih =>
  intro c hc
  by_cases h : n=0
  · subst h;rw [Xem] at hc;cases hc
  · rw [Xe4 h,W1k] at hc
    rcases hc with rfl | hc
    · omega
    · exact ih _ (by omega) c hc
theorem Xwh : ∀ {k n : Nat},n<4294967296 ^ k→(cks n).length≤2*k
 | 0,n,h=>by
  have : n=0:=by simpa using h
  subst this;rw [Xem];exact W0c _
 | k+1,n,h=>by
  by_cases h0 : n=0
  · subst h0;rw [Xem];exact W1c _
  · rw [Xe4 h0]
    by_cases h1 : n / 1000000000=0
    · rw [h1,Xem];simp;omega
    · rw [Xe4 h1]
      have:=Xwh (k:=k) (n:=n / 1000000000 / 1000000000) (by
       rw [W0s] at h
       rw [W5y,W2l (by decide)]
       refine W0p h (W0m _ (by decide)))
      simp only [W0o];omega
def Xyf : List Nat→List UInt8
 | []=>[]
 | [c]=>dec c
 | c::e::l=>Xyf (e::l)++pad 8 (dec c)
theorem Xye : ∀ n,n≠0→Xyf (cks n)=dec n:=fun n=>by
 induction n using Nat.strongRecOn with
 | _ n ih =>
  intro h
  rw [Xe4 h]
  by_cases h2 : n / 1000000000=0
  · rw [h2,Xem]
    show dec (n % 1000000000)=_
    congr 1;omega
  · have:=ih (n / 1000000000) (by omega) h2
    rw [Xe4 h2] at this ⊢
    show Xyf (n / 1000000000 % 1000000000::cks (n / 1000000000 / 1000000000))++pad 8 (dec (n % 1000000000))=_
    rw [this]
    exact (Xv6 8 n (by show 1000000000≤n;omega)).symm
theorem Xt9 {c : Nat} {l : List Nat} (h : l≠[]) : Xyf (c::l)=Xyf l++pad 8 (dec c):=by
 cases l with
 | nil=>exact absurd rfl h
 | cons e l=>rfl
end
section
theorem Ynf {l : List UInt8} : l.all isD=true↔∀ b∈l,Xsi b:=by
 rw [W1m]
 exact ⟨fun h b hb=>Ylj.1 (h b hb),fun h b hb=>Ylj.2 (h b hb)⟩
theorem Yek : ∀ (k : Nat) (l : List UInt8),l.length=k+1→(∀ b∈l,Xsi b)→pad k (dec (Xxd l))=l:=fun k=>by
 induction k with
 | zero =>
  intro l hl hd
  match l,hl with
  | [x],_ =>
   have hx:=hd x (by simp)
   unfold Xsi at hx
   rw [Xzb,Xdf (by omega)]
   show [UInt8.ofNat (48+(x.toNat - 48))]=[x]
   rw [show 48+(x.toNat - 48)=x.toNat by omega];simp
 | succ k ih =>
  intro l hl hd
  obtain ⟨m,x,rfl⟩ : ∃ m x,l=m++[x]:=⟨l.dropLast,l.getLast (by intro e;rw [e] at hl;simp at hl),(List.dropLast_concat_getLast _).symm⟩
  have hm : m.length=k+1:=by simpa using hl
  have hdm : ∀ b∈m,Xsi b:=fun b hb=>hd b (by simp [hb])
  have hx:=hd x (by simp)
  unfold Xsi at hx
  have h1:=Yef hdm
  rw [hm] at h1
  rw [Xmi,←Xpv (by omega) h1,ih m hm hdm,show 48+(x.toNat - 48)=x.toNat by omega]
  simp
end
end Go.Num
namespace Go.Proofs.YtpgcfjpkilabfaaGreatDoor
open Go Go.Num Go.Tow
abbrev scl (k : Nat) (t : Tw k) (a : El k) (u h : Rat) : El k:=add k (mul k t a (rat k u)) (rat k h)
section
variable {k : Nat} {t : Tw k} {a : El k}
theorem Xlc {u : Rat} : toL k (mul k t a (rat k u))=(toL k a).map (u*·):=by rw [(Xay k t).mc,Xjs]
theorem Xly {m n : Nat} {u : Rat} (ha : MgL m (toL k a)) (hu : Qs n u) : MgL (n+m) (toL k (mul k t a (rat k u))):=fun x hx=>by
 rw [Xlc] at hx
 obtain ⟨y,hy,rfl⟩:=W3r.1 hx
 exact hu.mul (ha y hy)
theorem Xup {n : Nat} {h : Rat} (hh : Qs n h) (h1 : 1≤n) : MgL n (toL k (rat k h)):=fun x hx=>by
 rw [Xcu] at hx
 rcases W1k.1 hx with rfl | hx
 · exact hh
 · obtain rfl:=(W5t.1 hx).2
   exact Qs.int (z:=0) (by unfold Zs;exact W7r (by decide)) h1
theorem Xuq {m n : Nat} {b : El k} (ha : MgL m (toL k a)) (hb : MgL n (toL k b)) : MgL (m+n+1) (toL k (add k a b)):=fun x hx=>by
 rw [Xat] at hx
 obtain ⟨i,hi⟩:=W4d hx
 rw [W6f] at hi
 split at hi
 · rename_i y z hy hz
   cases hi
   exact (ha y (W0r hy)).add (hb z (W0r hz))
 · cases hi
end
end Go.Proofs.YtpgcfjpkilabfaaGreatDoor
namespace Go.Proofs.YtpgcfjpkilabfaaGreatDoor.R1
open Go Go.Vm Go.Num Go.Proofs.YtpgcfjpkilabfaaGreatDoor
end Go.Proofs.YtpgcfjpkilabfaaGreatDoor.R1
namespace Go.Proofs.YtpgcfjpkilabfaaGreatDoor.R11
open Go Go.Vm Go.Num Go.Proofs.YtpgcfjpkilabfaaGreatDoor
section
theorem Xsx {z : Int} (h : z<0) : tx z=45::dec z.natAbs:=by rw [tx,if_pos h];rfl
theorem Xsw {z : Int} (h : ¬ z<0) : tx z=dec z.natAbs:=by rw [tx,if_neg h];rfl
end
section
end
section
theorem p10 (n : Nat) : Zs (4*n+1) (10 ^ n : Int):=by
 have : (10 ^ n : Int)=((10 ^ n : Nat) : Int):=by simp
 rw [this]
 show 10 ^ n<2 ^ (4*n+1)
 have h1 : 10 ^ n≤16 ^ n:=W6k (by decide) n
 have h2 : 2 ^ (4*n+1)=16 ^ n*2:=by rw [W0s,W4b]
 have h3 : 0<16 ^ n:=W7r (by decide)
 omega
theorem di1 (n : Int) : Rat.divInt n 1=(n : Rat):=by
 rw [W3b]
 have : ((1 : Int) : Rat)=1:=rfl
 grind
def pw (b : Nat) : Rat:=((2 ^ b : Int) : Rat)
theorem Xfg {n : Nat} (hn : n≤400) : C0 158 [.d (.int .i64 n)] (·=.d (dq ((10 ^ n : Int) : Rat))):=by
 refine En Tryz.func158 fun _ _ _=>?_
 refine Ce rfl (R1.FromInt_ok (z:=10) (by decide)) ?_
 refine Ce rfl (R1.Pow_ok (z:=10) (q:=4) (by unfold Zs;decide) (by omega) (by decide)) ?_
 refine Dw rfl ?_
 refine Ce rfl (R1.FromInt_ok (z:=1) (by decide)) ?_
 refine Ce rfl (R2.Make_ok (p:=4*n+1) (p10 n) (Zs.one (by omega)) (by omega) (by decide)) ?_
 exact R1 rfl (.eq (by rw [di1]))
end
end Go.Proofs.YtpgcfjpkilabfaaGreatDoor.R11
namespace Go.Proofs.YtpgcfjpkilabfaaGreatDoor.P11
open Go Go.Vm Go.Num Go.Tow Go.Proofs.YtpgcfjpkilabfaaGreatDoor Go.Proofs.YtpgcfjpkilabfaaGreatDoor.P9 Go.Proofs.YtpgcfjpkilabfaaGreatDoor.R11
structure Pk (x : Nm) : Prop where
 k : x.k≤3
 re : Xbu x.k x.t
 t : TS 300 x.k x.t
 mt : MgT 64 x.k x.t
 ml : MgL 64 (toL x.k x.a)∨(x.k=0∧MgL 1700 (toL x.k x.a))
theorem MgL.mono' {m n : Nat} {l : List Rat} (h : MgL m l) (hn : m≤n) : MgL n l:=fun x hx=>(h x hx).mono hn
theorem MgT.mono' : ∀ {k m n : Nat} {t : Tw k},MgT m k t→m≤n→MgT n k t
 | 0,_,_,_,_,_=>trivial
 | _+1,_,_,_,h,hn=>⟨MgT.mono' h.1 hn,MgL.mono' h.2 hn⟩
theorem Xrj {k n : Nat} {a : El k} (h : MgL n (toL k a)) (hk : k≤3∧n≤400∨k=0∧n≤3999) : Sz 4000 (toL k a):=by
 refine (Sz.all h).mono ?_
 rw [Xab]
 rcases hk with ⟨h3,hn⟩ | ⟨rfl,hn⟩
 · have hp : 2 ^ k≤2 ^ 3:=W0k (by decide) h3
   have:=W1t hn hp
   omega
 · rw [Nat.pow_zero];omega
structure Scd (x : Nm) (u h : Rat) : Prop where
 s1 : Sz 4000 (toL x.k (mul x.k x.t x.a (rat x.k u)))
 s2 : Sz 4000 (toL x.k (scl x.k x.t x.a u h))
 w1 : Wid (bx x.k x.t (scl x.k x.t x.a u h) 2048) 1
 w2 : ∀ b,1000000≤b→Wid (enc x.k x.t (scl x.k x.t x.a u h) b) 1
theorem Pk.sz {x : Nm} (H : Pk x) : Sz 4000 (toL x.k x.a):=by
 rcases H.ml with h | ⟨h0,h⟩
 · exact Xrj h (.inl ⟨H.k,by decide⟩)
 · exact Xrj h (.inr ⟨h0,by decide⟩)
theorem Pk.sc {x : Nm} (H : Pk x) {u h : Rat} (hu : Qs 200 u) (hh : Qs 2 h) : Scd x u h:=by
 rcases H.ml with hl | ⟨h0,hl⟩
 · have m1:=Xly (t:=x.t) hl hu
   have m2:=Xuq m1 (Xup (k:=x.k) hh (by decide))
   exact ⟨Xrj m1 (.inl ⟨H.k,by decide⟩),Xrj m2 (.inl ⟨H.k,by decide⟩),Yet H.re H.mt (MgL.mono' m2 (by decide)) H.k,Xh8 H.re (MgT.mono' H.mt (by decide)) (MgL.mono' m2 (by decide)) H.k (show 10000≤10000 by decide)⟩
 · have m1:=Xly (t:=x.t) hl hu
   have m2:=Xuq m1 (Xup (k:=x.k) hh (by decide))
   refine ⟨Xrj m1 (.inr ⟨h0,by decide⟩),Xrj m2 (.inr ⟨h0,by decide⟩),?_,Xh8 H.re (MgT.mono' H.mt (by decide)) (MgL.mono' m2 (by decide)) H.k (show 10000≤10000 by decide)⟩
   obtain ⟨k,t,a⟩:=x
   obtain rfl : k=0:=h0
   exact (Xgm (m:=64) (b:=2048) H.re H.mt m2 (show 0<eE 64 2048 0 _ by exact (by decide : 0<2*2048 - 2))).mono (show 1≤2*2048 - 2 by decide)
theorem ten_qs {n : Nat} (hn : n≤60) : Qs 200 ((10 ^ n : Int) : Rat):=by
 have h1 : (10 : Nat) ^ n≤10 ^ 60:=W0k (by decide) hn
 refine Qs.int ?_ (by decide)
 show ((10 : Int) ^ n).natAbs<2 ^ 200
 rw [W5l]
 exact W1r h1 (by decide)
theorem bnds {k : Nat} (hk : k≤3) : eB 4000 (2*(1000000+1+16)) k≤274877906944∧vB 4000 k (4000+eB 4000 (2*(1000000+1+16)) k+4)≤4398046511104∧vB 4000 k (4000+bB 4000 2048 k+4)≤4398046511104∧bB 4000 2048 k≤274877906944∧cB 300 k≤1000000000:=by
 have h : k=0∨k=1∨k=2∨k=3:=by omega
 rcases h with rfl | rfl | rfl | rfl <;> decide +kernel
theorem Xfg {n : Nat} (hn : n≤400) : C0 131 [.d (.int .i64 n)] (·=.d (dz (10 ^ n))):=by
 refine En Tryz.func131 fun _ _ _=>?_
 refine Ce rfl (FromInt_ok (z:=10) (by decide)) ?_
 refine Ce rfl (Xvb (z:=10) (q:=4) (show (10 : Int).natAbs<2 ^ 4 by decide) (by omega) (by decide)) ?_
 exact R1 rfl (.rf rfl)
theorem Xeb {z : Int} {p : Nat} (hz : Zs p z) (hp : 1≤p) (hp2 : p≤8796093022208) : C0 130 [.d (dz z)] (·=.d (dq (z : Rat))):=by
 have h:=Make_ok hz (Zs.one hp) hp2 (by decide)
 rw [Xib] at h
 refine En Tryz.func130 fun _ _ _=>?_
 refine Dw rfl ?_
 refine Ce rfl (FromInt_ok (z:=1) (by decide)) ?_
 refine Ce rfl h ?_
 exact R1 rfl (.rf rfl)
theorem Xqn {x : Nm} {d : Nat} {h : Rat} (H : Pk x) (hd : d≤60) (hh : Qs 2 h) : C0 60 [.d (dN x),.d (.int .i64 d),.d (dq h)] fun v=>∃ z,v=.tup (.pr (.d (dz z)) (.d (.int .i64 0)))∧Xa7 x.k x.t (scl x.k x.t x.a ((10 ^ d : Int) : Rat) h) z∧(dig z.natAbs).length≤274877906944:=by
 have hu:=ten_qs hd
 have S:=H.sc hu hh
 obtain ⟨b1,b2,b3,b4,b5⟩:=bnds H.k
 have hz : Zs 200 (10 ^ d : Int):=hu.n
 refine En Tryz.func60 fun _ _ _=>?_
 refine No rfl (by omega) ?_
 refine No rfl (by omega) ?_
 refine Dw rfl ?_
 refine Ce rfl (Xfg (by omega)) ?_
 refine Ce rfl (Xeb hz (by decide) (by decide)) ?_
 refine Ce rfl (P9.FromRat_ok hu (by decide)) ?_
 refine Ce rfl (Ymh H.t H.sz hu (by have:=H.k;omega) (by decide) (by decide) (by decide) b5) ?_
 refine No rfl (by decide) ?_
 refine Dw rfl ?_
 refine Ce rfl (P9.FromRat_ok hh (by decide)) ?_
 refine Ce rfl (Yml (x:=⟨x.k,x.t,mul x.k x.t x.a (rat x.k ((10 ^ d : Int) : Rat))⟩) H.t S.s1 hh (by have:=H.k;show x.k≤8;omega) (by decide) (by decide) (by decide)) ?_
 refine No rfl (by decide) ?_
 refine Ca rfl (Xtn (P:=1000000) H.re S.w2 (H.t.mono (by decide)) S.s2 (by decide) (show x.k≤16 by have:=H.k;omega) (by decide) b1 b2) fun v hv=>?_
 obtain ⟨z,rfl,hz⟩:=hv
 exact Rt rfl (.tup (.cons (.rf rfl) Xa3)) ⟨z,rfl,hz⟩
theorem Floor_ok {x : Nm} {d : Nat} (H : Pk x) (hd : d≤60) : C0 23 [.d (dN x),.d (.int .i64 d)] fun v=>∃ z,v=.tup (.pr (.d (dz z)) (.d (.int .i64 0)))∧Xa7 x.k x.t (scl x.k x.t x.a ((10 ^ d : Int) : Rat) ((0 : Int) : Rat)) z∧(dig z.natAbs).length≤274877906944:=by
 refine En Tryz.func23 fun _ _ _=>?_
 refine Dw rfl ?_
 refine Ce rfl (Xa0 (z:=0) (by decide)) ?_
 refine Ca rfl (Xqn H hd (Qs.int (z:=0) (show Int.natAbs 0<2 ^ 2 by decide) (by decide))) fun v hv=>?_
 obtain ⟨z,rfl,hz⟩:=hv
 exact Rt rfl (.tup (.cons (.rf rfl) Xa3)) ⟨z,rfl,hz⟩
abbrev hf : Rat:=Rat.divInt 1 2
theorem Yln : Qs 2 hf:=⟨show hf.num.natAbs<2 ^ 2 by decide,show ((hf.den : Int)).natAbs<2 ^ 2 by decide⟩
theorem Round_ok {x : Nm} {d : Nat} (H : Pk x) (hd : d≤60) : C0 103 [.d (dN x),.d (.int .i64 d)] fun v=>∃ z,v=.tup (.pr (.d (dz z)) (.d (.int .i64 0)))∧Xa7 x.k x.t (scl x.k x.t x.a ((10 ^ d : Int) : Rat) hf) z∧(dig z.natAbs).length≤274877906944:=by
 refine En Tryz.func103 fun _ _ _=>?_
 refine Dw rfl ?_
 refine Ce rfl (Xpt (a:=1) (b:=2) (by decide) (by decide)) ?_
 refine Ca rfl (Xqn H hd Yln) fun v hv=>?_
 obtain ⟨z,rfl,hz⟩:=hv
 exact Rt rfl (.tup (.cons (.rf rfl) Xa3)) ⟨z,rfl,hz⟩
end Go.Proofs.YtpgcfjpkilabfaaGreatDoor.P11
namespace Go.Vm
open Go
abbrev cxM (P : Program) (gb : Gb P) (t : Tab P) (m : Mx P) (hpr : ∀ T ti,t.tb T=some ti→∀ a c,ti.z≠.pr a c) (n : Nat) (hn : n≤1000000) (fn : Func) (W : GW) (Q : AV→Prop) (hg : gb.g W) : Cx:=⟨P,gb,t.tb,fun T ti h=>⟨t.ok T ti h,hpr T ti h⟩,m,n,hn,W,fun _=>False,θe,bodyPostM Fence.wide 8 P fn (Ret W Q),hg⟩
theorem EnM {P : Program} [gb : Gb P] [t : Tab P] [hp : Npr P] [m : Mx P] {f n : Nat} {fn : Func} {x : Code} {args : List AV} {Q : AV → Prop} (hf : P.funcs[f]? = some fn) (h : ∀ W hg hn, StP (cxM P gb t m hp.h n hn fn W Q hg) (.j [] [.c x] (Yft 0 args) [])) (hname : (fn.name == "runtime.NumGoroutine") = false := by exact rfl) (hb : fn.body = some x := by exact rfl)
 (hN : fn.ntmps=n:=by exact rfl) (hl : (Nat.ble args.length n && Nat.ble n 1000000 && args.all Xkb)=true:=by exact rfl) : C P f args Q:=by
 refine ⟨⟨fn,hf,hname,by rw [hb];rfl⟩,fun W vs hg ha=>(callsIn_wide (n:=8)).1 (callsIn_of_wp_marks hf hb trivial (wpIn_wide.2 ?_) rfl)⟩
 have h:=h W hg (by simp only [W0g] at hl;exact W1o hl.1.2)
 simp only [StP,sem,←Xk0] at h
 simp only [W0g] at hl
 obtain ⟨⟨hl1,hl2⟩,hl3⟩:=hl
 have hl1:=W1o hl1
 have hlen:=ha.len
 refine wp_mono (h _ W.w ⟨_,W,θe,rfl,⟨Fm.refl W _,⟨rfl,by simp [hN];omega,fun t v ht=>?_⟩,⟨fun o x h=>(by cases h),fun o x b h=>(by cases h),fun o o' x x' b h=>(by cases h),fun o x i h=>(by cases h)⟩,fun t v i ht hi=>?_⟩,fun _ _=>rfl,rfl⟩) fun e a w h=>by cases e <;> exact h
 · obtain ⟨_,u,h2,h3,_⟩:=Xmz ha ht
   rw [W6r] at h2
   have hlt:=Xbk h2
   rw [W0b hlt] at h2
   injection h2 with h2
   simp only [Array.getD]
   rw [dif_pos (by simp;omega)]
   simp [W6n,hlt,h2]
   exact h3
 · obtain ⟨_,u,_,_,h4⟩:=Xmz ha ht
   exact absurd hi (Xka (W1m.1 hl3 v h4) i)
theorem StP.rest2 {c : Cx} {G : List (Nat × Bool)} {x y : Code} {E : Env} {H : Hpl} (h : ∀ a w,c.Nx (fun s'=>s'=sem E H) a w→x.wp c.P (Exit.then (y.wp c.P c.fin) c.fin) a w) : StP c (.j G [.c x,.c y] E H) :=
 fun a w hw=>wp_mono (h a w hw) fun e a w h=>by
  cases e with
  | normal=>exact wp_mono h fun e a w h=>by cases e <;> exact h
  | _=>exact h
theorem Tl {c : Cx} {s : St} (id : Nat) {G : List (Nat × Bool)} {x y : Code} {E : Env} {H : Hpl} (h : nxT c.tb c.n (some id) s=some (G,x,[.c y],E,H)) (k : ∀ a w,c.Nx (fun s'=>s'=sem E H) a w→x.wpIn Fence.wide 8 c.P (Exit.then (y.wpIn Fence.wide 8 c.P c.fin) c.fin) a w) : StP c s:=by
 have key : StP c (.j G [.c x,.c y] E H):=StP.rest2 fun a w hw=>wp_mono (wpIn_wide.1 (k a w hw)) fun e a w h=>by
  cases e with
  | normal=>exact wpIn_wide.1 h
  | _=>exact h
 unfold nxT at h
 simp only at h
 split at h <;> cases h
 rename_i hr
 exact Xhl 1000 (by rw [hr];exact key)
theorem Xah {α : Type} {n : Nat} : ∀ {l : List α},l.length=n+1→∃ t l',l=t::l'∧l'.length=n
 | t::l',h=>⟨t,l',rfl,by simpa using h⟩
end Go.Vm
namespace Go.Proofs.YtpgcfjpkilabfaaGreatDoor
open Go Go.Vm Go.Num Go.Proofs Go.Shelf Go.RowKit
section
end
section
theorem Xuy {q n : Nat} {l : List Nat} (hw : Xal l) (hq : q+n≤l.length) (hl : n≤1099511627776) : CN0 65 [.own 1000001 1 q n] [(1000001,.arr 1 (l.map wd))] fun v=>∃ k,k≤n∧v=.own 1000001 1 q k∧(l.drop q).take k=dig (val ((l.drop q).take n)):=by
 have dtk : ∀ {m k : Nat},k<m→((l.drop q).take m)[k]?=l[q+k]?:=fun h=>by rw [W1i,if_pos h,W2m]
 have Xxe : ∀ {m : Nat},q+m≤l.length→((l.drop q).take m).length=m:=fun h=>by rw [W0j,W2e];omega
 refine EnW Tryz.func65 fun _ _ _ _=>?_
 refine Lo (fun k=>[(0,.own 1000001 1 q k)]) (fun _=>[(1000001,.arr 1 (l.map wd))]) (fun k=>k≤n∧val ((l.drop q).take k)=val ((l.drop q).take n)) id n [] rfl ⟨W0c _,rfl⟩ fun k ⟨hk,hv⟩=>?_
 have hwk:=(hw.drop q).take k
 refine By rfl (fun h=>?_) fun h=>?_
 · obtain ⟨u,hu⟩:=xat (l:=l) (k:=q+(k - 1)) (by omega)
   have hs:=Xac (l:=l.drop q) (k:=k - 1) (x:=u) (by rw [W2m];exact hu)
   rw [show k - 1+1=k by omega,hv] at hs
   refine Ar (k - 1 : Nat) rfl ?_
   refine El (k - 1) rfl (by omega) ?_
   refine Ld (wd u) rfl (mp hu) ?_
   refine By rfl (fun h0=>?_) fun h0=>?_
   · refine Ar (k - 1 : Nat) rfl ?_
     refine Sw 0 (k - 1) rfl (by omega) (by omega) ?_
     exact Bk (k - 1) [] rfl ⟨by omega,by rw [hs,show u=0 by omega,W2z,W2n]⟩ (show k - 1<k by omega)
   · exact Rw [] [(1000001,.arr 1 (l.map wd))] rfl (.one (.rf rfl) rfl rfl) ⟨rfl,k,hk,rfl,by rw [←hv,Xd9 hwk (.inr ⟨u,by rw [Xxe (by omega),dtk (by omega)];exact hu,fun e=>h0 (by rw [e];rfl)⟩)]⟩
 · refine Rw [] [(1000001,.arr 1 (l.map wd))] rfl (.one (.rf rfl) rfl rfl) ⟨rfl,k,hk,rfl,?_⟩
   rw [show k=0 by omega] at hv ⊢
   rw [←hv,W7o,val,Xai]
theorem Xky {l : List Nat} (h0 : 0<l.length) (hl : l.length≤1099511627776) : CA0 70 [.d (ws l)] 1 (l.map wd):=by
 refine EnW Tryz.func70 fun _ _ _ _=>?_
 refine Ub rfl (fun h=>?_) ?_
 · exact absurd h (by intro e; have : l.length = 0 := by simpa using congrArg List.length e
                      omega)
 refine ApL (l.map wd) rfl rfl (by simpa using h0) (by simpa using hl) ?_
 exact Rw [(7,1000000)] [(1000000,.arr 1 (l.map wd))] rfl (.one (.rf rfl) rfl rfl) ⟨_,rfl,rfl,rfl⟩
theorem Xop : C0 105 [.d (dz 0)] (·=.d (.str [48])):=by
 refine En Tryz.func105 fun _ _ _=>?_
 refine Ce rfl (Xcc (n:=0) (by rw [Xai];decide)) ?_
 refine Ce rfl (Xbj (l:=dig 0) (by rw [Xai];decide)) ?_
 refine Yes rfl (by rw [Xai];rfl) ?_
 exact R0
def Fm9 (z x n : Nat) (lo cs : List Nat) : Prop:=n≤lo.length∧lo.length≤549755813888∧Xal lo∧lo.take n=dig x∧cks z=cs++cks x
theorem Yfk {z x n : Nat} {lo cs : List Nat} (h : Fm9 z x n lo cs) : n=(dig x).length:=by
 have:=congrArg List.length h.2.2.2.1
 rw [W0j,W2c h.1] at this
 exact this
end
section
attribute [local go_sem] Oper.semAt_some
abbrev C9:={ x : Nat // x<1000000000 }
def b9 (zs : List C9) (k : Nat) : List (Nat × C9):=(List.range k).map fun j=>(zs.length - 1 - j,zs[zs.length - 1 - j]?.getD ⟨0,by decide⟩)
theorem Xwq (zs : List C9) (k : Nat) : b9 zs (k+1)=b9 zs k++[(zs.length - 1 - k,zs[zs.length - 1 - k]?.getD ⟨0,by decide⟩)]:=by simp [b9,W7h]
theorem Xwr (zs : List C9) (k : Nat) : (b9 zs k).length=k:=by simp [b9]
set_option maxRecDepth 100000 in
set_option maxHeartbeats 2000000 in
theorem Yjf (F : Fence) (n : Nat) (h8 : F.fn 258) (hro : F.round=none) (hn : 1≤n) (l Bs n₀ b off cap : Nat) (zs : List C9) (hreach : zs.length*4≤140737488351232) (hb : b<n₀) (J Jx : List (Nat × C9)→World→Prop)
 (hY : ∀ pre x W,J pre W→pre.length<zs.length→YieldAt F (n - 1) Tryz.prog l #[.int .i64 (x.1 : Int),.int .u32 (x.2.1 : Int)] W fun e W' =>
  (e=.returned (.bool true)∧J (pre++[x]) W'∧Kq n₀ Bs W W')∨(e=.returned (.bool false)∧Jx (pre++[x]) W'))
 (W : World) (hBs : W.cell? ⟨Bs,0,none⟩=some (.slice (some ⟨b,off,none⟩) zs.length cap)) (hc : ∀ j,j<zs.length→W.cell? ⟨b,off+j,none⟩=some (.int .u32 ((zs[j]?.getD ⟨0,by decide⟩).1 : Int))) (h0 : J [] W) :
 CallsIn F n Tryz.prog 258 #[.func (.yield l) #[] #[],.pointer (some ⟨Bs,0,none⟩)] W fun e W'=>(∃ v,e=.returned v) ∧
  ((∃ ys,ys=b9 zs zs.length∧J ys W')∨(∃ pre,True∧Jx pre W')):=by
 refine callsIn_of_wp Tryz.func258 rfl h8 ?_ hro
 simp only [Tryz.ntmps258,W6b,W0o,W3s,Nat.reduceAdd,Nat.reduceSub,W5j,W5k,W6c,W5r,W4m,W4q]
 gi_wp2
 gi_loopw [3] (fun i wr=>∃ k : Nat,k≤zs.length∧i=.int .i64 ((zs.length : Int) - 1 - k)∧J (b9 zs k) wr∧Kq n₀ Bs W wr)
  (fun i _=>(intOf i+1).toNat)
 case atStart=>exact ⟨0,W1c _,by simp,h0,Kq.refl _ _ _⟩
 case round =>
  obtain ⟨k,hk,rfl,hJs,hnx⟩:=hrel
  have hBs':=(World.cell?_of_block hnx.b).trans hBs
  by_cases hlt : k<zs.length
  · obtain ⟨q,hq⟩ : ∃ q,q+(k+1)=zs.length:=⟨zs.length - 1 - k,by omega⟩
    have hqi : ((zs.length : Int) - 1 - k)=(q : Int):=by omega
    have hcx:=(hnx.a.cell (p:=⟨b,off+q,none⟩) hb).trans (hc q (by omega))
    obtain ⟨fn,tmps,assign,body,hy,hR⟩:=hY _ (q,zs[q]?.getD ⟨0,by decide⟩) wr hJs (by rw [Xwr];exact hlt)
    dsimp only at hy
    rw [hqi]
    gi_wp2
    refine hR.mono ?_
    rintro e W3 (⟨rfl,hJ3,hk3⟩ | ⟨rfl,hJx3⟩)
    · gi_wp2
      go_roundw
      case rel=>exact ⟨k+1,by omega,by congr 1;omega,by rw [Xwq,show zs.length - 1 - k=q from by omega];exact hJ3,hnx.trans hk3⟩
      case measure=>simp [intOf]
    · gi_wp2
      refine bodyPost_ret (results_none rfl _ _ _) rfl ?_
      exact ⟨⟨_,rfl⟩,.inr ⟨_,trivial,hJx3⟩⟩
  · obtain rfl : k=zs.length:=by omega
    rw [show ((zs.length : Int) - 1 - (zs.length : Int))=-1 from by omega]
    gi_wp2
    go_end0
    exact ⟨⟨_,rfl⟩,.inl ⟨_,rfl,hJs⟩⟩
theorem Xmw (F : Fence) (n : Nat) (h8 : F.fn 258) (hro : F.round=none) (hn : 1≤n) (Bs n₀ b off cap : Nat) (zs : List C9) (hreach : zs.length*4≤140737488351232) (w : World) (hBs : Bs<w.heap.size) (hn₀ : n₀≤w.heap.size)
 (hc : w.cell? ⟨Bs,0,none⟩=some (.slice (some ⟨b,off,none⟩) zs.length cap)) (hb : b<n₀) (hcs : ∀ j,j<zs.length→w.cell? ⟨b,off+j,none⟩=some (.int .u32 ((zs[j]?.getD ⟨0,by decide⟩).1 : Int))) :
 SeqStopsK F n Tryz.prog 258 #[.pointer (some ⟨Bs,0,none⟩)] (fun x : Nat × C9=>#[Value.int .i64 (x.1 : Int),Value.int .u32 (x.2.1 : Int)]) (Kq n₀ Bs) (fun ys=>ys=b9 zs zs.length)
  (fun _=>True) zs.length w:=fun l J Jx W hW _ _ hY h0=>by
 have hc':=(hW.cell (p:=⟨Bs,0,none⟩) hBs).trans hc
 exact Yjf F n h8 hro hn l Bs n₀ b off cap zs hreach hb J Jx hY W hc' (fun j hj=>(hW.cell (p:=⟨b,off+j,none⟩) (W0p hb hn₀)).trans (hcs j hj)) h0
def o9 (N : Nat) (sg : List UInt8) : List (Nat × C9)→List UInt8:=List.foldl (fun t x=>t++(if x.1+1<N then List.replicate (9 - (dec x.2.1).length) 48 else [])++dec x.2.1) sg
theorem Xnq (N : Nat) (sg : List UInt8) (pre : List (Nat × C9)) (x : Nat × C9) : o9 N sg (pre++[x])=o9 N sg pre++(if x.1+1<N then List.replicate (9 - (dec x.2.1).length) 48 else [])++dec x.2.1:=by simp [o9]
theorem Ylw (x : C9) : (dec x.1).length≤9:=Xe3 8 x.1 x.2
theorem Xuc (N : Nat) : ∀ (pre : List (Nat × C9)) (sg : List UInt8),(o9 N sg pre).length≤sg.length+18*pre.length
 | [],_=>W5m _ _
 | x::l,sg=>by
  have ih:=Xuc N l (sg++(if x.1+1<N then List.replicate (9 - (dec x.2.1).length) 48 else [])++dec x.2.1)
  have:=Ylw x.2
  have h : (if x.1+1<N then List.replicate (9 - (dec x.2.1).length) (48 : UInt8) else []).length≤9:=by split <;> simp
  simp only [W0d,W0o] at h ih ⊢
  refine W0h (show (o9 N sg (x::l)).length≤_ from ih) ?_
  omega
theorem Ydi (sg : List UInt8) (zs : List C9) : ∀ k,k≤zs.length→o9 zs.length sg (b9 zs k)=sg++Xyf ((zs.map (·.1)).drop (zs.length - k))
 | 0,_=>by
  rw [W1x (by simp)]
  simp [b9,o9,Xyf]
 | k+1,h=>by
  obtain ⟨x,hx⟩ : ∃ x,zs[zs.length - 1 - k]?=some x:=⟨_,W0b (by omega)⟩
  have hxm : (zs.map (·.1))[zs.length - (k+1)]?=some x.1:=by rw [W1f,show zs.length - (k+1)=zs.length - 1 - k by omega,hx];rfl
  have hd : (zs.map (·.1)).drop (zs.length - (k+1))=x.1::(zs.map (·.1)).drop (zs.length - k):=by
   obtain ⟨hlt,he⟩:=W2s.1 hxm
   rw [W3a hlt,he,show zs.length - (k+1)+1=zs.length - k by omega]
  rw [Xwq,Xnq,Ydi sg zs k (by omega),hx,hd]
  simp only [W5n]
  by_cases hk : k=0
  · subst hk
    rw [if_neg (by omega),show (zs.map (·.1)).drop (zs.length - 0)=[] from W1x (by simp)]
    simp [Xyf]
  · have hne : (zs.map (·.1)).drop (zs.length - k)≠[]:=fun e=>by
     have:=congrArg List.length e
     simp at this;omega
    rw [if_pos (by omega),Xt9 hne]
    unfold pad
    simp
theorem c9s {l : List Nat} (h : ∀ x∈l,x<1000000000) : ∃ zs : List C9,zs.map (·.1)=l:=by
 induction l with
 | nil=>exact ⟨[],rfl⟩
 | cons a l ih =>
  obtain ⟨zs,hz⟩:=ih fun x hx=>h x (W0x _ hx)
  exact ⟨⟨a,h a (W0t ..)⟩::zs,by rw [W3k,hz]⟩
def gw1 (w : World) : GW:=⟨w,fun _ _=>False,fun _ _ h=>h.elim⟩
theorem cell_lt {w : World} {b i : Nat} {v : Value} (h : w.cell? ⟨b,i,none⟩=some v) : b<w.heap.size:=by
 apply W1e
 intro hn
 simp only [World.cell?] at h
 rw [W3o (by omega)] at h
 cases h
theorem Yhz {W : GW} {n : Nat} {w' : World} (h : Below n W.w w') (hn : W.w.heap.size≤n) : LeF W (gw1 w'):=fun b i v hv =>
 ⟨(World.cell?_of_block (h.block b (W0p (cell_lt hv.1) hn))).trans hv.1,id⟩
theorem Xq6 {f : FuncId} {args : List AV} {vs : List Value} {s : List UInt8} {w : World} (hc : C0 f args (·=.d (.str s))) (hg : Gb.g Tryz.prog (gw1 w)) (ha : Xii (gw1 w) θe args vs) :
 Calls Tryz.prog f vs.toArray w fun e w'=>e=.returned (.string ⟨s.toArray⟩)∧Below w.heap.size w w' :=
 (hc.2 (gw1 w) vs hg ha).mono fun e w' ⟨W',v,u,h1,h2,h3,h4,_,h6⟩=>by
  subst h6;subst h2
  obtain ⟨rfl,_⟩:=Xr9 h4
  exact ⟨h1,h3.os,h3.tape,h3.out,h3.size,fun k hk=>h3.same k hk id⟩
theorem Ynb {w : World} (hg : Gb.g Tryz.prog (gw1 w)) (x : C9) : Calls Tryz.prog 185 #[.int .u64 (x.1 : Int),.int .i64 10] w fun e w'=>e=.returned (.string ⟨(dec x.1).toArray⟩)∧Below w.heap.size w w' :=
 Xq6 (vs:=[.int .u64 (x.1 : Int),.int .i64 10]) (Xk5 x.2) hg ⟨int_V (by have:=x.2;show IntKind.u64.wrap _=_;exact wU (by omega)),int_V (wI (by omega)),trivial⟩
theorem Yms {w : World} (hg : Gb.g Tryz.prog (gw1 w)) {n : Nat} {k : Int} (hk : k=n) (hn : n<65) : Calls Tryz.prog 106 #[.string ⟨#[48]⟩,.int .i64 k] w fun e w'=>e=.returned (.string ⟨(List.replicate n 48).toArray⟩)∧Below w.heap.size w w':=by
 subst hk
 exact Xq6 (vs:=[.string ⟨#[48]⟩,.int .i64 (n : Int)]) (Xjg hn) hg ⟨Xld (s:=[48]) (by decide),int_V (by show IntKind.i64.wrap _=_;exact wI (by omega)),trivial⟩
theorem Xu0 {β : Type} (T e : TypeId) (B b : Nat) (f : β→List Value) : Own (fun s W=>Lib.IsBuilderF T e B b (f s) W):=by
 intro s X Y row h hg hrow
 have key : ∀ p,Lib.BuilderAtF T e B b p (f s) X→Lib.BuilderAtF T e B b p (f s) Y:=fun p ⟨hB,v,hb,hown,hne⟩=>by
  have cells : ∀ k cs t fz,X.heap[k]?=some (.cells cs t fz)→some k≠row:=fun k cs t fz hk e'=>by
   obtain ⟨o,ho,hc⟩:=hrow k e'.symm
   rw [hk] at ho;cases ho;cases hc
  refine ⟨hB,v,(hg.block b (W3l.1 hb).1 (cells b _ _ _ hb)).trans hb,hown.kept hg ?_,hne⟩
  cases hv : v.ownBlock with
  | none=>exact .inl rfl
  | some g =>
   obtain ⟨c,fz,hc⟩:=Lib.ownsRowF_kind hown g hv
   exact .inr (cells g _ _ _ hc)
 exact h.elim (fun h=>.inl (key _ h)) fun h=>.inr (key _ h)
theorem Xh1 {W W' : World} {row : Option Nat} {b : Nat} {cs : Array Value} {t : TypeId} {fz : Nat × Nat} (h : W.heap[b]?=some (.cells cs t fz)) (hg : W.grownBy W' row) (hr : ∀ r,row=some r→∃ o : Obj,W.heap[r]?=some o∧o.isCells=false) : W'.heap[b]?=some (.cells cs t fz) :=
 (hg.block b (W3l.1 h).1 (fun e'=>by
  obtain ⟨o,ho,hc⟩:=hr b e'.symm
  rw [h] at ho;cases ho;cases hc)).trans h
theorem Xu1 {T e : TypeId} {B b : Nat} {bs : List Value} {w w' : World} (h : Lib.IsBuilderF T e B b bs w) (hw : Below w.heap.size w w') : Lib.IsBuilderF T e B b bs w':=by
 have key : ∀ p,Lib.BuilderAtF T e B b p bs w→Lib.BuilderAtF T e B b p bs w':=fun p ⟨hB,v,hb,hown,hne⟩ =>
  ⟨hB,v,(hw.block b (W3l.1 hb).1).trans hb,hown.kept (row:=none) ⟨hw.os,hw.tape,hw.output,hw.size,fun k hk _=>hw.block k hk⟩ (by cases hv : v.ownBlock <;> simp),hne⟩
 exact h.elim (fun h=>.inl (key _ h)) fun h=>.inr (key _ h)
theorem Xnz {w w' : World} (h : Below w.heap.size w w') : KeepsOthers w w':=⟨h.size,fun k o hk _=>(h.block k (W3l.1 hk).1).trans hk⟩
theorem Xkk {T e : TypeId} {B b n : Nat} {bs : List Value} {w w' : World} (h : Lib.IsBuilderF T e B b bs w) (hw : Below n w w') (ho : Lib.OthersKept e (some b) w w') : KeepsOthers w w':=⟨hw.size,fun k o hk hc=>by
 refine ho k o hk (fun e'=>?_) (fun c fz e'=>by subst e';cases hc)
 cases e'
 rcases h with ⟨_,v,hb,_⟩ | ⟨_,v,hb,_⟩ <;> rw [hk] at hb <;> cases hb <;> cases hc⟩
structure W9 (n BS B : Nat) (sl : Value) (w W : World) (t : List UInt8) (W' : World) : Prop where
 b : Lib.IsBuilderF (rnB.t 72) (rnB.t 5) n n (Lib.byteCells t) W'
 s : W'.heap[BS]?=some (.cells #[sl] 27 (0,0))
 l : Below n w W'
 k : KeepsFrom B W W'
 q : Kq n BS W W'
theorem W9.below {n BS B : Nat} {sl : Value} {w W W' W'' : World} {t : List UInt8} (h : W9 n BS B sl w W t W') (hn : n≤W'.heap.size) (hb : Below W'.heap.size W' W'') : W9 n BS B sl w W t W'' :=
 ⟨Xu1 h.b hb,(hb.block BS (W3l.1 h.s).1).trans h.s,h.l.trans (hb.mono hn),h.k.trans ((Xnz hb).from _),h.q.trans ⟨hb.mono hn,hb.block BS (W3l.1 h.s).1⟩⟩
theorem W9.wr {n BS B : Nat} {sl : Value} {w W W' : World} {t : List UInt8} (h : W9 n BS B sl w W t W') (u : List UInt8) (hn : n≤W'.heap.size) (hB : BS≠n) (hl : t.length+u.length≤140737488355328) :
 Calls Tryz.prog 108 #[.pointer (some ⟨n,0,none⟩),.string ⟨u.toArray⟩] W' fun e W''=>e=.returned (.tuple #[.int .i64 u.length,.nilIface])∧W9 n BS B sl w W (t++u) W'':=by
 have hsz : (⟨u.toArray⟩ : ByteArray).size=u.length:=by simp [ByteArray.size]
 refine (Any.Builder_WriteString_k Yh2 Yke n n _ ⟨u.toArray⟩ W' h.b (by rw [Lib.byteCells_length,hsz];exact hl) hn).mono ?_
 rintro e W'' ⟨rfl,hb,hbl,ho⟩
 have hs : W''.heap[BS]?=some (.cells #[sl] 27 (0,0)):=ho BS _ h.s (by intro e;cases e;exact hB rfl) (by intro c fz e;cases e)
 refine ⟨by rw [hsz],.inr (by rw [Lib.byteCells_append];exact hb),hs,h.l.trans hbl,h.k.trans ((Xkk h.b hbl ho).from _),h.q.trans ⟨hbl,hs.trans h.s.symm⟩⟩
end
section
attribute [local go_sem] Oper.semAt_some
theorem Xsb {z : Int} (hz : z≠0) (hl : (dig z.natAbs).length≤274877906944) : C0 105 [.d (dz z)] (·=.d (.str (tx z))):=by
 have hcl:=Xwh (n:=z.natAbs) (k:=(dig z.natAbs).length) (by have:=Xbq (Xad z.natAbs);rwa [Xaf] at this)
 have hp:=W5q.2 (fun e : dig z.natAbs=[]=>hz (by have:=Xrz.1 e;omega))
 refine EnM Tryz.func105 fun W0 hg0 _=>?_
 refine Ce rfl (Xcc (n:=z.natAbs) (by omega)) ?_
 refine Cr rfl (Xky (l:=dig z.natAbs) hp (by omega)) ?_
 refine No rfl (by simp only [W0i];omega) ?_
 refine Nv 4 7 1 rfl ?_
 refine Lo (fun ((x,n,lo,cs) : Nat × Nat × List Nat × List Nat)=>[(1,.ptr 1 0),(2,.d (.str [])),(3,.own 14 1 0 n),(4,.ptr 4 0)]) (fun (x,n,lo,cs)=>[(1,.var (.d (dz z))),(14,.arr 1 (lo.map wd)),(4,.var (.gr 7 1 (cs.map wd))),(7,.tok (cs.map wd).length 1)])
  (fun (x,n,lo,cs)=>Fm9 z.natAbs x n lo cs) (fun (x,_)=>x) (z.natAbs,(dig z.natAbs).length,dig z.natAbs,[]) [] rfl ⟨W0c _,by omega,Xad _,W2b ..,rfl⟩ ?_ (by exact ⟨by simp only [W0i];rfl,rfl,rfl,rfl,rfl⟩)
 rintro ⟨x,n,lo,cs⟩ hI
 have hn:=Yfk hI
 obtain ⟨hnl,hll,hwo,hdx,hck⟩:=hI
 have hsz : ∀ j,j<n→lo[j]?=(dig x)[j]?:=fun j hj=>by rw [←hdx,W1i,if_pos hj]
 refine By rfl (fun h=>?_) fun h=>?_
 · have h : (n : Int) > 0:=h
   have hx0 : x≠0:=fun e=>by rw [e,Xai] at hn;simp at hn;omega
   refine Ar ((n : Int) - 1) rfl ?_ (wr rfl (by simp only [inK];omega))
   refine Lo (fun ((k,l,r) : Nat × List Nat × Nat)=>[(1,.ptr 1 0),(2,.d (.str [])),(3,.own 14 1 0 n),(4,.ptr 4 0),(5,.d (.int .u64 r)),(6,.d (.int .i64 ((k : Int) - 1)))]) (fun (_,l,_)=>[(1,.var (.d (dz z))),(14,.arr 1 (l.map wd)),(4,.var (.gr 7 1 (cs.map wd))),(7,.tok (cs.map wd).length 1)])
    (fun (k,l,r)=>k≤n∧l.length=lo.length∧Xal l∧r<1000000000∧val ((l.take n).drop k)*1000000000+r=val ((dig x).drop k)∧∀ j,j<k→l[j]?=(dig x)[j]?) (fun (k,_,_)=>k) (n,lo,0) [] rfl
    ⟨W0c _,rfl,hwo,by decide,by rw [W1x (by rw [W0j];omega),W1x (by omega)];simp [val],hsz⟩ ?_
   rintro ⟨k,l,r⟩ ⟨hk,hl2,hwl,hr,hval,hlj⟩
   refine By rfl (fun h2=>?_) fun h2=>?_
   · have h2 : (k : Int) - 1 ≥ 0:=h2
     obtain ⟨u,hu⟩:=xat (l:=dig x) (k:=k - 1) (by omega)
     have hub:=ww hu (Xad x)
     have hul : l[k - 1]?=some u:=by rw [hlj _ (by omega),hu]
     obtain ⟨s,hs⟩ : ∃ s,s=r*2 ^ 32+u:=⟨_,rfl⟩
     have hs64 : s<18446744073709551616:=by omega
     have hsy : s / 1000000000<4294967296:=by omega
     have hek : ((k : Int) - 1)=((k - 1 : Nat) : Int):=by omega
     refine Ar (r*2 ^ 32 : Nat) rfl ?_ (Xhh (n:=32) rfl (by omega) (by decide))
     refine Eo (k - 1) (by rw [hek];rfl) (by omega) ?_
     refine Ld (wd u) rfl (mp hul) ?_
     refine Go.Vm.Cv u rfl ?_
     refine Ar s rfl ?_ (Ya8 (by omega) (by omega) (by rw [Xdb u r 32 (by omega),←hs]) hs64)
     refine Ar (s / 1000000000 : Nat) rfl ?_ (show _∧_ from ⟨by decide,Yci s 1000000000 hs64⟩)
     refine Go.Vm.Cv (s / 1000000000 : Nat) rfl ?_ (wW ⟨W5e _,W6s.2 hsy⟩)
     refine Eo (k - 1) (by rw [hek];rfl) (by omega) ?_
     refine Sto rfl (by simp only [W0i];omega) ms ?_
     refine Ar (s % 1000000000 : Nat) rfl ?_ (show _∧_ from ⟨by decide,Xsy s 1000000000⟩)
     refine Ar ((k - 1 : Nat) - 1 : Int) rfl ?_ (wr (by omega) (by simp only [inK];omega))
     have hs0 : val ((dig x).drop (k - 1))=u+4294967296*val ((dig x).drop k):=by
      have:=Xbn hu
      rwa [show k - 1+1=k by omega] at this
     refine Bk (k - 1,l.set (k - 1) (s / 1000000000),s % 1000000000) [] rfl ⟨by omega,by simp [hl2],Xgo hwl hsy,W1y _ (by decide),?_,fun j hj=>?_⟩ (by show k - 1<k;omega)
     · rw [hs0,←hval,List.take_set,drop_set (by rw [W0j];omega),val,show k - 1+1=k by omega]
       have e:=W2j s 1000000000
       have hs2 : s=r*4294967296+u:=hs
       generalize val (((l.take n)).drop k)=V
       generalize s / 1000000000=q at e ⊢
       generalize s % 1000000000=m at e ⊢
       clear hck hcl hdx hsz hlj hs hval hs0 hsy hs64
       omega
     · rw [W1w (by omega)];exact hlj j (by omega)
   · have hk0 : k=0:=by
      have h2 : ¬ (k : Int) - 1 ≥ 0:=h2
      omega
     subst hk0
     rw [W1b,W1b,Xaf] at hval
     have hq : x / 1000000000=val (l.take n):=by omega
     have hm : x % 1000000000=r:=by omega
     refine Cn [(1000001,14)] rfl (Xuy (l:=l) (q:=0) (n:=n) hwl (by omega) (by omega)) fun v hv=>?_
     obtain ⟨m,hmn,rfl,hml⟩:=hv
     rw [W1b,←hq] at hml
     refine Go.Vm.Cv r rfl ?_
     refine ApG ((cs++[r]).map wd) rfl (by simp;rfl) (by simp;have:=congrArg List.length hck;rw [W0d] at this;omega) ?_
     refine Bk (x / 1000000000,m,l,cs++[r]) [(50,7)] rfl ⟨by omega,by omega,hwl,hml,?_⟩ (by show x / 1000000000<x;omega)
     rw [hck,Xe4 hx0,hm];simp
 · have h : ¬ (n : Int) > 0:=h
   have hx0 : x=0:=by
    have : dig x=[]:=W0l (by omega)
    exact Xrz.1 this
   subst hx0
   rw [Xem,W4w] at hck
   obtain ⟨zs,hzs⟩:=c9s (l:=cs) fun x hx=>Yi9 z.natAbs x (by rw [hck];exact hx)
   have hzl : zs.length=cs.length:=by rw [←hzs,W0i]
   have hz0 : z.natAbs≠0:=by omega
   have hz1 : 0<zs.length:=by
    rw [hzl,←hck,Xe4 hz0];simp
   have hzn : zs.length≤549755813888:=by rw [hzl,←hck];omega
   have htx : ∀ sg,sg++Xyf (zs.map (·.1))=sg++dec z.natAbs:=fun sg=>by rw [hzs,←hck,Xye _ hz0]
   refine Tl 15 rfl fun a w hw=>?_
   obtain ⟨s',W,θ,rfl,hS,hθ,rfl⟩:=hw
   have hgW : Gb.g Tryz.prog W:=Gb.mono _ _ hS.fm.le hg0
   obtain ⟨b1,p1,e1⟩:=Xio (hS.rel.has 1 (.ptr 1 0) rfl)
   obtain ⟨b4,p4,e4⟩:=Xio (hS.rel.has 4 (.ptr 4 0) rfl)
   obtain ⟨bx,cx1,T1,q1,q2,q3,_⟩:=hS.obs.r 1 (.var (.d (dz z))) rfl
   obtain ⟨by4,cx4,T4,q5,q6,q7,_⟩:=hS.obs.r 4 (.var (.gr 7 1 (cs.map wd))) rfl
   obtain rfl : bx=b1:=Option.some.inj (q1.symm.trans p1)
   obtain rfl : by4=b4:=Option.some.inj (q5.symm.trans p4)
   have c1 : W.w.cell? ⟨bx,0,none⟩=some (.bool (decide (z<0))):=by
    obtain ⟨u,v,h1,h2,_⟩:=q3
    have h2 : u=[.bool (decide (z<0))]:=h2
    rw [Xba q2,h1,h2];rfl
   obtain ⟨b7,cp,c4,hcell⟩ : ∃ b7 cp,W.w.cell? ⟨by4,0,none⟩=some (.slice (some ⟨b7,0,none⟩) zs.length cp)∧∀ j,j<zs.length→W.w.cell? ⟨b7,0+j,none⟩=some (.int .u32 ((zs[j]?.getD ⟨0,by decide⟩).1 : Int)):=by
    obtain ⟨p,h1,h0,h2,_,h5⟩:=q7
    simp only [W0i] at h1 h2
    rcases h5 with h5 | ⟨b7,h5,hrow⟩
    · have:=congrArg List.length h5
      rw [W0i] at this
      have : cs.length=0:=this
      omega
    · have hp : p=some ⟨b7,0,none⟩:=by
       rcases h0 with h0 | h0
       · omega
       · rw [h0,h5];rfl
      refine ⟨b7,_,by rw [Xba q6,h1,hp,←hzl];rfl,fun j hj=>?_⟩
      obtain ⟨x,hx⟩ : ∃ x,zs[j]?=some x:=⟨_,W0b hj⟩
      obtain ⟨e,g1,_,g3⟩:=D.row_get hrow (i:=j) (x:=wd x.1) (by rw [←hzs];simp [hx])
      have g1 : e=[.int .u32 x.1]:=g1.1
      have:=(g3 0 (.int .u32 x.1) (by rw [g1];rfl)).1
      rw [hx]
      simpa using this
   have hb1:=Go.Proofs.YtpgcfjpkilabfaaGreatDoor.cell_lt c1
   have hb4:=Go.Proofs.YtpgcfjpkilabfaaGreatDoor.cell_lt c4
   have hb7:=Go.Proofs.YtpgcfjpkilabfaaGreatDoor.cell_lt (hcell 0 hz1)
   have hfm:=hS.fm
   obtain ⟨tm,df⟩:=a
   obtain rfl : df=[]:=hS.rel.defers
   obtain ⟨L⟩:=tm
   have hL : L.length=74:=hS.rel.size
   clear hS
   obtain ⟨t0,L0,rfl,hL0⟩:=Xah hL
   clear hL
   obtain ⟨t1,L1,rfl,hL1⟩:=Xah hL0
   clear hL0
   obtain ⟨t2,L2,rfl,hL2⟩:=Xah hL1
   clear hL1
   obtain ⟨t3,L3,rfl,hL3⟩:=Xah hL2
   clear hL2
   obtain ⟨t4,L4,rfl,hL4⟩:=Xah hL3
   clear hL3
   obtain ⟨t5,L5,rfl,hL5⟩:=Xah hL4
   clear hL4
   obtain ⟨t6,L6,rfl,hL6⟩:=Xah hL5
   clear hL5
   obtain ⟨t7,L7,rfl,hL7⟩:=Xah hL6
   clear hL6
   obtain ⟨t8,L8,rfl,hL8⟩:=Xah hL7
   clear hL7
   obtain ⟨t9,L9,rfl,hL9⟩:=Xah hL8
   clear hL8
   obtain ⟨t10,L10,rfl,hL10⟩:=Xah hL9
   clear hL9
   obtain ⟨t11,L11,rfl,hL11⟩:=Xah hL10
   clear hL10
   obtain ⟨t12,L12,rfl,hL12⟩:=Xah hL11
   clear hL11
   obtain ⟨t13,L13,rfl,hL13⟩:=Xah hL12
   clear hL12
   obtain ⟨t14,L14,rfl,hL14⟩:=Xah hL13
   clear hL13
   obtain ⟨t15,L15,rfl,hL15⟩:=Xah hL14
   clear hL14
   obtain ⟨t16,L16,rfl,hL16⟩:=Xah hL15
   clear hL15
   obtain ⟨t17,L17,rfl,hL17⟩:=Xah hL16
   clear hL16
   obtain ⟨t18,L18,rfl,hL18⟩:=Xah hL17
   clear hL17
   obtain ⟨t19,L19,rfl,hL19⟩:=Xah hL18
   clear hL18
   obtain ⟨t20,L20,rfl,hL20⟩:=Xah hL19
   clear hL19
   obtain ⟨t21,L21,rfl,hL21⟩:=Xah hL20
   clear hL20
   obtain ⟨t22,L22,rfl,hL22⟩:=Xah hL21
   clear hL21
   obtain ⟨t23,L23,rfl,hL23⟩:=Xah hL22
   clear hL22
   obtain ⟨t24,L24,rfl,hL24⟩:=Xah hL23
   clear hL23
   obtain ⟨t25,L25,rfl,hL25⟩:=Xah hL24
   clear hL24
   obtain ⟨t26,L26,rfl,hL26⟩:=Xah hL25
   clear hL25
   obtain ⟨t27,L27,rfl,hL27⟩:=Xah hL26
   clear hL26
   obtain ⟨t28,L28,rfl,hL28⟩:=Xah hL27
   clear hL27
   obtain ⟨t29,L29,rfl,hL29⟩:=Xah hL28
   clear hL28
   obtain ⟨t30,L30,rfl,hL30⟩:=Xah hL29
   clear hL29
   obtain ⟨t31,L31,rfl,hL31⟩:=Xah hL30
   clear hL30
   obtain ⟨t32,L32,rfl,hL32⟩:=Xah hL31
   clear hL31
   obtain ⟨t33,L33,rfl,hL33⟩:=Xah hL32
   clear hL32
   obtain ⟨t34,L34,rfl,hL34⟩:=Xah hL33
   clear hL33
   obtain ⟨t35,L35,rfl,hL35⟩:=Xah hL34
   clear hL34
   obtain ⟨t36,L36,rfl,hL36⟩:=Xah hL35
   clear hL35
   obtain ⟨t37,L37,rfl,hL37⟩:=Xah hL36
   clear hL36
   obtain ⟨t38,L38,rfl,hL38⟩:=Xah hL37
   clear hL37
   obtain ⟨t39,L39,rfl,hL39⟩:=Xah hL38
   clear hL38
   obtain ⟨t40,L40,rfl,hL40⟩:=Xah hL39
   clear hL39
   obtain ⟨t41,L41,rfl,hL41⟩:=Xah hL40
   clear hL40
   obtain ⟨t42,L42,rfl,hL42⟩:=Xah hL41
   clear hL41
   obtain ⟨t43,L43,rfl,hL43⟩:=Xah hL42
   clear hL42
   obtain ⟨t44,L44,rfl,hL44⟩:=Xah hL43
   clear hL43
   obtain ⟨t45,L45,rfl,hL45⟩:=Xah hL44
   clear hL44
   obtain ⟨t46,L46,rfl,hL46⟩:=Xah hL45
   clear hL45
   obtain ⟨t47,L47,rfl,hL47⟩:=Xah hL46
   clear hL46
   obtain ⟨t48,L48,rfl,hL48⟩:=Xah hL47
   clear hL47
   obtain ⟨t49,L49,rfl,hL49⟩:=Xah hL48
   clear hL48
   obtain ⟨t50,L50,rfl,hL50⟩:=Xah hL49
   clear hL49
   obtain ⟨t51,L51,rfl,hL51⟩:=Xah hL50
   clear hL50
   obtain ⟨t52,L52,rfl,hL52⟩:=Xah hL51
   clear hL51
   obtain ⟨t53,L53,rfl,hL53⟩:=Xah hL52
   clear hL52
   obtain ⟨t54,L54,rfl,hL54⟩:=Xah hL53
   clear hL53
   obtain ⟨t55,L55,rfl,hL55⟩:=Xah hL54
   clear hL54
   obtain ⟨t56,L56,rfl,hL56⟩:=Xah hL55
   clear hL55
   obtain ⟨t57,L57,rfl,hL57⟩:=Xah hL56
   clear hL56
   obtain ⟨t58,L58,rfl,hL58⟩:=Xah hL57
   clear hL57
   obtain ⟨t59,L59,rfl,hL59⟩:=Xah hL58
   clear hL58
   obtain ⟨t60,L60,rfl,hL60⟩:=Xah hL59
   clear hL59
   obtain ⟨t61,L61,rfl,hL61⟩:=Xah hL60
   clear hL60
   obtain ⟨t62,L62,rfl,hL62⟩:=Xah hL61
   clear hL61
   obtain ⟨t63,L63,rfl,hL63⟩:=Xah hL62
   clear hL62
   obtain ⟨t64,L64,rfl,hL64⟩:=Xah hL63
   clear hL63
   obtain ⟨t65,L65,rfl,hL65⟩:=Xah hL64
   clear hL64
   obtain ⟨t66,L66,rfl,hL66⟩:=Xah hL65
   clear hL65
   obtain ⟨t67,L67,rfl,hL67⟩:=Xah hL66
   clear hL66
   obtain ⟨t68,L68,rfl,hL68⟩:=Xah hL67
   clear hL67
   obtain ⟨t69,L69,rfl,hL69⟩:=Xah hL68
   clear hL68
   obtain ⟨t70,L70,rfl,hL70⟩:=Xah hL69
   clear hL69
   obtain ⟨t71,L71,rfl,hL71⟩:=Xah hL70
   clear hL70
   obtain ⟨t72,L72,rfl,hL72⟩:=Xah hL71
   clear hL71
   obtain ⟨t73,L73,rfl,hL73⟩:=Xah hL72
   clear hL72
   obtain rfl:=W0l hL73
   obtain rfl : t1=.pointer (some ⟨bx,0,none⟩):=e1
   obtain rfl : t4=.pointer (some ⟨by4,0,none⟩):=e4
   have hfin : ∀ {w' : World} {s : List UInt8},Below W.w.heap.size W.w w'→s=tx z→Ret W0 (fun x=>x=.d (.str (tx z))) (.returned (.string ⟨s.toArray⟩)) w':=fun {w' s} h e=>by
    obtain ⟨W',h1,h2⟩:=Xko h
    subst e
    refine ⟨W',_,_,rfl,h1,⟨h2.os.trans hfm.os,h2.out.trans hfm.out,h2.tape.trans hfm.tape,W0h hfm.size h2.size,fun b hb hx=>(h2.same b (W0p hb hfm.size) id).trans (hfm.same b hb hx),fun b hb hx i=>(h2.A b (W0p hb hfm.size) id i).trans (hfm.A b hb hx i),hfm.le.trans h2.le⟩,Xld ?_,fun _ h=>h,rfl⟩
    have:=Xob z.natAbs
    unfold tx
    split <;> simp only [W0d,W0o,W3s] <;> omega
   clear q2 q3 q6 q7 hθ hck
   obtain ⟨w,hww⟩ : ∃ w,w=W.w:=⟨_,rfl⟩
   have hgw : ∀ {w' : World},Below w.heap.size w w'→Gb.g Tryz.prog (gw1 w'):=fun h=>Gb.mono _ _ (Yhz (n:=w.heap.size) (by rw [←hww];exact h) (by rw [←hww];exact W0c _)) hgW
   rw [←hww] at c1 c4 hcell hb1 hb4 hb7 hfin ⊢
   clear hww hgW hzl hzs hcl hnl hll hwo hn hdx hsz h hp hl q1 q5 p1 p4 hfm
   have hz9 : zs.length*4≤140737488351232:=by omega
   have cA : ∀ o,(w.alloc o).cell? ⟨bx,0,none⟩=some (.bool (decide (z<0))):=fun o=>(World.cell?_of_block (a:=⟨bx,0,none⟩) (Below.heap_alloc w o bx hb1)).trans c1
   have c4A : ∀ o,(w.alloc o).cell? ⟨by4,0,none⟩=some (.slice (some ⟨b7,0,none⟩) zs.length cp):=fun o=>(World.cell?_of_block (a:=⟨by4,0,none⟩) (Below.heap_alloc w o by4 hb4)).trans c4
   by_cases hneg : z<0
   · simp only [decide_eq_true hneg] at cA
     gi_wp2
     refine ⟨trivial,(callsIn_wide.2 (Any.Builder_WriteByte_k Yh1 Yke w.heap.size w.heap.size [] 45 _ (.of (Lib.fresh_isBuilder _ _ w)) (by decide) (by simp))).mono ?_⟩
     rintro e wb ⟨rfl,hB,hbw,hok⟩
     have hB : Lib.IsBuilderF (rnB.t 72) (rnB.t 5) w.heap.size w.heap.size (Lib.byteCells [45]) wb:=.inr hB
     have hbw : Below w.heap.size w wb:=((Below.refl _ w).alloc (W0c _) _).trans hbw
     have hlt : w.heap.size<wb.heap.size:=by rcases hB with h | h <;> exact h.lt
     have c4b : wb.cell? ⟨by4,0,none⟩=some (.slice (some ⟨b7,0,none⟩) zs.length cp):=(hbw.cell (p:=⟨by4,0,none⟩) hb4).trans c4
     gi_wp2
     refine ⟨trivial,(Xoh Fence.wide 7 trivial rfl _ _ _ _).mono ?_⟩
     rintro e w2 ⟨rfl,hw2⟩
     have hBS : w2.heap[wb.heap.size]?=some (.cells #[.slice (some ⟨b7,0,none⟩) zs.length cp] 27 (0,0)):=by rw [hw2];exact World.alloc_heap_new wb _
     have hb2 : Below w.heap.size w w2:=by rw [hw2];exact hbw.alloc (by have:=hbw.size;omega) _
     have hB2 : Lib.IsBuilderF (rnB.t 72) (rnB.t 5) w.heap.size w.heap.size (Lib.byteCells [45]) w2:=by rw [hw2];exact hB.alloc _
     have hs2 : w2.heap.size=wb.heap.size+1:=by rw [hw2];simp
     have hcell2 : ∀ j,j<zs.length→w2.cell? ⟨b7,0+j,none⟩=some (.int .u32 ((zs[j]?.getD ⟨0,by decide⟩).1 : Int)):=fun j hj=>(hb2.cell (p:=⟨b7,0+j,none⟩) hb7).trans (hcell j hj)
     have cBS : w2.cell? ⟨wb.heap.size,0,none⟩=some (.slice (some ⟨b7,0,none⟩) zs.length cp):=by simp [World.cell?,hBS]
     obtain ⟨BS,hBSe⟩ : ∃ BS,BS=wb.heap.size:=⟨_,rfl⟩
     rw [←hBSe] at hBS hs2 cBS hlt ⊢
     clear hw2 hBSe hB hbw c4b hok
     gi_wp2
     refine wpIn_rangeFunc_ownG rfl (by decide) (gf:=258) (lb:=#[.pointer (some ⟨BS,0,none⟩)]) rfl trivial (enters_of Tryz.func258 (by kernel_rfl) rfl)
      (Xmw Fence.wide (8 - 1) trivial rfl (by decide) BS w.heap.size b7 0 cp zs hz9 w2 (by omega) (by omega) cBS hb7 hcell2) Kq.trans (fun W l o o' hl h _ _=>Xuw W l o hl (by omega) (by omega) h o') (Below.refl _ _) (fun _=>rfl)
      (fun pre W=>(Lib.IsBuilderF (rnB.t 72) (rnB.t 5) w.heap.size w.heap.size (Lib.byteCells (o9 zs.length [45] pre)) W∧W.heap[BS]?=some (.cells #[.slice (some ⟨b7,0,none⟩) zs.length cp] 27 (0,0)))∧Below w.heap.size w W)
      (fun _ _ _=>False)
      (OwnFrom.and (Own.from (fun s A B row hs hg hr=>⟨Xu0 _ _ _ _ (fun p=>Lib.byteCells (o9 zs.length [45] p)) s A B row hs.1 hg hr,Xh1 hs.2 hg hr⟩) _) (ownFrom_below (W0c _) (by omega)))
      (fun _ _ _ _ _ hs _ _=>hs)
      ⟨⟨hB2,hBS⟩,hb2⟩
      (fun x=>{ tmps:=#[t0,.pointer (some ⟨bx,0,none⟩),t2,t3,.pointer (some ⟨by4,0,none⟩),t5,t6,.pointer (some ⟨w.heap.size,0,none⟩),.int .i64 (x.1 : Int),.int .u32 (x.2.1 : Int),t10,t11,t12,t13,t14,t15,t16,t17,t18,t19,t20,t21,t22,t23,t24,t25,t26,t27,t28,t29,t30,t31,t32,t33,t34,t35,t36,t37,t38,t39,t40,t41,t42,t43,t44,t45,t46,t47,t48,t49,t50,.pointer (some ⟨bx,0,none⟩),.bool true,.nilIface,.slice (some ⟨b7,0,none⟩) zs.length cp,.func (.func 258) #[] #[.pointer (some ⟨BS,0,none⟩)],.int .i64 (x.1 : Int),.int .u32 (x.2.1 : Int),t58,t59,t60,t61,t62,t63,t64,t65,t66,t67,t68,t69,t70,t71,t72,t73],defers:=[] }) ?assign ?body ?done ?stop
     case assign =>
      intro l x W K hK
      gi_wp2
      exact hK
     case stop =>
      rintro D c pre W _ _ h _
      exact h.elim
     case body =>
      rintro l pre x W ⟨⟨hBd,hBS⟩,hBl⟩ hlen
      gi_wp2
      rw [wU (by have:=x.2.2;omega)]
      refine ⟨trivial,(CallsIn.inRound l (callsIn_wide.2 (Ynb (hgw hBl) x.2))).mono ?_⟩
      rintro e W1 ⟨rfl,hW1⟩
      have h9 : W9 w.heap.size BS w2.heap.size (.slice (some ⟨b7,0,none⟩) zs.length cp) w W (o9 zs.length [45] pre) W1:=W9.below ⟨hBd,hBS,hBl,KeepsFrom.refl _ _,Kq.refl _ _ _⟩ hBl.size hW1
      have c41 : W1.cell? ⟨by4,0,none⟩=some (.slice (some ⟨b7,0,none⟩) zs.length cp):=(h9.l.cell (p:=⟨by4,0,none⟩) hb4).trans c4
      have hxl:=Ylw x.2
      have hol:=Xuc zs.length pre [45]
      have hos:=Xnq zs.length [45] pre x
      have hsgl : ([45] : List UInt8).length≤1:=by decide
      have hpl : pre.length<549755813888:=by omega
      obtain ⟨ds,hds⟩ : ∃ ds,ds=dec x.2.1:=⟨_,rfl⟩
      rw [←hds] at hxl hos ⊢
      have hBn : BS≠w.heap.size:=by omega
      clear hds hBd hBS hW1
      gi_wp2
      · rename_i hx
        refine ⟨trivial,(CallsIn.inRound l (callsIn_wide.2 (Yms (hgw h9.l) (n:=9 - ds.length) (by omega) (by omega)))).mono ?_⟩
        rintro e W2 ⟨rfl,hW2⟩
        have h9b:=h9.below h9.l.size hW2
        obtain ⟨zr,hzr⟩ : ∃ zr,zr=List.replicate (9 - ds.length) (48 : UInt8):=⟨_,rfl⟩
        have hzrl : zr.length≤9:=by rw [hzr,W1q];omega
        rw [←hzr]
        rw [if_pos (by omega),←hzr] at hos
        clear hzr
        gi_wp2
        refine ⟨trivial,(CallsIn.inRound l (callsIn_wide.2 (h9b.wr zr h9b.l.size hBn (by omega)))).mono ?_⟩
        rintro e W3 ⟨rfl,h9c⟩
        gi_wp2
        refine ⟨trivial,(CallsIn.inRound l (callsIn_wide.2 (h9c.wr ds h9c.l.size hBn (by simp only [W0d];omega)))).mono ?_⟩
        rintro e W4 ⟨rfl,h9d⟩
        gi_wp2
        exact ⟨h9d.k,h9d.q,⟨by rw [hos];exact h9d.b,h9d.s⟩,h9d.l⟩
      · rename_i hx
        rw [if_neg (by omega),W4w] at hos
        refine ⟨trivial,(CallsIn.inRound l (callsIn_wide.2 (h9.wr ds h9.l.size hBn (by omega)))).mono ?_⟩
        rintro e W4 ⟨rfl,h9d⟩
        gi_wp2
        exact ⟨h9d.k,h9d.q,⟨by rw [hos];exact h9d.b,h9d.s⟩,h9d.l⟩
     case done =>
      rintro D ys W hD rfl ⟨⟨hBd,hBS⟩,hBl⟩ hK
      gi_wp2
      have hne : o9 zs.length [45] (b9 zs zs.length)=tx z:=by
       rw [Ydi _ _ _ (W0c _),W3f,W1b,htx]
       unfold tx
       rw [if_pos hneg]
      rw [hne] at hBd
      have hn0 : tx z≠[]:=by
       unfold tx
       intro h
       exact Xv7 _ (List.append_eq_nil_iff.1 h).2
      refine ⟨trivial,(callsIn_wide.2 (Any.Builder_String_k Ybj Yke w.heap.size w.heap.size (tx z) W hBd hn0)).mono ?_⟩
      rintro e W3 ⟨rfl,_,hb3,hok3⟩
      have hK3:=hok3 D _ hK (by intro h;cases h;have:=hBl.size;omega) (by intro c fz h;cases h)
      gi_wp2
      refine ⟨by simp,.inl ⟨_,_,rfl,run_takeDeferred hK3,?_⟩⟩
      refine ⟨_,results_tmp rfl _ _ _,?_⟩
      refine hfin (s:=tx z) ?_ rfl
      exact (hBl.trans hb3).trans (belowK_b (w:=w) (W0c _) W3 D _ _ (by omega) hK3 rfl rfl)
   · simp only [decide_eq_false hneg] at cA
     gi_wp2
     obtain ⟨wb,hwb⟩ : ∃ wb,wb=w.alloc (.cells #[.pointer none,.slice none 0 0] 148):=⟨_,rfl⟩
     have hB : Lib.IsBuilderF (rnB.t 72) (rnB.t 5) w.heap.size w.heap.size (Lib.byteCells []) wb:=by rw [hwb];exact .of (Lib.fresh_isBuilder _ _ w)
     have hbw : Below w.heap.size w wb:=by rw [hwb];exact (Below.refl _ w).alloc (W0c _) _
     have hlt : w.heap.size<wb.heap.size:=by rcases hB with h | h <;> exact h.lt
     rw [←hwb]
     clear hwb
     refine ⟨trivial,(Xoh Fence.wide 7 trivial rfl _ _ _ _).mono ?_⟩
     rintro e w2 ⟨rfl,hw2⟩
     have hBS : w2.heap[wb.heap.size]?=some (.cells #[.slice (some ⟨b7,0,none⟩) zs.length cp] 27 (0,0)):=by rw [hw2];exact World.alloc_heap_new wb _
     have hb2 : Below w.heap.size w w2:=by rw [hw2];exact hbw.alloc (by have:=hbw.size;omega) _
     have hB2 : Lib.IsBuilderF (rnB.t 72) (rnB.t 5) w.heap.size w.heap.size (Lib.byteCells []) w2:=by rw [hw2];exact hB.alloc _
     have hs2 : w2.heap.size=wb.heap.size+1:=by rw [hw2];simp
     have hcell2 : ∀ j,j<zs.length→w2.cell? ⟨b7,0+j,none⟩=some (.int .u32 ((zs[j]?.getD ⟨0,by decide⟩).1 : Int)):=fun j hj=>(hb2.cell (p:=⟨b7,0+j,none⟩) hb7).trans (hcell j hj)
     have cBS : w2.cell? ⟨wb.heap.size,0,none⟩=some (.slice (some ⟨b7,0,none⟩) zs.length cp):=by simp [World.cell?,hBS]
     obtain ⟨BS,hBSe⟩ : ∃ BS,BS=wb.heap.size:=⟨_,rfl⟩
     rw [←hBSe] at hBS hs2 cBS hlt ⊢
     clear hw2 hBSe hB hbw
     gi_wp2
     refine wpIn_rangeFunc_ownG rfl (by decide) (gf:=258) (lb:=#[.pointer (some ⟨BS,0,none⟩)]) rfl trivial (enters_of Tryz.func258 (by kernel_rfl) rfl)
      (Xmw Fence.wide (8 - 1) trivial rfl (by decide) BS w.heap.size b7 0 cp zs hz9 w2 (by omega) (by omega) cBS hb7 hcell2) Kq.trans (fun W l o o' hl h _ _=>Xuw W l o hl (by omega) (by omega) h o') (Below.refl _ _) (fun _=>rfl)
      (fun pre W=>(Lib.IsBuilderF (rnB.t 72) (rnB.t 5) w.heap.size w.heap.size (Lib.byteCells (o9 zs.length [] pre)) W∧W.heap[BS]?=some (.cells #[.slice (some ⟨b7,0,none⟩) zs.length cp] 27 (0,0)))∧Below w.heap.size w W)
      (fun _ _ _=>False)
      (OwnFrom.and (Own.from (fun s A B row hs hg hr=>⟨Xu0 _ _ _ _ (fun p=>Lib.byteCells (o9 zs.length [] p)) s A B row hs.1 hg hr,Xh1 hs.2 hg hr⟩) _) (ownFrom_below (W0c _) (by omega)))
      (fun _ _ _ _ _ hs _ _=>hs)
      ⟨⟨hB2,hBS⟩,hb2⟩
      (fun x=>{ tmps:=#[t0,.pointer (some ⟨bx,0,none⟩),t2,t3,.pointer (some ⟨by4,0,none⟩),t5,t6,.pointer (some ⟨w.heap.size,0,none⟩),.int .i64 (x.1 : Int),.int .u32 (x.2.1 : Int),t10,t11,t12,t13,t14,t15,t16,t17,t18,t19,t20,t21,t22,t23,t24,t25,t26,t27,t28,t29,t30,t31,t32,t33,t34,t35,t36,t37,t38,t39,t40,t41,t42,t43,t44,t45,t46,t47,t48,t49,t50,.pointer (some ⟨bx,0,none⟩),.bool false,t53,.slice (some ⟨b7,0,none⟩) zs.length cp,.func (.func 258) #[] #[.pointer (some ⟨BS,0,none⟩)],.int .i64 (x.1 : Int),.int .u32 (x.2.1 : Int),t58,t59,t60,t61,t62,t63,t64,t65,t66,t67,t68,t69,t70,t71,t72,t73],defers:=[] }) ?assign ?body ?done ?stop
     case assign =>
      intro l x W K hK
      gi_wp2
      exact hK
     case stop =>
      rintro D c pre W _ _ h _
      exact h.elim
     case body =>
      rintro l pre x W ⟨⟨hBd,hBS⟩,hBl⟩ hlen
      gi_wp2
      rw [wU (by have:=x.2.2;omega)]
      refine ⟨trivial,(CallsIn.inRound l (callsIn_wide.2 (Ynb (hgw hBl) x.2))).mono ?_⟩
      rintro e W1 ⟨rfl,hW1⟩
      have h9 : W9 w.heap.size BS w2.heap.size (.slice (some ⟨b7,0,none⟩) zs.length cp) w W (o9 zs.length [] pre) W1:=W9.below ⟨hBd,hBS,hBl,KeepsFrom.refl _ _,Kq.refl _ _ _⟩ hBl.size hW1
      have c41 : W1.cell? ⟨by4,0,none⟩=some (.slice (some ⟨b7,0,none⟩) zs.length cp):=(h9.l.cell (p:=⟨by4,0,none⟩) hb4).trans c4
      have hxl:=Ylw x.2
      have hol:=Xuc zs.length pre []
      have hos:=Xnq zs.length [] pre x
      have hsgl : ([] : List UInt8).length≤1:=by decide
      have hpl : pre.length<549755813888:=by omega
      obtain ⟨ds,hds⟩ : ∃ ds,ds=dec x.2.1:=⟨_,rfl⟩
      rw [←hds] at hxl hos ⊢
      have hBn : BS≠w.heap.size:=by omega
      clear hds hBd hBS hW1
      gi_wp2
      · rename_i hx
        refine ⟨trivial,(CallsIn.inRound l (callsIn_wide.2 (Yms (hgw h9.l) (n:=9 - ds.length) (by omega) (by omega)))).mono ?_⟩
        rintro e W2 ⟨rfl,hW2⟩
        have h9b:=h9.below h9.l.size hW2
        obtain ⟨zr,hzr⟩ : ∃ zr,zr=List.replicate (9 - ds.length) (48 : UInt8):=⟨_,rfl⟩
        have hzrl : zr.length≤9:=by rw [hzr,W1q];omega
        rw [←hzr]
        rw [if_pos (by omega),←hzr] at hos
        clear hzr
        gi_wp2
        refine ⟨trivial,(CallsIn.inRound l (callsIn_wide.2 (h9b.wr zr h9b.l.size hBn (by omega)))).mono ?_⟩
        rintro e W3 ⟨rfl,h9c⟩
        gi_wp2
        refine ⟨trivial,(CallsIn.inRound l (callsIn_wide.2 (h9c.wr ds h9c.l.size hBn (by simp only [W0d];omega)))).mono ?_⟩
        rintro e W4 ⟨rfl,h9d⟩
        gi_wp2
        exact ⟨h9d.k,h9d.q,⟨by rw [hos];exact h9d.b,h9d.s⟩,h9d.l⟩
      · rename_i hx
        rw [if_neg (by omega),W4w] at hos
        refine ⟨trivial,(CallsIn.inRound l (callsIn_wide.2 (h9.wr ds h9.l.size hBn (by omega)))).mono ?_⟩
        rintro e W4 ⟨rfl,h9d⟩
        gi_wp2
        exact ⟨h9d.k,h9d.q,⟨by rw [hos];exact h9d.b,h9d.s⟩,h9d.l⟩
     case done =>
      rintro D ys W hD rfl ⟨⟨hBd,hBS⟩,hBl⟩ hK
      gi_wp2
      have hne : o9 zs.length [] (b9 zs zs.length)=tx z:=by
       rw [Ydi _ _ _ (W0c _),W3f,W1b,htx]
       unfold tx
       rw [if_neg (by omega)]
      rw [hne] at hBd
      have hn0 : tx z≠[]:=by
       unfold tx
       intro h
       exact Xv7 _ (List.append_eq_nil_iff.1 h).2
      refine ⟨trivial,(callsIn_wide.2 (Any.Builder_String_k Ybj Yke w.heap.size w.heap.size (tx z) W hBd hn0)).mono ?_⟩
      rintro e W3 ⟨rfl,_,hb3,hok3⟩
      have hK3:=hok3 D _ hK (by intro h;cases h;have:=hBl.size;omega) (by intro c fz h;cases h)
      gi_wp2
      refine ⟨by simp,.inl ⟨_,_,rfl,run_takeDeferred hK3,?_⟩⟩
      refine ⟨_,results_tmp rfl _ _ _,?_⟩
      refine hfin (s:=tx z) ?_ rfl
      exact (hBl.trans hb3).trans (belowK_b (w:=w) (W0c _) W3 D _ _ (by omega) hK3 rfl rfl)
theorem Xrv {z : Int} (hl : (dig z.natAbs).length≤274877906944) : C0 105 [.d (dz z)] (·=.d (.str (tx z))):=by
 by_cases hz : z=0
 · subst hz
   have : tx 0=[48]:=by unfold tx;rw [if_neg (by decide),show Int.natAbs 0=0 from rfl,Xdf (by decide)];rfl
   rw [this];exact Xop
 · exact Xsb hz hl
end
end Go.Proofs.YtpgcfjpkilabfaaGreatDoor
namespace Go.Proofs.YtpgcfjpkilabfaaGreatDoor.P11
open Go Go.Vm Go.Num Go.Tow Go.Proofs.YtpgcfjpkilabfaaGreatDoor Go.Proofs.YtpgcfjpkilabfaaGreatDoor.P9 Go.Proofs.YtpgcfjpkilabfaaGreatDoor.R11
section
def fmtV (z : Int) (d : Nat) : AV:=if (txt z d).length≤400 then .tup (.pr (.d (.str (txt z d))) (.d (.int .i64 0))) else .tup (.pr (.d (.str [])) (.d (.int .i64 3)))
abbrev RndOf (x : Nm) (d : Nat) (z : Int) : Prop:=Xa7 x.k x.t (scl x.k x.t x.a ((10 ^ d : Int) : Rat) hf) z
theorem dcT {p : Prop} (h : p) : dc p=true:=Xan.2 h
theorem dcF {p : Prop} (h : ¬ p) : dc p=false:=W4j.2 fun e=>h (Xan.1 e)
theorem Yi6 {z : Int} (hl : (dig z.natAbs).length≤274877906944) : C0 104 [.d (.str (tx z)),.d (.str [45])] (·=.tup (.pr (.d (.str (dec z.natAbs))) (.b (dc (z<0))))):=by
 have hlen:=Xob z.natAbs
 have hT : Tx (tx z):=by
  by_cases h : z<0
  · rw [Xsx h];show (45::dec z.natAbs).length<_;rw [W0o];omega
  · rw [Xsw h];show (dec z.natAbs).length<_;omega
 have h:=Xm2 (s:=tx z) (t:=[45]) hT (by decide)
 by_cases hz : z<0
 · have e : (tx z).take [(45 : UInt8)].length=[45]:=by rw [Xsx hz];rfl
   rw [if_pos e,show (tx z).drop [(45 : UInt8)].length=dec z.natAbs by rw [Xsx hz];rfl] at h
   exact h.mono fun v hv=>by rw [hv,dcT e,dcT hz]
 · have e : ¬ (tx z).take [(45 : UInt8)].length=[45]:=fun e=>by
    rw [Xsw hz] at e
    have hm : (45 : UInt8)∈dec z.natAbs:=W7f (by rw [e];exact W0e.2 rfl)
    have:=(Yi1 z.natAbs 45 hm).1
    exact absurd this (by decide)
   exact h.mono fun v hv=>by rw [hv,if_neg e,dcF e,dcF hz,Xsw hz]
theorem Xw3 {x : Nm} {d : Nat} (H : Pk x) (hd : d≤60) : C0 48 [.d (dN x),.d (.int .i64 d)] fun v=>∃ z,RndOf x d z∧(dig z.natAbs).length≤274877906944∧v=fmtV z d:=by
 refine En Tryz.func48 fun _ _ _=>?_
 refine Ca rfl (Round_ok H hd) fun v hv=>?_
 obtain ⟨z,rfl,hz,hl⟩:=hv
 have hlen:=Xob z.natAbs
 have hpl:=Yde d (dec z.natAbs)
 have hdp:=Xv5 z.natAbs
 obtain ⟨s,hs⟩ : ∃ s,s=dec z.natAbs:=⟨_,rfl⟩
 rw [←hs] at hlen hpl hdp
 have hct:=Yi6 hl
 rw [←hs] at hct
 refine No rfl (by decide) ?_
 refine Ce rfl (Xrv hl) ?_
 refine Ce rfl hct ?_
 obtain ⟨q,hq⟩ : ∃ q,q=pad d s:=⟨_,rfl⟩
 have hql : q.length=max (d+1) s.length:=by rw [hq,hpl]
 obtain ⟨r,hr⟩ : ∃ r,r=pt d q:=⟨_,rfl⟩
 have hrl : r.length≤q.length+1:=by
  rw [hr,pt];split
  · omega
  · rw [W0d,W0o,W0j,W2e];omega
 have htx : txt z d=(if z<0 then [45] else [])++r:=by rw [txt,hr,hq,hs]
 refine Cu none (fun (_ : Unit)=>[(1,.d (.int .i64 d)),(8,.d (.str q)),(9,.b (dc (z<0)))]) (fun _=>[]) (fun _=>True) rfl ?_ fun _ _=>?_
 · refine By rfl (fun h=>?_) fun h=>?_
   · have h : ((s.length : Nat) : Int)≤d:=h
     refine Ar (d+1 : Nat) rfl ?_
     refine Ar (d+1 - s.length : Nat) rfl ?_
     refine Ce rfl (Xjg (by omega)) ?_
     refine Sc q rfl (by rw [hq];rfl) (by rw [W1q];omega) ?_
     exact Jn () [] rfl trivial
   · have h : ¬ ((s.length : Nat) : Int)≤d:=h
     have e : q=s:=by rw [hq,pad,show d+1 - s.length=0 by omega];rfl
     rw [e]
     exact Jn () [] rfl trivial
 refine Cu none (fun (_ : Unit)=>[(1,.d (.int .i64 d)),(8,.d (.str r)),(9,.b (dc (z<0)))]) (fun _=>[]) (fun _=>True) rfl ?_ fun _ _=>?_
 · refine By rfl (fun h=>?_) fun h=>?_
   · refine Dw rfl ?_
     refine Ar ((q.length - d : Nat) : Int) rfl ?_
     refine Stk (q.length - d) _ rfl (by omega) rfl ?_
     refine Sc (q.take (q.length - d)++[46]) rfl rfl (by simp;omega) ?_
     refine Ar ((q.length - d : Nat) : Int) rfl ?_
     refine Sdp (q.length - d) _ rfl (by omega) rfl ?_
     refine Sc r rfl (by rw [hr,pt,if_neg (by omega)];simp) (by simp;omega) ?_
     exact Jn () [] rfl trivial
   · have e : r=q:=by rw [hr,pt,if_pos (by omega)]
     rw [e]
     exact Jn () [] rfl trivial
 refine Cu none (fun (_ : Unit)=>[(8,.d (.str (txt z d)))]) (fun _=>[]) (fun _=>True) rfl ?_ fun _ _=>?_
 · refine By rfl (fun h=>?_) fun h=>?_
   · refine Sc (txt z d) rfl (by rw [htx,if_pos h]) (by show 1+r.length<_;omega) ?_
     exact Jn () [] rfl trivial
   · rw [htx,if_neg h]
     exact Jn () [] rfl trivial
 refine By rfl (fun h=>?_) fun h=>?_
 · exact Rt rfl (.tup (.cons (.rf rfl) Xa3)) ⟨z,hz,hl,by rw [fmtV,if_neg (by omega)]⟩
 · exact Rt rfl (.tup (.cons (.rf rfl) Xa3)) ⟨z,hz,hl,by rw [fmtV,if_pos (by omega)]⟩
theorem dFmt_ok {x : Nm} {d : Nat} (H : Pk x) (hd : d≤60) : C0 48 [.d (dN x),.d (.int .i64 d)] fun v=>∃ z,RndOf x d z∧(dig z.natAbs).length≤274877906944∧v=fmtV z d:=Xw3 H hd
end
section
end
section
end
end Go.Proofs.YtpgcfjpkilabfaaGreatDoor.P11

/- part 5 -/
import Derived.Test.YtjcejnjhfcbafaaGreatDoorXD
import Derived.Test.YtjcejnjhfcbafaaGreatDoorCards
import Derived.Test.YtjcejnjhfcbafaaGreatDoorTie
import Derived.Deep.DeepHandedRow
import Derived.Lib.LaidTab
import Derived.MakeChecks
import Derived.Stop.LaidErr
import Derived.Lib.AppendZeros
import Derived.Lib.Bytealg
import Derived.Shelf.Strings.AsciiSet
import Derived.RangeFuncLeaves
import Derived.ControlIn
set_option linter.unusedVariables false
set_option linter.unusedSimpArgs false
set_option maxRecDepth 100000
namespace Go.Proofs.YtjcejnjhfcbafaaGreatDoor
open Go Go.Vm Go.Num Go.Tow
structure RO where
 kind : Nat
 a : Nat
 b : Nat
 n : Int
 d : Nat
 h : kind<256∧a<256∧b<256∧d<256∧-128≤n∧n<128
abbrev dO (o : RO) : D:=.st (.pr (.int .u8 o.kind) (.pr (.int .u8 o.a) (.pr (.int .u8 o.b) (.pr (.int .i8 o.n) (.int .u8 o.d)))))
abbrev dRs (l : List RO) : D:=.sl 5 (l.map dO)
end Go.Proofs.YtjcejnjhfcbafaaGreatDoor
namespace Go.Proofs.YtjcejnjhfcbafaaGreatDoor.R9
open Go Go.Vm Go.Num Go.Tow Go.Proofs.YtjcejnjhfcbafaaGreatDoor
theorem Xxv {l : List Rat} {n q : Nat} (h : ∀ x∈l,sh x) (hn : l.length≤n) (hq : 64*n+1≤q) : Sz q l:=(Sz.all fun x hx=>(h x hx).qs).mono (W0h (by have:=W0q 64 hn;omega) hq)
theorem shN.ok {K : Nat} {G : Tw K} {S : List (Tow.El K)} {r p : Nat} {z : Nm} {v : Tow.El K} (hs : shN z) (h : NOk G S r p z v) (hk : z.k≤3) : NOk G S 300 600 z v :=
 ⟨h.ex,TS.of fun i l hl=>by
  have hi:=(W1a.1 hl).1
  rw [Xaa] at hi
  have : l.length≤4:=by
   rw [(TS.pt h.r _ _ hl).1];exact W0i (n:=2) (by decide) (show i≤2 by omega)
  exact Xxv (n:=4) (hs.2 l (W0m hl)) this (by decide),
  Xxv (n:=8) hs.1 (by rw [Xab];exact W0i (n:=2) (by decide) hk) (by decide)⟩
def Big (l : List Nm) (n : Nat) (z : Nm) : Prop:=n≤3∧Wld n l fun G S=>∃ v,NOk G S wR (oW 1000000) z v
theorem bnds : 300≤wR∧600≤oW 1000000∧600+gC 300 3≤oW 1000000∧900≤wR∧iS 300 3 600≤1000000∧iB 300 3 600≤4398046511104∧qB 300 3 600≤4398046511104∧qB 300 3 300≤4398046511104∧vB 300 3 (600+gC 300 3)≤4398046511104∧vB 300 3 300≤4398046511104∧vB 300 3 600≤4398046511104∧oW 1000000≤8796093022208:=by decide +kernel
theorem remN {a m : Nat} {k : IntKind} (hm : 0<m) : arB .rem k a m (a % m : Nat):=show _∧_ from ⟨by omega,Xrw a m⟩
theorem Xpk {n m : Nat} {l : List Nm} {P : ∀ {K : Nat},Tw K→List (Tow.El K)→Prop} (h : Wld n l @P) (hn : n≤m) : Wld m l @P:=by
 obtain ⟨K,G,S,h1,h2,h3,h4⟩:=h
 exact ⟨K,G,S,h1,W0h h2 hn,h3,h4⟩
theorem Ydx {n : Int} {d : Nat} (hn : -128≤n∧n<128) (hd : 0<d∧d≤8) : sh (Rat.divInt n d):=by
 have h1 : (Rat.divInt n d).num.natAbs≤n.natAbs:=by
  rw [Rat.num_divInt,Int.natAbs_ediv_of_dvd ?_]
  · have hs : ((d : Int)).sign=1:=W6l (by omega)
    rw [hs,W5k]
    exact W3p ..
  · have hs : ((d : Int)).sign=1:=W6l (by omega)
    rw [hs,W5k];exact Int.gcd_dvd_right ..
 have h2 : (Rat.divInt n d).den≤d:=by
  rw [Rat.den_divInt,if_neg (by omega),W1g]
  exact W3p ..
 exact ⟨Xao (W1n h1 (by omega)),Xao (W1n h2 (by omega))⟩
theorem Xz3 {ops : List RO} : C0 32 [.d (dRs ops)] fun v=>∃ l : List Nm,v=.d (dNs l)∧l.length≤24∧(∀ z∈l,Tm z∧shN z)∧Wld 3 l fun _ _=>True:=by
 obtain ⟨b1,b2,b3,b4,b5,b6,b7,b8,b9,b10,b11,b12⟩:=bnds
 have app : ∀ {K : Nat} {G : Tw K} {S : List (Tow.El K)} {l : List Nm} {z : Nm} {v : Tow.El K},(∀ y∈l,∃ v,NOk G S 300 600 y v)→NOk G S 300 600 z v→∀ y∈l++[z],∃ v,NOk G S 300 600 y v:=fun h hz y hy=>by
  rcases W2u.1 hy with hy | hy
  · exact h y hy
  · rw [W0g.1 hy];exact ⟨_,hz⟩
 have apt : ∀ {l : List Nm} {z : Nm},(∀ y∈l,Tm y∧shN y)→(Tm z∧shN z)→∀ y∈l++[z],Tm y∧shN y:=fun h hz y hy=>by
  rcases W2u.1 hy with hy | hy
  · exact h y hy
  · rw [W0g.1 hy];exact hz
 refine En Tryz.func32 fun _ _ _=>?_
 refine Nl 3 3 2 rfl ?_
 refine Lo (fun (s : Nat × Nat × List Nm)=>[(0,.d (dRs ops)),(3,.gr 3 2 (s.2.2.map dN)),(4,.d (.int .i64 s.2.1)),(5,.d (.int .i64 s.1))]) (fun s=>[(3,.tok (s.2.2.map dN).length 2)]) (fun s=>s.1≤24∧s.2.2.length=s.1∧s.2.1≤3∧(∀ z∈s.2.2,Tm z∧shN z)∧Wld s.2.1 s.2.2 fun _ _=>True) (fun s=>24 - s.1) (0,0,[]) [] rfl
  ⟨W1c _,rfl,W1c _,fun z hz=>(nomatch hz),0,(),[],trivial,W0b _,fun g hg=>(by cases hg),fun y hy=>(by cases hy),trivial⟩ (fun (i,n,l) ⟨hi,hl,hn3,hm,hw⟩=>?_)
 simp only at hi hl hn3 hm hw
 refine By rfl (fun h=>?_) fun h=>?_
 · have h : (i : Int)<((ops.map dO).length : Nat):=h
   rw [W0r] at h
   refine By rfl (fun h2=>?_) fun h2=>?_
   · have h2 : (i : Int)<24:=h2
     obtain ⟨o,ho⟩ : ∃ o,ops[i]?=some o:=⟨_,W0e (by omega)⟩
     obtain ⟨o1,o2,o3,o4,o5⟩:=o.h
     refine Ix i rfl (u:=dO o) (by rw [W1t,ho];rfl) ?_
     have frac : sh (Rat.divInt o.n (o.d % 8+1 : Nat)):=Ydx ⟨o5.1,o5.2⟩ ⟨by omega,by omega⟩
     obtain ⟨q,hqe⟩ : ∃ q,q=Rat.divInt o.n (o.d % 8+1 : Nat):=⟨_,rfl⟩
     rw [←hqe] at frac
     have hqs : shN ⟨0,(),q⟩:=⟨fun x hx=>by obtain rfl:=W0g.1 hx;exact frac,fun l hl=>nomatch hl⟩
     have hq0 : ∀ {K : Nat} (G : Tw K) (S : List (Tow.El K)) (r p : Nat),65≤p→NOk G S r p ⟨0,(),q⟩ (rat K q):=fun G S r p hp=>⟨⟨fun _=>zero _,⟨trivial,trivial,fun i hi=>absurd hi (W6k _)⟩,rfl⟩,trivial,Xxv (n:=1) hqs.1 (W0b _) (by omega)⟩
     refine Cv o.n rfl ?_ (wI (by omega))
     refine Ar (o.d % 8 : Nat) rfl ?_ (remN (by decide))
     refine Cv (o.d % 8 : Nat) rfl ?_ (wI (by omega))
     refine Ar (o.d % 8+1 : Nat) rfl ?_
     have hfr:=Frac_ok (a:=o.n) (b:=(o.d % 8+1 : Nat)) (by omega) (by omega) (by omega)
     rw [←hqe] at hfr
     refine Ce rfl hfr ?_
     refine By rfl (fun h3=>?_) fun h3=>?_
     · have h3 : ((l.map dN).length : Int) > 0:=h3
       rw [W0r] at h3
       refine Ar (o.kind % 6 : Nat) rfl ?_ (remN (by decide))
       refine Cu none (fun (s : Nm × Nat)=>[(0,.d (dRs ops)),(3,.gr 3 2 (l.map dN)),(4,.d (.int .i64 s.2)),(5,.d (.int .i64 i)),(7,.ptr 7 0)]) (fun s=>[(3,.tok (l.map dN).length 2),(7,.var (.d (dN s.1)))]) (fun s=>Big l s.2 s.1) rfl ?_ (fun (z,n') hB=>?_)
       · obtain ⟨K,G,S,hG,hS,hq,hall,_⟩:=hw
         have hS3:=W0h hS hn3
         have hGr:=Xah hG
         have W:=hq.wd hG hS3
         refine By rfl (fun h4=>?_) fun h4=>?_
         · obtain ⟨xa,hxa⟩ : ∃ x,l[o.a % l.length]?=some x:=⟨_,W0e (W1x _ (by omega))⟩
           obtain ⟨xb,hxb⟩ : ∃ x,l[o.b % l.length]?=some x:=⟨_,W0e (W1x _ (by omega))⟩
           obtain ⟨va,ha⟩:=hall xa (W0m hxa)
           obtain ⟨vb,hb⟩:=hall xb (W0m hxb)
           have ha1 : NOk G S 300 1000000 xa va:=ha.mono (W0b _) (by decide)
           have hb1 : NOk G S 300 1000000 xb vb:=hb.mono (W0b _) (by decide)
           have hua : (l.map dN)[o.a % l.length]?=some (dN xa):=by rw [W1t,hxa];rfl
           have hub : (l.map dN)[o.b % l.length]?=some (dN xb):=by rw [W1t,hxb];rfl
           have hrm : ∀ {c : Nat},arB .rem .i64 c ((l.map dN).length : Nat) (c % l.length : Nat):=fun {c}=>by rw [W0r];exact remN (by omega)
           have ka:=ha.le hGr hS3
           have ok : ∀ {z : Nm} {v : Tow.El K},NOk G S wR (oW 1000000) z v→Big l n z:=fun h=>⟨hn3,K,G,S,hG,hS,hq,hall,_,h⟩
           have same : Big l n xa:=ok (ha.mono b1 b2)
           refine Dz rfl ?_
           refine Cv (o.a : Nat) rfl ?_ (wI (by omega))
           refine Ar (o.a % l.length : Nat) rfl ?_ hrm
           refine Ix (o.a % l.length) rfl hua ?_
           refine Cv (o.b : Nat) rfl ?_ (wI (by omega))
           refine Ar (o.b % l.length : Nat) rfl ?_ hrm
           refine Ix (o.b % l.length) rfl hub ?_
           refine Ar (o.kind % 6 : Nat) rfl ?_ (remN (by decide))
           refine By rfl (fun c1=>?_) fun c1=>?_
           · refine Ca rfl (Add_ok W ha1 hb1 (by decide)) fun v hv=>?_
             obtain ⟨z,rfl,hz⟩:=hv
             refine Ce rfl (made_ok (x:=z) (y:=xa)) ?_
             exact Jn (z,n) [] rfl (ok hz)
           refine By rfl (fun c2=>?_) fun c2=>?_
           · refine Ca rfl (Sub_ok W ha1 hb1 (by decide)) fun v hv=>?_
             obtain ⟨z,rfl,hz⟩:=hv
             refine Ce rfl (made_ok (x:=z) (y:=xa)) ?_
             exact Jn (z,n) [] rfl (ok hz)
           refine By rfl (fun c3=>?_) fun c3=>?_
           · refine Ca rfl (Mul_ok W ha1 hb1 (by decide)) fun v hv=>?_
             obtain ⟨z,rfl,hz⟩:=hv
             refine Ce rfl (made_ok (x:=z) (y:=xa)) ?_
             exact Jn (z,n) [] rfl (ok hz)
           refine By rfl (fun c4=>?_) fun c4=>?_
           · refine Ca rfl (Div_ok W ha1 hb b5 b6 (by decide)) fun v hv=>?_
             rcases hv with ⟨_,rfl⟩ | ⟨w,_,z,rfl,hz⟩
             · refine Ce rfl (Xyi (y:=xa)) ?_
               exact Jn (xa,n) [] rfl same
             · refine Ce rfl (made_ok (x:=z) (y:=xa)) ?_
               exact Jn (z,n) [] rfl (ok hz)
           have rt : ∀ {y : Nm} {vy : Tow.El K} {v : AV},NOk G S 300 600 y vy→RtR y v→n<3→∃ z : Nm,v=.tup (.pr (.d (dN z)) (.d (.int .i64 0)))∧Big l (n+1) z:=fun {y vy v} hy hv hn=>by
            obtain ⟨ρ,y1,y2⟩:=hy.ex
            have ky:=hy.le hGr hS3
            obtain ⟨z,rfl,⟨w,rfl,e1,e2⟩ | ⟨rfl,e1,e2⟩⟩:=hv
            · exact ⟨_,rfl,by omega,K,G,S,hG,by omega,hq,hall,_,⟨ρ,y1,rfl⟩,hy.r.mono b1,(hy.p.rootS hy.r y1.r e1).mono (W0h (Nat.add_le_add_left (Xvx ky) _) b3)⟩
            · exact ⟨_,rfl,by omega,Xje hG hS hq hall y1 hy.r hy.p e1 e2 ⟨hy.r.mono b1,hy.p.mono (by omega)⟩ ((Xn1 y.k).mono (by omega))⟩
           have sq : ∀ {y : Nm} {vy : Tow.El K},NOk G S 300 600 y vy→0≤sgn K G vy→C0 77 [.d (dN y)] (RtR y):=fun {y vy} hy h0=>by
            obtain ⟨ρ,y1,y2⟩:=hy.ex
            have ky:=hy.le hGr hS3
            rw [hy.sgn hGr] at h0
            have q1:=Xuc (r:=300) (p:=600) ky
            have q2:=Xuc (r:=300) (p:=300) ky
            have q3:=Xcp (r:=300) (k:=y.k) (show 600+gC 300 y.k≤600+gC 300 3 by have:=Xvx (r:=300) ky;omega)
            have q4:=Xi1 (r:=300) (s:=600+gC 300 3) ky
            have q5:=Xi1 (r:=300) (s:=300) ky
            exact Sqrt_ok y1.r hy.r hy.p h0 (by omega) (by omega) (by omega) (by omega) (by omega)
           have q6:=Xi1 (r:=300) (s:=600) ka
           refine Ce rfl (Sign_ok hG ha (by omega) (by omega)) ?_
           refine By rfl (fun c5=>?_) fun c5=>?_
           · refine Ce rfl (Neg_ok ha (by omega) (by decide)) ?_
             have hneg:=ha.neg
             refine By rfl (fun c6=>?_) fun c6=>?_
             · have c6 : (n : Int)<3:=c6
               refine Ar (n+1 : Nat) rfl ?_ (wr (show (n : Int)+1=((n+1 : Nat) : Int) by omega) (by simp only [inK];omega))
               refine Ca rfl (sq hneg (by rw [(Xaw hGr).sn];omega)) fun v hv=>?_
               obtain ⟨z,rfl,hz⟩:=rt hneg hv (by omega)
               refine Ce rfl (made_ok (x:=z) (y:=⟨xa.k,xa.t,Tow.neg xa.k xa.a⟩)) ?_
               exact Jn (z,n+1) [] rfl hz
             · exact Jn (xa,n) [] rfl same
           · refine By rfl (fun c6=>?_) fun c6=>?_
             · have c6 : (n : Int)<3:=c6
               refine Ar (n+1 : Nat) rfl ?_ (wr (show (n : Int)+1=((n+1 : Nat) : Int) by omega) (by simp only [inK];omega))
               refine Ca rfl (sq ha (by omega)) fun v hv=>?_
               obtain ⟨z,rfl,hz⟩:=rt ha hv (by omega)
               refine Ce rfl (made_ok (x:=z) (y:=xa)) ?_
               exact Jn (z,n+1) [] rfl hz
             · exact Jn (xa,n) [] rfl same
         · exact Jn (⟨0,(),q⟩,n) [] rfl ⟨hn3,K,G,S,hG,hS,hq,hall,_,hq0 G S _ _ (by omega)⟩
       · obtain ⟨hn',K,G,S,hG,hS,hq,hall,v,hz⟩:=hB
         have hS3:=W0h hS hn'
         have hGr:=Xah hG
         have kz : z.k≤3:=hz.le hGr hS3
         refine Yes rfl (by rw [W0r];exact h3) ?_
         refine Ce rfl (long_ok (x:=z) (W0h kz (by decide))) ?_
         refine By rfl (fun h5=>?_) fun h5=>?_
         · obtain ⟨y,hy⟩ : ∃ y,l[l.length - 1]?=some y:=⟨_,W0e (by omega)⟩
           obtain ⟨vy,hvy⟩:=hall y (W0m hy)
           refine Ar (l.length - 1 : Nat) rfl ?_ (wr (by rw [W0r];omega) (by simp only [inK];omega))
           refine Ix (l.length - 1) rfl (u:=dN y) (by rw [W1t,hy];rfl) ?_
           refine Ca rfl (Trim_ok (hm y (W0m hy)).2 hG hS3 hvy (by decide) (by decide)) fun v hv=>?_
           obtain ⟨z',rfl,hz',ht'⟩:=hv
           refine ApG ((l++[z']).map dN) rfl (by simp) (by simp;omega) ?_
           refine Ar (i+1 : Nat) rfl ?_
           exact Bk (i+1,n',l++[z']) [(157,3)] rfl ⟨by show i+1≤24;omega,by simp [hl],hn',apt hm ht',K,G,S,hG,hS,hq,app hall hz',trivial⟩ (by show 24 - (i+1)<24 - i;omega)
         · have hsh : shN z:=by simpa [Xch,Xau] using h5
           refine Ca rfl (Trim_ok hsh hG hS3 (hsh.ok hz kz) (by decide) (by decide)) fun v hv=>?_
           obtain ⟨z',rfl,hz',ht'⟩:=hv
           refine ApG ((l++[z']).map dN) rfl (by simp) (by simp;omega) ?_
           refine Ar (i+1 : Nat) rfl ?_
           exact Bk (i+1,n',l++[z']) [(157,3)] rfl ⟨by show i+1≤24;omega,by simp [hl],hn',apt hm ht',K,G,S,hG,hS,hq,app hall hz',trivial⟩ (by show 24 - (i+1)<24 - i;omega)
     · have h3 : ¬ ((l.map dN).length : Int) > 0:=h3
       rw [W0r] at h3
       obtain ⟨K,G,S,hG,hS,hq,hall,_⟩:=hw
       have hS3:=W0h hS hn3
       refine No rfl (by rw [W0r];exact h3) ?_
       refine Ca rfl (Trim_ok hqs hG hS3 (hq0 G S 300 600 (by decide)) (by decide) (by decide)) fun v hv=>?_
       obtain ⟨z',rfl,hz',ht'⟩:=hv
       refine ApG ((l++[z']).map dN) rfl (by simp) (by simp;omega) ?_
       refine Ar (i+1 : Nat) rfl ?_
       exact Bk (i+1,n,l++[z']) [(157,3)] rfl ⟨by show i+1≤24;omega,by simp [hl],hn3,apt hm ht',K,G,S,hG,hS,hq,app hall hz',trivial⟩ (by show 24 - (i+1)<24 - i;omega)
   · exact Rt rfl (.one (.gr rfl) rfl rfl) ⟨l,rfl,by omega,hm,Xpk hw hn3⟩
 · exact Rt rfl (.one (.gr rfl) rfl rfl) ⟨l,rfl,by omega,hm,Xpk hw hn3⟩
end Go.Proofs.YtjcejnjhfcbafaaGreatDoor.R9
namespace Go.Vm
open Go Go.ChangeShapes Go.WideShapes Go.ChangeAt Go.RowKit
theorem Xt5 {P : Program} {t : TypeId} (ht : P.underlying t=some .string) : Xed P t fun d=>∃ l : List UInt8,d=.str l∧l.length<9223372036854775808:=fun w _ _ _ _ _ _ _ h=>by
 obtain ⟨s,h1,_,h2⟩:=DataW.trod_string ht h
 have hm : maxLen<9223372036854775808:=by decide
 have hl : s.data.toList.length<9223372036854775808:=by
  have e : s.size=s.data.toList.length:=by show s.data.size=_;simp
  omega
 exact ⟨_,⟨s.data.toList,rfl,hl⟩,by rw [h1],hl⟩
theorem Yep {P : Program} {t : TypeId} {r : D→Prop} (ht : P.underlying t=some .string) (hr : Xed P t r) (hg : ∀ x,r x→x.ag=false) : Arg P t r:=fun W base _ _ _ _ v d p hok h=>by
 obtain ⟨z,rfl⟩:=okWide_string ht hok
 obtain ⟨fuel,h⟩:=h
 obtain ⟨x,h1,h2⟩:=hr W h
 exact ⟨x,h1,_,h2,by rw [show AV.ag (.d x)=false from hg x h1];rfl⟩
theorem Xw0 {P : Program} {t e : TypeId} {r : D→Prop} (ht : P.underlying t=some (.slice e)) (hr : Xed P t r) (hg : ∀ x,r x→x.ag=false) : Arg P t r:=fun W base _ _ _ _ v d p hok h=>by
 obtain ⟨_,_,_,rfl⟩:=okWide_slice ht hok
 obtain ⟨fuel,h⟩:=h
 obtain ⟨x,h1,h2⟩:=hr W h
 exact ⟨x,h1,_,h2,by rw [show AV.ag (.d x)=false from hg x h1];rfl⟩
end Go.Vm
namespace Go.Proofs.YtjcejnjhfcbafaaGreatDoor
open Go Go.Vm Go.Num
theorem Ym0 {α : Type} {f : α→D} {l : List D} (h : ∀ y∈l,∃ x,y=f x) : ∃ m : List α,l=m.map f:=by
 induction l with
 | nil=>exact ⟨[],rfl⟩
 | cons y l ih =>
  obtain ⟨x,hx⟩:=h y (W0w ..)
  obtain ⟨m,hm⟩:=ih fun z hz=>h z (W1b _ hz)
  exact ⟨x::m,by rw [hx,hm];rfl⟩
theorem Xx5 : Xed Tryz.prog 64 fun d=>∃ o : RO,d=dO o :=
 (Xl7 Tryz.underlying64 (.cons (n:=1) rfl (Xfi Tryz.underlying5) (by kernel_rfl) (.cons (n:=1) rfl (Xfi Tryz.underlying5) (by kernel_rfl) (.cons (n:=1) rfl (Xfi Tryz.underlying5) (by kernel_rfl) (.cons (n:=1) rfl (Xx4 Tryz.underlying62) (by kernel_rfl) (.one rfl (Xfi Tryz.underlying5)))))) (fun f hf=>by cases hf;kernel_rfl)).mono fun d hd=>by
  obtain ⟨_,rfl,_,_,rfl,⟨a,rfl,ha⟩,_,_,rfl,⟨b,rfl,hb⟩,_,_,rfl,⟨c,rfl,hc⟩,_,_,rfl,⟨n,rfl,hn⟩,⟨e,rfl,he⟩⟩:=hd
  exact ⟨⟨a,b,c,n,e,ha,hb,hc,he,hn⟩,rfl⟩
theorem Xt6 {t : TypeId} (ht : Tryz.prog.underlying t=some (.slice 64)) : Xed Tryz.prog t fun d=>∃ ops : List RO,d=dRs ops :=
 (Xn3 ht Xx5 (sz:=5) (by kernel_rfl) (by decide)).mono fun d ⟨l,e,_,h⟩=>by
  obtain ⟨m,hm⟩:=Ym0 h
  exact ⟨m,by rw [e,hm]⟩
theorem Xlf : Arg Tryz.prog 23 fun d=>∃ ops : List RO,d=dRs ops:=Xw0 Tryz.underlying23 (Xt6 Tryz.underlying23) fun x ⟨_,e⟩=>by rw [e];rfl
theorem Xm7 : Arg Tryz.prog 5 fun d=>∃ n : Nat,d=.int .u8 n∧n<256:=Xw1 Tryz.underlying5 (Xfi Tryz.underlying5) fun x ⟨_,e,_⟩=>by rw [e];rfl
theorem Xw2 : Arg Tryz.prog 3 fun d=>∃ n : Int,d=.int .i64 n∧-9223372036854775808≤n∧n<9223372036854775808:=Xw1 Tryz.underlying3 (Xt7 Tryz.underlying3) fun x ⟨_,e,_⟩=>by rw [e];rfl
theorem Xle : Arg Tryz.prog 9 fun d=>∃ l : List UInt8,d=.str l∧l.length<9223372036854775808:=Yep Tryz.underlying9 (Xt5 Tryz.underlying9) fun x ⟨_,e,_⟩=>by rw [e];rfl
open Go Go.Vm Go.Num Go.ChangeShapes Go.WideShapes Go.ChangeAt Go.RowKit Go.Tow
section
abbrev Ydf : List (String × DataW Unit) := [("math/bits.deBruijn32tab", Rows.laid_math_bits_deBruijn32tab), ("math/bits.deBruijn64tab", Rows.laid_math_bits_deBruijn64tab), ("internal/strconv.uint64pow10", Rows.laid_internal_strconv_uint64pow10), ("unicode/utf8.acceptRanges", Rows.laid_unicode_utf8_acceptRanges), ("unicode/utf8.first", Rows.laid_unicode_utf8_first)]
def Yml : List Int:=(List.range 20).map fun i=>((10 ^ i : Nat) : Int)
theorem Ycd : ∀ i,i<20→Yml.getD i 0=((10 ^ i : Nat) : Int):=by decide
theorem Yhm : Tryz.prog.globalNamed "internal/strconv.uint64pow10" = some 0 := by kernel_rfl
theorem Yhl : (Tryz.prog.globals[0]?).map (·.type)=some 234:=by kernel_rfl
theorem Xsb {W : World} (h : laidMetH Tryz.prog Ydf W) : Gb.g Tryz.prog (gw0 W):=by
 rw [Go.MakeChecks.laidMetH_plain Tryz.prog Ydf W (by kernel_rfl)] at h
 have h3 : laidMet Tryz.prog (("internal/strconv.uint64pow10", Lib.tabData .u64 Yml) :: [("unicode/utf8.acceptRanges", Rows.laid_unicode_utf8_acceptRanges), ("unicode/utf8.first", Rows.laid_unicode_utf8_first)]) W := h.tail.tail
 have ht:=Lib.tabIs_of_head Yhm Yhl Tryz.underlying234 Tryz.underlying101 (by kernel_rfl) (by kernel_rfl) h3
 exact fun i hi=>⟨by rw [show (gw0 W).w=W from rfl,ht.cell Yhm i (by rw [show Yml.length=20 from rfl];exact hi),Ycd i hi],fun h=>h⟩
def lay (vs : List (Nat × Array Value)) (w : World) : World:={ w with heap:=vs.foldl (fun h p=>h.modify p.1 fun | .cells _ t frozen=>.cells p.2 t frozen | o=>o) w.heap }
def u8s (l : List Nat) : Array Value:=(l.map fun (n : Nat)=>Value.int .u8 n).toArray
def Ymm : List (Nat × Array Value):=[(0,(Yml.map fun z=>Value.int .u64 z).toArray),(2,u8s Pinned.utf8FirstZ),(3,u8s [128,191,160,191,128,159,144,191,128,143,0,0,0,0,0,0,0,0,0,0,0,0,0,0,0,0,0,0,0,0,0,0]),
 (4,u8s [0,1,28,2,29,14,24,3,30,22,20,15,25,17,4,8,31,27,13,23,21,19,16,7,26,12,18,6,11,5,10,9]),
 (5,u8s [0,1,56,2,57,49,28,3,61,58,42,50,38,29,17,4,62,47,59,36,45,43,51,22,53,39,33,30,24,18,12,5,63,55,48,27,60,41,37,16,46,35,44,21,52,32,23,11,54,26,40,15,34,20,31,10,25,14,19,9,13,8,7,6])]
noncomputable def Xai (os : Os) : World:=lay Ymm (World.holding Tryz.prog os ⟨#[],#[],[]⟩)
theorem Xej (os : Os) (args : Array Value) : laidMet Tryz.prog Ydf ((Xai os).forCall (fun _ _=>0) ⟨#[],args,[]⟩).memory :=
 laidMet_of_run' 8 (by kernel_rfl) (by kernel_rfl)
end
section
def lo2 (x y : Rat) : Rat:=if y<x then y else x
def hi2 (x y : Rat) : Rat:=if x<y then y else x
def Xng (x : Rat) (r : List Rat) : Rat:=r.foldl lo2 x
def Xnh (x : Rat) (r : List Rat) : Rat:=r.foldl hi2 x
theorem Yg1 {s : Nat} {x y : Rat} (hx : Qs s x) (hy : Qs s y) : Qs s (lo2 x y):=by unfold lo2;split <;> assumption
theorem Yhi {s : Nat} {x y : Rat} (hx : Qs s x) (hy : Qs s y) : Qs s (hi2 x y):=by unfold hi2;split <;> assumption
theorem Xmd (x : Rat) (r : List Rat) (y : Rat) : Xng x (r++[y])=lo2 (Xng x r) y:=by simp [Xng]
theorem Xme (x : Rat) (r : List Rat) (y : Rat) : Xnh x (r++[y])=hi2 (Xnh x r) y:=by simp [Xnh]
theorem Xoc {s : Nat} {x : Rat} {r : List Rat} (h : ∀ y∈x::r,Qs s y) : Qs s (Xng x r):=by
 induction r generalizing x with
 | nil=>exact h x (W0w ..)
 | cons y r ih=>exact ih (x:=lo2 x y) (fun z hz=>by
  rcases W1q.1 hz with rfl | hz
  · exact Yg1 (h x (W0w ..)) (h y (by simp))
  · exact h z (by simp [hz]))
theorem Xod {s : Nat} {x : Rat} {r : List Rat} (h : ∀ y∈x::r,Qs s y) : Qs s (Xnh x r):=by
 induction r generalizing x with
 | nil=>exact h x (W0w ..)
 | cons y r ih=>exact ih (x:=hi2 x y) (fun z hz=>by
  rcases W1q.1 hz with rfl | hz
  · exact Yhi (h x (W0w ..)) (h y (by simp))
  · exact h z (by simp [hz]))
theorem Xwn {x y : Rat} : Xmx x y<0↔x<y:=by
 unfold Xmx
 split
 · rename_i h;simp [h]
 · rename_i h
   split <;> simp [h]
theorem Yee {x y : Rat} : Xmx x y > 0↔y<x:=by
 rw [Xmv,←Xwn];omega
theorem Xkg {s : Nat} {x : Rat} {r : List Rat} (h : ∀ y∈x::r,Qs s y) (k : Nat) : ∀ y∈x::r.take k,Qs s y:=fun y hy=>h y (by
 rcases W1q.1 hy with rfl | hy
 · exact W0w ..
 · exact W1b _ (W5l hy))
theorem Xgd (n : Int) : Rat.divInt n 1=(n : Rat):=by
 rw [W3h]
 have : ((1 : Int) : Rat)=1:=rfl
 grind
def pw (b : Nat) : Rat:=((2 ^ b : Int) : Rat)
theorem Zs.two {b p : Nat} (h : b+1≤p) : Zs p (2 ^ b : Int):=by
 refine Zs.mono (p:=b+1) ?_ h
 unfold Zs
 rw [W8f]
 exact W4a (by decide) (Nat.lt_succ_self b)
theorem Xc6 (b : Nat) : (2 ^ b : Int)≠0:=by have:=W6v (n:=2) (m:=b) (by decide);omega
theorem Xgu (b : Nat) : Qs (b+1) (pw b):=⟨Zs.two (W0b _),Zs.one (by omega)⟩
theorem Zs.floor {s : Nat} {x : Rat} (h : Qs s x) : Zs s x.floor:=by
 have hn:=h.n
 unfold Zs at *
 rw [Rat.floor_def]
 exact W1n (Int.natAbs_ediv_le_natAbs _ _) hn
def dnQ (x : Rat) (b : Nat) : Rat:=Rat.divInt (x*pw b).floor (2 ^ b)
def upQ (x : Rat) (b : Nat) : Rat:=-dnQ (-x) b
theorem Xrh {s : Nat} {x : Rat} (h : Qs s x) (b : Nat) : Qs (s+b+1) (dnQ x b) :=
 Qs.divInt (p:=s+b+1) ((Zs.floor (h.mul (Xgu b))).mono (by omega)) (Zs.two (by omega)) (Xc6 b)
theorem Yfi {s : Nat} {x : Rat} (h : Qs s x) (b : Nat) : Qs (s+b+1) (upQ x b):=(Xrh h.neg b).neg
theorem Xo0 {x y : Rat} : Xmx x y≤0↔¬ y<x:=by rw [←Yee];omega
theorem Xog {a p : Nat} (h : a<2 ^ p) : (dig a).length≤p / 32+1:=by
 refine Xao (W0t h ?_)
 rw [show (4294967296 : Nat)=2 ^ 32 from rfl,←W5j]
 exact W0i (by decide) (by omega)
def rtF (x : Rat) : Nat:=rt x.floor.toNat
theorem Yj8 (n : Nat) : rt n≤n:=by
 have h:=(Xcz n).1
 by_cases h0 : rt n=0
 · omega
 · have:=W0q (rt n) (show 1≤rt n by omega)
   omega
theorem Xb4 {x : Rat} (h : 0≤x) : x.floor=(x.floor.toNat : Int):=by
 have : (0 : Int)≤x.floor:=Rat.le_floor_iff.2 h
 omega
theorem Xl3 {s : Nat} {x : Rat} (h : Qs s x) (h0 : 0≤x) : Zs s (rtF x : Int):=by
 have h1:=Zs.floor h
 rw [Xb4 h0] at h1
 have h2:=Yj8 x.floor.toNat
 unfold Zs at *
 have h1 : x.floor.toNat<2 ^ s:=h1
 show rt x.floor.toNat<2 ^ s
 omega
theorem Xaz (b : Nat) : 0<pw b:=Rat.intCast_pos.2 (W6v (by decide))
def sq2 (x : Rat) (b : Nat) : Rat:=x*(pw b*pw b)
def Xdg (x : Rat) (b : Nat) : Rat:=Rat.divInt (rtF (sq2 x b) : Int) (2 ^ b)
open Classical in
noncomputable def Xr0 (x : Rat) : Nat:=if ((rtF x*rtF x : Int) : Rat)<x then rtF x+1 else rtF x
noncomputable def Xnf (x : Rat) (b : Nat) : Rat:=Rat.divInt (Xr0 (sq2 x b) : Int) (2 ^ b)
theorem Xlw {s b : Nat} {x : Rat} (h : Qs s x) : Qs (s+(2*b+2)) (sq2 x b):=(h.mul ((Xgu b).mul (Xgu b))).mono (by omega)
theorem Xd4 {x : Rat} {b : Nat} (h : 0≤x) : 0≤sq2 x b:=Rat.mul_nonneg h (Rat.mul_nonneg (W2n (Xaz b)) (W2n (Xaz b)))
theorem Ycm {x : Rat} (h : 0≤x) : ¬ Xa2 x.num 0<0:=by
 have:=Rat.num_nonneg.2 h
 rcases Xav x.num 0 with ⟨h1,e1⟩ | ⟨h1,e1⟩ | ⟨h1,e1⟩ <;> omega
theorem Xk5 (x : Rat) (n : Nat) : (x.num*2 ^ n).fdiv x.den=(x*pw n).floor:=by
 have hd : (0 : Int)<x.den:=Int.natCast_pos.2 (W2j x.den_nz)
 rw [W1l _ (by omega)]
 have key : ∀ z : Int,z≤(x.num*2 ^ n) / x.den↔z≤(x*pw n).floor:=by
  intro z
  rw [Int.le_ediv_iff_mul_le hd,Rat.le_floor_iff]
  have e : x*pw n*(x.den : Rat)=((x.num*2 ^ n : Int) : Rat):=by
   have:=Xkq x
   have h2 : pw n=((2 ^ n : Int) : Rat):=rfl
   rw [W3c,←h2,←this]
   grind
  have hdr : (0 : Rat)<(x.den : Rat):=by
   have:=Rat.intCast_pos.2 hd
   exact this
  rw [←W3n,W3c,←e]
  constructor
  · intro h
    exact W1v h hdr
  · intro h
    exact W2o h (W2n hdr)
 have h1:=(key _).1 (W8i _)
 have h2:=(key _).2 (W8i _)
 omega
theorem Yax (b : Nat) : pw (2*b)=pw b*pw b:=by
 show ((2 ^ (2*b) : Int) : Rat)=((2 ^ b : Int) : Rat)*((2 ^ b : Int) : Rat)
 rw [←W3c,←W6x]
 congr 2;omega
theorem Xxr {x : Rat} (b : Nat) (h0 : 0≤x) : (x.num*2 ^ (2*b)).fdiv x.den=((sq2 x b).floor.toNat : Int):=by
 rw [Xk5,Yax]
 exact Xb4 (Xd4 h0)
theorem Xhp {s : Nat} {x : Rat} (h : Qs s x) (h0 : 0≤x) (b : Nat) : Qs (s+(2*b+2)) (Xdg x b) :=
 Qs.divInt (Xl3 (Xlw h) (Xd4 h0)) (Zs.two (by omega)) (Xc6 b)
def mx0 (x : Rat) : Rat:=if x<0 then 0 else x
theorem Xev (x : Rat) : 0≤mx0 x:=by unfold mx0;split <;> grind
theorem Xqt {s : Nat} {x : Rat} (h : Qs s x) (hs : 1≤s) : Qs s (mx0 x):=by
 unfold mx0
 split
 · exact qs0.mono hs
 · exact h
theorem Yh7 {x : Rat} : Xa2 x.num 0<0↔x<0:=by
 rw [Xg3]
 rcases Xa7 x with ⟨h,e⟩ | ⟨h,e⟩ | ⟨h,e⟩ <;> rw [e]
 · exact ⟨fun h=>absurd h (by decide),fun h'=>absurd h' (by grind)⟩
 · exact ⟨fun h=>absurd h (by decide),fun h'=>absurd h' (by grind)⟩
 · exact ⟨fun _=>h,fun _=>by decide⟩
def rnd (p : Rat × Rat) (b : Nat) : Rat × Rat:=(dnQ p.1 b,upQ p.2 b)
def rts (p : Rat × Rat) (b : Nat) : Rat × Rat:=(Xdg (mx0 p.1) b,Xdg p.2 b+Rat.divInt 1 (2 ^ b))
def Xb7 (p q : Rat × Rat) : Rat × Rat:=(Xng (p.1*q.1) [p.1*q.2,p.2*q.1,p.2*q.2],Xnh (p.1*q.1) [p.1*q.2,p.2*q.1,p.2*q.2])
def Xlp (p q : Rat × Rat) : Rat × Rat:=(p.1+q.1,p.2+q.2)
def enc : (k : Nat)→Tw k→El k→Nat→Rat × Rat
 | 0=>fun _ (x : Rat) _=>(x,x)
 | k+1=>fun t a b=>if (∀ x∈toL k a.2,x=0) then enc k t.1 a.1 b else rnd (Xlp (enc k t.1 a.1 b) (Xb7 (enc k t.1 a.2 b) (rts (enc k t.1 t.2 b) b))) b
theorem Ybq (x : Rat) (b : Nat) : dnQ x b*pw b=((x*pw b).floor : Rat):=by
 unfold dnQ
 rw [W3h]
 have h:=Xaz b
 show ((x*pw b).floor : Rat) / pw b*pw b=_
 rw [W5f (by grind)]
theorem Xri (x : Rat) (b : Nat) : dnQ x b≤x:=by
 refine W1v ?_ (Xaz b)
 rw [Ybq]
 exact W7z _
theorem Xv9 (x : Rat) (b : Nat) : x*pw b<dnQ x b*pw b+1:=by
 rw [Ybq]
 have:=@Rat.lt_floor (x*pw b)
 grind
theorem Xsx (x : Rat) (b : Nat) : x≤upQ x b:=by
 have:=Xri (-x) b
 unfold upQ;grind
theorem Yaa (x : Rat) (b : Nat) : upQ x b*pw b<x*pw b+1:=by
 have:=Xv9 (-x) b
 unfold upQ;grind
theorem Xu5 {x y : Rat} : lo2 x y≤x∧lo2 x y≤y:=by unfold lo2;split <;> grind
theorem Xvs {x y : Rat} : x≤hi2 x y∧y≤hi2 x y:=by unfold hi2;split <;> grind
theorem Xu4 {x y : Rat} : lo2 x y=x∨lo2 x y=y:=by unfold lo2;split <;> simp
theorem Xvr {x y : Rat} : hi2 x y=x∨hi2 x y=y:=by unfold hi2;split <;> simp
theorem Xf8 (p q : Rat × Rat) : (Xb7 p q).1≤p.1*q.1∧(Xb7 p q).1≤p.1*q.2∧(Xb7 p q).1≤p.2*q.1∧(Xb7 p q).1≤p.2*q.2:=by
 show lo2 (lo2 (lo2 (p.1*q.1) (p.1*q.2)) (p.2*q.1)) (p.2*q.2)≤_∧lo2 (lo2 (lo2 (p.1*q.1) (p.1*q.2)) (p.2*q.1)) (p.2*q.2)≤_∧lo2 (lo2 (lo2 (p.1*q.1) (p.1*q.2)) (p.2*q.1)) (p.2*q.2)≤_∧lo2 (lo2 (lo2 (p.1*q.1) (p.1*q.2)) (p.2*q.1)) (p.2*q.2)≤_
 have h1:=@Xu5 (p.1*q.1) (p.1*q.2)
 have h2:=@Xu5 (lo2 (p.1*q.1) (p.1*q.2)) (p.2*q.1)
 have h3:=@Xu5 (lo2 (lo2 (p.1*q.1) (p.1*q.2)) (p.2*q.1)) (p.2*q.2)
 refine ⟨?_,?_,?_,h3.2⟩ <;> grind
theorem Xf9 (p q : Rat × Rat) : p.1*q.1≤(Xb7 p q).2∧p.1*q.2≤(Xb7 p q).2∧p.2*q.1≤(Xb7 p q).2∧p.2*q.2≤(Xb7 p q).2:=by
 show _≤hi2 (hi2 (hi2 (p.1*q.1) (p.1*q.2)) (p.2*q.1)) (p.2*q.2)∧_≤hi2 (hi2 (hi2 (p.1*q.1) (p.1*q.2)) (p.2*q.1)) (p.2*q.2)∧_≤hi2 (hi2 (hi2 (p.1*q.1) (p.1*q.2)) (p.2*q.1)) (p.2*q.2)∧_≤hi2 (hi2 (hi2 (p.1*q.1) (p.1*q.2)) (p.2*q.1)) (p.2*q.2)
 have h1:=@Xvs (p.1*q.1) (p.1*q.2)
 have h2:=@Xvs (hi2 (p.1*q.1) (p.1*q.2)) (p.2*q.1)
 have h3:=@Xvs (hi2 (hi2 (p.1*q.1) (p.1*q.2)) (p.2*q.1)) (p.2*q.2)
 refine ⟨?_,?_,?_,h3.2⟩ <;> grind
theorem Xey (x : Rat) (b : Nat) : Xdg x b*pw b=((rtF (sq2 x b) : Int) : Rat):=by
 unfold Xdg
 rw [W3h]
 have h:=Xaz b
 show ((rtF (sq2 x b) : Int) : Rat) / pw b*pw b=_
 rw [W5f (by grind)]
theorem Xdh (b : Nat) : Rat.divInt 1 (2 ^ b)*pw b=1:=by
 rw [W3h]
 have h:=Xaz b
 show ((1 : Int) : Rat) / pw b*pw b=_
 rw [W5f (by grind)];rfl
theorem Xcy (x : Rat) (b : Nat) : 0≤Xdg x b:=by
 refine W1v ?_ (Xaz b)
 rw [Xey,W5b]
 exact Rat.intCast_nonneg.2 (by omega)
theorem Yau {x : Rat} (h : 0≤x) : (((rtF x : Int)) : Rat)*((rtF x : Int) : Rat)≤x:=by
 have h1:=(Xcz x.floor.toNat).1
 have h2:=Xb4 h
 have h3:=@W7z x
 have h4 : ((rtF x*rtF x : Int) : Rat)≤(x.floor : Rat):=by
  rw [W3n,h2]
  unfold rtF
  exact_mod_cast h1
 rw [W3c] at h4
 exact W5p h4 h3
theorem Xtx {x : Rat} (h : 0≤x) : x<(((rtF x : Int))+1 : Rat)*(((rtF x : Int))+1 : Rat):=by
 have h1:=(Xcz x.floor.toNat).2
 have h2:=Xb4 h
 have h3:=@Rat.lt_floor x
 have h4 : ((x.floor+1 : Int) : Rat)≤(((rtF x+1 : Int)*(rtF x+1 : Int) : Int) : Rat):=by
  rw [W3n,h2]
  unfold rtF
  have h1 : x.floor.toNat+1≤(rt x.floor.toNat+1)*(rt x.floor.toNat+1):=h1
  exact_mod_cast h1
 rw [W3c,W4h,W4h] at h4
 have h5 : ((1 : Int) : Rat)=1:=rfl
 rw [h5] at h4
 grind
theorem Xho {x : Rat} {b : Nat} (h : 0≤x) : Xdg x b*Xdg x b≤x:=by
 have hp:=Xaz b
 have hpp:=W4w hp hp
 refine W1v ?_ hpp
 have h1:=Yau (Xd4 (b:=b) h)
 rw [←Xey] at h1
 unfold sq2 at h1
 grind
theorem Xti {x : Rat} {b : Nat} (h : 0≤x) : x≤(Xdg x b+Rat.divInt 1 (2 ^ b))*(Xdg x b+Rat.divInt 1 (2 ^ b)):=by
 have hp:=Xaz b
 have hpp:=W4w hp hp
 refine W1v ?_ hpp
 have h1:=Xtx (Xd4 (b:=b) h)
 have h2:=Xdh b
 rw [←Xey] at h1
 have h3 : sq2 x b=x*(pw b*pw b):=rfl
 have h4 : (Xdg x b+Rat.divInt 1 (2 ^ b))*(Xdg x b+Rat.divInt 1 (2 ^ b))*(pw b*pw b)=(Xdg x b*pw b+1)*(Xdg x b*pw b+1):=by
  rw [←h2];grind
 rw [h4,←h3]
 exact W2n h1
theorem Xgm : ∀ {k : Nat} {t : Tw k} (h : Xbh k t) (a : El k) (b : Nat),inI k t a (enc k t a b).1 (enc k t a b).2
 | 0,t,h,a,b=>⟨(Xaw h).le_rf (Xa5 0 t) a,(Xaw h).le_rf (Xa5 0 t) a⟩
 | k+1,t,h,a,b=>by
  have iu:=Xmh (t:=t) h.1 (Xgm h.1 a.1 b)
  have hs:=Xrg (t:=t) a
  by_cases hz : ∀ x∈toL k a.2,x=0
  · have he : enc (k+1) t a b=enc k t.1 a.1 b:=if_pos hz
    rw [he]
    have ha : a=up k a.1:=W4m rfl ((Xap k a.2).2 hz)
    rw [ha]
    exact iu
  · have he : enc (k+1) t a b=rnd (Xlp (enc k t.1 a.1 b) (Xb7 (enc k t.1 a.2 b) (rts (enc k t.1 t.2 b) b))) b:=if_neg hz
    have iv:=Xmh (t:=t) h.1 (Xgm h.1 a.2 b)
    have ir:=Xgm h.1 t.2 b
    have hr2 : 0≤(enc k t.1 t.2 b).2:=by
     have h0 : le k t.1 (rat k 0) t.2:=(Xh8 h.1).2 (by rw [h.2];decide)
     exact (Xba h.1).1 (le_tr h.1 h0 ir.2)
    have hu : 0≤Rat.divInt 1 (2 ^ b):=W1v (by rw [Xdh,W5b];decide) (Xaz b)
    have is:=Xvi h ir (c:=Xdg (mx0 (enc k t.1 t.2 b).1) b) (d:=Xdg (enc k t.1 t.2 b).2 b+Rat.divInt 1 (2 ^ b)) (Xcy _ _) (by have:=Xcy (enc k t.1 t.2 b).2 b;grind)
     (by
      have h1:=Xho (b:=b) (Xev (enc k t.1 t.2 b).1)
      by_cases h0 : (enc k t.1 t.2 b).1<0
      · right
        have e : mx0 (enc k t.1 t.2 b).1=0:=if_pos h0
        rw [e] at h1 ⊢
        have h2:=Xcy 0 b
        by_cases h3 : Xdg 0 b=0
        · exact h3
        · have:=W4w (show 0<Xdg 0 b by grind) (show 0<Xdg 0 b by grind)
          grind
      · left
        have e : mx0 (enc k t.1 t.2 b).1=(enc k t.1 t.2 b).1:=if_neg h0
        rw [e] at h1 ⊢
        exact h1) (Xti hr2)
    have im:=Xvk h iv is (Xcy _ _) (Xf8 (enc k t.1 a.2 b) (rts (enc k t.1 t.2 b) b)).1 (Xf8 (enc k t.1 a.2 b) (rts (enc k t.1 t.2 b) b)).2.1 (Xf9 (enc k t.1 a.2 b) (rts (enc k t.1 t.2 b) b)).2.2.1 (Xf9 (enc k t.1 a.2 b) (rts (enc k t.1 t.2 b) b)).2.2.2
    have ia:=Xvl h iu im
    rw [←hs] at ia
    rw [he]
    exact Xq2 h ia (Xri _ _) (Xsx _ _)
def eB (s b : Nat) : Nat→Nat
 | 0=>s
 | k+1=>3*eB s b k+4*b+6
theorem Xv5 (s b : Nat) : ∀ k,s≤eB s b k
 | 0=>W0b _
 | k+1=>by have:=Xv5 s b k;show s≤3*eB s b k+4*b+6;omega
theorem Ybn {k : Nat} {t : Tw (k+1)} (h : Xbh (k+1) t) (b : Nat) : 0≤(enc k t.1 t.2 b).2:=by
 have h0 : le k t.1 (rat k 0) t.2:=(Xh8 h.1).2 (by rw [h.2];decide)
 exact (Xba h.1).1 (le_tr h.1 h0 (Xgm h.1 t.2 b).2)
def Q2 (s : Nat) (p : Rat × Rat) : Prop:=Qs s p.1∧Qs s p.2
theorem Xj8 (b : Nat) : Qs (b+1) (Rat.divInt 1 (2 ^ b)):=Qs.divInt (Zs.one (by omega)) (Zs.two (W0b _)) (Xc6 b)
theorem Yar {s b : Nat} {p : Rat × Rat} (h : Q2 s p) (h0 : 0≤p.2) (hs : 1≤s) : Q2 (s+3*b+4) (rts p b) :=
 ⟨(Xhp (Xqt h.1 hs) (Xev _) b).mono (by omega),((Xhp h.2 h0 b).add (Xj8 b)).mono (by omega)⟩
theorem Xks {s s' : Nat} {p q : Rat × Rat} (h : Q2 s p) (h' : Q2 s' q) : Q2 (s+s') (Xb7 p q):=by
 have key : ∀ y∈p.1*q.1::[p.1*q.2,p.2*q.1,p.2*q.2],Qs (s+s') y:=by
  intro y hy
  simp at hy
  rcases hy with rfl | rfl | rfl | rfl
  · exact h.1.mul h'.1
  · exact h.1.mul h'.2
  · exact h.2.mul h'.1
  · exact h.2.mul h'.2
 exact ⟨Xoc key,Xod key⟩
theorem Xlh {s s' : Nat} {p q : Rat × Rat} (h : Q2 s p) (h' : Q2 s' q) : Q2 (s+s'+1) (Xlp p q):=⟨h.1.add h'.1,h.2.add h'.2⟩
theorem Yav {s : Nat} {p : Rat × Rat} (h : Q2 s p) (b : Nat) : Q2 (s+b+1) (rnd p b):=⟨Xrh h.1 b,Yfi h.2 b⟩
theorem Q2.mono {s s' : Nat} {p : Rat × Rat} (h : Q2 s p) (hs : s≤s') : Q2 s' p:=⟨h.1.mono hs,h.2.mono hs⟩
theorem Xin : ∀ {k : Nat} {t : Tw k} {a : El k} {s b : Nat},Xbh k t→TS s k t→Sz s (toL k a)→1≤s→Q2 (eB s b k) (enc k t a b)
 | 0,t,a,s,b,h,hT,ha,hs=>⟨ha.qs (W0g.2 rfl),ha.qs (W0g.2 rfl)⟩
 | k+1,t,a,s,b,h,hT,ha,hs=>by
  have hu:=Xin (b:=b) h.1 hT.1 (Sz.left (l:=toL k a.1) (m:=toL k a.2) ha) hs
  have hv:=Xin (b:=b) h.1 hT.1 (Sz.right (l:=toL k a.1) (m:=toL k a.2) ha) hs
  have hr:=Xin (b:=b) h.1 hT.1 hT.2 hs
  have hge:=Xv5 s b k
  show Q2 (3*eB s b k+4*b+6) (if (∀ x∈toL k a.2,x=0) then enc k t.1 a.1 b else rnd (Xlp (enc k t.1 a.1 b) (Xb7 (enc k t.1 a.2 b) (rts (enc k t.1 t.2 b) b))) b)
  split
  · exact hu.mono (by omega)
  · exact (Yav (Xlh hu (Xks hv (Yar hr (Ybn h b) (by omega)))) b).mono (by omega)
theorem Xl9 (a b : Nat) : pw (a+b)=pw a*pw b:=by
 show ((2 ^ (a+b) : Int) : Rat)=((2 ^ a : Int) : Rat)*((2 ^ b : Int) : Rat)
 rw [←W3c,←W6x]
theorem Xcq (n : Nat) : pw (n+1)=2*pw n:=by rw [Xl9,show pw 1=2 from rfl];grind
theorem Xgl (n : Nat) : 1≤pw n:=by
 induction n with
 | zero=>exact W6y
 | succ n ih=>rw [Xcq];grind
theorem Xh2 {a b : Nat} (h : a≤b) : pw a≤pw b:=by
 obtain ⟨c,rfl⟩:=Nat.le.dest h
 rw [Xl9]
 have h1:=W2y (Xgl c) (W2n (Xaz a))
 grind
theorem Xjm {x y : Rat} (h : 0≤x) (k : 0≤y) : 0≤x*y:=Rat.mul_nonneg h k
theorem Ya9 {a b c d : Rat} (h : a≤b) (k : c≤d) (hc : 0≤c) (hb : 0≤b) : a*c≤b*d:=by
 have h1:=W2o h hc
 have h2:=W2y k hb
 grind
theorem Xkr {x y X Y : Rat} (h1 : -X≤x) (h2 : x≤X) (h3 : -Y≤y) (h4 : y≤Y) : x*y≤X*Y:=by
 have a:=Xjm (show 0≤X - x by grind) (show 0≤Y+y by grind)
 have b:=Xjm (show 0≤X+x by grind) (show 0≤Y - y by grind)
 grind
theorem Xq0 {x y : Rat} (hy : 0≤y) (h : x*x≤y*y) : x≤y:=by
 by_cases hxy : x≤y
 · exact hxy
 · have h1 : y<x:=by grind
   have a:=W4w (show 0<x - y by grind) (show 0<x by grind)
   have b:=Xjm hy (show 0≤x - y by grind)
   grind
def Wid (p : Rat × Rat) (e : Nat) : Prop:=p.1≤p.2∧(p.2 - p.1)*pw e≤1
def Mg (p : Rat × Rat) (m : Nat) : Prop:=-pw m≤p.1∧p.2≤pw m
theorem Wid.mono {p : Rat × Rat} {e f : Nat} (h : Wid p e) (hf : f≤e) : Wid p f:=by
 refine ⟨h.1,?_⟩
 have:=W2y (Xh2 hf) (show 0≤p.2 - p.1 by have:=h.1;grind)
 have:=h.2
 grind
theorem Mg.mono {p : Rat × Rat} {m n : Nat} (h : Mg p m) (hn : m≤n) : Mg p n:=by
 have:=Xh2 hn
 have h1:=h.1
 have h2:=h.2
 exact ⟨by grind,by grind⟩
structure RtOf (r : Rat × Rat) (b : Nat) (s : Rat × Rat) : Prop where
 lo : s.1=Xdg (mx0 r.1) b
 l : Xdg r.2 b≤s.2
 h : s.2≤Xdg r.2 b+Rat.divInt 1 (2 ^ b)
theorem Xeg (b : Nat) : 0<Rat.divInt 1 (2 ^ b):=by
 by_cases h : 0<Rat.divInt 1 (2 ^ b)
 · exact h
 · have h1:=W2o (show Rat.divInt 1 (2 ^ b)≤0 by grind) (W2n (Xaz b))
   rw [Xdh] at h1
   exact absurd h1 (by grind)
theorem Xsy {b f : Nat} (h : f+1≤b) : 2*(Rat.divInt 1 (2 ^ b)*pw f)≤1:=by
 have h1:=W2y (Xh2 h) (W2n (Xeg b))
 rw [Xdh,Xcq] at h1
 grind
theorem Xj9 (b : Nat) : Rat.divInt 1 (2 ^ b)≤1:=by
 have h1:=W2y (Xgl b) (W2n (Xeg b))
 rw [Xdh] at h1
 grind
theorem Ygu (x : Rat) : x≤mx0 x:=by unfold mx0;split <;> grind
theorem Xhq {x y : Rat} {b : Nat} (hx : 0≤x) (h : x≤y) : Xdg x b≤Xdg y b:=by
 have hp:=Xaz b
 refine W1v ?_ hp
 rw [Xey,Xey,W3n]
 have h1 : sq2 x b≤sq2 y b:=W2o h (W2n (W4w hp hp))
 have h2:=Yau (Xd4 (b:=b) hx)
 have h3:=Xtx (x:=sq2 y b) (W5p (Xd4 (b:=b) hx) h1)
 by_cases h4 : (rtF (sq2 x b) : Int)≤rtF (sq2 y b)
 · exact h4
 · have h5 : (rtF (sq2 y b) : Int)+1≤rtF (sq2 x b):=by omega
   have h6:=W3n.2 h5
   rw [W4h,show ((1 : Int) : Rat)=1 from rfl] at h6
   have h7 : (0 : Rat)≤((rtF (sq2 y b) : Int) : Rat):=Rat.intCast_nonneg.2 (by omega)
   have h8:=Ya9 h6 h6 (by grind) (by grind)
   grind
theorem RtOf.wd {r s : Rat × Rat} {b e f : Nat} (R : RtOf r b s) (hr : Wid r e) (h0 : 0≤r.2) (hf : 2*f≤e) (hb : f+1≤b) : s.1≤s.2∧(s.2 - s.1)*pw f≤2:=by
 obtain ⟨r1,r2⟩:=r
 obtain ⟨c,d⟩:=s
 obtain ⟨h1,h2,h3⟩:=R
 dsimp only at *
 have hA:=Xho (b:=b) h0
 have hB:=Xti (b:=b) (Xev r1)
 have hB0:=Xcy (mx0 r1) b
 have hm:=Ygu r1
 have hu:=Xeg b
 have hul:=Xsy hb
 rw [←h1] at hB hB0
 have hw:=(hr.mono hf).2
 have hpf:=Xaz f
 rw [show 2*f=f+f by omega,Xl9] at hw
 dsimp only at hw
 generalize Rat.divInt 1 (2 ^ b)=ε at *
 generalize hAe : Xdg r2 b=A at *
 have key : (A - (c+ε))*pw f≤1:=by
  by_cases hk : (A - (c+ε))*pw f≤1
  · exact hk
  · have hk : 1<(A - (c+ε))*pw f:=by grind
    have hD : 0<A - (c+ε):=by
     by_cases hD : 0<A - (c+ε)
     · exact hD
     · have:=W2o (show A - (c+ε)≤0 by grind) (W2n hpf)
       grind
    have e1:=Xjm (W2n hD) (show 0≤2*(c+ε) by grind)
    have e2 : (A - (c+ε))*(A - (c+ε))≤r2 - r1:=by grind
    have e3:=W2o e2 (W2n (W4w hpf hpf))
    have e4:=Ya9 (W2n hk) (W2n hk) (by decide) (by grind)
    have e5:=W4w (show 0<(A - (c+ε))*pw f - 1 by grind) (show 0<(A - (c+ε))*pw f by grind)
    grind
 refine ⟨?_,?_⟩
 · have hmono : mx0 r1≤r2:=by
    have:=hr.1
    unfold mx0
    dsimp only at this
    split
    · exact h0
    · exact this
   have:=Xhq (b:=b) (Xev r1) hmono
   rw [hAe,←h1] at this
   grind
 · have:=W2o (show d - c≤(A - (c+ε))+2*ε by grind) (W2n hpf)
   grind
theorem RtOf.mg {r s : Rat × Rat} {b m : Nat} (R : RtOf r b s) (hr : Mg r m) (h0 : 0≤r.2) : 0≤s.1∧s.2≤pw (m+1):=by
 have h1:=Xho (b:=b) h0
 have h2:=Xcy (mx0 r.1) b
 rw [←R.lo] at h2
 refine ⟨h2,?_⟩
 have h3 : Xdg r.2 b≤pw m:=by
  refine Xq0 (W2n (Xaz m)) (W5p h1 (W5p hr.2 ?_))
  have:=W2y (Xgl m) (W2n (Xaz m))
  grind
 have h4:=R.h
 have h5:=Xj9 b
 have h6:=Xgl m
 rw [Xcq]
 grind
theorem Xux (p q : Rat × Rat) : (∃ v s,(v=p.1∨v=p.2)∧(s=q.1∨s=q.2)∧(Xb7 p q).1=v*s)∧∃ v s,(v=p.1∨v=p.2)∧(s=q.1∨s=q.2)∧(Xb7 p q).2=v*s:=by
 constructor
 · show ∃ v s,(v=p.1∨v=p.2)∧(s=q.1∨s=q.2)∧lo2 (lo2 (lo2 (p.1*q.1) (p.1*q.2)) (p.2*q.1)) (p.2*q.2)=v*s
   rcases @Xu4 (lo2 (lo2 (p.1*q.1) (p.1*q.2)) (p.2*q.1)) (p.2*q.2) with h | h <;> rw [h]
   · rcases @Xu4 (lo2 (p.1*q.1) (p.1*q.2)) (p.2*q.1) with h | h <;> rw [h]
     · rcases @Xu4 (p.1*q.1) (p.1*q.2) with h | h <;> rw [h]
       · exact ⟨_,_,.inl rfl,.inl rfl,rfl⟩
       · exact ⟨_,_,.inl rfl,.inr rfl,rfl⟩
     · exact ⟨_,_,.inr rfl,.inl rfl,rfl⟩
   · exact ⟨_,_,.inr rfl,.inr rfl,rfl⟩
 · show ∃ v s,(v=p.1∨v=p.2)∧(s=q.1∨s=q.2)∧hi2 (hi2 (hi2 (p.1*q.1) (p.1*q.2)) (p.2*q.1)) (p.2*q.2)=v*s
   rcases @Xvr (hi2 (hi2 (p.1*q.1) (p.1*q.2)) (p.2*q.1)) (p.2*q.2) with h | h <;> rw [h]
   · rcases @Xvr (hi2 (p.1*q.1) (p.1*q.2)) (p.2*q.1) with h | h <;> rw [h]
     · rcases @Xvr (p.1*q.1) (p.1*q.2) with h | h <;> rw [h]
       · exact ⟨_,_,.inl rfl,.inl rfl,rfl⟩
       · exact ⟨_,_,.inl rfl,.inr rfl,rfl⟩
     · exact ⟨_,_,.inr rfl,.inl rfl,rfl⟩
   · exact ⟨_,_,.inr rfl,.inr rfl,rfl⟩
theorem Xpr {u v r s : Rat × Rat} {b b' e f m : Nat} (hu : Wid u f) (hv : Wid v f) (hr : Wid r e) (hf : 2*f≤e) (mv : Mg v m) (ms : 0≤s.1∧s.2≤pw (m+1)) (h0 : 0≤r.2) (R : RtOf r b s) (hb : f+1≤b) (hb' : b≤b') (he : m+3≤f) :
 Wid (rnd (Xlp u (Xb7 v s)) b') (f - (m+3)):=by
 have hs:=R.wd hr h0 (f:=f) hf hb
 have wu:=hu.2
 have wv:=hv.2
 have hu1:=hu.1
 have hv1:=hv.1
 have hs1:=hs.1
 have hs2:=hs.2
 have hpf:=Xaz f
 have hpm:=Xaz m
 obtain ⟨⟨v1,s1,hv1',hs1',e1⟩,v2,s2,hv2',hs2',e2⟩:=Xux v s
 have hle:=(Xf8 v s).1
 have hge:=(Xf9 v s).1
 have hP : (Xb7 v s).2 - (Xb7 v s).1≤pw m*(s.2 - s.1)+pw (m+1)*(v.2 - v.1):=by
  rw [e1,e2]
  have a1 : -pw m≤v2∧v2≤pw m:=by
   have:=mv.1;have:=mv.2
   rcases hv2' with rfl | rfl <;> exact ⟨by grind,by grind⟩
  have a2 : -(s.2 - s.1)≤s2 - s1∧s2 - s1≤s.2 - s.1:=by
   rcases hs1' with rfl | rfl <;> rcases hs2' with rfl | rfl <;> exact ⟨by grind,by grind⟩
  have a3 : -pw (m+1)≤s1∧s1≤pw (m+1):=by
   have:=ms.1;have:=ms.2;have:=Xaz (m+1)
   rcases hs1' with rfl | rfl <;> exact ⟨by grind,by grind⟩
  have a4 : -(v.2 - v.1)≤v2 - v1∧v2 - v1≤v.2 - v.1:=by
   rcases hv1' with rfl | rfl <;> rcases hv2' with rfl | rfl <;> exact ⟨by grind,by grind⟩
  have b1:=Xkr a1.1 a1.2 a2.1 a2.2
  have b2:=Xkr a3.1 a3.2 a4.1 a4.2
  grind
 have hPf : ((Xb7 v s).2 - (Xb7 v s).1)*pw f≤pw (m+2):=by
  have c1:=W2o hP (W2n hpf)
  have c2:=W2y hs2 (W2n hpm)
  have c3:=W2y wv (W2n (Xaz (m+1)))
  rw [Xcq,Xcq] at *
  grind
 have d1:=Xv9 (u.1+(Xb7 v s).1) b'
 have d2:=Yaa (u.2+(Xb7 v s).2) b'
 have d3:=Xri (u.1+(Xb7 v s).1) b'
 have d4:=Xsx (u.2+(Xb7 v s).2) b'
 have hε:=Xsy (b:=b') (f:=f) (by omega)
 have hεp:=Xeg b'
 have hεe:=Xdh b'
 have d5 : u.1+(Xb7 v s).1 - Rat.divInt 1 (2 ^ b')≤dnQ (u.1+(Xb7 v s).1) b':=by
  refine W1v ?_ (Xaz b')
  grind
 have d6 : upQ (u.2+(Xb7 v s).2) b'≤u.2+(Xb7 v s).2+Rat.divInt 1 (2 ^ b'):=by
  refine W1v ?_ (Xaz b')
  grind
 refine ⟨?_,?_⟩
 · show dnQ (u.1+(Xb7 v s).1) b'≤upQ (u.2+(Xb7 v s).2) b'
   grind
 · show (upQ (u.2+(Xb7 v s).2) b' - dnQ (u.1+(Xb7 v s).1) b')*pw (f - (m+3))≤1
   refine W1v ?_ (Xaz (m+3))
   rw [Rat.mul_assoc,←Xl9,show f - (m+3)+(m+3)=f by omega,Rat.one_mul]
   have g1:=W2o (show upQ (u.2+(Xb7 v s).2) b' - dnQ (u.1+(Xb7 v s).1) b'≤(u.2 - u.1)+((Xb7 v s).2 - (Xb7 v s).1)+2*Rat.divInt 1 (2 ^ b') by grind) (W2n hpf)
   have g2:=Xgl (m+1)
   rw [Xcq (m+1)] at hPf
   rw [Xcq (m+2),Xcq (m+1)]
   grind
theorem Ycf {u v r s : Rat × Rat} {b b' e m : Nat} (hu : Wid u e) (hv : Wid v e) (hr : Wid r e) (mv : Mg v m) (mr : Mg r m) (h0 : 0≤r.2) (R : RtOf r b s) (hb : e / 2+1≤b) (hb' : b≤b') (he : m+3≤e / 2) :
 Wid (rnd (Xlp u (Xb7 v s)) b') (e / 2 - (m+3)):=Xpr (hu.mono (by omega)) (hv.mono (by omega)) hr (by omega) mv (R.mg mr h0) h0 R hb hb' he
theorem Xps {u v s : Rat × Rat} {b' m j : Nat} (mu : Mg u m) (mv : Mg v m) (ms : 0≤s.1∧s.2≤pw (j+1)) (hs1 : s.1≤s.2) (hv1 : v.1≤v.2) : Mg (rnd (Xlp u (Xb7 v s)) b') (m+j+2):=by
 obtain ⟨⟨v1,s1,hv1',hs1',e1⟩,v2,s2,hv2',hs2',e2⟩:=Xux v s
 have key : ∀ x y,(x=v.1∨x=v.2)→(y=s.1∨y=s.2)→-(pw m*pw (j+1))≤x*y∧x*y≤pw m*pw (j+1):=by
  intro x y hx hy
  have a1 : -pw m≤x∧x≤pw m:=by
   have:=mv.1;have:=mv.2
   rcases hx with rfl | rfl <;> exact ⟨by grind,by grind⟩
  have a3 : -pw (j+1)≤y∧y≤pw (j+1):=by
   have:=ms.1;have:=ms.2;have:=Xaz (j+1)
   rcases hy with rfl | rfl <;> exact ⟨by grind,by grind⟩
  have b1:=Xkr a1.1 a1.2 a3.1 a3.2
  have b2:=Xkr (x:=-x) (show -pw m≤-x by grind) (show -x≤pw m by grind) a3.1 a3.2
  exact ⟨by grind,b1⟩
 have k1:=(key _ _ hv1' hs1').1
 have k2:=(key _ _ hv2' hs2').2
 rw [←e1] at k1
 rw [←e2] at k2
 have hεe:=Xdh b'
 have hε1:=Xj9 b'
 have d1:=Xv9 (u.1+(Xb7 v s).1) b'
 have d2:=Yaa (u.2+(Xb7 v s).2) b'
 have d5 : u.1+(Xb7 v s).1 - Rat.divInt 1 (2 ^ b')≤dnQ (u.1+(Xb7 v s).1) b':=by
  refine W1v ?_ (Xaz b')
  grind
 have d6 : upQ (u.2+(Xb7 v s).2) b'≤u.2+(Xb7 v s).2+Rat.divInt 1 (2 ^ b'):=by
  refine W1v ?_ (Xaz b')
  grind
 have e3 : pw (m+j+2)=2*(pw m*pw (j+1)):=by rw [←Xl9,←Xcq];congr 1
 have e4 : pw m+1≤pw m*pw (j+1):=by
  have h1:=Xgl m
  have h3:=Xgl j
  have h2:=W2y (show 2≤pw (j+1) by rw [Xcq];grind) (W2n (Xaz m))
  grind
 have m1:=mu.1
 have m2:=mu.2
 refine ⟨?_,?_⟩
 · show -pw (m+j+2)≤dnQ (u.1+(Xb7 v s).1) b'
   rw [e3];grind
 · show upQ (u.2+(Xb7 v s).2) b'≤pw (m+j+2)
   rw [e3];grind
theorem Ych {u v r s : Rat × Rat} {b b' m : Nat} (mu : Mg u m) (mv : Mg v m) (mr : Mg r m) (h0 : 0≤r.2) (hs1 : s.1≤s.2) (hv1 : v.1≤v.2) (R : RtOf r b s) : Mg (rnd (Xlp u (Xb7 v s)) b') (2*m+2):=by
 rw [show 2*m+2=m+m+2 by omega];exact Xps mu mv (R.mg mr h0) hs1 hv1
def mW (m : Nat) : Nat→Nat
 | 0=>m
 | k+1=>2*mW m k+2
def eW (m b : Nat) : Nat→Nat
 | 0=>2*b - 2
 | k+1=>eW m b k / 2 - (mW m k+3)
theorem Yhz (m b : Nat) : ∀ k,eW m b k≤2*b - 2
 | 0=>W0b _
 | k+1=>by have:=Yhz m b k;show eW m b k / 2 - (mW m k+3)≤_;omega
theorem Ygz {m : Nat} {x : Rat} (h : Qs m x) : Mg (x,x) m:=by
 have h1:=h.n
 unfold Zs at h1
 have e:=Xkq x
 have hd : (1 : Rat)≤(x.den : Rat):=by
  have : ((1 : Int) : Rat)≤((x.den : Int) : Rat):=W3n.2 (by have:=x.den_pos;omega)
  exact this
 have h2 : ((x.num : Int) : Rat) ≤ pw m := W3n.2 (by have : (x.num.natAbs : Int) < ((2 ^ m : Nat) : Int) := by exact_mod_cast h1
                                                     have e2 : ((2 ^ m : Nat) : Int)=2 ^ m:=by simp
                                                     omega)
 have h3 : -pw m≤((x.num : Int) : Rat):=by
  have h4 : ((-(2 ^ m) : Int) : Rat) ≤ ((x.num : Int) : Rat) := W3n.2 (by have : (x.num.natAbs : Int) < ((2 ^ m : Nat) : Int) := by exact_mod_cast h1
                                                                          have e2 : ((2 ^ m : Nat) : Int)=2 ^ m:=by simp
                                                                          omega)
  rwa [W7c] at h4
 have hp:=Xaz m
 refine ⟨?_,?_⟩
 · show -pw m≤x
   by_cases h0 : 0≤x
   · grind
   · have:=Xjm (show 0≤-x by grind) (show 0≤(x.den : Rat) - 1 by grind)
     grind
 · show x≤pw m
   by_cases h0 : 0≤x
   · have:=Xjm h0 (show 0≤(x.den : Rat) - 1 by grind)
     grind
   · grind
def MgL (m : Nat) (l : List Rat) : Prop:=∀ x∈l,Qs m x
def MgT (m : Nat) : (k : Nat)→Tw k→Prop
 | 0,_=>True
 | k+1,t=>MgT m k t.1∧MgL m (toL k t.2)
theorem Yas (r : Rat × Rat) (b : Nat) : RtOf r b (rts r b):=⟨rfl,by have:=Xeg b;show _≤Xdg r.2 b+_;grind,W6y⟩
theorem Xv4 {k : Nat} {t : Tw k} (h : Xbh k t) (a : El k) (b : Nat) : (enc k t a b).1≤(enc k t a b).2:=Ybe h (Xgm h a b)
theorem Xmr : ∀ {k : Nat} {t : Tw k} {a : El k} {m : Nat} (b : Nat),Xbh k t→MgT m k t→MgL m (toL k a)→Mg (enc k t a b) (mW m k)
 | 0,t,a,m,b,h,hT,ha=>Ygz (ha _ (W0g.2 rfl))
 | k+1,t,a,m,b,h,hT,ha=>by
  have hu:=Xmr (a:=a.1) b h.1 hT.1 fun x hx=>ha x (W2d _ hx)
  have hv:=Xmr (a:=a.2) b h.1 hT.1 fun x hx=>ha x (W1j _ hx)
  have hr:=Xmr b h.1 hT.1 hT.2
  have h0 : 0≤(enc k t.1 t.2 b).2:=by
   have h0 : le k t.1 (rat k 0) t.2:=(Xh8 h.1).2 (by rw [h.2];decide)
   exact (Xba h.1).1 (le_tr h.1 h0 (Xgm h.1 t.2 b).2)
  show Mg (if (∀ x∈toL k a.2,x=0) then enc k t.1 a.1 b else rnd (Xlp (enc k t.1 a.1 b) (Xb7 (enc k t.1 a.2 b) (rts (enc k t.1 t.2 b) b))) b) (2*mW m k+2)
  split
  · exact hu.mono (by omega)
  · refine Ych hu hv hr h0 ?_ (Xv4 h.1 _ _) (Yas _ b)
    have hle:=Xv4 h.1 t.2 b
    have hm : mx0 (enc k t.1 t.2 b).1≤(enc k t.1 t.2 b).2:=by unfold mx0;split <;> assumption
    have:=Xhq (b:=b) (Xev _) hm
    have:=Xeg b
    show Xdg (mx0 (enc k t.1 t.2 b).1) b≤Xdg (enc k t.1 t.2 b).2 b+Rat.divInt 1 (2 ^ b)
    grind
theorem Xre : ∀ {k : Nat} {t : Tw k} {a : El k} {m b : Nat},Xbh k t→MgT m k t→MgL m (toL k a)→0<eW m b k→Wid (enc k t a b) (eW m b k)
 | 0,t,a,m,b,h,hT,ha,he=>⟨W6y,(fun (x : Rat)=>(by grind : (x - x)*pw (eW m b 0)≤1)) a⟩
 | k+1,t,a,m,b,h,hT,ha,he=>by
  have he' : 0<eW m b k / 2 - (mW m k+3):=he
  have hle:=Yhz m b k
  have hu:=Xre (a:=a.1) (m:=m) (b:=b) h.1 hT.1 (fun x hx=>ha x (W2d _ hx)) (by omega)
  have hv:=Xre (a:=a.2) (m:=m) (b:=b) h.1 hT.1 (fun x hx=>ha x (W1j _ hx)) (by omega)
  have hr:=Xre (m:=m) (b:=b) h.1 hT.1 hT.2 (by omega)
  have mv:=Xmr (a:=a.2) b h.1 hT.1 fun x hx=>ha x (W1j _ hx)
  have mr:=Xmr b h.1 hT.1 hT.2
  have h0 : 0≤(enc k t.1 t.2 b).2:=by
   have h0 : le k t.1 (rat k 0) t.2:=(Xh8 h.1).2 (by rw [h.2];decide)
   exact (Xba h.1).1 (le_tr h.1 h0 (Xgm h.1 t.2 b).2)
  show Wid (if (∀ x∈toL k a.2,x=0) then enc k t.1 a.1 b else rnd (Xlp (enc k t.1 a.1 b) (Xb7 (enc k t.1 a.2 b) (rts (enc k t.1 t.2 b) b))) b) (eW m b k / 2 - (mW m k+3))
  split
  · exact hu.mono (by omega)
  · exact Ycf hu hv hr mv mr h0 (Yas _ b) (by omega) (W0b _) (by omega)
end
section
theorem Xow {s b b' : Nat} (h : b≤b') : ∀ k,eB s b k≤eB s b' k
 | 0=>W0b _
 | k+1=>by have:=Xow (s:=s) h k;show 3*eB s b k+4*b+6≤3*eB s b' k+4*b'+6;omega
theorem Yju {x y : Rat} {b : Nat} : Xmx (y - x) (Rat.divInt 1 (2 ^ b))≤0↔(y - x)*pw b≤1:=by
 rw [Xo0]
 have h:=Xdh b
 constructor
 · intro h1
   have:=W2o (show y - x≤Rat.divInt 1 (2 ^ b) by grind) (W2n (Xaz b))
   rwa [h] at this
 · intro h1 h2
   have:=W4w (show 0<y - x - Rat.divInt 1 (2 ^ b) by grind) (Xaz b)
   grind
def Xbo (k : Nat) (t : Tw k) (a : El k) (z : Int) : Prop:=le k t (rat k (z : Rat)) a∧sgn k t (add k a (neg k (rat k ((z+1 : Int) : Rat))))=-1
theorem Xqw {k : Nat} {t : Tw k} (h : Xbh k t) {a b : El k} : sgn k t (add k a (neg k b))=-1↔¬ le k t b a:=by
 unfold le
 have:=(Xaw h).tri (add k a (neg k b))
 omega
theorem Xbo.uniq {k : Nat} {t : Tw k} {a : El k} {z z' : Int} (h : Xbh k t) (i : Xbo k t a z) (j : Xbo k t a z') : z=z':=by
 have key : ∀ z z',Xbo k t a z→Xbo k t a z'→z≤z':=by
  intro z z' i j
  by_cases hz : z≤z'
  · exact hz
  · exact absurd (le_tr h ((Xba h).2 (W3n.2 (show z'+1≤z by omega))) i.1) ((Xqw h).1 j.2)
 have:=key _ _ i j
 have:=key _ _ j i
 omega
theorem Xyv {k : Nat} {t : Tw k} {a : El k} {x y : Rat} (h : Xbh k t) (i : inI k t a x y) (hw : Wid (x,y) 1) : (sgn k t (add k a (neg k (rat k (y.floor : Rat))))<0→Xbo k t a (y.floor - 1))∧(¬ sgn k t (add k a (neg k (rat k (y.floor : Rat))))<0→Xbo k t a y.floor):=by
 have h1:=@W7z y
 have h2:=@Rat.lt_floor y
 have h3 : (y - x)*2≤1:=hw.2
 have e1 : ((1 : Int) : Rat)=1:=rfl
 have hup : sgn k t (add k a (neg k (rat k ((y.floor+1 : Int) : Rat))))=-1:=by
  rw [Xqw h]
  intro hl
  have:=(Xba h).1 (le_tr h hl i.2)
  rw [W4h,e1] at this
  grind
 refine ⟨fun hn=>⟨le_tr h ((Xba h).2 ?_) i.1,?_⟩,fun hn=>⟨?_,hup⟩⟩
 · rw [Rat.intCast_sub,e1]
   grind
 · rw [show y.floor - 1+1=y.floor by omega]
   have:=(Xaw h).tri (add k a (neg k (rat k (y.floor : Rat))))
   omega
 · show 0≤_
   omega
noncomputable def rtb (p : Rat × Rat) (b : Nat) : Rat × Rat:=(Xdg (mx0 p.1) b,Xnf p.2 b)
noncomputable def bx : (k : Nat)→Tw k→El k→Nat→Rat × Rat
 | 0=>fun _ (x : Rat) _=>(x,x)
 | k+1=>fun t a b=>rnd (Xlp (bx k t.1 a.1 b) (Xb7 (bx k t.1 a.2 b) (rtb (bx k t.1 t.2 b) b))) (b+20)
theorem Xnu (x : Rat) (b : Nat) : Xnf x b*pw b=((Xr0 (sq2 x b) : Int) : Rat):=by
 unfold Xnf
 rw [W3h]
 have h:=Xaz b
 show ((Xr0 (sq2 x b) : Int) : Rat) / pw b*pw b=_
 rw [W5f (by grind)]
theorem Xtg (x : Rat) : (Xr0 x=rtF x∧x≤((rtF x : Int) : Rat)*((rtF x : Int) : Rat))∨Xr0 x=rtF x+1:=by
 unfold Xr0
 split
 · exact .inr rfl
 · rename_i h
   rw [W3c] at h
   exact .inl ⟨rfl,by grind⟩
theorem Xlv (x : Rat) : ((rtF x : Int) : Rat)≤((Xr0 x : Int) : Rat)∧((Xr0 x : Int) : Rat)≤((rtF x : Int) : Rat)+1∧(0≤x→x≤((Xr0 x : Int) : Rat)*((Xr0 x : Int) : Rat)):=by
 have e1 : ((1 : Int) : Rat)=1:=rfl
 rcases Xtg x with ⟨h,h2⟩ | h
 · rw [h];exact ⟨W6y,by grind,fun _=>h2⟩
 · have e : ((Xr0 x : Int) : Rat)=((rtF x : Int) : Rat)+1:=by
    rw [h,←e1,←W4h];congr 1
   rw [e]
   exact ⟨by grind,W6y,fun h0=>W2n (Xtx h0)⟩
theorem Xp2 (r : Rat × Rat) (b : Nat) : RtOf r b (rtb r b):=by
 have h:=Xlv (sq2 r.2 b)
 have hp:=Xaz b
 refine ⟨rfl,?_,?_⟩
 · refine W1v ?_ hp
   rw [Xey]
   show _≤Xnf r.2 b*pw b
   rw [Xnu];exact h.1
 · refine W1v ?_ hp
   show Xnf r.2 b*pw b≤_
   have e:=Xey r.2 b
   have e2:=Xdh b
   have e3:=Xnu r.2 b
   have h2:=h.2.1
   grind
theorem Xxs {x : Rat} {b : Nat} (h : 0≤x) : x≤Xnf x b*Xnf x b:=by
 have hp:=Xaz b
 have hpp:=W4w hp hp
 refine W1v ?_ hpp
 have h1:=(Xlv (sq2 x b)).2.2 (Xd4 h)
 rw [←Xnu] at h1
 have h3 : sq2 x b=x*(pw b*pw b):=rfl
 rw [←h3]
 have h4 : Xnf x b*Xnf x b*(pw b*pw b)=Xnf x b*pw b*(Xnf x b*pw b):=by grind
 rw [h4];exact h1
theorem Ycl {s : Nat} {x : Rat} (h : Qs s x) (h0 : 0≤x) (b : Nat) : Qs (s+(2*b+3)) (Xnf x b):=by
 refine Qs.divInt ?_ (Zs.two (by omega)) (Xc6 b)
 have h1:=Xl3 (Xlw (b:=b) h) (Xd4 h0)
 rcases Xtg (sq2 x b) with ⟨e,_⟩ | e <;> rw [e]
 · exact h1.mono (by omega)
 · exact (h1.add (Zs.one (p:=1) (by decide))).mono (by omega)
theorem Ykm {x : Rat} {b : Nat} : Xdg (mx0 x) b*Xdg (mx0 x) b≤x∨Xdg (mx0 x) b=0:=by
 have h1:=Xho (b:=b) (Xev x)
 by_cases h0 : x<0
 · right
   have e : mx0 x=0:=if_pos h0
   rw [e] at h1 ⊢
   have h2:=Xcy 0 b
   by_cases h3 : Xdg 0 b=0
   · exact h3
   · have:=W4w (show 0<Xdg 0 b by grind) (show 0<Xdg 0 b by grind)
     grind
 · left
   have e : mx0 x=x:=if_neg h0
   rw [e] at h1 ⊢
   exact h1
theorem Xhu {k : Nat} {t : Tw (k+1)} (h : Xbh (k+1) t) {x y : Rat} (i : inI k t.1 t.2 x y) : 0≤y:=by
 have h0 : le k t.1 (rat k 0) t.2:=(Xh8 h.1).2 (by rw [h.2];decide)
 exact (Xba h.1).1 (le_tr h.1 h0 i.2)
theorem Yci {k : Nat} {t : Tw (k+1)} (h : Xbh (k+1) t) {a : El (k+1)} {u v r s : Rat × Rat} {b b' : Nat} (iu : inI k t.1 a.1 u.1 u.2) (iv : inI k t.1 a.2 v.1 v.2) (ir : inI k t.1 t.2 r.1 r.2) (R : RtOf r b s) (hs : r.2≤s.2*s.2) :
 inI (k+1) t a (rnd (Xlp u (Xb7 v s)) b').1 (rnd (Xlp u (Xb7 v s)) b').2:=by
 have iu:=Xmh (t:=t) h.1 iu
 have iv:=Xmh (t:=t) h.1 iv
 have hr2:=Xhu h ir
 have h0 : 0≤s.1:=by rw [R.lo];exact Xcy _ _
 have h2 : 0≤s.2:=W5p (Xcy _ _) R.l
 have is:=Xvi h ir (c:=s.1) (d:=s.2) h0 h2 (by rw [R.lo];exact Ykm) hs
 have im:=Xvk h iv is h0 (Xf8 v s).1 (Xf8 v s).2.1 (Xf9 v s).2.2.1 (Xf9 v s).2.2.2
 have ia:=Xvl h iu im
 rw [←Xrg a] at ia
 exact Xq2 h ia (Xri _ _) (Xsx _ _)
theorem Xiw {k : Nat} {t : Tw (k+1)} {a : El (k+1)} {b : Nat} : bx (k+1) t a b=rnd (Xlp (bx k t.1 a.1 b) (Xb7 (bx k t.1 a.2 b) (rtb (bx k t.1 t.2 b) b))) (b+20):=rfl
theorem Xi6 : ∀ {k : Nat} {t : Tw k} (h : Xbh k t) (a : El k) (b : Nat),inI k t a (bx k t a b).1 (bx k t a b).2
 | 0,t,h,a,b=>⟨(Xaw h).le_rf (Xa5 0 t) a,(Xaw h).le_rf (Xa5 0 t) a⟩
 | k+1,t,h,a,b=>by
  have hu:=Xi6 h.1 a.1 b
  have hv:=Xi6 h.1 a.2 b
  have hr:=Xi6 h.1 t.2 b
  have hs : (bx k t.1 t.2 b).2≤(rtb (bx k t.1 t.2 b) b).2*(rtb (bx k t.1 t.2 b) b).2:=Xxs (Xhu h hr)
  have R:=Xp2 (bx k t.1 t.2 b) b
  rw [Xiw]
  generalize rtb (bx k t.1 t.2 b) b=s at *
  exact Yci h hu hv hr R hs
theorem Yeh {k : Nat} {t : Tw k} (h : Xbh k t) (a : El k) (b : Nat) : (bx k t a b).1≤(bx k t a b).2:=Ybe h (Xi6 h a b)
theorem Yf3 {r : Rat × Rat} {b : Nat} (h0 : 0≤r.2) (h : r.1≤r.2) : (rtb r b).1≤(rtb r b).2:=by
 have hm : mx0 r.1≤r.2:=by unfold mx0;split <;> assumption
 exact W5p (Xhq (b:=b) (Xev _) hm) (Xp2 r b).l
def bB (s b : Nat) : Nat→Nat
 | 0=>s
 | k+1=>3*bB s b k+3*b+30
theorem Xzs (s b : Nat) : ∀ k,s≤bB s b k
 | 0=>W0b _
 | k+1=>by have:=Xzs s b k;show s≤3*bB s b k+3*b+30;omega
theorem Yat {s b : Nat} {p : Rat × Rat} (h : Q2 s p) (h0 : 0≤p.2) (hs : 1≤s) : Q2 (s+2*b+3) (rtb p b) :=
 ⟨(Xhp (Xqt h.1 hs) (Xev _) b).mono (by omega),(Ycl h.2 h0 b).mono (by omega)⟩
theorem Xo3 : ∀ {k : Nat} {t : Tw k} {a : El k} {s b : Nat},Xbh k t→TS s k t→Sz s (toL k a)→1≤s→Q2 (bB s b k) (bx k t a b)
 | 0,t,a,s,b,h,hT,ha,hs=>⟨ha.qs (W0g.2 rfl),ha.qs (W0g.2 rfl)⟩
 | k+1,t,a,s,b,h,hT,ha,hs=>by
  have hu:=Xo3 (b:=b) h.1 hT.1 (Sz.left (l:=toL k a.1) (m:=toL k a.2) ha) hs
  have hv:=Xo3 (b:=b) h.1 hT.1 (Sz.right (l:=toL k a.1) (m:=toL k a.2) ha) hs
  have hr:=Xo3 (b:=b) h.1 hT.1 hT.2 hs
  have hge:=Xzs s b k
  rw [Xiw]
  exact (Yav (Xlh hu (Xks hv (Yat hr (Xhu h (Xi6 h.1 t.2 b)) (by omega)))) (b+20)).mono (by show _≤3*bB s b k+3*b+30;omega)
theorem Xqu (p q : Rat × Rat) : (Xb7 p q).1≤(Xb7 p q).2:=W5p (Xf8 p q).1 (Xf9 p q).1
theorem Xo5 {s b b' : Nat} (h : b≤b') : ∀ k,bB s b k≤bB s b' k
 | 0=>W0b _
 | k+1=>by have:=Xo5 (s:=s) h k;show 3*bB s b k+3*b+30≤3*bB s b' k+3*b'+30;omega
theorem Xyu {k : Nat} {t : Tw k} {a : El k} {x y : Rat} (h : Xbh k t) (i : inI k t a x y) (hw : Wid (x,y) 1) : (0≤sgn k t (add k a (neg k (rat k ((x.floor+1 : Int) : Rat))))→Xbo k t a (x.floor+1))∧(¬ 0≤sgn k t (add k a (neg k (rat k ((x.floor+1 : Int) : Rat))))→Xbo k t a x.floor):=by
 have h1:=@W7z x
 have h2:=@Rat.lt_floor x
 have h3 : (y - x)*2≤1:=hw.2
 have e1 : ((1 : Int) : Rat)=1:=rfl
 refine ⟨fun hn=>⟨hn,?_⟩,fun hn=>⟨le_tr h ((Xba h).2 (W7z x)) i.1,?_⟩⟩
 · rw [Xqw h]
   intro hl
   have:=(Xba h).1 (le_tr h hl i.2)
   rw [W4h,W4h,e1] at this
   grind
 · have:=(Xaw h).tri (add k a (neg k (rat k ((x.floor+1 : Int) : Rat))))
   omega
end
section
abbrev dI (p : Rat × Rat) : D:=.st (.pr (dq p.1) (dq p.2))
theorem Xxd {a b a' b' : D} {g : Hp} {K : Hpl} (h1 : a=a') (h2 : b=b') : Fit g K (.d (.st (.pr a b))) (.d (.st (.pr a' b'))):=.eq (by rw [h1,h2])
abbrev zq : AV:=.st (.pr (.st (.pr (.b false) .nil)) (.st (.pr (.b false) .nil)))
abbrev zI : AV:=.st (.pr zq zq)
theorem Xvq {x : Rat} {r : List Rat} {s : Nat} (hx : ∀ y∈x::r,Qs s y) (hs : s+3≤4398046511104) (hn : r.length≤1000) : C0 316 [.d (dqs (x::r))] (·=.d (dI (Xng x r,Xnh x r))):=by
 refine En Tryz.func316 fun _ _ _=>?_
 refine Dz rfl ?_
 refine Ix 0 rfl (u:=dq x) rfl ?_
 refine Ix 0 rfl (u:=dq x) rfl ?_
 refine Dp 1 (r.map dq) rfl rfl (by simp) rfl ?_
 refine Lo (fun (q : Nat × Rat × Rat)=>[(2,.ptr 2 0),(3,.ptr 3 0),(4,.ptr 4 0),(15,.d (dqs r)),(16,.d (.int .i64 (r.map dq).length)),(17,.d (.int .i64 q.1))]) (fun q=>[(2,.var zI),(3,.var (.d (dq q.2.1))),(4,.var (.d (dq q.2.2)))]) (fun q=>q.1≤r.length∧q.2.1=Xng x (r.take q.1)∧q.2.2=Xnh x (r.take q.1)) (fun q=>r.length - q.1) (0,x,x) [] rfl ⟨W1c _,rfl,rfl⟩ (fun (k,lo,hi) ⟨hk,hlo,hhi⟩=>?_)
 simp only at hk hlo hhi
 have qlo : Qs s lo:=hlo ▸ Xoc (Xkg hx k)
 have qhi : Qs s hi:=hhi ▸ Xod (Xkg hx k)
 refine By rfl (fun h=>?_) fun h=>?_
 · have h : (k : Int)<((r.map dq).length : Nat):=h
   rw [lq] at h
   obtain ⟨y,hy⟩:=qat (l:=r) (k:=k) (by omega)
   have qy : Qs s y:=hx y (W1b _ (W0m hy))
   have e : r.take (k+1)=r.take k++[y]:=by rw [W1r,hy];rfl
   have e1 : Xng x (r.take (k+1))=lo2 lo y:=by rw [e,Xmd,hlo]
   have e2 : Xnh x (r.take (k+1))=hi2 hi y:=by rw [e,Xme,hhi]
   have fin : ∀ lo' hi',lo'=lo2 lo y→hi'=hi2 hi y→k+1≤r.length∧lo'=Xng x (r.take (k+1))∧hi'=Xnh x (r.take (k+1)):=fun lo' hi' a b=>⟨by omega,by rw [a,e1],by rw [b,e2]⟩
   refine Ix k rfl (mp hy) ?_
   refine Ce rfl (Xh1 qy qlo (by omega)) ?_
   refine By rfl (fun h1=>?_) fun h1=>?_
   · refine Ce rfl (Xh1 qy qhi (by omega)) ?_
     refine By rfl (fun h2=>?_) fun h2=>?_
     · refine Ar (k+1 : Nat) rfl ?_ (wr (show (k : Int)+1=((k+1 : Nat) : Int) by omega) (by simp only [inK];omega))
       exact Bk (k+1,y,y) [] rfl (fin y y (if_pos (Xwn.1 h1)).symm (if_pos (Yee.1 h2)).symm) (by show r.length - (k+1)<r.length - k;omega)
     · refine Ar (k+1 : Nat) rfl ?_ (wr (show (k : Int)+1=((k+1 : Nat) : Int) by omega) (by simp only [inK];omega))
       exact Bk (k+1,y,hi) [] rfl (fin y hi (if_pos (Xwn.1 h1)).symm (if_neg fun h=>h2 (Yee.2 h)).symm) (by show r.length - (k+1)<r.length - k;omega)
   · refine Ce rfl (Xh1 qy qhi (by omega)) ?_
     refine By rfl (fun h2=>?_) fun h2=>?_
     · refine Ar (k+1 : Nat) rfl ?_ (wr (show (k : Int)+1=((k+1 : Nat) : Int) by omega) (by simp only [inK];omega))
       exact Bk (k+1,lo,y) [] rfl (fin lo y (if_neg fun h=>h1 (Xwn.2 h)).symm (if_pos (Yee.1 h2)).symm) (by show r.length - (k+1)<r.length - k;omega)
     · refine Ar (k+1 : Nat) rfl ?_ (wr (show (k : Int)+1=((k+1 : Nat) : Int) by omega) (by simp only [inK];omega))
       exact Bk (k+1,lo,hi) [] rfl (fin lo hi (if_neg fun h=>h1 (Xwn.2 h)).symm (if_neg fun h=>h2 (Yee.2 h)).symm) (by show r.length - (k+1)<r.length - k;omega)
 · have h : ¬ (k : Int)<((r.map dq).length : Nat):=h
   rw [lq] at h
   rw [W0a (by omega)] at hlo hhi
   refine Ce rfl (Xbj (z:=0) (by decide)) ?_
   refine Dw rfl ?_
   refine Ce rfl (Xdp (y:=0) qlo qs0 (by omega)) ?_
   refine Ce rfl (Xdp (y:=0) qhi qs0 (by omega)) ?_
   exact R1 rfl (Xxd (by rw [W6s,hlo]) (by rw [W6s,hhi]))
section
variable {p q : Rat × Rat} {s t : Nat}
theorem Xvp {x : Rat} (hx : Qs s x) (hs : s+3≤4398046511104) : C0 291 [.d (dq x)] (·=.d (dI (x,x))):=by
 have e1 : Xng x [x]=x:=by show lo2 x x=x;unfold lo2;split <;> rfl
 have e2 : Xnh x [x]=x:=by show hi2 x x=x;unfold hi2;split <;> rfl
 have:=Xvq (x:=x) (r:=[x]) (s:=s) (fun y hy=>by simp at hy;rw [hy];exact hx) hs (by simp)
 rw [e1,e2] at this
 refine En Tryz.func291 fun _ _ _=>?_
 refine Ce rfl this ?_
 exact R1 rfl (.rf rfl)
theorem Xvo (hp : Q2 s p) (hs : 2*s+1≤4398046511104) : C0 244 [.d (dI p)] (·=.d (dq (p.2 - p.1))):=by
 refine En Tryz.func244 fun _ _ _=>?_
 refine Ce rfl (Xua hp.2 hp.1 (by omega)) ?_
 exact R1 rfl (.rf rfl)
theorem Ydt (hp : Q2 s p) (hq : Q2 t q) (hs : s+t+1≤4398046511104) : C0 293 [.d (dI p),.d (dI q)] (·=.d (dI (Xlp p q))):=by
 refine En Tryz.func293 fun _ _ _=>?_
 refine Dw rfl ?_
 refine Ce rfl (Xdp hp.1 hq.1 (by omega)) ?_
 refine Ce rfl (Xdp hp.2 hq.2 (by omega)) ?_
 exact R1 rfl (Xxd rfl rfl)
theorem Ydr (hp : Q2 s p) (hq : Q2 t q) (hs : s+t+3≤4398046511104) : C0 294 [.d (dI p),.d (dI q)] (·=.d (dI (Xb7 p q))):=by
 have hh:=Xvq (x:=p.1*q.1) (r:=[p.1*q.2,p.2*q.1,p.2*q.2]) (s:=s+t) (fun y hy=>by
  simp only [W1q,List.not_mem_nil,or_false] at hy
  rcases hy with rfl | rfl | rfl | rfl
  · exact hp.1.mul hq.1
  · exact hp.1.mul hq.2
  · exact hp.2.mul hq.1
  · exact hp.2.mul hq.2) hs (by simp)
 refine En Tryz.func294 fun _ _ _=>?_
 refine Dw rfl ?_
 refine Ce rfl (Xh0 hp.1 hq.1 (by omega)) ?_
 refine Ce rfl (Xh0 hp.1 hq.2 (by omega)) ?_
 refine Ce rfl (Xh0 hp.2 hq.1 (by omega)) ?_
 refine Ce rfl (Xh0 hp.2 hq.2 (by omega)) ?_
 refine Ce rfl hh ?_
 exact R1 rfl (.rf rfl)
end
theorem Yky {n m r : Nat} (hr : n / m=r) (hm : 0<m) (hn : n<9223372036854775808) : arB .quo .i64 n m r:=show _∧_ from ⟨by omega,by
 rw [show Int.tdiv (n : Int) (m : Int)=((n / m : Nat) : Int) from rfl,hr]
 have:=W3p n m
 exact wI (by omega)⟩
theorem Xc7 {n : Nat} (hn : n≤8796093022200) : C0 241 [.d (.int .i64 n)] (·=.d (dz (2 ^ n : Int))):=by
 have e : (2 ^ n : Int)=((2 ^ n : Nat) : Int):=by simp
 refine En Tryz.func241 fun _ _ _=>?_
 refine Ar (n / 32 : Nat) rfl ?_ (Yky (m:=32) rfl (by decide) (by omega))
 refine Ar (n / 32+1 : Nat) rfl ?_
 refine Mk (n / 32+1) rfl (by omega) ?_
 refine Ar (n / 32 : Nat) rfl ?_ (Yky (m:=32) rfl (by decide) (by omega))
 refine Ar (n % 32 : Nat) rfl ?_ (show _∧_ from ⟨by decide,Xrw n 32⟩)
 refine Ar (2 ^ (n % 32) : Nat) rfl ?_ (Xg1 (W1x _ (by decide)))
 refine Eo (n / 32) rfl (by omega) ?_
 refine Sto rfl (by simp) rfl ?_
 refine R1 rfl (.sd (.pd (.bd (by rw [e];exact (decide_eq_false (by have:=W6v (n:=2) (m:=n) (by decide);omega)).symm)) (.own rfl (by simp) ?_)))
 rw [e,W1g,Xox,W1d,W0a (by simp),←ms,W2f]
 rfl
theorem Xb6 (x : Rat) : (x.den : Int)≠0:=by have:=x.den_nz;omega
section
variable {x : Rat} {s b : Nat}
theorem Xir (hx : Qs s x) (hb : b≤1099511627776) (hs : s≤1099511627776) : C0 317 [.d (dq x),.d (.int .i64 b)] (·=.d (dq (dnQ x b))):=by
 have hp:=hx.mul (Xgu b)
 have h2 : Zs (b+1) (2 ^ b : Int):=Zs.two (W0b _)
 have hn2:=(hx.n.mul h2).len (by omega)
 have l1:=hx.n.len (by omega)
 have l2:=h2.len (by omega)
 have l3:=hx.d.len (by omega)
 have hm:=Make_ok (p:=s+b+1) (a:=(x*pw b).floor) (b:=2 ^ b) ((Zs.floor hp).mono (by omega)) (h2.mono (by omega)) (by omega) (Xc6 b)
 have hd:=DivMod_ok (a:=x.num*2 ^ b) (b:=x.den) (by omega) (by omega) (Xb6 x)
 rw [Xk5] at hd
 refine En Tryz.func317 fun _ _ _=>?_
 refine Ce rfl (Xc7 (n:=b) (by omega)) ?_
 refine Dz rfl ?_
 refine Ce rfl (Mul_ok (by omega) (by omega)) ?_
 refine Ce rfl hd ?_
 refine Ce rfl hm ?_
 exact R1 rfl (.rf rfl)
theorem Yb3 (hx : Qs s x) (hb : b≤1099511627776) (hs : s≤1099511627776) : C0 318 [.d (dq x),.d (.int .i64 b)] (·=.d (dq (upQ x b))):=by
 refine En Tryz.func318 fun _ _ _=>?_
 refine Ce rfl (Xkh hx (by omega)) ?_
 refine Ce rfl (Xir hx.neg hb hs) ?_
 refine Ce rfl (Xkh (Xrh hx.neg b) (by omega)) ?_
 exact R1 rfl (.rf rfl)
theorem Xx1 {p : Rat × Rat} (hp : Q2 s p) (hb : b≤1099511627776) (hs : s≤1099511627776) : C0 292 [.d (dI p),.d (.int .i64 b)] (·=.d (dI (rnd p b))):=by
 refine En Tryz.func292 fun _ _ _=>?_
 refine Dw rfl ?_
 refine Ce rfl (Xir hp.1 hb hs) ?_
 refine Ce rfl (Yb3 hp.2 hb hs) ?_
 exact R1 rfl (Xxd rfl rfl)
theorem Xcv (hx : Qs s x) (hx0 : 0≤x) (hb : b≤1099511627776) (hs : s≤1099511627776) : C0 319 [.d (dq x),.d (.int .i64 b)] (·=.d (dq (Xdg x b))):=by
 have h2 : Zs (2*b+1) (2 ^ (2*b) : Int):=Zs.two (W0b _)
 have hn2:=(hx.n.mul h2).len (by omega)
 have qx:=Xlw (b:=b) hx
 have nx:=Xd4 (b:=b) hx0
 have zx:=Xl3 qx nx
 have fx:=Zs.floor qx
 rw [Xb4 nx] at fx
 have lx:=Xog (show (sq2 x b).floor.toNat<_ from fx)
 have l1:=hx.n.len (by omega)
 have l2:=h2.len (by omega)
 have l3:=hx.d.len (by omega)
 have hd:=DivMod_ok (a:=x.num*2 ^ (2*b)) (b:=x.den) (by omega) (by omega) (Xb6 x)
 rw [Xxr b hx0] at hd
 refine En Tryz.func319 fun _ _ _=>?_
 refine Dz rfl ?_
 refine Ar (2*b : Nat) rfl ?_
 refine Ce rfl (Xc7 (n:=2*b) (by omega)) ?_
 refine Ce rfl (Mul_ok (by omega) (by omega)) ?_
 refine Ce rfl hd ?_
 refine Ce rfl (Sqrt_ok (a:=(sq2 x b).floor.toNat) (by omega)) ?_
 refine Dz rfl ?_
 refine Ce rfl (Xc7 (n:=b) (by omega)) ?_
 refine Ce rfl (Make_ok (p:=s+(2*b+2)) (a:=(rtF (sq2 x b) : Int)) (b:=2 ^ b) zx (Zs.two (by omega)) (by omega) (Xc6 b)) ?_
 exact R1 rfl (.rf rfl)
theorem Xx2 {p : Rat × Rat} (hp : Q2 s p) (hp0 : 0≤p.2) (hb : b≤1099511627776) (hs1 : 1≤s) (hs : s≤1099511627776) : C0 295 [.d (dI p),.d (.int .i64 b)] (·=.d (dI (rts p b))):=by
 have hm:=Xqt hp.1 hs1
 have hmk:=Make_ok (p:=b+1) (a:=1) (b:=2 ^ b) (Zs.one (by omega)) (Zs.two (W0b _)) (by omega) (Xc6 b)
 refine En Tryz.func295 fun _ _ _=>?_
 refine Ce rfl (Xfj hp.1 (by omega)) ?_
 refine By rfl (fun h=>?_) fun h=>?_
 · have e : mx0 p.1=0:=if_pos (Yh7.1 h)
   rw [e] at hm
   refine Ce rfl (Xbj (z:=0) (by decide)) ?_
   refine Ce rfl (FromInt_ok (z:=1) (by decide)) ?_
   refine Ce rfl (Xc7 (n:=b) (by omega)) ?_
   refine Ce rfl hmk ?_
   refine Dw rfl ?_
   refine Ce rfl (Xcv (x:=0) hm W6y hb hs) ?_
   refine Ce rfl (Xcv hp.2 hp0 hb hs) ?_
   refine Ce rfl (Xdp (Xhp hp.2 hp0 b) (Xj8 b) (by omega)) ?_
   exact R1 rfl (Xxd (by show dq _=dq (Xdg (mx0 p.1) b);rw [e]) rfl)
 · have e : mx0 p.1=p.1:=if_neg (fun e=>h (Yh7.2 e))
   refine Ce rfl (FromInt_ok (z:=1) (by decide)) ?_
   refine Ce rfl (Xc7 (n:=b) (by omega)) ?_
   refine Ce rfl hmk ?_
   refine Dw rfl ?_
   refine Ce rfl (Xcv hp.1 (by rw [←e];exact Xev _) hb hs) ?_
   refine Ce rfl (Xcv hp.2 hp0 hb hs) ?_
   refine Ce rfl (Xdp (Xhp hp.2 hp0 b) (Xj8 b) (by omega)) ?_
   exact R1 rfl (Xxd (by show dq _=dq (Xdg (mx0 p.1) b);rw [e]) rfl)
end
theorem Xsd {k : Nat} : ∀ {s b : Nat} {t : Tw k} {a : Tow.El k},Xbh k t→TS s k t→Sz s (toL k a)→1≤s→k≤16→eB s b k≤274877906944→b≤274877906944→C0 242 [.d (dt t),.d (de a),.d (.int .i64 b)] (·=.d (dI (enc k t a b))):=by
 induction k with
 | zero =>
  intro s b t a hR hT ha hs1 hk hs hb
  have hs : s≤274877906944:=hs
  have key : ∀ y : Rat,Qs s y→C0 242 [.d (dts []),.d (dqs [y]),.d (.int .i64 b)] (·=.d (dI (y,y))):=fun y hy=>by
   refine En Tryz.func242 fun _ _ _=>?_
   refine Yes rfl rfl ?_
   refine Ix 0 rfl (u:=dq y) rfl ?_
   refine Ce rfl (Xvp hy (by omega)) ?_
   exact R1 rfl (.rf rfl)
  exact key a (ha.qs (W0g.2 rfl))
 | succ k ih =>
  intro s b t a hR hT ha hs1 hk hs hb
  have hx : Sz s (toL k a.1):=Sz.left ha
  have hy : Sz s (toL k a.2):=Sz.right ha
  have hge:=Xv5 s b k
  have hs' : 3*eB s b k+4*b+6≤274877906944:=hs
  have qu:=Xin (b:=b) hR.1 hT.1 hx hs1
  have qv:=Xin (b:=b) hR.1 hT.1 hy hs1
  have qr:=Xin (b:=b) hR.1 hT.1 hT.2 hs1
  have hhi:=Ybn hR b
  have qs:=Yar (b:=b) qr hhi (by omega)
  have qm:=Xks qv qs
  have qa:=Xlh qu qm
  have hlen:=Xab k
  have hp:=p16 hk
  refine En Tryz.func242 fun _ _ _=>?_
  refine No rfl (by show ¬ ((((toT k t.1++[toL k t.2]).map dqs).length : Nat) : Int)=0;rw [twL];omega) ?_
  refine Ar k rfl ?_ (tw1 t (by omega))
  refine Ar (2 ^ k : Nat) rfl ?_ (hvq a (by omega))
  refine Tk k ((toT k t.1).map dqs) rfl rfl (Xgr t) (twT t) ?_
  refine Tk (2 ^ k) ((toL k a.1).map dq) rfl rfl (Xcb a) (hvT a) ?_
  refine Ce rfl (ih hR.1 hT.1 hx hs1 (by omega) (by omega) hb) ?_
  refine Dp (2 ^ k) ((toL k a.2).map dq) rfl rfl (Xcb a) (hvD a) ?_
  refine Ce rfl (Xg0 (l:=toL k a.2) hy.ps (by omega) (by rw [hlen];have:=p16 (show k≤16 by omega);omega)) ?_
  refine By rfl (fun h=>?_) fun h=>?_
  · have he : enc (k+1) t a b=enc k t.1 a.1 b:=if_pos h
    exact R1 rfl (by rw [he];exact .rf rfl)
  · have he : enc (k+1) t a b=rnd (Xlp (enc k t.1 a.1 b) (Xb7 (enc k t.1 a.2 b) (rts (enc k t.1 t.2 b) b))) b:=if_neg h
    refine Dz rfl ?_
    refine Dp (2 ^ k) ((toL k a.2).map dq) rfl rfl (Xcb a) (hvD a) ?_
    refine Ce rfl (ih hR.1 hT.1 hy hs1 (by omega) (by omega) hb) ?_
    refine Ix k rfl (twU t) ?_
    refine Ce rfl (ih hR.1 hT.1 hT.2 hs1 (by omega) (by omega) hb) ?_
    refine Dw rfl ?_
    refine Ce rfl (Xx2 qr hhi (by omega) (by omega) (by omega)) ?_
    refine Ce rfl (Ydr qv qs (by omega)) ?_
    refine Ce rfl (Ydt qu qm (by omega)) ?_
    refine Ce rfl (Xx1 qa (by omega) (by omega)) ?_
    rw [he]
    exact R1 rfl (.rf rfl)
theorem Xsp {k : Nat} {t : Tw k} {a : Tow.El k} {bits P s : Nat} (hR : Xbh k t) (hw : ∀ b,P≤b→Wid (enc k t a b) bits) (hT : TS s k t) (ha : Sz s (toL k a)) (hs1 : 1≤s) (hk : k≤16) (hv : vB s k s≤4398046511104) (hb : bits≤1024) (hP : P≤1000000000) (he : eB s (2*(P+bits+16)) k≤274877906944) :
 C0 188 [.d (dt t),.d (de a),.d (.int .i64 bits)] fun v=>∃ p : Rat × Rat,v=.d (dI p)∧inI k t a p.1 p.2∧Wid p bits∧Q2 (eB s (2*(P+bits+16)) k) p:=by
 have hsb : s≤4398046511104:=W0h (Xeq k s) hv
 obtain ⟨B,hB⟩ : ∃ B,B=eB s (2*(P+bits+16)) k:=⟨_,rfl⟩
 rw [←hB] at he ⊢
 have hq : ∀ b,b≤2*(P+bits+16)→Q2 B (enc k t a b):=fun b hb=>(Xin hR hT ha hs1).mono (by rw [hB];exact Xow hb k)
 refine En Tryz.func188 fun _ _ _=>?_
 refine No rfl (by omega) ?_
 refine No rfl (by omega) ?_
 refine Ce rfl (Xoo (l:=[toL k a]) (s:=s) hT hR hk hv hsb (fun x hx=>⟨a,W0g.1 hx,ha⟩) (by simp) hsb) ?_
 refine No rfl (by simp) ?_
 refine Ce rfl (FromInt_ok (z:=1) (by decide)) ?_
 refine Ce rfl (Xc7 (n:=bits) (by omega)) ?_
 refine Ce rfl (Make_ok (p:=bits+1) (a:=1) (b:=2 ^ bits) (Zs.one (by omega)) (Zs.two (W0b _)) (by omega) (Xc6 bits)) ?_
 refine Ar (bits+16 : Nat) rfl ?_
 refine Lo (fun (g : Nat)=>[(0,.d (dt t)),(1,.d (de a)),(6,.ptr 6 0),(7,.ptr 7 0),(9,.d (.int .i64 g))]) (fun _=>[(6,.var (.st (.pr (.st (.pr (.st (.pr (.b false) .nil)) (.st (.pr (.b false) .nil)))) (.st (.pr (.st (.pr (.b false) .nil)) (.st (.pr (.b false) .nil))))))),(7,.var (.d (dq (Rat.divInt 1 (2 ^ bits)))))]) (fun g=>1≤g∧g≤2*(P+bits+16)) (fun g=>2*(P+bits+16) - g) (bits+16) [] rfl ⟨by omega,by omega⟩ (fun g ⟨hg1,hg⟩=>?_)
 have hge:=hq g hg
 have heB : eB s g k≤274877906944:=W0h (Xow hg k) (by omega)
 refine Ce rfl (Xsd hR hT ha hs1 hk heB (by omega)) ?_
 refine Dw rfl ?_
 refine Ce rfl (Xvo hge (by omega)) ?_
 refine Ce rfl (Xh1 (by rw [W5e];exact hge.2.add hge.1.neg) (Xj8 bits) (by omega)) ?_
 refine By rfl (fun h=>?_) fun h=>?_
 · exact Rt rfl (.one (.rf rfl) rfl rfl) ⟨_,rfl,Xgm hR a g,⟨Xv4 hR a g,Yju.1 h⟩,hge⟩
 · have hgP : g<P:=by
    by_cases hgP : g<P
    · exact hgP
    · exact absurd (Yju.2 (hw g (by omega)).2) h
   refine Ar (2*g : Nat) rfl ?_
   exact Bk (2*g) [] rfl ⟨by omega,by omega⟩ (by show 2*(P+bits+16) - 2*g<2*(P+bits+16) - g;omega)
end
section
theorem RtOf.mg2 {r s : Rat × Rat} {b j : Nat} (R : RtOf r b s) (hr : r.2≤pw (2*j)) (h0 : 0≤r.2) : 0≤s.1∧s.2≤pw (j+1):=by
 have h1:=Xho (b:=b) h0
 have h2:=Xcy (mx0 r.1) b
 rw [←R.lo] at h2
 refine ⟨h2,?_⟩
 have h3 : Xdg r.2 b≤pw j:=Xq0 (W2n (Xaz j)) (W5p h1 (by rw [←Yax];exact hr))
 have h4:=R.h
 have h5:=Xj9 b
 have h6:=Xgl j
 rw [Xcq]
 grind
def mE (m : Nat) : Nat→Nat→Nat
 | 0,M=>M
 | k+1,M=>mE m k M+(mE m k m+1) / 2+2
def eE (m b : Nat) : Nat→Nat→Nat
 | 0,_=>2*b - 2
 | k+1,M=>min (eE m b k M) (eE m b k m / 2) - (max (mE m k M) ((mE m k m+1) / 2)+3)
theorem Yh0 (m b : Nat) : ∀ k M,eE m b k M≤2*b - 2
 | 0,_=>W0b _
 | k+1,M=>by have:=Yh0 m b k M;show min (eE m b k M) (eE m b k m / 2) - (max (mE m k M) ((mE m k m+1) / 2)+3)≤_;omega
theorem Yic {k : Nat} {t : Tw (k+1)} {m b : Nat} (h : Xbh (k+1) t) (hr : Mg (bx k t.1 t.2 b) (mE m k m)) : 0≤(rtb (bx k t.1 t.2 b) b).1∧(rtb (bx k t.1 t.2 b) b).2≤pw ((mE m k m+1) / 2+1) :=
 (Xp2 _ b).mg2 (W5p hr.2 (Xh2 (by omega))) (Xhu h (Xi6 h.1 t.2 b))
theorem Xm3 : ∀ {k : Nat} {t : Tw k} {a : El k} {m M : Nat} (b : Nat),Xbh k t→MgT m k t→MgL M (toL k a)→Mg (bx k t a b) (mE m k M)
 | 0,t,a,m,M,b,h,hT,ha=>Ygz (ha _ (W0g.2 rfl))
 | k+1,t,a,m,M,b,h,hT,ha=>by
  have hu:=Xm3 (a:=a.1) (M:=M) b h.1 hT.1 fun x hx=>ha x (W2d _ hx)
  have hv:=Xm3 (a:=a.2) (M:=M) b h.1 hT.1 fun x hx=>ha x (W1j _ hx)
  have hr:=Xm3 (M:=m) b h.1 hT.1 hT.2
  have h0:=Xhu h (Xi6 h.1 t.2 b)
  rw [Xiw]
  exact Xps hu hv (Yic h hr) (Yf3 h0 (Yeh h.1 _ _)) (Yeh h.1 _ _)
theorem Xgp : ∀ {k : Nat} {t : Tw k} {a : El k} {m M b : Nat},Xbh k t→MgT m k t→MgL M (toL k a)→0<eE m b k M→Wid (bx k t a b) (eE m b k M)
 | 0,t,a,m,M,b,h,hT,ha,he=>⟨W6y,(fun (x : Rat)=>(by grind : (x - x)*pw (eE m b 0 M)≤1)) a⟩
 | k+1,t,a,m,M,b,h,hT,ha,he=>by
  have he' : 0<min (eE m b k M) (eE m b k m / 2) - (max (mE m k M) ((mE m k m+1) / 2)+3):=he
  have hle:=Yh0 m b k m
  have hu:=Xgp (a:=a.1) (m:=m) (M:=M) (b:=b) h.1 hT.1 (fun x hx=>ha x (W2d _ hx)) (by omega)
  have hv:=Xgp (a:=a.2) (m:=m) (M:=M) (b:=b) h.1 hT.1 (fun x hx=>ha x (W1j _ hx)) (by omega)
  have hr:=Xgp (m:=m) (M:=m) (b:=b) h.1 hT.1 hT.2 (by omega)
  have mv:=Xm3 (a:=a.2) (M:=M) b h.1 hT.1 fun x hx=>ha x (W1j _ hx)
  have mr:=Xm3 (M:=m) b h.1 hT.1 hT.2
  have ms:=Yic h mr
  have h0:=Xhu h (Xi6 h.1 t.2 b)
  rw [Xiw]
  exact Xpr (m:=max (mE m k M) ((mE m k m+1) / 2)) (hu.mono (by omega)) (hv.mono (by omega)) hr (by omega) (mv.mono (by omega)) ⟨ms.1,W5p ms.2 (Xh2 (by omega))⟩ h0 (Xp2 _ b) (by omega) (by omega) (by omega)
theorem Yei {k : Nat} {t : Tw k} {a : El k} (h : Xbh k t) (hT : MgT 64 k t) (ha : MgL 300 (toL k a)) (hk : k≤3) : Wid (bx k t a 2048) 1:=by
 have hk : k=0∨k=1∨k=2∨k=3:=by omega
 rcases hk with rfl | rfl | rfl | rfl
 · exact (Xgp h hT ha (show 0<eE 64 2048 0 300 by decide)).mono (by decide)
 · exact (Xgp h hT ha (show 0<eE 64 2048 1 300 by decide)).mono (by decide)
 · exact (Xgp h hT ha (show 0<eE 64 2048 2 300 by decide)).mono (by decide)
 · exact (Xgp h hT ha (show 0<eE 64 2048 3 300 by decide)).mono (by decide)
theorem Xio {k : Nat} {t : Tw k} {a : El k} {m : Nat} (h : Xbh k t) (hT : MgT m k t) (ha : MgL m (toL k a)) (hk : k≤3) (hm : m≤10000) : ∀ b,1000000≤b→Wid (enc k t a b) 1:=fun b hb=>by
 have key : ∀ e,(0<e→Wid (enc k t a b) e)→1≤e→Wid (enc k t a b) 1:=fun e h1 h2=>(h1 (by omega)).mono h2
 refine key _ (fun he=>Xre h hT ha he) ?_
 have hk : k=0∨k=1∨k=2∨k=3:=by omega
 rcases hk with rfl | rfl | rfl | rfl <;> simp only [eW,mW] <;> omega
end
section
theorem Zs.pow {q : Nat} {z : Int} (h : Zs q z) (n : Nat) : Zs (q*n+1) (z ^ n):=by
 unfold Zs at *
 rw [W8f]
 have h1 : z.natAbs ^ n≤(2 ^ q) ^ n:=W6d (W2b h) n
 rw [←W5j] at h1
 rw [W0p]
 have:=W0o (q*n)
 omega
theorem Zs.len2 {q : Nat} {z : Int} (h : Zs q z) (hq : q≤8000000000000) : (dig z.natAbs).length≤274877906944:=by
 have h1 : z.natAbs<4294967296 ^ (q / 32+1):=by
  rw [show 4294967296=2 ^ 32 from rfl,←W5j]
  exact W0t h (W0i (by decide) (by omega))
 have:=Xao h1
 omega
theorem Xyo {a : Int} (ha : (dig a.natAbs).length≤549755813888) : C0 191 [.d (dz a),.d (dz 1)] (·=.d (dz (a - 1))):=by
 have h1 : (dig (Int.natAbs (-1))).length≤549755813888:=W0h (Xao (n:=1) (k:=1) (by decide)) (by decide)
 have h:=Add_ok (a:=a) (b:=-1) ha h1
 have hc : C0 110 [.d (dz a),.d (.st (.pr (.bool (!decide ((1 : Int)<0))) (ws (dig (Int.natAbs 1)))))] (·=.d (dz (a - 1))):=h
 refine En Tryz.func191 fun _ _ _=>?_
 refine Ce rfl hc ?_
 exact R1 rfl (.rf rfl)
theorem Xub {x : Rat} {p : Nat} (hx : Qs p x) (hp : p≤4398046511104) : C0 187 [.d (dq x)] (·=.d (dz x.floor)):=by
 have h:=DivMod_ok (a:=x.num) (b:=x.den) (W0h (hx.n.len (by omega)) (by decide)) (W0h (hx.d.len (by omega)) (by decide)) (Xb6 x)
 have e : x.num.fdiv x.den=x.floor:=by
  have:=Xk5 x 0
  rw [show pw 0=1 from rfl,Rat.mul_one,W7g,W4u] at this
  exact this
 rw [e] at h
 refine En Tryz.func187 fun _ _ _=>?_
 refine Ce rfl h ?_
 exact R1 rfl (.rf rfl)
theorem Ydq {n : Nat} {z : Int} {q : Nat} (hz : Zs q z) (hn : n≤4096) (hq : q≤100000) : C0 104 [.d (dz z),.d (.int .i64 n)] (·=.tup (.pr (.d (dz (z ^ n))) (.d (.int .i64 0)))):=by
 refine En Tryz.func104 fun _ _ _=>?_
 refine No rfl (by omega) ?_
 refine No rfl (by omega) ?_
 refine Dw rfl ?_
 refine Ce rfl (FromInt_ok (z:=1) (by decide)) ?_
 refine Ce rfl (Norm_ok (W0h (hz.len (by omega)) (by decide))) ?_
 refine Lo (fun ((m,o,e) : Nat × Nat × Nat)=>[(1,.d (.int .i64 m)),(4,.ptr 4 0),(5,.d (.int .i64 0)),(6,.ptr 6 0),(7,.ptr 7 0)]) (fun (m,o,e)=>[(4,.var (.st (.pr (.b false) .nil))),(6,.var (.d (dz (z ^ o)))),(7,.var (.d (dz (z ^ e))))]) (fun (m,o,e)=>o+e*m=n∧e≤max n 1∧m≤n) (fun (m,_,_)=>m) (n,0,1) [] rfl ⟨by omega,by omega,W0b n⟩ ?_ (by exact ⟨rfl,by show Xsr _ [(4,Ob.var (AV.st (.pr (.b false) .nil))),(6,Ob.var (AV.d (dz (z ^ 0)))),(7,Ob.var (AV.d (dz (z ^ 1))))];rw [W7g,show z ^ 1=z by rw [Int.pow_succ,W7g,W5k]];rfl,rfl,rfl,rfl⟩)
 rintro ⟨m,o,e⟩ ⟨hm,he,hmn⟩
 have hsz : ∀ j,j≤4096→(dig (z ^ j).natAbs).length≤549755813888:=fun j hj=>by
  have:=Zs.pow hz j
  have hqj : q*j≤100000*4096:=W1z hq hj
  exact W0h (this.len (by omega)) (by decide)
 have ho : o≤4096:=by have:=W1c (e*m);omega
 have he4 : e≤4096:=by omega
 refine By rfl (fun h=>?_) fun h=>?_
 · have h : (m : Int) > 0:=h
   have hdm:=W2l m 2
   have hem : e*m=2*(e*(m / 2))+e*(m % 2):=by
    conv=>lhs;rw [←hdm,W0x]
    rw [W4e]
   have hq2 : arB .quo .i64 (m : Int) 2 ((m / 2 : Nat) : Int):=Yky (m:=2) rfl (by decide) (by omega)
   have sqr : ∀ e : Nat,z ^ e*z ^ e=z ^ (e+e):=fun e=>(W6x ..).symm
   refine Ar (m % 2 : Nat) rfl ?_ (show _∧_ from ⟨by decide,Xrw m 2⟩)
   refine By rfl (fun h1=>?_) fun h1=>?_
   · have h1 : m % 2=1:=by omega
     rw [h1,W4g] at hem
     refine Ce rfl (Mul_ok (hsz o ho) (hsz e he4)) ?_
     rw [←W6x]
     refine Ar (m / 2 : Nat) rfl ?_ hq2
     refine By rfl (fun h2=>?_) fun h2=>?_
     · have he2 : e*1≤e*(m / 2):=W0q e (by omega)
       refine Ce rfl (Mul_ok (hsz e he4) (hsz e he4)) ?_
       rw [sqr]
       exact Bk (m / 2,o+e,e+e) [] rfl ⟨by rw [W1h];omega,by omega,by omega⟩ (by show m / 2<m;omega)
     · have h20 : m / 2=0:=by omega
       rw [h20] at hem
       exact Bk (m / 2,o+e,e) [] rfl ⟨by rw [h20];omega,he,by omega⟩ (by show m / 2<m;omega)
   · have h1 : m % 2=0:=by omega
     rw [h1,W3d] at hem
     refine Ar (m / 2 : Nat) rfl ?_ hq2
     have he2 : e*1≤e*(m / 2):=W0q e (by omega)
     refine Yes rfl (by omega) ?_
     refine Ce rfl (Mul_ok (hsz e he4) (hsz e he4)) ?_
     rw [sqr]
     exact Bk (m / 2,o,e+e) [] rfl ⟨by rw [W1h];omega,by omega,by omega⟩ (by show m / 2<m;omega)
 · have h : ¬ (m : Int) > 0:=h
   have hm0 : m=0:=by omega
   rw [hm0,W3d,W2k] at hm
   rw [hm]
   exact RTt rfl (.cons (.rf rfl) Xcj)
theorem Xts {k : Nat} {t : Tw k} {a : Tow.El k} {P s : Nat} (hR : Xbh k t) (hw : ∀ b,P≤b→Wid (enc k t a b) 1) (hT : TS s k t) (ha : Sz s (toL k a)) (hs1 : 1≤s) (hk : k≤16) (hP : P≤1000000000) (he : eB s (2*(P+1+16)) k≤274877906944) (hv : vB s k (s+eB s (2*(P+1+16)) k+4)≤4398046511104) :
 C0 127 [.d (dt t),.d (de a)] fun v=>∃ z,v=.d (dz z)∧Xbo k t a z∧(dig z.natAbs).length≤274877906944:=by
 have hsB:=W0h (Xeq (r:=s) k _) hv
 obtain ⟨B,hB⟩ : ∃ B,B=eB s (2*(P+1+16)) k:=⟨_,rfl⟩
 have hvs : vB s k s≤4398046511104:=W0h (Xcp (by omega)) hv
 have hE:=Xsp (bits:=1) hR hw hT ha hs1 hk hvs (by decide) hP he
 rw [←hB] at he hv hsB hE
 have hB1 : 1≤B:=by rw [hB];exact W0h hs1 (Xv5 ..)
 refine En Tryz.func127 fun _ _ _=>?_
 refine Ce rfl (Xoo (l:=[toL k a]) (s:=s) hT hR hk hvs (by omega) (fun x hx=>⟨a,W0g.1 hx,ha⟩) (by simp) (by omega)) ?_
 refine No rfl (by simp) ?_
 refine Ca rfl hE fun v hv'=>?_
 obtain ⟨p,rfl,hin,hwd,hq⟩:=hv'
 have hz:=Zs.floor hq.2
 have hfl:=Xyv hR hin hwd
 have hl0:=Zs.len2 (z:=p.2.floor) hz (by omega)
 have hl1:=Zs.len2 (z:=p.2.floor - 1) (q:=B+1) (by unfold Zs at *;rw [W0p];omega) (by omega)
 have hmk:=Make_ok (p:=B) (a:=p.2.floor) (b:=1) hz (Zs.one (by omega)) (by omega) (by decide)
 rw [Xgd] at hmk
 have qz : Qs B ((p.2.floor : Int) : Rat):=Qs.int hz (by omega)
 have hzr:=Sz.rat k qz
 refine Ce rfl (Xub hq.2 (by omega)) ?_
 refine Dw rfl ?_
 refine Ce rfl (FromInt_ok (z:=1) (by decide)) ?_
 refine Ce rfl hmk ?_
 refine Ce rfl (Xdj hT hk (by omega) qz (by omega)) ?_
 refine Ce rfl (Xhn hT ha hzr hk (by omega) (by omega)) ?_
 refine Ce rfl (Xj7 (s:=s+B+4) hT (by rw [Xat,Xbs];exact (ha.add hzr.neg).mono (by omega)) hk hv (by omega)) ?_
 refine By rfl (fun h=>?_) fun h=>?_
 · refine Dw rfl ?_
   refine Ce rfl (FromInt_ok (z:=1) (by decide)) ?_
   refine Ce rfl (Xyo (W0h (hz.len (by omega)) (by decide))) ?_
   exact Rt rfl (.one (.rf rfl) rfl rfl) ⟨_,rfl,hfl.1 h,hl1⟩
 · exact Rt rfl (.one (.rf rfl) rfl rfl) ⟨_,rfl,hfl.2 h,hl0⟩
end
end Go.Proofs.YtjcejnjhfcbafaaGreatDoor
namespace Go.Vm
open Go
section
variable {c : Cx} {s : St} {p : Pl}
theorem Xr6 {o : Oper} {v : AV} {us : Hpl} (h : nxO c.tb c.n s=some (p,o)) (hc : Xam o=false) (hdr : p.dr=false) (hr : Raw c.P o (sem p.E p.H) (v,us)) (k : p.nx' c v us) : StP c s:=by
 obtain ⟨hw,hd⟩:=Xyg h
 refine Xqj h (.inl ⟨hw,(Xo6 hc).2 (.inr ⟨hdr,(v,us),hr,?_⟩)⟩)
 unfold aft
 rw [Xf4,←hd];exact Pl.nx'_eq.1 k
end
section
variable {c : Cx} {s : St} {p : Pl}
end
def AV.nl (o sz : Nat) : AV→AV
 | .nil=>.gr o sz []
 | .st a=>.st (a.nl o sz)
 | .pr a c=>.pr (a.nl o sz) (c.nl o sz)
 | a=>a
theorem Ymy {W : GW} {θ : Loc} {o sz : Nat} (h0 : θ o=(none,0)) : ∀ {a : AV} {cs : List Value},AV.C W θ a cs→AV.C W θ (a.nl o sz) cs:=by
 intro a
 induction a with
 | st a ih=>intro cs h;exact ih h
 | pr a c iha ihc=>intro cs ⟨u,v,h,h1,h2⟩;exact ⟨u,v,h,iha h1,ihc h2⟩
 | nil=>intro cs ⟨p,h⟩;exact ⟨p,by rw [h,h0];rfl,.inl (by rw [h0]),by simp,by rw [h0];decide,.inl rfl⟩
 | _=>intro cs h;exact h
theorem Ygr {o sz i : Nat} : ∀ {a : AV},(a.nl o sz).ids i→i=o∨a.ids i:=by
 intro a
 induction a with
 | st a ih=>exact ih
 | pr a c iha ihc=>exact fun h=>h.elim (fun h=>(iha h).imp id .inl) fun h=>(ihc h).imp id .inr
 | nil=>exact .inl
 | _=>exact .inr
section
variable {c : Cx} {s : St} {p : Pl}
theorem nvS {K : List Kt} {E : Env} {H : Hpl} (q o' sz : Nat) {a : AV} (hv : look H q=some (.var a)) (hb : (Nat.blt o' 1000000 && !Xcc H o')=true) (k : J c K (sem E ((q,.var (a.nl o' sz))::(o',.tok 0 sz)::H))) : J c K (sem E H):=by
 simp only [W0d,W1u] at hb
 have hb1:=Xqq hb.1
 have hn : look H o'=none:=Xbl hb.2
 have hq : q≠o':=fun e=>by rw [e,hn] at hv;cases hv
 rintro x w ⟨s0,W,θ,hw,hs,hθ,rfl⟩
 have st:=Stp.new0 (d:=o') hs.obs hb1 hn (x:=.tok 0 sz) ⟨by simp,by simp,.inl (by simp)⟩ (fun i h=>h)
 have h1:=hs.step0 st
 refine k x w ⟨_,W,_,hw,?_,fun i hi=>(st.hi i hi).trans (hθ i hi),rfl⟩
 rw [show sem E ((q,Ob.var (a.nl o' sz))::(o',Ob.tok 0 sz)::H)=(look E,upd (upd (look H) o' (.tok 0 sz)) q (.var (a.nl o' sz))) from by rw [Xa4,Xa4]]
 have hq1 : upd (look H) o' (.tok 0 sz) q=some (.var a):=by rw [Xan hq];exact hv
 have hdom : ∀ {i : Nat} {y : Ob},upd (look H) o' (.tok 0 sz) i=some y→∃ z,upd (upd (look H) o' (.tok 0 sz)) q (.var (a.nl o' sz)) i=some z:=fun {i y} hy=>by
  by_cases e : i=q
  · subst e;exact ⟨_,Xal _ _ _⟩
  · exact ⟨y,by rw [Xan e];exact hy⟩
 refine ⟨h1.fm,h1.rel,⟨fun i y hy=>?_,fun i y b hy hl hb=>?_,fun i j y y' b hy hy' hl hl' b1 b2=>?_,fun i y j hy hj=>?_⟩,fun t v i ht hi=>?_⟩
 · rcases Xae hy with ⟨e1,e2⟩ | ⟨e1,e2⟩
   · subst e1;subst e2
     obtain ⟨b,cs,T,r1,r2,r3,r4⟩:=h1.obs.r _ _ hq1
     exact ⟨b,cs,T,r1,r2,Ymy (by simp) r3,r4⟩
   · exact h1.obs.r _ _ e2
 · rcases Xae hy with ⟨e1,e2⟩ | ⟨e1,e2⟩
   · subst e1;exact h1.obs.new _ _ b hq1 rfl hb
   · exact h1.obs.new _ _ b e2 hl hb
 · rcases Xae hy with ⟨e1,e2⟩ | ⟨e1,e2⟩ <;> rcases Xae hy' with ⟨f1,f2⟩ | ⟨f1,f2⟩
   · rw [e1,f1]
   · subst e1;exact h1.obs.dis _ _ _ _ b hq1 f2 rfl hl' b1 b2
   · subst f1;exact h1.obs.dis _ _ _ _ b e2 hq1 hl rfl b1 b2
   · exact h1.obs.dis _ _ _ _ b e2 f2 hl hl' b1 b2
 · rcases Xae hy with ⟨e1,e2⟩ | ⟨e1,e2⟩
   · subst e2
     rcases Ygr (a:=a) hj with h | h
     · exact hdom (y:=.tok 0 sz) (by rw [h];exact Xal _ _ _)
     · obtain ⟨z,hz⟩:=h1.obs.ids _ _ j hq1 h
       exact hdom hz
   · obtain ⟨z,hz⟩:=h1.obs.ids _ _ j e2 hj
     exact hdom hz
 · obtain ⟨z,hz⟩:=h1.ids t v i ht hi
   exact hdom hz
theorem Nv {K : List Kt} {E : Env} {H : Hpl} (q o' sz : Nat) {a : AV} (h : nxJ c.tb c.n s=some (K,E,H)) (k : StP c (.j [] K E ((q,.var (a.nl o' sz))::(o',.tok 0 sz)::H))) (hv : look H q=some (.var a):=by exact rfl) (hb : (Nat.blt o' 1000000 && !Xcc H o')=true:=by exact rfl) : StP c s:=by
 unfold nxJ at h
 split at h <;> cases h
 rename_i hr
 exact go 1000 hr (nvS q o' sz hv hb k)
end
end Go.Vm
namespace Go.Proofs.YtjcejnjhfcbafaaGreatDoor
open Go Go.Vm Go.Num Go.Tow
theorem Xo1 {l : List Rat} (h0 : 0<l.length) (hl : l.length≤1048576) : CA0 277 [.d (dqs l)] 4 (l.map dq):=by
 refine EnW Tryz.func277 fun _ _ _ _=>?_
 refine Ub rfl (fun h=>?_) ?_
 · exact absurd h (by intro e; have : l.length = 0 := by simpa using congrArg List.length e
                      omega)
 refine ApL (l.map dq) rfl rfl (by simpa using h0) (by simpa using W0h hl (by decide)) ?_
 exact Rw [(7,1000000)] [(1000000,.arr 4 (l.map dq))] rfl (.one (.rf rfl) rfl rfl) ⟨_,rfl,rfl,rfl⟩
theorem Ym9 {c c' : Bool} (h : c=c') {g : Hp} {K : Hpl} : FitT g K (.b c) (.b c'):=by
 subst h;exact .one (.rf rfl) (fun _ _ e=>by cases e) (fun _ _ e=>by cases e)
theorem Xzf {p q : Prop} (h : p↔q) : dc p=dc q:=by rw [show p=q from propext h]
namespace P8
theorem Xzx {n : Int} (hn : n<0) (hl : (dig n.natAbs).length≤274877906944) : C0 322 [.d (dz n)] (·=.tup (.pr (.d (dS false [])) (.d (.int .i64 7)))):=by
 refine En Tryz.func322 fun _ _ _=>?_
 refine Ce rfl (Sign_ok (z:=n) (by omega)) ?_
 refine Yes rfl (by rcases Xav n 0 with ⟨g1,g2⟩ | ⟨g1,g2⟩ | ⟨g1,g2⟩ <;> omega) ?_
 exact RTt rfl (.cons (.sd (.pd (.bd rfl) (.nil rfl))) Xcj)
theorem Xty {n : Int} (hl : (dig n.natAbs).length≤274877906944) : C0 331 [.d (dz n)] fun v=>∃ b l,v=.tup (.pr (.d (dS b l)) (.b (dc (0≤n∧sqN n.natAbs))))∧(0≤n→dS b l=dz (rt n.natAbs : Int)):=by
 have hs:=@Sqrt_ok n.natAbs hl
 refine En Tryz.func331 fun _ _ _=>?_
 by_cases hn : 0≤n
 · have e : ((n.natAbs : Nat) : Int)=n:=by omega
   rw [e] at hs
   have hr:=(Xcz n.natAbs).1
   have h3 : rt n.natAbs≤rt n.natAbs*rt n.natAbs:=Nat.le_mul_self _
   have l1:=Xaq (show rt n.natAbs≤n.natAbs by omega)
   have l2:=Xaq hr
   refine Ce rfl hs ?_
   refine Dw rfl ?_
   refine Yes rfl rfl ?_
   refine Ce rfl (Mul_ok (by rw [W1g];omega) (by rw [W1g];omega)) ?_
   refine Ce rfl (Cmp_ok (by rw [←W2w,W1g];omega) (by omega)) ?_
   refine Rt rfl (.tup (.cons (.rf rfl) (Ym9 (Xzf ?_)))) ⟨_,_,rfl,fun _=>rfl⟩
   unfold sqN
   rcases Xav ((rt n.natAbs : Int)*(rt n.natAbs : Int)) n with ⟨g1,g2⟩ | ⟨g1,g2⟩ | ⟨g1,g2⟩ <;> rw [←W2w] at g1 <;> rw [←W2w] at g2 ⊢ <;> omega
 · refine Ce rfl (Xzx (by omega) hl) ?_
   refine Dw rfl ?_
   refine No rfl (by decide) ?_
   exact Rt rfl (.tup (.cons (.rf rfl) (Xyx fun h=>hn h.1))) ⟨_,_,rfl,fun h=>absurd h hn⟩
theorem Xvu {k r p : Nat} {t : Tw k} {a : Tow.El k} (hT : TS r k t) (ha : Sz p (toL k a)) (hk : k≤16) (hp : p+3+cB r k≤4398046511104) (hr : r≤4398046511104) : C0 327 [.d (dt t),.d (de a)] (·=.d (de (mul k t a (rat k (1 / 2))))):=by
 refine En Tryz.func327 fun _ _ _=>?_
 refine Ce rfl (Xg8 (a:=1) (b:=2) (by decide) (by decide)) ?_
 rw [Xvv]
 refine Ce rfl (Xdj (x:=1 / 2) (p:=3) hT hk hr ⟨show (1 / 2 : Rat).num.natAbs<2 ^ 3 by decide +kernel,show ((1 / 2 : Rat).den : Int).natAbs<2 ^ 3 by decide +kernel⟩ (by decide)) ?_
 refine Ce rfl (Xex hT ha Sz.half hk (by omega) hr) ?_
 exact R0
end P8
open Go Go.Num Go.Tow
end Go.Proofs.YtjcejnjhfcbafaaGreatDoor
namespace Go.Proofs.YtjcejnjhfcbafaaGreatDoor.P8
open Go Go.Vm Go.Num Go.Tow Go.Proofs.YtjcejnjhfcbafaaGreatDoor
end Go.Proofs.YtjcejnjhfcbafaaGreatDoor.P8
namespace Go.Proofs.YtjcejnjhfcbafaaGreatDoor.P9
open Go Go.Vm Go.Num Go.Tow Go.Proofs.YtjcejnjhfcbafaaGreatDoor
section
theorem Xjx {x : Rat} {p : Nat} (hx : Qs p x) (hp : p≤4398046511104) : C0 107 [.d (dq x)] (·=.d (dq x)):=by
 have h1:=hx.n.len2 hp
 have h2:=hx.d.len2 hp
 refine En Tryz.func107 fun _ _ _=>?_
 refine Dw rfl ?_
 refine Ce rfl (Xbn (l:=dig x.num.natAbs) (by omega)) ?_
 refine Ce rfl (Xbn (l:=dig (x.den : Int).natAbs) (by omega)) ?_
 exact R0
theorem Xit {l : List Rat} {p : Nat} (hl : Ps p l) (hp : p≤4398046511104) (hn : l.length≤1048576) : C0 279 [.d (dqs l)] (·=.d (dqs l)):=by
 have hll : (l.map dq).length=l.length:=by simp
 refine En Tryz.func279 fun _ _ _=>?_
 refine Mk l.length rfl (by omega) ?_ (by simp [hll])
 refine Lo (fun i : Nat=>[(0,.d (dqs l)),(2,.nil),(3,.own 8 4 0 l.length),(9,.d (dqs l)),(10,.d (.int .i64 (l.map dq).length)),(11,.d (.int .i64 i))]) (fun i=>[(8,.arr 4 (fl (l.map dq) rz i))]) (fun i=>i≤l.length) (fun i=>l.length - i) 0 [] rfl (by omega) (fun i hi=>?_) (by exact ⟨rfl,by rw [←Xk0 hll];rfl,rfl,rfl,rfl⟩)
 refine By rfl (fun g=>?_) fun g=>?_ <;> simp only [lq] at g
 · obtain ⟨u,hu⟩:=qat (l:=l) (k:=i) (by omega)
   refine Ix i rfl (mp hu) ?_
   refine Ce rfl (Xjx (hl u (W0m hu)) hp) ?_
   refine Eo i rfl (by omega) ?_
   refine Sto rfl (by rw [Xmn (by omega)];omega) (Xq9 (u:=dq u) (by rw [W1t,hu];rfl)) ?_
   refine Ar (i+1 : Nat) rfl ?_
   exact Bk (i+1) [] rfl (show i+1≤l.length by omega) (by show l.length - (i+1)<l.length - i;omega)
 · refine R1 rfl (.own rfl (by rw [Xmn (by omega)];simp) ?_)
   rw [Xra (by omega),W1d]
   exact W0a (by simp)
theorem Xxx {x y : Rat} {p q : Nat} (hx : Qs p x) (hy : Qs q y) (hp : p+q≤8796093022208) : C0 309 [.d (dq x),.d (dq y)] (·=.b (dc (x=y))):=by
 refine En Tryz.func309 fun _ _ _=>?_
 refine Ce rfl (Xh1 hx hy hp) ?_
 exact R1 rfl (.bp (Xau.trans ⟨fun h=>W0v fun e=>R9.cmpQ_ne.2 e h,fun e=>W0v fun h=>R9.cmpQ_ne.1 h e⟩))
theorem Xy2 {l m : List Rat} {p q : Nat} (hl : Ps p l) (hm : Ps q m) (hp : p+q≤8796093022208) (hn : l.length≤1048576) : C0 308 [.d (dqs l),.d (dqs m),.d (.raw (.func (.func 309) #[] #[]))] (·=.b (dc (l=m))):=by
 refine En Tryz.func308 fun _ _ _=>?_
 refine By rfl (fun h=>?_) fun h=>?_ <;> simp only [lq] at h
 · exact R1 rfl (.bp ⟨nofun,fun e=>absurd (by rw [e]) h⟩)
 have h : l.length=m.length:=by omega
 refine Lo (fun k : Nat=>[(0,.d (dqs l)),(1,.d (dqs m)),(2,.d (.raw (.func (.func 309) #[] #[]))),(15,.d (dqs l)),(16,.d (.int .i64 (l.map dq).length)),(17,.d (.int .i64 k))]) (fun _=>[]) (fun k=>k≤l.length∧l.take k=m.take k) (fun k=>l.length - k) 0 [] rfl ⟨by omega,rfl⟩ fun k ⟨hk,ht⟩=>?_
 refine By rfl (fun h2=>?_) fun h2=>?_ <;> simp only [lq] at h2
 · obtain ⟨x,hx⟩:=qat (l:=l) (k:=k) (by omega)
   obtain ⟨y,hy⟩:=qat (l:=m) (k:=k) (by omega)
   refine Ix k rfl (mp hx) ?_
   refine Ix k rfl (mp hy) ?_
   refine Ce rfl (Xxx (hl x (W0m hx)) (hm y (W0m hy)) hp) ?_
   refine By rfl (fun h3=>?_) fun h3=>?_
   · have h3 : ¬ x=y:=by simpa [Xch,Xau] using h3
     exact R1 rfl (.bp ⟨nofun,fun e=>by subst e;rw [hx] at hy;injection hy with hy;exact absurd hy h3⟩)
   · have e : x=y:=by simpa [Xch,Xau] using h3
     refine Ar (k+1 : Nat) rfl ?_
     exact Bk (k+1) [] rfl ⟨by omega,by rw [W1r,W1r,hx,hy,ht,e]⟩ (by show l.length - (k+1)<l.length - k;omega)
 · rw [W0a (by omega),W0a (by omega)] at ht
   exact R1 rfl (.bp ⟨fun _=>ht,fun _=>rfl⟩)
theorem Xi3 {l m : List Rat} {p q : Nat} (hl : Ps p l) (hm : Ps q m) (hp : p+q≤8796093022208) (hn : l.length≤1048576) : C0 276 [.d (dqs l),.d (dqs m)] (·=.b (dc (l=m))):=by
 refine En Tryz.func276 fun _ _ _=>?_
 refine Ce rfl (Xy2 hl hm hp hn) ?_
 exact R0
theorem Xy1 {T U : List (List Rat)} {p q : Nat} (hT : Pt p T) (hU : Pt q U) (hp : p+q≤8796093022208) (hl : T.length≤16) : C0 275 [.d (dts T),.d (dts U),.d (.raw (.func (.func 276) #[] #[]))] (·=.b (dc (T=U))):=by
 refine En Tryz.func275 fun _ _ _=>?_
 refine By rfl (fun h=>?_) fun h=>?_ <;> simp only [lt'] at h
 · exact R1 rfl (.bp ⟨nofun,fun e=>absurd (by rw [e]) h⟩)
 have h : T.length=U.length:=by omega
 refine Lo (fun k : Nat=>[(0,.d (dts T)),(1,.d (dts U)),(2,.d (.raw (.func (.func 276) #[] #[]))),(15,.d (dts T)),(16,.d (.int .i64 (T.map dqs).length)),(17,.d (.int .i64 k))]) (fun _=>[]) (fun k=>k≤T.length∧T.take k=U.take k) (fun k=>T.length - k) 0 [] rfl ⟨by omega,rfl⟩ fun k ⟨hk,ht⟩=>?_
 refine By rfl (fun h2=>?_) fun h2=>?_ <;> simp only [lt'] at h2
 · obtain ⟨x,hx⟩ : ∃ x,T[k]?=some x:=⟨_,W0e (by omega)⟩
   obtain ⟨y,hy⟩ : ∃ y,U[k]?=some y:=⟨_,W0e (by omega)⟩
   obtain ⟨x1,x2⟩:=hT k x hx
   obtain ⟨y1,y2⟩:=hU k y hy
   have:=p16 (show k≤16 by omega)
   refine Ix k rfl (mp hx) ?_
   refine Ix k rfl (mp hy) ?_
   refine Ce rfl (Xi3 x2 y2 hp (by omega)) ?_
   refine By rfl (fun h3=>?_) fun h3=>?_
   · have h3 : ¬ x=y:=by simpa [Xch,Xau] using h3
     exact R1 rfl (.bp ⟨nofun,fun e=>by subst e;rw [hx] at hy;injection hy with hy;exact absurd hy h3⟩)
   · have e : x=y:=by simpa [Xch,Xau] using h3
     refine Ar (k+1 : Nat) rfl ?_
     exact Bk (k+1) [] rfl ⟨by omega,by rw [W1r,W1r,hx,hy,ht,e]⟩ (by show T.length - (k+1)<T.length - k;omega)
 · rw [W0a (by omega),W0a (by omega)] at ht
   exact R1 rfl (.bp ⟨fun _=>ht,fun _=>rfl⟩)
theorem Xas {T U : List (List Rat)} {p q : Nat} (hT : Pt p T) (hU : Pt q U) (hp : p+q≤8796093022208) (hl : T.length≤16) : C0 221 [.d (dts T),.d (dts U)] (·=.b (dc (T.take U.length=U))):=by
 refine En Tryz.func221 fun _ _ _=>?_
 refine By rfl (fun h=>?_) fun h=>?_ <;> simp only [lt'] at h
 · have hq : Pt p (T.take U.length):=fun i r hi=>by
    rw [W1e] at hi
    split at hi
    · exact hT i r hi
    · cases hi
   refine Tk U.length ((T.take U.length).map dqs) rfl rfl (by simp only [lt'];omega) (by rw [W2h]) ?_ (by simp only [lt'])
   refine Ce rfl (Xy1 hq hU hp (by rw [W0k];omega)) ?_
   exact R0
 · exact R1 rfl (.bp ⟨nofun,fun e=>absurd (congrArg List.length e) (by rw [W0k];omega)⟩)
theorem Ygh {T : List (List Rat)} {l : List Rat} (h0 : 0<l.length) (hT : T.length≤16) (hl : l.length≤2 ^ T.length) : C0 222 [.d (dts T),.d (dqs l)] (·=.d (dqs (l++List.replicate (2 ^ T.length - l.length) 0))):=by
 have hp:=p16 hT
 obtain ⟨n,hn⟩ : ∃ n,n=2 ^ T.length:=⟨_,rfl⟩
 rw [←hn] at hp hl ⊢
 refine En Tryz.func222 fun _ _ _=>?_
 refine Cr rfl (Xo1 h0 (by omega)) ?_
 refine Lo (fun k : Nat=>[(0,.d (dts T)),(5,.own 7 4 0 ((l++List.replicate k 0).map dq).length)]) (fun k=>[(7,.arr 4 ((l++List.replicate k 0).map dq))]) (fun k=>l.length+k≤n) (fun k=>n - k) 0 [] rfl (by omega) (fun k hk=>?_) (by exact ⟨by simp;rfl,by simp;rfl,rfl,rfl,rfl⟩)
 refine Ar n rfl ?_ (by rw [hn];simp only [lt'];exact Xbt (by omega))
 refine By rfl (fun h=>?_) fun h=>?_ <;> simp only [lq,W0c,W1m] at h
 · refine Ce rfl (Xbj (z:=0) (by decide)) ?_
   refine ApO ((l++List.replicate (k+1) 0).map dq) rfl rfl rfl (by rw [W5o];simp) (by simp;omega) ?_
   exact Bk (k+1) [(7,90),(17,7)] rfl (show l.length+(k+1)≤n by omega) (by show n - (k+1)<n - k;omega)
 · refine R1 rfl (.own rfl (by omega) ?_)
   rw [W1d,show n - l.length=k by omega]
   exact W0a (by simp)
theorem Xjj {k m : Nat} {s : Tow.El k} {b : Tow.El m} {T : Tw m} (h : Lf s b) (hk : k≤m) (hm : m≤16) : C0 222 [.d (dt T),.d (de s)] (·=.d (de b)):=by
 have:=Ygh (T:=toT m T) (l:=toL k s) (by rw [Xab];exact W0o k) (by rw [Xaa];omega) (by rw [Xab,Xaa];exact W0i (by decide) hk)
 rw [Xaa,Xab,←h] at this
 exact this
section
variable {K : Nat} {G : Tw K} {S : List (Tow.El K)} {k l : Nat} {t : Tw k} {u : Tw l} {ρ ρu : Nat→Tow.El K}
end
end
section
theorem Xde {x : Nm} {r p : Nat} (hr : TS r x.k x.t) (hp : Sz p (toL x.k x.a)) (hk : x.k≤16) (h1 : r≤4398046511104) (h2 : p≤4398046511104) : C0 225 [.d (dN x)] (·=.d (dN x)):=by
 have hpk:=p16 hk
 refine En Tryz.func225 fun _ _ _=>?_
 refine Ce rfl (Xit hp.ps h2 (by rw [Xab];omega)) ?_
 refine Nv 3 7 1 rfl ?_
 refine Lo (fun (i : Nat)=>[(2,.ptr 2 0),(3,.ptr 3 0),(11,.d (dt x.t)),(12,.d (.int .i64 ((toT x.k x.t).map dqs).length)),(13,.d (.int .i64 i))]) (fun i=>[(2,.var (.st (.pr .nil .nil))),(3,.var (.st (.pr (.gr 7 1 (((toT x.k x.t).take i).map dqs)) (.d (de x.a))))),(7,.tok (((toT x.k x.t).take i).map dqs).length 1)])
  (fun i=>i≤x.k) (fun i=>x.k - i) 0 [] rfl (W1c _) (fun i hi=>?_)
 refine By rfl (fun h=>?_) fun h=>?_ <;> simp only [lt',Xaa] at h
 · obtain ⟨w,y,y1,y2,y3,_⟩:=Tw.take (t:=x.t) (i:=i) (by omega)
   have hy:=(y3 r hr).2
   refine Ix i rfl (mp y2) ?_
   refine Dw rfl ?_
   refine Ce rfl (Xit hy.ps h1 (by rw [Xab];have:=p16 (show i≤16 by omega);omega)) ?_
   refine ApG (((toT x.k x.t).take (i+1)).map dqs) rfl (by rw [W1r,y2];simp) (by simp [Xaa];omega) ?_
   refine Ar (i+1 : Nat) rfl ?_
   exact Bk (i+1) [(7,90),(22,7)] rfl (show i+1≤x.k by omega) (by show x.k - (i+1)<x.k - i;omega)
 · have e : (toT x.k x.t).take i=toT x.k x.t:=W0a (by rw [Xaa];omega)
   refine R1 rfl (.sd (.pd (.gr ?_) (.rf rfl)))
   rw [e]
theorem Xqg : ∀ {k : Nat},rat k 1≠zero k
 | 0,h=>by have h : (1 : Rat)=0:=h;exact absurd h (by decide)
 | k+1,h=>Xqg (k:=k) (congrArg Prod.fst h)
section
variable {K : Nat} {G : Tw K} {S : List (Tow.El K)} {r p : Nat} {x y : Nm} {vx vy : Tow.El K}
theorem FromRat_ok {q : Rat} {p : Nat} (hq : Qs p q) (hp : p≤4398046511104) : C0 45 [.d (dq q)] (·=.d (dN ⟨0,(),q⟩)):=by
 refine En Tryz.func45 fun _ _ _=>?_
 refine Ce rfl (Xjx hq hp) ?_
 exact R1 rfl (.sd (.pd (.nil rfl) (.lit rfl)))
end
end
section
abbrev nq (q : Rat) : Nm:=⟨0,(),q⟩
theorem Ybb {k : Nat} {q : Rat} : Lf (k:=0) (m:=k) q (rat k q):=by
 show toL k (rat k q)=[q]++_
 rw [Xca];rfl
section
variable {r p s : Nat} {x : Nm} {q : Rat}
theorem Xzh (hr : TS r x.k x.t) (hk : x.k≤8) (hr2 : r≤4000000000) : C0 220 [.d (dNs [x,nq q])] (·=.tup (.pr (.d (dt x.t)) (.d (.int .i64 0)))):=by
 refine En Tryz.func220 fun _ _ _=>?_
 refine Nd 4 1 rfl ?_
 refine Lo (fun (s : Nat × (Σ m,Tw m))=>[(2,.nil),(3,.d (.int .i64 0)),(4,.d (dt s.2.2)),(9,.d (dNs [x,nq q])),(10,.d (.int .i64 2)),(11,.d (.int .i64 s.1))]) (fun _=>[]) (fun s=>(s.1=0∧s.2=⟨0,()⟩)∨(s.1=1∧s.2=⟨x.k,x.t⟩)∨(s.1=2∧s.2=⟨x.k,x.t⟩)) (fun s=>2 - s.1) (0,⟨0,()⟩) [] rfl (.inl ⟨rfl,rfl⟩) (fun (i,⟨m,T⟩) hI=>?_)
 simp only at hI
 rcases hI with ⟨rfl,e⟩ | ⟨rfl,e⟩ | ⟨rfl,e⟩
 · cases e
   refine Yes rfl (show ((0 : Nat) : Int)<2 by decide) ?_
   refine Ix 0 rfl (u:=dN x) rfl ?_
   refine Ce rfl (Xas (T:=[]) (U:=toT x.k x.t) (p:=1) (fun i r h=>by simp at h) (TS.pt hr) (by omega) (by decide)) ?_
   refine By rfl (fun h=>?_) fun h=>?_
   · obtain ⟨kx,tx,ax⟩:=x
     have h : []=toT kx tx:=by simpa using h
     obtain rfl : kx=0:=by have:=congrArg List.length h;rw [Xaa] at this;exact this.symm
     refine Ar (0+1 : Nat) rfl ?_
     exact Bk (1,⟨0,tx⟩) [] rfl (.inr (.inl ⟨rfl,rfl⟩)) (show 1<2 by decide)
   · refine Ce rfl (Xas (U:=[]) (q:=1) (TS.pt hr) (fun i r h=>by simp at h) (by omega) (by rw [Xaa];omega)) ?_
     refine Yes rfl (by simp) ?_
     refine Ar (0+1 : Nat) rfl ?_
     exact Bk (1,⟨x.k,x.t⟩) [] rfl (.inr (.inl ⟨rfl,rfl⟩)) (show 1<2 by decide)
 · cases e
   refine Yes rfl (show ((1 : Nat) : Int)<2 by decide) ?_
   refine Ix 1 rfl (u:=dN (nq q)) rfl ?_
   refine Ce rfl (Xas (T:=toT x.k x.t) (U:=[]) (q:=1) (TS.pt hr) (fun i r h=>by simp at h) (by omega) (by rw [Xaa];omega)) ?_
   refine Yes rfl (by simp) ?_
   refine Ar (1+1 : Nat) rfl ?_
   exact Bk (2,⟨x.k,x.t⟩) [] rfl (.inr (.inr ⟨rfl,rfl⟩)) (show 0<1 by decide)
 · cases e
   refine No rfl (show ¬ ((2 : Nat) : Int)<2 by decide) ?_
   exact R0t
theorem Yis (hr : TS r x.k x.t) (hp : Sz p (toL x.k x.a)) (hq : Qs s q) (hk : x.k≤8) (hr2 : r≤4000000000) (hp2 : p≤4000000000) (hs2 : s<4000000000) : C0 165 [.d (dNs [x,nq q])] (·=.tup (.pr (.d (dNs [x,⟨x.k,x.t,rat x.k q⟩])) (.d (.int .i64 0)))):=by
 have hc:=Xzh (q:=q) hr hk hr2
 refine En Tryz.func165 fun _ _ _=>?_
 refine Ce rfl hc ?_
 refine No rfl (by decide) ?_
 refine Nl 6 6 2 rfl ?_
 refine Lo (fun (j : Nat)=>[(2,.nil),(3,.d (.int .i64 0)),(4,.d (dt x.t)),(6,.gr 6 2 (([x,⟨x.k,x.t,rat x.k q⟩].take j).map dN)),(20,.d (dNs [x,nq q])),(21,.d (.int .i64 2)),(22,.d (.int .i64 j))]) (fun j=>[(6,.tok (([x,⟨x.k,x.t,rat x.k q⟩].take j).map dN).length 2)])
  (fun j=>j≤2) (fun j=>2 - j) 0 [] rfl (W1c _) (fun j hj=>?_)
 have hj : j=0∨j=1∨j=2:=by omega
 rcases hj with rfl | rfl | rfl
 · refine Yes rfl (show ((0 : Nat) : Int)<2 by decide) ?_
   refine Ix 0 rfl (u:=dN x) rfl ?_
   refine Ce rfl (Xas (T:=toT x.k x.t) (U:=toT x.k x.t) (TS.pt hr) (TS.pt hr) (by omega) (by rw [Xaa];omega)) ?_
   refine Yes rfl (W2r ..) ?_
   refine Ce rfl (Xjj (T:=x.t) (Lf.rfl' x.a) (W0b _) (by omega)) ?_
   refine Ce rfl (Xde (x:=x) hr hp (by omega) (by omega) (by omega)) ?_
   refine ApG ([x].map dN) rfl (by simp) (by simp) ?_
   refine Ar (0+1 : Nat) rfl ?_
   exact Bk 1 [(6,90),(56,6)] rfl (show 1≤2 by decide) (show 2 - 1<2 - 0 by decide)
 · refine Yes rfl (show ((1 : Nat) : Int)<2 by decide) ?_
   refine Ix 1 rfl (u:=dN (nq q)) rfl ?_
   refine Ce rfl (Xas (T:=toT x.k x.t) (U:=[]) (q:=1) (TS.pt hr) (fun i r h=>by simp at h) (by omega) (by rw [Xaa];omega)) ?_
   refine Yes rfl (by simp) ?_
   refine Ce rfl (Xjj (k:=0) (T:=x.t) (Ybb (q:=q)) (W1c _) (by omega)) ?_
   refine Ce rfl (Xde (x:=⟨x.k,x.t,rat x.k q⟩) hr (Sz.rat x.k hq) (show _≤16 from by show x.k≤16;omega) (by omega) (by omega)) ?_
   refine ApG ([x,⟨x.k,x.t,rat x.k q⟩].map dN) rfl (by simp) (by simp) ?_
   refine Ar (1+1 : Nat) rfl ?_
   exact Bk 2 [(6,90),(56,6)] rfl (show 2≤2 by decide) (show 2 - 2<2 - 1 by decide)
 · refine No rfl (show ¬ ((2 : Nat) : Int)<2 by decide) ?_
   exact RTt rfl (.cons (.gr rfl) Xcj)
theorem Xiv {f : FuncId} {z : Tow.El x.k} (hf : C0 f [.d (dt x.t),.d (de x.a),.d (de (rat x.k q))] (·=.d (de z))) (hr : TS r x.k x.t) (hp : Sz p (toL x.k x.a)) (hq : Qs s q) (hk : x.k≤8) (hr2 : r≤4000000000) (hp2 : p≤4000000000) (hs2 : s<4000000000) : C0 105 [.d (dN x),.d (dN (nq q)),.d (fnD f)] (·=.tup (.pr (.d (dN ⟨x.k,x.t,z⟩)) (.d (.int .i64 0)))):=by
 refine En Tryz.func105 fun _ _ _=>?_
 refine Ce rfl (Yis hr hp hq hk hr2 hp2 hs2) ?_
 refine No rfl (by simp) ?_
 refine Ix 0 rfl (u:=dN x) rfl ?_
 refine Dw rfl ?_
 refine Ix 0 rfl (u:=dN x) rfl ?_
 refine Ix 1 rfl (u:=dN ⟨x.k,x.t,rat x.k q⟩) rfl ?_
 refine Ce rfl hf ?_
 exact RTt rfl (.cons (.rf rfl) Xcj)
theorem Ylk (hr : TS r x.k x.t) (hp : Sz p (toL x.k x.a)) (hq : Qs s q) (hk : x.k≤8) (hr2 : r≤4000000000) (hp2 : p≤2000000000) (hs2 : s<2000000000) : C0 126 [.d (dN x),.d (dN (nq q))] (·=.tup (.pr (.d (dN ⟨x.k,x.t,Tow.add x.k x.a (rat x.k q)⟩)) (.d (.int .i64 0)))):=by
 refine En Tryz.func126 fun _ _ _=>?_
 refine Ce rfl (Xiv (Xnp hr hp (Sz.rat x.k hq) (by omega) (by omega) (by omega)) hr hp hq hk hr2 (by omega) (by omega)) ?_
 exact R0t
theorem Yir (hr : TS r x.k x.t) (hp : Sz p (toL x.k x.a)) (hq : Qs s q) (hk : x.k≤8) (hr2 : r≤4000000000) (hp2 : p≤2000000000) (hs2 : s<2000000000) (hc : cB r x.k≤1000000000) : C0 44 [.d (dN x),.d (dN (nq q))] (·=.tup (.pr (.d (dN ⟨x.k,x.t,Tow.mul x.k x.t x.a (rat x.k q)⟩)) (.d (.int .i64 0)))):=by
 refine En Tryz.func44 fun _ _ _=>?_
 refine Ce rfl (Xiv (Xex hr hp (Sz.rat x.k hq) (by omega) (by omega) (by omega)) hr hp hq hk hr2 (by omega) (by omega)) ?_
 exact R0t
theorem Xzi (hr : TS r x.k x.t) (hk : x.k≤8) (hr2 : r≤4000000000) : C0 220 [.d (dNs [nq q,x])] (·=.tup (.pr (.d (dt x.t)) (.d (.int .i64 0)))):=by
 refine En Tryz.func220 fun _ _ _=>?_
 refine Nd 4 1 rfl ?_
 refine Lo (fun (s : Nat × (Σ m,Tw m))=>[(2,.nil),(3,.d (.int .i64 0)),(4,.d (dt s.2.2)),(9,.d (dNs [nq q,x])),(10,.d (.int .i64 2)),(11,.d (.int .i64 s.1))]) (fun _=>[]) (fun s=>(s.1=0∧s.2=⟨0,()⟩)∨(s.1=1∧s.2=⟨0,()⟩)∨(s.1=2∧s.2=⟨x.k,x.t⟩)) (fun s=>2 - s.1) (0,⟨0,()⟩) [] rfl (.inl ⟨rfl,rfl⟩) (fun (i,⟨m,T⟩) hI=>?_)
 simp only at hI
 rcases hI with ⟨rfl,e⟩ | ⟨rfl,e⟩ | ⟨rfl,e⟩
 · cases e
   refine Yes rfl (show ((0 : Nat) : Int)<2 by decide) ?_
   refine Ix 0 rfl (u:=dN (nq q)) rfl ?_
   refine Ce rfl (Xas (T:=[]) (U:=[]) (p:=1) (q:=1) (fun i r h=>by simp at h) (fun i r h=>by simp at h) (by omega) (by decide)) ?_
   refine Yes rfl (by simp) ?_
   refine Ar (0+1 : Nat) rfl ?_
   exact Bk (1,⟨0,()⟩) [] rfl (.inr (.inl ⟨rfl,rfl⟩)) (show 1<2 by decide)
 · cases e
   refine Yes rfl (show ((1 : Nat) : Int)<2 by decide) ?_
   refine Ix 1 rfl (u:=dN x) rfl ?_
   refine Ce rfl (Xas (T:=[]) (U:=toT x.k x.t) (p:=1) (fun i r h=>by simp at h) (TS.pt hr) (by omega) (by decide)) ?_
   refine By rfl (fun h=>?_) fun h=>?_
   · obtain ⟨kx,tx,ax⟩:=x
     have h : []=toT kx tx:=by simpa using h
     obtain rfl : kx=0:=by have:=congrArg List.length h;rw [Xaa] at this;exact this.symm
     refine Ar (1+1 : Nat) rfl ?_
     exact Bk (2,⟨0,tx⟩) [] rfl (.inr (.inr ⟨rfl,rfl⟩)) (show 0<1 by decide)
   · refine Ce rfl (Xas (U:=[]) (q:=1) (TS.pt hr) (fun i r h=>by simp at h) (by omega) (by rw [Xaa];omega)) ?_
     refine Yes rfl (by simp) ?_
     refine Ar (1+1 : Nat) rfl ?_
     exact Bk (2,⟨x.k,x.t⟩) [] rfl (.inr (.inr ⟨rfl,rfl⟩)) (show 0<1 by decide)
 · cases e
   refine No rfl (show ¬ ((2 : Nat) : Int)<2 by decide) ?_
   exact R0t
theorem Yit (hr : TS r x.k x.t) (hp : Sz p (toL x.k x.a)) (hq : Qs s q) (hk : x.k≤8) (hr2 : r≤4000000000) (hp2 : p≤4000000000) (hs2 : s<4000000000) : C0 165 [.d (dNs [nq q,x])] (·=.tup (.pr (.d (dNs [⟨x.k,x.t,rat x.k q⟩,x])) (.d (.int .i64 0)))):=by
 have hc:=Xzi (q:=q) hr hk hr2
 refine En Tryz.func165 fun _ _ _=>?_
 refine Ce rfl hc ?_
 refine No rfl (by decide) ?_
 refine Nl 6 6 2 rfl ?_
 refine Lo (fun (j : Nat)=>[(2,.nil),(3,.d (.int .i64 0)),(4,.d (dt x.t)),(6,.gr 6 2 (([⟨x.k,x.t,rat x.k q⟩,x].take j).map dN)),(20,.d (dNs [nq q,x])),(21,.d (.int .i64 2)),(22,.d (.int .i64 j))]) (fun j=>[(6,.tok (([⟨x.k,x.t,rat x.k q⟩,x].take j).map dN).length 2)])
  (fun j=>j≤2) (fun j=>2 - j) 0 [] rfl (W1c _) (fun j hj=>?_)
 have hj : j=0∨j=1∨j=2:=by omega
 rcases hj with rfl | rfl | rfl
 · refine Yes rfl (show ((0 : Nat) : Int)<2 by decide) ?_
   refine Ix 0 rfl (u:=dN (nq q)) rfl ?_
   refine Ce rfl (Xas (T:=toT x.k x.t) (U:=[]) (q:=1) (TS.pt hr) (fun i r h=>by simp at h) (by omega) (by rw [Xaa];omega)) ?_
   refine Yes rfl (by simp) ?_
   refine Ce rfl (Xjj (k:=0) (T:=x.t) (Ybb (q:=q)) (W1c _) (by omega)) ?_
   refine Ce rfl (Xde (x:=⟨x.k,x.t,rat x.k q⟩) hr (Sz.rat x.k hq) (show _≤16 from by show x.k≤16;omega) (by omega) (by omega)) ?_
   refine ApG ([⟨x.k,x.t,rat x.k q⟩].map dN) rfl (by simp) (by simp) ?_
   refine Ar (0+1 : Nat) rfl ?_
   exact Bk 1 [(6,90),(56,6)] rfl (show 1≤2 by decide) (show 2 - 1<2 - 0 by decide)
 · refine Yes rfl (show ((1 : Nat) : Int)<2 by decide) ?_
   refine Ix 1 rfl (u:=dN x) rfl ?_
   refine Ce rfl (Xas (T:=toT x.k x.t) (U:=toT x.k x.t) (TS.pt hr) (TS.pt hr) (by omega) (by rw [Xaa];omega)) ?_
   refine Yes rfl (W2r ..) ?_
   refine Ce rfl (Xjj (T:=x.t) (Lf.rfl' x.a) (W0b _) (by omega)) ?_
   refine Ce rfl (Xde (x:=x) hr hp (by omega) (by omega) (by omega)) ?_
   refine ApG ([⟨x.k,x.t,rat x.k q⟩,x].map dN) rfl (by simp) (by simp) ?_
   refine Ar (1+1 : Nat) rfl ?_
   exact Bk 2 [(6,90),(56,6)] rfl (show 2≤2 by decide) (show 2 - 2<2 - 1 by decide)
 · refine No rfl (show ¬ ((2 : Nat) : Int)<2 by decide) ?_
   exact RTt rfl (.cons (.gr rfl) Xcj)
theorem Xwm {f : FuncId} {z : Tow.El x.k} (hf : C0 f [.d (dt x.t),.d (de (rat x.k q)),.d (de x.a)] (·=.d (de z))) (hr : TS r x.k x.t) (hp : Sz p (toL x.k x.a)) (hq : Qs s q) (hk : x.k≤8) (hr2 : r≤4000000000) (hp2 : p≤4000000000) (hs2 : s<4000000000) : C0 105 [.d (dN (nq q)),.d (dN x),.d (fnD f)] (·=.tup (.pr (.d (dN ⟨x.k,x.t,z⟩)) (.d (.int .i64 0)))):=by
 refine En Tryz.func105 fun _ _ _=>?_
 refine Ce rfl (Yit hr hp hq hk hr2 hp2 hs2) ?_
 refine No rfl (by simp) ?_
 refine Ix 0 rfl (u:=dN ⟨x.k,x.t,rat x.k q⟩) rfl ?_
 refine Dw rfl ?_
 refine Ix 0 rfl (u:=dN ⟨x.k,x.t,rat x.k q⟩) rfl ?_
 refine Ix 1 rfl (u:=dN x) rfl ?_
 refine Ce rfl hf ?_
 exact RTt rfl (.cons (.rf rfl) Xcj)
theorem Ylh (hR : Xbh x.k x.t) (hr : TS r x.k x.t) (hp : Sz p (toL x.k x.a)) (hq : Qs s q) (hk : x.k≤8) (hr2 : r≤4000000000) (hp2 : p≤2000000000) (hs2 : s<2000000000) (hv : vB r x.k (p+s+4)≤4398046511104) (hv2 : vB r x.k r≤4398046511104) :
 C0 49 [.d (dN x),.d (dN (nq q))] (·=.tup (.pr (.d (.int .i64 (sgn x.k x.t (Tow.add x.k x.a (Tow.neg x.k (rat x.k q)))))) (.d (.int .i64 0)))):=by
 have hS : C0 114 [.d (dN x),.d (dN (nq q))] (·=.tup (.pr (.d (dN ⟨x.k,x.t,Tow.add x.k x.a (Tow.neg x.k (rat x.k q))⟩)) (.d (.int .i64 0)))):=by
  refine En Tryz.func114 fun _ _ _=>?_
  refine Ce rfl (Xiv (Xhn hr hp (Sz.rat x.k hq) (by omega) (by omega) (by omega)) hr hp hq hk hr2 (by omega) (by omega)) ?_
  exact R0t
 have hz : Sz (p+s+4) (toL x.k (Tow.add x.k x.a (Tow.neg x.k (rat x.k q)))):=by rw [Xat,Xbs];exact (hp.add (Sz.rat x.k hq).neg).mono (by omega)
 have hG : C0 115 [.d (dN ⟨x.k,x.t,Tow.add x.k x.a (Tow.neg x.k (rat x.k q))⟩)] (·=.d (.int .i64 (sgn x.k x.t (Tow.add x.k x.a (Tow.neg x.k (rat x.k q)))))):=by
  refine En Tryz.func115 fun _ _ _=>?_
  refine Ce rfl (Xo9 hr hz hR (show x.k≤16 by omega) hv hv2 (by omega)) ?_
  exact R0
 refine En Tryz.func49 fun _ _ _=>?_
 refine Ce rfl hS ?_
 refine No rfl (by simp) ?_
 refine Ce rfl hG ?_
 exact RTt rfl (.cons (.rf rfl) Xcj)
theorem Yli (hR : Xbh x.k x.t) (hr : TS r x.k x.t) (hp : Sz p (toL x.k x.a)) (hq : Qs s q) (hk : x.k≤8) (hr2 : r≤4000000000) (hp2 : p≤2000000000) (hs2 : s<2000000000) (hv : vB r x.k (p+s+4)≤4398046511104) (hv2 : vB r x.k r≤4398046511104) :
 C0 49 [.d (dN (nq q)),.d (dN x)] (·=.tup (.pr (.d (.int .i64 (sgn x.k x.t (Tow.add x.k (rat x.k q) (Tow.neg x.k x.a))))) (.d (.int .i64 0)))):=by
 have hS : C0 114 [.d (dN (nq q)),.d (dN x)] (·=.tup (.pr (.d (dN ⟨x.k,x.t,Tow.add x.k (rat x.k q) (Tow.neg x.k x.a)⟩)) (.d (.int .i64 0)))):=by
  refine En Tryz.func114 fun _ _ _=>?_
  refine Ce rfl (Xwm (Xhn hr (Sz.rat x.k hq) hp (by omega) (by omega) (by omega)) hr hp hq hk hr2 (by omega) (by omega)) ?_
  exact R0t
 have hz : Sz (p+s+4) (toL x.k (Tow.add x.k (rat x.k q) (Tow.neg x.k x.a))):=by rw [Xat,Xbs];exact ((Sz.rat x.k hq).add hp.neg).mono (by omega)
 have hG : C0 115 [.d (dN ⟨x.k,x.t,Tow.add x.k (rat x.k q) (Tow.neg x.k x.a)⟩)] (·=.d (.int .i64 (sgn x.k x.t (Tow.add x.k (rat x.k q) (Tow.neg x.k x.a))))):=by
  refine En Tryz.func115 fun _ _ _=>?_
  refine Ce rfl (Xo9 hr hz hR (show x.k≤16 by omega) hv hv2 (by omega)) ?_
  exact R0
 refine En Tryz.func49 fun _ _ _=>?_
 refine Ce rfl hS ?_
 refine No rfl (by simp) ?_
 refine Ce rfl hG ?_
 exact RTt rfl (.cons (.rf rfl) Xcj)
end
end
end Go.Proofs.YtjcejnjhfcbafaaGreatDoor.P9
namespace Go.Num
section
def dec (n : Nat) : List UInt8:=if h : n<10 then [UInt8.ofNat (48+n)] else dec (n / 10)++[UInt8.ofNat (48+n % 10)]
termination_by n
decreasing_by omega
theorem Xcg {n : Nat} (h : n<10) : dec n=[UInt8.ofNat (48+n)]:=by rw [dec,dif_pos h]
theorem Xd0 {n : Nat} (h : 10≤n) : dec n=dec (n / 10)++[UInt8.ofNat (48+n % 10)]:=by rw [dec,dif_neg (by omega)]
theorem Xmu (n : Nat) : dec n≠[]:=by
 rw [dec];split <;> simp
theorem Xk9 (n : Nat) : 0<(dec n).length:=W4z.2 (Xmu n)
theorem Xe5 : ∀ (k n : Nat),n<10 ^ (k+1)→(dec n).length≤k+1
 | 0,n,h=>by rw [Xcg (by simpa using h)];simp
 | k+1,n,h=>by
  by_cases h1 : n<10
  · rw [Xcg h1];simp
  · rw [Xd0 (by omega),W0c]
    have:=Xe5 k (n / 10) (W4j (by rw [W0p] at h;omega))
    simp;omega
theorem Xdf : ∀ (k n : Nat),10 ^ k≤n→k+1≤(dec n).length
 | 0,n,h=>Xk9 n
 | k+1,n,h=>by
  rw [W0p] at h
  have : 0<10 ^ k:=W6w (by decide)
  rw [Xd0 (by omega),W0c]
  have:=Xdf k (n / 10) (by omega)
  simp;omega
theorem Yh2 (n : Nat) : n<10 ^ (dec n).length:=by
 induction n using Nat.strongRecOn with
 | ind n ih =>
  by_cases h : n<10
  · rw [Xcg h];simpa using h
  · rw [Xd0 (by omega),W0c]
    have:=ih (n / 10) (by omega)
    simp only [W4s]
    rw [W0p];omega
def tx (z : Int) : List UInt8:=(if z<0 then [45] else [])++dec z.natAbs
theorem Xx9 (l : Nat) : 4294967296 ^ l≤10 ^ (10*l):=by
 rw [W5j];exact W6d (by decide) l
theorem Xis (n : Nat) : (dec n).length≤10*(dig n).length+1:=by
 refine Xe5 _ n (W0t (W0t (by have:=Xbv (Xad n);rwa [Xaf] at this) (Xx9 _)) (W0i (by decide) (by omega)))
theorem dg {d : Nat} (h : d<10) : (UInt8.ofNat (48+d)).toNat=48+d:=by
 rw [UInt8.toNat_ofNat'];exact W3r (by omega)
def Xe9 (b : UInt8) : Prop:=48≤b.toNat∧b.toNat≤57
theorem Xwg (n : Nat) : ∀ b∈dec n,Xe9 b:=by
 induction n using Nat.strongRecOn with
 | ind n ih =>
  intro b hb
  by_cases h : n<10
  · rw [Xcg h,W0g] at hb;subst hb;exact ⟨by rw [dg h];omega,by rw [dg h];omega⟩
  · rw [Xd0 (by omega),W2u,W0g] at hb
    rcases hb with hb | hb
    · exact ih _ (by omega) b hb
    · subst hb;have:=W1x n (show 0<10 by decide);exact ⟨by rw [dg this];omega,by rw [dg this];omega⟩
def pad (k : Nat) (d : List UInt8) : List UInt8:=List.replicate (k+1 - d.length) 48++d
theorem Xn5 (k : Nat) (d : List UInt8) : (pad k d).length=max (k+1) d.length:=by simp [pad];omega
def pt (k : Nat) (p : List UInt8) : List UInt8:=if k=0 then p else p.take (p.length - k)++46::p.drop (p.length - k)
def txt (z : Int) (k : Nat) : List UInt8:=(if z<0 then [45] else [])++pt k (pad k (dec z.natAbs))
def Xbg (l : List UInt8) : Nat:=l.foldl (fun a b=>10*a+(b.toNat - 48)) 0
theorem Xbw (l : List UInt8) (b : UInt8) : Xbg (l++[b])=10*Xbg l+(b.toNat - 48):=by simp [Xbg]
theorem Xck {p : List UInt8→Prop} (h0 : p []) (hs : ∀ l b,p l→p (l++[b])) (l : List UInt8) : p l:=by
 rw [←List.reverse_reverse l]
 induction l.reverse with
 | nil=>exact h0
 | cons b l ih=>rw [List.reverse_cons];exact hs _ _ ih
theorem Xdu (u t : List UInt8) : Xbg (u++t)=Xbg u*10 ^ t.length+Xbg t:=by
 induction t using Xck with
 | h0=>simp [Xbg]
 | hs l b ih =>
  rw [←W2q,Xbw,Xbw,ih,W0c,W4s,W0p]
  have : Xbg u*(10 ^ l.length*10)=10*(Xbg u*10 ^ l.length):=by rw [W1f (10 ^ l.length) 10,W4e]
  omega
theorem Xiq {l : List UInt8} (h : ∀ b∈l,Xe9 b) : Xbg l<10 ^ l.length:=by
 induction l using Xck with
 | h0=>decide
 | hs l b ih =>
  have h1:=ih fun x hx=>h x (W2d _ hx)
  have h2:=h b (W1j _ (W0g.2 rfl))
  unfold Xe9 at h2
  rw [Xbw,W0c,W4s,W0p]
  omega
theorem Xhd (b : UInt8) : Xbg [b]=b.toNat - 48:=by simp [Xbg]
theorem Xy7 {b : UInt8} {l : List UInt8} (hb : 48<b.toNat) : 0<Xbg (b::l):=by
 rw [show b::l=[b]++l from rfl,Xdu,Xhd]
 have : 0<(b.toNat - 48)*10 ^ l.length:=W1i (by omega) (W6w (by decide))
 omega
theorem Xy9 (n : Nat) : Xbg (dec n)=n:=by
 induction n using Nat.strongRecOn with
 | ind n ih =>
  by_cases h : n<10
  · rw [Xcg h,Xhd,dg h];omega
  · rw [Xd0 (by omega),Xbw,ih _ (by omega),dg (W1x _ (by decide))];omega
end
section
def isD (b : UInt8) : Bool:=decide (48≤b.toNat) && decide (b.toNat≤57)
theorem Ykp {b : UInt8} : isD b=true↔Xe9 b:=by simp [isD,Xe9]
def z0 (l : List UInt8) : Bool:=l.all (· == 48)
theorem Xfx (l : List UInt8) (x : UInt8) : z0 (l++[x])=(z0 l && x == 48):=by simp [z0]
def prT (ng : Bool) (a : List UInt8) : List UInt8→Option (Bool × List UInt8 × List UInt8)
 | []=>if ng && z0 a then none else some (ng,a,[])
 | x::b=>if x=46∧b≠[]∧b.all isD=true∧(ng && z0 (a++b))=false then some (ng,a,b) else none
def prQ (ng : Bool) (q : List UInt8) : Option (Bool × List UInt8 × List UInt8) :=
 if q.takeWhile isD=[]∨(1<(q.takeWhile isD).length∧(q.takeWhile isD).head?=some 48) then none else prT ng (q.takeWhile isD) (q.dropWhile isD)
def prs (s : List UInt8) : Option (Bool × List UInt8 × List UInt8) :=
 if 400<s.length then none else match s with
  | []=>none
  | x::t=>if x=45 then prQ true t else prQ false (x::t)
def plc (s : List UInt8) : Int:=match prs s with
 | none=>-1
 | some (_,_,b)=>b.length
def Yiv (r : List UInt8) : Prop:=∀ x t,r=x::t→isD x=false
theorem Yjw {a r : List UInt8} (ha : a.all isD=true) (hr : Yiv r) : (a++r).takeWhile isD=a∧(a++r).dropWhile isD=r:=by
 induction a with
 | nil =>
  cases r with
  | nil=>exact ⟨rfl,rfl⟩
  | cons x t=>simp [W8c,W3u,hr x t rfl]
 | cons x a ih =>
  simp only [W6g,W0d] at ha
  obtain ⟨h1,h2⟩:=ih ha.2
  simp [W8c,W3u,ha.1,h1,h2]
def sgB (ng : Bool) : List UInt8:=if ng then [45] else []
theorem Xh3 {s a r : List UInt8} {ng : Bool} (hl : s.length≤400) (hs : s=sgB ng++(a++r)) (hn : ng=false→s.head?≠some 45) (ha : a.all isD=true) (hr : Yiv r) :
 prs s=if a=[]∨(1<a.length∧a.head?=some 48) then none else prT ng a r:=by
 obtain ⟨h1,h2⟩:=Yjw ha hr
 have hq : prQ ng (a++r)=if a=[]∨(1<a.length∧a.head?=some 48) then none else prT ng a r:=by
  unfold prQ;rw [h1,h2]
 rw [←hq]
 unfold prs
 rw [if_neg (by omega)]
 cases ng with
 | true=>subst hs;simp [sgB]
 | false =>
  have hn:=hn rfl
  have hs : s=a++r:=hs
  rw [←hs]
  cases s with
  | nil=>simp [prQ]
  | cons x t =>
   have : ¬ x=45:=fun e=>hn (by rw [e];rfl)
   simp [this]
def ptB (b : List UInt8) : List UInt8:=if b=[] then [] else 46::b
theorem Xx6 {ng n' : Bool} {a a' b r : List UInt8} (h : prT ng a r=some (n',a',b)) : n'=ng∧a'=a∧r=ptB b∧b.all isD=true:=by
 cases r with
 | nil =>
  simp only [prT] at h
  split at h
  · cases h
  · injection h with h;cases h;exact ⟨rfl,rfl,rfl,rfl⟩
 | cons x t =>
  simp only [prT] at h
  split at h
  · rename_i hc
    injection h with h;cases h
    exact ⟨rfl,rfl,by rw [ptB,if_neg hc.2.1,hc.1],hc.2.2.1⟩
  · cases h
theorem Xs2 (l : List UInt8) : (l.takeWhile isD).all isD=true:=by
 induction l with
 | nil=>rfl
 | cons x l ih =>
  rw [W8c]
  split
  · rename_i h;simp [h,ih]
  · rfl
theorem Xqd {ng n' : Bool} {q a b : List UInt8} (h : prQ ng q=some (n',a,b)) : n'=ng∧q=a++ptB b∧a≠[]∧a.all isD=true∧b.all isD=true:=by
 unfold prQ at h
 split at h
 · cases h
 · rename_i hc
   obtain ⟨h1,h2,h3,h4⟩:=Xx6 h
   subst h2
   refine ⟨h1,?_,fun e=>hc (.inl e),?_,h4⟩
   · rw [←h3,W6e]
   · exact Xs2 q
theorem Xdq {s a b : List UInt8} {ng : Bool} (h : prs s=some (ng,a,b)) : s.length≤400∧s=sgB ng++(a++ptB b)∧a≠[]∧a.all isD=true∧b.all isD=true:=by
 unfold prs at h
 split at h
 · cases h
 · split at h
   · cases h
   · split at h
     · rename_i hx
       obtain ⟨h1,h2,h3⟩:=Xqd h
       refine ⟨by omega,?_,h3⟩
       rw [h1,hx,h2];rfl
     · obtain ⟨h1,h2,h3⟩:=Xqd h
       refine ⟨by omega,?_,h3⟩
       rw [h1,h2];rfl
def stp (q : Nat × Nat × Bool) (x : UInt8) : Nat × Nat × Bool :=
 if x=46 then (q.1,q.2.1,true) else if isD x then (10*q.1+(x.toNat - 48),if q.2.2 then q.2.1+1 else q.2.1,q.2.2) else q
theorem Xtc {x : UInt8} (h : isD x=true) (q : Nat × Nat × Bool) : stp q x=(10*q.1+(x.toNat - 48),if q.2.2 then q.2.1+1 else q.2.1,q.2.2):=by
 have : ¬ x=46:=fun e=>by rw [e] at h;revert h;decide
 rw [stp,if_neg this,if_pos h]
theorem Xq6 {l : List UInt8} (h : l.all isD=true) (n p : Nat) (pt : Bool) : l.foldl stp (n,p,pt)=(n*10 ^ l.length+Xbg l,if pt then p+l.length else p,pt):=by
 induction l using Xck with
 | h0=>cases pt <;> simp [Xbg]
 | hs l x ih =>
  rw [W4r,W0d] at h
  rw [W7m,ih h.1,W7u,List.foldl_nil,Xtc (by simpa using h.2),Xbw,W0c,W4s,W0p]
  have : n*(10 ^ l.length*10)=10*(n*10 ^ l.length):=by rw [W1f (10 ^ l.length) 10,W4e]
  cases pt <;> simp <;> omega
theorem Xyt {s a b : List UInt8} {ng : Bool} (hs : s=sgB ng++(a++ptB b)) (ha : a.all isD=true) (hb : b.all isD=true) : ∃ pt,s.foldl stp (0,0,false)=(Xbg (a++b),b.length,pt):=by
 have h1 : (sgB ng).foldl stp (0,0,false)=(0,0,false):=by cases ng <;> decide
 rw [hs,W7m,h1,W7m,Xq6 ha]
 by_cases hb0 : b=[]
 · subst hb0;exact ⟨false,by simp [ptB]⟩
 · refine ⟨true,?_⟩
   rw [ptB,if_neg hb0,W7u,show stp (0*10 ^ a.length+Xbg a,if false=true then 0+a.length else 0,false) 46=(Xbg a,0,true) by simp [stp],Xq6 hb,Xdu]
   simp
def fr (ng : Bool) (a b : List UInt8) : Rat:=if ng then -(((Xbg (a++b) : Int) : Rat) / ((10 ^ b.length : Int) : Rat)) else ((Xbg (a++b) : Int) : Rat) / ((10 ^ b.length : Int) : Rat)
end
end Go.Num
namespace Go.Vm
open Go
section
section
variable {c : Cx} {s : St} {p : Pl}
end
end
section
section
variable {c : Cx} {s : St} {p : Pl}
noncomputable def Yly (tb : Nat→Option TI) (n : Nat) (s : St) : Option (Pl × List UInt8 × List UInt8):=match nxA tb n s with
 | some (p,o,[.d (.str a),.d (.str b)])=>match o.op with
  | .binOp op _ _ _ _=>match op with
   | .add=>some (p,a,b)
   | _=>none
  | _=>none
 | _=>none
theorem Sc {a b : List UInt8} (t : List UInt8) (h : Yly c.tb c.n s=some (p,a,b)) (ht : a++b=t) (hl : a.length+b.length<9223372036854775808) (kk : p.nx c (.d (.str t))) : StP c s:=by
 subst ht
 unfold Yly at h
 split at h <;> try cases h
 rename_i hA
 split at h <;> try cases h
 rename_i ho
 split at h <;> cases h
 refine Xb9 (us:=[]) hA ?_ (Pl.nx_nil kk)
 rw [ho]
 simp only [F,Fp,Xz2,if_pos hl]
noncomputable def Ygp (tb : Nat→Option TI) (n : Nat) (s : St) : Option (Pl × List UInt8 × Option Int × Option Int):=match nxA tb n s with
 | some (p,o,asx)=>match o.op with
  | .slice T _ lo hi mx=>match tb T with
   | some ti=>match ti.z,Xjd lo hi mx asx with
    | .str _,some (.d (.str s),l,h,none)=>some (p,s,l,h)
    | _,_=>none
   | none=>none
  | _=>none
 | none=>none
theorem Xn8 {t : List UInt8} {r : AV} {l h' : Option Int} (h : Ygp c.tb c.n s=some (p,t,l,h')) (hr : slS t l h'=some r) (k : p.nx c r) : StP c s:=by
 unfold Ygp at h
 split at h <;> try cases h
 rename_i hA
 split at h <;> try cases h
 rename_i ho
 split at h <;> try cases h
 rename_i ti ht
 split at h <;> cases h
 rename_i hz hs
 refine Xb9 (us:=[]) hA ?_ (Pl.nx_nil k)
 rw [ho]
 simp only [F,Fp,ht,hz,hs,hr]
theorem Stk (j : Nat) (zs : List UInt8) {i : Int} {xs : List UInt8} (h : Ygp c.tb c.n s=some (p,xs,none,some i)) (hl : j≤xs.length) (hz : xs.take j=zs) (k : p.nx c (.d (.str zs))) (hj : i=j:=by first | exact rfl | omega) : StP c s:=by
 subst hj;subst hz
 refine Xn8 h ?_ k
 rw [slS,if_pos ⟨by omega,by omega⟩];simp
theorem Sdp (j : Nat) (zs : List UInt8) {i : Int} {xs : List UInt8} (h : Ygp c.tb c.n s=some (p,xs,some i,none)) (hl : j≤xs.length) (hz : xs.drop j=zs) (k : p.nx c (.d (.str zs))) (hj : i=j:=by first | exact rfl | omega) : StP c s:=by
 subst hj;subst hz
 refine Xn8 h ?_ k
 rw [slS,if_pos ⟨by omega,by omega⟩];simp
theorem Smd (i j : Nat) (zs : List UInt8) {i' j' : Int} {xs : List UInt8} (h : Ygp c.tb c.n s=some (p,xs,some i',some j')) (hl : i≤j∧j≤xs.length) (hz : (xs.drop i).take (j - i)=zs) (k : p.nx c (.d (.str zs))) (hi : i'=i:=by first | exact rfl | omega) (hj : j'=j:=by first | exact rfl | omega) : StP c s:=by
 subst hi;subst hj;subst hz
 refine Xn8 h ?_ k
 rw [slS,if_pos ⟨by omega,by omega,by omega⟩];simp
noncomputable def Yl5 (tb : Nat→Option TI) (n : Nat) (s : St) : Option (Pl × AV):=match nxA tb n s with
 | some (p,o,[a])=>match o.op with
  | .convert S T _=>match tb S,tb T,Ydm a with
   | some ⟨.sl _ _,.int .u8 _,_,_⟩,some ⟨.str _,_,_,_⟩,true=>some (p,a)
   | _,_,_=>none
  | _=>none
 | _=>none
theorem Bs (zs : List UInt8) {a : AV} (h : Yl5 c.tb c.n s=some (p,a)) (hz : Yi0 a=some zs) (kk : p.nx c (.d (.str zs))) : StP c s:=by
 unfold Yl5 at h
 split at h <;> try cases h
 rename_i hA
 split at h <;> try cases h
 rename_i ho
 split at h <;> cases h
 rename_i h1 h2 h3
 refine Xb9 (us:=[]) hA ?_ (Pl.nx_nil kk)
 rw [ho]
 have : ∀ k z,a≠.d (.int k z):=fun k z e=>by subst e;cases h3
 cases a with
 | d x=>cases x <;> first | exact absurd rfl (this _ _) | simp only [F,Fp,h2,h1,hz]
 | _=>simp only [F,Fp,h2,h1,hz]
end
end
section
theorem Xwk {W : GW} {z : D} : ∀ {cs : List Value},(∀ x∈z.comps,x.size=1)→D.At W z cs→AtL W 1 z.comps cs∧cs.length=z.comps.length:=by
 have one : ∀ {x : D} {cs : List Value},x.size=1→D.At W x cs→AtL W 1 [x] cs∧cs.length=1:=fun {x cs} h1 h =>
  ⟨fun i y hi=>by
   cases i with
   | zero=>simp at hi;subst hi;exact ⟨cs,h,h1,fun j v hj=>by simpa using hj⟩
   | succ i=>simp at hi,by rw [D.at_len x h,h1]⟩
 induction z using D.ind with
 | leaf x h1 h2 =>
  intro cs hs h
  have e : x.comps=[x]:=by cases x <;> first | rfl | exact absurd rfl (h2 _ _)
  rw [e] at hs ⊢
  exact one (hs x (W0g.2 rfl)) h
 | st a _=>intro cs hs h;exact one (hs _ (W0g.2 rfl)) h
 | pr a c _ ih =>
  intro cs hs ⟨u,v,e,h1,h2⟩
  have hs : ∀ x∈a::c.comps,x.size=1:=hs
  obtain ⟨k1,k2⟩:=one (hs a (W0w ..)) h1
  obtain ⟨k3,k4⟩:=ih (fun x hx=>hs x (W1b _ hx)) h2
  subst e
  have:=k1.app k3 (by rw [k2];rfl)
  exact ⟨this,by rw [W0c,k2,k4];show _=(a::c.comps).length;simp;omega⟩
theorem Stp.vara {N : Nat→Prop} {W : GW} {θ : Loc} {g : Hp} (h : Obs W θ N g) {o d b n sz : Nat} {a : AV} {xs : List D} (ho : g o=some (.var a)) (hb : (θ o).1=some b) (hB : d<1000000) (hd : g d=none) (hx : (Ob.arr sz xs).R W (fun i=>if i=d then (some b,n) else θ i) d) :
 Stp N W W θ (fun i=>if i=d then (some b,n) else θ i) g (upd (upd g o .dead) d (.arr sz xs)) where
 os:=_root_.rfl
 out:=_root_.rfl
 tape:=_root_.rfl
 size:=W0b _
 same:=fun _ _ _=>_root_.rfl
 A:=fun _ _ _ _=>Iff.rfl
 le:=LeF.refl W
 th:=fun i y hy=>if_neg fun e=>by rw [e,hd] at hy;cases hy
 hi:=fun i h=>if_neg (by omega)
 obs:=by
  have hg : ∀ {i : Nat} {y : Ob},upd (upd g o .dead) d (.arr sz xs) i=some y→(i=d∧y=.arr sz xs)∨(i≠d∧i=o∧y=.dead)∨(i≠d∧i≠o∧g i=some y):=fun {i y} hy=>by
   rcases Xae hy with ⟨e1,e2⟩ | ⟨e1,e2⟩
   · exact .inl ⟨e1,e2⟩
   · rcases Xae e2 with ⟨f1,f2⟩ | ⟨f1,f2⟩
     · exact .inr (.inl ⟨e1,f1,f2⟩)
     · exact .inr (.inr ⟨e1,f1,f2⟩)
  have hnd : ∀ {i : Nat},(∃ z,g i=some z)→i≠d:=fun ⟨z,hz⟩ e=>by rw [e,hd] at hz;cases hz
  refine ⟨fun i y hy=>?_,fun i y b' hy hl hb'=>?_,fun i j y y' b' hy hy' hl hl' b1 b2=>?_,fun i y j hy hj=>?_⟩
  · rcases hg hy with ⟨rfl,rfl⟩ | ⟨_,_,rfl⟩ | ⟨e1,e2,e3⟩
    · exact hx
    · trivial
    · exact (h.r i y e3).keep (LeF.refl W) (if_neg e1) (fun j hj=>if_neg (hnd (h.ids i y j e3 hj))) fun _ _ _=>⟨_root_.rfl,fun _ h=>h⟩
  · rcases hg hy with ⟨rfl,rfl⟩ | ⟨_,_,rfl⟩ | ⟨e1,e2,e3⟩
    · rw [if_pos _root_.rfl] at hb'
      exact h.new o _ b' ho _root_.rfl (hb.trans hb')
    · cases hl
    · rw [if_neg e1] at hb';exact h.new i y b' e3 hl hb'
  · rcases hg hy with ⟨rfl,rfl⟩ | ⟨_,_,rfl⟩ | ⟨e1,e2,e3⟩
    · rcases hg hy' with ⟨rfl,rfl⟩ | ⟨_,_,rfl⟩ | ⟨f1,f2,f3⟩
      · exact _root_.rfl
      · cases hl'
      · rw [if_pos _root_.rfl] at b1;rw [if_neg f1] at b2
        exact absurd (h.dis j o y' _ b' f3 ho hl' _root_.rfl b2 (hb.trans b1)) f2
    · cases hl
    · rcases hg hy' with ⟨rfl,rfl⟩ | ⟨_,_,rfl⟩ | ⟨f1,f2,f3⟩
      · rw [if_pos _root_.rfl] at b2;rw [if_neg e1] at b1
        exact absurd (h.dis i o y _ b' e3 ho hl _root_.rfl b1 (hb.trans b2)) e2
      · cases hl'
      · rw [if_neg e1] at b1;rw [if_neg f1] at b2;exact h.dis i j y y' b' e3 f3 hl hl' b1 b2
  · rcases hg hy with ⟨rfl,rfl⟩ | ⟨_,_,rfl⟩ | ⟨e1,e2,e3⟩
    · exact hj.elim
    · exact hj.elim
    · have hz:=h.ids i y j e3 hj
      rw [Xan (hnd hz)]
      by_cases e : j=o
      · subst e;exact ⟨_,Xal _ _ _⟩
      · rw [Xan e];exact hz
 dom:=fun i y hy=>by
  rw [Xan (fun e=>by rw [e,hd] at hy;cases hy)]
  by_cases e : i=o
  · subst e;exact ⟨_,Xal _ _ _⟩
  · exact ⟨y,by rw [Xan e];exact hy⟩
section
variable {c : Cx} {s : St} {p : Pl}
noncomputable def Ylw (tb : Nat→Option TI) (n id t : Nat) (s : St) : Option (List Kt × Env × Hpl × Nat × D):=match Ye0 tb n id 1000 s with
 | .j _ K E H=>match look E t with
  | some (.ptr o 0)=>match look H o with
   | some (.var (.d (.st z)))=>some (K,E,H,o,z)
   | _=>none
  | _=>none
 | _=>none
theorem Va (id t d m : Nat) (xs : List D) {K : List Kt} {E : Env} {H : Hpl} {o : Nat} {z : D} (h : Ylw c.tb c.n id t s=some (K,E,H,o,z)) (hz : z.comps=xs) (hs : ∀ x∈xs,x.size=1) (hm : xs.length=m) (k : StP c (.j [] K ((t,.ap d m)::E) ((d,.arr 1 xs)::(o,.dead)::H)))
 (hd : (Nat.blt d 1000000 && !Xcc H d && Nat.blt m 1000000)=true:=by exact rfl) : StP c s:=by
 subst hz
 simp only [W0d,W1u] at hd
 obtain ⟨⟨hd1,hd2⟩,hm1⟩:=hd
 have hd1:=Xqq hd1
 have hm1:=Xqq hm1
 have hdn : look H d=none:=Xbl hd2
 unfold Ylw at h
 split at h <;> try cases h
 rename_i hr
 split at h <;> try cases h
 rename_i he
 split at h <;> cases h
 rename_i ho
 refine Xhy (id:=id) 1000 ?_
 rw [hr]
 rintro a w ⟨s0,W,θ,hw,hs0,hθ,rfl⟩
 obtain ⟨b,cs,T',r1,r2,r3,r4⟩:=hs0.obs.r _ _ ho
 have r3 : D.At W z cs:=r3
 obtain ⟨k1,k2⟩:=Xwk hs r3
 have st:=Stp.vara (n:=m) (sz:=1) (xs:=z.comps) hs0.obs ho r1 hd1 hdn ⟨b,cs,T',by simp,r2,by rw [k2,hm];simp,by simp only [if_true];omega,by simp only [if_true];omega,k1,r4⟩
 have h1:=hs0.step0 st
 refine k a w ⟨_,W,_,hw,?_,fun i hi=>(st.hi i hi).trans (hθ i hi),rfl⟩
 rw [show sem ((t,AV.ap d m)::E) ((d,Ob.arr 1 z.comps)::(o,Ob.dead)::H)=(upd (look E) t (.ap d m),upd (upd (look H) o .dead) d (.arr 1 z.comps)) from by rw [Xa4,Xa4,Xa4]]
 refine ⟨h1.fm,⟨h1.rel.defers,h1.rel.size,fun q v hq=>?_⟩,h1.obs,fun q v i hq hi=>?_⟩
 · rcases Xae hq with ⟨e1,e2⟩ | ⟨e1,e2⟩
   · subst e1;subst e2
     obtain ⟨b',f1,f2⟩:=Xi7 (hs0.rel.has q _ he)
     rw [r1] at f1;injection f1 with f1;subst f1
     exact ⟨_,⟨b,by simp,by simp,rfl⟩,f2⟩
   · exact h1.rel.has q v e2
 · rcases Xae hq with ⟨e1,e2⟩ | ⟨e1,e2⟩
   · subst e2
     have hi : i=d:=hi
     subst hi
     exact ⟨_,Xal _ _ _⟩
   · exact h1.ids q v i e2 hi
noncomputable def Ylx (tb : Nat→Option TI) (n : Nat) (s : St) : Option (Pl × Oper × TypeId × Operand × Operand × Nat × Nat × Nat × Nat × D × Int):=match nxO tb n s with
 | some (p,o)=>match o.op,p.dr with
  | .slice T x none (some y) none,false=>match Xc4 (look p.E) x,Xc4 (look p.E) y,tb T with
   | some (.ap q m),some (.d (.int _ j)),some ⟨.st z,e,eb,ar⟩=>match Nat.beq m ar,look p.H q with
    | true,some _=>some (p,o,T,x,y,q,m,e.size,eb,z,j)
    | _,_=>none
   | _,_,_=>none
  | _,_=>none
 | none=>none
theorem Sp (j : Nat) {o : Oper} {T : TypeId} {x y : Operand} {q m sz eb : Nat} {z : D} {i : Int} (h : Ylx c.tb c.n s=some (p,o,T,x,y,q,m,sz,eb,z,i)) (hj : j≤m) (h0 : 0<m) (k : p.nx c (.own q sz 0 j)) (hm : m<1000000) (hi : i=(j : Int):=by first | exact rfl | omega) : StP c s:=by
 subst hi
 unfold Ylx at h
 split at h <;> try cases h
 rename_i p' o' ho
 split at h <;> try cases h
 rename_i T' x' y' hop hdr
 split at h <;> try cases h
 rename_i k2 e eb' ar hx hy hti
 split at h <;> cases h
 rename_i hH hma
 have hma:=W0f hma
 subst hma
 refine Xr6 (us:=[]) ho (by unfold Xam;rw [hop];rfl) hdr (fun N W θ ρ _ hO hN hB hv=>?_) (Pl.nx_nil k)
 obtain ⟨hk,_⟩:=c.hT _ _ hti
 obtain ⟨t,u1,_,u3⟩:=hk.u
 simp only [show ¬ m=0 from by omega,if_false] at u3
 obtain ⟨E,e1,i,v0,i1,i2,_⟩:=u3
 subst e1
 obtain ⟨cs,⟨b,f1,f2,f3⟩,f4⟩:=hv _ _ hx
 subst f3
 have f4 : ρ x=.pointer (some ⟨b,0,none⟩):=f4
 obtain ⟨ey,_⟩:=Xcu (hv _ _ hy)
 have hg : (sem p.E p.H).2 q=some _:=hH
 refine .val (u:=.slice (some ⟨b,0,none⟩) j m) hO ?_ ?_ (fun i hi=>by subst hi;exact ⟨_,hg⟩)
 · have hm0 : ¬ m=0:=by omega
   simp [execOp,hop,f4,ey,Instr.sliceAt,Instr.sureAddr,Instr.sliceBounds,Instr.sliceBound,asIntOf,sizeOf,typeInfo,underlying,program,bind,Sem.bind,Sem.run,pure,u1,i1,i2,hm0,hj,add0]
 · exact ⟨[.slice (some ⟨b,0,none⟩) j m],⟨b,some ⟨b,0,none⟩,f1,by omega,by omega,by rw [f2,W7d],fun _=>by rw [W4t]⟩,rfl⟩
noncomputable def Yl6 (tb : Nat→Option TI) (n : Nat) (s : St) : Option (Pl × Oper × TypeId × TypeId × Operand × Nat × Nat × Nat × List D):=match nxO tb n s with
 | some (p,o)=>match o.op,p.dr with
  | .convert S T x,false=>match Xc4 (look p.E) x,tb S,tb T with
   | some (.own q 1 l m),some ⟨.sl _ _,.int .u8 _,_,_⟩,some ⟨.str _,_,_,_⟩=>match look p.H q with
    | some (.arr 1 xs)=>some (p,o,S,T,x,q,l,m,xs)
    | _=>none
   | _,_,_=>none
  | _,_=>none
 | none=>none
theorem Bo (zs : List UInt8) {o : Oper} {S T : TypeId} {x : Operand} {q l m : Nat} {xs : List D} (h : Yl6 c.tb c.n s=some (p,o,S,T,x,q,l,m,xs)) (hl : l+m≤xs.length) (hz : Xzp ((xs.drop l).take m)=some zs) (k : p.nx c (.d (.str zs))) : StP c s:=by
 unfold Yl6 at h
 split at h <;> try cases h
 rename_i p' o' ho
 split at h <;> try cases h
 rename_i S' T' x' hop hdr
 split at h <;> try cases h
 rename_i hx hS hT
 split at h <;> cases h
 rename_i hH
 refine Xr6 (us:=[]) ho (by unfold Xam;rw [hop];rfl) hdr (fun N W θ ρ _ hO hN hB hv=>?_) (Pl.nx_nil k)
 obtain ⟨hk,_⟩:=c.hT _ _ hS
 obtain ⟨t,u1,_,E,u3,_⟩:=hk.u
 subst u3
 obtain ⟨t',u1',_,u3⟩:=(c.hT _ _ hT).1.u
 have u3 : t'=.string:=u3
 subst u3
 have ue:=hk.k E _ _ u1 rfl
 obtain ⟨b,pp,f1,f2,f3,e,f5⟩:=Xli (hv _ _ hx)
 obtain ⟨b',bs,T1,r1,r2,r3,r4,r5,r6,r7⟩:=hO.r _ _ hH
 rw [f1] at r1;injection r1 with r1;subst r1
 obtain ⟨ns,hn1,rfl⟩:=Xld hz
 have hlen : ns.length=m:=by
  have:=congrArg List.length hn1
  simp at this;omega
 refine .val (u:=.string ⟨(ns.map fun z=>UInt8.ofNat z.toNat).toArray⟩) hO ?_ (Xnr (by simp;omega)) (fun _ h=>h.elim)
 have hc : (convert S T (ρ x)).run c.P W.w=.ok (.string ⟨(ns.map fun z=>UInt8.ofNat z.toNat).toArray⟩) W.w:=by
  rw [e,run_convert_bytes_string W.w S T E pp _ _ u1 ue u1']
  by_cases hm0 : m=0
  · subst hm0
    have : ns=[]:=W2g.1 hlen
    subst this
    cases pp with
    | none=>rfl
    | some a=>exact run_bytesToString W.w a _ _ [] rfl
  · rw [f5 (by omega)]
    rw [run_bytesToString W.w _ _ _ ns (by
     have h:=Xdm (P:=c.P) (b:=b) (off:=l*1) (w:=W.w) (ns.map (Value.int .u8)) 0 #[] (fun j v hj=>by
      rw [W1t] at hj
      cases hz : ns[j]? with
      | none=>rw [hz] at hj;cases hj
      | some z =>
       rw [hz] at hj;injection hj with hj;subst hj
       have hj' : ((xs.drop l).take m)[j]?=some (.int .u8 z):=by rw [hn1,W1t,hz];rfl
       have hj2 : xs[l+j]?=some (.int .u8 z):=by
        rw [W1e] at hj'
        split at hj'
        · rwa [W2c] at hj'
        · cases hj'
       obtain ⟨e1,g1,_,g2⟩:=r6 _ _ hj2
       have g1:=g1.1
       subst g1
       have:=g2 0 _ rfl
       rw [show l*1+(0+j)=(l+j)*1+0 by omega,Xbb r2]
       exact this)
     simp only [W0r] at h
     rw [←hlen]
     simpa [loadCells] using h)]
    have:=Xe1 ns []
    rw [show (ByteArray.empty : ByteArray)=⟨([] : List UInt8).toArray⟩ from rfl,this]
    simp
 unfold execOp
 rw [hop]
 simp only
 rw [Sem.run_bind,hc];rfl
noncomputable def Yl2 (tb : Nat→Option TI) (n : Nat) (s : St) : Option (Pl × Oper × TypeId × Nat × Operand × Nat × Int):=match nxO tb n s with
 | some (p,o)=>match o.op,p.dr with
  | .indexAddr T (.global g) y,false=>match Xc4 (look p.E) y,tb T with
   | some (.d (.int _ j)),some ⟨.st _,.int _ _,_,ar⟩=>match Nat.beq ar 0 with
    | false=>some (p,o,T,g,y,ar,j)
    | true=>none
   | _,_=>none
  | _,_=>none
 | none=>none
theorem Gx (j : Nat) (k : IntKind) (z : Int) {o : Oper} {T : TypeId} {y : Operand} {g ar : Nat} {i : Int} (h : Yl2 c.tb c.n s=some (p,o,T,g,y,ar,i)) (hj : j<ar) (hg : ∀ W,c.gb.g W→Fr W g j (.int k z)) (hr : inR k z) (kk : p.nx c (.at (.int k z))) (hi : i=(j : Int):=by first | exact rfl | omega) : StP c s:=by
 subst hi
 unfold Yl2 at h
 split at h <;> try cases h
 rename_i p' o' ho
 split at h <;> try cases h
 rename_i T' g' y' hop hdr
 split at h <;> try cases h
 rename_i k1 j1 z1 k2 z2 eb ar1 hy hti
 split at h <;> cases h
 rename_i hz
 have hz : ¬ ar=0:=fun e=>by subst e;cases hz
 refine Xr6 (us:=[]) ho (by unfold Xam;rw [hop];rfl) hdr (fun N W θ ρ hgb hO hN hB hv=>?_) (Pl.nx_nil kk)
 obtain ⟨hk,_⟩:=c.hT _ _ hti
 obtain ⟨t,u1,_,u3⟩:=hk.u
 simp only [hz,if_false] at u3
 obtain ⟨E,e1,i,v0,i1,i2,_⟩:=u3
 subst e1
 obtain ⟨ey,_⟩:=Xcu (hv _ _ hy)
 have eg:=hgb.2 g
 have i2 : i.size=1:=i2
 refine .val (u:=.pointer (some ⟨g,j,none⟩)) hO ?_ (Yk8 (e:=[.int k z]) ⟨rfl,hr⟩ fun q v hq=>?_) (fun _ h=>h.elim)
 · have hjl : (j : Int)<(ar : Int):=by omega
   simp [execOp,hop,eg,ey,Instr.indexAt,Instr.sureAddr,asIntOf,sizeOf,typeInfo,underlying,program,bind,Sem.bind,Sem.run,pure,u1,i1,i2,hjl,hj,add0]
 · cases q with
   | zero=>simp at hq;subst hq;exact hg W hgb.1
   | succ q=>simp at hq
end
end
section
section
variable {c : Cx} {s : St} {p : Pl}
noncomputable def Ylz (tb : Nat→Option TI) (n : Nat) (s : St) : Option (Pl × Oper × Operand × Operand × TypeId × TI × Nat × List D):=match nxO tb n s with
 | some (p,o)=>match o.op,p.dr with
  | .call ⟨.builtin .append,⟨[x,y]⟩,⟨[T,T']⟩⟩,false=>match Nat.beq T T',Xc4 (look p.E) x,Xc4 (look p.E) y,tb T with
   | true,some .nil,some (.lit sz ys),some ti=>match ti.z,look p.H (o.dst.getD 0),Nat.ble ti.eb 128 with
    | .sl sz' _,none,true=>match Nat.beq sz sz' with
     | true=>some (p,o,x,y,T,ti,sz,ys)
     | false=>none
    | _,_,_=>none
   | _,_,_,_=>none
  | _,_=>none
 | none=>none
theorem ApW {o : Oper} {x y : Operand} {T : TypeId} {ti : TI} {sz : Nat} {ys : List D} (h : Ylz c.tb c.n s=some (p,o,x,y,T,ti,sz,ys)) (h0 : 0<ys.length) (hl : ys.length≤1099511627776) (k : p.nx' c (.own (o.dst.getD 0) sz 0 ys.length) [(o.dst.getD 0,.arr sz ys)]) : StP c s:=by
 unfold Ylz at h
 split at h <;> try cases h
 rename_i p' o' ho
 split at h <;> try cases h
 rename_i x' y' T1 T2 hop hdr
 split at h <;> try cases h
 rename_i sz1 ys1 ti1 hT hx hy hti
 have hT:=W0f hT
 subst hT
 split at h <;> try cases h
 rename_i sz2 zz hz hd hb
 split at h <;> cases h
 rename_i hsz
 have hsz:=W0f hsz
 subst hsz
 refine Xr6 ho (by unfold Xam;rw [hop];rfl) hdr (fun N W θ ρ _ hO hN hB hv=>?_) k
 obtain ⟨hk,_⟩:=c.hT _ _ hti
 obtain ⟨t,u1,_,u3⟩:=hk.u
 rw [hz] at u3
 obtain ⟨E,e,hszz,hez,ii,v0,i1,i2,i3,i4,i5⟩:=u3
 subst e
 obtain ⟨q,ex⟩:=Xlj (hv _ _ hx)
 obtain ⟨q2,c2,news,ey,hk2,hnl,hnr,hn1,hna⟩:=Yai (z:=.sl sz []) (sz:=sz) hO (c:=.lit sz ys) (ys:=ys) (by simp [Xnt,toD]) (hv _ _ hy)
 rw [hszz] at hnl
 have hr : Xi4 (0+ys.length) ti:=by rw [W1k];exact Xcm hl (W1y hb)
 have hrun:=Xe8 (P:=c.P) (W:=W) (ty:=o.type) (ti:=ti) u1 i1 i2 i3 i4 i5 (p:=q) (m:=0) (c:=0) (k:=ys.length) (c2:=c2) (q:=q2) (olds:=[]) (news:=news) (W0b _) (.inl rfl) (by simp) (fun b _ j u hj=>by simp at hj) hnl hnr hn1 hr hk2
 rcases hrun with ⟨h1,_⟩ | ⟨_,h1,_⟩ | ⟨_,c',zs,h1,h2,h3,hrun⟩
 · omega
 · omega
 · simp only [W1k,W3z] at hrun h1 h3
   obtain ⟨W',θ',e1,e2,e3⟩:=Xkl (W:=W.tick) (θ:=θ) (g:=(sem p.E p.H).2) (dd:=o.dst.getD 0) (E:=E) (sz:=sz) (xs:=ys) (cs:=news) (c:=c') (zs:=zs) (Stp.tick hO).obs hN hB hd (hna.mono (Xd3 W)) (by rw [hnl,hszz]) h1 h2 (by rw [hszz];exact h3)
   refine ⟨W',θ',.value _,?_,(Stp.tick hO).trans e2,.inr ⟨_,rfl,e3⟩,fun i hi=>⟨_,by subst hi;exact Xal _ _ _⟩⟩
   have h4 : execOp ρ o=(Builtin.append_ #[T,T] o.type #[ρ x,ρ y] >>= fun v=>pure (.value v)):=by
    simp [execOp,hop,resolve,invoke,builtin]
   rw [h4,Sem.run_bind,ex,ey,hrun,e1]
   rfl
noncomputable def Yl0 (tb : Nat→Option TI) (n : Nat) (s : St) : Option (Pl × Oper × Operand × Nat × Nat):=match nxO tb n s with
 | some (p,o)=>match o.op,p.dr with
  | .nilCheck x,false=>match Xc4 (look p.E) x with
   | some (.ap q m)=>match look p.H q with
    | some _=>some (p,o,x,q,m)
    | none=>none
   | _=>none
  | _,_=>none
 | none=>none
theorem Nk {o : Oper} {x : Operand} {q m : Nat} (h : Yl0 c.tb c.n s=some (p,o,x,q,m)) (k : p.nx c (.ap q m)) : StP c s:=by
 unfold Yl0 at h
 split at h <;> try cases h
 rename_i p' o' ho
 split at h <;> try cases h
 rename_i x' hop hdr
 split at h <;> try cases h
 rename_i q' m' hx
 split at h <;> cases h
 rename_i hH
 refine Xr6 (us:=[]) ho (by unfold Xam;rw [hop];rfl) hdr (fun N W θ ρ _ hO hN hB hv=>?_) (Pl.nx_nil k)
 obtain ⟨cs,⟨b,f1,f2,f3⟩,f4⟩:=hv _ _ hx
 subst f3
 have f4 : ρ x=.pointer (some ⟨b,0,none⟩):=f4
 refine .val (u:=.pointer (some ⟨b,0,none⟩)) hO ?_ ⟨_,⟨b,f1,f2,rfl⟩,rfl⟩ (fun i hi=>by subst hi;exact ⟨_,hH⟩)
 simp only [execOp,hop,f4];rfl
noncomputable def Yl3 (tb : Nat→Option TI) (n : Nat) (s : St) : Option (Pl × Oper × TypeId × Operand × Operand × Nat × Nat × Int):=match nxO tb n s with
 | some (p,o)=>match o.op,p.dr with
  | .indexAddr T x y,false=>match Xc4 (look p.E) x,Xc4 (look p.E) y,tb T with
   | some (.ap q m),some (.d (.int _ j)),some ⟨.st _,e,_,ar⟩=>match Nat.beq m ar,Nat.beq e.size 1,look p.H q with
    | true,true,some _=>some (p,o,T,x,y,q,m,j)
    | _,_,_=>none
   | _,_,_=>none
  | _,_=>none
 | none=>none
theorem Ea (j : Nat) {o : Oper} {T : TypeId} {x y : Operand} {q m : Nat} {i : Int} (h : Yl3 c.tb c.n s=some (p,o,T,x,y,q,m,i)) (hj : j<m) (k : p.nx c (.el q 1 j 0)) (hi : i=(j : Int):=by first | exact rfl | omega) : StP c s:=by
 subst hi
 unfold Yl3 at h
 split at h <;> try cases h
 rename_i p' o' ho
 split at h <;> try cases h
 rename_i T' x' y' hop hdr
 split at h <;> try cases h
 rename_i k2 zz e eb ar hx hy hti
 split at h <;> cases h
 rename_i hes hH hma
 have hma:=W0f hma
 subst hma
 have hes:=W0f hes
 refine Xr6 (us:=[]) ho (by unfold Xam;rw [hop];rfl) hdr (fun N W θ ρ _ hO hN hB hv=>?_) (Pl.nx_nil k)
 obtain ⟨hk,_⟩:=c.hT _ _ hti
 obtain ⟨t,u1,_,u3⟩:=hk.u
 simp only [show ¬ m=0 from by omega,if_false] at u3
 obtain ⟨E,e1,i,v0,i1,i2,_⟩:=u3
 subst e1
 have i2 : i.size=1:=i2.trans hes
 obtain ⟨cs,⟨b,f1,f2,f3⟩,f4⟩:=hv _ _ hx
 subst f3
 have f4 : ρ x=.pointer (some ⟨b,0,none⟩):=f4
 obtain ⟨ey,_⟩:=Xcu (hv _ _ hy)
 refine .val (u:=.pointer (some ⟨b,j,none⟩)) hO ?_ (by have:=Yje (sz:=1) (j:=j) (off:=0) (W:=W) f1;simpa using this) (fun i hi=>by subst hi;exact ⟨_,hH⟩)
 have hjl : (j : Int)<(m : Int):=by omega
 simp [execOp,hop,f4,ey,Instr.indexAt,Instr.sureAddr,asIntOf,sizeOf,typeInfo,underlying,program,bind,Sem.bind,Sem.run,pure,u1,i1,i2,hjl,hj,add0]
end
end
end Go.Vm
namespace Go.Proofs.YtjcejnjhfcbafaaGreatDoor
open Go Go.Vm Go.Num Go.Proofs Go.Shelf Go.RowKit
section
abbrev Tx (s : List UInt8) : Prop:=s.length<4611686018427387904
theorem Xgq {s t : List UInt8} (hs : Tx s) (ht : Tx t) : C0 147 [.d (.str s),.d (.str t)] (·=.b (dc (s.take t.length=t))):=by
 refine En Tryz.func147 fun _ _ _=>?_
 refine By rfl (fun h=>?_) fun h=>?_
 · refine Stk t.length _ rfl (by omega) rfl ?_
   exact R1 rfl (.bp Xau)
 · refine R1 rfl (.bp ⟨fun e=>(by cases e),fun e=>?_⟩)
   have:=congrArg List.length e
   rw [W0k] at this
   omega
theorem Xee {s t : List UInt8} (hs : Tx s) (ht : Tx t) : C0 35 [.d (.str s),.d (.str t)] (·=.tup (.pr (.d (.str (if s.take t.length=t then s.drop t.length else s))) (.b (dc (s.take t.length=t))))):=by
 have h1 : C0 80 [.d (.str s),.d (.str t)] (·=.tup (.pr (.d (.str (if s.take t.length=t then s.drop t.length else s))) (.b (dc (s.take t.length=t))))):=by
  refine En Tryz.func80 fun _ _ _=>?_
  refine Ce rfl (Xgq hs ht) ?_
  refine By rfl (fun h=>?_) fun h=>?_
  · refine RTt rfl (.cons (.eq (by rw [if_neg h])) (.one (by exact .bp (c:=false) ⟨fun e=>(by cases e),fun e=>absurd e h⟩) (fun _ _ e=>by cases e) (fun _ _ e=>by cases e)))
  · have h:=W5q.1 h
    have hl : t.length≤s.length:=by have:=congrArg List.length h;rw [W0k] at this;omega
    refine Sdp t.length _ rfl hl rfl ?_
    refine RTt rfl (.cons (.eq (by rw [if_pos h])) (.one (by exact .bp (c:=true) ⟨fun _=>h,fun _=>rfl⟩) (fun _ _ e=>by cases e) (fun _ _ e=>by cases e)))
 refine En Tryz.func35 fun _ _ _=>?_
 refine Ce rfl h1 ?_
 exact R0t
theorem Xlk {s t : List UInt8} (hs : Tx s) (ht : Tx t) : C0 39 [.d (.str s),.d (.str t)] (·=.d (.str (if t.length≤s.length∧s.drop (s.length - t.length)=t then s.take (s.length - t.length) else s))):=by
 have h0 : C0 155 [.d (.str s),.d (.str t)] (·=.b (dc (t.length≤s.length∧s.drop (s.length - t.length)=t))):=by
  refine En Tryz.func155 fun _ _ _=>?_
  refine By rfl (fun h=>?_) fun h=>?_
  · refine Ar (s.length - t.length : Nat) rfl ?_
    refine Sdp (s.length - t.length) _ rfl (by omega) rfl ?_
    exact R1 rfl (.bp (Xau.trans ⟨fun e=>⟨by omega,e⟩,fun e=>e.2⟩))
  · exact R1 rfl (.bp ⟨fun e=>(by cases e),fun e=>absurd e.1 (by omega)⟩)
 have h1 : C0 93 [.d (.str s),.d (.str t)] (·=.d (.str (if t.length≤s.length∧s.drop (s.length - t.length)=t then s.take (s.length - t.length) else s))):=by
  refine En Tryz.func93 fun _ _ _=>?_
  refine Ce rfl h0 ?_
  refine By rfl (fun h=>?_) fun h=>?_
  · refine Ar (s.length - t.length : Nat) rfl ?_
    refine Stk (s.length - t.length) _ rfl (by omega) rfl ?_
    exact R1 rfl (.eq (by rw [if_pos h]))
  · exact R1 rfl (.eq (by rw [if_neg h]))
 refine En Tryz.func39 fun _ _ _=>?_
 refine Ce rfl h1 ?_
 exact R0
def trR (c : UInt8) (s : List UInt8) : List UInt8:=(s.reverse.dropWhile (· == c)).reverse
def trL (c : UInt8) (s : List UInt8) : List UInt8:=s.dropWhile (· == c)
theorem Xdi {c : UInt8} (s : List UInt8) (x : UInt8) : trR c (s++[x])=if x=c then trR c s else s++[x]:=by
 unfold trR
 rw [W8d,List.reverse_singleton,W7s,W3u]
 by_cases h : x=c <;> simp [h]
theorem Xer {a b : UInt8} (h : (a.toNat : Int)=b.toNat) : a=b:=W5v.1 (by omega)
theorem Xgs {s : List UInt8} {b : UInt8} (hs : Tx s) : C0 94 [.d (.str s),.d (.int .u8 b.toNat)] (·=.d (.str (trR b s))):=by
 refine En Tryz.func94 fun _ _ _=>?_
 refine Lo (fun (t : List UInt8)=>[(0,.d (.str t)),(1,.d (.int .u8 b.toNat))]) (fun _=>[]) (fun t=>Tx t∧trR b t=trR b s) (fun t=>t.length) s [] rfl ⟨hs,rfl⟩ ?_ (by exact ⟨rfl,rfl,rfl,rfl,rfl⟩)
 rintro t ⟨ht,he⟩
 refine By rfl (fun h=>?_) fun h=>?_
 · rcases List.eq_nil_or_concat t with rfl | ⟨u,x,rfl⟩
   · simp at h
   rw [List.concat_eq_append] at *
   have hl : (u++[x]).length=u.length+1:=by simp
   refine Ar (u.length : Nat) rfl ?_ (wr (by omega) (by simp only [inK];omega))
   refine Yx u.length x rfl (by simp) ?_
   refine By rfl (fun h1=>?_) fun h1=>?_
   · refine Ar (u.length : Nat) rfl ?_ (wr (by omega) (by simp only [inK];omega))
     refine Stk u.length u rfl (by omega) (by simp) ?_
     refine Bk u [] rfl ⟨by show u.length<_;omega,?_⟩ (by simp) (by exact ⟨rfl,rfl,rfl,rfl,rfl⟩)
     rw [←he,Xdi,if_pos (Xer h1)]
   · refine R1 rfl (.eq ?_)
     rw [←he,Xdi,if_neg fun e=>h1 (by rw [e])]
 · have : t=[]:=W2g.1 (by omega)
   subst this
   exact R1 rfl (.eq (by rw [←he];rfl))
theorem Xhi {s : List UInt8} {b : UInt8} (hs : Tx s) : C0 160 [.d (.str s),.d (.int .u8 b.toNat)] (·=.d (.str (trL b s))):=by
 refine En Tryz.func160 fun _ _ _=>?_
 refine Lo (fun (t : List UInt8)=>[(0,.d (.str t)),(1,.d (.int .u8 b.toNat))]) (fun _=>[]) (fun t=>Tx t∧trL b t=trL b s) (fun t=>t.length) s [] rfl ⟨hs,rfl⟩ ?_ (by exact ⟨rfl,rfl,rfl,rfl,rfl⟩)
 rintro t ⟨ht,he⟩
 refine By rfl (fun h=>?_) fun h=>?_
 · cases t with
   | nil=>simp at h
   | cons x u =>
   have hl : (x::u).length=u.length+1:=rfl
   refine Yx 0 x rfl rfl ?_
   refine By rfl (fun h1=>?_) fun h1=>?_
   · refine Sdp 1 u rfl (by omega) rfl ?_
     refine Bk u [] rfl ⟨by show u.length<_;have : (x::u).length<_:=ht;omega,?_⟩ (by simp) (by exact ⟨rfl,rfl,rfl,rfl,rfl⟩)
     rw [←he];simp [trL,Xer h1]
   · refine R1 rfl (.eq ?_)
     rw [←he];simp [trL,W3u]
     exact fun e=>absurd (by rw [e]) h1
 · have : t=[]:=W2g.1 (by omega)
   subst this
   exact R1 rfl (.eq (by rw [←he];rfl))
theorem Xll {s : List UInt8} {b : UInt8} (hs : Tx s) (hb : b.toNat<128) : C0 40 [.d (.str s),.d (.str [b])] (·=.d (.str (trR b s))):=by
 refine En Tryz.func40 fun _ _ _=>?_
 refine By rfl (fun h=>?_) fun h=>?_
 · subst h;exact R1 rfl (.eq rfl)
 · refine No rfl (by simp) ?_
   refine Yes rfl (by simp) ?_
   refine Yx 0 b rfl rfl ?_
   refine Yes rfl (by omega) ?_
   refine Yx 0 b rfl rfl ?_
   refine Ce rfl (Xgs hs) ?_
   exact R0
theorem Xna {s : List UInt8} {b : UInt8} (hs : Tx s) (hb : b.toNat<128) : C0 100 [.d (.str s),.d (.str [b])] (·=.d (.str (trL b s))):=by
 refine En Tryz.func100 fun _ _ _=>?_
 refine By rfl (fun h=>?_) fun h=>?_
 · subst h;exact R1 rfl (.eq rfl)
 · refine No rfl (by simp) ?_
   refine Yes rfl (by simp) ?_
   refine Yx 0 b rfl rfl ?_
   refine Yes rfl (by omega) ?_
   refine Yx 0 b rfl rfl ?_
   refine Ce rfl (Xhi hs) ?_
   exact R0
end
section
def d2 (n : Nat) : List UInt8:=[UInt8.ofNat (48+n / 10),UInt8.ofNat (48+n % 10)]
theorem Yh4 {n : Nat} (h : 10≤n) (h1 : n<100) : dec n=d2 n:=by rw [Xd0 h,Xcg (by omega)];rfl
def tb2 : List UInt8:=(List.range 100).flatMap d2
theorem Xxu {n : Nat} (hn : n<100) : C0 211 [.d (.int .i64 n)] (·=.d (.str (dec n))):=by
 refine En Tryz.func211 fun _ _ _=>?_
 refine By rfl (fun h=>?_) fun h=>?_
 · refine Ar (n+1 : Nat) rfl ?_
   refine Smd n (n+1) (dec n) rfl ⟨by omega,by simp;omega⟩ ?_ ?_
   · rw [Xcg (by omega)]
     have h1 : n<10:=by omega
     clear hn h
     revert h1;generalize n=j;revert j;decide +kernel
   · exact R0
 · refine Ar (n*2 : Nat) rfl ?_
   refine Ar (n*2 : Nat) rfl ?_
   refine Ar (n*2+2 : Nat) rfl ?_
   refine Smd (n*2) (n*2+2) (dec n) rfl ⟨by omega,by simp;omega⟩ ?_ ?_
   · rw [Yh4 (by omega) hn]
     clear h
     revert hn;generalize n=j;revert j;decide +kernel
   · exact R0
theorem Xmf {n : Nat} (hn : n≤64) : C0 263 [.d (.int .i64 n)] (·=.d (.int .i64 (n*78913 / 262144 : Nat))):=by
 refine En Tryz.func263 fun _ _ _=>?_
 refine Ar (n*78913 : Nat) rfl ?_
 refine Ar (n*78913 / 2 ^ 18 : Nat) rfl ?_ (Xhr (n:=18) (by decide))
 exact R1 rfl (.eq rfl)
theorem Xzq {p : Prop} : C0 265 [.b (dc p)] (fun v=>∃ n : Nat,v=.d (.int .i64 n)∧(n=1∧p∨n=0∧¬ p)):=by
 refine En Tryz.func265 fun _ _ _=>?_
 refine By rfl (fun h=>?_) fun h=>?_
 · exact Rt rfl (.one (.rf rfl) rfl rfl) ⟨1,rfl,.inl ⟨rfl,h⟩⟩
 · exact Rt rfl (.one (.rf rfl) rfl rfl) ⟨0,rfl,.inr ⟨rfl,h⟩⟩
theorem Xz0 {x : Nat} (hx : x<18446744073709551616) : C0 264 [.d (.int .u64 x)] (·=.d (.int .i64 (bl x))):=by
 refine En Tryz.func264 fun _ _ _=>?_
 refine Cu none (fun ((x1,n1) : Nat × Nat)=>[(0,.d (.int .u64 x1)),(2,.d (.int .i64 n1))]) (fun _=>[]) (fun (x1,n1)=>x1<4294967296∧bl x=bl x1+n1∧n1≤32) rfl ?_ fun ⟨x0,n0⟩ ⟨hx0,hb0,hn0⟩=>?_
 · refine By rfl (fun h=>?_) fun h=>?_
   · refine Ar (x / 2 ^ 32 : Nat) rfl ?_ (Xhr (n:=32) (by decide))
     exact Jn (x / 2 ^ 32,32) [] rfl ⟨by omega,Xep (by omega),W0b _⟩
   · exact Jn (x,0) [] rfl ⟨by omega,rfl,by omega⟩
 refine Cu none (fun ((x1,n1) : Nat × Nat)=>[(0,.d (.int .u64 x1)),(2,.d (.int .i64 n1))]) (fun _=>[]) (fun (x1,n1)=>x1<65536∧bl x=bl x1+n1∧n1≤48) rfl ?_ fun ⟨x1,n1⟩ ⟨hx1,hb1,hn1⟩=>?_
 · refine By rfl (fun h=>?_) fun h=>?_
   · refine Ar (x0 / 2 ^ 16 : Nat) rfl ?_ (Xhr (n:=16) (by decide))
     refine Ar (n0+16 : Nat) rfl ?_
     exact Jn (x0 / 2 ^ 16,n0+16) [] rfl ⟨by omega,by rw [hb0,Xep (n:=x0) (k:=16) (by omega)];omega,by omega⟩
   · exact Jn (x0,n0) [] rfl ⟨by omega,hb0,by omega⟩
 refine Cu none (fun ((x1,n1) : Nat × Nat)=>[(0,.d (.int .u64 x1)),(2,.d (.int .i64 n1))]) (fun _=>[]) (fun (x1,n1)=>x1<256∧bl x=bl x1+n1∧n1≤56) rfl ?_ fun ⟨x2,n2⟩ ⟨hx2,hb2,hn2⟩=>?_
 · refine By rfl (fun h=>?_) fun h=>?_
   · refine Ar (x1 / 2 ^ 8 : Nat) rfl ?_ (Xhr (n:=8) (by decide))
     refine Ar (n1+8 : Nat) rfl ?_
     exact Jn (x1 / 2 ^ 8,n1+8) [] rfl ⟨by omega,by rw [hb1,Xep (n:=x1) (k:=8) (by omega)];omega,by omega⟩
   · exact Jn (x1,n1) [] rfl ⟨by omega,hb1,by omega⟩
 have hbl : bl x2<256:=W0t (Ybi (p:=fun j=>bl j<10) (by decide +kernel) x2 hx2) (by decide)
 refine Cv x2 rfl ?_
 refine Yx x2 (UInt8.ofNat (bl x2)) rfl (by revert hx2;generalize x2=j;revert j;decide +kernel) ?_
 refine Cv (bl x2 : Nat) rfl ?_ ((wI ⟨by omega,by rw [Xxk hbl];omega⟩).trans (Xxk hbl))
 refine Ar (bl x : Nat) rfl ?_
 exact R0
theorem Xmc {x : Nat} (h1 : 100≤x) (hx : x<1000000000) : C0 212 [.d (.int .u64 x)] (·=.d (.int .i64 (dec x).length)):=by
 obtain ⟨b1,b2,b3⟩:=Xci (n:=x) (by omega)
 have hb7 : 7≤bl x:=by
  have : 2 ^ 6<2 ^ bl x:=W1n (by omega) b2
  have:=(W2s (by decide : 1<2)).1 this
  omega
 have hb30 : bl x≤30:=by
  have : 2 ^ (bl x - 1)<2 ^ 30:=W1n b1 (by omega)
  have:=(W2s (by decide : 1<2)).1 this
  omega
 obtain ⟨t,ht⟩ : ∃ t,t=bl x*78913 / 262144:=⟨_,rfl⟩
 have ht9 : t≤9:=by omega
 have key : 10 ^ (t - 1)≤x∧x<10 ^ (t+1)∧1≤t:=by
  have hc : ∀ b,b≤30→7≤b→10 ^ (b*78913 / 262144 - 1)≤2 ^ (b - 1)∧2 ^ b≤10 ^ (b*78913 / 262144+1)∧1≤b*78913 / 262144:=by decide +kernel
  obtain ⟨c1,c2,c3⟩:=hc (bl x) hb30 hb7
  rw [←ht] at c1 c2 c3
  exact ⟨W0h c1 b1,W0t b2 c2,c3⟩
 refine En Tryz.func212 fun _ _ _=>?_
 refine Ce rfl (Xz0 (by omega)) ?_
 refine Ce rfl (show C0 _ _ (·=.d (.int .i64 (t : Nat))) by rw [ht];exact Xmf (by omega)) ?_
 refine Gx t .u64 ((10 ^ t : Nat) : Int) rfl (by omega) (fun W h=>h t (by omega)) ?_ ?_
 · have : 10 ^ t≤10 ^ 9:=W0i (by decide) ht9
   exact wr rfl (by simp only [inK];omega)
 refine Ca rfl (C.nb Xzq) fun v hv=>?_
 obtain ⟨n,rfl,hn⟩:=hv
 refine Ar ((dec x).length : Nat) rfl ?_ ?_
 · exact R0
 · refine wr ?_ ?_
   · rcases hn with ⟨rfl,hp⟩ | ⟨rfl,hp⟩
     · have:=Xe5 t x key.2.1
       have:=Xdf t x (by omega)
       omega
     · have h3:=Xe5 (t - 1) x (by rw [show t - 1+1=t by omega];omega)
       have h4:=Xdf (t - 1) x key.1
       omega
   · have:=Xe5 9 x (by omega)
     simp only [inK];omega
end
section
def dgs : Nat→Nat→List UInt8
 | 0,_=>[]
 | w+1,n=>dgs w (n / 10)++[UInt8.ofNat (48+n % 10)]
theorem Yeb (w n : Nat) : dgs (w+2) n=dgs w (n / 100)++d2 (n % 100):=by
 rw [dgs,dgs,W6n,d2,show n / 10 % 10=n % 100 / 10 by omega,show n % 10=n % 100 % 10 by omega]
 simp
theorem Xwe (n : Nat) : dgs (dec n).length n=dec n:=by
 induction n using Nat.strongRecOn with
 | ind n ih =>
  by_cases h : n<10
  · rw [Xcg h];show dgs 1 n=_;rw [dgs,dgs,W3r h];rfl
  · rw [Xd0 (by omega),W0c];show dgs (_+1) n=_
    rw [dgs,ih _ (by omega)]
def b8 (b : UInt8) : D:=.int .u8 b.toNat
theorem Xwu : ∀ l : List UInt8,Xzp (l.map b8)=some l
 | []=>rfl
 | b::l=>by
  show (match Xzp (l.map b8) with | some s=>some (UInt8.ofNat ((b.toNat : Int)).toNat::s) | none=>none)=_
  rw [Xwu l];simp
theorem st1 {z acc : List UInt8} {i j : Nat} {a : UInt8} (h1 : j+1=i) (h2 : i≤z.length) : ((z.take i++acc).map b8).set j (b8 a)=(z.take j++a::acc).map b8:=by
 subst h1
 rw [←List.map_set]
 congr 1
 apply W4o
 intro k
 by_cases hk : k<j
 · rw [W1w (by omega),W0y (by simp;omega),W0y (by simp;omega),W1e,W1e,if_pos (by omega),if_pos (by omega)]
 · by_cases hk2 : k=j
   · subst hk2
     rw [W2x (by simp;omega),W0j (by simp;omega)]
     have : k - (List.take k z).length=0:=by simp;omega
     rw [this];rfl
   · obtain ⟨q,rfl⟩ : ∃ q,k=j+1+q:=⟨k - (j+1),by omega⟩
     rw [W1w (by omega),W0j (by simp;omega),W0j (by simp;omega)]
     have e1 : j+1+q - (List.take (j+1) z).length=q:=by simp;omega
     have e2 : j+1+q - (List.take j z).length=q+1:=by simp;omega
     rw [e1,e2];simp
def Yln (l : List UInt8) : Prop:=∀ v,v<100→l[v*2+1]?=some (UInt8.ofNat (48+v % 10))∧l[v*2]?=some (UInt8.ofNat (48+v / 10))
instance (l : List UInt8) : Decidable (Yln l):=inferInstanceAs (Decidable (∀ v,v<100→_))
theorem quN {k : IntKind} {a b r : Nat} (hb : b≠0) (h : a / b=r) (hk : inK k (r : Int)) : arB .quo k (a : Int) (b : Int) (r : Int):=show _∧_ from ⟨by omega,wr (by subst h;rfl) hk⟩
theorem reN {k : IntKind} {a b r : Nat} (hb : b≠0) (h : a % b=r) : arB .rem k (a : Int) (b : Int) (r : Int):=show _∧_ from ⟨by omega,by subst h;rfl⟩
theorem tbl : Yln (List.flatten ((List.range 100).map d2)):=by decide +kernel
theorem Stb {c : Cx} {s : St} {p : Pl} {q j : Nat} {xs : List D} {z : Int} (a : UInt8) {zs : List D} (h : Ykg c.tb c.n s=some (p,q,1,xs,j,.int .u8 z)) (hj : j<xs.length) (hz : xs.set j (b8 a)=zs) (k : p.nx' c (.ub True) [(q,.arr 1 zs)]) (hza : z=(a.toNat : Int):=by exact rfl) : StP c s:=by
 subst hza
 exact Sto h hj hz k
theorem Xik {nd x : Nat} {z0 : List UInt8} (h1 : nd≤9) (hx : x<1000000000) (hxn : x<10 ^ nd) (hz0 : nd≤z0.length) (hz24 : z0.length<1000) :
 CW0 213 [.own 1000001 1 0 nd,.d (.int .u64 x)] [(1000001,.arr 1 (z0.map b8))] fun v H'=>H'=[(1000001,.arr 1 ((dgs nd x++z0.drop nd).map b8))]:=by
 refine EnW Tryz.func213 fun _ _ _ _=>?_
 refine Lo (fun ((i,u,acc) : Nat × Nat × List UInt8)=>[(0,.own 1000001 1 0 nd),(1,.d (.int .u64 u)),(4,.d (.int .i64 i))]) (fun (i,_,acc)=>[(1000001,.arr 1 ((z0.take i++acc).map b8))])
  (fun (i,u,acc)=>i≤nd∧u<10 ^ i∧u<1000000000∧dgs i u++acc=dgs nd x++z0.drop nd) (fun (i,_,_)=>i) (nd,x,z0.drop nd) [] rfl ⟨W0b _,hxn,hx,rfl⟩ ?_ (by exact ⟨rfl,by simp only [W3v];rfl,rfl,rfl,rfl⟩)
 rintro ⟨i,u,acc⟩ ⟨hi,hu,hu9,hI⟩
 refine By rfl (fun h=>?_) fun h=>?_
 · obtain ⟨v,hv⟩ : ∃ v,v=u % 100000000:=⟨_,rfl⟩
   obtain ⟨t6,ht6⟩ : ∃ t,t=v / 10000:=⟨_,rfl⟩
   obtain ⟨t7,ht7⟩ : ∃ t,t=v % 10000:=⟨_,rfl⟩
   obtain ⟨v0,hv0⟩ : ∃ w,w=t7 % 100:=⟨_,rfl⟩
   obtain ⟨v1,hv1⟩ : ∃ w,w=t7 / 100:=⟨_,rfl⟩
   obtain ⟨v2,hv2⟩ : ∃ w,w=t6 % 100:=⟨_,rfl⟩
   obtain ⟨v3,hv3⟩ : ∃ w,w=t6 / 100:=⟨_,rfl⟩
   have Bv0 : v0<100:=by omega
   have Bv1 : v1<100:=by omega
   have Bv2 : v2<100:=by omega
   have Bv3 : v3<100:=by omega
   refine Ar (v : Nat) rfl ?_ (reN (b:=100000000) (by decide) hv.symm)
   refine Cv v rfl ?_
   refine Ar (u / 100000000 : Nat) rfl ?_ (quN (b:=100000000) (by decide) rfl (by simp only [inK];omega))
   refine Ar t6 rfl ?_ (quN (b:=10000) (by decide) ht6.symm (by simp only [inK];omega))
   refine Ar t7 rfl ?_ (reN (b:=10000) (by decide) ht7.symm)
   refine Ar v1 rfl ?_ (quN (b:=100) (by decide) hv1.symm (by simp only [inK];omega))
   refine Ar (v1*2 : Nat) rfl ?_
   refine Ar v0 rfl ?_ (reN (b:=100) (by decide) hv0.symm)
   refine Ar (v0*2 : Nat) rfl ?_
   refine Ar v3 rfl ?_ (quN (b:=100) (by decide) hv3.symm (by simp only [inK];omega))
   refine Ar (v3*2 : Nat) rfl ?_
   refine Ar v2 rfl ?_ (reN (b:=100) (by decide) hv2.symm)
   refine Ar (v2*2 : Nat) rfl ?_
   refine Dw rfl ?_
   refine Ar ((i - 1 : Nat) : Int) rfl ?_
   refine Ar ((i - 2 : Nat) : Int) rfl ?_
   refine Ar ((v0*2+1 : Nat) : Int) rfl ?_
   refine Yx (v0*2+1) (UInt8.ofNat (48+v0 % 10)) rfl (tbl v0 Bv0).1 ?_
   refine Yx (v0*2) (UInt8.ofNat (48+v0 / 10)) rfl (tbl v0 Bv0).2 ?_
   refine Eo (i - 1) rfl (by omega) ?_
   refine Stb (UInt8.ofNat (48+v0 % 10)) rfl (by simp only [W0r,W0c,W0k,W0n];omega) (st1 (by omega) (by omega)) ?_
   refine Eo (i - 2) rfl (by omega) ?_
   refine Stb (UInt8.ofNat (48+v0 / 10)) rfl (by simp only [W0r,W0c,W0k,W0n];omega) (st1 (by omega) (by omega)) ?_
   refine Dw rfl ?_
   refine Ar ((i - 3 : Nat) : Int) rfl ?_
   refine Ar ((i - 4 : Nat) : Int) rfl ?_
   refine Ar ((v1*2+1 : Nat) : Int) rfl ?_
   refine Yx (v1*2+1) (UInt8.ofNat (48+v1 % 10)) rfl (tbl v1 Bv1).1 ?_
   refine Yx (v1*2) (UInt8.ofNat (48+v1 / 10)) rfl (tbl v1 Bv1).2 ?_
   refine Eo (i - 3) rfl (by omega) ?_
   refine Stb (UInt8.ofNat (48+v1 % 10)) rfl (by simp only [W0r,W0c,W0k,W0n];omega) (st1 (by omega) (by omega)) ?_
   refine Eo (i - 4) rfl (by omega) ?_
   refine Stb (UInt8.ofNat (48+v1 / 10)) rfl (by simp only [W0r,W0c,W0k,W0n];omega) (st1 (by omega) (by omega)) ?_
   refine Dw rfl ?_
   refine Ar ((i - 5 : Nat) : Int) rfl ?_
   refine Ar ((i - 6 : Nat) : Int) rfl ?_
   refine Ar ((v2*2+1 : Nat) : Int) rfl ?_
   refine Yx (v2*2+1) (UInt8.ofNat (48+v2 % 10)) rfl (tbl v2 Bv2).1 ?_
   refine Yx (v2*2) (UInt8.ofNat (48+v2 / 10)) rfl (tbl v2 Bv2).2 ?_
   refine Eo (i - 5) rfl (by omega) ?_
   refine Stb (UInt8.ofNat (48+v2 % 10)) rfl (by simp only [W0r,W0c,W0k,W0n];omega) (st1 (by omega) (by omega)) ?_
   refine Eo (i - 6) rfl (by omega) ?_
   refine Stb (UInt8.ofNat (48+v2 / 10)) rfl (by simp only [W0r,W0c,W0k,W0n];omega) (st1 (by omega) (by omega)) ?_
   refine Dw rfl ?_
   refine Ar ((i - 7 : Nat) : Int) rfl ?_
   refine Ar ((i - 8 : Nat) : Int) rfl ?_
   refine Ar ((v3*2+1 : Nat) : Int) rfl ?_
   refine Yx (v3*2+1) (UInt8.ofNat (48+v3 % 10)) rfl (tbl v3 Bv3).1 ?_
   refine Yx (v3*2) (UInt8.ofNat (48+v3 / 10)) rfl (tbl v3 Bv3).2 ?_
   refine Eo (i - 7) rfl (by omega) ?_
   refine Stb (UInt8.ofNat (48+v3 % 10)) rfl (by simp only [W0r,W0c,W0k,W0n];omega) (st1 (by omega) (by omega)) ?_
   refine Eo (i - 8) rfl (by omega) ?_
   refine Stb (UInt8.ofNat (48+v3 / 10)) rfl (by simp only [W0r,W0c,W0k,W0n];omega) (st1 (by omega) (by omega)) ?_
   refine Ar ((i - 8 : Nat) : Int) rfl ?_
   refine Bk (i - 8,u / 100000000,d2 v3++(d2 v2++(d2 v1++(d2 v0++acc)))) [] rfl ⟨by omega,?_,by omega,?_⟩ (by show i - 8<i;omega) (by exact ⟨rfl,rfl,rfl,rfl,rfl⟩)
   · obtain ⟨q,rfl⟩ : ∃ q,i=q+8:=⟨i - 8,by omega⟩
     rw [W0u] at hu
     rw [W3m]
     exact W4j (by rw [W1f];exact hu)
   · obtain ⟨q,rfl⟩ : ∃ q,i=q+8:=⟨i - 8,by omega⟩
     rw [W3m,←hI,show q+8=q+6+2 from rfl,Yeb,show q+6=q+4+2 from rfl,Yeb,show q+4=q+2+2 from rfl,Yeb,Yeb]
     rw [show u / 100 / 100 / 100 / 100=u / 100000000 by omega,show u % 100=v0 by omega,show u / 100 % 100=v1 by omega,show u / 100 / 100 % 100=v2 by omega,show u / 100 / 100 / 100 % 100=v3 by omega]
     simp only [W2q]
 have hi8 : i<8:=by omega
 have hu8 : u<10 ^ 8:=W0t hu (W0i (by decide) (by omega))
 refine Cv u rfl ?_
 refine Cu none (fun ((i,u,acc) : Nat × Nat × List UInt8)=>[(0,.own 1000001 1 0 nd),(12,.d (.int .u32 u)),(4,.d (.int .i64 i))]) (fun (i,_,acc)=>[(1000001,.arr 1 ((z0.take i++acc).map b8))])
  (fun (i,u,acc)=>i≤nd∧i<4∧u<10 ^ i∧dgs i u++acc=dgs nd x++z0.drop nd) rfl ?_ ?_
 · refine By rfl (fun h4=>?_) fun h4=>?_
   · obtain ⟨v,hv⟩ : ∃ v,v=u % 10000:=⟨_,rfl⟩
     obtain ⟨v0,hv0⟩ : ∃ w,w=v % 100:=⟨_,rfl⟩
     obtain ⟨v1,hv1⟩ : ∃ w,w=v / 100:=⟨_,rfl⟩
     have Bv0 : v0<100:=by omega
     have Bv1 : v1<100:=by omega
     refine Ar (v : Nat) rfl ?_ (reN (b:=10000) (by decide) hv.symm)
     refine Ar (u / 10000 : Nat) rfl ?_ (quN (b:=10000) (by decide) rfl (by simp only [inK];omega))
     refine Ar v1 rfl ?_ (quN (b:=100) (by decide) hv1.symm (by simp only [inK];omega))
     refine Ar (v1*2 : Nat) rfl ?_
     refine Ar v0 rfl ?_ (reN (b:=100) (by decide) hv0.symm)
     refine Ar (v0*2 : Nat) rfl ?_
     refine Dw rfl ?_
     refine Ar ((i - 1 : Nat) : Int) rfl ?_
     refine Ar ((i - 2 : Nat) : Int) rfl ?_
     refine Ar ((v0*2+1 : Nat) : Int) rfl ?_
     refine Yx (v0*2+1) (UInt8.ofNat (48+v0 % 10)) rfl (tbl v0 Bv0).1 ?_
     refine Yx (v0*2) (UInt8.ofNat (48+v0 / 10)) rfl (tbl v0 Bv0).2 ?_
     refine Eo (i - 1) rfl (by omega) ?_
     refine Stb (UInt8.ofNat (48+v0 % 10)) rfl (by simp only [W0r,W0c,W0k,W0n];omega) (st1 (by omega) (by omega)) ?_
     refine Eo (i - 2) rfl (by omega) ?_
     refine Stb (UInt8.ofNat (48+v0 / 10)) rfl (by simp only [W0r,W0c,W0k,W0n];omega) (st1 (by omega) (by omega)) ?_
     refine Dw rfl ?_
     refine Ar ((i - 3 : Nat) : Int) rfl ?_
     refine Ar ((i - 4 : Nat) : Int) rfl ?_
     refine Ar ((v1*2+1 : Nat) : Int) rfl ?_
     refine Yx (v1*2+1) (UInt8.ofNat (48+v1 % 10)) rfl (tbl v1 Bv1).1 ?_
     refine Yx (v1*2) (UInt8.ofNat (48+v1 / 10)) rfl (tbl v1 Bv1).2 ?_
     refine Eo (i - 3) rfl (by omega) ?_
     refine Stb (UInt8.ofNat (48+v1 % 10)) rfl (by simp only [W0r,W0c,W0k,W0n];omega) (st1 (by omega) (by omega)) ?_
     refine Eo (i - 4) rfl (by omega) ?_
     refine Stb (UInt8.ofNat (48+v1 / 10)) rfl (by simp only [W0r,W0c,W0k,W0n];omega) (st1 (by omega) (by omega)) ?_
     refine Ar ((i - 4 : Nat) : Int) rfl ?_
     refine Jn (i - 4,u / 10000,d2 v1++(d2 v0++acc)) [] rfl ⟨by omega,by omega,?_,?_⟩
     · obtain ⟨q,rfl⟩ : ∃ q,i=q+4:=⟨i - 4,by omega⟩
       rw [W0u] at hu
       rw [W3m]
       exact W4j (by rw [W1f];exact hu)
     · obtain ⟨q,rfl⟩ : ∃ q,i=q+4:=⟨i - 4,by omega⟩
       rw [W3m,←hI,show q+4=q+2+2 from rfl,Yeb,Yeb]
       rw [show u / 100 / 100=u / 10000 by omega,show u % 100=v0 by omega,show u / 100 % 100=v1 by omega]
       simp only [W2q]
   · exact Jn (i,u,acc) [] rfl ⟨hi,by omega,hu,hI⟩
 clear hu8 hi8 h hI hu9 hu hi acc u i
 rintro ⟨i,u,acc⟩ ⟨hi,hi4,hu,hI⟩
 have hu4 : u<10 ^ 4:=W0t hu (W0i (by decide) (by omega))
 refine Cu none (fun ((i,u,acc) : Nat × Nat × List UInt8)=>[(0,.own 1000001 1 0 nd),(12,.d (.int .u32 u)),(4,.d (.int .i64 i))]) (fun (i,_,acc)=>[(1000001,.arr 1 ((z0.take i++acc).map b8))])
  (fun (i,u,acc)=>i≤nd∧i<2∧u<10 ^ i∧dgs i u++acc=dgs nd x++z0.drop nd) rfl ?_ ?_
 · refine By rfl (fun h4=>?_) fun h4=>?_
   · obtain ⟨v0,hv0⟩ : ∃ w,w=u % 100:=⟨_,rfl⟩
     have Bv0 : v0<100:=by omega
     refine Ar v0 rfl ?_ (reN (b:=100) (by decide) hv0.symm)
     refine Ar (v0*2 : Nat) rfl ?_
     refine Ar (u / 100 : Nat) rfl ?_ (quN (b:=100) (by decide) rfl (by simp only [inK];omega))
     refine Dw rfl ?_
     refine Ar ((i - 1 : Nat) : Int) rfl ?_
     refine Ar ((i - 2 : Nat) : Int) rfl ?_
     refine Ar ((v0*2+1 : Nat) : Int) rfl ?_
     refine Yx (v0*2+1) (UInt8.ofNat (48+v0 % 10)) rfl (tbl v0 Bv0).1 ?_
     refine Yx (v0*2) (UInt8.ofNat (48+v0 / 10)) rfl (tbl v0 Bv0).2 ?_
     refine Eo (i - 1) rfl (by omega) ?_
     refine Stb (UInt8.ofNat (48+v0 % 10)) rfl (by simp only [W0r,W0c,W0k,W0n];omega) (st1 (by omega) (by omega)) ?_
     refine Eo (i - 2) rfl (by omega) ?_
     refine Stb (UInt8.ofNat (48+v0 / 10)) rfl (by simp only [W0r,W0c,W0k,W0n];omega) (st1 (by omega) (by omega)) ?_
     refine Ar ((i - 2 : Nat) : Int) rfl ?_
     refine Jn (i - 2,u / 100,d2 v0++acc) [] rfl ⟨by omega,by omega,?_,?_⟩
     · obtain ⟨q,rfl⟩ : ∃ q,i=q+2:=⟨i - 2,by omega⟩
       rw [W0u] at hu
       rw [W3m]
       exact W4j (by rw [W1f];exact hu)
     · obtain ⟨q,rfl⟩ : ∃ q,i=q+2:=⟨i - 2,by omega⟩
       rw [W3m,←hI,Yeb,←hv0]
       simp only [W2q]
   · exact Jn (i,u,acc) [] rfl ⟨hi,by omega,hu,hI⟩
 clear hu4 hi4 hI hu hi acc u i
 rintro ⟨i,u,acc⟩ ⟨hi,hi2,hu,hI⟩
 refine By rfl (fun h4=>?_) fun h4=>?_
 · have : i=1:=by omega
   subst this
   have hu1 : u<10:=by simpa using hu
   refine Ar (48+u : Nat) rfl ?_
   refine Cv (48+u : Nat) rfl ?_
   refine Eo 0 rfl (by omega) ?_
   refine Stb (UInt8.ofNat (48+u)) rfl (by simp only [W0r,W0c,W0k];omega) (st1 (i:=1) rfl (by omega)) ?_ (by rw [dg hu1])
   refine Rw [] [(1000001,.arr 1 ((z0.take 0++UInt8.ofNat (48+u)::acc).map b8))] rfl (.tup (.one (.rf rfl) (fun _ _ e=>by cases e) (fun _ _ e=>by cases e))) ?_
   rw [←hI,dgs,dgs,W3r hu1];rfl
 · have : i=0:=by omega
   subst this
   refine Rw [] [(1000001,.arr 1 ((z0.take 0++acc).map b8))] rfl (.tup (.one (.rf rfl) (fun _ _ e=>by cases e) (fun _ _ e=>by cases e))) ?_
   rw [←hI,dgs];rfl
end
section
theorem Xln {x : Nat} (hx : x<1000000000) : C0 85 [.d (.int .u64 x),.d (.int .i64 10)] (·=.d (.str (dec x))):=by
 have h1 : C0 150 [.d (.int .u64 x),.d (.int .i64 10)] (·=.d (.str (dec x))):=by
  refine En Tryz.func150 fun _ _ _=>?_
  refine Yes rfl rfl ?_
  refine By rfl (fun h=>?_) fun h=>?_
  · refine Cv x rfl ?_
    refine Ce rfl (Xxu (by omega)) ?_
    exact R0
  · have hl:=Xe5 8 x hx
    have hg:=Xdf 2 x (by omega)
    refine Va 5 5 900 24 ((List.replicate 24 (0 : UInt8)).map b8) rfl rfl (by decide) rfl ?_
    refine Ce rfl (Xmc (by omega) hx) ?_
    refine Sp (dec x).length rfl (by omega) (by decide) ?_ (by decide)
    refine Cw (args:=[.own 1000001 1 0 (dec x).length,.d (.int .u64 x)]) [(1000001,900)] rfl (Xik (z0:=List.replicate 24 (0 : UInt8)) hl hx (Yh2 x) (by simp;omega) (by simp)) (fun v H' _ hv=>?_) rfl
    subst hv
    refine Sp (dec x).length rfl (by omega) (by decide) ?_ (by decide)
    refine Bo (dec x) rfl ?_ ?_ ?_
    · simp [Xwe]
    · rw [Xwe]
      simp only [W1d]
      rw [←W2h,W6j rfl,Xwu]
    · exact R0
 refine En Tryz.func85 fun _ _ _=>?_
 refine Ce rfl h1 ?_
 exact R0
end
section
theorem Xdv {s t : List UInt8} (hs : Tx s) (ht : Tx t) : C0 89 [.d (.str s),.d (.str t)] (·=.b (dc (s.take t.length=t))):=by
 refine En Tryz.func89 fun _ _ _=>?_
 refine Ce rfl (Xgq hs ht) ?_
 exact R0
theorem Yew {n : Nat} (hn : n<65) : C0 88 [.d (.int .u64 1),.d (.int .u64 n)] (·=.tup (.pr (.d (.int .u64 0)) (.d (.int .u64 n)))):=by
 have h1 : C0 152 [.d (.int .u64 1),.d (.int .u64 n)] (·=.tup (.pr (.d (.int .u64 0)) (.d (.int .u64 n)))):=by
  refine En Tryz.func152 fun _ _ _=>?_
  refine Ar 1 rfl ?_ (by simp only [arB];decide +kernel)
  refine Ar 0 rfl ?_ (by simp only [arB];decide +kernel)
  refine Ar n rfl ?_ (by simp only [arB];revert hn;generalize n=j;revert j;decide +kernel)
  refine Ar 0 rfl ?_ (by simp only [arB];revert hn;generalize n=j;revert j;decide +kernel)
  refine Ar n rfl ?_
  refine Ar 0 rfl ?_
  refine Ar 0 rfl ?_ (by simp only [arB];revert hn;generalize n=j;revert j;decide +kernel)
  refine Ar 0 rfl ?_
  refine Ar 0 rfl ?_ (by simp only [arB];decide +kernel)
  refine Ar 0 rfl ?_ (by simp only [arB];decide +kernel)
  refine Ar 0 rfl ?_
  refine Ar 0 rfl ?_
  refine Ar 0 rfl ?_
  refine Ar 0 rfl ?_
  refine Ar 0 rfl ?_ (by simp only [arB];decide +kernel)
  refine Ar 0 rfl ?_
  refine Ar n rfl ?_
  exact R0t
 refine En Tryz.func88 fun _ _ _=>?_
 refine Ce rfl h1 ?_
 exact R0t
theorem Xj2 {n : Nat} (hn : n<65) : C0 37 [.d (.str [48]),.d (.int .i64 n)] (·=.d (.str (List.replicate n 48))):=by
 refine En Tryz.func37 fun _ _ _=>?_
 refine By rfl (fun h=>?_) fun h=>?_
 · have : n=0:=by omega
   subst this;exact R1 rfl (.eq rfl)
 refine By rfl (fun h1=>?_) fun h1=>?_
 · have : n=1:=by omega
   subst this;exact R1 rfl (.eq rfl)
 refine No rfl (by omega) ?_
 refine Cv 1 rfl ?_ (by decide)
 refine Cv n rfl ?_
 refine Ce rfl (Yew hn) ?_
 refine No rfl (by decide) ?_
 refine No rfl (by omega) ?_
 refine Cv n rfl ?_
 refine No rfl (by decide) ?_
 refine Yx 0 48 rfl rfl ?_
 refine No rfl (by decide) ?_
 refine No rfl (by decide) ?_
 refine Yes rfl (by decide) ?_
 refine Yes rfl (by omega) ?_
 refine Ce rfl (Xdv (by decide) (by decide)) ?_
 refine No rfl (by decide) ?_
 refine Yes rfl (by omega) ?_
 refine Ce rfl (Xdv (by decide) (by decide)) ?_
 refine No rfl (by decide) ?_
 refine Yes rfl (by omega) ?_
 refine Ce rfl (Xdv (by decide) (by decide)) ?_
 refine Yes rfl (by decide) ?_
 refine Stk n (List.replicate n 48) rfl (by simp;omega) ?_ ?_
 · clear h h1
   revert hn;generalize n=j;revert j;decide +kernel
 · exact R0
end
section
theorem Xlm (s : ByteArray) (c : Int) (w : World) : Calls Tryz.prog 273 #[.string s,.int .u8 c] w fun e w'=>e=.returned (.int .i64 (Lib.indexByte s.data.toList c.toNat.toUInt8))∧w'=w:=by
 go_enter Tryz.func273,Tryz.ntmps273
 go_wp2
 rw [run_callFunc_extern Tryz.func306 (by kernel_rfl) (by kernel_rfl) (by kernel_rfl) (e:=Extern.BytealgIndexByte.indexByte) (by kernel_rfl),Lib.run_indexByteString]
 simp only [Result.andThen]
 rw [Oper.upon_value]
 go_wp2
 go_ret
 exact ⟨rfl,rfl⟩
theorem Ydk {b : UInt8} : ∀ {s : List UInt8},b ∉ s→Lib.indexByte s b=-1
 | [],_=>rfl
 | x::s,h=>by
  rw [W1q,not_or] at h
  have:=Ydk h.2
  rw [Lib.indexByte,this]
  rw [if_neg (by simpa using fun e=>h.1 e.symm)];rfl
theorem Ydl {b : UInt8} {t : List UInt8} : ∀ {u : List UInt8},b ∉ u→Lib.indexByte (u++b::t) b=u.length
 | [],_=>by simp [Lib.indexByte]
 | x::u,h=>by
  rw [W1q,not_or] at h
  have:=Ydl (t:=t) h.2
  rw [W4d,Lib.indexByte,this]
  rw [if_neg (by simpa using fun e=>h.1 e.symm),if_neg (by rw [beq_iff_eq];omega)]
  simp
theorem Ydj (b : UInt8) : ∀ s : List UInt8,b ∉ s∨∃ u t,s=u++b::t∧b ∉ u
 | []=>.inl (by simp)
 | x::s=>by
  by_cases h : x=b
  · subst h;exact .inr ⟨[],s,rfl,by simp⟩
  · rcases Ydj b s with h1 | ⟨u,t,h1,h2⟩
    · exact .inl (by rw [W1q,not_or];exact ⟨fun e=>h e.symm,h1⟩)
    · exact .inr ⟨x::u,t,by rw [h1];rfl,by rw [W1q,not_or];exact ⟨fun e=>h e.symm,h2⟩⟩
theorem Xnc {s : List UInt8} {b : UInt8} (hs : Tx s) : C0 273 [.d (.str s),.d (.int .u8 b.toNat)] (·=.d (.int .i64 (Lib.indexByte s b))):=by
 refine ⟨⟨_,Tryz.func273,rfl,rfl⟩,fun W vs _ ha=>?_⟩
 match vs,ha with
 | [v,u],ha =>
  obtain ⟨rfl,_⟩:=Xo7 ha.1
  obtain ⟨rfl,_⟩:=Xcu ha.2.1
  refine (Xlm _ _ W.w).mono ?_
  rintro e w' ⟨rfl,rfl⟩
  have e1 : ((b.toNat : Int).toNat).toUInt8=b:=by simp
  rw [e1]
  have h1:=Lib.indexByte_ge s b
  have h2 : Lib.indexByte s b<9223372036854775808:=by
   have hs : s.length<_:=hs
   rcases Ydj b s with h | ⟨u,t,h,h2⟩
   · rw [Ydk h];decide
   · rw [h,Ydl h2];rw [h] at hs;simp at hs;omega
  refine ⟨W,.d (.int .i64 (Lib.indexByte s b)),_,rfl,rfl,Fm.refl _ _,?_,fun _ h=>h,rfl⟩
  exact Vm.int_V (by show IntKind.i64.wrap _=_;exact wI ⟨by omega,h2⟩)
theorem Xnd {s : List UInt8} {b : UInt8} {r : Int} (hs : Tx s) (hr : Lib.indexByte s b=r) : C0 219 [.d (.str s),.d (.str [b])] (·=.d (.int .i64 r)):=by
 subst hr
 refine En Tryz.func219 fun _ _ _=>?_
 refine No rfl (by simp) ?_
 refine Cu (some 0) (fun (_ : Unit)=>[]) (fun _=>[]) (fun _=>False) rfl ?_ fun _ h=>h.elim
 refine By rfl (fun h=>?_) fun h=>?_
 · subst h
   refine R1 rfl (.eq ?_)
   rw [Lib.indexByte];simp
 · refine Yes rfl (by simp) ?_
   refine Yx 0 b rfl rfl ?_
   refine Ce rfl (Xnc hs) ?_
   exact R0
theorem Yiw {s : List UInt8} {b : UInt8} (hs : Tx s) (h : b ∉ s) : C0 98 [.d (.str s),.d (.str [b])] (·=.tup (.pr (.d (.str s)) (.pr (.d (.str [])) (.b false)))):=by
 have h1 : C0 159 [.d (.str s),.d (.str [b])] (·=.tup (.pr (.d (.str s)) (.pr (.d (.str [])) (.b false)))):=by
  refine En Tryz.func159 fun _ _ _=>?_
  refine Ce rfl (Xnd hs (Ydk h)) ?_
  refine No rfl (by decide) ?_
  exact R0t
 refine En Tryz.func98 fun _ _ _=>?_
 refine Ce rfl h1 ?_
 exact R0t
theorem Yix {u t : List UInt8} {b : UInt8} (hs : Tx (u++b::t)) (h : b ∉ u) : C0 98 [.d (.str (u++b::t)),.d (.str [b])] (·=.tup (.pr (.d (.str u)) (.pr (.d (.str t)) (.b true)))):=by
 have hl : (u++b::t).length=u.length+(t.length+1):=by simp
 have hs' : (u++b::t).length<_:=hs
 have h1 : C0 159 [.d (.str (u++b::t)),.d (.str [b])] (·=.tup (.pr (.d (.str u)) (.pr (.d (.str t)) (.b true)))):=by
  refine En Tryz.func159 fun _ _ _=>?_
  refine Ce rfl (Xnd hs (Ydl h)) ?_
  refine Yes rfl (by omega) ?_
  refine Dw rfl ?_
  refine Stk u.length u rfl (by omega) (by simp) ?_
  refine Ar (u.length+1 : Nat) rfl ?_ (wr (by simp) (by simp only [inK];omega))
  refine Sdp (u.length+1) t rfl (by omega) (by simp) ?_
  exact R0t
 refine En Tryz.func98 fun _ _ _=>?_
 refine Ce rfl h1 ?_
 exact R0t
end
section
theorem Xiu {xs : List Bool} {b : UInt8} {v : Bool} (hx : xs.length=256) (hv : xs[b.toNat]?=some v) : CN0 156 [.ap 1000001 256,.d (.int .u8 b.toNat)] [(1000001,.arr 1 (xs.map D.bool))] (·=.b v):=by
 refine EnW Tryz.func156 fun _ _ _ _=>?_
 refine Nk rfl ?_
 refine Ea b.toNat rfl (UInt8.toNat_lt b) ?_
 refine Ld (.bool v) rfl (by rw [W1t,hv];rfl) ?_
 exact Rw [] [(1000001,.arr 1 (xs.map D.bool))] rfl (.one (.rf rfl) rfl rfl) ⟨rfl,rfl⟩
def Xpm (f : UInt8→Bool) (s : List UInt8) : List UInt8:=(s.reverse.dropWhile f).reverse
theorem Xhj {f : UInt8→Bool} (s : List UInt8) (x : UInt8) : Xpm f (s++[x])=if f x=true then Xpm f s else s++[x]:=by
 unfold Xpm
 rw [W8d,List.reverse_singleton,W7s,W3u]
 by_cases h : f x=true <;> simp [h]
theorem Xfy {xs : List Bool} {f : UInt8→Bool} {s : List UInt8} (hx : xs.length=256) (hf : ∀ b : UInt8,xs[b.toNat]?=some (f b)) (hs : Tx s) : CN0 96 [.d (.str s),.ap 1000001 256] [(1000001,.arr 1 (xs.map D.bool))] (·=.d (.str (Xpm f s))):=by
 refine EnW Tryz.func96 fun _ _ _ _=>?_
 refine Lo (fun (t : List UInt8)=>[(0,.d (.str t)),(1,.ap 1000001 256)]) (fun _=>[(1000001,.arr 1 (xs.map D.bool))]) (fun t=>Tx t∧Xpm f t=Xpm f s) (fun t=>t.length) s [] rfl ⟨hs,rfl⟩ ?_ (by exact ⟨rfl,rfl,rfl,rfl,rfl⟩)
 rintro t ⟨ht,he⟩
 refine By rfl (fun h=>?_) fun h=>?_
 · rcases List.eq_nil_or_concat t with rfl | ⟨u,x,rfl⟩
   · simp at h
   rw [List.concat_eq_append] at *
   have hl : (u++[x]).length=u.length+1:=by simp
   refine Ar (u.length : Nat) rfl ?_ (wr (by omega) (by simp only [inK];omega))
   refine Yx u.length x rfl (by simp) ?_
   refine Cn [] rfl (Xiu hx (hf x)) fun v hv=>?_
   subst hv
   refine By rfl (fun h1=>?_) fun h1=>?_
   · refine Rw [] [(1000001,.arr 1 (xs.map D.bool))] rfl (.one (.eq ?_) rfl rfl) ⟨rfl,rfl⟩
     rw [←he,Xhj,if_neg h1]
   · refine Ar (u.length : Nat) rfl ?_ (wr (by omega) (by simp only [inK];omega))
     refine Stk u.length u rfl (by omega) (by simp) ?_
     refine Bk u [] rfl ⟨by show u.length<_;omega,?_⟩ (by simp) (by exact ⟨rfl,rfl,rfl,rfl,rfl⟩)
     rw [←he,Xhj,if_pos (W5q.1 h1)]
 · have : t=[]:=W2g.1 (by omega)
   subst this
   exact Rw [] [(1000001,.arr 1 (xs.map D.bool))] rfl (.one (.eq (by rw [←he];rfl)) rfl rfl) ⟨rfl,rfl⟩
theorem Xgt {xs : List Bool} {f : UInt8→Bool} {s : List UInt8} (hx : xs.length=256) (hf : ∀ b : UInt8,xs[b.toNat]?=some (f b)) (hs : Tx s) : CN0 161 [.d (.str s),.ap 1000001 256] [(1000001,.arr 1 (xs.map D.bool))] (·=.d (.str (s.dropWhile f))):=by
 refine EnW Tryz.func161 fun _ _ _ _=>?_
 refine Lo (fun (t : List UInt8)=>[(0,.d (.str t)),(1,.ap 1000001 256)]) (fun _=>[(1000001,.arr 1 (xs.map D.bool))]) (fun t=>Tx t∧t.dropWhile f=s.dropWhile f) (fun t=>t.length) s [] rfl ⟨hs,rfl⟩ ?_ (by exact ⟨rfl,rfl,rfl,rfl,rfl⟩)
 rintro t ⟨ht,he⟩
 refine By rfl (fun h=>?_) fun h=>?_
 · cases t with
   | nil=>simp at h
   | cons x u =>
   have hl : (x::u).length=u.length+1:=rfl
   refine Yx 0 x rfl rfl ?_
   refine Cn [] rfl (Xiu hx (hf x)) fun v hv=>?_
   subst hv
   refine By rfl (fun h1=>?_) fun h1=>?_
   · refine Rw [] [(1000001,.arr 1 (xs.map D.bool))] rfl (.one (.eq ?_) rfl rfl) ⟨rfl,rfl⟩
     rw [←he,W3u,if_neg h1]
   · refine Sdp 1 u rfl (by omega) rfl ?_
     refine Bk u [] rfl ⟨by show u.length<_;have : (x::u).length<_:=ht;omega,?_⟩ (by simp) (by exact ⟨rfl,rfl,rfl,rfl,rfl⟩)
     rw [←he,W3u,if_pos (W5q.1 h1)]
 · have : t=[]:=W2g.1 (by omega)
   subst this
   exact Rw [] [(1000001,.arr 1 (xs.map D.bool))] rfl (.one (.eq (by rw [←he];rfl)) rfl rfl) ⟨rfl,rfl⟩
end
section
def rnS : Ren:=⟨fun _=>95,fun n=>match n with
 | 3=>3
 | 4=>4
 | 5=>5
 | 9=>9
 | 116=>124
 | _=>0,fun n=>n⟩
theorem Yg7 : Lays.n227 Tryz.prog rnS where
 mixed:=by kernel_rfl
 f227:=by kernel_rfl
 t0:=by kernel_rfl
 a0:=fun _=>by kernel_rfl
 z0:=fun _=>by kernel_rfl
 v0:=fun _=>by kernel_rfl
 t3:=by kernel_rfl
 a3:=fun _=>by kernel_rfl
 z3:=fun _=>by kernel_rfl
 v3:=fun _=>by kernel_rfl
 t4:=by kernel_rfl
 a4:=fun _=>by kernel_rfl
 z4:=fun _=>by kernel_rfl
 v4:=fun _=>by kernel_rfl
 t5:=by kernel_rfl
 a5:=fun _=>by kernel_rfl
 z5:=fun _=>by kernel_rfl
 v5:=fun _=>by kernel_rfl
 t9:=by kernel_rfl
 a9:=fun _=>by kernel_rfl
 z9:=fun _=>by kernel_rfl
 v9:=fun _=>by kernel_rfl
 t116:=by kernel_rfl
 a116:=fun _=>by kernel_rfl
 z116:=fun _=>by kernel_rfl
def chB : List Bool→D
 | []=>.bool false
 | [b]=>.bool b
 | b::l=>.pr (.bool b) (chB l)
theorem Ybr {W : GW} : ∀ {l : List Bool},l≠[]→D.At W (chB l) (l.map Value.bool)
 | [b],_=>rfl
 | b::c::l,_=>⟨[.bool b],(c::l).map Value.bool,rfl,rfl,Ybr (by simp)⟩
theorem Xm2 : ∀ {l : List Bool},l≠[]→(chB l).comps=l.map D.bool
 | [b],_=>rfl
 | b::c::l,_=>by
  show D.bool b::(chB (c::l)).comps=_
  rw [Xm2 (by simp)];rfl
def Ye7 : List UInt8:=[48,49,50,51,52,53,54,55,56,57]
def Yea : List Bool:=(List.range 256).map fun j=>Ye7.contains (UInt8.ofNat j)
theorem Xib : C0 95 [.d (.str Ye7)] (·=.tup (.pr (.d (.st (chB Yea))) (.b true))):=by
 refine ⟨⟨_,Tryz.func95,rfl,rfl⟩,fun W vs _ ha=>?_⟩
 match vs,ha with
 | [v],ha =>
  obtain ⟨rfl,_⟩:=Xo7 ha.1
  refine (Any.strings_makeASCIISet Yg7 (fun _=>by kernel_rfl) (by kernel_rfl) ⟨Ye7.toArray⟩ W.w (by decide) (by
   intro j b hj
   have hm : b∈Ye7:=W0m (by simpa using hj)
   have hall : ∀ x∈Ye7,x.toNat<128:=by decide
   exact hall b hm)).mono ?_
  rintro e w' ⟨rfl,hw⟩
  obtain ⟨W',hW,hE⟩:=Xkz (W:=W) (w':=w') (by rw [hw];exact (Below.refl _ _).alloc (W0b _) _)
  refine ⟨W',.tup (.pr (.d (.st (chB Yea))) (.b true)),_,rfl,hW,hE,?_,fun _ h=>h.elim id id,rfl⟩
  have hc : Lib.setCells Ye7=(Yea.map Value.bool).toArray:=by
   rw [Lib.setCells_eq]
   apply Array.ext'
   simp [Yea]
  refine ⟨[.agg (Lib.setCells Ye7),.bool true],rfl,⟨_,Ybr (l:=Yea) (by decide),?_⟩,⟨[.bool true],rfl,rfl⟩⟩
  rw [hc];rfl
end
section
theorem Xwd (b : UInt8) : Yea[b.toNat]?=some (Ye7.contains b):=by
 have hb:=UInt8.toNat_lt b
 unfold Yea
 rw [W1t,List.getElem?_range hb]
 simp
theorem Xk8 : Yea.length=256:=by unfold Yea;rw [W0r,List.length_range]
theorem Trim_ok {s : List UInt8} (hs : Tx s) : C0 99 [.d (.str s),.d (.str Ye7)] (·=.d (.str ((Xpm Ye7.contains s).dropWhile Ye7.contains))):=by
 refine En Tryz.func99 fun _ _ _=>?_
 refine By rfl (fun h=>?_) fun h=>?_
 · subst h;exact R1 rfl (.eq rfl)
 refine No rfl (by decide) ?_
 refine No rfl (by decide) ?_
 refine Ce rfl Xib ?_
 refine Yes rfl rfl ?_
 refine Va 7 5 900 256 (Yea.map D.bool) rfl (Xm2 (by decide)) (by intro x hx;obtain ⟨b,_,rfl⟩:=W3y.1 hx;rfl) (by rw [W0r,Xk8]) ?_
 refine Cn (args:=[.d (.str s),.ap 1000001 256]) [(1000001,900)] rfl (Xfy Xk8 Xwd hs) fun v hv=>?_
 subst hv
 have ht : Tx (Xpm Ye7.contains s):=by
  have h1 : (Xpm Ye7.contains s).length≤s.length:=by
   unfold Xpm;rw [List.length_reverse]
   exact W0h (List.Sublist.length_le (List.dropWhile_sublist _)) (by simp)
  exact W1n h1 hs
 refine Cn (args:=[.d (.str (Xpm Ye7.contains s)),.ap 1000001 256]) [(1000001,900)] rfl (Xgt Xk8 Xwd ht) fun v hv=>?_
 subst hv
 exact R1 rfl (.eq rfl)
end
end Go.Proofs.YtjcejnjhfcbafaaGreatDoor
namespace Go.Num
open Go.Proofs.YtjcejnjhfcbafaaGreatDoor
section
theorem Xv6 {f : UInt8→Bool} : ∀ {l : List UInt8},l.dropWhile f=[]↔l.all f=true
 | []=>by simp
 | x::l=>by
  rw [W3u,W6g]
  cases h : f x with
  | true=>simpa using Xv6 (l:=l)
  | false=>simp
theorem Xxl {f : UInt8→Bool} (s : List UInt8) : (Xpm f s).dropWhile f=[]↔s.all f=true:=by
 induction s using Xck with
 | h0=>simp [Xpm]
 | hs s x ih =>
  rw [Xhj,W4r]
  cases h : f x with
  | true=>rw [if_pos rfl,ih];simp [h]
  | false=>rw [if_neg (by simp),Xv6,W4r]
theorem Xzb (b : UInt8) : Ye7.contains b=isD b:=by
 have key : ∀ n : Fin 256,Ye7.contains (UInt8.ofNat n.val)=isD (UInt8.ofNat n.val):=by decide +kernel
 have:=key ⟨b.toNat,UInt8.toNat_lt b⟩
 simpa using this
theorem Xzc (s : List UInt8) : s.all Ye7.contains=s.all isD:=by
 congr 1
 funext b;exact Xzb b
theorem Yjr (s : List UInt8) : trL 48 s=[]↔z0 s=true:=by
 unfold trL z0;rw [Xv6]
theorem Ygf {s q : List UInt8} {ng : Bool} (hl : s.length≤400) (hs : s=sgB ng++q) (hn : ng=false→s.head?≠some 45) (h : (46 : UInt8) ∉ q) :
 prs s=if q=[]∨(1<q.length∧q.head?=some 48)∨q.all isD=false then none else if ng && z0 q then none else some (ng,q,[]):=by
 by_cases hd : q.all isD=true
 · rw [Xh3 (a:=q) (r:=[]) hl (by rw [W3a];exact hs) hn hd (fun x t e=>nomatch e)]
   simp only [hd,Bool.true_eq_false,or_false]
   rfl
 · rw [if_pos (.inr (.inr (by simpa using hd)))]
   have hq : q=q.takeWhile isD++q.dropWhile isD:=(W6e ..).symm
   obtain ⟨x,r,hr⟩ : ∃ x r,q.dropWhile isD=x::r:=by
    cases h : q.dropWhile isD with
    | nil=>exact absurd (Xv6.1 h) hd
    | cons x r=>exact ⟨x,r,rfl⟩
   have hx : isD x=false:=by
    have:=W7h isD q
    rw [hr] at this
    simpa using this
   have hx46 : x≠46:=fun e=>h (by rw [hq,hr,e];simp)
   rw [hr] at hq
   rw [Xh3 (a:=q.takeWhile isD) (r:=x::r) hl (by rw [←hq];exact hs) hn (Xs2 q) (fun y t e=>by cases e;exact hx)]
   split
   · rfl
   · show (if x=46∧_ then _ else none)=none
     rw [if_neg fun h=>hx46 h.1]
theorem Yge {s u t : List UInt8} {ng : Bool} (hl : s.length≤400) (hs : s=sgB ng++(u++46::t)) (hn : ng=false→s.head?≠some 45) (h : (46 : UInt8) ∉ u) :
 prs s=if u=[]∨t=[]∨(1<u.length∧u.head?=some 48)∨(u++t).all isD=false then none else if ng && z0 (u++t) then none else some (ng,u,t):=by
 by_cases hd : u.all isD=true
 · rw [Xh3 (a:=u) (r:=46::t) hl hs hn hd (fun x r e=>by cases e;decide)]
   by_cases hu : u=[]∨(1<u.length∧u.head?=some 48)
   · rw [if_pos hu,if_pos (hu.elim .inl fun h=>.inr (.inr (.inl h)))]
   · rw [if_neg hu]
     show (if (46 : UInt8)=46∧t≠[]∧t.all isD=true∧(ng && z0 (u++t))=false then some (ng,u,t) else none)=_
     rw [not_or] at hu
     by_cases ht : t=[]
     · rw [if_neg (fun h=>h.2.1 ht),if_pos (.inr (.inl ht))]
     · by_cases hta : t.all isD=true
       · rw [if_neg (c:=u=[]∨_) (by
          rintro (h | h | h | h)
          · exact hu.1 h
          · exact ht h
          · exact hu.2 h
          · rw [W4r,hd,hta] at h;cases h)]
         cases hz : (ng && z0 (u++t)) with
         | true=>simp
         | false=>simp [ht,hta]
       · rw [if_neg (fun h=>hta h.2.2.1),if_pos (.inr (.inr (.inr (by rw [W4r,hd];simpa using hta))))]
 · have hf : (u++t).all isD=false:=by
    rw [W4r]
    have : u.all isD=false:=by simpa using hd
    rw [this];rfl
   rw [if_pos (.inr (.inr (.inr hf)))]
   have hq : u=u.takeWhile isD++u.dropWhile isD:=(W6e ..).symm
   obtain ⟨x,r,hr⟩ : ∃ x r,u.dropWhile isD=x::r:=by
    cases h : u.dropWhile isD with
    | nil=>exact absurd (Xv6.1 h) hd
    | cons x r=>exact ⟨x,r,rfl⟩
   have hx : isD x=false:=by
    have:=W7h isD u
    rw [hr] at this
    simpa using this
   have hx46 : x≠46:=fun e=>h (by rw [hq,hr,e];simp)
   rw [hr] at hq
   rw [Xh3 (a:=u.takeWhile isD) (r:=x::(r++46::t)) hl (by rw [hs];congr 1;rw [←W4d,←W2q,←hq]) hn (Xs2 u) (fun y t e=>by cases e;exact hx)]
   split
   · rfl
   · show (if x=46∧_ then _ else none)=none
     rw [if_neg fun h=>hx46 h.1]
end
section
theorem Xqf {k m d : Nat} (hd : d<10) (hm : m<10 ^ (k+1)) : pad k (dec m)++[UInt8.ofNat (48+d)]=pad (k+1) (dec (10*m+d)):=by
 by_cases h0 : m=0
 · subst h0
   rw [show 10*0+d=d by omega,Xcg hd,Xcg (show 0<10 by decide)]
   show List.replicate (k+1 - 1) 48++[UInt8.ofNat (48+0)]++[UInt8.ofNat (48+d)]=List.replicate (k+1+1 - 1) 48++[UInt8.ofNat (48+d)]
   rw [show k+1+1 - 1=k+1 - 1+1 by omega,W5o]
   rfl
 · have e : dec (10*m+d)=dec m++[UInt8.ofNat (48+d)]:=by
    rw [Xd0 (show 10≤10*m+d by omega),show (10*m+d) / 10=m by omega,show (10*m+d) % 10=d by omega]
   rw [e]
   unfold pad
   rw [W0c,W4s,show k+1+1 - ((dec m).length+1)=k+1 - (dec m).length by omega,W2q]
theorem Xwf : ∀ (k n : Nat),10 ^ (k+1)≤n→dec n=dec (n / 10 ^ (k+1))++pad k (dec (n % 10 ^ (k+1)))
 | 0,n,h=>by
  have h : 10≤n:=h
  rw [Xd0 h]
  show _=dec (n / 10)++pad 0 (dec (n % 10))
  rw [Xcg (n:=n % 10) (W1x _ (by decide))]
  rfl
 | k+1,n,h=>by
  have e1 : 10 ^ (k+1+1)=10*10 ^ (k+1):=by rw [W0p];omega
  have hp : 0<10 ^ (k+1):=W6w (by decide)
  have h10 : 10≤n:=by omega
  have ih:=Xwf k (n / 10) (by rw [W7t (by decide)];omega)
  have hm : n / 10 % 10 ^ (k+1)<10 ^ (k+1):=W1x _ hp
  rw [Xd0 h10,ih,W2q,Xqf (W1x _ (by decide)) hm,W6n,←e1]
  congr 3
  have:=Nat.mod_mul (a:=10) (b:=10 ^ (k+1)) (x:=n)
  rw [e1,this];omega
def cks (n : Nat) : List Nat:=if h : n=0 then [] else n % 1000000000::cks (n / 1000000000)
termination_by n
decreasing_by omega
theorem Xeo : cks 0=[]:=by rw [cks,dif_pos rfl]
theorem Xe6 {n : Nat} (h : n≠0) : cks n=n % 1000000000::cks (n / 1000000000):=by rw [cks,dif_neg h]
theorem Yh9 : ∀ (n c : Nat),c∈cks n→c<1000000000:=fun n=>by
 induction n using Nat.strongRecOn with
 | _ n ih =>
  intro c hc
  by_cases h : n=0
  · subst h;rw [Xeo] at hc;cases hc
  · rw [Xe6 h,W1q] at hc
    rcases hc with rfl | hc
    · omega
    · exact ih _ (by omega) c hc
theorem Xwq : ∀ {k n : Nat},n<4294967296 ^ k→(cks n).length≤2*k
 | 0,n,h=>by
  have : n=0:=by simpa using h
  subst this;rw [Xeo];exact W0b _
 | k+1,n,h=>by
  by_cases h0 : n=0
  · subst h0;rw [Xeo];exact W1c _
  · rw [Xe6 h0]
    by_cases h1 : n / 1000000000=0
    · rw [h1,Xeo];simp;omega
    · rw [Xe6 h1]
      have:=Xwq (k:=k) (n:=n / 1000000000 / 1000000000) (by
       rw [W0p] at h
       rw [W6n,W2p (by decide)]
       refine W0t h (W0q _ (by decide)))
      simp only [W0n];omega
def Xyd : List Nat→List UInt8
 | []=>[]
 | [c]=>dec c
 | c::e::l=>Xyd (e::l)++pad 8 (dec c)
theorem Xyc : ∀ n,n≠0→Xyd (cks n)=dec n:=fun n=>by
 induction n using Nat.strongRecOn with
 | _ n ih =>
  intro h
  rw [Xe6 h]
  by_cases h2 : n / 1000000000=0
  · rw [h2,Xeo]
    show dec (n % 1000000000)=_
    congr 1;omega
  · have:=ih (n / 1000000000) (by omega) h2
    rw [Xe6 h2] at this ⊢
    show Xyd (n / 1000000000 % 1000000000::cks (n / 1000000000 / 1000000000))++pad 8 (dec (n % 1000000000))=_
    rw [this]
    exact (Xwf 8 n (by show 1000000000≤n;omega)).symm
theorem Xuj {c : Nat} {l : List Nat} (h : l≠[]) : Xyd (c::l)=Xyd l++pad 8 (dec c):=by
 cases l with
 | nil=>exact absurd rfl h
 | cons e l=>rfl
end
section
theorem Yhb : isD 46=false:=by decide
theorem Ymf {l : List UInt8} : l.all isD=true↔∀ b∈l,Xe9 b:=by
 rw [W1o]
 exact ⟨fun h b hb=>Ykp.1 (h b hb),fun h b hb=>Ykp.2 (h b hb)⟩
theorem Xuf {b : List UInt8} : Yiv (ptB b):=fun x t h=>by
 unfold ptB at h
 split at h
 · cases h
 · cases h;exact Yhb
theorem Yhj {s a r : List UInt8} (hs : s=a++r) (ha0 : a≠[]) (ha : a.all isD=true) : s.head?≠some 45:=by
 cases a with
 | nil=>exact absurd rfl ha0
 | cons x a =>
  rw [hs]
  intro h
  have h : x=45:=by simpa using h
  rw [h,W6g,W0d] at ha
  exact absurd ha.1 (by decide)
theorem Yaz {s a b : List UInt8} {ng : Bool} (hl : s.length≤400) (hs : s=sgB ng++(a++ptB b)) (ha0 : a≠[]) (h0 : ¬ (1<a.length∧a.head?=some 48)) (ha : a.all isD=true) (hb : b.all isD=true) (hz : (ng && z0 (a++b))=false) : prs s=some (ng,a,b):=by
 rw [Xh3 hl hs (fun hn=>Yhj (r:=ptB b) (by rw [hs,hn];rfl) ha0 ha) ha Xuf,if_neg (by rintro (h | h);exact ha0 h;exact h0 h)]
 by_cases hb0 : b=[]
 · subst hb0
   show (if (ng && z0 a)=true then none else some (ng,a,[]))=_
   rw [W3a] at hz
   rw [hz];rfl
 · rw [ptB,if_neg hb0]
   show (if (46 : UInt8)=46∧b≠[]∧b.all isD=true∧(ng && z0 (a++b))=false then some (ng,a,b) else none)=_
   rw [if_pos ⟨rfl,hb0,hb,hz⟩]
theorem Xug {s a b : List UInt8} {ng : Bool} (h : prs s=some (ng,a,b)) : ¬ (1<a.length∧a.head?=some 48)∧(ng && z0 (a++b))=false:=by
 obtain ⟨hl,hs,ha0,ha,hb⟩:=Xdq h
 rw [Xh3 hl hs (fun hn=>Yhj (r:=ptB b) (by rw [hs,hn];rfl) ha0 ha) ha Xuf] at h
 split at h
 · cases h
 · rename_i hc
   rw [not_or] at hc
   refine ⟨hc.2,?_⟩
   by_cases hb0 : b=[]
   · subst hb0
     have h : (if (ng && z0 a)=true then none else some (ng,a,[]))=some (ng,a,[]):=h
     rw [W3a]
     cases hz : (ng && z0 a) with
     | true=>rw [hz] at h;cases h
     | false=>rfl
   · rw [ptB,if_neg hb0] at h
     have h : (if (46 : UInt8)=46∧b≠[]∧b.all isD=true∧(ng && z0 (a++b))=false then some (ng,a,b) else none)=some (ng,a,b):=h
     split at h
     · rename_i h2;exact h2.2.2.2
     · cases h
theorem Xip {l : List UInt8} (h : z0 l=true) : Xbg l=0:=by
 induction l using Xck with
 | h0=>rfl
 | hs l x ih =>
  rw [Xfx,W0d,beq_iff_eq] at h
  rw [Xbw,ih h.1,h.2];rfl
theorem Yby {l : List UInt8} (hd : ∀ b∈l,Xe9 b) (h : Xbg l=0) : z0 l=true:=by
 induction l using Xck with
 | h0=>rfl
 | hs l x ih =>
  rw [Xbw] at h
  have hx:=hd x (by simp)
  unfold Xe9 at hx
  rw [Xfx,ih (fun b hb=>hd b (by simp [hb])) (by omega),W6f,beq_iff_eq]
  exact W5v.1 (by show x.toNat=48;omega)
theorem Xoy : ∀ (k : Nat) (l : List UInt8),l.length=k+1→(∀ b∈l,Xe9 b)→pad k (dec (Xbg l))=l:=fun k=>by
 induction k with
 | zero =>
  intro l hl hd
  match l,hl with
  | [x],_ =>
   have hx:=hd x (by simp)
   unfold Xe9 at hx
   rw [Xhd,Xcg (by omega)]
   show [UInt8.ofNat (48+(x.toNat - 48))]=[x]
   rw [show 48+(x.toNat - 48)=x.toNat by omega];simp
 | succ k ih =>
  intro l hl hd
  obtain ⟨m,x,rfl⟩ : ∃ m x,l=m++[x]:=⟨l.dropLast,l.getLast (by intro e;rw [e] at hl;simp at hl),(W6t _).symm⟩
  have hm : m.length=k+1:=by simpa using hl
  have hdm : ∀ b∈m,Xe9 b:=fun b hb=>hd b (by simp [hb])
  have hx:=hd x (by simp)
  unfold Xe9 at hx
  have h1:=Xiq hdm
  rw [hm] at h1
  rw [Xbw,←Xqf (by omega) h1,ih m hm hdm,show 48+(x.toNat - 48)=x.toNat by omega]
  simp
theorem Ygi {k : Nat} {a b : List UInt8} (ha0 : a≠[]) (h0 : ¬ (1<a.length∧a.head?=some 48)) (ha : ∀ x∈a,Xe9 x) (hb : ∀ x∈b,Xe9 x) (hk : b.length=k) : pad k (dec (Xbg (a++b)))=a++b:=by
 have hab : ∀ x∈a++b,Xe9 x:=fun x hx=>(W2u.1 hx).elim (ha x) (hb x)
 have hal : 0<a.length:=W4z.2 ha0
 by_cases h1 : a.length=1
 · exact Xoy k _ (by simp;omega) hab
 · obtain ⟨n,hn⟩ : ∃ n,a.length+b.length=n+1:=⟨a.length+b.length - 1,by omega⟩
   have hf:=Xoy n (a++b) (by simp;omega) hab
   have hlen : n+1≤(dec (Xbg (a++b))).length:=by
    refine Xdf n _ ?_
    cases a with
    | nil=>exact absurd rfl ha0
    | cons x a =>
     have hx:=ha x (by simp)
     unfold Xe9 at hx
     have hx48 : x≠48:=fun e=>h0 ⟨by show 1<a.length+1;have : ¬ a.length+1=1:=h1;omega,by rw [e];rfl⟩
     have hx2 : x.toNat≠48:=fun e=>hx48 (W5v.1 e)
     rw [show x::a++b=[x]++(a++b) from rfl,Xdu,Xhd]
     have e : (a++b).length=n:=by simp at hn ⊢;omega
     rw [e]
     have:=W0z (10 ^ n) (show 1≤x.toNat - 48 by omega)
     omega
   have e1 : pad n (dec (Xbg (a++b)))=dec (Xbg (a++b)):=by
    unfold pad;rw [show n+1 - (dec (Xbg (a++b))).length=0 by omega];rfl
   have e2 : pad k (dec (Xbg (a++b)))=dec (Xbg (a++b)):=by
    unfold pad;rw [show k+1 - (dec (Xbg (a++b))).length=0 by omega];rfl
   rw [e2,←e1,hf]
def frI (ng : Bool) (a b : List UInt8) : Int:=if ng then -(Xbg (a++b) : Int) else (Xbg (a++b) : Int)
theorem Yay {a b : List UInt8} : pt b.length (a++b)=a++ptB b:=by
 unfold pt ptB
 by_cases h : b=[]
 · subst h;simp
 · rw [if_neg (by intro e;exact h (W2g.1 e)),if_neg h]
   rw [show (a++b).length - b.length=a.length by simp]
   simp
theorem Yb4 {s a b : List UInt8} {ng : Bool} (h : prs s=some (ng,a,b)) : txt (frI ng a b) b.length=s:=by
 obtain ⟨hl,hs,ha0,ha,hb⟩:=Xdq h
 obtain ⟨h0,hz⟩:=Xug h
 have hda:=Ymf.1 ha
 have hdb:=Ymf.1 hb
 have hn : (frI ng a b).natAbs=Xbg (a++b):=by unfold frI;split <;> omega
 have hneg : (if frI ng a b<0 then [45] else ([] : List UInt8))=sgB ng:=by
  cases ng with
  | false =>
   have : ¬ frI false a b<0:=by show ¬ (Xbg (a++b) : Int)<0;omega
   rw [if_neg this];rfl
  | true =>
   have hz : z0 (a++b)=false:=hz
   have hp : Xbg (a++b)≠0:=fun e=>by
    rw [Yby (fun x hx=>(W2u.1 hx).elim (hda x) (hdb x)) e] at hz;cases hz
   have : frI true a b<0:=by show -(Xbg (a++b) : Int)<0;omega
   rw [if_pos this];rfl
 unfold txt
 rw [hn,hneg,Ygi ha0 h0 hda hdb rfl,Yay,hs]
theorem Xy8 (k n : Nat) : Xbg (pad k (dec n))=n:=by
 unfold pad
 rw [Xdu,Xip (l:=List.replicate _ 48) (by simp [z0]),W4t,W1k,Xy9]
theorem Ygj (k n : Nat) : ∀ b∈pad k (dec n),Xe9 b:=fun b hb=>by
 unfold pad at hb
 rcases W2u.1 hb with h | h
 · obtain rfl:=(W5d.1 h).2;unfold Xe9;decide
 · exact Xwg n b h
theorem Yh3 {n : Nat} (h : 0<n) : (dec n).head?≠some 48:=by
 induction n using Nat.strongRecOn with
 | _ n ih =>
  by_cases h10 : n<10
  · rw [Xcg h10]
    intro e
    have e : UInt8.ofNat (48+n)=48:=by simpa using e
    have:=congrArg UInt8.toNat e
    rw [dg h10] at this
    have : 48+n=48:=this
    omega
  · rw [Xd0 (by omega)]
    have:=ih (n / 10) (by omega) (by omega)
    cases hd : dec (n / 10) with
    | nil=>exact absurd hd (Xmu _)
    | cons x l=>rw [hd] at this;simpa using this
theorem Yc1 {z : Int} {k : Nat} (hl : (txt z k).length≤400) : ∃ a b,prs (txt z k)=some (decide (z<0),a,b)∧b.length=k∧Xbg (a++b)=z.natAbs∧txt z k=sgB (decide (z<0))++(a++ptB b)∧a≠[]∧a.all isD=true∧b.all isD=true:=by
 obtain ⟨P,hP⟩ : ∃ P,P=pad k (dec z.natAbs):=⟨_,rfl⟩
 have hPl : P.length=max (k+1) (dec z.natAbs).length:=by rw [hP];exact Xn5 ..
 have hPd : ∀ b∈P,Xe9 b:=by rw [hP];exact Ygj _ _
 have hPv : Xbg P=z.natAbs:=by rw [hP];exact Xy8 ..
 have hab : P.take (P.length - k)++P.drop (P.length - k)=P:=W3v ..
 obtain ⟨a,ha⟩ : ∃ a,a=P.take (P.length - k):=⟨_,rfl⟩
 obtain ⟨b,hb⟩ : ∃ b,b=P.drop (P.length - k):=⟨_,rfl⟩
 rw [←ha,←hb] at hab
 have hbl : b.length=k:=by rw [hb,W1p];omega
 have hal : a.length=P.length - k:=by rw [ha,W0k];omega
 have ha0 : a≠[]:=fun e=>by rw [e] at hal;simp at hal;omega
 have had : a.all isD=true:=Ymf.2 fun x hx=>hPd x (by rw [←hab];exact W2d _ hx)
 have hbd : b.all isD=true:=Ymf.2 fun x hx=>hPd x (by rw [←hab];exact W1j _ hx)
 have hs : txt z k=sgB (decide (z<0))++(a++ptB b):=by
  unfold txt
  rw [←hP,←Yay,hbl,hab]
  congr 1
  by_cases h : z<0 <;> simp [h,sgB]
 refine ⟨a,b,Yaz hl hs ha0 ?_ had hbd ?_,hbl,by rw [hab,hPv],hs,ha0,had,hbd⟩
 · rintro ⟨h1,h2⟩
   have hdl : k+1<(dec z.natAbs).length:=by omega
   have e : P=dec z.natAbs:=by
    rw [hP];unfold pad;rw [show k+1 - (dec z.natAbs).length=0 by omega];rfl
   have h3 : P.head?=some 48:=by
    rw [←hab]
    cases a with
    | nil=>exact absurd rfl ha0
    | cons x a=>simpa using h2
   have hz0 : 0<z.natAbs:=by
    rcases W2i z.natAbs with h | h
    · rw [h,Xcg (by decide)] at hdl;simp at hdl
    · exact h
   rw [e] at h3
   exact Yh3 hz0 h3
 · by_cases h : z<0
   · rw [decide_eq_true h,W6f,hab]
     cases hz : z0 P with
     | false=>rfl
     | true=>have:=Xip hz;omega
   · rw [decide_eq_false h];rfl
theorem Yb6 {c : UInt8} {u w : List UInt8} (h : trR c w≠[]) : trR c (u++w)=u++trR c w:=by
 unfold trR at *
 rw [W8d]
 have h : w.reverse.dropWhile (· == c)≠[]:=fun e=>h (by rw [e];rfl)
 rw [List.dropWhile_append]
 have h2 : (w.reverse.dropWhile (· == c)).isEmpty=false:=by
  cases hh : w.reverse.dropWhile (· == c) with
  | nil=>exact absurd hh h
  | cons x l=>rfl
 rw [h2];simp
theorem Xxm {x : UInt8} (hx : x≠48) (b : List UInt8) : trR 48 (x::b)=x::trR 48 b:=by
 induction b using Xck with
 | h0=>
  show (([x].reverse).dropWhile (· == 48)).reverse=[x]
  simp [W3u,hx]
 | hs b y ih =>
  rw [show x::(b++[y])=(x::b)++[y] from rfl,Xdi,Xdi]
  split
  · exact ih
  · rfl
theorem Yad (b : List UInt8) : ∃ n,b=trR 48 b++List.replicate n 48:=by
 induction b using Xck with
 | h0=>exact ⟨0,rfl⟩
 | hs b y ih =>
  rw [Xdi]
  split
  · rename_i h
    obtain ⟨n,hn⟩:=ih
    refine ⟨n+1,?_⟩
    rw [W5o,←W2q,←hn,h]
  · exact ⟨0,by simp⟩
theorem Yd7 (l : List UInt8) (n : Nat) : Xbg (l++List.replicate n 48)=Xbg l*10 ^ n:=by
 rw [Xdu,Xip (l:=List.replicate _ 48) (by simp [z0]),W1m];rfl
theorem Xes (n : Nat) : ((10 ^ n : Int) : Rat)≠0:=fun h=>by
 have : (10 ^ n : Int)=0:=Rat.intCast_inj.1 (by rw [h];rfl)
 have:=W6v (n:=10) (m:=n) (by decide)
 omega
theorem Ykt {ng : Bool} {a b b' : List UInt8} {n : Nat} (h : b=b'++List.replicate n 48) : fr ng a b=fr ng a b':=by
 have e1 : ((Xbg (a++b) : Int) : Rat) / ((10 ^ b.length : Int) : Rat)=((Xbg (a++b') : Int) : Rat) / ((10 ^ b'.length : Int) : Rat):=by
  subst h
  rw [←W2q,Yd7,W0c,W1m,W6x,W2w,W3c,W3c,show ((10 ^ n : Nat) : Int)=(10 ^ n : Int) by simp]
  have h1:=Xes n
  have h2:=Xes b'.length
  generalize ((10 ^ n : Int) : Rat)=p at *
  generalize ((10 ^ b'.length : Int) : Rat)=q at *
  rw [W6m,W6m,Rat.inv_mul_rev]
  grind
 unfold fr;rw [e1]
theorem Xij (ng : Bool) (a b : List UInt8) : fr ng a b=((frI ng a b : Int) : Rat) / ((10 ^ b.length : Int) : Rat):=by
 unfold fr frI
 split
 · rw [W7c,W6m,W6m,Rat.neg_mul]
 · rfl
end
end Go.Num
namespace Go.Proofs.YtjcejnjhfcbafaaGreatDoor
open Go Go.Num Go.Tow
abbrev scl (k : Nat) (t : Tw k) (a : El k) (u h : Rat) : El k:=add k (mul k t a (rat k u)) (rat k h)
section
variable {k : Nat} {t : Tw k} {a : El k}
theorem Xht (hR : Xbh k t) {q : Rat} (hq : 0<q) : sgn k t (mul k t a (rat k q))=sgn k t a:=by
 rw [(Xaw hR).sm,Xdl hR,Xby hq,W4u]
theorem Xqz (hR : Xbh k t) {u c d : Rat} (hu : 0<u) (hc : c*u=d) : le k t (rat k c) a↔le k t (rat k d) (mul k t a (rat k u)):=by
 have L:=Xa5 k t
 have e : add k (mul k t a (rat k u)) (neg k (rat k d))=mul k t (add k a (neg k (rat k c))) (rat k u):=by
  rw [L.dm,←Xc0,←Xc0,←Xb3,←hc,Rat.neg_mul]
 unfold le
 rw [e,Xht hR hu]
theorem Xq4 (hR : Xbh k t) {u c d : Rat} (hu : 0<u) (hc : c*u=d) : le k t a (rat k c)↔le k t (mul k t a (rat k u)) (rat k d):=by
 have L:=Xa5 k t
 have hn : ∀ x : El k,neg k (mul k t x (rat k u))=mul k t (neg k x) (rat k u):=fun x=>(L.nm x _).symm
 have e : add k (rat k d) (neg k (mul k t a (rat k u)))=mul k t (add k (rat k c) (neg k a)) (rat k u):=by
  rw [L.dm,hn,←Xb3,←hc]
 unfold le
 rw [e,Xht hR hu]
theorem Xlt {u : Rat} : toL k (mul k t a (rat k u))=(toL k a).map (u*·):=by rw [(Xa5 k t).mc,Xgz]
theorem Xfk {m n : Nat} {u : Rat} (ha : MgL m (toL k a)) (hu : Qs n u) : MgL (n+m) (toL k (mul k t a (rat k u))):=fun x hx=>by
 rw [Xlt] at hx
 obtain ⟨y,hy,rfl⟩:=W3y.1 hx
 exact hu.mul (ha y hy)
theorem Xu1 {n : Nat} {h : Rat} (hh : Qs n h) (h1 : 1≤n) : MgL n (toL k (rat k h)):=fun x hx=>by
 rw [Xca] at hx
 rcases W1q.1 hx with rfl | hx
 · exact hh
 · obtain rfl:=(W5d.1 hx).2
   exact Qs.int (z:=0) (by unfold Zs;exact W6w (by decide)) h1
theorem Xu2 {m n : Nat} {b : El k} (ha : MgL m (toL k a)) (hb : MgL n (toL k b)) : MgL (m+n+1) (toL k (add k a b)):=fun x hx=>by
 rw [Xat] at hx
 obtain ⟨i,hi⟩:=W2z hx
 rw [W5u] at hi
 split at hi
 · rename_i y z hy hz
   cases hi
   exact (ha y (W0m hy)).add (hb z (W0m hz))
 · cases hi
end
theorem Xsc {k : Nat} {t : Tw k} {a : El k} {z : Int} (hR : Xbh k t) {h : Rat} (hf : Xbo k t (add k a (rat k h)) z) : le k t (rat k ((z : Rat) - h)) a∧le k t a (rat k ((z : Rat)+1 - h)):=by
 have L:=Xa5 k t
 obtain ⟨h1,h2⟩:=hf
 have e1 : add k (add k a (rat k h)) (neg k (rat k (z : Rat)))=add k a (neg k (rat k ((z : Rat) - h))):=by
  rw [L.aa,←Xc0,←Xc0,←Xc1];congr 2;grind
 have e0 : ((1 : Int) : Rat)=1:=rfl
 have e2 : add k (add k a (rat k h)) (neg k (rat k ((z+1 : Int) : Rat)))=add k a (neg k (rat k ((z : Rat)+1 - h))):=by
  rw [L.aa,←Xc0,←Xc0,←Xc1,W4h,e0];congr 2;grind
 refine ⟨by unfold le at *;rwa [e1] at h1,?_⟩
 rw [e2] at h2
 have h3:=(Xqw hR).1 h2
 unfold le at *
 have e3 : add k (rat k ((z : Rat)+1 - h)) (neg k a)=neg k (add k a (neg k (rat k ((z : Rat)+1 - h)))):=by
  rw [L.nd,L.nn,L.ac]
 rw [e3,(Xaw hR).sn]
 omega
end Go.Proofs.YtjcejnjhfcbafaaGreatDoor
namespace Go.Proofs.YtjcejnjhfcbafaaGreatDoor.R1
open Go Go.Vm Go.Num Go.Proofs.YtjcejnjhfcbafaaGreatDoor
theorem Format_ok {z : Int} (hz : (dig z.natAbs).length≤549755813888) : C0 92 [.d (dz z)] (·=.d (.str (tx z))):=by
 have hlen:=Xis z.natAbs
 refine En Tryz.func92 fun _ _ _=>?_
 refine Ce rfl (Norm_ok (by omega)) ?_
 refine Lo (fun ((q,s) : Nat × List UInt8)=>[(1,.ptr 1 0),(3,.d (.str s)),(4,.d (ws (dig q)))]) (fun _=>[(1,.var (.d (dz z)))]) (fun (q,s)=>q≤z.natAbs∧(q≠0→dec z.natAbs=dec q++s)∧(q=0→s=if z=0 then [] else dec z.natAbs)) (fun (q,_)=>q) (z.natAbs,[]) [] rfl ⟨W0b _,fun _=>by simp,fun h=>by rw [if_pos (by omega)]⟩ ?_ (by exact ⟨rfl,rfl,rfl,rfl,rfl⟩)
 rintro ⟨q,s⟩ ⟨hq,h1,h2⟩
 have hdq : (dig q).length≤549755813888:=W0h (Xaq hq) hz
 refine By rfl (fun h=>?_) fun h=>?_ <;> simp only [lw] at h
 · have hq0 : q≠0:=fun e=>by rw [e,Xaj] at h;simp at h
   have h1:=h1 hq0
   refine Ce rfl (Yib (y:=10) hdq (by decide) (by decide)) ?_
   have hm : q % 10<10:=W1x _ (by decide)
   refine Ar ((48+q % 10 : Nat) : Int) rfl ?_ (wr (by omega) (by simp only [inK];omega))
   refine Cv (48+q % 10 : Nat) rfl ?_ (wr (by omega) (by simp only [inK];omega))
   refine Bs [UInt8.ofNat (48+q % 10)] rfl rfl ?_
   have hsl : s.length<(dec z.natAbs).length:=by rw [h1,W0c];have:=Xk9 q;omega
   refine Sc (UInt8.ofNat (48+q % 10)::s) rfl rfl (by simp;omega) ?_
   refine Bk (q / 10,UInt8.ofNat (48+q % 10)::s) [] rfl ⟨by omega,fun h3=>?_,fun h3=>?_⟩ (by show q / 10<q;omega) (by exact ⟨rfl,rfl,rfl,rfl,rfl⟩)
   · rw [h1,Xd0 (n:=q) (by omega)];simp
   · rw [h1,if_neg (by omega),Xcg (n:=q) (by omega),W3r (by omega)];rfl
 · have hq0 : q=0:=Xsf.1 (W0l (by omega))
   subst hq0
   have h2:=h2 rfl
   refine By rfl (fun h3=>?_) fun h3=>?_
   · refine R1 rfl (.eq ?_)
     have hz0 : z=0:=W0v fun hz0=>by
      rw [if_neg hz0] at h2;exact Xmu _ (h2.symm.trans h3)
     subst hz0
     rw [tx,if_neg (by decide),Xcg (by decide)];rfl
   · have hz0 : z≠0:=fun e=>h3 (by rw [h2,if_pos e])
     rw [if_neg hz0] at h2
     subst h2
     refine By rfl (fun h4=>?_) fun h4=>?_
     · refine Sc (45::dec z.natAbs) rfl rfl (by simp;omega) ?_
       refine R1 rfl (.eq ?_)
       rw [tx,if_pos (by simpa using h4)];rfl
     · refine R1 rfl (.eq ?_)
       rw [tx,if_neg (by simpa using h4)];rfl
end Go.Proofs.YtjcejnjhfcbafaaGreatDoor.R1
namespace Go.Proofs.YtjcejnjhfcbafaaGreatDoor.R11
open Go Go.Vm Go.Num Go.Proofs.YtjcejnjhfcbafaaGreatDoor
section
theorem Xs0 {z : Int} (h : z<0) : tx z=45::dec z.natAbs:=by rw [tx,if_pos h];rfl
theorem Xsz {z : Int} (h : ¬ z<0) : tx z=dec z.natAbs:=by rw [tx,if_neg h];rfl
theorem Yev {z : Int} {k : Nat} (hz : (dig z.natAbs).length≤549755813888) (hk : k≤1000) : C0 38 [.d (dz z),.d (.int .i64 k)] (·=.d (.str (txt z k))):=by
 have hlen:=Xis z.natAbs
 have hpl:=Xn5 k (dec z.natAbs)
 have hdp:=Xk9 z.natAbs
 obtain ⟨d,hd⟩ : ∃ d,d=dec z.natAbs:=⟨_,rfl⟩
 rw [←hd] at hlen hpl hdp
 obtain ⟨s,hs⟩ : ∃ s,s=tx z:=⟨_,rfl⟩
 obtain ⟨sg,hsg⟩ : ∃ sg : List UInt8,sg=if z<0 then [45] else []:=⟨_,rfl⟩
 have hsl : sg.length≤1:=by rw [hsg];split <;> simp
 have hss : s=sg++d:=by rw [hs,hsg,hd];rfl
 obtain ⟨x,hx⟩ : ∃ x,s[0]?=some x:=⟨_,W0e (by rw [hss];simp;omega)⟩
 refine En Tryz.func38 fun _ _ _=>?_
 refine Ce rfl (show C0 _ _ (·=.d (.str s)) by rw [hs];exact R1.Format_ok hz) ?_
 refine Yx 0 x rfl hx ?_
 refine Cu none (fun (_ : Unit)=>[(1,.d (.int .i64 k)),(5,.d (.str d)),(6,.d (.str sg))]) (fun _=>[]) (fun _=>True) rfl ?_ fun _ _=>?_
 · refine By rfl (fun h=>?_) fun h=>?_
   · have hneg : z<0:=W0v fun hn=>by
      rw [if_neg hn] at hsg
      rw [hss,hsg,hd] at hx
      have:=(Xwg z.natAbs x (W0m hx)).1
      omega
     rw [if_pos hneg] at hsg
     subst hsg
     refine Dw rfl ?_
     refine Sdp 1 d rfl (by rw [hss];simp) (by rw [hss];rfl) ?_
     exact Jn () [] rfl trivial
   · have hpos : ¬ z<0:=fun hn=>h (by
      rw [if_pos hn] at hsg
      rw [hss,hsg] at hx
      have : x=45:=by simpa using hx.symm
      rw [this];rfl)
     rw [if_neg hpos] at hsg
     subst hsg
     clear hs
     subst hss
     exact Jn () [] rfl trivial
 have hdig:=hlen
 refine Lo (fun (j : Nat)=>[(1,.d (.int .i64 k)),(5,.d (.str (List.replicate j 48++d))),(6,.d (.str sg))]) (fun _=>[]) (fun j=>j≤k+1 - d.length) (fun j=>k+1 - d.length - j) 0 [] rfl (W1c _) ?_ (by exact ⟨rfl,rfl,rfl,rfl,rfl⟩)
 intro j hj
 have hl : (List.replicate j (48 : UInt8)++d).length=j+d.length:=by simp
 refine By rfl (fun h=>?_) fun h=>?_ <;> rw [hl] at h
 · refine Sc (List.replicate (j+1) 48++d) rfl (by simp [W3t]) (by rw [hl];simp;omega) ?_
   exact Bk (j+1) [] rfl (by omega) (by omega) (by exact ⟨rfl,rfl,rfl,rfl,rfl⟩)
 · have hje : j=k+1 - d.length:=by omega
   subst hje
   have hp : List.replicate (k+1 - d.length) 48++d=pad k d:=rfl
   obtain ⟨q,hq⟩ : ∃ q,q=pad k d:=⟨_,rfl⟩
   rw [hp,←hq] at hl ⊢
   rw [←hq] at hpl
   refine By rfl (fun h0=>?_) fun h0=>?_
   · refine Sc (sg++q) rfl rfl (by omega) ?_
     refine R1 rfl (.eq ?_)
     have : k=0:=by omega
     subst this
     rw [txt,←hsg,←hd,←hq,pt,if_pos rfl]
   · refine Ar ((q.length - k : Nat) : Int) rfl ?_
     refine Dw rfl ?_
     refine Stk (q.length - k) _ rfl (by omega) rfl ?_
     refine Sc (sg++q.take (q.length - k)) rfl rfl (by simp;omega) ?_
     refine Sc (sg++q.take (q.length - k)++[46]) rfl rfl (by simp;omega) ?_
     refine Sdp (q.length - k) _ rfl (by omega) rfl ?_
     refine Sc (sg++q.take (q.length - k)++[46]++q.drop (q.length - k)) rfl rfl (by simp;omega) ?_
     refine R1 rfl (.eq ?_)
     rw [txt,←hsg,←hd,←hq,pt,if_neg (by omega)]
     simp
end
section
theorem Xfv {s : List UInt8} (hs : Tx s) : C0 28 [.d (.str s)] (·=.d (.int .i64 (plc s))):=by
 refine En Tryz.func28 fun _ _ _=>?_
 refine By rfl (fun h=>?_) fun h=>?_
 · refine R1 rfl (.eq ?_)
   unfold plc prs;rw [if_pos (by omega)]
 have h400 : s.length≤400:=by omega
 refine Cu (some 4) (fun (ng : Bool)=>[(0,.d (.str s)),(3,.d (.int .i64 0)),(19,.b ng)]) (fun _=>[]) (fun ng=>(∃ r,s=sgB ng++r)∧(ng=false→s.head?≠some 45)) rfl ?_ ?_
 · refine By rfl (fun h0=>?_) fun h0=>?_
   · obtain ⟨x,t,hx⟩ : ∃ x t,s=x::t:=by
      cases s with
      | nil=>simp at h0
      | cons x t=>exact ⟨x,t,rfl⟩
     refine Yx 0 x rfl (by rw [hx];rfl) ?_
     by_cases h1 : x=45
     · refine Jn true [] rfl ⟨⟨t,by rw [hx,h1];rfl⟩,nofun⟩ (by exact ⟨by rw [show dc ((x.toNat : Int)=45)=true from Xau.2 (by rw [h1];rfl)];rfl,rfl,rfl,rfl,rfl⟩)
     · refine Jn false [] rfl ⟨⟨s,rfl⟩,fun _ e=>by rw [hx] at e;injection e with e;exact h1 e⟩ (by exact ⟨by rw [show dc ((x.toNat : Int)=45)=false from W3e.2 fun e=>h1 (Xer (Xau.1 e))];rfl,rfl,rfl,rfl,rfl⟩)
   · refine Jn false [] rfl ⟨⟨s,rfl⟩,fun _ e=>?_⟩
     cases s with
     | nil=>cases e
     | cons x t=>simp at h0
 rintro ng ⟨hq,hng⟩
 refine Cu none (fun (_ : Unit)=>[(0,.d (.str s)),(3,.d (.int .i64 (sgB ng).length))]) (fun _=>[]) (fun _=>True) rfl ?_ ?_
 · cases ng with
   | true =>
    refine Yes rfl rfl ?_
    refine Ar 1 rfl ?_
    exact Jn () [] rfl trivial
   | false =>
    refine No rfl nofun ?_
    exact Jn () [] rfl trivial
 intro _ _
 obtain ⟨q,hq⟩:=hq
 have hsl : (sgB ng).length≤1:=by unfold sgB;split <;> simp
 refine Cu (some 1000000) (fun ((a,r,zb) : List UInt8 × List UInt8 × Bool)=>[(0,.d (.str s)),(3,.d (.int .i64 ((sgB ng).length+a.length : Nat))),(4,.d (.int .i64 (sgB ng).length)),(5,.b zb)]) (fun _=>[]) (fun (a,r,zb)=>s=sgB ng++(a++r)∧a.all isD=true∧zb=z0 a∧Yiv r) rfl ?_ ?_
 · refine Lo (fun ((a,r,zb) : List UInt8 × List UInt8 × Bool)=>[(0,.d (.str s)),(3,.d (.int .i64 ((sgB ng).length+a.length : Nat))),(4,.d (.int .i64 (sgB ng).length)),(5,.b zb)]) (fun _=>[]) (fun (a,r,zb)=>s=sgB ng++(a++r)∧a.all isD=true∧zb=z0 a) (fun (_,r,_)=>r.length) ([],q,true) [] rfl ⟨hq,rfl,rfl⟩ ?_ (by exact ⟨rfl,rfl,rfl,rfl,rfl⟩)
   rintro ⟨a,r,zb⟩ ⟨hsr,had,hzb⟩
   have hlen : s.length=(sgB ng).length+(a.length+r.length):=by rw [hsr];simp
   cases r with
   | nil =>
    simp only [W3l] at hlen
    refine No rfl (by omega) ?_
    exact Jn (a,[],zb) [] rfl ⟨hsr,had,hzb,fun x t e=>by cases e⟩
   | cons x t =>
    simp only [W0n] at hlen
    have hx : s[(sgB ng).length+a.length]?=some x:=by
     rw [hsr,W0j (by omega),W3f,W0j (W0b _),W2m];rfl
    refine Yes rfl (by omega) ?_
    refine Yx ((sgB ng).length+a.length) x rfl hx ?_
    refine By rfl (fun h1=>?_) fun h1=>?_
    · refine Yx ((sgB ng).length+a.length) x rfl hx ?_
      refine By rfl (fun h2=>?_) fun h2=>?_
      · have hxd : isD x=true:=Ykp.2 ⟨by omega,by omega⟩
        have had' : (a++[x]).all isD=true:=by simp [had,hxd]
        have hsr' : s=sgB ng++((a++[x])++t):=by rw [hsr];simp
        have hl' : (a++[x]).length=a.length+1:=by simp
        refine By rfl (fun h3=>?_) fun h3=>?_
        · refine Yx ((sgB ng).length+a.length) x rfl hx ?_
          refine Ar ((sgB ng).length+(a++[x]).length : Nat) rfl ?_
          refine Bk (a++[x],t,dc ((x.toNat : Int)=48)) [] rfl ⟨hsr',had',?_⟩ (by show t.length<t.length+1;omega) (by exact ⟨rfl,rfl,rfl,rfl,rfl⟩)
          rw [Xfx,←hzb,h3,W6f]
          exact W4p.2 (Xau.trans ⟨fun e=>beq_iff_eq.2 (Xer e),fun e=>by rw [beq_iff_eq.1 e];rfl⟩)
        · refine Ar ((sgB ng).length+(a++[x]).length : Nat) rfl ?_
          refine Bk (a++[x],t,false) [] rfl ⟨hsr',had',?_⟩ (by show t.length<t.length+1;omega) (by exact ⟨rfl,rfl,rfl,rfl,rfl⟩)
          rw [Xfx,←hzb,W3e.2 h3,W8e]
      · exact Jn (a,x::t,zb) [] rfl ⟨hsr,had,hzb,fun y u e=>by cases e;exact W3e.2 fun e=>h2 (by have:=(Ykp.1 e).2;omega)⟩
    · exact Jn (a,x::t,zb) [] rfl ⟨hsr,had,hzb,fun y u e=>by cases e;exact W3e.2 fun e=>h1 (by have:=(Ykp.1 e).1;omega)⟩
 rintro ⟨a,r,zb⟩ ⟨hsr,had,hzb,hend⟩
 have hlen : s.length=(sgB ng).length+(a.length+r.length):=by rw [hsr];simp
 have hpr:=Xh3 h400 hsr hng had hend
 refine Cu (some 11) (fun (bad : Bool)=>[(0,.d (.str s)),(3,.d (.int .i64 ((sgB ng).length+a.length : Nat))),(4,.d (.int .i64 (sgB ng).length)),(5,.b zb),(62,.b bad)]) (fun _=>[]) (fun bad=>bad=true↔(a=[]∨(1<a.length∧a.head?=some 48))) rfl ?_ ?_
 · refine By rfl (fun h1=>?_) fun h1=>?_
   · exact Jn true [] rfl ⟨fun _=>.inl (W2g.1 (by omega)),fun _=>rfl⟩
   · have ha0 : a≠[]:=fun e=>h1 (by rw [e];simp)
     refine Ar ((sgB ng).length+1 : Nat) rfl ?_
     refine By rfl (fun h2=>?_) fun h2=>?_
     · obtain ⟨x,t,hx⟩ : ∃ x t,a=x::t:=by
        cases a with
        | nil=>exact absurd rfl ha0
        | cons x t=>exact ⟨x,t,rfl⟩
       refine Yx (sgB ng).length x rfl (by rw [hsr,W0j (W0b _),W2m,hx];rfl) ?_
       refine Jn (dc ((x.toNat : Int)=48)) [] rfl (Xau.trans ⟨fun e=>.inr ⟨by omega,by rw [hx,show x=48 from Xer e];rfl⟩,fun e=>?_⟩)
       rcases e with e | ⟨_,e⟩
       · exact absurd e ha0
       · rw [hx] at e;injection e with e;rw [e];rfl
     · exact Jn false [] rfl ⟨nofun,fun e=>e.elim (fun e=>absurd e ha0) fun e=>absurd e.1 (by omega)⟩
 intro bad hbad
 refine By rfl (fun h1=>?_) fun h1=>?_
 · refine R1 rfl (.eq ?_)
   unfold plc
   rw [hpr,if_pos (hbad.1 h1)]
 rw [if_neg fun e=>h1 (hbad.2 e)] at hpr
 have ha0 : a≠[]:=fun e=>h1 (hbad.2 (.inl e))
 obtain ⟨x0,hx0,hx45⟩ : ∃ x0,s[0]?=some x0∧(x0=45↔ng=true):=by
  cases ng with
  | true=>exact ⟨45,by rw [hsr];rfl,by simp⟩
  | false =>
   cases hs0 : s with
   | nil=>rw [hs0] at hsr;cases a with
    | nil=>exact absurd rfl ha0
    | cons y a=>cases hsr
   | cons y t =>
    refine ⟨y,rfl,fun e=>?_,nofun⟩
    have:=hng rfl
    rw [hs0,e] at this
    exact absurd rfl this
 have hfin : ∀ (zz : Bool),(zz=true∧(x0.toNat : Int)=45)↔(ng && zz)=true:=fun zz=>by
  rw [W0d]
  exact ⟨fun ⟨h1,h2⟩=>⟨hx45.1 (Xer h2),h1⟩,fun ⟨h1,h2⟩=>⟨h2,by rw [hx45.2 h1];rfl⟩⟩
 cases r with
 | nil =>
  simp only [W3l] at hlen
  refine No rfl (by omega) ?_
  refine No rfl (by omega) ?_
  refine By rfl (fun h2=>?_) fun h2=>?_
  · refine Yx 0 x0 rfl hx0 ?_
    refine By rfl (fun h3=>?_) fun h3=>?_
    · refine R1 rfl (.eq ?_)
      unfold plc
      rw [hpr,prT,←hzb,if_pos ((hfin zb).1 ⟨h2,h3⟩)]
    · refine R1 rfl (.eq ?_)
      unfold plc
      rw [hpr,prT,←hzb,if_neg fun e=>h3 ((hfin zb).2 e).2];rfl
  · refine R1 rfl (.eq ?_)
    unfold plc
    rw [hpr,prT,←hzb,if_neg fun e=>h2 ((hfin zb).2 e).1];rfl
 | cons x t =>
  simp only [W0n] at hlen
  have hx : s[(sgB ng).length+a.length]?=some x:=by
   rw [hsr,W0j (by omega),W3f,W0j (W0b _),W2m];rfl
  refine Yes rfl (by omega) ?_
  refine Yx ((sgB ng).length+a.length) x rfl hx ?_
  refine By rfl (fun h2=>?_) fun h2=>?_
  · have hx46 : x=46:=Xer h2
    refine Ar ((sgB ng).length+a.length+1 : Nat) rfl ?_
    subst hx46
    refine Cu (some 1000002) (fun ((b,r,z) : List UInt8 × List UInt8 × Bool)=>[(0,.d (.str s)),(3,.d (.int .i64 ((sgB ng).length+a.length+1+b.length : Nat))),(5,.b z),(6,.d (.int .i64 b.length))]) (fun _=>[]) (fun (b,r,z)=>t=b++r∧b.all isD=true∧z=z0 (a++b)∧Yiv r) rfl ?_ ?_
    · refine Lo (fun ((b,r,z) : List UInt8 × List UInt8 × Bool)=>[(0,.d (.str s)),(3,.d (.int .i64 ((sgB ng).length+a.length+1+b.length : Nat))),(5,.b z),(6,.d (.int .i64 b.length))]) (fun _=>[]) (fun (b,r,z)=>t=b++r∧b.all isD=true∧z=z0 (a++b)) (fun (_,r,_)=>r.length) ([],t,zb) [] rfl ⟨rfl,rfl,by rw [W3a];exact hzb⟩ ?_ (by exact ⟨rfl,rfl,rfl,rfl,rfl⟩)
      rintro ⟨b,r,z⟩ ⟨hbr,hbd,hz⟩
      have hlt : t.length=b.length+r.length:=by rw [hbr];simp
      cases r with
      | nil =>
       simp only [W3l] at hlt
       refine No rfl (by omega) ?_
       exact Jn (b,[],z) [] rfl ⟨hbr,hbd,hz,fun x t e=>by cases e⟩
      | cons x r =>
       simp only [W0n] at hlt
       have hx : s[(sgB ng).length+a.length+1+b.length]?=some x:=by
        rw [hsr,W0j (by omega),W0j (by omega),show (sgB ng).length+a.length+1+b.length - (sgB ng).length - a.length=b.length+1 by omega,List.getElem?_cons_succ,hbr,W0j (W0b _),W2m];rfl
       refine Yes rfl (by omega) ?_
       refine Yx ((sgB ng).length+a.length+1+b.length) x rfl hx ?_
       refine By rfl (fun h1=>?_) fun h1=>?_
       · refine Yx ((sgB ng).length+a.length+1+b.length) x rfl hx ?_
         refine By rfl (fun h2=>?_) fun h2=>?_
         · have hxd : isD x=true:=Ykp.2 ⟨by omega,by omega⟩
           have hbd' : (b++[x]).all isD=true:=by simp [hbd,hxd]
           have hbr' : t=(b++[x])++r:=by rw [hbr];simp
           have hl' : (b++[x]).length=b.length+1:=by simp
           refine By rfl (fun h3=>?_) fun h3=>?_
           · refine Yx ((sgB ng).length+a.length+1+b.length) x rfl hx ?_
             refine Ar ((sgB ng).length+a.length+1+(b++[x]).length : Nat) rfl ?_
             refine Ar ((b++[x]).length : Nat) rfl ?_
             refine Bk (b++[x],r,dc ((x.toNat : Int)=48)) [] rfl ⟨hbr',hbd',?_⟩ (by show r.length<r.length+1;omega) (by exact ⟨rfl,rfl,rfl,rfl,rfl⟩)
             rw [←W2q,Xfx,←hz,h3,W6f]
             exact W4p.2 (Xau.trans ⟨fun e=>beq_iff_eq.2 (Xer e),fun e=>by rw [beq_iff_eq.1 e];rfl⟩)
           · refine Ar ((sgB ng).length+a.length+1+(b++[x]).length : Nat) rfl ?_
             refine Ar ((b++[x]).length : Nat) rfl ?_
             refine Bk (b++[x],r,false) [] rfl ⟨hbr',hbd',?_⟩ (by show r.length<r.length+1;omega) (by exact ⟨rfl,rfl,rfl,rfl,rfl⟩)
             rw [←W2q,Xfx,←hz,W3e.2 h3,W8e]
         · exact Jn (b,x::r,z) [] rfl ⟨hbr,hbd,hz,fun y u e=>by cases e;exact W3e.2 fun e=>h2 (by have:=(Ykp.1 e).2;omega)⟩
       · exact Jn (b,x::r,z) [] rfl ⟨hbr,hbd,hz,fun y u e=>by cases e;exact W3e.2 fun e=>h1 (by have:=(Ykp.1 e).1;omega)⟩
    rintro ⟨b,r,z⟩ ⟨hbr,hbd,hz,hend2⟩
    have hlt : t.length=b.length+r.length:=by rw [hbr];simp
    have hall : r≠[]→¬ (t≠[]∧t.all isD=true):=fun hr ⟨_,h⟩=>by
     cases r with
     | nil=>exact hr rfl
     | cons y r =>
      rw [hbr,W4r,W0d,W6g,W0d,hend2 y r rfl] at h
      cases h.2.1
    refine By rfl (fun h3=>?_) fun h3=>?_
    · refine R1 rfl (.eq ?_)
      have hb : b=[]:=W2g.1 (by omega)
      unfold plc
      rw [hpr,prT,if_neg fun e=>?_]
      cases hr : r with
      | nil=>rw [hb,hr] at hbr;exact e.2.1 hbr
      | cons y u=>exact hall (by rw [hr];nofun) ⟨e.2.1,e.2.2.1⟩
    · cases hr : r with
      | cons y u =>
       rw [hr] at hlt
       simp only [W0n] at hlt
       refine Yes rfl (by omega) ?_
       refine R1 rfl (.eq ?_)
       unfold plc
       rw [hpr,prT,if_neg fun e=>hall (by rw [hr];nofun) ⟨e.2.1,e.2.2.1⟩]
      | nil =>
       rw [hr] at hlt
       simp only [W3l] at hlt
       have htb : t=b:=by rw [hbr,hr,W3a]
       refine No rfl (by omega) ?_
       have hall2 : (t≠[]∧t.all isD=true):=⟨fun e=>by rw [←htb,e] at h3;exact h3 rfl,by rw [htb];exact hbd⟩
       have hfin2:=hfin z
       rw [hz,←htb] at hfin2
       refine By rfl (fun h4=>?_) fun h4=>?_
       · refine Yx 0 x0 rfl hx0 ?_
         refine By rfl (fun h5=>?_) fun h5=>?_
         · refine R1 rfl (.eq ?_)
           unfold plc
           rw [hpr,prT,if_neg fun e=>by
            have:=hfin2.1 ⟨by rw [htb,←hz];exact h4,h5⟩
            rw [e.2.2.2] at this;cases this]
         · refine R1 rfl (.eq ?_)
           unfold plc
           rw [hpr,prT,if_pos ⟨rfl,hall2.1,hall2.2,W3e.2 fun e=>h5 (hfin2.2 e).2⟩,htb]
       · refine R1 rfl (.eq ?_)
         unfold plc
         rw [hpr,prT,if_pos ⟨rfl,hall2.1,hall2.2,W3e.2 fun e=>h4 (by have:=(hfin2.2 e).1;rw [hz,←htb];exact this)⟩,htb]
  · refine Yes rfl (by omega) ?_
    refine R1 rfl (.eq ?_)
    unfold plc
    rw [hpr,prT,if_neg fun e=>h2 (by rw [e.1];rfl)]
end
section
theorem p10 (n : Nat) : Zs (4*n+1) (10 ^ n : Int):=by
 have : (10 ^ n : Int)=((10 ^ n : Nat) : Int):=by simp
 rw [this]
 show 10 ^ n<2 ^ (4*n+1)
 have h1 : 10 ^ n≤16 ^ n:=W6d (by decide) n
 have h2 : 2 ^ (4*n+1)=16 ^ n*2:=by rw [W0p,W5j]
 have h3 : 0<16 ^ n:=W6w (by decide)
 omega
theorem di1 (n : Int) : Rat.divInt n 1=(n : Rat):=by
 rw [W3h]
 have : ((1 : Int) : Rat)=1:=rfl
 grind
def pw (b : Nat) : Rat:=((2 ^ b : Int) : Rat)
theorem Xcn {n : Nat} (hn : n≤400) : C0 52 [.d (.int .i64 n)] (·=.d (dq ((10 ^ n : Int) : Rat))):=by
 refine En Tryz.func52 fun _ _ _=>?_
 refine Ce rfl (R1.FromInt_ok (z:=10) (by decide)) ?_
 refine Ce rfl (R1.Pow_ok (z:=10) (q:=4) (by unfold Zs;decide) (by omega) (by decide)) ?_
 refine Dw rfl ?_
 refine Ce rfl (R1.FromInt_ok (z:=1) (by decide)) ?_
 refine Ce rfl (R2.Make_ok (p:=4*n+1) (p10 n) (Zs.one (by omega)) (by omega) (by decide)) ?_
 exact R1 rfl (.eq (by rw [di1]))
def dq0 : D:=.st (.pr (dS false []) (dS false []))
theorem Parse_no {s : List UInt8} (hs : Tx s) (h : prs s=none) : C0 26 [.d (.str s)] (·=.tup (.pr (.d dq0) (.d (.int .i64 2)))):=by
 have hp : plc s=-1:=by unfold plc;rw [h]
 refine En Tryz.func26 fun _ _ _=>?_
 refine Ce rfl (show C0 _ _ (·=.d (.int .i64 (-1))) by rw [←hp];exact Xfv hs) ?_
 refine Yes rfl (by decide) ?_
 refine RTt rfl (.cons (.sd (.pd (.sd (.pd (.bd rfl) (.nil rfl))) (.sd (.pd (.bd rfl) (.nil rfl))))) (.one (.rf rfl) (fun _ _ e=>by cases e) (fun _ _ e=>by cases e)))
theorem Ym8 {s a r : List UInt8} {ng : Bool} (hsr : s=sgB ng++(a++r)) (ha0 : a≠[]) (had : a.all isD=true) : ∃ x0,s[0]?=some x0∧(x0=45↔ng=true):=by
 cases ng with
 | true=>exact ⟨45,by rw [hsr];rfl,by simp⟩
 | false =>
  cases a with
  | nil=>exact absurd rfl ha0
  | cons y a =>
   refine ⟨y,by rw [hsr];rfl,fun e=>?_,nofun⟩
   rw [e,W6g,W0d] at had
   exact absurd had.1 (by decide)
theorem Qn {n i : Nat} (hn : n<10 ^ i) (hi : i≤400) : Qs 1601 ((n : Int) : Rat):=by
 have:=p10 i
 have e : (10 ^ i : Int)=((10 ^ i : Nat) : Int):=by simp
 rw [e] at this
 have h1 : Zs (4*i+1) (n : Int):=Nat.lt_trans hn this
 exact Qs.int (h1.mono (by omega)) (by decide)
theorem Parse_yes {s a b : List UInt8} {ng : Bool} (hs : Tx s) (h : prs s=some (ng,a,b)) : C0 26 [.d (.str s)] (·=.tup (.pr (.d (dq (fr ng a b))) (.d (.int .i64 0)))):=by
 obtain ⟨h400,hsr,ha0,had,hbd⟩:=Xdq h
 have hp : plc s=(b.length : Int):=by unfold plc;rw [h]
 have hbl : b.length≤s.length:=by rw [hsr];unfold ptB;split <;> simp_all <;> omega
 obtain ⟨pt,hfold⟩:=Xyt hsr had hbd
 refine En Tryz.func26 fun _ _ _=>?_
 refine Ce rfl (show C0 _ _ (·=.d (.int .i64 (b.length : Int))) by rw [←hp];exact Xfv hs) ?_
 refine No rfl (by omega) ?_
 refine Ce rfl (R2.FromInt_ok (z:=0) (by decide)) ?_
 refine Lo (fun ((i,n,p,pt) : Nat × Nat × Nat × Bool)=>[(0,.d (.str s)),(2,.ptr 2 0),(4,.ptr 4 0),(5,.d (.int .i64 p)),(6,.b pt),(7,.d (.int .i64 i))]) (fun (i,n,p,pt)=>[(4,.var (.d (dq ((n : Int) : Rat)))),(2,.var (.st (.pr (.st (.pr (.b false) .nil)) (.st (.pr (.b false) .nil)))))])
  (fun (i,n,p,pt)=>i≤s.length∧p≤i∧n<10 ^ i∧(s.take i).foldl stp (0,0,false)=(n,p,pt)) (fun (i,_)=>s.length - i) (0,0,0,false) [] rfl ⟨W1c _,W0b _,by decide,rfl⟩ ?_ (by exact ⟨rfl,rfl,rfl,rfl,rfl⟩)
 rintro ⟨i,n,p,pt⟩ ⟨hi,hpi,hn,hst⟩
 refine By rfl (fun hlt=>?_) fun hlt=>?_
 · obtain ⟨x,hx⟩ : ∃ x,s[i]?=some x:=⟨_,W0e (by omega)⟩
   have htk : (s.take (i+1)).foldl stp (0,0,false)=stp (n,p,pt) x:=by
    rw [W1r,hx,W7m,hst];rfl
   have hgo : n<10 ^ (i+1):=W0t hn (W0i (by decide) (by omega))
   refine Yx i x rfl hx ?_
   refine By rfl (fun h1=>?_) fun h1=>?_
   · have hx46 : x=46:=Xer h1
     have e : stp (n,p,pt) x=(n,p,true):=by rw [stp,if_pos hx46]
     refine Yx i x rfl hx ?_
     refine No rfl (by omega) ?_
     refine Ar (i+1 : Nat) rfl ?_
     exact Bk (i+1,n,p,true) [] rfl ⟨by omega,by omega,hgo,by rw [htk,e]⟩ (by show s.length - (i+1)<s.length - i;omega) (by exact ⟨rfl,rfl,rfl,rfl,rfl⟩)
   · have hx46 : ¬ x=46:=fun e=>h1 (by rw [e];rfl)
     have e0 : ¬ isD x=true→stp (n,p,pt) x=(n,p,pt):=fun hd=>by rw [stp,if_neg hx46,if_neg hd]
     refine Yx i x rfl hx ?_
     refine By rfl (fun h2=>?_) fun h2=>?_
     · refine Yx i x rfl hx ?_
       refine By rfl (fun h3=>?_) fun h3=>?_
       · have hxd : isD x=true:=Ykp.2 ⟨by omega,by omega⟩
         have e : stp (n,p,pt) x=(10*n+(x.toNat - 48),if pt then p+1 else p,pt):=Xtc hxd _
         have hn1 : 10*n+(x.toNat - 48)<10 ^ (i+1):=by rw [W0p];omega
         have q1:=Qn hn (by omega)
         have q2 : Qs 4 ((10 : Int) : Rat):=Qs.int (by unfold Zs;decide) (by decide)
         have q3 : Qs 8 (((x.toNat - 48 : Nat) : Int) : Rat):=Qs.int (by show x.toNat - 48<2 ^ 8;omega) (by decide)
         have q4 : Qs 1606 (((n : Int) : Rat)*((10 : Int) : Rat)):=by
          have e5 : ((n : Int) : Rat)*((10 : Int) : Rat)=(((10*n : Nat) : Int) : Rat):=by rw [←W3c];congr 1;omega
          rw [e5]
          exact (Qn (n:=10*n) (i:=i+1) (by rw [W0p];omega) (by omega)).mono (by decide)
         have hadd : C0 55 [.d (dq (((n : Int) : Rat)*((10 : Int) : Rat))),.d (dq (((x.toNat - 48 : Nat) : Int) : Rat))] (·=.d (dq (((10*n+(x.toNat - 48) : Nat) : Int) : Rat))):=by
          have e5 : ((n : Int) : Rat)*((10 : Int) : Rat)+(((x.toNat - 48 : Nat) : Int) : Rat)=(((10*n+(x.toNat - 48) : Nat) : Int) : Rat):=by rw [←W3c,←W4h];congr 1;omega
          rw [←e5]
          exact R2.Add_ok q4 q3 (by decide)
         refine Dw rfl ?_
         refine Ce rfl (R2.FromInt_ok (z:=10) (by decide)) ?_
         refine Ce rfl (R2.Mul_ok q1 q2 (by decide)) ?_
         refine Yx i x rfl hx ?_
         refine Ar ((x.toNat - 48 : Nat) : Int) rfl ?_
         refine Cv ((x.toNat - 48 : Nat) : Int) rfl ?_
         refine Ce rfl (R2.FromInt_ok (z:=((x.toNat - 48 : Nat) : Int)) (by omega)) ?_
         refine Ce rfl hadd ?_
         refine By rfl (fun h4=>?_) fun h4=>?_
         · refine Ar (p+1 : Nat) rfl ?_
           refine Ar (i+1 : Nat) rfl ?_
           exact Bk (i+1,10*n+(x.toNat - 48),p+1,pt) [] rfl ⟨by omega,by omega,hn1,by rw [htk,e,if_pos h4]⟩ (by show s.length - (i+1)<s.length - i;omega) (by exact ⟨rfl,rfl,rfl,rfl,rfl⟩)
         · refine Ar (i+1 : Nat) rfl ?_
           exact Bk (i+1,10*n+(x.toNat - 48),p,pt) [] rfl ⟨by omega,by omega,hn1,by rw [htk,e,if_neg h4]⟩ (by show s.length - (i+1)<s.length - i;omega) (by exact ⟨rfl,rfl,rfl,rfl,rfl⟩)
       · refine Ar (i+1 : Nat) rfl ?_
         exact Bk (i+1,n,p,pt) [] rfl ⟨by omega,by omega,hgo,by rw [htk,e0 fun h=>h3 (by have:=(Ykp.1 h).2;omega)]⟩ (by show s.length - (i+1)<s.length - i;omega) (by exact ⟨rfl,rfl,rfl,rfl,rfl⟩)
     · refine Ar (i+1 : Nat) rfl ?_
       exact Bk (i+1,n,p,pt) [] rfl ⟨by omega,by omega,hgo,by rw [htk,e0 fun h=>h2 (by have:=(Ykp.1 h).1;omega)]⟩ (by show s.length - (i+1)<s.length - i;omega) (by exact ⟨rfl,rfl,rfl,rfl,rfl⟩)
 · have hil : i=s.length:=by omega
   rw [hil,W2r,hfold] at hst
   injection hst with e1 e2
   injection e2 with e2 e3
   obtain ⟨x0,hx0,hx45⟩:=Ym8 hsr ha0 had
   have q1 : Qs 1601 ((n : Int) : Rat):=Qn hn (by omega)
   have q2 : Qs 1601 ((10 ^ p : Int) : Rat):=Qs.int ((p10 p).mono (by omega)) (by decide)
   have h10 : ((10 ^ p : Int) : Rat)≠0:=fun e=>by
    have h3 : (10 ^ p : Int)=0:=by exact_mod_cast e
    have h4 : 0<(10 ^ p : Int):=W6v (by decide)
    omega
   have hdv:=R2.Div_ok q1 q2 (by decide) h10
   have q3 : Qs 1601 (((n : Int) : Rat) / ((10 ^ p : Int) : Rat)):=by
    rw [←W3h]
    exact Qs.divInt q1.n ((p10 p).mono (by omega)) (fun e=>h10 (by rw [e];rfl))
   refine Dw rfl ?_
   refine Ce rfl (Xcn (n:=p) (by omega)) ?_
   refine Ce rfl hdv ?_
   refine Yx 0 x0 rfl hx0 ?_
   refine By rfl (fun h1=>?_) fun h1=>?_
   · refine Ce rfl (R2.Neg_ok q3 (by decide)) ?_
     refine RTt rfl (.cons (.eq ?_) (.one (.rf rfl) (fun _ _ e=>by cases e) (fun _ _ e=>by cases e)))
     rw [fr,if_pos (hx45.1 (Xer h1)),e1,e2];rfl
   · refine RTt rfl (.cons (.eq ?_) (.one (.rf rfl) (fun _ _ e=>by cases e) (fun _ _ e=>by cases e)))
     rw [fr,if_neg fun e=>h1 (by rw [hx45.2 e];rfl),e1,e2];rfl
end
end Go.Proofs.YtjcejnjhfcbafaaGreatDoor.R11
namespace Go.Proofs.YtjcejnjhfcbafaaGreatDoor.P11
open Go Go.Vm Go.Num Go.Tow Go.Proofs.YtjcejnjhfcbafaaGreatDoor Go.Proofs.YtjcejnjhfcbafaaGreatDoor.P9 Go.Proofs.YtjcejnjhfcbafaaGreatDoor.R11
structure Pk (x : Nm) : Prop where
 k : x.k≤3
 re : Xbh x.k x.t
 t : TS 300 x.k x.t
 mt : MgT 64 x.k x.t
 ml : MgL 64 (toL x.k x.a)∨(x.k=0∧MgL 1700 (toL x.k x.a))
theorem MgL.mono' {m n : Nat} {l : List Rat} (h : MgL m l) (hn : m≤n) : MgL n l:=fun x hx=>(h x hx).mono hn
theorem MgT.mono' : ∀ {k m n : Nat} {t : Tw k},MgT m k t→m≤n→MgT n k t
 | 0,_,_,_,_,_=>trivial
 | _+1,_,_,_,h,hn=>⟨MgT.mono' h.1 hn,MgL.mono' h.2 hn⟩
theorem Xry {k n : Nat} {a : El k} (h : MgL n (toL k a)) (hk : k≤3∧n≤400∨k=0∧n≤3999) : Sz 4000 (toL k a):=by
 refine (Sz.all h).mono ?_
 rw [Xab]
 rcases hk with ⟨h3,hn⟩ | ⟨rfl,hn⟩
 · have hp : 2 ^ k≤2 ^ 3:=W0i (by decide) h3
   have:=W1z hn hp
   omega
 · rw [Nat.pow_zero];omega
structure Scd (x : Nm) (u h : Rat) : Prop where
 s1 : Sz 4000 (toL x.k (mul x.k x.t x.a (rat x.k u)))
 s2 : Sz 4000 (toL x.k (scl x.k x.t x.a u h))
 w1 : Wid (bx x.k x.t (scl x.k x.t x.a u h) 2048) 1
 w2 : ∀ b,1000000≤b→Wid (enc x.k x.t (scl x.k x.t x.a u h) b) 1
theorem Pk.sz {x : Nm} (H : Pk x) : Sz 4000 (toL x.k x.a):=by
 rcases H.ml with h | ⟨h0,h⟩
 · exact Xry h (.inl ⟨H.k,by decide⟩)
 · exact Xry h (.inr ⟨h0,by decide⟩)
theorem Pk.sc {x : Nm} (H : Pk x) {u h : Rat} (hu : Qs 200 u) (hh : Qs 2 h) : Scd x u h:=by
 rcases H.ml with hl | ⟨h0,hl⟩
 · have m1:=Xfk (t:=x.t) hl hu
   have m2:=Xu2 m1 (Xu1 (k:=x.k) hh (by decide))
   exact ⟨Xry m1 (.inl ⟨H.k,by decide⟩),Xry m2 (.inl ⟨H.k,by decide⟩),Yei H.re H.mt (MgL.mono' m2 (by decide)) H.k,Xio H.re (MgT.mono' H.mt (by decide)) (MgL.mono' m2 (by decide)) H.k (show 10000≤10000 by decide)⟩
 · have m1:=Xfk (t:=x.t) hl hu
   have m2:=Xu2 m1 (Xu1 (k:=x.k) hh (by decide))
   refine ⟨Xry m1 (.inr ⟨h0,by decide⟩),Xry m2 (.inr ⟨h0,by decide⟩),?_,Xio H.re (MgT.mono' H.mt (by decide)) (MgL.mono' m2 (by decide)) H.k (show 10000≤10000 by decide)⟩
   obtain ⟨k,t,a⟩:=x
   obtain rfl : k=0:=h0
   exact (Xgp (m:=64) (b:=2048) H.re H.mt m2 (show 0<eE 64 2048 0 _ by exact (by decide : 0<2*2048 - 2))).mono (show 1≤2*2048 - 2 by decide)
theorem Xpp {n : Nat} (hn : n≤60) : Qs 200 ((10 ^ n : Int) : Rat):=by
 have h1 : (10 : Nat) ^ n≤10 ^ 60:=W0i (by decide) hn
 refine Qs.int ?_ (by decide)
 show ((10 : Int) ^ n).natAbs<2 ^ 200
 rw [W8f]
 exact W1n h1 (by decide)
theorem bnds {k : Nat} (hk : k≤3) : eB 4000 (2*(1000000+1+16)) k≤274877906944∧vB 4000 k (4000+eB 4000 (2*(1000000+1+16)) k+4)≤4398046511104∧vB 4000 k (4000+bB 4000 2048 k+4)≤4398046511104∧bB 4000 2048 k≤274877906944∧cB 300 k≤1000000000:=by
 have h : k=0∨k=1∨k=2∨k=3:=by omega
 rcases h with rfl | rfl | rfl | rfl <;> decide +kernel
theorem Xcn {n : Nat} (hn : n≤400) : C0 42 [.d (.int .i64 n)] (·=.d (dz (10 ^ n))):=by
 refine En Tryz.func42 fun _ _ _=>?_
 refine Ce rfl (FromInt_ok (z:=10) (by decide)) ?_
 refine Ce rfl (Ydq (z:=10) (q:=4) (show (10 : Int).natAbs<2 ^ 4 by decide) (by omega) (by decide)) ?_
 exact R1 rfl (.rf rfl)
theorem Xj5 {z : Int} {p : Nat} (hz : Zs p z) (hp : 1≤p) (hp2 : p≤8796093022208) : C0 43 [.d (dz z)] (·=.d (dq (z : Rat))):=by
 have h:=Make_ok hz (Zs.one hp) hp2 (by decide)
 rw [Xgd] at h
 refine En Tryz.func43 fun _ _ _=>?_
 refine Dw rfl ?_
 refine Ce rfl (FromInt_ok (z:=1) (by decide)) ?_
 refine Ce rfl h ?_
 exact R1 rfl (.rf rfl)
theorem Xq7 {x : Nm} {d : Nat} {h : Rat} (H : Pk x) (hd : d≤60) (hh : Qs 2 h) : C0 56 [.d (dN x),.d (.int .i64 d),.d (dq h)] fun v=>∃ z,v=.tup (.pr (.d (dz z)) (.d (.int .i64 0)))∧Xbo x.k x.t (scl x.k x.t x.a ((10 ^ d : Int) : Rat) h) z∧(dig z.natAbs).length≤274877906944:=by
 have hu:=Xpp hd
 have S:=H.sc hu hh
 obtain ⟨b1,b2,b3,b4,b5⟩:=bnds H.k
 have hz : Zs 200 (10 ^ d : Int):=hu.n
 refine En Tryz.func56 fun _ _ _=>?_
 refine No rfl (by omega) ?_
 refine No rfl (by omega) ?_
 refine Dw rfl ?_
 refine Ce rfl (Xcn (by omega)) ?_
 refine Ce rfl (Xj5 hz (by decide) (by decide)) ?_
 refine Ce rfl (P9.FromRat_ok hu (by decide)) ?_
 refine Ce rfl (Yir H.t H.sz hu (by have:=H.k;omega) (by decide) (by decide) (by decide) b5) ?_
 refine No rfl (by decide) ?_
 refine Dw rfl ?_
 refine Ce rfl (P9.FromRat_ok hh (by decide)) ?_
 refine Ce rfl (Ylk (x:=⟨x.k,x.t,mul x.k x.t x.a (rat x.k ((10 ^ d : Int) : Rat))⟩) H.t S.s1 hh (by have:=H.k;show x.k≤8;omega) (by decide) (by decide) (by decide)) ?_
 refine No rfl (by decide) ?_
 refine Ca rfl (Xts (P:=1000000) H.re S.w2 (H.t.mono (by decide)) S.s2 (by decide) (show x.k≤16 by have:=H.k;omega) (by decide) b1 b2) fun v hv=>?_
 obtain ⟨z,rfl,hz⟩:=hv
 exact Rt rfl (.tup (.cons (.rf rfl) Xcj)) ⟨z,rfl,hz⟩
theorem dz0 : dz 0=dS false []:=by show D.st (.pr (.bool _) (ws (dig 0)))=_;rw [Xaj];rfl
theorem Ye6 {n : Int} {g : Hp} {K : Hpl} : FitT g K (.pr (AV.st (.pr (.b false) .nil)) (.d (.int .i64 n))) (.pr (.d (dz 0)) (.d (.int .i64 n))):=by
 rw [dz0];exact .cons (.sd (.pd (.bd rfl) (.nil rfl))) Xcj
theorem Xq8 {x : Nm} {d : Int} {h : Rat} (hd : ¬ (0≤d∧d≤60)) : C0 56 [.d (dN x),.d (.int .i64 d),.d (dq h)] (·=.tup (.pr (.d (dz 0)) (.d (.int .i64 1)))):=by
 refine En Tryz.func56 fun _ _ _=>?_
 refine By rfl (fun h=>?_) fun h=>?_
 · exact RTt rfl Ye6
 · refine Yes rfl (by omega) ?_
   exact RTt rfl Ye6
theorem Floor_ok {x : Nm} {d : Nat} (H : Pk x) (hd : d≤60) : C0 18 [.d (dN x),.d (.int .i64 d)] fun v=>∃ z,v=.tup (.pr (.d (dz z)) (.d (.int .i64 0)))∧Xbo x.k x.t (scl x.k x.t x.a ((10 ^ d : Int) : Rat) ((0 : Int) : Rat)) z∧(dig z.natAbs).length≤274877906944:=by
 refine En Tryz.func18 fun _ _ _=>?_
 refine Dw rfl ?_
 refine Ce rfl (Xbj (z:=0) (by decide)) ?_
 refine Ca rfl (Xq7 H hd (Qs.int (z:=0) (show Int.natAbs 0<2 ^ 2 by decide) (by decide))) fun v hv=>?_
 obtain ⟨z,rfl,hz⟩:=hv
 exact Rt rfl (.tup (.cons (.rf rfl) Xcj)) ⟨z,rfl,hz⟩
theorem Floor_no {x : Nm} {d : Int} (hd : ¬ (0≤d∧d≤60)) : C0 18 [.d (dN x),.d (.int .i64 d)] (·=.tup (.pr (.d (dz 0)) (.d (.int .i64 1)))):=by
 refine En Tryz.func18 fun _ _ _=>?_
 refine Dw rfl ?_
 refine Ce rfl (Xbj (z:=0) (by decide)) ?_
 refine Ce rfl (Xq8 hd) ?_
 exact R0t
abbrev hf : Rat:=Rat.divInt 1 2
theorem Xon : Qs 2 hf:=⟨show hf.num.natAbs<2 ^ 2 by decide,show ((hf.den : Int)).natAbs<2 ^ 2 by decide⟩
theorem Round_ok {x : Nm} {d : Nat} (H : Pk x) (hd : d≤60) : C0 20 [.d (dN x),.d (.int .i64 d)] fun v=>∃ z,v=.tup (.pr (.d (dz z)) (.d (.int .i64 0)))∧Xbo x.k x.t (scl x.k x.t x.a ((10 ^ d : Int) : Rat) hf) z∧(dig z.natAbs).length≤274877906944:=by
 refine En Tryz.func20 fun _ _ _=>?_
 refine Dw rfl ?_
 refine Ce rfl (Xg8 (a:=1) (b:=2) (by decide) (by decide)) ?_
 refine Ca rfl (Xq7 H hd Xon) fun v hv=>?_
 obtain ⟨z,rfl,hz⟩:=hv
 exact Rt rfl (.tup (.cons (.rf rfl) Xcj)) ⟨z,rfl,hz⟩
theorem Round_no {x : Nm} {d : Int} (hd : ¬ (0≤d∧d≤60)) : C0 20 [.d (dN x),.d (.int .i64 d)] (·=.tup (.pr (.d (dz 0)) (.d (.int .i64 1)))):=by
 refine En Tryz.func20 fun _ _ _=>?_
 refine Dw rfl ?_
 refine Ce rfl (Xg8 (a:=1) (b:=2) (by decide) (by decide)) ?_
 refine Ce rfl (Xq8 hd) ?_
 exact R0t
end Go.Proofs.YtjcejnjhfcbafaaGreatDoor.P11
namespace Go.Vm
open Go
abbrev cxM (P : Program) (gb : Gb P) (t : Tab P) (m : Mx P) (hpr : ∀ T ti,t.tb T=some ti→∀ a c,ti.z≠.pr a c) (n : Nat) (hn : n≤1000000) (fn : Func) (W : GW) (Q : AV→Prop) (hg : gb.g W) : Cx:=⟨P,gb,t.tb,fun T ti h=>⟨t.ok T ti h,hpr T ti h⟩,m,n,hn,W,fun _=>False,θe,bodyPostM Fence.wide 8 P fn (Ret W Q),hg⟩
theorem EnM {P : Program} [gb : Gb P] [t : Tab P] [hp : Npr P] [m : Mx P] {f n : Nat} {fn : Func} {x : Code} {args : List AV} {Q : AV → Prop} (hf : P.funcs[f]? = some fn) (h : ∀ W hg hn, StP (cxM P gb t m hp.h n hn fn W Q hg) (.j [] [.c x] (Ye9 0 args) [])) (hname : (fn.name == "runtime.NumGoroutine") = false := by exact rfl) (hb : fn.body = some x := by exact rfl)
 (hN : fn.ntmps=n:=by exact rfl) (hl : (Nat.ble args.length n && Nat.ble n 1000000 && args.all Xlo)=true:=by exact rfl) : C P f args Q:=by
 refine ⟨⟨fn,hf,hname,by rw [hb];rfl⟩,fun W vs hg ha=>(callsIn_wide (n:=8)).1 (callsIn_of_wp_marks hf hb trivial (wpIn_wide.2 ?_) rfl)⟩
 have h:=h W hg (by simp only [W0d] at hl;exact W1y hl.1.2)
 simp only [StP,sem,←Xlg] at h
 simp only [W0d] at hl
 obtain ⟨⟨hl1,hl2⟩,hl3⟩:=hl
 have hl1:=W1y hl1
 have hlen:=ha.len
 refine wp_mono (h _ W.w ⟨_,W,θe,rfl,⟨Fm.refl W _,⟨rfl,by simp [hN];omega,fun t v ht=>?_⟩,⟨fun o x h=>(by cases h),fun o x b h=>(by cases h),fun o o' x x' b h=>(by cases h),fun o x i h=>(by cases h)⟩,fun t v i ht hi=>?_⟩,fun _ _=>rfl,rfl⟩) fun e a w h=>by cases e <;> exact h
 · obtain ⟨_,u,h2,h3,_⟩:=Xm8 ha ht
   rw [W7d] at h2
   have hlt:=Xbr h2
   rw [W0e hlt] at h2
   injection h2 with h2
   simp only [Array.getD]
   rw [dif_pos (by simp;omega)]
   simp [W7b,hlt,h2]
   exact h3
 · obtain ⟨_,u,_,_,h4⟩:=Xm8 ha ht
   exact absurd hi (Xkn (W1o.1 hl3 v h4) i)
theorem StP.rest2 {c : Cx} {G : List (Nat × Bool)} {x y : Code} {E : Env} {H : Hpl} (h : ∀ a w,c.Nx (fun s'=>s'=sem E H) a w→x.wp c.P (Exit.then (y.wp c.P c.fin) c.fin) a w) : StP c (.j G [.c x,.c y] E H) :=
 fun a w hw=>wp_mono (h a w hw) fun e a w h=>by
  cases e with
  | normal=>exact wp_mono h fun e a w h=>by cases e <;> exact h
  | _=>exact h
theorem Tl {c : Cx} {s : St} (id : Nat) {G : List (Nat × Bool)} {x y : Code} {E : Env} {H : Hpl} (h : nxT c.tb c.n (some id) s=some (G,x,[.c y],E,H)) (k : ∀ a w,c.Nx (fun s'=>s'=sem E H) a w→x.wpIn Fence.wide 8 c.P (Exit.then (y.wpIn Fence.wide 8 c.P c.fin) c.fin) a w) : StP c s:=by
 have key : StP c (.j G [.c x,.c y] E H):=StP.rest2 fun a w hw=>wp_mono (wpIn_wide.1 (k a w hw)) fun e a w h=>by
  cases e with
  | normal=>exact wpIn_wide.1 h
  | _=>exact h
 unfold nxT at h
 simp only at h
 split at h <;> cases h
 rename_i hr
 exact Xhy 1000 (by rw [hr];exact key)
theorem Xag {α : Type} {n : Nat} : ∀ {l : List α},l.length=n+1→∃ t l',l=t::l'∧l'.length=n
 | t::l',h=>⟨t,l',rfl,by simpa using h⟩
end Go.Vm

/- part 5 -/
import Derived.Test.YtpgcfjpkilabfaaGreatDoorXN
import Derived.Test.YtpgcfjpkilabfaaGreatDoorCards
import Derived.Test.YtpgcfjpkilabfaaGreatDoorTie
import Derived.Deep.DeepHandedRow
import Derived.Lib.LaidTab
import Derived.MakeChecks
import Derived.Stop.LaidErr
import Derived.Lib.AppendZeros
set_option linter.unusedVariables false
set_option linter.unusedSimpArgs false
set_option maxRecDepth 100000
namespace Go.Proofs.YtpgcfjpkilabfaaGreatDoor
open Go Go.Num Go.Tow
def nS (r k p : Nat) : Nat:=2*p+2*cB r k+r+1
theorem Sz.normS {r k p : Nat} {t : Tw (k+1)} {a : El (k+1)} (ht : TS r (k+1) t) (h : Sz p (toL (k+1) a)) : Sz (nS r k p) (toL k (Tow.norm k t a)):=by
 obtain ⟨E,e0,e1,e2⟩:=Xkc ht.1
 obtain ⟨d,d0,d1,d2⟩:=h
 obtain ⟨g,g0,g1,g2⟩:=ht.2
 have hx : IsD d (2 ^ p) (toL k a.1):=d2.left
 have hy : IsD d (2 ^ p) (toL k a.2):=d2.right
 have h1:=(e2 _ _ d d _ _ d0 d0 hx hx).scale (W1j e0 g0)
 have h2:=e2 _ _ (d*d*E) g _ _ (W1j (W1j d0 d0) e0) g0 (e2 _ _ d d _ _ d0 d0 hy hy) g2
 rw [show d*d*E*g*E=d*d*E*(E*g) from by rw [W0q (d*d*E),W1d g E]] at h2
 have hg : E*g≤2 ^ cB r k*2 ^ r:=W1t e1 (W1z g1)
 have hn : 2 ^ (2*p+2*cB r k+r)=2 ^ p*2 ^ p*2 ^ cB r k*(2 ^ cB r k*2 ^ r):=by
  rw [←W0u,←W0u,←W0u,←W0u];congr 1;omega
 have h1' : IsD (d*d*E*(E*g)) (2 ^ (2*p+2*cB r k+r)) (toL k (Tow.mul k t.1 a.1 a.1)):=h1.mono (by rw [hn];exact W0m _ hg)
 have h2' : IsD (d*d*E*(E*g)) (2 ^ (2*p+2*cB r k+r)) (toL k (Tow.mul k t.1 (Tow.mul k t.1 a.2 a.2) t.2)):=h2.mono (by
  rw [hn,W0q (2 ^ p*2 ^ p*2 ^ cB r k),W1d (2 ^ r)];exact W0c _)
 rw [Tow.norm,Xat,Xb4]
 refine ⟨d*d*E*(E*g),W1j (W1j (W1j d0 d0) e0) (W1j e0 g0),?_,(h1'.add h2'.neg).mono (by unfold nS;rw [W0s 2 (2*p+2*cB r k+r)];omega)⟩
 have h3 : d*d*E*(E*g)<2 ^ p*2 ^ p*(2 ^ cB r k*(2 ^ cB r k*2 ^ r)):=by
  rw [W0q (d*d)]
  refine W0p (W3e (W4r d1 d1) (W1j e0 (W1j e0 g0))) (W0m _ (W1t e1 hg))
 have h4 : 2 ^ nS r k p=2 ^ (2*p+2*cB r k+r)*2:=by unfold nS;rw [W0s]
 rw [h4,hn,W0q (2 ^ p*2 ^ p)]
 omega
theorem Sz.scal {r k p q : Nat} {t : Tw k} {x y n : El k} (ht : TS r k t) (h : Sz p (toL k x++toL k y)) (hn : Sz q (toL k n)) : Sz (p+q+cB r k) (toL k (Tow.mul k t x n)++toL k (Tow.mul k t y n)):=by
 obtain ⟨E,e0,e1,e2⟩:=Xkc ht
 obtain ⟨d,d0,d1,d2⟩:=h
 obtain ⟨e,k0,k1,k2⟩:=hn
 have h1:=e2 _ _ d e _ _ d0 k0 d2.left k2
 have h2:=e2 _ _ d e _ _ d0 k0 d2.right k2
 rw [←W0u,←W0u] at h1 h2
 refine ⟨d*e*E,W1j (W1j d0 k0) e0,?_,h1.append h2⟩
 rw [W0u,W0u]
 exact W0p (W3e (W4r d1 k1) e0) (W0m _ e1)
def iS (r : Nat) : Nat→Nat→Nat
 | 0,p=>p+1
 | k+1,p=>p+iS r k (nS r k p)+cB r k
theorem IsD.neg2 {d n : Nat} {l m : List Rat} (h : IsD d n (l++m)) : IsD d n (l++m.map (- ·)):=h.left.append h.right.neg
theorem Sz.neg2 {p : Nat} {l m : List Rat} (h : Sz p (l++m)) : Sz p (l++m.map (- ·)):=by
 obtain ⟨d,h0,h1,h2⟩:=h
 exact ⟨d,h0,h1,h2.neg2⟩
theorem Sz.invS {r k p : Nat} {t : Tw k} {a b : El k} (ht : TS r k t) (h : Sz p (toL k a)) (hb : Tow.inv k t a=some b) : Sz (iS r k p) (toL k b):=by
 induction k generalizing p with
 | zero=>exact h.inv ht hb
 | succ k ih =>
  simp only [Tow.inv] at hb
  split at hb
  · cases hb
  · rename_i n hn
    injection hb with hb
    subst hb
    have h1:=ih ht.1 (h.normS ht) hn
    show Sz _ (toL k _++toL k (Tow.neg k _))
    rw [Xb4]
    exact (Sz.scal ht.1 h h1).neg2
theorem Sz.dbl {p : Nat} {l : List Rat} (h : Sz p l) : Sz (p+1) (List.zipWith (·+·) l l):=by
 obtain ⟨d,h0,h1,h2⟩:=h
 exact ⟨d,h0,by rw [W0s];omega,(h2.add h2).mono (by rw [W0s];omega)⟩
theorem Xog {r : Nat} {k : Nat} : ∀ {s : Nat},r≤s→cB r k≤cB s k:=by
 induction k with
 | zero=>intro s h;exact W0c _
 | succ k ih=>intro s h;have:=ih h;show 2*cB r k+r+1≤2*cB s k+s+1;omega
theorem Xug {r s k p q : Nat} (hr : r≤s) (h : p≤q) : nS r k p≤nS s k q:=by have:=Xog (k:=k) hr;unfold nS;omega
theorem Xva {r s : Nat} (hr : r≤s) : ∀ {k p q : Nat},p≤q→iS r k p≤iS s k q
 | 0,p,q,h=>by show p+1≤q+1;omega
 | k+1,p,q,h=>by
  have h1:=Xva hr (Xug (k:=k) hr h) (k:=k)
  have h2:=Xog (k:=k) hr
  show p+iS r k (nS r k p)+cB r k≤q+iS s k (nS s k q)+cB s k
  omega
theorem Xn3 {r s : Nat} (hr : r≤s) : ∀ {k p q : Nat},p≤q→iB r k p≤iB s k q
 | 0,p,q,h=>by show p+1≤q+1;omega
 | k+1,p,q,h=>by
  have h2:=Xog (k:=k) hr
  have h1:=Xn3 hr (show nB r k p≤nB s k q by unfold nB;omega) (k:=k)
  show 2*(p+iB r k (nB r k p)+cB r k)≤2*(q+iB s k (nB s k q)+cB s k)
  omega
theorem Xps (x : Rat) : (x*x).num=x.num*x.num∧(x*x).den=x.den*x.den:=by
 have hc : (x.num*x.num).natAbs.gcd (x.den*x.den)=1:=by
  rw [W4f]
  exact Nat.Coprime.mul_right (Nat.Coprime.mul_left x.reduced x.reduced) (Nat.Coprime.mul_left x.reduced x.reduced)
 rw [Rat.num_mul,Rat.den_mul,hc]
 exact ⟨Int.ediv_one _,Nat.div_one _⟩
theorem Xtr (n : Nat) : rt (n*n)=n:=Yg2 (W0c _) (by rw [W1g,W0w];omega)
def sqN (n : Nat) : Prop:=rt n*rt n=n
theorem Xjx {q : Rat} (h0 : 0≤q.num) (h1 : sqN q.num.natAbs) (h2 : sqN q.den) : ∃ x : Rat,x.num=(rt q.num.natAbs : Int)∧x.den=rt q.den∧x*x=q:=by
 have hd : rt q.den≠0:=fun e=>q.den_nz (by rw [←h2,e])
 have hc : (rt q.num.natAbs).Coprime (rt q.den):=by
  have:=q.reduced
  rw [←h1,←h2] at this
  exact Nat.Coprime.coprime_mul_right (Nat.Coprime.coprime_mul_right_right this)
 refine ⟨⟨(rt q.num.natAbs : Int),rt q.den,hd,by rw [W1h];exact hc⟩,rfl,rfl,?_⟩
 refine Rat.ext ?_ ?_
 · rw [(Xps _).1]
   show (rt q.num.natAbs : Int)*(rt q.num.natAbs : Int)=q.num
   have : ((rt q.num.natAbs*rt q.num.natAbs : Nat) : Int)=(q.num.natAbs : Int):=by rw [h1]
   rw [W2t] at this
   rw [this];omega
 · rw [(Xps _).2];exact h2
theorem Xtc {q : Rat} : (∃ x : Rat,x*x=q)↔0≤q.num∧sqN q.num.natAbs∧sqN q.den:=by
 refine ⟨?_,fun ⟨h0,h1,h2⟩=>let ⟨x,_,_,h⟩:=Xjx h0 h1 h2;⟨x,h⟩⟩
 rintro ⟨x,rfl⟩
 obtain ⟨e1,e2⟩:=Xps x
 rw [e1,e2]
 refine ⟨?_,?_,?_⟩
 · rcases Int.le_total 0 x.num with h | h
   · exact Int.mul_nonneg h h
   · exact Int.mul_nonneg_of_nonpos_of_nonpos h h
 · unfold sqN;rw [W4f,Xtr]
 · unfold sqN;rw [Xtr]
theorem Sz.half {k : Nat} : Sz 3 (toL k (Tow.rat k (1 / 2))):=Sz.rat (p:=2) k ⟨show (1 / 2 : Rat).num.natAbs<2 ^ 2 by decide +kernel,show ((1 / 2 : Rat).den : Int).natAbs<2 ^ 2 by decide +kernel⟩
open Go Go.Vm Go.Num Go.Tow
section
variable {k : Nat}
theorem hvL (a : Tow.El (k+1)) : ((toL k a.1++toL k a.2).map dq).length=2*2 ^ k:=by rw [lq,W0d,Xab,Xab];omega
theorem hvT (a : Tow.El (k+1)) : ((toL k a.1++toL k a.2).map dq).take (2 ^ k)=(toL k a.1).map dq:=by rw [←W2w,←Xab k a.1,W6v]
theorem hvD (a : Tow.El (k+1)) : ((toL k a.1++toL k a.2).map dq).drop (2 ^ k)=(toL k a.2).map dq:=by rw [←List.map_drop,←Xab k a.1,W7p]
theorem Xb7 (a : Tow.El (k+1)) : 2 ^ k≤((toL k a.1++toL k a.2).map dq).length:=by rw [hvL];have:=W0n k;omega
theorem twL (t : Tw (k+1)) : ((toT k t.1++[toL k t.2]).map dqs).length=k+1:=by rw [lt',W0d,Xaa];rfl
theorem Xgq (t : Tw (k+1)) : k≤((toT k t.1++[toL k t.2]).map dqs).length:=by rw [twL];omega
theorem twT (t : Tw (k+1)) : ((toT k t.1++[toL k t.2]).map dqs).take k=(toT k t.1).map dqs:=by rw [←W2w,W6p (Xaa k t.1)]
theorem twU (t : Tw (k+1)) : ((toT k t.1++[toL k t.2]).map dqs)[k]?=some (de t.2):=by rw [W1f,W0v (by rw [Xaa];exact W0c _),Xaa,W3f];rfl
theorem hvq (a : Tow.El (k+1)) (hk : k≤16) : arB .quo .i64 (((toL k a.1++toL k a.2).map dq).length : Nat) 2 (2 ^ k : Nat):=Yj7 (hvL a) (W0h (p16 hk) (by decide))
theorem tw1 (t : Tw (k+1)) (hk : k≤16) : arB .sub .i64 (((toT k t.1++[toL k t.2]).map dqs).length : Nat) 1 k:=wr (by rw [twL];omega) (by simp only [inK];omega)
end
end Go.Proofs.YtpgcfjpkilabfaaGreatDoor
namespace Go.Proofs.YtpgcfjpkilabfaaGreatDoor.R6
open Go Go.Vm Go.Num Go.Tow Go.Proofs.YtpgcfjpkilabfaaGreatDoor
theorem Norm_ok {k r s : Nat} {t : Tw (k+1)} {a : Tow.El (k+1)} (hT : TS r (k+1) t) (ha : Sz s (toL (k+1) a)) (hk : k+1≤16) (hs : nB r k s≤4398046511104) : C0 250 [.d (dt t),.d (de a)] (·=.d (de (Tow.norm k t a))):=by
 have hx : Sz s (toL k a.1):=Sz.left ha
 have hy : Sz s (toL k a.2):=Sz.right ha
 have hn : nB r k s=4*s+3*cB r k+r+1:=rfl
 refine En Tryz.func250 fun _ _ _=>?_
 refine Ar (2 ^ k : Nat) rfl ?_ (hvq a (by omega))
 refine Dw rfl ?_
 refine Ar k rfl ?_ (tw1 t (by omega))
 refine Tk k ((toT k t.1).map dqs) rfl rfl (Xgq t) (twT t) ?_
 refine Ar k rfl ?_ (tw1 t (by omega))
 refine Ix k rfl (twU t) ?_
 refine Dw rfl ?_
 refine Tk (2 ^ k) ((toL k a.1).map dq) rfl rfl (Xb7 a) (hvT a) ?_
 refine Tk (2 ^ k) ((toL k a.1).map dq) rfl rfl (Xb7 a) (hvT a) ?_
 refine Ce rfl (Mul_el hT.1 hx hx (by omega) (by omega)) ?_
 refine Dp (2 ^ k) ((toL k a.2).map dq) rfl rfl (Xb7 a) (hvD a) ?_
 refine Dp (2 ^ k) ((toL k a.2).map dq) rfl rfl (Xb7 a) (hvD a) ?_
 refine Ce rfl (Mul_el hT.1 hy hy (by omega) (by omega)) ?_
 refine Ce rfl (Mul_el hT.1 (hy.mul hT.1 hy) hT.2 (by omega) (by omega)) ?_
 refine Ce rfl (Sub_el (by omega) (hx.mul hT.1 hx).ps ((hy.mul hT.1 hy).mul hT.1 hT.2) (by omega)) ?_
 exact R0
theorem Root_ok {k i r : Nat} {t : Tw k} (hk : k≤16) (hi : i<k) : C0 361 [.d (dt t),.d (.int .i64 i)] (·=.d (de (root k i))):=by
 have hp:=p16 hk
 have hpi : 2 ^ i<2 ^ k:=W3n (by decide) hi
 have h0:=W0n k
 have e : (0 : Rat)::List.replicate (2 ^ (toT k t).length - 1) 0=List.replicate (2 ^ k) 0:=by rw [Xaa,←W3z,show 2 ^ k - 1+1=2 ^ k by omega]
 refine En Tryz.func361 fun _ _ _=>?_
 refine Ce rfl (R2.FromInt_ok (z:=0) (by decide)) ?_
 refine Cr rfl (e ▸ Xih (t:=toT k t) (x:=0) (by rw [Xaa];omega) (by rw [Xaa];omega)) ?_
 refine Dw rfl ?_
 refine Ar (2 ^ i : Nat) rfl ?_ (Xbl (by omega))
 refine Ce rfl (R2.FromInt_ok (z:=1) (by decide)) ?_
 refine Eo (2 ^ i) rfl (by simp only [lq,W1q];omega) ?_
 refine Sto rfl (by simp only [lq,W1q];omega) (ms (f:=dq) (u:=1)) ?_
 refine R1 rfl (.own rfl (by simp) ?_)
 rw [W1b,←Xox hi]
 exact W0a (by simp [Xab])
def Yok (k : Nat) (zs : List D) (v : AV) (H' : Hpl) : Prop:=(k=0∧v=.tup (.pr (.lit 4 zs) (.d (.int .i64 0)))∧H'=[])∨(v=.tup (.pr (.gr 1000000 4 zs) (.d (.int .i64 0)))∧H'=[(1000000,.tok zs.length 4)])
theorem Yn9 (x : Rat) : x⁻¹=1 / x:=by rw [W5x,Rat.one_mul]
theorem Yc5 {k : Nat} {t : Tw k} (h : red k t) {a : Tow.El k} (h0 : a≠zero k) : ∃ b,Tow.inv k t a=some b:=(Xdy h).2 a h0
theorem Ydh {k : Nat} {t : Tw k} (h : red k t) : zero k≠rat k 1:=fun e=>by
 have h1:=Xf2 (x:=1) (Xag h)
 rw [←e,(Xbz h).2 rfl,Xby (by decide)] at h1
 cases h1
theorem Xu3 {k : Nat} {t : Tw k} (h : red k t) {a b : Tow.El k} (e : Tow.inv k t a=some b) : a≠zero k:=fun h0=>by
 have h1:=Xc1 e
 rw [h0,(Xay k t).mz] at h1
 exact Ydh h h1
theorem Ydx {k : Nat} {t : Tw (k+1)} {a : Tow.El (k+1)} {x : Tow.El k} {y : Tow.El (k+1)} (ha : a.2=zero k) (hx : Tow.inv k t.1 a.1=some x) (hy : Tow.inv (k+1) t a=some y) : y=(x,zero k):=by
 refine Xym (t:=t) (a:=a) (Xc1 hy) ?_
 have e : a=up k a.1:=by show (a.1,a.2)=(a.1,zero k);rw [ha]
 rw [e]
 exact (Xuj k t x a.1).trans (by rw [Xc1 hx];rfl)
theorem Yfj {k : Nat} : ∀ {r s : Nat} {t : Tw k} {a : Tow.El k},TS r k t→Sz s (toL k a)→red k t→a≠zero k→k≤16→iB r k s≤4398046511104→∃ x,Tow.inv k t a=some x∧CW0 389 [.d (dt t),.d (de a)] [] (Yok k ((toL k x).map dq)):=by
 induction k with
 | zero =>
  intro r s t a hT ha hR h0 hk hs
  have hs : s+1≤4398046511104:=hs
  have e : ∀ y : Rat,y≠0→Tow.inv 0 () y=some (1 / y : Rat):=fun y hy=>by rw [Ylk,if_neg hy]
  refine ⟨_,e a h0,?_⟩
  refine EnW Tryz.func389 fun _ _ _ _=>?_
  refine Yes rfl rfl ?_
  refine Ix 0 rfl (u:=dq a) rfl ?_
  refine No rfl (fun h=>h0 (R2.zero_of h)) ?_
  refine Ix 0 rfl (u:=dq a) rfl ?_
  refine Ce rfl (R2.Inv_ok (ha.qs (W0e.2 rfl)) (by omega) h0) ?_
  exact Rw [] [] rfl (.tup (.cons (.rf rfl) (.one (.rf rfl) (fun _ _ e=>by cases e) (fun _ _ e=>by cases e)))) (.inl ⟨rfl,by rw [Yn9 a];rfl,rfl⟩)
 | succ k ih =>
  intro r s t a hT ha hR h0 hk hs
  have hx : Sz s (toL k a.1):=Sz.left ha
  have hy : Sz s (toL k a.2):=Sz.right ha
  have hlen:=Xab k
  have hp:=p16 hk
  have hp1 : 2 ^ (k+1)=2*2 ^ k:=by rw [W0s];omega
  have hpk:=W0n k
  obtain ⟨hi1,hi2⟩:=Xvd hs
  have hN:=ha.norm hT
  have hge:=Xyq r k (nB r k s)
  have hiB1:=Xn3 (W0c r) (Xui r k s) (k:=k)
  obtain ⟨x,hinv⟩:=Yc5 hR h0
  refine ⟨x,hinv,?_⟩
  have fit : ∀ {g : Hp} {K : Hpl} {o : Nat} {zs : List D},Xc2 K (.gr o 4 zs)=true→FitR g K (.tup (.pr (.gr o 4 zs) (.d (.int .i64 0)))) (.tup (.pr (.gr o 4 zs) (.d (.int .i64 0)))):=fun h=>.tup (.cons (.rf h) (.one (.rf rfl) (fun _ _ e=>by cases e) (fun _ _ e=>by cases e)))
  refine EnW Tryz.func389 fun _ _ _ _=>?_
  refine No rfl (by show ¬ ((((toT k t.1++[toL k t.2]).map dqs).length : Nat) : Int)=0;rw [twL];omega) ?_
  refine Ar (2 ^ k : Nat) rfl ?_ (hvq a (by omega))
  refine Ar k rfl ?_ (tw1 t (by omega))
  refine Tk k ((toT k t.1).map dqs) rfl rfl (Xgq t) (twT t) ?_
  refine Dp (2 ^ k) ((toL k a.2).map dq) rfl rfl (Xb7 a) (hvD a) ?_
  refine Ce rfl (Zero_ok (l:=toL k a.2) (by rw [hlen];omega)) ?_
  refine By rfl (fun h1=>?_) fun h1=>?_
  · have ea:=(Xaq k a.2).2 h1
    have e1 : a.1≠zero k:=fun e=>h0 (by show (a.1,a.2)=(zero k,zero k);rw [e,ea])
    obtain ⟨y,hy1,hc⟩:=ih hT.1 hx hR.1 e1 (by omega) (by omega)
    have ex:=Ydx ea hy1 hinv
    have el : (toL (k+1) x).map dq=(toL k y).map dq++((0 : Rat)::List.replicate (2 ^ (toT k t.1).length - 1) 0).map dq:=by
     rw [ex,←W1u,Xaa,←W3z,show 2 ^ k - 1+1=2 ^ k by omega,←Xbo];rfl
    have hll : ((toL (k+1) x).map dq).length≤1048576:=by rw [lq,Xab];omega
    refine Tk (2 ^ k) ((toL k a.1).map dq) rfl rfl (Xb7 a) (hvT a) ?_
    refine Cw [] rfl hc fun v H' _ hv=>?_
    rcases hv with ⟨_,rfl,rfl⟩ | ⟨rfl,rfl⟩
    · refine No rfl (by simp) ?_
      refine Ce rfl (R2.FromInt_ok (z:=0) (by decide)) ?_
      refine Ce rfl (FromRat_ok (t:=toT k t.1) (x:=0) (by rw [Xaa];omega)) ?_
      refine ApL ((toL (k+1) x).map dq) rfl el.symm (by simp only [lq,W0o];omega) (by omega) ?_
      refine Og 4 rfl rfl ?_
      exact Rw [(54,1000000)] [(1000000,.tok ((toL (k+1) x).map dq).length 4)] rfl (fit rfl) (.inr ⟨rfl,rfl⟩)
    · refine No rfl (by simp) ?_
      refine Ce rfl (R2.FromInt_ok (z:=0) (by decide)) ?_
      refine Ce rfl (FromRat_ok (t:=toT k t.1) (x:=0) (by rw [Xaa];omega)) ?_
      refine ApG ((toL (k+1) x).map dq) rfl el.symm (by omega) ?_
      exact Rw [(54,1000000)] [(1000000,.tok ((toL (k+1) x).map dq).length 4)] rfl (fit rfl) (.inr ⟨rfl,rfl⟩)
  · have hnz : Tow.norm k t a≠zero k:=by
     have hh : Tow.inv (k+1) t a=match Tow.inv k t.1 (Tow.norm k t a) with | none=>none | some x=>some (mul k t.1 a.1 x,Tow.neg k (mul k t.1 a.2 x)):=rfl
     cases h2 : Tow.inv k t.1 (Tow.norm k t a) with
     | none=>rw [hinv,h2] at hh;cases hh
     | some y=>exact Xu3 hR.1 h2
    obtain ⟨y,hy1,hc⟩:=ih hT.1 hN hR.1 hnz (by omega) (by omega)
    have hzx:=hN.inv hT.1 hy1
    have ex : x=(mul k t.1 a.1 y,Tow.neg k (mul k t.1 a.2 y)):=by
     have hh : Tow.inv (k+1) t a=match Tow.inv k t.1 (Tow.norm k t a) with | none=>none | some x=>some (mul k t.1 a.1 x,Tow.neg k (mul k t.1 a.2 x)):=rfl
     rw [hinv,hy1] at hh;injection hh
    have en : Tow.neg k (mul k t.1 a.2 y)=mul k t.1 (Tow.neg k a.2) y:=((Xay k t.1).nm _ _).symm
    have el : (toL (k+1) x).map dq=(toL k (mul k t.1 a.1 y)).map dq++(toL k (mul k t.1 (Tow.neg k a.2) y)).map dq:=by rw [ex,en,←W1u];rfl
    have hll : ((toL (k+1) x).map dq).length≤1048576:=by rw [lq,Xab];omega
    have hcd : C0 389 [.d (dt t.1),.d (de (Tow.norm k t a))] (·=.tup (.pr (.d (de y)) (.d (.int .i64 0)))):=CW.data hc rfl fun v H' hv=>by
     rcases hv with ⟨_,rfl,rfl⟩ | ⟨rfl,rfl⟩
     · exact ⟨_,.tup (.cons (.lit rfl) (.one (.rf rfl) (fun _ _ e=>by cases e) (fun _ _ e=>by cases e))),rfl⟩
     · exact ⟨_,.tup (.cons (.gr rfl) (.one (.rf rfl) (fun _ _ e=>by cases e) (fun _ _ e=>by cases e))),rfl⟩
    refine Ce rfl (Norm_ok hT ha hk (by omega)) ?_
    refine Ce rfl hcd ?_
    refine No rfl (by simp) ?_
    refine Dw rfl ?_
    refine Tk (2 ^ k) ((toL k a.1).map dq) rfl rfl (Xb7 a) (hvT a) ?_
    rcases Xrb hT.1 hx hzx (by omega) (by omega) with hm | hm
    · refine Ce rfl hm ?_
      refine Dp (2 ^ k) ((toL k a.2).map dq) rfl rfl (Xb7 a) (hvD a) ?_
      refine Ce rfl (Neg_el (by omega) hy.ps (by omega)) ?_
      refine Ce rfl (Mul_el hT.1 (Xgj hy) hzx (by omega) (by omega)) ?_
      refine ApL ((toL (k+1) x).map dq) rfl el.symm (by rw [lq,hlen];omega) (by omega) ?_
      refine Og 4 rfl rfl ?_
      exact Rw [(80,1000000)] [(1000000,.tok ((toL (k+1) x).map dq).length 4)] rfl (fit rfl) (.inr ⟨rfl,rfl⟩)
    · refine Cg rfl hm ?_
      refine Dp (2 ^ k) ((toL k a.2).map dq) rfl rfl (Xb7 a) (hvD a) ?_
      refine Ce rfl (Neg_el (by omega) hy.ps (by omega)) ?_
      refine Ce rfl (Mul_el hT.1 (Xgj hy) hzx (by omega) (by omega)) ?_
      refine ApG ((toL (k+1) x).map dq) rfl el.symm (by omega) ?_
      exact Rw [(80,1000000)] [(1000000,.tok ((toL (k+1) x).map dq).length 4)] rfl (fit rfl) (.inr ⟨rfl,rfl⟩)
theorem Inv_ok {k r s : Nat} {t : Tw k} {a x : Tow.El k} (hT : TS r k t) (ha : Sz s (toL k a)) (hR : red k t) (hx : Tow.inv k t a=some x) (hk : k≤16) (hs : iB r k s≤4398046511104) : C0 389 [.d (dt t),.d (de a)] (·=.tup (.pr (.d (de x)) (.d (.int .i64 0)))):=by
 obtain ⟨y,hy,hc⟩:=Yfj hT ha hR (Xu3 hR hx) hk hs
 rw [hx] at hy
 injection hy with hy
 subst hy
 exact CW.data hc rfl fun v H' hv=>by
  rcases hv with ⟨_,rfl,rfl⟩ | ⟨rfl,rfl⟩
  · exact ⟨_,.tup (.cons (.lit rfl) (.one (.rf rfl) (fun _ _ e=>by cases e) (fun _ _ e=>by cases e))),rfl⟩
  · exact ⟨_,.tup (.cons (.gr rfl) (.one (.rf rfl) (fun _ _ e=>by cases e) (fun _ _ e=>by cases e))),rfl⟩
end Go.Proofs.YtpgcfjpkilabfaaGreatDoor.R6
namespace Go.Proofs.YtpgcfjpkilabfaaGreatDoor
open Go Go.Num Go.Tow
def gC (r : Nat) : Nat→Nat
 | 0=>0
 | k+1=>2*gC r k+2*cB r k+r+iS r k r+2
theorem IsD.pw {d n a b : Nat} {l : List Rat} (h : IsD d (n*2 ^ a) l) (hab : a≤b) : IsD d (n*2 ^ b) l:=h.mono (W0m _ (W0k (by decide) hab))
theorem IsD.sc {d n a b e : Nat} {l : List Rat} (h : IsD d (n*2 ^ a) l) (he : 0<e) (hb : e≤2 ^ b) : IsD (d*e) (n*2 ^ (a+b)) l:=(h.scale he).mono (by rw [W0u,←W0q];exact W0m _ hb)
theorem IsD.dbl {d n : Nat} {l : List Rat} (h : IsD d n (List.zipWith (·+·) l l)) : IsD (d*2) n l:=fun x hx=>by
 obtain ⟨i,hi⟩:=W4d hx
 obtain ⟨z,h1,h2⟩:=h (x+x) (W0r (i:=i) (by rw [W6f,hi]))
 refine ⟨z,?_,h2⟩
 rw [←h1,W7j]
 show x*(d*2)=_
 grind
theorem Xtu {x : Rat} {e n : Nat} (he : 0<e) (h : IsD (e*e) (n*n) [x*x]) : IsD e n [x]:=fun y hy=>by
 obtain rfl:=W0e.1 hy
 obtain ⟨z,h1,h2⟩:=h _ (W0t ..)
 have h3 : (y*e)*(y*e)=(z : Rat):=by rw [←h1,W7j];grind
 obtain ⟨e1,e2⟩:=Xps (y*e)
 rw [h3] at e1 e2
 have e2 : 1=(y*e).den*(y*e).den:=e2
 have e1 : z=(y*e).num*(y*e).num:=e1
 have hd : (y*e).den=1:=Nat.eq_one_of_mul_eq_one_left e2.symm
 refine ⟨(y*e).num,?_,?_⟩
 · have:=Xkd (y*e)
   rw [hd] at this
   rw [←this];exact (Rat.mul_one _).symm
 · rw [e1,W4f] at h2
   exact Nat.lt_of_not_le fun hle=>W7a _ (W0p h2 (W1t hle hle))
theorem Xpj : ∀ {k r : Nat} {t : Tw k},TS r k t→red k t→∃ Δ,0<Δ∧Δ≤2 ^ gC r k∧∀ (s : El k) (e n : Nat),0<e→IsD (e*e) (n*n) (toL k (mul k t s s))→IsD (e*Δ) (n*2 ^ gC r k) (toL k s)
 | 0,r,t,_,_=>⟨1,by decide,W0c 1,fun s e n he h=>by rw [W3q,show 2 ^ gC r 0=1 from rfl,W3q];exact Xtu he h⟩
 | k+1,r,t,hT,hR=>by
  obtain ⟨E,E0,E1,E2⟩:=Xkc hT.1
  obtain ⟨g,g0,g1,g2⟩:=hT.2
  obtain ⟨Δ,D0,D1,D2⟩:=Xpj hT.1 hR.1
  have L:=Xay k t.1
  obtain ⟨i,hi⟩:=(Xdy hR.1).2 t.2 (show t.2≠zero k from fun h0=>hR.2.2 ⟨zero k,by rw [h0,L.mz]⟩)
  obtain ⟨f,f0,f1,f2⟩:=Sz.invS hT.1 hT.2 hi
  have hi:=Xc1 hi
  generalize hc : cB r k=c at *
  generalize hq : iS r k r=q at *
  generalize hG : gC r k=G at *
  have hg' : gC r (k+1)=2*G+2*c+r+q+2:=by show 2*gC r k+2*cB r k+r+iS r k r+2=_;rw [hc,hq,hG]
  have g1:=W1z g1
  have f1:=W1z f1
  have Eg1 : E*g≤2 ^ (c+r):=by rw [W0u];exact W1t E1 g1
  have Eg0:=W1j E0 g0
  have M : ∀ {a b : El k} {d e n m x y : Nat},0<d→0<e→IsD d (n*2 ^ x) (toL k a)→IsD e (m*2 ^ y) (toL k b)→IsD (d*e*E) (n*m*2 ^ (x+y+c)) (toL k (mul k t.1 a b)):=fun hd he h h'=>(E2 _ _ _ _ _ _ hd he h h').mono (by
   rw [W0u,W0u];exact Nat.le_of_eq (by ac_rfl))
  refine ⟨2*(E*g*Δ)*Δ*(f*E),?_,?_,fun s e n he h=>?_⟩
  · exact W1j (W1j (W1j (by decide) (W1j Eg0 D0)) D0) (W1j f0 E0)
  · have x1:=W1t (W1t (W1t (W0c 2) (W1t Eg1 D1)) D1) (W1t f1 E1)
    refine W0h x1 ?_
    rw [show (2 : Nat)*(2 ^ (c+r)*2 ^ G)*2 ^ G*(2 ^ q*2 ^ c)=2 ^ (1+((c+r)+G)+G+(q+c)) by simp only [W0u]]
    exact W0k (by decide) (by omega)
  obtain ⟨u,v⟩:=s
  have ha : IsD (e*e) (n*n) (toL k (add k (mul k t.1 u u) (mul k t.1 (mul k t.1 v v) t.2))):=h.left
  have hb : IsD (e*e) (n*n) (toL k (add k (mul k t.1 u v) (mul k t.1 v u))):=h.right
  generalize h1 : add k (mul k t.1 u u) (mul k t.1 (mul k t.1 v v) t.2)=a1 at ha
  generalize h2 : add k (mul k t.1 u v) (mul k t.1 v u)=a2 at hb
  have e0:=W1j he he
  have ha : IsD (e*e) (n*n*2 ^ 0) (toL k a1):=by simpa using ha
  have hb : IsD (e*e) (n*n*2 ^ 0) (toL k a2):=by simpa using hb
  have g2 : IsD g (1*2 ^ r) (toL k t.2):=by simpa using g2
  have f2 : IsD f (1*2 ^ q) (toL k i):=by simpa using f2
  obtain ⟨N,hN⟩ : ∃ N,N=add k (mul k t.1 u u) (neg k (mul k t.1 (mul k t.1 v v) t.2)):=⟨_,rfl⟩
  have hNN : mul k t.1 N N=add k (mul k t.1 a1 a1) (neg k (mul k t.1 (mul k t.1 a2 a2) t.2)):=by
   rw [hN,←h1,←h2]
   exact (Laws.req L [u,v,t.2] (.mul (.add (.mul (.v 0) (.v 0)) (.neg (.mul (.mul (.v 1) (.v 1)) (.v 2)))) (.add (.mul (.v 0) (.v 0)) (.neg (.mul (.mul (.v 1) (.v 1)) (.v 2))))) (.add (.mul (.add (.mul (.v 0) (.v 0)) (.mul (.mul (.v 1) (.v 1)) (.v 2))) (.add (.mul (.v 0) (.v 0)) (.mul (.mul (.v 1) (.v 1)) (.v 2)))) (.neg (.mul (.mul (.add (.mul (.v 0) (.v 1)) (.mul (.v 1) (.v 0))) (.add (.mul (.v 0) (.v 1)) (.mul (.v 1) (.v 0)))) (.v 2)))) (by decide +kernel))
  have n1 : IsD (e*e*E*g*(e*e*E*g)) (n*n*2 ^ (c+r+1)*(n*n*2 ^ (c+r+1))) (toL k (mul k t.1 N N)):=by
   rw [hNN,Xat,Xb4]
   have x1:=(M e0 e0 ha ha).sc (W1j Eg0 g0) (show E*g*g≤2 ^ (c+r+r) by rw [W0u 2 (c+r)];exact W1t Eg1 g1)
   have x2:=((M (W1j (W1j e0 e0) E0) g0 (M e0 e0 hb hb) g2).sc g0 g1).neg
   rw [W3q] at x2
   rw [show e*e*(e*e)*E*(E*g*g)=e*e*E*g*(e*e*E*g) by ac_rfl] at x1
   rw [show e*e*(e*e)*E*g*E*g=e*e*E*g*(e*e*E*g) by ac_rfl] at x2
   have x3:=x1.pw (show _≤2*c+2*r by omega)
   have x4:=x2.pw (show _≤2*c+2*r by omega)
   refine (x3.add x4).mono ?_
   rw [←Nat.mul_two]
   have x5 : 2 ^ (2*c+2*r)*2≤2 ^ (c+r+1)*2 ^ (c+r+1):=by
    rw [←W0s,←W0u];exact W0k (by decide) (by omega)
   have x6:=W0m (n*n*(n*n)) x5
   rw [show n*n*(n*n)*2 ^ (2*c+2*r)*2=n*n*(n*n)*(2 ^ (2*c+2*r)*2) by ac_rfl]
   exact W0h x6 (Nat.le_of_eq (by ac_rfl))
  have n2:=D2 N (e*e*E*g) (n*n*2 ^ (c+r+1)) (W1j (W1j e0 E0) g0) n1
  rw [W0q (n*n),←W0u] at n2
  have K0 : 0<E*g*Δ:=W1j Eg0 D0
  have K1 : E*g*Δ≤2 ^ (c+r+G):=by rw [W0u 2 (c+r)];exact W1t Eg1 D1
  have a':=ha.sc K0 K1
  rw [show e*e*E*g*Δ=e*e*(E*g*Δ) by ac_rfl] at n2
  have half : ∀ {w S : El k},add k w w=S→IsD (e*e*(E*g*Δ)) (n*n*2 ^ (c+r+G+2)) (toL k S)→IsD (e*e*(E*g*Δ)*2) (n*n*2 ^ (c+r+G+2)) (toL k w):=fun e h=>IsD.dbl (by rw [←Xat,e];exact h)
  have s1 : IsD (e*e*(E*g*Δ)) (n*n*2 ^ (c+r+G+2)) (toL k (add k a1 N)):=by
   rw [Xat]
   refine ((a'.pw (show _≤c+r+G+1 by omega)).add (n2.pw (show _≤c+r+G+1 by omega))).mono ?_
   rw [W0s 2 (c+r+G+1),←W0q,Nat.mul_two];exact W0c _
  have s2 : IsD (e*e*(E*g*Δ)) (n*n*2 ^ (c+r+G+2)) (toL k (add k a1 (neg k N))):=by
   rw [Xat,Xb4]
   refine ((a'.pw (show _≤c+r+G+1 by omega)).add ((n2.pw (show _≤c+r+G+1 by omega)).neg)).mono ?_
   rw [W0s 2 (c+r+G+1),←W0q,Nat.mul_two];exact W0c _
  have u1:=half (w:=mul k t.1 u u) (by rw [←h1,hN];exact (Laws.req L [u,v,t.2] (.add (.mul (.v 0) (.v 0)) (.mul (.v 0) (.v 0))) (.add (.add (.mul (.v 0) (.v 0)) (.mul (.mul (.v 1) (.v 1)) (.v 2))) (.add (.mul (.v 0) (.v 0)) (.neg (.mul (.mul (.v 1) (.v 1)) (.v 2))))) (by decide +kernel))) s1
  have v1:=half (w:=mul k t.1 (mul k t.1 v v) t.2) (by rw [←h1,hN];exact (Laws.req L [u,v,t.2] (.add (.mul (.mul (.v 1) (.v 1)) (.v 2)) (.mul (.mul (.v 1) (.v 1)) (.v 2))) (.add (.add (.mul (.v 0) (.v 0)) (.mul (.mul (.v 1) (.v 1)) (.v 2))) (.neg (.add (.mul (.v 0) (.v 0)) (.neg (.mul (.mul (.v 1) (.v 1)) (.v 2)))))) (by decide +kernel))) s2
  have K2 : 0<E*g*Δ*2:=W1j K0 (by decide)
  have ek : 0<e*(E*g*Δ*2):=W1j he K2
  have sq : ∀ {w : El k} {x : Nat},x≤(c+r+G+2)+(c+r+G+2)→IsD (e*(E*g*Δ*2)*(e*(E*g*Δ*2))) (n*n*2 ^ x) (toL k (mul k t.1 w w))→IsD (e*(E*g*Δ*2)*Δ) (n*2 ^ (c+r+G+2+G)) (toL k w):=fun {w x} hx h=>by
   have h':=D2 w _ (n*2 ^ (c+r+G+2)) ek ((h.pw hx).mono (by rw [W0u 2 (c+r+G+2) (c+r+G+2)];exact Nat.le_of_eq (by ac_rfl)))
   rwa [W0q n,←W0u] at h'
  have u2 : IsD (e*(E*g*Δ*2)*Δ) (n*2 ^ (c+r+G+2+G)) (toL k u):=by
   refine sq (x:=c+r+G+2+(c+r+G+1)) (by omega) ?_
   have:=u1.sc K2 (show E*g*Δ*2≤2 ^ (c+r+G+1) by rw [W0s];exact W0y _ K1)
   rwa [show e*e*(E*g*Δ)*2*(E*g*Δ*2)=e*(E*g*Δ*2)*(e*(E*g*Δ*2)) by ac_rfl] at this
  have v2 : IsD (e*(E*g*Δ*2)*Δ) (n*2 ^ (c+r+G+2+G)) (toL k (mul k t.1 v t.2)):=by
   refine sq (x:=c+r+G+2+r+c+(G+1)) (by omega) ?_
   have:=(M (W1j (W1j e0 K0) (by decide)) g0 v1 g2).sc (W1j D0 (by decide : 0<2)) (show Δ*2≤2 ^ (G+1) by rw [W0s];exact W0y _ D1)
   rw [W3q,show e*e*(E*g*Δ)*2*g*E*(Δ*2)=e*(E*g*Δ*2)*(e*(E*g*Δ*2)) by ac_rfl] at this
   rwa [show mul k t.1 (mul k t.1 v t.2) (mul k t.1 v t.2)=mul k t.1 (mul k t.1 (mul k t.1 v v) t.2) t.2 from (Laws.req L [v,t.2] (.mul (.mul (.v 0) (.v 1)) (.mul (.v 0) (.v 1))) (.mul (.mul (.mul (.v 0) (.v 0)) (.v 1)) (.v 1)) (by decide +kernel))]
  have v3 : IsD (e*(E*g*Δ*2)*Δ*f*E) (n*1*2 ^ (c+r+G+2+G+q+c)) (toL k v):=by
   have:=M (W1j ek D0) f0 v2 f2
   rwa [show mul k t.1 (mul k t.1 v t.2) i=v from by rw [L.ma,L.mc t.2,hi,L.mo]] at this
  have u3:=u2.sc (W1j f0 E0) (show f*E≤2 ^ (q+c) by rw [W0u];exact W1t f1 E1)
  rw [show e*(2*(E*g*Δ)*Δ*(f*E))=e*(E*g*Δ*2)*Δ*(f*E) by ac_rfl,hg']
  refine IsD.append (u3.pw (by omega)) ?_
  rw [W3q,W0q _ f E] at v3
  exact v3.pw (by omega)
theorem Sz.rootS {k r p : Nat} {t : Tw k} {s a : El k} (hT : TS r k t) (hR : red k t) (ha : Sz p (toL k a)) (e : Tow.mul k t s s=a) : Sz (p+gC r k) (toL k s):=by
 obtain ⟨Δ,D0,D1,D2⟩:=Xpj hT hR
 obtain ⟨d,d0,d1,d2⟩:=ha
 subst e
 have:=D2 s d (2 ^ p) d0 ((d2.scale d0).mono (W0m _ (W1z d1)))
 rw [←W0u] at this
 refine ⟨_,W1j d0 D0,?_,this⟩
 rw [W0u]
 exact W0p (W3e d1 D0) (W0m _ D1)
def sX (r k p : Nat) : Nat:=p+nS r k p+gC r k+cB r k+iS r k r+4
def vB (r : Nat) : Nat→Nat→Nat
 | 0,p=>p
 | k+1,p=>vB r k (nB r k p)
def qB (r : Nat) : Nat→Nat→Nat
 | 0,p=>p
 | k+1,p=>p+vB r (k+1) p+vB r (k+1) r+nB r k p+qB r k (sX r k p)+iB r k (sX r k p+gC r k)+iS r k (sX r k p+gC r k)+iB r k r+2*cB r k+4
theorem Xuh {r k p q : Nat} (h : p≤q) : nB r k p≤nB r k q:=by unfold nB;omega
theorem Xct {r : Nat} : ∀ {k s s' : Nat},s≤s'→vB r k s≤vB r k s'
 | 0,_,_,h=>h
 | k+1,_,_,h=>Xct (k:=k) (Xuh h)
theorem Xc6 {r : Nat} : ∀ (k s : Nat),s≤vB r k s
 | 0,_=>W0c _
 | k+1,s=>W0h (Xui r k s) (Xc6 k _)
theorem Xla {r i k s : Nat} (h : i≤k) : vB r i s≤vB r k s:=by
 induction k generalizing s with
 | zero=>rw [show i=0 by omega];exact W0c _
 | succ k ih =>
  by_cases e : i=k+1
  · rw [e];exact W0c _
  · exact W0h (ih (by omega)) (Xct (k:=k) (Xui r k s))
theorem Ycz {r k p q : Nat} (h : p≤q) : sX r k p≤sX r k q:=by
 have:=Xug (W0c r) h (k:=k)
 unfold sX;omega
theorem Xcz {r : Nat} : ∀ {k p q : Nat},p≤q→qB r k p≤qB r k q
 | 0,_,_,h=>h
 | k+1,p,q,h=>by
  have h1:=Xct (r:=r) (k:=k+1) h
  have h2:=Xuh (r:=r) (k:=k) h
  have h3:=Ycz (r:=r) (k:=k) h
  have h4:=Xcz (r:=r) (k:=k) h3
  have h5:=Xn3 (W0c r) (k:=k) (show sX r k p+gC r k≤sX r k q+gC r k by omega)
  have h6:=Xva (W0c r) (k:=k) (show sX r k p+gC r k≤sX r k q+gC r k by omega)
  unfold qB;omega
theorem Yhb {r : Nat} : ∀ {k p : Nat},p≤qB r k p
 | 0,_=>W0c _
 | k+1,_=>by unfold qB;omega
theorem Xx8 {r i k p : Nat} (h : i≤k) : qB r i p≤qB r k p:=by
 induction k generalizing p with
 | zero=>rw [show i=0 by omega];exact W0c _
 | succ k ih =>
  by_cases e : i=k+1
  · rw [e];exact W0c _
  · have h1:=ih (p:=p) (by omega)
    have h2 : qB r k p≤qB r k (sX r k p):=Xcz (by unfold sX;omega)
    have h3 : qB r k (sX r k p) ≤ qB r (k + 1) p := by conv => rhs; unfold qB
                                                       omega
    omega
open Go Go.Vm Go.Num Go.Tow
theorem Xj1 (x : Rat) : Xa1 x.num 0=Xew x:=by
 rcases Xau x.num 0 with ⟨h,e⟩ | ⟨h,e⟩ | ⟨h,e⟩ <;> rw [e]
 · rw [Xdj (by rw [Rat.lt_iff];show x.num*1<0*_;omega)]
 · rw [W5v.1 h];rfl
 · rw [Xby (by rw [Rat.lt_iff];show 0*_<x.num*1;omega)]
theorem Yar {k : Nat} (t : Tw (k+1)) (a : Tow.El (k+1)) : sgn (k+1) t a=if sgn k t.1 a.2=0∨sgn k t.1 a.1=sgn k t.1 a.2 then sgn k t.1 a.1 else if sgn k t.1 a.1=0 then sgn k t.1 a.2 else sgn k t.1 a.1*sgn k t.1 (Tow.norm k t a):=rfl
theorem Xtk {k : Nat} {t t' : Tw k} {a b : Tow.El k} : arB .mul .i64 (sgn k t a) (sgn k t' b) (sgn k t a*sgn k t' b):=by
 rcases Xcw t a with h | h | h <;> rcases Xcw t' b with h' | h' | h' <;> rw [h,h'] <;> exact wr rfl (by simp [inK])
theorem Xjl {k : Nat} : ∀ {r s : Nat} {t : Tw k} {a : Tow.El k},TS r k t→Sz s (toL k a)→k≤16→vB r k s≤4398046511104→r≤4398046511104→C0 224 [.d (dt t),.d (de a)] (·=.d (.int .i64 (sgn k t a))):=by
 induction k with
 | zero =>
  intro r s t a hT ha hk hs hr
  have hs : s≤4398046511104:=hs
  have key : ∀ y : Rat,Qs s y→C0 224 [.d (dts []),.d (dqs [y])] (·=.d (.int .i64 (Xew y))):=fun y hy=>by
   refine En Tryz.func224 fun _ _ _=>?_
   refine Yes rfl rfl ?_
   refine Ix 0 rfl (u:=dq y) rfl ?_
   refine Ce rfl (Xff hy (by omega)) ?_
   rw [Xj1]
   exact R0
  exact key a (ha.qs (W0e.2 rfl))
 | succ k ih =>
  intro r s t a hT ha hk hs hr
  have hx : Sz s (toL k a.1):=Sz.left ha
  have hy : Sz s (toL k a.2):=Sz.right ha
  have hv : vB r k (nB r k s)≤4398046511104:=hs
  have hv1:=Xc6 (r:=r) k (nB r k s)
  have hv2:=Xct (r:=r) (k:=k) (Xui r k s)
  have hn : nB r k s=4*s+3*cB r k+r+1:=rfl
  have hz:=ha.norm hT
  refine En Tryz.func224 fun _ _ _=>?_
  refine No rfl (by show ¬ ((((toT k t.1++[toL k t.2]).map dqs).length : Nat) : Int)=0;rw [twL];omega) ?_
  refine Ar k rfl ?_ (tw1 t (by omega))
  refine Ar (2 ^ k : Nat) rfl ?_ (hvq a (by omega))
  refine Dw rfl ?_
  refine Tk k ((toT k t.1).map dqs) rfl rfl (Xgq t) (twT t) ?_
  refine Tk (2 ^ k) ((toL k a.1).map dq) rfl rfl (Xb7 a) (hvT a) ?_
  refine Dp (2 ^ k) ((toL k a.2).map dq) rfl rfl (Xb7 a) (hvD a) ?_
  refine Ce rfl (ih hT.1 hx (by omega) (by omega) hr) ?_
  refine Ce rfl (ih hT.1 hy (by omega) (by omega) hr) ?_
  rw [Yar]
  refine By rfl (fun h=>?_) fun h=>?_
  · rw [if_pos (.inl h)]
    exact R0
  · refine By rfl (fun h1=>?_) fun h1=>?_
    · rw [if_pos (.inr h1)]
      exact R0
    · rw [if_neg (fun e=>e.elim h h1)]
      refine By rfl (fun h2=>?_) fun h2=>?_
      · rw [if_pos h2]
        exact R0
      · rw [if_neg h2]
        refine Dw rfl ?_
        refine Ce rfl (Xdi hT.1 hx hx (by omega) (by omega) hr) ?_
        refine Ix k rfl (twU t) ?_
        refine Ce rfl (Xdi hT.1 hy hy (by omega) (by omega) hr) ?_
        refine Ce rfl (Xdi hT.1 hT.2 (hy.mul hT.1 hy) (by omega) (by omega) hr) ?_
        refine Ce rfl (Xju hT.1 (hx.mul hT.1 hx) (hT.2.mul hT.1 (hy.mul hT.1 hy)) (by omega) (by omega) hr) ?_
        rw [(Xay k t.1).mc t.2]
        refine Ce rfl (ih hT.1 hz (by omega) hv hr) ?_
        refine Ar _ rfl ?_ Xtk
        exact R0
theorem Tw.take {k : Nat} : ∀ {t : Tw k} {i : Nat},i<k→∃ (w : Tw i) (x : Tow.El i),(toT k t).take i=toT i w∧(toT k t)[i]?=some (toL i x)∧(∀ r,TS r k t→TS r i w∧Sz r (toL i x))∧(Xbu k t→Xbu i w∧sgn i w x=1)∧(red k t→red i w∧sgn i w x=1∧¬ Xb6 i w x):=by
 induction k with
 | zero=>intro t i h;omega
 | succ k ih =>
  intro t i h
  have hl:=Xaa k t.1
  by_cases e : i=k
  · subst e
    refine ⟨t.1,t.2,W6p hl,?_,fun r h=>h,fun h=>h,fun h=>h⟩
    show (toT i t.1++[toL i t.2])[i]?=_
    rw [W0v (by omega),hl,W3f];rfl
  · obtain ⟨w,x,h1,h2,h3,h4,h5⟩:=ih (t:=t.1) (i:=i) (by omega)
    refine ⟨w,x,?_,?_,fun r h=>h3 r h.1,fun h=>h4 h.1,fun h=>h5 h.1⟩
    · show (toT k t.1++[toL k t.2]).take i=_
      rw [List.take_append_of_le_length (by omega),h1]
    · show (toT k t.1++[toL k t.2])[i]?=_
      rw [W1a (by omega),h2]
theorem qs0 : Qs 1 0:=⟨show (0 : Rat).num.natAbs<2 ^ 1 by decide +kernel,show ((0 : Rat).den : Int).natAbs<2 ^ 1 by decide +kernel⟩
section
variable {k r s : Nat} {t : Tw k} {a : Tow.El k}
theorem Xol (hT : TS r k t) (hR : Xbu k t) (hk : k≤16) (hv : vB r k r≤4398046511104) (hr : r≤4398046511104) : C0 297 [.d (dt t)] (·=.b true):=by
 refine En Tryz.func297 fun _ _ _=>?_
 refine Ce rfl (Xa0 (z:=0) (by decide)) ?_
 refine Ce rfl (Xcg (x:=0) (p:=1) hT hk hr qs0 (by decide)) ?_
 refine Ce rfl (Xb5 hT (Sz.rat (p:=1) k qs0) hk (by decide) hr) ?_
 refine No rfl (by simp) ?_
 refine Lo (fun i : Nat=>[(0,.d (dt t)),(11,.d (dt t)),(12,.d (.int .i64 ((toT k t).map dqs).length)),(13,.d (.int .i64 i))]) (fun _=>[]) (fun i=>i≤k) (fun i=>k - i) 0 [] rfl (by omega) (fun i hi=>?_)
 refine By rfl (fun h=>?_) fun h=>?_ <;> simp only [lt',Xaa] at h
 · obtain ⟨w,x,h1,h2,h3,h4,h5⟩:=Tw.take (t:=t) (i:=i) (by omega)
   have hx:=h3 r hT
   have h6:=Xla (r:=r) (s:=r) (show i≤k by omega)
   refine Ix i rfl (mp h2) ?_
   refine Tk i ((toT i w).map dqs) rfl rfl (by rw [lt',Xaa];omega) (by rw [←W2w,h1]) ?_
   refine Ce rfl (Xjl hx.1 hx.2 (by omega) (by omega) hr) ?_
   refine No rfl (by rw [(h4 hR).2];decide) ?_
   refine Ar (i+1 : Nat) rfl ?_
   exact Bk (i+1) [] rfl (show i+1≤k by omega) (by show k - (i+1)<k - i;omega)
 · exact R0
theorem Xn5 {l : List (List Rat)} (hT : TS r k t) (hR : Xbu k t) (hk : k≤16) (hv : vB r k r≤4398046511104) (hr : r≤4398046511104) (hl : ∀ x∈l,∃ a : Tow.El k,x=toL k a∧Sz s (toL k a)) (hn : l.length≤1000) (hs : s≤4398046511104) : C0 221 [.d (dt t),.d (dts l)] (·=.b true):=by
 refine En Tryz.func221 fun _ _ _=>?_
 refine Lo (fun i : Nat=>[(0,.d (dt t)),(7,.d (dts l)),(8,.d (.int .i64 (l.map dqs).length)),(9,.d (.int .i64 i))]) (fun _=>[]) (fun i=>i≤l.length) (fun i=>l.length - i) 0 [] rfl (by omega) (fun i hi=>?_)
 refine By rfl (fun h=>?_) fun h=>?_ <;> simp only [lt'] at h
 · obtain ⟨x,hx⟩ : ∃ x,l[i]?=some x:=⟨_,W0b (by omega)⟩
   obtain ⟨a,rfl,ha⟩:=hl x (W0r hx)
   refine Ix i rfl (mp hx) ?_
   refine Ce rfl (Xb5 hT ha hk hs hr) ?_
   refine No rfl (by simp) ?_
   refine Ar (i+1 : Nat) rfl ?_
   exact Bk (i+1) [] rfl (show i+1≤l.length by omega) (by show l.length - (i+1)<l.length - i;omega)
 · refine Ce rfl (Xol hT hR hk hv hr) ?_
   exact R0
theorem Xk4 (hT : TS r k t) (ha : Sz s (toL k a)) (hR : Xbu k t) (hk : k≤16) (hs : vB r k s≤4398046511104) (hv : vB r k r≤4398046511104) (hr : r≤4398046511104) : C0 280 [.d (dt t),.d (de a)] (·=.d (.int .i64 (sgn k t a))):=by
 have:=Xc6 (r:=r) k s
 refine En Tryz.func280 fun _ _ _=>?_
 refine Ce rfl (Xn5 (l:=[toL k a]) (s:=s) hT hR hk hv hr (fun x hx=>⟨a,W0e.1 hx,ha⟩) (by simp) (by omega)) ?_
 refine No rfl (by simp) ?_
 refine Ce rfl (Xjl hT ha hk hs hr) ?_
 exact R0
end
end Go.Proofs.YtpgcfjpkilabfaaGreatDoor
namespace Go.Proofs.YtpgcfjpkilabfaaGreatDoor.R7
open Go Go.Vm Go.Num Go.Tow Go.Proofs.YtpgcfjpkilabfaaGreatDoor
theorem Xj0 {k : Nat} : ∀ {r s : Nat} {t : Tw k} {a : Tow.El k},TS r k t→Sz s (toL k a)→k≤16→vB r k s≤4398046511104→C0 154 [.d (dt t),.d (de a)] (·=.d (.int .i64 (sgn k t a))):=by
 induction k with
 | zero =>
  intro r s t a hT ha hk hs
  have hs : s≤4398046511104:=hs
  have key : ∀ y : Rat,Qs s y→C0 154 [.d (dts []),.d (dqs [y])] (·=.d (.int .i64 (Xew y))):=fun y hy=>by
   refine En Tryz.func154 fun _ _ _=>?_
   refine Yes rfl rfl ?_
   refine Ix 0 rfl (u:=dq y) rfl ?_
   refine Ce rfl (R2.Sign_ok hy (by omega)) ?_
   rw [Xj1]
   exact R0
  exact key a (ha.qs (W0e.2 rfl))
 | succ k ih =>
  intro r s t a hT ha hk hs
  have hx : Sz s (toL k a.1):=Sz.left ha
  have hy : Sz s (toL k a.2):=Sz.right ha
  have hv : vB r k (nB r k s)≤4398046511104:=hs
  have hv1:=Xc6 (r:=r) k (nB r k s)
  have hv2:=Xct (r:=r) (k:=k) (Xui r k s)
  have hz:=ha.norm hT
  refine En Tryz.func154 fun _ _ _=>?_
  refine No rfl (by show ¬ ((((toT k t.1++[toL k t.2]).map dqs).length : Nat) : Int)=0;rw [twL];omega) ?_
  refine Ar k rfl ?_ (tw1 t (by omega))
  refine Dw rfl ?_
  refine Ar (2 ^ k : Nat) rfl ?_ (hvq a (by omega))
  refine Tk (2 ^ k) ((toL k a.1).map dq) rfl rfl (Xb7 a) (hvT a) ?_
  refine Ar (2 ^ k : Nat) rfl ?_ (hvq a (by omega))
  refine Dp (2 ^ k) ((toL k a.2).map dq) rfl rfl (Xb7 a) (hvD a) ?_
  refine Dw rfl ?_
  refine Tk k ((toT k t.1).map dqs) rfl rfl (Xgq t) (twT t) ?_
  refine Ce rfl (ih hT.1 hx (by omega) (by omega)) ?_
  refine Tk k ((toT k t.1).map dqs) rfl rfl (Xgq t) (twT t) ?_
  refine Ce rfl (ih hT.1 hy (by omega) (by omega)) ?_
  rw [Yar]
  refine By rfl (fun h=>?_) fun h=>?_
  · rw [if_pos (.inl h)]
    exact R0
  · refine By rfl (fun h1=>?_) fun h1=>?_
    · rw [if_pos (.inr h1)]
      exact R0
    · rw [if_neg (fun e=>e.elim h h1)]
      refine By rfl (fun h2=>?_) fun h2=>?_
      · rw [if_pos h2]
        exact R0
      · rw [if_neg h2]
        refine Dw rfl ?_
        refine Tk k ((toT k t.1).map dqs) rfl rfl (Xgq t) (twT t) ?_
        refine Ce rfl (R6.Norm_ok hT ha hk (by omega)) ?_
        refine Ce rfl (ih hT.1 hz (by omega) hv) ?_
        refine Ar _ rfl ?_ Xtk
        exact R0
section
variable {k r s : Nat} {t : Tw k} {a : Tow.El k}
theorem Xol (hT : TS r k t) (hR : Xbu k t) (hk : k≤16) (hv : vB r k r≤4398046511104) : C0 386 [.d (dt t)] (·=.b true):=by
 have:=Xc6 (r:=r) k r
 refine En Tryz.func386 fun _ _ _=>?_
 refine Ce rfl (R6.Tower_ok (TS.pt hT) (by omega) (by rw [Xaa];omega)) ?_
 refine No rfl (by simp) ?_
 refine Lo (fun i : Nat=>[(0,.d (dt t)),(3,.d (.int .i64 i))]) (fun _=>[]) (fun i=>i≤k) (fun i=>k - i) 0 [] rfl (by omega) (fun i hi=>?_)
 refine By rfl (fun h=>?_) fun h=>?_ <;> simp only [lt',Xaa] at h
 · obtain ⟨w,x,h1,h2,h3,h4,h5⟩:=Tw.take (t:=t) (i:=i) (by omega)
   have hx:=h3 r hT
   have h6:=Xla (r:=r) (s:=r) (show i≤k by omega)
   refine Dw rfl ?_
   refine Tk i ((toT i w).map dqs) rfl rfl (by rw [lt',Xaa];omega) (by rw [←W2w,h1]) ?_
   refine Ix i rfl (mp h2) ?_
   refine Ce rfl (Xj0 hx.1 hx.2 (by omega) (by omega)) ?_
   refine No rfl (by rw [(h4 hR).2];simp) ?_
   refine Ar (i+1 : Nat) rfl ?_
   exact Bk (i+1) [] rfl (show i+1≤k by omega) (by show k - (i+1)<k - i;omega)
 · exact R0
theorem Sign_ok (hT : TS r k t) (ha : Sz s (toL k a)) (hR : Xbu k t) (hk : k≤16) (hs : vB r k s≤4398046511104) (hv : vB r k r≤4398046511104) : C0 356 [.d (dt t),.d (de a)] (·=.d (.int .i64 (sgn k t a))):=by
 have:=Xc6 (r:=r) k s
 have:=Xc6 (r:=r) k r
 refine En Tryz.func356 fun _ _ _=>?_
 refine Ce rfl (R6.Formed_ok (TS.pt hT) (by omega) ha.ps (by omega) (by rw [Xaa];omega) (Yfo t a)) ?_
 refine No rfl (by simp) ?_
 refine Ce rfl (Xol hT hR hk hv) ?_
 refine No rfl (by simp) ?_
 refine Ce rfl (Xj0 hT ha hk hs) ?_
 exact R0
theorem Fast_ok (hT : TS r k t) (ha : Sz s (toL k a)) (hk : k≤16) (hs : vB r k s≤4398046511104) : C0 176 [.d (dt t),.d (de a)] (·=.d (.int .i64 (sgn k t a))):=by
 refine En Tryz.func176 fun _ _ _=>?_
 refine Ce rfl (Xj0 hT ha hk hs) ?_
 exact R0
end
end Go.Proofs.YtpgcfjpkilabfaaGreatDoor.R7
namespace Go.Num
theorem Zs.len2 {p : Nat} {z : Int} (h : Zs p z) (hp : p≤4398046511104) : (dig z.natAbs).length≤137438953473:=by
 have h1 : z.natAbs<4294967296 ^ (p / 32+1):=by
  rw [show 4294967296=2 ^ 32 from rfl,←W4b]
  exact W0p h (W0k (by decide) (by omega))
 have:=Xap h1
 omega
end Go.Num
namespace Go.Proofs.YtpgcfjpkilabfaaGreatDoor.R2
open Go Go.Vm Go.Num Go.Proofs.YtpgcfjpkilabfaaGreatDoor
def dR (b : Bool) (l : List Nat) (b' : Bool) (l' : List Nat) : D:=.st (.pr (dS b l) (dS b' l'))
theorem Sqrt_ok {x : Rat} {p : Nat} (hx : Qs p x) (hp : p≤4398046511104) : C0 387 [.d (dq x)] fun v=>∃ b l b' l',v=.tup (.pr (.d (dR b l b' l')) (.b (dc (∃ y : Rat,y*y=x))))∧((∃ y : Rat,y*y=x)→∃ y : Rat,y*y=x∧dR b l b' l'=dq y):=by
 have h1:=hx.n.len2 hp
 have h2:=hx.d.len2 hp
 have hi:=Xtc (q:=x)
 have no : ¬ (∃ y : Rat,y*y=x)→∀ {g K},FitT g K (.b false) (.b (dc (∃ y : Rat,y*y=x))):=fun h _ _=>.one (by exact .bp (c:=false) ⟨nofun,fun e=>absurd e h⟩) (fun _ _ e=>by cases e) (fun _ _ e=>by cases e)
 refine En Tryz.func387 fun _ _ _=>?_
 refine By rfl (fun h=>?_) fun h=>?_
 · exact Rt rfl (.tup (.cons (.sd (.pd (.sd (.pd (.bd rfl) (.nil rfl))) (.sd (.pd (.bd rfl) (.nil rfl)))))  (no fun e=>by have:=(hi.1 e).1;omega))) ⟨false,[],false,[],rfl,fun e=>by have:=(hi.1 e).1;omega⟩
 have hn : ((x.num.natAbs : Nat) : Int)=x.num:=by omega
 have hs:=R1.Sqrt_ok (a:=x.num.natAbs) (by omega)
 rw [hn] at hs
 have hd:=R1.Sqrt_ok (a:=x.den) (by rw [W1h] at h2;omega)
 have hr : ∀ n : Nat,n<2 ^ p→Zs p (rt n : Int)∧Zs p ((rt n : Int)*(rt n : Int)):=fun n hn=>by
  have:=(Xcx n).1
  have h3 : rt n≤rt n*rt n:=Nat.le_mul_self _
  unfold Zs
  rw [W4f,W1h]
  omega
 obtain ⟨r1,r2⟩:=hr _ (show x.num.natAbs<2 ^ p from hx.n)
 obtain ⟨r3,r4⟩:=hr x.den (by have:=hx.d;unfold Zs at this;rwa [W1h] at this)
 have r1:=r1.len2 hp
 have r2:=r2.len2 hp
 have r3:=r3.len2 hp
 have r4:=r4.len2 hp
 refine Ce rfl hs ?_
 refine Ce rfl hd ?_
 refine Dw rfl ?_
 refine Ce rfl (R1.Mul_ok (by omega) (by omega)) ?_
 refine Ce rfl (SameInt_ok (by omega)) ?_
 refine By rfl (fun h=>?_) fun h=>?_
 · have hno : ¬ ∃ y : Rat,y*y=x:=fun e=>by
    have h3:=(hi.1 e).2.1
    unfold sqN at h3
    have h4 : ¬ (rt x.num.natAbs : Int)*(rt x.num.natAbs : Int)=x.num:=by simpa [Xbb,Xan] using h
    exact h4 (by rw [←W2t,h3,hn])
   exact Rt rfl (.tup (.cons (.sd (.pd (.sd (.pd (.bd rfl) (.nil rfl))) (.sd (.pd (.bd rfl) (.nil rfl))))) (no hno))) ⟨false,[],false,[],rfl,fun e=>absurd e hno⟩
 have k1 : (rt x.num.natAbs : Int)*(rt x.num.natAbs : Int)=x.num:=by simpa [Xbb,Xan] using h
 refine Ce rfl (R1.Mul_ok (by omega) (by omega)) ?_
 refine Ce rfl (SameInt_ok (by omega)) ?_
 refine By rfl (fun h=>?_) fun h=>?_
 · have hno : ¬ ∃ y : Rat,y*y=x:=fun e=>by
    have h3:=(hi.1 e).2.2
    unfold sqN at h3
    have h4 : ¬ (rt x.den : Int)*(rt x.den : Int)=x.den:=by simpa [Xbb,Xan] using h
    exact h4 (by rw [←W2t,h3])
   exact Rt rfl (.tup (.cons (.sd (.pd (.sd (.pd (.bd rfl) (.nil rfl))) (.sd (.pd (.bd rfl) (.nil rfl))))) (no hno))) ⟨false,[],false,[],rfl,fun e=>absurd e hno⟩
 have k2 : (rt x.den : Int)*(rt x.den : Int)=x.den:=by simpa [Xbb,Xan] using h
 obtain ⟨y,y1,y2,y3⟩:=Xjx (q:=x) (by omega) (by unfold sqN;omega) (by unfold sqN;omega)
 refine Rt rfl (.tup (.cons (.rf rfl) (.one (by exact .bp (c:=true) ⟨fun _=>⟨y,y3⟩,fun _=>rfl⟩) (fun _ _ e=>by cases e) (fun _ _ e=>by cases e)))) ⟨_,_,_,_,rfl,fun _=>⟨y,y3,?_⟩⟩
 show D.st (.pr (dz _) (dz _))=D.st (.pr (dz _) (dz _))
 rw [y1,y2]
end Go.Proofs.YtpgcfjpkilabfaaGreatDoor.R2
namespace Go.Proofs.YtpgcfjpkilabfaaGreatDoor
open Go Go.Vm Go.Num Go.Tow
theorem Xvo {p : Prop} (h : ¬ p) {g : Hp} {K : Hpl} : FitT g K (.b false) (.b (dc p)):=.one (by exact .bp (c:=false) ⟨nofun,fun e=>absurd e h⟩) (fun _ _ e=>by cases e) (fun _ _ e=>by cases e)
theorem Xxb {p : Prop} (h : p) {g : Hp} {K : Hpl} : FitT g K (.b true) (.b (dc p)):=.one (by exact .bp (c:=true) ⟨fun _=>h,fun _=>rfl⟩) (fun _ _ e=>by cases e) (fun _ _ e=>by cases e)
theorem Xa3 {n : Int} {g : Hp} {K : Hpl} : FitT g K (.d (.int .i64 n)) (.d (.int .i64 n)):=.one (.rf rfl) (fun _ _ e=>by cases e) (fun _ _ e=>by cases e)
def SqR (k : Nat) (t : Tw k) (a : Tow.El k) (v : AV) : Prop:=∃ w : D,v=.tup (.pr (.d w) (.b (dc (Xb6 k t a))))∧(Xb6 k t a→∃ x,mul k t x x=a∧w=de x)
theorem Xvh : (Rat.divInt 1 2)=1 / 2:=by decide +kernel
end Go.Proofs.YtpgcfjpkilabfaaGreatDoor
namespace Go.Proofs.YtpgcfjpkilabfaaGreatDoor.R6
open Go Go.Vm Go.Num Go.Tow Go.Proofs.YtpgcfjpkilabfaaGreatDoor
theorem FromRat_el {k : Nat} {t : Tw k} {x : Rat} (hk : k≤16) : C0 156 [.d (dt t),.d (dq x)] (·=.d (de (rat k x))):=by
 have:=FromRat_ok (t:=toT k t) (x:=x) (by rw [Xaa];omega)
 rwa [Xaa,←Xcu] at this
theorem FromRat_z {k : Nat} {t : Tw k} (hk : k≤16) : C0 156 [.d (dt t),.d (dq 0)] (·=.d (de (zero k))):=by
 have:=FromRat_el (t:=t) (x:=0) hk
 rwa [Xdl] at this
end Go.Proofs.YtpgcfjpkilabfaaGreatDoor.R6
namespace Go.Proofs.YtpgcfjpkilabfaaGreatDoor.R8
open Go Go.Vm Go.Num Go.Tow Go.Proofs.YtpgcfjpkilabfaaGreatDoor
theorem Ydv {l m : List Rat} (h0 : 0<l.length) (hl : l.length+m.length≤1048576) : C0 388 [.d (dqs l),.d (dqs m)] (·=.d (dqs (l++m))):=by
 refine En Tryz.func388 fun _ _ _=>?_
 refine ApL (l.map dq) rfl rfl (by simp;omega) (by simp;omega) ?_
 refine ApO ((l++m).map dq) rfl rfl rfl (by simp) (by simp;omega) ?_
 exact R1 rfl (.own rfl (by simp) (by rw [W1b];exact W0a (by simp)))
theorem Xn0 {k : Nat} {x y : Tow.El k} (hk : k≤16) : C0 388 [.d (de x),.d (de y)] (·=.d (de (pr x y))) :=
 Ydv (by rw [Xab];exact W0n k) (by rw [Xab,Xab];have:=p16 hk;omega)
theorem Xdw {k : Nat} : ∀ {r p : Nat} {t : Tw k} {a : Tow.El k},TS r k t→Sz p (toL k a)→red k t→k≤16→qB r k p≤4398046511104→C0 357 [.d (dt t),.d (de a)] (SqR k t a):=by
 induction k with
 | zero =>
  intro r p t a hT ha hR hk hq
  have hq : p≤4398046511104:=hq
  have key : ∀ y : Rat,Qs p y→C0 357 [.d (dts []),.d (dqs [y])] fun v=>∃ w : D,v=.tup (.pr (.d w) (.b (dc (∃ x : Rat,x*x=y))))∧((∃ x : Rat,x*x=y)→∃ x : Rat,x*x=y∧w=dqs [x]):=fun y hy=>by
   refine En Tryz.func357 fun _ _ _=>?_
   refine Yes rfl rfl ?_
   refine Ix 0 rfl (u:=dq y) rfl ?_
   refine Ca rfl (R2.Sqrt_ok hy (by omega)) fun v hv=>?_
   obtain ⟨b,l,b',l',rfl,hw⟩:=hv
   exact Rt rfl (.tup (.cons (.lit rfl) (.one (.rf rfl) (fun _ _ e=>by cases e) (fun _ _ e=>by cases e)))) ⟨_,rfl,fun h=>let ⟨y,h1,h2⟩:=hw h;⟨y,h1,by rw [show dqs [y]=D.sl 4 [dq y] from rfl,←h2];rfl⟩⟩
  exact key a (ha.qs (W0e.2 rfl))
 | succ k ih =>
  intro r p t a hT ha hR hk hq
  have hx : Sz p (toL k a.1):=Sz.left ha
  have hy : Sz p (toL k a.2):=Sz.right ha
  have hlen:=Xab k
  have hpk:=p16 (show k≤16 by omega)
  have hz:=ha.normS hT
  have L:=Xay k t.1
  have hqq : p+vB r (k+1) p+vB r (k+1) r+nB r k p+qB r k (sX r k p)+iB r k (sX r k p+gC r k)+iS r k (sX r k p+gC r k)+iB r k r+2*cB r k+4≤4398046511104:=hq
  have hX : sX r k p=p+nS r k p+gC r k+cB r k+iS r k r+4:=rfl
  have hN : nB r k p=4*p+3*cB r k+r+1:=rfl
  have q1 : qB r k p≤qB r k (sX r k p):=Xcz (by omega)
  have q2 : qB r k (nS r k p)≤qB r k (sX r k p):=Xcz (by omega)
  have q3 : qB r k (p+iS r k r+cB r k)≤qB r k (sX r k p):=Xcz (by omega)
  have q4 : sX r k p≤qB r k (sX r k p):=Yhb
  have hr0 : t.2≠zero k:=fun h0=>hR.2.2 ⟨zero k,by rw [h0,L.mz]⟩
  obtain ⟨i,hi⟩:=(Xdy hR.1).2 t.2 hr0
  have him:=Xc1 hi
  have hiz:=Sz.invS hT.1 hT.2 hi
  refine En Tryz.func357 fun _ _ _=>?_
  refine No rfl (by show ¬ ((((toT k t.1++[toL k t.2]).map dqs).length : Nat) : Int)=0;rw [twL];omega) ?_
  refine Ce rfl (R7.Sign_ok hT ha (Xag hR) hk (by omega) (by omega)) ?_
  refine By rfl (fun h=>?_) fun h=>?_
  · have no : ¬ Xb6 (k+1) t a:=fun e=>by have:=Ykx (Xag hR) e;omega
    exact Rt rfl (.tup (.cons (.nil (sz:=4) rfl) (Xvo no))) ⟨_,rfl,fun e=>absurd e no⟩
  refine Ar k rfl ?_ (tw1 t (by omega))
  refine Dw rfl ?_
  refine Tk k ((toT k t.1).map dqs) rfl rfl (Xgq t) (twT t) ?_
  refine Ix k rfl (twU t) ?_
  refine Ar (2 ^ k : Nat) rfl ?_ (hvq a (by omega))
  refine Dw rfl ?_
  refine Tk (2 ^ k) ((toL k a.1).map dq) rfl rfl (Xb7 a) (hvT a) ?_
  refine Dp (2 ^ k) ((toL k a.2).map dq) rfl rfl (Xb7 a) (hvD a) ?_
  refine Ce rfl (R2.FromInt_ok (z:=0) (by decide)) ?_
  refine Ce rfl (R6.FromRat_z (t:=t.1) (by omega)) ?_
  refine Ce rfl (R6.Zero_ok (l:=toL k a.2) (by rw [hlen];omega)) ?_
  refine By rfl (fun hv=>?_) fun hv=>?_
  · have ev:=(Xaq k a.2).2 hv
    have ea : a=up k a.1:=by show (a.1,a.2)=(a.1,zero k);rw [ev]
    refine Ca rfl (ih hT.1 hx hR.1 (by omega) (by omega)) fun v hv=>?_
    obtain ⟨w,rfl,hw⟩:=hv
    refine By rfl (fun h1=>?_) fun h1=>?_
    · obtain ⟨x,hx1,rfl⟩:=hw h1
      have hs : mul (k+1) t (pr x (zero k)) (pr x (zero k))=a:=(Ygm hx1).trans ea.symm
      refine Ce rfl (Xn0 (x:=x) (y:=zero k) (by omega)) ?_
      exact Rt rfl (.tup (.cons (.rf rfl) (Xxb ⟨_,hs⟩))) ⟨_,rfl,fun _=>⟨_,hs,rfl⟩⟩
    · refine Ce rfl (R6.Inv_ok hT.1 hT.2 hR.1 hi (by omega) (by omega)) ?_
      refine Ce rfl (R6.Mul_el hT.1 hx hiz (by omega) (by omega)) ?_
      refine Ca rfl (ih hT.1 (hx.mul hT.1 hiz) hR.1 (by omega) (by omega)) fun v hv=>?_
      obtain ⟨w,rfl,hw⟩:=hv
      refine By rfl (fun h2=>?_) fun h2=>?_
      · obtain ⟨x,hx1,rfl⟩:=hw h2
        have hs : mul (k+1) t (pr (zero k) x) (pr (zero k) x)=a:=(Xta him hx1).trans ea.symm
        refine Ce rfl (Xn0 (x:=zero k) (y:=x) (by omega)) ?_
        exact Rt rfl (.tup (.cons (.rf rfl) (Xxb ⟨_,hs⟩))) ⟨_,rfl,fun _=>⟨_,hs,rfl⟩⟩
      · have no : ¬ Xb6 (k+1) t a:=ea ▸ Xle hR.1 him h1 h2
        exact Rt rfl (.tup (.cons (.nil (sz:=4) rfl) (Xvo no))) ⟨_,rfl,fun e=>absurd e no⟩
  have ev : a.2≠zero k:=fun e=>hv ((Xaq k a.2).1 e)
  refine Ce rfl (R6.Mul_el hT.1 hx hx (by omega) (by omega)) ?_
  refine Ce rfl (R6.Mul_el hT.1 hy hy (by omega) (by omega)) ?_
  refine Ce rfl (R6.Mul_el hT.1 hT.2 (hy.mul hT.1 hy) (by omega) (by omega)) ?_
  refine Ce rfl (R6.Sub_el (by omega) (hx.mul hT.1 hx).ps (hT.2.mul hT.1 (hy.mul hT.1 hy)) (by omega)) ?_
  rw [L.mc t.2]
  refine Ca rfl (ih hT.1 hz hR.1 (by omega) (by omega)) fun v hv=>?_
  obtain ⟨w,rfl,hw⟩:=hv
  refine By rfl (fun h1=>?_) fun h1=>?_
  · have no : ¬ Xb6 (k+1) t a:=fun e=>by
     exact h1 (Xs9 e)
    exact Rt rfl (.tup (.cons (.nil (sz:=4) rfl) (Xvo no))) ⟨_,rfl,fun e=>absurd e no⟩
  obtain ⟨m,hm,rfl⟩:=hw (W4k.1 h1)
  have hm : mul k t.1 m m=Tow.norm k t a:=hm
  have hmz:=hz.rootS hT.1 hR.1 hm
  refine Ce rfl (R2.Frac_ok (a:=1) (b:=2) (by decide) (by decide) (by decide)) ?_
  rw [Xvh]
  refine Ce rfl (R6.FromRat_el (t:=t.1) (x:=1 / 2) (by omega)) ?_
  refine Lo (fun (x : Nat × Tow.El k)=>[(9,.d (dt t.1)),(12,.d (de a.1)),(13,.d (de a.2)),(22,.d (de x.2)),(24,.d (de (rat k (1 / 2)))),(25,.d (.int .i64 x.1))]) (fun _=>[]) (fun x=>(x.1=0∧x.2=m)∨(x.1=1∧x.2=Tow.neg k m∧¬ Xb6 k t.1 (mul k t.1 (rat k (1 / 2)) (Tow.add k a.1 m)))∨(x.1=2∧¬ Xb6 k t.1 (mul k t.1 (rat k (1 / 2)) (Tow.add k a.1 m))∧¬ Xb6 k t.1 (mul k t.1 (rat k (1 / 2)) (Tow.add k a.1 (Tow.neg k m))))) (fun x=>2 - x.1) (0,m) [] rfl (.inl ⟨rfl,rfl⟩) (fun (j,mm) hI=>?_)
  simp only at hI
  refine By rfl (fun h2=>?_) fun h2=>?_
  · have hmm : mul k t.1 mm mm=Tow.norm k t a∧Sz (nS r k p+gC r k) (toL k mm):=by
     rcases hI with ⟨_,rfl⟩ | ⟨_,rfl,_⟩ | ⟨rfl,_⟩
     · exact ⟨hm,hmz⟩
     · exact ⟨by rw [L.mn,L.nm,L.nn,hm],Xgj hmz⟩
     · omega
    have hS : Sz (3+(p+(nS r k p+gC r k)+1)+cB r k) (toL k (mul k t.1 (rat k (1 / 2)) (Tow.add k a.1 mm))):=Sz.half.mul hT.1 (by rw [Xat];exact hx.add hmm.2)
    have q5 : qB r k (3+(p+(nS r k p+gC r k)+1)+cB r k)≤qB r k (sX r k p):=Xcz (by omega)
    refine Ce rfl (R6.Add_el (by omega) hx.ps hmm.2.ps (by omega)) ?_
    refine Ce rfl (R6.Mul_el hT.1 Sz.half (by rw [Xat];exact hx.add hmm.2) (by omega) (by omega)) ?_
    refine Ca rfl (ih hT.1 hS hR.1 (by omega) (by omega)) fun v hv=>?_
    obtain ⟨w,rfl,hw⟩:=hv
    refine By rfl (fun h3=>?_) fun h3=>?_
    · obtain ⟨w,hw1,rfl⟩:=hw h3
      have hw0:=Ygl hR ev hmm.1 hw1
      obtain ⟨j,hj⟩:=(Xdy hR.1).2 w hw0
      have hwz : Sz (sX r k p+gC r k) (toL k w):=(hS.rootS hT.1 hR.1 hw1).mono (by omega)
      have hjz:=Sz.invS hT.1 hwz hj
      have hs : mul (k+1) t (pr w (mul k t.1 (rat k (1 / 2)) (mul k t.1 a.2 j))) (pr w (mul k t.1 (rat k (1 / 2)) (mul k t.1 a.2 j)))=a:=by
       have:=Ygo hmm.1 hw1 (Xys (Xc1 hj))
       rwa [show mul k t.1 a.2 (mul k t.1 (rat k (1 / 2)) j)=mul k t.1 (rat k (1 / 2)) (mul k t.1 a.2 j) from L.mlc _ _ _] at this
      refine Ce rfl (R6.Inv_ok hT.1 hwz hR.1 hj (by omega) (by omega)) ?_
      refine Ce rfl (R6.Mul_el hT.1 hy hjz (by omega) (by omega)) ?_
      refine Ce rfl (R6.Mul_el hT.1 Sz.half (hy.mul hT.1 hjz) (by omega) (by omega)) ?_
      refine Ce rfl (Xn0 (by omega)) ?_
      exact Rt rfl (.tup (.cons (.rf rfl) (Xxb ⟨_,hs⟩))) ⟨_,rfl,fun _=>⟨_,hs,rfl⟩⟩
    · refine Ce rfl (R6.Neg_el (by omega) hmm.2.ps (by omega)) ?_
      refine Ar (j+1 : Nat) rfl ?_
      refine Bk (j+1,Tow.neg k mm) [] rfl ?_ (by show 2 - (j+1)<2 - j;omega)
      rcases hI with ⟨rfl,rfl⟩ | ⟨rfl,rfl,h4⟩ | ⟨rfl,_⟩
      · exact .inr (.inl ⟨rfl,rfl,h3⟩)
      · exact .inr (.inr ⟨rfl,h4,h3⟩)
      · omega
  · have no : ¬ Xb6 (k+1) t a:=fun e=>by
     rcases hI with ⟨rfl,rfl⟩ | ⟨rfl,rfl,h4⟩ | ⟨rfl,h4,h5⟩
     · omega
     · omega
     · obtain ⟨w,_,h6 | h6⟩:=Xo7 hR.1 ev hm e
       · exact h4 ⟨w,h6⟩
       · exact h5 ⟨w,h6⟩
    exact Rt rfl (.tup (.cons (.nil (sz:=4) rfl) (Xvo no))) ⟨_,rfl,fun e=>absurd e no⟩
theorem Xj3 {k r p : Nat} {t : Tw k} {a : Tow.El k} (hT : TS r k t) (ha : Sz p (toL k a)) (hR : red k t) (hk : k≤16) (hq : qB r k p≤4398046511104) (hv : vB r k (p+gC r k)≤4398046511104) (hr : vB r k r≤4398046511104) :
 C0 360 [.d (dt t),.d (de a)] fun v=>∃ w : D,v=.tup (.pr (.d w) (.b (dc (Xb6 k t a))))∧(Xb6 k t a→∃ x,mul k t x x=a∧0≤sgn k t x∧w=de x):=by
 have L:=Xay k t
 have S:=Xas (Xag hR)
 have:=Xc6 (r:=r) k (p+gC r k)
 refine En Tryz.func360 fun _ _ _=>?_
 refine Ca rfl (Xdw hT ha hR hk hq) fun v hv=>?_
 obtain ⟨w,rfl,hw⟩:=hv
 refine By rfl (fun h=>?_) fun h=>?_
 · exact Rt rfl (.tup (.cons (.nil (sz:=4) rfl) (Xvo h))) ⟨_,rfl,fun e=>absurd e h⟩
 have h:=W4k.1 h
 obtain ⟨x,hx,rfl⟩:=hw h
 have hz:=ha.rootS hT hR hx
 refine Ce rfl (R7.Sign_ok hT hz (Xag hR) hk hv hr) ?_
 refine By rfl (fun h1=>?_) fun h1=>?_
 · refine Ce rfl (R6.Neg_el hk hz.ps (by omega)) ?_
   exact Rt rfl (.tup (.cons (.rf rfl) (Xxb h))) ⟨_,rfl,fun _=>⟨Tow.neg k x,by rw [L.mn,L.nm,L.nn,hx],by rw [S.sn];omega,rfl⟩⟩
 · exact Rt rfl (.tup (.cons (.rf rfl) (Xxb h))) ⟨_,rfl,fun _=>⟨x,hx,by omega,rfl⟩⟩
theorem Xgd {k r : Nat} {t : Tw k} (hT : TS r k t) (hR : red k t) (hk : k≤16) (hq : qB r k r≤4398046511104) (hv : vB r k r≤4398046511104) : C0 307 [.d (dt t)] (·=.b true):=by
 have:=Xc6 (r:=r) k r
 refine En Tryz.func307 fun _ _ _=>?_
 refine Lo (fun i : Nat=>[(0,.d (dt t)),(3,.d (.int .i64 i))]) (fun _=>[]) (fun i=>i≤k) (fun i=>k - i) 0 [] rfl (by omega) (fun i hi=>?_)
 refine By rfl (fun h=>?_) fun h=>?_ <;> simp only [lt',Xaa] at h
 · obtain ⟨w,x,h1,h2,h3,h4,h5⟩:=Tw.take (t:=t) (i:=i) (by omega)
   have hx:=h3 r hT
   obtain ⟨h6,h7,h8⟩:=h5 hR
   have q1:=Xx8 (r:=r) (p:=r) (show i≤k by omega)
   have v1:=Xla (r:=r) (s:=r) (show i≤k by omega)
   refine Dw rfl ?_
   refine Tk i ((toT i w).map dqs) rfl rfl (by rw [lt',Xaa];omega) (by rw [←W2w,h1]) ?_
   refine Ix i rfl (mp h2) ?_
   refine Ce rfl (R6.Formed_ok (TS.pt hx.1) (by omega) hx.2.ps (by omega) (by rw [Xaa];omega) (Yfo w x)) ?_
   refine No rfl (by simp) ?_
   refine Tk i ((toT i w).map dqs) rfl rfl (by rw [lt',Xaa];omega) (by rw [←W2w,h1]) ?_
   refine Ix i rfl (mp h2) ?_
   refine Ce rfl (R7.Sign_ok hx.1 hx.2 (Xag h6) (by omega) (by omega) (by omega)) ?_
   refine No rfl (by omega) ?_
   refine Dw rfl ?_
   refine Tk i ((toT i w).map dqs) rfl rfl (by rw [lt',Xaa];omega) (by rw [←W2w,h1]) ?_
   refine Ix i rfl (mp h2) ?_
   refine Ca rfl (Xdw hx.1 hx.2 h6 (by omega) (by omega)) fun v hv=>?_
   obtain ⟨d,rfl,hd⟩:=hv
   refine No rfl h8 ?_
   refine Ar (i+1 : Nat) rfl ?_
   exact Bk (i+1) [] rfl (show i+1≤k by omega) (by show k - (i+1)<k - i;omega)
 · exact R0
def AdjR (k : Nat) (t : Tw k) (a : Tow.El k) (v : AV) : Prop :=
 (sgn k t a<0∧v=.tup (.pr (.d (dts [])) (.pr (.d (dqs [])) (.d (.int .i64 7))))) ∨
 (∃ x,mul k t x x=a∧0≤sgn k t x∧v=.tup (.pr (.d (dt t)) (.pr (.d (de x)) (.d (.int .i64 0))))) ∨
 (0≤sgn k t a∧¬ Xb6 k t a∧k<8∧v=.tup (.pr (.d (dt (tsn t a))) (.pr (.d (de (root (k+1) k))) (.d (.int .i64 0)))))
theorem Xw4 {k r p : Nat} {t : Tw k} {a : Tow.El k} (hT : TS r k t) (ha : Sz p (toL k a)) (hR : red k t) (hk : k<8) (hq : qB r k p≤4398046511104) (hv : vB r k (p+gC r k)≤4398046511104) (hr : vB r k r≤4398046511104) :
 C0 309 [.d (dt t),.d (de a)] (AdjR k t a):=by
 have h0:=Xct (r:=r) (k:=k) (show p≤p+gC r k by omega)
 have hlen:=Xaa k t
 refine En Tryz.func309 fun _ _ _=>?_
 refine Ce rfl (R7.Sign_ok hT ha (Xag hR) (by omega) (by omega) hr) ?_
 refine By rfl (fun h=>?_) fun h=>?_
 · exact Rt rfl (.tup (.cons (.nil rfl) (.cons (.nil rfl) Xa3))) (.inl ⟨h,rfl⟩)
 refine Ca rfl (Xj3 hT ha hR (by omega) hq hv hr) fun v hv=>?_
 obtain ⟨w,rfl,hw⟩:=hv
 refine By rfl (fun h1=>?_) fun h1=>?_
 · obtain ⟨x,x1,x2,rfl⟩:=hw h1
   exact Rt rfl (.tup (.cons (.rf rfl) (.cons (.rf rfl) Xa3))) (.inr (.inl ⟨x,x1,x2,rfl⟩))
 refine No rfl (by simp only [lt',hlen];omega) ?_
 have e : dt (tsn t a)=dts (toT k t++[toL k a]):=rfl
 have e2 : (((toT k t).map dqs).length : Int)=k:=by simp [hlen]
 by_cases k0 : k=0
 · subst k0
   refine ApE rfl rfl (by decide) ?_
   refine ApL ([toL 0 a].map dqs) rfl rfl (by simp) (by simp) ?_
   refine Fz 9 9 ([toL 0 a].map dqs) rfl (by simp) rfl ?_
   refine Ce rfl (R6.Root_ok (r:=r) (t:=tsn t a) (i:=0) (by omega) (by omega)) ?_
   exact Rt rfl (.tup (.cons (.rf rfl) (.cons (.rf rfl) Xa3))) (.inr (.inr ⟨by omega,h1,hk,rfl⟩))
 · refine ApL ((toT k t).map dqs) rfl rfl (by simp [hlen];omega) (by simp [hlen];omega) ?_
   refine ApO ((toT k t++[toL k a]).map dqs) rfl rfl rfl (by simp) (by simp [hlen];omega) ?_
   refine Fz 9 9 ((toT k t++[toL k a]).map dqs) rfl (by simp) (by rw [W1b];exact W0a (by simp)) ?_
   have hrt:=R6.Root_ok (r:=r) (t:=tsn t a) (i:=k) (by omega) (by omega)
   rw [←e2] at hrt
   refine Ce rfl hrt ?_
   exact Rt rfl (.tup (.cons (.rf rfl) (.cons (.rf rfl) Xa3))) (.inr (.inr ⟨by omega,h1,hk,rfl⟩))
theorem Adjoin_ok {k r p : Nat} {t : Tw k} {a : Tow.El k} (hT : TS r k t) (ha : Sz p (toL k a)) (hR : red k t) (hk : k<8) (hq : qB r k p≤4398046511104) (hq2 : qB r k r≤4398046511104) (hv : vB r k (p+gC r k)≤4398046511104) (hr : vB r k r≤4398046511104) :
 C0 231 [.d (dt t),.d (de a)] (AdjR k t a):=by
 have h0:=Xc6 (r:=r) k r
 have h1:=Xc6 (r:=r) k (p+gC r k)
 refine En Tryz.func231 fun _ _ _=>?_
 refine Ce rfl (Xgd hT hR (by omega) hq2 hr) ?_
 refine No rfl (by simp) ?_
 refine Ce rfl (R6.Formed_ok (TS.pt hT) (by omega) ha.ps (by omega) (by rw [Xaa];omega) (Yfo t a)) ?_
 refine No rfl (by simp) ?_
 refine Ca rfl (Xw4 hT ha hR hk hq hv hr) fun v hv=>?_
 rcases hv with ⟨h1,rfl⟩ | ⟨x,h1,h2,rfl⟩ | ⟨h1,h2,h3,rfl⟩
 · exact Rt rfl (.tup (.cons (.rf rfl) (.cons (.rf rfl) Xa3))) (.inl ⟨h1,rfl⟩)
 · exact Rt rfl (.tup (.cons (.rf rfl) (.cons (.rf rfl) Xa3))) (.inr (.inl ⟨x,h1,h2,rfl⟩))
 · exact Rt rfl (.tup (.cons (.rf rfl) (.cons (.rf rfl) Xa3))) (.inr (.inr ⟨h1,h2,h3,rfl⟩))
end Go.Proofs.YtpgcfjpkilabfaaGreatDoor.R8
namespace Go.Tow
open Go Go.Num Go.Proofs.YtpgcfjpkilabfaaGreatDoor
section
def ev {K : Nat} (G : Tw K) (ρ : Nat→El K) : (k : Nat)→El k→El K
 | 0,x=>rat K x
 | k+1,a=>add K (ev G ρ k a.1) (mul K G (ev G ρ k a.2) (ρ k))
def Hom {K : Nat} (G : Tw K) (ρ : Nat→El K) : (k : Nat)→Tw k→Prop
 | 0,_=>True
 | k+1,t=>Hom G ρ k t.1∧mul K G (ρ k) (ρ k)=ev G ρ k t.2∧sgn K G (ρ k)=1
variable {K : Nat} {G : Tw K} {ρ σ : Nat→El K}
theorem Xbp : ∀ {k : Nat} {a : El k},(∀ i,i<k→ρ i=σ i)→ev G ρ k a=ev G σ k a
 | 0,_,_=>rfl
 | k+1,a,h=>by
  show add K (ev G ρ k a.1) (mul K G (ev G ρ k a.2) (ρ k))=add K (ev G σ k a.1) (mul K G (ev G σ k a.2) (σ k))
  rw [Xbp (k:=k) fun i hi=>h i (by omega),Xbp (k:=k) (a:=a.2) fun i hi=>h i (by omega),h k (by omega)]
theorem Hom.congr : ∀ {k : Nat} {t : Tw k},Hom G ρ k t→(∀ i,i<k→ρ i=σ i)→Hom G σ k t
 | 0,_,_,_=>trivial
 | k+1,t,⟨h1,h2,h3⟩,h=>⟨h1.congr fun i hi=>h i (by omega),by rw [←h k (by omega),h2];exact Xbp fun i hi=>h i (by omega),by rw [←h k (by omega)];exact h3⟩
theorem Xh5 : ∀ {k : Nat},ev G ρ k (zero k)=zero K
 | 0=>Xdl K
 | k+1=>by
  show add K (ev G ρ k (zero k)) (mul K G (ev G ρ k (zero k)) (ρ k))=zero K
  rw [Xh5,(Xay K G).zm,(Xay K G).az]
theorem Xd7 : ∀ {k : Nat} {a b : El k},ev G ρ k (add k a b)=add K (ev G ρ k a) (ev G ρ k b)
 | 0,a,b=>Xdm K a b
 | k+1,a,b=>by
  show add K (ev G ρ k (add k a.1 b.1)) (mul K G (ev G ρ k (add k a.2 b.2)) (ρ k))=add K (add K (ev G ρ k a.1) (mul K G (ev G ρ k a.2) (ρ k))) (add K (ev G ρ k b.1) (mul K G (ev G ρ k b.2) (ρ k)))
  rw [Xd7,Xd7]
  have L:=Xay K G
  exact (Laws.req L [ev G ρ k a.1,ev G ρ k a.2,ev G ρ k b.1,ev G ρ k b.2,ρ k] (.add (.add (.v 0) (.v 2)) (.mul (.add (.v 1) (.v 3)) (.v 4))) (.add (.add (.v 0) (.mul (.v 1) (.v 4))) (.add (.v 2) (.mul (.v 3) (.v 4)))) (by decide +kernel))
theorem Xfo : ∀ {k : Nat} {a : El k},ev G ρ k (neg k a)=neg K (ev G ρ k a)
 | 0,a=>Xhn K a
 | k+1,a=>by
  show add K (ev G ρ k (neg k a.1)) (mul K G (ev G ρ k (neg k a.2)) (ρ k))=neg K (add K (ev G ρ k a.1) (mul K G (ev G ρ k a.2) (ρ k)))
  rw [Xfo,Xfo,(Xay K G).nm,(Xay K G).nd]
theorem Yiq {k : Nat} {a : El k} : ev G ρ (k+1) (up k a)=ev G ρ k a:=by
 show add K (ev G ρ k a) (mul K G (ev G ρ k (zero k)) (ρ k))=_
 rw [Xh5,(Xay K G).zm,(Xay K G).az]
theorem Xqs : ∀ {k : Nat} {x : Rat},ev G ρ k (rat k x)=rat K x
 | 0,_=>rfl
 | k+1,x=>by rw [show rat (k+1) x=up k (rat k x) from rfl,Yiq,Xqs]
theorem Xce : ∀ {k : Nat} {t : Tw k} {a b : El k},Hom G ρ k t→ev G ρ k (mul k t a b)=mul K G (ev G ρ k a) (ev G ρ k b)
 | 0,t,a,b,_=>Xcy K G a b
 | k+1,t,a,b,h=>by
  show add K (ev G ρ k (add k (mul k t.1 a.1 b.1) (mul k t.1 (mul k t.1 a.2 b.2) t.2))) (mul K G (ev G ρ k (add k (mul k t.1 a.1 b.2) (mul k t.1 a.2 b.1))) (ρ k))=mul K G (add K (ev G ρ k a.1) (mul K G (ev G ρ k a.2) (ρ k))) (add K (ev G ρ k b.1) (mul K G (ev G ρ k b.2) (ρ k)))
  rw [Xd7,Xd7,Xce h.1,Xce h.1,Xce h.1,Xce h.1,Xce h.1,←h.2.1]
  have L:=Xay K G
  exact (Laws.req L [ev G ρ k a.1,ev G ρ k a.2,ev G ρ k b.1,ev G ρ k b.2,ρ k] (.add (.add (.mul (.v 0) (.v 2)) (.mul (.mul (.v 1) (.v 3)) (.mul (.v 4) (.v 4)))) (.mul (.add (.mul (.v 0) (.v 3)) (.mul (.v 1) (.v 2))) (.v 4))) (.mul (.add (.v 0) (.mul (.v 1) (.v 4))) (.add (.v 2) (.mul (.v 3) (.v 4)))) (by decide +kernel))
theorem Yd9 {k : Nat} {t : Tw (k+1)} {a : El (k+1)} (h : Hom G ρ k t.1) : ev G ρ k (norm k t a)=add K (mul K G (ev G ρ k a.1) (ev G ρ k a.1)) (neg K (mul K G (mul K G (ev G ρ k a.2) (ev G ρ k a.2)) (ev G ρ k t.2))):=by
 unfold norm
 rw [Xd7,Xfo,Xce h,Xce h,Xce h]
theorem Xfn (hG : Xbu K G) : ∀ {k : Nat} {t : Tw k} {a : El k},Hom G ρ k t→sgn K G (ev G ρ k a)=sgn k t a
 | 0,t,a,_=>Xf2 hG
 | k+1,t,a,h=>by
  have L:=Xay K G
  have S:=Xas hG
  have e : sgn (k+1) t a=L.sx (ev G ρ k t.2) (sgn K G) (ev G ρ k a.1,ev G ρ k a.2):=by
   show (if sgn k t.1 a.2=0∨sgn k t.1 a.1=sgn k t.1 a.2 then sgn k t.1 a.1 else if sgn k t.1 a.1=0 then sgn k t.1 a.2 else sgn k t.1 a.1*sgn k t.1 (norm k t a))=_
   rw [←Xfn hG h.1,←Xfn hG h.1 (a:=a.1),←Xfn hG h.1 (a:=norm k t a),Yd9 h.1]
   rfl
  have hr : L.Rt (ev G ρ k t.2) (sgn K G) (ρ k) (rat K 1):=by
   refine ⟨h.2.2,by rw [Xf2 hG];decide +kernel,?_⟩
   rw [h.2.1,L.mo,L.mo,L.an,S.s0 L]
  have hd : sgn K G (ev G ρ k t.2)=1:=by rw [←h.2.1,S.sm,h.2.2];rfl
  rw [e,S.sx_rt L hd hr,L.mo]
  rfl
theorem Yea (hG : Xbu K G) {k : Nat} {t : Tw k} (h : Hom G ρ k t) (hr : red k t) {a : El k} (e : ev G ρ k a=zero K) : a=zero k:=by
 have:=Xfn hG h (a:=a)
 rw [e,(Xas hG).s0 (Xay K G)] at this
 exact (Xbz hr).1 this.symm
theorem Xme (hG : Xbu K G) {k : Nat} {t : Tw k} (h : Hom G ρ k t) (hr : red k t) {a b : El k} (e : ev G ρ k a=ev G ρ k b) : a=b:=by
 refine (Xay k t).sub0 (Yea hG h hr (a:=add k a (neg k b)) ?_)
 rw [Xd7,Xfo,e,(Xay K G).an]
theorem Hom.uniq (hG : red K G) : ∀ {k : Nat} {t : Tw k},Hom G ρ k t→Hom G σ k t→∀ i,i<k→ρ i=σ i
 | 0,_,_,_,i,hi=>by omega
 | k+1,t,h,h',i,hi=>by
  have ih:=h.1.uniq hG h'.1
  by_cases e : i=k
  · subst e
    refine Xo6 hG (by rw [h.2.1,h'.2.1,Xbp ih]) (by rw [h.2.2];decide) (by rw [h'.2.2];decide)
  · exact ih i (by omega)
theorem Xpi (i : Nat) : root (i+1) i=(pr (zero i) (rat i 1) : El (i+1)):=by
 unfold root;rw [if_pos rfl]
theorem Xx3 {k i : Nat} (h : i≠k) : root (k+1) i=(up k (root k i) : El (k+1)):=by
 conv=>lhs;unfold root
 rw [if_neg h]
theorem Xh6 : ∀ {k i : Nat},i<k→ev G ρ k (root k i)=ρ i
 | k+1,i,hi=>by
  by_cases e : i=k
  · subst e
    rw [Xpi]
    show add K (ev G ρ i (zero i)) (mul K G (ev G ρ i (rat i 1)) (ρ i))=_
    rw [Xh5,Xqs,(Xay K G).om,(Xay K G).za]
  · rw [Xx3 e,Yiq,Xh6 (by omega)]
theorem Hom.ne (hG : Xbu K G) : ∀ {k : Nat} {t : Tw k},Hom G ρ k t→red k t→∀ i j,i<j→j<k→ρ i≠ρ j
 | 0,_,_,_,i,j,_,h=>by omega
 | k+1,t,h,hr,i,j,hij,hj=>fun e=>by
  by_cases ej : j=k
  · subst ej
    refine hr.2.2 ⟨root j i,Xme hG h.1 hr.1 ?_⟩
    rw [Xce h.1,Xh6 hij,e,h.2.1]
  · exact h.1.ne hG hr.1 i j hij (by omega) e
theorem Ya7 {α : Type} : ∀ (k : Nat) (S : List α) (f : Nat→α),(∀ i,i<k→f i∈S)→(∀ i j,i<j→j<k→f i≠f j)→k≤S.length
 | 0,_,_,_,_=>W1c _
 | k+1,S,f,h1,h2=>by
  obtain ⟨A,B,e⟩:=List.append_of_mem (h1 k (by omega))
  have:=Ya7 k (A++B) f (fun i hi=>by
   have h3:=h1 i (by omega)
   rw [e] at h3
   rcases W2x.1 h3 with h3 | h3
   · exact W2r _ h3
   · rcases W1k.1 h3 with h3 | h3
     · exact absurd h3 (h2 i k hi (by omega))
     · exact W1p _ h3) (fun i j hi hj=>h2 i j hi (by omega))
  rw [e]
  simp only [W0d,W0o] at this ⊢
  omega
structure TOk {K : Nat} (G : Tw K) (S : List (El K)) (k : Nat) (t : Tw k) (ρ : Nat→El K) : Prop where
 r : red k t
 h : Hom G ρ k t
 s : ∀ i,i<k→ρ i∈S
theorem TOk.le (hG : Xbu K G) {S : List (El K)} {k : Nat} {t : Tw k} (h : TOk G S k t ρ) : k≤S.length:=Ya7 k S ρ h.s (h.h.ne hG h.r)
theorem TOk.snoc (hG : Xbu K G) {S : List (El K)} {k : Nat} {t : Tw k} (h : TOk G S k t ρ) {a : El k} (hn : ¬ Xb6 k t a) {s : El K} (hs : s∈S) (h1 : mul K G s s=ev G ρ k a) (h2 : sgn K G s=1) : TOk G S (k+1) (tsn t a) (fun i=>if i=k then s else ρ i) where
 r:=⟨h.r,by show sgn k t a=1;rw [←Xfn hG h.h,←h1,(Xas hG).sm,h2];rfl,hn⟩
 h:=⟨h.h.congr fun i hi=>(if_neg (by omega)).symm,by
  show mul K G (if k=k then s else ρ k) (if k=k then s else ρ k)=ev G _ k a
  rw [if_pos rfl,h1];exact Xbp fun i hi=>(if_neg (by omega)).symm,by
  show sgn K G (if k=k then s else ρ k)=1
  rw [if_pos rfl,h2]⟩
 s:=fun i hi=>by
  show (if i=k then s else ρ i)∈S
  split
  · exact hs
  · exact h.s i (by omega)
end
section
variable {K : Nat} {G : Tw K} {ρ : Nat→El K}
def Lf {k m : Nat} (a : El k) (b : El m) : Prop:=toL m b=toL k a++List.replicate (2 ^ m - 2 ^ k) 0
theorem Lf.ex {k m : Nat} (h : k≤m) (a : El k) : ∃ b : El m,Lf a b:=by
 obtain ⟨b,hb⟩:=exE m (toL k a++List.replicate (2 ^ m - 2 ^ k) 0) (by
  have:=W0k (n:=2) (by decide) h
  rw [W0d,Xab,W1q];omega)
 exact ⟨b,hb⟩
theorem Lf.rfl' {k : Nat} (a : El k) : Lf a a:=by unfold Lf;rw [W3f];simp
theorem Lf.eq {k : Nat} {a b : El k} (h : Lf a b) : b=a:=by
 unfold Lf at h;rw [W3f] at h
 exact Xhb (by simpa using h)
theorem Lf.ev {k : Nat} {a : El k} : ∀ {m : Nat} {b : El m},k≤m→Lf a b→ev G ρ m b=ev G ρ k a:=by
 intro m
 induction m with
 | zero=>intro b h hl;have:=Nat.le_zero.1 h;subst this;rw [hl.eq]
 | succ m ih =>
  intro b h hl
  by_cases e : k=m+1
  · subst e;rw [hl.eq]
  · have hp:=W0k (n:=2) (by decide) (show k≤m by omega)
    have hs : 2 ^ (m+1) - 2 ^ k=(2 ^ m - 2 ^ k)+2 ^ m:=by rw [W0s];omega
    have hl : toL m b.1++toL m b.2=(toL k a++List.replicate (2 ^ m - 2 ^ k) 0)++List.replicate (2 ^ m) 0:=by
     have : toL (m+1) b=_:=hl
     rw [hs,←W4t,←W3c] at this
     exact this
    obtain ⟨h1,h2⟩:=Xe5 (by rw [Xab,W0d,Xab,W1q];omega) hl
    have e2 : b.2=zero m:=Xhb (by rw [h2,Xbo])
    show add K (Tow.ev G ρ m b.1) (mul K G (Tow.ev G ρ m b.2) (ρ m))=_
    rw [e2,Xh5,(Xay K G).zm,(Xay K G).az]
    exact ih (by omega) h1
theorem Lf.sz {k m p : Nat} {a : El k} {b : El m} (h : Lf a b) (ha : Sz p (toL k a)) : Sz p (toL m b):=by
 obtain ⟨d,d0,d1,d2⟩:=ha
 rw [h]
 exact ⟨d,d0,d1,d2.append fun x hx=>⟨0,by rw [(W5t.1 hx).2,W5f];rfl,W0n p⟩⟩
theorem Xjq : ∀ {k : Nat} {t w : Tw k},toT k t=toT k w→t=w
 | 0,_,_,_=>rfl
 | k+1,t,w,h=>by
  have h : toT k t.1++[toL k t.2]=toT k w.1++[toL k w.2]:=h
  obtain ⟨h1,h2⟩:=Xe5 (by rw [Xaa,Xaa]) h
  exact W2f (Xjq h1) (Xhb (by injection h2))
theorem Tw.cut {k : Nat} : ∀ {t : Tw k} {i : Nat},i≤k→∃ w : Tw i,toT i w=(toT k t).take i∧(∀ r,TS r k t→TS r i w)∧(red k t→red i w)∧∀ {K : Nat} {G : Tw K} {ρ : Nat→El K},Hom G ρ k t→Hom G ρ i w:=by
 induction k with
 | zero=>intro t i h;have:=Nat.le_zero.1 h;subst this;exact ⟨t,rfl,fun _ h=>h,fun h=>h,fun h=>h⟩
 | succ k ih =>
  intro t i h
  by_cases e : i=k+1
  · subst e;exact ⟨t,by rw [W0a (by rw [Xaa];exact W0c _)],fun _ h=>h,fun h=>h,fun h=>h⟩
  · obtain ⟨w,h1,h2,h3,h4⟩:=ih (t:=t.1) (i:=i) (by omega)
    refine ⟨w,?_,fun r h=>h2 r h.1,fun h=>h3 h.1,fun h=>h4 h.1⟩
    show _=(toT k t.1++[toL k t.2]).take i
    rw [List.take_append_of_le_length (by rw [Xaa];omega),h1]
def Beg (k : Nat) (t : Tw k) (m : Nat) (T : Tw m) : Prop:=(toT m T).take (toT k t).length=toT k t
theorem Beg.le {k m : Nat} {t : Tw k} {T : Tw m} (h : Beg k t m T) : k≤m:=by
 have:=congrArg List.length h
 simp only [W0j,Xaa] at this;omega
theorem Beg.hom {k m : Nat} {t : Tw k} {T : Tw m} (h : Beg k t m T) (hT : Hom G ρ m T) : Hom G ρ k t:=by
 obtain ⟨w,h1,_,_,h4⟩:=Tw.cut (t:=T) h.le
 have : w=t:=Xjq (by rw [h1];unfold Beg at h;rwa [Xaa] at h)
 rw [←this];exact h4 hT
theorem Beg.rf {k : Nat} {t : Tw k} : Beg k t k t:=W0a (W0c _)
theorem Beg.tr {k l m : Nat} {t : Tw k} {u : Tw l} {w : Tw m} (h : Beg k t l u) (h' : Beg l u m w) : Beg k t m w:=by
 have h1:=h.le
 unfold Beg at *
 rw [←h',List.take_take,Xaa,Xaa,W2c h1] at h
 rw [Xaa];exact h
theorem Beg.snoc {k : Nat} {t : Tw k} {a : El k} : Beg k t (k+1) (tsn t a):=W6p rfl
def imB (c z : Nat) : Nat→Nat→Nat
 | 0,p=>p+1
 | j+1,p=>2*imB c z j p+z+c+1
theorem Xkr {k R z : Nat} {T : Tw k} {σ : Nat→El k} (hT : TS R k T) : ∀ {j p : Nat} {a : El j},(∀ i,i<j→Sz z (toL k (σ i)))→Sz p (toL j a)→Sz (imB (cB R k) z j p) (toL k (ev T σ j a))
 | 0,p,a,_,ha=>Sz.rat k (ha.qs (x:=a) (W0e.2 rfl))
 | j+1,p,a,hs,ha=>by
  have h1:=Xkr hT (a:=a.1) (fun i hi=>hs i (by omega)) (Sz.left ha)
  have h2:=Xkr hT (a:=a.2) (fun i hi=>hs i (by omega)) (Sz.right ha)
  have h3:=h2.mul hT (hs j (by omega))
  show Sz _ (toL k (add k (Tow.ev T σ j a.1) (mul k T (Tow.ev T σ j a.2) (σ j))))
  rw [Xat]
  exact (h1.add h3).mono (by show _≤2*imB (cB R k) z j p+z+cB R k+1;omega)
theorem Xmf {k : Nat} {T : Tw k} {σ : Nat→El k} {ρ' : Nat→El K} (hT : Hom G ρ k T) : ∀ {j : Nat} {a : El j},(∀ i,i<j→ev G ρ k (σ i)=ρ' i)→ev G ρ k (ev T σ j a)=ev G ρ' j a
 | 0,a,_=>Xqs
 | j+1,a,h=>by
  show ev G ρ k (add k (ev T σ j a.1) (mul k T (ev T σ j a.2) (σ j)))=add K (ev G ρ' j a.1) (mul K G (ev G ρ' j a.2) (ρ' j))
  rw [Xd7,Xce hT,Xmf hT fun i hi=>h i (by omega),Xmf hT (a:=a.2) fun i hi=>h i (by omega),h j (by omega)]
end
section
theorem Tw.at {k : Nat} : ∀ {t : Tw k} {i : Nat},i<k→∃ x : El i,(toT k t)[i]?=some (toL i x)∧(∀ r,TS r k t→Sz r (toL i x))∧∀ {K : Nat} {G : Tw K} {ρ : Nat→El K},Hom G ρ k t→mul K G (ρ i) (ρ i)=ev G ρ i x∧sgn K G (ρ i)=1:=by
 induction k with
 | zero=>intro t i h;omega
 | succ k ih =>
  intro t i h
  have hl:=Xaa k t.1
  by_cases e : i=k
  · subst e
    refine ⟨t.2,?_,fun r h=>h.2,fun h=>h.2⟩
    show (toT i t.1++[toL i t.2])[i]?=_
    rw [W0v (by omega),hl,W3f];rfl
  · obtain ⟨x,h1,h2,h3⟩:=ih (t:=t.1) (i:=i) (by omega)
    refine ⟨x,?_,fun r h=>h2 r h.1,fun h=>h3 h.1⟩
    show (toT k t.1++[toL k t.2])[i]?=_
    rw [W1a (by omega),h1]
theorem _root_.Go.Proofs.YtpgcfjpkilabfaaGreatDoor.TS.mono {r s : Nat} (h : r≤s) : ∀ {k : Nat} {t : Tw k},TS r k t→TS s k t
 | 0,_,_=>trivial
 | k+1,t,ht=>⟨ht.1.mono h,ht.2.mono h⟩
theorem Xgl {r i k : Nat} (h : i≤k) : cB r i≤cB r k:=by
 induction k with
 | zero=>rw [show i=0 by omega];exact W0c _
 | succ k ih =>
  by_cases e : i=k+1
  · rw [e];exact W0c _
  · exact W0h (ih (by omega)) (Yl1 r k)
theorem Yif {r i k : Nat} (h : i≤k) : gC r i≤gC r k:=by
 induction k with
 | zero=>rw [show i=0 by omega];exact W0c _
 | succ k ih =>
  by_cases e : i=k+1
  · rw [e];exact W0c _
  · exact W0h (ih (by omega)) (by show _≤2*gC r k+2*cB r k+r+iS r k r+2;omega)
theorem Xg4 {c c' z z' p p' : Nat} (h1 : c≤c') (h2 : z≤z') (h3 : p≤p') : ∀ {j : Nat},imB c z j p≤imB c' z' j p'
 | 0=>by show p+1≤p'+1;omega
 | j+1=>by have:=Xg4 h1 h2 h3 (j:=j);show 2*imB c z j p+z+c+1≤2*imB c' z' j p'+z'+c'+1;omega
theorem Ybn {c z p : Nat} : ∀ {j : Nat},p≤imB c z j p
 | 0=>by show p≤p+1;omega
 | j+1=>by have:=Ybn (c:=c) (z:=z) (p:=p) (j:=j);show _≤2*imB c z j p+z+c+1;omega
variable {K : Nat} {G : Tw K} {ρ ρ' ρu : Nat→El K}
def RtV (G : Tw K) (m z j : Nat) (rs : List (List Rat)) (ρ ρu : Nat→El K) : Prop:=∀ i,i<j→∃ (n : Nat) (s : El n),n≤m∧rs[i]?=some (toL n s)∧Sz z (toL n s)∧ev G ρ n s=ρu i
theorem RtV.mono {m m' z z' j : Nat} {rs : List (List Rat)} (h : RtV G m z j rs ρ ρu) (hm : m≤m') (hz : z≤z') (hr : ∀ i,i<m→ρ' i=ρ i) : RtV G m' z' j rs ρ' ρu:=fun i hi=>by
 obtain ⟨n,s,h1,h2,h3,h4⟩:=h i hi
 exact ⟨n,s,by omega,h2,h3.mono hz,by rw [←h4];exact Xbp fun i hi=>hr i (by omega)⟩
theorem RtV.snoc {m z j n : Nat} {rs : List (List Rat)} (h : RtV G m z j rs ρ ρu) (hl : rs.length=j) {s : El n} (hn : n≤m) (hz : Sz z (toL n s)) (he : ev G ρ n s=ρu j) : RtV G m z (j+1) (rs++[toL n s]) ρ ρu:=fun i hi=>by
 by_cases e : i=j
 · subst e
   exact ⟨n,s,hn,by rw [W0v (by omega),hl,W3f];rfl,hz,he⟩
 · obtain ⟨n',s',h1,h2,h3,h4⟩:=h i (by omega)
   exact ⟨n',s',h1,by rw [W1a (by omega),h2],h3,h4⟩
structure Nm where
 k : Nat
 t : Tw k
 a : El k
structure NOk (G : Tw K) (S : List (El K)) (r p : Nat) (x : Nm) (v : El K) : Prop where
 ex : ∃ ρ,TOk G S x.k x.t ρ∧ev G ρ x.k x.a=v
 r : TS r x.k x.t
 p : Sz p (toL x.k x.a)
theorem NOk.mono {S : List (El K)} {r r' p p' : Nat} {x : Nm} {v : El K} (h : NOk G S r p x v) (hr : r≤r') (hp : p≤p') : NOk G S r' p' x v:=⟨h.ex,h.r.mono hr,h.p.mono hp⟩
theorem NOk.le (hG : Xbu K G) {S : List (El K)} {r p : Nat} {x : Nm} {v : El K} (h : NOk G S r p x v) (hS : S.length≤3) : x.k≤3:=by
 obtain ⟨ρ,h1,_⟩:=h.ex
 exact W0h (h1.le hG) hS
theorem NOk.sgn (hG : Xbu K G) {S : List (El K)} {r p : Nat} {x : Nm} {v : El K} (h : NOk G S r p x v) : sgn K G v=sgn x.k x.t x.a:=by
 obtain ⟨ρ,h1,h2⟩:=h.ex
 rw [←h2,Xfn hG h1.h]
theorem NOk.neg {S : List (El K)} {r p : Nat} {x : Nm} {v : El K} (h : NOk G S r p x v) : NOk G S r p ⟨x.k,x.t,Tow.neg x.k x.a⟩ (Tow.neg K v):=by
 obtain ⟨ρ,h1,h2⟩:=h.ex
 exact ⟨⟨ρ,h1,by rw [←h2];exact Xfo⟩,h.r,by rw [Xb4];exact h.p.neg⟩
end
end Go.Tow
namespace Go.Vm
open Go
section
variable {c : Cx} {s : St} {p : Pl}
theorem Nd (t sz : Nat) {K : List Kt} {E : Env} {H : Hpl} (h : nxJ c.tb c.n s=some (K,E,H)) (k : StP c (.j [] K ((t,.d (.sl sz []))::E) H)) (hv : look E t=some .nil:=by exact rfl) : StP c s:=by
 unfold nxJ at h
 split at h <;> cases h
 rename_i hr
 refine go 1000 hr ?_
 rintro a w ⟨s0,W,θ,hw,hs,hθ,rfl⟩
 refine k a w ⟨_,W,θ,hw,?_,hθ,rfl⟩
 rw [show sem ((t,AV.d (.sl sz []))::E) H=(upd (look E) t (.d (.sl sz [])),look H) from by rw [Xa5]]
 refine ⟨hs.fm,⟨hs.rel.defers,hs.rel.size,fun q v hq=>?_⟩,hs.obs,fun q v i hq hi=>?_⟩
 · rcases Xae hq with ⟨e1,e2⟩ | ⟨e1,e2⟩
   · subst e1;subst e2
     obtain ⟨p,e⟩:=Xk3 (hs.rel.has q _ hv)
     rw [e]
     exact Yky rfl (W0c _) (by decide) (.inl rfl)
   · exact hs.rel.has q v e2
 · rcases Xae hq with ⟨e1,e2⟩ | ⟨e1,e2⟩
   · subst e2;exact hi.elim
   · exact hs.ids q v i e2 hi
end
end Go.Vm
namespace Go.Proofs.YtpgcfjpkilabfaaGreatDoor.R9
open Go Go.Vm Go.Num Go.Tow Go.Proofs.YtpgcfjpkilabfaaGreatDoor
theorem cmpQ_ne {x y : Rat} : Xgu x y≠0↔x≠y:=by
 unfold Xgu
 split
 · exact ⟨fun _ e=>by subst e;exact absurd ‹_› (Rat.lt_irrefl),fun _=>by decide⟩
 · split
   · exact ⟨fun _ e=>by subst e;exact absurd ‹_› (Rat.lt_irrefl),fun _=>by decide⟩
   · exact ⟨fun h=>absurd rfl h,fun h=>by grind⟩
theorem Ycy {l m : List Rat} {p q : Nat} (hl : Ps p l) (hm : Ps q m) (hp : p+q≤8796093022208) (hn : l.length≤1048576) : C0 390 [.d (dqs l),.d (dqs m)] (·=.b (dc (l=m))):=by
 refine En Tryz.func390 fun _ _ _=>?_
 refine By rfl (fun h=>?_) fun h=>?_ <;> simp only [lq] at h
 · exact R1 rfl (.bp ⟨nofun,fun e=>absurd (by rw [e]) h⟩)
 have h : l.length=m.length:=by omega
 refine Lo (fun k : Nat=>[(0,.d (dqs l)),(1,.d (dqs m)),(5,.d (.int .i64 k))]) (fun _=>[]) (fun k=>k≤l.length∧l.take k=m.take k) (fun k=>l.length - k) 0 [] rfl ⟨by omega,rfl⟩ fun k ⟨hk,ht⟩=>?_
 refine By rfl (fun h2=>?_) fun h2=>?_ <;> simp only [lq] at h2
 · obtain ⟨x,hx⟩:=qat (l:=l) (k:=k) (by omega)
   obtain ⟨y,hy⟩:=qat (l:=m) (k:=k) (by omega)
   refine Dw rfl ?_
   refine Ix k rfl (mp hx) ?_
   refine Ix k rfl (mp hy) ?_
   refine Ce rfl (R2.Cmp_ok (hl x (W0r hx)) (hm y (W0r hy)) hp) ?_
   refine By rfl (fun h3=>?_) fun h3=>?_
   · exact R1 rfl (.bp ⟨nofun,fun e=>by subst e;rw [hx] at hy;injection hy with hy;exact absurd hy (cmpQ_ne.1 h3)⟩)
   · have e : x=y:=W1e fun h=>h3 (cmpQ_ne.2 h)
     refine Ar (k+1 : Nat) rfl ?_
     exact Bk (k+1) [] rfl ⟨by omega,by rw [W0z,W0z,hx,hy,ht,e]⟩ (by show l.length - (k+1)<l.length - k;omega)
 · rw [W0a (by omega),W0a (by omega)] at ht
   exact R1 rfl (.bp ⟨fun _=>ht,fun _=>rfl⟩)
theorem begins_ok {T U : List (List Rat)} {p q : Nat} (hT : Pt p T) (hU : Pt q U) (hp : p+q≤8796093022208) (hl : T.length≤16) : C0 364 [.d (dts T),.d (dts U)] (·=.b (dc (T.take U.length=U))):=by
 refine En Tryz.func364 fun _ _ _=>?_
 refine By rfl (fun h=>?_) fun h=>?_ <;> simp only [lt'] at h
 · exact R1 rfl (.bp ⟨nofun,fun e=>absurd (congrArg List.length e) (by rw [W0j];omega)⟩)
 refine Lo (fun k : Nat=>[(0,.d (dts T)),(1,.d (dts U)),(5,.d (.int .i64 k))]) (fun _=>[]) (fun k=>k≤U.length∧T.take k=U.take k) (fun k=>U.length - k) 0 [] rfl ⟨by omega,rfl⟩ fun k ⟨hk,ht⟩=>?_
 refine By rfl (fun h2=>?_) fun h2=>?_ <;> simp only [lt'] at h2
 · obtain ⟨x,hx⟩ : ∃ x,T[k]?=some x:=⟨_,W0b (by omega)⟩
   obtain ⟨y,hy⟩ : ∃ y,U[k]?=some y:=⟨_,W0b (by omega)⟩
   obtain ⟨x1,x2⟩:=hT k x hx
   obtain ⟨y1,y2⟩:=hU k y hy
   have:=p16 (show k≤16 by omega)
   refine Dw rfl ?_
   refine Ix k rfl (mp hx) ?_
   refine Ix k rfl (mp hy) ?_
   refine Ce rfl (Ycy x2 y2 hp (by omega)) ?_
   refine By rfl (fun h3=>?_) fun h3=>?_
   · exact R1 rfl (.bp ⟨nofun,fun e=>by
      have : U[k]?=some x:=by rw [←e,W1i,if_pos (by omega),hx]
      rw [hy] at this;injection this with this
      exact absurd this.symm (by simpa [Xbb,Xan] using h3)⟩)
   · have e : x=y:=by simpa [Xbb,Xan] using h3
     refine Ar (k+1 : Nat) rfl ?_
     exact Bk (k+1) [] rfl ⟨by omega,by rw [W0z,W0z,hx,hy,ht,e]⟩ (by show U.length - (k+1)<U.length - k;omega)
 · have e : k=U.length:=by omega
   subst e
   rw [W2b] at ht
   exact R1 rfl (.bp ⟨fun _=>ht,fun _=>rfl⟩)
theorem Yds {T : List (List Rat)} {l : List Rat} (h0 : 0<l.length) (hT : T.length≤16) (hl : l.length≤2 ^ T.length) : C0 366 [.d (dts T),.d (dqs l)] (·=.d (dqs (l++List.replicate (2 ^ T.length - l.length) 0))):=by
 have hp:=p16 hT
 obtain ⟨n,hn⟩ : ∃ n,n=2 ^ T.length:=⟨_,rfl⟩
 rw [←hn] at hp hl ⊢
 refine En Tryz.func366 fun _ _ _=>?_
 refine ApL ((l++List.replicate 0 0).map dq) rfl (by simp) (by simpa using h0) (by simp;omega) ?_
 refine Lo (fun k : Nat=>[(0,.d (dts T)),(5,.own 6 4 0 ((l++List.replicate k 0).map dq).length)]) (fun k=>[(6,.arr 4 ((l++List.replicate k 0).map dq))]) (fun k=>l.length+k≤n) (fun k=>n - k) 0 [(8,6)] rfl (by omega) fun k hk=>?_
 refine Ar n rfl ?_ (by rw [hn];simp only [lt'];exact Xbl (by omega))
 refine By rfl (fun h=>?_) fun h=>?_ <;> simp only [lq,W0d,W1q] at h
 · refine Ce rfl (R2.FromInt_ok (z:=0) (by decide)) ?_
   refine ApO ((l++List.replicate (k+1) 0).map dq) rfl rfl rfl (by rw [W6h];simp) (by simp;omega) ?_
   exact Bk (k+1) [(18,6)] rfl (show l.length+(k+1)≤n by omega) (by show n - (k+1)<n - k;omega)
 · refine R1 rfl (.own rfl (by omega) ?_)
   rw [W1b,show n - l.length=k by omega]
   exact W0a (by simp)
theorem Xut {k m : Nat} {s : Tow.El k} {b : Tow.El m} {T : Tw m} (h : Lf s b) (hk : k≤m) (hm : m≤16) : C0 366 [.d (dt T),.d (de s)] (·=.d (de b)):=by
 have:=Yds (T:=toT m T) (l:=toL k s) (by rw [Xab];exact W0n k) (by rw [Xaa];omega) (by rw [Xab,Xaa];exact W0k (by decide) hk)
 rw [Xaa,Xab,←h] at this
 exact this
def Rts (k z j : Nat) (rs : List (List Rat)) (σ : Nat→Tow.El k) : Prop:=∀ i,i<j→∃ (m : Nat) (s : Tow.El m),m≤k∧rs[i]?=some (toL m s)∧Lf s (σ i)∧Sz z (toL k (σ i))
theorem Xfk {k R z : Nat} {T : Tw k} {rs : List (List Rat)} {σ : Nat→Tow.El k} (hT : TS R k T) (hk : k≤16) : ∀ {j p : Nat} {a : Tow.El j},Rts k z j rs σ→Sz p (toL j a)→j≤16→imB (cB R k) z j p≤4398046511104 →
 C0 367 [.d (dt T),.d (dts rs),.d (de a)] (·=.d (de (ev T σ j a))):=by
 intro j
 induction j with
 | zero =>
  intro p a _ ha hj hb
  have key : ∀ y : Rat,Qs p y→C0 367 [.d (dt T),.d (dts rs),.d (dqs [y])] (·=.d (de (rat k y))):=fun y hy=>by
   refine En Tryz.func367 fun _ _ _=>?_
   refine Yes rfl rfl ?_
   refine Ix 0 rfl (u:=dq y) rfl ?_
   refine Ce rfl (R6.FromRat_el hk) ?_
   exact R0
  exact key a (ha.qs (W0e.2 rfl))
 | succ j ih =>
  intro p a hr ha hj hb
  have hb' : 2*imB (cB R k) z j p+z+cB R k+1≤4398046511104:=hb
  have hr' : Rts k z j rs σ:=fun i hi=>hr i (by omega)
  have hpj:=p16 (show j≤16 by omega)
  have hp0:=W0n j
  have hs : ∀ i,i<j→Sz z (toL k (σ i)):=fun i hi=>(hr' i hi).elim fun _ h=>h.elim fun _ h=>h.2.2.2
  have h1:=Xkr hT (a:=a.1) hs (Sz.left ha)
  have h2:=Xkr hT (a:=a.2) hs (Sz.right ha)
  obtain ⟨m,s,m1,m2,m3,m4⟩:=hr j (by omega)
  refine En Tryz.func367 fun _ _ _=>?_
  refine No rfl (by show ¬ ((((toL j a.1++toL j a.2).map dq).length : Nat) : Int)=1;rw [hvL];omega) ?_
  refine Ar (2 ^ j : Nat) rfl ?_ (hvq a (by omega))
  refine Lo (fun i : Nat=>[(0,.d (dt T)),(1,.d (dts rs)),(2,.d (de a)),(7,.d (.int .i64 (2 ^ j : Nat))),(8,.d (.int .i64 i))]) (fun _=>[]) (fun i=>i≤j) (fun i=>j - i) 0 [] rfl (by omega) fun i hi=>?_
  refine Ar (i+1 : Nat) rfl ?_
  refine Ar (2 ^ (i+1) : Nat) rfl ?_ (Xbl (by omega))
  refine By rfl (fun h=>?_) fun h=>?_
  · have h : ((2 ^ (i+1) : Nat) : Int)<(((toL j a.1++toL j a.2).map dq).length : Nat):=h
    rw [hvL,←Nat.pow_succ'] at h
    have h : i+1<j+1:=(W2p (by decide : 1<2)).1 (by omega)
    refine Ar (i+1 : Nat) rfl ?_
    exact Bk (i+1) [] rfl (show i+1≤j by omega) (by show j - (i+1)<j - i;omega)
  · have h : ¬ ((2 ^ (i+1) : Nat) : Int)<(((toL j a.1++toL j a.2).map dq).length : Nat):=h
    rw [hvL,←Nat.pow_succ'] at h
    have h : ¬ i+1<j+1:=fun e=>h (by have:=(W2p (by decide : 1<2)).2 e;omega)
    obtain rfl : i=j:=by omega
    refine Dw rfl ?_
    refine Tk (2 ^ i) ((toL i a.1).map dq) rfl rfl (Xb7 a) (hvT a) ?_
    refine Ce rfl (ih hr' (Sz.left ha) (by omega) (by omega)) ?_
    refine Dp (2 ^ i) ((toL i a.2).map dq) rfl rfl (Xb7 a) (hvD a) ?_
    refine Ce rfl (ih hr' (Sz.right ha) (by omega) (by omega)) ?_
    refine Ix i rfl (mp m2) ?_
    refine Ce rfl (Xut (T:=T) m3 m1 hk) ?_
    refine Ce rfl (R6.Mul_el hT h2 m4 hk (by omega)) ?_
    refine Ce rfl (R6.Add_el hk h1.ps (h2.mul hT m4).ps (by omega)) ?_
    exact R0
end Go.Proofs.YtpgcfjpkilabfaaGreatDoor.R9
namespace Go.Tow
open Go Go.Num Go.Proofs.YtpgcfjpkilabfaaGreatDoor
section
variable {K : Nat} {G : Tw K} {ρ : Nat→El K}
end
section
end
section
theorem Xjs {b : Rat} : ∀ {m : Nat} {t : Tw m} {y : El m},toL m (mul m t (rat m b) y)=(toL m y).map (b*·)
 | 0,_,_=>rfl
 | m+1,t,y=>by
  have L:=Xay m t.1
  show toL m (add m (mul m t.1 (rat m b) y.1) (mul m t.1 (mul m t.1 (zero m) y.2) t.2))++toL m (add m (mul m t.1 (rat m b) y.2) (mul m t.1 (zero m) y.1))=(toL m y.1++toL m y.2).map _
  rw [L.zm,L.zm,L.zm,L.az,L.az,Xjs,Xjs,W1u]
theorem Xnk {m : Nat} {x y : Rat} (h : rat m x=rat m y) : x=y:=by
 have:=congrArg (toL m) h
 rw [Xcu,Xcu] at this
 injection this
variable {K : Nat} {G : Tw K} {S : List (El K)} {r p : Nat} {ρ : Nat→El K}
end
section
def zM (R : Nat) : Nat→Nat
 | 0=>3
 | i+1=>zM R i+imB (cB R 3) (zM R i) i R+gC R 3
theorem Yb7 {R : Nat} : ∀ {i j : Nat},i≤j→zM R i≤zM R j
 | i,0,h=>by rw [show i=0 by omega];exact W0c _
 | i,j+1,h=>by
  by_cases e : i=j+1
  · rw [e];exact W0c _
  · exact W0h (Yb7 (show i≤j by omega)) (by show _≤zM R j+imB (cB R 3) (zM R j) j R+gC R 3;omega)
variable {K : Nat} {G : Tw K} {S : List (El K)} {R r p : Nat} {ρ : Nat→El K}
structure Wy (G : Tw K) (S : List (El K)) (R : Nat) : Prop where
 g : red K G
 s : S.length≤3
 t : ∀ {m : Nat} {T : Tw m} {ρ : Nat→El K},TOk G S m T ρ→TS R m T
theorem Wy.le (W : Wy G S R) {m : Nat} {T : Tw m} (h : TOk G S m T ρ) : m≤3:=W0h (h.le (Xag W.g)) W.s
theorem choose {m : Nat} {P : Nat→Prop} {ρu : Nat→El K} (h : ∀ j,P j→∃ e : El m,ev G ρ m e=ρu j) : ∃ σ : Nat→El m,∀ j,P j→ev G ρ m (σ j)=ρu j:=by
 have : ∀ j,∃ e : El m,P j→ev G ρ m e=ρu j:=fun j=>by
  by_cases hj : P j
  · obtain ⟨e,he⟩:=h j hj;exact ⟨e,fun _=>he⟩
  · exact ⟨zero m,fun h=>absurd h hj⟩
 exact Classical.axiomOfChoice this
theorem Yg0 (W : Wy G S R) {m l : Nat} {T : Tw m} {u : Tw l} {ρu : Nat→El K} (hT : TOk G S m T ρ) (hu : TOk G S l u ρu) : ∀ i,i<l→(∀ j,j<i→∃ e : El m,ev G ρ m e=ρu j)→∀ e : El m,ev G ρ m e=ρu i→Sz (zM R (i+1)) (toL m e):=fun i=>by
 have hGr:=Xag W.g
 have hm:=W.le hT
 induction i using Nat.strongRecOn with
 | _ i ih =>
  intro hi hj e he
  obtain ⟨σ,hσ⟩:=choose (P:=(·<i)) hj
  obtain ⟨x,_,x2,x3⟩:=Tw.at (t:=u) hi
  have hx:=x2 R (W.t hu)
  obtain ⟨x3,_⟩:=x3 hu.h
  have hs : ∀ j,j<i→Sz (zM R i) (toL m (σ j)):=fun j h=>(ih j h (by omega) (fun j' h'=>hj j' (by omega)) _ (hσ j h)).mono (Yb7 h)
  have hsz:=(Xkr (W.t hT) (a:=x) hs hx).mono (Xg4 (Xgl hm) (W0c _) (W0c _))
  have hee : mul m T e e=ev T σ i x:=Xme hGr hT.h hT.r (by rw [Xce hT.h,he,x3,Xmf hT.h hσ])
  exact (Sz.rootS (W.t hT) hT.r hsz hee).mono (by have:=Yif (r:=R) hm;show _≤zM R i+imB (cB R 3) (zM R i) i R+gC R 3;omega)
theorem Xy3 (hG : red K G) {m : Nat} {T : Tw m} (hT : TOk G S m T ρ) {g : El K} (hg : g∈S) (h1 : sgn K G g=1) {e : El m} (he : ev G ρ m e=mul K G g g) : ∃ (m' : Nat) (T' : Tw m') (ρ' : Nat→El K),TOk G S m' T' ρ'∧Beg m T m' T'∧(∀ i,i<m→ρ' i=ρ i)∧∃ e' : El m',ev G ρ' m' e'=g:=by
 have hGr:=Xag hG
 have L:=Xay K G
 have Sg:=Xas hGr
 by_cases hs : Xb6 m T e
 · obtain ⟨y,hy⟩:=hs
   refine ⟨m,T,ρ,hT,Beg.rf,fun _ _=>rfl,?_⟩
   have h2 : mul K G (ev G ρ m y) (ev G ρ m y)=mul K G g g:=by rw [←Xce hT.h,hy,he]
   by_cases h0 : 0≤sgn K G (ev G ρ m y)
   · exact ⟨y,Xo6 hG h2 h0 (by rw [h1];decide)⟩
   · refine ⟨neg m y,Xo6 hG ?_ (by rw [Xfo,Sg.sn];omega) (by rw [h1];decide)⟩
     rw [Xfo,L.mn,L.nm,L.nn,h2]
 · refine ⟨m+1,tsn T e,_,hT.snoc hGr hs hg he.symm h1,Beg.snoc,fun i hi=>if_neg (by omega),root (m+1) m,?_⟩
   rw [Xh6 (by omega)]
   exact if_pos rfl
theorem Xvt {m m' k : Nat} {T : Tw m} {T' : Tw m'} {ρ' : Nat→El K} (hB : Beg m T m' T') (ha : ∀ i,i<m→ρ' i=ρ i) {g : El K} (h : ∃ e : El m,ev G ρ m e=g) : ∃ e : El m',ev G ρ' m' e=g:=by
 obtain ⟨e,he⟩:=h
 obtain ⟨b,hb⟩:=Lf.ex hB.le e
 exact ⟨b,by rw [hb.ev hB.le,Xbp ha,he]⟩
theorem Yip (hG : red K G) {m l : Nat} {T : Tw m} {u : Tw l} {ρu : Nat→El K} (hT : TOk G S m T ρ) (hu : TOk G S l u ρu) : ∀ i,i≤l→∃ (m' : Nat) (T' : Tw m') (ρ' : Nat→El K),TOk G S m' T' ρ'∧Beg m T m' T'∧(∀ i,i<m→ρ' i=ρ i)∧∀ j,j<i→∃ e : El m',ev G ρ' m' e=ρu j:=fun i=>by
 induction i with
 | zero=>exact fun _=>⟨m,T,ρ,hT,Beg.rf,fun _ _=>rfl,fun j hj=>absurd hj (W6q _)⟩
 | succ i ih =>
  intro hi
  obtain ⟨m1,T1,ρ1,a1,a2,a3,a4⟩:=ih (by omega)
  obtain ⟨σ,hσ⟩:=choose (P:=(·<i)) a4
  obtain ⟨x,_,_,x3⟩:=Tw.at (t:=u) (show i<l by omega)
  obtain ⟨x3,x4⟩:=x3 hu.h
  obtain ⟨m2,T2,ρ2,b1,b2,b3,b4⟩:=Xy3 hG a1 (hu.s i (by omega)) x4 (e:=ev T1 σ i x) (by rw [Xmf a1.h hσ,x3])
  refine ⟨m2,T2,ρ2,b1,a2.tr b2,fun j hj=>by rw [b3 j (by have:=a2.le;omega),a3 j hj],fun j hj=>?_⟩
  by_cases e : j=i
  · rw [e];exact b4
  · exact Xvt (k:=0) b2 b3 (a4 j (by omega))
def Fl (G : Tw K) (S : List (El K)) (N : List Nm) (m : Nat) (T : Tw m) (ρ : Nat→El K) : Prop:=TOk G S m T ρ∧∀ z∈N,∀ ρz,TOk G S z.k z.t ρz→∀ j,j<z.k→∃ e : El m,ev G ρ m e=ρz j
theorem Fl.ex (hG : red K G) {m : Nat} {T : Tw m} (hT : TOk G S m T ρ) : ∀ {N : List Nm},(∀ z∈N,∃ ρz,TOk G S z.k z.t ρz)→∃ (m' : Nat) (T' : Tw m') (ρ' : Nat→El K),Fl G S N m' T' ρ'∧Beg m T m' T'∧(∀ i,i<m→ρ' i=ρ i)
 | [],_=>⟨m,T,ρ,⟨hT,fun z h=>nomatch h⟩,Beg.rf,fun _ _=>rfl⟩
 | z::N,h=>by
  obtain ⟨m1,T1,ρ1,⟨a1,a2⟩,a3,a4⟩:=Fl.ex hG hT (N:=N) fun z hz=>h z (W0x _ hz)
  obtain ⟨ρz,hz⟩:=h z (W0t ..)
  obtain ⟨m2,T2,ρ2,b1,b2,b3,b4⟩:=Yip hG a1 hz z.k (W0c _)
  refine ⟨m2,T2,ρ2,⟨b1,fun y hy ρy hy1 j hj=>?_⟩,a3.tr b2,fun i hi=>by rw [b3 i (by have:=a3.le;omega),a4 i hi]⟩
  rcases W1k.1 hy with e | hy
  · subst e
    rw [hy1.h.uniq hG hz.h j hj];exact b4 j hj
  · exact Xvt (k:=0) b2 b3 (a2 y hy ρy hy1 j hj)
def Gs (G : Tw K) (S : List (El K)) (N : List Nm) (b : Nat) (v : El K) : Prop:=∀ (m : Nat) (T : Tw m) (ρ : Nat→El K),Fl G S N m T ρ→∃ a : El m,ev G ρ m a=v∧Sz b (toL m a)
variable {N : List Nm} {b c : Nat} {v w : El K}
theorem Gs.mono (h : Gs G S N b v) (hb : b≤c) : Gs G S N c v:=fun m T ρ hF=>let ⟨a,h1,h2⟩:=h m T ρ hF;⟨a,h1,h2.mono hb⟩
def imS (c : Nat) (z : Nat→Nat) : Nat→Nat→Nat
 | 0,p=>p+1
 | j+1,p=>2*imS c z j p+z j+c+1
theorem Xvs {k R : Nat} {z : Nat→Nat} {T : Tw k} {σ : Nat→El k} (hT : TS R k T) : ∀ {j p : Nat} {a : El j},(∀ i,i<j→Sz (z i) (toL k (σ i)))→Sz p (toL j a)→Sz (imS (cB R k) z j p) (toL k (ev T σ j a))
 | 0,p,a,_,ha=>Sz.rat k (ha.qs (x:=a) (W0e.2 rfl))
 | j+1,p,a,hs,ha=>by
  have h1:=Xvs hT (a:=a.1) (fun i hi=>hs i (by omega)) (Sz.left ha)
  have h2:=Xvs hT (a:=a.2) (fun i hi=>hs i (by omega)) (Sz.right ha)
  have h3:=h2.mul hT (hs j (by omega))
  show Sz _ (toL k (add k (Tow.ev T σ j a.1) (mul k T (Tow.ev T σ j a.2) (σ j))))
  rw [Xat]
  exact (h1.add h3).mono (by show _≤2*imS (cB R k) z j p+z j+cB R k+1;omega)
theorem Yh7 {c d : Nat} {z : Nat→Nat} (h : c≤d) : ∀ {j p : Nat},imS c z j p≤imS d z j p
 | 0,p=>W0c _
 | j+1,p=>by
  have:=Yh7 (z:=z) h (j:=j) (p:=p)
  show 2*imS c z j p+z j+c+1≤2*imS d z j p+z j+d+1
  omega
theorem Ybm {c : Nat} {z : Nat→Nat} {p : Nat} : ∀ {i j : Nat},i≤j→imS c z i p≤imS c z j p
 | i,0,h=>by rw [show i=0 by omega];exact W0c _
 | i,j+1,h=>by
  by_cases e : i=j+1
  · rw [e];exact W0c _
  · exact W0h (Ybm (show i≤j by omega)) (by show _≤2*imS c z j p+z j+c+1;omega)
theorem Gs.short (W : Wy G S R) {z : Nm} (hz : NOk G S r p z v) (hN : z∈N) : Gs G S N (imS (cB R 3) (fun j=>zM R (j+1)) 3 p) v:=fun m T ρ hF=>by
 obtain ⟨ρz,h1,h2⟩:=hz.ex
 obtain ⟨σ,hσ⟩:=choose (P:=(·<z.k)) (hF.2 z hN ρz h1)
 have hs : ∀ j,j<z.k→Sz (zM R (j+1)) (toL m (σ j)):=fun j h=>Yg0 W hF.1 h1 j h (fun j' h'=>⟨_,hσ j' (by omega)⟩) _ (hσ j h)
 exact ⟨ev T σ z.k z.a,by rw [Xmf hF.1.h hσ,h2],(Xvs (z:=fun j=>zM R (j+1)) (W.t hF.1) hs hz.p).mono (W0h (Yh7 (Xgl (W.le hF.1))) (Ybm (W.le h1)))⟩
theorem Gs.add (h : Gs G S N b v) (k : Gs G S N c w) : Gs G S N (b+c+1) (Tow.add K v w):=fun m T ρ hF=>by
 obtain ⟨x,h1,h2⟩:=h m T ρ hF
 obtain ⟨y,k1,k2⟩:=k m T ρ hF
 exact ⟨Tow.add m x y,by rw [Xd7,h1,k1],by rw [Xat];exact h2.add k2⟩
theorem Gs.neg (h : Gs G S N b v) : Gs G S N b (Tow.neg K v):=fun m T ρ hF=>by
 obtain ⟨x,h1,h2⟩:=h m T ρ hF
 exact ⟨Tow.neg m x,by rw [Xfo,h1],by rw [Xb4];exact h2.neg⟩
theorem Gs.mul (W : Wy G S R) (h : Gs G S N b v) (k : Gs G S N c w) : Gs G S N (b+c+cB R 3) (Tow.mul K G v w):=fun m T ρ hF=>by
 obtain ⟨x,h1,h2⟩:=h m T ρ hF
 obtain ⟨y,k1,k2⟩:=k m T ρ hF
 exact ⟨Tow.mul m T x y,by rw [Xce hF.1.h,h1,k1],(h2.mul (W.t hF.1) k2).mono (by have:=Xgl (r:=R) (W.le hF.1);omega)⟩
theorem Gs.rat {q : Rat} (h : Qs p q) : Gs G S N (p+1) (Tow.rat K q):=fun m T ρ hF=>⟨Tow.rat m q,Xqs,Sz.rat m h⟩
theorem Gs.sz (hG : red K G) (hN : ∀ z∈N,∃ ρz,TOk G S z.k z.t ρz) (h : Gs G S N b v) {m : Nat} {T : Tw m} (hT : TOk G S m T ρ) {a : El m} (ha : ev G ρ m a=v) : Sz b (toL m a):=by
 obtain ⟨m',T',ρ',h1,h2,h3⟩:=Fl.ex hG hT hN
 obtain ⟨x,x1,x2⟩:=h m' T' ρ' h1
 obtain ⟨y,hy⟩:=Lf.ex h2.le a
 have e : y=x:=Xme (Xag hG) h1.1.h h1.1.r (by rw [hy.ev h2.le,Xbp h3,ha,x1])
 rw [←e,hy] at x2
 exact Sz.left x2
theorem NOk.re (W : Wy G S R) (hN : ∀ z∈N,∃ ρz,TOk G S z.k z.t ρz) {x : Nm} (hx : NOk G S r p x v) (h : Gs G S N b v) : NOk G S R b x v:=by
 obtain ⟨ρx,h1,h2⟩:=hx.ex
 exact ⟨⟨ρx,h1,h2⟩,W.t h1,h.sz W.g hN h1 h2⟩
end
section
theorem Xu7 {c z p : Nat} : ∀ {i j : Nat},i≤j→imB c z i p≤imB c z j p
 | i,0,h=>by rw [show i=0 by omega];exact W0c _
 | i,j+1,h=>by
  by_cases e : i=j+1
  · rw [e];exact W0c _
  · exact W0h (Xu7 (show i≤j by omega)) (by show _≤2*imB c z j p+z+c+1;omega)
def wR : Nat:=15346
def wE : Nat:=31691534
def jW (p : Nat) : Nat:=8*p+73803682
def oW (p : Nat) : Nat:=16*p+147714794
theorem wC : cB wR 3=107429:=by decide +kernel
theorem wZ : zM wR 3=10435952:=by decide +kernel
theorem Xg7 : wR=15346:=rfl
theorem Yfy : wE=31691534:=rfl
theorem wQ : qB wR 3 wE≤4398046511104∧qB wR 3 wR≤4398046511104∧vB wR 3 (wE+gC wR 3)≤4398046511104∧vB wR 3 wR≤4398046511104:=by decide +kernel
theorem wV : vB wR 3 (oW 4000000000)≤4398046511104:=by decide +kernel
theorem Yli {p : Nat} : imB (cB wR 3) (zM wR 3) 3 p=jW p:=by
 show 2*(2*(2*(p+1)+zM wR 3+cB wR 3+1)+zM wR 3+cB wR 3+1)+zM wR 3+cB wR 3+1=8*p+73803682
 rw [wC,wZ];omega
theorem Ydw {m i p : Nat} (hm : m≤3) (hi : i≤3) : imB (cB wR m) (zM wR 3) i p≤jW p:=by
 rw [←Yli]
 exact W0h (Xg4 (Xgl hm) (W0c _) (W0c _)) (Xu7 hi)
theorem Ycb {m i : Nat} (hm : m≤3) (hi : i≤2) : imB (cB wR m) (zM wR 3) i wR≤wE:=by
 refine W0h (W0h (Xg4 (Xgl hm) (W0c _) (W0c _)) (Xu7 hi)) ?_
 show 2*(2*(wR+1)+zM wR 3+cB wR 3+1)+zM wR 3+cB wR 3+1≤31691534
 rw [wC,wZ,Xg7]
 decide
variable {K : Nat} {G : Tw K} {S : List (El K)} {p : Nat}
end
end Go.Tow
namespace Go.Proofs.YtpgcfjpkilabfaaGreatDoor.R9
open Go Go.Vm Go.Num Go.Tow Go.Proofs.YtpgcfjpkilabfaaGreatDoor
theorem _root_.Go.Tow.RtV.sig {K : Nat} {G : Tw K} {m z j : Nat} {rs : List (List Rat)} {ρ ρu : Nat→Tow.El K} (h : RtV G m z j rs ρ ρu) : ∃ σ : Nat→Tow.El m,Rts m z j rs σ∧∀ i,i<j→ev G ρ m (σ i)=ρu i:=by
 have : ∀ i,∃ b : Tow.El m,i<j→(∃ (n : Nat) (s : Tow.El n),n≤m∧rs[i]?=some (toL n s)∧Lf s b∧Sz z (toL m b))∧ev G ρ m b=ρu i:=fun i=>by
  by_cases hi : i<j
  · obtain ⟨n,s,h1,h2,h3,h4⟩:=h i hi
    obtain ⟨b,hb⟩:=Lf.ex h1 s
    exact ⟨b,fun _=>⟨⟨n,s,h1,h2,hb,hb.sz h3⟩,by rw [hb.ev h1,h4]⟩⟩
  · exact ⟨zero m,fun h=>absurd h hi⟩
 obtain ⟨σ,hσ⟩:=Classical.axiomOfChoice this
 exact ⟨σ,fun i hi=>(hσ i hi).1,fun i hi=>(hσ i hi).2⟩
theorem Yc2 (m : Nat) : Sz 3 (toL (m+1) (root (m+1) m)):=by
 rw [Xpi]
 exact ((Sz.zero m).append (Sz.rat m (x:=1) (p:=1) ⟨show (1 : Rat).num.natAbs<2 ^ 1 by decide +kernel,show ((1 : Rat).den : Int).natAbs<2 ^ 1 by decide +kernel⟩)).mono (by omega)
section
variable {K : Nat} {G : Tw K} {S : List (Tow.El K)} {k l : Nat} {t : Tw k} {u : Tw l} {ρ ρu : Nat→Tow.El K}
def ExQ (G : Tw K) (S : List (Tow.El K)) (l k : Nat) (t : Tw k) (ρ ρu : Nat→Tow.El K) (f : D→D→AV) (v : AV) : Prop:=∃ (m : Nat) (T : Tw m) (rs : List (List Rat)) (ρ' : Nat→Tow.El K),v=f (dt T) (dts rs) ∧
 TOk G S m T ρ'∧Beg k t m T∧(∀ i,i<k→ρ' i=ρ i)∧RtV G m (zM wR 3) l rs ρ' ρu∧((∀ i,i<l→∃ e : Tow.El k,ev G ρ k e=ρu i)→toT m T=toT k t)
def ExI (G : Tw K) (S : List (Tow.El K)) (l k : Nat) (t : Tw k) (ρ ρu : Nat→Tow.El K) (x : Nat × (Σ m,Tw m) × List (List Rat)) : Prop:=x.1≤l∧x.2.2.length=x.1∧∃ ρ' : Nat→Tow.El K,TOk G S x.2.1.1 x.2.1.2 ρ'∧Beg k t x.2.1.1 x.2.1.2∧(∀ i,i<k→ρ' i=ρ i)∧RtV G x.2.1.1 (zM wR 3) x.1 x.2.2 ρ' ρu∧((∀ i,i<l→∃ e : Tow.El k,ev G ρ k e=ρu i)→toT x.2.1.1 x.2.1.2=toT k t)
theorem ExI.sq (W : Wy G S wR) (hu : TOk G S l u ρu) {i m : Nat} {T : Tw m} {rs : List (List Rat)} {x : Tow.El i} (h : ExI G S l k t ρ ρu (i,⟨m,T⟩,rs)) (hil : i<l) {σ : Nat→Tow.El m} {ρ' : Nat→Tow.El K} (hT : TOk G S m T ρ') (hB : Beg k t m T) (ha : ∀ i,i<k→ρ' i=ρ i) (hrt : RtV G m (zM wR 3) i rs ρ' ρu) (hc : (∀ i,i<l→∃ e : Tow.El k,ev G ρ k e=ρu i)→toT m T=toT k t) (s2 : ∀ j,j<i→ev G ρ' m (σ j)=ρu j) (hev : ev G ρ' m (ev T σ i x)=mul K G (ρu i) (ρu i)) (x4 : sgn K G (ρu i)=1) {y : Tow.El m} (h1 : mul m T y y=ev T σ i x) (h2 : 0≤sgn m T y) : ExI G S l k t ρ ρu (i+1,⟨m,T⟩,rs++[toL m y]):=by
 have hG:=W.g
 have hGr:=Xag hG
 have hl3:=W.le hu
 obtain ⟨_,hrl,_⟩:=h
 have hrl : rs.length=i:=hrl
 have hy : ev G ρ' m y=ρu i:=Xo6 hG (by rw [←Xce hT.h,h1,hev]) (by rw [Xfn hGr hT.h];exact h2) (by rw [x4];decide)
 exact ⟨hil,by simp [hrl],ρ',hT,hB,ha,hrt.snoc hrl (W0c _) ((Yg0 W hT hu i hil (fun j hj=>⟨σ j,s2 j hj⟩) y hy).mono (Yb7 (by omega))) hy,hc⟩
theorem ExI.new (W : Wy G S wR) (hu : TOk G S l u ρu) {i m : Nat} {T : Tw m} {rs : List (List Rat)} {x : Tow.El i} (h : ExI G S l k t ρ ρu (i,⟨m,T⟩,rs)) (hil : i<l) {σ : Nat→Tow.El m} {ρ' : Nat→Tow.El K} (hT : TOk G S m T ρ') (hB : Beg k t m T) (ha : ∀ i,i<k→ρ' i=ρ i) (hrt : RtV G m (zM wR 3) i rs ρ' ρu) (hev : ev G ρ' m (ev T σ i x)=mul K G (ρu i) (ρu i)) (x4 : sgn K G (ρu i)=1) (h2 : ¬ Xb6 m T (ev T σ i x)) : ExI G S l k t ρ ρu (i+1,⟨m+1,tsn T (ev T σ i x)⟩,rs++[toL (m+1) (root (m+1) m)]):=by
 have hG:=W.g
 have hGr:=Xag hG
 obtain ⟨_,hrl,_⟩:=h
 have hrl : rs.length=i:=hrl
 have hT':=hT.snoc hGr h2 (hu.s i hil) (a:=ev T σ i x) hev.symm x4
 refine ⟨hil,by simp [hrl],_,hT',hB.tr Beg.snoc,fun j hj=>?_,?_,fun hh=>?_⟩
 · have:=hB.le
   show (if j=m then ρu i else ρ' j)=ρ j
   rw [if_neg (by omega),ha j hj]
 · refine (hrt.mono (Nat.le_succ _) (W0c _) (fun j hj=>if_neg (by omega))).snoc hrl (W0c _) ((Yc2 m).mono (by rw [wZ];decide)) ?_
   rw [Xh6 (by omega)];exact if_pos rfl
 · obtain ⟨b,hb⟩:=hh i hil
   obtain ⟨b',hb'⟩:=Lf.ex hB.le b
   refine absurd ⟨b',Xme hGr hT.h hT.r ?_⟩ h2
   rw [Xce hT.h,hb'.ev hB.le,Xbp ha,hb,hev]
def ExB (m : Nat) : Prop:=qB wR m wE≤4398046511104∧qB wR m wR≤4398046511104∧vB wR m (wE+gC wR m)≤4398046511104∧vB wR m wR≤4398046511104
theorem exB {m : Nat} (hm : m≤3) : ExB m:=by
 obtain ⟨q1,q2,q3,q4⟩:=wQ
 have p1:=Xx8 (r:=wR) (p:=wE) hm
 have p2:=Xx8 (r:=wR) (p:=wR) hm
 have p3:=Yif (r:=wR) hm
 have p4:=Xct (r:=wR) (k:=m) (show wE+gC wR m≤wE+gC wR 3 by omega)
 have p5:=Xla (r:=wR) (s:=wE+gC wR 3) hm
 have p6:=Xla (r:=wR) (s:=wR) hm
 exact ⟨by omega,by omega,by omega,by omega⟩
theorem ExI.rad (W : Wy G S wR) (hu : TOk G S l u ρu) {i m : Nat} {T : Tw m} {rs : List (List Rat)} {ρ' : Nat→Tow.El K} (hil : i<l) (hT : TOk G S m T ρ') (hrt : RtV G m (zM wR 3) i rs ρ' ρu) : ∃ (x : Tow.El i) (σ : Nat→Tow.El m),(toT l u)[i]?=some (toL i x)∧Sz wR (toL i x)∧Rts m (zM wR 3) i rs σ∧(∀ j,j<i→ev G ρ' m (σ j)=ρu j)∧ev G ρ' m (ev T σ i x)=mul K G (ρu i) (ρu i)∧sgn K G (ρu i)=1∧Sz wE (toL m (ev T σ i x)):=by
 have hl3:=W.le hu
 have hm3:=W.le hT
 obtain ⟨x,x1,x2,x3⟩:=Tw.at (t:=u) hil
 have x2:=x2 wR (W.t hu)
 obtain ⟨x3,x4⟩:=x3 hu.h
 obtain ⟨σ,s1,s2⟩:=hrt.sig
 exact ⟨x,σ,x1,x2,s1,s2,by rw [Xmf hT.h s2,x3],x4,(Xkr (W.t hT) (a:=x) (fun i' h'=>(s1 i' h').elim fun _ h=>h.elim fun _ h=>h.2.2.2) x2).mono (Ycb hm3 (by omega))⟩
theorem Xde (W : Wy G S wR) (ht : TOk G S k t ρ) (hu : TOk G S l u ρu) : C0 365 [.d (dt t),.d (dt u)] (ExQ G S l k t ρ ρu fun T rs=>.tup (.pr (.d T) (.pr (.d rs) (.d (.int .i64 0))))):=by
 have hl3 : l≤3:=W.le hu
 refine En Tryz.func365 fun _ _ _=>?_
 refine Nl 7 7 1 rfl ?_
 refine Lo (fun (x : Nat × (Σ m,Tw m) × List (List Rat))=>[(0,.d (dt x.2.1.2)),(1,.d (dt u)),(7,.gr 7 1 (x.2.2.map dqs)),(8,.d (.int .i64 x.1))]) (fun x=>[(7,.tok (x.2.2.map dqs).length 1)])
  (ExI G S l k t ρ ρu) (fun x=>l - x.1) (0,⟨k,t⟩,[]) [] rfl ⟨W1c _,rfl,ρ,ht,Beg.rf,fun _ _=>rfl,fun i hi=>by omega,fun _=>rfl⟩ (fun (i,⟨m,T⟩,rs) hI=>?_)
 have hI':=hI
 obtain ⟨hi,hrl,ρ',hT,hB,ha,hrt,hc⟩:=hI
 simp only at hi hrl hT hB ha hrt hc
 have hm3 : m≤3:=W.le hT
 have hz:=W.t hT
 refine By rfl (fun h=>?_) fun h=>?_ <;> simp only [lt',Xaa] at h
 · have hil : i<l:=by omega
   obtain ⟨x,σ,x1,x2,s1,s2,hev,x4,hsz⟩:=ExI.rad W hu hil hT hrt
   obtain ⟨q1,q2,q3,q4⟩:=exB hm3
   have hE:=Ycb hm3 (show i≤2 by omega)
   have hR:=Xg7
   have hE':=Yfy
   have hlen : (rs.map dqs).length≤3:=by rw [W0i];omega
   refine Ix i rfl (mp x1) ?_
   refine Ce rfl (Xfk (k:=m) (T:=T) hz (by omega) s1 x2 (by omega) (by omega)) ?_
   refine Ca rfl (R8.Adjoin_ok (k:=m) (t:=T) hz hsz hT.r (by omega) q1 q2 q3 q4) fun v hv=>?_
   rcases hv with ⟨h1,rfl⟩ | ⟨y,h1,h2,rfl⟩ | ⟨h1,h2,h3,rfl⟩
   · have:=Xfn (Xag W.g) hT.h (a:=ev T σ i x)
     rw [hev,(Xas (Xag W.g)).sm,x4] at this
     omega
   · refine No rfl (by simp) ?_
     refine ApG ((rs++[toL m y]).map dqs) rfl (by simp) (by simp at hlen ⊢;omega) ?_
     refine Ar (i+1 : Nat) rfl ?_
     exact Bk (i+1,⟨m,T⟩,rs++[toL m y]) [(38,7)] rfl (hI'.sq W hu hil hT hB ha hrt hc s2 hev x4 h1 h2) (by show l - (i+1)<l - i;omega)
   · refine No rfl (by simp) ?_
     refine ApG ((rs++[toL (m+1) (root (m+1) m)]).map dqs) rfl (by simp) (by simp at hlen ⊢;omega) ?_
     refine Ar (i+1 : Nat) rfl ?_
     exact Bk (i+1,⟨m+1,tsn T (ev T σ i x)⟩,rs++[toL (m+1) (root (m+1) m)]) [(38,7)] rfl (hI'.new W hu hil hT hB ha hrt hev x4 h2) (by show l - (i+1)<l - i;omega)
 · obtain rfl : i=l:=by omega
   exact Rt rfl (.tup (.cons (.rf rfl) (.cons (.gr rfl) Xa3))) ⟨m,T,rs,ρ',rfl,hT,hB,ha,hrt,hc⟩
end
end Go.Proofs.YtpgcfjpkilabfaaGreatDoor.R9
namespace Go.Proofs.YtpgcfjpkilabfaaGreatDoor
open Go Go.Vm Go.Num Go.Tow
abbrev dN (x : Nm) : D:=.st (.pr (dt x.t) (de x.a))
abbrev dNs (l : List Nm) : D:=.sl 2 (l.map dN)
end Go.Proofs.YtpgcfjpkilabfaaGreatDoor
namespace Go.Proofs.YtpgcfjpkilabfaaGreatDoor.R9
open Go Go.Vm Go.Num Go.Tow Go.Proofs.YtpgcfjpkilabfaaGreatDoor
section
variable {K : Nat} {G : Tw K} {S : List (Tow.El K)} {r p : Nat} {x y : Nm} {vx vy : Tow.El K}
def CmP (G : Tw K) (S : List (Tow.El K)) (x y : Nm) (m : Nat) (T : Tw m) : Prop:=∃ ρ,TOk G S m T ρ∧∀ z∈[x,y],∀ ρz,TOk G S z.k z.t ρz→∀ j,j<z.k→∃ e : Tow.El m,ev G ρ m e=ρz j
theorem CmP.mk (hG : red K G) {ρx ρy : Nat→Tow.El K} (hx1 : TOk G S x.k x.t ρx) (hy1 : TOk G S y.k y.t ρy) {m : Nat} {T : Tw m} {ρ : Nat→Tow.El K} (h1 : TOk G S m T ρ) (h3 : ∀ j,j<x.k→∃ e : Tow.El m,ev G ρ m e=ρx j) (h4 : ∀ j,j<y.k→∃ e : Tow.El m,ev G ρ m e=ρy j) : CmP G S x y m T:=⟨_,h1,fun z hz ρz hρ j hj=>by
 rcases W1k.1 hz with rfl | hz
 · obtain ⟨e,he⟩:=h3 j hj;exact ⟨e,by rw [he];exact hx1.h.uniq hG hρ.h j hj⟩
 · obtain rfl:=W0e.1 hz
   obtain ⟨e,he⟩:=h4 j hj;exact ⟨e,by rw [he];exact hy1.h.uniq hG hρ.h j hj⟩⟩
theorem beg_ag (hG : red K G) {k m : Nat} {t : Tw k} {T : Tw m} {ρ ρ' : Nat→Tow.El K} (h : Beg k t m T) (h1 : TOk G S k t ρ) (h2 : TOk G S m T ρ') : ∀ i,i<k→ρ' i=ρ i:=(h.hom h2.h).uniq hG h1.h
theorem rts {k : Nat} {ρ : Nat→Tow.El K} (j : Nat) (hj : j<k) : ∃ e : Tow.El k,ev G ρ k e=ρ j:=⟨root _ j,Xh6 hj⟩
theorem beg_rt (hG : red K G) {k m : Nat} {t : Tw k} {T : Tw m} {ρ ρ' : Nat→Tow.El K} (h : Beg k t m T) (h1 : TOk G S k t ρ) (h2 : TOk G S m T ρ') (j : Nat) (hj : j<k) : ∃ e : Tow.El m,ev G ρ' m e=ρ j:=by
 obtain ⟨e,he⟩:=rts (G:=G) (k:=m) (ρ:=ρ') j (W0p hj h.le)
 exact ⟨e,by rw [he];exact beg_ag hG h h1 h2 j hj⟩
theorem CmP.ext (hG : red K G) {ρx ρy : Nat→Tow.El K} (hx1 : TOk G S x.k x.t ρx) (hy1 : TOk G S y.k y.t ρy) {m z : Nat} {T : Tw m} {rs : List (List Rat)} {ρ' : Nat→Tow.El K} (g1 : TOk G S m T ρ') (g2 : Beg x.k x.t m T) (g5 : RtV G m z y.k rs ρ' ρy) : CmP G S x y m T:=.mk hG hx1 hy1 g1 (beg_rt hG g2 hx1 g1) fun j hj=>by
 obtain ⟨n,s,s1,_,_,s4⟩:=g5 j hj
 obtain ⟨b,hb⟩:=Lf.ex s1 s
 exact ⟨b,by rw [hb.ev s1,s4]⟩
theorem both (hx : NOk G S r p x vx) (hy : NOk G S r p y vy) (i : Nat) (hi : i<2) : ∃ (z : Nm) (v : Tow.El K) (ρz : Nat→Tow.El K),[x,y][i]?=some z∧[vx,vy][i]?=some v∧TOk G S z.k z.t ρz∧ev G ρz z.k z.a=v∧Sz p (toL z.k z.a):=by
 have : i=0∨i=1:=by omega
 rcases this with rfl | rfl
 · obtain ⟨ρ,h1,h2⟩:=hx.ex;exact ⟨x,vx,ρ,rfl,rfl,h1,h2,hx.p⟩
 · obtain ⟨ρ,h1,h2⟩:=hy.ex;exact ⟨y,vy,ρ,rfl,rfl,h1,h2,hy.p⟩
def JnR (G : Tw K) (S : List (Tow.El K)) (p : Nat) (vx vy : Tow.El K) (m : Nat) (T : Tw m) (a b : Tow.El m) : Prop:=∃ ρ,TOk G S m T ρ∧ev G ρ m a=vx∧ev G ρ m b=vy∧Sz (jW p) (toL m a)∧Sz (jW p) (toL m b)
def JnI (G : Tw K) (p m : Nat) (ρ : Nat→Tow.El K) (vx vy : Tow.El K) (s : Nat × List (Tow.El m)) : Prop:=s.1≤2∧s.2.length=s.1∧∀ i,i<s.1→∃ a v,s.2[i]?=some a∧[vx,vy][i]?=some v∧ev G ρ m a=v∧Sz (jW p) (toL m a)
theorem JnI.step {m : Nat} {ρ : Nat→Tow.El K} {j : Nat} {bs : List (Tow.El m)} {v : Tow.El K} (h : JnI G p m ρ vx vy (j,bs)) (hj : j<2) (z2 : [vx,vy][j]?=some v) {b : Tow.El m} (h1 : ev G ρ m b=v) (h2 : Sz (jW p) (toL m b)) : JnI G p m ρ vx vy (j+1,bs++[b]):=by
 obtain ⟨_,hjl,has⟩:=h
 have hjl : bs.length=j:=hjl
 refine ⟨hj,by simp [hjl],fun i hi=>?_⟩
 by_cases e : i=j
 · subst e
   exact ⟨b,v,by rw [W0v (by omega),hjl,W3f];rfl,z2,h1,h2⟩
 · obtain ⟨a,w,g1,g2⟩:=has i (by have : i<j+1:=hi;show i<j;omega)
   exact ⟨a,w,by rw [W1a (by omega),g1],g2⟩
theorem JnI.done {m : Nat} {T : Tw m} {ρ : Nat→Tow.El K} {bs : List (Tow.El m)} (hT : TOk G S m T ρ) (h : JnI G p m ρ vx vy (2,bs)) : ∃ a b,bs=[a,b]∧JnR G S p vx vy m T a b:=by
 obtain ⟨_,hjl,has⟩:=h
 match bs,hjl with
 | [a,b],_ =>
  obtain ⟨a',v,a1,a2,a3,a4⟩:=has 0 (show 0<2 by decide)
  obtain ⟨b',w,b1,b2,b3,b4⟩:=has 1 (show 1<2 by decide)
  cases a1;cases a2;cases b1;cases b2
  exact ⟨a,b,rfl,ρ,hT,a3,b3,a4,b4⟩
theorem img (W : Wy G S wR) {m l : Nat} {T : Tw m} {u : Tw l} {ρ ρz : Nat→Tow.El K} (hT : TOk G S m T ρ) (hu : TOk G S l u ρz) {rs : List (List Rat)} {σ : Nat→Tow.El m} (s1 : Rts m (zM wR 3) l rs σ) {a : Tow.El l} (ha : Sz p (toL l a)) : Sz (jW p) (toL m (ev T σ l a)):=(Xkr (W.t hT) (fun i h=>(s1 i h).elim fun _ h=>h.elim fun _ h=>h.2.2.2) ha).mono (Ydw (W.le hT) (W.le hu))
theorem jW_ge {p : Nat} : p≤jW p:=by unfold jW;omega
theorem Join_ok (W : Wy G S wR) (hx : NOk G S r p x vx) (hy : NOk G S r p y vy) (hp : p≤4000000000) : C0 324 [.d (dNs [x,y])] fun v=>∃ m T a b,v=.tup (.pr (.d (dNs [⟨m,T,a⟩,⟨m,T,b⟩])) (.d (.int .i64 0)))∧JnR G S p vx vy m T a b:=by
 have hG:=W.g
 have hR:=Xg7
 have hJ : jW p=8*p+73803682:=rfl
 obtain ⟨ρx,hx1,hx2⟩:=hx.ex
 obtain ⟨ρy,hy1,hy2⟩:=hy.ex
 have hx3:=W.le hx1
 have hy3:=W.le hy1
 have hxr:=W.t hx1
 have hyr:=W.t hy1
 refine En Tryz.func324 fun _ _ _=>?_
 refine Nd 4 1 rfl ?_
 refine Lo (fun (s : Nat × (Σ m,Tw m))=>[(0,.d (dNs [x,y])),(4,.d (dt s.2.2)),(5,.d (.int .i64 s.1))]) (fun _=>[]) (fun s=>(s.1=0∧s.2=⟨0,()⟩)∨(s.1=1∧s.2=⟨x.k,x.t⟩)∨(s.1=2∧CmP G S x y s.2.1 s.2.2)) (fun s=>2 - s.1) (0,⟨0,()⟩) [] rfl (.inl ⟨rfl,rfl⟩) (fun (i,⟨m,T⟩) hI=>?_)
 simp only at hI
 rcases hI with ⟨rfl,e⟩ | ⟨rfl,e⟩ | ⟨rfl,hP⟩
 · cases e
   refine Yes rfl (show (0 : Int)<2 by decide) ?_
   refine Ix 0 rfl (u:=dN x) rfl ?_
   refine By rfl (fun h=>?_) fun h=>?_
   · refine Ix 0 rfl (u:=dN x) rfl ?_
     refine Ce rfl (begins_ok (U:=[]) (q:=1) (TS.pt hxr) (fun i r h=>by simp at h) (by omega) (by rw [Xaa];omega)) ?_
     refine Yes rfl (by simp) ?_
     refine Ix 0 rfl (u:=dN x) rfl ?_
     refine Ar (0+1 : Nat) rfl ?_
     exact Bk (1,⟨x.k,x.t⟩) [] rfl (.inr (.inl ⟨rfl,rfl⟩)) (show 1<2 by decide)
   · obtain ⟨kx,tx,ax⟩:=x
     have h : ¬ (((toT kx tx).map dqs).length : Int) > 0:=h
     obtain rfl : kx=0:=by rw [lt',Xaa] at h;omega
     refine Ix 0 rfl (u:=dN ⟨0,tx,ax⟩) rfl ?_
     refine Ce rfl (begins_ok (T:=[]) (U:=[]) (p:=1) (q:=1) (fun i r h=>by simp at h) (fun i r h=>by simp at h) (by omega) (by decide)) ?_
     refine No rfl (by simp) ?_
     refine Ar (0+1 : Nat) rfl ?_
     exact Bk (1,⟨0,tx⟩) [] rfl (.inr (.inl ⟨rfl,rfl⟩)) (show 1<2 by decide)
 · cases e
   have last : ∀ h : (toT x.k x.t).take (toT y.k y.t).length=toT y.k y.t,CmP G S x y x.k x.t:=fun h=>.mk hG hx1 hy1 hx1 rts (beg_rt hG (show Beg y.k y.t x.k x.t from h) hy1 hx1)
   refine Yes rfl (show (1 : Int)<2 by decide) ?_
   refine Ix 1 rfl (u:=dN y) rfl ?_
   refine By rfl (fun h=>?_) fun h=>?_
   · refine Ix 1 rfl (u:=dN y) rfl ?_
     refine Ce rfl (begins_ok (T:=toT y.k y.t) (U:=toT x.k x.t) (TS.pt hyr) (TS.pt hxr) (by omega) (by rw [Xaa];omega)) ?_
     refine By rfl (fun h1=>?_) fun h1=>?_
     · have hb : Beg x.k x.t y.k y.t:=h1
       refine Ix 1 rfl (u:=dN y) rfl ?_
       refine Ar (1+1 : Nat) rfl ?_
       exact Bk (2,⟨y.k,y.t⟩) [] rfl (.inr (.inr ⟨rfl,.mk hG hx1 hy1 hy1 (beg_rt hG hb hx1 hy1) rts⟩)) (show 0<1 by decide)
     · refine Ix 1 rfl (u:=dN y) rfl ?_
       refine Ce rfl (begins_ok (T:=toT x.k x.t) (U:=toT y.k y.t) (TS.pt hxr) (TS.pt hyr) (by omega) (by rw [Xaa];omega)) ?_
       refine By rfl (fun h2=>?_) fun h2=>?_
       · refine Ix 1 rfl (u:=dN y) rfl ?_
         refine Ca rfl (Xde W hx1 hy1) fun v hv=>?_
         obtain ⟨m,T,rs,ρ',rfl,g1,g2,g3,g5,g6⟩:=hv
         refine No rfl (by simp) ?_
         refine Ar (1+1 : Nat) rfl ?_
         exact Bk (2,⟨m,T⟩) [] rfl (.inr (.inr ⟨rfl,.ext hG hx1 hy1 g1 g2 g5⟩)) (show 0<1 by decide)
       · refine Ar (1+1 : Nat) rfl ?_
         exact Bk (2,⟨x.k,x.t⟩) [] rfl (.inr (.inr ⟨rfl,last (by simpa [Xbb,Xan] using h2)⟩)) (show 0<1 by decide)
   · refine Ix 1 rfl (u:=dN y) rfl ?_
     refine Ce rfl (begins_ok (T:=toT x.k x.t) (U:=toT y.k y.t) (TS.pt hxr) (TS.pt hyr) (by omega) (by rw [Xaa];omega)) ?_
     refine By rfl (fun h2=>?_) fun h2=>?_
     · refine Ix 1 rfl (u:=dN y) rfl ?_
       refine Ca rfl (Xde W hx1 hy1) fun v hv=>?_
       obtain ⟨m,T,rs,ρ',rfl,g1,g2,g3,g5,g6⟩:=hv
       refine No rfl (by simp) ?_
       refine Ar (1+1 : Nat) rfl ?_
       exact Bk (2,⟨m,T⟩) [] rfl (.inr (.inr ⟨rfl,.ext hG hx1 hy1 g1 g2 g5⟩)) (show 0<1 by decide)
     · refine Ar (1+1 : Nat) rfl ?_
       exact Bk (2,⟨x.k,x.t⟩) [] rfl (.inr (.inr ⟨rfl,last (by simpa [Xbb,Xan] using h2)⟩)) (show 0<1 by decide)
 · obtain ⟨ρ,hT,hcon⟩:=hP
   have hTr:=W.t hT
   have hm3:=W.le hT
   refine No rfl (show ¬ (2 : Int)<2 by decide) ?_
   refine Nl 9 9 2 rfl ?_
   refine Lo (fun (s : Nat × List (Tow.El m))=>[(0,.d (dNs [x,y])),(4,.d (dt T)),(9,.gr 9 2 (s.2.map fun a=>dN ⟨m,T,a⟩)),(10,.d (.int .i64 s.1))]) (fun s=>[(9,.tok (s.2.map fun a=>dN ⟨m,T,a⟩).length 2)])
    (JnI G p m ρ vx vy) (fun s=>2 - s.1) (0,[]) [] rfl ⟨W1c _,rfl,fun i hi=>absurd hi (W6q _)⟩ (fun (j,bs) hI=>?_)
   have hI':=hI
   obtain ⟨hj,hjl,has⟩:=hI
   simp only at hj hjl has
   refine By rfl (fun h=>?_) fun h=>?_
   · have h : (j : Int)<2:=h
     obtain ⟨z,v,ρz,z1,z2,z3,z4,z6⟩:=both hx hy j (by omega)
     have z5:=W.t z3
     have hzu : ([x,y].map dN)[j]?=some (dN z):=by rw [W1f,z1];rfl
     have hzm:=hcon z (W0r z1) ρz z3
     have hz3:=W.le z3
     have hpj : p≤jW p:=jW_ge
     refine Ix j rfl hzu ?_
     refine Ce rfl (begins_ok (T:=toT m T) (U:=toT z.k z.t) (TS.pt hTr) (TS.pt z5) (by omega) (by rw [Xaa];omega)) ?_
     refine By rfl (fun h1=>?_) fun h1=>?_
     · have hb : Beg z.k z.t m T:=h1
       obtain ⟨b,hlb⟩:=Lf.ex hb.le z.a
       have hv1 : ev G ρ m b=v:=by rw [hlb.ev hb.le,Xbp (beg_ag hG hb z3 hT),z4]
       refine Ix j rfl hzu ?_
       refine Ce rfl (Xut (T:=T) hlb hb.le (by omega)) ?_
       refine ApG ((bs++[b]).map fun a=>dN ⟨m,T,a⟩) rfl (by simp) (by simp;omega) ?_
       refine Ar (j+1 : Nat) rfl ?_
       exact Bk (j+1,bs++[b]) [(113,9)] rfl (hI'.step (by omega) z2 hv1 ((hlb.sz z6).mono hpj)) (by show 2 - (j+1)<2 - j;omega)
     · refine Ix j rfl hzu ?_
       refine Ca rfl (Xde W hT z3) fun v' hv=>?_
       obtain ⟨m',T',rs,ρ',rfl,g1,g2,g3,g5,g6⟩:=hv
       obtain rfl : m'=m:=by have:=congrArg List.length (g6 hzm);rwa [Xaa,Xaa] at this
       have g5 : RtV G m' (zM wR 3) z.k rs ρ ρz:=g5.mono (W0c _) (W0c _) (fun i hi=>(g3 i hi).symm)
       obtain ⟨σ,s1,s2⟩:=g5.sig
       have hbd:=Ydw (p:=p) hm3 hz3
       refine Ix j rfl hzu ?_
       refine Ce rfl (Xfk hTr (by omega) s1 z6 (by omega) (by omega)) ?_
       refine ApG ((bs++[ev T σ z.k z.a]).map fun a=>dN ⟨m',T,a⟩) rfl (by simp) (by simp;omega) ?_
       refine Ar (j+1 : Nat) rfl ?_
       exact Bk (j+1,bs++[ev T σ z.k z.a]) [(113,9)] rfl (hI'.step (by omega) z2 (by rw [Xmf hT.h s2,z4]) (img W hT z3 s1 z6)) (by show 2 - (j+1)<2 - j;omega)
   · have h : ¬ (j : Int)<2:=h
     obtain rfl : j=2:=by omega
     obtain ⟨a,b,rfl,hJ⟩:=hI'.done hT
     exact Rt rfl (.tup (.cons (.gr rfl) Xa3)) ⟨m,T,a,b,rfl,hJ⟩
end
open Go Go.Vm Go.Num Go.Tow Go.Proofs.YtpgcfjpkilabfaaGreatDoor
abbrev n0 : D:=.st (.pr (dts []) (dqs []))
theorem fit0 {g : Hp} {K : Hpl} : Fit g K (.st (.pr .nil .nil)) (.d n0):=.sd (.pd (.nil rfl) (.nil rfl))
section
variable {K : Nat} {G : Tw K} {S : List (Tow.El K)} {r p : Nat} {x y : Nm} {vx vy : Tow.El K}
theorem Yak (W : Wy G S wR) (hx : NOk G S r p x vx) (hy : NOk G S r p y vy) (hp : p≤4000000000) : C0 254 [.d (dN x),.d (dN y)] fun v=>∃ m T a b,v=.tup (.pr (.d (dN ⟨m,T,a⟩)) (.pr (.d (dN ⟨m,T,b⟩)) (.d (.int .i64 0))))∧JnR G S p vx vy m T a b:=by
 refine En Tryz.func254 fun _ _ _=>?_
 refine Ca rfl (Join_ok W hx hy hp) fun v hv=>?_
 obtain ⟨m,T,a,b,rfl,h⟩:=hv
 refine No rfl (by simp) ?_
 refine Dz rfl ?_
 refine Ix 0 rfl (u:=dN ⟨m,T,a⟩) rfl ?_
 refine Ix 1 rfl (u:=dN ⟨m,T,b⟩) rfl ?_
 exact Rt rfl (.tup (.cons (.rf rfl) (.cons (.rf rfl) Xa3))) ⟨m,T,a,b,rfl,h⟩
def OpR (G : Tw K) (S : List (Tow.El K)) (p : Nat) (w : Tow.El K) (v : AV) : Prop:=∃ z : Nm,v=.tup (.pr (.d (dN z)) (.d (.int .i64 0)))∧NOk G S wR p z w
theorem Add_ok (W : Wy G S wR) (hx : NOk G S r p x vx) (hy : NOk G S r p y vy) (hp : p≤4000000000) : C0 172 [.d (dN x),.d (dN y)] (OpR G S (oW p) (Tow.add K vx vy)):=by
 have hO : oW p=16*p+147714794:=rfl
 have hJ : jW p=8*p+73803682:=rfl
 refine En Tryz.func172 fun _ _ _=>?_
 refine Ca rfl (Yak W hx hy hp) fun v hv=>?_
 obtain ⟨m,T,a,b,rfl,ρ,h1,h3,h4,h5,h6⟩:=hv
 have h2:=W.t h1
 have hm:=W.le h1
 refine No rfl (by simp) ?_
 refine Dw rfl ?_
 refine Ce rfl (R6.Add_el (k:=m) (a:=a) (b:=b) (by omega) h5.ps h6.ps (by omega)) ?_
 exact Rt rfl (.tup (.cons (.rf rfl) Xa3)) ⟨⟨m,T,Tow.add m a b⟩,rfl,⟨ρ,h1,by rw [←h3,←h4];exact Xd7⟩,h2,by rw [Xat];exact (h5.add h6).mono (by omega)⟩
theorem Mul_ok (W : Wy G S wR) (hx : NOk G S r p x vx) (hy : NOk G S r p y vy) (hp : p≤4000000000) : C0 175 [.d (dN x),.d (dN y)] (OpR G S (oW p) (Tow.mul K G vx vy)):=by
 have hO : oW p=16*p+147714794:=rfl
 have hJ : jW p=8*p+73803682:=rfl
 refine En Tryz.func175 fun _ _ _=>?_
 refine Ca rfl (Yak W hx hy hp) fun v hv=>?_
 obtain ⟨m,T,a,b,rfl,ρ,h1,h3,h4,h5,h6⟩:=hv
 have h2:=W.t h1
 have hm:=W.le h1
 have hc:=Xgl (r:=wR) hm
 have hC:=wC
 refine No rfl (by simp) ?_
 refine Dw rfl ?_
 refine Ce rfl (R6.Mul_el (k:=m) (t:=T) (a:=a) (b:=b) h2 h5 h6 (by omega) (by omega)) ?_
 exact Rt rfl (.tup (.cons (.rf rfl) Xa3)) ⟨⟨m,T,Tow.mul m T a b⟩,rfl,⟨ρ,h1,by rw [←h3,←h4];exact Xce h1.h⟩,h2,(h5.mul h2 h6).mono (by omega)⟩
theorem Neg_ok (hx : NOk G S r p x vx) (hk : x.k≤16) (hp : p≤8796093022208) : C0 30 [.d (dN x)] (·=.d (dN ⟨x.k,x.t,Tow.neg x.k x.a⟩)):=by
 refine En Tryz.func30 fun _ _ _=>?_
 refine Dw rfl ?_
 refine Ce rfl (R6.Neg_el hk hx.p.ps hp) ?_
 exact R1 rfl (.rf rfl)
theorem Sub_ok (W : Wy G S wR) (hx : NOk G S r p x vx) (hy : NOk G S r p y vy) (hp : p≤4000000000) : C0 235 [.d (dN x),.d (dN y)] (OpR G S (oW p) (Tow.add K vx (Tow.neg K vy))):=by
 have:=hy.le (Xag W.g) W.s
 refine En Tryz.func235 fun _ _ _=>?_
 refine Dw rfl ?_
 refine Ce rfl (Neg_ok hy (by omega) (by omega)) ?_
 refine Ca rfl (Add_ok W hx hy.neg hp) fun v hv=>?_
 obtain ⟨z,rfl,h⟩:=hv
 exact Rt rfl (.tup (.cons (.rf rfl) Xa3)) ⟨z,rfl,h⟩
theorem Sign_ok (hG : red K G) (hx : NOk G S r p x vx) (hk : x.k≤16) (hv : vB r x.k p≤4398046511104) : C0 94 [.d (dN x)] (·=.d (.int .i64 (sgn K G vx))):=by
 refine En Tryz.func94 fun _ _ _=>?_
 refine Ce rfl (R7.Fast_ok hx.r hx.p hk hv) ?_
 rw [hx.sgn (Xag hG)]
 exact R0
def RtR (x : Nm) (v : AV) : Prop:=∃ z : Nm,v=.tup (.pr (.d (dN z)) (.d (.int .i64 0)))∧((∃ y,z=⟨x.k,x.t,y⟩∧Tow.mul x.k x.t y y=x.a∧0≤sgn x.k x.t y)∨(z=⟨x.k+1,tsn x.t x.a,root (x.k+1) x.k⟩∧0≤sgn x.k x.t x.a∧¬ Xb6 x.k x.t x.a))
theorem Sqrt_ok (hr : red x.k x.t) (hT : TS r x.k x.t) (ha : Sz p (toL x.k x.a)) (h0 : 0≤sgn x.k x.t x.a) (hk : x.k<8) (hq : qB r x.k p≤4398046511104) (hq2 : qB r x.k r≤4398046511104) (hv : vB r x.k (p+gC r x.k)≤4398046511104) (hv2 : vB r x.k r≤4398046511104) :
 C0 141 [.d (dN x)] (RtR x):=by
 refine En Tryz.func141 fun _ _ _=>?_
 refine Ca rfl (R8.Adjoin_ok hT ha hr hk hq hq2 hv hv2) fun v hv=>?_
 rcases hv with ⟨h1,rfl⟩ | ⟨y,h1,h2,rfl⟩ | ⟨h1,h2,h3,rfl⟩
 · omega
 · refine No rfl (by simp) ?_
   exact Rt rfl (.tup (.cons (.rf rfl) Xa3)) ⟨⟨x.k,x.t,y⟩,rfl,.inl ⟨y,rfl,h1,h2⟩⟩
 · refine No rfl (by simp) ?_
   exact Rt rfl (.tup (.cons (.rf rfl) Xa3)) ⟨⟨x.k+1,tsn x.t x.a,root (x.k+1) x.k⟩,rfl,.inr ⟨rfl,h1,h2⟩⟩
theorem FromRat_ok {q : Rat} : C0 143 [.d (dq q)] (·=.d (dN ⟨0,(),q⟩)):=by
 refine En Tryz.func143 fun _ _ _=>?_
 exact R1 rfl (.sd (.pd (.nil rfl) (.lit rfl)))
theorem FromInt_ok {z : Int} (h : -9223372036854775808≤z∧z<9223372036854775808) : C0 73 [.d (.int .i64 z)] (·=.d (dN ⟨0,(),(z : Rat)⟩)):=by
 refine En Tryz.func73 fun _ _ _=>?_
 refine Ce rfl (R2.FromInt_ok h) ?_
 refine Ce rfl FromRat_ok ?_
 exact R1 rfl (.rf rfl)
end
end Go.Proofs.YtpgcfjpkilabfaaGreatDoor.R9
namespace Go.Vm
open Go
section
variable {tb : Nat→Option TI}
end
section
variable {c : Cx} {s : St}
variable {p : Pl}
end
end Go.Vm
namespace Go.Proofs.YtpgcfjpkilabfaaGreatDoor.R9
open Go Go.Vm Go.Num Go.Tow Go.Proofs.YtpgcfjpkilabfaaGreatDoor
end Go.Proofs.YtpgcfjpkilabfaaGreatDoor.R9
namespace Go.Tow
open Go Go.Num Go.Proofs.YtpgcfjpkilabfaaGreatDoor
end Go.Tow
namespace Go.Proofs.YtpgcfjpkilabfaaGreatDoor.R9
open Go Go.Vm Go.Num Go.Tow Go.Proofs.YtpgcfjpkilabfaaGreatDoor
section
section
variable {K : Nat} {G : Tw K} {S : List (Tow.El K)} {r p : Nat} {x : Nm} {v : Tow.El K}
end
end
section
end
end Go.Proofs.YtpgcfjpkilabfaaGreatDoor.R9
namespace Go.Tow
open Go Go.Num Go.Proofs.YtpgcfjpkilabfaaGreatDoor
variable {K : Nat} {G : Tw K} {ρ : Nat→El K} {S : List (El K)} {r p : Nat} {x : Nm} {v : El K}
end Go.Tow
namespace Go.Proofs.YtpgcfjpkilabfaaGreatDoor
open Go Go.Vm Go.Num Go.Tow
end Go.Proofs.YtpgcfjpkilabfaaGreatDoor
namespace Go.Proofs.YtpgcfjpkilabfaaGreatDoor.R9
open Go Go.Vm Go.Num Go.Tow Go.Proofs.YtpgcfjpkilabfaaGreatDoor
end Go.Proofs.YtpgcfjpkilabfaaGreatDoor.R9
namespace Go.Vm
open Go Go.ChangeShapes Go.WideShapes Go.ChangeAt Go.RowKit
theorem Xws {P : Program} {t e : TypeId} {r : D→Prop} (ht : P.underlying t=some (.slice e)) (hr : Reads P t r) (hg : ∀ x,r x→x.ag=false) : Arg P t r:=fun W base _ _ _ _ v d p hok h=>by
 obtain ⟨_,_,_,rfl⟩:=okWide_slice ht hok
 obtain ⟨fuel,h⟩:=h
 obtain ⟨x,h1,h2⟩:=hr W h
 exact ⟨x,h1,_,h2,by rw [show AV.ag (.d x)=false from hg x h1];rfl⟩
end Go.Vm
namespace Go.Proofs.YtpgcfjpkilabfaaGreatDoor
open Go Go.Vm Go.Num
theorem Ym7 {α : Type} {f : α→D} {l : List D} (h : ∀ y∈l,∃ x,y=f x) : ∃ m : List α,l=m.map f:=by
 induction l with
 | nil=>exact ⟨[],rfl⟩
 | cons y l ih =>
  obtain ⟨x,hx⟩:=h y (W0t ..)
  obtain ⟨m,hm⟩:=ih fun z hz=>h z (W0x _ hz)
  exact ⟨x::m,by rw [hx,hm];rfl⟩
theorem Ye6 : Arg Tryz.prog 3 fun d=>∃ n : Int,d=.int .i64 n∧-9223372036854775808≤n∧n<9223372036854775808:=Ye5 Tryz.underlying3 (Xt3 Tryz.underlying3) fun x ⟨_,e,_⟩=>by rw [e];rfl
open Go Go.Vm Go.Num Go.ChangeShapes Go.WideShapes Go.ChangeAt Go.RowKit
abbrev Ydu : List (String × DataW Unit) := [("math/bits.deBruijn32tab", Rows.laid_math_bits_deBruijn32tab), ("math/bits.deBruijn64tab", Rows.laid_math_bits_deBruijn64tab), ("internal/strconv.uint64pow10", Rows.laid_internal_strconv_uint64pow10)]
def Ynn : List Int:=(List.range 20).map fun i=>((10 ^ i : Nat) : Int)
theorem Ycm : ∀ i,i<20→Ynn.getD i 0=((10 ^ i : Nat) : Int):=by decide
theorem Yie : Tryz.prog.globalNamed "internal/strconv.uint64pow10" = some 1 := by kernel_rfl
theorem Yid : (Tryz.prog.globals[1]?).map (·.type)=some 323:=by kernel_rfl
theorem Ylo {W : World} (h : laidMetH Tryz.prog Ydu W) : Gb.g Tryz.prog (gw0 W):=by
 rw [Go.MakeChecks.laidMetH_plain Tryz.prog Ydu W (by kernel_rfl)] at h
 have h3 : laidMet Tryz.prog (("internal/strconv.uint64pow10", Lib.tabData .u64 Ynn) :: []) W := h.tail.tail
 have ht:=Lib.tabIs_of_head Yie Yid Tryz.underlying323 Tryz.underlying156 (by kernel_rfl) (by kernel_rfl) h3
 exact fun i hi=>⟨by rw [show (gw0 W).w=W from rfl,ht.cell Yie i (by rw [show Ynn.length=20 from rfl];exact hi),Ycm i hi],fun h=>h⟩
def lay (vs : List (Nat × Array Value)) (w : World) : World:={ w with heap:=vs.foldl (fun h p=>h.modify p.1 fun | .cells _ t frozen=>.cells p.2 t frozen | o=>o) w.heap }
def u8s (l : List Nat) : Array Value:=(l.map fun (n : Nat)=>Value.int .u8 n).toArray
def Ynp : List (Nat × Array Value):=[(1,(Ynn.map fun z=>Value.int .u64 z).toArray),
 (2,u8s [0,1,28,2,29,14,24,3,30,22,20,15,25,17,4,8,31,27,13,23,21,19,16,7,26,12,18,6,11,5,10,9]),
 (3,u8s [0,1,56,2,57,49,28,3,61,58,42,50,38,29,17,4,62,47,59,36,45,43,51,22,53,39,33,30,24,18,12,5,63,55,48,27,60,41,37,16,46,35,44,21,52,32,23,11,54,26,40,15,34,20,31,10,25,14,19,9,13,8,7,6])]
noncomputable def Xdd (os : Os) : World:=lay Ynp (World.holding Tryz.prog os ⟨#[],#[],[]⟩)
theorem Xyk (os : Os) (args : Array Value) : laidMet Tryz.prog Ydu ((Xdd os).forCall (fun _ _=>0) ⟨#[],args,[]⟩).memory :=
 laidMet_of_run' 8 (by kernel_rfl) (by kernel_rfl)
end Go.Proofs.YtpgcfjpkilabfaaGreatDoor
namespace Go.Vm
open Go
section
variable {c : Cx} {s : St} {p : Pl}
theorem Xyg {o : Oper} {v : AV} {us : Hpl} (h : nxO c.tb c.n s=some (p,o)) (hc : Xar o=false) (hdr : p.dr=false) (hr : Raw c.P o (sem p.E p.H) (v,us)) (k : p.nx' c v us) : StP c s:=by
 obtain ⟨hw,hd⟩:=Xud h
 refine Xlv h (.inl ⟨hw,(Xoj hc).2 (.inr ⟨hdr,(v,us),hr,?_⟩)⟩)
 unfold aft
 rw [Xex,←hd];exact Pl.nx'_eq.1 k
noncomputable def Ym6 (tb : Nat→Option TI) (n : Nat) (s : St) : Option (Pl × Oper × Operand × Operand × TypeId × TypeId × TI × Nat × Int):=match nxO tb n s with
 | some (p,o)=>match o.op,p.dr with
  | .call ⟨.builtin .append,⟨[x,y]⟩,⟨[T,T']⟩⟩,false=>match Xdp (look p.E) x,Xdp (look p.E) y,tb T,tb T' with
   | some .nil,some (.d (.int .i64 m)),some ti,some ⟨.int _ _,_,_,_⟩=>match look p.H (o.dst.getD 0),ti.z,Nat.ble ti.eb 128 with
    | none,.sl sz _,true=>some (p,o,x,y,T,T',ti,sz,m)
    | _,_,_=>none
   | _,_,_,_=>none
  | _,_=>none
 | none=>none
end
theorem Ygy {P : Program} (w : World) (t tn ty e : TypeId) (i : TypeInfo) (z : Value) (k kn : IntKind) (ht : P.underlying t=some (.slice e)) (htn : P.underlying tn=some (.int kn)) (hi : P.info? e=some i) (hz : i.zero=some z) (q : Option Addr)
 (n : Nat) (h0 : 0<n) (hs : 0<i.size) (h63 : (n : Int)≤9223372036854775807) (h48 : n*i.bytes≤281474976710656) :
 (Builtin.append_ #[t,tn] ty #[.slice q 0 0,.int k n]).run P w =
  .ok (.slice (some ⟨w.heap.size,0,none⟩) n (grownCap w n 0 e)) (w.drew.alloc (.cells (Builtin.zeroCells z.cells n++Builtin.zeroCells z.cells (grownCap w n 0 e - n)) e)):=by
 cases q with
 | none=>exact Go.Lib.run_append_nil_zeros w t tn ty e i z k kn ht htn hi hz n h0 hs h63 h48
 | some a =>
  have hn : n≠0:=by omega
  have hw : IntKind.i64.wrap (n : Int)=n:=by rw [IntKind.wrap_i64];omega
  have h63' : ¬ (9223372036854775807<(n : Int)):=by omega
  have h48' : ¬ (281474976710656<Builtin.nextslicecap n 0*i.bytes):=by rw [nextslicecap_zero h0];omega
  have h48i : ¬ (281474976710656<(n : Int)*(i.bytes : Int)):=by
   rw [←W2t]
   omega
  have hneg : ¬ ((n : Int)<0):=by omega
  have hns : ¬ (n*i.size=0):=Nat.mul_ne_zero hn (by omega)
  simp [Builtin.append_,run_underlying ht,run_underlying htn,sizeOf,typeInfo,zeroValue,hi,hz,asInt,asIntOf,hw,hn,hneg,hns,h63',h48',h48i,Question.forced,Builtin.firstCells,loadCells,loadCellsFrom,newRow,grownCap]
section
variable {c : Cx} {s : St} {p : Pl}
theorem ApM {o : Oper} {x y : Operand} {T T' : TypeId} {ti : TI} {sz : Nat} {m : Int} (n : Nat) (h : Ym6 c.tb c.n s=some (p,o,x,y,T,T',ti,sz,m)) (h0 : 0<n) (hr : n≤1099511627776) (k : p.nx' c (.own (o.dst.getD 0) sz 0 n) [(o.dst.getD 0,.arr sz [])]) (hm : m=(n : Int):=by first | exact rfl | omega) : StP c s:=by
 subst hm
 unfold Ym6 at h
 split at h <;> try cases h
 rename_i p' o' ho
 split at h <;> try cases h
 rename_i x' y' T1 T2 hop hdr
 split at h <;> try cases h
 rename_i m' ti1 kn _ e' eb' ar' hx hy hti hti'
 split at h <;> cases h
 rename_i hd hb hz
 refine Xyg ho (by unfold Xar;rw [hop];rfl) hdr (fun N W θ ρ _ hO hN hB hv=>?_) k
 obtain ⟨hk,_⟩:=c.hT _ _ hti
 obtain ⟨t,u1,_,u3⟩:=hk.u
 rw [hz] at u3
 obtain ⟨E,e,hsz,hez,ii,v0,i1,i2,i3,i4,i5⟩:=u3
 subst e
 obtain ⟨hk',_⟩:=c.hT _ _ hti'
 obtain ⟨t',u1',_,u3'⟩:=hk'.u
 have u3' : t'=.int kn:=u3'
 subst u3'
 obtain ⟨q,ex⟩:=Xk3 (hv _ _ hx)
 obtain ⟨ey,_⟩:=Xc5 (hv _ _ hy)
 have hsp : 0<ii.size:=by rw [i2];exact D.size_pos _
 have hbb : n*ii.bytes≤281474976710656:=by rw [i3];have:=W1t hr (W1o hb);omega
 have hrun:=Ygy (P:=c.P) W.w T T' o.type E ii v0 .i64 kn u1 u1' i1 i4 q n h0 hsp (by omega) hbb
 have hge:=grownCap_ge W.w n 0 E
 have hlt : grownCap W.w n 0 E<9223372036854775808:=by
  have:=W1y (W.w.tape W.w.drawn (.appendCap n 0 E)) (show 0<2 ^ 63 - n by omega)
  simp only [grownCap,Question.cut] at *
  omega
 have hzs : v0.cells.size=sz:=by rw [hsz,←D.zc_len,←i5];simp
 obtain ⟨W',θ',e1,e2,e3⟩:=Xj9 (W:=W.tick) (θ:=θ) (g:=(sem p.E p.H).2) (dd:=o.dst.getD 0) (E:=E) (sz:=sz) (xs:=[]) (cs:=[]) (c:=grownCap W.w n 0 E) (zs:=(Builtin.zeroCells v0.cells n++Builtin.zeroCells v0.cells (grownCap W.w n 0 E - n)).toList) (Stp.tick hO).obs hN hB hd (fun i x h=>by simp at h) (by simp) (by simp) hlt (by
  rw [W4m,Array.length_toList,Array.size_append,size_zeroCells,size_zeroCells,hzs,←W1g]
  congr 1
  omega)
 obtain ⟨cs,⟨b,pp,k1,k2,k3,k4,k5⟩,k6⟩:=e3
 subst k4
 have k6 : Value.slice (some ⟨W.tick.size,0,none⟩) 0 (grownCap W.w n 0 E)=.slice pp 0 ((θ' (o.dst.getD 0)).2 - 0):=k6
 injection k6 with k6 k7 k8
 have k5:=k5 (.inl rfl)
 rw [←k6] at k5
 injection k5 with k5
 injection k5 with k5
 have k5 : W.size=b:=k5
 subst k5
 refine ⟨W',θ',.value (.slice (some ⟨W.size,0,none⟩) n (grownCap W.w n 0 E)),?_,(Stp.tick hO).trans e2,.inr ⟨_,rfl,Ydg (xs:=[]) k1 (by omega) (by omega) k3⟩,fun i hi=>⟨_,by subst hi;exact Xaj _ _ _⟩⟩
 have h1 : execOp ρ o=(Builtin.append_ #[T,T'] o.type #[ρ x,ρ y] >>= fun v=>pure (.value v)):=by
  simp [execOp,hop,resolve,invoke,builtin]
 rw [h1,Sem.run_bind,ex,ey,hrun,e1]
 have fin : ∀ {a b : Array Value},a=b→(Result.ok (Next.value (.slice (some ⟨W.size,0,none⟩) n (grownCap W.w n 0 E))) (W.w.drew.alloc (.cells a E)) : Result Next)=.ok (.value (.slice (some ⟨W.size,0,none⟩) n (grownCap W.w n 0 E))) (W.tick.w.alloc (.cells b E)):=by
  rintro a b rfl;rfl
 exact fin (by simp)
noncomputable def Ym0 (tb : Nat→Option TI) (n : Nat) (s : St) : Option Pl:=match nxA tb n s with
 | some (p,o,[.nil])=>match o.op with
  | .call ⟨.builtin .cap,_,⟨[T]⟩⟩=>match tb T with
   | some ⟨.sl _ _,_,_,_⟩=>some p
   | _=>none
  | _=>none
 | _=>none
theorem Kp (h : Ym0 c.tb c.n s=some p) (k : p.nx c (.d (.int .i64 0))) : StP c s:=by
 unfold Ym0 at h
 split at h <;> try cases h
 rename_i p' o hA
 split at h <;> try cases h
 rename_i asx T ho
 split at h <;> cases h
 rename_i ht
 refine Xcd (us:=[]) hA ?_ (Pl.nx_nil k)
 rw [ho]
 simp [F,Fp,ht]
theorem Sn {h' : Int} (h : nxS c.tb c.n s=some (p,.nil,none,some h')) (k : p.nx c .nil) (hh : h'=0:=by exact rfl) : StP c s:=Xpz h (by subst hh;rfl) k
noncomputable def Ym1 (tb : Nat→Option TI) (n : Nat) (s : St) : Option (Pl × FuncId × List AV):=match nxO tb n s with
 | some (p,o)=>match o.op with
  | .call ⟨.value x,asx,tys⟩=>match callee (look p.E) x,getEs (look p.E) asx.toList with
   | some (f,ex),some vs=>some (p,f,vs++ex)
   | _,_=>none
  | _=>none
 | none=>none
theorem CoN {f : FuncId} {asx : List AV} {Q : AV→Ob→Prop} (h : Ym1 c.tb c.n s=some (p,f,asx)) (hc : CO c.P f asx Q) (k : ∀ v ob,Q v ob→p.nx' c (v.rnf (rnL [(1000000,p.d.getD 0)])) [(p.d.getD 0,ob.rnf (rnL [(1000000,p.d.getD 0)]))])
 (hk : (Xsj asx [] [] (p.d.getD 0) p.H && !p.dr)=true:=by exact rfl) : StP c s:=by
 rw [W0g,W1s] at hk
 obtain ⟨hk,hdr⟩:=hk
 have hk':=hk
 simp only [Xsj,W0g,W1s] at hk'
 obtain ⟨⟨⟨⟨⟨k1,k2⟩,k3⟩,k4⟩,k5⟩,k6⟩:=hk'
 have hid : ∀ {a : AV},a.rnf (rnL [])=a:=by
  intro a
  induction a with
  | st a ih=>simp only [AV.rnf,ih]
  | tup a ih=>simp only [AV.rnf,ih]
  | fm f a ih=>simp only [AV.rnf,ih]
  | pr a c iha ihc=>simp only [AV.rnf,iha,ihc]
  | _=>rfl
 have hmap : asx.map (AV.rnf (rnL []))=asx:=by rw [show AV.rnf (rnL [])=id from funext fun a=>hid,List.map_id]
 unfold Ym1 at h
 split at h <;> try cases h
 rename_i p' o ho
 obtain ⟨hw,hd⟩:=Xud ho
 split at h <;> try cases h
 rename_i x as' tys he
 split at h <;> cases h
 rename_i ex vs hvs hf
 have kk : ∀ v ob,Q v ob→WL c.P c.tb p.dr p.L (J c p.K) p.l (S.put ((sem p.E p.H).1,Xbw (sem p.E p.H).2 [(p.d.getD 0,ob.rnf (rnL [(1000000,p.d.getD 0)]))]) o.dst (v.rnf (rnL [(1000000,p.d.getD 0)]))):=fun v ob hv=>by
  have:=Pl.nx'_eq.1 (k v ob hv)
  have this : WL c.P c.tb p.dr p.L (J c p.K) p.l (sem (Xsh p.E p.d _) (_++p.H)):=this
  rw [←hd,Xex]
  exact this
 refine Xlv ho (.inl ⟨hw,?_⟩)
 unfold Wb
 rw [he]
 refine ⟨_,_,_,hf,hvs,?_⟩
 rw [hdr] at kk ⊢
 obtain ⟨a1,a2⟩:=Xie hc hk (Xbi k2) (g:=look p.H) (fun o x hx=>by simp [look] at hx)
 rw [hmap] at a2
 refine ⟨_,_,.inr rfl,⟨a1,a2⟩,?_⟩
 rintro v g' ⟨v0,H',d1,⟨ob,rfl,d2⟩,rfl,rfl⟩
 have:=kk v0 ob d2
 simpa [rfH,rnL] using this
end
def AV.nl (o sz : Nat) : AV→AV
 | .nil=>.gr o sz []
 | .st a=>.st (a.nl o sz)
 | .pr a c=>.pr (a.nl o sz) (c.nl o sz)
 | a=>a
theorem Yn1 {W : GW} {θ : Loc} {o sz : Nat} (h0 : θ o=(none,0)) : ∀ {a : AV} {cs : List Value},AV.C W θ a cs→AV.C W θ (a.nl o sz) cs:=by
 intro a
 induction a with
 | st a ih=>intro cs h;exact ih h
 | pr a c iha ihc=>intro cs ⟨u,v,h,h1,h2⟩;exact ⟨u,v,h,iha h1,ihc h2⟩
 | nil=>intro cs ⟨p,h⟩;exact ⟨p,by rw [h,h0];rfl,.inl (by rw [h0]),by simp,by rw [h0];decide,.inl rfl⟩
 | _=>intro cs h;exact h
theorem Yhk {o sz i : Nat} : ∀ {a : AV},(a.nl o sz).ids i→i=o∨a.ids i:=by
 intro a
 induction a with
 | st a ih=>exact ih
 | pr a c iha ihc=>exact fun h=>h.elim (fun h=>(iha h).imp id .inl) fun h=>(ihc h).imp id .inr
 | nil=>exact .inl
 | _=>exact .inr
section
variable {c : Cx} {s : St} {p : Pl}
theorem nvS {K : List Kt} {E : Env} {H : Hpl} (q o' sz : Nat) {a : AV} (hv : look H q=some (.var a)) (hb : (Nat.blt o' 1000000 && !Xb9 H o')=true) (k : J c K (sem E ((q,.var (a.nl o' sz))::(o',.tok 0 sz)::H))) : J c K (sem E H):=by
 simp only [W0g,W1s] at hb
 have hb1:=Xp7 hb.1
 have hn : look H o'=none:=Xbi hb.2
 have hq : q≠o':=fun e=>by rw [e,hn] at hv;cases hv
 rintro x w ⟨s0,W,θ,hw,hs,hθ,rfl⟩
 have st:=Stp.new0 (d:=o') hs.obs hb1 hn (x:=.tok 0 sz) ⟨by simp,by simp,.inl (by simp)⟩ (fun i h=>h)
 have h1:=hs.step0 st
 refine k x w ⟨_,W,_,hw,?_,fun i hi=>(st.hi i hi).trans (hθ i hi),rfl⟩
 rw [show sem E ((q,Ob.var (a.nl o' sz))::(o',Ob.tok 0 sz)::H)=(look E,upd (upd (look H) o' (.tok 0 sz)) q (.var (a.nl o' sz))) from by rw [Xa5,Xa5]]
 have hq1 : upd (look H) o' (.tok 0 sz) q=some (.var a):=by rw [Xam hq];exact hv
 have hdom : ∀ {i : Nat} {y : Ob},upd (look H) o' (.tok 0 sz) i=some y→∃ z,upd (upd (look H) o' (.tok 0 sz)) q (.var (a.nl o' sz)) i=some z:=fun {i y} hy=>by
  by_cases e : i=q
  · subst e;exact ⟨_,Xaj _ _ _⟩
  · exact ⟨y,by rw [Xam e];exact hy⟩
 refine ⟨h1.fm,h1.rel,⟨fun i y hy=>?_,fun i y b hy hl hb=>?_,fun i j y y' b hy hy' hl hl' b1 b2=>?_,fun i y j hy hj=>?_⟩,fun t v i ht hi=>?_⟩
 · rcases Xae hy with ⟨e1,e2⟩ | ⟨e1,e2⟩
   · subst e1;subst e2
     obtain ⟨b,cs,T,r1,r2,r3,r4⟩:=h1.obs.r _ _ hq1
     exact ⟨b,cs,T,r1,r2,Yn1 (by simp) r3,r4⟩
   · exact h1.obs.r _ _ e2
 · rcases Xae hy with ⟨e1,e2⟩ | ⟨e1,e2⟩
   · subst e1;exact h1.obs.new _ _ b hq1 rfl hb
   · exact h1.obs.new _ _ b e2 hl hb
 · rcases Xae hy with ⟨e1,e2⟩ | ⟨e1,e2⟩ <;> rcases Xae hy' with ⟨f1,f2⟩ | ⟨f1,f2⟩
   · rw [e1,f1]
   · subst e1;exact h1.obs.dis _ _ _ _ b hq1 f2 rfl hl' b1 b2
   · subst f1;exact h1.obs.dis _ _ _ _ b e2 hq1 hl rfl b1 b2
   · exact h1.obs.dis _ _ _ _ b e2 f2 hl hl' b1 b2
 · rcases Xae hy with ⟨e1,e2⟩ | ⟨e1,e2⟩
   · subst e2
     rcases Yhk (a:=a) hj with h | h
     · exact hdom (y:=.tok 0 sz) (by rw [h];exact Xaj _ _ _)
     · obtain ⟨z,hz⟩:=h1.obs.ids _ _ j hq1 h
       exact hdom hz
   · obtain ⟨z,hz⟩:=h1.obs.ids _ _ j e2 hj
     exact hdom hz
 · obtain ⟨z,hz⟩:=h1.ids t v i ht hi
   exact hdom hz
theorem Nv {K : List Kt} {E : Env} {H : Hpl} (q o' sz : Nat) {a : AV} (h : nxJ c.tb c.n s=some (K,E,H)) (k : StP c (.j [] K E ((q,.var (a.nl o' sz))::(o',.tok 0 sz)::H))) (hv : look H q=some (.var a):=by exact rfl) (hb : (Nat.blt o' 1000000 && !Xb9 H o')=true:=by exact rfl) : StP c s:=by
 unfold nxJ at h
 split at h <;> cases h
 rename_i hr
 exact go 1000 hr (nvS q o' sz hv hb k)
end
end Go.Vm
namespace Go.Proofs.YtpgcfjpkilabfaaGreatDoor
open Go Go.Vm Go.Num Go.Tow
theorem Xid {l : List Rat} (h0 : 0<l.length) (hl : l.length≤1048576) : CA0 278 [.d (dqs l)] 4 (l.map dq):=by
 refine EnW Tryz.func278 fun _ _ _ _=>?_
 refine Ub rfl (fun h=>?_) ?_
 · exact absurd h (by intro e; have : l.length = 0 := by simpa using congrArg List.length e
                      omega)
 refine ApL (l.map dq) rfl rfl (by simpa using h0) (by simpa using W0h hl (by decide)) ?_
 exact Rw [(7,1000000)] [(1000000,.arr 4 (l.map dq))] rfl (.one (.rf rfl) rfl rfl) ⟨_,rfl,rfl,rfl⟩
theorem Xjc {l : List Rat} (h0 : 0<l.length) (hl : l.length≤1048576) : C0 278 [.d (dqs l)] (·=.d (dqs l)):=(Xid h0 hl).data
theorem Xvi {n : Nat} (h0 : 0<n) (hn : n≤1048576) : CA0 394 [.nil,.d (.int .i64 n)] 4 []:=by
 refine EnW Tryz.func394 fun _ _ _ _=>?_
 refine No rfl (by omega) ?_
 refine Kp rfl ?_
 refine Ar 0 rfl ?_
 refine Ar n rfl ?_
 refine Yes rfl (by omega) ?_
 refine Kp rfl ?_
 refine Sn rfl ?_
 refine ApM n rfl h0 (by omega) ?_
 refine Sw 0 0 rfl (by omega) (by omega) ?_
 exact Rw [(22,1000000)] [(1000000,.arr 4 [])] rfl (.one (.rf rfl) rfl rfl) ⟨_,rfl,rfl,rfl⟩
theorem Ync {c c' : Bool} (h : c=c') {g : Hp} {K : Hpl} : FitT g K (.b c) (.b c'):=by
 subst h;exact .one (.rf rfl) (fun _ _ e=>by cases e) (fun _ _ e=>by cases e)
theorem Xq0 {p q : Prop} (h : p↔q) : dc p=dc q:=by rw [show p=q from propext h]
namespace P8
theorem Xzx {n : Int} (hn : n<0) (hl : (dig n.natAbs).length≤274877906944) : C0 397 [.d (dz n)] (·=.tup (.pr (.d (dS false [])) (.d (.int .i64 7)))):=by
 refine En Tryz.func397 fun _ _ _=>?_
 refine Ce rfl (Sign_ok (z:=n) (by omega)) ?_
 refine Yes rfl (by rcases Xau n 0 with ⟨g1,g2⟩ | ⟨g1,g2⟩ | ⟨g1,g2⟩ <;> omega) ?_
 exact RTt rfl (.cons (.sd (.pd (.bd rfl) (.nil rfl))) Xa3)
theorem Xj3 {n : Int} (hl : (dig n.natAbs).length≤274877906944) : C0 393 [.d (dz n)] fun v=>∃ b l,v=.tup (.pr (.d (dS b l)) (.b (dc (0≤n∧sqN n.natAbs))))∧(0≤n→dS b l=dz (rt n.natAbs : Int)):=by
 have hs:=@Sqrt_ok n.natAbs hl
 refine En Tryz.func393 fun _ _ _=>?_
 by_cases hn : 0≤n
 · have e : ((n.natAbs : Nat) : Int)=n:=by omega
   rw [e] at hs
   have hr:=(Xcx n.natAbs).1
   have h3 : rt n.natAbs≤rt n.natAbs*rt n.natAbs:=Nat.le_mul_self _
   have l1:=Xao (show rt n.natAbs≤n.natAbs by omega)
   have l2:=Xao hr
   refine Ce rfl hs ?_
   refine Dw rfl ?_
   refine Yes rfl rfl ?_
   refine Ce rfl (Mul_ok (by rw [W1h];omega) (by rw [W1h];omega)) ?_
   refine Ce rfl (Cmp_ok (by rw [←W2t,W1h];omega) (by omega)) ?_
   refine Rt rfl (.tup (.cons (.rf rfl) (Ync (Xq0 ?_)))) ⟨_,_,rfl,fun _=>rfl⟩
   unfold sqN
   rcases Xau ((rt n.natAbs : Int)*(rt n.natAbs : Int)) n with ⟨g1,g2⟩ | ⟨g1,g2⟩ | ⟨g1,g2⟩ <;> rw [←W2t] at g1 <;> rw [←W2t] at g2 ⊢ <;> omega
 · refine Ce rfl (Xzx (by omega) hl) ?_
   refine Dw rfl ?_
   refine No rfl (by decide) ?_
   exact Rt rfl (.tup (.cons (.rf rfl) (Xvo fun h=>hn h.1))) ⟨_,_,rfl,fun h=>absurd h hn⟩
theorem Xwz {x : Rat} {p : Nat} (hx : Qs p x) (hp : p≤4398046511104) : C0 375 [.d (dq x)] fun v=>∃ b l b' l',v=.tup (.pr (.d (R2.dR b l b' l')) (.b (dc (∃ y : Rat,y*y=x))))∧((∃ y : Rat,y*y=x)→∃ y : Rat,y*y=x∧R2.dR b l b' l'=dq y):=by
 have h1:=hx.n.len2 hp
 have h2:=hx.d.len2 hp
 have hi:=Xtc (q:=x)
 refine En Tryz.func375 fun _ _ _=>?_
 refine Ca rfl (Xj3 (n:=x.num) (by omega)) fun v hv=>?_
 obtain ⟨b,l,rfl,hb⟩:=hv
 refine Ca rfl (Xj3 (n:=(x.den : Int)) (by omega)) fun v hv=>?_
 obtain ⟨b',l',rfl,hb'⟩:=hv
 have z : ∀ {c g K},(c=false∧¬ ∃ y : Rat,y*y=x)→FitT g K (.pr (.st (.pr (.st (.pr (.b false) .nil)) (.st (.pr (.b false) .nil)))) (.b c)) (.pr (.d (R2.dR false [] false [])) (.b (dc (∃ y : Rat,y*y=x)))):=fun ⟨h0,h⟩=>by
  subst h0;exact .cons (.sd (.pd (.sd (.pd (.bd rfl) (.nil rfl))) (.sd (.pd (.bd rfl) (.nil rfl))))) (Xvo h)
 refine By rfl (fun h=>?_) fun h=>?_
 · have h : ¬ (0≤x.num∧sqN x.num.natAbs):=by simpa only [Xbb,Xan] using h
   have no : ¬ ∃ y : Rat,y*y=x:=fun e=>h ⟨(hi.1 e).1,(hi.1 e).2.1⟩
   exact Rt rfl (.tup (z ⟨rfl,no⟩)) ⟨false,[],false,[],rfl,fun e=>absurd e no⟩
 have h : 0≤x.num∧sqN x.num.natAbs:=by simpa [Xbb,Xan] using h
 refine By rfl (fun k=>?_) fun k=>?_
 · have k : ¬ (0≤(x.den : Int)∧sqN (x.den : Int).natAbs):=by simpa only [Xbb,Xan] using k
   have no : ¬ ∃ y : Rat,y*y=x:=fun e=>k ⟨by omega,by rw [W1h];exact (hi.1 e).2.2⟩
   exact Rt rfl (.tup (z ⟨rfl,no⟩)) ⟨false,[],false,[],rfl,fun e=>absurd e no⟩
 have k : 0≤(x.den : Int)∧sqN (x.den : Int).natAbs:=by simpa [Xbb,Xan] using k
 rw [W1h] at k
 obtain ⟨y,y1,y2,y3⟩:=Xjx (q:=x) h.1 h.2 k.2
 refine Rt rfl (.tup (.cons (.rf rfl) (Xxb ⟨y,y3⟩))) ⟨_,_,_,_,rfl,fun _=>⟨y,y3,?_⟩⟩
 have e1:=hb h.1
 have e2:=hb' k.1
 rw [W1h] at e2
 show D.st (.pr (dS b l) (dS b' l'))=D.st (.pr (dz _) (dz _))
 rw [e1,e2,y1,y2]
theorem Xn4 {k r p : Nat} {t : Tw k} {a : Tow.El k} (hT : TS r k t) (ha : Sz p (toL k a)) (hk : k≤16) (hp : p+3+cB r k≤4398046511104) (hr : r≤4398046511104) : C0 379 [.d (dt t),.d (de a)] (·=.d (de (mul k t a (rat k (1 / 2))))):=by
 refine En Tryz.func379 fun _ _ _=>?_
 refine Ce rfl (Xpt (a:=1) (b:=2) (by decide) (by decide)) ?_
 rw [Xvh]
 refine Ce rfl (Xcg (x:=1 / 2) (p:=3) hT hk hr ⟨show (1 / 2 : Rat).num.natAbs<2 ^ 3 by decide +kernel,show ((1 / 2 : Rat).den : Int).natAbs<2 ^ 3 by decide +kernel⟩ (by decide)) ?_
 refine Ce rfl (Xdi hT ha Sz.half hk (by omega) hr) ?_
 exact R0
theorem Xq2 {a b : List D} (h0 : 0<a.length+b.length) (hl : a.length+b.length≤1048576) : C0 376 [.d (.sl 1 [.sl 4 a,.sl 4 b])] (·=.d (.sl 4 (a++b))):=by
 refine En Tryz.func376 fun _ _ _=>?_
 refine Lo (fun (x : Nat × Nat)=>[(0,.d (.sl 1 [.sl 4 a,.sl 4 b])),(2,.nil),(3,.d (.int .i64 x.2)),(9,.d (.sl 1 [.sl 4 a,.sl 4 b])),(10,.d (.int .i64 2)),(11,.d (.int .i64 x.1))]) (fun _=>[]) (fun x=>x=(0,0)∨x=(1,a.length)∨x=(2,a.length+b.length)) (fun x=>2 - x.1) (0,0) [] rfl (.inl rfl) (fun x hI=>?_)
 rcases hI with rfl | rfl | rfl
 · refine Yes rfl (show ((0 : Nat) : Int)<2 by decide) ?_
   refine Ix 0 rfl (u:=.sl 4 a) rfl ?_
   refine Ar a.length rfl ?_ (wr (by omega) (by simp only [inK];omega))
   refine No rfl (by omega) ?_
   refine Ar (1 : Nat) rfl ?_
   exact Bk (1,a.length) [] rfl (.inr (.inl rfl)) (show 1<2 by decide)
 · refine Yes rfl (show ((1 : Nat) : Int)<2 by decide) ?_
   refine Ix 1 rfl (u:=.sl 4 b) rfl ?_
   refine Ar (a.length+b.length : Nat) rfl ?_ (wr (by omega) (by simp only [inK];omega))
   refine No rfl (by omega) ?_
   refine Ar (2 : Nat) rfl ?_
   exact Bk (2,a.length+b.length) [] rfl (.inr (.inr rfl)) (show 0<1 by decide)
 refine No rfl (show ¬ ((2 : Nat) : Int)<2 by decide) ?_
 refine CoN rfl (Xvi (n:=a.length+b.length) (by omega) hl) (fun v ob hv=>?_)
 obtain ⟨rfl,rfl⟩:=hv
 refine Lo (fun (x : Nat × List D)=>[(0,.d (.sl 1 [.sl 4 a,.sl 4 b])),(2,.nil),(6,.own 24 4 0 x.2.length),(25,.d (.sl 1 [.sl 4 a,.sl 4 b])),(26,.d (.int .i64 2)),(27,.d (.int .i64 x.1))]) (fun x=>[(24,.arr 4 x.2)]) (fun x=>x=(0,[])∨x=(1,a)∨x=(2,a++b)) (fun x=>2 - x.1) (0,[]) [] rfl (.inl rfl) (fun x hI=>?_)
 rcases hI with rfl | rfl | rfl
 · refine Yes rfl (show ((0 : Nat) : Int)<2 by decide) ?_
   refine Ix 0 rfl (u:=.sl 4 a) rfl ?_
   refine ApO a rfl rfl rfl rfl (by omega) ?_
   refine Ar (1 : Nat) rfl ?_
   exact Bk (1,a) [(24,90),(33,24)] rfl (.inr (.inl rfl)) (show 1<2 by decide)
 · refine Yes rfl (show ((1 : Nat) : Int)<2 by decide) ?_
   refine Ix 1 rfl (u:=.sl 4 b) rfl ?_
   refine ApO (a++b) rfl rfl rfl (by simp) (by simp;omega) ?_
   refine Ar (2 : Nat) rfl ?_
   exact Bk (2,a++b) [(24,90),(33,24)] rfl (.inr (.inr rfl)) (show 0<1 by decide)
 refine No rfl (show ¬ ((2 : Nat) : Int)<2 by decide) ?_
 exact R1 rfl (.own rfl (by simp) (by rw [W1b];exact W0a (by simp)))
theorem Xml {k : Nat} {x y : Tow.El k} (hk : k≤16) : C0 376 [.d (.sl 1 [de x,de y])] (·=.d (de (pr x y))):=by
 have:=Xq2 (a:=(toL k x).map dq) (b:=(toL k y).map dq) (by simp [Xab];have:=W0n k;omega) (by simp [Xab];have:=p16 hk;omega)
 rwa [←W1u] at this
end P8
open Go Go.Num Go.Tow
theorem Ybo {r : Nat} : ∀ {k p : Nat},0<iS r k p
 | 0,p=>Nat.succ_pos p
 | k+1,p=>by have:=Ybo (r:=r) (k:=k) (p:=nS r k p);show 0<p+iS r k (nS r k p)+cB r k;omega
theorem Ylm {r : Nat} : ∀ {k p : Nat},p≤iS r k p
 | 0,p=>Nat.le_succ p
 | k+1,p=>by show p≤p+iS r k (nS r k p)+cB r k;omega
theorem Yia {r : Nat} : ∀ {k p : Nat},p≤iB r k p
 | 0,p=>Nat.le_succ p
 | k+1,p=>by show p≤2*(p+iB r k (nB r k p)+cB r k);omega
end Go.Proofs.YtpgcfjpkilabfaaGreatDoor
namespace Go.Proofs.YtpgcfjpkilabfaaGreatDoor.P8
open Go Go.Vm Go.Num Go.Tow Go.Proofs.YtpgcfjpkilabfaaGreatDoor
def SqP (k : Nat) (t : Tw k) (a : Tow.El k) (v : AV) : Prop:=∃ w : List D,w.length≤2 ^ k∧v=.tup (.pr (.d (.sl 4 w)) (.b (dc (Xb6 k t a))))∧(Xb6 k t a→∃ x,mul k t x x=a∧D.sl 4 w=de x)
theorem Xiq {k r : Nat} {t : Tw k} (hT : TS r k t) (hk : k≤16) (hr : r≤4398046511104) : C0 226 [.d (dt t),.d (dq ((0 : Int) : Rat))] (·=.d (de (zero k))):=by
 have:=Xcg (x:=((0 : Int) : Rat)) (p:=1) hT hk hr (Qs.int Zs.zero (W0c 1)) (by decide)
 rwa [show ((0 : Int) : Rat)=0 from rfl,Xdl] at this
theorem Xdw {k : Nat} : ∀ {r p : Nat} {t : Tw k} {a : Tow.El k},TS r k t→Sz p (toL k a)→red k t→k≤16→qB r k p≤4398046511104→r≤4398046511104→C0 334 [.d (dt t),.d (de a)] (SqP k t a):=by
 induction k with
 | zero =>
  intro r p t a hT ha hR hk hq hr
  have hq : p≤4398046511104:=hq
  have key : ∀ y : Rat,Qs p y→C0 334 [.d (dts []),.d (dqs [y])] fun v=>∃ w : List D,w.length≤2 ^ 0∧v=.tup (.pr (.d (.sl 4 w)) (.b (dc (∃ x : Rat,x*x=y))))∧((∃ x : Rat,x*x=y)→∃ x : Rat,x*x=y∧D.sl 4 w=dqs [x]):=fun y hy=>by
   refine En Tryz.func334 fun _ _ _=>?_
   refine Yes rfl rfl ?_
   refine Ix 0 rfl (u:=dq y) rfl ?_
   refine Ca rfl (Xwz hy (by omega)) fun v hv=>?_
   obtain ⟨b,l,b',l',rfl,hw⟩:=hv
   exact Rt rfl (.tup (.cons (.lit rfl) (.one (.rf rfl) (fun _ _ e=>by cases e) (fun _ _ e=>by cases e)))) ⟨_,W0c _,rfl,fun h=>let ⟨y,h1,h2⟩:=hw h;⟨y,h1,by rw [show dqs [y]=D.sl 4 [dq y] from rfl,←h2];rfl⟩⟩
  exact key a (ha.qs (W0e.2 rfl))
 | succ k ih =>
  intro r p t a hT ha hR hk hq hr
  have hx : Sz p (toL k a.1):=Sz.left ha
  have hy : Sz p (toL k a.2):=Sz.right ha
  have hlen:=Xab k
  have hk0:=W0n k
  have hpk:=p16 (show k≤16 by omega)
  have hz:=ha.normS hT
  have L:=Xay k t.1
  have hqq : p+vB r (k+1) p+vB r (k+1) r+nB r k p+qB r k (sX r k p)+iB r k (sX r k p+gC r k)+iS r k (sX r k p+gC r k)+iB r k r+2*cB r k+4≤4398046511104:=hq
  have hX : sX r k p=p+nS r k p+gC r k+cB r k+iS r k r+4:=rfl
  have hN : nB r k p=4*p+3*cB r k+r+1:=rfl
  have hI : 0<iS r k r:=Ybo
  have q6:=Ylm (r:=r) (k:=k) (p:=sX r k p+gC r k)
  have q7:=Yia (r:=r) (k:=k) (p:=sX r k p+gC r k)
  have q1 : qB r k p≤qB r k (sX r k p):=Xcz (by omega)
  have q2 : qB r k (nS r k p)≤qB r k (sX r k p):=Xcz (by omega)
  have q3 : qB r k (p+iS r k r+cB r k)≤qB r k (sX r k p):=Xcz (by omega)
  have q4 : sX r k p≤qB r k (sX r k p):=Yhb
  have hr0 : t.2≠zero k:=fun h0=>hR.2.2 ⟨zero k,by rw [h0,L.mz]⟩
  obtain ⟨i,hi⟩:=(Xdy hR.1).2 t.2 hr0
  have him:=Xc1 hi
  have hiz:=Sz.invS hT.1 hT.2 hi
  have no0 : ∀ {g K},¬ Xb6 (k+1) t a→FitT g K (.pr .nil (.b false)) (.pr (.d (.sl 4 [])) (.b (dc (Xb6 (k+1) t a)))):=fun h=>.cons (.nil (sz:=4) rfl) (Xvo h)
  refine En Tryz.func334 fun _ _ _=>?_
  refine No rfl (by show ¬ ((((toT k t.1++[toL k t.2]).map dqs).length : Nat) : Int)=0;rw [twL];omega) ?_
  refine Dw rfl ?_
  refine Ar k rfl ?_ (tw1 t (by omega))
  refine Tk k ((toT k t.1).map dqs) rfl rfl (Xgq t) (twT t) ?_
  refine Ar k rfl ?_ (tw1 t (by omega))
  refine Ix k rfl (twU t) ?_
  refine Dw rfl ?_
  refine Ar (2 ^ k : Nat) rfl ?_ (hvq a (by omega))
  refine Tk (2 ^ k) ((toL k a.1).map dq) rfl rfl (Xb7 a) (hvT a) ?_
  refine Ar (2 ^ k : Nat) rfl ?_ (hvq a (by omega))
  refine Dp (2 ^ k) ((toL k a.2).map dq) rfl rfl (Xb7 a) (hvD a) ?_
  refine Ce rfl (Xee (l:=toL k a.2) hy.ps (by omega) (by rw [hlen];omega)) ?_
  refine By rfl (fun hv=>?_) fun hv=>?_
  · have ev:=(Xaq k a.2).2 hv
    have ea : a=up k a.1:=by show (a.1,a.2)=(a.1,zero k);rw [ev]
    refine Ca rfl (ih hT.1 hx hR.1 (by omega) (by omega) hr) fun v hv=>?_
    obtain ⟨w,hwl,rfl,hw⟩:=hv
    refine By rfl (fun h1=>?_) fun h1=>?_
    · obtain ⟨x,hx1,hx2⟩:=hw h1
      injection hx2 with _ hx2
      subst hx2
      have hs : mul (k+1) t (pr x (zero k)) (pr x (zero k))=a:=(Ygm hx1).trans ea.symm
      refine Ce rfl (Xa0 (z:=0) (by decide)) ?_
      refine Ce rfl (Xiq hT.1 (by omega) hr) ?_
      refine Ce rfl (Xml (x:=x) (y:=zero k) (by omega)) ?_
      exact Rt rfl (.tup (.cons (.rf rfl) (Xxb ⟨_,hs⟩))) ⟨_,by simp [Xab],rfl,fun _=>⟨_,hs,rfl⟩⟩
    · refine Ce rfl (Xs5 hT.1 hT.2 (by omega) (by omega) hr hi) ?_
      refine No rfl (by decide) ?_
      refine Ce rfl (Xdi hT.1 hx hiz (by omega) (by omega) hr) ?_
      refine Ca rfl (ih hT.1 (hx.mul hT.1 hiz) hR.1 (by omega) (by omega) hr) fun v hv=>?_
      obtain ⟨w,hwl,rfl,hw⟩:=hv
      refine Ce rfl (Xa0 (z:=0) (by decide)) ?_
      refine Ce rfl (Xiq hT.1 (by omega) hr) ?_
      refine Ce rfl (Xq2 (a:=(toL k (zero k)).map dq) (b:=w) (by simp [hlen];omega) (by simp [hlen];omega)) ?_
      have hiff : Xb6 k t.1 (mul k t.1 a.1 i)↔Xb6 (k+1) t a:=⟨fun ⟨x,hx1⟩=>⟨_,(Xta him hx1).trans ea.symm⟩,fun e=>W1e fun h2=>Xle hR.1 him h1 h2 (ea ▸ e)⟩
      refine Rt rfl (.tup (.cons (.rf rfl) (Ync (Xq0 hiff)))) ⟨_,by simp [hlen];omega,rfl,fun e=>?_⟩
      obtain ⟨x,hx1,hx2⟩:=hw (hiff.2 e)
      injection hx2 with _ hx2
      subst hx2
      exact ⟨(zero k,x),(Xta him hx1).trans ea.symm,by rw [←W1u];rfl⟩
  have ev : a.2≠zero k:=fun e=>hv ((Xaq k a.2).1 e)
  refine Ce rfl (Xxo hT ha hk (by omega) hr) ?_
  refine Ca rfl (ih hT.1 hz hR.1 (by omega) (by omega) hr) fun v hv=>?_
  obtain ⟨w,hwl,rfl,hw⟩:=hv
  refine By rfl (fun h1=>?_) fun h1=>?_
  · have no : ¬ Xb6 (k+1) t a:=fun e=>by
     exact h1 (Xs9 e)
    exact Rt rfl (.tup (.cons (.nil (sz:=4) rfl) (Xvo no))) ⟨[],W1c _,rfl,fun e=>absurd e no⟩
  obtain ⟨m,hm,hm2⟩:=hw (W4k.1 h1)
  injection hm2 with _ hm2
  subst hm2
  have hm : mul k t.1 m m=Tow.norm k t a:=hm
  have hmz:=hz.rootS hT.1 hR.1 hm
  refine Ce rfl (Xhd hT.1 hx hmz (by omega) (by omega) hr) ?_
  refine Ce rfl (Xju hT.1 hx hmz (by omega) (by omega) hr) ?_
  refine Lo (fun (x : Nat)=>[(4,.nil),(5,.b false),(8,.d (dt t.1)),(11,.d (de a.2)),(117,.lit 1 [de (Tow.add k a.1 m),de (Tow.add k a.1 (Tow.neg k m))]),(118,.d (.int .i64 2)),(119,.d (.int .i64 x))]) (fun _=>[]) (fun x=>x=0∨(x=1∧¬ Xb6 k t.1 (mul k t.1 (rat k (1 / 2)) (Tow.add k a.1 m)))∨(x=2∧¬ Xb6 k t.1 (mul k t.1 (rat k (1 / 2)) (Tow.add k a.1 m))∧¬ Xb6 k t.1 (mul k t.1 (rat k (1 / 2)) (Tow.add k a.1 (Tow.neg k m))))) (fun x=>2 - x) 0 [] rfl (.inl rfl) (fun x hI=>?_)
  have step : ∀ (mm : Tow.El k),mul k t.1 mm mm=Tow.norm k t a→Sz (nS r k p+gC r k) (toL k mm)→Sz (3+(p+(nS r k p+gC r k)+1)+cB r k) (toL k (mul k t.1 (Tow.add k a.1 mm) (rat k (1 / 2))))∧mul k t.1 (Tow.add k a.1 mm) (rat k (1 / 2))=mul k t.1 (rat k (1 / 2)) (Tow.add k a.1 mm):=fun mm _ hs=>⟨by
   rw [L.mc];exact Sz.half.mul hT.1 (by rw [Xat];exact hx.add hs),L.mc _ _⟩
  have q5 : qB r k (3+(p+(nS r k p+gC r k)+1)+cB r k)≤qB r k (sX r k p):=Xcz (by omega)
  refine By rfl (fun h2=>?_) fun h2=>?_
  · obtain ⟨mm,e1,e2,e3,next⟩ : ∃ mm,[de (Tow.add k a.1 m),de (Tow.add k a.1 (Tow.neg k m))][x]?=some (de (Tow.add k a.1 mm))∧mul k t.1 mm mm=Tow.norm k t a∧Sz (nS r k p+gC r k) (toL k mm)∧(¬ Xb6 k t.1 (mul k t.1 (rat k (1 / 2)) (Tow.add k a.1 mm))→(x+1=0∨(x+1=1∧¬ Xb6 k t.1 (mul k t.1 (rat k (1 / 2)) (Tow.add k a.1 m)))∨(x+1=2∧¬ Xb6 k t.1 (mul k t.1 (rat k (1 / 2)) (Tow.add k a.1 m))∧¬ Xb6 k t.1 (mul k t.1 (rat k (1 / 2)) (Tow.add k a.1 (Tow.neg k m)))))):=by
     rcases hI with rfl | ⟨rfl,g1⟩ | ⟨rfl,g1,g2⟩
     · exact ⟨m,rfl,hm,hmz,fun h=>.inr (.inl ⟨rfl,h⟩)⟩
     · exact ⟨Tow.neg k m,rfl,by rw [L.mn,L.nm,L.nn,hm],Xgj hmz,fun h=>.inr (.inr ⟨rfl,g1,h⟩)⟩
     · omega
    refine Ix x rfl e1 ?_
    obtain ⟨s1,s2⟩:=step mm e2 e3
    refine Ce rfl (Xn4 hT.1 (a:=Tow.add k a.1 mm) (p:=p+(nS r k p+gC r k)+1) (by rw [Xat];exact hx.add e3) (by omega) (by omega) hr) ?_
    refine Ca rfl (ih hT.1 s1 hR.1 (by omega) (by omega) hr) fun v hv=>?_
    obtain ⟨w,hwl,rfl,hw⟩:=hv
    refine By rfl (fun h3=>?_) fun h3=>?_
    · have h3 : ¬ Xb6 k t.1 (mul k t.1 (Tow.add k a.1 mm) (rat k (1 / 2))):=by simpa only [Xbb,Xan] using h3
      rw [s2] at h3
      refine Ar (x+1 : Nat) rfl ?_
      exact Bk (x+1) [] rfl (next h3) (by omega)
    · have h3 : Xb6 k t.1 (mul k t.1 (Tow.add k a.1 mm) (rat k (1 / 2))):=by simpa [Xbb,Xan] using h3
      obtain ⟨w,hw1,hw2⟩:=hw h3
      injection hw2 with _ hw2
      subst hw2
      rw [s2] at hw1
      have hw0:=Ygl hR ev e2 hw1
      have hwz : Sz (3+(p+(nS r k p+gC r k)+1)+cB r k+gC r k) (toL k w):=(s2 ▸ s1).rootS hT.1 hR.1 hw1
      have hw2 : Tow.add k w w≠zero k:=fun e=>hw0 (by
       have e3 : mul k t.1 (rat k (1 / 2)) (Tow.add k w w)=w:=by rw [L.md,←L.dm,Xfm,L.om]
       rw [←e3,e,L.mz])
      obtain ⟨j,hj⟩:=(Xdy hR.1).2 _ hw2
      have hdz : Sz (sX r k p+gC r k) (toL k (Tow.add k w w)):=by rw [Xat];exact hwz.dbl.mono (by omega)
      have hjz:=Sz.invS hT.1 hdz hj
      have hs:=Ygo e2 hw1 (Xc1 hj)
      refine Ce rfl (Xee (l:=toL k w) hwz.ps (by omega) (by rw [hlen];omega)) ?_
      refine No rfl (fun e=>hw0 ((Xaq k w).2 e)) ?_
      refine Ce rfl (Xhd hT.1 hwz hwz (by omega) (by omega) hr) ?_
      refine Ce rfl (Xs5 hT.1 hdz (by omega) (by omega) hr hj) ?_
      refine Ce rfl (Xdi hT.1 hy hjz (by omega) (by omega) hr) ?_
      refine Ce rfl (Xml (by omega)) ?_
      exact Rt rfl (.tup (.cons (.rf rfl) (Xxb ⟨_,hs⟩))) ⟨_,by simp [Xab],rfl,fun _=>⟨_,hs,rfl⟩⟩
  · have no : ¬ Xb6 (k+1) t a:=fun e=>by
     rcases hI with rfl | ⟨rfl,g1⟩ | ⟨rfl,g1,g2⟩
     · omega
     · omega
     · obtain ⟨w,_,h6 | h6⟩:=Xo7 hR.1 ev hm e
       · exact g1 ⟨w,h6⟩
       · exact g2 ⟨w,h6⟩
    exact Rt rfl (.tup (.cons (.nil (sz:=4) rfl) (Xvo no))) ⟨[],W1c _,rfl,fun e=>absurd e no⟩
theorem Xnm {k r p : Nat} {t : Tw k} {a : Tow.El k} (hT : TS r k t) (ha : Sz p (toL k a)) (hR : red k t) (hk : k≤16) (hq : qB r k p≤4398046511104) (hv : vB r k (p+gC r k)≤4398046511104) (hr : vB r k r≤4398046511104) :
 C0 281 [.d (dt t),.d (de a)] fun v=>∃ w : D,v=.tup (.pr (.d w) (.b (dc (Xb6 k t a))))∧(Xb6 k t a→∃ x,mul k t x x=a∧0≤sgn k t x∧w=de x):=by
 have L:=Xay k t
 have S:=Xas (Xag hR)
 have:=Xc6 (r:=r) k (p+gC r k)
 have hr2:=Xc6 (r:=r) k r
 refine En Tryz.func281 fun _ _ _=>?_
 refine Ca rfl (Xdw hT ha hR hk hq (by omega)) fun v hv=>?_
 obtain ⟨w,_,rfl,hw⟩:=hv
 refine By rfl (fun h=>?_) fun h=>?_
 · exact Rt rfl (.tup (.cons (.nil (sz:=4) rfl) (Xvo h))) ⟨_,rfl,fun e=>absurd e h⟩
 have h:=W4k.1 h
 obtain ⟨x,hx,hx2⟩:=hw h
 injection hx2 with _ hx2
 subst hx2
 have hz:=ha.rootS hT hR hx
 refine Ce rfl (Xk4 hT hz (Xag hR) hk hv hr (by omega)) ?_
 refine By rfl (fun h1=>?_) fun h1=>?_
 · refine Ce rfl (Xs4 hT hz hk (by omega) (by omega)) ?_
   exact Rt rfl (.tup (.cons (.rf rfl) (Xxb h))) ⟨_,rfl,fun _=>⟨Tow.neg k x,by rw [L.mn,L.nm,L.nn,hx],by rw [S.sn];omega,rfl⟩⟩
 · exact Rt rfl (.tup (.cons (.rf rfl) (Xxb h))) ⟨_,rfl,fun _=>⟨x,hx,by omega,rfl⟩⟩
theorem Xgd {k r : Nat} {t : Tw k} (hT : TS r k t) (hR : red k t) (hk : k≤16) (hq : qB r k r≤4398046511104) (hv : vB r k r≤4398046511104) : C0 279 [.d (dt t)] (·=.b true):=by
 have:=Xc6 (r:=r) k r
 refine En Tryz.func279 fun _ _ _=>?_
 refine Lo (fun i : Nat=>[(0,.d (dt t)),(2,.b false),(7,.d (dt t)),(8,.d (.int .i64 ((toT k t).map dqs).length)),(9,.d (.int .i64 i))]) (fun _=>[]) (fun i=>i≤k) (fun i=>k - i) 0 [] rfl (by omega) (fun i hi=>?_)
 refine By rfl (fun h=>?_) fun h=>?_ <;> simp only [lt',Xaa] at h
 · obtain ⟨w,x,h1,h2,h3,h4,h5⟩:=Tw.take (t:=t) (i:=i) (by omega)
   have hx:=h3 r hT
   obtain ⟨h6,h7,h8⟩:=h5 hR
   have q1:=Xx8 (r:=r) (p:=r) (show i≤k by omega)
   have v1:=Xla (r:=r) (s:=r) (show i≤k by omega)
   refine Ix i rfl (mp h2) ?_
   refine Tk i ((toT i w).map dqs) rfl rfl (by rw [lt',Xaa];omega) (by rw [←W2w,h1]) ?_
   refine Ce rfl (Xb5 hx.1 hx.2 (by omega) (by omega) (by omega)) ?_
   refine No rfl (by simp) ?_
   refine Tk i ((toT i w).map dqs) rfl rfl (by rw [lt',Xaa];omega) (by rw [←W2w,h1]) ?_
   refine Ce rfl (Xk4 hx.1 hx.2 (Xag h6) (by omega) (by omega) (by omega) (by omega)) ?_
   refine No rfl (fun e=>e (by rcases Xcw w x with h | h | h <;> omega)) ?_
   refine Tk i ((toT i w).map dqs) rfl rfl (by rw [lt',Xaa];omega) (by rw [←W2w,h1]) ?_
   refine Ca rfl (Xdw hx.1 hx.2 h6 (by omega) (by omega) (by omega)) fun v hv=>?_
   obtain ⟨d,_,rfl,hd⟩:=hv
   refine No rfl h8 ?_
   refine Ar (i+1 : Nat) rfl ?_
   exact Bk (i+1) [] rfl (show i+1≤k by omega) (by show k - (i+1)<k - i;omega)
 · exact R0
theorem Xq4 {l : List (List Rat)} (hl : l.length≤1048576) (h : ∀ x∈l,0<x.length∧x.length≤1048576) : CA0 282 [.d (dts l)] 1 (l.map dqs):=by
 have hll : (l.map dqs).length=l.length:=by simp
 refine EnW Tryz.func282 fun _ _ _ _=>?_
 refine Mk l.length rfl (by omega) ?_ (by simp [hll])
 refine Lo (fun i : Nat=>[(0,.d (dts l)),(2,.nil),(3,.own 8 1 0 l.length),(9,.d (dts l)),(10,.d (.int .i64 (l.map dqs).length)),(11,.d (.int .i64 i))]) (fun i=>[(8,.arr 1 (fl (l.map dqs) (.sl 4 []) i))]) (fun i=>i≤l.length) (fun i=>l.length - i) 0 [] rfl (by omega) (fun i hi=>?_) (by exact ⟨rfl,by rw [←Xh4 hll];rfl,rfl,rfl,rfl⟩)
 refine By rfl (fun g=>?_) fun g=>?_ <;> simp only [lt'] at g
 · have hu : l[i]?=some l[i]:=W0b (by omega)
   have hm:=h _ (W6g (l:=l) (n:=i) (by omega))
   refine Ix i rfl (mp hu) ?_
   refine Ce rfl (Xjc hm.1 hm.2) ?_
   refine Eo i rfl (by omega) ?_
   refine Sto rfl (by rw [Xi5 (by omega)];omega) (Xma (u:=dqs l[i]) (by rw [W1f,hu];rfl)) ?_
   refine Ar (i+1 : Nat) rfl ?_
   exact Bk (i+1) [] rfl (show i+1≤l.length by omega) (by show l.length - (i+1)<l.length - i;omega)
 · exact Rw [(8,1000000)] [(1000000,.arr 1 (l.map dqs))] rfl (.one (.rf rfl) rfl rfl) ⟨_,rfl,by rw [hll];rfl,rfl⟩ (by rw [Xmb (by omega)];rfl)
theorem Adjoin_ok {k r p : Nat} {t : Tw k} {a : Tow.El k} (hT : TS r k t) (ha : Sz p (toL k a)) (hR : red k t) (hk : k<8) (hq : qB r k p≤4398046511104) (hq2 : qB r k r≤4398046511104) (hv : vB r k (p+gC r k)≤4398046511104) (hr : vB r k r≤4398046511104) :
 C0 202 [.d (dt t),.d (de a)] (R8.AdjR k t a):=by
 have h0:=Xc6 (r:=r) k r
 have h1:=Xc6 (r:=r) k (p+gC r k)
 have h2:=Xct (r:=r) (k:=k) (show p≤p+gC r k by omega)
 have hlen:=Xaa k t
 have e2 : (((toT k t).map dqs).length : Int)=k:=by simp [hlen]
 have hle : ∀ x∈toT k t,0<x.length∧x.length≤1048576:=fun x hx=>by
  obtain ⟨i,hi,e⟩:=List.mem_iff_getElem.1 hx
  have:=(Xjr hT (i:=i) (l:=x) (by rw [W0b hi,e])).1
  rw [hlen] at hi
  have h3:=W0k (n:=2) (by decide) (show i≤8 by omega)
  have:=W0n i
  omega
 refine En Tryz.func202 fun _ _ _=>?_
 refine Ce rfl (Xb5 hT ha (by omega) (by omega) (by omega)) ?_
 refine No rfl (by simp) ?_
 refine Ce rfl (Xgd hT hR (by omega) hq2 hr) ?_
 refine No rfl (by simp) ?_
 refine Ce rfl (Xk4 hT ha (Xag hR) (by omega) (by omega) hr (by omega)) ?_
 refine By rfl (fun h=>?_) fun h=>?_
 · exact Rt rfl (.tup (.cons (.nil rfl) (.cons (.nil rfl) Xa3))) (.inl ⟨h,rfl⟩)
 refine Ca rfl (Xnm hT ha hR (by omega) hq hv hr) fun v hv=>?_
 obtain ⟨w,rfl,hw⟩:=hv
 refine By rfl (fun h1=>?_) fun h1=>?_
 · obtain ⟨x,x1,x2,rfl⟩:=hw h1
   refine Ce rfl (Xq4 (by omega) hle).data ?_
   exact Rt rfl (.tup (.cons (.rf rfl) (.cons (.rf rfl) Xa3))) (.inr (.inl ⟨x,x1,x2,rfl⟩))
 refine No rfl (by simp only [lt',hlen];omega) ?_
 refine Cr rfl (Xq4 (by omega) hle) ?_
 refine Ce rfl (Xjc (by rw [Xab];exact W0n k) (by rw [Xab];have:=W0k (n:=2) (by decide) (show k≤8 by omega);omega)) ?_
 refine ApO ((toT k t++[toL k a]).map dqs) rfl rfl rfl (by simp) (by simp [hlen];omega) ?_
 refine Fz 11 9 ((toT k t++[toL k a]).map dqs) rfl (by simp) (by rw [W1b];exact W0a (by simp)) ?_
 have hrt:=Xxn (r:=max r p) (t:=tsn t a) (i:=k) ?_ (by omega) (by omega) (by omega)
 rw [←e2] at hrt
 refine Ce rfl hrt ?_
 exact Rt rfl (.tup (.cons (.rf rfl) (.cons (.rf rfl) Xa3))) (.inr (.inr ⟨by omega,h1,hk,rfl⟩))
 exact ⟨hT.mono (by omega),ha.mono (by omega)⟩
end Go.Proofs.YtpgcfjpkilabfaaGreatDoor.P8
namespace Go.Proofs.YtpgcfjpkilabfaaGreatDoor.P9
open Go Go.Vm Go.Num Go.Tow Go.Proofs.YtpgcfjpkilabfaaGreatDoor
section
theorem Xjb {x : Rat} {p : Nat} (hx : Qs p x) (hp : p≤4398046511104) : C0 203 [.d (dq x)] (·=.d (dq x)):=by
 have h1:=hx.n.len2 hp
 have h2:=hx.d.len2 hp
 refine En Tryz.func203 fun _ _ _=>?_
 refine Dw rfl ?_
 refine Ce rfl (Xbj (l:=dig x.num.natAbs) (by omega)) ?_
 refine Ce rfl (Xbj (l:=dig (x.den : Int).natAbs) (by omega)) ?_
 exact R0
theorem Xic {l : List Rat} {p : Nat} (hl : Ps p l) (hp : p≤4398046511104) (hn : l.length≤1048576) : C0 126 [.d (dqs l)] (·=.d (dqs l)):=by
 have hll : (l.map dq).length=l.length:=by simp
 refine En Tryz.func126 fun _ _ _=>?_
 refine Mk l.length rfl (by omega) ?_ (by simp [hll])
 refine Lo (fun i : Nat=>[(0,.d (dqs l)),(2,.nil),(3,.own 8 4 0 l.length),(9,.d (dqs l)),(10,.d (.int .i64 (l.map dq).length)),(11,.d (.int .i64 i))]) (fun i=>[(8,.arr 4 (fl (l.map dq) rz i))]) (fun i=>i≤l.length) (fun i=>l.length - i) 0 [] rfl (by omega) (fun i hi=>?_) (by exact ⟨rfl,by rw [←Xh4 hll];rfl,rfl,rfl,rfl⟩)
 refine By rfl (fun g=>?_) fun g=>?_ <;> simp only [lq] at g
 · obtain ⟨u,hu⟩:=qat (l:=l) (k:=i) (by omega)
   refine Ix i rfl (mp hu) ?_
   refine Ce rfl (Xjb (hl u (W0r hu)) hp) ?_
   refine Eo i rfl (by omega) ?_
   refine Sto rfl (by rw [Xi5 (by omega)];omega) (Xma (u:=dq u) (by rw [W1f,hu];rfl)) ?_
   refine Ar (i+1 : Nat) rfl ?_
   exact Bk (i+1) [] rfl (show i+1≤l.length by omega) (by show l.length - (i+1)<l.length - i;omega)
 · refine R1 rfl (.own rfl (by rw [Xi5 (by omega)];simp) ?_)
   rw [Xmb (by omega),W1b]
   exact W0a (by simp)
theorem Xxx {x y : Rat} {p q : Nat} (hx : Qs p x) (hy : Qs q y) (hp : p+q≤8796093022208) : C0 274 [.d (dq x),.d (dq y)] (·=.b (dc (x=y))):=by
 refine En Tryz.func274 fun _ _ _=>?_
 refine Ce rfl (Xf4 hx hy hp) ?_
 exact R1 rfl (.bp (Xan.trans ⟨fun h=>W1e fun e=>R9.cmpQ_ne.2 e h,fun e=>W1e fun h=>R9.cmpQ_ne.1 h e⟩))
theorem Xy5 {l m : List Rat} {p q : Nat} (hl : Ps p l) (hm : Ps q m) (hp : p+q≤8796093022208) (hn : l.length≤1048576) : C0 273 [.d (dqs l),.d (dqs m),.d (.raw (.func (.func 274) #[] #[]))] (·=.b (dc (l=m))):=by
 refine En Tryz.func273 fun _ _ _=>?_
 refine By rfl (fun h=>?_) fun h=>?_ <;> simp only [lq] at h
 · exact R1 rfl (.bp ⟨nofun,fun e=>absurd (by rw [e]) h⟩)
 have h : l.length=m.length:=by omega
 refine Lo (fun k : Nat=>[(0,.d (dqs l)),(1,.d (dqs m)),(2,.d (.raw (.func (.func 274) #[] #[]))),(15,.d (dqs l)),(16,.d (.int .i64 (l.map dq).length)),(17,.d (.int .i64 k))]) (fun _=>[]) (fun k=>k≤l.length∧l.take k=m.take k) (fun k=>l.length - k) 0 [] rfl ⟨by omega,rfl⟩ fun k ⟨hk,ht⟩=>?_
 refine By rfl (fun h2=>?_) fun h2=>?_ <;> simp only [lq] at h2
 · obtain ⟨x,hx⟩:=qat (l:=l) (k:=k) (by omega)
   obtain ⟨y,hy⟩:=qat (l:=m) (k:=k) (by omega)
   refine Ix k rfl (mp hx) ?_
   refine Ix k rfl (mp hy) ?_
   refine Ce rfl (Xxx (hl x (W0r hx)) (hm y (W0r hy)) hp) ?_
   refine By rfl (fun h3=>?_) fun h3=>?_
   · have h3 : ¬ x=y:=by simpa [Xbb,Xan] using h3
     exact R1 rfl (.bp ⟨nofun,fun e=>by subst e;rw [hx] at hy;injection hy with hy;exact absurd hy h3⟩)
   · have e : x=y:=by simpa [Xbb,Xan] using h3
     refine Ar (k+1 : Nat) rfl ?_
     exact Bk (k+1) [] rfl ⟨by omega,by rw [W0z,W0z,hx,hy,ht,e]⟩ (by show l.length - (k+1)<l.length - k;omega)
 · rw [W0a (by omega),W0a (by omega)] at ht
   exact R1 rfl (.bp ⟨fun _=>ht,fun _=>rfl⟩)
theorem sameElement_ok {l m : List Rat} {p q : Nat} (hl : Ps p l) (hm : Ps q m) (hp : p+q≤8796093022208) (hn : l.length≤1048576) : C0 196 [.d (dqs l),.d (dqs m)] (·=.b (dc (l=m))):=by
 refine En Tryz.func196 fun _ _ _=>?_
 refine Ce rfl (Xy5 hl hm hp hn) ?_
 exact R0
theorem Xy4 {T U : List (List Rat)} {p q : Nat} (hT : Pt p T) (hU : Pt q U) (hp : p+q≤8796093022208) (hl : T.length≤16) : C0 272 [.d (dts T),.d (dts U),.d (.raw (.func (.func 196) #[] #[]))] (·=.b (dc (T=U))):=by
 refine En Tryz.func272 fun _ _ _=>?_
 refine By rfl (fun h=>?_) fun h=>?_ <;> simp only [lt'] at h
 · exact R1 rfl (.bp ⟨nofun,fun e=>absurd (by rw [e]) h⟩)
 have h : T.length=U.length:=by omega
 refine Lo (fun k : Nat=>[(0,.d (dts T)),(1,.d (dts U)),(2,.d (.raw (.func (.func 196) #[] #[]))),(15,.d (dts T)),(16,.d (.int .i64 (T.map dqs).length)),(17,.d (.int .i64 k))]) (fun _=>[]) (fun k=>k≤T.length∧T.take k=U.take k) (fun k=>T.length - k) 0 [] rfl ⟨by omega,rfl⟩ fun k ⟨hk,ht⟩=>?_
 refine By rfl (fun h2=>?_) fun h2=>?_ <;> simp only [lt'] at h2
 · obtain ⟨x,hx⟩ : ∃ x,T[k]?=some x:=⟨_,W0b (by omega)⟩
   obtain ⟨y,hy⟩ : ∃ y,U[k]?=some y:=⟨_,W0b (by omega)⟩
   obtain ⟨x1,x2⟩:=hT k x hx
   obtain ⟨y1,y2⟩:=hU k y hy
   have:=p16 (show k≤16 by omega)
   refine Ix k rfl (mp hx) ?_
   refine Ix k rfl (mp hy) ?_
   refine Ce rfl (sameElement_ok x2 y2 hp (by omega)) ?_
   refine By rfl (fun h3=>?_) fun h3=>?_
   · have h3 : ¬ x=y:=by simpa [Xbb,Xan] using h3
     exact R1 rfl (.bp ⟨nofun,fun e=>by subst e;rw [hx] at hy;injection hy with hy;exact absurd hy h3⟩)
   · have e : x=y:=by simpa [Xbb,Xan] using h3
     refine Ar (k+1 : Nat) rfl ?_
     exact Bk (k+1) [] rfl ⟨by omega,by rw [W0z,W0z,hx,hy,ht,e]⟩ (by show T.length - (k+1)<T.length - k;omega)
 · rw [W0a (by omega),W0a (by omega)] at ht
   exact R1 rfl (.bp ⟨fun _=>ht,fun _=>rfl⟩)
theorem begins_ok {T U : List (List Rat)} {p q : Nat} (hT : Pt p T) (hU : Pt q U) (hp : p+q≤8796093022208) (hl : T.length≤16) : C0 195 [.d (dts T),.d (dts U)] (·=.b (dc (T.take U.length=U))):=by
 refine En Tryz.func195 fun _ _ _=>?_
 refine By rfl (fun h=>?_) fun h=>?_ <;> simp only [lt'] at h
 · have hq : Pt p (T.take U.length):=fun i r hi=>by
    rw [W1i] at hi
    split at hi
    · exact hT i r hi
    · cases hi
   refine Tk U.length ((T.take U.length).map dqs) rfl rfl (by simp only [lt'];omega) (by rw [W2w]) ?_ (by simp only [lt'])
   refine Ce rfl (Xy4 hq hU hp (by rw [W0j];omega)) ?_
   exact R0
 · exact R1 rfl (.bp ⟨nofun,fun e=>absurd (congrArg List.length e) (by rw [W0j];omega)⟩)
theorem Yhe {T : List (List Rat)} {l : List Rat} (h0 : 0<l.length) (hT : T.length≤16) (hl : l.length≤2 ^ T.length) : C0 201 [.d (dts T),.d (dqs l)] (·=.d (dqs (l++List.replicate (2 ^ T.length - l.length) 0))):=by
 have hp:=p16 hT
 obtain ⟨n,hn⟩ : ∃ n,n=2 ^ T.length:=⟨_,rfl⟩
 rw [←hn] at hp hl ⊢
 refine En Tryz.func201 fun _ _ _=>?_
 refine Cr rfl (Xid h0 (by omega)) ?_
 refine Lo (fun k : Nat=>[(0,.d (dts T)),(5,.own 7 4 0 ((l++List.replicate k 0).map dq).length)]) (fun k=>[(7,.arr 4 ((l++List.replicate k 0).map dq))]) (fun k=>l.length+k≤n) (fun k=>n - k) 0 [] rfl (by omega) (fun k hk=>?_) (by exact ⟨by simp;rfl,by simp;rfl,rfl,rfl,rfl⟩)
 refine Ar n rfl ?_ (by rw [hn];simp only [lt'];exact Xbl (by omega))
 refine By rfl (fun h=>?_) fun h=>?_ <;> simp only [lq,W0d,W1q] at h
 · refine Ce rfl (Xa0 (z:=0) (by decide)) ?_
   refine ApO ((l++List.replicate (k+1) 0).map dq) rfl rfl rfl (by rw [W6h];simp) (by simp;omega) ?_
   exact Bk (k+1) [(7,90),(17,7)] rfl (show l.length+(k+1)≤n by omega) (by show n - (k+1)<n - k;omega)
 · refine R1 rfl (.own rfl (by omega) ?_)
   rw [W1b,show n - l.length=k by omega]
   exact W0a (by simp)
theorem Xpw {k m : Nat} {s : Tow.El k} {b : Tow.El m} {T : Tw m} (h : Lf s b) (hk : k≤m) (hm : m≤16) : C0 201 [.d (dt T),.d (de s)] (·=.d (de b)):=by
 have:=Yhe (T:=toT m T) (l:=toL k s) (by rw [Xab];exact W0n k) (by rw [Xaa];omega) (by rw [Xab,Xaa];exact W0k (by decide) hk)
 rw [Xaa,Xab,←h] at this
 exact this
abbrev dE (T rs : List (List Rat)) : D:=.st (.pr (dts T) (dts rs))
theorem Xfk {k R z : Nat} {T : Tw k} {rs : List (List Rat)} {σ : Nat→Tow.El k} (hT : TS R k T) (hk : k≤16) (hR : R≤4398046511104) : ∀ {j p : Nat} {a : Tow.El j},R9.Rts k z j rs σ→Sz p (toL j a)→j≤16→imB (cB R k) z j p≤4398046511104 →
 C0 277 [.d (dE (toT k T) rs),.d (de a)] (·=.d (de (ev T σ j a))):=by
 intro j
 induction j with
 | zero =>
  intro p a _ ha hj hb
  have hb : p+1≤4398046511104:=hb
  have key : ∀ y : Rat,Qs p y→C0 277 [.d (dE (toT k T) rs),.d (dqs [y])] (·=.d (de (rat k y))):=fun y hy=>by
   refine En Tryz.func277 fun _ _ _=>?_
   refine Yes rfl rfl ?_
   refine Dw rfl ?_
   refine Ix 0 rfl (u:=dq y) rfl ?_
   refine Ce rfl (Xcg hT hk hR hy (by omega)) ?_
   exact R0
  exact key a (ha.qs (W0e.2 rfl))
 | succ j ih =>
  intro p a hr ha hj hb
  have hb' : 2*imB (cB R k) z j p+z+cB R k+1≤4398046511104:=hb
  have hr' : R9.Rts k z j rs σ:=fun i hi=>hr i (by omega)
  have hpj:=p16 (show j≤16 by omega)
  have hp0:=W0n j
  have hpp:=Ybn (c:=cB R k) (z:=z) (p:=p) (j:=j)
  have hs : ∀ i,i<j→Sz z (toL k (σ i)):=fun i hi=>(hr' i hi).elim fun _ h=>h.elim fun _ h=>h.2.2.2
  have h1:=Xkr hT (a:=a.1) hs (Sz.left ha)
  have h2:=Xkr hT (a:=a.2) hs (Sz.right ha)
  obtain ⟨m,s,m1,m2,m3,m4⟩:=hr j (by omega)
  refine En Tryz.func277 fun _ _ _=>?_
  refine No rfl (by show ¬ ((((toL j a.1++toL j a.2).map dq).length : Nat) : Int)=1;rw [hvL];omega) ?_
  refine Ar (2 ^ j : Nat) rfl ?_ (hvq a (by omega))
  refine Lo (fun i : Nat=>[(1,.d (de a)),(2,.ptr 2 0),(4,.nil),(5,.d (.int .i64 (2 ^ j : Nat))),(6,.d (.int .i64 i))]) (fun _=>[(2,.var (.d (dE (toT k T) rs)))]) (fun i=>i≤j) (fun i=>j - i) 0 [] rfl (by omega) fun i hi=>?_
  refine Ar (i+1 : Nat) rfl ?_
  refine Ar (2 ^ (i+1) : Nat) rfl ?_ (Xbl (by omega))
  refine By rfl (fun h=>?_) fun h=>?_
  · have h : ((2 ^ (i+1) : Nat) : Int)<(((toL j a.1++toL j a.2).map dq).length : Nat):=h
    rw [hvL,←Nat.pow_succ'] at h
    have h : i+1<j+1:=(W2p (by decide : 1<2)).1 (by omega)
    refine Ar (i+1 : Nat) rfl ?_
    exact Bk (i+1) [] rfl (show i+1≤j by omega) (by show j - (i+1)<j - i;omega)
  · have h : ¬ ((2 ^ (i+1) : Nat) : Int)<(((toL j a.1++toL j a.2).map dq).length : Nat):=h
    rw [hvL,←Nat.pow_succ'] at h
    have h : ¬ i+1<j+1:=fun e=>h (by have:=(W2p (by decide : 1<2)).2 e;omega)
    obtain rfl : i=j:=by omega
    refine Dw rfl ?_
    refine Tk (2 ^ i) ((toL i a.1).map dq) rfl rfl (Xb7 a) (hvT a) ?_
    refine Ce rfl (ih hr' (Sz.left ha) (by omega) (by omega)) ?_
    refine Dp (2 ^ i) ((toL i a.2).map dq) rfl rfl (Xb7 a) (hvD a) ?_
    refine Ce rfl (Xee (l:=toL i a.2) (Sz.right ha).ps (by omega) (by rw [Xab];omega)) ?_
    refine By rfl (fun hv=>?_) fun hv=>?_
    · have hv : a.2=zero i:=(Xaq i a.2).2 hv
      have e : ev T σ i a.1=ev T σ (i+1) a:=by
       have L:=Xay k T
       show _=Tow.add k (ev T σ i a.1) (mul k T (ev T σ i a.2) (σ i))
       rw [hv,Xh5,L.mc,L.mz,L.az]
      exact R1 rfl (.eq (congrArg de e))
    · refine Dw rfl ?_
      refine Dp (2 ^ i) ((toL i a.2).map dq) rfl rfl (Xb7 a) (hvD a) ?_
      refine Ce rfl (ih hr' (Sz.right ha) (by omega) (by omega)) ?_
      refine Ix i rfl (mp m2) ?_
      refine Ce rfl (Xpw (T:=T) m3 m1 hk) ?_
      refine Ce rfl (Xdi hT h2 m4 hk (by omega) hR) ?_
      refine Ce rfl (Xhd hT h1 (h2.mul hT m4) hk (by omega) hR) ?_
      exact R0
section
variable {K : Nat} {G : Tw K} {S : List (Tow.El K)} {k l : Nat} {t : Tw k} {u : Tw l} {ρ ρu : Nat→Tow.El K}
theorem Xde (W : Wy G S wR) (ht : TOk G S k t ρ) (hu : TOk G S l u ρu) : C0 276 [.d (dt t),.d (dt u)] (R9.ExQ G S l k t ρ ρu fun T rs=>.tup (.pr (.d (.st (.pr T rs))) (.d (.int .i64 0)))):=by
 have hl3 : l≤3:=W.le hu
 refine En Tryz.func276 fun _ _ _=>?_
 refine Nv 6 7 1 rfl ?_
 refine Lo (fun (x : Nat × (Σ m,Tw m) × List (List Rat))=>[(4,.ptr 4 0),(5,.d (.int .i64 0)),(6,.ptr 6 0),(14,.d (dt u)),(15,.d (.int .i64 ((toT l u).map dqs).length)),(16,.d (.int .i64 x.1))]) (fun x=>[(4,.var (.st (.pr .nil .nil))),(6,.var (.st (.pr (.d (dt x.2.1.2)) (.gr 7 1 (x.2.2.map dqs))))),(7,.tok (x.2.2.map dqs).length 1)])
  (R9.ExI G S l k t ρ ρu) (fun x=>l - x.1) (0,⟨k,t⟩,[]) [] rfl ⟨W1c _,rfl,ρ,ht,Beg.rf,fun _ _=>rfl,fun i hi=>by omega,fun _=>rfl⟩ (fun (i,⟨m,T⟩,rs) hI=>?_)
 have hI':=hI
 obtain ⟨hi,hrl,ρ',hT,hB,ha,hrt,hc⟩:=hI
 simp only at hi hrl hT hB ha hrt hc
 have hm3 : m≤3:=W.le hT
 have hz:=W.t hT
 refine By rfl (fun h=>?_) fun h=>?_ <;> simp only [lt',Xaa] at h
 · have hil : i<l:=by omega
   obtain ⟨x,σ,x1,x2,s1,s2,hev,x4,hsz⟩:=R9.ExI.rad W hu hil hT hrt
   obtain ⟨q1,q2,q3,q4⟩:=R9.exB hm3
   have hE:=Ycb hm3 (show i≤2 by omega)
   have hR:=Xg7
   have hE':=Yfy
   have hlen : (rs.map dqs).length≤3:=by rw [W0i];omega
   refine Ix i rfl (mp x1) ?_
   refine Dw rfl ?_
   refine Ce rfl (Xfk (k:=m) (T:=T) hz (by omega) (by omega) s1 x2 (by omega) (by omega)) ?_
   refine Ca rfl (P8.Adjoin_ok (k:=m) (t:=T) hz hsz hT.r (by omega) q1 q2 q3 q4) fun v hv=>?_
   rcases hv with ⟨h1,rfl⟩ | ⟨y,h1,h2,rfl⟩ | ⟨h1,h2,h3,rfl⟩
   · have:=Xfn (Xag W.g) hT.h (a:=ev T σ i x)
     rw [hev,(Xas (Xag W.g)).sm,x4] at this
     omega
   · refine No rfl (by simp) ?_
     refine ApG ((rs++[toL m y]).map dqs) rfl (by simp) (by simp at hlen ⊢;omega) ?_
     refine Ar (i+1 : Nat) rfl ?_
     exact Bk (i+1,⟨m,T⟩,rs++[toL m y]) [(7,90),(39,7)] rfl (hI'.sq W hu hil hT hB ha hrt hc s2 hev x4 h1 h2) (by show l - (i+1)<l - i;omega)
   · refine No rfl (by simp) ?_
     refine ApG ((rs++[toL (m+1) (root (m+1) m)]).map dqs) rfl (by simp) (by simp at hlen ⊢;omega) ?_
     refine Ar (i+1 : Nat) rfl ?_
     exact Bk (i+1,⟨m+1,tsn T (ev T σ i x)⟩,rs++[toL (m+1) (root (m+1) m)]) [(7,90),(39,7)] rfl (hI'.new W hu hil hT hB ha hrt hev x4 h2) (by show l - (i+1)<l - i;omega)
 · obtain rfl : i=l:=by omega
   exact Rt rfl (.tup (.cons (.sd (.pd (.rf rfl) (.gr rfl))) Xa3)) ⟨m,T,rs,ρ',rfl,hT,hB,ha,hrt,hc⟩
end
end
section
theorem detach_ok {x : Nm} {r p : Nat} (hr : TS r x.k x.t) (hp : Sz p (toL x.k x.a)) (hk : x.k≤16) (h1 : r≤4398046511104) (h2 : p≤4398046511104) : C0 58 [.d (dN x)] (·=.d (dN x)):=by
 have hpk:=p16 hk
 refine En Tryz.func58 fun _ _ _=>?_
 refine Ce rfl (Xic hp.ps h2 (by rw [Xab];omega)) ?_
 refine Nv 3 7 1 rfl ?_
 refine Lo (fun (i : Nat)=>[(2,.ptr 2 0),(3,.ptr 3 0),(11,.d (dt x.t)),(12,.d (.int .i64 ((toT x.k x.t).map dqs).length)),(13,.d (.int .i64 i))]) (fun i=>[(2,.var (.st (.pr .nil .nil))),(3,.var (.st (.pr (.gr 7 1 (((toT x.k x.t).take i).map dqs)) (.d (de x.a))))),(7,.tok (((toT x.k x.t).take i).map dqs).length 1)])
  (fun i=>i≤x.k) (fun i=>x.k - i) 0 [] rfl (W1c _) (fun i hi=>?_)
 refine By rfl (fun h=>?_) fun h=>?_ <;> simp only [lt',Xaa] at h
 · obtain ⟨w,y,y1,y2,y3,_⟩:=Tw.take (t:=x.t) (i:=i) (by omega)
   have hy:=(y3 r hr).2
   refine Ix i rfl (mp y2) ?_
   refine Dw rfl ?_
   refine Ce rfl (Xic hy.ps h1 (by rw [Xab];have:=p16 (show i≤16 by omega);omega)) ?_
   refine ApG (((toT x.k x.t).take (i+1)).map dqs) rfl (by rw [W0z,y2];simp) (by simp [Xaa];omega) ?_
   refine Ar (i+1 : Nat) rfl ?_
   exact Bk (i+1) [(7,90),(22,7)] rfl (show i+1≤x.k by omega) (by show x.k - (i+1)<x.k - i;omega)
 · have e : (toT x.k x.t).take i=toT x.k x.t:=W0a (by rw [Xaa];omega)
   refine R1 rfl (.sd (.pd (.gr ?_) (.rf rfl)))
   rw [e]
theorem Xpx : ∀ {k : Nat},rat k 1≠zero k
 | 0,h=>by have h : (1 : Rat)=0:=h;exact absurd h (by decide)
 | k+1,h=>Xpx (k:=k) (congrArg Prod.fst h)
theorem inv_zero {k : Nat} {t : Tw k} {a : Tow.El k} (h : a=zero k) : Tow.inv k t a=none:=by
 cases e : Tow.inv k t a with
 | none=>rfl
 | some i =>
  have:=Xc1 e
  rw [h,(Xay k t).mz] at this
  exact absurd this.symm Xpx
section
variable {K : Nat} {G : Tw K} {S : List (Tow.El K)} {r p : Nat} {x y : Nm} {vx vy : Tow.El K}
theorem Xwd (W : Wy G S wR) (hx : NOk G S r p x vx) (hy : NOk G S r p y vy) : C0 275 [.d (dNs [x,y])] fun v=>∃ m T,v=.tup (.pr (.d (dt T)) (.d (.int .i64 0)))∧R9.CmP G S x y m T:=by
 have hG:=W.g
 have hR:=Xg7
 obtain ⟨ρx,hx1,hx2⟩:=hx.ex
 obtain ⟨ρy,hy1,hy2⟩:=hy.ex
 have hx3:=W.le hx1
 have hy3:=W.le hy1
 have hxr:=W.t hx1
 have hyr:=W.t hy1
 refine En Tryz.func275 fun _ _ _=>?_
 refine Nd 4 1 rfl ?_
 refine Lo (fun (s : Nat × (Σ m,Tw m))=>[(2,.nil),(3,.d (.int .i64 0)),(4,.d (dt s.2.2)),(9,.d (dNs [x,y])),(10,.d (.int .i64 2)),(11,.d (.int .i64 s.1))]) (fun _=>[]) (fun s=>(s.1=0∧s.2=⟨0,()⟩)∨(s.1=1∧s.2=⟨x.k,x.t⟩)∨(s.1=2∧R9.CmP G S x y s.2.1 s.2.2)) (fun s=>2 - s.1) (0,⟨0,()⟩) [] rfl (.inl ⟨rfl,rfl⟩) (fun (i,⟨m,T⟩) hI=>?_)
 simp only at hI
 rcases hI with ⟨rfl,e⟩ | ⟨rfl,e⟩ | ⟨rfl,hP⟩
 · cases e
   refine Yes rfl (show ((0 : Nat) : Int)<2 by decide) ?_
   refine Ix 0 rfl (u:=dN x) rfl ?_
   refine Ce rfl (begins_ok (T:=[]) (U:=toT x.k x.t) (p:=1) (fun i r h=>by simp at h) (TS.pt hxr) (by omega) (by decide)) ?_
   refine By rfl (fun h=>?_) fun h=>?_
   · obtain ⟨kx,tx,ax⟩:=x
     have h : []=toT kx tx:=by simpa using h
     obtain rfl : kx=0:=by have:=congrArg List.length h;rw [Xaa] at this;exact this.symm
     refine Ar (0+1 : Nat) rfl ?_
     exact Bk (1,⟨0,tx⟩) [] rfl (.inr (.inl ⟨rfl,rfl⟩)) (show 1<2 by decide)
   · refine Ce rfl (begins_ok (U:=[]) (q:=1) (TS.pt hxr) (fun i r h=>by simp at h) (by omega) (by rw [Xaa];omega)) ?_
     refine Yes rfl (by simp) ?_
     refine Ar (0+1 : Nat) rfl ?_
     exact Bk (1,⟨x.k,x.t⟩) [] rfl (.inr (.inl ⟨rfl,rfl⟩)) (show 1<2 by decide)
 · cases e
   have last : ∀ h : (toT x.k x.t).take (toT y.k y.t).length=toT y.k y.t,R9.CmP G S x y x.k x.t:=fun h=>.mk hG hx1 hy1 hx1 R9.rts (R9.beg_rt hG (show Beg y.k y.t x.k x.t from h) hy1 hx1)
   refine Yes rfl (show ((1 : Nat) : Int)<2 by decide) ?_
   refine Ix 1 rfl (u:=dN y) rfl ?_
   refine Ce rfl (begins_ok (T:=toT x.k x.t) (U:=toT y.k y.t) (TS.pt hxr) (TS.pt hyr) (by omega) (by rw [Xaa];omega)) ?_
   refine By rfl (fun h=>?_) fun h=>?_
   · refine Ar (1+1 : Nat) rfl ?_
     exact Bk (2,⟨x.k,x.t⟩) [] rfl (.inr (.inr ⟨rfl,last h⟩)) (show 0<1 by decide)
   refine Ce rfl (begins_ok (T:=toT y.k y.t) (U:=toT x.k x.t) (TS.pt hyr) (TS.pt hxr) (by omega) (by rw [Xaa];omega)) ?_
   refine By rfl (fun h1=>?_) fun h1=>?_
   · have hb : Beg x.k x.t y.k y.t:=h1
     refine Ar (1+1 : Nat) rfl ?_
     exact Bk (2,⟨y.k,y.t⟩) [] rfl (.inr (.inr ⟨rfl,.mk hG hx1 hy1 hy1 (R9.beg_rt hG hb hx1 hy1) R9.rts⟩)) (show 0<1 by decide)
   · refine Ca rfl (Xde W hx1 hy1) fun v hv=>?_
     obtain ⟨m,T,rs,ρ',rfl,g1,g2,g3,g5,g6⟩:=hv
     refine No rfl (by simp) ?_
     refine Ar (1+1 : Nat) rfl ?_
     exact Bk (2,⟨m,T⟩) [] rfl (.inr (.inr ⟨rfl,.ext hG hx1 hy1 g1 g2 g5⟩)) (show 0<1 by decide)
 · refine No rfl (show ¬ ((2 : Nat) : Int)<2 by decide) ?_
   exact Rt rfl (.tup (.cons (.rf rfl) Xa3)) ⟨m,T,rfl,hP⟩
theorem Join_ok (W : Wy G S wR) (hx : NOk G S r p x vx) (hy : NOk G S r p y vy) (hp : p≤4000000000) : C0 197 [.d (dNs [x,y])] fun v=>∃ m T a b,v=.tup (.pr (.d (dNs [⟨m,T,a⟩,⟨m,T,b⟩])) (.d (.int .i64 0)))∧R9.JnR G S p vx vy m T a b:=by
 have hc:=Xwd W hx hy
 have hG:=W.g
 have hR:=Xg7
 have hJ : jW p=8*p+73803682:=rfl
 refine En Tryz.func197 fun _ _ _=>?_
 refine Ca rfl hc fun v hv=>?_
 obtain ⟨m,T,rfl,hP⟩:=hv
 obtain ⟨ρ,hT,hcon⟩:=hP
 have hTr:=W.t hT
 have hm3:=W.le hT
 refine No rfl (by decide) ?_
 refine Nl 6 6 2 rfl ?_
 refine Lo (fun (s : Nat × List (Tow.El m))=>[(2,.nil),(3,.d (.int .i64 0)),(4,.d (dt T)),(6,.gr 6 2 (s.2.map fun a=>dN ⟨m,T,a⟩)),(20,.d (dNs [x,y])),(21,.d (.int .i64 2)),(22,.d (.int .i64 s.1))]) (fun s=>[(6,.tok (s.2.map fun a=>dN ⟨m,T,a⟩).length 2)])
  (R9.JnI G p m ρ vx vy) (fun s=>2 - s.1) (0,[]) [] rfl ⟨W1c _,rfl,fun i hi=>absurd hi (W6q _)⟩ (fun (j,bs) hI=>?_)
 have hI':=hI
 obtain ⟨hj,hjl,has⟩:=hI
 simp only at hj hjl has
 refine By rfl (fun h=>?_) fun h=>?_
 · have h : (j : Int)<2:=h
   obtain ⟨z,v,ρz,z1,z2,z3,z4,z6⟩:=R9.both hx hy j (by omega)
   have z5:=W.t z3
   have hzu : ([x,y].map dN)[j]?=some (dN z):=by rw [W1f,z1];rfl
   have hzm:=hcon z (W0r z1) ρz z3
   have hz3:=W.le z3
   have hpj : p≤jW p:=R9.jW_ge
   refine Ix j rfl hzu ?_
   refine Ce rfl (begins_ok (T:=toT m T) (U:=toT z.k z.t) (TS.pt hTr) (TS.pt z5) (by omega) (by rw [Xaa];omega)) ?_
   refine By rfl (fun h1=>?_) fun h1=>?_
   · have hb : Beg z.k z.t m T:=h1
     obtain ⟨b,hlb⟩:=Lf.ex hb.le z.a
     have hv1 : ev G ρ m b=v:=by rw [hlb.ev hb.le,Xbp (R9.beg_ag hG hb z3 hT),z4]
     refine Ce rfl (Xpw (T:=T) hlb hb.le (by omega)) ?_
     refine Ce rfl (detach_ok (x:=⟨_,T,b⟩) hTr ((hlb.sz z6).mono hpj) (show _≤16 from by show m≤16;omega) (by omega) (by omega)) ?_
     refine ApG ((bs++[b]).map fun a=>dN ⟨m,T,a⟩) rfl (by simp) (by simp;omega) ?_
     refine Ar (j+1 : Nat) rfl ?_
     exact Bk (j+1,bs++[b]) [(6,90),(56,6)] rfl (hI'.step (by omega) z2 hv1 ((hlb.sz z6).mono hpj)) (by show 2 - (j+1)<2 - j;omega)
   · refine Ca rfl (Xde W hT z3) fun v' hv=>?_
     obtain ⟨m',T',rs,ρ',rfl,g1,g2,g3,g5,g6⟩:=hv
     obtain rfl : m'=m:=by have:=congrArg List.length (g6 hzm);rwa [Xaa,Xaa] at this
     obtain rfl : T=T':=(Xjq (g6 hzm)).symm
     have g5 : RtV G m' (zM wR 3) z.k rs ρ ρz:=g5.mono (W0c _) (W0c _) (fun i hi=>(g3 i hi).symm)
     obtain ⟨σ,s1,s2⟩:=g5.sig
     have hbd:=Ydw (p:=p) hm3 hz3
     refine No rfl (by simp) ?_
     refine Ce rfl (Xfk hTr (by omega) (by omega) s1 z6 (by omega) (by omega)) ?_
     refine Ce rfl (detach_ok (x:=⟨_,T,ev T σ z.k z.a⟩) hTr (R9.img W hT z3 s1 z6) (show _≤16 from by show m'≤16;omega) (by omega) (by omega)) ?_
     refine ApG ((bs++[ev T σ z.k z.a]).map fun a=>dN ⟨m',T,a⟩) rfl (by simp) (by simp;omega) ?_
     refine Ar (j+1 : Nat) rfl ?_
     exact Bk (j+1,bs++[ev T σ z.k z.a]) [(6,90),(56,6)] rfl (hI'.step (by omega) z2 (by rw [Xmf hT.h s2,z4]) (R9.img W hT z3 s1 z6)) (by show 2 - (j+1)<2 - j;omega)
 · have h : ¬ (j : Int)<2:=h
   obtain rfl : j=2:=by omega
   obtain ⟨a,b,rfl,hJ⟩:=hI'.done hT
   exact Rt rfl (.tup (.cons (.gr rfl) Xa3)) ⟨m,T,a,b,rfl,hJ⟩
def OpF (f : FuncId) (p : Nat) (g : (m : Nat)→Tw m→Tow.El m→Tow.El m→Tow.El m) : Prop:=∀ (m : Nat) (T : Tw m) (a b : Tow.El m),m≤3→TS wR m T→Sz (jW p) (toL m a)→Sz (jW p) (toL m b)→C0 f [.d (dt T),.d (de a),.d (de b)] (·=.d (de (g m T a b)))
theorem Xf9 {f : FuncId} {g : (m : Nat)→Tw m→Tow.El m→Tow.El m→Tow.El m} (hf : OpF f p g) (W : Wy G S wR) (hx : NOk G S r p x vx) (hy : NOk G S r p y vy) (hp : p≤4000000000) : C0 204 [.d (dN x),.d (dN y),.d (fnD f)] fun v=>∃ m T a b,v=.tup (.pr (.d (dN ⟨m,T,g m T a b⟩)) (.d (.int .i64 0)))∧R9.JnR G S p vx vy m T a b:=by
 refine En Tryz.func204 fun _ _ _=>?_
 refine Ca rfl (Join_ok W hx hy hp) fun v hv=>?_
 obtain ⟨m,T,a,b,rfl,h⟩:=hv
 obtain ⟨ρ,h1,h3,h4,h5,h6⟩:=id h
 have h2:=W.t h1
 have hm:=W.le h1
 refine No rfl (by simp) ?_
 refine Ix 0 rfl (u:=dN ⟨m,T,a⟩) rfl ?_
 refine Dw rfl ?_
 refine Ix 0 rfl (u:=dN ⟨m,T,a⟩) rfl ?_
 refine Ix 1 rfl (u:=dN ⟨m,T,b⟩) rfl ?_
 refine Ce rfl (hf m T a b hm h2 h5 h6) ?_
 exact Rt rfl (.tup (.cons (.rf rfl) Xa3)) ⟨m,T,a,b,rfl,h⟩
theorem Add_ok (W : Wy G S wR) (hx : NOk G S r p x vx) (hy : NOk G S r p y vy) (hp : p≤4000000000) : C0 118 [.d (dN x),.d (dN y)] (R9.OpR G S (oW p) (Tow.add K vx vy)):=by
 have hO : oW p=16*p+147714794:=rfl
 have hJ : jW p=8*p+73803682:=rfl
 have hC:=wC
 have hR:=Xg7
 refine En Tryz.func118 fun _ _ _=>?_
 refine Ca rfl (Xf9 (g:=fun m T a b=>Tow.add m a b) (fun m T a b hm h2 h5 h6=>Xhd h2 h5 h6 (by omega) (by omega) (by omega)) W hx hy hp) fun v hv=>?_
 obtain ⟨m,T,a,b,rfl,ρ,h1,h3,h4,h5,h6⟩:=hv
 have h2:=W.t h1
 exact Rt rfl (.tup (.cons (.rf rfl) Xa3)) ⟨⟨m,T,Tow.add m a b⟩,rfl,⟨ρ,h1,by rw [←h3,←h4];exact Xd7⟩,h2,by rw [Xat];exact (h5.add h6).mono (by omega)⟩
theorem Mul_ok (W : Wy G S wR) (hx : NOk G S r p x vx) (hy : NOk G S r p y vy) (hp : p≤4000000000) : C0 129 [.d (dN x),.d (dN y)] (R9.OpR G S (oW p) (Tow.mul K G vx vy)):=by
 have hO : oW p=16*p+147714794:=rfl
 have hJ : jW p=8*p+73803682:=rfl
 have hC:=wC
 have hR:=Xg7
 refine En Tryz.func129 fun _ _ _=>?_
 refine Ca rfl (Xf9 (g:=fun m T a b=>Tow.mul m T a b) (fun m T a b hm h2 h5 h6=>Xdi h2 h5 h6 (by omega) (by have:=Xgl (r:=wR) hm;omega) (by omega)) W hx hy hp) fun v hv=>?_
 obtain ⟨m,T,a,b,rfl,ρ,h1,h3,h4,h5,h6⟩:=hv
 have h2:=W.t h1
 have hm:=W.le h1
 have hc:=Xgl (r:=wR) hm
 exact Rt rfl (.tup (.cons (.rf rfl) Xa3)) ⟨⟨m,T,Tow.mul m T a b⟩,rfl,⟨ρ,h1,by rw [←h3,←h4];exact Xce h1.h⟩,h2,(h5.mul h2 h6).mono (by omega)⟩
theorem Sub_ok (W : Wy G S wR) (hx : NOk G S r p x vx) (hy : NOk G S r p y vy) (hp : p≤4000000000) : C0 178 [.d (dN x),.d (dN y)] (R9.OpR G S (oW p) (Tow.add K vx (Tow.neg K vy))):=by
 have hO : oW p=16*p+147714794:=rfl
 have hJ : jW p=8*p+73803682:=rfl
 have hC:=wC
 have hR:=Xg7
 refine En Tryz.func178 fun _ _ _=>?_
 refine Ca rfl (Xf9 (g:=fun m T a b=>Tow.add m a (Tow.neg m b)) (fun m T a b hm h2 h5 h6=>Xju h2 h5 h6 (by omega) (by omega) (by omega)) W hx hy hp) fun v hv=>?_
 obtain ⟨m,T,a,b,rfl,ρ,h1,h3,h4,h5,h6⟩:=hv
 have h2:=W.t h1
 exact Rt rfl (.tup (.cons (.rf rfl) Xa3)) ⟨⟨m,T,Tow.add m a (Tow.neg m b)⟩,rfl,⟨ρ,h1,by rw [←h3,←h4,←Xfo];exact Xd7⟩,h2,by rw [Xat];exact (h5.add (Xgj h6)).mono (by omega)⟩
theorem Neg_ok (hx : NOk G S r p x vx) (hk : x.k≤16) (hr : r≤4398046511104) (hp : p≤4398046511104) : C0 22 [.d (dN x)] (·=.d (dN ⟨x.k,x.t,Tow.neg x.k x.a⟩)):=by
 refine En Tryz.func22 fun _ _ _=>?_
 refine Ce rfl (detach_ok hx.r hx.p hk hr hp) ?_
 refine Ce rfl (Xs4 hx.r hx.p hk hp hr) ?_
 exact R0
theorem Sign_ok (hG : red K G) (hx : NOk G S r p x vx) (hk : x.k≤16) (hv : vB r x.k p≤4398046511104) (hr : vB r x.k r≤4398046511104) : C0 214 [.d (dN x)] (·=.d (.int .i64 (sgn K G vx))):=by
 obtain ⟨ρ,h1,h2⟩:=hx.ex
 have:=Xc6 (r:=r) x.k r
 refine En Tryz.func214 fun _ _ _=>?_
 refine Ce rfl (Xk4 hx.r hx.p (Xag h1.r) hk hv hr (by omega)) ?_
 rw [hx.sgn (Xag hG)]
 exact R0
theorem FromRat_ok {q : Rat} {p : Nat} (hq : Qs p q) (hp : p≤4398046511104) : C0 116 [.d (dq q)] (·=.d (dN ⟨0,(),q⟩)):=by
 refine En Tryz.func116 fun _ _ _=>?_
 refine Ce rfl (Xjb hq hp) ?_
 exact R1 rfl (.sd (.pd (.nil rfl) (.lit rfl)))
theorem FromInt_ok {z : Int} (h : -9223372036854775808≤z∧z<9223372036854775808) : C0 55 [.d (.int .i64 z)] (·=.d (dN ⟨0,(),(z : Rat)⟩)):=by
 refine En Tryz.func55 fun _ _ _=>?_
 refine Ce rfl (Xa0 h) ?_
 refine Ce rfl (FromRat_ok (q:=(z : Rat)) (p:=64) (Qs.int (by unfold Zs;omega) (by omega)) (by decide)) ?_
 exact R0
end
end
end Go.Proofs.YtpgcfjpkilabfaaGreatDoor.P9
namespace Go.Tow
open Go Go.Num Go.Proofs.YtpgcfjpkilabfaaGreatDoor
variable {K : Nat} {G : Tw K} {S : List (El K)} {N : List Nm} {n m : Nat} {x y z : Nm} {v w : El K} {r p : Nat}
structure Wn (G : Tw K) (S : List (El K)) (N : List Nm) : Prop where
 w : Wy G S wR
 h : ∀ z∈N,∃ ρz,TOk G S z.k z.t ρz
def gB (n : Nat) : Nat:=n*20000000 - 107430
structure Gd (G : Tw K) (S : List (El K)) (N : List Nm) (n : Nat) (x : Nm) (v : El K) : Prop where
 o : NOk G S wR (gB n) x v
 g : Gs G S N (gB n) v
 n : 1≤n
theorem Yig (h : n≤m) : gB n≤gB m:=by unfold gB;omega
theorem Gd.mono (h : Gd G S N n x v) (hm : n≤m) : Gd G S N m x v:=⟨h.o.mono (W0c _) (Yig hm),h.g.mono (Yig hm),W0h h.n hm⟩
theorem Gd.neg (h : Gd G S N n x v) : Gd G S N n ⟨x.k,x.t,Tow.neg x.k x.a⟩ (Tow.neg K v):=⟨h.o.neg,h.g.neg,h.n⟩
theorem Gd.short (W : Wn G S N) (hz : NOk G S 300 600 z v) (hN : z∈N) : Gd G S N 1 z v:=by
 have h:=(Gs.short W.w hz hN).mono (show _≤gB 1 by decide +kernel)
 exact ⟨hz.re W.w W.h h,h,W0c _⟩
theorem Gd.add (W : Wn G S N) (hx : Gd G S N n x v) (hy : Gd G S N m y w) (hz : NOk G S r p z (Tow.add K v w)) : Gd G S N (n+m) z (Tow.add K v w):=by
 have h:=(hx.g.add hy.g).mono (show _≤gB (n+m) by have:=hx.n;have:=hy.n;unfold gB;omega)
 exact ⟨hz.re W.w W.h h,h,W0h hx.n (W5m ..)⟩
theorem Gd.mul (W : Wn G S N) (hx : Gd G S N n x v) (hy : Gd G S N m y w) (hz : NOk G S r p z (Tow.mul K G v w)) : Gd G S N (n+m) z (Tow.mul K G v w):=by
 have h:=(hx.g.mul W.w hy.g).mono (show _≤gB (n+m) by rw [wC];have:=hx.n;have:=hy.n;unfold gB;omega)
 exact ⟨hz.re W.w W.h h,h,W0h hx.n (W5m ..)⟩
theorem Gd.rat (W : Wn G S N) {q : Rat} (h : Qs 64 q) : Gd G S N 1 ⟨0,(),q⟩ (Tow.rat K q):=by
 have h0 : NOk G S 0 65 ⟨0,(),q⟩ (Tow.rat K q):=⟨⟨fun _=>zero _,⟨trivial,trivial,fun i hi=>absurd hi (W6q _)⟩,rfl⟩,trivial,Sz.rat 0 h⟩
 have hg : Gs G S N (gB 1) (Tow.rat K q):=(Gs.rat h).mono (by decide)
 exact ⟨h0.re W.w W.h hg,hg,W0c _⟩
theorem Gd.le (W : Wn G S N) (h : Gd G S N n x v) : x.k≤3:=h.o.le (Xag W.w.g) W.w.s
theorem Gd.op (h : Gd G S N n x v) (hn : n≤190) : NOk G S wR 3799892570 x v:=h.o.mono (W0c _) (by unfold gB;omega)
theorem Yf4 (W : Wn G S N) (h : Gd G S N n x v) (hn : n≤800) : vB wR x.k (gB n)≤4398046511104:=W0h (W0h (Xla (h.le W)) (Xct (show gB n≤oW 4000000000 by unfold gB oW;omega))) wV
theorem Ykp (W : Wn G S N) (h : Gd G S N n x v) : vB wR x.k wR≤4398046511104:=W0h (Xla (h.le W)) wQ.2.2.2
end Go.Tow
namespace Go.Proofs.YtpgcfjpkilabfaaGreatDoor
open Go Go.Vm Go.Num Go.Tow
section
variable {K : Nat} {G : Tw K} {S : List (Tow.El K)} {N : List Nm} {n m : Nat} {x y z : Nm} {v w : Tow.El K}
def OpG (G : Tw K) (S : List (Tow.El K)) (N : List Nm) (n : Nat) (w : Tow.El K) (r : AV) : Prop:=∃ z : Nm,r=.tup (.pr (.d (dN z)) (.d (.int .i64 0)))∧Gd G S N n z w
def OnG (G : Tw K) (S : List (Tow.El K)) (N : List Nm) (n : Nat) (w : Tow.El K) (r : AV) : Prop:=∃ z : Nm,r=.d (dN z)∧Gd G S N n z w
theorem P9.Add_g (W : Wn G S N) (hx : Gd G S N n x v) (hy : Gd G S N m y w) (hn : n≤190) (hm : m≤190) : C0 118 [.d (dN x),.d (dN y)] (OpG G S N (n+m) (Tow.add K v w)):=(P9.Add_ok W.w (hx.op hn) (hy.op hm) (by decide)).mono fun _ ⟨z,e,h⟩=>⟨z,e,hx.add W hy h⟩
theorem R9.Add_g (W : Wn G S N) (hx : Gd G S N n x v) (hy : Gd G S N m y w) (hn : n≤190) (hm : m≤190) : C0 172 [.d (dN x),.d (dN y)] (OpG G S N (n+m) (Tow.add K v w)):=(R9.Add_ok W.w (hx.op hn) (hy.op hm) (by decide)).mono fun _ ⟨z,e,h⟩=>⟨z,e,hx.add W hy h⟩
theorem P9.Mul_g (W : Wn G S N) (hx : Gd G S N n x v) (hy : Gd G S N m y w) (hn : n≤190) (hm : m≤190) : C0 129 [.d (dN x),.d (dN y)] (OpG G S N (n+m) (Tow.mul K G v w)):=(P9.Mul_ok W.w (hx.op hn) (hy.op hm) (by decide)).mono fun _ ⟨z,e,h⟩=>⟨z,e,hx.mul W hy h⟩
theorem R9.Mul_g (W : Wn G S N) (hx : Gd G S N n x v) (hy : Gd G S N m y w) (hn : n≤190) (hm : m≤190) : C0 175 [.d (dN x),.d (dN y)] (OpG G S N (n+m) (Tow.mul K G v w)):=(R9.Mul_ok W.w (hx.op hn) (hy.op hm) (by decide)).mono fun _ ⟨z,e,h⟩=>⟨z,e,hx.mul W hy h⟩
theorem R9.Sub_g (W : Wn G S N) (hx : Gd G S N n x v) (hy : Gd G S N m y w) (hn : n≤190) (hm : m≤190) : C0 235 [.d (dN x),.d (dN y)] (OpG G S N (n+m) (Tow.add K v (Tow.neg K w))):=(R9.Sub_ok W.w (hx.op hn) (hy.op hm) (by decide)).mono fun _ ⟨z,e,h⟩=>⟨z,e,hx.add W hy.neg h⟩
theorem P9.Neg_g (W : Wn G S N) (hx : Gd G S N n x v) (hn : n≤190) : C0 22 [.d (dN x)] (OnG G S N n (Tow.neg K v)):=(P9.Neg_ok hx.o (by have:=hx.le W;omega) (by decide) (by unfold gB;omega)).mono fun _ e=>⟨_,e,hx.neg⟩
theorem R9.Neg_g (W : Wn G S N) (hx : Gd G S N n x v) (hn : n≤190) : C0 30 [.d (dN x)] (OnG G S N n (Tow.neg K v)):=(R9.Neg_ok hx.o (by have:=hx.le W;omega) (by unfold gB;omega)).mono fun _ e=>⟨_,e,hx.neg⟩
theorem P9.Sign_g (W : Wn G S N) (hx : Gd G S N n x v) (hn : n≤800) : C0 214 [.d (dN x)] (·=.d (.int .i64 (sgn K G v))):=P9.Sign_ok W.w.g hx.o (by have:=hx.le W;omega) (Yf4 W hx hn) (Ykp W hx)
theorem R9.Sign_g (W : Wn G S N) (hx : Gd G S N n x v) (hn : n≤800) : C0 94 [.d (dN x)] (·=.d (.int .i64 (sgn K G v))):=R9.Sign_ok W.w.g hx.o (by have:=hx.le W;omega) (Yf4 W hx hn)
end
end Go.Proofs.YtpgcfjpkilabfaaGreatDoor
namespace Go.Tow
open Go
abbrev V2 (K : Nat):=El K × El K
section
variable {K : Nat} {G : Tw K} {p q : V2 K}
def Xb2 (G : Tw K) (p q : V2 K) : El K:=add K (mul K G p.1 q.1) (mul K G p.2 q.2)
def Xcb (G : Tw K) (p q : V2 K) : El K:=Xb2 G (neg K p.2,p.1) q
def Xbv (G : Tw K) (p q : V2 K) : V2 K:=(add K (mul K G p.1 q.1) (neg K (mul K G p.2 q.2)),add K (mul K G p.1 q.2) (mul K G p.2 q.1))
def Xep (p : V2 K) : V2 K:=(p.1,neg K p.2)
def vz (K : Nat) : V2 K:=(zero K,zero K)
def vup (G : Tw K) (p : V2 K) : Prop:=0<sgn K G p.2∨(sgn K G p.2=0∧0<sgn K G p.1)
instance : Decidable (vup G p):=by unfold vup;infer_instance
def Xg8 (G : Tw K) (p q : V2 K) : Int:=if vup G p↔vup G q then - sgn K G (Xcb G p q) else if vup G p then -1 else 1
theorem Yaf : Xb2 G (Xep p) q=(Xbv G p q).1:=by
 have L:=Xay K G
 show add K (mul K G p.1 q.1) (mul K G (neg K p.2) q.2)=add K (mul K G p.1 q.1) (neg K (mul K G p.2 q.2))
 rw [L.nm]
theorem Yae : Xcb G (Xep p) q=(Xbv G p q).2:=by
 have L:=Xay K G
 show add K (mul K G (neg K (neg K p.2)) q.1) (mul K G p.1 q.2)=add K (mul K G p.1 q.2) (mul K G p.2 q.1)
 rw [L.nn,L.ac]
theorem Xeo (hG : red K G) : p=vz K↔sgn K G p.1=0∧sgn K G p.2=0:=by
 rw [Xbz hG,Xbz hG]
 exact ⟨fun h=>by rw [h];exact ⟨rfl,rfl⟩,fun h=>W2f h.1 h.2⟩
theorem vsq (hG : red K G) (h : sgn K G (Xb2 G p p)=0) : p=vz K:=by
 have Sg:=Xas (Xag hG)
 have h1:=Xdr (Sg.tri p.1)
 have h2:=Xdr (Sg.tri p.2)
 rw [Xeo hG]
 have e1:=Sg.sm p.1 p.1
 have e2:=Sg.sm p.2 p.2
 have L:=Xay K G
 by_cases a1 : sgn K G p.1=0
 · refine ⟨a1,W1e fun a2=>?_⟩
   have:=Sg.sp (mul K G p.2 p.2) (mul K G p.1 p.1) (by rw [e2];exact h2.2.1 a2) (by rw [e1];exact h1.1)
   rw [L.ac] at this
   rw [show add K (mul K G p.1 p.1) (mul K G p.2 p.2)=Xb2 G p p from rfl,h] at this
   cases this
 · have:=Sg.sp (mul K G p.1 p.1) (mul K G p.2 p.2) (by rw [e1];exact h1.2.1 a1) (by rw [e2];exact h2.1)
   rw [show add K (mul K G p.1 p.1) (mul K G p.2 p.2)=Xb2 G p p from rfl,h] at this
   cases this
theorem Ycd : Xb2 G (Xbv G p q) (Xbv G p q)=mul K G (Xb2 G p p) (Xb2 G q q):=by
 obtain ⟨a,b⟩:=p
 obtain ⟨c,d⟩:=q
 have L:=Xay K G
 exact (Laws.req L [a,b,c,d] (.add (.mul (.add (.mul (.v 0) (.v 2)) (.neg (.mul (.v 1) (.v 3)))) (.add (.mul (.v 0) (.v 2)) (.neg (.mul (.v 1) (.v 3))))) (.mul (.add (.mul (.v 0) (.v 3)) (.mul (.v 1) (.v 2))) (.add (.mul (.v 0) (.v 3)) (.mul (.v 1) (.v 2))))) (.mul (.add (.mul (.v 0) (.v 0)) (.mul (.v 1) (.v 1))) (.add (.mul (.v 2) (.v 2)) (.mul (.v 3) (.v 3)))) (by decide +kernel))
theorem Xjk (hG : red K G) (hp : p≠vz K) (hq : q≠vz K) : Xbv G p q≠vz K:=fun h=>by
 have Sg:=Xas (Xag hG)
 have L:=Xay K G
 have h0 : sgn K G (Xb2 G (Xbv G p q) (Xbv G p q))=0:=by
  rw [h]
  show sgn K G (add K (mul K G (zero K) (zero K)) (mul K G (zero K) (zero K)))=0
  rw [L.mz,L.az,Xbz hG]
 rw [Ycd,Sg.sm] at h0
 rcases W7k.1 h0 with h | h
 · exact hp (vsq hG h)
 · exact hq (vsq hG h)
def Yf3 (G : Tw K) (p q : V2 K) (f g : Int) : Int:=if Xg8 G (Xbv G p q) p<0 then f+g+1 else f+g
end
end Go.Tow
namespace Go.Proofs.YtpgcfjpkilabfaaGreatDoor
open Go Go.Vm Go.Num Go.Tow
section
structure Vn where
 x : Nm
 y : Nm
abbrev dV (v : Vn) : D:=.st (.pr (dN v.x) (dN v.y))
abbrev dVs (l : List Vn) : D:=.sl 4 (l.map dV)
abbrev n00 : Nm:=⟨0,(),((0 : Int) : Rat)⟩
structure Gv {K : Nat} (G : Tw K) (S : List (Tow.El K)) (N : List Nm) (n : Nat) (v : Vn) (p : V2 K) : Prop where
 x : Gd G S N n v.x p.1
 y : Gd G S N n v.y p.2
def IsB (r : AV) : Prop:=∃ c : Bool,r=.b c
section
variable {K : Nat} {G : Tw K} {S : List (Tow.El K)} {N : List Nm} {n m : Nat} {x y z : Nm} {a b v w : Tow.El K} {u s : Vn} {p q : V2 K}
theorem Gv.mono (h : Gv G S N n u p) (hm : n≤m) : Gv G S N m u p:=⟨h.x.mono hm,h.y.mono hm⟩
def VeG (G : Tw K) (S : List (Tow.El K)) (N : List Nm) (n : Nat) (p : V2 K) (r : AV) : Prop:=∃ v : Vn,r=.d (dV v)∧Gv G S N n v p
def VoG (G : Tw K) (S : List (Tow.El K)) (N : List Nm) (n : Nat) (p : V2 K) (r : AV) : Prop:=∃ v : Vn,r=.tup (.pr (.d (dV v)) (.d (.int .i64 0)))∧Gv G S N n v p
theorem R9.Cmp_g (W : Wn G S N) (hx : Gd G S N n x v) (hy : Gd G S N m y w) (hn : n≤190) (hm : m≤190) : C0 177 [.d (dN x),.d (dN y)] (·=.tup (.pr (.d (.int .i64 (sgn K G (Tow.add K v (Tow.neg K w))))) (.d (.int .i64 0)))):=by
 refine En Tryz.func177 fun _ _ _=>?_
 refine Ca rfl (R9.Sub_g W hx hy hn hm) fun v hv=>?_
 obtain ⟨z,rfl,hz⟩:=hv
 refine No rfl (by simp) ?_
 refine Ce rfl (R9.Sign_g W hz (by omega)) ?_
 exact RTt rfl (.cons (.rf rfl) Xa3)
theorem R9.Equal_g (W : Wn G S N) (hx : Gd G S N n x v) (hy : Gd G S N m y w) (hn : n≤190) (hm : m≤190) : C0 95 [.d (dN x),.d (dN y)] (·=.b (dc (v=w))):=by
 refine En Tryz.func95 fun _ _ _=>?_
 refine Ce rfl (R9.Cmp_g W hx hy hn hm) ?_
 refine Yes rfl (by simp) ?_
 have e : sgn K G (Tow.add K v (Tow.neg K w))=0↔v=w:=by
  rw [Xbz W.w.g]
  exact ⟨fun h=>(Xay K G).sub0 h,fun h=>(Xay K G).sb h⟩
 exact R1 rfl (.bp (Xan.trans e))
end
end
section
section
variable {K : Nat} {G : Tw K} {S : List (Tow.El K)} {N : List Nm} {n m : Nat} {x y z : Nm} {a b : Tow.El K} {u s : Vn} {p q : V2 K}
theorem R13.Left_g (W : Wn G S N) (hu : Gv G S N n u p) (hn : n≤190) : C0 44 [.d (dV u)] (VeG G S N n (neg K p.2,p.1)):=by
 refine En Tryz.func44 fun _ _ _=>?_
 refine Dw rfl ?_
 refine Ca rfl (R9.Neg_g W hu.y hn) fun v hv=>?_
 obtain ⟨z,rfl,hz⟩:=hv
 exact Rt rfl (.one (.rf rfl) rfl rfl) ⟨⟨z,u.x⟩,rfl,hz,hu.x⟩
theorem R13.Dot_g (W : Wn G S N) (hu : Gv G S N n u p) (hs : Gv G S N m s q) (hn : n≤190) (hm : m≤190) (h2 : n+m≤190) : C0 234 [.d (dV u),.d (dV s)] (OpG G S N (n+m+(n+m)) (Xb2 G p q)):=by
 refine En Tryz.func234 fun _ _ _=>?_
 refine Ca rfl (R9.Mul_g W hu.x hs.x hn hm) fun v hv=>?_
 obtain ⟨z,rfl,hz⟩:=hv
 refine Ca rfl (R9.Mul_g W hu.y hs.y hn hm) fun v hv=>?_
 obtain ⟨w,rfl,hw⟩:=hv
 refine No rfl (by simp) ?_
 refine No rfl (by simp) ?_
 refine Ca rfl (R9.Add_g W hz hw h2 h2) fun v hv=>?_
 obtain ⟨r,rfl,hr⟩:=hv
 exact Rt rfl (.tup (.cons (.rf rfl) Xa3)) ⟨r,rfl,hr⟩
theorem R13.Cross_g (W : Wn G S N) (hu : Gv G S N n u p) (hs : Gv G S N m s q) (hn : n≤190) (hm : m≤190) (h2 : n+m≤190) : C0 233 [.d (dV u),.d (dV s)] (OpG G S N (n+m+(n+m)) (Xcb G p q)):=by
 refine En Tryz.func233 fun _ _ _=>?_
 refine Dw rfl ?_
 refine Ca rfl (R13.Left_g W hu hn) fun v hv=>?_
 obtain ⟨r,rfl,hr⟩:=hv
 refine Ca rfl (R13.Dot_g W hr hs hn hm h2) fun v hv=>?_
 obtain ⟨z,rfl,hz⟩:=hv
 exact Rt rfl (.tup (.cons (.rf rfl) Xa3)) ⟨z,rfl,hz⟩
theorem R13.Zero_g (W : Wn G S N) (hu : Gv G S N n u p) (hn : n≤800) : C0 311 [.d (dV u)] (·=.b (dc (p=vz K))):=by
 refine En Tryz.func311 fun _ _ _=>?_
 refine Ce rfl (R9.Sign_g W hu.x hn) ?_
 refine By rfl (fun h=>?_) fun h=>?_
 · refine Ce rfl (R9.Sign_g W hu.y hn) ?_
   exact R1 rfl (.bp (Xan.trans ⟨fun h2=>(Xeo W.w.g).2 ⟨h,h2⟩,fun h2=>((Xeo W.w.g).1 h2).2⟩))
 · exact R1 rfl (.bp ⟨nofun,fun h2=>absurd ((Xeo W.w.g).1 h2).1 h⟩)
theorem R13.Make_ok {i j : Rat} : C0 87 [.d (dq i),.d (dq j)] (·=.d (dV ⟨⟨0,(),i⟩,⟨0,(),j⟩⟩)):=by
 refine En Tryz.func87 fun _ _ _=>?_
 refine Dw rfl ?_
 refine Ce rfl R9.FromRat_ok ?_
 refine Ce rfl R9.FromRat_ok ?_
 exact R0
theorem R13.Whole_ok {i j : Int} (hi : -9223372036854775808≤i∧i<9223372036854775808) (hj : -9223372036854775808≤j∧j<9223372036854775808) : C0 39 [.d (.int .i64 i),.d (.int .i64 j)] (·=.d (dV ⟨⟨0,(),(i : Rat)⟩,⟨0,(),(j : Rat)⟩⟩)):=by
 refine En Tryz.func39 fun _ _ _=>?_
 refine Ce rfl (R2.FromInt_ok hi) ?_
 refine Ce rfl (R2.FromInt_ok hj) ?_
 refine Ce rfl R13.Make_ok ?_
 exact R0
abbrev cal : Ob:=.var (.d (.st (.int .i64 0)))
theorem R15.note_ok : CN0 170 [.ptr 1000001 0,.d (.int .i64 0)] [(1000001,cal)] (fun _=>True):=by
 refine EnW Tryz.func170 fun _ _ _ _=>?_
 refine Yes rfl (by decide) ?_
 exact Rw [] [(1000001,cal)] rfl (.tup (.one (.rf rfl) (fun _ _ e=>by cases e) (fun _ _ e=>by cases e))) ⟨rfl,trivial⟩
theorem R15.num_ok {x : Nm} : CN0 140 [.ptr 1000001 0,.d (dN x),.d (.int .i64 0)] [(1000001,cal)] (·=.d (dN x)):=by
 refine EnW Tryz.func140 fun _ _ _ _=>?_
 refine Cn [] rfl R15.note_ok fun v hv=>?_
 refine No rfl (by decide) ?_
 exact Rw [] [(1000001,cal)] rfl (.one (.rf rfl) rfl rfl) ⟨rfl,rfl⟩
theorem R15.Cross_g (W : Wn G S N) (hu : Gv G S N n u p) (hs : Gv G S N m s q) (hn : n≤190) (hm : m≤190) (h2 : n+m≤190) : CN0 144 [.ptr 1000001 0,.d (dV u),.d (dV s)] [(1000001,cal)] (OnG G S N (n+m+(n+m)) (Xcb G p q)):=by
 refine EnW Tryz.func144 fun _ _ _ _=>?_
 refine Ca rfl (R13.Cross_g W hu hs hn hm h2) fun v hv=>?_
 obtain ⟨z,rfl,hz⟩:=hv
 refine Cn [] rfl R15.num_ok fun v hv=>?_
 subst hv
 exact Rw [] [(1000001,cal)] rfl (.one (.rf rfl) rfl rfl) ⟨rfl,z,rfl,hz⟩
end
end
section
abbrev dT (v : Vn) (f : Int) : D:=.st (.pr (dV v) (.int .i64 f))
abbrev dT0 : D:=.st (.pr (.st (.pr R9.n0 R9.n0)) (.int .i64 0))
theorem Xrx {g : Hp} {K : Hpl} : Fit g K (.st (.pr (.st (.pr (.st (.pr .nil .nil)) (.st (.pr .nil .nil)))) (.d (.int .i64 0)))) (.d dT0):=.sd (.pd (.sd (.pd R9.fit0 R9.fit0)) (.rf rfl))
def lim (f : Int) : Prop:=-1000000≤f∧f≤1000000
instance {f : Int} : Decidable (lim f):=by unfold lim;infer_instance
def Yj2 {K : Nat} (G : Tw K) (p q : V2 K) (f g : Int) : Int:=if f<g then -1 else if f > g then 1 else Xg8 G p q
section
variable {K : Nat} {G : Tw K} {S : List (Tow.El K)} {N : List Nm} {n m : Nat} {x y z : Nm} {a b : Tow.El K} {u s : Vn} {p q : V2 K} {f g : Int}
def TuG (G : Tw K) (S : List (Tow.El K)) (N : List Nm) (n : Nat) (p : V2 K) (f : Int) (r : AV) : Prop:=(lim f∧∃ v,r=.tup (.pr (.d (dT v f)) (.d (.int .i64 0)))∧Gv G S N n v p)∨(¬ lim f∧r=.tup (.pr (.d dT0) (.d (.int .i64 3))))
theorem R19.half_g (W : Wn G S N) (hu : Gv G S N n u p) (hn : n≤800) : C0 362 [.d (dV u)] (·=.d (.int .i64 (if vup G p then 0 else 1))):=by
 refine En Tryz.func362 fun _ _ _=>?_
 refine Ce rfl (R9.Sign_g W hu.y hn) ?_
 refine By rfl (fun h=>?_) fun h=>?_
 · rw [if_pos (show vup G p from .inl h)];exact R0
 · refine By rfl (fun h2=>?_) fun h2=>?_
   · refine Ce rfl (R9.Sign_g W hu.x hn) ?_
     refine By rfl (fun h3=>?_) fun h3=>?_
     · rw [if_pos (show vup G p from .inr ⟨h2,h3⟩)];exact R0
     · rw [if_neg (show ¬ vup G p from fun e=>e.elim h fun e=>h3 e.2)];exact R0
   · rw [if_neg (show ¬ vup G p from fun e=>e.elim h fun e=>h2 e.1)];exact R0
theorem R19.order_g (W : Wn G S N) (hu : Gv G S N n u p) (hs : Gv G S N m s q) (hn : n≤190) (hm : m≤190) (h2 : n+m≤190) : CN0 310 [.ptr 1000001 0,.d (dV u),.d (dV s)] [(1000001,cal)] (·=.d (.int .i64 (Xg8 G p q))):=by
 refine EnW Tryz.func310 fun _ _ _ _=>?_
 refine Dw rfl ?_
 refine Ce rfl (R19.half_g W hu (by omega)) ?_
 refine Ce rfl (R19.half_g W hs (by omega)) ?_
 refine By rfl (fun h=>?_) fun h=>?_
 · refine Dw rfl ?_
   refine Ce rfl (R19.half_g W hu (by omega)) ?_
   refine Ce rfl (R19.half_g W hs (by omega)) ?_
   refine Ar (Xg8 G p q) rfl ?_ (by
    unfold Xg8
    by_cases h1 : vup G p <;> by_cases h2 : vup G q <;> simp [h1,h2] at h ⊢ <;> rfl)
   exact Rw [] [(1000001,cal)] rfl (.one (.rf rfl) rfl rfl) ⟨rfl,rfl⟩
 · refine Cn [] rfl (R15.Cross_g W hu hs hn hm h2) fun v hv=>?_
   obtain ⟨z,rfl,hz⟩:=hv
   refine Ce rfl (R9.Sign_g W hz (by omega)) ?_
   have hi : vup G p↔vup G q:=by
    by_cases h1 : vup G p <;> by_cases h2 : vup G q <;> simp [h1,h2] at h ⊢
   have ht:=Xcw G (Xcb G p q)
   refine Ne (Xg8 G p q) rfl ?_ (by
    unfold Xg8
    rw [if_pos hi]
    exact wr (Int.zero_sub _) (by simp only [inK];omega))
   exact Rw [] [(1000001,cal)] rfl (.one (.rf rfl) rfl rfl) ⟨rfl,rfl⟩
theorem R19.result_g (hu : Gv G S N n u p) : CN0 312 [.ptr 1000001 0,.d (dT u f)] [(1000001,cal)] (TuG G S N n p f):=by
 refine EnW Tryz.func312 fun _ _ _ _=>?_
 refine No rfl (by decide) ?_
 refine By rfl (fun h=>?_) fun h=>?_
 · exact Rw [] [(1000001,cal)] rfl (.tup (.cons Xrx Xa3)) ⟨rfl,.inr ⟨fun h2=>by unfold lim at h2;omega,rfl⟩⟩
 · refine By rfl (fun h2=>?_) fun h2=>?_
   · exact Rw [] [(1000001,cal)] rfl (.tup (.cons Xrx Xa3)) ⟨rfl,.inr ⟨fun h2=>by unfold lim at h2;omega,rfl⟩⟩
   · exact Rw [] [(1000001,cal)] rfl (.tup (.cons (.rf rfl) Xa3)) ⟨rfl,.inl ⟨by unfold lim;omega,u,rfl,hu⟩⟩
theorem R19.Cmp_g (W : Wn G S N) (hu : Gv G S N n u p) (hs : Gv G S N m s q) (h2 : n+m≤190) : C0 236 [.d (dT u f),.d (dT s g)] (·=.tup (.pr (.d (.int .i64 (Yj2 G p q f g))) (.d (.int .i64 0)))):=by
 refine En Tryz.func236 fun _ _ _=>?_
 unfold Yj2
 refine By rfl (fun h=>?_) fun h=>?_
 · rw [if_pos h];exact RTt rfl (.cons (.rf rfl) Xa3)
 rw [if_neg h]
 refine By rfl (fun h=>?_) fun h=>?_
 · rw [if_pos h];exact RTt rfl (.cons (.rf rfl) Xa3)
 rw [if_neg h]
 refine Cn [(1000001,19)] rfl (R19.order_g W hu hs (by omega) (by omega) h2) fun v hv=>?_
 subst hv
 refine No rfl (by decide) ?_
 exact RTt rfl (.cons (.rf rfl) Xa3)
end
end
open Go Go.Vm Go.Num Go.Tow
section
variable {K : Nat} {G : Tw K} {S : List (Tow.El K)} {N : List Nm} {n m : Nat} {x y z : Nm} {a b : Tow.El K} {u s : Vn} {p q : V2 K} {f g : Int}
namespace P13
theorem Xzo (W : Wn G S N) (hu : Gv G S N n u p) (hs : Gv G S N m s q) (hn : n≤190) (hm : m≤190) : C0 117 [.d (dV u),.d (dV s),.d (fnD 129)] (VoG G S N (n+m) (Tow.mul K G p.1 q.1,Tow.mul K G p.2 q.2)):=by
 refine En Tryz.func117 fun _ _ _=>?_
 refine Ca rfl (P9.Mul_g W hu.x hs.x hn hm) fun v hv=>?_
 obtain ⟨z,rfl,hz⟩:=hv
 refine No rfl (by simp) ?_
 refine Ca rfl (P9.Mul_g W hu.y hs.y hn hm) fun v hv=>?_
 obtain ⟨w,rfl,hw⟩:=hv
 refine No rfl (by simp) ?_
 exact Rt rfl (.tup (.cons (.rf rfl) Xa3)) ⟨⟨z,w⟩,rfl,hz,hw⟩
theorem Xzf (W : Wn G S N) (hx : Gd G S N n x a) (hn : n≤190) : C0 380 [.d (dN x)] (OnG G S N n a):=by
 refine En Tryz.func380 fun _ _ _=>?_
 refine Ca rfl (P9.Neg_g W hx hn) fun v hv=>?_
 obtain ⟨z,rfl,hz⟩:=hv
 refine Ca rfl (P9.Neg_g W hz hn) fun v hv=>?_
 obtain ⟨w,rfl,hw⟩:=hv
 rw [(Xay K G).nn] at hw
 exact Rt rfl (.one (.rf rfl) rfl rfl) ⟨w,rfl,hw⟩
theorem Left_g (W : Wn G S N) (hu : Gv G S N n u p) (hn : n≤190) : C0 336 [.d (dV u)] (VeG G S N n (neg K p.2,p.1)):=by
 refine En Tryz.func336 fun _ _ _=>?_
 refine Dw rfl ?_
 refine Ca rfl (P9.Neg_g W hu.y hn) fun v hv=>?_
 obtain ⟨z,rfl,hz⟩:=hv
 refine Ca rfl (Xzf W hu.x hn) fun v hv=>?_
 obtain ⟨w,rfl,hw⟩:=hv
 exact Rt rfl (.one (.rf rfl) rfl rfl) ⟨⟨z,w⟩,rfl,hz,hw⟩
theorem Dot_g (W : Wn G S N) (hu : Gv G S N n u p) (hs : Gv G S N m s q) (hn : n≤190) (hm : m≤190) (h2 : n+m≤190) : C0 287 [.d (dV u),.d (dV s)] (OpG G S N (n+m+(n+m)) (Xb2 G p q)):=by
 refine En Tryz.func287 fun _ _ _=>?_
 refine Ca rfl (Xzo W hu hs hn hm) fun v hv=>?_
 obtain ⟨r,rfl,hr⟩:=hv
 refine No rfl (by simp) ?_
 refine Ca rfl (P9.Add_g W hr.x hr.y h2 h2) fun v hv=>?_
 obtain ⟨z,rfl,hz⟩:=hv
 exact Rt rfl (.tup (.cons (.rf rfl) Xa3)) ⟨z,rfl,hz⟩
theorem Cross_g (W : Wn G S N) (hu : Gv G S N n u p) (hs : Gv G S N m s q) (hn : n≤190) (hm : m≤190) (h2 : n+m≤190) : C0 286 [.d (dV u),.d (dV s)] (OpG G S N (n+m+(n+m)) (Xcb G p q)):=by
 refine En Tryz.func286 fun _ _ _=>?_
 refine Dw rfl ?_
 refine Ca rfl (Left_g W hu hn) fun v hv=>?_
 obtain ⟨r,rfl,hr⟩:=hv
 refine Ca rfl (Dot_g W hr hs hn hm h2) fun v hv=>?_
 obtain ⟨z,rfl,hz⟩:=hv
 exact Rt rfl (.tup (.cons (.rf rfl) Xa3)) ⟨z,rfl,hz⟩
theorem Zero_g (W : Wn G S N) (hu : Gv G S N n u p) (hn : n≤800) : C0 289 [.d (dV u)] (·=.b (dc (p=vz K))):=by
 refine En Tryz.func289 fun _ _ _=>?_
 refine Ce rfl (P9.Sign_g W hu.x hn) ?_
 refine By rfl (fun h=>?_) fun h=>?_
 · refine Ce rfl (P9.Sign_g W hu.y hn) ?_
   exact R1 rfl (.bp (Xan.trans ⟨fun h2=>(Xeo W.w.g).2 ⟨h,h2⟩,fun h2=>((Xeo W.w.g).1 h2).2⟩))
 · exact R1 rfl (.bp ⟨nofun,fun h2=>absurd ((Xeo W.w.g).1 h2).1 h⟩)
end P13
namespace P19
theorem Xrt (W : Wn G S N) (hu : Gv G S N n u p) (hs : Gv G S N m s q) (h2 : n+m≤190) : C0 290 [.d (dV u),.d (dV s)] (VoG G S N (n+m+(n+m)) (Xbv G p q)):=by
 refine En Tryz.func290 fun _ _ _=>?_
 refine Dw rfl ?_
 refine Ca rfl (P9.Neg_g W hu.y (by omega)) fun v hv=>?_
 obtain ⟨z,rfl,hz⟩:=hv
 refine Ca rfl (P13.Dot_g (u:=⟨u.x,z⟩) (p:=Xep p) W ⟨hu.x,hz⟩ hs (by omega) (by omega) h2) fun v hv=>?_
 obtain ⟨d,rfl,hd⟩:=hv
 rw [Yaf] at hd
 refine No rfl (by simp) ?_
 refine Dw rfl ?_
 refine Ca rfl (P9.Neg_g W hu.y (by omega)) fun v hv=>?_
 obtain ⟨z',rfl,hz'⟩:=hv
 refine Ca rfl (P13.Cross_g (u:=⟨u.x,z'⟩) (p:=Xep p) W ⟨hu.x,hz'⟩ hs (by omega) (by omega) h2) fun v hv=>?_
 obtain ⟨c,rfl,hc⟩:=hv
 rw [Yae] at hc
 refine No rfl (by simp) ?_
 exact Rt rfl (.tup (.cons (.rf rfl) Xa3)) ⟨⟨d,c⟩,rfl,hd,hc⟩
theorem Xss (W : Wn G S N) (hu : Gv G S N n u p) (hn : n≤800) : C0 292 [.d (dV u)] (·=.b (dc (vup G p))):=by
 refine En Tryz.func292 fun _ _ _=>?_
 refine Ce rfl (P9.Sign_g W hu.y hn) ?_
 refine By rfl (fun h=>?_) fun h=>?_
 · exact R1 rfl (.bp ⟨fun _=>.inl h,fun _=>rfl⟩)
 · refine By rfl (fun h2=>?_) fun h2=>?_
   · refine Ce rfl (P9.Sign_g W hu.x hn) ?_
     exact R1 rfl (.bp (Xan.trans ⟨fun h3=>.inr ⟨h2,h3⟩,fun h3=>h3.elim (fun e=>absurd e h) fun e=>e.2⟩))
   · exact R1 rfl (.bp ⟨nofun,fun h3=>h3.elim (fun e=>absurd e h) fun e=>absurd e.1 h2⟩)
theorem Xwc (W : Wn G S N) (hu : Gv G S N n u p) (hs : Gv G S N m s q) (h2 : n+m≤190) : C0 216 [.d (dV u),.d (dV s)] (·=.tup (.pr (.d (.int .i64 (Xg8 G p q))) (.d (.int .i64 0)))):=by
 refine En Tryz.func216 fun _ _ _=>?_
 refine Dw rfl ?_
 refine Ce rfl (Xss W hu (by omega)) ?_
 refine Ce rfl (Xss W hs (by omega)) ?_
 unfold Xg8
 refine By rfl (fun h=>?_) fun h=>?_
 · refine By rfl (fun h1=>?_) fun h1=>?_
   · rw [if_neg (by simp [Xan,h1] at h ⊢;exact h),if_pos h1]
     exact RTt rfl (.cons (.rf rfl) Xa3)
   · rw [if_neg (by simp [Xan,h1] at h ⊢;exact h),if_neg h1]
     exact RTt rfl (.cons (.rf rfl) Xa3)
 · have d1 : dc True=true:=Xan.2 trivial
   have d2 : dc False=false:=W4j.2 fun h=>Xan.1 h
   have h : vup G p↔vup G q:=by
    by_cases h1 : vup G p <;> by_cases h2 : vup G q <;> simp [h1,h2,d1,d2] at h ⊢
   rw [if_pos h]
   refine Ca rfl (P13.Cross_g W hu hs (by omega) (by omega) h2) fun v hv=>?_
   obtain ⟨z,rfl,hz⟩:=hv
   refine Ce rfl (P9.Sign_g W hz (by omega)) ?_
   have ht:=Xcw G (Xcb G p q)
   refine Ne (-sgn K G (Xcb G p q)) rfl ?_ (wr (Int.zero_sub _) (by simp only [inK];omega))
   exact RTt rfl (.cons (.rf rfl) Xa3)
theorem Cmp_g (W : Wn G S N) (hu : Gv G S N n u p) (hs : Gv G S N m s q) (h2 : n+m≤190) : C0 125 [.d (dT u f),.d (dT s g)] (·=.tup (.pr (.d (.int .i64 (Yj2 G p q f g))) (.d (.int .i64 0)))):=by
 refine En Tryz.func125 fun _ _ _=>?_
 unfold Yj2
 refine By rfl (fun h=>?_) fun h=>?_
 · rw [if_pos h];exact RTt rfl (.cons (.rf rfl) Xa3)
 rw [if_neg h]
 refine By rfl (fun h=>?_) fun h=>?_
 · rw [if_pos h];exact RTt rfl (.cons (.rf rfl) Xa3)
 rw [if_neg h]
 refine Ce rfl (Xwc W hu hs h2) ?_
 refine No rfl (by simp) ?_
 exact RTt rfl (.cons (.rf rfl) Xa3)
def Trm (x : Nm) : Prop:=C0 192 [.d (dN x)] (·=.d (dN x))
theorem Xoc (W : Wn G S N) (hu : Gv G S N n u p) (ht : Trm u.x) (hn : n≤190) : C0 291 [.d (dV u)] (VeG G S N n (Xep p)):=by
 refine En Tryz.func291 fun _ _ _=>?_
 refine Dw rfl ?_
 refine Ce rfl ht ?_
 refine Ca rfl (P9.Neg_g W hu.y hn) fun v hv=>?_
 obtain ⟨z,rfl,hz⟩:=hv
 exact Rt rfl (.one (.rf rfl) rfl rfl) ⟨⟨u.x,z⟩,rfl,hu.x,hz⟩
def OfG (G : Tw K) (S : List (Tow.El K)) (N : List Nm) (n : Nat) (p q : V2 K) (r : AV) : Prop:=(¬ (p=vz K∨q=vz K)∧∃ v,r=.tup (.pr (.d (dT v 0)) (.d (.int .i64 0)))∧Gv G S N n v (Xbv G (Xep p) q))∨((p=vz K∨q=vz K)∧r=.tup (.pr (.d dT0) (.d (.int .i64 6))))
theorem Of_g (W : Wn G S N) (hu : Gv G S N n u p) (hs : Gv G S N m s q) (ht : Trm u.x) (h2 : n+m≤190) : C0 215 [.d (dV u),.d (dV s)] (OfG G S N (n+m+(n+m)) p q):=by
 refine En Tryz.func215 fun _ _ _=>?_
 refine Ce rfl (P13.Zero_g W hu (by omega)) ?_
 refine By rfl (fun h=>?_) fun h=>?_
 · exact Rt rfl (.tup (.cons Xrx Xa3)) (.inr ⟨.inl h,rfl⟩)
 · refine Ce rfl (P13.Zero_g W hs (by omega)) ?_
   refine By rfl (fun h1=>?_) fun h1=>?_
   · exact Rt rfl (.tup (.cons Xrx Xa3)) (.inr ⟨.inr h1,rfl⟩)
   refine Dw rfl ?_
   refine Ca rfl (Xoc W hu ht (by omega)) fun v hv=>?_
   obtain ⟨c,rfl,hc⟩:=hv
   refine Ca rfl (Xrt W hc hs h2) fun v hv=>?_
   obtain ⟨d,rfl,hd⟩:=hv
   refine No rfl (by simp) ?_
   exact Rt rfl (.tup (.cons (.rf rfl) Xa3)) (.inl ⟨fun e=>e.elim h h1,d,rfl,hd⟩)
end P19
end
end Go.Proofs.YtpgcfjpkilabfaaGreatDoor
namespace Go.Vm
open Go
section
variable {c : Cx} {s : St} {p : Pl}
noncomputable def Ym5 (tb : Nat→Option TI) (n : Nat) (s : St) : Option (Pl × Nat × Nat × Int × Nat × Nat):=match nxA tb n s with
 | some (p,o,[.ptr q off,.d (.int _ j)])=>match o.op with
  | .indexAddr T _ _=>match tb T with
   | some ⟨.st _,e,_,ar⟩=>some (p,q,off,j,e.size,ar)
   | _=>none
  | _=>none
 | _=>none
theorem Ia (i : Nat) {q off sz ar : Nat} {j : Int} (h : Ym5 c.tb c.n s=some (p,q,off,j,sz,ar)) (hi : i<ar) (kk : p.nx c (.ptr q (off+i*sz))) (hj : j=(i : Int):=by first | exact rfl | omega) : StP c s:=by
 subst hj
 unfold Ym5 at h
 split at h <;> try cases h
 rename_i p' o q1 off1 k1 j1 hA
 split at h <;> try cases h
 rename_i T x y ho
 split at h <;> try cases h
 rename_i z e eb ht
 refine Xcd (v:=.ptr q (off+i*e.size)) (us:=[]) hA ?_ (Pl.nx_nil kk)
 rw [ho]
 simp [F,Fp,ht,hi]
end
end Go.Vm
namespace Go.Proofs.YtpgcfjpkilabfaaGreatDoor
open Go Go.Vm Go.Num Go.Tow
theorem Xvn {c : Bool} {g : Hp} {K : Hpl} : FitT g K (.b c) (.b c):=.one (.rf rfl) (fun _ _ e=>by cases e) (fun _ _ e=>by cases e)
end Go.Proofs.YtpgcfjpkilabfaaGreatDoor
namespace Go.Proofs.YtpgcfjpkilabfaaGreatDoor.P9
open Go Go.Vm Go.Num Go.Tow Go.Proofs.YtpgcfjpkilabfaaGreatDoor
end Go.Proofs.YtpgcfjpkilabfaaGreatDoor.P9
namespace Go.Proofs.YtpgcfjpkilabfaaGreatDoor
open Go Go.Vm Go.Num Go.Tow
section
variable {K : Nat} {G : Tw K} {S : List (Tow.El K)} {N : List Nm} {n m k : Nat} {x y z : Nm} {a b v w : Tow.El K} {u s t : Vn} {p q r : V2 K}
def Xa8 {K : Nat} (p q : V2 K) : V2 K:=(Tow.add K p.1 (Tow.neg K q.1),Tow.add K p.2 (Tow.neg K q.2))
def Xfw {K : Nat} (p q : V2 K) : V2 K:=(Tow.add K p.1 q.1,Tow.add K p.2 q.2)
theorem P9.Sub_g (W : Wn G S N) (hx : Gd G S N n x v) (hy : Gd G S N m y w) (hn : n≤190) (hm : m≤190) : C0 178 [.d (dN x),.d (dN y)] (OpG G S N (n+m) (Tow.add K v (Tow.neg K w))):=(P9.Sub_ok W.w (hx.op hn) (hy.op hm) (by decide)).mono fun _ ⟨z,e,h⟩=>⟨z,e,hx.add W hy.neg h⟩
theorem Ygd {K : Nat} {a b : Tow.El K} : toL K a=toL K b↔a=b:=⟨Xhb,fun e=>by rw [e]⟩
theorem P9.Equal_g (W : Wn G S N) (hx : Gd G S N n x v) (hy : Gd G S N m y w) (hn : n≤190) (hm : m≤190) : C0 114 [.d (dN x),.d (dN y)] (·=.b (dc (v=w))):=by
 have hG:=W.w.g
 have hR:=Xg7
 have hx':=hx.op hn
 have hy':=hy.op hm
 obtain ⟨ρx,hx1,hx2⟩:=hx'.ex
 obtain ⟨ρy,hy1,hy2⟩:=hy'.ex
 have hx3:=W.w.le hx1
 have hy3:=W.w.le hy1
 have hxr:=W.w.t hx1
 have hyr:=W.w.t hy1
 have hpx:=p16 (show x.k≤16 by omega)
 have hJ : jW 3799892570=8*3799892570+73803682:=rfl
 have hj : C0 197 [.d (dNs [x,y])] fun v'=>∃ m T a b,v'=.tup (.pr (.d (dNs [⟨m,T,a⟩,⟨m,T,b⟩])) (.d (.int .i64 0)))∧R9.JnR G S 3799892570 v w m T a b:=P9.Join_ok W.w hx' hy' (by decide)
 have fin : ∀ {k : Nat} {T : Tw k} {a b : Tow.El k} {ρ : Nat→Tow.El K},TOk G S k T ρ→ev G ρ k a=v→ev G ρ k b=w→(dc (toL k a=toL k b)=true↔v=w):=fun {k T a b ρ} h1 h2 h3=>by
  rw [Xan,Ygd,←h2,←h3]
  exact ⟨fun e=>by rw [e],fun e=>Xme (Xag hG) h1.h h1.r e⟩
 refine En Tryz.func114 fun _ _ _=>?_
 refine Ce rfl (P9.begins_ok (T:=toT x.k x.t) (U:=toT y.k y.t) (TS.pt hxr) (TS.pt hyr) (by omega) (by rw [Xaa];omega)) ?_
 refine By rfl (fun h1=>?_) fun h1=>?_
 · refine Ce rfl (P9.begins_ok (T:=toT y.k y.t) (U:=toT x.k x.t) (TS.pt hyr) (TS.pt hxr) (by omega) (by rw [Xaa];omega)) ?_
   refine By rfl (fun h2=>?_) fun h2=>?_
   · refine Ce rfl (P9.sameElement_ok hx'.p.ps hy'.p.ps (by omega) (by rw [Xab];omega)) ?_
     refine R1 rfl (.bp ?_)
     have e1 : (toT x.k x.t).take (toT y.k y.t).length=toT y.k y.t:=h1
     have e2 : (toT y.k y.t).take (toT x.k x.t).length=toT x.k x.t:=h2
     have l1:=congrArg List.length e1
     have l2:=congrArg List.length e2
     rw [W0j,Xaa,Xaa] at l1 l2
     obtain ⟨kx,tx,ax⟩:=x
     obtain ⟨ky,ty,ay⟩:=y
     have l1 : min ky kx=ky:=l1
     have l2 : min kx ky=kx:=l2
     obtain rfl : kx=ky:=by omega
     have e3 : toT kx tx=toT kx ty:=by
      have e1 : (toT kx tx).take (toT kx ty).length=toT kx ty:=e1
      rwa [Xaa,W0a (by rw [Xaa];omega)] at e1
     obtain rfl:=Xjq e3
     have hy2 : ev G ρx kx ay=w:=by rw [←hy2];exact Xbp fun i hi=>Hom.uniq hG hx1.h hy1.h i hi
     exact fin hx1 hx2 hy2
   · refine Ca rfl hj fun v' hv=>?_
     obtain ⟨m',T,a,b,rfl,ρ,j1,j2,j3,j4,j5⟩:=hv
     have jm:=W.w.le j1
     have jp:=p16 (show m'≤16 by omega)
     refine Yes rfl (by decide) ?_
     refine Dw rfl ?_
     refine Ix 0 rfl (u:=dN ⟨m',T,a⟩) rfl ?_
     refine Ix 1 rfl (u:=dN ⟨m',T,b⟩) rfl ?_
     refine Ce rfl (P9.sameElement_ok (l:=toL m' a) (m:=toL m' b) j4.ps j5.ps (by omega) (by rw [Xab];omega)) ?_
     exact R1 rfl (.bp (fin j1 j2 j3))
 · refine Ca rfl hj fun v' hv=>?_
   obtain ⟨m',T,a,b,rfl,ρ,j1,j2,j3,j4,j5⟩:=hv
   have jm:=W.w.le j1
   have jp:=p16 (show m'≤16 by omega)
   refine Yes rfl (by decide) ?_
   refine Dw rfl ?_
   refine Ix 0 rfl (u:=dN ⟨m',T,a⟩) rfl ?_
   refine Ix 1 rfl (u:=dN ⟨m',T,b⟩) rfl ?_
   refine Ce rfl (P9.sameElement_ok (l:=toL m' a) (m:=toL m' b) j4.ps j5.ps (by omega) (by rw [Xab];omega)) ?_
   exact R1 rfl (.bp (fin j1 j2 j3))
theorem P13.both_add (W : Wn G S N) (hu : Gv G S N n u p) (hs : Gv G S N m s q) (hn : n≤190) (hm : m≤190) : C0 117 [.d (dV u),.d (dV s),.d (fnD 118)] (VoG G S N (n+m) (Xfw p q)):=by
 refine En Tryz.func117 fun _ _ _=>?_
 refine Ca rfl (P9.Add_g W hu.x hs.x hn hm) fun v hv=>?_
 obtain ⟨z,rfl,hz⟩:=hv
 refine No rfl (by simp) ?_
 refine Ca rfl (P9.Add_g W hu.y hs.y hn hm) fun v hv=>?_
 obtain ⟨w,rfl,hw⟩:=hv
 refine No rfl (by simp) ?_
 exact Rt rfl (.tup (.cons (.rf rfl) Xa3)) ⟨⟨z,w⟩,rfl,hz,hw⟩
theorem P13.both_sub (W : Wn G S N) (hu : Gv G S N n u p) (hs : Gv G S N m s q) (hn : n≤190) (hm : m≤190) : C0 117 [.d (dV u),.d (dV s),.d (fnD 178)] (VoG G S N (n+m) (Xa8 p q)):=by
 refine En Tryz.func117 fun _ _ _=>?_
 refine Ca rfl (P9.Sub_g W hu.x hs.x hn hm) fun v hv=>?_
 obtain ⟨z,rfl,hz⟩:=hv
 refine No rfl (by simp) ?_
 refine Ca rfl (P9.Sub_g W hu.y hs.y hn hm) fun v hv=>?_
 obtain ⟨w,rfl,hw⟩:=hv
 refine No rfl (by simp) ?_
 exact Rt rfl (.tup (.cons (.rf rfl) Xa3)) ⟨⟨z,w⟩,rfl,hz,hw⟩
theorem P13.Add_g (W : Wn G S N) (hu : Gv G S N n u p) (hs : Gv G S N m s q) (hn : n≤190) (hm : m≤190) : C0 56 [.d (dV u),.d (dV s)] (VoG G S N (n+m) (Xfw p q)):=by
 refine En Tryz.func56 fun _ _ _=>?_
 refine Ca rfl (P13.both_add W hu hs hn hm) fun v hv=>?_
 obtain ⟨r,rfl,hr⟩:=hv
 exact Rt rfl (.tup (.cons (.rf rfl) Xa3)) ⟨r,rfl,hr⟩
theorem P13.Sub_g (W : Wn G S N) (hu : Gv G S N n u p) (hs : Gv G S N m s q) (hn : n≤190) (hm : m≤190) : C0 101 [.d (dV u),.d (dV s)] (VoG G S N (n+m) (Xa8 p q)):=by
 refine En Tryz.func101 fun _ _ _=>?_
 refine Ca rfl (P13.both_sub W hu hs hn hm) fun v hv=>?_
 obtain ⟨r,rfl,hr⟩:=hv
 exact Rt rfl (.tup (.cons (.rf rfl) Xa3)) ⟨r,rfl,hr⟩
theorem P13.Equal_g (W : Wn G S N) (hu : Gv G S N n u p) (hs : Gv G S N m s q) (hn : n≤190) (hm : m≤190) : C0 96 [.d (dV u),.d (dV s)] (·=.b (dc (p=q))):=by
 refine En Tryz.func96 fun _ _ _=>?_
 refine Ce rfl (P9.Equal_g W hu.x hs.x hn hm) ?_
 refine By rfl (fun h=>?_) fun h=>?_
 · refine Ce rfl (P9.Equal_g W hu.y hs.y hn hm) ?_
   exact R1 rfl (.bp (Xan.trans ⟨fun h2=>W2f h h2,fun e=>by rw [e]⟩))
 · exact R1 rfl (.bp ⟨nofun,fun e=>absurd (by rw [e]) h⟩)
end
end Go.Proofs.YtpgcfjpkilabfaaGreatDoor
namespace Go.Proofs.YtpgcfjpkilabfaaGreatDoor.P15
open Go Go.Vm Go.Num Go.Tow Go.Proofs.YtpgcfjpkilabfaaGreatDoor
section
variable {K : Nat} {G : Tw K} {S : List (Tow.El K)} {N : List Nm} {n m k : Nat} {x y z : Nm} {a b v w : Tow.El K} {u s t : Vn} {p q r : V2 K}
theorem note_ok : CN0 373 [.ptr 1000001 0,.d (.int .i64 0)] [(1000001,cal)] IsB:=by
 refine EnW Tryz.func373 fun _ _ _ _=>?_
 refine Yes rfl (by decide) ?_
 exact Rw [] [(1000001,cal)] rfl (.one (.rf rfl) rfl rfl) ⟨rfl,_,rfl⟩
theorem Ych {f : FuncId} (hf : C0 f [.d (dN x),.d (dN y)] (OpG G S N n w)) : CN0 332 [.ptr 1000001 0,.d (fnD f),.d (dN x),.d (dN y)] [(1000001,cal)] (OnG G S N n w):=by
 refine EnW Tryz.func332 fun _ _ _ _=>?_
 refine No rfl (by decide) ?_
 refine Ca rfl hf fun v hv=>?_
 obtain ⟨z,rfl,hz⟩:=hv
 refine Cn [] rfl note_ok fun v hv=>?_
 obtain ⟨_,rfl⟩:=hv
 exact Rw [] [(1000001,cal)] rfl (.one (.rf rfl) rfl rfl) ⟨rfl,z,rfl,hz⟩
theorem Ymd (W : Wn G S N) (hx : Gd G S N n x v) (hy : Gd G S N m y w) (hn : n≤190) (hm : m≤190) : CN0 269 [.ptr 1000001 0,.d (dN x),.d (dN y)] [(1000001,cal)] (OnG G S N (n+m) (Tow.add K v w)):=by
 refine EnW Tryz.func269 fun _ _ _ _=>?_
 refine Cn [] rfl (Ych (P9.Add_g W hx hy hn hm)) fun v hv=>?_
 obtain ⟨z,rfl,hz⟩:=hv
 exact Rw [] [(1000001,cal)] rfl (.one (.rf rfl) rfl rfl) ⟨rfl,z,rfl,hz⟩
theorem Ycn (W : Wn G S N) (hx : Gd G S N n x v) (hy : Gd G S N m y w) (hn : n≤190) (hm : m≤190) : CN0 271 [.ptr 1000001 0,.d (dN x),.d (dN y)] [(1000001,cal)] (OnG G S N (n+m) (Tow.add K v (Tow.neg K w))):=by
 refine EnW Tryz.func271 fun _ _ _ _=>?_
 refine Cn [] rfl (Ych (P9.Sub_g W hx hy hn hm)) fun v hv=>?_
 obtain ⟨z,rfl,hz⟩:=hv
 exact Rw [] [(1000001,cal)] rfl (.one (.rf rfl) rfl rfl) ⟨rfl,z,rfl,hz⟩
theorem Yho (W : Wn G S N) (hx : Gd G S N n x v) (hy : Gd G S N m y w) (hn : n≤190) (hm : m≤190) : CN0 270 [.ptr 1000001 0,.d (dN x),.d (dN y)] [(1000001,cal)] (OnG G S N (n+m) (Tow.mul K G v w)):=by
 refine EnW Tryz.func270 fun _ _ _ _=>?_
 refine Cn [] rfl (Ych (P9.Mul_g W hx hy hn hm)) fun v hv=>?_
 obtain ⟨z,rfl,hz⟩:=hv
 exact Rw [] [(1000001,cal)] rfl (.one (.rf rfl) rfl rfl) ⟨rfl,z,rfl,hz⟩
theorem Xun (W : Wn G S N) (hu : Gv G S N n u p) (hs : Gv G S N m s q) (hn : n≤190) (hm : m≤190) : CN0 194 [.ptr 1000001 0,.d (dV u),.d (dV s)] [(1000001,cal)] (VeG G S N (n+m) (Xa8 p q)):=by
 refine EnW Tryz.func194 fun _ _ _ _=>?_
 refine Dw rfl ?_
 refine Cn [] rfl (Ycn W hu.x hs.x hn hm) fun v hv=>?_
 obtain ⟨z,rfl,hz⟩:=hv
 refine Cn [] rfl (Ycn W hu.y hs.y hn hm) fun v hv=>?_
 obtain ⟨w,rfl,hw⟩:=hv
 exact Rw [] [(1000001,cal)] rfl (.one (.rf rfl) rfl rfl) ⟨rfl,⟨z,w⟩,rfl,hz,hw⟩
theorem Xo5 (W : Wn G S N) (hu : Gv G S N n u p) (hn : n+n≤190) : CN0 193 [.ptr 1000001 0,.d (dV u)] [(1000001,cal)] (OnG G S N (n+n+(n+n)) (Xb2 G p p)):=by
 refine EnW Tryz.func193 fun _ _ _ _=>?_
 refine Dw rfl ?_
 refine Cn [] rfl (Yho W hu.x hu.x (by omega) (by omega)) fun v hv=>?_
 obtain ⟨z,rfl,hz⟩:=hv
 refine Cn [] rfl (Yho W hu.y hu.y (by omega) (by omega)) fun v hv=>?_
 obtain ⟨w,rfl,hw⟩:=hv
 refine Cn [] rfl (Ymd W hz hw hn hn) fun v hv=>?_
 obtain ⟨z,rfl,hz⟩:=hv
 exact Rw [] [(1000001,cal)] rfl (.one (.rf rfl) rfl rfl) ⟨rfl,z,rfl,hz⟩
abbrev dK (u : Vn) (z : Nm) : D:=.st (.pr (dV u) (dN z))
theorem Around_g (W : Wn G S N) (hu : Gv G S N n u p) (hs : Gv G S N m s q) (hx : P19.Trm u.x) (hy : P19.Trm u.y) (h2 : n+m+(n+m)≤190) (hp : p≠q) : C0 113 [.d (dV u),.d (dV s)] (fun r=>∃ z,r=.tup (.pr (.d (dK u z)) (.d (.int .i64 0)))∧Gd G S N (n+m+(n+m)+(n+m+(n+m))) z (Xb2 G (Xa8 q p) (Xa8 q p))):=by
 refine En Tryz.func113 fun _ _ _=>?_
 refine Ce rfl (P13.Equal_g W hu hs (by omega) (by omega)) ?_
 refine No rfl hp ?_
 refine Dw rfl ?_
 refine Ce rfl hx ?_
 refine Ce rfl hy ?_
 refine Cn [(1000001,13)] rfl (Xun W hs hu (by omega) (by omega)) fun v hv=>?_
 obtain ⟨v,rfl,hv⟩:=hv
 refine Cn [(1000001,13)] rfl (Xo5 W hv (by omega)) fun v hv=>?_
 obtain ⟨z,rfl,hz⟩:=hv
 refine No rfl (by decide) ?_
 exact Rt rfl (.tup (.cons (.rf rfl) Xa3)) ⟨z,rfl,hz.mono (by omega)⟩
end
end Go.Proofs.YtpgcfjpkilabfaaGreatDoor.P15
namespace Go.Proofs.YtpgcfjpkilabfaaGreatDoor
open Go Go.Vm Go.Num Go.Tow
structure Cv where
 arc : Bool
 A : Vn
 B : Vn
 C : Vn
 cw : Bool
abbrev dC (c : Cv) : D:=.st (.pr (.bool c.arc) (.pr (dV c.A) (.pr (dV c.B) (.pr (dV c.C) (.bool c.cw)))))
abbrev Xes (l : List Cv) : D:=.sl 14 (l.map dC)
section
variable {K : Nat} {G : Tw K} {S : List (Tow.El K)} {N : List Nm} {n m k : Nat} {x y z : Nm} {a b v w : Tow.El K} {u s t : Vn} {p q r : V2 K}
namespace P15
theorem Yfe (W : Wn G S N) (hu : Gv G S N n u p) (hz : Gd G S N k z w) (hs : Gv G S N m s q) (h2 : n+m+(n+m)+(n+m+(n+m))≤190) (hk : k≤190) : C0 213 [.d (dK u z),.d (dV s)] (OpG G S N (m+n+(m+n)+(m+n+(m+n))+k) (Tow.add K (Xb2 G (Xa8 q p) (Xa8 q p)) (Tow.neg K w))):=by
 refine En Tryz.func213 fun _ _ _=>?_
 refine Dw rfl ?_
 refine Cn [(1000001,9)] rfl (Xun W hs hu (by omega) (by omega)) fun v hv=>?_
 obtain ⟨v,rfl,hv⟩:=hv
 refine Cn [(1000001,9)] rfl (Xo5 W hv (by omega)) fun v hv=>?_
 obtain ⟨z,rfl,hz1⟩:=hv
 refine Cn [(1000001,9)] rfl (Ycn W hz1 hz (by omega) hk) fun v hv=>?_
 obtain ⟨z,rfl,hz2⟩:=hv
 refine No rfl (by decide) ?_
 exact Rt rfl (.tup (.cons (.rf rfl) Xa3)) ⟨z,rfl,hz2⟩
theorem Side_g (W : Wn G S N) (hu : Gv G S N n u p) (hz : Gd G S N k z w) (hs : Gv G S N m s q) (h2 : n+m+(n+m)+(n+m+(n+m))≤190) (hk : k≤190) : C0 121 [.d (dK u z),.d (dV s)] (·=.tup (.pr (.d (.int .i64 (sgn K G (Tow.add K (Xb2 G (Xa8 q p) (Xa8 q p)) (Tow.neg K w))))) (.d (.int .i64 0)))):=by
 refine En Tryz.func121 fun _ _ _=>?_
 refine Ca rfl (Yfe W hu hz hs h2 hk) fun v hv=>?_
 obtain ⟨z,rfl,hz⟩:=hv
 refine No rfl (by decide) ?_
 refine Ce rfl (P9.Sign_g W hz (by omega)) ?_
 exact RTt rfl (.cons (.rf rfl) Xa3)
end P15
namespace P47
theorem Valid_seg {c : Cv} (W : Wn G S N) (ha : c.arc=false) (hu : Gv G S N n c.A p) (hs : Gv G S N m c.B q) (hn : n≤190) (hm : m≤190) : C0 53 [.d (dC c)] (·=.b (dc (p≠q))):=by
 obtain ⟨_,A,B,C,cw⟩:=c
 obtain rfl : _=false:=ha
 refine En Tryz.func53 fun _ _ _=>?_
 refine Yes rfl nofun ?_
 refine Ce rfl (P13.Equal_g W hu hs hn hm) ?_
 exact R1 rfl (.bp (by rw [Xbb,Xan]))
theorem around_g {c : Cv} (W : Wn G S N) (hu : Gv G S N n c.C p) (hs : Gv G S N m c.A q) (hx : P19.Trm c.C.x) (hy : P19.Trm c.C.y) (h2 : n+m+(n+m)≤190) (hp : p≠q) : C0 120 [.d (dC c)] (fun r=>∃ z,r=.tup (.pr (.d (P15.dK c.C z)) (.d (.int .i64 0)))∧Gd G S N (n+m+(n+m)+(n+m+(n+m))) z (Xb2 G (Xa8 q p) (Xa8 q p))):=by
 refine En Tryz.func120 fun _ _ _=>?_
 refine Ca rfl (P15.Around_g W hu hs hx hy h2 hp) fun v hv=>?_
 obtain ⟨z,rfl,hz⟩:=hv
 exact Rt rfl (.tup (.cons (.rf rfl) Xa3)) ⟨z,rfl,hz⟩
theorem full_g {c : Cv} (W : Wn G S N) (ha : c.arc=true) (hu : Gv G S N n c.A p) (hs : Gv G S N m c.B q) (hn : n≤190) (hm : m≤190) : C0 122 [.d (dC c)] (·=.b (dc (p=q))):=by
 obtain ⟨_,A,B,C,cw⟩:=c
 obtain rfl : _=true:=ha
 refine En Tryz.func122 fun _ _ _=>?_
 refine Yes rfl rfl ?_
 refine Ce rfl (P13.Equal_g W hu hs hn hm) ?_
 exact R0
end P47
end
end Go.Proofs.YtpgcfjpkilabfaaGreatDoor

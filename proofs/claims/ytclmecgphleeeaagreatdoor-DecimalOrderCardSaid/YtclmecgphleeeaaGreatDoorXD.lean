/- part 4 -/
import Derived.Test.YtclmecgphleeeaaGreatDoorXC
import Derived.Test.YtclmecgphleeeaaGreatDoorCards
import Derived.Test.YtclmecgphleeeaaGreatDoorTie
import Derived.Deep.DeepHandedRow
import Derived.Lib.LaidTab
import Derived.MakeChecks
import Derived.Stop.LaidErr
set_option linter.unusedVariables false
set_option linter.unusedSimpArgs false
set_option maxRecDepth 100000
namespace Go.Proofs.YtclmecgphleeeaaGreatDoor.R6
open Go Go.Vm Go.Num Go.Tow Go.Proofs.YtclmecgphleeeaaGreatDoor
theorem Ydq {x y : Rat} {p q : Nat} (hx : Qs p x) (hy : Qs q y) (h : p+q+1≤8796093022208) : C0 60 [.d (dts []),.d (dqs [x]),.d (dqs [y])] (·=.lit 4 [dq (x*y)]):=by
 refine En Tryz.func60 fun _ _ _=>?_
 refine Yes rfl rfl ?_
 refine Dw rfl ?_
 refine Ix 0 rfl (u:=dq x) rfl ?_
 refine Ix 0 rfl (u:=dq y) rfl ?_
 refine Ce rfl (R2.Mul_ok hx hy h) ?_
 exact R0
theorem Xyh {k : Nat} (muld : ∀ {r s s' : Nat} {t : Tw k} {a b : Tow.El k},TS r k t→Sz s (toL k a)→Sz s' (toL k b)→k≤16→s+s'+cB r k≤4398046511104→C0 60 [.d (dt t),.d (de a),.d (de b)] (·=.d (de (mul k t a b))))
 (ihk : ∀ {r s s' : Nat} {t : Tw k} {a b : Tow.El k},TS r k t→Sz s (toL k a)→Sz s' (toL k b)→k≤16→s+s'+cB r k≤4398046511104→C0 60 [.d (dt t),.d (de a),.d (de b)] (·=.lit 4 ((toL k (mul k t a b)).map dq))∨CG0 60 [.d (dt t),.d (de a),.d (de b)] 4 ((toL k (mul k t a b)).map dq))
 {r s s' : Nat} {t : Tw (k+1)} {a b : Tow.El (k+1)} (hT : TS r (k+1) t) (ha : Sz s (toL (k+1) a)) (hb : Sz s' (toL (k+1) b)) (hk : k+1≤16) (hs : s+s'+cB r (k+1)≤4398046511104) : CG0 60 [.d (dt t),.d (de a),.d (de b)] 4 ((toL (k+1) (mul (k+1) t a b)).map dq):=by
 have hp:=p16 hk
 have hp1 : 2 ^ (k+1)=2*2 ^ k:=by rw [W0p];omega
 have h0:=W0t k
 have hcB : cB r (k+1)=2*cB r k+r+1:=rfl
 have hax : Sz s (toL k a.1):=Sz.left ha
 have hay : Sz s (toL k a.2):=Sz.right ha
 have hbx : Sz s' (toL k b.1):=Sz.left hb
 have hby : Sz s' (toL k b.2):=Sz.right hb
 have hlen:=Xab k
 have L:=Xa3 k t.1
 have m1 : a.2=zero k→toL (k+1) (mul (k+1) t a b)=toL k (mul k t.1 a.1 b.1)++toL k (mul k t.1 a.1 b.2):=fun e=>by
  show toL k (Tow.add k _ (mul k t.1 (mul k t.1 a.2 b.2) t.2))++toL k (Tow.add k _ (mul k t.1 a.2 b.1))=_
  rw [e,L.zm,L.zm,L.zm,L.az,L.az]
 have m2 : b.2=zero k→toL (k+1) (mul (k+1) t a b)=toL k (mul k t.1 a.1 b.1)++toL k (mul k t.1 a.2 b.1):=fun e=>by
  show toL k (Tow.add k _ (mul k t.1 (mul k t.1 a.2 b.2) t.2))++toL k (Tow.add k (mul k t.1 a.1 b.2) _)=_
  rw [e,L.mz,L.zm,L.mz,L.az,L.za]
 have m12 : a.2=zero k→b.2=zero k→toL (k+1) (mul (k+1) t a b)=toL k (mul k t.1 a.1 b.1)++toL k (zero k):=fun e e2=>by rw [m1 e,e2,L.mz]
 have la : ((toL k a.1++toL k a.2).map dq).length=2*2 ^ k:=by rw [lq,W0c,hlen,hlen];omega
 have lb : ((toL k b.1++toL k b.2).map dq).length=2*2 ^ k:=by rw [lq,W0c,hlen,hlen];omega
 have ta : ((toL k a.1++toL k a.2).map dq).take (2 ^ k)=(toL k a.1).map dq:=by rw [←W2g,←hlen a.1,W7d]
 have da : ((toL k a.1++toL k a.2).map dq).drop (2 ^ k)=(toL k a.2).map dq:=by rw [←W5u,←hlen a.1,W7u]
 have tb : ((toL k b.1++toL k b.2).map dq).take (2 ^ k)=(toL k b.1).map dq:=by rw [←W2g,←hlen b.1,W7d]
 have db : ((toL k b.1++toL k b.2).map dq).drop (2 ^ k)=(toL k b.2).map dq:=by rw [←W5u,←hlen b.1,W7u]
 have lt2 : ((toT k t.1++[toL k t.2]).map dqs).length=k+1:=by rw [lt',W0c,Xaa];rfl
 have tt : ((toT k t.1++[toL k t.2]).map dqs).take k=(toT k t.1).map dqs:=by rw [←W2g,W6f (Xaa k t.1)]
 have tu : ((toT k t.1++[toL k t.2]).map dqs)[k]?=some (de t.2):=by rw [W1s,W0u (by rw [Xaa];exact W0a _),Xaa,W2w];rfl
 refine EnW Tryz.func60 fun _ _ _ _=>?_
 refine No rfl (by show ¬ ((((toT k t.1++[toL k t.2]).map dqs).length : Nat) : Int)=0;omega) ?_
 refine Ar (2 ^ k : Nat) rfl ?_ (Yh8 la (by omega))
 refine Dw rfl ?_
 refine Ar k rfl ?_ (wr (by show ((((toT k t.1++[toL k t.2]).map dqs).length : Nat) : Int) - 1=k;omega) (by simp only [inK];omega))
 refine Tk k ((toT k t.1).map dqs) rfl rfl (by show k≤((toT k t.1++[toL k t.2]).map dqs).length;omega) tt ?_
 refine Ar k rfl ?_ (wr (by show ((((toT k t.1++[toL k t.2]).map dqs).length : Nat) : Int) - 1=k;omega) (by simp only [inK];omega))
 refine Ix k rfl tu ?_
 refine Dw rfl ?_
 refine Dp (2 ^ k) ((toL k a.2).map dq) rfl rfl (by show _≤((toL k a.1++toL k a.2).map dq).length;omega) da ?_
 refine Ce rfl (Zero_ok (l:=toL k a.2) (by rw [hlen];omega)) ?_
 refine Dp (2 ^ k) ((toL k b.2).map dq) rfl rfl (by show _≤((toL k b.1++toL k b.2).map dq).length;omega) db ?_
 refine Ce rfl (Zero_ok (l:=toL k b.2) (by rw [hlen];omega)) ?_
 refine Dw rfl ?_
 refine Tk (2 ^ k) ((toL k a.1).map dq) rfl rfl (by show _≤((toL k a.1++toL k a.2).map dq).length;omega) ta ?_
 refine Tk (2 ^ k) ((toL k b.1).map dq) rfl rfl (by show _≤((toL k b.1++toL k b.2).map dq).length;omega) tb ?_
 rcases ihk hT.1 hax hbx (by omega) (by omega) with hc | hc
 · refine Ce rfl hc ?_
   refine By rfl (fun h1=>?_) fun h1=>?_
   · have ea:=(Xap k a.2).2 h1
     refine By rfl (fun h2=>?_) fun h2=>?_
     · have eb:=(Xap k b.2).2 h2
       refine Ce rfl (R2.FromInt_ok (z:=0) (by decide)) ?_
       refine Ce rfl (FromRat_ok (t:=toT k t.1) (x:=0) (by rw [Xaa];omega)) ?_
       refine ApL ((toL (k+1) (mul (k+1) t a b)).map dq) rfl (by rw [m12 ea eb,←W2z,Xaa];congr 2;rw [Xbn,←W4m,show 2 ^ k - 1+1=2 ^ k by omega]) (by simp only [lq,W0s,W1y,hlen];omega) (by rw [lq,Xab];omega) ?_
       refine Og 6 rfl rfl ?_
       exact Rw [(62,1000000)] [(1000000,.tok ((toL (k+1) (mul (k+1) t a b)).map dq).length 4)] rfl (.one (.rf rfl) rfl rfl) ⟨_,rfl,rfl,rfl⟩
     · refine Yes rfl h1 ?_
       refine Dw rfl ?_
       refine Tk (2 ^ k) ((toL k a.1).map dq) rfl rfl (by show _≤((toL k a.1++toL k a.2).map dq).length;omega) ta ?_
       refine Dp (2 ^ k) ((toL k b.2).map dq) rfl rfl (by show _≤((toL k b.1++toL k b.2).map dq).length;omega) db ?_
       refine Ce rfl (muld hT.1 hax hby (by omega) (by omega)) ?_
       refine ApL ((toL (k+1) (mul (k+1) t a b)).map dq) rfl (by rw [m1 ea,←W2z]) (by simp only [lq,W0s,W1y,hlen];omega) (by rw [lq,Xab];omega) ?_
       refine Og 6 rfl rfl ?_
       exact Rw [(73,1000000)] [(1000000,.tok ((toL (k+1) (mul (k+1) t a b)).map dq).length 4)] rfl (.one (.rf rfl) rfl rfl) ⟨_,rfl,rfl,rfl⟩
   · refine No rfl h1 ?_
     refine By rfl (fun h2=>?_) fun h2=>?_
     · have eb:=(Xap k b.2).2 h2
       refine Dw rfl ?_
       refine Dp (2 ^ k) ((toL k a.2).map dq) rfl rfl (by show _≤((toL k a.1++toL k a.2).map dq).length;omega) da ?_
       refine Tk (2 ^ k) ((toL k b.1).map dq) rfl rfl (by show _≤((toL k b.1++toL k b.2).map dq).length;omega) tb ?_
       refine Ce rfl (muld hT.1 hay hbx (by omega) (by omega)) ?_
       refine ApL ((toL (k+1) (mul (k+1) t a b)).map dq) rfl (by rw [m2 eb,←W2z]) (by simp only [lq,W0s,W1y,hlen];omega) (by rw [lq,Xab];omega) ?_
       refine Og 6 rfl rfl ?_
       exact Rw [(84,1000000)] [(1000000,.tok ((toL (k+1) (mul (k+1) t a b)).map dq).length 4)] rfl (.one (.rf rfl) rfl rfl) ⟨_,rfl,rfl,rfl⟩
     · refine Dw rfl ?_
       refine Dp (2 ^ k) ((toL k a.2).map dq) rfl rfl (by show _≤((toL k a.1++toL k a.2).map dq).length;omega) da ?_
       refine Dp (2 ^ k) ((toL k b.2).map dq) rfl rfl (by show _≤((toL k b.1++toL k b.2).map dq).length;omega) db ?_
       refine Ce rfl (muld hT.1 hay hby (by omega) (by omega)) ?_
       refine Ce rfl (muld hT.1 (hay.mul hT.1 hby) hT.2 (by omega) (by omega)) ?_
       refine Cg rfl (Add_ok (by rw [hlen,hlen]) (by rw [hlen];omega) (hax.mul hT.1 hbx).ps ((hay.mul hT.1 hby).mul hT.1 hT.2).ps (by omega)) ?_
       refine Dw rfl ?_
       refine Tk (2 ^ k) ((toL k a.1).map dq) rfl rfl (by show _≤((toL k a.1++toL k a.2).map dq).length;omega) ta ?_
       refine Dp (2 ^ k) ((toL k b.2).map dq) rfl rfl (by show _≤((toL k b.1++toL k b.2).map dq).length;omega) db ?_
       refine Ce rfl (muld hT.1 hax hby (by omega) (by omega)) ?_
       refine Dp (2 ^ k) ((toL k a.2).map dq) rfl rfl (by show _≤((toL k a.1++toL k a.2).map dq).length;omega) da ?_
       refine Tk (2 ^ k) ((toL k b.1).map dq) rfl rfl (by show _≤((toL k b.1++toL k b.2).map dq).length;omega) tb ?_
       refine Ce rfl (muld hT.1 hay hbx (by omega) (by omega)) ?_
       refine Ce rfl (Add_el (by omega) (hax.mul hT.1 hby).ps (hay.mul hT.1 hbx).ps (by omega)) ?_
       refine ApG ((toL (k+1) (mul (k+1) t a b)).map dq) rfl (by rw [←W2z,←Xaz];rfl) (by rw [lq,Xab];omega) ?_
       exact Rw [(118,1000000)] [(1000000,.tok ((toL (k+1) (mul (k+1) t a b)).map dq).length 4)] rfl (.one (.rf rfl) rfl rfl) ⟨_,rfl,rfl,rfl⟩
 · refine Cg rfl hc ?_
   refine By rfl (fun h1=>?_) fun h1=>?_
   · have ea:=(Xap k a.2).2 h1
     refine By rfl (fun h2=>?_) fun h2=>?_
     · have eb:=(Xap k b.2).2 h2
       refine Ce rfl (R2.FromInt_ok (z:=0) (by decide)) ?_
       refine Ce rfl (FromRat_ok (t:=toT k t.1) (x:=0) (by rw [Xaa];omega)) ?_
       refine ApG ((toL (k+1) (mul (k+1) t a b)).map dq) rfl (by rw [m12 ea eb,←W2z,Xaa];congr 2;rw [Xbn,←W4m,show 2 ^ k - 1+1=2 ^ k by omega]) (by rw [lq,Xab];omega) ?_
       exact Rw [(62,1000000)] [(1000000,.tok ((toL (k+1) (mul (k+1) t a b)).map dq).length 4)] rfl (.one (.rf rfl) rfl rfl) ⟨_,rfl,rfl,rfl⟩
     · refine Yes rfl h1 ?_
       refine Dw rfl ?_
       refine Tk (2 ^ k) ((toL k a.1).map dq) rfl rfl (by show _≤((toL k a.1++toL k a.2).map dq).length;omega) ta ?_
       refine Dp (2 ^ k) ((toL k b.2).map dq) rfl rfl (by show _≤((toL k b.1++toL k b.2).map dq).length;omega) db ?_
       refine Ce rfl (muld hT.1 hax hby (by omega) (by omega)) ?_
       refine ApG ((toL (k+1) (mul (k+1) t a b)).map dq) rfl (by rw [m1 ea,←W2z]) (by rw [lq,Xab];omega) ?_
       exact Rw [(73,1000000)] [(1000000,.tok ((toL (k+1) (mul (k+1) t a b)).map dq).length 4)] rfl (.one (.rf rfl) rfl rfl) ⟨_,rfl,rfl,rfl⟩
   · refine No rfl h1 ?_
     refine By rfl (fun h2=>?_) fun h2=>?_
     · have eb:=(Xap k b.2).2 h2
       refine Dw rfl ?_
       refine Dp (2 ^ k) ((toL k a.2).map dq) rfl rfl (by show _≤((toL k a.1++toL k a.2).map dq).length;omega) da ?_
       refine Tk (2 ^ k) ((toL k b.1).map dq) rfl rfl (by show _≤((toL k b.1++toL k b.2).map dq).length;omega) tb ?_
       refine Ce rfl (muld hT.1 hay hbx (by omega) (by omega)) ?_
       refine ApG ((toL (k+1) (mul (k+1) t a b)).map dq) rfl (by rw [m2 eb,←W2z]) (by rw [lq,Xab];omega) ?_
       exact Rw [(84,1000000)] [(1000000,.tok ((toL (k+1) (mul (k+1) t a b)).map dq).length 4)] rfl (.one (.rf rfl) rfl rfl) ⟨_,rfl,rfl,rfl⟩
     · refine Dw rfl ?_
       refine Dp (2 ^ k) ((toL k a.2).map dq) rfl rfl (by show _≤((toL k a.1++toL k a.2).map dq).length;omega) da ?_
       refine Dp (2 ^ k) ((toL k b.2).map dq) rfl rfl (by show _≤((toL k b.1++toL k b.2).map dq).length;omega) db ?_
       refine Ce rfl (muld hT.1 hay hby (by omega) (by omega)) ?_
       refine Ce rfl (muld hT.1 (hay.mul hT.1 hby) hT.2 (by omega) (by omega)) ?_
       refine Cg rfl (Add_ok (by rw [hlen,hlen]) (by rw [hlen];omega) (hax.mul hT.1 hbx).ps ((hay.mul hT.1 hby).mul hT.1 hT.2).ps (by omega)) ?_
       refine Dw rfl ?_
       refine Tk (2 ^ k) ((toL k a.1).map dq) rfl rfl (by show _≤((toL k a.1++toL k a.2).map dq).length;omega) ta ?_
       refine Dp (2 ^ k) ((toL k b.2).map dq) rfl rfl (by show _≤((toL k b.1++toL k b.2).map dq).length;omega) db ?_
       refine Ce rfl (muld hT.1 hax hby (by omega) (by omega)) ?_
       refine Dp (2 ^ k) ((toL k a.2).map dq) rfl rfl (by show _≤((toL k a.1++toL k a.2).map dq).length;omega) da ?_
       refine Tk (2 ^ k) ((toL k b.1).map dq) rfl rfl (by show _≤((toL k b.1++toL k b.2).map dq).length;omega) tb ?_
       refine Ce rfl (muld hT.1 hay hbx (by omega) (by omega)) ?_
       refine Ce rfl (Add_el (by omega) (hax.mul hT.1 hby).ps (hay.mul hT.1 hbx).ps (by omega)) ?_
       refine ApG ((toL (k+1) (mul (k+1) t a b)).map dq) rfl (by rw [←W2z,←Xaz];rfl) (by rw [lq,Xab];omega) ?_
       exact Rw [(118,1000000)] [(1000000,.tok ((toL (k+1) (mul (k+1) t a b)).map dq).length 4)] rfl (.one (.rf rfl) rfl rfl) ⟨_,rfl,rfl,rfl⟩
theorem Xp9 : ∀ {k : Nat} {r s s' : Nat} {t : Tw k} {a b : Tow.El k},TS r k t→Sz s (toL k a)→Sz s' (toL k b)→k≤16→s+s'+cB r k≤4398046511104→C0 60 [.d (dt t),.d (de a),.d (de b)] (·=.lit 4 ((toL k (mul k t a b)).map dq))∨CG0 60 [.d (dt t),.d (de a),.d (de b)] 4 ((toL k (mul k t a b)).map dq):=by
 intro k
 induction k with
 | zero=>intro r s s' t a b hT ha hb hk hs;exact .inl (Ydq (ha.qs (W0g.2 rfl)) (hb.qs (W0g.2 rfl)) (by omega))
 | succ k ih=>intro r s s' t a b hT ha hb hk hs;exact .inr (Xyh (fun hT ha hb hk hs=>(ih hT ha hb hk hs).elim C.lit (fun h=>CG.data h)) ih hT ha hb hk hs)
theorem Mul_el {k r s s' : Nat} {t : Tw k} {a b : Tow.El k} (hT : TS r k t) (ha : Sz s (toL k a)) (hb : Sz s' (toL k b)) (hk : k≤16) (hs : s+s'+cB r k≤4398046511104) : C0 60 [.d (dt t),.d (de a),.d (de b)] (·=.d (de (mul k t a b))):=(Xp9 hT ha hb hk hs).elim C.lit (fun h=>CG.data h)
end Go.Proofs.YtclmecgphleeeaaGreatDoor.R6
namespace Go.Tow
section
inductive Pe where
 | v (i : Nat)
 | z
 | o
 | add (a b : Pe)
 | mul (a b : Pe)
 | neg (a : Pe)
abbrev Xnw:=List (Bool × List Nat)
def ltM : List Nat→List Nat→Bool
 | [],[]=>false
 | [],_::_=>true
 | _::_,[]=>false
 | a::r,b::s=>match Nat.blt a b with
  | true=>true
  | false=>match Nat.beq a b with
   | true=>ltM r s
   | false=>false
def Ygd (i : Nat) : List Nat→List Nat
 | []=>[i]
 | j::r=>match Nat.ble i j with
  | true=>i::j::r
  | false=>j::Ygd i r
def Ycc (t : Bool × List Nat) : Xnw→Xnw
 | []=>[t]
 | h::r=>if t.2=h.2 then (if t.1=h.1 then t::h::r else r) else match ltM t.2 h.2 with
  | true=>t::h::r
  | false=>h::Ycc t r
def Ybx (m n : List Nat) : List Nat:=m.foldr Ygd n
def Yhp (p q : Xnw) : Xnw:=p.foldr Ycc q
def Ydy (t : Bool × List Nat) (q acc : Xnw) : Xnw:=q.foldr (fun u a=>Ycc (t.1 != u.1,Ybx t.2 u.2) a) acc
def Yfu (p q : Xnw) : Xnw:=p.foldr (fun t acc=>Ydy t q acc) []
def nrm : Pe→Xnw
 | .v i=>[(false,[i])]
 | .z=>[]
 | .o=>[(false,[])]
 | .add a b=>Yhp (nrm a) (nrm b)
 | .mul a b=>Yfu (nrm a) (nrm b)
 | .neg a=>(nrm a).map fun t=>(!t.1,t.2)
def Laws.ev {α : Type} {add mul : α→α→α} {neg : α→α} {zero one : α} (L : Laws add mul neg zero one) (xs : List α) : Pe→α
 | .v i=>xs.getD i zero
 | .z=>zero
 | .o=>one
 | .add a b=>add (Laws.ev L xs a) (Laws.ev L xs b)
 | .mul a b=>mul (Laws.ev L xs a) (Laws.ev L xs b)
 | .neg a=>neg (Laws.ev L xs a)
def Laws.eM {α : Type} {add mul : α→α→α} {neg : α→α} {zero one : α} (L : Laws add mul neg zero one) (xs : List α) : List Nat→α
 | []=>one
 | i::r=>mul (xs.getD i zero) (Laws.eM L xs r)
def Laws.eT {α : Type} {add mul : α→α→α} {neg : α→α} {zero one : α} (L : Laws add mul neg zero one) (xs : List α) (t : Bool × List Nat) : α:=match t.1 with
 | true=>neg (L.eM xs t.2)
 | false=>L.eM xs t.2
def Laws.eP {α : Type} {add mul : α→α→α} {neg : α→α} {zero one : α} (L : Laws add mul neg zero one) (xs : List α) : Xnw→α
 | []=>zero
 | t::r=>add (L.eT xs t) (Laws.eP L xs r)
section
variable {α : Type} {add mul : α→α→α} {neg : α→α} {zero one : α} (L : Laws add mul neg zero one) (xs : List α)
include L
theorem Laws.eM_ins (i : Nat) (m : List Nat) : L.eM xs (Ygd i m)=mul (xs.getD i zero) (L.eM xs m):=by
 induction m with
 | nil=>rfl
 | cons j r ih =>
  simp only [Ygd]
  split
  · rfl
  · simp only [eM];rw [ih,L.mlc]
theorem Laws.eM_mul (m n : List Nat) : L.eM xs (Ybx m n)=mul (L.eM xs m) (L.eM xs n):=by
 induction m with
 | nil=>simp only [Ybx,W7v,eM,L.om]
 | cons i m ih =>
  have : Ybx (i::m) n=Ygd i (Ybx m n):=rfl
  rw [this,L.eM_ins,ih,←L.ma];rfl
theorem Laws.eP_ins (t : Bool × List Nat) (p : Xnw) : L.eP xs (Ycc t p)=add (L.eT xs t) (L.eP xs p):=by
 induction p with
 | nil=>rfl
 | cons h r ih =>
  simp only [Ycc]
  split
  · rename_i h1
    split
    · rfl
    · rename_i h2
      obtain ⟨s,m⟩:=t
      obtain ⟨s',m'⟩:=h
      have h1' : m=m':=h1
      subst h1'
      cases s <;> cases s' <;> first | exact absurd rfl h2 | skip
      · simp only [eP,eT];rw [←L.aa,L.an,L.za]
      · simp only [eP,eT];rw [←L.aa,L.na,L.za]
  · split
    · rfl
    · simp only [eP];rw [ih,L.alc]
theorem Laws.eP_add (p q : Xnw) : L.eP xs (Yhp p q)=add (L.eP xs p) (L.eP xs q):=by
 induction p with
 | nil=>simp only [Yhp,W7v,eP,L.za]
 | cons t p ih =>
  have : Yhp (t::p) q=Ycc t (Yhp p q):=rfl
  rw [this,L.eP_ins,ih];simp only [eP];rw [L.aa]
theorem Laws.eT_mul (t u : Bool × List Nat) : L.eT xs (t.1 != u.1,Ybx t.2 u.2)=mul (L.eT xs t) (L.eT xs u):=by
 obtain ⟨s,m⟩:=t
 obtain ⟨s',m'⟩:=u
 cases s <;> cases s' <;> simp [eT,L.eM_mul,L.mn,L.nm,L.nn]
theorem Laws.eP_mulT (t : Bool × List Nat) (q acc : Xnw) : L.eP xs (Ydy t q acc)=add (mul (L.eT xs t) (L.eP xs q)) (L.eP xs acc):=by
 induction q with
 | nil=>simp only [Ydy,W7v,eP,L.mz,L.za]
 | cons u q ih =>
  have : Ydy t (u::q) acc=Ycc (t.1 != u.1,Ybx t.2 u.2) (Ydy t q acc):=rfl
  rw [this,L.eP_ins,ih,L.eT_mul];simp only [eP];rw [L.md,L.aa]
theorem Laws.eP_mul (p q : Xnw) : L.eP xs (Yfu p q)=mul (L.eP xs p) (L.eP xs q):=by
 induction p with
 | nil=>simp only [Yfu,W7v,eP,L.zm]
 | cons t p ih =>
  have : Yfu (t::p) q=Ydy t q (Yfu p q):=rfl
  rw [this,L.eP_mulT,ih];simp only [eP];rw [L.dm]
theorem Laws.eP_neg (p : Xnw) : L.eP xs (p.map fun t=>(!t.1,t.2))=neg (L.eP xs p):=by
 induction p with
 | nil=>simp only [List.map_nil,eP,L.nz]
 | cons t p ih =>
  obtain ⟨s,m⟩:=t
  simp only [W4k,eP,L.nd,ih]
  cases s <;> simp [eT,L.nn]
theorem Laws.ev_nrm (e : Pe) : L.ev xs e=L.eP xs (nrm e):=by
 induction e with
 | v i=>simp only [nrm,ev,eP,eT,eM,L.mo,L.az]
 | z=>rfl
 | o=>simp only [nrm,ev,eP,eT,eM,L.az]
 | add a b ha hb=>simp only [nrm,ev,L.eP_add,ha,hb]
 | mul a b ha hb=>simp only [nrm,ev,L.eP_mul,ha,hb]
 | neg a ha=>simp only [nrm,ev,L.eP_neg,ha]
theorem Laws.req (a b : Pe) (h : nrm a=nrm b) : L.ev xs a=L.ev xs b:=by rw [L.ev_nrm,L.ev_nrm,h]
end
end
section
structure Sgn {α : Type} (add mul : α→α→α) (neg : α→α) (one : α) (σ : α→Int) : Prop where
 tri : ∀ a,σ a=1∨σ a=0∨σ a=-1
 sn : ∀ a,σ (neg a)=- σ a
 sm : ∀ a b,σ (mul a b)=σ a*σ b
 sa : ∀ a b,0≤σ a→0≤σ b→0≤σ (add a b)
 sp : ∀ a b,σ a=1→0≤σ b→σ (add a b)=1
 s1 : σ one=1
theorem Xft {X : Int} (h : X=1∨X=0∨X=-1) : 0≤X*X∧(X≠0→X*X=1)∧(X=0→X*X=0):=by
 rcases h with rfl | rfl | rfl <;> decide
section
variable {α : Type} {add mul : α→α→α} {neg : α→α} {zero one : α} {σ : α→Int} (L : Laws add mul neg zero one) (S : Sgn add mul neg one σ)
include L S
theorem Sgn.s0 : σ zero=0:=by
 have:=S.sn zero
 rw [L.nz] at this
 omega
theorem Sgn.add0 {a b : α} (ha : σ a=0) : σ (add a b)=σ b:=by
 rcases S.tri b with hb | hb | hb
 · rw [hb,L.ac];exact S.sp b a hb (by omega)
 · have h1:=S.sa a b (by omega) (by omega)
   have h2:=S.sa (neg a) (neg b) (by rw [S.sn];omega) (by rw [S.sn];omega)
   rw [←L.nd,S.sn] at h2
   omega
 · have h2:=S.sp (neg b) (neg a) (by rw [S.sn];omega) (by rw [S.sn];omega)
   rw [L.ac,←L.nd,S.sn] at h2
   omega
theorem Sgn.add0' {a b : α} (hb : σ b=0) : σ (add a b)=σ a:=by rw [L.ac,S.add0 L hb]
theorem Sgn.np {a b : α} (ha : σ a=-1) (hb : σ b≤0) : σ (add a b)=-1:=by
 have h2:=S.sp (neg a) (neg b) (by rw [S.sn];omega) (by rw [S.sn];omega)
 rw [←L.nd,S.sn] at h2
 omega
theorem Sgn.same {a b : α} (h : σ a=σ b) : σ (add a b)=σ a:=by
 rcases S.tri a with ha | ha | ha
 · rw [ha];exact S.sp a b ha (by omega)
 · rw [S.add0 L ha,←h]
 · rw [ha];exact S.np L ha (by omega)
theorem Sgn.eqv {a b : α} (h : σ (add a (neg b))=0) : σ a=σ b:=by
 have e : a=add (add a (neg b)) b:=(Laws.req L [a,b] (.v 0) (.add (.add (.v 0) (.neg (.v 1))) (.v 1)) (by decide +kernel))
 rw [e,S.add0 L h]
theorem Sgn.dom {a b : α} (h : σ (add (mul a a) (neg (mul b b)))=1) : σ (add a b)=σ a:=by
 have e : add (mul a a) (neg (mul b b))=mul (add a b) (add a (neg b)):=(Laws.req L [a,b] (.add (.mul (.v 0) (.v 0)) (.neg (.mul (.v 1) (.v 1)))) (.mul (.add (.v 0) (.v 1)) (.add (.v 0) (.neg (.v 1)))) (by decide +kernel))
 have e2 : add a a=add (add a b) (add a (neg b)):=(Laws.req L [a,b] (.add (.v 0) (.v 0)) (.add (.add (.v 0) (.v 1)) (.add (.v 0) (.neg (.v 1)))) (by decide +kernel))
 rw [e,S.sm] at h
 have h2 : σ (add a a)=σ a:=S.same L rfl
 rw [e2] at h2
 rcases S.tri (add a b) with h3 | h3 | h3 <;> rcases S.tri (add a (neg b)) with h4 | h4 | h4 <;> rw [h3,h4] at h <;> first | (exact absurd h (by decide)) | skip
 · rw [←h2,h3];exact (S.sp _ _ h3 (by omega)).symm
 · rw [←h2,h3];exact (S.np L h3 (by omega)).symm
theorem Sgn.dom0 {a b : α} (h : σ (add (mul a a) (neg (mul b b)))=0) : σ (add a b)=Int.sign (σ a+σ b):=by
 have e : add (mul a a) (neg (mul b b))=mul (add a b) (add a (neg b)):=(Laws.req L [a,b] (.add (.mul (.v 0) (.v 0)) (.neg (.mul (.v 1) (.v 1)))) (.mul (.add (.v 0) (.v 1)) (.add (.v 0) (.neg (.v 1)))) (by decide +kernel))
 rw [e,S.sm] at h
 rcases Int.mul_eq_zero.1 h with h1 | h1
 · have e2 : a=add (add a b) (neg b):=(Laws.req L [a,b] (.v 0) (.add (.add (.v 0) (.v 1)) (.neg (.v 1))) (by decide +kernel))
   have h2 : σ a=- σ b:=by
    conv=>lhs;rw [e2]
    rw [S.add0 L h1,S.sn]
   rw [h1,h2,show -σ b+σ b=0 from by omega];rfl
 · have h2:=S.eqv L h1
   rw [S.same L h2,←h2]
   rcases S.tri a with ha | ha | ha <;> rw [ha] <;> rfl
end
def Laws.nP {α : Type} {add mul : α→α→α} {neg : α→α} {zero one : α} (L : Laws add mul neg zero one) (d : α) (p : α × α) : α:=add (mul p.1 p.1) (neg (mul (mul p.2 p.2) d))
def Laws.mQ {α : Type} {add mul : α→α→α} {neg : α→α} {zero one : α} (L : Laws add mul neg zero one) (d : α) (p q : α × α) : α × α:=(add (mul p.1 q.1) (mul (mul p.2 q.2) d),add (mul p.1 q.2) (mul p.2 q.1))
def Laws.aQ {α : Type} {add mul : α→α→α} {neg : α→α} {zero one : α} (L : Laws add mul neg zero one) (p q : α × α) : α × α:=(add p.1 q.1,add p.2 q.2)
def Laws.gQ {α : Type} {add mul : α→α→α} {neg : α→α} {zero one : α} (L : Laws add mul neg zero one) (p : α × α) : α × α:=(neg p.1,neg p.2)
def Laws.sx {α : Type} {add mul : α→α→α} {neg : α→α} {zero one : α} (L : Laws add mul neg zero one) (d : α) (σ : α→Int) (p : α × α) : Int :=
 if σ p.2=0∨σ p.1=σ p.2 then σ p.1 else if σ p.1=0 then σ p.2 else σ p.1*σ (L.nP d p)
theorem Yel {X Y ν : Int} (h1 : X=1∨X=0∨X=-1) (h2 : Y=1∨Y=0∨Y=-1) (h3 : ν=1∨ν=0∨ν=-1) (hx : X=0→ν=-(Y*Y)) (hy : Y=0→ν=X*X) :
 (if Y=0∨X=Y then X else if X=0 then Y else X*ν)=if ν=1 then X else if ν=-1 then Y else Int.sign (X+Y):=by
 rcases h1 with rfl | rfl | rfl <;> rcases h2 with rfl | rfl | rfl <;> rcases h3 with rfl | rfl | rfl <;>
  first | rfl | (exact absurd (hx rfl) (by decide)) | (exact absurd (hy rfl) (by decide)) | decide
section
variable {α : Type} {add mul : α→α→α} {neg : α→α} {zero one d : α} {σ : α→Int} (L : Laws add mul neg zero one) (S : Sgn add mul neg one σ) (hd : σ d=1)
include L S hd
theorem Sgn.n0x {p : α × α} (h : σ p.1=0) : σ (L.nP d p)=-(σ p.2*σ p.2):=by
 unfold Laws.nP
 rw [S.add0 L (by rw [S.sm,h];rfl),S.sn,S.sm,S.sm,hd,W4u]
theorem Sgn.n0y {p : α × α} (h : σ p.2=0) : σ (L.nP d p)=σ p.1*σ p.1:=by
 have _u:=hd
 unfold Laws.nP
 rw [S.add0' L (by rw [S.sn,S.sm,S.sm,h];simp),S.sm]
theorem Sgn.sx_eq (p : α × α) : L.sx d σ p=if σ (L.nP d p)=1 then σ p.1 else if σ (L.nP d p)=-1 then σ p.2 else Int.sign (σ p.1+σ p.2) :=
 Yel (S.tri _) (S.tri _) (S.tri _) (S.n0x L hd) (S.n0y L hd)
theorem Sgn.sx1 {p : α × α} (h : σ (L.nP d p)=1) : L.sx d σ p=σ p.1∧σ p.1≠0:=by
 refine ⟨by rw [S.sx_eq L hd,if_pos h],fun h0=>?_⟩
 have h1:=S.n0x L hd h0
 have:=(Xft (S.tri p.2)).1
 omega
theorem Sgn.sxm {p : α × α} (h : σ (L.nP d p)=-1) : L.sx d σ p=σ p.2∧σ p.2≠0:=by
 refine ⟨by rw [S.sx_eq L hd,if_neg (by omega),if_pos h],fun h0=>?_⟩
 have h1:=S.n0y L hd h0
 have:=(Xft (S.tri p.1)).1
 omega
theorem Sgn.sxz {p : α × α} (h : σ (L.nP d p)=0) : L.sx d σ p=Int.sign (σ p.1+σ p.2)∧(σ p.1=0↔σ p.2=0):=by
 refine ⟨by rw [S.sx_eq L hd,if_neg (by omega),if_neg (by omega)],fun h0=>?_,fun h0=>?_⟩
 · have h1:=S.n0x L hd h0
   have h2:=(Xft (S.tri p.2)).2.1
   exact W0y fun h3=>by have:=h2 h3;omega
 · have h1:=S.n0y L hd h0
   have h2:=(Xft (S.tri p.1)).2.1
   exact W0y fun h3=>by have:=h2 h3;omega
theorem Sgn.sd (z : α) : σ (mul d z)=σ z:=by
 have _u:=L
 rw [S.sm,hd,W5o]
theorem Sgn.mul_core (p q : α × α) (h : σ (L.nP d q)=0→σ (L.nP d p)=0) : L.sx d σ (L.mQ d p q)=L.sx d σ p*L.sx d σ q:=by
 obtain ⟨a1,b1⟩:=p
 obtain ⟨a2,b2⟩:=q
 have hN : σ (L.nP d (L.mQ d (a1,b1) (a2,b2)))=σ (L.nP d (a1,b1))*σ (L.nP d (a2,b2)):=by
  rw [←S.sm];congr 1
  exact (Laws.req L [a1,b1,a2,b2,d] (.add (.mul (.add (.mul (.v 0) (.v 2)) (.mul (.mul (.v 1) (.v 3)) (.v 4))) (.add (.mul (.v 0) (.v 2)) (.mul (.mul (.v 1) (.v 3)) (.v 4)))) (.neg (.mul (.mul (.add (.mul (.v 0) (.v 3)) (.mul (.v 1) (.v 2))) (.add (.mul (.v 0) (.v 3)) (.mul (.v 1) (.v 2)))) (.v 4)))) (.mul (.add (.mul (.v 0) (.v 0)) (.neg (.mul (.mul (.v 1) (.v 1)) (.v 4)))) (.add (.mul (.v 2) (.v 2)) (.neg (.mul (.mul (.v 3) (.v 3)) (.v 4))))) (by decide +kernel))
 have eX : ∀ n1 n2,n1=L.nP d (a1,b1)→n2=L.nP d (a2,b2)→add (mul (mul a1 a2) (mul a1 a2)) (neg (mul (mul (mul b1 b2) d) (mul (mul b1 b2) d)))=add (add (mul (mul a1 a1) n2) (mul (mul a2 a2) n1)) (neg (mul n1 n2)):=by
  rintro _ _ rfl rfl
  exact (Laws.req L [a1,b1,a2,b2,d] (.add (.mul (.mul (.v 0) (.v 2)) (.mul (.v 0) (.v 2))) (.neg (.mul (.mul (.mul (.v 1) (.v 3)) (.v 4)) (.mul (.mul (.v 1) (.v 3)) (.v 4))))) (.add (.add (.mul (.mul (.v 0) (.v 0)) (.add (.mul (.v 2) (.v 2)) (.neg (.mul (.mul (.v 3) (.v 3)) (.v 4))))) (.mul (.mul (.v 2) (.v 2)) (.add (.mul (.v 0) (.v 0)) (.neg (.mul (.mul (.v 1) (.v 1)) (.v 4)))))) (.neg (.mul (.add (.mul (.v 0) (.v 0)) (.neg (.mul (.mul (.v 1) (.v 1)) (.v 4)))) (.add (.mul (.v 2) (.v 2)) (.neg (.mul (.mul (.v 3) (.v 3)) (.v 4))))))) (by decide +kernel))
 have eX2 : ∀ n1 n2,n1=L.nP d (a1,b1)→n2=L.nP d (a2,b2)→add (mul (mul a1 a2) (mul a1 a2)) (neg (mul (mul (mul b1 b2) d) (mul (mul b1 b2) d)))=add (mul (mul a1 a1) n2) (mul (mul d (mul b2 b2)) n1):=by
  rintro _ _ rfl rfl
  exact (Laws.req L [a1,b1,a2,b2,d] (.add (.mul (.mul (.v 0) (.v 2)) (.mul (.v 0) (.v 2))) (.neg (.mul (.mul (.mul (.v 1) (.v 3)) (.v 4)) (.mul (.mul (.v 1) (.v 3)) (.v 4))))) (.add (.mul (.mul (.v 0) (.v 0)) (.add (.mul (.v 2) (.v 2)) (.neg (.mul (.mul (.v 3) (.v 3)) (.v 4))))) (.mul (.mul (.v 4) (.mul (.v 3) (.v 3))) (.add (.mul (.v 0) (.v 0)) (.neg (.mul (.mul (.v 1) (.v 1)) (.v 4)))))) (by decide +kernel))
 have eXr : ∀ n1 n2,n1=L.nP d (a1,b1)→n2=L.nP d (a2,b2)→add (mul (mul (mul b1 b2) d) (mul (mul b1 b2) d)) (neg (mul (mul a1 a2) (mul a1 a2)))=add (add (neg (mul (mul a1 a1) n2)) (neg (mul (mul a2 a2) n1))) (mul n1 n2):=by
  rintro _ _ rfl rfl
  exact (Laws.req L [a1,b1,a2,b2,d] (.add (.mul (.mul (.mul (.v 1) (.v 3)) (.v 4)) (.mul (.mul (.v 1) (.v 3)) (.v 4))) (.neg (.mul (.mul (.v 0) (.v 2)) (.mul (.v 0) (.v 2))))) (.add (.add (.neg (.mul (.mul (.v 0) (.v 0)) (.add (.mul (.v 2) (.v 2)) (.neg (.mul (.mul (.v 3) (.v 3)) (.v 4)))))) (.neg (.mul (.mul (.v 2) (.v 2)) (.add (.mul (.v 0) (.v 0)) (.neg (.mul (.mul (.v 1) (.v 1)) (.v 4))))))) (.mul (.add (.mul (.v 0) (.v 0)) (.neg (.mul (.mul (.v 1) (.v 1)) (.v 4)))) (.add (.mul (.v 2) (.v 2)) (.neg (.mul (.mul (.v 3) (.v 3)) (.v 4)))))) (by decide +kernel))
 have eY : ∀ n1 n2,n1=L.nP d (a1,b1)→n2=L.nP d (a2,b2)→mul d (add (mul (mul a1 b2) (mul a1 b2)) (neg (mul (mul b1 a2) (mul b1 a2))))=add (neg (mul (mul a1 a1) n2)) (mul (mul a2 a2) n1):=by
  rintro _ _ rfl rfl
  exact (Laws.req L [a1,b1,a2,b2,d] (.mul (.v 4) (.add (.mul (.mul (.v 0) (.v 3)) (.mul (.v 0) (.v 3))) (.neg (.mul (.mul (.v 1) (.v 2)) (.mul (.v 1) (.v 2)))))) (.add (.neg (.mul (.mul (.v 0) (.v 0)) (.add (.mul (.v 2) (.v 2)) (.neg (.mul (.mul (.v 3) (.v 3)) (.v 4)))))) (.mul (.mul (.v 2) (.v 2)) (.add (.mul (.v 0) (.v 0)) (.neg (.mul (.mul (.v 1) (.v 1)) (.v 4)))))) (by decide +kernel))
 have eYr : ∀ n1 n2,n1=L.nP d (a1,b1)→n2=L.nP d (a2,b2)→mul d (add (mul (mul b1 a2) (mul b1 a2)) (neg (mul (mul a1 b2) (mul a1 b2))))=add (neg (mul (mul a2 a2) n1)) (mul (mul a1 a1) n2):=by
  rintro _ _ rfl rfl
  exact (Laws.req L [a1,b1,a2,b2,d] (.mul (.v 4) (.add (.mul (.mul (.v 1) (.v 2)) (.mul (.v 1) (.v 2))) (.neg (.mul (.mul (.v 0) (.v 3)) (.mul (.v 0) (.v 3)))))) (.add (.neg (.mul (.mul (.v 2) (.v 2)) (.add (.mul (.v 0) (.v 0)) (.neg (.mul (.mul (.v 1) (.v 1)) (.v 4)))))) (.mul (.mul (.v 0) (.v 0)) (.add (.mul (.v 2) (.v 2)) (.neg (.mul (.mul (.v 3) (.v 3)) (.v 4)))))) (by decide +kernel))
 have eX:=eX _ _ rfl rfl
 have eX2:=eX2 _ _ rfl rfl
 have eXr:=eXr _ _ rfl rfl
 have eY:=eY _ _ rfl rfl
 have eYr:=eYr _ _ rfl rfl
 have Sx:=@Sgn.sx1 _ _ _ _ _ _ d σ L S hd
 have Sm:=@Sgn.sxm _ _ _ _ _ _ d σ L S hd
 have Sz:=@Sgn.sxz _ _ _ _ _ _ d σ L S hd
 have ta1:=S.tri a1
 have tb1:=S.tri b1
 have ta2:=S.tri a2
 have tb2:=S.tri b2
 have sA : σ (mul (mul a1 a1) (L.nP d (a2,b2)))=σ a1*σ a1*σ (L.nP d (a2,b2)):=by rw [S.sm,S.sm]
 have sB : σ (mul (mul a2 a2) (L.nP d (a1,b1)))=σ a2*σ a2*σ (L.nP d (a1,b1)):=by rw [S.sm,S.sm]
 have sC : σ (mul (L.nP d (a1,b1)) (L.nP d (a2,b2)))=σ (L.nP d (a1,b1))*σ (L.nP d (a2,b2)):=S.sm _ _
 have sD : σ (mul (mul d (mul b2 b2)) (L.nP d (a1,b1)))=σ b2*σ b2*σ (L.nP d (a1,b1)):=by rw [S.sm,S.sd L hd,S.sm]
 have sb : σ (mul (mul b1 b2) d)=σ b1*σ b2:=by rw [S.sm,S.sm,hd,W4u]
 have qa1:=Xft ta1
 have qa2:=Xft ta2
 have qb2:=Xft tb2
 rcases S.tri (L.nP d (a1,b1)) with h1 | h1 | h1 <;> rcases S.tri (L.nP d (a2,b2)) with h2 | h2 | h2 <;> simp only [h1,h2,W4u,Int.mul_zero,Int.mul_neg] at sA sB sC sD hN
 · obtain ⟨k1,z1⟩:=Sx h1
   obtain ⟨k2,z2⟩:=Sx h2
   have z1 : σ a1≠0:=z1
   have:=S.dom L (a:=mul a1 a2) (b:=mul (mul b1 b2) d) (by rw [eX2];exact S.sp _ _ (by rw [sA,qa1.2.1 z1]) (by rw [sD];exact qb2.1))
   rw [(Sx hN).1,k1,k2]
   show σ (add (mul a1 a2) (mul (mul b1 b2) d))=σ a1*σ a2
   rw [this,S.sm]
 · exact absurd (h h2) (by omega)
 · obtain ⟨k1,z1⟩:=Sx h1
   obtain ⟨k2,z2⟩:=Sm h2
   have z1 : σ a1≠0:=z1
   have z2 : σ b2≠0:=z2
   have:=S.dom L (a:=mul a1 b2) (b:=mul b1 a2) (by rw [←S.sd L hd,eY];exact S.sp _ _ (by rw [S.sn,sA,qa1.2.1 z1];rfl) (by rw [sB];exact qa2.1))
   rw [(Sm hN).1,k1,k2]
   show σ (add (mul a1 b2) (mul b1 a2))=σ a1*σ b2
   rw [this,S.sm]
 · obtain ⟨k1,e1⟩:=Sz h1
   obtain ⟨k2,z2⟩:=Sx h2
   have z2 : σ a2≠0:=z2
   have e1 : σ a1=0↔σ b1=0:=e1
   rw [(Sz hN).1,k1,k2]
   show Int.sign (σ (add (mul a1 a2) (mul (mul b1 b2) d))+σ (add (mul a1 b2) (mul b1 a2)))=Int.sign (σ a1+σ b1)*σ a2
   by_cases z1 : σ a1=0
   · have zb:=e1.1 z1
     rw [S.add0 L (by rw [S.sm,z1,W5g]),S.add0 L (by rw [S.sm,z1,W5g]),sb,S.sm,z1,zb,W5g,W5g];simp
   · have g1:=S.dom L (a:=mul a1 a2) (b:=mul (mul b1 b2) d) (by rw [eX];exact S.sp _ _ (S.sp _ _ (by rw [sA,qa1.2.1 z1]) (by rw [sB];exact W7x _)) (by rw [S.sn,sC];decide))
     have g2:=S.dom L (a:=mul b1 a2) (b:=mul a1 b2) (by rw [←S.sd L hd,eYr,L.ac];exact S.sp _ _ (by rw [sA,qa1.2.1 z1]) (by rw [S.sn,sB];decide))
     rw [g1,L.ac (mul a1 b2),g2,S.sm,S.sm]
     have zb : σ b1≠0:=fun h=>z1 (e1.2 h)
     revert z1 z2 zb
     rcases ta1 with h | h | h <;> rcases tb1 with h' | h' | h' <;> rcases ta2 with h'' | h'' | h'' <;> rw [h,h',h''] <;> decide
 · obtain ⟨k1,e1⟩:=Sz h1
   obtain ⟨k2,e2⟩:=Sz h2
   have e1 : σ a1=0↔σ b1=0:=e1
   have e2 : σ a2=0↔σ b2=0:=e2
   rw [(Sz hN).1,k1,k2]
   show Int.sign (σ (add (mul a1 a2) (mul (mul b1 b2) d))+σ (add (mul a1 b2) (mul b1 a2)))=Int.sign (σ a1+σ b1)*Int.sign (σ a2+σ b2)
   have g1:=S.dom0 L (a:=mul a1 a2) (b:=mul (mul b1 b2) d) (by rw [eX,S.add0' L (by rw [S.sn,sC];rfl),S.add0 L sA,sB])
   have g2:=S.dom0 L (a:=mul a1 b2) (b:=mul b1 a2) (by rw [←S.sd L hd,eY,S.add0 L (by rw [S.sn,sA];rfl),sB])
   rw [g1,g2,sb,S.sm,S.sm,S.sm]
   revert e1 e2
   rcases ta1 with h | h | h <;> rcases tb1 with h' | h' | h' <;> rcases ta2 with h'' | h'' | h'' <;> rcases tb2 with g | g | g <;> rw [h,h',h'',g] <;> decide
 · obtain ⟨k1,e1⟩:=Sz h1
   obtain ⟨k2,z2⟩:=Sm h2
   have z2 : σ b2≠0:=z2
   have e1 : σ a1=0↔σ b1=0:=e1
   rw [(Sz hN).1,k1,k2]
   show Int.sign (σ (add (mul a1 a2) (mul (mul b1 b2) d))+σ (add (mul a1 b2) (mul b1 a2)))=Int.sign (σ a1+σ b1)*σ b2
   by_cases z1 : σ a1=0
   · have zb:=e1.1 z1
     rw [S.add0 L (by rw [S.sm,z1,W5g]),S.add0 L (by rw [S.sm,z1,W5g]),sb,S.sm,z1,zb,W5g,W5g];simp
   · have g1:=S.dom L (a:=mul (mul b1 b2) d) (b:=mul a1 a2) (by rw [eXr];exact S.sp _ _ (S.sp _ _ (by rw [S.sn,sA,qa1.2.1 z1];rfl) (by rw [S.sn,sB];decide)) (by rw [sC];decide))
     have g2:=S.dom L (a:=mul a1 b2) (b:=mul b1 a2) (by rw [←S.sd L hd,eY];exact S.sp _ _ (by rw [S.sn,sA,qa1.2.1 z1];rfl) (by rw [sB];exact W7x _))
     rw [L.ac (mul a1 a2),g1,g2,sb,S.sm]
     have zb : σ b1≠0:=fun h=>z1 (e1.2 h)
     revert z1 z2 zb
     rcases ta1 with h | h | h <;> rcases tb1 with h' | h' | h' <;> rcases tb2 with h'' | h'' | h'' <;> rw [h,h',h''] <;> decide
 · obtain ⟨k1,z1⟩:=Sm h1
   obtain ⟨k2,z2⟩:=Sx h2
   have z2 : σ a2≠0:=z2
   have:=S.dom L (a:=mul b1 a2) (b:=mul a1 b2) (by rw [←S.sd L hd,eYr];exact S.sp _ _ (by rw [S.sn,sB,qa2.2.1 z2];rfl) (by rw [sA];exact qa1.1))
   rw [(Sm hN).1,k1,k2]
   show σ (add (mul a1 b2) (mul b1 a2))=σ b1*σ a2
   rw [L.ac,this,S.sm]
 · exact absurd (h h2) (by omega)
 · obtain ⟨k1,z1⟩:=Sm h1
   obtain ⟨k2,z2⟩:=Sm h2
   have:=S.dom L (a:=mul (mul b1 b2) d) (b:=mul a1 a2) (by rw [eXr,L.ac];exact S.sp _ _ (by rw [sC];rfl) (S.sa _ _ (by rw [S.sn,sA];have:=qa1.1;omega) (by rw [S.sn,sB];have:=qa2.1;omega)))
   rw [(Sx hN).1,k1,k2]
   show σ (add (mul a1 a2) (mul (mul b1 b2) d))=σ b1*σ b2
   rw [L.ac,this,sb]
theorem Sgn.smul (p q : α × α) : L.sx d σ (L.mQ d p q)=L.sx d σ p*L.sx d σ q:=by
 by_cases h : σ (L.nP d q)=0→σ (L.nP d p)=0
 · exact S.mul_core L hd p q h
 · have h1 : σ (L.nP d q)=0:=W0y fun h2=>h fun h3=>absurd h3 h2
   have e : L.mQ d p q=L.mQ d q p:=by
    obtain ⟨a1,b1⟩:=p
    obtain ⟨a2,b2⟩:=q
    exact W4j (Laws.req L [a1,b1,a2,b2,d] (.add (.mul (.v 0) (.v 2)) (.mul (.mul (.v 1) (.v 3)) (.v 4))) (.add (.mul (.v 2) (.v 0)) (.mul (.mul (.v 3) (.v 1)) (.v 4))) (by decide +kernel)) (Laws.req L [a1,b1,a2,b2,d] (.add (.mul (.v 0) (.v 3)) (.mul (.v 1) (.v 2))) (.add (.mul (.v 2) (.v 1)) (.mul (.v 3) (.v 0))) (by decide +kernel))
   rw [e,S.mul_core L hd q p fun _=>h1,Int.mul_comm]
theorem Sgn.sneg (p : α × α) : L.sx d σ (L.gQ p)=- L.sx d σ p:=by
 have e : L.nP d (L.gQ p)=L.nP d p:=by
  obtain ⟨a,b⟩:=p
  exact (Laws.req L [a,b,d] (.add (.mul (.neg (.v 0)) (.neg (.v 0))) (.neg (.mul (.mul (.neg (.v 1)) (.neg (.v 1))) (.v 2)))) (.add (.mul (.v 0) (.v 0)) (.neg (.mul (.mul (.v 1) (.v 1)) (.v 2)))) (by decide +kernel))
 rw [S.sx_eq L hd,S.sx_eq L hd,e]
 show (if σ (L.nP d p)=1 then σ (neg p.1) else if σ (L.nP d p)=-1 then σ (neg p.2) else Int.sign (σ (neg p.1)+σ (neg p.2)))=_
 rw [S.sn,S.sn]
 split
 · rfl
 · split
   · rfl
   · rw [←Int.neg_add,Int.sign_neg]
def Laws.Rt {α : Type} {add mul : α→α→α} {neg : α→α} {zero one : α} (L : Laws add mul neg zero one) (d : α) (σ : α→Int) (p q : α) : Prop:=σ p=1∧σ q=1∧σ (add (mul p p) (neg (mul d (mul q q))))=0
theorem Sgn.sx_rt {p q : α} (h : L.Rt d σ p q) (x : α × α) : L.sx d σ x=σ (add (mul x.1 q) (mul x.2 p)):=by
 obtain ⟨hp,hq,h0⟩:=h
 obtain ⟨a,b⟩:=x
 show L.sx d σ (a,b)=σ (add (mul a q) (mul b p))
 have e1 : ∀ n,n=L.nP d (a,b)→mul n (mul q q)=add (mul (mul b b) (add (mul p p) (neg (mul d (mul q q))))) (mul (add (mul a q) (mul b p)) (add (mul a q) (neg (mul b p)))):=by
  rintro _ rfl
  exact (Laws.req L [a,b,p,q,d] (.mul (.add (.mul (.v 0) (.v 0)) (.neg (.mul (.mul (.v 1) (.v 1)) (.v 4)))) (.mul (.v 3) (.v 3))) (.add (.mul (.mul (.v 1) (.v 1)) (.add (.mul (.v 2) (.v 2)) (.neg (.mul (.v 4) (.mul (.v 3) (.v 3)))))) (.mul (.add (.mul (.v 0) (.v 3)) (.mul (.v 1) (.v 2))) (.add (.mul (.v 0) (.v 3)) (.neg (.mul (.v 1) (.v 2)))))) (by decide +kernel))
 have e1:=e1 _ rfl
 have hN : σ (L.nP d (a,b))=σ (add (mul a q) (mul b p))*σ (add (mul a q) (neg (mul b p))):=by
  have e4:=congrArg σ e1
  rw [S.add0 L (a:=mul (mul b b) (add (mul p p) (neg (mul d (mul q q))))) (by rw [S.sm,h0,Int.mul_zero]),S.sm,S.sm,hq,W4u,W4u,S.sm] at e4
  exact e4
 have e2 : add (mul a q) (mul a q)=add (add (mul a q) (mul b p)) (add (mul a q) (neg (mul b p))):=(Laws.req L [a,b,p,q] (.add (.mul (.v 0) (.v 3)) (.mul (.v 0) (.v 3))) (.add (.add (.mul (.v 0) (.v 3)) (.mul (.v 1) (.v 2))) (.add (.mul (.v 0) (.v 3)) (.neg (.mul (.v 1) (.v 2))))) (by decide +kernel))
 have e3 : add (mul b p) (mul b p)=add (add (mul a q) (mul b p)) (neg (add (mul a q) (neg (mul b p)))):=(Laws.req L [a,b,p,q] (.add (.mul (.v 1) (.v 2)) (.mul (.v 1) (.v 2))) (.add (.add (.mul (.v 0) (.v 3)) (.mul (.v 1) (.v 2))) (.neg (.add (.mul (.v 0) (.v 3)) (.neg (.mul (.v 1) (.v 2)))))) (by decide +kernel))
 have hX : σ a=σ (add (add (mul a q) (mul b p)) (add (mul a q) (neg (mul b p)))):=by
  rw [←e2,S.same L rfl,S.sm,hq,W4u]
 have hY : σ b=σ (add (add (mul a q) (mul b p)) (neg (add (mul a q) (neg (mul b p))))):=by
  rw [←e3,S.same L rfl,S.sm,hp,W4u]
 generalize add (mul a q) (mul b p)=A at *
 generalize add (mul a q) (neg (mul b p))=B at *
 rw [S.sx_eq L hd]
 show (if σ (L.nP d (a,b))=1 then σ a else if σ (L.nP d (a,b))=-1 then σ b else Int.sign (σ a+σ b))=σ A
 rw [hN]
 rcases S.tri A with h | h | h <;> rcases S.tri B with h' | h' | h'
 · rw [h,h',if_pos (by decide),hX,S.same L (by omega),h]
 · rw [h,h',if_neg (by decide),if_neg (by decide),hX,hY,S.add0' L h',S.add0' L (by rw [S.sn];omega),h];rfl
 · rw [h,h',if_neg (by decide),if_pos (by decide),hY,S.same L (by rw [S.sn];omega),h]
 · rw [h,h',if_neg (by decide),if_neg (by decide),hX,hY,S.add0 L h,S.add0 L h,S.sn,h'];rfl
 · rw [h,h',if_neg (by decide),if_neg (by decide),hX,hY,S.add0 L h,S.add0 L h,S.sn,h'];rfl
 · rw [h,h',if_neg (by decide),if_neg (by decide),hX,hY,S.add0 L h,S.add0 L h,S.sn,h'];rfl
 · rw [h,h',if_neg (by decide),if_pos (by decide),hY,S.same L (by rw [S.sn];omega),h]
 · rw [h,h',if_neg (by decide),if_neg (by decide),hX,hY,S.add0' L h',S.add0' L (by rw [S.sn];omega),h];rfl
 · rw [h,h',if_pos (by decide),hX,S.same L (by omega),h]
theorem Sgn.no_rt (hE : ∀ p q,¬ L.Rt d σ p q) {x : α × α} (h : σ (L.nP d x)=0) : σ x.1=0∧σ x.2=0:=by
 obtain ⟨a,b⟩:=x
 have h0:=(S.sxz L hd h).2
 have h0 : σ a=0↔σ b=0:=h0
 have e : ∀ n,n=L.nP d (a,b)→add (mul a a) (neg (mul d (mul b b)))=n∧add (mul (neg a) (neg a)) (neg (mul d (mul b b)))=n∧add (mul a a) (neg (mul d (mul (neg b) (neg b))))=n∧add (mul (neg a) (neg a)) (neg (mul d (mul (neg b) (neg b))))=n:=by
  rintro _ rfl
  exact ⟨(Laws.req L [a,b,d] (.add (.mul (.v 0) (.v 0)) (.neg (.mul (.v 2) (.mul (.v 1) (.v 1))))) (.add (.mul (.v 0) (.v 0)) (.neg (.mul (.mul (.v 1) (.v 1)) (.v 2)))) (by decide +kernel)),(Laws.req L [a,b,d] (.add (.mul (.neg (.v 0)) (.neg (.v 0))) (.neg (.mul (.v 2) (.mul (.v 1) (.v 1))))) (.add (.mul (.v 0) (.v 0)) (.neg (.mul (.mul (.v 1) (.v 1)) (.v 2)))) (by decide +kernel)),(Laws.req L [a,b,d] (.add (.mul (.v 0) (.v 0)) (.neg (.mul (.v 2) (.mul (.neg (.v 1)) (.neg (.v 1)))))) (.add (.mul (.v 0) (.v 0)) (.neg (.mul (.mul (.v 1) (.v 1)) (.v 2)))) (by decide +kernel)),(Laws.req L [a,b,d] (.add (.mul (.neg (.v 0)) (.neg (.v 0))) (.neg (.mul (.v 2) (.mul (.neg (.v 1)) (.neg (.v 1)))))) (.add (.mul (.v 0) (.v 0)) (.neg (.mul (.mul (.v 1) (.v 1)) (.v 2)))) (by decide +kernel))⟩
 obtain ⟨e1,e2,e3,e4⟩:=e _ rfl
 show σ a=0∧σ b=0
 rcases S.tri a with h1 | h1 | h1
 · rcases S.tri b with h2 | h2 | h2
   · exact absurd ⟨h1,h2,by rw [e1];exact h⟩ (hE a b)
   · omega
   · exact absurd ⟨h1,by rw [S.sn];omega,by rw [e3];exact h⟩ (hE a (neg b))
 · exact ⟨h1,h0.1 h1⟩
 · rcases S.tri b with h2 | h2 | h2
   · exact absurd ⟨by rw [S.sn];omega,h2,by rw [e2];exact h⟩ (hE (neg a) b)
   · omega
   · exact absurd ⟨by rw [S.sn];omega,by rw [S.sn];omega,by rw [e4];exact h⟩ (hE (neg a) (neg b))
theorem Sgn.sx_n (hE : ∀ p q,¬ L.Rt d σ p q) {n a b : α} (hn : σ n=1) (h : 0≤L.sx d σ (a,b)) : L.sx d σ (add a n,b)=1:=by
 have Sx:=@Sgn.sx1 _ _ _ _ _ _ d σ L S hd
 have Sm:=@Sgn.sxm _ _ _ _ _ _ d σ L S hd
 rcases S.tri (L.nP d (a,b)) with h1 | h1 | h1
 · obtain ⟨k1,z1⟩:=Sx h1
   have k1 : L.sx d σ (a,b)=σ a:=k1
   have z1 : σ a≠0:=z1
   have ha : σ a=1:=by rcases S.tri a with h | h | h <;> omega
   have hN : σ (L.nP d (add a n,b))=1:=by
    have e : ∀ m,m=L.nP d (a,b)→L.nP d (add a n,b)=add m (mul n (add (add a a) n)):=by
     rintro _ rfl
     exact (Laws.req L [a,b,n,d] (.add (.mul (.add (.v 0) (.v 2)) (.add (.v 0) (.v 2))) (.neg (.mul (.mul (.v 1) (.v 1)) (.v 3)))) (.add (.add (.mul (.v 0) (.v 0)) (.neg (.mul (.mul (.v 1) (.v 1)) (.v 3)))) (.mul (.v 2) (.add (.add (.v 0) (.v 0)) (.v 2)))) (by decide +kernel))
    rw [e _ rfl]
    exact S.sp _ _ h1 (by rw [S.sm,hn,S.sp _ _ (S.sp _ _ ha (by omega)) (by omega)];decide)
   rw [(Sx hN).1]
   exact S.sp _ _ ha (by omega)
 · obtain ⟨k1,k2⟩:=S.no_rt L hd hE h1
   have k1 : σ a=0:=k1
   have k2 : σ b=0:=k2
   have : σ (add a n)=1:=by rw [S.add0 L k1,hn]
   unfold Laws.sx
   rw [if_pos (.inl k2)];exact this
 · obtain ⟨k1,z1⟩:=Sm h1
   have k1 : L.sx d σ (a,b)=σ b:=k1
   have z1 : σ b≠0:=z1
   have hb : σ b=1:=by rcases S.tri b with h | h | h <;> omega
   rcases S.tri (L.nP d (add a n,b)) with h2 | h2 | h2
   · obtain ⟨k3,z3⟩:=Sx h2
     rw [k3]
     show σ (add a n)=1
     have z3 : σ (add a n)≠0:=z3
     rcases S.tri (add a n) with h | h | h
     · exact h
     · omega
     · exfalso
       have e : ∀ m,m=L.nP d (add a n,b)→L.nP d (a,b)=add m (mul n (add (neg (add a n)) (add (neg (add a n)) n))):=by
        rintro _ rfl
        exact (Laws.req L [a,b,n,d] (.add (.mul (.v 0) (.v 0)) (.neg (.mul (.mul (.v 1) (.v 1)) (.v 3)))) (.add (.add (.mul (.add (.v 0) (.v 2)) (.add (.v 0) (.v 2))) (.neg (.mul (.mul (.v 1) (.v 1)) (.v 3)))) (.mul (.v 2) (.add (.neg (.add (.v 0) (.v 2))) (.add (.neg (.add (.v 0) (.v 2))) (.v 2))))) (by decide +kernel))
       have g1 : σ (neg (add a n))=1:=by rw [S.sn];omega
       rw [e _ rfl,S.sp _ _ h2 (by rw [S.sm,hn,S.sp _ _ g1 (by rw [S.sp _ _ g1 (by omega)];decide)];decide)] at h1
       omega
   · have:=(S.no_rt L hd hE h2).2
     have : σ b=0:=this
     omega
   · rw [(Sm h2).1];exact hb
theorem Sgn.ext : Sgn L.aQ (L.mQ d) L.gQ (one,zero) (L.sx d σ):=by
 have tri : ∀ p,L.sx d σ p=1∨L.sx d σ p=0∨L.sx d σ p=-1:=by
  intro p
  rw [S.sx_eq L hd]
  split
  · exact S.tri _
  · split
    · exact S.tri _
    · rcases S.tri p.1 with h | h | h <;> rcases S.tri p.2 with h' | h' | h' <;> rw [h,h'] <;> decide
 have low : ∀ a b,σ b=0→L.sx d σ (a,b)=σ a:=by
  intro a b h
  unfold Laws.sx
  rw [if_pos (.inl h)]
 by_cases hE : ∃ p q,L.Rt d σ p q
 · obtain ⟨p,q,h⟩:=hE
   have hadd : ∀ x y : α × α,add (mul (L.aQ x y).1 q) (mul (L.aQ x y).2 p)=add (add (mul x.1 q) (mul x.2 p)) (add (mul y.1 q) (mul y.2 p)):=by
    rintro ⟨a,b⟩ ⟨a2,b2⟩
    exact (Laws.req L [a,b,a2,b2,p,q] (.add (.mul (.add (.v 0) (.v 2)) (.v 5)) (.mul (.add (.v 1) (.v 3)) (.v 4))) (.add (.add (.mul (.v 0) (.v 5)) (.mul (.v 1) (.v 4))) (.add (.mul (.v 2) (.v 5)) (.mul (.v 3) (.v 4)))) (by decide +kernel))
   refine ⟨tri,S.sneg L hd,S.smul L hd,fun x y hx hy=>?_,fun x y hx hy=>?_,by rw [low _ _ (S.s0 L),S.s1]⟩
   · rw [S.sx_rt L hd h] at hx hy ⊢
     rw [hadd];exact S.sa _ _ hx hy
   · rw [S.sx_rt L hd h] at hx hy ⊢
     rw [hadd];exact S.sp _ _ hx hy
 · have hE : ∀ p q,¬ L.Rt d σ p q:=fun p q h=>hE ⟨p,q,h⟩
   have pos : ∀ x y : α × α,L.sx d σ x=1→0≤L.sx d σ y→L.sx d σ (L.aQ x y)=1:=by
    intro x y hx hy
    have hN : σ (L.nP d x)≠0:=fun h0=>by
     have h1:=(S.sxz L hd h0).1
     have h2:=S.no_rt L hd hE h0
     rw [h2.1,h2.2] at h1
     rw [h1] at hx
     exact absurd hx (by decide)
    have ex : L.mQ d x (x.1,neg x.2)=(L.nP d x,zero):=by
     obtain ⟨a,b⟩:=x
     exact W4j (Laws.req L [a,b,d] (.add (.mul (.v 0) (.v 0)) (.mul (.mul (.v 1) (.neg (.v 1))) (.v 2))) (.add (.mul (.v 0) (.v 0)) (.neg (.mul (.mul (.v 1) (.v 1)) (.v 2)))) (by decide +kernel)) (Laws.req L [a,b] (.add (.mul (.v 0) (.neg (.v 1))) (.mul (.v 1) (.v 0))) .z (by decide +kernel))
    have ey : L.mQ d (L.aQ x y) (x.1,neg x.2)=(add (L.mQ d y (x.1,neg x.2)).1 (L.nP d x),(L.mQ d y (x.1,neg x.2)).2):=by
     obtain ⟨a,b⟩:=x
     obtain ⟨a2,b2⟩:=y
     exact W4j (Laws.req L [a,b,a2,b2,d] (.add (.mul (.add (.v 0) (.v 2)) (.v 0)) (.mul (.mul (.add (.v 1) (.v 3)) (.neg (.v 1))) (.v 4))) (.add (.add (.mul (.v 2) (.v 0)) (.mul (.mul (.v 3) (.neg (.v 1))) (.v 4))) (.add (.mul (.v 0) (.v 0)) (.neg (.mul (.mul (.v 1) (.v 1)) (.v 4))))) (by decide +kernel)) (Laws.req L [a,b,a2,b2,d] (.add (.mul (.add (.v 0) (.v 2)) (.neg (.v 1))) (.mul (.add (.v 1) (.v 3)) (.v 0))) (.add (.mul (.v 2) (.neg (.v 1))) (.mul (.v 3) (.v 0))) (by decide +kernel))
    have hc : L.sx d σ (x.1,neg x.2)=σ (L.nP d x):=by
     have:=S.smul L hd x (x.1,neg x.2)
     rw [ex,low _ _ (S.s0 L),hx,W5o] at this
     exact this.symm
    have hyc:=S.smul L hd y (x.1,neg x.2)
    have hxy:=S.smul L hd (L.aQ x y) (x.1,neg x.2)
    rw [hc] at hyc hxy
    rcases S.tri (L.nP d x) with h1 | h1 | h1
    · rw [h1,W4u] at hyc hxy
      rw [←hxy,ey]
      exact S.sx_n L hd hE h1 (by rw [←hyc] at hy;exact hy)
    · exact absurd h1 hN
    · rw [h1] at hyc hxy
      have hg:=S.sneg L hd (L.mQ d (L.aQ x y) (x.1,neg x.2))
      have eg : L.gQ (L.mQ d (L.aQ x y) (x.1,neg x.2))=(add (L.gQ (L.mQ d y (x.1,neg x.2))).1 (neg (L.nP d x)),(L.gQ (L.mQ d y (x.1,neg x.2))).2):=by
       rw [ey]
       exact W4j (L.nd _ _) rfl
      have h2:=S.sx_n L hd hE (n:=neg (L.nP d x)) (a:=(L.gQ (L.mQ d y (x.1,neg x.2))).1) (b:=(L.gQ (L.mQ d y (x.1,neg x.2))).2) (by rw [S.sn];omega) (by
       show 0≤L.sx d σ (L.gQ (L.mQ d y (x.1,neg x.2)))
       rw [S.sneg L hd,hyc];omega)
      rw [←eg] at h2
      omega
   refine ⟨tri,S.sneg L hd,S.smul L hd,fun x y hx hy=>?_,pos,by rw [low _ _ (S.s0 L),S.s1]⟩
   rcases tri x with h | h | h
   · rw [pos x y h hy];decide
   · rcases tri y with h' | h' | h'
     · have e : L.aQ x y=L.aQ y x:=W4j (L.ac _ _) (L.ac _ _)
       rw [e,pos y x h' hx];decide
     · have zz : ∀ p,L.sx d σ p=0→σ p.1=0∧σ p.2=0:=by
        intro p hp
        rcases S.tri (L.nP d p) with g | g | g
        · have:=S.sx1 L hd g;omega
        · exact S.no_rt L hd hE g
        · have:=S.sxm L hd g;omega
       have z1:=zz x h
       have z2:=zz y h'
       have : L.sx d σ (L.aQ x y)=0:=by
        rw [show L.aQ x y=(add x.1 y.1,add x.2 y.2) from rfl,low _ _ (by rw [S.add0 L z1.2,z2.2]),S.add0 L z1.1,z2.1]
       omega
     · omega
   · omega
end
end
section
def Xg0 (x : Rat) : Int:=if 0<x then 1 else if x<0 then -1 else 0
theorem Xa5 (x : Rat) : (0<x∧Xg0 x=1)∨(x=0∧Xg0 x=0)∨(x<0∧Xg0 x=-1):=by
 unfold Xg0
 by_cases h : 0<x
 · left;exact ⟨h,if_pos h⟩
 · by_cases h2 : x<0
   · right;right;exact ⟨h2,by rw [if_neg h,if_pos h2]⟩
   · right;left;exact ⟨by grind,by rw [if_neg h,if_neg h2]⟩
theorem Xbs {x : Rat} (h : 0<x) : Xg0 x=1:=if_pos h
theorem Xd2 {x : Rat} (h : x<0) : Xg0 x=-1:=by unfold Xg0;rw [if_neg (by grind),if_pos h]
theorem Xhc {x y : Rat} (h : x<0) (k : 0<y) : x*y<0:=by
 have:=W4q (show 0 < -x by grind) k
 grind
theorem Xm3 {x y : Rat} (h : x<0) (k : y<0) : 0<x*y:=by
 have:=W4q (show 0 < -x by grind) (show 0 < -y by grind)
 grind
theorem Ya6 : Sgn (α:=Rat) (fun x y=>x+y) (fun x y=>x*y) (fun x=>-x) 1 Xg0:=by
 refine ⟨fun a=>?_,fun a=>?_,fun a b=>?_,fun a b ha hb=>?_,fun a b ha hb=>?_,by decide⟩
 · rcases Xa5 a with h | h | h <;> simp [h.2]
 · rcases Xa5 a with h | h | h
   · rw [h.2,Xd2 (by grind)]
   · rw [h.1,Rat.neg_zero];rfl
   · rw [h.2,Xbs (by grind)];rfl
 · rcases Xa5 a with h | h | h <;> rcases Xa5 b with k | k | k <;> rw [h.2,k.2]
   · exact Xbs (W4q h.1 k.1)
   · rw [k.1,Rat.mul_zero];rfl
   · rw [Rat.mul_comm];exact Xd2 (Xhc k.1 h.1)
   · rw [h.1,W4x];rfl
   · rw [h.1,W4x];rfl
   · rw [h.1,W4x];rfl
   · exact Xd2 (Xhc h.1 k.1)
   · rw [k.1,Rat.mul_zero];rfl
   · exact Xbs (Xm3 h.1 k.1)
 · rcases Xa5 a with h | h | h <;> rcases Xa5 b with k | k | k <;> rw [h.2] at ha <;> rw [k.2] at hb <;> first | (exact absurd ha (by decide)) | (exact absurd hb (by decide)) | skip
   · rw [Xbs (by grind)];decide
   · rw [Xbs (by grind)];decide
   · rw [Xbs (by grind)];decide
   · rw [h.1,k.1,W7b];decide
 · rcases Xa5 a with h | h | h <;> rcases Xa5 b with k | k | k <;> rw [h.2] at ha <;> rw [k.2] at hb <;> first | (exact absurd ha (by decide)) | (exact absurd hb (by decide)) | exact Xbs (by grind)
def sgn : (k : Nat)→Tw k→El k→Int
 | 0=>fun _ (x : Rat)=>Xg0 x
 | k+1=>fun t a=>(Xa3 k t.1).sx t.2 (sgn k t.1) a
def Xbm : (k : Nat)→Tw k→Prop
 | 0=>fun _=>True
 | k+1=>fun t=>Xbm k t.1∧sgn k t.1 t.2=1
theorem Xat : ∀ {k : Nat} {t : Tw k},Xbm k t→Sgn (add k) (mul k t) (neg k) (rat k 1) (sgn k t)
 | 0,_,_=>Ya6
 | k+1,t,h=>(Xat h.1).ext (Xa3 k t.1) h.2
section
variable {k : Nat} {t : Tw k}
theorem Xoh {t : Tw (k+1)} (a : El k) (h : Xbm k t.1) : sgn (k+1) t (up k a)=sgn k t.1 a:=by
 have hz:=(Xat h).s0 (Xa3 k t.1)
 show (Xa3 k t.1).sx t.2 (sgn k t.1) (a,zero k)=_
 unfold Laws.sx
 rw [if_pos (.inl hz)]
theorem Xcw {x : Rat} (h : Xbm k t) : sgn k t (rat k x)=Xg0 x:=by
 induction k with
 | zero=>rfl
 | succ k ih=>rw [show rat (k+1) x=up k (rat k x) from rfl,Xoh _ h.1,ih h.1]
theorem Xcf : ∀ {k : Nat} (t : Tw k) (a : El k),sgn k t a=1∨sgn k t a=0∨sgn k t a=-1
 | 0,_,a=>by
  rcases Xa5 a with h | h | h
  · exact .inl h.2
  · exact .inr (.inl h.2)
  · exact .inr (.inr h.2)
 | k+1,t,a=>by
  show (Xa3 k t.1).sx t.2 (sgn k t.1) a=1∨(Xa3 k t.1).sx t.2 (sgn k t.1) a=0∨(Xa3 k t.1).sx t.2 (sgn k t.1) a=-1
  unfold Laws.sx
  split
  · exact Xcf _ _
  · split
    · exact Xcf _ _
    · rcases Xcf t.1 a.1 with h | h | h <;> rcases Xcf t.1 ((Xa3 k t.1).nP t.2 a) with g | g | g <;> rw [h,g] <;> decide
def le (k : Nat) (t : Tw k) (a b : El k) : Prop:=0≤sgn k t (add k b (neg k a))
end
end
section
section
variable {α : Type} {add mul : α→α→α} {neg : α→α} {zero one : α} {σ : α→Int} (L : Laws add mul neg zero one) (S : Sgn add mul neg one σ)
include L S
theorem Sgn.le_rf (a : α) : 0≤σ (add a (neg a)):=by rw [L.an,S.s0 L];exact W7x _
theorem Sgn.le_tr {a b c : α} (h : 0≤σ (add b (neg a))) (k : 0≤σ (add c (neg b))) : 0≤σ (add c (neg a)):=by
 have e : add c (neg a)=add (add c (neg b)) (add b (neg a)):=(Laws.req L [a,b,c] (.add (.v 2) (.neg (.v 0))) (.add (.add (.v 2) (.neg (.v 1))) (.add (.v 1) (.neg (.v 0)))) (by decide +kernel))
 rw [e];exact S.sa _ _ k h
theorem Sgn.le_ad {a b c d : α} (h : 0≤σ (add b (neg a))) (k : 0≤σ (add d (neg c))) : 0≤σ (add (add b d) (neg (add a c))):=by
 have e : add (add b d) (neg (add a c))=add (add b (neg a)) (add d (neg c)):=(Laws.req L [a,b,c,d] (.add (.add (.v 1) (.v 3)) (.neg (.add (.v 0) (.v 2)))) (.add (.add (.v 1) (.neg (.v 0))) (.add (.v 3) (.neg (.v 2)))) (by decide +kernel))
 rw [e];exact S.sa _ _ h k
theorem Sgn.le_ml {a b c : α} (h : 0≤σ (add b (neg a))) (hc : 0≤σ c) : 0≤σ (add (mul c b) (neg (mul c a))):=by
 have e : add (mul c b) (neg (mul c a))=mul c (add b (neg a)):=(Laws.req L [a,b,c] (.add (.mul (.v 2) (.v 1)) (.neg (.mul (.v 2) (.v 0)))) (.mul (.v 2) (.add (.v 1) (.neg (.v 0)))) (by decide +kernel))
 rw [e,S.sm];exact Int.mul_nonneg hc h
theorem Sgn.le_mn {a b c : α} (h : 0≤σ (add b (neg a))) (hc : σ c≤0) : 0≤σ (add (mul c a) (neg (mul c b))):=by
 have e : add (mul c a) (neg (mul c b))=mul (neg c) (add b (neg a)):=(Laws.req L [a,b,c] (.add (.mul (.v 2) (.v 0)) (.neg (.mul (.v 2) (.v 1)))) (.mul (.neg (.v 2)) (.add (.v 1) (.neg (.v 0)))) (by decide +kernel))
 rw [e,S.sm,S.sn];exact Int.mul_nonneg (by omega) h
theorem Sgn.le_sq {x y : α} (hx : 0≤σ x) (hy : 0≤σ y) (h : 0≤σ (add (mul y y) (neg (mul x x)))) : 0≤σ (add y (neg x)):=by
 have e : add (mul y y) (neg (mul x x))=mul (add y (neg x)) (add y x):=(Laws.req L [x,y] (.add (.mul (.v 1) (.v 1)) (.neg (.mul (.v 0) (.v 0)))) (.mul (.add (.v 1) (.neg (.v 0))) (.add (.v 1) (.v 0))) (by decide +kernel))
 rw [e,S.sm] at h
 rcases S.tri (add y (neg x)) with h1 | h1 | h1
 · omega
 · omega
 · have h2 : σ (add x (neg y))=1:=by
    have e2 : add x (neg y)=neg (add y (neg x)):=(Laws.req L [x,y] (.add (.v 0) (.neg (.v 1))) (.neg (.add (.v 1) (.neg (.v 0)))) (by decide +kernel))
    rw [e2,S.sn,h1];rfl
   have h3:=S.sp _ (add y y) h2 (S.sa _ _ hy hy)
   have e3 : add (add x (neg y)) (add y y)=add y x:=(Laws.req L [x,y] (.add (.add (.v 0) (.neg (.v 1))) (.add (.v 1) (.v 1))) (.add (.v 1) (.v 0)) (by decide +kernel))
   rw [e3] at h3
   rw [h1,h3] at h
   exact absurd h (by decide)
end
def tw0 : (k : Nat)→Tw k
 | 0=>()
 | k+1=>(tw0 k,zero k)
theorem Xde : ∀ (k : Nat) (x y : Rat),rat k (x+y)=add k (rat k x) (rat k y)
 | 0,_,_=>rfl
 | k+1,x,y=>by
  show (rat k (x+y),zero k)=(add k (rat k x) (rat k y),add k (zero k) (zero k))
  rw [Xde k,(Xa3 k (tw0 k)).az]
theorem Xei : ∀ (k : Nat) (x : Rat),rat k (-x)=neg k (rat k x)
 | 0,_=>rfl
 | k+1,x=>by
  show (rat k (-x),zero k)=(neg k (rat k x),neg k (zero k))
  rw [Xei k,(Xa3 k (tw0 k)).nz]
theorem Xbx : ∀ (k : Nat) (t : Tw k) (x y : Rat),rat k (x*y)=mul k t (rat k x) (rat k y)
 | 0,_,_,_=>rfl
 | k+1,t,x,y=>by
  show up k (rat k (x*y))=mul (k+1) t (up k (rat k x)) (up k (rat k y))
  rw [Xij,Xbx k t.1]
section
variable {k : Nat} {t : Tw k}
theorem Xba (h : Xbm k t) {x y : Rat} : le k t (rat k x) (rat k y)↔x≤y:=by
 unfold le
 rw [←Xei,←Xde,Xcw h]
 rcases Xa5 (y+-x) with ⟨h1,e⟩ | ⟨h1,e⟩ | ⟨h1,e⟩ <;> rw [e]
 · exact ⟨fun _=>by grind,fun _=>by decide⟩
 · exact ⟨fun _=>by grind,fun _=>by decide⟩
 · exact ⟨fun h=>absurd h (by decide),fun h=>absurd h (by grind)⟩
theorem le_tr (h : Xbm k t) {a b c : El k} (h1 : le k t a b) (h2 : le k t b c) : le k t a c:=(Xat h).le_tr (Xa3 k t) h1 h2
theorem Xhb (h : Xbm k t) {a : El k} : le k t (rat k 0) a↔0≤sgn k t a:=by
 unfold le
 rw [Xgh,(Xa3 k t).nz,(Xa3 k t).az]
def inI (k : Nat) (t : Tw k) (a : El k) (x y : Rat) : Prop:=le k t (rat k x) a∧le k t a (rat k y)
theorem Xpm (h : Xbm k t) {a : El k} {x y x' y' : Rat} (i : inI k t a x y) (hx : x'≤x) (hy : y≤y') : inI k t a x' y' :=
 ⟨le_tr h ((Xba h).2 hx) i.1,le_tr h i.2 ((Xba h).2 hy)⟩
theorem Xzz (h : Xbm k t) {a : El k} {x y : Rat} (i : inI k t a x y) : x≤y:=(Xba h).1 (le_tr h i.1 i.2)
theorem Xt0 (h : Xbm k t) {a b : El k} {x y x' y' : Rat} (i : inI k t a x y) (j : inI k t b x' y') : inI k t (add k a b) (x+x') (y+y'):=by
 refine ⟨?_,?_⟩
 · rw [Xde];exact (Xat h).le_ad (Xa3 k t) i.1 j.1
 · rw [Xde];exact (Xat h).le_ad (Xa3 k t) i.2 j.2
theorem Xtz (h : Xbm k t) {v s : El k} {a b c d m M : Rat} (i : inI k t v a b) (j : inI k t s c d) (hc : 0≤c) (h1 : m≤a*c) (h2 : m≤a*d) (h3 : b*c≤M) (h4 : b*d≤M) : inI k t (mul k t v s) m M:=by
 have S:=Xat h
 have L:=Xa3 k t
 have hs : 0≤sgn k t s:=(Xhb h).1 (le_tr h ((Xba h).2 hc) j.1)
 have hsr : ∀ x : Rat,sgn k t (rat k x)=Xg0 x:=fun x=>Xcw h
 refine ⟨?_,?_⟩
 · have e1 : le k t (mul k t (rat k a) s) (mul k t v s):=by
    rw [L.mc _ s,L.mc _ s];exact S.le_ml L i.1 hs
   refine le_tr h ?_ e1
   by_cases ha : 0≤a
   · refine le_tr h ((Xba h).2 h1) ?_
     rw [Xbx k t]
     exact S.le_ml L j.1 (by rw [hsr];rcases Xa5 a with ⟨g,e⟩ | ⟨g,e⟩ | ⟨g,e⟩ <;> rw [e] <;> first | decide | grind)
   · refine le_tr h ((Xba h).2 h2) ?_
     rw [Xbx k t]
     exact S.le_mn L j.2 (by rw [hsr,Xd2 (by grind)];decide)
 · have e1 : le k t (mul k t v s) (mul k t (rat k b) s):=by
    rw [L.mc _ s,L.mc _ s];exact S.le_ml L i.2 hs
   refine le_tr h e1 ?_
   by_cases hb : 0≤b
   · refine le_tr h ?_ ((Xba h).2 h4)
     rw [Xbx k t]
     exact S.le_ml L j.2 (by rw [hsr];rcases Xa5 b with ⟨g,e⟩ | ⟨g,e⟩ | ⟨g,e⟩ <;> rw [e] <;> first | decide | grind)
   · refine le_tr h ?_ ((Xba h).2 h3)
     rw [Xbx k t]
     exact S.le_mn L j.1 (by rw [hsr,Xd2 (by grind)];decide)
end
section
variable {k : Nat} {t : Tw (k+1)}
theorem Xlc (h : Xbm k t.1) {a : El k} {x y : Rat} (i : inI k t.1 a x y) : inI (k+1) t (up k a) x y:=by
 have e : ∀ a b : El k,add (k+1) (up k b) (neg (k+1) (up k a))=up k (add k b (neg k a)):=by
  intro a b
  show (add k b (neg k a),add k (zero k) (neg k (zero k)))=(add k b (neg k a),zero k)
  rw [(Xa3 k t.1).an]
 refine ⟨?_,?_⟩
 · show 0≤sgn (k+1) t (add (k+1) (up k a) (neg (k+1) (up k (rat k x))))
   rw [e,Xoh _ h];exact i.1
 · show 0≤sgn (k+1) t (add (k+1) (up k (rat k y)) (neg (k+1) (up k a)))
   rw [e,Xoh _ h];exact i.2
def rt1 (k : Nat) : El (k+1):=(zero k,rat k 1)
theorem Xkz : mul (k+1) t (rt1 k) (rt1 k)=up k t.2:=by
 have L:=Xa3 k t.1
 simp only [mul,up,rt1,L.mz,L.zm,L.az,L.za,L.mo,L.om];rfl
theorem Xmq (h : Xbm k t.1) : sgn (k+1) t (rt1 k)=1:=by
 have S:=Xat h
 have h1 : sgn k t.1 (rat k 1)=1:=S.s1
 have h0 : sgn k t.1 (zero k)=0:=S.s0 (Xa3 k t.1)
 show (Xa3 k t.1).sx t.2 (sgn k t.1) (zero k,rat k 1)=1
 unfold Laws.sx
 rw [if_neg (by rw [h1,h0];decide),if_pos h0,h1]
theorem Xpy (a : El (k+1)) : a=add (k+1) (up k a.1) (mul (k+1) t (up k a.2) (rt1 k)):=by
 have L:=Xa3 k t.1
 obtain ⟨a,b⟩:=a
 simp only [add,mul,up,rt1,L.mz,L.zm,L.az,L.za,L.mo,L.om];rfl
theorem Xty (h : Xbm (k+1) t) {r1 r2 c d : Rat} (i : inI k t.1 t.2 r1 r2) (hc : 0≤c) (hd : 0≤d) (h1 : c*c≤r1∨c=0) (h2 : r2≤d*d) : inI (k+1) t (rt1 k) c d:=by
 have S:=Xat h
 have L:=Xa3 (k+1) t
 have hr:=Xmq (t:=t) h.1
 have iu:=Xlc h.1 i
 have hsr : ∀ x : Rat,0≤x→0≤sgn (k+1) t (rat (k+1) x):=fun x hx=>by
  rw [Xcw h];rcases Xa5 x with ⟨g,e⟩ | ⟨g,e⟩ | ⟨g,e⟩ <;> rw [e] <;> first | decide | grind
 refine ⟨?_,?_⟩
 · rcases h1 with h1 | rfl
   · refine S.le_sq L (hsr c hc) (by omega) ?_
     rw [←Xbx,Xkz]
     exact le_tr h ((Xba h).2 h1) iu.1
   · exact (Xhb h).2 (by omega)
 · refine S.le_sq L (by omega) (hsr d hd) ?_
   rw [←Xbx,Xkz]
   exact le_tr h iu.2 ((Xba h).2 h2)
end
end
section
section
variable {k : Nat} {w : Tw k} {x : El k}
def tsn {k : Nat} (w : Tw k) (y : El k) : Tw (k+1):=(w,y)
end
end
section
def Xej (k : Nat) (t : Tw k) (a : El k) : Prop:=∃ w,mul k t w w=a
def red : (k : Nat)→Tw k→Prop
 | 0=>fun _=>True
 | k+1=>fun t=>red k t.1∧sgn k t.1 t.2=1∧¬ Xej k t.1 t.2
theorem Xag : ∀ {k : Nat} {t : Tw k},red k t→Xbm k t
 | 0,_,_=>trivial
 | k+1,t,h=>⟨Xag h.1,h.2.1⟩
section
variable {α : Type} {add mul : α→α→α} {neg : α→α} {zero one : α} (L : Laws add mul neg zero one)
include L
theorem Laws.sub0 {a b : α} (h : add a (neg b)=zero) : a=b:=by
 have e : a=add (add a (neg b)) b:=(Laws.req L [a,b] (.v 0) (.add (.add (.v 0) (.neg (.v 1))) (.v 1)) (by decide +kernel))
 rw [e,h,L.za]
theorem Laws.sb {a b : α} (h : a=b) : add a (neg b)=zero:=by rw [h,L.an]
theorem Laws.hi {h i m r u v x : α} (hh : add h h=one) (hx : mul x x=mul h (add u m)) (hm : mul m m=add (mul u u) (neg (mul (mul v v) r))) (hi : mul i (add x x)=one) :
 add (mul x x) (mul (mul (mul v i) (mul v i)) r)=u∧add (mul x (mul v i)) (mul (mul v i) x)=v:=by
 have e1 : mul (mul v v) r=mul (add u (neg m)) (add u m):=by
  have : mul (mul v v) r=add (mul u u) (neg (mul m m)):=by
   rw [hm];exact (Laws.req L [u,v,r] (.mul (.mul (.v 1) (.v 1)) (.v 2)) (.add (.mul (.v 0) (.v 0)) (.neg (.add (.mul (.v 0) (.v 0)) (.neg (.mul (.mul (.v 1) (.v 1)) (.v 2)))))) (by decide +kernel))
  rw [this];exact (Laws.req L [u,m] (.add (.mul (.v 0) (.v 0)) (.neg (.mul (.v 1) (.v 1)))) (.mul (.add (.v 0) (.neg (.v 1))) (.add (.v 0) (.v 1))) (by decide +kernel))
 have e2 : add u m=add (mul x x) (mul x x):=by
  rw [hx,←L.dm,hh,L.om]
 have e3 : mul (mul i i) (add (mul x x) (mul x x))=h:=by
  have : mul (mul i i) (add (mul x x) (mul x x))=mul h (mul (mul i (add x x)) (mul i (add x x))):=by
   have e4 : mul h (mul (mul i (add x x)) (mul i (add x x)))=mul (add h h) (mul (mul i i) (add (mul x x) (mul x x))):=(Laws.req L [h,i,x] (.mul (.v 0) (.mul (.mul (.v 1) (.add (.v 2) (.v 2))) (.mul (.v 1) (.add (.v 2) (.v 2))))) (.mul (.add (.v 0) (.v 0)) (.mul (.mul (.v 1) (.v 1)) (.add (.mul (.v 2) (.v 2)) (.mul (.v 2) (.v 2))))) (by decide +kernel))
   rw [e4,hh,L.om]
  rw [this,hi,L.mo,L.mo]
 constructor
 · have e5 : mul (mul (mul v i) (mul v i)) r=mul (add u (neg m)) h:=by
    have : mul (mul (mul v i) (mul v i)) r=mul (mul i i) (mul (mul v v) r):=(Laws.req L [v,i,r] (.mul (.mul (.mul (.v 0) (.v 1)) (.mul (.v 0) (.v 1))) (.v 2)) (.mul (.mul (.v 1) (.v 1)) (.mul (.mul (.v 0) (.v 0)) (.v 2))) (by decide +kernel))
    rw [this,e1]
    have : mul (mul i i) (mul (add u (neg m)) (add u m))=mul (add u (neg m)) (mul (mul i i) (add u m)):=(Laws.req L [u,m,i] (.mul (.mul (.v 2) (.v 2)) (.mul (.add (.v 0) (.neg (.v 1))) (.add (.v 0) (.v 1)))) (.mul (.add (.v 0) (.neg (.v 1))) (.mul (.mul (.v 2) (.v 2)) (.add (.v 0) (.v 1)))) (by decide +kernel))
    rw [this,e2,e3]
   rw [e5,hx]
   have : add (mul h (add u m)) (mul (add u (neg m)) h)=mul (add h h) u:=(Laws.req L [h,u,m] (.add (.mul (.v 0) (.add (.v 1) (.v 2))) (.mul (.add (.v 1) (.neg (.v 2))) (.v 0))) (.mul (.add (.v 0) (.v 0)) (.v 1)) (by decide +kernel))
   rw [this,hh,L.om]
 · have : add (mul x (mul v i)) (mul (mul v i) x)=mul v (mul i (add x x)):=(Laws.req L [x,v,i] (.add (.mul (.v 0) (.mul (.v 1) (.v 2))) (.mul (.mul (.v 1) (.v 2)) (.v 0))) (.mul (.v 1) (.mul (.v 2) (.add (.v 0) (.v 0)))) (by decide +kernel))
   rw [this,hi,L.mo]
end
section
variable {k : Nat} {t : Tw k}
theorem Xoi (h : Xbm k t) {a b : El k} (e : mul k t a b=zero k) : sgn k t a=0∨sgn k t b=0:=by
 have:=(Xat h).sm a b
 rw [e,(Xat h).s0 (Xa3 k t)] at this
 exact Int.mul_eq_zero.1 this.symm
theorem Xeh : ∀ {k : Nat} {t : Tw k},red k t→(∀ a,sgn k t a=0→a=zero k)∧(∀ a,a≠zero k→∃ b,inv k t a=some b)
 | 0,_,_=>by
  refine ⟨fun a h=>?_,fun a h=>?_⟩
  · rcases Xa5 a with ⟨h1,e⟩ | ⟨h1,e⟩ | ⟨h1,e⟩
    · exact absurd (show Xg0 a=0 from h) (by rw [e];decide)
    · exact h1
    · exact absurd (show Xg0 a=0 from h) (by rw [e];decide)
  · have h2 : ∀ x : Rat,¬ x=0→∃ b,(if x=0 then none else some (1 / x))=some b:=fun x h=>⟨1 / x,if_neg h⟩
    exact h2 a h
 | k+1,t,h=>by
  obtain ⟨f1,f2⟩:=Xeh h.1
  have R:=Xag h.1
  have L:=Xa3 k t.1
  have S:=Xat R
  have key : ∀ x y : El k,norm k t (x,y)=zero k→x=zero k∧y=zero k:=by
   intro x y hn
   have hn : add k (mul k t.1 x x) (neg k (mul k t.1 (mul k t.1 y y) t.2))=zero k:=hn
   by_cases hy : y=zero k
   · subst hy
     rw [L.mz,L.zm,L.nz,L.az] at hn
     refine ⟨f1 x ?_,rfl⟩
     rcases Xoi R hn with e | e <;> exact e
   · exfalso
     obtain ⟨b,hb⟩:=f2 y hy
     have hb:=Xds hb
     refine h.2.2 ⟨mul k t.1 x b,?_⟩
     have e:=L.sub0 hn
     have e1 : mul k t.1 (mul k t.1 x b) (mul k t.1 x b)=mul k t.1 (mul k t.1 b b) (mul k t.1 x x):=(Laws.req L [x,b] (.mul (.mul (.v 0) (.v 1)) (.mul (.v 0) (.v 1))) (.mul (.mul (.v 1) (.v 1)) (.mul (.v 0) (.v 0))) (by decide +kernel))
     have e2 : mul k t.1 (mul k t.1 b b) (mul k t.1 (mul k t.1 y y) t.2)=mul k t.1 (mul k t.1 (mul k t.1 b y) (mul k t.1 b y)) t.2:=(Laws.req L [b,y,t.2] (.mul (.mul (.v 0) (.v 0)) (.mul (.mul (.v 1) (.v 1)) (.v 2))) (.mul (.mul (.mul (.v 0) (.v 1)) (.mul (.v 0) (.v 1))) (.v 2)) (by decide +kernel))
     rw [e1,e,e2,hb,L.mo,L.om]
  refine ⟨fun a ha=>?_,fun a ha=>?_⟩
  · obtain ⟨x,y⟩:=a
    have ha : L.sx t.2 (sgn k t.1) (x,y)=0:=ha
    have hz : x=zero k∧y=zero k:=by
     unfold Laws.sx at ha
     split at ha
     · rename_i h1
       have h1 : sgn k t.1 y=0∨sgn k t.1 x=sgn k t.1 y:=h1
       have ha : sgn k t.1 x=0:=ha
       exact ⟨f1 _ ha,f1 _ (by omega)⟩
     · rename_i h1
       have h1 : ¬ (sgn k t.1 y=0∨sgn k t.1 x=sgn k t.1 y):=h1
       split at ha
       · have ha : sgn k t.1 y=0:=ha
         omega
       · rename_i h2
         have h2 : ¬ sgn k t.1 x=0:=h2
         rcases Int.mul_eq_zero.1 ha with e | e
         · exact absurd e h2
         · exact key x y (f1 _ e)
    rw [hz.1,hz.2];rfl
  · have hn : norm k t a≠zero k:=fun e=>ha (by
     obtain ⟨x,y⟩:=a
     obtain ⟨e1,e2⟩:=key x y e
     rw [e1,e2];rfl)
    obtain ⟨b,hb⟩:=f2 _ hn
    refine ⟨(mul k t.1 a.1 b,neg k (mul k t.1 a.2 b)),?_⟩
    show (match inv k t.1 (norm k t a) with | none=>none | some n=>some (mul k t.1 a.1 n,neg k (mul k t.1 a.2 n)))=_
    rw [hb];rfl
theorem Xdd (h : red k t) {a : El k} : sgn k t a=0↔a=zero k :=
 ⟨(Xeh h).1 a,fun e=>by rw [e];exact (Xat (Xag h)).s0 (Xa3 k t)⟩
theorem Xgg (h : red k t) {a b : El k} (e : mul k t a b=zero k) : a=zero k∨b=zero k :=
 (Xoi (Xag h) e).imp (Xdd h).1 (Xdd h).1
theorem Xrv (h : red k t) {a b : El k} (e : mul k t a a=mul k t b b) : a=b∨a=neg k b:=by
 have L:=Xa3 k t
 have e1 : mul k t (add k a (neg k b)) (add k a b)=add k (mul k t a a) (neg k (mul k t b b)):=(Laws.req L [a,b] (.mul (.add (.v 0) (.neg (.v 1))) (.add (.v 0) (.v 1))) (.add (.mul (.v 0) (.v 0)) (.neg (.mul (.v 1) (.v 1)))) (by decide +kernel))
 rw [L.sb e] at e1
 rcases Xgg h e1 with e2 | e2
 · exact .inl (L.sub0 e2)
 · right
   rw [L.ac] at e2
   exact L.nu e2
theorem Xob (h : red k t) {a b : El k} (e : mul k t a a=mul k t b b) (ha : 0≤sgn k t a) (hb : 0≤sgn k t b) : a=b:=by
 rcases Xrv h e with e1 | e1
 · exact e1
 · rw [e1,(Xat (Xag h)).sn] at ha
   have hb0 : b=zero k:=(Xdd h).1 (by omega)
   rw [e1,hb0,(Xa3 k t).nz]
theorem Yi6 (h : Xbm k t) {a : El k} (e : Xej k t a) : 0≤sgn k t a:=by
 obtain ⟨w,rfl⟩:=e
 rw [(Xat h).sm]
 exact (Xft (Xcf t w)).1
theorem Ymk (h : red k t) {a : El k} (e : add k a a=zero k) : a=zero k:=by
 rw [←Xdd h] at e ⊢
 rwa [(Xat (Xag h)).same (Xa3 k t) rfl] at e
theorem Xgl : add k (rat k (1 / 2)) (rat k (1 / 2))=rat k 1:=by
 rw [←Xde];congr 1;grind
end
section
variable {k : Nat} {t : Tw (k+1)}
theorem Yi5 {w u : El k} (e : mul k t.1 w w=u) : mul (k+1) t (up k w) (up k w)=up k u:=by rw [Xij,e]
theorem Yep {w u i : El k} (hi : mul k t.1 i t.2=rat k 1) (e : mul k t.1 w w=mul k t.1 u i) : mul (k+1) t (zero k,w) (zero k,w)=up k u:=by
 have L:=Xa3 k t.1
 have hi:=hi
 refine W4j ?_ ?_
 · show add k (mul k t.1 (zero k) (zero k)) (mul k t.1 (mul k t.1 w w) t.2)=u
   rw [e,L.mz,L.za,L.ma,hi,L.mo]
 · show add k (mul k t.1 (zero k) w) (mul k t.1 w (zero k))=zero k
   rw [L.mz,L.zm,L.az]
theorem Xrw (h : red k t.1) {u i : El k} (hi : mul k t.1 i t.2=rat k 1) (h1 : ¬ Xej k t.1 u) (h2 : ¬ Xej k t.1 (mul k t.1 u i)) : ¬ Xej (k+1) t (up k u):=by
 rintro ⟨⟨p,q⟩,e⟩
 have L:=Xa3 k t.1
 have e1 : add k (mul k t.1 p p) (mul k t.1 (mul k t.1 q q) t.2)=u:=congrArg Prod.fst e
 have e2 : add k (mul k t.1 p q) (mul k t.1 q p)=zero k:=congrArg Prod.snd e
 rw [L.mc q p] at e2
 rcases Xgg h (Ymk h e2) with e3 | e3
 · refine h2 ⟨q,?_⟩
   rw [←e1,e3,L.mz,L.za]
   have : mul k t.1 (mul k t.1 (mul k t.1 q q) t.2) i=mul k t.1 (mul k t.1 q q) (mul k t.1 i t.2):=(Laws.req L [q,t.2,i] (.mul (.mul (.mul (.v 0) (.v 0)) (.v 1)) (.v 2)) (.mul (.mul (.v 0) (.v 0)) (.mul (.v 2) (.v 1))) (by decide +kernel))
   rw [this,hi,L.mo]
 · exact h1 ⟨p,by rw [←e1,e3,L.mz,L.zm,L.az]⟩
theorem Yi7 {u v m w i : El k} (hm : mul k t.1 m m=norm k t (u,v)) (hw : mul k t.1 w w=mul k t.1 (rat k (1 / 2)) (add k u m)) (hi : mul k t.1 i (add k w w)=rat k 1) :
 mul (k+1) t (w,mul k t.1 v i) (w,mul k t.1 v i)=(u,v):=by
 obtain ⟨e1,e2⟩:=(Xa3 k t.1).hi Xgl hw hm hi
 exact W4j e1 e2
theorem Ya4 {a : El (k+1)} (h : Xej (k+1) t a) : Xej k t.1 (norm k t a):=by
 obtain ⟨w,rfl⟩:=h
 exact ⟨norm k t w,by rw [Xpd]⟩
theorem Xv9 (h : red k t.1) {u v m : El k} (hv : v≠zero k) (hm : mul k t.1 m m=norm k t (u,v)) (hs : Xej (k+1) t (u,v)) :
 ∃ p,p≠zero k∧(mul k t.1 p p=mul k t.1 (rat k (1 / 2)) (add k u m)∨mul k t.1 p p=mul k t.1 (rat k (1 / 2)) (add k u (neg k m))):=by
 obtain ⟨⟨p,q⟩,e⟩:=hs
 have L:=Xa3 k t.1
 have e1 : add k (mul k t.1 p p) (mul k t.1 (mul k t.1 q q) t.2)=u:=congrArg Prod.fst e
 have e2 : add k (mul k t.1 p q) (mul k t.1 q p)=v:=congrArg Prod.snd e
 have hh : add k (rat k (1 / 2)) (rat k (1 / 2))=rat k 1:=Xgl
 refine ⟨p,fun e0=>hv (by rw [←e2,e0,L.mz,L.zm,L.az]),?_⟩
 have key : mul k t.1 p p=mul k t.1 (rat k (1 / 2)) (add k u (norm k t (p,q))):=by
  rw [←e1]
  show _=mul k t.1 (rat k (1 / 2)) (add k _ (add k (mul k t.1 p p) (neg k (mul k t.1 (mul k t.1 q q) t.2))))
  generalize rat k (1 / 2)=c at hh ⊢
  have e4 : mul k t.1 c (add k (add k (mul k t.1 p p) (mul k t.1 (mul k t.1 q q) t.2)) (add k (mul k t.1 p p) (neg k (mul k t.1 (mul k t.1 q q) t.2))))=mul k t.1 (add k c c) (mul k t.1 p p):=(Laws.req L [c,p,q,t.2] (.mul (.v 0) (.add (.add (.mul (.v 1) (.v 1)) (.mul (.mul (.v 2) (.v 2)) (.v 3))) (.add (.mul (.v 1) (.v 1)) (.neg (.mul (.mul (.v 2) (.v 2)) (.v 3)))))) (.mul (.add (.v 0) (.v 0)) (.mul (.v 1) (.v 1))) (by decide +kernel))
  rw [e4,hh,L.om]
 have e3 : mul k t.1 m m=mul k t.1 (norm k t (p,q)) (norm k t (p,q)):=by
  rw [hm,←e]
  exact Xpd k t (pr p q) (pr p q)
 rcases Xrv h e3 with e5 | e5
 · left;rw [e5];exact key
 · right;rw [e5,L.nn];exact key
end
theorem Xw8 {k : Nat} {t : Tw k} {a b b' : El k} (h : mul k t b a=rat k 1) (h' : mul k t b' a=rat k 1) : b=b':=by
 have L:=Xa3 k t
 have e : mul k t b (mul k t b' a)=mul k t b' (mul k t b a):=(Laws.req L [a,b,b'] (.mul (.v 1) (.mul (.v 2) (.v 0))) (.mul (.v 2) (.mul (.v 1) (.v 0))) (by decide +kernel))
 rw [h,h',L.mo,L.mo] at e
 exact e
theorem Xxd {k : Nat} {t : Tw k} {w i : El k} (h : mul k t i w=rat k 1) : mul k t (mul k t (rat k (1 / 2)) i) (add k w w)=rat k 1:=by
 have L:=Xa3 k t
 have hh : add k (rat k (1 / 2)) (rat k (1 / 2))=rat k 1:=Xgl
 generalize rat k (1 / 2)=c at hh ⊢
 have e : mul k t (mul k t c i) (add k w w)=mul k t (add k c c) (mul k t i w):=(Laws.req L [c,i,w] (.mul (.mul (.v 0) (.v 1)) (.add (.v 2) (.v 2))) (.mul (.add (.v 0) (.v 0)) (.mul (.v 1) (.v 2))) (by decide +kernel))
 rw [e,h,L.mo,hh]
theorem Yi4 {k : Nat} {t : Tw (k+1)} (h : red (k+1) t) {u v m w : El k} (hv : v≠zero k) (hm : mul k t.1 m m=norm k t (u,v)) (hw : mul k t.1 w w=mul k t.1 (rat k (1 / 2)) (add k u m)) : w≠zero k:=by
 intro e
 have L:=Xa3 k t.1
 have hh : add k (rat k (1 / 2)) (rat k (1 / 2))=rat k 1:=Xgl
 generalize rat k (1 / 2)=c at hh hw
 rw [e,L.mz] at hw
 have e1 : add k u m=add k (mul k t.1 c (add k u m)) (mul k t.1 c (add k u m)):=by rw [←L.dm,hh,L.om]
 rw [←hw,L.az] at e1
 have hm' : mul k t.1 m m=add k (mul k t.1 u u) (neg k (mul k t.1 (mul k t.1 v v) t.2)):=hm
 have e2 : mul k t.1 (mul k t.1 v v) t.2=add k (mul k t.1 u u) (neg k (mul k t.1 m m)):=by
  rw [hm'];exact (Laws.req L [u,v,t.2] (.mul (.mul (.v 1) (.v 1)) (.v 2)) (.add (.mul (.v 0) (.v 0)) (.neg (.add (.mul (.v 0) (.v 0)) (.neg (.mul (.mul (.v 1) (.v 1)) (.v 2)))))) (by decide +kernel))
 have e3 : add k (mul k t.1 u u) (neg k (mul k t.1 m m))=mul k t.1 (add k u (neg k m)) (add k u m):=(Laws.req L [u,m] (.add (.mul (.v 0) (.v 0)) (.neg (.mul (.v 1) (.v 1)))) (.mul (.add (.v 0) (.neg (.v 1))) (.add (.v 0) (.v 1))) (by decide +kernel))
 rw [e3,e1,L.mz] at e2
 have S:=Xat (Xag h.1)
 rcases Xgg h.1 e2 with e4 | e4
 · rcases Xgg h.1 e4 with e5 | e5 <;> exact hv e5
 · have:=h.2.1
   rw [e4,S.s0 L] at this
   cases this
end
end Go.Tow
namespace Go.Proofs.YtclmecgphleeeaaGreatDoor
open Go Go.Num Go.Tow
def nS (r k p : Nat) : Nat:=2*p+2*cB r k+r+1
theorem Sz.normS {r k p : Nat} {t : Tw (k+1)} {a : El (k+1)} (ht : TS r (k+1) t) (h : Sz p (toL (k+1) a)) : Sz (nS r k p) (toL k (Tow.norm k t a)):=by
 obtain ⟨E,e0,e1,e2⟩:=Xjv ht.1
 obtain ⟨d,d0,d1,d2⟩:=h
 obtain ⟨g,g0,g1,g2⟩:=ht.2
 have hx : IsD d (2 ^ p) (toL k a.1):=d2.left
 have hy : IsD d (2 ^ p) (toL k a.2):=d2.right
 have h1:=(e2 _ _ d d _ _ d0 d0 hx hx).scale (W1h e0 g0)
 have h2:=e2 _ _ (d*d*E) g _ _ (W1h (W1h d0 d0) e0) g0 (e2 _ _ d d _ _ d0 d0 hy hy) g2
 rw [show d*d*E*g*E=d*d*E*(E*g) from by rw [W0o (d*d*E),W1e g E]] at h2
 have hg : E*g≤2 ^ cB r k*2 ^ r:=W2a e1 (W2c g1)
 have hn : 2 ^ (2*p+2*cB r k+r)=2 ^ p*2 ^ p*2 ^ cB r k*(2 ^ cB r k*2 ^ r):=by
  rw [←W0v,←W0v,←W0v,←W0v];congr 1;omega
 have h1' : IsD (d*d*E*(E*g)) (2 ^ (2*p+2*cB r k+r)) (toL k (Tow.mul k t.1 a.1 a.1)):=h1.mono (by rw [hn];exact W0m _ hg)
 have h2' : IsD (d*d*E*(E*g)) (2 ^ (2*p+2*cB r k+r)) (toL k (Tow.mul k t.1 (Tow.mul k t.1 a.2 a.2) t.2)):=h2.mono (by
  rw [hn,W0o (2 ^ p*2 ^ p*2 ^ cB r k),W1e (2 ^ r)];exact W0a _)
 rw [Tow.norm,Xaz,Xb0]
 refine ⟨d*d*E*(E*g),W1h (W1h (W1h d0 d0) e0) (W1h e0 g0),?_,(h1'.add h2'.neg).mono (by unfold nS;rw [W0p 2 (2*p+2*cB r k+r)];omega)⟩
 have h3 : d*d*E*(E*g)<2 ^ p*2 ^ p*(2 ^ cB r k*(2 ^ cB r k*2 ^ r)):=by
  rw [W0o (d*d)]
  refine W0r (W3f (W3l d1 d1) (W1h e0 (W1h e0 g0))) (W0m _ (W2a e1 hg))
 have h4 : 2 ^ nS r k p=2 ^ (2*p+2*cB r k+r)*2:=by unfold nS;rw [W0p]
 rw [h4,hn,W0o (2 ^ p*2 ^ p)]
 omega
theorem Sz.scal {r k p q : Nat} {t : Tw k} {x y n : El k} (ht : TS r k t) (h : Sz p (toL k x++toL k y)) (hn : Sz q (toL k n)) : Sz (p+q+cB r k) (toL k (Tow.mul k t x n)++toL k (Tow.mul k t y n)):=by
 obtain ⟨E,e0,e1,e2⟩:=Xjv ht
 obtain ⟨d,d0,d1,d2⟩:=h
 obtain ⟨e,k0,k1,k2⟩:=hn
 have h1:=e2 _ _ d e _ _ d0 k0 d2.left k2
 have h2:=e2 _ _ d e _ _ d0 k0 d2.right k2
 rw [←W0v,←W0v] at h1 h2
 refine ⟨d*e*E,W1h (W1h d0 k0) e0,?_,h1.append h2⟩
 rw [W0v,W0v]
 exact W0r (W3f (W3l d1 k1) e0) (W0m _ e1)
def iS (r : Nat) : Nat→Nat→Nat
 | 0,p=>p+1
 | k+1,p=>p+iS r k (nS r k p)+cB r k
theorem IsD.neg2 {d n : Nat} {l m : List Rat} (h : IsD d n (l++m)) : IsD d n (l++m.map (- ·)):=h.left.append h.right.neg
theorem Sz.neg2 {p : Nat} {l m : List Rat} (h : Sz p (l++m)) : Sz p (l++m.map (- ·)):=by
 obtain ⟨d,h0,h1,h2⟩:=h
 exact ⟨d,h0,h1,h2.neg2⟩
theorem Sz.invS {r k p : Nat} {t : Tw k} {a b : El k} (ht : TS r k t) (h : Sz p (toL k a)) (hb : Tow.inv k t a=some b) : Sz (iS r k p) (toL k b):=by
 induction k generalizing p with
 | zero=>exact h.inv ht hb
 | succ k ih =>
  simp only [Tow.inv] at hb
  split at hb
  · cases hb
  · rename_i n hn
    injection hb with hb
    subst hb
    have h1:=ih ht.1 (h.normS ht) hn
    show Sz _ (toL k _++toL k (Tow.neg k _))
    rw [Xb0]
    exact (Sz.scal ht.1 h h1).neg2
theorem Xnn {r : Nat} {k : Nat} : ∀ {s : Nat},r≤s→cB r k≤cB s k:=by
 induction k with
 | zero=>intro s h;exact W0a _
 | succ k ih=>intro s h;have:=ih h;show 2*cB r k+r+1≤2*cB s k+s+1;omega
theorem Xs5 {r s k p q : Nat} (hr : r≤s) (h : p≤q) : nS r k p≤nS s k q:=by have:=Xnn (k:=k) hr;unfold nS;omega
theorem Xnb {r s : Nat} (hr : r≤s) : ∀ {k p q : Nat},p≤q→iS r k p≤iS s k q
 | 0,p,q,h=>by show p+1≤q+1;omega
 | k+1,p,q,h=>by
  have h1:=Xnb hr (Xs5 (k:=k) hr h) (k:=k)
  have h2:=Xnn (k:=k) hr
  show p+iS r k (nS r k p)+cB r k≤q+iS s k (nS s k q)+cB s k
  omega
theorem Xj1 {r s : Nat} (hr : r≤s) : ∀ {k p q : Nat},p≤q→iB r k p≤iB s k q
 | 0,p,q,h=>by show p+1≤q+1;omega
 | k+1,p,q,h=>by
  have h2:=Xnn (k:=k) hr
  have h1:=Xj1 hr (show nB r k p≤nB s k q by unfold nB;omega) (k:=k)
  show 2*(p+iB r k (nB r k p)+cB r k)≤2*(q+iB s k (nB s k q)+cB s k)
  omega
theorem Xox (x : Rat) : (x*x).num=x.num*x.num∧(x*x).den=x.den*x.den:=by
 have hc : (x.num*x.num).natAbs.gcd (x.den*x.den)=1:=by
  rw [W4a]
  exact Nat.Coprime.mul_right (Nat.Coprime.mul_left x.reduced x.reduced) (Nat.Coprime.mul_left x.reduced x.reduced)
 rw [Rat.num_mul,Rat.den_mul,hc]
 exact ⟨Int.ediv_one _,Nat.div_one _⟩
theorem Ye1 (n : Nat) : rt (n*n)=n:=Ye3 (W0a _) (by rw [W1g,W0w];omega)
def sqN (n : Nat) : Prop:=rt n*rt n=n
theorem Xoc {q : Rat} (h0 : 0≤q.num) (h1 : sqN q.num.natAbs) (h2 : sqN q.den) : ∃ x : Rat,x.num=(rt q.num.natAbs : Int)∧x.den=rt q.den∧x*x=q:=by
 have hd : rt q.den≠0:=fun e=>q.den_nz (by rw [←h2,e])
 have hc : (rt q.num.natAbs).Coprime (rt q.den):=by
  have:=q.reduced
  rw [←h1,←h2] at this
  exact Nat.Coprime.coprime_mul_right (Nat.Coprime.coprime_mul_right_right this)
 refine ⟨⟨(rt q.num.natAbs : Int),rt q.den,hd,by rw [W1j];exact hc⟩,rfl,rfl,?_⟩
 refine Rat.ext ?_ ?_
 · rw [(Xox _).1]
   show (rt q.num.natAbs : Int)*(rt q.num.natAbs : Int)=q.num
   have : ((rt q.num.natAbs*rt q.num.natAbs : Nat) : Int)=(q.num.natAbs : Int):=by rw [h1]
   rw [W3b] at this
   rw [this];omega
 · rw [(Xox _).2];exact h2
theorem Xry {q : Rat} : (∃ x : Rat,x*x=q)↔0≤q.num∧sqN q.num.natAbs∧sqN q.den:=by
 refine ⟨?_,fun ⟨h0,h1,h2⟩=>let ⟨x,_,_,h⟩:=Xoc h0 h1 h2;⟨x,h⟩⟩
 rintro ⟨x,rfl⟩
 obtain ⟨e1,e2⟩:=Xox x
 rw [e1,e2]
 refine ⟨?_,?_,?_⟩
 · rcases Int.le_total 0 x.num with h | h
   · exact Int.mul_nonneg h h
   · exact Int.mul_nonneg_of_nonpos_of_nonpos h h
 · unfold sqN;rw [W4a,Ye1]
 · unfold sqN;rw [Ye1]
theorem Sz.half {k : Nat} : Sz 3 (toL k (Tow.rat k (1 / 2))):=Sz.rat (p:=2) k ⟨show (1 / 2 : Rat).num.natAbs<2 ^ 2 by decide +kernel,show ((1 / 2 : Rat).den : Int).natAbs<2 ^ 2 by decide +kernel⟩
open Go Go.Vm Go.Num Go.Tow
section
variable {k : Nat}
theorem hvL (a : Tow.El (k+1)) : ((toL k a.1++toL k a.2).map dq).length=2*2 ^ k:=by rw [lq,W0c,Xab,Xab];omega
theorem hvT (a : Tow.El (k+1)) : ((toL k a.1++toL k a.2).map dq).take (2 ^ k)=(toL k a.1).map dq:=by rw [←W2g,←Xab k a.1,W7d]
theorem hvD (a : Tow.El (k+1)) : ((toL k a.1++toL k a.2).map dq).drop (2 ^ k)=(toL k a.2).map dq:=by rw [←W5u,←Xab k a.1,W7u]
theorem Xco (a : Tow.El (k+1)) : 2 ^ k≤((toL k a.1++toL k a.2).map dq).length:=by rw [hvL];have:=W0t k;omega
theorem twL (t : Tw (k+1)) : ((toT k t.1++[toL k t.2]).map dqs).length=k+1:=by rw [lt',W0c,Xaa];rfl
theorem Xi5 (t : Tw (k+1)) : k≤((toT k t.1++[toL k t.2]).map dqs).length:=by rw [twL];omega
theorem twT (t : Tw (k+1)) : ((toT k t.1++[toL k t.2]).map dqs).take k=(toT k t.1).map dqs:=by rw [←W2g,W6f (Xaa k t.1)]
theorem twU (t : Tw (k+1)) : ((toT k t.1++[toL k t.2]).map dqs)[k]?=some (de t.2):=by rw [W1s,W0u (by rw [Xaa];exact W0a _),Xaa,W2w];rfl
theorem hvq (a : Tow.El (k+1)) (hk : k≤16) : arB .quo .i64 (((toL k a.1++toL k a.2).map dq).length : Nat) 2 (2 ^ k : Nat):=Yh8 (hvL a) (W0i (p16 hk) (by decide))
theorem tw1 (t : Tw (k+1)) (hk : k≤16) : arB .sub .i64 (((toT k t.1++[toL k t.2]).map dqs).length : Nat) 1 k:=wr (by rw [twL];omega) (by simp only [inK];omega)
end
end Go.Proofs.YtclmecgphleeeaaGreatDoor
namespace Go.Proofs.YtclmecgphleeeaaGreatDoor.R6
open Go Go.Vm Go.Num Go.Tow Go.Proofs.YtclmecgphleeeaaGreatDoor
theorem Norm_ok {k r s : Nat} {t : Tw (k+1)} {a : Tow.El (k+1)} (hT : TS r (k+1) t) (ha : Sz s (toL (k+1) a)) (hk : k+1≤16) (hs : nB r k s≤4398046511104) : C0 124 [.d (dt t),.d (de a)] (·=.d (de (Tow.norm k t a))):=by
 have hx : Sz s (toL k a.1):=Sz.left ha
 have hy : Sz s (toL k a.2):=Sz.right ha
 have hn : nB r k s=4*s+3*cB r k+r+1:=rfl
 refine En Tryz.func124 fun _ _ _=>?_
 refine Ar (2 ^ k : Nat) rfl ?_ (hvq a (by omega))
 refine Dw rfl ?_
 refine Ar k rfl ?_ (tw1 t (by omega))
 refine Tk k ((toT k t.1).map dqs) rfl rfl (Xi5 t) (twT t) ?_
 refine Ar k rfl ?_ (tw1 t (by omega))
 refine Ix k rfl (twU t) ?_
 refine Dw rfl ?_
 refine Tk (2 ^ k) ((toL k a.1).map dq) rfl rfl (Xco a) (hvT a) ?_
 refine Tk (2 ^ k) ((toL k a.1).map dq) rfl rfl (Xco a) (hvT a) ?_
 refine Ce rfl (Mul_el hT.1 hx hx (by omega) (by omega)) ?_
 refine Dp (2 ^ k) ((toL k a.2).map dq) rfl rfl (Xco a) (hvD a) ?_
 refine Dp (2 ^ k) ((toL k a.2).map dq) rfl rfl (Xco a) (hvD a) ?_
 refine Ce rfl (Mul_el hT.1 hy hy (by omega) (by omega)) ?_
 refine Ce rfl (Mul_el hT.1 (hy.mul hT.1 hy) hT.2 (by omega) (by omega)) ?_
 refine Ce rfl (Sub_el (by omega) (hx.mul hT.1 hx).ps ((hy.mul hT.1 hy).mul hT.1 hT.2) (by omega)) ?_
 exact R0
theorem Root_ok {k i r : Nat} {t : Tw k} (hk : k≤16) (hi : i<k) : C0 184 [.d (dt t),.d (.int .i64 i)] (·=.d (de (Xcg k i))):=by
 have hp:=p16 hk
 have hpi : 2 ^ i<2 ^ k:=W4i (by decide) hi
 have h0:=W0t k
 have e : (0 : Rat)::List.replicate (2 ^ (toT k t).length - 1) 0=List.replicate (2 ^ k) 0:=by rw [Xaa,←W4m,show 2 ^ k - 1+1=2 ^ k by omega]
 refine En Tryz.func184 fun _ _ _=>?_
 refine Ce rfl (R2.FromInt_ok (z:=0) (by decide)) ?_
 refine Cr rfl (e ▸ Xhy (t:=toT k t) (x:=0) (by rw [Xaa];omega) (by rw [Xaa];omega)) ?_
 refine Dw rfl ?_
 refine Ar (2 ^ i : Nat) rfl ?_ (Xb1 (by omega))
 refine Ce rfl (R2.FromInt_ok (z:=1) (by decide)) ?_
 refine Eo (2 ^ i) rfl (by simp only [lq,W1y];omega) ?_
 refine Sto rfl (by simp only [lq,W1y];omega) (ms (f:=dq) (u:=1)) ?_
 refine R1 rfl (.own rfl (by simp) ?_)
 rw [W1f,←Xv4 hi]
 exact W0b (by simp [Xab])
def Ymr (k : Nat) (zs : List D) (v : AV) (H' : Hpl) : Prop:=(k=0∧v=.tup (.pr (.lit 4 zs) (.d (.int .i64 0)))∧H'=[])∨(v=.tup (.pr (.gr 1000000 4 zs) (.d (.int .i64 0)))∧H'=[(1000000,.tok zs.length 4)])
theorem Yme (x : Rat) : x⁻¹=1 / x:=by rw [W7w,Rat.one_mul]
theorem Ybg {k : Nat} {t : Tw k} (h : red k t) {a : Tow.El k} (h0 : a≠zero k) : ∃ b,Tow.inv k t a=some b:=(Xeh h).2 a h0
theorem Ybq {k : Nat} {t : Tw k} (h : red k t) : zero k≠rat k 1:=fun e=>by
 have h1:=Xcw (x:=1) (Xag h)
 rw [←e,(Xdd h).2 rfl,Xbs (by decide)] at h1
 cases h1
theorem Xtx {k : Nat} {t : Tw k} (h : red k t) {a b : Tow.El k} (e : Tow.inv k t a=some b) : a≠zero k:=fun h0=>by
 have h1:=Xds e
 rw [h0,(Xa3 k t).mz] at h1
 exact Ybq h h1
theorem Yca {k : Nat} {t : Tw (k+1)} {a : Tow.El (k+1)} {x : Tow.El k} {y : Tow.El (k+1)} (ha : a.2=zero k) (hx : Tow.inv k t.1 a.1=some x) (hy : Tow.inv (k+1) t a=some y) : y=(x,zero k):=by
 refine Xw8 (t:=t) (a:=a) (Xds hy) ?_
 have e : a=up k a.1:=by show (a.1,a.2)=(a.1,zero k);rw [ha]
 rw [e]
 exact (Xij k t x a.1).trans (by rw [Xds hx];rfl)
theorem Ydt {k : Nat} : ∀ {r s : Nat} {t : Tw k} {a : Tow.El k},TS r k t→Sz s (toL k a)→red k t→a≠zero k→k≤16→iB r k s≤4398046511104→∃ x,Tow.inv k t a=some x∧CW0 61 [.d (dt t),.d (de a)] [] (Ymr k ((toL k x).map dq)):=by
 induction k with
 | zero =>
  intro r s t a hT ha hR h0 hk hs
  have hs : s+1≤4398046511104:=hs
  have e : ∀ y : Rat,y≠0→Tow.inv 0 () y=some (1 / y : Rat):=fun y hy=>by rw [Ymf,if_neg hy]
  refine ⟨_,e a h0,?_⟩
  refine EnW Tryz.func61 fun _ _ _ _=>?_
  refine Yes rfl rfl ?_
  refine Ix 0 rfl (u:=dq a) rfl ?_
  refine No rfl (fun h=>h0 (R2.zero_of h)) ?_
  refine Ix 0 rfl (u:=dq a) rfl ?_
  refine Ce rfl (R2.Inv_ok (ha.qs (W0g.2 rfl)) (by omega) h0) ?_
  exact Rw [] [] rfl (.tup (.cons (.rf rfl) (.one (.rf rfl) (fun _ _ e=>by cases e) (fun _ _ e=>by cases e)))) (.inl ⟨rfl,by rw [Yme a];rfl,rfl⟩)
 | succ k ih =>
  intro r s t a hT ha hR h0 hk hs
  have hx : Sz s (toL k a.1):=Sz.left ha
  have hy : Sz s (toL k a.2):=Sz.right ha
  have hlen:=Xab k
  have hp:=p16 hk
  have hp1 : 2 ^ (k+1)=2*2 ^ k:=by rw [W0p];omega
  have hpk:=W0t k
  obtain ⟨hi1,hi2⟩:=Ycf hs
  have hN:=ha.norm hT
  have hge:=Ygh r k (nB r k s)
  have hiB1:=Xj1 (W0a r) (Xqo r k s) (k:=k)
  obtain ⟨x,hinv⟩:=Ybg hR h0
  refine ⟨x,hinv,?_⟩
  have fit : ∀ {g : Hp} {K : Hpl} {o : Nat} {zs : List D},Xcx K (.gr o 4 zs)=true→FitR g K (.tup (.pr (.gr o 4 zs) (.d (.int .i64 0)))) (.tup (.pr (.gr o 4 zs) (.d (.int .i64 0)))):=fun h=>.tup (.cons (.rf h) (.one (.rf rfl) (fun _ _ e=>by cases e) (fun _ _ e=>by cases e)))
  refine EnW Tryz.func61 fun _ _ _ _=>?_
  refine No rfl (by show ¬ ((((toT k t.1++[toL k t.2]).map dqs).length : Nat) : Int)=0;rw [twL];omega) ?_
  refine Ar (2 ^ k : Nat) rfl ?_ (hvq a (by omega))
  refine Ar k rfl ?_ (tw1 t (by omega))
  refine Tk k ((toT k t.1).map dqs) rfl rfl (Xi5 t) (twT t) ?_
  refine Dp (2 ^ k) ((toL k a.2).map dq) rfl rfl (Xco a) (hvD a) ?_
  refine Ce rfl (Zero_ok (l:=toL k a.2) (by rw [hlen];omega)) ?_
  refine By rfl (fun h1=>?_) fun h1=>?_
  · have ea:=(Xap k a.2).2 h1
    have e1 : a.1≠zero k:=fun e=>h0 (by show (a.1,a.2)=(zero k,zero k);rw [e,ea])
    obtain ⟨y,hy1,hc⟩:=ih hT.1 hx hR.1 e1 (by omega) (by omega)
    have ex:=Yca ea hy1 hinv
    have el : (toL (k+1) x).map dq=(toL k y).map dq++((0 : Rat)::List.replicate (2 ^ (toT k t.1).length - 1) 0).map dq:=by
     rw [ex,←W2z,Xaa,←W4m,show 2 ^ k - 1+1=2 ^ k by omega,←Xbn];rfl
    have hll : ((toL (k+1) x).map dq).length≤1048576:=by rw [lq,Xab];omega
    refine Tk (2 ^ k) ((toL k a.1).map dq) rfl rfl (Xco a) (hvT a) ?_
    refine Cw [] rfl hc fun v H' _ hv=>?_
    rcases hv with ⟨_,rfl,rfl⟩ | ⟨rfl,rfl⟩
    · refine No rfl (by simp) ?_
      refine Ce rfl (R2.FromInt_ok (z:=0) (by decide)) ?_
      refine Ce rfl (FromRat_ok (t:=toT k t.1) (x:=0) (by rw [Xaa];omega)) ?_
      refine ApL ((toL (k+1) x).map dq) rfl el.symm (by simp only [lq,W0s];omega) (by omega) ?_
      refine Og 4 rfl rfl ?_
      exact Rw [(54,1000000)] [(1000000,.tok ((toL (k+1) x).map dq).length 4)] rfl (fit rfl) (.inr ⟨rfl,rfl⟩)
    · refine No rfl (by simp) ?_
      refine Ce rfl (R2.FromInt_ok (z:=0) (by decide)) ?_
      refine Ce rfl (FromRat_ok (t:=toT k t.1) (x:=0) (by rw [Xaa];omega)) ?_
      refine ApG ((toL (k+1) x).map dq) rfl el.symm (by omega) ?_
      exact Rw [(54,1000000)] [(1000000,.tok ((toL (k+1) x).map dq).length 4)] rfl (fit rfl) (.inr ⟨rfl,rfl⟩)
  · have hnz : Tow.norm k t a≠zero k:=by
     have hh : Tow.inv (k+1) t a=match Tow.inv k t.1 (Tow.norm k t a) with | none=>none | some x=>some (mul k t.1 a.1 x,Tow.neg k (mul k t.1 a.2 x)):=rfl
     cases h2 : Tow.inv k t.1 (Tow.norm k t a) with
     | none=>rw [hinv,h2] at hh;cases hh
     | some y=>exact Xtx hR.1 h2
    obtain ⟨y,hy1,hc⟩:=ih hT.1 hN hR.1 hnz (by omega) (by omega)
    have hzx:=hN.inv hT.1 hy1
    have ex : x=(mul k t.1 a.1 y,Tow.neg k (mul k t.1 a.2 y)):=by
     have hh : Tow.inv (k+1) t a=match Tow.inv k t.1 (Tow.norm k t a) with | none=>none | some x=>some (mul k t.1 a.1 x,Tow.neg k (mul k t.1 a.2 x)):=rfl
     rw [hinv,hy1] at hh;injection hh
    have en : Tow.neg k (mul k t.1 a.2 y)=mul k t.1 (Tow.neg k a.2) y:=((Xa3 k t.1).nm _ _).symm
    have el : (toL (k+1) x).map dq=(toL k (mul k t.1 a.1 y)).map dq++(toL k (mul k t.1 (Tow.neg k a.2) y)).map dq:=by rw [ex,en,←W2z];rfl
    have hll : ((toL (k+1) x).map dq).length≤1048576:=by rw [lq,Xab];omega
    have hcd : C0 61 [.d (dt t.1),.d (de (Tow.norm k t a))] (·=.tup (.pr (.d (de y)) (.d (.int .i64 0)))):=CW.data hc rfl fun v H' hv=>by
     rcases hv with ⟨_,rfl,rfl⟩ | ⟨rfl,rfl⟩
     · exact ⟨_,.tup (.cons (.lit rfl) (.one (.rf rfl) (fun _ _ e=>by cases e) (fun _ _ e=>by cases e))),rfl⟩
     · exact ⟨_,.tup (.cons (.gr rfl) (.one (.rf rfl) (fun _ _ e=>by cases e) (fun _ _ e=>by cases e))),rfl⟩
    refine Ce rfl (Norm_ok hT ha hk (by omega)) ?_
    refine Ce rfl hcd ?_
    refine No rfl (by simp) ?_
    refine Dw rfl ?_
    refine Tk (2 ^ k) ((toL k a.1).map dq) rfl rfl (Xco a) (hvT a) ?_
    rcases Xp9 hT.1 hx hzx (by omega) (by omega) with hm | hm
    · refine Ce rfl hm ?_
      refine Dp (2 ^ k) ((toL k a.2).map dq) rfl rfl (Xco a) (hvD a) ?_
      refine Ce rfl (Neg_el (by omega) hy.ps (by omega)) ?_
      refine Ce rfl (Mul_el hT.1 (Xk7 hy) hzx (by omega) (by omega)) ?_
      refine ApL ((toL (k+1) x).map dq) rfl el.symm (by rw [lq,hlen];omega) (by omega) ?_
      refine Og 4 rfl rfl ?_
      exact Rw [(80,1000000)] [(1000000,.tok ((toL (k+1) x).map dq).length 4)] rfl (fit rfl) (.inr ⟨rfl,rfl⟩)
    · refine Cg rfl hm ?_
      refine Dp (2 ^ k) ((toL k a.2).map dq) rfl rfl (Xco a) (hvD a) ?_
      refine Ce rfl (Neg_el (by omega) hy.ps (by omega)) ?_
      refine Ce rfl (Mul_el hT.1 (Xk7 hy) hzx (by omega) (by omega)) ?_
      refine ApG ((toL (k+1) x).map dq) rfl el.symm (by omega) ?_
      exact Rw [(80,1000000)] [(1000000,.tok ((toL (k+1) x).map dq).length 4)] rfl (fit rfl) (.inr ⟨rfl,rfl⟩)
theorem Inv_ok {k r s : Nat} {t : Tw k} {a x : Tow.El k} (hT : TS r k t) (ha : Sz s (toL k a)) (hR : red k t) (hx : Tow.inv k t a=some x) (hk : k≤16) (hs : iB r k s≤4398046511104) : C0 61 [.d (dt t),.d (de a)] (·=.tup (.pr (.d (de x)) (.d (.int .i64 0)))):=by
 obtain ⟨y,hy,hc⟩:=Ydt hT ha hR (Xtx hR hx) hk hs
 rw [hx] at hy
 injection hy with hy
 subst hy
 exact CW.data hc rfl fun v H' hv=>by
  rcases hv with ⟨_,rfl,rfl⟩ | ⟨rfl,rfl⟩
  · exact ⟨_,.tup (.cons (.lit rfl) (.one (.rf rfl) (fun _ _ e=>by cases e) (fun _ _ e=>by cases e))),rfl⟩
  · exact ⟨_,.tup (.cons (.gr rfl) (.one (.rf rfl) (fun _ _ e=>by cases e) (fun _ _ e=>by cases e))),rfl⟩
theorem Inv0_ok {k : Nat} : ∀ {t : Tw k},k≤16→C0 61 [.d (dt t),.d (de (zero k))] (·=.tup (.pr (.d (dqs [])) (.d (.int .i64 6)))):=by
 induction k with
 | zero =>
  intro t hk
  refine En Tryz.func61 fun _ _ _=>?_
  refine Yes rfl rfl ?_
  refine Ix 0 rfl (u:=dq 0) rfl ?_
  refine Yes rfl (by decide +kernel) ?_
  exact RTt rfl (.cons (.nil rfl) (.one (.rf rfl) (fun _ _ e=>by cases e) (fun _ _ e=>by cases e)))
 | succ k ih =>
  intro t hk
  have hp:=p16 hk
  have hp1 : 2 ^ (k+1)=2*2 ^ k:=by rw [W0p];omega
  refine En Tryz.func61 fun _ _ _=>?_
  refine No rfl (by show ¬ ((((toT k t.1++[toL k t.2]).map dqs).length : Nat) : Int)=0;rw [twL];omega) ?_
  refine Ar (2 ^ k : Nat) rfl ?_ (hvq (zero k,zero k) (by omega))
  refine Ar k rfl ?_ (tw1 t (by omega))
  refine Tk k ((toT k t.1).map dqs) rfl rfl (Xi5 t) (twT t) ?_
  refine Dp (2 ^ k) ((toL k (zero k)).map dq) rfl rfl (Xco (zero k,zero k)) (hvD (zero k,zero k)) ?_
  refine Ce rfl (Zero_ok (l:=toL k (zero k)) (by rw [Xab];omega)) ?_
  refine Yes rfl ((Xap k _).1 rfl) ?_
  refine Tk (2 ^ k) ((toL k (zero k)).map dq) rfl rfl (Xco (zero k,zero k)) (hvT (zero k,zero k)) ?_
  refine Ce rfl (ih (t:=t.1) (by omega)) ?_
  refine Yes rfl (by decide) ?_
  exact RTt rfl (.cons (.nil rfl) (.one (.rf rfl) (fun _ _ e=>by cases e) (fun _ _ e=>by cases e)))
end Go.Proofs.YtclmecgphleeeaaGreatDoor.R6
namespace Go.Proofs.YtclmecgphleeeaaGreatDoor
open Go Go.Num Go.Tow
def gC (r : Nat) : Nat→Nat
 | 0=>0
 | k+1=>2*gC r k+2*cB r k+r+iS r k r+2
theorem IsD.pw {d n a b : Nat} {l : List Rat} (h : IsD d (n*2 ^ a) l) (hab : a≤b) : IsD d (n*2 ^ b) l:=h.mono (W0m _ (W0h (by decide) hab))
theorem IsD.sc {d n a b e : Nat} {l : List Rat} (h : IsD d (n*2 ^ a) l) (he : 0<e) (hb : e≤2 ^ b) : IsD (d*e) (n*2 ^ (a+b)) l:=(h.scale he).mono (by rw [W0v,←W0o];exact W0m _ hb)
theorem IsD.dbl {d n : Nat} {l : List Rat} (h : IsD d n (List.zipWith (·+·) l l)) : IsD (d*2) n l:=fun x hx=>by
 obtain ⟨i,hi⟩:=W2u hx
 obtain ⟨z,h1,h2⟩:=h (x+x) (W0l (i:=i) (by rw [W5s,hi]))
 refine ⟨z,?_,h2⟩
 rw [←h1,W6d]
 show x*(d*2)=_
 grind
theorem Xsf {x : Rat} {e n : Nat} (he : 0<e) (h : IsD (e*e) (n*n) [x*x]) : IsD e n [x]:=fun y hy=>by
 obtain rfl:=W0g.1 hy
 obtain ⟨z,h1,h2⟩:=h _ (W0q ..)
 have h3 : (y*e)*(y*e)=(z : Rat):=by rw [←h1,W6d];grind
 obtain ⟨e1,e2⟩:=Xox (y*e)
 rw [h3] at e1 e2
 have e2 : 1=(y*e).den*(y*e).den:=e2
 have e1 : z=(y*e).num*(y*e).num:=e1
 have hd : (y*e).den=1:=Nat.eq_one_of_mul_eq_one_left e2.symm
 refine ⟨(y*e).num,?_,?_⟩
 · have:=Xjw (y*e)
   rw [hd] at this
   rw [←this];exact (Rat.mul_one _).symm
 · rw [e1,W4a] at h2
   exact Nat.lt_of_not_le fun hle=>W7i _ (W0r h2 (W2a hle hle))
theorem Xoo : ∀ {k r : Nat} {t : Tw k},TS r k t→red k t→∃ Δ,0<Δ∧Δ≤2 ^ gC r k∧∀ (s : El k) (e n : Nat),0<e→IsD (e*e) (n*n) (toL k (mul k t s s))→IsD (e*Δ) (n*2 ^ gC r k) (toL k s)
 | 0,r,t,_,_=>⟨1,by decide,W0a 1,fun s e n he h=>by rw [W4c,show 2 ^ gC r 0=1 from rfl,W4c];exact Xsf he h⟩
 | k+1,r,t,hT,hR=>by
  obtain ⟨E,E0,E1,E2⟩:=Xjv hT.1
  obtain ⟨g,g0,g1,g2⟩:=hT.2
  obtain ⟨Δ,D0,D1,D2⟩:=Xoo hT.1 hR.1
  have L:=Xa3 k t.1
  obtain ⟨i,hi⟩:=(Xeh hR.1).2 t.2 (show t.2≠zero k from fun h0=>hR.2.2 ⟨zero k,by rw [h0,L.mz]⟩)
  obtain ⟨f,f0,f1,f2⟩:=Sz.invS hT.1 hT.2 hi
  have hi:=Xds hi
  generalize hc : cB r k=c at *
  generalize hq : iS r k r=q at *
  generalize hG : gC r k=G at *
  have hg' : gC r (k+1)=2*G+2*c+r+q+2:=by show 2*gC r k+2*cB r k+r+iS r k r+2=_;rw [hc,hq,hG]
  have g1:=W2c g1
  have f1:=W2c f1
  have Eg1 : E*g≤2 ^ (c+r):=by rw [W0v];exact W2a E1 g1
  have Eg0:=W1h E0 g0
  have M : ∀ {a b : El k} {d e n m x y : Nat},0<d→0<e→IsD d (n*2 ^ x) (toL k a)→IsD e (m*2 ^ y) (toL k b)→IsD (d*e*E) (n*m*2 ^ (x+y+c)) (toL k (mul k t.1 a b)):=fun hd he h h'=>(E2 _ _ _ _ _ _ hd he h h').mono (by
   rw [W0v,W0v];exact Nat.le_of_eq (by ac_rfl))
  refine ⟨2*(E*g*Δ)*Δ*(f*E),?_,?_,fun s e n he h=>?_⟩
  · exact W1h (W1h (W1h (by decide) (W1h Eg0 D0)) D0) (W1h f0 E0)
  · have x1:=W2a (W2a (W2a (W0a 2) (W2a Eg1 D1)) D1) (W2a f1 E1)
    refine W0i x1 ?_
    rw [show (2 : Nat)*(2 ^ (c+r)*2 ^ G)*2 ^ G*(2 ^ q*2 ^ c)=2 ^ (1+((c+r)+G)+G+(q+c)) by simp only [W0v]]
    exact W0h (by decide) (by omega)
  obtain ⟨u,v⟩:=s
  have ha : IsD (e*e) (n*n) (toL k (add k (mul k t.1 u u) (mul k t.1 (mul k t.1 v v) t.2))):=h.left
  have hb : IsD (e*e) (n*n) (toL k (add k (mul k t.1 u v) (mul k t.1 v u))):=h.right
  generalize h1 : add k (mul k t.1 u u) (mul k t.1 (mul k t.1 v v) t.2)=a1 at ha
  generalize h2 : add k (mul k t.1 u v) (mul k t.1 v u)=a2 at hb
  have e0:=W1h he he
  have ha : IsD (e*e) (n*n*2 ^ 0) (toL k a1):=by simpa using ha
  have hb : IsD (e*e) (n*n*2 ^ 0) (toL k a2):=by simpa using hb
  have g2 : IsD g (1*2 ^ r) (toL k t.2):=by simpa using g2
  have f2 : IsD f (1*2 ^ q) (toL k i):=by simpa using f2
  obtain ⟨N,hN⟩ : ∃ N,N=add k (mul k t.1 u u) (neg k (mul k t.1 (mul k t.1 v v) t.2)):=⟨_,rfl⟩
  have hNN : mul k t.1 N N=add k (mul k t.1 a1 a1) (neg k (mul k t.1 (mul k t.1 a2 a2) t.2)):=by
   rw [hN,←h1,←h2]
   exact (Laws.req L [u,v,t.2] (.mul (.add (.mul (.v 0) (.v 0)) (.neg (.mul (.mul (.v 1) (.v 1)) (.v 2)))) (.add (.mul (.v 0) (.v 0)) (.neg (.mul (.mul (.v 1) (.v 1)) (.v 2))))) (.add (.mul (.add (.mul (.v 0) (.v 0)) (.mul (.mul (.v 1) (.v 1)) (.v 2))) (.add (.mul (.v 0) (.v 0)) (.mul (.mul (.v 1) (.v 1)) (.v 2)))) (.neg (.mul (.mul (.add (.mul (.v 0) (.v 1)) (.mul (.v 1) (.v 0))) (.add (.mul (.v 0) (.v 1)) (.mul (.v 1) (.v 0)))) (.v 2)))) (by decide +kernel))
  have n1 : IsD (e*e*E*g*(e*e*E*g)) (n*n*2 ^ (c+r+1)*(n*n*2 ^ (c+r+1))) (toL k (mul k t.1 N N)):=by
   rw [hNN,Xaz,Xb0]
   have x1:=(M e0 e0 ha ha).sc (W1h Eg0 g0) (show E*g*g≤2 ^ (c+r+r) by rw [W0v 2 (c+r)];exact W2a Eg1 g1)
   have x2:=((M (W1h (W1h e0 e0) E0) g0 (M e0 e0 hb hb) g2).sc g0 g1).neg
   rw [W4c] at x2
   rw [show e*e*(e*e)*E*(E*g*g)=e*e*E*g*(e*e*E*g) by ac_rfl] at x1
   rw [show e*e*(e*e)*E*g*E*g=e*e*E*g*(e*e*E*g) by ac_rfl] at x2
   have x3:=x1.pw (show _≤2*c+2*r by omega)
   have x4:=x2.pw (show _≤2*c+2*r by omega)
   refine (x3.add x4).mono ?_
   rw [←Nat.mul_two]
   have x5 : 2 ^ (2*c+2*r)*2≤2 ^ (c+r+1)*2 ^ (c+r+1):=by
    rw [←W0p,←W0v];exact W0h (by decide) (by omega)
   have x6:=W0m (n*n*(n*n)) x5
   rw [show n*n*(n*n)*2 ^ (2*c+2*r)*2=n*n*(n*n)*(2 ^ (2*c+2*r)*2) by ac_rfl]
   exact W0i x6 (Nat.le_of_eq (by ac_rfl))
  have n2:=D2 N (e*e*E*g) (n*n*2 ^ (c+r+1)) (W1h (W1h e0 E0) g0) n1
  rw [W0o (n*n),←W0v] at n2
  have K0 : 0<E*g*Δ:=W1h Eg0 D0
  have K1 : E*g*Δ≤2 ^ (c+r+G):=by rw [W0v 2 (c+r)];exact W2a Eg1 D1
  have a':=ha.sc K0 K1
  rw [show e*e*E*g*Δ=e*e*(E*g*Δ) by ac_rfl] at n2
  have half : ∀ {w S : El k},add k w w=S→IsD (e*e*(E*g*Δ)) (n*n*2 ^ (c+r+G+2)) (toL k S)→IsD (e*e*(E*g*Δ)*2) (n*n*2 ^ (c+r+G+2)) (toL k w):=fun e h=>IsD.dbl (by rw [←Xaz,e];exact h)
  have s1 : IsD (e*e*(E*g*Δ)) (n*n*2 ^ (c+r+G+2)) (toL k (add k a1 N)):=by
   rw [Xaz]
   refine ((a'.pw (show _≤c+r+G+1 by omega)).add (n2.pw (show _≤c+r+G+1 by omega))).mono ?_
   rw [W0p 2 (c+r+G+1),←W0o,Nat.mul_two];exact W0a _
  have s2 : IsD (e*e*(E*g*Δ)) (n*n*2 ^ (c+r+G+2)) (toL k (add k a1 (neg k N))):=by
   rw [Xaz,Xb0]
   refine ((a'.pw (show _≤c+r+G+1 by omega)).add ((n2.pw (show _≤c+r+G+1 by omega)).neg)).mono ?_
   rw [W0p 2 (c+r+G+1),←W0o,Nat.mul_two];exact W0a _
  have u1:=half (w:=mul k t.1 u u) (by rw [←h1,hN];exact (Laws.req L [u,v,t.2] (.add (.mul (.v 0) (.v 0)) (.mul (.v 0) (.v 0))) (.add (.add (.mul (.v 0) (.v 0)) (.mul (.mul (.v 1) (.v 1)) (.v 2))) (.add (.mul (.v 0) (.v 0)) (.neg (.mul (.mul (.v 1) (.v 1)) (.v 2))))) (by decide +kernel))) s1
  have v1:=half (w:=mul k t.1 (mul k t.1 v v) t.2) (by rw [←h1,hN];exact (Laws.req L [u,v,t.2] (.add (.mul (.mul (.v 1) (.v 1)) (.v 2)) (.mul (.mul (.v 1) (.v 1)) (.v 2))) (.add (.add (.mul (.v 0) (.v 0)) (.mul (.mul (.v 1) (.v 1)) (.v 2))) (.neg (.add (.mul (.v 0) (.v 0)) (.neg (.mul (.mul (.v 1) (.v 1)) (.v 2)))))) (by decide +kernel))) s2
  have K2 : 0<E*g*Δ*2:=W1h K0 (by decide)
  have ek : 0<e*(E*g*Δ*2):=W1h he K2
  have sq : ∀ {w : El k} {x : Nat},x≤(c+r+G+2)+(c+r+G+2)→IsD (e*(E*g*Δ*2)*(e*(E*g*Δ*2))) (n*n*2 ^ x) (toL k (mul k t.1 w w))→IsD (e*(E*g*Δ*2)*Δ) (n*2 ^ (c+r+G+2+G)) (toL k w):=fun {w x} hx h=>by
   have h':=D2 w _ (n*2 ^ (c+r+G+2)) ek ((h.pw hx).mono (by rw [W0v 2 (c+r+G+2) (c+r+G+2)];exact Nat.le_of_eq (by ac_rfl)))
   rwa [W0o n,←W0v] at h'
  have u2 : IsD (e*(E*g*Δ*2)*Δ) (n*2 ^ (c+r+G+2+G)) (toL k u):=by
   refine sq (x:=c+r+G+2+(c+r+G+1)) (by omega) ?_
   have:=u1.sc K2 (show E*g*Δ*2≤2 ^ (c+r+G+1) by rw [W0p];exact W1b _ K1)
   rwa [show e*e*(E*g*Δ)*2*(E*g*Δ*2)=e*(E*g*Δ*2)*(e*(E*g*Δ*2)) by ac_rfl] at this
  have v2 : IsD (e*(E*g*Δ*2)*Δ) (n*2 ^ (c+r+G+2+G)) (toL k (mul k t.1 v t.2)):=by
   refine sq (x:=c+r+G+2+r+c+(G+1)) (by omega) ?_
   have:=(M (W1h (W1h e0 K0) (by decide)) g0 v1 g2).sc (W1h D0 (by decide : 0<2)) (show Δ*2≤2 ^ (G+1) by rw [W0p];exact W1b _ D1)
   rw [W4c,show e*e*(E*g*Δ)*2*g*E*(Δ*2)=e*(E*g*Δ*2)*(e*(E*g*Δ*2)) by ac_rfl] at this
   rwa [show mul k t.1 (mul k t.1 v t.2) (mul k t.1 v t.2)=mul k t.1 (mul k t.1 (mul k t.1 v v) t.2) t.2 from (Laws.req L [v,t.2] (.mul (.mul (.v 0) (.v 1)) (.mul (.v 0) (.v 1))) (.mul (.mul (.mul (.v 0) (.v 0)) (.v 1)) (.v 1)) (by decide +kernel))]
  have v3 : IsD (e*(E*g*Δ*2)*Δ*f*E) (n*1*2 ^ (c+r+G+2+G+q+c)) (toL k v):=by
   have:=M (W1h ek D0) f0 v2 f2
   rwa [show mul k t.1 (mul k t.1 v t.2) i=v from by rw [L.ma,L.mc t.2,hi,L.mo]] at this
  have u3:=u2.sc (W1h f0 E0) (show f*E≤2 ^ (q+c) by rw [W0v];exact W2a f1 E1)
  rw [show e*(2*(E*g*Δ)*Δ*(f*E))=e*(E*g*Δ*2)*Δ*(f*E) by ac_rfl,hg']
  refine IsD.append (u3.pw (by omega)) ?_
  rw [W4c,W0o _ f E] at v3
  exact v3.pw (by omega)
theorem Sz.rootS {k r p : Nat} {t : Tw k} {s a : El k} (hT : TS r k t) (hR : red k t) (ha : Sz p (toL k a)) (e : Tow.mul k t s s=a) : Sz (p+gC r k) (toL k s):=by
 obtain ⟨Δ,D0,D1,D2⟩:=Xoo hT hR
 obtain ⟨d,d0,d1,d2⟩:=ha
 subst e
 have:=D2 s d (2 ^ p) d0 ((d2.scale d0).mono (W0m _ (W2c d1)))
 rw [←W0v] at this
 refine ⟨_,W1h d0 D0,?_,this⟩
 rw [W0v]
 exact W0r (W3f d1 D0) (W0m _ D1)
def sX (r k p : Nat) : Nat:=p+nS r k p+gC r k+cB r k+iS r k r+4
def vB (r : Nat) : Nat→Nat→Nat
 | 0,p=>p
 | k+1,p=>vB r k (nB r k p)
def qB (r : Nat) : Nat→Nat→Nat
 | 0,p=>p
 | k+1,p=>p+vB r (k+1) p+vB r (k+1) r+nB r k p+qB r k (sX r k p)+iB r k (sX r k p+gC r k)+iS r k (sX r k p+gC r k)+iB r k r+2*cB r k+4
theorem Xs7 {r k p q : Nat} (h : p≤q) : nB r k p≤nB r k q:=by unfold nB;omega
theorem Xcu {r : Nat} : ∀ {k s s' : Nat},s≤s'→vB r k s≤vB r k s'
 | 0,_,_,h=>h
 | k+1,_,_,h=>Xcu (k:=k) (Xs7 h)
theorem Xff {r : Nat} : ∀ (k s : Nat),s≤vB r k s
 | 0,_=>W0a _
 | k+1,s=>W0i (Xqo r k s) (Xff k _)
theorem Xi2 {r i k s : Nat} (h : i≤k) : vB r i s≤vB r k s:=by
 induction k generalizing s with
 | zero=>rw [show i=0 by omega];exact W0a _
 | succ k ih =>
  by_cases e : i=k+1
  · rw [e];exact W0a _
  · exact W0i (ih (by omega)) (Xcu (k:=k) (Xqo r k s))
theorem Yba {r k p q : Nat} (h : p≤q) : sX r k p≤sX r k q:=by
 have:=Xs5 (W0a r) h (k:=k)
 unfold sX;omega
theorem Xfm {r : Nat} : ∀ {k p q : Nat},p≤q→qB r k p≤qB r k q
 | 0,_,_,h=>h
 | k+1,p,q,h=>by
  have h1:=Xcu (r:=r) (k:=k+1) h
  have h2:=Xs7 (r:=r) (k:=k) h
  have h3:=Yba (r:=r) (k:=k) h
  have h4:=Xfm (r:=r) (k:=k) h3
  have h5:=Xj1 (W0a r) (k:=k) (show sX r k p+gC r k≤sX r k q+gC r k by omega)
  have h6:=Xnb (W0a r) (k:=k) (show sX r k p+gC r k≤sX r k q+gC r k by omega)
  unfold qB;omega
theorem Yjg {r : Nat} : ∀ {k p : Nat},p≤qB r k p
 | 0,_=>W0a _
 | k+1,_=>by unfold qB;omega
theorem Xsq {r i k p : Nat} (h : i≤k) : qB r i p≤qB r k p:=by
 induction k generalizing p with
 | zero=>rw [show i=0 by omega];exact W0a _
 | succ k ih =>
  by_cases e : i=k+1
  · rw [e];exact W0a _
  · have h1:=ih (p:=p) (by omega)
    have h2 : qB r k p≤qB r k (sX r k p):=Xfm (by unfold sX;omega)
    have h3 : qB r k (sX r k p) ≤ qB r (k + 1) p := by conv => rhs; unfold qB
                                                       omega
    omega
open Go Go.Vm Go.Num Go.Tow
theorem Xgd (x : Rat) : Xa1 x.num 0=Xg0 x:=by
 rcases Xas x.num 0 with ⟨h,e⟩ | ⟨h,e⟩ | ⟨h,e⟩ <;> rw [e]
 · rw [Xd2 (by rw [Rat.lt_iff];show x.num*1<0*_;omega)]
 · rw [W6v.1 h];rfl
 · rw [Xbs (by rw [Rat.lt_iff];show 0*_<x.num*1;omega)]
theorem Xy5 {k : Nat} (t : Tw (k+1)) (a : Tow.El (k+1)) : sgn (k+1) t a=if sgn k t.1 a.2=0∨sgn k t.1 a.1=sgn k t.1 a.2 then sgn k t.1 a.1 else if sgn k t.1 a.1=0 then sgn k t.1 a.2 else sgn k t.1 a.1*sgn k t.1 (Tow.norm k t a):=rfl
theorem Xr6 {k : Nat} {t t' : Tw k} {a b : Tow.El k} : arB .mul .i64 (sgn k t a) (sgn k t' b) (sgn k t a*sgn k t' b):=by
 rcases Xcf t a with h | h | h <;> rcases Xcf t' b with h' | h' | h' <;> rw [h,h'] <;> exact wr rfl (by simp [inK])
theorem Xi1 {k : Nat} : ∀ {r s : Nat} {t : Tw k} {a : Tow.El k},TS r k t→Sz s (toL k a)→k≤16→vB r k s≤4398046511104→r≤4398046511104→C0 106 [.d (dt t),.d (de a)] (·=.d (.int .i64 (sgn k t a))):=by
 induction k with
 | zero =>
  intro r s t a hT ha hk hs hr
  have hs : s≤4398046511104:=hs
  have key : ∀ y : Rat,Qs s y→C0 106 [.d (dts []),.d (dqs [y])] (·=.d (.int .i64 (Xg0 y))):=fun y hy=>by
   refine En Tryz.func106 fun _ _ _=>?_
   refine Yes rfl rfl ?_
   refine Ix 0 rfl (u:=dq y) rfl ?_
   refine Ce rfl (Xe2 hy (by omega)) ?_
   rw [Xgd]
   exact R0
  exact key a (ha.qs (W0g.2 rfl))
 | succ k ih =>
  intro r s t a hT ha hk hs hr
  have hx : Sz s (toL k a.1):=Sz.left ha
  have hy : Sz s (toL k a.2):=Sz.right ha
  have hv : vB r k (nB r k s)≤4398046511104:=hs
  have hv1:=Xff (r:=r) k (nB r k s)
  have hv2:=Xcu (r:=r) (k:=k) (Xqo r k s)
  have hn : nB r k s=4*s+3*cB r k+r+1:=rfl
  have hz:=ha.norm hT
  refine En Tryz.func106 fun _ _ _=>?_
  refine No rfl (by show ¬ ((((toT k t.1++[toL k t.2]).map dqs).length : Nat) : Int)=0;rw [twL];omega) ?_
  refine Ar k rfl ?_ (tw1 t (by omega))
  refine Ar (2 ^ k : Nat) rfl ?_ (hvq a (by omega))
  refine Dw rfl ?_
  refine Tk k ((toT k t.1).map dqs) rfl rfl (Xi5 t) (twT t) ?_
  refine Tk (2 ^ k) ((toL k a.1).map dq) rfl rfl (Xco a) (hvT a) ?_
  refine Dp (2 ^ k) ((toL k a.2).map dq) rfl rfl (Xco a) (hvD a) ?_
  refine Ce rfl (ih hT.1 hx (by omega) (by omega) hr) ?_
  refine Ce rfl (ih hT.1 hy (by omega) (by omega) hr) ?_
  rw [Xy5]
  refine By rfl (fun h=>?_) fun h=>?_
  · rw [if_pos (.inl h)]
    exact R0
  · refine By rfl (fun h1=>?_) fun h1=>?_
    · rw [if_pos (.inr h1)]
      exact R0
    · rw [if_neg (fun e=>e.elim h h1)]
      refine By rfl (fun h2=>?_) fun h2=>?_
      · rw [if_pos h2]
        exact R0
      · rw [if_neg h2]
        refine Dw rfl ?_
        refine Ce rfl (Xjd hT.1 hx hx (by omega) (by omega) hr) ?_
        refine Ix k rfl (twU t) ?_
        refine Ce rfl (Xjd hT.1 hy hy (by omega) (by omega) hr) ?_
        refine Ce rfl (Xjd hT.1 hT.2 (hy.mul hT.1 hy) (by omega) (by omega) hr) ?_
        refine Ce rfl (Xjc hT.1 (hx.mul hT.1 hx) (hT.2.mul hT.1 (hy.mul hT.1 hy)) (by omega) (by omega) hr) ?_
        rw [(Xa3 k t.1).mc t.2]
        refine Ce rfl (ih hT.1 hz (by omega) hv hr) ?_
        refine Ar _ rfl ?_ Xr6
        exact R0
theorem Tw.take {k : Nat} : ∀ {t : Tw k} {i : Nat},i<k→∃ (w : Tw i) (x : Tow.El i),(toT k t).take i=toT i w∧(toT k t)[i]?=some (toL i x)∧(∀ r,TS r k t→TS r i w∧Sz r (toL i x))∧(Xbm k t→Xbm i w∧sgn i w x=1)∧(red k t→red i w∧sgn i w x=1∧¬ Xej i w x):=by
 induction k with
 | zero=>intro t i h;omega
 | succ k ih =>
  intro t i h
  have hl:=Xaa k t.1
  by_cases e : i=k
  · subst e
    refine ⟨t.1,t.2,W6f hl,?_,fun r h=>h,fun h=>h,fun h=>h⟩
    show (toT i t.1++[toL i t.2])[i]?=_
    rw [W0u (by omega),hl,W2w];rfl
  · obtain ⟨w,x,h1,h2,h3,h4,h5⟩:=ih (t:=t.1) (i:=i) (by omega)
    refine ⟨w,x,?_,?_,fun r h=>h3 r h.1,fun h=>h4 h.1,fun h=>h5 h.1⟩
    · show (toT k t.1++[toL k t.2]).take i=_
      rw [W6j (by omega),h1]
    · show (toT k t.1++[toL k t.2])[i]?=_
      rw [W0x (by omega),h2]
theorem qs0 : Qs 1 0:=⟨show (0 : Rat).num.natAbs<2 ^ 1 by decide +kernel,show ((0 : Rat).den : Int).natAbs<2 ^ 1 by decide +kernel⟩
section
variable {k r s : Nat} {t : Tw k} {a : Tow.El k}
theorem Xnv (hT : TS r k t) (hR : Xbm k t) (hk : k≤16) (hv : vB r k r≤4398046511104) (hr : r≤4398046511104) : C0 160 [.d (dt t)] (·=.b true):=by
 refine En Tryz.func160 fun _ _ _=>?_
 refine Ce rfl (Xb2 (z:=0) (by decide)) ?_
 refine Ce rfl (Xgv (x:=0) (p:=1) hT hk hr qs0 (by decide)) ?_
 refine Ce rfl (Xia hT (Sz.rat (p:=1) k qs0) hk (by decide) hr) ?_
 refine No rfl (by simp) ?_
 refine Lo (fun i : Nat=>[(0,.d (dt t)),(11,.d (dt t)),(12,.d (.int .i64 ((toT k t).map dqs).length)),(13,.d (.int .i64 i))]) (fun _=>[]) (fun i=>i≤k) (fun i=>k - i) 0 [] rfl (by omega) (fun i hi=>?_)
 refine By rfl (fun h=>?_) fun h=>?_ <;> simp only [lt',Xaa] at h
 · obtain ⟨w,x,h1,h2,h3,h4,h5⟩:=Tw.take (t:=t) (i:=i) (by omega)
   have hx:=h3 r hT
   have h6:=Xi2 (r:=r) (s:=r) (show i≤k by omega)
   refine Ix i rfl (mp h2) ?_
   refine Tk i ((toT i w).map dqs) rfl rfl (by rw [lt',Xaa];omega) (by rw [←W2g,h1]) ?_
   refine Ce rfl (Xi1 hx.1 hx.2 (by omega) (by omega) hr) ?_
   refine No rfl (by rw [(h4 hR).2];decide) ?_
   refine Ar (i+1 : Nat) rfl ?_
   exact Bk (i+1) [] rfl (show i+1≤k by omega) (by show k - (i+1)<k - i;omega)
 · exact R0
theorem Xnc {l : List (List Rat)} (hT : TS r k t) (hR : Xbm k t) (hk : k≤16) (hv : vB r k r≤4398046511104) (hr : r≤4398046511104) (hl : ∀ x∈l,∃ a : Tow.El k,x=toL k a∧Sz s (toL k a)) (hn : l.length≤1000) (hs : s≤4398046511104) : C0 103 [.d (dt t),.d (dts l)] (·=.b true):=by
 refine En Tryz.func103 fun _ _ _=>?_
 refine Lo (fun i : Nat=>[(0,.d (dt t)),(7,.d (dts l)),(8,.d (.int .i64 (l.map dqs).length)),(9,.d (.int .i64 i))]) (fun _=>[]) (fun i=>i≤l.length) (fun i=>l.length - i) 0 [] rfl (by omega) (fun i hi=>?_)
 refine By rfl (fun h=>?_) fun h=>?_ <;> simp only [lt'] at h
 · obtain ⟨x,hx⟩ : ∃ x,l[i]?=some x:=⟨_,W0d (by omega)⟩
   obtain ⟨a,rfl,ha⟩:=hl x (W0l hx)
   refine Ix i rfl (mp hx) ?_
   refine Ce rfl (Xia hT ha hk hs hr) ?_
   refine No rfl (by simp) ?_
   refine Ar (i+1 : Nat) rfl ?_
   exact Bk (i+1) [] rfl (show i+1≤l.length by omega) (by show l.length - (i+1)<l.length - i;omega)
 · refine Ce rfl (Xnv hT hR hk hv hr) ?_
   exact R0
theorem Xvo (hT : TS r k t) (ha : Sz s (toL k a)) (hR : Xbm k t) (hk : k≤16) (hs : vB r k s≤4398046511104) (hv : vB r k r≤4398046511104) (hr : r≤4398046511104) : C0 157 [.d (dt t),.d (de a)] (·=.d (.int .i64 (sgn k t a))):=by
 have:=Xff (r:=r) k s
 refine En Tryz.func157 fun _ _ _=>?_
 refine Ce rfl (Xnc (l:=[toL k a]) (s:=s) hT hR hk hv hr (fun x hx=>⟨a,W0g.1 hx,ha⟩) (by simp) (by omega)) ?_
 refine No rfl (by simp) ?_
 refine Ce rfl (Xi1 hT ha hk hs hr) ?_
 exact R0
end
end Go.Proofs.YtclmecgphleeeaaGreatDoor
namespace Go.Proofs.YtclmecgphleeeaaGreatDoor.R7
open Go Go.Vm Go.Num Go.Tow Go.Proofs.YtclmecgphleeeaaGreatDoor
theorem Xmp {k : Nat} : ∀ {r s : Nat} {t : Tw k} {a : Tow.El k},TS r k t→Sz s (toL k a)→k≤16→vB r k s≤4398046511104→C0 101 [.d (dt t),.d (de a)] (·=.d (.int .i64 (sgn k t a))):=by
 induction k with
 | zero =>
  intro r s t a hT ha hk hs
  have hs : s≤4398046511104:=hs
  have key : ∀ y : Rat,Qs s y→C0 101 [.d (dts []),.d (dqs [y])] (·=.d (.int .i64 (Xg0 y))):=fun y hy=>by
   refine En Tryz.func101 fun _ _ _=>?_
   refine Yes rfl rfl ?_
   refine Ix 0 rfl (u:=dq y) rfl ?_
   refine Ce rfl (R2.Sign_ok hy (by omega)) ?_
   rw [Xgd]
   exact R0
  exact key a (ha.qs (W0g.2 rfl))
 | succ k ih =>
  intro r s t a hT ha hk hs
  have hx : Sz s (toL k a.1):=Sz.left ha
  have hy : Sz s (toL k a.2):=Sz.right ha
  have hv : vB r k (nB r k s)≤4398046511104:=hs
  have hv1:=Xff (r:=r) k (nB r k s)
  have hv2:=Xcu (r:=r) (k:=k) (Xqo r k s)
  have hz:=ha.norm hT
  refine En Tryz.func101 fun _ _ _=>?_
  refine No rfl (by show ¬ ((((toT k t.1++[toL k t.2]).map dqs).length : Nat) : Int)=0;rw [twL];omega) ?_
  refine Ar k rfl ?_ (tw1 t (by omega))
  refine Dw rfl ?_
  refine Ar (2 ^ k : Nat) rfl ?_ (hvq a (by omega))
  refine Tk (2 ^ k) ((toL k a.1).map dq) rfl rfl (Xco a) (hvT a) ?_
  refine Ar (2 ^ k : Nat) rfl ?_ (hvq a (by omega))
  refine Dp (2 ^ k) ((toL k a.2).map dq) rfl rfl (Xco a) (hvD a) ?_
  refine Dw rfl ?_
  refine Tk k ((toT k t.1).map dqs) rfl rfl (Xi5 t) (twT t) ?_
  refine Ce rfl (ih hT.1 hx (by omega) (by omega)) ?_
  refine Tk k ((toT k t.1).map dqs) rfl rfl (Xi5 t) (twT t) ?_
  refine Ce rfl (ih hT.1 hy (by omega) (by omega)) ?_
  rw [Xy5]
  refine By rfl (fun h=>?_) fun h=>?_
  · rw [if_pos (.inl h)]
    exact R0
  · refine By rfl (fun h1=>?_) fun h1=>?_
    · rw [if_pos (.inr h1)]
      exact R0
    · rw [if_neg (fun e=>e.elim h h1)]
      refine By rfl (fun h2=>?_) fun h2=>?_
      · rw [if_pos h2]
        exact R0
      · rw [if_neg h2]
        refine Dw rfl ?_
        refine Tk k ((toT k t.1).map dqs) rfl rfl (Xi5 t) (twT t) ?_
        refine Ce rfl (R6.Norm_ok hT ha hk (by omega)) ?_
        refine Ce rfl (ih hT.1 hz (by omega) hv) ?_
        refine Ar _ rfl ?_ Xr6
        exact R0
section
variable {k r s : Nat} {t : Tw k} {a : Tow.El k}
theorem Xnv (hT : TS r k t) (hR : Xbm k t) (hk : k≤16) (hv : vB r k r≤4398046511104) : C0 222 [.d (dt t)] (·=.b true):=by
 have:=Xff (r:=r) k r
 refine En Tryz.func222 fun _ _ _=>?_
 refine Ce rfl (R6.Tower_ok (TS.pt hT) (by omega) (by rw [Xaa];omega)) ?_
 refine No rfl (by simp) ?_
 refine Lo (fun i : Nat=>[(0,.d (dt t)),(3,.d (.int .i64 i))]) (fun _=>[]) (fun i=>i≤k) (fun i=>k - i) 0 [] rfl (by omega) (fun i hi=>?_)
 refine By rfl (fun h=>?_) fun h=>?_ <;> simp only [lt',Xaa] at h
 · obtain ⟨w,x,h1,h2,h3,h4,h5⟩:=Tw.take (t:=t) (i:=i) (by omega)
   have hx:=h3 r hT
   have h6:=Xi2 (r:=r) (s:=r) (show i≤k by omega)
   refine Dw rfl ?_
   refine Tk i ((toT i w).map dqs) rfl rfl (by rw [lt',Xaa];omega) (by rw [←W2g,h1]) ?_
   refine Ix i rfl (mp h2) ?_
   refine Ce rfl (Xmp hx.1 hx.2 (by omega) (by omega)) ?_
   refine No rfl (by rw [(h4 hR).2];simp) ?_
   refine Ar (i+1 : Nat) rfl ?_
   exact Bk (i+1) [] rfl (show i+1≤k by omega) (by show k - (i+1)<k - i;omega)
 · exact R0
theorem Sign_ok (hT : TS r k t) (ha : Sz s (toL k a)) (hR : Xbm k t) (hk : k≤16) (hs : vB r k s≤4398046511104) (hv : vB r k r≤4398046511104) : C0 179 [.d (dt t),.d (de a)] (·=.d (.int .i64 (sgn k t a))):=by
 have:=Xff (r:=r) k s
 have:=Xff (r:=r) k r
 refine En Tryz.func179 fun _ _ _=>?_
 refine Ce rfl (R6.Formed_ok (TS.pt hT) (by omega) ha.ps (by omega) (by rw [Xaa];omega) (Ydx t a)) ?_
 refine No rfl (by simp) ?_
 refine Ce rfl (Xnv hT hR hk hv) ?_
 refine No rfl (by simp) ?_
 refine Ce rfl (Xmp hT ha hk hs) ?_
 exact R0
theorem Fast_ok (hT : TS r k t) (ha : Sz s (toL k a)) (hk : k≤16) (hs : vB r k s≤4398046511104) : C0 48 [.d (dt t),.d (de a)] (·=.d (.int .i64 (sgn k t a))):=by
 refine En Tryz.func48 fun _ _ _=>?_
 refine Ce rfl (Xmp hT ha hk hs) ?_
 exact R0
end
end Go.Proofs.YtclmecgphleeeaaGreatDoor.R7
namespace Go.Num
theorem Zs.len2 {p : Nat} {z : Int} (h : Zs p z) (hp : p≤4398046511104) : (dig z.natAbs).length≤137438953473:=by
 have h1 : z.natAbs<4294967296 ^ (p / 32+1):=by
  rw [show 4294967296=2 ^ 32 from rfl,←W5n]
  exact W0r h (W0h (by decide) (by omega))
 have:=Xan h1
 omega
end Go.Num
namespace Go.Proofs.YtclmecgphleeeaaGreatDoor.R2
open Go Go.Vm Go.Num Go.Proofs.YtclmecgphleeeaaGreatDoor
def dR (b : Bool) (l : List Nat) (b' : Bool) (l' : List Nat) : D:=.st (.pr (dS b l) (dS b' l'))
theorem Sqrt_ok {x : Rat} {p : Nat} (hx : Qs p x) (hp : p≤4398046511104) : C0 223 [.d (dq x)] fun v=>∃ b l b' l',v=.tup (.pr (.d (dR b l b' l')) (.b (dc (∃ y : Rat,y*y=x))))∧((∃ y : Rat,y*y=x)→∃ y : Rat,y*y=x∧dR b l b' l'=dq y):=by
 have h1:=hx.n.len2 hp
 have h2:=hx.d.len2 hp
 have hi:=Xry (q:=x)
 have no : ¬ (∃ y : Rat,y*y=x)→∀ {g K},FitT g K (.b false) (.b (dc (∃ y : Rat,y*y=x))):=fun h _ _=>.one (by exact .bp (c:=false) ⟨nofun,fun e=>absurd e h⟩) (fun _ _ e=>by cases e) (fun _ _ e=>by cases e)
 refine En Tryz.func223 fun _ _ _=>?_
 refine By rfl (fun h=>?_) fun h=>?_
 · exact Rt rfl (.tup (.cons (.sd (.pd (.sd (.pd (.bd rfl) (.nil rfl))) (.sd (.pd (.bd rfl) (.nil rfl)))))  (no fun e=>by have:=(hi.1 e).1;omega))) ⟨false,[],false,[],rfl,fun e=>by have:=(hi.1 e).1;omega⟩
 have hn : ((x.num.natAbs : Nat) : Int)=x.num:=by omega
 have hs:=R1.Sqrt_ok (a:=x.num.natAbs) (by omega)
 rw [hn] at hs
 have hd:=R1.Sqrt_ok (a:=x.den) (by rw [W1j] at h2;omega)
 have hr : ∀ n : Nat,n<2 ^ p→Zs p (rt n : Int)∧Zs p ((rt n : Int)*(rt n : Int)):=fun n hn=>by
  have:=(Xdb n).1
  have h3 : rt n≤rt n*rt n:=Nat.le_mul_self _
  unfold Zs
  rw [W4a,W1j]
  omega
 obtain ⟨r1,r2⟩:=hr _ (show x.num.natAbs<2 ^ p from hx.n)
 obtain ⟨r3,r4⟩:=hr x.den (by have:=hx.d;unfold Zs at this;rwa [W1j] at this)
 have r1:=r1.len2 hp
 have r2:=r2.len2 hp
 have r3:=r3.len2 hp
 have r4:=r4.len2 hp
 refine Ce rfl hs ?_
 refine Ce rfl hd ?_
 refine Dw rfl ?_
 refine Ce rfl (R1.Mul_ok (by omega) (by omega)) ?_
 refine Ce rfl (Xiy (by omega)) ?_
 refine By rfl (fun h=>?_) fun h=>?_
 · have hno : ¬ ∃ y : Rat,y*y=x:=fun e=>by
    have h3:=(hi.1 e).2.1
    unfold sqN at h3
    have h4 : ¬ (rt x.num.natAbs : Int)*(rt x.num.natAbs : Int)=x.num:=by simpa [Xb9,Xaw] using h
    exact h4 (by rw [←W3b,h3,hn])
   exact Rt rfl (.tup (.cons (.sd (.pd (.sd (.pd (.bd rfl) (.nil rfl))) (.sd (.pd (.bd rfl) (.nil rfl))))) (no hno))) ⟨false,[],false,[],rfl,fun e=>absurd e hno⟩
 have k1 : (rt x.num.natAbs : Int)*(rt x.num.natAbs : Int)=x.num:=by simpa [Xb9,Xaw] using h
 refine Ce rfl (R1.Mul_ok (by omega) (by omega)) ?_
 refine Ce rfl (Xiy (by omega)) ?_
 refine By rfl (fun h=>?_) fun h=>?_
 · have hno : ¬ ∃ y : Rat,y*y=x:=fun e=>by
    have h3:=(hi.1 e).2.2
    unfold sqN at h3
    have h4 : ¬ (rt x.den : Int)*(rt x.den : Int)=x.den:=by simpa [Xb9,Xaw] using h
    exact h4 (by rw [←W3b,h3])
   exact Rt rfl (.tup (.cons (.sd (.pd (.sd (.pd (.bd rfl) (.nil rfl))) (.sd (.pd (.bd rfl) (.nil rfl))))) (no hno))) ⟨false,[],false,[],rfl,fun e=>absurd e hno⟩
 have k2 : (rt x.den : Int)*(rt x.den : Int)=x.den:=by simpa [Xb9,Xaw] using h
 obtain ⟨y,y1,y2,y3⟩:=Xoc (q:=x) (by omega) (by unfold sqN;omega) (by unfold sqN;omega)
 refine Rt rfl (.tup (.cons (.rf rfl) (.one (by exact .bp (c:=true) ⟨fun _=>⟨y,y3⟩,fun _=>rfl⟩) (fun _ _ e=>by cases e) (fun _ _ e=>by cases e)))) ⟨_,_,_,_,rfl,fun _=>⟨y,y3,?_⟩⟩
 show D.st (.pr (dz _) (dz _))=D.st (.pr (dz _) (dz _))
 rw [y1,y2]
end Go.Proofs.YtclmecgphleeeaaGreatDoor.R2
namespace Go.Proofs.YtclmecgphleeeaaGreatDoor
open Go Go.Vm Go.Num Go.Tow
theorem Xz3 {p : Prop} (h : ¬ p) {g : Hp} {K : Hpl} : FitT g K (.b false) (.b (dc p)):=.one (by exact .bp (c:=false) ⟨nofun,fun e=>absurd e h⟩) (fun _ _ e=>by cases e) (fun _ _ e=>by cases e)
theorem Ygp {p : Prop} (h : p) {g : Hp} {K : Hpl} : FitT g K (.b true) (.b (dc p)):=.one (by exact .bp (c:=true) ⟨fun _=>h,fun _=>rfl⟩) (fun _ _ e=>by cases e) (fun _ _ e=>by cases e)
theorem Xdo {n : Int} {g : Hp} {K : Hpl} : FitT g K (.d (.int .i64 n)) (.d (.int .i64 n)):=.one (.rf rfl) (fun _ _ e=>by cases e) (fun _ _ e=>by cases e)
def SqR (k : Nat) (t : Tw k) (a : Tow.El k) (v : AV) : Prop:=∃ w : D,v=.tup (.pr (.d w) (.b (dc (Xej k t a))))∧(Xej k t a→∃ x,mul k t x x=a∧w=de x)
theorem Ycj : (Rat.divInt 1 2)=1 / 2:=by decide +kernel
end Go.Proofs.YtclmecgphleeeaaGreatDoor
namespace Go.Proofs.YtclmecgphleeeaaGreatDoor.R6
open Go Go.Vm Go.Num Go.Tow Go.Proofs.YtclmecgphleeeaaGreatDoor
theorem FromRat_el {k : Nat} {t : Tw k} {x : Rat} (hk : k≤16) : C0 122 [.d (dt t),.d (dq x)] (·=.d (de (rat k x))):=by
 have:=FromRat_ok (t:=toT k t) (x:=x) (by rw [Xaa];omega)
 rwa [Xaa,←Xce] at this
theorem FromRat_z {k : Nat} {t : Tw k} (hk : k≤16) : C0 122 [.d (dt t),.d (dq 0)] (·=.d (de (zero k))):=by
 have:=FromRat_el (t:=t) (x:=0) hk
 rwa [Xgh] at this
end Go.Proofs.YtclmecgphleeeaaGreatDoor.R6
namespace Go.Proofs.YtclmecgphleeeaaGreatDoor.R8
open Go Go.Vm Go.Num Go.Tow Go.Proofs.YtclmecgphleeeaaGreatDoor
theorem Yb5 {l m : List Rat} (h0 : 0<l.length) (hl : l.length+m.length≤1048576) : C0 224 [.d (dqs l),.d (dqs m)] (·=.d (dqs (l++m))):=by
 refine En Tryz.func224 fun _ _ _=>?_
 refine ApL (l.map dq) rfl rfl (by simp;omega) (by simp;omega) ?_
 refine ApO ((l++m).map dq) rfl rfl rfl (by simp) (by simp;omega) ?_
 exact R1 rfl (.own rfl (by simp) (by rw [W1f];exact W0b (by simp)))
theorem Xm7 {k : Nat} {x y : Tow.El k} (hk : k≤16) : C0 224 [.d (de x),.d (de y)] (·=.d (de (pr x y))) :=
 Yb5 (by rw [Xab];exact W0t k) (by rw [Xab,Xab];have:=p16 hk;omega)
theorem Xks {k : Nat} : ∀ {r p : Nat} {t : Tw k} {a : Tow.El k},TS r k t→Sz p (toL k a)→red k t→k≤16→qB r k p≤4398046511104→C0 180 [.d (dt t),.d (de a)] (SqR k t a):=by
 induction k with
 | zero =>
  intro r p t a hT ha hR hk hq
  have hq : p≤4398046511104:=hq
  have key : ∀ y : Rat,Qs p y→C0 180 [.d (dts []),.d (dqs [y])] fun v=>∃ w : D,v=.tup (.pr (.d w) (.b (dc (∃ x : Rat,x*x=y))))∧((∃ x : Rat,x*x=y)→∃ x : Rat,x*x=y∧w=dqs [x]):=fun y hy=>by
   refine En Tryz.func180 fun _ _ _=>?_
   refine Yes rfl rfl ?_
   refine Ix 0 rfl (u:=dq y) rfl ?_
   refine Ca rfl (R2.Sqrt_ok hy (by omega)) fun v hv=>?_
   obtain ⟨b,l,b',l',rfl,hw⟩:=hv
   exact Rt rfl (.tup (.cons (.lit rfl) (.one (.rf rfl) (fun _ _ e=>by cases e) (fun _ _ e=>by cases e)))) ⟨_,rfl,fun h=>let ⟨y,h1,h2⟩:=hw h;⟨y,h1,by rw [show dqs [y]=D.sl 4 [dq y] from rfl,←h2];rfl⟩⟩
  exact key a (ha.qs (W0g.2 rfl))
 | succ k ih =>
  intro r p t a hT ha hR hk hq
  have hx : Sz p (toL k a.1):=Sz.left ha
  have hy : Sz p (toL k a.2):=Sz.right ha
  have hlen:=Xab k
  have hpk:=p16 (show k≤16 by omega)
  have hz:=ha.normS hT
  have L:=Xa3 k t.1
  have hqq : p+vB r (k+1) p+vB r (k+1) r+nB r k p+qB r k (sX r k p)+iB r k (sX r k p+gC r k)+iS r k (sX r k p+gC r k)+iB r k r+2*cB r k+4≤4398046511104:=hq
  have hX : sX r k p=p+nS r k p+gC r k+cB r k+iS r k r+4:=rfl
  have hN : nB r k p=4*p+3*cB r k+r+1:=rfl
  have q1 : qB r k p≤qB r k (sX r k p):=Xfm (by omega)
  have q2 : qB r k (nS r k p)≤qB r k (sX r k p):=Xfm (by omega)
  have q3 : qB r k (p+iS r k r+cB r k)≤qB r k (sX r k p):=Xfm (by omega)
  have q4 : sX r k p≤qB r k (sX r k p):=Yjg
  have hr0 : t.2≠zero k:=fun h0=>hR.2.2 ⟨zero k,by rw [h0,L.mz]⟩
  obtain ⟨i,hi⟩:=(Xeh hR.1).2 t.2 hr0
  have him:=Xds hi
  have hiz:=Sz.invS hT.1 hT.2 hi
  refine En Tryz.func180 fun _ _ _=>?_
  refine No rfl (by show ¬ ((((toT k t.1++[toL k t.2]).map dqs).length : Nat) : Int)=0;rw [twL];omega) ?_
  refine Ce rfl (R7.Sign_ok hT ha (Xag hR) hk (by omega) (by omega)) ?_
  refine By rfl (fun h=>?_) fun h=>?_
  · have no : ¬ Xej (k+1) t a:=fun e=>by have:=Yi6 (Xag hR) e;omega
    exact Rt rfl (.tup (.cons (.nil (sz:=4) rfl) (Xz3 no))) ⟨_,rfl,fun e=>absurd e no⟩
  refine Ar k rfl ?_ (tw1 t (by omega))
  refine Dw rfl ?_
  refine Tk k ((toT k t.1).map dqs) rfl rfl (Xi5 t) (twT t) ?_
  refine Ix k rfl (twU t) ?_
  refine Ar (2 ^ k : Nat) rfl ?_ (hvq a (by omega))
  refine Dw rfl ?_
  refine Tk (2 ^ k) ((toL k a.1).map dq) rfl rfl (Xco a) (hvT a) ?_
  refine Dp (2 ^ k) ((toL k a.2).map dq) rfl rfl (Xco a) (hvD a) ?_
  refine Ce rfl (R2.FromInt_ok (z:=0) (by decide)) ?_
  refine Ce rfl (R6.FromRat_z (t:=t.1) (by omega)) ?_
  refine Ce rfl (R6.Zero_ok (l:=toL k a.2) (by rw [hlen];omega)) ?_
  refine By rfl (fun hv=>?_) fun hv=>?_
  · have ev:=(Xap k a.2).2 hv
    have ea : a=up k a.1:=by show (a.1,a.2)=(a.1,zero k);rw [ev]
    refine Ca rfl (ih hT.1 hx hR.1 (by omega) (by omega)) fun v hv=>?_
    obtain ⟨w,rfl,hw⟩:=hv
    refine By rfl (fun h1=>?_) fun h1=>?_
    · obtain ⟨x,hx1,rfl⟩:=hw h1
      have hs : mul (k+1) t (pr x (zero k)) (pr x (zero k))=a:=(Yi5 hx1).trans ea.symm
      refine Ce rfl (Xm7 (x:=x) (y:=zero k) (by omega)) ?_
      exact Rt rfl (.tup (.cons (.rf rfl) (Ygp ⟨_,hs⟩))) ⟨_,rfl,fun _=>⟨_,hs,rfl⟩⟩
    · refine Ce rfl (R6.Inv_ok hT.1 hT.2 hR.1 hi (by omega) (by omega)) ?_
      refine Ce rfl (R6.Mul_el hT.1 hx hiz (by omega) (by omega)) ?_
      refine Ca rfl (ih hT.1 (hx.mul hT.1 hiz) hR.1 (by omega) (by omega)) fun v hv=>?_
      obtain ⟨w,rfl,hw⟩:=hv
      refine By rfl (fun h2=>?_) fun h2=>?_
      · obtain ⟨x,hx1,rfl⟩:=hw h2
        have hs : mul (k+1) t (pr (zero k) x) (pr (zero k) x)=a:=(Yep him hx1).trans ea.symm
        refine Ce rfl (Xm7 (x:=zero k) (y:=x) (by omega)) ?_
        exact Rt rfl (.tup (.cons (.rf rfl) (Ygp ⟨_,hs⟩))) ⟨_,rfl,fun _=>⟨_,hs,rfl⟩⟩
      · have no : ¬ Xej (k+1) t a:=ea ▸ Xrw hR.1 him h1 h2
        exact Rt rfl (.tup (.cons (.nil (sz:=4) rfl) (Xz3 no))) ⟨_,rfl,fun e=>absurd e no⟩
  have ev : a.2≠zero k:=fun e=>hv ((Xap k a.2).1 e)
  refine Ce rfl (R6.Mul_el hT.1 hx hx (by omega) (by omega)) ?_
  refine Ce rfl (R6.Mul_el hT.1 hy hy (by omega) (by omega)) ?_
  refine Ce rfl (R6.Mul_el hT.1 hT.2 (hy.mul hT.1 hy) (by omega) (by omega)) ?_
  refine Ce rfl (R6.Sub_el (by omega) (hx.mul hT.1 hx).ps (hT.2.mul hT.1 (hy.mul hT.1 hy)) (by omega)) ?_
  rw [L.mc t.2]
  refine Ca rfl (ih hT.1 hz hR.1 (by omega) (by omega)) fun v hv=>?_
  obtain ⟨w,rfl,hw⟩:=hv
  refine By rfl (fun h1=>?_) fun h1=>?_
  · have no : ¬ Xej (k+1) t a:=fun e=>by
     exact h1 (Ya4 e)
    exact Rt rfl (.tup (.cons (.nil (sz:=4) rfl) (Xz3 no))) ⟨_,rfl,fun e=>absurd e no⟩
  obtain ⟨m,hm,rfl⟩:=hw (W3x.1 h1)
  have hm : mul k t.1 m m=Tow.norm k t a:=hm
  have hmz:=hz.rootS hT.1 hR.1 hm
  refine Ce rfl (R2.Frac_ok (a:=1) (b:=2) (by decide) (by decide) (by decide)) ?_
  rw [Ycj]
  refine Ce rfl (R6.FromRat_el (t:=t.1) (x:=1 / 2) (by omega)) ?_
  refine Lo (fun (x : Nat × Tow.El k)=>[(9,.d (dt t.1)),(12,.d (de a.1)),(13,.d (de a.2)),(22,.d (de x.2)),(24,.d (de (rat k (1 / 2)))),(25,.d (.int .i64 x.1))]) (fun _=>[]) (fun x=>(x.1=0∧x.2=m)∨(x.1=1∧x.2=Tow.neg k m∧¬ Xej k t.1 (mul k t.1 (rat k (1 / 2)) (Tow.add k a.1 m)))∨(x.1=2∧¬ Xej k t.1 (mul k t.1 (rat k (1 / 2)) (Tow.add k a.1 m))∧¬ Xej k t.1 (mul k t.1 (rat k (1 / 2)) (Tow.add k a.1 (Tow.neg k m))))) (fun x=>2 - x.1) (0,m) [] rfl (.inl ⟨rfl,rfl⟩) (fun (j,mm) hI=>?_)
  simp only at hI
  refine By rfl (fun h2=>?_) fun h2=>?_
  · have hmm : mul k t.1 mm mm=Tow.norm k t a∧Sz (nS r k p+gC r k) (toL k mm):=by
     rcases hI with ⟨_,rfl⟩ | ⟨_,rfl,_⟩ | ⟨rfl,_⟩
     · exact ⟨hm,hmz⟩
     · exact ⟨by rw [L.mn,L.nm,L.nn,hm],Xk7 hmz⟩
     · omega
    have hS : Sz (3+(p+(nS r k p+gC r k)+1)+cB r k) (toL k (mul k t.1 (rat k (1 / 2)) (Tow.add k a.1 mm))):=Sz.half.mul hT.1 (by rw [Xaz];exact hx.add hmm.2)
    have q5 : qB r k (3+(p+(nS r k p+gC r k)+1)+cB r k)≤qB r k (sX r k p):=Xfm (by omega)
    refine Ce rfl (R6.Add_el (by omega) hx.ps hmm.2.ps (by omega)) ?_
    refine Ce rfl (R6.Mul_el hT.1 Sz.half (by rw [Xaz];exact hx.add hmm.2) (by omega) (by omega)) ?_
    refine Ca rfl (ih hT.1 hS hR.1 (by omega) (by omega)) fun v hv=>?_
    obtain ⟨w,rfl,hw⟩:=hv
    refine By rfl (fun h3=>?_) fun h3=>?_
    · obtain ⟨w,hw1,rfl⟩:=hw h3
      have hw0:=Yi4 hR ev hmm.1 hw1
      obtain ⟨j,hj⟩:=(Xeh hR.1).2 w hw0
      have hwz : Sz (sX r k p+gC r k) (toL k w):=(hS.rootS hT.1 hR.1 hw1).mono (by omega)
      have hjz:=Sz.invS hT.1 hwz hj
      have hs : mul (k+1) t (pr w (mul k t.1 (rat k (1 / 2)) (mul k t.1 a.2 j))) (pr w (mul k t.1 (rat k (1 / 2)) (mul k t.1 a.2 j)))=a:=by
       have:=Yi7 hmm.1 hw1 (Xxd (Xds hj))
       rwa [show mul k t.1 a.2 (mul k t.1 (rat k (1 / 2)) j)=mul k t.1 (rat k (1 / 2)) (mul k t.1 a.2 j) from L.mlc _ _ _] at this
      refine Ce rfl (R6.Inv_ok hT.1 hwz hR.1 hj (by omega) (by omega)) ?_
      refine Ce rfl (R6.Mul_el hT.1 hy hjz (by omega) (by omega)) ?_
      refine Ce rfl (R6.Mul_el hT.1 Sz.half (hy.mul hT.1 hjz) (by omega) (by omega)) ?_
      refine Ce rfl (Xm7 (by omega)) ?_
      exact Rt rfl (.tup (.cons (.rf rfl) (Ygp ⟨_,hs⟩))) ⟨_,rfl,fun _=>⟨_,hs,rfl⟩⟩
    · refine Ce rfl (R6.Neg_el (by omega) hmm.2.ps (by omega)) ?_
      refine Ar (j+1 : Nat) rfl ?_
      refine Bk (j+1,Tow.neg k mm) [] rfl ?_ (by show 2 - (j+1)<2 - j;omega)
      rcases hI with ⟨rfl,rfl⟩ | ⟨rfl,rfl,h4⟩ | ⟨rfl,_⟩
      · exact .inr (.inl ⟨rfl,rfl,h3⟩)
      · exact .inr (.inr ⟨rfl,h4,h3⟩)
      · omega
  · have no : ¬ Xej (k+1) t a:=fun e=>by
     rcases hI with ⟨rfl,rfl⟩ | ⟨rfl,rfl,h4⟩ | ⟨rfl,h4,h5⟩
     · omega
     · omega
     · obtain ⟨w,_,h6 | h6⟩:=Xv9 hR.1 ev hm e
       · exact h4 ⟨w,h6⟩
       · exact h5 ⟨w,h6⟩
    exact Rt rfl (.tup (.cons (.nil (sz:=4) rfl) (Xz3 no))) ⟨_,rfl,fun e=>absurd e no⟩
theorem Ybc {k r p : Nat} {t : Tw k} {a : Tow.El k} (hT : TS r k t) (ha : Sz p (toL k a)) (hR : red k t) (hk : k≤16) (hq : qB r k p≤4398046511104) (hv : vB r k (p+gC r k)≤4398046511104) (hr : vB r k r≤4398046511104) :
 C0 183 [.d (dt t),.d (de a)] fun v=>∃ w : D,v=.tup (.pr (.d w) (.b (dc (Xej k t a))))∧(Xej k t a→∃ x,mul k t x x=a∧0≤sgn k t x∧w=de x):=by
 have L:=Xa3 k t
 have S:=Xat (Xag hR)
 have:=Xff (r:=r) k (p+gC r k)
 refine En Tryz.func183 fun _ _ _=>?_
 refine Ca rfl (Xks hT ha hR hk hq) fun v hv=>?_
 obtain ⟨w,rfl,hw⟩:=hv
 refine By rfl (fun h=>?_) fun h=>?_
 · exact Rt rfl (.tup (.cons (.nil (sz:=4) rfl) (Xz3 h))) ⟨_,rfl,fun e=>absurd e h⟩
 have h:=W3x.1 h
 obtain ⟨x,hx,rfl⟩:=hw h
 have hz:=ha.rootS hT hR hx
 refine Ce rfl (R7.Sign_ok hT hz (Xag hR) hk hv hr) ?_
 refine By rfl (fun h1=>?_) fun h1=>?_
 · refine Ce rfl (R6.Neg_el hk hz.ps (by omega)) ?_
   exact Rt rfl (.tup (.cons (.rf rfl) (Ygp h))) ⟨_,rfl,fun _=>⟨Tow.neg k x,by rw [L.mn,L.nm,L.nn,hx],by rw [S.sn];omega,rfl⟩⟩
 · exact Rt rfl (.tup (.cons (.rf rfl) (Ygp h))) ⟨_,rfl,fun _=>⟨x,hx,by omega,rfl⟩⟩
theorem Xq2 {k r : Nat} {t : Tw k} (hT : TS r k t) (hR : red k t) (hk : k≤16) (hq : qB r k r≤4398046511104) (hv : vB r k r≤4398046511104) : C0 126 [.d (dt t)] (·=.b true):=by
 have:=Xff (r:=r) k r
 refine En Tryz.func126 fun _ _ _=>?_
 refine Lo (fun i : Nat=>[(0,.d (dt t)),(3,.d (.int .i64 i))]) (fun _=>[]) (fun i=>i≤k) (fun i=>k - i) 0 [] rfl (by omega) (fun i hi=>?_)
 refine By rfl (fun h=>?_) fun h=>?_ <;> simp only [lt',Xaa] at h
 · obtain ⟨w,x,h1,h2,h3,h4,h5⟩:=Tw.take (t:=t) (i:=i) (by omega)
   have hx:=h3 r hT
   obtain ⟨h6,h7,h8⟩:=h5 hR
   have q1:=Xsq (r:=r) (p:=r) (show i≤k by omega)
   have v1:=Xi2 (r:=r) (s:=r) (show i≤k by omega)
   refine Dw rfl ?_
   refine Tk i ((toT i w).map dqs) rfl rfl (by rw [lt',Xaa];omega) (by rw [←W2g,h1]) ?_
   refine Ix i rfl (mp h2) ?_
   refine Ce rfl (R6.Formed_ok (TS.pt hx.1) (by omega) hx.2.ps (by omega) (by rw [Xaa];omega) (Ydx w x)) ?_
   refine No rfl (by simp) ?_
   refine Tk i ((toT i w).map dqs) rfl rfl (by rw [lt',Xaa];omega) (by rw [←W2g,h1]) ?_
   refine Ix i rfl (mp h2) ?_
   refine Ce rfl (R7.Sign_ok hx.1 hx.2 (Xag h6) (by omega) (by omega) (by omega)) ?_
   refine No rfl (by omega) ?_
   refine Dw rfl ?_
   refine Tk i ((toT i w).map dqs) rfl rfl (by rw [lt',Xaa];omega) (by rw [←W2g,h1]) ?_
   refine Ix i rfl (mp h2) ?_
   refine Ca rfl (Xks hx.1 hx.2 h6 (by omega) (by omega)) fun v hv=>?_
   obtain ⟨d,rfl,hd⟩:=hv
   refine No rfl h8 ?_
   refine Ar (i+1 : Nat) rfl ?_
   exact Bk (i+1) [] rfl (show i+1≤k by omega) (by show k - (i+1)<k - i;omega)
 · exact R0
def Yls (k : Nat) (t : Tw k) (a : Tow.El k) (v : AV) : Prop :=
 (sgn k t a<0∧v=.tup (.pr (.d (dts [])) (.pr (.d (dqs [])) (.d (.int .i64 7))))) ∨
 (∃ x,mul k t x x=a∧0≤sgn k t x∧v=.tup (.pr (.d (dt t)) (.pr (.d (de x)) (.d (.int .i64 0))))) ∨
 (0≤sgn k t a∧¬ Xej k t a∧k<8∧v=.tup (.pr (.d (dt (tsn t a))) (.pr (.d (de (Xcg (k+1) k))) (.d (.int .i64 0)))))
theorem Xvq {k r p : Nat} {t : Tw k} {a : Tow.El k} (hT : TS r k t) (ha : Sz p (toL k a)) (hR : red k t) (hk : k<8) (hq : qB r k p≤4398046511104) (hv : vB r k (p+gC r k)≤4398046511104) (hr : vB r k r≤4398046511104) :
 C0 128 [.d (dt t),.d (de a)] (Yls k t a):=by
 have h0:=Xcu (r:=r) (k:=k) (show p≤p+gC r k by omega)
 have hlen:=Xaa k t
 refine En Tryz.func128 fun _ _ _=>?_
 refine Ce rfl (R7.Sign_ok hT ha (Xag hR) (by omega) (by omega) hr) ?_
 refine By rfl (fun h=>?_) fun h=>?_
 · exact Rt rfl (.tup (.cons (.nil rfl) (.cons (.nil rfl) Xdo))) (.inl ⟨h,rfl⟩)
 refine Ca rfl (Ybc hT ha hR (by omega) hq hv hr) fun v hv=>?_
 obtain ⟨w,rfl,hw⟩:=hv
 refine By rfl (fun h1=>?_) fun h1=>?_
 · obtain ⟨x,x1,x2,rfl⟩:=hw h1
   exact Rt rfl (.tup (.cons (.rf rfl) (.cons (.rf rfl) Xdo))) (.inr (.inl ⟨x,x1,x2,rfl⟩))
 refine No rfl (by simp only [lt',hlen];omega) ?_
 have e : dt (tsn t a)=dts (toT k t++[toL k a]):=rfl
 have e2 : (((toT k t).map dqs).length : Int)=k:=by simp [hlen]
 by_cases k0 : k=0
 · subst k0
   refine ApE rfl rfl (by decide) ?_
   refine ApL ([toL 0 a].map dqs) rfl rfl (by simp) (by simp) ?_
   refine Fz 9 9 ([toL 0 a].map dqs) rfl (by simp) rfl ?_
   refine Ce rfl (R6.Root_ok (r:=r) (t:=tsn t a) (i:=0) (by omega) (by omega)) ?_
   exact Rt rfl (.tup (.cons (.rf rfl) (.cons (.rf rfl) Xdo))) (.inr (.inr ⟨by omega,h1,hk,rfl⟩))
 · refine ApL ((toT k t).map dqs) rfl rfl (by simp [hlen];omega) (by simp [hlen];omega) ?_
   refine ApO ((toT k t++[toL k a]).map dqs) rfl rfl rfl (by simp) (by simp [hlen];omega) ?_
   refine Fz 9 9 ((toT k t++[toL k a]).map dqs) rfl (by simp) (by rw [W1f];exact W0b (by simp)) ?_
   have hrt:=R6.Root_ok (r:=r) (t:=tsn t a) (i:=k) (by omega) (by omega)
   rw [←e2] at hrt
   refine Ce rfl hrt ?_
   exact Rt rfl (.tup (.cons (.rf rfl) (.cons (.rf rfl) Xdo))) (.inr (.inr ⟨by omega,h1,hk,rfl⟩))
theorem Adjoin_ok {k r p : Nat} {t : Tw k} {a : Tow.El k} (hT : TS r k t) (ha : Sz p (toL k a)) (hR : red k t) (hk : k<8) (hq : qB r k p≤4398046511104) (hq2 : qB r k r≤4398046511104) (hv : vB r k (p+gC r k)≤4398046511104) (hr : vB r k r≤4398046511104) :
 C0 63 [.d (dt t),.d (de a)] (Yls k t a):=by
 have h0:=Xff (r:=r) k r
 have h1:=Xff (r:=r) k (p+gC r k)
 refine En Tryz.func63 fun _ _ _=>?_
 refine Ce rfl (Xq2 hT hR (by omega) hq2 hr) ?_
 refine No rfl (by simp) ?_
 refine Ce rfl (R6.Formed_ok (TS.pt hT) (by omega) ha.ps (by omega) (by rw [Xaa];omega) (Ydx t a)) ?_
 refine No rfl (by simp) ?_
 refine Ca rfl (Xvq hT ha hR hk hq hv hr) fun v hv=>?_
 rcases hv with ⟨h1,rfl⟩ | ⟨x,h1,h2,rfl⟩ | ⟨h1,h2,h3,rfl⟩
 · exact Rt rfl (.tup (.cons (.rf rfl) (.cons (.rf rfl) Xdo))) (.inl ⟨h1,rfl⟩)
 · exact Rt rfl (.tup (.cons (.rf rfl) (.cons (.rf rfl) Xdo))) (.inr (.inl ⟨x,h1,h2,rfl⟩))
 · exact Rt rfl (.tup (.cons (.rf rfl) (.cons (.rf rfl) Xdo))) (.inr (.inr ⟨h1,h2,h3,rfl⟩))
end Go.Proofs.YtclmecgphleeeaaGreatDoor.R8
namespace Go.Tow
open Go Go.Num Go.Proofs.YtclmecgphleeeaaGreatDoor
section
def ev {K : Nat} (G : Tw K) (ρ : Nat→El K) : (k : Nat)→El k→El K
 | 0,x=>rat K x
 | k+1,a=>add K (ev G ρ k a.1) (mul K G (ev G ρ k a.2) (ρ k))
def Hom {K : Nat} (G : Tw K) (ρ : Nat→El K) : (k : Nat)→Tw k→Prop
 | 0,_=>True
 | k+1,t=>Hom G ρ k t.1∧mul K G (ρ k) (ρ k)=ev G ρ k t.2∧sgn K G (ρ k)=1
variable {K : Nat} {G : Tw K} {ρ σ : Nat→El K}
theorem Xbc : ∀ {k : Nat} {a : El k},(∀ i,i<k→ρ i=σ i)→ev G ρ k a=ev G σ k a
 | 0,_,_=>rfl
 | k+1,a,h=>by
  show add K (ev G ρ k a.1) (mul K G (ev G ρ k a.2) (ρ k))=add K (ev G σ k a.1) (mul K G (ev G σ k a.2) (σ k))
  rw [Xbc (k:=k) fun i hi=>h i (by omega),Xbc (k:=k) (a:=a.2) fun i hi=>h i (by omega),h k (by omega)]
theorem Hom.congr : ∀ {k : Nat} {t : Tw k},Hom G ρ k t→(∀ i,i<k→ρ i=σ i)→Hom G σ k t
 | 0,_,_,_=>trivial
 | k+1,t,⟨h1,h2,h3⟩,h=>⟨h1.congr fun i hi=>h i (by omega),by rw [←h k (by omega),h2];exact Xbc fun i hi=>h i (by omega),by rw [←h k (by omega)];exact h3⟩
theorem Xfp : ∀ {k : Nat},ev G ρ k (zero k)=zero K
 | 0=>Xgh K
 | k+1=>by
  show add K (ev G ρ k (zero k)) (mul K G (ev G ρ k (zero k)) (ρ k))=zero K
  rw [Xfp,(Xa3 K G).zm,(Xa3 K G).az]
theorem Xc7 : ∀ {k : Nat} {a b : El k},ev G ρ k (add k a b)=add K (ev G ρ k a) (ev G ρ k b)
 | 0,a,b=>Xde K a b
 | k+1,a,b=>by
  show add K (ev G ρ k (add k a.1 b.1)) (mul K G (ev G ρ k (add k a.2 b.2)) (ρ k))=add K (add K (ev G ρ k a.1) (mul K G (ev G ρ k a.2) (ρ k))) (add K (ev G ρ k b.1) (mul K G (ev G ρ k b.2) (ρ k)))
  rw [Xc7,Xc7]
  have L:=Xa3 K G
  exact (Laws.req L [ev G ρ k a.1,ev G ρ k a.2,ev G ρ k b.1,ev G ρ k b.2,ρ k] (.add (.add (.v 0) (.v 2)) (.mul (.add (.v 1) (.v 3)) (.v 4))) (.add (.add (.v 0) (.mul (.v 1) (.v 4))) (.add (.v 2) (.mul (.v 3) (.v 4)))) (by decide +kernel))
theorem Xhq : ∀ {k : Nat} {a : El k},ev G ρ k (neg k a)=neg K (ev G ρ k a)
 | 0,a=>Xei K a
 | k+1,a=>by
  show add K (ev G ρ k (neg k a.1)) (mul K G (ev G ρ k (neg k a.2)) (ρ k))=neg K (add K (ev G ρ k a.1) (mul K G (ev G ρ k a.2) (ρ k)))
  rw [Xhq,Xhq,(Xa3 K G).nm,(Xa3 K G).nd]
theorem Xuf {k : Nat} {a : El k} : ev G ρ (k+1) (up k a)=ev G ρ k a:=by
 show add K (ev G ρ k a) (mul K G (ev G ρ k (zero k)) (ρ k))=_
 rw [Xfp,(Xa3 K G).zm,(Xa3 K G).az]
theorem Xck : ∀ {k : Nat} {x : Rat},ev G ρ k (rat k x)=rat K x
 | 0,_=>rfl
 | k+1,x=>by rw [show rat (k+1) x=up k (rat k x) from rfl,Xuf,Xck]
theorem Xbd : ∀ {k : Nat} {t : Tw k} {a b : El k},Hom G ρ k t→ev G ρ k (mul k t a b)=mul K G (ev G ρ k a) (ev G ρ k b)
 | 0,t,a,b,_=>Xbx K G a b
 | k+1,t,a,b,h=>by
  show add K (ev G ρ k (add k (mul k t.1 a.1 b.1) (mul k t.1 (mul k t.1 a.2 b.2) t.2))) (mul K G (ev G ρ k (add k (mul k t.1 a.1 b.2) (mul k t.1 a.2 b.1))) (ρ k))=mul K G (add K (ev G ρ k a.1) (mul K G (ev G ρ k a.2) (ρ k))) (add K (ev G ρ k b.1) (mul K G (ev G ρ k b.2) (ρ k)))
  rw [Xc7,Xc7,Xbd h.1,Xbd h.1,Xbd h.1,Xbd h.1,Xbd h.1,←h.2.1]
  have L:=Xa3 K G
  exact (Laws.req L [ev G ρ k a.1,ev G ρ k a.2,ev G ρ k b.1,ev G ρ k b.2,ρ k] (.add (.add (.mul (.v 0) (.v 2)) (.mul (.mul (.v 1) (.v 3)) (.mul (.v 4) (.v 4)))) (.mul (.add (.mul (.v 0) (.v 3)) (.mul (.v 1) (.v 2))) (.v 4))) (.mul (.add (.v 0) (.mul (.v 1) (.v 4))) (.add (.v 2) (.mul (.v 3) (.v 4)))) (by decide +kernel))
theorem Yct {k : Nat} {t : Tw (k+1)} {a : El (k+1)} (h : Hom G ρ k t.1) : ev G ρ k (norm k t a)=add K (mul K G (ev G ρ k a.1) (ev G ρ k a.1)) (neg K (mul K G (mul K G (ev G ρ k a.2) (ev G ρ k a.2)) (ev G ρ k t.2))):=by
 unfold norm
 rw [Xc7,Xhq,Xbd h,Xbd h,Xbd h]
theorem Xcr (hG : Xbm K G) : ∀ {k : Nat} {t : Tw k} {a : El k},Hom G ρ k t→sgn K G (ev G ρ k a)=sgn k t a
 | 0,t,a,_=>Xcw hG
 | k+1,t,a,h=>by
  have L:=Xa3 K G
  have S:=Xat hG
  have e : sgn (k+1) t a=L.sx (ev G ρ k t.2) (sgn K G) (ev G ρ k a.1,ev G ρ k a.2):=by
   show (if sgn k t.1 a.2=0∨sgn k t.1 a.1=sgn k t.1 a.2 then sgn k t.1 a.1 else if sgn k t.1 a.1=0 then sgn k t.1 a.2 else sgn k t.1 a.1*sgn k t.1 (norm k t a))=_
   rw [←Xcr hG h.1,←Xcr hG h.1 (a:=a.1),←Xcr hG h.1 (a:=norm k t a),Yct h.1]
   rfl
  have hr : L.Rt (ev G ρ k t.2) (sgn K G) (ρ k) (rat K 1):=by
   refine ⟨h.2.2,by rw [Xcw hG];decide +kernel,?_⟩
   rw [h.2.1,L.mo,L.mo,L.an,S.s0 L]
  have hd : sgn K G (ev G ρ k t.2)=1:=by rw [←h.2.1,S.sm,h.2.2];rfl
  rw [e,S.sx_rt L hd hr,L.mo]
  rfl
theorem Ycu (hG : Xbm K G) {k : Nat} {t : Tw k} (h : Hom G ρ k t) (hr : red k t) {a : El k} (e : ev G ρ k a=zero K) : a=zero k:=by
 have:=Xcr hG h (a:=a)
 rw [e,(Xat hG).s0 (Xa3 K G)] at this
 exact (Xdd hr).1 this.symm
theorem Xc6 (hG : Xbm K G) {k : Nat} {t : Tw k} (h : Hom G ρ k t) (hr : red k t) {a b : El k} (e : ev G ρ k a=ev G ρ k b) : a=b:=by
 refine (Xa3 k t).sub0 (Ycu hG h hr (a:=add k a (neg k b)) ?_)
 rw [Xc7,Xhq,e,(Xa3 K G).an]
theorem Hom.uniq (hG : red K G) : ∀ {k : Nat} {t : Tw k},Hom G ρ k t→Hom G σ k t→∀ i,i<k→ρ i=σ i
 | 0,_,_,_,i,hi=>by omega
 | k+1,t,h,h',i,hi=>by
  have ih:=h.1.uniq hG h'.1
  by_cases e : i=k
  · subst e
    refine Xob hG (by rw [h.2.1,h'.2.1,Xbc ih]) (by rw [h.2.2];decide) (by rw [h'.2.2];decide)
  · exact ih i (by omega)
theorem Xjk (i : Nat) : Xcg (i+1) i=(pr (zero i) (rat i 1) : El (i+1)):=by
 unfold Xcg;rw [if_pos rfl]
theorem Xon {k i : Nat} (h : i≠k) : Xcg (k+1) i=(up k (Xcg k i) : El (k+1)):=by
 conv=>lhs;unfold Xcg
 rw [if_neg h]
theorem Xhp : ∀ {k i : Nat},i<k→ev G ρ k (Xcg k i)=ρ i
 | k+1,i,hi=>by
  by_cases e : i=k
  · subst e
    rw [Xjk]
    show add K (ev G ρ i (zero i)) (mul K G (ev G ρ i (rat i 1)) (ρ i))=_
    rw [Xfp,Xck,(Xa3 K G).om,(Xa3 K G).za]
  · rw [Xon e,Xuf,Xhp (by omega)]
theorem Hom.ne (hG : Xbm K G) : ∀ {k : Nat} {t : Tw k},Hom G ρ k t→red k t→∀ i j,i<j→j<k→ρ i≠ρ j
 | 0,_,_,_,i,j,_,h=>by omega
 | k+1,t,h,hr,i,j,hij,hj=>fun e=>by
  by_cases ej : j=k
  · subst ej
    refine hr.2.2 ⟨Xcg j i,Xc6 hG h.1 hr.1 ?_⟩
    rw [Xbd h.1,Xhp hij,e,h.2.1]
  · exact h.1.ne hG hr.1 i j hij (by omega) e
theorem Xst {α : Type} : ∀ (k : Nat) (S : List α) (f : Nat→α),(∀ i,i<k→f i∈S)→(∀ i j,i<j→j<k→f i≠f j)→k≤S.length
 | 0,_,_,_,_=>W1d _
 | k+1,S,f,h1,h2=>by
  obtain ⟨A,B,e⟩:=List.append_of_mem (h1 k (by omega))
  have:=Xst k (A++B) f (fun i hi=>by
   have h3:=h1 i (by omega)
   rw [e] at h3
   rcases W2v.1 h3 with h3 | h3
   · exact W2f _ h3
   · rcases W1o.1 h3 with h3 | h3
     · exact absurd h3 (h2 i k hi (by omega))
     · exact W1l _ h3) (fun i j hi hj=>h2 i j hi (by omega))
  rw [e]
  simp only [W0c,W0s] at this ⊢
  omega
structure TOk {K : Nat} (G : Tw K) (S : List (El K)) (k : Nat) (t : Tw k) (ρ : Nat→El K) : Prop where
 r : red k t
 h : Hom G ρ k t
 s : ∀ i,i<k→ρ i∈S
theorem TOk.le (hG : Xbm K G) {S : List (El K)} {k : Nat} {t : Tw k} (h : TOk G S k t ρ) : k≤S.length:=Xst k S ρ h.s (h.h.ne hG h.r)
theorem TOk.snoc (hG : Xbm K G) {S : List (El K)} {k : Nat} {t : Tw k} (h : TOk G S k t ρ) {a : El k} (hn : ¬ Xej k t a) {s : El K} (hs : s∈S) (h1 : mul K G s s=ev G ρ k a) (h2 : sgn K G s=1) : TOk G S (k+1) (tsn t a) (fun i=>if i=k then s else ρ i) where
 r:=⟨h.r,by show sgn k t a=1;rw [←Xcr hG h.h,←h1,(Xat hG).sm,h2];rfl,hn⟩
 h:=⟨h.h.congr fun i hi=>(if_neg (by omega)).symm,by
  show mul K G (if k=k then s else ρ k) (if k=k then s else ρ k)=ev G _ k a
  rw [if_pos rfl,h1];exact Xbc fun i hi=>(if_neg (by omega)).symm,by
  show sgn K G (if k=k then s else ρ k)=1
  rw [if_pos rfl,h2]⟩
 s:=fun i hi=>by
  show (if i=k then s else ρ i)∈S
  split
  · exact hs
  · exact h.s i (by omega)
theorem Xis {v : El K} : ∀ {k : Nat} {a : El k},ev (tsn G v) (fun i=>up K (ρ i)) k a=up K (ev G ρ k a)
 | 0,a=>rfl
 | k+1,a=>by
  show add (K+1) (ev (tsn G v) _ k a.1) (mul (K+1) (tsn G v) (ev (tsn G v) _ k a.2) (up K (ρ k)))=up K (add K (ev G ρ k a.1) (mul K G (ev G ρ k a.2) (ρ k)))
  rw [Xis,Xis,Xij]
  exact W4j rfl ((Xa3 K G).az (zero K))
theorem Hom.tsn (hG : Xbm K G) {v : El K} : ∀ {k : Nat} {t : Tw k},Hom G ρ k t→Hom (tsn G v) (fun i=>up K (ρ i)) k t
 | 0,_,_=>trivial
 | k+1,t,h=>⟨h.1.tsn hG,by rw [Xis,←h.2.1,Xij];rfl,by rw [Xoh _ (show Xbm K (Tow.tsn G v).1 from hG)];exact h.2.2⟩
end
section
variable {K : Nat} {G : Tw K} {ρ : Nat→El K}
def Lf {k m : Nat} (a : El k) (b : El m) : Prop:=toL m b=toL k a++List.replicate (2 ^ m - 2 ^ k) 0
theorem Lf.ex {k m : Nat} (h : k≤m) (a : El k) : ∃ b : El m,Lf a b:=by
 obtain ⟨b,hb⟩:=exE m (toL k a++List.replicate (2 ^ m - 2 ^ k) 0) (by
  have:=W0h (n:=2) (by decide) h
  rw [W0c,Xab,W1y];omega)
 exact ⟨b,hb⟩
theorem Lf.rfl' {k : Nat} (a : El k) : Lf a a:=by unfold Lf;rw [W2w];simp
theorem Lf.eq {k : Nat} {a b : El k} (h : Lf a b) : b=a:=by
 unfold Lf at h;rw [W2w] at h
 exact Xgu (by simpa using h)
theorem Lf.ev {k : Nat} {a : El k} : ∀ {m : Nat} {b : El m},k≤m→Lf a b→ev G ρ m b=ev G ρ k a:=by
 intro m
 induction m with
 | zero=>intro b h hl;have:=Nat.le_zero.1 h;subst this;rw [hl.eq]
 | succ m ih =>
  intro b h hl
  by_cases e : k=m+1
  · subst e;rw [hl.eq]
  · have hp:=W0h (n:=2) (by decide) (show k≤m by omega)
    have hs : 2 ^ (m+1) - 2 ^ k=(2 ^ m - 2 ^ k)+2 ^ m:=by rw [W0p];omega
    have hl : toL m b.1++toL m b.2=(toL k a++List.replicate (2 ^ m - 2 ^ k) 0)++List.replicate (2 ^ m) 0:=by
     have : toL (m+1) b=_:=hl
     rw [hs,←W5d,←W3y] at this
     exact this
    obtain ⟨h1,h2⟩:=Xep (by rw [Xab,W0c,Xab,W1y];omega) hl
    have e2 : b.2=zero m:=Xgu (by rw [h2,Xbn])
    show add K (Tow.ev G ρ m b.1) (mul K G (Tow.ev G ρ m b.2) (ρ m))=_
    rw [e2,Xfp,(Xa3 K G).zm,(Xa3 K G).az]
    exact ih (by omega) h1
theorem Lf.sz {k m p : Nat} {a : El k} {b : El m} (h : Lf a b) (ha : Sz p (toL k a)) : Sz p (toL m b):=by
 obtain ⟨d,d0,d1,d2⟩:=ha
 rw [h]
 exact ⟨d,d0,d1,d2.append fun x hx=>⟨0,by rw [(W5q.1 hx).2,W4x];rfl,W0t p⟩⟩
theorem Xmg : ∀ {k : Nat} {t w : Tw k},toT k t=toT k w→t=w
 | 0,_,_,_=>rfl
 | k+1,t,w,h=>by
  have h : toT k t.1++[toL k t.2]=toT k w.1++[toL k w.2]:=h
  obtain ⟨h1,h2⟩:=Xep (by rw [Xaa,Xaa]) h
  exact W4j (Xmg h1) (Xgu (by injection h2))
theorem Tw.cut {k : Nat} : ∀ {t : Tw k} {i : Nat},i≤k→∃ w : Tw i,toT i w=(toT k t).take i∧(∀ r,TS r k t→TS r i w)∧(red k t→red i w)∧∀ {K : Nat} {G : Tw K} {ρ : Nat→El K},Hom G ρ k t→Hom G ρ i w:=by
 induction k with
 | zero=>intro t i h;have:=Nat.le_zero.1 h;subst this;exact ⟨t,rfl,fun _ h=>h,fun h=>h,fun h=>h⟩
 | succ k ih =>
  intro t i h
  by_cases e : i=k+1
  · subst e;exact ⟨t,by rw [W0b (by rw [Xaa];exact W0a _)],fun _ h=>h,fun h=>h,fun h=>h⟩
  · obtain ⟨w,h1,h2,h3,h4⟩:=ih (t:=t.1) (i:=i) (by omega)
    refine ⟨w,?_,fun r h=>h2 r h.1,fun h=>h3 h.1,fun h=>h4 h.1⟩
    show _=(toT k t.1++[toL k t.2]).take i
    rw [W6j (by rw [Xaa];omega),h1]
def Beg (k : Nat) (t : Tw k) (m : Nat) (T : Tw m) : Prop:=(toT m T).take (toT k t).length=toT k t
theorem Beg.le {k m : Nat} {t : Tw k} {T : Tw m} (h : Beg k t m T) : k≤m:=by
 have:=congrArg List.length h
 simp only [W0j,Xaa] at this;omega
theorem Beg.hom {k m : Nat} {t : Tw k} {T : Tw m} (h : Beg k t m T) (hT : Hom G ρ m T) : Hom G ρ k t:=by
 obtain ⟨w,h1,_,_,h4⟩:=Tw.cut (t:=T) h.le
 have : w=t:=Xmg (by rw [h1];unfold Beg at h;rwa [Xaa] at h)
 rw [←this];exact h4 hT
theorem Beg.rf {k : Nat} {t : Tw k} : Beg k t k t:=W0b (W0a _)
theorem Beg.tr {k l m : Nat} {t : Tw k} {u : Tw l} {w : Tw m} (h : Beg k t l u) (h' : Beg l u m w) : Beg k t m w:=by
 have h1:=h.le
 unfold Beg at *
 rw [←h',List.take_take,Xaa,Xaa,W1q h1] at h
 rw [Xaa];exact h
theorem Beg.snoc {k : Nat} {t : Tw k} {a : El k} : Beg k t (k+1) (tsn t a):=W6f rfl
def imB (c z : Nat) : Nat→Nat→Nat
 | 0,p=>p+1
 | j+1,p=>2*imB c z j p+z+c+1
theorem Xll {k R z : Nat} {T : Tw k} {σ : Nat→El k} (hT : TS R k T) : ∀ {j p : Nat} {a : El j},(∀ i,i<j→Sz z (toL k (σ i)))→Sz p (toL j a)→Sz (imB (cB R k) z j p) (toL k (ev T σ j a))
 | 0,p,a,_,ha=>Sz.rat k (ha.qs (x:=a) (W0g.2 rfl))
 | j+1,p,a,hs,ha=>by
  have h1:=Xll hT (a:=a.1) (fun i hi=>hs i (by omega)) (Sz.left ha)
  have h2:=Xll hT (a:=a.2) (fun i hi=>hs i (by omega)) (Sz.right ha)
  have h3:=h2.mul hT (hs j (by omega))
  show Sz _ (toL k (add k (Tow.ev T σ j a.1) (mul k T (Tow.ev T σ j a.2) (σ j))))
  rw [Xaz]
  exact (h1.add h3).mono (by show _≤2*imB (cB R k) z j p+z+cB R k+1;omega)
theorem Xlm {k : Nat} {T : Tw k} {σ : Nat→El k} {ρ' : Nat→El K} (hT : Hom G ρ k T) : ∀ {j : Nat} {a : El j},(∀ i,i<j→ev G ρ k (σ i)=ρ' i)→ev G ρ k (ev T σ j a)=ev G ρ' j a
 | 0,a,_=>Xck
 | j+1,a,h=>by
  show ev G ρ k (add k (ev T σ j a.1) (mul k T (ev T σ j a.2) (σ j)))=add K (ev G ρ' j a.1) (mul K G (ev G ρ' j a.2) (ρ' j))
  rw [Xc7,Xbd hT,Xlm hT fun i hi=>h i (by omega),Xlm hT (a:=a.2) fun i hi=>h i (by omega),h j (by omega)]
end
section
theorem Tw.at {k : Nat} : ∀ {t : Tw k} {i : Nat},i<k→∃ x : El i,(toT k t)[i]?=some (toL i x)∧(∀ r,TS r k t→Sz r (toL i x))∧∀ {K : Nat} {G : Tw K} {ρ : Nat→El K},Hom G ρ k t→mul K G (ρ i) (ρ i)=ev G ρ i x∧sgn K G (ρ i)=1:=by
 induction k with
 | zero=>intro t i h;omega
 | succ k ih =>
  intro t i h
  have hl:=Xaa k t.1
  by_cases e : i=k
  · subst e
    refine ⟨t.2,?_,fun r h=>h.2,fun h=>h.2⟩
    show (toT i t.1++[toL i t.2])[i]?=_
    rw [W0u (by omega),hl,W2w];rfl
  · obtain ⟨x,h1,h2,h3⟩:=ih (t:=t.1) (i:=i) (by omega)
    refine ⟨x,?_,fun r h=>h2 r h.1,fun h=>h3 h.1⟩
    show (toT k t.1++[toL k t.2])[i]?=_
    rw [W0x (by omega),h1]
theorem _root_.Go.Proofs.YtclmecgphleeeaaGreatDoor.TS.mono {r s : Nat} (h : r≤s) : ∀ {k : Nat} {t : Tw k},TS r k t→TS s k t
 | 0,_,_=>trivial
 | k+1,t,ht=>⟨ht.1.mono h,ht.2.mono h⟩
theorem Xp7 {r i k : Nat} (h : i≤k) : cB r i≤cB r k:=by
 induction k with
 | zero=>rw [show i=0 by omega];exact W0a _
 | succ k ih =>
  by_cases e : i=k+1
  · rw [e];exact W0a _
  · exact W0i (ih (by omega)) (Yj6 r k)
theorem Xt9 {r i k : Nat} (h : i≤k) : gC r i≤gC r k:=by
 induction k with
 | zero=>rw [show i=0 by omega];exact W0a _
 | succ k ih =>
  by_cases e : i=k+1
  · rw [e];exact W0a _
  · exact W0i (ih (by omega)) (by show _≤2*gC r k+2*cB r k+r+iS r k r+2;omega)
theorem Yjv {r i k p : Nat} (h : i≤k) : iB r i p≤iB r k p:=by
 induction k generalizing p with
 | zero=>rw [show i=0 by omega];exact W0a _
 | succ k ih =>
  by_cases e : i=k+1
  · rw [e];exact W0a _
  · have h1:=ih (p:=p) (by omega)
    have h2:=Xj1 (W0a r) (k:=k) (Xqo r k p)
    exact W0i (W0i h1 h2) (by show _≤2*(p+iB r k (nB r k p)+cB r k);omega)
theorem Yju {r i k p : Nat} (h : i≤k) : iS r i p≤iS r k p:=by
 induction k generalizing p with
 | zero=>rw [show i=0 by omega];exact W0a _
 | succ k ih =>
  by_cases e : i=k+1
  · rw [e];exact W0a _
  · have h1:=ih (p:=p) (by omega)
    have h2:=Xnb (W0a r) (k:=k) (show p≤nS r k p by unfold nS;omega)
    exact W0i (W0i h1 h2) (by show _≤p+iS r k (nS r k p)+cB r k;omega)
theorem Xgk {c c' z z' p p' : Nat} (h1 : c≤c') (h2 : z≤z') (h3 : p≤p') : ∀ {j : Nat},imB c z j p≤imB c' z' j p'
 | 0=>by show p+1≤p'+1;omega
 | j+1=>by have:=Xgk h1 h2 h3 (j:=j);show 2*imB c z j p+z+c+1≤2*imB c' z' j p'+z'+c'+1;omega
variable {K : Nat} {G : Tw K} {ρ ρ' ρu : Nat→El K}
def RtV (G : Tw K) (m z j : Nat) (rs : List (List Rat)) (ρ ρu : Nat→El K) : Prop:=∀ i,i<j→∃ (n : Nat) (s : El n),n≤m∧rs[i]?=some (toL n s)∧Sz z (toL n s)∧ev G ρ n s=ρu i
theorem RtV.mono {m m' z z' j : Nat} {rs : List (List Rat)} (h : RtV G m z j rs ρ ρu) (hm : m≤m') (hz : z≤z') (hr : ∀ i,i<m→ρ' i=ρ i) : RtV G m' z' j rs ρ' ρu:=fun i hi=>by
 obtain ⟨n,s,h1,h2,h3,h4⟩:=h i hi
 exact ⟨n,s,by omega,h2,h3.mono hz,by rw [←h4];exact Xbc fun i hi=>hr i (by omega)⟩
theorem RtV.snoc {m z j n : Nat} {rs : List (List Rat)} (h : RtV G m z j rs ρ ρu) (hl : rs.length=j) {s : El n} (hn : n≤m) (hz : Sz z (toL n s)) (he : ev G ρ n s=ρu j) : RtV G m z (j+1) (rs++[toL n s]) ρ ρu:=fun i hi=>by
 by_cases e : i=j
 · subst e
   exact ⟨n,s,hn,by rw [W0u (by omega),hl,W2w];rfl,hz,he⟩
 · obtain ⟨n',s',h1,h2,h3,h4⟩:=h i (by omega)
   exact ⟨n',s',h1,by rw [W0x (by omega),h2],h3,h4⟩
structure Nm where
 k : Nat
 t : Tw k
 a : El k
structure NOk (G : Tw K) (S : List (El K)) (r p : Nat) (x : Nm) (v : El K) : Prop where
 ex : ∃ ρ,TOk G S x.k x.t ρ∧ev G ρ x.k x.a=v
 r : TS r x.k x.t
 p : Sz p (toL x.k x.a)
theorem NOk.mono {S : List (El K)} {r r' p p' : Nat} {x : Nm} {v : El K} (h : NOk G S r p x v) (hr : r≤r') (hp : p≤p') : NOk G S r' p' x v:=⟨h.ex,h.r.mono hr,h.p.mono hp⟩
theorem NOk.le (hG : Xbm K G) {S : List (El K)} {r p : Nat} {x : Nm} {v : El K} (h : NOk G S r p x v) (hS : S.length≤3) : x.k≤3:=by
 obtain ⟨ρ,h1,_⟩:=h.ex
 exact W0i (h1.le hG) hS
theorem NOk.sgn (hG : Xbm K G) {S : List (El K)} {r p : Nat} {x : Nm} {v : El K} (h : NOk G S r p x v) : sgn K G v=sgn x.k x.t x.a:=by
 obtain ⟨ρ,h1,h2⟩:=h.ex
 rw [←h2,Xcr hG h1.h]
theorem NOk.neg {S : List (El K)} {r p : Nat} {x : Nm} {v : El K} (h : NOk G S r p x v) : NOk G S r p ⟨x.k,x.t,Tow.neg x.k x.a⟩ (Tow.neg K v):=by
 obtain ⟨ρ,h1,h2⟩:=h.ex
 exact ⟨⟨ρ,h1,by rw [←h2];exact Xhq⟩,h.r,by rw [Xb0];exact h.p.neg⟩
end
end Go.Tow
namespace Go.Vm
open Go
section
variable {c : Cx} {s : St} {p : Pl}
noncomputable def Yia (tb : Nat→Option TI) (n : Nat) (s : St) : Option (Pl × AV × Int × Int):=match nxA tb n s with
 | some (p,o,args)=>match o.op with
  | .slice T _ lo hi mx=>match tb T with
   | some ti=>match ti.z,Xic lo hi mx args with
    | .sl _ _,some (a,none,some h,some m)=>some (p,a,h,m)
    | _,_=>none
   | none=>none
  | _=>none
 | none=>none
theorem S3 (i : Nat) {o sz l n : Nat} {h' m : Int} {a : AV} (h : Yia c.tb c.n s=some (p,a,h',m)) (ha : a=.own o sz l n∨a=.ow3 o sz l n) (h0 : 0<i) (hi : i≤n) (k : p.nx c (.ow3 o sz l i)) (e1 : h'=i:=by first | exact rfl | omega) (e2 : m=i:=by first | exact rfl | omega) : StP c s:=by
 subst e1;subst e2
 unfold Yia at h
 split at h <;> try cases h
 rename_i hA
 split at h <;> try cases h
 rename_i ho
 split at h <;> try cases h
 rename_i ti ht
 split at h <;> cases h
 rename_i hz hs
 refine Xby (us:=[]) hA ?_ (Pl.nx_nil k)
 rw [ho]
 have hr : sl3 (i : Int) (i : Int) a=some (.ow3 o sz l i):=by rcases ha with rfl | rfl <;> (rw [sl3,if_pos ⟨by omega,by omega,rfl⟩];simp)
 simp only [F,Fp,ht,hz,hs,hr]
 rw [if_neg (fun h=>by omega)]
theorem S30 {a : AV} {h' m : Int} (h : Yia c.tb c.n s=some (p,a,h',m)) (ha : Yb9 a=true) (k : p.nx c .nil) (e1 : h'=0:=by first | exact rfl | omega) (e2 : m=0:=by first | exact rfl | omega) : StP c s:=by
 subst e1;subst e2
 unfold Yia at h
 split at h <;> try cases h
 rename_i hA
 split at h <;> try cases h
 rename_i ho
 split at h <;> try cases h
 rename_i ti ht
 split at h <;> cases h
 rename_i hz hs
 refine Xby (us:=[]) hA ?_ (Pl.nx_nil k)
 rw [ho]
 simp only [F,Fp,ht,hz,hs]
 simp only [ha,true_and,and_self,if_true]
theorem D3 (i : Nat) {o sz l n : Nat} {i' : Int} (h : nxS c.tb c.n s=some (p,.ow3 o sz l n,some i',none)) (hi : i≤n) (k : p.nx c (.ow3 o sz (l+i) (n - i))) (e : i'=i:=by first | exact rfl | omega) : StP c s:=by
 subst e
 refine Xo6 h ?_ k
 rw [slA,if_pos ⟨by omega,by omega⟩];simp
noncomputable def Ylb (tb : Nat→Option TI) (n : Nat) (s : St) : Option (Pl × Nat × Nat × Nat × Nat × Int):=match nxA tb n s with
 | some (p,o,[.ow3 q sz l m,.d (.int _ j)])=>match o.op with
  | .indexAddr T _ _=>match tb T with
   | some ti=>match ti.z,Nat.beq sz ti.e.size with
    | .sl _ _,true=>some (p,q,sz,l,m,j)
    | _,_=>none
   | none=>none
  | _=>none
 | _=>none
theorem E3 (i : Nat) {q sz m : Nat} {j : Int} (h : Ylb c.tb c.n s=some (p,q,sz,0,m,j)) (hi : i<m) (k : p.nx c (.el q sz i 0)) (hj : j=i:=by first | exact rfl | omega) : StP c s:=by
 subst hj
 unfold Ylb at h
 split at h <;> try cases h
 rename_i hA
 split at h <;> try cases h
 rename_i ho
 split at h <;> try cases h
 rename_i ti ht
 split at h <;> cases h
 rename_i hz hb
 refine Xby (us:=[]) hA ?_ (Pl.nx_nil k)
 rw [ho]
 simp only [F,Fp,ht,hz,ixA]
 rw [if_pos ⟨by omega,by omega,W0e hb⟩]
 simp
theorem Nd (t sz : Nat) {K : List Kt} {E : Env} {H : Hpl} (h : nxJ c.tb c.n s=some (K,E,H)) (k : StP c (.j [] K ((t,.d (.sl sz []))::E) H)) (hv : look E t=some .nil:=by exact rfl) : StP c s:=by
 unfold nxJ at h
 split at h <;> cases h
 rename_i hr
 refine go 1000 hr ?_
 rintro a w ⟨s0,W,θ,hw,hs,hθ,rfl⟩
 refine k a w ⟨_,W,θ,hw,?_,hθ,rfl⟩
 rw [show sem ((t,AV.d (.sl sz []))::E) H=(upd (look E) t (.d (.sl sz [])),look H) from by rw [Xa6]]
 refine ⟨hs.fm,⟨hs.rel.defers,hs.rel.size,fun q v hq=>?_⟩,hs.obs,fun q v i hq hi=>?_⟩
 · rcases Xae hq with ⟨e1,e2⟩ | ⟨e1,e2⟩
   · subst e1;subst e2
     obtain ⟨p,e⟩:=Xl5 (hs.rel.has q _ hv)
     rw [e]
     exact Yi9 rfl (W0a _) (by decide) (.inl rfl)
   · exact hs.rel.has q v e2
 · rcases Xae hq with ⟨e1,e2⟩ | ⟨e1,e2⟩
   · subst e2;exact hi.elim
   · exact hs.ids q v i e2 hi
end
end Go.Vm
namespace Go.Proofs.YtclmecgphleeeaaGreatDoor.R9
open Go Go.Vm Go.Num Go.Tow Go.Proofs.YtclmecgphleeeaaGreatDoor
theorem cmpQ_ne {x y : Rat} : Xmd x y≠0↔x≠y:=by
 unfold Xmd
 split
 · exact ⟨fun _ e=>by subst e;exact absurd ‹_› (Rat.lt_irrefl),fun _=>by decide⟩
 · split
   · exact ⟨fun _ e=>by subst e;exact absurd ‹_› (Rat.lt_irrefl),fun _=>by decide⟩
   · exact ⟨fun h=>absurd rfl h,fun h=>by grind⟩
theorem Ya9 {l m : List Rat} {p q : Nat} (hl : Ps p l) (hm : Ps q m) (hp : p+q≤8796093022208) (hn : l.length≤1048576) : C0 220 [.d (dqs l),.d (dqs m)] (·=.b (dc (l=m))):=by
 refine En Tryz.func220 fun _ _ _=>?_
 refine By rfl (fun h=>?_) fun h=>?_ <;> simp only [lq] at h
 · exact R1 rfl (.bp ⟨nofun,fun e=>absurd (by rw [e]) h⟩)
 have h : l.length=m.length:=by omega
 refine Lo (fun k : Nat=>[(0,.d (dqs l)),(1,.d (dqs m)),(5,.d (.int .i64 k))]) (fun _=>[]) (fun k=>k≤l.length∧l.take k=m.take k) (fun k=>l.length - k) 0 [] rfl ⟨by omega,rfl⟩ fun k ⟨hk,ht⟩=>?_
 refine By rfl (fun h2=>?_) fun h2=>?_ <;> simp only [lq] at h2
 · obtain ⟨x,hx⟩:=qat (l:=l) (k:=k) (by omega)
   obtain ⟨y,hy⟩:=qat (l:=m) (k:=k) (by omega)
   refine Dw rfl ?_
   refine Ix k rfl (mp hx) ?_
   refine Ix k rfl (mp hy) ?_
   refine Ce rfl (R2.Cmp_ok (hl x (W0l hx)) (hm y (W0l hy)) hp) ?_
   refine By rfl (fun h3=>?_) fun h3=>?_
   · exact R1 rfl (.bp ⟨nofun,fun e=>by subst e;rw [hx] at hy;injection hy with hy;exact absurd hy (cmpQ_ne.1 h3)⟩)
   · have e : x=y:=W0y fun h=>h3 (cmpQ_ne.2 h)
     refine Ar (k+1 : Nat) rfl ?_
     exact Bk (k+1) [] rfl ⟨by omega,by rw [W2b,W2b,hx,hy,ht,e]⟩ (by show l.length - (k+1)<l.length - k;omega)
 · rw [W0b (by omega),W0b (by omega)] at ht
   exact R1 rfl (.bp ⟨fun _=>ht,fun _=>rfl⟩)
theorem Xaq {T U : List (List Rat)} {p q : Nat} (hT : Pt p T) (hU : Pt q U) (hp : p+q≤8796093022208) (hl : T.length≤16) : C0 172 [.d (dts T),.d (dts U)] (·=.b (dc (T.take U.length=U))):=by
 refine En Tryz.func172 fun _ _ _=>?_
 refine By rfl (fun h=>?_) fun h=>?_ <;> simp only [lt'] at h
 · exact R1 rfl (.bp ⟨nofun,fun e=>absurd (congrArg List.length e) (by rw [W0j];omega)⟩)
 refine Lo (fun k : Nat=>[(0,.d (dts T)),(1,.d (dts U)),(5,.d (.int .i64 k))]) (fun _=>[]) (fun k=>k≤U.length∧T.take k=U.take k) (fun k=>U.length - k) 0 [] rfl ⟨by omega,rfl⟩ fun k ⟨hk,ht⟩=>?_
 refine By rfl (fun h2=>?_) fun h2=>?_ <;> simp only [lt'] at h2
 · obtain ⟨x,hx⟩ : ∃ x,T[k]?=some x:=⟨_,W0d (by omega)⟩
   obtain ⟨y,hy⟩ : ∃ y,U[k]?=some y:=⟨_,W0d (by omega)⟩
   obtain ⟨x1,x2⟩:=hT k x hx
   obtain ⟨y1,y2⟩:=hU k y hy
   have:=p16 (show k≤16 by omega)
   refine Dw rfl ?_
   refine Ix k rfl (mp hx) ?_
   refine Ix k rfl (mp hy) ?_
   refine Ce rfl (Ya9 x2 y2 hp (by omega)) ?_
   refine By rfl (fun h3=>?_) fun h3=>?_
   · exact R1 rfl (.bp ⟨nofun,fun e=>by
      have : U[k]?=some x:=by rw [←e,W1c,if_pos (by omega),hx]
      rw [hy] at this;injection this with this
      exact absurd this.symm (by simpa [Xb9,Xaw] using h3)⟩)
   · have e : x=y:=by simpa [Xb9,Xaw] using h3
     refine Ar (k+1 : Nat) rfl ?_
     exact Bk (k+1) [] rfl ⟨by omega,by rw [W2b,W2b,hx,hy,ht,e]⟩ (by show U.length - (k+1)<U.length - k;omega)
 · have e : k=U.length:=by omega
   subst e
   rw [W2r] at ht
   exact R1 rfl (.bp ⟨fun _=>ht,fun _=>rfl⟩)
theorem Yb1 {T : List (List Rat)} {l : List Rat} (h0 : 0<l.length) (hT : T.length≤16) (hl : l.length≤2 ^ T.length) : C0 174 [.d (dts T),.d (dqs l)] (·=.d (dqs (l++List.replicate (2 ^ T.length - l.length) 0))):=by
 have hp:=p16 hT
 obtain ⟨n,hn⟩ : ∃ n,n=2 ^ T.length:=⟨_,rfl⟩
 rw [←hn] at hp hl ⊢
 refine En Tryz.func174 fun _ _ _=>?_
 refine ApL ((l++List.replicate 0 0).map dq) rfl (by simp) (by simpa using h0) (by simp;omega) ?_
 refine Lo (fun k : Nat=>[(0,.d (dts T)),(5,.own 6 4 0 ((l++List.replicate k 0).map dq).length)]) (fun k=>[(6,.arr 4 ((l++List.replicate k 0).map dq))]) (fun k=>l.length+k≤n) (fun k=>n - k) 0 [(8,6)] rfl (by omega) fun k hk=>?_
 refine Ar n rfl ?_ (by rw [hn];simp only [lt'];exact Xb1 (by omega))
 refine By rfl (fun h=>?_) fun h=>?_ <;> simp only [lq,W0c,W1y] at h
 · refine Ce rfl (R2.FromInt_ok (z:=0) (by decide)) ?_
   refine ApO ((l++List.replicate (k+1) 0).map dq) rfl rfl rfl (by rw [W5z];simp) (by simp;omega) ?_
   exact Bk (k+1) [(18,6)] rfl (show l.length+(k+1)≤n by omega) (by show n - (k+1)<n - k;omega)
 · refine R1 rfl (.own rfl (by omega) ?_)
   rw [W1f,show n - l.length=k by omega]
   exact W0b (by simp)
theorem Xm4 {k m : Nat} {s : Tow.El k} {b : Tow.El m} {T : Tw m} (h : Lf s b) (hk : k≤m) (hm : m≤16) : C0 174 [.d (dt T),.d (de s)] (·=.d (de b)):=by
 have:=Yb1 (T:=toT m T) (l:=toL k s) (by rw [Xab];exact W0t k) (by rw [Xaa];omega) (by rw [Xab,Xaa];exact W0h (by decide) hk)
 rw [Xaa,Xab,←h] at this
 exact this
def Rts (k z j : Nat) (rs : List (List Rat)) (σ : Nat→Tow.El k) : Prop:=∀ i,i<j→∃ (m : Nat) (s : Tow.El m),m≤k∧rs[i]?=some (toL m s)∧Lf s (σ i)∧Sz z (toL k (σ i))
theorem Xgj {k R z : Nat} {T : Tw k} {rs : List (List Rat)} {σ : Nat→Tow.El k} (hT : TS R k T) (hk : k≤16) : ∀ {j p : Nat} {a : Tow.El j},Rts k z j rs σ→Sz p (toL j a)→j≤16→imB (cB R k) z j p≤4398046511104 →
 C0 175 [.d (dt T),.d (dts rs),.d (de a)] (·=.d (de (ev T σ j a))):=by
 intro j
 induction j with
 | zero =>
  intro p a _ ha hj hb
  have key : ∀ y : Rat,Qs p y→C0 175 [.d (dt T),.d (dts rs),.d (dqs [y])] (·=.d (de (rat k y))):=fun y hy=>by
   refine En Tryz.func175 fun _ _ _=>?_
   refine Yes rfl rfl ?_
   refine Ix 0 rfl (u:=dq y) rfl ?_
   refine Ce rfl (R6.FromRat_el hk) ?_
   exact R0
  exact key a (ha.qs (W0g.2 rfl))
 | succ j ih =>
  intro p a hr ha hj hb
  have hb' : 2*imB (cB R k) z j p+z+cB R k+1≤4398046511104:=hb
  have hr' : Rts k z j rs σ:=fun i hi=>hr i (by omega)
  have hpj:=p16 (show j≤16 by omega)
  have hp0:=W0t j
  have hs : ∀ i,i<j→Sz z (toL k (σ i)):=fun i hi=>(hr' i hi).elim fun _ h=>h.elim fun _ h=>h.2.2.2
  have h1:=Xll hT (a:=a.1) hs (Sz.left ha)
  have h2:=Xll hT (a:=a.2) hs (Sz.right ha)
  obtain ⟨m,s,m1,m2,m3,m4⟩:=hr j (by omega)
  refine En Tryz.func175 fun _ _ _=>?_
  refine No rfl (by show ¬ ((((toL j a.1++toL j a.2).map dq).length : Nat) : Int)=1;rw [hvL];omega) ?_
  refine Ar (2 ^ j : Nat) rfl ?_ (hvq a (by omega))
  refine Lo (fun i : Nat=>[(0,.d (dt T)),(1,.d (dts rs)),(2,.d (de a)),(7,.d (.int .i64 (2 ^ j : Nat))),(8,.d (.int .i64 i))]) (fun _=>[]) (fun i=>i≤j) (fun i=>j - i) 0 [] rfl (by omega) fun i hi=>?_
  refine Ar (i+1 : Nat) rfl ?_
  refine Ar (2 ^ (i+1) : Nat) rfl ?_ (Xb1 (by omega))
  refine By rfl (fun h=>?_) fun h=>?_
  · have h : ((2 ^ (i+1) : Nat) : Int)<(((toL j a.1++toL j a.2).map dq).length : Nat):=h
    rw [hvL,←Nat.pow_succ'] at h
    have h : i+1<j+1:=(W2y (by decide : 1<2)).1 (by omega)
    refine Ar (i+1 : Nat) rfl ?_
    exact Bk (i+1) [] rfl (show i+1≤j by omega) (by show j - (i+1)<j - i;omega)
  · have h : ¬ ((2 ^ (i+1) : Nat) : Int)<(((toL j a.1++toL j a.2).map dq).length : Nat):=h
    rw [hvL,←Nat.pow_succ'] at h
    have h : ¬ i+1<j+1:=fun e=>h (by have:=(W2y (by decide : 1<2)).2 e;omega)
    obtain rfl : i=j:=by omega
    refine Dw rfl ?_
    refine Tk (2 ^ i) ((toL i a.1).map dq) rfl rfl (Xco a) (hvT a) ?_
    refine Ce rfl (ih hr' (Sz.left ha) (by omega) (by omega)) ?_
    refine Dp (2 ^ i) ((toL i a.2).map dq) rfl rfl (Xco a) (hvD a) ?_
    refine Ce rfl (ih hr' (Sz.right ha) (by omega) (by omega)) ?_
    refine Ix i rfl (mp m2) ?_
    refine Ce rfl (Xm4 (T:=T) m3 m1 hk) ?_
    refine Ce rfl (R6.Mul_el hT h2 m4 hk (by omega)) ?_
    refine Ce rfl (R6.Add_el hk h1.ps (h2.mul hT m4).ps (by omega)) ?_
    exact R0
end Go.Proofs.YtclmecgphleeeaaGreatDoor.R9
namespace Go.Tow
open Go Go.Num Go.Proofs.YtclmecgphleeeaaGreatDoor
section
def woA {α : Type} (i : Nat) : Nat→List α→List α
 | _,[]=>[]
 | p,x::l=>if p / 2 ^ i % 2=0 then x::woA i (p+1) l else woA i (p+1) l
def wo {α : Type} (l : List α) (i : Nat) : List α:=woA i 0 l
theorem Xmf {α : Type} {i : Nat} {l m : List α} : ∀ {p : Nat},woA i p (l++m)=woA i p l++woA i (p+l.length) m:=by
 induction l with
 | nil=>intro p;rfl
 | cons x l ih =>
  intro p
  simp only [W3t,woA,ih,W0s,show p+1+l.length=p+(l.length+1) by omega]
  split <;> rfl
theorem Xee {α : Type} {i : Nat} {l : List α} : ∀ {p : Nat} {x : α},x∈woA i p l→x∈l:=by
 induction l with
 | nil=>intro p x h;exact h
 | cons y l ih =>
  intro p x h
  simp only [woA] at h
  split at h
  · rcases W1o.1 h with h | h
    · rw [h];exact W0q ..
    · exact W0z _ (ih h)
  · exact W0z _ (ih h)
theorem Yal {α : Type} {i : Nat} {l : List α} : ∀ {p : Nat},p+l.length≤2 ^ i→woA i p l=l:=by
 induction l with
 | nil=>intro p _;rfl
 | cons x l ih =>
  intro p h
  simp only [W0s] at h
  simp only [woA]
  rw [if_pos (by rw [W4h (by omega)]),ih (by omega)]
theorem Xvz {α : Type} {i : Nat} {l : List α} : ∀ {p : Nat},2 ^ i≤p→p+l.length≤2*2 ^ i→woA i p l=[]:=by
 induction l with
 | nil=>intro p _ _;rfl
 | cons x l ih =>
  intro p h1 h2
  simp only [W0s] at h2
  simp only [woA]
  have : p / 2 ^ i=1:=by rw [Nat.div_eq_iff (W0t i)];omega
  rw [this,if_neg (by decide),ih (by omega) (by omega)]
theorem Yiu {α : Type} {i : Nat} {l : List α} : ∀ {p q : Nat},woA i (p+2 ^ (i+1)*q) l=woA i p l:=by
 induction l with
 | nil=>intro p q;rfl
 | cons x l ih =>
  intro p q
  have h : (p+2 ^ (i+1)*q) / 2 ^ i % 2=p / 2 ^ i % 2:=by
   rw [W0p,W0o,W6n _ _ (W0t i),W5b]
  simp only [woA,h,show p+2 ^ (i+1)*q+1=p+1+2 ^ (i+1)*q by omega,ih]
def oc (l : List Rat) (i : Nat) : Prop:=∃ p x,l[p]?=some x∧p / 2 ^ i % 2=1∧x≠0
def rm : (k : Nat)→Nat→El (k+1)→El k
 | 0,_,a=>a.1
 | k+1,i,a=>if i=k+1 then a.1 else pr (rm k i a.1) (rm k i a.2)
def rmT : (k : Nat)→Nat→Tw (k+1)→Tw k
 | 0,_,_=>()
 | k+1,i,t=>if i=k+1 then t.1 else tsn (rmT k i t.1) (rm k i t.2)
theorem Xey : ∀ {k i : Nat} {a : El (k+1)},i≤k→toL k (rm k i a)=wo (toL (k+1) a) i:=by
 have top : ∀ {k : Nat} {a : El (k+1)},toL k a.1=wo (toL (k+1) a) k:=by
  intro k a
  show _=woA k 0 (toL k a.1++toL k a.2)
  rw [Xmf,Yal (by rw [Xab];omega),Xvz (by rw [Xab];omega) (by rw [Xab,Xab];omega),W3i]
 intro k
 induction k with
 | zero=>intro i a h;rw [show i=0 by omega];exact top
 | succ k ih =>
  intro i a h
  by_cases e : i=k+1
  · subst e
    rw [show rm (k+1) (k+1) a=a.1 from if_pos rfl];exact top
  · rw [show rm (k+1) i a=pr (rm k i a.1) (rm k i a.2) from if_neg e]
    show toL k (rm k i a.1)++toL k (rm k i a.2)=woA i 0 (toL (k+1) a.1++toL (k+1) a.2)
    rw [ih (by omega),ih (by omega),Xmf,Xab]
    congr 1
    obtain ⟨d,hd⟩ : ∃ d,k+1=i+1+d:=⟨k - i,by omega⟩
    have hp : 2 ^ (k+1)=2 ^ (i+1)*2 ^ d:=by rw [hd,W0v]
    rw [show wo (toL (k+1) a.2) i=woA i 0 (toL (k+1) a.2) from rfl,hp]
    exact Yiu.symm
theorem Xi8 : ∀ {k i : Nat} {t : Tw (k+1)},i≤k→toT k (rmT k i t)=(toT (k+1) t).take i++((toT (k+1) t).drop (i+1)).map fun l=>wo l i:=by
 intro k
 induction k with
 | zero=>intro i t h;rw [show i=0 by omega];rfl
 | succ k ih =>
  intro i t h
  by_cases e : i=k+1
  · subst e
    rw [show rmT (k+1) (k+1) t=t.1 from if_pos rfl]
    show _=(toT (k+1) t.1++[toL (k+1) t.2]).take (k+1)++((toT (k+1) t.1++[toL (k+1) t.2]).drop (k+1+1)).map _
    rw [W6f (Xaa _ _),List.drop_of_length_le (by rw [W0c,Xaa];exact W0a _)]
    simp
  · rw [show rmT (k+1) i t=tsn (rmT k i t.1) (rm k i t.2) from if_neg e]
    show toT k (rmT k i t.1)++[toL k (rm k i t.2)]=(toT (k+1) t.1++[toL (k+1) t.2]).take i++((toT (k+1) t.1++[toL (k+1) t.2]).drop (i+1)).map _
    rw [ih (by omega),Xey (by omega),W6j (by rw [Xaa];omega),List.drop_append_of_le_length (by rw [Xaa];omega)]
    simp
theorem _root_.Go.Proofs.YtclmecgphleeeaaGreatDoor.TS.rm {r : Nat} : ∀ {k i : Nat} {t : Tw (k+1)},i≤k→TS r (k+1) t→TS r k (rmT k i t):=by
 intro k
 induction k with
 | zero=>intro i t _ _;trivial
 | succ k ih =>
  intro i t h ht
  by_cases e : i=k+1
  · rw [show rmT (k+1) i t=t.1 from if_pos e];exact ht.1
  · rw [show rmT (k+1) i t=tsn (rmT k i t.1) (Tow.rm k i t.2) from if_neg e]
    exact ⟨ih (by omega) ht.1,ht.2.sub fun x hx=>by
     have hx : x∈toL k (Tow.rm k i t.2):=hx
     rw [Xey (by omega)] at hx
     exact Xee hx⟩
variable {K : Nat} {G : Tw K} {ρ : Nat→El K}
def skip {α : Type} (i : Nat) (ρ : Nat→α) : Nat→α:=fun j=>if j<i then ρ j else ρ (j+1)
theorem Xc3 {k i : Nat} {a : El (k+1)} (h : ¬ oc (toL (k+1) a) i) : (i=k→a.2=zero k)∧(i<k→¬ oc (toL k a.1) i∧¬ oc (toL k a.2) i):=by
 have hr : ∀ {p : Nat} {x : Rat},(toL k a.2)[p]?=some x→(toL (k+1) a)[2 ^ k+p]?=some x:=fun {p x} hx=>by
  show (toL k a.1++toL k a.2)[2 ^ k+p]?=_
  rw [W0u (by rw [Xab];omega),Xab,W3m,hx]
 refine ⟨fun e=>(Xap k a.2).2 fun x hx=>W0y fun h0=>h ?_,fun hi=>⟨fun ⟨p,x,h1,h2,h3⟩=>h ⟨p,x,?_,h2,h3⟩,fun ⟨p,x,h1,h2,h3⟩=>h ⟨2 ^ k+p,x,hr h1,?_,h3⟩⟩⟩
 · obtain ⟨p,hp⟩:=W2u hx
   have hlt:=(W1a.1 hp).1
   rw [Xab] at hlt
   refine ⟨2 ^ k+p,x,hr hp,?_,h0⟩
   rw [e,show (2 ^ k+p) / 2 ^ k=1 by rw [Nat.div_eq_iff (W0t k)];omega]
 · show (toL k a.1++toL k a.2)[p]?=_
   rw [W0x (W1a.1 h1).1,h1]
 · obtain ⟨d,hd⟩ : ∃ d,k=i+1+d:=⟨k - i - 1,by omega⟩
   rw [hd,W0v,W0p,Nat.add_comm,W0o,W6n _ _ (W0t i),W5b]
   exact h2
theorem Ycs : ∀ {k i : Nat} {a : El (k+1)},i≤k→¬ oc (toL (k+1) a) i→ev G (skip i ρ) k (rm k i a)=ev G ρ (k+1) a:=by
 have top : ∀ {k : Nat} {a : El (k+1)},¬ oc (toL (k+1) a) k→ev G (skip k ρ) k a.1=ev G ρ (k+1) a:=by
  intro k a h
  show _=add K (ev G ρ k a.1) (mul K G (ev G ρ k a.2) (ρ k))
  rw [(Xc3 h).1 rfl,Xfp,(Xa3 K G).zm,(Xa3 K G).az]
  exact Xbc fun j hj=>if_pos hj
 intro k
 induction k with
 | zero => intro i a h ho; obtain rfl : i = 0 := by omega
           exact top ho
 | succ k ih =>
  intro i a h ho
  by_cases e : i=k+1
  · subst e
    rw [show rm (k+1) (k+1) a=a.1 from if_pos rfl];exact top ho
  · rw [show rm (k+1) i a=pr (rm k i a.1) (rm k i a.2) from if_neg e]
    obtain ⟨h1,h2⟩:=(Xc3 ho).2 (by omega)
    show add K (ev G (skip i ρ) k (rm k i a.1)) (mul K G (ev G (skip i ρ) k (rm k i a.2)) (skip i ρ k))=add K (ev G ρ (k+1) a.1) (mul K G (ev G ρ (k+1) a.2) (ρ (k+1)))
    rw [ih (by omega) h1,ih (by omega) h2,show skip i ρ k=ρ (k+1) from if_neg (by omega)]
theorem Ygt : ∀ {k i : Nat},i≤k→∀ w : El k,∃ w' : El (k+1),ev G ρ (k+1) w'=ev G (skip i ρ) k w:=by
 intro k
 induction k with
 | zero=>intro i h w;exact ⟨up 0 w,Xuf⟩
 | succ k ih =>
  intro i h w
  by_cases e : i=k+1
  · exact ⟨up (k+1) w,by rw [Xuf];exact Xbc fun j hj=>(if_pos (by omega)).symm⟩
  · obtain ⟨w1,h1⟩:=ih (i:=i) (by omega) w.1
    obtain ⟨w2,h2⟩:=ih (i:=i) (by omega) w.2
    refine ⟨pr w1 w2,?_⟩
    show add K (ev G ρ (k+1) w1) (mul K G (ev G ρ (k+1) w2) (ρ (k+1)))=add K (ev G (skip i ρ) k w.1) (mul K G (ev G (skip i ρ) k w.2) (skip i ρ k))
    rw [h1,h2,show skip i ρ k=ρ (k+1) from if_neg (by omega)]
theorem TOk.rm (hG : Xbm K G) {S : List (El K)} : ∀ {k i : Nat} {t : Tw (k+1)},i≤k→TOk G S (k+1) t ρ→(∀ j l,i<j→(toT (k+1) t)[j]?=some l→¬ oc l i)→TOk G S k (rmT k i t) (skip i ρ):=by
 have top : ∀ {k : Nat} {t : Tw (k+1)},TOk G S (k+1) t ρ→TOk G S k t.1 (skip k ρ):=fun {k t} h =>
  ⟨h.r.1,h.h.1.congr fun i hi=>(if_pos hi).symm,fun i hi=>by show (if i<k then ρ i else ρ (i+1))∈S;rw [if_pos hi];exact h.s i (by omega)⟩
 intro k
 induction k with
 | zero => intro i t h ht ho; obtain rfl : i = 0 := by omega
           exact top ht
 | succ k ih =>
  intro i t h ht ho
  by_cases e : i=k+1
  · subst e
    rw [show rmT (k+1) (k+1) t=t.1 from if_pos rfl];exact top ht
  · rw [show rmT (k+1) i t=tsn (rmT k i t.1) (Tow.rm k i t.2) from if_neg e]
    have ht1 : TOk G S (k+1) t.1 ρ:=⟨ht.r.1,ht.h.1,fun i hi=>ht.s i (by omega)⟩
    have hget : ∀ j : Nat,(toT (k+2) t)[j]?=(toT (k+1) t.1++[toL (k+1) t.2])[j]?:=fun _=>rfl
    have hi:=ih (by omega) ht1 fun j l hj hl=>ho j l hj (by rw [hget,W0x (W1a.1 hl).1,hl])
    have h2 : ¬ oc (toL (k+1) t.2) i:=ho (k+1) _ (by omega) (by rw [hget,W0u (by rw [Xaa];exact W0a _),Xaa,W2w];rfl)
    have hv:=Ycs (G:=G) (ρ:=ρ) (a:=t.2) (show i≤k by omega) h2
    have hs : skip i ρ k=ρ (k+1):=if_neg (by omega)
    refine ⟨⟨hi.r,?_,fun ⟨w,hw⟩=>?_⟩,⟨hi.h,?_,?_⟩,fun j hj=>?_⟩
    · show sgn k (rmT k i t.1) (Tow.rm k i t.2)=1
      rw [←Xcr hG hi.h,hv,Xcr hG ht1.h];exact ht.r.2.1
    · have hw : mul k (rmT k i t.1) w w=Tow.rm k i t.2:=hw
      obtain ⟨w',hw'⟩:=Ygt (G:=G) (ρ:=ρ) (show i≤k by omega) w
      refine ht.r.2.2 ⟨w',Xc6 hG ht1.h ht1.r ?_⟩
      rw [Xbd ht1.h,hw',←Xbd hi.h,hw,hv]
    · show mul K G (skip i ρ k) (skip i ρ k)=ev G (skip i ρ) k (Tow.rm k i t.2)
      rw [hs,hv];exact ht.h.2.1
    · rw [hs];exact ht.h.2.2
    · show (if j<i then ρ j else ρ (j+1))∈S
      split
      · exact ht.s j (by omega)
      · exact ht.s (j+1) (by omega)
end
section
def nO (p : Nat) : (m : Nat)→El m→Prop
 | 0,_=>True
 | m+1,x=>(p=m→x.2=zero m)∧(p≠m→nO p m x.1∧nO p m x.2)
def yO (p : Nat) : (m : Nat)→El m→Prop
 | 0,x=>x=zero 0
 | m+1,x=>(p=m→x.1=zero m)∧(p≠m→yO p m x.1∧yO p m x.2)
theorem Xju {p : Nat} : ∀ {m : Nat},nO p m (zero m)
 | 0=>trivial
 | m+1=>⟨fun _=>rfl,fun _=>⟨Xju,Xju⟩⟩
theorem Xzs {p : Nat} {x : Rat} : ∀ {m : Nat},nO p m (rat m x)
 | 0=>trivial
 | m+1=>⟨fun _=>rfl,fun _=>⟨Xzs,Xju⟩⟩
theorem Yin (m : Nat) (a : El m) : add m a (zero m)=a:=by
 cases m with
 | zero=>exact W7b a
 | succ m=>exact W4j (Yin m _) (Yin m _)
theorem Yir (m : Nat) (a : El m) : add m (zero m) a=a:=by
 cases m with
 | zero=>exact Rat.zero_add a
 | succ m=>exact W4j (Yir m _) (Yir m _)
theorem Xs6 {p : Nat} : ∀ {m : Nat} {x y : El m},nO p m x→nO p m y→nO p m (add m x y)
 | 0,_,_,_,_=>trivial
 | m+1,x,y,h,k=>⟨fun e=>by show add m x.2 y.2=_;rw [h.1 e,k.1 e];exact Yin m _,fun e=>⟨Xs6 (h.2 e).1 (k.2 e).1,Xs6 (h.2 e).2 (k.2 e).2⟩⟩
theorem Xpl {d n : Nat} (hn : 0<n) {m : Nat} : IsD d n (toL m (zero m)):=by
 rw [Xbn]
 exact fun x hx=>⟨0,by rw [(W5q.1 hx).2,W4x];rfl,hn⟩
theorem Xtt {d n : Nat} (hn : 0<n) {x : Rat} (h : IsD d n [x]) : ∀ {m : Nat},IsD d n (toL m (rat m x))
 | 0=>h
 | m+1=>by show IsD d n (toL m (rat m x)++toL m (zero m));exact (Xtt hn h).append (Xpl hn)
theorem Xm8 {d n p : Nat} : ∀ {m : Nat} {x y : El m},p<m→nO p m x→yO p m y→IsD d n (toL m x)→IsD d n (toL m y)→IsD d n (toL m (add m x y))
 | m+1,x,y,hp,hx,hy,h,k=>by
  by_cases e : p=m
  · have e1:=hx.1 e
    have e2:=hy.1 e
    show IsD d n (toL m (add m x.1 y.1)++toL m (add m x.2 y.2))
    have ax : add m x.1 (zero m)=x.1:=Yin m _
    have az : add m (zero m) y.2=y.2:=Yir m _
    rw [e1,e2,ax,az]
    exact (IsD.left (m:=toL m x.2) h).append (IsD.right (l:=toL m y.1) k)
  · show IsD d n (toL m (add m x.1 y.1)++toL m (add m x.2 y.2))
    exact (Xm8 (by omega) (hx.2 e).1 (hy.2 e).1 (IsD.left (m:=toL m x.2) h) (IsD.left (m:=toL m y.2) k)).append (Xm8 (by omega) (hx.2 e).2 (hy.2 e).2 (IsD.right (l:=toL m x.1) h) (IsD.right (l:=toL m y.1) k))
theorem Xs8 {d n p : Nat} (hn : 0<n) : ∀ {m : Nat} {T : Tw m} {x : El m},p<m→nO p m x→yO p m (mul m T (Xcg m p) x)∧(∀ q,q≠p→nO q m x→nO q m (mul m T (Xcg m p) x))∧(IsD d n (toL m x)→IsD d n (toL m (mul m T (Xcg m p) x)))
 | m+1,T,x,hp,hx=>by
  have L:=Xa3 m T.1
  by_cases e : p=m
  · subst e
    have e1:=hx.1 rfl
    have em : mul (p+1) T (Xcg (p+1) p) x=(pr (zero p) x.1 : El (p+1)):=by
     rw [Xjk]
     refine W4j ?_ ?_
     · show add p (mul p T.1 (zero p) x.1) (mul p T.1 (mul p T.1 (rat p 1) x.2) T.2)=zero p
       rw [e1,L.mz,L.zm,L.zm,L.az]
     · show add p (mul p T.1 (zero p) x.2) (mul p T.1 (rat p 1) x.1)=x.1
       rw [L.zm,L.om,L.za]
    rw [em]
    refine ⟨⟨fun _=>rfl,fun h=>absurd rfl h⟩,fun q hq h=>⟨fun h2=>absurd h2 hq,fun _=>⟨Xju,(h.2 hq).1⟩⟩,fun h=>?_⟩
    show IsD d n (toL p (zero p)++toL p x.1)
    exact (Xpl hn).append (IsD.left (m:=toL p x.2) h)
  · obtain ⟨a1,a2,a3⟩:=Xs8 (d:=d) hn (T:=T.1) (by omega) (hx.2 e).1
    obtain ⟨b1,b2,b3⟩:=Xs8 (d:=d) hn (T:=T.1) (by omega) (hx.2 e).2
    have em : mul (m+1) T (Xcg (m+1) p) x=(pr (mul m T.1 (Xcg m p) x.1) (mul m T.1 (Xcg m p) x.2) : El (m+1)):=by
     rw [Xon e]
     refine W4j ?_ ?_
     · show add m (mul m T.1 (Xcg m p) x.1) (mul m T.1 (mul m T.1 (zero m) x.2) T.2)=_
       rw [L.zm,L.zm,L.az];rfl
     · show add m (mul m T.1 (Xcg m p) x.2) (mul m T.1 (zero m) x.1)=_
       rw [L.zm,L.az];rfl
    rw [em]
    refine ⟨⟨fun h=>absurd h e,fun _=>⟨a1,b1⟩⟩,fun q hq h=>⟨fun h2=>?_,fun h2=>⟨a2 q hq (h.2 h2).1,b2 q hq (h.2 h2).2⟩⟩,fun h=>?_⟩
    · show mul m T.1 (Xcg m p) x.2=zero m
      rw [h.1 h2,L.mz]
    · show IsD d n (toL m (mul m T.1 (Xcg m p) x.1)++toL m (mul m T.1 (Xcg m p) x.2))
      exact (a3 (IsD.left (m:=toL m x.2) h)).append (b3 (IsD.right (l:=toL m x.1) h))
theorem Xne {d n m : Nat} (hn : 0<n) {T : Tw m} {π : Nat→Nat} : ∀ {j : Nat} {a : El j},(∀ i,i<j→π i<m)→(∀ i i',i<i'→i'<j→π i≠π i') →
 (IsD d n (toL j a)→IsD d n (toL m (ev T (fun i=>Xcg m (π i)) j a)))∧∀ q,(∀ i,i<j→q≠π i)→nO q m (ev T (fun i=>Xcg m (π i)) j a)
 | 0,a,_,_=>⟨fun h=>Xtt hn h,fun q _=>Xzs⟩
 | j+1,a,h1,h2=>by
  have L:=Xa3 m T
  obtain ⟨a1,a2⟩:=Xne (d:=d) hn (T:=T) (a:=a.1) (fun i hi=>h1 i (by omega)) (fun i i' hi hi'=>h2 i i' hi (by omega))
  obtain ⟨b1,b2⟩:=Xne (d:=d) hn (T:=T) (a:=a.2) (fun i hi=>h1 i (by omega)) (fun i i' hi hi'=>h2 i i' hi (by omega))
  have hp:=h1 j (by omega)
  have hd : ∀ i,i<j→π j≠π i:=fun i hi e=>h2 i j hi (by omega) e.symm
  obtain ⟨c1,c2,c3⟩:=Xs8 (d:=d) hn (T:=T) hp (b2 (π j) hd)
  have e : ev T (fun i=>Xcg m (π i)) (j+1) a=add m (ev T (fun i=>Xcg m (π i)) j a.1) (mul m T (Xcg m (π j)) (ev T (fun i=>Xcg m (π i)) j a.2)):=by
   show add m _ (mul m T _ _)=_
   rw [L.mc]
  rw [e]
  exact ⟨fun h=>Xm8 hp (a2 (π j) hd) c1 (a1 (IsD.left (m:=toL j a.2) h)) (c3 (b1 (IsD.right (l:=toL j a.1) h))),fun q hq=>Xs6 (a2 q fun i hi=>hq i (by omega)) (c2 q (hq j (by omega)) (b2 q fun i hi=>hq i (by omega)))⟩
end
section
theorem Xga {b : Rat} : ∀ {m : Nat} {t : Tw m} {y : El m},toL m (mul m t (rat m b) y)=(toL m y).map (b*·)
 | 0,_,_=>rfl
 | m+1,t,y=>by
  have L:=Xa3 m t.1
  show toL m (add m (mul m t.1 (rat m b) y.1) (mul m t.1 (mul m t.1 (zero m) y.2) t.2))++toL m (add m (mul m t.1 (rat m b) y.2) (mul m t.1 (zero m) y.1))=(toL m y.1++toL m y.2).map _
  rw [L.zm,L.zm,L.zm,L.az,L.az,Xga,Xga,W2z]
theorem Yb0 {m : Nat} {x : Rat} : x∈toL m (rat m x):=by rw [Xce];exact W0q ..
theorem Ybh {m : Nat} {x y : Rat} (h : rat m x=rat m y) : x=y:=by
 have:=congrArg (toL m) h
 rw [Xce,Xce] at this
 injection this
variable {K : Nat} {G : Tw K} {S : List (El K)} {r p : Nat} {ρ : Nat→El K}
def Xvn (G : Tw K) (S : List (El K)) (r p : Nat) : Prop:=∀ g∈S,∃ z,NOk G S r p z (mul K G g g)
theorem TOk.low {k : Nat} {T : Tw (k+1)} (h : TOk G S (k+1) T ρ) : TOk G S k T.1 ρ:=⟨h.r.1,h.h.1,fun i hi=>h.s i (by omega)⟩
theorem Xsm (hG : red K G) {z : Nm} {x : Rat} (hz : NOk G S r p z (rat K x)) : Sz p [x]:=by
 obtain ⟨ρz,h1,h2⟩:=hz.ex
 have : z.a=rat z.k x:=Xc6 (Xag hG) h1.h h1.r (by rw [h2,Xck])
 have h3:=hz.p
 rw [this] at h3
 exact h3.sub fun y hy=>by rw [W0g.1 hy];exact Yb0
theorem Yk1 (hG : red K G) (hq : Xvn G S r p) {T : Tw 1} (h : TOk G S 1 T ρ) : Sz p [(T.2 : Rat)]:=by
 obtain ⟨z,hz⟩:=hq _ (h.s 0 (by decide))
 rw [h.h.2.1] at hz
 exact Xsm hG hz
theorem Xri {a b y0 u : Rat} {d e : Nat} {Z0 Z1 Y0 U : Int} {p P : Nat} (d0 : 0<d) (d1 : d<2 ^ p) (e1 : e<2 ^ P) (e0 : 0<e) (z01 : (a+b*y0)*(d : Rat)=(Z0 : Rat)) (z02 : Z0.natAbs<2 ^ p) (z11 : b*u*(d : Rat)=(Z1 : Rat)) (z12 : Z1.natAbs<2 ^ p)
 (y01 : y0*(e : Rat)=(Y0 : Rat)) (y02 : Y0.natAbs<2 ^ P) (u01 : u*(e : Rat)=(U : Rat)) (u02 : U.natAbs<2 ^ P) (hu0 : u≠0) : Sz (p+P+1) [a,b]:=by
 have hU : U≠0:=fun h=>by
  rw [h] at u01
  have : (e : Rat)≠0:=fun h=>by
   have : (e : Rat).num=0:=by rw [h];rfl
   rw [Rat.num_natCast] at this
   omega
  rcases Rat.mul_eq_zero.1 u01 with h | h
  · exact hu0 h
  · exact this h
 have hUn : 0<U.natAbs:=by omega
 have hpp : 2 ^ (p+P+1)=2*(2 ^ p*2 ^ P):=by rw [W0p,W0v];omega
 have hpos:=W0t p
 have hposP:=W0t P
 have hab : a*((d : Rat)*(U : Rat))=((Z0*U - Z1*Y0 : Int) : Rat):=by
  rw [Rat.intCast_sub,W3q,W3q];grind
 have hbb : b*((d : Rat)*(U : Rat))=((Z1*(e : Int) : Int) : Rat):=by
  rw [W3q,show (((e : Int)) : Rat)=(e : Rat) from rfl];grind
 have key : ∀ {x : Rat} {w : Int},x*((d : Rat)*(U : Rat))=(w : Rat)→∃ w' : Int,x*((d*U.natAbs : Nat) : Rat)=(w' : Rat)∧w'.natAbs=w.natAbs:=fun {x w} hx=>by
  rcases Int.natAbs_eq U with h | h
  · refine ⟨w,?_,rfl⟩
    rw [←hx,W6d]
    congr 2
    exact (congrArg (fun n : Int=>(n : Rat)) h).symm
  · refine ⟨-w,?_,W4s w⟩
    rw [W6w,←hx,W6d]
    have : (U : Rat)=-((U.natAbs : Nat) : Rat):=by
     conv=>lhs;rw [h]
     rw [W6w];rfl
    rw [this];grind
 refine ⟨d*U.natAbs,W1h d0 hUn,?_,fun x hx=>?_⟩
 · have:=W3l d1 u02
   omega
 · rcases W1o.1 hx with hx | hx
   · obtain ⟨w,w1,w2⟩:=key hab
     refine ⟨w,by rw [hx];exact w1,?_⟩
     have a1:=W3l z02 u02
     have a2:=W3l z12 y02
     rw [←W4a] at a1 a2
     rw [w2];omega
   · obtain ⟨w,w1,w2⟩:=key hbb
     refine ⟨w,by rw [W0g.1 hx];exact w1,?_⟩
     have a2:=W3l z12 e1
     rw [w2,W4a,W1j];omega
theorem Yjf (hG : red K G) (hS : S.length≤3) {g : El K} (q a b : Rat) {z : Nm} (hz : NOk G S r p z (add K (rat K a) (mul K G (rat K b) g))) (hq0 : mul K G g g=rat K q) (hq1 : Sz p [q]) (hns : ¬ ∃ y : Rat,y*y=q) : Sz (p+(p+1+gC r 3)+1) [a,b]:=by
 have hGr:=Xag hG
 have L:=Xa3 K G
 by_cases hb : b=(0 : Rat)
 · rw [hb,Xgh,L.zm,L.az] at hz
   have:=Xsm hG hz
   rw [hb]
   obtain ⟨d,d0,d1,d2⟩:=this
   have hp:=W0h (n:=2) (by decide) (show p≤p+(p+1+gC r 3)+1 by omega)
   exact ⟨d,d0,by omega,fun x hx=>by
    rcases W1o.1 hx with hx | hx
    · obtain ⟨w,w1,w2⟩:=d2 x (by rw [hx];exact W0g.2 rfl)
      exact ⟨w,w1,by omega⟩
    · exact ⟨0,by rw [W0g.1 hx,W4x];rfl,W0t _⟩⟩
 obtain ⟨ρz,h1,h2⟩:=hz.ex
 have hz3:=hz.le hGr hS
 have hb1 : mul K G (rat K (1 / b)) (rat K b)=rat K 1:=by rw [←Xbx,W5a hb]
 obtain ⟨y,hy⟩ : ∃ y,y=mul z.k z.t (rat z.k (1 / b)) (add z.k z.a (neg z.k (rat z.k a))):=⟨_,rfl⟩
 have hyv : ev G ρz z.k y=g:=by
  rw [hy,Xbd h1.h,Xck,Xc7,Xhq,Xck,h2]
  have e1 : add K (add K (rat K a) (mul K G (rat K b) g)) (neg K (rat K a))=mul K G (rat K b) g:=(Laws.req L [rat K a,mul K G (rat K b) g] (.add (.add (.v 0) (.v 1)) (.neg (.v 0))) (.v 1) (by decide +kernel))
  rw [e1,←L.ma,hb1,L.om]
 have hyy : mul z.k z.t y y=rat z.k q:=Xc6 hGr h1.h h1.r (by rw [Xbd h1.h,hyv,hq0,Xck])
 have hys : Sz (p+1+gC r 3) (toL z.k y):=(Sz.rootS hz.r h1.r (Sz.rat z.k (hq1.qs (W0g.2 rfl))) hyy).mono (by have:=Xt9 (r:=r) hz3;omega)
 have hza : z.a=add z.k (rat z.k a) (mul z.k z.t (rat z.k b) y):=Xc6 hGr h1.h h1.r (by rw [h2,Xc7,Xck,Xbd h1.h,Xck,hyv])
 have hzl : toL z.k z.a=List.zipWith (·+·) (a::List.replicate (2 ^ z.k - 1) 0) ((toL z.k y).map (b*·)):=by rw [hza,Xaz,Xce,Xga]
 have hyl:=Xab z.k y
 have hk0:=W0t z.k
 obtain ⟨y0,ys,hyc⟩ : ∃ y0 ys,toL z.k y=y0::ys:=by
  cases e : toL z.k y with
  | nil=>rw [e] at hyl;simp at hyl;omega
  | cons y0 ys=>exact ⟨_,_,rfl⟩
 have hu : ∃ u∈ys,u≠0:=W0y fun hn=>by
  have hys0 : ys=List.replicate (2 ^ z.k - 1) 0:=List.eq_replicate_iff.2 ⟨by rw [hyc] at hyl;simp at hyl;omega,fun u hu=>W0y fun h=>hn ⟨u,hu,h⟩⟩
  have e : y=rat z.k y0:=Xgu (by rw [hyc,hys0,Xce])
  rw [e,←Xbx] at hyy
  exact hns ⟨y0,Ybh hyy⟩
 obtain ⟨u,hu1,hu0⟩:=hu
 obtain ⟨i,hi⟩:=W2u hu1
 have hil:=(W1a.1 hi).1
 have hm0 : a+b*y0∈toL z.k z.a:=by rw [hzl,hyc];simp
 have hm1 : b*u∈toL z.k z.a:=by
  rw [hzl,hyc]
  refine W0l (i:=i+1) ?_
  have hyl2 : ys.length=2 ^ z.k - 1:=by rw [hyc] at hyl;simp at hyl;omega
  simp [W5s,hi,W4t,show i<2 ^ z.k - 1 by omega,Rat.zero_add]
 obtain ⟨d,d0,d1,d2⟩:=hz.p
 obtain ⟨e,e0,e1,e2⟩:=hys
 obtain ⟨Z0,z01,z02⟩:=d2 _ hm0
 obtain ⟨Z1,z11,z12⟩:=d2 _ hm1
 obtain ⟨Y0,y01,y02⟩:=e2 y0 (by rw [hyc];exact W0q ..)
 obtain ⟨U,u01,u02⟩:=e2 u (by rw [hyc];exact W0z _ hu1)
 exact Xri d0 d1 e1 e0 z01 z02 z11 z12 y01 y02 u01 u02 hu0
theorem Yl6 (hG : red K G) (hS : S.length≤3) (hq : Xvn G S r p) {T : Tw 2} (h : TOk G S 2 T ρ) : Sz (p+(p+1+gC r 3)+1) (toL 1 T.2):=by
 obtain ⟨z,hz⟩:=hq _ (h.s 1 (by decide))
 rw [h.h.2.1] at hz
 exact Yjf hG hS (g:=ρ 0) T.1.2 T.2.1 T.2.2 hz h.h.1.2.1 (Yk1 hG hq h.low) h.r.1.2.2
theorem Yi0 (hG : red K G) {k : Nat} {T : Tw k} (h : TOk G S k T ρ) (hS : S.length≤k) {s : El K} (hs : s∈S) : ∃ i,i<k∧ρ i=s:=W0y fun hn=>by
 have:=Xst (k+1) S (fun i=>if i=k then s else ρ i) (fun i hi=>by
  by_cases e : i=k
  · simp only [if_pos e];exact hs
  · simp only [if_neg e];exact h.s i (by omega)) (fun i j hij hj=>by
  have hi : ¬ i=k:=by omega
  by_cases e : j=k
  · simp only [if_pos e,if_neg hi];exact fun h=>hn ⟨i,by omega,h⟩
  · simp only [if_neg e,if_neg hi];exact h.h.ne (Xag hG) h.r i j hij (by omega))
 omega
theorem Yl5 (hG : red K G) (hS : S.length≤3) (hq : Xvn G S r p) {T : Tw 3} (h : TOk G S 3 T ρ) : Sz p (toL 2 T.2):=by
 have hGr:=Xag hG
 obtain ⟨z,hz⟩:=hq _ (h.s 2 (by decide))
 rw [h.h.2.1] at hz
 obtain ⟨ρz,h1,h2⟩:=hz.ex
 have : ∀ i,∃ j,i<z.k→j<3∧ρ j=ρz i:=fun i=>by
  by_cases hi : i<z.k
  · obtain ⟨j,j1,j2⟩:=Yi0 hG h hS (h1.s i hi);exact ⟨j,fun _=>⟨j1,j2⟩⟩
  · exact ⟨0,fun h=>absurd h hi⟩
 obtain ⟨π,hπ⟩:=W5j this
 have hb : ev G ρ 3 (ev T (fun i=>Xcg 3 (π i)) z.k z.a)=ev G ρ 3 (up 2 T.2):=by
  rw [Xlm h.h (ρ':=ρz) (fun i hi=>by rw [Xhp (hπ i hi).1,(hπ i hi).2]),h2,Xuf]
 have hb:=Xc6 hGr h.h h.r hb
 obtain ⟨d,d0,d1,d2⟩:=hz.p
 have:=(Xne (d:=d) (n:=2 ^ p) (W0t p) (T:=T) (π:=π) (a:=z.a) (fun i hi=>(hπ i hi).1) (fun i i' hi hi' e=>h1.h.ne hGr h1.r i i' hi hi' (by rw [←(hπ i (by omega)).2,←(hπ i' hi').2,e]))).1 d2
 rw [hb] at this
 exact ⟨d,d0,d1,IsD.left (m:=toL 2 (zero 2)) this⟩
theorem Xrm (hG : red K G) (hS : S.length≤3) (hq : Xvn G S r p) : ∀ {m : Nat} {T : Tw m},TOk G S m T ρ→TS (p+(p+1+gC r 3)+1) m T
 | 0,_,_=>trivial
 | 1,T,h=>⟨trivial,(Yk1 hG hq h).mono (by omega)⟩
 | 2,T,h=>⟨Xrm hG hS hq h.low,Yl6 hG hS hq h⟩
 | 3,T,h=>⟨Xrm hG hS hq h.low,(Yl5 hG hS hq h).mono (by omega)⟩
 | m+4,T,h=>absurd (h.le (Xag hG)) (by omega)
end
section
def zM (R : Nat) : Nat→Nat
 | 0=>3
 | i+1=>zM R i+imB (cB R 3) (zM R i) i R+gC R 3
theorem Xvx {R : Nat} : ∀ {i j : Nat},i≤j→zM R i≤zM R j
 | i,0,h=>by rw [show i=0 by omega];exact W0a _
 | i,j+1,h=>by
  by_cases e : i=j+1
  · rw [e];exact W0a _
  · exact W0i (Xvx (show i≤j by omega)) (by show _≤zM R j+imB (cB R 3) (zM R j) j R+gC R 3;omega)
variable {K : Nat} {G : Tw K} {S : List (El K)} {R r p : Nat} {ρ : Nat→El K}
structure Wy (G : Tw K) (S : List (El K)) (R : Nat) : Prop where
 g : red K G
 s : S.length≤3
 t : ∀ {m : Nat} {T : Tw m} {ρ : Nat→El K},TOk G S m T ρ→TS R m T
theorem Wy.le (W : Wy G S R) {m : Nat} {T : Tw m} (h : TOk G S m T ρ) : m≤3:=W0i (h.le (Xag W.g)) W.s
theorem choose {m : Nat} {P : Nat→Prop} {ρu : Nat→El K} (h : ∀ j,P j→∃ e : El m,ev G ρ m e=ρu j) : ∃ σ : Nat→El m,∀ j,P j→ev G ρ m (σ j)=ρu j:=by
 have : ∀ j,∃ e : El m,P j→ev G ρ m e=ρu j:=fun j=>by
  by_cases hj : P j
  · obtain ⟨e,he⟩:=h j hj;exact ⟨e,fun _=>he⟩
  · exact ⟨zero m,fun h=>absurd h hj⟩
 exact W5j this
theorem Ye0 (W : Wy G S R) {m l : Nat} {T : Tw m} {u : Tw l} {ρu : Nat→El K} (hT : TOk G S m T ρ) (hu : TOk G S l u ρu) : ∀ i,i<l→(∀ j,j<i→∃ e : El m,ev G ρ m e=ρu j)→∀ e : El m,ev G ρ m e=ρu i→Sz (zM R (i+1)) (toL m e):=fun i=>by
 have hGr:=Xag W.g
 have hm:=W.le hT
 induction i using Nat.strongRecOn with
 | _ i ih =>
  intro hi hj e he
  obtain ⟨σ,hσ⟩:=choose (P:=(·<i)) hj
  obtain ⟨x,_,x2,x3⟩:=Tw.at (t:=u) hi
  have hx:=x2 R (W.t hu)
  obtain ⟨x3,_⟩:=x3 hu.h
  have hs : ∀ j,j<i→Sz (zM R i) (toL m (σ j)):=fun j h=>(ih j h (by omega) (fun j' h'=>hj j' (by omega)) _ (hσ j h)).mono (Xvx h)
  have hsz:=(Xll (W.t hT) (a:=x) hs hx).mono (Xgk (Xp7 hm) (W0a _) (W0a _))
  have hee : mul m T e e=ev T σ i x:=Xc6 hGr hT.h hT.r (by rw [Xbd hT.h,he,x3,Xlm hT.h hσ])
  exact (Sz.rootS (W.t hT) hT.r hsz hee).mono (by have:=Xt9 (r:=R) hm;show _≤zM R i+imB (cB R 3) (zM R i) i R+gC R 3;omega)
variable {N : List Nm} {b c : Nat} {v w : El K}
end
section
theorem Xt1 {c z p : Nat} : ∀ {i j : Nat},i≤j→imB c z i p≤imB c z j p
 | i,0,h=>by rw [show i=0 by omega];exact W0a _
 | i,j+1,h=>by
  by_cases e : i=j+1
  · rw [e];exact W0a _
  · exact W0i (Xt1 (show i≤j by omega)) (by show _≤2*imB c z j p+z+c+1;omega)
def wR : Nat:=15346
def wE : Nat:=31691534
def jW (p : Nat) : Nat:=8*p+73803682
def oW (p : Nat) : Nat:=16*p+147714794
theorem wC : cB wR 3=107429:=by decide +kernel
theorem wZ : zM wR 3=10435952:=by decide +kernel
theorem Xrc : wR=15346:=rfl
theorem Yd6 : wE=31691534:=rfl
theorem wQ : qB wR 3 wE≤4398046511104∧qB wR 3 wR≤4398046511104∧vB wR 3 (wE+gC wR 3)≤4398046511104∧vB wR 3 wR≤4398046511104:=by decide +kernel
theorem wV : vB wR 3 (oW 4000000000)≤4398046511104:=by decide +kernel
theorem Yjr {p : Nat} : imB (cB wR 3) (zM wR 3) 3 p=jW p:=by
 show 2*(2*(2*(p+1)+zM wR 3+cB wR 3+1)+zM wR 3+cB wR 3+1)+zM wR 3+cB wR 3+1=8*p+73803682
 rw [wC,wZ];omega
theorem Xw7 {m i p : Nat} (hm : m≤3) (hi : i≤3) : imB (cB wR m) (zM wR 3) i p≤jW p:=by
 rw [←Yjr]
 exact W0i (Xgk (Xp7 hm) (W0a _) (W0a _)) (Xt1 hi)
theorem Yan {m i : Nat} (hm : m≤3) (hi : i≤2) : imB (cB wR m) (zM wR 3) i wR≤wE:=by
 refine W0i (W0i (Xgk (Xp7 hm) (W0a _) (W0a _)) (Xt1 hi)) ?_
 show 2*(2*(wR+1)+zM wR 3+cB wR 3+1)+zM wR 3+cB wR 3+1≤31691534
 rw [wC,wZ,Xrc]
 decide
variable {K : Nat} {G : Tw K} {S : List (El K)} {p : Nat}
theorem Xvn.wd (hG : red K G) (hS : S.length≤3) (hq : Xvn G S 300 600) : Wy G S wR:=⟨hG,hS,fun h=>Xrm hG hS hq h⟩
end
end Go.Tow
namespace Go.Proofs.YtclmecgphleeeaaGreatDoor.R9
open Go Go.Vm Go.Num Go.Tow Go.Proofs.YtclmecgphleeeaaGreatDoor
theorem _root_.Go.Tow.RtV.sig {K : Nat} {G : Tw K} {m z j : Nat} {rs : List (List Rat)} {ρ ρu : Nat→Tow.El K} (h : RtV G m z j rs ρ ρu) : ∃ σ : Nat→Tow.El m,Rts m z j rs σ∧∀ i,i<j→ev G ρ m (σ i)=ρu i:=by
 have : ∀ i,∃ b : Tow.El m,i<j→(∃ (n : Nat) (s : Tow.El n),n≤m∧rs[i]?=some (toL n s)∧Lf s b∧Sz z (toL m b))∧ev G ρ m b=ρu i:=fun i=>by
  by_cases hi : i<j
  · obtain ⟨n,s,h1,h2,h3,h4⟩:=h i hi
    obtain ⟨b,hb⟩:=Lf.ex h1 s
    exact ⟨b,fun _=>⟨⟨n,s,h1,h2,hb,hb.sz h3⟩,by rw [hb.ev h1,h4]⟩⟩
  · exact ⟨zero m,fun h=>absurd h hi⟩
 obtain ⟨σ,hσ⟩:=W5j this
 exact ⟨σ,fun i hi=>(hσ i hi).1,fun i hi=>(hσ i hi).2⟩
theorem Xmt (m : Nat) : Sz 3 (toL (m+1) (Xcg (m+1) m)):=by
 rw [Xjk]
 exact ((Sz.zero m).append (Sz.rat m (x:=1) (p:=1) ⟨show (1 : Rat).num.natAbs<2 ^ 1 by decide +kernel,show ((1 : Rat).den : Int).natAbs<2 ^ 1 by decide +kernel⟩)).mono (by omega)
section
variable {K : Nat} {G : Tw K} {S : List (Tow.El K)} {k l : Nat} {t : Tw k} {u : Tw l} {ρ ρu : Nat→Tow.El K}
def ExQ (G : Tw K) (S : List (Tow.El K)) (l k : Nat) (t : Tw k) (ρ ρu : Nat→Tow.El K) (f : D→D→AV) (v : AV) : Prop:=∃ (m : Nat) (T : Tw m) (rs : List (List Rat)) (ρ' : Nat→Tow.El K),v=f (dt T) (dts rs) ∧
 TOk G S m T ρ'∧Beg k t m T∧(∀ i,i<k→ρ' i=ρ i)∧RtV G m (zM wR 3) l rs ρ' ρu∧((∀ i,i<l→∃ e : Tow.El k,ev G ρ k e=ρu i)→toT m T=toT k t)
def ExI (G : Tw K) (S : List (Tow.El K)) (l k : Nat) (t : Tw k) (ρ ρu : Nat→Tow.El K) (x : Nat × (Σ m,Tw m) × List (List Rat)) : Prop:=x.1≤l∧x.2.2.length=x.1∧∃ ρ' : Nat→Tow.El K,TOk G S x.2.1.1 x.2.1.2 ρ'∧Beg k t x.2.1.1 x.2.1.2∧(∀ i,i<k→ρ' i=ρ i)∧RtV G x.2.1.1 (zM wR 3) x.1 x.2.2 ρ' ρu∧((∀ i,i<l→∃ e : Tow.El k,ev G ρ k e=ρu i)→toT x.2.1.1 x.2.1.2=toT k t)
theorem ExI.sq (W : Wy G S wR) (hu : TOk G S l u ρu) {i m : Nat} {T : Tw m} {rs : List (List Rat)} {x : Tow.El i} (h : ExI G S l k t ρ ρu (i,⟨m,T⟩,rs)) (hil : i<l) {σ : Nat→Tow.El m} {ρ' : Nat→Tow.El K} (hT : TOk G S m T ρ') (hB : Beg k t m T) (ha : ∀ i,i<k→ρ' i=ρ i) (hrt : RtV G m (zM wR 3) i rs ρ' ρu) (hc : (∀ i,i<l→∃ e : Tow.El k,ev G ρ k e=ρu i)→toT m T=toT k t) (s2 : ∀ j,j<i→ev G ρ' m (σ j)=ρu j) (hev : ev G ρ' m (ev T σ i x)=mul K G (ρu i) (ρu i)) (x4 : sgn K G (ρu i)=1) {y : Tow.El m} (h1 : mul m T y y=ev T σ i x) (h2 : 0≤sgn m T y) : ExI G S l k t ρ ρu (i+1,⟨m,T⟩,rs++[toL m y]):=by
 have hG:=W.g
 have hGr:=Xag hG
 have hl3:=W.le hu
 obtain ⟨_,hrl,_⟩:=h
 have hrl : rs.length=i:=hrl
 have hy : ev G ρ' m y=ρu i:=Xob hG (by rw [←Xbd hT.h,h1,hev]) (by rw [Xcr hGr hT.h];exact h2) (by rw [x4];decide)
 exact ⟨hil,by simp [hrl],ρ',hT,hB,ha,hrt.snoc hrl (W0a _) ((Ye0 W hT hu i hil (fun j hj=>⟨σ j,s2 j hj⟩) y hy).mono (Xvx (by omega))) hy,hc⟩
theorem ExI.new (W : Wy G S wR) (hu : TOk G S l u ρu) {i m : Nat} {T : Tw m} {rs : List (List Rat)} {x : Tow.El i} (h : ExI G S l k t ρ ρu (i,⟨m,T⟩,rs)) (hil : i<l) {σ : Nat→Tow.El m} {ρ' : Nat→Tow.El K} (hT : TOk G S m T ρ') (hB : Beg k t m T) (ha : ∀ i,i<k→ρ' i=ρ i) (hrt : RtV G m (zM wR 3) i rs ρ' ρu) (hev : ev G ρ' m (ev T σ i x)=mul K G (ρu i) (ρu i)) (x4 : sgn K G (ρu i)=1) (h2 : ¬ Xej m T (ev T σ i x)) : ExI G S l k t ρ ρu (i+1,⟨m+1,tsn T (ev T σ i x)⟩,rs++[toL (m+1) (Xcg (m+1) m)]):=by
 have hG:=W.g
 have hGr:=Xag hG
 obtain ⟨_,hrl,_⟩:=h
 have hrl : rs.length=i:=hrl
 have hT':=hT.snoc hGr h2 (hu.s i hil) (a:=ev T σ i x) hev.symm x4
 refine ⟨hil,by simp [hrl],_,hT',hB.tr Beg.snoc,fun j hj=>?_,?_,fun hh=>?_⟩
 · have:=hB.le
   show (if j=m then ρu i else ρ' j)=ρ j
   rw [if_neg (by omega),ha j hj]
 · refine (hrt.mono (Nat.le_succ _) (W0a _) (fun j hj=>if_neg (by omega))).snoc hrl (W0a _) ((Xmt m).mono (by rw [wZ];decide)) ?_
   rw [Xhp (by omega)];exact if_pos rfl
 · obtain ⟨b,hb⟩:=hh i hil
   obtain ⟨b',hb'⟩:=Lf.ex hB.le b
   refine absurd ⟨b',Xc6 hGr hT.h hT.r ?_⟩ h2
   rw [Xbd hT.h,hb'.ev hB.le,Xbc ha,hb,hev]
def ExB (m : Nat) : Prop:=qB wR m wE≤4398046511104∧qB wR m wR≤4398046511104∧vB wR m (wE+gC wR m)≤4398046511104∧vB wR m wR≤4398046511104
theorem exB {m : Nat} (hm : m≤3) : ExB m:=by
 obtain ⟨q1,q2,q3,q4⟩:=wQ
 have p1:=Xsq (r:=wR) (p:=wE) hm
 have p2:=Xsq (r:=wR) (p:=wR) hm
 have p3:=Xt9 (r:=wR) hm
 have p4:=Xcu (r:=wR) (k:=m) (show wE+gC wR m≤wE+gC wR 3 by omega)
 have p5:=Xi2 (r:=wR) (s:=wE+gC wR 3) hm
 have p6:=Xi2 (r:=wR) (s:=wR) hm
 exact ⟨by omega,by omega,by omega,by omega⟩
theorem ExI.rad (W : Wy G S wR) (hu : TOk G S l u ρu) {i m : Nat} {T : Tw m} {rs : List (List Rat)} {ρ' : Nat→Tow.El K} (hil : i<l) (hT : TOk G S m T ρ') (hrt : RtV G m (zM wR 3) i rs ρ' ρu) : ∃ (x : Tow.El i) (σ : Nat→Tow.El m),(toT l u)[i]?=some (toL i x)∧Sz wR (toL i x)∧Rts m (zM wR 3) i rs σ∧(∀ j,j<i→ev G ρ' m (σ j)=ρu j)∧ev G ρ' m (ev T σ i x)=mul K G (ρu i) (ρu i)∧sgn K G (ρu i)=1∧Sz wE (toL m (ev T σ i x)):=by
 have hl3:=W.le hu
 have hm3:=W.le hT
 obtain ⟨x,x1,x2,x3⟩:=Tw.at (t:=u) hil
 have x2:=x2 wR (W.t hu)
 obtain ⟨x3,x4⟩:=x3 hu.h
 obtain ⟨σ,s1,s2⟩:=hrt.sig
 exact ⟨x,σ,x1,x2,s1,s2,by rw [Xlm hT.h s2,x3],x4,(Xll (W.t hT) (a:=x) (fun i' h'=>(s1 i' h').elim fun _ h=>h.elim fun _ h=>h.2.2.2) x2).mono (Yan hm3 (by omega))⟩
theorem Xe8 (W : Wy G S wR) (ht : TOk G S k t ρ) (hu : TOk G S l u ρu) : C0 173 [.d (dt t),.d (dt u)] (ExQ G S l k t ρ ρu fun T rs=>.tup (.pr (.d T) (.pr (.d rs) (.d (.int .i64 0))))):=by
 have hl3 : l≤3:=W.le hu
 refine En Tryz.func173 fun _ _ _=>?_
 refine Nl 7 7 1 rfl ?_
 refine Lo (fun (x : Nat × (Σ m,Tw m) × List (List Rat))=>[(0,.d (dt x.2.1.2)),(1,.d (dt u)),(7,.gr 7 1 (x.2.2.map dqs)),(8,.d (.int .i64 x.1))]) (fun x=>[(7,.tok (x.2.2.map dqs).length 1)])
  (ExI G S l k t ρ ρu) (fun x=>l - x.1) (0,⟨k,t⟩,[]) [] rfl ⟨W1d _,rfl,ρ,ht,Beg.rf,fun _ _=>rfl,fun i hi=>by omega,fun _=>rfl⟩ (fun (i,⟨m,T⟩,rs) hI=>?_)
 have hI':=hI
 obtain ⟨hi,hrl,ρ',hT,hB,ha,hrt,hc⟩:=hI
 simp only at hi hrl hT hB ha hrt hc
 have hm3 : m≤3:=W.le hT
 have hz:=W.t hT
 refine By rfl (fun h=>?_) fun h=>?_ <;> simp only [lt',Xaa] at h
 · have hil : i<l:=by omega
   obtain ⟨x,σ,x1,x2,s1,s2,hev,x4,hsz⟩:=ExI.rad W hu hil hT hrt
   obtain ⟨q1,q2,q3,q4⟩:=exB hm3
   have hE:=Yan hm3 (show i≤2 by omega)
   have hR:=Xrc
   have hE':=Yd6
   have hlen : (rs.map dqs).length≤3:=by rw [W0n];omega
   refine Ix i rfl (mp x1) ?_
   refine Ce rfl (Xgj (k:=m) (T:=T) hz (by omega) s1 x2 (by omega) (by omega)) ?_
   refine Ca rfl (R8.Adjoin_ok (k:=m) (t:=T) hz hsz hT.r (by omega) q1 q2 q3 q4) fun v hv=>?_
   rcases hv with ⟨h1,rfl⟩ | ⟨y,h1,h2,rfl⟩ | ⟨h1,h2,h3,rfl⟩
   · have:=Xcr (Xag W.g) hT.h (a:=ev T σ i x)
     rw [hev,(Xat (Xag W.g)).sm,x4] at this
     omega
   · refine No rfl (by simp) ?_
     refine ApG ((rs++[toL m y]).map dqs) rfl (by simp) (by simp at hlen ⊢;omega) ?_
     refine Ar (i+1 : Nat) rfl ?_
     exact Bk (i+1,⟨m,T⟩,rs++[toL m y]) [(38,7)] rfl (hI'.sq W hu hil hT hB ha hrt hc s2 hev x4 h1 h2) (by show l - (i+1)<l - i;omega)
   · refine No rfl (by simp) ?_
     refine ApG ((rs++[toL (m+1) (Xcg (m+1) m)]).map dqs) rfl (by simp) (by simp at hlen ⊢;omega) ?_
     refine Ar (i+1 : Nat) rfl ?_
     exact Bk (i+1,⟨m+1,tsn T (ev T σ i x)⟩,rs++[toL (m+1) (Xcg (m+1) m)]) [(38,7)] rfl (hI'.new W hu hil hT hB ha hrt hev x4 h2) (by show l - (i+1)<l - i;omega)
 · obtain rfl : i=l:=by omega
   exact Rt rfl (.tup (.cons (.rf rfl) (.cons (.gr rfl) Xdo))) ⟨m,T,rs,ρ',rfl,hT,hB,ha,hrt,hc⟩
end
end Go.Proofs.YtclmecgphleeeaaGreatDoor.R9
namespace Go.Proofs.YtclmecgphleeeaaGreatDoor
open Go Go.Vm Go.Num Go.Tow
abbrev dN (x : Nm) : D:=.st (.pr (dt x.t) (de x.a))
abbrev dNs (l : List Nm) : D:=.sl 2 (l.map dN)
end Go.Proofs.YtclmecgphleeeaaGreatDoor
namespace Go.Proofs.YtclmecgphleeeaaGreatDoor.R9
open Go Go.Vm Go.Num Go.Tow Go.Proofs.YtclmecgphleeeaaGreatDoor
section
variable {K : Nat} {G : Tw K} {S : List (Tow.El K)} {r p : Nat} {x y : Nm} {vx vy : Tow.El K}
def CmP (G : Tw K) (S : List (Tow.El K)) (x y : Nm) (m : Nat) (T : Tw m) : Prop:=∃ ρ,TOk G S m T ρ∧∀ z∈[x,y],∀ ρz,TOk G S z.k z.t ρz→∀ j,j<z.k→∃ e : Tow.El m,ev G ρ m e=ρz j
theorem CmP.mk (hG : red K G) {ρx ρy : Nat→Tow.El K} (hx1 : TOk G S x.k x.t ρx) (hy1 : TOk G S y.k y.t ρy) {m : Nat} {T : Tw m} {ρ : Nat→Tow.El K} (h1 : TOk G S m T ρ) (h3 : ∀ j,j<x.k→∃ e : Tow.El m,ev G ρ m e=ρx j) (h4 : ∀ j,j<y.k→∃ e : Tow.El m,ev G ρ m e=ρy j) : CmP G S x y m T:=⟨_,h1,fun z hz ρz hρ j hj=>by
 rcases W1o.1 hz with rfl | hz
 · obtain ⟨e,he⟩:=h3 j hj;exact ⟨e,by rw [he];exact hx1.h.uniq hG hρ.h j hj⟩
 · obtain rfl:=W0g.1 hz
   obtain ⟨e,he⟩:=h4 j hj;exact ⟨e,by rw [he];exact hy1.h.uniq hG hρ.h j hj⟩⟩
theorem Xvc (hG : red K G) {k m : Nat} {t : Tw k} {T : Tw m} {ρ ρ' : Nat→Tow.El K} (h : Beg k t m T) (h1 : TOk G S k t ρ) (h2 : TOk G S m T ρ') : ∀ i,i<k→ρ' i=ρ i:=(h.hom h2.h).uniq hG h1.h
theorem rts {k : Nat} {ρ : Nat→Tow.El K} (j : Nat) (hj : j<k) : ∃ e : Tow.El k,ev G ρ k e=ρ j:=⟨Xcg _ j,Xhp hj⟩
theorem Xhx (hG : red K G) {k m : Nat} {t : Tw k} {T : Tw m} {ρ ρ' : Nat→Tow.El K} (h : Beg k t m T) (h1 : TOk G S k t ρ) (h2 : TOk G S m T ρ') (j : Nat) (hj : j<k) : ∃ e : Tow.El m,ev G ρ' m e=ρ j:=by
 obtain ⟨e,he⟩:=rts (G:=G) (k:=m) (ρ:=ρ') j (W0r hj h.le)
 exact ⟨e,by rw [he];exact Xvc hG h h1 h2 j hj⟩
theorem CmP.ext (hG : red K G) {ρx ρy : Nat→Tow.El K} (hx1 : TOk G S x.k x.t ρx) (hy1 : TOk G S y.k y.t ρy) {m z : Nat} {T : Tw m} {rs : List (List Rat)} {ρ' : Nat→Tow.El K} (g1 : TOk G S m T ρ') (g2 : Beg x.k x.t m T) (g5 : RtV G m z y.k rs ρ' ρy) : CmP G S x y m T:=.mk hG hx1 hy1 g1 (Xhx hG g2 hx1 g1) fun j hj=>by
 obtain ⟨n,s,s1,_,_,s4⟩:=g5 j hj
 obtain ⟨b,hb⟩:=Lf.ex s1 s
 exact ⟨b,by rw [hb.ev s1,s4]⟩
theorem Yln (hx : NOk G S r p x vx) (hy : NOk G S r p y vy) (i : Nat) (hi : i<2) : ∃ (z : Nm) (v : Tow.El K) (ρz : Nat→Tow.El K),[x,y][i]?=some z∧[vx,vy][i]?=some v∧TOk G S z.k z.t ρz∧ev G ρz z.k z.a=v∧Sz p (toL z.k z.a):=by
 have : i=0∨i=1:=by omega
 rcases this with rfl | rfl
 · obtain ⟨ρ,h1,h2⟩:=hx.ex;exact ⟨x,vx,ρ,rfl,rfl,h1,h2,hx.p⟩
 · obtain ⟨ρ,h1,h2⟩:=hy.ex;exact ⟨y,vy,ρ,rfl,rfl,h1,h2,hy.p⟩
def JnR (G : Tw K) (S : List (Tow.El K)) (p : Nat) (vx vy : Tow.El K) (m : Nat) (T : Tw m) (a b : Tow.El m) : Prop:=∃ ρ,TOk G S m T ρ∧ev G ρ m a=vx∧ev G ρ m b=vy∧Sz (jW p) (toL m a)∧Sz (jW p) (toL m b)
def JnI (G : Tw K) (p m : Nat) (ρ : Nat→Tow.El K) (vx vy : Tow.El K) (s : Nat × List (Tow.El m)) : Prop:=s.1≤2∧s.2.length=s.1∧∀ i,i<s.1→∃ a v,s.2[i]?=some a∧[vx,vy][i]?=some v∧ev G ρ m a=v∧Sz (jW p) (toL m a)
theorem JnI.step {m : Nat} {ρ : Nat→Tow.El K} {j : Nat} {bs : List (Tow.El m)} {v : Tow.El K} (h : JnI G p m ρ vx vy (j,bs)) (hj : j<2) (z2 : [vx,vy][j]?=some v) {b : Tow.El m} (h1 : ev G ρ m b=v) (h2 : Sz (jW p) (toL m b)) : JnI G p m ρ vx vy (j+1,bs++[b]):=by
 obtain ⟨_,hjl,has⟩:=h
 have hjl : bs.length=j:=hjl
 refine ⟨hj,by simp [hjl],fun i hi=>?_⟩
 by_cases e : i=j
 · subst e
   exact ⟨b,v,by rw [W0u (by omega),hjl,W2w];rfl,z2,h1,h2⟩
 · obtain ⟨a,w,g1,g2⟩:=has i (by have : i<j+1:=hi;show i<j;omega)
   exact ⟨a,w,by rw [W0x (by omega),g1],g2⟩
theorem JnI.done {m : Nat} {T : Tw m} {ρ : Nat→Tow.El K} {bs : List (Tow.El m)} (hT : TOk G S m T ρ) (h : JnI G p m ρ vx vy (2,bs)) : ∃ a b,bs=[a,b]∧JnR G S p vx vy m T a b:=by
 obtain ⟨_,hjl,has⟩:=h
 match bs,hjl with
 | [a,b],_ =>
  obtain ⟨a',v,a1,a2,a3,a4⟩:=has 0 (show 0<2 by decide)
  obtain ⟨b',w,b1,b2,b3,b4⟩:=has 1 (show 1<2 by decide)
  cases a1;cases a2;cases b1;cases b2
  exact ⟨a,b,rfl,ρ,hT,a3,b3,a4,b4⟩
theorem img (W : Wy G S wR) {m l : Nat} {T : Tw m} {u : Tw l} {ρ ρz : Nat→Tow.El K} (hT : TOk G S m T ρ) (hu : TOk G S l u ρz) {rs : List (List Rat)} {σ : Nat→Tow.El m} (s1 : Rts m (zM wR 3) l rs σ) {a : Tow.El l} (ha : Sz p (toL l a)) : Sz (jW p) (toL m (ev T σ l a)):=(Xll (W.t hT) (fun i h=>(s1 i h).elim fun _ h=>h.elim fun _ h=>h.2.2.2) ha).mono (Xw7 (W.le hT) (W.le hu))
theorem Ygb {p : Nat} : p≤jW p:=by unfold jW;omega
theorem Ydr (W : Wy G S wR) (hx : NOk G S r p x vx) (hy : NOk G S r p y vy) (hp : p≤4000000000) : C0 118 [.d (dNs [x,y])] fun v=>∃ m T a b,v=.tup (.pr (.d (dNs [⟨m,T,a⟩,⟨m,T,b⟩])) (.d (.int .i64 0)))∧JnR G S p vx vy m T a b:=by
 have hG:=W.g
 have hR:=Xrc
 have hJ : jW p=8*p+73803682:=rfl
 obtain ⟨ρx,hx1,hx2⟩:=hx.ex
 obtain ⟨ρy,hy1,hy2⟩:=hy.ex
 have hx3:=W.le hx1
 have hy3:=W.le hy1
 have hxr:=W.t hx1
 have hyr:=W.t hy1
 refine En Tryz.func118 fun _ _ _=>?_
 refine Nd 4 1 rfl ?_
 refine Lo (fun (s : Nat × (Σ m,Tw m))=>[(0,.d (dNs [x,y])),(4,.d (dt s.2.2)),(5,.d (.int .i64 s.1))]) (fun _=>[]) (fun s=>(s.1=0∧s.2=⟨0,()⟩)∨(s.1=1∧s.2=⟨x.k,x.t⟩)∨(s.1=2∧CmP G S x y s.2.1 s.2.2)) (fun s=>2 - s.1) (0,⟨0,()⟩) [] rfl (.inl ⟨rfl,rfl⟩) (fun (i,⟨m,T⟩) hI=>?_)
 simp only at hI
 rcases hI with ⟨rfl,e⟩ | ⟨rfl,e⟩ | ⟨rfl,hP⟩
 · cases e
   refine Yes rfl (show (0 : Int)<2 by decide) ?_
   refine Ix 0 rfl (u:=dN x) rfl ?_
   refine By rfl (fun h=>?_) fun h=>?_
   · refine Ix 0 rfl (u:=dN x) rfl ?_
     refine Ce rfl (Xaq (U:=[]) (q:=1) (TS.pt hxr) (fun i r h=>by simp at h) (by omega) (by rw [Xaa];omega)) ?_
     refine Yes rfl (by simp) ?_
     refine Ix 0 rfl (u:=dN x) rfl ?_
     refine Ar (0+1 : Nat) rfl ?_
     exact Bk (1,⟨x.k,x.t⟩) [] rfl (.inr (.inl ⟨rfl,rfl⟩)) (show 1<2 by decide)
   · obtain ⟨kx,tx,ax⟩:=x
     have h : ¬ (((toT kx tx).map dqs).length : Int) > 0:=h
     obtain rfl : kx=0:=by rw [lt',Xaa] at h;omega
     refine Ix 0 rfl (u:=dN ⟨0,tx,ax⟩) rfl ?_
     refine Ce rfl (Xaq (T:=[]) (U:=[]) (p:=1) (q:=1) (fun i r h=>by simp at h) (fun i r h=>by simp at h) (by omega) (by decide)) ?_
     refine No rfl (by simp) ?_
     refine Ar (0+1 : Nat) rfl ?_
     exact Bk (1,⟨0,tx⟩) [] rfl (.inr (.inl ⟨rfl,rfl⟩)) (show 1<2 by decide)
 · cases e
   have last : ∀ h : (toT x.k x.t).take (toT y.k y.t).length=toT y.k y.t,CmP G S x y x.k x.t:=fun h=>.mk hG hx1 hy1 hx1 rts (Xhx hG (show Beg y.k y.t x.k x.t from h) hy1 hx1)
   refine Yes rfl (show (1 : Int)<2 by decide) ?_
   refine Ix 1 rfl (u:=dN y) rfl ?_
   refine By rfl (fun h=>?_) fun h=>?_
   · refine Ix 1 rfl (u:=dN y) rfl ?_
     refine Ce rfl (Xaq (T:=toT y.k y.t) (U:=toT x.k x.t) (TS.pt hyr) (TS.pt hxr) (by omega) (by rw [Xaa];omega)) ?_
     refine By rfl (fun h1=>?_) fun h1=>?_
     · have hb : Beg x.k x.t y.k y.t:=h1
       refine Ix 1 rfl (u:=dN y) rfl ?_
       refine Ar (1+1 : Nat) rfl ?_
       exact Bk (2,⟨y.k,y.t⟩) [] rfl (.inr (.inr ⟨rfl,.mk hG hx1 hy1 hy1 (Xhx hG hb hx1 hy1) rts⟩)) (show 0<1 by decide)
     · refine Ix 1 rfl (u:=dN y) rfl ?_
       refine Ce rfl (Xaq (T:=toT x.k x.t) (U:=toT y.k y.t) (TS.pt hxr) (TS.pt hyr) (by omega) (by rw [Xaa];omega)) ?_
       refine By rfl (fun h2=>?_) fun h2=>?_
       · refine Ix 1 rfl (u:=dN y) rfl ?_
         refine Ca rfl (Xe8 W hx1 hy1) fun v hv=>?_
         obtain ⟨m,T,rs,ρ',rfl,g1,g2,g3,g5,g6⟩:=hv
         refine No rfl (by simp) ?_
         refine Ar (1+1 : Nat) rfl ?_
         exact Bk (2,⟨m,T⟩) [] rfl (.inr (.inr ⟨rfl,.ext hG hx1 hy1 g1 g2 g5⟩)) (show 0<1 by decide)
       · refine Ar (1+1 : Nat) rfl ?_
         exact Bk (2,⟨x.k,x.t⟩) [] rfl (.inr (.inr ⟨rfl,last (by simpa [Xb9,Xaw] using h2)⟩)) (show 0<1 by decide)
   · refine Ix 1 rfl (u:=dN y) rfl ?_
     refine Ce rfl (Xaq (T:=toT x.k x.t) (U:=toT y.k y.t) (TS.pt hxr) (TS.pt hyr) (by omega) (by rw [Xaa];omega)) ?_
     refine By rfl (fun h2=>?_) fun h2=>?_
     · refine Ix 1 rfl (u:=dN y) rfl ?_
       refine Ca rfl (Xe8 W hx1 hy1) fun v hv=>?_
       obtain ⟨m,T,rs,ρ',rfl,g1,g2,g3,g5,g6⟩:=hv
       refine No rfl (by simp) ?_
       refine Ar (1+1 : Nat) rfl ?_
       exact Bk (2,⟨m,T⟩) [] rfl (.inr (.inr ⟨rfl,.ext hG hx1 hy1 g1 g2 g5⟩)) (show 0<1 by decide)
     · refine Ar (1+1 : Nat) rfl ?_
       exact Bk (2,⟨x.k,x.t⟩) [] rfl (.inr (.inr ⟨rfl,last (by simpa [Xb9,Xaw] using h2)⟩)) (show 0<1 by decide)
 · obtain ⟨ρ,hT,hcon⟩:=hP
   have hTr:=W.t hT
   have hm3:=W.le hT
   refine No rfl (show ¬ (2 : Int)<2 by decide) ?_
   refine Nl 9 9 2 rfl ?_
   refine Lo (fun (s : Nat × List (Tow.El m))=>[(0,.d (dNs [x,y])),(4,.d (dt T)),(9,.gr 9 2 (s.2.map fun a=>dN ⟨m,T,a⟩)),(10,.d (.int .i64 s.1))]) (fun s=>[(9,.tok (s.2.map fun a=>dN ⟨m,T,a⟩).length 2)])
    (JnI G p m ρ vx vy) (fun s=>2 - s.1) (0,[]) [] rfl ⟨W1d _,rfl,fun i hi=>absurd hi (W5h _)⟩ (fun (j,bs) hI=>?_)
   have hI':=hI
   obtain ⟨hj,hjl,has⟩:=hI
   simp only at hj hjl has
   refine By rfl (fun h=>?_) fun h=>?_
   · have h : (j : Int)<2:=h
     obtain ⟨z,v,ρz,z1,z2,z3,z4,z6⟩:=Yln hx hy j (by omega)
     have z5:=W.t z3
     have hzu : ([x,y].map dN)[j]?=some (dN z):=by rw [W1s,z1];rfl
     have hzm:=hcon z (W0l z1) ρz z3
     have hz3:=W.le z3
     have hpj : p≤jW p:=Ygb
     refine Ix j rfl hzu ?_
     refine Ce rfl (Xaq (T:=toT m T) (U:=toT z.k z.t) (TS.pt hTr) (TS.pt z5) (by omega) (by rw [Xaa];omega)) ?_
     refine By rfl (fun h1=>?_) fun h1=>?_
     · have hb : Beg z.k z.t m T:=h1
       obtain ⟨b,hlb⟩:=Lf.ex hb.le z.a
       have hv1 : ev G ρ m b=v:=by rw [hlb.ev hb.le,Xbc (Xvc hG hb z3 hT),z4]
       refine Ix j rfl hzu ?_
       refine Ce rfl (Xm4 (T:=T) hlb hb.le (by omega)) ?_
       refine ApG ((bs++[b]).map fun a=>dN ⟨m,T,a⟩) rfl (by simp) (by simp;omega) ?_
       refine Ar (j+1 : Nat) rfl ?_
       exact Bk (j+1,bs++[b]) [(113,9)] rfl (hI'.step (by omega) z2 hv1 ((hlb.sz z6).mono hpj)) (by show 2 - (j+1)<2 - j;omega)
     · refine Ix j rfl hzu ?_
       refine Ca rfl (Xe8 W hT z3) fun v' hv=>?_
       obtain ⟨m',T',rs,ρ',rfl,g1,g2,g3,g5,g6⟩:=hv
       obtain rfl : m'=m:=by have:=congrArg List.length (g6 hzm);rwa [Xaa,Xaa] at this
       have g5 : RtV G m' (zM wR 3) z.k rs ρ ρz:=g5.mono (W0a _) (W0a _) (fun i hi=>(g3 i hi).symm)
       obtain ⟨σ,s1,s2⟩:=g5.sig
       have hbd:=Xw7 (p:=p) hm3 hz3
       refine Ix j rfl hzu ?_
       refine Ce rfl (Xgj hTr (by omega) s1 z6 (by omega) (by omega)) ?_
       refine ApG ((bs++[ev T σ z.k z.a]).map fun a=>dN ⟨m',T,a⟩) rfl (by simp) (by simp;omega) ?_
       refine Ar (j+1 : Nat) rfl ?_
       exact Bk (j+1,bs++[ev T σ z.k z.a]) [(113,9)] rfl (hI'.step (by omega) z2 (by rw [Xlm hT.h s2,z4]) (img W hT z3 s1 z6)) (by show 2 - (j+1)<2 - j;omega)
   · have h : ¬ (j : Int)<2:=h
     obtain rfl : j=2:=by omega
     obtain ⟨a,b,rfl,hJ⟩:=hI'.done hT
     exact Rt rfl (.tup (.cons (.gr rfl) Xdo)) ⟨m,T,a,b,rfl,hJ⟩
end
open Go Go.Vm Go.Num Go.Tow Go.Proofs.YtclmecgphleeeaaGreatDoor
abbrev n0 : D:=.st (.pr (dts []) (dqs []))
theorem Ymi {g : Hp} {K : Hpl} : Fit g K (.st (.pr .nil .nil)) (.d n0):=.sd (.pd (.nil rfl) (.nil rfl))
section
variable {K : Nat} {G : Tw K} {S : List (Tow.El K)} {r p : Nat} {x y : Nm} {vx vy : Tow.El K}
theorem Yee (W : Wy G S wR) (hx : NOk G S r p x vx) (hy : NOk G S r p y vy) (hp : p≤4000000000) : C0 58 [.d (dN x),.d (dN y)] fun v=>∃ m T a b,v=.tup (.pr (.d (dN ⟨m,T,a⟩)) (.pr (.d (dN ⟨m,T,b⟩)) (.d (.int .i64 0))))∧JnR G S p vx vy m T a b:=by
 refine En Tryz.func58 fun _ _ _=>?_
 refine Ca rfl (Ydr W hx hy hp) fun v hv=>?_
 obtain ⟨m,T,a,b,rfl,h⟩:=hv
 refine No rfl (by simp) ?_
 refine Dz rfl ?_
 refine Ix 0 rfl (u:=dN ⟨m,T,a⟩) rfl ?_
 refine Ix 1 rfl (u:=dN ⟨m,T,b⟩) rfl ?_
 exact Rt rfl (.tup (.cons (.rf rfl) (.cons (.rf rfl) Xdo))) ⟨m,T,a,b,rfl,h⟩
def OpR (G : Tw K) (S : List (Tow.El K)) (p : Nat) (w : Tow.El K) (v : AV) : Prop:=∃ z : Nm,v=.tup (.pr (.d (dN z)) (.d (.int .i64 0)))∧NOk G S wR p z w
theorem Add_ok (W : Wy G S wR) (hx : NOk G S r p x vx) (hy : NOk G S r p y vy) (hp : p≤4000000000) : C0 25 [.d (dN x),.d (dN y)] (OpR G S (oW p) (Tow.add K vx vy)):=by
 have hO : oW p=16*p+147714794:=rfl
 have hJ : jW p=8*p+73803682:=rfl
 refine En Tryz.func25 fun _ _ _=>?_
 refine Ca rfl (Yee W hx hy hp) fun v hv=>?_
 obtain ⟨m,T,a,b,rfl,ρ,h1,h3,h4,h5,h6⟩:=hv
 have h2:=W.t h1
 have hm:=W.le h1
 refine No rfl (by simp) ?_
 refine Dw rfl ?_
 refine Ce rfl (R6.Add_el (k:=m) (a:=a) (b:=b) (by omega) h5.ps h6.ps (by omega)) ?_
 exact Rt rfl (.tup (.cons (.rf rfl) Xdo)) ⟨⟨m,T,Tow.add m a b⟩,rfl,⟨ρ,h1,by rw [←h3,←h4];exact Xc7⟩,h2,by rw [Xaz];exact (h5.add h6).mono (by omega)⟩
theorem Neg_ok (hx : NOk G S r p x vx) (hk : x.k≤16) (hp : p≤8796093022208) : C0 29 [.d (dN x)] (·=.d (dN ⟨x.k,x.t,Tow.neg x.k x.a⟩)):=by
 refine En Tryz.func29 fun _ _ _=>?_
 refine Dw rfl ?_
 refine Ce rfl (R6.Neg_el hk hx.p.ps hp) ?_
 exact R1 rfl (.rf rfl)
theorem Sub_ok (W : Wy G S wR) (hx : NOk G S r p x vx) (hy : NOk G S r p y vy) (hp : p≤4000000000) : C0 17 [.d (dN x),.d (dN y)] (OpR G S (oW p) (Tow.add K vx (Tow.neg K vy))):=by
 have:=hy.le (Xag W.g) W.s
 refine En Tryz.func17 fun _ _ _=>?_
 refine Dw rfl ?_
 refine Ce rfl (Neg_ok hy (by omega) (by omega)) ?_
 refine Ca rfl (Add_ok W hx hy.neg hp) fun v hv=>?_
 obtain ⟨z,rfl,h⟩:=hv
 exact Rt rfl (.tup (.cons (.rf rfl) Xdo)) ⟨z,rfl,h⟩
theorem Sign_ok (hG : red K G) (hx : NOk G S r p x vx) (hk : x.k≤16) (hv : vB r x.k p≤4398046511104) : C0 18 [.d (dN x)] (·=.d (.int .i64 (sgn K G vx))):=by
 refine En Tryz.func18 fun _ _ _=>?_
 refine Ce rfl (R7.Fast_ok hx.r hx.p hk hv) ?_
 rw [hx.sgn (Xag hG)]
 exact R0
def RtR (x : Nm) (v : AV) : Prop:=∃ z : Nm,v=.tup (.pr (.d (dN z)) (.d (.int .i64 0)))∧((∃ y,z=⟨x.k,x.t,y⟩∧Tow.mul x.k x.t y y=x.a∧0≤sgn x.k x.t y)∨(z=⟨x.k+1,tsn x.t x.a,Xcg (x.k+1) x.k⟩∧0≤sgn x.k x.t x.a∧¬ Xej x.k x.t x.a))
theorem Sqrt_ok (hr : red x.k x.t) (hT : TS r x.k x.t) (ha : Sz p (toL x.k x.a)) (h0 : 0≤sgn x.k x.t x.a) (hk : x.k<8) (hq : qB r x.k p≤4398046511104) (hq2 : qB r x.k r≤4398046511104) (hv : vB r x.k (p+gC r x.k)≤4398046511104) (hv2 : vB r x.k r≤4398046511104) :
 C0 30 [.d (dN x)] (RtR x):=by
 refine En Tryz.func30 fun _ _ _=>?_
 refine Ca rfl (R8.Adjoin_ok hT ha hr hk hq hq2 hv hv2) fun v hv=>?_
 rcases hv with ⟨h1,rfl⟩ | ⟨y,h1,h2,rfl⟩ | ⟨h1,h2,h3,rfl⟩
 · omega
 · refine No rfl (by simp) ?_
   exact Rt rfl (.tup (.cons (.rf rfl) Xdo)) ⟨⟨x.k,x.t,y⟩,rfl,.inl ⟨y,rfl,h1,h2⟩⟩
 · refine No rfl (by simp) ?_
   exact Rt rfl (.tup (.cons (.rf rfl) Xdo)) ⟨⟨x.k+1,tsn x.t x.a,Xcg (x.k+1) x.k⟩,rfl,.inr ⟨rfl,h1,h2⟩⟩
theorem FromRat_ok {q : Rat} : C0 36 [.d (dq q)] (·=.d (dN ⟨0,(),q⟩)):=by
 refine En Tryz.func36 fun _ _ _=>?_
 exact R1 rfl (.sd (.pd (.nil rfl) (.lit rfl)))
theorem FromInt_ok {z : Int} (h : -9223372036854775808≤z∧z<9223372036854775808) : C0 24 [.d (.int .i64 z)] (·=.d (dN ⟨0,(),(z : Rat)⟩)):=by
 refine En Tryz.func24 fun _ _ _=>?_
 refine Ce rfl (R2.FromInt_ok h) ?_
 refine Ce rfl FromRat_ok ?_
 exact R1 rfl (.rf rfl)
theorem Frac_ok {a b : Int} (ha : -9223372036854775808≤a∧a<9223372036854775808) (hb : -9223372036854775808≤b∧b<9223372036854775808) (hb0 : b≠0) : C0 14 [.d (.int .i64 a),.d (.int .i64 b)] (·=.d (dN ⟨0,(),Rat.divInt a b⟩)):=by
 refine En Tryz.func14 fun _ _ _=>?_
 refine Ce rfl (R2.Frac_ok ha hb hb0) ?_
 refine Ce rfl FromRat_ok ?_
 exact R1 rfl (.rf rfl)
theorem made_ok : C0 26 [.d (dN x),.d (.int .i64 0),.d (dN y)] (·=.d (dN x)):=by
 refine En Tryz.func26 fun _ _ _=>?_
 refine No rfl (by simp) ?_
 exact R1 rfl (.rf rfl)
theorem Xw3 : C0 26 [.d n0,.d (.int .i64 6),.d (dN y)] (·=.d (dN y)):=by
 refine En Tryz.func26 fun _ _ _=>?_
 refine Yes rfl (by simp) ?_
 exact R1 rfl (.rf rfl)
end
end Go.Proofs.YtclmecgphleeeaaGreatDoor.R9
namespace Go.Vm
open Go
def Yie : Op→Bool
 | .buildSlice _ _ _=>true
 | _=>false
def Yid : List Oper→List Nat
 | []=>[]
 | o::l=>match Yie o.op,o.dst with
  | true,some d=>d::Yid l
  | _,_=>Yid l
def Xtn (E : Env) (LB : List Nat) (L : List Oper) : Bool:=(LB.all fun b=>!Xb3 E b) && L.all fun o=>match o.dst with
 | none=>true
 | some d=>!inL d LB || Yie o.op
def apD (LB : List Nat) (k : Oper) : Option Nat:=match k.op,k.dst with
 | .call ⟨.builtin .append,⟨[.tmp b,_]⟩,_⟩,some d=>match inL b LB with
  | true=>some d
  | false=>none
 | _,_=>none
def Yf4 (LB : List Nat) (L : List Oper) (D : List Nat) (E : Env) (T : Trk) (k i : Oper) : Bool:=match k.op,apD LB i with
 | .load _ (.tmp a),some d=>match bnd D E T a with
  | some la=>Xbt L k.dst i && Xbt L i.dst k && !inL d la
  | none=>false
 | _,_=>false
def Ydw (LB : List Nat) (L : List Oper) (k i : Oper) : Bool:=match Xhi k.op,k.dst,apD LB i with
 | true,some dk,some d=>Xbt L k.dst i && Xbt L i.dst k
 | _,_,_=>false
def ZL (LB : List Nat) (s : S) : Prop:=∀ b,inL b LB=true→s.1 b=none∨s.1 b=some .un∨∃ sz xs,s.1 b=some (.lit sz xs)
section
variable {tb : Nat→Option TI}
theorem Yeo {g g' : Hp} {z : D} {sz : Nat} {c : AV} {ys : List D} (hg : ∀ o s xs,g o=some (.arr s xs)→g' o=some (.arr s xs)) (h : Xmm g z sz c=some ys) : Xmm g' z sz c=some ys:=by
 unfold Xmm at h ⊢
 split at h
 · split at h <;> try cases h
   rename_i ho
   rw [hg _ _ _ ho];exact h
 · split at h <;> try cases h
   rename_i ho
   rw [hg _ _ _ ho];exact h
 · exact h
theorem Xyc {LB : List Nat} {k : Oper} {d : Nat} (hk : apD LB k=some d) {s : S} (hz : ZL LB s) {r : AV × List (Nat × Ob)} {g : Hp} (h : eff tb k (s.1,g)=some r) : k.dst=some d∧Xal k=false∧g d=none∧(r.2=[]∨∃ ob,r.2=[(d,ob)])∧∀ g',g' d=none→(∀ o s xs,g o=some (.arr s xs)→g' o=some (.arr s xs))→eff tb k (s.1,g')=some r:=by
 unfold apD at hk
 split at hk <;> try cases hk
 rename_i b y tys d' ho hd
 split at hk <;> cases hk
 rename_i hb
 unfold eff at h
 split at h <;> try cases h
 rename_i asx has
 split at h <;> try cases h
 rename_i hst
 have has0:=has
 have has : getEs s.1 [.tmp b,y]=some asx:=by rw [ho] at has;exact has
 simp only [getEs,Xcn] at has
 split at has <;> try cases has
 rename_i v hv
 split at has <;> try cases has
 rename_i as' has'
 split at has' <;> try cases has'
 rename_i w hw
 have htys : ∃ T T',tys=⟨[T,T']⟩:=by
  rcases tys with ⟨_ | ⟨T,_ | ⟨T',_ | ⟨U,l⟩⟩⟩⟩
  · rw [ho] at h;simp [F,Fp] at h
  · rw [ho] at h;simp [F,Fp] at h
  · exact ⟨_,_,rfl⟩
  · rw [ho] at h;simp [F,Fp] at h
 obtain ⟨T,T',rfl⟩:=htys
 rcases hz b hb with e | e | ⟨sz,xs,e⟩
 · rw [e] at hv;cases hv
 · rw [e] at hv;injection hv with hv;subst hv
   exfalso
   rw [ho] at h
   simp only [F] at h
   repeat' split at h
   all_goals first
    | (cases h;done)
    | (simp [Xp8] at h;done)
    | simp_all [Fp,Xp8]
 · rw [e] at hv;injection hv with hv;subst hv
   rw [ho] at h
   simp only [F,hd,W3s] at h
   split at h <;> try cases h
   rename_i hT
   split at h <;> try cases h
   rename_i ti ht hgd
   split at h <;> try cases h
   rename_i sz' xs' hz'
   split at h <;> try cases h
   rename_i ys hys
   refine ⟨hd,by unfold Xal;rw [ho];rfl,hgd,?_,fun g' h1 h2=>?_⟩
   · simp only [Xp8] at h
     split at h
     · cases h;exact .inr ⟨_,rfl⟩
     · split at h <;> cases h
       exact .inl rfl
   · unfold eff
     rw [has0]
     simp only [hst]
     rw [ho]
     subst hT
     have hs':=Yeo h2 hys
     rw [hz'] at hs'
     simp only [F,hd,W3s,ht,h1,hz',hs',if_true]
     exact h
theorem Xe5 {LB : List Nat} {L : List Oper} {E : Env} {T : Trk} {k i : Oper} (h : Yf4 LB L (dsL L) E T k i=true) : Xal k=false∧Xbt L k.dst i=true∧Xbt L i.dst k=true∧(∃ d,apD LB i=some d)∧∀ {s : S},ZT (dsL L) E T s→ZL LB s →
 (∀ {rk},efw tb L k s=some rk→rk.2=[])∧∀ {g : Hp} {ri : AV × List (Nat × Ob)},efw tb L i (s.1,g)=some ri→∀ rk,efw tb L k (s.1,g)=some rk↔efw tb L k (s.1,Xbe g ri.2)=some rk:=by
 unfold Yf4 at h
 split at h <;> try cases h
 rename_i T1 a d hk hi
 split at h <;> try cases h
 rename_i la hla
 simp only [W0f,W1t] at h
 obtain ⟨⟨h1,h2⟩,h3⟩:=h
 refine ⟨by unfold Xal;rw [hk];rfl,h1,h2,⟨d,hi⟩,fun {s} hz hl=>⟨fun {rk} hr=>?_,fun {g ri} hri rk=>?_⟩⟩
 · rcases Xav hr with ⟨_,e,_⟩ | ⟨_,e⟩
   · exact e
   · exact (Yj1 (o:=k) (by rw [hk];rfl) (e:=s.1) (g:=s.2) e).1
 · have key : ∀ {g g' : Hp},(∀ o,o≠d→g o=g' o)→efw tb L k (s.1,g)=some rk→efw tb L k (s.1,g')=some rk:=by
    intro g g' hg hr
    rcases Xav hr with ⟨_,_,e⟩ | ⟨hw,e⟩
    · exact e g'
    · have : ∃ v,s.1 a=some v:=by
       unfold eff at e
       split at e <;> try cases e
       rename_i asx has
       rw [hk] at has
       simp only [Op.operands,getEs,Xcn] at has
       split at has <;> try cases has
       exact ⟨_,by assumption⟩
      obtain ⟨v,hv⟩:=this
      refine Xdw (s:=(s.1,g)) hw (Yf5 hk hv (fun o ho=>hg o fun hb=>?_) e).2
      subst hb
      rw [Yjt.2 (Xlz hz hla hv ho)] at h3;cases h3
   have hu : ∀ o,o≠d→g o=Xbe g ri.2 o:=by
    intro o hod
    rcases Xav hri with ⟨_,e,_⟩ | ⟨_,e⟩
    · rw [e];rfl
    · obtain ⟨_,_,_,e1 | ⟨ob,e1⟩,_⟩:=Xyc hi hl e
      · rw [e1];rfl
      · rw [e1];exact (Xam hod).symm
   exact ⟨key hu,key fun o ho=>(hu o ho).symm⟩
theorem Xs4 {o : Oper} (hn : Xhi o.op=true) {s : S} {r : AV × List (Nat × Ob)} (h : eff tb o s=some r) : ∃ a,r.2=[(o.dst.getD 0,.var a)]∧s.2 (o.dst.getD 0)=none∧∀ g',g' (o.dst.getD 0)=none→eff tb o (s.1,g')=some r:=by
 have hc : cls o.op=2:=by unfold Xhi at hn;split at hn <;> first | (rename_i e;rw [e];rfl) | cases hn
 obtain ⟨ob,h1,h2,h3⟩:=Ylk (e:=s.1) (g:=s.2) hc h
 have : ∃ a,r.2=[(o.dst.getD 0,.var a)]:=by
  unfold eff at h
  split at h <;> try cases h
  split at h <;> try cases h
  unfold Xhi at hn
  split at hn <;> try cases hn
  all_goals
   rename_i ho
   rw [ho] at h
   simp only [F] at h
  · split at h <;> cases h;exact ⟨_,rfl⟩
  · split at h <;> try cases h
    split at h <;> cases h;exact ⟨_,rfl⟩
 obtain ⟨a,ha⟩:=this
 exact ⟨a,ha,h2,h3⟩
theorem Xii {LB : List Nat} {L : List Oper} {k i : Oper} (h : Ydw LB L k i=true) : Xhi k.op=true∧Xal k=false∧Xbt L k.dst i=true∧Xbt L i.dst k=true∧∃ dk d,k.dst=some dk∧apD LB i=some d:=by
 unfold Ydw at h
 split at h <;> try cases h
 rename_i dk d h1 h2 h3
 simp only [W0f] at h
 refine ⟨h1,?_,h.1,h.2,dk,d,h2,h3⟩
 unfold Xhi at h1
 unfold Xal
 split at h1 <;> first | (rename_i e;rw [e];rfl) | cases h1
theorem Xjr {LB : List Nat} {L : List Oper} {k i : Oper} (h : Ydw LB L k i=true) {s : S} (hl : ZL LB s) {rk ri : AV × List (Nat × Ob)} :
 (efw tb L k s=some rk→efw tb L i s=some ri→efw tb L i (s.1,Xbe s.2 rk.2)=some ri∧efw tb L k (s.1,Xbe s.2 ri.2)=some rk∧Xbe (Xbe s.2 ri.2) rk.2=Xbe (Xbe s.2 rk.2) ri.2) ∧
 (efw tb L k s=some rk→efw tb L i (s.1,Xbe s.2 rk.2)=some ri→efw tb L i s=some ri)∧(efw tb L i s=some ri→efw tb L k (s.1,Xbe s.2 ri.2)=some rk→efw tb L k s=some rk):=by
 obtain ⟨hn,_,a1,a2,dk,d,hdk,hd⟩:=Xii h
 have hi0 : i.dst=some d:=by
  unfold apD at hd
  split at hd <;> try cases hd
  rename_i h1 h2
  split at hd <;> cases hd
  exact h2
 have hne : dk≠d:=Xe9 a1 hdk hi0
 refine ⟨fun h1 h2=>?_,fun h1 h2=>?_,fun h1 h2=>?_⟩
 · rcases Xav h1 with ⟨_,e1,f1⟩ | ⟨w1,e1⟩
   · rw [e1];exact ⟨h2,f1 _,rfl⟩
   · obtain ⟨a,k1,k2,k3⟩:=Xs4 hn e1
     rw [hdk] at k1 k2 k3
     simp only [W3s] at k1 k2 k3
     rcases Xav h2 with ⟨_,e2,f2⟩ | ⟨w2,e2⟩
     · rw [e2];exact ⟨f2 _,h1,rfl⟩
     · obtain ⟨_,_,j2,j3,j4⟩:=Xyc hd hl (g:=s.2) e2
       refine ⟨?_,?_,?_⟩
       · rw [k1]
         refine Xdw (s:=s) w2 (j4 _ (by show upd s.2 dk _ d=none;rw [Xam fun e=>hne e.symm];exact j2) fun o sz xs ho=>?_)
         show upd s.2 dk _ o=_
         rw [Xam fun e=>by rw [e,k2] at ho;cases ho];exact ho
       · refine Xdw (s:=s) w1 (k3 _ ?_)
         rcases j3 with e | ⟨ob,e⟩ <;> rw [e]
         · exact k2
         · show upd s.2 d ob dk=none;rw [Xam hne];exact k2
       · rw [k1]
         rcases j3 with e | ⟨ob,e⟩ <;> rw [e]
         · rfl
         · exact Xf7 (fun e=>hne e.symm)
 · rcases Xav h1 with ⟨_,e1,f1⟩ | ⟨w1,e1⟩
   · rw [e1] at h2;exact h2
   · obtain ⟨a,k1,k2,k3⟩:=Xs4 hn e1
     rw [hdk] at k1 k2
     simp only [W3s] at k1 k2
     rcases Xav h2 with ⟨_,e2,f2⟩ | ⟨w2,e2⟩
     · exact f2 s.2
     · obtain ⟨_,_,j2,j3,j4⟩:=Xyc (s:=s) hd hl e2
       rw [k1] at j2 j4
       have j2 : upd s.2 dk (.var a) d=none:=j2
       rw [Xam fun e=>hne e.symm] at j2
       refine Xdw (s:=s) w2 (j4 s.2 j2 fun o sz xs ho=>?_)
       have ho : upd s.2 dk (.var a) o=_:=ho
       rcases Xae ho with ⟨_,e⟩ | ⟨_,e⟩
       · cases e
       · exact e
 · rcases Xav h1 with ⟨_,e1,f1⟩ | ⟨w1,e1⟩
   · rw [e1] at h2;exact h2
   · obtain ⟨_,_,j2,j3,j4⟩:=Xyc hd hl (g:=s.2) e1
     rcases Xav h2 with ⟨_,e2,f2⟩ | ⟨w2,e2⟩
     · exact f2 s.2
     · obtain ⟨a,k1,k2,k3⟩:=Xs4 (s:=(s.1,Xbe s.2 ri.2)) hn e2
       rw [hdk] at k2 k3
       simp only [W3s] at k2 k3
       refine Xdw (s:=s) w2 (k3 s.2 ?_)
       rcases j3 with e | ⟨ob,e⟩ <;> rw [e] at k2
       · exact k2
       · have k2 : upd s.2 d ob dk=none:=k2
         rwa [Xam hne] at k2
theorem Yhe {o : Oper} (ho : Yie o.op=true) {s : S} {r : AV × List (Nat × Ob)} (h : eff tb o s=some r) : ∃ sz xs,r.1=.lit sz xs:=by
 unfold eff at h
 split at h <;> try cases h
 split at h <;> try cases h
 unfold Yie at ho
 split at ho <;> try cases ho
 rename_i ho
 rw [ho] at h
 simp only [F,Fp] at h
 split at h <;> try cases h
 rename_i hq
 split at hq <;> try cases hq
 split at hq <;> try cases hq
 split at hq <;> cases hq
 exact ⟨_,_,rfl⟩
theorem ZL.aft {E : Env} {LB : List Nat} {L : List Oper} (hL : Xtn E LB L=true) {o : Oper} (ho : o∈L) {s : S} (hz : ZL LB s) {r : AV × List (Nat × Ob)} (hr : r.1=.un∨Xal o=true∨eff tb o s=some r) : ZL LB (aft s o r):=fun b hb=>by
 by_cases hd : o.dst=some b
 · rw [Yho hd]
   simp only [Xtn,W0f] at hL
   have:=W1k.1 hL.2 o ho
   rw [hd] at this
   simp only [hb,Bool.not_true,Bool.false_or] at this
   rcases hr with hr | hr | hr
   · rw [hr];exact .inr (.inl rfl)
   · obtain ⟨x,asx,tys,hc⟩:=Xhj hr
     rw [hc] at this;cases this
   · obtain ⟨sz,xs,e⟩:=Yhe this hr
     rw [e];exact .inr (.inr ⟨_,_,rfl⟩)
 · rw [Ykg hd];exact hz b hb
def spL (LB : List Nat) (L : List Oper) (E : Env) (T : Trk) (k i : Oper) : Bool:=Yf4 LB L (dsL L) E T k i || Yf4 LB L (dsL L) E T i k || Ydw LB L k i || Ydw LB L i k
def Ylm : St→Bool
 | .o _ _ L _ _ E _=>Xtn E (Yid L) L && Xkr (dsL L) E (trk (dsL L) E L []) L && Xf1 L (spL (Yid L) L E (trk (dsL L) E L [])) [] [] L
 | _=>false
theorem Dm.lit {L : List Oper} {E : Env} {T : Trk} {LB : List Nat} (hL : Xtn E LB L=true) (hT : Xkr (dsL L) E T L=true) : Dm tb L (spL LB L E T) fun s=>ZT (dsL L) E T s∧ZL LB s:=by
 have fin : ∀ {k i : Oper} {s : S} {rk ri : AV × List (Nat × Ob)},Xbt L i.dst k=true→Xbe (Xbe s.2 ri.2) rk.2=Xbe (Xbe s.2 rk.2) ri.2→Vm.aft (Vm.aft s i ri) k rk=Vm.aft (Vm.aft s k rk) i ri:=by
  intro k i s rk ri h hg
  unfold Vm.aft
  rw [S.put_g,S.put_g,hg]
  have e1:=S.put_e (s:=s) (g:=Xbe s.2 ri.2) (g':=s.2) (d:=i.dst) (v:=ri.1)
  have e2:=S.put_e (s:=s) (g:=Xbe s.2 rk.2) (g':=s.2) (d:=k.dst) (v:=rk.1)
  rw [e1,e2]
  exact Xjn (s:=s) (fun a b ha hb=>Xe9 h ha hb) rfl
 have one : ∀ {k i : Oper} {s : S} {rk ri : AV × List (Nat × Ob)},Yf4 LB L (dsL L) E T k i=true→ZT (dsL L) E T s∧ZL LB s→efw tb L k s=some rk→efw tb L i s=some ri→efw tb L i (Vm.aft s k rk)=some ri∧efw tb L k (Vm.aft s i ri)=some rk∧Vm.aft (Vm.aft s i ri) k rk=Vm.aft (Vm.aft s k rk) i ri:=by
  intro k i s rk ri h hz h1 h2
  obtain ⟨c1,a1,a2,_,hh⟩:=Xe5 (tb:=tb) h
  obtain ⟨b1,b2⟩:=hh hz.1 hz.2
  have e:=b1 h1
  exact ⟨by rw [Xbf a1,e];exact h2,by rw [Xbf a2];exact (b2 (g:=s.2) h2 rk).1 h1,fin a2 (by rw [e];rfl)⟩
 have two : ∀ {k i : Oper} {s : S} {rk ri : AV × List (Nat × Ob)},Ydw LB L k i=true→ZL LB s→efw tb L k s=some rk→efw tb L i s=some ri→efw tb L i (Vm.aft s k rk)=some ri∧efw tb L k (Vm.aft s i ri)=some rk∧Vm.aft (Vm.aft s i ri) k rk=Vm.aft (Vm.aft s k rk) i ri:=by
  intro k i s rk ri h hz h1 h2
  obtain ⟨_,_,a1,a2,_⟩:=Xii h
  obtain ⟨b1,b2,b3⟩:=(Xjr (tb:=tb) h hz).1 h1 h2
  exact ⟨by rw [Xbf a1];exact b1,by rw [Xbf a2];exact b2,fin a2 b3⟩
 have ncA : ∀ {i : Oper} {d : Nat},apD LB i=some d→Xal i=false:=fun {i d} h=>by
  unfold apD at h
  split at h <;> try cases h
  rename_i h1 h2
  unfold Xal;rw [h1];rfl
 refine ⟨fun {k i} h=>?_,fun {k i s rk ri} h hz h1 h2=>?_,fun {k i s rk ri} h hz h1 h2=>?_,fun {k s r} hk hc hz h=>?_,fun {k s r} hk hc hz h=>⟨ZT.aft (tb:=tb) hT hk hz.1 (.inr (.inl hc)),ZL.aft (tb:=tb) hL hk hz.2 (.inr (.inl hc))⟩⟩
 · simp only [spL,W3o] at h
   rcases h with ((h | h) | h) | h
   · obtain ⟨c1,_,_,⟨d,hd⟩,_⟩:=Xe5 (tb:=tb) h;exact ⟨c1,ncA hd⟩
   · obtain ⟨c1,_,_,⟨d,hd⟩,_⟩:=Xe5 (tb:=tb) h;exact ⟨ncA hd,c1⟩
   · obtain ⟨_,c1,_,_,dk,d,_,hd⟩:=Xii h;exact ⟨c1,ncA hd⟩
   · obtain ⟨_,c1,_,_,dk,d,_,hd⟩:=Xii h;exact ⟨ncA hd,c1⟩
 · simp only [spL,W3o] at h
   rcases h with ((h | h) | h) | h
   · exact one h hz h1 h2
   · obtain ⟨p1,p2,p3⟩:=one h hz h2 h1;exact ⟨p2,p1,p3.symm⟩
   · exact two h hz.2 h1 h2
   · obtain ⟨p1,p2,p3⟩:=two h hz.2 h2 h1;exact ⟨p2,p1,p3.symm⟩
 · simp only [spL,W3o] at h
   rcases h with ((h | h) | h) | h
   · obtain ⟨c1,a1,a2,_,hh⟩:=Xe5 (tb:=tb) h
     rw [Xbf a1,(hh hz.1 hz.2).1 h1] at h2
     exact h2
   · obtain ⟨c1,a1,a2,_,hh⟩:=Xe5 (tb:=tb) h
     rw [Xbf a2] at h2
     exact ((hh hz.1 hz.2).2 (g:=s.2) h1 ri).2 h2
   · obtain ⟨_,_,a1,a2,_⟩:=Xii h
     rw [Xbf a1] at h2
     exact (Xjr (tb:=tb) h hz.2).2.1 h1 h2
   · obtain ⟨_,_,a1,a2,_⟩:=Xii h
     rw [Xbf a2] at h2
     exact (Xjr (tb:=tb) h hz.2).2.2 h1 h2
 · have hr : r.1=.un∨Xal k=true∨eff tb k s=some r:=by
    rcases Xav h with ⟨hw,_,e⟩ | ⟨_,e⟩
    · refine .inl ?_
      unfold efw at h
      rw [hw] at h
      simp only at h
      split at h <;> cases h
      rfl
    · exact .inr (.inr e)
   exact ⟨ZT.aft (tb:=tb) hT hk hz.1 hr,ZL.aft (tb:=tb) hL hk hz.2 hr⟩
end
section
variable {c : Cx} {s : St}
theorem Dl {s' : St} (h : nxD c.tb c.n s=some s') (k : StP c s') (hchk : Ylm s'=true:=by exact rfl) : StP c s:=by
 unfold nxD at h
 split at h <;> try cases h
 rename_i hr
 split at h <;> cases h
 rename_i hok
 simp only [Ylm,W0f] at hchk
 obtain ⟨⟨h1,h2⟩,h3⟩:=hchk
 refine go 1000 hr (J.draw (Dm.lit h1 h2) ⟨ZT.start h2,fun b hb=>.inl ?_⟩ hok h3 k)
 simp only [Xtn,W0f] at h1
 have:=W1k.1 h1.1 b (Yjt.1 hb)
 rw [W1t] at this
 exact Xbj this
variable {p : Pl}
noncomputable def nxQ (tb : Nat→Option TI) (n : Nat) (s : St) : Option (Pl × Nat × Nat × Nat × Nat × List D × AV):=match nxA tb n s with
 | some (p,o,[a,b])=>match o.op with
  | .call ⟨.builtin .append,_,⟨[T,T']⟩⟩=>match Nat.beq T T',tb T,look p.H (o.dst.getD 0) with
   | true,some ti,none=>match Nat.ble ti.eb 128,ti.z,b with
    | true,.sl sz _,.own q s l m=>match look p.H q with
     | some (.arr s' xs)=>match Nat.beq s sz && Nat.beq s' sz with
      | true=>some (p,o.dst.getD 0,sz,l,m,xs,a)
      | false=>none
     | _=>none
    | true,.sl sz _,.ow3 q s l m=>match look p.H q with
     | some (.arr s' xs)=>match Nat.beq s sz && Nat.beq s' sz with
      | true=>some (p,o.dst.getD 0,sz,l,m,xs,a)
      | false=>none
     | _=>none
    | _,_,_=>none
   | _,_,_=>none
  | _=>none
 | _=>none
theorem Xs1 {d sz l m : Nat} {xs ys : List D} {a v : AV} {us : Hpl} (h : nxQ c.tb c.n s=some (p,d,sz,l,m,xs,a)) (hl : l+m≤xs.length) (hy : (xs.drop l).take m=ys) (hF : ∀ ti : TI,ti.eb≤128→Xp8 d (look p.H) ti sz ys a=some (v,us)) (k : p.nx' c v us) : StP c s:=by
 unfold nxQ at h
 split at h <;> try cases h
 rename_i p' o a' b hA
 split at h <;> try cases h
 rename_i asx T T' ho
 split at h <;> try cases h
 rename_i ti hT hti hd
 have hT:=W0e hT
 subst hT
 have fin : ∀ {sz' xs0},ti.eb≤128→ti.z=.sl sz' xs0→Xmm (look p'.H) ti.z sz' b=some ys→(p',o.dst.getD 0,sz',a')=(p,d,sz,a)→StP c s:=by
  intro sz' xs0 he hz hs e
  injection e with e1 e2;injection e2 with e2 e3;injection e3 with e3 e4
  subst e1;subst e2;subst e3;subst e4
  refine Xby hA ?_ k
  rw [ho]
  simp only [F,if_true,hti,hd,hz]
  rw [hz] at hs
  rw [hs]
  exact hF ti he
 split at h
 · rename_i he hz
   split at h <;> try cases h
   rename_i hq
   split at h <;> cases h
   rename_i hs
   rw [W0f] at hs
   have h1:=W0e hs.1
   have h2:=W0e hs.2
   exact fin (W1w he) hz (by simp only [Xmm,hq];rw [if_pos ⟨h2,h1,hl⟩,hy]) rfl
 · rename_i he hz
   split at h <;> try cases h
   rename_i hq
   split at h <;> cases h
   rename_i hs
   rw [W0f] at hs
   have h1:=W0e hs.1
   have h2:=W0e hs.2
   exact fin (W1w he) hz (by simp only [Xmm,hq];rw [if_pos ⟨h2,h1,hl⟩,hy]) rfl
 · cases h
theorem AqN {d sz l m : Nat} {xs : List D} (zs : List D) (h : nxQ c.tb c.n s=some (p,d,sz,l,m,xs,.nil)) (hl : l+m≤xs.length) (hz : (xs.drop l).take m=zs) (hr : zs.length≤1099511627776) (k : p.nx' c (.gr d sz zs) [(d,.tok zs.length sz)]) : StP c s :=
 Xs1 h hl hz (fun ti he=>by simp [Xp8,Xcb hr he]) k
theorem Aq3 {d sz o n l m : Nat} {xs ws : List D} (zs : List D) (h : nxQ c.tb c.n s=some (p,d,sz,l,m,xs,.ow3 o sz 0 n)) (ht : look p.H o=some (.arr sz ws)) (hl : l+m≤xs.length) (hn : n≤ws.length) (hz : ws.take n++(xs.drop l).take m=zs) (h0 : 0<m) (hr : zs.length≤1099511627776) (k : p.nx' c (.own d sz 0 zs.length) [(d,.arr sz zs)]) : StP c s:=by
 subst hz
 have e1 : ((xs.drop l).take m).length=m:=by simp;omega
 have e : (ws.take n++(xs.drop l).take m).length=n+m:=by rw [W0c,e1,W0j];omega
 rw [e] at hr k
 refine Xs1 h hl rfl (fun ti he=>?_) k
 simp only [Xp8,ht]
 rw [if_pos ⟨by rw [e1];exact Xcb hr he,rfl,hn,rfl,rfl⟩,if_neg (by omega),e1]
theorem Ylr {d sz o n l m : Nat} {xs ws : List D} (h : nxQ c.tb c.n s=some (p,d,sz,l,m,xs,.ow3 o sz 0 n)) (ht : look p.H o=some (.arr sz ws)) (hl : l+m≤xs.length) (hn : n≤ws.length) (h0 : m=0) (hr : n≤1099511627776) (k : p.nx' c (.ow3 o sz 0 n) []) : StP c s:=by
 subst h0
 refine Xs1 (ys:=[]) h hl (W4y) (fun ti he=>?_) k
 simp only [Xp8,ht,W4n,W2i]
 rw [if_pos ⟨Xcb hr he,rfl,hn,rfl,rfl⟩,if_pos trivial]
end
end Go.Vm
namespace Go.Proofs.YtclmecgphleeeaaGreatDoor.R9
open Go Go.Vm Go.Num Go.Tow Go.Proofs.YtclmecgphleeeaaGreatDoor
theorem Ykx {a i : Nat} (hi : i≤63) : arB .shr .i64 a i (a / 2 ^ i : Nat):=show _∧_ from ⟨by omega,by
 rw [show min (Int.toNat (i : Int)) (IntKind.bits .i64)=i by show min (Int.toNat (i : Int)) 64=i;omega,W1n _ (Int.pow_nonneg (by decide)),show (2 : Int) ^ i=((2 ^ i : Nat) : Int) by simp]
 exact (Int.natCast_ediv _ _).symm⟩
theorem Yk0 {a : Nat} : arB .rem .i64 a 2 (a % 2 : Nat):=show _∧_ from ⟨by decide,Xq6 a 2⟩
theorem num0 {x : Rat} : Xa1 x.num 0≠0↔x≠0:=by
 rw [Xgd]
 rcases Xa5 x with ⟨h,e⟩ | ⟨h,e⟩ | ⟨h,e⟩ <;> rw [e]
 · exact ⟨fun _ e=>by rw [e] at h;exact absurd h (by decide),fun _=>by decide⟩
 · exact ⟨fun h=>absurd rfl h,fun h'=>absurd h h'⟩
 · exact ⟨fun _ e=>by rw [e] at h;exact absurd h (by decide),fun _=>by decide⟩
theorem Xsy {l : List Rat} {p i : Nat} (hl : Ps p l) (hp : p≤8796093022208) (hi : i≤63) (hn : l.length≤1048576) : C0 64 [.d (dqs l),.d (.int .i64 i)] (·=.b (dc (oc l i))):=by
 refine En Tryz.func64 fun _ _ _=>?_
 refine Lo (fun k : Nat=>[(0,.d (dqs l)),(1,.d (.int .i64 i)),(5,.d (.int .i64 k))]) (fun _=>[]) (fun k=>k≤l.length∧∀ q x,q<k→l[q]?=some x→q / 2 ^ i % 2=1→x=0) (fun k=>l.length - k) 0 [] rfl ⟨by omega,fun q x h=>by omega⟩ fun k ⟨hk,ht⟩=>?_
 refine By rfl (fun h=>?_) fun h=>?_ <;> simp only [lq] at h
 · obtain ⟨x,hx⟩:=qat (l:=l) (k:=k) (by omega)
   have next : (k / 2 ^ i % 2=1→x=0)→k+1≤l.length∧∀ q y,q<k+1→l[q]?=some y→q / 2 ^ i % 2=1→y=0:=fun h1=>⟨by omega,fun q y hq hy hb=>by
    by_cases e : q=k
    · subst e;rw [hx] at hy;injection hy with hy;rw [←hy];exact h1 hb
    · exact ht q y (by omega) hy hb⟩
   refine Ar (k / 2 ^ i : Nat) rfl ?_ (Ykx hi)
   refine Ar (k / 2 ^ i % 2 : Nat) rfl ?_ Yk0
   refine By rfl (fun h1=>?_) fun h1=>?_
   · refine Ix k rfl (mp hx) ?_
     refine Ce rfl (R2.Sign_ok (hl x (W0l hx)) hp) ?_
     refine By rfl (fun h2=>?_) fun h2=>?_
     · exact R1 rfl (.bp ⟨fun _=>⟨k,x,hx,by omega,num0.1 h2⟩,fun _=>rfl⟩)
     · refine Ar (k+1 : Nat) rfl ?_
       exact Bk (k+1) [] rfl (next fun _=>W0y fun h3=>h2 (num0.2 h3)) (by show l.length - (k+1)<l.length - k;omega)
   · refine Ar (k+1 : Nat) rfl ?_
     exact Bk (k+1) [] rfl (next fun h3=>absurd (by omega) h1) (by show l.length - (k+1)<l.length - k;omega)
 · exact R1 rfl (.bp ⟨nofun,fun ⟨q,x,h1,h2,h3⟩=>absurd (ht q x (by have:=(W1a.1 h1).1;omega) h1 h2) h3⟩)
theorem Xrb {α : Type} {l : List α} {k i : Nat} {x : α} (hx : l[k]?=some x) : wo (l.take (k+1)) i=wo (l.take k) i++(if k / 2 ^ i % 2=0 then [x] else []):=by
 have hk:=(W1a.1 hx).1
 unfold wo
 rw [W2b,hx,Xmf,W0j,W1q (by omega),W1i]
 rfl
theorem Xqc {l : List Rat} {i : Nat} (hi : i≤63) (hn : l.length≤1048576) : C0 65 [.d (dqs l),.d (.int .i64 i)] (·=.d (dqs (wo l i))):=by
 have hlen : ∀ k,(wo (l.take k) i).length≤k:=fun k=>by
  induction k with
  | zero=>simp [wo,woA]
  | succ k ih =>
   by_cases h : k<l.length
   · rw [Xrb (W0d h),W0c]
     split <;> simp <;> omega
   · rw [W0b (by omega)]
     rw [W0b (by omega)] at ih;omega
 refine En Tryz.func65 fun _ _ _=>?_
 refine Nl 5 5 4 rfl ?_
 refine Lo (fun k : Nat=>[(0,.d (dqs l)),(1,.d (.int .i64 i)),(5,.gr 5 4 ((wo (l.take k) i).map dq)),(6,.d (.int .i64 k))]) (fun k=>[(5,.tok ((wo (l.take k) i).map dq).length 4)]) (fun k=>k≤l.length) (fun k=>l.length - k) 0 [] rfl (by omega) fun k hk=>?_
 refine By rfl (fun h=>?_) fun h=>?_ <;> simp only [lq] at h
 · obtain ⟨x,hx⟩:=qat (l:=l) (k:=k) (by omega)
   have hw:=Xrb (i:=i) hx
   have hl:=hlen (k+1)
   refine Ar (k / 2 ^ i : Nat) rfl ?_ (Ykx hi)
   refine Ar (k / 2 ^ i % 2 : Nat) rfl ?_ Yk0
   refine By rfl (fun h1=>?_) fun h1=>?_
   · rw [if_pos (by omega)] at hw
     refine Ix k rfl (mp hx) ?_
     refine ApG ((wo (l.take (k+1)) i).map dq) rfl (by rw [hw];simp) (by simp;omega) ?_
     refine Ar (k+1 : Nat) rfl ?_
     exact Bk (k+1) [(24,5)] rfl (show k+1≤l.length by omega) (by show l.length - (k+1)<l.length - k;omega)
   · rw [if_neg (by omega),W3i] at hw
     refine Ar (k+1 : Nat) rfl ?_
     exact Bk (k+1) [] rfl (show k+1≤l.length by omega) (by show l.length - (k+1)<l.length - k;omega) (by exact ⟨by rw [hw];rfl,by rw [hw];rfl,rfl,rfl,rfl⟩)
 · rw [W0b (by omega)]
   exact R1 rfl (.gr rfl)
end Go.Proofs.YtclmecgphleeeaaGreatDoor.R9
namespace Go.Tow
open Go Go.Num Go.Proofs.YtclmecgphleeeaaGreatDoor
def nd (x : Nm) (i : Nat) : Prop:=oc (toL x.k x.a) i∨∃ q l,i<q∧(toT x.k x.t)[q]?=some l∧oc l i
def Tm (x : Nm) : Prop:=∀ i,i<x.k→nd x i
theorem Yak {α : Type} {i : Nat} {l : List α} : ∀ {p n : Nat} {x : α},l[n]?=some x→(p+n) / 2 ^ i % 2=0→x∈woA i p l:=by
 induction l with
 | nil=>intro p n x h;simp at h
 | cons y l ih =>
  intro p n x h hb
  cases n with
  | zero =>
   simp at h
   subst h
   simp only [woA]
   rw [if_pos (by simpa using hb)];exact W0q ..
  | succ n =>
   have:=ih (p:=p+1) (n:=n) (x:=x) (by simpa using h) (by rw [←hb];congr 2;omega)
   simp only [woA]
   split
   · exact W0z _ this
   · exact this
theorem Ybd {k i : Nat} {b : El (k+1)} (hi : i≤k) (ho : ¬ oc (toL (k+1) b) i) (h : rm k i b=zero k) : b=zero (k+1):=(Xap (k+1) b).2 fun x hx=>W0y fun h0=>by
 obtain ⟨p,hp⟩:=W2u hx
 by_cases hb : p / 2 ^ i % 2=1
 · exact ho ⟨p,x,hp,hb,h0⟩
 · have h1 : x∈woA i 0 (toL (k+1) b):=Yak hp (by rw [W1i];omega)
   have h2 : toL k (rm k i b)=woA i 0 (toL (k+1) b):=Xey hi
   rw [←h2,h] at h1
   exact h0 ((Xap k (zero k)).1 rfl x h1)
theorem Yfj {k : Nat} {a : El (k+1)} (h : a.2≠zero k) : oc (toL (k+1) a) k:=W0y fun ho=>h ((Xc3 ho).1 rfl)
theorem Ybr {k i : Nat} {a : El (k+1)} (hi : i<k) (h : oc (toL k a.1) i) : oc (toL (k+1) a) i:=W0y fun ho=>((Xc3 ho).2 hi).1 h
theorem Xw0 {k i : Nat} {a : El (k+1)} (hi : i<k) (h : oc (toL k a.2) i) : oc (toL (k+1) a) i:=W0y fun ho=>((Xc3 ho).2 hi).2 h
theorem Xzm {k i : Nat} {a : El k} (h : k≤i) : ¬ oc (toL k a) i:=fun ⟨p,x,h1,h2,_⟩=>by
 have:=(W1a.1 h1).1
 rw [Xab] at this
 rw [W4h (W0r this (W0h (by decide) h))] at h2
 cases h2
theorem Xwz {k i : Nat} {a : El (k+1)} (h : oc (toL (k+1) a) i) : oc (toL k a.1) i∨oc (toL k a.2) i∨(i=k∧a.2≠zero k):=by
 obtain ⟨p,x,h1,h2,h3⟩:=h
 have h1 : (toL k a.1++toL k a.2)[p]?=some x:=h1
 by_cases hp : p<2 ^ k
 · rw [W0x (by rw [Xab];exact hp)] at h1
   exact .inl ⟨p,x,h1,h2,h3⟩
 · rw [W0u (by rw [Xab];omega),Xab] at h1
   have hlt:=(W1a.1 h1).1
   rw [Xab] at hlt
   by_cases hik : i<k
   · refine .inr (.inl ⟨p - 2 ^ k,x,h1,?_,h3⟩)
     obtain ⟨d,hd⟩ : ∃ d,k=i+1+d:=⟨k - i - 1,by omega⟩
     have e : p=p - 2 ^ k+2 ^ i*(2*2 ^ d):=by
      have : 2 ^ k=2 ^ i*(2*2 ^ d):=by rw [hd,W0v,W0p,W0o]
      omega
     rw [e,W6n _ _ (W0t i),W5b] at h2
     exact h2
   · by_cases e : i=k
     · exact .inr (.inr ⟨e,fun h0=>h3 ((Xap k a.2).1 h0 x (W0l h1))⟩)
     · exfalso
       have : p<2 ^ i:=W0r (show p<2 ^ (k+1) by rw [W0p];omega) (W0h (by decide) (by omega))
       rw [W4h this] at h2
       cases h2
theorem Yfk : ∀ {k i j : Nat} {a : El (k+1)},i≤j→j<k→¬ oc (toL (k+1) a) i→oc (toL (k+1) a) (j+1)→oc (toL k (rm k i a)) j:=by
 intro k
 induction k with
 | zero=>intro i j a _ h;omega
 | succ k ih =>
  intro i j a hij hj hno h
  obtain ⟨n1,n2⟩:=(Xc3 hno).2 (show i<k+1 by omega)
  rw [show rm (k+1) i a=pr (rm k i a.1) (rm k i a.2) from if_neg (by omega)]
  rcases Xwz h with h | h | ⟨h,h0⟩
  · have hjk : j<k:=by
     by_cases e : j<k
     · exact e
     · exact absurd h (Xzm (by omega))
    exact Ybr hjk (ih hij hjk n1 h)
  · have hjk : j<k:=by
     by_cases e : j<k
     · exact e
     · exact absurd h (Xzm (by omega))
    exact Xw0 hjk (ih hij hjk n2 h)
  · obtain rfl : j=k:=by omega
    exact Yfj fun e=>h0 (Ybd hij n2 e)
theorem Yfr {m i j : Nat} {T : Tw (m+1)} {c : El (m+1)} (hi : i≤m) (hno : ¬ nd ⟨m+1,T,c⟩ i) (hij : i≤j) (hj : j<m) (h : nd ⟨m+1,T,c⟩ (j+1)) : nd ⟨m,rmT m i T,rm m i c⟩ j:=by
 rcases h with h | ⟨q,l,hq,hl,ho⟩
 · exact .inl (Yfk hij hj (fun e=>hno (.inl e)) h)
 · have hqm : q<(toT (m+1) T).length:=(W1a.1 hl).1
   rw [Xaa] at hqm
   obtain ⟨e,e1,_,_⟩:=Tw.at (t:=T) hqm
   have hl : (toT (m+1) T)[q]?=some l:=hl
   rw [hl] at e1
   injection e1 with e1
   subst e1
   have hn : ¬ oc (toL q e) i:=fun h=>hno (.inr ⟨q,_,by omega,hl,h⟩)
   obtain ⟨q,rfl⟩ : ∃ q',q=q'+1:=⟨q - 1,by omega⟩
   refine .inr ⟨q,wo (toL (q+1) e) i,by omega,?_,?_⟩
   · show (toT m (rmT m i T))[q]?=_
     rw [Xi8 hi,W0u (by rw [W0j,Xaa];omega),W0j,Xaa,W1q (by omega),W1s,W2d,show i+1+(q - i)=q+1 by omega,hl]
     rfl
   · rw [←Xey (show i≤q by omega)]
     exact Yfk hij (by omega) hn ho
end Go.Tow
namespace Go.Proofs.YtclmecgphleeeaaGreatDoor.R9
open Go Go.Vm Go.Num Go.Tow Go.Proofs.YtclmecgphleeeaaGreatDoor
section
def wl (i j : Nat) (zs : List (List Rat)) : List (List Rat):=zs.mapIdx fun q r=>if i<q∧q<j then wo r i else r
theorem Xgp {i j q : Nat} {zs : List (List Rat)} : (wl i j zs)[q]?=zs[q]?.map fun r=>if i<q∧q<j then wo r i else r:=by unfold wl;rw [List.getElem?_mapIdx]
theorem Xet {i j : Nat} {zs : List (List Rat)} : (wl i j zs).length=zs.length:=by unfold wl;simp
theorem Xn3 {i : Nat} {zs : List (List Rat)} : wl i (i+1) zs=zs:=W3w fun q=>by
 rw [Xgp]
 cases zs[q]? with
 | none=>rfl
 | some r=>simp only [W4o];rw [if_neg (by omega)]
theorem Xyp {i j : Nat} {zs : List (List Rat)} {r : List Rat} (hi : i<j) (h : zs[j]?=some r) : (wl i j zs).set j (wo r i)=wl i (j+1) zs:=W3w fun q=>by
 have hj:=(W1a.1 h).1
 rw [Xgp,List.getElem?_set]
 by_cases e : j=q
 · subst e
   rw [if_pos rfl,if_pos (by rw [Xet];exact hj),h,W4o,if_pos ⟨hi,by omega⟩]
 · rw [if_neg e,Xgp]
   cases zs[q]? with
   | none=>rfl
   | some r=>simp only [W4o];congr 1;split <;> split <;> first | rfl | omega
theorem Xyq {m i : Nat} {T : Tw (m+1)} {zs : List (List Rat)} (hz : zs.take (m+1)=toT (m+1) T) (hi : i≤m) : (wl i (m+1) zs).take i++((wl i (m+1) zs).drop (i+1)).take (m+1 - (i+1))=toT m (rmT m i T):=by
 rw [Xi8 hi,←hz]
 congr 1
 · refine W3w fun q=>?_
   rw [W1c,W1c,W1c,Xgp]
   split
   · rw [if_pos (by omega)]
     cases zs[q]? with
     | none=>rfl
     | some r=>simp only [W4o];rw [if_neg (by omega)]
   · rfl
 · refine W3w fun q=>?_
   rw [W1c,W2d,W1s,W2d,W1c,Xgp]
   split
   · rw [if_pos (by omega)]
     cases zs[i+1+q]? with
     | none=>rfl
     | some r=>simp only [W4o];rw [if_pos (by omega)]
   · rw [if_neg (by omega)];rfl
open Classical in
noncomputable def trS (n : Nat) (z : Nm) : Nm:=if nd z n then z else match z with
 | ⟨0,t,a⟩=>⟨0,t,a⟩
 | ⟨m+1,t,a⟩=>⟨m,rmT m n t,rm m n a⟩
noncomputable def trF : Nat→Nm→Nm
 | 0,z=>z
 | n+1,z=>trF n (trS n z)
theorem Xi7 {n : Nat} {z : Nm} (h : nd z n) : trF (n+1) z=trF n z:=congrArg (trF n) (if_pos h)
theorem Xrk {n m : Nat} {t : Tw (m+1)} {a : Tow.El (m+1)} (h : ¬ nd ⟨m+1,t,a⟩ n) : trF (n+1) ⟨m+1,t,a⟩=trF n ⟨m,rmT m n t,rm m n a⟩:=congrArg (trF n) (if_neg h)
section
variable {K : Nat} {G : Tw K} {S : List (Tow.El K)} {r p : Nat} {x : Nm} {v : Tow.El K}
structure Tst where
 n : Nat
 kd : Nat
 z : Nm
 zs : List (List Rat)
def Als (P : Rat→Prop) (z : Nm) : Prop:=(∀ q∈toL z.k z.a,P q)∧∀ l∈toT z.k z.t,∀ q∈l,P q
def TI (y : Nm) (P : Rat→Prop) (G : Tw K) (S : List (Tow.El K)) (r p : Nat) (v : Tow.El K) (s : Tst) : Prop:=(NOk G S r p s.z v∧Als P s.z∧trF s.n s.z=y)∧s.n≤s.z.k∧s.zs.take s.z.k=toT s.z.k s.z.t∧(s.kd=0→s.z.k=0)∧(s.kd=1→s.zs.length=s.z.k)∧(3≤s.kd→s.n=0∧s.zs.length=s.z.k)∧∀ j,s.n≤j→j<s.z.k→nd s.z j
abbrev TH (s : Tst) : Hpl:=(2,.var (.st (.pr .nil .nil)))::match s.kd with
 | 0=>[(3,.var (.st (.pr (.lit 1 []) (.d (de s.z.a)))))]
 | 1=>[(3,.var (.st (.pr (.own 11 1 0 (s.zs.map dqs).length) (.d (de s.z.a))))),(11,.arr 1 (s.zs.map dqs))]
 | 2=>[(3,.var (.st (.pr (.ow3 11 1 0 s.z.k) (.d (de s.z.a))))),(11,.arr 1 (s.zs.map dqs))]
 | _=>[(3,.var (.st (.pr (.gr 11 1 (s.zs.map dqs)) (.d (de s.z.a))))),(11,.tok (s.zs.map dqs).length 1)]
abbrev TH' (kd m : Nat) (c : List Rat) (zs ws : List (List Rat)) : Hpl:=(2,.var (.st (.pr .nil .nil)))::match kd with
 | 1=>[(3,.var (.st (.pr (.own 11 1 0 (zs.map dqs).length) (.d (dqs c))))),(11,.arr 1 (ws.map dqs))]
 | _=>[(3,.var (.st (.pr (.ow3 11 1 0 (m+1)) (.d (dqs c))))),(11,.arr 1 (ws.map dqs))]
theorem Xl6 {P : Rat→Prop} (hP : Als P x) (hG : red K G) (hS : S.length≤3) (hx : NOk G S r p x v) (hr : r≤8796093022208) (hp : p≤8796093022208) : C0 32 [.d (dN x)] fun w=>∃ z : Nm,w=.d (dN z)∧NOk G S r p z v∧(Tm z∧Als P z)∧z=trF x.k x:=by
 have hGr:=Xag hG
 have hk3:=hx.le hGr hS
 obtain ⟨k,t,a⟩:=x
 obtain ⟨y,hy⟩ : ∃ y,trF k ⟨k,t,a⟩=y:=⟨_,rfl⟩
 have hk3 : k≤3:=hk3
 have hlen:=Xaa k t
 refine En Tryz.func32 fun _ _ _=>?_
 refine Dl rfl ?_
 by_cases k0 : k=0
 · subst k0
   refine ApE rfl rfl (by decide) ?_
   refine Ar (-1) rfl ?_ (show arB .sub .i64 0 1 (-1) from wr rfl (by simp [inK]))
   refine Lo (fun (s : Tst)=>[(2,.ptr 2 0),(3,.ptr 3 0),(4,.d (.int .i64 ((s.n : Int) - 1)))]) (fun s=>TH s) (fun s=>TI y P G S r p v s∧s.kd=0∧s.n=0) (fun s=>s.n) ⟨0,0,⟨0,t,a⟩,[]⟩ [] rfl ⟨⟨⟨hx,hP,hy⟩,W0a _,rfl,fun _=>rfl,nofun,fun h=>absurd h (show ¬ 3≤0 by decide),fun j _ hj=>absurd hj (W5h _)⟩,rfl,rfl⟩ (fun ⟨n,kd,⟨m,T,c⟩,zs⟩ hI=>?_)
   obtain ⟨⟨⟨h1,hF⟩,h2,h3,h4,h5,h6,h8⟩,rfl,rfl⟩:=hI
   obtain rfl:=h4 rfl
   refine No rfl (show ¬ ((0 : Nat) : Int) - 1 ≥ 0 by decide) ?_
   exact Rt rfl (.one (.sd (.pd (.lit rfl) (.eq rfl))) rfl rfl) ⟨_,rfl,h1,⟨fun i hi=>absurd hi (W5h _),hF.1⟩,hF.2.trans hy.symm⟩
 · refine ApL ((toT k t).map dqs) rfl rfl (by simp [hlen];omega) (by simp [hlen];omega) ?_
   refine Ar (k - 1) rfl ?_ (wr (by simp [hlen]) (by simp only [inK];omega))
   refine Lo (fun (s : Tst)=>[(2,.ptr 2 0),(3,.ptr 3 0),(4,.d (.int .i64 ((s.n : Int) - 1)))]) (fun s=>TH s) (fun s=>TI y P G S r p v s∧s.kd≠0) (fun s=>s.n) ⟨k,1,⟨k,t,a⟩,toT k t⟩ [] rfl ⟨⟨⟨hx,hP,hy⟩,W0a _,W0b (by rw [hlen];exact W0a _),nofun,fun _=>hlen,fun h=>absurd h (show ¬ 3≤1 by decide),fun j h1 h2=>absurd h2 (W5w.2 h1)⟩,show 1≠0 by decide⟩ (fun ⟨n,kd,⟨m,T,c⟩,zs⟩ hI=>?_)
   obtain ⟨⟨⟨h1,hF⟩,h2,h3,h4,h5,h6,h8⟩,h7⟩:=hI
   simp only at h1 h2 h3 h4 h5 h6 h7 h8
   have hm3 : m≤3:=h1.le hGr hS
   have hT : TS r m T:=h1.r
   have hc : Sz p (toL m c):=h1.p
   have hcl:=Xab m c
   have hpm:=p16 (show m≤16 by omega)
   have hTl:=Xaa m T
   have hzl : m≤zs.length:=by have:=congrArg List.length h3;rw [W0j,hTl] at this;omega
   cases n with
   | zero =>
    refine No rfl (show ¬ ((0 : Nat) : Int) - 1 ≥ 0 by decide) ?_
    match kd,h5,h6,h7 with
    | 1,h5,_,_ =>
     exact Rt rfl (.one (.sd (.pd (.own rfl (by omega) (by rw [W1f,W2r,←h3,W0b (by omega)])) (.eq rfl))) rfl rfl) ⟨⟨m,T,c⟩,rfl,h1,⟨fun i hi=>h8 i (W1d _) hi,hF.1⟩,hF.2.trans hy.symm⟩
    | 2,_,_,_ =>
     exact Rt rfl (.one (.sd (.pd (.ow3 rfl (by simp;omega) (by rw [W1f,←W2g,h3])) (.eq rfl))) rfl rfl) ⟨⟨m,T,c⟩,rfl,h1,⟨fun i hi=>h8 i (W1d _) hi,hF.1⟩,hF.2.trans hy.symm⟩
    | kd+3,_,h6,_ =>
     exact Rt rfl (.one (.sd (.pd (.gr (by rw [←h3,W0b (by have:=(h6 (by omega)).2;omega)])) (.eq rfl))) rfl rfl) ⟨⟨m,T,c⟩,rfl,h1,⟨fun i hi=>h8 i (W1d _) hi,hF.1⟩,hF.2.trans hy.symm⟩
   | succ i =>
    obtain ⟨m,rfl⟩ : ∃ m',m=m'+1:=⟨m - 1,by omega⟩
    have hkd : kd=1∨kd=2:=by
     have : ¬ 3≤kd:=fun h=>by have:=(h6 h).1;omega
     omega
    let need : Nat→Nat→Prop:=fun i j=>oc (toL (m+1) c) i∨∃ q l,i<q∧q<j∧(toT (m+1) T)[q]?=some l∧oc l i
    have need0 : dc (oc (toL (m+1) c) i)=true↔need i (i+1):=by
     rw [Xaw];exact ⟨.inl,fun h=>h.elim id fun ⟨q,l,a1,a2,_⟩=>by omega⟩
    have needS : ∀ {j : Nat} {l : List Rat},(toT (m+1) T)[j]?=some l→i+1≤j→(need i (j+1)↔need i j∨oc l i):=fun {j l} hl hij=>by
     refine ⟨fun h=>h.elim (fun h=>.inl (.inl h)) fun ⟨q,l',a1,a2,a3,a4⟩=>?_,fun h=>h.elim (fun h=>h.elim .inl fun ⟨q,l',a1,a2,a3,a4⟩=>.inr ⟨q,l',a1,by omega,a3,a4⟩) fun h=>.inr ⟨j,l,by omega,by omega,hl,h⟩⟩
     by_cases e : q=j
     · subst e;rw [hl] at a3;injection a3 with a3;subst a3;exact .inr a4
     · exact .inl (.inr ⟨q,l',a1,by omega,a3,a4⟩)
    have rad : ∀ j,j<m+1→∃ l,(toT (m+1) T)[j]?=some l∧zs[j]?=some l∧Sz r l:=fun j hj=>by
     obtain ⟨e,e1,e2,_⟩:=Tw.at (t:=T) hj
     refine ⟨_,e1,?_,e2 r hT⟩
     rw [←h3,W1c,if_pos hj] at e1;exact e1
    have rlen : ∀ {j : Nat} {l : List Rat},(toT (m+1) T)[j]?=some l→l.length=2 ^ j:=fun h=>(TS.pt hT _ _ h).1
    have nod : ¬ need i (m+1)→¬ nd ⟨m+1,T,c⟩ i:=fun h e=>h (e.elim .inl fun ⟨q,l,a1,a3,a4⟩=>.inr ⟨q,l,a1,by have:=(W1a.1 a3).1;rwa [hTl] at this,a3,a4⟩)
    have out : ¬ need i (m+1)→(NOk G S r p ⟨m,rmT m i T,rm m i c⟩ v∧Als P ⟨m,rmT m i T,rm m i c⟩∧trF i ⟨m,rmT m i T,rm m i c⟩=y)∧toL m (rm m i c)=wo (toL (m+1) c) i:=fun h=>by
     have him : i≤m:=by omega
     obtain ⟨ρ,a1,a2⟩:=h1.ex
     refine ⟨⟨⟨⟨skip i ρ,a1.rm hGr him fun j l hj hl ho=>h (.inr ⟨j,l,hj,by have:=(W1a.1 hl).1;rw [hTl] at this;omega,hl,ho⟩),by rw [←a2];exact Ycs him fun ho=>h (.inl ho)⟩,hT.rm him,?_⟩,⟨?_,?_⟩,(Xrk (nod h)).symm.trans hF.2⟩,Xey him⟩
     · show Sz p (toL m (rm m i c))
       rw [Xey him];exact hc.sub fun x hx=>Xee hx
     · show ∀ q∈toL m (rm m i c),P q
       rw [Xey him];exact fun q hq=>hF.1.1 q (Xee hq)
     · show ∀ l∈toT m (rmT m i T),∀ q∈l,P q
       rw [Xi8 him]
       intro l hl q hq
       rcases W2v.1 hl with hl | hl
       · exact hF.1.2 l (W4r hl) q hq
       · obtain ⟨l',hl',rfl⟩:=W3p.1 hl
         exact hF.1.2 l' (W5f hl') q (Xee hq)
    have keep : need i (m+1)→∀ j,i≤j→j<m+1→nd ⟨m+1,T,c⟩ j:=fun h j a b=>by
     by_cases e : i=j
     · subst e
       exact h.elim .inl fun ⟨q,l,a1,_,a3,a4⟩=>.inr ⟨q,l,a1,a3,a4⟩
     · exact h8 j (by omega) b
    have gone : ¬ need i (m+1)→∀ j,i≤j→j<m→nd ⟨m,rmT m i T,rm m i c⟩ j:=fun h j a b=>Yfr (by omega) (fun e=>h (e.elim .inl fun ⟨q,l,a1,a3,a4⟩=>.inr ⟨q,l,a1,by have:=(W1a.1 a3).1;rwa [hTl] at this,a3,a4⟩)) a b (h8 (j+1) (by omega) (by omega))
    refine Yes rfl (show ((i+1 : Nat) : Int) - 1 ≥ 0 by omega) ?_
    have ei : ((i+1 : Nat) : Int) - 1=i:=by omega
    have hoc : ∀ {l : List Rat} {p : Nat},Ps p l→p≤8796093022208→l.length≤1048576→C0 64 [.d (dqs l),.d (.int .i64 (((i+1 : Nat) : Int) - 1))] (·=.b (dc (oc l i))):=fun h1 h2 h3=>by
     have:=Xsy (i:=i) h1 h2 (by omega) h3
     rwa [←ei] at this
    have hwo : ∀ {l : List Rat},l.length≤1048576→C0 65 [.d (dqs l),.d (.int .i64 (((i+1 : Nat) : Int) - 1))] (·=.d (dqs (wo l i))):=fun h=>by
     have:=Xqc (i:=i) (by omega) h
     rwa [←ei] at this
    rcases hkd with rfl | rfl
    · refine Ce rfl (hoc (l:=toL (m+1) c) hc.ps hp (by omega)) ?_
      refine Ar (i+1 : Nat) rfl ?_ (wr (show ((i+1 : Nat) : Int) - 1+1=((i+1 : Nat) : Int) by omega) (by simp only [inK];omega))
      refine Lo (fun (q : Nat × Bool)=>[(2,.ptr 2 0),(3,.ptr 3 0),(4,.d (.int .i64 (((i+1 : Nat) : Int) - 1))),(5,.b q.2),(6,.d (.int .i64 q.1))]) (fun _=>TH ⟨i+1,1,⟨m+1,T,c⟩,zs⟩) (fun q=>i+1≤q.1∧q.1≤m+1∧(q.2=true↔need i q.1)) (fun q=>m+1 - q.1) (i+1,dc (oc (toL (m+1) c) i)) [] rfl ⟨W0a _,by show i+1≤m+1;omega,need0⟩ (fun (j,b) ⟨g1,g2,g3⟩=>?_)
      simp only at g1 g2 g3
      refine By rfl (fun h=>?_) fun h=>?_ <;> try simp only [lt'] at h
      · obtain ⟨l,hl,hzj,hls⟩:=rad j (by omega)
        refine By rfl (fun hb=>?_) fun hb=>?_
        · refine Ar (j+1 : Nat) rfl ?_
          exact Bk (j+1,true) [] rfl ⟨by show i+1≤j+1;omega,by show j+1≤m+1;omega,by show true=true↔_;rw [needS hl g1];exact ⟨fun _=>.inl (g3.1 hb),fun _=>rfl⟩⟩ (by show m+1 - (j+1)<m+1 - j;omega)
        · refine Eo j rfl (by first | omega | (simp only [lt'];omega)) ?_
          refine Ld (dqs l) rfl (mp hzj) ?_
          refine Ce rfl (hoc (l:=l) hls.ps hr (by rw [rlen hl];have:=p16 (show j≤16 by omega);omega)) ?_
          refine Ar (j+1 : Nat) rfl ?_
          exact Bk (j+1,dc (oc l i)) [] rfl ⟨by show i+1≤j+1;omega,by show j+1≤m+1;omega,by show dc (oc l i)=true↔_;rw [needS hl g1,Xaw];exact ⟨.inr,fun h=>h.elim (fun h=>absurd (g3.2 h) hb) id⟩⟩ (by show m+1 - (j+1)<m+1 - j;omega)
      · obtain rfl : j=m+1:=by omega
        refine By rfl (fun hb=>?_) fun hb=>?_
        · refine Ar ((i : Int) - 1) rfl ?_ (wr (show ((i+1 : Nat) : Int) - 1 - 1=(i : Int) - 1 by omega) (by simp only [inK];omega))
          exact Bk ⟨i,1,⟨m+1,T,c⟩,zs⟩ [] rfl ⟨⟨⟨h1,hF.1,(Xi7 (keep (g3.1 hb) i (W0a _) (by omega))).symm.trans hF.2⟩,by show i≤m+1;omega,h3,h4,h5,fun h=>absurd h (show ¬ 3≤1 by decide),keep (g3.1 hb)⟩,h7⟩ (show i<i+1 by omega)
        · have hno : ¬ need i (m+1):=fun h=>hb (g3.2 h)
          obtain ⟨w1,w2⟩:=out hno
          have hw0:=hwo (l:=toL (m+1) c) (by omega)
          rw [←w2] at hw0
          refine Ce rfl hw0 ?_
          refine Ar (i+1 : Nat) rfl ?_ (wr (show ((i+1 : Nat) : Int) - 1+1=((i+1 : Nat) : Int) by omega) (by simp only [inK];omega))
          refine Lo (fun (j : Nat)=>[(2,.ptr 2 0),(3,.ptr 3 0),(4,.d (.int .i64 (((i+1 : Nat) : Int) - 1))),(7,.d (.int .i64 j))]) (fun j=>TH' 1 m (toL m (rm m i c)) zs (wl i j zs)) (fun j=>i+1≤j∧j≤m+1) (fun j=>m+1 - j) (i+1) [] rfl ⟨W0a _,by omega⟩ (fun j ⟨g1,g2⟩=>?_) (by rw [Xn3];exact ⟨rfl,rfl,rfl,rfl,rfl⟩)
          refine By rfl (fun h=>?_) fun h=>?_ <;> try simp only [lt'] at h
          · obtain ⟨l,hl,hzj,hls⟩:=rad j (by omega)
            refine Dw rfl ?_
            refine Eo j rfl (by first | omega | (simp only [lt',Xet];omega)) ?_
            refine Ld (dqs l) rfl (mp (by rw [Xgp,hzj,W4o,if_neg (by omega)])) ?_
            refine Ce rfl (hwo (l:=l) (by rw [rlen hl];have:=p16 (show j≤16 by omega);omega)) ?_
            refine Eo j rfl (by first | omega | (simp only [lt',Xet];omega)) ?_
            refine Sto rfl (by simp only [lt',Xet];omega) (zs:=(wl i (j+1) zs).map dqs) (by rw [←Xyp (by omega) hzj];exact ms) ?_
            refine Ar (j+1 : Nat) rfl ?_
            exact Bk (j+1) [] rfl ⟨by omega,by omega⟩ (by show m+1 - (j+1)<m+1 - j;omega)
          · obtain rfl : j=m+1:=by omega
            have hwe:=Xyq h3 (show i≤m by omega)
            have hws : (wl i (m+1) zs).length=zs.length:=Xet
            have hr':=Xaa m (rmT m i T)
            refine Dw rfl ?_
            by_cases i0 : i=0
            · subst i0
              refine S30 rfl rfl ?_
              refine Ar (0+1 : Nat) rfl ?_
              refine Sw (0+1) (m+1) rfl (by omega) (by simp only [lt'];omega) ?_ (hh:=by simp only [Option.getD,lt'];omega)
              have hz0 : (((wl 0 (m+1) zs).map dqs).drop (0+(0+1))).take (m+1 - (0+1))=(toT m (rmT m 0 T)).map dqs:=by rw [←hwe,W4y,W4b,W1i,←W5u,←W2g]
              refine AqN ((toT m (rmT m 0 T)).map dqs) rfl (by simp only [lt'];omega) hz0 (by simp [hr'];omega) ?_
              refine Ar (((0 : Nat) : Int) - 1) rfl ?_ (wr (show ((0+1 : Nat) : Int) - 1 - 1=((0 : Nat) : Int) - 1 by omega) (by simp [inK]))
              exact Bk ⟨0,3,⟨m,rmT m 0 T,rm m 0 c⟩,toT m (rmT m 0 T)⟩ [(11,90),(82,11)] rfl ⟨⟨w1,W1d _,W0b (by rw [hr'];exact W0a _),fun h=>absurd h (show ¬ 3=0 by decide),fun h=>absurd h (show ¬ 3=1 by decide),fun _=>⟨rfl,hr'⟩,gone hno⟩,show 3≠0 by decide⟩ (show 0<0+1 by decide)
            · refine S3 i rfl (.inl rfl) (by omega) (by first | omega | (simp only [lt'];omega)) ?_
              refine Ar (i+1 : Nat) rfl ?_ (wr (show ((i+1 : Nat) : Int) - 1+1=((i+1 : Nat) : Int) by omega) (by simp only [inK];omega))
              refine Sw (i+1) (m+1) rfl (by omega) (by simp only [lt'];omega) ?_ (hh:=by simp only [Option.getD,lt'];omega)
              by_cases im : i=m
              · subst im
                refine Ylr rfl rfl (by simp only [lt'];omega) (by simp only [lt'];omega) (by omega) (by omega) ?_
                refine Ar ((i : Int) - 1) rfl ?_ (wr (show ((i+1 : Nat) : Int) - 1 - 1=(i : Int) - 1 by omega) (by simp only [inK];omega))
                rw [W2w,W4y,W3i] at hwe
                exact Bk ⟨i,2,⟨i,rmT i i T,rm i i c⟩,wl i (i+1) zs⟩ [] rfl ⟨⟨w1,W0a _,hwe,fun h=>absurd h (show ¬ 2=0 by decide),fun h=>absurd h (show ¬ 2=1 by decide),fun h=>absurd h (show ¬ 3≤2 by decide),gone hno⟩,show 2≠0 by decide⟩ (show i<i+1 by omega)
              · have hz0 : ((wl i (m+1) zs).map dqs).take i++(((wl i (m+1) zs).map dqs).drop (0+(i+1))).take (m+1 - (i+1))=(toT m (rmT m i T)).map dqs:=by rw [←hwe,W1i,←W2g,←W5u,←W2g,←W2z]
                refine Aq3 ((toT m (rmT m i T)).map dqs) rfl rfl (by simp only [lt'];omega) (by simp only [lt'];omega) hz0 (by omega) (by simp [hr'];omega) ?_
                refine Ar ((i : Int) - 1) rfl ?_ (wr (show ((i+1 : Nat) : Int) - 1 - 1=(i : Int) - 1 by omega) (by simp only [inK];omega))
                exact Bk ⟨i,1,⟨m,rmT m i T,rm m i c⟩,toT m (rmT m i T)⟩ [(11,90),(82,11)] rfl ⟨⟨w1,by show i≤m;omega,W0b (by rw [hr'];exact W0a _),fun h=>absurd h (show ¬ 1=0 by decide),fun _=>hr',fun h=>absurd h (show ¬ 3≤1 by decide),gone hno⟩,show 1≠0 by decide⟩ (show i<i+1 by omega)
    · refine Ce rfl (hoc (l:=toL (m+1) c) hc.ps hp (by omega)) ?_
      refine Ar (i+1 : Nat) rfl ?_ (wr (show ((i+1 : Nat) : Int) - 1+1=((i+1 : Nat) : Int) by omega) (by simp only [inK];omega))
      refine Lo (fun (q : Nat × Bool)=>[(2,.ptr 2 0),(3,.ptr 3 0),(4,.d (.int .i64 (((i+1 : Nat) : Int) - 1))),(5,.b q.2),(6,.d (.int .i64 q.1))]) (fun _=>TH ⟨i+1,2,⟨m+1,T,c⟩,zs⟩) (fun q=>i+1≤q.1∧q.1≤m+1∧(q.2=true↔need i q.1)) (fun q=>m+1 - q.1) (i+1,dc (oc (toL (m+1) c) i)) [] rfl ⟨W0a _,by show i+1≤m+1;omega,need0⟩ (fun (j,b) ⟨g1,g2,g3⟩=>?_)
      simp only at g1 g2 g3
      refine By rfl (fun h=>?_) fun h=>?_ <;> try simp only [lt'] at h
      · obtain ⟨l,hl,hzj,hls⟩:=rad j (by omega)
        refine By rfl (fun hb=>?_) fun hb=>?_
        · refine Ar (j+1 : Nat) rfl ?_
          exact Bk (j+1,true) [] rfl ⟨by show i+1≤j+1;omega,by show j+1≤m+1;omega,by show true=true↔_;rw [needS hl g1];exact ⟨fun _=>.inl (g3.1 hb),fun _=>rfl⟩⟩ (by show m+1 - (j+1)<m+1 - j;omega)
        · refine E3 j rfl (by first | omega | (simp only [lt'];omega)) ?_
          refine Ld (dqs l) rfl (mp hzj) ?_
          refine Ce rfl (hoc (l:=l) hls.ps hr (by rw [rlen hl];have:=p16 (show j≤16 by omega);omega)) ?_
          refine Ar (j+1 : Nat) rfl ?_
          exact Bk (j+1,dc (oc l i)) [] rfl ⟨by show i+1≤j+1;omega,by show j+1≤m+1;omega,by show dc (oc l i)=true↔_;rw [needS hl g1,Xaw];exact ⟨.inr,fun h=>h.elim (fun h=>absurd (g3.2 h) hb) id⟩⟩ (by show m+1 - (j+1)<m+1 - j;omega)
      · obtain rfl : j=m+1:=by omega
        refine By rfl (fun hb=>?_) fun hb=>?_
        · refine Ar ((i : Int) - 1) rfl ?_ (wr (show ((i+1 : Nat) : Int) - 1 - 1=(i : Int) - 1 by omega) (by simp only [inK];omega))
          exact Bk ⟨i,2,⟨m+1,T,c⟩,zs⟩ [] rfl ⟨⟨⟨h1,hF.1,(Xi7 (keep (g3.1 hb) i (W0a _) (by omega))).symm.trans hF.2⟩,by show i≤m+1;omega,h3,h4,h5,fun h=>absurd h (show ¬ 3≤2 by decide),keep (g3.1 hb)⟩,h7⟩ (show i<i+1 by omega)
        · have hno : ¬ need i (m+1):=fun h=>hb (g3.2 h)
          obtain ⟨w1,w2⟩:=out hno
          have hw0:=hwo (l:=toL (m+1) c) (by omega)
          rw [←w2] at hw0
          refine Ce rfl hw0 ?_
          refine Ar (i+1 : Nat) rfl ?_ (wr (show ((i+1 : Nat) : Int) - 1+1=((i+1 : Nat) : Int) by omega) (by simp only [inK];omega))
          refine Lo (fun (j : Nat)=>[(2,.ptr 2 0),(3,.ptr 3 0),(4,.d (.int .i64 (((i+1 : Nat) : Int) - 1))),(7,.d (.int .i64 j))]) (fun j=>TH' 2 m (toL m (rm m i c)) zs (wl i j zs)) (fun j=>i+1≤j∧j≤m+1) (fun j=>m+1 - j) (i+1) [] rfl ⟨W0a _,by omega⟩ (fun j ⟨g1,g2⟩=>?_) (by rw [Xn3];exact ⟨rfl,rfl,rfl,rfl,rfl⟩)
          refine By rfl (fun h=>?_) fun h=>?_ <;> try simp only [lt'] at h
          · obtain ⟨l,hl,hzj,hls⟩:=rad j (by omega)
            refine Dw rfl ?_
            refine E3 j rfl (by first | omega | (simp only [lt',Xet];omega)) ?_
            refine Ld (dqs l) rfl (mp (by rw [Xgp,hzj,W4o,if_neg (by omega)])) ?_
            refine Ce rfl (hwo (l:=l) (by rw [rlen hl];have:=p16 (show j≤16 by omega);omega)) ?_
            refine E3 j rfl (by first | omega | (simp only [lt',Xet];omega)) ?_
            refine Sto rfl (by simp only [lt',Xet];omega) (zs:=(wl i (j+1) zs).map dqs) (by rw [←Xyp (by omega) hzj];exact ms) ?_
            refine Ar (j+1 : Nat) rfl ?_
            exact Bk (j+1) [] rfl ⟨by omega,by omega⟩ (by show m+1 - (j+1)<m+1 - j;omega)
          · obtain rfl : j=m+1:=by omega
            have hwe:=Xyq h3 (show i≤m by omega)
            have hws : (wl i (m+1) zs).length=zs.length:=Xet
            have hr':=Xaa m (rmT m i T)
            refine Dw rfl ?_
            by_cases i0 : i=0
            · subst i0
              refine S30 rfl rfl ?_
              refine Ar (0+1 : Nat) rfl ?_
              refine D3 (0+1) rfl (by omega) ?_
              have hz0 : (((wl 0 (m+1) zs).map dqs).drop (0+(0+1))).take (m+1 - (0+1))=(toT m (rmT m 0 T)).map dqs:=by rw [←hwe,W4y,W4b,W1i,←W5u,←W2g]
              refine AqN ((toT m (rmT m 0 T)).map dqs) rfl (by simp only [lt'];omega) hz0 (by simp [hr'];omega) ?_
              refine Ar (((0 : Nat) : Int) - 1) rfl ?_ (wr (show ((0+1 : Nat) : Int) - 1 - 1=((0 : Nat) : Int) - 1 by omega) (by simp [inK]))
              exact Bk ⟨0,3,⟨m,rmT m 0 T,rm m 0 c⟩,toT m (rmT m 0 T)⟩ [(11,90),(82,11)] rfl ⟨⟨w1,W1d _,W0b (by rw [hr'];exact W0a _),fun h=>absurd h (show ¬ 3=0 by decide),fun h=>absurd h (show ¬ 3=1 by decide),fun _=>⟨rfl,hr'⟩,gone hno⟩,show 3≠0 by decide⟩ (show 0<0+1 by decide)
            · refine S3 i rfl (.inr rfl) (by omega) (by first | omega | (simp only [lt'];omega)) ?_
              refine Ar (i+1 : Nat) rfl ?_ (wr (show ((i+1 : Nat) : Int) - 1+1=((i+1 : Nat) : Int) by omega) (by simp only [inK];omega))
              refine D3 (i+1) rfl (by omega) ?_
              by_cases im : i=m
              · subst im
                refine Ylr rfl rfl (by simp only [lt'];omega) (by simp only [lt'];omega) (by omega) (by omega) ?_
                refine Ar ((i : Int) - 1) rfl ?_ (wr (show ((i+1 : Nat) : Int) - 1 - 1=(i : Int) - 1 by omega) (by simp only [inK];omega))
                rw [W2w,W4y,W3i] at hwe
                exact Bk ⟨i,2,⟨i,rmT i i T,rm i i c⟩,wl i (i+1) zs⟩ [] rfl ⟨⟨w1,W0a _,hwe,fun h=>absurd h (show ¬ 2=0 by decide),fun h=>absurd h (show ¬ 2=1 by decide),fun h=>absurd h (show ¬ 3≤2 by decide),gone hno⟩,show 2≠0 by decide⟩ (show i<i+1 by omega)
              · have hz0 : ((wl i (m+1) zs).map dqs).take i++(((wl i (m+1) zs).map dqs).drop (0+(i+1))).take (m+1 - (i+1))=(toT m (rmT m i T)).map dqs:=by rw [←hwe,W1i,←W2g,←W5u,←W2g,←W2z]
                refine Aq3 ((toT m (rmT m i T)).map dqs) rfl rfl (by simp only [lt'];omega) (by simp only [lt'];omega) hz0 (by omega) (by simp [hr'];omega) ?_
                refine Ar ((i : Int) - 1) rfl ?_ (wr (show ((i+1 : Nat) : Int) - 1 - 1=(i : Int) - 1 by omega) (by simp only [inK];omega))
                exact Bk ⟨i,1,⟨m,rmT m i T,rm m i c⟩,toT m (rmT m i T)⟩ [(11,90),(82,11)] rfl ⟨⟨w1,by show i≤m;omega,W0b (by rw [hr'];exact W0a _),fun h=>absurd h (show ¬ 1=0 by decide),fun _=>hr',fun h=>absurd h (show ¬ 3≤1 by decide),gone hno⟩,show 1≠0 by decide⟩ (show i<i+1 by omega)
theorem Trim_ok {P : Rat→Prop} (hP : Als P x) (hG : red K G) (hS : S.length≤3) (hx : NOk G S r p x v) (hr : r≤8796093022208) (hp : p≤8796093022208) : C0 32 [.d (dN x)] fun w=>∃ z : Nm,w=.d (dN z)∧NOk G S r p z v∧Tm z∧Als P z :=
 (Xl6 hP hG hS hx hr hp).mono fun _ ⟨z,e,h1,h2,_⟩=>⟨z,e,h1,h2⟩
end
end
section
def sh (x : Rat) : Prop:=(dig x.num.natAbs).length≤2∧(dig x.den).length≤2
def shN (x : Nm) : Prop:=(∀ q∈toL x.k x.a,sh q)∧∀ l∈toT x.k x.t,∀ q∈l,sh q
theorem sh.qs {x : Rat} (h : sh x) : Qs 64 x:=by
 have key : ∀ n : Nat,(dig n).length≤2→n<2 ^ 64:=fun n hn=>by
  have h1:=Xbq (Xad n)
  rw [Xaf] at h1
  have h2 : 4294967296 ^ (dig n).length≤4294967296 ^ 2:=W0h (by decide) hn
  omega
 exact ⟨key _ h.1,by show ((x.den : Int)).natAbs<_;rw [W1j];exact key _ h.2⟩
theorem long_ok {x : Nm} (hk : x.k≤16) : C0 31 [.d (dN x)] (·=.b (dc (¬ shN x))):=by
 obtain ⟨k,t,a⟩:=x
 have hk : k≤16:=hk
 have hp:=p16 hk
 have hcl:=Xab k a
 have hTl:=Xaa k t
 refine En Tryz.func31 fun _ _ _=>?_
 refine Lo (fun i : Nat=>[(1,.ptr 1 0),(3,.d (.int .i64 i))]) (fun _=>[(1,.var (.d (dN ⟨k,t,a⟩)))]) (fun i=>i≤2 ^ k∧∀ j q,j<i→(toL k a)[j]?=some q→sh q) (fun i=>2 ^ k - i) 0 [] rfl ⟨by omega,fun j q h=>by omega⟩ fun i ⟨hi,hs⟩=>?_
 refine By rfl (fun h=>?_) fun h=>?_
 · have h : (i : Int)<(((toL k a).map dq).length : Nat):=h
   rw [lq,hcl] at h
   obtain ⟨x,hx⟩:=qat (l:=toL k a) (k:=i) (by omega)
   have no : ¬ sh x→¬ shN ⟨k,t,a⟩:=fun h h2=>h (h2.1 x (W0l hx))
   refine Ix i rfl (mp hx) ?_
   refine By rfl (fun h1=>?_) fun h1=>?_
   · have h1 : ((((dig x.num.natAbs).map wd).length : Nat) : Int) > 2:=h1
     rw [lw] at h1
     exact R1 rfl (.bp ⟨fun _=>no fun h=>by have:=h.1;omega,fun _=>rfl⟩)
   · have h1 : ¬ ((((dig x.num.natAbs).map wd).length : Nat) : Int) > 2:=h1
     rw [lw] at h1
     refine Ix i rfl (mp hx) ?_
     refine By rfl (fun h2=>?_) fun h2=>?_
     · have h2 : ((((dig ((x.den : Int)).natAbs).map wd).length : Nat) : Int) > 2:=h2
       rw [lw,W1j] at h2
       exact R1 rfl (.bp ⟨fun _=>no fun h=>by have:=h.2;omega,fun _=>rfl⟩)
     · have h2 : ¬ ((((dig ((x.den : Int)).natAbs).map wd).length : Nat) : Int) > 2:=h2
       rw [lw,W1j] at h2
       refine Ar (i+1 : Nat) rfl ?_
       refine Bk (i+1) [] rfl ⟨by omega,fun j q hj hq=>?_⟩ (by show 2 ^ k - (i+1)<2 ^ k - i;omega)
       by_cases e : j=i
       · subst e;rw [hx] at hq;injection hq with hq;subst hq;exact ⟨by omega,by omega⟩
       · exact hs j q (by omega) hq
 have h : ¬ (i : Int)<(((toL k a).map dq).length : Nat):=h
 rw [lq,hcl] at h
 have hc : ∀ q∈toL k a,sh q:=fun q hq=>by
  obtain ⟨j,hj⟩:=W2u hq
  exact hs j q (by have:=(W1a.1 hj).1;omega) hj
 refine Lo (fun i : Nat=>[(1,.ptr 1 0),(4,.d (.int .i64 i))]) (fun _=>[(1,.var (.d (dN ⟨k,t,a⟩)))]) (fun i=>i≤k∧∀ j l,j<i→(toT k t)[j]?=some l→∀ q∈l,sh q) (fun i=>k - i) 0 [] rfl ⟨by omega,fun j q h=>by omega⟩ fun i ⟨hi,hs⟩=>?_
 refine By rfl (fun h=>?_) fun h=>?_
 · have h : (i : Int)<(((toT k t).map dqs).length : Nat):=h
   rw [lt',hTl] at h
   obtain ⟨l,hl⟩ : ∃ l,(toT k t)[i]?=some l:=⟨_,W0d (by omega)⟩
   obtain ⟨e,e1,_,_⟩:=Tw.at (t:=t) (show i<k by omega)
   obtain rfl : l=toL i e:=by rw [hl] at e1;injection e1
   have hll:=Xab i e
   have hpi:=p16 (show i≤16 by omega)
   refine Lo (fun j : Nat=>[(1,.ptr 1 0),(4,.d (.int .i64 i)),(5,.d (.int .i64 j))]) (fun _=>[(1,.var (.d (dN ⟨k,t,a⟩)))]) (fun j=>j≤2 ^ i∧∀ m q,m<j→(toL i e)[m]?=some q→sh q) (fun j=>2 ^ i - j) 0 [] rfl ⟨by omega,fun j q h=>by omega⟩ fun j ⟨hj,hjs⟩=>?_
   refine Ix i rfl (mp hl) ?_
   refine By rfl (fun h1=>?_) fun h1=>?_
   · have h1 : (j : Int)<(((toL i e).map dq).length : Nat):=h1
     rw [lq,hll] at h1
     obtain ⟨x,hx⟩:=qat (l:=toL i e) (k:=j) (by omega)
     have no : ¬ sh x→¬ shN ⟨k,t,a⟩:=fun h h2=>h (h2.2 _ (W0l hl) x (W0l hx))
     refine Ix i rfl (mp hl) ?_
     refine Ix j rfl (mp hx) ?_
     refine By rfl (fun h1=>?_) fun h1=>?_
     · have h1 : ((((dig x.num.natAbs).map wd).length : Nat) : Int) > 2:=h1
       rw [lw] at h1
       exact R1 rfl (.bp ⟨fun _=>no fun h=>by have:=h.1;omega,fun _=>rfl⟩)
     · have h1 : ¬ ((((dig x.num.natAbs).map wd).length : Nat) : Int) > 2:=h1
       rw [lw] at h1
       refine By rfl (fun h2=>?_) fun h2=>?_
       · have h2 : ((((dig ((x.den : Int)).natAbs).map wd).length : Nat) : Int) > 2:=h2
         rw [lw,W1j] at h2
         exact R1 rfl (.bp ⟨fun _=>no fun h=>by have:=h.2;omega,fun _=>rfl⟩)
       · have h2 : ¬ ((((dig ((x.den : Int)).natAbs).map wd).length : Nat) : Int) > 2:=h2
         rw [lw,W1j] at h2
         refine Ar (j+1 : Nat) rfl ?_
         refine Bk (j+1) [] rfl ⟨by omega,fun m q hm hq=>?_⟩ (by show 2 ^ i - (j+1)<2 ^ i - j;omega)
         by_cases e : m=j
         · subst e;rw [hx] at hq;injection hq with hq;subst hq;exact ⟨by omega,by omega⟩
         · exact hjs m q (by omega) hq
   · have h1 : ¬ (j : Int)<(((toL i e).map dq).length : Nat):=h1
     rw [lq,hll] at h1
     refine Ar (i+1 : Nat) rfl ?_
     refine Bk (i+1) [] rfl ⟨by omega,fun m l hm hl' q hq=>?_⟩ (by show k - (i+1)<k - i;omega)
     by_cases e : m=i
     · subst e;rw [hl] at hl';injection hl' with hl';subst hl'
       obtain ⟨n,hn⟩:=W2u hq
       exact hjs n q (by have:=(W1a.1 hn).1;omega) hn
     · exact hs m l (by omega) hl' q hq
 · have h : ¬ (i : Int)<(((toT k t).map dqs).length : Nat):=h
   rw [lt',hTl] at h
   refine R1 rfl (.bp ⟨nofun,fun h2=>absurd ⟨hc,fun l hl q hq=>?_⟩ h2⟩)
   obtain ⟨n,hn⟩:=W2u hl
   have h6 : n<(toT k t).length:=(W1a.1 hn).1
   exact hs n l (by omega) hn q hq
end
end Go.Proofs.YtclmecgphleeeaaGreatDoor.R9
namespace Go.Tow
open Go Go.Num Go.Proofs.YtclmecgphleeeaaGreatDoor
variable {K : Nat} {G : Tw K} {ρ : Nat→El K} {S : List (El K)} {r p : Nat} {x : Nm} {v : El K}
theorem TOk.sub {k : Nat} {t : Tw k} {S' : List (El K)} (h : TOk G S k t ρ) (hs : ∀ s∈S,s∈S') : TOk G S' k t ρ:=⟨h.r,h.h,fun i hi=>hs _ (h.s i hi)⟩
theorem NOk.sub {S' : List (El K)} (h : NOk G S r p x v) (hs : ∀ s∈S,s∈S') : NOk G S' r p x v:=by
 obtain ⟨ρ,h1,h2⟩:=h.ex
 exact ⟨⟨ρ,h1.sub hs,h2⟩,h.r,h.p⟩
theorem NOk.tsn (hG : Xbm K G) {w : El K} (h : NOk G S r p x v) : NOk (Tow.tsn G w) (S.map (up K)) r p x (up K v):=by
 obtain ⟨ρ,h1,h2⟩:=h.ex
 exact ⟨⟨_,⟨h1.r,h1.h.tsn hG,fun i hi=>W3p.2 ⟨_,h1.s i hi,rfl⟩⟩,by rw [Xis,h2]⟩,h.r,h.p⟩
theorem _root_.Go.Proofs.YtclmecgphleeeaaGreatDoor.TS.of {r : Nat} {k : Nat} : ∀ {t : Tw k},(∀ (i : Nat) l,(toT k t)[i]?=some l→Sz r l)→TS r k t:=by
 induction k with
 | zero=>intro t _;trivial
 | succ k ih =>
  intro t h
  have hl:=Xaa k t.1
  refine ⟨ih fun i l hi=>h i l ?_,h k _ ?_⟩
  · show (toT k t.1++[toL k t.2])[i]?=_
    rw [W0x (W1a.1 hi).1,hi]
  · show (toT k t.1++[toL k t.2])[k]?=_
    rw [W0u (by omega),hl,W2w];rfl
def Wld (n : Nat) (l : List Nm) (P : ∀ {K : Nat},Tw K→List (El K)→Prop) : Prop:=∃ (K : Nat) (G : Tw K) (S : List (El K)),red K G∧S.length≤n∧Xvn G S 300 600∧(∀ y∈l,∃ v,NOk G S 300 600 y v)∧P G S
theorem Xid {n : Nat} {l : List Nm} (hG : red K G) (hS : S.length≤n) (hq : Xvn G S 300 600) (hl : ∀ y∈l,∃ v,NOk G S 300 600 y v) {k : Nat} {t : Tw k} {a : El k} (ht : TOk G S k t ρ) (h3 : TS 300 k t) (h6 : Sz 600 (toL k a)) (h0 : 0≤sgn k t a) (hn : ¬ Xej k t a) (hT : TS r (k+1) (tsn t a)) (hr : Sz p (toL (k+1) (Xcg (k+1) k))) :
 Wld (n+1) l fun G S=>∃ v,NOk G S r p ⟨k+1,tsn t a,Xcg (k+1) k⟩ v:=by
 have hGr:=Xag hG
 have L:=Xa3 K G
 have Sg:=Xat hGr
 have ha0 : a≠zero k:=fun e=>hn ⟨zero k,by rw [e,(Xa3 k t).mz]⟩
 have h1 : sgn k t a=1:=by
  rcases Xcf t a with h | h | h
  · exact h
  · exact absurd ((Xdd ht.r).1 h) ha0
  · omega
 have hv : sgn K G (ev G ρ k a)=1:=by rw [Xcr hGr ht.h];exact h1
 by_cases hs : Xej K G (ev G ρ k a)
 · obtain ⟨s,hs⟩:=hs
   obtain ⟨s,hs,hp⟩ : ∃ s,mul K G s s=ev G ρ k a∧sgn K G s=1:=by
    rcases Xcf G s with h | h | h
    · exact ⟨s,hs,h⟩
    · rw [←hs,Sg.sm,h] at hv;cases hv
    · exact ⟨neg K s,by rw [L.mn,L.nm,L.nn,hs],by rw [Sg.sn,h];rfl⟩
   have hsub : ∀ y∈S,y∈s::S:=fun y h=>W0z _ h
   refine ⟨K,G,s::S,hG,by simp;omega,fun g hg=>?_,fun y hy=>(hl y hy).elim fun v h=>⟨v,h.sub hsub⟩,_,⟨_,(ht.sub hsub).snoc hGr hn (W0q ..) hs hp,rfl⟩,hT,hr⟩
   rcases W1o.1 hg with rfl | hg
   · exact ⟨⟨k,t,a⟩,⟨_,ht.sub hsub,hs.symm⟩,h3,h6⟩
   · obtain ⟨z,hz⟩:=hq g hg
     exact ⟨z,hz.sub hsub⟩
 · have hG' : red (K+1) (tsn G (ev G ρ k a)):=⟨hG,hv,hs⟩
   have hm : ∀ y∈S.map (up K),y∈rt1 K::S.map (up K):=fun y h=>W0z _ h
   have hto : TOk (tsn G (ev G ρ k a)) (rt1 K::S.map (up K)) k t (fun i=>up K (ρ i)):=⟨ht.r,ht.h.tsn hGr,fun i hi=>hm _ (W3p.2 ⟨_,ht.s i hi,rfl⟩)⟩
   refine ⟨K+1,tsn G (ev G ρ k a),rt1 K::S.map (up K),hG',by simp;omega,fun g hg=>?_,fun y hy=>(hl y hy).elim fun v h=>⟨_,(h.tsn hGr).sub hm⟩,_,⟨_,hto.snoc (Xag hG') hn (W0q ..) (s:=rt1 K) ?_ ?_,rfl⟩,hT,hr⟩
   · rcases W1o.1 hg with rfl | hg
     · exact ⟨⟨k,t,a⟩,⟨_,hto,by rw [Xis];exact (Xkz (t:=Tow.tsn G (ev G ρ k a))).symm⟩,h3,h6⟩
     · obtain ⟨g',hg',rfl⟩:=W3p.1 hg
       obtain ⟨z,hz⟩:=hq g' hg'
       exact ⟨z,by rw [Xij];exact (hz.tsn hGr).sub hm⟩
   · rw [Xis];exact Xkz
   · exact Xmq (t:=tsn G (ev G ρ k a)) hGr
end Go.Tow
namespace Go.Proofs.YtclmecgphleeeaaGreatDoor
open Go Go.Vm Go.Num Go.Tow
structure RO where
 kind : Nat
 a : Nat
 b : Nat
 n : Int
 d : Nat
 h : kind<256∧a<256∧b<256∧d<256∧-128≤n∧n<128
abbrev dO (o : RO) : D:=.st (.pr (.int .u8 o.kind) (.pr (.int .u8 o.a) (.pr (.int .u8 o.b) (.pr (.int .i8 o.n) (.int .u8 o.d)))))
abbrev dRs (l : List RO) : D:=.sl 5 (l.map dO)
end Go.Proofs.YtclmecgphleeeaaGreatDoor
namespace Go.Proofs.YtclmecgphleeeaaGreatDoor.R9
open Go Go.Vm Go.Num Go.Tow Go.Proofs.YtclmecgphleeeaaGreatDoor
theorem Xwe {l : List Rat} {n q : Nat} (h : ∀ x∈l,sh x) (hn : l.length≤n) (hq : 64*n+1≤q) : Sz q l:=(Sz.all fun x hx=>(h x hx).qs).mono (W0i (by have:=W0m 64 hn;omega) hq)
theorem shN.ok {K : Nat} {G : Tw K} {S : List (Tow.El K)} {r p : Nat} {z : Nm} {v : Tow.El K} (hs : shN z) (h : NOk G S r p z v) (hk : z.k≤3) : NOk G S 300 600 z v :=
 ⟨h.ex,TS.of fun i l hl=>by
  have hi:=(W1a.1 hl).1
  rw [Xaa] at hi
  have : l.length≤4:=by
   rw [(TS.pt h.r _ _ hl).1];exact W0h (n:=2) (by decide) (show i≤2 by omega)
  exact Xwe (n:=4) (hs.2 l (W0l hl)) this (by decide),
  Xwe (n:=8) hs.1 (by rw [Xab];exact W0h (n:=2) (by decide) hk) (by decide)⟩
def Big (l : List Nm) (n : Nat) (z : Nm) : Prop:=n≤3∧Wld n l fun G S=>∃ v,NOk G S wR (oW 1000000) z v
theorem bnds : 300≤wR∧600≤oW 1000000∧600+gC 300 3≤oW 1000000∧900≤wR∧iS 300 3 600≤1000000∧iB 300 3 600≤4398046511104∧qB 300 3 600≤4398046511104∧qB 300 3 300≤4398046511104∧vB 300 3 (600+gC 300 3)≤4398046511104∧vB 300 3 300≤4398046511104∧vB 300 3 600≤4398046511104∧oW 1000000≤8796093022208:=by decide +kernel
theorem remN {a m : Nat} {k : IntKind} (hm : 0<m) : arB .rem k a m (a % m : Nat):=show _∧_ from ⟨by omega,Xq6 a m⟩
theorem Xv0 {n m : Nat} {l : List Nm} {P : ∀ {K : Nat},Tw K→List (Tow.El K)→Prop} (h : Wld n l @P) (hn : n≤m) : Wld m l @P:=by
 obtain ⟨K,G,S,h1,h2,h3,h4⟩:=h
 exact ⟨K,G,S,h1,W0i h2 hn,h3,h4⟩
theorem Ycm {n : Int} {d : Nat} (hn : -128≤n∧n<128) (hd : 0<d∧d≤8) : sh (Rat.divInt n d):=by
 have h1 : (Rat.divInt n d).num.natAbs≤n.natAbs:=by
  rw [Rat.num_divInt,Int.natAbs_ediv_of_dvd ?_]
  · have hs : ((d : Int)).sign=1:=W6h (by omega)
    rw [hs,W5o]
    exact W3j ..
  · have hs : ((d : Int)).sign=1:=W6h (by omega)
    rw [hs,W5o];exact Int.gcd_dvd_right ..
 have h2 : (Rat.divInt n d).den≤d:=by
  rw [Rat.den_divInt,if_neg (by omega),W1j]
  exact W3j ..
 exact ⟨Xan (W1m h1 (by omega)),Xan (W1m h2 (by omega))⟩
end Go.Proofs.YtclmecgphleeeaaGreatDoor.R9
namespace Go.Vm
open Go Go.ChangeShapes Go.WideShapes Go.ChangeAt Go.RowKit
theorem Xvf {P : Program} {t e : TypeId} {r : D→Prop} (ht : P.underlying t=some (.slice e)) (hr : Reads P t r) (hg : ∀ x,r x→x.ag=false) : Arg P t r:=fun W base _ _ _ _ v d p hok h=>by
 obtain ⟨_,_,_,rfl⟩:=okWide_slice ht hok
 obtain ⟨fuel,h⟩:=h
 obtain ⟨x,h1,h2⟩:=hr W h
 exact ⟨x,h1,_,h2,by rw [show AV.ag (.d x)=false from hg x h1];rfl⟩
end Go.Vm
namespace Go.Proofs.YtclmecgphleeeaaGreatDoor
open Go Go.Vm Go.Num
theorem Yma {α : Type} {f : α→D} {l : List D} (h : ∀ y∈l,∃ x,y=f x) : ∃ m : List α,l=m.map f:=by
 induction l with
 | nil=>exact ⟨[],rfl⟩
 | cons y l ih =>
  obtain ⟨x,hx⟩:=h y (W0q ..)
  obtain ⟨m,hm⟩:=ih fun z hz=>h z (W0z _ hz)
  exact ⟨x::m,by rw [hx,hm];rfl⟩
theorem Xwn : Reads Tryz.prog 48 fun d=>∃ o : RO,d=dO o :=
 (Xk1 Tryz.underlying48 (.cons (n:=1) rfl (Xd3 Tryz.underlying5) (by kernel_rfl) (.cons (n:=1) rfl (Xd3 Tryz.underlying5) (by kernel_rfl) (.cons (n:=1) rfl (Xd3 Tryz.underlying5) (by kernel_rfl) (.cons (n:=1) rfl (Xwm Tryz.underlying46) (by kernel_rfl) (.one rfl (Xd3 Tryz.underlying5)))))) (fun f hf=>by cases hf;kernel_rfl)).mono fun d hd=>by
  obtain ⟨_,rfl,_,_,rfl,⟨a,rfl,ha⟩,_,_,rfl,⟨b,rfl,hb⟩,_,_,rfl,⟨c,rfl,hc⟩,_,_,rfl,⟨n,rfl,hn⟩,⟨e,rfl,he⟩⟩:=hd
  exact ⟨⟨a,b,c,n,e,ha,hb,hc,he,hn⟩,rfl⟩
theorem Xsk {t : TypeId} (ht : Tryz.prog.underlying t=some (.slice 48)) : Reads Tryz.prog t fun d=>∃ ops : List RO,d=dRs ops :=
 (Xmv ht Xwn (sz:=5) (by kernel_rfl) (by decide)).mono fun d ⟨l,e,_,h⟩=>by
  obtain ⟨m,hm⟩:=Yma h
  exact ⟨m,by rw [e,hm]⟩
theorem Ydi : Arg Tryz.prog 23 fun d=>∃ ops : List RO,d=dRs ops:=Xvf Tryz.underlying23 (Xsk Tryz.underlying23) fun x ⟨_,e⟩=>by rw [e];rfl
theorem Yhl : Arg Tryz.prog 5 fun d=>∃ n : Nat,d=.int .u8 n∧n<256:=Ydj Tryz.underlying5 (Xd3 Tryz.underlying5) fun x ⟨_,e,_⟩=>by rw [e];rfl
open Go Go.Vm Go.Num Go.ChangeShapes Go.WideShapes Go.ChangeAt Go.RowKit
abbrev Yb4 : List (String × DataW Unit) := [("math/bits.deBruijn32tab", Rows.laid_math_bits_deBruijn32tab), ("math/bits.deBruijn64tab", Rows.laid_math_bits_deBruijn64tab), ("internal/strconv.uint64pow10", Rows.laid_internal_strconv_uint64pow10), ("unicode/utf8.acceptRanges", Rows.laid_unicode_utf8_acceptRanges), ("unicode/utf8.first", Rows.laid_unicode_utf8_first)]
def Ylu : List Int:=(List.range 20).map fun i=>((10 ^ i : Nat) : Int)
theorem Yav : ∀ i,i<20→Ylu.getD i 0=((10 ^ i : Nat) : Int):=by decide
theorem Ygl : Tryz.prog.globalNamed "internal/strconv.uint64pow10" = some 0 := by kernel_rfl
theorem Ygk : (Tryz.prog.globals[0]?).map (·.type)=some 209:=by kernel_rfl
theorem Yjw {W : World} (h : laidMetH Tryz.prog Yb4 W) : Gb.g Tryz.prog (gw0 W):=by
 rw [Go.MakeChecks.laidMetH_plain Tryz.prog Yb4 W (by kernel_rfl)] at h
 have h3 : laidMet Tryz.prog (("internal/strconv.uint64pow10", Lib.tabData .u64 Ylu) :: [("unicode/utf8.acceptRanges", Rows.laid_unicode_utf8_acceptRanges), ("unicode/utf8.first", Rows.laid_unicode_utf8_first)]) W := h.tail.tail
 have ht:=Lib.tabIs_of_head Ygl Ygk Tryz.underlying209 Tryz.underlying97 (by kernel_rfl) (by kernel_rfl) h3
 exact fun i hi=>⟨by rw [show (gw0 W).w=W from rfl,ht.cell Ygl i (by rw [show Ylu.length=20 from rfl];exact hi),Yav i hi],fun h=>h⟩
def lay (vs : List (Nat × Array Value)) (w : World) : World:={ w with heap:=vs.foldl (fun h p=>h.modify p.1 fun | .cells _ t frozen=>.cells p.2 t frozen | o=>o) w.heap }
def u8s (l : List Nat) : Array Value:=(l.map fun (n : Nat)=>Value.int .u8 n).toArray
def Ylv : List (Nat × Array Value):=[(0,(Ylu.map fun z=>Value.int .u64 z).toArray),(2,u8s Pinned.utf8FirstZ),(3,u8s [128,191,160,191,128,159,144,191,128,143,0,0,0,0,0,0,0,0,0,0,0,0,0,0,0,0,0,0,0,0,0,0]),
 (4,u8s [0,1,28,2,29,14,24,3,30,22,20,15,25,17,4,8,31,27,13,23,21,19,16,7,26,12,18,6,11,5,10,9]),
 (5,u8s [0,1,56,2,57,49,28,3,61,58,42,50,38,29,17,4,62,47,59,36,45,43,51,22,53,39,33,30,24,18,12,5,63,55,48,27,60,41,37,16,46,35,44,21,52,32,23,11,54,26,40,15,34,20,31,10,25,14,19,9,13,8,7,6])]
noncomputable def Xc5 (os : Os) : World:=lay Ylv (World.holding Tryz.prog os ⟨#[],#[],[]⟩)
theorem Xw5 (os : Os) (args : Array Value) : laidMet Tryz.prog Yb4 ((Xc5 os).forCall (fun _ _=>0) ⟨#[],args,[]⟩).memory :=
 laidMet_of_run' 8 (by kernel_rfl) (by kernel_rfl)
end Go.Proofs.YtclmecgphleeeaaGreatDoor
namespace Go.Vm
open Go Go.ChangeShapes Go.WideShapes Go.ChangeAt Go.RowKit
theorem Xqk {P : Program} {t e : TypeId} {r : D→Prop} (ht : P.underlying t=some (.array 2 e)) (he : Reads P e r) (h1 : P.cellsOf e=1) (h3 : P.cellsOf t=2) : Reads P t fun d=>∃ a b,d=.st (.pr a b)∧r a∧r b:=by
 intro w H enc spare held fuel cs x h
 obtain ⟨xs,m,_,_,hl,hxl,hx⟩:=DataW.trod_array ht h
 rw [h3] at hl
 match cs,hl with
 | [u,v],_ =>
  have g0:=hx 0 (by decide)
  have g1:=hx 1 (by decide)
  rw [h1,W0d (by omega)] at g0 g1
  obtain ⟨a,a1,a2⟩:=he w g0
  obtain ⟨b,b1,b2⟩:=he w g1
  exact ⟨_,⟨a,b,rfl,a1,b1⟩,[u],[v],rfl,a2,b2⟩
theorem Xvg {P : Program} {t e : TypeId} {n : Nat} {r : D→Prop} (ht : P.underlying t=some (.array n e)) (hr : Reads P t r) (hg : ∀ x,r x→x.ag=true) : Arg P t r:=fun W base _ _ _ _ v d p hok h=>by
 unfold Value.okWide at hok
 rw [ht] at hok
 obtain ⟨cs,rfl,_⟩:=hok
 obtain ⟨fuel,h⟩:=h
 obtain ⟨x,h1,h2⟩:=hr W h
 exact ⟨x,h1,cs.toList,h2,by rw [show AV.ag (.d x)=true from hg x h1];simp [mkv]⟩
end Go.Vm
namespace Go.Proofs.YtclmecgphleeeaaGreatDoor
open Go Go.Vm Go.Num
abbrev dU8 (i j : Nat) : D:=.st (.pr (.int .u8 i) (.int .u8 j))
theorem Xya : Arg Tryz.prog 24 fun d=>∃ i j : Nat,d=dU8 i j∧i<256∧j<256:=Xvg Tryz.underlying24 ((Xqk Tryz.underlying24 (Xd3 Tryz.underlying5) (by kernel_rfl) (by kernel_rfl)).mono fun d ⟨_,_,e,⟨i,e1,hi⟩,⟨j,e2,hj⟩⟩=>by subst e1;subst e2;exact ⟨i,j,e,hi,hj⟩) fun x ⟨_,_,e,_⟩=>by rw [e];rfl
end Go.Proofs.YtclmecgphleeeaaGreatDoor

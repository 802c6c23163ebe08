/- part 4 -/
import Derived.Test.YtdlhdemfnfpboaaGreatDoorXC
import Derived.Test.YtdlhdemfnfpboaaGreatDoorCards
import Derived.Test.YtdlhdemfnfpboaaGreatDoorTie
import Derived.Deep.DeepHandedRow
import Derived.Lib.LaidTab
import Derived.MakeChecks
import Derived.Stop.LaidErr
import Derived.Lib.AppendZeros
import Derived.Lib.Bytealg
set_option linter.unusedVariables false
set_option linter.unusedSimpArgs false
set_option maxRecDepth 100000
namespace Go.Tow
section
inductive Pe where
 | v (i : Nat)
 | z
 | o
 | add (a b : Pe)
 | mul (a b : Pe)
 | neg (a : Pe)
abbrev Xnt:=List (Bool × List Nat)
def ltM : List Nat→List Nat→Bool
 | [],[]=>false
 | [],_::_=>true
 | _::_,[]=>false
 | a::r,b::s=>match Nat.blt a b with
  | true=>true
  | false=>match Nat.beq a b with
   | true=>ltM r s
   | false=>false
def Yfx (i : Nat) : List Nat→List Nat
 | []=>[i]
 | j::r=>match Nat.ble i j with
  | true=>i::j::r
  | false=>j::Yfx i r
def Yb8 (t : Bool × List Nat) : Xnt→Xnt
 | []=>[t]
 | h::r=>if t.2=h.2 then (if t.1=h.1 then t::h::r else r) else match ltM t.2 h.2 with
  | true=>t::h::r
  | false=>h::Yb8 t r
def Yb0 (m n : List Nat) : List Nat:=m.foldr Yfx n
def Yhh (p q : Xnt) : Xnt:=p.foldr Yb8 q
def Ydr (t : Bool × List Nat) (q acc : Xnt) : Xnt:=q.foldr (fun u a=>Yb8 (t.1 != u.1,Yb0 t.2 u.2) a) acc
def Yfg (p q : Xnt) : Xnt:=p.foldr (fun t acc=>Ydr t q acc) []
def nrm : Pe→Xnt
 | .v i=>[(false,[i])]
 | .z=>[]
 | .o=>[(false,[])]
 | .add a b=>Yhh (nrm a) (nrm b)
 | .mul a b=>Yfg (nrm a) (nrm b)
 | .neg a=>(nrm a).map fun t=>(!t.1,t.2)
def Laws.ev {α : Type} {add mul : α→α→α} {neg : α→α} {zero one : α} (L : Laws add mul neg zero one) (xs : List α) : Pe→α
 | .v i=>xs.getD i zero
 | .z=>zero
 | .o=>one
 | .add a b=>add (Laws.ev L xs a) (Laws.ev L xs b)
 | .mul a b=>mul (Laws.ev L xs a) (Laws.ev L xs b)
 | .neg a=>neg (Laws.ev L xs a)
def Laws.eM {α : Type} {add mul : α→α→α} {neg : α→α} {zero one : α} (L : Laws add mul neg zero one) (xs : List α) : List Nat→α
 | []=>one
 | i::r=>mul (xs.getD i zero) (Laws.eM L xs r)
def Laws.eT {α : Type} {add mul : α→α→α} {neg : α→α} {zero one : α} (L : Laws add mul neg zero one) (xs : List α) (t : Bool × List Nat) : α:=match t.1 with
 | true=>neg (L.eM xs t.2)
 | false=>L.eM xs t.2
def Laws.eP {α : Type} {add mul : α→α→α} {neg : α→α} {zero one : α} (L : Laws add mul neg zero one) (xs : List α) : Xnt→α
 | []=>zero
 | t::r=>add (L.eT xs t) (Laws.eP L xs r)
section
variable {α : Type} {add mul : α→α→α} {neg : α→α} {zero one : α} (L : Laws add mul neg zero one) (xs : List α)
include L
theorem Laws.eM_ins (i : Nat) (m : List Nat) : L.eM xs (Yfx i m)=mul (xs.getD i zero) (L.eM xs m):=by
 induction m with
 | nil=>rfl
 | cons j r ih =>
  simp only [Yfx]
  split
  · rfl
  · simp only [eM];rw [ih,L.mlc]
theorem Laws.eM_mul (m n : List Nat) : L.eM xs (Yb0 m n)=mul (L.eM xs m) (L.eM xs n):=by
 induction m with
 | nil=>simp only [Yb0,W7s,eM,L.om]
 | cons i m ih =>
  have : Yb0 (i::m) n=Yfx i (Yb0 m n):=rfl
  rw [this,L.eM_ins,ih,←L.ma];rfl
theorem Laws.eP_ins (t : Bool × List Nat) (p : Xnt) : L.eP xs (Yb8 t p)=add (L.eT xs t) (L.eP xs p):=by
 induction p with
 | nil=>rfl
 | cons h r ih =>
  simp only [Yb8]
  split
  · rename_i h1
    split
    · rfl
    · rename_i h2
      obtain ⟨s,m⟩:=t
      obtain ⟨s',m'⟩:=h
      have h1' : m=m':=h1
      subst h1'
      cases s <;> cases s' <;> first | exact absurd rfl h2 | skip
      · simp only [eP,eT];rw [←L.aa,L.an,L.za]
      · simp only [eP,eT];rw [←L.aa,L.na,L.za]
  · split
    · rfl
    · simp only [eP];rw [ih,L.alc]
theorem Laws.eP_add (p q : Xnt) : L.eP xs (Yhh p q)=add (L.eP xs p) (L.eP xs q):=by
 induction p with
 | nil=>simp only [Yhh,W7s,eP,L.za]
 | cons t p ih =>
  have : Yhh (t::p) q=Yb8 t (Yhh p q):=rfl
  rw [this,L.eP_ins,ih];simp only [eP];rw [L.aa]
theorem Laws.eT_mul (t u : Bool × List Nat) : L.eT xs (t.1 != u.1,Yb0 t.2 u.2)=mul (L.eT xs t) (L.eT xs u):=by
 obtain ⟨s,m⟩:=t
 obtain ⟨s',m'⟩:=u
 cases s <;> cases s' <;> simp [eT,L.eM_mul,L.mn,L.nm,L.nn]
theorem Laws.eP_mulT (t : Bool × List Nat) (q acc : Xnt) : L.eP xs (Ydr t q acc)=add (mul (L.eT xs t) (L.eP xs q)) (L.eP xs acc):=by
 induction q with
 | nil=>simp only [Ydr,W7s,eP,L.mz,L.za]
 | cons u q ih =>
  have : Ydr t (u::q) acc=Yb8 (t.1 != u.1,Yb0 t.2 u.2) (Ydr t q acc):=rfl
  rw [this,L.eP_ins,ih,L.eT_mul];simp only [eP];rw [L.md,L.aa]
theorem Laws.eP_mul (p q : Xnt) : L.eP xs (Yfg p q)=mul (L.eP xs p) (L.eP xs q):=by
 induction p with
 | nil=>simp only [Yfg,W7s,eP,L.zm]
 | cons t p ih =>
  have : Yfg (t::p) q=Ydr t q (Yfg p q):=rfl
  rw [this,L.eP_mulT,ih];simp only [eP];rw [L.dm]
theorem Laws.eP_neg (p : Xnt) : L.eP xs (p.map fun t=>(!t.1,t.2))=neg (L.eP xs p):=by
 induction p with
 | nil=>simp only [List.map_nil,eP,L.nz]
 | cons t p ih =>
  obtain ⟨s,m⟩:=t
  simp only [W3z,eP,L.nd,ih]
  cases s <;> simp [eT,L.nn]
theorem Laws.ev_nrm (e : Pe) : L.ev xs e=L.eP xs (nrm e):=by
 induction e with
 | v i=>simp only [nrm,ev,eP,eT,eM,L.mo,L.az]
 | z=>rfl
 | o=>simp only [nrm,ev,eP,eT,eM,L.az]
 | add a b ha hb=>simp only [nrm,ev,L.eP_add,ha,hb]
 | mul a b ha hb=>simp only [nrm,ev,L.eP_mul,ha,hb]
 | neg a ha=>simp only [nrm,ev,L.eP_neg,ha]
theorem Laws.req (a b : Pe) (h : nrm a=nrm b) : L.ev xs a=L.ev xs b:=by rw [L.ev_nrm,L.ev_nrm,h]
end
end
section
structure Sgn {α : Type} (add mul : α→α→α) (neg : α→α) (one : α) (σ : α→Int) : Prop where
 tri : ∀ a,σ a=1∨σ a=0∨σ a=-1
 sn : ∀ a,σ (neg a)=- σ a
 sm : ∀ a b,σ (mul a b)=σ a*σ b
 sa : ∀ a b,0≤σ a→0≤σ b→0≤σ (add a b)
 sp : ∀ a b,σ a=1→0≤σ b→σ (add a b)=1
 s1 : σ one=1
theorem Xgp {X : Int} (h : X=1∨X=0∨X=-1) : 0≤X*X∧(X≠0→X*X=1)∧(X=0→X*X=0):=by
 rcases h with rfl | rfl | rfl <;> decide
section
variable {α : Type} {add mul : α→α→α} {neg : α→α} {zero one : α} {σ : α→Int} (L : Laws add mul neg zero one) (S : Sgn add mul neg one σ)
include L S
theorem Sgn.s0 : σ zero=0:=by
 have:=S.sn zero
 rw [L.nz] at this
 omega
theorem Sgn.add0 {a b : α} (ha : σ a=0) : σ (add a b)=σ b:=by
 rcases S.tri b with hb | hb | hb
 · rw [hb,L.ac];exact S.sp b a hb (by omega)
 · have h1:=S.sa a b (by omega) (by omega)
   have h2:=S.sa (neg a) (neg b) (by rw [S.sn];omega) (by rw [S.sn];omega)
   rw [←L.nd,S.sn] at h2
   omega
 · have h2:=S.sp (neg b) (neg a) (by rw [S.sn];omega) (by rw [S.sn];omega)
   rw [L.ac,←L.nd,S.sn] at h2
   omega
theorem Sgn.add0' {a b : α} (hb : σ b=0) : σ (add a b)=σ a:=by rw [L.ac,S.add0 L hb]
theorem Sgn.np {a b : α} (ha : σ a=-1) (hb : σ b≤0) : σ (add a b)=-1:=by
 have h2:=S.sp (neg a) (neg b) (by rw [S.sn];omega) (by rw [S.sn];omega)
 rw [←L.nd,S.sn] at h2
 omega
theorem Sgn.same {a b : α} (h : σ a=σ b) : σ (add a b)=σ a:=by
 rcases S.tri a with ha | ha | ha
 · rw [ha];exact S.sp a b ha (by omega)
 · rw [S.add0 L ha,←h]
 · rw [ha];exact S.np L ha (by omega)
theorem Sgn.eqv {a b : α} (h : σ (add a (neg b))=0) : σ a=σ b:=by
 have e : a=add (add a (neg b)) b:=(Laws.req L [a,b] (.v 0) (.add (.add (.v 0) (.neg (.v 1))) (.v 1)) (by decide +kernel))
 rw [e,S.add0 L h]
theorem Sgn.dom {a b : α} (h : σ (add (mul a a) (neg (mul b b)))=1) : σ (add a b)=σ a:=by
 have e : add (mul a a) (neg (mul b b))=mul (add a b) (add a (neg b)):=(Laws.req L [a,b] (.add (.mul (.v 0) (.v 0)) (.neg (.mul (.v 1) (.v 1)))) (.mul (.add (.v 0) (.v 1)) (.add (.v 0) (.neg (.v 1)))) (by decide +kernel))
 have e2 : add a a=add (add a b) (add a (neg b)):=(Laws.req L [a,b] (.add (.v 0) (.v 0)) (.add (.add (.v 0) (.v 1)) (.add (.v 0) (.neg (.v 1)))) (by decide +kernel))
 rw [e,S.sm] at h
 have h2 : σ (add a a)=σ a:=S.same L rfl
 rw [e2] at h2
 rcases S.tri (add a b) with h3 | h3 | h3 <;> rcases S.tri (add a (neg b)) with h4 | h4 | h4 <;> rw [h3,h4] at h <;> first | (exact absurd h (by decide)) | skip
 · rw [←h2,h3];exact (S.sp _ _ h3 (by omega)).symm
 · rw [←h2,h3];exact (S.np L h3 (by omega)).symm
theorem Sgn.dom0 {a b : α} (h : σ (add (mul a a) (neg (mul b b)))=0) : σ (add a b)=Int.sign (σ a+σ b):=by
 have e : add (mul a a) (neg (mul b b))=mul (add a b) (add a (neg b)):=(Laws.req L [a,b] (.add (.mul (.v 0) (.v 0)) (.neg (.mul (.v 1) (.v 1)))) (.mul (.add (.v 0) (.v 1)) (.add (.v 0) (.neg (.v 1)))) (by decide +kernel))
 rw [e,S.sm] at h
 rcases Int.mul_eq_zero.1 h with h1 | h1
 · have e2 : a=add (add a b) (neg b):=(Laws.req L [a,b] (.v 0) (.add (.add (.v 0) (.v 1)) (.neg (.v 1))) (by decide +kernel))
   have h2 : σ a=- σ b:=by
    conv=>lhs;rw [e2]
    rw [S.add0 L h1,S.sn]
   rw [h1,h2,show -σ b+σ b=0 from by omega];rfl
 · have h2:=S.eqv L h1
   rw [S.same L h2,←h2]
   rcases S.tri a with ha | ha | ha <;> rw [ha] <;> rfl
end
def Laws.nP {α : Type} {add mul : α→α→α} {neg : α→α} {zero one : α} (L : Laws add mul neg zero one) (d : α) (p : α × α) : α:=add (mul p.1 p.1) (neg (mul (mul p.2 p.2) d))
def Laws.mQ {α : Type} {add mul : α→α→α} {neg : α→α} {zero one : α} (L : Laws add mul neg zero one) (d : α) (p q : α × α) : α × α:=(add (mul p.1 q.1) (mul (mul p.2 q.2) d),add (mul p.1 q.2) (mul p.2 q.1))
def Laws.aQ {α : Type} {add mul : α→α→α} {neg : α→α} {zero one : α} (L : Laws add mul neg zero one) (p q : α × α) : α × α:=(add p.1 q.1,add p.2 q.2)
def Laws.gQ {α : Type} {add mul : α→α→α} {neg : α→α} {zero one : α} (L : Laws add mul neg zero one) (p : α × α) : α × α:=(neg p.1,neg p.2)
def Laws.sx {α : Type} {add mul : α→α→α} {neg : α→α} {zero one : α} (L : Laws add mul neg zero one) (d : α) (σ : α→Int) (p : α × α) : Int :=
 if σ p.2=0∨σ p.1=σ p.2 then σ p.1 else if σ p.1=0 then σ p.2 else σ p.1*σ (L.nP d p)
theorem Yec {X Y ν : Int} (h1 : X=1∨X=0∨X=-1) (h2 : Y=1∨Y=0∨Y=-1) (h3 : ν=1∨ν=0∨ν=-1) (hx : X=0→ν=-(Y*Y)) (hy : Y=0→ν=X*X) :
 (if Y=0∨X=Y then X else if X=0 then Y else X*ν)=if ν=1 then X else if ν=-1 then Y else Int.sign (X+Y):=by
 rcases h1 with rfl | rfl | rfl <;> rcases h2 with rfl | rfl | rfl <;> rcases h3 with rfl | rfl | rfl <;>
  first | rfl | (exact absurd (hx rfl) (by decide)) | (exact absurd (hy rfl) (by decide)) | decide
section
variable {α : Type} {add mul : α→α→α} {neg : α→α} {zero one d : α} {σ : α→Int} (L : Laws add mul neg zero one) (S : Sgn add mul neg one σ) (hd : σ d=1)
include L S hd
theorem Sgn.n0x {p : α × α} (h : σ p.1=0) : σ (L.nP d p)=-(σ p.2*σ p.2):=by
 unfold Laws.nP
 rw [S.add0 L (by rw [S.sm,h];rfl),S.sn,S.sm,S.sm,hd,W4t]
theorem Sgn.n0y {p : α × α} (h : σ p.2=0) : σ (L.nP d p)=σ p.1*σ p.1:=by
 have _u:=hd
 unfold Laws.nP
 rw [S.add0' L (by rw [S.sn,S.sm,S.sm,h];simp),S.sm]
theorem Sgn.sx_eq (p : α × α) : L.sx d σ p=if σ (L.nP d p)=1 then σ p.1 else if σ (L.nP d p)=-1 then σ p.2 else Int.sign (σ p.1+σ p.2) :=
 Yec (S.tri _) (S.tri _) (S.tri _) (S.n0x L hd) (S.n0y L hd)
theorem Sgn.sx1 {p : α × α} (h : σ (L.nP d p)=1) : L.sx d σ p=σ p.1∧σ p.1≠0:=by
 refine ⟨by rw [S.sx_eq L hd,if_pos h],fun h0=>?_⟩
 have h1:=S.n0x L hd h0
 have:=(Xgp (S.tri p.2)).1
 omega
theorem Sgn.sxm {p : α × α} (h : σ (L.nP d p)=-1) : L.sx d σ p=σ p.2∧σ p.2≠0:=by
 refine ⟨by rw [S.sx_eq L hd,if_neg (by omega),if_pos h],fun h0=>?_⟩
 have h1:=S.n0y L hd h0
 have:=(Xgp (S.tri p.1)).1
 omega
theorem Sgn.sxz {p : α × α} (h : σ (L.nP d p)=0) : L.sx d σ p=Int.sign (σ p.1+σ p.2)∧(σ p.1=0↔σ p.2=0):=by
 refine ⟨by rw [S.sx_eq L hd,if_neg (by omega),if_neg (by omega)],fun h0=>?_,fun h0=>?_⟩
 · have h1:=S.n0x L hd h0
   have h2:=(Xgp (S.tri p.2)).2.1
   exact W1f fun h3=>by have:=h2 h3;omega
 · have h1:=S.n0y L hd h0
   have h2:=(Xgp (S.tri p.1)).2.1
   exact W1f fun h3=>by have:=h2 h3;omega
theorem Sgn.sd (z : α) : σ (mul d z)=σ z:=by
 have _u:=L
 rw [S.sm,hd,W5m]
theorem Sgn.mul_core (p q : α × α) (h : σ (L.nP d q)=0→σ (L.nP d p)=0) : L.sx d σ (L.mQ d p q)=L.sx d σ p*L.sx d σ q:=by
 obtain ⟨a1,b1⟩:=p
 obtain ⟨a2,b2⟩:=q
 have hN : σ (L.nP d (L.mQ d (a1,b1) (a2,b2)))=σ (L.nP d (a1,b1))*σ (L.nP d (a2,b2)):=by
  rw [←S.sm];congr 1
  exact (Laws.req L [a1,b1,a2,b2,d] (.add (.mul (.add (.mul (.v 0) (.v 2)) (.mul (.mul (.v 1) (.v 3)) (.v 4))) (.add (.mul (.v 0) (.v 2)) (.mul (.mul (.v 1) (.v 3)) (.v 4)))) (.neg (.mul (.mul (.add (.mul (.v 0) (.v 3)) (.mul (.v 1) (.v 2))) (.add (.mul (.v 0) (.v 3)) (.mul (.v 1) (.v 2)))) (.v 4)))) (.mul (.add (.mul (.v 0) (.v 0)) (.neg (.mul (.mul (.v 1) (.v 1)) (.v 4)))) (.add (.mul (.v 2) (.v 2)) (.neg (.mul (.mul (.v 3) (.v 3)) (.v 4))))) (by decide +kernel))
 have eX : ∀ n1 n2,n1=L.nP d (a1,b1)→n2=L.nP d (a2,b2)→add (mul (mul a1 a2) (mul a1 a2)) (neg (mul (mul (mul b1 b2) d) (mul (mul b1 b2) d)))=add (add (mul (mul a1 a1) n2) (mul (mul a2 a2) n1)) (neg (mul n1 n2)):=by
  rintro _ _ rfl rfl
  exact (Laws.req L [a1,b1,a2,b2,d] (.add (.mul (.mul (.v 0) (.v 2)) (.mul (.v 0) (.v 2))) (.neg (.mul (.mul (.mul (.v 1) (.v 3)) (.v 4)) (.mul (.mul (.v 1) (.v 3)) (.v 4))))) (.add (.add (.mul (.mul (.v 0) (.v 0)) (.add (.mul (.v 2) (.v 2)) (.neg (.mul (.mul (.v 3) (.v 3)) (.v 4))))) (.mul (.mul (.v 2) (.v 2)) (.add (.mul (.v 0) (.v 0)) (.neg (.mul (.mul (.v 1) (.v 1)) (.v 4)))))) (.neg (.mul (.add (.mul (.v 0) (.v 0)) (.neg (.mul (.mul (.v 1) (.v 1)) (.v 4)))) (.add (.mul (.v 2) (.v 2)) (.neg (.mul (.mul (.v 3) (.v 3)) (.v 4))))))) (by decide +kernel))
 have eX2 : ∀ n1 n2,n1=L.nP d (a1,b1)→n2=L.nP d (a2,b2)→add (mul (mul a1 a2) (mul a1 a2)) (neg (mul (mul (mul b1 b2) d) (mul (mul b1 b2) d)))=add (mul (mul a1 a1) n2) (mul (mul d (mul b2 b2)) n1):=by
  rintro _ _ rfl rfl
  exact (Laws.req L [a1,b1,a2,b2,d] (.add (.mul (.mul (.v 0) (.v 2)) (.mul (.v 0) (.v 2))) (.neg (.mul (.mul (.mul (.v 1) (.v 3)) (.v 4)) (.mul (.mul (.v 1) (.v 3)) (.v 4))))) (.add (.mul (.mul (.v 0) (.v 0)) (.add (.mul (.v 2) (.v 2)) (.neg (.mul (.mul (.v 3) (.v 3)) (.v 4))))) (.mul (.mul (.v 4) (.mul (.v 3) (.v 3))) (.add (.mul (.v 0) (.v 0)) (.neg (.mul (.mul (.v 1) (.v 1)) (.v 4)))))) (by decide +kernel))
 have eXr : ∀ n1 n2,n1=L.nP d (a1,b1)→n2=L.nP d (a2,b2)→add (mul (mul (mul b1 b2) d) (mul (mul b1 b2) d)) (neg (mul (mul a1 a2) (mul a1 a2)))=add (add (neg (mul (mul a1 a1) n2)) (neg (mul (mul a2 a2) n1))) (mul n1 n2):=by
  rintro _ _ rfl rfl
  exact (Laws.req L [a1,b1,a2,b2,d] (.add (.mul (.mul (.mul (.v 1) (.v 3)) (.v 4)) (.mul (.mul (.v 1) (.v 3)) (.v 4))) (.neg (.mul (.mul (.v 0) (.v 2)) (.mul (.v 0) (.v 2))))) (.add (.add (.neg (.mul (.mul (.v 0) (.v 0)) (.add (.mul (.v 2) (.v 2)) (.neg (.mul (.mul (.v 3) (.v 3)) (.v 4)))))) (.neg (.mul (.mul (.v 2) (.v 2)) (.add (.mul (.v 0) (.v 0)) (.neg (.mul (.mul (.v 1) (.v 1)) (.v 4))))))) (.mul (.add (.mul (.v 0) (.v 0)) (.neg (.mul (.mul (.v 1) (.v 1)) (.v 4)))) (.add (.mul (.v 2) (.v 2)) (.neg (.mul (.mul (.v 3) (.v 3)) (.v 4)))))) (by decide +kernel))
 have eY : ∀ n1 n2,n1=L.nP d (a1,b1)→n2=L.nP d (a2,b2)→mul d (add (mul (mul a1 b2) (mul a1 b2)) (neg (mul (mul b1 a2) (mul b1 a2))))=add (neg (mul (mul a1 a1) n2)) (mul (mul a2 a2) n1):=by
  rintro _ _ rfl rfl
  exact (Laws.req L [a1,b1,a2,b2,d] (.mul (.v 4) (.add (.mul (.mul (.v 0) (.v 3)) (.mul (.v 0) (.v 3))) (.neg (.mul (.mul (.v 1) (.v 2)) (.mul (.v 1) (.v 2)))))) (.add (.neg (.mul (.mul (.v 0) (.v 0)) (.add (.mul (.v 2) (.v 2)) (.neg (.mul (.mul (.v 3) (.v 3)) (.v 4)))))) (.mul (.mul (.v 2) (.v 2)) (.add (.mul (.v 0) (.v 0)) (.neg (.mul (.mul (.v 1) (.v 1)) (.v 4)))))) (by decide +kernel))
 have eYr : ∀ n1 n2,n1=L.nP d (a1,b1)→n2=L.nP d (a2,b2)→mul d (add (mul (mul b1 a2) (mul b1 a2)) (neg (mul (mul a1 b2) (mul a1 b2))))=add (neg (mul (mul a2 a2) n1)) (mul (mul a1 a1) n2):=by
  rintro _ _ rfl rfl
  exact (Laws.req L [a1,b1,a2,b2,d] (.mul (.v 4) (.add (.mul (.mul (.v 1) (.v 2)) (.mul (.v 1) (.v 2))) (.neg (.mul (.mul (.v 0) (.v 3)) (.mul (.v 0) (.v 3)))))) (.add (.neg (.mul (.mul (.v 2) (.v 2)) (.add (.mul (.v 0) (.v 0)) (.neg (.mul (.mul (.v 1) (.v 1)) (.v 4)))))) (.mul (.mul (.v 0) (.v 0)) (.add (.mul (.v 2) (.v 2)) (.neg (.mul (.mul (.v 3) (.v 3)) (.v 4)))))) (by decide +kernel))
 have eX:=eX _ _ rfl rfl
 have eX2:=eX2 _ _ rfl rfl
 have eXr:=eXr _ _ rfl rfl
 have eY:=eY _ _ rfl rfl
 have eYr:=eYr _ _ rfl rfl
 have Sx:=@Sgn.sx1 _ _ _ _ _ _ d σ L S hd
 have Sm:=@Sgn.sxm _ _ _ _ _ _ d σ L S hd
 have Sz:=@Sgn.sxz _ _ _ _ _ _ d σ L S hd
 have ta1:=S.tri a1
 have tb1:=S.tri b1
 have ta2:=S.tri a2
 have tb2:=S.tri b2
 have sA : σ (mul (mul a1 a1) (L.nP d (a2,b2)))=σ a1*σ a1*σ (L.nP d (a2,b2)):=by rw [S.sm,S.sm]
 have sB : σ (mul (mul a2 a2) (L.nP d (a1,b1)))=σ a2*σ a2*σ (L.nP d (a1,b1)):=by rw [S.sm,S.sm]
 have sC : σ (mul (L.nP d (a1,b1)) (L.nP d (a2,b2)))=σ (L.nP d (a1,b1))*σ (L.nP d (a2,b2)):=S.sm _ _
 have sD : σ (mul (mul d (mul b2 b2)) (L.nP d (a1,b1)))=σ b2*σ b2*σ (L.nP d (a1,b1)):=by rw [S.sm,S.sd L hd,S.sm]
 have sb : σ (mul (mul b1 b2) d)=σ b1*σ b2:=by rw [S.sm,S.sm,hd,W4t]
 have qa1:=Xgp ta1
 have qa2:=Xgp ta2
 have qb2:=Xgp tb2
 rcases S.tri (L.nP d (a1,b1)) with h1 | h1 | h1 <;> rcases S.tri (L.nP d (a2,b2)) with h2 | h2 | h2 <;> simp only [h1,h2,W4t,Int.mul_zero,Int.mul_neg] at sA sB sC sD hN
 · obtain ⟨k1,z1⟩:=Sx h1
   obtain ⟨k2,z2⟩:=Sx h2
   have z1 : σ a1≠0:=z1
   have:=S.dom L (a:=mul a1 a2) (b:=mul (mul b1 b2) d) (by rw [eX2];exact S.sp _ _ (by rw [sA,qa1.2.1 z1]) (by rw [sD];exact qb2.1))
   rw [(Sx hN).1,k1,k2]
   show σ (add (mul a1 a2) (mul (mul b1 b2) d))=σ a1*σ a2
   rw [this,S.sm]
 · exact absurd (h h2) (by omega)
 · obtain ⟨k1,z1⟩:=Sx h1
   obtain ⟨k2,z2⟩:=Sm h2
   have z1 : σ a1≠0:=z1
   have z2 : σ b2≠0:=z2
   have:=S.dom L (a:=mul a1 b2) (b:=mul b1 a2) (by rw [←S.sd L hd,eY];exact S.sp _ _ (by rw [S.sn,sA,qa1.2.1 z1];rfl) (by rw [sB];exact qa2.1))
   rw [(Sm hN).1,k1,k2]
   show σ (add (mul a1 b2) (mul b1 a2))=σ a1*σ b2
   rw [this,S.sm]
 · obtain ⟨k1,e1⟩:=Sz h1
   obtain ⟨k2,z2⟩:=Sx h2
   have z2 : σ a2≠0:=z2
   have e1 : σ a1=0↔σ b1=0:=e1
   rw [(Sz hN).1,k1,k2]
   show Int.sign (σ (add (mul a1 a2) (mul (mul b1 b2) d))+σ (add (mul a1 b2) (mul b1 a2)))=Int.sign (σ a1+σ b1)*σ a2
   by_cases z1 : σ a1=0
   · have zb:=e1.1 z1
     rw [S.add0 L (by rw [S.sm,z1,W4w]),S.add0 L (by rw [S.sm,z1,W4w]),sb,S.sm,z1,zb,W4w,W4w];simp
   · have g1:=S.dom L (a:=mul a1 a2) (b:=mul (mul b1 b2) d) (by rw [eX];exact S.sp _ _ (S.sp _ _ (by rw [sA,qa1.2.1 z1]) (by rw [sB];exact W7w _)) (by rw [S.sn,sC];decide))
     have g2:=S.dom L (a:=mul b1 a2) (b:=mul a1 b2) (by rw [←S.sd L hd,eYr,L.ac];exact S.sp _ _ (by rw [sA,qa1.2.1 z1]) (by rw [S.sn,sB];decide))
     rw [g1,L.ac (mul a1 b2),g2,S.sm,S.sm]
     have zb : σ b1≠0:=fun h=>z1 (e1.2 h)
     revert z1 z2 zb
     rcases ta1 with h | h | h <;> rcases tb1 with h' | h' | h' <;> rcases ta2 with h'' | h'' | h'' <;> rw [h,h',h''] <;> decide
 · obtain ⟨k1,e1⟩:=Sz h1
   obtain ⟨k2,e2⟩:=Sz h2
   have e1 : σ a1=0↔σ b1=0:=e1
   have e2 : σ a2=0↔σ b2=0:=e2
   rw [(Sz hN).1,k1,k2]
   show Int.sign (σ (add (mul a1 a2) (mul (mul b1 b2) d))+σ (add (mul a1 b2) (mul b1 a2)))=Int.sign (σ a1+σ b1)*Int.sign (σ a2+σ b2)
   have g1:=S.dom0 L (a:=mul a1 a2) (b:=mul (mul b1 b2) d) (by rw [eX,S.add0' L (by rw [S.sn,sC];rfl),S.add0 L sA,sB])
   have g2:=S.dom0 L (a:=mul a1 b2) (b:=mul b1 a2) (by rw [←S.sd L hd,eY,S.add0 L (by rw [S.sn,sA];rfl),sB])
   rw [g1,g2,sb,S.sm,S.sm,S.sm]
   revert e1 e2
   rcases ta1 with h | h | h <;> rcases tb1 with h' | h' | h' <;> rcases ta2 with h'' | h'' | h'' <;> rcases tb2 with g | g | g <;> rw [h,h',h'',g] <;> decide
 · obtain ⟨k1,e1⟩:=Sz h1
   obtain ⟨k2,z2⟩:=Sm h2
   have z2 : σ b2≠0:=z2
   have e1 : σ a1=0↔σ b1=0:=e1
   rw [(Sz hN).1,k1,k2]
   show Int.sign (σ (add (mul a1 a2) (mul (mul b1 b2) d))+σ (add (mul a1 b2) (mul b1 a2)))=Int.sign (σ a1+σ b1)*σ b2
   by_cases z1 : σ a1=0
   · have zb:=e1.1 z1
     rw [S.add0 L (by rw [S.sm,z1,W4w]),S.add0 L (by rw [S.sm,z1,W4w]),sb,S.sm,z1,zb,W4w,W4w];simp
   · have g1:=S.dom L (a:=mul (mul b1 b2) d) (b:=mul a1 a2) (by rw [eXr];exact S.sp _ _ (S.sp _ _ (by rw [S.sn,sA,qa1.2.1 z1];rfl) (by rw [S.sn,sB];decide)) (by rw [sC];decide))
     have g2:=S.dom L (a:=mul a1 b2) (b:=mul b1 a2) (by rw [←S.sd L hd,eY];exact S.sp _ _ (by rw [S.sn,sA,qa1.2.1 z1];rfl) (by rw [sB];exact W7w _))
     rw [L.ac (mul a1 a2),g1,g2,sb,S.sm]
     have zb : σ b1≠0:=fun h=>z1 (e1.2 h)
     revert z1 z2 zb
     rcases ta1 with h | h | h <;> rcases tb1 with h' | h' | h' <;> rcases tb2 with h'' | h'' | h'' <;> rw [h,h',h''] <;> decide
 · obtain ⟨k1,z1⟩:=Sm h1
   obtain ⟨k2,z2⟩:=Sx h2
   have z2 : σ a2≠0:=z2
   have:=S.dom L (a:=mul b1 a2) (b:=mul a1 b2) (by rw [←S.sd L hd,eYr];exact S.sp _ _ (by rw [S.sn,sB,qa2.2.1 z2];rfl) (by rw [sA];exact qa1.1))
   rw [(Sm hN).1,k1,k2]
   show σ (add (mul a1 b2) (mul b1 a2))=σ b1*σ a2
   rw [L.ac,this,S.sm]
 · exact absurd (h h2) (by omega)
 · obtain ⟨k1,z1⟩:=Sm h1
   obtain ⟨k2,z2⟩:=Sm h2
   have:=S.dom L (a:=mul (mul b1 b2) d) (b:=mul a1 a2) (by rw [eXr,L.ac];exact S.sp _ _ (by rw [sC];rfl) (S.sa _ _ (by rw [S.sn,sA];have:=qa1.1;omega) (by rw [S.sn,sB];have:=qa2.1;omega)))
   rw [(Sx hN).1,k1,k2]
   show σ (add (mul a1 a2) (mul (mul b1 b2) d))=σ b1*σ b2
   rw [L.ac,this,sb]
theorem Sgn.smul (p q : α × α) : L.sx d σ (L.mQ d p q)=L.sx d σ p*L.sx d σ q:=by
 by_cases h : σ (L.nP d q)=0→σ (L.nP d p)=0
 · exact S.mul_core L hd p q h
 · have h1 : σ (L.nP d q)=0:=W1f fun h2=>h fun h3=>absurd h3 h2
   have e : L.mQ d p q=L.mQ d q p:=by
    obtain ⟨a1,b1⟩:=p
    obtain ⟨a2,b2⟩:=q
    exact W4e (Laws.req L [a1,b1,a2,b2,d] (.add (.mul (.v 0) (.v 2)) (.mul (.mul (.v 1) (.v 3)) (.v 4))) (.add (.mul (.v 2) (.v 0)) (.mul (.mul (.v 3) (.v 1)) (.v 4))) (by decide +kernel)) (Laws.req L [a1,b1,a2,b2,d] (.add (.mul (.v 0) (.v 3)) (.mul (.v 1) (.v 2))) (.add (.mul (.v 2) (.v 1)) (.mul (.v 3) (.v 0))) (by decide +kernel))
   rw [e,S.mul_core L hd q p fun _=>h1,Int.mul_comm]
theorem Sgn.sneg (p : α × α) : L.sx d σ (L.gQ p)=- L.sx d σ p:=by
 have e : L.nP d (L.gQ p)=L.nP d p:=by
  obtain ⟨a,b⟩:=p
  exact (Laws.req L [a,b,d] (.add (.mul (.neg (.v 0)) (.neg (.v 0))) (.neg (.mul (.mul (.neg (.v 1)) (.neg (.v 1))) (.v 2)))) (.add (.mul (.v 0) (.v 0)) (.neg (.mul (.mul (.v 1) (.v 1)) (.v 2)))) (by decide +kernel))
 rw [S.sx_eq L hd,S.sx_eq L hd,e]
 show (if σ (L.nP d p)=1 then σ (neg p.1) else if σ (L.nP d p)=-1 then σ (neg p.2) else Int.sign (σ (neg p.1)+σ (neg p.2)))=_
 rw [S.sn,S.sn]
 split
 · rfl
 · split
   · rfl
   · rw [←Int.neg_add,Int.sign_neg]
def Laws.Rt {α : Type} {add mul : α→α→α} {neg : α→α} {zero one : α} (L : Laws add mul neg zero one) (d : α) (σ : α→Int) (p q : α) : Prop:=σ p=1∧σ q=1∧σ (add (mul p p) (neg (mul d (mul q q))))=0
theorem Sgn.sx_rt {p q : α} (h : L.Rt d σ p q) (x : α × α) : L.sx d σ x=σ (add (mul x.1 q) (mul x.2 p)):=by
 obtain ⟨hp,hq,h0⟩:=h
 obtain ⟨a,b⟩:=x
 show L.sx d σ (a,b)=σ (add (mul a q) (mul b p))
 have e1 : ∀ n,n=L.nP d (a,b)→mul n (mul q q)=add (mul (mul b b) (add (mul p p) (neg (mul d (mul q q))))) (mul (add (mul a q) (mul b p)) (add (mul a q) (neg (mul b p)))):=by
  rintro _ rfl
  exact (Laws.req L [a,b,p,q,d] (.mul (.add (.mul (.v 0) (.v 0)) (.neg (.mul (.mul (.v 1) (.v 1)) (.v 4)))) (.mul (.v 3) (.v 3))) (.add (.mul (.mul (.v 1) (.v 1)) (.add (.mul (.v 2) (.v 2)) (.neg (.mul (.v 4) (.mul (.v 3) (.v 3)))))) (.mul (.add (.mul (.v 0) (.v 3)) (.mul (.v 1) (.v 2))) (.add (.mul (.v 0) (.v 3)) (.neg (.mul (.v 1) (.v 2)))))) (by decide +kernel))
 have e1:=e1 _ rfl
 have hN : σ (L.nP d (a,b))=σ (add (mul a q) (mul b p))*σ (add (mul a q) (neg (mul b p))):=by
  have e4:=congrArg σ e1
  rw [S.add0 L (a:=mul (mul b b) (add (mul p p) (neg (mul d (mul q q))))) (by rw [S.sm,h0,Int.mul_zero]),S.sm,S.sm,hq,W4t,W4t,S.sm] at e4
  exact e4
 have e2 : add (mul a q) (mul a q)=add (add (mul a q) (mul b p)) (add (mul a q) (neg (mul b p))):=(Laws.req L [a,b,p,q] (.add (.mul (.v 0) (.v 3)) (.mul (.v 0) (.v 3))) (.add (.add (.mul (.v 0) (.v 3)) (.mul (.v 1) (.v 2))) (.add (.mul (.v 0) (.v 3)) (.neg (.mul (.v 1) (.v 2))))) (by decide +kernel))
 have e3 : add (mul b p) (mul b p)=add (add (mul a q) (mul b p)) (neg (add (mul a q) (neg (mul b p)))):=(Laws.req L [a,b,p,q] (.add (.mul (.v 1) (.v 2)) (.mul (.v 1) (.v 2))) (.add (.add (.mul (.v 0) (.v 3)) (.mul (.v 1) (.v 2))) (.neg (.add (.mul (.v 0) (.v 3)) (.neg (.mul (.v 1) (.v 2)))))) (by decide +kernel))
 have hX : σ a=σ (add (add (mul a q) (mul b p)) (add (mul a q) (neg (mul b p)))):=by
  rw [←e2,S.same L rfl,S.sm,hq,W4t]
 have hY : σ b=σ (add (add (mul a q) (mul b p)) (neg (add (mul a q) (neg (mul b p))))):=by
  rw [←e3,S.same L rfl,S.sm,hp,W4t]
 generalize add (mul a q) (mul b p)=A at *
 generalize add (mul a q) (neg (mul b p))=B at *
 rw [S.sx_eq L hd]
 show (if σ (L.nP d (a,b))=1 then σ a else if σ (L.nP d (a,b))=-1 then σ b else Int.sign (σ a+σ b))=σ A
 rw [hN]
 rcases S.tri A with h | h | h <;> rcases S.tri B with h' | h' | h'
 · rw [h,h',if_pos (by decide),hX,S.same L (by omega),h]
 · rw [h,h',if_neg (by decide),if_neg (by decide),hX,hY,S.add0' L h',S.add0' L (by rw [S.sn];omega),h];rfl
 · rw [h,h',if_neg (by decide),if_pos (by decide),hY,S.same L (by rw [S.sn];omega),h]
 · rw [h,h',if_neg (by decide),if_neg (by decide),hX,hY,S.add0 L h,S.add0 L h,S.sn,h'];rfl
 · rw [h,h',if_neg (by decide),if_neg (by decide),hX,hY,S.add0 L h,S.add0 L h,S.sn,h'];rfl
 · rw [h,h',if_neg (by decide),if_neg (by decide),hX,hY,S.add0 L h,S.add0 L h,S.sn,h'];rfl
 · rw [h,h',if_neg (by decide),if_pos (by decide),hY,S.same L (by rw [S.sn];omega),h]
 · rw [h,h',if_neg (by decide),if_neg (by decide),hX,hY,S.add0' L h',S.add0' L (by rw [S.sn];omega),h];rfl
 · rw [h,h',if_pos (by decide),hX,S.same L (by omega),h]
theorem Sgn.no_rt (hE : ∀ p q,¬ L.Rt d σ p q) {x : α × α} (h : σ (L.nP d x)=0) : σ x.1=0∧σ x.2=0:=by
 obtain ⟨a,b⟩:=x
 have h0:=(S.sxz L hd h).2
 have h0 : σ a=0↔σ b=0:=h0
 have e : ∀ n,n=L.nP d (a,b)→add (mul a a) (neg (mul d (mul b b)))=n∧add (mul (neg a) (neg a)) (neg (mul d (mul b b)))=n∧add (mul a a) (neg (mul d (mul (neg b) (neg b))))=n∧add (mul (neg a) (neg a)) (neg (mul d (mul (neg b) (neg b))))=n:=by
  rintro _ rfl
  exact ⟨(Laws.req L [a,b,d] (.add (.mul (.v 0) (.v 0)) (.neg (.mul (.v 2) (.mul (.v 1) (.v 1))))) (.add (.mul (.v 0) (.v 0)) (.neg (.mul (.mul (.v 1) (.v 1)) (.v 2)))) (by decide +kernel)),(Laws.req L [a,b,d] (.add (.mul (.neg (.v 0)) (.neg (.v 0))) (.neg (.mul (.v 2) (.mul (.v 1) (.v 1))))) (.add (.mul (.v 0) (.v 0)) (.neg (.mul (.mul (.v 1) (.v 1)) (.v 2)))) (by decide +kernel)),(Laws.req L [a,b,d] (.add (.mul (.v 0) (.v 0)) (.neg (.mul (.v 2) (.mul (.neg (.v 1)) (.neg (.v 1)))))) (.add (.mul (.v 0) (.v 0)) (.neg (.mul (.mul (.v 1) (.v 1)) (.v 2)))) (by decide +kernel)),(Laws.req L [a,b,d] (.add (.mul (.neg (.v 0)) (.neg (.v 0))) (.neg (.mul (.v 2) (.mul (.neg (.v 1)) (.neg (.v 1)))))) (.add (.mul (.v 0) (.v 0)) (.neg (.mul (.mul (.v 1) (.v 1)) (.v 2)))) (by decide +kernel))⟩
 obtain ⟨e1,e2,e3,e4⟩:=e _ rfl
 show σ a=0∧σ b=0
 rcases S.tri a with h1 | h1 | h1
 · rcases S.tri b with h2 | h2 | h2
   · exact absurd ⟨h1,h2,by rw [e1];exact h⟩ (hE a b)
   · omega
   · exact absurd ⟨h1,by rw [S.sn];omega,by rw [e3];exact h⟩ (hE a (neg b))
 · exact ⟨h1,h0.1 h1⟩
 · rcases S.tri b with h2 | h2 | h2
   · exact absurd ⟨by rw [S.sn];omega,h2,by rw [e2];exact h⟩ (hE (neg a) b)
   · omega
   · exact absurd ⟨by rw [S.sn];omega,by rw [S.sn];omega,by rw [e4];exact h⟩ (hE (neg a) (neg b))
theorem Sgn.sx_n (hE : ∀ p q,¬ L.Rt d σ p q) {n a b : α} (hn : σ n=1) (h : 0≤L.sx d σ (a,b)) : L.sx d σ (add a n,b)=1:=by
 have Sx:=@Sgn.sx1 _ _ _ _ _ _ d σ L S hd
 have Sm:=@Sgn.sxm _ _ _ _ _ _ d σ L S hd
 rcases S.tri (L.nP d (a,b)) with h1 | h1 | h1
 · obtain ⟨k1,z1⟩:=Sx h1
   have k1 : L.sx d σ (a,b)=σ a:=k1
   have z1 : σ a≠0:=z1
   have ha : σ a=1:=by rcases S.tri a with h | h | h <;> omega
   have hN : σ (L.nP d (add a n,b))=1:=by
    have e : ∀ m,m=L.nP d (a,b)→L.nP d (add a n,b)=add m (mul n (add (add a a) n)):=by
     rintro _ rfl
     exact (Laws.req L [a,b,n,d] (.add (.mul (.add (.v 0) (.v 2)) (.add (.v 0) (.v 2))) (.neg (.mul (.mul (.v 1) (.v 1)) (.v 3)))) (.add (.add (.mul (.v 0) (.v 0)) (.neg (.mul (.mul (.v 1) (.v 1)) (.v 3)))) (.mul (.v 2) (.add (.add (.v 0) (.v 0)) (.v 2)))) (by decide +kernel))
    rw [e _ rfl]
    exact S.sp _ _ h1 (by rw [S.sm,hn,S.sp _ _ (S.sp _ _ ha (by omega)) (by omega)];decide)
   rw [(Sx hN).1]
   exact S.sp _ _ ha (by omega)
 · obtain ⟨k1,k2⟩:=S.no_rt L hd hE h1
   have k1 : σ a=0:=k1
   have k2 : σ b=0:=k2
   have : σ (add a n)=1:=by rw [S.add0 L k1,hn]
   unfold Laws.sx
   rw [if_pos (.inl k2)];exact this
 · obtain ⟨k1,z1⟩:=Sm h1
   have k1 : L.sx d σ (a,b)=σ b:=k1
   have z1 : σ b≠0:=z1
   have hb : σ b=1:=by rcases S.tri b with h | h | h <;> omega
   rcases S.tri (L.nP d (add a n,b)) with h2 | h2 | h2
   · obtain ⟨k3,z3⟩:=Sx h2
     rw [k3]
     show σ (add a n)=1
     have z3 : σ (add a n)≠0:=z3
     rcases S.tri (add a n) with h | h | h
     · exact h
     · omega
     · exfalso
       have e : ∀ m,m=L.nP d (add a n,b)→L.nP d (a,b)=add m (mul n (add (neg (add a n)) (add (neg (add a n)) n))):=by
        rintro _ rfl
        exact (Laws.req L [a,b,n,d] (.add (.mul (.v 0) (.v 0)) (.neg (.mul (.mul (.v 1) (.v 1)) (.v 3)))) (.add (.add (.mul (.add (.v 0) (.v 2)) (.add (.v 0) (.v 2))) (.neg (.mul (.mul (.v 1) (.v 1)) (.v 3)))) (.mul (.v 2) (.add (.neg (.add (.v 0) (.v 2))) (.add (.neg (.add (.v 0) (.v 2))) (.v 2))))) (by decide +kernel))
       have g1 : σ (neg (add a n))=1:=by rw [S.sn];omega
       rw [e _ rfl,S.sp _ _ h2 (by rw [S.sm,hn,S.sp _ _ g1 (by rw [S.sp _ _ g1 (by omega)];decide)];decide)] at h1
       omega
   · have:=(S.no_rt L hd hE h2).2
     have : σ b=0:=this
     omega
   · rw [(Sm h2).1];exact hb
theorem Sgn.ext : Sgn L.aQ (L.mQ d) L.gQ (one,zero) (L.sx d σ):=by
 have tri : ∀ p,L.sx d σ p=1∨L.sx d σ p=0∨L.sx d σ p=-1:=by
  intro p
  rw [S.sx_eq L hd]
  split
  · exact S.tri _
  · split
    · exact S.tri _
    · rcases S.tri p.1 with h | h | h <;> rcases S.tri p.2 with h' | h' | h' <;> rw [h,h'] <;> decide
 have low : ∀ a b,σ b=0→L.sx d σ (a,b)=σ a:=by
  intro a b h
  unfold Laws.sx
  rw [if_pos (.inl h)]
 by_cases hE : ∃ p q,L.Rt d σ p q
 · obtain ⟨p,q,h⟩:=hE
   have hadd : ∀ x y : α × α,add (mul (L.aQ x y).1 q) (mul (L.aQ x y).2 p)=add (add (mul x.1 q) (mul x.2 p)) (add (mul y.1 q) (mul y.2 p)):=by
    rintro ⟨a,b⟩ ⟨a2,b2⟩
    exact (Laws.req L [a,b,a2,b2,p,q] (.add (.mul (.add (.v 0) (.v 2)) (.v 5)) (.mul (.add (.v 1) (.v 3)) (.v 4))) (.add (.add (.mul (.v 0) (.v 5)) (.mul (.v 1) (.v 4))) (.add (.mul (.v 2) (.v 5)) (.mul (.v 3) (.v 4)))) (by decide +kernel))
   refine ⟨tri,S.sneg L hd,S.smul L hd,fun x y hx hy=>?_,fun x y hx hy=>?_,by rw [low _ _ (S.s0 L),S.s1]⟩
   · rw [S.sx_rt L hd h] at hx hy ⊢
     rw [hadd];exact S.sa _ _ hx hy
   · rw [S.sx_rt L hd h] at hx hy ⊢
     rw [hadd];exact S.sp _ _ hx hy
 · have hE : ∀ p q,¬ L.Rt d σ p q:=fun p q h=>hE ⟨p,q,h⟩
   have pos : ∀ x y : α × α,L.sx d σ x=1→0≤L.sx d σ y→L.sx d σ (L.aQ x y)=1:=by
    intro x y hx hy
    have hN : σ (L.nP d x)≠0:=fun h0=>by
     have h1:=(S.sxz L hd h0).1
     have h2:=S.no_rt L hd hE h0
     rw [h2.1,h2.2] at h1
     rw [h1] at hx
     exact absurd hx (by decide)
    have ex : L.mQ d x (x.1,neg x.2)=(L.nP d x,zero):=by
     obtain ⟨a,b⟩:=x
     exact W4e (Laws.req L [a,b,d] (.add (.mul (.v 0) (.v 0)) (.mul (.mul (.v 1) (.neg (.v 1))) (.v 2))) (.add (.mul (.v 0) (.v 0)) (.neg (.mul (.mul (.v 1) (.v 1)) (.v 2)))) (by decide +kernel)) (Laws.req L [a,b] (.add (.mul (.v 0) (.neg (.v 1))) (.mul (.v 1) (.v 0))) .z (by decide +kernel))
    have ey : L.mQ d (L.aQ x y) (x.1,neg x.2)=(add (L.mQ d y (x.1,neg x.2)).1 (L.nP d x),(L.mQ d y (x.1,neg x.2)).2):=by
     obtain ⟨a,b⟩:=x
     obtain ⟨a2,b2⟩:=y
     exact W4e (Laws.req L [a,b,a2,b2,d] (.add (.mul (.add (.v 0) (.v 2)) (.v 0)) (.mul (.mul (.add (.v 1) (.v 3)) (.neg (.v 1))) (.v 4))) (.add (.add (.mul (.v 2) (.v 0)) (.mul (.mul (.v 3) (.neg (.v 1))) (.v 4))) (.add (.mul (.v 0) (.v 0)) (.neg (.mul (.mul (.v 1) (.v 1)) (.v 4))))) (by decide +kernel)) (Laws.req L [a,b,a2,b2,d] (.add (.mul (.add (.v 0) (.v 2)) (.neg (.v 1))) (.mul (.add (.v 1) (.v 3)) (.v 0))) (.add (.mul (.v 2) (.neg (.v 1))) (.mul (.v 3) (.v 0))) (by decide +kernel))
    have hc : L.sx d σ (x.1,neg x.2)=σ (L.nP d x):=by
     have:=S.smul L hd x (x.1,neg x.2)
     rw [ex,low _ _ (S.s0 L),hx,W5m] at this
     exact this.symm
    have hyc:=S.smul L hd y (x.1,neg x.2)
    have hxy:=S.smul L hd (L.aQ x y) (x.1,neg x.2)
    rw [hc] at hyc hxy
    rcases S.tri (L.nP d x) with h1 | h1 | h1
    · rw [h1,W4t] at hyc hxy
      rw [←hxy,ey]
      exact S.sx_n L hd hE h1 (by rw [←hyc] at hy;exact hy)
    · exact absurd h1 hN
    · rw [h1] at hyc hxy
      have hg:=S.sneg L hd (L.mQ d (L.aQ x y) (x.1,neg x.2))
      have eg : L.gQ (L.mQ d (L.aQ x y) (x.1,neg x.2))=(add (L.gQ (L.mQ d y (x.1,neg x.2))).1 (neg (L.nP d x)),(L.gQ (L.mQ d y (x.1,neg x.2))).2):=by
       rw [ey]
       exact W4e (L.nd _ _) rfl
      have h2:=S.sx_n L hd hE (n:=neg (L.nP d x)) (a:=(L.gQ (L.mQ d y (x.1,neg x.2))).1) (b:=(L.gQ (L.mQ d y (x.1,neg x.2))).2) (by rw [S.sn];omega) (by
       show 0≤L.sx d σ (L.gQ (L.mQ d y (x.1,neg x.2)))
       rw [S.sneg L hd,hyc];omega)
      rw [←eg] at h2
      omega
   refine ⟨tri,S.sneg L hd,S.smul L hd,fun x y hx hy=>?_,pos,by rw [low _ _ (S.s0 L),S.s1]⟩
   rcases tri x with h | h | h
   · rw [pos x y h hy];decide
   · rcases tri y with h' | h' | h'
     · have e : L.aQ x y=L.aQ y x:=W4e (L.ac _ _) (L.ac _ _)
       rw [e,pos y x h' hx];decide
     · have zz : ∀ p,L.sx d σ p=0→σ p.1=0∧σ p.2=0:=by
        intro p hp
        rcases S.tri (L.nP d p) with g | g | g
        · have:=S.sx1 L hd g;omega
        · exact S.no_rt L hd hE g
        · have:=S.sxm L hd g;omega
       have z1:=zz x h
       have z2:=zz y h'
       have : L.sx d σ (L.aQ x y)=0:=by
        rw [show L.aQ x y=(add x.1 y.1,add x.2 y.2) from rfl,low _ _ (by rw [S.add0 L z1.2,z2.2]),S.add0 L z1.1,z2.1]
       omega
     · omega
   · omega
end
end
section
def Xh0 (x : Rat) : Int:=if 0<x then 1 else if x<0 then -1 else 0
theorem Xa0 (x : Rat) : (0<x∧Xh0 x=1)∨(x=0∧Xh0 x=0)∨(x<0∧Xh0 x=-1):=by
 unfold Xh0
 by_cases h : 0<x
 · left;exact ⟨h,if_pos h⟩
 · by_cases h2 : x<0
   · right;right;exact ⟨h2,by rw [if_neg h,if_pos h2]⟩
   · right;left;exact ⟨by grind,by rw [if_neg h,if_neg h2]⟩
theorem Xcm {x : Rat} (h : 0<x) : Xh0 x=1:=if_pos h
theorem Xc8 {x : Rat} (h : x<0) : Xh0 x=-1:=by unfold Xh0;rw [if_neg (by grind),if_pos h]
theorem Xg6 {x y : Rat} (h : x<0) (k : 0<y) : x*y<0:=by
 have:=W4j (show 0 < -x by grind) k
 grind
theorem Xm3 {x y : Rat} (h : x<0) (k : y<0) : 0<x*y:=by
 have:=W4j (show 0 < -x by grind) (show 0 < -y by grind)
 grind
theorem Ya9 : Sgn (α:=Rat) (fun x y=>x+y) (fun x y=>x*y) (fun x=>-x) 1 Xh0:=by
 refine ⟨fun a=>?_,fun a=>?_,fun a b=>?_,fun a b ha hb=>?_,fun a b ha hb=>?_,by decide⟩
 · rcases Xa0 a with h | h | h <;> simp [h.2]
 · rcases Xa0 a with h | h | h
   · rw [h.2,Xc8 (by grind)]
   · rw [h.1,Rat.neg_zero];rfl
   · rw [h.2,Xcm (by grind)];rfl
 · rcases Xa0 a with h | h | h <;> rcases Xa0 b with k | k | k <;> rw [h.2,k.2]
   · exact Xcm (W4j h.1 k.1)
   · rw [k.1,Rat.mul_zero];rfl
   · rw [Rat.mul_comm];exact Xc8 (Xg6 k.1 h.1)
   · rw [h.1,W4z];rfl
   · rw [h.1,W4z];rfl
   · rw [h.1,W4z];rfl
   · exact Xc8 (Xg6 h.1 k.1)
   · rw [k.1,Rat.mul_zero];rfl
   · exact Xcm (Xm3 h.1 k.1)
 · rcases Xa0 a with h | h | h <;> rcases Xa0 b with k | k | k <;> rw [h.2] at ha <;> rw [k.2] at hb <;> first | (exact absurd ha (by decide)) | (exact absurd hb (by decide)) | skip
   · rw [Xcm (by grind)];decide
   · rw [Xcm (by grind)];decide
   · rw [Xcm (by grind)];decide
   · rw [h.1,k.1,W7j];decide
 · rcases Xa0 a with h | h | h <;> rcases Xa0 b with k | k | k <;> rw [h.2] at ha <;> rw [k.2] at hb <;> first | (exact absurd ha (by decide)) | (exact absurd hb (by decide)) | exact Xcm (by grind)
def sgn : (k : Nat)→Tw k→El k→Int
 | 0=>fun _ (x : Rat)=>Xh0 x
 | k+1=>fun t a=>(Xbf k t.1).sx t.2 (sgn k t.1) a
def Xbz : (k : Nat)→Tw k→Prop
 | 0=>fun _=>True
 | k+1=>fun t=>Xbz k t.1∧sgn k t.1 t.2=1
theorem Xa3 : ∀ {k : Nat} {t : Tw k},Xbz k t→Sgn (add k) (mul k t) (neg k) (rat k 1) (sgn k t)
 | 0,_,_=>Ya9
 | k+1,t,h=>(Xa3 h.1).ext (Xbf k t.1) h.2
section
variable {k : Nat} {t : Tw k}
theorem Xsa {t : Tw (k+1)} (a : El k) (h : Xbz k t.1) : sgn (k+1) t (up k a)=sgn k t.1 a:=by
 have hz:=(Xa3 h).s0 (Xbf k t.1)
 show (Xbf k t.1).sx t.2 (sgn k t.1) (a,zero k)=_
 unfold Laws.sx
 rw [if_pos (.inl hz)]
theorem Xgu {x : Rat} (h : Xbz k t) : sgn k t (rat k x)=Xh0 x:=by
 induction k with
 | zero=>rfl
 | succ k ih=>rw [show rat (k+1) x=up k (rat k x) from rfl,Xsa _ h.1,ih h.1]
theorem Xef : ∀ {k : Nat} (t : Tw k) (a : El k),sgn k t a=1∨sgn k t a=0∨sgn k t a=-1
 | 0,_,a=>by
  rcases Xa0 a with h | h | h
  · exact .inl h.2
  · exact .inr (.inl h.2)
  · exact .inr (.inr h.2)
 | k+1,t,a=>by
  show (Xbf k t.1).sx t.2 (sgn k t.1) a=1∨(Xbf k t.1).sx t.2 (sgn k t.1) a=0∨(Xbf k t.1).sx t.2 (sgn k t.1) a=-1
  unfold Laws.sx
  split
  · exact Xef _ _
  · split
    · exact Xef _ _
    · rcases Xef t.1 a.1 with h | h | h <;> rcases Xef t.1 ((Xbf k t.1).nP t.2 a) with g | g | g <;> rw [h,g] <;> decide
def le (k : Nat) (t : Tw k) (a b : El k) : Prop:=0≤sgn k t (add k b (neg k a))
end
end
section
section
variable {α : Type} {add mul : α→α→α} {neg : α→α} {zero one : α} {σ : α→Int} (L : Laws add mul neg zero one) (S : Sgn add mul neg one σ)
include L S
theorem Sgn.le_rf (a : α) : 0≤σ (add a (neg a)):=by rw [L.an,S.s0 L];exact W7w _
theorem Sgn.le_tr {a b c : α} (h : 0≤σ (add b (neg a))) (k : 0≤σ (add c (neg b))) : 0≤σ (add c (neg a)):=by
 have e : add c (neg a)=add (add c (neg b)) (add b (neg a)):=(Laws.req L [a,b,c] (.add (.v 2) (.neg (.v 0))) (.add (.add (.v 2) (.neg (.v 1))) (.add (.v 1) (.neg (.v 0)))) (by decide +kernel))
 rw [e];exact S.sa _ _ k h
theorem Sgn.le_ad {a b c d : α} (h : 0≤σ (add b (neg a))) (k : 0≤σ (add d (neg c))) : 0≤σ (add (add b d) (neg (add a c))):=by
 have e : add (add b d) (neg (add a c))=add (add b (neg a)) (add d (neg c)):=(Laws.req L [a,b,c,d] (.add (.add (.v 1) (.v 3)) (.neg (.add (.v 0) (.v 2)))) (.add (.add (.v 1) (.neg (.v 0))) (.add (.v 3) (.neg (.v 2)))) (by decide +kernel))
 rw [e];exact S.sa _ _ h k
theorem Sgn.le_ml {a b c : α} (h : 0≤σ (add b (neg a))) (hc : 0≤σ c) : 0≤σ (add (mul c b) (neg (mul c a))):=by
 have e : add (mul c b) (neg (mul c a))=mul c (add b (neg a)):=(Laws.req L [a,b,c] (.add (.mul (.v 2) (.v 1)) (.neg (.mul (.v 2) (.v 0)))) (.mul (.v 2) (.add (.v 1) (.neg (.v 0)))) (by decide +kernel))
 rw [e,S.sm];exact Int.mul_nonneg hc h
theorem Sgn.le_mn {a b c : α} (h : 0≤σ (add b (neg a))) (hc : σ c≤0) : 0≤σ (add (mul c a) (neg (mul c b))):=by
 have e : add (mul c a) (neg (mul c b))=mul (neg c) (add b (neg a)):=(Laws.req L [a,b,c] (.add (.mul (.v 2) (.v 0)) (.neg (.mul (.v 2) (.v 1)))) (.mul (.neg (.v 2)) (.add (.v 1) (.neg (.v 0)))) (by decide +kernel))
 rw [e,S.sm,S.sn];exact Int.mul_nonneg (by omega) h
theorem Sgn.le_sq {x y : α} (hx : 0≤σ x) (hy : 0≤σ y) (h : 0≤σ (add (mul y y) (neg (mul x x)))) : 0≤σ (add y (neg x)):=by
 have e : add (mul y y) (neg (mul x x))=mul (add y (neg x)) (add y x):=(Laws.req L [x,y] (.add (.mul (.v 1) (.v 1)) (.neg (.mul (.v 0) (.v 0)))) (.mul (.add (.v 1) (.neg (.v 0))) (.add (.v 1) (.v 0))) (by decide +kernel))
 rw [e,S.sm] at h
 rcases S.tri (add y (neg x)) with h1 | h1 | h1
 · omega
 · omega
 · have h2 : σ (add x (neg y))=1:=by
    have e2 : add x (neg y)=neg (add y (neg x)):=(Laws.req L [x,y] (.add (.v 0) (.neg (.v 1))) (.neg (.add (.v 1) (.neg (.v 0)))) (by decide +kernel))
    rw [e2,S.sn,h1];rfl
   have h3:=S.sp _ (add y y) h2 (S.sa _ _ hy hy)
   have e3 : add (add x (neg y)) (add y y)=add y x:=(Laws.req L [x,y] (.add (.add (.v 0) (.neg (.v 1))) (.add (.v 1) (.v 1))) (.add (.v 1) (.v 0)) (by decide +kernel))
   rw [e3] at h3
   rw [h1,h3] at h
   exact absurd h (by decide)
end
def tw0 : (k : Nat)→Tw k
 | 0=>()
 | k+1=>(tw0 k,zero k)
theorem Xfj : ∀ (k : Nat) (x y : Rat),rat k (x+y)=add k (rat k x) (rat k y)
 | 0,_,_=>rfl
 | k+1,x,y=>by
  show (rat k (x+y),zero k)=(add k (rat k x) (rat k y),add k (zero k) (zero k))
  rw [Xfj k,(Xbf k (tw0 k)).az]
theorem Xmr : ∀ (k : Nat) (x : Rat),rat k (-x)=neg k (rat k x)
 | 0,_=>rfl
 | k+1,x=>by
  show (rat k (-x),zero k)=(neg k (rat k x),neg k (zero k))
  rw [Xmr k,(Xbf k (tw0 k)).nz]
theorem Xdl : ∀ (k : Nat) (t : Tw k) (x y : Rat),rat k (x*y)=mul k t (rat k x) (rat k y)
 | 0,_,_,_=>rfl
 | k+1,t,x,y=>by
  show up k (rat k (x*y))=mul (k+1) t (up k (rat k x)) (up k (rat k y))
  rw [Xzy,Xdl k t.1]
section
variable {k : Nat} {t : Tw k}
theorem Xa7 (h : Xbz k t) {x y : Rat} : le k t (rat k x) (rat k y)↔x≤y:=by
 unfold le
 rw [←Xmr,←Xfj,Xgu h]
 rcases Xa0 (y+-x) with ⟨h1,e⟩ | ⟨h1,e⟩ | ⟨h1,e⟩ <;> rw [e]
 · exact ⟨fun _=>by grind,fun _=>by decide⟩
 · exact ⟨fun _=>by grind,fun _=>by decide⟩
 · exact ⟨fun h=>absurd h (by decide),fun h=>absurd h (by grind)⟩
theorem le_tr (h : Xbz k t) {a b c : El k} (h1 : le k t a b) (h2 : le k t b c) : le k t a c:=(Xa3 h).le_tr (Xbf k t) h1 h2
theorem Xg5 (h : Xbz k t) {a : El k} : le k t (rat k 0) a↔0≤sgn k t a:=by
 unfold le
 rw [Xjm,(Xbf k t).nz,(Xbf k t).az]
def inI (k : Nat) (t : Tw k) (a : El k) (x y : Rat) : Prop:=le k t (rat k x) a∧le k t a (rat k y)
theorem Xpt (h : Xbz k t) {a : El k} {x y x' y' : Rat} (i : inI k t a x y) (hx : x'≤x) (hy : y≤y') : inI k t a x' y' :=
 ⟨le_tr h ((Xa7 h).2 hx) i.1,le_tr h i.2 ((Xa7 h).2 hy)⟩
theorem Xz3 (h : Xbz k t) {a : El k} {x y : Rat} (i : inI k t a x y) : x≤y:=(Xa7 h).1 (le_tr h i.1 i.2)
theorem Xtu (h : Xbz k t) {a b : El k} {x y x' y' : Rat} (i : inI k t a x y) (j : inI k t b x' y') : inI k t (add k a b) (x+x') (y+y'):=by
 refine ⟨?_,?_⟩
 · rw [Xfj];exact (Xa3 h).le_ad (Xbf k t) i.1 j.1
 · rw [Xfj];exact (Xa3 h).le_ad (Xbf k t) i.2 j.2
theorem Xtt (h : Xbz k t) {v s : El k} {a b c d m M : Rat} (i : inI k t v a b) (j : inI k t s c d) (hc : 0≤c) (h1 : m≤a*c) (h2 : m≤a*d) (h3 : b*c≤M) (h4 : b*d≤M) : inI k t (mul k t v s) m M:=by
 have S:=Xa3 h
 have L:=Xbf k t
 have hs : 0≤sgn k t s:=(Xg5 h).1 (le_tr h ((Xa7 h).2 hc) j.1)
 have hsr : ∀ x : Rat,sgn k t (rat k x)=Xh0 x:=fun x=>Xgu h
 refine ⟨?_,?_⟩
 · have e1 : le k t (mul k t (rat k a) s) (mul k t v s):=by
    rw [L.mc _ s,L.mc _ s];exact S.le_ml L i.1 hs
   refine le_tr h ?_ e1
   by_cases ha : 0≤a
   · refine le_tr h ((Xa7 h).2 h1) ?_
     rw [Xdl k t]
     exact S.le_ml L j.1 (by rw [hsr];rcases Xa0 a with ⟨g,e⟩ | ⟨g,e⟩ | ⟨g,e⟩ <;> rw [e] <;> first | decide | grind)
   · refine le_tr h ((Xa7 h).2 h2) ?_
     rw [Xdl k t]
     exact S.le_mn L j.2 (by rw [hsr,Xc8 (by grind)];decide)
 · have e1 : le k t (mul k t v s) (mul k t (rat k b) s):=by
    rw [L.mc _ s,L.mc _ s];exact S.le_ml L i.2 hs
   refine le_tr h e1 ?_
   by_cases hb : 0≤b
   · refine le_tr h ?_ ((Xa7 h).2 h4)
     rw [Xdl k t]
     exact S.le_ml L j.2 (by rw [hsr];rcases Xa0 b with ⟨g,e⟩ | ⟨g,e⟩ | ⟨g,e⟩ <;> rw [e] <;> first | decide | grind)
   · refine le_tr h ?_ ((Xa7 h).2 h3)
     rw [Xdl k t]
     exact S.le_mn L j.1 (by rw [hsr,Xc8 (by grind)];decide)
end
section
variable {k : Nat} {t : Tw (k+1)}
theorem Xle (h : Xbz k t.1) {a : El k} {x y : Rat} (i : inI k t.1 a x y) : inI (k+1) t (up k a) x y:=by
 have e : ∀ a b : El k,add (k+1) (up k b) (neg (k+1) (up k a))=up k (add k b (neg k a)):=by
  intro a b
  show (add k b (neg k a),add k (zero k) (neg k (zero k)))=(add k b (neg k a),zero k)
  rw [(Xbf k t.1).an]
 refine ⟨?_,?_⟩
 · show 0≤sgn (k+1) t (add (k+1) (up k a) (neg (k+1) (up k (rat k x))))
   rw [e,Xsa _ h];exact i.1
 · show 0≤sgn (k+1) t (add (k+1) (up k (rat k y)) (neg (k+1) (up k a)))
   rw [e,Xsa _ h];exact i.2
def rt1 (k : Nat) : El (k+1):=(zero k,rat k 1)
theorem Xzf : mul (k+1) t (rt1 k) (rt1 k)=up k t.2:=by
 have L:=Xbf k t.1
 simp only [mul,up,rt1,L.mz,L.zm,L.az,L.za,L.mo,L.om];rfl
theorem Ya7 (h : Xbz k t.1) : sgn (k+1) t (rt1 k)=1:=by
 have S:=Xa3 h
 have h1 : sgn k t.1 (rat k 1)=1:=S.s1
 have h0 : sgn k t.1 (zero k)=0:=S.s0 (Xbf k t.1)
 show (Xbf k t.1).sx t.2 (sgn k t.1) (zero k,rat k 1)=1
 unfold Laws.sx
 rw [if_neg (by rw [h1,h0];decide),if_pos h0,h1]
theorem Xp6 (a : El (k+1)) : a=add (k+1) (up k a.1) (mul (k+1) t (up k a.2) (rt1 k)):=by
 have L:=Xbf k t.1
 obtain ⟨a,b⟩:=a
 simp only [add,mul,up,rt1,L.mz,L.zm,L.az,L.za,L.mo,L.om];rfl
theorem Xts (h : Xbz (k+1) t) {r1 r2 c d : Rat} (i : inI k t.1 t.2 r1 r2) (hc : 0≤c) (hd : 0≤d) (h1 : c*c≤r1∨c=0) (h2 : r2≤d*d) : inI (k+1) t (rt1 k) c d:=by
 have S:=Xa3 h
 have L:=Xbf (k+1) t
 have hr:=Ya7 (t:=t) h.1
 have iu:=Xle h.1 i
 have hsr : ∀ x : Rat,0≤x→0≤sgn (k+1) t (rat (k+1) x):=fun x hx=>by
  rw [Xgu h];rcases Xa0 x with ⟨g,e⟩ | ⟨g,e⟩ | ⟨g,e⟩ <;> rw [e] <;> first | decide | grind
 refine ⟨?_,?_⟩
 · rcases h1 with h1 | rfl
   · refine S.le_sq L (hsr c hc) (by omega) ?_
     rw [←Xdl,Xzf]
     exact le_tr h ((Xa7 h).2 h1) iu.1
   · exact (Xg5 h).2 (by omega)
 · refine S.le_sq L (by omega) (hsr d hd) ?_
   rw [←Xdl,Xzf]
   exact le_tr h iu.2 ((Xa7 h).2 h2)
end
end
section
section
variable {k : Nat} {w : Tw k} {x : El k}
def tsn {k : Nat} (w : Tw k) (y : El k) : Tw (k+1):=(w,y)
end
end
section
def Xeb (k : Nat) (t : Tw k) (a : El k) : Prop:=∃ w,mul k t w w=a
def red : (k : Nat)→Tw k→Prop
 | 0=>fun _=>True
 | k+1=>fun t=>red k t.1∧sgn k t.1 t.2=1∧¬ Xeb k t.1 t.2
theorem Xap : ∀ {k : Nat} {t : Tw k},red k t→Xbz k t
 | 0,_,_=>trivial
 | k+1,t,h=>⟨Xap h.1,h.2.1⟩
section
variable {α : Type} {add mul : α→α→α} {neg : α→α} {zero one : α} (L : Laws add mul neg zero one)
include L
theorem Laws.sub0 {a b : α} (h : add a (neg b)=zero) : a=b:=by
 have e : a=add (add a (neg b)) b:=(Laws.req L [a,b] (.v 0) (.add (.add (.v 0) (.neg (.v 1))) (.v 1)) (by decide +kernel))
 rw [e,h,L.za]
theorem Laws.sb {a b : α} (h : a=b) : add a (neg b)=zero:=by rw [h,L.an]
theorem Laws.hi {h i m r u v x : α} (hh : add h h=one) (hx : mul x x=mul h (add u m)) (hm : mul m m=add (mul u u) (neg (mul (mul v v) r))) (hi : mul i (add x x)=one) :
 add (mul x x) (mul (mul (mul v i) (mul v i)) r)=u∧add (mul x (mul v i)) (mul (mul v i) x)=v:=by
 have e1 : mul (mul v v) r=mul (add u (neg m)) (add u m):=by
  have : mul (mul v v) r=add (mul u u) (neg (mul m m)):=by
   rw [hm];exact (Laws.req L [u,v,r] (.mul (.mul (.v 1) (.v 1)) (.v 2)) (.add (.mul (.v 0) (.v 0)) (.neg (.add (.mul (.v 0) (.v 0)) (.neg (.mul (.mul (.v 1) (.v 1)) (.v 2)))))) (by decide +kernel))
  rw [this];exact (Laws.req L [u,m] (.add (.mul (.v 0) (.v 0)) (.neg (.mul (.v 1) (.v 1)))) (.mul (.add (.v 0) (.neg (.v 1))) (.add (.v 0) (.v 1))) (by decide +kernel))
 have e2 : add u m=add (mul x x) (mul x x):=by
  rw [hx,←L.dm,hh,L.om]
 have e3 : mul (mul i i) (add (mul x x) (mul x x))=h:=by
  have : mul (mul i i) (add (mul x x) (mul x x))=mul h (mul (mul i (add x x)) (mul i (add x x))):=by
   have e4 : mul h (mul (mul i (add x x)) (mul i (add x x)))=mul (add h h) (mul (mul i i) (add (mul x x) (mul x x))):=(Laws.req L [h,i,x] (.mul (.v 0) (.mul (.mul (.v 1) (.add (.v 2) (.v 2))) (.mul (.v 1) (.add (.v 2) (.v 2))))) (.mul (.add (.v 0) (.v 0)) (.mul (.mul (.v 1) (.v 1)) (.add (.mul (.v 2) (.v 2)) (.mul (.v 2) (.v 2))))) (by decide +kernel))
   rw [e4,hh,L.om]
  rw [this,hi,L.mo,L.mo]
 constructor
 · have e5 : mul (mul (mul v i) (mul v i)) r=mul (add u (neg m)) h:=by
    have : mul (mul (mul v i) (mul v i)) r=mul (mul i i) (mul (mul v v) r):=(Laws.req L [v,i,r] (.mul (.mul (.mul (.v 0) (.v 1)) (.mul (.v 0) (.v 1))) (.v 2)) (.mul (.mul (.v 1) (.v 1)) (.mul (.mul (.v 0) (.v 0)) (.v 2))) (by decide +kernel))
    rw [this,e1]
    have : mul (mul i i) (mul (add u (neg m)) (add u m))=mul (add u (neg m)) (mul (mul i i) (add u m)):=(Laws.req L [u,m,i] (.mul (.mul (.v 2) (.v 2)) (.mul (.add (.v 0) (.neg (.v 1))) (.add (.v 0) (.v 1)))) (.mul (.add (.v 0) (.neg (.v 1))) (.mul (.mul (.v 2) (.v 2)) (.add (.v 0) (.v 1)))) (by decide +kernel))
    rw [this,e2,e3]
   rw [e5,hx]
   have : add (mul h (add u m)) (mul (add u (neg m)) h)=mul (add h h) u:=(Laws.req L [h,u,m] (.add (.mul (.v 0) (.add (.v 1) (.v 2))) (.mul (.add (.v 1) (.neg (.v 2))) (.v 0))) (.mul (.add (.v 0) (.v 0)) (.v 1)) (by decide +kernel))
   rw [this,hh,L.om]
 · have : add (mul x (mul v i)) (mul (mul v i) x)=mul v (mul i (add x x)):=(Laws.req L [x,v,i] (.add (.mul (.v 0) (.mul (.v 1) (.v 2))) (.mul (.mul (.v 1) (.v 2)) (.v 0))) (.mul (.v 1) (.mul (.v 2) (.add (.v 0) (.v 0)))) (by decide +kernel))
   rw [this,hi,L.mo]
end
section
variable {k : Nat} {t : Tw k}
theorem Xol (h : Xbz k t) {a b : El k} (e : mul k t a b=zero k) : sgn k t a=0∨sgn k t b=0:=by
 have:=(Xa3 h).sm a b
 rw [e,(Xa3 h).s0 (Xbf k t)] at this
 exact Int.mul_eq_zero.1 this.symm
theorem Xgx : ∀ {k : Nat} {t : Tw k},red k t→(∀ a,sgn k t a=0→a=zero k)∧(∀ a,a≠zero k→∃ b,inv k t a=some b)
 | 0,_,_=>by
  refine ⟨fun a h=>?_,fun a h=>?_⟩
  · rcases Xa0 a with ⟨h1,e⟩ | ⟨h1,e⟩ | ⟨h1,e⟩
    · exact absurd (show Xh0 a=0 from h) (by rw [e];decide)
    · exact h1
    · exact absurd (show Xh0 a=0 from h) (by rw [e];decide)
  · have h2 : ∀ x : Rat,¬ x=0→∃ b,(if x=0 then none else some (1 / x))=some b:=fun x h=>⟨1 / x,if_neg h⟩
    exact h2 a h
 | k+1,t,h=>by
  obtain ⟨f1,f2⟩:=Xgx h.1
  have R:=Xap h.1
  have L:=Xbf k t.1
  have S:=Xa3 R
  have key : ∀ x y : El k,norm k t (x,y)=zero k→x=zero k∧y=zero k:=by
   intro x y hn
   have hn : add k (mul k t.1 x x) (neg k (mul k t.1 (mul k t.1 y y) t.2))=zero k:=hn
   by_cases hy : y=zero k
   · subst hy
     rw [L.mz,L.zm,L.nz,L.az] at hn
     refine ⟨f1 x ?_,rfl⟩
     rcases Xol R hn with e | e <;> exact e
   · exfalso
     obtain ⟨b,hb⟩:=f2 y hy
     have hb:=Xhd hb
     refine h.2.2 ⟨mul k t.1 x b,?_⟩
     have e:=L.sub0 hn
     have e1 : mul k t.1 (mul k t.1 x b) (mul k t.1 x b)=mul k t.1 (mul k t.1 b b) (mul k t.1 x x):=(Laws.req L [x,b] (.mul (.mul (.v 0) (.v 1)) (.mul (.v 0) (.v 1))) (.mul (.mul (.v 1) (.v 1)) (.mul (.v 0) (.v 0))) (by decide +kernel))
     have e2 : mul k t.1 (mul k t.1 b b) (mul k t.1 (mul k t.1 y y) t.2)=mul k t.1 (mul k t.1 (mul k t.1 b y) (mul k t.1 b y)) t.2:=(Laws.req L [b,y,t.2] (.mul (.mul (.v 0) (.v 0)) (.mul (.mul (.v 1) (.v 1)) (.v 2))) (.mul (.mul (.mul (.v 0) (.v 1)) (.mul (.v 0) (.v 1))) (.v 2)) (by decide +kernel))
     rw [e1,e,e2,hb,L.mo,L.om]
  refine ⟨fun a ha=>?_,fun a ha=>?_⟩
  · obtain ⟨x,y⟩:=a
    have ha : L.sx t.2 (sgn k t.1) (x,y)=0:=ha
    have hz : x=zero k∧y=zero k:=by
     unfold Laws.sx at ha
     split at ha
     · rename_i h1
       have h1 : sgn k t.1 y=0∨sgn k t.1 x=sgn k t.1 y:=h1
       have ha : sgn k t.1 x=0:=ha
       exact ⟨f1 _ ha,f1 _ (by omega)⟩
     · rename_i h1
       have h1 : ¬ (sgn k t.1 y=0∨sgn k t.1 x=sgn k t.1 y):=h1
       split at ha
       · have ha : sgn k t.1 y=0:=ha
         omega
       · rename_i h2
         have h2 : ¬ sgn k t.1 x=0:=h2
         rcases Int.mul_eq_zero.1 ha with e | e
         · exact absurd e h2
         · exact key x y (f1 _ e)
    rw [hz.1,hz.2];rfl
  · have hn : norm k t a≠zero k:=fun e=>ha (by
     obtain ⟨x,y⟩:=a
     obtain ⟨e1,e2⟩:=key x y e
     rw [e1,e2];rfl)
    obtain ⟨b,hb⟩:=f2 _ hn
    refine ⟨(mul k t.1 a.1 b,neg k (mul k t.1 a.2 b)),?_⟩
    show (match inv k t.1 (norm k t a) with | none=>none | some n=>some (mul k t.1 a.1 n,neg k (mul k t.1 a.2 n)))=_
    rw [hb];rfl
theorem Xew (h : red k t) {a : El k} : sgn k t a=0↔a=zero k :=
 ⟨(Xgx h).1 a,fun e=>by rw [e];exact (Xa3 (Xap h)).s0 (Xbf k t)⟩
theorem Xf5 (h : red k t) {a b : El k} (e : mul k t a b=zero k) : a=zero k∨b=zero k :=
 (Xol (Xap h) e).imp (Xew h).1 (Xew h).1
theorem Xr1 (h : red k t) {a b : El k} (e : mul k t a a=mul k t b b) : a=b∨a=neg k b:=by
 have L:=Xbf k t
 have e1 : mul k t (add k a (neg k b)) (add k a b)=add k (mul k t a a) (neg k (mul k t b b)):=(Laws.req L [a,b] (.mul (.add (.v 0) (.neg (.v 1))) (.add (.v 0) (.v 1))) (.add (.mul (.v 0) (.v 0)) (.neg (.mul (.v 1) (.v 1)))) (by decide +kernel))
 rw [L.sb e] at e1
 rcases Xf5 h e1 with e2 | e2
 · exact .inl (L.sub0 e2)
 · right
   rw [L.ac] at e2
   exact L.nu e2
theorem Xob (h : red k t) {a b : El k} (e : mul k t a a=mul k t b b) (ha : 0≤sgn k t a) (hb : 0≤sgn k t b) : a=b:=by
 rcases Xr1 h e with e1 | e1
 · exact e1
 · rw [e1,(Xa3 (Xap h)).sn] at ha
   have hb0 : b=zero k:=(Xew h).1 (by omega)
   rw [e1,hb0,(Xbf k t).nz]
theorem Yl2 (h : red k t) {a : El k} (e : add k a a=zero k) : a=zero k:=by
 rw [←Xew h] at e ⊢
 rwa [(Xa3 (Xap h)).same (Xbf k t) rfl] at e
theorem Xf8 : add k (rat k (1 / 2)) (rat k (1 / 2))=rat k 1:=by
 rw [←Xfj];congr 1;grind
end
section
variable {k : Nat} {t : Tw (k+1)}
theorem Yiq {w u : El k} (e : mul k t.1 w w=u) : mul (k+1) t (up k w) (up k w)=up k u:=by rw [Xzy,e]
theorem Xy3 {w u i : El k} (hi : mul k t.1 i t.2=rat k 1) (e : mul k t.1 w w=mul k t.1 u i) : mul (k+1) t (zero k,w) (zero k,w)=up k u:=by
 have L:=Xbf k t.1
 have hi:=hi
 refine W4e ?_ ?_
 · show add k (mul k t.1 (zero k) (zero k)) (mul k t.1 (mul k t.1 w w) t.2)=u
   rw [e,L.mz,L.za,L.ma,hi,L.mo]
 · show add k (mul k t.1 (zero k) w) (mul k t.1 w (zero k))=zero k
   rw [L.mz,L.zm,L.az]
theorem Xr2 (h : red k t.1) {u i : El k} (hi : mul k t.1 i t.2=rat k 1) (h1 : ¬ Xeb k t.1 u) (h2 : ¬ Xeb k t.1 (mul k t.1 u i)) : ¬ Xeb (k+1) t (up k u):=by
 rintro ⟨⟨p,q⟩,e⟩
 have L:=Xbf k t.1
 have e1 : add k (mul k t.1 p p) (mul k t.1 (mul k t.1 q q) t.2)=u:=congrArg Prod.fst e
 have e2 : add k (mul k t.1 p q) (mul k t.1 q p)=zero k:=congrArg Prod.snd e
 rw [L.mc q p] at e2
 rcases Xf5 h (Yl2 h e2) with e3 | e3
 · refine h2 ⟨q,?_⟩
   rw [←e1,e3,L.mz,L.za]
   have : mul k t.1 (mul k t.1 (mul k t.1 q q) t.2) i=mul k t.1 (mul k t.1 q q) (mul k t.1 i t.2):=(Laws.req L [q,t.2,i] (.mul (.mul (.mul (.v 0) (.v 0)) (.v 1)) (.v 2)) (.mul (.mul (.v 0) (.v 0)) (.mul (.v 2) (.v 1))) (by decide +kernel))
   rw [this,hi,L.mo]
 · exact h1 ⟨p,by rw [←e1,e3,L.mz,L.zm,L.az]⟩
theorem Yir {u v m w i : El k} (hm : mul k t.1 m m=norm k t (u,v)) (hw : mul k t.1 w w=mul k t.1 (rat k (1 / 2)) (add k u m)) (hi : mul k t.1 i (add k w w)=rat k 1) :
 mul (k+1) t (w,mul k t.1 v i) (w,mul k t.1 v i)=(u,v):=by
 obtain ⟨e1,e2⟩:=(Xbf k t.1).hi Xf8 hw hm hi
 exact W4e e1 e2
theorem Ya4 {a : El (k+1)} (h : Xeb (k+1) t a) : Xeb k t.1 (norm k t a):=by
 obtain ⟨w,rfl⟩:=h
 exact ⟨norm k t w,by rw [Xpi]⟩
theorem Xwf (h : red k t.1) {u v m : El k} (hv : v≠zero k) (hm : mul k t.1 m m=norm k t (u,v)) (hs : Xeb (k+1) t (u,v)) :
 ∃ p,p≠zero k∧(mul k t.1 p p=mul k t.1 (rat k (1 / 2)) (add k u m)∨mul k t.1 p p=mul k t.1 (rat k (1 / 2)) (add k u (neg k m))):=by
 obtain ⟨⟨p,q⟩,e⟩:=hs
 have L:=Xbf k t.1
 have e1 : add k (mul k t.1 p p) (mul k t.1 (mul k t.1 q q) t.2)=u:=congrArg Prod.fst e
 have e2 : add k (mul k t.1 p q) (mul k t.1 q p)=v:=congrArg Prod.snd e
 have hh : add k (rat k (1 / 2)) (rat k (1 / 2))=rat k 1:=Xf8
 refine ⟨p,fun e0=>hv (by rw [←e2,e0,L.mz,L.zm,L.az]),?_⟩
 have key : mul k t.1 p p=mul k t.1 (rat k (1 / 2)) (add k u (norm k t (p,q))):=by
  rw [←e1]
  show _=mul k t.1 (rat k (1 / 2)) (add k _ (add k (mul k t.1 p p) (neg k (mul k t.1 (mul k t.1 q q) t.2))))
  generalize rat k (1 / 2)=c at hh ⊢
  have e4 : mul k t.1 c (add k (add k (mul k t.1 p p) (mul k t.1 (mul k t.1 q q) t.2)) (add k (mul k t.1 p p) (neg k (mul k t.1 (mul k t.1 q q) t.2))))=mul k t.1 (add k c c) (mul k t.1 p p):=(Laws.req L [c,p,q,t.2] (.mul (.v 0) (.add (.add (.mul (.v 1) (.v 1)) (.mul (.mul (.v 2) (.v 2)) (.v 3))) (.add (.mul (.v 1) (.v 1)) (.neg (.mul (.mul (.v 2) (.v 2)) (.v 3)))))) (.mul (.add (.v 0) (.v 0)) (.mul (.v 1) (.v 1))) (by decide +kernel))
  rw [e4,hh,L.om]
 have e3 : mul k t.1 m m=mul k t.1 (norm k t (p,q)) (norm k t (p,q)):=by
  rw [hm,←e]
  exact Xpi k t (pr p q) (pr p q)
 rcases Xr1 h e3 with e5 | e5
 · left;rw [e5];exact key
 · right;rw [e5,L.nn];exact key
end
theorem Yip {k : Nat} {t : Tw (k+1)} (h : red (k+1) t) {u v m w : El k} (hv : v≠zero k) (hm : mul k t.1 m m=norm k t (u,v)) (hw : mul k t.1 w w=mul k t.1 (rat k (1 / 2)) (add k u m)) : w≠zero k:=by
 intro e
 have L:=Xbf k t.1
 have hh : add k (rat k (1 / 2)) (rat k (1 / 2))=rat k 1:=Xf8
 generalize rat k (1 / 2)=c at hh hw
 rw [e,L.mz] at hw
 have e1 : add k u m=add k (mul k t.1 c (add k u m)) (mul k t.1 c (add k u m)):=by rw [←L.dm,hh,L.om]
 rw [←hw,L.az] at e1
 have hm' : mul k t.1 m m=add k (mul k t.1 u u) (neg k (mul k t.1 (mul k t.1 v v) t.2)):=hm
 have e2 : mul k t.1 (mul k t.1 v v) t.2=add k (mul k t.1 u u) (neg k (mul k t.1 m m)):=by
  rw [hm'];exact (Laws.req L [u,v,t.2] (.mul (.mul (.v 1) (.v 1)) (.v 2)) (.add (.mul (.v 0) (.v 0)) (.neg (.add (.mul (.v 0) (.v 0)) (.neg (.mul (.mul (.v 1) (.v 1)) (.v 2)))))) (by decide +kernel))
 have e3 : add k (mul k t.1 u u) (neg k (mul k t.1 m m))=mul k t.1 (add k u (neg k m)) (add k u m):=(Laws.req L [u,m] (.add (.mul (.v 0) (.v 0)) (.neg (.mul (.v 1) (.v 1)))) (.mul (.add (.v 0) (.neg (.v 1))) (.add (.v 0) (.v 1))) (by decide +kernel))
 rw [e3,e1,L.mz] at e2
 have S:=Xa3 (Xap h.1)
 rcases Xf5 h.1 e2 with e4 | e4
 · rcases Xf5 h.1 e4 with e5 | e5 <;> exact hv e5
 · have:=h.2.1
   rw [e4,S.s0 L] at this
   cases this
end
end Go.Tow
namespace Go.Proofs.YtdlhdemfnfpboaaGreatDoor
open Go Go.Num Go.Tow
def nS (r k p : Nat) : Nat:=2*p+2*cB r k+r+1
theorem Sz.normS {r k p : Nat} {t : Tw (k+1)} {a : El (k+1)} (ht : TS r (k+1) t) (h : Sz p (toL (k+1) a)) : Sz (nS r k p) (toL k (Tow.norm k t a)):=by
 obtain ⟨E,e0,e1,e2⟩:=Xjv ht.1
 obtain ⟨d,d0,d1,d2⟩:=h
 obtain ⟨g,g0,g1,g2⟩:=ht.2
 have hx : IsD d (2 ^ p) (toL k a.1):=d2.left
 have hy : IsD d (2 ^ p) (toL k a.2):=d2.right
 have h1:=(e2 _ _ d d _ _ d0 d0 hx hx).scale (W1h e0 g0)
 have h2:=e2 _ _ (d*d*E) g _ _ (W1h (W1h d0 d0) e0) g0 (e2 _ _ d d _ _ d0 d0 hy hy) g2
 rw [show d*d*E*g*E=d*d*E*(E*g) from by rw [W0r (d*d*E),W1c g E]] at h2
 have hg : E*g≤2 ^ cB r k*2 ^ r:=W1w e1 (W1v g1)
 have hn : 2 ^ (2*p+2*cB r k+r)=2 ^ p*2 ^ p*2 ^ cB r k*(2 ^ cB r k*2 ^ r):=by
  rw [←W0t,←W0t,←W0t,←W0t];congr 1;omega
 have h1' : IsD (d*d*E*(E*g)) (2 ^ (2*p+2*cB r k+r)) (toL k (Tow.mul k t.1 a.1 a.1)):=h1.mono (by rw [hn];exact W0n _ hg)
 have h2' : IsD (d*d*E*(E*g)) (2 ^ (2*p+2*cB r k+r)) (toL k (Tow.mul k t.1 (Tow.mul k t.1 a.2 a.2) t.2)):=h2.mono (by
  rw [hn,W0r (2 ^ p*2 ^ p*2 ^ cB r k),W1c (2 ^ r)];exact W0a _)
 rw [Tow.norm,Xa2,Xca]
 refine ⟨d*d*E*(E*g),W1h (W1h (W1h d0 d0) e0) (W1h e0 g0),?_,(h1'.add h2'.neg).mono (by unfold nS;rw [W0p 2 (2*p+2*cB r k+r)];omega)⟩
 have h3 : d*d*E*(E*g)<2 ^ p*2 ^ p*(2 ^ cB r k*(2 ^ cB r k*2 ^ r)):=by
  rw [W0r (d*d)]
  refine W0q (W3d (W4o d1 d1) (W1h e0 (W1h e0 g0))) (W0n _ (W1w e1 hg))
 have h4 : 2 ^ nS r k p=2 ^ (2*p+2*cB r k+r)*2:=by unfold nS;rw [W0p]
 rw [h4,hn,W0r (2 ^ p*2 ^ p)]
 omega
theorem Sz.scal {r k p q : Nat} {t : Tw k} {x y n : El k} (ht : TS r k t) (h : Sz p (toL k x++toL k y)) (hn : Sz q (toL k n)) : Sz (p+q+cB r k) (toL k (Tow.mul k t x n)++toL k (Tow.mul k t y n)):=by
 obtain ⟨E,e0,e1,e2⟩:=Xjv ht
 obtain ⟨d,d0,d1,d2⟩:=h
 obtain ⟨e,k0,k1,k2⟩:=hn
 have h1:=e2 _ _ d e _ _ d0 k0 d2.left k2
 have h2:=e2 _ _ d e _ _ d0 k0 d2.right k2
 rw [←W0t,←W0t] at h1 h2
 refine ⟨d*e*E,W1h (W1h d0 k0) e0,?_,h1.append h2⟩
 rw [W0t,W0t]
 exact W0q (W3d (W4o d1 k1) e0) (W0n _ e1)
def iS (r : Nat) : Nat→Nat→Nat
 | 0,p=>p+1
 | k+1,p=>p+iS r k (nS r k p)+cB r k
theorem IsD.neg2 {d n : Nat} {l m : List Rat} (h : IsD d n (l++m)) : IsD d n (l++m.map (- ·)):=h.left.append h.right.neg
theorem Sz.neg2 {p : Nat} {l m : List Rat} (h : Sz p (l++m)) : Sz p (l++m.map (- ·)):=by
 obtain ⟨d,h0,h1,h2⟩:=h
 exact ⟨d,h0,h1,h2.neg2⟩
theorem Sz.invS {r k p : Nat} {t : Tw k} {a b : El k} (ht : TS r k t) (h : Sz p (toL k a)) (hb : Tow.inv k t a=some b) : Sz (iS r k p) (toL k b):=by
 induction k generalizing p with
 | zero=>exact h.inv ht hb
 | succ k ih =>
  simp only [Tow.inv] at hb
  split at hb
  · cases hb
  · rename_i n hn
    injection hb with hb
    subst hb
    have h1:=ih ht.1 (h.normS ht) hn
    show Sz _ (toL k _++toL k (Tow.neg k _))
    rw [Xca]
    exact (Sz.scal ht.1 h h1).neg2
theorem Sz.dbl {p : Nat} {l : List Rat} (h : Sz p l) : Sz (p+1) (List.zipWith (·+·) l l):=by
 obtain ⟨d,h0,h1,h2⟩:=h
 exact ⟨d,h0,by rw [W0p];omega,(h2.add h2).mono (by rw [W0p];omega)⟩
theorem Xnm {r : Nat} {k : Nat} : ∀ {s : Nat},r≤s→cB r k≤cB s k:=by
 induction k with
 | zero=>intro s h;exact W0a _
 | succ k ih=>intro s h;have:=ih h;show 2*cB r k+r+1≤2*cB s k+s+1;omega
theorem Xs1 {r s k p q : Nat} (hr : r≤s) (h : p≤q) : nS r k p≤nS s k q:=by have:=Xnm (k:=k) hr;unfold nS;omega
theorem Xty {r s : Nat} (hr : r≤s) : ∀ {k p q : Nat},p≤q→iS r k p≤iS s k q
 | 0,p,q,h=>by show p+1≤q+1;omega
 | k+1,p,q,h=>by
  have h1:=Xty hr (Xs1 (k:=k) hr h) (k:=k)
  have h2:=Xnm (k:=k) hr
  show p+iS r k (nS r k p)+cB r k≤q+iS s k (nS s k q)+cB s k
  omega
theorem Xt1 {r s : Nat} (hr : r≤s) : ∀ {k p q : Nat},p≤q→iB r k p≤iB s k q
 | 0,p,q,h=>by show p+1≤q+1;omega
 | k+1,p,q,h=>by
  have h2:=Xnm (k:=k) hr
  have h1:=Xt1 hr (show nB r k p≤nB s k q by unfold nB;omega) (k:=k)
  show 2*(p+iB r k (nB r k p)+cB r k)≤2*(q+iB s k (nB s k q)+cB s k)
  omega
theorem Xo1 (x : Rat) : (x*x).num=x.num*x.num∧(x*x).den=x.den*x.den:=by
 have hc : (x.num*x.num).natAbs.gcd (x.den*x.den)=1:=by
  rw [W4l]
  exact Nat.Coprime.mul_right (Nat.Coprime.mul_left x.reduced x.reduced) (Nat.Coprime.mul_left x.reduced x.reduced)
 rw [Rat.num_mul,Rat.den_mul,hc]
 exact ⟨Int.ediv_one _,Nat.div_one _⟩
theorem Yer (n : Nat) : rt (n*n)=n:=Yiw (W0a _) (by rw [W1e,W0u];omega)
def sqN (n : Nat) : Prop:=rt n*rt n=n
theorem Xoc {q : Rat} (h0 : 0≤q.num) (h1 : sqN q.num.natAbs) (h2 : sqN q.den) : ∃ x : Rat,x.num=(rt q.num.natAbs : Int)∧x.den=rt q.den∧x*x=q:=by
 have hd : rt q.den≠0:=fun e=>q.den_nz (by rw [←h2,e])
 have hc : (rt q.num.natAbs).Coprime (rt q.den):=by
  have:=q.reduced
  rw [←h1,←h2] at this
  exact Nat.Coprime.coprime_mul_right (Nat.Coprime.coprime_mul_right_right this)
 refine ⟨⟨(rt q.num.natAbs : Int),rt q.den,hd,by rw [W1r];exact hc⟩,rfl,rfl,?_⟩
 refine Rat.ext ?_ ?_
 · rw [(Xo1 _).1]
   show (rt q.num.natAbs : Int)*(rt q.num.natAbs : Int)=q.num
   have : ((rt q.num.natAbs*rt q.num.natAbs : Nat) : Int)=(q.num.natAbs : Int):=by rw [h1]
   rw [W2u] at this
   rw [this];omega
 · rw [(Xo1 _).2];exact h2
theorem Ya6 {q : Rat} : (∃ x : Rat,x*x=q)↔0≤q.num∧sqN q.num.natAbs∧sqN q.den:=by
 refine ⟨?_,fun ⟨h0,h1,h2⟩=>let ⟨x,_,_,h⟩:=Xoc h0 h1 h2;⟨x,h⟩⟩
 rintro ⟨x,rfl⟩
 obtain ⟨e1,e2⟩:=Xo1 x
 rw [e1,e2]
 refine ⟨?_,?_,?_⟩
 · rcases Int.le_total 0 x.num with h | h
   · exact Int.mul_nonneg h h
   · exact Int.mul_nonneg_of_nonpos_of_nonpos h h
 · unfold sqN;rw [W4l,Yer]
 · unfold sqN;rw [Yer]
theorem Sz.half {k : Nat} : Sz 3 (toL k (Tow.rat k (1 / 2))):=Sz.rat (p:=2) k ⟨show (1 / 2 : Rat).num.natAbs<2 ^ 2 by decide +kernel,show ((1 / 2 : Rat).den : Int).natAbs<2 ^ 2 by decide +kernel⟩
open Go Go.Vm Go.Num Go.Tow
section
variable {k : Nat}
theorem hvL (a : Tow.El (k+1)) : ((toL k a.1++toL k a.2).map dq).length=2*2 ^ k:=by rw [lq,W0d,Xac,Xac];omega
theorem hvT (a : Tow.El (k+1)) : ((toL k a.1++toL k a.2).map dq).take (2 ^ k)=(toL k a.1).map dq:=by rw [←W3q,←Xac k a.1,List.take_left]
theorem hvD (a : Tow.El (k+1)) : ((toL k a.1++toL k a.2).map dq).drop (2 ^ k)=(toL k a.2).map dq:=by rw [←List.map_drop,←Xac k a.1,List.drop_left]
theorem Xh7 (a : Tow.El (k+1)) : 2 ^ k≤((toL k a.1++toL k a.2).map dq).length:=by rw [hvL];have:=W0x k;omega
theorem twL (t : Tw (k+1)) : ((toT k t.1++[toL k t.2]).map dqs).length=k+1:=by rw [lt',W0d,Xaa];rfl
theorem Yat (t : Tw (k+1)) : k≤((toT k t.1++[toL k t.2]).map dqs).length:=by rw [twL];omega
theorem twT (t : Tw (k+1)) : ((toT k t.1++[toL k t.2]).map dqs).take k=(toT k t.1).map dqs:=by rw [←W3q,W7l (Xaa k t.1)]
theorem twU (t : Tw (k+1)) : ((toT k t.1++[toL k t.2]).map dqs)[k]?=some (de t.2):=by rw [W0w,W0o (by rw [Xaa];exact W0a _),Xaa,W2t];rfl
theorem hvq (a : Tow.El (k+1)) (hk : k≤16) : arB .quo .i64 (((toL k a.1++toL k a.2).map dq).length : Nat) 2 (2 ^ k : Nat):=Yi0 (hvL a) (W0j (p16 hk) (by decide))
theorem tw1 (t : Tw (k+1)) (hk : k≤16) : arB .sub .i64 (((toT k t.1++[toL k t.2]).map dqs).length : Nat) 1 k:=wr (by rw [twL];omega) (by simp only [inK];omega)
end
end Go.Proofs.YtdlhdemfnfpboaaGreatDoor
namespace Go.Proofs.YtdlhdemfnfpboaaGreatDoor.R6
open Go Go.Vm Go.Num Go.Tow Go.Proofs.YtdlhdemfnfpboaaGreatDoor
end Go.Proofs.YtdlhdemfnfpboaaGreatDoor.R6
namespace Go.Proofs.YtdlhdemfnfpboaaGreatDoor
open Go Go.Num Go.Tow
def gC (r : Nat) : Nat→Nat
 | 0=>0
 | k+1=>2*gC r k+2*cB r k+r+iS r k r+2
theorem IsD.pw {d n a b : Nat} {l : List Rat} (h : IsD d (n*2 ^ a) l) (hab : a≤b) : IsD d (n*2 ^ b) l:=h.mono (W0n _ (W0m (by decide) hab))
theorem IsD.sc {d n a b e : Nat} {l : List Rat} (h : IsD d (n*2 ^ a) l) (he : 0<e) (hb : e≤2 ^ b) : IsD (d*e) (n*2 ^ (a+b)) l:=(h.scale he).mono (by rw [W0t,←W0r];exact W0n _ hb)
theorem IsD.dbl {d n : Nat} {l : List Rat} (h : IsD d n (List.zipWith (·+·) l l)) : IsD (d*2) n l:=fun x hx=>by
 obtain ⟨i,hi⟩:=W5g hx
 obtain ⟨z,h1,h2⟩:=h (x+x) (W1b (i:=i) (by rw [W7d,hi]))
 refine ⟨z,?_,h2⟩
 rw [←h1,W7k]
 show x*(d*2)=_
 grind
theorem Xsl {x : Rat} {e n : Nat} (he : 0<e) (h : IsD (e*e) (n*n) [x*x]) : IsD e n [x]:=fun y hy=>by
 obtain rfl:=W0g.1 hy
 obtain ⟨z,h1,h2⟩:=h _ (W0v ..)
 have h3 : (y*e)*(y*e)=(z : Rat):=by rw [←h1,W7k];grind
 obtain ⟨e1,e2⟩:=Xo1 (y*e)
 rw [h3] at e1 e2
 have e2 : 1=(y*e).den*(y*e).den:=e2
 have e1 : z=(y*e).num*(y*e).num:=e1
 have hd : (y*e).den=1:=Nat.eq_one_of_mul_eq_one_left e2.symm
 refine ⟨(y*e).num,?_,?_⟩
 · have:=Xjw (y*e)
   rw [hd] at this
   rw [←this];exact (Rat.mul_one _).symm
 · rw [e1,W4l] at h2
   exact Nat.lt_of_not_le fun hle=>W6z _ (W0q h2 (W1w hle hle))
theorem Xot : ∀ {k r : Nat} {t : Tw k},TS r k t→red k t→∃ Δ,0<Δ∧Δ≤2 ^ gC r k∧∀ (s : El k) (e n : Nat),0<e→IsD (e*e) (n*n) (toL k (mul k t s s))→IsD (e*Δ) (n*2 ^ gC r k) (toL k s)
 | 0,r,t,_,_=>⟨1,by decide,W0a 1,fun s e n he h=>by rw [W3u,show 2 ^ gC r 0=1 from rfl,W3u];exact Xsl he h⟩
 | k+1,r,t,hT,hR=>by
  obtain ⟨E,E0,E1,E2⟩:=Xjv hT.1
  obtain ⟨g,g0,g1,g2⟩:=hT.2
  obtain ⟨Δ,D0,D1,D2⟩:=Xot hT.1 hR.1
  have L:=Xbf k t.1
  obtain ⟨i,hi⟩:=(Xgx hR.1).2 t.2 (show t.2≠zero k from fun h0=>hR.2.2 ⟨zero k,by rw [h0,L.mz]⟩)
  obtain ⟨f,f0,f1,f2⟩:=Sz.invS hT.1 hT.2 hi
  have hi:=Xhd hi
  generalize hc : cB r k=c at *
  generalize hq : iS r k r=q at *
  generalize hG : gC r k=G at *
  have hg' : gC r (k+1)=2*G+2*c+r+q+2:=by show 2*gC r k+2*cB r k+r+iS r k r+2=_;rw [hc,hq,hG]
  have g1:=W1v g1
  have f1:=W1v f1
  have Eg1 : E*g≤2 ^ (c+r):=by rw [W0t];exact W1w E1 g1
  have Eg0:=W1h E0 g0
  have M : ∀ {a b : El k} {d e n m x y : Nat},0<d→0<e→IsD d (n*2 ^ x) (toL k a)→IsD e (m*2 ^ y) (toL k b)→IsD (d*e*E) (n*m*2 ^ (x+y+c)) (toL k (mul k t.1 a b)):=fun hd he h h'=>(E2 _ _ _ _ _ _ hd he h h').mono (by
   rw [W0t,W0t];exact Nat.le_of_eq (by ac_rfl))
  refine ⟨2*(E*g*Δ)*Δ*(f*E),?_,?_,fun s e n he h=>?_⟩
  · exact W1h (W1h (W1h (by decide) (W1h Eg0 D0)) D0) (W1h f0 E0)
  · have x1:=W1w (W1w (W1w (W0a 2) (W1w Eg1 D1)) D1) (W1w f1 E1)
    refine W0j x1 ?_
    rw [show (2 : Nat)*(2 ^ (c+r)*2 ^ G)*2 ^ G*(2 ^ q*2 ^ c)=2 ^ (1+((c+r)+G)+G+(q+c)) by simp only [W0t]]
    exact W0m (by decide) (by omega)
  obtain ⟨u,v⟩:=s
  have ha : IsD (e*e) (n*n) (toL k (add k (mul k t.1 u u) (mul k t.1 (mul k t.1 v v) t.2))):=h.left
  have hb : IsD (e*e) (n*n) (toL k (add k (mul k t.1 u v) (mul k t.1 v u))):=h.right
  generalize h1 : add k (mul k t.1 u u) (mul k t.1 (mul k t.1 v v) t.2)=a1 at ha
  generalize h2 : add k (mul k t.1 u v) (mul k t.1 v u)=a2 at hb
  have e0:=W1h he he
  have ha : IsD (e*e) (n*n*2 ^ 0) (toL k a1):=by simpa using ha
  have hb : IsD (e*e) (n*n*2 ^ 0) (toL k a2):=by simpa using hb
  have g2 : IsD g (1*2 ^ r) (toL k t.2):=by simpa using g2
  have f2 : IsD f (1*2 ^ q) (toL k i):=by simpa using f2
  obtain ⟨N,hN⟩ : ∃ N,N=add k (mul k t.1 u u) (neg k (mul k t.1 (mul k t.1 v v) t.2)):=⟨_,rfl⟩
  have hNN : mul k t.1 N N=add k (mul k t.1 a1 a1) (neg k (mul k t.1 (mul k t.1 a2 a2) t.2)):=by
   rw [hN,←h1,←h2]
   exact (Laws.req L [u,v,t.2] (.mul (.add (.mul (.v 0) (.v 0)) (.neg (.mul (.mul (.v 1) (.v 1)) (.v 2)))) (.add (.mul (.v 0) (.v 0)) (.neg (.mul (.mul (.v 1) (.v 1)) (.v 2))))) (.add (.mul (.add (.mul (.v 0) (.v 0)) (.mul (.mul (.v 1) (.v 1)) (.v 2))) (.add (.mul (.v 0) (.v 0)) (.mul (.mul (.v 1) (.v 1)) (.v 2)))) (.neg (.mul (.mul (.add (.mul (.v 0) (.v 1)) (.mul (.v 1) (.v 0))) (.add (.mul (.v 0) (.v 1)) (.mul (.v 1) (.v 0)))) (.v 2)))) (by decide +kernel))
  have n1 : IsD (e*e*E*g*(e*e*E*g)) (n*n*2 ^ (c+r+1)*(n*n*2 ^ (c+r+1))) (toL k (mul k t.1 N N)):=by
   rw [hNN,Xa2,Xca]
   have x1:=(M e0 e0 ha ha).sc (W1h Eg0 g0) (show E*g*g≤2 ^ (c+r+r) by rw [W0t 2 (c+r)];exact W1w Eg1 g1)
   have x2:=((M (W1h (W1h e0 e0) E0) g0 (M e0 e0 hb hb) g2).sc g0 g1).neg
   rw [W3u] at x2
   rw [show e*e*(e*e)*E*(E*g*g)=e*e*E*g*(e*e*E*g) by ac_rfl] at x1
   rw [show e*e*(e*e)*E*g*E*g=e*e*E*g*(e*e*E*g) by ac_rfl] at x2
   have x3:=x1.pw (show _≤2*c+2*r by omega)
   have x4:=x2.pw (show _≤2*c+2*r by omega)
   refine (x3.add x4).mono ?_
   rw [←Nat.mul_two]
   have x5 : 2 ^ (2*c+2*r)*2≤2 ^ (c+r+1)*2 ^ (c+r+1):=by
    rw [←W0p,←W0t];exact W0m (by decide) (by omega)
   have x6:=W0n (n*n*(n*n)) x5
   rw [show n*n*(n*n)*2 ^ (2*c+2*r)*2=n*n*(n*n)*(2 ^ (2*c+2*r)*2) by ac_rfl]
   exact W0j x6 (Nat.le_of_eq (by ac_rfl))
  have n2:=D2 N (e*e*E*g) (n*n*2 ^ (c+r+1)) (W1h (W1h e0 E0) g0) n1
  rw [W0r (n*n),←W0t] at n2
  have K0 : 0<E*g*Δ:=W1h Eg0 D0
  have K1 : E*g*Δ≤2 ^ (c+r+G):=by rw [W0t 2 (c+r)];exact W1w Eg1 D1
  have a':=ha.sc K0 K1
  rw [show e*e*E*g*Δ=e*e*(E*g*Δ) by ac_rfl] at n2
  have half : ∀ {w S : El k},add k w w=S→IsD (e*e*(E*g*Δ)) (n*n*2 ^ (c+r+G+2)) (toL k S)→IsD (e*e*(E*g*Δ)*2) (n*n*2 ^ (c+r+G+2)) (toL k w):=fun e h=>IsD.dbl (by rw [←Xa2,e];exact h)
  have s1 : IsD (e*e*(E*g*Δ)) (n*n*2 ^ (c+r+G+2)) (toL k (add k a1 N)):=by
   rw [Xa2]
   refine ((a'.pw (show _≤c+r+G+1 by omega)).add (n2.pw (show _≤c+r+G+1 by omega))).mono ?_
   rw [W0p 2 (c+r+G+1),←W0r,Nat.mul_two];exact W0a _
  have s2 : IsD (e*e*(E*g*Δ)) (n*n*2 ^ (c+r+G+2)) (toL k (add k a1 (neg k N))):=by
   rw [Xa2,Xca]
   refine ((a'.pw (show _≤c+r+G+1 by omega)).add ((n2.pw (show _≤c+r+G+1 by omega)).neg)).mono ?_
   rw [W0p 2 (c+r+G+1),←W0r,Nat.mul_two];exact W0a _
  have u1:=half (w:=mul k t.1 u u) (by rw [←h1,hN];exact (Laws.req L [u,v,t.2] (.add (.mul (.v 0) (.v 0)) (.mul (.v 0) (.v 0))) (.add (.add (.mul (.v 0) (.v 0)) (.mul (.mul (.v 1) (.v 1)) (.v 2))) (.add (.mul (.v 0) (.v 0)) (.neg (.mul (.mul (.v 1) (.v 1)) (.v 2))))) (by decide +kernel))) s1
  have v1:=half (w:=mul k t.1 (mul k t.1 v v) t.2) (by rw [←h1,hN];exact (Laws.req L [u,v,t.2] (.add (.mul (.mul (.v 1) (.v 1)) (.v 2)) (.mul (.mul (.v 1) (.v 1)) (.v 2))) (.add (.add (.mul (.v 0) (.v 0)) (.mul (.mul (.v 1) (.v 1)) (.v 2))) (.neg (.add (.mul (.v 0) (.v 0)) (.neg (.mul (.mul (.v 1) (.v 1)) (.v 2)))))) (by decide +kernel))) s2
  have K2 : 0<E*g*Δ*2:=W1h K0 (by decide)
  have ek : 0<e*(E*g*Δ*2):=W1h he K2
  have sq : ∀ {w : El k} {x : Nat},x≤(c+r+G+2)+(c+r+G+2)→IsD (e*(E*g*Δ*2)*(e*(E*g*Δ*2))) (n*n*2 ^ x) (toL k (mul k t.1 w w))→IsD (e*(E*g*Δ*2)*Δ) (n*2 ^ (c+r+G+2+G)) (toL k w):=fun {w x} hx h=>by
   have h':=D2 w _ (n*2 ^ (c+r+G+2)) ek ((h.pw hx).mono (by rw [W0t 2 (c+r+G+2) (c+r+G+2)];exact Nat.le_of_eq (by ac_rfl)))
   rwa [W0r n,←W0t] at h'
  have u2 : IsD (e*(E*g*Δ*2)*Δ) (n*2 ^ (c+r+G+2+G)) (toL k u):=by
   refine sq (x:=c+r+G+2+(c+r+G+1)) (by omega) ?_
   have:=u1.sc K2 (show E*g*Δ*2≤2 ^ (c+r+G+1) by rw [W0p];exact W0s _ K1)
   rwa [show e*e*(E*g*Δ)*2*(E*g*Δ*2)=e*(E*g*Δ*2)*(e*(E*g*Δ*2)) by ac_rfl] at this
  have v2 : IsD (e*(E*g*Δ*2)*Δ) (n*2 ^ (c+r+G+2+G)) (toL k (mul k t.1 v t.2)):=by
   refine sq (x:=c+r+G+2+r+c+(G+1)) (by omega) ?_
   have:=(M (W1h (W1h e0 K0) (by decide)) g0 v1 g2).sc (W1h D0 (by decide : 0<2)) (show Δ*2≤2 ^ (G+1) by rw [W0p];exact W0s _ D1)
   rw [W3u,show e*e*(E*g*Δ)*2*g*E*(Δ*2)=e*(E*g*Δ*2)*(e*(E*g*Δ*2)) by ac_rfl] at this
   rwa [show mul k t.1 (mul k t.1 v t.2) (mul k t.1 v t.2)=mul k t.1 (mul k t.1 (mul k t.1 v v) t.2) t.2 from (Laws.req L [v,t.2] (.mul (.mul (.v 0) (.v 1)) (.mul (.v 0) (.v 1))) (.mul (.mul (.mul (.v 0) (.v 0)) (.v 1)) (.v 1)) (by decide +kernel))]
  have v3 : IsD (e*(E*g*Δ*2)*Δ*f*E) (n*1*2 ^ (c+r+G+2+G+q+c)) (toL k v):=by
   have:=M (W1h ek D0) f0 v2 f2
   rwa [show mul k t.1 (mul k t.1 v t.2) i=v from by rw [L.ma,L.mc t.2,hi,L.mo]] at this
  have u3:=u2.sc (W1h f0 E0) (show f*E≤2 ^ (q+c) by rw [W0t];exact W1w f1 E1)
  rw [show e*(2*(E*g*Δ)*Δ*(f*E))=e*(E*g*Δ*2)*Δ*(f*E) by ac_rfl,hg']
  refine IsD.append (u3.pw (by omega)) ?_
  rw [W3u,W0r _ f E] at v3
  exact v3.pw (by omega)
theorem Sz.rootS {k r p : Nat} {t : Tw k} {s a : El k} (hT : TS r k t) (hR : red k t) (ha : Sz p (toL k a)) (e : Tow.mul k t s s=a) : Sz (p+gC r k) (toL k s):=by
 obtain ⟨Δ,D0,D1,D2⟩:=Xot hT hR
 obtain ⟨d,d0,d1,d2⟩:=ha
 subst e
 have:=D2 s d (2 ^ p) d0 ((d2.scale d0).mono (W0n _ (W1v d1)))
 rw [←W0t] at this
 refine ⟨_,W1h d0 D0,?_,this⟩
 rw [W0t]
 exact W0q (W3d d1 D0) (W0n _ D1)
def sX (r k p : Nat) : Nat:=p+nS r k p+gC r k+cB r k+iS r k r+4
def vB (r : Nat) : Nat→Nat→Nat
 | 0,p=>p
 | k+1,p=>vB r k (nB r k p)
def qB (r : Nat) : Nat→Nat→Nat
 | 0,p=>p
 | k+1,p=>p+vB r (k+1) p+vB r (k+1) r+nB r k p+qB r k (sX r k p)+iB r k (sX r k p+gC r k)+iS r k (sX r k p+gC r k)+iB r k r+2*cB r k+4
theorem Xs2 {r k p q : Nat} (h : p≤q) : nB r k p≤nB r k q:=by unfold nB;omega
theorem Xdi {r : Nat} : ∀ {k s s' : Nat},s≤s'→vB r k s≤vB r k s'
 | 0,_,_,h=>h
 | k+1,_,_,h=>Xdi (k:=k) (Xs2 h)
theorem Xgh {r : Nat} : ∀ (k s : Nat),s≤vB r k s
 | 0,_=>W0a _
 | k+1,s=>W0j (Ybz r k s) (Xgh k _)
theorem Xqn {r i k s : Nat} (h : i≤k) : vB r i s≤vB r k s:=by
 induction k generalizing s with
 | zero=>rw [show i=0 by omega];exact W0a _
 | succ k ih =>
  by_cases e : i=k+1
  · rw [e];exact W0a _
  · exact W0j (ih (by omega)) (Xdi (k:=k) (Ybz r k s))
theorem Ybb {r k p q : Nat} (h : p≤q) : sX r k p≤sX r k q:=by
 have:=Xs1 (W0a r) h (k:=k)
 unfold sX;omega
theorem Xfk {r : Nat} : ∀ {k p q : Nat},p≤q→qB r k p≤qB r k q
 | 0,_,_,h=>h
 | k+1,p,q,h=>by
  have h1:=Xdi (r:=r) (k:=k+1) h
  have h2:=Xs2 (r:=r) (k:=k) h
  have h3:=Ybb (r:=r) (k:=k) h
  have h4:=Xfk (r:=r) (k:=k) h3
  have h5:=Xt1 (W0a r) (k:=k) (show sX r k p+gC r k≤sX r k q+gC r k by omega)
  have h6:=Xty (W0a r) (k:=k) (show sX r k p+gC r k≤sX r k q+gC r k by omega)
  unfold qB;omega
theorem Yi1 {r : Nat} : ∀ {k p : Nat},p≤qB r k p
 | 0,_=>W0a _
 | k+1,_=>by unfold qB;omega
theorem Ybk {r i k p : Nat} (h : i≤k) : qB r i p≤qB r k p:=by
 induction k generalizing p with
 | zero=>rw [show i=0 by omega];exact W0a _
 | succ k ih =>
  by_cases e : i=k+1
  · rw [e];exact W0a _
  · have h1:=ih (p:=p) (by omega)
    have h2 : qB r k p≤qB r k (sX r k p):=Xfk (by unfold sX;omega)
    have h3 : qB r k (sX r k p) ≤ qB r (k + 1) p := by conv => rhs; unfold qB
                                                       omega
    omega
open Go Go.Vm Go.Num Go.Tow
theorem Xom (x : Rat) : Xaz x.num 0=Xh0 x:=by
 rcases Xaq x.num 0 with ⟨h,e⟩ | ⟨h,e⟩ | ⟨h,e⟩ <;> rw [e]
 · rw [Xc8 (by rw [Rat.lt_iff];show x.num*1<0*_;omega)]
 · rw [W5c.1 h];rfl
 · rw [Xcm (by rw [Rat.lt_iff];show 0*_<x.num*1;omega)]
theorem Yel {k : Nat} (t : Tw (k+1)) (a : Tow.El (k+1)) : sgn (k+1) t a=if sgn k t.1 a.2=0∨sgn k t.1 a.1=sgn k t.1 a.2 then sgn k t.1 a.1 else if sgn k t.1 a.1=0 then sgn k t.1 a.2 else sgn k t.1 a.1*sgn k t.1 (Tow.norm k t a):=rfl
theorem Ya8 {k : Nat} {t t' : Tw k} {a b : Tow.El k} : arB .mul .i64 (sgn k t a) (sgn k t' b) (sgn k t a*sgn k t' b):=by
 rcases Xef t a with h | h | h <;> rcases Xef t' b with h' | h' | h' <;> rw [h,h'] <;> exact wr rfl (by simp [inK])
theorem Xi4 {k : Nat} : ∀ {r s : Nat} {t : Tw k} {a : Tow.El k},TS r k t→Sz s (toL k a)→k≤16→vB r k s≤4398046511104→r≤4398046511104→C0 190 [.d (dt t),.d (de a)] (·=.d (.int .i64 (sgn k t a))):=by
 induction k with
 | zero =>
  intro r s t a hT ha hk hs hr
  have hs : s≤4398046511104:=hs
  have key : ∀ y : Rat,Qs s y→C0 190 [.d (dts []),.d (dqs [y])] (·=.d (.int .i64 (Xh0 y))):=fun y hy=>by
   refine En Tryz.func190 fun _ _ _=>?_
   refine Yes rfl rfl ?_
   refine Ix 0 rfl (u:=dq y) rfl ?_
   refine Ce rfl (Xex hy (by omega)) ?_
   rw [Xom]
   exact R0
  exact key a (ha.qs (W0g.2 rfl))
 | succ k ih =>
  intro r s t a hT ha hk hs hr
  have hx : Sz s (toL k a.1):=Sz.left ha
  have hy : Sz s (toL k a.2):=Sz.right ha
  have hv : vB r k (nB r k s)≤4398046511104:=hs
  have hv1:=Xgh (r:=r) k (nB r k s)
  have hv2:=Xdi (r:=r) (k:=k) (Ybz r k s)
  have hn : nB r k s=4*s+3*cB r k+r+1:=rfl
  have hz:=ha.norm hT
  refine En Tryz.func190 fun _ _ _=>?_
  refine No rfl (by show ¬ ((((toT k t.1++[toL k t.2]).map dqs).length : Nat) : Int)=0;rw [twL];omega) ?_
  refine Ar k rfl ?_ (tw1 t (by omega))
  refine Ar (2 ^ k : Nat) rfl ?_ (hvq a (by omega))
  refine Dw rfl ?_
  refine Tk k ((toT k t.1).map dqs) rfl rfl (Yat t) (twT t) ?_
  refine Tk (2 ^ k) ((toL k a.1).map dq) rfl rfl (Xh7 a) (hvT a) ?_
  refine Dp (2 ^ k) ((toL k a.2).map dq) rfl rfl (Xh7 a) (hvD a) ?_
  refine Ce rfl (ih hT.1 hx (by omega) (by omega) hr) ?_
  refine Ce rfl (ih hT.1 hy (by omega) (by omega) hr) ?_
  rw [Yel]
  refine By rfl (fun h=>?_) fun h=>?_
  · rw [if_pos (.inl h)]
    exact R0
  · refine By rfl (fun h1=>?_) fun h1=>?_
    · rw [if_pos (.inr h1)]
      exact R0
    · rw [if_neg (fun e=>e.elim h h1)]
      refine By rfl (fun h2=>?_) fun h2=>?_
      · rw [if_pos h2]
        exact R0
      · rw [if_neg h2]
        refine Dw rfl ?_
        refine Ce rfl (Xc7 hT.1 hx hx (by omega) (by omega) hr) ?_
        refine Ix k rfl (twU t) ?_
        refine Ce rfl (Xc7 hT.1 hy hy (by omega) (by omega) hr) ?_
        refine Ce rfl (Xc7 hT.1 hT.2 (hy.mul hT.1 hy) (by omega) (by omega) hr) ?_
        refine Ce rfl (Xjc hT.1 (hx.mul hT.1 hx) (hT.2.mul hT.1 (hy.mul hT.1 hy)) (by omega) (by omega) hr) ?_
        rw [(Xbf k t.1).mc t.2]
        refine Ce rfl (ih hT.1 hz (by omega) hv hr) ?_
        refine Ar _ rfl ?_ Ya8
        exact R0
theorem Tw.take {k : Nat} : ∀ {t : Tw k} {i : Nat},i<k→∃ (w : Tw i) (x : Tow.El i),(toT k t).take i=toT i w∧(toT k t)[i]?=some (toL i x)∧(∀ r,TS r k t→TS r i w∧Sz r (toL i x))∧(Xbz k t→Xbz i w∧sgn i w x=1)∧(red k t→red i w∧sgn i w x=1∧¬ Xeb i w x):=by
 induction k with
 | zero=>intro t i h;omega
 | succ k ih =>
  intro t i h
  have hl:=Xaa k t.1
  by_cases e : i=k
  · subst e
    refine ⟨t.1,t.2,W7l hl,?_,fun r h=>h,fun h=>h,fun h=>h⟩
    show (toT i t.1++[toL i t.2])[i]?=_
    rw [W0o (by omega),hl,W2t];rfl
  · obtain ⟨w,x,h1,h2,h3,h4,h5⟩:=ih (t:=t.1) (i:=i) (by omega)
    refine ⟨w,x,?_,?_,fun r h=>h3 r h.1,fun h=>h4 h.1,fun h=>h5 h.1⟩
    · show (toT k t.1++[toL k t.2]).take i=_
      rw [List.take_append_of_le_length (by omega),h1]
    · show (toT k t.1++[toL k t.2])[i]?=_
      rw [W1a (by omega),h2]
theorem qs0 : Qs 1 0:=⟨show (0 : Rat).num.natAbs<2 ^ 1 by decide +kernel,show ((0 : Rat).den : Int).natAbs<2 ^ 1 by decide +kernel⟩
section
variable {k r s : Nat} {t : Tw k} {a : Tow.El k}
theorem Ydj (hT : TS r k t) (hR : Xbz k t) (hk : k≤16) (hv : vB r k r≤4398046511104) (hr : r≤4398046511104) : C0 254 [.d (dt t)] (·=.b true):=by
 refine En Tryz.func254 fun _ _ _=>?_
 refine Ce rfl (Xav (z:=0) (by decide)) ?_
 refine Ce rfl (Xcb (x:=0) (p:=1) hT hk hr qs0 (by decide)) ?_
 refine Ce rfl (Xbq hT (Sz.rat (p:=1) k qs0) hk (by decide) hr) ?_
 refine No rfl (by simp) ?_
 refine Lo (fun i : Nat=>[(0,.d (dt t)),(11,.d (dt t)),(12,.d (.int .i64 ((toT k t).map dqs).length)),(13,.d (.int .i64 i))]) (fun _=>[]) (fun i=>i≤k) (fun i=>k - i) 0 [] rfl (by omega) (fun i hi=>?_)
 refine By rfl (fun h=>?_) fun h=>?_ <;> simp only [lt',Xaa] at h
 · obtain ⟨w,x,h1,h2,h3,h4,h5⟩:=Tw.take (t:=t) (i:=i) (by omega)
   have hx:=h3 r hT
   have h6:=Xqn (r:=r) (s:=r) (show i≤k by omega)
   refine Ix i rfl (mp h2) ?_
   refine Tk i ((toT i w).map dqs) rfl rfl (by rw [lt',Xaa];omega) (by rw [←W3q,h1]) ?_
   refine Ce rfl (Xi4 hx.1 hx.2 (by omega) (by omega) hr) ?_
   refine No rfl (by rw [(h4 hR).2];decide) ?_
   refine Ar (i+1 : Nat) rfl ?_
   exact Bk (i+1) [] rfl (show i+1≤k by omega) (by show k - (i+1)<k - i;omega)
 · exact R0
theorem Xnb {l : List (List Rat)} (hT : TS r k t) (hR : Xbz k t) (hk : k≤16) (hv : vB r k r≤4398046511104) (hr : r≤4398046511104) (hl : ∀ x∈l,∃ a : Tow.El k,x=toL k a∧Sz s (toL k a)) (hn : l.length≤1000) (hs : s≤4398046511104) : C0 187 [.d (dt t),.d (dts l)] (·=.b true):=by
 refine En Tryz.func187 fun _ _ _=>?_
 refine Lo (fun i : Nat=>[(0,.d (dt t)),(7,.d (dts l)),(8,.d (.int .i64 (l.map dqs).length)),(9,.d (.int .i64 i))]) (fun _=>[]) (fun i=>i≤l.length) (fun i=>l.length - i) 0 [] rfl (by omega) (fun i hi=>?_)
 refine By rfl (fun h=>?_) fun h=>?_ <;> simp only [lt'] at h
 · obtain ⟨x,hx⟩ : ∃ x,l[i]?=some x:=⟨_,W0c (by omega)⟩
   obtain ⟨a,rfl,ha⟩:=hl x (W1b hx)
   refine Ix i rfl (mp hx) ?_
   refine Ce rfl (Xbq hT ha hk hs hr) ?_
   refine No rfl (by simp) ?_
   refine Ar (i+1 : Nat) rfl ?_
   exact Bk (i+1) [] rfl (show i+1≤l.length by omega) (by show l.length - (i+1)<l.length - i;omega)
 · refine Ce rfl (Ydj hT hR hk hv hr) ?_
   exact R0
theorem Xkh (hT : TS r k t) (ha : Sz s (toL k a)) (hR : Xbz k t) (hk : k≤16) (hs : vB r k s≤4398046511104) (hv : vB r k r≤4398046511104) (hr : r≤4398046511104) : C0 232 [.d (dt t),.d (de a)] (·=.d (.int .i64 (sgn k t a))):=by
 have:=Xgh (r:=r) k s
 refine En Tryz.func232 fun _ _ _=>?_
 refine Ce rfl (Xnb (l:=[toL k a]) (s:=s) hT hR hk hv hr (fun x hx=>⟨a,W0g.1 hx,ha⟩) (by simp) (by omega)) ?_
 refine No rfl (by simp) ?_
 refine Ce rfl (Xi4 hT ha hk hs hr) ?_
 exact R0
end
end Go.Proofs.YtdlhdemfnfpboaaGreatDoor
namespace Go.Proofs.YtdlhdemfnfpboaaGreatDoor.R7
open Go Go.Vm Go.Num Go.Tow Go.Proofs.YtdlhdemfnfpboaaGreatDoor
section
variable {k r s : Nat} {t : Tw k} {a : Tow.El k}
end
end Go.Proofs.YtdlhdemfnfpboaaGreatDoor.R7
namespace Go.Num
theorem Zs.len2 {p : Nat} {z : Int} (h : Zs p z) (hp : p≤4398046511104) : (dig z.natAbs).length≤137438953473:=by
 have h1 : z.natAbs<4294967296 ^ (p / 32+1):=by
  rw [show 4294967296=2 ^ 32 from rfl,←W4u]
  exact W0q h (W0m (by decide) (by omega))
 have:=Xao h1
 omega
end Go.Num
namespace Go.Proofs.YtdlhdemfnfpboaaGreatDoor.R2
open Go Go.Vm Go.Num Go.Proofs.YtdlhdemfnfpboaaGreatDoor
def dR (b : Bool) (l : List Nat) (b' : Bool) (l' : List Nat) : D:=.st (.pr (dS b l) (dS b' l'))
end Go.Proofs.YtdlhdemfnfpboaaGreatDoor.R2
namespace Go.Proofs.YtdlhdemfnfpboaaGreatDoor
open Go Go.Vm Go.Num Go.Tow
theorem Xxl {p : Prop} (h : ¬ p) {g : Hp} {K : Hpl} : FitT g K (.b false) (.b (dc p)):=.one (by exact .bp (c:=false) ⟨nofun,fun e=>absurd e h⟩) (fun _ _ e=>by cases e) (fun _ _ e=>by cases e)
theorem Ygc {p : Prop} (h : p) {g : Hp} {K : Hpl} : FitT g K (.b true) (.b (dc p)):=.one (by exact .bp (c:=true) ⟨fun _=>h,fun _=>rfl⟩) (fun _ _ e=>by cases e) (fun _ _ e=>by cases e)
theorem Xb3 {n : Int} {g : Hp} {K : Hpl} : FitT g K (.d (.int .i64 n)) (.d (.int .i64 n)):=.one (.rf rfl) (fun _ _ e=>by cases e) (fun _ _ e=>by cases e)
theorem Yce : (Rat.divInt 1 2)=1 / 2:=by decide +kernel
end Go.Proofs.YtdlhdemfnfpboaaGreatDoor
namespace Go.Proofs.YtdlhdemfnfpboaaGreatDoor.R6
open Go Go.Vm Go.Num Go.Tow Go.Proofs.YtdlhdemfnfpboaaGreatDoor
end Go.Proofs.YtdlhdemfnfpboaaGreatDoor.R6
namespace Go.Proofs.YtdlhdemfnfpboaaGreatDoor.R8
open Go Go.Vm Go.Num Go.Tow Go.Proofs.YtdlhdemfnfpboaaGreatDoor
def AdjR (k : Nat) (t : Tw k) (a : Tow.El k) (v : AV) : Prop :=
 (sgn k t a<0∧v=.tup (.pr (.d (dts [])) (.pr (.d (dqs [])) (.d (.int .i64 7))))) ∨
 (∃ x,mul k t x x=a∧0≤sgn k t x∧v=.tup (.pr (.d (dt t)) (.pr (.d (de x)) (.d (.int .i64 0))))) ∨
 (0≤sgn k t a∧¬ Xeb k t a∧k<8∧v=.tup (.pr (.d (dt (tsn t a))) (.pr (.d (de (Xf4 (k+1) k))) (.d (.int .i64 0)))))
end Go.Proofs.YtdlhdemfnfpboaaGreatDoor.R8
namespace Go.Tow
open Go Go.Num Go.Proofs.YtdlhdemfnfpboaaGreatDoor
section
def ev {K : Nat} (G : Tw K) (ρ : Nat→El K) : (k : Nat)→El k→El K
 | 0,x=>rat K x
 | k+1,a=>add K (ev G ρ k a.1) (mul K G (ev G ρ k a.2) (ρ k))
def Hom {K : Nat} (G : Tw K) (ρ : Nat→El K) : (k : Nat)→Tw k→Prop
 | 0,_=>True
 | k+1,t=>Hom G ρ k t.1∧mul K G (ρ k) (ρ k)=ev G ρ k t.2∧sgn K G (ρ k)=1
variable {K : Nat} {G : Tw K} {ρ σ : Nat→El K}
theorem Xbm : ∀ {k : Nat} {a : El k},(∀ i,i<k→ρ i=σ i)→ev G ρ k a=ev G σ k a
 | 0,_,_=>rfl
 | k+1,a,h=>by
  show add K (ev G ρ k a.1) (mul K G (ev G ρ k a.2) (ρ k))=add K (ev G σ k a.1) (mul K G (ev G σ k a.2) (σ k))
  rw [Xbm (k:=k) fun i hi=>h i (by omega),Xbm (k:=k) (a:=a.2) fun i hi=>h i (by omega),h k (by omega)]
theorem Hom.congr : ∀ {k : Nat} {t : Tw k},Hom G ρ k t→(∀ i,i<k→ρ i=σ i)→Hom G σ k t
 | 0,_,_,_=>trivial
 | k+1,t,⟨h1,h2,h3⟩,h=>⟨h1.congr fun i hi=>h i (by omega),by rw [←h k (by omega),h2];exact Xbm fun i hi=>h i (by omega),by rw [←h k (by omega)];exact h3⟩
theorem Xhl : ∀ {k : Nat},ev G ρ k (zero k)=zero K
 | 0=>Xjm K
 | k+1=>by
  show add K (ev G ρ k (zero k)) (mul K G (ev G ρ k (zero k)) (ρ k))=zero K
  rw [Xhl,(Xbf K G).zm,(Xbf K G).az]
theorem Xec : ∀ {k : Nat} {a b : El k},ev G ρ k (add k a b)=add K (ev G ρ k a) (ev G ρ k b)
 | 0,a,b=>Xfj K a b
 | k+1,a,b=>by
  show add K (ev G ρ k (add k a.1 b.1)) (mul K G (ev G ρ k (add k a.2 b.2)) (ρ k))=add K (add K (ev G ρ k a.1) (mul K G (ev G ρ k a.2) (ρ k))) (add K (ev G ρ k b.1) (mul K G (ev G ρ k b.2) (ρ k)))
  rw [Xec,Xec]
  have L:=Xbf K G
  exact (Laws.req L [ev G ρ k a.1,ev G ρ k a.2,ev G ρ k b.1,ev G ρ k b.2,ρ k] (.add (.add (.v 0) (.v 2)) (.mul (.add (.v 1) (.v 3)) (.v 4))) (.add (.add (.v 0) (.mul (.v 1) (.v 4))) (.add (.v 2) (.mul (.v 3) (.v 4)))) (by decide +kernel))
theorem Xe5 : ∀ {k : Nat} {a : El k},ev G ρ k (neg k a)=neg K (ev G ρ k a)
 | 0,a=>Xmr K a
 | k+1,a=>by
  show add K (ev G ρ k (neg k a.1)) (mul K G (ev G ρ k (neg k a.2)) (ρ k))=neg K (add K (ev G ρ k a.1) (mul K G (ev G ρ k a.2) (ρ k)))
  rw [Xe5,Xe5,(Xbf K G).nm,(Xbf K G).nd]
theorem Ygi {k : Nat} {a : El k} : ev G ρ (k+1) (up k a)=ev G ρ k a:=by
 show add K (ev G ρ k a) (mul K G (ev G ρ k (zero k)) (ρ k))=_
 rw [Xhl,(Xbf K G).zm,(Xbf K G).az]
theorem Xp3 : ∀ {k : Nat} {x : Rat},ev G ρ k (rat k x)=rat K x
 | 0,_=>rfl
 | k+1,x=>by rw [show rat (k+1) x=up k (rat k x) from rfl,Ygi,Xp3]
theorem Xb5 : ∀ {k : Nat} {t : Tw k} {a b : El k},Hom G ρ k t→ev G ρ k (mul k t a b)=mul K G (ev G ρ k a) (ev G ρ k b)
 | 0,t,a,b,_=>Xdl K G a b
 | k+1,t,a,b,h=>by
  show add K (ev G ρ k (add k (mul k t.1 a.1 b.1) (mul k t.1 (mul k t.1 a.2 b.2) t.2))) (mul K G (ev G ρ k (add k (mul k t.1 a.1 b.2) (mul k t.1 a.2 b.1))) (ρ k))=mul K G (add K (ev G ρ k a.1) (mul K G (ev G ρ k a.2) (ρ k))) (add K (ev G ρ k b.1) (mul K G (ev G ρ k b.2) (ρ k)))
  rw [Xec,Xec,Xb5 h.1,Xb5 h.1,Xb5 h.1,Xb5 h.1,Xb5 h.1,←h.2.1]
  have L:=Xbf K G
  exact (Laws.req L [ev G ρ k a.1,ev G ρ k a.2,ev G ρ k b.1,ev G ρ k b.2,ρ k] (.add (.add (.mul (.v 0) (.v 2)) (.mul (.mul (.v 1) (.v 3)) (.mul (.v 4) (.v 4)))) (.mul (.add (.mul (.v 0) (.v 3)) (.mul (.v 1) (.v 2))) (.v 4))) (.mul (.add (.v 0) (.mul (.v 1) (.v 4))) (.add (.v 2) (.mul (.v 3) (.v 4)))) (by decide +kernel))
theorem Yck {k : Nat} {t : Tw (k+1)} {a : El (k+1)} (h : Hom G ρ k t.1) : ev G ρ k (norm k t a)=add K (mul K G (ev G ρ k a.1) (ev G ρ k a.1)) (neg K (mul K G (mul K G (ev G ρ k a.2) (ev G ρ k a.2)) (ev G ρ k t.2))):=by
 unfold norm
 rw [Xec,Xe5,Xb5 h,Xb5 h,Xb5 h]
theorem Xfv (hG : Xbz K G) : ∀ {k : Nat} {t : Tw k} {a : El k},Hom G ρ k t→sgn K G (ev G ρ k a)=sgn k t a
 | 0,t,a,_=>Xgu hG
 | k+1,t,a,h=>by
  have L:=Xbf K G
  have S:=Xa3 hG
  have e : sgn (k+1) t a=L.sx (ev G ρ k t.2) (sgn K G) (ev G ρ k a.1,ev G ρ k a.2):=by
   show (if sgn k t.1 a.2=0∨sgn k t.1 a.1=sgn k t.1 a.2 then sgn k t.1 a.1 else if sgn k t.1 a.1=0 then sgn k t.1 a.2 else sgn k t.1 a.1*sgn k t.1 (norm k t a))=_
   rw [←Xfv hG h.1,←Xfv hG h.1 (a:=a.1),←Xfv hG h.1 (a:=norm k t a),Yck h.1]
   rfl
  have hr : L.Rt (ev G ρ k t.2) (sgn K G) (ρ k) (rat K 1):=by
   refine ⟨h.2.2,by rw [Xgu hG];decide +kernel,?_⟩
   rw [h.2.1,L.mo,L.mo,L.an,S.s0 L]
  have hd : sgn K G (ev G ρ k t.2)=1:=by rw [←h.2.1,S.sm,h.2.2];rfl
  rw [e,S.sx_rt L hd hr,L.mo]
  rfl
theorem Ycl (hG : Xbz K G) {k : Nat} {t : Tw k} (h : Hom G ρ k t) (hr : red k t) {a : El k} (e : ev G ρ k a=zero K) : a=zero k:=by
 have:=Xfv hG h (a:=a)
 rw [e,(Xa3 hG).s0 (Xbf K G)] at this
 exact (Xew hr).1 this.symm
theorem Xlp (hG : Xbz K G) {k : Nat} {t : Tw k} (h : Hom G ρ k t) (hr : red k t) {a b : El k} (e : ev G ρ k a=ev G ρ k b) : a=b:=by
 refine (Xbf k t).sub0 (Ycl hG h hr (a:=add k a (neg k b)) ?_)
 rw [Xec,Xe5,e,(Xbf K G).an]
theorem Hom.uniq (hG : red K G) : ∀ {k : Nat} {t : Tw k},Hom G ρ k t→Hom G σ k t→∀ i,i<k→ρ i=σ i
 | 0,_,_,_,i,hi=>by omega
 | k+1,t,h,h',i,hi=>by
  have ih:=h.1.uniq hG h'.1
  by_cases e : i=k
  · subst e
    refine Xob hG (by rw [h.2.1,h'.2.1,Xbm ih]) (by rw [h.2.2];decide) (by rw [h'.2.2];decide)
  · exact ih i (by omega)
theorem Xos (i : Nat) : Xf4 (i+1) i=(pr (zero i) (rat i 1) : El (i+1)):=by
 unfold Xf4;rw [if_pos rfl]
theorem Xwq {k i : Nat} (h : i≠k) : Xf4 (k+1) i=(up k (Xf4 k i) : El (k+1)):=by
 conv=>lhs;unfold Xf4
 rw [if_neg h]
theorem Xhm : ∀ {k i : Nat},i<k→ev G ρ k (Xf4 k i)=ρ i
 | k+1,i,hi=>by
  by_cases e : i=k
  · subst e
    rw [Xos]
    show add K (ev G ρ i (zero i)) (mul K G (ev G ρ i (rat i 1)) (ρ i))=_
    rw [Xhl,Xp3,(Xbf K G).om,(Xbf K G).za]
  · rw [Xwq e,Ygi,Xhm (by omega)]
theorem Hom.ne (hG : Xbz K G) : ∀ {k : Nat} {t : Tw k},Hom G ρ k t→red k t→∀ i j,i<j→j<k→ρ i≠ρ j
 | 0,_,_,_,i,j,_,h=>by omega
 | k+1,t,h,hr,i,j,hij,hj=>fun e=>by
  by_cases ej : j=k
  · subst ej
    refine hr.2.2 ⟨Xf4 j i,Xlp hG h.1 hr.1 ?_⟩
    rw [Xb5 h.1,Xhm hij,e,h.2.1]
  · exact h.1.ne hG hr.1 i j hij (by omega) e
theorem Xzk {α : Type} : ∀ (k : Nat) (S : List α) (f : Nat→α),(∀ i,i<k→f i∈S)→(∀ i j,i<j→j<k→f i≠f j)→k≤S.length
 | 0,_,_,_,_=>W0y _
 | k+1,S,f,h1,h2=>by
  obtain ⟨A,B,e⟩:=List.append_of_mem (h1 k (by omega))
  have:=Xzk k (A++B) f (fun i hi=>by
   have h3:=h1 i (by omega)
   rw [e] at h3
   rcases W2z.1 h3 with h3 | h3
   · exact W2e _ h3
   · rcases W1o.1 h3 with h3 | h3
     · exact absurd h3 (h2 i k hi (by omega))
     · exact W1k _ h3) (fun i j hi hj=>h2 i j hi (by omega))
  rw [e]
  simp only [W0d,W0l] at this ⊢
  omega
structure TOk {K : Nat} (G : Tw K) (S : List (El K)) (k : Nat) (t : Tw k) (ρ : Nat→El K) : Prop where
 r : red k t
 h : Hom G ρ k t
 s : ∀ i,i<k→ρ i∈S
theorem TOk.le (hG : Xbz K G) {S : List (El K)} {k : Nat} {t : Tw k} (h : TOk G S k t ρ) : k≤S.length:=Xzk k S ρ h.s (h.h.ne hG h.r)
theorem TOk.snoc (hG : Xbz K G) {S : List (El K)} {k : Nat} {t : Tw k} (h : TOk G S k t ρ) {a : El k} (hn : ¬ Xeb k t a) {s : El K} (hs : s∈S) (h1 : mul K G s s=ev G ρ k a) (h2 : sgn K G s=1) : TOk G S (k+1) (tsn t a) (fun i=>if i=k then s else ρ i) where
 r:=⟨h.r,by show sgn k t a=1;rw [←Xfv hG h.h,←h1,(Xa3 hG).sm,h2];rfl,hn⟩
 h:=⟨h.h.congr fun i hi=>(if_neg (by omega)).symm,by
  show mul K G (if k=k then s else ρ k) (if k=k then s else ρ k)=ev G _ k a
  rw [if_pos rfl,h1];exact Xbm fun i hi=>(if_neg (by omega)).symm,by
  show sgn K G (if k=k then s else ρ k)=1
  rw [if_pos rfl,h2]⟩
 s:=fun i hi=>by
  show (if i=k then s else ρ i)∈S
  split
  · exact hs
  · exact h.s i (by omega)
end
section
variable {K : Nat} {G : Tw K} {ρ : Nat→El K}
def Lf {k m : Nat} (a : El k) (b : El m) : Prop:=toL m b=toL k a++List.replicate (2 ^ m - 2 ^ k) 0
theorem Lf.ex {k m : Nat} (h : k≤m) (a : El k) : ∃ b : El m,Lf a b:=by
 obtain ⟨b,hb⟩:=exE m (toL k a++List.replicate (2 ^ m - 2 ^ k) 0) (by
  have:=W0m (n:=2) (by decide) h
  rw [W0d,Xac,W2o];omega)
 exact ⟨b,hb⟩
theorem Lf.rfl' {k : Nat} (a : El k) : Lf a a:=by unfold Lf;rw [W2t];simp
theorem Lf.eq {k : Nat} {a b : El k} (h : Lf a b) : b=a:=by
 unfold Lf at h;rw [W2t] at h
 exact Xgm (by simpa using h)
theorem Lf.ev {k : Nat} {a : El k} : ∀ {m : Nat} {b : El m},k≤m→Lf a b→ev G ρ m b=ev G ρ k a:=by
 intro m
 induction m with
 | zero=>intro b h hl;have:=Nat.le_zero.1 h;subst this;rw [hl.eq]
 | succ m ih =>
  intro b h hl
  by_cases e : k=m+1
  · subst e;rw [hl.eq]
  · have hp:=W0m (n:=2) (by decide) (show k≤m by omega)
    have hs : 2 ^ (m+1) - 2 ^ k=(2 ^ m - 2 ^ k)+2 ^ m:=by rw [W0p];omega
    have hl : toL m b.1++toL m b.2=(toL k a++List.replicate (2 ^ m - 2 ^ k) 0)++List.replicate (2 ^ m) 0:=by
     have : toL (m+1) b=_:=hl
     rw [hs,←W4s,←W2p] at this
     exact this
    obtain ⟨h1,h2⟩:=Xen (by rw [Xac,W0d,Xac,W2o];omega) hl
    have e2 : b.2=zero m:=Xgm (by rw [h2,Xb7])
    show add K (Tow.ev G ρ m b.1) (mul K G (Tow.ev G ρ m b.2) (ρ m))=_
    rw [e2,Xhl,(Xbf K G).zm,(Xbf K G).az]
    exact ih (by omega) h1
theorem Lf.sz {k m p : Nat} {a : El k} {b : El m} (h : Lf a b) (ha : Sz p (toL k a)) : Sz p (toL m b):=by
 obtain ⟨d,d0,d1,d2⟩:=ha
 rw [h]
 exact ⟨d,d0,d1,d2.append fun x hx=>⟨0,by rw [(W6a.1 hx).2,W4z];rfl,W0x p⟩⟩
theorem Xi8 : ∀ {k : Nat} {t w : Tw k},toT k t=toT k w→t=w
 | 0,_,_,_=>rfl
 | k+1,t,w,h=>by
  have h : toT k t.1++[toL k t.2]=toT k w.1++[toL k w.2]:=h
  obtain ⟨h1,h2⟩:=Xen (by rw [Xaa,Xaa]) h
  exact W4e (Xi8 h1) (Xgm (by injection h2))
theorem Tw.cut {k : Nat} : ∀ {t : Tw k} {i : Nat},i≤k→∃ w : Tw i,toT i w=(toT k t).take i∧(∀ r,TS r k t→TS r i w)∧(red k t→red i w)∧∀ {K : Nat} {G : Tw K} {ρ : Nat→El K},Hom G ρ k t→Hom G ρ i w:=by
 induction k with
 | zero=>intro t i h;have:=Nat.le_zero.1 h;subst this;exact ⟨t,rfl,fun _ h=>h,fun h=>h,fun h=>h⟩
 | succ k ih =>
  intro t i h
  by_cases e : i=k+1
  · subst e;exact ⟨t,by rw [W0b (by rw [Xaa];exact W0a _)],fun _ h=>h,fun h=>h,fun h=>h⟩
  · obtain ⟨w,h1,h2,h3,h4⟩:=ih (t:=t.1) (i:=i) (by omega)
    refine ⟨w,?_,fun r h=>h2 r h.1,fun h=>h3 h.1,fun h=>h4 h.1⟩
    show _=(toT k t.1++[toL k t.2]).take i
    rw [List.take_append_of_le_length (by rw [Xaa];omega),h1]
def Beg (k : Nat) (t : Tw k) (m : Nat) (T : Tw m) : Prop:=(toT m T).take (toT k t).length=toT k t
theorem Beg.le {k m : Nat} {t : Tw k} {T : Tw m} (h : Beg k t m T) : k≤m:=by
 have:=congrArg List.length h
 simp only [W0i,Xaa] at this;omega
theorem Beg.hom {k m : Nat} {t : Tw k} {T : Tw m} (h : Beg k t m T) (hT : Hom G ρ m T) : Hom G ρ k t:=by
 obtain ⟨w,h1,_,_,h4⟩:=Tw.cut (t:=T) h.le
 have : w=t:=Xi8 (by rw [h1];unfold Beg at h;rwa [Xaa] at h)
 rw [←this];exact h4 hT
theorem Beg.rf {k : Nat} {t : Tw k} : Beg k t k t:=W0b (W0a _)
theorem Beg.tr {k l m : Nat} {t : Tw k} {u : Tw l} {w : Tw m} (h : Beg k t l u) (h' : Beg l u m w) : Beg k t m w:=by
 have h1:=h.le
 unfold Beg at *
 rw [←h',List.take_take,Xaa,Xaa,W1u h1] at h
 rw [Xaa];exact h
theorem Beg.snoc {k : Nat} {t : Tw k} {a : El k} : Beg k t (k+1) (tsn t a):=W7l rfl
def imB (c z : Nat) : Nat→Nat→Nat
 | 0,p=>p+1
 | j+1,p=>2*imB c z j p+z+c+1
theorem Xne {k R z : Nat} {T : Tw k} {σ : Nat→El k} (hT : TS R k T) : ∀ {j p : Nat} {a : El j},(∀ i,i<j→Sz z (toL k (σ i)))→Sz p (toL j a)→Sz (imB (cB R k) z j p) (toL k (ev T σ j a))
 | 0,p,a,_,ha=>Sz.rat k (ha.qs (x:=a) (W0g.2 rfl))
 | j+1,p,a,hs,ha=>by
  have h1:=Xne hT (a:=a.1) (fun i hi=>hs i (by omega)) (Sz.left ha)
  have h2:=Xne hT (a:=a.2) (fun i hi=>hs i (by omega)) (Sz.right ha)
  have h3:=h2.mul hT (hs j (by omega))
  show Sz _ (toL k (add k (Tow.ev T σ j a.1) (mul k T (Tow.ev T σ j a.2) (σ j))))
  rw [Xa2]
  exact (h1.add h3).mono (by show _≤2*imB (cB R k) z j p+z+cB R k+1;omega)
theorem Xq1 {k : Nat} {T : Tw k} {σ : Nat→El k} {ρ' : Nat→El K} (hT : Hom G ρ k T) : ∀ {j : Nat} {a : El j},(∀ i,i<j→ev G ρ k (σ i)=ρ' i)→ev G ρ k (ev T σ j a)=ev G ρ' j a
 | 0,a,_=>Xp3
 | j+1,a,h=>by
  show ev G ρ k (add k (ev T σ j a.1) (mul k T (ev T σ j a.2) (σ j)))=add K (ev G ρ' j a.1) (mul K G (ev G ρ' j a.2) (ρ' j))
  rw [Xec,Xb5 hT,Xq1 hT fun i hi=>h i (by omega),Xq1 hT (a:=a.2) fun i hi=>h i (by omega),h j (by omega)]
end
section
theorem Tw.at {k : Nat} : ∀ {t : Tw k} {i : Nat},i<k→∃ x : El i,(toT k t)[i]?=some (toL i x)∧(∀ r,TS r k t→Sz r (toL i x))∧∀ {K : Nat} {G : Tw K} {ρ : Nat→El K},Hom G ρ k t→mul K G (ρ i) (ρ i)=ev G ρ i x∧sgn K G (ρ i)=1:=by
 induction k with
 | zero=>intro t i h;omega
 | succ k ih =>
  intro t i h
  have hl:=Xaa k t.1
  by_cases e : i=k
  · subst e
    refine ⟨t.2,?_,fun r h=>h.2,fun h=>h.2⟩
    show (toT i t.1++[toL i t.2])[i]?=_
    rw [W0o (by omega),hl,W2t];rfl
  · obtain ⟨x,h1,h2,h3⟩:=ih (t:=t.1) (i:=i) (by omega)
    refine ⟨x,?_,fun r h=>h2 r h.1,fun h=>h3 h.1⟩
    show (toT k t.1++[toL k t.2])[i]?=_
    rw [W1a (by omega),h1]
theorem _root_.Go.Proofs.YtdlhdemfnfpboaaGreatDoor.TS.mono {r s : Nat} (h : r≤s) : ∀ {k : Nat} {t : Tw k},TS r k t→TS s k t
 | 0,_,_=>trivial
 | k+1,t,ht=>⟨ht.1.mono h,ht.2.mono h⟩
theorem Xi0 {r i k : Nat} (h : i≤k) : cB r i≤cB r k:=by
 induction k with
 | zero=>rw [show i=0 by omega];exact W0a _
 | succ k ih =>
  by_cases e : i=k+1
  · rw [e];exact W0a _
  · exact W0j (ih (by omega)) (Yjx r k)
theorem Yf7 {r i k : Nat} (h : i≤k) : gC r i≤gC r k:=by
 induction k with
 | zero=>rw [show i=0 by omega];exact W0a _
 | succ k ih =>
  by_cases e : i=k+1
  · rw [e];exact W0a _
  · exact W0j (ih (by omega)) (by show _≤2*gC r k+2*cB r k+r+iS r k r+2;omega)
theorem Xf7 {c c' z z' p p' : Nat} (h1 : c≤c') (h2 : z≤z') (h3 : p≤p') : ∀ {j : Nat},imB c z j p≤imB c' z' j p'
 | 0=>by show p+1≤p'+1;omega
 | j+1=>by have:=Xf7 h1 h2 h3 (j:=j);show 2*imB c z j p+z+c+1≤2*imB c' z' j p'+z'+c'+1;omega
theorem Xz4 {c z p : Nat} : ∀ {j : Nat},p≤imB c z j p
 | 0=>by show p≤p+1;omega
 | j+1=>by have:=Xz4 (c:=c) (z:=z) (p:=p) (j:=j);show _≤2*imB c z j p+z+c+1;omega
variable {K : Nat} {G : Tw K} {ρ ρ' ρu : Nat→El K}
def RtV (G : Tw K) (m z j : Nat) (rs : List (List Rat)) (ρ ρu : Nat→El K) : Prop:=∀ i,i<j→∃ (n : Nat) (s : El n),n≤m∧rs[i]?=some (toL n s)∧Sz z (toL n s)∧ev G ρ n s=ρu i
theorem RtV.mono {m m' z z' j : Nat} {rs : List (List Rat)} (h : RtV G m z j rs ρ ρu) (hm : m≤m') (hz : z≤z') (hr : ∀ i,i<m→ρ' i=ρ i) : RtV G m' z' j rs ρ' ρu:=fun i hi=>by
 obtain ⟨n,s,h1,h2,h3,h4⟩:=h i hi
 exact ⟨n,s,by omega,h2,h3.mono hz,by rw [←h4];exact Xbm fun i hi=>hr i (by omega)⟩
theorem RtV.snoc {m z j n : Nat} {rs : List (List Rat)} (h : RtV G m z j rs ρ ρu) (hl : rs.length=j) {s : El n} (hn : n≤m) (hz : Sz z (toL n s)) (he : ev G ρ n s=ρu j) : RtV G m z (j+1) (rs++[toL n s]) ρ ρu:=fun i hi=>by
 by_cases e : i=j
 · subst e
   exact ⟨n,s,hn,by rw [W0o (by omega),hl,W2t];rfl,hz,he⟩
 · obtain ⟨n',s',h1,h2,h3,h4⟩:=h i (by omega)
   exact ⟨n',s',h1,by rw [W1a (by omega),h2],h3,h4⟩
structure Nm where
 k : Nat
 t : Tw k
 a : El k
structure NOk (G : Tw K) (S : List (El K)) (r p : Nat) (x : Nm) (v : El K) : Prop where
 ex : ∃ ρ,TOk G S x.k x.t ρ∧ev G ρ x.k x.a=v
 r : TS r x.k x.t
 p : Sz p (toL x.k x.a)
theorem NOk.mono {S : List (El K)} {r r' p p' : Nat} {x : Nm} {v : El K} (h : NOk G S r p x v) (hr : r≤r') (hp : p≤p') : NOk G S r' p' x v:=⟨h.ex,h.r.mono hr,h.p.mono hp⟩
theorem NOk.le (hG : Xbz K G) {S : List (El K)} {r p : Nat} {x : Nm} {v : El K} (h : NOk G S r p x v) (hS : S.length≤3) : x.k≤3:=by
 obtain ⟨ρ,h1,_⟩:=h.ex
 exact W0j (h1.le hG) hS
theorem NOk.sgn (hG : Xbz K G) {S : List (El K)} {r p : Nat} {x : Nm} {v : El K} (h : NOk G S r p x v) : sgn K G v=sgn x.k x.t x.a:=by
 obtain ⟨ρ,h1,h2⟩:=h.ex
 rw [←h2,Xfv hG h1.h]
theorem NOk.neg {S : List (El K)} {r p : Nat} {x : Nm} {v : El K} (h : NOk G S r p x v) : NOk G S r p ⟨x.k,x.t,Tow.neg x.k x.a⟩ (Tow.neg K v):=by
 obtain ⟨ρ,h1,h2⟩:=h.ex
 exact ⟨⟨ρ,h1,by rw [←h2];exact Xe5⟩,h.r,by rw [Xca];exact h.p.neg⟩
end
end Go.Tow
namespace Go.Vm
open Go
section
variable {c : Cx} {s : St} {p : Pl}
theorem Nd (t sz : Nat) {K : List Kt} {E : Env} {H : Hpl} (h : nxJ c.tb c.n s=some (K,E,H)) (k : StP c (.j [] K ((t,.d (.sl sz []))::E) H)) (hv : look E t=some .nil:=by exact rfl) : StP c s:=by
 unfold nxJ at h
 split at h <;> cases h
 rename_i hr
 refine go 1000 hr ?_
 rintro a w ⟨s0,W,θ,hw,hs,hθ,rfl⟩
 refine k a w ⟨_,W,θ,hw,?_,hθ,rfl⟩
 rw [show sem ((t,AV.d (.sl sz []))::E) H=(upd (look E) t (.d (.sl sz [])),look H) from by rw [Xa9]]
 refine ⟨hs.fm,⟨hs.rel.defers,hs.rel.size,fun q v hq=>?_⟩,hs.obs,fun q v i hq hi=>?_⟩
 · rcases Xaf hq with ⟨e1,e2⟩ | ⟨e1,e2⟩
   · subst e1;subst e2
     obtain ⟨p,e⟩:=Xke (hs.rel.has q _ hv)
     rw [e]
     exact Yis rfl (W0a _) (by decide) (.inl rfl)
   · exact hs.rel.has q v e2
 · rcases Xaf hq with ⟨e1,e2⟩ | ⟨e1,e2⟩
   · subst e2;exact hi.elim
   · exact hs.ids q v i e2 hi
end
end Go.Vm
namespace Go.Proofs.YtdlhdemfnfpboaaGreatDoor.R9
open Go Go.Vm Go.Num Go.Tow Go.Proofs.YtdlhdemfnfpboaaGreatDoor
theorem cmpQ_ne {x y : Rat} : Xnl x y≠0↔x≠y:=by
 unfold Xnl
 split
 · exact ⟨fun _ e=>by subst e;exact absurd ‹_› (Rat.lt_irrefl),fun _=>by decide⟩
 · split
   · exact ⟨fun _ e=>by subst e;exact absurd ‹_› (Rat.lt_irrefl),fun _=>by decide⟩
   · exact ⟨fun h=>absurd rfl h,fun h=>by grind⟩
def Rts (k z j : Nat) (rs : List (List Rat)) (σ : Nat→Tow.El k) : Prop:=∀ i,i<j→∃ (m : Nat) (s : Tow.El m),m≤k∧rs[i]?=some (toL m s)∧Lf s (σ i)∧Sz z (toL k (σ i))
end Go.Proofs.YtdlhdemfnfpboaaGreatDoor.R9
namespace Go.Tow
open Go Go.Num Go.Proofs.YtdlhdemfnfpboaaGreatDoor
section
variable {K : Nat} {G : Tw K} {ρ : Nat→El K}
end
section
end
section
theorem Xja {b : Rat} : ∀ {m : Nat} {t : Tw m} {y : El m},toL m (mul m t (rat m b) y)=(toL m y).map (b*·)
 | 0,_,_=>rfl
 | m+1,t,y=>by
  have L:=Xbf m t.1
  show toL m (add m (mul m t.1 (rat m b) y.1) (mul m t.1 (mul m t.1 (zero m) y.2) t.2))++toL m (add m (mul m t.1 (rat m b) y.2) (mul m t.1 (zero m) y.1))=(toL m y.1++toL m y.2).map _
  rw [L.zm,L.zm,L.zm,L.az,L.az,Xja,Xja,W3o]
variable {K : Nat} {G : Tw K} {S : List (El K)} {r p : Nat} {ρ : Nat→El K}
end
section
def zM (R : Nat) : Nat→Nat
 | 0=>3
 | i+1=>zM R i+imB (cB R 3) (zM R i) i R+gC R 3
theorem Yan {R : Nat} : ∀ {i j : Nat},i≤j→zM R i≤zM R j
 | i,0,h=>by rw [show i=0 by omega];exact W0a _
 | i,j+1,h=>by
  by_cases e : i=j+1
  · rw [e];exact W0a _
  · exact W0j (Yan (show i≤j by omega)) (by show _≤zM R j+imB (cB R 3) (zM R j) j R+gC R 3;omega)
variable {K : Nat} {G : Tw K} {S : List (El K)} {R r p : Nat} {ρ : Nat→El K}
structure Wy (G : Tw K) (S : List (El K)) (R : Nat) : Prop where
 g : red K G
 s : S.length≤3
 t : ∀ {m : Nat} {T : Tw m} {ρ : Nat→El K},TOk G S m T ρ→TS R m T
theorem Wy.le (W : Wy G S R) {m : Nat} {T : Tw m} (h : TOk G S m T ρ) : m≤3:=W0j (h.le (Xap W.g)) W.s
theorem choose {m : Nat} {P : Nat→Prop} {ρu : Nat→El K} (h : ∀ j,P j→∃ e : El m,ev G ρ m e=ρu j) : ∃ σ : Nat→El m,∀ j,P j→ev G ρ m (σ j)=ρu j:=by
 have : ∀ j,∃ e : El m,P j→ev G ρ m e=ρu j:=fun j=>by
  by_cases hj : P j
  · obtain ⟨e,he⟩:=h j hj;exact ⟨e,fun _=>he⟩
  · exact ⟨zero m,fun h=>absurd h hj⟩
 exact Classical.axiomOfChoice this
theorem Yiu (W : Wy G S R) {m l : Nat} {T : Tw m} {u : Tw l} {ρu : Nat→El K} (hT : TOk G S m T ρ) (hu : TOk G S l u ρu) : ∀ i,i<l→(∀ j,j<i→∃ e : El m,ev G ρ m e=ρu j)→∀ e : El m,ev G ρ m e=ρu i→Sz (zM R (i+1)) (toL m e):=fun i=>by
 have hGr:=Xap W.g
 have hm:=W.le hT
 induction i using Nat.strongRecOn with
 | _ i ih =>
  intro hi hj e he
  obtain ⟨σ,hσ⟩:=choose (P:=(·<i)) hj
  obtain ⟨x,_,x2,x3⟩:=Tw.at (t:=u) hi
  have hx:=x2 R (W.t hu)
  obtain ⟨x3,_⟩:=x3 hu.h
  have hs : ∀ j,j<i→Sz (zM R i) (toL m (σ j)):=fun j h=>(ih j h (by omega) (fun j' h'=>hj j' (by omega)) _ (hσ j h)).mono (Yan h)
  have hsz:=(Xne (W.t hT) (a:=x) hs hx).mono (Xf7 (Xi0 hm) (W0a _) (W0a _))
  have hee : mul m T e e=ev T σ i x:=Xlp hGr hT.h hT.r (by rw [Xb5 hT.h,he,x3,Xq1 hT.h hσ])
  exact (Sz.rootS (W.t hT) hT.r hsz hee).mono (by have:=Yf7 (r:=R) hm;show _≤zM R i+imB (cB R 3) (zM R i) i R+gC R 3;omega)
theorem Xxq (hG : red K G) {m : Nat} {T : Tw m} (hT : TOk G S m T ρ) {g : El K} (hg : g∈S) (h1 : sgn K G g=1) {e : El m} (he : ev G ρ m e=mul K G g g) : ∃ (m' : Nat) (T' : Tw m') (ρ' : Nat→El K),TOk G S m' T' ρ'∧Beg m T m' T'∧(∀ i,i<m→ρ' i=ρ i)∧∃ e' : El m',ev G ρ' m' e'=g:=by
 have hGr:=Xap hG
 have L:=Xbf K G
 have Sg:=Xa3 hGr
 by_cases hs : Xeb m T e
 · obtain ⟨y,hy⟩:=hs
   refine ⟨m,T,ρ,hT,Beg.rf,fun _ _=>rfl,?_⟩
   have h2 : mul K G (ev G ρ m y) (ev G ρ m y)=mul K G g g:=by rw [←Xb5 hT.h,hy,he]
   by_cases h0 : 0≤sgn K G (ev G ρ m y)
   · exact ⟨y,Xob hG h2 h0 (by rw [h1];decide)⟩
   · refine ⟨neg m y,Xob hG ?_ (by rw [Xe5,Sg.sn];omega) (by rw [h1];decide)⟩
     rw [Xe5,L.mn,L.nm,L.nn,h2]
 · refine ⟨m+1,tsn T e,_,hT.snoc hGr hs hg he.symm h1,Beg.snoc,fun i hi=>if_neg (by omega),Xf4 (m+1) m,?_⟩
   rw [Xhm (by omega)]
   exact if_pos rfl
theorem Xud {m m' k : Nat} {T : Tw m} {T' : Tw m'} {ρ' : Nat→El K} (hB : Beg m T m' T') (ha : ∀ i,i<m→ρ' i=ρ i) {g : El K} (h : ∃ e : El m,ev G ρ m e=g) : ∃ e : El m',ev G ρ' m' e=g:=by
 obtain ⟨e,he⟩:=h
 obtain ⟨b,hb⟩:=Lf.ex hB.le e
 exact ⟨b,by rw [hb.ev hB.le,Xbm ha,he]⟩
theorem Ygh (hG : red K G) {m l : Nat} {T : Tw m} {u : Tw l} {ρu : Nat→El K} (hT : TOk G S m T ρ) (hu : TOk G S l u ρu) : ∀ i,i≤l→∃ (m' : Nat) (T' : Tw m') (ρ' : Nat→El K),TOk G S m' T' ρ'∧Beg m T m' T'∧(∀ i,i<m→ρ' i=ρ i)∧∀ j,j<i→∃ e : El m',ev G ρ' m' e=ρu j:=fun i=>by
 induction i with
 | zero=>exact fun _=>⟨m,T,ρ,hT,Beg.rf,fun _ _=>rfl,fun j hj=>absurd hj (Nat.not_lt_zero _)⟩
 | succ i ih =>
  intro hi
  obtain ⟨m1,T1,ρ1,a1,a2,a3,a4⟩:=ih (by omega)
  obtain ⟨σ,hσ⟩:=choose (P:=(·<i)) a4
  obtain ⟨x,_,_,x3⟩:=Tw.at (t:=u) (show i<l by omega)
  obtain ⟨x3,x4⟩:=x3 hu.h
  obtain ⟨m2,T2,ρ2,b1,b2,b3,b4⟩:=Xxq hG a1 (hu.s i (by omega)) x4 (e:=ev T1 σ i x) (by rw [Xq1 a1.h hσ,x3])
  refine ⟨m2,T2,ρ2,b1,a2.tr b2,fun j hj=>by rw [b3 j (by have:=a2.le;omega),a3 j hj],fun j hj=>?_⟩
  by_cases e : j=i
  · rw [e];exact b4
  · exact Xud (k:=0) b2 b3 (a4 j (by omega))
def Fl (G : Tw K) (S : List (El K)) (N : List Nm) (m : Nat) (T : Tw m) (ρ : Nat→El K) : Prop:=TOk G S m T ρ∧∀ z∈N,∀ ρz,TOk G S z.k z.t ρz→∀ j,j<z.k→∃ e : El m,ev G ρ m e=ρz j
theorem Fl.ex (hG : red K G) {m : Nat} {T : Tw m} (hT : TOk G S m T ρ) : ∀ {N : List Nm},(∀ z∈N,∃ ρz,TOk G S z.k z.t ρz)→∃ (m' : Nat) (T' : Tw m') (ρ' : Nat→El K),Fl G S N m' T' ρ'∧Beg m T m' T'∧(∀ i,i<m→ρ' i=ρ i)
 | [],_=>⟨m,T,ρ,⟨hT,fun z h=>nomatch h⟩,Beg.rf,fun _ _=>rfl⟩
 | z::N,h=>by
  obtain ⟨m1,T1,ρ1,⟨a1,a2⟩,a3,a4⟩:=Fl.ex hG hT (N:=N) fun z hz=>h z (W1d _ hz)
  obtain ⟨ρz,hz⟩:=h z (W0v ..)
  obtain ⟨m2,T2,ρ2,b1,b2,b3,b4⟩:=Ygh hG a1 hz z.k (W0a _)
  refine ⟨m2,T2,ρ2,⟨b1,fun y hy ρy hy1 j hj=>?_⟩,a3.tr b2,fun i hi=>by rw [b3 i (by have:=a3.le;omega),a4 i hi]⟩
  rcases W1o.1 hy with e | hy
  · subst e
    rw [hy1.h.uniq hG hz.h j hj];exact b4 j hj
  · exact Xud (k:=0) b2 b3 (a2 y hy ρy hy1 j hj)
def Gs (G : Tw K) (S : List (El K)) (N : List Nm) (b : Nat) (v : El K) : Prop:=∀ (m : Nat) (T : Tw m) (ρ : Nat→El K),Fl G S N m T ρ→∃ a : El m,ev G ρ m a=v∧Sz b (toL m a)
variable {N : List Nm} {b c : Nat} {v w : El K}
theorem Gs.mono (h : Gs G S N b v) (hb : b≤c) : Gs G S N c v:=fun m T ρ hF=>let ⟨a,h1,h2⟩:=h m T ρ hF;⟨a,h1,h2.mono hb⟩
theorem Gs.add (h : Gs G S N b v) (k : Gs G S N c w) : Gs G S N (b+c+1) (Tow.add K v w):=fun m T ρ hF=>by
 obtain ⟨x,h1,h2⟩:=h m T ρ hF
 obtain ⟨y,k1,k2⟩:=k m T ρ hF
 exact ⟨Tow.add m x y,by rw [Xec,h1,k1],by rw [Xa2];exact h2.add k2⟩
theorem Gs.neg (h : Gs G S N b v) : Gs G S N b (Tow.neg K v):=fun m T ρ hF=>by
 obtain ⟨x,h1,h2⟩:=h m T ρ hF
 exact ⟨Tow.neg m x,by rw [Xe5,h1],by rw [Xca];exact h2.neg⟩
theorem Gs.mul (W : Wy G S R) (h : Gs G S N b v) (k : Gs G S N c w) : Gs G S N (b+c+cB R 3) (Tow.mul K G v w):=fun m T ρ hF=>by
 obtain ⟨x,h1,h2⟩:=h m T ρ hF
 obtain ⟨y,k1,k2⟩:=k m T ρ hF
 exact ⟨Tow.mul m T x y,by rw [Xb5 hF.1.h,h1,k1],(h2.mul (W.t hF.1) k2).mono (by have:=Xi0 (r:=R) (W.le hF.1);omega)⟩
theorem Gs.rat {q : Rat} (h : Qs p q) : Gs G S N (p+1) (Tow.rat K q):=fun m T ρ hF=>⟨Tow.rat m q,Xp3,Sz.rat m h⟩
theorem Gs.sz (hG : red K G) (hN : ∀ z∈N,∃ ρz,TOk G S z.k z.t ρz) (h : Gs G S N b v) {m : Nat} {T : Tw m} (hT : TOk G S m T ρ) {a : El m} (ha : ev G ρ m a=v) : Sz b (toL m a):=by
 obtain ⟨m',T',ρ',h1,h2,h3⟩:=Fl.ex hG hT hN
 obtain ⟨x,x1,x2⟩:=h m' T' ρ' h1
 obtain ⟨y,hy⟩:=Lf.ex h2.le a
 have e : y=x:=Xlp (Xap hG) h1.1.h h1.1.r (by rw [hy.ev h2.le,Xbm h3,ha,x1])
 rw [←e,hy] at x2
 exact Sz.left x2
theorem NOk.re (W : Wy G S R) (hN : ∀ z∈N,∃ ρz,TOk G S z.k z.t ρz) {x : Nm} (hx : NOk G S r p x v) (h : Gs G S N b v) : NOk G S R b x v:=by
 obtain ⟨ρx,h1,h2⟩:=hx.ex
 exact ⟨⟨ρx,h1,h2⟩,W.t h1,h.sz W.g hN h1 h2⟩
end
section
theorem Xtv {c z p : Nat} : ∀ {i j : Nat},i≤j→imB c z i p≤imB c z j p
 | i,0,h=>by rw [show i=0 by omega];exact W0a _
 | i,j+1,h=>by
  by_cases e : i=j+1
  · rw [e];exact W0a _
  · exact W0j (Xtv (show i≤j by omega)) (by show _≤2*imB c z j p+z+c+1;omega)
def wR : Nat:=15346
def wE : Nat:=31691534
def jW (p : Nat) : Nat:=8*p+73803682
def oW (p : Nat) : Nat:=16*p+147714794
theorem wC : cB wR 3=107429:=by decide +kernel
theorem wZ : zM wR 3=10435952:=by decide +kernel
theorem Xkm : wR=15346:=rfl
theorem Yie : wE=31691534:=rfl
theorem wQ : qB wR 3 wE≤4398046511104∧qB wR 3 wR≤4398046511104∧vB wR 3 (wE+gC wR 3)≤4398046511104∧vB wR 3 wR≤4398046511104:=by decide +kernel
theorem wV : vB wR 3 (oW 4000000000)≤4398046511104:=by decide +kernel
theorem Yjg {p : Nat} : imB (cB wR 3) (zM wR 3) 3 p=jW p:=by
 show 2*(2*(2*(p+1)+zM wR 3+cB wR 3+1)+zM wR 3+cB wR 3+1)+zM wR 3+cB wR 3+1=8*p+73803682
 rw [wC,wZ];omega
theorem Yfv {m i p : Nat} (hm : m≤3) (hi : i≤3) : imB (cB wR m) (zM wR 3) i p≤jW p:=by
 rw [←Yjg]
 exact W0j (Xf7 (Xi0 hm) (W0a _) (W0a _)) (Xtv hi)
theorem Ydz {m i : Nat} (hm : m≤3) (hi : i≤2) : imB (cB wR m) (zM wR 3) i wR≤wE:=by
 refine W0j (W0j (Xf7 (Xi0 hm) (W0a _) (W0a _)) (Xtv hi)) ?_
 show 2*(2*(wR+1)+zM wR 3+cB wR 3+1)+zM wR 3+cB wR 3+1≤31691534
 rw [wC,wZ,Xkm]
 decide
variable {K : Nat} {G : Tw K} {S : List (El K)} {p : Nat}
end
end Go.Tow
namespace Go.Proofs.YtdlhdemfnfpboaaGreatDoor.R9
open Go Go.Vm Go.Num Go.Tow Go.Proofs.YtdlhdemfnfpboaaGreatDoor
theorem _root_.Go.Tow.RtV.sig {K : Nat} {G : Tw K} {m z j : Nat} {rs : List (List Rat)} {ρ ρu : Nat→Tow.El K} (h : RtV G m z j rs ρ ρu) : ∃ σ : Nat→Tow.El m,Rts m z j rs σ∧∀ i,i<j→ev G ρ m (σ i)=ρu i:=by
 have : ∀ i,∃ b : Tow.El m,i<j→(∃ (n : Nat) (s : Tow.El n),n≤m∧rs[i]?=some (toL n s)∧Lf s b∧Sz z (toL m b))∧ev G ρ m b=ρu i:=fun i=>by
  by_cases hi : i<j
  · obtain ⟨n,s,h1,h2,h3,h4⟩:=h i hi
    obtain ⟨b,hb⟩:=Lf.ex h1 s
    exact ⟨b,fun _=>⟨⟨n,s,h1,h2,hb,hb.sz h3⟩,by rw [hb.ev h1,h4]⟩⟩
  · exact ⟨zero m,fun h=>absurd h hi⟩
 obtain ⟨σ,hσ⟩:=Classical.axiomOfChoice this
 exact ⟨σ,fun i hi=>(hσ i hi).1,fun i hi=>(hσ i hi).2⟩
theorem Ybd (m : Nat) : Sz 3 (toL (m+1) (Xf4 (m+1) m)):=by
 rw [Xos]
 exact ((Sz.zero m).append (Sz.rat m (x:=1) (p:=1) ⟨show (1 : Rat).num.natAbs<2 ^ 1 by decide +kernel,show ((1 : Rat).den : Int).natAbs<2 ^ 1 by decide +kernel⟩)).mono (by omega)
section
variable {K : Nat} {G : Tw K} {S : List (Tow.El K)} {k l : Nat} {t : Tw k} {u : Tw l} {ρ ρu : Nat→Tow.El K}
def ExQ (G : Tw K) (S : List (Tow.El K)) (l k : Nat) (t : Tw k) (ρ ρu : Nat→Tow.El K) (f : D→D→AV) (v : AV) : Prop:=∃ (m : Nat) (T : Tw m) (rs : List (List Rat)) (ρ' : Nat→Tow.El K),v=f (dt T) (dts rs) ∧
 TOk G S m T ρ'∧Beg k t m T∧(∀ i,i<k→ρ' i=ρ i)∧RtV G m (zM wR 3) l rs ρ' ρu∧((∀ i,i<l→∃ e : Tow.El k,ev G ρ k e=ρu i)→toT m T=toT k t)
def ExI (G : Tw K) (S : List (Tow.El K)) (l k : Nat) (t : Tw k) (ρ ρu : Nat→Tow.El K) (x : Nat × (Σ m,Tw m) × List (List Rat)) : Prop:=x.1≤l∧x.2.2.length=x.1∧∃ ρ' : Nat→Tow.El K,TOk G S x.2.1.1 x.2.1.2 ρ'∧Beg k t x.2.1.1 x.2.1.2∧(∀ i,i<k→ρ' i=ρ i)∧RtV G x.2.1.1 (zM wR 3) x.1 x.2.2 ρ' ρu∧((∀ i,i<l→∃ e : Tow.El k,ev G ρ k e=ρu i)→toT x.2.1.1 x.2.1.2=toT k t)
theorem ExI.sq (W : Wy G S wR) (hu : TOk G S l u ρu) {i m : Nat} {T : Tw m} {rs : List (List Rat)} {x : Tow.El i} (h : ExI G S l k t ρ ρu (i,⟨m,T⟩,rs)) (hil : i<l) {σ : Nat→Tow.El m} {ρ' : Nat→Tow.El K} (hT : TOk G S m T ρ') (hB : Beg k t m T) (ha : ∀ i,i<k→ρ' i=ρ i) (hrt : RtV G m (zM wR 3) i rs ρ' ρu) (hc : (∀ i,i<l→∃ e : Tow.El k,ev G ρ k e=ρu i)→toT m T=toT k t) (s2 : ∀ j,j<i→ev G ρ' m (σ j)=ρu j) (hev : ev G ρ' m (ev T σ i x)=mul K G (ρu i) (ρu i)) (x4 : sgn K G (ρu i)=1) {y : Tow.El m} (h1 : mul m T y y=ev T σ i x) (h2 : 0≤sgn m T y) : ExI G S l k t ρ ρu (i+1,⟨m,T⟩,rs++[toL m y]):=by
 have hG:=W.g
 have hGr:=Xap hG
 have hl3:=W.le hu
 obtain ⟨_,hrl,_⟩:=h
 have hrl : rs.length=i:=hrl
 have hy : ev G ρ' m y=ρu i:=Xob hG (by rw [←Xb5 hT.h,h1,hev]) (by rw [Xfv hGr hT.h];exact h2) (by rw [x4];decide)
 exact ⟨hil,by simp [hrl],ρ',hT,hB,ha,hrt.snoc hrl (W0a _) ((Yiu W hT hu i hil (fun j hj=>⟨σ j,s2 j hj⟩) y hy).mono (Yan (by omega))) hy,hc⟩
theorem ExI.new (W : Wy G S wR) (hu : TOk G S l u ρu) {i m : Nat} {T : Tw m} {rs : List (List Rat)} {x : Tow.El i} (h : ExI G S l k t ρ ρu (i,⟨m,T⟩,rs)) (hil : i<l) {σ : Nat→Tow.El m} {ρ' : Nat→Tow.El K} (hT : TOk G S m T ρ') (hB : Beg k t m T) (ha : ∀ i,i<k→ρ' i=ρ i) (hrt : RtV G m (zM wR 3) i rs ρ' ρu) (hev : ev G ρ' m (ev T σ i x)=mul K G (ρu i) (ρu i)) (x4 : sgn K G (ρu i)=1) (h2 : ¬ Xeb m T (ev T σ i x)) : ExI G S l k t ρ ρu (i+1,⟨m+1,tsn T (ev T σ i x)⟩,rs++[toL (m+1) (Xf4 (m+1) m)]):=by
 have hG:=W.g
 have hGr:=Xap hG
 obtain ⟨_,hrl,_⟩:=h
 have hrl : rs.length=i:=hrl
 have hT':=hT.snoc hGr h2 (hu.s i hil) (a:=ev T σ i x) hev.symm x4
 refine ⟨hil,by simp [hrl],_,hT',hB.tr Beg.snoc,fun j hj=>?_,?_,fun hh=>?_⟩
 · have:=hB.le
   show (if j=m then ρu i else ρ' j)=ρ j
   rw [if_neg (by omega),ha j hj]
 · refine (hrt.mono (W7x _) (W0a _) (fun j hj=>if_neg (by omega))).snoc hrl (W0a _) ((Ybd m).mono (by rw [wZ];decide)) ?_
   rw [Xhm (by omega)];exact if_pos rfl
 · obtain ⟨b,hb⟩:=hh i hil
   obtain ⟨b',hb'⟩:=Lf.ex hB.le b
   refine absurd ⟨b',Xlp hGr hT.h hT.r ?_⟩ h2
   rw [Xb5 hT.h,hb'.ev hB.le,Xbm ha,hb,hev]
def ExB (m : Nat) : Prop:=qB wR m wE≤4398046511104∧qB wR m wR≤4398046511104∧vB wR m (wE+gC wR m)≤4398046511104∧vB wR m wR≤4398046511104
theorem exB {m : Nat} (hm : m≤3) : ExB m:=by
 obtain ⟨q1,q2,q3,q4⟩:=wQ
 have p1:=Ybk (r:=wR) (p:=wE) hm
 have p2:=Ybk (r:=wR) (p:=wR) hm
 have p3:=Yf7 (r:=wR) hm
 have p4:=Xdi (r:=wR) (k:=m) (show wE+gC wR m≤wE+gC wR 3 by omega)
 have p5:=Xqn (r:=wR) (s:=wE+gC wR 3) hm
 have p6:=Xqn (r:=wR) (s:=wR) hm
 exact ⟨by omega,by omega,by omega,by omega⟩
theorem ExI.rad (W : Wy G S wR) (hu : TOk G S l u ρu) {i m : Nat} {T : Tw m} {rs : List (List Rat)} {ρ' : Nat→Tow.El K} (hil : i<l) (hT : TOk G S m T ρ') (hrt : RtV G m (zM wR 3) i rs ρ' ρu) : ∃ (x : Tow.El i) (σ : Nat→Tow.El m),(toT l u)[i]?=some (toL i x)∧Sz wR (toL i x)∧Rts m (zM wR 3) i rs σ∧(∀ j,j<i→ev G ρ' m (σ j)=ρu j)∧ev G ρ' m (ev T σ i x)=mul K G (ρu i) (ρu i)∧sgn K G (ρu i)=1∧Sz wE (toL m (ev T σ i x)):=by
 have hl3:=W.le hu
 have hm3:=W.le hT
 obtain ⟨x,x1,x2,x3⟩:=Tw.at (t:=u) hil
 have x2:=x2 wR (W.t hu)
 obtain ⟨x3,x4⟩:=x3 hu.h
 obtain ⟨σ,s1,s2⟩:=hrt.sig
 exact ⟨x,σ,x1,x2,s1,s2,by rw [Xq1 hT.h s2,x3],x4,(Xne (W.t hT) (a:=x) (fun i' h'=>(s1 i' h').elim fun _ h=>h.elim fun _ h=>h.2.2.2) x2).mono (Ydz hm3 (by omega))⟩
end
end Go.Proofs.YtdlhdemfnfpboaaGreatDoor.R9
namespace Go.Proofs.YtdlhdemfnfpboaaGreatDoor
open Go Go.Vm Go.Num Go.Tow
abbrev dN (x : Nm) : D:=.st (.pr (dt x.t) (de x.a))
abbrev dNs (l : List Nm) : D:=.sl 2 (l.map dN)
end Go.Proofs.YtdlhdemfnfpboaaGreatDoor
namespace Go.Proofs.YtdlhdemfnfpboaaGreatDoor.R9
open Go Go.Vm Go.Num Go.Tow Go.Proofs.YtdlhdemfnfpboaaGreatDoor
section
variable {K : Nat} {G : Tw K} {S : List (Tow.El K)} {r p : Nat} {x y : Nm} {vx vy : Tow.El K}
def CmP (G : Tw K) (S : List (Tow.El K)) (x y : Nm) (m : Nat) (T : Tw m) : Prop:=∃ ρ,TOk G S m T ρ∧∀ z∈[x,y],∀ ρz,TOk G S z.k z.t ρz→∀ j,j<z.k→∃ e : Tow.El m,ev G ρ m e=ρz j
theorem CmP.mk (hG : red K G) {ρx ρy : Nat→Tow.El K} (hx1 : TOk G S x.k x.t ρx) (hy1 : TOk G S y.k y.t ρy) {m : Nat} {T : Tw m} {ρ : Nat→Tow.El K} (h1 : TOk G S m T ρ) (h3 : ∀ j,j<x.k→∃ e : Tow.El m,ev G ρ m e=ρx j) (h4 : ∀ j,j<y.k→∃ e : Tow.El m,ev G ρ m e=ρy j) : CmP G S x y m T:=⟨_,h1,fun z hz ρz hρ j hj=>by
 rcases W1o.1 hz with rfl | hz
 · obtain ⟨e,he⟩:=h3 j hj;exact ⟨e,by rw [he];exact hx1.h.uniq hG hρ.h j hj⟩
 · obtain rfl:=W0g.1 hz
   obtain ⟨e,he⟩:=h4 j hj;exact ⟨e,by rw [he];exact hy1.h.uniq hG hρ.h j hj⟩⟩
theorem beg_ag (hG : red K G) {k m : Nat} {t : Tw k} {T : Tw m} {ρ ρ' : Nat→Tow.El K} (h : Beg k t m T) (h1 : TOk G S k t ρ) (h2 : TOk G S m T ρ') : ∀ i,i<k→ρ' i=ρ i:=(h.hom h2.h).uniq hG h1.h
theorem rts {k : Nat} {ρ : Nat→Tow.El K} (j : Nat) (hj : j<k) : ∃ e : Tow.El k,ev G ρ k e=ρ j:=⟨Xf4 _ j,Xhm hj⟩
theorem beg_rt (hG : red K G) {k m : Nat} {t : Tw k} {T : Tw m} {ρ ρ' : Nat→Tow.El K} (h : Beg k t m T) (h1 : TOk G S k t ρ) (h2 : TOk G S m T ρ') (j : Nat) (hj : j<k) : ∃ e : Tow.El m,ev G ρ' m e=ρ j:=by
 obtain ⟨e,he⟩:=rts (G:=G) (k:=m) (ρ:=ρ') j (W0q hj h.le)
 exact ⟨e,by rw [he];exact beg_ag hG h h1 h2 j hj⟩
theorem CmP.ext (hG : red K G) {ρx ρy : Nat→Tow.El K} (hx1 : TOk G S x.k x.t ρx) (hy1 : TOk G S y.k y.t ρy) {m z : Nat} {T : Tw m} {rs : List (List Rat)} {ρ' : Nat→Tow.El K} (g1 : TOk G S m T ρ') (g2 : Beg x.k x.t m T) (g5 : RtV G m z y.k rs ρ' ρy) : CmP G S x y m T:=.mk hG hx1 hy1 g1 (beg_rt hG g2 hx1 g1) fun j hj=>by
 obtain ⟨n,s,s1,_,_,s4⟩:=g5 j hj
 obtain ⟨b,hb⟩:=Lf.ex s1 s
 exact ⟨b,by rw [hb.ev s1,s4]⟩
theorem both (hx : NOk G S r p x vx) (hy : NOk G S r p y vy) (i : Nat) (hi : i<2) : ∃ (z : Nm) (v : Tow.El K) (ρz : Nat→Tow.El K),[x,y][i]?=some z∧[vx,vy][i]?=some v∧TOk G S z.k z.t ρz∧ev G ρz z.k z.a=v∧Sz p (toL z.k z.a):=by
 have : i=0∨i=1:=by omega
 rcases this with rfl | rfl
 · obtain ⟨ρ,h1,h2⟩:=hx.ex;exact ⟨x,vx,ρ,rfl,rfl,h1,h2,hx.p⟩
 · obtain ⟨ρ,h1,h2⟩:=hy.ex;exact ⟨y,vy,ρ,rfl,rfl,h1,h2,hy.p⟩
def JnR (G : Tw K) (S : List (Tow.El K)) (p : Nat) (vx vy : Tow.El K) (m : Nat) (T : Tw m) (a b : Tow.El m) : Prop:=∃ ρ,TOk G S m T ρ∧ev G ρ m a=vx∧ev G ρ m b=vy∧Sz (jW p) (toL m a)∧Sz (jW p) (toL m b)
def JnI (G : Tw K) (p m : Nat) (ρ : Nat→Tow.El K) (vx vy : Tow.El K) (s : Nat × List (Tow.El m)) : Prop:=s.1≤2∧s.2.length=s.1∧∀ i,i<s.1→∃ a v,s.2[i]?=some a∧[vx,vy][i]?=some v∧ev G ρ m a=v∧Sz (jW p) (toL m a)
theorem JnI.step {m : Nat} {ρ : Nat→Tow.El K} {j : Nat} {bs : List (Tow.El m)} {v : Tow.El K} (h : JnI G p m ρ vx vy (j,bs)) (hj : j<2) (z2 : [vx,vy][j]?=some v) {b : Tow.El m} (h1 : ev G ρ m b=v) (h2 : Sz (jW p) (toL m b)) : JnI G p m ρ vx vy (j+1,bs++[b]):=by
 obtain ⟨_,hjl,has⟩:=h
 have hjl : bs.length=j:=hjl
 refine ⟨hj,by simp [hjl],fun i hi=>?_⟩
 by_cases e : i=j
 · subst e
   exact ⟨b,v,by rw [W0o (by omega),hjl,W2t];rfl,z2,h1,h2⟩
 · obtain ⟨a,w,g1,g2⟩:=has i (by have : i<j+1:=hi;show i<j;omega)
   exact ⟨a,w,by rw [W1a (by omega),g1],g2⟩
theorem JnI.done {m : Nat} {T : Tw m} {ρ : Nat→Tow.El K} {bs : List (Tow.El m)} (hT : TOk G S m T ρ) (h : JnI G p m ρ vx vy (2,bs)) : ∃ a b,bs=[a,b]∧JnR G S p vx vy m T a b:=by
 obtain ⟨_,hjl,has⟩:=h
 match bs,hjl with
 | [a,b],_ =>
  obtain ⟨a',v,a1,a2,a3,a4⟩:=has 0 (show 0<2 by decide)
  obtain ⟨b',w,b1,b2,b3,b4⟩:=has 1 (show 1<2 by decide)
  cases a1;cases a2;cases b1;cases b2
  exact ⟨a,b,rfl,ρ,hT,a3,b3,a4,b4⟩
theorem img (W : Wy G S wR) {m l : Nat} {T : Tw m} {u : Tw l} {ρ ρz : Nat→Tow.El K} (hT : TOk G S m T ρ) (hu : TOk G S l u ρz) {rs : List (List Rat)} {σ : Nat→Tow.El m} (s1 : Rts m (zM wR 3) l rs σ) {a : Tow.El l} (ha : Sz p (toL l a)) : Sz (jW p) (toL m (ev T σ l a)):=(Xne (W.t hT) (fun i h=>(s1 i h).elim fun _ h=>h.elim fun _ h=>h.2.2.2) ha).mono (Yfv (W.le hT) (W.le hu))
theorem jW_ge {p : Nat} : p≤jW p:=by unfold jW;omega
end
open Go Go.Vm Go.Num Go.Tow Go.Proofs.YtdlhdemfnfpboaaGreatDoor
abbrev n0 : D:=.st (.pr (dts []) (dqs []))
theorem fit0 {g : Hp} {K : Hpl} : Fit g K (.st (.pr .nil .nil)) (.d n0):=.sd (.pd (.nil rfl) (.nil rfl))
section
variable {K : Nat} {G : Tw K} {S : List (Tow.El K)} {r p : Nat} {x y : Nm} {vx vy : Tow.El K}
def OpR (G : Tw K) (S : List (Tow.El K)) (p : Nat) (w : Tow.El K) (v : AV) : Prop:=∃ z : Nm,v=.tup (.pr (.d (dN z)) (.d (.int .i64 0)))∧NOk G S wR p z w
def RtR (x : Nm) (v : AV) : Prop:=∃ z : Nm,v=.tup (.pr (.d (dN z)) (.d (.int .i64 0)))∧((∃ y,z=⟨x.k,x.t,y⟩∧Tow.mul x.k x.t y y=x.a∧0≤sgn x.k x.t y)∨(z=⟨x.k+1,tsn x.t x.a,Xf4 (x.k+1) x.k⟩∧0≤sgn x.k x.t x.a∧¬ Xeb x.k x.t x.a))
theorem FromRat_ok {q : Rat} : C0 109 [.d (dq q)] (·=.d (dN ⟨0,(),q⟩)):=by
 refine En Tryz.func109 fun _ _ _=>?_
 exact R1 rfl (.sd (.pd (.nil rfl) (.lit rfl)))
end
end Go.Proofs.YtdlhdemfnfpboaaGreatDoor.R9
namespace Go.Vm
open Go
section
variable {tb : Nat→Option TI}
end
section
variable {c : Cx} {s : St}
variable {p : Pl}
end
end Go.Vm
namespace Go.Proofs.YtdlhdemfnfpboaaGreatDoor.R9
open Go Go.Vm Go.Num Go.Tow Go.Proofs.YtdlhdemfnfpboaaGreatDoor
end Go.Proofs.YtdlhdemfnfpboaaGreatDoor.R9
namespace Go.Tow
open Go Go.Num Go.Proofs.YtdlhdemfnfpboaaGreatDoor
end Go.Tow
namespace Go.Proofs.YtdlhdemfnfpboaaGreatDoor.R9
open Go Go.Vm Go.Num Go.Tow Go.Proofs.YtdlhdemfnfpboaaGreatDoor
section
section
variable {K : Nat} {G : Tw K} {S : List (Tow.El K)} {r p : Nat} {x : Nm} {v : Tow.El K}
end
end
section
end
end Go.Proofs.YtdlhdemfnfpboaaGreatDoor.R9
namespace Go.Tow
open Go Go.Num Go.Proofs.YtdlhdemfnfpboaaGreatDoor
variable {K : Nat} {G : Tw K} {ρ : Nat→El K} {S : List (El K)} {r p : Nat} {x : Nm} {v : El K}
end Go.Tow
namespace Go.Proofs.YtdlhdemfnfpboaaGreatDoor
open Go Go.Vm Go.Num Go.Tow
end Go.Proofs.YtdlhdemfnfpboaaGreatDoor
namespace Go.Proofs.YtdlhdemfnfpboaaGreatDoor.R9
open Go Go.Vm Go.Num Go.Tow Go.Proofs.YtdlhdemfnfpboaaGreatDoor
end Go.Proofs.YtdlhdemfnfpboaaGreatDoor.R9
namespace Go.Vm
open Go Go.ChangeShapes Go.WideShapes Go.ChangeAt Go.RowKit
theorem Xsq {P : Program} {t : TypeId} (ht : P.underlying t=some .string) : Reads P t fun d=>∃ l : List UInt8,d=.str l∧l.length<9223372036854775808:=fun w _ _ _ _ _ _ _ h=>by
 obtain ⟨s,h1,_,h2⟩:=DataW.trod_string ht h
 have hm : maxLen<9223372036854775808:=by decide
 have hl : s.data.toList.length<9223372036854775808:=by
  have e : s.size=s.data.toList.length:=by show s.data.size=_;simp
  omega
 exact ⟨_,⟨s.data.toList,rfl,hl⟩,by rw [h1],hl⟩
theorem Ydb {P : Program} {t : TypeId} {r : D→Prop} (ht : P.underlying t=some .string) (hr : Reads P t r) (hg : ∀ x,r x→x.ag=false) : Arg P t r:=fun W base _ _ _ _ v d p hok h=>by
 obtain ⟨z,rfl⟩:=okWide_string ht hok
 obtain ⟨fuel,h⟩:=h
 obtain ⟨x,h1,h2⟩:=hr W h
 exact ⟨x,h1,_,h2,by rw [show AV.ag (.d x)=false from hg x h1];rfl⟩
end Go.Vm
namespace Go.Proofs.YtdlhdemfnfpboaaGreatDoor
open Go Go.Vm Go.Num
theorem Xye : Arg Tryz.prog 9 fun d=>∃ l : List UInt8,d=.str l∧l.length<9223372036854775808:=Ydb Tryz.underlying9 (Xsq Tryz.underlying9) fun x ⟨_,e,_⟩=>by rw [e];rfl
open Go Go.Vm Go.Num Go.ChangeShapes Go.WideShapes Go.ChangeAt Go.RowKit
abbrev Yb5 : List (String × DataW Unit) := [("math/bits.deBruijn32tab", Rows.laid_math_bits_deBruijn32tab), ("math/bits.deBruijn64tab", Rows.laid_math_bits_deBruijn64tab), ("internal/strconv.uint64pow10", Rows.laid_internal_strconv_uint64pow10), ("unicode/utf8.acceptRanges", Rows.laid_unicode_utf8_acceptRanges), ("unicode/utf8.first", Rows.laid_unicode_utf8_first)]
def Ylh : List Int:=(List.range 20).map fun i=>((10 ^ i : Nat) : Int)
theorem Yax : ∀ i,i<20→Ylh.getD i 0=((10 ^ i : Nat) : Int):=by decide
theorem Yf6 : Tryz.prog.globalNamed "internal/strconv.uint64pow10" = some 3 := by kernel_rfl
theorem Yf5 : (Tryz.prog.globals[3]?).map (·.type)=some 304:=by kernel_rfl
theorem Yjl {W : World} (h : laidMetH Tryz.prog Yb5 W) : Gb.g Tryz.prog (gw0 W):=by
 rw [Go.MakeChecks.laidMetH_plain Tryz.prog Yb5 W (by kernel_rfl)] at h
 have h3 : laidMet Tryz.prog (("internal/strconv.uint64pow10", Lib.tabData .u64 Ylh) :: [("unicode/utf8.acceptRanges", Rows.laid_unicode_utf8_acceptRanges), ("unicode/utf8.first", Rows.laid_unicode_utf8_first)]) W := h.tail.tail
 have ht:=Lib.tabIs_of_head Yf6 Yf5 Tryz.underlying304 Tryz.underlying135 (by kernel_rfl) (by kernel_rfl) h3
 exact fun i hi=>⟨by rw [show (gw0 W).w=W from rfl,ht.cell Yf6 i (by rw [show Ylh.length=20 from rfl];exact hi),Yax i hi],fun h=>h⟩
def lay (vs : List (Nat × Array Value)) (w : World) : World:={ w with heap:=vs.foldl (fun h p=>h.modify p.1 fun | .cells _ t frozen=>.cells p.2 t frozen | o=>o) w.heap }
def u8s (l : List Nat) : Array Value:=(l.map fun (n : Nat)=>Value.int .u8 n).toArray
def Yli : List (Nat × Array Value):=[(3,(Ylh.map fun z=>Value.int .u64 z).toArray),(1,u8s Pinned.utf8FirstZ),(2,u8s [128,191,160,191,128,159,144,191,128,143,0,0,0,0,0,0,0,0,0,0,0,0,0,0,0,0,0,0,0,0,0,0]),
 (4,u8s [0,1,28,2,29,14,24,3,30,22,20,15,25,17,4,8,31,27,13,23,21,19,16,7,26,12,18,6,11,5,10,9]),
 (5,u8s [0,1,56,2,57,49,28,3,61,58,42,50,38,29,17,4,62,47,59,36,45,43,51,22,53,39,33,30,24,18,12,5,63,55,48,27,60,41,37,16,46,35,44,21,52,32,23,11,54,26,40,15,34,20,31,10,25,14,19,9,13,8,7,6])]
noncomputable def Xc2 (os : Os) : World:=lay Yli (World.holding Tryz.prog os ⟨#[],#[],[]⟩)
theorem Xxa (os : Os) (args : Array Value) : laidMet Tryz.prog Yb5 ((Xc2 os).forCall (fun _ _=>0) ⟨#[],args,[]⟩).memory :=
 laidMet_of_run' 8 (by kernel_rfl) (by kernel_rfl)
end Go.Proofs.YtdlhdemfnfpboaaGreatDoor
namespace Go.Num
section
def dec (n : Nat) : List UInt8:=if h : n<10 then [UInt8.ofNat (48+n)] else dec (n / 10)++[UInt8.ofNat (48+n % 10)]
termination_by n
decreasing_by omega
theorem Xc4 {n : Nat} (h : n<10) : dec n=[UInt8.ofNat (48+n)]:=by rw [dec,dif_pos h]
theorem Xe6 {n : Nat} (h : 10≤n) : dec n=dec (n / 10)++[UInt8.ofNat (48+n % 10)]:=by rw [dec,dif_neg (by omega)]
theorem Xuv (n : Nat) : dec n≠[]:=by
 rw [dec];split <;> simp
theorem Xut (n : Nat) : 0<(dec n).length:=W4d.2 (Xuv n)
theorem Xel : ∀ (k n : Nat),n<10 ^ (k+1)→(dec n).length≤k+1
 | 0,n,h=>by rw [Xc4 (by simpa using h)];simp
 | k+1,n,h=>by
  by_cases h1 : n<10
  · rw [Xc4 h1];simp
  · rw [Xe6 (by omega),W0d]
    have:=Xel k (n / 10) (W3y (by rw [W0p] at h;omega))
    simp;omega
theorem Xd6 : ∀ (k n : Nat),10 ^ k≤n→k+1≤(dec n).length
 | 0,n,h=>Xut n
 | k+1,n,h=>by
  rw [W0p] at h
  have : 0<10 ^ k:=W6k (by decide)
  rw [Xe6 (by omega),W0d]
  have:=Xd6 k (n / 10) (by omega)
  simp;omega
theorem Ygr (n : Nat) : n<10 ^ (dec n).length:=by
 induction n using Nat.strongRecOn with
 | ind n ih =>
  by_cases h : n<10
  · rw [Xc4 h];simpa using h
  · rw [Xe6 (by omega),W0d]
    have:=ih (n / 10) (by omega)
    simp only [W3r]
    rw [W0p];omega
def tx (z : Int) : List UInt8:=(if z<0 then [45] else [])++dec z.natAbs
theorem Xwz (l : Nat) : 4294967296 ^ l≤10 ^ (10*l):=by
 rw [W4u];exact W5w (by decide) l
theorem Xnj (n : Nat) : (dec n).length≤10*(dig n).length+1:=by
 refine Xel _ n (W0q (W0q (by have:=Xbo (Xad n);rwa [Xae] at this) (Xwz _)) (W0m (by decide) (by omega)))
theorem dg {d : Nat} (h : d<10) : (UInt8.ofNat (48+d)).toNat=48+d:=by
 rw [UInt8.toNat_ofNat'];exact W3p (by omega)
def Xh6 (b : UInt8) : Prop:=48≤b.toNat∧b.toNat≤57
theorem Ygs (n : Nat) : ∀ b∈dec n,Xh6 b:=by
 induction n using Nat.strongRecOn with
 | ind n ih =>
  intro b hb
  by_cases h : n<10
  · rw [Xc4 h,W0g] at hb;subst hb;exact ⟨by rw [dg h];omega,by rw [dg h];omega⟩
  · rw [Xe6 (by omega),W2z,W0g] at hb
    rcases hb with hb | hb
    · exact ih _ (by omega) b hb
    · subst hb;have:=W1z n (show 0<10 by decide);exact ⟨by rw [dg this];omega,by rw [dg this];omega⟩
def pad (k : Nat) (d : List UInt8) : List UInt8:=List.replicate (k+1 - d.length) 48++d
theorem Ybo (k : Nat) (d : List UInt8) : (pad k d).length=max (k+1) d.length:=by simp [pad];omega
def pt (k : Nat) (p : List UInt8) : List UInt8:=if k=0 then p else p.take (p.length - k)++46::p.drop (p.length - k)
def txt (z : Int) (k : Nat) : List UInt8:=(if z<0 then [45] else [])++pt k (pad k (dec z.natAbs))
def Xbx (l : List UInt8) : Nat:=l.foldl (fun a b=>10*a+(b.toNat - 48)) 0
theorem Xb1 (l : List UInt8) (b : UInt8) : Xbx (l++[b])=10*Xbx l+(b.toNat - 48):=by simp [Xbx]
theorem Xet {p : List UInt8→Prop} (h0 : p []) (hs : ∀ l b,p l→p (l++[b])) (l : List UInt8) : p l:=by
 rw [←List.reverse_reverse l]
 induction l.reverse with
 | nil=>exact h0
 | cons b l ih=>rw [List.reverse_cons];exact hs _ _ ih
theorem Xga (u t : List UInt8) : Xbx (u++t)=Xbx u*10 ^ t.length+Xbx t:=by
 induction t using Xet with
 | h0=>simp [Xbx]
 | hs l b ih =>
  rw [←W2p,Xb1,Xb1,ih,W0d,W3r,W0p]
  have : Xbx u*(10 ^ l.length*10)=10*(Xbx u*10 ^ l.length):=by rw [W1c (10 ^ l.length) 10,W4b]
  omega
theorem Xhp {l : List UInt8} (h : ∀ b∈l,Xh6 b) : Xbx l<10 ^ l.length:=by
 induction l using Xet with
 | h0=>decide
 | hs l b ih =>
  have h1:=ih fun x hx=>h x (W2e _ hx)
  have h2:=h b (W1k _ (W0g.2 rfl))
  unfold Xh6 at h2
  rw [Xb1,W0d,W3r,W0p]
  omega
theorem Xp7 (b : UInt8) : Xbx [b]=b.toNat - 48:=by simp [Xbx]
theorem Xxw {b : UInt8} {l : List UInt8} (hb : 48<b.toNat) : 0<Xbx (b::l):=by
 rw [show b::l=[b]++l from rfl,Xga,Xp7]
 have : 0<(b.toNat - 48)*10 ^ l.length:=W1h (by omega) (W6k (by decide))
 omega
end
section
def isD (b : UInt8) : Bool:=decide (48≤b.toNat) && decide (b.toNat≤57)
theorem Yjh {b : UInt8} : isD b=true↔Xh6 b:=by simp [isD,Xh6]
def z0 (l : List UInt8) : Bool:=l.all (· == 48)
theorem Xge (l : List UInt8) (x : UInt8) : z0 (l++[x])=(z0 l && x == 48):=by simp [z0]
def prT (ng : Bool) (a : List UInt8) : List UInt8→Option (Bool × List UInt8 × List UInt8)
 | []=>if ng && z0 a then none else some (ng,a,[])
 | x::b=>if x=46∧b≠[]∧b.all isD=true∧(ng && z0 (a++b))=false then some (ng,a,b) else none
def prQ (ng : Bool) (q : List UInt8) : Option (Bool × List UInt8 × List UInt8) :=
 if q.takeWhile isD=[]∨(1<(q.takeWhile isD).length∧(q.takeWhile isD).head?=some 48) then none else prT ng (q.takeWhile isD) (q.dropWhile isD)
def prs (s : List UInt8) : Option (Bool × List UInt8 × List UInt8) :=
 if 400<s.length then none else match s with
  | []=>none
  | x::t=>if x=45 then prQ true t else prQ false (x::t)
def plc (s : List UInt8) : Int:=match prs s with
 | none=>-1
 | some (_,_,b)=>b.length
def Yia (r : List UInt8) : Prop:=∀ x t,r=x::t→isD x=false
theorem Yik {a r : List UInt8} (ha : a.all isD=true) (hr : Yia r) : (a++r).takeWhile isD=a∧(a++r).dropWhile isD=r:=by
 induction a with
 | nil =>
  cases r with
  | nil=>exact ⟨rfl,rfl⟩
  | cons x t=>simp [W7p,W4f,hr x t rfl]
 | cons x a ih =>
  simp only [W6h,W0e] at ha
  obtain ⟨h1,h2⟩:=ih ha.2
  simp [W7p,W4f,ha.1,h1,h2]
def sgB (ng : Bool) : List UInt8:=if ng then [45] else []
theorem Xk3 {s a r : List UInt8} {ng : Bool} (hl : s.length≤400) (hs : s=sgB ng++(a++r)) (hn : ng=false→s.head?≠some 45) (ha : a.all isD=true) (hr : Yia r) :
 prs s=if a=[]∨(1<a.length∧a.head?=some 48) then none else prT ng a r:=by
 obtain ⟨h1,h2⟩:=Yik ha hr
 have hq : prQ ng (a++r)=if a=[]∨(1<a.length∧a.head?=some 48) then none else prT ng a r:=by
  unfold prQ;rw [h1,h2]
 rw [←hq]
 unfold prs
 rw [if_neg (by omega)]
 cases ng with
 | true=>subst hs;simp [sgB]
 | false =>
  have hn:=hn rfl
  have hs : s=a++r:=hs
  rw [←hs]
  cases s with
  | nil=>simp [prQ]
  | cons x t =>
   have : ¬ x=45:=fun e=>hn (by rw [e];rfl)
   simp [this]
def ptB (b : List UInt8) : List UInt8:=if b=[] then [] else 46::b
theorem Xww {ng n' : Bool} {a a' b r : List UInt8} (h : prT ng a r=some (n',a',b)) : n'=ng∧a'=a∧r=ptB b∧b.all isD=true:=by
 cases r with
 | nil =>
  simp only [prT] at h
  split at h
  · cases h
  · injection h with h;cases h;exact ⟨rfl,rfl,rfl,rfl⟩
 | cons x t =>
  simp only [prT] at h
  split at h
  · rename_i hc
    injection h with h;cases h
    exact ⟨rfl,rfl,by rw [ptB,if_neg hc.2.1,hc.1],hc.2.2.1⟩
  · cases h
theorem Xrr (l : List UInt8) : (l.takeWhile isD).all isD=true:=by
 induction l with
 | nil=>rfl
 | cons x l ih =>
  rw [W7p]
  split
  · rename_i h;simp [h,ih]
  · rfl
theorem Xo4 {ng n' : Bool} {q a b : List UInt8} (h : prQ ng q=some (n',a,b)) : n'=ng∧q=a++ptB b∧a≠[]∧a.all isD=true∧b.all isD=true:=by
 unfold prQ at h
 split at h
 · cases h
 · rename_i hc
   obtain ⟨h1,h2,h3,h4⟩:=Xww h
   subst h2
   refine ⟨h1,?_,fun e=>hc (.inl e),?_,h4⟩
   · rw [←h3,W5x]
   · exact Xrr q
theorem Xo3 {s a b : List UInt8} {ng : Bool} (h : prs s=some (ng,a,b)) : s.length≤400∧s=sgB ng++(a++ptB b)∧a≠[]∧a.all isD=true∧b.all isD=true:=by
 unfold prs at h
 split at h
 · cases h
 · split at h
   · cases h
   · split at h
     · rename_i hx
       obtain ⟨h1,h2,h3⟩:=Xo4 h
       refine ⟨by omega,?_,h3⟩
       rw [h1,hx,h2];rfl
     · obtain ⟨h1,h2,h3⟩:=Xo4 h
       refine ⟨by omega,?_,h3⟩
       rw [h1,h2];rfl
def stp (q : Nat × Nat × Bool) (x : UInt8) : Nat × Nat × Bool :=
 if x=46 then (q.1,q.2.1,true) else if isD x then (10*q.1+(x.toNat - 48),if q.2.2 then q.2.1+1 else q.2.1,q.2.2) else q
theorem Xr0 {x : UInt8} (h : isD x=true) (q : Nat × Nat × Bool) : stp q x=(10*q.1+(x.toNat - 48),if q.2.2 then q.2.1+1 else q.2.1,q.2.2):=by
 have : ¬ x=46:=fun e=>by rw [e] at h;revert h;decide
 rw [stp,if_neg this,if_pos h]
theorem Xpy {l : List UInt8} (h : l.all isD=true) (n p : Nat) (pt : Bool) : l.foldl stp (n,p,pt)=(n*10 ^ l.length+Xbx l,if pt then p+l.length else p,pt):=by
 induction l using Xet with
 | h0=>cases pt <;> simp [Xbx]
 | hs l x ih =>
  rw [W4x,W0e] at h
  rw [W6x,ih h.1,W7e,List.foldl_nil,Xr0 (by simpa using h.2),Xb1,W0d,W3r,W0p]
  have : n*(10 ^ l.length*10)=10*(n*10 ^ l.length):=by rw [W1c (10 ^ l.length) 10,W4b]
  cases pt <;> simp <;> omega
theorem Xxi {s a b : List UInt8} {ng : Bool} (hs : s=sgB ng++(a++ptB b)) (ha : a.all isD=true) (hb : b.all isD=true) : ∃ pt,s.foldl stp (0,0,false)=(Xbx (a++b),b.length,pt):=by
 have h1 : (sgB ng).foldl stp (0,0,false)=(0,0,false):=by cases ng <;> decide
 rw [hs,W6x,h1,W6x,Xpy ha]
 by_cases hb0 : b=[]
 · subst hb0;exact ⟨false,by simp [ptB]⟩
 · refine ⟨true,?_⟩
   rw [ptB,if_neg hb0,W7e,show stp (0*10 ^ a.length+Xbx a,if false=true then 0+a.length else 0,false) 46=(Xbx a,0,true) by simp [stp],Xpy hb,Xga]
   simp
def fr (ng : Bool) (a b : List UInt8) : Rat:=if ng then -(((Xbx (a++b) : Int) : Rat) / ((10 ^ b.length : Int) : Rat)) else ((Xbx (a++b) : Int) : Rat) / ((10 ^ b.length : Int) : Rat)
end
section
def spl : List UInt8→List (List UInt8)
 | []=>[[]]
 | c::s=>if c=32 then []::spl s else match spl s with
  | []=>[[c]]
  | w::r=>(c::w)::r
theorem Xoh : ∀ s,spl s≠[]
 | []=>by simp [spl]
 | c::s=>by
  rw [spl];split
  · simp
  · split <;> simp
theorem Xog : ∀ {s : List UInt8},32 ∉ s→spl s=[s]
 | [],_=>rfl
 | c::s,h=>by
  rw [W1o,not_or] at h
  rw [spl,if_neg (fun e=>h.1 e.symm),Xog h.2]
theorem Xkr {t : List UInt8} : ∀ {u : List UInt8},32 ∉ u→spl (u++32::t)=u::spl t
 | [],_=>by rw [W3s,spl,if_pos rfl]
 | c::u,h=>by
  rw [W1o,not_or] at h
  rw [W3j,spl,if_neg (fun e=>h.1 e.symm),Xkr h.2]
theorem Xbg : ∀ s : List UInt8,(spl s).length=s.count 32+1
 | []=>rfl
 | c::s=>by
  have ih:=Xbg s
  rw [spl,List.count_cons]
  by_cases h : c=32
  · subst h;rw [if_pos rfl];simp [ih]
  · rw [if_neg h,if_neg (by simpa using h)]
    obtain ⟨w,r,e⟩:=W6i (Xoh s)
    rw [e] at ih ⊢
    simpa using ih
theorem Xgs : ∀ (s w : List UInt8),w∈spl s→w.length≤s.length
 | [],w,h=>by
  obtain rfl:=W0g.1 h;exact W0a _
 | c::s,w,h=>by
  rw [spl] at h
  split at h
  · rcases W1o.1 h with rfl | h
    · exact W0y _
    · exact W0j (Xgs s w h) (W7x _)
  · obtain ⟨v,r,e⟩:=W6i (Xoh s)
    rw [e] at h
    rcases W1o.1 h with rfl | h
    · exact Nat.succ_le_succ (Xgs s v (by rw [e];exact W0v))
    · exact W0j (Xgs s w (by rw [e];exact W1d _ h)) (W7x _)
def num (w : List UInt8) : Option Rat:=(prs w).map fun q=>fr q.1 q.2.1 q.2.2
theorem Ye9 {w : List UInt8} (h : prs w=none) : num w=none:=by rw [num,h];rfl
theorem Ybr {w a b : List UInt8} {ng : Bool} (h : prs w=some (ng,a,b)) : num w=some (fr ng a b):=by rw [num,h];rfl
abbrev Wd:=List UInt8
abbrev Pt:=Rat × Rat
def pt2 : List Wd→Option (Pt × List Wd)
 | x::y::r=>match num x,num y with
  | some a,some b=>some ((a,b),r)
  | _,_=>none
 | _=>none
def Xm7 (w : Wd) : Prop:=w=[48]∨w=[49]
instance (w : Wd) : Decidable (Xm7 w):=inferInstanceAs (Decidable (_∨_))
def Xqj : List Wd→Option (Pt × List Wd)
 | x::y::f::g::h::r=>if (num x).isSome=true∧(num y).isSome=true∧f=[48]∧Xm7 g∧Xm7 h then pt2 r else none
 | _=>none
def cmd : List Wd→Option (List Pt × List Wd)
 | []=>none
 | c::r=>if c=[76] then (pt2 r).map fun q=>([q.1],q.2) else if c=[65] then (Xqj r).map fun q=>([q.1],q.2) else if c=[90] then (if r=[] then some ([],[]) else none) else none
theorem Xjo {l r : List Wd} {p : Pt} (h : pt2 l=some (p,r)) : r.length+2=l.length:=by
 match l,h with
 | x::y::l,h =>
  simp only [pt2] at h
  split at h <;> cases h
  rfl
theorem Xyg {l r : List Wd} {p : Pt} (h : Xqj l=some (p,r)) : r.length+7=l.length:=by
 match l,h with
 | x::y::f::g::k::l,h =>
  simp only [Xqj] at h
  split at h
  · have:=Xjo h;simp only [W0l];omega
  · cases h
theorem Xu1 {l r : List Wd} {ps : List Pt} (h : cmd l=some (ps,r)) : r.length<l.length:=by
 match l,h with
 | c::l,h =>
  simp only [cmd] at h
  split at h
  · cases e : pt2 l with
    | none=>rw [e] at h;cases h
    | some q=>rw [e] at h;cases h;have:=Xjo (l:=l) (r:=q.2) (p:=q.1) e;simp only [W0l];omega
  · split at h
    · cases e : Xqj l with
      | none=>rw [e] at h;cases h
      | some q=>rw [e] at h;cases h;have:=Xyg (l:=l) (r:=q.2) (p:=q.1) e;simp only [W0l];omega
    · split at h
      · split at h <;> cases h
        simp
      · cases h
def bdy : Nat→List Wd→Option (List Pt)
 | _,[]=>some []
 | 0,_::_=>none
 | n+1,c::r=>match cmd (c::r) with
  | none=>none
  | some (ps,r)=>(bdy n r).map (ps++·)
theorem Yhb : ∀ {n m : Nat} {l : List Wd},l.length≤n→l.length≤m→bdy n l=bdy m l
 | n,m,[],_,_=>by cases n <;> cases m <;> rfl
 | 0,_,_::_,h,_=>absurd h (by simp)
 | _+1,0,_::_,_,h=>absurd h (by simp)
 | n+1,m+1,c::r,h1,h2=>by
  simp only [bdy]
  cases e : cmd (c::r) with
  | none=>rfl
  | some q =>
   obtain ⟨ps,r'⟩:=q
   have:=Xu1 e
   simp only [W0l] at h1 h2 this
   simp only
   rw [Yhb (n:=n) (m:=m) (l:=r') (by omega) (by omega)]
def body (l : List Wd) : Option (List Pt):=bdy l.length l
theorem Xqh : body []=some []:=rfl
theorem Xnp {l : List Wd} (h0 : l≠[]) (h : cmd l=none) : body l=none:=by
 match l,h0 with
 | c::r,_=>unfold body;rw [W0l,bdy,h]
theorem Xgb {l r : List Wd} {ps : List Pt} (h : cmd l=some (ps,r)) : body l=(body r).map (ps++·):=by
 match l,h with
 | c::l,h =>
  have:=Xu1 h
  unfold body
  rw [W0l,bdy,h]
  simp only [W0l] at this ⊢
  rw [Yhb (n:=l.length) (m:=r.length) (l:=r) (by omega) (W0a _)]
def rdP : List Wd→Option (List Pt)
 | []=>none
 | m::r=>if m=[77] then match pt2 r with
  | none=>none
  | some (p,r)=>(body r).map (p::·)
  else none
end
end Go.Num
namespace Go.Vm
open Go
section
section
variable {c : Cx} {s : St} {p : Pl}
theorem Xm0 {o : Oper} {v : AV} {us : Hpl} (h : nxO c.tb c.n s=some (p,o)) (hc : Xal o=false) (hdr : p.dr=false) (hr : Raw c.P o (sem p.E p.H) (v,us)) (k : p.nx' c v us) : StP c s:=by
 obtain ⟨hw,hd⟩:=Xsy h
 refine Xk6 h (.inl ⟨hw,(Xnr hc).2 (.inr ⟨hdr,(v,us),hr,?_⟩)⟩)
 unfold aft
 rw [Xeg,←hd];exact Pl.nx'_eq.1 k
noncomputable def Yk3 (tb : Nat→Option TI) (n : Nat) (s : St) : Option (Pl × Oper × Operand × Operand × TypeId × TypeId × TI × Nat × Int):=match nxO tb n s with
 | some (p,o)=>match o.op,p.dr with
  | .call ⟨.builtin .append,⟨[x,y]⟩,⟨[T,T']⟩⟩,false=>match Xco (look p.E) x,Xco (look p.E) y,tb T,tb T' with
   | some .nil,some (.d (.int .i64 m)),some ti,some ⟨.int _ _,_,_,_⟩=>match look p.H (o.dst.getD 0),ti.z,Nat.ble ti.eb 128 with
    | none,.sl sz _,true=>some (p,o,x,y,T,T',ti,sz,m)
    | _,_,_=>none
   | _,_,_,_=>none
  | _,_=>none
 | none=>none
end
theorem Yep {P : Program} (w : World) (t tn ty e : TypeId) (i : TypeInfo) (z : Value) (k kn : IntKind) (ht : P.underlying t=some (.slice e)) (htn : P.underlying tn=some (.int kn)) (hi : P.info? e=some i) (hz : i.zero=some z) (q : Option Addr)
 (n : Nat) (h0 : 0<n) (hs : 0<i.size) (h63 : (n : Int)≤9223372036854775807) (h48 : n*i.bytes≤281474976710656) :
 (Builtin.append_ #[t,tn] ty #[.slice q 0 0,.int k n]).run P w =
  .ok (.slice (some ⟨w.heap.size,0,none⟩) n (grownCap w n 0 e)) (w.drew.alloc (.cells (Builtin.zeroCells z.cells n++Builtin.zeroCells z.cells (grownCap w n 0 e - n)) e)):=by
 cases q with
 | none=>exact Go.Lib.run_append_nil_zeros w t tn ty e i z k kn ht htn hi hz n h0 hs h63 h48
 | some a =>
  have hn : n≠0:=by omega
  have hw : IntKind.i64.wrap (n : Int)=n:=by rw [IntKind.wrap_i64];omega
  have h63' : ¬ (9223372036854775807<(n : Int)):=by omega
  have h48' : ¬ (281474976710656<Builtin.nextslicecap n 0*i.bytes):=by rw [nextslicecap_zero h0];omega
  have h48i : ¬ (281474976710656<(n : Int)*(i.bytes : Int)):=by
   rw [←W2u]
   omega
  have hneg : ¬ ((n : Int)<0):=by omega
  have hns : ¬ (n*i.size=0):=Nat.mul_ne_zero hn (by omega)
  simp [Builtin.append_,run_underlying ht,run_underlying htn,sizeOf,typeInfo,zeroValue,hi,hz,asInt,asIntOf,hw,hn,hneg,hns,h63',h48',h48i,Question.forced,Builtin.firstCells,loadCells,loadCellsFrom,newRow,grownCap]
section
variable {c : Cx} {s : St} {p : Pl}
theorem ApM {o : Oper} {x y : Operand} {T T' : TypeId} {ti : TI} {sz : Nat} {m : Int} (n : Nat) (h : Yk3 c.tb c.n s=some (p,o,x,y,T,T',ti,sz,m)) (h0 : 0<n) (hr : n≤1099511627776) (k : p.nx' c (.own (o.dst.getD 0) sz 0 n) [(o.dst.getD 0,.arr sz [])]) (hm : m=(n : Int):=by first | exact rfl | omega) : StP c s:=by
 subst hm
 unfold Yk3 at h
 split at h <;> try cases h
 rename_i p' o' ho
 split at h <;> try cases h
 rename_i x' y' T1 T2 hop hdr
 split at h <;> try cases h
 rename_i m' ti1 kn _ e' eb' ar' hx hy hti hti'
 split at h <;> cases h
 rename_i hd hb hz
 refine Xm0 ho (by unfold Xal;rw [hop];rfl) hdr (fun N W θ ρ _ hO hN hB hv=>?_) k
 obtain ⟨hk,_⟩:=c.hT _ _ hti
 obtain ⟨t,u1,_,u3⟩:=hk.u
 rw [hz] at u3
 obtain ⟨E,e,hsz,hez,ii,v0,i1,i2,i3,i4,i5⟩:=u3
 subst e
 obtain ⟨hk',_⟩:=c.hT _ _ hti'
 obtain ⟨t',u1',_,u3'⟩:=hk'.u
 have u3' : t'=.int kn:=u3'
 subst u3'
 obtain ⟨q,ex⟩:=Xke (hv _ _ hx)
 obtain ⟨ey,_⟩:=Xci (hv _ _ hy)
 have hsp : 0<ii.size:=by rw [i2];exact D.size_pos _
 have hbb : n*ii.bytes≤281474976710656:=by rw [i3];have:=W1w hr (W1x hb);omega
 have hrun:=Yep (P:=c.P) W.w T T' o.type E ii v0 .i64 kn u1 u1' i1 i4 q n h0 hsp (by omega) hbb
 have hge:=grownCap_ge W.w n 0 E
 have hlt : grownCap W.w n 0 E<9223372036854775808:=by
  have:=W1z (W.w.tape W.w.drawn (.appendCap n 0 E)) (show 0<2 ^ 63 - n by omega)
  simp only [grownCap,Question.cut] at *
  omega
 have hzs : v0.cells.size=sz:=by rw [hsz,←D.zc_len,←i5];simp
 obtain ⟨W',θ',e1,e2,e3⟩:=Xg3 (W:=W.tick) (θ:=θ) (g:=(sem p.E p.H).2) (dd:=o.dst.getD 0) (E:=E) (sz:=sz) (xs:=[]) (cs:=[]) (c:=grownCap W.w n 0 E) (zs:=(Builtin.zeroCells v0.cells n++Builtin.zeroCells v0.cells (grownCap W.w n 0 E - n)).toList) (Stp.tick hO).obs hN hB hd (fun i x h=>by simp at h) (by simp) (by simp) hlt (by
  rw [W3s,Array.length_toList,Array.size_append,size_zeroCells,size_zeroCells,hzs,←W1e]
  congr 1
  omega)
 obtain ⟨cs,⟨b,pp,k1,k2,k3,k4,k5⟩,k6⟩:=e3
 subst k4
 have k6 : Value.slice (some ⟨W.tick.size,0,none⟩) 0 (grownCap W.w n 0 E)=.slice pp 0 ((θ' (o.dst.getD 0)).2 - 0):=k6
 injection k6 with k6 k7 k8
 have k5:=k5 (.inl rfl)
 rw [←k6] at k5
 injection k5 with k5
 injection k5 with k5
 have k5 : W.size=b:=k5
 subst k5
 refine ⟨W',θ',.value (.slice (some ⟨W.size,0,none⟩) n (grownCap W.w n 0 E)),?_,(Stp.tick hO).trans e2,.inr ⟨_,rfl,Ybp (xs:=[]) k1 (by omega) (by omega) k3⟩,fun i hi=>⟨_,by subst hi;exact Xaj _ _ _⟩⟩
 have h1 : execOp ρ o=(Builtin.append_ #[T,T'] o.type #[ρ x,ρ y] >>= fun v=>pure (.value v)):=by
  simp [execOp,hop,resolve,invoke,builtin]
 rw [h1,Sem.run_bind,ex,ey,hrun,e1]
 have fin : ∀ {a b : Array Value},a=b→(Result.ok (Next.value (.slice (some ⟨W.size,0,none⟩) n (grownCap W.w n 0 E))) (W.w.drew.alloc (.cells a E)) : Result Next)=.ok (.value (.slice (some ⟨W.size,0,none⟩) n (grownCap W.w n 0 E))) (W.tick.w.alloc (.cells b E)):=by
  rintro a b rfl;rfl
 exact fin (by simp)
noncomputable def Ykw (tb : Nat→Option TI) (n : Nat) (s : St) : Option Pl:=match nxA tb n s with
 | some (p,o,[.nil])=>match o.op with
  | .call ⟨.builtin .cap,_,⟨[T]⟩⟩=>match tb T with
   | some ⟨.sl _ _,_,_,_⟩=>some p
   | _=>none
  | _=>none
 | _=>none
theorem Kp (h : Ykw c.tb c.n s=some p) (k : p.nx c (.d (.int .i64 0))) : StP c s:=by
 unfold Ykw at h
 split at h <;> try cases h
 rename_i p' o hA
 split at h <;> try cases h
 rename_i asx T ho
 split at h <;> cases h
 rename_i ht
 refine Xbp (us:=[]) hA ?_ (Pl.nx_nil k)
 rw [ho]
 simp [F,Fp,ht]
theorem Sn {h' : Int} (h : nxS c.tb c.n s=some (p,.nil,none,some h')) (k : p.nx c .nil) (hh : h'=0:=by exact rfl) : StP c s:=Xpc h (by subst hh;rfl) k
noncomputable def Ykx (tb : Nat→Option TI) (n : Nat) (s : St) : Option (Pl × FuncId × List AV):=match nxO tb n s with
 | some (p,o)=>match o.op with
  | .call ⟨.value x,asx,tys⟩=>match callee (look p.E) x,getEs (look p.E) asx.toList with
   | some (f,ex),some vs=>some (p,f,vs++ex)
   | _,_=>none
  | _=>none
 | none=>none
theorem CoN {f : FuncId} {asx : List AV} {Q : AV→Ob→Prop} (h : Ykx c.tb c.n s=some (p,f,asx)) (hc : CO c.P f asx Q) (k : ∀ v ob,Q v ob→p.nx' c (v.rnf (rnL [(1000000,p.d.getD 0)])) [(p.d.getD 0,ob.rnf (rnL [(1000000,p.d.getD 0)]))])
 (hk : (Xu5 asx [] [] (p.d.getD 0) p.H && !p.dr)=true:=by exact rfl) : StP c s:=by
 rw [W0e,W1s] at hk
 obtain ⟨hk,hdr⟩:=hk
 have hk':=hk
 simp only [Xu5,W0e,W1s] at hk'
 obtain ⟨⟨⟨⟨⟨k1,k2⟩,k3⟩,k4⟩,k5⟩,k6⟩:=hk'
 have hid : ∀ {a : AV},a.rnf (rnL [])=a:=by
  intro a
  induction a with
  | st a ih=>simp only [AV.rnf,ih]
  | tup a ih=>simp only [AV.rnf,ih]
  | fm f a ih=>simp only [AV.rnf,ih]
  | pr a c iha ihc=>simp only [AV.rnf,iha,ihc]
  | _=>rfl
 have hmap : asx.map (AV.rnf (rnL []))=asx:=by rw [show AV.rnf (rnL [])=id from funext fun a=>hid,List.map_id]
 unfold Ykx at h
 split at h <;> try cases h
 rename_i p' o ho
 obtain ⟨hw,hd⟩:=Xsy ho
 split at h <;> try cases h
 rename_i x as' tys he
 split at h <;> cases h
 rename_i ex vs hvs hf
 have kk : ∀ v ob,Q v ob→WL c.P c.tb p.dr p.L (J c p.K) p.l (S.put ((sem p.E p.H).1,Xbk (sem p.E p.H).2 [(p.d.getD 0,ob.rnf (rnL [(1000000,p.d.getD 0)]))]) o.dst (v.rnf (rnL [(1000000,p.d.getD 0)]))):=fun v ob hv=>by
  have:=Pl.nx'_eq.1 (k v ob hv)
  have this : WL c.P c.tb p.dr p.L (J c p.K) p.l (sem (Xri p.E p.d _) (_++p.H)):=this
  rw [←hd,Xeg]
  exact this
 refine Xk6 ho (.inl ⟨hw,?_⟩)
 unfold Wb
 rw [he]
 refine ⟨_,_,_,hf,hvs,?_⟩
 rw [hdr] at kk ⊢
 obtain ⟨a1,a2⟩:=Xhv hc hk (Xbc k2) (g:=look p.H) (fun o x hx=>by simp [look] at hx)
 rw [hmap] at a2
 refine ⟨_,_,.inr rfl,⟨a1,a2⟩,?_⟩
 rintro v g' ⟨v0,H',d1,⟨ob,rfl,d2⟩,rfl,rfl⟩
 have:=kk v0 ob d2
 simpa [rfH,rnL] using this
end
def AV.nl (o sz : Nat) : AV→AV
 | .nil=>.gr o sz []
 | .st a=>.st (a.nl o sz)
 | .pr a c=>.pr (a.nl o sz) (c.nl o sz)
 | a=>a
theorem Yls {W : GW} {θ : Loc} {o sz : Nat} (h0 : θ o=(none,0)) : ∀ {a : AV} {cs : List Value},AV.C W θ a cs→AV.C W θ (a.nl o sz) cs:=by
 intro a
 induction a with
 | st a ih=>intro cs h;exact ih h
 | pr a c iha ihc=>intro cs ⟨u,v,h,h1,h2⟩;exact ⟨u,v,h,iha h1,ihc h2⟩
 | nil=>intro cs ⟨p,h⟩;exact ⟨p,by rw [h,h0];rfl,.inl (by rw [h0]),by simp,by rw [h0];decide,.inl rfl⟩
 | _=>intro cs h;exact h
theorem Yfb {o sz i : Nat} : ∀ {a : AV},(a.nl o sz).ids i→i=o∨a.ids i:=by
 intro a
 induction a with
 | st a ih=>exact ih
 | pr a c iha ihc=>exact fun h=>h.elim (fun h=>(iha h).imp id .inl) fun h=>(ihc h).imp id .inr
 | nil=>exact .inl
 | _=>exact .inr
section
variable {c : Cx} {s : St} {p : Pl}
theorem nvS {K : List Kt} {E : Env} {H : Hpl} (q o' sz : Nat) {a : AV} (hv : look H q=some (.var a)) (hb : (Nat.blt o' 1000000 && !Xbs H o')=true) (k : J c K (sem E ((q,.var (a.nl o' sz))::(o',.tok 0 sz)::H))) : J c K (sem E H):=by
 simp only [W0e,W1s] at hb
 have hb1:=Xpk hb.1
 have hn : look H o'=none:=Xbc hb.2
 have hq : q≠o':=fun e=>by rw [e,hn] at hv;cases hv
 rintro x w ⟨s0,W,θ,hw,hs,hθ,rfl⟩
 have st:=Stp.new0 (d:=o') hs.obs hb1 hn (x:=.tok 0 sz) ⟨by simp,by simp,.inl (by simp)⟩ (fun i h=>h)
 have h1:=hs.step0 st
 refine k x w ⟨_,W,_,hw,?_,fun i hi=>(st.hi i hi).trans (hθ i hi),rfl⟩
 rw [show sem E ((q,Ob.var (a.nl o' sz))::(o',Ob.tok 0 sz)::H)=(look E,upd (upd (look H) o' (.tok 0 sz)) q (.var (a.nl o' sz))) from by rw [Xa9,Xa9]]
 have hq1 : upd (look H) o' (.tok 0 sz) q=some (.var a):=by rw [Xak hq];exact hv
 have hdom : ∀ {i : Nat} {y : Ob},upd (look H) o' (.tok 0 sz) i=some y→∃ z,upd (upd (look H) o' (.tok 0 sz)) q (.var (a.nl o' sz)) i=some z:=fun {i y} hy=>by
  by_cases e : i=q
  · subst e;exact ⟨_,Xaj _ _ _⟩
  · exact ⟨y,by rw [Xak e];exact hy⟩
 refine ⟨h1.fm,h1.rel,⟨fun i y hy=>?_,fun i y b hy hl hb=>?_,fun i j y y' b hy hy' hl hl' b1 b2=>?_,fun i y j hy hj=>?_⟩,fun t v i ht hi=>?_⟩
 · rcases Xaf hy with ⟨e1,e2⟩ | ⟨e1,e2⟩
   · subst e1;subst e2
     obtain ⟨b,cs,T,r1,r2,r3,r4⟩:=h1.obs.r _ _ hq1
     exact ⟨b,cs,T,r1,r2,Yls (by simp) r3,r4⟩
   · exact h1.obs.r _ _ e2
 · rcases Xaf hy with ⟨e1,e2⟩ | ⟨e1,e2⟩
   · subst e1;exact h1.obs.new _ _ b hq1 rfl hb
   · exact h1.obs.new _ _ b e2 hl hb
 · rcases Xaf hy with ⟨e1,e2⟩ | ⟨e1,e2⟩ <;> rcases Xaf hy' with ⟨f1,f2⟩ | ⟨f1,f2⟩
   · rw [e1,f1]
   · subst e1;exact h1.obs.dis _ _ _ _ b hq1 f2 rfl hl' b1 b2
   · subst f1;exact h1.obs.dis _ _ _ _ b e2 hq1 hl rfl b1 b2
   · exact h1.obs.dis _ _ _ _ b e2 f2 hl hl' b1 b2
 · rcases Xaf hy with ⟨e1,e2⟩ | ⟨e1,e2⟩
   · subst e2
     rcases Yfb (a:=a) hj with h | h
     · exact hdom (y:=.tok 0 sz) (by rw [h];exact Xaj _ _ _)
     · obtain ⟨z,hz⟩:=h1.obs.ids _ _ j hq1 h
       exact hdom hz
   · obtain ⟨z,hz⟩:=h1.obs.ids _ _ j e2 hj
     exact hdom hz
 · obtain ⟨z,hz⟩:=h1.ids t v i ht hi
   exact hdom hz
theorem Nv {K : List Kt} {E : Env} {H : Hpl} (q o' sz : Nat) {a : AV} (h : nxJ c.tb c.n s=some (K,E,H)) (k : StP c (.j [] K E ((q,.var (a.nl o' sz))::(o',.tok 0 sz)::H))) (hv : look H q=some (.var a):=by exact rfl) (hb : (Nat.blt o' 1000000 && !Xbs H o')=true:=by exact rfl) : StP c s:=by
 unfold nxJ at h
 split at h <;> cases h
 rename_i hr
 exact go 1000 hr (nvS q o' sz hv hb k)
end
end
section
section
variable {c : Cx} {s : St} {p : Pl}
noncomputable def Yk2 (tb : Nat→Option TI) (n : Nat) (s : St) : Option (Pl × Nat × Nat × Int × Nat × Nat):=match nxA tb n s with
 | some (p,o,[.ptr q off,.d (.int _ j)])=>match o.op with
  | .indexAddr T _ _=>match tb T with
   | some ⟨.st _,e,_,ar⟩=>some (p,q,off,j,e.size,ar)
   | _=>none
  | _=>none
 | _=>none
theorem Ia (i : Nat) {q off sz ar : Nat} {j : Int} (h : Yk2 c.tb c.n s=some (p,q,off,j,sz,ar)) (hi : i<ar) (kk : p.nx c (.ptr q (off+i*sz))) (hj : j=(i : Int):=by first | exact rfl | omega) : StP c s:=by
 subst hj
 unfold Yk2 at h
 split at h <;> try cases h
 rename_i p' o q1 off1 k1 j1 hA
 split at h <;> try cases h
 rename_i T x y ho
 split at h <;> try cases h
 rename_i z e eb ht
 refine Xbp (v:=.ptr q (off+i*e.size)) (us:=[]) hA ?_ (Pl.nx_nil kk)
 rw [ho]
 simp [F,Fp,ht,hi]
end
end
section
section
variable {c : Cx} {s : St} {p : Pl}
noncomputable def Ykq (tb : Nat→Option TI) (n : Nat) (s : St) : Option (Pl × List UInt8 × List UInt8):=match nxA tb n s with
 | some (p,o,[.d (.str a),.d (.str b)])=>match o.op with
  | .binOp op _ _ _ _=>match op with
   | .add=>some (p,a,b)
   | _=>none
  | _=>none
 | _=>none
theorem Sc {a b : List UInt8} (t : List UInt8) (h : Ykq c.tb c.n s=some (p,a,b)) (ht : a++b=t) (hl : a.length+b.length<9223372036854775808) (kk : p.nx c (.d (.str t))) : StP c s:=by
 subst ht
 unfold Ykq at h
 split at h <;> try cases h
 rename_i hA
 split at h <;> try cases h
 rename_i ho
 split at h <;> cases h
 refine Xbp (us:=[]) hA ?_ (Pl.nx_nil kk)
 rw [ho]
 simp only [F,Fp,Xyo,if_pos hl]
noncomputable def Ye8 (tb : Nat→Option TI) (n : Nat) (s : St) : Option (Pl × List UInt8 × Option Int × Option Int):=match nxA tb n s with
 | some (p,o,asx)=>match o.op with
  | .slice T _ lo hi mx=>match tb T with
   | some ti=>match ti.z,Xks lo hi mx asx with
    | .str _,some (.d (.str s),l,h,none)=>some (p,s,l,h)
    | _,_=>none
   | none=>none
  | _=>none
 | none=>none
theorem Xmz {t : List UInt8} {r : AV} {l h' : Option Int} (h : Ye8 c.tb c.n s=some (p,t,l,h')) (hr : slS t l h'=some r) (k : p.nx c r) : StP c s:=by
 unfold Ye8 at h
 split at h <;> try cases h
 rename_i hA
 split at h <;> try cases h
 rename_i ho
 split at h <;> try cases h
 rename_i ti ht
 split at h <;> cases h
 rename_i hz hs
 refine Xbp (us:=[]) hA ?_ (Pl.nx_nil k)
 rw [ho]
 simp only [F,Fp,ht,hz,hs,hr]
theorem Stk (j : Nat) (zs : List UInt8) {i : Int} {xs : List UInt8} (h : Ye8 c.tb c.n s=some (p,xs,none,some i)) (hl : j≤xs.length) (hz : xs.take j=zs) (k : p.nx c (.d (.str zs))) (hj : i=j:=by first | exact rfl | omega) : StP c s:=by
 subst hj;subst hz
 refine Xmz h ?_ k
 rw [slS,if_pos ⟨by omega,by omega⟩];simp
theorem Sdp (j : Nat) (zs : List UInt8) {i : Int} {xs : List UInt8} (h : Ye8 c.tb c.n s=some (p,xs,some i,none)) (hl : j≤xs.length) (hz : xs.drop j=zs) (k : p.nx c (.d (.str zs))) (hj : i=j:=by first | exact rfl | omega) : StP c s:=by
 subst hj;subst hz
 refine Xmz h ?_ k
 rw [slS,if_pos ⟨by omega,by omega⟩];simp
theorem Smd (i j : Nat) (zs : List UInt8) {i' j' : Int} {xs : List UInt8} (h : Ye8 c.tb c.n s=some (p,xs,some i',some j')) (hl : i≤j∧j≤xs.length) (hz : (xs.drop i).take (j - i)=zs) (k : p.nx c (.d (.str zs))) (hi : i'=i:=by first | exact rfl | omega) (hj : j'=j:=by first | exact rfl | omega) : StP c s:=by
 subst hi;subst hj;subst hz
 refine Xmz h ?_ k
 rw [slS,if_pos ⟨by omega,by omega,by omega⟩];simp
noncomputable def Yk0 (tb : Nat→Option TI) (n : Nat) (s : St) : Option (Pl × AV):=match nxA tb n s with
 | some (p,o,[a])=>match o.op with
  | .convert S T _=>match tb S,tb T,Ydt a with
   | some ⟨.sl _ _,.int .u8 _,_,_⟩,some ⟨.str _,_,_,_⟩,true=>some (p,a)
   | _,_,_=>none
  | _=>none
 | _=>none
theorem Bs (zs : List UInt8) {a : AV} (h : Yk0 c.tb c.n s=some (p,a)) (hz : Yht a=some zs) (kk : p.nx c (.d (.str zs))) : StP c s:=by
 unfold Yk0 at h
 split at h <;> try cases h
 rename_i hA
 split at h <;> try cases h
 rename_i ho
 split at h <;> cases h
 rename_i h1 h2 h3
 refine Xbp (us:=[]) hA ?_ (Pl.nx_nil kk)
 rw [ho]
 have : ∀ k z,a≠.d (.int k z):=fun k z e=>by subst e;cases h3
 cases a with
 | d x=>cases x <;> first | exact absurd rfl (this _ _) | simp only [F,Fp,h2,h1,hz]
 | _=>simp only [F,Fp,h2,h1,hz]
end
end
section
theorem Xuz {W : GW} {z : D} : ∀ {cs : List Value},(∀ x∈z.comps,x.size=1)→D.At W z cs→AtL W 1 z.comps cs∧cs.length=z.comps.length:=by
 have one : ∀ {x : D} {cs : List Value},x.size=1→D.At W x cs→AtL W 1 [x] cs∧cs.length=1:=fun {x cs} h1 h =>
  ⟨fun i y hi=>by
   cases i with
   | zero=>simp at hi;subst hi;exact ⟨cs,h,h1,fun j v hj=>by simpa using hj⟩
   | succ i=>simp at hi,by rw [D.at_len x h,h1]⟩
 induction z using D.ind with
 | leaf x h1 h2 =>
  intro cs hs h
  have e : x.comps=[x]:=by cases x <;> first | rfl | exact absurd rfl (h2 _ _)
  rw [e] at hs ⊢
  exact one (hs x (W0g.2 rfl)) h
 | st a _=>intro cs hs h;exact one (hs _ (W0g.2 rfl)) h
 | pr a c _ ih =>
  intro cs hs ⟨u,v,e,h1,h2⟩
  have hs : ∀ x∈a::c.comps,x.size=1:=hs
  obtain ⟨k1,k2⟩:=one (hs a (W0v ..)) h1
  obtain ⟨k3,k4⟩:=ih (fun x hx=>hs x (W1d _ hx)) h2
  subst e
  have:=k1.app k3 (by rw [k2];rfl)
  exact ⟨this,by rw [W0d,k2,k4];show _=(a::c.comps).length;simp;omega⟩
theorem Stp.vara {N : Nat→Prop} {W : GW} {θ : Loc} {g : Hp} (h : Obs W θ N g) {o d b n sz : Nat} {a : AV} {xs : List D} (ho : g o=some (.var a)) (hb : (θ o).1=some b) (hB : d<1000000) (hd : g d=none) (hx : (Ob.arr sz xs).R W (fun i=>if i=d then (some b,n) else θ i) d) :
 Stp N W W θ (fun i=>if i=d then (some b,n) else θ i) g (upd (upd g o .dead) d (.arr sz xs)) where
 os:=_root_.rfl
 out:=_root_.rfl
 tape:=_root_.rfl
 size:=W0a _
 same:=fun _ _ _=>_root_.rfl
 A:=fun _ _ _ _=>W3w
 le:=LeF.refl W
 th:=fun i y hy=>if_neg fun e=>by rw [e,hd] at hy;cases hy
 hi:=fun i h=>if_neg (by omega)
 obs:=by
  have hg : ∀ {i : Nat} {y : Ob},upd (upd g o .dead) d (.arr sz xs) i=some y→(i=d∧y=.arr sz xs)∨(i≠d∧i=o∧y=.dead)∨(i≠d∧i≠o∧g i=some y):=fun {i y} hy=>by
   rcases Xaf hy with ⟨e1,e2⟩ | ⟨e1,e2⟩
   · exact .inl ⟨e1,e2⟩
   · rcases Xaf e2 with ⟨f1,f2⟩ | ⟨f1,f2⟩
     · exact .inr (.inl ⟨e1,f1,f2⟩)
     · exact .inr (.inr ⟨e1,f1,f2⟩)
  have hnd : ∀ {i : Nat},(∃ z,g i=some z)→i≠d:=fun ⟨z,hz⟩ e=>by rw [e,hd] at hz;cases hz
  refine ⟨fun i y hy=>?_,fun i y b' hy hl hb'=>?_,fun i j y y' b' hy hy' hl hl' b1 b2=>?_,fun i y j hy hj=>?_⟩
  · rcases hg hy with ⟨rfl,rfl⟩ | ⟨_,_,rfl⟩ | ⟨e1,e2,e3⟩
    · exact hx
    · trivial
    · exact (h.r i y e3).keep (LeF.refl W) (if_neg e1) (fun j hj=>if_neg (hnd (h.ids i y j e3 hj))) fun _ _ _=>⟨_root_.rfl,fun _ h=>h⟩
  · rcases hg hy with ⟨rfl,rfl⟩ | ⟨_,_,rfl⟩ | ⟨e1,e2,e3⟩
    · rw [if_pos _root_.rfl] at hb'
      exact h.new o _ b' ho _root_.rfl (hb.trans hb')
    · cases hl
    · rw [if_neg e1] at hb';exact h.new i y b' e3 hl hb'
  · rcases hg hy with ⟨rfl,rfl⟩ | ⟨_,_,rfl⟩ | ⟨e1,e2,e3⟩
    · rcases hg hy' with ⟨rfl,rfl⟩ | ⟨_,_,rfl⟩ | ⟨f1,f2,f3⟩
      · exact _root_.rfl
      · cases hl'
      · rw [if_pos _root_.rfl] at b1;rw [if_neg f1] at b2
        exact absurd (h.dis j o y' _ b' f3 ho hl' _root_.rfl b2 (hb.trans b1)) f2
    · cases hl
    · rcases hg hy' with ⟨rfl,rfl⟩ | ⟨_,_,rfl⟩ | ⟨f1,f2,f3⟩
      · rw [if_pos _root_.rfl] at b2;rw [if_neg e1] at b1
        exact absurd (h.dis i o y _ b' e3 ho hl _root_.rfl b1 (hb.trans b2)) e2
      · cases hl'
      · rw [if_neg e1] at b1;rw [if_neg f1] at b2;exact h.dis i j y y' b' e3 f3 hl hl' b1 b2
  · rcases hg hy with ⟨rfl,rfl⟩ | ⟨_,_,rfl⟩ | ⟨e1,e2,e3⟩
    · exact hj.elim
    · exact hj.elim
    · have hz:=h.ids i y j e3 hj
      rw [Xak (hnd hz)]
      by_cases e : j=o
      · subst e;exact ⟨_,Xaj _ _ _⟩
      · rw [Xak e];exact hz
 dom:=fun i y hy=>by
  rw [Xak (fun e=>by rw [e,hd] at hy;cases hy)]
  by_cases e : i=o
  · subst e;exact ⟨_,Xaj _ _ _⟩
  · exact ⟨y,by rw [Xak e];exact hy⟩
section
variable {c : Cx} {s : St} {p : Pl}
noncomputable def Yko (tb : Nat→Option TI) (n id t : Nat) (s : St) : Option (List Kt × Env × Hpl × Nat × D):=match runT tb n id 1000 s with
 | .j _ K E H=>match look E t with
  | some (.ptr o 0)=>match look H o with
   | some (.var (.d (.st z)))=>some (K,E,H,o,z)
   | _=>none
  | _=>none
 | _=>none
theorem Va (id t d m : Nat) (xs : List D) {K : List Kt} {E : Env} {H : Hpl} {o : Nat} {z : D} (h : Yko c.tb c.n id t s=some (K,E,H,o,z)) (hz : z.comps=xs) (hs : ∀ x∈xs,x.size=1) (hm : xs.length=m) (k : StP c (.j [] K ((t,.ap d m)::E) ((d,.arr 1 xs)::(o,.dead)::H)))
 (hd : (Nat.blt d 1000000 && !Xbs H d && Nat.blt m 1000000)=true:=by exact rfl) : StP c s:=by
 subst hz
 simp only [W0e,W1s] at hd
 obtain ⟨⟨hd1,hd2⟩,hm1⟩:=hd
 have hd1:=Xpk hd1
 have hm1:=Xpk hm1
 have hdn : look H d=none:=Xbc hd2
 unfold Yko at h
 split at h <;> try cases h
 rename_i hr
 split at h <;> try cases h
 rename_i he
 split at h <;> cases h
 rename_i ho
 refine Xfi (id:=id) 1000 ?_
 rw [hr]
 rintro a w ⟨s0,W,θ,hw,hs0,hθ,rfl⟩
 obtain ⟨b,cs,T',r1,r2,r3,r4⟩:=hs0.obs.r _ _ ho
 have r3 : D.At W z cs:=r3
 obtain ⟨k1,k2⟩:=Xuz hs r3
 have st:=Stp.vara (n:=m) (sz:=1) (xs:=z.comps) hs0.obs ho r1 hd1 hdn ⟨b,cs,T',by simp,r2,by rw [k2,hm];simp,by simp only [if_true];omega,by simp only [if_true];omega,k1,r4⟩
 have h1:=hs0.step0 st
 refine k a w ⟨_,W,_,hw,?_,fun i hi=>(st.hi i hi).trans (hθ i hi),rfl⟩
 rw [show sem ((t,AV.ap d m)::E) ((d,Ob.arr 1 z.comps)::(o,Ob.dead)::H)=(upd (look E) t (.ap d m),upd (upd (look H) o .dead) d (.arr 1 z.comps)) from by rw [Xa9,Xa9,Xa9]]
 refine ⟨h1.fm,⟨h1.rel.defers,h1.rel.size,fun q v hq=>?_⟩,h1.obs,fun q v i hq hi=>?_⟩
 · rcases Xaf hq with ⟨e1,e2⟩ | ⟨e1,e2⟩
   · subst e1;subst e2
     obtain ⟨b',f1,f2⟩:=Xia (hs0.rel.has q _ he)
     rw [r1] at f1;injection f1 with f1;subst f1
     exact ⟨_,⟨b,by simp,by simp,rfl⟩,f2⟩
   · exact h1.rel.has q v e2
 · rcases Xaf hq with ⟨e1,e2⟩ | ⟨e1,e2⟩
   · subst e2
     have hi : i=d:=hi
     subst hi
     exact ⟨_,Xaj _ _ _⟩
   · exact h1.ids q v i e2 hi
noncomputable def Ykp (tb : Nat→Option TI) (n : Nat) (s : St) : Option (Pl × Oper × TypeId × Operand × Operand × Nat × Nat × Nat × Nat × D × Int):=match nxO tb n s with
 | some (p,o)=>match o.op,p.dr with
  | .slice T x none (some y) none,false=>match Xco (look p.E) x,Xco (look p.E) y,tb T with
   | some (.ap q m),some (.d (.int _ j)),some ⟨.st z,e,eb,ar⟩=>match Nat.beq m ar,look p.H q with
    | true,some _=>some (p,o,T,x,y,q,m,e.size,eb,z,j)
    | _,_=>none
   | _,_,_=>none
  | _,_=>none
 | none=>none
theorem Sp (j : Nat) {o : Oper} {T : TypeId} {x y : Operand} {q m sz eb : Nat} {z : D} {i : Int} (h : Ykp c.tb c.n s=some (p,o,T,x,y,q,m,sz,eb,z,i)) (hj : j≤m) (h0 : 0<m) (k : p.nx c (.own q sz 0 j)) (hm : m<1000000) (hi : i=(j : Int):=by first | exact rfl | omega) : StP c s:=by
 subst hi
 unfold Ykp at h
 split at h <;> try cases h
 rename_i p' o' ho
 split at h <;> try cases h
 rename_i T' x' y' hop hdr
 split at h <;> try cases h
 rename_i k2 e eb' ar hx hy hti
 split at h <;> cases h
 rename_i hH hma
 have hma:=W0f hma
 subst hma
 refine Xm0 (us:=[]) ho (by unfold Xal;rw [hop];rfl) hdr (fun N W θ ρ _ hO hN hB hv=>?_) (Pl.nx_nil k)
 obtain ⟨hk,_⟩:=c.hT _ _ hti
 obtain ⟨t,u1,_,u3⟩:=hk.u
 simp only [show ¬ m=0 from by omega,if_false] at u3
 obtain ⟨E,e1,i,v0,i1,i2,_⟩:=u3
 subst e1
 obtain ⟨cs,⟨b,f1,f2,f3⟩,f4⟩:=hv _ _ hx
 subst f3
 have f4 : ρ x=.pointer (some ⟨b,0,none⟩):=f4
 obtain ⟨ey,_⟩:=Xci (hv _ _ hy)
 have hg : (sem p.E p.H).2 q=some _:=hH
 refine .val (u:=.slice (some ⟨b,0,none⟩) j m) hO ?_ ?_ (fun i hi=>by subst hi;exact ⟨_,hg⟩)
 · have hm0 : ¬ m=0:=by omega
   simp [execOp,hop,f4,ey,Instr.sliceAt,Instr.sureAddr,Instr.sliceBounds,Instr.sliceBound,asIntOf,sizeOf,typeInfo,underlying,program,bind,Sem.bind,Sem.run,pure,u1,i1,i2,hm0,hj,add0]
 · exact ⟨[.slice (some ⟨b,0,none⟩) j m],⟨b,some ⟨b,0,none⟩,f1,by omega,by omega,by rw [f2,W7f],fun _=>by rw [W5p]⟩,rfl⟩
noncomputable def Yk1 (tb : Nat→Option TI) (n : Nat) (s : St) : Option (Pl × Oper × TypeId × TypeId × Operand × Nat × Nat × Nat × List D):=match nxO tb n s with
 | some (p,o)=>match o.op,p.dr with
  | .convert S T x,false=>match Xco (look p.E) x,tb S,tb T with
   | some (.own q 1 l m),some ⟨.sl _ _,.int .u8 _,_,_⟩,some ⟨.str _,_,_,_⟩=>match look p.H q with
    | some (.arr 1 xs)=>some (p,o,S,T,x,q,l,m,xs)
    | _=>none
   | _,_,_=>none
  | _,_=>none
 | none=>none
theorem Bo (zs : List UInt8) {o : Oper} {S T : TypeId} {x : Operand} {q l m : Nat} {xs : List D} (h : Yk1 c.tb c.n s=some (p,o,S,T,x,q,l,m,xs)) (hl : l+m≤xs.length) (hz : Xya ((xs.drop l).take m)=some zs) (k : p.nx c (.d (.str zs))) : StP c s:=by
 unfold Yk1 at h
 split at h <;> try cases h
 rename_i p' o' ho
 split at h <;> try cases h
 rename_i S' T' x' hop hdr
 split at h <;> try cases h
 rename_i hx hS hT
 split at h <;> cases h
 rename_i hH
 refine Xm0 (us:=[]) ho (by unfold Xal;rw [hop];rfl) hdr (fun N W θ ρ _ hO hN hB hv=>?_) (Pl.nx_nil k)
 obtain ⟨hk,_⟩:=c.hT _ _ hS
 obtain ⟨t,u1,_,E,u3,_⟩:=hk.u
 subst u3
 obtain ⟨t',u1',_,u3⟩:=(c.hT _ _ hT).1.u
 have u3 : t'=.string:=u3
 subst u3
 have ue:=hk.k E _ _ u1 rfl
 obtain ⟨b,pp,f1,f2,f3,e,f5⟩:=Xma (hv _ _ hx)
 obtain ⟨b',bs,T1,r1,r2,r3,r4,r5,r6,r7⟩:=hO.r _ _ hH
 rw [f1] at r1;injection r1 with r1;subst r1
 obtain ⟨ns,hn1,rfl⟩:=Xkb hz
 have hlen : ns.length=m:=by
  have:=congrArg List.length hn1
  simp at this;omega
 refine .val (u:=.string ⟨(ns.map fun z=>UInt8.ofNat z.toNat).toArray⟩) hO ?_ (Xko (by simp;omega)) (fun _ h=>h.elim)
 have hc : (convert S T (ρ x)).run c.P W.w=.ok (.string ⟨(ns.map fun z=>UInt8.ofNat z.toNat).toArray⟩) W.w:=by
  rw [e,run_convert_bytes_string W.w S T E pp _ _ u1 ue u1']
  by_cases hm0 : m=0
  · subst hm0
    have : ns=[]:=W2h.1 hlen
    subst this
    cases pp with
    | none=>rfl
    | some a=>exact run_bytesToString W.w a _ _ [] rfl
  · rw [f5 (by omega)]
    rw [run_bytesToString W.w _ _ _ ns (by
     have h:=run_loadCells (P:=c.P) (b:=b) (off:=l*1) (w:=W.w) (ns.map (Value.int .u8)) 0 #[] (fun j v hj=>by
      rw [W0w] at hj
      cases hz : ns[j]? with
      | none=>rw [hz] at hj;cases hj
      | some z =>
       rw [hz] at hj;injection hj with hj;subst hj
       have hj' : ((xs.drop l).take m)[j]?=some (.int .u8 z):=by rw [hn1,W0w,hz];rfl
       have hj2 : xs[l+j]?=some (.int .u8 z):=by
        rw [W1l] at hj'
        split at hj'
        · rwa [W2b] at hj'
        · cases hj'
       obtain ⟨e1,g1,_,g2⟩:=r6 _ _ hj2
       have g1:=g1.1
       subst g1
       have:=g2 0 _ rfl
       rw [show l*1+(0+j)=(l+j)*1+0 by omega,Xa5 r2]
       exact this)
     simp only [W0h] at h
     rw [←hlen]
     simpa [loadCells] using h)]
    have:=Xei ns []
    rw [show (ByteArray.empty : ByteArray)=⟨([] : List UInt8).toArray⟩ from rfl,this]
    simp
 unfold execOp
 rw [hop]
 simp only
 rw [Sem.run_bind,hc];rfl
noncomputable def Yky (tb : Nat→Option TI) (n : Nat) (s : St) : Option (Pl × Oper × TypeId × Nat × Operand × Nat × Int):=match nxO tb n s with
 | some (p,o)=>match o.op,p.dr with
  | .indexAddr T (.global g) y,false=>match Xco (look p.E) y,tb T with
   | some (.d (.int _ j)),some ⟨.st _,.int _ _,_,ar⟩=>match Nat.beq ar 0 with
    | false=>some (p,o,T,g,y,ar,j)
    | true=>none
   | _,_=>none
  | _,_=>none
 | none=>none
theorem Gx (j : Nat) (k : IntKind) (z : Int) {o : Oper} {T : TypeId} {y : Operand} {g ar : Nat} {i : Int} (h : Yky c.tb c.n s=some (p,o,T,g,y,ar,i)) (hj : j<ar) (hg : ∀ W,c.gb.g W→Fr W g j (.int k z)) (hr : inR k z) (kk : p.nx c (.at (.int k z))) (hi : i=(j : Int):=by first | exact rfl | omega) : StP c s:=by
 subst hi
 unfold Yky at h
 split at h <;> try cases h
 rename_i p' o' ho
 split at h <;> try cases h
 rename_i T' g' y' hop hdr
 split at h <;> try cases h
 rename_i k1 j1 z1 k2 z2 eb ar1 hy hti
 split at h <;> cases h
 rename_i hz
 have hz : ¬ ar=0:=fun e=>by subst e;cases hz
 refine Xm0 (us:=[]) ho (by unfold Xal;rw [hop];rfl) hdr (fun N W θ ρ hgb hO hN hB hv=>?_) (Pl.nx_nil kk)
 obtain ⟨hk,_⟩:=c.hT _ _ hti
 obtain ⟨t,u1,_,u3⟩:=hk.u
 simp only [hz,if_false] at u3
 obtain ⟨E,e1,i,v0,i1,i2,_⟩:=u3
 subst e1
 obtain ⟨ey,_⟩:=Xci (hv _ _ hy)
 have eg:=hgb.2 g
 have i2 : i.size=1:=i2
 refine .val (u:=.pointer (some ⟨g,j,none⟩)) hO ?_ (Yj5 (e:=[.int k z]) ⟨rfl,hr⟩ fun q v hq=>?_) (fun _ h=>h.elim)
 · have hjl : (j : Int)<(ar : Int):=by omega
   simp [execOp,hop,eg,ey,Instr.indexAt,Instr.sureAddr,asIntOf,sizeOf,typeInfo,underlying,program,bind,Sem.bind,Sem.run,pure,u1,i1,i2,hjl,hj,add0]
 · cases q with
   | zero=>simp at hq;subst hq;exact hg W hgb.1
   | succ q=>simp at hq
end
end
end Go.Vm
namespace Go.Proofs.YtdlhdemfnfpboaaGreatDoor
open Go Go.Vm Go.Num Go.Proofs
section
abbrev Tx (s : List UInt8) : Prop:=s.length<4611686018427387904
theorem Xfy {s t : List UInt8} (hs : Tx s) (ht : Tx t) : C0 165 [.d (.str s),.d (.str t)] (·=.b (dc (s.take t.length=t))):=by
 refine En Tryz.func165 fun _ _ _=>?_
 refine By rfl (fun h=>?_) fun h=>?_
 · refine Stk t.length _ rfl (by omega) rfl ?_
   exact R1 rfl (.bp Xaw)
 · refine R1 rfl (.bp ⟨fun e=>(by cases e),fun e=>?_⟩)
   have:=congrArg List.length e
   rw [W0i] at this
   omega
theorem Xdv {s t : List UInt8} (hs : Tx s) (ht : Tx t) : C0 54 [.d (.str s),.d (.str t)] (·=.tup (.pr (.d (.str (if s.take t.length=t then s.drop t.length else s))) (.b (dc (s.take t.length=t))))):=by
 have h1 : C0 100 [.d (.str s),.d (.str t)] (·=.tup (.pr (.d (.str (if s.take t.length=t then s.drop t.length else s))) (.b (dc (s.take t.length=t))))):=by
  refine En Tryz.func100 fun _ _ _=>?_
  refine Ce rfl (Xfy hs ht) ?_
  refine By rfl (fun h=>?_) fun h=>?_
  · refine RTt rfl (.cons (.eq (by rw [if_neg h])) (.one (by exact .bp (c:=false) ⟨fun e=>(by cases e),fun e=>absurd e h⟩) (fun _ _ e=>by cases e) (fun _ _ e=>by cases e)))
  · have h:=W4c.1 h
    have hl : t.length≤s.length:=by have:=congrArg List.length h;rw [W0i] at this;omega
    refine Sdp t.length _ rfl hl rfl ?_
    refine RTt rfl (.cons (.eq (by rw [if_pos h])) (.one (by exact .bp (c:=true) ⟨fun _=>h,fun _=>rfl⟩) (fun _ _ e=>by cases e) (fun _ _ e=>by cases e)))
 refine En Tryz.func54 fun _ _ _=>?_
 refine Ce rfl h1 ?_
 exact R0t
def trL (c : UInt8) (s : List UInt8) : List UInt8:=s.dropWhile (· == c)
theorem Xeq {a b : UInt8} (h : (a.toNat : Int)=b.toNat) : a=b:=W7m.1 (by omega)
theorem Xgj {s : List UInt8} {b : UInt8} (hs : Tx s) : C0 268 [.d (.str s),.d (.int .u8 b.toNat)] (·=.d (.str (trL b s))):=by
 refine En Tryz.func268 fun _ _ _=>?_
 refine Lo (fun (t : List UInt8)=>[(0,.d (.str t)),(1,.d (.int .u8 b.toNat))]) (fun _=>[]) (fun t=>Tx t∧trL b t=trL b s) (fun t=>t.length) s [] rfl ⟨hs,rfl⟩ ?_ (by exact ⟨rfl,rfl,rfl,rfl,rfl⟩)
 rintro t ⟨ht,he⟩
 refine By rfl (fun h=>?_) fun h=>?_
 · cases t with
   | nil=>simp at h
   | cons x u =>
   have hl : (x::u).length=u.length+1:=rfl
   refine Yx 0 x rfl rfl ?_
   refine By rfl (fun h1=>?_) fun h1=>?_
   · refine Sdp 1 u rfl (by omega) rfl ?_
     refine Bk u [] rfl ⟨by show u.length<_;have : (x::u).length<_:=ht;omega,?_⟩ (by simp) (by exact ⟨rfl,rfl,rfl,rfl,rfl⟩)
     rw [←he];simp [trL,Xeq h1]
   · refine R1 rfl (.eq ?_)
     rw [←he];simp [trL,W4f]
     exact fun e=>absurd (by rw [e]) h1
 · have : t=[]:=W2h.1 (by omega)
   subst this
   exact R1 rfl (.eq (by rw [←he];rfl))
theorem Xmb {s : List UInt8} {b : UInt8} (hs : Tx s) (hb : b.toNat<128) : C0 204 [.d (.str s),.d (.str [b])] (·=.d (.str (trL b s))):=by
 refine En Tryz.func204 fun _ _ _=>?_
 refine By rfl (fun h=>?_) fun h=>?_
 · subst h;exact R1 rfl (.eq rfl)
 · refine No rfl (by simp) ?_
   refine Yes rfl (by simp) ?_
   refine Yx 0 b rfl rfl ?_
   refine Yes rfl (by omega) ?_
   refine Yx 0 b rfl rfl ?_
   refine Ce rfl (Xgj hs) ?_
   exact R0
end
section
def d2 (n : Nat) : List UInt8:=[UInt8.ofNat (48+n / 10),UInt8.ofNat (48+n % 10)]
theorem Ygt {n : Nat} (h : 10≤n) (h1 : n<100) : dec n=d2 n:=by rw [Xe6 h,Xc4 (by omega)];rfl
def tb2 : List UInt8:=(List.range 100).flatMap d2
theorem Xwi {n : Nat} (hn : n<100) : C0 242 [.d (.int .i64 n)] (·=.d (.str (dec n))):=by
 refine En Tryz.func242 fun _ _ _=>?_
 refine By rfl (fun h=>?_) fun h=>?_
 · refine Ar (n+1 : Nat) rfl ?_
   refine Smd n (n+1) (dec n) rfl ⟨by omega,by simp;omega⟩ ?_ ?_
   · rw [Xc4 (by omega)]
     have h1 : n<10:=by omega
     clear hn h
     revert h1;generalize n=j;revert j;decide +kernel
   · exact R0
 · refine Ar (n*2 : Nat) rfl ?_
   refine Ar (n*2 : Nat) rfl ?_
   refine Ar (n*2+2 : Nat) rfl ?_
   refine Smd (n*2) (n*2+2) (dec n) rfl ⟨by omega,by simp;omega⟩ ?_ ?_
   · rw [Ygt (by omega) hn]
     clear h
     revert hn;generalize n=j;revert j;decide +kernel
   · exact R0
theorem Xk9 {n : Nat} (hn : n≤64) : C0 288 [.d (.int .i64 n)] (·=.d (.int .i64 (n*78913 / 262144 : Nat))):=by
 refine En Tryz.func288 fun _ _ _=>?_
 refine Ar (n*78913 : Nat) rfl ?_
 refine Ar (n*78913 / 2 ^ 18 : Nat) rfl ?_ (Xhz (n:=18) (by decide))
 exact R1 rfl (.eq rfl)
theorem Xyc {p : Prop} : C0 290 [.b (dc p)] (fun v=>∃ n : Nat,v=.d (.int .i64 n)∧(n=1∧p∨n=0∧¬ p)):=by
 refine En Tryz.func290 fun _ _ _=>?_
 refine By rfl (fun h=>?_) fun h=>?_
 · exact Rt rfl (.one (.rf rfl) rfl rfl) ⟨1,rfl,.inl ⟨rfl,h⟩⟩
 · exact Rt rfl (.one (.rf rfl) rfl rfl) ⟨0,rfl,.inr ⟨rfl,h⟩⟩
theorem Xyn {x : Nat} (hx : x<18446744073709551616) : C0 289 [.d (.int .u64 x)] (·=.d (.int .i64 (bl x))):=by
 refine En Tryz.func289 fun _ _ _=>?_
 refine Cu none (fun ((x1,n1) : Nat × Nat)=>[(0,.d (.int .u64 x1)),(2,.d (.int .i64 n1))]) (fun _=>[]) (fun (x1,n1)=>x1<4294967296∧bl x=bl x1+n1∧n1≤32) rfl ?_ fun ⟨x0,n0⟩ ⟨hx0,hb0,hn0⟩=>?_
 · refine By rfl (fun h=>?_) fun h=>?_
   · refine Ar (x / 2 ^ 32 : Nat) rfl ?_ (Xhz (n:=32) (by decide))
     exact Jn (x / 2 ^ 32,32) [] rfl ⟨by omega,Xd8 (by omega),W0a _⟩
   · exact Jn (x,0) [] rfl ⟨by omega,rfl,by omega⟩
 refine Cu none (fun ((x1,n1) : Nat × Nat)=>[(0,.d (.int .u64 x1)),(2,.d (.int .i64 n1))]) (fun _=>[]) (fun (x1,n1)=>x1<65536∧bl x=bl x1+n1∧n1≤48) rfl ?_ fun ⟨x1,n1⟩ ⟨hx1,hb1,hn1⟩=>?_
 · refine By rfl (fun h=>?_) fun h=>?_
   · refine Ar (x0 / 2 ^ 16 : Nat) rfl ?_ (Xhz (n:=16) (by decide))
     refine Ar (n0+16 : Nat) rfl ?_
     exact Jn (x0 / 2 ^ 16,n0+16) [] rfl ⟨by omega,by rw [hb0,Xd8 (n:=x0) (k:=16) (by omega)];omega,by omega⟩
   · exact Jn (x0,n0) [] rfl ⟨by omega,hb0,by omega⟩
 refine Cu none (fun ((x1,n1) : Nat × Nat)=>[(0,.d (.int .u64 x1)),(2,.d (.int .i64 n1))]) (fun _=>[]) (fun (x1,n1)=>x1<256∧bl x=bl x1+n1∧n1≤56) rfl ?_ fun ⟨x2,n2⟩ ⟨hx2,hb2,hn2⟩=>?_
 · refine By rfl (fun h=>?_) fun h=>?_
   · refine Ar (x1 / 2 ^ 8 : Nat) rfl ?_ (Xhz (n:=8) (by decide))
     refine Ar (n1+8 : Nat) rfl ?_
     exact Jn (x1 / 2 ^ 8,n1+8) [] rfl ⟨by omega,by rw [hb1,Xd8 (n:=x1) (k:=8) (by omega)];omega,by omega⟩
   · exact Jn (x1,n1) [] rfl ⟨by omega,hb1,by omega⟩
 have hbl : bl x2<256:=W0q (Yaa (p:=fun j=>bl j<10) (by decide +kernel) x2 hx2) (by decide)
 refine Go.Vm.Cv x2 rfl ?_
 refine Yx x2 (UInt8.ofNat (bl x2)) rfl (by revert hx2;generalize x2=j;revert j;decide +kernel) ?_
 refine Go.Vm.Cv (bl x2 : Nat) rfl ?_ ((wI ⟨by omega,by rw [Xv5 hbl];omega⟩).trans (Xv5 hbl))
 refine Ar (bl x : Nat) rfl ?_
 exact R0
theorem Xk7 {x : Nat} (h1 : 100≤x) (hx : x<1000000000) : C0 243 [.d (.int .u64 x)] (·=.d (.int .i64 (dec x).length)):=by
 obtain ⟨b1,b2,b3⟩:=Xb2 (n:=x) (by omega)
 have hb7 : 7≤bl x:=by
  have : 2 ^ 6<2 ^ bl x:=W1q (by omega) b2
  have:=(W2x (by decide : 1<2)).1 this
  omega
 have hb30 : bl x≤30:=by
  have : 2 ^ (bl x - 1)<2 ^ 30:=W1q b1 (by omega)
  have:=(W2x (by decide : 1<2)).1 this
  omega
 obtain ⟨t,ht⟩ : ∃ t,t=bl x*78913 / 262144:=⟨_,rfl⟩
 have ht9 : t≤9:=by omega
 have key : 10 ^ (t - 1)≤x∧x<10 ^ (t+1)∧1≤t:=by
  have hc : ∀ b,b≤30→7≤b→10 ^ (b*78913 / 262144 - 1)≤2 ^ (b - 1)∧2 ^ b≤10 ^ (b*78913 / 262144+1)∧1≤b*78913 / 262144:=by decide +kernel
  obtain ⟨c1,c2,c3⟩:=hc (bl x) hb30 hb7
  rw [←ht] at c1 c2 c3
  exact ⟨W0j c1 b1,W0q b2 c2,c3⟩
 refine En Tryz.func243 fun _ _ _=>?_
 refine Ce rfl (Xyn (by omega)) ?_
 refine Ce rfl (show C0 _ _ (·=.d (.int .i64 (t : Nat))) by rw [ht];exact Xk9 (by omega)) ?_
 refine Gx t .u64 ((10 ^ t : Nat) : Int) rfl (by omega) (fun W h=>h t (by omega)) ?_ ?_
 · have : 10 ^ t≤10 ^ 9:=W0m (by decide) ht9
   exact wr rfl (by simp only [inK];omega)
 refine Ca rfl (C.nb Xyc) fun v hv=>?_
 obtain ⟨n,rfl,hn⟩:=hv
 refine Ar ((dec x).length : Nat) rfl ?_ ?_
 · exact R0
 · refine wr ?_ ?_
   · rcases hn with ⟨rfl,hp⟩ | ⟨rfl,hp⟩
     · have:=Xel t x key.2.1
       have:=Xd6 t x (by omega)
       omega
     · have h3:=Xel (t - 1) x (by rw [show t - 1+1=t by omega];omega)
       have h4:=Xd6 (t - 1) x key.1
       omega
   · have:=Xel 9 x (by omega)
     simp only [inK];omega
end
section
def dgs : Nat→Nat→List UInt8
 | 0,_=>[]
 | w+1,n=>dgs w (n / 10)++[UInt8.ofNat (48+n % 10)]
theorem Ycs (w n : Nat) : dgs (w+2) n=dgs w (n / 100)++d2 (n % 100):=by
 rw [dgs,dgs,W6b,d2,show n / 10 % 10=n % 100 / 10 by omega,show n % 10=n % 100 % 10 by omega]
 simp
theorem Xus (n : Nat) : dgs (dec n).length n=dec n:=by
 induction n using Nat.strongRecOn with
 | ind n ih =>
  by_cases h : n<10
  · rw [Xc4 h];show dgs 1 n=_;rw [dgs,dgs,W3p h];rfl
  · rw [Xe6 (by omega),W0d];show dgs (_+1) n=_
    rw [dgs,ih _ (by omega)]
def b8 (b : UInt8) : D:=.int .u8 b.toNat
theorem Xu9 : ∀ l : List UInt8,Xya (l.map b8)=some l
 | []=>rfl
 | b::l=>by
  show (match Xya (l.map b8) with | some s=>some (UInt8.ofNat ((b.toNat : Int)).toNat::s) | none=>none)=_
  rw [Xu9 l];simp
theorem st1 {z acc : List UInt8} {i j : Nat} {a : UInt8} (h1 : j+1=i) (h2 : i≤z.length) : ((z.take i++acc).map b8).set j (b8 a)=(z.take j++a::acc).map b8:=by
 subst h1
 rw [←List.map_set]
 congr 1
 apply W6v
 intro k
 by_cases hk : k<j
 · rw [W2a (by omega),W1a (by simp;omega),W1a (by simp;omega),W1l,W1l,if_pos (by omega),if_pos (by omega)]
 · by_cases hk2 : k=j
   · subst hk2
     rw [W3g (by simp;omega),W0o (by simp;omega)]
     have : k - (List.take k z).length=0:=by simp;omega
     rw [this];rfl
   · obtain ⟨q,rfl⟩ : ∃ q,k=j+1+q:=⟨k - (j+1),by omega⟩
     rw [W2a (by omega),W0o (by simp;omega),W0o (by simp;omega)]
     have e1 : j+1+q - (List.take (j+1) z).length=q:=by simp;omega
     have e2 : j+1+q - (List.take j z).length=q+1:=by simp;omega
     rw [e1,e2];simp
def Ykk (l : List UInt8) : Prop:=∀ v,v<100→l[v*2+1]?=some (UInt8.ofNat (48+v % 10))∧l[v*2]?=some (UInt8.ofNat (48+v / 10))
instance (l : List UInt8) : Decidable (Ykk l):=inferInstanceAs (Decidable (∀ v,v<100→_))
theorem quN {k : IntKind} {a b r : Nat} (hb : b≠0) (h : a / b=r) (hk : inK k (r : Int)) : arB .quo k (a : Int) (b : Int) (r : Int):=show _∧_ from ⟨by omega,wr (by subst h;rfl) hk⟩
theorem reN {k : IntKind} {a b r : Nat} (hb : b≠0) (h : a % b=r) : arB .rem k (a : Int) (b : Int) (r : Int):=show _∧_ from ⟨by omega,by subst h;rfl⟩
theorem tbl : Ykk (List.flatten ((List.range 100).map d2)):=by decide +kernel
theorem Stb {c : Cx} {s : St} {p : Pl} {q j : Nat} {xs : List D} {z : Int} (a : UInt8) {zs : List D} (h : Yi7 c.tb c.n s=some (p,q,1,xs,j,.int .u8 z)) (hj : j<xs.length) (hz : xs.set j (b8 a)=zs) (k : p.nx' c (.ub True) [(q,.arr 1 zs)]) (hza : z=(a.toNat : Int):=by exact rfl) : StP c s:=by
 subst hza
 exact Sto h hj hz k
theorem Xhj {nd x : Nat} {z0 : List UInt8} (h1 : nd≤9) (hx : x<1000000000) (hxn : x<10 ^ nd) (hz0 : nd≤z0.length) (hz24 : z0.length<1000) :
 CW0 244 [.own 1000001 1 0 nd,.d (.int .u64 x)] [(1000001,.arr 1 (z0.map b8))] fun v H'=>H'=[(1000001,.arr 1 ((dgs nd x++z0.drop nd).map b8))]:=by
 refine EnW Tryz.func244 fun _ _ _ _=>?_
 refine Lo (fun ((i,u,acc) : Nat × Nat × List UInt8)=>[(0,.own 1000001 1 0 nd),(1,.d (.int .u64 u)),(4,.d (.int .i64 i))]) (fun (i,_,acc)=>[(1000001,.arr 1 ((z0.take i++acc).map b8))])
  (fun (i,u,acc)=>i≤nd∧u<10 ^ i∧u<1000000000∧dgs i u++acc=dgs nd x++z0.drop nd) (fun (i,_,_)=>i) (nd,x,z0.drop nd) [] rfl ⟨W0a _,hxn,hx,rfl⟩ ?_ (by exact ⟨rfl,by simp only [W4h];rfl,rfl,rfl,rfl⟩)
 rintro ⟨i,u,acc⟩ ⟨hi,hu,hu9,hI⟩
 refine By rfl (fun h=>?_) fun h=>?_
 · obtain ⟨v,hv⟩ : ∃ v,v=u % 100000000:=⟨_,rfl⟩
   obtain ⟨t6,ht6⟩ : ∃ t,t=v / 10000:=⟨_,rfl⟩
   obtain ⟨t7,ht7⟩ : ∃ t,t=v % 10000:=⟨_,rfl⟩
   obtain ⟨v0,hv0⟩ : ∃ w,w=t7 % 100:=⟨_,rfl⟩
   obtain ⟨v1,hv1⟩ : ∃ w,w=t7 / 100:=⟨_,rfl⟩
   obtain ⟨v2,hv2⟩ : ∃ w,w=t6 % 100:=⟨_,rfl⟩
   obtain ⟨v3,hv3⟩ : ∃ w,w=t6 / 100:=⟨_,rfl⟩
   have Bv0 : v0<100:=by omega
   have Bv1 : v1<100:=by omega
   have Bv2 : v2<100:=by omega
   have Bv3 : v3<100:=by omega
   refine Ar (v : Nat) rfl ?_ (reN (b:=100000000) (by decide) hv.symm)
   refine Go.Vm.Cv v rfl ?_
   refine Ar (u / 100000000 : Nat) rfl ?_ (quN (b:=100000000) (by decide) rfl (by simp only [inK];omega))
   refine Ar t6 rfl ?_ (quN (b:=10000) (by decide) ht6.symm (by simp only [inK];omega))
   refine Ar t7 rfl ?_ (reN (b:=10000) (by decide) ht7.symm)
   refine Ar v1 rfl ?_ (quN (b:=100) (by decide) hv1.symm (by simp only [inK];omega))
   refine Ar (v1*2 : Nat) rfl ?_
   refine Ar v0 rfl ?_ (reN (b:=100) (by decide) hv0.symm)
   refine Ar (v0*2 : Nat) rfl ?_
   refine Ar v3 rfl ?_ (quN (b:=100) (by decide) hv3.symm (by simp only [inK];omega))
   refine Ar (v3*2 : Nat) rfl ?_
   refine Ar v2 rfl ?_ (reN (b:=100) (by decide) hv2.symm)
   refine Ar (v2*2 : Nat) rfl ?_
   refine Dw rfl ?_
   refine Ar ((i - 1 : Nat) : Int) rfl ?_
   refine Ar ((i - 2 : Nat) : Int) rfl ?_
   refine Ar ((v0*2+1 : Nat) : Int) rfl ?_
   refine Yx (v0*2+1) (UInt8.ofNat (48+v0 % 10)) rfl (tbl v0 Bv0).1 ?_
   refine Yx (v0*2) (UInt8.ofNat (48+v0 / 10)) rfl (tbl v0 Bv0).2 ?_
   refine Eo (i - 1) rfl (by omega) ?_
   refine Stb (UInt8.ofNat (48+v0 % 10)) rfl (by simp only [W0h,W0d,W0i,W0l];omega) (st1 (by omega) (by omega)) ?_
   refine Eo (i - 2) rfl (by omega) ?_
   refine Stb (UInt8.ofNat (48+v0 / 10)) rfl (by simp only [W0h,W0d,W0i,W0l];omega) (st1 (by omega) (by omega)) ?_
   refine Dw rfl ?_
   refine Ar ((i - 3 : Nat) : Int) rfl ?_
   refine Ar ((i - 4 : Nat) : Int) rfl ?_
   refine Ar ((v1*2+1 : Nat) : Int) rfl ?_
   refine Yx (v1*2+1) (UInt8.ofNat (48+v1 % 10)) rfl (tbl v1 Bv1).1 ?_
   refine Yx (v1*2) (UInt8.ofNat (48+v1 / 10)) rfl (tbl v1 Bv1).2 ?_
   refine Eo (i - 3) rfl (by omega) ?_
   refine Stb (UInt8.ofNat (48+v1 % 10)) rfl (by simp only [W0h,W0d,W0i,W0l];omega) (st1 (by omega) (by omega)) ?_
   refine Eo (i - 4) rfl (by omega) ?_
   refine Stb (UInt8.ofNat (48+v1 / 10)) rfl (by simp only [W0h,W0d,W0i,W0l];omega) (st1 (by omega) (by omega)) ?_
   refine Dw rfl ?_
   refine Ar ((i - 5 : Nat) : Int) rfl ?_
   refine Ar ((i - 6 : Nat) : Int) rfl ?_
   refine Ar ((v2*2+1 : Nat) : Int) rfl ?_
   refine Yx (v2*2+1) (UInt8.ofNat (48+v2 % 10)) rfl (tbl v2 Bv2).1 ?_
   refine Yx (v2*2) (UInt8.ofNat (48+v2 / 10)) rfl (tbl v2 Bv2).2 ?_
   refine Eo (i - 5) rfl (by omega) ?_
   refine Stb (UInt8.ofNat (48+v2 % 10)) rfl (by simp only [W0h,W0d,W0i,W0l];omega) (st1 (by omega) (by omega)) ?_
   refine Eo (i - 6) rfl (by omega) ?_
   refine Stb (UInt8.ofNat (48+v2 / 10)) rfl (by simp only [W0h,W0d,W0i,W0l];omega) (st1 (by omega) (by omega)) ?_
   refine Dw rfl ?_
   refine Ar ((i - 7 : Nat) : Int) rfl ?_
   refine Ar ((i - 8 : Nat) : Int) rfl ?_
   refine Ar ((v3*2+1 : Nat) : Int) rfl ?_
   refine Yx (v3*2+1) (UInt8.ofNat (48+v3 % 10)) rfl (tbl v3 Bv3).1 ?_
   refine Yx (v3*2) (UInt8.ofNat (48+v3 / 10)) rfl (tbl v3 Bv3).2 ?_
   refine Eo (i - 7) rfl (by omega) ?_
   refine Stb (UInt8.ofNat (48+v3 % 10)) rfl (by simp only [W0h,W0d,W0i,W0l];omega) (st1 (by omega) (by omega)) ?_
   refine Eo (i - 8) rfl (by omega) ?_
   refine Stb (UInt8.ofNat (48+v3 / 10)) rfl (by simp only [W0h,W0d,W0i,W0l];omega) (st1 (by omega) (by omega)) ?_
   refine Ar ((i - 8 : Nat) : Int) rfl ?_
   refine Bk (i - 8,u / 100000000,d2 v3++(d2 v2++(d2 v1++(d2 v0++acc)))) [] rfl ⟨by omega,?_,by omega,?_⟩ (by show i - 8<i;omega) (by exact ⟨rfl,rfl,rfl,rfl,rfl⟩)
   · obtain ⟨q,rfl⟩ : ∃ q,i=q+8:=⟨i - 8,by omega⟩
     rw [W0t] at hu
     rw [W3c]
     exact W3y (by rw [W1c];exact hu)
   · obtain ⟨q,rfl⟩ : ∃ q,i=q+8:=⟨i - 8,by omega⟩
     rw [W3c,←hI,show q+8=q+6+2 from rfl,Ycs,show q+6=q+4+2 from rfl,Ycs,show q+4=q+2+2 from rfl,Ycs,Ycs]
     rw [show u / 100 / 100 / 100 / 100=u / 100000000 by omega,show u % 100=v0 by omega,show u / 100 % 100=v1 by omega,show u / 100 / 100 % 100=v2 by omega,show u / 100 / 100 / 100 % 100=v3 by omega]
     simp only [W2p]
 have hi8 : i<8:=by omega
 have hu8 : u<10 ^ 8:=W0q hu (W0m (by decide) (by omega))
 refine Go.Vm.Cv u rfl ?_
 refine Cu none (fun ((i,u,acc) : Nat × Nat × List UInt8)=>[(0,.own 1000001 1 0 nd),(12,.d (.int .u32 u)),(4,.d (.int .i64 i))]) (fun (i,_,acc)=>[(1000001,.arr 1 ((z0.take i++acc).map b8))])
  (fun (i,u,acc)=>i≤nd∧i<4∧u<10 ^ i∧dgs i u++acc=dgs nd x++z0.drop nd) rfl ?_ ?_
 · refine By rfl (fun h4=>?_) fun h4=>?_
   · obtain ⟨v,hv⟩ : ∃ v,v=u % 10000:=⟨_,rfl⟩
     obtain ⟨v0,hv0⟩ : ∃ w,w=v % 100:=⟨_,rfl⟩
     obtain ⟨v1,hv1⟩ : ∃ w,w=v / 100:=⟨_,rfl⟩
     have Bv0 : v0<100:=by omega
     have Bv1 : v1<100:=by omega
     refine Ar (v : Nat) rfl ?_ (reN (b:=10000) (by decide) hv.symm)
     refine Ar (u / 10000 : Nat) rfl ?_ (quN (b:=10000) (by decide) rfl (by simp only [inK];omega))
     refine Ar v1 rfl ?_ (quN (b:=100) (by decide) hv1.symm (by simp only [inK];omega))
     refine Ar (v1*2 : Nat) rfl ?_
     refine Ar v0 rfl ?_ (reN (b:=100) (by decide) hv0.symm)
     refine Ar (v0*2 : Nat) rfl ?_
     refine Dw rfl ?_
     refine Ar ((i - 1 : Nat) : Int) rfl ?_
     refine Ar ((i - 2 : Nat) : Int) rfl ?_
     refine Ar ((v0*2+1 : Nat) : Int) rfl ?_
     refine Yx (v0*2+1) (UInt8.ofNat (48+v0 % 10)) rfl (tbl v0 Bv0).1 ?_
     refine Yx (v0*2) (UInt8.ofNat (48+v0 / 10)) rfl (tbl v0 Bv0).2 ?_
     refine Eo (i - 1) rfl (by omega) ?_
     refine Stb (UInt8.ofNat (48+v0 % 10)) rfl (by simp only [W0h,W0d,W0i,W0l];omega) (st1 (by omega) (by omega)) ?_
     refine Eo (i - 2) rfl (by omega) ?_
     refine Stb (UInt8.ofNat (48+v0 / 10)) rfl (by simp only [W0h,W0d,W0i,W0l];omega) (st1 (by omega) (by omega)) ?_
     refine Dw rfl ?_
     refine Ar ((i - 3 : Nat) : Int) rfl ?_
     refine Ar ((i - 4 : Nat) : Int) rfl ?_
     refine Ar ((v1*2+1 : Nat) : Int) rfl ?_
     refine Yx (v1*2+1) (UInt8.ofNat (48+v1 % 10)) rfl (tbl v1 Bv1).1 ?_
     refine Yx (v1*2) (UInt8.ofNat (48+v1 / 10)) rfl (tbl v1 Bv1).2 ?_
     refine Eo (i - 3) rfl (by omega) ?_
     refine Stb (UInt8.ofNat (48+v1 % 10)) rfl (by simp only [W0h,W0d,W0i,W0l];omega) (st1 (by omega) (by omega)) ?_
     refine Eo (i - 4) rfl (by omega) ?_
     refine Stb (UInt8.ofNat (48+v1 / 10)) rfl (by simp only [W0h,W0d,W0i,W0l];omega) (st1 (by omega) (by omega)) ?_
     refine Ar ((i - 4 : Nat) : Int) rfl ?_
     refine Jn (i - 4,u / 10000,d2 v1++(d2 v0++acc)) [] rfl ⟨by omega,by omega,?_,?_⟩
     · obtain ⟨q,rfl⟩ : ∃ q,i=q+4:=⟨i - 4,by omega⟩
       rw [W0t] at hu
       rw [W3c]
       exact W3y (by rw [W1c];exact hu)
     · obtain ⟨q,rfl⟩ : ∃ q,i=q+4:=⟨i - 4,by omega⟩
       rw [W3c,←hI,show q+4=q+2+2 from rfl,Ycs,Ycs]
       rw [show u / 100 / 100=u / 10000 by omega,show u % 100=v0 by omega,show u / 100 % 100=v1 by omega]
       simp only [W2p]
   · exact Jn (i,u,acc) [] rfl ⟨hi,by omega,hu,hI⟩
 clear hu8 hi8 h hI hu9 hu hi acc u i
 rintro ⟨i,u,acc⟩ ⟨hi,hi4,hu,hI⟩
 have hu4 : u<10 ^ 4:=W0q hu (W0m (by decide) (by omega))
 refine Cu none (fun ((i,u,acc) : Nat × Nat × List UInt8)=>[(0,.own 1000001 1 0 nd),(12,.d (.int .u32 u)),(4,.d (.int .i64 i))]) (fun (i,_,acc)=>[(1000001,.arr 1 ((z0.take i++acc).map b8))])
  (fun (i,u,acc)=>i≤nd∧i<2∧u<10 ^ i∧dgs i u++acc=dgs nd x++z0.drop nd) rfl ?_ ?_
 · refine By rfl (fun h4=>?_) fun h4=>?_
   · obtain ⟨v0,hv0⟩ : ∃ w,w=u % 100:=⟨_,rfl⟩
     have Bv0 : v0<100:=by omega
     refine Ar v0 rfl ?_ (reN (b:=100) (by decide) hv0.symm)
     refine Ar (v0*2 : Nat) rfl ?_
     refine Ar (u / 100 : Nat) rfl ?_ (quN (b:=100) (by decide) rfl (by simp only [inK];omega))
     refine Dw rfl ?_
     refine Ar ((i - 1 : Nat) : Int) rfl ?_
     refine Ar ((i - 2 : Nat) : Int) rfl ?_
     refine Ar ((v0*2+1 : Nat) : Int) rfl ?_
     refine Yx (v0*2+1) (UInt8.ofNat (48+v0 % 10)) rfl (tbl v0 Bv0).1 ?_
     refine Yx (v0*2) (UInt8.ofNat (48+v0 / 10)) rfl (tbl v0 Bv0).2 ?_
     refine Eo (i - 1) rfl (by omega) ?_
     refine Stb (UInt8.ofNat (48+v0 % 10)) rfl (by simp only [W0h,W0d,W0i,W0l];omega) (st1 (by omega) (by omega)) ?_
     refine Eo (i - 2) rfl (by omega) ?_
     refine Stb (UInt8.ofNat (48+v0 / 10)) rfl (by simp only [W0h,W0d,W0i,W0l];omega) (st1 (by omega) (by omega)) ?_
     refine Ar ((i - 2 : Nat) : Int) rfl ?_
     refine Jn (i - 2,u / 100,d2 v0++acc) [] rfl ⟨by omega,by omega,?_,?_⟩
     · obtain ⟨q,rfl⟩ : ∃ q,i=q+2:=⟨i - 2,by omega⟩
       rw [W0t] at hu
       rw [W3c]
       exact W3y (by rw [W1c];exact hu)
     · obtain ⟨q,rfl⟩ : ∃ q,i=q+2:=⟨i - 2,by omega⟩
       rw [W3c,←hI,Ycs,←hv0]
       simp only [W2p]
   · exact Jn (i,u,acc) [] rfl ⟨hi,by omega,hu,hI⟩
 clear hu4 hi4 hI hu hi acc u i
 rintro ⟨i,u,acc⟩ ⟨hi,hi2,hu,hI⟩
 refine By rfl (fun h4=>?_) fun h4=>?_
 · have : i=1:=by omega
   subst this
   have hu1 : u<10:=by simpa using hu
   refine Ar (48+u : Nat) rfl ?_
   refine Go.Vm.Cv (48+u : Nat) rfl ?_
   refine Eo 0 rfl (by omega) ?_
   refine Stb (UInt8.ofNat (48+u)) rfl (by simp only [W0h,W0d,W0i];omega) (st1 (i:=1) rfl (by omega)) ?_ (by rw [dg hu1])
   refine Rw [] [(1000001,.arr 1 ((z0.take 0++UInt8.ofNat (48+u)::acc).map b8))] rfl (.tup (.one (.rf rfl) (fun _ _ e=>by cases e) (fun _ _ e=>by cases e))) ?_
   rw [←hI,dgs,dgs,W3p hu1];rfl
 · have : i=0:=by omega
   subst this
   refine Rw [] [(1000001,.arr 1 ((z0.take 0++acc).map b8))] rfl (.tup (.one (.rf rfl) (fun _ _ e=>by cases e) (fun _ _ e=>by cases e))) ?_
   rw [←hI,dgs];rfl
end
section
theorem Xkk {x : Nat} (hx : x<1000000000) : C0 103 [.d (.int .u64 x),.d (.int .i64 10)] (·=.d (.str (dec x))):=by
 have h1 : C0 167 [.d (.int .u64 x),.d (.int .i64 10)] (·=.d (.str (dec x))):=by
  refine En Tryz.func167 fun _ _ _=>?_
  refine Yes rfl rfl ?_
  refine By rfl (fun h=>?_) fun h=>?_
  · refine Go.Vm.Cv x rfl ?_
    refine Ce rfl (Xwi (by omega)) ?_
    exact R0
  · have hl:=Xel 8 x hx
    have hg:=Xd6 2 x (by omega)
    refine Va 5 5 900 24 ((List.replicate 24 (0 : UInt8)).map b8) rfl rfl (by decide) rfl ?_
    refine Ce rfl (Xk7 (by omega) hx) ?_
    refine Sp (dec x).length rfl (by omega) (by decide) ?_ (by decide)
    refine Cw (args:=[.own 1000001 1 0 (dec x).length,.d (.int .u64 x)]) [(1000001,900)] rfl (Xhj (z0:=List.replicate 24 (0 : UInt8)) hl hx (Ygr x) (by simp;omega) (by simp)) (fun v H' _ hv=>?_) rfl
    subst hv
    refine Sp (dec x).length rfl (by omega) (by decide) ?_ (by decide)
    refine Bo (dec x) rfl ?_ ?_ ?_
    · simp [Xus]
    · rw [Xus]
      simp only [W0z]
      rw [←W3q,W7l rfl,Xu9]
    · exact R0
 refine En Tryz.func103 fun _ _ _=>?_
 refine Ce rfl h1 ?_
 exact R0
end
section
theorem Xde {s t : List UInt8} (hs : Tx s) (ht : Tx t) : C0 105 [.d (.str s),.d (.str t)] (·=.b (dc (s.take t.length=t))):=by
 refine En Tryz.func105 fun _ _ _=>?_
 refine Ce rfl (Xfy hs ht) ?_
 exact R0
theorem Ydn {n : Nat} (hn : n<65) : C0 104 [.d (.int .u64 1),.d (.int .u64 n)] (·=.tup (.pr (.d (.int .u64 0)) (.d (.int .u64 n)))):=by
 have h1 : C0 169 [.d (.int .u64 1),.d (.int .u64 n)] (·=.tup (.pr (.d (.int .u64 0)) (.d (.int .u64 n)))):=by
  refine En Tryz.func169 fun _ _ _=>?_
  refine Ar 1 rfl ?_ (by simp only [arB];decide +kernel)
  refine Ar 0 rfl ?_ (by simp only [arB];decide +kernel)
  refine Ar n rfl ?_ (by simp only [arB];revert hn;generalize n=j;revert j;decide +kernel)
  refine Ar 0 rfl ?_ (by simp only [arB];revert hn;generalize n=j;revert j;decide +kernel)
  refine Ar n rfl ?_
  refine Ar 0 rfl ?_
  refine Ar 0 rfl ?_ (by simp only [arB];revert hn;generalize n=j;revert j;decide +kernel)
  refine Ar 0 rfl ?_
  refine Ar 0 rfl ?_ (by simp only [arB];decide +kernel)
  refine Ar 0 rfl ?_ (by simp only [arB];decide +kernel)
  refine Ar 0 rfl ?_
  refine Ar 0 rfl ?_
  refine Ar 0 rfl ?_
  refine Ar 0 rfl ?_
  refine Ar 0 rfl ?_ (by simp only [arB];decide +kernel)
  refine Ar 0 rfl ?_
  refine Ar n rfl ?_
  exact R0t
 refine En Tryz.func104 fun _ _ _=>?_
 refine Ce rfl h1 ?_
 exact R0t
theorem Xi2 {n : Nat} (hn : n<65) : C0 56 [.d (.str [48]),.d (.int .i64 n)] (·=.d (.str (List.replicate n 48))):=by
 refine En Tryz.func56 fun _ _ _=>?_
 refine By rfl (fun h=>?_) fun h=>?_
 · have : n=0:=by omega
   subst this;exact R1 rfl (.eq rfl)
 refine By rfl (fun h1=>?_) fun h1=>?_
 · have : n=1:=by omega
   subst this;exact R1 rfl (.eq rfl)
 refine No rfl (by omega) ?_
 refine Go.Vm.Cv 1 rfl ?_ (by decide)
 refine Go.Vm.Cv n rfl ?_
 refine Ce rfl (Ydn hn) ?_
 refine No rfl (by decide) ?_
 refine No rfl (by omega) ?_
 refine Go.Vm.Cv n rfl ?_
 refine No rfl (by decide) ?_
 refine Yx 0 48 rfl rfl ?_
 refine No rfl (by decide) ?_
 refine No rfl (by decide) ?_
 refine Yes rfl (by decide) ?_
 refine Yes rfl (by omega) ?_
 refine Ce rfl (Xde (by decide) (by decide)) ?_
 refine No rfl (by decide) ?_
 refine Yes rfl (by omega) ?_
 refine Ce rfl (Xde (by decide) (by decide)) ?_
 refine No rfl (by decide) ?_
 refine Yes rfl (by omega) ?_
 refine Ce rfl (Xde (by decide) (by decide)) ?_
 refine Yes rfl (by decide) ?_
 refine Stk n (List.replicate n 48) rfl (by simp;omega) ?_ ?_
 · clear h h1
   revert hn;generalize n=j;revert j;decide +kernel
 · exact R0
end
section
theorem Xkj (s : ByteArray) (c : Int) (w : World) : Calls Tryz.prog 198 #[.string s,.int .u8 c] w fun e w'=>e=.returned (.int .i64 (Lib.indexByte s.data.toList c.toNat.toUInt8))∧w'=w:=by
 go_enter Tryz.func198,Tryz.ntmps198
 go_wp2
 rw [run_callFunc_extern Tryz.func265 (by kernel_rfl) (by kernel_rfl) (by kernel_rfl) (e:=Extern.BytealgIndexByte.indexByte) (by kernel_rfl),Lib.run_indexByteString]
 simp only [Result.andThen]
 rw [Oper.upon_value]
 go_wp2
 go_ret
 exact ⟨rfl,rfl⟩
theorem Yb6 {b : UInt8} : ∀ {s : List UInt8},b ∉ s→Lib.indexByte s b=-1
 | [],_=>rfl
 | x::s,h=>by
  rw [W1o,not_or] at h
  have:=Yb6 h.2
  rw [Lib.indexByte,this]
  rw [if_neg (by simpa using fun e=>h.1 e.symm)];rfl
theorem Xxc {b : UInt8} {t : List UInt8} : ∀ {u : List UInt8},b ∉ u→Lib.indexByte (u++b::t) b=u.length
 | [],_=>by simp [Lib.indexByte]
 | x::u,h=>by
  rw [W1o,not_or] at h
  have:=Xxc (t:=t) h.2
  rw [W3j,Lib.indexByte,this]
  rw [if_neg (by simpa using fun e=>h.1 e.symm),if_neg (by rw [beq_iff_eq];omega)]
  simp
theorem Xtm (b : UInt8) : ∀ s : List UInt8,b ∉ s∨∃ u t,s=u++b::t∧b ∉ u
 | []=>.inl (by simp)
 | x::s=>by
  by_cases h : x=b
  · subst h;exact .inr ⟨[],s,rfl,by simp⟩
  · rcases Xtm b s with h1 | ⟨u,t,h1,h2⟩
    · exact .inl (by rw [W1o,not_or];exact ⟨fun e=>h e.symm,h1⟩)
    · exact .inr ⟨x::u,t,by rw [h1];rfl,by rw [W1o,not_or];exact ⟨fun e=>h e.symm,h2⟩⟩
theorem Xmd {s : List UInt8} {b : UInt8} (hs : Tx s) : C0 198 [.d (.str s),.d (.int .u8 b.toNat)] (·=.d (.int .i64 (Lib.indexByte s b))):=by
 refine ⟨⟨_,Tryz.func198,rfl,rfl⟩,fun W vs _ ha=>?_⟩
 match vs,ha with
 | [v,u],ha =>
  obtain ⟨rfl,_⟩:=Xh9 ha.1
  obtain ⟨rfl,_⟩:=Xci ha.2.1
  refine (Xkj _ _ W.w).mono ?_
  rintro e w' ⟨rfl,rfl⟩
  have e1 : ((b.toNat : Int).toNat).toUInt8=b:=by simp
  rw [e1]
  have h1:=Lib.indexByte_ge s b
  have h2 : Lib.indexByte s b<9223372036854775808:=by
   have hs : s.length<_:=hs
   rcases Xtm b s with h | ⟨u,t,h,h2⟩
   · rw [Yb6 h];decide
   · rw [h,Xxc h2];rw [h] at hs;simp at hs;omega
  refine ⟨W,.d (.int .i64 (Lib.indexByte s b)),_,rfl,rfl,Fm.refl _ _,?_,fun _ h=>h,rfl⟩
  exact Vm.int_V (by show IntKind.i64.wrap _=_;exact wI ⟨by omega,h2⟩)
theorem Xhx {s : List UInt8} {b : UInt8} {r : Int} (hs : Tx s) (hr : Lib.indexByte s b=r) : C0 137 [.d (.str s),.d (.str [b])] (·=.d (.int .i64 r)):=by
 subst hr
 refine En Tryz.func137 fun _ _ _=>?_
 refine No rfl (by simp) ?_
 refine Cu (some 0) (fun (_ : Unit)=>[]) (fun _=>[]) (fun _=>False) rfl ?_ fun _ h=>h.elim
 refine By rfl (fun h=>?_) fun h=>?_
 · subst h
   refine R1 rfl (.eq ?_)
   rw [Lib.indexByte];simp
 · refine Yes rfl (by simp) ?_
   refine Yx 0 b rfl rfl ?_
   refine Ce rfl (Xmd hs) ?_
   exact R0
theorem Yhr {s : List UInt8} {b : UInt8} (hs : Tx s) (h : b ∉ s) : C0 202 [.d (.str s),.d (.str [b])] (·=.tup (.pr (.d (.str s)) (.pr (.d (.str [])) (.b false)))):=by
 have h1 : C0 267 [.d (.str s),.d (.str [b])] (·=.tup (.pr (.d (.str s)) (.pr (.d (.str [])) (.b false)))):=by
  refine En Tryz.func267 fun _ _ _=>?_
  refine Ce rfl (Xhx hs (Yb6 h)) ?_
  refine No rfl (by decide) ?_
  exact R0t
 refine En Tryz.func202 fun _ _ _=>?_
 refine Ce rfl h1 ?_
 exact R0t
theorem Yhs {u t : List UInt8} {b : UInt8} (hs : Tx (u++b::t)) (h : b ∉ u) : C0 202 [.d (.str (u++b::t)),.d (.str [b])] (·=.tup (.pr (.d (.str u)) (.pr (.d (.str t)) (.b true)))):=by
 have hl : (u++b::t).length=u.length+(t.length+1):=by simp
 have hs' : (u++b::t).length<_:=hs
 have h1 : C0 267 [.d (.str (u++b::t)),.d (.str [b])] (·=.tup (.pr (.d (.str u)) (.pr (.d (.str t)) (.b true)))):=by
  refine En Tryz.func267 fun _ _ _=>?_
  refine Ce rfl (Xhx hs (Xxc h)) ?_
  refine Yes rfl (by omega) ?_
  refine Dw rfl ?_
  refine Stk u.length u rfl (by omega) (by simp) ?_
  refine Ar (u.length+1 : Nat) rfl ?_ (wr (by simp) (by simp only [inK];omega))
  refine Sdp (u.length+1) t rfl (by omega) (by simp) ?_
  exact R0t
 refine En Tryz.func202 fun _ _ _=>?_
 refine Ce rfl h1 ?_
 exact R0t
end
end Go.Proofs.YtdlhdemfnfpboaaGreatDoor
namespace Go.Vm
open Go
section
variable {c : Cx} {s : St} {p : Pl}
noncomputable def Ykr (tb : Nat→Option TI) (n : Nat) (s : St) : Option (Pl × Oper × Operand × Operand × TypeId × TI × Nat × List D):=match nxO tb n s with
 | some (p,o)=>match o.op,p.dr with
  | .call ⟨.builtin .append,⟨[x,y]⟩,⟨[T,T']⟩⟩,false=>match Nat.beq T T',Xco (look p.E) x,Xco (look p.E) y,tb T with
   | true,some .nil,some (.lit sz ys),some ti=>match ti.z,look p.H (o.dst.getD 0),Nat.ble ti.eb 128 with
    | .sl sz' _,none,true=>match Nat.beq sz sz' with
     | true=>some (p,o,x,y,T,ti,sz,ys)
     | false=>none
    | _,_,_=>none
   | _,_,_,_=>none
  | _,_=>none
 | none=>none
theorem ApW {o : Oper} {x y : Operand} {T : TypeId} {ti : TI} {sz : Nat} {ys : List D} (h : Ykr c.tb c.n s=some (p,o,x,y,T,ti,sz,ys)) (h0 : 0<ys.length) (hl : ys.length≤1099511627776) (k : p.nx' c (.own (o.dst.getD 0) sz 0 ys.length) [(o.dst.getD 0,.arr sz ys)]) : StP c s:=by
 unfold Ykr at h
 split at h <;> try cases h
 rename_i p' o' ho
 split at h <;> try cases h
 rename_i x' y' T1 T2 hop hdr
 split at h <;> try cases h
 rename_i sz1 ys1 ti1 hT hx hy hti
 have hT:=W0f hT
 subst hT
 split at h <;> try cases h
 rename_i sz2 zz hz hd hb
 split at h <;> cases h
 rename_i hsz
 have hsz:=W0f hsz
 subst hsz
 refine Xm0 ho (by unfold Xal;rw [hop];rfl) hdr (fun N W θ ρ _ hO hN hB hv=>?_) k
 obtain ⟨hk,_⟩:=c.hT _ _ hti
 obtain ⟨t,u1,_,u3⟩:=hk.u
 rw [hz] at u3
 obtain ⟨E,e,hszz,hez,ii,v0,i1,i2,i3,i4,i5⟩:=u3
 subst e
 obtain ⟨q,ex⟩:=Xke (hv _ _ hx)
 obtain ⟨q2,c2,news,ey,hk2,hnl,hnr,hn1,hna⟩:=Xy2 (z:=.sl sz []) (sz:=sz) hO (c:=.lit sz ys) (ys:=ys) (by simp [Xwd,toD]) (hv _ _ hy)
 rw [hszz] at hnl
 have hr : Xh3 (0+ys.length) ti:=by rw [W1n];exact Xd0 hl (W1x hb)
 have hrun:=Xeo (P:=c.P) (W:=W) (ty:=o.type) (ti:=ti) u1 i1 i2 i3 i4 i5 (p:=q) (m:=0) (c:=0) (k:=ys.length) (c2:=c2) (q:=q2) (olds:=[]) (news:=news) (W0a _) (.inl rfl) (by simp) (fun b _ j u hj=>by simp at hj) hnl hnr hn1 hr hk2
 rcases hrun with ⟨h1,_⟩ | ⟨_,h1,_⟩ | ⟨_,c',zs,h1,h2,h3,hrun⟩
 · omega
 · omega
 · simp only [W1n,W3s] at hrun h1 h3
   obtain ⟨W',θ',e1,e2,e3⟩:=Xg3 (W:=W.tick) (θ:=θ) (g:=(sem p.E p.H).2) (dd:=o.dst.getD 0) (E:=E) (sz:=sz) (xs:=ys) (cs:=news) (c:=c') (zs:=zs) (Stp.tick hO).obs hN hB hd (hna.mono (Xdj W)) (by rw [hnl,hszz]) h1 h2 (by rw [hszz];exact h3)
   refine ⟨W',θ',.value _,?_,(Stp.tick hO).trans e2,.inr ⟨_,rfl,e3⟩,fun i hi=>⟨_,by subst hi;exact Xaj _ _ _⟩⟩
   have h4 : execOp ρ o=(Builtin.append_ #[T,T] o.type #[ρ x,ρ y] >>= fun v=>pure (.value v)):=by
    simp [execOp,hop,resolve,invoke,builtin]
   rw [h4,Sem.run_bind,ex,ey,hrun,e1]
   rfl
noncomputable def Ykt (tb : Nat→Option TI) (n : Nat) (s : St) : Option (Pl × Oper × Operand × Nat × Nat):=match nxO tb n s with
 | some (p,o)=>match o.op,p.dr with
  | .nilCheck x,false=>match Xco (look p.E) x with
   | some (.ap q m)=>match look p.H q with
    | some _=>some (p,o,x,q,m)
    | none=>none
   | _=>none
  | _,_=>none
 | none=>none
theorem Nk {o : Oper} {x : Operand} {q m : Nat} (h : Ykt c.tb c.n s=some (p,o,x,q,m)) (k : p.nx c (.ap q m)) : StP c s:=by
 unfold Ykt at h
 split at h <;> try cases h
 rename_i p' o' ho
 split at h <;> try cases h
 rename_i x' hop hdr
 split at h <;> try cases h
 rename_i q' m' hx
 split at h <;> cases h
 rename_i hH
 refine Xm0 (us:=[]) ho (by unfold Xal;rw [hop];rfl) hdr (fun N W θ ρ _ hO hN hB hv=>?_) (Pl.nx_nil k)
 obtain ⟨cs,⟨b,f1,f2,f3⟩,f4⟩:=hv _ _ hx
 subst f3
 have f4 : ρ x=.pointer (some ⟨b,0,none⟩):=f4
 refine .val (u:=.pointer (some ⟨b,0,none⟩)) hO ?_ ⟨_,⟨b,f1,f2,rfl⟩,rfl⟩ (fun i hi=>by subst hi;exact ⟨_,hH⟩)
 simp only [execOp,hop,f4];rfl
noncomputable def Ykz (tb : Nat→Option TI) (n : Nat) (s : St) : Option (Pl × Oper × TypeId × Operand × Operand × Nat × Nat × Int):=match nxO tb n s with
 | some (p,o)=>match o.op,p.dr with
  | .indexAddr T x y,false=>match Xco (look p.E) x,Xco (look p.E) y,tb T with
   | some (.ap q m),some (.d (.int _ j)),some ⟨.st _,e,_,ar⟩=>match Nat.beq m ar,Nat.beq e.size 1,look p.H q with
    | true,true,some _=>some (p,o,T,x,y,q,m,j)
    | _,_,_=>none
   | _,_,_=>none
  | _,_=>none
 | none=>none
theorem Ea (j : Nat) {o : Oper} {T : TypeId} {x y : Operand} {q m : Nat} {i : Int} (h : Ykz c.tb c.n s=some (p,o,T,x,y,q,m,i)) (hj : j<m) (k : p.nx c (.el q 1 j 0)) (hi : i=(j : Int):=by first | exact rfl | omega) : StP c s:=by
 subst hi
 unfold Ykz at h
 split at h <;> try cases h
 rename_i p' o' ho
 split at h <;> try cases h
 rename_i T' x' y' hop hdr
 split at h <;> try cases h
 rename_i k2 zz e eb ar hx hy hti
 split at h <;> cases h
 rename_i hes hH hma
 have hma:=W0f hma
 subst hma
 have hes:=W0f hes
 refine Xm0 (us:=[]) ho (by unfold Xal;rw [hop];rfl) hdr (fun N W θ ρ _ hO hN hB hv=>?_) (Pl.nx_nil k)
 obtain ⟨hk,_⟩:=c.hT _ _ hti
 obtain ⟨t,u1,_,u3⟩:=hk.u
 simp only [show ¬ m=0 from by omega,if_false] at u3
 obtain ⟨E,e1,i,v0,i1,i2,_⟩:=u3
 subst e1
 have i2 : i.size=1:=i2.trans hes
 obtain ⟨cs,⟨b,f1,f2,f3⟩,f4⟩:=hv _ _ hx
 subst f3
 have f4 : ρ x=.pointer (some ⟨b,0,none⟩):=f4
 obtain ⟨ey,_⟩:=Xci (hv _ _ hy)
 refine .val (u:=.pointer (some ⟨b,j,none⟩)) hO ?_ (by have:=Yh2 (sz:=1) (j:=j) (off:=0) (W:=W) f1;simpa using this) (fun i hi=>by subst hi;exact ⟨_,hH⟩)
 have hjl : (j : Int)<(m : Int):=by omega
 simp [execOp,hop,f4,ey,Instr.indexAt,Instr.sureAddr,asIntOf,sizeOf,typeInfo,underlying,program,bind,Sem.bind,Sem.run,pure,u1,i1,i2,hjl,hj,add0]
end
end Go.Vm

/- part 5 -/
import Derived.Test.YtclmecgphleeeaaGreatDoorXD
import Derived.Lib.AppendZeros
import Derived.Lib.Bytealg
import Derived.Shelf.Strings.AsciiSet
import Derived.RangeFuncLeaves
import Derived.ControlIn
import Derived.Shelf.Strings.BuilderK
import Derived.RangeFuncCalls
set_option linter.unusedVariables false
set_option linter.unusedSimpArgs false
set_option maxRecDepth 100000
set_option maxHeartbeats 4000000
namespace Go.Proofs.YtclmecgphleeeaaGreatDoor
open Go Go.Num Go.Tow Go.Vm
section
def lo2 (x y : Rat) : Rat:=if y<x then y else x
def hi2 (x y : Rat) : Rat:=if x<y then y else x
def Xvt (x : Rat) (r : List Rat) : Rat:=r.foldl lo2 x
def Xvu (x : Rat) (r : List Rat) : Rat:=r.foldl hi2 x
theorem Yf0 {s : Nat} {x y : Rat} (hx : Qs s x) (hy : Qs s y) : Qs s (lo2 x y):=by unfold lo2;split <;> assumption
theorem Ygi {s : Nat} {x y : Rat} (hx : Qs s x) (hy : Qs s y) : Qs s (hi2 x y):=by unfold hi2;split <;> assumption
theorem Xtd (x : Rat) (r : List Rat) (y : Rat) : Xvt x (r++[y])=lo2 (Xvt x r) y:=by simp [Xvt]
theorem Xti (x : Rat) (r : List Rat) (y : Rat) : Xvu x (r++[y])=hi2 (Xvu x r) y:=by simp [Xvu]
theorem Xte {s : Nat} {x : Rat} {r : List Rat} (h : ∀ y∈x::r,Qs s y) : Qs s (Xvt x r):=by
 induction r generalizing x with
 | nil=>exact h x (W0q ..)
 | cons y r ih=>exact ih (x:=lo2 x y) (fun z hz=>by
  rcases W1o.1 hz with rfl | hz
  · exact Yf0 (h x (W0q ..)) (h y (by simp))
  · exact h z (by simp [hz]))
theorem Xtj {s : Nat} {x : Rat} {r : List Rat} (h : ∀ y∈x::r,Qs s y) : Qs s (Xvu x r):=by
 induction r generalizing x with
 | nil=>exact h x (W0q ..)
 | cons y r ih=>exact ih (x:=hi2 x y) (fun z hz=>by
  rcases W1o.1 hz with rfl | hz
  · exact Ygi (h x (W0q ..)) (h y (by simp))
  · exact h z (by simp [hz]))
theorem Yc5 {x y : Rat} : Xmd x y<0↔x<y:=by
 unfold Xmd
 split
 · rename_i h;simp [h]
 · rename_i h
   split <;> simp [h]
theorem Yc7 {x y : Rat} : Xmd x y > 0↔y<x:=by
 rw [Xlr,←Yc5];omega
theorem Xsn {s : Nat} {x : Rat} {r : List Rat} (h : ∀ y∈x::r,Qs s y) (k : Nat) : ∀ y∈x::r.take k,Qs s y:=fun y hy=>h y (by
 rcases W1o.1 hy with rfl | hy
 · exact W0q ..
 · exact W0z _ (W4r hy))
theorem Xni (n : Int) : Rat.divInt n 1=(n : Rat):=by
 rw [W5i]
 have : ((1 : Int) : Rat)=1:=rfl
 grind
def pw (b : Nat) : Rat:=((2 ^ b : Int) : Rat)
theorem Zs.two {b p : Nat} (h : b+1≤p) : Zs p (2 ^ b : Int):=by
 refine Zs.mono (p:=b+1) ?_ h
 unfold Zs
 rw [Int.natAbs_pow]
 exact W4i (by decide) (Nat.lt_succ_self b)
theorem Xgr (b : Nat) : (2 ^ b : Int)≠0:=by have:=W7g (n:=2) (m:=b) (by decide);omega
theorem Xwo (b : Nat) : Qs (b+1) (pw b):=⟨Zs.two (W0a _),Zs.one (by omega)⟩
theorem Zs.floor {s : Nat} {x : Rat} (h : Qs s x) : Zs s x.floor:=by
 have hn:=h.n
 unfold Zs at *
 rw [Rat.floor_def]
 exact W1m (Int.natAbs_ediv_le_natAbs _ _) hn
def dnQ (x : Rat) (b : Nat) : Rat:=Rat.divInt (x*pw b).floor (2 ^ b)
def upQ (x : Rat) (b : Nat) : Rat:=-dnQ (-x) b
theorem Xun {s : Nat} {x : Rat} (h : Qs s x) (b : Nat) : Qs (s+b+1) (dnQ x b) :=
 Qs.divInt (p:=s+b+1) ((Zs.floor (h.mul (Xwo b))).mono (by omega)) (Zs.two (by omega)) (Xgr b)
theorem Yec {s : Nat} {x : Rat} (h : Qs s x) (b : Nat) : Qs (s+b+1) (upQ x b):=(Xun h.neg b).neg
theorem Yc6 {x y : Rat} : Xmd x y≤0↔¬ y<x:=by rw [←Yc7];omega
theorem Yb2 {a p : Nat} (h : a<2 ^ p) : (dig a).length≤p / 32+1:=by
 refine Xan (W0r h ?_)
 rw [show (4294967296 : Nat)=2 ^ 32 from rfl,←W5n]
 exact W0h (by decide) (by omega)
def rtF (x : Rat) : Nat:=rt x.floor.toNat
theorem Yjb (n : Nat) : rt n≤n:=by
 have h:=(Xdb n).1
 by_cases h0 : rt n=0
 · omega
 · have:=W0m (rt n) (show 1≤rt n by omega)
   omega
theorem Xdv {x : Rat} (h : 0≤x) : x.floor=(x.floor.toNat : Int):=by
 have : (0 : Int)≤x.floor:=Rat.le_floor_iff.2 h
 omega
theorem Xzc {s : Nat} {x : Rat} (h : Qs s x) (h0 : 0≤x) : Zs s (rtF x : Int):=by
 have h1:=Zs.floor h
 rw [Xdv h0] at h1
 have h2:=Yjb x.floor.toNat
 unfold Zs at *
 have h1 : x.floor.toNat<2 ^ s:=h1
 show rt x.floor.toNat<2 ^ s
 omega
theorem Xax (b : Nat) : 0<pw b:=Rat.intCast_pos.2 (W7g (by decide))
def sq2 (x : Rat) (b : Nat) : Rat:=x*(pw b*pw b)
def Xc9 (x : Rat) (b : Nat) : Rat:=Rat.divInt (rtF (sq2 x b) : Int) (2 ^ b)
open Classical in
noncomputable def Xrx (x : Rat) : Nat:=if ((rtF x*rtF x : Int) : Rat)<x then rtF x+1 else rtF x
noncomputable def Xr0 (x : Rat) (b : Nat) : Rat:=Rat.divInt (Xrx (sq2 x b) : Int) (2 ^ b)
theorem Xy2 {s b : Nat} {x : Rat} (h : Qs s x) : Qs (s+(2*b+2)) (sq2 x b):=(h.mul ((Xwo b).mul (Xwo b))).mono (by omega)
theorem Xfu {x : Rat} {b : Nat} (h : 0≤x) : 0≤sq2 x b:=Rat.mul_nonneg h (Rat.mul_nonneg (W2k (Xax b)) (W2k (Xax b)))
theorem Xka (x : Rat) (n : Nat) : (x.num*2 ^ n).fdiv x.den=(x*pw n).floor:=by
 have hd : (0 : Int)<x.den:=Int.natCast_pos.2 (W2h x.den_nz)
 rw [W1n _ (by omega)]
 have key : ∀ z : Int,z≤(x.num*2 ^ n) / x.den↔z≤(x*pw n).floor:=by
  intro z
  rw [Int.le_ediv_iff_mul_le hd,Rat.le_floor_iff]
  have e : x*pw n*(x.den : Rat)=((x.num*2 ^ n : Int) : Rat):=by
   have:=Xjw x
   have h2 : pw n=((2 ^ n : Int) : Rat):=rfl
   rw [W3q,←h2,←this]
   grind
  have hdr : (0 : Rat)<(x.den : Rat):=by
   have:=Rat.intCast_pos.2 hd
   exact this
  rw [←W3d,W3q,←e]
  constructor
  · intro h
    exact W1u h hdr
  · intro h
    exact W2l h (W2k hdr)
 have h1:=(key _).1 (W7x _)
 have h2:=(key _).2 (W7x _)
 omega
theorem Xzg (b : Nat) : pw (2*b)=pw b*pw b:=by
 show ((2 ^ (2*b) : Int) : Rat)=((2 ^ b : Int) : Rat)*((2 ^ b : Int) : Rat)
 rw [←W3q,←Int.pow_add]
 congr 2;omega
theorem Xwa {x : Rat} (b : Nat) (h0 : 0≤x) : (x.num*2 ^ (2*b)).fdiv x.den=((sq2 x b).floor.toNat : Int):=by
 rw [Xka,Xzg]
 exact Xdv (Xfu h0)
theorem Xjg {s : Nat} {x : Rat} (h : Qs s x) (h0 : 0≤x) (b : Nat) : Qs (s+(2*b+2)) (Xc9 x b) :=
 Qs.divInt (Xzc (Xy2 h) (Xfu h0)) (Zs.two (by omega)) (Xgr b)
def mx0 (x : Rat) : Rat:=if x<0 then 0 else x
theorem Xfz (x : Rat) : 0≤mx0 x:=by unfold mx0;split <;> grind
theorem Xzt {s : Nat} {x : Rat} (h : Qs s x) (hs : 1≤s) : Qs s (mx0 x):=by
 unfold mx0
 split
 · exact qs0.mono hs
 · exact h
theorem Yg7 {x : Rat} : Xa1 x.num 0<0↔x<0:=by
 rw [Xgd]
 rcases Xa5 x with ⟨h,e⟩ | ⟨h,e⟩ | ⟨h,e⟩ <;> rw [e]
 · exact ⟨fun h=>absurd h (by decide),fun h'=>absurd h' (by grind)⟩
 · exact ⟨fun h=>absurd h (by decide),fun h'=>absurd h' (by grind)⟩
 · exact ⟨fun _=>h,fun _=>by decide⟩
def rnd (p : Rat × Rat) (b : Nat) : Rat × Rat:=(dnQ p.1 b,upQ p.2 b)
def rts (p : Rat × Rat) (b : Nat) : Rat × Rat:=(Xc9 (mx0 p.1) b,Xc9 p.2 b+Rat.divInt 1 (2 ^ b))
def Xb5 (p q : Rat × Rat) : Rat × Rat:=(Xvt (p.1*q.1) [p.1*q.2,p.2*q.1,p.2*q.2],Xvu (p.1*q.1) [p.1*q.2,p.2*q.1,p.2*q.2])
def Xme (p q : Rat × Rat) : Rat × Rat:=(p.1+q.1,p.2+q.2)
def enc : (k : Nat)→Tw k→El k→Nat→Rat × Rat
 | 0=>fun _ (x : Rat) _=>(x,x)
 | k+1=>fun t a b=>if (∀ x∈toL k a.2,x=0) then enc k t.1 a.1 b else rnd (Xme (enc k t.1 a.1 b) (Xb5 (enc k t.1 a.2 b) (rts (enc k t.1 t.2 b) b))) b
theorem Yab (x : Rat) (b : Nat) : dnQ x b*pw b=((x*pw b).floor : Rat):=by
 unfold dnQ
 rw [W5i]
 have h:=Xax b
 show ((x*pw b).floor : Rat) / pw b*pw b=_
 rw [W5a (by grind)]
theorem Xp0 (x : Rat) (b : Nat) : dnQ x b≤x:=by
 refine W1u ?_ (Xax b)
 rw [Yab]
 exact Rat.floor_le _
theorem Xuo (x : Rat) (b : Nat) : x*pw b<dnQ x b*pw b+1:=by
 rw [Yab]
 have:=@Rat.lt_floor (x*pw b)
 grind
theorem Xre (x : Rat) (b : Nat) : x≤upQ x b:=by
 have:=Xp0 (-x) b
 unfold upQ;grind
theorem Xyt (x : Rat) (b : Nat) : upQ x b*pw b<x*pw b+1:=by
 have:=Xuo (-x) b
 unfold upQ;grind
theorem Xtm {x y : Rat} : lo2 x y≤x∧lo2 x y≤y:=by unfold lo2;split <;> grind
theorem Xt7 {x y : Rat} : x≤hi2 x y∧y≤hi2 x y:=by unfold hi2;split <;> grind
theorem Xtl {x y : Rat} : lo2 x y=x∨lo2 x y=y:=by unfold lo2;split <;> simp
theorem Xt6 {x y : Rat} : hi2 x y=x∨hi2 x y=y:=by unfold hi2;split <;> simp
theorem Xhd (p q : Rat × Rat) : (Xb5 p q).1≤p.1*q.1∧(Xb5 p q).1≤p.1*q.2∧(Xb5 p q).1≤p.2*q.1∧(Xb5 p q).1≤p.2*q.2:=by
 show lo2 (lo2 (lo2 (p.1*q.1) (p.1*q.2)) (p.2*q.1)) (p.2*q.2)≤_∧lo2 (lo2 (lo2 (p.1*q.1) (p.1*q.2)) (p.2*q.1)) (p.2*q.2)≤_∧lo2 (lo2 (lo2 (p.1*q.1) (p.1*q.2)) (p.2*q.1)) (p.2*q.2)≤_∧lo2 (lo2 (lo2 (p.1*q.1) (p.1*q.2)) (p.2*q.1)) (p.2*q.2)≤_
 have h1:=@Xtm (p.1*q.1) (p.1*q.2)
 have h2:=@Xtm (lo2 (p.1*q.1) (p.1*q.2)) (p.2*q.1)
 have h3:=@Xtm (lo2 (lo2 (p.1*q.1) (p.1*q.2)) (p.2*q.1)) (p.2*q.2)
 refine ⟨?_,?_,?_,h3.2⟩ <;> grind
theorem Xhe (p q : Rat × Rat) : p.1*q.1≤(Xb5 p q).2∧p.1*q.2≤(Xb5 p q).2∧p.2*q.1≤(Xb5 p q).2∧p.2*q.2≤(Xb5 p q).2:=by
 show _≤hi2 (hi2 (hi2 (p.1*q.1) (p.1*q.2)) (p.2*q.1)) (p.2*q.2)∧_≤hi2 (hi2 (hi2 (p.1*q.1) (p.1*q.2)) (p.2*q.1)) (p.2*q.2)∧_≤hi2 (hi2 (hi2 (p.1*q.1) (p.1*q.2)) (p.2*q.1)) (p.2*q.2)∧_≤hi2 (hi2 (hi2 (p.1*q.1) (p.1*q.2)) (p.2*q.1)) (p.2*q.2)
 have h1:=@Xt7 (p.1*q.1) (p.1*q.2)
 have h2:=@Xt7 (hi2 (p.1*q.1) (p.1*q.2)) (p.2*q.1)
 have h3:=@Xt7 (hi2 (hi2 (p.1*q.1) (p.1*q.2)) (p.2*q.1)) (p.2*q.2)
 refine ⟨?_,?_,?_,h3.2⟩ <;> grind
theorem Xef (x : Rat) (b : Nat) : Xc9 x b*pw b=((rtF (sq2 x b) : Int) : Rat):=by
 unfold Xc9
 rw [W5i]
 have h:=Xax b
 show ((rtF (sq2 x b) : Int) : Rat) / pw b*pw b=_
 rw [W5a (by grind)]
theorem Xda (b : Nat) : Rat.divInt 1 (2 ^ b)*pw b=1:=by
 rw [W5i]
 have h:=Xax b
 show ((1 : Int) : Rat) / pw b*pw b=_
 rw [W5a (by grind)];rfl
theorem Xcv (x : Rat) (b : Nat) : 0≤Xc9 x b:=by
 refine W1u ?_ (Xax b)
 rw [Xef,W4x]
 exact Rat.intCast_nonneg.2 (by omega)
theorem Xzd {x : Rat} (h : 0≤x) : (((rtF x : Int)) : Rat)*((rtF x : Int) : Rat)≤x:=by
 have h1:=(Xdb x.floor.toNat).1
 have h2:=Xdv h
 have h3:=@Rat.floor_le x
 have h4 : ((rtF x*rtF x : Int) : Rat)≤(x.floor : Rat):=by
  rw [W3d,h2]
  unfold rtF
  exact_mod_cast h1
 rw [W3q] at h4
 exact W5r h4 h3
theorem Xse {x : Rat} (h : 0≤x) : x<(((rtF x : Int))+1 : Rat)*(((rtF x : Int))+1 : Rat):=by
 have h1:=(Xdb x.floor.toNat).2
 have h2:=Xdv h
 have h3:=@Rat.lt_floor x
 have h4 : ((x.floor+1 : Int) : Rat)≤(((rtF x+1 : Int)*(rtF x+1 : Int) : Int) : Rat):=by
  rw [W3d,h2]
  unfold rtF
  have h1 : x.floor.toNat+1≤(rt x.floor.toNat+1)*(rt x.floor.toNat+1):=h1
  exact_mod_cast h1
 rw [W3q,W6e,W6e] at h4
 have h5 : ((1 : Int) : Rat)=1:=rfl
 rw [h5] at h4
 grind
theorem Xgw {x : Rat} {b : Nat} (h : 0≤x) : Xc9 x b*Xc9 x b≤x:=by
 have hp:=Xax b
 have hpp:=W4q hp hp
 refine W1u ?_ hpp
 have h1:=Xzd (Xfu (b:=b) h)
 rw [←Xef] at h1
 unfold sq2 at h1
 grind
theorem Xrz {x : Rat} {b : Nat} (h : 0≤x) : x≤(Xc9 x b+Rat.divInt 1 (2 ^ b))*(Xc9 x b+Rat.divInt 1 (2 ^ b)):=by
 have hp:=Xax b
 have hpp:=W4q hp hp
 refine W1u ?_ hpp
 have h1:=Xse (Xfu (b:=b) h)
 have h2:=Xda b
 rw [←Xef] at h1
 have h3 : sq2 x b=x*(pw b*pw b):=rfl
 have h4 : (Xc9 x b+Rat.divInt 1 (2 ^ b))*(Xc9 x b+Rat.divInt 1 (2 ^ b))*(pw b*pw b)=(Xc9 x b*pw b+1)*(Xc9 x b*pw b+1):=by
  rw [←h2];grind
 rw [h4,←h3]
 exact W2k h1
theorem Xf0 : ∀ {k : Nat} {t : Tw k} (h : Xbm k t) (a : El k) (b : Nat),inI k t a (enc k t a b).1 (enc k t a b).2
 | 0,t,h,a,b=>⟨(Xat h).le_rf (Xa3 0 t) a,(Xat h).le_rf (Xa3 0 t) a⟩
 | k+1,t,h,a,b=>by
  have iu:=Xlc (t:=t) h.1 (Xf0 h.1 a.1 b)
  have hs:=Xpy (t:=t) a
  by_cases hz : ∀ x∈toL k a.2,x=0
  · have he : enc (k+1) t a b=enc k t.1 a.1 b:=if_pos hz
    rw [he]
    have ha : a=up k a.1:=W4j rfl ((Xap k a.2).2 hz)
    rw [ha]
    exact iu
  · have he : enc (k+1) t a b=rnd (Xme (enc k t.1 a.1 b) (Xb5 (enc k t.1 a.2 b) (rts (enc k t.1 t.2 b) b))) b:=if_neg hz
    have iv:=Xlc (t:=t) h.1 (Xf0 h.1 a.2 b)
    have ir:=Xf0 h.1 t.2 b
    have hr2 : 0≤(enc k t.1 t.2 b).2:=by
     have h0 : le k t.1 (rat k 0) t.2:=(Xhb h.1).2 (by rw [h.2];decide)
     exact (Xba h.1).1 (le_tr h.1 h0 ir.2)
    have hu : 0≤Rat.divInt 1 (2 ^ b):=W1u (by rw [Xda,W4x];decide) (Xax b)
    have is:=Xty h ir (c:=Xc9 (mx0 (enc k t.1 t.2 b).1) b) (d:=Xc9 (enc k t.1 t.2 b).2 b+Rat.divInt 1 (2 ^ b)) (Xcv _ _) (by have:=Xcv (enc k t.1 t.2 b).2 b;grind)
     (by
      have h1:=Xgw (b:=b) (Xfz (enc k t.1 t.2 b).1)
      by_cases h0 : (enc k t.1 t.2 b).1<0
      · right
        have e : mx0 (enc k t.1 t.2 b).1=0:=if_pos h0
        rw [e] at h1 ⊢
        have h2:=Xcv 0 b
        by_cases h3 : Xc9 0 b=0
        · exact h3
        · have:=W4q (show 0<Xc9 0 b by grind) (show 0<Xc9 0 b by grind)
          grind
      · left
        have e : mx0 (enc k t.1 t.2 b).1=(enc k t.1 t.2 b).1:=if_neg h0
        rw [e] at h1 ⊢
        exact h1) (Xrz hr2)
    have im:=Xtz h iv is (Xcv _ _) (Xhd (enc k t.1 a.2 b) (rts (enc k t.1 t.2 b) b)).1 (Xhd (enc k t.1 a.2 b) (rts (enc k t.1 t.2 b) b)).2.1 (Xhe (enc k t.1 a.2 b) (rts (enc k t.1 t.2 b) b)).2.2.1 (Xhe (enc k t.1 a.2 b) (rts (enc k t.1 t.2 b) b)).2.2.2
    have ia:=Xt0 h iu im
    rw [←hs] at ia
    rw [he]
    exact Xpm h ia (Xp0 _ _) (Xre _ _)
def eB (s b : Nat) : Nat→Nat
 | 0=>s
 | k+1=>3*eB s b k+4*b+6
theorem Xxr (s b : Nat) : ∀ k,s≤eB s b k
 | 0=>W0a _
 | k+1=>by have:=Xxr s b k;show s≤3*eB s b k+4*b+6;omega
theorem Xz8 {k : Nat} {t : Tw (k+1)} (h : Xbm (k+1) t) (b : Nat) : 0≤(enc k t.1 t.2 b).2:=by
 have h0 : le k t.1 (rat k 0) t.2:=(Xhb h.1).2 (by rw [h.2];decide)
 exact (Xba h.1).1 (le_tr h.1 h0 (Xf0 h.1 t.2 b).2)
def Q2 (s : Nat) (p : Rat × Rat) : Prop:=Qs s p.1∧Qs s p.2
theorem Xi3 (b : Nat) : Qs (b+1) (Rat.divInt 1 (2 ^ b)):=Qs.divInt (Zs.one (by omega)) (Zs.two (W0a _)) (Xgr b)
theorem Xza {s b : Nat} {p : Rat × Rat} (h : Q2 s p) (h0 : 0≤p.2) (hs : 1≤s) : Q2 (s+3*b+4) (rts p b) :=
 ⟨(Xjg (Xzt h.1 hs) (Xfz _) b).mono (by omega),((Xjg h.2 h0 b).add (Xi3 b)).mono (by omega)⟩
theorem Xs9 {s s' : Nat} {p q : Rat × Rat} (h : Q2 s p) (h' : Q2 s' q) : Q2 (s+s') (Xb5 p q):=by
 have key : ∀ y∈p.1*q.1::[p.1*q.2,p.2*q.1,p.2*q.2],Qs (s+s') y:=by
  intro y hy
  simp at hy
  rcases hy with rfl | rfl | rfl | rfl
  · exact h.1.mul h'.1
  · exact h.1.mul h'.2
  · exact h.2.mul h'.1
  · exact h.2.mul h'.2
 exact ⟨Xte key,Xtj key⟩
theorem Xvk {s s' : Nat} {p q : Rat × Rat} (h : Q2 s p) (h' : Q2 s' q) : Q2 (s+s'+1) (Xme p q):=⟨h.1.add h'.1,h.2.add h'.2⟩
theorem Ye8 {s : Nat} {p : Rat × Rat} (h : Q2 s p) (b : Nat) : Q2 (s+b+1) (rnd p b):=⟨Xun h.1 b,Yec h.2 b⟩
theorem Q2.mono {s s' : Nat} {p : Rat × Rat} (h : Q2 s p) (hs : s≤s') : Q2 s' p:=⟨h.1.mono hs,h.2.mono hs⟩
theorem Xhr : ∀ {k : Nat} {t : Tw k} {a : El k} {s b : Nat},Xbm k t→TS s k t→Sz s (toL k a)→1≤s→Q2 (eB s b k) (enc k t a b)
 | 0,t,a,s,b,h,hT,ha,hs=>⟨ha.qs (W0g.2 rfl),ha.qs (W0g.2 rfl)⟩
 | k+1,t,a,s,b,h,hT,ha,hs=>by
  have hu:=Xhr (b:=b) h.1 hT.1 (Sz.left (l:=toL k a.1) (m:=toL k a.2) ha) hs
  have hv:=Xhr (b:=b) h.1 hT.1 (Sz.right (l:=toL k a.1) (m:=toL k a.2) ha) hs
  have hr:=Xhr (b:=b) h.1 hT.1 hT.2 hs
  have hge:=Xxr s b k
  show Q2 (3*eB s b k+4*b+6) (if (∀ x∈toL k a.2,x=0) then enc k t.1 a.1 b else rnd (Xme (enc k t.1 a.1 b) (Xb5 (enc k t.1 a.2 b) (rts (enc k t.1 t.2 b) b))) b)
  split
  · exact hu.mono (by omega)
  · exact (Ye8 (Xvk hu (Xs9 hv (Xza hr (Xz8 h b) (by omega)))) b).mono (by omega)
theorem Xk4 (a b : Nat) : pw (a+b)=pw a*pw b:=by
 show ((2 ^ (a+b) : Int) : Rat)=((2 ^ a : Int) : Rat)*((2 ^ b : Int) : Rat)
 rw [←W3q,←Int.pow_add]
theorem Xch (n : Nat) : pw (n+1)=2*pw n:=by rw [Xk4,show pw 1=2 from rfl];grind
theorem Xfx (n : Nat) : 1≤pw n:=by
 induction n with
 | zero=>exact W6p
 | succ n ih=>rw [Xch];grind
theorem Xg6 {a b : Nat} (h : a≤b) : pw a≤pw b:=by
 obtain ⟨c,rfl⟩:=Nat.le.dest h
 rw [Xk4]
 have h1:=W2t (Xfx c) (W2k (Xax a))
 grind
theorem Xik {x y : Rat} (h : 0≤x) (k : 0≤y) : 0≤x*y:=Rat.mul_nonneg h k
theorem Xzu {a b c d : Rat} (h : a≤b) (k : c≤d) (hc : 0≤c) (hb : 0≤b) : a*c≤b*d:=by
 have h1:=W2l h hc
 have h2:=W2t k hb
 grind
theorem Xjx {x y X Y : Rat} (h1 : -X≤x) (h2 : x≤X) (h3 : -Y≤y) (h4 : y≤Y) : x*y≤X*Y:=by
 have a:=Xik (show 0≤X - x by grind) (show 0≤Y+y by grind)
 have b:=Xik (show 0≤X+x by grind) (show 0≤Y - y by grind)
 grind
theorem Xpk {x y : Rat} (hy : 0≤y) (h : x*x≤y*y) : x≤y:=by
 by_cases hxy : x≤y
 · exact hxy
 · have h1 : y<x:=by grind
   have a:=W4q (show 0<x - y by grind) (show 0<x by grind)
   have b:=Xik hy (show 0≤x - y by grind)
   grind
def Wid (p : Rat × Rat) (e : Nat) : Prop:=p.1≤p.2∧(p.2 - p.1)*pw e≤1
def Mg (p : Rat × Rat) (m : Nat) : Prop:=-pw m≤p.1∧p.2≤pw m
theorem Wid.mono {p : Rat × Rat} {e f : Nat} (h : Wid p e) (hf : f≤e) : Wid p f:=by
 refine ⟨h.1,?_⟩
 have:=W2t (Xg6 hf) (show 0≤p.2 - p.1 by have:=h.1;grind)
 have:=h.2
 grind
theorem Mg.mono {p : Rat × Rat} {m n : Nat} (h : Mg p m) (hn : m≤n) : Mg p n:=by
 have:=Xg6 hn
 have h1:=h.1
 have h2:=h.2
 exact ⟨by grind,by grind⟩
structure RtOf (r : Rat × Rat) (b : Nat) (s : Rat × Rat) : Prop where
 lo : s.1=Xc9 (mx0 r.1) b
 l : Xc9 r.2 b≤s.2
 h : s.2≤Xc9 r.2 b+Rat.divInt 1 (2 ^ b)
theorem Xd0 (b : Nat) : 0<Rat.divInt 1 (2 ^ b):=by
 by_cases h : 0<Rat.divInt 1 (2 ^ b)
 · exact h
 · have h1:=W2l (show Rat.divInt 1 (2 ^ b)≤0 by grind) (W2k (Xax b))
   rw [Xda] at h1
   exact absurd h1 (by grind)
theorem Xrf {b f : Nat} (h : f+1≤b) : 2*(Rat.divInt 1 (2 ^ b)*pw f)≤1:=by
 have h1:=W2t (Xg6 h) (W2k (Xd0 b))
 rw [Xda,Xch] at h1
 grind
theorem Xi4 (b : Nat) : Rat.divInt 1 (2 ^ b)≤1:=by
 have h1:=W2t (Xfx b) (W2k (Xd0 b))
 rw [Xda] at h1
 grind
theorem Yft (x : Rat) : x≤mx0 x:=by unfold mx0;split <;> grind
theorem Xgx {x y : Rat} {b : Nat} (hx : 0≤x) (h : x≤y) : Xc9 x b≤Xc9 y b:=by
 have hp:=Xax b
 refine W1u ?_ hp
 rw [Xef,Xef,W3d]
 have h1 : sq2 x b≤sq2 y b:=W2l h (W2k (W4q hp hp))
 have h2:=Xzd (Xfu (b:=b) hx)
 have h3:=Xse (x:=sq2 y b) (W5r (Xfu (b:=b) hx) h1)
 by_cases h4 : (rtF (sq2 x b) : Int)≤rtF (sq2 y b)
 · exact h4
 · have h5 : (rtF (sq2 y b) : Int)+1≤rtF (sq2 x b):=by omega
   have h6:=W3d.2 h5
   rw [W6e,show ((1 : Int) : Rat)=1 from rfl] at h6
   have h7 : (0 : Rat)≤((rtF (sq2 y b) : Int) : Rat):=Rat.intCast_nonneg.2 (by omega)
   have h8:=Xzu h6 h6 (by grind) (by grind)
   grind
theorem RtOf.wd {r s : Rat × Rat} {b e f : Nat} (R : RtOf r b s) (hr : Wid r e) (h0 : 0≤r.2) (hf : 2*f≤e) (hb : f+1≤b) : s.1≤s.2∧(s.2 - s.1)*pw f≤2:=by
 obtain ⟨r1,r2⟩:=r
 obtain ⟨c,d⟩:=s
 obtain ⟨h1,h2,h3⟩:=R
 dsimp only at *
 have hA:=Xgw (b:=b) h0
 have hB:=Xrz (b:=b) (Xfz r1)
 have hB0:=Xcv (mx0 r1) b
 have hm:=Yft r1
 have hu:=Xd0 b
 have hul:=Xrf hb
 rw [←h1] at hB hB0
 have hw:=(hr.mono hf).2
 have hpf:=Xax f
 rw [show 2*f=f+f by omega,Xk4] at hw
 dsimp only at hw
 generalize Rat.divInt 1 (2 ^ b)=ε at *
 generalize hAe : Xc9 r2 b=A at *
 have key : (A - (c+ε))*pw f≤1:=by
  by_cases hk : (A - (c+ε))*pw f≤1
  · exact hk
  · have hk : 1<(A - (c+ε))*pw f:=by grind
    have hD : 0<A - (c+ε):=by
     by_cases hD : 0<A - (c+ε)
     · exact hD
     · have:=W2l (show A - (c+ε)≤0 by grind) (W2k hpf)
       grind
    have e1:=Xik (W2k hD) (show 0≤2*(c+ε) by grind)
    have e2 : (A - (c+ε))*(A - (c+ε))≤r2 - r1:=by grind
    have e3:=W2l e2 (W2k (W4q hpf hpf))
    have e4:=Xzu (W2k hk) (W2k hk) (by decide) (by grind)
    have e5:=W4q (show 0<(A - (c+ε))*pw f - 1 by grind) (show 0<(A - (c+ε))*pw f by grind)
    grind
 refine ⟨?_,?_⟩
 · have hmono : mx0 r1≤r2:=by
    have:=hr.1
    unfold mx0
    dsimp only at this
    split
    · exact h0
    · exact this
   have:=Xgx (b:=b) (Xfz r1) hmono
   rw [hAe,←h1] at this
   grind
 · have:=W2l (show d - c≤(A - (c+ε))+2*ε by grind) (W2k hpf)
   grind
theorem RtOf.mg {r s : Rat × Rat} {b m : Nat} (R : RtOf r b s) (hr : Mg r m) (h0 : 0≤r.2) : 0≤s.1∧s.2≤pw (m+1):=by
 have h1:=Xgw (b:=b) h0
 have h2:=Xcv (mx0 r.1) b
 rw [←R.lo] at h2
 refine ⟨h2,?_⟩
 have h3 : Xc9 r.2 b≤pw m:=by
  refine Xpk (W2k (Xax m)) (W5r h1 (W5r hr.2 ?_))
  have:=W2t (Xfx m) (W2k (Xax m))
  grind
 have h4:=R.h
 have h5:=Xi4 b
 have h6:=Xfx m
 rw [Xch]
 grind
theorem Xta (p q : Rat × Rat) : (∃ v s,(v=p.1∨v=p.2)∧(s=q.1∨s=q.2)∧(Xb5 p q).1=v*s)∧∃ v s,(v=p.1∨v=p.2)∧(s=q.1∨s=q.2)∧(Xb5 p q).2=v*s:=by
 constructor
 · show ∃ v s,(v=p.1∨v=p.2)∧(s=q.1∨s=q.2)∧lo2 (lo2 (lo2 (p.1*q.1) (p.1*q.2)) (p.2*q.1)) (p.2*q.2)=v*s
   rcases @Xtl (lo2 (lo2 (p.1*q.1) (p.1*q.2)) (p.2*q.1)) (p.2*q.2) with h | h <;> rw [h]
   · rcases @Xtl (lo2 (p.1*q.1) (p.1*q.2)) (p.2*q.1) with h | h <;> rw [h]
     · rcases @Xtl (p.1*q.1) (p.1*q.2) with h | h <;> rw [h]
       · exact ⟨_,_,.inl rfl,.inl rfl,rfl⟩
       · exact ⟨_,_,.inl rfl,.inr rfl,rfl⟩
     · exact ⟨_,_,.inr rfl,.inl rfl,rfl⟩
   · exact ⟨_,_,.inr rfl,.inr rfl,rfl⟩
 · show ∃ v s,(v=p.1∨v=p.2)∧(s=q.1∨s=q.2)∧hi2 (hi2 (hi2 (p.1*q.1) (p.1*q.2)) (p.2*q.1)) (p.2*q.2)=v*s
   rcases @Xt6 (hi2 (hi2 (p.1*q.1) (p.1*q.2)) (p.2*q.1)) (p.2*q.2) with h | h <;> rw [h]
   · rcases @Xt6 (hi2 (p.1*q.1) (p.1*q.2)) (p.2*q.1) with h | h <;> rw [h]
     · rcases @Xt6 (p.1*q.1) (p.1*q.2) with h | h <;> rw [h]
       · exact ⟨_,_,.inl rfl,.inl rfl,rfl⟩
       · exact ⟨_,_,.inl rfl,.inr rfl,rfl⟩
     · exact ⟨_,_,.inr rfl,.inl rfl,rfl⟩
   · exact ⟨_,_,.inr rfl,.inr rfl,rfl⟩
theorem Xn8 {u v r s : Rat × Rat} {b b' e f m : Nat} (hu : Wid u f) (hv : Wid v f) (hr : Wid r e) (hf : 2*f≤e) (mv : Mg v m) (ms : 0≤s.1∧s.2≤pw (m+1)) (h0 : 0≤r.2) (R : RtOf r b s) (hb : f+1≤b) (hb' : b≤b') (he : m+3≤f) :
 Wid (rnd (Xme u (Xb5 v s)) b') (f - (m+3)):=by
 have hs:=R.wd hr h0 (f:=f) hf hb
 have wu:=hu.2
 have wv:=hv.2
 have hu1:=hu.1
 have hv1:=hv.1
 have hs1:=hs.1
 have hs2:=hs.2
 have hpf:=Xax f
 have hpm:=Xax m
 obtain ⟨⟨v1,s1,hv1',hs1',e1⟩,v2,s2,hv2',hs2',e2⟩:=Xta v s
 have hle:=(Xhd v s).1
 have hge:=(Xhe v s).1
 have hP : (Xb5 v s).2 - (Xb5 v s).1≤pw m*(s.2 - s.1)+pw (m+1)*(v.2 - v.1):=by
  rw [e1,e2]
  have a1 : -pw m≤v2∧v2≤pw m:=by
   have:=mv.1;have:=mv.2
   rcases hv2' with rfl | rfl <;> exact ⟨by grind,by grind⟩
  have a2 : -(s.2 - s.1)≤s2 - s1∧s2 - s1≤s.2 - s.1:=by
   rcases hs1' with rfl | rfl <;> rcases hs2' with rfl | rfl <;> exact ⟨by grind,by grind⟩
  have a3 : -pw (m+1)≤s1∧s1≤pw (m+1):=by
   have:=ms.1;have:=ms.2;have:=Xax (m+1)
   rcases hs1' with rfl | rfl <;> exact ⟨by grind,by grind⟩
  have a4 : -(v.2 - v.1)≤v2 - v1∧v2 - v1≤v.2 - v.1:=by
   rcases hv1' with rfl | rfl <;> rcases hv2' with rfl | rfl <;> exact ⟨by grind,by grind⟩
  have b1:=Xjx a1.1 a1.2 a2.1 a2.2
  have b2:=Xjx a3.1 a3.2 a4.1 a4.2
  grind
 have hPf : ((Xb5 v s).2 - (Xb5 v s).1)*pw f≤pw (m+2):=by
  have c1:=W2l hP (W2k hpf)
  have c2:=W2t hs2 (W2k hpm)
  have c3:=W2t wv (W2k (Xax (m+1)))
  rw [Xch,Xch] at *
  grind
 have d1:=Xuo (u.1+(Xb5 v s).1) b'
 have d2:=Xyt (u.2+(Xb5 v s).2) b'
 have d3:=Xp0 (u.1+(Xb5 v s).1) b'
 have d4:=Xre (u.2+(Xb5 v s).2) b'
 have hε:=Xrf (b:=b') (f:=f) (by omega)
 have hεp:=Xd0 b'
 have hεe:=Xda b'
 have d5 : u.1+(Xb5 v s).1 - Rat.divInt 1 (2 ^ b')≤dnQ (u.1+(Xb5 v s).1) b':=by
  refine W1u ?_ (Xax b')
  grind
 have d6 : upQ (u.2+(Xb5 v s).2) b'≤u.2+(Xb5 v s).2+Rat.divInt 1 (2 ^ b'):=by
  refine W1u ?_ (Xax b')
  grind
 refine ⟨?_,?_⟩
 · show dnQ (u.1+(Xb5 v s).1) b'≤upQ (u.2+(Xb5 v s).2) b'
   grind
 · show (upQ (u.2+(Xb5 v s).2) b' - dnQ (u.1+(Xb5 v s).1) b')*pw (f - (m+3))≤1
   refine W1u ?_ (Xax (m+3))
   rw [Rat.mul_assoc,←Xk4,show f - (m+3)+(m+3)=f by omega,Rat.one_mul]
   have g1:=W2l (show upQ (u.2+(Xb5 v s).2) b' - dnQ (u.1+(Xb5 v s).1) b'≤(u.2 - u.1)+((Xb5 v s).2 - (Xb5 v s).1)+2*Rat.divInt 1 (2 ^ b') by grind) (W2k hpf)
   have g2:=Xfx (m+1)
   rw [Xch (m+1)] at hPf
   rw [Xch (m+2),Xch (m+1)]
   grind
theorem Yaz {u v r s : Rat × Rat} {b b' e m : Nat} (hu : Wid u e) (hv : Wid v e) (hr : Wid r e) (mv : Mg v m) (mr : Mg r m) (h0 : 0≤r.2) (R : RtOf r b s) (hb : e / 2+1≤b) (hb' : b≤b') (he : m+3≤e / 2) :
 Wid (rnd (Xme u (Xb5 v s)) b') (e / 2 - (m+3)):=Xn8 (hu.mono (by omega)) (hv.mono (by omega)) hr (by omega) mv (R.mg mr h0) h0 R hb hb' he
theorem Xn9 {u v s : Rat × Rat} {b' m j : Nat} (mu : Mg u m) (mv : Mg v m) (ms : 0≤s.1∧s.2≤pw (j+1)) (hs1 : s.1≤s.2) (hv1 : v.1≤v.2) : Mg (rnd (Xme u (Xb5 v s)) b') (m+j+2):=by
 obtain ⟨⟨v1,s1,hv1',hs1',e1⟩,v2,s2,hv2',hs2',e2⟩:=Xta v s
 have key : ∀ x y,(x=v.1∨x=v.2)→(y=s.1∨y=s.2)→-(pw m*pw (j+1))≤x*y∧x*y≤pw m*pw (j+1):=by
  intro x y hx hy
  have a1 : -pw m≤x∧x≤pw m:=by
   have:=mv.1;have:=mv.2
   rcases hx with rfl | rfl <;> exact ⟨by grind,by grind⟩
  have a3 : -pw (j+1)≤y∧y≤pw (j+1):=by
   have:=ms.1;have:=ms.2;have:=Xax (j+1)
   rcases hy with rfl | rfl <;> exact ⟨by grind,by grind⟩
  have b1:=Xjx a1.1 a1.2 a3.1 a3.2
  have b2:=Xjx (x:=-x) (show -pw m≤-x by grind) (show -x≤pw m by grind) a3.1 a3.2
  exact ⟨by grind,b1⟩
 have k1:=(key _ _ hv1' hs1').1
 have k2:=(key _ _ hv2' hs2').2
 rw [←e1] at k1
 rw [←e2] at k2
 have hεe:=Xda b'
 have hε1:=Xi4 b'
 have d1:=Xuo (u.1+(Xb5 v s).1) b'
 have d2:=Xyt (u.2+(Xb5 v s).2) b'
 have d5 : u.1+(Xb5 v s).1 - Rat.divInt 1 (2 ^ b')≤dnQ (u.1+(Xb5 v s).1) b':=by
  refine W1u ?_ (Xax b')
  grind
 have d6 : upQ (u.2+(Xb5 v s).2) b'≤u.2+(Xb5 v s).2+Rat.divInt 1 (2 ^ b'):=by
  refine W1u ?_ (Xax b')
  grind
 have e3 : pw (m+j+2)=2*(pw m*pw (j+1)):=by rw [←Xk4,←Xch];congr 1
 have e4 : pw m+1≤pw m*pw (j+1):=by
  have h1:=Xfx m
  have h3:=Xfx j
  have h2:=W2t (show 2≤pw (j+1) by rw [Xch];grind) (W2k (Xax m))
  grind
 have m1:=mu.1
 have m2:=mu.2
 refine ⟨?_,?_⟩
 · show -pw (m+j+2)≤dnQ (u.1+(Xb5 v s).1) b'
   rw [e3];grind
 · show upQ (u.2+(Xb5 v s).2) b'≤pw (m+j+2)
   rw [e3];grind
theorem Ya1 {u v r s : Rat × Rat} {b b' m : Nat} (mu : Mg u m) (mv : Mg v m) (mr : Mg r m) (h0 : 0≤r.2) (hs1 : s.1≤s.2) (hv1 : v.1≤v.2) (R : RtOf r b s) : Mg (rnd (Xme u (Xb5 v s)) b') (2*m+2):=by
 rw [show 2*m+2=m+m+2 by omega];exact Xn9 mu mv (R.mg mr h0) hs1 hv1
def mW (m : Nat) : Nat→Nat
 | 0=>m
 | k+1=>2*mW m k+2
def eW (m b : Nat) : Nat→Nat
 | 0=>2*b - 2
 | k+1=>eW m b k / 2 - (mW m k+3)
theorem Ygz (m b : Nat) : ∀ k,eW m b k≤2*b - 2
 | 0=>W0a _
 | k+1=>by have:=Ygz m b k;show eW m b k / 2 - (mW m k+3)≤_;omega
theorem Yfy {m : Nat} {x : Rat} (h : Qs m x) : Mg (x,x) m:=by
 have h1:=h.n
 unfold Zs at h1
 have e:=Xjw x
 have hd : (1 : Rat)≤(x.den : Rat):=by
  have : ((1 : Int) : Rat)≤((x.den : Int) : Rat):=W3d.2 (by have:=x.den_pos;omega)
  exact this
 have h2 : ((x.num : Int) : Rat) ≤ pw m := W3d.2 (by have : (x.num.natAbs : Int) < ((2 ^ m : Nat) : Int) := by exact_mod_cast h1
                                                     have e2 : ((2 ^ m : Nat) : Int)=2 ^ m:=by simp
                                                     omega)
 have h3 : -pw m≤((x.num : Int) : Rat):=by
  have h4 : ((-(2 ^ m) : Int) : Rat) ≤ ((x.num : Int) : Rat) := W3d.2 (by have : (x.num.natAbs : Int) < ((2 ^ m : Nat) : Int) := by exact_mod_cast h1
                                                                          have e2 : ((2 ^ m : Nat) : Int)=2 ^ m:=by simp
                                                                          omega)
  rwa [W6w] at h4
 have hp:=Xax m
 refine ⟨?_,?_⟩
 · show -pw m≤x
   by_cases h0 : 0≤x
   · grind
   · have:=Xik (show 0≤-x by grind) (show 0≤(x.den : Rat) - 1 by grind)
     grind
 · show x≤pw m
   by_cases h0 : 0≤x
   · have:=Xik h0 (show 0≤(x.den : Rat) - 1 by grind)
     grind
   · grind
def MgL (m : Nat) (l : List Rat) : Prop:=∀ x∈l,Qs m x
def MgT (m : Nat) : (k : Nat)→Tw k→Prop
 | 0,_=>True
 | k+1,t=>MgT m k t.1∧MgL m (toL k t.2)
theorem Xzb (r : Rat × Rat) (b : Nat) : RtOf r b (rts r b):=⟨rfl,by have:=Xd0 b;show _≤Xc9 r.2 b+_;grind,W6p⟩
theorem Xuh {k : Nat} {t : Tw k} (h : Xbm k t) (a : El k) (b : Nat) : (enc k t a b).1≤(enc k t a b).2:=Xzz h (Xf0 h a b)
theorem Xlo : ∀ {k : Nat} {t : Tw k} {a : El k} {m : Nat} (b : Nat),Xbm k t→MgT m k t→MgL m (toL k a)→Mg (enc k t a b) (mW m k)
 | 0,t,a,m,b,h,hT,ha=>Yfy (ha _ (W0g.2 rfl))
 | k+1,t,a,m,b,h,hT,ha=>by
  have hu:=Xlo (a:=a.1) b h.1 hT.1 fun x hx=>ha x (W2f _ hx)
  have hv:=Xlo (a:=a.2) b h.1 hT.1 fun x hx=>ha x (W1l _ hx)
  have hr:=Xlo b h.1 hT.1 hT.2
  have h0 : 0≤(enc k t.1 t.2 b).2:=by
   have h0 : le k t.1 (rat k 0) t.2:=(Xhb h.1).2 (by rw [h.2];decide)
   exact (Xba h.1).1 (le_tr h.1 h0 (Xf0 h.1 t.2 b).2)
  show Mg (if (∀ x∈toL k a.2,x=0) then enc k t.1 a.1 b else rnd (Xme (enc k t.1 a.1 b) (Xb5 (enc k t.1 a.2 b) (rts (enc k t.1 t.2 b) b))) b) (2*mW m k+2)
  split
  · exact hu.mono (by omega)
  · refine Ya1 hu hv hr h0 ?_ (Xuh h.1 _ _) (Xzb _ b)
    have hle:=Xuh h.1 t.2 b
    have hm : mx0 (enc k t.1 t.2 b).1≤(enc k t.1 t.2 b).2:=by unfold mx0;split <;> assumption
    have:=Xgx (b:=b) (Xfz _) hm
    have:=Xd0 b
    show Xc9 (mx0 (enc k t.1 t.2 b).1) b≤Xc9 (enc k t.1 t.2 b).2 b+Rat.divInt 1 (2 ^ b)
    grind
theorem Xpw : ∀ {k : Nat} {t : Tw k} {a : El k} {m b : Nat},Xbm k t→MgT m k t→MgL m (toL k a)→0<eW m b k→Wid (enc k t a b) (eW m b k)
 | 0,t,a,m,b,h,hT,ha,he=>⟨W6p,(fun (x : Rat)=>(by grind : (x - x)*pw (eW m b 0)≤1)) a⟩
 | k+1,t,a,m,b,h,hT,ha,he=>by
  have he' : 0<eW m b k / 2 - (mW m k+3):=he
  have hle:=Ygz m b k
  have hu:=Xpw (a:=a.1) (m:=m) (b:=b) h.1 hT.1 (fun x hx=>ha x (W2f _ hx)) (by omega)
  have hv:=Xpw (a:=a.2) (m:=m) (b:=b) h.1 hT.1 (fun x hx=>ha x (W1l _ hx)) (by omega)
  have hr:=Xpw (m:=m) (b:=b) h.1 hT.1 hT.2 (by omega)
  have mv:=Xlo (a:=a.2) b h.1 hT.1 fun x hx=>ha x (W1l _ hx)
  have mr:=Xlo b h.1 hT.1 hT.2
  have h0 : 0≤(enc k t.1 t.2 b).2:=by
   have h0 : le k t.1 (rat k 0) t.2:=(Xhb h.1).2 (by rw [h.2];decide)
   exact (Xba h.1).1 (le_tr h.1 h0 (Xf0 h.1 t.2 b).2)
  show Wid (if (∀ x∈toL k a.2,x=0) then enc k t.1 a.1 b else rnd (Xme (enc k t.1 a.1 b) (Xb5 (enc k t.1 a.2 b) (rts (enc k t.1 t.2 b) b))) b) (eW m b k / 2 - (mW m k+3))
  split
  · exact hu.mono (by omega)
  · exact Yaz hu hv hr mv mr h0 (Xzb _ b) (by omega) (W0a _) (by omega)
end
section
theorem Xnh {s b b' : Nat} (h : b≤b') : ∀ k,eB s b k≤eB s b' k
 | 0=>W0a _
 | k+1=>by have:=Xnh (s:=s) h k;show 3*eB s b k+4*b+6≤3*eB s b' k+4*b'+6;omega
theorem Yiv {x y : Rat} {b : Nat} : Xmd (y - x) (Rat.divInt 1 (2 ^ b))≤0↔(y - x)*pw b≤1:=by
 rw [Yc6]
 have h:=Xda b
 constructor
 · intro h1
   have:=W2l (show y - x≤Rat.divInt 1 (2 ^ b) by grind) (W2k (Xax b))
   rwa [h] at this
 · intro h1 h2
   have:=W4q (show 0<y - x - Rat.divInt 1 (2 ^ b) by grind) (Xax b)
   grind
def Xbl (k : Nat) (t : Tw k) (a : El k) (z : Int) : Prop:=le k t (rat k (z : Rat)) a∧sgn k t (add k a (neg k (rat k ((z+1 : Int) : Rat))))=-1
theorem Xtk {k : Nat} {t : Tw k} (h : Xbm k t) {a b : El k} : sgn k t (add k a (neg k b))=-1↔¬ le k t b a:=by
 unfold le
 have:=(Xat h).tri (add k a (neg k b))
 omega
theorem Xbl.uniq {k : Nat} {t : Tw k} {a : El k} {z z' : Int} (h : Xbm k t) (i : Xbl k t a z) (j : Xbl k t a z') : z=z':=by
 have key : ∀ z z',Xbl k t a z→Xbl k t a z'→z≤z':=by
  intro z z' i j
  by_cases hz : z≤z'
  · exact hz
  · exact absurd (le_tr h ((Xba h).2 (W3d.2 (show z'+1≤z by omega))) i.1) ((Xtk h).1 j.2)
 have:=key _ _ i j
 have:=key _ _ j i
 omega
theorem Xxh {k : Nat} {t : Tw k} {a : El k} {x y : Rat} (h : Xbm k t) (i : inI k t a x y) (hw : Wid (x,y) 1) : (sgn k t (add k a (neg k (rat k (y.floor : Rat))))<0→Xbl k t a (y.floor - 1))∧(¬ sgn k t (add k a (neg k (rat k (y.floor : Rat))))<0→Xbl k t a y.floor):=by
 have h1:=@Rat.floor_le y
 have h2:=@Rat.lt_floor y
 have h3 : (y - x)*2≤1:=hw.2
 have e1 : ((1 : Int) : Rat)=1:=rfl
 have hup : sgn k t (add k a (neg k (rat k ((y.floor+1 : Int) : Rat))))=-1:=by
  rw [Xtk h]
  intro hl
  have:=(Xba h).1 (le_tr h hl i.2)
  rw [W6e,e1] at this
  grind
 refine ⟨fun hn=>⟨le_tr h ((Xba h).2 ?_) i.1,?_⟩,fun hn=>⟨?_,hup⟩⟩
 · rw [Rat.intCast_sub,e1]
   grind
 · rw [show y.floor - 1+1=y.floor by omega]
   have:=(Xat h).tri (add k a (neg k (rat k (y.floor : Rat))))
   omega
 · show 0≤_
   omega
noncomputable def rtb (p : Rat × Rat) (b : Nat) : Rat × Rat:=(Xc9 (mx0 p.1) b,Xr0 p.2 b)
noncomputable def bx : (k : Nat)→Tw k→El k→Nat→Rat × Rat
 | 0=>fun _ (x : Rat) _=>(x,x)
 | k+1=>fun t a b=>rnd (Xme (bx k t.1 a.1 b) (Xb5 (bx k t.1 a.2 b) (rtb (bx k t.1 t.2 b) b))) (b+20)
theorem Xmn (x : Rat) (b : Nat) : Xr0 x b*pw b=((Xrx (sq2 x b) : Int) : Rat):=by
 unfold Xr0
 rw [W5i]
 have h:=Xax b
 show ((Xrx (sq2 x b) : Int) : Rat) / pw b*pw b=_
 rw [W5a (by grind)]
theorem Ya5 (x : Rat) : (Xrx x=rtF x∧x≤((rtF x : Int) : Rat)*((rtF x : Int) : Rat))∨Xrx x=rtF x+1:=by
 unfold Xrx
 split
 · exact .inr rfl
 · rename_i h
   rw [W3q] at h
   exact .inl ⟨rfl,by grind⟩
theorem Xkt (x : Rat) : ((rtF x : Int) : Rat)≤((Xrx x : Int) : Rat)∧((Xrx x : Int) : Rat)≤((rtF x : Int) : Rat)+1∧(0≤x→x≤((Xrx x : Int) : Rat)*((Xrx x : Int) : Rat)):=by
 have e1 : ((1 : Int) : Rat)=1:=rfl
 rcases Ya5 x with ⟨h,h2⟩ | h
 · rw [h];exact ⟨W6p,by grind,fun _=>h2⟩
 · have e : ((Xrx x : Int) : Rat)=((rtF x : Int) : Rat)+1:=by
    rw [h,←e1,←W6e];congr 1
   rw [e]
   exact ⟨by grind,W6p,fun h0=>W2k (Xse h0)⟩
theorem Xom (r : Rat × Rat) (b : Nat) : RtOf r b (rtb r b):=by
 have h:=Xkt (sq2 r.2 b)
 have hp:=Xax b
 refine ⟨rfl,?_,?_⟩
 · refine W1u ?_ hp
   rw [Xef]
   show _≤Xr0 r.2 b*pw b
   rw [Xmn];exact h.1
 · refine W1u ?_ hp
   show Xr0 r.2 b*pw b≤_
   have e:=Xef r.2 b
   have e2:=Xda b
   have e3:=Xmn r.2 b
   have h2:=h.2.1
   grind
theorem Xwb {x : Rat} {b : Nat} (h : 0≤x) : x≤Xr0 x b*Xr0 x b:=by
 have hp:=Xax b
 have hpp:=W4q hp hp
 refine W1u ?_ hpp
 have h1:=(Xkt (sq2 x b)).2.2 (Xfu h)
 rw [←Xmn] at h1
 have h3 : sq2 x b=x*(pw b*pw b):=rfl
 rw [←h3]
 have h4 : Xr0 x b*Xr0 x b*(pw b*pw b)=Xr0 x b*pw b*(Xr0 x b*pw b):=by grind
 rw [h4];exact h1
theorem Yjo {x : Rat} {b : Nat} : Xc9 (mx0 x) b*Xc9 (mx0 x) b≤x∨Xc9 (mx0 x) b=0:=by
 have h1:=Xgw (b:=b) (Xfz x)
 by_cases h0 : x<0
 · right
   have e : mx0 x=0:=if_pos h0
   rw [e] at h1 ⊢
   have h2:=Xcv 0 b
   by_cases h3 : Xc9 0 b=0
   · exact h3
   · have:=W4q (show 0<Xc9 0 b by grind) (show 0<Xc9 0 b by grind)
     grind
 · left
   have e : mx0 x=x:=if_neg h0
   rw [e] at h1 ⊢
   exact h1
theorem Xkw {k : Nat} {t : Tw (k+1)} (h : Xbm (k+1) t) {x y : Rat} (i : inI k t.1 t.2 x y) : 0≤y:=by
 have h0 : le k t.1 (rat k 0) t.2:=(Xhb h.1).2 (by rw [h.2];decide)
 exact (Xba h.1).1 (le_tr h.1 h0 i.2)
theorem Ya2 {k : Nat} {t : Tw (k+1)} (h : Xbm (k+1) t) {a : El (k+1)} {u v r s : Rat × Rat} {b b' : Nat} (iu : inI k t.1 a.1 u.1 u.2) (iv : inI k t.1 a.2 v.1 v.2) (ir : inI k t.1 t.2 r.1 r.2) (R : RtOf r b s) (hs : r.2≤s.2*s.2) :
 inI (k+1) t a (rnd (Xme u (Xb5 v s)) b').1 (rnd (Xme u (Xb5 v s)) b').2:=by
 have iu:=Xlc (t:=t) h.1 iu
 have iv:=Xlc (t:=t) h.1 iv
 have hr2:=Xkw h ir
 have h0 : 0≤s.1:=by rw [R.lo];exact Xcv _ _
 have h2 : 0≤s.2:=W5r (Xcv _ _) R.l
 have is:=Xty h ir (c:=s.1) (d:=s.2) h0 h2 (by rw [R.lo];exact Yjo) hs
 have im:=Xtz h iv is h0 (Xhd v s).1 (Xhd v s).2.1 (Xhe v s).2.2.1 (Xhe v s).2.2.2
 have ia:=Xt0 h iu im
 rw [←Xpy a] at ia
 exact Xpm h ia (Xp0 _ _) (Xre _ _)
theorem Xno {k : Nat} {t : Tw (k+1)} {a : El (k+1)} {b : Nat} : bx (k+1) t a b=rnd (Xme (bx k t.1 a.1 b) (Xb5 (bx k t.1 a.2 b) (rtb (bx k t.1 t.2 b) b))) (b+20):=rfl
theorem Xnp : ∀ {k : Nat} {t : Tw k} (h : Xbm k t) (a : El k) (b : Nat),inI k t a (bx k t a b).1 (bx k t a b).2
 | 0,t,h,a,b=>⟨(Xat h).le_rf (Xa3 0 t) a,(Xat h).le_rf (Xa3 0 t) a⟩
 | k+1,t,h,a,b=>by
  have hu:=Xnp h.1 a.1 b
  have hv:=Xnp h.1 a.2 b
  have hr:=Xnp h.1 t.2 b
  have hs : (bx k t.1 t.2 b).2≤(rtb (bx k t.1 t.2 b) b).2*(rtb (bx k t.1 t.2 b) b).2:=Xwb (Xkw h hr)
  have R:=Xom (bx k t.1 t.2 b) b
  rw [Xno]
  generalize rtb (bx k t.1 t.2 b) b=s at *
  exact Ya2 h hu hv hr R hs
theorem Yhd {k : Nat} {t : Tw k} (h : Xbm k t) (a : El k) (b : Nat) : (bx k t a b).1≤(bx k t a b).2:=Xzz h (Xnp h a b)
theorem Yez {r : Rat × Rat} {b : Nat} (h0 : 0≤r.2) (h : r.1≤r.2) : (rtb r b).1≤(rtb r b).2:=by
 have hm : mx0 r.1≤r.2:=by unfold mx0;split <;> assumption
 exact W5r (Xgx (b:=b) (Xfz _) hm) (Xom r b).l
def bB (s b : Nat) : Nat→Nat
 | 0=>s
 | k+1=>3*bB s b k+3*b+30
end
section
abbrev dI (p : Rat × Rat) : D:=.st (.pr (dq p.1) (dq p.2))
theorem Ygq {a b a' b' : D} {g : Hp} {K : Hpl} (h1 : a=a') (h2 : b=b') : Fit g K (.d (.st (.pr a b))) (.d (.st (.pr a' b'))):=.eq (by rw [h1,h2])
abbrev zq : AV:=.st (.pr (.st (.pr (.b false) .nil)) (.st (.pr (.b false) .nil)))
abbrev zI : AV:=.st (.pr zq zq)
theorem Xt5 {x : Rat} {r : List Rat} {s : Nat} (hx : ∀ y∈x::r,Qs s y) (hs : s+3≤4398046511104) (hn : r.length≤1000) : C0 260 [.d (dqs (x::r))] (·=.d (dI (Xvt x r,Xvu x r))):=by
 refine En Tryz.func260 fun _ _ _=>?_
 refine Dz rfl ?_
 refine Ix 0 rfl (u:=dq x) rfl ?_
 refine Ix 0 rfl (u:=dq x) rfl ?_
 refine Dp 1 (r.map dq) rfl rfl (by simp) rfl ?_
 refine Lo (fun (q : Nat × Rat × Rat)=>[(2,.ptr 2 0),(3,.ptr 3 0),(4,.ptr 4 0),(15,.d (dqs r)),(16,.d (.int .i64 (r.map dq).length)),(17,.d (.int .i64 q.1))]) (fun q=>[(2,.var zI),(3,.var (.d (dq q.2.1))),(4,.var (.d (dq q.2.2)))]) (fun q=>q.1≤r.length∧q.2.1=Xvt x (r.take q.1)∧q.2.2=Xvu x (r.take q.1)) (fun q=>r.length - q.1) (0,x,x) [] rfl ⟨W1d _,rfl,rfl⟩ (fun (k,lo,hi) ⟨hk,hlo,hhi⟩=>?_)
 simp only at hk hlo hhi
 have qlo : Qs s lo:=hlo ▸ Xte (Xsn hx k)
 have qhi : Qs s hi:=hhi ▸ Xtj (Xsn hx k)
 refine By rfl (fun h=>?_) fun h=>?_
 · have h : (k : Int)<((r.map dq).length : Nat):=h
   rw [lq] at h
   obtain ⟨y,hy⟩:=qat (l:=r) (k:=k) (by omega)
   have qy : Qs s y:=hx y (W0z _ (W0l hy))
   have e : r.take (k+1)=r.take k++[y]:=by rw [W2b,hy];rfl
   have e1 : Xvt x (r.take (k+1))=lo2 lo y:=by rw [e,Xtd,hlo]
   have e2 : Xvu x (r.take (k+1))=hi2 hi y:=by rw [e,Xti,hhi]
   have fin : ∀ lo' hi',lo'=lo2 lo y→hi'=hi2 hi y→k+1≤r.length∧lo'=Xvt x (r.take (k+1))∧hi'=Xvu x (r.take (k+1)):=fun lo' hi' a b=>⟨by omega,by rw [a,e1],by rw [b,e2]⟩
   refine Ix k rfl (mp hy) ?_
   refine Ce rfl (Xg5 qy qlo (by omega)) ?_
   refine By rfl (fun h1=>?_) fun h1=>?_
   · refine Ce rfl (Xg5 qy qhi (by omega)) ?_
     refine By rfl (fun h2=>?_) fun h2=>?_
     · refine Ar (k+1 : Nat) rfl ?_ (wr (show (k : Int)+1=((k+1 : Nat) : Int) by omega) (by simp only [inK];omega))
       exact Bk (k+1,y,y) [] rfl (fin y y (if_pos (Yc5.1 h1)).symm (if_pos (Yc7.1 h2)).symm) (by show r.length - (k+1)<r.length - k;omega)
     · refine Ar (k+1 : Nat) rfl ?_ (wr (show (k : Int)+1=((k+1 : Nat) : Int) by omega) (by simp only [inK];omega))
       exact Bk (k+1,y,hi) [] rfl (fin y hi (if_pos (Yc5.1 h1)).symm (if_neg fun h=>h2 (Yc7.2 h)).symm) (by show r.length - (k+1)<r.length - k;omega)
   · refine Ce rfl (Xg5 qy qhi (by omega)) ?_
     refine By rfl (fun h2=>?_) fun h2=>?_
     · refine Ar (k+1 : Nat) rfl ?_ (wr (show (k : Int)+1=((k+1 : Nat) : Int) by omega) (by simp only [inK];omega))
       exact Bk (k+1,lo,y) [] rfl (fin lo y (if_neg fun h=>h1 (Yc5.2 h)).symm (if_pos (Yc7.1 h2)).symm) (by show r.length - (k+1)<r.length - k;omega)
     · refine Ar (k+1 : Nat) rfl ?_ (wr (show (k : Int)+1=((k+1 : Nat) : Int) by omega) (by simp only [inK];omega))
       exact Bk (k+1,lo,hi) [] rfl (fin lo hi (if_neg fun h=>h1 (Yc5.2 h)).symm (if_neg fun h=>h2 (Yc7.2 h)).symm) (by show r.length - (k+1)<r.length - k;omega)
 · have h : ¬ (k : Int)<((r.map dq).length : Nat):=h
   rw [lq] at h
   rw [W0b (by omega)] at hlo hhi
   refine Ce rfl (Xb2 (z:=0) (by decide)) ?_
   refine Dw rfl ?_
   refine Ce rfl (Xdf (y:=0) qlo qs0 (by omega)) ?_
   refine Ce rfl (Xdf (y:=0) qhi qs0 (by omega)) ?_
   exact R1 rfl (Ygq (by rw [W7b,hlo]) (by rw [W7b,hhi]))
section
variable {p q : Rat × Rat} {s t : Nat}
theorem Xt4 {x : Rat} (hx : Qs s x) (hs : s+3≤4398046511104) : C0 212 [.d (dq x)] (·=.d (dI (x,x))):=by
 have e1 : Xvt x [x]=x:=by show lo2 x x=x;unfold lo2;split <;> rfl
 have e2 : Xvu x [x]=x:=by show hi2 x x=x;unfold hi2;split <;> rfl
 have:=Xt5 (x:=x) (r:=[x]) (s:=s) (fun y hy=>by simp at hy;rw [hy];exact hx) hs (by simp)
 rw [e1,e2] at this
 refine En Tryz.func212 fun _ _ _=>?_
 refine Ce rfl this ?_
 exact R1 rfl (.rf rfl)
theorem Xt3 (hp : Q2 s p) (hs : 2*s+1≤4398046511104) : C0 165 [.d (dI p)] (·=.d (dq (p.2 - p.1))):=by
 refine En Tryz.func165 fun _ _ _=>?_
 refine Ce rfl (Xso hp.2 hp.1 (by omega)) ?_
 exact R1 rfl (.rf rfl)
theorem Ycg (hp : Q2 s p) (hq : Q2 t q) (hs : s+t+1≤4398046511104) : C0 214 [.d (dI p),.d (dI q)] (·=.d (dI (Xme p q))):=by
 refine En Tryz.func214 fun _ _ _=>?_
 refine Dw rfl ?_
 refine Ce rfl (Xdf hp.1 hq.1 (by omega)) ?_
 refine Ce rfl (Xdf hp.2 hq.2 (by omega)) ?_
 exact R1 rfl (Ygq rfl rfl)
theorem Yce (hp : Q2 s p) (hq : Q2 t q) (hs : s+t+3≤4398046511104) : C0 215 [.d (dI p),.d (dI q)] (·=.d (dI (Xb5 p q))):=by
 have hh:=Xt5 (x:=p.1*q.1) (r:=[p.1*q.2,p.2*q.1,p.2*q.2]) (s:=s+t) (fun y hy=>by
  simp only [W1o,List.not_mem_nil,or_false] at hy
  rcases hy with rfl | rfl | rfl | rfl
  · exact hp.1.mul hq.1
  · exact hp.1.mul hq.2
  · exact hp.2.mul hq.1
  · exact hp.2.mul hq.2) hs (by simp)
 refine En Tryz.func215 fun _ _ _=>?_
 refine Dw rfl ?_
 refine Ce rfl (Xg4 hp.1 hq.1 (by omega)) ?_
 refine Ce rfl (Xg4 hp.1 hq.2 (by omega)) ?_
 refine Ce rfl (Xg4 hp.2 hq.1 (by omega)) ?_
 refine Ce rfl (Xg4 hp.2 hq.2 (by omega)) ?_
 refine Ce rfl hh ?_
 exact R1 rfl (.rf rfl)
end
theorem Yj2 {n m r : Nat} (hr : n / m=r) (hm : 0<m) (hn : n<9223372036854775808) : arB .quo .i64 n m r:=show _∧_ from ⟨by omega,by
 rw [show Int.tdiv (n : Int) (m : Int)=((n / m : Nat) : Int) from rfl,hr]
 have:=W3j n m
 exact wI (by omega)⟩
theorem Xc1 {n : Nat} (hn : n≤8796093022200) : C0 162 [.d (.int .i64 n)] (·=.d (dz (2 ^ n : Int))):=by
 have e : (2 ^ n : Int)=((2 ^ n : Nat) : Int):=by simp
 refine En Tryz.func162 fun _ _ _=>?_
 refine Ar (n / 32 : Nat) rfl ?_ (Yj2 (m:=32) rfl (by decide) (by omega))
 refine Ar (n / 32+1 : Nat) rfl ?_
 refine Mk (n / 32+1) rfl (by omega) ?_
 refine Ar (n / 32 : Nat) rfl ?_ (Yj2 (m:=32) rfl (by decide) (by omega))
 refine Ar (n % 32 : Nat) rfl ?_ (show _∧_ from ⟨by decide,Xq6 n 32⟩)
 refine Ar (2 ^ (n % 32) : Nat) rfl ?_ (Xgb (W1r _ (by decide)))
 refine Eo (n / 32) rfl (by omega) ?_
 refine Sto rfl (by simp) rfl ?_
 refine R1 rfl (.sd (.pd (.bd (by rw [e];exact (decide_eq_false (by have:=W7g (n:=2) (m:=n) (by decide);omega)).symm)) (.own rfl (by simp) ?_)))
 rw [e,W1j,Xnj,W1f,W0b (by simp),←ms,W2e]
 rfl
theorem Xbz (x : Rat) : (x.den : Int)≠0:=by have:=x.den_nz;omega
section
variable {x : Rat} {s b : Nat}
theorem Xul (hx : Qs s x) (hb : b≤1099511627776) (hs : s≤1099511627776) : C0 261 [.d (dq x),.d (.int .i64 b)] (·=.d (dq (dnQ x b))):=by
 have hp:=hx.mul (Xwo b)
 have h2 : Zs (b+1) (2 ^ b : Int):=Zs.two (W0a _)
 have hn2:=(hx.n.mul h2).len (by omega)
 have l1:=hx.n.len (by omega)
 have l2:=h2.len (by omega)
 have l3:=hx.d.len (by omega)
 have hm:=Xdj (p:=s+b+1) (a:=(x*pw b).floor) (b:=2 ^ b) ((Zs.floor hp).mono (by omega)) (h2.mono (by omega)) (by omega) (Xgr b)
 have hd:=DivMod_ok (a:=x.num*2 ^ b) (b:=x.den) (by omega) (by omega) (Xbz x)
 rw [Xka] at hd
 refine En Tryz.func261 fun _ _ _=>?_
 refine Ce rfl (Xc1 (n:=b) (by omega)) ?_
 refine Dz rfl ?_
 refine Ce rfl (Mul_ok (by omega) (by omega)) ?_
 refine Ce rfl hd ?_
 refine Ce rfl hm ?_
 exact R1 rfl (.rf rfl)
theorem Yiw (hx : Qs s x) (hb : b≤1099511627776) (hs : s≤1099511627776) : C0 262 [.d (dq x),.d (.int .i64 b)] (·=.d (dq (upQ x b))):=by
 refine En Tryz.func262 fun _ _ _=>?_
 refine Ce rfl (Xjm hx (by omega)) ?_
 refine Ce rfl (Xul hx.neg hb hs) ?_
 refine Ce rfl (Xjm (Xun hx.neg b) (by omega)) ?_
 exact R1 rfl (.rf rfl)
theorem Xwj {p : Rat × Rat} (hp : Q2 s p) (hb : b≤1099511627776) (hs : s≤1099511627776) : C0 213 [.d (dI p),.d (.int .i64 b)] (·=.d (dI (rnd p b))):=by
 refine En Tryz.func213 fun _ _ _=>?_
 refine Dw rfl ?_
 refine Ce rfl (Xul hp.1 hb hs) ?_
 refine Ce rfl (Yiw hp.2 hb hs) ?_
 exact R1 rfl (Ygq rfl rfl)
theorem Xcq (hx : Qs s x) (hx0 : 0≤x) (hb : b≤1099511627776) (hs : s≤1099511627776) : C0 263 [.d (dq x),.d (.int .i64 b)] (·=.d (dq (Xc9 x b))):=by
 have h2 : Zs (2*b+1) (2 ^ (2*b) : Int):=Zs.two (W0a _)
 have hn2:=(hx.n.mul h2).len (by omega)
 have qx:=Xy2 (b:=b) hx
 have nx:=Xfu (b:=b) hx0
 have zx:=Xzc qx nx
 have fx:=Zs.floor qx
 rw [Xdv nx] at fx
 have lx:=Yb2 (show (sq2 x b).floor.toNat<_ from fx)
 have l1:=hx.n.len (by omega)
 have l2:=h2.len (by omega)
 have l3:=hx.d.len (by omega)
 have hd:=DivMod_ok (a:=x.num*2 ^ (2*b)) (b:=x.den) (by omega) (by omega) (Xbz x)
 rw [Xwa b hx0] at hd
 refine En Tryz.func263 fun _ _ _=>?_
 refine Dz rfl ?_
 refine Ar (2*b : Nat) rfl ?_
 refine Ce rfl (Xc1 (n:=2*b) (by omega)) ?_
 refine Ce rfl (Mul_ok (by omega) (by omega)) ?_
 refine Ce rfl hd ?_
 refine Ce rfl (Sqrt_ok (a:=(sq2 x b).floor.toNat) (by omega)) ?_
 refine Dz rfl ?_
 refine Ce rfl (Xc1 (n:=b) (by omega)) ?_
 refine Ce rfl (Xdj (p:=s+(2*b+2)) (a:=(rtF (sq2 x b) : Int)) (b:=2 ^ b) zx (Zs.two (by omega)) (by omega) (Xgr b)) ?_
 exact R1 rfl (.rf rfl)
theorem Xwk {p : Rat × Rat} (hp : Q2 s p) (hp0 : 0≤p.2) (hb : b≤1099511627776) (hs1 : 1≤s) (hs : s≤1099511627776) : C0 216 [.d (dI p),.d (.int .i64 b)] (·=.d (dI (rts p b))):=by
 have hm:=Xzt hp.1 hs1
 have hmk:=Xdj (p:=b+1) (a:=1) (b:=2 ^ b) (Zs.one (by omega)) (Zs.two (W0a _)) (by omega) (Xgr b)
 refine En Tryz.func216 fun _ _ _=>?_
 refine Ce rfl (Xe2 hp.1 (by omega)) ?_
 refine By rfl (fun h=>?_) fun h=>?_
 · have e : mx0 p.1=0:=if_pos (Yg7.1 h)
   rw [e] at hm
   refine Ce rfl (Xb2 (z:=0) (by decide)) ?_
   refine Ce rfl (FromInt_ok (z:=1) (by decide)) ?_
   refine Ce rfl (Xc1 (n:=b) (by omega)) ?_
   refine Ce rfl hmk ?_
   refine Dw rfl ?_
   refine Ce rfl (Xcq (x:=0) hm W6p hb hs) ?_
   refine Ce rfl (Xcq hp.2 hp0 hb hs) ?_
   refine Ce rfl (Xdf (Xjg hp.2 hp0 b) (Xi3 b) (by omega)) ?_
   exact R1 rfl (Ygq (by show dq _=dq (Xc9 (mx0 p.1) b);rw [e]) rfl)
 · have e : mx0 p.1=p.1:=if_neg (fun e=>h (Yg7.2 e))
   refine Ce rfl (FromInt_ok (z:=1) (by decide)) ?_
   refine Ce rfl (Xc1 (n:=b) (by omega)) ?_
   refine Ce rfl hmk ?_
   refine Dw rfl ?_
   refine Ce rfl (Xcq hp.1 (by rw [←e];exact Xfz _) hb hs) ?_
   refine Ce rfl (Xcq hp.2 hp0 hb hs) ?_
   refine Ce rfl (Xdf (Xjg hp.2 hp0 b) (Xi3 b) (by omega)) ?_
   exact R1 rfl (Ygq (by show dq _=dq (Xc9 (mx0 p.1) b);rw [e]) rfl)
end
theorem Xqr {k : Nat} : ∀ {s b : Nat} {t : Tw k} {a : Tow.El k},Xbm k t→TS s k t→Sz s (toL k a)→1≤s→k≤16→eB s b k≤274877906944→b≤274877906944→C0 163 [.d (dt t),.d (de a),.d (.int .i64 b)] (·=.d (dI (enc k t a b))):=by
 induction k with
 | zero =>
  intro s b t a hR hT ha hs1 hk hs hb
  have hs : s≤274877906944:=hs
  have key : ∀ y : Rat,Qs s y→C0 163 [.d (dts []),.d (dqs [y]),.d (.int .i64 b)] (·=.d (dI (y,y))):=fun y hy=>by
   refine En Tryz.func163 fun _ _ _=>?_
   refine Yes rfl rfl ?_
   refine Ix 0 rfl (u:=dq y) rfl ?_
   refine Ce rfl (Xt4 hy (by omega)) ?_
   exact R1 rfl (.rf rfl)
  exact key a (ha.qs (W0g.2 rfl))
 | succ k ih =>
  intro s b t a hR hT ha hs1 hk hs hb
  have hx : Sz s (toL k a.1):=Sz.left ha
  have hy : Sz s (toL k a.2):=Sz.right ha
  have hge:=Xxr s b k
  have hs' : 3*eB s b k+4*b+6≤274877906944:=hs
  have qu:=Xhr (b:=b) hR.1 hT.1 hx hs1
  have qv:=Xhr (b:=b) hR.1 hT.1 hy hs1
  have qr:=Xhr (b:=b) hR.1 hT.1 hT.2 hs1
  have hhi:=Xz8 hR b
  have qs:=Xza (b:=b) qr hhi (by omega)
  have qm:=Xs9 qv qs
  have qa:=Xvk qu qm
  have hlen:=Xab k
  have hp:=p16 hk
  refine En Tryz.func163 fun _ _ _=>?_
  refine No rfl (by show ¬ ((((toT k t.1++[toL k t.2]).map dqs).length : Nat) : Int)=0;rw [twL];omega) ?_
  refine Ar k rfl ?_ (tw1 t (by omega))
  refine Ar (2 ^ k : Nat) rfl ?_ (hvq a (by omega))
  refine Tk k ((toT k t.1).map dqs) rfl rfl (Xi5 t) (twT t) ?_
  refine Tk (2 ^ k) ((toL k a.1).map dq) rfl rfl (Xco a) (hvT a) ?_
  refine Ce rfl (ih hR.1 hT.1 hx hs1 (by omega) (by omega) hb) ?_
  refine Dp (2 ^ k) ((toL k a.2).map dq) rfl rfl (Xco a) (hvD a) ?_
  refine Ce rfl (Xjb (l:=toL k a.2) hy.ps (by omega) (by rw [hlen];have:=p16 (show k≤16 by omega);omega)) ?_
  refine By rfl (fun h=>?_) fun h=>?_
  · have he : enc (k+1) t a b=enc k t.1 a.1 b:=if_pos h
    exact R1 rfl (by rw [he];exact .rf rfl)
  · have he : enc (k+1) t a b=rnd (Xme (enc k t.1 a.1 b) (Xb5 (enc k t.1 a.2 b) (rts (enc k t.1 t.2 b) b))) b:=if_neg h
    refine Dz rfl ?_
    refine Dp (2 ^ k) ((toL k a.2).map dq) rfl rfl (Xco a) (hvD a) ?_
    refine Ce rfl (ih hR.1 hT.1 hy hs1 (by omega) (by omega) hb) ?_
    refine Ix k rfl (twU t) ?_
    refine Ce rfl (ih hR.1 hT.1 hT.2 hs1 (by omega) (by omega) hb) ?_
    refine Dw rfl ?_
    refine Ce rfl (Xwk qr hhi (by omega) (by omega) (by omega)) ?_
    refine Ce rfl (Yce qv qs (by omega)) ?_
    refine Ce rfl (Ycg qu qm (by omega)) ?_
    refine Ce rfl (Xwj qa (by omega) (by omega)) ?_
    rw [he]
    exact R1 rfl (.rf rfl)
theorem Xq4 {k : Nat} {t : Tw k} {a : Tow.El k} {bits P s : Nat} (hR : Xbm k t) (hw : ∀ b,P≤b→Wid (enc k t a b) bits) (hT : TS s k t) (ha : Sz s (toL k a)) (hs1 : 1≤s) (hk : k≤16) (hv : vB s k s≤4398046511104) (hb : bits≤1024) (hP : P≤1000000000) (he : eB s (2*(P+bits+16)) k≤274877906944) :
 C0 105 [.d (dt t),.d (de a),.d (.int .i64 bits)] fun v=>∃ p : Rat × Rat,v=.d (dI p)∧inI k t a p.1 p.2∧Wid p bits∧Q2 (eB s (2*(P+bits+16)) k) p:=by
 have hsb : s≤4398046511104:=W0i (Xff k s) hv
 obtain ⟨B,hB⟩ : ∃ B,B=eB s (2*(P+bits+16)) k:=⟨_,rfl⟩
 rw [←hB] at he ⊢
 have hq : ∀ b,b≤2*(P+bits+16)→Q2 B (enc k t a b):=fun b hb=>(Xhr hR hT ha hs1).mono (by rw [hB];exact Xnh hb k)
 refine En Tryz.func105 fun _ _ _=>?_
 refine No rfl (by omega) ?_
 refine No rfl (by omega) ?_
 refine Ce rfl (Xnc (l:=[toL k a]) (s:=s) hT hR hk hv hsb (fun x hx=>⟨a,W0g.1 hx,ha⟩) (by simp) hsb) ?_
 refine No rfl (by simp) ?_
 refine Ce rfl (FromInt_ok (z:=1) (by decide)) ?_
 refine Ce rfl (Xc1 (n:=bits) (by omega)) ?_
 refine Ce rfl (Xdj (p:=bits+1) (a:=1) (b:=2 ^ bits) (Zs.one (by omega)) (Zs.two (W0a _)) (by omega) (Xgr bits)) ?_
 refine Ar (bits+16 : Nat) rfl ?_
 refine Lo (fun (g : Nat)=>[(0,.d (dt t)),(1,.d (de a)),(6,.ptr 6 0),(7,.ptr 7 0),(9,.d (.int .i64 g))]) (fun _=>[(6,.var (.st (.pr (.st (.pr (.st (.pr (.b false) .nil)) (.st (.pr (.b false) .nil)))) (.st (.pr (.st (.pr (.b false) .nil)) (.st (.pr (.b false) .nil))))))),(7,.var (.d (dq (Rat.divInt 1 (2 ^ bits)))))]) (fun g=>1≤g∧g≤2*(P+bits+16)) (fun g=>2*(P+bits+16) - g) (bits+16) [] rfl ⟨by omega,by omega⟩ (fun g ⟨hg1,hg⟩=>?_)
 have hge:=hq g hg
 have heB : eB s g k≤274877906944:=W0i (Xnh hg k) (by omega)
 refine Ce rfl (Xqr hR hT ha hs1 hk heB (by omega)) ?_
 refine Dw rfl ?_
 refine Ce rfl (Xt3 hge (by omega)) ?_
 refine Ce rfl (Xg5 (by rw [W7a];exact hge.2.add hge.1.neg) (Xi3 bits) (by omega)) ?_
 refine By rfl (fun h=>?_) fun h=>?_
 · exact Rt rfl (.one (.rf rfl) rfl rfl) ⟨_,rfl,Xf0 hR a g,⟨Xuh hR a g,Yiv.1 h⟩,hge⟩
 · have hgP : g<P:=by
    by_cases hgP : g<P
    · exact hgP
    · exact absurd (Yiv.2 (hw g (by omega)).2) h
   refine Ar (2*g : Nat) rfl ?_
   exact Bk (2*g) [] rfl ⟨by omega,by omega⟩ (by show 2*(P+bits+16) - 2*g<2*(P+bits+16) - g;omega)
end
section
theorem RtOf.mg2 {r s : Rat × Rat} {b j : Nat} (R : RtOf r b s) (hr : r.2≤pw (2*j)) (h0 : 0≤r.2) : 0≤s.1∧s.2≤pw (j+1):=by
 have h1:=Xgw (b:=b) h0
 have h2:=Xcv (mx0 r.1) b
 rw [←R.lo] at h2
 refine ⟨h2,?_⟩
 have h3 : Xc9 r.2 b≤pw j:=Xpk (W2k (Xax j)) (W5r h1 (by rw [←Xzg];exact hr))
 have h4:=R.h
 have h5:=Xi4 b
 have h6:=Xfx j
 rw [Xch]
 grind
def mE (m : Nat) : Nat→Nat→Nat
 | 0,M=>M
 | k+1,M=>mE m k M+(mE m k m+1) / 2+2
def eE (m b : Nat) : Nat→Nat→Nat
 | 0,_=>2*b - 2
 | k+1,M=>min (eE m b k M) (eE m b k m / 2) - (max (mE m k M) ((mE m k m+1) / 2)+3)
theorem Yg0 (m b : Nat) : ∀ k M,eE m b k M≤2*b - 2
 | 0,_=>W0a _
 | k+1,M=>by have:=Yg0 m b k M;show min (eE m b k M) (eE m b k m / 2) - (max (mE m k M) ((mE m k m+1) / 2)+3)≤_;omega
theorem Yhc {k : Nat} {t : Tw (k+1)} {m b : Nat} (h : Xbm (k+1) t) (hr : Mg (bx k t.1 t.2 b) (mE m k m)) : 0≤(rtb (bx k t.1 t.2 b) b).1∧(rtb (bx k t.1 t.2 b) b).2≤pw ((mE m k m+1) / 2+1) :=
 (Xom _ b).mg2 (W5r hr.2 (Xg6 (by omega))) (Xkw h (Xnp h.1 t.2 b))
theorem Xly : ∀ {k : Nat} {t : Tw k} {a : El k} {m M : Nat} (b : Nat),Xbm k t→MgT m k t→MgL M (toL k a)→Mg (bx k t a b) (mE m k M)
 | 0,t,a,m,M,b,h,hT,ha=>Yfy (ha _ (W0g.2 rfl))
 | k+1,t,a,m,M,b,h,hT,ha=>by
  have hu:=Xly (a:=a.1) (M:=M) b h.1 hT.1 fun x hx=>ha x (W2f _ hx)
  have hv:=Xly (a:=a.2) (M:=M) b h.1 hT.1 fun x hx=>ha x (W1l _ hx)
  have hr:=Xly (M:=m) b h.1 hT.1 hT.2
  have h0:=Xkw h (Xnp h.1 t.2 b)
  rw [Xno]
  exact Xn9 hu hv (Yhc h hr) (Yez h0 (Yhd h.1 _ _)) (Yhd h.1 _ _)
theorem Xf2 : ∀ {k : Nat} {t : Tw k} {a : El k} {m M b : Nat},Xbm k t→MgT m k t→MgL M (toL k a)→0<eE m b k M→Wid (bx k t a b) (eE m b k M)
 | 0,t,a,m,M,b,h,hT,ha,he=>⟨W6p,(fun (x : Rat)=>(by grind : (x - x)*pw (eE m b 0 M)≤1)) a⟩
 | k+1,t,a,m,M,b,h,hT,ha,he=>by
  have he' : 0<min (eE m b k M) (eE m b k m / 2) - (max (mE m k M) ((mE m k m+1) / 2)+3):=he
  have hle:=Yg0 m b k m
  have hu:=Xf2 (a:=a.1) (m:=m) (M:=M) (b:=b) h.1 hT.1 (fun x hx=>ha x (W2f _ hx)) (by omega)
  have hv:=Xf2 (a:=a.2) (m:=m) (M:=M) (b:=b) h.1 hT.1 (fun x hx=>ha x (W1l _ hx)) (by omega)
  have hr:=Xf2 (m:=m) (M:=m) (b:=b) h.1 hT.1 hT.2 (by omega)
  have mv:=Xly (a:=a.2) (M:=M) b h.1 hT.1 fun x hx=>ha x (W1l _ hx)
  have mr:=Xly (M:=m) b h.1 hT.1 hT.2
  have ms:=Yhc h mr
  have h0:=Xkw h (Xnp h.1 t.2 b)
  rw [Xno]
  exact Xn8 (m:=max (mE m k M) ((mE m k m+1) / 2)) (hu.mono (by omega)) (hv.mono (by omega)) hr (by omega) (mv.mono (by omega)) ⟨ms.1,W5r ms.2 (Xg6 (by omega))⟩ h0 (Xom _ b) (by omega) (by omega) (by omega)
theorem Ydb {k : Nat} {t : Tw k} {a : El k} (h : Xbm k t) (hT : MgT 64 k t) (ha : MgL 300 (toL k a)) (hk : k≤3) : Wid (bx k t a 2048) 1:=by
 have hk : k=0∨k=1∨k=2∨k=3:=by omega
 rcases hk with rfl | rfl | rfl | rfl
 · exact (Xf2 h hT ha (show 0<eE 64 2048 0 300 by decide)).mono (by decide)
 · exact (Xf2 h hT ha (show 0<eE 64 2048 1 300 by decide)).mono (by decide)
 · exact (Xf2 h hT ha (show 0<eE 64 2048 2 300 by decide)).mono (by decide)
 · exact (Xf2 h hT ha (show 0<eE 64 2048 3 300 by decide)).mono (by decide)
theorem Xhs {k : Nat} {t : Tw k} {a : El k} {m : Nat} (h : Xbm k t) (hT : MgT m k t) (ha : MgL m (toL k a)) (hk : k≤3) (hm : m≤10000) : ∀ b,1000000≤b→Wid (enc k t a b) 1:=fun b hb=>by
 have key : ∀ e,(0<e→Wid (enc k t a b) e)→1≤e→Wid (enc k t a b) 1:=fun e h1 h2=>(h1 (by omega)).mono h2
 refine key _ (fun he=>Xpw h hT ha he) ?_
 have hk : k=0∨k=1∨k=2∨k=3:=by omega
 rcases hk with rfl | rfl | rfl | rfl <;> simp only [eW,mW] <;> omega
end
section
theorem Zs.pow {q : Nat} {z : Int} (h : Zs q z) (n : Nat) : Zs (q*n+1) (z ^ n):=by
 unfold Zs at *
 rw [Int.natAbs_pow]
 have h1 : z.natAbs ^ n≤(2 ^ q) ^ n:=W6r (W2c h) n
 rw [←W5n] at h1
 rw [W0p]
 have:=W0t (q*n)
 omega
theorem Zs.len2 {q : Nat} {z : Int} (h : Zs q z) (hq : q≤8000000000000) : (dig z.natAbs).length≤274877906944:=by
 have h1 : z.natAbs<4294967296 ^ (q / 32+1):=by
  rw [show 4294967296=2 ^ 32 from rfl,←W5n]
  exact W0r h (W0h (by decide) (by omega))
 have:=Xan h1
 omega
theorem Xxb {a : Int} (ha : (dig a.natAbs).length≤549755813888) : C0 109 [.d (dz a),.d (dz 1)] (·=.d (dz (a - 1))):=by
 have h1 : (dig (Int.natAbs (-1))).length≤549755813888:=W0i (Xan (n:=1) (k:=1) (by decide)) (by decide)
 have h:=Add_ok (a:=a) (b:=-1) ha h1
 have hc : C0 96 [.d (dz a),.d (.st (.pr (.bool (!decide ((1 : Int)<0))) (ws (dig (Int.natAbs 1)))))] (·=.d (dz (a - 1))):=h
 refine En Tryz.func109 fun _ _ _=>?_
 refine Ce rfl hc ?_
 exact R1 rfl (.rf rfl)
theorem Xsp {x : Rat} {p : Nat} (hx : Qs p x) (hp : p≤4398046511104) : C0 104 [.d (dq x)] (·=.d (dz x.floor)):=by
 have h:=DivMod_ok (a:=x.num) (b:=x.den) (W0i (hx.n.len (by omega)) (by decide)) (W0i (hx.d.len (by omega)) (by decide)) (Xbz x)
 have e : x.num.fdiv x.den=x.floor:=by
  have:=Xka x 0
  rw [show pw 0=1 from rfl,Rat.mul_one,Int.pow_zero,W4u] at this
  exact this
 rw [e] at h
 refine En Tryz.func104 fun _ _ _=>?_
 refine Ce rfl h ?_
 exact R1 rfl (.rf rfl)
theorem Ycd {n : Nat} {z : Int} {q : Nat} (hz : Zs q z) (hn : n≤4096) (hq : q≤100000) : C0 90 [.d (dz z),.d (.int .i64 n)] (·=.tup (.pr (.d (dz (z ^ n))) (.d (.int .i64 0)))):=by
 refine En Tryz.func90 fun _ _ _=>?_
 refine No rfl (by omega) ?_
 refine No rfl (by omega) ?_
 refine Dw rfl ?_
 refine Ce rfl (FromInt_ok (z:=1) (by decide)) ?_
 refine Ce rfl (Norm_ok (W0i (hz.len (by omega)) (by decide))) ?_
 refine Lo (fun ((m,o,e) : Nat × Nat × Nat)=>[(1,.d (.int .i64 m)),(4,.ptr 4 0),(5,.d (.int .i64 0)),(6,.ptr 6 0),(7,.ptr 7 0)]) (fun (m,o,e)=>[(4,.var (.st (.pr (.b false) .nil))),(6,.var (.d (dz (z ^ o)))),(7,.var (.d (dz (z ^ e))))]) (fun (m,o,e)=>o+e*m=n∧e≤max n 1∧m≤n) (fun (m,_,_)=>m) (n,0,1) [] rfl ⟨by omega,by omega,W0a n⟩ ?_ (by exact ⟨rfl,by show Xq7 _ [(4,Ob.var (AV.st (.pr (.b false) .nil))),(6,Ob.var (AV.d (dz (z ^ 0)))),(7,Ob.var (AV.d (dz (z ^ 1))))];rw [Int.pow_zero,show z ^ 1=z by rw [Int.pow_succ,Int.pow_zero,W5o]];rfl,rfl,rfl,rfl⟩)
 rintro ⟨m,o,e⟩ ⟨hm,he,hmn⟩
 have hsz : ∀ j,j≤4096→(dig (z ^ j).natAbs).length≤549755813888:=fun j hj=>by
  have:=Zs.pow hz j
  have hqj : q*j≤100000*4096:=W2a hq hj
  exact W0i (this.len (by omega)) (by decide)
 have ho : o≤4096:=by have:=W1d (e*m);omega
 have he4 : e≤4096:=by omega
 refine By rfl (fun h=>?_) fun h=>?_
 · have h : (m : Int) > 0:=h
   have hdm:=W2j m 2
   have hem : e*m=2*(e*(m / 2))+e*(m % 2):=by
    conv=>lhs;rw [←hdm,W0w]
    rw [W4l]
   have hq2 : arB .quo .i64 (m : Int) 2 ((m / 2 : Nat) : Int):=Yj2 (m:=2) rfl (by decide) (by omega)
   have sqr : ∀ e : Nat,z ^ e*z ^ e=z ^ (e+e):=fun e=>(Int.pow_add ..).symm
   refine Ar (m % 2 : Nat) rfl ?_ (show _∧_ from ⟨by decide,Xq6 m 2⟩)
   refine By rfl (fun h1=>?_) fun h1=>?_
   · have h1 : m % 2=1:=by omega
     rw [h1,W4c] at hem
     refine Ce rfl (Mul_ok (hsz o ho) (hsz e he4)) ?_
     rw [←Int.pow_add]
     refine Ar (m / 2 : Nat) rfl ?_ hq2
     refine By rfl (fun h2=>?_) fun h2=>?_
     · have he2 : e*1≤e*(m / 2):=W0m e (by omega)
       refine Ce rfl (Mul_ok (hsz e he4) (hsz e he4)) ?_
       rw [sqr]
       exact Bk (m / 2,o+e,e+e) [] rfl ⟨by rw [W1g];omega,by omega,by omega⟩ (by show m / 2<m;omega)
     · have h20 : m / 2=0:=by omega
       rw [h20] at hem
       exact Bk (m / 2,o+e,e) [] rfl ⟨by rw [h20];omega,he,by omega⟩ (by show m / 2<m;omega)
   · have h1 : m % 2=0:=by omega
     rw [h1,W2x] at hem
     refine Ar (m / 2 : Nat) rfl ?_ hq2
     have he2 : e*1≤e*(m / 2):=W0m e (by omega)
     refine Yes rfl (by omega) ?_
     refine Ce rfl (Mul_ok (hsz e he4) (hsz e he4)) ?_
     rw [sqr]
     exact Bk (m / 2,o,e+e) [] rfl ⟨by rw [W1g];omega,by omega,by omega⟩ (by show m / 2<m;omega)
 · have h : ¬ (m : Int) > 0:=h
   have hm0 : m=0:=by omega
   rw [hm0,W2x,W2i] at hm
   rw [hm]
   exact RTt rfl (.cons (.rf rfl) Xdo)
theorem Xr9 {k : Nat} {t : Tw k} {a : Tow.El k} {P s : Nat} (hR : Xbm k t) (hw : ∀ b,P≤b→Wid (enc k t a b) 1) (hT : TS s k t) (ha : Sz s (toL k a)) (hs1 : 1≤s) (hk : k≤16) (hP : P≤1000000000) (he : eB s (2*(P+1+16)) k≤274877906944) (hv : vB s k (s+eB s (2*(P+1+16)) k+4)≤4398046511104) :
 C0 50 [.d (dt t),.d (de a)] fun v=>∃ z,v=.d (dz z)∧Xbl k t a z∧(dig z.natAbs).length≤274877906944:=by
 have hsB:=W0i (Xff (r:=s) k _) hv
 obtain ⟨B,hB⟩ : ∃ B,B=eB s (2*(P+1+16)) k:=⟨_,rfl⟩
 have hvs : vB s k s≤4398046511104:=W0i (Xcu (by omega)) hv
 have hE:=Xq4 (bits:=1) hR hw hT ha hs1 hk hvs (by decide) hP he
 rw [←hB] at he hv hsB hE
 have hB1 : 1≤B:=by rw [hB];exact W0i hs1 (Xxr ..)
 refine En Tryz.func50 fun _ _ _=>?_
 refine Ce rfl (Xnc (l:=[toL k a]) (s:=s) hT hR hk hvs (by omega) (fun x hx=>⟨a,W0g.1 hx,ha⟩) (by simp) (by omega)) ?_
 refine No rfl (by simp) ?_
 refine Ca rfl hE fun v hv'=>?_
 obtain ⟨p,rfl,hin,hwd,hq⟩:=hv'
 have hz:=Zs.floor hq.2
 have hfl:=Xxh hR hin hwd
 have hl0:=Zs.len2 (z:=p.2.floor) hz (by omega)
 have hl1:=Zs.len2 (z:=p.2.floor - 1) (q:=B+1) (by unfold Zs at *;rw [W0p];omega) (by omega)
 have hmk:=Xdj (p:=B) (a:=p.2.floor) (b:=1) hz (Zs.one (by omega)) (by omega) (by decide)
 rw [Xni] at hmk
 have qz : Qs B ((p.2.floor : Int) : Rat):=Qs.int hz (by omega)
 have hzr:=Sz.rat k qz
 refine Ce rfl (Xsp hq.2 (by omega)) ?_
 refine Dw rfl ?_
 refine Ce rfl (FromInt_ok (z:=1) (by decide)) ?_
 refine Ce rfl hmk ?_
 refine Ce rfl (Xgv hT hk (by omega) qz (by omega)) ?_
 refine Ce rfl (Xjc hT ha hzr hk (by omega) (by omega)) ?_
 refine Ce rfl (Xi1 (s:=s+B+4) hT (by rw [Xaz,Xb0];exact (ha.add hzr.neg).mono (by omega)) hk hv (by omega)) ?_
 refine By rfl (fun h=>?_) fun h=>?_
 · refine Dw rfl ?_
   refine Ce rfl (FromInt_ok (z:=1) (by decide)) ?_
   refine Ce rfl (Xxb (W0i (hz.len (by omega)) (by decide))) ?_
   exact Rt rfl (.one (.rf rfl) rfl rfl) ⟨_,rfl,hfl.1 h,hl1⟩
 · exact Rt rfl (.one (.rf rfl) rfl rfl) ⟨_,rfl,hfl.2 h,hl0⟩
end
end Go.Proofs.YtclmecgphleeeaaGreatDoor
namespace Go.Vm
open Go
section
variable {c : Cx} {s : St} {p : Pl}
theorem Xqm {o : Oper} {v : AV} {us : Hpl} (h : nxO c.tb c.n s=some (p,o)) (hc : Xal o=false) (hdr : p.dr=false) (hr : Raw c.P o (sem p.E p.H) (v,us)) (k : p.nx' c v us) : StP c s:=by
 obtain ⟨hw,hd⟩:=Xw1 h
 refine Xo8 h (.inl ⟨hw,(Xnr hc).2 (.inr ⟨hdr,(v,us),hr,?_⟩)⟩)
 unfold aft
 rw [Xfl,←hd];exact Pl.nx'_eq.1 k
end
def AV.nl (o sz : Nat) : AV→AV
 | .nil=>.gr o sz []
 | .st a=>.st (a.nl o sz)
 | .pr a c=>.pr (a.nl o sz) (c.nl o sz)
 | a=>a
theorem Yl8 {W : GW} {θ : Loc} {o sz : Nat} (h0 : θ o=(none,0)) : ∀ {a : AV} {cs : List Value},AV.C W θ a cs→AV.C W θ (a.nl o sz) cs:=by
 intro a
 induction a with
 | st a ih=>intro cs h;exact ih h
 | pr a c iha ihc=>intro cs ⟨u,v,h,h1,h2⟩;exact ⟨u,v,h,iha h1,ihc h2⟩
 | nil=>intro cs ⟨p,h⟩;exact ⟨p,by rw [h,h0];rfl,.inl (by rw [h0]),by simp,by rw [h0];decide,.inl rfl⟩
 | _=>intro cs h;exact h
theorem Yfp {o sz i : Nat} : ∀ {a : AV},(a.nl o sz).ids i→i=o∨a.ids i:=by
 intro a
 induction a with
 | st a ih=>exact ih
 | pr a c iha ihc=>exact fun h=>h.elim (fun h=>(iha h).imp id .inl) fun h=>(ihc h).imp id .inr
 | nil=>exact .inl
 | _=>exact .inr
section
variable {c : Cx} {s : St} {p : Pl}
theorem nvS {K : List Kt} {E : Env} {H : Hpl} (q o' sz : Nat) {a : AV} (hv : look H q=some (.var a)) (hb : (Nat.blt o' 1000000 && !Xb3 H o')=true) (k : J c K (sem E ((q,.var (a.nl o' sz))::(o',.tok 0 sz)::H))) : J c K (sem E H):=by
 simp only [W0f,W1t] at hb
 have hb1:=Xpf hb.1
 have hn : look H o'=none:=Xbj hb.2
 have hq : q≠o':=fun e=>by rw [e,hn] at hv;cases hv
 rintro x w ⟨s0,W,θ,hw,hs,hθ,rfl⟩
 have st:=Stp.new0 (d:=o') hs.obs hb1 hn (x:=.tok 0 sz) ⟨by simp,by simp,.inl (by simp)⟩ (fun i h=>h)
 have h1:=hs.step0 st
 refine k x w ⟨_,W,_,hw,?_,fun i hi=>(st.hi i hi).trans (hθ i hi),rfl⟩
 rw [show sem E ((q,Ob.var (a.nl o' sz))::(o',Ob.tok 0 sz)::H)=(look E,upd (upd (look H) o' (.tok 0 sz)) q (.var (a.nl o' sz))) from by rw [Xa6,Xa6]]
 have hq1 : upd (look H) o' (.tok 0 sz) q=some (.var a):=by rw [Xam hq];exact hv
 have hdom : ∀ {i : Nat} {y : Ob},upd (look H) o' (.tok 0 sz) i=some y→∃ z,upd (upd (look H) o' (.tok 0 sz)) q (.var (a.nl o' sz)) i=some z:=fun {i y} hy=>by
  by_cases e : i=q
  · subst e;exact ⟨_,Xak _ _ _⟩
  · exact ⟨y,by rw [Xam e];exact hy⟩
 refine ⟨h1.fm,h1.rel,⟨fun i y hy=>?_,fun i y b hy hl hb=>?_,fun i j y y' b hy hy' hl hl' b1 b2=>?_,fun i y j hy hj=>?_⟩,fun t v i ht hi=>?_⟩
 · rcases Xae hy with ⟨e1,e2⟩ | ⟨e1,e2⟩
   · subst e1;subst e2
     obtain ⟨b,cs,T,r1,r2,r3,r4⟩:=h1.obs.r _ _ hq1
     exact ⟨b,cs,T,r1,r2,Yl8 (by simp) r3,r4⟩
   · exact h1.obs.r _ _ e2
 · rcases Xae hy with ⟨e1,e2⟩ | ⟨e1,e2⟩
   · subst e1;exact h1.obs.new _ _ b hq1 rfl hb
   · exact h1.obs.new _ _ b e2 hl hb
 · rcases Xae hy with ⟨e1,e2⟩ | ⟨e1,e2⟩ <;> rcases Xae hy' with ⟨f1,f2⟩ | ⟨f1,f2⟩
   · rw [e1,f1]
   · subst e1;exact h1.obs.dis _ _ _ _ b hq1 f2 rfl hl' b1 b2
   · subst f1;exact h1.obs.dis _ _ _ _ b e2 hq1 hl rfl b1 b2
   · exact h1.obs.dis _ _ _ _ b e2 f2 hl hl' b1 b2
 · rcases Xae hy with ⟨e1,e2⟩ | ⟨e1,e2⟩
   · subst e2
     rcases Yfp (a:=a) hj with h | h
     · exact hdom (y:=.tok 0 sz) (by rw [h];exact Xak _ _ _)
     · obtain ⟨z,hz⟩:=h1.obs.ids _ _ j hq1 h
       exact hdom hz
   · obtain ⟨z,hz⟩:=h1.obs.ids _ _ j e2 hj
     exact hdom hz
 · obtain ⟨z,hz⟩:=h1.ids t v i ht hi
   exact hdom hz
theorem Nv {K : List Kt} {E : Env} {H : Hpl} (q o' sz : Nat) {a : AV} (h : nxJ c.tb c.n s=some (K,E,H)) (k : StP c (.j [] K E ((q,.var (a.nl o' sz))::(o',.tok 0 sz)::H))) (hv : look H q=some (.var a):=by exact rfl) (hb : (Nat.blt o' 1000000 && !Xb3 H o')=true:=by exact rfl) : StP c s:=by
 unfold nxJ at h
 split at h <;> cases h
 rename_i hr
 exact go 1000 hr (nvS q o' sz hv hb k)
end
end Go.Vm
namespace Go.Proofs.YtclmecgphleeeaaGreatDoor
open Go Go.Vm Go.Num Go.Tow
theorem Xnm {l : List Rat} (h0 : 0<l.length) (hl : l.length≤1048576) : CA0 246 [.d (dqs l)] 4 (l.map dq):=by
 refine EnW Tryz.func246 fun _ _ _ _=>?_
 refine Ub rfl (fun h=>?_) ?_
 · exact absurd h (by intro e; have : l.length = 0 := by simpa using congrArg List.length e
                      omega)
 refine ApL (l.map dq) rfl rfl (by simpa using h0) (by simpa using W0i hl (by decide)) ?_
 exact Rw [(7,1000000)] [(1000000,.arr 4 (l.map dq))] rfl (.one (.rf rfl) rfl rfl) ⟨_,rfl,rfl,rfl⟩
namespace P8
end P8
open Go Go.Num Go.Tow
end Go.Proofs.YtclmecgphleeeaaGreatDoor
namespace Go.Proofs.YtclmecgphleeeaaGreatDoor.P8
open Go Go.Vm Go.Num Go.Tow Go.Proofs.YtclmecgphleeeaaGreatDoor
end Go.Proofs.YtclmecgphleeeaaGreatDoor.P8
namespace Go.Proofs.YtclmecgphleeeaaGreatDoor.P9
open Go Go.Vm Go.Num Go.Tow Go.Proofs.YtclmecgphleeeaaGreatDoor
section
theorem Xiu {x : Rat} {p : Nat} (hx : Qs p x) (hp : p≤4398046511104) : C0 93 [.d (dq x)] (·=.d (dq x)):=by
 have h1:=hx.n.len2 hp
 have h2:=hx.d.len2 hp
 refine En Tryz.func93 fun _ _ _=>?_
 refine Dw rfl ?_
 refine Ce rfl (Xbk (l:=dig x.num.natAbs) (by omega)) ?_
 refine Ce rfl (Xbk (l:=dig (x.den : Int).natAbs) (by omega)) ?_
 exact R0
theorem Xhu {l : List Rat} {p : Nat} (hl : Ps p l) (hp : p≤4398046511104) (hn : l.length≤1048576) : C0 248 [.d (dqs l)] (·=.d (dqs l)):=by
 have hll : (l.map dq).length=l.length:=by simp
 refine En Tryz.func248 fun _ _ _=>?_
 refine Mk l.length rfl (by omega) ?_ (by simp [hll])
 refine Lo (fun i : Nat=>[(0,.d (dqs l)),(2,.nil),(3,.own 8 4 0 l.length),(9,.d (dqs l)),(10,.d (.int .i64 (l.map dq).length)),(11,.d (.int .i64 i))]) (fun i=>[(8,.arr 4 (fl (l.map dq) rz i))]) (fun i=>i≤l.length) (fun i=>l.length - i) 0 [] rfl (by omega) (fun i hi=>?_) (by exact ⟨rfl,by rw [←Xj5 hll];rfl,rfl,rfl,rfl⟩)
 refine By rfl (fun g=>?_) fun g=>?_ <;> simp only [lq] at g
 · obtain ⟨u,hu⟩:=qat (l:=l) (k:=i) (by omega)
   refine Ix i rfl (mp hu) ?_
   refine Ce rfl (Xiu (hl u (W0l hu)) hp) ?_
   refine Eo i rfl (by omega) ?_
   refine Sto rfl (by rw [Xlh (by omega)];omega) (Xpr (u:=dq u) (by rw [W1s,hu];rfl)) ?_
   refine Ar (i+1 : Nat) rfl ?_
   exact Bk (i+1) [] rfl (show i+1≤l.length by omega) (by show l.length - (i+1)<l.length - i;omega)
 · refine R1 rfl (.own rfl (by rw [Xlh (by omega)];simp) ?_)
   rw [Xps (by omega),W1f]
   exact W0b (by simp)
theorem Xwg {x y : Rat} {p q : Nat} (hx : Qs p x) (hy : Qs q y) (hp : p+q≤8796093022208) : C0 273 [.d (dq x),.d (dq y)] (·=.b (dc (x=y))):=by
 refine En Tryz.func273 fun _ _ _=>?_
 refine Ce rfl (Xg5 hx hy hp) ?_
 exact R1 rfl (.bp (Xaw.trans ⟨fun h=>W0y fun e=>R9.cmpQ_ne.2 e h,fun e=>W0y fun h=>R9.cmpQ_ne.1 h e⟩))
theorem Xxo {l m : List Rat} {p q : Nat} (hl : Ps p l) (hm : Ps q m) (hp : p+q≤8796093022208) (hn : l.length≤1048576) : C0 272 [.d (dqs l),.d (dqs m),.d (.raw (.func (.func 273) #[] #[]))] (·=.b (dc (l=m))):=by
 refine En Tryz.func272 fun _ _ _=>?_
 refine By rfl (fun h=>?_) fun h=>?_ <;> simp only [lq] at h
 · exact R1 rfl (.bp ⟨nofun,fun e=>absurd (by rw [e]) h⟩)
 have h : l.length=m.length:=by omega
 refine Lo (fun k : Nat=>[(0,.d (dqs l)),(1,.d (dqs m)),(2,.d (.raw (.func (.func 273) #[] #[]))),(15,.d (dqs l)),(16,.d (.int .i64 (l.map dq).length)),(17,.d (.int .i64 k))]) (fun _=>[]) (fun k=>k≤l.length∧l.take k=m.take k) (fun k=>l.length - k) 0 [] rfl ⟨by omega,rfl⟩ fun k ⟨hk,ht⟩=>?_
 refine By rfl (fun h2=>?_) fun h2=>?_ <;> simp only [lq] at h2
 · obtain ⟨x,hx⟩:=qat (l:=l) (k:=k) (by omega)
   obtain ⟨y,hy⟩:=qat (l:=m) (k:=k) (by omega)
   refine Ix k rfl (mp hx) ?_
   refine Ix k rfl (mp hy) ?_
   refine Ce rfl (Xwg (hl x (W0l hx)) (hm y (W0l hy)) hp) ?_
   refine By rfl (fun h3=>?_) fun h3=>?_
   · have h3 : ¬ x=y:=by simpa [Xb9,Xaw] using h3
     exact R1 rfl (.bp ⟨nofun,fun e=>by subst e;rw [hx] at hy;injection hy with hy;exact absurd hy h3⟩)
   · have e : x=y:=by simpa [Xb9,Xaw] using h3
     refine Ar (k+1 : Nat) rfl ?_
     exact Bk (k+1) [] rfl ⟨by omega,by rw [W2b,W2b,hx,hy,ht,e]⟩ (by show l.length - (k+1)<l.length - k;omega)
 · rw [W0b (by omega),W0b (by omega)] at ht
   exact R1 rfl (.bp ⟨fun _=>ht,fun _=>rfl⟩)
theorem Xh2 {l m : List Rat} {p q : Nat} (hl : Ps p l) (hm : Ps q m) (hp : p+q≤8796093022208) (hn : l.length≤1048576) : C0 245 [.d (dqs l),.d (dqs m)] (·=.b (dc (l=m))):=by
 refine En Tryz.func245 fun _ _ _=>?_
 refine Ce rfl (Xxo hl hm hp hn) ?_
 exact R0
theorem Xxn {T U : List (List Rat)} {p q : Nat} (hT : Pt p T) (hU : Pt q U) (hp : p+q≤8796093022208) (hl : T.length≤16) : C0 244 [.d (dts T),.d (dts U),.d (.raw (.func (.func 245) #[] #[]))] (·=.b (dc (T=U))):=by
 refine En Tryz.func244 fun _ _ _=>?_
 refine By rfl (fun h=>?_) fun h=>?_ <;> simp only [lt'] at h
 · exact R1 rfl (.bp ⟨nofun,fun e=>absurd (by rw [e]) h⟩)
 have h : T.length=U.length:=by omega
 refine Lo (fun k : Nat=>[(0,.d (dts T)),(1,.d (dts U)),(2,.d (.raw (.func (.func 245) #[] #[]))),(15,.d (dts T)),(16,.d (.int .i64 (T.map dqs).length)),(17,.d (.int .i64 k))]) (fun _=>[]) (fun k=>k≤T.length∧T.take k=U.take k) (fun k=>T.length - k) 0 [] rfl ⟨by omega,rfl⟩ fun k ⟨hk,ht⟩=>?_
 refine By rfl (fun h2=>?_) fun h2=>?_ <;> simp only [lt'] at h2
 · obtain ⟨x,hx⟩ : ∃ x,T[k]?=some x:=⟨_,W0d (by omega)⟩
   obtain ⟨y,hy⟩ : ∃ y,U[k]?=some y:=⟨_,W0d (by omega)⟩
   obtain ⟨x1,x2⟩:=hT k x hx
   obtain ⟨y1,y2⟩:=hU k y hy
   have:=p16 (show k≤16 by omega)
   refine Ix k rfl (mp hx) ?_
   refine Ix k rfl (mp hy) ?_
   refine Ce rfl (Xh2 x2 y2 hp (by omega)) ?_
   refine By rfl (fun h3=>?_) fun h3=>?_
   · have h3 : ¬ x=y:=by simpa [Xb9,Xaw] using h3
     exact R1 rfl (.bp ⟨nofun,fun e=>by subst e;rw [hx] at hy;injection hy with hy;exact absurd hy h3⟩)
   · have e : x=y:=by simpa [Xb9,Xaw] using h3
     refine Ar (k+1 : Nat) rfl ?_
     exact Bk (k+1) [] rfl ⟨by omega,by rw [W2b,W2b,hx,hy,ht,e]⟩ (by show T.length - (k+1)<T.length - k;omega)
 · rw [W0b (by omega),W0b (by omega)] at ht
   exact R1 rfl (.bp ⟨fun _=>ht,fun _=>rfl⟩)
theorem Xaq {T U : List (List Rat)} {p q : Nat} (hT : Pt p T) (hU : Pt q U) (hp : p+q≤8796093022208) (hl : T.length≤16) : C0 198 [.d (dts T),.d (dts U)] (·=.b (dc (T.take U.length=U))):=by
 refine En Tryz.func198 fun _ _ _=>?_
 refine By rfl (fun h=>?_) fun h=>?_ <;> simp only [lt'] at h
 · have hq : Pt p (T.take U.length):=fun i r hi=>by
    rw [W1c] at hi
    split at hi
    · exact hT i r hi
    · cases hi
   refine Tk U.length ((T.take U.length).map dqs) rfl rfl (by simp only [lt'];omega) (by rw [W2g]) ?_ (by simp only [lt'])
   refine Ce rfl (Xxn hq hU hp (by rw [W0j];omega)) ?_
   exact R0
 · exact R1 rfl (.bp ⟨nofun,fun e=>absurd (congrArg List.length e) (by rw [W0j];omega)⟩)
theorem Yfg {T : List (List Rat)} {l : List Rat} (h0 : 0<l.length) (hT : T.length≤16) (hl : l.length≤2 ^ T.length) : C0 199 [.d (dts T),.d (dqs l)] (·=.d (dqs (l++List.replicate (2 ^ T.length - l.length) 0))):=by
 have hp:=p16 hT
 obtain ⟨n,hn⟩ : ∃ n,n=2 ^ T.length:=⟨_,rfl⟩
 rw [←hn] at hp hl ⊢
 refine En Tryz.func199 fun _ _ _=>?_
 refine Cr rfl (Xnm h0 (by omega)) ?_
 refine Lo (fun k : Nat=>[(0,.d (dts T)),(5,.own 7 4 0 ((l++List.replicate k 0).map dq).length)]) (fun k=>[(7,.arr 4 ((l++List.replicate k 0).map dq))]) (fun k=>l.length+k≤n) (fun k=>n - k) 0 [] rfl (by omega) (fun k hk=>?_) (by exact ⟨by simp;rfl,by simp;rfl,rfl,rfl,rfl⟩)
 refine Ar n rfl ?_ (by rw [hn];simp only [lt'];exact Xb1 (by omega))
 refine By rfl (fun h=>?_) fun h=>?_ <;> simp only [lq,W0c,W1y] at h
 · refine Ce rfl (Xb2 (z:=0) (by decide)) ?_
   refine ApO ((l++List.replicate (k+1) 0).map dq) rfl rfl rfl (by rw [W5z];simp) (by simp;omega) ?_
   exact Bk (k+1) [(7,90),(17,7)] rfl (show l.length+(k+1)≤n by omega) (by show n - (k+1)<n - k;omega)
 · refine R1 rfl (.own rfl (by omega) ?_)
   rw [W1f,show n - l.length=k by omega]
   exact W0b (by simp)
theorem Xo3 {k m : Nat} {s : Tow.El k} {b : Tow.El m} {T : Tw m} (h : Lf s b) (hk : k≤m) (hm : m≤16) : C0 199 [.d (dt T),.d (de s)] (·=.d (de b)):=by
 have:=Yfg (T:=toT m T) (l:=toL k s) (by rw [Xab];exact W0t k) (by rw [Xaa];omega) (by rw [Xab,Xaa];exact W0h (by decide) hk)
 rw [Xaa,Xab,←h] at this
 exact this
end
section
theorem Xfa {x : Nm} {r p : Nat} (hr : TS r x.k x.t) (hp : Sz p (toL x.k x.a)) (hk : x.k≤16) (h1 : r≤4398046511104) (h2 : p≤4398046511104) : C0 202 [.d (dN x)] (·=.d (dN x)):=by
 have hpk:=p16 hk
 refine En Tryz.func202 fun _ _ _=>?_
 refine Ce rfl (Xhu hp.ps h2 (by rw [Xab];omega)) ?_
 refine Nv 3 7 1 rfl ?_
 refine Lo (fun (i : Nat)=>[(2,.ptr 2 0),(3,.ptr 3 0),(11,.d (dt x.t)),(12,.d (.int .i64 ((toT x.k x.t).map dqs).length)),(13,.d (.int .i64 i))]) (fun i=>[(2,.var (.st (.pr .nil .nil))),(3,.var (.st (.pr (.gr 7 1 (((toT x.k x.t).take i).map dqs)) (.d (de x.a))))),(7,.tok (((toT x.k x.t).take i).map dqs).length 1)])
  (fun i=>i≤x.k) (fun i=>x.k - i) 0 [] rfl (W1d _) (fun i hi=>?_)
 refine By rfl (fun h=>?_) fun h=>?_ <;> simp only [lt',Xaa] at h
 · obtain ⟨w,y,y1,y2,y3,_⟩:=Tw.take (t:=x.t) (i:=i) (by omega)
   have hy:=(y3 r hr).2
   refine Ix i rfl (mp y2) ?_
   refine Dw rfl ?_
   refine Ce rfl (Xhu hy.ps h1 (by rw [Xab];have:=p16 (show i≤16 by omega);omega)) ?_
   refine ApG (((toT x.k x.t).take (i+1)).map dqs) rfl (by rw [W2b,y2];simp) (by simp [Xaa];omega) ?_
   refine Ar (i+1 : Nat) rfl ?_
   exact Bk (i+1) [(7,90),(22,7)] rfl (show i+1≤x.k by omega) (by show x.k - (i+1)<x.k - i;omega)
 · have e : (toT x.k x.t).take i=toT x.k x.t:=W0b (by rw [Xaa];omega)
   refine R1 rfl (.sd (.pd (.gr ?_) (.rf rfl)))
   rw [e]
section
variable {K : Nat} {G : Tw K} {S : List (Tow.El K)} {r p : Nat} {x y : Nm} {vx vy : Tow.El K}
theorem FromRat_ok {q : Rat} {p : Nat} (hq : Qs p q) (hp : p≤4398046511104) : C0 44 [.d (dq q)] (·=.d (dN ⟨0,(),q⟩)):=by
 refine En Tryz.func44 fun _ _ _=>?_
 refine Ce rfl (Xiu hq hp) ?_
 exact R1 rfl (.sd (.pd (.nil rfl) (.lit rfl)))
end
end
section
abbrev nq (q : Rat) : Nm:=⟨0,(),q⟩
theorem Xzw {k : Nat} {q : Rat} : Lf (k:=0) (m:=k) q (rat k q):=by
 show toL k (rat k q)=[q]++_
 rw [Xce];rfl
section
variable {r p s : Nat} {x : Nm} {q : Rat}
theorem Xxz (hr : TS r x.k x.t) (hk : x.k≤8) (hr2 : r≤4000000000) : C0 197 [.d (dNs [x,nq q])] (·=.tup (.pr (.d (dt x.t)) (.d (.int .i64 0)))):=by
 refine En Tryz.func197 fun _ _ _=>?_
 refine Nd 4 1 rfl ?_
 refine Lo (fun (s : Nat × (Σ m,Tw m))=>[(2,.nil),(3,.d (.int .i64 0)),(4,.d (dt s.2.2)),(9,.d (dNs [x,nq q])),(10,.d (.int .i64 2)),(11,.d (.int .i64 s.1))]) (fun _=>[]) (fun s=>(s.1=0∧s.2=⟨0,()⟩)∨(s.1=1∧s.2=⟨x.k,x.t⟩)∨(s.1=2∧s.2=⟨x.k,x.t⟩)) (fun s=>2 - s.1) (0,⟨0,()⟩) [] rfl (.inl ⟨rfl,rfl⟩) (fun (i,⟨m,T⟩) hI=>?_)
 simp only at hI
 rcases hI with ⟨rfl,e⟩ | ⟨rfl,e⟩ | ⟨rfl,e⟩
 · cases e
   refine Yes rfl (show ((0 : Nat) : Int)<2 by decide) ?_
   refine Ix 0 rfl (u:=dN x) rfl ?_
   refine Ce rfl (Xaq (T:=[]) (U:=toT x.k x.t) (p:=1) (fun i r h=>by simp at h) (TS.pt hr) (by omega) (by decide)) ?_
   refine By rfl (fun h=>?_) fun h=>?_
   · obtain ⟨kx,tx,ax⟩:=x
     have h : []=toT kx tx:=by simpa using h
     obtain rfl : kx=0:=by have:=congrArg List.length h;rw [Xaa] at this;exact this.symm
     refine Ar (0+1 : Nat) rfl ?_
     exact Bk (1,⟨0,tx⟩) [] rfl (.inr (.inl ⟨rfl,rfl⟩)) (show 1<2 by decide)
   · refine Ce rfl (Xaq (U:=[]) (q:=1) (TS.pt hr) (fun i r h=>by simp at h) (by omega) (by rw [Xaa];omega)) ?_
     refine Yes rfl (by simp) ?_
     refine Ar (0+1 : Nat) rfl ?_
     exact Bk (1,⟨x.k,x.t⟩) [] rfl (.inr (.inl ⟨rfl,rfl⟩)) (show 1<2 by decide)
 · cases e
   refine Yes rfl (show ((1 : Nat) : Int)<2 by decide) ?_
   refine Ix 1 rfl (u:=dN (nq q)) rfl ?_
   refine Ce rfl (Xaq (T:=toT x.k x.t) (U:=[]) (q:=1) (TS.pt hr) (fun i r h=>by simp at h) (by omega) (by rw [Xaa];omega)) ?_
   refine Yes rfl (by simp) ?_
   refine Ar (1+1 : Nat) rfl ?_
   exact Bk (2,⟨x.k,x.t⟩) [] rfl (.inr (.inr ⟨rfl,rfl⟩)) (show 0<1 by decide)
 · cases e
   refine No rfl (show ¬ ((2 : Nat) : Int)<2 by decide) ?_
   exact R0t
theorem Yhx (hr : TS r x.k x.t) (hp : Sz p (toL x.k x.a)) (hq : Qs s q) (hk : x.k≤8) (hr2 : r≤4000000000) (hp2 : p≤4000000000) (hs2 : s<4000000000) : C0 148 [.d (dNs [x,nq q])] (·=.tup (.pr (.d (dNs [x,⟨x.k,x.t,rat x.k q⟩])) (.d (.int .i64 0)))):=by
 have hc:=Xxz (q:=q) hr hk hr2
 refine En Tryz.func148 fun _ _ _=>?_
 refine Ce rfl hc ?_
 refine No rfl (by decide) ?_
 refine Nl 6 6 2 rfl ?_
 refine Lo (fun (j : Nat)=>[(2,.nil),(3,.d (.int .i64 0)),(4,.d (dt x.t)),(6,.gr 6 2 (([x,⟨x.k,x.t,rat x.k q⟩].take j).map dN)),(20,.d (dNs [x,nq q])),(21,.d (.int .i64 2)),(22,.d (.int .i64 j))]) (fun j=>[(6,.tok (([x,⟨x.k,x.t,rat x.k q⟩].take j).map dN).length 2)])
  (fun j=>j≤2) (fun j=>2 - j) 0 [] rfl (W1d _) (fun j hj=>?_)
 have hj : j=0∨j=1∨j=2:=by omega
 rcases hj with rfl | rfl | rfl
 · refine Yes rfl (show ((0 : Nat) : Int)<2 by decide) ?_
   refine Ix 0 rfl (u:=dN x) rfl ?_
   refine Ce rfl (Xaq (T:=toT x.k x.t) (U:=toT x.k x.t) (TS.pt hr) (TS.pt hr) (by omega) (by rw [Xaa];omega)) ?_
   refine Yes rfl (W2r ..) ?_
   refine Ce rfl (Xo3 (T:=x.t) (Lf.rfl' x.a) (W0a _) (by omega)) ?_
   refine Ce rfl (Xfa (x:=x) hr hp (by omega) (by omega) (by omega)) ?_
   refine ApG ([x].map dN) rfl (by simp) (by simp) ?_
   refine Ar (0+1 : Nat) rfl ?_
   exact Bk 1 [(6,90),(56,6)] rfl (show 1≤2 by decide) (show 2 - 1<2 - 0 by decide)
 · refine Yes rfl (show ((1 : Nat) : Int)<2 by decide) ?_
   refine Ix 1 rfl (u:=dN (nq q)) rfl ?_
   refine Ce rfl (Xaq (T:=toT x.k x.t) (U:=[]) (q:=1) (TS.pt hr) (fun i r h=>by simp at h) (by omega) (by rw [Xaa];omega)) ?_
   refine Yes rfl (by simp) ?_
   refine Ce rfl (Xo3 (k:=0) (T:=x.t) (Xzw (q:=q)) (W1d _) (by omega)) ?_
   refine Ce rfl (Xfa (x:=⟨x.k,x.t,rat x.k q⟩) hr (Sz.rat x.k hq) (show _≤16 from by show x.k≤16;omega) (by omega) (by omega)) ?_
   refine ApG ([x,⟨x.k,x.t,rat x.k q⟩].map dN) rfl (by simp) (by simp) ?_
   refine Ar (1+1 : Nat) rfl ?_
   exact Bk 2 [(6,90),(56,6)] rfl (show 2≤2 by decide) (show 2 - 2<2 - 1 by decide)
 · refine No rfl (show ¬ ((2 : Nat) : Int)<2 by decide) ?_
   exact RTt rfl (.cons (.gr rfl) Xdo)
theorem Xhw {f : FuncId} {z : Tow.El x.k} (hf : C0 f [.d (dt x.t),.d (de x.a),.d (de (rat x.k q))] (·=.d (de z))) (hr : TS r x.k x.t) (hp : Sz p (toL x.k x.a)) (hq : Qs s q) (hk : x.k≤8) (hr2 : r≤4000000000) (hp2 : p≤4000000000) (hs2 : s<4000000000) : C0 91 [.d (dN x),.d (dN (nq q)),.d (fnD f)] (·=.tup (.pr (.d (dN ⟨x.k,x.t,z⟩)) (.d (.int .i64 0)))):=by
 refine En Tryz.func91 fun _ _ _=>?_
 refine Ce rfl (Yhx hr hp hq hk hr2 hp2 hs2) ?_
 refine No rfl (by simp) ?_
 refine Ix 0 rfl (u:=dN x) rfl ?_
 refine Dw rfl ?_
 refine Ix 0 rfl (u:=dN x) rfl ?_
 refine Ix 1 rfl (u:=dN ⟨x.k,x.t,rat x.k q⟩) rfl ?_
 refine Ce rfl hf ?_
 exact RTt rfl (.cons (.rf rfl) Xdo)
theorem Ykq (hr : TS r x.k x.t) (hp : Sz p (toL x.k x.a)) (hq : Qs s q) (hk : x.k≤8) (hr2 : r≤4000000000) (hp2 : p≤2000000000) (hs2 : s<2000000000) : C0 49 [.d (dN x),.d (dN (nq q))] (·=.tup (.pr (.d (dN ⟨x.k,x.t,Tow.add x.k x.a (rat x.k q)⟩)) (.d (.int .i64 0)))):=by
 refine En Tryz.func49 fun _ _ _=>?_
 refine Ce rfl (Xhw (Yax hr hp (Sz.rat x.k hq) (by omega) (by omega) (by omega)) hr hp hq hk hr2 (by omega) (by omega)) ?_
 exact R0t
theorem Yhw (hr : TS r x.k x.t) (hp : Sz p (toL x.k x.a)) (hq : Qs s q) (hk : x.k≤8) (hr2 : r≤4000000000) (hp2 : p≤2000000000) (hs2 : s<2000000000) (hc : cB r x.k≤1000000000) : C0 43 [.d (dN x),.d (dN (nq q))] (·=.tup (.pr (.d (dN ⟨x.k,x.t,Tow.mul x.k x.t x.a (rat x.k q)⟩)) (.d (.int .i64 0)))):=by
 refine En Tryz.func43 fun _ _ _=>?_
 refine Ce rfl (Xhw (Xjd hr hp (Sz.rat x.k hq) (by omega) (by omega) (by omega)) hr hp hq hk hr2 (by omega) (by omega)) ?_
 exact R0t
theorem Xx0 (hr : TS r x.k x.t) (hk : x.k≤8) (hr2 : r≤4000000000) : C0 197 [.d (dNs [nq q,x])] (·=.tup (.pr (.d (dt x.t)) (.d (.int .i64 0)))):=by
 refine En Tryz.func197 fun _ _ _=>?_
 refine Nd 4 1 rfl ?_
 refine Lo (fun (s : Nat × (Σ m,Tw m))=>[(2,.nil),(3,.d (.int .i64 0)),(4,.d (dt s.2.2)),(9,.d (dNs [nq q,x])),(10,.d (.int .i64 2)),(11,.d (.int .i64 s.1))]) (fun _=>[]) (fun s=>(s.1=0∧s.2=⟨0,()⟩)∨(s.1=1∧s.2=⟨0,()⟩)∨(s.1=2∧s.2=⟨x.k,x.t⟩)) (fun s=>2 - s.1) (0,⟨0,()⟩) [] rfl (.inl ⟨rfl,rfl⟩) (fun (i,⟨m,T⟩) hI=>?_)
 simp only at hI
 rcases hI with ⟨rfl,e⟩ | ⟨rfl,e⟩ | ⟨rfl,e⟩
 · cases e
   refine Yes rfl (show ((0 : Nat) : Int)<2 by decide) ?_
   refine Ix 0 rfl (u:=dN (nq q)) rfl ?_
   refine Ce rfl (Xaq (T:=[]) (U:=[]) (p:=1) (q:=1) (fun i r h=>by simp at h) (fun i r h=>by simp at h) (by omega) (by decide)) ?_
   refine Yes rfl (by simp) ?_
   refine Ar (0+1 : Nat) rfl ?_
   exact Bk (1,⟨0,()⟩) [] rfl (.inr (.inl ⟨rfl,rfl⟩)) (show 1<2 by decide)
 · cases e
   refine Yes rfl (show ((1 : Nat) : Int)<2 by decide) ?_
   refine Ix 1 rfl (u:=dN x) rfl ?_
   refine Ce rfl (Xaq (T:=[]) (U:=toT x.k x.t) (p:=1) (fun i r h=>by simp at h) (TS.pt hr) (by omega) (by decide)) ?_
   refine By rfl (fun h=>?_) fun h=>?_
   · obtain ⟨kx,tx,ax⟩:=x
     have h : []=toT kx tx:=by simpa using h
     obtain rfl : kx=0:=by have:=congrArg List.length h;rw [Xaa] at this;exact this.symm
     refine Ar (1+1 : Nat) rfl ?_
     exact Bk (2,⟨0,tx⟩) [] rfl (.inr (.inr ⟨rfl,rfl⟩)) (show 0<1 by decide)
   · refine Ce rfl (Xaq (U:=[]) (q:=1) (TS.pt hr) (fun i r h=>by simp at h) (by omega) (by rw [Xaa];omega)) ?_
     refine Yes rfl (by simp) ?_
     refine Ar (1+1 : Nat) rfl ?_
     exact Bk (2,⟨x.k,x.t⟩) [] rfl (.inr (.inr ⟨rfl,rfl⟩)) (show 0<1 by decide)
 · cases e
   refine No rfl (show ¬ ((2 : Nat) : Int)<2 by decide) ?_
   exact R0t
theorem Yhy (hr : TS r x.k x.t) (hp : Sz p (toL x.k x.a)) (hq : Qs s q) (hk : x.k≤8) (hr2 : r≤4000000000) (hp2 : p≤4000000000) (hs2 : s<4000000000) : C0 148 [.d (dNs [nq q,x])] (·=.tup (.pr (.d (dNs [⟨x.k,x.t,rat x.k q⟩,x])) (.d (.int .i64 0)))):=by
 have hc:=Xx0 (q:=q) hr hk hr2
 refine En Tryz.func148 fun _ _ _=>?_
 refine Ce rfl hc ?_
 refine No rfl (by decide) ?_
 refine Nl 6 6 2 rfl ?_
 refine Lo (fun (j : Nat)=>[(2,.nil),(3,.d (.int .i64 0)),(4,.d (dt x.t)),(6,.gr 6 2 (([⟨x.k,x.t,rat x.k q⟩,x].take j).map dN)),(20,.d (dNs [nq q,x])),(21,.d (.int .i64 2)),(22,.d (.int .i64 j))]) (fun j=>[(6,.tok (([⟨x.k,x.t,rat x.k q⟩,x].take j).map dN).length 2)])
  (fun j=>j≤2) (fun j=>2 - j) 0 [] rfl (W1d _) (fun j hj=>?_)
 have hj : j=0∨j=1∨j=2:=by omega
 rcases hj with rfl | rfl | rfl
 · refine Yes rfl (show ((0 : Nat) : Int)<2 by decide) ?_
   refine Ix 0 rfl (u:=dN (nq q)) rfl ?_
   refine Ce rfl (Xaq (T:=toT x.k x.t) (U:=[]) (q:=1) (TS.pt hr) (fun i r h=>by simp at h) (by omega) (by rw [Xaa];omega)) ?_
   refine Yes rfl (by simp) ?_
   refine Ce rfl (Xo3 (k:=0) (T:=x.t) (Xzw (q:=q)) (W1d _) (by omega)) ?_
   refine Ce rfl (Xfa (x:=⟨x.k,x.t,rat x.k q⟩) hr (Sz.rat x.k hq) (show _≤16 from by show x.k≤16;omega) (by omega) (by omega)) ?_
   refine ApG ([⟨x.k,x.t,rat x.k q⟩].map dN) rfl (by simp) (by simp) ?_
   refine Ar (0+1 : Nat) rfl ?_
   exact Bk 1 [(6,90),(56,6)] rfl (show 1≤2 by decide) (show 2 - 1<2 - 0 by decide)
 · refine Yes rfl (show ((1 : Nat) : Int)<2 by decide) ?_
   refine Ix 1 rfl (u:=dN x) rfl ?_
   refine Ce rfl (Xaq (T:=toT x.k x.t) (U:=toT x.k x.t) (TS.pt hr) (TS.pt hr) (by omega) (by rw [Xaa];omega)) ?_
   refine Yes rfl (W2r ..) ?_
   refine Ce rfl (Xo3 (T:=x.t) (Lf.rfl' x.a) (W0a _) (by omega)) ?_
   refine Ce rfl (Xfa (x:=x) hr hp (by omega) (by omega) (by omega)) ?_
   refine ApG ([⟨x.k,x.t,rat x.k q⟩,x].map dN) rfl (by simp) (by simp) ?_
   refine Ar (1+1 : Nat) rfl ?_
   exact Bk 2 [(6,90),(56,6)] rfl (show 2≤2 by decide) (show 2 - 2<2 - 1 by decide)
 · refine No rfl (show ¬ ((2 : Nat) : Int)<2 by decide) ?_
   exact RTt rfl (.cons (.gr rfl) Xdo)
theorem Xu1 {f : FuncId} {z : Tow.El x.k} (hf : C0 f [.d (dt x.t),.d (de (rat x.k q)),.d (de x.a)] (·=.d (de z))) (hr : TS r x.k x.t) (hp : Sz p (toL x.k x.a)) (hq : Qs s q) (hk : x.k≤8) (hr2 : r≤4000000000) (hp2 : p≤4000000000) (hs2 : s<4000000000) : C0 91 [.d (dN (nq q)),.d (dN x),.d (fnD f)] (·=.tup (.pr (.d (dN ⟨x.k,x.t,z⟩)) (.d (.int .i64 0)))):=by
 refine En Tryz.func91 fun _ _ _=>?_
 refine Ce rfl (Yhy hr hp hq hk hr2 hp2 hs2) ?_
 refine No rfl (by simp) ?_
 refine Ix 0 rfl (u:=dN ⟨x.k,x.t,rat x.k q⟩) rfl ?_
 refine Dw rfl ?_
 refine Ix 0 rfl (u:=dN ⟨x.k,x.t,rat x.k q⟩) rfl ?_
 refine Ix 1 rfl (u:=dN x) rfl ?_
 refine Ce rfl hf ?_
 exact RTt rfl (.cons (.rf rfl) Xdo)
theorem Ykm (hR : Xbm x.k x.t) (hr : TS r x.k x.t) (hp : Sz p (toL x.k x.a)) (hq : Qs s q) (hk : x.k≤8) (hr2 : r≤4000000000) (hp2 : p≤2000000000) (hs2 : s<2000000000) (hv : vB r x.k (p+s+4)≤4398046511104) (hv2 : vB r x.k r≤4398046511104) :
 C0 47 [.d (dN x),.d (dN (nq q))] (·=.tup (.pr (.d (.int .i64 (sgn x.k x.t (Tow.add x.k x.a (Tow.neg x.k (rat x.k q)))))) (.d (.int .i64 0)))):=by
 have hS : C0 99 [.d (dN x),.d (dN (nq q))] (·=.tup (.pr (.d (dN ⟨x.k,x.t,Tow.add x.k x.a (Tow.neg x.k (rat x.k q))⟩)) (.d (.int .i64 0)))):=by
  refine En Tryz.func99 fun _ _ _=>?_
  refine Ce rfl (Xhw (Xjc hr hp (Sz.rat x.k hq) (by omega) (by omega) (by omega)) hr hp hq hk hr2 (by omega) (by omega)) ?_
  exact R0t
 have hz : Sz (p+s+4) (toL x.k (Tow.add x.k x.a (Tow.neg x.k (rat x.k q)))):=by rw [Xaz,Xb0];exact (hp.add (Sz.rat x.k hq).neg).mono (by omega)
 have hG : C0 100 [.d (dN ⟨x.k,x.t,Tow.add x.k x.a (Tow.neg x.k (rat x.k q))⟩)] (·=.d (.int .i64 (sgn x.k x.t (Tow.add x.k x.a (Tow.neg x.k (rat x.k q)))))):=by
  refine En Tryz.func100 fun _ _ _=>?_
  refine Ce rfl (Xvo hr hz hR (show x.k≤16 by omega) hv hv2 (by omega)) ?_
  exact R0
 refine En Tryz.func47 fun _ _ _=>?_
 refine Ce rfl hS ?_
 refine No rfl (by simp) ?_
 refine Ce rfl hG ?_
 exact RTt rfl (.cons (.rf rfl) Xdo)
theorem Yko (hR : Xbm x.k x.t) (hr : TS r x.k x.t) (hp : Sz p (toL x.k x.a)) (hq : Qs s q) (hk : x.k≤8) (hr2 : r≤4000000000) (hp2 : p≤2000000000) (hs2 : s<2000000000) (hv : vB r x.k (p+s+4)≤4398046511104) (hv2 : vB r x.k r≤4398046511104) :
 C0 47 [.d (dN (nq q)),.d (dN x)] (·=.tup (.pr (.d (.int .i64 (sgn x.k x.t (Tow.add x.k (rat x.k q) (Tow.neg x.k x.a))))) (.d (.int .i64 0)))):=by
 have hS : C0 99 [.d (dN (nq q)),.d (dN x)] (·=.tup (.pr (.d (dN ⟨x.k,x.t,Tow.add x.k (rat x.k q) (Tow.neg x.k x.a)⟩)) (.d (.int .i64 0)))):=by
  refine En Tryz.func99 fun _ _ _=>?_
  refine Ce rfl (Xu1 (Xjc hr (Sz.rat x.k hq) hp (by omega) (by omega) (by omega)) hr hp hq hk hr2 (by omega) (by omega)) ?_
  exact R0t
 have hz : Sz (p+s+4) (toL x.k (Tow.add x.k (rat x.k q) (Tow.neg x.k x.a))):=by rw [Xaz,Xb0];exact ((Sz.rat x.k hq).add hp.neg).mono (by omega)
 have hG : C0 100 [.d (dN ⟨x.k,x.t,Tow.add x.k (rat x.k q) (Tow.neg x.k x.a)⟩)] (·=.d (.int .i64 (sgn x.k x.t (Tow.add x.k (rat x.k q) (Tow.neg x.k x.a))))):=by
  refine En Tryz.func100 fun _ _ _=>?_
  refine Ce rfl (Xvo hr hz hR (show x.k≤16 by omega) hv hv2 (by omega)) ?_
  exact R0
 refine En Tryz.func47 fun _ _ _=>?_
 refine Ce rfl hS ?_
 refine No rfl (by simp) ?_
 refine Ce rfl hG ?_
 exact RTt rfl (.cons (.rf rfl) Xdo)
end
end
end Go.Proofs.YtclmecgphleeeaaGreatDoor.P9
namespace Go.Num
section
def dec (n : Nat) : List UInt8:=if h : n<10 then [UInt8.ofNat (48+n)] else dec (n / 10)++[UInt8.ofNat (48+n % 10)]
termination_by n
decreasing_by omega
theorem Xdl {n : Nat} (h : n<10) : dec n=[UInt8.ofNat (48+n)]:=by rw [dec,dif_pos h]
theorem Xfb {n : Nat} (h : 10≤n) : dec n=dec (n / 10)++[UInt8.ofNat (48+n % 10)]:=by rw [dec,dif_neg (by omega)]
theorem Xuw (n : Nat) : dec n≠[]:=by
 rw [dec];split <;> simp
theorem Xuu (n : Nat) : 0<(dec n).length:=W5k.2 (Xuw n)
theorem Xen : ∀ (k n : Nat),n<10 ^ (k+1)→(dec n).length≤k+1
 | 0,n,h=>by rw [Xdl (by simpa using h)];simp
 | k+1,n,h=>by
  by_cases h1 : n<10
  · rw [Xdl h1];simp
  · rw [Xfb (by omega),W0c]
    have:=Xen k (n / 10) (W4f (by rw [W0p] at h;omega))
    simp;omega
theorem Xd8 : ∀ (k n : Nat),10 ^ k≤n→k+1≤(dec n).length
 | 0,n,h=>Xuu n
 | k+1,n,h=>by
  rw [W0p] at h
  have : 0<10 ^ k:=W6o (by decide)
  rw [Xfb (by omega),W0c]
  have:=Xd8 k (n / 10) (by omega)
  simp;omega
theorem Yg2 (n : Nat) : n<10 ^ (dec n).length:=by
 induction n using Nat.strongRecOn with
 | ind n ih =>
  by_cases h : n<10
  · rw [Xdl h];simpa using h
  · rw [Xfb (by omega),W0c]
    have:=ih (n / 10) (by omega)
    simp only [W4z]
    rw [W0p];omega
def tx (z : Int) : List UInt8:=(if z<0 then [45] else [])++dec z.natAbs
theorem Xwt (l : Nat) : 4294967296 ^ l≤10 ^ (10*l):=by
 rw [W5n];exact W6r (by decide) l
theorem Xnk (n : Nat) : (dec n).length≤10*(dig n).length+1:=by
 refine Xen _ n (W0r (W0r (by have:=Xbq (Xad n);rwa [Xaf] at this) (Xwt _)) (W0h (by decide) (by omega)))
theorem dg {d : Nat} (h : d<10) : (UInt8.ofNat (48+d)).toNat=48+d:=by
 rw [UInt8.toNat_ofNat'];exact W3u (by omega)
def Xh5 (b : UInt8) : Prop:=48≤b.toNat∧b.toNat≤57
theorem Yg3 (n : Nat) : ∀ b∈dec n,Xh5 b:=by
 induction n using Nat.strongRecOn with
 | ind n ih =>
  intro b hb
  by_cases h : n<10
  · rw [Xdl h,W0g] at hb;subst hb;exact ⟨by rw [dg h];omega,by rw [dg h];omega⟩
  · rw [Xfb (by omega),W2v,W0g] at hb
    rcases hb with hb | hb
    · exact ih _ (by omega) b hb
    · subst hb;have:=W1r n (show 0<10 by decide);exact ⟨by rw [dg this];omega,by rw [dg this];omega⟩
def pad (k : Nat) (d : List UInt8) : List UInt8:=List.replicate (k+1 - d.length) 48++d
theorem Ybm (k : Nat) (d : List UInt8) : (pad k d).length=max (k+1) d.length:=by simp [pad];omega
def pt (k : Nat) (p : List UInt8) : List UInt8:=if k=0 then p else p.take (p.length - k)++46::p.drop (p.length - k)
def txt (z : Int) (k : Nat) : List UInt8:=(if z<0 then [45] else [])++pt k (pad k (dec z.natAbs))
def Xcc (l : List UInt8) : Nat:=l.foldl (fun a b=>10*a+(b.toNat - 48)) 0
theorem Xcl (l : List UInt8) (b : UInt8) : Xcc (l++[b])=10*Xcc l+(b.toNat - 48):=by simp [Xcc]
theorem Xez {p : List UInt8→Prop} (h0 : p []) (hs : ∀ l b,p l→p (l++[b])) (l : List UInt8) : p l:=by
 rw [←List.reverse_reverse l]
 induction l.reverse with
 | nil=>exact h0
 | cons b l ih=>rw [List.reverse_cons];exact hs _ _ ih
theorem Xj9 (u t : List UInt8) : Xcc (u++t)=Xcc u*10 ^ t.length+Xcc t:=by
 induction t using Xez with
 | h0=>simp [Xcc]
 | hs l b ih =>
  rw [←W3y,Xcl,Xcl,ih,W0c,W4z,W0p]
  have : Xcc u*(10 ^ l.length*10)=10*(Xcc u*10 ^ l.length):=by rw [W1e (10 ^ l.length) 10,W4l]
  omega
theorem Xht {l : List UInt8} (h : ∀ b∈l,Xh5 b) : Xcc l<10 ^ l.length:=by
 induction l using Xez with
 | h0=>decide
 | hs l b ih =>
  have h1:=ih fun x hx=>h x (W2f _ hx)
  have h2:=h b (W1l _ (W0g.2 rfl))
  unfold Xh5 at h2
  rw [Xcl,W0c,W4z,W0p]
  omega
theorem Xpz (b : UInt8) : Xcc [b]=b.toNat - 48:=by simp [Xcc]
theorem Xxs {b : UInt8} {l : List UInt8} (hb : 48<b.toNat) : 0<Xcc (b::l):=by
 rw [show b::l=[b]++l from rfl,Xj9,Xpz]
 have : 0<(b.toNat - 48)*10 ^ l.length:=W1h (by omega) (W6o (by decide))
 omega
end
section
def isD (b : UInt8) : Bool:=decide (48≤b.toNat) && decide (b.toNat≤57)
theorem Yjs {b : UInt8} : isD b=true↔Xh5 b:=by simp [isD,Xh5]
def z0 (l : List UInt8) : Bool:=l.all (· == 48)
theorem Yaj (l : List UInt8) (x : UInt8) : z0 (l++[x])=(z0 l && x == 48):=by simp [z0]
def prT (ng : Bool) (a : List UInt8) : List UInt8→Option (Bool × List UInt8 × List UInt8)
 | []=>if ng && z0 a then none else some (ng,a,[])
 | x::b=>if x=46∧b≠[]∧b.all isD=true∧(ng && z0 (a++b))=false then some (ng,a,b) else none
def prQ (ng : Bool) (q : List UInt8) : Option (Bool × List UInt8 × List UInt8) :=
 if q.takeWhile isD=[]∨(1<(q.takeWhile isD).length∧(q.takeWhile isD).head?=some 48) then none else prT ng (q.takeWhile isD) (q.dropWhile isD)
def prs (s : List UInt8) : Option (Bool × List UInt8 × List UInt8) :=
 if 400<s.length then none else match s with
  | []=>none
  | x::t=>if x=45 then prQ true t else prQ false (x::t)
def Ylq (r : List UInt8) : Prop:=∀ x t,r=x::t→isD x=false
theorem Yiz {a r : List UInt8} (ha : a.all isD=true) (hr : Ylq r) : (a++r).takeWhile isD=a∧(a++r).dropWhile isD=r:=by
 induction a with
 | nil =>
  cases r with
  | nil=>exact ⟨rfl,rfl⟩
  | cons x t=>simp [W7t,W3v,hr x t rfl]
 | cons x a ih =>
  simp only [List.all_cons,W0f] at ha
  obtain ⟨h1,h2⟩:=ih ha.2
  simp [W7t,W3v,ha.1,h1,h2]
def sgB (ng : Bool) : List UInt8:=if ng then [45] else []
theorem Xoz {s a r : List UInt8} {ng : Bool} (hl : s.length≤400) (hs : s=sgB ng++(a++r)) (hn : ng=false→s.head?≠some 45) (ha : a.all isD=true) (hr : Ylq r) :
 prs s=if a=[]∨(1<a.length∧a.head?=some 48) then none else prT ng a r:=by
 obtain ⟨h1,h2⟩:=Yiz ha hr
 have hq : prQ ng (a++r)=if a=[]∨(1<a.length∧a.head?=some 48) then none else prT ng a r:=by
  unfold prQ;rw [h1,h2]
 rw [←hq]
 unfold prs
 rw [if_neg (by omega)]
 cases ng with
 | true=>subst hs;simp [sgB]
 | false =>
  have hn:=hn rfl
  have hs : s=a++r:=hs
  rw [←hs]
  cases s with
  | nil=>simp [prQ]
  | cons x t =>
   have : ¬ x=45:=fun e=>hn (by rw [e];rfl)
   simp [this]
def ptB (b : List UInt8) : List UInt8:=if b=[] then [] else 46::b
theorem Xwq {ng n' : Bool} {a a' b r : List UInt8} (h : prT ng a r=some (n',a',b)) : n'=ng∧a'=a∧r=ptB b∧b.all isD=true:=by
 cases r with
 | nil =>
  simp only [prT] at h
  split at h
  · cases h
  · injection h with h;cases h;exact ⟨rfl,rfl,rfl,rfl⟩
 | cons x t =>
  simp only [prT] at h
  split at h
  · rename_i hc
    injection h with h;cases h
    exact ⟨rfl,rfl,by rw [ptB,if_neg hc.2.1,hc.1],hc.2.2.1⟩
  · cases h
theorem Xrj (l : List UInt8) : (l.takeWhile isD).all isD=true:=by
 induction l with
 | nil=>rfl
 | cons x l ih =>
  rw [W7t]
  split
  · rename_i h;simp [h,ih]
  · rfl
theorem Xo0 {ng n' : Bool} {q a b : List UInt8} (h : prQ ng q=some (n',a,b)) : n'=ng∧q=a++ptB b∧a≠[]∧a.all isD=true∧b.all isD=true:=by
 unfold prQ at h
 split at h
 · cases h
 · rename_i hc
   obtain ⟨h1,h2,h3,h4⟩:=Xwq h
   subst h2
   refine ⟨h1,?_,fun e=>hc (.inl e),?_,h4⟩
   · rw [←h3,W6c]
   · exact Xrj q
theorem Xwp {s a b : List UInt8} {ng : Bool} (h : prs s=some (ng,a,b)) : s.length≤400∧s=sgB ng++(a++ptB b)∧a≠[]∧a.all isD=true∧b.all isD=true:=by
 unfold prs at h
 split at h
 · cases h
 · split at h
   · cases h
   · split at h
     · rename_i hx
       obtain ⟨h1,h2,h3⟩:=Xo0 h
       refine ⟨by omega,?_,h3⟩
       rw [h1,hx,h2];rfl
     · obtain ⟨h1,h2,h3⟩:=Xo0 h
       refine ⟨by omega,?_,h3⟩
       rw [h1,h2];rfl
def fr (ng : Bool) (a b : List UInt8) : Rat:=if ng then -(((Xcc (a++b) : Int) : Rat) / ((10 ^ b.length : Int) : Rat)) else ((Xcc (a++b) : Int) : Rat) / ((10 ^ b.length : Int) : Rat)
end
end Go.Num
namespace Go.Vm
open Go
section
section
variable {c : Cx} {s : St} {p : Pl}
noncomputable def Yle (tb : Nat→Option TI) (n : Nat) (s : St) : Option (Pl × Nat × Nat × Int × Nat × Nat):=match nxA tb n s with
 | some (p,o,[.ptr q off,.d (.int _ j)])=>match o.op with
  | .indexAddr T _ _=>match tb T with
   | some ⟨.st _,e,_,ar⟩=>some (p,q,off,j,e.size,ar)
   | _=>none
  | _=>none
 | _=>none
theorem Ia (i : Nat) {q off sz ar : Nat} {j : Int} (h : Yle c.tb c.n s=some (p,q,off,j,sz,ar)) (hi : i<ar) (kk : p.nx c (.ptr q (off+i*sz))) (hj : j=(i : Int):=by first | exact rfl | omega) : StP c s:=by
 subst hj
 unfold Yle at h
 split at h <;> try cases h
 rename_i p' o q1 off1 k1 j1 hA
 split at h <;> try cases h
 rename_i T x y ho
 split at h <;> try cases h
 rename_i z e eb ht
 refine Xby (v:=.ptr q (off+i*e.size)) (us:=[]) hA ?_ (Pl.nx_nil kk)
 rw [ho]
 simp [F,Fp,ht,hi]
end
end
section
section
variable {c : Cx} {s : St} {p : Pl}
noncomputable def Yk5 (tb : Nat→Option TI) (n : Nat) (s : St) : Option (Pl × List UInt8 × List UInt8):=match nxA tb n s with
 | some (p,o,[.d (.str a),.d (.str b)])=>match o.op with
  | .binOp op _ _ _ _=>match op with
   | .add=>some (p,a,b)
   | _=>none
  | _=>none
 | _=>none
theorem Sc {a b : List UInt8} (t : List UInt8) (h : Yk5 c.tb c.n s=some (p,a,b)) (ht : a++b=t) (hl : a.length+b.length<9223372036854775808) (kk : p.nx c (.d (.str t))) : StP c s:=by
 subst ht
 unfold Yk5 at h
 split at h <;> try cases h
 rename_i hA
 split at h <;> try cases h
 rename_i ho
 split at h <;> cases h
 refine Xby (us:=[]) hA ?_ (Pl.nx_nil kk)
 rw [ho]
 simp only [F,Fp,Xyk,if_pos hl]
noncomputable def Yfn (tb : Nat→Option TI) (n : Nat) (s : St) : Option (Pl × List UInt8 × Option Int × Option Int):=match nxA tb n s with
 | some (p,o,asx)=>match o.op with
  | .slice T _ lo hi mx=>match tb T with
   | some ti=>match ti.z,Xic lo hi mx asx with
    | .str _,some (.d (.str s),l,h,none)=>some (p,s,l,h)
    | _,_=>none
   | none=>none
  | _=>none
 | none=>none
theorem Xm0 {t : List UInt8} {r : AV} {l h' : Option Int} (h : Yfn c.tb c.n s=some (p,t,l,h')) (hr : slS t l h'=some r) (k : p.nx c r) : StP c s:=by
 unfold Yfn at h
 split at h <;> try cases h
 rename_i hA
 split at h <;> try cases h
 rename_i ho
 split at h <;> try cases h
 rename_i ti ht
 split at h <;> cases h
 rename_i hz hs
 refine Xby (us:=[]) hA ?_ (Pl.nx_nil k)
 rw [ho]
 simp only [F,Fp,ht,hz,hs,hr]
theorem Stk (j : Nat) (zs : List UInt8) {i : Int} {xs : List UInt8} (h : Yfn c.tb c.n s=some (p,xs,none,some i)) (hl : j≤xs.length) (hz : xs.take j=zs) (k : p.nx c (.d (.str zs))) (hj : i=j:=by first | exact rfl | omega) : StP c s:=by
 subst hj;subst hz
 refine Xm0 h ?_ k
 rw [slS,if_pos ⟨by omega,by omega⟩];simp
theorem Sdp (j : Nat) (zs : List UInt8) {i : Int} {xs : List UInt8} (h : Yfn c.tb c.n s=some (p,xs,some i,none)) (hl : j≤xs.length) (hz : xs.drop j=zs) (k : p.nx c (.d (.str zs))) (hj : i=j:=by first | exact rfl | omega) : StP c s:=by
 subst hj;subst hz
 refine Xm0 h ?_ k
 rw [slS,if_pos ⟨by omega,by omega⟩];simp
theorem Smd (i j : Nat) (zs : List UInt8) {i' j' : Int} {xs : List UInt8} (h : Yfn c.tb c.n s=some (p,xs,some i',some j')) (hl : i≤j∧j≤xs.length) (hz : (xs.drop i).take (j - i)=zs) (k : p.nx c (.d (.str zs))) (hi : i'=i:=by first | exact rfl | omega) (hj : j'=j:=by first | exact rfl | omega) : StP c s:=by
 subst hi;subst hj;subst hz
 refine Xm0 h ?_ k
 rw [slS,if_pos ⟨by omega,by omega,by omega⟩];simp
noncomputable def Ylc (tb : Nat→Option TI) (n : Nat) (s : St) : Option (Pl × AV):=match nxA tb n s with
 | some (p,o,[a])=>match o.op with
  | .convert S T _=>match tb S,tb T,Yb9 a with
   | some ⟨.sl _ _,.int .u8 _,_,_⟩,some ⟨.str _,_,_,_⟩,true=>some (p,a)
   | _,_,_=>none
  | _=>none
 | _=>none
theorem Bs (zs : List UInt8) {a : AV} (h : Ylc c.tb c.n s=some (p,a)) (hz : Yh5 a=some zs) (kk : p.nx c (.d (.str zs))) : StP c s:=by
 unfold Ylc at h
 split at h <;> try cases h
 rename_i hA
 split at h <;> try cases h
 rename_i ho
 split at h <;> cases h
 rename_i h1 h2 h3
 refine Xby (us:=[]) hA ?_ (Pl.nx_nil kk)
 rw [ho]
 have : ∀ k z,a≠.d (.int k z):=fun k z e=>by subst e;cases h3
 cases a with
 | d x=>cases x <;> first | exact absurd rfl (this _ _) | simp only [F,Fp,h2,h1,hz]
 | _=>simp only [F,Fp,h2,h1,hz]
end
end
section
theorem Xu0 {W : GW} {z : D} : ∀ {cs : List Value},(∀ x∈z.comps,x.size=1)→D.At W z cs→AtL W 1 z.comps cs∧cs.length=z.comps.length:=by
 have one : ∀ {x : D} {cs : List Value},x.size=1→D.At W x cs→AtL W 1 [x] cs∧cs.length=1:=fun {x cs} h1 h =>
  ⟨fun i y hi=>by
   cases i with
   | zero=>simp at hi;subst hi;exact ⟨cs,h,h1,fun j v hj=>by simpa using hj⟩
   | succ i=>simp at hi,by rw [D.at_len x h,h1]⟩
 induction z using D.ind with
 | leaf x h1 h2 =>
  intro cs hs h
  have e : x.comps=[x]:=by cases x <;> first | rfl | exact absurd rfl (h2 _ _)
  rw [e] at hs ⊢
  exact one (hs x (W0g.2 rfl)) h
 | st a _=>intro cs hs h;exact one (hs _ (W0g.2 rfl)) h
 | pr a c _ ih =>
  intro cs hs ⟨u,v,e,h1,h2⟩
  have hs : ∀ x∈a::c.comps,x.size=1:=hs
  obtain ⟨k1,k2⟩:=one (hs a (W0q ..)) h1
  obtain ⟨k3,k4⟩:=ih (fun x hx=>hs x (W0z _ hx)) h2
  subst e
  have:=k1.app k3 (by rw [k2];rfl)
  exact ⟨this,by rw [W0c,k2,k4];show _=(a::c.comps).length;simp;omega⟩
theorem Stp.vara {N : Nat→Prop} {W : GW} {θ : Loc} {g : Hp} (h : Obs W θ N g) {o d b n sz : Nat} {a : AV} {xs : List D} (ho : g o=some (.var a)) (hb : (θ o).1=some b) (hB : d<1000000) (hd : g d=none) (hx : (Ob.arr sz xs).R W (fun i=>if i=d then (some b,n) else θ i) d) :
 Stp N W W θ (fun i=>if i=d then (some b,n) else θ i) g (upd (upd g o .dead) d (.arr sz xs)) where
 os:=_root_.rfl
 out:=_root_.rfl
 tape:=_root_.rfl
 size:=W0a _
 same:=fun _ _ _=>_root_.rfl
 A:=fun _ _ _ _=>W4d
 le:=LeF.refl W
 th:=fun i y hy=>if_neg fun e=>by rw [e,hd] at hy;cases hy
 hi:=fun i h=>if_neg (by omega)
 obs:=by
  have hg : ∀ {i : Nat} {y : Ob},upd (upd g o .dead) d (.arr sz xs) i=some y→(i=d∧y=.arr sz xs)∨(i≠d∧i=o∧y=.dead)∨(i≠d∧i≠o∧g i=some y):=fun {i y} hy=>by
   rcases Xae hy with ⟨e1,e2⟩ | ⟨e1,e2⟩
   · exact .inl ⟨e1,e2⟩
   · rcases Xae e2 with ⟨f1,f2⟩ | ⟨f1,f2⟩
     · exact .inr (.inl ⟨e1,f1,f2⟩)
     · exact .inr (.inr ⟨e1,f1,f2⟩)
  have hnd : ∀ {i : Nat},(∃ z,g i=some z)→i≠d:=fun ⟨z,hz⟩ e=>by rw [e,hd] at hz;cases hz
  refine ⟨fun i y hy=>?_,fun i y b' hy hl hb'=>?_,fun i j y y' b' hy hy' hl hl' b1 b2=>?_,fun i y j hy hj=>?_⟩
  · rcases hg hy with ⟨rfl,rfl⟩ | ⟨_,_,rfl⟩ | ⟨e1,e2,e3⟩
    · exact hx
    · trivial
    · exact (h.r i y e3).keep (LeF.refl W) (if_neg e1) (fun j hj=>if_neg (hnd (h.ids i y j e3 hj))) fun _ _ _=>⟨_root_.rfl,fun _ h=>h⟩
  · rcases hg hy with ⟨rfl,rfl⟩ | ⟨_,_,rfl⟩ | ⟨e1,e2,e3⟩
    · rw [if_pos _root_.rfl] at hb'
      exact h.new o _ b' ho _root_.rfl (hb.trans hb')
    · cases hl
    · rw [if_neg e1] at hb';exact h.new i y b' e3 hl hb'
  · rcases hg hy with ⟨rfl,rfl⟩ | ⟨_,_,rfl⟩ | ⟨e1,e2,e3⟩
    · rcases hg hy' with ⟨rfl,rfl⟩ | ⟨_,_,rfl⟩ | ⟨f1,f2,f3⟩
      · exact _root_.rfl
      · cases hl'
      · rw [if_pos _root_.rfl] at b1;rw [if_neg f1] at b2
        exact absurd (h.dis j o y' _ b' f3 ho hl' _root_.rfl b2 (hb.trans b1)) f2
    · cases hl
    · rcases hg hy' with ⟨rfl,rfl⟩ | ⟨_,_,rfl⟩ | ⟨f1,f2,f3⟩
      · rw [if_pos _root_.rfl] at b2;rw [if_neg e1] at b1
        exact absurd (h.dis i o y _ b' e3 ho hl _root_.rfl b1 (hb.trans b2)) e2
      · cases hl'
      · rw [if_neg e1] at b1;rw [if_neg f1] at b2;exact h.dis i j y y' b' e3 f3 hl hl' b1 b2
  · rcases hg hy with ⟨rfl,rfl⟩ | ⟨_,_,rfl⟩ | ⟨e1,e2,e3⟩
    · exact hj.elim
    · exact hj.elim
    · have hz:=h.ids i y j e3 hj
      rw [Xam (hnd hz)]
      by_cases e : j=o
      · subst e;exact ⟨_,Xak _ _ _⟩
      · rw [Xam e];exact hz
 dom:=fun i y hy=>by
  rw [Xam (fun e=>by rw [e,hd] at hy;cases hy)]
  by_cases e : i=o
  · subst e;exact ⟨_,Xak _ _ _⟩
  · exact ⟨y,by rw [Xam e];exact hy⟩
section
variable {c : Cx} {s : St} {p : Pl}
noncomputable def Yk3 (tb : Nat→Option TI) (n id t : Nat) (s : St) : Option (List Kt × Env × Hpl × Nat × D):=match runT tb n id 1000 s with
 | .j _ K E H=>match look E t with
  | some (.ptr o 0)=>match look H o with
   | some (.var (.d (.st z)))=>some (K,E,H,o,z)
   | _=>none
  | _=>none
 | _=>none
theorem Va (id t d m : Nat) (xs : List D) {K : List Kt} {E : Env} {H : Hpl} {o : Nat} {z : D} (h : Yk3 c.tb c.n id t s=some (K,E,H,o,z)) (hz : z.comps=xs) (hs : ∀ x∈xs,x.size=1) (hm : xs.length=m) (k : StP c (.j [] K ((t,.ap d m)::E) ((d,.arr 1 xs)::(o,.dead)::H)))
 (hd : (Nat.blt d 1000000 && !Xb3 H d && Nat.blt m 1000000)=true:=by exact rfl) : StP c s:=by
 subst hz
 simp only [W0f,W1t] at hd
 obtain ⟨⟨hd1,hd2⟩,hm1⟩:=hd
 have hd1:=Xpf hd1
 have hm1:=Xpf hm1
 have hdn : look H d=none:=Xbj hd2
 unfold Yk3 at h
 split at h <;> try cases h
 rename_i hr
 split at h <;> try cases h
 rename_i he
 split at h <;> cases h
 rename_i ho
 refine Xg3 (id:=id) 1000 ?_
 rw [hr]
 rintro a w ⟨s0,W,θ,hw,hs0,hθ,rfl⟩
 obtain ⟨b,cs,T',r1,r2,r3,r4⟩:=hs0.obs.r _ _ ho
 have r3 : D.At W z cs:=r3
 obtain ⟨k1,k2⟩:=Xu0 hs r3
 have st:=Stp.vara (n:=m) (sz:=1) (xs:=z.comps) hs0.obs ho r1 hd1 hdn ⟨b,cs,T',by simp,r2,by rw [k2,hm];simp,by simp only [if_true];omega,by simp only [if_true];omega,k1,r4⟩
 have h1:=hs0.step0 st
 refine k a w ⟨_,W,_,hw,?_,fun i hi=>(st.hi i hi).trans (hθ i hi),rfl⟩
 rw [show sem ((t,AV.ap d m)::E) ((d,Ob.arr 1 z.comps)::(o,Ob.dead)::H)=(upd (look E) t (.ap d m),upd (upd (look H) o .dead) d (.arr 1 z.comps)) from by rw [Xa6,Xa6,Xa6]]
 refine ⟨h1.fm,⟨h1.rel.defers,h1.rel.size,fun q v hq=>?_⟩,h1.obs,fun q v i hq hi=>?_⟩
 · rcases Xae hq with ⟨e1,e2⟩ | ⟨e1,e2⟩
   · subst e1;subst e2
     obtain ⟨b',f1,f2⟩:=Xh6 (hs0.rel.has q _ he)
     rw [r1] at f1;injection f1 with f1;subst f1
     exact ⟨_,⟨b,by simp,by simp,rfl⟩,f2⟩
   · exact h1.rel.has q v e2
 · rcases Xae hq with ⟨e1,e2⟩ | ⟨e1,e2⟩
   · subst e2
     have hi : i=d:=hi
     subst hi
     exact ⟨_,Xak _ _ _⟩
   · exact h1.ids q v i e2 hi
noncomputable def Yk4 (tb : Nat→Option TI) (n : Nat) (s : St) : Option (Pl × Oper × TypeId × Operand × Operand × Nat × Nat × Nat × Nat × D × Int):=match nxO tb n s with
 | some (p,o)=>match o.op,p.dr with
  | .slice T x none (some y) none,false=>match Xcn (look p.E) x,Xcn (look p.E) y,tb T with
   | some (.ap q m),some (.d (.int _ j)),some ⟨.st z,e,eb,ar⟩=>match Nat.beq m ar,look p.H q with
    | true,some _=>some (p,o,T,x,y,q,m,e.size,eb,z,j)
    | _,_=>none
   | _,_,_=>none
  | _,_=>none
 | none=>none
theorem Sp (j : Nat) {o : Oper} {T : TypeId} {x y : Operand} {q m sz eb : Nat} {z : D} {i : Int} (h : Yk4 c.tb c.n s=some (p,o,T,x,y,q,m,sz,eb,z,i)) (hj : j≤m) (h0 : 0<m) (k : p.nx c (.own q sz 0 j)) (hm : m<1000000) (hi : i=(j : Int):=by first | exact rfl | omega) : StP c s:=by
 subst hi
 unfold Yk4 at h
 split at h <;> try cases h
 rename_i p' o' ho
 split at h <;> try cases h
 rename_i T' x' y' hop hdr
 split at h <;> try cases h
 rename_i k2 e eb' ar hx hy hti
 split at h <;> cases h
 rename_i hH hma
 have hma:=W0e hma
 subst hma
 refine Xqm (us:=[]) ho (by unfold Xal;rw [hop];rfl) hdr (fun N W θ ρ _ hO hN hB hv=>?_) (Pl.nx_nil k)
 obtain ⟨hk,_⟩:=c.hT _ _ hti
 obtain ⟨t,u1,_,u3⟩:=hk.u
 simp only [show ¬ m=0 from by omega,if_false] at u3
 obtain ⟨E,e1,i,v0,i1,i2,_⟩:=u3
 subst e1
 obtain ⟨cs,⟨b,f1,f2,f3⟩,f4⟩:=hv _ _ hx
 subst f3
 have f4 : ρ x=.pointer (some ⟨b,0,none⟩):=f4
 obtain ⟨ey,_⟩:=Xcp (hv _ _ hy)
 have hg : (sem p.E p.H).2 q=some _:=hH
 refine .val (u:=.slice (some ⟨b,0,none⟩) j m) hO ?_ ?_ (fun i hi=>by subst hi;exact ⟨_,hg⟩)
 · have hm0 : ¬ m=0:=by omega
   simp [execOp,hop,f4,ey,Instr.sliceAt,Instr.sureAddr,Instr.sliceBounds,Instr.sliceBound,asIntOf,sizeOf,typeInfo,underlying,program,bind,Sem.bind,Sem.run,pure,u1,i1,i2,hm0,hj,add0]
 · exact ⟨[.slice (some ⟨b,0,none⟩) j m],⟨b,some ⟨b,0,none⟩,f1,by omega,by omega,by rw [f2,W6x],fun _=>by rw [W4v]⟩,rfl⟩
noncomputable def Yld (tb : Nat→Option TI) (n : Nat) (s : St) : Option (Pl × Oper × TypeId × TypeId × Operand × Nat × Nat × Nat × List D):=match nxO tb n s with
 | some (p,o)=>match o.op,p.dr with
  | .convert S T x,false=>match Xcn (look p.E) x,tb S,tb T with
   | some (.own q 1 l m),some ⟨.sl _ _,.int .u8 _,_,_⟩,some ⟨.str _,_,_,_⟩=>match look p.H q with
    | some (.arr 1 xs)=>some (p,o,S,T,x,q,l,m,xs)
    | _=>none
   | _,_,_=>none
  | _,_=>none
 | none=>none
theorem Bo (zs : List UInt8) {o : Oper} {S T : TypeId} {x : Operand} {q l m : Nat} {xs : List D} (h : Yld c.tb c.n s=some (p,o,S,T,x,q,l,m,xs)) (hl : l+m≤xs.length) (hz : Xx7 ((xs.drop l).take m)=some zs) (k : p.nx c (.d (.str zs))) : StP c s:=by
 unfold Yld at h
 split at h <;> try cases h
 rename_i p' o' ho
 split at h <;> try cases h
 rename_i S' T' x' hop hdr
 split at h <;> try cases h
 rename_i hx hS hT
 split at h <;> cases h
 rename_i hH
 refine Xqm (us:=[]) ho (by unfold Xal;rw [hop];rfl) hdr (fun N W θ ρ _ hO hN hB hv=>?_) (Pl.nx_nil k)
 obtain ⟨hk,_⟩:=c.hT _ _ hS
 obtain ⟨t,u1,_,E,u3,_⟩:=hk.u
 subst u3
 obtain ⟨t',u1',_,u3⟩:=(c.hT _ _ hT).1.u
 have u3 : t'=.string:=u3
 subst u3
 have ue:=hk.k E _ _ u1 rfl
 obtain ⟨b,pp,f1,f2,f3,e,f5⟩:=Xkj (hv _ _ hx)
 obtain ⟨b',bs,T1,r1,r2,r3,r4,r5,r6,r7⟩:=hO.r _ _ hH
 rw [f1] at r1;injection r1 with r1;subst r1
 obtain ⟨ns,hn1,rfl⟩:=Xkh hz
 have hlen : ns.length=m:=by
  have:=congrArg List.length hn1
  simp at this;omega
 refine .val (u:=.string ⟨(ns.map fun z=>UInt8.ofNat z.toNat).toArray⟩) hO ?_ (Xml (by simp;omega)) (fun _ h=>h.elim)
 have hc : (convert S T (ρ x)).run c.P W.w=.ok (.string ⟨(ns.map fun z=>UInt8.ofNat z.toNat).toArray⟩) W.w:=by
  rw [e,run_convert_bytes_string W.w S T E pp _ _ u1 ue u1']
  by_cases hm0 : m=0
  · subst hm0
    have : ns=[]:=W2q.1 hlen
    subst this
    cases pp with
    | none=>rfl
    | some a=>exact run_bytesToString W.w a _ _ [] rfl
  · rw [f5 (by omega)]
    rw [run_bytesToString W.w _ _ _ ns (by
     have h:=run_loadCells (P:=c.P) (b:=b) (off:=l*1) (w:=W.w) (ns.map (Value.int .u8)) 0 #[] (fun j v hj=>by
      rw [W1s] at hj
      cases hz : ns[j]? with
      | none=>rw [hz] at hj;cases hj
      | some z =>
       rw [hz] at hj;injection hj with hj;subst hj
       have hj' : ((xs.drop l).take m)[j]?=some (.int .u8 z):=by rw [hn1,W1s,hz];rfl
       have hj2 : xs[l+j]?=some (.int .u8 z):=by
        rw [W1c] at hj'
        split at hj'
        · rwa [W2d] at hj'
        · cases hj'
       obtain ⟨e1,g1,_,g2⟩:=r6 _ _ hj2
       have g1:=g1.1
       subst g1
       have:=g2 0 _ rfl
       rw [show l*1+(0+j)=(l+j)*1+0 by omega,Xa9 r2]
       exact this)
     simp only [W0n] at h
     rw [←hlen]
     simpa [loadCells] using h)]
    have:=Xek ns []
    rw [show (ByteArray.empty : ByteArray)=⟨([] : List UInt8).toArray⟩ from rfl,this]
    simp
 unfold execOp
 rw [hop]
 simp only
 rw [Sem.run_bind,hc];rfl
noncomputable def Yk9 (tb : Nat→Option TI) (n : Nat) (s : St) : Option (Pl × Oper × TypeId × Nat × Operand × Nat × Int):=match nxO tb n s with
 | some (p,o)=>match o.op,p.dr with
  | .indexAddr T (.global g) y,false=>match Xcn (look p.E) y,tb T with
   | some (.d (.int _ j)),some ⟨.st _,.int _ _,_,ar⟩=>match Nat.beq ar 0 with
    | false=>some (p,o,T,g,y,ar,j)
    | true=>none
   | _,_=>none
  | _,_=>none
 | none=>none
theorem Gx (j : Nat) (k : IntKind) (z : Int) {o : Oper} {T : TypeId} {y : Operand} {g ar : Nat} {i : Int} (h : Yk9 c.tb c.n s=some (p,o,T,g,y,ar,i)) (hj : j<ar) (hg : ∀ W,c.gb.g W→Fr W g j (.int k z)) (hr : inR k z) (kk : p.nx c (.at (.int k z))) (hi : i=(j : Int):=by first | exact rfl | omega) : StP c s:=by
 subst hi
 unfold Yk9 at h
 split at h <;> try cases h
 rename_i p' o' ho
 split at h <;> try cases h
 rename_i T' g' y' hop hdr
 split at h <;> try cases h
 rename_i k1 j1 z1 k2 z2 eb ar1 hy hti
 split at h <;> cases h
 rename_i hz
 have hz : ¬ ar=0:=fun e=>by subst e;cases hz
 refine Xqm (us:=[]) ho (by unfold Xal;rw [hop];rfl) hdr (fun N W θ ρ hgb hO hN hB hv=>?_) (Pl.nx_nil kk)
 obtain ⟨hk,_⟩:=c.hT _ _ hti
 obtain ⟨t,u1,_,u3⟩:=hk.u
 simp only [hz,if_false] at u3
 obtain ⟨E,e1,i,v0,i1,i2,_⟩:=u3
 subst e1
 obtain ⟨ey,_⟩:=Xcp (hv _ _ hy)
 have eg:=hgb.2 g
 have i2 : i.size=1:=i2
 refine .val (u:=.pointer (some ⟨g,j,none⟩)) hO ?_ (Ykd (e:=[.int k z]) ⟨rfl,hr⟩ fun q v hq=>?_) (fun _ h=>h.elim)
 · have hjl : (j : Int)<(ar : Int):=by omega
   simp [execOp,hop,eg,ey,Instr.indexAt,Instr.sureAddr,asIntOf,sizeOf,typeInfo,underlying,program,bind,Sem.bind,Sem.run,pure,u1,i1,i2,hjl,hj,add0]
 · cases q with
   | zero=>simp at hq;subst hq;exact hg W hgb.1
   | succ q=>simp at hq
end
end
section
section
variable {c : Cx} {s : St} {p : Pl}
noncomputable def Yk6 (tb : Nat→Option TI) (n : Nat) (s : St) : Option (Pl × Oper × Operand × Operand × TypeId × TI × Nat × List D):=match nxO tb n s with
 | some (p,o)=>match o.op,p.dr with
  | .call ⟨.builtin .append,⟨[x,y]⟩,⟨[T,T']⟩⟩,false=>match Nat.beq T T',Xcn (look p.E) x,Xcn (look p.E) y,tb T with
   | true,some .nil,some (.lit sz ys),some ti=>match ti.z,look p.H (o.dst.getD 0),Nat.ble ti.eb 128 with
    | .sl sz' _,none,true=>match Nat.beq sz sz' with
     | true=>some (p,o,x,y,T,ti,sz,ys)
     | false=>none
    | _,_,_=>none
   | _,_,_,_=>none
  | _,_=>none
 | none=>none
theorem ApW {o : Oper} {x y : Operand} {T : TypeId} {ti : TI} {sz : Nat} {ys : List D} (h : Yk6 c.tb c.n s=some (p,o,x,y,T,ti,sz,ys)) (h0 : 0<ys.length) (hl : ys.length≤1099511627776) (k : p.nx' c (.own (o.dst.getD 0) sz 0 ys.length) [(o.dst.getD 0,.arr sz ys)]) : StP c s:=by
 unfold Yk6 at h
 split at h <;> try cases h
 rename_i p' o' ho
 split at h <;> try cases h
 rename_i x' y' T1 T2 hop hdr
 split at h <;> try cases h
 rename_i sz1 ys1 ti1 hT hx hy hti
 have hT:=W0e hT
 subst hT
 split at h <;> try cases h
 rename_i sz2 zz hz hd hb
 split at h <;> cases h
 rename_i hsz
 have hsz:=W0e hsz
 subst hsz
 refine Xqm ho (by unfold Xal;rw [hop];rfl) hdr (fun N W θ ρ _ hO hN hB hv=>?_) k
 obtain ⟨hk,_⟩:=c.hT _ _ hti
 obtain ⟨t,u1,_,u3⟩:=hk.u
 rw [hz] at u3
 obtain ⟨E,e,hszz,hez,ii,v0,i1,i2,i3,i4,i5⟩:=u3
 subst e
 obtain ⟨q,ex⟩:=Xl5 (hv _ _ hx)
 obtain ⟨q2,c2,news,ey,hk2,hnl,hnr,hn1,hna⟩:=Xy1 (z:=.sl sz []) (sz:=sz) hO (c:=.lit sz ys) (ys:=ys) (by simp [Xmm,toD]) (hv _ _ hy)
 rw [hszz] at hnl
 have hr : Xh3 (0+ys.length) ti:=by rw [W1i];exact Xcb hl (W1w hb)
 have hrun:=Xeq (P:=c.P) (W:=W) (ty:=o.type) (ti:=ti) u1 i1 i2 i3 i4 i5 (p:=q) (m:=0) (c:=0) (k:=ys.length) (c2:=c2) (q:=q2) (olds:=[]) (news:=news) (W0a _) (.inl rfl) (by simp) (fun b _ j u hj=>by simp at hj) hnl hnr hn1 hr hk2
 rcases hrun with ⟨h1,_⟩ | ⟨_,h1,_⟩ | ⟨_,c',zs,h1,h2,h3,hrun⟩
 · omega
 · omega
 · simp only [W1i,W4b] at hrun h1 h3
   obtain ⟨W',θ',e1,e2,e3⟩:=Xjq (W:=W.tick) (θ:=θ) (g:=(sem p.E p.H).2) (dd:=o.dst.getD 0) (E:=E) (sz:=sz) (xs:=ys) (cs:=news) (c:=c') (zs:=zs) (Stp.tick hO).obs hN hB hd (hna.mono (Xdp W)) (by rw [hnl,hszz]) h1 h2 (by rw [hszz];exact h3)
   refine ⟨W',θ',.value _,?_,(Stp.tick hO).trans e2,.inr ⟨_,rfl,e3⟩,fun i hi=>⟨_,by subst hi;exact Xak _ _ _⟩⟩
   have h4 : execOp ρ o=(Builtin.append_ #[T,T] o.type #[ρ x,ρ y] >>= fun v=>pure (.value v)):=by
    simp [execOp,hop,resolve,invoke,builtin]
   rw [h4,Sem.run_bind,ex,ey,hrun,e1]
   rfl
noncomputable def Yk7 (tb : Nat→Option TI) (n : Nat) (s : St) : Option (Pl × Oper × Operand × Nat × Nat):=match nxO tb n s with
 | some (p,o)=>match o.op,p.dr with
  | .nilCheck x,false=>match Xcn (look p.E) x with
   | some (.ap q m)=>match look p.H q with
    | some _=>some (p,o,x,q,m)
    | none=>none
   | _=>none
  | _,_=>none
 | none=>none
theorem Nk {o : Oper} {x : Operand} {q m : Nat} (h : Yk7 c.tb c.n s=some (p,o,x,q,m)) (k : p.nx c (.ap q m)) : StP c s:=by
 unfold Yk7 at h
 split at h <;> try cases h
 rename_i p' o' ho
 split at h <;> try cases h
 rename_i x' hop hdr
 split at h <;> try cases h
 rename_i q' m' hx
 split at h <;> cases h
 rename_i hH
 refine Xqm (us:=[]) ho (by unfold Xal;rw [hop];rfl) hdr (fun N W θ ρ _ hO hN hB hv=>?_) (Pl.nx_nil k)
 obtain ⟨cs,⟨b,f1,f2,f3⟩,f4⟩:=hv _ _ hx
 subst f3
 have f4 : ρ x=.pointer (some ⟨b,0,none⟩):=f4
 refine .val (u:=.pointer (some ⟨b,0,none⟩)) hO ?_ ⟨_,⟨b,f1,f2,rfl⟩,rfl⟩ (fun i hi=>by subst hi;exact ⟨_,hH⟩)
 simp only [execOp,hop,f4];rfl
noncomputable def Yla (tb : Nat→Option TI) (n : Nat) (s : St) : Option (Pl × Oper × TypeId × Operand × Operand × Nat × Nat × Int):=match nxO tb n s with
 | some (p,o)=>match o.op,p.dr with
  | .indexAddr T x y,false=>match Xcn (look p.E) x,Xcn (look p.E) y,tb T with
   | some (.ap q m),some (.d (.int _ j)),some ⟨.st _,e,_,ar⟩=>match Nat.beq m ar,Nat.beq e.size 1,look p.H q with
    | true,true,some _=>some (p,o,T,x,y,q,m,j)
    | _,_,_=>none
   | _,_,_=>none
  | _,_=>none
 | none=>none
theorem Ea (j : Nat) {o : Oper} {T : TypeId} {x y : Operand} {q m : Nat} {i : Int} (h : Yla c.tb c.n s=some (p,o,T,x,y,q,m,i)) (hj : j<m) (k : p.nx c (.el q 1 j 0)) (hi : i=(j : Int):=by first | exact rfl | omega) : StP c s:=by
 subst hi
 unfold Yla at h
 split at h <;> try cases h
 rename_i p' o' ho
 split at h <;> try cases h
 rename_i T' x' y' hop hdr
 split at h <;> try cases h
 rename_i k2 zz e eb ar hx hy hti
 split at h <;> cases h
 rename_i hes hH hma
 have hma:=W0e hma
 subst hma
 have hes:=W0e hes
 refine Xqm (us:=[]) ho (by unfold Xal;rw [hop];rfl) hdr (fun N W θ ρ _ hO hN hB hv=>?_) (Pl.nx_nil k)
 obtain ⟨hk,_⟩:=c.hT _ _ hti
 obtain ⟨t,u1,_,u3⟩:=hk.u
 simp only [show ¬ m=0 from by omega,if_false] at u3
 obtain ⟨E,e1,i,v0,i1,i2,_⟩:=u3
 subst e1
 have i2 : i.size=1:=i2.trans hes
 obtain ⟨cs,⟨b,f1,f2,f3⟩,f4⟩:=hv _ _ hx
 subst f3
 have f4 : ρ x=.pointer (some ⟨b,0,none⟩):=f4
 obtain ⟨ey,_⟩:=Xcp (hv _ _ hy)
 refine .val (u:=.pointer (some ⟨b,j,none⟩)) hO ?_ (by have:=Yij (sz:=1) (j:=j) (off:=0) (W:=W) f1;simpa using this) (fun i hi=>by subst hi;exact ⟨_,hH⟩)
 have hjl : (j : Int)<(m : Int):=by omega
 simp [execOp,hop,f4,ey,Instr.indexAt,Instr.sureAddr,asIntOf,sizeOf,typeInfo,underlying,program,bind,Sem.bind,Sem.run,pure,u1,i1,i2,hjl,hj,add0]
end
end
end Go.Vm
namespace Go.Proofs.YtclmecgphleeeaaGreatDoor
open Go Go.Vm Go.Num Go.Proofs Go.Shelf Go.RowKit
section
abbrev Tx (s : List UInt8) : Prop:=s.length<4611686018427387904
theorem Xf3 {s t : List UInt8} (hs : Tx s) (ht : Tx t) : C0 130 [.d (.str s),.d (.str t)] (·=.b (dc (s.take t.length=t))):=by
 refine En Tryz.func130 fun _ _ _=>?_
 refine By rfl (fun h=>?_) fun h=>?_
 · refine Stk t.length _ rfl (by omega) rfl ?_
   exact R1 rfl (.bp Xaw)
 · refine R1 rfl (.bp ⟨fun e=>(by cases e),fun e=>?_⟩)
   have:=congrArg List.length e
   rw [W0j] at this
   omega
theorem Xdy {s t : List UInt8} (hs : Tx s) (ht : Tx t) : C0 33 [.d (.str s),.d (.str t)] (·=.tup (.pr (.d (.str (if s.take t.length=t then s.drop t.length else s))) (.b (dc (s.take t.length=t))))):=by
 have h1 : C0 66 [.d (.str s),.d (.str t)] (·=.tup (.pr (.d (.str (if s.take t.length=t then s.drop t.length else s))) (.b (dc (s.take t.length=t))))):=by
  refine En Tryz.func66 fun _ _ _=>?_
  refine Ce rfl (Xf3 hs ht) ?_
  refine By rfl (fun h=>?_) fun h=>?_
  · refine RTt rfl (.cons (.eq (by rw [if_neg h])) (.one (by exact .bp (c:=false) ⟨fun e=>(by cases e),fun e=>absurd e h⟩) (fun _ _ e=>by cases e) (fun _ _ e=>by cases e)))
  · have h:=W3x.1 h
    have hl : t.length≤s.length:=by have:=congrArg List.length h;rw [W0j] at this;omega
    refine Sdp t.length _ rfl hl rfl ?_
    refine RTt rfl (.cons (.eq (by rw [if_pos h])) (.one (by exact .bp (c:=true) ⟨fun _=>h,fun _=>rfl⟩) (fun _ _ e=>by cases e) (fun _ _ e=>by cases e)))
 refine En Tryz.func33 fun _ _ _=>?_
 refine Ce rfl h1 ?_
 exact R0t
theorem Xkk {s t : List UInt8} (hs : Tx s) (ht : Tx t) : C0 38 [.d (.str s),.d (.str t)] (·=.d (.str (if t.length≤s.length∧s.drop (s.length - t.length)=t then s.take (s.length - t.length) else s))):=by
 have h0 : C0 140 [.d (.str s),.d (.str t)] (·=.b (dc (t.length≤s.length∧s.drop (s.length - t.length)=t))):=by
  refine En Tryz.func140 fun _ _ _=>?_
  refine By rfl (fun h=>?_) fun h=>?_
  · refine Ar (s.length - t.length : Nat) rfl ?_
    refine Sdp (s.length - t.length) _ rfl (by omega) rfl ?_
    exact R1 rfl (.bp (Xaw.trans ⟨fun e=>⟨by omega,e⟩,fun e=>e.2⟩))
  · exact R1 rfl (.bp ⟨fun e=>(by cases e),fun e=>absurd e.1 (by omega)⟩)
 have h1 : C0 80 [.d (.str s),.d (.str t)] (·=.d (.str (if t.length≤s.length∧s.drop (s.length - t.length)=t then s.take (s.length - t.length) else s))):=by
  refine En Tryz.func80 fun _ _ _=>?_
  refine Ce rfl h0 ?_
  refine By rfl (fun h=>?_) fun h=>?_
  · refine Ar (s.length - t.length : Nat) rfl ?_
    refine Stk (s.length - t.length) _ rfl (by omega) rfl ?_
    exact R1 rfl (.eq (by rw [if_pos h]))
  · exact R1 rfl (.eq (by rw [if_neg h]))
 refine En Tryz.func38 fun _ _ _=>?_
 refine Ce rfl h1 ?_
 exact R0
def trR (c : UInt8) (s : List UInt8) : List UInt8:=(s.reverse.dropWhile (· == c)).reverse
def trL (c : UInt8) (s : List UInt8) : List UInt8:=s.dropWhile (· == c)
theorem Xi6 {c : UInt8} (s : List UInt8) (x : UInt8) : trR c (s++[x])=if x=c then trR c s else s++[x]:=by
 unfold trR
 rw [List.reverse_append,List.reverse_singleton,W7m,W3v]
 by_cases h : x=c <;> simp [h]
theorem Xyu {a b : UInt8} (h : (a.toNat : Int)=b.toNat) : a=b:=UInt8.toNat_inj.1 (by omega)
theorem Xf4 {s : List UInt8} {b : UInt8} (hs : Tx s) : C0 81 [.d (.str s),.d (.int .u8 b.toNat)] (·=.d (.str (trR b s))):=by
 refine En Tryz.func81 fun _ _ _=>?_
 refine Lo (fun (t : List UInt8)=>[(0,.d (.str t)),(1,.d (.int .u8 b.toNat))]) (fun _=>[]) (fun t=>Tx t∧trR b t=trR b s) (fun t=>t.length) s [] rfl ⟨hs,rfl⟩ ?_ (by exact ⟨rfl,rfl,rfl,rfl,rfl⟩)
 rintro t ⟨ht,he⟩
 refine By rfl (fun h=>?_) fun h=>?_
 · rcases List.eq_nil_or_concat t with rfl | ⟨u,x,rfl⟩
   · simp at h
   rw [List.concat_eq_append] at *
   have hl : (u++[x]).length=u.length+1:=by simp
   refine Ar (u.length : Nat) rfl ?_ (wr (by omega) (by simp only [inK];omega))
   refine Yx u.length x rfl (by simp) ?_
   refine By rfl (fun h1=>?_) fun h1=>?_
   · refine Ar (u.length : Nat) rfl ?_ (wr (by omega) (by simp only [inK];omega))
     refine Stk u.length u rfl (by omega) (by simp) ?_
     refine Bk u [] rfl ⟨by show u.length<_;omega,?_⟩ (by simp) (by exact ⟨rfl,rfl,rfl,rfl,rfl⟩)
     rw [←he,Xi6,if_pos (Xyu h1)]
   · refine R1 rfl (.eq ?_)
     rw [←he,Xi6,if_neg fun e=>h1 (by rw [e])]
 · have : t=[]:=W2q.1 (by omega)
   subst this
   exact R1 rfl (.eq (by rw [←he];rfl))
theorem Xgs {s : List UInt8} {b : UInt8} (hs : Tx s) : C0 145 [.d (.str s),.d (.int .u8 b.toNat)] (·=.d (.str (trL b s))):=by
 refine En Tryz.func145 fun _ _ _=>?_
 refine Lo (fun (t : List UInt8)=>[(0,.d (.str t)),(1,.d (.int .u8 b.toNat))]) (fun _=>[]) (fun t=>Tx t∧trL b t=trL b s) (fun t=>t.length) s [] rfl ⟨hs,rfl⟩ ?_ (by exact ⟨rfl,rfl,rfl,rfl,rfl⟩)
 rintro t ⟨ht,he⟩
 refine By rfl (fun h=>?_) fun h=>?_
 · cases t with
   | nil=>simp at h
   | cons x u =>
   have hl : (x::u).length=u.length+1:=rfl
   refine Yx 0 x rfl rfl ?_
   refine By rfl (fun h1=>?_) fun h1=>?_
   · refine Sdp 1 u rfl (by omega) rfl ?_
     refine Bk u [] rfl ⟨by show u.length<_;have : (x::u).length<_:=ht;omega,?_⟩ (by simp) (by exact ⟨rfl,rfl,rfl,rfl,rfl⟩)
     rw [←he];simp [trL,Xyu h1]
   · refine R1 rfl (.eq ?_)
     rw [←he];simp [trL,W3v]
     exact fun e=>absurd (by rw [e]) h1
 · have : t=[]:=W2q.1 (by omega)
   subst this
   exact R1 rfl (.eq (by rw [←he];rfl))
theorem Xkl {s : List UInt8} {b : UInt8} (hs : Tx s) (hb : b.toNat<128) : C0 39 [.d (.str s),.d (.str [b])] (·=.d (.str (trR b s))):=by
 refine En Tryz.func39 fun _ _ _=>?_
 refine By rfl (fun h=>?_) fun h=>?_
 · subst h;exact R1 rfl (.eq rfl)
 · refine No rfl (by simp) ?_
   refine Yes rfl (by simp) ?_
   refine Yx 0 b rfl rfl ?_
   refine Yes rfl (by omega) ?_
   refine Yx 0 b rfl rfl ?_
   refine Ce rfl (Xf4 hs) ?_
   exact R0
theorem Xl7 {s : List UInt8} {b : UInt8} (hs : Tx s) (hb : b.toNat<128) : C0 87 [.d (.str s),.d (.str [b])] (·=.d (.str (trL b s))):=by
 refine En Tryz.func87 fun _ _ _=>?_
 refine By rfl (fun h=>?_) fun h=>?_
 · subst h;exact R1 rfl (.eq rfl)
 · refine No rfl (by simp) ?_
   refine Yes rfl (by simp) ?_
   refine Yx 0 b rfl rfl ?_
   refine Yes rfl (by omega) ?_
   refine Yx 0 b rfl rfl ?_
   refine Ce rfl (Xgs hs) ?_
   exact R0
end
section
def d2 (n : Nat) : List UInt8:=[UInt8.ofNat (48+n / 10),UInt8.ofNat (48+n % 10)]
theorem Yg4 {n : Nat} (h : 10≤n) (h1 : n<100) : dec n=d2 n:=by rw [Xfb h,Xdl (by omega)];rfl
def tb2 : List UInt8:=(List.range 100).flatMap d2
theorem Xwd {n : Nat} (hn : n<100) : C0 186 [.d (.int .i64 n)] (·=.d (.str (dec n))):=by
 refine En Tryz.func186 fun _ _ _=>?_
 refine By rfl (fun h=>?_) fun h=>?_
 · refine Ar (n+1 : Nat) rfl ?_
   refine Smd n (n+1) (dec n) rfl ⟨by omega,by simp;omega⟩ ?_ ?_
   · rw [Xdl (by omega)]
     have h1 : n<10:=by omega
     clear hn h
     revert h1;generalize n=j;revert j;decide +kernel
   · exact R0
 · refine Ar (n*2 : Nat) rfl ?_
   refine Ar (n*2 : Nat) rfl ?_
   refine Ar (n*2+2 : Nat) rfl ?_
   refine Smd (n*2) (n*2+2) (dec n) rfl ⟨by omega,by simp;omega⟩ ?_ ?_
   · rw [Yg4 (by omega) hn]
     clear h
     revert hn;generalize n=j;revert j;decide +kernel
   · exact R0
theorem Xk9 {n : Nat} (hn : n≤64) : C0 226 [.d (.int .i64 n)] (·=.d (.int .i64 (n*78913 / 262144 : Nat))):=by
 refine En Tryz.func226 fun _ _ _=>?_
 refine Ar (n*78913 : Nat) rfl ?_
 refine Ar (n*78913 / 2 ^ 18 : Nat) rfl ?_ (Xgy (n:=18) (by decide))
 exact R1 rfl (.eq rfl)
theorem Xx8 {p : Prop} : C0 228 [.b (dc p)] (fun v=>∃ n : Nat,v=.d (.int .i64 n)∧(n=1∧p∨n=0∧¬ p)):=by
 refine En Tryz.func228 fun _ _ _=>?_
 refine By rfl (fun h=>?_) fun h=>?_
 · exact Rt rfl (.one (.rf rfl) rfl rfl) ⟨1,rfl,.inl ⟨rfl,h⟩⟩
 · exact Rt rfl (.one (.rf rfl) rfl rfl) ⟨0,rfl,.inr ⟨rfl,h⟩⟩
theorem Xyi {x : Nat} (hx : x<18446744073709551616) : C0 227 [.d (.int .u64 x)] (·=.d (.int .i64 (bl x))):=by
 refine En Tryz.func227 fun _ _ _=>?_
 refine Cu none (fun ((x1,n1) : Nat × Nat)=>[(0,.d (.int .u64 x1)),(2,.d (.int .i64 n1))]) (fun _=>[]) (fun (x1,n1)=>x1<4294967296∧bl x=bl x1+n1∧n1≤32) rfl ?_ fun ⟨x0,n0⟩ ⟨hx0,hb0,hn0⟩=>?_
 · refine By rfl (fun h=>?_) fun h=>?_
   · refine Ar (x / 2 ^ 32 : Nat) rfl ?_ (Xgy (n:=32) (by decide))
     exact Jn (x / 2 ^ 32,32) [] rfl ⟨by omega,Xea (by omega),W0a _⟩
   · exact Jn (x,0) [] rfl ⟨by omega,rfl,by omega⟩
 refine Cu none (fun ((x1,n1) : Nat × Nat)=>[(0,.d (.int .u64 x1)),(2,.d (.int .i64 n1))]) (fun _=>[]) (fun (x1,n1)=>x1<65536∧bl x=bl x1+n1∧n1≤48) rfl ?_ fun ⟨x1,n1⟩ ⟨hx1,hb1,hn1⟩=>?_
 · refine By rfl (fun h=>?_) fun h=>?_
   · refine Ar (x0 / 2 ^ 16 : Nat) rfl ?_ (Xgy (n:=16) (by decide))
     refine Ar (n0+16 : Nat) rfl ?_
     exact Jn (x0 / 2 ^ 16,n0+16) [] rfl ⟨by omega,by rw [hb0,Xea (n:=x0) (k:=16) (by omega)];omega,by omega⟩
   · exact Jn (x0,n0) [] rfl ⟨by omega,hb0,by omega⟩
 refine Cu none (fun ((x1,n1) : Nat × Nat)=>[(0,.d (.int .u64 x1)),(2,.d (.int .i64 n1))]) (fun _=>[]) (fun (x1,n1)=>x1<256∧bl x=bl x1+n1∧n1≤56) rfl ?_ fun ⟨x2,n2⟩ ⟨hx2,hb2,hn2⟩=>?_
 · refine By rfl (fun h=>?_) fun h=>?_
   · refine Ar (x1 / 2 ^ 8 : Nat) rfl ?_ (Xgy (n:=8) (by decide))
     refine Ar (n1+8 : Nat) rfl ?_
     exact Jn (x1 / 2 ^ 8,n1+8) [] rfl ⟨by omega,by rw [hb1,Xea (n:=x1) (k:=8) (by omega)];omega,by omega⟩
   · exact Jn (x1,n1) [] rfl ⟨by omega,hb1,by omega⟩
 have hbl : bl x2<256:=W0r (Xz4 (p:=fun j=>bl j<10) (by decide +kernel) x2 hx2) (by decide)
 refine Go.Vm.Cv x2 rfl ?_
 refine Yx x2 (UInt8.ofNat (bl x2)) rfl (by revert hx2;generalize x2=j;revert j;decide +kernel) ?_
 refine Go.Vm.Cv (bl x2 : Nat) rfl ?_ ((wI ⟨by omega,by rw [Xv2 hbl];omega⟩).trans (Xv2 hbl))
 refine Ar (bl x : Nat) rfl ?_
 exact R0
theorem Xk6 {x : Nat} (h1 : 100≤x) (hx : x<1000000000) : C0 187 [.d (.int .u64 x)] (·=.d (.int .i64 (dec x).length)):=by
 obtain ⟨b1,b2,b3⟩:=Xca (n:=x) (by omega)
 have hb7 : 7≤bl x:=by
  have : 2 ^ 6<2 ^ bl x:=W1m (by omega) b2
  have:=(W2y (by decide : 1<2)).1 this
  omega
 have hb30 : bl x≤30:=by
  have : 2 ^ (bl x - 1)<2 ^ 30:=W1m b1 (by omega)
  have:=(W2y (by decide : 1<2)).1 this
  omega
 obtain ⟨t,ht⟩ : ∃ t,t=bl x*78913 / 262144:=⟨_,rfl⟩
 have ht9 : t≤9:=by omega
 have key : 10 ^ (t - 1)≤x∧x<10 ^ (t+1)∧1≤t:=by
  have hc : ∀ b,b≤30→7≤b→10 ^ (b*78913 / 262144 - 1)≤2 ^ (b - 1)∧2 ^ b≤10 ^ (b*78913 / 262144+1)∧1≤b*78913 / 262144:=by decide +kernel
  obtain ⟨c1,c2,c3⟩:=hc (bl x) hb30 hb7
  rw [←ht] at c1 c2 c3
  exact ⟨W0i c1 b1,W0r b2 c2,c3⟩
 refine En Tryz.func187 fun _ _ _=>?_
 refine Ce rfl (Xyi (by omega)) ?_
 refine Ce rfl (show C0 _ _ (·=.d (.int .i64 (t : Nat))) by rw [ht];exact Xk9 (by omega)) ?_
 refine Gx t .u64 ((10 ^ t : Nat) : Int) rfl (by omega) (fun W h=>h t (by omega)) ?_ ?_
 · have : 10 ^ t≤10 ^ 9:=W0h (by decide) ht9
   exact wr rfl (by simp only [inK];omega)
 refine Ca rfl (C.nb Xx8) fun v hv=>?_
 obtain ⟨n,rfl,hn⟩:=hv
 refine Ar ((dec x).length : Nat) rfl ?_ ?_
 · exact R0
 · refine wr ?_ ?_
   · rcases hn with ⟨rfl,hp⟩ | ⟨rfl,hp⟩
     · have:=Xen t x key.2.1
       have:=Xd8 t x (by omega)
       omega
     · have h3:=Xen (t - 1) x (by rw [show t - 1+1=t by omega];omega)
       have h4:=Xd8 (t - 1) x key.1
       omega
   · have:=Xen 9 x (by omega)
     simp only [inK];omega
end
section
def dgs : Nat→Nat→List UInt8
 | 0,_=>[]
 | w+1,n=>dgs w (n / 10)++[UInt8.ofNat (48+n % 10)]
theorem Yc1 (w n : Nat) : dgs (w+2) n=dgs w (n / 100)++d2 (n % 100):=by
 rw [dgs,dgs,W6i,d2,show n / 10 % 10=n % 100 / 10 by omega,show n % 10=n % 100 % 10 by omega]
 simp
theorem Xut (n : Nat) : dgs (dec n).length n=dec n:=by
 induction n using Nat.strongRecOn with
 | ind n ih =>
  by_cases h : n<10
  · rw [Xdl h];show dgs 1 n=_;rw [dgs,dgs,W3u h];rfl
  · rw [Xfb (by omega),W0c];show dgs (_+1) n=_
    rw [dgs,ih _ (by omega)]
def b8 (b : UInt8) : D:=.int .u8 b.toNat
theorem Xu8 : ∀ l : List UInt8,Xx7 (l.map b8)=some l
 | []=>rfl
 | b::l=>by
  show (match Xx7 (l.map b8) with | some s=>some (UInt8.ofNat ((b.toNat : Int)).toNat::s) | none=>none)=_
  rw [Xu8 l];simp
theorem st1 {z acc : List UInt8} {i j : Nat} {a : UInt8} (h1 : j+1=i) (h2 : i≤z.length) : ((z.take i++acc).map b8).set j (b8 a)=(z.take j++a::acc).map b8:=by
 subst h1
 rw [←List.map_set]
 congr 1
 apply W3w
 intro k
 by_cases hk : k<j
 · rw [W1v (by omega),W0x (by simp;omega),W0x (by simp;omega),W1c,W1c,if_pos (by omega),if_pos (by omega)]
 · by_cases hk2 : k=j
   · subst hk2
     rw [W2s (by simp;omega),W0u (by simp;omega)]
     have : k - (List.take k z).length=0:=by simp;omega
     rw [this];rfl
   · obtain ⟨q,rfl⟩ : ∃ q,k=j+1+q:=⟨k - (j+1),by omega⟩
     rw [W1v (by omega),W0u (by simp;omega),W0u (by simp;omega)]
     have e1 : j+1+q - (List.take (j+1) z).length=q:=by simp;omega
     have e2 : j+1+q - (List.take j z).length=q+1:=by simp;omega
     rw [e1,e2];simp
def Yku (l : List UInt8) : Prop:=∀ v,v<100→l[v*2+1]?=some (UInt8.ofNat (48+v % 10))∧l[v*2]?=some (UInt8.ofNat (48+v / 10))
instance (l : List UInt8) : Decidable (Yku l):=inferInstanceAs (Decidable (∀ v,v<100→_))
theorem quN {k : IntKind} {a b r : Nat} (hb : b≠0) (h : a / b=r) (hk : inK k (r : Int)) : arB .quo k (a : Int) (b : Int) (r : Int):=show _∧_ from ⟨by omega,wr (by subst h;rfl) hk⟩
theorem reN {k : IntKind} {a b r : Nat} (hb : b≠0) (h : a % b=r) : arB .rem k (a : Int) (b : Int) (r : Int):=show _∧_ from ⟨by omega,by subst h;rfl⟩
theorem tbl : Yku (List.flatten ((List.range 100).map d2)):=by decide +kernel
theorem Stb {c : Cx} {s : St} {p : Pl} {q j : Nat} {xs : List D} {z : Int} (a : UInt8) {zs : List D} (h : Yjj c.tb c.n s=some (p,q,1,xs,j,.int .u8 z)) (hj : j<xs.length) (hz : xs.set j (b8 a)=zs) (k : p.nx' c (.ub True) [(q,.arr 1 zs)]) (hza : z=(a.toNat : Int):=by exact rfl) : StP c s:=by
 subst hza
 exact Sto h hj hz k
theorem Xho {nd x : Nat} {z0 : List UInt8} (h1 : nd≤9) (hx : x<1000000000) (hxn : x<10 ^ nd) (hz0 : nd≤z0.length) (hz24 : z0.length<1000) :
 CW0 188 [.own 1000001 1 0 nd,.d (.int .u64 x)] [(1000001,.arr 1 (z0.map b8))] fun v H'=>H'=[(1000001,.arr 1 ((dgs nd x++z0.drop nd).map b8))]:=by
 refine EnW Tryz.func188 fun _ _ _ _=>?_
 refine Lo (fun ((i,u,acc) : Nat × Nat × List UInt8)=>[(0,.own 1000001 1 0 nd),(1,.d (.int .u64 u)),(4,.d (.int .i64 i))]) (fun (i,_,acc)=>[(1000001,.arr 1 ((z0.take i++acc).map b8))])
  (fun (i,u,acc)=>i≤nd∧u<10 ^ i∧u<1000000000∧dgs i u++acc=dgs nd x++z0.drop nd) (fun (i,_,_)=>i) (nd,x,z0.drop nd) [] rfl ⟨W0a _,hxn,hx,rfl⟩ ?_ (by exact ⟨rfl,by simp only [W3z];rfl,rfl,rfl,rfl⟩)
 rintro ⟨i,u,acc⟩ ⟨hi,hu,hu9,hI⟩
 refine By rfl (fun h=>?_) fun h=>?_
 · obtain ⟨v,hv⟩ : ∃ v,v=u % 100000000:=⟨_,rfl⟩
   obtain ⟨t6,ht6⟩ : ∃ t,t=v / 10000:=⟨_,rfl⟩
   obtain ⟨t7,ht7⟩ : ∃ t,t=v % 10000:=⟨_,rfl⟩
   obtain ⟨v0,hv0⟩ : ∃ w,w=t7 % 100:=⟨_,rfl⟩
   obtain ⟨v1,hv1⟩ : ∃ w,w=t7 / 100:=⟨_,rfl⟩
   obtain ⟨v2,hv2⟩ : ∃ w,w=t6 % 100:=⟨_,rfl⟩
   obtain ⟨v3,hv3⟩ : ∃ w,w=t6 / 100:=⟨_,rfl⟩
   have Bv0 : v0<100:=by omega
   have Bv1 : v1<100:=by omega
   have Bv2 : v2<100:=by omega
   have Bv3 : v3<100:=by omega
   refine Ar (v : Nat) rfl ?_ (reN (b:=100000000) (by decide) hv.symm)
   refine Go.Vm.Cv v rfl ?_
   refine Ar (u / 100000000 : Nat) rfl ?_ (quN (b:=100000000) (by decide) rfl (by simp only [inK];omega))
   refine Ar t6 rfl ?_ (quN (b:=10000) (by decide) ht6.symm (by simp only [inK];omega))
   refine Ar t7 rfl ?_ (reN (b:=10000) (by decide) ht7.symm)
   refine Ar v1 rfl ?_ (quN (b:=100) (by decide) hv1.symm (by simp only [inK];omega))
   refine Ar (v1*2 : Nat) rfl ?_
   refine Ar v0 rfl ?_ (reN (b:=100) (by decide) hv0.symm)
   refine Ar (v0*2 : Nat) rfl ?_
   refine Ar v3 rfl ?_ (quN (b:=100) (by decide) hv3.symm (by simp only [inK];omega))
   refine Ar (v3*2 : Nat) rfl ?_
   refine Ar v2 rfl ?_ (reN (b:=100) (by decide) hv2.symm)
   refine Ar (v2*2 : Nat) rfl ?_
   refine Dw rfl ?_
   refine Ar ((i - 1 : Nat) : Int) rfl ?_
   refine Ar ((i - 2 : Nat) : Int) rfl ?_
   refine Ar ((v0*2+1 : Nat) : Int) rfl ?_
   refine Yx (v0*2+1) (UInt8.ofNat (48+v0 % 10)) rfl (tbl v0 Bv0).1 ?_
   refine Yx (v0*2) (UInt8.ofNat (48+v0 / 10)) rfl (tbl v0 Bv0).2 ?_
   refine Eo (i - 1) rfl (by omega) ?_
   refine Stb (UInt8.ofNat (48+v0 % 10)) rfl (by simp only [W0n,W0c,W0j,W0s];omega) (st1 (by omega) (by omega)) ?_
   refine Eo (i - 2) rfl (by omega) ?_
   refine Stb (UInt8.ofNat (48+v0 / 10)) rfl (by simp only [W0n,W0c,W0j,W0s];omega) (st1 (by omega) (by omega)) ?_
   refine Dw rfl ?_
   refine Ar ((i - 3 : Nat) : Int) rfl ?_
   refine Ar ((i - 4 : Nat) : Int) rfl ?_
   refine Ar ((v1*2+1 : Nat) : Int) rfl ?_
   refine Yx (v1*2+1) (UInt8.ofNat (48+v1 % 10)) rfl (tbl v1 Bv1).1 ?_
   refine Yx (v1*2) (UInt8.ofNat (48+v1 / 10)) rfl (tbl v1 Bv1).2 ?_
   refine Eo (i - 3) rfl (by omega) ?_
   refine Stb (UInt8.ofNat (48+v1 % 10)) rfl (by simp only [W0n,W0c,W0j,W0s];omega) (st1 (by omega) (by omega)) ?_
   refine Eo (i - 4) rfl (by omega) ?_
   refine Stb (UInt8.ofNat (48+v1 / 10)) rfl (by simp only [W0n,W0c,W0j,W0s];omega) (st1 (by omega) (by omega)) ?_
   refine Dw rfl ?_
   refine Ar ((i - 5 : Nat) : Int) rfl ?_
   refine Ar ((i - 6 : Nat) : Int) rfl ?_
   refine Ar ((v2*2+1 : Nat) : Int) rfl ?_
   refine Yx (v2*2+1) (UInt8.ofNat (48+v2 % 10)) rfl (tbl v2 Bv2).1 ?_
   refine Yx (v2*2) (UInt8.ofNat (48+v2 / 10)) rfl (tbl v2 Bv2).2 ?_
   refine Eo (i - 5) rfl (by omega) ?_
   refine Stb (UInt8.ofNat (48+v2 % 10)) rfl (by simp only [W0n,W0c,W0j,W0s];omega) (st1 (by omega) (by omega)) ?_
   refine Eo (i - 6) rfl (by omega) ?_
   refine Stb (UInt8.ofNat (48+v2 / 10)) rfl (by simp only [W0n,W0c,W0j,W0s];omega) (st1 (by omega) (by omega)) ?_
   refine Dw rfl ?_
   refine Ar ((i - 7 : Nat) : Int) rfl ?_
   refine Ar ((i - 8 : Nat) : Int) rfl ?_
   refine Ar ((v3*2+1 : Nat) : Int) rfl ?_
   refine Yx (v3*2+1) (UInt8.ofNat (48+v3 % 10)) rfl (tbl v3 Bv3).1 ?_
   refine Yx (v3*2) (UInt8.ofNat (48+v3 / 10)) rfl (tbl v3 Bv3).2 ?_
   refine Eo (i - 7) rfl (by omega) ?_
   refine Stb (UInt8.ofNat (48+v3 % 10)) rfl (by simp only [W0n,W0c,W0j,W0s];omega) (st1 (by omega) (by omega)) ?_
   refine Eo (i - 8) rfl (by omega) ?_
   refine Stb (UInt8.ofNat (48+v3 / 10)) rfl (by simp only [W0n,W0c,W0j,W0s];omega) (st1 (by omega) (by omega)) ?_
   refine Ar ((i - 8 : Nat) : Int) rfl ?_
   refine Bk (i - 8,u / 100000000,d2 v3++(d2 v2++(d2 v1++(d2 v0++acc)))) [] rfl ⟨by omega,?_,by omega,?_⟩ (by show i - 8<i;omega) (by exact ⟨rfl,rfl,rfl,rfl,rfl⟩)
   · obtain ⟨q,rfl⟩ : ∃ q,i=q+8:=⟨i - 8,by omega⟩
     rw [W0v] at hu
     rw [W3g]
     exact W4f (by rw [W1e];exact hu)
   · obtain ⟨q,rfl⟩ : ∃ q,i=q+8:=⟨i - 8,by omega⟩
     rw [W3g,←hI,show q+8=q+6+2 from rfl,Yc1,show q+6=q+4+2 from rfl,Yc1,show q+4=q+2+2 from rfl,Yc1,Yc1]
     rw [show u / 100 / 100 / 100 / 100=u / 100000000 by omega,show u % 100=v0 by omega,show u / 100 % 100=v1 by omega,show u / 100 / 100 % 100=v2 by omega,show u / 100 / 100 / 100 % 100=v3 by omega]
     simp only [W3y]
 have hi8 : i<8:=by omega
 have hu8 : u<10 ^ 8:=W0r hu (W0h (by decide) (by omega))
 refine Go.Vm.Cv u rfl ?_
 refine Cu none (fun ((i,u,acc) : Nat × Nat × List UInt8)=>[(0,.own 1000001 1 0 nd),(12,.d (.int .u32 u)),(4,.d (.int .i64 i))]) (fun (i,_,acc)=>[(1000001,.arr 1 ((z0.take i++acc).map b8))])
  (fun (i,u,acc)=>i≤nd∧i<4∧u<10 ^ i∧dgs i u++acc=dgs nd x++z0.drop nd) rfl ?_ ?_
 · refine By rfl (fun h4=>?_) fun h4=>?_
   · obtain ⟨v,hv⟩ : ∃ v,v=u % 10000:=⟨_,rfl⟩
     obtain ⟨v0,hv0⟩ : ∃ w,w=v % 100:=⟨_,rfl⟩
     obtain ⟨v1,hv1⟩ : ∃ w,w=v / 100:=⟨_,rfl⟩
     have Bv0 : v0<100:=by omega
     have Bv1 : v1<100:=by omega
     refine Ar (v : Nat) rfl ?_ (reN (b:=10000) (by decide) hv.symm)
     refine Ar (u / 10000 : Nat) rfl ?_ (quN (b:=10000) (by decide) rfl (by simp only [inK];omega))
     refine Ar v1 rfl ?_ (quN (b:=100) (by decide) hv1.symm (by simp only [inK];omega))
     refine Ar (v1*2 : Nat) rfl ?_
     refine Ar v0 rfl ?_ (reN (b:=100) (by decide) hv0.symm)
     refine Ar (v0*2 : Nat) rfl ?_
     refine Dw rfl ?_
     refine Ar ((i - 1 : Nat) : Int) rfl ?_
     refine Ar ((i - 2 : Nat) : Int) rfl ?_
     refine Ar ((v0*2+1 : Nat) : Int) rfl ?_
     refine Yx (v0*2+1) (UInt8.ofNat (48+v0 % 10)) rfl (tbl v0 Bv0).1 ?_
     refine Yx (v0*2) (UInt8.ofNat (48+v0 / 10)) rfl (tbl v0 Bv0).2 ?_
     refine Eo (i - 1) rfl (by omega) ?_
     refine Stb (UInt8.ofNat (48+v0 % 10)) rfl (by simp only [W0n,W0c,W0j,W0s];omega) (st1 (by omega) (by omega)) ?_
     refine Eo (i - 2) rfl (by omega) ?_
     refine Stb (UInt8.ofNat (48+v0 / 10)) rfl (by simp only [W0n,W0c,W0j,W0s];omega) (st1 (by omega) (by omega)) ?_
     refine Dw rfl ?_
     refine Ar ((i - 3 : Nat) : Int) rfl ?_
     refine Ar ((i - 4 : Nat) : Int) rfl ?_
     refine Ar ((v1*2+1 : Nat) : Int) rfl ?_
     refine Yx (v1*2+1) (UInt8.ofNat (48+v1 % 10)) rfl (tbl v1 Bv1).1 ?_
     refine Yx (v1*2) (UInt8.ofNat (48+v1 / 10)) rfl (tbl v1 Bv1).2 ?_
     refine Eo (i - 3) rfl (by omega) ?_
     refine Stb (UInt8.ofNat (48+v1 % 10)) rfl (by simp only [W0n,W0c,W0j,W0s];omega) (st1 (by omega) (by omega)) ?_
     refine Eo (i - 4) rfl (by omega) ?_
     refine Stb (UInt8.ofNat (48+v1 / 10)) rfl (by simp only [W0n,W0c,W0j,W0s];omega) (st1 (by omega) (by omega)) ?_
     refine Ar ((i - 4 : Nat) : Int) rfl ?_
     refine Jn (i - 4,u / 10000,d2 v1++(d2 v0++acc)) [] rfl ⟨by omega,by omega,?_,?_⟩
     · obtain ⟨q,rfl⟩ : ∃ q,i=q+4:=⟨i - 4,by omega⟩
       rw [W0v] at hu
       rw [W3g]
       exact W4f (by rw [W1e];exact hu)
     · obtain ⟨q,rfl⟩ : ∃ q,i=q+4:=⟨i - 4,by omega⟩
       rw [W3g,←hI,show q+4=q+2+2 from rfl,Yc1,Yc1]
       rw [show u / 100 / 100=u / 10000 by omega,show u % 100=v0 by omega,show u / 100 % 100=v1 by omega]
       simp only [W3y]
   · exact Jn (i,u,acc) [] rfl ⟨hi,by omega,hu,hI⟩
 clear hu8 hi8 h hI hu9 hu hi acc u i
 rintro ⟨i,u,acc⟩ ⟨hi,hi4,hu,hI⟩
 have hu4 : u<10 ^ 4:=W0r hu (W0h (by decide) (by omega))
 refine Cu none (fun ((i,u,acc) : Nat × Nat × List UInt8)=>[(0,.own 1000001 1 0 nd),(12,.d (.int .u32 u)),(4,.d (.int .i64 i))]) (fun (i,_,acc)=>[(1000001,.arr 1 ((z0.take i++acc).map b8))])
  (fun (i,u,acc)=>i≤nd∧i<2∧u<10 ^ i∧dgs i u++acc=dgs nd x++z0.drop nd) rfl ?_ ?_
 · refine By rfl (fun h4=>?_) fun h4=>?_
   · obtain ⟨v0,hv0⟩ : ∃ w,w=u % 100:=⟨_,rfl⟩
     have Bv0 : v0<100:=by omega
     refine Ar v0 rfl ?_ (reN (b:=100) (by decide) hv0.symm)
     refine Ar (v0*2 : Nat) rfl ?_
     refine Ar (u / 100 : Nat) rfl ?_ (quN (b:=100) (by decide) rfl (by simp only [inK];omega))
     refine Dw rfl ?_
     refine Ar ((i - 1 : Nat) : Int) rfl ?_
     refine Ar ((i - 2 : Nat) : Int) rfl ?_
     refine Ar ((v0*2+1 : Nat) : Int) rfl ?_
     refine Yx (v0*2+1) (UInt8.ofNat (48+v0 % 10)) rfl (tbl v0 Bv0).1 ?_
     refine Yx (v0*2) (UInt8.ofNat (48+v0 / 10)) rfl (tbl v0 Bv0).2 ?_
     refine Eo (i - 1) rfl (by omega) ?_
     refine Stb (UInt8.ofNat (48+v0 % 10)) rfl (by simp only [W0n,W0c,W0j,W0s];omega) (st1 (by omega) (by omega)) ?_
     refine Eo (i - 2) rfl (by omega) ?_
     refine Stb (UInt8.ofNat (48+v0 / 10)) rfl (by simp only [W0n,W0c,W0j,W0s];omega) (st1 (by omega) (by omega)) ?_
     refine Ar ((i - 2 : Nat) : Int) rfl ?_
     refine Jn (i - 2,u / 100,d2 v0++acc) [] rfl ⟨by omega,by omega,?_,?_⟩
     · obtain ⟨q,rfl⟩ : ∃ q,i=q+2:=⟨i - 2,by omega⟩
       rw [W0v] at hu
       rw [W3g]
       exact W4f (by rw [W1e];exact hu)
     · obtain ⟨q,rfl⟩ : ∃ q,i=q+2:=⟨i - 2,by omega⟩
       rw [W3g,←hI,Yc1,←hv0]
       simp only [W3y]
   · exact Jn (i,u,acc) [] rfl ⟨hi,by omega,hu,hI⟩
 clear hu4 hi4 hI hu hi acc u i
 rintro ⟨i,u,acc⟩ ⟨hi,hi2,hu,hI⟩
 refine By rfl (fun h4=>?_) fun h4=>?_
 · have : i=1:=by omega
   subst this
   have hu1 : u<10:=by simpa using hu
   refine Ar (48+u : Nat) rfl ?_
   refine Go.Vm.Cv (48+u : Nat) rfl ?_
   refine Eo 0 rfl (by omega) ?_
   refine Stb (UInt8.ofNat (48+u)) rfl (by simp only [W0n,W0c,W0j];omega) (st1 (i:=1) rfl (by omega)) ?_ (by rw [dg hu1])
   refine Rw [] [(1000001,.arr 1 ((z0.take 0++UInt8.ofNat (48+u)::acc).map b8))] rfl (.tup (.one (.rf rfl) (fun _ _ e=>by cases e) (fun _ _ e=>by cases e))) ?_
   rw [←hI,dgs,dgs,W3u hu1];rfl
 · have : i=0:=by omega
   subst this
   refine Rw [] [(1000001,.arr 1 ((z0.take 0++acc).map b8))] rfl (.tup (.one (.rf rfl) (fun _ _ e=>by cases e) (fun _ _ e=>by cases e))) ?_
   rw [←hI,dgs];rfl
end
section
theorem Xkn {x : Nat} (hx : x<1000000000) : C0 71 [.d (.int .u64 x),.d (.int .i64 10)] (·=.d (.str (dec x))):=by
 have h1 : C0 133 [.d (.int .u64 x),.d (.int .i64 10)] (·=.d (.str (dec x))):=by
  refine En Tryz.func133 fun _ _ _=>?_
  refine Yes rfl rfl ?_
  refine By rfl (fun h=>?_) fun h=>?_
  · refine Go.Vm.Cv x rfl ?_
    refine Ce rfl (Xwd (by omega)) ?_
    exact R0
  · have hl:=Xen 8 x hx
    have hg:=Xd8 2 x (by omega)
    refine Va 5 5 900 24 ((List.replicate 24 (0 : UInt8)).map b8) rfl rfl (by decide) rfl ?_
    refine Ce rfl (Xk6 (by omega) hx) ?_
    refine Sp (dec x).length rfl (by omega) (by decide) ?_ (by decide)
    refine Cw (args:=[.own 1000001 1 0 (dec x).length,.d (.int .u64 x)]) [(1000001,900)] rfl (Xho (z0:=List.replicate 24 (0 : UInt8)) hl hx (Yg2 x) (by simp;omega) (by simp)) (fun v H' _ hv=>?_) rfl
    subst hv
    refine Sp (dec x).length rfl (by omega) (by decide) ?_ (by decide)
    refine Bo (dec x) rfl ?_ ?_ ?_
    · simp [Xut]
    · rw [Xut]
      simp only [W1f]
      rw [←W2g,W6f rfl,Xu8]
    · exact R0
 refine En Tryz.func71 fun _ _ _=>?_
 refine Ce rfl h1 ?_
 exact R0
end
section
theorem Xdk {s t : List UInt8} (hs : Tx s) (ht : Tx t) : C0 75 [.d (.str s),.d (.str t)] (·=.b (dc (s.take t.length=t))):=by
 refine En Tryz.func75 fun _ _ _=>?_
 refine Ce rfl (Xf3 hs ht) ?_
 exact R0
theorem Ydp {n : Nat} (hn : n<65) : C0 74 [.d (.int .u64 1),.d (.int .u64 n)] (·=.tup (.pr (.d (.int .u64 0)) (.d (.int .u64 n)))):=by
 have h1 : C0 135 [.d (.int .u64 1),.d (.int .u64 n)] (·=.tup (.pr (.d (.int .u64 0)) (.d (.int .u64 n)))):=by
  refine En Tryz.func135 fun _ _ _=>?_
  refine Ar 1 rfl ?_ (by simp only [arB];decide +kernel)
  refine Ar 0 rfl ?_ (by simp only [arB];decide +kernel)
  refine Ar n rfl ?_ (by simp only [arB];revert hn;generalize n=j;revert j;decide +kernel)
  refine Ar 0 rfl ?_ (by simp only [arB];revert hn;generalize n=j;revert j;decide +kernel)
  refine Ar n rfl ?_
  refine Ar 0 rfl ?_
  refine Ar 0 rfl ?_ (by simp only [arB];revert hn;generalize n=j;revert j;decide +kernel)
  refine Ar 0 rfl ?_
  refine Ar 0 rfl ?_ (by simp only [arB];decide +kernel)
  refine Ar 0 rfl ?_ (by simp only [arB];decide +kernel)
  refine Ar 0 rfl ?_
  refine Ar 0 rfl ?_
  refine Ar 0 rfl ?_
  refine Ar 0 rfl ?_
  refine Ar 0 rfl ?_ (by simp only [arB];decide +kernel)
  refine Ar 0 rfl ?_
  refine Ar n rfl ?_
  exact R0t
 refine En Tryz.func74 fun _ _ _=>?_
 refine Ce rfl h1 ?_
 exact R0t
theorem Xiz {n : Nat} (hn : n<65) : C0 35 [.d (.str [48]),.d (.int .i64 n)] (·=.d (.str (List.replicate n 48))):=by
 refine En Tryz.func35 fun _ _ _=>?_
 refine By rfl (fun h=>?_) fun h=>?_
 · have : n=0:=by omega
   subst this;exact R1 rfl (.eq rfl)
 refine By rfl (fun h1=>?_) fun h1=>?_
 · have : n=1:=by omega
   subst this;exact R1 rfl (.eq rfl)
 refine No rfl (by omega) ?_
 refine Go.Vm.Cv 1 rfl ?_ (by decide)
 refine Go.Vm.Cv n rfl ?_
 refine Ce rfl (Ydp hn) ?_
 refine No rfl (by decide) ?_
 refine No rfl (by omega) ?_
 refine Go.Vm.Cv n rfl ?_
 refine No rfl (by decide) ?_
 refine Yx 0 48 rfl rfl ?_
 refine No rfl (by decide) ?_
 refine No rfl (by decide) ?_
 refine Yes rfl (by decide) ?_
 refine Yes rfl (by omega) ?_
 refine Ce rfl (Xdk (by decide) (by decide)) ?_
 refine No rfl (by decide) ?_
 refine Yes rfl (by omega) ?_
 refine Ce rfl (Xdk (by decide) (by decide)) ?_
 refine No rfl (by decide) ?_
 refine Yes rfl (by omega) ?_
 refine Ce rfl (Xdk (by decide) (by decide)) ?_
 refine Yes rfl (by decide) ?_
 refine Stk n (List.replicate n 48) rfl (by simp;omega) ?_ ?_
 · clear h h1
   revert hn;generalize n=j;revert j;decide +kernel
 · exact R0
end
section
theorem Xkm (s : ByteArray) (c : Int) (w : World) : Calls Tryz.prog 242 #[.string s,.int .u8 c] w fun e w'=>e=.returned (.int .i64 (Lib.indexByte s.data.toList c.toNat.toUInt8))∧w'=w:=by
 go_enter Tryz.func242,Tryz.ntmps242
 go_wp2
 rw [run_callFunc_extern Tryz.func270 (by kernel_rfl) (by kernel_rfl) (by kernel_rfl) (e:=Extern.BytealgIndexByte.indexByte) (by kernel_rfl),Lib.run_indexByteString]
 simp only [Result.andThen]
 rw [Oper.upon_value]
 go_wp2
 go_ret
 exact ⟨rfl,rfl⟩
theorem Yb7 {b : UInt8} : ∀ {s : List UInt8},b ∉ s→Lib.indexByte s b=-1
 | [],_=>rfl
 | x::s,h=>by
  rw [W1o,not_or] at h
  have:=Yb7 h.2
  rw [Lib.indexByte,this]
  rw [if_neg (by simpa using fun e=>h.1 e.symm)];rfl
theorem Yb8 {b : UInt8} {t : List UInt8} : ∀ {u : List UInt8},b ∉ u→Lib.indexByte (u++b::t) b=u.length
 | [],_=>by simp [Lib.indexByte]
 | x::u,h=>by
  rw [W1o,not_or] at h
  have:=Yb8 (t:=t) h.2
  rw [W3t,Lib.indexByte,this]
  rw [if_neg (by simpa using fun e=>h.1 e.symm),if_neg (by rw [beq_iff_eq];omega)]
  simp
theorem Yb6 (b : UInt8) : ∀ s : List UInt8,b ∉ s∨∃ u t,s=u++b::t∧b ∉ u
 | []=>.inl (by simp)
 | x::s=>by
  by_cases h : x=b
  · subst h;exact .inr ⟨[],s,rfl,by simp⟩
  · rcases Yb6 b s with h1 | ⟨u,t,h1,h2⟩
    · exact .inl (by rw [W1o,not_or];exact ⟨fun e=>h e.symm,h1⟩)
    · exact .inr ⟨x::u,t,by rw [h1];rfl,by rw [W1o,not_or];exact ⟨fun e=>h e.symm,h2⟩⟩
theorem Xl9 {s : List UInt8} {b : UInt8} (hs : Tx s) : C0 242 [.d (.str s),.d (.int .u8 b.toNat)] (·=.d (.int .i64 (Lib.indexByte s b))):=by
 refine ⟨⟨_,Tryz.func242,rfl,rfl⟩,fun W vs _ ha=>?_⟩
 match vs,ha with
 | [v,u],ha =>
  obtain ⟨rfl,_⟩:=Xns ha.1
  obtain ⟨rfl,_⟩:=Xcp ha.2.1
  refine (Xkm _ _ W.w).mono ?_
  rintro e w' ⟨rfl,rfl⟩
  have e1 : ((b.toNat : Int).toNat).toUInt8=b:=by simp
  rw [e1]
  have h1:=Lib.indexByte_ge s b
  have h2 : Lib.indexByte s b<9223372036854775808:=by
   have hs : s.length<_:=hs
   rcases Yb6 b s with h | ⟨u,t,h,h2⟩
   · rw [Yb7 h];decide
   · rw [h,Yb8 h2];rw [h] at hs;simp at hs;omega
  refine ⟨W,.d (.int .i64 (Lib.indexByte s b)),_,rfl,rfl,Fm.refl _ _,?_,fun _ h=>h,rfl⟩
  exact Vm.int_V (by show IntKind.i64.wrap _=_;exact wI ⟨by omega,h2⟩)
theorem Xma {s : List UInt8} {b : UInt8} {r : Int} (hs : Tx s) (hr : Lib.indexByte s b=r) : C0 196 [.d (.str s),.d (.str [b])] (·=.d (.int .i64 r)):=by
 subst hr
 refine En Tryz.func196 fun _ _ _=>?_
 refine No rfl (by simp) ?_
 refine Cu (some 0) (fun (_ : Unit)=>[]) (fun _=>[]) (fun _=>False) rfl ?_ fun _ h=>h.elim
 refine By rfl (fun h=>?_) fun h=>?_
 · subst h
   refine R1 rfl (.eq ?_)
   rw [Lib.indexByte];simp
 · refine Yes rfl (by simp) ?_
   refine Yx 0 b rfl rfl ?_
   refine Ce rfl (Xl9 hs) ?_
   exact R0
theorem Yh1 {s : List UInt8} {b : UInt8} (hs : Tx s) (h : b ∉ s) : C0 85 [.d (.str s),.d (.str [b])] (·=.tup (.pr (.d (.str s)) (.pr (.d (.str [])) (.b false)))):=by
 have h1 : C0 144 [.d (.str s),.d (.str [b])] (·=.tup (.pr (.d (.str s)) (.pr (.d (.str [])) (.b false)))):=by
  refine En Tryz.func144 fun _ _ _=>?_
  refine Ce rfl (Xma hs (Yb7 h)) ?_
  refine No rfl (by decide) ?_
  exact R0t
 refine En Tryz.func85 fun _ _ _=>?_
 refine Ce rfl h1 ?_
 exact R0t
theorem Yh2 {u t : List UInt8} {b : UInt8} (hs : Tx (u++b::t)) (h : b ∉ u) : C0 85 [.d (.str (u++b::t)),.d (.str [b])] (·=.tup (.pr (.d (.str u)) (.pr (.d (.str t)) (.b true)))):=by
 have hl : (u++b::t).length=u.length+(t.length+1):=by simp
 have hs' : (u++b::t).length<_:=hs
 have h1 : C0 144 [.d (.str (u++b::t)),.d (.str [b])] (·=.tup (.pr (.d (.str u)) (.pr (.d (.str t)) (.b true)))):=by
  refine En Tryz.func144 fun _ _ _=>?_
  refine Ce rfl (Xma hs (Yb8 h)) ?_
  refine Yes rfl (by omega) ?_
  refine Dw rfl ?_
  refine Stk u.length u rfl (by omega) (by simp) ?_
  refine Ar (u.length+1 : Nat) rfl ?_ (wr (by simp) (by simp only [inK];omega))
  refine Sdp (u.length+1) t rfl (by omega) (by simp) ?_
  exact R0t
 refine En Tryz.func85 fun _ _ _=>?_
 refine Ce rfl h1 ?_
 exact R0t
end
section
theorem Xhv {xs : List Bool} {b : UInt8} {v : Bool} (hx : xs.length=256) (hv : xs[b.toNat]?=some v) : CN0 141 [.ap 1000001 256,.d (.int .u8 b.toNat)] [(1000001,.arr 1 (xs.map D.bool))] (·=.b v):=by
 refine EnW Tryz.func141 fun _ _ _ _=>?_
 refine Nk rfl ?_
 refine Ea b.toNat rfl (UInt8.toNat_lt b) ?_
 refine Ld (.bool v) rfl (by rw [W1s,hv];rfl) ?_
 exact Rw [] [(1000001,.arr 1 (xs.map D.bool))] rfl (.one (.rf rfl) rfl rfl) ⟨rfl,rfl⟩
def Xn5 (f : UInt8→Bool) (s : List UInt8) : List UInt8:=(s.reverse.dropWhile f).reverse
theorem Xgt {f : UInt8→Bool} (s : List UInt8) (x : UInt8) : Xn5 f (s++[x])=if f x=true then Xn5 f s else s++[x]:=by
 unfold Xn5
 rw [List.reverse_append,List.reverse_singleton,W7m,W3v]
 by_cases h : f x=true <;> simp [h]
theorem Xfg {xs : List Bool} {f : UInt8→Bool} {s : List UInt8} (hx : xs.length=256) (hf : ∀ b : UInt8,xs[b.toNat]?=some (f b)) (hs : Tx s) : CN0 83 [.d (.str s),.ap 1000001 256] [(1000001,.arr 1 (xs.map D.bool))] (·=.d (.str (Xn5 f s))):=by
 refine EnW Tryz.func83 fun _ _ _ _=>?_
 refine Lo (fun (t : List UInt8)=>[(0,.d (.str t)),(1,.ap 1000001 256)]) (fun _=>[(1000001,.arr 1 (xs.map D.bool))]) (fun t=>Tx t∧Xn5 f t=Xn5 f s) (fun t=>t.length) s [] rfl ⟨hs,rfl⟩ ?_ (by exact ⟨rfl,rfl,rfl,rfl,rfl⟩)
 rintro t ⟨ht,he⟩
 refine By rfl (fun h=>?_) fun h=>?_
 · rcases List.eq_nil_or_concat t with rfl | ⟨u,x,rfl⟩
   · simp at h
   rw [List.concat_eq_append] at *
   have hl : (u++[x]).length=u.length+1:=by simp
   refine Ar (u.length : Nat) rfl ?_ (wr (by omega) (by simp only [inK];omega))
   refine Yx u.length x rfl (by simp) ?_
   refine Cn [] rfl (Xhv hx (hf x)) fun v hv=>?_
   subst hv
   refine By rfl (fun h1=>?_) fun h1=>?_
   · refine Rw [] [(1000001,.arr 1 (xs.map D.bool))] rfl (.one (.eq ?_) rfl rfl) ⟨rfl,rfl⟩
     rw [←he,Xgt,if_neg h1]
   · refine Ar (u.length : Nat) rfl ?_ (wr (by omega) (by simp only [inK];omega))
     refine Stk u.length u rfl (by omega) (by simp) ?_
     refine Bk u [] rfl ⟨by show u.length<_;omega,?_⟩ (by simp) (by exact ⟨rfl,rfl,rfl,rfl,rfl⟩)
     rw [←he,Xgt,if_pos (W3x.1 h1)]
 · have : t=[]:=W2q.1 (by omega)
   subst this
   exact Rw [] [(1000001,.arr 1 (xs.map D.bool))] rfl (.one (.eq (by rw [←he];rfl)) rfl rfl) ⟨rfl,rfl⟩
theorem Xf5 {xs : List Bool} {f : UInt8→Bool} {s : List UInt8} (hx : xs.length=256) (hf : ∀ b : UInt8,xs[b.toNat]?=some (f b)) (hs : Tx s) : CN0 146 [.d (.str s),.ap 1000001 256] [(1000001,.arr 1 (xs.map D.bool))] (·=.d (.str (s.dropWhile f))):=by
 refine EnW Tryz.func146 fun _ _ _ _=>?_
 refine Lo (fun (t : List UInt8)=>[(0,.d (.str t)),(1,.ap 1000001 256)]) (fun _=>[(1000001,.arr 1 (xs.map D.bool))]) (fun t=>Tx t∧t.dropWhile f=s.dropWhile f) (fun t=>t.length) s [] rfl ⟨hs,rfl⟩ ?_ (by exact ⟨rfl,rfl,rfl,rfl,rfl⟩)
 rintro t ⟨ht,he⟩
 refine By rfl (fun h=>?_) fun h=>?_
 · cases t with
   | nil=>simp at h
   | cons x u =>
   have hl : (x::u).length=u.length+1:=rfl
   refine Yx 0 x rfl rfl ?_
   refine Cn [] rfl (Xhv hx (hf x)) fun v hv=>?_
   subst hv
   refine By rfl (fun h1=>?_) fun h1=>?_
   · refine Rw [] [(1000001,.arr 1 (xs.map D.bool))] rfl (.one (.eq ?_) rfl rfl) ⟨rfl,rfl⟩
     rw [←he,W3v,if_neg h1]
   · refine Sdp 1 u rfl (by omega) rfl ?_
     refine Bk u [] rfl ⟨by show u.length<_;have : (x::u).length<_:=ht;omega,?_⟩ (by simp) (by exact ⟨rfl,rfl,rfl,rfl,rfl⟩)
     rw [←he,W3v,if_pos (W3x.1 h1)]
 · have : t=[]:=W2q.1 (by omega)
   subst this
   exact Rw [] [(1000001,.arr 1 (xs.map D.bool))] rfl (.one (.eq (by rw [←he];rfl)) rfl rfl) ⟨rfl,rfl⟩
end
section
def rnS : Ren:=⟨fun _=>82,fun n=>match n with
 | 3=>3
 | 4=>4
 | 5=>5
 | 9=>9
 | 116=>121
 | _=>0,fun n=>n⟩
theorem Yf6 : Lays.n227 Tryz.prog rnS where
 mixed:=by kernel_rfl
 f227:=by kernel_rfl
 t0:=by kernel_rfl
 a0:=fun _=>by kernel_rfl
 z0:=fun _=>by kernel_rfl
 v0:=fun _=>by kernel_rfl
 t3:=by kernel_rfl
 a3:=fun _=>by kernel_rfl
 z3:=fun _=>by kernel_rfl
 v3:=fun _=>by kernel_rfl
 t4:=by kernel_rfl
 a4:=fun _=>by kernel_rfl
 z4:=fun _=>by kernel_rfl
 v4:=fun _=>by kernel_rfl
 t5:=by kernel_rfl
 a5:=fun _=>by kernel_rfl
 z5:=fun _=>by kernel_rfl
 v5:=fun _=>by kernel_rfl
 t9:=by kernel_rfl
 a9:=fun _=>by kernel_rfl
 z9:=fun _=>by kernel_rfl
 v9:=fun _=>by kernel_rfl
 t116:=by kernel_rfl
 a116:=fun _=>by kernel_rfl
 z116:=fun _=>by kernel_rfl
def chB : List Bool→D
 | []=>.bool false
 | [b]=>.bool b
 | b::l=>.pr (.bool b) (chB l)
theorem Yac {W : GW} : ∀ {l : List Bool},l≠[]→D.At W (chB l) (l.map Value.bool)
 | [b],_=>rfl
 | b::c::l,_=>⟨[.bool b],(c::l).map Value.bool,rfl,rfl,Yac (by simp)⟩
theorem Xlx : ∀ {l : List Bool},l≠[]→(chB l).comps=l.map D.bool
 | [b],_=>rfl
 | b::c::l,_=>by
  show D.bool b::(chB (c::l)).comps=_
  rw [Xlx (by simp)];rfl
def Yd1 : List UInt8:=[48,49,50,51,52,53,54,55,56,57]
def Yc0 : List Bool:=(List.range 256).map fun j=>Yd1.contains (UInt8.ofNat j)
theorem Xhf : C0 82 [.d (.str Yd1)] (·=.tup (.pr (.d (.st (chB Yc0))) (.b true))):=by
 refine ⟨⟨_,Tryz.func82,rfl,rfl⟩,fun W vs _ ha=>?_⟩
 match vs,ha with
 | [v],ha =>
  obtain ⟨rfl,_⟩:=Xns ha.1
  refine (Any.strings_makeASCIISet Yf6 (fun _=>by kernel_rfl) (by kernel_rfl) ⟨Yd1.toArray⟩ W.w (by decide) (by
   intro j b hj
   have hm : b∈Yd1:=W0l (by simpa using hj)
   have hall : ∀ x∈Yd1,x.toNat<128:=by decide
   exact hall b hm)).mono ?_
  rintro e w' ⟨rfl,hw⟩
  obtain ⟨W',hW,hE⟩:=Xj4 (W:=W) (w':=w') (by rw [hw];exact (Below.refl _ _).alloc (W0a _) _)
  refine ⟨W',.tup (.pr (.d (.st (chB Yc0))) (.b true)),_,rfl,hW,hE,?_,fun _ h=>h.elim id id,rfl⟩
  have hc : Lib.setCells Yd1=(Yc0.map Value.bool).toArray:=by
   rw [Lib.setCells_eq]
   apply Array.ext'
   simp [Yc0]
  refine ⟨[.agg (Lib.setCells Yd1),.bool true],rfl,⟨_,Yac (l:=Yc0) (by decide),?_⟩,⟨[.bool true],rfl,rfl⟩⟩
  rw [hc];rfl
end
section
theorem Xus (b : UInt8) : Yc0[b.toNat]?=some (Yd1.contains b):=by
 have hb:=UInt8.toNat_lt b
 unfold Yc0
 rw [W1s,List.getElem?_range hb]
 simp
theorem Xkd : Yc0.length=256:=by unfold Yc0;rw [W0n,List.length_range]
theorem Trim_ok {s : List UInt8} (hs : Tx s) : C0 86 [.d (.str s),.d (.str Yd1)] (·=.d (.str ((Xn5 Yd1.contains s).dropWhile Yd1.contains))):=by
 refine En Tryz.func86 fun _ _ _=>?_
 refine By rfl (fun h=>?_) fun h=>?_
 · subst h;exact R1 rfl (.eq rfl)
 refine No rfl (by decide) ?_
 refine No rfl (by decide) ?_
 refine Ce rfl Xhf ?_
 refine Yes rfl rfl ?_
 refine Va 7 5 900 256 (Yc0.map D.bool) rfl (Xlx (by decide)) (by intro x hx;obtain ⟨b,_,rfl⟩:=W3p.1 hx;rfl) (by rw [W0n,Xkd]) ?_
 refine Cn (args:=[.d (.str s),.ap 1000001 256]) [(1000001,900)] rfl (Xfg Xkd Xus hs) fun v hv=>?_
 subst hv
 have ht : Tx (Xn5 Yd1.contains s):=by
  have h1 : (Xn5 Yd1.contains s).length≤s.length:=by
   unfold Xn5;rw [List.length_reverse]
   exact W0i (List.Sublist.length_le (List.dropWhile_sublist _)) (by simp)
  exact W1m h1 hs
 refine Cn (args:=[.d (.str (Xn5 Yd1.contains s)),.ap 1000001 256]) [(1000001,900)] rfl (Xf5 Xkd Xus ht) fun v hv=>?_
 subst hv
 exact R1 rfl (.eq rfl)
end
end Go.Proofs.YtclmecgphleeeaaGreatDoor
namespace Go.Num
open Go.Proofs.YtclmecgphleeeaaGreatDoor
section
theorem Xui {f : UInt8→Bool} : ∀ {l : List UInt8},l.dropWhile f=[]↔l.all f=true
 | []=>by simp
 | x::l=>by
  rw [W3v,List.all_cons]
  cases h : f x with
  | true=>simpa using Xui (l:=l)
  | false=>simp
theorem Xv3 {f : UInt8→Bool} (s : List UInt8) : (Xn5 f s).dropWhile f=[]↔s.all f=true:=by
 induction s using Xez with
 | h0=>simp [Xn5]
 | hs s x ih =>
  rw [Xgt,W6g]
  cases h : f x with
  | true=>rw [if_pos rfl,ih];simp [h]
  | false=>rw [if_neg (by simp),Xui,W6g]
theorem Xxu (b : UInt8) : Yd1.contains b=isD b:=by
 have key : ∀ n : Fin 256,Yd1.contains (UInt8.ofNat n.val)=isD (UInt8.ofNat n.val):=by decide +kernel
 have:=key ⟨b.toNat,UInt8.toNat_lt b⟩
 simpa using this
theorem Xxv (s : List UInt8) : s.all Yd1.contains=s.all isD:=by
 congr 1
 funext b;exact Xxu b
theorem Yis (s : List UInt8) : trL 48 s=[]↔z0 s=true:=by
 unfold trL z0;rw [Xui]
theorem Yfe {s q : List UInt8} {ng : Bool} (hl : s.length≤400) (hs : s=sgB ng++q) (hn : ng=false→s.head?≠some 45) (h : (46 : UInt8) ∉ q) :
 prs s=if q=[]∨(1<q.length∧q.head?=some 48)∨q.all isD=false then none else if ng && z0 q then none else some (ng,q,[]):=by
 by_cases hd : q.all isD=true
 · rw [Xoz (a:=q) (r:=[]) hl (by rw [W3i];exact hs) hn hd (fun x t e=>nomatch e)]
   simp only [hd,Bool.true_eq_false,or_false]
   rfl
 · rw [if_pos (.inr (.inr (by simpa using hd)))]
   have hq : q=q.takeWhile isD++q.dropWhile isD:=(W6c ..).symm
   obtain ⟨x,r,hr⟩ : ∃ x r,q.dropWhile isD=x::r:=by
    cases h : q.dropWhile isD with
    | nil=>exact absurd (Xui.1 h) hd
    | cons x r=>exact ⟨x,r,rfl⟩
   have hx : isD x=false:=by
    have:=W7c isD q
    rw [hr] at this
    simpa using this
   have hx46 : x≠46:=fun e=>h (by rw [hq,hr,e];simp)
   rw [hr] at hq
   rw [Xoz (a:=q.takeWhile isD) (r:=x::r) hl (by rw [←hq];exact hs) hn (Xrj q) (fun y t e=>by cases e;exact hx)]
   split
   · rfl
   · show (if x=46∧_ then _ else none)=none
     rw [if_neg fun h=>hx46 h.1]
theorem Yfd {s u t : List UInt8} {ng : Bool} (hl : s.length≤400) (hs : s=sgB ng++(u++46::t)) (hn : ng=false→s.head?≠some 45) (h : (46 : UInt8) ∉ u) :
 prs s=if u=[]∨t=[]∨(1<u.length∧u.head?=some 48)∨(u++t).all isD=false then none else if ng && z0 (u++t) then none else some (ng,u,t):=by
 by_cases hd : u.all isD=true
 · rw [Xoz (a:=u) (r:=46::t) hl hs hn hd (fun x r e=>by cases e;decide)]
   by_cases hu : u=[]∨(1<u.length∧u.head?=some 48)
   · rw [if_pos hu,if_pos (hu.elim .inl fun h=>.inr (.inr (.inl h)))]
   · rw [if_neg hu]
     show (if (46 : UInt8)=46∧t≠[]∧t.all isD=true∧(ng && z0 (u++t))=false then some (ng,u,t) else none)=_
     rw [not_or] at hu
     by_cases ht : t=[]
     · rw [if_neg (fun h=>h.2.1 ht),if_pos (.inr (.inl ht))]
     · by_cases hta : t.all isD=true
       · rw [if_neg (c:=u=[]∨_) (by
          rintro (h | h | h | h)
          · exact hu.1 h
          · exact ht h
          · exact hu.2 h
          · rw [W6g,hd,hta] at h;cases h)]
         cases hz : (ng && z0 (u++t)) with
         | true=>simp
         | false=>simp [ht,hta]
       · rw [if_neg (fun h=>hta h.2.2.1),if_pos (.inr (.inr (.inr (by rw [W6g,hd];simpa using hta))))]
 · have hf : (u++t).all isD=false:=by
    rw [W6g]
    have : u.all isD=false:=by simpa using hd
    rw [this];rfl
   rw [if_pos (.inr (.inr (.inr hf)))]
   have hq : u=u.takeWhile isD++u.dropWhile isD:=(W6c ..).symm
   obtain ⟨x,r,hr⟩ : ∃ x r,u.dropWhile isD=x::r:=by
    cases h : u.dropWhile isD with
    | nil=>exact absurd (Xui.1 h) hd
    | cons x r=>exact ⟨x,r,rfl⟩
   have hx : isD x=false:=by
    have:=W7c isD u
    rw [hr] at this
    simpa using this
   have hx46 : x≠46:=fun e=>h (by rw [hq,hr,e];simp)
   rw [hr] at hq
   rw [Xoz (a:=u.takeWhile isD) (r:=x::(r++46::t)) hl (by rw [hs];congr 1;rw [←W3t,←W3y,←hq]) hn (Xrj u) (fun y t e=>by cases e;exact hx)]
   split
   · rfl
   · show (if x=46∧_ then _ else none)=none
     rw [if_neg fun h=>hx46 h.1]
end
section
theorem Xo2 {k m d : Nat} (hd : d<10) (hm : m<10 ^ (k+1)) : pad k (dec m)++[UInt8.ofNat (48+d)]=pad (k+1) (dec (10*m+d)):=by
 by_cases h0 : m=0
 · subst h0
   rw [show 10*0+d=d by omega,Xdl hd,Xdl (show 0<10 by decide)]
   show List.replicate (k+1 - 1) 48++[UInt8.ofNat (48+0)]++[UInt8.ofNat (48+d)]=List.replicate (k+1+1 - 1) 48++[UInt8.ofNat (48+d)]
   rw [show k+1+1 - 1=k+1 - 1+1 by omega,W5z]
   rfl
 · have e : dec (10*m+d)=dec m++[UInt8.ofNat (48+d)]:=by
    rw [Xfb (show 10≤10*m+d by omega),show (10*m+d) / 10=m by omega,show (10*m+d) % 10=d by omega]
   rw [e]
   unfold pad
   rw [W0c,W4z,show k+1+1 - ((dec m).length+1)=k+1 - (dec m).length by omega,W3y]
theorem Xuv : ∀ (k n : Nat),10 ^ (k+1)≤n→dec n=dec (n / 10 ^ (k+1))++pad k (dec (n % 10 ^ (k+1)))
 | 0,n,h=>by
  have h : 10≤n:=h
  rw [Xfb h]
  show _=dec (n / 10)++pad 0 (dec (n % 10))
  rw [Xdl (n:=n % 10) (W1r _ (by decide))]
  rfl
 | k+1,n,h=>by
  have e1 : 10 ^ (k+1+1)=10*10 ^ (k+1):=by rw [W0p];omega
  have hp : 0<10 ^ (k+1):=W6o (by decide)
  have h10 : 10≤n:=by omega
  have ih:=Xuv k (n / 10) (by rw [W7n (by decide)];omega)
  have hm : n / 10 % 10 ^ (k+1)<10 ^ (k+1):=W1r _ hp
  rw [Xfb h10,ih,W3y,Xo2 (W1r _ (by decide)) hm,W6i,←e1]
  congr 3
  have:=Nat.mod_mul (a:=10) (b:=10 ^ (k+1)) (x:=n)
  rw [e1,this];omega
def cks (n : Nat) : List Nat:=if h : n=0 then [] else n % 1000000000::cks (n / 1000000000)
termination_by n
decreasing_by omega
theorem Xd9 : cks 0=[]:=by rw [cks,dif_pos rfl]
theorem Xeo {n : Nat} (h : n≠0) : cks n=n % 1000000000::cks (n / 1000000000):=by rw [cks,dif_neg h]
theorem Yg9 : ∀ (n c : Nat),c∈cks n→c<1000000000:=fun n=>by
 induction n using Nat.strongRecOn with
 | _ n ih =>
  intro c hc
  by_cases h : n=0
  · subst h;rw [Xd9] at hc;cases hc
  · rw [Xeo h,W1o] at hc
    rcases hc with rfl | hc
    · omega
    · exact ih _ (by omega) c hc
theorem Xu4 : ∀ {k n : Nat},n<4294967296 ^ k→(cks n).length≤2*k
 | 0,n,h=>by
  have : n=0:=by simpa using h
  subst this;rw [Xd9];exact W0a _
 | k+1,n,h=>by
  by_cases h0 : n=0
  · subst h0;rw [Xd9];exact W1d _
  · rw [Xeo h0]
    by_cases h1 : n / 1000000000=0
    · rw [h1,Xd9];simp;omega
    · rw [Xeo h1]
      have:=Xu4 (k:=k) (n:=n / 1000000000 / 1000000000) (by
       rw [W0p] at h
       rw [W6i,W2m (by decide)]
       refine W0r h (W0m _ (by decide)))
      simp only [W0s];omega
def Xwy : List Nat→List UInt8
 | []=>[]
 | [c]=>dec c
 | c::e::l=>Xwy (e::l)++pad 8 (dec c)
theorem Xwx : ∀ n,n≠0→Xwy (cks n)=dec n:=fun n=>by
 induction n using Nat.strongRecOn with
 | _ n ih =>
  intro h
  rw [Xeo h]
  by_cases h2 : n / 1000000000=0
  · rw [h2,Xd9]
    show dec (n % 1000000000)=_
    congr 1;omega
  · have:=ih (n / 1000000000) (by omega) h2
    rw [Xeo h2] at this ⊢
    show Xwy (n / 1000000000 % 1000000000::cks (n / 1000000000 / 1000000000))++pad 8 (dec (n % 1000000000))=_
    rw [this]
    exact (Xuv 8 n (by show 1000000000≤n;omega)).symm
theorem Xsv {c : Nat} {l : List Nat} (h : l≠[]) : Xwy (c::l)=Xwy l++pad 8 (dec c):=by
 cases l with
 | nil=>exact absurd rfl h
 | cons e l=>rfl
end
section
theorem Ylo {l : List UInt8} : l.all isD=true↔∀ b∈l,Xh5 b:=by
 rw [W1k]
 exact ⟨fun h b hb=>Yjs.1 (h b hb),fun h b hb=>Yjs.2 (h b hb)⟩
theorem Xuj {l : List UInt8} (h : z0 l=true) : Xcc l=0:=by
 induction l using Xez with
 | h0=>rfl
 | hs l x ih =>
  rw [Yaj,W0f,beq_iff_eq] at h
  rw [Xcl,ih h.1,h.2];rfl
theorem Yc2 : ∀ (k : Nat) (l : List UInt8),l.length=k+1→(∀ b∈l,Xh5 b)→pad k (dec (Xcc l))=l:=fun k=>by
 induction k with
 | zero =>
  intro l hl hd
  match l,hl with
  | [x],_ =>
   have hx:=hd x (by simp)
   unfold Xh5 at hx
   rw [Xpz,Xdl (by omega)]
   show [UInt8.ofNat (48+(x.toNat - 48))]=[x]
   rw [show 48+(x.toNat - 48)=x.toNat by omega];simp
 | succ k ih =>
  intro l hl hd
  obtain ⟨m,x,rfl⟩ : ∃ m x,l=m++[x]:=⟨l.dropLast,l.getLast (by intro e;rw [e] at hl;simp at hl),(List.dropLast_concat_getLast _).symm⟩
  have hm : m.length=k+1:=by simpa using hl
  have hdm : ∀ b∈m,Xh5 b:=fun b hb=>hd b (by simp [hb])
  have hx:=hd x (by simp)
  unfold Xh5 at hx
  have h1:=Xht hdm
  rw [hm] at h1
  rw [Xcl,←Xo2 (by omega) h1,ih m hm hdm,show 48+(x.toNat - 48)=x.toNat by omega]
  simp
def frI (ng : Bool) (a b : List UInt8) : Int:=if ng then -(Xcc (a++b) : Int) else (Xcc (a++b) : Int)
theorem Yej (n : Nat) : ((10 ^ n : Int) : Rat)≠0:=fun h=>by
 have : (10 ^ n : Int)=0:=Rat.intCast_inj.1 (by rw [h];rfl)
 have:=W7g (n:=10) (m:=n) (by decide)
 omega
theorem Xz0 (ng : Bool) (a b : List UInt8) : fr ng a b=((frI ng a b : Int) : Rat) / ((10 ^ b.length : Int) : Rat):=by
 unfold fr frI
 split
 · rw [W6w,W7w,W7w,Rat.neg_mul]
 · rfl
end
end Go.Num
namespace Go.Proofs.YtclmecgphleeeaaGreatDoor
open Go Go.Num Go.Tow
abbrev scl (k : Nat) (t : Tw k) (a : El k) (u h : Rat) : El k:=add k (mul k t a (rat k u)) (rat k h)
section
variable {k : Nat} {t : Tw k} {a : El k}
theorem Xe1 (hR : Xbm k t) {q : Rat} (hq : 0<q) : sgn k t (mul k t a (rat k q))=sgn k t a:=by
 rw [(Xat hR).sm,Xcw hR,Xbs hq,W4u]
theorem Xw4 (hR : Xbm k t) {u c d : Rat} (hu : 0<u) (hc : c*u=d) : le k t (rat k c) a↔le k t (rat k d) (mul k t a (rat k u)):=by
 have L:=Xa3 k t
 have e : add k (mul k t a (rat k u)) (neg k (rat k d))=mul k t (add k a (neg k (rat k c))) (rat k u):=by
  rw [L.dm,←Xei,←Xei,←Xbx,←hc,Rat.neg_mul]
 unfold le
 rw [e,Xe1 hR hu]
theorem Xxf (hR : Xbm k t) {u c d : Rat} (hu : 0<u) (hc : c*u=d) : le k t a (rat k c)↔le k t (mul k t a (rat k u)) (rat k d):=by
 have L:=Xa3 k t
 have hn : ∀ x : El k,neg k (mul k t x (rat k u))=mul k t (neg k x) (rat k u):=fun x=>(L.nm x _).symm
 have e : add k (rat k d) (neg k (mul k t a (rat k u)))=mul k t (add k (rat k c) (neg k a)) (rat k u):=by
  rw [L.dm,hn,←Xbx,←hc]
 unfold le
 rw [e,Xe1 hR hu]
theorem Xro {u : Rat} : toL k (mul k t a (rat k u))=(toL k a).map (u*·):=by rw [(Xa3 k t).mc,Xga]
theorem Xe3 {m n : Nat} {u : Rat} (ha : MgL m (toL k a)) (hu : Qs n u) : MgL (n+m) (toL k (mul k t a (rat k u))):=fun x hx=>by
 rw [Xro] at hx
 obtain ⟨y,hy,rfl⟩:=W3p.1 hx
 exact hu.mul (ha y hy)
theorem Xtg {n : Nat} {h : Rat} (hh : Qs n h) (h1 : 1≤n) : MgL n (toL k (rat k h)):=fun x hx=>by
 rw [Xce] at hx
 rcases W1o.1 hx with rfl | hx
 · exact hh
 · obtain rfl:=(W5q.1 hx).2
   exact Qs.int (z:=0) (by unfold Zs;exact W6o (by decide)) h1
theorem Xth {m n : Nat} {b : El k} (ha : MgL m (toL k a)) (hb : MgL n (toL k b)) : MgL (m+n+1) (toL k (add k a b)):=fun x hx=>by
 rw [Xaz] at hx
 obtain ⟨i,hi⟩:=W2u hx
 rw [W5s] at hi
 split at hi
 · rename_i y z hy hz
   cases hi
   exact (ha y (W0l hy)).add (hb z (W0l hz))
 · cases hi
end
end Go.Proofs.YtclmecgphleeeaaGreatDoor
namespace Go.Proofs.YtclmecgphleeeaaGreatDoor.R1
open Go Go.Vm Go.Num Go.Proofs.YtclmecgphleeeaaGreatDoor
end Go.Proofs.YtclmecgphleeeaaGreatDoor.R1
namespace Go.Proofs.YtclmecgphleeeaaGreatDoor.R11
open Go Go.Vm Go.Num Go.Proofs.YtclmecgphleeeaaGreatDoor
section
theorem Xrh {z : Int} (h : z<0) : tx z=45::dec z.natAbs:=by rw [tx,if_pos h];rfl
theorem Xrg {z : Int} (h : ¬ z<0) : tx z=dec z.natAbs:=by rw [tx,if_neg h];rfl
end
section
end
section
theorem p10 (n : Nat) : Zs (4*n+1) (10 ^ n : Int):=by
 have : (10 ^ n : Int)=((10 ^ n : Nat) : Int):=by simp
 rw [this]
 show 10 ^ n<2 ^ (4*n+1)
 have h1 : 10 ^ n≤16 ^ n:=W6r (by decide) n
 have h2 : 2 ^ (4*n+1)=16 ^ n*2:=by rw [W0p,W5n]
 have h3 : 0<16 ^ n:=W6o (by decide)
 omega
def pw (b : Nat) : Rat:=((2 ^ b : Int) : Rat)
theorem Qn {n i : Nat} (hn : n<10 ^ i) (hi : i≤400) : Qs 1601 ((n : Int) : Rat):=by
 have:=p10 i
 have e : (10 ^ i : Int)=((10 ^ i : Nat) : Int):=by simp
 rw [e] at this
 have h1 : Zs (4*i+1) (n : Int):=Nat.lt_trans hn this
 exact Qs.int (h1.mono (by omega)) (by decide)
end
end Go.Proofs.YtclmecgphleeeaaGreatDoor.R11
namespace Go.Proofs.YtclmecgphleeeaaGreatDoor.P11
open Go Go.Vm Go.Num Go.Tow Go.Proofs.YtclmecgphleeeaaGreatDoor Go.Proofs.YtclmecgphleeeaaGreatDoor.P9 Go.Proofs.YtclmecgphleeeaaGreatDoor.R11
structure Pk (x : Nm) : Prop where
 k : x.k≤3
 re : Xbm x.k x.t
 t : TS 300 x.k x.t
 mt : MgT 64 x.k x.t
 ml : MgL 64 (toL x.k x.a)∨(x.k=0∧MgL 1700 (toL x.k x.a))
theorem MgL.mono' {m n : Nat} {l : List Rat} (h : MgL m l) (hn : m≤n) : MgL n l:=fun x hx=>(h x hx).mono hn
theorem MgT.mono' : ∀ {k m n : Nat} {t : Tw k},MgT m k t→m≤n→MgT n k t
 | 0,_,_,_,_,_=>trivial
 | _+1,_,_,_,h,hn=>⟨MgT.mono' h.1 hn,MgL.mono' h.2 hn⟩
theorem Xqe {k n : Nat} {a : El k} (h : MgL n (toL k a)) (hk : k≤3∧n≤400∨k=0∧n≤3999) : Sz 4000 (toL k a):=by
 refine (Sz.all h).mono ?_
 rw [Xab]
 rcases hk with ⟨h3,hn⟩ | ⟨rfl,hn⟩
 · have hp : 2 ^ k≤2 ^ 3:=W0h (by decide) h3
   have:=W2a hn hp
   omega
 · rw [Nat.pow_zero];omega
structure Scd (x : Nm) (u h : Rat) : Prop where
 s1 : Sz 4000 (toL x.k (mul x.k x.t x.a (rat x.k u)))
 s2 : Sz 4000 (toL x.k (scl x.k x.t x.a u h))
 w1 : Wid (bx x.k x.t (scl x.k x.t x.a u h) 2048) 1
 w2 : ∀ b,1000000≤b→Wid (enc x.k x.t (scl x.k x.t x.a u h) b) 1
theorem Pk.sz {x : Nm} (H : Pk x) : Sz 4000 (toL x.k x.a):=by
 rcases H.ml with h | ⟨h0,h⟩
 · exact Xqe h (.inl ⟨H.k,by decide⟩)
 · exact Xqe h (.inr ⟨h0,by decide⟩)
theorem Pk.sc {x : Nm} (H : Pk x) {u h : Rat} (hu : Qs 200 u) (hh : Qs 2 h) : Scd x u h:=by
 rcases H.ml with hl | ⟨h0,hl⟩
 · have m1:=Xe3 (t:=x.t) hl hu
   have m2:=Xth m1 (Xtg (k:=x.k) hh (by decide))
   exact ⟨Xqe m1 (.inl ⟨H.k,by decide⟩),Xqe m2 (.inl ⟨H.k,by decide⟩),Ydb H.re H.mt (MgL.mono' m2 (by decide)) H.k,Xhs H.re (MgT.mono' H.mt (by decide)) (MgL.mono' m2 (by decide)) H.k (show 10000≤10000 by decide)⟩
 · have m1:=Xe3 (t:=x.t) hl hu
   have m2:=Xth m1 (Xtg (k:=x.k) hh (by decide))
   refine ⟨Xqe m1 (.inr ⟨h0,by decide⟩),Xqe m2 (.inr ⟨h0,by decide⟩),?_,Xhs H.re (MgT.mono' H.mt (by decide)) (MgL.mono' m2 (by decide)) H.k (show 10000≤10000 by decide)⟩
   obtain ⟨k,t,a⟩:=x
   obtain rfl : k=0:=h0
   exact (Xf2 (m:=64) (b:=2048) H.re H.mt m2 (show 0<eE 64 2048 0 _ by exact (by decide : 0<2*2048 - 2))).mono (show 1≤2*2048 - 2 by decide)
theorem Yei {n : Nat} (hn : n≤60) : Qs 200 ((10 ^ n : Int) : Rat):=by
 have h1 : (10 : Nat) ^ n≤10 ^ 60:=W0h (by decide) hn
 refine Qs.int ?_ (by decide)
 show ((10 : Int) ^ n).natAbs<2 ^ 200
 rw [Int.natAbs_pow]
 exact W1m h1 (by decide)
theorem bnds {k : Nat} (hk : k≤3) : eB 4000 (2*(1000000+1+16)) k≤274877906944∧vB 4000 k (4000+eB 4000 (2*(1000000+1+16)) k+4)≤4398046511104∧vB 4000 k (4000+bB 4000 2048 k+4)≤4398046511104∧bB 4000 2048 k≤274877906944∧cB 300 k≤1000000000:=by
 have h : k=0∨k=1∨k=2∨k=3:=by omega
 rcases h with rfl | rfl | rfl | rfl <;> decide +kernel
theorem Xo1 {n : Nat} (hn : n≤400) : C0 41 [.d (.int .i64 n)] (·=.d (dz (10 ^ n))):=by
 refine En Tryz.func41 fun _ _ _=>?_
 refine Ce rfl (FromInt_ok (z:=10) (by decide)) ?_
 refine Ce rfl (Ycd (z:=10) (q:=4) (show (10 : Int).natAbs<2 ^ 4 by decide) (by omega) (by decide)) ?_
 exact R1 rfl (.rf rfl)
theorem Xi0 {z : Int} {p : Nat} (hz : Zs p z) (hp : 1≤p) (hp2 : p≤8796093022208) : C0 42 [.d (dz z)] (·=.d (dq (z : Rat))):=by
 have h:=Xdj hz (Zs.one hp) hp2 (by decide)
 rw [Xni] at h
 refine En Tryz.func42 fun _ _ _=>?_
 refine Dw rfl ?_
 refine Ce rfl (FromInt_ok (z:=1) (by decide)) ?_
 refine Ce rfl h ?_
 exact R1 rfl (.rf rfl)
theorem Xpq {x : Nm} {d : Nat} {h : Rat} (H : Pk x) (hd : d≤60) (hh : Qs 2 h) : C0 19 [.d (dN x),.d (.int .i64 d),.d (dq h)] fun v=>∃ z,v=.tup (.pr (.d (dz z)) (.d (.int .i64 0)))∧Xbl x.k x.t (scl x.k x.t x.a ((10 ^ d : Int) : Rat) h) z∧(dig z.natAbs).length≤274877906944:=by
 have hu:=Yei hd
 have S:=H.sc hu hh
 obtain ⟨b1,b2,b3,b4,b5⟩:=bnds H.k
 have hz : Zs 200 (10 ^ d : Int):=hu.n
 refine En Tryz.func19 fun _ _ _=>?_
 refine No rfl (by omega) ?_
 refine No rfl (by omega) ?_
 refine Dw rfl ?_
 refine Ce rfl (Xo1 (by omega)) ?_
 refine Ce rfl (Xi0 hz (by decide) (by decide)) ?_
 refine Ce rfl (P9.FromRat_ok hu (by decide)) ?_
 refine Ce rfl (Yhw H.t H.sz hu (by have:=H.k;omega) (by decide) (by decide) (by decide) b5) ?_
 refine No rfl (by decide) ?_
 refine Dw rfl ?_
 refine Ce rfl (P9.FromRat_ok hh (by decide)) ?_
 refine Ce rfl (Ykq (x:=⟨x.k,x.t,mul x.k x.t x.a (rat x.k ((10 ^ d : Int) : Rat))⟩) H.t S.s1 hh (by have:=H.k;show x.k≤8;omega) (by decide) (by decide) (by decide)) ?_
 refine No rfl (by decide) ?_
 refine Ca rfl (Xr9 (P:=1000000) H.re S.w2 (H.t.mono (by decide)) S.s2 (by decide) (show x.k≤16 by have:=H.k;omega) (by decide) b1 b2) fun v hv=>?_
 obtain ⟨z,rfl,hz⟩:=hv
 exact Rt rfl (.tup (.cons (.rf rfl) Xdo)) ⟨z,rfl,hz⟩
theorem dz0 : dz 0=dS false []:=by show D.st (.pr (.bool _) (ws (dig 0)))=_;rw [Xaj];rfl
theorem Floor_ok {x : Nm} {d : Nat} (H : Pk x) (hd : d≤60) : C0 8 [.d (dN x),.d (.int .i64 d)] fun v=>∃ z,v=.tup (.pr (.d (dz z)) (.d (.int .i64 0)))∧Xbl x.k x.t (scl x.k x.t x.a ((10 ^ d : Int) : Rat) ((0 : Int) : Rat)) z∧(dig z.natAbs).length≤274877906944:=by
 refine En Tryz.func8 fun _ _ _=>?_
 refine Dw rfl ?_
 refine Ce rfl (Xb2 (z:=0) (by decide)) ?_
 refine Ca rfl (Xpq H hd (Qs.int (z:=0) (show Int.natAbs 0<2 ^ 2 by decide) (by decide))) fun v hv=>?_
 obtain ⟨z,rfl,hz⟩:=hv
 exact Rt rfl (.tup (.cons (.rf rfl) Xdo)) ⟨z,rfl,hz⟩
abbrev hf : Rat:=Rat.divInt 1 2
theorem Xxc : Qs 2 hf:=⟨show hf.num.natAbs<2 ^ 2 by decide,show ((hf.den : Int)).natAbs<2 ^ 2 by decide⟩
theorem Round_ok {x : Nm} {d : Nat} (H : Pk x) (hd : d≤60) : C0 7 [.d (dN x),.d (.int .i64 d)] fun v=>∃ z,v=.tup (.pr (.d (dz z)) (.d (.int .i64 0)))∧Xbl x.k x.t (scl x.k x.t x.a ((10 ^ d : Int) : Rat) hf) z∧(dig z.natAbs).length≤274877906944:=by
 refine En Tryz.func7 fun _ _ _=>?_
 refine Dw rfl ?_
 refine Ce rfl (Xoy (a:=1) (b:=2) (by decide) (by decide)) ?_
 refine Ca rfl (Xpq H hd Xxc) fun v hv=>?_
 obtain ⟨z,rfl,hz⟩:=hv
 exact Rt rfl (.tup (.cons (.rf rfl) Xdo)) ⟨z,rfl,hz⟩
end Go.Proofs.YtclmecgphleeeaaGreatDoor.P11
namespace Go.Vm
open Go
abbrev cxM (P : Program) (gb : Gb P) (t : Tab P) (m : Mx P) (hpr : ∀ T ti,t.tb T=some ti→∀ a c,ti.z≠.pr a c) (n : Nat) (hn : n≤1000000) (fn : Func) (W : GW) (Q : AV→Prop) (hg : gb.g W) : Cx:=⟨P,gb,t.tb,fun T ti h=>⟨t.ok T ti h,hpr T ti h⟩,m,n,hn,W,fun _=>False,θe,bodyPostM Fence.wide 8 P fn (Ret W Q),hg⟩
theorem EnM {P : Program} [gb : Gb P] [t : Tab P] [hp : Npr P] [m : Mx P] {f n : Nat} {fn : Func} {x : Code} {args : List AV} {Q : AV → Prop} (hf : P.funcs[f]? = some fn) (h : ∀ W hg hn, StP (cxM P gb t m hp.h n hn fn W Q hg) (.j [] [.c x] (Yd3 0 args) [])) (hname : (fn.name == "runtime.NumGoroutine") = false := by exact rfl) (hb : fn.body = some x := by exact rfl)
 (hN : fn.ntmps=n:=by exact rfl) (hl : (Nat.ble args.length n && Nat.ble n 1000000 && args.all Xjt)=true:=by exact rfl) : C P f args Q:=by
 refine ⟨⟨fn,hf,hname,by rw [hb];rfl⟩,fun W vs hg ha=>(callsIn_wide (n:=8)).1 (callsIn_of_wp_marks hf hb trivial (wpIn_wide.2 ?_) rfl)⟩
 have h:=h W hg (by simp only [W0f] at hl;exact W1w hl.1.2)
 simp only [StP,sem,←Xki] at h
 simp only [W0f] at hl
 obtain ⟨⟨hl1,hl2⟩,hl3⟩:=hl
 have hl1:=W1w hl1
 have hlen:=ha.len
 refine wp_mono (h _ W.w ⟨_,W,θe,rfl,⟨Fm.refl W _,⟨rfl,by simp [hN];omega,fun t v ht=>?_⟩,⟨fun o x h=>(by cases h),fun o x b h=>(by cases h),fun o o' x x' b h=>(by cases h),fun o x i h=>(by cases h)⟩,fun t v i ht hi=>?_⟩,fun _ _=>rfl,rfl⟩) fun e a w h=>by cases e <;> exact h
 · obtain ⟨_,u,h2,h3,_⟩:=Xl3 ha ht
   rw [W6x] at h2
   have hlt:=Xbo h2
   rw [W0d hlt] at h2
   injection h2 with h2
   simp only [Array.getD]
   rw [dif_pos (by simp;omega)]
   simp [W6t,hlt,h2]
   exact h3
 · obtain ⟨_,u,_,_,h4⟩:=Xl3 ha ht
   exact absurd hi (Xjs (W1k.1 hl3 v h4) i)
theorem StP.rest2 {c : Cx} {G : List (Nat × Bool)} {x y : Code} {E : Env} {H : Hpl} (h : ∀ a w,c.Nx (fun s'=>s'=sem E H) a w→x.wp c.P (Exit.then (y.wp c.P c.fin) c.fin) a w) : StP c (.j G [.c x,.c y] E H) :=
 fun a w hw=>wp_mono (h a w hw) fun e a w h=>by
  cases e with
  | normal=>exact wp_mono h fun e a w h=>by cases e <;> exact h
  | _=>exact h
theorem Tl {c : Cx} {s : St} (id : Nat) {G : List (Nat × Bool)} {x y : Code} {E : Env} {H : Hpl} (h : nxT c.tb c.n (some id) s=some (G,x,[.c y],E,H)) (k : ∀ a w,c.Nx (fun s'=>s'=sem E H) a w→x.wpIn Fence.wide 8 c.P (Exit.then (y.wpIn Fence.wide 8 c.P c.fin) c.fin) a w) : StP c s:=by
 have key : StP c (.j G [.c x,.c y] E H):=StP.rest2 fun a w hw=>wp_mono (wpIn_wide.1 (k a w hw)) fun e a w h=>by
  cases e with
  | normal=>exact wpIn_wide.1 h
  | _=>exact h
 unfold nxT at h
 simp only at h
 split at h <;> cases h
 rename_i hr
 exact Xg3 1000 (by rw [hr];exact key)
theorem Xah {α : Type} {n : Nat} : ∀ {l : List α},l.length=n+1→∃ t l',l=t::l'∧l'.length=n
 | t::l',h=>⟨t,l',rfl,by simpa using h⟩
end Go.Vm
namespace Go.Proofs.YtclmecgphleeeaaGreatDoor
open Go Go.Vm Go.Num Go.Proofs Go.Shelf Go.RowKit
section
def pa6 : Option (List Nat)→AV
 | none=>.nil
 | some w=>.own 600 1 0 w.length
def paH : Option (List Nat)→Hpl
 | none=>[(2,.var (.st (.pr (.b false) .nil)))]
 | some w=>[(2,.var (.st (.pr (.b false) .nil))),(600,.arr 1 (w.map wd))]
def paI (s d : List UInt8) : Option (List Nat)→Prop
 | none=>d=s
 | some w=>∃ u,s=u++d∧w=dig (Xcc u)∧0<Xcc u
theorem Xxw {c : Nat} (h : c<4294967296) (h0 : 0<c) : dig c=[c]:=by
 have h1 : val [c]=c:=by simp [val]
 have:=Xcz (l:=[c]) (fun x hx=>by rw [W0g.1 hx];exact h) (Xew (fun x hx=>by rw [W0g.1 hx];exact h) (by simp) (by rw [h1];have : 4294967296 ^ ([c].length - 1)=1:=rfl;omega))
 rwa [h1] at this
theorem Xkc {l : List UInt8} (h : ∀ b∈l,Xh5 b) : (dig (Xcc l)).length≤l.length :=
 Xan (W0r (Xht h) (W6r (by decide) _))
theorem Xyg {s : List UInt8} (hs : ∀ b∈s,Xh5 b) (hl : s.length≤65536) (h0 : ∃ b l,s=b::l∧48<b.toNat) : C0 88 [.d (.str s)] (·=.tup (.pr (.d (dz (Xcc s))) (.d (.int .i64 0)))):=by
 obtain ⟨b,l,hbl,hb⟩:=h0
 have hcp : C0 33 [.d (.str s),.d (.str [45])] (·=.tup (.pr (.d (.str s)) (.b false))):=by
  have hn : ¬ s.take [(45 : UInt8)].length=[45]:=fun e=>by
   rw [hbl] at e
   have : b=45:=by simpa using e
   rw [this] at hb;exact absurd hb (by decide)
  refine (Xdy (s:=s) (t:=[45]) (by show s.length<_;omega) (by decide)).mono fun v hv=>?_
  rw [hv,if_neg hn]
  congr 3
  exact W6k.2 fun e=>hn (Xaw.1 e)
 refine En Tryz.func88 fun _ _ _=>?_
 refine No rfl (by omega) ?_
 refine Ce rfl hcp ?_
 refine No rfl (by rw [hbl];simp) ?_
 refine Yx 0 b rfl (by rw [hbl];rfl) ?_
 refine No rfl (fun e=>by omega) ?_
 refine Lo (fun ((d,o) : List UInt8 × Option (List Nat))=>[(2,.ptr 2 0),(3,.d (.int .i64 0)),(4,.d (.str d)),(5,.b false),(6,pa6 o)]) (fun (_,o)=>paH o)
  (fun (d,o)=>d.length≤s.length∧(∀ b∈d,Xh5 b)∧paI s d o) (fun (d,_)=>d.length) (s,none) [] rfl ⟨W0a _,hs,rfl⟩ ?_ (by exact ⟨rfl,rfl,rfl,rfl,rfl⟩)
 rintro ⟨d,o⟩ ⟨hdl,hdd,hI⟩
 cases o with
 | none =>
  refine By rfl (fun hd0=>?_) fun hd0=>?_
  · obtain ⟨n,hn⟩ : ∃ n,n=(d.length - 1) % 9+1:=⟨_,rfl⟩
    refine Ar (d.length - 1 : Nat) rfl ?_
    refine Ar ((d.length - 1) % 9 : Nat) rfl ?_ (reN (b:=9) (by decide) rfl)
    refine Ar (n : Nat) rfl ?_
    have hnl : n≤d.length:=by omega
    refine Lo (fun (i : Nat)=>[(2,.ptr 2 0),(3,.d (.int .i64 0)),(4,.d (.str d)),(5,.b false),(6,pa6 (none)),(7,.d (.int .i64 n)),(8,.d (.int .u64 (Xcc (d.take i) : Nat))),(9,.d (.int .u64 (10 ^ i : Nat))),(46,.d (.int .i64 n)),(47,.d (.int .i64 i))]) (fun _=>paH (none)) (fun i=>i≤n) (fun i=>n - i) 0 [] rfl (W1d _) ?_ (by exact ⟨rfl,rfl,rfl,rfl,rfl⟩)
    intro i hi
    have htk : ∀ j,j≤n→Xcc (d.take j)<10 ^ j∧10 ^ j≤10 ^ 9:=fun j hj=>by
     have:=Xht (l:=d.take j) fun b hb=>hdd b (W4r hb)
     rw [W0j,W1q (by omega)] at this
     exact ⟨this,W0h (by decide) (by omega)⟩
    refine By rfl (fun hlt=>?_) fun hlt=>?_
    · obtain ⟨x,hx⟩ : ∃ x,d[i]?=some x:=⟨_,W0d (by omega)⟩
      have hxd:=hdd x (W0l hx)
      unfold Xh5 at hxd
      have hsn : d.take (i+1)=d.take i++[x]:=by rw [W2b,hx];rfl
      have hv:=Xcl (d.take i) x
      rw [←hsn] at hv
      have h1:=htk i (by omega)
      have h2:=htk (i+1) (by omega)
      refine Yx i x rfl hx ?_
      refine No rfl (by omega) ?_
      refine No rfl (by omega) ?_
      refine Ar (10*Xcc (d.take i) : Nat) rfl ?_
      refine Ar (x.toNat - 48 : Nat) rfl ?_
      refine Go.Vm.Cv (x.toNat - 48 : Nat) rfl ?_
      refine Ar (Xcc (d.take (i+1)) : Nat) rfl ?_
      refine Ar (10 ^ (i+1) : Nat) rfl ?_ (wr (by rw [W0p];simp) (by simp only [inK];omega))
      refine Ar (i+1 : Nat) rfl ?_
      exact Bk (i+1) [] rfl (show i+1≤n by omega) (show n - (i+1)<n - i by omega) (by exact ⟨rfl,rfl,rfl,rfl,rfl⟩)
    · have hin : i=n:=by omega
      subst hin
      obtain ⟨c0,hc0⟩ : ∃ c,c=Xcc (d.take i):=⟨_,rfl⟩
      obtain ⟨F,hF⟩ : ∃ F,F=10 ^ i:=⟨_,rfl⟩
      have h1:=htk i (W0a _)
      rw [←hc0,←hF] at h1
      have hds : d=s:=hI
      refine Lo (fun (_ : Unit)=>[(2,.ptr 2 0),(3,.d (.int .i64 0)),(4,.d (.str d)),(5,.b false),(6,.nil),(7,.d (.int .i64 i)),(8,.d (.int .u64 c0)),(70,.d (.int .i64 0)),(71,.d (.int .i64 0))]) (fun _=>[(2,.var (.st (.pr (.b false) .nil)))]) (fun _=>True) (fun _=>0) () [] rfl trivial ?_ (by exact ⟨by rw [hc0];rfl,rfl,rfl,rfl,rfl⟩)
      intro _ _
      refine No rfl (by decide) ?_
      have hcp : 0<c0:=by
       rw [hc0,hds,hbl]
       obtain ⟨q,hq⟩ : ∃ q,i=q+1:=⟨i - 1,by omega⟩
       rw [hq,List.take_succ_cons]
       exact Xxs hb
      refine Yes rfl (by omega) ?_
      refine Go.Vm.Cv c0 rfl ?_
      refine ApW rfl (by simp) (by simp) ?_
      refine Sdp i (d.drop i) rfl (by omega) rfl ?_
      refine Bk (d.drop i,some [c0]) [(97,600)] rfl ⟨by simp only [W1p];omega,fun b hb=>hdd b (W5f hb),d.take i,by rw [←hds,W3z],by rw [←hc0,Xxw (by omega) hcp],by rw [←hc0];exact hcp⟩ (by show (d.drop i).length<d.length;rw [W1p];omega) (by exact ⟨rfl,rfl,rfl,rfl,rfl⟩)
  · exact absurd (show d=s from hI) (fun e=>by rw [e,hbl] at hd0;simp at hd0)
 | some w =>
  obtain ⟨u,hu,hw,hv0⟩:=hI
  refine By rfl (fun hd0=>?_) fun hd0=>?_
  · obtain ⟨n,hn⟩ : ∃ n,n=(d.length - 1) % 9+1:=⟨_,rfl⟩
    refine Ar (d.length - 1 : Nat) rfl ?_
    refine Ar ((d.length - 1) % 9 : Nat) rfl ?_ (reN (b:=9) (by decide) rfl)
    refine Ar (n : Nat) rfl ?_
    have hnl : n≤d.length:=by omega
    refine Lo (fun (i : Nat)=>[(2,.ptr 2 0),(3,.d (.int .i64 0)),(4,.d (.str d)),(5,.b false),(6,pa6 (some w)),(7,.d (.int .i64 n)),(8,.d (.int .u64 (Xcc (d.take i) : Nat))),(9,.d (.int .u64 (10 ^ i : Nat))),(46,.d (.int .i64 n)),(47,.d (.int .i64 i))]) (fun _=>paH (some w)) (fun i=>i≤n) (fun i=>n - i) 0 [] rfl (W1d _) ?_ (by exact ⟨rfl,rfl,rfl,rfl,rfl⟩)
    intro i hi
    have htk : ∀ j,j≤n→Xcc (d.take j)<10 ^ j∧10 ^ j≤10 ^ 9:=fun j hj=>by
     have:=Xht (l:=d.take j) fun b hb=>hdd b (W4r hb)
     rw [W0j,W1q (by omega)] at this
     exact ⟨this,W0h (by decide) (by omega)⟩
    refine By rfl (fun hlt=>?_) fun hlt=>?_
    · obtain ⟨x,hx⟩ : ∃ x,d[i]?=some x:=⟨_,W0d (by omega)⟩
      have hxd:=hdd x (W0l hx)
      unfold Xh5 at hxd
      have hsn : d.take (i+1)=d.take i++[x]:=by rw [W2b,hx];rfl
      have hv:=Xcl (d.take i) x
      rw [←hsn] at hv
      have h1:=htk i (by omega)
      have h2:=htk (i+1) (by omega)
      refine Yx i x rfl hx ?_
      refine No rfl (by omega) ?_
      refine No rfl (by omega) ?_
      refine Ar (10*Xcc (d.take i) : Nat) rfl ?_
      refine Ar (x.toNat - 48 : Nat) rfl ?_
      refine Go.Vm.Cv (x.toNat - 48 : Nat) rfl ?_
      refine Ar (Xcc (d.take (i+1)) : Nat) rfl ?_
      refine Ar (10 ^ (i+1) : Nat) rfl ?_ (wr (by rw [W0p];simp) (by simp only [inK];omega))
      refine Ar (i+1 : Nat) rfl ?_
      exact Bk (i+1) [] rfl (show i+1≤n by omega) (show n - (i+1)<n - i by omega) (by exact ⟨rfl,rfl,rfl,rfl,rfl⟩)
    · have hin : i=n:=by omega
      subst hin
      obtain ⟨c0,hc0⟩ : ∃ c,c=Xcc (d.take i):=⟨_,rfl⟩
      obtain ⟨F,hF⟩ : ∃ F,F=10 ^ i:=⟨_,rfl⟩
      have h1:=htk i (W0a _)
      rw [←hc0,←hF] at h1
      have hww : Xao w:=by rw [hw];exact Xad _
      have hvw : val w=Xcc u:=by rw [hw,Xaf]
      have hwl : w.length≤65536:=by
       rw [hw]
       refine W0i (Xkc fun b hb=>hs b (by rw [hu];exact W2f _ hb)) ?_
       rw [hu,W0c] at hl
       omega
      refine Lo (fun ((j,lo,cr) : Nat × List Nat × Nat)=>[(2,.ptr 2 0),(3,.d (.int .i64 0)),(4,.d (.str d)),(5,.b false),(6,.own 600 1 0 w.length),(7,.d (.int .i64 i)),(8,.d (.int .u64 cr)),(9,.d (.int .u64 F)),(70,.d (.int .i64 w.length)),(71,.d (.int .i64 j))]) (fun (_,lo,_)=>[(2,.var (.st (.pr (.b false) .nil))),(600,.arr 1 (lo.map wd))])
       (fun (j,lo,cr)=>j≤w.length∧lo.length=w.length∧Xao lo∧cr<F∧val (lo.take j)+4294967296 ^ j*cr=val (w.take j)*F+c0∧lo.drop j=w.drop j) (fun (j,_,_)=>w.length - j) (0,w,c0) [] rfl ⟨W1d _,rfl,hww,h1.1,by simp [val],rfl⟩ ?_ (by exact ⟨by rw [hc0,hF];rfl,rfl,rfl,rfl,rfl⟩)
      rintro ⟨j,lo,cr⟩ ⟨hj,hlo,hwo,hcr,hval,hdr⟩
      refine By rfl (fun hlt=>?_) fun hlt=>?_
      · obtain ⟨x,hx⟩:=xat (l:=lo) (k:=j) (by omega)
        have hxb:=ww hx hwo
        have hxw : w[j]?=some x:=by
         have:=congrArg (fun l=>l[0]?) hdr
         simpa [hx] using this.symm
        have hxF : x*F≤4294967295*F:=W1b F (by omega)
        obtain ⟨s1,hs1⟩ : ∃ s1,s1=cr+x*F:=⟨_,rfl⟩
        have hs1b : s1<4294967296*F:=by omega
        refine Eo j rfl (by omega) ?_
        refine Ld (wd x) rfl (mp hx) ?_
        refine Go.Vm.Cv x rfl ?_
        refine Ar (x*F : Nat) rfl ?_ (wr (W3b ..).symm (by simp only [inK];omega))
        refine Ar s1 rfl ?_
        refine Go.Vm.Cv (s1 % 4294967296 : Nat) rfl ?_ (by rw [wWm];omega)
        refine Eo j rfl (by omega) ?_
        refine Sto rfl (by simp;omega) ms ?_
        refine Ar (s1 / 2 ^ 32 : Nat) rfl ?_ (Xgy (n:=32) (by decide))
        refine Ar (j+1 : Nat) rfl ?_
        refine Bk (j+1,lo.set j (s1 % 4294967296),s1 / 2 ^ 32) [] rfl ⟨by omega,by simp [hlo],Xfs hwo (by omega),W4f (by simpa using hs1b),?_,?_⟩ (by show w.length - (j+1)<w.length - j;omega) (by exact ⟨rfl,rfl,rfl,rfl,rfl⟩)
        · rw [Xa8 (by omega),Xac hxw,W1g,W0p]
          have h3 : 4294967296 ^ j*s1=4294967296 ^ j*cr+4294967296 ^ j*x*F:=by rw [hs1,W0w,W0o]
          have h4 : 4294967296 ^ j*(s1 % 4294967296)+4294967296 ^ j*4294967296*(s1 / 2 ^ 32)=4294967296 ^ j*s1:=by
           rw [W0o,←W0w]
           congr 1
           omega
          omega
        · rw [List.drop_set_of_lt (by omega)]
          have:=congrArg (List.drop 1) hdr
          rw [W5m,W5m] at this
          exact this
      · have hje : j=w.length:=by omega
        have hval' : val lo+4294967296 ^ lo.length*cr=Xcc u*F+c0:=by
         rw [hje,W0b (by omega),W0b (W0a _),hvw] at hval
         rw [hlo];exact hval
        have hv' : Xcc (u++d.take i)=Xcc u*F+c0:=by
         rw [Xj9,W0j,W1q hnl,←hF,←hc0]
        have hsd : s=(u++d.take i)++d.drop i:=by rw [W3y,W3z];exact hu
        have hF0 : 0<F:=by rw [hF];exact W6o (by decide)
        have hgrow : Xcc u≤Xcc u*F:=W4e _ hF0
        refine By rfl (fun hc=>?_) fun hc=>?_
        · refine Go.Vm.Cv cr rfl ?_
          refine ApO ((lo++[cr]).map wd) rfl rfl (by simp [hlo]) (by simp;rfl) (by simp;omega) ?_
          refine Sdp i (d.drop i) rfl (by omega) rfl ?_
          refine Bk (d.drop i,some (lo++[cr])) [(97,600)] rfl ⟨by simp only [W1p];omega,fun b hb=>hdd b (W5f hb),u++d.take i,hsd,?_,by omega⟩ (by show (d.drop i).length<d.length;rw [W1p];omega) (by exact ⟨by simp only [W0n];rfl,rfl,rfl,rfl,rfl⟩)
          have hva : val (lo++[cr])=Xcc u*F+c0:=by rw [Xcd,←hval'];simp [val]
          rw [hv',←hva]
          refine (Xcz (hwo.app (.cons (by omega) .nil)) (Xew (hwo.app (.cons (by omega) .nil)) (by simp) ?_)).symm
          rw [Xcd,W0c,W4z,W3g]
          have : 4294967296 ^ lo.length*1≤4294967296 ^ lo.length*val [cr]:=W0m _ (by simp [val];omega)
          omega
        · refine Sdp i (d.drop i) rfl (by omega) rfl ?_
          refine Bk (d.drop i,some lo) [] rfl ⟨by simp only [W1p];omega,fun b hb=>hdd b (W5f hb),u++d.take i,hsd,?_,by omega⟩ (by show (d.drop i).length<d.length;rw [W1p];omega) (by exact ⟨by simp only [pa6,hlo];rfl,rfl,rfl,rfl,rfl⟩)
          have hcr0 : cr=0:=by omega
          rw [hcr0,W2x,W2i] at hval'
          rw [hv',←hval']
          have hlb:=Xlq (n:=Xcc u) (by omega)
          rw [←hw] at hlb
          have hl0 : 0<w.length:=by
           rw [hw];exact W5k.2 fun e=>by have:=Xqt.1 e;omega
          exact (Xcz hwo (Xew hwo (by omega) (by rw [hlo];omega))).symm
  · have hd0 : d=[]:=W2q.1 (by omega)
    subst hd0
    rw [W3i] at hu
    subst hu
    subst hw
    have hdl:=Xkc hs
    refine Fz 29 6 ((dig (Xcc s)).map wd) rfl (by simp) (by rw [W1f,W0b (by simp)]) ?_
    refine Ce rfl (Xai (b:=false) (n:=Xcc s) (by omega)) ?_
    exact R0t
end
section
theorem Xtr {q n : Nat} {l : List Nat} (hw : Xao l) (hq : q+n≤l.length) (hl : n≤1099511627776) : CN0 68 [.own 1000001 1 q n] [(1000001,.arr 1 (l.map wd))] fun v=>∃ k,k≤n∧v=.own 1000001 1 q k∧(l.drop q).take k=dig (val ((l.drop q).take n)):=by
 have dtk : ∀ {m k : Nat},k<m→((l.drop q).take m)[k]?=l[q+k]?:=fun h=>by rw [W1c,if_pos h,W2d]
 have Xvv : ∀ {m : Nat},q+m≤l.length→((l.drop q).take m).length=m:=fun h=>by rw [W0j,W1p];omega
 refine EnW Tryz.func68 fun _ _ _ _=>?_
 refine Lo (fun k=>[(0,.own 1000001 1 q k)]) (fun _=>[(1000001,.arr 1 (l.map wd))]) (fun k=>k≤n∧val ((l.drop q).take k)=val ((l.drop q).take n)) id n [] rfl ⟨W0a _,rfl⟩ fun k ⟨hk,hv⟩=>?_
 have hwk:=(hw.drop q).take k
 refine By rfl (fun h=>?_) fun h=>?_
 · obtain ⟨u,hu⟩:=xat (l:=l) (k:=q+(k - 1)) (by omega)
   have hs:=Xac (l:=l.drop q) (k:=k - 1) (x:=u) (by rw [W2d];exact hu)
   rw [show k - 1+1=k by omega,hv] at hs
   refine Ar (k - 1 : Nat) rfl ?_
   refine El (k - 1) rfl (by omega) ?_
   refine Ld (wd u) rfl (mp hu) ?_
   refine By rfl (fun h0=>?_) fun h0=>?_
   · refine Ar (k - 1 : Nat) rfl ?_
     refine Sw 0 (k - 1) rfl (by omega) (by omega) ?_
     exact Bk (k - 1) [] rfl ⟨by omega,by rw [hs,show u=0 by omega,W2x,W2i]⟩ (show k - 1<k by omega)
   · exact Rw [] [(1000001,.arr 1 (l.map wd))] rfl (.one (.rf rfl) rfl rfl) ⟨rfl,k,hk,rfl,by rw [←hv,Xcz hwk (.inr ⟨u,by rw [Xvv (by omega),dtk (by omega)];exact hu,fun e=>h0 (by rw [e];rfl)⟩)]⟩
 · refine Rw [] [(1000001,.arr 1 (l.map wd))] rfl (.one (.rf rfl) rfl rfl) ⟨rfl,k,hk,rfl,?_⟩
   rw [show k=0 by omega] at hv ⊢
   rw [←hv,W4y,val,Xaj]
theorem Xkf {l : List Nat} (h0 : 0<l.length) (hl : l.length≤1099511627776) : CA0 67 [.d (ws l)] 1 (l.map wd):=by
 refine EnW Tryz.func67 fun _ _ _ _=>?_
 refine Ub rfl (fun h=>?_) ?_
 · exact absurd h (by intro e; have : l.length = 0 := by simpa using congrArg List.length e
                      omega)
 refine ApL (l.map wd) rfl rfl (by simpa using h0) (by simpa using hl) ?_
 exact Rw [(7,1000000)] [(1000000,.arr 1 (l.map wd))] rfl (.one (.rf rfl) rfl rfl) ⟨_,rfl,rfl,rfl⟩
theorem Xny : C0 34 [.d (dz 0)] (·=.d (.str [48])):=by
 refine En Tryz.func34 fun _ _ _=>?_
 refine Ce rfl (Xb7 (n:=0) (by rw [Xaj];decide)) ?_
 refine Ce rfl (Xbk (l:=dig 0) (by rw [Xaj];decide)) ?_
 refine Yes rfl (by rw [Xaj];rfl) ?_
 exact R0
def Fm9 (z x n : Nat) (lo cs : List Nat) : Prop:=n≤lo.length∧lo.length≤549755813888∧Xao lo∧lo.take n=dig x∧cks z=cs++cks x
theorem Ydu {z x n : Nat} {lo cs : List Nat} (h : Fm9 z x n lo cs) : n=(dig x).length:=by
 have:=congrArg List.length h.2.2.2.1
 rw [W0j,W1q h.1] at this
 exact this
end
section
def rnB : Ren:=⟨fun n=>match n with
 | 166=>72
 | 167=>69
 | 169=>73
 | 240=>131
 | 276=>185
 | _=>0,fun n=>match n with
 | 3=>3
 | 4=>4
 | 5=>5
 | 9=>9
 | 20=>20
 | 37=>100
 | 70=>99
 | 72=>102
 | 75=>104
 | 80=>112
 | 127=>150
 | 164=>175
 | _=>0,fun n=>n⟩
theorem Yf8 : Lays.n166 Tryz.prog rnB where
 mixed:=by kernel_rfl
 f166:=by kernel_rfl
 f240:=by kernel_rfl
 f276:=by kernel_rfl
 t0:=by kernel_rfl
 a0:=fun _=>by kernel_rfl
 z0:=fun _=>by kernel_rfl
 v0:=fun _=>by kernel_rfl
 t3:=by kernel_rfl
 a3:=fun _=>by kernel_rfl
 z3:=fun _=>by kernel_rfl
 v3:=fun _=>by kernel_rfl
 t4:=by kernel_rfl
 a4:=fun _=>by kernel_rfl
 z4:=fun _=>by kernel_rfl
 v4:=fun _=>by kernel_rfl
 t9:=by kernel_rfl
 a9:=fun _=>by kernel_rfl
 z9:=fun _=>by kernel_rfl
 v9:=fun _=>by kernel_rfl
 t20:=by kernel_rfl
 a20:=fun _=>by kernel_rfl
 z20:=fun _=>by kernel_rfl
 v20:=fun _=>by kernel_rfl
 t37:=by kernel_rfl
 a37:=fun _=>by kernel_rfl
 z37:=fun _=>by kernel_rfl
 v37:=fun _=>by kernel_rfl
 t70:=by kernel_rfl
 a70:=fun _=>by kernel_rfl
 z70:=fun _=>by kernel_rfl
 v70:=fun _=>by kernel_rfl
 t72:=by kernel_rfl
 a72:=fun _=>by kernel_rfl
 z72:=fun _=>by kernel_rfl
 v72:=fun _=>by kernel_rfl
 t75:=by kernel_rfl
 a75:=fun _=>by kernel_rfl
 z75:=fun _=>by kernel_rfl
 v75:=fun _=>by kernel_rfl
 t164:=by kernel_rfl
 a164:=fun _=>by kernel_rfl
 z164:=fun _=>by kernel_rfl
 v164:=fun _=>by kernel_rfl
theorem Yf7 : Lays.n167 Tryz.prog rnB where
 mixed:=by kernel_rfl
 f167:=by kernel_rfl
 f240:=by kernel_rfl
 f276:=by kernel_rfl
 t0:=by kernel_rfl
 a0:=fun _=>by kernel_rfl
 z0:=fun _=>by kernel_rfl
 v0:=fun _=>by kernel_rfl
 t4:=by kernel_rfl
 a4:=fun _=>by kernel_rfl
 z4:=fun _=>by kernel_rfl
 v4:=fun _=>by kernel_rfl
 t5:=by kernel_rfl
 a5:=fun _=>by kernel_rfl
 z5:=fun _=>by kernel_rfl
 v5:=fun _=>by kernel_rfl
 t9:=by kernel_rfl
 a9:=fun _=>by kernel_rfl
 z9:=fun _=>by kernel_rfl
 v9:=fun _=>by kernel_rfl
 t20:=by kernel_rfl
 a20:=fun _=>by kernel_rfl
 z20:=fun _=>by kernel_rfl
 v20:=fun _=>by kernel_rfl
 t37:=by kernel_rfl
 a37:=fun _=>by kernel_rfl
 z37:=fun _=>by kernel_rfl
 v37:=fun _=>by kernel_rfl
 t70:=by kernel_rfl
 a70:=fun _=>by kernel_rfl
 z70:=fun _=>by kernel_rfl
 v70:=fun _=>by kernel_rfl
 t72:=by kernel_rfl
 a72:=fun _=>by kernel_rfl
 z72:=fun _=>by kernel_rfl
 v72:=fun _=>by kernel_rfl
 t75:=by kernel_rfl
 a75:=fun _=>by kernel_rfl
 z75:=fun _=>by kernel_rfl
 v75:=fun _=>by kernel_rfl
 t164:=by kernel_rfl
 a164:=fun _=>by kernel_rfl
 z164:=fun _=>by kernel_rfl
 v164:=fun _=>by kernel_rfl
theorem Xzx : Lays.n169 Tryz.prog rnB where
 mixed:=by kernel_rfl
 f169:=by kernel_rfl
 t0:=by kernel_rfl
 a0:=fun _=>by kernel_rfl
 z0:=fun _=>by kernel_rfl
 v0:=fun _=>by kernel_rfl
 t3:=by kernel_rfl
 a3:=fun _=>by kernel_rfl
 z3:=fun _=>by kernel_rfl
 v3:=fun _=>by kernel_rfl
 t9:=by kernel_rfl
 a9:=fun _=>by kernel_rfl
 z9:=fun _=>by kernel_rfl
 v9:=fun _=>by kernel_rfl
 t37:=by kernel_rfl
 a37:=fun _=>by kernel_rfl
 z37:=fun _=>by kernel_rfl
 v37:=fun _=>by kernel_rfl
 t70:=by kernel_rfl
 a70:=fun _=>by kernel_rfl
 z70:=fun _=>by kernel_rfl
 v70:=fun _=>by kernel_rfl
 t72:=by kernel_rfl
 a72:=fun _=>by kernel_rfl
 z72:=fun _=>by kernel_rfl
 v72:=fun _=>by kernel_rfl
 t127:=by kernel_rfl
 a127:=fun _=>by kernel_rfl
 z127:=fun _=>by kernel_rfl
 v127:=fun _=>by kernel_rfl
theorem Yii : Builder.Extra Tryz.prog rnB where
 sizeBuilder:=by kernel_rfl
 liesBuilder:=by kernel_rfl
 t5:=by kernel_rfl
 a5:=fun _=>by kernel_rfl
 z5:=fun _=>by kernel_rfl
 v5:=fun _=>by kernel_rfl
 infoByte:=by kernel_rfl
 cellsByte:=by kernel_rfl
 sizeByte:=by kernel_rfl
 neB5:=by decide
end
section
attribute [local go_sem] Oper.semAt_some
abbrev C9:={ x : Nat // x<1000000000 }
def b9 (zs : List C9) (k : Nat) : List (Nat × C9):=(List.range k).map fun j=>(zs.length - 1 - j,zs[zs.length - 1 - j]?.getD ⟨0,by decide⟩)
theorem Xvd (zs : List C9) (k : Nat) : b9 zs (k+1)=b9 zs k++[(zs.length - 1 - k,zs[zs.length - 1 - k]?.getD ⟨0,by decide⟩)]:=by simp [b9,W6u]
theorem Xve (zs : List C9) (k : Nat) : (b9 zs k).length=k:=by simp [b9]
set_option maxRecDepth 100000 in
set_option maxHeartbeats 2000000 in
theorem Yhh (F : Fence) (n : Nat) (h8 : F.fn 132) (hro : F.round=none) (hn : 1≤n) (l Bs n₀ b off cap : Nat) (zs : List C9) (hreach : zs.length*4≤140737488351232) (hb : b<n₀) (J Jx : List (Nat × C9)→World→Prop)
 (hY : ∀ pre x W,J pre W→pre.length<zs.length→YieldAt F (n - 1) Tryz.prog l #[.int .i64 (x.1 : Int),.int .u32 (x.2.1 : Int)] W fun e W' =>
  (e=.returned (.bool true)∧J (pre++[x]) W'∧Kq n₀ Bs W W')∨(e=.returned (.bool false)∧Jx (pre++[x]) W'))
 (W : World) (hBs : W.cell? ⟨Bs,0,none⟩=some (.slice (some ⟨b,off,none⟩) zs.length cap)) (hc : ∀ j,j<zs.length→W.cell? ⟨b,off+j,none⟩=some (.int .u32 ((zs[j]?.getD ⟨0,by decide⟩).1 : Int))) (h0 : J [] W) :
 CallsIn F n Tryz.prog 132 #[.func (.yield l) #[] #[],.pointer (some ⟨Bs,0,none⟩)] W fun e W'=>(∃ v,e=.returned v) ∧
  ((∃ ys,ys=b9 zs zs.length∧J ys W')∨(∃ pre,True∧Jx pre W')):=by
 refine callsIn_of_wp Tryz.func132 rfl h8 ?_ hro
 simp only [Tryz.ntmps132,W6l,W0s,W4n,Nat.reduceAdd,Nat.reduceSub,W5x,W5y,W6m,W6b,W4b,W3t]
 gi_wp2
 gi_loopw [3] (fun i wr=>∃ k : Nat,k≤zs.length∧i=.int .i64 ((zs.length : Int) - 1 - k)∧J (b9 zs k) wr∧Kq n₀ Bs W wr)
  (fun i _=>(intOf i+1).toNat)
 case atStart=>exact ⟨0,W1d _,by simp,h0,Kq.refl _ _ _⟩
 case round =>
  obtain ⟨k,hk,rfl,hJs,hnx⟩:=hrel
  have hBs':=(World.cell?_of_block hnx.b).trans hBs
  by_cases hlt : k<zs.length
  · obtain ⟨q,hq⟩ : ∃ q,q+(k+1)=zs.length:=⟨zs.length - 1 - k,by omega⟩
    have hqi : ((zs.length : Int) - 1 - k)=(q : Int):=by omega
    have hcx:=(hnx.a.cell (p:=⟨b,off+q,none⟩) hb).trans (hc q (by omega))
    obtain ⟨fn,tmps,assign,body,hy,hR⟩:=hY _ (q,zs[q]?.getD ⟨0,by decide⟩) wr hJs (by rw [Xve];exact hlt)
    dsimp only at hy
    rw [hqi]
    gi_wp2
    refine hR.mono ?_
    rintro e W3 (⟨rfl,hJ3,hk3⟩ | ⟨rfl,hJx3⟩)
    · gi_wp2
      go_roundw
      case rel=>exact ⟨k+1,by omega,by congr 1;omega,by rw [Xvd,show zs.length - 1 - k=q from by omega];exact hJ3,hnx.trans hk3⟩
      case measure=>simp [intOf]
    · gi_wp2
      refine bodyPost_ret (results_none rfl _ _ _) rfl ?_
      exact ⟨⟨_,rfl⟩,.inr ⟨_,trivial,hJx3⟩⟩
  · obtain rfl : k=zs.length:=by omega
    rw [show ((zs.length : Int) - 1 - (zs.length : Int))=-1 from by omega]
    gi_wp2
    go_end0
    exact ⟨⟨_,rfl⟩,.inl ⟨_,rfl,hJs⟩⟩
theorem Xl0 (F : Fence) (n : Nat) (h8 : F.fn 132) (hro : F.round=none) (hn : 1≤n) (Bs n₀ b off cap : Nat) (zs : List C9) (hreach : zs.length*4≤140737488351232) (w : World) (hBs : Bs<w.heap.size) (hn₀ : n₀≤w.heap.size)
 (hc : w.cell? ⟨Bs,0,none⟩=some (.slice (some ⟨b,off,none⟩) zs.length cap)) (hb : b<n₀) (hcs : ∀ j,j<zs.length→w.cell? ⟨b,off+j,none⟩=some (.int .u32 ((zs[j]?.getD ⟨0,by decide⟩).1 : Int))) :
 SeqStopsK F n Tryz.prog 132 #[.pointer (some ⟨Bs,0,none⟩)] (fun x : Nat × C9=>#[Value.int .i64 (x.1 : Int),Value.int .u32 (x.2.1 : Int)]) (Kq n₀ Bs) (fun ys=>ys=b9 zs zs.length)
  (fun _=>True) zs.length w:=fun l J Jx W hW _ _ hY h0=>by
 have hc':=(hW.cell (p:=⟨Bs,0,none⟩) hBs).trans hc
 exact Yhh F n h8 hro hn l Bs n₀ b off cap zs hreach hb J Jx hY W hc' (fun j hj=>(hW.cell (p:=⟨b,off+j,none⟩) (W0r hb hn₀)).trans (hcs j hj)) h0
def o9 (N : Nat) (sg : List UInt8) : List (Nat × C9)→List UInt8:=List.foldl (fun t x=>t++(if x.1+1<N then List.replicate (9 - (dec x.2.1).length) 48 else [])++dec x.2.1) sg
theorem Xmz (N : Nat) (sg : List UInt8) (pre : List (Nat × C9)) (x : Nat × C9) : o9 N sg (pre++[x])=o9 N sg pre++(if x.1+1<N then List.replicate (9 - (dec x.2.1).length) 48 else [])++dec x.2.1:=by simp [o9]
theorem Yj3 (x : C9) : (dec x.1).length≤9:=Xen 8 x.1 x.2
theorem Xs0 (N : Nat) : ∀ (pre : List (Nat × C9)) (sg : List UInt8),(o9 N sg pre).length≤sg.length+18*pre.length
 | [],_=>W7j _ _
 | x::l,sg=>by
  have ih:=Xs0 N l (sg++(if x.1+1<N then List.replicate (9 - (dec x.2.1).length) 48 else [])++dec x.2.1)
  have:=Yj3 x.2
  have h : (if x.1+1<N then List.replicate (9 - (dec x.2.1).length) (48 : UInt8) else []).length≤9:=by split <;> simp
  simp only [W0c,W0s] at h ih ⊢
  refine W0i (show (o9 N sg (x::l)).length≤_ from ih) ?_
  omega
theorem Ybs (sg : List UInt8) (zs : List C9) : ∀ k,k≤zs.length→o9 zs.length sg (b9 zs k)=sg++Xwy ((zs.map (·.1)).drop (zs.length - k))
 | 0,_=>by
  rw [W1z (by simp)]
  simp [b9,o9,Xwy]
 | k+1,h=>by
  obtain ⟨x,hx⟩ : ∃ x,zs[zs.length - 1 - k]?=some x:=⟨_,W0d (by omega)⟩
  have hxm : (zs.map (·.1))[zs.length - (k+1)]?=some x.1:=by rw [W1s,show zs.length - (k+1)=zs.length - 1 - k by omega,hx];rfl
  have hd : (zs.map (·.1)).drop (zs.length - (k+1))=x.1::(zs.map (·.1)).drop (zs.length - k):=by
   obtain ⟨hlt,he⟩:=W1a.1 hxm
   rw [W3c hlt,he,show zs.length - (k+1)+1=zs.length - k by omega]
  rw [Xvd,Xmz,Ybs sg zs k (by omega),hx,hd]
  simp only [W3s]
  by_cases hk : k=0
  · subst hk
    rw [if_neg (by omega),show (zs.map (·.1)).drop (zs.length - 0)=[] from W1z (by simp)]
    simp [Xwy]
  · have hne : (zs.map (·.1)).drop (zs.length - k)≠[]:=fun e=>by
     have:=congrArg List.length e
     simp at this;omega
    rw [if_pos (by omega),Xsv hne]
    unfold pad
    simp
theorem c9s {l : List Nat} (h : ∀ x∈l,x<1000000000) : ∃ zs : List C9,zs.map (·.1)=l:=by
 induction l with
 | nil=>exact ⟨[],rfl⟩
 | cons a l ih =>
  obtain ⟨zs,hz⟩:=ih fun x hx=>h x (W0z _ hx)
  exact ⟨⟨a,h a (W0q ..)⟩::zs,by rw [W4k,hz]⟩
def gw1 (w : World) : GW:=⟨w,fun _ _=>False,fun _ _ h=>h.elim⟩
theorem cell_lt {w : World} {b i : Nat} {v : Value} (h : w.cell? ⟨b,i,none⟩=some v) : b<w.heap.size:=by
 apply W0y
 intro hn
 simp only [World.cell?] at h
 rw [W3r (by omega)] at h
 cases h
theorem Yf2 {W : GW} {n : Nat} {w' : World} (h : Below n W.w w') (hn : W.w.heap.size≤n) : LeF W (gw1 w'):=fun b i v hv =>
 ⟨(World.cell?_of_block (h.block b (W0r (cell_lt hv.1) hn))).trans hv.1,id⟩
theorem Xp6 {f : FuncId} {args : List AV} {vs : List Value} {s : List UInt8} {w : World} (hc : C0 f args (·=.d (.str s))) (hg : Gb.g Tryz.prog (gw1 w)) (ha : Xhz (gw1 w) θe args vs) :
 Calls Tryz.prog f vs.toArray w fun e w'=>e=.returned (.string ⟨s.toArray⟩)∧Below w.heap.size w w' :=
 (hc.2 (gw1 w) vs hg ha).mono fun e w' ⟨W',v,u,h1,h2,h3,h4,_,h6⟩=>by
  subst h6;subst h2
  obtain ⟨rfl,_⟩:=Xns h4
  exact ⟨h1,h3.os,h3.tape,h3.out,h3.size,fun k hk=>h3.same k hk id⟩
theorem Ylj {w : World} (hg : Gb.g Tryz.prog (gw1 w)) (x : C9) : Calls Tryz.prog 71 #[.int .u64 (x.1 : Int),.int .i64 10] w fun e w'=>e=.returned (.string ⟨(dec x.1).toArray⟩)∧Below w.heap.size w w' :=
 Xp6 (vs:=[.int .u64 (x.1 : Int),.int .i64 10]) (Xkn x.2) hg ⟨int_V (by have:=x.2;show IntKind.u64.wrap _=_;exact wU (by omega)),int_V (wI (by omega)),trivial⟩
theorem Ykz {w : World} (hg : Gb.g Tryz.prog (gw1 w)) {n : Nat} {k : Int} (hk : k=n) (hn : n<65) : Calls Tryz.prog 35 #[.string ⟨#[48]⟩,.int .i64 k] w fun e w'=>e=.returned (.string ⟨(List.replicate n 48).toArray⟩)∧Below w.heap.size w w':=by
 subst hk
 exact Xp6 (vs:=[.string ⟨#[48]⟩,.int .i64 (n : Int)]) (Xiz hn) hg ⟨Xml (s:=[48]) (by decide),int_V (by show IntKind.i64.wrap _=_;exact wI (by omega)),trivial⟩
theorem Xtu {β : Type} (T e : TypeId) (B b : Nat) (f : β→List Value) : Own (fun s W=>Lib.IsBuilderF T e B b (f s) W):=by
 intro s X Y row h hg hrow
 have key : ∀ p,Lib.BuilderAtF T e B b p (f s) X→Lib.BuilderAtF T e B b p (f s) Y:=fun p ⟨hB,v,hb,hown,hne⟩=>by
  have cells : ∀ k cs t fz,X.heap[k]?=some (.cells cs t fz)→some k≠row:=fun k cs t fz hk e'=>by
   obtain ⟨o,ho,hc⟩:=hrow k e'.symm
   rw [hk] at ho;cases ho;cases hc
  refine ⟨hB,v,(hg.block b (W3n.1 hb).1 (cells b _ _ _ hb)).trans hb,hown.kept hg ?_,hne⟩
  cases hv : v.ownBlock with
  | none=>exact .inl rfl
  | some g =>
   obtain ⟨c,fz,hc⟩:=Lib.ownsRowF_kind hown g hv
   exact .inr (cells g _ _ _ hc)
 exact h.elim (fun h=>.inl (key _ h)) fun h=>.inr (key _ h)
theorem Xhm {W W' : World} {row : Option Nat} {b : Nat} {cs : Array Value} {t : TypeId} {fz : Nat × Nat} (h : W.heap[b]?=some (.cells cs t fz)) (hg : W.grownBy W' row) (hr : ∀ r,row=some r→∃ o : Obj,W.heap[r]?=some o∧o.isCells=false) : W'.heap[b]?=some (.cells cs t fz) :=
 (hg.block b (W3n.1 h).1 (fun e'=>by
  obtain ⟨o,ho,hc⟩:=hr b e'.symm
  rw [h] at ho;cases ho;cases hc)).trans h
theorem Xtv {T e : TypeId} {B b : Nat} {bs : List Value} {w w' : World} (h : Lib.IsBuilderF T e B b bs w) (hw : Below w.heap.size w w') : Lib.IsBuilderF T e B b bs w':=by
 have key : ∀ p,Lib.BuilderAtF T e B b p bs w→Lib.BuilderAtF T e B b p bs w':=fun p ⟨hB,v,hb,hown,hne⟩ =>
  ⟨hB,v,(hw.block b (W3n.1 hb).1).trans hb,hown.kept (row:=none) ⟨hw.os,hw.tape,hw.output,hw.size,fun k hk _=>hw.block k hk⟩ (by cases hv : v.ownBlock <;> simp),hne⟩
 exact h.elim (fun h=>.inl (key _ h)) fun h=>.inr (key _ h)
theorem Xm6 {w w' : World} (h : Below w.heap.size w w') : KeepsOthers w w':=⟨h.size,fun k o hk _=>(h.block k (W3n.1 hk).1).trans hk⟩
theorem Xjz {T e : TypeId} {B b n : Nat} {bs : List Value} {w w' : World} (h : Lib.IsBuilderF T e B b bs w) (hw : Below n w w') (ho : Lib.OthersKept e (some b) w w') : KeepsOthers w w':=⟨hw.size,fun k o hk hc=>by
 refine ho k o hk (fun e'=>?_) (fun c fz e'=>by subst e';cases hc)
 cases e'
 rcases h with ⟨_,v,hb,_⟩ | ⟨_,v,hb,_⟩ <;> rw [hk] at hb <;> cases hb <;> cases hc⟩
structure W9 (n BS B : Nat) (sl : Value) (w W : World) (t : List UInt8) (W' : World) : Prop where
 b : Lib.IsBuilderF (rnB.t 72) (rnB.t 5) n n (Lib.byteCells t) W'
 s : W'.heap[BS]?=some (.cells #[sl] 35 (0,0))
 l : Below n w W'
 k : KeepsFrom B W W'
 q : Kq n BS W W'
theorem W9.below {n BS B : Nat} {sl : Value} {w W W' W'' : World} {t : List UInt8} (h : W9 n BS B sl w W t W') (hn : n≤W'.heap.size) (hb : Below W'.heap.size W' W'') : W9 n BS B sl w W t W'' :=
 ⟨Xtv h.b hb,(hb.block BS (W3n.1 h.s).1).trans h.s,h.l.trans (hb.mono hn),h.k.trans ((Xm6 hb).from _),h.q.trans ⟨hb.mono hn,hb.block BS (W3n.1 h.s).1⟩⟩
theorem W9.wr {n BS B : Nat} {sl : Value} {w W W' : World} {t : List UInt8} (h : W9 n BS B sl w W t W') (u : List UInt8) (hn : n≤W'.heap.size) (hB : BS≠n) (hl : t.length+u.length≤140737488355328) :
 Calls Tryz.prog 72 #[.pointer (some ⟨n,0,none⟩),.string ⟨u.toArray⟩] W' fun e W''=>e=.returned (.tuple #[.int .i64 u.length,.nilIface])∧W9 n BS B sl w W (t++u) W'':=by
 have hsz : (⟨u.toArray⟩ : ByteArray).size=u.length:=by simp [ByteArray.size]
 refine (Any.Builder_WriteString_k Yf8 Yii n n _ ⟨u.toArray⟩ W' h.b (by rw [Lib.byteCells_length,hsz];exact hl) hn).mono ?_
 rintro e W'' ⟨rfl,hb,hbl,ho⟩
 have hs : W''.heap[BS]?=some (.cells #[sl] 35 (0,0)):=ho BS _ h.s (by intro e;cases e;exact hB rfl) (by intro c fz e;cases e)
 refine ⟨by rw [hsz],.inr (by rw [Lib.byteCells_append];exact hb),hs,h.l.trans hbl,h.k.trans ((Xjz h.b hbl ho).from _),h.q.trans ⟨hbl,hs.trans h.s.symm⟩⟩
end
section
attribute [local go_sem] Oper.semAt_some
theorem Xq3 {z : Int} (hz : z≠0) (hl : (dig z.natAbs).length≤274877906944) : C0 34 [.d (dz z)] (·=.d (.str (tx z))):=by
 have hcl:=Xu4 (n:=z.natAbs) (k:=(dig z.natAbs).length) (by have:=Xbq (Xad z.natAbs);rwa [Xaf] at this)
 have hp:=W5k.2 (fun e : dig z.natAbs=[]=>hz (by have:=Xqt.1 e;omega))
 refine EnM Tryz.func34 fun W0 hg0 _=>?_
 refine Ce rfl (Xb7 (n:=z.natAbs) (by omega)) ?_
 refine Cr rfl (Xkf (l:=dig z.natAbs) hp (by omega)) ?_
 refine No rfl (by simp only [W0n];omega) ?_
 refine Nv 4 7 1 rfl ?_
 refine Lo (fun ((x,n,lo,cs) : Nat × Nat × List Nat × List Nat)=>[(1,.ptr 1 0),(2,.d (.str [])),(3,.own 14 1 0 n),(4,.ptr 4 0)]) (fun (x,n,lo,cs)=>[(1,.var (.d (dz z))),(14,.arr 1 (lo.map wd)),(4,.var (.gr 7 1 (cs.map wd))),(7,.tok (cs.map wd).length 1)])
  (fun (x,n,lo,cs)=>Fm9 z.natAbs x n lo cs) (fun (x,_)=>x) (z.natAbs,(dig z.natAbs).length,dig z.natAbs,[]) [] rfl ⟨W0a _,by omega,Xad _,W2r ..,rfl⟩ ?_ (by exact ⟨by simp only [W0n];rfl,rfl,rfl,rfl,rfl⟩)
 rintro ⟨x,n,lo,cs⟩ hI
 have hn:=Ydu hI
 obtain ⟨hnl,hll,hwo,hdx,hck⟩:=hI
 have hsz : ∀ j,j<n→lo[j]?=(dig x)[j]?:=fun j hj=>by rw [←hdx,W1c,if_pos hj]
 refine By rfl (fun h=>?_) fun h=>?_
 · have h : (n : Int) > 0:=h
   have hx0 : x≠0:=fun e=>by rw [e,Xaj] at hn;simp at hn;omega
   refine Ar ((n : Int) - 1) rfl ?_ (wr rfl (by simp only [inK];omega))
   refine Lo (fun ((k,l,r) : Nat × List Nat × Nat)=>[(1,.ptr 1 0),(2,.d (.str [])),(3,.own 14 1 0 n),(4,.ptr 4 0),(5,.d (.int .u64 r)),(6,.d (.int .i64 ((k : Int) - 1)))]) (fun (_,l,_)=>[(1,.var (.d (dz z))),(14,.arr 1 (l.map wd)),(4,.var (.gr 7 1 (cs.map wd))),(7,.tok (cs.map wd).length 1)])
    (fun (k,l,r)=>k≤n∧l.length=lo.length∧Xao l∧r<1000000000∧val ((l.take n).drop k)*1000000000+r=val ((dig x).drop k)∧∀ j,j<k→l[j]?=(dig x)[j]?) (fun (k,_,_)=>k) (n,lo,0) [] rfl
    ⟨W0a _,rfl,hwo,by decide,by rw [W1z (by rw [W0j];omega),W1z (by omega)];simp [val],hsz⟩ ?_
   rintro ⟨k,l,r⟩ ⟨hk,hl2,hwl,hr,hval,hlj⟩
   refine By rfl (fun h2=>?_) fun h2=>?_
   · have h2 : (k : Int) - 1 ≥ 0:=h2
     obtain ⟨u,hu⟩:=xat (l:=dig x) (k:=k - 1) (by omega)
     have hub:=ww hu (Xad x)
     have hul : l[k - 1]?=some u:=by rw [hlj _ (by omega),hu]
     obtain ⟨s,hs⟩ : ∃ s,s=r*2 ^ 32+u:=⟨_,rfl⟩
     have hs64 : s<18446744073709551616:=by omega
     have hsy : s / 1000000000<4294967296:=by omega
     have hek : ((k : Int) - 1)=((k - 1 : Nat) : Int):=by omega
     refine Ar (r*2 ^ 32 : Nat) rfl ?_ (Xgz (n:=32) rfl (by omega) (by decide))
     refine Eo (k - 1) (by rw [hek];rfl) (by omega) ?_
     refine Ld (wd u) rfl (mp hul) ?_
     refine Go.Vm.Cv u rfl ?_
     refine Ar s rfl ?_ (Xzi (by omega) (by omega) (by rw [Xc2 u r 32 (by omega),←hs]) hs64)
     refine Ar (s / 1000000000 : Nat) rfl ?_ (show _∧_ from ⟨by decide,Yaq s 1000000000 hs64⟩)
     refine Go.Vm.Cv (s / 1000000000 : Nat) rfl ?_ (wW ⟨W5p _,W6y.2 hsy⟩)
     refine Eo (k - 1) (by rw [hek];rfl) (by omega) ?_
     refine Sto rfl (by simp only [W0n];omega) ms ?_
     refine Ar (s % 1000000000 : Nat) rfl ?_ (show _∧_ from ⟨by decide,Xq6 s 1000000000⟩)
     refine Ar ((k - 1 : Nat) - 1 : Int) rfl ?_ (wr (by omega) (by simp only [inK];omega))
     have hs0 : val ((dig x).drop (k - 1))=u+4294967296*val ((dig x).drop k):=by
      have:=Xbr hu
      rwa [show k - 1+1=k by omega] at this
     refine Bk (k - 1,l.set (k - 1) (s / 1000000000),s % 1000000000) [] rfl ⟨by omega,by simp [hl2],Xfs hwl hsy,W1r _ (by decide),?_,fun j hj=>?_⟩ (by show k - 1<k;omega)
     · rw [hs0,←hval,List.take_set,drop_set (by rw [W0j];omega),val,show k - 1+1=k by omega]
       have e:=W2j s 1000000000
       have hs2 : s=r*4294967296+u:=hs
       generalize val (((l.take n)).drop k)=V
       generalize s / 1000000000=q at e ⊢
       generalize s % 1000000000=m at e ⊢
       clear hck hcl hdx hsz hlj hs hval hs0 hsy hs64
       omega
     · rw [W1v (by omega)];exact hlj j (by omega)
   · have hk0 : k=0:=by
      have h2 : ¬ (k : Int) - 1 ≥ 0:=h2
      omega
     subst hk0
     rw [W1f,W1f,Xaf] at hval
     have hq : x / 1000000000=val (l.take n):=by omega
     have hm : x % 1000000000=r:=by omega
     refine Cn [(1000001,14)] rfl (Xtr (l:=l) (q:=0) (n:=n) hwl (by omega) (by omega)) fun v hv=>?_
     obtain ⟨m,hmn,rfl,hml⟩:=hv
     rw [W1f,←hq] at hml
     refine Go.Vm.Cv r rfl ?_
     refine ApG ((cs++[r]).map wd) rfl (by simp;rfl) (by simp;have:=congrArg List.length hck;rw [W0c] at this;omega) ?_
     refine Bk (x / 1000000000,m,l,cs++[r]) [(50,7)] rfl ⟨by omega,by omega,hwl,hml,?_⟩ (by show x / 1000000000<x;omega)
     rw [hck,Xeo hx0,hm];simp
 · have h : ¬ (n : Int) > 0:=h
   have hx0 : x=0:=by
    have : dig x=[]:=W0k (by omega)
    exact Xqt.1 this
   subst hx0
   rw [Xd9,W3i] at hck
   obtain ⟨zs,hzs⟩:=c9s (l:=cs) fun x hx=>Yg9 z.natAbs x (by rw [hck];exact hx)
   have hzl : zs.length=cs.length:=by rw [←hzs,W0n]
   have hz0 : z.natAbs≠0:=by omega
   have hz1 : 0<zs.length:=by
    rw [hzl,←hck,Xeo hz0];simp
   have hzn : zs.length≤549755813888:=by rw [hzl,←hck];omega
   have htx : ∀ sg,sg++Xwy (zs.map (·.1))=sg++dec z.natAbs:=fun sg=>by rw [hzs,←hck,Xwx _ hz0]
   refine Tl 15 rfl fun a w hw=>?_
   obtain ⟨s',W,θ,rfl,hS,hθ,rfl⟩:=hw
   have hgW : Gb.g Tryz.prog W:=Gb.mono _ _ hS.fm.le hg0
   obtain ⟨b1,p1,e1⟩:=Xh6 (hS.rel.has 1 (.ptr 1 0) rfl)
   obtain ⟨b4,p4,e4⟩:=Xh6 (hS.rel.has 4 (.ptr 4 0) rfl)
   obtain ⟨bx,cx1,T1,q1,q2,q3,_⟩:=hS.obs.r 1 (.var (.d (dz z))) rfl
   obtain ⟨by4,cx4,T4,q5,q6,q7,_⟩:=hS.obs.r 4 (.var (.gr 7 1 (cs.map wd))) rfl
   obtain rfl : bx=b1:=Option.some.inj (q1.symm.trans p1)
   obtain rfl : by4=b4:=Option.some.inj (q5.symm.trans p4)
   have c1 : W.w.cell? ⟨bx,0,none⟩=some (.bool (decide (z<0))):=by
    obtain ⟨u,v,h1,h2,_⟩:=q3
    have h2 : u=[.bool (decide (z<0))]:=h2
    rw [Xa9 q2,h1,h2];rfl
   obtain ⟨b7,cp,c4,hcell⟩ : ∃ b7 cp,W.w.cell? ⟨by4,0,none⟩=some (.slice (some ⟨b7,0,none⟩) zs.length cp)∧∀ j,j<zs.length→W.w.cell? ⟨b7,0+j,none⟩=some (.int .u32 ((zs[j]?.getD ⟨0,by decide⟩).1 : Int)):=by
    obtain ⟨p,h1,h0,h2,_,h5⟩:=q7
    simp only [W0n] at h1 h2
    rcases h5 with h5 | ⟨b7,h5,hrow⟩
    · have:=congrArg List.length h5
      rw [W0n] at this
      have : cs.length=0:=this
      omega
    · have hp : p=some ⟨b7,0,none⟩:=by
       rcases h0 with h0 | h0
       · omega
       · rw [h0,h5];rfl
      refine ⟨b7,_,by rw [Xa9 q6,h1,hp,←hzl];rfl,fun j hj=>?_⟩
      obtain ⟨x,hx⟩ : ∃ x,zs[j]?=some x:=⟨_,W0d hj⟩
      obtain ⟨e,g1,_,g3⟩:=D.row_get hrow (i:=j) (x:=wd x.1) (by rw [←hzs];simp [hx])
      have g1 : e=[.int .u32 x.1]:=g1.1
      have:=(g3 0 (.int .u32 x.1) (by rw [g1];rfl)).1
      rw [hx]
      simpa using this
   have hb1:=Go.Proofs.YtclmecgphleeeaaGreatDoor.cell_lt c1
   have hb4:=Go.Proofs.YtclmecgphleeeaaGreatDoor.cell_lt c4
   have hb7:=Go.Proofs.YtclmecgphleeeaaGreatDoor.cell_lt (hcell 0 hz1)
   have hfm:=hS.fm
   obtain ⟨tm,df⟩:=a
   obtain rfl : df=[]:=hS.rel.defers
   obtain ⟨L⟩:=tm
   have hL : L.length=74:=hS.rel.size
   clear hS
   obtain ⟨t0,L0,rfl,hL0⟩:=Xah hL
   clear hL
   obtain ⟨t1,L1,rfl,hL1⟩:=Xah hL0
   clear hL0
   obtain ⟨t2,L2,rfl,hL2⟩:=Xah hL1
   clear hL1
   obtain ⟨t3,L3,rfl,hL3⟩:=Xah hL2
   clear hL2
   obtain ⟨t4,L4,rfl,hL4⟩:=Xah hL3
   clear hL3
   obtain ⟨t5,L5,rfl,hL5⟩:=Xah hL4
   clear hL4
   obtain ⟨t6,L6,rfl,hL6⟩:=Xah hL5
   clear hL5
   obtain ⟨t7,L7,rfl,hL7⟩:=Xah hL6
   clear hL6
   obtain ⟨t8,L8,rfl,hL8⟩:=Xah hL7
   clear hL7
   obtain ⟨t9,L9,rfl,hL9⟩:=Xah hL8
   clear hL8
   obtain ⟨t10,L10,rfl,hL10⟩:=Xah hL9
   clear hL9
   obtain ⟨t11,L11,rfl,hL11⟩:=Xah hL10
   clear hL10
   obtain ⟨t12,L12,rfl,hL12⟩:=Xah hL11
   clear hL11
   obtain ⟨t13,L13,rfl,hL13⟩:=Xah hL12
   clear hL12
   obtain ⟨t14,L14,rfl,hL14⟩:=Xah hL13
   clear hL13
   obtain ⟨t15,L15,rfl,hL15⟩:=Xah hL14
   clear hL14
   obtain ⟨t16,L16,rfl,hL16⟩:=Xah hL15
   clear hL15
   obtain ⟨t17,L17,rfl,hL17⟩:=Xah hL16
   clear hL16
   obtain ⟨t18,L18,rfl,hL18⟩:=Xah hL17
   clear hL17
   obtain ⟨t19,L19,rfl,hL19⟩:=Xah hL18
   clear hL18
   obtain ⟨t20,L20,rfl,hL20⟩:=Xah hL19
   clear hL19
   obtain ⟨t21,L21,rfl,hL21⟩:=Xah hL20
   clear hL20
   obtain ⟨t22,L22,rfl,hL22⟩:=Xah hL21
   clear hL21
   obtain ⟨t23,L23,rfl,hL23⟩:=Xah hL22
   clear hL22
   obtain ⟨t24,L24,rfl,hL24⟩:=Xah hL23
   clear hL23
   obtain ⟨t25,L25,rfl,hL25⟩:=Xah hL24
   clear hL24
   obtain ⟨t26,L26,rfl,hL26⟩:=Xah hL25
   clear hL25
   obtain ⟨t27,L27,rfl,hL27⟩:=Xah hL26
   clear hL26
   obtain ⟨t28,L28,rfl,hL28⟩:=Xah hL27
   clear hL27
   obtain ⟨t29,L29,rfl,hL29⟩:=Xah hL28
   clear hL28
   obtain ⟨t30,L30,rfl,hL30⟩:=Xah hL29
   clear hL29
   obtain ⟨t31,L31,rfl,hL31⟩:=Xah hL30
   clear hL30
   obtain ⟨t32,L32,rfl,hL32⟩:=Xah hL31
   clear hL31
   obtain ⟨t33,L33,rfl,hL33⟩:=Xah hL32
   clear hL32
   obtain ⟨t34,L34,rfl,hL34⟩:=Xah hL33
   clear hL33
   obtain ⟨t35,L35,rfl,hL35⟩:=Xah hL34
   clear hL34
   obtain ⟨t36,L36,rfl,hL36⟩:=Xah hL35
   clear hL35
   obtain ⟨t37,L37,rfl,hL37⟩:=Xah hL36
   clear hL36
   obtain ⟨t38,L38,rfl,hL38⟩:=Xah hL37
   clear hL37
   obtain ⟨t39,L39,rfl,hL39⟩:=Xah hL38
   clear hL38
   obtain ⟨t40,L40,rfl,hL40⟩:=Xah hL39
   clear hL39
   obtain ⟨t41,L41,rfl,hL41⟩:=Xah hL40
   clear hL40
   obtain ⟨t42,L42,rfl,hL42⟩:=Xah hL41
   clear hL41
   obtain ⟨t43,L43,rfl,hL43⟩:=Xah hL42
   clear hL42
   obtain ⟨t44,L44,rfl,hL44⟩:=Xah hL43
   clear hL43
   obtain ⟨t45,L45,rfl,hL45⟩:=Xah hL44
   clear hL44
   obtain ⟨t46,L46,rfl,hL46⟩:=Xah hL45
   clear hL45
   obtain ⟨t47,L47,rfl,hL47⟩:=Xah hL46
   clear hL46
   obtain ⟨t48,L48,rfl,hL48⟩:=Xah hL47
   clear hL47
   obtain ⟨t49,L49,rfl,hL49⟩:=Xah hL48
   clear hL48
   obtain ⟨t50,L50,rfl,hL50⟩:=Xah hL49
   clear hL49
   obtain ⟨t51,L51,rfl,hL51⟩:=Xah hL50
   clear hL50
   obtain ⟨t52,L52,rfl,hL52⟩:=Xah hL51
   clear hL51
   obtain ⟨t53,L53,rfl,hL53⟩:=Xah hL52
   clear hL52
   obtain ⟨t54,L54,rfl,hL54⟩:=Xah hL53
   clear hL53
   obtain ⟨t55,L55,rfl,hL55⟩:=Xah hL54
   clear hL54
   obtain ⟨t56,L56,rfl,hL56⟩:=Xah hL55
   clear hL55
   obtain ⟨t57,L57,rfl,hL57⟩:=Xah hL56
   clear hL56
   obtain ⟨t58,L58,rfl,hL58⟩:=Xah hL57
   clear hL57
   obtain ⟨t59,L59,rfl,hL59⟩:=Xah hL58
   clear hL58
   obtain ⟨t60,L60,rfl,hL60⟩:=Xah hL59
   clear hL59
   obtain ⟨t61,L61,rfl,hL61⟩:=Xah hL60
   clear hL60
   obtain ⟨t62,L62,rfl,hL62⟩:=Xah hL61
   clear hL61
   obtain ⟨t63,L63,rfl,hL63⟩:=Xah hL62
   clear hL62
   obtain ⟨t64,L64,rfl,hL64⟩:=Xah hL63
   clear hL63
   obtain ⟨t65,L65,rfl,hL65⟩:=Xah hL64
   clear hL64
   obtain ⟨t66,L66,rfl,hL66⟩:=Xah hL65
   clear hL65
   obtain ⟨t67,L67,rfl,hL67⟩:=Xah hL66
   clear hL66
   obtain ⟨t68,L68,rfl,hL68⟩:=Xah hL67
   clear hL67
   obtain ⟨t69,L69,rfl,hL69⟩:=Xah hL68
   clear hL68
   obtain ⟨t70,L70,rfl,hL70⟩:=Xah hL69
   clear hL69
   obtain ⟨t71,L71,rfl,hL71⟩:=Xah hL70
   clear hL70
   obtain ⟨t72,L72,rfl,hL72⟩:=Xah hL71
   clear hL71
   obtain ⟨t73,L73,rfl,hL73⟩:=Xah hL72
   clear hL72
   obtain rfl:=W0k hL73
   obtain rfl : t1=.pointer (some ⟨bx,0,none⟩):=e1
   obtain rfl : t4=.pointer (some ⟨by4,0,none⟩):=e4
   have hfin : ∀ {w' : World} {s : List UInt8},Below W.w.heap.size W.w w'→s=tx z→Ret W0 (fun x=>x=.d (.str (tx z))) (.returned (.string ⟨s.toArray⟩)) w':=fun {w' s} h e=>by
    obtain ⟨W',h1,h2⟩:=Xj4 h
    subst e
    refine ⟨W',_,_,rfl,h1,⟨h2.os.trans hfm.os,h2.out.trans hfm.out,h2.tape.trans hfm.tape,W0i hfm.size h2.size,fun b hb hx=>(h2.same b (W0r hb hfm.size) id).trans (hfm.same b hb hx),fun b hb hx i=>(h2.A b (W0r hb hfm.size) id i).trans (hfm.A b hb hx i),hfm.le.trans h2.le⟩,Xml ?_,fun _ h=>h,rfl⟩
    have:=Xnk z.natAbs
    unfold tx
    split <;> simp only [W0c,W0s,W4n] <;> omega
   clear q2 q3 q6 q7 hθ hck
   obtain ⟨w,hww⟩ : ∃ w,w=W.w:=⟨_,rfl⟩
   have hgw : ∀ {w' : World},Below w.heap.size w w'→Gb.g Tryz.prog (gw1 w'):=fun h=>Gb.mono _ _ (Yf2 (n:=w.heap.size) (by rw [←hww];exact h) (by rw [←hww];exact W0a _)) hgW
   rw [←hww] at c1 c4 hcell hb1 hb4 hb7 hfin ⊢
   clear hww hgW hzl hzs hcl hnl hll hwo hn hdx hsz h hp hl q1 q5 p1 p4 hfm
   have hz9 : zs.length*4≤140737488351232:=by omega
   have cA : ∀ o,(w.alloc o).cell? ⟨bx,0,none⟩=some (.bool (decide (z<0))):=fun o=>(World.cell?_of_block (a:=⟨bx,0,none⟩) (Below.heap_alloc w o bx hb1)).trans c1
   have c4A : ∀ o,(w.alloc o).cell? ⟨by4,0,none⟩=some (.slice (some ⟨b7,0,none⟩) zs.length cp):=fun o=>(World.cell?_of_block (a:=⟨by4,0,none⟩) (Below.heap_alloc w o by4 hb4)).trans c4
   by_cases hneg : z<0
   · simp only [decide_eq_true hneg] at cA
     gi_wp2
     refine ⟨trivial,(callsIn_wide.2 (Any.Builder_WriteByte_k Yf7 Yii w.heap.size w.heap.size [] 45 _ (.of (Lib.fresh_isBuilder _ _ w)) (by decide) (by simp))).mono ?_⟩
     rintro e wb ⟨rfl,hB,hbw,hok⟩
     have hB : Lib.IsBuilderF (rnB.t 72) (rnB.t 5) w.heap.size w.heap.size (Lib.byteCells [45]) wb:=.inr hB
     have hbw : Below w.heap.size w wb:=((Below.refl _ w).alloc (W0a _) _).trans hbw
     have hlt : w.heap.size<wb.heap.size:=by rcases hB with h | h <;> exact h.lt
     have c4b : wb.cell? ⟨by4,0,none⟩=some (.slice (some ⟨b7,0,none⟩) zs.length cp):=(hbw.cell (p:=⟨by4,0,none⟩) hb4).trans c4
     gi_wp2
     refine ⟨trivial,(Xnq Fence.wide 7 trivial rfl _ _ _ _).mono ?_⟩
     rintro e w2 ⟨rfl,hw2⟩
     have hBS : w2.heap[wb.heap.size]?=some (.cells #[.slice (some ⟨b7,0,none⟩) zs.length cp] 35 (0,0)):=by rw [hw2];exact World.alloc_heap_new wb _
     have hb2 : Below w.heap.size w w2:=by rw [hw2];exact hbw.alloc (by have:=hbw.size;omega) _
     have hB2 : Lib.IsBuilderF (rnB.t 72) (rnB.t 5) w.heap.size w.heap.size (Lib.byteCells [45]) w2:=by rw [hw2];exact hB.alloc _
     have hs2 : w2.heap.size=wb.heap.size+1:=by rw [hw2];simp
     have hcell2 : ∀ j,j<zs.length→w2.cell? ⟨b7,0+j,none⟩=some (.int .u32 ((zs[j]?.getD ⟨0,by decide⟩).1 : Int)):=fun j hj=>(hb2.cell (p:=⟨b7,0+j,none⟩) hb7).trans (hcell j hj)
     have cBS : w2.cell? ⟨wb.heap.size,0,none⟩=some (.slice (some ⟨b7,0,none⟩) zs.length cp):=by simp [World.cell?,hBS]
     obtain ⟨BS,hBSe⟩ : ∃ BS,BS=wb.heap.size:=⟨_,rfl⟩
     rw [←hBSe] at hBS hs2 cBS hlt ⊢
     clear hw2 hBSe hB hbw c4b hok
     gi_wp2
     refine wpIn_rangeFunc_ownG rfl (by decide) (gf:=132) (lb:=#[.pointer (some ⟨BS,0,none⟩)]) rfl trivial (enters_of Tryz.func132 (by kernel_rfl) rfl)
      (Xl0 Fence.wide (8 - 1) trivial rfl (by decide) BS w.heap.size b7 0 cp zs hz9 w2 (by omega) (by omega) cBS hb7 hcell2) Kq.trans (fun W l o o' hl h _ _=>Xtp W l o hl (by omega) (by omega) h o') (Below.refl _ _) (fun _=>rfl)
      (fun pre W=>(Lib.IsBuilderF (rnB.t 72) (rnB.t 5) w.heap.size w.heap.size (Lib.byteCells (o9 zs.length [45] pre)) W∧W.heap[BS]?=some (.cells #[.slice (some ⟨b7,0,none⟩) zs.length cp] 35 (0,0)))∧Below w.heap.size w W)
      (fun _ _ _=>False)
      (OwnFrom.and (Own.from (fun s A B row hs hg hr=>⟨Xtu _ _ _ _ (fun p=>Lib.byteCells (o9 zs.length [45] p)) s A B row hs.1 hg hr,Xhm hs.2 hg hr⟩) _) (ownFrom_below (W0a _) (by omega)))
      (fun _ _ _ _ _ hs _ _=>hs)
      ⟨⟨hB2,hBS⟩,hb2⟩
      (fun x=>{ tmps:=#[t0,.pointer (some ⟨bx,0,none⟩),t2,t3,.pointer (some ⟨by4,0,none⟩),t5,t6,.pointer (some ⟨w.heap.size,0,none⟩),.int .i64 (x.1 : Int),.int .u32 (x.2.1 : Int),t10,t11,t12,t13,t14,t15,t16,t17,t18,t19,t20,t21,t22,t23,t24,t25,t26,t27,t28,t29,t30,t31,t32,t33,t34,t35,t36,t37,t38,t39,t40,t41,t42,t43,t44,t45,t46,t47,t48,t49,t50,.pointer (some ⟨bx,0,none⟩),.bool true,.nilIface,.slice (some ⟨b7,0,none⟩) zs.length cp,.func (.func 132) #[] #[.pointer (some ⟨BS,0,none⟩)],.int .i64 (x.1 : Int),.int .u32 (x.2.1 : Int),t58,t59,t60,t61,t62,t63,t64,t65,t66,t67,t68,t69,t70,t71,t72,t73],defers:=[] }) ?assign ?body ?done ?stop
     case assign =>
      intro l x W K hK
      gi_wp2
      exact hK
     case stop =>
      rintro D c pre W _ _ h _
      exact h.elim
     case body =>
      rintro l pre x W ⟨⟨hBd,hBS⟩,hBl⟩ hlen
      gi_wp2
      rw [wU (by have:=x.2.2;omega)]
      refine ⟨trivial,(CallsIn.inRound l (callsIn_wide.2 (Ylj (hgw hBl) x.2))).mono ?_⟩
      rintro e W1 ⟨rfl,hW1⟩
      have h9 : W9 w.heap.size BS w2.heap.size (.slice (some ⟨b7,0,none⟩) zs.length cp) w W (o9 zs.length [45] pre) W1:=W9.below ⟨hBd,hBS,hBl,KeepsFrom.refl _ _,Kq.refl _ _ _⟩ hBl.size hW1
      have c41 : W1.cell? ⟨by4,0,none⟩=some (.slice (some ⟨b7,0,none⟩) zs.length cp):=(h9.l.cell (p:=⟨by4,0,none⟩) hb4).trans c4
      have hxl:=Yj3 x.2
      have hol:=Xs0 zs.length pre [45]
      have hos:=Xmz zs.length [45] pre x
      have hsgl : ([45] : List UInt8).length≤1:=by decide
      have hpl : pre.length<549755813888:=by omega
      obtain ⟨ds,hds⟩ : ∃ ds,ds=dec x.2.1:=⟨_,rfl⟩
      rw [←hds] at hxl hos ⊢
      have hBn : BS≠w.heap.size:=by omega
      clear hds hBd hBS hW1
      gi_wp2
      · rename_i hx
        refine ⟨trivial,(CallsIn.inRound l (callsIn_wide.2 (Ykz (hgw h9.l) (n:=9 - ds.length) (by omega) (by omega)))).mono ?_⟩
        rintro e W2 ⟨rfl,hW2⟩
        have h9b:=h9.below h9.l.size hW2
        obtain ⟨zr,hzr⟩ : ∃ zr,zr=List.replicate (9 - ds.length) (48 : UInt8):=⟨_,rfl⟩
        have hzrl : zr.length≤9:=by rw [hzr,W1y];omega
        rw [←hzr]
        rw [if_pos (by omega),←hzr] at hos
        clear hzr
        gi_wp2
        refine ⟨trivial,(CallsIn.inRound l (callsIn_wide.2 (h9b.wr zr h9b.l.size hBn (by omega)))).mono ?_⟩
        rintro e W3 ⟨rfl,h9c⟩
        gi_wp2
        refine ⟨trivial,(CallsIn.inRound l (callsIn_wide.2 (h9c.wr ds h9c.l.size hBn (by simp only [W0c];omega)))).mono ?_⟩
        rintro e W4 ⟨rfl,h9d⟩
        gi_wp2
        exact ⟨h9d.k,h9d.q,⟨by rw [hos];exact h9d.b,h9d.s⟩,h9d.l⟩
      · rename_i hx
        rw [if_neg (by omega),W3i] at hos
        refine ⟨trivial,(CallsIn.inRound l (callsIn_wide.2 (h9.wr ds h9.l.size hBn (by omega)))).mono ?_⟩
        rintro e W4 ⟨rfl,h9d⟩
        gi_wp2
        exact ⟨h9d.k,h9d.q,⟨by rw [hos];exact h9d.b,h9d.s⟩,h9d.l⟩
     case done =>
      rintro D ys W hD rfl ⟨⟨hBd,hBS⟩,hBl⟩ hK
      gi_wp2
      have hne : o9 zs.length [45] (b9 zs zs.length)=tx z:=by
       rw [Ybs _ _ _ (W0a _),W2w,W1f,htx]
       unfold tx
       rw [if_pos hneg]
      rw [hne] at hBd
      have hn0 : tx z≠[]:=by
       unfold tx
       intro h
       exact Xuw _ (List.append_eq_nil_iff.1 h).2
      refine ⟨trivial,(callsIn_wide.2 (Any.Builder_String_k Xzx Yii w.heap.size w.heap.size (tx z) W hBd hn0)).mono ?_⟩
      rintro e W3 ⟨rfl,_,hb3,hok3⟩
      have hK3:=hok3 D _ hK (by intro h;cases h;have:=hBl.size;omega) (by intro c fz h;cases h)
      gi_wp2
      refine ⟨by simp,.inl ⟨_,_,rfl,run_takeDeferred hK3,?_⟩⟩
      refine ⟨_,results_tmp rfl _ _ _,?_⟩
      refine hfin (s:=tx z) ?_ rfl
      exact (hBl.trans hb3).trans (belowK_b (w:=w) (W0a _) W3 D _ _ (by omega) hK3 rfl rfl)
   · simp only [decide_eq_false hneg] at cA
     gi_wp2
     obtain ⟨wb,hwb⟩ : ∃ wb,wb=w.alloc (.cells #[.pointer none,.slice none 0 0] 102):=⟨_,rfl⟩
     have hB : Lib.IsBuilderF (rnB.t 72) (rnB.t 5) w.heap.size w.heap.size (Lib.byteCells []) wb:=by rw [hwb];exact .of (Lib.fresh_isBuilder _ _ w)
     have hbw : Below w.heap.size w wb:=by rw [hwb];exact (Below.refl _ w).alloc (W0a _) _
     have hlt : w.heap.size<wb.heap.size:=by rcases hB with h | h <;> exact h.lt
     rw [←hwb]
     clear hwb
     refine ⟨trivial,(Xnq Fence.wide 7 trivial rfl _ _ _ _).mono ?_⟩
     rintro e w2 ⟨rfl,hw2⟩
     have hBS : w2.heap[wb.heap.size]?=some (.cells #[.slice (some ⟨b7,0,none⟩) zs.length cp] 35 (0,0)):=by rw [hw2];exact World.alloc_heap_new wb _
     have hb2 : Below w.heap.size w w2:=by rw [hw2];exact hbw.alloc (by have:=hbw.size;omega) _
     have hB2 : Lib.IsBuilderF (rnB.t 72) (rnB.t 5) w.heap.size w.heap.size (Lib.byteCells []) w2:=by rw [hw2];exact hB.alloc _
     have hs2 : w2.heap.size=wb.heap.size+1:=by rw [hw2];simp
     have hcell2 : ∀ j,j<zs.length→w2.cell? ⟨b7,0+j,none⟩=some (.int .u32 ((zs[j]?.getD ⟨0,by decide⟩).1 : Int)):=fun j hj=>(hb2.cell (p:=⟨b7,0+j,none⟩) hb7).trans (hcell j hj)
     have cBS : w2.cell? ⟨wb.heap.size,0,none⟩=some (.slice (some ⟨b7,0,none⟩) zs.length cp):=by simp [World.cell?,hBS]
     obtain ⟨BS,hBSe⟩ : ∃ BS,BS=wb.heap.size:=⟨_,rfl⟩
     rw [←hBSe] at hBS hs2 cBS hlt ⊢
     clear hw2 hBSe hB hbw
     gi_wp2
     refine wpIn_rangeFunc_ownG rfl (by decide) (gf:=132) (lb:=#[.pointer (some ⟨BS,0,none⟩)]) rfl trivial (enters_of Tryz.func132 (by kernel_rfl) rfl)
      (Xl0 Fence.wide (8 - 1) trivial rfl (by decide) BS w.heap.size b7 0 cp zs hz9 w2 (by omega) (by omega) cBS hb7 hcell2) Kq.trans (fun W l o o' hl h _ _=>Xtp W l o hl (by omega) (by omega) h o') (Below.refl _ _) (fun _=>rfl)
      (fun pre W=>(Lib.IsBuilderF (rnB.t 72) (rnB.t 5) w.heap.size w.heap.size (Lib.byteCells (o9 zs.length [] pre)) W∧W.heap[BS]?=some (.cells #[.slice (some ⟨b7,0,none⟩) zs.length cp] 35 (0,0)))∧Below w.heap.size w W)
      (fun _ _ _=>False)
      (OwnFrom.and (Own.from (fun s A B row hs hg hr=>⟨Xtu _ _ _ _ (fun p=>Lib.byteCells (o9 zs.length [] p)) s A B row hs.1 hg hr,Xhm hs.2 hg hr⟩) _) (ownFrom_below (W0a _) (by omega)))
      (fun _ _ _ _ _ hs _ _=>hs)
      ⟨⟨hB2,hBS⟩,hb2⟩
      (fun x=>{ tmps:=#[t0,.pointer (some ⟨bx,0,none⟩),t2,t3,.pointer (some ⟨by4,0,none⟩),t5,t6,.pointer (some ⟨w.heap.size,0,none⟩),.int .i64 (x.1 : Int),.int .u32 (x.2.1 : Int),t10,t11,t12,t13,t14,t15,t16,t17,t18,t19,t20,t21,t22,t23,t24,t25,t26,t27,t28,t29,t30,t31,t32,t33,t34,t35,t36,t37,t38,t39,t40,t41,t42,t43,t44,t45,t46,t47,t48,t49,t50,.pointer (some ⟨bx,0,none⟩),.bool false,t53,.slice (some ⟨b7,0,none⟩) zs.length cp,.func (.func 132) #[] #[.pointer (some ⟨BS,0,none⟩)],.int .i64 (x.1 : Int),.int .u32 (x.2.1 : Int),t58,t59,t60,t61,t62,t63,t64,t65,t66,t67,t68,t69,t70,t71,t72,t73],defers:=[] }) ?assign ?body ?done ?stop
     case assign =>
      intro l x W K hK
      gi_wp2
      exact hK
     case stop =>
      rintro D c pre W _ _ h _
      exact h.elim
     case body =>
      rintro l pre x W ⟨⟨hBd,hBS⟩,hBl⟩ hlen
      gi_wp2
      rw [wU (by have:=x.2.2;omega)]
      refine ⟨trivial,(CallsIn.inRound l (callsIn_wide.2 (Ylj (hgw hBl) x.2))).mono ?_⟩
      rintro e W1 ⟨rfl,hW1⟩
      have h9 : W9 w.heap.size BS w2.heap.size (.slice (some ⟨b7,0,none⟩) zs.length cp) w W (o9 zs.length [] pre) W1:=W9.below ⟨hBd,hBS,hBl,KeepsFrom.refl _ _,Kq.refl _ _ _⟩ hBl.size hW1
      have c41 : W1.cell? ⟨by4,0,none⟩=some (.slice (some ⟨b7,0,none⟩) zs.length cp):=(h9.l.cell (p:=⟨by4,0,none⟩) hb4).trans c4
      have hxl:=Yj3 x.2
      have hol:=Xs0 zs.length pre []
      have hos:=Xmz zs.length [] pre x
      have hsgl : ([] : List UInt8).length≤1:=by decide
      have hpl : pre.length<549755813888:=by omega
      obtain ⟨ds,hds⟩ : ∃ ds,ds=dec x.2.1:=⟨_,rfl⟩
      rw [←hds] at hxl hos ⊢
      have hBn : BS≠w.heap.size:=by omega
      clear hds hBd hBS hW1
      gi_wp2
      · rename_i hx
        refine ⟨trivial,(CallsIn.inRound l (callsIn_wide.2 (Ykz (hgw h9.l) (n:=9 - ds.length) (by omega) (by omega)))).mono ?_⟩
        rintro e W2 ⟨rfl,hW2⟩
        have h9b:=h9.below h9.l.size hW2
        obtain ⟨zr,hzr⟩ : ∃ zr,zr=List.replicate (9 - ds.length) (48 : UInt8):=⟨_,rfl⟩
        have hzrl : zr.length≤9:=by rw [hzr,W1y];omega
        rw [←hzr]
        rw [if_pos (by omega),←hzr] at hos
        clear hzr
        gi_wp2
        refine ⟨trivial,(CallsIn.inRound l (callsIn_wide.2 (h9b.wr zr h9b.l.size hBn (by omega)))).mono ?_⟩
        rintro e W3 ⟨rfl,h9c⟩
        gi_wp2
        refine ⟨trivial,(CallsIn.inRound l (callsIn_wide.2 (h9c.wr ds h9c.l.size hBn (by simp only [W0c];omega)))).mono ?_⟩
        rintro e W4 ⟨rfl,h9d⟩
        gi_wp2
        exact ⟨h9d.k,h9d.q,⟨by rw [hos];exact h9d.b,h9d.s⟩,h9d.l⟩
      · rename_i hx
        rw [if_neg (by omega),W3i] at hos
        refine ⟨trivial,(CallsIn.inRound l (callsIn_wide.2 (h9.wr ds h9.l.size hBn (by omega)))).mono ?_⟩
        rintro e W4 ⟨rfl,h9d⟩
        gi_wp2
        exact ⟨h9d.k,h9d.q,⟨by rw [hos];exact h9d.b,h9d.s⟩,h9d.l⟩
     case done =>
      rintro D ys W hD rfl ⟨⟨hBd,hBS⟩,hBl⟩ hK
      gi_wp2
      have hne : o9 zs.length [] (b9 zs zs.length)=tx z:=by
       rw [Ybs _ _ _ (W0a _),W2w,W1f,htx]
       unfold tx
       rw [if_neg (by omega)]
      rw [hne] at hBd
      have hn0 : tx z≠[]:=by
       unfold tx
       intro h
       exact Xuw _ (List.append_eq_nil_iff.1 h).2
      refine ⟨trivial,(callsIn_wide.2 (Any.Builder_String_k Xzx Yii w.heap.size w.heap.size (tx z) W hBd hn0)).mono ?_⟩
      rintro e W3 ⟨rfl,_,hb3,hok3⟩
      have hK3:=hok3 D _ hK (by intro h;cases h;have:=hBl.size;omega) (by intro c fz h;cases h)
      gi_wp2
      refine ⟨by simp,.inl ⟨_,_,rfl,run_takeDeferred hK3,?_⟩⟩
      refine ⟨_,results_tmp rfl _ _ _,?_⟩
      refine hfin (s:=tx z) ?_ rfl
      exact (hBl.trans hb3).trans (belowK_b (w:=w) (W0a _) W3 D _ _ (by omega) hK3 rfl rfl)
theorem Xqq {z : Int} (hl : (dig z.natAbs).length≤274877906944) : C0 34 [.d (dz z)] (·=.d (.str (tx z))):=by
 by_cases hz : z=0
 · subst hz
   have : tx 0=[48]:=by unfold tx;rw [if_neg (by decide),show Int.natAbs 0=0 from rfl,Xdl (by decide)];rfl
   rw [this];exact Xny
 · exact Xq3 hz hl
end
end Go.Proofs.YtclmecgphleeeaaGreatDoor
namespace Go.Proofs.YtclmecgphleeeaaGreatDoor.P11
open Go Go.Vm Go.Num Go.Tow Go.Proofs.YtclmecgphleeeaaGreatDoor Go.Proofs.YtclmecgphleeeaaGreatDoor.P9 Go.Proofs.YtclmecgphleeeaaGreatDoor.R11
section
def Yd0 (z : Int) (d : Nat) : AV:=if (txt z d).length≤400 then .tup (.pr (.d (.str (txt z d))) (.d (.int .i64 0))) else .tup (.pr (.d (.str [])) (.d (.int .i64 3)))
abbrev Xh7 (x : Nm) (d : Nat) (z : Int) : Prop:=Xbl x.k x.t (scl x.k x.t x.a ((10 ^ d : Int) : Rat) hf) z
theorem dcT {p : Prop} (h : p) : dc p=true:=Xaw.2 h
theorem dcF {p : Prop} (h : ¬ p) : dc p=false:=W6k.2 fun e=>h (Xaw.1 e)
theorem Yg6 {z : Int} (hl : (dig z.natAbs).length≤274877906944) : C0 33 [.d (.str (tx z)),.d (.str [45])] (·=.tup (.pr (.d (.str (dec z.natAbs))) (.b (dc (z<0))))):=by
 have hlen:=Xnk z.natAbs
 have hT : Tx (tx z):=by
  by_cases h : z<0
  · rw [Xrh h];show (45::dec z.natAbs).length<_;rw [W0s];omega
  · rw [Xrg h];show (dec z.natAbs).length<_;omega
 have h:=Xdy (s:=tx z) (t:=[45]) hT (by decide)
 by_cases hz : z<0
 · have e : (tx z).take [(45 : UInt8)].length=[45]:=by rw [Xrh hz];rfl
   rw [if_pos e,show (tx z).drop [(45 : UInt8)].length=dec z.natAbs by rw [Xrh hz];rfl] at h
   exact h.mono fun v hv=>by rw [hv,dcT e,dcT hz]
 · have e : ¬ (tx z).take [(45 : UInt8)].length=[45]:=fun e=>by
    rw [Xrg hz] at e
    have hm : (45 : UInt8)∈dec z.natAbs:=W4r (by rw [e];exact W0g.2 rfl)
    have:=(Yg3 z.natAbs 45 hm).1
    exact absurd this (by decide)
   exact h.mono fun v hv=>by rw [hv,if_neg e,dcF e,dcF hz,Xrg hz]
theorem Xmb {x : Nm} {d : Nat} (H : Pk x) (hd : d≤60) : C0 13 [.d (dN x),.d (.int .i64 d)] fun v=>∃ z,Xh7 x d z∧(dig z.natAbs).length≤274877906944∧v=Yd0 z d:=by
 refine En Tryz.func13 fun _ _ _=>?_
 refine Ca rfl (Round_ok H hd) fun v hv=>?_
 obtain ⟨z,rfl,hz,hl⟩:=hv
 have hlen:=Xnk z.natAbs
 have hpl:=Ybm d (dec z.natAbs)
 have hdp:=Xuu z.natAbs
 obtain ⟨s,hs⟩ : ∃ s,s=dec z.natAbs:=⟨_,rfl⟩
 rw [←hs] at hlen hpl hdp
 have hct:=Yg6 hl
 rw [←hs] at hct
 refine No rfl (by decide) ?_
 refine Ce rfl (Xqq hl) ?_
 refine Ce rfl hct ?_
 obtain ⟨q,hq⟩ : ∃ q,q=pad d s:=⟨_,rfl⟩
 have hql : q.length=max (d+1) s.length:=by rw [hq,hpl]
 obtain ⟨r,hr⟩ : ∃ r,r=pt d q:=⟨_,rfl⟩
 have hrl : r.length≤q.length+1:=by
  rw [hr,pt];split
  · omega
  · rw [W0c,W0s,W0j,W1p];omega
 have htx : txt z d=(if z<0 then [45] else [])++r:=by rw [txt,hr,hq,hs]
 refine Cu none (fun (_ : Unit)=>[(1,.d (.int .i64 d)),(8,.d (.str q)),(9,.b (dc (z<0)))]) (fun _=>[]) (fun _=>True) rfl ?_ fun _ _=>?_
 · refine By rfl (fun h=>?_) fun h=>?_
   · have h : ((s.length : Nat) : Int)≤d:=h
     refine Ar (d+1 : Nat) rfl ?_
     refine Ar (d+1 - s.length : Nat) rfl ?_
     refine Ce rfl (Xiz (by omega)) ?_
     refine Sc q rfl (by rw [hq];rfl) (by rw [W1y];omega) ?_
     exact Jn () [] rfl trivial
   · have h : ¬ ((s.length : Nat) : Int)≤d:=h
     have e : q=s:=by rw [hq,pad,show d+1 - s.length=0 by omega];rfl
     rw [e]
     exact Jn () [] rfl trivial
 refine Cu none (fun (_ : Unit)=>[(1,.d (.int .i64 d)),(8,.d (.str r)),(9,.b (dc (z<0)))]) (fun _=>[]) (fun _=>True) rfl ?_ fun _ _=>?_
 · refine By rfl (fun h=>?_) fun h=>?_
   · refine Dw rfl ?_
     refine Ar ((q.length - d : Nat) : Int) rfl ?_
     refine Stk (q.length - d) _ rfl (by omega) rfl ?_
     refine Sc (q.take (q.length - d)++[46]) rfl rfl (by simp;omega) ?_
     refine Ar ((q.length - d : Nat) : Int) rfl ?_
     refine Sdp (q.length - d) _ rfl (by omega) rfl ?_
     refine Sc r rfl (by rw [hr,pt,if_neg (by omega)];simp) (by simp;omega) ?_
     exact Jn () [] rfl trivial
   · have e : r=q:=by rw [hr,pt,if_pos (by omega)]
     rw [e]
     exact Jn () [] rfl trivial
 refine Cu none (fun (_ : Unit)=>[(8,.d (.str (txt z d)))]) (fun _=>[]) (fun _=>True) rfl ?_ fun _ _=>?_
 · refine By rfl (fun h=>?_) fun h=>?_
   · refine Sc (txt z d) rfl (by rw [htx,if_pos h]) (by show 1+r.length<_;omega) ?_
     exact Jn () [] rfl trivial
   · rw [htx,if_neg h]
     exact Jn () [] rfl trivial
 refine By rfl (fun h=>?_) fun h=>?_
 · exact Rt rfl (.tup (.cons (.rf rfl) Xdo)) ⟨z,hz,hl,by rw [Yd0,if_neg (by omega)]⟩
 · exact Rt rfl (.tup (.cons (.rf rfl) Xdo)) ⟨z,hz,hl,by rw [Yd0,if_pos (by omega)]⟩
def shT (s : List UInt8) : List UInt8:=let t:=trR 48 s;if 1≤t.length∧t.drop (t.length - 1)=[46] then t.take (t.length - 1) else t
def Ydv (z : Int) (d : Nat) : AV:=if (txt z d).length≤400 then .tup (.pr (.d (.str (if d=0 then txt z d else shT (txt z d)))) (.d (.int .i64 0))) else .tup (.pr (.d (.str [])) (.d (.int .i64 3)))
theorem Yap {c : UInt8} {s : List UInt8} : (trR c s).length≤s.length:=by
 obtain ⟨n,h⟩ : ∃ n,s=trR c s++List.replicate n c:=by
  refine Xez (p:=fun s=>∃ n,s=trR c s++List.replicate n c) ⟨0,rfl⟩ (fun l b ⟨n,h⟩=>?_) s
  rw [Xi6];split
  · rename_i e;exact ⟨n+1,by rw [W5z,←W3y,←h,e]⟩
  · exact ⟨0,by simp⟩
 have:=congrArg List.length h
 rw [W0c] at this
 omega
theorem Xyf {x : Nm} {d : Nat} (H : Pk x) (hd : d≤60) : C0 15 [.d (dN x),.d (.int .i64 d)] fun v=>∃ z,Xh7 x d z∧(dig z.natAbs).length≤274877906944∧v=Ydv z d:=by
 refine En Tryz.func15 fun _ _ _=>?_
 refine Ca rfl (Xmb H hd) fun v hv=>?_
 obtain ⟨z,hz,hzl,rfl⟩:=hv
 by_cases h : (txt z d).length≤400
 · rw [Yd0,if_pos h]
   have e : Ydv z d=.tup (.pr (.d (.str (if d=0 then txt z d else shT (txt z d)))) (.d (.int .i64 0))):=by rw [Ydv,if_pos h]
   refine No rfl (by decide) ?_
   by_cases h0 : d=0
   · rw [if_pos h0] at e
     refine Yes rfl (by omega) ?_
     exact Rt rfl (.tup (.cons (.rf rfl) Xdo)) ⟨z,hz,hzl,e.symm⟩
   · rw [if_neg h0] at e
     have hl:=Yap (c:=48) (s:=txt z d)
     refine No rfl (by omega) ?_
     refine Ce rfl (Xkl (b:=48) (show (txt z d).length<_ by omega) (by decide)) ?_
     refine Ce rfl (Xkk (t:=[46]) (show (trR 48 (txt z d)).length<_ by omega) (by decide)) ?_
     exact Rt rfl (.tup (.cons (.rf rfl) Xdo)) ⟨z,hz,hzl,by rw [e];rfl⟩
 · rw [Yd0,if_neg h]
   have e : Ydv z d=.tup (.pr (.d (.str [])) (.d (.int .i64 3))):=by rw [Ydv,if_neg h]
   refine Yes rfl (by decide) ?_
   exact Rt rfl (.tup (.cons (.rf rfl) Xdo)) ⟨z,hz,hzl,e.symm⟩
end
section
def pP (s : List UInt8) (v : AV) : Prop:=match prs s with
 | none=>∃ m : Int,v=.tup (.pr (.d (dz 0)) (.pr (.d (.int .i64 m)) (.b false)))
 | some (ng,a,b)=>v=.tup (.pr (.d (dz (frI ng a b))) (.pr (.d (.int .i64 b.length)) (.b true)))
theorem Ybn {s : List UInt8} {v : AV} (h : prs s=none) : pP s v↔∃ m : Int,v=.tup (.pr (.d (dz 0)) (.pr (.d (.int .i64 m)) (.b false))):=by unfold pP;rw [h]
theorem Xo4 {s a b : List UInt8} {ng : Bool} {v : AV} (h : prs s=some (ng,a,b)) : pP s v↔v=.tup (.pr (.d (dz (frI ng a b))) (.pr (.d (.int .i64 b.length)) (.b true))):=by unfold pP;rw [h]
theorem Ymm {s : List UInt8} (hs : Tx s) : ∃ ng q,s=sgB ng++q∧(ng=false→s.head?≠some 45)∧C0 33 [.d (.str s),.d (.str [45])] (·=.tup (.pr (.d (.str q)) (.b ng))):=by
 have h:=Xdy (s:=s) (t:=[45]) hs (by decide)
 by_cases e : s.take [(45 : UInt8)].length=[45]
 · refine ⟨true,s.drop 1,?_,nofun,h.mono fun v hv=>by rw [hv,if_pos e,dcT e];rfl⟩
   have:=W3z 1 s
   rw [show s.take 1=[45] from e] at this
   exact this.symm
 · refine ⟨false,s,rfl,fun _ hh=>e ?_,h.mono fun v hv=>by rw [hv,if_neg e,dcF e]⟩
   cases s with
   | nil=>cases hh
   | cons x t=>cases hh;rfl
theorem Yml {s q : List UInt8} {ng : Bool} (hl : s.length≤400) (hs : s=sgB ng++q) (hn : ng=false→s.head?≠some 45) : ∃ u t pt,u.length+t.length≤400∧C0 85 [.d (.str q),.d (.str [46])] (·=.tup (.pr (.d (.str u)) (.pr (.d (.str t)) (.b pt)))) ∧
 prs s=if u=[]∨(pt=true∧t=[])∨(1<u.length∧u.head?=some 48)∨(u++t).all isD=false then none else if ng && z0 (u++t) then none else some (ng,u,t):=by
 have hql : q.length≤400:=by have:=congrArg List.length hs;rw [W0c] at this;omega
 rcases Yb6 46 q with h | ⟨u,t,rfl,h⟩
 · refine ⟨q,[],false,by simpa using hql,Yh1 (b:=46) (by show q.length<_;omega) h,?_⟩
   rw [Yfe hl hs hn h,W3i]
   simp only [Bool.false_eq_true,false_and,false_or]
 · refine ⟨u,t,true,by rw [W0c,W0s] at hql;omega,Yh2 (by show _<_;omega) h,?_⟩
   rw [Yfd hl hs hn h]
   simp only [true_and]
theorem Xyx {c : UInt8} : ∀ l : List UInt8,∃ n,l=List.replicate n c++trL c l
 | []=>⟨0,rfl⟩
 | x::l=>by
  unfold trL
  rw [W3v]
  by_cases h : x=c
  · obtain ⟨n,hn⟩:=Xyx (c:=c) l
    rw [if_pos (by rw [h];exact beq_self_eq_true c)]
    exact ⟨n+1,by rw [W4m,W3t,h];congr 1⟩
  · rw [if_neg (by simpa using h)]
    exact ⟨0,rfl⟩
theorem Ycy (l : List UInt8) (n : Nat) : Xcc (List.replicate n 48++l)=Xcc l:=by
 rw [Xj9,Xuj (by unfold z0;simp),W4v,W1i]
theorem Yef {l y : List UInt8} (hd : ∀ b∈l,Xh5 b) (hy : y=trL 48 l) (h0 : y≠[]) : ∃ b r,y=b::r∧48<b.toNat:=by
 cases y with
 | nil=>exact absurd rfl h0
 | cons b r =>
  refine ⟨b,r,rfl,?_⟩
  have h1:=W7c (· == (48 : UInt8)) l
  unfold trL at hy
  rw [←hy] at h1
  have h1 : ¬ b=48:=by simpa using h1
  have hb : b∈l:=(List.dropWhile_sublist _).subset (by rw [←hy];exact W0q ..)
  have:=(hd b hb).1
  have h2 : b.toNat≠48:=fun e=>h1 (UInt8.toNat_inj.1 e)
  omega
theorem Xz3 {m : Int} {g : Hp} {K : Hpl} : FitT g K (.pr (AV.st (.pr (.b false) .nil)) (.pr (.d (.int .i64 m)) (.b false))) (.pr (.d (dz 0)) (.pr (.d (.int .i64 m)) (.b false))):=by
 rw [dz0];exact .cons (.sd (.pd (.bd rfl) (.nil rfl))) (.cons (.rf rfl) (.one (.rf rfl) (fun _ _ e=>by cases e) (fun _ _ e=>by cases e)))
theorem Xww {s : List UInt8} (hs : Tx s) : C0 40 [.d (.str s)] (pP s):=by
 obtain ⟨ng,q,hq,hn,hc⟩:=Ymm hs
 by_cases hl : s.length≤400
 · obtain ⟨u,t,pt,hut,hk,hp⟩:=Yml hl hq hn
   have hTx : Tx (u++t):=by show (u++t).length<_;rw [W0c];omega
   have htr:=Trim_ok hTx
   obtain ⟨w,hw⟩ : ∃ w,w=(Xn5 Yd1.contains (u++t)).dropWhile Yd1.contains:=⟨_,rfl⟩
   have hwn : w=[]↔(u++t).all isD=true:=by rw [hw,Xv3,Xxv]
   rw [←hw] at htr
   refine En Tryz.func40 fun _ _ _=>?_
   refine No rfl (by omega) ?_
   refine Ce rfl hc ?_
   refine Ce rfl hk ?_
   let fl : Prop:=u=[]∨(pt=true∧t=[])∨(1<u.length∧u.head?=some 48)∨(u++t).all isD=false
   refine Cu (some 5) (fun (c : Bool)=>[(2,.ptr 2 0),(6,.b ng),(7,.d (.str u)),(8,.d (.str t)),(53,.b c)]) (fun _=>[(2,.var (.st (.pr (.b false) .nil)))]) (fun c=>c=true↔fl) rfl ?_ fun c hcf=>?_
   · refine By rfl (fun h=>?_) fun hu=>?_
     · exact Jn true [] rfl ⟨fun _=>.inl h,fun _=>rfl⟩
     have ulen : 0<u.length:=W5k.2 hu
     have last : (¬ (pt=true∧t=[]))→(¬ (1<u.length∧u.head?=some 48))→(w≠[]↔fl):=fun h1 h2=>by
      show _↔(_∨_∨_∨_)
      simp only [hu,h1,h2,false_or,hwn,ne_eq,Bool.not_eq_true]
     have fin2 : ∀ b,u[0]?=some b→((b.toNat : Int)=48↔u.head?=some 48):=fun b hb=>by
      rw [List.head?_eq_getElem?,hb]
      constructor
      · intro e;rw [show b=48 from UInt8.toNat_inj.1 (by show b.toNat=48;omega)]
      · intro e;injection e with e;rw [e];rfl
     have hu0 : u[0]?=some (u[0]):=W0d ulen
     have hsc : (u++t).length<9223372036854775808:=by rw [W0c];omega
     have hsl : u.length+t.length<9223372036854775808:=by omega
     refine By rfl (fun hpt=>By rfl (fun h=>Jn true [] rfl ⟨fun _=>.inr (.inl ⟨hpt,h⟩),fun _=>rfl⟩) fun ht=>?_) fun hpt=>?_
     · have hA : ¬ (pt=true∧t=[]):=fun h=>ht h.2
       refine By rfl (fun h1=>Yx 0 _ rfl hu0 (By rfl (fun h48=>Jn true [] rfl ⟨fun _=>.inr (.inr (.inl ⟨by omega,(fin2 _ hu0).1 h48⟩)),fun _=>rfl⟩) fun h48=>?_)) fun h1=>?_
       · refine Sc (u++t) rfl rfl hsl ?_
         refine Ce rfl htr ?_
         exact Jn (dc (w≠[])) [] rfl (Xaw.trans (last hA fun h=>h48 ((fin2 _ hu0).2 h.2)))
       · refine Sc (u++t) rfl rfl hsl ?_
         refine Ce rfl htr ?_
         exact Jn (dc (w≠[])) [] rfl (Xaw.trans (last hA fun h=>by omega))
     · have hA : ¬ (pt=true∧t=[]):=fun h=>hpt h.1
       refine By rfl (fun h1=>Yx 0 _ rfl hu0 (By rfl (fun h48=>Jn true [] rfl ⟨fun _=>.inr (.inr (.inl ⟨by omega,(fin2 _ hu0).1 h48⟩)),fun _=>rfl⟩) fun h48=>?_)) fun h1=>?_
       · refine Sc (u++t) rfl rfl hsl ?_
         refine Ce rfl htr ?_
         exact Jn (dc (w≠[])) [] rfl (Xaw.trans (last hA fun h=>h48 ((fin2 _ hu0).2 h.2)))
       · refine Sc (u++t) rfl rfl hsl ?_
         refine Ce rfl htr ?_
         exact Jn (dc (w≠[])) [] rfl (Xaw.trans (last hA fun h=>by omega))
   · refine By rfl (fun h=>?_) fun h=>?_
     · exact Rt rfl (.tup Xz3) ((Ybn (by rw [hp,if_pos (hcf.1 h)])).2 ⟨0,rfl⟩)
     · have hf : ¬ fl:=fun e=>h (hcf.2 e)
       have hp' : prs s=if ng && z0 (u++t) then none else some (ng,u,t):=by rw [hp,if_neg hf]
       have hall : (u++t).all isD=true:=by
        cases e : (u++t).all isD with
        | true=>rfl
        | false=>exact absurd (.inr (.inr (.inr e))) hf
       have hdg : ∀ b∈u++t,Xh5 b:=Ylo.1 hall
       have hTL:=Xl7 (s:=u++t) (b:=48) hTx (by decide)
       obtain ⟨y,hy⟩ : ∃ y,y=trL 48 (u++t):=⟨_,rfl⟩
       have hz0 : y=[]↔z0 (u++t)=true:=by rw [hy];exact Yis _
       rw [←hy] at hTL
       refine Sc (u++t) rfl rfl (by omega) ?_
       refine Ce rfl hTL ?_
       refine By rfl (fun hy0=>?_) fun hy0=>?_
       · have hz:=hz0.1 hy0
         refine Ce rfl (FromInt_ok (z:=0) (by decide)) ?_
         cases ng with
         | true =>
          rw [hz] at hp'
          exact Rt rfl (.tup (.cons (.rf rfl) (.cons (.rf rfl) (.one (.rf rfl) (fun _ _ e=>by cases e) (fun _ _ e=>by cases e))))) ((Ybn (by rw [hp'];rfl)).2 ⟨t.length,rfl⟩)
         | false =>
          exact Rt rfl (.tup (.cons (.rf rfl) (.cons (.rf rfl) (.one (.rf rfl) (fun _ _ e=>by cases e) (fun _ _ e=>by cases e))))) ((Xo4 (by rw [hp'];rfl)).2 (by rw [frI,Xuj hz];rfl))
       · have hz : z0 (u++t)=false:=by cases e : z0 (u++t) with | true=>exact absurd (hz0.2 e) hy0 | false=>rfl
         have hyp : prs s=some (ng,u,t):=by rw [hp',hz,Bool.and_false];rfl
         obtain ⟨n,hyn⟩:=Xyx (u++t)
         rw [←hy] at hyn
         have hyd : ∀ b∈y,Xh5 b:=fun b hb=>hdg b (by rw [hyn];exact W1l _ hb)
         have hyl : y.length≤400:=by have:=congrArg List.length hyn;rw [W0c,W0c] at this;omega
         have hyv : Xcc y=Xcc (u++t):=by rw [hyn,Ycy]
         have hdl:=Xkc hyd
         refine Ce rfl (Xyg hyd (by omega) (Yef hdg hy hy0)) ?_
         rw [hyv] at hdl ⊢
         refine By rfl (fun hng=>?_) fun hng=>?_
         · refine Ce rfl (Neg_ok (by rw [W1j];omega)) ?_
           exact Rt rfl (.tup (.cons (.rf rfl) (.cons (.rf rfl) (.one (.rf rfl) (fun _ _ e=>by cases e) (fun _ _ e=>by cases e))))) ((Xo4 hyp).2 (by rw [frI,if_pos hng,dcT (p:=(0 : Int)=0) rfl];rfl))
         · exact Rt rfl (.tup (.cons (.rf rfl) (.cons (.rf rfl) (.one (.rf rfl) (fun _ _ e=>by cases e) (fun _ _ e=>by cases e))))) ((Xo4 hyp).2 (by rw [frI,if_neg hng,dcT (p:=(0 : Int)=0) rfl];rfl))
 · have hp : prs s=none:=by unfold prs;rw [if_pos (by omega)]
   refine En Tryz.func40 fun _ _ _=>?_
   refine Yes rfl (by omega) ?_
   exact Rt rfl (.tup Xz3) ((Ybn hp).2 ⟨0,rfl⟩)
theorem Ygm {s a b : List UInt8} {ng : Bool} (h : prs s=some (ng,a,b)) : Zs 1601 (frI ng a b)∧b.length≤400:=by
 obtain ⟨h1,h2,h3,h4,h5⟩:=Xwp h
 have hl : a.length+b.length≤400:=by
  have:=congrArg List.length h2
  rw [W0c,W0c] at this
  have : b.length≤(ptB b).length:=by unfold ptB;split <;> simp_all
  omega
 have hd : ∀ x∈a++b,Xh5 x:=Ylo.1 (by rw [W6g,h4,h5];rfl)
 have hv:=Xht hd
 rw [W0c] at hv
 have:=Qn hv hl
 refine ⟨?_,by omega⟩
 have hz : Zs 1601 ((Xcc (a++b) : Nat) : Int):=this.n
 unfold frI
 unfold Zs at *
 split
 · rw [W4s];exact hz
 · exact hz
end
section
def loQ (ng : Bool) (a b : List UInt8) : Rat:=fr ng a b - hf / ((10 ^ b.length : Int) : Rat)
def hiQ (ng : Bool) (a b : List UInt8) : Rat:=fr ng a b+hf / ((10 ^ b.length : Int) : Rat)
theorem Yim {k : Nat} (hk : k≤3) : vB 300 k (15000+4000+4)≤4398046511104∧vB 300 k 300≤4398046511104:=by
 have h : k=0∨k=1∨k=2∨k=3:=by omega
 rcases h with rfl | rfl | rfl | rfl <;> decide +kernel
theorem Yc4 {x : Nm} (hk : x.k≤3) (hr : Xbm x.k x.t) (hx : TS 300 x.k x.t) (hp : Sz 15000 (toL x.k x.a)) {q : Rat} (hq : Qs 4000 q) :
 ∃ c : Int,(C0 47 [.d (dN (nq q)),.d (dN x)] (·=.tup (.pr (.d (.int .i64 c)) (.d (.int .i64 0)))))∧(c≤0↔le x.k x.t (rat x.k q) x.a):=by
 refine ⟨_,Yko hr hx hp hq (by omega) (by decide) (by decide) (by decide) (Yim hk).1 (Yim hk).2,?_⟩
 unfold le
 have hs:=(Xat hr).sn (add x.k (rat x.k q) (neg x.k x.a))
 have L:=Xa3 x.k x.t
 rw [L.nd,L.nn,L.ac] at hs
 rw [hs];omega
theorem Xx1 {x : Nm} (hk : x.k≤3) (hr : Xbm x.k x.t) (hx : TS 300 x.k x.t) (hp : Sz 15000 (toL x.k x.a)) {q : Rat} (hq : Qs 4000 q) :
 ∃ c : Int,(C0 47 [.d (dN x),.d (dN (nq q))] (·=.tup (.pr (.d (.int .i64 c)) (.d (.int .i64 0)))))∧(c≤0↔le x.k x.t x.a (rat x.k q)):=by
 refine ⟨_,Ykm hr hx hp hq (by omega) (by decide) (by decide) (by decide) (Yim hk).1 (Yim hk).2,?_⟩
 unfold le
 have hs:=(Xat hr).sn (add x.k x.a (neg x.k (rat x.k q)))
 have L:=Xa3 x.k x.t
 rw [L.nd,L.nn,L.ac] at hs
 rw [hs];omega
theorem Ych {n : Int} (h : Zs 1601 n) : Qs 4000 ((n : Rat) - hf)∧Qs 4000 ((n : Rat)+hf):=by
 have h1 : Qs 1601 (n : Rat):=Qs.int h (by decide)
 exact ⟨by rw [W7a];exact (h1.add Xxc.neg).mono (by decide),(h1.add Xxc).mono (by decide)⟩
theorem Xja (n : Nat) : (0 : Rat)<((10 ^ n : Int) : Rat):=by
 have : (0 : Int)<10 ^ n:=W7g (by decide)
 exact Rat.intCast_pos.2 this
theorem Yaw {n : Nat} (h : n≤400) : Qs 1601 ((10 ^ n : Int) : Rat):=Qs.int ((p10 n).mono (by omega)) (by decide)
theorem Yek {x : Nm} (H : Pk x) {u : Rat} (hu : Qs 1601 u) : Sz 15000 (toL x.k (mul x.k x.t x.a (rat x.k u))):=by
 rcases H.ml with hl | ⟨h0,hl⟩
 · refine (Sz.all (Xe3 (t:=x.t) hl hu)).mono ?_
   rw [Xab]
   have hp : 2 ^ x.k≤2 ^ 3:=W0h (by decide) H.k
   omega
 · refine (Sz.all (Xe3 (t:=x.t) hl hu)).mono ?_
   rw [Xab,h0]
   decide
theorem Xq1 {x : Nm} {s a b : List UInt8} {ng : Bool} (H : Pk x) (hs : Tx s) (h : prs s=some (ng,a,b)) : C0 16 [.d (dN x),.d (.str s)] (·=.b (dc (inI x.k x.t x.a (loQ ng a b) (hiQ ng a b)))):=by
 obtain ⟨hz,hb⟩:=Ygm h
 obtain ⟨n,hn⟩ : ∃ n,n=frI ng a b:=⟨_,rfl⟩
 have hu:=Yaw hb
 have hsz:=Yek H hu
 obtain ⟨hq1,hq2⟩:=Ych hz
 obtain ⟨c,hc,hci⟩:=Yc4 (x:=⟨x.k,x.t,mul x.k x.t x.a (rat x.k ((10 ^ b.length : Int) : Rat))⟩) H.k H.re H.t hsz hq1
 obtain ⟨d,hd,hdi⟩:=Xx1 (x:=⟨x.k,x.t,mul x.k x.t x.a (rat x.k ((10 ^ b.length : Int) : Rat))⟩) H.k H.re H.t hsz hq2
 have hin : inI x.k x.t x.a (loQ ng a b) (hiQ ng a b)↔c≤0∧d≤0:=by
  have h0:=Yej b.length
  rw [hci,hdi]
  have e1 : loQ ng a b*((10 ^ b.length : Int) : Rat)=((frI ng a b : Int) : Rat) - hf:=by rw [loQ,Xz0];grind
  have e2 : hiQ ng a b*((10 ^ b.length : Int) : Rat)=((frI ng a b : Int) : Rat)+hf:=by rw [hiQ,Xz0];grind
  show _∧_↔_
  rw [Xw4 H.re (Xja _) e1,Xxf H.re (Xja _) e2]
 obtain ⟨b1,b2,b3,b4,b5⟩:=bnds H.k
 have hk:=H.k
 refine En Tryz.func16 fun _ _ _=>?_
 refine Ca rfl (Xww hs) fun v hv=>?_
 obtain rfl:=(Xo4 h).1 hv
 refine No rfl (by decide) ?_
 refine Dw rfl ?_
 refine Ce rfl (Xo1 (by omega)) ?_
 refine Ce rfl (Xi0 hz (by decide) (by decide)) ?_
 refine Dw rfl ?_
 refine Ce rfl (Xi0 hu.n (by decide) (by decide)) ?_
 refine Ce rfl (P9.FromRat_ok hu (by decide)) ?_
 refine Ce rfl (Yhw H.t H.sz hu (by omega) (by decide) (by decide) (by decide) b5) ?_
 refine No rfl (by decide) ?_
 refine Ce rfl (Xoy (a:=1) (b:=2) (by decide) (by decide)) ?_
 refine Dw rfl ?_
 refine Ce rfl (Xso (Qs.int hz (by decide)) Xxc (by decide)) ?_
 refine Ce rfl (P9.FromRat_ok hq1 (by decide)) ?_
 refine Ce rfl (Xdf (Qs.int hz (by decide)) Xxc (by decide)) ?_
 refine Ce rfl (P9.FromRat_ok hq2 (by decide)) ?_
 refine Ce rfl hc ?_
 refine Ce rfl hd ?_
 refine Yes rfl (by decide) ?_
 refine Yes rfl (by decide) ?_
 refine By rfl (fun h1=>?_) fun h1=>?_
 · exact R1 rfl (.bp (by rw [Xaw,hin];exact ⟨fun h=>⟨h1,h⟩,fun h=>h.2⟩))
 · exact R1 rfl (.bp (by rw [hin];exact ⟨nofun,fun h=>absurd h.1 h1⟩))
end
end Go.Proofs.YtclmecgphleeeaaGreatDoor.P11
namespace Go.Proofs.YtclmecgphleeeaaGreatDoor.R3
open Go Go.Vm Go.Num Go.Tow Go.Proofs.YtclmecgphleeeaaGreatDoor
end Go.Proofs.YtclmecgphleeeaaGreatDoor.R3
namespace Go.Proofs.YtclmecgphleeeaaGreatDoor.R7
open Go Go.Vm Go.Num Go.Tow Go.Proofs.YtclmecgphleeeaaGreatDoor
end Go.Proofs.YtclmecgphleeeaaGreatDoor.R7
namespace Go.Vm
open Go
end Go.Vm
namespace Go.Proofs.YtclmecgphleeeaaGreatDoor.R11
open Go Go.Vm Go.Num Go.Tow Go.Proofs.YtclmecgphleeeaaGreatDoor Go.Proofs.YtclmecgphleeeaaGreatDoor.P11
theorem Ylt : Qs 2 ((0 : Int) : Rat):=Qs.int (z:=0) (show Int.natAbs 0<2 ^ 2 by decide) (by decide)
end Go.Proofs.YtclmecgphleeeaaGreatDoor.R11
namespace Go.Tow
open Go Go.Num Go.Proofs.YtclmecgphleeeaaGreatDoor
variable {K : Nat} {G : Tw K} {S : List (El K)} {N : List Nm} {n m : Nat} {x y z : Nm} {v w : El K} {r p : Nat}
end Go.Tow
namespace Go.Proofs.YtclmecgphleeeaaGreatDoor
open Go Go.Vm Go.Num Go.Tow
end Go.Proofs.YtclmecgphleeeaaGreatDoor
namespace Go.Tow
open Go
end Go.Tow
namespace Go.Proofs.YtclmecgphleeeaaGreatDoor
open Go Go.Vm Go.Num Go.Tow
structure Vn where
 x : Nm
 y : Nm
abbrev n00 : Nm:=⟨0,(),((0 : Int) : Rat)⟩
def IsB (r : AV) : Prop:=∃ c : Bool,r=.b c
section
variable {K : Nat} {G : Tw K} {S : List (Tow.El K)} {N : List Nm} {n m : Nat} {x y z : Nm} {a b v w : Tow.El K} {u s : Vn}
theorem R9.Light_ok {x : Nm} (hk : x.k≤16) : C0 12 [.d (dN x)] IsB:=by
 obtain ⟨k,t,a⟩:=x
 have hk : k≤16:=hk
 have hp:=p16 hk
 have hcl:=Xab k a
 have hTl:=Xaa k t
 refine En Tryz.func12 fun _ _ _=>?_
 refine Lo (fun i : Nat=>[(1,.ptr 1 0),(3,.d (.int .i64 i))]) (fun _=>[(1,.var (.d (dN ⟨k,t,a⟩)))]) (fun i=>i≤2 ^ k) (fun i=>2 ^ k - i) 0 [] rfl (W1d _) fun i hi=>?_
 refine By rfl (fun h=>?_) fun h=>?_
 · have h : (i : Int)<(((toL k a).map dq).length : Nat):=h
   rw [lq,hcl] at h
   obtain ⟨x,hx⟩:=qat (l:=toL k a) (k:=i) (by omega)
   refine Ix i rfl (mp hx) ?_
   refine By rfl (fun h1=>?_) fun h1=>?_
   · exact Rt rfl (.one (.rf rfl) rfl rfl) ⟨_,rfl⟩
   · refine Ix i rfl (mp hx) ?_
     refine By rfl (fun h2=>?_) fun h2=>?_
     · exact Rt rfl (.one (.rf rfl) rfl rfl) ⟨_,rfl⟩
     · refine Ar (i+1 : Nat) rfl ?_
       exact Bk (i+1) [] rfl (show i+1≤2 ^ k by omega) (by show 2 ^ k - (i+1)<2 ^ k - i;omega)
 refine Lo (fun i : Nat=>[(1,.ptr 1 0),(4,.d (.int .i64 i))]) (fun _=>[(1,.var (.d (dN ⟨k,t,a⟩)))]) (fun i=>i≤k) (fun i=>k - i) 0 [] rfl (W1d _) fun i hi=>?_
 refine By rfl (fun h=>?_) fun h=>?_
 · have h : (i : Int)<(((toT k t).map dqs).length : Nat):=h
   rw [lt',hTl] at h
   obtain ⟨l,hl⟩ : ∃ l,(toT k t)[i]?=some l:=⟨_,W0d (by omega)⟩
   obtain ⟨e,e1,_,_⟩:=Tw.at (t:=t) (show i<k by omega)
   obtain rfl : l=toL i e:=by rw [hl] at e1;injection e1
   have hll:=Xab i e
   have hpi:=p16 (show i≤16 by omega)
   refine Lo (fun j : Nat=>[(1,.ptr 1 0),(4,.d (.int .i64 i)),(5,.d (.int .i64 j))]) (fun _=>[(1,.var (.d (dN ⟨k,t,a⟩)))]) (fun j=>j≤2 ^ i) (fun j=>2 ^ i - j) 0 [] rfl (W1d _) fun j hj=>?_
   refine Ix i rfl (mp hl) ?_
   refine By rfl (fun h1=>?_) fun h1=>?_
   · have h1 : (j : Int)<(((toL i e).map dq).length : Nat):=h1
     rw [lq,hll] at h1
     obtain ⟨x,hx⟩:=qat (l:=toL i e) (k:=j) (by omega)
     refine Ix i rfl (mp hl) ?_
     refine Ix j rfl (mp hx) ?_
     refine By rfl (fun h1=>?_) fun h1=>?_
     · exact Rt rfl (.one (.rf rfl) rfl rfl) ⟨_,rfl⟩
     · refine Ix i rfl (mp hl) ?_
       refine Ix j rfl (mp hx) ?_
       refine By rfl (fun h2=>?_) fun h2=>?_
       · exact Rt rfl (.one (.rf rfl) rfl rfl) ⟨_,rfl⟩
       · refine Ar (j+1 : Nat) rfl ?_
         exact Bk (j+1) [] rfl (show j+1≤2 ^ i by omega) (by show 2 ^ i - (j+1)<2 ^ i - j;omega)
   · refine Ar (i+1 : Nat) rfl ?_
     exact Bk (i+1) [] rfl (show i+1≤k by omega) (by show k - (i+1)<k - i;omega)
 · exact Rt rfl (.one (.rf rfl) rfl rfl) ⟨_,rfl⟩
theorem R9.At_ok {l : List Nm} {i : Nat} (hi : i<256) (hn : l.length≤1000) : C0 10 [.d (dNs l),.d (.int .i64 i)] fun v=>∃ z∈n00::l,v=.d (dN z):=by
 refine En Tryz.func10 fun _ _ _=>?_
 refine By rfl (fun h=>?_) fun h=>?_ <;> simp only [W0n] at h
 · refine Ce rfl (R9.FromInt_ok (z:=0) (by decide)) ?_
   exact Rt rfl (.one (.rf rfl) rfl rfl) ⟨_,W0q ..,rfl⟩
 · refine No rfl (by omega) ?_
   obtain ⟨z,hz⟩ : ∃ z,l[i % l.length]?=some z:=⟨_,W0d (W1r _ (by omega))⟩
   refine Ar (i % l.length : Nat) rfl ?_ (by rw [W0n];exact R9.remN (by omega))
   refine Ix (i % l.length) rfl (mp hz) ?_
   exact Rt rfl (.one (.rf rfl) rfl rfl) ⟨z,W0z _ (W0l hz),rfl⟩
end
end Go.Proofs.YtclmecgphleeeaaGreatDoor
namespace Go.Proofs.YtclmecgphleeeaaGreatDoor.P11
open Go Go.Vm Go.Num Go.Tow Go.Proofs.YtclmecgphleeeaaGreatDoor Go.Proofs.YtclmecgphleeeaaGreatDoor.P9 Go.Proofs.YtclmecgphleeeaaGreatDoor.R11 Go.Proofs.YtclmecgphleeeaaGreatDoor.R9
section
theorem Xzv : ∀ {k : Nat} {t : Tw k},(∀ l∈toT k t,∀ q∈l,Qs 64 q)→MgT 64 k t
 | 0,_,_=>trivial
 | k+1,t,h=>⟨Xzv fun l hl=>h l (W2f _ hl),h _ (W1l _ (W0g.2 rfl))⟩
theorem Yhv {K : Nat} {G : Tw K} {S : List (El K)} {z : Nm} {v : El K} (hG : red K G) (hS : S.length≤3) (hq : Xvn G S 300 600) (hz : NOk G S 300 600 z v) (hs : shN z) : Pk z:=by
 obtain ⟨ρ,h1,_⟩:=hz.ex
 exact ⟨hz.le (Xag hG) hS,Xag h1.r,hz.r,Xzv fun l hl q hq=>(hs.2 l hl q hq).qs,.inl fun q hq=>(hs.1 q hq).qs⟩
theorem Ykt {K : Nat} {G : Tw K} {S : List (El K)} {ρ : Nat→El K} : TOk G S 0 () ρ:=⟨trivial,trivial,fun i h=>absurd h (W5h i)⟩
theorem Xvp {q : Rat} {n : Nat} (hq : Qs n q) (hn : n≤1700) : Pk ⟨0,(),q⟩ :=
 ⟨W1d _,trivial,trivial,trivial,.inr ⟨rfl,fun x hx=>by obtain rfl:=W0g.1 hx;exact hq.mono hn⟩⟩
theorem Xyv : ¬ Xej 0 () (2 : Rat):=fun ⟨w,h⟩=>by
 obtain ⟨_,h2,_⟩:=(Xry (q:=2)).1 ⟨w,h⟩
 have h2 : rt 2*rt 2=2:=h2
 generalize rt 2=n at h2
 have : n=0∨n=1∨2≤n:=by omega
 rcases this with rfl | rfl | h
 · cases h2
 · cases h2
 · have:=W2a h h
   omega
abbrev two : Nm:=⟨0,(),(2 : Rat)⟩
structure Rt2 (x : Nm) : Prop where
 p : Pk x
 s : mul x.k x.t x.a x.a=rat x.k 2
 n : 0≤sgn x.k x.t x.a
theorem Yh4 {x y : Nm} : C0 10 [.d (dNs [y,x]),.d (.int .i64 1)] (·=.d (dN x)):=by
 refine En Tryz.func10 fun _ _ _=>?_
 refine No rfl (show ¬ ((2 : Nat) : Int)=0 by decide) ?_
 refine No rfl (by decide) ?_
 refine Ar (1 : Nat) rfl ?_ (show arB .rem .i64 1 2 1 from ⟨by decide,by decide⟩)
 refine Ix 1 rfl rfl ?_
 exact R0
def aw0 : RO:=⟨0,0,0,2,0,by decide⟩
def aw1 : RO:=⟨5,0,0,0,0,by decide⟩
theorem Xgc {q : Rat} (h1 : q.num.natAbs≤4) (h2 : q.den≤4) : sh q:=⟨Xan (W1m h1 (by decide)),Xan (W1m h2 (by decide))⟩
theorem sh2 : shN two:=⟨fun x hx=>by obtain rfl:=W0g.1 hx;exact Xgc (by decide) (by decide),fun l hl=>nomatch hl⟩
theorem Ylf {K : Nat} (G : Tw K) (S : List (El K)) : NOk G S 300 600 two (rat K 2):=⟨⟨fun _=>zero _,Ykt,rfl⟩,trivial,Xwe (n:=1) sh2.1 (W0a _) (by decide)⟩
abbrev rt2 : Nm:=⟨0+1,tsn () (2 : Rat),Xcg (0+1) 0⟩
theorem Yky : shN rt2:=⟨fun x hx=>by
 have hx : x∈[(0 : Rat),1]:=hx
 rcases W1o.1 hx with rfl | hx
 · exact Xgc (by decide) (by decide)
 · obtain rfl:=W0g.1 hx;exact Xgc (by decide) (by decide),fun l hl x hx=>by
 obtain rfl : l=[(2 : Rat)]:=W0g.1 hl
 obtain rfl:=W0g.1 hx;exact Xgc (by decide) (by decide)⟩
theorem Ye5 {K : Nat} {G : Tw K} {S : List (El K)} {z : Nm} {v : El K} (hG : red K G) (hS : S.length≤3) (hq : Xvn G S 300 600) (h0 : NOk G S wR (oW 1000000) rt2 v) (hz : NOk G S 300 600 z v) (hs : shN z) : Rt2 z:=by
 have hGr:=Xag hG
 obtain ⟨ρ,h1,h2⟩:=h0.ex
 obtain ⟨σ,k1,k2⟩:=hz.ex
 have e1 : mul K G v v=rat K 2:=by
  rw [←h2,←Xbd h1.h,show mul rt2.k rt2.t rt2.a rt2.a=rat rt2.k 2 from Xkz (k:=0) (t:=tsn () (2 : Rat)),Xck]
 refine ⟨Yhv hG hS hq hz hs,Xc6 hGr k1.h k1.r ?_,?_⟩
 · rw [Xbd k1.h,k2,e1,Xck]
 · rw [←hz.sgn hGr,h0.sgn hGr]
   rw [show sgn rt2.k rt2.t rt2.a=1 from Xmq (k:=0) (t:=tsn () (2 : Rat)) trivial]
   decide
theorem Xym : C0 11 [.d (dRs [aw0,aw1])] fun v=>∃ x y : Nm,v=.d (dNs [y,x])∧Rt2 x:=by
 obtain ⟨b1,b2,b3,b4,b5,b6,b7,b8,b9,b10,b11,b12⟩:=R9.bnds
 have sq0 : Xvn (K:=0) () [] 300 600:=fun g hg=>(by cases hg)
 have hfr : C0 14 [.d (.int .i64 2),.d (.int .i64 1)] (·=.d (dN two)):=by
  have h:=R9.Frac_ok (a:=2) (b:=1) (by decide) (by decide) (by decide)
  rw [Xni] at h
  exact h
 refine En Tryz.func11 fun _ _ _=>?_
 refine Nl 3 3 2 rfl ?_
 refine Lo (fun (s : Nat × Nat × List Nm)=>[(0,.d (dRs [aw0,aw1])),(3,.gr 3 2 (s.2.2.map dN)),(4,.d (.int .i64 s.2.1)),(5,.d (.int .i64 s.1))]) (fun s=>[(3,.tok (s.2.2.map dN).length 2)]) (fun s=>(s.1=0∧s.2.1=0∧s.2.2=[])∨(s.1=1∧s.2.1=0∧∃ y,s.2.2=[y]∧y=two)∨(s.1=2∧∃ x y,s.2.2=[y,x]∧Rt2 x)) (fun s=>2 - s.1) (0,0,[]) [] rfl (.inl ⟨rfl,rfl,rfl⟩) (fun (i,n,l) hI=>?_)
 simp only at hI
 rcases hI with ⟨rfl,rfl,rfl⟩ | ⟨rfl,rfl,y,rfl,rfl⟩ | ⟨rfl,x,y,rfl,hx⟩
 · refine Yes rfl (show ((0 : Nat) : Int)<((2 : Nat) : Int) by decide) ?_
   refine Yes rfl (by decide) ?_
   refine Ix 0 rfl (u:=dO aw0) rfl ?_
   refine Go.Vm.Cv 2 rfl ?_ (wI (by decide))
   refine Ar (0 : Nat) rfl ?_ (R9.remN (a:=0) (m:=8) (by decide))
   refine Go.Vm.Cv (0 : Nat) rfl ?_ (wI (by decide))
   refine Ar (1 : Nat) rfl ?_
   refine Ce rfl hfr ?_
   refine No rfl (show ¬ ((0 : Nat) : Int) > 0 by decide) ?_
   refine No rfl (show ¬ ((0 : Nat) : Int) > 0 by decide) ?_
   refine Ca rfl (R9.Trim_ok (K:=0) (G:=()) (S:=[]) sh2 trivial (W1d _) (Ylf (K:=0) () []) (by decide) (by decide)) fun v hv=>?_
   obtain ⟨z,rfl,hz,ht⟩:=hv
   have hz2 : z=two:=by
    obtain ⟨ρ,h1,h2⟩:=hz.ex
    have hk : z.k≤0:=h1.le (K:=0) (G:=()) trivial
    obtain ⟨k,t,a⟩:=z
    obtain rfl : k=0:=by have hk : k≤0:=hk;omega
    have h2 : a=(2 : Rat):=h2
    rw [h2];rfl
   subst hz2
   refine ApG ([two].map dN) rfl rfl (show 1≤1099511627776 by decide) ?_
   refine Ar (1 : Nat) rfl ?_
   exact Bk (1,0,[two]) [(157,3)] rfl (.inr (.inl ⟨rfl,rfl,two,rfl,rfl⟩)) (by decide)
 · refine Yes rfl (show ((1 : Nat) : Int)<((2 : Nat) : Int) by decide) ?_
   refine Yes rfl (by decide) ?_
   refine Ix 1 rfl (u:=dO aw1) rfl ?_
   refine Go.Vm.Cv 0 rfl ?_ (wI (by decide))
   refine Ar (0 : Nat) rfl ?_ (R9.remN (a:=0) (m:=8) (by decide))
   refine Go.Vm.Cv (0 : Nat) rfl ?_ (wI (by decide))
   refine Ar (1 : Nat) rfl ?_
   refine Ce rfl (R9.Frac_ok (a:=0) (b:=1) (by decide) (by decide) (by decide)) ?_
   refine Yes rfl (show ((1 : Nat) : Int) > 0 by decide) ?_
   refine Ar (5 : Nat) rfl ?_ (R9.remN (a:=5) (m:=6) (by decide))
   refine Yes rfl (by decide) ?_
   have hrm : arB .rem .i64 0 ((1 : Nat) : Int) (0 : Nat):=R9.remN (a:=0) (m:=1) (by decide)
   have hn2 : NOk (K:=0) () [] 300 600 two (rat 0 2):=Ylf (K:=0) () []
   have hs2 : sgn 0 () (rat 0 2)=1:=Xbs (show (0 : Rat)<2 by decide)
   refine Dz rfl ?_
   refine Go.Vm.Cv (0 : Nat) rfl ?_ (wI (by decide))
   refine Ar (0 : Nat) rfl ?_ hrm
   refine Ix 0 rfl (u:=dN two) rfl ?_
   refine Go.Vm.Cv (0 : Nat) rfl ?_ (wI (by decide))
   refine Ar (0 : Nat) rfl ?_ hrm
   refine Ix 0 rfl (u:=dN two) rfl ?_
   refine Ar (5 : Nat) rfl ?_ (R9.remN (a:=5) (m:=6) (by decide))
   refine No rfl (by decide) ?_
   refine No rfl (by decide) ?_
   refine No rfl (by decide) ?_
   refine No rfl (by decide) ?_
   refine Ce rfl (R9.Sign_ok (K:=0) (G:=()) (S:=[]) trivial hn2 (by decide) (by decide +kernel)) ?_
   refine No rfl (by rw [hs2];decide) ?_
   refine Yes rfl (by decide) ?_
   refine Ar (1 : Nat) rfl ?_ (show arB .add .i64 0 1 1 from wr rfl (by simp only [inK];decide))
   refine Ca rfl (R9.Sqrt_ok (x:=two) (r:=300) (p:=600) trivial trivial hn2.p (by rw [show sgn two.k two.t two.a=1 from hs2];decide) (by decide) (by decide +kernel) (by decide +kernel) (by decide +kernel) (by decide +kernel)) fun v hv=>?_
   obtain ⟨z,rfl,hz⟩:=hv
   have hzr : z=rt2:=by
    rcases hz with ⟨w,_,h1,_⟩ | ⟨h,_,_⟩
    · exact absurd ⟨w,h1⟩ Xyv
    · exact h
   subst hzr
   refine Ce rfl (R9.made_ok (x:=rt2) (y:=two)) ?_
   refine Yes rfl (show ((1 : Nat) : Int) > 0 by decide) ?_
   refine Ce rfl (R9.long_ok (x:=rt2) (by decide)) ?_
   refine No rfl (fun h=>h Yky) ?_
   obtain ⟨K,G,S,hG,hS,hq,hall,v,hv⟩:=Xid (l:=[]) (n:=0) (K:=0) (G:=()) (S:=[]) (ρ:=fun _=>zero 0) (k:=0) (t:=()) (a:=(2 : Rat)) (r:=wR) (p:=oW 1000000) trivial (W0a _) sq0 (fun y hy=>nomatch hy) Ykt trivial hn2.p (by rw [show sgn 0 () (2 : Rat)=1 from hs2];decide) Xyv ⟨trivial,hn2.p.mono (by decide)⟩ ((Xmt 0).mono (by decide))
   have hS3 : S.length≤3:=W0i hS (by decide)
   refine Ca rfl (R9.Trim_ok Yky hG hS3 (Yky.ok hv (by decide)) (by decide) (by decide)) fun w hw=>?_
   obtain ⟨z',rfl,hz',ht'⟩:=hw
   refine ApG ([two,z'].map dN) rfl rfl (show 2≤1099511627776 by decide) ?_
   refine Ar (2 : Nat) rfl ?_
   exact Bk (2,1,[two,z']) [(157,3)] rfl (.inr (.inr ⟨rfl,z',two,rfl,Ye5 hG hS3 hq hv hz' ht'.2⟩)) (show 2 - 2<2 - 1 by decide)
 · refine No rfl (show ¬ ((2 : Nat) : Int)<((2 : Nat) : Int) by decide) ?_
   exact Rt rfl (.one (.gr rfl) rfl rfl) ⟨x,y,rfl,hx⟩
end
section
section
variable {k : Nat} {t : Tw k} {a : El k}
theorem Xr5 (hR : Xbm k t) {u h w c : Rat} (hu : 0<u) (hc : c*u+h=w) : sgn k t (add k (scl k t a u h) (neg k (rat k w)))=sgn k t (add k a (neg k (rat k c))):=by
 have L:=Xa3 k t
 have e : add k (scl k t a u h) (neg k (rat k w))=mul k t (add k a (neg k (rat k c))) (rat k u):=by
  rw [←hc,Xde,Xbx k t,L.dm,L.nm,L.nd]
  show add k (add k (mul k t a (rat k u)) (rat k h)) (add k _ (neg k (rat k h)))=_
  rw [L.aa,L.alc (rat k h),L.an,L.az]
 rw [e,Xe1 hR hu]
theorem sg2 (hR : Xbm k t) (h2 : mul k t a a=rat k 2) (h0 : 0≤sgn k t a) {c : Rat} (hc : 0<c) : sgn k t (add k a (neg k (rat k c)))=Xg0 (2 - c*c):=by
 have L:=Xa3 k t
 have S:=Xat hR
 have e : mul k t (add k a (neg k (rat k c))) (add k (rat k c) a)=rat k (2 - c*c):=by
  rw [W7a,Xde,Xei,Xbx k t,←h2]
  have L:=Xa3 k t
  exact (Laws.req L [a,(rat k c)] (.mul (.add (.v 0) (.neg (.v 1))) (.add (.v 1) (.v 0))) (.add (.mul (.v 0) (.v 0)) (.neg (.mul (.v 1) (.v 1)))) (by decide +kernel))
 have e1 : sgn k t (add k (rat k c) a)=1:=S.sp _ _ (by rw [Xcw hR,Xbs hc]) h0
 have:=S.sm (add k a (neg k (rat k c))) (add k (rat k c) a)
 rw [e,e1,W4u,Xcw hR] at this
 exact this.symm
end
theorem Rt2.flo {x : Nm} (H : Rt2 x) {u h c d : Rat} {z : Int} (hu : 0<u) (hc : 0<c) (hd : 0<d) (h1 : c*u+h=(z : Rat)) (h2 : d*u+h=((z+1 : Int) : Rat)) (hl : 0≤Xg0 (2 - c*c)) (hh : Xg0 (2 - d*d)=-1) : Xbl x.k x.t (scl x.k x.t x.a u h) z:=by
 refine ⟨?_,?_⟩
 · unfold le;rw [Xr5 H.p.re hu h1,sg2 H.p.re H.s H.n hc];exact hl
 · rw [Xr5 H.p.re hu h2,sg2 H.p.re H.s H.n hd];exact hh
theorem Rt2.in {x : Nm} (H : Rt2 x) {c d : Rat} (hc : 0<c) (hd : 0<d) (hl : 0≤Xg0 (2 - c*c)) (hh : Xg0 (2 - d*d)≤0) : inI x.k x.t x.a c d:=by
 have L:=Xa3 x.k x.t
 refine ⟨?_,?_⟩
 · unfold le;rw [sg2 H.p.re H.s H.n hc];exact hl
 · have hs:=(Xat H.p.re).sn (add x.k x.a (neg x.k (rat x.k d)))
   rw [L.nd,L.nn,L.ac,sg2 H.p.re H.s H.n hd] at hs
   unfold le;rw [hs];omega
theorem Xpp {x : Nm} {d : Nat} {z : Int} {s : List UInt8} (H : Pk x) (hd : d≤60) (hz : Xh7 x d z) (ht : txt z d=s) (hs : s.length≤400) : C0 13 [.d (dN x),.d (.int .i64 d)] (·=.tup (.pr (.d (.str s)) (.d (.int .i64 0)))) :=
 (Xmb H hd).mono fun v ⟨w,hw,_,hv⟩=>by
  obtain rfl:=Xbl.uniq H.re hw hz
  subst ht
  rw [hv,Yd0,if_pos hs]
theorem Yeu {x : Nm} {d : Nat} {z : Int} {s : List UInt8} (H : Pk x) (hd : d≤60) (hz : Xh7 x d z) (ht : txt z d=s) (hs : s.length≤400) (h0 : d≠0) : C0 15 [.d (dN x),.d (.int .i64 d)] (·=.tup (.pr (.d (.str (shT s))) (.d (.int .i64 0)))) :=
 (Xyf H hd).mono fun v ⟨w,hw,_,hv⟩=>by
  obtain rfl:=Xbl.uniq H.re hw hz
  subst ht
  rw [hv,Ydv,if_pos hs,if_neg h0]
theorem Xkq {d : Nat} (l : List UInt8) (hl : l.length=d+1) (hd : ∀ b∈l,Xh5 b) : txt (Xcc l : Nat) d=pt d l:=by
 unfold txt
 rw [if_neg (by omega),W1j,Yc2 d l hl hd];rfl
theorem Xoq {q : Rat} {d : Nat} {z : Int} (h1 : 0≤Xg0 (q*((10 ^ d : Int) : Rat)+hf+-(z : Rat))) (h2 : Xg0 (q*((10 ^ d : Int) : Rat)+hf+-((z+1 : Int) : Rat))=-1) : Xh7 ⟨0,(),q⟩ d z:=⟨h1,h2⟩
theorem Xgm : C0 5 [] (·=.b true):=by
 have dg : ∀ l : List UInt8,l.all isD=true→∀ b∈l,Xh5 b:=fun l h=>Ylo.1 h
 have q1 : Pk ⟨0,(),Rat.divInt (-1) 2⟩:=Xvp (n:=2) ⟨show (Rat.divInt (-1) 2).num.natAbs<2 ^ 2 by decide,show ((Rat.divInt (-1) 2).den : Int).natAbs<2 ^ 2 by decide⟩ (by decide)
 have q2 : Pk ⟨0,(),Rat.divInt 5 4⟩:=Xvp (n:=3) ⟨show (Rat.divInt 5 4).num.natAbs<2 ^ 3 by decide,show ((Rat.divInt 5 4).den : Int).natAbs<2 ^ 3 by decide⟩ (by decide)
 have f2:=Xpp (d:=0) (z:=0) (s:=[48]) q1 (by decide) (Xoq (by decide +kernel) (by decide +kernel)) (Xkq [48] rfl (dg _ rfl)) (by decide)
 have f3:=Xpp (d:=1) (z:=13) (s:=[49,46,51]) q2 (by decide) (Xoq (by decide +kernel) (by decide +kernel)) (Xkq [49,51] rfl (dg _ rfl)) (by decide)
 have f4:=Xpp (d:=4) (z:=12500) (s:=[49,46,50,53,48,48]) q2 (by decide) (Xoq (by decide +kernel) (by decide +kernel)) (Xkq [49,50,53,48,48] rfl (dg _ rfl)) (by decide)
 have f5:=Yeu (d:=4) (z:=12500) (s:=[49,46,50,53,48,48]) q2 (by decide) (Xoq (by decide +kernel) (by decide +kernel)) (Xkq [49,50,53,48,48] rfl (dg _ rfl)) (by decide) (by decide)
 rw [show shT [49,46,50,53,48,48]=[49,46,50,53] by decide] at f5
 refine En Tryz.func5 fun _ _ _=>?_
 refine Ca rfl Xym fun v hv=>?_
 obtain ⟨x,y,rfl,hx⟩:=hv
 have f1:=Xpp (d:=3) (z:=1414) (s:=[49,46,52,49,52]) hx.p (by decide) (hx.flo (c:=2827 / 2000) (d:=2829 / 2000) (Xja 3) (by decide +kernel) (by decide +kernel) (by decide +kernel) (by decide +kernel) (by decide +kernel) (by decide +kernel)) (Xkq [49,52,49,52] rfl (dg _ rfl)) (by decide)
 have hin : inI x.k x.t x.a (loQ false [49] [52]) (hiQ false [49] [52]):=by
  rw [show loQ false [49] [52]=27 / 20 by decide +kernel,show hiQ false [49] [52]=29 / 20 by decide +kernel]
  exact hx.in (by decide +kernel) (by decide +kernel) (by decide +kernel) (by decide +kernel)
 have hw:=Xq1 (s:=[49,46,52]) (a:=[49]) (b:=[52]) (ng:=false) hx.p (by decide) (by decide)
 refine Ce rfl Yh4 ?_
 refine Ce rfl f1 ?_
 refine Ce rfl (R9.Frac_ok (a:=-1) (b:=2) (by decide) (by decide) (by decide)) ?_
 refine Ce rfl f2 ?_
 refine Ce rfl (R9.Frac_ok (a:=5) (b:=4) (by decide) (by decide) (by decide)) ?_
 refine Ce rfl f3 ?_
 refine Ce rfl (R9.Frac_ok (a:=5) (b:=4) (by decide) (by decide) (by decide)) ?_
 refine Ce rfl f4 ?_
 refine Ce rfl (R9.Frac_ok (a:=5) (b:=4) (by decide) (by decide) (by decide)) ?_
 refine Ce rfl f5 ?_
 refine Yes rfl rfl ?_
 refine Yes rfl (by decide) ?_
 refine Yes rfl rfl ?_
 refine Yes rfl (by decide) ?_
 refine Yes rfl rfl ?_
 refine Yes rfl (by decide) ?_
 refine Yes rfl rfl ?_
 refine Yes rfl (by decide) ?_
 refine Yes rfl rfl ?_
 refine Yes rfl (by decide) ?_
 refine Ce rfl hw ?_
 exact Rt rfl (.one (.rf rfl) rfl rfl) (by rw [dcT hin])
end
section
end
section
end
end Go.Proofs.YtclmecgphleeeaaGreatDoor.P11

/- part 7 -/
import Derived.Test.YtpgcfjpkilabfaaGreatDoorXP
set_option linter.unusedVariables false
set_option linter.unusedSimpArgs false
set_option maxRecDepth 10000
namespace Go.Proofs.YtpgcfjpkilabfaaGreatDoor.R3
open Go Go.Vm Go.Num Go.Tow Go.Proofs.YtpgcfjpkilabfaaGreatDoor
theorem Point_ok {x : Rat} : C0 238 [.d (dq x)] (·=.d (dI (x,x))):=by
 refine En Tryz.func238 fun _ _ _=>?_
 exact R1 rfl (Xxc rfl rfl)
theorem Xha {b : Nat} (hb : b≤4096) : C0 246 [.d (.int .i64 b)] (·=.d (dq (pw b))):=by
 refine En Tryz.func246 fun _ _ _=>?_
 refine Ce rfl (R1.FromInt_ok (z:=2) (by decide)) ?_
 refine Ce rfl (R1.Pow_ok (z:=2) (q:=2) (by unfold Zs;decide) (by omega) (by decide)) ?_
 refine Dw rfl ?_
 refine Ce rfl (R1.FromInt_ok (z:=1) (by decide)) ?_
 refine Ce rfl (R2.Make_ok (p:=b+1) (a:=2 ^ b) (b:=1) (Zs.two (W0c _)) (Zs.one (by omega)) (by omega) (by decide)) ?_
 exact R1 rfl (.eq (by rw [Xib];rfl))
section
variable {x : Rat} {s b : Nat}
theorem Xia (hx : Qs s x) (hb : b≤4096) (hs : s≤1099511627776) : C0 314 [.d (dq x),.d (.int .i64 b)] (·=.d (dq (dnQ x b))):=by
 have hp:=hx.mul (Xgs b)
 refine En Tryz.func314 fun _ _ _=>?_
 refine Ce rfl (Xha hb) ?_
 refine Dw rfl ?_
 refine Ce rfl (R2.Mul_ok hx (Xgs b) (by omega)) ?_
 refine Ce rfl (R2.Floor_ok hp (by omega)) ?_
 refine Ce rfl (R2.Make_ok (p:=s+b+1) (a:=(x*pw b).floor) (b:=2 ^ b) ((Zs.floor hp).mono (by omega)) (Zs.two (by omega)) (by omega) (Xc8 b)) ?_
 exact R1 rfl (.rf rfl)
theorem Ycf (hx : Qs s x) (hb : b≤4096) (hs : s≤1099511627776) : C0 315 [.d (dq x),.d (.int .i64 b)] (·=.d (dq (upQ x b))):=by
 refine En Tryz.func315 fun _ _ _=>?_
 refine Ce rfl (R2.Neg_ok hx (by omega)) ?_
 refine Ce rfl (Xia hx.neg hb hs) ?_
 refine Ce rfl (R2.Neg_ok (Xqw hx.neg b) (by omega)) ?_
 exact R1 rfl (.rf rfl)
theorem Round_ok {p : Rat × Rat} (hp : Q2 s p) (hb : b≤4096) (hs : s≤1099511627776) : C0 241 [.d (dI p),.d (.int .i64 b)] (·=.d (dI (rnd p b))):=by
 refine En Tryz.func241 fun _ _ _=>?_
 refine No rfl (by omega) ?_
 refine No rfl (by omega) ?_
 refine Dw rfl ?_
 refine Ce rfl (Xia hp.1 hb hs) ?_
 refine Ce rfl (Ycf hp.2 hb hs) ?_
 exact R1 rfl (Xxc rfl rfl)
end
theorem Xw2 {x : Rat} {r : List Rat} {s : Nat} (hx : ∀ y∈x::r,Qs s y) (hs : s+s≤4398046511104) (hn : r.length≤1000) : C0 316 [.d (dqs (x::r))] (·=.d (dI (Xm6 x r,Xm7 x r))):=by
 refine En Tryz.func316 fun _ _ _=>?_
 refine Ix 0 rfl (u:=dq x) rfl ?_
 refine Ce rfl Point_ok ?_
 refine Lo (fun (q : Nat × Rat × Rat)=>[(0,.d (dqs (x::r))),(2,.ptr 2 0),(3,.ptr 3 0),(4,.d (.int .i64 (q.1+1 : Nat)))]) (fun q=>[(2,.var zI),(3,.var (.d (dI (q.2.1,q.2.2))))]) (fun q=>q.1≤r.length∧q.2.1=Xm6 x (r.take q.1)∧q.2.2=Xm7 x (r.take q.1)) (fun q=>r.length - q.1) (0,x,x) [] rfl ⟨W1c _,rfl,rfl⟩ (fun (k,lo,hi) ⟨hk,hlo,hhi⟩=>?_)
 simp only at hk hlo hhi
 have qlo : Qs s lo:=hlo ▸ Xnv (Xj5 hx k)
 have qhi : Qs s hi:=hhi ▸ Xnw (Xj5 hx k)
 have hsm : s+s≤8796093022208:=by omega
 refine By rfl (fun h=>?_) fun h=>?_
 · have h : ((k+1 : Nat) : Int)<(((x::r).map dq).length : Nat):=h
   rw [lq,W0o] at h
   obtain ⟨y,hy⟩:=qat (l:=r) (k:=k) (by omega)
   have hyu : ((x::r).map dq)[k+1]?=some (dq y):=mp (by simpa using hy)
   have qy : Qs s y:=hx y (W0x _ (W0r hy))
   have e : r.take (k+1)=r.take k++[y]:=by rw [W0z,hy];rfl
   have e1 : Xm6 x (r.take (k+1))=lo2 lo y:=by rw [e,Xlx,hlo]
   have e2 : Xm7 x (r.take (k+1))=hi2 hi y:=by rw [e,Xlz,hhi]
   have fin : ∀ lo' hi',lo'=lo2 lo y→hi'=hi2 hi y→k+1≤r.length∧lo'=Xm6 x (r.take (k+1))∧hi'=Xm7 x (r.take (k+1)):=fun lo' hi' a b=>⟨by omega,by rw [a,e1],by rw [b,e2]⟩
   refine Dw rfl ?_
   refine Ix (k+1) rfl hyu ?_
   refine Ce rfl (R2.Cmp_ok qy qlo hsm) ?_
   refine By rfl (fun h1=>?_) fun h1=>?_
   · refine Ix (k+1) rfl hyu ?_
     refine Dw rfl ?_
     refine Ix (k+1) rfl hyu ?_
     refine Ce rfl (R2.Cmp_ok qy qhi hsm) ?_
     refine By rfl (fun h2=>?_) fun h2=>?_
     · refine Ix (k+1) rfl hyu ?_
       refine Ar (k+1+1 : Nat) rfl ?_
       exact Bk (k+1,y,y) [] rfl (fin y y (if_pos (Xwe.1 h1)).symm (if_pos (Yeo.1 h2)).symm) (by show r.length - (k+1)<r.length - k;omega)
     · refine Ar (k+1+1 : Nat) rfl ?_
       exact Bk (k+1,y,hi) [] rfl (fin y hi (if_pos (Xwe.1 h1)).symm (if_neg fun h=>h2 (Yeo.2 h)).symm) (by show r.length - (k+1)<r.length - k;omega)
   · refine Dw rfl ?_
     refine Ix (k+1) rfl hyu ?_
     refine Ce rfl (R2.Cmp_ok qy qhi hsm) ?_
     refine By rfl (fun h2=>?_) fun h2=>?_
     · refine Ix (k+1) rfl hyu ?_
       refine Ar (k+1+1 : Nat) rfl ?_
       exact Bk (k+1,lo,y) [] rfl (fin lo y (if_neg fun h=>h1 (Xwe.2 h)).symm (if_pos (Yeo.1 h2)).symm) (by show r.length - (k+1)<r.length - k;omega)
     · refine Ar (k+1+1 : Nat) rfl ?_
       exact Bk (k+1,lo,hi) [] rfl (fin lo hi (if_neg fun h=>h1 (Xwe.2 h)).symm (if_neg fun h=>h2 (Yeo.2 h)).symm) (by show r.length - (k+1)<r.length - k;omega)
 · have h : ¬ ((k+1 : Nat) : Int)<(((x::r).map dq).length : Nat):=h
   rw [lq,W0o] at h
   rw [W0a (by omega)] at hlo hhi
   exact R1 rfl (Xxc (by rw [hlo]) (by rw [hhi]))
section
variable {p q : Rat × Rat} {s t b : Nat}
theorem Xy7 (hp : Q2 s p) (hq : Q2 t q) (hs : s+t+3≤4398046511104) : C0 317 [.d (dI p),.d (dI q),.d (.int .i64 0)] (·=.d (dqs [p.1+q.1,p.1+q.2,p.2+q.1,p.2+q.2])):=by
 have hsm : s+t+1≤8796093022208:=by omega
 refine En Tryz.func317 fun _ _ _=>?_
 refine Dw rfl ?_
 refine Nl 7 7 4 rfl ?_
 refine Lo (fun (i : Nat)=>[(2,.d (.int .i64 0)),(7,.gr 7 4 (([p.1+q.1,p.1+q.2,p.2+q.1,p.2+q.2].take (2*i)).map dq)),(8,.lit 4 [dq p.1,dq p.2]),(9,.lit 4 [dq q.1,dq q.2]),(10,.d (.int .i64 i))]) (fun i=>[(7,.tok (([p.1+q.1,p.1+q.2,p.2+q.1,p.2+q.2].take (2*i)).map dq).length 4)]) (fun i=>i≤2) (fun i=>2 - i) 0 [] rfl (by decide) (fun i hi=>?_)
 have hi : i=0∨i=1∨i=2:=by omega
 rcases hi with rfl | rfl | rfl
 · refine Yes rfl (by decide) ?_
   refine Lo (fun (k : Nat)=>[(2,.d (.int .i64 0)),(7,.gr 7 4 (([p.1+q.1,p.1+q.2,p.2+q.1,p.2+q.2].take (0+k)).map dq)),(8,.lit 4 [dq p.1,dq p.2]),(9,.lit 4 [dq q.1,dq q.2]),(10,.d (.int .i64 0)),(11,.d (.int .i64 k))]) (fun k=>[(7,.tok (([p.1+q.1,p.1+q.2,p.2+q.1,p.2+q.2].take (0+k)).map dq).length 4)]) (fun k=>k≤2) (fun k=>2 - k) 0 [] rfl (by decide) (fun k hk=>?_)
   have hk : k=0∨k=1∨k=2:=by omega
   rcases hk with rfl | rfl | rfl
   · refine Yes rfl (by decide) ?_
     refine Yes rfl (by decide) ?_
     refine Dw rfl ?_
     refine Ix 0 rfl (u:=dq p.1) rfl ?_
     refine Ix 0 rfl (u:=dq q.1) rfl ?_
     refine Ce rfl (R2.Add_ok hp.1 hq.1 hsm) ?_
     refine ApG (([p.1+q.1,p.1+q.2,p.2+q.1,p.2+q.2].take (0+1)).map dq) rfl rfl (by simp) ?_
     refine Ar (0+1 : Nat) rfl ?_
     exact Bk 1 [(56,7)] rfl (by decide) (by decide)
   · refine Yes rfl (by decide) ?_
     refine Yes rfl (by decide) ?_
     refine Dw rfl ?_
     refine Ix 0 rfl (u:=dq p.1) rfl ?_
     refine Ix 1 rfl (u:=dq q.2) rfl ?_
     refine Ce rfl (R2.Add_ok hp.1 hq.2 hsm) ?_
     refine ApG (([p.1+q.1,p.1+q.2,p.2+q.1,p.2+q.2].take (0+2)).map dq) rfl rfl (by simp) ?_
     refine Ar (1+1 : Nat) rfl ?_
     exact Bk 2 [(56,7)] rfl (by decide) (by decide)
   · refine No rfl (by decide) ?_
     refine Ar (0+1 : Nat) rfl ?_
     exact Bk 1 [] rfl (by decide) (by decide)
 · refine Yes rfl (by decide) ?_
   refine Lo (fun (k : Nat)=>[(2,.d (.int .i64 0)),(7,.gr 7 4 (([p.1+q.1,p.1+q.2,p.2+q.1,p.2+q.2].take (2+k)).map dq)),(8,.lit 4 [dq p.1,dq p.2]),(9,.lit 4 [dq q.1,dq q.2]),(10,.d (.int .i64 1)),(11,.d (.int .i64 k))]) (fun k=>[(7,.tok (([p.1+q.1,p.1+q.2,p.2+q.1,p.2+q.2].take (2+k)).map dq).length 4)]) (fun k=>k≤2) (fun k=>2 - k) 0 [] rfl (by decide) (fun k hk=>?_)
   have hk : k=0∨k=1∨k=2:=by omega
   rcases hk with rfl | rfl | rfl
   · refine Yes rfl (by decide) ?_
     refine Yes rfl (by decide) ?_
     refine Dw rfl ?_
     refine Ix 1 rfl (u:=dq p.2) rfl ?_
     refine Ix 0 rfl (u:=dq q.1) rfl ?_
     refine Ce rfl (R2.Add_ok hp.2 hq.1 hsm) ?_
     refine ApG (([p.1+q.1,p.1+q.2,p.2+q.1,p.2+q.2].take (2+1)).map dq) rfl rfl (by simp) ?_
     refine Ar (0+1 : Nat) rfl ?_
     exact Bk 1 [(56,7)] rfl (by decide) (by decide)
   · refine Yes rfl (by decide) ?_
     refine Yes rfl (by decide) ?_
     refine Dw rfl ?_
     refine Ix 1 rfl (u:=dq p.2) rfl ?_
     refine Ix 1 rfl (u:=dq q.2) rfl ?_
     refine Ce rfl (R2.Add_ok hp.2 hq.2 hsm) ?_
     refine ApG (([p.1+q.1,p.1+q.2,p.2+q.1,p.2+q.2].take (2+2)).map dq) rfl rfl (by simp) ?_
     refine Ar (1+1 : Nat) rfl ?_
     exact Bk 2 [(56,7)] rfl (by decide) (by decide)
   · refine No rfl (by decide) ?_
     refine Ar (1+1 : Nat) rfl ?_
     exact Bk 2 [] rfl (by decide) (by decide)
 · refine No rfl (by decide) ?_
   exact R1 rfl (.gr rfl)
theorem Xy6 (hp : Q2 s p) (hq : Q2 t q) (hs : s+t+3≤4398046511104) : C0 317 [.d (dI p),.d (dI q),.d (.int .i64 2)] (·=.d (dqs [p.1*q.1,p.1*q.2,p.2*q.1,p.2*q.2])):=by
 have hsm : s+t+1≤8796093022208:=by omega
 refine En Tryz.func317 fun _ _ _=>?_
 refine Dw rfl ?_
 refine Nl 7 7 4 rfl ?_
 refine Lo (fun (i : Nat)=>[(2,.d (.int .i64 2)),(7,.gr 7 4 (([p.1*q.1,p.1*q.2,p.2*q.1,p.2*q.2].take (2*i)).map dq)),(8,.lit 4 [dq p.1,dq p.2]),(9,.lit 4 [dq q.1,dq q.2]),(10,.d (.int .i64 i))]) (fun i=>[(7,.tok (([p.1*q.1,p.1*q.2,p.2*q.1,p.2*q.2].take (2*i)).map dq).length 4)]) (fun i=>i≤2) (fun i=>2 - i) 0 [] rfl (by decide) (fun i hi=>?_)
 have hi : i=0∨i=1∨i=2:=by omega
 rcases hi with rfl | rfl | rfl
 · refine Yes rfl (by decide) ?_
   refine Lo (fun (k : Nat)=>[(2,.d (.int .i64 2)),(7,.gr 7 4 (([p.1*q.1,p.1*q.2,p.2*q.1,p.2*q.2].take (0+k)).map dq)),(8,.lit 4 [dq p.1,dq p.2]),(9,.lit 4 [dq q.1,dq q.2]),(10,.d (.int .i64 0)),(11,.d (.int .i64 k))]) (fun k=>[(7,.tok (([p.1*q.1,p.1*q.2,p.2*q.1,p.2*q.2].take (0+k)).map dq).length 4)]) (fun k=>k≤2) (fun k=>2 - k) 0 [] rfl (by decide) (fun k hk=>?_)
   have hk : k=0∨k=1∨k=2:=by omega
   rcases hk with rfl | rfl | rfl
   · refine Yes rfl (by decide) ?_
     refine No rfl (by decide) ?_
     refine No rfl (by decide) ?_
     refine Dw rfl ?_
     refine Ix 0 rfl (u:=dq p.1) rfl ?_
     refine Ix 0 rfl (u:=dq q.1) rfl ?_
     refine Ce rfl (R2.Mul_ok hp.1 hq.1 hsm) ?_
     refine ApG (([p.1*q.1,p.1*q.2,p.2*q.1,p.2*q.2].take (0+1)).map dq) rfl rfl (by simp) ?_
     refine Ar (0+1 : Nat) rfl ?_
     exact Bk 1 [(42,7)] rfl (by decide) (by decide)
   · refine Yes rfl (by decide) ?_
     refine No rfl (by decide) ?_
     refine No rfl (by decide) ?_
     refine Dw rfl ?_
     refine Ix 0 rfl (u:=dq p.1) rfl ?_
     refine Ix 1 rfl (u:=dq q.2) rfl ?_
     refine Ce rfl (R2.Mul_ok hp.1 hq.2 hsm) ?_
     refine ApG (([p.1*q.1,p.1*q.2,p.2*q.1,p.2*q.2].take (0+2)).map dq) rfl rfl (by simp) ?_
     refine Ar (1+1 : Nat) rfl ?_
     exact Bk 2 [(42,7)] rfl (by decide) (by decide)
   · refine No rfl (by decide) ?_
     refine Ar (0+1 : Nat) rfl ?_
     exact Bk 1 [] rfl (by decide) (by decide)
 · refine Yes rfl (by decide) ?_
   refine Lo (fun (k : Nat)=>[(2,.d (.int .i64 2)),(7,.gr 7 4 (([p.1*q.1,p.1*q.2,p.2*q.1,p.2*q.2].take (2+k)).map dq)),(8,.lit 4 [dq p.1,dq p.2]),(9,.lit 4 [dq q.1,dq q.2]),(10,.d (.int .i64 1)),(11,.d (.int .i64 k))]) (fun k=>[(7,.tok (([p.1*q.1,p.1*q.2,p.2*q.1,p.2*q.2].take (2+k)).map dq).length 4)]) (fun k=>k≤2) (fun k=>2 - k) 0 [] rfl (by decide) (fun k hk=>?_)
   have hk : k=0∨k=1∨k=2:=by omega
   rcases hk with rfl | rfl | rfl
   · refine Yes rfl (by decide) ?_
     refine No rfl (by decide) ?_
     refine No rfl (by decide) ?_
     refine Dw rfl ?_
     refine Ix 1 rfl (u:=dq p.2) rfl ?_
     refine Ix 0 rfl (u:=dq q.1) rfl ?_
     refine Ce rfl (R2.Mul_ok hp.2 hq.1 hsm) ?_
     refine ApG (([p.1*q.1,p.1*q.2,p.2*q.1,p.2*q.2].take (2+1)).map dq) rfl rfl (by simp) ?_
     refine Ar (0+1 : Nat) rfl ?_
     exact Bk 1 [(42,7)] rfl (by decide) (by decide)
   · refine Yes rfl (by decide) ?_
     refine No rfl (by decide) ?_
     refine No rfl (by decide) ?_
     refine Dw rfl ?_
     refine Ix 1 rfl (u:=dq p.2) rfl ?_
     refine Ix 1 rfl (u:=dq q.2) rfl ?_
     refine Ce rfl (R2.Mul_ok hp.2 hq.2 hsm) ?_
     refine ApG (([p.1*q.1,p.1*q.2,p.2*q.1,p.2*q.2].take (2+2)).map dq) rfl rfl (by simp) ?_
     refine Ar (1+1 : Nat) rfl ?_
     exact Bk 2 [(42,7)] rfl (by decide) (by decide)
   · refine No rfl (by decide) ?_
     refine Ar (1+1 : Nat) rfl ?_
     exact Bk 2 [] rfl (by decide) (by decide)
 · refine No rfl (by decide) ?_
   exact R1 rfl (.gr rfl)
theorem Xyr {a b c d : Rat} (h : a≤b) (h' : c≤d) : (Xm6 (a+c) [a+d,b+c,b+d],Xm7 (a+c) [a+d,b+c,b+d])=(a+c,b+d):=by
 have e1 : Xm6 (a+c) [a+d,b+c,b+d]=a+c:=by
  show lo2 (lo2 (lo2 (a+c) (a+d)) (b+c)) (b+d)=a+c
  have x1 : lo2 (a+c) (a+d)=a+c:=if_neg (by grind)
  have x2 : lo2 (a+c) (b+c)=a+c:=if_neg (by grind)
  have x3 : lo2 (a+c) (b+d)=a+c:=if_neg (by grind)
  rw [x1,x2,x3]
 have e2 : Xm7 (a+c) [a+d,b+c,b+d]=b+d:=by
  show hi2 (hi2 (hi2 (a+c) (a+d)) (b+c)) (b+d)=b+d
  have key : ∀ x,x≤b+d→hi2 x (b+d)=b+d:=fun x hx=>by
   unfold hi2
   split
   · rfl
   · grind
  apply key
  have hb1 : ∀ x y,x≤b+d→y≤b+d→hi2 x y≤b+d:=fun x y hx hy=>by unfold hi2;split <;> assumption
  exact hb1 _ _ (hb1 _ _ (by grind) (by grind)) (by grind)
 rw [e1,e2]
theorem Add_ok (hp : Q2 s p) (hq : Q2 t q) (lP : p.1≤p.2) (lQ : q.1≤q.2) (hs : 2*(s+t)+10≤4398046511104) : C0 242 [.d (dI p),.d (dI q)] (·=.d (dI (Xk6 p q))):=by
 have hh:=Xw2 (x:=p.1+q.1) (r:=[p.1+q.2,p.2+q.1,p.2+q.2]) (s:=s+t+1) (fun y hy=>by
  simp only [W1k,W5d,or_false] at hy
  rcases hy with rfl | rfl | rfl | rfl
  · exact hp.1.add hq.1
  · exact hp.1.add hq.2
  · exact hp.2.add hq.1
  · exact hp.2.add hq.2) (by omega) (by simp)
 rw [Xyr lP lQ] at hh
 refine En Tryz.func242 fun _ _ _=>?_
 refine Ce rfl (Xy7 hp hq (by omega)) ?_
 refine Ce rfl hh ?_
 exact R1 rfl (.rf rfl)
theorem Mul_ok (hp : Q2 s p) (hq : Q2 t q) (hs : 2*(s+t)+10≤4398046511104) : C0 243 [.d (dI p),.d (dI q)] (·=.d (dI (Xb1 p q))):=by
 have hh:=Xw2 (x:=p.1*q.1) (r:=[p.1*q.2,p.2*q.1,p.2*q.2]) (s:=s+t) (fun y hy=>by
  simp only [W1k,W5d,or_false] at hy
  rcases hy with rfl | rfl | rfl | rfl
  · exact hp.1.mul hq.1
  · exact hp.1.mul hq.2
  · exact hp.2.mul hq.1
  · exact hp.2.mul hq.2) (by omega) (by simp)
 refine En Tryz.func243 fun _ _ _=>?_
 refine Ce rfl (Xy6 hp hq (by omega)) ?_
 refine Ce rfl hh ?_
 exact R1 rfl (.rf rfl)
theorem Sqrt_ok {x : Rat} (hx : x=mx0 p.1) (hp : Q2 s p) (hs1 : 1≤s) (hp0 : 0≤p.2) (hb : b≤4096) (hs : s≤1099511627776) : C0 240 [.d (dI (x,p.2)),.d (.int .i64 b)] (·=.tup (.pr (.d (dI (rtb p b))) (.d (.int .i64 0)))):=by
 have qx : Qs s x:=hx ▸ Xqa hp.1 hs1
 have x0 : 0≤x:=hx ▸ Xer p.1
 have w1:=Xlg (b:=b) qx
 have w2:=Xlg (b:=b) hp.2
 have n1:=Xdx (b:=b) x0
 have n2:=Xdx (b:=b) hp0
 have f1:=Zs.floor w1
 have f2:=Zs.floor w2
 have z1:=Xlm w1 n1
 have z2:=Xlm w2 n2
 have s1:=R1.Sqrt_ok (a:=(sq2 x b).floor.toNat) (by
  rw [Xb0 n1] at f1
  exact W0h (Xny f1) (by omega))
 have s2:=R1.Sqrt_ok (a:=(sq2 p.2 b).floor.toNat) (by
  rw [Xb0 n2] at f2
  exact W0h (Xny f2) (by omega))
 rw [←Xb0 n1] at s1
 rw [←Xb0 n2] at s2
 have qw : Qs (b+1+(b+1)) (pw b*pw b):=(Xgs b).mul (Xgs b)
 have l2 : (dig (rtF (sq2 p.2 b) : Int).natAbs).length≤549755813888:=W0h (z2.len (by omega)) (by decide)
 have hmul:=R1.Mul_ok (a:=(rtF (sq2 p.2 b) : Int)) (b:=(rtF (sq2 p.2 b) : Int)) l2 l2
 have zz : Zs (s+(2*b+2)+(s+(2*b+2))) ((rtF (sq2 p.2 b) : Int)*(rtF (sq2 p.2 b) : Int)):=z2.mul z2
 refine En Tryz.func240 fun _ _ _=>?_
 refine No rfl (by omega) ?_
 refine No rfl (by omega) ?_
 refine Ce rfl (R2.Sign_ok qx (by omega)) ?_
 refine No rfl (Ycu x0) ?_
 refine Ce rfl (Xha hb) ?_
 refine Ce rfl (R2.Mul_ok (Xgs b) (Xgs b) (by omega)) ?_
 refine Ce rfl (R2.Mul_ok qx qw (by omega)) ?_
 refine Ce rfl (R2.Floor_ok w1 (by omega)) ?_
 refine Ce rfl s1 ?_
 refine Ce rfl (R2.Mul_ok hp.2 qw (by omega)) ?_
 refine Ce rfl (R2.Floor_ok w2 (by omega)) ?_
 refine Ce rfl s2 ?_
 refine Dw rfl ?_
 refine Ce rfl hmul ?_
 refine Ce rfl (R1.FromInt_ok (z:=1) (by decide)) ?_
 refine Ce rfl (R2.Make_ok (p:=s+(2*b+2)+(s+(2*b+2))) (b:=1) zz (Zs.one (by omega)) (by omega) (by decide)) ?_
 refine Ce rfl (R2.Cmp_ok (p:=s+(2*b+2)+(s+(2*b+2))) (Qs.divInt zz (Zs.one (by omega)) (by decide)) w2 (by omega)) ?_
 have hup : Xgu (Rat.divInt ((rtF (sq2 p.2 b) : Int)*(rtF (sq2 p.2 b) : Int)) 1) (sq2 p.2 b)<0↔((rtF (sq2 p.2 b)*rtF (sq2 p.2 b) : Int) : Rat)<sq2 p.2 b:=by rw [Xwe,Xib]
 refine By rfl (fun h=>?_) fun h=>?_
 · have e : Xrm (sq2 p.2 b)=rtF (sq2 p.2 b)+1:=if_pos (hup.1 h)
   refine Dw rfl ?_
   refine Ce rfl (R1.FromInt_ok (z:=1) (by decide)) ?_
   refine Ce rfl (R1.Add_ok (a:=(rtF (sq2 p.2 b) : Int)) (b:=1) l2 (by have:=(Zs.one (p:=1) (by decide)).len (by decide);omega)) ?_
   refine Dw rfl ?_
   refine Ce rfl (R2.Make_ok (p:=s+(2*b+2)) (b:=2 ^ b) z1 (Zs.two (by omega)) (by omega) (Xc8 b)) ?_
   refine Ce rfl (R2.Make_ok (p:=s+(2*b+2)+2) (b:=2 ^ b) ((z2.add (Zs.one (p:=1) (by decide))).mono (by omega)) (Zs.two (by omega)) (by omega) (Xc8 b)) ?_
   refine RTt rfl (.cons (Xxc (by rw [hx];rfl) ?_) Xa3)
   show dq _=dq (Xm5 p.2 b)
   unfold Xm5
   rw [e];rfl
 · have e : Xrm (sq2 p.2 b)=rtF (sq2 p.2 b):=if_neg fun h'=>h (hup.2 h')
   refine Dw rfl ?_
   refine Ce rfl (R2.Make_ok (p:=s+(2*b+2)) (b:=2 ^ b) z1 (Zs.two (by omega)) (by omega) (Xc8 b)) ?_
   refine Ce rfl (R2.Make_ok (p:=s+(2*b+2)) (b:=2 ^ b) z2 (Zs.two (by omega)) (by omega) (Xc8 b)) ?_
   refine RTt rfl (.cons (Xxc (by rw [hx];rfl) ?_) Xa3)
   show dq _=dq (Xm5 p.2 b)
   unfold Xm5
   rw [e];rfl
theorem Valid_ok (hp : Q2 s p) (hs : s+s≤4398046511104) : C0 244 [.d (dI p)] (·=.b (dc (p.1≤p.2))):=by
 refine En Tryz.func244 fun _ _ _=>?_
 refine Ce rfl (R2.Valid_ok hp.1 (by omega)) ?_
 refine Yes rfl rfl ?_
 refine Ce rfl (R2.Valid_ok hp.2 (by omega)) ?_
 refine Yes rfl rfl ?_
 refine Ce rfl (R2.Cmp_ok hp.1 hp.2 (by omega)) ?_
 exact R1 rfl (.bp (by rw [Xan,Xoe];grind))
theorem Narrow_ok (hp : Q2 s p) (hb : b≤4096) (hs : 2*s+10000≤4398046511104) : C0 151 [.d (dI p),.d (.int .i64 b)] (·=.b (dc (Wid p b))):=by
 have hsub : Qs (s+s+1) (p.2 - p.1):=by rw [W5u];exact hp.2.add hp.1.neg
 refine En Tryz.func151 fun _ _ _=>?_
 refine Ce rfl (Valid_ok hp (by omega)) ?_
 refine By rfl (fun h=>?_) fun h=>?_
 · refine Ce rfl (R2.Sub_ok hp.2 hp.1 (by omega)) ?_
   refine Ce rfl (Xha hb) ?_
   refine Ce rfl (R2.Mul_ok hsub (Xgs b) (by omega)) ?_
   refine Ce rfl (R2.FromInt_ok (z:=1) (by decide)) ?_
   refine Ce rfl (R2.Cmp_ok (hsub.mul (Xgs b)) (Qs.int (p:=1) (z:=1) (Zs.one (by decide)) (by decide)) (by omega)) ?_
   refine R1 rfl (.bp ?_)
   rw [Xan,Xoe]
   exact ⟨fun h'=>⟨h,by have : ((1 : Int) : Rat)=1:=rfl;rw [this] at h';grind⟩,fun h'=>by have:=h'.2;have e : ((1 : Int) : Rat)=1:=rfl;rw [e];grind⟩
 · exact R1 rfl (.bp ⟨nofun,fun h'=>absurd h'.1 h⟩)
end
end Go.Proofs.YtpgcfjpkilabfaaGreatDoor.R3
namespace Go.Proofs.YtpgcfjpkilabfaaGreatDoor.R7
open Go Go.Vm Go.Num Go.Tow Go.Proofs.YtpgcfjpkilabfaaGreatDoor
theorem FromRat_el {k : Nat} {t : Tw k} {x : Rat} (hk : k≤16) : C0 156 [.d (dt t),.d (dq x)] (·=.d (de (rat k x))):=by
 have:=R6.FromRat_ok (t:=toT k t) (x:=x) (by rw [Xaa];exact hk)
 rwa [Xaa,←Xcu] at this
theorem Yb5 {k : Nat} : ∀ {s b : Nat} {t : Tw k} {a : Tow.El k},Xbu k t→TS s k t→Sz s (toL k a)→1≤s→k≤16→bB s b k≤274877906944→b≤4076→C0 150 [.d (dt t),.d (de a),.d (.int .i64 b)] (·=.d (dI (bx k t a b))):=by
 induction k with
 | zero =>
  intro s b t a hR hT ha hs1 hk hs hb
  have key : ∀ y : Rat,C0 150 [.d (dts []),.d (dqs [y]),.d (.int .i64 b)] (·=.d (dI (y,y))):=fun y=>by
   refine En Tryz.func150 fun _ _ _=>?_
   refine Yes rfl rfl ?_
   refine Ix 0 rfl (u:=dq y) rfl ?_
   refine Ce rfl R3.Point_ok ?_
   exact R1 rfl (.rf rfl)
  exact key a
 | succ k ih =>
  intro s b t a hR hT ha hs1 hk hs hb
  have hx : Sz s (toL k a.1):=Sz.left ha
  have hy : Sz s (toL k a.2):=Sz.right ha
  have hge:=Xzs s b k
  have hs' : 3*bB s b k+3*b+30≤274877906944:=hs
  have qu:=Xmt (b:=b) hR.1 hT.1 hx hs1
  have qv:=Xmt (b:=b) hR.1 hT.1 hy hs1
  have qr:=Xmt (b:=b) hR.1 hT.1 hT.2 hs1
  have hhi:=Xhi hR (Xgv hR.1 t.2 b)
  have qs:=Yay (b:=b) qr hhi (by omega)
  have qm:=Xkf qv qs
  have qa:=Xk1 qu qm
  have lu:=Yer hR.1 a.1 b
  have hbx:=Xig (t:=t) (a:=a) (b:=b)
  have hlen:=Xab k
  have hp:=p16 hk
  have fin : C0 150 [.d (dt t),.d (de a),.d (.int .i64 b)] (·=.d (dI (rnd (Xk6 (bx k t.1 a.1 b) (Xb1 (bx k t.1 a.2 b) (rtb (bx k t.1 t.2 b) b))) (b+20)))):=by
   refine En Tryz.func150 fun _ _ _=>?_
   refine No rfl (by show ¬ ((((toT k t.1++[toL k t.2]).map dqs).length : Nat) : Int)=0;rw [twL];omega) ?_
   refine Ar k rfl ?_ (tw1 t (by omega))
   refine Dw rfl ?_
   refine Tk k ((toT k t.1).map dqs) rfl rfl (Xgq t) (twT t) ?_
   refine Ar (2 ^ k : Nat) rfl ?_ (hvq a (by omega))
   refine Tk (2 ^ k) ((toL k a.1).map dq) rfl rfl (Xb7 a) (hvT a) ?_
   refine Ce rfl (ih hR.1 hT.1 hx hs1 (by omega) (by omega) hb) ?_
   refine Tk k ((toT k t.1).map dqs) rfl rfl (Xgq t) (twT t) ?_
   refine Ar (2 ^ k : Nat) rfl ?_ (hvq a (by omega))
   refine Dp (2 ^ k) ((toL k a.2).map dq) rfl rfl (Xb7 a) (hvD a) ?_
   refine Ce rfl (ih hR.1 hT.1 hy hs1 (by omega) (by omega) hb) ?_
   refine Dw rfl ?_
   refine Tk k ((toT k t.1).map dqs) rfl rfl (Xgq t) (twT t) ?_
   refine Ix k rfl (twU t) ?_
   refine Ce rfl (ih hR.1 hT.1 hT.2 hs1 (by omega) (by omega) hb) ?_
   refine Ce rfl (R2.Sign_ok qr.1 (by omega)) ?_
   refine By rfl (fun h=>?_) fun h=>?_
   · have hm0 : (0 : Rat)=mx0 (bx k t.1 t.2 b).1:=(if_pos (Yi7.1 h)).symm
     refine Ce rfl (R2.FromInt_ok (z:=0) (by decide)) ?_
     refine Ce rfl (R3.Sqrt_ok (x:=0) hm0 qr (by omega) hhi (by omega) (by omega)) ?_
     refine Dw rfl ?_
     refine Ce rfl (R3.Mul_ok qv qs (by omega)) ?_
     refine Ce rfl (R3.Add_ok qu qm lu (Xqc _ _) (by omega)) ?_
     refine Ar (b+20 : Nat) rfl ?_
     refine Ce rfl (R3.Round_ok qa (by omega) (by omega)) ?_
     exact R1 rfl (.rf rfl)
   · have hm0 : (bx k t.1 t.2 b).1=mx0 (bx k t.1 t.2 b).1:=(if_neg (fun e=>h (Yi7.2 e))).symm
     refine Ce rfl (R3.Sqrt_ok hm0 qr (by omega) hhi (by omega) (by omega)) ?_
     refine Dw rfl ?_
     refine Ce rfl (R3.Mul_ok qv qs (by omega)) ?_
     refine Ce rfl (R3.Add_ok qu qm lu (Xqc _ _) (by omega)) ?_
     refine Ar (b+20 : Nat) rfl ?_
     refine Ce rfl (R3.Round_ok qa (by omega) (by omega)) ?_
     exact R1 rfl (.rf rfl)
  rw [hbx];exact fin
theorem Floor_ok {k : Nat} {t : Tw k} {a : Tow.El k} {s : Nat} (hR : Xbu k t) (hw : Wid (bx k t a 2048) 1) (hT : TS s k t) (ha : Sz s (toL k a)) (hs1 : 1≤s) (hk : k≤16) (hv : vB s k (s+bB s 2048 k+4)≤4398046511104) (he : bB s 2048 k≤274877906944) :
 C0 75 [.d (dt t),.d (de a)] fun v=>∃ z,v=.d (dz z)∧Xa7 k t a z:=by
 have hsB:=W0h (Xc6 (r:=s) k _) hv
 obtain ⟨B,hB⟩ : ∃ B,B=bB s 2048 k:=⟨_,rfl⟩
 have hB1 : 1≤B:=by rw [hB];exact W0h hs1 (Xzs _ _ _)
 have hq : ∀ b,b≤2048→Q2 B (bx k t a b):=fun b hb=>(Xmt hR hT ha hs1).mono (by rw [hB];exact Xoi hb k)
 have heb : ∀ b,b≤2048→bB s b k≤274877906944:=fun b hb=>W0h (Xoi hb k) he
 rw [←hB] at he hv hsB
 refine En Tryz.func75 fun _ _ _=>?_
 refine Ce rfl (Yb5 (b:=8) hR hT ha hs1 hk (heb 8 (by decide)) (by decide)) ?_
 refine Lo (fun (g : Nat)=>[(0,.d (dt t)),(1,.d (de a)),(4,.ptr 4 0),(5,.d (.int .i64 ((8*2 ^ g : Nat) : Int))),(6,.ptr 6 0)]) (fun g=>[(6,.var (.d (dI (bx k t a (8*2 ^ g))))),(4,.var (.st (.pr (.b false) .nil)))]) (fun g=>g≤8) (fun g=>8 - g) 0 [] rfl (by decide) (fun g hg=>?_)
 have hg8 : 2 ^ g≤2 ^ 8:=W0k (by decide) hg
 have hge:=hq (8*2 ^ g) (by omega)
 have hin:=Xgv hR a (8*2 ^ g)
 refine Ce rfl (R3.Narrow_ok (b:=1) hge (by decide) (by omega)) ?_
 refine By rfl (fun h=>?_) fun h=>?_
 · have hnn : ¬ Wid (bx k t a (8*2 ^ g)) 1:=by simpa [Xbb,Xan] using h
   have hg7 : g<8:=by
    by_cases hg7 : g<8
    · exact hg7
    · obtain rfl : g=8:=by omega
      exact absurd hw hnn
   have hgs : 2 ^ (g+1)≤2 ^ 8:=W0k (by decide) hg7
   have hgd : 2 ^ (g+1)=2*2 ^ g:=by rw [W0s];omega
   refine Ar ((8*2 ^ (g+1) : Nat) : Int) rfl ?_ (wr (by omega) (by simp only [inK];omega))
   refine Ce rfl (Yb5 (b:=8*2 ^ (g+1)) hR hT ha hs1 hk (heb _ (by omega)) (by omega)) ?_
   exact Bk (g+1) [] rfl (by omega) (by omega)
 · have hnn : Wid (bx k t a (8*2 ^ g)) 1:=by simpa [Xbb,Xan] using h
   have hz:=Zs.floor hge.1
   have hz1 : Zs (B+1) ((bx k t a (8*2 ^ g)).1.floor+1):=(hz.add (Zs.one (p:=1) (by decide))).mono (by omega)
   have hfl:=Xyv hR hin hnn
   have hmk:=R2.Make_ok (p:=B+1) (a:=(bx k t a (8*2 ^ g)).1.floor+1) (b:=1) hz1 (Zs.one (by omega)) (by omega) (by decide)
   rw [Xib] at hmk
   have hzr:=Sz.rat k (Qs.int hz1 (by omega))
   refine Ce rfl (R2.Floor_ok hge.1 (by omega)) ?_
   refine Dw rfl ?_
   refine Ce rfl (R1.FromInt_ok (z:=1) (by decide)) ?_
   refine Ce rfl (R1.Add_ok (W0h (hz.len (by omega)) (by decide)) (W0h ((Zs.one (p:=1) (by decide)).len (by decide)) (by decide))) ?_
   refine Dw rfl ?_
   refine Ce rfl (R1.FromInt_ok (z:=1) (by decide)) ?_
   refine Ce rfl hmk ?_
   refine Ce rfl (FromRat_el hk) ?_
   refine Ce rfl (R6.Sub_el hk ha.ps hzr (by omega)) ?_
   refine Ce rfl (Xj0 hT (s:=s+B+4) (by rw [Xat,Xb4];exact (ha.add hzr.neg).mono (by omega)) hk hv) ?_
   refine By rfl (fun h2=>?_) fun h2=>?_
   · exact Rt rfl (.one (.rf rfl) rfl rfl) ⟨_,rfl,hfl.1 h2⟩
   · exact Rt rfl (.one (.rf rfl) rfl rfl) ⟨_,rfl,hfl.2 h2⟩
end Go.Proofs.YtpgcfjpkilabfaaGreatDoor.R7
namespace Go.Vm
open Go
section
variable {c : Cx} {s : St}
theorem Yn6 {K : List Kt} {E : Env} {H : Hpl} (t sz : Nat) (hv : look E t=some .nil) (k : J c K (sem ((t,.lit sz [])::E) H)) : J c K (sem E H):=by
 rintro a w ⟨s0,W,θ,hw,hs,hθ,rfl⟩
 refine k a w ⟨_,W,θ,hw,?_,hθ,rfl⟩
 rw [show sem ((t,AV.lit sz [])::E) H=(upd (look E) t (.lit sz []),look H) from by rw [Xa5]]
 refine ⟨hs.fm,⟨hs.rel.defers,hs.rel.size,fun q v hq=>?_⟩,hs.obs,fun q v i hq hi=>?_⟩
 · rcases Xae hq with ⟨e1,e2⟩ | ⟨e1,e2⟩
   · subst e1;subst e2
     obtain ⟨p,e⟩:=Xk3 (hs.rel.has q _ hv)
     rw [e]
     exact ⟨_,⟨p,rfl,by decide,.inl rfl⟩,rfl⟩
   · exact hs.rel.has q v e2
 · rcases Xae hq with ⟨e1,e2⟩ | ⟨e1,e2⟩
   · subst e2;exact hi.elim
   · exact hs.ids q v i e2 hi
theorem NL {K : List Kt} {E : Env} {H : Hpl} (t sz : Nat) (h : nxJ c.tb c.n s=some (K,E,H)) (k : StP c (.j [] K ((t,.lit sz [])::E) H)) (hv : look E t=some .nil:=by exact rfl) : StP c s:=by
 unfold nxJ at h
 split at h <;> cases h
 rename_i hr
 exact go 1000 hr (Yn6 t sz hv k)
end
end Go.Vm
namespace Go.Proofs.YtpgcfjpkilabfaaGreatDoor.R11
open Go Go.Vm Go.Num Go.Tow Go.Proofs.YtpgcfjpkilabfaaGreatDoor Go.Proofs.YtpgcfjpkilabfaaGreatDoor.P11
def scP : Option (List Rat)→AV
 | none=>.lit 4 []
 | some w=>.own 600 4 0 (w.map dq).length
def scH (x : Nm) (h : Rat) : Option (List Rat)→Hpl
 | none=>[(3,.var (.d (dN x))),(5,.var (.d (dq h)))]
 | some w=>[(3,.var (.d (dN x))),(5,.var (.d (dq h))),(600,.arr 4 (w.map dq))]
def scW : Option (List Rat)→List Rat
 | none=>[]
 | some w=>w
theorem Xos : ∀ l : List Rat,List.zipWith (·+·) l (List.replicate l.length 0)=l
 | []=>rfl
 | x::l=>by rw [W0o,W3z,List.zipWith_cons_cons,Xos l,W5p]
theorem Ycj {k : Nat} {t : Tw k} {a : El k} {u g y : Rat} {w : List Rat} (hw : w=(toL k a).map (·*u)) (hy : w[0]?=some y) : toL k (scl k t a u g)=w.set 0 (y+g):=by
 have hc : (fun q : Rat=>u*q)=(·*u):=funext fun q=>Rat.mul_comm ..
 rw [show scl k t a u g=add k (mul k t a (rat k u)) (rat k g) from rfl,Xat,Xlc,hc,←hw,Xcu]
 have hl : w.length=2 ^ k:=by rw [hw,W0i,Xab]
 cases w with
 | nil=>cases hy
 | cons z w =>
  injection hy with hy;subst hy
  rw [List.zipWith_cons_cons,List.set_cons_zero]
  congr 1
  rw [show 2 ^ k - 1=w.length by rw [←hl];rfl]
  exact Xos w
theorem Xc9 {x : Nm} {d : Nat} {g : Rat} (H : Pk x) (hd : d≤60) (hg : Qs 2 g) : C0 76 [.d (dN x),.d (.int .i64 d),.d (dq g)] (·=.d (de (scl x.k x.t x.a ((10 ^ d : Int) : Rat) g))):=by
 have hu:=ten_qs hd
 obtain ⟨u,hu'⟩ : ∃ u : Rat,u=((10 ^ d : Int) : Rat):=⟨_,rfl⟩
 have hpw:=Xfg (n:=d) (by omega)
 rw [←hu'] at hu hpw ⊢
 have hml : ∀ q∈toL x.k x.a,Qs 1700 q:=fun q hq=>H.ml.elim (fun h=>(h q hq).mono (by decide)) fun h=>h.2 q hq
 have hcl:=Xab x.k x.a
 have hp8 : 2 ^ x.k≤2 ^ 3:=W0k (by decide) H.k
 obtain ⟨k,t,a⟩:=x
 have hp8 : 2 ^ k≤8:=hp8
 have hcl : (toL k a).length=2 ^ k:=hcl
 refine En Tryz.func76 fun _ _ _=>?_
 refine NL 7 4 rfl ?_
 refine Lo (fun ((i,o) : Nat × Option (List Rat))=>[(1,.d (.int .i64 d)),(3,.ptr 3 0),(5,.ptr 5 0),(7,scP o),(8,.d (.int .i64 i))]) (fun (_,o)=>scH ⟨k,t,a⟩ g o) (fun (i,o)=>i≤2 ^ k∧scW o=((toL k a).take i).map (·*u)∧(o=none↔i=0)) (fun (i,_)=>2 ^ k - i) (0,none) [] rfl ⟨W1c _,rfl,by simp⟩ ?_
 rintro ⟨i,o⟩ ⟨hi,hw,ho⟩
 have hw : scW o=((toL k a).take i).map (·*u):=hw
 cases o with
 | none =>
  obtain rfl : i=0:=ho.1 rfl
  refine By rfl (fun h=>?_) fun h=>?_
  · obtain ⟨q,hq⟩:=qat (l:=toL k a) (k:=0) (by rw [hcl];exact W0n k)
    refine Dw rfl ?_
    refine Ix 0 rfl (mp hq) ?_
    refine Ce rfl hpw ?_
    refine Ce rfl (R2.Mul_ok (hml q (W0r hq)) hu (by decide)) ?_
    refine ApL ([q*u].map dq) rfl rfl (W4p 0) (show 1≤1099511627776 by decide) ?_
    refine Ar (0+1 : Nat) rfl ?_
    exact Bk (0+1,some [q*u]) [(26,600)] rfl ⟨W0n k,by rw [W0z,hq];rfl,by simp⟩ (by show 2 ^ k - (0+1)<2 ^ k - 0;have:=W0n k;omega) (by exact ⟨rfl,rfl,rfl,rfl,rfl⟩)
  · have h : ¬ ((0 : Nat) : Int)<(((toL k a).map dq).length : Nat):=h
    rw [lq,hcl] at h
    have:=W0n k
    omega
 | some w =>
  have hw : w=((toL k a).take i).map (·*u):=hw
  have hwl : w.length=i:=by rw [hw,W0i,W0j,hcl];omega
  refine By rfl (fun h=>?_) fun h=>?_
  · have h : (i : Int)<(((toL k a).map dq).length : Nat):=h
    rw [lq,hcl] at h
    obtain ⟨q,hq⟩:=qat (l:=toL k a) (k:=i) (by omega)
    refine Dw rfl ?_
    refine Ix i rfl (mp hq) ?_
    refine Ce rfl hpw ?_
    refine Ce rfl (R2.Mul_ok (hml q (W0r hq)) hu (by decide)) ?_
    refine ApO ((w++[q*u]).map dq) rfl rfl rfl (by rw [W1u];rfl) (by rw [W0i,W0d,hwl];show i+1≤_;omega) ?_
    refine Ar (i+1 : Nat) rfl ?_
    exact Bk (i+1,some (w++[q*u])) [(26,600)] rfl ⟨by show i+1≤2 ^ k;omega,by rw [W0z,hq,W1u,←hw];rfl,by simp⟩ (by show 2 ^ k - (i+1)<2 ^ k - i;omega) (by exact ⟨rfl,rfl,rfl,rfl,rfl⟩)
  · have h : ¬ (i : Int)<(((toL k a).map dq).length : Nat):=h
    rw [lq,hcl] at h
    have hik : i=2 ^ k:=by omega
    have hpos:=W0n k
    have hw2 : w=(toL k a).map (·*u):=by rw [hw,W0a (by omega)]
    obtain ⟨y,hy⟩:=qat (l:=w) (k:=0) (by omega)
    obtain ⟨q,hq,rfl⟩ : ∃ q,q∈toL k a∧q*u=y:=by
     have:=W0r hy
     rw [hw2] at this
     exact W3r.1 this
    have hqy : Qs 2000 (q*u):=((hml q hq).mul hu).mono (by decide)
    have hsc:=Ycj (t:=t) (g:=g) hw2 hy
    refine Dw rfl ?_
    refine Eo 0 rfl (by rw [W0i];omega) ?_
    refine Ld (dq (q*u)) rfl (mp hy) ?_
    refine Ce rfl (R2.Add_ok hqy hg (by decide)) ?_
    refine Eo 0 rfl (by rw [W0i];omega) ?_
    refine Sto (zs:=(w.set 0 (q*u+g)).map dq) rfl (by rw [W0i];omega) ms ?_
    refine R1 rfl (.own rfl (by simp) ?_)
    show _=(toL k (scl k t a u g)).map dq
    rw [hsc,W1b,W0a (by simp)]
theorem Xz1 : C0 19 [.d (.int .i64 0)] (·=.d (dq ((0 : Int) : Rat))):=R2.FromInt_ok (z:=0) (by decide)
theorem Ymm : Qs 2 ((0 : Int) : Rat):=Qs.int (z:=0) (show Int.natAbs 0<2 ^ 2 by decide) (by decide)
theorem Floor_ok {x : Nm} {d : Nat} (H : Pk x) (hd : d≤60) : C0 29 [.d (dN x),.d (.int .i64 d)] fun v=>∃ z,v=.tup (.pr (.d (dz z)) (.d (.int .i64 0)))∧Xa7 x.k x.t (scl x.k x.t x.a ((10 ^ d : Int) : Rat) ((0 : Int) : Rat)) z:=by
 obtain ⟨b1,b2,b3,b4,b5⟩:=P11.bnds H.k
 have S:=H.sc (ten_qs hd) Ymm
 refine En Tryz.func29 fun _ _ _=>?_
 refine No rfl (by omega) ?_
 refine No rfl (by omega) ?_
 refine Dw rfl ?_
 refine Ce rfl Xz1 ?_
 refine Ce rfl (Xc9 H hd Ymm) ?_
 refine Ca rfl (R7.Floor_ok H.re S.w1 (H.t.mono (by decide)) S.s2 (by decide) (show x.k≤16 by have:=H.k;omega) b3 b4) fun v hv=>?_
 obtain ⟨z,rfl,hz⟩:=hv
 exact Rt rfl (.tup (.cons (.rf rfl) Xa3)) ⟨z,rfl,hz⟩
end Go.Proofs.YtpgcfjpkilabfaaGreatDoor.R11
namespace Go.Proofs.YtpgcfjpkilabfaaGreatDoor.P11
open Go Go.Vm Go.Num Go.Tow Go.Proofs.YtpgcfjpkilabfaaGreatDoor Go.Proofs.YtpgcfjpkilabfaaGreatDoor.P9 Go.Proofs.YtpgcfjpkilabfaaGreatDoor.R11 Go.Proofs.YtpgcfjpkilabfaaGreatDoor.R9
section
theorem Pk_rat {q : Rat} {n : Nat} (hq : Qs n q) (hn : n≤1700) : Pk ⟨0,(),q⟩ :=
 ⟨W1c _,trivial,trivial,trivial,.inr ⟨rfl,fun x hx=>by obtain rfl:=W0e.1 hx;exact hq.mono hn⟩⟩
abbrev two : Nm:=⟨0,(),(2 : Rat)⟩
end
section
section
variable {k : Nat} {t : Tw k} {a : El k}
end
theorem txt_at {d : Nat} (l : List UInt8) (hl : l.length=d+1) (hd : ∀ b∈l,Xsi b) : txt (Xxd l : Nat) d=pt d l:=by
 unfold txt
 rw [if_neg (by omega),W1h,Yek d l hl hd];rfl
theorem rnd_at {q : Rat} {d : Nat} {z : Int} (h1 : 0≤Xew (q*((10 ^ d : Int) : Rat)+hf+-(z : Rat))) (h2 : Xew (q*((10 ^ d : Int) : Rat)+hf+-((z+1 : Int) : Rat))=-1) : RndOf ⟨0,(),q⟩ d z:=⟨h1,h2⟩
end
end Go.Proofs.YtpgcfjpkilabfaaGreatDoor.P11
namespace Go.Proofs.YtpgcfjpkilabfaaGreatDoor
open Go Go.Vm Go.Num Go.Tow
namespace P47
theorem Valid_arc {K : Nat} {G : Tw K} {S : List (Tow.El K)} {N : List Nm} {n m k : Nat} {p q r : V2 K} {c : Cv} (W : Wn G S N) (ha : c.arc=true) (hu : Gv G S N n c.C p) (hs : Gv G S N m c.A q) (ht : Gv G S N k c.B r) (hx : P19.Trm c.C.x) (hy : P19.Trm c.C.y) (h2 : n+m+(n+m)+(n+m+(n+m))≤190) (h3 : n+k+(n+k)+(n+k+(n+k))≤190) (hp : p≠q) (hr : p≠r) : C0 53 [.d (dC c)] (·=.b (dc (Xb2 G (Xa8 q p) (Xa8 q p)=Xb2 G (Xa8 r p) (Xa8 r p)))):=by
 obtain ⟨_,A,B,C,cw⟩:=c
 obtain rfl : _=true:=ha
 refine En Tryz.func53 fun _ _ _=>?_
 refine No rfl (fun h=>h rfl) ?_
 refine Ca rfl (P15.Around_g W hu hs hx hy (by omega) hp) fun v hv=>?_
 obtain ⟨z,rfl,hz⟩:=hv
 refine Ca rfl (P15.Around_g W hu ht hx hy (by omega) hr) fun v hv=>?_
 obtain ⟨w,rfl,hw⟩:=hv
 refine Yes rfl (by decide) ?_
 refine Yes rfl (by decide) ?_
 refine Ce rfl (P9.Equal_g W hz hw h2 h3) ?_
 exact R0
theorem On_full {c : Cv} {z : Nm} {x : Vn} (ha : c.arc=true) (h1 : C0 120 [.d (dC c)] (·=.tup (.pr (.d (P15.dK c.C z)) (.d (.int .i64 0))))) (h2 : C0 121 [.d (P15.dK c.C z),.d (dV x)] (·=.tup (.pr (.d (.int .i64 0)) (.d (.int .i64 0))))) (h3 : C0 122 [.d (dC c)] (·=.b true)) : C0 57 [.d (dC c),.d (dV x)] (·=.b true):=by
 obtain ⟨_,A,B,C,cw⟩:=c
 obtain rfl : _=true:=ha
 refine En Tryz.func57 fun _ _ _=>?_
 refine No rfl (fun h=>h rfl) ?_
 refine Ce rfl h1 ?_
 refine No rfl (by decide) ?_
 refine Ce rfl h2 ?_
 refine No rfl (by decide) ?_
 refine No rfl (by decide) ?_
 refine Ce rfl h3 ?_
 refine Yes rfl rfl ?_
 exact R0
end P47
namespace P55
theorem Ynj {p q r : Rat × Rat} (hp : Qp 64 p) (hq : Qp 64 q) (h : Xfw (K:=0) p q=r) : C0 56 [.d (dV (v0 p)),.d (dV (v0 q))] (·=.tup (.pr (.d (dV (v0 r))) (.d (.int .i64 0)))):=(P13.Add_g W0 (gv0 hp) (gv0 hq) (by decide) (by decide)).mono fun v ⟨z,e,hz⟩=>by rw [e,Xl7 hz,h]
theorem Yki {p q r : Rat × Rat} (hp : Qp 64 p) (hq : Qp 64 q) (h : Xa8 (K:=0) p q=r) : C0 101 [.d (dV (v0 p)),.d (dV (v0 q))] (·=.tup (.pr (.d (dV (v0 r))) (.d (.int .i64 0)))):=(P13.Sub_g W0 (gv0 hp) (gv0 hq) (by decide) (by decide)).mono fun v ⟨z,e,hz⟩=>by rw [e,Xl7 hz,h]
theorem Xw5 {p q : Rat × Rat} {b : Bool} (hp : Qp 64 p) (hq : Qp 64 q) (h : dc (p=q)=b) : C0 96 [.d (dV (v0 p)),.d (dV (v0 q))] (·=.b b):=(P13.Equal_g W0 (gv0 hp) (gv0 hq) (by decide) (by decide)).mono fun v e=>e.trans (congrArg AV.b h)
theorem Ykk {q s : Rat} (hq : Qs 64 q) (h : -q=s) : C0 22 [.d (dN (nr q))] (·=.d (dN (nr s))):=(P9.Neg_g W0 (g0 hq) (by decide)).mono fun v ⟨z,e,hz⟩=>by rw [e,zw hz.o,←h];rfl
theorem Xvl {q : Rat} {d : Nat} {z : Int} (hq : Qs 64 q) (hd : d≤60) (h1 : 0≤Xew (q*((10 ^ d : Int) : Rat)+((0 : Int) : Rat)+-(z : Rat))) (h2 : Xew (q*((10 ^ d : Int) : Rat)+((0 : Int) : Rat)+-((z+1 : Int) : Rat))=-1) : C0 23 [.d (dN (nr q)),.d (.int .i64 d)] (·=.tup (.pr (.d (dz z)) (.d (.int .i64 0)))) :=
 (P11.Floor_ok (P11.Pk_rat hq (by decide)) hd).mono fun v ⟨w,e,hw,_⟩=>by
  obtain rfl:=Xa7.uniq (k:=0) (t:=()) trivial hw (show Xa7 0 () _ z from ⟨h1,h2⟩)
  exact e
theorem Xrw {x : Nm} {d : Nat} {z : Int} {s : List UInt8} (H : P11.Pk x) (hd : d≤60) (hz : P11.RndOf x d z) (ht : txt z d=s) (hs : s.length≤400) : C0 48 [.d (dN x),.d (.int .i64 d)] (·=.tup (.pr (.d (.str s)) (.d (.int .i64 0)))) :=
 (P11.dFmt_ok H hd).mono fun v ⟨w,hw,_,hv⟩=>by
  obtain rfl:=Xa7.uniq H.re hw hz
  subst ht
  rw [hv,P11.fmtV,if_pos hs]
theorem dg : ∀ l : List UInt8,l.all isD=true→∀ b∈l,Xsi b:=fun l h=>Ynf.1 h
abbrev i0 : Rat:=((0 : Int) : Rat)
abbrev i1 : Rat:=((1 : Int) : Rat)
abbrev i2 : Rat:=((2 : Int) : Rat)
abbrev im : Rat:=((-1 : Int) : Rat)
theorem Pki {q : Rat} (h : Qs 64 q) : P11.Pk ⟨0,(),q⟩:=P11.Pk_rat h (by decide)
theorem q0 : Qs 64 i0:=by decide +kernel
theorem q1 : Qs 64 i1:=by decide +kernel
theorem q2 : Qs 64 i2:=by decide +kernel
theorem qm : Qs 64 im:=by decide +kernel
theorem f01 : C0 48 [.d (dN (nr i0)),.d (.int .i64 1)] (·=.tup (.pr (.d (.str [48,46,48])) (.d (.int .i64 0)))):=Xrw (d:=1) (z:=0) (s:=[48,46,48]) (Pki q0) (by decide) (P11.rnd_at (by decide +kernel) (by decide +kernel)) (P11.txt_at [48,48] rfl (dg _ rfl)) (by decide)
theorem f11 : C0 48 [.d (dN (nr i1)),.d (.int .i64 1)] (·=.tup (.pr (.d (.str [49,46,48])) (.d (.int .i64 0)))):=Xrw (d:=1) (z:=10) (s:=[49,46,48]) (Pki q1) (by decide) (P11.rnd_at (by decide +kernel) (by decide +kernel)) (P11.txt_at [49,48] rfl (dg _ rfl)) (by decide)
theorem f21 : C0 48 [.d (dN (nr i2)),.d (.int .i64 1)] (·=.tup (.pr (.d (.str [50,46,48])) (.d (.int .i64 0)))):=Xrw (d:=1) (z:=20) (s:=[50,46,48]) (Pki q2) (by decide) (P11.rnd_at (by decide +kernel) (by decide +kernel)) (P11.txt_at [50,48] rfl (dg _ rfl)) (by decide)
theorem f00 : C0 48 [.d (dN (nr i0)),.d (.int .i64 0)] (·=.tup (.pr (.d (.str [48])) (.d (.int .i64 0)))):=Xrw (d:=0) (z:=0) (s:=[48]) (Pki q0) (by decide) (P11.rnd_at (by decide +kernel) (by decide +kernel)) (P11.txt_at [48] rfl (dg _ rfl)) (by decide)
theorem f10 : C0 48 [.d (dN (nr i1)),.d (.int .i64 0)] (·=.tup (.pr (.d (.str [49])) (.d (.int .i64 0)))):=Xrw (d:=0) (z:=1) (s:=[49]) (Pki q1) (by decide) (P11.rnd_at (by decide +kernel) (by decide +kernel)) (P11.txt_at [49] rfl (dg _ rfl)) (by decide)
theorem fm0 : C0 48 [.d (dN (nr im)),.d (.int .i64 0)] (·=.tup (.pr (.d (.str [45,49])) (.d (.int .i64 0)))):=Xrw (d:=0) (z:=-1) (s:=[45,49]) (Pki qm) (by decide) (P11.rnd_at (by decide +kernel) (by decide +kernel)) (by unfold txt;rw [if_pos (by decide),show (-1 : Int).natAbs=1 from rfl,Xdf (show 1<10 by decide)];rfl) (by decide)
abbrev sg : Cv:=⟨false,v0 (i0,i0),v0 (i1,i2),v0 (i0,i0),false⟩
abbrev wh : Cv:=⟨true,v0 (i1,i0),v0 (i1,i0),v0 (i0,i0),false⟩
theorem Yfn {α : Type} {x y : α} {i : Nat} (h : [x][i]?=some y) : i=0∧x=y:=by
 cases i with
 | zero=>exact ⟨rfl,by simpa using h⟩
 | succ i=>simp at h
theorem Yfg : C0 16 [.d (Xes [sg]),.d (.int .i64 1)] (·=.tup (.pr (.d (.str [77,32,48,46,48,32,48,46,48,32,76,32,49,46,48,32,50,46,48])) (.d (.int .i64 0)))):=by
 have hV : C0 53 [.d (dC sg)] (·=.b true):=(P47.Valid_seg (K:=0) (G:=()) (S:=[]) (N:=[]) (n:=1) (m:=1) (c:=sg) (p:=(i0,i0)) (q:=(i1,i2)) W0 rfl (gv0 ⟨q0,q0⟩) (gv0 ⟨q1,q2⟩) (by decide) (by decide)).mono fun v e=>by rw [e];exact congrArg AV.b (Xan.2 (by decide +kernel))
 have hp:=Xl3 (l:=[sg]) (by decide) (by decide) (fun c hc=>by obtain rfl:=W0e.1 hc;exact hV) (fun i c d _ h=>by simp at h)
 have hw:=Xco (c0:=sg) (d0:=sg) (l:=[sg]) (Z:=[Ygw sg.B]) (cl:=false) rfl rfl (by decide) rfl (fun i c w h1 h2=>by
  obtain ⟨rfl,rfl⟩:=Yfn h1
  obtain ⟨_,rfl⟩:=Yfn h2
  exact .seg rfl) (Xw5 ⟨q0,q0⟩ ⟨q1,q2⟩ (P11.dcF (by decide +kernel)))
 exact Xw1 (l:=[sg]) (d:=1) (T:=[[77],[48,46,48],[48,46,48],[76],[49,46,48],[50,46,48]]) (by decide) hp hw (by decide) rfl (fun i w t h1 h2=>by
  match i,h1,h2 with
  | 0,h1,h2=>cases h1;cases h2;rfl
  | 1,h1,h2=>cases h1;cases h2;exact f01
  | 2,h1,h2=>cases h1;cases h2;exact f01
  | 3,h1,h2=>cases h1;cases h2;rfl
  | 4,h1,h2=>cases h1;cases h2;exact f11
  | 5,h1,h2=>cases h1;cases h2;exact f21
  | i+6,h1,h2=>cases h1) (by decide)
theorem Xq8 : C0 53 [.d (dC wh)] (·=.b true):=(P47.Valid_arc (K:=0) (G:=()) (S:=[]) (N:=[]) (n:=1) (m:=1) (k:=1) (c:=wh) (p:=(i0,i0)) (q:=(i1,i0)) (r:=(i1,i0)) W0 rfl (gv0 ⟨q0,q0⟩) (gv0 ⟨q1,q0⟩) (gv0 ⟨q1,q0⟩) (Xbe q0) (Xbe q0) (by decide) (by decide) (by decide +kernel) (by decide +kernel)).mono fun v e=>by rw [e];exact congrArg AV.b (Xan.2 rfl)
theorem Ygn (y : Rat) (h1 : y*y=i1) (h2 : 0≤Xew y) : y=i1:=by
 have e0 : i1=1:=rfl
 have e1 : (y - 1)*(y+1)=0:=by rw [e0] at h1;grind
 rcases Rat.mul_eq_zero.1 e1 with e | e
 · rw [e0];grind
 · exfalso
   have : y<0:=by grind
   rw [Xdj this] at h2
   omega
theorem Xlr : C0 54 [.d (dC wh)] (·=.tup (.pr (.d (dN (nr i1))) (.d (.int .i64 0)))):=by
 have hd : d2 (i1,i0) (i0,i0)=i1:=by decide +kernel
 have h:=radius_r (c:=wh) (p:=(i0,i0)) (q:=(i1,i0)) rfl rfl ⟨q0,q0⟩ ⟨q1,q0⟩ (by decide +kernel) (by rw [hd];exact q1.mono (by decide)) (by rw [hd];decide +kernel)
 rw [hd] at h
 refine h.mono fun v hv=>?_
 obtain ⟨z,rfl,hz⟩:=hv
 rcases hz with ⟨y,rfl,h1,h2⟩ | ⟨_,_,h2⟩
 · have hy : y=i1:=Ygn y h1 h2
   rw [hy]
 · exact absurd ⟨(i1 : Tow.El 0),by show i1*i1=i1;decide +kernel⟩ h2
theorem Xxg : C0 47 [.d (Xes [wh])] (·=.tup (.pr (.d (dWs (hdW wh++[Xft (nr i1) false true (v0 (im,i0))++Xft (nr i1) false true wh.B].flatten++[.mk [90]]))) (.d (.int .i64 0)))) :=
 Xco (c0:=wh) (d0:=wh) (l:=[wh]) (cl:=true) rfl rfl (by decide) rfl (fun i c w h1 h2=>by
  obtain ⟨rfl,rfl⟩:=Yfn h1
  obtain ⟨_,rfl⟩:=Yfn h2
  exact .full (c:=wh) (w:=v0 (im,i0)) rfl Xlr (Xw5 ⟨q1,q0⟩ ⟨q1,q0⟩ (P11.dcT rfl)) (Yki (r:=(im,i0)) ⟨q0,q0⟩ ⟨q1,q0⟩ (W2f (show i0+-i1=im by decide +kernel) (show i0+-i0=i0 by decide +kernel))) (Ynj (r:=(im,i0)) ⟨q0,q0⟩ ⟨qm,q0⟩ (W2f (show i0+im=im by decide +kernel) (show i0+i0=i0 by decide +kernel)))) (Xw5 ⟨q1,q0⟩ ⟨q1,q0⟩ (P11.dcT rfl))
theorem Yff : C0 16 [.d (Xes [wh]),.d (.int .i64 0)] (·=.tup (.pr (.d (.str [77,32,49,32,48,32,65,32,49,32,49,32,48,32,48,32,49,32,45,49,32,48,32,65,32,49,32,49,32,48,32,48,32,49,32,49,32,48,32,90])) (.d (.int .i64 0)))):=by
 have hp:=Xl3 (l:=[wh]) (by decide) (by decide) (fun c hc=>by obtain rfl:=W0e.1 hc;exact Xq8) (fun i c d _ h=>by simp at h)
 exact Xw1 (l:=[wh]) (d:=0) (T:=[[77],[49],[48],[65],[49],[49],[48],[48],[49],[45,49],[48],[65],[49],[49],[48],[48],[49],[49],[48],[90]]) (by decide) hp Xxg (by decide) rfl (fun i w t h1 h2=>by
  match i,h1,h2 with
  | 0,h1,h2=>cases h1;cases h2;rfl
  | 1,h1,h2=>cases h1;cases h2;exact f10
  | 2,h1,h2=>cases h1;cases h2;exact f00
  | 3,h1,h2=>cases h1;cases h2;rfl
  | 4,h1,h2=>cases h1;cases h2;exact f10
  | 5,h1,h2=>cases h1;cases h2;exact f10
  | 6,h1,h2=>cases h1;cases h2;rfl
  | 7,h1,h2=>cases h1;cases h2;rfl
  | 8,h1,h2=>cases h1;cases h2;rfl
  | 9,h1,h2=>cases h1;cases h2;exact fm0
  | 10,h1,h2=>cases h1;cases h2;exact f00
  | 11,h1,h2=>cases h1;cases h2;rfl
  | 12,h1,h2=>cases h1;cases h2;exact f10
  | 13,h1,h2=>cases h1;cases h2;exact f10
  | 14,h1,h2=>cases h1;cases h2;rfl
  | 15,h1,h2=>cases h1;cases h2;rfl
  | 16,h1,h2=>cases h1;cases h2;rfl
  | 17,h1,h2=>cases h1;cases h2;exact f10
  | 18,h1,h2=>cases h1;cases h2;exact f00
  | 19,h1,h2=>cases h1;cases h2;rfl
  | i+20,h1,h2=>cases h1) (by decide)
theorem Xz7 {p q r : Rat × Rat} (hp : Qp 64 p) (hq : Qp 64 q) (h1 : p.1+q.1=r.1) (h2 : p.2+q.2=r.2) : C0 56 [.d (dV (v0 p)),.d (dV (v0 q))] (·=.tup (.pr (.d (dV (v0 r))) (.d (.int .i64 0)))):=Ynj hp hq (W2f h1 h2)
theorem Xzy {p : Rat × Rat} (hp : Qp 64 p) (h : (p.1+-i0)*(p.1+-i0)+(p.2+-i0)*(p.2+-i0)=i1) : C0 57 [.d (dC wh),.d (dV (v0 p))] (·=.b true):=by
 have hd : d2 (i1,i0) (i0,i0)=i1:=by decide +kernel
 have hz1 : Gd (K:=0) () ([] : List (Tow.El 0)) [] 8 (nr i1) i1:=(g0 q1).mono (by decide)
 refine P47.On_full (z:=nr i1) rfl ?_ ?_ ?_
 · refine (P47.around_g (c:=wh) (K:=0) (G:=()) (S:=[]) (N:=[]) (n:=1) (m:=1) (p:=(i0,i0)) (q:=(i1,i0)) W0 (gv0 ⟨q0,q0⟩) (gv0 ⟨q1,q0⟩) (Xbe q0) (Xbe q0) (by decide) (by decide +kernel)).mono fun v hv=>?_
   obtain ⟨z,rfl,hz⟩:=hv
   have hz2 : z=nr (d2 (i1,i0) (i0,i0)):=zw hz.o
   rw [hd] at hz2
   rw [hz2]
 · refine (P15.Side_g (K:=0) (G:=()) (S:=[]) (N:=[]) (n:=1) (m:=1) (k:=8) (p:=(i0,i0)) (q:=p) W0 (gv0 (p:=(i0,i0)) ⟨q0,q0⟩) hz1 (gv0 hp) (by decide) (by decide)).mono fun v hv=>?_
   rw [hv]
   have e : Xew (((p.1+-i0)*(p.1+-i0)+(p.2+-i0)*(p.2+-i0))+-i1)=0:=by rw [h];decide +kernel
   have e2 : sgn 0 () (Tow.add 0 (Xb2 (K:=0) () (Xa8 (K:=0) p (i0,i0)) (Xa8 (K:=0) p (i0,i0))) (Tow.neg 0 (i1 : Tow.El 0)))=0:=e
   rw [e2]
 · exact (P47.full_g (c:=wh) (K:=0) (G:=()) (S:=[]) (N:=[]) (n:=1) (m:=1) (p:=(i1,i0)) (q:=(i1,i0)) W0 rfl (gv0 ⟨q1,q0⟩) (gv0 ⟨q1,q0⟩) (by decide) (by decide)).mono fun v e=>e.trans (congrArg AV.b (Xan.2 rfl))
theorem Yin : C0 21 [.d (dC wh)] (·=.tup (.pr (.d (dVs [v0 (i1,i0),v0 (i1,i0),v0 (i1,i0),v0 (i0,i1),v0 (im,i0),v0 (i0,im)])) (.d (.int .i64 0)))) :=
 extremes_arc (c:=wh) (r:=nr i1) (m:=nr im) (X:=[v0 (i1,i0),v0 (i0,i1),v0 (im,i0),v0 (i0,im)]) (B:=[true,true,true,true]) rfl Xlr (Ykk q1 (by decide +kernel)) rfl rfl (fun i d x b h1 h2 h3=>by
  match i,h1,h2,h3 with
  | 0,h1,h2,h3=>cases h1;cases h2;cases h3;exact ⟨Xz7 (p:=(i0,i0)) (q:=(i1,i0)) (r:=(i1,i0)) ⟨q0,q0⟩ ⟨q1,q0⟩ (by decide +kernel) (by decide +kernel),Xzy (p:=(i1,i0)) ⟨q1,q0⟩ (by decide +kernel)⟩
  | 1,h1,h2,h3=>cases h1;cases h2;cases h3;exact ⟨Xz7 (p:=(i0,i0)) (q:=(i0,i1)) (r:=(i0,i1)) ⟨q0,q0⟩ ⟨q0,q1⟩ (by decide +kernel) (by decide +kernel),Xzy (p:=(i0,i1)) ⟨q0,q1⟩ (by decide +kernel)⟩
  | 2,h1,h2,h3=>cases h1;cases h2;cases h3;exact ⟨Xz7 (p:=(i0,i0)) (q:=(im,i0)) (r:=(im,i0)) ⟨q0,q0⟩ ⟨qm,q0⟩ (by decide +kernel) (by decide +kernel),Xzy (p:=(im,i0)) ⟨qm,q0⟩ (by decide +kernel)⟩
  | 3,h1,h2,h3=>cases h1;cases h2;cases h3;exact ⟨Xz7 (p:=(i0,i0)) (q:=(i0,im)) (r:=(i0,im)) ⟨q0,q0⟩ ⟨q0,qm⟩ (by decide +kernel) (by decide +kernel),Xzy (p:=(i0,im)) ⟨q0,qm⟩ (by decide +kernel)⟩
  | i+4,h1,_,_=>cases h1)
theorem l0 : C0 23 [.d (dN (nr i0)),.d (.int .i64 (0 : Nat))] (·=.tup (.pr (.d (dz 0)) (.d (.int .i64 0)))):=Xvl q0 (by decide) (by decide +kernel) (by decide +kernel)
theorem l1 : C0 23 [.d (dN (nr i1)),.d (.int .i64 (0 : Nat))] (·=.tup (.pr (.d (dz 1)) (.d (.int .i64 0)))):=Xvl q1 (by decide) (by decide +kernel) (by decide +kernel)
theorem lm : C0 23 [.d (dN (nr im)),.d (.int .i64 (0 : Nat))] (·=.tup (.pr (.d (dz (-1))) (.d (.int .i64 0)))):=Xvl qm (by decide) (by decide +kernel) (by decide +kernel)
theorem n0 : C0 22 [.d (dN (nr i0))] (·=.d (dN (nr i0))):=Ykk q0 (by decide +kernel)
theorem n1 : C0 22 [.d (dN (nr i1))] (·=.d (dN (nr im))):=Ykk q1 (by decide +kernel)
theorem nm : C0 22 [.d (dN (nr im))] (·=.d (dN (nr i1))):=Ykk qm (by decide +kernel)
theorem zb (z : Int) (h : z.natAbs<4294967296) : Zb z:=W0h (Xap (k:=1) (by rw [Nat.pow_one];exact h)) (by decide)
theorem zs4 (a b c e : Int) (ha : a.natAbs<4294967296) (hb : b.natAbs<4294967296) (hc : c.natAbs<4294967296) (he : e.natAbs<4294967296) : Zb a∧Zb b∧Zb c∧Zb e:=⟨zb a ha,zb b hb,zb c hc,zb e he⟩
theorem p10 : PtF (0 : Nat) (v0 (i1,i0)) ⟨1,0,-1,0⟩:=⟨⟨_,_,n1,n0,lm,l0⟩,l1,l0,zs4 _ _ _ _ (by decide) (by decide) (by decide) (by decide)⟩
theorem p01 : PtF (0 : Nat) (v0 (i0,i1)) ⟨0,1,0,-1⟩:=⟨⟨_,_,n0,n1,l0,lm⟩,l0,l1,zs4 _ _ _ _ (by decide) (by decide) (by decide) (by decide)⟩
theorem pm0 : PtF (0 : Nat) (v0 (im,i0)) ⟨-1,0,1,0⟩:=⟨⟨_,_,nm,n0,l1,l0⟩,lm,l0,zs4 _ _ _ _ (by decide) (by decide) (by decide) (by decide)⟩
theorem p0m : PtF (0 : Nat) (v0 (i0,im)) ⟨0,-1,0,1⟩:=⟨⟨_,_,n0,nm,l0,l1⟩,l0,lm,zs4 _ _ _ _ (by decide) (by decide) (by decide) (by decide)⟩
abbrev fwh : List F4:=[⟨1,0,-1,0⟩,⟨1,0,-1,0⟩,⟨1,0,-1,0⟩,⟨0,1,0,-1⟩,⟨-1,0,1,0⟩,⟨0,-1,0,1⟩]
theorem Ylx : CuF (0 : Nat) wh fwh:=⟨_,Yin,rfl,by decide,fun i p f h1 h2=>by
 match i,h1,h2 with
 | 0,h1,h2=>cases h1;cases h2;exact p10
 | 1,h1,h2=>cases h1;cases h2;exact p10
 | 2,h1,h2=>cases h1;cases h2;exact p10
 | 3,h1,h2=>cases h1;cases h2;exact p01
 | 4,h1,h2=>cases h1;cases h2;exact pm0
 | 5,h1,h2=>cases h1;cases h2;exact p0m
 | i+6,h1,h2=>cases h1⟩
theorem Xw8 : C0 7 [.d (Xes [wh]),.d (.int .i64 (0 : Nat))] (·=.tup (.pr (.d (Yex ⟨-1,-1,-1,-1⟩ 0)) (.d (.int .i64 0)))) :=
 Bounds_ok (l:=[wh]) (Fs:=[fwh]) (d:=0) (by decide) (by decide) (by decide) (fun c hc=>by obtain rfl:=W0e.1 hc;exact Xq8) rfl (fun i c fs h1 h2=>by
  obtain ⟨rfl,rfl⟩:=Yfn h1
  obtain ⟨_,rfl⟩:=Yfn h2
  exact Ylx) rfl
theorem Yju {x y : Rat} (hx : Qs 200 x) : C0 34 [.d (dq x),.d (dq y)] (·=.b (dc (x=y))):=by
 have h1:=hx.n.len (by decide)
 have h2:=hx.d.len (by decide)
 refine En Tryz.func34 fun _ _ _=>?_
 refine Ce rfl (R2.SameInt_ok (z:=x.num) (w:=y.num) (by omega)) ?_
 refine By rfl (fun h=>?_) fun h=>?_
 · refine Ce rfl (R2.SameInt_ok (z:=(x.den : Int)) (w:=(y.den : Int)) (by omega)) ?_
   exact R1 rfl (.bp (Xan.trans ⟨fun h3=>Rat.ext h (by omega),fun e=>by rw [e]⟩))
 · exact R1 rfl (.bp ⟨nofun,fun e=>absurd (by rw [e]) h⟩)
abbrev dB4 (a b c e : Rat) : D:=.st (.pr (dq a) (.pr (dq b) (.pr (dq c) (dq e))))
theorem Xsa {a b c e : Rat} (ha : Qs 200 a) (hb : Qs 200 b) (hc : Qs 200 c) (he : Qs 200 e) : C0 9 [.d (dB4 a b c e),.d (dB4 a b c e)] (·=.b true):=by
 have s : ∀ {x : Rat},Qs 200 x→C0 34 [.d (dq x),.d (dq x)] (·=.b true):=fun hx=>(Yju hx).mono fun v e=>e.trans (congrArg AV.b (Xan.2 rfl))
 refine En Tryz.func9 fun _ _ _=>?_
 refine Ce rfl (s ha) ?_
 refine Yes rfl rfl ?_
 refine Ce rfl (s hb) ?_
 refine Yes rfl rfl ?_
 refine Ce rfl (s hc) ?_
 refine Yes rfl rfl ?_
 refine Ce rfl (s he) ?_
 exact R0
theorem Xgb {i j : Int} (hi : -9223372036854775808≤i∧i<9223372036854775808) (hj : -9223372036854775808≤j∧j<9223372036854775808) : C0 17 [.d (.int .i64 i),.d (.int .i64 j)] (·=.d (dV (v0 ((i : Rat),(j : Rat))))):=by
 refine En Tryz.func17 fun _ _ _=>?_
 refine Ce rfl (R13.Whole_ok hi hj) ?_
 exact R0
theorem Xq7 {i : Int} (hi : -9223372036854775808≤i∧i<9223372036854775808) : C0 18 [.d (.int .i64 i)] (·=.d (dq (i : Rat))):=by
 refine En Tryz.func18 fun _ _ _=>?_
 refine Ce rfl (R2.FromInt_ok hi) ?_
 exact R0
theorem box55_ok {a b c e : Rat} : C0 10 [.d (dB4 a b c e)] (·=.d (dB4 a b c e)):=by
 refine En Tryz.func10 fun _ _ _=>?_
 exact R0
theorem Yew : Yex ⟨-1,-1,-1,-1⟩ 0=dB4 im im i1 i1:=by
 show dB4 (qb (-1) 0) (qb (-1) 0) (qb (- -1) 0) (qb (- -1) 0)=_
 rw [show qb (-1) 0=im by decide +kernel,show qb (- -1) 0=i1 by decide +kernel]
theorem aw55_ok : C0 6 [] (·=.b true):=by
 have hB:=Xw8
 rw [Yew] at hB
 refine En Tryz.func6 fun _ _ _=>?_
 refine Ce rfl (Xgb (i:=0) (j:=0) (by decide) (by decide)) ?_
 refine Ce rfl (Xgb (i:=1) (j:=2) (by decide) (by decide)) ?_
 refine Ce rfl (Xgb (i:=0) (j:=0) (by decide) (by decide)) ?_
 refine Ce rfl Yfg ?_
 refine Ce rfl (Xgb (i:=1) (j:=0) (by decide) (by decide)) ?_
 refine Ce rfl (Xgb (i:=1) (j:=0) (by decide) (by decide)) ?_
 refine Ce rfl (Xgb (i:=0) (j:=0) (by decide) (by decide)) ?_
 refine Ce rfl Yff ?_
 refine Ce rfl hB ?_
 refine Yes rfl (by decide) ?_
 refine Yes rfl (by decide) ?_
 refine Yes rfl (by decide) ?_
 refine Yes rfl rfl ?_
 refine Yes rfl rfl ?_
 refine Ce rfl box55_ok ?_
 refine Ce rfl (Xq7 (i:=-1) (by decide)) ?_
 refine Ce rfl (Xq7 (i:=-1) (by decide)) ?_
 refine Ce rfl (Xq7 (i:=1) (by decide)) ?_
 refine Ce rfl (Xq7 (i:=1) (by decide)) ?_
 refine Ce rfl (Xsa (a:=im) (b:=im) (c:=i1) (e:=i1) (qm.mono (by decide)) (qm.mono (by decide)) (q1.mono (by decide)) (q1.mono (by decide))) ?_
 exact R0
end P55
end Go.Proofs.YtpgcfjpkilabfaaGreatDoor
namespace Go.Proofs.YtpgcfjpkilabfaaGreatDoor.R2
open Go Go.Vm Go.Num Go.Proofs.YtpgcfjpkilabfaaGreatDoor
theorem Yei {l : List Nat} (hw : Xal l) (h : (dig (val l)).length=l.length) : dig (val l)=l:=by
 by_cases h0 : val l=0
 · rw [h0,Xai] at h ⊢
   exact (W0l h.symm).symm
 · have h1:=Xmk h0
   rw [h] at h1
   exact Xd9 hw (Xjp hw (by have:=W5q.2 (fun e=>h0 (Xrz.1 e) : dig (val l)≠[]);omega) h1)
def NrI (b : Bool) (l : List Nat) : Prop:=∃ z : Int,dS b l=dz z∧l=dig z.natAbs
theorem Ybe {b : Bool} {l : List Nat} (e : dig (val l)=l) (h : b=true→l≠[]) : NrI b l:=by
 cases b with
 | false=>exact ⟨(val l : Int),by show _=dS (decide ((val l : Int)<0)) (dig (val l : Int).natAbs);rw [W1h,e,show decide ((val l : Int)<0)=false from decide_eq_false (by omega)],by rw [W1h,e]⟩
 | true =>
  have h0 : val l≠0:=fun h0=>h rfl (by rw [←e,h0,Xai])
  exact ⟨-(val l : Int),by show _=dS (decide (-(val l : Int)<0)) (dig (-(val l : Int)).natAbs);rw [W3x,W1h,e,show decide (-(val l : Int)<0)=true from decide_eq_true (by omega)],by rw [W3x,W1h,e]⟩
theorem Xi4 {b : Bool} {l : List Nat} (hw : Xal l) (hl : l.length≤1000) : C0 167 [.d (dS b l)] (fun v=>∃ c : Bool,v=.b c∧(c=true→NrI b l)):=by
 refine En Tryz.func167 fun _ _ _=>?_
 refine Dw rfl ?_
 refine Ce rfl (R1.trim_ok hw (by omega)) ?_
 refine By rfl (fun h=>?_) fun h=>?_
 · have h : (((dig (val l)).map wd).length : Int)=((l.map wd).length : Nat):=h
   have h : (dig (val l)).length=l.length:=by rw [W0i,W0i] at h;omega
   have e:=Yei hw h
   refine By rfl (fun h1=>?_) fun h1=>?_
   · refine Rt rfl (.one (.rf rfl) rfl rfl) ⟨true,rfl,fun _=>Ybe e fun hb=>?_⟩
     subst hb;simp at h1
   · refine Rt rfl (.one (.rf rfl) rfl rfl) ⟨dc (((List.map wd l).length : Int) > 0),rfl,fun hc=>Ybe e fun _ hn=>?_⟩
     rw [Xan,hn] at hc
     simp at hc
 · exact Rt rfl (.one (.rf rfl) rfl rfl) ⟨false,rfl,nofun⟩
structure Rw where
 b : Bool
 l : List Nat
 c : Bool
 m : List Nat
abbrev dRw (x : Rw) : D:=.st (.pr (dS x.b x.l) (dS x.c x.m))
def Rw.ok (x : Rw) : Prop:=Xal x.l∧Xal x.m
theorem Few_raw {x : Rw} (hx : x.ok) (hl : x.l.length<9223372036854775808∧x.m.length<9223372036854775808) : C0 35 [.d (dRw x),.d (.int .i64 4)] (fun v=>∃ c : Bool,v=.b c∧(c=true→∃ q : Rat,dRw x=dq q∧Qs 128 q)):=by
 have hv : x.l.length≤4→x.m.length≤4→C0 84 [.d (dRw x)] (fun v=>∃ c : Bool,v=.b c∧(c=true→∃ q : Rat,dRw x=dq q∧Qs 128 q)):=fun h1 h2=>by
  refine En Tryz.func84 fun _ _ _=>?_
  refine Ca rfl (Xi4 hx.1 (by omega)) fun v hv=>?_
  obtain ⟨c,rfl,hc⟩:=hv
  cases c with
  | false =>
   refine No rfl nofun ?_
   exact Rt rfl (.one (.rf rfl) rfl rfl) ⟨false,rfl,nofun⟩
  | true =>
   refine Yes rfl rfl ?_
   obtain ⟨a,ea,la⟩:=hc rfl
   refine Ca rfl (Xi4 hx.2 (by omega)) fun v hv=>?_
   obtain ⟨c,rfl,hc⟩:=hv
   cases c with
   | false =>
    refine No rfl nofun ?_
    exact Rt rfl (.one (.rf rfl) rfl rfl) ⟨false,rfl,nofun⟩
   | true =>
    refine Yes rfl rfl ?_
    obtain ⟨d,ed,ld⟩:=hc rfl
    have hla : (dig a.natAbs).length≤4:=by rw [←la];exact h1
    have hld : (dig d.natAbs).length≤4:=by rw [←ld];exact h2
    have hS:=R1.Sign_ok (z:=d) (by omega)
    rw [←ed] at hS
    refine Ce rfl hS ?_
    refine By rfl (fun h3=>?_) fun h3=>?_
    · have hG:=R1.GCD_ok (a:=a) (b:=d) (by omega) (by omega)
      rw [←ea,←ed] at hG
      refine Ce rfl hG ?_
      refine Ce rfl Xd2 ?_
      refine Rt rfl (.one (.rf rfl) rfl rfl) ⟨dc ((Int.gcd a d : Int)=1),rfl,fun hc=>?_⟩
      have hg : Int.gcd a d=1:=by have:=Xan.1 hc;omega
      have hd0 : 0<d:=Ylz.1 h3
      refine ⟨⟨a,d.natAbs,by omega,hg⟩,?_,?_⟩
      · show D.st (.pr (dS x.b x.l) (dS x.c x.m))=D.st (.pr (dz a) (dz (d.natAbs : Int)))
        rw [ea,ed,show ((d.natAbs : Nat) : Int)=d by omega]
      · have hb : ∀ n : Nat,(dig n).length≤4→n<2 ^ 128:=fun n hn=>W0p (Xcm n) (W0h (W0k (by decide) hn) (by decide))
        exact ⟨hb _ hla,by show ((d.natAbs : Nat) : Int).natAbs<_;rw [W1h];exact hb _ hld⟩
    · exact Rt rfl (.one (.rf rfl) rfl rfl) ⟨false,rfl,nofun⟩
 refine En Tryz.func35 fun _ _ _=>?_
 refine By rfl (fun h1=>?_) fun h1=>?_
 · refine By rfl (fun h2=>?_) fun h2=>?_
   · have h1 : (((x.l).map wd).length : Int)≤4:=h1
     have h2 : (((x.m).map wd).length : Int)≤4:=h2
     rw [W0i] at h1 h2
     refine Ca rfl (hv (by omega) (by omega)) fun v hv=>?_
     obtain ⟨c,rfl,hc⟩:=hv
     exact Rt rfl (.one (.rf rfl) rfl rfl) ⟨c,rfl,hc⟩
   · exact Rt rfl (.one (.rf rfl) rfl rfl) ⟨false,rfl,nofun⟩
 · exact Rt rfl (.one (.rf rfl) rfl rfl) ⟨false,rfl,nofun⟩
end Go.Proofs.YtpgcfjpkilabfaaGreatDoor.R2
namespace Go.Proofs.YtpgcfjpkilabfaaGreatDoor.P55
open Go Go.Vm Go.Num Go.Tow Go.Proofs.YtpgcfjpkilabfaaGreatDoor
structure Bx where
 a : R2.Rw
 b : R2.Rw
 c : R2.Rw
 d : R2.Rw
abbrev dBx (x : Bx) : D:=.st (.pr (R2.dRw x.a) (.pr (R2.dRw x.b) (.pr (R2.dRw x.c) (R2.dRw x.d))))
def Yfu (x : R2.Rw) : Prop:=x.ok∧x.l.length<9223372036854775808∧x.m.length<9223372036854775808
def Bx.ok (x : Bx) : Prop:=Yfu x.a∧Yfu x.b∧Yfu x.c∧Yfu x.d
def Shq (x : R2.Rw) : Prop:=∃ q : Rat,R2.dRw x=dq q∧Qs 128 q
theorem Yc6 {l : List R2.Rw} (hl : l.length≤1000) (h : ∀ x∈l,Yfu x) : C0 12 [.d (.sl 4 (l.map R2.dRw))] (fun v=>∃ c : Bool,v=.b c∧(c=true→∀ x∈l,Shq x)):=by
 have hm : (l.map R2.dRw).length=l.length:=W0i ..
 refine En Tryz.func12 fun _ _ _=>?_
 refine Lo (fun k : Nat=>[(5,.d (.sl 4 (l.map R2.dRw))),(6,.d (.int .i64 (l.map R2.dRw).length)),(7,.d (.int .i64 k))]) (fun _=>[]) (fun k=>k≤l.length∧∀ x∈l.take k,Shq x) (fun k=>l.length - k) 0 [] rfl ⟨W1c _,by simp⟩ fun k ⟨hk,hn⟩=>?_
 refine By rfl (fun h1=>?_) fun h1=>?_ <;> simp only [hm] at h1
 · obtain ⟨x,hx⟩ : ∃ x,l[k]?=some x:=⟨_,W0b (by omega)⟩
   have hxm:=W0r hx
   have hxo:=h x hxm
   refine Ix k rfl (u:=R2.dRw x) (by rw [W1f,hx];rfl) ?_
   refine Ca rfl (R2.Few_raw hxo.1 hxo.2) fun v hv=>?_
   obtain ⟨c,rfl,hc⟩:=hv
   cases c with
   | false =>
    refine Yes rfl nofun ?_
    exact Rt rfl (.one (.rf rfl) rfl rfl) ⟨false,rfl,nofun⟩
   | true =>
    refine No rfl (fun h=>h rfl) ?_
    refine Ar (k+1 : Nat) rfl ?_
    refine Bk (k+1) [] rfl ⟨by omega,fun y hy=>?_⟩ (by show l.length - (k+1)<l.length - k;omega)
    rw [W0z,hx] at hy
    rcases W2x.1 hy with hy | hy
    · exact hn y hy
    · simp at hy;rw [hy];exact hc rfl
 · rw [W0a (by omega)] at hn
   exact Rt rfl (.one (.rf rfl) rfl rfl) ⟨true,rfl,fun _=>hn⟩
structure Qb where
 a : Rat
 b : Rat
 c : Rat
 d : Rat
structure Qb.ok (x : Qb) : Prop where
 a : Qs 128 x.a
 b : Qs 128 x.b
 c : Qs 128 x.c
 d : Qs 128 x.d
abbrev dQb (x : Qb) : D:=dB4 x.a x.b x.c x.d
def ApP (x y : Qb) : Prop:=Xgu x.c y.a≤0∨Xgu y.c x.a≤0∨Xgu x.d y.b≤0∨Xgu y.d x.b≤0
theorem Xz5 {x y : Qb} : ApP x y↔ApP y x:=by unfold ApP;constructor <;> (rintro (h | h | h | h) <;> simp [h])
theorem ap1 {x y : Rat} (hx : Qs 128 x) (hy : Qs 128 y) : C0 36 [.d (dq x),.d (dq y)] (·=.b (dc (Xgu x y≤0))):=by
 refine En Tryz.func36 fun _ _ _=>?_
 refine Ce rfl (Xf4 hx hy (by decide)) ?_
 exact R0
theorem Xw9 {x y : Qb} (hx : x.ok) (hy : y.ok) : C0 13 [.d (dQb x),.d (dQb y)] (·=.b (dc (ApP x y))):=by
 refine En Tryz.func13 fun _ _ _=>?_
 refine Ce rfl (ap1 hx.c hy.a) ?_
 refine By rfl (fun h1=>?_) fun h1=>?_
 · exact R1 rfl (.bp ⟨fun _=>.inl h1,fun _=>rfl⟩)
 refine Ce rfl (ap1 hy.c hx.a) ?_
 refine By rfl (fun h2=>?_) fun h2=>?_
 · exact R1 rfl (.bp ⟨fun _=>.inr (.inl h2),fun _=>rfl⟩)
 refine Ce rfl (ap1 hx.d hy.b) ?_
 refine By rfl (fun h3=>?_) fun h3=>?_
 · exact R1 rfl (.bp ⟨fun _=>.inr (.inr (.inl h3)),fun _=>rfl⟩)
 refine Ce rfl (ap1 hy.d hx.b) ?_
 exact R1 rfl (.bp (Xan.trans ⟨fun h=>.inr (.inr (.inr h)),fun h=>by rcases h with h | h | h | h <;> first | exact absurd h h1 | exact absurd h h2 | exact absurd h h3 | exact h⟩))
theorem Xx6 {x y : Qb} (hx : x.ok) (hy : y.ok) : C0 14 [.d (dQb x),.d (dQb y)] (·=.b (dc (ApP x y))):=by
 refine En Tryz.func14 fun _ _ _=>?_
 refine Ce rfl (R2.Cmp_ok hx.c hy.a (by decide)) ?_
 refine By rfl (fun h1=>?_) fun h1=>?_
 · exact R1 rfl (.bp ⟨fun _=>.inl h1,fun _=>rfl⟩)
 refine Ce rfl (R2.Cmp_ok hy.c hx.a (by decide)) ?_
 refine By rfl (fun h2=>?_) fun h2=>?_
 · exact R1 rfl (.bp ⟨fun _=>.inr (.inl h2),fun _=>rfl⟩)
 refine Ce rfl (R2.Cmp_ok hx.d hy.b (by decide)) ?_
 refine By rfl (fun h3=>?_) fun h3=>?_
 · exact R1 rfl (.bp ⟨fun _=>.inr (.inr (.inl h3)),fun _=>rfl⟩)
 refine Ce rfl (R2.Cmp_ok hy.d hx.b (by decide)) ?_
 exact R1 rfl (.bp (Xan.trans ⟨fun h=>.inr (.inr (.inr h)),fun h=>by rcases h with h | h | h | h <;> first | exact absurd h h1 | exact absurd h h2 | exact absurd h h3 | exact h⟩))
theorem Yg9 {x : Bx} (h1 : Shq x.a) (h2 : Shq x.b) (h3 : Shq x.c) (h4 : Shq x.d) : ∃ q : Qb,dBx x=dQb q∧q.ok:=by
 obtain ⟨a,e1,a1⟩:=h1
 obtain ⟨b,e2,b1⟩:=h2
 obtain ⟨c,e3,c1⟩:=h3
 obtain ⟨d,e4,d1⟩:=h4
 exact ⟨⟨a,b,c,d⟩,by show D.st (.pr (R2.dRw x.a) (.pr (R2.dRw x.b) (.pr (R2.dRw x.c) (R2.dRw x.d))))=_;rw [e1,e2,e3,e4],⟨a1,b1,c1,d1⟩⟩
theorem Xw6 {x y : Bx} (hx : x.ok) (hy : y.ok) : C0 4 [.d (dBx x),.d (dBx y)] (·=.b true):=by
 have hr:=Yc6 (l:=[x.a,x.c,x.d,x.b,y.a,y.c,y.d,y.b]) (show 8≤1000 by decide) (fun z hz=>by
  obtain ⟨h1,h2,h3,h4⟩:=hx
  obtain ⟨h5,h6,h7,h8⟩:=hy
  simp only [W1k,W5d,or_false] at hz
  rcases hz with rfl | rfl | rfl | rfl | rfl | rfl | rfl | rfl <;> assumption)
 refine En Tryz.func4 fun _ _ _=>?_
 refine Ce rfl aw55_ok ?_
 refine No rfl (fun h=>h rfl) ?_
 refine Ca rfl hr fun v hv=>?_
 obtain ⟨c,rfl,hc⟩:=hv
 cases c with
 | false =>
  refine Yes rfl nofun ?_
  refine Ce rfl aw55_ok ?_
  exact R0
 | true =>
  have hc:=hc rfl
  obtain ⟨p,ep,hp⟩:=Yg9 (x:=x) (hc _ (by simp)) (hc _ (by simp)) (hc _ (by simp)) (hc _ (by simp))
  obtain ⟨q,eq,hq⟩:=Yg9 (x:=y) (hc _ (by simp)) (hc _ (by simp)) (hc _ (by simp)) (hc _ (by simp))
  obtain ⟨b,hb⟩ : ∃ b,b=dc (ApP p q):=⟨_,rfl⟩
  have c1 : C0 13 [.d (dBx x),.d (dBx y)] (·=.b b):=by rw [ep,eq,hb];exact Xw9 hp hq
  have c2 : C0 13 [.d (dBx y),.d (dBx x)] (·=.b b):=by rw [ep,eq,hb,show ApP p q=ApP q p from propext Xz5];exact Xw9 hq hp
  have c3 : C0 14 [.d (dBx x),.d (dBx y)] (·=.b b):=by rw [ep,eq,hb];exact Xx6 hp hq
  refine No rfl (fun h=>h rfl) ?_
  refine Dz rfl ?_
  refine Dw rfl ?_
  refine Ce rfl c1 ?_
  refine Ce rfl c3 ?_
  refine Yes rfl W3j ?_
  refine Ce rfl c2 ?_
  refine Ce rfl c3 ?_
  exact Rt rfl (.one (.rf rfl) rfl rfl) (by exact congrArg AV.b (Xan.2 (W3j (a:=b=true))))
end Go.Proofs.YtpgcfjpkilabfaaGreatDoor.P55
namespace Go.Vm
open Go Go.ChangeShapes Go.WideShapes Go.ChangeAt Go.RowKit
theorem Xsm {n : Int} (h : (Lit.int .u32 n).wf=true) : 0≤n∧n<4294967296:=by
 simp [Lit.wf,IntKind.min,IntKind.max,IntKind.signed,IntKind.bits] at h;omega
theorem Xt1 {P : Program} {t : TypeId} (ht : P.underlying t=some (.int .u32)) : Reads P t fun d=>∃ n : Nat,d=.int .u32 n∧n<4294967296 :=
 (Xfd ht fun n h=>by
  have:=Xsm h
  show IntKind.u32.wrap n=n
  simp [IntKind.wrap,IntKind.bits,IntKind.signed];omega).mono fun d ⟨z,e,h⟩=>⟨z.toNat,by rw [e,W2i (Xsm h).1],by have:=Xsm h;omega⟩
theorem Xf3 {P : Program} {t : TypeId} (ht : P.underlying t=some .bool) : Reads P t fun d=>∃ b : Bool,d=.bool b:=fun w _ _ _ _ _ _ _ h =>
 let ⟨b,h1,_⟩:=DataW.trod_bool ht h
 ⟨_,⟨b,rfl⟩,h1⟩
end Go.Vm
namespace Go.Proofs.YtpgcfjpkilabfaaGreatDoor
open Go Go.Vm Go.Num P55
theorem Xt2 {t : TypeId} (ht : Tryz.prog.underlying t=some (.slice 117)) : Reads Tryz.prog t fun d=>∃ l : List Nat,d=ws l∧Xal l∧l.length<9223372036854775808 :=
 (Xhm ht (Xt1 Tryz.underlying117) (sz:=1) (by kernel_rfl) (by decide)).mono fun d ⟨l,e,hl,h⟩=>by
  obtain ⟨m,hm⟩:=Ym7 (f:=fun n : { x : Nat // x<4294967296 }=>wd n.1) fun y hy=>let ⟨n,e,hn⟩:=h y hy;⟨⟨n,hn⟩,e⟩
  refine ⟨m.map (·.1),by rw [e,hm];show _=D.sl 1 ((m.map (·.1)).map wd);rw [List.map_map];rfl,fun x hx=>?_,by rw [hm] at hl;simpa using hl⟩
  obtain ⟨y,_,rfl⟩:=W3r.1 hx
  exact y.2
theorem Xlp : Reads Tryz.prog 29 fun d=>∃ (b : Bool) (l : List Nat),d=dS b l∧Xal l∧l.length<9223372036854775808 :=
 (Xcp Tryz.underlying29 (.cons (n:=1) rfl (Xf3 Tryz.underlying4) (by kernel_rfl) (.one rfl (Xt2 Tryz.underlying27))) (fun f hf=>by cases hf;kernel_rfl)).mono fun d hd=>by
  obtain ⟨_,rfl,_,_,rfl,⟨b,rfl⟩,⟨l,rfl,h1,h2⟩⟩:=hd
  exact ⟨b,l,rfl,h1,h2⟩
theorem Xfe : Reads Tryz.prog 31 fun d=>∃ x,d=R2.dRw x∧Yfu x :=
 (Xcp Tryz.underlying31 (.cons (n:=2) rfl Xlp (by kernel_rfl) (.one rfl Xlp)) (fun f hf=>by cases hf;kernel_rfl)).mono fun d hd=>by
  obtain ⟨_,rfl,_,_,rfl,⟨b,l,rfl,h1,h2⟩,⟨c,m,rfl,h3,h4⟩⟩:=hd
  exact ⟨⟨b,l,c,m⟩,rfl,⟨h1,h3⟩,h2,h4⟩
theorem Xt4 : Reads Tryz.prog 37 fun d=>∃ x,d=dBx x∧x.ok :=
 (Xcp Tryz.underlying37 (.cons (n:=4) rfl Xfe (by kernel_rfl) (.cons (n:=4) rfl Xfe (by kernel_rfl) (.cons (n:=4) rfl Xfe (by kernel_rfl) (.one rfl Xfe)))) (fun f hf=>by cases hf;kernel_rfl)).mono fun d hd=>by
  obtain ⟨_,rfl,_,_,rfl,⟨a,rfl,ha⟩,_,_,rfl,⟨b,rfl,hb⟩,_,_,rfl,⟨c,rfl,hc⟩,⟨e,rfl,he⟩⟩:=hd
  exact ⟨⟨a,b,c,e⟩,rfl,ha,hb,hc,he⟩
theorem Yma : Arg Tryz.prog 37 fun d=>∃ x,d=dBx x∧x.ok:=Xr6 Tryz.underlying37 Xt4 fun x ⟨_,e,_⟩=>by rw [e];rfl
open Go Go.Vm Go.Num Go.Tow
section
variable {K : Nat} {G : Tw K} {S : List (Tow.El K)} {N : List Nm} {n m k : Nat} {x y z : Nm} {a b v w : Tow.El K} {u s t : Vn} {p q r : V2 K}
def Yj1 {K : Nat} (G : Tw K) (p : V2 K) (c : Tow.El K) : V2 K:=(Tow.mul K G p.1 c,Tow.mul K G p.2 c)
theorem R13.first_ok : C0 174 [.d (.int .i64 0),.d (.int .i64 0)] (·=.d (.int .i64 0)):=by
 refine En Tryz.func174 fun _ _ _=>?_
 refine No rfl (by decide) ?_
 exact R0
theorem R13.vec_ok {x y : Nm} : C0 173 [.d (dN x),.d (dN y),.d (.int .i64 0)] (·=.tup (.pr (.d (dV ⟨x,y⟩)) (.d (.int .i64 0)))):=by
 refine En Tryz.func173 fun _ _ _=>?_
 refine No rfl (by decide) ?_
 exact RTt rfl (.cons (.rf rfl) Xa3)
theorem R13.Add_g (W : Wn G S N) (hu : Gv G S N n u p) (hs : Gv G S N m s q) (hn : n≤190) (hm : m≤190) : C0 91 [.d (dV u),.d (dV s)] (VoG G S N (n+m) (Xfw p q)):=by
 refine En Tryz.func91 fun _ _ _=>?_
 refine Ca rfl (R9.Add_g W hu.x hs.x hn hm) fun v hv=>?_
 obtain ⟨z,rfl,hz⟩:=hv
 refine Ca rfl (R9.Add_g W hu.y hs.y hn hm) fun v hv=>?_
 obtain ⟨w,rfl,hw⟩:=hv
 refine Dw rfl ?_
 refine Ce rfl R13.first_ok ?_
 refine Ce rfl R13.vec_ok ?_
 exact Rt rfl (.tup (.cons (.rf rfl) Xa3)) ⟨⟨z,w⟩,rfl,hz,hw⟩
theorem R13.Neg_g (W : Wn G S N) (hu : Gv G S N n u p) (hn : n≤190) : C0 171 [.d (dV u)] (VeG G S N n (neg K p.1,neg K p.2)):=by
 refine En Tryz.func171 fun _ _ _=>?_
 refine Dw rfl ?_
 refine Ca rfl (R9.Neg_g W hu.x hn) fun v hv=>?_
 obtain ⟨z,rfl,hz⟩:=hv
 refine Ca rfl (R9.Neg_g W hu.y hn) fun v hv=>?_
 obtain ⟨w,rfl,hw⟩:=hv
 exact Rt rfl (.one (.rf rfl) rfl rfl) ⟨⟨z,w⟩,rfl,hz,hw⟩
theorem R13.Sub_g (W : Wn G S N) (hu : Gv G S N n u p) (hs : Gv G S N m s q) (hn : n≤190) (hm : m≤190) : C0 90 [.d (dV u),.d (dV s)] (VoG G S N (n+m) (Xa8 p q)):=by
 refine En Tryz.func90 fun _ _ _=>?_
 refine Dw rfl ?_
 refine Ca rfl (R13.Neg_g W hs hm) fun v hv=>?_
 obtain ⟨r,rfl,hr⟩:=hv
 refine Ca rfl (R13.Add_g W hu hr hn hm) fun v hv=>?_
 obtain ⟨z,rfl,hz⟩:=hv
 exact Rt rfl (.tup (.cons (.rf rfl) Xa3)) ⟨z,rfl,hz⟩
theorem R13.Scale_g (W : Wn G S N) (hu : Gv G S N n u p) (hx : Gd G S N m x v) (hn : n≤190) (hm : m≤190) : C0 92 [.d (dV u),.d (dN x)] (VoG G S N (n+m) (Yj1 G p v)):=by
 refine En Tryz.func92 fun _ _ _=>?_
 refine Ca rfl (R9.Mul_g W hu.x hx hn hm) fun v hv=>?_
 obtain ⟨z,rfl,hz⟩:=hv
 refine Ca rfl (R9.Mul_g W hu.y hx hn hm) fun v hv=>?_
 obtain ⟨w,rfl,hw⟩:=hv
 refine Dw rfl ?_
 refine Ce rfl R13.first_ok ?_
 refine Ce rfl R13.vec_ok ?_
 exact Rt rfl (.tup (.cons (.rf rfl) Xa3)) ⟨⟨z,w⟩,rfl,hz,hw⟩
theorem R13.Square_g (W : Wn G S N) (hu : Gv G S N n u p) (hn : n+n≤190) : C0 232 [.d (dV u)] (OpG G S N (n+n+(n+n)) (Xb2 G p p)):=by
 refine En Tryz.func232 fun _ _ _=>?_
 refine Ca rfl (R13.Dot_g W hu hu (by omega) (by omega) hn) fun v hv=>?_
 obtain ⟨z,rfl,hz⟩:=hv
 exact Rt rfl (.tup (.cons (.rf rfl) Xa3)) ⟨z,rfl,hz⟩
theorem R13.Equal_g (W : Wn G S N) (hu : Gv G S N n u p) (hs : Gv G S N m s q) (hn : n≤190) (hm : m≤190) : C0 93 [.d (dV u),.d (dV s)] (·=.b (dc (p=q))):=by
 refine En Tryz.func93 fun _ _ _=>?_
 refine Ce rfl (R9.Equal_g W hu.x hs.x hn hm) ?_
 refine By rfl (fun h=>?_) fun h=>?_
 · refine Ce rfl (R9.Equal_g W hu.y hs.y hn hm) ?_
   exact R1 rfl (.bp (Xan.trans ⟨fun h2=>W2f h h2,fun e=>by rw [e]⟩))
 · exact R1 rfl (.bp ⟨nofun,fun e=>absurd (by rw [e]) h⟩)
theorem R15.vec_ok {u : Vn} : CN0 89 [.ptr 1000001 0,.d (dV u),.d (.int .i64 0)] [(1000001,cal)] (·=.d (dV u)):=by
 refine EnW Tryz.func89 fun _ _ _ _=>?_
 refine Cn [] rfl R15.note_ok fun v hv=>?_
 refine No rfl (by decide) ?_
 exact Rw [] [(1000001,cal)] rfl (.one (.rf rfl) rfl rfl) ⟨rfl,rfl⟩
theorem R15.Plus_g (W : Wn G S N) (hu : Gv G S N n u p) (hs : Gv G S N m s q) (hn : n≤190) (hm : m≤190) : CN0 42 [.ptr 1000001 0,.d (dV u),.d (dV s)] [(1000001,cal)] (VeG G S N (n+m) (Xfw p q)):=by
 refine EnW Tryz.func42 fun _ _ _ _=>?_
 refine Ca rfl (R13.Add_g W hu hs hn hm) fun v hv=>?_
 obtain ⟨z,rfl,hz⟩:=hv
 refine Cn [] rfl R15.vec_ok fun v hv=>?_
 subst hv
 exact Rw [] [(1000001,cal)] rfl (.one (.rf rfl) rfl rfl) ⟨rfl,z,rfl,hz⟩
theorem R15.Minus_g (W : Wn G S N) (hu : Gv G S N n u p) (hs : Gv G S N m s q) (hn : n≤190) (hm : m≤190) : CN0 40 [.ptr 1000001 0,.d (dV u),.d (dV s)] [(1000001,cal)] (VeG G S N (n+m) (Xa8 p q)):=by
 refine EnW Tryz.func40 fun _ _ _ _=>?_
 refine Ca rfl (R13.Sub_g W hu hs hn hm) fun v hv=>?_
 obtain ⟨z,rfl,hz⟩:=hv
 refine Cn [] rfl R15.vec_ok fun v hv=>?_
 subst hv
 exact Rw [] [(1000001,cal)] rfl (.one (.rf rfl) rfl rfl) ⟨rfl,z,rfl,hz⟩
theorem R15.Scale_g (W : Wn G S N) (hu : Gv G S N n u p) (hx : Gd G S N m x v) (hn : n≤190) (hm : m≤190) : CN0 43 [.ptr 1000001 0,.d (dV u),.d (dN x)] [(1000001,cal)] (VeG G S N (n+m) (Yj1 G p v)):=by
 refine EnW Tryz.func43 fun _ _ _ _=>?_
 refine Ca rfl (R13.Scale_g W hu hx hn hm) fun v hv=>?_
 obtain ⟨z,rfl,hz⟩:=hv
 refine Cn [] rfl R15.vec_ok fun v hv=>?_
 subst hv
 exact Rw [] [(1000001,cal)] rfl (.one (.rf rfl) rfl rfl) ⟨rfl,z,rfl,hz⟩
theorem R15.Square_g (W : Wn G S N) (hu : Gv G S N n u p) (hn : n+n≤190) : CN0 142 [.ptr 1000001 0,.d (dV u)] [(1000001,cal)] (OnG G S N (n+n+(n+n)) (Xb2 G p p)):=by
 refine EnW Tryz.func142 fun _ _ _ _=>?_
 refine Ca rfl (R13.Square_g W hu hn) fun v hv=>?_
 obtain ⟨z,rfl,hz⟩:=hv
 refine Cn [] rfl R15.num_ok fun v hv=>?_
 subst hv
 exact Rw [] [(1000001,cal)] rfl (.one (.rf rfl) rfl rfl) ⟨rfl,z,rfl,hz⟩
theorem R15.Dot_g (W : Wn G S N) (hu : Gv G S N n u p) (hs : Gv G S N m s q) (hn : n≤190) (hm : m≤190) (h2 : n+m≤190) : CN0 145 [.ptr 1000001 0,.d (dV u),.d (dV s)] [(1000001,cal)] (OnG G S N (n+m+(n+m)) (Xb2 G p q)):=by
 refine EnW Tryz.func145 fun _ _ _ _=>?_
 refine Ca rfl (R13.Dot_g W hu hs hn hm h2) fun v hv=>?_
 obtain ⟨z,rfl,hz⟩:=hv
 refine Cn [] rfl R15.num_ok fun v hv=>?_
 subst hv
 exact Rw [] [(1000001,cal)] rfl (.one (.rf rfl) rfl rfl) ⟨rfl,z,rfl,hz⟩
theorem R15.Far_g (W : Wn G S N) (hu : Gv G S N n u p) (hs : Gv G S N m s q) (h2 : n+m+(n+m)≤190) : CN0 72 [.ptr 1000001 0,.d (dV u),.d (dV s)] [(1000001,cal)] (OnG G S N (n+m+(n+m)+(n+m+(n+m))) (Xb2 G (Xa8 p q) (Xa8 p q))):=by
 refine EnW Tryz.func72 fun _ _ _ _=>?_
 refine Cn [] rfl (R15.Minus_g W hu hs (by omega) (by omega)) fun v hv=>?_
 obtain ⟨r,rfl,hr⟩:=hv
 refine Cn [] rfl (R15.Square_g W hr h2) fun v hv=>?_
 obtain ⟨z,rfl,hz⟩:=hv
 exact Rw [] [(1000001,cal)] rfl (.one (.rf rfl) rfl rfl) ⟨rfl,z,rfl,hz⟩
end
end Go.Proofs.YtpgcfjpkilabfaaGreatDoor
namespace Go.Tow
open Go
section
section
variable {K : Nat} {G : Tw K} {p q r u x y w z : V2 K}
def Xm4 (p : V2 K) : V2 K:=(neg K p.1,neg K p.2)
theorem Xxk : Xcb G p (Xbv G p q)=mul K G (Xb2 G p p) q.2:=by
 obtain ⟨a,b⟩:=p
 obtain ⟨c,d⟩:=q
 have L:=Xay K G
 exact (Laws.req L [a,b,c,d] (.add (.mul (.neg (.v 1)) (.add (.mul (.v 0) (.v 2)) (.neg (.mul (.v 1) (.v 3))))) (.mul (.v 0) (.add (.mul (.v 0) (.v 3)) (.mul (.v 1) (.v 2))))) (.mul (.add (.mul (.v 0) (.v 0)) (.mul (.v 1) (.v 1))) (.v 3)) (by decide +kernel))
theorem Xou : Xcb G q p=neg K (Xcb G p q):=by
 obtain ⟨a,b⟩:=p
 obtain ⟨c,d⟩:=q
 have L:=Xay K G
 exact (Laws.req L [a,b,c,d] (.add (.mul (.neg (.v 3)) (.v 0)) (.mul (.v 2) (.v 1))) (.neg (.add (.mul (.neg (.v 1)) (.v 2)) (.mul (.v 0) (.v 3)))) (by decide +kernel))
theorem Xdu : Xbv G p q=Xbv G q p:=by
 obtain ⟨a,b⟩:=p
 obtain ⟨c,d⟩:=q
 have L:=Xay K G
 exact W2f (Laws.req L [a,b,c,d] (.add (.mul (.v 0) (.v 2)) (.neg (.mul (.v 1) (.v 3)))) (.add (.mul (.v 2) (.v 0)) (.neg (.mul (.v 3) (.v 1)))) (by decide +kernel)) (Laws.req L [a,b,c,d] (.add (.mul (.v 0) (.v 3)) (.mul (.v 1) (.v 2))) (.add (.mul (.v 2) (.v 1)) (.mul (.v 3) (.v 0))) (by decide +kernel))
theorem Xjj : Xbv G (Xm4 p) q=Xm4 (Xbv G p q):=by
 obtain ⟨a,b⟩:=p
 obtain ⟨c,d⟩:=q
 have L:=Xay K G
 exact W2f (Laws.req L [a,b,c,d] (.add (.mul (.neg (.v 0)) (.v 2)) (.neg (.mul (.neg (.v 1)) (.v 3)))) (.neg (.add (.mul (.v 0) (.v 2)) (.neg (.mul (.v 1) (.v 3))))) (by decide +kernel)) (Laws.req L [a,b,c,d] (.add (.mul (.neg (.v 0)) (.v 3)) (.mul (.neg (.v 1)) (.v 2))) (.neg (.add (.mul (.v 0) (.v 3)) (.mul (.v 1) (.v 2)))) (by decide +kernel))
theorem Xk7 (G : Tw K) {p : V2 K} : Xm4 (Xm4 p)=p:=W2f ((Xay K G).nn _) ((Xay K G).nn _)
theorem Xqb : Xbv G p (Xm4 q)=Xm4 (Xbv G p q):=by rw [Xdu,Xjj,Xdu]
theorem Xe7 (hG : red K G) (hp : p≠vz K) : sgn K G (Xb2 G p p)=1:=by
 have Sg:=Xas (Xag hG)
 have h1:=(Xdr (Sg.tri p.1)).1
 have h2:=(Xdr (Sg.tri p.2)).1
 have h3:=Sg.sa (mul K G p.1 p.1) (mul K G p.2 p.2) (by rw [Sg.sm];exact h1) (by rw [Sg.sm];exact h2)
 have h3 : 0≤sgn K G (Xb2 G p p):=h3
 rcases Sg.tri (Xb2 G p p) with h | h | h
 · exact h
 · exact absurd (vsq hG h) hp
 · omega
theorem Xsn (hG : red K G) (hp : p≠vz K) : vup G (Xm4 p)↔¬ vup G p:=by
 have Sg:=Xas (Xag hG)
 have h0 : ¬ (sgn K G p.1=0∧sgn K G p.2=0):=fun h=>hp ((Xeo hG).2 h)
 have h1:=Sg.tri p.1
 have h2:=Sg.tri p.2
 unfold vup Xm4
 simp only [Sg.sn]
 omega
theorem Yfz (h : vup G p) : 0≤sgn K G p.2:=by unfold vup at h;omega
theorem Yad (hG : red K G) (h : vup G p) : p≠vz K:=fun e=>by
 have:=(Xeo hG).1 e
 unfold vup at h
 omega
theorem Xxi (hG : red K G) (hp : vup G p) (hq : vup G q) (h : sgn K G p.2=0) : vup G (Xbv G p q):=by
 have Sg:=Xas (Xag hG)
 have L:=Xay K G
 have hx : sgn K G p.1=1:=by have:=Sg.tri p.1;unfold vup at hp;omega
 have z2:=(Xbz hG).1 h
 have e1 : (Xbv G p q).1=mul K G p.1 q.1:=by
  show add K (mul K G p.1 q.1) (neg K (mul K G p.2 q.2))=_
  rw [z2,L.zm,L.nz,L.az]
 have e2 : (Xbv G p q).2=mul K G p.1 q.2:=by
  show add K (mul K G p.1 q.2) (mul K G p.2 q.1)=_
  rw [z2,L.zm,L.az]
 unfold vup
 rw [e1,e2,Sg.sm,Sg.sm,hx,W3y,W3y]
 exact hq
def vh (G : Tw K) (p : V2 K) : Int:=if vup G p then 0 else 1
def Xgp (G : Tw K) (p : V2 K) : V2 K:=if vup G p then p else Xm4 p
def vhe (G : Tw K) (p q : V2 K) : Int:=vh G (Xbv G (Xgp G p) (Xgp G q))
theorem Xgf : vh G p=0∧vup G p∨vh G p=1∧¬ vup G p:=by
 unfold vh
 by_cases h : vup G p
 · rw [if_pos h];exact .inl ⟨rfl,h⟩
 · rw [if_neg h];exact .inr ⟨rfl,h⟩
theorem Yag (hG : red K G) (hp : p≠vz K) : vh G (Xm4 p)=1 - vh G p:=by
 have h:=Xsn hG hp
 unfold vh
 by_cases hu : vup G p
 · rw [if_pos hu,if_neg fun e=>h.1 e hu];rfl
 · rw [if_neg hu,if_pos (h.2 hu)];rfl
theorem Xji (hG : red K G) (hp : p≠vz K) : vup G (Xgp G p):=by
 unfold Xgp
 by_cases hu : vup G p
 · rw [if_pos hu];exact hu
 · rw [if_neg hu];exact (Xsn hG hp).2 hu
theorem Xfv : vh G p=0∧vup G p∧p=Xgp G p∨vh G p=1∧¬ vup G p∧p=Xm4 (Xgp G p):=by
 unfold Xgp
 rcases Xgf (G:=G) (p:=p) with ⟨h1,h2⟩ | ⟨h1,h2⟩
 · rw [if_pos h2];exact .inl ⟨h1,h2,rfl⟩
 · rw [if_neg h2,Xk7 G];exact .inr ⟨h1,h2,rfl⟩
section
variable (hG : red K G) (hp : p≠vz K) (hq : q≠vz K)
include hG hp hq
theorem Ynl : Xbv G (Xgp G p) (Xgp G q)≠vz K:=Xjk hG (Yad hG (Xji hG hp)) (Yad hG (Xji hG hq))
theorem Yf1 : vh G (Xbv G p q)=(vh G p+vh G q+vhe G p q) % 2:=by
 have hn:=Ynl hG hp hq
 have ht:=Xgf (G:=G) (p:=Xbv G (Xgp G p) (Xgp G q))
 unfold vhe
 rcases Xfv (G:=G) (p:=p) with ⟨a1,_,e1⟩ | ⟨a1,_,e1⟩ <;> rcases Xfv (G:=G) (p:=q) with ⟨a2,_,e2⟩ | ⟨a2,_,e2⟩
 · rw [a1,a2,show Xbv G p q=Xbv G (Xgp G p) (Xgp G q) by rw [←e1,←e2]];omega
 · rw [a1,a2,show Xbv G p q=Xm4 (Xbv G (Xgp G p) (Xgp G q)) by rw [←Xqb,←e1,←e2],Yag hG hn];omega
 · rw [a1,a2,show Xbv G p q=Xm4 (Xbv G (Xgp G p) (Xgp G q)) by rw [←Xjj,←e1,←e2],Yag hG hn];omega
 · rw [a1,a2,show Xbv G p q=Xm4 (Xm4 (Xbv G (Xgp G p) (Xgp G q))) by rw [←Xjj,←Xqb,←e1,←e2],Xk7 G];omega
omit hG hp hq in
theorem Xk8 : Xg8 G p q=if vh G p=vh G q then - sgn K G (Xcb G p q) else vh G p - vh G q:=by
 unfold Xg8
 rcases Xgf (G:=G) (p:=p) with ⟨a1,b1⟩ | ⟨a1,b1⟩ <;> rcases Xgf (G:=G) (p:=q) with ⟨a2,b2⟩ | ⟨a2,b2⟩ <;> rw [a1,a2] <;> simp [b1,b2]
theorem Xsq {f g : Int} : Yf3 G p q f g=f+g+(vh G p+vh G q+vhe G p q) / 2:=by
 have Sg:=Xas (Xag hG)
 have hm:=Yf1 hG hp hq
 have hpq:=Xjk hG hp hq
 have hc:=Xk8 (G:=G) (p:=Xbv G p q) (q:=p)
 have ht:=Xgf (G:=G) (p:=Xbv G (Xgp G p) (Xgp G q))
 have e1 : sgn K G (Xcb G (Xbv G p q) p)=- sgn K G q.2:=by
  rw [Xou,Sg.sn,Xxk,Sg.sm,Xe7 hG hp,W3y]
 rw [e1] at hc
 have ty:=Sg.tri q.2
 have he : vhe G p q=vh G (Xbv G (Xgp G p) (Xgp G q)):=rfl
 rw [←he] at ht
 have hf : sgn K G q.2=0→vhe G p q=0:=fun h0=>by
  have hy : sgn K G (Xgp G q).2=0:=by
   rcases Xfv (G:=G) (p:=q) with ⟨_,_,e2⟩ | ⟨_,b2,_⟩
   · rw [←e2];exact h0
   · rw [show Xgp G q=Xm4 q from if_neg b2];show sgn K G (neg K q.2)=0;rw [Sg.sn,h0];rfl
  have:=Xxi hG (Xji hG hq) (Xji hG hp) hy
  rw [Xdu] at this
  rw [he];exact if_pos this
 have hq' : (vh G q=0→0≤sgn K G q.2)∧(vh G q=1→sgn K G q.2≤0):=by
  rcases Xgf (G:=G) (p:=q) with ⟨a2,b2⟩ | ⟨a2,b2⟩
  · exact ⟨fun _=>Yfz b2,fun h=>by omega⟩
  · refine ⟨fun h=>by omega,fun _=>?_⟩
    unfold vup at b2;omega
 have hp' : vh G p=0∨vh G p=1:=by rcases Xgf (G:=G) (p:=p) with ⟨a,_⟩ | ⟨a,_⟩ <;> omega
 have hq2 : vh G q=0∨vh G q=1:=by rcases Xgf (G:=G) (p:=q) with ⟨a,_⟩ | ⟨a,_⟩ <;> omega
 unfold Yf3
 rw [hc]
 rcases hp' with a1 | a1 <;> rcases hq2 with a2 | a2 <;> rcases ht with ⟨a3,_⟩ | ⟨a3,_⟩ <;> rw [a1,a2,a3] at hm <;> rw [a1,a2,a3,hm] <;> simp <;> omega
omit hG hp hq in
theorem Xxj : vhe G p q=vhe G q p:=by unfold vhe;rw [Xdu]
omit hG hp hq in
end
theorem Xsr (hG : red K G) (hp : p≠vz K) (hq : q≠vz K) {f g : Int} : Yf3 G p q f g=Yf3 G q p g f:=by
 rw [Xsq hG hp hq,Xsq hG hq hp,Xxj (p:=p)]
 omega
theorem Xso (hG : red K G) (hp : p≠vz K) : Xep p≠vz K:=fun h=>hp (by
 have Sg:=Xas (Xag hG)
 rw [Xeo hG] at h ⊢
 have h2 : sgn K G (neg K p.2)=0:=h.2
 rw [Sg.sn] at h2
 exact ⟨h.1,by omega⟩)
end
end
section
section
variable {K : Nat} {G : Tw K} {p q r u x y w z : V2 K} {s : El K}
theorem Xk9 (hG : red K G) : Xg8 G q p=- Xg8 G p q:=by
 have Sg:=Xas (Xag hG)
 rw [Xk8,Xk8,Xou (p:=p),Sg.sn]
 by_cases h : vh G p=vh G q
 · rw [if_pos h,if_pos h.symm]
 · rw [if_neg h,if_neg fun e=>h e.symm];omega
def vsc (G : Tw K) (s : El K) (p : V2 K) : V2 K:=(mul K G s p.1,mul K G s p.2)
theorem Yko (hG : red K G) (hs : sgn K G s=1) : vh G (vsc G s p)=vh G p:=by
 have Sg:=Xas (Xag hG)
 have : vup G (vsc G s p)↔vup G p:=by unfold vup vsc;simp only [Sg.sm,hs,W3y]
 unfold vh
 by_cases h : vup G p
 · rw [if_pos h,if_pos (this.2 h)]
 · rw [if_neg h,if_neg fun e=>h (this.1 e)]
theorem Yf2 : Xcb G p (vsc G s q)=mul K G s (Xcb G p q):=by
 obtain ⟨a,b⟩:=p
 obtain ⟨c,d⟩:=q
 have L:=Xay K G
 exact (Laws.req L [a,b,c,d,s] (.add (.mul (.neg (.v 1)) (.mul (.v 4) (.v 2))) (.mul (.v 0) (.mul (.v 4) (.v 3)))) (.mul (.v 4) (.add (.mul (.neg (.v 1)) (.v 2)) (.mul (.v 0) (.v 3)))) (by decide +kernel))
theorem Xsp (hG : red K G) (hs : sgn K G s=1) : Xg8 G p (vsc G s q)=Xg8 G p q:=by
 have Sg:=Xas (Xag hG)
 rw [Xk8,Xk8,Yko hG hs,Yf2,Sg.sm,hs,W3y]
theorem Xrg : Xbv G (Xbv G (Xep p) x) (Xbv G (Xep x) q)=vsc G (Xb2 G x x) (Xbv G (Xep p) q):=by
 obtain ⟨a,b⟩:=p
 obtain ⟨c,d⟩:=q
 obtain ⟨e,f⟩:=x
 have L:=Xay K G
 exact W2f (Laws.req L [a,b,c,d,e,f] (.add (.mul (.add (.mul (.v 0) (.v 4)) (.neg (.mul (.neg (.v 1)) (.v 5)))) (.add (.mul (.v 4) (.v 2)) (.neg (.mul (.neg (.v 5)) (.v 3))))) (.neg (.mul (.add (.mul (.v 0) (.v 5)) (.mul (.neg (.v 1)) (.v 4))) (.add (.mul (.v 4) (.v 3)) (.mul (.neg (.v 5)) (.v 2)))))) (.mul (.add (.mul (.v 4) (.v 4)) (.mul (.v 5) (.v 5))) (.add (.mul (.v 0) (.v 2)) (.neg (.mul (.neg (.v 1)) (.v 3))))) (by decide +kernel)) (Laws.req L [a,b,c,d,e,f] (.add (.mul (.add (.mul (.v 0) (.v 4)) (.neg (.mul (.neg (.v 1)) (.v 5)))) (.add (.mul (.v 4) (.v 3)) (.mul (.neg (.v 5)) (.v 2)))) (.mul (.add (.mul (.v 0) (.v 5)) (.mul (.neg (.v 1)) (.v 4))) (.add (.mul (.v 4) (.v 2)) (.neg (.mul (.neg (.v 5)) (.v 3)))))) (.mul (.add (.mul (.v 4) (.v 4)) (.mul (.v 5) (.v 5))) (.add (.mul (.v 0) (.v 3)) (.mul (.neg (.v 1)) (.v 2)))) (by decide +kernel))
theorem Ycc (hG : red K G) (hp : p≠vz K) (hq : q≠vz K) (hx : x≠vz K) : Xg8 G (Xbv G (Xep p) x) (Xbv G (Xep p) q)≤0↔Xg8 G (Xbv G (Xep x) q) (Xbv G (Xep p) q)≤0:=by
 have h1:=Xjk hG (Xso hG hp) hx
 have h2:=Xjk hG (Xso hG hx) hq
 have hd:=Xe7 hG hx
 have hc:=Xsr hG h1 h2 (f:=0) (g:=0)
 unfold Yf3 at hc
 rw [Xdu (p:=Xbv G (Xep x) q),Xrg] at hc
 rw [Xk9 hG (p:=Xbv G (Xep p) x),Xk9 hG (p:=Xbv G (Xep x) q),Xsp hG hd,Xsp hG hd] at hc
 by_cases a : - Xg8 G (Xbv G (Xep p) x) (Xbv G (Xep p) q)<0
 · rw [if_pos a] at hc
   by_cases b : - Xg8 G (Xbv G (Xep x) q) (Xbv G (Xep p) q)<0
   · omega
   · rw [if_neg b] at hc;omega
 · rw [if_neg a] at hc
   by_cases b : - Xg8 G (Xbv G (Xep x) q) (Xbv G (Xep p) q)<0
   · rw [if_pos b] at hc;omega
   · omega
end
end
end Go.Tow
namespace Go.Proofs.YtpgcfjpkilabfaaGreatDoor
open Go Go.Vm Go.Num Go.Tow
section
variable {K : Nat} {G : Tw K} {S : List (Tow.El K)} {N : List Nm} {n m k : Nat} {x y z : Nm} {a b v w s : Tow.El K} {u t : Vn} {p q r pa pb pc px : V2 K}
def onV (G : Tw K) (cw : Bool) (ua ub ux : V2 K) : Prop:=match cw with
 | true=>Xg8 G (Xbv G (Xep ub) ux) (Xbv G (Xep ub) ua)≤0
 | false=>Xg8 G (Xbv G (Xep ua) ux) (Xbv G (Xep ua) ub)≤0
namespace P47
def Yoh (c : Cv) : Cv:=match c.cw with
 | true=>⟨c.arc,c.B,c.A,c.C,false⟩
 | false=>c
theorem Yb1 {c : Cv} : C0 123 [.d (dC c)] (·=.d (dC (Yoh c))):=by
 obtain ⟨arc,A,B,C,cw⟩:=c
 cases cw with
 | true =>
  refine En Tryz.func123 fun _ _ _=>?_
  refine Yes rfl rfl ?_
  exact R1 rfl (.sd (.pd (.eq rfl) (.pd (.eq rfl) (.pd (.eq rfl) (.pd (.eq rfl) (.bd rfl))))))
 | false =>
  refine En Tryz.func123 fun _ _ _=>?_
  refine No rfl nofun ?_
  exact R0
theorem Xfs {c : Cv} {X Y U : Vn} (W : Wn G S N) (hU : C0 101 [.d (dV X),.d (dV c.C)] (·=.tup (.pr (.d (dV U)) (.d (.int .i64 0))))) (hu : Gv G S N n U p) (ht : P19.Trm U.x) (hV : C0 101 [.d (dV Y),.d (dV c.C)] (VoG G S N m q)) (h2 : n+m≤190) (hp : p≠vz K) (hq : q≠vz K) :
 C0 124 [.d (dC c),.d (dV X),.d (dV Y)] (fun r=>∃ v,r=.tup (.pr (.d (dT v 0)) (.d (.int .i64 0)))∧Gv G S N (n+m+(n+m)) v (Xbv G (Xep p) q)):=by
 refine En Tryz.func124 fun _ _ _=>?_
 refine Ce rfl hU ?_
 refine No rfl (by decide) ?_
 refine Ca rfl hV fun v hv=>?_
 obtain ⟨V,rfl,hv⟩:=hv
 refine No rfl (by decide) ?_
 refine Ca rfl (P19.Of_g W hu hv ht h2) fun v hv=>?_
 rcases hv with ⟨_,t,rfl,ht⟩ | ⟨h,_⟩
 · exact Rt rfl (.tup (.cons (.rf rfl) Xa3)) ⟨t,rfl,ht⟩
 · exact absurd h (fun h=>h.elim hp hq)
theorem On_part {c : Cv} {X U V : Vn} (W : Wn G S N) (ha : c.arc=true) (hz : C0 120 [.d (dC c)] (·=.tup (.pr (.d (P15.dK c.C z)) (.d (.int .i64 0))))) (hs : C0 121 [.d (P15.dK c.C z),.d (dV X)] (·=.tup (.pr (.d (.int .i64 0)) (.d (.int .i64 0))))) (hf : C0 122 [.d (dC c)] (·=.b false))
 (hU : C0 101 [.d (dV c.A),.d (dV c.C)] (·=.tup (.pr (.d (dV U)) (.d (.int .i64 0))))) (hu : Gv G S N n U p) (ht : P19.Trm U.x) (hV : C0 101 [.d (dV c.B),.d (dV c.C)] (·=.tup (.pr (.d (dV V)) (.d (.int .i64 0))))) (hv : Gv G S N n V q) (ht2 : P19.Trm V.x)
 (hX : C0 101 [.d (dV X),.d (dV c.C)] (VoG G S N m r)) (h2 : n≤10∧m≤10) (hp : p≠vz K) (hq : q≠vz K) (hr : r≠vz K) : C0 57 [.d (dC c),.d (dV X)] (·=.b (dc (onV G c.cw p q r))):=by
 have hU' : C0 101 [.d (dV c.A),.d (dV c.C)] (VoG G S N n p):=hU.mono fun v e=>⟨U,e,hu⟩
 have hV' : C0 101 [.d (dV c.B),.d (dV c.C)] (VoG G S N n q):=hV.mono fun v e=>⟨V,e,hv⟩
 obtain ⟨_,A,B,C,cw⟩:=c
 obtain rfl : _=true:=ha
 refine En Tryz.func57 fun _ _ _=>?_
 refine No rfl (fun h=>h rfl) ?_
 refine Ce rfl hz ?_
 refine No rfl (by decide) ?_
 refine Ce rfl hs ?_
 refine No rfl (by decide) ?_
 refine No rfl (by decide) ?_
 refine Ce rfl hf ?_
 refine No rfl nofun ?_
 cases cw with
 | true =>
  refine Ce rfl (Yb1 (c:=⟨true,A,B,C,true⟩)) ?_
  refine Ca rfl (Xfs (c:=⟨true,B,A,C,false⟩) W hV hv ht2 hX (by omega) hq hr) fun v hv=>?_
  obtain ⟨t1,rfl,g1⟩:=hv
  refine Ca rfl (Xfs (c:=⟨true,B,A,C,false⟩) W hV hv ht2 hU' (by omega) hq hp) fun v hv=>?_
  obtain ⟨t2,rfl,g2⟩:=hv
  refine Ce rfl (P19.Cmp_g W g1 g2 (by omega)) ?_
  refine Yes rfl (by decide) ?_
  refine Yes rfl (by decide) ?_
  refine Yes rfl (by decide) ?_
  exact R0
 | false =>
  refine Ce rfl (Yb1 (c:=⟨true,A,B,C,false⟩)) ?_
  refine Ca rfl (Xfs (c:=⟨true,A,B,C,false⟩) W hU hu ht hX (by omega) hp hr) fun v hv=>?_
  obtain ⟨t1,rfl,g1⟩:=hv
  refine Ca rfl (Xfs (c:=⟨true,A,B,C,false⟩) W hU hu ht hV' (by omega) hp hq) fun v hv=>?_
  obtain ⟨t2,rfl,g2⟩:=hv
  refine Ce rfl (P19.Cmp_g W g1 g2 (by omega)) ?_
  refine Yes rfl (by decide) ?_
  refine Yes rfl (by decide) ?_
  refine Yes rfl (by decide) ?_
  exact R0
end P47
namespace R47
theorem Yah (G : Tw K) : Xep (Xep p)=p:=W2f rfl ((Xay K G).nn _)
theorem Yf0 : Xbv G (Xep p) q=(Xb2 G p q,Xcb G p q):=W2f (by rw [←Yaf,Yah G]) (by rw [←Yae,Yah G])
theorem Yni {s : Vn} (W : Wn G S N) (hu : Gv G S N n u p) (hs : Gv G S N m s q) (h2 : n+m≤190) : C0 237 [.d (dV u),.d (dV s)] (P19.OfG G S N (n+m+(n+m)) p q):=by
 refine En Tryz.func237 fun _ _ _=>?_
 refine Ce rfl (R13.Zero_g W hu (by omega)) ?_
 refine By rfl (fun h=>?_) fun h=>?_
 · exact Rt rfl (.tup (.cons Xrx Xa3)) (.inr ⟨.inl h,rfl⟩)
 · refine Ce rfl (R13.Zero_g W hs (by omega)) ?_
   refine By rfl (fun h1=>?_) fun h1=>?_
   · exact Rt rfl (.tup (.cons Xrx Xa3)) (.inr ⟨.inr h1,rfl⟩)
   refine Dw rfl ?_
   refine Cn [(1000001,15)] rfl (R15.Dot_g W hu hs (by omega) (by omega) h2) fun v hv=>?_
   obtain ⟨d,rfl,hd⟩:=hv
   refine Cn [(1000001,15)] rfl (R15.Cross_g W hu hs (by omega) (by omega) h2) fun v hv=>?_
   obtain ⟨c,rfl,hc⟩:=hv
   refine Cn [(1000001,15)] rfl (R19.result_g (u:=⟨d,c⟩) (p:=(Xb2 G p q,Xcb G p q)) (f:=0) ⟨hd,hc⟩) fun v hv=>?_
   rcases hv with ⟨_,w,rfl,hw⟩ | ⟨h3,_⟩
   · exact Rt rfl (.tup (.cons (.rf rfl) Xa3)) (.inl ⟨fun e=>e.elim h h1,w,rfl,by rw [Yf0];exact hw⟩)
   · exact absurd (by decide) h3
theorem Yjz {c : Cv} (W : Wn G S N) (ha : c.arc=true) (hu : Gv G S N n c.A p) (hs : Gv G S N m c.B q) (hn : n≤190) (hm : m≤190) : C0 147 [.d (dC c)] (·=.b (dc (p=q))):=by
 obtain ⟨_,A,B,C,cw⟩:=c
 obtain rfl : _=true:=ha
 refine En Tryz.func147 fun _ _ _=>?_
 refine Yes rfl rfl ?_
 refine Ce rfl (R13.Equal_g W hu hs hn hm) ?_
 exact R0
def plD (cw : Bool) (pa px : V2 K) : V2 K × V2 K:=match cw with
 | true=>(px,pa)
 | false=>(pa,px)
theorem Xt8 {c : Cv} {X : Vn} (W : Wn G S N) (hC : Gv G S N 1 c.C pc) (hA : Gv G S N 1 c.A pa) (hX : Gv G S N n X px) (hn : n≤10) (hp : Xa8 pa pc≠vz K) (hq : Xa8 px pc≠vz K) : CN0 149 [.ptr 1000001 0,.d (dC c),.d (dV X)] [(1000001,cal)] (fun r=>∃ v,r=.d (dT v 0)∧Gv G S N 40 v (Xbv G (Xep (plD c.cw (Xa8 pa pc) (Xa8 px pc)).1) (plD c.cw (Xa8 pa pc) (Xa8 px pc)).2)):=by
 obtain ⟨arc,A,B,C,cw⟩:=c
 refine EnW Tryz.func149 fun _ _ _ _=>?_
 refine Dz rfl ?_
 refine Cn [] rfl (R15.Minus_g W hA hC (by decide) (by decide)) fun v hv=>?_
 obtain ⟨u,rfl,hu⟩:=hv
 refine Cn [] rfl (R15.Minus_g W hX hC (by omega) (by decide)) fun v hv=>?_
 obtain ⟨t,rfl,ht⟩:=hv
 cases cw with
 | true =>
  refine Yes rfl rfl ?_
  refine Ca rfl (Yni W ht hu (by omega)) fun v hv=>?_
  rcases hv with ⟨_,t,rfl,ht⟩ | ⟨h,_⟩
  · refine No rfl (by decide) ?_
    exact Rw [] [(1000001,cal)] rfl (.one (.rf rfl) rfl rfl) ⟨rfl,t,rfl,ht.mono (by omega)⟩
  · exact absurd h (fun h=>h.elim hq hp)
 | false =>
  refine No rfl nofun ?_
  refine Ca rfl (Yni W hu ht (by omega)) fun v hv=>?_
  rcases hv with ⟨_,t,rfl,ht⟩ | ⟨h,_⟩
  · refine No rfl (by decide) ?_
    exact Rw [] [(1000001,cal)] rfl (.one (.rf rfl) rfl rfl) ⟨rfl,t,rfl,ht.mono (by omega)⟩
  · exact absurd h (fun h=>h.elim hp hq)
theorem Xzq (W : Wn G S N) (hu : Gv G S N n u p) (hs : Gv G S N m t q) (h2 : n+m≤190) : CN0 148 [.ptr 1000001 0,.d (dT u 0),.d (dT t 0)] [(1000001,cal)] (·=.b (dc (Xg8 G p q≤0))):=by
 refine EnW Tryz.func148 fun _ _ _ _=>?_
 refine Ce rfl (R19.Cmp_g W hu hs h2) ?_
 refine No rfl (by decide) ?_
 exact Rw [] [(1000001,cal)] rfl (.one (.rf rfl) rfl rfl) ⟨rfl,rfl⟩
theorem On_g {c : Cv} {X : Vn} (W : Wn G S N) (ha : c.arc=true) (hC : Gv G S N 1 c.C pc) (hA : Gv G S N 1 c.A pa) (hB : Gv G S N 1 c.B pb) (hX : Gv G S N n X px) (hn : n≤10) (hp : Xa8 pa pc≠vz K) (hq : Xa8 pb pc≠vz K) (hr : Xa8 px pc≠vz K) (he : Xb2 G (Xa8 pa pc) (Xa8 pa pc)=Xb2 G (Xa8 px pc) (Xa8 px pc)) :
 C0 74 [.d (dC c),.d (dV X)] (·=.b (dc (pa=pb∨onV G c.cw (Xa8 pa pc) (Xa8 pb pc) (Xa8 px pc)))):=by
 have hv:=Ycc W.w.g hq hp hr
 obtain ⟨_,A,B,C,cw⟩:=c
 obtain rfl : _=true:=ha
 refine En Tryz.func74 fun _ _ _=>?_
 refine No rfl (fun h=>h rfl) ?_
 refine Dw rfl ?_
 refine Cn [(1000001,10)] rfl (R15.Far_g W hA hC (by decide)) fun v hv=>?_
 obtain ⟨z1,rfl,h1⟩:=hv
 refine Cn [(1000001,10)] rfl (R15.Far_g W hX hC (by omega)) fun v hv=>?_
 obtain ⟨z2,rfl,h2⟩:=hv
 refine Ce rfl (R9.Equal_g W h1 h2 (by omega) (by omega)) ?_
 refine No rfl (fun h=>h he) ?_
 refine Dw rfl ?_
 refine Ce rfl (Yjz (c:=⟨true,A,B,C,cw⟩) W rfl hA hB (by decide) (by decide)) ?_
 refine By rfl (fun h=>?_) fun h=>?_
 · exact R1 rfl (.bp ⟨fun _=>.inl h,fun _=>rfl⟩)
 refine Cn [(1000001,10)] rfl (Xt8 (c:=⟨true,A,B,C,cw⟩) W hC hA hX hn hp hr) fun v hv=>?_
 obtain ⟨t1,rfl,g1⟩:=hv
 refine Cn [(1000001,10)] rfl (Xt8 (c:=⟨true,A,B,C,cw⟩) W hC hA hB (by decide) hp hq) fun v hv=>?_
 obtain ⟨t2,rfl,g2⟩:=hv
 refine Cn [(1000001,10)] rfl (Xzq W g1 g2 (by decide)) fun v hv'=>?_
 subst hv'
 refine R1 rfl (.bp (Xan.trans ?_))
 cases cw with
 | true=>exact ⟨fun h3=>.inr (hv.2 h3),fun h3=>h3.elim (fun e=>absurd e h) fun h3=>hv.1 h3⟩
 | false=>exact ⟨fun h3=>.inr h3,fun h3=>h3.elim (fun e=>absurd e h) id⟩
end R47
end
end Go.Proofs.YtpgcfjpkilabfaaGreatDoor
namespace Go.Vm
open Go
variable {c : Cx} {s : St} {p : Pl}
noncomputable def Yla (tb : Nat→Option TI) (n : Nat) (s : St) : Option (Pl × Nat × Nat × List D × AV):=match nxA tb n s with
 | some (p,o,[a,b])=>match o.op with
  | .call ⟨.builtin .append,_,⟨[T,T']⟩⟩=>match Nat.beq T T',tb T,look p.H (o.dst.getD 0) with
   | true,some ti,none=>match Nat.ble ti.eb 1024,ti.z,b with
    | true,.sl sz _,.d (.sl s ys)=>match Nat.beq s sz with
     | true=>some (p,o.dst.getD 0,sz,ys,a)
     | false=>none
    | true,.sl sz _,.nil=>some (p,o.dst.getD 0,sz,[],a)
    | true,.sl sz _,.gr _ s ys=>match Nat.beq s sz with
     | true=>some (p,o.dst.getD 0,sz,ys,a)
     | false=>none
    | true,.sl sz _,.lit s ys=>match Nat.beq s sz with
     | true=>some (p,o.dst.getD 0,sz,ys,a)
     | false=>none
    | _,_,_=>none
   | _,_,_=>none
  | _=>none
 | _=>none
theorem Ydj {d sz : Nat} {ys : List D} {a v : AV} {us : Hpl} (h : Yla c.tb c.n s=some (p,d,sz,ys,a)) (hF : ∀ ti : TI,ti.eb≤1024→Xzu d (look p.H) ti sz ys a=some (v,us)) (k : p.nx' c v us) : StP c s:=by
 unfold Yla at h
 split at h <;> try cases h
 rename_i p' o a' b hA
 split at h <;> try cases h
 rename_i asx T T' ho
 split at h <;> try cases h
 rename_i ti hT hti hd
 have hT:=W0f hT
 subst hT
 have fin : ∀ {sz' ys' xs0},ti.eb≤1024→ti.z=.sl sz' xs0→Xrl (look p'.H) ti.z sz' b=some ys'→(p',o.dst.getD 0,sz',ys',a')=(p,d,sz,ys,a)→StP c s:=by
  intro sz' ys' xs0 he hz hs e
  injection e with e1 e2;injection e2 with e2 e3;injection e3 with e3 e4;injection e4 with e4 e5
  subst e1;subst e2;subst e3;subst e4;subst e5
  refine Xcd hA ?_ k
  rw [ho]
  simp only [F,if_true,hti,hd,hz]
  rw [hz] at hs
  rw [hs]
  exact hF ti he
 split at h
 · rename_i he hz
   split at h <;> cases h
   rename_i hs
   have hs:=W0f hs
   exact fin (W1o he) hz (by simp [Xrl,toD,hs]) rfl
 · rename_i he hz
   cases h
   exact fin (W1o he) hz (by simp [Xrl,hz,toD]) rfl
 · rename_i he hz
   split at h <;> cases h
   rename_i hs
   have hs:=W0f hs
   exact fin (W1o he) hz (by simp [Xrl,toD,hs]) rfl
 · rename_i he hz
   split at h <;> cases h
   rename_i hs
   have hs:=W0f hs
   exact fin (W1o he) hz (by simp [Xrl,toD,hs]) rfl
 · cases h
theorem Xtv {n : Nat} {ti : TI} (h : n≤137438953472) (he : ti.eb≤1024) : Xim n ti:=⟨by
 have:=W1t h he;omega,by omega⟩
theorem ApH {d sz o : Nat} {xs ys : List D} (zs : List D) (h : Yla c.tb c.n s=some (p,d,sz,ys,.gr o sz xs)) (hz : xs++ys=zs) (hr : zs.length≤137438953472) (k : p.nx' c (.gr d sz zs) [(d,.tok zs.length sz),(o,.dead)]) (ht : look p.H o=some (.tok xs.length sz):=by exact rfl) : StP c s:=by
 subst hz
 exact Ydj h (fun ti he=>by simp [Xzu,ht,Xtv (by simpa using hr) he]) k
end Go.Vm
namespace Go.Proofs.YtpgcfjpkilabfaaGreatDoor
open Go Go.Vm Go.Num Go.Tow
structure Dft where
 arc : Bool
 cw : Bool
 a1 : Int
 a2 : Int
 b1 : Int
 b2 : Int
 st : Nat
 un : Nat
abbrev dP8 (x y : Int) : D:=.st (.pr (.int .i8 x) (.int .i8 y))
abbrev dDf (d : Dft) : D:=.st (.pr (.bool d.arc) (.pr (.bool d.cw) (.pr (dP8 d.a1 d.a2) (.pr (dP8 d.b1 d.b2) (.pr (.int .u8 d.st) (.int .u8 d.un))))))
abbrev Yel (l : List Dft) : D:=.sl 8 (l.map dDf)
abbrev I8 (z : Int) : Prop:=-128≤z∧z<128
structure Dft.ok (d : Dft) : Prop where
 a1 : I8 d.a1
 a2 : I8 d.a2
 b1 : I8 d.b1
 b2 : I8 d.b2
 st : d.st<256
 un : d.un<256
namespace R47
open P55 (v0 W0 g0 gv0 zw Xl7 Qp)
abbrev atQ (x y : Int) (u : Nat) : Rat × Rat:=(Rat.divInt x ((u % 4+1 : Nat) : Int),Rat.divInt y ((u % 4+1 : Nat) : Int))
theorem Yji {x y : Int} {u : Nat} (hx : I8 x) (hy : I8 y) (hu : u<256) : C0 38 [.d (dP8 x y),.d (.int .u8 u)] (·=.d (dV (v0 (atQ x y u)))):=by
 refine En Tryz.func38 fun _ _ _=>?_
 refine Ar (u % 4 : Nat) rfl ?_ (show _∧_ from ⟨by decide,rfl⟩)
 refine Go.Vm.Cv (u % 4 : Nat) rfl ?_ (wI (by omega))
 refine Ar (u % 4+1 : Nat) rfl ?_
 refine Dw rfl ?_
 refine Ia 0 rfl (by decide) ?_
 refine Go.Vm.Cv x rfl ?_ (wr rfl (by simp only [inK];omega))
 refine Ce rfl (R2.Frac_ok (by omega) (by omega) (by omega)) ?_
 refine Ia 1 rfl (by decide) ?_
 refine Go.Vm.Cv y rfl ?_ (wr rfl (by simp only [inK];omega))
 refine Ce rfl (R2.Frac_ok (by omega) (by omega) (by omega)) ?_
 refine Ce rfl R13.Make_ok ?_
 exact R0
def Ynm : List (Int × Int × Int):=[(1,0,1),(3,4,5),(0,1,1),(-1,0,1),(0,-1,1),(4,3,5),(-3,4,5),(-4,3,5),(-4,-3,5),(-3,-4,5),(3,-4,5),(4,-3,5),(5,12,13),(12,5,13),(-5,12,13),(24,7,25)]
def uni (i : Nat) : Rat × Rat:=match Ynm[i]? with
 | some (x,y,z)=>(Rat.divInt x z,Rat.divInt y z)
 | none=>(1,0)
theorem Xha {n : Nat} (hn : n<256) : C0 41 [.d (.int .u8 n)] (·=.d (dV (v0 (uni (n % 16))))):=by
 refine En Tryz.func41 fun _ _ _=>?_
 refine Ar (n % 16 : Nat) rfl ?_ (show _∧_ from ⟨by decide,rfl⟩)
 have h : n % 16=0∨n % 16=1∨n % 16=2∨n % 16=3∨n % 16=4∨n % 16=5∨n % 16=6∨n % 16=7∨n % 16=8∨n % 16=9∨n % 16=10∨n % 16=11∨n % 16=12∨n % 16=13∨n % 16=14∨n % 16=15:=by omega
 generalize n % 16=i at h
 rcases h with rfl | rfl | rfl | rfl | rfl | rfl | rfl | rfl | rfl | rfl | rfl | rfl | rfl | rfl | rfl | rfl
 · refine Ia 0 rfl (by decide) ?_
   refine Dw rfl ?_
   refine Ia 0 rfl (by decide) ?_
   refine Ia 2 rfl (by decide) ?_
   refine Ce rfl (R2.Frac_ok (by decide) (by decide) (by decide)) ?_
   refine Ia 1 rfl (by decide) ?_
   refine Ia 2 rfl (by decide) ?_
   refine Ce rfl (R2.Frac_ok (by decide) (by decide) (by decide)) ?_
   refine Ce rfl R13.Make_ok ?_
   exact R0
 · refine Ia 1 rfl (by decide) ?_
   refine Dw rfl ?_
   refine Ia 0 rfl (by decide) ?_
   refine Ia 2 rfl (by decide) ?_
   refine Ce rfl (R2.Frac_ok (by decide) (by decide) (by decide)) ?_
   refine Ia 1 rfl (by decide) ?_
   refine Ia 2 rfl (by decide) ?_
   refine Ce rfl (R2.Frac_ok (by decide) (by decide) (by decide)) ?_
   refine Ce rfl R13.Make_ok ?_
   exact R0
 · refine Ia 2 rfl (by decide) ?_
   refine Dw rfl ?_
   refine Ia 0 rfl (by decide) ?_
   refine Ia 2 rfl (by decide) ?_
   refine Ce rfl (R2.Frac_ok (by decide) (by decide) (by decide)) ?_
   refine Ia 1 rfl (by decide) ?_
   refine Ia 2 rfl (by decide) ?_
   refine Ce rfl (R2.Frac_ok (by decide) (by decide) (by decide)) ?_
   refine Ce rfl R13.Make_ok ?_
   exact R0
 · refine Ia 3 rfl (by decide) ?_
   refine Dw rfl ?_
   refine Ia 0 rfl (by decide) ?_
   refine Ia 2 rfl (by decide) ?_
   refine Ce rfl (R2.Frac_ok (by decide) (by decide) (by decide)) ?_
   refine Ia 1 rfl (by decide) ?_
   refine Ia 2 rfl (by decide) ?_
   refine Ce rfl (R2.Frac_ok (by decide) (by decide) (by decide)) ?_
   refine Ce rfl R13.Make_ok ?_
   exact R0
 · refine Ia 4 rfl (by decide) ?_
   refine Dw rfl ?_
   refine Ia 0 rfl (by decide) ?_
   refine Ia 2 rfl (by decide) ?_
   refine Ce rfl (R2.Frac_ok (by decide) (by decide) (by decide)) ?_
   refine Ia 1 rfl (by decide) ?_
   refine Ia 2 rfl (by decide) ?_
   refine Ce rfl (R2.Frac_ok (by decide) (by decide) (by decide)) ?_
   refine Ce rfl R13.Make_ok ?_
   exact R0
 · refine Ia 5 rfl (by decide) ?_
   refine Dw rfl ?_
   refine Ia 0 rfl (by decide) ?_
   refine Ia 2 rfl (by decide) ?_
   refine Ce rfl (R2.Frac_ok (by decide) (by decide) (by decide)) ?_
   refine Ia 1 rfl (by decide) ?_
   refine Ia 2 rfl (by decide) ?_
   refine Ce rfl (R2.Frac_ok (by decide) (by decide) (by decide)) ?_
   refine Ce rfl R13.Make_ok ?_
   exact R0
 · refine Ia 6 rfl (by decide) ?_
   refine Dw rfl ?_
   refine Ia 0 rfl (by decide) ?_
   refine Ia 2 rfl (by decide) ?_
   refine Ce rfl (R2.Frac_ok (by decide) (by decide) (by decide)) ?_
   refine Ia 1 rfl (by decide) ?_
   refine Ia 2 rfl (by decide) ?_
   refine Ce rfl (R2.Frac_ok (by decide) (by decide) (by decide)) ?_
   refine Ce rfl R13.Make_ok ?_
   exact R0
 · refine Ia 7 rfl (by decide) ?_
   refine Dw rfl ?_
   refine Ia 0 rfl (by decide) ?_
   refine Ia 2 rfl (by decide) ?_
   refine Ce rfl (R2.Frac_ok (by decide) (by decide) (by decide)) ?_
   refine Ia 1 rfl (by decide) ?_
   refine Ia 2 rfl (by decide) ?_
   refine Ce rfl (R2.Frac_ok (by decide) (by decide) (by decide)) ?_
   refine Ce rfl R13.Make_ok ?_
   exact R0
 · refine Ia 8 rfl (by decide) ?_
   refine Dw rfl ?_
   refine Ia 0 rfl (by decide) ?_
   refine Ia 2 rfl (by decide) ?_
   refine Ce rfl (R2.Frac_ok (by decide) (by decide) (by decide)) ?_
   refine Ia 1 rfl (by decide) ?_
   refine Ia 2 rfl (by decide) ?_
   refine Ce rfl (R2.Frac_ok (by decide) (by decide) (by decide)) ?_
   refine Ce rfl R13.Make_ok ?_
   exact R0
 · refine Ia 9 rfl (by decide) ?_
   refine Dw rfl ?_
   refine Ia 0 rfl (by decide) ?_
   refine Ia 2 rfl (by decide) ?_
   refine Ce rfl (R2.Frac_ok (by decide) (by decide) (by decide)) ?_
   refine Ia 1 rfl (by decide) ?_
   refine Ia 2 rfl (by decide) ?_
   refine Ce rfl (R2.Frac_ok (by decide) (by decide) (by decide)) ?_
   refine Ce rfl R13.Make_ok ?_
   exact R0
 · refine Ia 10 rfl (by decide) ?_
   refine Dw rfl ?_
   refine Ia 0 rfl (by decide) ?_
   refine Ia 2 rfl (by decide) ?_
   refine Ce rfl (R2.Frac_ok (by decide) (by decide) (by decide)) ?_
   refine Ia 1 rfl (by decide) ?_
   refine Ia 2 rfl (by decide) ?_
   refine Ce rfl (R2.Frac_ok (by decide) (by decide) (by decide)) ?_
   refine Ce rfl R13.Make_ok ?_
   exact R0
 · refine Ia 11 rfl (by decide) ?_
   refine Dw rfl ?_
   refine Ia 0 rfl (by decide) ?_
   refine Ia 2 rfl (by decide) ?_
   refine Ce rfl (R2.Frac_ok (by decide) (by decide) (by decide)) ?_
   refine Ia 1 rfl (by decide) ?_
   refine Ia 2 rfl (by decide) ?_
   refine Ce rfl (R2.Frac_ok (by decide) (by decide) (by decide)) ?_
   refine Ce rfl R13.Make_ok ?_
   exact R0
 · refine Ia 12 rfl (by decide) ?_
   refine Dw rfl ?_
   refine Ia 0 rfl (by decide) ?_
   refine Ia 2 rfl (by decide) ?_
   refine Ce rfl (R2.Frac_ok (by decide) (by decide) (by decide)) ?_
   refine Ia 1 rfl (by decide) ?_
   refine Ia 2 rfl (by decide) ?_
   refine Ce rfl (R2.Frac_ok (by decide) (by decide) (by decide)) ?_
   refine Ce rfl R13.Make_ok ?_
   exact R0
 · refine Ia 13 rfl (by decide) ?_
   refine Dw rfl ?_
   refine Ia 0 rfl (by decide) ?_
   refine Ia 2 rfl (by decide) ?_
   refine Ce rfl (R2.Frac_ok (by decide) (by decide) (by decide)) ?_
   refine Ia 1 rfl (by decide) ?_
   refine Ia 2 rfl (by decide) ?_
   refine Ce rfl (R2.Frac_ok (by decide) (by decide) (by decide)) ?_
   refine Ce rfl R13.Make_ok ?_
   exact R0
 · refine Ia 14 rfl (by decide) ?_
   refine Dw rfl ?_
   refine Ia 0 rfl (by decide) ?_
   refine Ia 2 rfl (by decide) ?_
   refine Ce rfl (R2.Frac_ok (by decide) (by decide) (by decide)) ?_
   refine Ia 1 rfl (by decide) ?_
   refine Ia 2 rfl (by decide) ?_
   refine Ce rfl (R2.Frac_ok (by decide) (by decide) (by decide)) ?_
   refine Ce rfl R13.Make_ok ?_
   exact R0
 · refine Ia 15 rfl (by decide) ?_
   refine Dw rfl ?_
   refine Ia 0 rfl (by decide) ?_
   refine Ia 2 rfl (by decide) ?_
   refine Ce rfl (R2.Frac_ok (by decide) (by decide) (by decide)) ?_
   refine Ia 1 rfl (by decide) ?_
   refine Ia 2 rfl (by decide) ?_
   refine Ce rfl (R2.Frac_ok (by decide) (by decide) (by decide)) ?_
   refine Ce rfl R13.Make_ok ?_
   exact R0
theorem Yeh {x y n : Int} (h : n≠0) : Rat.divInt x n - Rat.divInt y n=Rat.divInt (x - y) n:=by
 rw [W3b,W3b,W3b,W5x,W5x,W5x,Rat.intCast_sub]
 grind
theorem n4 {u : Nat} : Zs 3 ((u % 4+1 : Nat) : Int):=by show (_ : Int).natAbs<2 ^ 3;omega
theorem atQ_qp {x y : Int} {u : Nat} (hx : I8 x) (hy : I8 y) : Qp 8 (atQ x y u):=by
 have h8 : ∀ {x : Int},I8 x→Zs 8 x:=fun {x} h=>by have h : _∧_:=h;show x.natAbs<2 ^ 8;omega
 exact ⟨Qs.divInt (h8 hx) (n4.mono (by decide)) (by omega),Qs.divInt (h8 hy) (n4.mono (by decide)) (by omega)⟩
theorem Ygh {x y z w : Int} {u : Nat} (hx : I8 x) (hy : I8 y) (hz : I8 z) (hw : I8 w) : Qp 9 (Xa8 (K:=0) (atQ x y u) (atQ z w u)):=by
 have key : ∀ {x z : Int},I8 x→I8 z→Qs 9 (Rat.divInt x ((u % 4+1 : Nat) : Int)+-Rat.divInt z ((u % 4+1 : Nat) : Int)):=fun {x z} hx hz=>by
  have hx : _∧_:=hx
  have hz : _∧_:=hz
  rw [←W5u,Yeh (by omega)]
  exact Qs.divInt (show (x - z).natAbs<2 ^ 9 by omega) (n4.mono (by decide)) (by omega)
 exact ⟨key hx hz,key hy hw⟩
theorem Yaj : ∀ i : Fin 16,Qp 5 (uni i.val)∧(uni i.val).1*(uni i.val).1+(uni i.val).2*(uni i.val).2=1:=by decide +kernel
def rotQ (w e : Rat × Rat) : Rat × Rat:=Xfw (K:=0) (Yj1 (K:=0) () w e.1) (Yj1 (K:=0) () (Tow.neg 0 w.2,w.1) e.2)
theorem Yc1 {w e : Rat × Rat} (hw : Qp 9 w) (he : Qp 5 e) : Qp 29 (rotQ w e) :=
 ⟨show Qs 29 (w.1*e.1+-w.2*e.2) from (hw.1.mul he.1).add (hw.2.neg.mul he.2),show Qs 29 (w.2*e.1+w.1*e.2) from (hw.2.mul he.1).add (hw.1.mul he.2)⟩
theorem Xx1 {w e : Rat × Rat} (he : e.1*e.1+e.2*e.2=1) : Xb2 (K:=0) () (rotQ w e) (rotQ w e)=Xb2 (K:=0) () w w:=by
 show (w.1*e.1+-w.2*e.2)*(w.1*e.1+-w.2*e.2)+(w.2*e.1+w.1*e.2)*(w.2*e.1+w.1*e.2)=w.1*w.1+w.2*w.2
 have : (w.1*e.1+-w.2*e.2)*(w.1*e.1+-w.2*e.2)+(w.2*e.1+w.1*e.2)*(w.2*e.1+w.1*e.2)=(w.1*w.1+w.2*w.2)*(e.1*e.1+e.2*e.2):=by grind
 rw [this,he,Rat.mul_one]
theorem Xo0 {c w : Rat × Rat} : Xa8 (K:=0) (Xfw (K:=0) c w) c=w:=W2f (show c.1+w.1+-c.1=w.1 by grind) (show c.2+w.2+-c.2=w.2 by grind)
def cvD (d : Dft) : Cv:=match d.arc with
 | false=>⟨false,v0 (atQ d.a1 d.a2 d.un),v0 (atQ d.b1 d.b2 d.un),v0 (((0 : Int) : Rat),((0 : Int) : Rat)),d.cw⟩
 | true=>⟨true,v0 (atQ d.b1 d.b2 d.un),v0 (Xfw (K:=0) (atQ d.a1 d.a2 d.un) (rotQ (Xa8 (K:=0) (atQ d.b1 d.b2 d.un) (atQ d.a1 d.a2 d.un)) (uni (d.st % 16)))),v0 (atQ d.a1 d.a2 d.un),d.cw⟩
structure ArcOk (p q r : Rat × Rat) : Prop where
 hp : Qp 64 p
 hq : Qp 64 q
 hr : Qp 64 r
 u : Qp 64 (Xa8 (K:=0) q p)
 v : Qp 64 (Xa8 (K:=0) r p)
 s : Qs 64 (Xb2 (K:=0) () (Xa8 (K:=0) q p) (Xa8 (K:=0) q p))
 e : Xb2 (K:=0) () (Xa8 (K:=0) q p) (Xa8 (K:=0) q p)=Xb2 (K:=0) () (Xa8 (K:=0) r p) (Xa8 (K:=0) r p)
theorem Qp.mono' {s t : Nat} {p : Rat × Rat} (h : Qp s p) (ht : s≤t) : Qp t p:=⟨h.1.mono ht,h.2.mono ht⟩
theorem arcOk {d : Dft} (h : d.ok) : ArcOk (atQ d.a1 d.a2 d.un) (atQ d.b1 d.b2 d.un) (Xfw (K:=0) (atQ d.a1 d.a2 d.un) (rotQ (Xa8 (K:=0) (atQ d.b1 d.b2 d.un) (atQ d.a1 d.a2 d.un)) (uni (d.st % 16)))):=by
 have hp:=atQ_qp (u:=d.un) h.a1 h.a2
 have hq:=atQ_qp (u:=d.un) h.b1 h.b2
 have hw:=Ygh (u:=d.un) h.b1 h.b2 h.a1 h.a2
 obtain ⟨he,h1⟩:=Yaj ⟨d.st % 16,W1y _ (by decide)⟩
 have hr:=Yc1 hw he
 refine ⟨Qp.mono' hp (by decide),Qp.mono' hq (by decide),?_,Qp.mono' hw (by decide),?_,?_,?_⟩
 · exact Qp.mono' (s:=38) ⟨hp.1.add hr.1,hp.2.add hr.2⟩ (by decide)
 · rw [Xo0];exact Qp.mono' hr (by decide)
 · exact ((hw.1.mul hw.1).add (hw.2.mul hw.2)).mono (by decide)
 · rw [Xo0];exact (Xx1 h1).symm
theorem Yfb {c : Cv} {p q : Rat × Rat} (ha : c.arc=false) (hA : c.A=v0 p) (hB : c.B=v0 q) (hp : Qp 64 p) (hq : Qp 64 q) : C0 45 [.d (dC c)] (·=.b (dc (p≠q))):=by
 obtain ⟨_,A,B,C,cw⟩:=c
 obtain rfl : _=false:=ha
 obtain rfl : A=_:=hA
 obtain rfl : B=_:=hB
 refine En Tryz.func45 fun _ _ _=>?_
 refine Yes rfl nofun ?_
 refine Ce rfl (R13.Equal_g W0 (gv0 hp) (gv0 hq) (by decide) (by decide)) ?_
 exact R1 rfl (.bp (by rw [W1s,W4j];exact not_congr Xan))
theorem Yfc {c : Cv} {p q r : Rat × Rat} (ha : c.arc=true) (hC : c.C=v0 p) (hA : c.A=v0 q) (hB : c.B=v0 r) (h : ArcOk p q r) : C0 45 [.d (dC c)] (·=.b (dc (q≠p))):=by
 obtain ⟨_,A,B,C,cw⟩:=c
 obtain rfl : _=true:=ha
 obtain rfl : A=_:=hA
 obtain rfl : B=_:=hB
 obtain rfl : C=_:=hC
 refine En Tryz.func45 fun _ _ _=>?_
 refine No rfl (fun h=>h rfl) ?_
 refine Dw rfl ?_
 refine Cn [(1000001,16)] rfl (R15.Far_g W0 (gv0 h.hq) (gv0 h.hp) (by decide)) fun v hv=>?_
 obtain ⟨z1,rfl,h1⟩:=hv
 refine Cn [(1000001,16)] rfl (R15.Far_g W0 (gv0 h.hr) (gv0 h.hp) (by decide)) fun v hv=>?_
 obtain ⟨z2,rfl,h2⟩:=hv
 refine Yes rfl rfl ?_
 refine Ce rfl (R9.Sign_g W0 h1 (by decide)) ?_
 by_cases hw : Xa8 (K:=0) q p=vz 0
 · have e : q=p:=by
    have h1 : q.1+-p.1=0:=congrArg Prod.fst hw
    have h2 : q.2+-p.2=0:=congrArg Prod.snd hw
    exact W2f (by grind) (by grind)
   have h0 : sgn 0 () (Xb2 (K:=0) () (Xa8 (K:=0) q p) (Xa8 (K:=0) q p))=0:=by rw [hw];decide +kernel
   refine No rfl (by rw [h0];decide) ?_
   exact R1 rfl (.bp ⟨nofun,fun h=>absurd e h⟩)
 · have h0:=Xe7 (K:=0) (G:=()) trivial hw
   refine Yes rfl (by rw [h0];decide) ?_
   refine Ce rfl (R9.Equal_g W0 h1 h2 (by decide) (by decide)) ?_
   exact R1 rfl (.bp ⟨fun _ e=>hw (by rw [e];exact W2f (show p.1+-p.1=0 by grind) (show p.2+-p.2=0 by grind)),fun _=>Xan.2 h.e⟩)
abbrev vlD (d : Dft) : Prop:=atQ d.a1 d.a2 d.un≠atQ d.b1 d.b2 d.un
theorem Valid_D {d : Dft} (h : d.ok) : C0 45 [.d (dC (cvD d))] (·=.b (dc (vlD d))):=by
 obtain ⟨arc,cw,a1,a2,b1,b2,st,un⟩:=d
 cases arc with
 | false=>exact Yfb rfl rfl rfl (Qp.mono' (atQ_qp h.a1 h.a2) (by decide)) (Qp.mono' (atQ_qp h.b1 h.b2) (by decide))
 | true =>
  refine (Yfc rfl rfl rfl rfl (arcOk h)).mono fun v e=>e.trans (congrArg AV.b ?_)
  exact W3t.2 (Xan.trans (Iff.trans ⟨fun h e=>h e.symm,fun h e=>h e.symm⟩ Xan.symm))
theorem Xz3 {d : Dft} (h : d.ok) : C0 15 [.d (dDf d)] (·=.tup (.pr (.d (dC (cvD d))) (.b (dc (vlD d))))):=by
 have hV:=Valid_D h
 have hA:=arcOk h
 obtain ⟨arc,cw,a1,a2,b1,b2,st,un⟩:=d
 obtain ⟨g1,g2,g3,g4,g5,g6⟩:=h
 refine En Tryz.func15 fun _ _ _=>?_
 refine Dw rfl ?_
 refine Ce rfl (Yji g1 g2 g6) ?_
 refine Ce rfl (Yji g3 g4 g6) ?_
 refine Ce rfl (R13.Whole_ok (i:=0) (j:=0) (by decide) (by decide)) ?_
 cases arc with
 | false =>
  refine No rfl nofun ?_
  refine Dw rfl ?_
  refine Ce rfl hV ?_
  exact RTt rfl (.cons (.sd (.pd (.bd rfl) (.pd (.eq rfl) (.pd (.eq rfl) (.pd (.eq rfl) (.bd rfl)))))) Xvn)
 | true =>
  refine Yes rfl rfl ?_
  refine Dw rfl ?_
  refine Cn [(1000001,27)] rfl (R15.Minus_g W0 (gv0 hA.hq) (gv0 hA.hp) (by decide) (by decide)) fun v hv=>?_
  obtain ⟨w,rfl,hw⟩:=hv
  obtain rfl:=Xl7 hw
  refine Ce rfl (Xha g5) ?_
  have he:=(Yaj ⟨st % 16,W1y _ (by decide)⟩).1
  have he : Qp 64 (uni (st % 16)):=Qp.mono' he (by decide)
  refine Dw rfl ?_
  refine Cn [(1000001,27)] rfl (R15.Scale_g W0 hw (g0 he.1) (by decide) (by decide)) fun v hv=>?_
  obtain ⟨z1,rfl,k1⟩:=hv
  refine Ca rfl (R13.Left_g W0 hw (by decide)) fun v hv=>?_
  obtain ⟨z2,rfl,k2⟩:=hv
  refine Cn [(1000001,27)] rfl (R15.Scale_g W0 k2 (g0 he.2) (by decide) (by decide)) fun v hv=>?_
  obtain ⟨z3,rfl,k3⟩:=hv
  refine Cn [(1000001,27)] rfl (R15.Plus_g W0 k1 k3 (by decide) (by decide)) fun v hv=>?_
  obtain ⟨z4,rfl,k4⟩:=hv
  refine Cn [(1000001,27)] rfl (R15.Plus_g W0 (gv0 hA.hp) k4 (by decide) (by decide)) fun v hv=>?_
  obtain ⟨z5,rfl,k5⟩:=hv
  obtain rfl:=Xl7 k5
  refine Dw rfl ?_
  refine Ce rfl hV ?_
  exact RTt rfl (.cons (.sd (.pd (.bd rfl) (.pd (.eq rfl) (.pd (.eq rfl) (.pd (.eq rfl) (.bd rfl)))))) Xvn)
theorem lD {l : List Dft} : (l.map dDf).length=l.length:=W0i ..
theorem Curves_ok {l : List Dft} {n : Nat} (hl : l.length<9223372036854775808) (hn : n≤1000) (hd : ∀ d∈l,d.ok) : C0 5 [.d (Yel l),.d (.int .i64 n)] fun v=>(v=.tup (.pr (.d (Xes [])) (.b false))∧¬ (l.length≤n∧∀ d∈l,vlD d))∨(v=.tup (.pr (.d (Xes (l.map cvD))) (.b true))∧l.length≤n∧∀ d∈l,vlD d):=by
 refine En Tryz.func5 fun _ _ _=>?_
 refine By rfl (fun h=>?_) fun h=>?_
 · have h : ((l.map dDf).length : Int) > n:=h
   rw [lD] at h
   exact Rt rfl (.tup (.cons (.nil rfl) Xvn)) (.inl ⟨rfl,fun h2=>by omega⟩)
 have h : ¬ ((l.map dDf).length : Int) > n:=h
 rw [lD] at h
 refine Nl 6 6 14 rfl ?_
 refine Lo (fun k : Nat=>[(0,.d (Yel l)),(6,.gr 6 14 (((l.take k).map cvD).map dC)),(7,.d (.int .i64 k))]) (fun k=>[(6,.tok (((l.take k).map cvD).map dC).length 14)]) (fun k=>k≤l.length∧∀ d∈l.take k,vlD d) (fun k=>l.length - k) 0 [] rfl ⟨W1c _,fun d hd=>nomatch hd⟩ fun k hk=>?_
 obtain ⟨hk,hv⟩:=hk
 refine By rfl (fun h2=>?_) fun h2=>?_ <;> simp only [lD] at h2
 · obtain ⟨d,hd1⟩ : ∃ d,l[k]?=some d:=⟨_,W0b (by omega)⟩
   refine Ix k rfl (u:=dDf d) (by rw [W1f,hd1];rfl) ?_
   refine Ce rfl (Xz3 (hd d (W0r hd1))) ?_
   refine By rfl (fun h3=>?_) fun h3=>?_
   · have h3 : ¬ vlD d:=h3
     exact Rt rfl (.tup (.cons (.nil rfl) Xvn)) (.inl ⟨rfl,fun h4=>h3 (h4.2 d (W0r hd1))⟩)
   · have h3 : vlD d:=W4k.1 h3
     refine ApH (((l.take (k+1)).map cvD).map dC) rfl (by rw [W0z,hd1];simp) (by simp;omega) ?_
     refine Ar (k+1 : Nat) rfl ?_
     refine Bk (k+1) [(33,6)] rfl ⟨by omega,fun x hx=>?_⟩ (by show l.length - (k+1)<l.length - k;omega)
     rw [W0z,hd1] at hx
     rcases W2x.1 hx with hx | hx
     · exact hv x hx
     · obtain rfl:=W0e.1 hx;exact h3
 · have e : l.take k=l:=W0a (by omega)
   rw [e] at hv ⊢
   exact Rt rfl (.tup (.cons (.gr rfl) Xvn)) (.inr ⟨rfl,by omega,hv⟩)
end R47
end Go.Proofs.YtpgcfjpkilabfaaGreatDoor
namespace Go.Proofs.YtpgcfjpkilabfaaGreatDoor.R55
open Go Go.Vm Go.Num Go.Tow Go.Proofs.YtpgcfjpkilabfaaGreatDoor
section
open Go.Proofs.YtpgcfjpkilabfaaGreatDoor.P55 (qb Xzd sel Xeg Xey exA exW W0 zBA Yex lC cAt)
abbrev Zb:=Go.Proofs.YtpgcfjpkilabfaaGreatDoor.P55.Zb
abbrev F4:=Go.Proofs.YtpgcfjpkilabfaaGreatDoor.P55.F4
theorem Xxl {l : List Cv} (hl : l.length≤1000) (hv : ∀ c∈l,C0 45 [.d (dC c)] (·=.b true)) : C0 27 [.d (Xes l)] (·=.b true):=by
 refine En Tryz.func27 fun _ _ _=>?_
 refine Lo (fun k : Nat=>[(0,.d (Xes l)),(3,.d (.int .i64 k))]) (fun _=>[]) (fun k=>k≤l.length) (fun k=>l.length - k) 0 [] rfl (W1c _) fun k hk=>?_
 refine By rfl (fun h=>?_) fun h=>?_ <;> simp only [lC] at h
 · obtain ⟨c,hc⟩ : ∃ c,l[k]?=some c:=⟨_,W0b (by omega)⟩
   refine Ix k rfl (cAt hc) ?_
   refine Ce rfl (hv c (W0r hc)) ?_
   refine No rfl nofun ?_
   refine Ar (k+1 : Nat) rfl ?_
   exact Bk (k+1) [] rfl (by omega) (by show l.length - (k+1)<l.length - k;omega)
 · exact R0
theorem Xeb {z : Int} {d : Nat} (hz : Zb z) (hd : d≤20) : C0 31 [.d (dz z),.d (.int .i64 d)] (·=.d (dq (qb z d))):=by
 refine En Tryz.func31 fun _ _ _=>?_
 refine Ce rfl (R1.FromInt_ok (z:=10) (by decide)) ?_
 refine Ce rfl (R1.Pow_ok (z:=10) (q:=4) (show (10 : Int).natAbs<2 ^ 4 by decide) (by omega) (by decide)) ?_
 have h10 : Zs (max (32*(dig z.natAbs).length) 200) (10 ^ d : Int):=by
  have h1 : (10 : Nat) ^ d≤10 ^ 20:=W0k (by decide) hd
  have h2 : Zs 200 (10 ^ d : Int):=by
   show ((10 : Int) ^ d).natAbs<2 ^ 200
   rw [W5l]
   exact W1r h1 (by decide)
  exact h2.mono (W7b ..)
 have h0 : (10 ^ d : Int)≠0:=by have:=W5w (n:=10) (m:=d) (by decide);omega
 refine Ce rfl (R2.Make_ok hz.zs h10 (by have hz : _≤_:=hz;omega) h0) ?_
 exact R1 rfl (.rf rfl)
theorem Xrd {x y z : Nm} (h : C0 30 [.d (dN y)] (·=.d (dN z))) : C0 44 [.d (dV ⟨x,y⟩)] (·=.d (dV ⟨z,x⟩)):=by
 refine En Tryz.func44 fun _ _ _=>?_
 refine Dw rfl ?_
 refine Ce rfl h ?_
 exact R0
theorem Yjx : C0 30 [.d (dN n00)] (·=.d (dN n00)):=(R9.Neg_ok (P55.g0 (q:=0) (by decide +kernel)).o (W1c _) (by decide)).mono fun v e=>e.trans rfl
def dr (r m n : Nm) : Nat→Vn
 | 0=>⟨r,n00⟩
 | 1=>⟨n00,r⟩
 | 2=>⟨m,n00⟩
 | 3=>⟨n00,m⟩
 | _=>⟨n,n00⟩
theorem Yiz {r m n : Nm} {k : Nat} (hk : k<4) : (Xzd r m)[k]?=some (dr r m n k):=by
 match k,hk with
 | 0,_ | 1,_ | 2,_ | 3,_=>rfl
theorem Xku {r m n : Nm} {k : Nat} (hk : k<4) (h1 : C0 30 [.d (dN r)] (·=.d (dN m))) (h2 : C0 30 [.d (dN m)] (·=.d (dN n))) : C0 44 [.d (dV (dr r m n k))] (·=.d (dV (dr r m n (k+1)))):=by
 match k,hk with
 | 0,_=>exact Xrd Yjx
 | 1,_=>exact Xrd h1
 | 2,_=>exact Xrd Yjx
 | 3,_=>exact Xrd h2
theorem Yjt {f r : Nm} (h : C0 141 [.d (dN f)] (·=.tup (.pr (.d (dN r)) (.d (.int .i64 0))))) : CN0 71 [.ptr 1000001 0,.d (dN f)] [(1000001,cal)] (·=.d (dN r)):=by
 refine EnW Tryz.func71 fun _ _ _ _=>?_
 refine Ce rfl h ?_
 refine Cn [] rfl R15.num_ok fun v hv=>?_
 subst hv
 exact Rw [] [(1000001,cal)] rfl (.one (.rf rfl) rfl rfl) ⟨rfl,rfl⟩
theorem extremes_seg {c : Cv} (h : c.arc=false) : CN0 28 [.ptr 1000001 0,.d (dC c)] [(1000001,cal)] (·=.d (dVs [c.A,c.B])):=by
 obtain ⟨arc,A,B,C,cw⟩:=c
 obtain rfl : arc=false:=h
 refine EnW Tryz.func28 fun _ _ _ _=>?_
 refine Yes rfl nofun ?_
 exact Rw [] [(1000001,cal)] rfl (.one (.lit rfl) rfl rfl) ⟨rfl,rfl⟩
def exH (c : Cv) (d : Vn) : Option (List Vn)→Hpl
 | none=>[(1000001,cal),(3,.var (.d (dC c))),(7,.var (.d (dV d)))]
 | some w=>[(1000001,cal),(3,.var (.d (dC c))),(7,.var (.d (dV d))),(600,.arr 4 (w.map dV))]
theorem extremes_arc {c : Cv} {f r m n : Nm} {X : List Vn} {B : List Bool} (h : c.arc=true) (hF : CN0 72 [.ptr 1000001 0,.d (dV c.A),.d (dV c.C)] [(1000001,cal)] (·=.d (dN f))) (hr : C0 141 [.d (dN f)] (·=.tup (.pr (.d (dN r)) (.d (.int .i64 0)))))
 (hm : C0 30 [.d (dN r)] (·=.d (dN m))) (hn : C0 30 [.d (dN m)] (·=.d (dN n))) (hX : X.length=4) (hB : B.length=4)
 (hx : ∀ (i : Nat) d x b,(Xzd r m)[i]?=some d→X[i]?=some x→B[i]?=some b→CN0 42 [.ptr 1000001 0,.d (dV c.C),.d (dV d)] [(1000001,cal)] (·=.d (dV x))∧C0 74 [.d (dC c),.d (dV x)] (·=.b b)) :
 CN0 28 [.ptr 1000001 0,.d (dC c)] [(1000001,cal)] (·=.d (dVs ([c.A,c.B]++sel X B))):=by
 obtain ⟨arc,A,B',C,cw⟩:=c
 obtain rfl : arc=true:=h
 refine EnW Tryz.func28 fun _ _ _ _=>?_
 refine No rfl (fun h=>h rfl) ?_
 refine Cn [] rfl hF fun v hv=>?_
 subst hv
 refine Cn [] rfl (Yjt hr) fun v hv=>?_
 subst hv
 refine Dw rfl ?_
 refine Ce rfl (R9.FromInt_ok (z:=0) (by decide)) ?_
 refine Lo (fun ((k,o) : Nat × Option (List Vn))=>[(0,.ptr 1000001 0),(3,.ptr 3 0),(5,exA [A,B'] o),(7,.ptr 7 0),(8,.d (.int .i64 k))]) (fun (k,o)=>exH ⟨true,A,B',C,cw⟩ (dr r m n k) o) (fun (k,o)=>k≤4∧exW [A,B'] o=[A,B']++sel (X.take k) (B.take k)) (fun (k,_)=>4 - k) (0,none) [] rfl ⟨W1c _,by simp [exW,sel]⟩ ?_
 rintro ⟨k,o⟩ ⟨hk,hw⟩
 have hwl : (exW [A,B'] o).length≤6:=by
  have hw : exW [A,B'] o=_:=hw
  rw [hw,W0d]
  have:=Xey (X:=X.take k) (B:=B.take k)
  rw [W0j] at this
  simp only [W0o,W3s]
  omega
 cases o with
 | none =>
  have hw : [A,B']=[A,B']++sel (X.take k) (B.take k):=hw
  refine By rfl (fun h=>?_) fun h=>?_
  · have h : (k : Int)<4:=h
    obtain ⟨x,hxk⟩ : ∃ x,X[k]?=some x:=⟨_,W0b (by omega)⟩
    obtain ⟨b,hbk⟩ : ∃ b,B[k]?=some b:=⟨_,W0b (by omega)⟩
    obtain ⟨g1,g2⟩:=hx k _ x b (Yiz (n:=n) (by omega)) hxk hbk
    have hs : sel (X.take (k+1)) (B.take (k+1))=sel (X.take k) (B.take k)++(if b then [x] else []):=by
     rw [W0z,W0z,hxk,hbk];exact Xeg (by rw [W0j,W0j,hX,hB])
    refine Cn [] rfl g1 fun v hv=>?_
    subst hv
    refine Ce rfl g2 ?_
    cases b with
    | false =>
     refine No rfl nofun ?_
     refine Ce rfl (Xku (by omega) hm hn) ?_
     refine Ar (k+1 : Nat) rfl ?_
     exact Bk (k+1,none) [] rfl ⟨by omega,by rw [hs];simpa [exW] using hw⟩ (by show 4 - (k+1)<4 - k;omega)
    | true =>
     refine Yes rfl rfl ?_
     refine ApL (([A,B']++[x]).map dV) rfl rfl (W4p _) (show 3≤1099511627776 by decide) ?_
     refine Ce rfl (Xku (by omega) hm hn) ?_
     refine Ar (k+1 : Nat) rfl ?_
     exact Bk (k+1,some ([A,B']++[x])) [(45,600)] rfl ⟨by omega,by rw [hs,←W3c,←hw];rfl⟩ (by show 4 - (k+1)<4 - k;omega)
  · have h : ¬ (k : Int)<4:=h
    rw [W0a (by omega),W0a (by omega)] at hw
    exact Rw [] [(1000001,cal)] rfl (.one (.lit (by rw [←hw])) rfl rfl) ⟨rfl,rfl⟩
 | some w =>
  have hw : w=[A,B']++sel (X.take k) (B.take k):=hw
  have hwl : w.length≤6:=hwl
  refine By rfl (fun h=>?_) fun h=>?_
  · have h : (k : Int)<4:=h
    obtain ⟨x,hxk⟩ : ∃ x,X[k]?=some x:=⟨_,W0b (by omega)⟩
    obtain ⟨b,hbk⟩ : ∃ b,B[k]?=some b:=⟨_,W0b (by omega)⟩
    obtain ⟨g1,g2⟩:=hx k _ x b (Yiz (n:=n) (by omega)) hxk hbk
    have hs : sel (X.take (k+1)) (B.take (k+1))=sel (X.take k) (B.take k)++(if b then [x] else []):=by
     rw [W0z,W0z,hxk,hbk];exact Xeg (by rw [W0j,W0j,hX,hB])
    refine Cn [] rfl g1 fun v hv=>?_
    subst hv
    refine Ce rfl g2 ?_
    cases b with
    | false =>
     refine No rfl nofun ?_
     refine Ce rfl (Xku (by omega) hm hn) ?_
     refine Ar (k+1 : Nat) rfl ?_
     exact Bk (k+1,some w) [] rfl ⟨by omega,by rw [hs];simpa [exW] using hw⟩ (by show 4 - (k+1)<4 - k;omega)
    | true =>
     refine Yes rfl rfl ?_
     refine ApO ((w++[x]).map dV) rfl rfl rfl (by rw [W1u];rfl) (by simp;omega) ?_
     refine Ce rfl (Xku (by omega) hm hn) ?_
     refine Ar (k+1 : Nat) rfl ?_
     exact Bk (k+1,some (w++[x])) [(600,900),(45,600)] rfl ⟨by omega,by rw [hs,←W3c,←hw];rfl⟩ (by show 4 - (k+1)<4 - k;omega)
  · have h : ¬ (k : Int)<4:=h
    rw [W0a (by omega),W0a (by omega)] at hw
    exact Rw [] [(1000001,cal)] rfl (.one (.own rfl (by rw [W1n];exact W0c _) (by rw [W1b,W2b,hw])) rfl rfl) ⟨rfl,rfl⟩
end
section
open Go.Proofs.YtpgcfjpkilabfaaGreatDoor.P55 (qb zBA Yex lC cAt lst f40 ofO nxF mn Xkg Xkh Xki Xix o40)
theorem Yih {k : Nat} {t : Tw k} {a : Tow.El k} {s : Nat} {z : Int} (h : Xbu k t) (hT : TS s k t) (ha : Sz s (toL k a)) (h1 : 1≤s) (hf : Xa7 k t a z) : Zs (bB s 0 k) z:=by
 have i:=Xgv h a 0
 have q:=Xmt (b:=0) h hT ha h1
 have g1 : (z : Rat)≤(bx k t a 0).2:=(Xa2 h).1 (le_tr h hf.1 i.2)
 have g2 : ¬ ((z+1 : Int) : Rat)≤(bx k t a 0).1:=fun e=>(Xqe h).1 hf.2 (le_tr h ((Xa2 h).2 e) i.1)
 have z1:=Zs.floor q.1
 have z2:=Zs.floor q.2
 have e1 : z≤(bx k t a 0).2.floor:=W7d.2 g1
 have e2 : ¬ z+1≤(bx k t a 0).1.floor:=fun e=>g2 (W7d.1 e)
 unfold Zs at *
 omega
abbrev Zl (z : Int) : Prop:=Zs 400000 z
theorem bB3 : ∀ {k : Nat},k≤3→bB 4000 0 k≤400000
 | 0,_ | 1,_ | 2,_ | 3,_=>by decide
theorem Yb4 {x : Nm} {d : Nat} {z : Int} (H : P11.Pk x) (hd : d≤60) (h : Xa7 x.k x.t (scl x.k x.t x.a ((10 ^ d : Int) : Rat) ((0 : Int) : Rat)) z) : Zl z :=
 (Yih H.re (H.t.mono (by decide)) (H.sc (P11.ten_qs hd) (Qs.int (z:=0) (show Int.natAbs 0<2 ^ 2 by decide) (by decide))).s2 (by decide) h).mono (bB3 H.k)
theorem Yfv {p m : Nat} {z : Int} (h : Zs p z) (hm : p≤32*m) : (dig z.natAbs).length≤m:=Xap (by
 rw [show 4294967296=2 ^ 32 from rfl,←W4b]
 exact W0p h (W0k (by decide) hm))
theorem Zl.zb {z : Int} (h : Zl z) : Zb z:=W0h (Yfv h (m:=12500) (by decide)) (by decide)
theorem Yno {d : Nat} : (10 ^ d : Int)≠0:=by have:=W5w (n:=10) (m:=d) (by decide);omega
theorem Xgr {z : Int} {d : Nat} (hz : Zl z) (hd : d≤20) : Qs 400000 (qb z d):=by
 refine Qs.divInt hz ?_ Yno
 have h1 : (10 : Nat) ^ d≤10 ^ 20:=W0k (by decide) hd
 have h2 : Zs 200 (10 ^ d : Int):=by
  show ((10 : Int) ^ d).natAbs<2 ^ 200
  rw [W5l]
  exact W1r h1 (by decide)
 exact h2.mono (by decide)
theorem Yha {x y : Int} {d : Nat} : qb x d<qb y d↔x<y:=by
 have h0 : (0 : Rat)<((10 ^ d : Int) : Rat)⁻¹:=Rat.inv_pos.2 (by have : (0 : Int)<10 ^ d:=W5w (by decide);exact_mod_cast this)
 unfold qb
 rw [W3b,W3b,W5x,W5x,Rat.mul_lt_mul_right h0]
 exact Rat.intCast_lt_intCast
theorem Ya4 {x : Int} {d : Nat} : qb (-x) d=-(qb x d):=Rat.neg_divInt .. |>.symm
abbrev Xmv (f : F4) (d : Nat) : D:=.st (.pr (dq (qb f.a d)) (.pr (dq (qb f.b d)) (.pr (dq (-(qb f.c d))) (dq (-(qb f.e d))))))
theorem Yev (f : F4) (d : Nat) : Xmv f d=Yex f d:=by unfold Yex;rw [Ya4,Ya4]
def BdL (f : F4) : Prop:=Zl f.a∧Zl f.b∧Zl f.c∧Zl f.e
theorem Xyi {x y : Int} (hx : Zl x) (hy : Zl y) : Zl (mn x y):=by unfold mn;split <;> assumption
theorem BdL.nx {o : Option F4} {f : F4} (ho : ∀ g,o=some g→BdL g) (hf : BdL f) : BdL (nxF o f):=by
 cases o with
 | none=>exact hf
 | some g =>
  have hg:=ho g rfl
  exact ⟨Xyi hg.1 hf.1,Xyi hg.2.1 hf.2.1,Xyi hg.2.2.1 hf.2.2.1,Xyi hg.2.2.2 hf.2.2.2⟩
structure PtR (d : Int) (p : Vn) (f : F4) : Prop where
 n : ∃ x y,C0 30 [.d (dN p.x)] (·=.d (dN x))∧C0 30 [.d (dN p.y)] (·=.d (dN y))∧C0 29 [.d (dN x),.d (.int .i64 d)] (·=.tup (.pr (.d (dz f.c)) (.d (.int .i64 0))))∧C0 29 [.d (dN y),.d (.int .i64 d)] (·=.tup (.pr (.d (dz f.e)) (.d (.int .i64 0))))
 x : C0 29 [.d (dN p.x),.d (.int .i64 d)] (·=.tup (.pr (.d (dz f.a)) (.d (.int .i64 0))))
 y : C0 29 [.d (dN p.y),.d (.int .i64 d)] (·=.tup (.pr (.d (dz f.b)) (.d (.int .i64 0))))
 z : BdL f
def CuR (d : Int) (c : Cv) (fs : List F4) : Prop:=∃ P : List Vn,CN0 28 [.ptr 1000001 0,.d (dC c)] [(1000001,cal)] (·=.d (dVs P))∧P.length=fs.length∧P.length≤100∧∀ (i : Nat) p f,P[i]?=some p→fs[i]?=some f→PtR d p f
def Ynz (d : Nat) : Option F4→AV
 | none=>zBA
 | some g=>.d (Xmv g d)
theorem Xz4 {x y : Rat} (hx : Qs 400000 x) (hy : Qs 400000 y) : C0 33 [.d (dq x),.d (dq y)] (·=.d (.int .i64 (Xgu x y))):=R2.Cmp_ok hx hy (by decide)
theorem Yjw {x : Rat} (hx : Qs 400000 x) : C0 32 [.d (dq x)] (·=.d (dq (-x))):=R2.Neg_ok hx (by decide)
theorem Yn4 {x y : Int} {d : Nat} : Xgu (qb x d) (qb y d)<0↔x<y:=Xwe.trans Yha
theorem Yn3 {x y : Int} {d : Nat} : Xgu (-(qb x d)) (-(qb y d)) > 0↔x<y:=Yeo.trans (Rat.neg_lt_neg_iff.trans Yha)
abbrev Zi : D:=.st (.pr (.bool false) (.sl 1 []))
abbrev zBD : D:=.st (.pr (.st (.pr Zi Zi)) (.pr (.st (.pr Zi Zi)) (.pr (.st (.pr Zi Zi)) (.st (.pr Zi Zi)))))
theorem Yil {g : Hp} {K : Hpl} : Fit g K (.st (.pr (.b false) .nil)) (.d Zi):=.sd (.pd (.bd rfl) (.nil rfl))
theorem Xyx {g : Hp} {K : Hpl} : Fit g K (.st (.pr (.st (.pr (.b false) .nil)) (.st (.pr (.b false) .nil)))) (.d (.st (.pr Zi Zi))):=.sd (.pd Yil Yil)
theorem Xyy {g : Hp} {K : Hpl} : Fit g K zBA (.d zBD):=.sd (.pd Xyx (.pd Xyx (.pd Xyx Xyx)))
theorem Xsd {l : List Cv} {d : Int} (h : ¬ (0≤d∧d≤20∧0<l.length)) : C0 8 [.d (Xes l),.d (.int .i64 d)] (·=.tup (.pr (.d zBD) (.d (.int .i64 1)))):=by
 refine En Tryz.func8 fun _ _ _=>?_
 refine By rfl (fun h1=>?_) fun h1=>?_
 · exact RTt rfl (.cons Xyy Xa3)
 refine By rfl (fun h2=>?_) fun h2=>?_
 · exact RTt rfl (.cons Xyy Xa3)
 refine Yes rfl (by rw [lC];omega) ?_
 exact RTt rfl (.cons Xyy Xa3)
theorem Bounds_ok {l : List Cv} {Fs : List (List F4)} {d : Nat} {o : F4} (hd : d≤20) (h0 : 0<l.length) (hl : l.length≤1000) (hv : ∀ c∈l,C0 45 [.d (dC c)] (·=.b true)) (hF : Fs.length=l.length) (hC : ∀ (i : Nat) c fs,l[i]?=some c→Fs[i]?=some fs→CuR d c fs) (ho : lst Fs.flatten=f40 o) :
 C0 8 [.d (Xes l),.d (.int .i64 d)] (·=.tup (.pr (.d (Xmv o d)) (.d (.int .i64 0)))):=by
 refine En Tryz.func8 fun _ _ _=>?_
 refine No rfl (by omega) ?_
 refine No rfl (by omega) ?_
 refine No rfl (by rw [lC];omega) ?_
 refine Ce rfl (Xxl hl hv) ?_
 refine No rfl nofun ?_
 refine Nl 7 7 4 rfl ?_
 refine Lo (fun ((k,vs) : Nat × List Vn)=>[(0,.d (Xes l)),(1,.d (.int .i64 d)),(4,.ptr 4 0),(6,.ptr 38 0),(7,.gr 7 4 (vs.map dV)),(8,.d (.int .i64 k))]) (fun (k,vs)=>[(4,.var zBA),(38,cal),(7,.tok (vs.map dV).length 4)]) (fun (k,vs)=>k≤l.length∧vs.length≤100*k∧vs.length=(Fs.take k).flatten.length∧∀ (i : Nat) p f,vs[i]?=some p→(Fs.take k).flatten[i]?=some f→PtR d p f) (fun (k,_)=>l.length - k) (0,[]) [] rfl ⟨W1c _,W1c _,rfl,fun i p f h=>by simp at h⟩ ?_
 rintro ⟨k,vs⟩ ⟨hk,hv1,hv2,hv3⟩
 have hv1 : vs.length≤100*k:=hv1
 have hv2 : vs.length=(Fs.take k).flatten.length:=hv2
 refine By rfl (fun h=>?_) fun h=>?_ <;> simp only [lC] at h
 · obtain ⟨c,hc⟩ : ∃ c,l[k]?=some c:=⟨_,W0b (by omega)⟩
   obtain ⟨fs,hfs⟩ : ∃ fs,Fs[k]?=some fs:=⟨_,W0b (by omega)⟩
   obtain ⟨P,hP,hPl,hP1,hPf⟩:=hC k c fs hc hfs
   have hnext : (Fs.take (k+1)).flatten=(Fs.take k).flatten++fs:=by rw [W0z,hfs];simp
   refine Ix k rfl (cAt hc) ?_
   refine Cn [(1000001,38)] rfl hP fun v hv=>?_
   subst hv
   refine ApG ((vs++P).map dV) rfl (by rw [W1u]) (by rw [W0i,W0d];omega) ?_
   refine Ar (k+1 : Nat) rfl ?_
   refine Bk (k+1,vs++P) [(52,7)] rfl ⟨by omega,by rw [W0d];omega,by rw [hnext,W0d,W0d,hv2,hPl],fun i p f h1 h2=>?_⟩ (by show l.length - (k+1)<l.length - k;omega)
   rw [hnext] at h2
   by_cases hi : i<vs.length
   · rw [W1a hi] at h1
     rw [W1a (by omega)] at h2
     exact hv3 i p f h1 h2
   · rw [W0v (by omega)] at h1
     rw [W0v (by omega),←hv2] at h2
     exact hPf _ p f h1 h2
 have e : Fs.take k=Fs:=W0a (by omega)
 rw [e] at hv2 hv3
 refine No rfl (by decide) ?_
 refine Lo (fun ((j,o) : Nat × Option F4)=>[(1,.d (.int .i64 d)),(4,.ptr 4 0),(7,.gr 7 4 (vs.map dV)),(9,.ptr 9 0),(10,.d (.int .i64 j))]) (fun (j,o)=>[(4,.var zBA),(7,.tok (vs.map dV).length 4),(9,.var (Ynz d o))]) (fun (j,o)=>j≤vs.length∧lst (Fs.flatten.take j)=ofO o∧(o=none↔j=0)∧∀ g,o=some g→BdL g) (fun (j,_)=>vs.length - j) (0,none) [] rfl ⟨W1c _,rfl,by simp,nofun⟩ ?_
 rintro ⟨j,o2⟩ ⟨hj,ho2,hn2,hz2⟩
 have ho2 : lst (Fs.flatten.take j)=ofO o2:=ho2
 have hn2 : o2=none↔j=0:=hn2
 refine By rfl (fun h=>?_) fun h=>?_ <;> simp only [W0i] at h
 · obtain ⟨p,hp⟩ : ∃ p,vs[j]?=some p:=⟨_,W0b (by omega)⟩
   obtain ⟨f,hf⟩ : ∃ f,Fs.flatten[j]?=some f:=⟨_,W0b (by omega)⟩
   obtain ⟨⟨x',y',n1,n2,n3,n4⟩,m1,m2,z1,z2,z3,z4⟩:=hv3 j p f hp hf
   have hst : lst (Fs.flatten.take (j+1))=ofO (some (nxF o2 f)):=by
    rw [W0z,hf,Option.toList_some,Xki,ho2];exact Xix
   have hpu : (vs.map dV)[j]?=some (dV p):=by rw [W1f,hp];rfl
   have q1:=Xgr z1 hd
   have q2:=Xgr z2 hd
   have q3:=Xgr z3 hd
   have q4:=Xgr z4 hd
   refine Ix j rfl hpu ?_
   refine Ce rfl m1 ?_
   refine Ix j rfl hpu ?_
   refine Ce rfl m2 ?_
   refine Ix j rfl hpu ?_
   refine Ce rfl n1 ?_
   refine Ce rfl n3 ?_
   refine Ix j rfl hpu ?_
   refine Ce rfl n2 ?_
   refine Ce rfl n4 ?_
   refine Dw rfl ?_
   refine Ce rfl (Xeb z1.zb hd) ?_
   refine Ce rfl (Xeb z2.zb hd) ?_
   refine Ce rfl (Xeb z3.zb hd) ?_
   refine Ce rfl (Yjw q3) ?_
   refine Ce rfl (Xeb z4.zb hd) ?_
   refine Ce rfl (Yjw q4) ?_
   cases o2 with
   | none =>
    obtain rfl : j=0:=hn2.1 rfl
    refine Yes rfl rfl ?_
    refine Yes rfl rfl ?_
    refine Yes rfl rfl ?_
    refine Yes rfl rfl ?_
    refine Ar (0+1 : Nat) rfl ?_
    exact Bk (0+1,some f) [] rfl ⟨by omega,hst,by simp,fun g hg=>by injection hg with hg;subst hg;exact ⟨z1,z2,z3,z4⟩⟩ (by show vs.length - (0+1)<vs.length - 0;omega)
   | some g =>
    have hj0 : j≠0:=fun e=>by cases hn2.2 e
    obtain ⟨w1,w2,w3,w4⟩:=hz2 g rfl
    have r1:=Xgr w1 hd
    have r2:=Xgr w2 hd
    have r3:=Xgr w3 hd
    have r4:=Xgr w4 hd
    refine No rfl (by omega) ?_
    refine Ce rfl (Xz4 q1 r1) ?_
    refine Cu none (fun y : F4=>[(1,.d (.int .i64 d)),(4,.ptr 4 0),(7,.gr 7 4 (vs.map dV)),(9,.ptr 9 0),(10,.d (.int .i64 j)),(19,.ptr 19 0)]) (fun y=>[(4,.var zBA),(7,.tok (vs.map dV).length 4),(9,.var (.d (Xmv y d))),(19,.var (.d (Xmv f d)))]) (fun y=>y=⟨mn g.a f.a,g.b,g.c,g.e⟩) rfl ?_ fun y hy=>?_
    · refine By rfl (fun h1=>?_) fun h1=>?_
      · exact Jn (⟨f.a,g.b,g.c,g.e⟩ : F4) [] rfl (by rw [Xkg (Yn4.1 h1)])
      · exact Jn (⟨g.a,g.b,g.c,g.e⟩ : F4) [] rfl (by rw [Xkh fun e=>h1 (Yn4.2 e)])
    subst hy
    refine No rfl (by omega) ?_
    refine Ce rfl (Xz4 q2 r2) ?_
    refine Cu none (fun y : F4=>[(1,.d (.int .i64 d)),(4,.ptr 4 0),(7,.gr 7 4 (vs.map dV)),(9,.ptr 9 0),(10,.d (.int .i64 j)),(19,.ptr 19 0)]) (fun y=>[(4,.var zBA),(7,.tok (vs.map dV).length 4),(9,.var (.d (Xmv y d))),(19,.var (.d (Xmv f d)))]) (fun y=>y=⟨mn g.a f.a,mn g.b f.b,g.c,g.e⟩) rfl ?_ fun y hy=>?_
    · refine By rfl (fun h1=>?_) fun h1=>?_
      · exact Jn (⟨mn g.a f.a,f.b,g.c,g.e⟩ : F4) [] rfl (by rw [Xkg (Yn4.1 h1)])
      · exact Jn (⟨mn g.a f.a,g.b,g.c,g.e⟩ : F4) [] rfl (by rw [Xkh fun e=>h1 (Yn4.2 e)])
    subst hy
    refine No rfl (by omega) ?_
    refine Ce rfl (Xz4 q3.neg r3.neg) ?_
    refine Cu none (fun y : F4=>[(1,.d (.int .i64 d)),(4,.ptr 4 0),(7,.gr 7 4 (vs.map dV)),(9,.ptr 9 0),(10,.d (.int .i64 j)),(19,.ptr 19 0)]) (fun y=>[(4,.var zBA),(7,.tok (vs.map dV).length 4),(9,.var (.d (Xmv y d))),(19,.var (.d (Xmv f d)))]) (fun y=>y=⟨mn g.a f.a,mn g.b f.b,mn g.c f.c,g.e⟩) rfl ?_ fun y hy=>?_
    · refine By rfl (fun h1=>?_) fun h1=>?_
      · exact Jn (⟨mn g.a f.a,mn g.b f.b,f.c,g.e⟩ : F4) [] rfl (by rw [Xkg (Yn3.1 h1)])
      · exact Jn (⟨mn g.a f.a,mn g.b f.b,g.c,g.e⟩ : F4) [] rfl (by rw [Xkh fun e=>h1 (Yn3.2 e)])
    subst hy
    refine No rfl (by omega) ?_
    refine Ce rfl (Xz4 q4.neg r4.neg) ?_
    refine Cu none (fun y : F4=>[(1,.d (.int .i64 d)),(4,.ptr 4 0),(7,.gr 7 4 (vs.map dV)),(9,.ptr 9 0),(10,.d (.int .i64 j)),(19,.ptr 19 0)]) (fun y=>[(4,.var zBA),(7,.tok (vs.map dV).length 4),(9,.var (.d (Xmv y d))),(19,.var (.d (Xmv f d)))]) (fun y=>y=⟨mn g.a f.a,mn g.b f.b,mn g.c f.c,mn g.e f.e⟩) rfl ?_ fun y hy=>?_
    · refine By rfl (fun h1=>?_) fun h1=>?_
      · exact Jn (⟨mn g.a f.a,mn g.b f.b,mn g.c f.c,f.e⟩ : F4) [] rfl (by rw [Xkg (Yn3.1 h1)])
      · exact Jn (⟨mn g.a f.a,mn g.b f.b,mn g.c f.c,g.e⟩ : F4) [] rfl (by rw [Xkh fun e=>h1 (Yn3.2 e)])
    subst hy
    refine Ar (j+1 : Nat) rfl ?_
    exact Bk (j+1,some (nxF (some g) f)) [] rfl ⟨by omega,hst,by simp,fun g' hg=>by injection hg with hg;subst hg;exact BdL.nx (o:=some g) (fun _ e=>by injection e with e;subst e;exact ⟨w1,w2,w3,w4⟩) ⟨z1,z2,z3,z4⟩⟩ (by show vs.length - (j+1)<vs.length - j;omega)
 · rw [W0a (by omega)] at ho2
   rw [ho] at ho2
   cases o2 with
   | none=>cases ho2
   | some g =>
    obtain rfl : o=g:=by
     obtain ⟨a,b,c,e⟩:=o
     obtain ⟨a',b',c',e'⟩:=g
     simp only [ofO,f40,P55.O4.mk.injEq,Option.some.injEq] at ho2
     obtain ⟨rfl,rfl,rfl,rfl⟩:=ho2
     rfl
    exact R0t
end
end Go.Proofs.YtpgcfjpkilabfaaGreatDoor.R55
namespace Go.Tow
open Go Go.Num Go.Proofs.YtpgcfjpkilabfaaGreatDoor
variable {k : Rat} {ρ : Nat→El 1} {r p : Nat} {z : Nm} {v : El 1}
abbrev G1 (k : Rat) : Tw 1:=((),k)
abbrev r1 : El 1:=((0 : Rat),(1 : Rat))
abbrev n1 (k : Rat) (v : El 1) : Nm:=⟨1,G1 k,v⟩
theorem Yj6 (hk : 0<k) (hn : ¬ Xb6 0 () k) : red 1 (G1 k):=⟨trivial,Xby hk,hn⟩
theorem Yc7 : mul 1 (G1 k) r1 r1=rat 1 k:=by
 show (((0 : Rat)*0+((1 : Rat)*1)*k,(0 : Rat)*1+(1 : Rat)*0) : Rat × Rat)=(k,0)
 exact W2f (by show (0 : Rat)*0+((1 : Rat)*1)*k=k;grind) (by show (0 : Rat)*1+(1 : Rat)*0=0;grind)
theorem Yg8 (hk : 0<k) : sgn 1 (G1 k) r1=1:=Xtj (k:=0) (t:=G1 k) trivial
theorem ev1 {a : El 1} (h : ρ 0=r1) : ev (G1 k) ρ 1 a=a:=by
 show add 1 (rat 1 a.1) (mul 1 (G1 k) (rat 1 a.2) (ρ 0))=a
 rw [h]
 obtain ⟨x,y⟩:=a
 have h1 : ∀ x y : Rat,x+(y*0+((0 : Rat)*1)*k)=x:=fun x y=>by grind
 have h2 : ∀ y : Rat,(0 : Rat)+(y*1+(0 : Rat)*0)=y:=fun y=>by grind
 exact W2f (h1 x y) (h2 y)
theorem Yks (hk : 0<k) (hn : ¬ Xb6 0 () k) : TOk (G1 k) [r1] 1 (G1 k) (fun _=>r1) :=
 ⟨Yj6 hk hn,⟨trivial,Yc7,Yg8 hk⟩,fun i _=>W0e.2 rfl⟩
theorem Ygc (hk : 0<k) (hn : ¬ Xb6 0 () k) {m : Nat} {T : Tw m} (h : TOk (G1 k) [r1] m T ρ) : m=0∨∃ e : m=1,e ▸ T=G1 k∧ρ 0=r1:=by
 have hm : m≤1:=h.le (Xag (Yj6 hk hn))
 match m,T,h,hm with
 | 0,_,_,_=>exact .inl rfl
 | 1,((),t),h,_ =>
  have h0 : ρ 0=r1:=W0e.1 (h.s 0 (by decide))
  have h2 : mul 1 (G1 k) (ρ 0) (ρ 0)=rat 1 t:=h.h.2.1
  rw [h0,Yc7] at h2
  have h2 : k=t:=congrArg Prod.fst h2
  exact .inr ⟨rfl,by rw [h2],h0⟩
theorem W1 (hk : 0<k) (hn : ¬ Xb6 0 () k) (hq : Qs 64 k) : Wn (G1 k) [r1] [n1 k r1]:=by
 refine ⟨⟨Yj6 hk hn,by decide,fun {m T ρ} h=>?_⟩,fun z hz=>?_⟩
 · rcases Ygc hk hn h with rfl | ⟨rfl,e,_⟩
   · trivial
   · have e : T=G1 k:=e
     subst e
     exact ⟨trivial,(Sz.rat 0 hq).mono (by rw [Xg7];decide)⟩
 · obtain rfl:=W0e.1 hz
   exact ⟨_,Yks hk hn⟩
theorem Yk5 : Qs 1 (1 : Rat):=⟨show (1 : Int).natAbs<2 ^ 1 by decide,show ((1 : Nat) : Int).natAbs<2 ^ 1 by decide⟩
theorem Yk6 : Qs 1 (0 : Rat):=⟨show (0 : Int).natAbs<2 ^ 1 by decide,show ((1 : Nat) : Int).natAbs<2 ^ 1 by decide⟩
theorem gr1 (hk : 0<k) (hn : ¬ Xb6 0 () k) (hq : Qs 64 k) : Gd (G1 k) [r1] [n1 k r1] 1 (n1 k r1) r1:=by
 refine .short (W1 hk hn hq) ⟨⟨_,Yks hk hn,ev1 rfl⟩,⟨trivial,(Sz.rat 0 hq).mono (by decide)⟩,?_⟩ (W0e.2 rfl)
 have : Sz (1*2+1) (toL 1 r1):=Sz.all (p:=1) (l:=[(0 : Rat),1]) fun x hx=>by
  have hx : x∈[(0 : Rat),1]:=hx
  rcases W1k.1 hx with rfl | hx
  · exact Yk6
  · obtain rfl:=W0e.1 hx;exact Yk5
 exact this.mono (by decide)
theorem nm1 (hk : 0<k) (hn : ¬ Xb6 0 () k) (h : NOk (G1 k) [r1] r p z v) (hv : v.2≠(0 : Rat)) : z=n1 k v:=by
 obtain ⟨ρ,h1,h2⟩:=h.ex
 obtain ⟨m,T,a⟩:=z
 rcases Ygc hk hn h1 with e | ⟨e,e2,e3⟩
 · have e : m=0:=e
   subst e
   have h2 : rat 1 a=v:=h2
   rw [←h2] at hv
   exact absurd rfl hv
 · have e : m=1:=e
   subst e
   have e2 : T=G1 k:=e2
   subst e2
   have h2 : ev (G1 k) ρ 1 a=v:=h2
   rw [ev1 e3] at h2
   rw [h2]
end Go.Tow
namespace Go.Proofs.YtpgcfjpkilabfaaGreatDoor.R55
open Go Go.Vm Go.Num Go.Tow Go.Proofs.YtpgcfjpkilabfaaGreatDoor
section
open Go.Proofs.YtpgcfjpkilabfaaGreatDoor.P55 (v0 W0 g0 gv0 zw Xl7 Qp nr Xbe Xzd sel Xey Yki d2)
theorem Yjv {x : Nm} {d : Nat} (H : P11.Pk x) (hd : d≤60) : ∃ z,Xa7 x.k x.t (scl x.k x.t x.a ((10 ^ d : Int) : Rat) ((0 : Int) : Rat)) z:=by
 have S:=H.sc (P11.ten_qs hd) (Qs.int (z:=0) (show Int.natAbs 0<2 ^ 2 by decide) (by decide))
 have h:=Xqo H.re (Xgv H.re (scl x.k x.t x.a ((10 ^ d : Int) : Rat) ((0 : Int) : Rat)) 2048) S.w1
 exact Classical.byCases (fun hs=>⟨_,h.1 hs⟩) fun hs=>⟨_,h.2 hs⟩
theorem Ymu {x : Nm} {d : Nat} {z : Int} (H : P11.Pk x) (hd : d≤60) (h : Xa7 x.k x.t (scl x.k x.t x.a ((10 ^ d : Int) : Rat) ((0 : Int) : Rat)) z) : C0 23 [.d (dN x),.d (.int .i64 d)] (·=.tup (.pr (.d (dz z)) (.d (.int .i64 0)))) :=
 (P11.Floor_ok H hd).mono fun v ⟨w,e,hw,_⟩=>by rw [e,Xa7.uniq H.re hw h]
theorem Ymt {x : Nm} {d : Nat} {z : Int} (H : P11.Pk x) (hd : d≤60) (h : Xa7 x.k x.t (scl x.k x.t x.a ((10 ^ d : Int) : Rat) ((0 : Int) : Rat)) z) : C0 29 [.d (dN x),.d (.int .i64 d)] (·=.tup (.pr (.d (dz z)) (.d (.int .i64 0)))) :=
 (R11.Floor_ok H hd).mono fun v ⟨w,e,hw⟩=>by rw [e,Xa7.uniq H.re hw h]
structure CoF (d : Nat) (x : Nm) (a c : Int) : Prop where
 n : ∃ y,C0 22 [.d (dN x)] (·=.d (dN y))∧C0 30 [.d (dN x)] (·=.d (dN y))∧C0 23 [.d (dN y),.d (.int .i64 d)] (·=.tup (.pr (.d (dz c)) (.d (.int .i64 0))))∧C0 29 [.d (dN y),.d (.int .i64 d)] (·=.tup (.pr (.d (dz c)) (.d (.int .i64 0))))
 p : C0 23 [.d (dN x),.d (.int .i64 d)] (·=.tup (.pr (.d (dz a)) (.d (.int .i64 0))))
 r : C0 29 [.d (dN x),.d (.int .i64 d)] (·=.tup (.pr (.d (dz a)) (.d (.int .i64 0))))
 za : Zl a
 zc : Zl c
def Crd (x : Nm) : Prop:=∀ d : Nat,d≤20→∃ a c,CoF d x a c
abbrev ngN (x : Nm) : Nm:=⟨x.k,x.t,Tow.neg x.k x.a⟩
theorem Crd.of {x : Nm} (hp : C0 22 [.d (dN x)] (·=.d (dN (ngN x)))) (hr : C0 30 [.d (dN x)] (·=.d (dN (ngN x)))) (H : P11.Pk x) (H' : P11.Pk (ngN x)) : Crd x:=fun d hd=>by
 obtain ⟨a,ha⟩:=Yjv H (d:=d) (by omega)
 obtain ⟨c,hc⟩:=Yjv H' (d:=d) (by omega)
 exact ⟨a,c,⟨_,hp,hr,Ymu H' (by omega) hc,Ymt H' (by omega) hc⟩,Ymu H (by omega) ha,Ymt H (by omega) ha,Yb4 H (by omega) ha,Yb4 H' (by omega) hc⟩
def Pnt (p : Vn) : Prop:=Crd p.x∧Crd p.y
theorem Pnt.fs {d : Nat} (hd : d≤20) : ∀ {P : List Vn},(∀ p∈P,Pnt p)→∃ fs : List F4,fs.length=P.length∧(∀ f∈fs,BdL f)∧∀ (i : Nat) p f,P[i]?=some p→fs[i]?=some f→P55.PtF d p f∧PtR d p f
 | [],_=>⟨[],rfl,fun f hf=>(by cases hf),fun i p f h=>by simp at h⟩
 | p::P,h=>by
  obtain ⟨fs,h1,h0,h2⟩:=Pnt.fs hd (P:=P) fun p hp=>h p (W0x _ hp)
  obtain ⟨hx,hy⟩:=h p (W0t ..)
  obtain ⟨a,c,⟨x',n1,n2,n3,n4⟩,n5,n6,n7,n8⟩:=hx d hd
  obtain ⟨b,e,⟨y',m1,m2,m3,m4⟩,m5,m6,m7,m8⟩:=hy d hd
  refine ⟨⟨a,b,c,e⟩::fs,by simp [h1],fun f hf=>(W1k.1 hf).elim (fun e=>e ▸ ⟨n7,m7,n8,m8⟩) (h0 f),fun i q f h3 h4=>?_⟩
  cases i with
  | zero =>
   simp only [List.getElem?_cons_zero,Option.some.injEq] at h3 h4
   subst h3;subst h4
   exact ⟨⟨⟨x',y',n1,m1,n3,m3⟩,n5,m5,n7.zb,m7.zb,n8.zb,m8.zb⟩,⟨⟨x',y',n2,m2,n4,m4⟩,n6,m6,n7,m7,n8,m8⟩⟩
  | succ i =>
   simp only [List.getElem?_cons_succ] at h3 h4
   exact h2 i q f h3 h4
theorem Crd.rat {q : Rat} (h : Qs 64 q) : Crd (nr q) :=
 Crd.of (P9.Neg_ok (g0 h).o (W1c _) (by decide) (by unfold gB;decide)) (R9.Neg_ok (g0 h).o (W1c _) (by unfold gB;decide)) (P11.Pk_rat h (by decide)) (P11.Pk_rat (q:=-q) h.neg (by decide))
theorem Pnt.rat {p : Rat × Rat} (h : Qp 64 p) : Pnt (v0 p):=⟨Crd.rat h.1,Crd.rat h.2⟩
abbrev sg {K : Nat} (rv : Tow.El K) (e : Bool) : Tow.El K:=if e then rv else neg K rv
structure Wr {K : Nat} (G : Tw K) (S : List (Tow.El K)) (N : List Nm) (s : Rat) (r : Nm) (rv : Tow.El K) : Prop where
 W : Wn G S N
 g : Gd G S N 1 r rv
 sq : mul K G rv rv=rat K s
 ex : ∀ (e : Bool) (q : Rat),Qs 64 q→∃ z,(∀ {a b : Nat} {z' : Nm},NOk G S a b z' (add K (rat K q) (sg rv e))→z'=z)∧Crd z∧Gd G S N 2 z (add K (rat K q) (sg rv e))
section
variable {K : Nat} {G : Tw K} {S : List (Tow.El K)} {N : List Nm} {s : Rat} {r : Nm} {rv : Tow.El K} {p q t : Rat × Rat} {cw : Bool} {δ : V2 K} {d x u v : Vn} {n : Nat}
abbrev emb (K : Nat) (p : Rat × Rat) : V2 K:=(rat K p.1,rat K p.2)
theorem Xvx (W : Wn G S N) (h : Qp 64 p) : Gv G S N 1 (v0 p) (emb K p):=⟨Gd.rat W h.1,Gd.rat W h.2⟩
theorem Xvw : Xa8 (emb K q) (emb K p)=emb K (Xa8 (K:=0) q p):=W2f (by show add K _ (neg K _)=rat K (q.1+-p.1);rw [Xdm,Xhn]) (by show add K _ (neg K _)=rat K (q.2+-p.2);rw [Xdm,Xhn])
theorem Ylt : Xb2 G (emb K p) (emb K p)=rat K (Xb2 (K:=0) () p p):=by
 show _=rat K (p.1*p.1+p.2*p.2)
 rw [Xdm,Xcy K G,Xcy K G];rfl
theorem Yeb : emb K p=emb K q↔p=q:=⟨fun h=>W2f (Xnk (congrArg Prod.fst h)) (Xnk (congrArg Prod.snd h)),fun h=>by rw [h]⟩
theorem Xdv (G : Tw K) {c w : V2 K} : Xa8 (Xfw c w) c=w:=by
 obtain ⟨a,b⟩:=c
 obtain ⟨e,f⟩:=w
 have L:=Xay K G
 exact W2f (Laws.req L [a,e] (.add (.add (.v 0) (.v 1)) (.neg (.v 0))) (.v 1) (by decide +kernel)) (Laws.req L [b,f] (.add (.add (.v 0) (.v 1)) (.neg (.v 0))) (.v 1) (by decide +kernel))
theorem Yac {w : Rat × Rat} (h : w≠(0,0)) : emb K w≠vz K:=fun e=>h (by
 have e : emb K w=emb K (0,0):=e.trans (W2f (Xdl K).symm (Xdl K).symm)
 exact Yeb.1 e)
theorem Xs6 (h : q≠p) : Xa8 (K:=0) q p≠((0,0) : Rat × Rat):=fun e=>h (by
 have h1 : q.1+-p.1=0:=congrArg Prod.fst e
 have h2 : q.2+-p.2=0:=congrArg Prod.snd e
 exact W2f (by grind) (by grind))
theorem Yk7 (W : Wn G S N) (A : R47.ArcOk p q t) (hs : s=Xb2 (K:=0) () (Xa8 (K:=0) q p) (Xa8 (K:=0) q p)) (hne : q≠p) (hd1 : Xb2 G δ δ=rat K s) (hx : Gv G S N 2 x (Xfw (emb K p) δ)) :
 C0 57 [.d (dC ⟨true,v0 q,v0 t,v0 p,cw⟩),.d (dV x)] (·=.b (dc (q=t∨onV G cw (emb K (Xa8 (K:=0) q p)) (emb K (Xa8 (K:=0) t p)) δ)))∧C0 74 [.d (dC ⟨true,v0 q,v0 t,v0 p,cw⟩),.d (dV x)] (·=.b (dc (q=t∨onV G cw (emb K (Xa8 (K:=0) q p)) (emb K (Xa8 (K:=0) t p)) δ))):=by
 subst hs
 have hu0:=Xs6 hne
 have hs0 : Xb2 (K:=0) () (Xa8 (K:=0) q p) (Xa8 (K:=0) q p)≠(0 : Rat):=fun e=>hu0 (vsq (K:=0) (G:=()) trivial ((congrArg (sgn 0 ()) e).trans (by decide +kernel)))
 have hv0 : Xa8 (K:=0) t p≠((0,0) : Rat × Rat):=fun e=>hs0 (A.e.trans ((congrArg (fun w : V2 0=>Xb2 (K:=0) () w w) e).trans (show (0 : Rat)*0+0*0=0 by decide +kernel)))
 have hδ0 : δ≠vz K:=fun e=>hs0 (by
  have h1 : Xb2 G δ δ=zero K:=by rw [e];have L:=Xay K G;exact (show add K (mul K G (zero K) (zero K)) (mul K G (zero K) (zero K))=zero K by rw [L.mz,L.az])
  rw [hd1,←Xdl K] at h1
  exact Xnk h1)
 have hu1:=Yac (K:=K) hu0
 have hv1:=Yac (K:=K) hv0
 have hpx:=Xvx W A.hp
 constructor
 · have hz : C0 120 [.d (dC ⟨true,v0 q,v0 t,v0 p,cw⟩)] (·=.tup (.pr (.d (P15.dK (v0 p) (nr (Xb2 (K:=0) () (Xa8 (K:=0) q p) (Xa8 (K:=0) q p))))) (.d (.int .i64 0)))) :=
    (P47.around_g (c:=⟨true,v0 q,v0 t,v0 p,cw⟩) W0 (gv0 A.hp) (gv0 A.hq) (Xbe A.hp.1) (Xbe A.hp.2) (by decide) hne.symm).mono fun v ⟨z,e,hz⟩=>by rw [e,zw hz.o]
   have hsd : C0 121 [.d (P15.dK (v0 p) (nr (Xb2 (K:=0) () (Xa8 (K:=0) q p) (Xa8 (K:=0) q p)))),.d (dV x)] (·=.tup (.pr (.d (.int .i64 0)) (.d (.int .i64 0)))) :=
    (P15.Side_g W hpx (Gd.rat W A.s) hx (by decide) (by decide)).mono fun v e=>by
     rw [e,Xdv G,hd1,(Xay K G).an,(Xas (Xag W.w.g)).s0 (Xay K G)]
   have hfl:=P47.full_g (c:=⟨true,v0 q,v0 t,v0 p,cw⟩) W0 rfl (gv0 A.hq) (gv0 A.hr) (by decide) (by decide)
   by_cases hqt : q=t
   · refine (P47.On_full (c:=⟨true,v0 q,v0 t,v0 p,cw⟩) rfl hz hsd (hfl.mono fun v e=>e.trans (congrArg AV.b (Xan.2 hqt)))).mono fun v e=>e.trans (congrArg AV.b (Xan.2 (.inl hqt)).symm)
   · have hfl' : C0 122 [.d (dC ⟨true,v0 q,v0 t,v0 p,cw⟩)] (·=.b false):=hfl.mono fun v e=>e.trans (congrArg AV.b (W4j.2 fun e=>hqt (Xan.1 e)))
     have hX : C0 101 [.d (dV x),.d (dV (v0 p))] (VoG G S N 3 δ):=(P13.Sub_g W hx hpx (by decide) (by decide)).mono fun v hv=>by rw [Xdv G] at hv;exact hv
     refine (P47.On_part (c:=⟨true,v0 q,v0 t,v0 p,cw⟩) W rfl hz hsd hfl' (Yki A.hq A.hp rfl) (Xvx W A.u) (Xbe A.u.1) (Yki A.hr A.hp rfl) (Xvx W A.v) (Xbe A.v.1) hX (by decide) hu1 hv1 hδ0).mono fun v e=>e.trans (congrArg AV.b ?_)
     exact W3t.2 (Xan.trans (Iff.trans ⟨fun h=>.inr h,fun h=>h.elim (fun e=>absurd e hqt) id⟩ Xan.symm))
 · have h1:=Xvw (K:=K) (q:=q) (p:=p)
   have h2:=Xvw (K:=K) (q:=t) (p:=p)
   refine (R47.On_g (c:=⟨true,v0 q,v0 t,v0 p,cw⟩) W rfl hpx (Xvx W A.hq) (Xvx W A.hr) hx (by decide) (by rw [h1];exact hu1) (by rw [h2];exact hv1) (by rw [Xdv G];exact hδ0) (by rw [h1,Xdv G];exact Ylt.trans hd1.symm)).mono fun v e=>e.trans (congrArg AV.b ?_)
   rw [h1,h2,Xdv G]
   exact W3t.2 (Xan.trans (Iff.trans (or_congr Yeb W3j) Xan.symm))
end
end
section
open Go.Proofs.YtpgcfjpkilabfaaGreatDoor.P55 (v0 W0 g0 gv0 zw Xl7 Qp nr Xbe Xzd sel Xey)
section
variable {K : Nat} {G : Tw K} {S : List (Tow.El K)} {N : List Nm} {s : Rat} {r : Nm} {rv : Tow.El K} {p q t : Rat × Rat} {cw : Bool} {δ : V2 K} {d x u v : Vn} {n : Nat}
theorem Xz6 {x y : Nm} (h1 : C0 118 [.d (dN u.x),.d (dN v.x)] (·=.tup (.pr (.d (dN x)) (.d (.int .i64 0))))) (h2 : C0 118 [.d (dN u.y),.d (dN v.y)] (·=.tup (.pr (.d (dN y)) (.d (.int .i64 0))))) : C0 56 [.d (dV u),.d (dV v)] (·=.tup (.pr (.d (dV ⟨x,y⟩)) (.d (.int .i64 0)))):=by
 have hb : C0 117 [.d (dV u),.d (dV v),.d (fnD 118)] (·=.tup (.pr (.d (dV ⟨x,y⟩)) (.d (.int .i64 0)))):=by
  refine En Tryz.func117 fun _ _ _=>?_
  refine Ce rfl h1 ?_
  refine No rfl (by decide) ?_
  refine Ce rfl h2 ?_
  refine No rfl (by decide) ?_
  exact RTt rfl (.cons (.rf rfl) Xa3)
 refine En Tryz.func56 fun _ _ _=>?_
 refine Ce rfl hb ?_
 exact RTt rfl (.cons (.rf rfl) Xa3)
theorem Xra {x y : Nm} (h1 : C0 172 [.d (dN u.x),.d (dN v.x)] (·=.tup (.pr (.d (dN x)) (.d (.int .i64 0))))) (h2 : C0 172 [.d (dN u.y),.d (dN v.y)] (·=.tup (.pr (.d (dN y)) (.d (.int .i64 0))))) : CN0 42 [.ptr 1000001 0,.d (dV u),.d (dV v)] [(1000001,cal)] (·=.d (dV ⟨x,y⟩)):=by
 have hb : C0 91 [.d (dV u),.d (dV v)] (·=.tup (.pr (.d (dV ⟨x,y⟩)) (.d (.int .i64 0)))):=by
  refine En Tryz.func91 fun _ _ _=>?_
  refine Ce rfl h1 ?_
  refine Ce rfl h2 ?_
  refine Dw rfl ?_
  refine Ce rfl R13.first_ok ?_
  refine Ce rfl R13.vec_ok ?_
  exact RTt rfl (.cons (.rf rfl) Xa3)
 refine EnW Tryz.func42 fun _ _ _ _=>?_
 refine Ce rfl hb ?_
 refine Cn [] rfl R15.vec_ok fun v hv=>?_
 subst hv
 exact Rw [] [(1000001,cal)] rfl (.one (.rf rfl) rfl rfl) ⟨rfl,rfl⟩
theorem Yfm {P : Program} [Gb P] {f : FuncId} {ar : List AV} {H0 : Hpl} {Q Q' : AV→Prop} (h : CN P f ar H0 Q) (k : ∀ v,Q v→Q' v) : CN P f ar H0 Q':=⟨h.1,fun W θ vs hg ho ha=>(h.2 W θ vs hg ho ha).mono fun e w' ⟨W',θ',v,u,H',h1,h2,h3,h4,h5,h6,h7,h8,h9⟩=>⟨W',θ',v,u,H',h1,h2,h3,h4,h5,h6,h7,h8,h9.1,k v h9.2⟩⟩
structure Sm (W : Wn G S N) (q : Rat) (y : Nm) (w : Tow.El K) (z : Nm) : Prop where
 p : C0 118 [.d (dN (nr q)),.d (dN y)] (·=.tup (.pr (.d (dN z)) (.d (.int .i64 0))))
 r : C0 172 [.d (dN (nr q)),.d (dN y)] (·=.tup (.pr (.d (dN z)) (.d (.int .i64 0))))
 g : Gd G S N 2 z (add K (rat K q) w)
 c : Crd z
theorem Yjn {q : Rat} : q+((0 : Int) : Rat)=q:=W5p q
theorem Sm.zero (W : Wn G S N) {q : Rat} (h : Qs 64 q) : Sm W q n00 (zero K) (nr q):=by
 have h0 : Qs 64 ((0 : Int) : Rat):=by decide +kernel
 refine ⟨(P9.Add_g W0 (g0 h) (g0 h0) (by decide) (by decide)).mono fun v ⟨z,e,hz⟩=>?_,(R9.Add_g W0 (g0 h) (g0 h0) (by decide) (by decide)).mono fun v ⟨z,e,hz⟩=>?_,?_,Crd.rat h⟩
 · rw [e,zw hz.o];exact congrArg (fun a : Rat=>AV.tup (.pr (.d (dN (nr a))) (.d (.int .i64 0)))) Yjn
 · rw [e,zw hz.o];exact congrArg (fun a : Rat=>AV.tup (.pr (.d (dN (nr a))) (.d (.int .i64 0)))) Yjn
 · have L:=Xay K G
   rw [L.az];exact (Gd.rat W h).mono (by decide)
theorem Sm.root (H : Wr G S N s r rv) (e : Bool) {y : Nm} (hy : Gd G S N 1 y (sg rv e)) {q : Rat} (h : Qs 64 q) : ∃ z,Sm H.W q y (sg rv e) z:=by
 obtain ⟨z,h1,h2,h3⟩:=H.ex e q h
 have hq:=Gd.rat H.W h
 exact ⟨z,(P9.Add_g H.W hq hy (by decide) (by decide)).mono fun v ⟨w,e,hw⟩=>by rw [e,h1 hw.o],(R9.Add_g H.W hq hy (by decide) (by decide)).mono fun v ⟨w,e,hw⟩=>by rw [e,h1 hw.o],h3,h2⟩
theorem Ygu (e : Bool) (h : mul K G rv rv=rat K s) : mul K G (sg rv e) (sg rv e)=rat K s:=by
 cases e with
 | true=>exact h
 | false =>
  have L:=Xay K G
  exact Eq.trans (Laws.req L [rv] (.mul (.neg (.v 0)) (.neg (.v 0))) (.mul (.v 0) (.v 0)) (by decide +kernel)) h
theorem Yb0 (e : Bool) (h : mul K G rv rv=rat K s) : Xb2 G ((sg rv e,zero K) : V2 K) (sg rv e,zero K)=rat K s:=by
 have L:=Xay K G
 show add K (mul K G (sg rv e) (sg rv e)) (mul K G (zero K) (zero K))=_
 rw [L.mz,L.az,Ygu e h]
theorem Ybz (e : Bool) (h : mul K G rv rv=rat K s) : Xb2 G ((zero K,sg rv e) : V2 K) (zero K,sg rv e)=rat K s:=by
 have L:=Xay K G
 show add K (mul K G (zero K) (zero K)) (mul K G (sg rv e) (sg rv e))=_
 rw [L.mz,L.za,Ygu e h]
theorem Yj8 (W : Wn G S N) (A : R47.ArcOk p q t) (hs : s=Xb2 (K:=0) () (Xa8 (K:=0) q p) (Xa8 (K:=0) q p)) (hne : q≠p) (hd1 : Xb2 G δ δ=rat K s) (hx : Gv G S N 2 x (Xfw (emb K p) δ)) :
 ∃ b : Bool,C0 57 [.d (dC ⟨true,v0 q,v0 t,v0 p,cw⟩),.d (dV x)] (·=.b b)∧C0 74 [.d (dC ⟨true,v0 q,v0 t,v0 p,cw⟩),.d (dV x)] (·=.b b):=⟨_,Yk7 W A hs hne hd1 hx⟩
theorem Xwu (H : Wr G S N s r rv) (A : R47.ArcOk p q t) (hs : s=Xb2 (K:=0) () (Xa8 (K:=0) q p) (Xa8 (K:=0) q p)) (hne : q≠p) (hrad : C0 54 [.d (dC ⟨true,v0 q,v0 t,v0 p,cw⟩)] (·=.tup (.pr (.d (dN r)) (.d (.int .i64 0))))) (hsq : C0 141 [.d (dN (nr s))] (·=.tup (.pr (.d (dN r)) (.d (.int .i64 0))))) :
 ∃ P,C0 21 [.d (dC ⟨true,v0 q,v0 t,v0 p,cw⟩)] (·=.tup (.pr (.d (dVs P)) (.d (.int .i64 0))))∧CN0 28 [.ptr 1000001 0,.d (dC ⟨true,v0 q,v0 t,v0 p,cw⟩)] [(1000001,cal)] (·=.d (dVs P))∧0<P.length∧P.length≤100∧∀ x∈P,Pnt x:=by
 have W:=H.W
 have hm : Gd G S N 1 (ngN r) (sg rv false):=H.g.neg
 have hrk:=H.g.le W
 have hnp:=P9.Neg_ok H.g.o (by omega) (by decide) (by unfold gB;omega)
 have hnr:=R9.Neg_ok H.g.o (by omega) (by unfold gB;omega)
 have hnn:=R9.Neg_ok hm.o (show r.k≤16 by omega) (by unfold gB;omega)
 have hf : CN0 72 [.ptr 1000001 0,.d (dV (v0 q)),.d (dV (v0 p))] [(1000001,cal)] (·=.d (dN (nr s))):=Yfm (R15.Far_g W0 (gv0 A.hq) (gv0 A.hp) (by decide)) fun v ⟨z,e,hz⟩=>by rw [e,zw hz.o,hs]
 obtain ⟨z1,k1⟩:=Sm.root H true H.g A.hp.1
 obtain ⟨z2,k2⟩:=Sm.root H true H.g A.hp.2
 obtain ⟨z3,k3⟩:=Sm.root H false hm A.hp.1
 obtain ⟨z4,k4⟩:=Sm.root H false hm A.hp.2
 have o1:=Sm.zero W A.hp.1
 have o2:=Sm.zero W A.hp.2
 obtain ⟨b1,p1⟩:=Yj8 (cw:=cw) (δ:=(sg rv true,zero K)) (x:=⟨z1,nr p.2⟩) W A hs hne (Yb0 true H.sq) ⟨k1.g,o2.g⟩
 obtain ⟨b2,p2⟩:=Yj8 (cw:=cw) (δ:=(zero K,sg rv true)) (x:=⟨nr p.1,z2⟩) W A hs hne (Ybz true H.sq) ⟨o1.g,k2.g⟩
 obtain ⟨b3,p3⟩:=Yj8 (cw:=cw) (δ:=(sg rv false,zero K)) (x:=⟨z3,nr p.2⟩) W A hs hne (Yb0 false H.sq) ⟨k3.g,o2.g⟩
 obtain ⟨b4,p4⟩:=Yj8 (cw:=cw) (δ:=(zero K,sg rv false)) (x:=⟨nr p.1,z4⟩) W A hs hne (Ybz false H.sq) ⟨o1.g,k4.g⟩
 refine ⟨_,P55.extremes_arc (c:=⟨true,v0 q,v0 t,v0 p,cw⟩) (X:=[⟨z1,nr p.2⟩,⟨nr p.1,z2⟩,⟨z3,nr p.2⟩,⟨nr p.1,z4⟩]) (B:=[b1,b2,b3,b4]) rfl hrad hnp rfl rfl (fun i d x b h1 h2 h3=>?_),extremes_arc (c:=⟨true,v0 q,v0 t,v0 p,cw⟩) rfl hf hsq hnr hnn rfl rfl (fun i d x b h1 h2 h3=>?_),W4p _,?_,?_⟩
 · match i,h1,h2,h3 with
   | 0,h1,h2,h3=>cases h1;cases h2;cases h3;exact ⟨Xz6 k1.p o2.p,p1.1⟩
   | 1,h1,h2,h3=>cases h1;cases h2;cases h3;exact ⟨Xz6 o1.p k2.p,p2.1⟩
   | 2,h1,h2,h3=>cases h1;cases h2;cases h3;exact ⟨Xz6 k3.p o2.p,p3.1⟩
   | 3,h1,h2,h3=>cases h1;cases h2;cases h3;exact ⟨Xz6 o1.p k4.p,p4.1⟩
   | i+4,h1,_,_=>cases h1
 · match i,h1,h2,h3 with
   | 0,h1,h2,h3=>cases h1;cases h2;cases h3;exact ⟨Xra k1.r o2.r,p1.2⟩
   | 1,h1,h2,h3=>cases h1;cases h2;cases h3;exact ⟨Xra o1.r k2.r,p2.2⟩
   | 2,h1,h2,h3=>cases h1;cases h2;cases h3;exact ⟨Xra k3.r o2.r,p3.2⟩
   | 3,h1,h2,h3=>cases h1;cases h2;cases h3;exact ⟨Xra o1.r k4.r,p4.2⟩
   | i+4,h1,_,_=>cases h1
 · rw [W0d]
   refine W0h (Nat.add_le_add_left Xey _) ?_
   show 2+4≤100
   decide
 · have hsel : ∀ {X : List Vn} {B : List Bool} {x : Vn},x∈sel X B→x∈X:=fun {X}=>by
    induction X with
    | nil=>intro B x h;cases B <;> cases h
    | cons y X ih =>
     intro B x h
     cases B with
     | nil=>cases h
     | cons b B =>
      simp only [sel] at h
      split at h
      · rcases W1k.1 h with rfl | h
        · exact W0t ..
        · exact W0x _ (ih h)
      · exact W0x _ (ih h)
   intro x hx
   rcases W2x.1 hx with hx | hx
   · simp only [W1k,W5d,or_false] at hx
     rcases hx with rfl | rfl
     · exact Pnt.rat A.hq
     · exact Pnt.rat A.hr
   · have hx:=hsel hx
     simp only [W1k,W5d,or_false] at hx
     rcases hx with rfl | rfl | rfl | rfl
     · exact ⟨k1.c,o2.c⟩
     · exact ⟨o1.c,k2.c⟩
     · exact ⟨k3.c,o2.c⟩
     · exact ⟨o1.c,k4.c⟩
end
end
section
open Go.Proofs.YtpgcfjpkilabfaaGreatDoor.P55 (v0 W0 g0 gv0 zw Xl7 Qp nr Xbe lst f40 ofO nxF O4.nx Xix o40 lC cAt)
theorem Xre {K : Nat} {G : Tw K} {S : List (Tow.El K)} {N : List Nm} (W : Wn G S N) {q : Rat} (h : Qs 1100 q) : Gd G S N 1 ⟨0,(),q⟩ (Tow.rat K q):=by
 have h0 : NOk G S 0 1101 ⟨0,(),q⟩ (Tow.rat K q):=⟨⟨fun _=>zero _,⟨trivial,trivial,fun i hi=>absurd hi (W6q _)⟩,rfl⟩,trivial,Sz.rat 0 h⟩
 have hg : Gs G S N (gB 1) (Tow.rat K q):=(Gs.rat h).mono (by decide)
 exact ⟨h0.re W.w W.h hg,hg,W0c _⟩
theorem Yfl {q : Rat} (h : Qs 1100 q) : Crd (nr q) :=
 Crd.of (P9.Neg_ok (Xre W0 h).o (W1c _) (by decide) (by unfold gB;decide)) (R9.Neg_ok (Xre W0 h).o (W1c _) (by unfold gB;decide)) (P11.Pk_rat h (by decide)) (P11.Pk_rat (q:=-q) h.neg (by decide))
theorem wr0 {s y : Rat} (hy : y*y=s) (h1 : Qs 1000 y) : Wr (K:=0) () [] [] s (nr y) y:=by
 refine ⟨W0,Xre W0 (h1.mono (by decide)),hy,fun e q hq=>?_⟩
 have h2 : Qs 1100 (add 0 (rat 0 q) (sg (K:=0) y e) : Rat):=by
  cases e with
  | true=>exact (show Qs (64+1000+1) (q+y) from hq.add h1).mono (by decide)
  | false=>exact (show Qs (64+1000+1) (q+-y) from hq.add h1.neg).mono (by decide)
 exact ⟨_,fun h=>zw h,Yfl h2,(Xre W0 h2).mono (by decide)⟩
theorem pk1 {s a b : Rat} (hk : 0<s) (hn : ¬ Xb6 0 () s) (hq : Qs 64 s) (ha : Qs 64 a) (hb : Qs 64 b) : P11.Pk (n1 s ((a,b) : Rat × Rat)) :=
 ⟨show 1≤3 by decide,Xag (Yj6 hk hn),⟨trivial,(Sz.rat 0 hq).mono (by decide)⟩,⟨trivial,fun x hx=>by obtain rfl:=W0e.1 hx;exact hq⟩,.inl fun x hx=>by
  have hx : x∈[a,b]:=hx
  rcases W1k.1 hx with rfl | hx
  · exact ha
  · obtain rfl:=W0e.1 hx;exact hb⟩
theorem Yn0 {s a b : Rat} (hk : 0<s) (hn : ¬ Xb6 0 () s) (hq : Qs 64 s) (ha : Qs 64 a) (hb : Qs 64 b) : NOk (G1 s) [r1] 300 129 (n1 s ((a,b) : Rat × Rat)) ((a,b) : Rat × Rat):=by
 refine ⟨⟨_,Yks hk hn,ev1 rfl⟩,⟨trivial,(Sz.rat 0 hq).mono (by decide)⟩,?_⟩
 exact Sz.all (p:=64) (l:=[a,b]) fun x hx=>by
  rcases W1k.1 hx with rfl | hx
  · exact ha
  · obtain rfl:=W0e.1 hx;exact hb
theorem wr1 {s : Rat} (hk : 0<s) (hn : ¬ Xb6 0 () s) (hq : Qs 64 s) : Wr (G1 s) [r1] [n1 s r1] s (n1 s r1) r1:=by
 refine ⟨W1 hk hn hq,gr1 hk hn hq,Yc7,fun e q h=>?_⟩
 have key : ∀ {b : Rat} {w : Tow.El 1},b≠0→Qs 64 b→add 1 (rat 1 q) w=((q,b) : Rat × Rat)→Gd (G1 s) [r1] [n1 s r1] 1 (n1 s w) w→∃ z,(∀ {a b : Nat} {z' : Nm},NOk (G1 s) [r1] a b z' (add 1 (rat 1 q) w)→z'=z)∧Crd z∧Gd (G1 s) [r1] [n1 s r1] 2 z (add 1 (rat 1 q) w):=fun {b w} hb0 hb e hw=>by
  have n:=Yn0 hk hn hq h hb
  refine ⟨n1 s ((q,b) : Rat × Rat),fun h'=>(nm1 hk hn h' (by rw [e];exact hb0)).trans (by rw [e]),?_,Gd.add (W1 hk hn hq) (Gd.rat (W1 hk hn hq) h) hw (by rw [e];exact n)⟩
  exact Crd.of (P9.Neg_ok n (show 1≤16 by decide) (by decide) (by decide)) (R9.Neg_ok n (show 1≤16 by decide) (by decide)) (pk1 hk hn hq h hb) (pk1 hk hn hq (a:=-q) (b:=-b) h.neg hb.neg)
 cases e with
 | true=>exact key (b:=1) (by decide +kernel) (by decide +kernel) (W2f (show q+0=q from W5p q) (show (0 : Rat)+1=1 by decide +kernel)) (gr1 hk hn hq)
 | false=>exact key (b:=-1) (by decide +kernel) (by decide +kernel) (W2f (show q+-0=q by grind) (show (0 : Rat)+-1=-1 by decide +kernel)) (gr1 hk hn hq).neg
theorem Ydl {y z : Rat} (h : y*y=z*z) (hy : 0≤Xew y) (hz : 0≤Xew z) : y=z:=by
 have p : ∀ {y : Rat},0≤Xew y→0≤y:=fun {y} h=>by
  rcases Xax y with ⟨e,_⟩ | ⟨e,_⟩ | ⟨_,e⟩
  · grind
  · grind
  · omega
 have h1:=p hy
 have h2:=p hz
 have h3 : (y - z)*(y+z)=0:=by grind
 rcases Rat.mul_eq_zero.1 h3 with e | e
 · grind
 · grind
theorem Xtr {f : FuncId} {ar : List AV} {s y : Rat} (h : C0 f ar (R9.RtR (nr s))) (hy : y*y=s) (h0 : 0≤Xew y) : C0 f ar (·=.tup (.pr (.d (dN (nr y))) (.d (.int .i64 0)))):=h.mono fun v ⟨z,e,hz⟩=>by
 rcases hz with ⟨w,rfl,h1,h2⟩ | ⟨_,_,hn⟩
 · have hw : (w : Rat)=y:=Ydl (y:=(w : Rat)) (z:=y) (Eq.trans h1 hy.symm) h2 h0
   rw [e,show w=y from hw]
 · exact absurd ⟨y,hy⟩ hn
theorem Yaz {f : FuncId} {ar : List AV} {s : Rat} (h : C0 f ar (R9.RtR (nr s))) (hn : ¬ Xb6 0 () s) : C0 f ar (·=.tup (.pr (.d (dN (n1 s r1))) (.d (.int .i64 0)))):=h.mono fun v ⟨z,e,hz⟩=>by
 rcases hz with ⟨w,rfl,h1,h2⟩ | ⟨rfl,_,_⟩
 · exact absurd ⟨w,h1⟩ hn
 · exact e
theorem Yk4 {s : Rat} (h : Qs 64 s) (h0 : 0≤sgn 0 () s) : C0 141 [.d (dN (nr s))] (R9.RtR (nr s)):=R9.Sqrt_ok (x:=nr s) (r:=1) (p:=65) trivial trivial (Sz.rat 0 h) h0 (show 0<8 by decide) (show qB 1 0 65≤4398046511104 by decide +kernel) (show qB 1 0 1≤4398046511104 by decide +kernel) (show vB 1 0 (65+gC 1 0)≤4398046511104 by decide +kernel) (show vB 1 0 1≤4398046511104 by decide +kernel)
theorem Yi4 {d : Dft} (h : d.ok) (hv : R47.vlD d) : ∃ P,C0 21 [.d (dC (R47.cvD d))] (·=.tup (.pr (.d (dVs P)) (.d (.int .i64 0))))∧CN0 28 [.ptr 1000001 0,.d (dC (R47.cvD d))] [(1000001,cal)] (·=.d (dVs P))∧0<P.length∧P.length≤100∧∀ x∈P,Pnt x:=by
 have A:=R47.arcOk h
 obtain ⟨arc,cw,a1,a2,b1,b2,st,un⟩:=d
 have hp:=R47.Qp.mono' (R47.atQ_qp (u:=un) h.a1 h.a2) (show 8≤64 by decide)
 have hq:=R47.Qp.mono' (R47.atQ_qp (u:=un) h.b1 h.b2) (show 8≤64 by decide)
 cases arc with
 | false =>
  refine ⟨_,P55.extremes_seg rfl,extremes_seg rfl,W4p _,show 2≤100 by decide,fun x hx=>?_⟩
  have hx : x∈[v0 (R47.atQ a1 a2 un),v0 (R47.atQ b1 b2 un)]:=hx
  simp only [W1k,W5d,or_false] at hx
  rcases hx with rfl | rfl
  · exact Pnt.rat hp
  · exact Pnt.rat hq
 | true =>
  have hv : R47.atQ a1 a2 un≠R47.atQ b1 b2 un:=hv
  have hs1 : sgn 0 () (Xb2 (K:=0) () (Xa8 (K:=0) (R47.atQ b1 b2 un) (R47.atQ a1 a2 un)) (Xa8 (K:=0) (R47.atQ b1 b2 un) (R47.atQ a1 a2 un)))=1:=Xe7 (K:=0) (G:=()) trivial (Xs6 hv.symm)
  obtain ⟨s,hs⟩ : ∃ s : Rat,s=Xb2 (K:=0) () (Xa8 (K:=0) (R47.atQ b1 b2 un) (R47.atQ a1 a2 un)) (Xa8 (K:=0) (R47.atQ b1 b2 un) (R47.atQ a1 a2 un)):=⟨_,rfl⟩
  have hsq : Qs 64 s:=by rw [hs];exact A.s
  have hs1 : Xew s=1:=by rw [hs];exact hs1
  have hs0 : 0<s:=by
   rcases Xax s with ⟨e,_⟩ | ⟨_,e⟩ | ⟨_,e⟩
   · exact e
   · omega
   · omega
  have hS:=Yk4 hsq (show 0≤Xew s by omega)
  have hR : ∀ c : Cv,c.C=v0 (R47.atQ a1 a2 un)→c.A=v0 (R47.atQ b1 b2 un)→C0 54 [.d (dC c)] (R9.RtR (nr s)):=fun c h1 h2=>by
   have hd : P55.d2 (R47.atQ b1 b2 un) (R47.atQ a1 a2 un)=s:=hs.symm
   rw [←hd]
   exact P55.radius_r h1 h2 hp hq hv (by rw [hd];exact hsq.mono (by decide)) (by rw [hd];exact W2g hs0)
  by_cases hi : Xb6 0 () s
  · obtain ⟨w,hw⟩ : ∃ w : Rat,w*w=s:=hi
    obtain ⟨y,hy,hy0⟩ : ∃ y : Rat,y*y=s∧0≤Xew y:=by
     by_cases h0 : 0≤Xew w
     · exact ⟨w,hw,h0⟩
     · refine ⟨-w,by rw [←hw];grind,?_⟩
       rcases Xax w with ⟨_,e⟩ | ⟨_,e⟩ | ⟨e,_⟩
       · omega
       · omega
       · have : 0 < -w:=by grind
         rw [Xby this];decide
    have hyq : Qs 1000 y:=by
     have h1 : Sz 1000 (toL 0 (y : Tow.El 0)):=((Sz.rat 0 hsq).rootS (k:=0) (r:=1) (t:=()) (s:=(y : Tow.El 0)) trivial trivial hy).mono (by decide)
     exact h1.qs (W0e.2 rfl)
    exact Xwu (wr0 hy hyq) A hs hv.symm (Xtr (hR _ rfl rfl) hy hy0) (Xtr hS hy hy0)
  · exact Xwu (wr1 hs0 hi hsq) A hs hv.symm (Yaz (hR _ rfl rfl) hi) (Yaz hS hi)
theorem Yce {d : Dft} (h : d.ok) (hv : R47.vlD d) : C0 53 [.d (dC (R47.cvD d))] (·=.b true):=by
 have A:=R47.arcOk h
 obtain ⟨arc,cw,a1,a2,b1,b2,st,un⟩:=d
 have hp:=R47.Qp.mono' (R47.atQ_qp (u:=un) h.a1 h.a2) (show 8≤64 by decide)
 have hq:=R47.Qp.mono' (R47.atQ_qp (u:=un) h.b1 h.b2) (show 8≤64 by decide)
 have hv : R47.atQ a1 a2 un≠R47.atQ b1 b2 un:=hv
 cases arc with
 | false=>exact (P47.Valid_seg W0 rfl (gv0 hp) (gv0 hq) (by decide) (by decide)).mono fun v e=>e.trans (congrArg AV.b (Xan.2 hv))
 | true =>
  have hne : R47.atQ a1 a2 un≠Xfw (K:=0) (R47.atQ a1 a2 un) (R47.rotQ (Xa8 (K:=0) (R47.atQ b1 b2 un) (R47.atQ a1 a2 un)) (R47.uni (st % 16))):=fun e=>by
   have h0 : Xb2 (K:=0) () (Xa8 (K:=0) (R47.atQ b1 b2 un) (R47.atQ a1 a2 un)) (Xa8 (K:=0) (R47.atQ b1 b2 un) (R47.atQ a1 a2 un))=(0 : Rat):=by
    refine A.e.trans ?_
    rw [←e]
    show (_+-_)*(_+-_)+(_+-_)*(_+-_)=(0 : Rat)
    grind
   have h1:=Xe7 (K:=0) (G:=()) trivial (Xs6 hv.symm)
   rw [show sgn 0 () (Xb2 (K:=0) () (Xa8 (K:=0) (R47.atQ b1 b2 un) (R47.atQ a1 a2 un)) (Xa8 (K:=0) (R47.atQ b1 b2 un) (R47.atQ a1 a2 un)))=0 from (congrArg (sgn 0 ()) h0).trans (by decide +kernel)] at h1
   cases h1
  exact (P47.Valid_arc W0 rfl (gv0 A.hp) (gv0 A.hq) (gv0 A.hr) (Xbe A.hp.1) (Xbe A.hp.2) (by decide) (by decide) hv hne).mono fun v e=>e.trans (congrArg AV.b (Xan.2 A.e))
theorem Yi5 {n : Nat} (hn : n≤20) : ∀ {l : List Dft},(∀ d∈l,d.ok∧R47.vlD d)→∃ Fs : List (List F4),Fs.length=l.length∧(l≠[]→Fs.flatten≠[])∧(∀ f∈Fs.flatten,BdL f)∧∀ (i : Nat) c fs,(l.map R47.cvD)[i]?=some c→Fs[i]?=some fs→P55.CuF n c fs∧CuR n c fs
 | [],_=>⟨[],rfl,fun h=>absurd rfl h,fun f hf=>(by cases hf),fun i c fs h=>by simp at h⟩
 | d::l,h=>by
  obtain ⟨Fs,h1,_,h4,h3⟩:=Yi5 hn (l:=l) fun x hx=>h x (W0x _ hx)
  obtain ⟨hd,hv⟩:=h d (W0t ..)
  obtain ⟨P,p1,p2,p3,p4,p5⟩:=Yi4 hd hv
  obtain ⟨fs,q1,q0,q2⟩:=Pnt.fs hn p5
  refine ⟨fs::Fs,by simp [h1],fun _ e=>?_,fun f hf=>?_,fun i c gs g1 g2=>?_⟩
  · have : (fs::Fs).flatten.length=0:=by rw [e];rfl
    rw [List.flatten_cons,W0d] at this
    omega
  · rw [List.flatten_cons] at hf
    exact (W2x.1 hf).elim (q0 f) (h4 f)
  · cases i with
    | zero =>
     simp only [W3k,List.getElem?_cons_zero,Option.some.injEq] at g1 g2
     subst g1;subst g2
     exact ⟨⟨P,p1,q1.symm,p4,fun i p f a b=>(q2 i p f a b).1⟩,⟨P,p2,q1.symm,p4,fun i p f a b=>(q2 i p f a b).2⟩⟩
    | succ i =>
     simp only [W3k,List.getElem?_cons_succ] at g1 g2
     exact h3 i c gs g1 g2
theorem Yhv {l : List F4} (h : l≠[]) (hb : ∀ f∈l,BdL f) : ∃ o,lst l=f40 o∧BdL o:=by
 have key : ∀ (l : List F4) (o : Option F4),l.foldl P55.O4.nx (ofO o)=ofO (l.foldl (fun o f=>some (nxF o f)) o):=fun l=>by
  induction l with
  | nil=>exact fun o=>rfl
  | cons f l ih=>exact fun o=>by rw [W6l,W6l,Xix];exact ih (some _)
 have some' : ∀ (l : List F4) (o : F4),BdL o→(∀ f∈l,BdL f)→∃ g,l.foldl (fun o f=>some (nxF o f)) (some o)=some g∧BdL g:=fun l=>by
  induction l with
  | nil=>exact fun o ho _=>⟨o,rfl,ho⟩
  | cons f l ih=>exact fun o ho hl=>ih _ (BdL.nx (o:=some o) (fun g e=>by injection e with e;exact e ▸ ho) (hl f (W0t ..))) fun x hx=>hl x (W0x _ hx)
 cases l with
 | nil=>exact absurd rfl h
 | cons f l =>
  obtain ⟨g,hg,hz⟩:=some' l (nxF none f) (hb f (W0t ..)) fun x hx=>hb x (W0x _ hx)
  refine ⟨g,(key (f::l) none).trans ?_,hz⟩
  rw [W6l,hg];rfl
theorem Xtx {l : List Cv} {d : Int} (h : ¬ (0≤d∧d≤20∧0<l.length)) : C0 20 [.d (Xes l),.d (.int .i64 d)] (·=.b false):=by
 refine En Tryz.func20 fun _ _ _=>?_
 refine By rfl (fun h1=>?_) fun h1=>?_
 · refine By rfl (fun h2=>?_) fun h2=>?_
   · refine No rfl (by rw [lC];omega) ?_
     exact R0
   · exact R0
 · exact R0
theorem Xnn {l : List Cv} {d : Int} (h : ¬ (0≤d∧d≤20∧0<l.length)) : C0 7 [.d (Xes l),.d (.int .i64 d)] (·=.tup (.pr (.d zBD) (.d (.int .i64 1)))):=by
 refine En Tryz.func7 fun _ _ _=>?_
 refine Ce rfl (Xtx h) ?_
 refine Yes rfl nofun ?_
 exact RTt rfl (.cons Xyy Xa3)
theorem Yey {l : List Dft} {d : Nat} (hd : d≤20) (h0 : 0<l.length) (hl : l.length≤1000) (h : ∀ d∈l,d.ok∧R47.vlD d) : ∃ o : F4,BdL o∧C0 7 [.d (Xes (l.map R47.cvD)),.d (.int .i64 d)] (·=.tup (.pr (.d (Xmv o d)) (.d (.int .i64 0))))∧C0 8 [.d (Xes (l.map R47.cvD)),.d (.int .i64 d)] (·=.tup (.pr (.d (Xmv o d)) (.d (.int .i64 0)))):=by
 obtain ⟨Fs,f1,f2,fb,f3⟩:=Yi5 hd h
 obtain ⟨o,ho,hz⟩:=Yhv (f2 (fun e=>by rw [e] at h0;cases h0)) fb
 have hm : (l.map R47.cvD).length=l.length:=W0i ..
 have hv1 : ∀ c∈l.map R47.cvD,C0 53 [.d (dC c)] (·=.b true):=fun c hc=>by
  obtain ⟨x,hx,rfl⟩:=W3r.1 hc
  exact Yce (h x hx).1 (h x hx).2
 have hv2 : ∀ c∈l.map R47.cvD,C0 45 [.d (dC c)] (·=.b true):=fun c hc=>by
  obtain ⟨x,hx,rfl⟩:=W3r.1 hc
  exact (R47.Valid_D (h x hx).1).mono fun v e=>e.trans (congrArg AV.b (Xan.2 (h x hx).2))
 refine ⟨o,hz,?_,Bounds_ok hd (by omega) (by omega) hv2 (by omega) (fun i c fs h1 h2=>(f3 i c fs h1 h2).2) ho⟩
 rw [Yev]
 exact P55.Bounds_ok hd (by omega) (by omega) hv1 (by omega) (fun i c fs h1 h2=>(f3 i c fs h1 h2).1) ho
theorem Yfd {x y : Rat} (hx : Qs 400000 x) : C0 34 [.d (dq x),.d (dq y)] (·=.b (dc (x=y))):=by
 have h1:=hx.n.len (by decide)
 have h2:=hx.d.len (by decide)
 refine En Tryz.func34 fun _ _ _=>?_
 refine Ce rfl (R2.SameInt_ok (z:=x.num) (w:=y.num) (by omega)) ?_
 refine By rfl (fun h=>?_) fun h=>?_
 · refine Ce rfl (R2.SameInt_ok (z:=(x.den : Int)) (w:=(y.den : Int)) (by omega)) ?_
   exact R1 rfl (.bp (Xan.trans ⟨fun h3=>Rat.ext h (by omega),fun e=>by rw [e]⟩))
 · exact R1 rfl (.bp ⟨nofun,fun e=>absurd (by rw [e]) h⟩)
theorem Xq9 {x : Rat} (hx : Qs 400000 x) : C0 34 [.d (dq x),.d (dq x)] (·=.b true):=(Yfd hx).mono fun v e=>e.trans (congrArg AV.b (Xan.2 rfl))
theorem Xw0 {o : F4} {d : Nat} (ho : BdL o) (hd : d≤20) : C0 9 [.d (Xmv o d),.d (Xmv o d)] (·=.b true):=by
 refine En Tryz.func9 fun _ _ _=>?_
 refine Ce rfl (Xq9 (Xgr ho.1 hd)) ?_
 refine Yes rfl rfl ?_
 refine Ce rfl (Xq9 (Xgr ho.2.1 hd)) ?_
 refine Yes rfl rfl ?_
 refine Ce rfl (Xq9 (Xgr ho.2.2.1 hd).neg) ?_
 refine Yes rfl rfl ?_
 refine Ce rfl (Xq9 (Xgr ho.2.2.2 hd).neg) ?_
 exact R0
theorem Yeu : C0 10 [.d zBD] (·=.d zBD):=by
 refine En Tryz.func10 fun _ _ _=>?_
 exact R0
theorem Yb6 : C0 11 [.d zBD] (·=.b true):=by
 refine En Tryz.func11 fun _ _ _=>?_
 refine Ar 0 rfl ?_ (wr rfl (by simp only [inK];decide))
 refine Ar 0 rfl ?_ (wr rfl (by simp only [inK];decide))
 refine Ar 0 rfl ?_ (wr rfl (by simp only [inK];decide))
 exact Rt rfl (.one (.rf rfl) rfl rfl) (by exact congrArg AV.b (Xan.2 rfl))
theorem DrawingBounds_ok {l : List Dft} {d : Int} (hl : l.length<9223372036854775808) (hd : ∀ x∈l,x.ok) : C0 3 [.d (Yel l),.d (.int .i64 d)] (·=.b true):=by
 refine En Tryz.func3 fun _ _ _=>?_
 refine Ca rfl (R47.Curves_ok (n:=4) hl (by decide) hd) fun v hv=>?_
 rcases hv with ⟨rfl,_⟩ | ⟨rfl,h4,hv⟩
 · refine Ce rfl P55.aw55_ok ?_
   refine No rfl (fun h=>h rfl) ?_
   refine Yes rfl nofun ?_
   refine Ce rfl P55.aw55_ok ?_
   exact R0
 refine Ce rfl P55.aw55_ok ?_
 refine No rfl (fun h=>h rfl) ?_
 refine No rfl (fun h=>h rfl) ?_
 by_cases hb : 0≤d∧d≤20∧0<(l.map R47.cvD).length
 · obtain ⟨hb1,hb2,hb3⟩:=hb
   obtain ⟨n,rfl⟩:=Int.eq_ofNat_of_zero_le hb1
   obtain ⟨o,ho,c1,c2⟩:=Yey (l:=l) (d:=n) (by omega) (by simpa using hb3) (by omega) fun x hx=>⟨hd x hx,hv x hx⟩
   have c3 : C0 10 [.d (Xmv o n)] (·=.d (Xmv o n)):=P55.box55_ok
   refine Ce rfl c1 ?_
   refine Ce rfl c2 ?_
   refine Dw rfl ?_
   refine Yes rfl (by decide) ?_
   refine Yes rfl (by decide) ?_
   refine Ce rfl c3 ?_
   refine Ce rfl (Xw0 ho (by omega)) ?_
   refine Yes rfl rfl ?_
   exact R0
 · refine Ce rfl (Xnn hb) ?_
   refine Ce rfl (Xsd hb) ?_
   refine Dw rfl ?_
   refine Yes rfl (by decide) ?_
   refine No rfl (by decide) ?_
   refine Yes rfl (by decide) ?_
   refine Ce rfl Yeu ?_
   refine Ce rfl Yb6 ?_
   exact R0
end
end Go.Proofs.YtpgcfjpkilabfaaGreatDoor.R55
namespace Go.Vm
open Go Go.ChangeShapes Go.WideShapes Go.ChangeAt Go.RowKit
theorem Xlo {P : Program} {t e : TypeId} {r : D→Prop} (ht : P.underlying t=some (.array 2 e)) (he : Reads P e r) (h1 : P.cellsOf e=1) (h3 : P.cellsOf t=2) : Reads P t fun d=>∃ a b,d=.st (.pr a b)∧r a∧r b:=by
 intro w H enc spare held fuel cs x h
 obtain ⟨xs,m,_,_,hl,hxl,hx⟩:=DataW.trod_array ht h
 rw [h3] at hl
 match cs,hl with
 | [u,v],_ =>
  have g0:=hx 0 (by decide)
  have g1:=hx 1 (by decide)
  rw [h1,W0b (by omega)] at g0 g1
  obtain ⟨a,a1,a2⟩:=he w g0
  obtain ⟨b,b1,b2⟩:=he w g1
  exact ⟨_,⟨a,b,rfl,a1,b1⟩,[u],[v],rfl,a2,b2⟩
end Go.Vm
namespace Go.Proofs.YtpgcfjpkilabfaaGreatDoor
open Go Go.Vm Go.Num
theorem Xpr : Reads Tryz.prog 57 fun d=>∃ a b : Int,d=dP8 a b∧I8 a∧I8 b :=
 (Xlo Tryz.underlying57 (Xx5 Tryz.underlying56) (by kernel_rfl) (by kernel_rfl)).mono fun d ⟨a,b,e,⟨x,ex,hx⟩,⟨y,ey,hy⟩⟩=>⟨x,y,by rw [e,ex,ey],hx,hy⟩
theorem Xni : Reads Tryz.prog 59 fun d=>∃ x : Dft,d=dDf x∧x.ok :=
 (Xcp Tryz.underlying59 (.cons (n:=1) rfl (Xf3 Tryz.underlying4) (by kernel_rfl) (.cons (n:=1) rfl (Xf3 Tryz.underlying4) (by kernel_rfl) (.cons (n:=2) rfl Xpr (by kernel_rfl) (.cons (n:=2) rfl Xpr (by kernel_rfl) (.cons (n:=1) rfl (Xpq Tryz.underlying5) (by kernel_rfl) (.one rfl (Xpq Tryz.underlying5))))))) (fun f hf=>by cases hf;kernel_rfl)).mono fun d hd=>by
  obtain ⟨_,rfl,_,_,rfl,⟨a,rfl⟩,_,_,rfl,⟨b,rfl⟩,_,_,rfl,⟨c,e,rfl,h1,h2⟩,_,_,rfl,⟨f,g,rfl,h3,h4⟩,_,_,rfl,⟨m,rfl,h5⟩,⟨n,rfl,h6⟩⟩:=hd
  exact ⟨⟨a,b,c,e,f,g,m,n⟩,rfl,h1,h2,h3,h4,h5,h6⟩
theorem Xlq : Reads Tryz.prog 22 fun d=>∃ l : List Dft,d=Yel l∧l.length<9223372036854775808∧∀ x∈l,x.ok :=
 (Xhm Tryz.underlying22 Xni (sz:=8) (by kernel_rfl) (by decide)).mono fun d ⟨l,e,hl,h⟩=>by
  obtain ⟨m,hm⟩:=Ym7 (f:=fun n : { x : Dft // x.ok }=>dDf n.1) fun y hy=>let ⟨n,e,hn⟩:=h y hy;⟨⟨n,hn⟩,e⟩
  refine ⟨m.map (·.1),by rw [e,hm];show _=D.sl 8 ((m.map (·.1)).map dDf);rw [List.map_map];rfl,by rw [hm] at hl;simpa using hl,fun x hx=>?_⟩
  obtain ⟨y,_,rfl⟩:=W3r.1 hx
  exact y.2
theorem Xr7 : Arg Tryz.prog 22 fun d=>∃ l : List Dft,d=Yel l∧l.length<9223372036854775808∧∀ x∈l,x.ok:=Xws Tryz.underlying22 Xlq fun x ⟨_,e,_⟩=>by rw [e];rfl
end Go.Proofs.YtpgcfjpkilabfaaGreatDoor

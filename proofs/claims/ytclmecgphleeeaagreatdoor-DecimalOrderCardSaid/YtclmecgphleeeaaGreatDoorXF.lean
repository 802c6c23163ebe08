/- part 6 -/
import Derived.Test.YtclmecgphleeeaaGreatDoorXE
set_option linter.unusedVariables false
set_option linter.unusedSimpArgs false
set_option maxRecDepth 10000
namespace Go.Tow
open Go Go.Num Go.Proofs.YtclmecgphleeeaaGreatDoor
section
variable {K : Nat} {G : Tw K} {S : List (El K)} {ρ ρ' : Nat→El K} {m : Nat}
theorem TOk.un (hG : red K G) {T T' : Tw m} (h : TOk G S m T ρ) (h' : TOk G S m T' ρ') (e : ∀ i,i<m→ρ i=ρ' i) : T=T':=by
 refine Xmg (W3w fun i=>?_)
 by_cases hi : i<m
 · obtain ⟨x,x1,_,x3⟩:=Tw.at (t:=T) hi
   obtain ⟨y,y1,_,y3⟩:=Tw.at (t:=T') hi
   have hle:=W2c hi
   obtain ⟨b,hb⟩:=Lf.ex hle x
   obtain ⟨c,hc⟩:=Lf.ex hle y
   have e1 : ev G ρ m b=ev G ρ m c:=by
    rw [hb.ev hle,hc.ev hle,←(x3 h.h).1,e i hi,(y3 h'.h).1]
    exact (Xbc fun j hj=>e j (by omega)).symm
   have e2:=Xc6 (Xag hG) h.h h.r e1
   subst e2
   have e3 : toL i x=toL i y:=by
    have hb : toL m b=toL i x++List.replicate (2 ^ m - 2 ^ i) 0:=hb
    have hc : toL m b=toL i y++List.replicate (2 ^ m - 2 ^ i) 0:=hc
    exact List.append_cancel_right (hb.symm.trans hc)
   rw [x1,y1,e3]
 · rw [W1x (by rw [Xaa];omega),W1x (by rw [Xaa];omega)]
def vls (ρ : Nat→El K) (m : Nat) : List (El K):=(List.range m).map ρ
theorem Xn4 : vls ρ (m+1)=vls ρ m++[ρ m]:=by unfold vls;rw [W6u,W2z];rfl
theorem Xko (h : ∀ i,i<m→ρ i=ρ' i) : vls ρ m=vls ρ' m:=List.map_congr_left fun i hi=>h i (List.mem_range.1 hi)
theorem Xys {n : Nat} (h : vls ρ m=vls ρ' n) : m=n∧∀ i,i<m→ρ i=ρ' i:=by
 have hl:=congrArg List.length h
 unfold vls at hl h
 rw [W0n,W0n,List.length_range,List.length_range] at hl
 subst hl
 exact ⟨rfl,fun i hi=>W5v.1 h i (List.mem_range.2 hi)⟩
def Yjx (G : Tw K) (V : List (El K)) (u : El K) : Prop:=∃ (m : Nat) (ρ : Nat→El K),vls ρ m=V∧∃ e : El m,ev G ρ m e=u
theorem Yih {u : El K} : Yjx G (vls ρ m) u↔∃ e : El m,ev G ρ m e=u:=by
 refine ⟨fun ⟨n,σ,h,e,he⟩=>?_,fun ⟨e,he⟩=>⟨m,ρ,rfl,e,he⟩⟩
 obtain ⟨rfl,h'⟩:=Xys h
 exact ⟨e,by rw [←he];exact (Xbc h').symm⟩
open Classical in
noncomputable def stV (G : Tw K) (V : List (El K)) (u : El K) : List (El K):=if Yjx G V u then V else V++[u]
end
end Go.Tow
namespace Go.Proofs.YtclmecgphleeeaaGreatDoor.R9
open Go Go.Vm Go.Num Go.Tow Go.Proofs.YtclmecgphleeeaaGreatDoor
section
variable {K : Nat} {G : Tw K} {S : List (Tow.El K)} {k l : Nat} {t : Tw k} {u : Tw l} {ρ ρu : Nat→Tow.El K}
def ExF (G : Tw K) (S : List (Tow.El K)) (l k : Nat) (t : Tw k) (ρ ρu : Nat→Tow.El K) (x : Nat × (Σ m,Tw m) × List (List Rat)) : Prop:=ExI G S l k t ρ ρu x∧∃ ρ',TOk G S x.2.1.1 x.2.1.2 ρ'∧vls ρ' x.2.1.1=(vls ρu x.1).foldl (stV G) (vls ρ k)
theorem ExF.start (ht : TOk G S k t ρ) : ExF G S l k t ρ ρu (0,⟨k,t⟩,[]):=⟨⟨W1d _,rfl,ρ,ht,Beg.rf,fun _ _=>rfl,fun i hi=>absurd hi (W5h _),fun _=>rfl⟩,ρ,ht,rfl⟩
theorem Xlg {i : Nat} : (vls ρu (i+1)).foldl (stV G) (vls ρ k)=stV G ((vls ρu i).foldl (stV G) (vls ρ k)) (ρu i):=by rw [Xn4,List.foldl_append];rfl
theorem ExF.step (W : Wy G S wR) (hu : TOk G S l u ρu) {i m : Nat} {T : Tw m} {rs : List (List Rat)} (h : ExF G S l k t ρ ρu (i,⟨m,T⟩,rs)) (hil : i<l) :
 ∃ (x : Tow.El i) (σ : Nat→Tow.El m),(toT l u)[i]?=some (toL i x)∧Sz wR (toL i x)∧Rts m (zM wR 3) i rs σ∧red m T∧Sz wE (toL m (ev T σ i x))∧0≤sgn m T (ev T σ i x) ∧
  (∀ y,mul m T y y=ev T σ i x→0≤sgn m T y→ExF G S l k t ρ ρu (i+1,⟨m,T⟩,rs++[toL m y])) ∧
  (¬ Xej m T (ev T σ i x)→ExF G S l k t ρ ρu (i+1,⟨m+1,tsn T (ev T σ i x)⟩,rs++[toL (m+1) (Xcg (m+1) m)])):=by
 have hG:=W.g
 have hGr:=Xag hG
 obtain ⟨hI,ρv,hV,hv⟩:=h
 have hI':=hI
 obtain ⟨hi,hrl,ρ',hT,hB,ha,hrt,hc⟩:=hI
 simp only at hi hrl hT hB ha hrt hc hV hv
 have hag:=hT.h.uniq hG hV.h
 have hvl : vls ρ' m=(vls ρu i).foldl (stV G) (vls ρ k):=by rw [←hv];exact Xko hag
 obtain ⟨x,σ,x1,x2,s1,s2,hev,x4,hsz⟩:=ExI.rad W hu hil hT hrt
 have hsg : 0≤sgn m T (ev T σ i x):=by
  have:=Xcr hGr hT.h (a:=ev T σ i x)
  rw [hev,(Xat hGr).sm,x4] at this
  omega
 refine ⟨x,σ,x1,x2,s1,hT.r,hsz,hsg,fun y h1 h2=>⟨hI'.sq W hu hil hT hB ha hrt hc s2 hev x4 h1 h2,ρ',hT,?_⟩,fun h2=>⟨hI'.new W hu hil hT hB ha hrt hev x4 h2,_,hT.snoc hGr h2 (hu.s i hil) (a:=ev T σ i x) hev.symm x4,?_⟩⟩
 · have hy : ev G ρ' m y=ρu i:=Xob hG (by rw [←Xbd hT.h,h1,hev]) (by rw [Xcr hGr hT.h];exact h2) (by rw [x4];decide)
   show vls ρ' m=(vls ρu (i+1)).foldl (stV G) (vls ρ k)
   rw [Xlg,←hvl,stV,if_pos (Yih.2 ⟨y,hy⟩)]
 · show vls (fun j=>if j=m then ρu i else ρ' j) (m+1)=(vls ρu (i+1)).foldl (stV G) (vls ρ k)
   have hn : ¬ Yjx G (vls ρ' m) (ρu i):=fun e=>by
    obtain ⟨b,hb⟩:=Yih.1 e
    exact h2 ⟨b,Xc6 hGr hT.h hT.r (by rw [Xbd hT.h,hb,hev])⟩
   rw [Xlg,←hvl,stV,if_neg hn,Xn4,if_pos rfl]
   congr 1
   exact Xko fun j hj=>if_neg (by omega)
theorem ExF.ex (W : Wy G S wR) (ht : TOk G S k t ρ) (hu : TOk G S l u ρu) : ∀ i,i≤l→∃ m T rs,ExF G S l k t ρ ρu (i,⟨m,T⟩,rs)
 | 0,_=>⟨k,t,[],ExF.start ht⟩
 | i+1,hi=>by
  obtain ⟨m,T,rs,h⟩:=ExF.ex W ht hu i (by omega)
  obtain ⟨x,σ,_,_,_,hr,_,h0,h1,h2⟩:=h.step W hu (by omega)
  by_cases hs : Xej m T (ev T σ i x)
  · obtain ⟨y,hy⟩:=hs
    by_cases hy0 : 0≤sgn m T y
    · exact ⟨m,T,_,h1 y hy hy0⟩
    · have L:=Xa3 m T
      exact ⟨m,T,_,h1 (Tow.neg m y) (by rw [L.mn,L.nm,L.nn,hy]) (by rw [(Xat (Xag hr)).sn];omega)⟩
  · exact ⟨_,_,_,h2 hs⟩
theorem Xlk (W : Wy G S wR) (ht : TOk G S k t ρ) (hu : TOk G S l u ρu) : C0 173 [.d (dt t),.d (dt u)] (fun v=>∃ m T rs,v=.tup (.pr (.d (dt T)) (.pr (.d (dts rs)) (.d (.int .i64 0))))∧ExF G S l k t ρ ρu (l,⟨m,T⟩,rs)):=by
 have hl3 : l≤3:=W.le hu
 refine En Tryz.func173 fun _ _ _=>?_
 refine Nl 7 7 1 rfl ?_
 refine Lo (fun (x : Nat × (Σ m,Tw m) × List (List Rat))=>[(0,.d (dt x.2.1.2)),(1,.d (dt u)),(7,.gr 7 1 (x.2.2.map dqs)),(8,.d (.int .i64 x.1))]) (fun x=>[(7,.tok (x.2.2.map dqs).length 1)])
  (ExF G S l k t ρ ρu) (fun x=>l - x.1) (0,⟨k,t⟩,[]) [] rfl (ExF.start ht) (fun (i,⟨m,T⟩,rs) hF=>?_)
 have hF':=hF
 obtain ⟨⟨hi,hrl,ρ',hT,_⟩,_⟩:=hF
 simp only at hi hrl hT
 have hm3 : m≤3:=W.le hT
 have hz:=W.t hT
 refine By rfl (fun h=>?_) fun h=>?_ <;> simp only [lt',Xaa] at h
 · have hil : i<l:=by omega
   obtain ⟨x,σ,x1,x2,s1,_,hsz,h0,k1,k2⟩:=hF'.step W hu hil
   obtain ⟨q1,q2,q3,q4⟩:=exB hm3
   have hE:=Yan hm3 (show i≤2 by omega)
   have hR:=Xrc
   have hE':=Yd6
   have hlen : (rs.map dqs).length≤3:=by rw [W0n];omega
   refine Ix i rfl (mp x1) ?_
   refine Ce rfl (Xgj (k:=m) (T:=T) hz (by omega) s1 x2 (by omega) (by omega)) ?_
   refine Ca rfl (R8.Adjoin_ok (k:=m) (t:=T) hz hsz hT.r (by omega) q1 q2 q3 q4) fun v hv=>?_
   rcases hv with ⟨h1,rfl⟩ | ⟨y,h1,h2,rfl⟩ | ⟨h1,h2,h3,rfl⟩
   · omega
   · refine No rfl (by simp) ?_
     refine ApG ((rs++[toL m y]).map dqs) rfl (by simp) (by simp at hlen ⊢;omega) ?_
     refine Ar (i+1 : Nat) rfl ?_
     exact Bk (i+1,⟨m,T⟩,rs++[toL m y]) [(38,7)] rfl (k1 y h1 h2) (by show l - (i+1)<l - i;omega)
   · refine No rfl (by simp) ?_
     refine ApG ((rs++[toL (m+1) (Xcg (m+1) m)]).map dqs) rfl (by simp) (by simp at hlen ⊢;omega) ?_
     refine Ar (i+1 : Nat) rfl ?_
     exact Bk (i+1,⟨m+1,tsn T (ev T σ i x)⟩,rs++[toL (m+1) (Xcg (m+1) m)]) [(38,7)] rfl (k2 h2) (by show l - (i+1)<l - i;omega)
 · obtain rfl : i=l:=by omega
   exact Rt rfl (.tup (.cons (.rf rfl) (.cons (.gr rfl) Xdo))) ⟨m,T,rs,rfl,hF'⟩
theorem Yga (W : Wy G S wR) {m p : Nat} {T : Tw m} {ρm : Nat→Tow.El K} (hT : TOk G S m T ρm) (hu : TOk G S l u ρu) (hin : ∀ j,j<l→∃ e : Tow.El m,ev G ρm m e=ρu j) {a : Tow.El l} (ha : Sz p (toL l a)) : ∃ b : Tow.El m,ev G ρm m b=ev G ρu l a∧Sz (jW p) (toL m b):=by
 obtain ⟨σ,hσ⟩:=Go.Tow.choose (P:=(·<l)) hin
 have hl3:=W.le hu
 exact ⟨ev T σ l a,Xlm hT.h hσ,(Xll (W.t hT) (fun i h=>(Ye0 W hT hu i h (fun j hj=>hin j (by omega)) (σ i) (hσ i h)).mono (Xvx (by omega))) ha).mono (Xw7 (W.le hT) hl3)⟩
end
section
variable {K : Nat} {G : Tw K} {S : List (Tow.El K)} {r p : Nat} {x y : Nm} {vx vy : Tow.El K}
open Classical in
noncomputable def jV (G : Tw K) (x y : Nm) (ρx ρy : Nat→Tow.El K) : List (Tow.El K):=if x.k<y.k∧Beg x.k x.t y.k y.t then vls ρy y.k else if Beg y.k y.t x.k x.t then vls ρx x.k else (vls ρy y.k).foldl (stV G) (vls ρx x.k)
def CmF (G : Tw K) (S : List (Tow.El K)) (x y : Nm) (ρx ρy : Nat→Tow.El K) (m : Nat) (T : Tw m) : Prop:=CmP G S x y m T∧∃ ρ,TOk G S m T ρ∧vls ρ m=jV G x y ρx ρy
theorem CmF.un (hG : red K G) {ρx ρy : Nat→Tow.El K} {m n : Nat} {T : Tw m} {U : Tw n} (h : CmF G S x y ρx ρy m T) (h' : CmF G S x y ρx ρy n U) : ∃ e : m=n,e ▸ T=U:=by
 obtain ⟨_,ρ,h1,h2⟩:=h
 obtain ⟨_,σ,k1,k2⟩:=h'
 obtain ⟨rfl,h3⟩:=Xys (h2.trans k2.symm)
 exact ⟨rfl,h1.un hG k1 h3⟩
theorem CmF.ex (W : Wy G S wR) {ρx ρy : Nat→Tow.El K} (hx : TOk G S x.k x.t ρx) (hy : TOk G S y.k y.t ρy) : ∃ m T,CmF G S x y ρx ρy m T:=by
 have hG:=W.g
 by_cases h1 : x.k<y.k∧Beg x.k x.t y.k y.t
 · exact ⟨y.k,y.t,.mk hG hx hy hy (Xhx hG h1.2 hx hy) rts,ρy,hy,by rw [jV,if_pos h1]⟩
 by_cases h2 : Beg y.k y.t x.k x.t
 · exact ⟨x.k,x.t,.mk hG hx hy hx rts (Xhx hG h2 hy hx),ρx,hx,by rw [jV,if_neg h1,if_pos h2]⟩
 obtain ⟨m,T,rs,h⟩:=ExF.ex W hx hy y.k (W0a _)
 obtain ⟨⟨_,_,ρ',hT,hB,ha,hrt,hc⟩,ρv,hV,hv⟩:=h
 exact ⟨m,T,.ext hG hx hy hT hB hrt,ρv,hV,by rw [jV,if_neg h1,if_neg h2];exact hv⟩
theorem Xyj (W : Wy G S wR) (hx : NOk G S r p x vx) (hy : NOk G S r p y vy) (hp : p≤4000000000) {ρx ρy : Nat→Tow.El K} (hx1 : TOk G S x.k x.t ρx) (hy1 : TOk G S y.k y.t ρy) : C0 118 [.d (dNs [x,y])] fun v=>∃ m T a b,v=.tup (.pr (.d (dNs [⟨m,T,a⟩,⟨m,T,b⟩])) (.d (.int .i64 0)))∧JnR G S p vx vy m T a b∧CmF G S x y ρx ρy m T:=by
 have hG:=W.g
 have hR:=Xrc
 have hJ : jW p=8*p+73803682:=rfl
 have hx3:=W.le hx1
 have hy3:=W.le hy1
 have hxr:=W.t hx1
 have hyr:=W.t hy1
 refine En Tryz.func118 fun _ _ _=>?_
 refine Nd 4 1 rfl ?_
 refine Lo (fun (s : Nat × (Σ m,Tw m))=>[(0,.d (dNs [x,y])),(4,.d (dt s.2.2)),(5,.d (.int .i64 s.1))]) (fun _=>[]) (fun s=>(s.1=0∧s.2=⟨0,()⟩)∨(s.1=1∧s.2=⟨x.k,x.t⟩)∨(s.1=2∧CmF G S x y ρx ρy s.2.1 s.2.2)) (fun s=>2 - s.1) (0,⟨0,()⟩) [] rfl (.inl ⟨rfl,rfl⟩) (fun (i,⟨m,T⟩) hI=>?_)
 simp only at hI
 rcases hI with ⟨rfl,e⟩ | ⟨rfl,e⟩ | ⟨rfl,hP⟩
 · cases e
   refine Yes rfl (show (0 : Int)<2 by decide) ?_
   refine Ix 0 rfl (u:=dN x) rfl ?_
   refine By rfl (fun h=>?_) fun h=>?_
   · refine Ix 0 rfl (u:=dN x) rfl ?_
     refine Ce rfl (Xaq (U:=[]) (q:=1) (TS.pt hxr) (fun i r h=>by simp at h) (by omega) (by rw [Xaa];omega)) ?_
     refine Yes rfl (by simp) ?_
     refine Ix 0 rfl (u:=dN x) rfl ?_
     refine Ar (0+1 : Nat) rfl ?_
     exact Bk (1,⟨x.k,x.t⟩) [] rfl (.inr (.inl ⟨rfl,rfl⟩)) (show 1<2 by decide)
   · have h : ¬ (((toT x.k x.t).map dqs).length : Int) > 0:=h
     have hk0 : x.k=0:=by rw [lt',Xaa] at h;omega
     refine Ix 0 rfl (u:=dN x) rfl ?_
     have e0 : toT x.k x.t=[]:=W2q.1 (by rw [Xaa,hk0])
     refine Ce rfl (Xaq (T:=[]) (U:=toT x.k x.t) (p:=1) (q:=wR) (fun i r h=>by simp at h) (TS.pt hxr) (by omega) (by decide)) ?_
     refine No rfl (by rw [e0];simp) ?_
     refine Ar (0+1 : Nat) rfl ?_
     have e1 : (dt (k:=0) ())=dt x.t:=by show dts []=dts (toT x.k x.t);rw [e0]
     rw [e1]
     exact Bk (1,⟨x.k,x.t⟩) [] rfl (.inr (.inl ⟨rfl,rfl⟩)) (show 1<2 by decide)
 · cases e
   have last : ¬ (x.k<y.k∧Beg x.k x.t y.k y.t)→Beg y.k y.t x.k x.t→CmF G S x y ρx ρy x.k x.t:=fun h1 h2=>⟨.mk hG hx1 hy1 hx1 rts (Xhx hG h2 hy1 hx1),ρx,hx1,by rw [jV,if_neg h1,if_pos h2]⟩
   have ext : ¬ (x.k<y.k∧Beg x.k x.t y.k y.t)→¬ Beg y.k y.t x.k x.t→∀ {m : Nat} {T : Tw m} {rs : List (List Rat)},ExF G S y.k x.k x.t ρx ρy (y.k,⟨m,T⟩,rs)→CmF G S x y ρx ρy m T:=fun h1 h2 m T rs h=>by
    obtain ⟨⟨_,_,ρ',hT,hB,ha,hrt,hc⟩,ρv,hV,hv⟩:=h
    exact ⟨.ext hG hx1 hy1 hT hB hrt,ρv,hV,by rw [jV,if_neg h1,if_neg h2];exact hv⟩
   refine Yes rfl (show (1 : Int)<2 by decide) ?_
   refine Ix 1 rfl (u:=dN y) rfl ?_
   refine By rfl (fun h=>?_) fun h=>?_ <;> simp only [lt',Xaa] at h
   · refine Ix 1 rfl (u:=dN y) rfl ?_
     refine Ce rfl (Xaq (T:=toT y.k y.t) (U:=toT x.k x.t) (TS.pt hyr) (TS.pt hxr) (by omega) (by rw [Xaa];omega)) ?_
     refine By rfl (fun h1=>?_) fun h1=>?_
     · have hb : x.k<y.k∧Beg x.k x.t y.k y.t:=⟨by omega,h1⟩
       refine Ix 1 rfl (u:=dN y) rfl ?_
       refine Ar (1+1 : Nat) rfl ?_
       exact Bk (2,⟨y.k,y.t⟩) [] rfl (.inr (.inr ⟨rfl,.mk hG hx1 hy1 hy1 (Xhx hG hb.2 hx1 hy1) rts,ρy,hy1,by rw [jV,if_pos hb]⟩)) (show 0<1 by decide)
     · have n1 : ¬ (x.k<y.k∧Beg x.k x.t y.k y.t):=fun e=>h1 e.2
       refine Ix 1 rfl (u:=dN y) rfl ?_
       refine Ce rfl (Xaq (T:=toT x.k x.t) (U:=toT y.k y.t) (TS.pt hxr) (TS.pt hyr) (by omega) (by rw [Xaa];omega)) ?_
       refine By rfl (fun h2=>?_) fun h2=>?_
       · refine Ix 1 rfl (u:=dN y) rfl ?_
         refine Ca rfl (Xlk W hx1 hy1) fun v hv=>?_
         obtain ⟨m,T,rs,rfl,g⟩:=hv
         refine No rfl (by simp) ?_
         refine Ar (1+1 : Nat) rfl ?_
         exact Bk (2,⟨m,T⟩) [] rfl (.inr (.inr ⟨rfl,ext n1 h2 g⟩)) (show 0<1 by decide)
       · refine Ar (1+1 : Nat) rfl ?_
         exact Bk (2,⟨x.k,x.t⟩) [] rfl (.inr (.inr ⟨rfl,last n1 (by simp only [Xb9,Xaw,W3x] at h2;exact h2)⟩)) (show 0<1 by decide)
   · have n1 : ¬ (x.k<y.k∧Beg x.k x.t y.k y.t):=fun e=>by omega
     refine Ix 1 rfl (u:=dN y) rfl ?_
     refine Ce rfl (Xaq (T:=toT x.k x.t) (U:=toT y.k y.t) (TS.pt hxr) (TS.pt hyr) (by omega) (by rw [Xaa];omega)) ?_
     refine By rfl (fun h2=>?_) fun h2=>?_
     · refine Ix 1 rfl (u:=dN y) rfl ?_
       refine Ca rfl (Xlk W hx1 hy1) fun v hv=>?_
       obtain ⟨m,T,rs,rfl,g⟩:=hv
       refine No rfl (by simp) ?_
       refine Ar (1+1 : Nat) rfl ?_
       exact Bk (2,⟨m,T⟩) [] rfl (.inr (.inr ⟨rfl,ext n1 h2 g⟩)) (show 0<1 by decide)
     · refine Ar (1+1 : Nat) rfl ?_
       exact Bk (2,⟨x.k,x.t⟩) [] rfl (.inr (.inr ⟨rfl,last n1 (by simp only [Xb9,Xaw,W3x] at h2;exact h2)⟩)) (show 0<1 by decide)
 · have hP':=hP
   obtain ⟨⟨ρ,hT,hcon⟩,_⟩:=hP
   have hTr:=W.t hT
   have hm3:=W.le hT
   refine No rfl (show ¬ (2 : Int)<2 by decide) ?_
   refine Nl 9 9 2 rfl ?_
   refine Lo (fun (s : Nat × List (Tow.El m))=>[(0,.d (dNs [x,y])),(4,.d (dt T)),(9,.gr 9 2 (s.2.map fun a=>dN ⟨m,T,a⟩)),(10,.d (.int .i64 s.1))]) (fun s=>[(9,.tok (s.2.map fun a=>dN ⟨m,T,a⟩).length 2)])
    (JnI G p m ρ vx vy) (fun s=>2 - s.1) (0,[]) [] rfl ⟨W1d _,rfl,fun i hi=>absurd hi (W5h _)⟩ (fun (j,bs) hI=>?_)
   have hI':=hI
   obtain ⟨hj,hjl,has⟩:=hI
   simp only at hj hjl has
   refine By rfl (fun h=>?_) fun h=>?_
   · have h : (j : Int)<2:=h
     obtain ⟨z,v,ρz,z1,z2,z3,z4,z6⟩:=Yln hx hy j (by omega)
     have z5:=W.t z3
     have hzu : ([x,y].map dN)[j]?=some (dN z):=by rw [W1s,z1];rfl
     have hzm:=hcon z (W0l z1) ρz z3
     have hz3:=W.le z3
     have hpj : p≤jW p:=Ygb
     refine Ix j rfl hzu ?_
     refine Ce rfl (Xaq (T:=toT m T) (U:=toT z.k z.t) (TS.pt hTr) (TS.pt z5) (by omega) (by rw [Xaa];omega)) ?_
     refine By rfl (fun h1=>?_) fun h1=>?_
     · have hb : Beg z.k z.t m T:=h1
       obtain ⟨b,hlb⟩:=Lf.ex hb.le z.a
       have hv1 : ev G ρ m b=v:=by rw [hlb.ev hb.le,Xbc (Xvc hG hb z3 hT),z4]
       refine Ix j rfl hzu ?_
       refine Ce rfl (Xm4 (T:=T) hlb hb.le (by omega)) ?_
       refine ApG ((bs++[b]).map fun a=>dN ⟨m,T,a⟩) rfl (by simp) (by simp;omega) ?_
       refine Ar (j+1 : Nat) rfl ?_
       exact Bk (j+1,bs++[b]) [(113,9)] rfl (hI'.step (by omega) z2 hv1 ((hlb.sz z6).mono hpj)) (by show 2 - (j+1)<2 - j;omega)
     · refine Ix j rfl hzu ?_
       refine Ca rfl (Xe8 W hT z3) fun v' hv=>?_
       obtain ⟨m',T',rs,ρ',rfl,g1,g2,g3,g5,g6⟩:=hv
       obtain rfl : m'=m:=by have:=congrArg List.length (g6 hzm);rwa [Xaa,Xaa] at this
       have g5 : RtV G m' (zM wR 3) z.k rs ρ ρz:=g5.mono (W0a _) (W0a _) (fun i hi=>(g3 i hi).symm)
       obtain ⟨σ,s1,s2⟩:=g5.sig
       have hbd:=Xw7 (p:=p) hm3 hz3
       refine Ix j rfl hzu ?_
       refine Ce rfl (Xgj hTr (by omega) s1 z6 (by omega) (by omega)) ?_
       refine ApG ((bs++[ev T σ z.k z.a]).map fun a=>dN ⟨m',T,a⟩) rfl (by simp) (by simp;omega) ?_
       refine Ar (j+1 : Nat) rfl ?_
       exact Bk (j+1,bs++[ev T σ z.k z.a]) [(113,9)] rfl (hI'.step (by omega) z2 (by rw [Xlm hT.h s2,z4]) (img W hT z3 s1 z6)) (by show 2 - (j+1)<2 - j;omega)
   · have h : ¬ (j : Int)<2:=h
     obtain rfl : j=2:=by omega
     obtain ⟨a,b,rfl,hJ⟩:=hI'.done hT
     exact Rt rfl (.tup (.cons (.gr rfl) Xdo)) ⟨m,T,a,b,rfl,hJ,hP'⟩
theorem Yds (W : Wy G S wR) (hx : NOk G S r p x vx) (hy : NOk G S r p y vy) (hp : p≤4000000000) : ∃ m T a b,C0 118 [.d (dNs [x,y])] (·=.tup (.pr (.d (dNs [⟨m,T,a⟩,⟨m,T,b⟩])) (.d (.int .i64 0))))∧JnR G S p vx vy m T a b:=by
 have hG:=W.g
 obtain ⟨ρx,hx1,hx2⟩:=hx.ex
 obtain ⟨ρy,hy1,hy2⟩:=hy.ex
 obtain ⟨m,T,hC⟩:=CmF.ex W hx1 hy1
 obtain ⟨ρ,hT,hin⟩:=hC.1
 obtain ⟨a,a1,a2⟩:=Yga W hT hx1 (hin x W0q ρx hx1) hx.p
 obtain ⟨b,b1,b2⟩:=Yga W hT hy1 (hin y (W0z _ W0q) ρy hy1) hy.p
 refine ⟨m,T,a,b,(Xyj W hx hy hp hx1 hy1).mono fun v ⟨m',T',a',b',e,⟨ρ',k1,k2,k3,_⟩,hC'⟩=>?_,ρ,hT,a1.trans hx2,b1.trans hy2,a2,b2⟩
 obtain ⟨e1,e2⟩:=hC'.un hG hC
 subst e1
 have e2 : T'=T:=e2
 subst e2
 have hu:=k1.h.uniq hG hT.h
 have ea : a'=a:=Xc6 (Xag hG) hT.h hT.r (by rw [a1,hx2,←k2];exact (Xbc hu).symm)
 have eb : b'=b:=Xc6 (Xag hG) hT.h hT.r (by rw [b1,hy2,←k3];exact (Xbc hu).symm)
 rw [e,ea,eb]
theorem Xyw (W : Wy G S wR) (hx : NOk G S r p x vx) (hy : NOk G S r p y vy) (hp : p≤4000000000) : ∃ m T a b,C0 58 [.d (dN x),.d (dN y)] (·=.tup (.pr (.d (dN ⟨m,T,a⟩)) (.pr (.d (dN ⟨m,T,b⟩)) (.d (.int .i64 0)))))∧JnR G S p vx vy m T a b:=by
 obtain ⟨m,T,a,b,hj,h⟩:=Yds W hx hy hp
 refine ⟨m,T,a,b,?_,h⟩
 refine En Tryz.func58 fun _ _ _=>?_
 refine Ce rfl hj ?_
 refine No rfl (by simp) ?_
 refine Dz rfl ?_
 refine Ix 0 rfl (u:=dN ⟨m,T,a⟩) rfl ?_
 refine Ix 1 rfl (u:=dN ⟨m,T,b⟩) rfl ?_
 exact RTt rfl (.cons (.rf rfl) (.cons (.rf rfl) Xdo))
def OpX (f : FuncId) (x y : Nm) (G : Tw K) (S : List (Tow.El K)) (p : Nat) (w : Tow.El K) : Prop:=∃ z : Nm,C0 f [.d (dN x),.d (dN y)] (·=.tup (.pr (.d (dN z)) (.d (.int .i64 0))))∧NOk G S wR p z w
theorem Yag (W : Wy G S wR) (hx : NOk G S r p x vx) (hy : NOk G S r p y vy) (hp : p≤4000000000) : OpX 25 x y G S (oW p) (Tow.add K vx vy):=by
 have hO : oW p=16*p+147714794:=rfl
 have hJ : jW p=8*p+73803682:=rfl
 obtain ⟨m,T,a,b,hj,ρ,h1,h3,h4,h5,h6⟩:=Xyw W hx hy hp
 have h2:=W.t h1
 have hm:=W.le h1
 refine ⟨⟨m,T,Tow.add m a b⟩,?_,⟨ρ,h1,by rw [←h3,←h4];exact Xc7⟩,h2,by rw [Xaz];exact (h5.add h6).mono (by omega)⟩
 refine En Tryz.func25 fun _ _ _=>?_
 refine Ce rfl hj ?_
 refine No rfl (by simp) ?_
 refine Dw rfl ?_
 refine Ce rfl (R6.Add_el (k:=m) (a:=a) (b:=b) (by omega) h5.ps h6.ps (by omega)) ?_
 exact RTt rfl (.cons (.rf rfl) Xdo)
theorem Yaf (W : Wy G S wR) (hx : NOk G S r p x vx) (hy : NOk G S r p y vy) (hp : p≤4000000000) : OpX 27 x y G S (oW p) (Tow.mul K G vx vy):=by
 have hO : oW p=16*p+147714794:=rfl
 have hJ : jW p=8*p+73803682:=rfl
 obtain ⟨m,T,a,b,hj,ρ,h1,h3,h4,h5,h6⟩:=Xyw W hx hy hp
 have h2:=W.t h1
 have hm:=W.le h1
 have hc:=Xp7 (r:=wR) hm
 have hC:=wC
 refine ⟨⟨m,T,Tow.mul m T a b⟩,?_,⟨ρ,h1,by rw [←h3,←h4];exact Xbd h1.h⟩,h2,(h5.mul h2 h6).mono (by omega)⟩
 refine En Tryz.func27 fun _ _ _=>?_
 refine Ce rfl hj ?_
 refine No rfl (by simp) ?_
 refine Dw rfl ?_
 refine Ce rfl (R6.Mul_el (k:=m) (t:=T) (a:=a) (b:=b) h2 h5 h6 (by omega) (by omega)) ?_
 exact RTt rfl (.cons (.rf rfl) Xdo)
theorem Yhu (W : Wy G S wR) (hx : NOk G S r p x vx) (hy : NOk G S r p y vy) (hp : p≤4000000000) : OpX 17 x y G S (oW p) (Tow.add K vx (Tow.neg K vy)):=by
 have:=hy.le (Xag W.g) W.s
 obtain ⟨z,hz,h⟩:=Yag W hx hy.neg hp
 refine ⟨z,?_,h⟩
 refine En Tryz.func17 fun _ _ _=>?_
 refine Dw rfl ?_
 refine Ce rfl (Neg_ok hy (by omega) (by omega)) ?_
 refine Ce rfl hz ?_
 exact R0t
theorem Yh0 (W : Wy G S wR) {q : Nat} (hx : NOk G S r q x vx) (hy : NOk G S r p y vy) (hq : iS r 3 p≤q) (hi : iB r 3 p≤4398046511104) (hp : q≤4000000000) :
 (vy=zero K∧C0 28 [.d (dN x),.d (dN y)] (·=.tup (.pr (.d n0) (.d (.int .i64 6)))))∨∃ w,Tow.mul K G w vy=rat K 1∧OpX 28 x y G S (oW q) (Tow.mul K G vx w):=by
 have hy3:=hy.le (Xag W.g) W.s
 obtain ⟨ρ,h1,h2⟩:=hy.ex
 by_cases h0 : y.a=zero y.k
 · refine .inl ⟨by rw [←h2,h0,Xfp],?_⟩
   refine En Tryz.func28 fun _ _ _=>?_
   have hc:=R6.Inv0_ok (t:=y.t) (by omega)
   rw [←h0] at hc
   refine Ce rfl hc ?_
   refine Yes rfl (by decide) ?_
   exact RTt rfl (.cons Ymi Xdo)
 · obtain ⟨i,hi1⟩:=(Xeh h1.r).2 y.a h0
   have hle:=Yjv (r:=r) (p:=p) hy3
   have hls:=Yju (r:=r) (p:=p) hy3
   have hz : NOk G S r q ⟨y.k,y.t,i⟩ (ev G ρ y.k i):=⟨⟨ρ,h1,rfl⟩,hy.r,(Sz.invS hy.r hy.p hi1).mono (by omega)⟩
   obtain ⟨z,hm,h⟩:=Yaf (y:=⟨y.k,y.t,i⟩) W hx hz hp
   refine .inr ⟨ev G ρ y.k i,by rw [←h2,←Xbd h1.h,Xds hi1,Xck],z,?_,h⟩
   refine En Tryz.func28 fun _ _ _=>?_
   refine Ce rfl (R6.Inv_ok hy.r hy.p h1.r hi1 (by omega) (by omega)) ?_
   refine No rfl (by simp) ?_
   refine Ce rfl hm ?_
   exact R0t
def RtP (x z : Nm) : Prop:=(∃ y,z=⟨x.k,x.t,y⟩∧Tow.mul x.k x.t y y=x.a∧0≤sgn x.k x.t y)∨(z=⟨x.k+1,tsn x.t x.a,Xcg (x.k+1) x.k⟩∧0≤sgn x.k x.t x.a∧¬ Xej x.k x.t x.a)
theorem Ydo (hr : red x.k x.t) (hT : TS r x.k x.t) (ha : Sz p (toL x.k x.a)) (h0 : 0≤sgn x.k x.t x.a) (hk : x.k<8) (hq : qB r x.k p≤4398046511104) (hq2 : qB r x.k r≤4398046511104) (hv : vB r x.k (p+gC r x.k)≤4398046511104) (hv2 : vB r x.k r≤4398046511104) :
 ∃ z : Nm,C0 30 [.d (dN x)] (·=.tup (.pr (.d (dN z)) (.d (.int .i64 0))))∧RtP x z:=by
 have h:=Sqrt_ok hr hT ha h0 hk hq hq2 hv hv2
 by_cases hs : Xej x.k x.t x.a
 · obtain ⟨y,h1,h2⟩ : ∃ y,mul x.k x.t y y=x.a∧0≤sgn x.k x.t y:=by
    obtain ⟨y,hy⟩:=hs
    by_cases hy0 : 0≤sgn x.k x.t y
    · exact ⟨y,hy,hy0⟩
    · have L:=Xa3 x.k x.t
      exact ⟨Tow.neg x.k y,by rw [L.mn,L.nm,L.nn,hy],by rw [(Xat (Xag hr)).sn];omega⟩
   refine ⟨⟨x.k,x.t,y⟩,h.mono fun v hv=>?_,.inl ⟨y,rfl,h1,h2⟩⟩
   obtain ⟨z,e,⟨y',rfl,k1,k2⟩ | ⟨_,_,k⟩⟩:=hv
   · rw [e,Xob hr (k1.trans h1.symm) k2 h2]
   · exact absurd hs k
 · refine ⟨⟨x.k+1,tsn x.t x.a,Xcg (x.k+1) x.k⟩,h.mono fun v hv=>?_,.inr ⟨rfl,h0,hs⟩⟩
   obtain ⟨z,e,⟨y',_,k1,_⟩ | ⟨rfl,_,_⟩⟩:=hv
   · exact absurd ⟨y',k1⟩ hs
   · exact e
end
open Go Go.Vm Go.Num Go.Tow Go.Proofs.YtclmecgphleeeaaGreatDoor
theorem Yl1 {σ : Type} {I : Nat→σ→Prop} {R : Nat→σ→σ→Prop} {n : Nat} {s0 : σ} (h0 : I 0 s0) (hs : ∀ i s,i<n→I i s→∃ s',R i s s'∧I (i+1) s') : ∃ X : Nat→σ,X 0=s0∧(∀ i,i≤n→I i (X i))∧∀ i,i<n→R i (X i) (X (i+1)):=by
 have : ∀ i,∀ s,∃ s',i<n→I i s→R i s s'∧I (i+1) s':=fun i s=>by
  by_cases h : i<n∧I i s
  · obtain ⟨s',h'⟩:=hs i s h.1 h.2
    exact ⟨s',fun _ _=>h'⟩
  · exact ⟨s,fun a b=>absurd ⟨a,b⟩ h⟩
 obtain ⟨f,hf⟩:=W5j fun i=>W5j (this i)
 let X : Nat→σ:=fun i=>Nat.rec s0 (fun i s=>f i s) i
 have hI : ∀ i,i≤n→I i (X i):=fun i=>by
  induction i with
  | zero=>exact fun _=>h0
  | succ i ih=>exact fun h=>(hf i (X i) (by omega) (ih (by omega))).2
 exact ⟨X,rfl,hI,fun i h=>(hf i (X i) h (hI i (by omega))).1⟩
def oQ (o : RO) : Rat:=Rat.divInt o.n (o.d % 8+1 : Nat)
def Rs2 (f : FuncId) (x y z : Nm) : Prop:=C0 f [.d (dN x),.d (dN y)] (·=.tup (.pr (.d (dN z)) (.d (.int .i64 0))))
open Classical in
noncomputable def pzN (x : Nm) : Nm:=if sgn x.k x.t x.a<0 then ⟨x.k,x.t,Tow.neg x.k x.a⟩ else x
def Yh3 (o : RO) (n : Nat) (l : List Nm) (z : Nm) (n' : Nat) : Prop :=
 (l.length=0∨o.kind % 6=0→z=⟨0,(),oQ o⟩∧n'=n) ∧
 (0<l.length→∀ xa xb,l[o.a % l.length]?=some xa→l[o.b % l.length]?=some xb →
  (o.kind % 6=1→n'=n∧Rs2 25 xa xb z)∧(o.kind % 6=2→n'=n∧Rs2 17 xa xb z)∧(o.kind % 6=3→n'=n∧Rs2 27 xa xb z) ∧
  (o.kind % 6=4→n'=n∧(Rs2 28 xa xb z∨(z=xa∧C0 28 [.d (dN xa),.d (dN xb)] (·=.tup (.pr (.d n0) (.d (.int .i64 6))))))) ∧
  (o.kind % 6=5→(n<3→n'=n+1∧C0 30 [.d (dN (pzN xa))] (·=.tup (.pr (.d (dN z)) (.d (.int .i64 0)))))∧(¬ n<3→n'=n∧z=xa)))
def Nxt (l : List Nm) (z z' : Nm) : Prop:=(0<l.length∧¬ shN z→∃ y,l[l.length - 1]?=some y∧z'=trF y.k y)∧(l.length=0∨shN z→z'=trF z.k z)
def StB (ops : List RO) (i : Nat) (s s' : Nat × List Nm) : Prop:=∀ o,ops[i]?=some o→∃ z z',Yh3 o s.1 s.2 z s'.1∧Big s.2 s'.1 z∧Nxt s.2 z z'∧s'.2=s.2++[z']
def InB (i : Nat) (s : Nat × List Nm) : Prop:=s.2.length=i∧s.1≤3∧(∀ z∈s.2,Tm z∧shN z)∧Wld s.1 s.2 fun _ _=>True
theorem Yji (o : RO) : sh (oQ o):=by
 obtain ⟨o1,o2,o3,o4,o5⟩:=o.h
 exact Ycm ⟨o5.1,o5.2⟩ ⟨by omega,by omega⟩
theorem Xsz (o : RO) : shN ⟨0,(),oQ o⟩:=⟨fun x hx=>by obtain rfl:=W0g.1 hx;exact Yji o,fun l hl=>nomatch hl⟩
theorem Yfl (o : RO) {K : Nat} (G : Tw K) (S : List (Tow.El K)) (r p : Nat) (hp : 65≤p) : NOk G S r p ⟨0,(),oQ o⟩ (rat K (oQ o)):=⟨⟨fun _=>zero _,⟨trivial,trivial,fun i hi=>absurd hi (W5h _)⟩,rfl⟩,trivial,Xwe (n:=1) (Xsz o).1 (W0a _) (by omega)⟩
theorem Yi8 {K : Nat} {G : Tw K} {S : List (Tow.El K)} {y : Nm} {vy : Tow.El K} (hG : red K G) (hS3 : S.length≤3) (hy : NOk G S 300 600 y vy) (h0 : 0≤sgn y.k y.t y.a) : ∃ z : Nm,C0 30 [.d (dN y)] (·=.tup (.pr (.d (dN z)) (.d (.int .i64 0))))∧RtP y z:=by
 obtain ⟨b1,b2,b3,b4,b5,b6,b7,b8,b9,b10,b11,b12⟩:=bnds
 have hGr:=Xag hG
 obtain ⟨ρ,y1,y2⟩:=hy.ex
 have ky:=hy.le hGr hS3
 have q1:=Xsq (r:=300) (p:=600) ky
 have q2:=Xsq (r:=300) (p:=300) ky
 have q3:=Xcu (r:=300) (k:=y.k) (show 600+gC 300 y.k≤600+gC 300 3 by have:=Xt9 (r:=300) ky;omega)
 have q4:=Xi2 (r:=300) (s:=600+gC 300 3) ky
 have q5:=Xi2 (r:=300) (s:=300) ky
 exact Ydo y1.r hy.r hy.p h0 (by omega) (by omega) (by omega) (by omega) (by omega)
theorem Ye4 {n : Nat} {l : List Nm} {K : Nat} {G : Tw K} {S : List (Tow.El K)} {y z : Nm} {vy : Tow.El K} (hG : red K G) (hS : S.length≤n) (hn : n<3) (hq : Xvn G S 300 600) (hall : ∀ z∈l,∃ v,NOk G S 300 600 z v) (hy : NOk G S 300 600 y vy) (hv : RtP y z) : Big l (n+1) z:=by
 obtain ⟨b1,b2,b3,b4,b5,b6,b7,b8,b9,b10,b11,b12⟩:=bnds
 have hGr:=Xag hG
 obtain ⟨ρ,y1,y2⟩:=hy.ex
 have ky:=hy.le hGr (show S.length≤3 by omega)
 rcases hv with ⟨w,rfl,e1,e2⟩ | ⟨rfl,e1,e2⟩
 · exact ⟨by omega,K,G,S,hG,by omega,hq,hall,_,⟨ρ,y1,rfl⟩,hy.r.mono b1,(hy.p.rootS hy.r y1.r e1).mono (W0i (Nat.add_le_add_left (Xt9 ky) _) b3)⟩
 · exact ⟨by omega,Xid hG hS hq hall y1 hy.r hy.p e1 e2 ⟨hy.r.mono b1,hy.p.mono (by omega)⟩ ((Xmt y.k).mono (by omega))⟩
theorem Yc9 (o : RO) {n : Nat} {l : List Nm} (hn3 : n≤3) (hw : Wld n l fun _ _=>True) : ∃ z n',Yh3 o n l z n'∧Big l n' z:=by
 obtain ⟨b1,b2,b3,b4,b5,b6,b7,b8,b9,b10,b11,b12⟩:=bnds
 obtain ⟨K,G,S,hG,hS,hq,hall,_⟩:=hw
 have hS3:=W0i hS hn3
 have hGr:=Xag hG
 have W:=hq.wd hG hS3
 have ok : ∀ {z : Nm} {v : Tow.El K},NOk G S wR (oW 1000000) z v→Big l n z:=fun h=>⟨hn3,K,G,S,hG,hS,hq,hall,_,h⟩
 by_cases h0 : l.length=0∨o.kind % 6=0
 · exact ⟨_,n,⟨fun _=>⟨rfl,rfl⟩,fun h1 xa xb _ _=>⟨fun h=>by omega,fun h=>by omega,fun h=>by omega,fun h=>by omega,fun h=>by omega⟩⟩,ok (Yfl o G S _ _ (by omega))⟩
 have hl0 : 0<l.length:=by omega
 obtain ⟨xa,hxa⟩ : ∃ x,l[o.a % l.length]?=some x:=⟨_,W0d (W1r _ hl0)⟩
 obtain ⟨xb,hxb⟩ : ∃ x,l[o.b % l.length]?=some x:=⟨_,W0d (W1r _ hl0)⟩
 obtain ⟨va,ha⟩:=hall xa (W0l hxa)
 obtain ⟨vb,hb⟩:=hall xb (W0l hxb)
 have ha1 : NOk G S 300 1000000 xa va:=ha.mono (W0a _) (by decide)
 have hb1 : NOk G S 300 1000000 xb vb:=hb.mono (W0a _) (by decide)
 have same : Big l n xa:=ok (ha.mono b1 b2)
 have mk : ∀ {z : Nm} {n' : Nat},((o.kind % 6=1→n'=n∧Rs2 25 xa xb z)∧(o.kind % 6=2→n'=n∧Rs2 17 xa xb z)∧(o.kind % 6=3→n'=n∧Rs2 27 xa xb z) ∧
  (o.kind % 6=4→n'=n∧(Rs2 28 xa xb z∨(z=xa∧C0 28 [.d (dN xa),.d (dN xb)] (·=.tup (.pr (.d n0) (.d (.int .i64 6))))))) ∧
  (o.kind % 6=5→(n<3→n'=n+1∧C0 30 [.d (dN (pzN xa))] (·=.tup (.pr (.d (dN z)) (.d (.int .i64 0)))))∧(¬ n<3→n'=n∧z=xa)))→Yh3 o n l z n':=fun h=>⟨fun e=>absurd e h0,fun _ ya yb h1 h2=>by
   rw [hxa] at h1;rw [hxb] at h2
   cases h1;cases h2
   exact h⟩
 have hk : o.kind % 6<6:=W1r _ (by decide)
 have c : o.kind % 6=1∨o.kind % 6=2∨o.kind % 6=3∨o.kind % 6=4∨o.kind % 6=5:=by omega
 rcases c with e | e | e | e | e
 · obtain ⟨z,hz,hN⟩:=Yag W ha1 hb1 (by decide)
   exact ⟨z,n,mk ⟨fun _=>⟨rfl,hz⟩,fun h=>by omega,fun h=>by omega,fun h=>by omega,fun h=>by omega⟩,ok hN⟩
 · obtain ⟨z,hz,hN⟩:=Yhu W ha1 hb1 (by decide)
   exact ⟨z,n,mk ⟨fun h=>by omega,fun _=>⟨rfl,hz⟩,fun h=>by omega,fun h=>by omega,fun h=>by omega⟩,ok hN⟩
 · obtain ⟨z,hz,hN⟩:=Yaf W ha1 hb1 (by decide)
   exact ⟨z,n,mk ⟨fun h=>by omega,fun h=>by omega,fun _=>⟨rfl,hz⟩,fun h=>by omega,fun h=>by omega⟩,ok hN⟩
 · rcases Yh0 W ha1 hb b5 b6 (by decide) with ⟨_,hz⟩ | ⟨w,_,z,hz,hN⟩
   · exact ⟨xa,n,mk ⟨fun h=>by omega,fun h=>by omega,fun h=>by omega,fun _=>⟨rfl,.inr ⟨rfl,hz⟩⟩,fun h=>by omega⟩,same⟩
   · exact ⟨z,n,mk ⟨fun h=>by omega,fun h=>by omega,fun h=>by omega,fun _=>⟨rfl,.inl hz⟩,fun h=>by omega⟩,ok hN⟩
 · by_cases hn : n<3
   · have hp : ∃ vy,NOk G S 300 600 (pzN xa) vy∧0≤sgn (pzN xa).k (pzN xa).t (pzN xa).a:=by
      obtain ⟨ρ,r1,r2⟩:=ha.ex
      by_cases hs : sgn xa.k xa.t xa.a<0
      · rw [show pzN xa=⟨xa.k,xa.t,Tow.neg xa.k xa.a⟩ from if_pos hs]
        exact ⟨_,ha.neg,by show 0≤sgn xa.k xa.t (Tow.neg xa.k xa.a);rw [(Xat (Xag r1.r)).sn];omega⟩
      · rw [show pzN xa=xa from if_neg hs]
        exact ⟨_,ha,by omega⟩
     obtain ⟨vy,hy,hy0⟩:=hp
     obtain ⟨z,hz,hR⟩:=Yi8 hG hS3 hy hy0
     exact ⟨z,n+1,mk ⟨fun h=>by omega,fun h=>by omega,fun h=>by omega,fun h=>by omega,fun _=>⟨fun _=>⟨rfl,hz⟩,fun h=>absurd hn h⟩⟩,Ye4 hG hS hn hq hall hy hR⟩
   · exact ⟨xa,n,mk ⟨fun h=>by omega,fun h=>by omega,fun h=>by omega,fun h=>by omega,fun _=>⟨fun h=>absurd h hn,fun _=>⟨rfl,rfl⟩⟩⟩,same⟩
section
variable {K : Nat} {G : Tw K} {S : List (Tow.El K)} {r p : Nat} {v : Tow.El K}
theorem Xrl {P : Rat→Prop} (hG : red K G) : ∀ (n : Nat) (z : Nm),n≤z.k→NOk G S r p z v→Als P z→(∀ j,n≤j→j<z.k→nd z j)→NOk G S r p (trF n z) v∧Als P (trF n z)∧Tm (trF n z)
 | 0,z,_,h,hA,hn=>⟨h,hA,fun i hi=>hn i (W1d _) hi⟩
 | i+1,z,hk,h,hA,hn=>by
  by_cases hd : nd z i
  · rw [Xi7 hd]
    refine Xrl hG i z (by omega) h hA fun j a b=>?_
    by_cases e : i=j
    · subst e;exact hd
    · exact hn j (by omega) b
  obtain ⟨k,T,c⟩:=z
  have hk : i+1≤k:=hk
  obtain ⟨m,rfl⟩ : ∃ m,k=m+1:=⟨k - 1,by omega⟩
  have him : i≤m:=by omega
  rw [Xrk hd]
  obtain ⟨ρ,a1,a2⟩:=h.ex
  have no1 : ¬ oc (toL (m+1) c) i:=fun e=>hd (.inl e)
  have no2 : ∀ j l,i<j→(toT (m+1) T)[j]?=some l→¬ oc l i:=fun j l a b e=>hd (.inr ⟨j,l,a,b,e⟩)
  refine Xrl hG i ⟨m,rmT m i T,rm m i c⟩ him ⟨⟨skip i ρ,a1.rm (Xag hG) him no2,by rw [←a2];exact Ycs him no1⟩,h.r.rm him,?_⟩ ⟨?_,?_⟩ fun j a b=>Yfr him hd a b (hn (j+1) (by omega) (by show j+1<m+1;have b : j<m:=b;omega))
  · show Sz p (toL m (rm m i c))
    rw [Xey him];exact h.p.sub fun x hx=>Xee hx
  · show ∀ q∈toL m (rm m i c),P q
    rw [Xey him];exact fun q hq=>hA.1 q (Xee hq)
  · show ∀ l∈toT m (rmT m i T),∀ q∈l,P q
    rw [Xi8 him]
    intro l hl q hq
    rcases W2v.1 hl with hl | hl
    · exact hA.2 l (W4r hl) q hq
    · obtain ⟨l',hl',rfl⟩:=W3p.1 hl
      exact hA.2 l' (W5f hl') q (Xee hq)
theorem Xnu {x : Nm} (hs : shN x) (hG : red K G) (hS : S.length≤3) (hx : NOk G S r p x v) (hr : r≤8796093022208) (hp : p≤8796093022208) : C0 32 [.d (dN x)] (·=.d (dN (trF x.k x))):=(Xl6 (P:=sh) hs hG hS hx hr hp).mono fun _ ⟨z,e,_,_,h⟩=>by rw [e,h]
end
theorem Ya3 {ops : List RO} {i : Nat} {s : Nat × List Nm} (h : InB i s) : ∃ s',StB ops i s s'∧InB (i+1) s':=by
 obtain ⟨n,l⟩:=s
 obtain ⟨hl,hn3,hm,hw⟩:=h
 simp only at hl hn3 hm hw
 have go : ∀ o,∃ s',(∃ z z',Yh3 o n l z s'.1∧Big l s'.1 z∧Nxt l z z'∧s'.2=l++[z'])∧InB (i+1) s':=fun o=>by
  obtain ⟨z,n',hC,hB⟩:=Yc9 o hn3 hw
  have hB':=hB
  obtain ⟨hn',K,G,S,hG,hS,hq,hall,v,hz⟩:=hB
  have hS3:=W0i hS hn'
  have kz : z.k≤3:=hz.le (Xag hG) hS3
  have fin : ∀ y vy,NOk G S 300 600 y vy→shN y→Nxt l z (trF y.k y)→∃ s' : Nat × List Nm,(∃ z z',Yh3 o n l z s'.1∧Big l s'.1 z∧Nxt l z z'∧s'.2=l++[z'])∧InB (i+1) s':=fun y vy hy hs hN=>by
   obtain ⟨t1,t2,t3⟩:=Xrl (P:=sh) hG y.k y (W0a _) hy hs (fun j a b=>by omega)
   refine ⟨(n',l++[trF y.k y]),⟨z,_,hC,hB',hN,rfl⟩,by simp [hl],hn',fun x hx=>?_,K,G,S,hG,hS,hq,fun x hx=>?_,trivial⟩
   · rcases W2v.1 hx with hx | hx
     · exact hm x hx
     · rw [W0g.1 hx];exact ⟨t3,t2⟩
   · rcases W2v.1 hx with hx | hx
     · exact hall x hx
     · rw [W0g.1 hx];exact ⟨_,t1⟩
  by_cases hc : 0<l.length∧¬ shN z
  · obtain ⟨y,hy⟩ : ∃ y,l[l.length - 1]?=some y:=⟨_,W0d (by omega)⟩
    obtain ⟨vy,hvy⟩:=hall y (W0l hy)
    exact fin y vy hvy (hm y (W0l hy)).2 ⟨fun _=>⟨y,hy,rfl⟩,fun h=>h.elim (fun h=>by omega) fun h=>absurd h hc.2⟩
  · have hs : shN z:=by
     by_cases hs : shN z
     · exact hs
     · have h0 : l.length=0:=by
        by_cases h0 : l.length=0
        · exact h0
        · exact absurd ⟨by omega,hs⟩ hc
       rw [(hC.1 (.inl h0)).1];exact Xsz o
    exact fin z v (hs.ok hz kz) hs ⟨fun h=>absurd h hc,fun _=>rfl⟩
 cases ho : ops[i]? with
 | none =>
  obtain ⟨s',_,h⟩:=go ⟨0,0,0,0,0,by decide⟩
  exact ⟨s',(fun o h=>by rw [ho] at h;cases h),h⟩
 | some o =>
  obtain ⟨s',h1,h⟩:=go o
  exact ⟨s',(fun o' h=>by rw [ho] at h;cases h;exact h1),h⟩
theorem Xyl (ops : List RO) : ∃ l : List Nm,C0 11 [.d (dRs ops)] (·=.d (dNs l))∧l.length≤24∧(∀ z∈l,Tm z∧shN z)∧Wld 3 l fun _ _=>True:=by
 obtain ⟨X,hX0,hXI,hXR⟩:=Yl1 (I:=InB) (R:=StB ops) (n:=24) (s0:=(0,[])) ⟨rfl,W1d _,(fun z hz=>nomatch hz),0,(),[],trivial,W0a _,(fun g hg=>by cases hg),(fun y hy=>by cases hy),trivial⟩ fun i s _ h=>Ya3 h
 obtain ⟨N,hN,hN1,hN2⟩ : ∃ N,N≤24∧N≤ops.length∧(N=24∨N=ops.length):=⟨min 24 ops.length,by omega,by omega,by omega⟩
 obtain ⟨f1,f2,f3,f4⟩:=hXI N hN
 refine ⟨(X N).2,?_,by omega,f3,Xv0 f4 f2⟩
 refine En Tryz.func11 fun _ _ _=>?_
 refine Nl 3 3 2 rfl ?_
 refine Lo (fun i : Nat=>[(0,.d (dRs ops)),(3,.gr 3 2 ((X i).2.map dN)),(4,.d (.int .i64 (X i).1)),(5,.d (.int .i64 i))]) (fun i=>[(3,.tok ((X i).2.map dN).length 2)]) (fun i=>i≤N) (fun i=>N - i) 0 [] rfl (W1d _) (fun i hi=>?_) (by rw [hX0];exact ⟨rfl,rfl,rfl,rfl,rfl⟩)
 obtain ⟨hl,hn3,hm,hw⟩:=hXI i (by omega)
 by_cases hiN : i=N
 · subst hiN
   rcases hN2 with e | e
   · by_cases h : i<ops.length
     · refine Yes rfl (show (i : Int)<((ops.map dO).length : Nat) by rw [W0n];omega) ?_
       refine No rfl (show ¬ (i : Int)<24 by omega) ?_
       exact R1 rfl (.gr rfl)
     · refine No rfl (show ¬ (i : Int)<((ops.map dO).length : Nat) by rw [W0n];omega) ?_
       exact R1 rfl (.gr rfl)
   · refine No rfl (show ¬ (i : Int)<((ops.map dO).length : Nat) by rw [W0n];omega) ?_
     exact R1 rfl (.gr rfl)
 have hi' : i<N:=by omega
 obtain ⟨o,ho⟩ : ∃ o,ops[i]?=some o:=⟨_,W0d (by omega)⟩
 obtain ⟨z,z',hC,hB,hNx,hS⟩:=hXR i (by omega) o ho
 obtain ⟨n,l,hXi⟩ : ∃ n l,X i=(n,l):=⟨_,_,rfl⟩
 obtain ⟨n',l',hXs⟩ : ∃ n l,X (i+1)=(n,l):=⟨_,_,rfl⟩
 rw [hXi] at hl hn3 hm hw hC hB hNx hS ⊢
 rw [hXs] at hC hB hS
 simp only at hl hn3 hm hw hC hB hNx hS
 rw [hS] at hXs
 have nx : ∀ {j : Nat},j=i+1→X j=(n',l++[z']):=fun e=>by rw [e,hXs]
 obtain ⟨o1,o2,o3,o4,o5⟩:=o.h
 obtain ⟨K,G,S,hG,hS,hq,hall,_⟩:=hw
 have hS3:=W0i hS hn3
 have hGr:=Xag hG
 have W:=hq.wd hG hS3
 obtain ⟨b1,b2,b3,b4,b5,b6,b7,b8,b9,b10,b11,b12⟩:=bnds
 refine Yes rfl (show (i : Int)<((ops.map dO).length : Nat) by rw [W0n];omega) ?_
 refine Yes rfl (show (i : Int)<24 by omega) ?_
 refine Ix i rfl (u:=dO o) (by rw [W1s,ho];rfl) ?_
 refine Go.Vm.Cv o.n rfl ?_ (wI (by omega))
 refine Ar (o.d % 8 : Nat) rfl ?_ (remN (by decide))
 refine Go.Vm.Cv (o.d % 8 : Nat) rfl ?_ (wI (by omega))
 refine Ar (o.d % 8+1 : Nat) rfl ?_
 have hfr : C0 14 [.d (.int .i64 o.n),.d (.int .i64 (o.d % 8+1 : Nat))] (·=.d (dN ⟨0,(),oQ o⟩)):=Frac_ok (a:=o.n) (b:=(o.d % 8+1 : Nat)) (by omega) (by omega) (by omega)
 refine Ce rfl hfr ?_
 refine By rfl (fun h3=>?_) fun h3=>?_
 · have h3 : ((l.map dN).length : Int) > 0:=h3
   rw [W0n] at h3
   refine Ar (o.kind % 6 : Nat) rfl ?_ (remN (by decide))
   refine Cu none (fun (s : Nm × Nat)=>[(0,.d (dRs ops)),(3,.gr 3 2 (l.map dN)),(4,.d (.int .i64 s.2)),(5,.d (.int .i64 i)),(7,.ptr 7 0)]) (fun s=>[(3,.tok (l.map dN).length 2),(7,.var (.d (dN s.1)))]) (fun s=>s=(z,n')) rfl ?_ (fun (z1,n1) hE=>?_)
   · refine By rfl (fun h4=>?_) fun h4=>?_
     · obtain ⟨xa,hxa⟩ : ∃ x,l[o.a % l.length]?=some x:=⟨_,W0d (W1r _ (by omega))⟩
       obtain ⟨xb,hxb⟩ : ∃ x,l[o.b % l.length]?=some x:=⟨_,W0d (W1r _ (by omega))⟩
       obtain ⟨d1,d2,d3,d4,d5⟩:=hC.2 (by omega) xa xb hxa hxb
       obtain ⟨va,ha⟩:=hall xa (W0l hxa)
       have hua : (l.map dN)[o.a % l.length]?=some (dN xa):=by rw [W1s,hxa];rfl
       have hub : (l.map dN)[o.b % l.length]?=some (dN xb):=by rw [W1s,hxb];rfl
       have hrm : ∀ {c : Nat},arB .rem .i64 c ((l.map dN).length : Nat) (c % l.length : Nat):=fun {c}=>by rw [W0n];exact remN (by omega)
       have ka:=ha.le hGr hS3
       have hk6 : o.kind % 6<6:=W1r _ (by decide)
       have h4 : ((o.kind % 6 : Nat) : Int)≠0:=h4
       refine Dz rfl ?_
       refine Go.Vm.Cv (o.a : Nat) rfl ?_ (wI (by omega))
       refine Ar (o.a % l.length : Nat) rfl ?_ hrm
       refine Ix (o.a % l.length) rfl hua ?_
       refine Go.Vm.Cv (o.b : Nat) rfl ?_ (wI (by omega))
       refine Ar (o.b % l.length : Nat) rfl ?_ hrm
       refine Ix (o.b % l.length) rfl hub ?_
       refine Ar (o.kind % 6 : Nat) rfl ?_ (remN (by decide))
       refine By rfl (fun c1=>?_) fun c1=>?_
       · have c1 : ((o.kind % 6 : Nat) : Int)=1:=c1
         obtain ⟨rfl,hz⟩:=d1 (by omega)
         refine Ce rfl hz ?_
         refine Ce rfl (made_ok (x:=z) (y:=xa)) ?_
         exact Jn (z,n') [] rfl rfl
       refine By rfl (fun c2=>?_) fun c2=>?_
       · have c2 : ((o.kind % 6 : Nat) : Int)=2:=c2
         obtain ⟨rfl,hz⟩:=d2 (by omega)
         refine Ce rfl hz ?_
         refine Ce rfl (made_ok (x:=z) (y:=xa)) ?_
         exact Jn (z,n') [] rfl rfl
       refine By rfl (fun c3=>?_) fun c3=>?_
       · have c3 : ((o.kind % 6 : Nat) : Int)=3:=c3
         obtain ⟨rfl,hz⟩:=d3 (by omega)
         refine Ce rfl hz ?_
         refine Ce rfl (made_ok (x:=z) (y:=xa)) ?_
         exact Jn (z,n') [] rfl rfl
       refine By rfl (fun c4=>?_) fun c4=>?_
       · have c4 : ((o.kind % 6 : Nat) : Int)=4:=c4
         obtain ⟨rfl,hz | ⟨rfl,hz⟩⟩:=d4 (by omega)
         · refine Ce rfl hz ?_
           refine Ce rfl (made_ok (x:=z) (y:=xa)) ?_
           exact Jn (z,n') [] rfl rfl
         · refine Ce rfl hz ?_
           refine Ce rfl (Xw3 (y:=z)) ?_
           exact Jn (z,n') [] rfl rfl
       have c1 : ¬ ((o.kind % 6 : Nat) : Int)=1:=c1
       have c2 : ¬ ((o.kind % 6 : Nat) : Int)=2:=c2
       have c3 : ¬ ((o.kind % 6 : Nat) : Int)=3:=c3
       have c4 : ¬ ((o.kind % 6 : Nat) : Int)=4:=c4
       obtain ⟨e1,e2⟩:=d5 (by omega)
       have q6:=Xi2 (r:=300) (s:=600) ka
       have hsg:=ha.sgn hGr
       refine Ce rfl (Sign_ok hG ha (by omega) (by omega)) ?_
       refine By rfl (fun c5=>?_) fun c5=>?_
       · refine Ce rfl (Neg_ok ha (by omega) (by decide)) ?_
         have hpz : pzN xa=⟨xa.k,xa.t,Tow.neg xa.k xa.a⟩:=if_pos (by rw [←hsg];exact c5)
         rw [hpz] at e1
         refine By rfl (fun c6=>?_) fun c6=>?_
         · have c6 : (n : Int)<3:=c6
           obtain ⟨rfl,hz⟩:=e1 (by omega)
           refine Ar (n+1 : Nat) rfl ?_ (wr (show (n : Int)+1=((n+1 : Nat) : Int) by omega) (by simp only [inK];omega))
           refine Ce rfl hz ?_
           refine Ce rfl (made_ok (x:=z) (y:=⟨xa.k,xa.t,Tow.neg xa.k xa.a⟩)) ?_
           exact Jn (z,n+1) [] rfl rfl
         · have c6 : ¬ (n : Int)<3:=c6
           obtain ⟨rfl,rfl⟩:=e2 (by omega)
           exact Jn (z,n') [] rfl rfl
       · have hpz : pzN xa=xa:=if_neg (by rw [←hsg];exact c5)
         rw [hpz] at e1
         refine By rfl (fun c6=>?_) fun c6=>?_
         · have c6 : (n : Int)<3:=c6
           obtain ⟨rfl,hz⟩:=e1 (by omega)
           refine Ar (n+1 : Nat) rfl ?_ (wr (show (n : Int)+1=((n+1 : Nat) : Int) by omega) (by simp only [inK];omega))
           refine Ce rfl hz ?_
           refine Ce rfl (made_ok (x:=z) (y:=xa)) ?_
           exact Jn (z,n+1) [] rfl rfl
         · have c6 : ¬ (n : Int)<3:=c6
           obtain ⟨rfl,rfl⟩:=e2 (by omega)
           exact Jn (z,n') [] rfl rfl
     · have h4 : ¬ ((o.kind % 6 : Nat) : Int)≠0:=h4
       obtain ⟨rfl,rfl⟩:=hC.1 (.inr (by omega))
       exact Jn (⟨0,(),oQ o⟩,n') [] rfl rfl
   · obtain ⟨rfl,rfl⟩:=Prod.mk.inj hE
     obtain ⟨hn',K,G,S,hG,hS,hq,hall,v,hz⟩:=hB
     have hS3:=W0i hS hn'
     have hGr:=Xag hG
     have kz : z1.k≤3:=hz.le hGr hS3
     refine Yes rfl (by rw [W0n];exact h3) ?_
     refine Ce rfl (long_ok (x:=z1) (W0i kz (by decide))) ?_
     refine By rfl (fun h5=>?_) fun h5=>?_
     · obtain ⟨y,hy,rfl⟩:=hNx.1 ⟨by omega,h5⟩
       obtain ⟨vy,hvy⟩:=hall y (W0l hy)
       refine Ar (l.length - 1 : Nat) rfl ?_ (wr (by rw [W0n];omega) (by simp only [inK];omega))
       refine Ix (l.length - 1) rfl (u:=dN y) (by rw [W1s,hy];rfl) ?_
       refine Ce rfl (Xnu (hm y (W0l hy)).2 hG hS3 hvy (by decide) (by decide)) ?_
       refine ApG ((l++[trF y.k y]).map dN) rfl (by simp) (by simp;omega) ?_
       refine Ar (i+1 : Nat) rfl ?_
       exact Bk (i+1) [(157,3)] rfl (by omega) (by show N - (i+1)<N - i;omega) (by simp only [nx rfl];exact ⟨rfl,rfl,rfl,rfl,rfl⟩)
     · have hsh : shN z1:=by simpa [Xb9,Xaw] using h5
       obtain rfl:=hNx.2 (.inr hsh)
       refine Ce rfl (Xnu hsh hG hS3 (hsh.ok hz kz) (by decide) (by decide)) ?_
       refine ApG ((l++[trF z1.k z1]).map dN) rfl (by simp) (by simp;omega) ?_
       refine Ar (i+1 : Nat) rfl ?_
       exact Bk (i+1) [(157,3)] rfl (by omega) (by show N - (i+1)<N - i;omega) (by simp only [nx rfl];exact ⟨rfl,rfl,rfl,rfl,rfl⟩)
 · have h4 : ¬ (l.length : Int) > 0:=by
    have h4 : ¬ ((l.map dN).length : Int) > 0:=h3
    rwa [W0n] at h4
   clear h3
   obtain ⟨rfl,rfl⟩:=hC.1 (.inl (by omega))
   obtain rfl:=hNx.2 (.inl (by omega))
   refine No rfl (by rw [W0n];exact h4) ?_
   refine Ce rfl (Xnu (Xsz o) hG hS3 (Yfl o G S 300 600 (by decide)) (by decide) (by decide)) ?_
   refine ApG ((l++[trF 0 ⟨0,(),oQ o⟩]).map dN) rfl (by simp) (by simp;omega) ?_
   refine Ar (i+1 : Nat) rfl ?_
   exact Bk (i+1) [(157,3)] rfl (by omega) (by show N - (i+1)<N - i;omega) (by simp only [nx rfl];exact ⟨rfl,rfl,rfl,rfl,rfl⟩)
end Go.Proofs.YtclmecgphleeeaaGreatDoor.R9
namespace Go.Proofs.YtclmecgphleeeaaGreatDoor
open Go Go.Vm Go.Num Go.Tow
theorem Xbl.mono {k : Nat} {t : Tw k} {a b : El k} {z w : Int} (h : Xbm k t) (hle : le k t a b) (i : Xbl k t a z) (j : Xbl k t b w) : z≤w:=by
 by_cases hz : z≤w
 · exact hz
 · exact absurd (le_tr h (le_tr h ((Xba h).2 (W3d.2 (show w+1≤z by omega))) i.1) hle) ((Xtk h).1 j.2)
theorem Xbl.up {K : Nat} {G : Tw K} {ρ : Nat→El K} {k : Nat} {t : Tw k} {a : El k} {z : Int} (hG : Xbm K G) (h : Hom G ρ k t) (f : Xbl k t a z) : Xbl K G (ev G ρ k a) z:=by
 have e : ∀ c : Rat,sgn K G (Tow.add K (ev G ρ k a) (Tow.neg K (Tow.rat K c)))=sgn k t (Tow.add k a (Tow.neg k (Tow.rat k c))):=fun c=>by
  rw [←Xcr hG h,Xc7,Xhq,Xck]
 exact ⟨by have:=f.1;unfold le at *;rw [e];exact this,by rw [e];exact f.2⟩
end Go.Proofs.YtclmecgphleeeaaGreatDoor
namespace Go.Proofs.YtclmecgphleeeaaGreatDoor.P11
open Go Go.Vm Go.Num Go.Tow Go.Proofs.YtclmecgphleeeaaGreatDoor Go.Proofs.YtclmecgphleeeaaGreatDoor.P9 Go.Proofs.YtclmecgphleeeaaGreatDoor.R11 Go.Proofs.YtclmecgphleeeaaGreatDoor.R9
theorem Xsu {ops : List RO} {l : List Nm} {i : Nat} (hB : C0 11 [.d (dRs ops)] (·=.d (dNs l))) (hl : l.length≤24) (hk : ∀ z∈l,z.k≤16) (hi : i<256) : C0 4 [.d (dRs ops),.d (.int .u8 i)] fun v=>∃ (x : Nm) (c : Bool),v=.tup (.pr (.d (dN x)) (.b c))∧x∈n00::l:=by
 refine En Tryz.func4 fun _ _ _=>?_
 refine Ce rfl hB ?_
 refine Go.Vm.Cv (i : Nat) rfl ?_ (wI (by omega))
 refine Ca rfl (R9.At_ok hi (W0i hl (by decide))) fun v hv=>?_
 obtain ⟨z,hz,rfl⟩:=hv
 refine Dw rfl ?_
 refine Ca rfl (R9.Light_ok (x:=z) (by
  rcases W1o.1 hz with rfl | hz
  · exact W1d _
  · exact hk z hz)) fun v hv=>?_
 obtain ⟨c,rfl⟩:=hv
 exact Rt rfl (.tup (.cons (.rf rfl) (.one (.rf rfl) (fun _ _ e=>by cases e) (fun _ _ e=>by cases e)))) ⟨z,c,rfl,hz⟩
section
variable {K : Nat} {G : Tw K} {S : List (El K)} {x y : Nm} {v w : El K}
theorem Ykn (W : Wy G S wR) (hx : NOk G S 300 600 x v) (hy : NOk G S 300 600 y w) : C0 6 [.d (dN x),.d (dN y)] (·=.tup (.pr (.d (.int .i64 (sgn K G (Tow.add K v (Tow.neg K w))))) (.d (.int .i64 0)))):=by
 refine En Tryz.func6 fun _ _ _=>?_
 refine Ca rfl (R9.Sub_ok (r:=300) (p:=1000000) W (hx.mono (W0a _) (by decide)) (hy.mono (W0a _) (by decide)) (by decide)) fun r hr=>?_
 obtain ⟨z,rfl,hz⟩:=hr
 have hk:=hz.le (Xag W.g) W.s
 refine No rfl (by simp) ?_
 refine Ce rfl (R9.Sign_ok W.g hz (by omega) (W0i (W0i (Xi2 hk) (Xcu (show oW 1000000≤oW 4000000000 by unfold oW;omega))) wV)) ?_
 exact RTt rfl (.cons (.rf rfl) Xdo)
theorem Xze (hG : red K G) (hx : NOk G S 300 600 x v) (hy : NOk G S 300 600 y w) {d : Nat} {a b : Int} (h : le K G v w) (ha : Xh7 x d a) (hb : Xh7 y d b) : a≤b:=by
 have hR:=Xag hG
 obtain ⟨ρ,x1,x2⟩:=hx.ex
 obtain ⟨σ,y1,y2⟩:=hy.ex
 have key : ∀ {k : Nat} {t : Tw k} {e : El k} {τ : Nat→El K},Hom G τ k t→ev G τ k (scl k t e ((10 ^ d : Int) : Rat) hf)=scl K G (ev G τ k e) ((10 ^ d : Int) : Rat) hf:=fun hh=>by
  show ev G _ _ (Tow.add _ _ _)=_
  rw [Xc7,Xbd hh,Xck,Xck]
 have ha:=Xbl.up hR x1.h ha
 have hb:=Xbl.up hR y1.h hb
 rw [key x1.h,x2] at ha
 rw [key y1.h,y2] at hb
 refine Xbl.mono hR ?_ ha hb
 have L:=Xa3 K G
 have e : Tow.add K (scl K G w ((10 ^ d : Int) : Rat) hf) (Tow.neg K (scl K G v ((10 ^ d : Int) : Rat) hf))=Tow.mul K G (Tow.add K w (Tow.neg K v)) (Tow.rat K ((10 ^ d : Int) : Rat)):=by
  have h1 : ∀ p q c h : El K,Tow.add K (Tow.add K (Tow.mul K G p c) h) (Tow.neg K (Tow.add K (Tow.mul K G q c) h))=Tow.mul K G (Tow.add K p (Tow.neg K q)) c:=fun p q c h=>(Laws.req L [p,q,c,h] (.add (.add (.mul (.v 0) (.v 2)) (.v 3)) (.neg (.add (.mul (.v 1) (.v 2)) (.v 3)))) (.mul (.add (.v 0) (.neg (.v 1))) (.v 2)) (by decide +kernel))
  exact h1 ..
 unfold le at *
 rw [e,Xe1 hR (Xja d)]
 exact h
theorem Ycn (hR : Xbm x.k x.t) {d : Nat} {a b : Int} (ha : Xbl x.k x.t (scl x.k x.t x.a ((10 ^ d : Int) : Rat) ((0 : Int) : Rat)) a) (hb : Xh7 x d b) : a≤b:=by
 refine Xbl.mono hR ?_ ha hb
 have L:=Xa3 x.k x.t
 have e : Tow.add x.k (scl x.k x.t x.a ((10 ^ d : Int) : Rat) hf) (Tow.neg x.k (scl x.k x.t x.a ((10 ^ d : Int) : Rat) ((0 : Int) : Rat)))=Tow.rat x.k (hf+-((0 : Int) : Rat)):=by
  have h1 : ∀ p h o : El x.k,Tow.add x.k (Tow.add x.k p h) (Tow.neg x.k (Tow.add x.k p o))=Tow.add x.k h (Tow.neg x.k o):=fun p h o=>(Laws.req L [p,h,o] (.add (.add (.v 0) (.v 1)) (.neg (.add (.v 0) (.v 2)))) (.add (.v 1) (.neg (.v 2))) (by decide +kernel))
  rw [Xde,Xei]
  exact h1 ..
 unfold le
 rw [e,Xcw hR]
 decide +kernel
end
open Go Go.Vm Go.Num Go.Tow Go.Proofs.YtclmecgphleeeaaGreatDoor Go.Proofs.YtclmecgphleeeaaGreatDoor.P9 Go.Proofs.YtclmecgphleeeaaGreatDoor.R11 Go.Proofs.YtclmecgphleeeaaGreatDoor.R9
section
variable {K : Nat} {G : Tw K} {S : List (El K)} {x y : Nm} {v w : El K}
theorem Xas (a b : Int) : (Xa1 a b=-1∧a<b)∨(Xa1 a b=0∧a=b)∨(Xa1 a b=1∧b<a):=by
 unfold Xa1
 split
 · exact .inl ⟨rfl,by assumption⟩
 · split
   · exact .inr (.inr ⟨rfl,by assumption⟩)
   · exact .inr (.inl ⟨rfl,by omega⟩)
theorem Ybp (hG : red K G) (hx : NOk G S 300 600 x v) (hy : NOk G S 300 600 y w) {d : Nat} {a b : Int} (ha : Xh7 x d a) (hb : Xh7 y d b) :
 0≤Xa1 a b*sgn K G (Tow.add K v (Tow.neg K w))∧(sgn K G (Tow.add K v (Tow.neg K w))=0→Xa1 a b=0):=by
 have hR:=Xag hG
 have Sg:=Xat hR
 have L:=Xa3 K G
 have e : sgn K G (Tow.add K w (Tow.neg K v))=- sgn K G (Tow.add K v (Tow.neg K w)):=by
  rw [←Sg.sn]
  have h1 : ∀ p q : El K,Tow.add K q (Tow.neg K p)=Tow.neg K (Tow.add K p (Tow.neg K q)):=fun p q=>(Laws.req L [p,q] (.add (.v 1) (.neg (.v 0))) (.neg (.add (.v 0) (.neg (.v 1)))) (by decide +kernel))
  rw [h1]
 have l1 : sgn K G (Tow.add K v (Tow.neg K w))≤0→a≤b:=fun h=>Xze hG hx hy (show 0≤sgn K G (Tow.add K w (Tow.neg K v)) by rw [e];omega) ha hb
 have l2 : 0≤sgn K G (Tow.add K v (Tow.neg K w))→b≤a:=fun h=>Xze hG hy hx h hb ha
 rcases Xcf G (Tow.add K v (Tow.neg K w)) with h | h | h <;> rw [h] at l1 l2 ⊢ <;> rcases Xas a b with ⟨c,h2⟩ | ⟨c,h2⟩ | ⟨c,h2⟩ <;> rw [c] <;> first
  | exact ⟨by decide,by decide⟩
  | exact absurd (l1 (by decide)) (by omega)
  | exact absurd (l2 (by decide)) (by omega)
end
theorem DecimalOrder_ok {ops : List RO} {i j d : Nat} (hi : i<256) (hj : j<256) (hd : d<256) : C0 3 [.d (dRs ops),.d (dU8 i j),.d (.int .u8 d)] (·=.b true):=by
 obtain ⟨l,hB,hl,ht,K,G,S,hG,hS,hq,hall,_⟩:=Xyl ops
 have W:=hq.wd hG hS
 have mem : ∀ {z : Nm},z∈n00::l→Pk z∧∃ v,NOk G S 300 600 z v:=fun {z} hz=>by
  rcases W1o.1 hz with rfl | hz
  · exact ⟨Xvp Ylt (by decide),Tow.rat K ((0 : Int) : Rat),⟨fun _=>Tow.zero _,⟨trivial,trivial,fun i hi=>absurd hi (W5h _)⟩,rfl⟩,trivial,(Sz.rat 0 (x:=((0 : Int) : Rat)) (p:=1) ⟨show ((0 : Int) : Rat).num.natAbs<2 ^ 1 by decide +kernel,show (((0 : Int) : Rat).den : Int).natAbs<2 ^ 1 by decide +kernel⟩).mono (by decide)⟩
  · obtain ⟨v,hv⟩:=hall z hz
    exact ⟨Yhv hG hS hq hv (ht z hz).2,v,hv⟩
 have hk : ∀ z∈l,z.k≤16:=fun z hz=>W0i (mem (W0z _ hz)).1.k (by decide)
 refine En Tryz.func3 fun _ _ _=>?_
 refine Ia 0 rfl (by decide) ?_
 refine Ca rfl (Xsu hB hl hk hi) fun v hv=>?_
 obtain ⟨x,c,rfl,hx⟩:=hv
 refine Ia 1 rfl (by decide) ?_
 refine Ca rfl (Xsu hB hl hk hj) fun v hv=>?_
 obtain ⟨y,c',rfl,hy⟩:=hv
 obtain ⟨Hx,vx,nx⟩:=mem hx
 obtain ⟨Hy,vy,ny⟩:=mem hy
 refine Ce rfl Xgm ?_
 refine No rfl (by simp) ?_
 refine By rfl (fun h=>?_) fun h=>?_
 · refine Ce rfl Xgm ?_
   exact R0
 refine By rfl (fun h=>?_) fun h=>?_
 · refine Ce rfl Xgm ?_
   exact R0
 refine By rfl (fun h=>?_) fun h=>?_
 · refine Ce rfl Xgm ?_
   exact R0
 have h60 : d≤60:=by omega
 refine Ce rfl (Ykn W nx ny) ?_
 refine No rfl (by decide) ?_
 refine Go.Vm.Cv (d : Nat) rfl ?_ (wI (by omega))
 refine Ca rfl (P11.Round_ok Hx h60) fun v hv=>?_
 obtain ⟨a,rfl,ha,hal⟩:=hv
 refine Go.Vm.Cv (d : Nat) rfl ?_ (wI (by omega))
 refine Ca rfl (P11.Round_ok Hy h60) fun v hv=>?_
 obtain ⟨b,rfl,hb,hbl⟩:=hv
 refine Go.Vm.Cv (d : Nat) rfl ?_ (wI (by omega))
 refine Ca rfl (P11.Floor_ok Hx h60) fun v hv=>?_
 obtain ⟨f,rfl,hf,hfl⟩:=hv
 obtain ⟨o1,o2⟩:=Ybp hG nx ny ha hb
 have o3:=Ycn Hx.re hf ha
 refine No rfl (by decide) ?_
 refine No rfl (by decide) ?_
 refine No rfl (by decide) ?_
 refine Ce rfl (R1.Cmp_ok (by omega) (by omega)) ?_
 obtain ⟨s,hs⟩ : ∃ s,sgn K G (Tow.add K vx (Tow.neg K vy))=s:=⟨_,rfl⟩
 have st:=Xcf G (Tow.add K vx (Tow.neg K vy))
 have ct:=Xas a b
 refine Ar (Xa1 a b*sgn K G (Tow.add K vx (Tow.neg K vy)) : Int) rfl ?_ (wr rfl (by simp only [inK];rw [hs] at st ⊢;rcases st with h | h | h <;> rw [h] <;> rcases ct with ⟨c,_⟩ | ⟨c,_⟩ | ⟨c,_⟩ <;> rw [c] <;> decide))
 refine Yes rfl o1 ?_
 refine By rfl (fun h=>?_) fun h=>?_
 · refine Ce rfl (R1.Cmp_ok (by omega) (by omega)) ?_
   exact Rt rfl (.one (.rf rfl) rfl rfl) (by rw [dcT (by rcases Xas f a with ⟨c,_⟩ | ⟨c,_⟩ | ⟨c,h⟩ <;> omega)])
 · refine Yes rfl (o2 (W3x.1 h)) ?_
   refine Ce rfl (R1.Cmp_ok (by omega) (by omega)) ?_
   exact Rt rfl (.one (.rf rfl) rfl rfl) (by rw [dcT (by rcases Xas f a with ⟨c,_⟩ | ⟨c,_⟩ | ⟨c,h⟩ <;> omega)])
end Go.Proofs.YtclmecgphleeeaaGreatDoor.P11

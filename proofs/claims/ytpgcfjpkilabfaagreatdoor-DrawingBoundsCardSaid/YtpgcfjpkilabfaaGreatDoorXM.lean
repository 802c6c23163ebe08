/- part 3 -/
import Derived.Test.YtpgcfjpkilabfaaGreatDoorXL
import Derived.RangeFuncBox
import Derived.RangeFuncLeaves
import Derived.Shelf.Abstract
import Derived.WalkKit
import Derived.OwnWalkIn
import Derived.TacticsInMore
import Derived.LoopNIn
import Derived.LoopIn
set_option linter.unusedVariables false
set_option linter.unusedSimpArgs false
set_option maxRecDepth 10000
namespace Go.Vm
open Go
section
section
variable {c : Cx} {s : St}
noncomputable def nxT (tb : Nat→Option TI) (n : Nat) (id : Option Nat) (s : St) : Option (List (Nat × Bool) × Code × List Kt × Env × Hpl):=match (match id with
 | some id=>runT tb n id 1000 s
 | none=>runN tb n 1000 s) with
 | .j G (.c x::K) E H=>some (G,x,K,E,H)
 | _=>none
def AtJ {α : Type} (E' : α→Env) (H' : α→Hpl) (I : α→Prop) (s : S) : Prop:=∃ x,s=sem (E' x) (H' x)∧I x
theorem Cu {α : Type} (id : Option Nat) (E' : α→Env) (H' : α→Hpl) (I : α→Prop) {G : List (Nat × Bool)} {x : Code} {K : List Kt} {E : Env} {H : Hpl} (h : nxT c.tb c.n id s=some (G,x,K,E,H))
 (k1 : StP c (.j G (.c x::.l (AtJ E' H' I)::K) E H)) (k2 : ∀ y,I y→StP c (.j [] K (E' y) (H' y))) : StP c s:=by
 have key : StP c (.j G (.c x::K) E H):=J.cut (AtJ E' H' I) k1 (fun s hs=>by obtain ⟨y,rfl,hy⟩:=hs;exact k2 y hy)
 unfold nxT at h
 cases id with
 | none =>
  simp only at h
  split at h <;> cases h
  rename_i hr
  exact go 1000 hr key
 | some id =>
  simp only at h
  split at h <;> cases h
  rename_i hr
  exact Xhl 1000 (by rw [hr];exact key)
theorem Jn {α : Type} {E' : α→Env} {H' : α→Hpl} {I : α→Prop} {K : List Kt} {E : Env} {H : Hpl} (x : α) (r : List (Nat × Nat)) (h : nxB c.tb c.n s=some (AtJ E' H' I,K,E,H)) (hI : I x) (hf : Ykl r E (E' x) H (H' x):=by exact ⟨rfl,rfl,rfl,rfl,rfl⟩) : StP c s:=by
 unfold nxB at h
 split at h <;> cases h
 rename_i hr
 exact go 1000 hr (Ylq hf (J.at' ⟨x,rfl,hI⟩))
end
end
section
def Xof (θ : Loc) (H0 : Hpl) (b : Nat) : Prop:=∃ o x,look H0 o=some x∧x.live=true∧(θ o).1=some b
def okH (H0 H' : Hpl) : Bool:=(H0.all fun x=>Xb9 H' x.1) && H'.all fun x=>Xb9 H0 x.1 || Nat.beq x.1 1000000
def Ykj (W0 : GW) (θ0 : Loc) (H0 : Hpl) (Post : AV→Hpl→Prop) (e : Ending) (w' : World) : Prop :=
 ∃ W' θ' v u H',e=.returned u∧W'.w=w'∧Fm W0 W' (Xof θ0 H0)∧Obs W' θ' (fun b=>W0.size≤b∨Xof θ0 H0 b) (look H')∧AV.V W' θ' v u∧(∀ i,v.ids i→∃ y,look H' i=some y)∧(∀ i y,look H0 i=some y→θ' i=θ0 i)∧okH H0 H'=true∧Post v H'
def CW (P : Program) [Gb P] (f : FuncId) (args : List AV) (H0 : Hpl) (Post : AV→Hpl→Prop) : Prop:=Ymi P f∧∀ W θ vs,Gb.g P W→Obs W θ (fun _=>True) (look H0)→Xii W θ args vs→Calls P f vs.toArray W.w (Ykj W θ H0 Post)
theorem Ykd {α : Type _} {H : List (Nat × α)} {i : Nat} : Xb9 H i=true↔∃ y,look H i=some y:=by
 unfold Xb9;split
 · rename_i y hy;simp [hy]
 · rename_i hy;simp [hy]
theorem Xbi {α : Type _} {H : List (Nat × α)} {i : Nat} (h : Xb9 H i=false) : look H i=none:=by
 unfold Xb9 at h;split at h <;> first | assumption | cases h
theorem Xwt {W : GW} {θ : Loc} : ∀ {asx : List AV} {vs : List Value} {i t : Nat} {v : AV},Xii W θ asx vs→Xzt i asx t=some v→i≤t∧∃ u,vs[t - i]?=some u∧AV.V W θ v u
 | [],[],i,t,v,_,h=>by simp [Xzt] at h
 | a::asx,u::vs,i,t,v,ha,h=>by
  rcases Xae h with ⟨e1,e2⟩ | ⟨e1,e2⟩
  · subst e1;subst e2;exact ⟨W0c _,u,by simp,ha.1⟩
  · obtain ⟨h1,w,h2,h3⟩:=Xwt ha.2 e2
    exact ⟨by omega,w,by rw [show t - i=(t - (i+1))+1 from by omega];simpa using h2,h3⟩
 | [],_::_,_,_,_,h,_=>h.elim
 | _::_,[],_,_,_,h,_=>h.elim
abbrev cxW (P : Program) (gb : Gb P) (t : Tab P) (m : Mx P) (hpr : ∀ T ti,t.tb T=some ti→∀ a c,ti.z≠.pr a c) (n : Nat) (hn : n≤1000000) (fn : Func) (W : GW) (θ : Loc) (H0 : Hpl) (Post : AV→Hpl→Prop) (hg : gb.g W) : Cx:=⟨P,gb,t.tb,fun T ti h=>⟨t.ok T ti h,hpr T ti h⟩,m,n,hn,W,Xof θ H0,θ,bodyPost P fn (Ykj W θ H0 Post),hg⟩
class WkW (c : Cx) (fn : outParam Func) (H0 : outParam Hpl) (Post : outParam (AV→Hpl→Prop)) : Prop where
 x : c.X=Xof c.θ0 H0
 f : c.fin=bodyPost c.P fn (Ykj c.W0 c.θ0 H0 Post)
instance {P gb t m hpr n hn fn W θ H0 Post hg} : WkW (cxW P gb t m hpr n hn fn W θ H0 Post hg) fn H0 Post:=⟨rfl,rfl⟩
theorem EnW {P : Program} [gb : Gb P] [t : Tab P] [hp : Npr P] [m : Mx P] {f n : Nat} {fn : Func} {x : Code} {args : List AV} {H0 : Hpl} {Post : AV → Hpl → Prop} (hf : P.funcs[f]? = some fn) (h : ∀ W θ hg hn, StP (cxW P gb t m hp.h n hn fn W θ H0 Post hg) (.j [] [.c x] (Yft 0 args) H0)) (hname : (fn.name == "runtime.NumGoroutine") = false := by exact rfl) (hb : fn.body = some x := by exact rfl)
 (hN : fn.ntmps=n:=by exact rfl) (hl : (Nat.ble args.length n && Nat.ble n 1000000 && Xms (Yft 0 args) H0)=true:=by exact rfl) : CW P f args H0 Post:=by
 refine ⟨⟨fn,hf,hname,by rw [hb];rfl⟩,fun W θ vs hg hO ha=>calls_of_wp hf hb ?_⟩
 simp only [W0g] at hl
 obtain ⟨⟨hl1,hl2⟩,hl3⟩:=hl
 have hl1:=W1o hl1
 have hlen:=ha.len
 have hc:=Xmr hl3
 have h1 : J _ _ (sem _ _):=h W θ hg (W1o hl2)
 refine wp_mono (h1 _ W.w ⟨_,W,θ,rfl,⟨Fm.refl W _,⟨rfl,by simp [hN];omega,fun t v ht=>?_⟩,⟨hO.r,fun o x b h1 h2 h3=>.inr ⟨o,x,h1,h2,h3⟩,hO.dis,hO.ids⟩,hc.1⟩,fun _ _=>rfl,rfl⟩) fun e a w h=>by cases e <;> exact h
 have ht : Xzt 0 args t=some v:=by rw [Xk0];exact ht
 obtain ⟨_,u,h2,h3⟩:=Xwt ha ht
 rw [W6r] at h2
 have hlt:=Xbk h2
 rw [W0b hlt] at h2
 injection h2 with h2
 simp only [Array.getD]
 rw [dif_pos (by simp;omega)]
 simp [W6n,hlt,h2]
 exact h3
section
variable {c : Cx} {s : St} {p : Pl}
theorem Yc3 {W0 : GW} {X : Nat→Prop} {n : Nat} {E : Env} {H : Hpl} {a : Act} {W : GW} {θ : Loc} {o o' : Nat} (hn : look H o'=none) (hs : Sat W0 X n (sem E H) a W θ) : Sat W0 X n (sem (Yc4 o o' E) (Xtz o o' H)) a W (rnθ o o' θ):=by
 have hdom : ∀ {i y},look H i=some y→i≠o':=fun h e=>by rw [e,hn] at h;cases h
 have hni : ∀ {v : AV},(∀ i,v.ids i→∃ y,look H i=some y)→¬ v.ids o':=fun h hi=>by obtain ⟨y,hy⟩:=h o' hi;rw [hn] at hy;cases hy
 refine ⟨hs.fm,⟨hs.rel.defers,hs.rel.size,fun t v ht=>?_⟩,⟨fun i x hx=>?_,fun i x b hx hl hb=>?_,fun i j x x' b hx hx' hl hl' h1 h2=>?_,fun i x q hx hq=>?_⟩,fun t v i ht hi=>?_⟩
 · obtain ⟨u,h1,rfl⟩:=Xd3 ht
   exact Yg7 (hni fun i hi=>hs.ids t u i h1 hi) (hs.rel.has t u h1)
 · obtain ⟨j,y,h1,rfl,rfl⟩:=Xbh hn hx
   exact Ybc (hdom h1) (fun hi=>by obtain ⟨z,hz⟩:=hs.obs.ids j y o' h1 hi;have hz : look H o'=some z:=hz;rw [hn] at hz;cases hz) (hs.obs.r j y h1)
 · obtain ⟨j,y,h1,rfl,rfl⟩:=Xbh hn hx
   rw [Xaz (hdom h1)] at hb
   exact hs.obs.new j y b h1 (by cases y <;> first | rfl | cases hl) hb
 · obtain ⟨q,y,k1,rfl,rfl⟩:=Xbh hn hx
   obtain ⟨q',y',k1',rfl,rfl⟩:=Xbh hn hx'
   rw [Xaz (hdom k1)] at h1
   rw [Xaz (hdom k1')] at h2
   rw [hs.obs.dis q q' y y' b k1 k1' (by cases y <;> first | rfl | cases hl) (by cases y' <;> first | rfl | cases hl') h1 h2]
 · obtain ⟨j,y,h1,rfl,rfl⟩:=Xbh hn hx
   cases y with
   | var a =>
    obtain ⟨r,h2,rfl⟩:=Xj4 (a:=a) hq
    obtain ⟨z,hz⟩:=hs.obs.ids j _ r h1 h2
    exact Xcj hn hz
   | _=>exact hq.elim
 · obtain ⟨u,h1,rfl⟩:=Xd3 ht
   obtain ⟨r,h2,rfl⟩:=Xj4 hi
   obtain ⟨z,hz⟩:=hs.ids t u r h1 h2
   exact Xcj hn hz
def okN : List (Nat × Nat)→Hpl→Bool
 | [],_=>true
 | (o,o')::r,H=>!Xb9 H o' && okN r (Xtz o o' H)
theorem Ya3 {W0 : GW} {X : Nat→Prop} {n : Nat} {a : Act} {W : GW} : ∀ {r : List (Nat × Nat)} {E : Env} {H : Hpl} {θ : Loc},okN r H=true→Sat W0 X n (sem E H) a W θ→∃ θ',Sat W0 X n (sem (rnE r E) (rnH r H)) a W θ'∧∀ i,Xb9 (r.map fun x=>(x.2,x.1)) i=false→θ' i=θ i
 | [],E,H,θ,_,hs=>⟨θ,hs,fun _ _=>rfl⟩
 | (o,o')::r,E,H,θ,h,hs=>by
  simp only [okN,W0g,W1s] at h
  obtain ⟨θ',h1,h2⟩:=Ya3 h.2 (Yc3 (Xbi h.1) hs)
  refine ⟨θ',h1,fun i hi=>?_⟩
  have hne : Nat.beq i o'=false∧Xb9 (r.map fun x=>(x.2,x.1)) i=false:=by
   simp only [Xb9,W3k,look] at hi ⊢
   cases e : Nat.beq i o' with
   | true=>rw [e] at hi;cases hi
   | false=>rw [e] at hi;exact ⟨rfl,hi⟩
  rw [h2 i hne.2]
  unfold rnθ
  rw [if_neg fun e=>by rw [e] at hne;simp at hne]
noncomputable def nxW (tb : Nat→Option TI) (n : Nat) (r : List (Nat × Nat)) (rs : List ResultVar) (s : St) : Option (AV × Hpl):=match runN tb n 1000 s with
 | .j _ (.c .ret::_) E H=>match Xxa tb (sem (rnE r E) (rnH r H)) rs with
  | some v=>some (v,H)
  | none=>none
 | .j _ [] E H=>match Xxa tb (sem (rnE r E) (rnH r H)) rs with
  | some v=>some (v,H)
  | none=>none
 | _=>none
theorem Xqr {fn : Func} {H0 H' : Hpl} {Post : AV→Hpl→Prop} (hX : c.X=Xof c.θ0 H0) {E : Env} {H : Hpl} {r : List (Nat × Nat)} {v v' : AV} (hr : Xxa c.tb (sem (rnE r E) (rnH r H)) fn.results.toList=some v) (hf : FitR (look (rnH r H)) H' v v') (hq : Post v' H')
 (hH : Xsf (rnH r H) H') (hk : (okN r H && okH H0 H' && (H0.all fun x=>Nat.ble 1000000 x.1 && !Xb9 (r.map fun x=>(x.2,x.1)) x.1) && H'.all fun x=>Xhz H' x.2)=true) {a : Act} {w : World} (h : c.Nx (fun s'=>s'=sem E H) a w) :
 a.defers=[]∧∃ u,(results fn a.tmps).run c.P w=.ok u w∧Ykj c.W0 c.θ0 H0 Post (.returned u) w:=by
 obtain ⟨s',W,θ,rfl,hs,hθ,rfl⟩:=h
 simp only [W0g] at hk
 obtain ⟨⟨⟨k1,k2⟩,k3⟩,k4⟩:=hk
 obtain ⟨θ',hs',hθ'⟩:=Ya3 k1 hs
 obtain ⟨u,hu,hv⟩:=Xpl c.hT hs' hr
 have hfm:=hs'.fm
 have hobs:=hs'.obs
 refine ⟨hs'.rel.defers,u,hu,?_⟩
 have hsub : ∀ {o x},look H' o=some x→look (rnH r H) o=some x:=fun h=>Xjv hH h
 let W' : GW:=⟨W.w,fun b i=>W.A b i∧((b<c.W0.size∧¬ c.X b)∨∃ o x,look H' o=some x∧x.live=true∧(θ' o).1=some b),fun b i h=>W.hA b i h.1⟩
 have hle : LeF W W':=fun b i x hx=>⟨hx.1,fun hA=>hx.2 hA.1⟩
 have E : Exi W W' (fun b=>c.W0.size≤b∨c.X b) θ' (look (rnH r H)) H':=⟨hobs,hle,fun o x b ho hl hb hk i y hy=>⟨hy,fun hA=>by
  rcases hA.2 with ⟨h1,h2⟩ | ⟨o2,x2,h1,h2,h3⟩
  · exact (hobs.new o x b ho hl hb).elim (fun h=>absurd h1 (W5s.2 h)) h2
  · have:=hobs.dis o o2 x x2 b ho (hsub h1) hl h2 hb h3
    subst this
    rw [Xbi hk] at h1;cases h1⟩⟩
 obtain ⟨f1,f2⟩:=Yd5 E hf hv
 refine ⟨W',θ',v',u,H',rfl,rfl,?_,?_,f1,f2,fun i y hi=>?_,k2,hq⟩
 · rw [←hX]
   exact ⟨hfm.os,hfm.out,hfm.tape,hfm.size,hfm.same,fun b hb hx i=>⟨fun h=>(hfm.A b hb hx i).1 h.1,fun h=>⟨(hfm.A b hb hx i).2 h,.inl ⟨hb,hx⟩⟩⟩,hfm.le.trans hle⟩
 · rw [←hX]
   refine ⟨fun o x hx=>(hobs.r o x (hsub hx)).keep hle rfl (fun _ _=>rfl) fun hl b hb=>⟨rfl,fun i hA=>⟨hA,.inr ⟨o,x,hx,hl,hb⟩⟩⟩,fun o x b hx=>hobs.new o x b (hsub hx),fun o o' x x' b hx hx'=>hobs.dis o o' x x' b (hsub hx) (hsub hx'),fun o x i hx hi=>?_⟩
   have:=W1m.1 k4 _ (Xa9 hx)
   cases x with
   | var a=>exact Xfl (a:=a) this i hi
   | _=>exact hi.elim
 · have:=W1m.1 k3 _ (Xa9 hi)
   simp only [W0g,W1s] at this
   rw [hθ' i this.2]
   exact hθ i (W1o this.1)
theorem Rw {fn : Func} {H0 : Hpl} {Post : AV→Hpl→Prop} [w : WkW c fn H0 Post] (r : List (Nat × Nat)) (H' : Hpl) {v v' : AV} {H : Hpl} (h : nxW c.tb c.n r fn.results.toList s=some (v,H)) (hf : FitR (look (rnH r H)) H' v v') (hq : Post v' H')
 (hH : Xsf (rnH r H) H':=by exact rfl) (hk : (okN r H && okH H0 H' && (H0.all fun x=>Nat.ble 1000000 x.1 && !Xb9 (r.map fun x=>(x.2,x.1)) x.1) && H'.all fun x=>Xhz H' x.2)=true:=by exact rfl) : StP c s:=by
 unfold nxW at h
 split at h <;> try cases h
 · rename_i hr
   split at h <;> cases h
   rename_i hv
   exact go 1000 hr (J.ret fun a w' h=>by rw [w.f];exact Xqr w.x hv hf hq hH hk h)
 · rename_i hr
   split at h <;> cases h
   rename_i hv
   exact go 1000 hr (fun a w' h=>by show c.fin .normal a w';rw [w.f];exact Xqr w.x hv hf hq hH hk h)
end
def AV.rnf (ρ : Nat→Nat) : AV→AV
 | .st a=>.st (a.rnf ρ)
 | .pr a c=>.pr (a.rnf ρ) (c.rnf ρ)
 | .tup a=>.tup (a.rnf ρ)
 | .fm f a=>.fm f (a.rnf ρ)
 | .ptr i f=>.ptr (ρ i) f
 | .own i sz l n=>.own (ρ i) sz l n
 | .ow3 i sz l n=>.ow3 (ρ i) sz l n
 | .gr i sz xs=>.gr (ρ i) sz xs
 | .el i sz j f=>.el (ρ i) sz j f
 | .fn f i=>.fn f (ρ i)
 | .ap i n=>.ap (ρ i) n
 | a=>a
def Ob.rnf (ρ : Nat→Nat) : Ob→Ob
 | .var a=>.var (a.rnf ρ)
 | x=>x
def rnL : List (Nat × Nat)→Nat→Nat
 | [],i=>i
 | (o,o')::r,i=>match Nat.beq i o with
  | true=>o'
  | false=>rnL r i
def rfH (ρ : Nat→Nat) (H : Hpl) : Hpl:=H.map fun x=>(ρ x.1,x.2.rnf ρ)
theorem Yg4 {W : GW} {θ : Loc} {ρ : Nat→Nat} : ∀ {a : AV} {cs : List Value},AV.C W θ (a.rnf ρ) cs↔AV.C W (fun i=>θ (ρ i)) a cs:=by
 intro a
 induction a with
 | st a ih=>exact ih
 | pr a c iha ihc=>intro cs;simp only [AV.rnf,AV.C,iha,ihc]
 | fm f a ih=>intro cs;simp only [AV.rnf,AV.C,ih]
 | _=>intro cs;exact W3j
theorem Yg3 {ρ : Nat→Nat} (a : AV) : (a.rnf ρ).ag=a.ag:=by cases a <;> rfl
theorem Xtw {W : GW} {θ : Loc} {ρ : Nat→Nat} {a : AV} {v : Value} : AV.V1 W θ (a.rnf ρ) v↔AV.V1 W (fun i=>θ (ρ i)) a v:=by
 unfold AV.V1;simp only [Yg4,Yg3]
theorem Yk2 {W : GW} {θ : Loc} {ρ : Nat→Nat} : ∀ {a : AV} {vs : List Value},AV.T W θ (a.rnf ρ) vs↔AV.T W (fun i=>θ (ρ i)) a vs:=by
 intro a
 induction a with
 | pr a c _ ih =>
  intro vs
  match vs with
  | v::vs=>simp only [AV.rnf,AV.T,Xtw,ih]
  | []=>exact W3j
 | un =>
  intro vs
  match vs with
  | []=>exact W3j
  | [v]=>exact ⟨fun ⟨_,h,_⟩=>h.elim,fun ⟨_,h,_⟩=>h.elim⟩
  | _::_::_=>exact W3j
 | _ =>
  intro vs
  match vs with
  | []=>exact W3j
  | [v]=>exact Xtw
  | _::_::_=>exact W3j
theorem Ynv {W : GW} {θ : Loc} {ρ : Nat→Nat} {a : AV} {v : Value} : AV.V W θ (a.rnf ρ) v↔AV.V W (fun i=>θ (ρ i)) a v:=by
 cases a with
 | tup a=>simp only [AV.rnf,AV.V,Yk2]
 | un=>exact W3j
 | _=>exact Xtw
theorem Yk1 {ρ : Nat→Nat} {i : Nat} : ∀ {a : AV},(a.rnf ρ).ids i↔∃ j,a.ids j∧i=ρ j:=by
 intro a
 induction a with
 | st a ih=>exact ih
 | tup a ih=>exact ih
 | fm f a ih=>exact ih
 | pr a c iha ihc =>
  simp only [AV.rnf,AV.ids,iha,ihc]
  exact ⟨fun h=>h.elim (fun ⟨j,h1,h2⟩=>⟨j,.inl h1,h2⟩) fun ⟨j,h1,h2⟩=>⟨j,.inr h1,h2⟩,fun ⟨j,h1,h2⟩=>h1.elim (fun h=>.inl ⟨j,h,h2⟩) fun h=>.inr ⟨j,h,h2⟩⟩
 | ptr o f=>exact ⟨fun h=>⟨o,rfl,h⟩,fun ⟨j,h1,h2⟩=>by rw [show j=o from h1] at h2;exact h2⟩
 | own o _ _ _=>exact ⟨fun h=>⟨o,rfl,h⟩,fun ⟨j,h1,h2⟩=>by rw [show j=o from h1] at h2;exact h2⟩
 | ow3 o _ _ _=>exact ⟨fun h=>⟨o,rfl,h⟩,fun ⟨j,h1,h2⟩=>by rw [show j=o from h1] at h2;exact h2⟩
 | gr o _ _=>exact ⟨fun h=>⟨o,rfl,h⟩,fun ⟨j,h1,h2⟩=>by rw [show j=o from h1] at h2;exact h2⟩
 | el o _ _ _=>exact ⟨fun h=>⟨o,rfl,h⟩,fun ⟨j,h1,h2⟩=>by rw [show j=o from h1] at h2;exact h2⟩
 | fn _ o=>exact ⟨fun h=>⟨o,rfl,h⟩,fun ⟨j,h1,h2⟩=>by rw [show j=o from h1] at h2;exact h2⟩
 | ap o _=>exact ⟨fun h=>⟨o,rfl,h⟩,fun ⟨j,h1,h2⟩=>by rw [show j=o from h1] at h2;exact h2⟩
 | _=>exact ⟨fun h=>h.elim,fun ⟨j,h,_⟩=>h.elim⟩
theorem Ynw {W : GW} {θ : Loc} {ρ : Nat→Nat} {o : Nat} {x : Ob} : (x.rnf ρ).R W θ (ρ o)↔x.R W (fun i=>θ (ρ i)) o:=by
 cases x with
 | var a=>simp only [Ob.rnf,Ob.R,Yg4]
 | _=>exact W3j
theorem Xdk {ρ : Nat→Nat} (x : Ob) : (x.rnf ρ).live=x.live:=by cases x <;> rfl
theorem Xqf {ρ : Nat→Nat} : ∀ {H : Hpl} {j : Nat} {x : Ob},(∀ a b,Xb9 H a=true→Xb9 H b=true→ρ a=ρ b→a=b)→look (rfH ρ H) j=some x→∃ i y,look H i=some y∧j=ρ i∧x=y.rnf ρ
 | [],_,_,_,h=>by simp [rfH,look] at h
 | (s,w)::H,j,x,hi,h=>by
  simp only [rfH,W3k,look] at h
  split at h
  · rename_i hb
    injection h with h
    exact ⟨s,w,by simp [look],W0f hb,h.symm⟩
  · rename_i hb
    have hsub : ∀ a,Xb9 H a=true→Xb9 ((s,w)::H) a=true:=fun a ha=>by
     simp only [Xb9,look] at ha ⊢
     cases Nat.beq a s <;> first | exact ha | rfl
    obtain ⟨i,y,h1,h2,h3⟩:=Xqf (fun a b ha hb=>hi a b (hsub a ha) (hsub b hb)) h
    refine ⟨i,y,?_,h2,h3⟩
    have : i≠s:=fun e=>by subst e;rw [h2] at hb;simp at hb
    simp only [look,Ybh this];exact h1
theorem Xci {ρ : Nat→Nat} : ∀ {H : Hpl} {i : Nat} {y : Ob},look H i=some y→∃ x,look (rfH ρ H) (ρ i)=some x
 | [],_,_,h=>by simp [look] at h
 | (s,w)::H,i,y,h=>by
  simp only [rfH,W3k,look]
  by_cases e : i=s
  · subst e;exact ⟨w.rnf ρ,by simp⟩
  · simp only [look,Ybh e] at h
    obtain ⟨x,hx⟩:=Xci h
    split
    · exact ⟨_,rfl⟩
    · exact ⟨x,hx⟩
theorem Xc7 {g : Hp} : ∀ {l : List (Nat × Ob)} {o : Nat},Xbw g l o=match look l o with | some x=>some x | none=>g o
 | [],_=>rfl
 | (o',x)::l,o=>by
  simp only [Xbw,upd,look]
  cases Nat.beq o o' with
  | true=>rfl
  | false=>exact Xc7
theorem Xpk {W : GW} {θ : Loc} {ρ : Nat→Nat} : ∀ {args : List AV} {vs : List Value},Xii W θ (args.map (AV.rnf ρ)) vs→Xii W (fun i=>θ (ρ i)) args vs
 | [],[],_=>trivial
 | [],_::_,h=>h.elim
 | _::_,[],h=>h.elim
 | _::_,_::_,h=>⟨Ynv.1 h.1,Xpk h.2⟩
theorem CW.cs {P : Program} [Gb P] {f : FuncId} {args : List AV} {H0 : Hpl} {Post : AV→Hpl→Prop} (h : CW P f args H0 Post) (r : List (Nat × Nat)) (d : Nat) {g : Hp} (hd : d<1000000) (hgd : g d=none) (hH : ∀ o x,look H0 o=some x→g (rnL r o)=some (x.rnf (rnL r))) (h0 : Xb9 H0 1000000=false)
 (hinj : ∀ a b,Xb9 H0 a=true→Xb9 H0 b=true→rnL r a=rnL r b→a=b) (hids : ∀ a∈args,Xc2 H0 a=true) (hcl : (H0.all fun x=>Xhz H0 x.2)=true) :
 CS P f (args.map (AV.rnf (rnL r))) g fun v g'=>∃ v0 H',okH H0 H'=true∧Post v0 H'∧v=v0.rnf (rnL ((1000000,d)::r))∧g'=Xbw g (rfH (rnL ((1000000,d)::r)) H'):=by
 refine ⟨h.1,fun N W θ vs hg hO hN _ ha=>?_⟩
 have hl : ∀ {o x},look H0 o=some x→g (rnL r o)=some (x.rnf (rnL r)):=fun h=>hH _ _ h
 have hO0 : Obs W (fun i=>θ (rnL r i)) (fun _=>True) (look H0):=by
  refine ⟨fun o x hx=>Ynw.1 (hO.r _ _ (hl hx)),fun _ _ _ _ _ _=>trivial,fun o o' x x' b hx hx' k k' b1 b2=>?_,fun o x i hx hi=>?_⟩
  · exact hinj o o' (Ykd.2 ⟨x,hx⟩) (Ykd.2 ⟨x',hx'⟩) (hO.dis _ _ _ _ b (hl hx) (hl hx') (by rw [Xdk];exact k) (by rw [Xdk];exact k') b1 b2)
  · have:=W1m.1 hcl _ (Xa9 hx)
    cases x with
    | var a=>exact Xfl (a:=a) this i hi
    | _=>exact hi.elim
 have ha0 : Xii W (fun i=>θ (rnL r i)) args vs:=Xpk ha
 refine (h.2 W _ vs hg hO0 ha0).mono ?_
 rintro e w' ⟨W',θ',v,u,H',rfl,rfl,hf,hob,hv,hvi,hθ,hok,hp⟩
 have hok':=hok
 simp only [okH,W0g] at hok
 obtain ⟨ok1,ok2⟩:=hok
 have hX : ∀ b,Xof (fun i=>θ (rnL r i)) H0 b→b<W.size∧N b∧∃ o x y,look H0 o=some y∧g (rnL r o)=some x∧x.live=true∧(θ (rnL r o)).1=some b:=by
  rintro b ⟨o,x,h1,h2,h3⟩
  have hlv : (x.rnf (rnL r)).live=true:=by rw [Xdk];exact h2
  exact ⟨hO.lt (hl h1) hlv h3,hO.new _ _ b (hl h1) hlv h3,o,_,x,h1,hl h1,hlv,h3⟩
 have hnd : ∀ {i},Xb9 H0 i=true→rnL ((1000000,d)::r) i=rnL r i:=by
  intro i hi
  have : i≠1000000:=fun e=>by rw [e,h0] at hi;cases hi
  simp only [rnL,Ybh this]
 have hdn : rnL ((1000000,d)::r) 1000000=d:=by simp [rnL]
 have hcase : ∀ {i},Xb9 H' i=true→Xb9 H0 i=true∨i=1000000:=by
  intro i hi
  obtain ⟨y,hy⟩:=Ykd.1 hi
  have:=W1m.1 ok2 _ (Xa9 hy)
  rw [W4l] at this
  exact this.imp id W0f
 have hgo : ∀ {i},Xb9 H0 i=true→∃ x,g (rnL r i)=some x:=fun hi=>by obtain ⟨y,hy⟩:=Ykd.1 hi;exact ⟨_,hl hy⟩
 have hne : ∀ {i},Xb9 H0 i=true→rnL r i≠d:=fun hi e=>by obtain ⟨x,hx⟩:=hgo hi;rw [e,hgd] at hx;cases hx
 have hinj' : ∀ a b,Xb9 H' a=true→Xb9 H' b=true→rnL ((1000000,d)::r) a=rnL ((1000000,d)::r) b→a=b:=by
  intro a b ha hb hab
  rcases hcase ha with h1 | h1 <;> rcases hcase hb with h2 | h2
  · rw [hnd h1,hnd h2] at hab;exact hinj a b h1 h2 hab
  · rw [hnd h1,h2,hdn] at hab;exact absurd hab (hne h1)
  · rw [hnd h2,h1,hdn] at hab;exact absurd hab.symm (hne h2)
  · rw [h1,h2]
 let θ2 : Loc:=fun i=>if i=d then θ' 1000000 else θ i
 have hθ2 : ∀ {i},Xb9 H' i=true→θ2 (rnL ((1000000,d)::r) i)=θ' i:=by
  intro i hi
  rcases hcase hi with h1 | h1
  · rw [hnd h1]
    obtain ⟨y,hy⟩:=Ykd.1 h1
    show (if _ then _ else _)=_
    rw [if_neg (hne h1)]
    exact (hθ i y hy).symm
  · rw [h1,hdn];exact if_pos rfl
 have hold : ∀ {o x},g o=some x→θ2 o=θ o:=fun ho=>if_neg fun e=>by rw [e,hgd] at ho;cases ho
 have hR' : ∀ {i y},look H' i=some y→(y.rnf (rnL ((1000000,d)::r))).R W' θ2 (rnL ((1000000,d)::r) i):=by
  intro i y hy
  refine Ynw.2 ((hob.r i y hy).keep (LeF.refl W') (hθ2 (Ykd.2 ⟨y,hy⟩)) (fun j hj=>?_) fun _ _ _=>⟨rfl,fun _ h=>h⟩)
  obtain ⟨z,hz⟩:=hob.ids i y j hy hj
  exact hθ2 (Ykd.2 ⟨z,hz⟩)
 have hrest : ∀ {o x},Xbw g (rfH (rnL ((1000000,d)::r)) H') o=some x→(∃ i y,look H' i=some y∧o=rnL ((1000000,d)::r) i∧x=y.rnf (rnL ((1000000,d)::r))) ∨
  (g o=some x∧∀ b,x.live=true→(θ o).1=some b→b<W.size∧¬ Xof (fun i=>θ (rnL r i)) H0 b):=by
  intro o x hx
  rw [Xc7] at hx
  split at hx
  · rename_i y hy
    injection hx with hx;subst hx
    exact .inl (Xqf hinj' hy)
  · rename_i hn
    refine .inr ⟨hx,fun b hlv hb=>⟨hO.lt hx hlv hb,fun hXb=>?_⟩⟩
    obtain ⟨_,_,o1,x1,y1,h1,h2,h3,h4⟩:=hX b hXb
    have:=hO.dis o _ x x1 b hx h2 hlv h3 hb h4
    have hk : Xb9 H' o1=true:=by
     have:=W1m.1 ok1 _ (Xa9 h1);exact this
    obtain ⟨z,hz⟩:=Ykd.1 hk
    obtain ⟨q,hq⟩:=Xci (ρ:=rnL ((1000000,d)::r)) hz
    rw [hnd (Ykd.2 ⟨_,h1⟩),←this,hn] at hq
    cases hq
 have hblk : ∀ {i y b},look H' i=some y→y.live=true→(θ2 (rnL ((1000000,d)::r) i)).1=some b→(W.size≤b∨Xof (fun i=>θ (rnL r i)) H0 b):=by
  intro i y b hy hlv hb
  rw [hθ2 (Ykd.2 ⟨y,hy⟩)] at hb
  exact hob.new i y b hy hlv hb
 refine ⟨W',θ2,v.rnf (rnL ((1000000,d)::r)),u,_,rfl,rfl,?_,?_,fun i hi=>?_,v,H',hok',hp,rfl,rfl⟩
 · exact {
    os:=hf.os,out:=hf.out,tape:=hf.tape,size:=hf.size
    same:=fun b hb hN=>hf.same b hb fun hx=>hN (hX b hx).2.1
    A:=fun b hb hN=>hf.A b hb fun hx=>hN (hX b hx).2.1
    le:=hf.le
    th:=fun i y hy=>hold hy
    hi:=fun i hi=>if_neg (by omega)
    obs:={
     r:=fun o x hx=>by
      rcases hrest hx with ⟨i,y,hy,rfl,rfl⟩ | ⟨ho,hb⟩
      · exact hR' hy
      · refine (hO.r o x ho).keep hf.le (hold ho) (fun i hi=>?_) fun hlv b h1=>?_
        · obtain ⟨z,hz⟩:=hO.ids o x i ho hi
          exact hold hz
        · obtain ⟨b1,b2⟩:=hb b hlv h1
          exact ⟨hf.same b b1 b2,fun i hA=>(hf.A b b1 b2 i).2 hA⟩
     new:=fun o x b hx hlv hb=>by
      rcases hrest hx with ⟨i,y,hy,rfl,rfl⟩ | ⟨ho,_⟩
      · exact (hblk hy (by rw [Xdk] at hlv;exact hlv) hb).elim (hN b) fun h=>(hX b h).2.1
      · rw [hold ho] at hb;exact hO.new o x b ho hlv hb
     dis:=fun o o' x x' b hx hx' hlv hlv' hb hb'=>by
      rcases hrest hx with ⟨i,y,hy,rfl,rfl⟩ | ⟨ho,h1⟩ <;> rcases hrest hx' with ⟨i',y',hy',rfl,rfl⟩ | ⟨ho',h1'⟩
      · rw [Xdk] at hlv hlv'
        rw [hθ2 (Ykd.2 ⟨y,hy⟩)] at hb
        rw [hθ2 (Ykd.2 ⟨y',hy'⟩)] at hb'
        rw [hob.dis i i' y y' b hy hy' hlv hlv' hb hb']
      · rw [Xdk] at hlv
        rw [hold ho'] at hb'
        obtain ⟨b1,b2⟩:=h1' b hlv' hb'
        exact ((hblk hy hlv hb).elim (fun h=>absurd b1 (W5s.2 h)) b2).elim
      · rw [Xdk] at hlv'
        rw [hold ho] at hb
        obtain ⟨b1,b2⟩:=h1 b hlv hb
        exact ((hblk hy' hlv' hb').elim (fun h=>absurd b1 (W5s.2 h)) b2).elim
      · rw [hold ho] at hb;rw [hold ho'] at hb'
        exact hO.dis o o' x x' b ho ho' hlv hlv' hb hb'
     ids:=fun o x i hx hi=>by
      have fin : ∀ {j},Xb9 H' j=true→∃ z,Xbw g (rfH (rnL ((1000000,d)::r)) H') (rnL ((1000000,d)::r) j)=some z:=fun hj=>by
       obtain ⟨z,hz⟩:=Ykd.1 hj
       obtain ⟨q,hq⟩:=Xci (ρ:=rnL ((1000000,d)::r)) hz
       rw [Xc7,hq];exact ⟨q,rfl⟩
      rcases hrest hx with ⟨i',y,hy,rfl,rfl⟩ | ⟨ho,_⟩
      · cases y with
        | var a =>
         obtain ⟨j,h1,rfl⟩:=Yk1.1 hi
         obtain ⟨z,hz⟩:=hob.ids i' _ j hy h1
         exact fin (Ykd.2 ⟨z,hz⟩)
        | _=>exact hi.elim
      · obtain ⟨z,hz⟩:=hO.ids o x i ho hi
        rw [Xc7]
        split
        · exact ⟨_,rfl⟩
        · exact ⟨z,hz⟩ }
    dom:=fun i y hy=>by
     rw [Xc7]
     split
     · exact ⟨_,rfl⟩
     · exact ⟨y,hy⟩ }
 · refine Ynv.2 (hv.mono (LeF.refl W') fun i hi=>?_)
   obtain ⟨z,hz⟩:=hvi i hi
   exact hθ2 (Ykd.2 ⟨z,hz⟩)
 · obtain ⟨j,h1,rfl⟩:=Yk1.1 hi
   obtain ⟨z,hz⟩:=hvi j h1
   obtain ⟨q,hq⟩:=Xci (ρ:=rnL ((1000000,d)::r)) hz
   rw [Xc7,hq];exact ⟨q,rfl⟩
end
section
noncomputable def nxK (tb : Nat→Option TI) (n : Nat) (s : St) : Option (Pl × FuncId × List AV):=match nxO tb n s with
 | some (p,o)=>match o.op with
  | .call ⟨.value x,asx,tys⟩=>match callee (look p.E) x,getEs (look p.E) asx.toList with
   | some (f,ex),some vs=>some (p,f,Xin tb tys.toList vs++ex)
   | _,_=>none
  | _=>none
 | none=>none
def Yoa (ρ : Nat→Nat) (H : Hpl) : Bool:=H.all fun x=>H.all fun y=>Nat.beq x.1 y.1 || !Nat.beq (ρ x.1) (ρ y.1)
def Xsj (args : List AV) (H0 : Hpl) (r : List (Nat × Nat)) (d : Nat) (H : Hpl) : Bool:=Nat.blt d 1000000 && !Xb9 H d && !Xb9 H0 1000000 && Yoa (rnL r) H0 && (args.all (Xc2 H0)) && H0.all fun x=>Xhz H0 x.2
theorem Xqd {α : Type _} : ∀ {H : List (Nat × α)} {o : Nat} {x : α},(o,x)∈H→Xb9 H o=true
 | [],_,_,h=>by cases h
 | (s,w)::H,o,x,h=>by
  simp only [Xb9,look]
  cases e : Nat.beq o s with
  | true=>rfl
  | false =>
   rcases W1k.1 h with h | h
   · injection h with h1;subst h1;simp at e
   · exact Xqd h
section
variable {c : Cx} {s : St} {p : Pl}
theorem Xue {f : FuncId} {asx : List AV} {R : S→Prop} (h : nxK c.tb c.n s=some (p,f,asx)) (hR : R=WL c.P c.tb p.dr p.L (J c p.K) p.l)
 (k : ∃ o : Oper,p.d=o.dst∧match p.dr with
  | true=>∃ nw H0 Q,Cd c.P f asx o (look p.H) nw H0 Q∧∀ r,Nu nw o r.2→Q r→R (aft (sem p.E p.H) o r)
  | false=>∃ Post,CS c.P f asx (look p.H) Post∧∀ v g',Post v g'→R (S.put ((sem p.E p.H).1,g') o.dst v)) : StP c s:=by
 subst hR
 unfold nxK at h
 split at h <;> try cases h
 rename_i p' o ho
 obtain ⟨hw,hd⟩:=Xud ho
 split at h <;> try cases h
 rename_i x as' tys he
 split at h <;> cases h
 rename_i ex vs hvs hf
 obtain ⟨o',ho',k⟩:=k
 refine Xlv ho (.inl ⟨hw,?_⟩)
 unfold Wb
 rw [he]
 refine ⟨_,_,_,hf,hvs,?_⟩
 rw [hd] at ho'
 have e1 : ∀ r,aft (sem p.E p.H) o' r=aft (sem p.E p.H) o r:=fun r=>by unfold aft;rw [ho']
 have e2 : ∀ nw us,Nu nw o us↔Nu nw o' us:=fun nw us=>by unfold Nu;rw [ho']
 cases hdr : p.dr with
 | true =>
  rw [hdr] at k
  obtain ⟨nw,H0,Q,⟨k1,k2,k3⟩,k4⟩:=k
  refine ⟨nw,H0,Q,⟨by rw [ho'];exact k1,k2,by rw [ho'];intro g a b;simp only [e2];exact k3 g a b⟩,fun r hr hq=>by rw [←e1];exact k4 r ((e2 _ _).1 hr) hq⟩
 | false =>
  rw [hdr] at k
  obtain ⟨Post,k1,k2⟩:=k
  exact ⟨_,Post,.inl rfl,k1,fun v g' hv=>by rw [ho'];exact k2 v g' hv⟩
theorem Xie {f : FuncId} {args : List AV} {H0 : Hpl} {Post : AV→Hpl→Prop} {r : List (Nat × Nat)} {d : Nat} {H : Hpl} (hc : CW c.P f args H0 Post) (hk : Xsj args H0 r d H=true) {g : Hp} (hgd : g d=none) (hH : ∀ o x,look H0 o=some x→g (rnL r o)=some (x.rnf (rnL r))) :
 CS c.P f (args.map (AV.rnf (rnL r))) g fun v g'=>∃ v0 H',okH H0 H'=true∧Post v0 H'∧v=v0.rnf (rnL ((1000000,d)::r))∧g'=Xbw g (rfH (rnL ((1000000,d)::r)) H'):=by
 simp only [Xsj,W0g,W1s] at hk
 obtain ⟨⟨⟨⟨⟨k1,k2⟩,k3⟩,k4⟩,k5⟩,k6⟩:=hk
 refine hc.cs r d (Xp7 k1) hgd hH k3 (fun a b ha hb hab=>?_) (fun a ha=>W1m.1 k5 a ha) k6
 obtain ⟨x,hx⟩:=Ykd.1 ha
 obtain ⟨y,hy⟩:=Ykd.1 hb
 have:=W1m.1 (W1m.1 k4 _ (Xa9 hx)) _ (Xa9 hy)
 simp only [W4l,W1s] at this
 rcases this with h | h
 · exact W0f h
 · rw [hab] at h;simp at h
theorem Xnh {H H0 : Hpl} {ρ : Nat→Nat} (hH : Xsf H (rfH ρ H0)) {o : Nat} {x : Ob} (h : look H0 o=some x) : look H (ρ o)=some (x.rnf ρ):=by
 have hm : (ρ o,x.rnf ρ)∈rfH ρ H0:=W3r.2 ⟨_,Xa9 h,rfl⟩
 exact W6a.1 hH _ hm
theorem Cw {f : FuncId} {asx args : List AV} {H0 : Hpl} {Post : AV→Hpl→Prop} (r : List (Nat × Nat)) (h : nxK c.tb c.n s=some (p,f,asx)) (hc : CW c.P f args H0 Post) (k : ∀ v H',okH H0 H'=true→Post v H'→p.nx' c (v.rnf (rnL ((1000000,p.d.getD 0)::r))) (rfH (rnL ((1000000,p.d.getD 0)::r)) H'))
 (hr : asx=args.map (AV.rnf (rnL r)):=by exact rfl) (hH : Xsf p.H (rfH (rnL r) H0):=by exact rfl) (hk : (Xsj args H0 r (p.d.getD 0) p.H && !p.dr)=true:=by exact rfl) : StP c s:=by
 rw [W0g,W1s] at hk
 obtain ⟨hk,hdr⟩:=hk
 have hk':=hk
 simp only [Xsj,W0g,W1s] at hk'
 refine Xue h rfl ⟨⟨p.d, .move (.tmp 0), 0, "", #[], none⟩, rfl, ?_⟩
 rw [hdr,hr]
 refine ⟨_,Xie hc hk (Xbi hk'.1.1.1.1.2) (fun o x hx=>Xnh hH hx),?_⟩
 rintro v g' ⟨v0,H',h1,h2,rfl,rfl⟩
 have:=Pl.nx'_eq.1 (k v0 H' h1 h2)
 have : WL c.P c.tb p.dr p.L (J c p.K) p.l (sem (Xsh p.E p.d _) (_++p.H)):=this
 rw [←Xex,hdr] at this
 exact this
theorem Xlb {g : Hp} : ∀ {l : List (Nat × Ob)},(∀ o x,(o,x)∈l→g o=some x)→Xbw g l=g
 | [],_=>rfl
 | (o,x)::l,h=>by
  rw [Xbw,Xlb fun o x hm=>h o x (W0x _ hm)]
  funext t
  by_cases e : t=o
  · subst e;rw [Xaj,h t x (W0t ..)]
  · rw [Xam e]
def CN (P : Program) [Gb P] (f : FuncId) (args : List AV) (H0 : Hpl) (Q : AV→Prop) : Prop:=CW P f args H0 fun v H'=>H'=H0∧Q v
theorem Xty {H0 : Hpl} {r : List (Nat × Nat)} {d : Nat} (h0 : Xb9 H0 1000000=false) (hcl : (H0.all fun x=>Xhz H0 x.2)=true) : ∀ o x,look H0 o=some x→(rnL ((1000000,d)::r) o,x.rnf (rnL ((1000000,d)::r)))=(rnL r o,x.rnf (rnL r)):=by
 have hne : ∀ i,Xb9 H0 i=true→rnL ((1000000,d)::r) i=rnL r i:=fun i hi=>by
  have : i≠1000000:=fun e=>by rw [e,h0] at hi;cases hi
  simp only [rnL,Ybh this]
 have hv : ∀ {a : AV},Xc2 H0 a=true→a.rnf (rnL ((1000000,d)::r))=a.rnf (rnL r):=by
  intro a
  induction a with
  | st a ih=>intro h;simp only [AV.rnf];rw [ih h]
  | tup a ih=>intro h;simp only [AV.rnf];rw [ih h]
  | fm f a ih=>intro h;simp only [AV.rnf];rw [ih h]
  | pr a c iha ihc=>intro h;simp only [Xc2,W0g] at h;simp only [AV.rnf];rw [iha h.1,ihc h.2]
  | _=>intro h;first | rfl | (simp only [AV.rnf];rw [hne _ h])
 intro o x hx
 rw [hne o (Ykd.2 ⟨x,hx⟩)]
 have:=W1m.1 hcl _ (Xa9 hx)
 cases x with
 | var a=>simp only [Ob.rnf];rw [hv this]
 | _=>rfl
theorem Cn {f : FuncId} {asx args : List AV} {H0 : Hpl} {Q : AV→Prop} (r : List (Nat × Nat)) (h : nxK c.tb c.n s=some (p,f,asx)) (hc : CN c.P f args H0 Q) (k : ∀ v,Q v→p.nx c (v.rnf (rnL ((1000000,p.d.getD 0)::r))))
 (hr : asx=args.map (AV.rnf (rnL r)):=by exact rfl) (hH : Xsf p.H (rfH (rnL r) H0):=by exact rfl) (hk : (Xsj args H0 r (p.d.getD 0) p.H && H0.all fun x=>asx.any fun a=>Xb9 (match a with | .ptr o _=>[(o,())] | .own o _ _ _=>[(o,())] | .gr o _ _=>[(o,())] | .fn _ o=>[(o,())] | .ap o _=>[(o,())] | _=>[]) (rnL r x.1))=true:=by exact rfl) (hd : (!p.dr || p.d.isSome)=true:=by exact rfl) : StP c s:=by
 rw [W0g] at hk
 obtain ⟨hk,hids⟩:=hk
 have hk':=hk
 simp only [Xsj,W0g,W1s] at hk'
 obtain ⟨⟨⟨⟨⟨k1,k2⟩,k3⟩,k4⟩,k5⟩,k6⟩:=hk'
 have hsame : ∀ g : Hp,(∀ o x,look H0 o=some x→g (rnL r o)=some (x.rnf (rnL r)))→Xbw g (rfH (rnL ((1000000,p.d.getD 0)::r)) H0)=g:=fun g hg=>Xlb fun o x hm=>by
  obtain ⟨⟨i,y⟩,hm1,e⟩:=W3r.1 hm
  injection e with e1 e2
  subst e1;subst e2
  have hy : ∃ z,look H0 i=some z:=by
   exact Ykd.1 (Xqd hm1)
  obtain ⟨z,hz⟩:=hy
  have hm2:=W6a.1 hH (rnL r i,y.rnf (rnL r)) (W3r.2 ⟨_,hm1,rfl⟩)
  have hz2:=Xnh hH hz
  rw [hz2] at hm2
  injection hm2 with hm2
  have h3:=Xty (d:=p.d.getD 0) (r:=r) k3 k6 i z hz
  injection h3 with h3 h4
  show g (rnL _ i)=some (y.rnf _)
  rw [h3,hg i z hz,hm2]
  congr 1
  have hcl : Xhz H0 y=true:=W1m.1 k6 _ hm1
  have hv : ∀ {a : AV},Xc2 H0 a=true→a.rnf (rnL ((1000000,p.d.getD 0)::r))=a.rnf (rnL r):=by
   intro a
   induction a with
   | st a ih=>intro h;simp only [AV.rnf];rw [ih h]
   | tup a ih=>intro h;simp only [AV.rnf];rw [ih h]
   | fm f a ih=>intro h;simp only [AV.rnf];rw [ih h]
   | pr a c iha ihc=>intro h;simp only [Xc2,W0g] at h;simp only [AV.rnf];rw [iha h.1,ihc h.2]
   | _ =>
    intro h
    first
     | rfl
     | (simp only [AV.rnf]
        congr 1
        obtain ⟨q,hq⟩:=Ykd.1 h
        have:=Xty (d:=p.d.getD 0) (r:=r) k3 k6 _ q hq
        injection this)
  cases y with
  | var a=>simp only [Ob.rnf];rw [hv hcl]
  | _=>rfl
 refine Xue h rfl ⟨⟨p.d, .move (.tmp 0), 0, "", #[], none⟩, rfl, ?_⟩
 have kk : ∀ v,Q v→WL c.P c.tb p.dr p.L (J c p.K) p.l (S.put (sem p.E p.H) p.d (v.rnf (rnL ((1000000,p.d.getD 0)::r)))):=fun v hv=>by
  have:=Pl.nx_eq.1 (k v hv)
  have this : WL c.P c.tb p.dr p.L (J c p.K) p.l (sem (Xsh p.E p.d _) p.H):=this
  rw [show S.put (sem p.E p.H) p.d _=sem (Xsh p.E p.d _) p.H from Xex p.E p.H [] p.d _]
  exact this
 have hH' : ∀ o x,look H0 o=some x→look p.H (rnL r o)=some (x.rnf (rnL r)):=fun o x hx=>Xnh hH hx
 generalize WL c.P c.tb p.dr p.L (J c p.K) p.l=R at kk ⊢
 rw [hr] at hids ⊢
 cases hdr : p.dr with
 | true =>
  obtain ⟨dd,hdd⟩:=W3d.1 (show p.d.isSome=true by rw [hdr] at hd;exact hd)
  have hD : p.d.getD 0=dd:=by rw [hdd];rfl
  refine ⟨true,look (rfH (rnL r) H0),fun q=>q.2=[]∧∃ v,Q v∧q.1=v.rnf (rnL ((1000000,p.d.getD 0)::r)),⟨fun _=>⟨dd,hdd,by rw [←hD];exact Xbi k2⟩,fun i y hi=>?_,fun g hg hn=>?_⟩,fun q _ ⟨hq,v,h1,h2⟩=>?_⟩
  · have hm:=Xa9 hi
    refine ⟨W6a.1 hH _ hm,?_⟩
    obtain ⟨⟨j,z⟩,hm1,e⟩:=W3r.1 hm
    injection e with e1 e2
    have:=W1m.1 hids _ hm1
    obtain ⟨a,ha,hk⟩:=List.any_eq_true.1 this
    refine ⟨a,ha,?_⟩
    rw [←e1]
    cases a <;> simp only [Xb9,look] at hk <;> first | (cases hk;done) | skip
    all_goals
     show rnL r j=_
     split at hk
     · rename_i hx
       split at hx
       · rename_i hb;exact W0f hb
       · cases hx
     · cases hk
  · have hg' : ∀ o x,look H0 o=some x→g (rnL r o)=some (x.rnf (rnL r)):=fun o x hx=>hg _ _ (by
     obtain ⟨q,hq⟩:=Xci (ρ:=rnL r) hx
     have h1:=W6a.1 hH _ (Xa9 hq)
     rw [hH' o x hx] at h1
     rw [hq];exact h1.symm)
    have hgd : g (p.d.getD 0)=none:=by rw [hD];exact hn rfl dd hdd
    obtain ⟨a1,a2⟩:=Xie hc hk hgd hg'
    refine ⟨a1,fun N W θ vs b0 b1 b2 b3 b4=>(a2 N W θ vs b0 b1 b2 b3 b4).mono ?_⟩
    rintro e w' ⟨W',θ',v,u,g',c1,c2,c3,c4,c5,v0,H',d1,⟨rfl,d2⟩,rfl,rfl⟩
    exact ⟨W',θ',_,u,_,c1,c2,c3,c4,c5,[],.inl rfl,hsame g hg',rfl,v0,d2,rfl⟩
  · unfold aft;rw [hq,h2];exact kk v h1
 | false =>
  refine ⟨_,Xie hc hk (Xbi k2) hH',?_⟩
  rintro v g' ⟨v0,H',h1,⟨rfl,h2⟩,rfl,rfl⟩
  rw [hsame _ hH']
  exact kk v0 h2
def CO (P : Program) [Gb P] (f : FuncId) (args : List AV) (Q : AV→Ob→Prop) : Prop:=CW P f args [] fun v H'=>∃ ob,H'=[(1000000,ob)]∧Q v ob
theorem Co {f : FuncId} {asx : List AV} {Q : AV→Ob→Prop} (h : nxK c.tb c.n s=some (p,f,asx)) (hc : CO c.P f asx Q) (k : ∀ v ob,Q v ob→p.nx' c (v.rnf (rnL [(1000000,p.d.getD 0)])) [(p.d.getD 0,ob.rnf (rnL [(1000000,p.d.getD 0)]))])
 (hk : (Xsj asx [] [] (p.d.getD 0) p.H && p.d.isSome)=true:=by exact rfl) : StP c s:=by
 rw [W0g] at hk
 obtain ⟨hk,hd⟩:=hk
 have hk':=hk
 simp only [Xsj,W0g,W1s] at hk'
 obtain ⟨⟨⟨⟨⟨k1,k2⟩,k3⟩,k4⟩,k5⟩,k6⟩:=hk'
 obtain ⟨dd,hdd⟩:=W3d.1 hd
 have hD : p.d.getD 0=dd:=by rw [hdd];rfl
 have hid : ∀ {a : AV},a.rnf (rnL [])=a:=by
  intro a
  induction a with
  | st a ih=>simp only [AV.rnf,ih]
  | tup a ih=>simp only [AV.rnf,ih]
  | fm f a ih=>simp only [AV.rnf,ih]
  | pr a c iha ihc=>simp only [AV.rnf,iha,ihc]
  | _=>rfl
 have hmap : asx.map (AV.rnf (rnL []))=asx:=by rw [show AV.rnf (rnL [])=id from funext fun a=>hid,List.map_id]
 have hcs : ∀ {g : Hp},g (p.d.getD 0)=none→CS c.P f asx g fun v g'=>∃ v0 ob,Q v0 ob∧v=v0.rnf (rnL [(1000000,p.d.getD 0)])∧g'=Xbw g [(p.d.getD 0,ob.rnf (rnL [(1000000,p.d.getD 0)]))]:=by
  intro g hg
  obtain ⟨a1,a2⟩:=Xie hc hk hg (fun o x hx=>by simp [look] at hx)
  rw [hmap] at a2
  refine ⟨a1,fun N W θ vs b0 b1 b2 b3 b4=>(a2 N W θ vs b0 b1 b2 b3 b4).mono ?_⟩
  rintro e w' ⟨W',θ',v,u,g',c1,c2,c3,c4,c5,v0,H',d1,⟨ob,rfl,d2⟩,rfl,rfl⟩
  refine ⟨W',θ',_,u,_,c1,c2,c3,c4,c5,v0,ob,d2,rfl,?_⟩
  simp [rfH,rnL]
 refine Xue h rfl ⟨⟨p.d, .move (.tmp 0), 0, "", #[], none⟩, rfl, ?_⟩
 have kk : ∀ v ob,Q v ob→WL c.P c.tb p.dr p.L (J c p.K) p.l (S.put ((sem p.E p.H).1,Xbw (sem p.E p.H).2 [(p.d.getD 0,ob.rnf (rnL [(1000000,p.d.getD 0)]))]) p.d (v.rnf (rnL [(1000000,p.d.getD 0)]))):=fun v ob hv=>by
  have:=Pl.nx'_eq.1 (k v ob hv)
  have this : WL c.P c.tb p.dr p.L (J c p.K) p.l (sem (Xsh p.E p.d _) (_++p.H)):=this
  rw [Xex]
  exact this
 generalize WL c.P c.tb p.dr p.L (J c p.K) p.l=R at kk ⊢
 cases p.dr with
 | true =>
  refine ⟨true,fun _=>none,fun q=>∃ v ob,Q v ob∧q=(v.rnf (rnL [(1000000,p.d.getD 0)]),[(p.d.getD 0,ob.rnf (rnL [(1000000,p.d.getD 0)]))]),⟨fun _=>⟨dd,hdd,by rw [←hD];exact Xbi k2⟩,fun i y hi=>(nomatch hi),fun g _ hn=>?_⟩,?_⟩
  · obtain ⟨a1,a2⟩:=hcs (g:=g) (by rw [hD];exact hn rfl dd hdd)
    refine ⟨a1,fun N W θ vs b0 b1 b2 b3 b4=>(a2 N W θ vs b0 b1 b2 b3 b4).mono ?_⟩
    rintro e w' ⟨W',θ',v,u,g',c1,c2,c3,c4,c5,v0,ob,d1,rfl,rfl⟩
    exact ⟨W',θ',_,u,_,c1,c2,c3,c4,c5,_,.inr ⟨rfl,dd,_,hdd,by rw [hD]⟩,rfl,v0,ob,d1,rfl⟩
  · rintro q _ ⟨v,ob,h1,rfl⟩
    exact kk v ob h1
 | false =>
  refine ⟨_,hcs (Xbi k2),?_⟩
  rintro v g' ⟨v0,ob,h1,rfl,rfl⟩
  exact kk v0 ob h1
def CG (P : Program) [Gb P] (f : FuncId) (args : List AV) (sz : Nat) (xs : List D) : Prop:=CO P f args fun v ob=>v=.gr 1000000 sz xs∧ob=.tok xs.length sz
theorem Cg {f : FuncId} {asx : List AV} {sz : Nat} {xs : List D} (h : nxK c.tb c.n s=some (p,f,asx)) (hc : CG c.P f asx sz xs) (k : p.nx' c (.gr (p.d.getD 0) sz xs) [(p.d.getD 0,.tok xs.length sz)])
 (hk : (Xsj asx [] [] (p.d.getD 0) p.H && p.d.isSome)=true:=by exact rfl) : StP c s :=
 Co h hc (fun v ob hv=>by obtain ⟨rfl,rfl⟩:=hv;exact k) hk
def CA (P : Program) [Gb P] (f : FuncId) (args : List AV) (sz : Nat) (xs : List D) : Prop:=CO P f args fun v ob=>v=.own 1000000 sz 0 xs.length∧ob=.arr sz xs
theorem Cr {f : FuncId} {asx : List AV} {sz : Nat} {xs : List D} (h : nxK c.tb c.n s=some (p,f,asx)) (hc : CA c.P f asx sz xs) (k : p.nx' c (.own (p.d.getD 0) sz 0 xs.length) [(p.d.getD 0,.arr sz xs)])
 (hk : (Xsj asx [] [] (p.d.getD 0) p.H && p.d.isSome)=true:=by exact rfl) : StP c s :=
 Co h hc (fun v ob hv=>by obtain ⟨rfl,rfl⟩:=hv;exact k) hk
end
theorem CW.data {P : Program} [Gb P] {f : FuncId} {args : List AV} {Post : AV→Hpl→Prop} {Q : AV→Prop} (h : CW P f args [] Post) (hn : (args.all Xkb)=true) (hp : ∀ v H',Post v H'→∃ v',FitR (look H') [] v v'∧Q v') : C P f args Q:=by
 refine ⟨h.1,fun W vs hg ha=>(h.2 W θe vs hg ⟨fun o x h=>(nomatch h),fun o x b h=>(nomatch h),fun o o' x x' b h=>(nomatch h),fun o x i h=>(nomatch h)⟩ ha).mono ?_⟩
 rintro e w' ⟨W',θ',v,u,H',rfl,rfl,hf,hob,hv,hvi,_,_,hpo⟩
 obtain ⟨v',hfit,hq⟩:=hp v H' hpo
 have hX : ∀ b,¬ Xof θe ([] : Hpl) b:=fun b ⟨o,x,h,_⟩=>(nomatch h)
 let W2 : GW:=⟨W'.w,W.A,fun b i h=>W0p (W.hA b i h) hf.size⟩
 have hle : LeF W' W2:=fun b i x hx=>⟨hx.1,fun hA=>hx.2 ((hf.A b (W.hA b i hA) (hX b) i).2 hA)⟩
 have E : Exi W' W2 (fun b=>W.size≤b∨Xof θe ([] : Hpl) b) θ' (look H') []:=⟨hob,hle,fun o x b ho hl hb _ i y hy=>⟨hy,fun hA=>absurd (W.hA b i hA) (W5s.2 ((hob.new o x b ho hl hb).resolve_right (hX b)))⟩⟩
 obtain ⟨f1,f2⟩:=Yd5 E hfit hv
 have f2 : ∀ i,¬ v'.ids i:=fun i hi=>by obtain ⟨y,hy⟩:=f2 i hi;cases hy
 exact ⟨W2,v',u,rfl,rfl,⟨hf.os,hf.out,hf.tape,hf.size,fun b hb _=>hf.same b hb (hX b),fun _ _ _ _=>W3j,fun b i x hx=>⟨(hf.le b i x hx).1,hx.2⟩⟩,f1.mono (LeF.refl W2) fun i hi=>absurd hi (f2 i),f2,hq⟩
theorem CG.data {P : Program} [Gb P] {f : FuncId} {args : List AV} {sz : Nat} {xs : List D} (h : CG P f args sz xs) (hn : (args.all Xkb)=true:=by exact rfl) : C P f args (·=.d (.sl sz xs)) :=
 CW.data h hn fun v H' ⟨ob,e,h1,h2⟩=>⟨_,by rw [h1];exact .one (.gr rfl) rfl rfl,rfl⟩
theorem CA.data {P : Program} [Gb P] {f : FuncId} {args : List AV} {sz : Nat} {xs : List D} (h : CA P f args sz xs) (hn : (args.all Xkb)=true:=by exact rfl) : C P f args (·=.d (.sl sz xs)) :=
 CW.data h hn fun v H' ⟨ob,e,h1,h2⟩=>⟨_,by rw [h1,e,h2];exact .one (.own rfl (by simp) (by simp)) rfl rfl,rfl⟩
end
section
section
variable {c : Cx} {s : St} {p : Pl}
noncomputable def nxMM (tb : Nat→Option TI) (n : Nat) (s : St) : Option (Pl × Bool × IntKind × Int × Int):=match nxA tb n s with
 | some (p,o,[.d (.int k x),.d (.int k' y)])=>match o.op with
  | .call ⟨.builtin .min,_,_⟩=>if k=k' then some (p,true,k,x,y) else none
  | .call ⟨.builtin .max,_,_⟩=>if k=k' then some (p,false,k,x,y) else none
  | _=>none
 | _=>none
noncomputable def nxY (tb : Nat→Option TI) (n : Nat) (s : St) : Option (Pl × List UInt8 × Int):=match nxA tb n s with
 | some (p,o,[.d (.str t),.d (.int _ j)])=>match o.op with
  | .index T _ _=>match tb T with
   | some ⟨.str _,_,_,_⟩=>some (p,t,j)
   | _=>none
  | _=>none
 | _=>none
theorem Yx (i : Nat) (b : UInt8) {t : List UInt8} {j : Int} (h : nxY c.tb c.n s=some (p,t,j)) (hb : t[i]?=some b) (kk : p.nx c (.d (.int .u8 b.toNat))) (hj : j=(i : Int):=by first | exact rfl | omega) : StP c s:=by
 subst hj
 unfold nxY at h
 split at h <;> try cases h
 rename_i hA
 split at h <;> try cases h
 rename_i ho
 split at h <;> cases h
 rename_i ht
 refine Xcd (us:=[]) hA ?_ (Pl.nx_nil kk)
 rw [ho]
 simp [F,Fp,ht,hb]
end
def nbA : AV→AV
 | .d (.bool c)=>.b c
 | a=>a
theorem Ylb {W : GW} {θ : Loc} {a : AV} {u : Value} (h : AV.V W θ a u) : AV.V W θ (nbA a) u:=by
 unfold nbA;split
 · obtain ⟨cs,h1,h2⟩:=h;exact ⟨cs,h1,h2⟩
 · exact h
theorem Yhm {W : GW} {θ : Loc} : ∀ {asx : List AV} {vs : List Value},Xii W θ asx vs→Xii W θ (asx.map nbA) vs
 | [],[],_=>trivial
 | a::asx,v::vs,h=>⟨Ylb h.1,Yhm h.2⟩
 | [],_::_,h=>h.elim
 | _::_,[],h=>h.elim
theorem C.mono {P : Program} [Gb P] {f : FuncId} {asx : List AV} {Q Q' : AV→Prop} (h : C P f asx Q) (k : ∀ v,Q v→Q' v) : C P f asx Q':=⟨h.1,fun W vs hg ha=>(h.2 W vs hg ha).mono fun e w' ⟨W',v,u,h1,h2,h3,h4,h5,h6⟩=>⟨W',v,u,h1,h2,h3,h4,h5,k v h6⟩⟩
theorem C.nb {P : Program} [Gb P] {f : FuncId} {asx : List AV} {Q : AV→Prop} (h : C P f (asx.map nbA) Q) : C P f asx Q:=⟨h.1,fun W vs hg ha=>h.2 W vs hg (Yhm ha)⟩
end
section
def Yh8 : AV→List Nat
 | .st a | .tup a | .fm _ a=>Yh8 a
 | .pr a c=>Yh8 a++Yh8 c
 | .ptr o _ | .own o _ _ _ | .ow3 o _ _ _ | .gr o _ _ | .el o _ _ _ | .fn _ o | .ap o _=>[o]
 | _=>[]
theorem Xei {i : Nat} : ∀ {a : AV},a.ids i→i∈Yh8 a
 | .st a,h=>Xei (a:=a) h
 | .tup a,h=>Xei (a:=a) h
 | .fm _ a,h=>Xei (a:=a) h
 | .pr a c,h=>W2x.2 (h.imp (Xei (a:=a)) (Xei (a:=c)))
 | .ptr o _,h | .own o _ _ _,h | .ow3 o _ _ _,h | .gr o _ _,h | .el o _ _ _,h | .fn _ o,h | .ap o _,h=>W0e.2 h
abbrev Trk:=List (Nat × List Nat)
def dsL : List Oper→List Nat
 | []=>[]
 | o::l=>match o.dst with
  | some d=>d::dsL l
  | none=>dsL l
theorem Xvy {o : Oper} {d : Nat} (hd : o.dst=some d) : ∀ {L : List Oper},o∈L→d∈dsL L
 | x::l,h=>by
  rcases W1k.1 h with e | e
  · subst e;simp [dsL,hd]
  · have:=Xvy hd e
    simp only [dsL];split <;> simp [this]
def bnd (D : List Nat) (E : Env) (T : Trk) (t : Nat) : Option (List Nat):=match inL t D with
 | true=>look T t
 | false=>match look E t with
  | some v=>some (Yh8 v)
  | none=>none
def Yjk : Op→Option Nat
 | .move (.tmp t) | .assign (.tmp t) | .nilCheck (.tmp t) | .fieldAddr _ (.tmp t) _ | .indexAddr _ (.tmp t) _=>some t
 | _=>none
def Xuz : Op→Bool
 | .alloc _ | .box _ _=>true
 | _=>false
def trk (D : List Nat) (E : Env) : List Oper→Trk→Trk
 | [],T=>T
 | o::l,T=>match o.dst with
  | none=>trk D E l T
  | some d=>match Xuz o.op,Yjk o.op with
   | true,_=>trk D E l ((d,[d])::T)
   | false,some t=>match bnd D E T t with
    | some v=>trk D E l ((d,v)::T)
    | none=>trk D E l T
   | false,none=>trk D E l T
def Ymr (a b : List Nat) : Bool:=a.all fun x=>inL x b
def Xrh (D : List Nat) (E : Env) (T : Trk) (L : List Oper) : Bool:=(T.all fun x=>!Xb9 E x.1) && L.all fun o=>match o.dst with
 | none=>true
 | some d=>match look T d with
  | none=>true
  | some l=>(Xuz o.op && inL d l) || match Yjk o.op with
   | some t=>match bnd D E T t with
    | some v=>Ymr v l
    | none=>false
   | none=>false
def Yh0 (L : List Oper) (D : List Nat) (E : Env) (T : Trk) (k i : Oper) : Bool:=match k.op,i.op with
 | .load _ (.tmp a),.store _ (.tmp b) _=>match bnd D E T a,bnd D E T b with
  | some la,some lb=>Xcn L k.dst i && Xcn L i.dst k && la.all fun x=>!inL x lb
  | _,_=>false
 | _,_=>false
def spT (L : List Oper) (D : List Nat) (E : Env) (T : Trk) (k i : Oper) : Bool:=Yh0 L D E T k i || Yh0 L D E T i k
def ZT (D : List Nat) (E : Env) (T : Trk) (s : S) : Prop:=(∀ t,inL t D=false→s.1 t=look E t)∧∀ t l,look T t=some l→s.1 t=none∨∃ x,s.1 t=some x∧∀ i,x.ids i→i∈l
section
variable {tb : Nat→Option TI}
theorem Xwm {D : List Nat} {E : Env} {T : Trk} {s : S} (hz : ZT D E T s) {t : Nat} {l : List Nat} (h : bnd D E T t=some l) {v : AV} (hv : s.1 t=some v) {i : Nat} (hi : v.ids i) : i∈l:=by
 unfold bnd at h
 split at h
 · rcases hz.2 t l h with e | ⟨x,e,h1⟩ <;> rw [hv] at e
   · cases e
   · injection e with e;subst e;exact h1 i hi
 · rename_i hD
   have e:=hz.1 t hD
   rw [hv] at e
   rw [←e] at h
   injection h with h;subst h
   exact Xei hi
theorem Yee {o : Oper} {t : Nat} (ha : Yjk o.op=some t) {s : S} {r : AV × List (Nat × Ob)} (h : eff tb o s=some r) : ∃ v,s.1 t=some v∧∀ i,r.1.ids i→v.ids i:=by
 have one : ∀ {x : Nat} {asx : List AV},getEs s.1 [.tmp x]=some asx→∃ v,s.1 x=some v∧asx=[v]:=by
  intro x asx h
  simp only [getEs,Xdp] at h
  split at h <;> try cases h
  rename_i v hv
  exact ⟨v,hv,rfl⟩
 unfold eff at h
 split at h <;> try cases h
 rename_i asx has
 split at h <;> try cases h
 unfold Yjk at ha
 split at ha <;> cases ha
 all_goals rename_i ho
 · rw [ho] at h has
   obtain ⟨v,hv,rfl⟩:=one has
   simp only [F,Fp] at h
   injection h with h;subst h
   exact ⟨v,hv,fun _ h=>h⟩
 · rw [ho] at h has
   obtain ⟨v,hv,rfl⟩:=one has
   simp only [F,Fp] at h
   injection h with h;subst h
   exact ⟨v,hv,fun _ h=>h⟩
 · rw [ho] at h has
   obtain ⟨v,hv,rfl⟩:=one has
   refine ⟨v,hv,?_⟩
   simp only [F,Fp] at h
   split at h <;> try cases h
   rename_i hq
   split at hq <;> cases hq
   rename_i e;cases e
   exact fun _ h=>h
 · rw [ho] at h has
   obtain ⟨v,hv,rfl⟩:=one has
   refine ⟨v,hv,?_⟩
   simp only [F,Fp] at h
   split at h <;> try cases h
   rename_i hq
   split at hq <;> try cases hq
   split at hq <;> try cases hq
   split at hq <;> try cases hq
   split at hq <;> try cases hq
   · rename_i e;cases e
     split at hq <;> cases hq
     exact fun _ h=>h
   all_goals
    rename_i e;cases e
    exact fun _ h=>h
 · rw [ho] at h has
   rename_i T' y' _
   simp only [Op.operands,getEs] at has
   split at has <;> try cases has
   rename_i v hv
   split at has <;> try cases has
   rename_i as' has'
   refine ⟨v,hv,?_⟩
   simp only [F,Fp] at h
   split at h <;> try cases h
   rename_i hq
   split at hq <;> try cases hq
   rename_i e;cases e
   split at hq <;> try cases hq
   · unfold ixA at hq
     split at hq <;> try cases hq
     · unfold ixA.ixL at hq
       split at hq <;> try cases hq
       split at hq <;> cases hq
       exact fun _ h=>h.elim
     · unfold ixA.ixL at hq
       split at hq <;> try cases hq
       split at hq <;> cases hq
       exact fun _ h=>h.elim
     · unfold ixA.ixL at hq
       split at hq <;> try cases hq
       split at hq <;> cases hq
       exact fun _ h=>h.elim
     · split at hq <;> cases hq
       exact fun _ h=>h
     · split at hq <;> cases hq
       exact fun _ h=>h
   · split at hq <;> cases hq
     exact fun _ h=>h
theorem Ylh {k : Oper} {T : TypeId} {a : Nat} (ho : k.op=.load T (.tmp a)) {e : Ev} {g g' : Hp} {r : AV × List (Nat × Ob)} {v : AV} (hv : e a=some v) (hg : ∀ i,v.ids i→g i=g' i) (h : eff tb k (e,g)=some r) : r.2=[]∧eff tb k (e,g')=some r:=by
 have has : getEs e k.op.operands.toList=some [v]:=by rw [ho];simp [Op.operands,getEs,Xdp,hv]
 unfold eff at h ⊢
 rw [has] at h ⊢
 simp only [ho,Xd4,Bool.false_and,F] at h ⊢
 split at h <;> try cases h
 rename_i ti hti
 cases v <;> try (cases h;done)
 · simp only [hti] at h ⊢
   split at h <;> cases h
   rename_i hf
   exact ⟨rfl,by simp [hf]⟩
 · simp only [hti] at h ⊢
   rw [←hg _ rfl]
   split at h <;> try cases h
   rename_i hq
   split at h <;> cases h
   rename_i hy
   exact ⟨rfl,by simp [hq,hy]⟩
 · simp only [hti] at h ⊢
   rw [←hg _ rfl]
   split at h <;> try cases h
   rename_i hq
   split at h <;> try cases h
   rename_i hs
   split at h <;> try cases h
   rename_i hx
   split at h <;> cases h
   rename_i hy
   exact ⟨rfl,by simp [hq,hs,hx,hy]⟩
theorem Ykv {i : Oper} {T : TypeId} {b : Nat} {x : Operand} (ho : i.op=.store T (.tmp b) x) {e : Ev} {g : Hp} {r : AV × List (Nat × Ob)} (h : eff tb i (e,g)=some r) : ∃ v o ob,e b=some v∧v.ids o∧r.2=[(o,ob)]:=by
 unfold eff at h
 split at h <;> try cases h
 rename_i asx has
 rw [ho] at has
 simp only [Op.operands,getEs,Xdp] at has
 split at has <;> try cases has
 rename_i v hv
 split at has <;> try cases has
 rename_i as' has'
 split at h <;> try cases h
 rw [ho] at h
 simp only [F] at h
 split at h <;> try cases h
 split at h <;> try cases h
 · rename_i e;cases e
   split at h <;> try cases h
   split at h <;> cases h
   exact ⟨_,_,_,hv,rfl,rfl⟩
 · rename_i e;cases e
   split at h <;> try cases h
   split at h <;> try cases h
   split at h <;> cases h
   exact ⟨_,_,_,hv,rfl,rfl⟩
theorem Ydn {o : Oper} (hn : Xuz o.op=true) {s : S} {r : AV × List (Nat × Ob)} (h : eff tb o s=some r) : r.1=.ptr (o.dst.getD 0) 0:=by
 unfold eff at h
 split at h <;> try cases h
 rename_i asx has
 split at h <;> try cases h
 unfold Xuz at hn
 split at hn <;> try cases hn
 all_goals
  rename_i ho
  rw [ho] at h
  simp only [F] at h
 · split at h <;> cases h;rfl
 · split at h <;> try cases h
   split at h <;> cases h;rfl
theorem Yco {a b : List Nat} (h : Ymr a b=true) {i : Nat} (hi : i∈a) : i∈b:=Yll.1 (W1m.1 h i hi)
theorem Yng {s : S} {o : Oper} {r : AV × List (Nat × Ob)} {t : Nat} (h : o.dst≠some t) : (aft s o r).1 t=s.1 t:=by
 unfold aft S.put
 cases hd : o.dst with
 | none=>rfl
 | some d=>exact Xam fun e=>h (by rw [hd,e])
theorem Ymc {s : S} {o : Oper} {r : AV × List (Nat × Ob)} {t : Nat} (h : o.dst=some t) : (aft s o r).1 t=some r.1:=by
 unfold aft S.put
 rw [h];exact Xaj ..
theorem ZT.aft {L : List Oper} {E : Env} {T : Trk} (hT : Xrh (dsL L) E T L=true) {o : Oper} (ho : o∈L) {s : S} (hz : ZT (dsL L) E T s) {r : AV × List (Nat × Ob)}
 (hr : r.1=.un∨(Xar o=true)∨eff tb o s=some r) : ZT (dsL L) E T (aft s o r):=by
 refine ⟨fun t ht=>?_,fun t l hl=>?_⟩
 · rw [Yng fun e=>by rw [Yll.2 (Xvy e ho)] at ht;cases ht]
   exact hz.1 t ht
 · by_cases hd : o.dst=some t
   · refine .inr ⟨r.1,Ymc hd,fun i hi=>?_⟩
     simp only [Xrh,W0g] at hT
     have:=W1m.1 hT.2 o ho
     rw [hd] at this
     simp only [hl,W4l,W0g] at this
     rcases hr with hr | hr | hr
     · rw [hr] at hi;exact hi.elim
     · obtain ⟨x,asx,tys,hc⟩:=Xl4 hr
       rw [hc] at this
       simp [Xuz,Yjk] at this
     · rcases this with ⟨h1,h2⟩ | h
       · rw [Ydn h1 hr,hd] at hi
         have hi : i=t:=hi
         rw [hi];exact Yll.1 h2
       · split at h
         · rename_i t' ha
           split at h
           · rename_i v hv
             obtain ⟨x,hx,h1⟩:=Yee ha hr
             exact Yco h (Xwm hz hv hx (h1 i hi))
           · cases h
         · cases h
   · rw [Yng hd];exact hz.2 t l hl
theorem Xfi {L : List Oper} {E : Env} {T : Trk} {k i : Oper} (h : Yh0 L (dsL L) E T k i=true) : Xar k=false∧Xar i=false∧Xcn L k.dst i=true∧Xcn L i.dst k=true∧∀ {s : S},ZT (dsL L) E T s →
 (∀ {rk},efw tb L k s=some rk→rk.2=[])∧∀ {g : Hp} {ri : AV × List (Nat × Ob)},efw tb L i (s.1,g)=some ri→∀ rk,efw tb L k (s.1,g)=some rk↔efw tb L k (s.1,Xbw g ri.2)=some rk:=by
 unfold Yh0 at h
 split at h
 · rename_i T1 a T2 b x hk hi
   split at h
   · rename_i la lb hla hlb
     simp only [W0g] at h
     obtain ⟨⟨h1,h2⟩,h3⟩:=h
     refine ⟨by unfold Xar;rw [hk];rfl,by unfold Xar;rw [hi];rfl,h1,h2,fun {s} hz=>⟨fun {rk} hr=>?_,fun {g ri} hri rk=>?_⟩⟩
     · rcases Xck hr with ⟨_,e,_⟩ | ⟨_,e⟩
       · exact e
       · exact (Ynd (o:=k) (by rw [hk];rfl) (e:=s.1) (g:=s.2) e).1
     · have key : ∀ {g g' : Hp},(∀ o,o ∉ lb→g o=g' o)→efw tb L k (s.1,g)=some rk→efw tb L k (s.1,g')=some rk:=by
        intro g g' hg hr
        rcases Xck hr with ⟨_,_,e⟩ | ⟨hw,e⟩
        · exact e g'
        · have : ∃ v,s.1 a=some v:=by
           unfold eff at e
           split at e <;> try cases e
           rename_i asx has
           rw [hk] at has
           simp only [Op.operands,getEs,Xdp] at has
           split at has <;> try cases has
           exact ⟨_,by assumption⟩
          obtain ⟨v,hv⟩:=this
          refine Xi8 (s:=(s.1,g)) hw (Ylh hk hv (fun o ho=>hg o fun hb=>?_) e).2
          have:=W1m.1 h3 o (Xwm hz hla hv ho)
          rw [Yll.2 hb] at this;cases this
       have hu : ∀ o,o ∉ lb→g o=Xbw g ri.2 o:=by
        intro o hob
        rcases Xck hri with ⟨_,e,_⟩ | ⟨_,e⟩
        · rw [e];rfl
        · obtain ⟨v,o',ob,hv,ho',e2⟩:=Ykv hi e
          rw [e2]
          show g o=upd g o' ob o
          rw [Xam fun e=>hob (by rw [e];exact Xwm hz hlb hv ho')]
       exact ⟨key hu,key fun o ho=>(hu o ho).symm⟩
   · cases h
 · cases h
theorem Dm.trk {L : List Oper} {E : Env} {T : Trk} (hT : Xrh (dsL L) E T L=true) : Dm tb L (spT L (dsL L) E T) (ZT (dsL L) E T):=by
 have fin : ∀ {k i : Oper} {s : S} {rk ri : AV × List (Nat × Ob)},Xcn L i.dst k=true→rk.2=[]→Vm.aft (Vm.aft s i ri) k rk=Vm.aft (Vm.aft s k rk) i ri:=by
  intro k i s rk ri h hr
  unfold Vm.aft
  rw [S.put_g,S.put_g,hr]
  have e1:=S.put_e (s:=s) (g:=Xbw s.2 ri.2) (g':=s.2) (d:=i.dst) (v:=ri.1)
  have e2:=S.put_e (s:=s) (g:=Xbw s.2 []) (g':=s.2) (d:=k.dst) (v:=rk.1)
  rw [e1,e2]
  exact Xnl (s:=s) (fun a b ha hb=>Xh9 h ha hb) rfl
 have one : ∀ {k i : Oper} {s : S} {rk ri : AV × List (Nat × Ob)},Yh0 L (dsL L) E T k i=true→ZT (dsL L) E T s→efw tb L k s=some rk→efw tb L i s=some ri→efw tb L i (Vm.aft s k rk)=some ri∧efw tb L k (Vm.aft s i ri)=some rk∧Vm.aft (Vm.aft s i ri) k rk=Vm.aft (Vm.aft s k rk) i ri:=by
  intro k i s rk ri h hz h1 h2
  obtain ⟨c1,c2,a1,a2,hh⟩:=Xfi (tb:=tb) h
  obtain ⟨b1,b2⟩:=hh hz
  have e:=b1 h1
  exact ⟨by rw [Xc4 a1,e];exact h2,by rw [Xc4 a2];exact (b2 (g:=s.2) h2 rk).1 h1,fin a2 e⟩
 refine ⟨fun {k i} h=>?_,fun {k i s rk ri} h hz h1 h2=>?_,fun {k i s rk ri} h hz h1 h2=>?_,fun {k s r} hk hc hz h=>?_,fun {k s r} hk hc hz h=>ZT.aft (tb:=tb) hT hk hz (.inr (.inl hc))⟩
 · rcases W7m.1 h with h | h
   · have:=Xfi (tb:=tb) h;exact ⟨this.1,this.2.1⟩
   · have:=Xfi (tb:=tb) h;exact ⟨this.2.1,this.1⟩
 · rcases W7m.1 h with h | h
   · exact one h hz h1 h2
   · obtain ⟨p1,p2,p3⟩:=one h hz h2 h1;exact ⟨p2,p1,p3.symm⟩
 · rcases W7m.1 h with h | h
   · obtain ⟨c1,c2,a1,a2,hh⟩:=Xfi (tb:=tb) h
     rw [Xc4 a1,(hh hz).1 h1] at h2
     exact h2
   · obtain ⟨c1,c2,a1,a2,hh⟩:=Xfi (tb:=tb) h
     rw [Xc4 a2] at h2
     exact ((hh hz).2 (g:=s.2) h1 ri).2 h2
 · refine ZT.aft (tb:=tb) hT hk hz ?_
   rcases Xck h with ⟨hw,_,e⟩ | ⟨_,e⟩
   · refine .inl ?_
     unfold efw at h
     rw [hw] at h
     simp only at h
     split at h <;> cases h
     rfl
   · exact .inr (.inr e)
section
variable {c : Cx} {s : St}
def Yof : St→Bool
 | .o _ _ L _ _ E _=>Xrh (dsL L) E (trk (dsL L) E L []) L && Xif L (spT L (dsL L) E (trk (dsL L) E L [])) [] [] L
 | _=>false
theorem ZT.start {L : List Oper} {E : Env} {H : Hpl} {T : Trk} (hT : Xrh (dsL L) E T L=true) : ZT (dsL L) E T (sem E H):=by
 refine ⟨fun t _=>rfl,fun t l hl=>.inl ?_⟩
 simp only [Xrh,W0g] at hT
 have:=W1m.1 hT.1 _ (Xa9 hl)
 rw [W1s] at this
 exact Xbi this
theorem Dz {s' : St} (h : nxD c.tb c.n s=some s') (k : StP c s') (hchk : Yof s'=true:=by exact rfl) : StP c s:=by
 unfold nxD at h
 split at h <;> try cases h
 rename_i hr
 split at h <;> cases h
 rename_i hok
 have hchk:=Bool.and_eq_true_iff.1 hchk
 exact go 1000 hr (J.draw (Dm.trk hchk.1) (ZT.start hchk.1) hok hchk.2 k)
end
end
end
end Go.Vm
namespace Go.Proofs.YtpgcfjpkilabfaaGreatDoor
open Go Go.Vm Go.Num Go.Proofs
section
abbrev C0:=C Tryz.prog
abbrev CG0:=CG Tryz.prog
abbrev CA0:=CA Tryz.prog
abbrev CO0:=CO Tryz.prog
abbrev CN0:=CN Tryz.prog
abbrev CW0:=CW Tryz.prog
def wd (n : Nat) : D:=.int .u32 n
def ws (l : List Nat) : D:=.sl 1 (l.map wd)
def dS (b : Bool) (l : List Nat) : D:=.st (.pr (.bool b) (ws l))
theorem mp {α : Type} {l : List α} {f : α→D} {j : Nat} {u : α} (h : l[j]?=some u) : (l.map f)[j]?=some (f u):=by simp [h]
theorem ms {α : Type} {l : List α} {f : α→D} {j : Nat} {u : α} : (l.map f).set j (f u)=(l.set j u).map f:=by simp
theorem trim_ok {l : List Nat} (hw : Xal l) (hl : l.length≤1099511627776) : C0 65 [.d (ws l)] (·=.d (ws (dig (val l)))):=by
 refine En Tryz.func65 fun _ _ _=>?_
 refine Lo (fun k=>[(0,.d (ws (l.take k)))]) (fun _=>[]) (fun k=>k≤l.length∧val (l.take k)=val l) id l.length [] rfl ⟨W0c _,by rw [W2b]⟩ (fun k ⟨hk,hv⟩=>?_) (hf:=⟨by simp only [W2b];rfl,rfl,rfl,rfl,rfl⟩)
 refine By rfl (fun h=>?_) fun h=>?_ <;> simp only [W0i,W0j,W2c hk] at h
 · have hl : ((l.take k).map wd).length=k:=by simp;omega
   refine Ar (k - 1 : Nat) rfl ?_
   have hx:=W0b (l:=l) (i:=k - 1) (by omega)
   refine Ix (k - 1) rfl (u:=wd l[k - 1]) (mp (by rw [W1i,if_pos (by omega),hx])) ?_
   have hs:=Xac hx
   rw [show k - 1+1=k by omega,hv] at hs
   refine By rfl (fun h0=>?_) fun h0=>?_
   · refine Ar (k - 1 : Nat) rfl ?_
     refine Tk (k - 1) ((l.take (k - 1)).map wd) rfl rfl (by simp;omega) (by rw [←W2w,List.take_take,W2c (by omega)]) ?_
     exact Bk (k - 1) [] rfl ⟨by omega,by rw [hs,show l[k - 1]=0 by omega,W2z,W2n]⟩ (show k - 1<k by omega)
   · exact R1 rfl (.eq (by rw [←hv,Xd9 (hw.take k) (.inr ⟨l[k - 1],by rw [W0j,W2c hk,W1i,if_pos (by omega),hx],fun e=>h0 (by rw [e];rfl)⟩)]))
 · refine R1 rfl (.eq ?_)
   rw [show k=0 by omega] at hv ⊢
   rw [←hv,W7o,val,Xai]
theorem Xb8 {n : Nat} (h : n<18446744073709551616) : C0 137 [.d (.int .u64 n)] (·=.d (ws (dig n))):=by
 refine En Tryz.func137 fun _ _ _=>?_
 refine Go.Vm.Cv (n % 4294967296 : Nat) rfl ?_ (hr:=by rw [wWm];omega)
 refine Ar (n / 4294967296 : Nat) rfl ?_ (hr:=show _∧_ from ⟨by omega,Ygs n⟩)
 refine Go.Vm.Cv (n / 4294967296 : Nat) rfl ?_
 refine Ce rfl (trim_ok (l:=[n % 4294967296,n / 4294967296]) (.cons (by omega) (.cons (by omega) .nil)) (by simp)) ?_
 exact R1 rfl (.eq (by rw [show val [n % 4294967296,n / 4294967296]=n by simp only [val];omega]))
theorem trim_dig_ok {n : Nat} (h : (dig n).length≤1099511627776) : C0 65 [.d (ws (dig n))] (·=.d (ws (dig n))):=by
 have:=trim_ok (Xad n) h
 rwa [Xaf] at this
theorem Xth {b : Bool} {n : Nat} (h : (dig n).length≤1099511627776) : C0 69 [.d (.bool b),.d (ws (dig n))] (·=.d (dS (b && n != 0) (dig n))):=by
 refine En Tryz.func69 fun _ _ _=>?_
 refine Ce rfl (trim_dig_ok h) ?_
 refine By rfl (fun h=>?_) fun h=>?_ <;> simp only [W0i] at h
 · have : n=0:=Xrz.1 (W0l (by omega))
   subst this
   exact R1 rfl (by exact .sd (.pd (.bd (by simp)) (.nil (by rw [Xai];rfl))))
 · have : n≠0:=fun e=>h (by rw [e,Xai];rfl)
   rw [show (b && n != 0)=b by simp [this]]
   exact R0
def dz (z : Int) : D:=dS (decide (z<0)) (dig z.natAbs)
def sg (neg : Bool) (n : Nat) : Int:=if neg then -(n : Int) else (n : Int)
theorem Xv9 {p : Prop} [Decidable p] : dc p=decide p:=by rw [W3t,Xan,decide_eq_true_iff]
instance {p : Prop} [Decidable p] : Dc (decide p) p:=⟨decide_eq_true_iff⟩
theorem Yiy {b : Bool} {n : Nat} : dS (b && n != 0) (dig n)=dz (sg b n):=by
 unfold dz sg
 cases b with
 | true =>
  rw [if_pos rfl,W3x,W1h]
  congr 1
  rw [W3t];simp;omega
 | false=>rw [if_neg (by decide),W1h];congr 1
theorem Xak {b : Bool} {n : Nat} (h : (dig n).length≤1099511627776) : C0 69 [.d (.bool b),.d (ws (dig n))] (·=.d (dz (sg b n))):=by
 have:=Xth (b:=b) h
 rwa [Yiy] at this
theorem Xpf (z : Int) : sg (decide (z<0)) z.natAbs=z:=by
 unfold sg;by_cases h : z<0
 · rw [if_pos (decide_eq_true h)];omega
 · rw [if_neg (by rw [decide_eq_true_eq];exact h)];omega
theorem FromInt_ok {z : Int} (h : -9223372036854775808≤z∧z<9223372036854775808) : C0 67 [.d (.int .i64 z)] (·=.d (dz z)):=by
 have hl : (dig z.natAbs).length≤2:=Xap (by omega)
 refine En Tryz.func67 fun _ _ _=>?_
 refine Go.Vm.Cv (z % 18446744073709551616) rfl ?_ (hr:=wUm _)
 refine By rfl (fun h=>?_) fun h=>?_
 · refine Ne (z.natAbs : Int) rfl ?_ (hr:=by rw [wUm];omega)
   refine Ce rfl (Xb8 (n:=z.natAbs) (by omega)) ?_
   refine Ce rfl (Xak (n:=z.natAbs) (by omega)) ?_
   exact R1 rfl (.eq (by rw [Xv9,Xpf]))
 · refine Ce (r:=.d (ws (dig z.natAbs))) rfl (by have:=Xb8 (n:=z.natAbs) (by omega);rwa [show ((z.natAbs : Nat) : Int)=z % 18446744073709551616 by omega] at this) ?_
   refine Ce rfl (Xak (n:=z.natAbs) (by omega)) ?_
   exact R1 rfl (.eq (by rw [Xv9,Xpf]))
end
section
theorem ww {l : List Nat} {j : Nat} {u : Nat} (h : l[j]?=some u) (hw : Xal l) : u<4294967296:=hw u (W0r h)
theorem xat {l : List Nat} {k : Nat} (h : k<l.length) : ∃ x,l[k]?=some x:=⟨_,W0b h⟩
theorem Xij {k : IntKind} {s n : Nat} (hn : n≤k.bits) : arB .shr k s n (s / 2 ^ n : Nat):=by
 refine ⟨by omega,?_⟩
 rw [W6x,W2c hn,show (2 : Int) ^ n=((2 ^ n : Nat) : Int) by rw [W7g];rfl,W1l _ (W5e _)]
 rfl
theorem Xhr {x y : Nat} (hx : (dig x).length≤1099511627775) (hy : (dig y).length≤1099511627775) : C0 342 [.d (ws (dig x)),.d (ws (dig y))] (·=.d (ws (dig (x+y)))):=by
 refine En Tryz.func342 fun _ _ _=>?_
 refine Cu none (fun (a,b)=>[(0,.d (ws (dig a))),(1,.d (ws (dig b)))]) (fun _=>[]) (fun (a,b)=>a+b=x+y∧(dig b).length≤(dig a).length∧(dig a).length≤1099511627775) rfl ?_ fun ⟨a,b⟩ ⟨hs,hle,hbig⟩=>?_
 · refine By rfl (fun h=>?_) fun h=>?_ <;> simp only [W0i] at h
   · exact Jn (y,x) [] rfl ⟨Nat.add_comm _ _,by omega,hy⟩
   · exact Jn (x,y) [] rfl ⟨rfl,by omega,hx⟩
 refine Ar ((dig a).length+1) rfl ?_ (wr (by simp) (by simp only [inK];omega))
 refine Mk 0 rfl (by omega) ?_
 refine Lo (fun (k,lo,cr)=>[(1,.d (ws (dig b))),(5,.own 19 1 0 k),(6,.d (.int .u64 (cr : Nat))),(20,.d (ws (dig a))),(21,.d (.int .i64 (dig a).length)),(22,.d (.int .i64 (k : Nat)))]) (fun (_,lo,_)=>[(19,.arr 1 (lo.map wd))])
  (fun (k,lo,cr)=>k≤(dig a).length∧lo.length=k∧Xal lo∧cr≤1∧val lo+4294967296 ^ k*cr=val ((dig a).take k)+val ((dig b).take k)) (fun (k,_,_)=>(dig a).length - k) (0,[],0) [] rfl ⟨by omega,rfl,.nil,by omega,by simp [val]⟩ ?_ (by exact ⟨by simp only [ws,W0i];rfl,rfl,rfl,rfl,rfl⟩)
 rintro ⟨k,lo,cr⟩ ⟨hk,hl,hw,hcr,hval⟩
 refine By rfl (fun h=>?_) fun h=>?_
 · obtain ⟨u,hu⟩:=xat (l:=dig a) (k:=k) (by omega)
   have hub:=ww hu (Xad a)
   refine Ix k rfl (mp hu) ?_
   refine Go.Vm.Cv u rfl ?_
   refine Ar (cr+u : Nat) rfl ?_
   refine Cu none (fun (s : Nat)=>[(1,.d (ws (dig b))),(5,.own 19 1 0 k),(6,.d (.int .u64 s)),(20,.d (ws (dig a))),(21,.d (.int .i64 (dig a).length)),(22,.d (.int .i64 k))]) (fun _=>[(19,.arr 1 (lo.map wd))])
    (fun s=>s<8589934592∧4294967296 ^ k*s+val lo=val ((dig a).take (k+1))+val ((dig b).take (k+1))) rfl ?_ fun s ⟨hs8,hsv⟩=>?_
   · refine By rfl (fun h2=>?_) fun h2=>?_ <;> simp only [W0i] at h2
     · obtain ⟨u2,hu2⟩:=xat (l:=dig b) (k:=k) (by omega)
       have hub2:=ww hu2 (Xad b)
       refine Ix k rfl (mp hu2) ?_
       refine Go.Vm.Cv u2 rfl ?_
       refine Ar (cr+u+u2 : Nat) rfl ?_
       exact Jn (cr+u+u2) [] rfl ⟨by omega,by rw [Xac hu,Xac hu2,W0w,W0w];omega⟩
     · exact Jn (cr+u) [] rfl ⟨by omega,by rw [Xac hu,Xf0 (l:=dig b) (by omega),W0w];omega⟩
   refine Go.Vm.Cv (s % 4294967296 : Nat) rfl ?_ (by rw [wWm];omega)
   refine ApO ((lo++[s % 4294967296]).map wd) rfl rfl (by simp [hl]) (by simp;rfl) (by simp;omega) ?_
   refine Ar (s / 4294967296 : Nat) rfl ?_ (Xij (n:=32) (by decide))
   refine Ar (k+1 : Nat) rfl ?_
   refine Bk (k+1,lo++[s % 4294967296],s / 4294967296) [(46,19)] rfl ⟨by show k+1≤_;omega,by simp [hl],hw.app (.cons (by omega) .nil),by show s / 4294967296≤1;omega,?_⟩ (by show _ - (k+1)<_ - k;omega) (by exact ⟨by simp [hl];rfl,rfl,rfl,rfl,rfl⟩)
   rw [Xec,hl,←hsv,W0s,W0q]
   have e2 : 4294967296 ^ k*s=4294967296 ^ k*(s % 4294967296)+4294967296 ^ k*(4294967296*(s / 4294967296)):=by rw [←W0w];congr 1;omega
   simp only [val,W2z,W2n]
   omega
 · have hkn : k=(dig a).length:=by omega
   have hfin : val lo+4294967296 ^ k*cr=x+y:=by rw [hval,W0a (by omega),W0a (by omega),Xaf,Xaf,hs]
   refine By rfl (fun h=>?_) fun h=>?_
   · refine Go.Vm.Cv cr rfl ?_
     refine ApO ((lo++[cr]).map wd) rfl rfl (by simp [hl]) (by simp;rfl) (by simp;omega) ?_
     refine R1 rfl (.own rfl (by simp) ?_)
     have e : val (lo++[cr])=val lo+4294967296 ^ k*cr:=by rw [Xec,hl];simp [val]
     rw [W1b,W2b,←hfin,←e,Xd9 (hw.app (.cons (by omega) .nil)) (.inr ⟨cr,by simp,by omega⟩)]
   · have hc0 : cr=0:=by omega
     subst hc0
     refine R1 rfl (.own rfl (by simp [hl]) ?_)
     rw [W1b,W0a (by simp [hl]),←hfin,W2z,W2n,Xd9 hw]
     rcases W2o k with hk0 | hk0
     · exact .inl (W0l (by rw [hl];exact hk0))
     · have ha : a≠0:=fun hh=>by rw [hh,Xai] at hkn;simp at hkn;omega
       have hlb:=Xmk ha
       refine Xjp hw (by omega) ?_
       rw [hl,hkn]
       have hab : a≤x+y:=by omega
       rw [←hkn] at hlb ⊢
       omega
theorem oa {l : List Nat} {n : Nat} (h : l.length=n) : ((l.map wd).drop 0).take n=l.map wd:=by rw [W1b,W0a (by simp [h])]
theorem lw (l : List Nat) : (l.map wd).length=l.length:=W0i ..
theorem Xdo {x y : Nat} (hx : (dig x).length≤1099511627776) (hle : y≤x) : C0 343 [.d (ws (dig x)),.d (ws (dig y))] (·=.d (ws (dig (x - y)))):=by
 have hll:=Xao hle
 refine En Tryz.func343 fun _ _ _=>?_
 refine Mk (dig x).length rfl (by simp only [lw];omega) ?_ (by simp only [lw])
 refine Lo (fun (k,lo,br)=>[(1,.d (ws (dig y))),(5,.own 12 1 0 (dig x).length),(6,.d (.int .u64 (br : Nat))),(13,.d (ws (dig x))),(14,.d (.int .i64 (dig x).length)),(15,.d (.int .i64 (k : Nat)))]) (fun (_,lo,_)=>[(12,.arr 1 (lo.map wd))])
  (fun (k,lo,br)=>k≤(dig x).length∧lo.length=(dig x).length∧Xal lo∧br≤1∧val (lo.take k)+val ((dig y).take k)+4294967296 ^ k*0=val ((dig x).take k)+4294967296 ^ k*br) (fun (k,_,_)=>(dig x).length - k) (0,List.replicate (dig x).length 0,0) [] rfl
  ⟨by omega,by simp,fun _ h=>by rw [(W5t.1 h).2];omega,by omega,by simp [val]⟩ ?_ (by exact ⟨by simp only [lw,ws];rfl,by simp only [W2d];rfl,rfl,rfl,rfl⟩)
 rintro ⟨k,lo,br⟩ ⟨hk,hl,hw,hbr,hval⟩
 rw [W2z,W2n] at hval
 refine By rfl (fun h=>?_) fun h=>?_
 · obtain ⟨u,hu⟩:=xat (l:=dig x) (k:=k) (by omega)
   have hub:=ww hu (Xad x)
   refine Ix k rfl (mp hu) ?_
   refine Go.Vm.Cv u rfl ?_
   refine Ar ((u+18446744073709551616 - br) % 18446744073709551616 : Nat) rfl ?_ (by show _=_;rw [wUm];omega)
   refine Cu none (fun (s : Nat)=>[(1,.d (ws (dig y))),(5,.own 12 1 0 (dig x).length),(7,.d (.int .i64 k)),(9,.d (.int .u64 s)),(13,.d (ws (dig x))),(14,.d (.int .i64 (dig x).length)),(15,.d (.int .i64 k))]) (fun _=>[(12,.arr 1 (lo.map wd))])
    (fun s=>s<18446744073709551616∧s / 9223372036854775808≤1∧∃ v,s % 4294967296+v+br=u+4294967296*(s / 9223372036854775808)∧val ((dig y).take (k+1))=val ((dig y).take k)+4294967296 ^ k*v) rfl ?_ fun s ⟨hs,hs2,v,hsv,hyv⟩=>?_
   · refine By rfl (fun h2=>?_) fun h2=>?_ <;> simp only [lw] at h2
     · obtain ⟨u2,hu2⟩:=xat (l:=dig y) (k:=k) (by omega)
       have hub2:=ww hu2 (Xad y)
       refine Ix k rfl (mp hu2) ?_
       refine Go.Vm.Cv u2 rfl ?_
       refine Ar ((u+18446744073709551616 - br+18446744073709551616 - u2) % 18446744073709551616 : Nat) rfl ?_ (by show _=_;rw [wUm];omega)
       exact Jn ((u+18446744073709551616 - br+18446744073709551616 - u2) % 18446744073709551616) [] rfl ⟨by omega,by omega,u2,by omega,Xac hu2⟩
     · exact Jn ((u+18446744073709551616 - br) % 18446744073709551616) [] rfl ⟨by omega,by omega,0,by omega,by rw [Xf0 (by omega)];rfl⟩
   refine Go.Vm.Cv (s % 4294967296 : Nat) rfl ?_ (by rw [wWm];omega)
   refine Eo k rfl (by omega) ?_
   refine Sto rfl (by simp only [lw];omega) ms ?_
   refine Ar (s / 9223372036854775808 : Nat) rfl ?_ (Xij (n:=63) (by decide))
   refine Ar (k+1 : Nat) rfl ?_
   refine Bk (k+1,lo.set k (s % 4294967296),s / 9223372036854775808) [] rfl ⟨by omega,by simp [hl],fun x hx=>(W4s hx).elim (hw x) fun e=>by rw [e];omega,by omega,?_⟩ (by show _ - (k+1)<_ - k;omega)
   rw [W2z,W2n,Xbc (by omega),hyv,Xac hu,W0s,W0q]
   have e : 4294967296 ^ k*(s % 4294967296+v+br)=4294967296 ^ k*(u+4294967296*(s / 9223372036854775808)):=by rw [hsv]
   simp only [W0w] at e
   omega
 · have hkn : k=(dig x).length:=by omega
   rw [hkn,W0a (by omega),W0a (by omega),W0a (by omega),Xaf,Xaf] at hval
   have hvl:=Xbq hw
   rw [hl] at hvl
   have hbr0 : br=0:=by
    rcases W2o br with h0 | h0
    · exact h0
    · have h1 : 4294967296 ^ (dig x).length*1≤4294967296 ^ (dig x).length*br:=W0m _ h0
      omega
   rw [hbr0,W2z] at hval
   refine Fz 12 5 (lo.map wd) rfl (by simp only [lw];omega) (oa hl) ?_
   refine Ce rfl (trim_ok hw (by omega)) ?_
   exact R1 rfl (.eq (by rw [show val lo=x - y by omega]))
theorem Xdt {a : Int} : C0 134 [.d (.int .i64 a)] (·=.b false):=by
 refine En Tryz.func134 fun _ _ _=>?_
 exact R1 rfl (by exact (show dc (a≠a)=false by rw [W4j];intro h;exact Xan.1 h rfl) ▸ .rf rfl)
theorem Xds {a : Int} : C0 228 [.d (.int .u32 a)] (·=.b false):=by
 refine En Tryz.func228 fun _ _ _=>?_
 exact R1 rfl (by exact (show dc (a≠a)=false by rw [W4j];intro h;exact Xan.1 h rfl) ▸ .rf rfl)
theorem Xcr {a b : Int} : C0 63 [.d (.int .i64 a),.d (.int .i64 b)] (·=.d (.int .i64 (Xa1 a b))):=by
 refine En Tryz.func63 fun _ _ _=>?_
 refine Ce rfl Xdt ?_
 refine Ce rfl Xdt ?_
 refine No rfl nofun ?_
 refine No rfl nofun ?_
 refine By rfl (fun h=>?_) fun h=>?_
 · exact R1 rfl (.eq (by rw [Xa1,if_pos h]))
 · refine By rfl (fun h1=>?_) fun h1=>?_
   · exact R1 rfl (.eq (by rw [Xa1,if_neg h,if_pos h1]))
   · exact R1 rfl (.eq (by rw [Xa1,if_neg h,if_neg h1]))
theorem Xfq {a b : Int} : C0 135 [.d (.int .u32 a),.d (.int .u32 b)] (·=.d (.int .i64 (Xa1 a b))):=by
 refine En Tryz.func135 fun _ _ _=>?_
 refine Ce rfl Xds ?_
 refine Ce rfl Xds ?_
 refine No rfl nofun ?_
 refine No rfl nofun ?_
 refine By rfl (fun h=>?_) fun h=>?_
 · exact R1 rfl (.eq (by rw [Xa1,if_pos h]))
 · refine By rfl (fun h1=>?_) fun h1=>?_
   · exact R1 rfl (.eq (by rw [Xa1,if_neg h,if_pos h1]))
   · exact R1 rfl (.eq (by rw [Xa1,if_neg h,if_neg h1]))
theorem Xbt {x y : Nat} (hx : (dig x).length≤1099511627776) : C0 64 [.d (ws (dig x)),.d (ws (dig y))] (·=.d (.int .i64 (Xa1 x y))):=by
 refine En Tryz.func64 fun _ _ _=>?_
 refine By rfl (fun h=>?_) fun h=>?_ <;> simp only [lw] at h
 · refine Ce rfl Xcr ?_
   refine R1 rfl (.eq ?_)
   simp only [lw]
   congr 1
   have hne : (dig x).length≠(dig y).length:=by omega
   rcases Nat.lt_or_gt_of_ne hne with hl | hl
   · have:=Xdc hl
     rw [Xa1,Xa1,if_pos (by omega),if_pos (by omega)]
   · have:=Xdc hl
     rw [Xa1,Xa1,if_neg (by omega),if_pos (by omega),if_neg (by omega),if_pos (by omega)]
 · refine Ar ((dig x).length - 1 : Int) rfl ?_ (wr (by simp only [lw]) (by simp only [inK];omega))
   refine Lo (fun (k : Nat)=>[(0,.d (ws (dig x))),(1,.d (ws (dig y))),(5,.d (.int .i64 ((k : Int) - 1)))]) (fun _=>[]) (fun k=>k≤(dig x).length∧(dig x).drop k=(dig y).drop k) (fun k=>k) (dig x).length [] rfl ⟨by omega,by rw [W1x (by omega),W1x (by omega)]⟩ fun k ⟨hk,hd⟩=>?_
   refine By rfl (fun h1=>?_) fun h1=>?_
   · obtain ⟨u,hu⟩:=xat (l:=dig x) (k:=k - 1) (by omega)
     obtain ⟨v,hv⟩:=xat (l:=dig y) (k:=k - 1) (by omega)
     refine Dw rfl ?_
     refine Ix (k - 1) rfl (mp hu) ?_
     refine Ix (k - 1) rfl (mp hv) ?_
     refine By rfl (fun h2=>?_) fun h2=>?_
     · refine Dw rfl ?_
       refine Ix (k - 1) rfl (mp hu) ?_
       refine Ix (k - 1) rfl (mp hv) ?_
       refine Ce rfl Xfq ?_
       refine R1 rfl (.eq ?_)
       congr 1
       have hne : u≠v:=by omega
       have hd' : (dig x).drop (k - 1+1)=(dig y).drop (k - 1+1):=by rw [show k - 1+1=k from by omega];exact hd
       rcases Nat.lt_or_gt_of_ne hne with hl | hl
       · have:=Xi0 (Xad x) (by omega) (by omega) hu hv hd' hl
         rw [Xaf,Xaf] at this
         rw [Xa1,Xa1,if_pos (by omega),if_pos (by omega)]
       · have:=Xi0 (Xad y) (by omega) (by omega) hv hu hd'.symm hl
         rw [Xaf,Xaf] at this
         rw [Xa1,Xa1,if_neg (by omega),if_pos (by omega),if_neg (by omega),if_pos (by omega)]
     · refine Ar ((k - 1 : Nat) - 1 : Int) rfl ?_
       refine Bk (k - 1) [] rfl ⟨by omega,?_⟩ (by show k - 1<k;omega)
       have huv : u=v:=by omega
       rw [W3a (l:=dig x) (i:=k - 1) (by omega),W3a (l:=dig y) (i:=k - 1) (by omega),show k - 1+1=k from by omega,hd]
       rw [W0b (by omega)] at hu hv
       injection hu with hu
       injection hv with hv
       rw [hu,hv,huv]
   · have hk0 : k=0:=by omega
     rw [hk0,W1b,W1b] at hd
     have hxy : x=y:=by rw [←Xaf x,hd,Xaf]
     exact R1 rfl (.eq (by rw [hxy,Xa1,if_neg (by omega),if_neg (by omega)]))
end
section
theorem Yl4 {a b n : Nat} (ha : a<2 ^ n) (hb : b<2 ^ n) : (BitVec.ofInt n (a : Int) ||| BitVec.ofInt n (b : Int)).toNat=a ||| b:=by
 simp [BitVec.toNat_or,BitVec.toNat_ofInt]
 rw [W3p ha,W3p hb]
theorem Yj9 {a b r : Nat} (ha : a<4294967296) (hb : b<4294967296) (h : a ||| b=r) (hr : r<4294967296) : arB .or .u32 a b r:=by
 show IntKind.u32.wrap _=_
 rw [show IntKind.bits .u32=32 from rfl,Yl4 ha hb,h]
 exact wW (by omega)
theorem Ya8 {a b r : Nat} (ha : a<18446744073709551616) (hb : b<18446744073709551616) (h : a ||| b=r) (hr : r<18446744073709551616) : arB .or .u64 a b r:=by
 show IntKind.u64.wrap _=_
 rw [show IntKind.bits .u64=64 from rfl,Yl4 ha hb,h]
 exact wU (by omega)
theorem Xhh {u n r : Nat} (h : u*2 ^ n=r) (hr : r<18446744073709551616) (hn : n≤64) : arB .shl .u64 u n r:=⟨by omega,by subst h;exact Ygt hr hn⟩
theorem Xbj {l : List Nat} (hl : l.length≤1099511627776) : C0 70 [.d (ws l)] (·=.d (ws l)):=by
 refine En Tryz.func70 fun _ _ _=>?_
 refine Ub rfl (fun h=>?_) ?_
 · exact R1 rfl (.nil h)
 · by_cases h : l=[]
   · subst h
     refine ApE rfl rfl (by decide) ?_
     exact R1 rfl (.lit rfl)
   · have h0:=W5q.2 h
     refine ApL (l.map wd) rfl rfl (by simpa using h0) (by simpa using hl) ?_
     exact R1 rfl (.own rfl (by simp) (by simp only [W1b];exact W0a (by simp)))
theorem Xjt {x y : Nat} (hx : (dig x).length≤549755813888) (hy : (dig y).length≤549755813888) : C0 169 [.d (ws (dig x)),.d (ws (dig y))] (·=.d (ws (dig (x*y)))):=by
 have hz : ∀ {x : Nat},(dig x).length=0→x=0:=fun h=>Xrz.1 (W0l h)
 refine En Tryz.func169 fun _ _ _=>?_
 refine By rfl (fun h=>?_) fun h=>?_ <;> simp only [lw] at h
 · exact R1 rfl (.nil (by rw [hz (by omega : (dig x).length=0),W4v,Xai];rfl))
 refine By rfl (fun h=>?_) fun h=>?_ <;> simp only [lw] at h
 · exact R1 rfl (.nil (by rw [hz (by omega : (dig y).length=0),W2z,Xai];rfl))
 refine Ar ((dig x).length+(dig y).length : Nat) rfl ?_ (wr (by simp only [lw];omega) (by simp only [inK];omega))
 refine Mk ((dig x).length+(dig y).length) rfl (by omega) ?_
 refine Lo (fun (i,lo)=>[(1,.d (ws (dig y))),(5,.own 24 1 0 ((dig x).length+(dig y).length)),(25,.d (ws (dig x))),(26,.d (.int .i64 (dig x).length)),(27,.d (.int .i64 (i : Nat)))]) (fun (_,lo)=>[(24,.arr 1 (lo.map wd))])
  (fun (i,lo)=>i≤(dig x).length∧lo.length=(dig x).length+(dig y).length∧Xal lo∧val (lo.take (i+(dig y).length))=val ((dig x).take i)*y∧∀ j,i+(dig y).length≤j→j<(dig x).length+(dig y).length→lo[j]?=some 0) (fun (i,_)=>(dig x).length - i)
  (0,List.replicate ((dig x).length+(dig y).length) 0) [] rfl ⟨by omega,by simp,fun _ h=>by rw [(W5t.1 h).2];omega,by rw [W5b,Xbm];simp [val],fun j _ h=>by rw [W5a,if_pos h]⟩ ?_ (by exact ⟨by simp only [lw,ws];rfl,by simp only [W2d];rfl,rfl,rfl,rfl⟩)
 rintro ⟨i,lo0⟩ ⟨hi,hl0,hw0,hval,hz0⟩
 refine By rfl (fun h=>?_) fun h=>?_
 · obtain ⟨u,hu⟩:=xat (l:=dig x) (k:=i) (by omega)
   have hub:=ww hu (Xad x)
   refine Ix i rfl (mp hu) ?_
   refine Lo (fun (k,lo,cr)=>[(1,.d (ws (dig y))),(5,.own 24 1 0 ((dig x).length+(dig y).length)),(6,.d (.int .i64 i)),(7,.d (.int .u32 u)),(8,.d (.int .u64 (cr : Nat))),(25,.d (ws (dig x))),(26,.d (.int .i64 (dig x).length)),(27,.d (.int .i64 i)),(32,.d (ws (dig y))),(33,.d (.int .i64 (dig y).length)),(34,.d (.int .i64 (k : Nat)))]) (fun (_,lo,_)=>[(24,.arr 1 (lo.map wd))])
    (fun (k,lo,cr)=>k≤(dig y).length∧lo.length=(dig x).length+(dig y).length∧Xal lo∧cr<4294967296∧(∀ j,i+k≤j→lo[j]?=lo0[j]?)∧val (lo.take (i+k))+4294967296 ^ (i+k)*cr=val (lo0.take (i+k))+4294967296 ^ i*(u*val ((dig y).take k))) (fun (k,_,_)=>(dig y).length - k)
    (0,lo0,0) [] rfl ⟨by omega,hl0,hw0,by omega,fun _ _=>rfl,by simp [val]⟩ ?_ (by exact ⟨by simp only [lw,ws];rfl,rfl,rfl,rfl,rfl⟩)
   rintro ⟨k,lo,cr⟩ ⟨hk,hl,hw,hcr,hrest,hval2⟩
   refine By rfl (fun h=>?_) fun h=>?_
   · obtain ⟨v,hv⟩:=xat (l:=dig y) (k:=k) (by omega)
     have hvb:=ww hv (Xad y)
     obtain ⟨w,hw1⟩:=xat (l:=lo) (k:=i+k) (by omega)
     have hwb:=ww hw1 hw
     have huv : u*v≤4294967295*4294967295:=W1t (by omega) (by omega)
     refine Ix k rfl (mp hv) ?_
     refine Go.Vm.Cv u rfl ?_
     refine Go.Vm.Cv v rfl ?_
     refine Ar (u*v : Nat) rfl ?_ (wr (W2t ..).symm (by simp only [inK];omega))
     refine Ar (i+k : Nat) rfl ?_
     refine Eo (i+k) rfl (by omega) ?_
     refine Ld (wd w) rfl (mp hw1) ?_
     refine Go.Vm.Cv w rfl ?_
     refine Ar (u*v+w : Nat) rfl ?_
     obtain ⟨s,hs⟩ : ∃ s,s=cr+(u*v+w):=⟨_,rfl⟩
     have hs2 : s<18446744073709551616:=by omega
     refine Ar (s : Nat) rfl ?_
     refine Ar (i+k : Nat) rfl ?_
     refine Go.Vm.Cv (s % 4294967296 : Nat) rfl ?_ (by rw [wWm];omega)
     refine Eo (i+k) rfl (by omega) ?_
     refine Sto rfl (by simp only [lw];omega) ms ?_
     refine Ar (s / 4294967296 : Nat) rfl ?_ (Xij (n:=32) (by decide))
     refine Ar (k+1 : Nat) rfl ?_
     refine Bk (k+1,lo.set (i+k) (s % 4294967296),s / 4294967296) [] rfl ⟨by omega,by simp [hl],fun x hx=>(W4s hx).elim (hw x) fun e=>by rw [e];omega,by omega,fun j hj=>by rw [W1w (by omega)];exact hrest j (by omega),?_⟩ (by show _ - (k+1)<_ - k;omega)
     have hw0' : lo0[i+k]?=some w:=by rw [←hrest (i+k) (W0c _)];exact hw1
     rw [←W4a,Xbc (by omega),Xac hw0',Xac hv,W0s,W0q,W0w u,W0w (4294967296 ^ i)]
     have e : 4294967296 ^ (i+k)*s=4294967296 ^ (i+k)*(s % 4294967296)+4294967296 ^ (i+k)*(4294967296*(s / 4294967296)):=by rw [←W0w];congr 1;omega
     have e2 : 4294967296 ^ (i+k)*s=4294967296 ^ (i+k)*cr+4294967296 ^ i*(u*(4294967296 ^ k*v))+4294967296 ^ (i+k)*w:=by
      rw [hs,W0w,W0w,W0u]
      have : 4294967296 ^ i*4294967296 ^ k*(u*v)=4294967296 ^ i*(u*(4294967296 ^ k*v)):=by
       rw [W0q,W4i (4294967296 ^ k) u v]
      omega
     omega
   · have hkm : k=(dig y).length:=by omega
     subst hkm
     refine Ar (i+(dig y).length : Nat) rfl ?_ (wr (by simp only [lw];omega) (by simp only [inK];omega))
     refine Go.Vm.Cv cr rfl ?_
     refine Eo (i+(dig y).length) rfl (by omega) ?_
     refine Sto rfl (by simp only [lw];omega) ms ?_
     refine Ar (i+1 : Nat) rfl ?_
     refine Bk (i+1,lo.set (i+(dig y).length) cr) [] rfl ⟨by omega,by simp [hl],fun x hx=>(W4s hx).elim (hw x) fun e=>by rw [e];omega,?_,fun j h1 h2=>by rw [W1w (by omega),hrest j (by omega)];exact hz0 j (by omega) h2⟩ (by show _ - (i+1)<_ - i;omega)
     rw [show i+1+(dig y).length=i+(dig y).length+1 from by omega,Xbc (by omega),Xac hu,hval2,hval,W0a (l:=dig y) (by omega),Xaf,W1g,W0q]
 · have him : i=(dig x).length:=by omega
   rw [him,W0a (by omega),W0a (by omega),Xaf] at hval
   refine Fz 17 5 (lo0.map wd) rfl (by simp only [lw];omega) (oa hl0) ?_
   refine Ce rfl (trim_ok hw0 (by omega)) ?_
   exact R1 rfl (.eq (by rw [hval]))
end
section
theorem Xgo {l : List Nat} {k d : Nat} (h : Xal l) (hd : d<4294967296) : Xal (l.set k d):=fun x hx=>(W4s hx).elim (h x) fun e=>by rw [e];exact hd
theorem Xe6 (n : Nat) : Xal (List.replicate n 0):=fun _ h=>by rw [(W5t.1 h).2];omega
theorem Yap {u n : Nat} (hu : u<4294967296) (hn : n<32) : u*2 ^ n<9223372036854775808:=by
 have h1 : 2 ^ n≤2 ^ 31:=W0k (by decide) (by omega)
 have h2 : u*2 ^ n≤4294967295*2 ^ 31:=W1t (by omega) h1
 omega
theorem Xli {u v n : Nat} (hu : u<4294967296) (hn : n<32) : (u / 2 ^ n) ||| (v*2 ^ (32 - n) % 4294967296)=u / 2 ^ n+(v % 2 ^ n)*2 ^ (32 - n)∧u / 2 ^ n+(v % 2 ^ n)*2 ^ (32 - n)<4294967296:=by
 have h1:=Xdn v (32 - n) (by omega)
 rw [show 32 - (32 - n)=n from by omega] at h1
 have hd : u / 2 ^ n<2 ^ (32 - n):=by
  rw [W2l (W0n n),←W0u,show 32 - n+n=32 from by omega]
  exact hu
 rw [h1,Nat.or_comm,Xdb _ _ _ hd,Nat.add_comm]
 refine ⟨rfl,?_⟩
 have h2 : v % 2 ^ n+1≤2 ^ n:=W1y _ (W0n _)
 have h3:=W0y (2 ^ (32 - n)) h2
 rw [←W0u,show n+(32 - n)=32 from by omega,W2y] at h3
 omega
theorem Xpb {a b u v n m P : Nat} (hn : n<32) (h : a*2 ^ n+b=P+4294967296 ^ m*(u % 2 ^ n)) :
 (a+4294967296 ^ m*(u / 2 ^ n+(v % 2 ^ n)*2 ^ (32 - n)))*2 ^ n+b=P+4294967296 ^ m*u+4294967296 ^ (m+1)*(v % 2 ^ n):=by
 have hB : 4294967296 ^ (m+1)=4294967296 ^ m*4294967296:=W0s ..
 have e2 : v % 2 ^ n*2 ^ (32 - n)*2 ^ n=4294967296*(v % 2 ^ n):=by
  rw [W0q,←W0u,show 32 - n+n=32 from by omega,W1d]
 rw [W1g,W0q (4294967296 ^ m),W1g (u / 2 ^ n),e2,hB,W0q (4294967296 ^ m),W0w (4294967296 ^ m)]
 have e : 4294967296 ^ m*u=4294967296 ^ m*(u / 2 ^ n*2 ^ n)+4294967296 ^ m*(u % 2 ^ n):=by
  rw [←W0w];congr 1;rw [W1d (u / 2 ^ n)];exact (W2j ..).symm
 omega
theorem Xgg {n x : Nat} (hx : (dig x).length≤549755813888) (hn32 : n<32) : CO0 352 [.d (ws (dig x)),.d (.int .i64 n)] fun v ob=>∃ l,l.length=(dig x).length+1∧Xal l∧val l=x*2 ^ n∧v=.own 1000000 1 0 l.length∧ob=.arr 1 (l.map wd):=by
 have hp:=W0n n
 have hp32 : 2 ^ n≤2147483648:=by have : 2 ^ n≤2 ^ 31:=W0k (by decide) (by omega);omega
 refine EnW Tryz.func352 fun _ _ _ _=>?_
 refine Ar ((dig x).length+1 : Nat) rfl ?_ (wr (by simp only [lw];omega) (by simp only [inK];omega))
 refine Mk ((dig x).length+1) rfl (by omega) ?_
 refine Lo (fun (i,lo)=>[(1,.d (.int .i64 n)),(5,.own 12 1 0 ((dig x).length+1)),(13,.d (ws (dig x))),(14,.d (.int .i64 (dig x).length)),(15,.d (.int .i64 (i : Nat)))]) (fun (_,lo)=>[(12,.arr 1 (lo.map wd))])
  (fun (i,lo)=>i≤(dig x).length∧lo.length=(dig x).length+1∧Xal lo∧val (lo.take (i+1))=val ((dig x).take i)*2 ^ n∧∃ w,lo[i]?=some w∧w<2 ^ n) (fun (i,_)=>(dig x).length - i) (0,List.replicate ((dig x).length+1) 0) [] rfl
  ⟨by omega,by simp,Xe6 _,by rw [W5b,Xbm];simp [val],0,by simp,hp⟩ ?_ (by exact ⟨by simp only [lw,ws];rfl,by simp only [W2d];rfl,rfl,rfl,rfl⟩)
 rintro ⟨i,lo⟩ ⟨hi,hl,hwo,hval,w,hw,hwn⟩
 refine By rfl (fun h=>?_) fun h=>?_
 · obtain ⟨u,hu⟩:=xat (l:=dig x) (k:=i) (by omega)
   have hub:=ww hu (Xad x)
   have hs1:=Yap hub hn32
   have hs2:=Xdn u n (by omega)
   obtain ⟨s,hs⟩ : ∃ s,s=u*2 ^ n:=⟨_,rfl⟩
   have hshl:=Xhh hs.symm (by omega) (by omega : n≤64)
   rw [←hs] at hs1 hs2
   have hor : w ||| s % 4294967296=s % 4294967296+w:=by rw [Nat.or_comm,hs2];exact Xdb _ _ _ hwn
   have hlt : s % 4294967296+w<4294967296:=by
    rw [hs2]
    have h1 : u % 2 ^ (32 - n)+1≤2 ^ (32 - n):=W1y _ (W0n _)
    have h2:=W0y (2 ^ n) h1
    rw [←W0u,show 32 - n+n=32 from by omega,W2y] at h2
    omega
   refine Ix i rfl (mp hu) ?_
   refine Go.Vm.Cv u rfl ?_
   refine Ar s rfl ?_ hshl
   refine Eo i rfl (by omega) ?_
   refine Ld (wd w) rfl (mp hw) ?_
   refine Go.Vm.Cv (s % 4294967296 : Nat) rfl ?_ (by rw [wWm];omega)
   refine Ar (s % 4294967296+w : Nat) rfl ?_ (Yj9 (by omega) (by omega) hor hlt)
   refine Eo i rfl (by omega) ?_
   refine Sto rfl (by simp only [lw];omega) ms ?_
   refine Ar (i+1 : Nat) rfl ?_
   refine Ar (s / 4294967296 : Nat) rfl ?_ (Xij (n:=32) (by decide))
   refine Go.Vm.Cv (s / 4294967296 : Nat) rfl ?_
   refine Eo (i+1) rfl (by omega) ?_
   refine Sto rfl (by simp only [W0i,W3i];omega) ms ?_
   refine Ar (i+1 : Nat) rfl ?_
   refine Bk (i+1,(lo.set i (s % 4294967296+w)).set (i+1) (s / 4294967296)) [] rfl ⟨by omega,by simp [hl],Xgo (Xgo hwo hlt) (by omega),?_,s / 4294967296,by rw [W2u (by rw [W3i];omega)],?_⟩ (by show _ - (i+1)<_ - i;omega)
   · rw [Xbc (by rw [W3i];omega),Xbc (by omega),Xac hu,W1g,←hval,Xac hw,W0q,←hs,W0s,W0w,W0q]
     have e : 4294967296 ^ i*s=4294967296 ^ i*(s % 4294967296)+4294967296 ^ i*(4294967296*(s / 4294967296)):=by rw [←W0w];congr 1;omega
     omega
   · rw [W2l (by decide),hs,W1d]
     exact Nat.mul_lt_mul_of_pos_left hub hp
 · have him : i=(dig x).length:=by omega
   rw [him,W0a (by omega),W0a (by omega),Xaf] at hval
   exact Rw [(12,1000000)] [(1000000,.arr 1 (lo.map wd))] rfl (.one (.rf rfl) rfl rfl) ⟨_,rfl,lo,hl,hwo,hval,by rw [hl];rfl,rfl⟩
theorem Xfb {n : Nat} {l : List Nat} (hw : Xal l) (hx : l.length≤549755813888) (hn32 : n<32) : C0 355 [.d (ws l),.d (.int .i64 n)] fun v=>∃ l',val l'=val l / 2 ^ n∧Xal l'∧l'.length=l.length∧v=.d (ws l'):=by
 have hp:=W0n n
 have hp32 : 2 ^ n≤2147483648:=by have : 2 ^ n≤2 ^ 31:=W0k (by decide) (by omega);omega
 refine En Tryz.func355 fun _ _ _=>?_
 refine Mk l.length rfl (by simp only [lw];omega) ?_ (by simp only [lw])
 refine Lo (fun (i,lo)=>[(0,.d (ws l)),(1,.d (.int .i64 n)),(5,.own 10 1 0 l.length),(11,.d (ws l)),(12,.d (.int .i64 l.length)),(13,.d (.int .i64 (i : Nat)))]) (fun (_,lo)=>[(10,.arr 1 (lo.map wd))])
  (fun (i,lo)=>i≤l.length∧lo.length=l.length∧Xal lo∧val (lo.take i)*2 ^ n+val l % 2 ^ n=val (l.take i)+4294967296 ^ i*(l.getD i 0 % 2 ^ n)) (fun (i,_)=>l.length - i) (0,List.replicate l.length 0) [] rfl
  ⟨by omega,by simp,Xe6 _,by simp [val,Xg9 l n (by omega)]⟩ ?_ (by exact ⟨by simp only [lw,ws];rfl,by simp only [W2d];rfl,rfl,rfl,rfl⟩)
 rintro ⟨i,lo⟩ ⟨hi,hl,hwo,hval⟩
 refine By rfl (fun h=>?_) fun h=>?_
 · obtain ⟨u,hu⟩:=xat (l:=l) (k:=i) (by omega)
   have hub:=ww hu hw
   have hdu : u / 2 ^ n<4294967296:=W1r (W3u ..) hub
   have hgu : l.getD i 0=u:=by rw [W2q,hu];rfl
   rw [hgu] at hval
   refine Ix i rfl (mp hu) ?_
   refine Ar (u / 2 ^ n : Nat) rfl ?_ (Xij (show n≤32 by omega))
   refine Eo i rfl (by omega) ?_
   refine Sto rfl (by simp only [lw];omega) ms ?_
   refine Ar (i+1 : Nat) rfl ?_
   refine Cu none (fun lo' : List Nat=>[(0,.d (ws l)),(1,.d (.int .i64 n)),(5,.own 10 1 0 l.length),(11,.d (ws l)),(12,.d (.int .i64 l.length)),(13,.d (.int .i64 i))]) (fun lo'=>[(10,.arr 1 (lo'.map wd))])
    (fun lo'=>∃ v,l.getD (i+1) 0=v∧lo'=lo.set i (u / 2 ^ n+(v % 2 ^ n)*2 ^ (32 - n))∧u / 2 ^ n+(v % 2 ^ n)*2 ^ (32 - n)<4294967296) rfl ?_ ?_
   · refine By rfl (fun h2=>?_) fun h2=>?_ <;> simp only [lw] at h2
     · obtain ⟨v,hv⟩:=xat (l:=l) (k:=i+1) (by omega)
       have hvb:=ww hv hw
       have hsd:=Xli (v:=v) hub hn32
       have hv64 : v*2 ^ (32 - n)<18446744073709551616:=by
        have h1 : 2 ^ (32 - n)≤2 ^ 32:=W0k (by decide) (by omega)
        have h2 : v*2 ^ (32 - n)≤4294967295*2 ^ 32:=W1t (by omega) h1
        omega
       obtain ⟨s,hs⟩ : ∃ s,s=v*2 ^ (32 - n):=⟨_,rfl⟩
       have hshl:=Xhh hs.symm (by omega) (by omega : 32 - n≤64)
       rw [←hs] at hsd hv64
       refine Dw rfl ?_
       refine Eo i rfl (by omega) ?_
       refine Ld (wd (u / 2 ^ n)) rfl (mp (W2u (by omega))) ?_
       refine Ar (i+1 : Nat) rfl ?_
       refine Ix (i+1) rfl (mp hv) ?_
       refine Go.Vm.Cv v rfl ?_
       refine Ar (32 - n : Nat) rfl ?_
       refine Ar s rfl ?_ hshl
       refine Go.Vm.Cv (s % 4294967296 : Nat) rfl ?_ (by rw [wWm];omega)
       refine Ar (u / 2 ^ n+(v % 2 ^ n)*2 ^ (32 - n) : Nat) rfl ?_ (Yj9 hdu (by omega) hsd.1 hsd.2)
       refine Eo i rfl (by omega) ?_
       refine Sto rfl (by simp only [W0i,W3i];omega) ms ?_
       exact Jn (lo.set i (u / 2 ^ n+(v % 2 ^ n)*2 ^ (32 - n))) [] rfl ⟨v,by rw [W2q,hv];rfl,rfl,hsd.2⟩ (by exact ⟨rfl,by rw [List.set_set];rfl,rfl,rfl,rfl⟩)
     · exact Jn (lo.set i (u / 2 ^ n)) [] rfl ⟨0,by rw [W2q,W2a (by omega)];rfl,by simp,by simp;exact hdu⟩
   rintro lo' ⟨v,hv,rfl,hlt⟩
   refine Ar (i+1 : Nat) rfl ?_
   refine Bk (i+1,lo.set i (u / 2 ^ n+(v % 2 ^ n)*2 ^ (32 - n))) [] rfl ⟨by omega,by simp [hl],Xgo hwo hlt,?_⟩ (by show _ - (i+1)<_ - i;omega)
   rw [Xbc (by omega),Xac hu,hv]
   exact Xpb hn32 hval
 · have him : i=l.length:=by omega
   rw [him,W0a (by omega),W0a (by omega),W2q,W2a (by omega)] at hval
   refine Rt rfl (.one (.own rfl (by simp only [lw];omega) (oa hl)) rfl rfl) ⟨lo,?_,hwo,hl,rfl⟩
   simp at hval
   have:=W2j (val l) (2 ^ n)
   rw [W1d] at this
   exact Nat.eq_of_mul_eq_mul_right hp (by omega)
theorem Xkw {x y : Nat} (hx : (dig x).length≤549755813888) (hy : y<4294967296) (hy0 : y≠0) : C0 350 [.d (ws (dig x)),.d (.int .u32 y)] (·=.tup (.pr (.d (ws (dig (x / y)))) (.d (ws (dig (x % y)))))):=by
 refine En Tryz.func350 fun _ _ _=>?_
 refine Mk (dig x).length rfl (by simp only [lw];omega) ?_ (by simp only [lw])
 refine Ar ((dig x).length - 1 : Int) rfl ?_ (wr (by simp only [lw]) (by simp only [inK];omega))
 refine Lo (fun (k,lo,r)=>[(0,.d (ws (dig x))),(1,.d (.int .u32 y)),(6,.own 11 1 0 (dig x).length),(7,.d (.int .u64 (r : Nat))),(8,.d (.int .i64 ((k : Nat) - 1 : Int)))]) (fun (_,lo,_)=>[(11,.arr 1 (lo.map wd))])
  (fun (k,lo,r)=>k≤(dig x).length∧lo.length=(dig x).length∧Xal lo∧r<y∧val (lo.drop k)*y+r=val ((dig x).drop k)) (fun (k,_,_)=>k) ((dig x).length,List.replicate (dig x).length 0,0) [] rfl
  ⟨by omega,by simp,Xe6 _,by omega,by rw [W1x (by simp),W1x (by omega)];simp [val]⟩ ?_ (by exact ⟨rfl,by simp only [W2d];rfl,rfl,rfl,rfl⟩)
 rintro ⟨k,lo,r⟩ ⟨hk,hl,hwo,hr,hval⟩
 refine By rfl (fun h=>?_) fun h=>?_
 · obtain ⟨u,hu⟩:=xat (l:=dig x) (k:=k - 1) (by omega)
   have hub:=ww hu (Xad x)
   obtain ⟨s,hs⟩ : ∃ s,s=r*2 ^ 32+u:=⟨_,rfl⟩
   have hs64 : s<18446744073709551616:=by omega
   have hsy : s / y<4294967296:=by
    rw [W2l (by omega)]
    have:=W0y 4294967296 (show r+1≤y by omega)
    omega
   have hsm : s % y<y:=W1y _ (by omega)
   have hq0 : 0≤s / y:=W1c _
   refine Ar (r*2 ^ 32 : Nat) rfl ?_ (Xhh (n:=32) rfl (by omega) (by decide))
   refine Ix (k - 1) rfl (mp hu) ?_
   refine Go.Vm.Cv u rfl ?_
   refine Ar s rfl ?_ (Ya8 (by omega) (by omega) (by rw [Xdb u r 32 (by omega),←hs]) hs64)
   refine Go.Vm.Cv y rfl ?_
   refine Ar (s / y : Nat) rfl ?_ (show _∧_ from ⟨by omega,Yci s y hs64⟩)
   refine Go.Vm.Cv (s / y : Nat) rfl ?_ (wW ⟨W5e _,W6s.2 hsy⟩)
   refine Eo (k - 1) rfl (by omega) ?_
   refine Sto rfl (by simp only [lw];omega) ms ?_
   refine Go.Vm.Cv y rfl ?_
   refine Ar (s % y : Nat) rfl ?_ (show _∧_ from ⟨by omega,Xsy s y⟩)
   refine Ar ((k - 1 : Nat) - 1 : Int) rfl ?_
   refine Bk (k - 1,lo.set (k - 1) (s / y),s % y) [] rfl ⟨by omega,by simp [hl],Xgo hwo hsy,hsm,?_⟩ (by show k - 1<k;omega)
   rw [Xbn hu,show k - 1+1=k from by omega,←hval,drop_set (by omega),val,show k - 1+1=k from by omega]
   have e:=W2j s y
   rw [W1d] at e
   rw [W1g,W0w,W0q]
   omega
 · have hk0 : k=0:=by omega
   subst hk0
   rw [W1b,W1b,Xaf] at hval
   have hq : x / y=val lo:=by rw [←hval,W1d,Nat.mul_add_div (by omega),W5c hr,W2n]
   have hm : x % y=r:=by rw [←hval,W1d,Nat.mul_add_mod,W3p hr]
   refine Fz 9 6 (lo.map wd) rfl (by simp only [lw];omega) (oa hl) ?_
   refine Ce rfl (trim_ok hwo (by omega)) ?_
   refine Ce rfl (Xb8 (n:=r) (by omega)) ?_
   subst hm
   exact RTt rfl (.cons (.eq (by rw [hq])) (.one (.rf rfl) (fun _ _ e=>by cases e) (fun _ _ e=>by cases e)))
theorem Xrc {x : Nat} (hx : x<4294967296) : C0 385 [.d (.int .u32 x)] (·=.d (.int .i64 (bl x))):=by
 refine En Tryz.func385 fun _ _ _=>?_
 refine Cu none (fun ((x1,n1) : Nat × Nat)=>[(0,.d (.int .u32 x1)),(2,.d (.int .i64 n1))]) (fun _=>[]) (fun (x1,n1)=>x1<65536∧bl x=bl x1+n1∧n1≤16) rfl ?_ fun ⟨x1,n1⟩ ⟨hx1,hb1,hn1⟩=>?_
 · refine By rfl (fun h=>?_) fun h=>?_
   · refine Ar (x / 2 ^ 16 : Nat) rfl ?_ (Xij (n:=16) (by decide))
     exact Jn (x / 2 ^ 16,16) [] rfl ⟨by omega,Xen (by omega),W0c _⟩
   · exact Jn (x,0) [] rfl ⟨by omega,rfl,by omega⟩
 refine Cu none (fun ((x1,n1) : Nat × Nat)=>[(0,.d (.int .u32 x1)),(2,.d (.int .i64 n1))]) (fun _=>[]) (fun (x1,n1)=>x1<256∧bl x=bl x1+n1∧n1≤24) rfl ?_ fun ⟨x2,n2⟩ ⟨hx2,hb2,hn2⟩=>?_
 · refine By rfl (fun h=>?_) fun h=>?_
   · refine Ar (x1 / 2 ^ 8 : Nat) rfl ?_ (Xij (n:=8) (by decide))
     refine Ar (n1+8 : Nat) rfl ?_
     exact Jn (x1 / 2 ^ 8,n1+8) [] rfl ⟨by omega,by rw [hb1,Xen (n:=x1) (k:=8) (by omega)];omega,by omega⟩
   · exact Jn (x1,n1) [] rfl ⟨by omega,hb1,by omega⟩
 have hbl : bl x2<256:=W0p (Ybr (p:=fun j=>bl j<10) (by decide +kernel) x2 hx2) (by decide)
 refine Go.Vm.Cv x2 rfl ?_
 refine Yx x2 (UInt8.ofNat (bl x2)) rfl (by revert hx2;generalize x2=j;revert j;decide +kernel) ?_
 refine Go.Vm.Cv (bl x2 : Nat) rfl ?_ ((wI ⟨by omega,by rw [Xxm hbl];omega⟩).trans (Xxm hbl))
 refine Ar (bl x : Nat) rfl ?_
 exact R0
theorem Xge {x : Nat} (hx : x<4294967296) (h0 : x≠0) : C0 351 [.d (.int .u32 x)] fun v=>∃ n : Nat,v=.d (.int .i64 n)∧n<32∧2147483648≤x*2 ^ n∧x*2 ^ n<4294967296:=by
 obtain ⟨b1,b2,b3⟩:=Xcf h0
 have hb32 : bl x≤32:=by
  have : 2 ^ (bl x - 1)<2 ^ 32:=W1r b1 hx
  have:=(W2p (by decide : 1<2)).1 this
  omega
 refine En Tryz.func351 fun _ _ _=>?_
 refine Ce rfl (Xrc hx) ?_
 refine Ar (32 - bl x : Nat) rfl ?_
 refine Rt rfl (.one (.rf rfl) rfl rfl) ⟨32 - bl x,rfl,by omega,?_,?_⟩
 · have h1:=W0y (2 ^ (32 - bl x)) b1
   rw [←W0u,show bl x - 1+(32 - bl x)=31 from by omega] at h1
   exact h1
 · have h1:=W3e b2 (W0n (32 - bl x))
   rw [←W0u,show bl x+(32 - bl x)=32 from by omega] at h1
   exact h1
end
section
open Go.RowKit Go.Shelf
attribute [local go_sem] Oper.semAt_some
abbrev Wd:={ x : Nat // x<4294967296 }
def bk (zs : List Wd) (k : Nat) : List (Nat × Wd):=(List.range k).map fun j=>(zs.length - 1 - j,zs[zs.length - 1 - j]?.getD ⟨0,by decide⟩)
theorem Ye0 (zs : List Wd) (k : Nat) : bk zs (k+1)=bk zs k++[(zs.length - 1 - k,zs[zs.length - 1 - k]?.getD ⟨0,by decide⟩)]:=by simp [bk,W7h]
theorem Xwo (zs : List Wd) (k : Nat) : (bk zs k).length=k:=by simp [bk]
structure Kq (n₀ Bs : Nat) (A B : World) : Prop where
 a : Below n₀ A B
 b : B.heap[Bs]?=A.heap[Bs]?
theorem Kq.refl (n₀ Bs : Nat) (A : World) : Kq n₀ Bs A A:=⟨Below.refl _ _,rfl⟩
theorem Kq.trans {n₀ Bs : Nat} {A B C : World} (h : Kq n₀ Bs A B) (k : Kq n₀ Bs B C) : Kq n₀ Bs A C:=⟨h.a.trans k.a,k.b.trans h.b⟩
set_option maxRecDepth 100000 in
set_option maxHeartbeats 2000000 in
theorem Xzr (F : Fence) (n : Nat) (h8 : F.fn 258) (hro : F.round=none) (hn : 1≤n) (l Bs n₀ b off cap : Nat) (zs : List Wd) (hreach : zs.length*4≤140737488351232) (hb : b<n₀) (J Jx : List (Nat × Wd)→World→Prop)
 (hY : ∀ pre x W,J pre W→pre.length<zs.length→YieldAt F (n - 1) Tryz.prog l #[.int .i64 (x.1 : Int),.int .u32 (x.2.1 : Int)] W fun e W' =>
  (e=.returned (.bool true)∧J (pre++[x]) W'∧Kq n₀ Bs W W')∨(e=.returned (.bool false)∧Jx (pre++[x]) W'))
 (W : World) (hBs : W.cell? ⟨Bs,0,none⟩=some (.slice (some ⟨b,off,none⟩) zs.length cap)) (hc : ∀ j,j<zs.length→W.cell? ⟨b,off+j,none⟩=some (.int .u32 ((zs[j]?.getD ⟨0,by decide⟩).1 : Int))) (h0 : J [] W) :
 CallsIn F n Tryz.prog 258 #[.func (.yield l) #[] #[],.pointer (some ⟨Bs,0,none⟩)] W fun e W'=>(∃ v,e=.returned v) ∧
  ((∃ ys,ys=bk zs zs.length∧J ys W')∨(∃ pre,True∧Jx pre W')):=by
 refine callsIn_of_wp Tryz.func258 rfl h8 ?_ hro
 simp only [Tryz.ntmps258,W6b,W0o,W3s,Nat.reduceAdd,Nat.reduceSub,W5j,W5k,W6c,W5r,W4m,W4q]
 gi_wp2
 gi_loopw [3] (fun i wr=>∃ k : Nat,k≤zs.length∧i=.int .i64 ((zs.length : Int) - 1 - k)∧J (bk zs k) wr∧Kq n₀ Bs W wr)
  (fun i _=>(intOf i+1).toNat)
 case atStart=>exact ⟨0,W1c _,by simp,h0,Kq.refl _ _ _⟩
 case round =>
  obtain ⟨k,hk,rfl,hJs,hnx⟩:=hrel
  have hBs':=(World.cell?_of_block hnx.b).trans hBs
  by_cases hlt : k<zs.length
  · obtain ⟨q,hq⟩ : ∃ q,q+(k+1)=zs.length:=⟨zs.length - 1 - k,by omega⟩
    have hqi : ((zs.length : Int) - 1 - k)=(q : Int):=by omega
    have hcx:=(hnx.a.cell (p:=⟨b,off+q,none⟩) hb).trans (hc q (by omega))
    obtain ⟨fn,tmps,assign,body,hy,hR⟩:=hY _ (q,zs[q]?.getD ⟨0,by decide⟩) wr hJs (by rw [Xwo];exact hlt)
    dsimp only at hy
    rw [hqi]
    gi_wp2
    refine hR.mono ?_
    rintro e W3 (⟨rfl,hJ3,hk3⟩ | ⟨rfl,hJx3⟩)
    · gi_wp2
      go_roundw
      case rel=>exact ⟨k+1,by omega,by congr 1;omega,by rw [Ye0,show zs.length - 1 - k=q from by omega];exact hJ3,hnx.trans hk3⟩
      case measure=>simp [intOf]
    · gi_wp2
      refine bodyPost_ret (results_none rfl _ _ _) rfl ?_
      exact ⟨⟨_,rfl⟩,.inr ⟨_,trivial,hJx3⟩⟩
  · obtain rfl : k=zs.length:=by omega
    rw [show ((zs.length : Int) - 1 - (zs.length : Int))=-1 from by omega]
    gi_wp2
    go_end0
    exact ⟨⟨_,rfl⟩,.inl ⟨_,rfl,hJs⟩⟩
set_option maxRecDepth 100000 in
set_option maxHeartbeats 1000000 in
theorem Xmx (F : Fence) (n : Nat) (h8 : F.fn 258) (hro : F.round=none) (l Bs : Nat) (J : List (Nat × Wd)→World→Prop) (W : World) {p : Option Addr} {c : Nat} (hBs : W.cell? ⟨Bs,0,none⟩=some (.slice p 0 c)) (h0 : J [] W) :
 CallsIn F n Tryz.prog 258 #[.func (.yield l) #[] #[],.pointer (some ⟨Bs,0,none⟩)] W fun e W'=>(∃ v,e=.returned v)∧J [] W':=by
 refine callsIn_of_wp Tryz.func258 rfl h8 ?_ hro
 simp only [Tryz.ntmps258,W6b,W0o,W3s,Nat.reduceAdd,Nat.reduceSub,W5j,W5k,W6c,W5r,W4m,W4q]
 gi_wp2
 gi_loopw [3] (fun i wr=>i=.int .i64 (-1)∧J [] wr) (fun _ _=>0)
 case atStart=>exact ⟨rfl,h0⟩
 case round =>
  obtain ⟨rfl,hJs⟩:=hrel
  gi_wp2
  go_end0
  exact ⟨⟨_,rfl⟩,hJs⟩
set_option maxHeartbeats 1000000 in
theorem Xoh (F : Fence) (n : Nat) (h6 : F.fn 184) (hro : F.round=none) (a : Option Addr) (len cap : Nat) (w : World) :
 CallsIn F n Tryz.prog 184 #[.slice a len cap] w fun e w'=>e=.returned (.func (.func 258) #[] #[.pointer (some ⟨w.heap.size,0,none⟩)])∧w'=w.alloc (.cells #[.slice a len cap] 27):=by
 refine callsIn_of_wp Tryz.func184 rfl h6 ?_ hro
 simp only [Tryz.ntmps184,W6b,W0o,W3s,Nat.reduceAdd,Nat.reduceSub,W5j,W5k,W6c,W5r,W4m,W4q]
 gi_wp2
 go_ret
 exact ⟨rfl,rfl⟩
theorem Xr3 (F : Fence) (n : Nat) (h8 : F.fn 258) (hro : F.round=none) (hn : 1≤n) (Bs n₀ : Nat) (p : Option Addr) (cap : Nat) (zs : List Wd) (hreach : zs.length*4≤140737488351232) (w : World) (hBs : Bs<w.heap.size) (hn₀ : n₀≤w.heap.size)
 (hc : w.cell? ⟨Bs,0,none⟩=some (.slice p zs.length cap)) (hI : zs=[]∨∃ b off,p=some ⟨b,off,none⟩∧b<n₀∧∀ j,j<zs.length→w.cell? ⟨b,off+j,none⟩=some (.int .u32 ((zs[j]?.getD ⟨0,by decide⟩).1 : Int))) :
 SeqStopsK F n Tryz.prog 258 #[.pointer (some ⟨Bs,0,none⟩)] (fun x : Nat × Wd=>#[Value.int .i64 (x.1 : Int),Value.int .u32 (x.2.1 : Int)]) (Kq n₀ Bs) (fun ys=>ys=bk zs zs.length)
  (fun _=>True) zs.length w:=fun l J Jx W hW _ _ hY h0=>by
 have hc':=(hW.cell (p:=⟨Bs,0,none⟩) hBs).trans hc
 rcases hI with rfl | ⟨b,off,rfl,hb,hcs⟩
 · exact (Xmx F n h8 hro l Bs J W hc' h0).mono fun e W' ⟨he,hj⟩=>⟨he,.inl ⟨_,rfl,hj⟩⟩
 · exact Xzr F n h8 hro hn l Bs n₀ b off cap zs hreach hb J Jx hY W hc' (fun j hj=>(hW.cell (p:=⟨b,off+j,none⟩) (W0p hb hn₀)).trans (hcs j hj)) h0
def acc : List (Nat × Wd)→Nat:=List.foldl (fun a x=>(a*4294967296) % 18446744073709551616+x.2.1) 0
theorem Xzw (pre : List (Nat × Wd)) (x : Nat × Wd) : acc (pre++[x])=(acc pre*4294967296) % 18446744073709551616+x.2.1:=by simp [acc]
theorem Ye1 {p q : Nat} (hp : p<18446744073709551616) (hq : q<18446744073709551616) : bits .or .u64 (p : Int) (q : Int)=IntKind.u64.wrap ((p ||| q : Nat) : Int):=by
 show IntKind.u64.wrap _=_
 congr 2
 exact Yl4 hp hq
theorem Yjo {a x : Nat} (hx : x<4294967296) : bits .or .u64 (IntKind.u64.wrap ((a : Int)*4294967296)) (IntKind.u64.wrap (x : Int))=(((a*4294967296) % 18446744073709551616+x : Nat) : Int):=by
 have e1 : IntKind.u64.wrap ((a : Int)*4294967296)=(((a*4294967296) % 18446744073709551616 : Nat) : Int):=(wUm _).trans (by omega)
 have e2 : a*4294967296 % 18446744073709551616=(a % 4294967296)*2 ^ 32:=by omega
 rw [e1,wU (x:=(x : Int)) (by omega),Ye1 (by omega) (by omega),e2,Xdb x (a % 4294967296) 32 (by omega),wU (by omega)]
theorem Xuw {n₀ Bs N : Nat} (W : World) (l : Nat) (o : Obj) (hl : N≤l) (hn : n₀≤N) (hB : Bs<N) (h : W.heap[l]?=some o) (o' : Obj) : Kq n₀ Bs W (W.putObj l o') :=
 ⟨(Below.refl n₀ W).grown (grownBy_putObj' W l o') (by have:=(W3l.1 h).1;omega) (fun k e=>by cases e;omega),World.putObj_heap_other (by omega)⟩
set_option maxRecDepth 100000 in
set_option maxHeartbeats 2000000 in
theorem Xsz (F : Fence) (n : Nat) (h3 : F.fn 305) (h5 : F.fn 184) (h7 : F.fn 258) (hro : F.round=none) (hn : 3≤n) (p : Option Addr) (cap : Nat) (zs : List Wd) (hreach : zs.length*4≤140737488351232) (w : World)
 (hI : zs=[]∨∃ b off,p=some ⟨b,off,none⟩∧b<w.heap.size∧∀ j,j<zs.length→w.cell? ⟨b,off+j,none⟩=some (.int .u32 ((zs[j]?.getD ⟨0,by decide⟩).1 : Int))) :
 CallsIn F n Tryz.prog 305 #[.slice p zs.length cap] w fun e W'=>e=.returned (.int .u64 (acc (bk zs zs.length) : Int))∧Below w.heap.size w W':=by
 have h1 : 1≤n:=by omega
 refine callsIn_of_wp_marks Tryz.func305 rfl h3 ?_ hro
 simp only [Tryz.ntmps305,W6b,W0o,W3s,Nat.reduceAdd,Nat.reduceSub,W5j,W5k,W6c,W5r,W4m,W4q]
 gi_wp2_with (gi_at_call 184;refine (Xoh F (n - 1) h5 hro _ _ _ _).mono ?_;rintro e w' ⟨rfl,rfl⟩)
 have bS:=Boxed.new w 156 (.int .u64 0)
 have bN:=Boxed.new (w.alloc (.cells #[.int .u64 0] 156)) 27 (.slice p zs.length cap)
 rw [World.size_alloc] at bN
 have hB0 : Below w.heap.size w ((w.alloc (.cells #[.int .u64 0] 156)).alloc (.cells #[.slice p zs.length cap] 27)):=((Below.refl _ w).alloc (W0c _) _).alloc (by simp) _
 refine wpIn_rangeFunc_ownG hro h1 (gf:=258) (lb:=#[.pointer (some ⟨w.heap.size+1,0,none⟩)]) rfl h7 (enters_of Tryz.func258 (by kernel_rfl) rfl)
  (Xr3 F (n - 1) h7 hro (by omega) (w.heap.size+1) w.heap.size p cap zs hreach _ (by simp) (by simp;omega) bN.cell (hI.imp_right fun ⟨b,off,h1,h2,h3⟩=>⟨b,off,h1,h2,fun j hj=>(hB0.cell (p:=⟨b,off+j,none⟩) h2).trans (h3 j hj)⟩)) Kq.trans (fun W l o o' hl h _ _=>Xuw W l o hl (by simp;omega) (by simp) h o') (Below.refl _ _) (fun _=>rfl)
  (fun pre W=>(W.cell? ⟨w.heap.size,0,none⟩=some (.int .u64 (acc pre : Int))∧W.frozen? ⟨w.heap.size,0,none⟩=false)∧Below w.heap.size w W)
  (fun _ _ _=>False)
  (OwnFrom.and (Own.from (fun s A B row hs hg hr=>⟨cell_kept hs.1 hg hr,(frozen_kept hs.1 hg hr).trans hs.2⟩) _) (ownFrom_below (W0c _) (by simp;omega)))
  (fun _ _ _ _ _ hs _ _=>hs)
  ⟨⟨(bS.alloc _).cell,(bS.alloc _).frozen⟩,hB0⟩
  (fun x=>{ tmps:=#[.slice p zs.length cap,undef,.int .u64 0,.pointer (some ⟨w.heap.size,0,none⟩),undef,.int .u32 (x.2.1 : Int),.slice p zs.length cap,.func (.func 258) #[] #[.pointer (some ⟨w.heap.size+1,0,none⟩)],.int .i64 (x.1 : Int),.int .u32 (x.2.1 : Int),undef,undef,undef,undef,undef,undef],defers:=[] }) ?assign ?body ?done ?stop
 case assign =>
  intro l x W K hK
  gi_wp2
  exact hK
 case body =>
  rintro l pre x W ⟨⟨hc,hf⟩,hB⟩ _
  gi_wp2
  rw [Yjo x.2.2,←Xzw]
  exact ⟨(KeepsOthers.setCell _ _ _).from _,⟨(Below.refl w.heap.size W).setCell (p:=⟨w.heap.size,0,none⟩) (W0c _) _,Below.heap_setCell _ _ _ _ (by simp)⟩,⟨World.cell?_setCell_same' _ _ _ (by rw [hc];rfl),by rw [World.frozen?_setCell];exact hf⟩,hB.setCell (p:=⟨w.heap.size,0,none⟩) (W0c _) _⟩
 case done =>
  rintro D ys W hD rfl ⟨⟨hc,_⟩,hB⟩ hK
  gi_wp2
  refine ⟨by simp,.inl ⟨_,_,rfl,run_takeDeferred hK,?_⟩⟩
  exact ⟨_,results_tmp rfl _ _ _,rfl,hB.trans (belowK_b (w:=w) (W0c _) W D _ _ (by simp at hD;omega) hK rfl rfl)⟩
 case stop =>
  rintro D c pre W _ _ h _
  exact h.elim
theorem wds {l : List Nat} (h : Xal l) : ∃ zs : List Wd,zs.map (·.1)=l :=
 by
 induction l with
 | nil=>exact ⟨[],rfl⟩
 | cons a l ih =>
  obtain ⟨zs,hz⟩:=ih fun x hx=>h x (W0x _ hx)
  exact ⟨⟨a,h a (W0t ..)⟩::zs,by rw [W3k,hz]⟩
theorem Ye9 {zs : List Wd} {x : Nat} (h : zs.map (·.1)=dig x) (hx : x<18446744073709551616) : acc (bk zs zs.length)=x:=by
 have hl : (dig x).length≤2:=Xap (by omega)
 have hv:=Xaf x
 rw [←h] at hl hv
 match zs,hl with
 | [],_=>simpa [bk,acc,val] using hv
 | [a],_ =>
  have ha:=a.2
  simp [val] at hv
  simp [bk,acc,W7h]
  omega
 | [a,b],_ =>
  have ha:=a.2
  have hb:=b.2
  simp [val] at hv
  simp [bk,acc,W7h]
  omega
theorem Xko {W : Vm.GW} {w' : World} (h : Below W.w.heap.size W.w w') : ∃ W' : Vm.GW,W'.w=w'∧Vm.Fm W W' (fun _=>False) :=
 ⟨⟨w', W.A, fun b i k => W0p (W.hA b i k) h.size⟩, rfl,
   { os := h.os, out := h.output, tape := h.tape, size := h.size, same := fun b hb _ => h.block b hb, A := fun _ _ _ _ => W3j
     le:=fun b i v hv=>⟨by
      have hb : b<W.w.heap.size:=by
       apply W1e
       intro hn
       have:=hv.1
       simp only [World.cell?] at this
       rw [W3o (by omega)] at this
       cases this
      exact (World.cell?_of_block (h.block b hb)).trans hv.1,hv.2⟩ }⟩
theorem Xfa {x : Nat} (hx : x<18446744073709551616) : C0 305 [.d (ws (dig x))] (·=.d (.int .u64 x)):=by
 obtain ⟨zs,hz⟩:=wds (Xad x)
 have hl : (dig x).length≤2:=Xap (by omega)
 refine ⟨⟨_,Tryz.func305,rfl,rfl⟩,fun W vs _ ha=>?_⟩
 match vs,ha with
 | [v],ha =>
  obtain ⟨p,c,rfl,hc1,hc2,hrow⟩:=Vm.V_sl ha.1
  have hm : ((dig x).map wd).length=zs.length:=by rw [←hz];simp
  rw [hm]
  refine (callsIn_wide (n:=3)).1 ((Xsz Fence.wide 3 trivial trivial trivial rfl (W0c _) p c zs (by rw [←hz,W0i] at hl;omega) W.w ?_).mono ?_)
  · rcases hrow with h0 | ⟨b,off,hp,hr⟩
    · left
      have:=congrArg List.length h0
      rw [hm] at this
      exact W0l (by simpa using this)
    · have hcell : ∀ j,j<zs.length→W.w.cell? ⟨b,off+j,none⟩=some (.int .u32 ((zs[j]?.getD ⟨0,by decide⟩).1 : Int)):=fun j hj=>by
       obtain ⟨z,hzj⟩ : ∃ z,zs[j]?=some z:=⟨_,W0b hj⟩
       obtain ⟨e,h1,h2,h3⟩:=Vm.D.row_get hr (i:=j) (x:=wd z.1) (by rw [←hz];simp [hzj])
       have h1 : e=[.int .u32 z.1]:=h1.1
       have:=(h3 0 (.int .u32 z.1) (by rw [h1];rfl)).1
       rw [hzj]
       simpa using this
      by_cases h0 : zs=[]
      · exact .inl h0
      · refine .inr ⟨b,off,hp,?_,hcell⟩
        have h1:=hcell 0 (W5q.2 h0)
        apply W1e
        intro hn
        simp only [World.cell?] at h1
        rw [W3o (by omega)] at h1
        cases h1
  · rintro e w' ⟨rfl,hB⟩
    obtain ⟨W',hw,hE⟩:=Xko hB
    refine ⟨W',.d (.int .u64 x),_,rfl,hw,hE,?_,fun _ h=>h,rfl⟩
    rw [Ye9 hz hx]
    exact Vm.int_V (by show IntKind.u64.wrap _=_;exact wU (by omega))
end
section
theorem Yld {a b : Nat} (ha : a<4294967296) (hb : b<4294967296) : a*b≤18446744065119617025:=by
 have:=W1t (show a≤4294967295 by omega) (show b≤4294967295 by omega)
 omega
theorem Xnc {q k y d : Nat} {l : List Nat} (hw : Xal l) (hq : q+(k+1)≤l.length) (hk : (dig y).length=k) (hd : d<4294967296) (hk40 : k≤1099511627776) :
 CW0 353 [.own 1000001 1 q (k+1),.d (ws (dig y)),.d (.int .u64 d)] [(1000001,.arr 1 (l.map wd))] fun v H'=>∃ (c : Nat) (l' : List Nat),c≤1∧v=.b (dc (c=1))∧H'=[(1000001,.arr 1 (l'.map wd))]∧l'.length=l.length∧Xal l' ∧
  (∀ j,(j<q∨q+(k+1)≤j)→l'[j]?=l[j]?)∧val ((l'.drop q).take (k+1))+y*d=val ((l.drop q).take (k+1))+4294967296 ^ (k+1)*c:=by
 refine EnW Tryz.func353 fun _ _ _ _=>?_
 refine Lo (fun (i,lo,br)=>[(0,.own 1000001 1 q (k+1)),(1,.d (ws (dig y))),(2,.d (.int .u64 d)),(7,.d (.int .u64 (br : Nat))),(13,.d (ws (dig y))),(14,.d (.int .i64 k)),(15,.d (.int .i64 (i : Nat)))]) (fun (_,lo,_)=>[(1000001,.arr 1 (lo.map wd))])
  (fun (i,lo,br)=>i≤k∧lo.length=l.length∧Xal lo∧br<4294967296∧(∀ j,(j<q∨q+i≤j)→lo[j]?=l[j]?)∧val ((lo.drop q).take i)+val ((dig y).take i)*d=val ((l.drop q).take i)+4294967296 ^ i*br) (fun (i,_,_)=>k - i) (0,l,0) [] rfl
  ⟨by omega,rfl,hw,by omega,fun _ _=>rfl,by simp [val]⟩ ?_ (by exact ⟨by simp only [lw,ws,hk];rfl,rfl,rfl,rfl,rfl⟩)
 rintro ⟨i,lo,br⟩ ⟨hi,hl,hwo,hbr,hrest,hval⟩
 refine By rfl (fun h=>?_) fun h=>?_
 · obtain ⟨w,hw1⟩:=xat (l:=dig y) (k:=i) (by omega)
   have hwb:=ww hw1 (Xad y)
   obtain ⟨u,hu⟩:=xat (l:=lo) (k:=q+i) (by omega)
   have hub:=ww hu hwo
   have hwd:=Yld hwb hd
   obtain ⟨s,hs⟩ : ∃ s,s=w*d+br:=⟨_,rfl⟩
   obtain ⟨t,ht⟩ : ∃ t,t=(u+18446744073709551616 - s % 4294967296) % 18446744073709551616:=⟨_,rfl⟩
   refine Ix i rfl (mp hw1) ?_
   refine Go.Vm.Cv w rfl ?_
   refine Ar (w*d : Nat) rfl ?_ (wr (W2t ..).symm (by simp only [inK];omega))
   refine Ar s rfl ?_
   refine El i rfl (by omega) ?_
   refine Ld (wd u) rfl (mp hu) ?_
   refine Go.Vm.Cv u rfl ?_
   refine Go.Vm.Cv (s % 4294967296 : Nat) rfl ?_ (by rw [wWm];omega)
   refine Go.Vm.Cv (s % 4294967296 : Nat) rfl ?_
   refine Ar t rfl ?_ (by show _=_;rw [wUm];omega)
   refine Go.Vm.Cv (t % 4294967296 : Nat) rfl ?_ (by rw [wWm];omega)
   refine El i rfl (by omega) ?_
   refine Sto rfl (by simp only [lw];omega) ms ?_
   refine Ar (s / 4294967296 : Nat) rfl ?_ (Xij (n:=32) (by decide))
   refine Ar (t / 9223372036854775808 : Nat) rfl ?_ (Xij (n:=63) (by decide))
   refine Ar (s / 4294967296+t / 9223372036854775808 : Nat) rfl ?_
   refine Ar (i+1 : Nat) rfl ?_
   refine Bk (i+1,lo.set (q+i) (t % 4294967296),s / 4294967296+t / 9223372036854775808) [] rfl ⟨by omega,by simp [hl],Xgo hwo (by omega),by omega,fun j hj=>by rw [W1w (by omega)];exact hrest j (by omega),?_⟩ (by show k - (i+1)<k - i;omega)
   have hu0 : l[q+i]?=some u:=by rw [←hrest (q+i) (.inr (W0c _))];exact hu
   have hst : t % 4294967296+s=u+4294967296*(s / 4294967296+t / 9223372036854775808):=by omega
   rw [Xe8 (by omega),Xac hw1,Xbx hu0,W0s,W0q,W1g,W0q]
   have e : 4294967296 ^ i*(t % 4294967296+s)=4294967296 ^ i*(u+4294967296*(s / 4294967296+t / 9223372036854775808)):=by rw [hst]
   have e2 : 4294967296 ^ i*s=4294967296 ^ i*(w*d)+4294967296 ^ i*br:=by rw [hs,W0w]
   rw [W0w,W0w (4294967296 ^ i) u] at e
   omega
 · have hik : i=k:=by omega
   rw [hik] at hrest hval
   rw [W0a (l:=dig y) (by omega),Xaf] at hval
   obtain ⟨u,hu⟩:=xat (l:=lo) (k:=q+k) (by omega)
   have hub:=ww hu hwo
   obtain ⟨t,ht⟩ : ∃ t,t=(u+18446744073709551616 - br) % 18446744073709551616:=⟨_,rfl⟩
   refine El k rfl (by omega) ?_ (by simp only [lw];omega)
   refine Ld (wd u) rfl (mp hu) ?_
   refine Go.Vm.Cv u rfl ?_
   refine Ar t rfl ?_ (by show _=_;rw [wUm];omega)
   refine Go.Vm.Cv (t % 4294967296 : Nat) rfl ?_ (by rw [wWm];omega)
   refine El k rfl (by omega) ?_ (by simp only [lw];omega)
   refine Sto rfl (by simp only [lw];omega) ms ?_
   refine Ar (t / 9223372036854775808 : Nat) rfl ?_ (Xij (n:=63) (by decide))
   have hu0 : l[q+k]?=some u:=by rw [←hrest (q+k) (.inr (W0c _))];exact hu
   refine Rw [] [(1000001,.arr 1 ((lo.set (q+k) (t % 4294967296)).map wd))] rfl (.one (.rf rfl) rfl rfl) ⟨t / 9223372036854775808,_,by omega,?_,rfl,by simp [hl],Xgo hwo (by omega),fun j hj=>by rw [W1w (by omega)];exact hrest j (by omega),?_⟩
   · congr 1;exact congrArg dc (propext (by constructor <;> intro <;> omega))
   · rw [Xe8 (by omega),Xbx hu0,W0s,W0q]
     have e : 4294967296 ^ k*(t % 4294967296+br)=4294967296 ^ k*(u+4294967296*(t / 9223372036854775808)):=by congr 1;omega
     rw [W0w,W0w (4294967296 ^ k) u] at e
     omega
theorem Xro {q k y : Nat} {l : List Nat} (hw : Xal l) (hq : q+(k+1)≤l.length) (hk : (dig y).length=k) (hk40 : k≤1099511627776) :
 CW0 354 [.own 1000001 1 q (k+1),.d (ws (dig y))] [(1000001,.arr 1 (l.map wd))] fun v H'=>∃ (e : Nat) (l' : List Nat),e≤1∧H'=[(1000001,.arr 1 (l'.map wd))]∧l'.length=l.length∧Xal l' ∧
  (∀ j,(j<q∨q+(k+1)≤j)→l'[j]?=l[j]?)∧val ((l'.drop q).take (k+1))+4294967296 ^ (k+1)*e=val ((l.drop q).take (k+1))+y:=by
 refine EnW Tryz.func354 fun _ _ _ _=>?_
 refine Lo (fun (i,lo,cr)=>[(0,.own 1000001 1 q (k+1)),(1,.d (ws (dig y))),(4,.d (.int .u64 (cr : Nat))),(7,.d (ws (dig y))),(8,.d (.int .i64 k)),(9,.d (.int .i64 (i : Nat)))]) (fun (_,lo,_)=>[(1000001,.arr 1 (lo.map wd))])
  (fun (i,lo,cr)=>i≤k∧lo.length=l.length∧Xal lo∧cr≤1∧(∀ j,(j<q∨q+i≤j)→lo[j]?=l[j]?)∧val ((lo.drop q).take i)+4294967296 ^ i*cr=val ((l.drop q).take i)+val ((dig y).take i)) (fun (i,_,_)=>k - i) (0,l,0) [] rfl
  ⟨by omega,rfl,hw,by omega,fun _ _=>rfl,by simp [val]⟩ ?_ (by exact ⟨by simp only [lw,ws,hk];rfl,rfl,rfl,rfl,rfl⟩)
 rintro ⟨i,lo,cr⟩ ⟨hi,hl,hwo,hcr,hrest,hval⟩
 refine By rfl (fun h=>?_) fun h=>?_
 · obtain ⟨w,hw1⟩:=xat (l:=dig y) (k:=i) (by omega)
   have hwb:=ww hw1 (Xad y)
   obtain ⟨u,hu⟩:=xat (l:=lo) (k:=q+i) (by omega)
   have hub:=ww hu hwo
   obtain ⟨s,hs⟩ : ∃ s,s=cr+(u+w):=⟨_,rfl⟩
   refine Ix i rfl (mp hw1) ?_
   refine El i rfl (by omega) ?_
   refine Ld (wd u) rfl (mp hu) ?_
   refine Go.Vm.Cv u rfl ?_
   refine Go.Vm.Cv w rfl ?_
   refine Ar (u+w : Nat) rfl ?_
   refine Ar s rfl ?_
   refine Go.Vm.Cv (s % 4294967296 : Nat) rfl ?_ (by rw [wWm];omega)
   refine El i rfl (by omega) ?_
   refine Sto rfl (by simp only [lw];omega) ms ?_
   refine Ar (s / 4294967296 : Nat) rfl ?_ (Xij (n:=32) (by decide))
   refine Ar (i+1 : Nat) rfl ?_
   refine Bk (i+1,lo.set (q+i) (s % 4294967296),s / 4294967296) [] rfl ⟨by omega,by simp [hl],Xgo hwo (by omega),by omega,fun j hj=>by rw [W1w (by omega)];exact hrest j (by omega),?_⟩ (by show k - (i+1)<k - i;omega)
   have hu0 : l[q+i]?=some u:=by rw [←hrest (q+i) (.inr (W0c _))];exact hu
   rw [Xe8 (by omega),Xac hw1,Xbx hu0,W0s,W0q]
   have e : 4294967296 ^ i*(s % 4294967296+4294967296*(s / 4294967296))=4294967296 ^ i*(cr+(u+w)):=by congr 1;omega
   simp only [W0w] at e
   omega
 · have hik : i=k:=by omega
   rw [hik] at hrest hval
   rw [W0a (l:=dig y) (by omega),Xaf] at hval
   obtain ⟨u,hu⟩:=xat (l:=lo) (k:=q+k) (by omega)
   have hub:=ww hu hwo
   refine El k rfl (by omega) ?_ (by simp only [lw];omega)
   refine Ld (wd u) rfl (mp hu) ?_
   refine Go.Vm.Cv cr rfl ?_
   refine Ar ((u+cr) % 4294967296 : Nat) rfl ?_ (by show _=_;rw [wWm];omega)
   refine El k rfl (by omega) ?_ (by simp only [lw];omega)
   refine Sto rfl (by simp only [lw];omega) ms ?_
   have hu0 : l[q+k]?=some u:=by rw [←hrest (q+k) (.inr (W0c _))];exact hu
   refine Rw [] [(1000001,.arr 1 ((lo.set (q+k) ((u+cr) % 4294967296)).map wd))] rfl (.tup (.one (.rf rfl) (fun _ _ e=>by cases e) (fun _ _ e=>by cases e))) ⟨(u+cr) / 4294967296,_,by omega,rfl,by simp [hl],Xgo hwo (by omega),fun j hj=>by rw [W1w (by omega)];exact hrest j (by omega),?_⟩
   rw [Xe8 (by omega),Xbx hu0,W0s,W0q]
   have e : 4294967296 ^ k*((u+cr) % 4294967296+4294967296*((u+cr) / 4294967296))=4294967296 ^ k*(u+cr):=by congr 1;omega
   simp only [W0w] at e
   omega
theorem Xil {n x : Nat} (hx : (dig x).length≤549755813888) (hn32 : n<32) : C0 352 [.d (ws (dig x)),.d (.int .i64 n)] fun v=>∃ l,l.length=(dig x).length+1∧Xal l∧val l=x*2 ^ n∧v=.d (ws l) :=
 CW.data (Xgg hx hn32) rfl fun v H' ⟨ob,e,l,h1,h2,h3,h4,h5⟩=>⟨.d (ws l),by rw [h4,e,h5];exact .one (.own rfl (by simp) (oa rfl)) rfl rfl,l,h1,h2,h3,rfl⟩
theorem Xp6 {y n : Nat} (hy : y≠0) {t : Nat} (ht : (dig y)[(dig y).length - 1]?=some t) (h1 : 2147483648≤t*2 ^ n) (h2 : t*2 ^ n<4294967296) :
 (dig (y*2 ^ n)).length=(dig y).length∧∃ t',(dig (y*2 ^ n))[(dig y).length - 1]?=some t'∧2147483648≤t':=by
 have hl : (dig y).length≠0:=fun h=>hy (Xrz.1 (W0l h))
 have hs:=Xac ht
 rw [show (dig y).length - 1+1=(dig y).length from by omega,W2b,Xaf] at hs
 have hlo:=Xbq ((Xad y).take ((dig y).length - 1))
 rw [W0j,W2c (by omega)] at hlo
 generalize hk : (dig y).length - 1=k at *
 have hlow : 4294967296 ^ k*2147483648≤y*2 ^ n:=by
  rw [hs,W1g,W0q]
  have:=W0m (4294967296 ^ k) h1
  omega
 have hup : y*2 ^ n<4294967296 ^ (k+1):=by
  have e : y+1≤4294967296 ^ k*(t+1):=by rw [hs,W0w];omega
  have e2 : t*2 ^ n+2 ^ n≤4294967296:=by
   have hd : 2 ^ n ∣ 4294967296:=by
    have hn : n<32:=by
     have : 2 ^ n<2 ^ 32:=by
      have:=Nat.le_mul_of_pos_left (2 ^ n) (show 0<t from by rcases W2o t with h | h;rw [h] at h1;simp at h1;exact h)
      omega
     exact (W2p (by decide : 1<2)).1 this
    exact ⟨2 ^ (32 - n),by rw [←W0u,show n+(32 - n)=32 from by omega]⟩
   obtain ⟨q,hq⟩:=hd
   rw [hq,W1d t] at h2
   have:=Nat.lt_of_mul_lt_mul_left h2
   rw [hq,W1d t,←Nat.mul_succ]
   exact W0m _ this
  have e3:=W0y (2 ^ n) e
  rw [W0q,W1g t,W6y] at e3
  have e4:=W0m (4294967296 ^ k) e2
  have hp:=W0n n
  rw [W1g,W6y] at e3
  rw [W0s]
  omega
 have hlen : (dig (y*2 ^ n)).length=(dig y).length:=by
  have h3:=Xap hup
  have h4 : k<(dig (y*2 ^ n)).length:=by
   apply W1e
   intro hn
   have:=Xcm (y*2 ^ n)
   have h5 : 4294967296 ^ (dig (y*2 ^ n)).length≤4294967296 ^ k:=W0k (by decide) (by omega)
   have : 4294967296 ^ k≤4294967296 ^ k*2147483648:=W4h _ (by decide)
   omega
  omega
 refine ⟨hlen,?_⟩
 obtain ⟨t',ht'⟩:=xat (l:=dig (y*2 ^ n)) (k:=k) (by omega)
 refine ⟨t',ht',?_⟩
 have hs':=Xac ht'
 rw [show k+1=(dig (y*2 ^ n)).length from by omega,W2b,Xaf] at hs'
 have hlo':=Xbq ((Xad (y*2 ^ n)).take k)
 rw [W0j,W2c (by omega)] at hlo'
 apply W1e
 intro hn
 have : 4294967296 ^ k*(t'+1)≤4294967296 ^ k*2147483648:=W0m _ (by omega)
 rw [W0w] at this
 omega
theorem Yaa {lu : List Nat} {i n : Nat} {Y : Nat} (hw : Xal lu) (hi : i+n<lu.length) (hR : val (lu.drop (i+1))<Y) (hY : Y≤4294967296 ^ n) :
 val (lu.drop i)=val ((lu.drop i).take (n+1))∧val (lu.drop i)<4294967296*Y:=by
 obtain ⟨u,hu⟩:=xat (l:=lu) (k:=i) (by omega)
 have hub:=hw u (W0r hu)
 have h1:=Xbn hu
 have h2 : val (lu.drop i)<4294967296*Y:=by
  rw [h1]
  have:=W0m 4294967296 (show val (lu.drop (i+1))+1≤Y from hR)
  omega
 refine ⟨?_,h2⟩
 have h3:=Xbg (lu.drop i) (n+1) (by rw [W2e];omega)
 rw [h3]
 have h4 : val (lu.drop i)<4294967296 ^ (n+1):=by
  have:=W0m 4294967296 hY
  rw [W0s,W1d (4294967296 ^ n)]
  omega
 rcases W2o (val ((lu.drop i).drop (n+1))) with h5 | h5
 · rw [h5,W2z,W2n]
 · have:=W4h (4294967296 ^ (n+1)) h5
   omega
theorem Xek {l m : List Nat} {k : Nat} (h : ∀ j,k≤j→l[j]?=m[j]?) : l.drop k=m.drop k:=by
 apply W5z
 intro i
 rw [W2m,W2m]
 exact h _ (by omega)
theorem Yf5 (M low u0 u1 u2 : Nat) : low+M*u2+M*4294967296*u1+M*4294967296*4294967296*u0=low+M*(u2+4294967296*(u0*2 ^ 32+u1)):=by
 grind
theorem Xzj {x y : Nat} : Xa1 (x : Int) (y : Int)<0↔x<y:=by
 unfold Xa1
 split
 · constructor <;> intro <;> omega
 · split
   · constructor <;> intro <;> omega
   · constructor <;> intro <;> omega
theorem Xv1 {x y Y s Q R : Nat} (hY : y*2 ^ s=Y) (h : Q*Y+R=x*2 ^ s) (hR : R<Y) : Q=x / y∧R=x % y*2 ^ s:=by
 have h1 : Q=(x*2 ^ s) / (y*2 ^ s):=by
  rw [hY,←h,W1d,Nat.mul_add_div (by omega),W5c hR,W2n]
 have h2 : R=(x*2 ^ s) % (y*2 ^ s):=by
  rw [hY,←h,W1d,Nat.mul_add_mod,W3p hR]
 rw [Nat.mul_div_mul_right _ _ (W0n s)] at h1
 rw [Nat.mul_mod_mul_right] at h2
 exact ⟨h1,h2⟩
theorem Xv8 {U Y M low u2 top vlow tn t' dd r : Nat} (hY0 : Y≠0) (hM : 0<M) (hUM : U=low+M*(u2+4294967296*top)) (hYM : Y=vlow+M*(tn+4294967296*t')) (hUlt : U<4294967296*Y) (hvlow : vlow<M) (htnb : tn<4294967296) (htt : 2147483648≤t')
 (hdd : (dd - 1)*t'+(r+t')=top) (hr : 4294967296≤r+t') (hUq : U / Y<dd) : dd - 1<4294967296∧U / Y≤dd - 1∧dd - 1≤U / Y+1:=by
 have hdB : dd - 1<4294967296:=by
  apply W1e
  intro hn2
  have h1:=W0y t' (show 4294967296≤dd - 1 by omega)
  have h2 : top<4294967296*t'+4294967296:=by
   apply W1e
   intro hn3
   have h3 : M*(4294967296*(4294967296*t'+4294967296))≤M*(4294967296*top):=W0m _ (W0m _ (by omega))
   have h4 : Y<M*(4294967296*t'+4294967296):=by
    rw [hYM]
    have : M*(tn+4294967296*t'+1)≤M*(4294967296*t'+4294967296):=W0m _ (by omega)
    rw [W0w M _ 1,W3q] at this
    omega
   have h5 : M*(4294967296*(4294967296*t'+4294967296))=4294967296*(M*(4294967296*t'+4294967296)):=by grind
   have h6 : M*(4294967296*top)≤U:=by rw [hUM,W0w];omega
   omega
  omega
 refine ⟨hdB,by omega,?_⟩
 rw [hUM,hYM]
 refine Ybu (r:=r+t') hM hvlow hdd ?_ hdB (by omega)
 have h1:=Yld (a:=dd - 1) (b:=tn) hdB htnb
 omega
theorem Xcl {x y : Nat} (hx : (dig x).length≤549755813888) (hy : (dig y).length≤549755813888) (hy0 : y≠0) : C0 304 [.d (ws (dig x)),.d (ws (dig y))] (·=.tup (.pr (.d (ws (dig (x / y)))) (.d (ws (dig (x % y)))))):=by
 refine En Tryz.func304 fun _ _ _=>?_
 refine Ce rfl (Xbt (by omega)) ?_
 refine By rfl (fun h=>?_) fun h=>?_
 · have hlt : x<y:=Xzj.1 h
   refine Ce rfl (Xbj (by omega)) ?_
   exact RTt rfl (.cons (.nil (by rw [W5c hlt,Xai];rfl)) (.one (.eq (by rw [W3p hlt])) (fun _ _ e=>by cases e) (fun _ _ e=>by cases e)))
 have hge : y≤x:=W3w fun hlt=>h (Xzj.2 hlt)
 have hlenle:=Xao hge
 refine By rfl (fun h2=>?_) fun h2=>?_ <;> simp only [lw] at h2
 · have hx64 : x<18446744073709551616:=by
    have:=Xcm x
    have h1 : 4294967296 ^ (dig x).length≤4294967296 ^ 2:=W0k (by decide) (by omega)
    omega
   refine Ce rfl (Xfa hx64) ?_
   refine Ce rfl (Xfa (by omega)) ?_
   have hq64 : x / y<18446744073709551616:=W1r (W3u ..) hx64
   have hr64 : x % y<18446744073709551616:=W1r (Nat.mod_le ..) hx64
   refine Dw rfl ?_
   refine Ar (x / y : Nat) rfl ?_ (show _∧_ from ⟨by omega,Yci x y hx64⟩)
   refine Ce rfl (Xb8 hq64) ?_
   refine Ar (x % y : Nat) rfl ?_ (show _∧_ from ⟨by omega,Xsy x y⟩)
   refine Ce rfl (Xb8 hr64) ?_
   exact R0t
 refine By rfl (fun h3=>?_) fun h3=>?_ <;> simp only [lw] at h3
 · obtain ⟨t,ht⟩:=xat (l:=dig y) (k:=0) (by omega)
   have htb:=ww ht (Xad y)
   have hyt : y=t:=by
    have:=Xac ht
    rw [W0a (by omega),Xaf] at this
    simpa [val] using this
   refine Ix 0 rfl (mp ht) ?_
   refine Ce rfl (Xkw (y:=t) hx htb (by omega)) ?_
   exact RTt rfl (.cons (.eq (by rw [hyt])) (.one (.eq (by rw [hyt])) (fun _ _ e=>by cases e) (fun _ _ e=>by cases e)))
 have hy2 : 2≤(dig y).length:=by
  have : (dig y).length≠0:=fun h=>hy0 (Xrz.1 (W0l h))
  omega
 obtain ⟨t,ht⟩:=xat (l:=dig y) (k:=(dig y).length - 1) (by omega)
 have htb:=ww ht (Xad y)
 have ht0 : t≠0:=by
  rcases Xgx y with h | ⟨t2,h2,h3⟩
  · rw [h] at hy2;simp at hy2
  · rw [ht] at h2;injection h2 with h2;rw [h2];exact h3
 refine Ar ((dig y).length - 1 : Nat) rfl ?_ (wr (by simp only [lw];omega) (by simp only [inK];omega))
 refine Ix ((dig y).length - 1) rfl (mp ht) ?_
 refine Ca rfl (Xge htb ht0) fun v hv=>?_
 obtain ⟨s,rfl,hs32,hs1,hs2⟩:=hv
 obtain ⟨hlen,t',ht',htt⟩:=Xp6 hy0 ht hs1 hs2
 refine Co rfl (Xgg hx hs32) fun v ob hv=>?_
 obtain ⟨lu0,hul,huw,huv,rfl,rfl⟩:=hv
 refine Ca rfl (Xil hy hs32) fun v hv=>?_
 obtain ⟨lv,hvl,hvw,hvv,rfl⟩:=hv
 obtain ⟨Y,hY⟩ : ∃ Y,Y=y*2 ^ s:=⟨_,rfl⟩
 rw [←hY] at hlen ht' hvv
 refine Ce (r:=.d (ws (dig Y))) rfl (by have:=trim_ok hvw (by omega);rwa [hvv] at this) ?_
 obtain ⟨mv,hmv⟩ : ∃ mv,mv=(dig Y).length:=⟨_,rfl⟩
 have hq0 : lu0.length - mv≤549755813889:=by omega
 refine Ar (lu0.length - mv : Nat) rfl ?_ (wr (by simp only [lw];omega) (by simp only [inK];omega))
 refine Mk (lu0.length - mv) rfl (by omega) ?_
 obtain ⟨tn,htn⟩:=xat (l:=dig Y) (k:=mv - 2) (by omega)
 have htnb:=ww htn (Xad Y)
 have ht1 : (dig Y)[mv - 1]?=some t':=by rw [hmv,hlen];exact ht'
 have htb1:=ww ht1 (Xad Y)
 refine Dw rfl ?_
 refine Ar (mv - 1 : Nat) rfl ?_ (wr (by simp only [lw];omega) (by simp only [inK];omega))
 refine Ix (mv - 1) rfl (mp ht1) ?_
 refine Go.Vm.Cv t' rfl ?_
 refine Ar (mv - 2 : Nat) rfl ?_ (wr (by simp only [lw];omega) (by simp only [inK];omega))
 refine Ix (mv - 2) rfl (mp htn) ?_
 refine Go.Vm.Cv tn rfl ?_
 refine Ar ((lu0.length - mv : Nat) - 1 : Int) rfl ?_
 have hY0 : Y≠0:=by rw [hY];exact Nat.mul_ne_zero hy0 (W7n.1 (W0n s))
 have hYl:=Xcm Y
 have hYM : Y=val ((dig Y).take (mv - 2))+4294967296 ^ (mv - 2)*(tn+4294967296*t'):=by
  have h1:=Xac htn
  have h2:=Xac (k:=mv - 2+1) (l:=dig Y) (x:=t') (by rw [show mv - 2+1=mv - 1 from by omega];exact ht1)
  rw [show mv - 2+1+1=(dig Y).length from by omega,W2b,Xaf,h1,W0s,W0q] at h2
  rw [W0w];omega
 have hvlow : val ((dig Y).take (mv - 2))<4294967296 ^ (mv - 2):=by
  have:=Xbq ((Xad Y).take (mv - 2))
  rwa [W0j,W2c (by omega)] at this
 have hM : 0<4294967296 ^ (mv - 2):=W7r (by decide)
 have hR0 : val (lu0.drop (lu0.length - mv))<Y:=by
  have h1:=Xbg lu0 (lu0.length - mv) (by omega)
  rw [huv] at h1
  have h2:=Xmk hy0
  have h3:=Xcm x
  have hp:=W0n s
  apply W1e
  intro hn2
  have h4 : 4294967296 ^ (lu0.length - mv)*Y≤x*2 ^ s:=by
   rw [h1]
   have:=W0m (4294967296 ^ (lu0.length - mv)) (W3w hn2)
   omega
  rw [hY,←W0q] at h4
  have h5:=Nat.le_of_mul_le_mul_right h4 hp
  have h6:=W0m (4294967296 ^ (lu0.length - mv)) h2
  rw [←W0u,show lu0.length - mv+((dig y).length - 1)=(dig x).length from by omega] at h6
  omega
 refine Lo (fun (k,lu,lq)=>[(8,.d (.int .i64 s)),(9,.own 62 1 0 lu0.length),(10,.d (ws (dig Y))),(11,.d (.int .i64 mv)),(12,.own 73 1 0 (lu0.length - mv)),(13,.d (.int .u64 t')),(14,.d (.int .u64 tn)),(15,.d (.int .i64 ((k : Nat) - 1 : Int)))]) (fun (_,lu,lq)=>[(62,.arr 1 (lu.map wd)),(73,.arr 1 (lq.map wd))])
  (fun (k,lu,lq)=>k≤lu0.length - mv∧lu.length=lu0.length∧Xal lu∧lq.length=lu0.length - mv∧Xal lq∧(∀ j,j<k→lu[j]?=lu0[j]?)∧val (lu.drop k)<Y∧val (lq.drop k)*Y+val (lu.drop k)=val (lu0.drop k)) (fun (k,_,_)=>k) (lu0.length - mv,lu0,List.replicate (lu0.length - mv) 0) [] rfl
  ⟨by omega,rfl,huw,by simp,Xe6 _,fun _ _=>rfl,hR0,by rw [W1x (by simp)];simp [val]⟩ ?_ (by exact ⟨by simp only [lw,ws,hmv];rfl,by simp only [W2d];rfl,rfl,rfl,rfl⟩)
 rintro ⟨k,lu,lq⟩ ⟨hk,hln,hwu,hlq,hwq,hsame,hRlt,hQR⟩
 refine By rfl (fun h=>?_) fun h=>?_
 · obtain ⟨u0,hu0⟩:=xat (l:=lu) (k:=k - 1+mv) (by omega)
   obtain ⟨u1,hu1⟩:=xat (l:=lu) (k:=k - 1+mv - 1) (by omega)
   obtain ⟨u2,hu2⟩:=xat (l:=lu) (k:=k - 1+mv - 2) (by omega)
   have hub0:=ww hu0 hwu
   have hub1:=ww hu1 hwu
   have hub2:=ww hu2 hwu
   obtain ⟨hwin,hUlt⟩:=Yaa (n:=mv) (i:=k - 1) (Y:=Y) hwu (by omega) (by rw [show k - 1+1=k from by omega];exact hRlt) (by rw [hmv];exact W1z hYl)
   have hUM : val (lu.drop (k - 1))=val ((lu.drop (k - 1)).take (mv - 2))+4294967296 ^ (mv - 2)*(u2+4294967296*(u0*2 ^ 32+u1)):=by
    have g1:=Xbx (l:=lu) (q:=k - 1) (i:=mv - 2) (u:=u2) (by rw [show k - 1+(mv - 2)=k - 1+mv - 2 from by omega];exact hu2)
    have g2:=Xbx (l:=lu) (q:=k - 1) (i:=mv - 2+1) (u:=u1) (by rw [show k - 1+(mv - 2+1)=k - 1+mv - 1 from by omega];exact hu1)
    have g3:=Xbx (l:=lu) (q:=k - 1) (i:=mv - 2+1+1) (u:=u0) (by rw [show k - 1+(mv - 2+1+1)=k - 1+mv from by omega];exact hu0)
    rw [show mv - 2+1+1+1=mv+1 from by omega,g2,g1,←hwin] at g3
    rw [g3,W0s,W0s]
    exact Yf5 ..
   have hlow : val ((lu.drop (k - 1)).take (mv - 2))<4294967296 ^ (mv - 2):=by
    have:=Xbq ((hwu.drop (k - 1)).take (mv - 2))
    rwa [W0j,W2e,W2c (by omega)] at this
   obtain ⟨U,hU⟩ : ∃ U,U=val (lu.drop (k - 1)):=⟨_,rfl⟩
   obtain ⟨low,hlowg⟩ : ∃ low,low=val ((lu.drop (k - 1)).take (mv - 2)):=⟨_,rfl⟩
   obtain ⟨vlow,hvlowg⟩ : ∃ vlow,vlow=val ((dig Y).take (mv - 2)):=⟨_,rfl⟩
   obtain ⟨M,hMg⟩ : ∃ M,M=4294967296 ^ (mv - 2):=⟨_,rfl⟩
   obtain ⟨top,htop⟩ : ∃ top,top=u0*2 ^ 32+u1:=⟨_,rfl⟩
   have htopb : top<18446744073709551616:=by omega
   rw [←hU] at hwin hUlt hUM
   rw [←hMg,←hlowg,←htop] at hUM
   rw [←hMg,←hvlowg] at hYM
   rw [←hMg,←hlowg] at hlow
   rw [←hMg,←hvlowg] at hvlow
   rw [←hMg] at hM
   refine Dw rfl ?_
   refine Ar (k - 1+mv : Nat) rfl ?_
   refine Eo (k - 1+mv) rfl (by omega) ?_
   refine Ld (wd u0) rfl (mp hu0) ?_
   refine Go.Vm.Cv u0 rfl ?_
   refine Ar (u0*2 ^ 32 : Nat) rfl ?_ (Xhh (n:=32) rfl (by omega) (by decide))
   refine Ar (k - 1+mv : Nat) rfl ?_
   refine Ar (k - 1+mv - 1 : Nat) rfl ?_
   refine Eo (k - 1+mv - 1) rfl (by omega) ?_
   refine Ld (wd u1) rfl (mp hu1) ?_
   refine Go.Vm.Cv u1 rfl ?_
   refine Ar top rfl ?_ (Ya8 (by omega) (by omega) (by rw [Xdb u1 u0 32 (by omega),←htop]) htopb)
   have hd63 : top / t'<9223372036854775808:=by
    rw [W2l (by omega)]
    have:=W0m 9223372036854775808 htt
    omega
   have hr63 : top % t'<t':=W1y _ (by omega)
   have hdz : 0≤top / t':=W1c _
   refine Dw rfl ?_
   refine Ar (top / t' : Nat) rfl ?_ (show _∧_ from ⟨by omega,Yci top t' htopb⟩)
   refine Ar (top % t' : Nat) rfl ?_ (show _∧_ from ⟨by omega,Xsy top t'⟩)
   have hqz : U / Y≤top / t':=by
    apply W3w
    intro hlt
    have h1 : (top / t'+1)*Y≤U:=by
     have:=W6j U Y
     exact W0h (W0y _ hlt) this
    have h2:=W2j top t'
    have h4 : (top / t'+1)*t' ≥ top+1:=by rw [W1g,W1d,W6y];omega
    have h5 : (top / t'+1)*(M*(4294967296*t'))≤(top / t'+1)*Y:=W0m _ (by rw [hYM,W0w];omega)
    have h6 : (top / t'+1)*(M*(4294967296*t'))=M*(4294967296*((top / t'+1)*t')):=by grind
    have h7 : M*(4294967296*(top+1))≤M*(4294967296*((top / t'+1)*t')):=W0m _ (W0m _ h4)
    have h8 : M*(u2+4294967296*top+1)≤M*(4294967296*(top+1)):=W0m _ (by omega)
    rw [W0w M _ 1,W3q] at h8
    omega
   refine Cu (some 1000003) (fun (dd : Nat)=>[(8,.d (.int .i64 s)),(9,.own 62 1 0 lu0.length),(10,.d (ws (dig Y))),(11,.d (.int .i64 mv)),(12,.own 73 1 0 (lu0.length - mv)),(13,.d (.int .u64 t')),(14,.d (.int .u64 tn)),(15,.d (.int .i64 ((k : Nat) - 1 : Int))),(17,.d (.int .u64 dd))]) (fun _=>[(62,.arr 1 (lu.map wd)),(73,.arr 1 (lq.map wd))])
    (fun dd=>dd<4294967296∧U / Y≤dd∧dd≤U / Y+1) rfl ?_ fun dd ⟨hdB,hdq,hdq1⟩=>?_
   · refine Lo (fun (dd,r)=>[(8,.d (.int .i64 s)),(9,.own 62 1 0 lu0.length),(10,.d (ws (dig Y))),(11,.d (.int .i64 mv)),(12,.own 73 1 0 (lu0.length - mv)),(13,.d (.int .u64 t')),(14,.d (.int .u64 tn)),(15,.d (.int .i64 ((k : Nat) - 1 : Int))),(17,.d (.int .u64 (dd : Nat))),(18,.d (.int .u64 (r : Nat)))]) (fun _=>[(62,.arr 1 (lu.map wd)),(73,.arr 1 (lq.map wd))])
      (fun (dd,r)=>U / Y≤dd∧dd*t'+r=top∧r<4294967296∧dd<9223372036854775808) (fun (dd,_)=>dd) (top / t',top % t') [] rfl ⟨hqz,by rw [W1d];exact W2j ..,by omega,hd63⟩ ?_
     rintro ⟨dd,r⟩ ⟨hdq,hdt,hr,hd63⟩
     refine By rfl (fun h1=>?_) fun h1=>?_
     · have hUq : U / Y<dd:=Yis hUlt (W2h hY0) (by omega)
       have hdd1 : 1≤dd:=W1r (W1c _) hUq
       have hdd : (dd - 1)*t'+(r+t')=top:=by
        obtain ⟨e,rfl⟩ : ∃ e,dd=e+1:=⟨dd - 1,by omega⟩
        rw [W3m];rw [W1g,W6y] at hdt;omega
       refine Ar (dd - 1 : Nat) rfl ?_
       refine Ar (r+t' : Nat) rfl ?_
       refine By rfl (fun h2=>?_) fun h2=>?_
       · exact Jn (dd - 1) [] rfl (Xv8 hY0 hM hUM hYM hUlt hvlow htnb htt hdd (by omega) hUq)
       · exact Bk (dd - 1,r+t') [] rfl ⟨by omega,hdd,by omega,by omega⟩ (by show dd - 1<dd;omega)
     · have htd : dd*tn<18446744073709551616:=by have:=Yld (a:=dd) (b:=tn) (by omega) htnb;omega
       refine Ar (dd*tn : Nat) rfl ?_ (wr (W2t ..).symm (by simp only [inK];omega))
       refine Ar (r*2 ^ 32 : Nat) rfl ?_ (Xhh (n:=32) rfl (by omega) (by decide))
       refine Ar (k - 1+mv : Nat) rfl ?_
       refine Ar (k - 1+mv - 2 : Nat) rfl ?_
       refine Eo (k - 1+mv - 2) rfl (by omega) ?_
       refine Ld (wd u2) rfl (mp hu2) ?_
       refine Go.Vm.Cv u2 rfl ?_
       refine Ar (r*2 ^ 32+u2 : Nat) rfl ?_ (Ya8 (by omega) (by omega) (Xdb u2 r 32 (by omega)) (by omega))
       refine By rfl (fun h2=>?_) fun h2=>?_
       · have hUq : U / Y<dd:=by
          have h1 : r*4294967296+u2<dd*tn:=W6s.1 h2
          have h2:=Yir hlow hM hdt h1 (by rw [←hYM];exact W2h hY0)
          rwa [←hUM,←hYM] at h2
         have hdd1 : 1≤dd:=W1r (W1c _) hUq
         have hdd : (dd - 1)*t'+(r+t')=top:=by
          obtain ⟨e,rfl⟩ : ∃ e,dd=e+1:=⟨dd - 1,by omega⟩
          rw [W3m];rw [W1g,W6y] at hdt;omega
         refine Ar (dd - 1 : Nat) rfl ?_
         refine Ar (r+t' : Nat) rfl ?_
         refine By rfl (fun h2=>?_) fun h2=>?_
         · exact Jn (dd - 1) [] rfl (Xv8 hY0 hM hUM hYM hUlt hvlow htnb htt hdd (by omega) hUq)
         · exact Bk (dd - 1,r+t') [] rfl ⟨by omega,hdd,by omega,by omega⟩ (by show dd - 1<dd;omega)
       · exact Jn dd [] rfl ⟨by omega,hdq,by
          rw [hUM,hYM]
          exact Ybu (r:=r) hM hvlow hdt (by have h2:=Int.ofNat_le.1 (Int.not_lt.1 h2);omega) (by omega) (by omega)⟩
   refine Ar (k - 1+mv : Nat) rfl ?_
   refine Ar (k - 1+mv+1 : Nat) rfl ?_
   refine Sw (k - 1) (k - 1+mv+1) rfl (by omega) (by omega) ?_
   refine Cw (args:=[.own 1000001 1 (k - 1) (mv+1),.d (ws (dig Y)),.d (.int .u64 dd)]) [(1000001,62)] rfl (Xnc (l:=lu) hwu (by omega) hmv.symm hdB (by omega)) (fun v H' _ hv=>?_) (by exact congrArg (·::_) (by rw [W1n,show k - 1+mv+1 - (k - 1)=mv+1 by omega];rfl))
   obtain ⟨cc,lu1,hc1,rfl,rfl,hl1,hw1,hout1,hv1⟩:=hv
   have hwin1:=Xbq ((hw1.drop (k - 1)).take (mv+1))
   have hwin0:=Xbq ((hwu.drop (k - 1)).take (mv+1))
   rw [W0j,W2e,W2c (by omega)] at hwin1 hwin0
   rw [←hwin] at hv1 hwin0
   have hstep:=Ycq (W2h hY0) hdq hdq1 hv1 hc1 hwin1 hwin0
   refine Cu none (fun (lu2 : List Nat)=>[(8,.d (.int .i64 s)),(9,.own 62 1 0 lu0.length),(10,.d (ws (dig Y))),(11,.d (.int .i64 mv)),(12,.own 73 1 0 (lu0.length - mv)),(13,.d (.int .u64 t')),(14,.d (.int .u64 tn)),(15,.d (.int .i64 ((k : Nat) - 1 : Int))),(17,.d (.int .u64 (U / Y : Nat)))]) (fun lu2=>[(62,.arr 1 (lu2.map wd)),(73,.arr 1 (lq.map wd))])
    (fun lu2=>lu2.length=lu0.length∧Xal lu2∧(∀ j,(j<k - 1∨k - 1+(mv+1)≤j)→lu2[j]?=lu[j]?)∧val ((lu2.drop (k - 1)).take (mv+1))=U % Y) rfl ?_ fun lu2 ⟨hl2,hw2,hout,hwinv⟩=>?_
   · refine By rfl (fun h1=>?_) fun h1=>?_
     · obtain ⟨hdd1,hrest1⟩:=hstep.2 h1
       refine Ar (U / Y : Nat) rfl ?_ (wr (by rw [hdd1];exact (by omega : ((U / Y+1 : Nat) : Int) - 1=((U / Y : Nat) : Int))) (by simp only [inK];have:=W1c (U / Y);omega))
       refine Ar (k - 1+mv : Nat) rfl ?_
       refine Ar (k - 1+mv+1 : Nat) rfl ?_
       refine Sw (k - 1) (k - 1+mv+1) rfl (by omega) (by omega) ?_
       refine Cw (args:=[.own 1000001 1 (k - 1) (mv+1),.d (ws (dig Y))]) [(1000001,62)] rfl (Xro (l:=lu1) hw1 (by omega) hmv.symm (by omega)) (fun v H' _ hv=>?_) (by exact congrArg (·::_) (by rw [W1n,show k - 1+mv+1 - (k - 1)=mv+1 by omega];rfl))
       obtain ⟨e',lu2,he1,rfl,hl2,hw2,hout2,hv2⟩:=hv
       have hwin2:=Xbq ((hw2.drop (k - 1)).take (mv+1))
       rw [W0j,W2e,W2c (by omega)] at hwin2
       exact Jn lu2 [] rfl ⟨by omega,hw2,fun j hj=>(hout2 j hj).trans (hout1 j hj),hrest1 _ e' hwin2 hv2 he1⟩
     · obtain ⟨hdd1,hrest1⟩:=hstep.1 (by omega)
       subst hdd1
       exact Jn lu1 [] rfl ⟨by omega,hw1,hout1,hrest1⟩
   have hqB : U / Y<4294967296:=by omega
   have hqz0 : 0≤U / Y:=W1c _
   refine Go.Vm.Cv (U / Y : Nat) rfl ?_
   refine Eo (k - 1) rfl (by omega) ?_
   refine Sto rfl (by simp only [lw];omega) ms ?_
   refine Ar ((k - 1 : Nat) - 1 : Int) rfl ?_
   have hY1 : 0<Y:=W2h hY0
   have hab : val (lu2.drop (k - 1))=U % Y:=by
    have g1:=Xbg (lu2.drop (k - 1)) (mv+1) (by rw [W2e];omega)
    have g2:=Xbg (lu.drop (k - 1)) (mv+1) (by rw [W2e];omega)
    have g3 : (lu2.drop (k - 1)).drop (mv+1)=(lu.drop (k - 1)).drop (mv+1):=by
     rw [W6d,W6d]
     exact Xek fun j hj=>hout j (.inr hj)
    rw [←hU,←hwin] at g2
    rw [g1,hwinv,g3]
    omega
   refine Bk (k - 1,lu2,lq.set (k - 1) (U / Y)) [] rfl ⟨by omega,hl2,hw2,by simp [hlq],Xgo hwq hqB,fun j hj=>(hout j (.inl hj)).trans (hsame j (by omega)),by rw [hab];exact W1y _ hY1,?_⟩ (by show k - 1<k;omega)
   obtain ⟨w,hw⟩:=xat (l:=lu) (k:=k - 1) (by omega)
   have hw2' : lu0[k - 1]?=some w:=by rw [←hsame (k - 1) (by omega)];exact hw
   have g1:=Xbn hw
   have g2:=Xbn hw2'
   have g3:=Xbn (l:=lq.set (k - 1) (U / Y)) (k:=k - 1) (W2u (by omega))
   have g4 : (lq.set (k - 1) (U / Y)).drop (k - 1+1)=lq.drop (k - 1+1):=Xek fun j hj=>W1w (by omega)
   rw [show k - 1+1=k from by omega] at g1 g2 g3 g4
   rw [hab,g2,g3,g4,←hQR,W1g,W0q,W0w]
   have g5:=W2j U Y
   rw [W1d] at g5
   rw [←hU] at g1
   omega
 · have hk0 : k=0:=by omega
   subst hk0
   rw [W1b] at hRlt hQR
   rw [W1b,W1b,huv] at hQR
   obtain ⟨hQ,hR⟩:=Xv1 hY.symm hQR hRlt
   have htk : val (lu.take mv)=val lu:=by
    have g:=Xbg lu mv (by omega)
    rw [hmv] at g
    rcases W2o (val (lu.drop (dig Y).length)) with h5 | h5
    · rw [h5,W2z] at g;rw [hmv];omega
    · have:=W4h (4294967296 ^ (dig Y).length) h5
      omega
   refine Fz 26 12 (lq.map wd) rfl (by simp only [lw];omega) (oa hlq) ?_
   refine Fz 26 9 (lu.map wd) rfl (by simp only [lw];omega) (oa hln) ?_
   refine Dw rfl ?_
   refine Ce rfl (trim_ok hwq (by omega)) ?_
   refine Tk mv (lu.take mv |>.map wd) rfl rfl (by simp only [lw];omega) (W2w ..).symm ?_
   refine Ce rfl (trim_ok (hwu.take mv) (by rw [W0j];omega)) ?_
   refine Ca rfl (Xfb (Xad _) (by rw [htk];have:=Xao (W1z hRlt);omega) hs32) fun v hv=>?_
   obtain ⟨l8,hl8,hw8,hn8,rfl⟩:=hv
   rw [Xaf,htk,hR,Nat.mul_div_cancel _ (W0n s)] at hl8
   refine Ce rfl (trim_ok hw8 (by rw [hn8,htk];have:=Xao (W1z hRlt);omega)) ?_
   exact RTt rfl (.cons (.eq (by rw [hQ])) (.one (.eq (by rw [hl8])) (fun _ _ e=>by cases e) (fun _ _ e=>by cases e)))
end
end Go.Proofs.YtpgcfjpkilabfaaGreatDoor
namespace Go.Num
def rt : Nat→Nat
 | 0=>0
 | n+1=>if (rt n+1)*(rt n+1)≤n+1 then rt n+1 else rt n
theorem Xcx (n : Nat) : rt n*rt n≤n∧n<(rt n+1)*(rt n+1):=by
 induction n with
 | zero=>exact ⟨W0c _,by decide⟩
 | succ n ih =>
  obtain ⟨h1,h2⟩:=ih
  simp only [rt]
  split
  · rename_i h
    refine ⟨h,?_⟩
    have : (rt n+1+1)*(rt n+1+1)=(rt n+1)*(rt n+1)+2*(rt n+1)+1:=by grind
    omega
  · rename_i h
    exact ⟨by omega,by omega⟩
theorem Xxr {x y : Nat} (h : x*x<y*y) : x<y:=by
 by_cases h1 : x<y
 · exact h1
 · have:=W1t (W3w h1) (W3w h1)
   omega
theorem Yg2 {n s : Nat} (h1 : s*s≤n) (h2 : n<(s+1)*(s+1)) : rt n=s:=by
 obtain ⟨g1,g2⟩:=Xcx n
 have k1 : rt n<s+1:=Xxr (by omega)
 have k2 : s<rt n+1:=Xxr (by omega)
 omega
theorem Yg1 {n : Nat} (h : n≠0) : 0<rt n:=by
 have:=(Xcx n).2
 by_cases h0 : rt n=0
 · rw [h0] at this;omega
 · omega
theorem Ybg {a x : Nat} (hx : 0<x) : rt a≤(x+a / x) / 2:=by
 obtain ⟨h1,h2⟩:=Xcx a
 generalize rt a=s at *
 by_cases h : s≤(x+a / x) / 2
 · exact h
 · exfalso
   have h3 : x+a / x+1≤2*s:=by omega
   have h4 : a<(a / x+1)*x:=by
    have:=W2j a x
    have:=W1y a hx
    rw [W1g,W1d (a / x)];omega
   obtain ⟨q,hq⟩ : ∃ q,q=a / x+1:=⟨_,rfl⟩
   rw [←hq] at h4
   have h5 : x+q≤2*s:=by omega
   have h6 : q*x≤s*s:=by
    by_cases hxs : x≤s
    · obtain ⟨e,rfl⟩ : ∃ e,s=x+e:=⟨s - x,by omega⟩
      have : q≤x+2*e:=by omega
      have h7:=W0y x this
      have : (x+e)*(x+e)=(x+2*e)*x+e*e:=by grind
      omega
    · obtain ⟨e,he⟩ : ∃ e,x=s+e:=⟨x - s,by omega⟩
      subst he
      have h8 : q+e≤s:=by omega
      obtain ⟨f,rfl⟩ : ∃ f,s=q+e+f:=⟨s - q - e,by omega⟩
      have : (q+e+f)*(q+e+f)=q*(q+e+f+e)+(e*e+2*(e*f)+f*q+f*f):=by grind
      omega
   omega
theorem Xrs {a x : Nat} (hx : 0<x) (h : x≤(x+a / x) / 2) (hr : rt a≤x) : rt a=x:=by
 have h1 : x≤a / x:=by omega
 have h2 : x*x≤a:=W0h (W0y x h1) (W6j a x)
 have h3:=(Xcx a).2
 have h4 : x<rt a+1:=Xxr (by omega)
 omega
theorem Xts {a B n : Nat} (h : a<2 ^ B) (hn : B≤2*n) : rt a<2 ^ n:=by
 refine Xxr ?_
 rw [←W0u,←Nat.two_mul]
 exact W1r (Xcx a).1 (W0p h (W0k (by decide) hn))
theorem Xhq (n : Nat) : 4294967296 ^ (n / 32)*2 ^ (n % 32)=2 ^ n:=by
 rw [show (4294967296 : Nat)=2 ^ 32 from rfl,←W4b,←W0u]
 congr 1
 omega
theorem Xoa (n : Nat) : dig (2 ^ n)=(List.replicate (n / 32+1) 0).set (n / 32) (2 ^ (n % 32)):=by
 have hb : 2 ^ (n % 32)<4294967296:=W0p (W3n (by decide) (W1y n (by decide))) (by decide)
 have hv : val ((List.replicate (n / 32+1) 0).set (n / 32) (2 ^ (n % 32)))=2 ^ n:=by
  have:=Xbc (l:=List.replicate (n / 32+1) 0) (k:=n / 32) (d:=2 ^ (n % 32)) (by simp)
  rw [W0a (by simp),W5b,Xbm,W1n,Xhq] at this
  exact this
 have hw : Xal ((List.replicate (n / 32+1) 0).set (n / 32) (2 ^ (n % 32))):=by
  intro y hy
  rcases W4s hy with h | h
  · have:=W5o h;omega
  · omega
 rw [←hv]
 refine Xd9 hw (Xjp hw (by simp) ?_)
 rw [hv,W3i,W1q,W3m,←Xhq n]
 exact W4h _ (W0n _)
theorem Xau (a b : Int) : (a<b∧Xa1 a b=-1)∨(a=b∧Xa1 a b=0)∨(b<a∧Xa1 a b=1):=by
 unfold Xa1
 split
 · left;exact ⟨by assumption,rfl⟩
 · split
   · right;right;exact ⟨by omega,rfl⟩
   · right;left;exact ⟨by omega,rfl⟩
theorem Xe9 {l : List Nat} {j x : Nat} (h : l[j]?=some x) : val l=val (l.take j)+4294967296 ^ j*(x+4294967296*val (l.drop (j+1))):=by
 have hj : j<l.length:=(W2s.1 h).1
 rw [Xbg l j (by omega),Xbn h]
end Go.Num
namespace Go.Proofs.YtpgcfjpkilabfaaGreatDoor
open Go Go.Vm Go.Num
section
theorem Xav (z : Int) : (z<0∧z=-(z.natAbs : Int))∨(¬ z<0∧z=(z.natAbs : Int)):=by omega
theorem Yas (z : Int) : sg (!decide (z<0)) z.natAbs=-z:=by
 rcases Xav z with ⟨h,e⟩ | ⟨h,e⟩ <;> simp [sg,h] <;> omega
theorem Yat (x y : Int) : sg (decide (x<0) != decide (y<0)) (x.natAbs*y.natAbs)=x*y:=by
 rcases Xav x with ⟨h,e⟩ | ⟨h,e⟩ <;> rcases Xav y with ⟨h',e'⟩ | ⟨h',e'⟩ <;>
  (simp only [sg,h,h',decide_true,decide_false]
   generalize x.natAbs=a at *
   generalize y.natAbs=b at *
   subst e
   subst e'
   simp [Int.neg_mul,Int.mul_neg])
theorem Yau {x y : Int} (h : decide (x<0)=decide (y<0)) : sg (decide (x<0)) (x.natAbs+y.natAbs)=x+y:=by
 rcases Xav x with ⟨h1,e⟩ | ⟨h1,e⟩ <;> rcases Xav y with ⟨h2,e'⟩ | ⟨h2,e'⟩ <;> simp [h1,h2] at h <;> simp [sg,h1] <;> omega
theorem Xpe {x y : Int} (h : decide (x<0)≠decide (y<0)) (hle : y.natAbs≤x.natAbs) : sg (decide (x<0)) (x.natAbs - y.natAbs)=x+y:=by
 rcases Xav x with ⟨h1,e⟩ | ⟨h1,e⟩ <;> rcases Xav y with ⟨h2,e'⟩ | ⟨h2,e'⟩ <;> simp [h1,h2] at h <;> simp [sg,h1] <;> omega
theorem Xv3 {n : Nat} (h : (dig n).length≤2) : n<18446744073709551616:=by
 have:=Xcm n
 have h1 : 4294967296 ^ (dig n).length≤4294967296 ^ 2:=W0k (by decide) h
 omega
theorem Xgz (n : Nat) : sg false n=(n : Int):=rfl
theorem Xy0 {a b : Int} (hb : b≠0) (h : decide (a<0)=decide (b<0)) : sg (decide (a<0) != decide (b<0)) (a.natAbs / b.natAbs)=a.fdiv b∧sg (decide (b<0)) (a.natAbs % b.natAbs)=a.fmod b:=by
 rcases Xav a with ⟨h1,e⟩ | ⟨h1,e⟩ <;> rcases Xav b with ⟨h2,e'⟩ | ⟨h2,e'⟩ <;> simp [h1,h2] at h <;> simp only [sg,h1,h2,decide_true,decide_false]
 all_goals
  generalize a.natAbs=x at *
  generalize b.natAbs=y at *
  subst e
  subst e'
  simp [W1l,W5i]
theorem Yd7 (x y : Nat) (hy : 0<y) : (-(x : Int)).fdiv y=-((x / y+if 0<x % y then 1 else 0 : Nat) : Int)∧(-(x : Int)).fmod y=((if 0<x % y then y - x % y else 0 : Nat) : Int):=by
 rw [W1l _ (by omega),W5i _ (by omega)]
 have h1:=W2j x y
 have h2:=W1y x hy
 refine (W7i (by omega)).2 ?_
 generalize x / y=q at *
 generalize x % y=r at *
 split
 · refine ⟨?_,by omega,by omega⟩
   rw [←h1,Int.natCast_sub (by omega)]
   push_cast
   grind
 · have : r=0:=by omega
   subst this
   refine ⟨?_,by omega,by omega⟩
   rw [←h1]
   push_cast
   grind
theorem Xqq {a b : Int} (hb : b≠0) (h : decide (a<0)≠decide (b<0)) : sg (decide (a<0) != decide (b<0)) (a.natAbs / b.natAbs+if 0<a.natAbs % b.natAbs then 1 else 0)=a.fdiv b∧sg (decide (b<0)) (if 0<a.natAbs % b.natAbs then b.natAbs - a.natAbs % b.natAbs else 0)=a.fmod b:=by
 rcases Xav a with ⟨h1,e⟩ | ⟨h1,e⟩ <;> rcases Xav b with ⟨h2,e'⟩ | ⟨h2,e'⟩ <;> simp [h1,h2] at h <;> simp only [sg,h1,h2,decide_true,decide_false]
 all_goals
  generalize a.natAbs=x at *
  generalize b.natAbs=y at *
  subst e
  subst e'
  have hf:=Yd7 x y (by omega)
 · rw [hf.1,hf.2]
   exact ⟨rfl,rfl⟩
 · have e1 : (x : Int).fdiv (-(y : Int))=(-(x : Int)).fdiv y:=by rw [←W7c,Int.neg_neg]
   have e2 : (x : Int).fmod (-(y : Int))=-((-(x : Int)).fmod y):=by rw [←Int.neg_fmod_neg,Int.neg_neg]
   rw [e1,e2,hf.1,hf.2]
   exact ⟨rfl,rfl⟩
theorem Xmp {a b : Int} (h : Xa1 a 0≠Xa1 b 0) : Xa1 (Xa1 a 0) (Xa1 b 0)=Xa1 a b:=by
 rcases Xau a 0 with ⟨h1,e1⟩ | ⟨h1,e1⟩ | ⟨h1,e1⟩ <;> rcases Xau b 0 with ⟨h2,e2⟩ | ⟨h2,e2⟩ | ⟨h2,e2⟩ <;> rw [e1,e2] at h ⊢ <;>
  first | exact absurd rfl h | (rcases Xau a b with ⟨h3,e3⟩ | ⟨h3,e3⟩ | ⟨h3,e3⟩ <;> rw [e3] <;> first | rfl | omega)
theorem Xmq {a b : Int} (h : Xa1 a 0=Xa1 b 0) : Xa1 a 0*Xa1 (a.natAbs : Int) (b.natAbs : Int)=Xa1 a b:=by
 rcases Xau a 0 with ⟨h1,e1⟩ | ⟨h1,e1⟩ | ⟨h1,e1⟩ <;> rcases Xau b 0 with ⟨h2,e2⟩ | ⟨h2,e2⟩ | ⟨h2,e2⟩ <;> rw [e1,e2] at h <;>
  first | (exact absurd h (by decide)) | (rw [e1];rcases Xau a b with ⟨h3,e3⟩ | ⟨h3,e3⟩ | ⟨h3,e3⟩ <;> rcases Xau (a.natAbs : Int) (b.natAbs : Int) with ⟨h4,e4⟩ | ⟨h4,e4⟩ | ⟨h4,e4⟩ <;> rw [e3,e4] <;> first | rfl | omega)
theorem Xwn {t : Nat} (h : t<4294967296) : bl t≤32:=by
 by_cases h0 : t=0
 · subst h0;decide
 · have:=(Xcf h0).1
   by_cases h2 : bl t≤32
   · exact h2
   · have : 2 ^ 32≤2 ^ (bl t - 1):=W0k (by decide) (by omega)
     omega
theorem Xov {n m t : Nat} (hm : m=(dig n).length) (hm0 : 0<m) (ht : (dig n)[m - 1]?=some t) : n<2 ^ (32*(m - 1)+bl t):=by
 have h0:=Xe9 ht
 have hd : (dig n).drop (m - 1+1)=[]:=W1x (by omega)
 rw [Xaf,hd] at h0
 have h1:=Xbq ((Xad n).take (m - 1))
 rw [W0j,show min (m - 1) (dig n).length=m - 1 from by omega] at h1
 have e : (4294967296 : Nat) ^ (m - 1)=2 ^ (32*(m - 1)):=by rw [show (4294967296 : Nat)=2 ^ 32 from rfl,←W4b]
 have h2 : t<2 ^ bl t:=by
  by_cases ht0 : t=0
  · subst ht0;exact W0n _
  · exact (Xcf ht0).2.1
 have h3:=W0m (4294967296 ^ (m - 1)) (show t+1≤2 ^ bl t from h2)
 rw [W0w,W3q] at h3
 rw [W0u,←e]
 simp only [val,W2z,W2n] at h0
 omega
theorem Ydc {n : Nat} : 2 ^ (n % 32)<4294967296:=W0p (W3n (by decide) (W1y n (by decide))) (by decide)
theorem Xnx {n : Nat} : (dig (2 ^ n)).length=n / 32+1:=by rw [Xoa];simp
theorem f0 {g : Hp} {K : Hpl} : Fit g K (.st (.pr (.b false) .nil)) (.d (dz 0)):=.sd (.pd (.bd rfl) (.nil (by rw [Int.natAbs_zero,Xai];rfl)))
theorem f0' {g : Hp} {K : Hpl} {z : Int} (h : z=0) : Fit g K (.st (.pr (.b false) .nil)) (.d (dz z)):=h ▸ f0
theorem Yb2 {a b : Bool} : dc (¬ (a=true↔b=true))=(a != b):=by rw [Xv9];cases a <;> cases b <;> rfl
theorem Yl7 {a b : Bool} : (a=true↔b=true)↔a=b:=W3t.symm
theorem Xcc {n : Nat} (h : (dig n).length≤1099511627776) : C0 65 [.d (ws (dig n))] (·=.d (ws (dig n))):=trim_dig_ok h
theorem Norm_ok {z : Int} (h : (dig z.natAbs).length≤1099511627776) : C0 136 [.d (dz z)] (·=.d (dz z)):=by
 refine En Tryz.func136 fun _ _ _=>?_
 refine Dw rfl ?_
 refine Ce rfl (Xcc h) ?_
 refine Ce rfl (Xbj h) ?_
 refine Ce rfl (Xak h) ?_
 exact R1 rfl (.eq (by rw [Xpf]))
theorem Neg_ok {z : Int} (h : (dig z.natAbs).length≤1099511627776) : C0 26 [.d (dz z)] (·=.d (dz (-z))):=by
 refine En Tryz.func26 fun _ _ _=>?_
 refine Dw rfl ?_
 refine Ce rfl (Xcc h) ?_
 refine Ce rfl (Xbj h) ?_
 refine Ce rfl (Xak h) ?_
 exact R1 rfl (.eq (by rw [Yas]))
theorem Sign_ok {z : Int} (h : (dig z.natAbs).length≤1099511627776) : C0 62 [.d (dz z)] (·=.d (.int .i64 (Xa1 z 0))):=by
 refine En Tryz.func62 fun _ _ _=>?_
 refine Ce rfl (Xcc h) ?_
 refine By rfl (fun h1=>?_) fun h1=>?_ <;> simp only [lw] at h1
 · have : z=0:=by have:=Xrz.1 (W0l (by omega : (dig z.natAbs).length=0));omega
   exact R1 rfl (.eq (by rw [this];rfl))
 · have h0 : z≠0:=fun e=>h1 (by rw [e,Int.natAbs_zero,Xai];rfl)
   refine By rfl (fun h2=>?_) fun h2=>?_
   · exact R1 rfl (.eq (by rw [Xa1,if_pos h2]))
   · exact R1 rfl (.eq (by rw [Xa1,if_neg h2,if_pos (by omega)]))
theorem Cmp_ok {a b : Int} (ha : (dig a.natAbs).length≤1099511627776) (hb : (dig b.natAbs).length≤1099511627776) : C0 24 [.d (dz a),.d (dz b)] (·=.d (.int .i64 (Xa1 a b))):=by
 refine En Tryz.func24 fun _ _ _=>?_
 refine Dw rfl ?_
 refine Ce rfl (Sign_ok ha) ?_
 refine Ce rfl (Sign_ok hb) ?_
 refine By rfl (fun h1=>?_) fun h1=>?_
 · refine Ce rfl Xcr ?_
   exact R1 rfl (.eq (by rw [Xmp h1]))
 · have h1 : Xa1 a 0=Xa1 b 0:=W4k.1 h1
   refine Dw rfl ?_
   refine Ce rfl (Xcc ha) ?_
   refine Ce rfl (Xcc hb) ?_
   refine Ce rfl (Xbt ha) ?_
   refine Ar (Xa1 a b) rfl ?_ (wr (Xmq h1) (by simp only [inK];rcases Xau a b with ⟨g1,g2⟩ | ⟨g1,g2⟩ | ⟨g1,g2⟩ <;> omega))
   exact R0
theorem Mul_ok {a b : Int} (ha : (dig a.natAbs).length≤549755813888) (hb : (dig b.natAbs).length≤549755813888) : C0 86 [.d (dz a),.d (dz b)] (·=.d (dz (a*b))):=by
 refine En Tryz.func86 fun _ _ _=>?_
 refine Dw rfl ?_
 refine Ce rfl (Xcc (by omega)) ?_
 refine Ce rfl (Xcc (by omega)) ?_
 refine Ce rfl (Xjt ha hb) ?_
 refine Ce rfl (Xak (W0h (Xkj ..) (by omega))) ?_
 exact R1 rfl (.eq (by rw [Yb2,Yat]))
theorem Yl0 {x y : Nat} : ¬ Xa1 (x : Int) (y : Int)<0↔y≤x:=by rw [Xzj];omega
theorem Add_ok {a b : Int} (ha : (dig a.natAbs).length≤549755813888) (hb : (dig b.natAbs).length≤549755813888) : C0 303 [.d (dz a),.d (dz b)] (·=.d (dz (a+b))):=by
 refine En Tryz.func303 fun _ _ _=>?_
 refine Dw rfl ?_
 refine Ce rfl (Xcc (by omega)) ?_
 refine Ce rfl (Xcc (by omega)) ?_
 refine By rfl (fun h=>?_) fun h=>?_ <;> rw [Yl7] at h
 · refine Dw rfl ?_
   refine Ce rfl (Xhr (by omega) (by omega)) ?_
   refine Ce rfl (Xak (W0h (Xf8 ..) (by omega))) ?_
   exact R1 rfl (.eq (by rw [Yau h]))
 · refine Ce rfl (Xbt (by omega)) ?_
   refine By rfl (fun h1=>?_) fun h1=>?_
   · have hle:=W1z (Xzj.1 h1)
     refine Dw rfl ?_
     refine Ce rfl (Xdo (by omega) hle) ?_
     refine Ce rfl (Xak (W0h (Xao (Nat.sub_le ..)) (by omega))) ?_
     exact R1 rfl (.eq (by rw [Xpe (fun e=>h e.symm) hle,Int.add_comm]))
   · have hle:=Yl0.1 h1
     refine Dw rfl ?_
     refine Ce rfl (Xdo (by omega) hle) ?_
     refine Ce rfl (Xak (W0h (Xao (Nat.sub_le ..)) (by omega))) ?_
     exact R1 rfl (.eq (by rw [Xpe h hle]))
theorem GCD_ok {a b : Int} (ha : (dig a.natAbs).length≤549755813888) (hb : (dig b.natAbs).length≤549755813888) : C0 229 [.d (dz a),.d (dz b)] (·=.d (dz (Int.gcd a b))):=by
 have hz : ∀ {x : Nat},(dig x).length=0↔x=0:=fun {x}=>⟨fun h=>Xrz.1 (W0l h),fun h=>by rw [h,Xai];rfl⟩
 refine En Tryz.func229 fun _ _ _=>?_
 refine Dw rfl ?_
 refine Ce rfl (Xcc (by omega)) ?_
 refine Ce rfl (Xcc (by omega)) ?_
 refine Cu (some 1000000) (fun ((x,y) : Nat × Nat)=>[(4,.ptr 4 0),(5,.d (ws (dig x))),(6,.d (ws (dig y)))]) (fun _=>[(4,.var (.st (.pr (.b false) .nil)))]) (fun (x,y)=>Nat.gcd x y=Int.gcd a b∧(dig x).length≤549755813888∧(dig y).length≤2∧((dig x).length≤2∨y=0)) rfl ?_ fun ⟨x,y⟩ ⟨hg,hx,hy,hxy⟩=>?_
 · refine Lo (fun ((x,y) : Nat × Nat)=>[(4,.ptr 4 0),(5,.d (ws (dig x))),(6,.d (ws (dig y)))]) (fun _=>[(4,.var (.st (.pr (.b false) .nil)))]) (fun (x,y)=>Nat.gcd x y=Int.gcd a b∧(dig x).length≤549755813888∧(dig y).length≤549755813888) (fun (_,y)=>y) (a.natAbs,b.natAbs) [] rfl ⟨rfl,ha,hb⟩ fun ⟨x,y⟩ ⟨hg,hx,hy⟩=>?_
   have step : y≠0→Nat.gcd y (x % y)=Int.gcd a b∧(dig y).length≤549755813888∧(dig (x % y)).length≤549755813888∧x % y<y:=fun h0=>by
    have hlt:=W1y x (W2h h0)
    exact ⟨by rw [←hg,W6t y,←Nat.gcd_rec,W6t],hy,W0h (Xao (W1z hlt)) hy,hlt⟩
   refine By rfl (fun h1=>?_) fun h1=>?_ <;> simp only [lw] at h1
   · have h0 : y≠0:=fun e=>by have:=hz.2 e;omega
     refine Ce rfl (Xcl hx hy h0) ?_
     have h2:=step h0
     exact Bk (y,x % y) [] rfl ⟨h2.1,h2.2.1,h2.2.2.1⟩ h2.2.2.2
   refine By rfl (fun h2=>?_) fun h2=>?_ <;> simp only [lw] at h2
   · refine By rfl (fun h3=>?_) fun h3=>?_ <;> simp only [lw] at h3
     · have h0 : y≠0:=fun e=>by have:=hz.2 e;omega
       refine Ce rfl (Xcl hx hy h0) ?_
       have h2:=step h0
       exact Bk (y,x % y) [] rfl ⟨h2.1,h2.2.1,h2.2.2.1⟩ h2.2.2.2
     · exact Jn (x,y) [] rfl ⟨hg,hx,by omega,.inr (hz.1 (by omega))⟩
   · exact Jn (x,y) [] rfl ⟨hg,hx,by omega,.inl (by omega)⟩
 refine By rfl (fun h=>?_) fun h=>?_ <;> simp only [lw] at h
 · have h0 : y=0:=hz.1 (by omega)
   subst h0
   rw [Nat.gcd_zero_right] at hg
   refine Ce rfl (Xbj (by omega)) ?_
   refine Ce rfl (Xak (b:=false) (by omega)) ?_
   exact R1 rfl (.eq (by rw [Xgz,hg]))
 · have hlt1 : x<18446744073709551616:=Xv3 (by rcases hxy with h | h;exact h;exact absurd (hz.2 h) (by omega))
   have hlt2 : y<18446744073709551616:=Xv3 (by omega)
   refine Ce rfl (Xfa hlt1) ?_
   refine Ce rfl (Xfa hlt2) ?_
   refine Lo (fun ((x,y) : Nat × Nat)=>[(4,.ptr 4 0),(9,.d (.int .u64 x)),(10,.d (.int .u64 y))]) (fun _=>[(4,.var (.st (.pr (.b false) .nil)))]) (fun (x,y)=>x<18446744073709551616∧y<18446744073709551616∧Nat.gcd x y=Int.gcd a b) (fun (_,y)=>y) (x,y) [] rfl ⟨hlt1,hlt2,hg⟩ fun ⟨x,y⟩ ⟨hx,hy,hg⟩=>?_
   refine By rfl (fun h=>?_) fun h=>?_
   · have hy0 : y≠0:=by omega
     have hltm:=W1y x (W2h hy0)
     refine Dw rfl ?_
     refine Ar (x % y : Nat) rfl ?_ (show _∧_ from ⟨by omega,Xsy x y⟩)
     exact Bk (y,x % y) [] rfl ⟨hy,by omega,by rw [←hg,W6t y,←Nat.gcd_rec,W6t]⟩ hltm
   · have h0 : y=0:=by omega
     subst h0
     rw [Nat.gcd_zero_right] at hg
     refine Ce rfl (Xb8 hx) ?_
     refine Ce rfl (Xak (b:=false) (W0h (Xap (k:=2) (by omega)) (by omega))) ?_
     exact R1 rfl (.eq (by rw [Xgz,hg]))
theorem Yfs : dig 1=[1]:=by rw [Xe1 (by decide),show 1 / 4294967296=0 from rfl,Xai]
theorem Xyc {x : Nat} (hx : (dig x).length≤1099511627775) : C0 342 [.d (ws (dig x)),.d (.sl 1 [.int .u32 1])] (·=.d (ws (dig (x+1)))):=by
 have:=Xhr (y:=1) hx (by rw [Yfs];decide)
 rw [Yfs] at this
 exact this
theorem DivMod_ok {a b : Int} (ha : (dig a.natAbs).length≤549755813888) (hb : (dig b.natAbs).length≤549755813888) (hb0 : b≠0) : C0 298 [.d (dz a),.d (dz b)] (·=.tup (.pr (.d (dz (a.fdiv b))) (.pr (.d (dz (a.fmod b))) (.d (.int .i64 0))))):=by
 have hz : ∀ {x : Nat},(dig x).length=0↔x=0:=fun {x}=>⟨fun h=>Xrz.1 (W0l h),fun h=>by rw [h,Xai];rfl⟩
 have hq : (dig (a.natAbs / b.natAbs)).length≤549755813888:=W0h (Xao (W3u ..)) ha
 have hr : (dig (a.natAbs % b.natAbs)).length≤549755813888:=W0h (Xao (Nat.mod_le ..)) ha
 have hq1 : (dig (a.natAbs / b.natAbs+1)).length≤549755813889:=W0h (Xf8 ..) (by rw [Yfs];simp;omega)
 refine En Tryz.func298 fun _ _ _=>?_
 refine Ce rfl (Xcc (by omega)) ?_
 refine By rfl (fun h=>?_) fun h=>?_ <;> simp only [lw] at h
 · exact absurd ((@hz b.natAbs).1 (by omega)) (by omega)
 refine Ce rfl (Xcc (by omega)) ?_
 refine Ce rfl (Xcl ha hb (by omega)) ?_
 refine By rfl (fun h1=>?_) fun h1=>?_ <;> rw [Yl7] at h1
 · refine By rfl (fun h2=>?_) fun h2=>?_ <;> simp only [lw] at h2
   · have hp : 0<a.natAbs % b.natAbs:=W2h fun e=>by have:=hz.2 e;omega
     have hf:=Xqq hb0 h1
     rw [if_pos hp,if_pos hp] at hf
     refine Ce rfl (Xyc (x:=a.natAbs / b.natAbs) (by omega)) ?_
     refine Ce rfl (Xdo (by omega) (W1z (W1y _ (by omega)))) ?_
     refine Dw rfl ?_
     refine Ce rfl (Xak (by omega)) ?_
     refine Ce rfl (Xak (W0h (Xao (Nat.sub_le ..)) (by omega))) ?_
     exact RTt rfl (.cons (.eq (by rw [Yb2,hf.1])) (.cons (.eq (by rw [hf.2])) (.one (.rf rfl) (fun _ _ e=>by cases e) (fun _ _ e=>by cases e))))
   · have hp : ¬ 0<a.natAbs % b.natAbs:=fun hp=>by have:=mt hz.1 (W7n.1 hp);omega
     have hf:=Xqq hb0 h1
     rw [if_neg hp,if_neg hp,W2n] at hf
     refine Dw rfl ?_
     refine Ce rfl (Xak (by omega)) ?_
     refine Ce rfl (Xak (by omega)) ?_
     exact RTt rfl (.cons (.eq (by rw [Yb2,hf.1])) (.cons (.eq (by rw [show a.natAbs % b.natAbs=0 by omega,hf.2])) (.one (.rf rfl) (fun _ _ e=>by cases e) (fun _ _ e=>by cases e))))
 · have hf:=Xy0 hb0 (W4k.1 h1)
   refine Dw rfl ?_
   refine Ce rfl (Xak (by omega)) ?_
   refine Ce rfl (Xak (by omega)) ?_
   exact RTt rfl (.cons (.eq (by rw [Yb2,hf.1])) (.cons (.eq (by rw [hf.2])) (.one (.rf rfl) (fun _ _ e=>by cases e) (fun _ _ e=>by cases e))))
theorem Xn4 {x : Nat} (hx : (dig x).length≤549755813888) : C0 402 [.d (ws (dig x))] (·=.d (ws (dig (x / 2)))):=by
 refine En Tryz.func402 fun _ _ _=>?_
 refine Ca rfl (Xfb (n:=1) (Xad x) hx (by decide)) fun v hv=>?_
 obtain ⟨l,h1,h2,h3,rfl⟩:=hv
 rw [Xaf] at h1
 refine Ce rfl (trim_ok h2 (by omega)) ?_
 exact R1 rfl (.eq (by rw [h1]))
theorem Xgy {j : Nat} (h : j<32) : arB .shl .u32 1 j (2 ^ j : Nat):=⟨by omega,by
 rw [W6x,show min j (IntKind.bits .u32)=j from W2c (W1z h),W3y,show (2 : Int) ^ j=((2 ^ j : Nat) : Int) by rw [W7g];rfl]
 have : 2 ^ j<2 ^ 32:=W3n (by decide) h
 exact wW ⟨W5e _,W6s.2 this⟩⟩
theorem Xef {n : Nat} (hn : n≤8796093022210) : C0 401 [.d (.int .i64 n)] (·=.d (ws (dig (2 ^ n)))):=by
 refine En Tryz.func401 fun _ _ _=>?_
 refine Ar (n / 32 : Nat) rfl ?_ (show _∧_ from ⟨by decide,by rw [show Int.tdiv (n : Int) 32=((n / 32 : Nat) : Int) from rfl];exact wI (by omega)⟩)
 refine Ar (n / 32+1 : Nat) rfl ?_
 refine Mk (n / 32+1) rfl (by omega) ?_
 refine Ar (n / 32 : Nat) rfl ?_ (show _∧_ from ⟨by decide,by rw [show Int.tdiv (n : Int) 32=((n / 32 : Nat) : Int) from rfl];exact wI (by omega)⟩)
 refine Ar (n % 32 : Nat) rfl ?_ (show _∧_ from ⟨by decide,rfl⟩)
 refine Ar (2 ^ (n % 32) : Nat) rfl ?_ (Xgy (W1y _ (by decide)))
 refine Eo (n / 32) rfl (by omega) ?_
 refine Sto rfl (by simp) rfl ?_
 refine R1 rfl (.own rfl (by simp) ?_)
 rw [Xoa,W1b,W0a (by simp),←ms,W2d]
 rfl
end
section
theorem Xoq {z : Int} (hl : (dig z.natAbs).length≤549755813888) (h0 : z≠0) : C0 400 [.d (dz z)] fun v=>∃ B : Nat,v=.d (.int .i64 B)∧z.natAbs<2 ^ B∧B≤32*(dig z.natAbs).length:=by
 refine En Tryz.func400 fun _ _ _=>?_
 refine Ce rfl (Xcc (by omega)) ?_
 refine By rfl (fun h=>?_) fun h=>?_ <;> simp only [lw] at h
 · exact absurd (Xrz.1 (W0l (by omega : (dig z.natAbs).length=0))) (by omega)
 obtain ⟨t,ht⟩:=xat (l:=dig z.natAbs) (k:=(dig z.natAbs).length - 1) (by omega)
 have htb:=ww ht (Xad _)
 have hb:=Xwn htb
 refine Ar ((dig z.natAbs).length - 1 : Nat) rfl ?_ (wr (by simp only [lw];omega) (by simp only [inK];omega))
 refine Ar (32*((dig z.natAbs).length - 1) : Nat) rfl ?_
 refine Ar ((dig z.natAbs).length - 1 : Nat) rfl ?_ (wr (by simp only [lw];omega) (by simp only [inK];omega))
 refine Ix ((dig z.natAbs).length - 1) rfl (mp ht) ?_
 refine Ce rfl (Xrc htb) ?_
 refine Ar (32*((dig z.natAbs).length - 1)+bl t : Nat) rfl ?_
 exact Rt rfl (.one (.rf rfl) rfl rfl) ⟨_,rfl,Xov rfl (by omega) ht,by omega⟩
theorem Sqrt_ok {a : Nat} (hl : (dig a).length≤274877906944) : C0 397 [.d (dz (a : Int))] (·=.tup (.pr (.d (dz (rt a : Int))) (.d (.int .i64 0)))):=by
 have hln : (dig (a : Int).natAbs).length≤274877906944:=by rw [W1h];exact hl
 refine En Tryz.func397 fun _ _ _=>?_
 refine Ce rfl (Sign_ok (z:=a) (by omega)) ?_
 refine By rfl (fun h=>?_) fun h=>?_
 · rcases Xau (a : Int) 0 with ⟨g1,g2⟩ | ⟨g1,g2⟩ | ⟨g1,g2⟩ <;> omega
 refine By rfl (fun h1=>?_) fun h1=>?_
 · have ha0 : a=0:=by rcases Xau (a : Int) 0 with ⟨g1,g2⟩ | ⟨g1,g2⟩ | ⟨g1,g2⟩ <;> omega
   exact RTt rfl (.cons (f0' (by rw [ha0];rfl)) (.one (.rf rfl) (fun _ _ e=>by cases e) (fun _ _ e=>by cases e)))
 have ha0 : a≠0:=by rcases Xau (a : Int) 0 with ⟨g1,g2⟩ | ⟨g1,g2⟩ | ⟨g1,g2⟩ <;> omega
 refine Ca rfl (Xoq (z:=a) (by omega) (by omega)) fun v hv=>?_
 obtain ⟨B,rfl,hB1,hB2⟩:=hv
 rw [W1h] at hB1 hB2
 refine Ar (B / 2 : Nat) rfl ?_ (show _∧_ from ⟨by decide,by rw [show Int.tdiv (B : Int) 2=((B / 2 : Nat) : Int) from rfl];exact wI (by omega)⟩)
 refine Ar (B / 2+1 : Nat) rfl ?_
 refine Ce rfl (Xef (n:=B / 2+1) (by omega)) ?_
 refine Lo (fun (x : Nat)=>[(1,.ptr 1 0),(2,.ptr 2 0),(3,.d (.int .i64 0)),(5,.d (ws (dig x)))]) (fun _=>[(1,.var (.d (dz a))),(2,.var (.st (.pr (.b false) .nil)))]) (fun x=>0<x∧rt a≤x∧x≤2 ^ (B / 2+1)) (fun x=>x) (2 ^ (B / 2+1)) [] rfl
  ⟨W0n _,W1z (Xts hB1 (by omega)),W0c _⟩ fun x ⟨hx0,hxr,hxp⟩=>?_
 have hxl : (dig x).length≤549755813000:=W0h (Xao hxp) (by rw [Xnx];omega)
 have hql : (dig (a / x)).length≤274877906944:=W0h (Xao (W3u a x)) hl
 refine Ce (r:=.d (ws (dig a))) rfl (Xcc (n:=a) (by omega)) ?_
 refine Ce rfl (Xcl (by omega) (by omega) (by omega)) ?_
 refine Ce rfl (Xhr (by omega) (by omega)) ?_
 refine Ce rfl (Xn4 (W0h (Xf8 ..) (by omega))) ?_
 refine Ce rfl (Xbt (W0h (Xao (W3u ..)) (W0h (Xf8 ..) (by omega)))) ?_
 refine By rfl (fun h2=>?_) fun h2=>?_
 · have hge : x≤(x+a / x) / 2:=by rcases Xau (((x+a / x) / 2 : Nat) : Int) (x : Int) with ⟨g1,g2⟩ | ⟨g1,g2⟩ | ⟨g1,g2⟩ <;> omega
   refine Ce rfl (Xak (b:=false) (by omega)) ?_
   exact RTt rfl (.cons (.eq (by rw [Xrs hx0 hge hxr];rfl)) (.one (.rf rfl) (fun _ _ e=>by cases e) (fun _ _ e=>by cases e)))
 · have hlt : (x+a / x) / 2<x:=by rcases Xau (((x+a / x) / 2 : Nat) : Int) (x : Int) with ⟨g1,g2⟩ | ⟨g1,g2⟩ | ⟨g1,g2⟩ <;> omega
   exact Bk ((x+a / x) / 2) [] rfl ⟨W0p (Yg1 ha0) (Ybg hx0),Ybg hx0,by omega⟩ hlt
end
end Go.Proofs.YtpgcfjpkilabfaaGreatDoor
namespace Go.Num
theorem szl {n p : Nat} (h : n<2 ^ p) (hp : p≤8796093022208) : (dig n).length≤274877906945:=by
 have h1 : n<4294967296 ^ (p / 32+1):=by
  rw [show 4294967296=2 ^ 32 from rfl,←W4b]
  exact W0p h (W0k (by decide) (by omega))
 have:=Xap h1
 omega
def Zs (p : Nat) (z : Int) : Prop:=z.natAbs<2 ^ p
theorem Zs.len {p : Nat} {z : Int} (h : Zs p z) (hp : p≤8796093022208) : (dig z.natAbs).length≤274877906945:=szl h hp
theorem Zs.mono {p q : Nat} {z : Int} (h : Zs p z) (hp : p≤q) : Zs q z:=W0p h (W0k (by decide) hp)
theorem Zs.mul {p q : Nat} {x y : Int} (h : Zs p x) (k : Zs q y) : Zs (p+q) (x*y):=by
 unfold Zs at *
 rw [W4f,W0u]
 exact W4r h k
theorem Zs.add {p q : Nat} {x y : Int} (h : Zs p x) (k : Zs q y) : Zs (max p q+1) (x+y):=by
 have h1:=h.mono (Nat.le_max_left p q)
 have h2:=k.mono (W7b p q)
 unfold Zs at *
 have:=Int.natAbs_add_le x y
 rw [W0s]
 omega
theorem Zs.neg {p : Nat} {x : Int} (h : Zs p x) : Zs p (-x):=by
 unfold Zs at *
 rwa [W3x]
theorem Zs.gcd {p : Nat} {x y : Int} (h : Zs p y) (h0 : y≠0) : Zs p (Int.gcd x y : Int):=by
 unfold Zs at *
 have : Int.gcd x y≤y.natAbs:=Nat.le_of_dvd (by omega) (Int.gcd_dvd_natAbs_right x y)
 omega
theorem Zs.one {p : Nat} (hp : 1≤p) : Zs p 1:=W0p (by decide) (W0k (by decide) hp : 2 ^ 1≤2 ^ p)
theorem Zs.zero {p : Nat} : Zs p 0:=W0n p
structure Qs (p : Nat) (x : Rat) : Prop where
 n : Zs p x.num
 d : Zs p (x.den : Int)
theorem Qs.mono {p q : Nat} {x : Rat} (h : Qs p x) (hp : p≤q) : Qs q x:=⟨h.n.mono hp,h.d.mono hp⟩
theorem Qs.neg {p : Nat} {x : Rat} (h : Qs p x) : Qs p (-x):=⟨by rw [Rat.neg_num];exact h.n.neg,by rw [Rat.neg_den];exact h.d⟩
theorem Xy1 (a : Int) : a.fdiv 1=a:=by rw [W1l _ (by decide),Int.ediv_one]
theorem Xi1 {a b : Int} (hb : b≠0) : a.fdiv (if b<0 then -(Int.gcd a b : Int) else (Int.gcd a b : Int))=(Rat.divInt a b).num:=by
 rw [Rat.num_divInt,Int.gcd_comm b a]
 split
 · rename_i h
   rw [show a.fdiv (-(Int.gcd a b : Int))=(-a).fdiv (Int.gcd a b : Int) from by rw [←W7c,Int.neg_neg],Int.sign_eq_neg_one_of_neg h,W1l _ (by omega)]
   congr 1
   omega
 · rw [Int.sign_eq_one_of_pos (by omega),W3y,W1l _ (by omega)]
theorem Xi2 {a b : Int} (hb : b≠0) : b.fdiv (if b<0 then -(Int.gcd a b : Int) else (Int.gcd a b : Int))=((Rat.divInt a b).den : Int):=by
 rw [Rat.den_divInt,if_neg hb,Int.gcd_comm b a,Int.natCast_ediv]
 split
 · rw [show b.fdiv (-(Int.gcd a b : Int))=(-b).fdiv (Int.gcd a b : Int) from by rw [←W7c,Int.neg_neg],W1l _ (by omega)]
   congr 1
   omega
 · rw [W1l _ (by omega)]
   congr 1
   omega
theorem Xvj {a b : Int} (hb : b≠0) : Int.gcd a b≠0:=fun h=>hb (Int.gcd_eq_zero_iff.1 h).2
theorem Qs.addNum {p q : Nat} {x y : Rat} (h : Qs p x) (k : Qs q y) : Zs (p+q+1) (x.num*y.den+y.num*x.den):=by
 have h1:=(h.n.mul k.d).add (k.n.mul h.d)
 exact h1.mono (by omega)
theorem Xja (a : Int) (b : Nat) : Rat.divInt a (b : Int)=mkRat a b:=Rat.divInt_ofNat a b
theorem Xjf (x y : Rat) : x+y=Rat.divInt (x.num*y.den+y.num*x.den) ((x.den : Int)*y.den):=by
 rw [Rat.add_def',←W2t,Xja]
theorem Xiz (x y : Rat) : x*y=Rat.divInt (x.num*y.num) ((x.den : Int)*y.den):=by
 rw [Rat.mul_def',←W2t,Xja]
theorem Xi9 (x y : Rat) (h : y≠0) : x / y=Rat.divInt (x.num*y.den) ((x.den : Int)*y.num):=by
 rw [W5x,Rat.inv_def]
 conv=>lhs;rw [←Rat.num_divInt_den x]
 rw [Rat.divInt_mul_divInt]
theorem Ykf {x : Rat} (h : (x.den : Int)=1) : x=(x.num : Rat):=Rat.ext rfl (by show x.den=1;omega)
theorem Xqz {x y : Rat} (h : (x.den : Int)=1) (k : (y.den : Int)=1) : x+y=((x.num+y.num : Int) : Rat):=by
 conv=>lhs;rw [Ykf h,Ykf k]
 norm_cast
theorem Xqy {x y : Rat} (h : (x.den : Int)=1) (k : (y.den : Int)=1) : x*y=((x.num*y.num : Int) : Rat):=by
 conv=>lhs;rw [Ykf h,Ykf k]
 norm_cast
theorem Xbs (x : Rat) : (x.den : Int)≠0:=by have:=x.den_nz;omega
theorem Zs.divInt_num {p : Nat} {a b : Int} (ha : Zs p a) : Zs p (Rat.divInt a b).num:=by
 unfold Zs at *
 rw [Rat.num_divInt]
 have h1 : (b.sign*a).natAbs≤a.natAbs:=by
  rw [W4f]
  have : b.sign.natAbs≤1:=by rw [Int.natAbs_sign];split <;> omega
  have:=W0y a.natAbs this
  omega
 have h2 : ((b.sign*a) / (Int.gcd b a : Int)).natAbs≤(b.sign*a).natAbs:=by
  by_cases hg : Int.gcd b a=0
  · rw [hg];simp
  · have hd : (Int.gcd b a : Int) ∣ b.sign*a:=Int.dvd_mul_of_dvd_right (Int.gcd_dvd_right b a)
    obtain ⟨c,hc⟩:=hd
    rw [hc,Int.mul_ediv_cancel_left _ (by omega),W4f]
    exact Nat.le_mul_of_pos_left _ (W2h (by rw [W1h];exact hg))
 omega
theorem Zs.divInt_den {p : Nat} {a b : Int} (hb : Zs p b) (h0 : b≠0) : Zs p ((Rat.divInt a b).den : Int):=by
 unfold Zs at *
 rw [Rat.den_divInt,if_neg h0]
 have:=W3u b.natAbs (Int.gcd b a)
 rw [W1h]
 omega
theorem Qs.divInt {p : Nat} {a b : Int} (ha : Zs p a) (hb : Zs p b) (h0 : b≠0) : Qs p (Rat.divInt a b):=⟨ha.divInt_num,hb.divInt_den h0⟩
theorem Qs.add {p q : Nat} {x y : Rat} (h : Qs p x) (k : Qs q y) : Qs (p+q+1) (x+y):=by
 rw [Xjf]
 exact Qs.divInt (h.addNum k) ((h.d.mul k.d).mono (by omega)) (W6o (Xbs x) (Xbs y))
theorem Qs.mul {p q : Nat} {x y : Rat} (h : Qs p x) (k : Qs q y) : Qs (p+q) (x*y):=by
 rw [Xiz]
 exact Qs.divInt (h.n.mul k.n) (h.d.mul k.d) (W6o (Xbs x) (Xbs y))
theorem Qs.int {p : Nat} {z : Int} (h : Zs p z) (hp : 1≤p) : Qs p (z : Rat):=⟨h,Zs.one hp⟩
theorem Xzi {z : Int} : Xa1 z 0 > 0↔z > 0:=by
 unfold Xa1
 split
 · constructor <;> intro <;> omega
 · split
   · constructor <;> intro <;> omega
   · constructor <;> intro <;> omega
def Xgu (x y : Rat) : Int:=if x<y then -1 else if y<x then 1 else 0
theorem Xq3 (x y : Rat) : Xa1 (x.num*y.den) (y.num*x.den)=Xgu x y:=by
 unfold Xa1 Xgu
 simp only [Rat.lt_iff,gt_iff_lt]
theorem Xmo {x y : Rat} (h : Xa1 x.num 0<Xa1 y.num 0) : Xgu x y=-1:=by
 unfold Xgu
 rw [if_pos]
 rw [Rat.lt_iff]
 have hx:=x.den_pos
 have hy:=y.den_pos
 rcases Xau x.num 0 with ⟨h1,e1⟩ | ⟨h1,e1⟩ | ⟨h1,e1⟩ <;> rcases Xau y.num 0 with ⟨h2,e2⟩ | ⟨h2,e2⟩ | ⟨h2,e2⟩ <;> rw [e1,e2] at h <;> first | omega | skip
 · rw [h2,W4x];exact Int.mul_neg_of_neg_of_pos h1 (by omega)
 · have:=Int.mul_neg_of_neg_of_pos h1 (show (0 : Int)<y.den by omega)
   have:=Int.mul_pos h2 (show (0 : Int)<x.den by omega)
   omega
 · rw [h1,W4x];exact Int.mul_pos h2 (by omega)
theorem Xmn (x y : Rat) : Xgu x y=- Xgu y x:=by
 unfold Xgu
 by_cases h1 : x<y
 · have : ¬ y<x:=by grind
   rw [if_pos h1,if_neg this,if_pos h1]
 · rw [if_neg h1]
   by_cases h2 : y<x
   · rw [if_pos h2,if_pos h2];rfl
   · rw [if_neg h2,if_neg h2,if_neg h1];rfl
end Go.Num
namespace Go.Proofs.YtpgcfjpkilabfaaGreatDoor
open Go Go.Vm Go.Num
def dq (x : Rat) : D:=.st (.pr (dz x.num) (dz x.den))
theorem Yna {n : Nat} : (dig n).length=0↔n=0:=⟨fun h=>Xrz.1 (W0l h),fun h=>by rw [h,Xai];rfl⟩
theorem fst {g : Hp} {K : Hpl} {a : AV} {x : D} (h : Fit g K a (.d x)) : Fit g K (.st a) (.d (.st x)):=.sd h
theorem Xd2 : C0 133 [] (·=.d (dz 1)):=by
 refine En Tryz.func133 fun _ _ _=>?_
 refine Ce rfl (FromInt_ok (z:=1) (by decide)) ?_
 exact R0
theorem Xub {z : Int} : (dig z.natAbs=[1]∧¬ z<0)↔z=1:=by
 constructor
 · rintro ⟨h1,h2⟩
   have:=Xaf z.natAbs
   rw [h1] at this
   simp [val] at this
   omega
 · rintro rfl
   exact ⟨Yfs,by decide⟩
theorem Ym9 {l : List Nat} {u : Nat} (h : l.length=1) (hu : l[0]?=some u) : l=[u]:=by
 match l,h,hu with
 | [a],_,hu=>simp at hu;rw [hu]
theorem Xeh {z : Int} : C0 306 [.d (dz z)] (·=.b (dc (z=1))):=by
 refine En Tryz.func306 fun _ _ _=>?_
 refine By rfl (fun h=>?_) fun h=>?_
 · refine By rfl (fun h1=>?_) fun h1=>?_ <;> simp only [lw] at h1
   · obtain ⟨u,hu⟩:=xat (l:=dig z.natAbs) (k:=0) (by omega)
     have hl:=Ym9 (by omega) hu
     refine Ix 0 rfl (mp hu) ?_
     refine R1 rfl (.bp ?_)
     refine Xan.trans (Iff.trans ?_ Xub)
     rw [hl]
     constructor
     · intro e;exact ⟨by rw [show u=1 by omega],h⟩
     · rintro ⟨e,_⟩;injection e with e;omega
   · exact R1 rfl (.bp ⟨nofun,fun e=>absurd (by rw [e];show ((dig 1).length : Int)=1;rw [Yfs];rfl) h1⟩)
 · exact R1 rfl (.bp ⟨nofun,fun e=>absurd (by rw [e];decide) h⟩)
theorem Xhx {z : Int} : C0 138 [.d (dz z)] (·=.b (dc (z=0))):=by
 refine En Tryz.func138 fun _ _ _=>?_
 refine R1 rfl (.bp ?_)
 simp only [Xan,lw]
 rw [show ((dig z.natAbs).length : Int)=0↔(dig z.natAbs).length=0 by omega,Yna];omega
theorem Xb3 {a b : Int} (ha : (dig a.natAbs).length≤549755813888) (hb : (dig b.natAbs).length≤549755813888) (hb0 : b≠0) : C0 230 [.d (dz a),.d (dz b)] (·=.d (dz (a.fdiv b))):=by
 refine En Tryz.func230 fun _ _ _=>?_
 refine Ce rfl Xeh ?_
 refine By rfl (fun h=>?_) fun h=>?_
 · exact R1 rfl (.eq (show dz a=dz (a.fdiv b) by rw [h,Xy1]))
 · refine Ce rfl (DivMod_ok ha hb hb0) ?_
   exact R0
theorem Xfh {a b : Int} {p : Nat} (ha : Zs p a) (hb : Zs p b) (hp : p≤8796093022208) (hb0 : b≠0) : C0 139 [.d (dz a),.d (dz b)] (·=.d (dq (Rat.divInt a b))):=by
 have hg : Zs p (Int.gcd a b : Int):=hb.gcd hb0
 have hla:=ha.len hp
 have hlb:=hb.len hp
 have hlg:=hg.len hp
 refine En Tryz.func139 fun _ _ _=>?_
 refine Ce rfl (GCD_ok (by omega) (by omega)) ?_
 have h0:=Xvj (a:=a) hb0
 have key : ∀ g : Int,g=(if b<0 then -(Int.gcd a b : Int) else (Int.gcd a b : Int))→D.st (.pr (dz (a.fdiv g)) (dz (b.fdiv g)))=dq (Rat.divInt a b):=fun g hg=>by rw [hg,Xi1 hb0,Xi2 hb0];rfl
 refine By rfl (fun h=>?_) fun h=>?_
 · refine Ce rfl (Neg_ok (by omega)) ?_
   refine Dw rfl ?_
   refine Ce rfl (Xb3 (by omega) (by rw [W3x];omega) (by omega)) ?_
   refine Ce rfl (Xb3 (by omega) (by rw [W3x];omega) (by omega)) ?_
   exact R1 rfl (.eq (key _ (by rw [if_pos h])))
 · refine Dw rfl ?_
   refine Ce rfl (Xb3 (by omega) (by omega) (by omega)) ?_
   refine Ce rfl (Xb3 (by omega) (by omega) (by omega)) ?_
   exact R1 rfl (.eq (key _ (by rw [if_neg h])))
theorem Make_ok {a b : Int} {p : Nat} (ha : Zs p a) (hb : Zs p b) (hp : p≤8796093022208) (hb0 : b≠0) : C0 68 [.d (dz a),.d (dz b)] (·=.tup (.pr (.d (dq (Rat.divInt a b))) (.d (.int .i64 0)))):=by
 have hla:=ha.len hp
 have hlb:=hb.len hp
 refine En Tryz.func68 fun _ _ _=>?_
 refine Dw rfl ?_
 refine Ce rfl (Norm_ok (by omega)) ?_
 refine Ce rfl (Norm_ok (by omega)) ?_
 refine Ce rfl Xhx ?_
 refine No rfl hb0 ?_
 refine Ce rfl (Xfh ha hb hp hb0) ?_
 exact R0t
theorem Xa0 {z : Int} (h : -9223372036854775808≤z∧z<9223372036854775808) : C0 61 [.d (.int .i64 z)] (·=.d (dq z)):=by
 refine En Tryz.func61 fun _ _ _=>?_
 refine Ce rfl (FromInt_ok h) ?_
 refine Ce rfl Xd2 ?_
 exact R0
theorem Xpt {a b : Int} (ha : -9223372036854775808≤a∧a<9223372036854775808) (hb : 0<b∧b<9223372036854775808) : C0 181 [.d (.int .i64 a),.d (.int .i64 b)] (·=.d (dq (Rat.divInt a b))):=by
 refine En Tryz.func181 fun _ _ _=>?_
 refine Ce rfl (FromInt_ok ha) ?_
 refine Ce rfl (FromInt_ok (by omega)) ?_
 refine Ce rfl (Make_ok (p:=64) (by unfold Zs;omega) (by unfold Zs;omega) (by decide) (by omega)) ?_
 refine No rfl (by decide) ?_
 exact R0
theorem Xff {x : Rat} {p : Nat} (hx : Qs p x) (hp : p≤8796093022208) : C0 85 [.d (dq x)] (·=.d (.int .i64 (Xa1 x.num 0))):=by
 have:=hx.n.len hp
 refine En Tryz.func85 fun _ _ _=>?_
 refine Ce rfl (Sign_ok (by omega)) ?_
 exact R0
theorem Xj6 {x : Rat} {p : Nat} (hx : Qs p x) (hp : p≤8796093022208) : C0 219 [.d (dq x)] (·=.d (dq (-x))):=by
 have:=hx.n.len hp
 refine En Tryz.func219 fun _ _ _=>?_
 refine Dw rfl ?_
 refine Ce rfl (Neg_ok (by omega)) ?_
 exact R1 rfl (.eq (show D.st (.pr (dz (-x.num)) (dz x.den))=dq (-x) by unfold dq;rw [Rat.neg_num,Rat.neg_den]))
abbrev q0 : AV:=.st (.pr (.st (.pr (.b false) .nil)) (.st (.pr (.b false) .nil)))
theorem Xho {x y : Rat} {p q : Nat} (hx : Qs p x) (hy : Qs q y) (hp : p+q≤8796093022208) : C0 339 [.d (dq x),.d (dq y)] (·=.d (dq (x*y))):=by
 have h1:=hx.n.len (by omega)
 have h2:=hx.d.len (by omega)
 have h3:=hy.n.len (by omega)
 have h4:=hy.d.len (by omega)
 refine En Tryz.func339 fun _ _ _=>?_
 refine Cu (some 1) (fun (b : Bool)=>[(2,.ptr 2 0),(3,.ptr 3 0),(4,.ptr 4 0),(12,.b b)]) (fun _=>[(2,.var (.d (dq x))),(3,.var (.d (dq y))),(4,.var q0)]) (fun b=>b=true→(x.den : Int)=1∧(y.den : Int)=1) rfl ?_ fun b hb=>?_
 · refine Ce rfl Xeh ?_
   refine By rfl (fun h=>?_) fun h=>?_
   · refine Ce rfl Xeh ?_
     exact Jn (dc _) [] rfl fun e=>⟨h,Xan.1 e⟩
   · exact Jn false [] rfl nofun
 refine By rfl (fun h=>?_) fun h=>?_
 · obtain ⟨d1,d2⟩:=hb h
   refine Ce rfl (Mul_ok (by omega) (by omega)) ?_
   refine Ce rfl Xd2 ?_
   exact R1 rfl (.eq (show _=dq _ by rw [Xqy d1 d2];rfl))
 · refine Dw rfl ?_
   refine Ce rfl (Mul_ok (by omega) (by omega)) ?_
   refine Ce rfl (Mul_ok (by omega) (by omega)) ?_
   refine Ce rfl (Xfh (hx.n.mul hy.n) (hx.d.mul hy.d) hp (W6o (Xbs x) (Xbs y))) ?_
   exact R1 rfl (.eq (by rw [Xiz]))
theorem Xd0 {x y : Rat} {p q : Nat} (hx : Qs p x) (hy : Qs q y) (hp : p+q+1≤8796093022208) : C0 335 [.d (dq x),.d (dq y)] (·=.d (dq (x+y))):=by
 have h1:=hx.n.len (by omega)
 have h2:=hx.d.len (by omega)
 have h3:=hy.n.len (by omega)
 have h4:=hy.d.len (by omega)
 have h5:=(hx.n.mul hy.d).len (by omega)
 have h6:=(hy.n.mul hx.d).len (by omega)
 refine En Tryz.func335 fun _ _ _=>?_
 refine Cu (some 1) (fun (b : Bool)=>[(2,.ptr 2 0),(3,.ptr 3 0),(4,.ptr 4 0),(13,.b b)]) (fun _=>[(2,.var (.d (dq x))),(3,.var (.d (dq y))),(4,.var q0)]) (fun b=>b=true→(x.den : Int)=1∧(y.den : Int)=1) rfl ?_ fun b hb=>?_
 · refine Ce rfl Xeh ?_
   refine By rfl (fun h=>?_) fun h=>?_
   · refine Ce rfl Xeh ?_
     exact Jn (dc _) [] rfl fun e=>⟨h,Xan.1 e⟩
   · exact Jn false [] rfl nofun
 refine By rfl (fun h=>?_) fun h=>?_
 · obtain ⟨d1,d2⟩:=hb h
   refine Ce rfl (Add_ok (by omega) (by omega)) ?_
   refine Ce rfl Xd2 ?_
   exact R1 rfl (.eq (show _=dq _ by rw [Xqz d1 d2];rfl))
 · refine Dw rfl ?_
   refine Ce rfl (Mul_ok (by omega) (by omega)) ?_
   refine Ce rfl (Mul_ok (by omega) (by omega)) ?_
   refine Ce rfl (Add_ok (by omega) (by omega)) ?_
   refine Dw rfl ?_
   refine Ce rfl (Mul_ok (by omega) (by omega)) ?_
   refine Ce rfl (Xfh (p:=p+q+1) (Qs.addNum hx hy) ((hx.d.mul hy.d).mono (by omega)) hp (W6o (Xbs x) (Xbs y))) ?_
   exact R1 rfl (.eq (by rw [Xjf]))
theorem Yc8 {x y : Rat} {p q : Nat} (hx : Qs p x) (hy : Qs q y) (hp : p+q+1≤8796093022208) : C0 349 [.d (dq x),.d (dq y)] (·=.d (dq (x - y))):=by
 refine En Tryz.func349 fun _ _ _=>?_
 refine Dw rfl ?_
 refine Ce rfl (Xj6 hy (by omega)) ?_
 refine Ce rfl (Xd0 hx hy.neg hp) ?_
 exact R1 rfl (.eq (by rw [W5u]))
theorem Yc9 {x y : Rat} {p q : Nat} (hx : Qs p x) (hy : Qs q y) (hp : p+q≤8796093022208) (h0 : y≠0) : C0 399 [.d (dq x),.d (dq y)] (·=.tup (.pr (.d (dq (x / y))) (.d (.int .i64 0)))):=by
 have h1:=hx.n.len (by omega)
 have h2:=hx.d.len (by omega)
 have h3:=hy.n.len (by omega)
 have h4:=hy.d.len (by omega)
 have hn : y.num≠0:=fun e=>h0 (W5v.1 e)
 refine En Tryz.func399 fun _ _ _=>?_
 refine Ce rfl Xhx ?_
 refine No rfl hn ?_
 refine Dw rfl ?_
 refine Ce rfl (Mul_ok (by omega) (by omega)) ?_
 refine Ce rfl (Mul_ok (by omega) (by omega)) ?_
 refine Ce rfl (Xfh (hx.n.mul hy.d) (hx.d.mul hy.n) hp (W6o (Xbs x) hn)) ?_
 exact RTt rfl (.cons (.eq (by rw [Xi9 _ _ h0])) (.one (.rf rfl) (fun _ _ e=>by cases e) (fun _ _ e=>by cases e)))
def rz : D:=.st (.pr (.st (.pr (.bool false) (.sl 1 []))) (.st (.pr (.bool false) (.sl 1 []))))
theorem Yik {g : Hp} {K : Hpl} : Fit g K q0 (.d rz):=.sd (.pd (.sd (.pd (.bd rfl) (.nil rfl))) (.sd (.pd (.bd rfl) (.nil rfl))))
theorem Xx7 {x y : Rat} (h0 : y=0) : C0 399 [.d (dq x),.d (dq y)] (·=.tup (.pr (.d rz) (.d (.int .i64 6)))):=by
 refine En Tryz.func399 fun _ _ _=>?_
 refine Ce rfl Xhx ?_
 refine Yes rfl (by rw [h0];rfl) ?_
 exact RTt rfl (.cons Yik (.one (.rf rfl) (fun _ _ e=>by cases e) (fun _ _ e=>by cases e)))
theorem Xf4 {x y : Rat} {p q : Nat} (hx : Qs p x) (hy : Qs q y) (hp : p+q≤8796093022208) : C0 37 [.d (dq x),.d (dq y)] (·=.d (.int .i64 (Xgu x y))):=by
 have h1:=hx.n.len (by omega)
 have h2:=hx.d.len (by omega)
 have h3:=hy.n.len (by omega)
 have h4:=hy.d.len (by omega)
 have h5:=(hx.n.mul hy.d).len (by omega)
 have h6:=(hy.n.mul hx.d).len (by omega)
 refine En Tryz.func37 fun _ _ _=>?_
 refine Dw rfl ?_
 refine Ce rfl (Xff hx (by omega)) ?_
 refine Ce rfl (Xff hy (by omega)) ?_
 refine By rfl (fun h=>?_) fun h=>?_
 · refine By rfl (fun h1=>?_) fun h1=>?_
   · exact R1 rfl (.eq (by rw [Xmo h1]))
   · exact R1 rfl (.eq (by rw [Xmn,Xmo (by omega)];rfl))
 · refine Dw rfl ?_
   refine Ce rfl (Mul_ok (by omega) (by omega)) ?_
   refine Ce rfl (Mul_ok (by omega) (by omega)) ?_
   refine Ce rfl (Cmp_ok (by omega) (by omega)) ?_
   exact R1 rfl (.eq (by rw [Xq3]))
theorem Xd5 {z : Int} (h : (dig z.natAbs).length≤549755813888) : C0 338 [.d (dz z)] (·=.b true):=by
 refine En Tryz.func338 fun _ _ _=>?_
 refine By rfl (fun h1=>?_) fun h1=>?_ <;> simp only [lw] at h1
 · have h0:=Yna.1 (by omega : (dig z.natAbs).length=0)
   refine Yes rfl (show ¬ z<0 by omega) ?_
   exact R0
 · refine Yes rfl (by simp only [lw];omega) ?_
   rcases Xgx z.natAbs with h2 | ⟨t,h2,h3⟩
   · rw [h2] at h1;exact absurd rfl h1
   refine Ar ((dig z.natAbs).length - 1 : Nat) rfl ?_ (wr (by simp only [lw];omega) (by simp only [inK];omega))
   refine Ix ((dig z.natAbs).length - 1) rfl (mp h2) ?_
   refine R1 rfl (by exact (show dc ((t : Int)≠0)=true by rw [Xan];omega) ▸ .rf rfl)
theorem Ylz {z : Int} : Xa1 z 0 > 0↔z > 0:=Xzi
theorem Xls {x : Rat} {p : Nat} (hx : Qs p x) (hp : p≤8796093022208) : C0 295 [.d (dq x)] (·=.b true):=by
 have h1:=hx.n.len hp
 have h2:=hx.d.len hp
 refine En Tryz.func295 fun _ _ _=>?_
 refine Ce rfl (Xd5 (z:=x.num) (by omega)) ?_
 refine Yes rfl rfl ?_
 refine Ce rfl (Xd5 (z:=x.den) (by omega)) ?_
 refine Yes rfl rfl ?_
 refine Ce rfl (Sign_ok (by omega)) ?_
 refine Yes rfl (Ylz.2 (by have:=x.den_pos;omega)) ?_
 refine Ce rfl (GCD_ok (by omega) (by omega)) ?_
 refine Ce rfl Xeh ?_
 refine R1 rfl (by exact (show dc ((Int.gcd x.num x.den : Int)=1)=true by rw [Xan];exact congrArg Nat.cast (show Int.gcd x.num x.den=1 from x.reduced)) ▸ .rf rfl)
end Go.Proofs.YtpgcfjpkilabfaaGreatDoor

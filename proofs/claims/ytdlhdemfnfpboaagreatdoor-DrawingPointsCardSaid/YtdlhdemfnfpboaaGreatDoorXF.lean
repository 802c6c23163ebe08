/- part 6 -/
import Derived.Test.YtdlhdemfnfpboaaGreatDoorXE
set_option linter.unusedVariables false
set_option linter.unusedSimpArgs false
set_option maxRecDepth 10000
namespace Go.Proofs.YtdlhdemfnfpboaaGreatDoor.P15
open Go Go.Vm Go.Num Go.Tow Go.Proofs.YtdlhdemfnfpboaaGreatDoor
section
variable {K : Nat} {G : Tw K} {S : List (Tow.El K)} {N : List Nm} {n m k : Nat} {x y z : Nm} {a b v w : Tow.El K} {u s t : Vn} {p q r : V2 K}
theorem Ybv : CN0 315 [.ptr 1000001 0,.d (.int .i64 0)] [(1000001,cal)] IsB:=by
 refine EnW Tryz.func315 fun _ _ _ _=>?_
 refine Yes rfl (by decide) ?_
 exact Rw [] [(1000001,cal)] rfl (.one (.rf rfl) rfl rfl) ⟨rfl,_,rfl⟩
theorem Yas {f : FuncId} (hf : C0 f [.d (dN x),.d (dN y)] (OpG G S N n w)) : CN0 283 [.ptr 1000001 0,.d (fnD f),.d (dN x),.d (dN y)] [(1000001,cal)] (OnG G S N n w):=by
 refine EnW Tryz.func283 fun _ _ _ _=>?_
 refine No rfl (by decide) ?_
 refine Ca rfl hf fun v hv=>?_
 obtain ⟨z,rfl,hz⟩:=hv
 refine Cn [] rfl Ybv fun v hv=>?_
 obtain ⟨_,rfl⟩:=hv
 exact Rw [] [(1000001,cal)] rfl (.one (.rf rfl) rfl rfl) ⟨rfl,z,rfl,hz⟩
theorem Yj9 (W : Wn G S N) (hx : Gd G S N n x v) (hy : Gd G S N m y w) (hn : n≤190) (hm : m≤190) : CN0 220 [.ptr 1000001 0,.d (dN x),.d (dN y)] [(1000001,cal)] (OnG G S N (n+m) (Tow.add K v w)):=by
 refine EnW Tryz.func220 fun _ _ _ _=>?_
 refine Cn [] rfl (Yas (P9.Add_g W hx hy hn hm)) fun v hv=>?_
 obtain ⟨z,rfl,hz⟩:=hv
 exact Rw [] [(1000001,cal)] rfl (.one (.rf rfl) rfl rfl) ⟨rfl,z,rfl,hz⟩
theorem Yay (W : Wn G S N) (hx : Gd G S N n x v) (hy : Gd G S N m y w) (hn : n≤190) (hm : m≤190) : CN0 222 [.ptr 1000001 0,.d (dN x),.d (dN y)] [(1000001,cal)] (OnG G S N (n+m) (Tow.add K v (Tow.neg K w))):=by
 refine EnW Tryz.func222 fun _ _ _ _=>?_
 refine Cn [] rfl (Yas (P9.Sub_g W hx hy hn hm)) fun v hv=>?_
 obtain ⟨z,rfl,hz⟩:=hv
 exact Rw [] [(1000001,cal)] rfl (.one (.rf rfl) rfl rfl) ⟨rfl,z,rfl,hz⟩
theorem Yff (W : Wn G S N) (hx : Gd G S N n x v) (hy : Gd G S N m y w) (hn : n≤190) (hm : m≤190) : CN0 221 [.ptr 1000001 0,.d (dN x),.d (dN y)] [(1000001,cal)] (OnG G S N (n+m) (Tow.mul K G v w)):=by
 refine EnW Tryz.func221 fun _ _ _ _=>?_
 refine Cn [] rfl (Yas (P9.Mul_g W hx hy hn hm)) fun v hv=>?_
 obtain ⟨z,rfl,hz⟩:=hv
 exact Rw [] [(1000001,cal)] rfl (.one (.rf rfl) rfl rfl) ⟨rfl,z,rfl,hz⟩
theorem Xs7 (W : Wn G S N) (hu : Gv G S N n u p) (hs : Gv G S N m s q) (hn : n≤190) (hm : m≤190) : CN0 151 [.ptr 1000001 0,.d (dV u),.d (dV s)] [(1000001,cal)] (VeG G S N (n+m) (Xic p q)):=by
 refine EnW Tryz.func151 fun _ _ _ _=>?_
 refine Dw rfl ?_
 refine Cn [] rfl (Yay W hu.x hs.x hn hm) fun v hv=>?_
 obtain ⟨z,rfl,hz⟩:=hv
 refine Cn [] rfl (Yay W hu.y hs.y hn hm) fun v hv=>?_
 obtain ⟨w,rfl,hw⟩:=hv
 exact Rw [] [(1000001,cal)] rfl (.one (.rf rfl) rfl rfl) ⟨rfl,⟨z,w⟩,rfl,hz,hw⟩
theorem Xoa (W : Wn G S N) (hu : Gv G S N n u p) (hn : n+n≤190) : CN0 150 [.ptr 1000001 0,.d (dV u)] [(1000001,cal)] (OnG G S N (n+n+(n+n)) (Xv4 G p p)):=by
 refine EnW Tryz.func150 fun _ _ _ _=>?_
 refine Dw rfl ?_
 refine Cn [] rfl (Yff W hu.x hu.x (by omega) (by omega)) fun v hv=>?_
 obtain ⟨z,rfl,hz⟩:=hv
 refine Cn [] rfl (Yff W hu.y hu.y (by omega) (by omega)) fun v hv=>?_
 obtain ⟨w,rfl,hw⟩:=hv
 refine Cn [] rfl (Yj9 W hz hw hn hn) fun v hv=>?_
 obtain ⟨z,rfl,hz⟩:=hv
 exact Rw [] [(1000001,cal)] rfl (.one (.rf rfl) rfl rfl) ⟨rfl,z,rfl,hz⟩
abbrev dK (u : Vn) (z : Nm) : D:=.st (.pr (dV u) (dN z))
theorem Around_g (W : Wn G S N) (hu : Gv G S N n u p) (hs : Gv G S N m s q) (hx : P19.Trm u.x) (hy : P19.Trm u.y) (h2 : n+m+(n+m)≤190) (hp : p≠q) : C0 90 [.d (dV u),.d (dV s)] (fun r=>∃ z,r=.tup (.pr (.d (dK u z)) (.d (.int .i64 0)))∧Gd G S N (n+m+(n+m)+(n+m+(n+m))) z (Xv4 G (Xic q p) (Xic q p))):=by
 refine En Tryz.func90 fun _ _ _=>?_
 refine Ce rfl (P13.Equal_g W hu hs (by omega) (by omega)) ?_
 refine No rfl hp ?_
 refine Dw rfl ?_
 refine Ce rfl hx ?_
 refine Ce rfl hy ?_
 refine Cn [(1000001,13)] rfl (Xs7 W hs hu (by omega) (by omega)) fun v hv=>?_
 obtain ⟨v,rfl,hv⟩:=hv
 refine Cn [(1000001,13)] rfl (Xoa W hv (by omega)) fun v hv=>?_
 obtain ⟨z,rfl,hz⟩:=hv
 refine No rfl (by decide) ?_
 exact Rt rfl (.tup (.cons (.rf rfl) Xb3)) ⟨z,rfl,hz.mono (by omega)⟩
end
end Go.Proofs.YtdlhdemfnfpboaaGreatDoor.P15
namespace Go.Proofs.YtdlhdemfnfpboaaGreatDoor
open Go Go.Vm Go.Num Go.Tow
structure Cv where
 arc : Bool
 A : Vn
 B : Vn
 C : Vn
 cw : Bool
abbrev dC (c : Cv) : D:=.st (.pr (.bool c.arc) (.pr (dV c.A) (.pr (dV c.B) (.pr (dV c.C) (.bool c.cw)))))
abbrev Xh8 (l : List Cv) : D:=.sl 14 (l.map dC)
section
variable {K : Nat} {G : Tw K} {S : List (Tow.El K)} {N : List Nm} {n m k : Nat} {x y z : Nm} {a b v w : Tow.El K} {u s t : Vn} {p q r : V2 K}
namespace P15
theorem Ydk (W : Wn G S N) (hu : Gv G S N n u p) (hz : Gd G S N k z w) (hs : Gv G S N m s q) (h2 : n+m+(n+m)+(n+m+(n+m))≤190) (hk : k≤190) : C0 180 [.d (dK u z),.d (dV s)] (OpG G S N (m+n+(m+n)+(m+n+(m+n))+k) (Tow.add K (Xv4 G (Xic q p) (Xic q p)) (Tow.neg K w))):=by
 refine En Tryz.func180 fun _ _ _=>?_
 refine Dw rfl ?_
 refine Cn [(1000001,9)] rfl (Xs7 W hs hu (by omega) (by omega)) fun v hv=>?_
 obtain ⟨v,rfl,hv⟩:=hv
 refine Cn [(1000001,9)] rfl (Xoa W hv (by omega)) fun v hv=>?_
 obtain ⟨z,rfl,hz1⟩:=hv
 refine Cn [(1000001,9)] rfl (Yay W hz1 hz (by omega) hk) fun v hv=>?_
 obtain ⟨z,rfl,hz2⟩:=hv
 refine No rfl (by decide) ?_
 exact Rt rfl (.tup (.cons (.rf rfl) Xb3)) ⟨z,rfl,hz2⟩
theorem Side_g (W : Wn G S N) (hu : Gv G S N n u p) (hz : Gd G S N k z w) (hs : Gv G S N m s q) (h2 : n+m+(n+m)+(n+m+(n+m))≤190) (hk : k≤190) : C0 114 [.d (dK u z),.d (dV s)] (·=.tup (.pr (.d (.int .i64 (sgn K G (Tow.add K (Xv4 G (Xic q p) (Xic q p)) (Tow.neg K w))))) (.d (.int .i64 0)))):=by
 refine En Tryz.func114 fun _ _ _=>?_
 refine Ca rfl (Ydk W hu hz hs h2 hk) fun v hv=>?_
 obtain ⟨z,rfl,hz⟩:=hv
 refine No rfl (by decide) ?_
 refine Ce rfl (P9.Sign_g W hz (by omega)) ?_
 exact RTt rfl (.cons (.rf rfl) Xb3)
end P15
namespace P47
theorem Valid_seg {c : Cv} (W : Wn G S N) (ha : c.arc=false) (hu : Gv G S N n c.A p) (hs : Gv G S N m c.B q) (hn : n≤190) (hm : m≤190) : C0 43 [.d (dC c)] (·=.b (dc (p≠q))):=by
 obtain ⟨_,A,B,C,cw⟩:=c
 obtain rfl : _=false:=ha
 refine En Tryz.func43 fun _ _ _=>?_
 refine Yes rfl nofun ?_
 refine Ce rfl (P13.Equal_g W hu hs hn hm) ?_
 exact R1 rfl (.bp (by rw [Xb6,Xaw]))
theorem around_g {c : Cv} (W : Wn G S N) (hu : Gv G S N n c.C p) (hs : Gv G S N m c.A q) (hx : P19.Trm c.C.x) (hy : P19.Trm c.C.y) (h2 : n+m+(n+m)≤190) (hp : p≠q) : C0 113 [.d (dC c)] (fun r=>∃ z,r=.tup (.pr (.d (P15.dK c.C z)) (.d (.int .i64 0)))∧Gd G S N (n+m+(n+m)+(n+m+(n+m))) z (Xv4 G (Xic q p) (Xic q p))):=by
 refine En Tryz.func113 fun _ _ _=>?_
 refine Ca rfl (P15.Around_g W hu hs hx hy h2 hp) fun v hv=>?_
 obtain ⟨z,rfl,hz⟩:=hv
 exact Rt rfl (.tup (.cons (.rf rfl) Xb3)) ⟨z,rfl,hz⟩
theorem full_g {c : Cv} (W : Wn G S N) (ha : c.arc=true) (hu : Gv G S N n c.A p) (hs : Gv G S N m c.B q) (hn : n≤190) (hm : m≤190) : C0 115 [.d (dC c)] (·=.b (dc (p=q))):=by
 obtain ⟨_,A,B,C,cw⟩:=c
 obtain rfl : _=true:=ha
 refine En Tryz.func115 fun _ _ _=>?_
 refine Yes rfl rfl ?_
 refine Ce rfl (P13.Equal_g W hu hs hn hm) ?_
 exact R0
end P47
end
end Go.Proofs.YtdlhdemfnfpboaaGreatDoor
namespace Go.Proofs.YtdlhdemfnfpboaaGreatDoor.P55
open Go Go.Vm Go.Num Go.Tow Go.Proofs.YtdlhdemfnfpboaaGreatDoor
section
inductive Wv where
 | mk (s : List UInt8)
 | nu (x : Nm)
abbrev dMk (s : List UInt8) : D:=.st (.pr (.str s) (.pr (.bool false) R9.n0))
abbrev dNu (x : Nm) : D:=.st (.pr (.str []) (.pr (.bool true) (dN x)))
def dWv : Wv→D
 | .mk s=>dMk s
 | .nu x=>dNu x
abbrev dWs (l : List Wv) : D:=.sl 4 (l.map dWv)
theorem Xcu {s : List UInt8} : C0 45 [.d (.str s)] (·=.d (dMk s)):=by
 refine En Tryz.func45 fun _ _ _=>?_
 exact R1 rfl (.sd (.pd (.rf rfl) (.pd (.bd rfl) R9.fit0)))
theorem Xcn {x : Nm} : C0 46 [.d (dN x)] (·=.d (dNu x)):=by
 refine En Tryz.func46 fun _ _ _=>?_
 exact R1 rfl (.sd (.pd (.rf rfl) (.pd (.bd rfl) (.rf rfl))))
def flB (b : Bool) : List UInt8:=if b then [49] else [48]
theorem Xdt {b : Bool} : C0 49 [.d (.bool b)] (·=.d (dMk (flB b))):=by
 refine C.nb (show C0 _ [.b b] _ from ?_)
 cases b with
 | true =>
  refine En Tryz.func49 fun _ _ _=>?_
  refine Yes rfl rfl ?_
  refine Ce rfl Xcu ?_
  exact R0
 | false =>
  refine En Tryz.func49 fun _ _ _=>?_
  refine No rfl nofun ?_
  refine Ce rfl Xcu ?_
  exact R0
def Xfa (r : Nm) (lg cc : Bool) (x : Vn) : List Wv:=[.mk [65],.nu r,.nu r,.mk [48],.mk (flB lg),.mk (flB cc),.nu x.x,.nu x.y]
theorem Xyx {w : List Wv} {r : Nm} {c : Cv} {lg : Bool} {x : Vn} (hw : w.length≤100000) : CW0 48 [.d (.bool lg),.d (dV x),.ptr 1000001 0,.ptr 1000002 0,.ptr 1000003 0] [(1000001,.var (.lit 4 (w.map dWv))),(1000002,.var (.d (dN r))),(1000003,.var (.d (dC c)))]
 (fun v H'=>v=.tup .un∧H'=[(1000001,.var (.own 1000000 4 0 ((w++Xfa r lg (!c.cw) x).map dWv).length)),(1000002,.var (.d (dN r))),(1000003,.var (.d (dC c))),(1000000,.arr 4 ((w++Xfa r lg (!c.cw) x).map dWv))]):=by
 obtain ⟨arc,A,B,C,cw⟩:=c
 refine EnW Tryz.func48 fun _ _ _ _=>?_
 refine Dw rfl ?_
 refine Ce rfl Xcu ?_
 refine Ce rfl Xcn ?_
 refine Ce rfl Xcn ?_
 refine Ce rfl Xcu ?_
 refine Ce rfl Xdt ?_
 refine Ce rfl Xdt ?_
 refine Ce rfl Xcn ?_
 refine Ce rfl Xcn ?_
 refine ApL ((w++Xfa r lg (!cw) x).map dWv) rfl (by rw [W3o];rfl) (W5q _) (by simp [Xfa];omega) ?_
 exact Rw [(27,1000000)] [(1000001,.var (.own 1000000 4 0 ((w++Xfa r lg (!cw) x).map dWv).length)),(1000002,.var (.d (dN r))),(1000003,.var (.d (dC ⟨arc,A,B,C,cw⟩))),(1000000,.arr 4 ((w++Xfa r lg (!cw) x).map dWv))] rfl (.tup (.one (.rf rfl) (fun _ _ e=>by cases e) (fun _ _ e=>by cases e))) ⟨rfl,rfl⟩
theorem Xn3 {w : List Wv} {r : Nm} {c : Cv} {lg : Bool} {x : Vn} (hw : w.length≤100000) : CW0 48 [.d (.bool lg),.d (dV x),.ptr 1000001 0,.ptr 1000002 0,.ptr 1000003 0] [(1000001,.var (.own 1000004 4 0 (w.map dWv).length)),(1000002,.var (.d (dN r))),(1000003,.var (.d (dC c))),(1000004,.arr 4 (w.map dWv))]
 (fun v H'=>v=.tup .un∧H'=[(1000001,.var (.own 1000000 4 0 ((w++Xfa r lg (!c.cw) x).map dWv).length)),(1000002,.var (.d (dN r))),(1000003,.var (.d (dC c))),(1000004,.dead),(1000000,.arr 4 ((w++Xfa r lg (!c.cw) x).map dWv))]):=by
 obtain ⟨arc,A,B,C,cw⟩:=c
 refine EnW Tryz.func48 fun _ _ _ _=>?_
 refine Dw rfl ?_
 refine Ce rfl Xcu ?_
 refine Ce rfl Xcn ?_
 refine Ce rfl Xcn ?_
 refine Ce rfl Xcu ?_
 refine Ce rfl Xdt ?_
 refine Ce rfl Xdt ?_
 refine Ce rfl Xcn ?_
 refine Ce rfl Xcn ?_
 refine ApO ((w++Xfa r lg (!cw) x).map dWv) rfl rfl rfl (by rw [W3o];rfl) (by simp [Xfa];omega) ?_
 exact Rw [(27,1000000)] [(1000001,.var (.own 1000000 4 0 ((w++Xfa r lg (!cw) x).map dWv).length)),(1000002,.var (.d (dN r))),(1000003,.var (.d (dC ⟨arc,A,B,C,cw⟩))),(1000004,.dead),(1000000,.arr 4 ((w++Xfa r lg (!cw) x).map dWv))] rfl (.tup (.one (.rf rfl) (fun _ _ e=>by cases e) (fun _ _ e=>by cases e))) ⟨rfl,rfl⟩
abbrev Yen (B : Vn) : List Wv:=[.mk [76],.nu B.x,.nu B.y]
inductive WdC (c : Cv) : List Wv→Prop where
 | seg (h : c.arc=false) : WdC c [.mk [76],.nu c.B.x,.nu c.B.y]
 | full {r : Nm} {w x : Vn} (h : c.arc=true) (h1 : C0 47 [.d (dC c)] (·=.tup (.pr (.d (dN r)) (.d (.int .i64 0))))) (h2 : C0 44 [.d (dV c.A),.d (dV c.B)] (·=.b true)) (h3 : C0 50 [.d (dV c.C),.d (dV c.A)] (·=.tup (.pr (.d (dV w)) (.d (.int .i64 0)))))
  (h4 : C0 51 [.d (dV c.C),.d (dV w)] (·=.tup (.pr (.d (dV x)) (.d (.int .i64 0))))) : WdC c (Xfa r false (!c.cw) x++Xfa r false (!c.cw) c.B)
 | part {r : Nm} {lg : Bool} (h : c.arc=true) (h1 : C0 47 [.d (dC c)] (·=.tup (.pr (.d (dN r)) (.d (.int .i64 0))))) (h2 : C0 44 [.d (dV c.A),.d (dV c.B)] (·=.b false)) (h3 : C0 52 [.d (dC c)] (·=.tup (.pr (.b lg) (.d (.int .i64 0))))) : WdC c (Xfa r lg (!c.cw) c.B)
theorem WdC.len {c : Cv} {w : List Wv} (h : WdC c w) : w.length≤16:=by cases h <;> simp [Xfa]
def ouH (w0 : List Wv) : Option (List Wv)→Hpl
 | none=>[(4,.var (.lit 4 (w0.map dWv)))]
 | some w=>[(4,.var (.own 600 4 0 (w.map dWv).length)),(600,.arr 4 (w.map dWv))]
def ouW (w0 : List Wv) : Option (List Wv)→List Wv
 | none=>w0
 | some w=>w
def hdW (c0 : Cv) : List Wv:=[.mk [77],.nu c0.A.x,.nu c0.A.y]
theorem Xcl {c0 d0 : Cv} {l : List Cv} {Z : List (List Wv)} {cl : Bool} (h0 : l[0]?=some c0) (h9 : l[l.length - 1]?=some d0) (hl : l.length≤1000) (hZ : Z.length=l.length) (hC : ∀ (i : Nat) c w,l[i]?=some c→Z[i]?=some w→WdC c w) (he : C0 44 [.d (dV c0.A),.d (dV d0.B)] (·=.b cl)) :
 C0 25 [.d (Xh8 l)] (·=.tup (.pr (.d (dWs (hdW c0++Z.flatten++(if cl then [.mk [90]] else [])))) (.d (.int .i64 0)))):=by
 have hl0 : 0<l.length:=(W3a.1 h0).1
 have hfl : ∀ k,k≤l.length→(Z.take k).flatten.length≤16*k:=fun k=>by
  induction k with
  | zero=>intro _;simp
  | succ k ih =>
   intro hk
   obtain ⟨w,hw⟩ : ∃ w,Z[k]?=some w:=⟨_,W0c (by omega)⟩
   obtain ⟨c,hc⟩ : ∃ c,l[k]?=some c:=⟨_,W0c (by omega)⟩
   have:=(hC k c w hc hw).len
   have:=ih (by omega)
   rw [W1j,hw]
   simp only [List.flatten_append,W0d,Option.toList_some,List.flatten_cons,List.flatten_nil,W3e]
   omega
 have hw0l : (hdW c0).length=3:=rfl
 have hlm : (l.map dC).length=l.length:=W0h ..
 refine En Tryz.func25 fun _ _ _=>?_
 refine Dw rfl ?_
 refine Ce rfl Xcu ?_
 refine Ix 0 rfl (u:=dC c0) (by rw [W0w,h0];rfl) ?_
 refine Ce rfl Xcn ?_
 refine Ix 0 rfl (u:=dC c0) (by rw [W0w,h0];rfl) ?_
 refine Ce rfl Xcn ?_
 refine Lo (fun ((k,o) : Nat × Option (List Wv))=>[(0,.d (Xh8 l)),(4,.ptr 4 0),(28,.d (Xh8 l)),(29,.d (.int .i64 (l.map dC).length)),(30,.d (.int .i64 k))]) (fun (_,o)=>ouH (hdW c0) o) (fun (k,o)=>k≤l.length∧ouW (hdW c0) o=(hdW c0)++(Z.take k).flatten∧(o=none↔k=0)) (fun (k,_)=>l.length - k) (0,none) [] rfl ⟨W0y _,by simp [ouW],by simp⟩ ?_
 rintro ⟨k,o⟩ ⟨hk,hw,ho⟩
 cases o with
 | none =>
  obtain rfl : k=0:=ho.1 rfl
  have hw : (hdW c0)=(hdW c0)++(Z.take 0).flatten:=hw
  refine By rfl (fun h=>?_) fun h=>?_
  · have h : ((0 : Nat) : Int)<((l.map dC).length : Nat):=h
    rw [W0h] at h
    have hkl : 0<l.length:=hl0
    obtain ⟨c,hc⟩ : ∃ c,l[0]?=some c:=⟨_,W0c hkl⟩
    obtain ⟨z,hz⟩ : ∃ z,Z[0]?=some z:=⟨_,W0c (by omega)⟩
    have hnx : ∀ u,u=(hdW c0)++z→0+1≤l.length∧ouW (hdW c0) (some u)=(hdW c0)++(Z.take (0+1)).flatten∧(some u=none↔0+1=0):=fun u hu=>⟨hkl,by rw [W1j,hz];show u=_;rw [hu];simp [←W2p,←hw],by simp⟩
    have hcl : ((hdW c0)).length≤20000:=by rw [hw,W0d];have:=hfl 0 (W0y _);omega
    refine Ix 0 rfl (u:=dC c) (by rw [W0w,hc];rfl) ?_
    have hWc:=hC 0 c z hc hz
    obtain ⟨arc,A,B,C,cw⟩:=c
    cases hWc with
    | seg h =>
     obtain rfl : arc=false:=h
     refine Yes rfl nofun ?_
     refine Dw rfl ?_
     refine Ce rfl Xcu ?_
     refine Ce rfl Xcn ?_
     refine Ce rfl Xcn ?_
     refine ApL (((hdW c0)++Yen B).map dWv) rfl (by rw [W3o];rfl) (W5q _) (by rw [W0h,W0d];show _+3≤_;omega) ?_
     refine Ar (0+1 : Nat) rfl ?_
     exact Bk (0+1,some ((hdW c0)++Yen B)) [(48,600)] rfl (hnx _ rfl) (by show l.length - (0+1)<l.length - 0;omega)
    | @full r w x h h1 h2 h3 h4 =>
     obtain rfl : arc=true:=h
     refine No rfl (fun h=>h rfl) ?_
     refine Ce rfl h1 ?_
     refine No rfl (by decide) ?_
     refine Ce rfl h2 ?_
     refine Yes rfl rfl ?_
     refine Ce rfl h3 ?_
     refine No rfl (by decide) ?_
     refine Ce rfl h4 ?_
     refine No rfl (by decide) ?_
     refine Cw [(1000001,4),(1000002,7),(1000003,6)] rfl (Xyx (w:=hdW c0) (r:=r) (c:=⟨true,A,B,C,cw⟩) (lg:=false) (x:=x) (by omega)) fun v H' _ hv=>?_
     obtain ⟨rfl,rfl⟩:=hv
     refine Cw [(1000001,4),(1000002,7),(1000003,6),(1000004,86)] rfl (Xn3 (w:=(hdW c0)++Xfa r false (!cw) x) (r:=r) (c:=⟨true,A,B,C,cw⟩) (lg:=false) (x:=B) (by simp [Xfa];omega)) fun v H' _ hv=>?_
     obtain ⟨rfl,rfl⟩:=hv
     refine Ar (0+1 : Nat) rfl ?_
     exact Bk (0+1,some ((hdW c0)++Xfa r false (!cw) x++Xfa r false (!cw) B)) [(90,600)] rfl (hnx _ (by simp)) (by show l.length - (0+1)<l.length - 0;omega)
    | @part r lg h h1 h2 h3 =>
     obtain rfl : arc=true:=h
     refine No rfl (fun h=>h rfl) ?_
     refine Ce rfl h1 ?_
     refine No rfl (by decide) ?_
     refine Ce rfl h2 ?_
     refine No rfl nofun ?_
     refine Ce rfl h3 ?_
     refine No rfl (by decide) ?_
     refine Cw [(1000001,4),(1000002,7),(1000003,6)] rfl (Xyx (w:=hdW c0) (r:=r) (c:=⟨true,A,B,C,cw⟩) (lg:=lg) (x:=B) (by omega)) fun v H' _ hv=>?_
     obtain ⟨rfl,rfl⟩:=hv
     refine Ar (0+1 : Nat) rfl ?_
     exact Bk (0+1,some ((hdW c0)++Xfa r lg (!cw) B)) [(103,600)] rfl (hnx _ rfl) (by show l.length - (0+1)<l.length - 0;omega)
  · have h : ¬ ((0 : Nat) : Int)<((l.map dC).length : Nat):=h
    rw [W0h] at h
    omega
 | some w' =>
  have hw : w'=(hdW c0)++(Z.take k).flatten:=hw
  refine By rfl (fun h=>?_) fun h=>?_
  · have h : (k : Int)<((l.map dC).length : Nat):=h
    rw [W0h] at h
    have hkl : k<l.length:=by omega
    obtain ⟨c,hc⟩ : ∃ c,l[k]?=some c:=⟨_,W0c hkl⟩
    obtain ⟨z,hz⟩ : ∃ z,Z[k]?=some z:=⟨_,W0c (by omega)⟩
    have hnx : ∀ u,u=w'++z→k+1≤l.length∧ouW (hdW c0) (some u)=(hdW c0)++(Z.take (k+1)).flatten∧(some u=none↔k+1=0):=fun u hu=>⟨hkl,by rw [W1j,hz];show u=_;rw [hu];simp [←W2p,←hw],by simp⟩
    have hcl : (w').length≤20000:=by rw [hw,W0d];have:=hfl k hk;omega
    refine Ix k rfl (u:=dC c) (by rw [W0w,hc];rfl) ?_
    have hWc:=hC k c z hc hz
    obtain ⟨arc,A,B,C,cw⟩:=c
    cases hWc with
    | seg h =>
     obtain rfl : arc=false:=h
     refine Yes rfl nofun ?_
     refine Dw rfl ?_
     refine Ce rfl Xcu ?_
     refine Ce rfl Xcn ?_
     refine Ce rfl Xcn ?_
     refine ApO ((w'++Yen B).map dWv) rfl rfl rfl (by rw [W3o];rfl) (by rw [W0h,W0d];show _+3≤_;omega) ?_
     refine Ar (k+1 : Nat) rfl ?_
     exact Bk (k+1,some (w'++Yen B)) [(600,900),(48,600)] rfl (hnx _ rfl) (by show l.length - (k+1)<l.length - k;omega)
    | @full r w x h h1 h2 h3 h4 =>
     obtain rfl : arc=true:=h
     refine No rfl (fun h=>h rfl) ?_
     refine Ce rfl h1 ?_
     refine No rfl (by decide) ?_
     refine Ce rfl h2 ?_
     refine Yes rfl rfl ?_
     refine Ce rfl h3 ?_
     refine No rfl (by decide) ?_
     refine Ce rfl h4 ?_
     refine No rfl (by decide) ?_
     refine Cw [(1000001,4),(1000002,7),(1000003,6),(1000004,600)] rfl (Xn3 (w:=w') (r:=r) (c:=⟨true,A,B,C,cw⟩) (lg:=false) (x:=x) (by omega)) fun v H' _ hv=>?_
     obtain ⟨rfl,rfl⟩:=hv
     refine Cw [(1000001,4),(1000002,7),(1000003,6),(1000004,86)] rfl (Xn3 (w:=w'++Xfa r false (!cw) x) (r:=r) (c:=⟨true,A,B,C,cw⟩) (lg:=false) (x:=B) (by simp [Xfa];omega)) fun v H' _ hv=>?_
     obtain ⟨rfl,rfl⟩:=hv
     refine Ar (k+1 : Nat) rfl ?_
     exact Bk (k+1,some (w'++Xfa r false (!cw) x++Xfa r false (!cw) B)) [(600,900),(90,600)] rfl (hnx _ (by simp)) (by show l.length - (k+1)<l.length - k;omega)
    | @part r lg h h1 h2 h3 =>
     obtain rfl : arc=true:=h
     refine No rfl (fun h=>h rfl) ?_
     refine Ce rfl h1 ?_
     refine No rfl (by decide) ?_
     refine Ce rfl h2 ?_
     refine No rfl nofun ?_
     refine Ce rfl h3 ?_
     refine No rfl (by decide) ?_
     refine Cw [(1000001,4),(1000002,7),(1000003,6),(1000004,600)] rfl (Xn3 (w:=w') (r:=r) (c:=⟨true,A,B,C,cw⟩) (lg:=lg) (x:=B) (by omega)) fun v H' _ hv=>?_
     obtain ⟨rfl,rfl⟩:=hv
     refine Ar (k+1 : Nat) rfl ?_
     exact Bk (k+1,some (w'++Xfa r lg (!cw) B)) [(600,900),(103,600)] rfl (hnx _ rfl) (by show l.length - (k+1)<l.length - k;omega)
  · have h : ¬ (k : Int)<((l.map dC).length : Nat):=h
    rw [W0h] at h
    obtain rfl : k=l.length:=by omega
    have hwl : w'.length≤20000:=by rw [hw,W0d];have:=hfl l.length hk;omega
    have hwz : w'=(hdW c0)++Z.flatten:=by rw [hw,W0b (by omega)]
    refine Dw rfl ?_
    refine Ix 0 rfl (u:=dC c0) (by rw [W0w,h0];rfl) ?_
    refine Ar (l.length - 1 : Nat) rfl ?_
    refine Ix (l.length - 1) rfl (u:=dC d0) (by rw [W0w,h9];rfl) ?_
    refine Ce rfl he ?_
    cases cl with
    | true =>
     refine Yes rfl rfl ?_
     refine Dw rfl ?_
     refine Ce rfl Xcu ?_
     refine ApO ((w'++([.mk [90]] : List Wv)).map dWv) rfl rfl rfl (by rw [W3o];rfl) (by rw [W0h,W0d];show _+1≤_;omega) ?_
     exact RTt rfl (.cons (.own rfl (by rw [W1n];exact W0a _) (by rw [W0z,W1y,hwz];rfl)) Xb3)
    | false =>
     refine No rfl nofun ?_
     exact RTt rfl (.cons (.own rfl (by rw [W1n];exact W0a _) (by rw [W0z,W1y,hwz];exact congrArg (List.map dWv) (W3e _).symm)) Xb3)
end
section
theorem lC (l : List Cv) : (l.map dC).length=l.length:=W0h ..
theorem cAt {l : List Cv} {k : Nat} {c : Cv} (h : l[k]?=some c) : (l.map dC)[k]?=some (dC c):=by rw [W0w,h];rfl
theorem Xlb {l : List Cv} (hl : l.length≤1000) (h0 : 0<l.length) (hv : ∀ c∈l,C0 43 [.d (dC c)] (·=.b true)) (he : ∀ (i : Nat) c d,l[i]?=some c→l[i+1]?=some d→C0 44 [.d (dV c.B),.d (dV d.A)] (·=.b true)) :
 C0 24 [.d (Xh8 l)] (·=.b true):=by
 refine En Tryz.func24 fun _ _ _=>?_
 refine Lo (fun k : Nat=>[(0,.d (Xh8 l)),(5,.d (Xh8 l)),(6,.d (.int .i64 (l.map dC).length)),(7,.d (.int .i64 k))]) (fun _=>[]) (fun k=>k≤l.length) (fun k=>l.length - k) 0 [] rfl (W0y _) fun k hk=>?_
 refine By rfl (fun h=>?_) fun h=>?_ <;> simp only [lC] at h
 · obtain ⟨c,hc⟩ : ∃ c,l[k]?=some c:=⟨_,W0c (by omega)⟩
   refine Ix k rfl (cAt hc) ?_
   refine Dw rfl ?_
   refine Ce rfl (hv c (W1b hc)) ?_
   refine No rfl (fun h=>h rfl) ?_
   refine By rfl (fun h1=>?_) fun h1=>?_
   · obtain ⟨b,hb⟩ : ∃ b,l[k - 1]?=some b:=⟨_,W0c (by omega)⟩
     refine Ar (k - 1 : Nat) rfl ?_
     refine Ix (k - 1) rfl (cAt hb) ?_
     refine Ce rfl (he (k - 1) b c hb (by rw [show k - 1+1=k by omega];exact hc)) ?_
     refine No rfl (fun h=>h rfl) ?_
     refine Ar (k+1 : Nat) rfl ?_
     exact Bk (k+1) [] rfl (by omega) (by show l.length - (k+1)<l.length - k;omega)
   · refine Ar (k+1 : Nat) rfl ?_
     exact Bk (k+1) [] rfl (by omega) (by show l.length - (k+1)<l.length - k;omega)
 · exact R1 rfl (by exact (show dc (((l.map dC).length : Int) > 0)=true by rw [Xaw,lC];omega) ▸ .rf rfl)
def FmW (d : Int) : Wv→List UInt8→Prop
 | .mk s,t=>t=s
 | .nu x,t=>C0 26 [.d (dN x),.d (.int .i64 d)] (·=.tup (.pr (.d (.str t)) (.d (.int .i64 0))))
theorem lWv (l : List Wv) : (l.map dWv).length=l.length:=W0h ..
theorem Xvo {l : List Cv} {d : Int} {W : List Wv} {T : List (List UInt8)} (hd : 0≤d∧d≤20) (hp : C0 24 [.d (Xh8 l)] (·=.b true)) (hw : C0 25 [.d (Xh8 l)] (·=.tup (.pr (.d (dWs W)) (.d (.int .i64 0)))))
 (hW : W.length≤100000) (hT : T.length=W.length) (hF : ∀ (i : Nat) w t,W[i]?=some w→T[i]?=some t→FmW d w t) (hj : (Lib.join T [32]).length≤140737488355328) : C0 8 [.d (Xh8 l),.d (.int .i64 d)] (·=.tup (.pr (.d (.str (Lib.join T [32]))) (.d (.int .i64 0)))):=by
 refine En Tryz.func8 fun _ _ _=>?_
 refine No rfl (by omega) ?_
 refine No rfl (by omega) ?_
 refine Ce rfl hp ?_
 refine No rfl (fun h=>h rfl) ?_
 refine Ce rfl hw ?_
 refine No rfl (by decide) ?_
 refine Nl 8 8 1 rfl ?_
 refine Lo (fun k : Nat=>[(1,.d (.int .i64 d)),(8,.gr 8 1 ((T.take k).map .str)),(31,.d (dWs W)),(32,.d (.int .i64 (W.map dWv).length)),(33,.d (.int .i64 k))]) (fun k=>[(8,.tok ((T.take k).map D.str).length 1)]) (fun k=>k≤W.length) (fun k=>W.length - k) 0 [] rfl (W0y _) fun k hk=>?_
 refine By rfl (fun h=>?_) fun h=>?_ <;> simp only [lWv] at h
 · obtain ⟨w,hw1⟩ : ∃ w,W[k]?=some w:=⟨_,W0c (by omega)⟩
   obtain ⟨t,ht⟩ : ∃ t,T[k]?=some t:=⟨_,W0c (by omega)⟩
   have hf:=hF k w t hw1 ht
   have hz : (T.take k).map D.str++[D.str t]=(T.take (k+1)).map .str:=by rw [W1j,ht];simp
   refine Ix k rfl (u:=dWv w) (by rw [W0w,hw1];rfl) ?_
   cases w with
   | mk s =>
    obtain rfl : t=s:=hf
    refine No rfl nofun ?_
    refine ApG ((T.take (k+1)).map .str) rfl hz (by simp;omega) ?_
    refine Ar (k+1 : Nat) rfl ?_
    exact Bk (k+1) [(8,90),(54,8)] rfl (by omega) (by show W.length - (k+1)<W.length - k;omega)
   | nu x =>
    have hf : C0 26 [.d (dN x),.d (.int .i64 d)] (·=.tup (.pr (.d (.str t)) (.d (.int .i64 0)))):=hf
    refine Yes rfl rfl ?_
    refine Ce rfl hf ?_
    refine No rfl (by decide) ?_
    refine ApG ((T.take (k+1)).map .str) rfl hz (by simp;omega) ?_
    refine Ar (k+1 : Nat) rfl ?_
    exact Bk (k+1) [(8,90),(54,8)] rfl (by omega) (by show W.length - (k+1)<W.length - k;omega)
 · have e : T.take k=T:=W0b (by omega)
   have hjn:=Join_ok (l:=T) (sep:=[32]) (by omega) hj
   rw [e]
   refine Ce rfl hjn ?_
   exact R0t
end
section
def Qp (s : Nat) (p : Rat × Rat) : Prop:=Qs s p.1∧Qs s p.2
abbrev v0 (p : Rat × Rat) : Vn:=⟨⟨0,(),p.1⟩,⟨0,(),p.2⟩⟩
theorem W0 : Wn (K:=0) () ([] : List (Tow.El 0)) []:=⟨⟨trivial,W0y _,fun {m T ρ} h=>by
 have:=h.le (show Xbz 0 () from trivial)
 have e : m=0:=by have h0 : ([] : List (Tow.El 0)).length=0:=rfl;omega
 subst e
 trivial⟩,fun z hz=>nomatch hz⟩
theorem g0 {q : Rat} (h : Qs 64 q) : Gd (K:=0) () [] [] 1 ⟨0,(),q⟩ q:=Gd.rat W0 h
theorem gv0 {p : Rat × Rat} (h : Qp 64 p) : Gv (K:=0) () [] [] 1 (v0 p) p:=⟨g0 h.1,g0 h.2⟩
theorem zw {r p : Nat} {x : Nm} {v : Rat} (h : NOk (K:=0) () ([] : List (Tow.El 0)) r p x v) : x=⟨0,(),v⟩:=by
 obtain ⟨ρ,h1,h2⟩:=h.ex
 obtain ⟨k,t,a⟩:=x
 have hk : k≤([] : List (Tow.El 0)).length:=h1.le (show Xbz 0 () from trivial)
 obtain rfl : k=0:=Nat.le_zero.1 hk
 have h2 : (a : Rat)=v:=h2
 rw [←h2]
 cases t
 rfl
theorem Yf3 {n : Nat} {v : Vn} {p : Rat × Rat} (h : Gv (K:=0) () ([] : List (Tow.El 0)) [] n v p) : v=v0 p:=by
 obtain ⟨x,y⟩:=v
 rw [show x=_ from zw h.x.o,show y=_ from zw h.y.o]
instance {p : Nat} {z : Int} : Decidable (Zs p z):=inferInstanceAs (Decidable (z.natAbs<2 ^ p))
instance {p : Nat} {x : Rat} : Decidable (Qs p x):=decidable_of_iff (Zs p x.num∧Zs p x.den) ⟨fun h=>⟨h.1,h.2⟩,fun h=>⟨h.1,h.2⟩⟩
theorem Xd9 {q : Rat} (h : Qs 64 q) : P19.Trm ⟨0,(),q⟩:=by
 unfold P19.Trm
 refine En Tryz.func149 fun _ _ _=>?_
 refine Ce rfl (P9.detach_ok (x:=⟨0,(),q⟩) (r:=1) (p:=65) trivial (Sz.rat 0 h) (show (0 : Nat)≤16 by decide) (by decide) (by decide)) ?_
 refine Ar (-1 : Int) rfl ?_ (wr (show ((0 : Nat) : Int) - 1=-1 by decide) (by simp only [inK];omega))
 refine Lo (fun _ : Unit=>[(1,.ptr 1 0),(2,.ptr 2 0),(3,.ptr 3 0)]) (fun _=>[(1,.var (.d (dN ⟨0,(),q⟩))),(2,.var (.st (.pr .nil .nil))),(3,.var (.d (.int .i64 (-1))))]) (fun _=>True) (fun _=>0) () [] rfl trivial (fun _ _=>?_)
 refine No rfl (by decide) ?_
 exact R0
end
section
def d2 (p q : Rat × Rat) : Rat:=Xv4 (K:=0) () (Xic (K:=0) p q) (Xic (K:=0) p q)
abbrev nr (q : Rat) : Nm:=⟨0,(),q⟩
theorem Ye5 : Sz 1000 (toL 1 (Xf4 1 0)):=by
 have : Sz (1*2+1) (toL 1 (Xf4 1 0)):=Sz.all (p:=1) (l:=[(0 : Rat),1]) fun x hx=>by
  have hx : x∈[(0 : Rat),1]:=hx
  rcases W1o.1 hx with rfl | hx
  · exact ⟨show (0 : Int).natAbs<2 ^ 1 by decide,show ((1 : Nat) : Int).natAbs<2 ^ 1 by decide⟩
  · obtain rfl:=W0g.1 hx;exact ⟨show (1 : Int).natAbs<2 ^ 1 by decide,show ((1 : Nat) : Int).natAbs<2 ^ 1 by decide⟩
 exact this.mono (by decide)
theorem Yhm {s : Rat} (h : Qs 200 s) (hs : 0≤s) : C0 92 [.d (dN (nr s))] (R9.RtR (nr s)):=by
 have hS : Sz 201 (toL 0 (s : Tow.El 0)):=Sz.rat 0 h
 refine En Tryz.func92 fun _ _ _=>?_
 refine Ca rfl (P8.Adjoin_ok (k:=0) (t:=()) (a:=(s : Tow.El 0)) (r:=1) (p:=201) trivial hS trivial (by decide) (by decide +kernel) (by decide +kernel) (by decide +kernel) (by decide +kernel)) fun v hv=>?_
 rcases hv with ⟨h1,rfl⟩ | ⟨y,h1,h2,rfl⟩ | ⟨h1,h2,h3,rfl⟩
 · have h1 : Xh0 s<0:=h1
   rcases Xa0 s with ⟨_,e⟩ | ⟨_,e⟩ | ⟨e,_⟩
   · omega
   · omega
   · grind
 · refine No rfl (by simp) ?_
   have hy : Sz 1000 (toL 0 (y : Tow.El 0)):=(hS.rootS (k:=0) (r:=1) (t:=()) (s:=(y : Tow.El 0)) trivial trivial h1).mono (by decide)
   refine Ce rfl (P9.detach_ok (x:=⟨0,(),y⟩) (r:=1) (p:=1000) trivial hy (show 0≤16 by decide) (by decide) (by decide)) ?_
   exact Rt rfl (.tup (.cons (.rf rfl) Xb3)) ⟨⟨0,(),y⟩,rfl,.inl ⟨y,rfl,h1,h2⟩⟩
 · refine No rfl (by simp) ?_
   refine Ce rfl (P9.detach_ok (x:=⟨1,tsn () s,Xf4 1 0⟩) (r:=201) (p:=1000) ⟨trivial,hS⟩ Ye5 (show 1≤16 by decide) (by decide) (by decide)) ?_
   exact Rt rfl (.tup (.cons (.rf rfl) Xb3)) ⟨⟨1,tsn () s,Xf4 1 0⟩,rfl,.inr ⟨rfl,h1,h2⟩⟩
theorem Xwt {c : Cv} {p q : Rat × Rat} (hC : c.C=v0 p) (hA : c.A=v0 q) (hp : Qp 64 p) (hq : Qp 64 q) (hne : p≠q) (hs : Qs 200 (d2 q p)) (h0 : 0≤d2 q p) : C0 47 [.d (dC c)] (R9.RtR (nr (d2 q p))):=by
 obtain ⟨arc,A,B,C,cw⟩:=c
 obtain rfl : C=v0 p:=hC
 obtain rfl : A=v0 q:=hA
 refine En Tryz.func47 fun _ _ _=>?_
 refine Ca rfl (P15.Around_g W0 (gv0 hp) (gv0 hq) (Xd9 hp.1) (Xd9 hp.2) (by decide) hne) fun v hv=>?_
 obtain ⟨z,rfl,hz⟩:=hv
 obtain rfl:=zw hz.o
 refine No rfl (by decide) ?_
 refine Ca rfl (Yhm hs h0) fun v hv=>?_
 obtain ⟨z,rfl,hz⟩:=hv
 exact Rt rfl (.tup (.cons (.rf rfl) Xb3)) ⟨z,rfl,hz⟩
def Yh3 (r m : Nm) : List Vn:=[⟨r,n00⟩,⟨n00,r⟩,⟨m,n00⟩,⟨n00,m⟩]
def sel : List Vn→List Bool→List Vn
 | x::X,b::B=>if b then x::sel X B else sel X B
 | _,_=>[]
theorem Xjj {x : Vn} {b : Bool} : ∀ {X : List Vn} {B : List Bool},X.length=B.length→sel (X++[x]) (B++[b])=sel X B++(if b then [x] else [])
 | [],[],_=>by cases b <;> rfl
 | y::X,c::B,h=>by
  have:=Xjj (x:=x) (b:=b) (X:=X) (B:=B) (by simpa using h)
  simp only [W3j,sel,this]
  cases c <;> simp
theorem Xsc : ∀ {X : List Vn} {B : List Bool},(sel X B).length≤X.length
 | [],_=>by simp [sel]
 | _::_,[]=>by simp [sel]
 | x::X,b::B=>by
  have:=Xsc (X:=X) (B:=B)
  simp only [sel];split <;> simp <;> omega
def exA (e0 : List Vn) : Option (List Vn)→AV
 | none=>.lit 4 (e0.map dV)
 | some w=>.own 600 4 0 (w.map dV).length
def exH (c : Cv) : Option (List Vn)→Hpl
 | none=>[(1,.var (.d (dC c)))]
 | some w=>[(1,.var (.d (dC c))),(600,.arr 4 (w.map dV))]
def exW (e0 : List Vn) : Option (List Vn)→List Vn
 | none=>e0
 | some w=>w
theorem Xnu : C0 63 [.d (.int .i64 0)] (·=.d (dN n00)):=P9.FromInt_ok (z:=0) (by decide)
theorem Xln {c : Cv} {r m : Nm} {X : List Vn} {B : List Bool} (h : c.arc=true) (hr : C0 47 [.d (dC c)] (·=.tup (.pr (.d (dN r)) (.d (.int .i64 0))))) (hm : C0 31 [.d (dN r)] (·=.d (dN m))) (hX : X.length=4) (hB : B.length=4)
 (hx : ∀ (i : Nat) d x b,(Yh3 r m)[i]?=some d→X[i]?=some x→B[i]?=some b→C0 51 [.d (dV c.C),.d (dV d)] (·=.tup (.pr (.d (dV x)) (.d (.int .i64 0))))∧C0 64 [.d (dC c),.d (dV x)] (·=.b b)) :
 C0 30 [.d (dC c)] (·=.tup (.pr (.d (dVs ([c.A,c.B]++sel X B))) (.d (.int .i64 0)))):=by
 obtain ⟨arc,A,B',C,cw⟩:=c
 obtain rfl : arc=true:=h
 refine En Tryz.func30 fun _ _ _=>?_
 refine No rfl (fun h=>h rfl) ?_
 refine Ce rfl hr ?_
 refine No rfl (by decide) ?_
 refine Ce rfl Xnu ?_
 refine Dw rfl ?_
 refine Ce rfl hm ?_
 refine Ce rfl hm ?_
 refine Lo (fun ((k,o) : Nat × Option (List Vn))=>[(1,.ptr 1 0),(4,exA [A,B'] o),(44,.lit 4 ((Yh3 r m).map dV)),(45,.d (.int .i64 4)),(46,.d (.int .i64 k))]) (fun (_,o)=>exH ⟨true,A,B',C,cw⟩ o) (fun (k,o)=>k≤4∧exW [A,B'] o=[A,B']++sel (X.take k) (B.take k)) (fun (k,_)=>4 - k) (0,none) [] rfl ⟨W0y _,by simp [exW,sel]⟩ ?_
 rintro ⟨k,o⟩ ⟨hk,hw⟩
 have hwl : (exW [A,B'] o).length≤6:=by
  have hw : exW [A,B'] o=_:=hw
  rw [hw,W0d]
  have:=Xsc (X:=X.take k) (B:=B.take k)
  rw [W0i] at this
  simp only [W0l,W3m]
  omega
 cases o with
 | none =>
  have hw : [A,B']=[A,B']++sel (X.take k) (B.take k):=hw
  refine By rfl (fun h=>?_) fun h=>?_
  · have h : (k : Int)<4:=h
    obtain ⟨d,hd⟩ : ∃ d,(Yh3 r m)[k]?=some d:=⟨_,W0c (show k<4 by omega)⟩
    obtain ⟨x,hxk⟩ : ∃ x,X[k]?=some x:=⟨_,W0c (by omega)⟩
    obtain ⟨b,hbk⟩ : ∃ b,B[k]?=some b:=⟨_,W0c (by omega)⟩
    obtain ⟨g1,g2⟩:=hx k d x b hd hxk hbk
    have hs : sel (X.take (k+1)) (B.take (k+1))=sel (X.take k) (B.take k)++(if b then [x] else []):=by
     rw [W1j,W1j,hxk,hbk];exact Xjj (by rw [W0i,W0i,hX,hB])
    refine Ix k rfl (u:=dV d) (by rw [W0w,hd];rfl) ?_
    refine Ce rfl g1 ?_
    refine No rfl (by decide) ?_
    refine Ce rfl g2 ?_
    cases b with
    | false =>
     refine No rfl nofun ?_
     refine Ar (k+1 : Nat) rfl ?_
     exact Bk (k+1,none) [] rfl ⟨by omega,by rw [hs];simpa [exW] using hw⟩ (by show 4 - (k+1)<4 - k;omega)
    | true =>
     refine Yes rfl rfl ?_
     refine ApL (([A,B']++[x]).map dV) rfl rfl (W5q _) (show 3≤1099511627776 by decide) ?_
     refine Ar (k+1 : Nat) rfl ?_
     exact Bk (k+1,some ([A,B']++[x])) [(66,600)] rfl ⟨by omega,by rw [hs,←W2p,←hw];rfl⟩ (by show 4 - (k+1)<4 - k;omega)
  · have h : ¬ (k : Int)<4:=h
    rw [W0b (by omega),W0b (by omega)] at hw
    exact RTt rfl (.cons (.lit (by rw [←hw])) Xb3)
 | some w =>
  have hw : w=[A,B']++sel (X.take k) (B.take k):=hw
  have hwl : w.length≤6:=hwl
  refine By rfl (fun h=>?_) fun h=>?_
  · have h : (k : Int)<4:=h
    obtain ⟨d,hd⟩ : ∃ d,(Yh3 r m)[k]?=some d:=⟨_,W0c (show k<4 by omega)⟩
    obtain ⟨x,hxk⟩ : ∃ x,X[k]?=some x:=⟨_,W0c (by omega)⟩
    obtain ⟨b,hbk⟩ : ∃ b,B[k]?=some b:=⟨_,W0c (by omega)⟩
    obtain ⟨g1,g2⟩:=hx k d x b hd hxk hbk
    have hs : sel (X.take (k+1)) (B.take (k+1))=sel (X.take k) (B.take k)++(if b then [x] else []):=by
     rw [W1j,W1j,hxk,hbk];exact Xjj (by rw [W0i,W0i,hX,hB])
    refine Ix k rfl (u:=dV d) (by rw [W0w,hd];rfl) ?_
    refine Ce rfl g1 ?_
    refine No rfl (by decide) ?_
    refine Ce rfl g2 ?_
    cases b with
    | false =>
     refine No rfl nofun ?_
     refine Ar (k+1 : Nat) rfl ?_
     exact Bk (k+1,some w) [] rfl ⟨by omega,by rw [hs];simpa [exW] using hw⟩ (by show 4 - (k+1)<4 - k;omega)
    | true =>
     refine Yes rfl rfl ?_
     refine ApO ((w++[x]).map dV) rfl rfl rfl (by rw [W3o];rfl) (by simp;omega) ?_
     refine Ar (k+1 : Nat) rfl ?_
     exact Bk (k+1,some (w++[x])) [(600,900),(66,600)] rfl ⟨by omega,by rw [hs,←W2p,←hw];rfl⟩ (by show 4 - (k+1)<4 - k;omega)
  · have h : ¬ (k : Int)<4:=h
    rw [W0b (by omega),W0b (by omega)] at hw
    exact RTt rfl (.cons (.own rfl (by rw [W1n];exact W0a _) (by rw [W0z,W1y,hw])) Xb3)
end
section
theorem Yb9 {f : FuncId} {l : List Cv} (hl : l.length≤1000) (hf : ∀ c∈l,C0 f [.d (dC c)] (·=.b false)) : C0 110 [.d (Xh8 l),.d (fnD f)] (·=.d (.int .i64 (-1))):=by
 refine En Tryz.func110 fun _ _ _=>?_
 refine Lo (fun k : Nat=>[(0,.d (Xh8 l)),(1,.d (fnD f)),(7,.d (.int .i64 (l.map dC).length)),(8,.d (.int .i64 k))]) (fun _=>[]) (fun k=>k≤l.length) (fun k=>l.length - k) 0 [] rfl (W0y _) fun k hk=>?_
 refine By rfl (fun h=>?_) fun h=>?_ <;> simp only [lC] at h
 · obtain ⟨c,hc⟩ : ∃ c,l[k]?=some c:=⟨_,W0c (by omega)⟩
   refine Ix k rfl (cAt hc) ?_
   refine Ce rfl (hf c (W1b hc)) ?_
   refine No rfl nofun ?_
   refine Ar (k+1 : Nat) rfl ?_
   exact Bk (k+1) [] rfl (by omega) (by show l.length - (k+1)<l.length - k;omega)
 · exact R0
theorem Ycv {f : FuncId} {l : List Cv} (hl : l.length≤1000) (hf : ∀ c∈l,C0 f [.d (dC c)] (·=.b false)) : C0 61 [.d (Xh8 l),.d (fnD f)] (·=.b false):=by
 refine En Tryz.func61 fun _ _ _=>?_
 refine Ce rfl (Yb9 hl hf) ?_
 exact R1 rfl (by exact (show dc ((-1 : Int) ≥ 0)=false from W2s.2 fun e=>absurd (Xaw.1 e) (by decide)) ▸ .rf rfl)
theorem Xwr {l : List Cv} {d : Int} (hd : 0≤d∧d≤20) (h0 : 0<l.length) (hl : l.length≤1000) (hv : ∀ c∈l,C0 43 [.d (dC c)] (·=.b true)) : C0 29 [.d (Xh8 l),.d (.int .i64 d)] (·=.b true):=by
 have hr : ∀ c∈l,C0 62 [.d (dC c)] (·=.b false):=fun c hc=>by
  refine En Tryz.func62 fun _ _ _=>?_
  refine Ce rfl (hv c hc) ?_
  exact R1 rfl (by exact (show (!true)=false from rfl) ▸ .rf rfl)
 refine En Tryz.func29 fun _ _ _=>?_
 refine Yes rfl (by omega) ?_
 refine Yes rfl (by omega) ?_
 refine Yes rfl (by rw [lC];omega) ?_
 refine Ce rfl (Ycv hl hr) ?_
 exact R0
def qb (z : Int) (d : Nat) : Rat:=Rat.divInt z (10 ^ d)
abbrev Zb (z : Int) : Prop:=(dig z.natAbs).length≤274877906944
theorem Zb.zs {z : Int} (h : Zb z) : Zs (max (32*(dig z.natAbs).length) 200) z:=by
 have h1 : Zs (32*(dig z.natAbs).length) z:=by
  show z.natAbs<2 ^ _
  rw [W4u];exact Xcq _
 exact h1.mono (Nat.le_max_left ..)
theorem Zb.neg {z : Int} (h : Zb z) : Zb (-z):=by unfold Zb;rw [W4k];exact h
theorem Yju {a b : Int} : Xaz a b<0↔a<b:=by rcases Xaq a b with ⟨g1,g2⟩ | ⟨g1,g2⟩ | ⟨g1,g2⟩ <;> omega
theorem Xev {z : Int} {d : Nat} (hz : Zb z) (hd : d≤20) : C0 34 [.d (dz z),.d (.int .i64 d)] (·=.d (dq (qb z d))):=by
 refine En Tryz.func34 fun _ _ _=>?_
 refine Ce rfl (FromInt_ok (z:=10) (by decide)) ?_
 refine Ce rfl (Xtz (z:=10) (q:=4) (show (10 : Int).natAbs<2 ^ 4 by decide) (by omega) (by decide)) ?_
 have h10 : Zs (max (32*(dig z.natAbs).length) 200) (10 ^ d : Int):=by
  have h1 : (10 : Nat) ^ d≤10 ^ 20:=W0m (by decide) hd
  have h2 : Zs 200 (10 ^ d : Int):=by
   show ((10 : Int) ^ d).natAbs<2 ^ 200
   rw [W6u]
   exact W1q h1 (by decide)
  exact h2.mono (Nat.le_max_right ..)
 have h0 : (10 ^ d : Int)≠0:=by have:=W6j (n:=10) (m:=d) (by decide);omega
 refine Ce rfl (Make_ok hz.zs h10 (by have hz : _≤_:=hz;omega) h0) ?_
 exact R1 rfl (.rf rfl)
structure F4 where
 a : Int
 b : Int
 c : Int
 e : Int
def mn (x y : Int) : Int:=if y<x then y else x
structure O4 where
 a : Option Int
 b : Option Int
 c : Option Int
 e : Option Int
def nx (o : Option Int) (f : Int) : Option Int:=match o with
 | none=>some f
 | some g=>some (mn g f)
def O4.nx (o : O4) (f : F4) : O4:=⟨P55.nx o.a f.a,P55.nx o.b f.b,P55.nx o.c f.c,P55.nx o.e f.e⟩
def o40 : O4:=⟨none,none,none,none⟩
def lst (l : List F4) : O4:=l.foldl O4.nx o40
def f40 (f : F4) : O4:=⟨some f.a,some f.b,some f.c,some f.e⟩
theorem Xw9 (l : List F4) (f : F4) : lst (l++[f])=(lst l).nx f:=by simp [lst]
abbrev zIA : AV:=.st (.pr (.b false) .nil)
def ent : Option Int→AV
 | none=>zIA
 | some z=>.d (dz z)
def arA : O4→AV
 | ⟨some a,some b,some c,some e⟩=>.d (.st (.pr (dz a) (.pr (dz b) (.pr (dz c) (dz e)))))
 | o=>.st (.pr (ent o.a) (.pr (ent o.b) (.pr (ent o.c) (ent o.e))))
abbrev zRA : AV:=.st (.pr zIA zIA)
abbrev zBA : AV:=.st (.pr zRA (.pr zRA (.pr zRA zRA)))
structure PtF (d : Int) (p : Vn) (f : F4) : Prop where
 n : ∃ x y,C0 31 [.d (dN p.x)] (·=.d (dN x))∧C0 31 [.d (dN p.y)] (·=.d (dN y))∧C0 32 [.d (dN x),.d (.int .i64 d)] (·=.tup (.pr (.d (dz f.c)) (.d (.int .i64 0))))∧C0 32 [.d (dN y),.d (.int .i64 d)] (·=.tup (.pr (.d (dz f.e)) (.d (.int .i64 0))))
 x : C0 32 [.d (dN p.x),.d (.int .i64 d)] (·=.tup (.pr (.d (dz f.a)) (.d (.int .i64 0))))
 y : C0 32 [.d (dN p.y),.d (.int .i64 d)] (·=.tup (.pr (.d (dz f.b)) (.d (.int .i64 0))))
 z : Zb f.a∧Zb f.b∧Zb f.c∧Zb f.e
def CuF (d : Int) (c : Cv) (fs : List F4) : Prop:=∃ P : List Vn,C0 30 [.d (dC c)] (·=.tup (.pr (.d (dVs P)) (.d (.int .i64 0))))∧P.length=fs.length∧P.length≤100∧∀ (i : Nat) p f,P[i]?=some p→fs[i]?=some f→PtF d p f
theorem Xpv {a b : Int} (ha : Zb a) (hb : Zb b) : C0 33 [.d (dz a),.d (dz b)] (·=.d (.int .i64 (Xaz a b))):=Xvs (W0j ha (by decide)) (W0j hb (by decide))
def Yj2 (o : F4) (d : Nat) : D:=.st (.pr (dq (qb o.a d)) (.pr (dq (qb o.b d)) (.pr (dq (qb (-o.c) d)) (dq (qb (-o.e) d)))))
def ofO : Option F4→O4
 | none=>o40
 | some g=>f40 g
def nxF (o : Option F4) (f : F4) : F4:=match o with
 | none=>f
 | some g=>⟨mn g.a f.a,mn g.b f.b,mn g.c f.c,mn g.e f.e⟩
theorem Xzp {o : Option F4} {f : F4} : (ofO o).nx f=f40 (nxF o f):=by cases o <;> rfl
def BdZ (f : F4) : Prop:=Zb f.a∧Zb f.b∧Zb f.c∧Zb f.e
theorem Xw6 {x y : Int} (hx : Zb x) (hy : Zb y) : Zb (mn x y):=by unfold mn;split <;> assumption
theorem BdZ.nx {o : Option F4} {f : F4} (ho : ∀ g,o=some g→BdZ g) (hf : BdZ f) : BdZ (nxF o f):=by
 cases o with
 | none=>exact hf
 | some g =>
  have hg:=ho g rfl
  exact ⟨Xw6 hg.1 hf.1,Xw6 hg.2.1 hf.2.1,Xw6 hg.2.2.1 hf.2.2.1,Xw6 hg.2.2.2 hf.2.2.2⟩
def part (o : O4) (f : F4) : Nat→O4
 | 0=>o
 | 1=>⟨nx o.a f.a,o.b,o.c,o.e⟩
 | 2=>⟨nx o.a f.a,nx o.b f.b,o.c,o.e⟩
 | 3=>⟨nx o.a f.a,nx o.b f.b,nx o.c f.c,o.e⟩
 | _=>o.nx f
theorem Xw7 {x y : Int} (h : y<x) : mn x y=y:=if_pos h
theorem Xw8 {x y : Int} (h : ¬ y<x) : mn x y=x:=if_neg h
theorem Xvv {l : List Cv} {Fs : List (List F4)} {d : Nat} {o : F4} (hd : d≤20) (h0 : 0<l.length) (hl : l.length≤1000) (hv : ∀ c∈l,C0 43 [.d (dC c)] (·=.b true)) (hF : Fs.length=l.length) (hC : ∀ (i : Nat) c fs,l[i]?=some c→Fs[i]?=some fs→CuF d c fs) (ho : lst Fs.flatten=f40 o) :
 C0 10 [.d (Xh8 l),.d (.int .i64 d)] (·=.tup (.pr (.d (Yj2 o d)) (.d (.int .i64 0)))):=by
 refine En Tryz.func10 fun _ _ _=>?_
 refine Ce rfl (Xwr (by omega) h0 hl hv) ?_
 refine No rfl (fun h=>h rfl) ?_
 refine Lo (fun ((k,o) : Nat × Option F4)=>[(1,.d (.int .i64 d)),(4,.ptr 4 0),(6,.ptr 6 0),(7,.b o.isNone),(23,.d (Xh8 l)),(24,.d (.int .i64 (l.map dC).length)),(25,.d (.int .i64 k))]) (fun (_,o)=>[(4,.var zBA),(6,.var (arA (ofO o)))]) (fun (k,o)=>k≤l.length∧lst (Fs.take k).flatten=ofO o∧∀ g,o=some g→BdZ g) (fun (k,_)=>l.length - k) (0,none) [] rfl ⟨W0y _,rfl,nofun⟩ ?_
 rintro ⟨k,o1⟩ ⟨hk,ho1,hz1⟩
 have ho1 : lst (Fs.take k).flatten=ofO o1:=ho1
 refine By rfl (fun h=>?_) fun h=>?_
 · have h : (k : Int)<((l.map dC).length : Nat):=h
   rw [lC] at h
   obtain ⟨c,hc⟩ : ∃ c,l[k]?=some c:=⟨_,W0c (by omega)⟩
   obtain ⟨fs,hfs⟩ : ∃ fs,Fs[k]?=some fs:=⟨_,W0c (by omega)⟩
   obtain ⟨P,hP,hPl,hP1,hPf⟩:=hC k c fs hc hfs
   have hnext : (Fs.take (k+1)).flatten=(Fs.take k).flatten++fs:=by rw [W1j,hfs];simp
   refine Ix k rfl (cAt hc) ?_
   refine Ce rfl hP ?_
   refine No rfl (by decide) ?_
   refine Lo (fun ((j,o) : Nat × Option F4)=>[(1,.d (.int .i64 d)),(4,.ptr 4 0),(6,.ptr 6 0),(7,.b o.isNone),(23,.d (Xh8 l)),(24,.d (.int .i64 (l.map dC).length)),(25,.d (.int .i64 k)),(38,.d (dVs P)),(39,.d (.int .i64 (P.map dV).length)),(40,.d (.int .i64 j))]) (fun (_,o)=>[(4,.var zBA),(6,.var (arA (ofO o)))]) (fun (j,o)=>j≤fs.length∧lst ((Fs.take k).flatten++fs.take j)=ofO o∧∀ g,o=some g→BdZ g) (fun (j,_)=>fs.length - j) (0,o1) [] rfl ⟨W0y _,by simpa using ho1,hz1⟩ ?_ (by exact ⟨rfl,rfl,by cases o1 <;> rfl,rfl,rfl⟩)
   rintro ⟨j,o2⟩ ⟨hj,ho2,hz2⟩
   have ho2 : lst ((Fs.take k).flatten++fs.take j)=ofO o2:=ho2
   refine By rfl (fun h=>?_) fun h=>?_
   · have h : (j : Int)<((P.map dV).length : Nat):=h
     rw [W0h] at h
     obtain ⟨p,hp⟩ : ∃ p,P[j]?=some p:=⟨_,W0c (by omega)⟩
     obtain ⟨f,hf⟩ : ∃ f,fs[j]?=some f:=⟨_,W0c (by omega)⟩
     obtain ⟨⟨x',y',n1,n2,n3,n4⟩,m1,m2,m3⟩:=hPf j p f hp hf
     have hst : lst ((Fs.take k).flatten++fs.take (j+1))=ofO (some (nxF o2 f)):=by
      rw [W1j,hf,←W2p,Option.toList_some,Xw9,ho2];exact Xzp
     refine Ix j rfl (u:=dV p) (by rw [W0w,hp];rfl) ?_
     refine Dw rfl ?_
     refine Ce rfl n1 ?_
     refine Ce rfl n2 ?_
     refine Lo (fun ((i,_) : Nat × O4)=>[(1,.d (.int .i64 d)),(4,.ptr 4 0),(6,.ptr 6 0),(7,.b o2.isNone),(23,.d (Xh8 l)),(24,.d (.int .i64 (l.map dC).length)),(25,.d (.int .i64 k)),(38,.d (dVs P)),(39,.d (.int .i64 (P.map dV).length)),(40,.d (.int .i64 j)),(54,.lit 2 [dN p.x,dN p.y,dN x',dN y']),(55,.d (.int .i64 4)),(56,.d (.int .i64 i))]) (fun (_,c)=>[(4,.var zBA),(6,.var (arA c))]) (fun (i,c)=>i≤4∧c=part (ofO o2) f i) (fun (i,_)=>4 - i) (0,ofO o2) [] rfl ⟨by decide,rfl⟩ ?_ (by exact ⟨rfl,rfl,by cases o2 <;> rfl,rfl,rfl⟩)
     rintro ⟨i,c4⟩ ⟨hi,hc4⟩
     have hc4 : c4=part (ofO o2) f i:=hc4
     have hi : i=0∨i=1∨i=2∨i=3∨i=4:=by have hi : i≤4:=hi;omega
     rcases hi with rfl | rfl | rfl | rfl | rfl
     · obtain rfl : c4=part (ofO o2) f 0:=hc4
       refine Yes rfl (by decide) ?_
       refine Ix 0 rfl (u:=dN p.x) rfl ?_
       refine Ce rfl m1 ?_
       refine No rfl (by decide) ?_
       cases o2 with
       | none =>
        refine Dw rfl ?_
        refine Yes rfl rfl ?_
        refine Ia 0 rfl (by decide) ?_
        refine Ar (0+1 : Nat) rfl ?_
        exact Bk (0+1,part (ofO none) f (0+1)) [] rfl ⟨by decide,rfl⟩ (by show 4 - (0+1)<4 - 0;decide)
       | some g =>
        refine Dw rfl ?_
        refine No rfl nofun ?_
        refine Ia 0 rfl (by decide) ?_
        refine Ce rfl (Xpv (a:=f.a) (b:=g.a) m3.1 (hz2 g rfl).1) ?_
        refine By rfl (fun h1=>?_) fun h1=>?_
        · have h1 : f.a<g.a:=Yju.1 h1
          refine Ia 0 rfl (by decide) ?_
          refine Ar (0+1 : Nat) rfl ?_
          exact Bk (0+1,⟨some f.a,(ofO (some g)).b,(ofO (some g)).c,(ofO (some g)).e⟩) [] rfl ⟨by decide,by show _=part (f40 g) f 1;simp [part,ofO,f40,nx,O4.nx,Xw7 h1]⟩ (by show 4 - (0+1)<4 - 0;decide)
        · have h1 : ¬ f.a<g.a:=fun e=>h1 (Yju.2 e)
          refine Ar (0+1 : Nat) rfl ?_
          exact Bk (0+1,part (ofO (some g)) f 0) [] rfl ⟨by decide,by show _=part (f40 g) f 1;simp [part,ofO,f40,nx,O4.nx,Xw8 h1]⟩ (by show 4 - (0+1)<4 - 0;decide)
     · obtain rfl : c4=part (ofO o2) f 1:=hc4
       refine Yes rfl (by decide) ?_
       refine Ix 1 rfl (u:=dN p.y) rfl ?_
       refine Ce rfl m2 ?_
       refine No rfl (by decide) ?_
       cases o2 with
       | none =>
        refine Dw rfl ?_
        refine Yes rfl rfl ?_
        refine Ia 1 rfl (by decide) ?_
        refine Ar (1+1 : Nat) rfl ?_
        exact Bk (1+1,part (ofO none) f (1+1)) [] rfl ⟨by decide,rfl⟩ (by show 4 - (1+1)<4 - 1;decide)
       | some g =>
        refine Dw rfl ?_
        refine No rfl nofun ?_
        refine Ia 1 rfl (by decide) ?_
        refine Ce rfl (Xpv (a:=f.b) (b:=g.b) m3.2.1 (hz2 g rfl).2.1) ?_
        refine By rfl (fun h1=>?_) fun h1=>?_
        · have h1 : f.b<g.b:=Yju.1 h1
          refine Ia 1 rfl (by decide) ?_
          refine Ar (1+1 : Nat) rfl ?_
          exact Bk (1+1,⟨nx (ofO (some g)).a f.a,some f.b,(ofO (some g)).c,(ofO (some g)).e⟩) [] rfl ⟨by decide,by show _=part (f40 g) f 2;simp [part,ofO,f40,nx,O4.nx,Xw7 h1]⟩ (by show 4 - (1+1)<4 - 1;decide)
        · have h1 : ¬ f.b<g.b:=fun e=>h1 (Yju.2 e)
          refine Ar (1+1 : Nat) rfl ?_
          exact Bk (1+1,part (ofO (some g)) f 1) [] rfl ⟨by decide,by show _=part (f40 g) f 2;simp [part,ofO,f40,nx,O4.nx,Xw8 h1]⟩ (by show 4 - (1+1)<4 - 1;decide)
     · obtain rfl : c4=part (ofO o2) f 2:=hc4
       refine Yes rfl (by decide) ?_
       refine Ix 2 rfl (u:=dN x') rfl ?_
       refine Ce rfl n3 ?_
       refine No rfl (by decide) ?_
       cases o2 with
       | none =>
        refine Dw rfl ?_
        refine Yes rfl rfl ?_
        refine Ia 2 rfl (by decide) ?_
        refine Ar (2+1 : Nat) rfl ?_
        exact Bk (2+1,part (ofO none) f (2+1)) [] rfl ⟨by decide,rfl⟩ (by show 4 - (2+1)<4 - 2;decide)
       | some g =>
        refine Dw rfl ?_
        refine No rfl nofun ?_
        refine Ia 2 rfl (by decide) ?_
        refine Ce rfl (Xpv (a:=f.c) (b:=g.c) m3.2.2.1 (hz2 g rfl).2.2.1) ?_
        refine By rfl (fun h1=>?_) fun h1=>?_
        · have h1 : f.c<g.c:=Yju.1 h1
          refine Ia 2 rfl (by decide) ?_
          refine Ar (2+1 : Nat) rfl ?_
          exact Bk (2+1,⟨nx (ofO (some g)).a f.a,nx (ofO (some g)).b f.b,some f.c,(ofO (some g)).e⟩) [] rfl ⟨by decide,by show _=part (f40 g) f 3;simp [part,ofO,f40,nx,O4.nx,Xw7 h1]⟩ (by show 4 - (2+1)<4 - 2;decide)
        · have h1 : ¬ f.c<g.c:=fun e=>h1 (Yju.2 e)
          refine Ar (2+1 : Nat) rfl ?_
          exact Bk (2+1,part (ofO (some g)) f 2) [] rfl ⟨by decide,by show _=part (f40 g) f 3;simp [part,ofO,f40,nx,O4.nx,Xw8 h1]⟩ (by show 4 - (2+1)<4 - 2;decide)
     · obtain rfl : c4=part (ofO o2) f 3:=hc4
       refine Yes rfl (by decide) ?_
       refine Ix 3 rfl (u:=dN y') rfl ?_
       refine Ce rfl n4 ?_
       refine No rfl (by decide) ?_
       cases o2 with
       | none =>
        refine Dw rfl ?_
        refine Yes rfl rfl ?_
        refine Ia 3 rfl (by decide) ?_
        refine Ar (3+1 : Nat) rfl ?_
        exact Bk (3+1,part (ofO none) f (3+1)) [] rfl ⟨by decide,rfl⟩ (by show 4 - (3+1)<4 - 3;decide)
       | some g =>
        refine Dw rfl ?_
        refine No rfl nofun ?_
        refine Ia 3 rfl (by decide) ?_
        refine Ce rfl (Xpv (a:=f.e) (b:=g.e) m3.2.2.2 (hz2 g rfl).2.2.2) ?_
        refine By rfl (fun h1=>?_) fun h1=>?_
        · have h1 : f.e<g.e:=Yju.1 h1
          refine Ia 3 rfl (by decide) ?_
          refine Ar (3+1 : Nat) rfl ?_
          exact Bk (3+1,⟨nx (ofO (some g)).a f.a,nx (ofO (some g)).b f.b,nx (ofO (some g)).c f.c,some f.e⟩) [] rfl ⟨by decide,by show _=part (f40 g) f 4;simp [part,ofO,f40,nx,O4.nx,Xw7 h1]⟩ (by show 4 - (3+1)<4 - 3;decide)
        · have h1 : ¬ f.e<g.e:=fun e=>h1 (Yju.2 e)
          refine Ar (3+1 : Nat) rfl ?_
          exact Bk (3+1,part (ofO (some g)) f 3) [] rfl ⟨by decide,by show _=part (f40 g) f 4;simp [part,ofO,f40,nx,O4.nx,Xw8 h1]⟩ (by show 4 - (3+1)<4 - 3;decide)
     · obtain rfl : c4=(ofO o2).nx f:=hc4
       refine No rfl (by decide) ?_
       refine Ar (j+1 : Nat) rfl ?_
       exact Bk (j+1,some (nxF o2 f)) [] rfl ⟨by omega,hst,fun g hg=>by cases hg;exact BdZ.nx hz2 m3⟩ (by show fs.length - (j+1)<fs.length - j;omega) (by exact ⟨rfl,by rw [Xzp];rfl,rfl,rfl,rfl⟩)
   · have h : ¬ (j : Int)<((P.map dV).length : Nat):=h
     rw [W0h] at h
     have hjf : fs.take j=fs:=W0b (by omega)
     refine Ar (k+1 : Nat) rfl ?_
     exact Bk (k+1,o2) [] rfl ⟨by omega,by rw [hnext,←hjf];exact ho2,hz2⟩ (by show l.length - (k+1)<l.length - k;omega) (by exact ⟨rfl,rfl,by cases o2 <;> rfl,rfl,rfl⟩)
 · have h : ¬ (k : Int)<((l.map dC).length : Nat):=h
   rw [lC] at h
   rw [W0b (by omega),ho] at ho1
   cases o1 with
   | none=>cases ho1
   | some g =>
    have hg : f40 o=f40 g:=ho1
    obtain rfl : o=g:=by cases o;cases g;simp only [f40,O4.mk.injEq,Option.some.injEq] at hg;obtain ⟨rfl,rfl,rfl,rfl⟩:=hg;rfl
    obtain ⟨z1,z2,z3,z4⟩:=hz1 o rfl
    refine Dw rfl ?_
    refine Ia 0 rfl (by decide) ?_
    refine Ce rfl (Xev z1 hd) ?_
    refine Ia 1 rfl (by decide) ?_
    refine Ce rfl (Xev z2 hd) ?_
    refine Ia 2 rfl (by decide) ?_
    refine Ce rfl (Neg_ok (z:=o.c) (W0j z3 (by decide))) ?_
    refine Ce rfl (Xev z3.neg hd) ?_
    refine Ia 3 rfl (by decide) ?_
    refine Ce rfl (Neg_ok (z:=o.e) (W0j z4 (by decide))) ?_
    refine Ce rfl (Xev z4.neg hd) ?_
    exact R0t
end
end Go.Proofs.YtdlhdemfnfpboaaGreatDoor.P55
namespace Go.Proofs.YtdlhdemfnfpboaaGreatDoor.P11
open Go Go.Vm Go.Num Go.Tow Go.Proofs.YtdlhdemfnfpboaaGreatDoor Go.Proofs.YtdlhdemfnfpboaaGreatDoor.P9 Go.Proofs.YtdlhdemfnfpboaaGreatDoor.R11
end Go.Proofs.YtdlhdemfnfpboaaGreatDoor.P11
namespace Go.Proofs.YtdlhdemfnfpboaaGreatDoor.R3
open Go Go.Vm Go.Num Go.Tow Go.Proofs.YtdlhdemfnfpboaaGreatDoor
section
variable {x : Rat} {s b : Nat}
end
section
variable {p q : Rat × Rat} {s t b : Nat}
end
end Go.Proofs.YtdlhdemfnfpboaaGreatDoor.R3
namespace Go.Proofs.YtdlhdemfnfpboaaGreatDoor.R7
open Go Go.Vm Go.Num Go.Tow Go.Proofs.YtdlhdemfnfpboaaGreatDoor
end Go.Proofs.YtdlhdemfnfpboaaGreatDoor.R7
namespace Go.Vm
open Go
section
variable {c : Cx} {s : St}
end
end Go.Vm
namespace Go.Proofs.YtdlhdemfnfpboaaGreatDoor.R11
open Go Go.Vm Go.Num Go.Tow Go.Proofs.YtdlhdemfnfpboaaGreatDoor Go.Proofs.YtdlhdemfnfpboaaGreatDoor.P11
end Go.Proofs.YtdlhdemfnfpboaaGreatDoor.R11
namespace Go.Proofs.YtdlhdemfnfpboaaGreatDoor.P11
open Go Go.Vm Go.Num Go.Tow Go.Proofs.YtdlhdemfnfpboaaGreatDoor Go.Proofs.YtdlhdemfnfpboaaGreatDoor.P9 Go.Proofs.YtdlhdemfnfpboaaGreatDoor.R11 Go.Proofs.YtdlhdemfnfpboaaGreatDoor.R9
section
theorem Pk_rat {q : Rat} {n : Nat} (hq : Qs n q) (hn : n≤1700) : Pk ⟨0,(),q⟩ :=
 ⟨W0y _,trivial,trivial,trivial,.inr ⟨rfl,fun x hx=>by obtain rfl:=W0g.1 hx;exact hq.mono hn⟩⟩
abbrev two : Nm:=⟨0,(),(2 : Rat)⟩
end
section
section
variable {k : Nat} {t : Tw k} {a : El k}
end
theorem txt_at {d : Nat} (l : List UInt8) (hl : l.length=d+1) (hd : ∀ b∈l,Xh6 b) : txt (Xbx l : Nat) d=pt d l:=by
 unfold txt
 rw [if_neg (by omega),W1r,Yct d l hl hd];rfl
theorem rnd_at {q : Rat} {d : Nat} {z : Int} (h1 : 0≤Xh0 (q*((10 ^ d : Int) : Rat)+hf+-(z : Rat))) (h2 : Xh0 (q*((10 ^ d : Int) : Rat)+hf+-((z+1 : Int) : Rat))=-1) : RndOf ⟨0,(),q⟩ d z:=⟨h1,h2⟩
end
end Go.Proofs.YtdlhdemfnfpboaaGreatDoor.P11
namespace Go.Proofs.YtdlhdemfnfpboaaGreatDoor
open Go Go.Vm Go.Num Go.Tow
namespace P47
theorem Valid_arc {K : Nat} {G : Tw K} {S : List (Tow.El K)} {N : List Nm} {n m k : Nat} {p q r : V2 K} {c : Cv} (W : Wn G S N) (ha : c.arc=true) (hu : Gv G S N n c.C p) (hs : Gv G S N m c.A q) (ht : Gv G S N k c.B r) (hx : P19.Trm c.C.x) (hy : P19.Trm c.C.y) (h2 : n+m+(n+m)+(n+m+(n+m))≤190) (h3 : n+k+(n+k)+(n+k+(n+k))≤190) (hp : p≠q) (hr : p≠r) : C0 43 [.d (dC c)] (·=.b (dc (Xv4 G (Xic q p) (Xic q p)=Xv4 G (Xic r p) (Xic r p)))):=by
 obtain ⟨_,A,B,C,cw⟩:=c
 obtain rfl : _=true:=ha
 refine En Tryz.func43 fun _ _ _=>?_
 refine No rfl (fun h=>h rfl) ?_
 refine Ca rfl (P15.Around_g W hu hs hx hy (by omega) hp) fun v hv=>?_
 obtain ⟨z,rfl,hz⟩:=hv
 refine Ca rfl (P15.Around_g W hu ht hx hy (by omega) hr) fun v hv=>?_
 obtain ⟨w,rfl,hw⟩:=hv
 refine Yes rfl (by decide) ?_
 refine Yes rfl (by decide) ?_
 refine Ce rfl (P9.Equal_g W hz hw h2 h3) ?_
 exact R0
theorem On_full {c : Cv} {z : Nm} {x : Vn} (ha : c.arc=true) (h1 : C0 113 [.d (dC c)] (·=.tup (.pr (.d (P15.dK c.C z)) (.d (.int .i64 0))))) (h2 : C0 114 [.d (P15.dK c.C z),.d (dV x)] (·=.tup (.pr (.d (.int .i64 0)) (.d (.int .i64 0))))) (h3 : C0 115 [.d (dC c)] (·=.b true)) : C0 64 [.d (dC c),.d (dV x)] (·=.b true):=by
 obtain ⟨_,A,B,C,cw⟩:=c
 obtain rfl : _=true:=ha
 refine En Tryz.func64 fun _ _ _=>?_
 refine No rfl (fun h=>h rfl) ?_
 refine Ce rfl h1 ?_
 refine No rfl (by decide) ?_
 refine Ce rfl h2 ?_
 refine No rfl (by decide) ?_
 refine No rfl (by decide) ?_
 refine Ce rfl h3 ?_
 refine Yes rfl rfl ?_
 exact R0
end P47
namespace P55
theorem Ylf {p q r : Rat × Rat} (hp : Qp 64 p) (hq : Qp 64 q) (h : Yaq (K:=0) p q=r) : C0 51 [.d (dV (v0 p)),.d (dV (v0 q))] (·=.tup (.pr (.d (dV (v0 r))) (.d (.int .i64 0)))):=(P13.Add_g W0 (gv0 hp) (gv0 hq) (by decide) (by decide)).mono fun v ⟨z,e,hz⟩=>by rw [e,Yf3 hz,h]
theorem Yl9 {p q r : Rat × Rat} (hp : Qp 64 p) (hq : Qp 64 q) (h : Xic (K:=0) p q=r) : C0 50 [.d (dV (v0 p)),.d (dV (v0 q))] (·=.tup (.pr (.d (dV (v0 r))) (.d (.int .i64 0)))):=(P13.Sub_g W0 (gv0 hp) (gv0 hq) (by decide) (by decide)).mono fun v ⟨z,e,hz⟩=>by rw [e,Yf3 hz,h]
theorem Xvq {p q : Rat × Rat} {b : Bool} (hp : Qp 64 p) (hq : Qp 64 q) (h : dc (p=q)=b) : C0 44 [.d (dV (v0 p)),.d (dV (v0 q))] (·=.b b):=(P13.Equal_g W0 (gv0 hp) (gv0 hq) (by decide) (by decide)).mono fun v e=>e.trans (congrArg AV.b h)
theorem Yh8 {q s : Rat} (hq : Qs 64 q) (h : -q=s) : C0 31 [.d (dN (nr q))] (·=.d (dN (nr s))):=(P9.Neg_g W0 (g0 hq) (by decide)).mono fun v ⟨z,e,hz⟩=>by rw [e,zw hz.o,←h];rfl
theorem Xt8 {q : Rat} {d : Nat} {z : Int} (hq : Qs 64 q) (hd : d≤60) (h1 : 0≤Xh0 (q*((10 ^ d : Int) : Rat)+((0 : Int) : Rat)+-(z : Rat))) (h2 : Xh0 (q*((10 ^ d : Int) : Rat)+((0 : Int) : Rat)+-((z+1 : Int) : Rat))=-1) : C0 32 [.d (dN (nr q)),.d (.int .i64 d)] (·=.tup (.pr (.d (dz z)) (.d (.int .i64 0)))) :=
 (P11.Floor_ok (P11.Pk_rat hq (by decide)) hd).mono fun v ⟨w,e,hw,_⟩=>by
  obtain rfl:=Xb4.uniq (k:=0) (t:=()) trivial hw (show Xb4 0 () _ z from ⟨h1,h2⟩)
  exact e
theorem Xq0 {x : Nm} {d : Nat} {z : Int} {s : List UInt8} (H : P11.Pk x) (hd : d≤60) (hz : P11.RndOf x d z) (ht : txt z d=s) (hs : s.length≤400) : C0 26 [.d (dN x),.d (.int .i64 d)] (·=.tup (.pr (.d (.str s)) (.d (.int .i64 0)))) :=
 (P11.dFmt_ok H hd).mono fun v ⟨w,hw,_,hv⟩=>by
  obtain rfl:=Xb4.uniq H.re hw hz
  subst ht
  rw [hv,P11.fmtV,if_pos hs]
theorem dg : ∀ l : List UInt8,l.all isD=true→∀ b∈l,Xh6 b:=fun l h=>Ylc.1 h
abbrev i0 : Rat:=((0 : Int) : Rat)
abbrev i1 : Rat:=((1 : Int) : Rat)
abbrev i2 : Rat:=((2 : Int) : Rat)
abbrev im : Rat:=((-1 : Int) : Rat)
theorem Pki {q : Rat} (h : Qs 64 q) : P11.Pk ⟨0,(),q⟩:=P11.Pk_rat h (by decide)
theorem q0 : Qs 64 i0:=by decide +kernel
theorem q1 : Qs 64 i1:=by decide +kernel
theorem q2 : Qs 64 i2:=by decide +kernel
theorem qm : Qs 64 im:=by decide +kernel
theorem f01 : C0 26 [.d (dN (nr i0)),.d (.int .i64 1)] (·=.tup (.pr (.d (.str [48,46,48])) (.d (.int .i64 0)))):=Xq0 (d:=1) (z:=0) (s:=[48,46,48]) (Pki q0) (by decide) (P11.rnd_at (by decide +kernel) (by decide +kernel)) (P11.txt_at [48,48] rfl (dg _ rfl)) (by decide)
theorem f11 : C0 26 [.d (dN (nr i1)),.d (.int .i64 1)] (·=.tup (.pr (.d (.str [49,46,48])) (.d (.int .i64 0)))):=Xq0 (d:=1) (z:=10) (s:=[49,46,48]) (Pki q1) (by decide) (P11.rnd_at (by decide +kernel) (by decide +kernel)) (P11.txt_at [49,48] rfl (dg _ rfl)) (by decide)
theorem f21 : C0 26 [.d (dN (nr i2)),.d (.int .i64 1)] (·=.tup (.pr (.d (.str [50,46,48])) (.d (.int .i64 0)))):=Xq0 (d:=1) (z:=20) (s:=[50,46,48]) (Pki q2) (by decide) (P11.rnd_at (by decide +kernel) (by decide +kernel)) (P11.txt_at [50,48] rfl (dg _ rfl)) (by decide)
theorem f00 : C0 26 [.d (dN (nr i0)),.d (.int .i64 0)] (·=.tup (.pr (.d (.str [48])) (.d (.int .i64 0)))):=Xq0 (d:=0) (z:=0) (s:=[48]) (Pki q0) (by decide) (P11.rnd_at (by decide +kernel) (by decide +kernel)) (P11.txt_at [48] rfl (dg _ rfl)) (by decide)
theorem f10 : C0 26 [.d (dN (nr i1)),.d (.int .i64 0)] (·=.tup (.pr (.d (.str [49])) (.d (.int .i64 0)))):=Xq0 (d:=0) (z:=1) (s:=[49]) (Pki q1) (by decide) (P11.rnd_at (by decide +kernel) (by decide +kernel)) (P11.txt_at [49] rfl (dg _ rfl)) (by decide)
theorem fm0 : C0 26 [.d (dN (nr im)),.d (.int .i64 0)] (·=.tup (.pr (.d (.str [45,49])) (.d (.int .i64 0)))):=Xq0 (d:=0) (z:=-1) (s:=[45,49]) (Pki qm) (by decide) (P11.rnd_at (by decide +kernel) (by decide +kernel)) (by unfold txt;rw [if_pos (by decide),show (-1 : Int).natAbs=1 from rfl,Xc4 (show 1<10 by decide)];rfl) (by decide)
abbrev sg : Cv:=⟨false,v0 (i0,i0),v0 (i1,i2),v0 (i0,i0),false⟩
abbrev wh : Cv:=⟨true,v0 (i1,i0),v0 (i1,i0),v0 (i0,i0),false⟩
theorem Ydq {α : Type} {x y : α} {i : Nat} (h : [x][i]?=some y) : i=0∧x=y:=by
 cases i with
 | zero=>exact ⟨rfl,by simpa using h⟩
 | succ i=>simp at h
theorem Ydm : C0 8 [.d (Xh8 [sg]),.d (.int .i64 1)] (·=.tup (.pr (.d (.str [77,32,48,46,48,32,48,46,48,32,76,32,49,46,48,32,50,46,48])) (.d (.int .i64 0)))):=by
 have hV : C0 43 [.d (dC sg)] (·=.b true):=(P47.Valid_seg (K:=0) (G:=()) (S:=[]) (N:=[]) (n:=1) (m:=1) (c:=sg) (p:=(i0,i0)) (q:=(i1,i2)) W0 rfl (gv0 ⟨q0,q0⟩) (gv0 ⟨q1,q2⟩) (by decide) (by decide)).mono fun v e=>by rw [e];exact congrArg AV.b (Xaw.2 (by decide +kernel))
 have hp:=Xlb (l:=[sg]) (by decide) (by decide) (fun c hc=>by obtain rfl:=W0g.1 hc;exact hV) (fun i c d _ h=>by simp at h)
 have hw:=Xcl (c0:=sg) (d0:=sg) (l:=[sg]) (Z:=[Yen sg.B]) (cl:=false) rfl rfl (by decide) rfl (fun i c w h1 h2=>by
  obtain ⟨rfl,rfl⟩:=Ydq h1
  obtain ⟨_,rfl⟩:=Ydq h2
  exact .seg rfl) (Xvq ⟨q0,q0⟩ ⟨q1,q2⟩ (P11.dcF (by decide +kernel)))
 exact Xvo (l:=[sg]) (d:=1) (T:=[[77],[48,46,48],[48,46,48],[76],[49,46,48],[50,46,48]]) (by decide) hp hw (by decide) rfl (fun i w t h1 h2=>by
  match i,h1,h2 with
  | 0,h1,h2=>cases h1;cases h2;rfl
  | 1,h1,h2=>cases h1;cases h2;exact f01
  | 2,h1,h2=>cases h1;cases h2;exact f01
  | 3,h1,h2=>cases h1;cases h2;rfl
  | 4,h1,h2=>cases h1;cases h2;exact f11
  | 5,h1,h2=>cases h1;cases h2;exact f21
  | i+6,h1,h2=>cases h1) (by decide)
theorem Xqk : C0 43 [.d (dC wh)] (·=.b true):=(P47.Valid_arc (K:=0) (G:=()) (S:=[]) (N:=[]) (n:=1) (m:=1) (k:=1) (c:=wh) (p:=(i0,i0)) (q:=(i1,i0)) (r:=(i1,i0)) W0 rfl (gv0 ⟨q0,q0⟩) (gv0 ⟨q1,q0⟩) (gv0 ⟨q1,q0⟩) (Xd9 q0) (Xd9 q0) (by decide) (by decide) (by decide +kernel) (by decide +kernel)).mono fun v e=>by rw [e];exact congrArg AV.b (Xaw.2 rfl)
theorem Yef (y : Rat) (h1 : y*y=i1) (h2 : 0≤Xh0 y) : y=i1:=by
 have e0 : i1=1:=rfl
 have e1 : (y - 1)*(y+1)=0:=by rw [e0] at h1;grind
 rcases Rat.mul_eq_zero.1 e1 with e | e
 · rw [e0];grind
 · exfalso
   have : y<0:=by grind
   rw [Xc8 this] at h2
   omega
theorem Xkz : C0 47 [.d (dC wh)] (·=.tup (.pr (.d (dN (nr i1))) (.d (.int .i64 0)))):=by
 have hd : d2 (i1,i0) (i0,i0)=i1:=by decide +kernel
 have h:=Xwt (c:=wh) (p:=(i0,i0)) (q:=(i1,i0)) rfl rfl ⟨q0,q0⟩ ⟨q1,q0⟩ (by decide +kernel) (by rw [hd];exact q1.mono (by decide)) (by rw [hd];decide +kernel)
 rw [hd] at h
 refine h.mono fun v hv=>?_
 obtain ⟨z,rfl,hz⟩:=hv
 rcases hz with ⟨y,rfl,h1,h2⟩ | ⟨_,_,h2⟩
 · have hy : y=i1:=Yef y h1 h2
   rw [hy]
 · exact absurd ⟨(i1 : Tow.El 0),by show i1*i1=i1;decide +kernel⟩ h2
theorem Xv1 : C0 25 [.d (Xh8 [wh])] (·=.tup (.pr (.d (dWs (hdW wh++[Xfa (nr i1) false true (v0 (im,i0))++Xfa (nr i1) false true wh.B].flatten++[.mk [90]]))) (.d (.int .i64 0)))) :=
 Xcl (c0:=wh) (d0:=wh) (l:=[wh]) (cl:=true) rfl rfl (by decide) rfl (fun i c w h1 h2=>by
  obtain ⟨rfl,rfl⟩:=Ydq h1
  obtain ⟨_,rfl⟩:=Ydq h2
  exact .full (c:=wh) (w:=v0 (im,i0)) rfl Xkz (Xvq ⟨q1,q0⟩ ⟨q1,q0⟩ (P11.dcT rfl)) (Yl9 (r:=(im,i0)) ⟨q0,q0⟩ ⟨q1,q0⟩ (W4e (show i0+-i1=im by decide +kernel) (show i0+-i0=i0 by decide +kernel))) (Ylf (r:=(im,i0)) ⟨q0,q0⟩ ⟨qm,q0⟩ (W4e (show i0+im=im by decide +kernel) (show i0+i0=i0 by decide +kernel)))) (Xvq ⟨q1,q0⟩ ⟨q1,q0⟩ (P11.dcT rfl))
theorem Ydl : C0 8 [.d (Xh8 [wh]),.d (.int .i64 0)] (·=.tup (.pr (.d (.str [77,32,49,32,48,32,65,32,49,32,49,32,48,32,48,32,49,32,45,49,32,48,32,65,32,49,32,49,32,48,32,48,32,49,32,49,32,48,32,90])) (.d (.int .i64 0)))):=by
 have hp:=Xlb (l:=[wh]) (by decide) (by decide) (fun c hc=>by obtain rfl:=W0g.1 hc;exact Xqk) (fun i c d _ h=>by simp at h)
 exact Xvo (l:=[wh]) (d:=0) (T:=[[77],[49],[48],[65],[49],[49],[48],[48],[49],[45,49],[48],[65],[49],[49],[48],[48],[49],[49],[48],[90]]) (by decide) hp Xv1 (by decide) rfl (fun i w t h1 h2=>by
  match i,h1,h2 with
  | 0,h1,h2=>cases h1;cases h2;rfl
  | 1,h1,h2=>cases h1;cases h2;exact f10
  | 2,h1,h2=>cases h1;cases h2;exact f00
  | 3,h1,h2=>cases h1;cases h2;rfl
  | 4,h1,h2=>cases h1;cases h2;exact f10
  | 5,h1,h2=>cases h1;cases h2;exact f10
  | 6,h1,h2=>cases h1;cases h2;rfl
  | 7,h1,h2=>cases h1;cases h2;rfl
  | 8,h1,h2=>cases h1;cases h2;rfl
  | 9,h1,h2=>cases h1;cases h2;exact fm0
  | 10,h1,h2=>cases h1;cases h2;exact f00
  | 11,h1,h2=>cases h1;cases h2;rfl
  | 12,h1,h2=>cases h1;cases h2;exact f10
  | 13,h1,h2=>cases h1;cases h2;exact f10
  | 14,h1,h2=>cases h1;cases h2;rfl
  | 15,h1,h2=>cases h1;cases h2;rfl
  | 16,h1,h2=>cases h1;cases h2;rfl
  | 17,h1,h2=>cases h1;cases h2;exact f10
  | 18,h1,h2=>cases h1;cases h2;exact f00
  | 19,h1,h2=>cases h1;cases h2;rfl
  | i+20,h1,h2=>cases h1) (by decide)
theorem Xyq {p q r : Rat × Rat} (hp : Qp 64 p) (hq : Qp 64 q) (h1 : p.1+q.1=r.1) (h2 : p.2+q.2=r.2) : C0 51 [.d (dV (v0 p)),.d (dV (v0 q))] (·=.tup (.pr (.d (dV (v0 r))) (.d (.int .i64 0)))):=Ylf hp hq (W4e h1 h2)
theorem Xym {p : Rat × Rat} (hp : Qp 64 p) (h : (p.1+-i0)*(p.1+-i0)+(p.2+-i0)*(p.2+-i0)=i1) : C0 64 [.d (dC wh),.d (dV (v0 p))] (·=.b true):=by
 have hd : d2 (i1,i0) (i0,i0)=i1:=by decide +kernel
 have hz1 : Gd (K:=0) () ([] : List (Tow.El 0)) [] 8 (nr i1) i1:=(g0 q1).mono (by decide)
 refine P47.On_full (z:=nr i1) rfl ?_ ?_ ?_
 · refine (P47.around_g (c:=wh) (K:=0) (G:=()) (S:=[]) (N:=[]) (n:=1) (m:=1) (p:=(i0,i0)) (q:=(i1,i0)) W0 (gv0 ⟨q0,q0⟩) (gv0 ⟨q1,q0⟩) (Xd9 q0) (Xd9 q0) (by decide) (by decide +kernel)).mono fun v hv=>?_
   obtain ⟨z,rfl,hz⟩:=hv
   have hz2 : z=nr (d2 (i1,i0) (i0,i0)):=zw hz.o
   rw [hd] at hz2
   rw [hz2]
 · refine (P15.Side_g (K:=0) (G:=()) (S:=[]) (N:=[]) (n:=1) (m:=1) (k:=8) (p:=(i0,i0)) (q:=p) W0 (gv0 (p:=(i0,i0)) ⟨q0,q0⟩) hz1 (gv0 hp) (by decide) (by decide)).mono fun v hv=>?_
   rw [hv]
   have e : Xh0 (((p.1+-i0)*(p.1+-i0)+(p.2+-i0)*(p.2+-i0))+-i1)=0:=by rw [h];decide +kernel
   have e2 : sgn 0 () (Tow.add 0 (Xv4 (K:=0) () (Xic (K:=0) p (i0,i0)) (Xic (K:=0) p (i0,i0))) (Tow.neg 0 (i1 : Tow.El 0)))=0:=e
   rw [e2]
 · exact (P47.full_g (c:=wh) (K:=0) (G:=()) (S:=[]) (N:=[]) (n:=1) (m:=1) (p:=(i1,i0)) (q:=(i1,i0)) W0 rfl (gv0 ⟨q1,q0⟩) (gv0 ⟨q1,q0⟩) (by decide) (by decide)).mono fun v e=>e.trans (congrArg AV.b (Xaw.2 rfl))
theorem Ygf : C0 30 [.d (dC wh)] (·=.tup (.pr (.d (dVs [v0 (i1,i0),v0 (i1,i0),v0 (i1,i0),v0 (i0,i1),v0 (im,i0),v0 (i0,im)])) (.d (.int .i64 0)))) :=
 Xln (c:=wh) (r:=nr i1) (m:=nr im) (X:=[v0 (i1,i0),v0 (i0,i1),v0 (im,i0),v0 (i0,im)]) (B:=[true,true,true,true]) rfl Xkz (Yh8 q1 (by decide +kernel)) rfl rfl (fun i d x b h1 h2 h3=>by
  match i,h1,h2,h3 with
  | 0,h1,h2,h3=>cases h1;cases h2;cases h3;exact ⟨Xyq (p:=(i0,i0)) (q:=(i1,i0)) (r:=(i1,i0)) ⟨q0,q0⟩ ⟨q1,q0⟩ (by decide +kernel) (by decide +kernel),Xym (p:=(i1,i0)) ⟨q1,q0⟩ (by decide +kernel)⟩
  | 1,h1,h2,h3=>cases h1;cases h2;cases h3;exact ⟨Xyq (p:=(i0,i0)) (q:=(i0,i1)) (r:=(i0,i1)) ⟨q0,q0⟩ ⟨q0,q1⟩ (by decide +kernel) (by decide +kernel),Xym (p:=(i0,i1)) ⟨q0,q1⟩ (by decide +kernel)⟩
  | 2,h1,h2,h3=>cases h1;cases h2;cases h3;exact ⟨Xyq (p:=(i0,i0)) (q:=(im,i0)) (r:=(im,i0)) ⟨q0,q0⟩ ⟨qm,q0⟩ (by decide +kernel) (by decide +kernel),Xym (p:=(im,i0)) ⟨qm,q0⟩ (by decide +kernel)⟩
  | 3,h1,h2,h3=>cases h1;cases h2;cases h3;exact ⟨Xyq (p:=(i0,i0)) (q:=(i0,im)) (r:=(i0,im)) ⟨q0,q0⟩ ⟨q0,qm⟩ (by decide +kernel) (by decide +kernel),Xym (p:=(i0,im)) ⟨q0,qm⟩ (by decide +kernel)⟩
  | i+4,h1,_,_=>cases h1)
theorem l0 : C0 32 [.d (dN (nr i0)),.d (.int .i64 (0 : Nat))] (·=.tup (.pr (.d (dz 0)) (.d (.int .i64 0)))):=Xt8 q0 (by decide) (by decide +kernel) (by decide +kernel)
theorem l1 : C0 32 [.d (dN (nr i1)),.d (.int .i64 (0 : Nat))] (·=.tup (.pr (.d (dz 1)) (.d (.int .i64 0)))):=Xt8 q1 (by decide) (by decide +kernel) (by decide +kernel)
theorem lm : C0 32 [.d (dN (nr im)),.d (.int .i64 (0 : Nat))] (·=.tup (.pr (.d (dz (-1))) (.d (.int .i64 0)))):=Xt8 qm (by decide) (by decide +kernel) (by decide +kernel)
theorem n0 : C0 31 [.d (dN (nr i0))] (·=.d (dN (nr i0))):=Yh8 q0 (by decide +kernel)
theorem n1 : C0 31 [.d (dN (nr i1))] (·=.d (dN (nr im))):=Yh8 q1 (by decide +kernel)
theorem nm : C0 31 [.d (dN (nr im))] (·=.d (dN (nr i1))):=Yh8 qm (by decide +kernel)
theorem zb (z : Int) (h : z.natAbs<4294967296) : Zb z:=W0j (Xao (k:=1) (by rw [Nat.pow_one];exact h)) (by decide)
theorem zs4 (a b c e : Int) (ha : a.natAbs<4294967296) (hb : b.natAbs<4294967296) (hc : c.natAbs<4294967296) (he : e.natAbs<4294967296) : Zb a∧Zb b∧Zb c∧Zb e:=⟨zb a ha,zb b hb,zb c hc,zb e he⟩
theorem p10 : PtF (0 : Nat) (v0 (i1,i0)) ⟨1,0,-1,0⟩:=⟨⟨_,_,n1,n0,lm,l0⟩,l1,l0,zs4 _ _ _ _ (by decide) (by decide) (by decide) (by decide)⟩
theorem p01 : PtF (0 : Nat) (v0 (i0,i1)) ⟨0,1,0,-1⟩:=⟨⟨_,_,n0,n1,l0,lm⟩,l0,l1,zs4 _ _ _ _ (by decide) (by decide) (by decide) (by decide)⟩
theorem pm0 : PtF (0 : Nat) (v0 (im,i0)) ⟨-1,0,1,0⟩:=⟨⟨_,_,nm,n0,l1,l0⟩,lm,l0,zs4 _ _ _ _ (by decide) (by decide) (by decide) (by decide)⟩
theorem p0m : PtF (0 : Nat) (v0 (i0,im)) ⟨0,-1,0,1⟩:=⟨⟨_,_,n0,nm,l0,l1⟩,l0,lm,zs4 _ _ _ _ (by decide) (by decide) (by decide) (by decide)⟩
abbrev fwh : List F4:=[⟨1,0,-1,0⟩,⟨1,0,-1,0⟩,⟨1,0,-1,0⟩,⟨0,1,0,-1⟩,⟨-1,0,1,0⟩,⟨0,-1,0,1⟩]
theorem Yjt : CuF (0 : Nat) wh fwh:=⟨_,Ygf,rfl,by decide,fun i p f h1 h2=>by
 match i,h1,h2 with
 | 0,h1,h2=>cases h1;cases h2;exact p10
 | 1,h1,h2=>cases h1;cases h2;exact p10
 | 2,h1,h2=>cases h1;cases h2;exact p10
 | 3,h1,h2=>cases h1;cases h2;exact p01
 | 4,h1,h2=>cases h1;cases h2;exact pm0
 | 5,h1,h2=>cases h1;cases h2;exact p0m
 | i+6,h1,h2=>cases h1⟩
theorem Xvu : C0 10 [.d (Xh8 [wh]),.d (.int .i64 (0 : Nat))] (·=.tup (.pr (.d (Yj2 ⟨-1,-1,-1,-1⟩ 0)) (.d (.int .i64 0)))) :=
 Xvv (l:=[wh]) (Fs:=[fwh]) (d:=0) (by decide) (by decide) (by decide) (fun c hc=>by obtain rfl:=W0g.1 hc;exact Xqk) rfl (fun i c fs h1 h2=>by
  obtain ⟨rfl,rfl⟩:=Ydq h1
  obtain ⟨_,rfl⟩:=Ydq h2
  exact Yjt) rfl
theorem Yhn {x y : Rat} (hx : Qs 200 x) : C0 23 [.d (dq x),.d (dq y)] (·=.b (dc (x=y))):=by
 have h1:=hx.n.len (by decide)
 have h2:=hx.d.len (by decide)
 refine En Tryz.func23 fun _ _ _=>?_
 refine Ce rfl (R2.SameInt_ok (z:=x.num) (w:=y.num) (by omega)) ?_
 refine By rfl (fun h=>?_) fun h=>?_
 · refine Ce rfl (R2.SameInt_ok (z:=(x.den : Int)) (w:=(y.den : Int)) (by omega)) ?_
   exact R1 rfl (.bp (Xaw.trans ⟨fun h3=>Rat.ext h (by omega),fun e=>by rw [e]⟩))
 · exact R1 rfl (.bp ⟨nofun,fun e=>absurd (by rw [e]) h⟩)
abbrev dB4 (a b c e : Rat) : D:=.st (.pr (dq a) (.pr (dq b) (.pr (dq c) (dq e))))
theorem Xrb {a b c e : Rat} (ha : Qs 200 a) (hb : Qs 200 b) (hc : Qs 200 c) (he : Qs 200 e) : C0 13 [.d (dB4 a b c e),.d (dB4 a b c e)] (·=.b true):=by
 have s : ∀ {x : Rat},Qs 200 x→C0 23 [.d (dq x),.d (dq x)] (·=.b true):=fun hx=>(Yhn hx).mono fun v e=>e.trans (congrArg AV.b (Xaw.2 rfl))
 refine En Tryz.func13 fun _ _ _=>?_
 refine Ce rfl (s ha) ?_
 refine Yes rfl rfl ?_
 refine Ce rfl (s hb) ?_
 refine Yes rfl rfl ?_
 refine Ce rfl (s hc) ?_
 refine Yes rfl rfl ?_
 refine Ce rfl (s he) ?_
 exact R0
theorem Xfo {i j : Int} (hi : -9223372036854775808≤i∧i<9223372036854775808) (hj : -9223372036854775808≤j∧j<9223372036854775808) : C0 9 [.d (.int .i64 i),.d (.int .i64 j)] (·=.d (dV (v0 ((i : Rat),(j : Rat))))):=by
 refine En Tryz.func9 fun _ _ _=>?_
 refine Ce rfl (R13.Whole_ok hi hj) ?_
 exact R0
theorem Xqi {i : Int} (hi : -9223372036854775808≤i∧i<9223372036854775808) : C0 11 [.d (.int .i64 i)] (·=.d (dq (i : Rat))):=by
 refine En Tryz.func11 fun _ _ _=>?_
 refine Ce rfl (R2.FromInt_ok hi) ?_
 exact R0
theorem Xyb {a b c e : Rat} : C0 14 [.d (dB4 a b c e)] (·=.d (dB4 a b c e)):=by
 refine En Tryz.func14 fun _ _ _=>?_
 exact R0
theorem Yc3 : Yj2 ⟨-1,-1,-1,-1⟩ 0=dB4 im im i1 i1:=by
 show dB4 (qb (-1) 0) (qb (-1) 0) (qb (- -1) 0) (qb (- -1) 0)=_
 rw [show qb (-1) 0=im by decide +kernel,show qb (- -1) 0=i1 by decide +kernel]
theorem aw55_ok : C0 4 [] (·=.b true):=by
 have hB:=Xvu
 rw [Yc3] at hB
 refine En Tryz.func4 fun _ _ _=>?_
 refine Ce rfl (Xfo (i:=0) (j:=0) (by decide) (by decide)) ?_
 refine Ce rfl (Xfo (i:=1) (j:=2) (by decide) (by decide)) ?_
 refine Ce rfl (Xfo (i:=0) (j:=0) (by decide) (by decide)) ?_
 refine Ce rfl Ydm ?_
 refine Ce rfl (Xfo (i:=1) (j:=0) (by decide) (by decide)) ?_
 refine Ce rfl (Xfo (i:=1) (j:=0) (by decide) (by decide)) ?_
 refine Ce rfl (Xfo (i:=0) (j:=0) (by decide) (by decide)) ?_
 refine Ce rfl Ydl ?_
 refine Ce rfl hB ?_
 refine Yes rfl (by decide) ?_
 refine Yes rfl (by decide) ?_
 refine Yes rfl (by decide) ?_
 refine Yes rfl rfl ?_
 refine Yes rfl rfl ?_
 refine Ce rfl Xyb ?_
 refine Ce rfl (Xqi (i:=-1) (by decide)) ?_
 refine Ce rfl (Xqi (i:=-1) (by decide)) ?_
 refine Ce rfl (Xqi (i:=1) (by decide)) ?_
 refine Ce rfl (Xqi (i:=1) (by decide)) ?_
 refine Ce rfl (Xrb (a:=im) (b:=im) (c:=i1) (e:=i1) (qm.mono (by decide)) (qm.mono (by decide)) (q1.mono (by decide)) (q1.mono (by decide))) ?_
 exact R0
end P55
end Go.Proofs.YtdlhdemfnfpboaaGreatDoor
namespace Go.Num
def nms : List Wd→Nat→Bool
 | _,0=>true
 | r,n+1=>(num (hd r)).isSome && nms r.tail n
theorem Xmu {r : List Wd} {q : Pt × List Wd} (h : pt2 r=some q) : nms r 2=true:=by
 rw [Xsu] at h
 split at h
 · rename_i h1 h2
   simp [nms,h1,h2]
 · cases h
theorem Xjs {r : List Wd} (h : nms r 2=true) : ∃ x y,num (hd r)=some x∧num (hd r.tail)=some y∧pt2 r=some ((x,y),r.tail.tail):=by
 simp only [nms,Bool.and_true,W0e,W2v] at h
 obtain ⟨⟨x,hx⟩,y,hy⟩:=h
 exact ⟨x,y,hx,hy,by rw [Xsu,hx,hy]⟩
theorem Xzt {r : List Wd} (h : nms r 2=false) : pt2 r=none:=by
 cases e : pt2 r with
 | none=>rfl
 | some q=>rw [Xmu e] at h;cases h
theorem Xz8 {w : Wd} (h : Xm7 w) : (num w).isSome=true:=by
 rcases h with rfl | rfl <;> rfl
theorem Ydc {r : List Wd} {q : Pt × List Wd} (h : Xqj r=some q) : nms r 7=true:=by
 rw [Xkd] at h
 split at h
 · rename_i hc
   obtain ⟨h1,h2,h3,h4,h5⟩:=hc
   have h6:=Xmu h
   have h3' : (num (hd r.tail.tail)).isSome=true:=by rw [h3];rfl
   rw [show nms r 7=((num (hd r)).isSome && ((num (hd r.tail)).isSome && ((num (hd r.tail.tail)).isSome && ((num (hd r.tail.tail.tail)).isSome && ((num (hd r.tail.tail.tail.tail)).isSome && nms r.tail.tail.tail.tail.tail 2))))) from rfl,h1,h2,h3',Xz8 h4,Xz8 h5,h6]
   rfl
 · cases h
theorem Xjt {l : List Wd} : ∀ {n b : Nat},0<n→nms (l.drop b) n=true→b+n≤l.length
 | n+1,b,_,h=>by
  rw [nms,W0e,W4q] at h
  have hb : b<l.length:=Xyu (a:=b) fun e=>by
   have h1:=h.1
   rw [show hd (l.drop b)=[] from e] at h1
   cases h1
  cases n with
  | zero=>omega
  | succ n=>have:=Xjt (l:=l) (n:=n+1) (b:=b+1) (by omega) h.2;omega
theorem Xe0 {r : List Wd} {n : Nat} (h : nms r (n+1)=true) : (num (hd r)).isSome=true∧nms r.tail n=true:=by
 rwa [nms,W0e] at h
theorem Xfl {l : List Wd} {a : Nat} (h : a<l.length) : l[a]?=some (wat l a):=by
 obtain ⟨w,hw⟩ : ∃ w,l[a]?=some w:=⟨_,W0c h⟩
 rw [Xn0 hw,hw]
theorem Ygz {l : List Wd} {a : Nat} (h : a<l.length) (hw : wat l a=[76]) : cmd (l.drop a)=(pt2 (l.drop (a+1))).map fun q=>([q.1],q.2):=by
 rw [Xl0 h,if_pos hw,Xk5 h]
theorem Xu2 {l : List Wd} {a : Nat} (h : a<l.length) (hw : wat l a=[65]) : cmd (l.drop a)=(Xqj (l.drop (a+1))).map fun q=>([q.1],q.2):=by
 rw [Xl0 h,if_neg (by rw [hw];decide),if_pos hw,Xk5 h]
theorem Ygy {l : List Wd} {a : Nat} (h : a<l.length) (hw : wat l a=[90]) : cmd (l.drop a)=if a+1=l.length then some ([],[]) else none:=by
 rw [Xl0 h,if_neg (by rw [hw];decide),if_neg (by rw [hw];decide),if_pos hw,Xk5 h]
 by_cases e : a+1=l.length
 · rw [if_pos e,if_pos (by rw [e,List.drop_length])]
 · rw [if_neg e,if_neg (by rw [W5l];omega)]
theorem Ygx {l : List Wd} {a : Nat} (h : a<l.length) (h1 : wat l a≠[76]) (h2 : wat l a≠[65]) (h3 : wat l a≠[90]) : cmd (l.drop a)=none:=by
 rw [Xl0 h,if_neg h1,if_neg h2,if_neg h3]
theorem Yhf {l : List Wd} {b : Nat} (h : nms (l.drop b) 7=true) : ∃ x y,num (wat l (b+5))=some x∧num (wat l (b+5+1))=some y∧Xqj (l.drop b)=if wat l (b+2)=[48]∧Xm7 (wat l (b+3))∧Xm7 (wat l (b+4)) then some ((x,y),l.drop (b+7)) else none:=by
 obtain ⟨h1,h⟩:=Xe0 h
 obtain ⟨h2,h⟩:=Xe0 h
 obtain ⟨_,h⟩:=Xe0 h
 obtain ⟨_,h⟩:=Xe0 h
 obtain ⟨_,h⟩:=Xe0 h
 obtain ⟨x,y,h3,h4,h5⟩:=Xjs h
 simp only [W4q] at h1 h2 h3 h4 h5
 refine ⟨x,y,h3,h4,?_⟩
 rw [Xkd]
 simp only [W4q]
 rw [h5]
 by_cases hc : wat l (b+2)=[48]∧Xm7 (wat l (b+3))∧Xm7 (wat l (b+4))
 · rw [if_pos hc,if_pos ⟨h1,h2,hc⟩]
 · rw [if_neg hc,if_neg fun k=>hc k.2.2]
theorem Yhe {l : List Wd} {b : Nat} (h : nms (l.drop b) 7=false) : Xqj (l.drop b)=none:=by
 cases e : Xqj (l.drop b) with
 | none=>rfl
 | some q=>rw [Ydc e] at h;cases h
end Go.Num
namespace Go.Proofs.YtdlhdemfnfpboaaGreatDoor.R56
open Go Go.Vm Go.Num Go.Tow Go.Proofs.YtdlhdemfnfpboaaGreatDoor Go.Proofs.YtdlhdemfnfpboaaGreatDoor.P56
theorem Xkg {s : List UInt8} (hs : s.length≤1000000) : C0 19 [.d (.str s)] (·=.d (dXs (spl s))):=by
 refine En Tryz.func19 fun _ _ _=>?_
 refine Nl 3 3 1 rfl ?_
 refine Lo (fun ((i,fr,ws,cur,rest) : Nat × Nat × List (List UInt8) × List UInt8 × List UInt8)=>[(0,.d (.str s)),(3,.gr 3 1 (ws.map .str)),(4,.d (.int .i64 fr)),(5,.d (.int .i64 i))]) (fun (_,_,ws,_,_)=>[(3,.tok (ws.map D.str).length 1)]) (fun (i,fr,ws,cur,rest)=>ws.length≤i∧((i≤s.length∧fr+cur.length=i∧s.drop fr=cur++rest∧32 ∉ cur∧spl s=ws++spl (cur++rest))∨(i=s.length+1∧spl s=ws))) (fun (i,_)=>s.length+1 - i) (0,0,[],[],s) [] rfl ⟨W0a _,.inl ⟨W0y _,rfl,rfl,nofun,rfl⟩⟩ ?_
 rintro ⟨i,fr,ws,cur,rest⟩ ⟨hws,hI⟩
 refine By rfl (fun h=>?_) fun h=>?_
 · rcases hI with ⟨hi,hf,hd,hc,hsp⟩ | ⟨hi,_⟩
   · have hsl : (s.drop fr).length=s.length - fr:=W1i ..
     rw [hd,W0d] at hsl
     have hcur : (s.drop fr).take (i - fr)=cur:=by rw [hd,show i - fr=cur.length by omega];simp
     have hz : ws.map D.str++[D.str cur]=(ws++[cur]).map .str:=by simp
     refine By rfl (fun h1=>?_) fun h1=>?_
     · have hr : rest=[]:=W2h.1 (by omega)
       subst hr
       rw [W3e,Xog hc] at hsp
       refine Smd fr i cur rfl (by omega) hcur ?_
       refine ApG ((ws++[cur]).map .str) rfl hz (by simp;omega) ?_
       refine Ar (i+1 : Nat) rfl ?_
       refine Ar (i+1 : Nat) rfl ?_
       exact Bk (i+1,i+1,ws++[cur],[],[]) [(3,90),(28,3)] rfl ⟨by simp;omega,.inr ⟨by omega,hsp⟩⟩ (by show s.length+1 - (i+1)<s.length+1 - i;omega)
     · obtain ⟨c,t,rfl⟩ : ∃ c t,rest=c::t:=by
        cases rest with
        | nil=>simp at hsl;omega
        | cons c t=>exact ⟨c,t,rfl⟩
       simp only [W0l] at hsl
       have hci : s[i]?=some c:=by
        have:=congrArg (·[cur.length]?) hd
        simp only [W2b,W0o (W0a _),W2t,List.getElem?_cons_zero] at this
        rwa [hf] at this
       refine Yx i c rfl hci ?_
       refine By rfl (fun h2=>?_) fun h2=>?_
       · obtain rfl : c=32:=W7m.1 (by show c.toNat=32;omega)
         rw [Xkr hc] at hsp
         refine Smd fr i cur rfl (by omega) hcur ?_
         refine ApG ((ws++[cur]).map .str) rfl hz (by simp;omega) ?_
         refine Ar (i+1 : Nat) rfl ?_
         refine Ar (i+1 : Nat) rfl ?_
         refine Bk (i+1,i+1,ws++[cur],[],t) [(3,90),(28,3)] rfl ⟨by simp;omega,.inl ⟨by omega,rfl,?_,nofun,by rw [hsp];simp⟩⟩ (by show s.length+1 - (i+1)<s.length+1 - i;omega)
         rw [show i+1=fr+(cur.length+1) by omega,←W4p,hd]
         simp
       · refine Ar (i+1 : Nat) rfl ?_
         refine Bk (i+1,fr,ws,cur++[c],t) [] rfl ⟨by omega,.inl ⟨by omega,by simp;omega,by rw [hd];simp,?_,by rw [hsp];simp⟩⟩ (by show s.length+1 - (i+1)<s.length+1 - i;omega)
         intro hm
         rcases W2z.1 hm with hm | hm
         · exact hc hm
         · obtain rfl:=W0g.1 hm;exact h2 rfl
   · omega
 · rcases hI with ⟨hi,_⟩ | ⟨_,hsp⟩
   · omega
   · exact R1 rfl (.gr (by rw [hsp]))
variable {l : List Num.Wd} {a : Nat}
theorem Yi2 {w : List UInt8} : (plc w<0)↔(num w).isSome=false:=by
 unfold plc num
 cases prs w with
 | none=>exact ⟨fun _=>rfl,fun _=>by decide⟩
 | some q=>exact ⟨fun h=>by obtain ⟨_,_,_⟩:=q;simp at h;omega,nofun⟩
theorem Xbr {n : Nat} (H : Lw l) (ha : a≤1000000) (hn : n≤100) : C0 20 [.d (dXs l),.d (.int .i64 a),.d (.int .i64 n)] (·=.b (nms (l.drop a) n)):=by
 have lm : (l.map D.str).length=l.length:=W0h ..
 refine En Tryz.func20 fun _ _ _=>?_
 refine Lo (fun k : Nat=>[(0,.d (dXs l)),(1,.d (.int .i64 a)),(2,.d (.int .i64 n)),(7,.d (.int .i64 (a+k : Nat)))]) (fun _=>[]) (fun k=>k≤n∧nms (l.drop a) n=nms (l.drop (a+k)) (n - k)) (fun k=>n - k) 0 [] rfl ⟨W0y _,rfl⟩ fun k ⟨hk,hI⟩=>?_
 rw [hI]
 refine Ar (a+n : Nat) rfl ?_
 refine By rfl (fun h=>?_) fun h=>?_
 · obtain ⟨m,hm⟩ : ∃ m,n - k=m+1:=⟨n - k - 1,by omega⟩
   have e : nms (l.drop (a+k)) (n - k)=((num (wat l (a+k))).isSome && nms (l.drop (a+(k+1))) (n - (k+1))):=by
    rw [hm,nms,W4q,show n - (k+1)=m by omega];rfl
   rw [e]
   refine By rfl (fun h1=>?_) fun h1=>?_ <;> simp only [lm] at h1
   · rw [Xnz (by omega)]
     exact R0
   · refine Ix (a+k) rfl (u:=.str (wat l (a+k))) (by rw [W0w,Xfl (by omega)];rfl) ?_
     refine Ce rfl (R11.Places_ok (H.tx _)) ?_
     refine By rfl (fun h2=>?_) fun h2=>?_
     · rw [Yi2.1 h2]
       exact R0
     · have h3 : (num (wat l (a+k))).isSome=true:=by
        cases e : (num (wat l (a+k))).isSome with
        | true=>rfl
        | false=>exact absurd (Yi2.2 e) h2
       rw [h3,Bool.true_and]
       refine Ar (a+(k+1) : Nat) rfl ?_
       exact Bk (k+1) [] rfl ⟨by omega,rfl⟩ (by show n - (k+1)<n - k;omega)
 · rw [show n - k=0 by omega]
   exact R0
theorem Xzh {w : List UInt8} {x : Rat} (hw : Tx w) (h : num w=some x) : C0 41 [.d (.str w)] (·=.tup (.pr (.d (dq x)) (.d (.int .i64 0)))):=by
 unfold num at h
 cases hp : prs w with
 | none=>rw [hp] at h;cases h
 | some q =>
  obtain ⟨ng,u,t⟩:=q
  rw [hp] at h
  cases h
  exact R11.Parse_yes hw hp
theorem Ybs {x : Rat} (h : num (wat l a)=some x) : a<l.length:=Xyu fun e=>by rw [e] at h;cases h
theorem Xdb {x y : Rat} (H : Lw l) (h1 : num (wat l a)=some x) (h2 : num (wat l (a+1))=some y) : C0 21 [.d (dXs l),.d (.int .i64 a)] (·=.d (dPt (x,y))):=by
 have hn:=H.n
 have ha:=Ybs h2
 refine En Tryz.func21 fun _ _ _=>?_
 refine Ix a rfl (u:=.str (wat l a)) (by rw [W0w,Xfl (by omega)];rfl) ?_
 refine Ce rfl (Xzh (H.tx _) h1) ?_
 refine Ar (a+1 : Nat) rfl ?_
 refine Ix (a+1) rfl (u:=.str (wat l (a+1))) (by rw [W0w,Xfl ha];rfl) ?_
 refine Ce rfl (Xzh (H.tx _) h2) ?_
 exact R0
theorem Xlc {w : List UInt8} : C0 22 [.d (.str w)] (·=.b (dc (Xm7 w))):=by
 refine En Tryz.func22 fun _ _ _=>?_
 refine By rfl (fun h=>?_) fun h=>?_
 · exact R1 rfl (.bp ⟨fun _=>.inl h,fun _=>rfl⟩)
 · exact R1 rfl (.bp (Xaw.trans ⟨.inr,fun k=>k.elim (fun e=>absurd e h) id⟩))
def ouD (p : Num.Pt) : Option (List Num.Pt)→AV
 | none=>.lit 8 [dPt p]
 | some ps=>.own 600 8 0 (ps.map dPt).length
def ouH : Option (List Num.Pt)→Hpl
 | none=>[]
 | some ps=>[(600,.arr 8 (ps.map dPt))]
def ouP (p : Num.Pt) : Option (List Num.Pt)→List Num.Pt
 | none=>[p]
 | some ps=>ps
set_option maxHeartbeats 1000000 in
theorem Points_ok {s : List UInt8} (hs : s.length≤100000) : C0 6 [.d (.str s)] (·=pdR (rdP (spl s))):=by
 have H : Lw (spl s):=⟨by
  have:=Xbg s
  have:=W4m (a:=(32 : UInt8)) (l:=s)
  omega,fun w hw=>by have:=Xgs s w hw;omega⟩
 have hS:=Xkg (s:=s) (by omega)
 have hn : (spl s).length≤100001:=by
  have:=Xbg s
  have:=W4m (a:=(32 : UInt8)) (l:=s)
  omega
 have h0:=W4d.2 (Xoh s)
 generalize spl s=l at hS H hn h0
 have lm : (l.map D.str).length=l.length:=W0h ..
 have e:=Xo0 l
 have e0 : l.tail=l.drop 1:=by simp
 have e1 : hd l=wat l 0:=rfl
 rw [e0,e1] at e
 refine En Tryz.func6 fun _ _ _=>?_
 refine Ce rfl hS ?_
 refine Ix 0 rfl (u:=.str (wat l 0)) (by rw [W0w,Xfl h0];rfl) ?_
 refine By rfl (fun hw=>?_) fun hw=>?_
 · rw [if_neg hw] at e
   rw [e]
   exact RTt rfl (.cons (.nil rfl) Xb3)
 rw [if_pos (W4c.1 hw)] at e
 refine Ce rfl (Xbr (a:=1) (n:=2) H (by decide) (by decide)) ?_
 cases hp : nms (l.drop 1) 2 with
 | false =>
  rw [Xzt hp] at e
  rw [e]
  refine Yes rfl (by decide) ?_
  exact RTt rfl (.cons (.nil rfl) Xb3)
 | true =>
 have h3:=Xjt (by decide) hp
 obtain ⟨x,y,k1,k2,k3⟩:=Xjs hp
 rw [W4q] at k2
 simp only [W4q] at k3
 rw [k3] at e
 have e : rdP l=(body (l.drop 3)).map ((x,y)::·):=e
 rw [e]
 refine No rfl nofun ?_
 refine Ce rfl (Xdb (a:=1) H k1 k2) ?_
 generalize hpp : (x,y)=p
 refine Lo (fun ((i,o) : Nat × Option (List Num.Pt))=>[(4,.d (dXs l)),(5,ouD p o),(6,.d (.int .i64 i))]) (fun (_,o)=>ouH o) (fun (i,o)=>i≤l.length∧(ouP p o).length≤i∧(body (l.drop 3)).map (p::·)=(body (l.drop i)).map (ouP p o++·)) (fun (i,_)=>l.length - i) (3,none) [] rfl ⟨h3,by show 1≤3;decide,rfl⟩ ?_
 rintro ⟨i,o⟩ ⟨hi,hps,hI⟩
 rw [hI]
 have nxt : ∀ {j : Nat} {q : Num.Pt},i<l.length→i<j→j≤l.length→cmd (l.drop i)=some ([q],l.drop j)→j≤l.length∧(ouP p (some (ouP p o++[q]))).length≤j∧(body (l.drop i)).map (ouP p o++·)=(body (l.drop j)).map (ouP p (some (ouP p o++[q]))++·):=fun {j q} h h1 h2 hc=>by
  refine ⟨h2,by show (ouP p o++[q]).length≤j;simp;omega,?_⟩
  rw [Xgb hc,W7t]
  exact congrArg (fun f=>Option.map f (body (l.drop j))) (funext fun t=>by simp [ouP])
 have bad : i<l.length→cmd (l.drop i)=none→(body (l.drop i)).map (ouP p o++·)=none:=fun h hc=>by
  rw [Xnp (by rw [ne_eq,W5l];omega) hc];rfl
 have zed : i<l.length→i+1=l.length→cmd (l.drop i)=some ([],[])→i+1≤l.length∧(ouP p o).length≤i+1∧(body (l.drop i)).map (ouP p o++·)=(body (l.drop (i+1))).map (ouP p o++·):=fun h h1 hc=>⟨by omega,by omega,by
  rw [Xgb hc,W1g (i:=i+1) (by omega),W7t];rfl⟩
 have hx : i<l.length→(l.map D.str)[i]?=some (.str (wat l i)):=fun h=>by rw [W0w,Xfl h];rfl
 have len : ∀ q,((ouP p o++[q]).map dPt).length≤1099511627776:=fun q=>by simp;omega
 rcases o with _ | ps <;>
 · refine By rfl (fun h=>?_) fun h=>?_ <;> simp only [lm] at h
   · have h : i<l.length:=by omega
     refine Ix i rfl (hx h) ?_
     refine By rfl (fun h1=>?_) fun h1=>?_
     · refine Ar (i+1 : Nat) rfl ?_
       refine Ce rfl (Xbr (a:=i+1) (n:=2) H (by omega) (by decide)) ?_
       cases hm : nms (l.drop (i+1)) 2 with
       | true =>
        obtain ⟨u,v,m1,m2,m3⟩:=Xjs hm
        rw [W4q] at m2
        simp only [W4q] at m3
        have m4:=Xjt (by decide) hm
        refine Yes rfl rfl ?_
        refine Ar (i+1 : Nat) rfl ?_
        refine Ce rfl (Xdb (a:=i+1) H m1 m2) ?_
        first
        | refine ApL ((ouP p _++[(u,v)]).map dPt) rfl rfl (W5q _) (len _) ?_
        | refine ApO ((ouP p _++[(u,v)]).map dPt) rfl rfl rfl (by simp [ouP]) (len _) ?_
        refine Ar (i+3 : Nat) rfl ?_
        exact Bk (i+3,some (ouP p _++[(u,v)])) [(600,900),(42,600)] rfl (nxt h (by omega) (by omega) (by rw [Ygz h h1,m3];rfl)) (by show l.length - (i+3)<l.length - i;omega)
       | false =>
        refine No rfl nofun ?_
        refine Ix i rfl (hx h) ?_
        refine No rfl (by rw [h1];decide) ?_
        refine Ix i rfl (hx h) ?_
        refine No rfl (by rw [h1];decide) ?_
        rw [bad h (by rw [Ygz h h1,Xzt hm];rfl)]
        exact RTt rfl (.cons (.nil rfl) Xb3)
     · refine Ix i rfl (hx h) ?_
       refine By rfl (fun h2=>?_) fun h2=>?_
       · have hz : ¬ wat l i=[90]:=by rw [h2];decide
         refine Ar (i+1 : Nat) rfl ?_
         refine Ce rfl (Xbr (a:=i+1) (n:=7) H (by omega) (by decide)) ?_
         cases hm : nms (l.drop (i+1)) 7 with
         | true =>
          obtain ⟨u,v,m1,m2,m3⟩:=Yhf hm
          have m4:=Xjt (by decide) hm
          have hx' : ∀ j,j<l.length→(l.map D.str)[j]?=some (.str (wat l j)):=fun j h=>by rw [W0w,Xfl h];rfl
          refine Yes rfl rfl ?_
          refine Ar (i+3 : Nat) rfl ?_
          refine Ix (i+3) rfl (hx' (i+3) (by omega)) ?_
          refine By rfl (fun h3=>?_) fun h3=>?_
          · refine Ar (i+4 : Nat) rfl ?_
            refine Ix (i+4) rfl (hx' (i+4) (by omega)) ?_
            refine Ce rfl Xlc ?_
            refine By rfl (fun h4=>?_) fun h4=>?_
            · refine Ar (i+5 : Nat) rfl ?_
              refine Ix (i+5) rfl (hx' (i+5) (by omega)) ?_
              refine Ce rfl Xlc ?_
              refine By rfl (fun h5=>?_) fun h5=>?_
              · refine Ar (i+6 : Nat) rfl ?_
                refine Ce rfl (Xdb (a:=i+6) H m1 m2) ?_
                first
                | refine ApL ((ouP p _++[(u,v)]).map dPt) rfl rfl (W5q _) (len _) ?_
                | refine ApO ((ouP p _++[(u,v)]).map dPt) rfl rfl rfl (by simp [ouP]) (len _) ?_
                refine Ar (i+8 : Nat) rfl ?_
                exact Bk (i+8,some (ouP p _++[(u,v)])) [(600,900),(86,600)] rfl (nxt h (by omega) (by omega) (by rw [Xu2 h h2,m3,if_pos ⟨h3,h4,h5⟩];rfl)) (by show l.length - (i+8)<l.length - i;omega)
              · refine Ix i rfl (hx h) ?_
                refine No rfl hz ?_
                rw [bad h (by rw [Xu2 h h2,m3,if_neg fun k=>h5 k.2.2];rfl)]
                exact RTt rfl (.cons (.nil rfl) Xb3)
            · refine Ix i rfl (hx h) ?_
              refine No rfl hz ?_
              rw [bad h (by rw [Xu2 h h2,m3,if_neg fun k=>h4 k.2.1];rfl)]
              exact RTt rfl (.cons (.nil rfl) Xb3)
          · refine Ix i rfl (hx h) ?_
            refine No rfl hz ?_
            rw [bad h (by rw [Xu2 h h2,m3,if_neg fun k=>h3 k.1];rfl)]
            exact RTt rfl (.cons (.nil rfl) Xb3)
         | false =>
          refine No rfl nofun ?_
          refine Ix i rfl (hx h) ?_
          refine No rfl hz ?_
          rw [bad h (by rw [Xu2 h h2,Yhe hm];rfl)]
          exact RTt rfl (.cons (.nil rfl) Xb3)
       · refine Ix i rfl (hx h) ?_
         refine By rfl (fun h3=>?_) fun h3=>?_
         · refine Ar (l.length - 1 : Nat) rfl ?_ (wr (by rw [lm];omega) (by simp only [inK];omega))
           refine By rfl (fun h4=>?_) fun h4=>?_
           · refine Ar (i+1 : Nat) rfl ?_
             have hz:=zed h (by omega) (show cmd (l.drop i)=some ([],[]) by rw [Ygy h h3,if_pos (by omega)])
             first
             | exact Bk (i+1,none) [] rfl hz (by show l.length - (i+1)<l.length - i;omega)
             | exact Bk (i+1,some ps) [] rfl hz (by show l.length - (i+1)<l.length - i;omega)
           · rw [bad h (by rw [Ygy h h3,if_neg (by omega)])]
             exact RTt rfl (.cons (.nil rfl) Xb3)
         · rw [bad h (Ygx h h1 h2 h3)]
           exact RTt rfl (.cons (.nil rfl) Xb3)
   · have ea : l.drop i=[]:=W1g (by omega)
     rw [ea,Xqh]
     first
     | exact RTt rfl (.cons (.lit rfl) Xb3)
     | exact RTt rfl (.cons (.own rfl (by rw [W1n];exact W0a _) (by rw [W0z,W1y];simp [ouP])) Xb3)
end Go.Proofs.YtdlhdemfnfpboaaGreatDoor.R56
namespace Go.Num
def Src (p : Pt) : Prop:=∃ w v,num w=some p.1∧num v=some p.2
theorem Xmt {r q : List Wd} {p : Pt} (h : pt2 r=some (p,q)) : Src p:=by
 obtain ⟨x,y,h1,h2,h3⟩:=Xjs (Xmu h)
 rw [h3] at h
 cases h
 exact ⟨_,_,h1,h2⟩
theorem Ycz {l q : List Wd} {ps : List Pt} (h : cmd l=some (ps,q)) : ∀ p∈ps,Src p:=by
 match l,h with
 | c::l,h =>
  simp only [cmd] at h
  split at h
  · cases e : pt2 l with
    | none=>rw [e] at h;cases h
    | some q=>rw [e] at h;cases h;intro p hp;obtain rfl:=W0g.1 hp;exact Xmt (q:=q.2) e
  · split at h
    · cases e : Xqj l with
      | none=>rw [e] at h;cases h
      | some q =>
       rw [e] at h;cases h
       intro p hp
       obtain rfl:=W0g.1 hp
       rw [Xkd] at e
       split at e
       · exact Xmt (q:=q.2) e
       · cases e
    · split at h
      · split at h <;> cases h
        exact nofun
      · cases h
theorem Xvc : ∀ {n : Nat} {l : List Wd} {ps : List Pt},bdy n l=some ps→∀ p∈ps,Src p
 | n,[],ps,h=>by cases n <;> cases h <;> exact nofun
 | 0,_::_,_,h=>by cases h
 | n+1,c::r,ps,h=>by
  simp only [bdy] at h
  split at h
  · cases h
  · rename_i qs r' hc
    cases e : bdy n r' with
    | none=>rw [e] at h;cases h
    | some ts =>
     rw [e] at h
     cases h
     intro p hp
     rcases W2z.1 hp with hp | hp
     · exact Ycz hc p hp
     · exact Xvc e p hp
theorem Ybg {l : List Wd} {ps : List Pt} (h : rdP l=some ps) : ∀ p∈ps,Src p:=by
 rw [Xo0] at h
 split at h
 · split at h
   · cases h
   · rename_i q r hp
     cases e : body r with
     | none=>rw [e] at h;cases h
     | some ts =>
      rw [e] at h
      cases h
      intro p hm
      rcases W1o.1 hm with rfl | hm
      · exact Xmt hp
      · exact Xvc e p hm
 · cases h
theorem Yc0 {l q : List Wd} {ps : List Pt} (h : cmd l=some (ps,q)) : ps.length≤1:=by
 match l,h with
 | c::l,h =>
  simp only [cmd] at h
  split at h
  · cases e : pt2 l <;> rw [e] at h <;> cases h
    exact W0a _
  · split at h
    · cases e : Xqj l <;> rw [e] at h <;> cases h
      exact W0a _
    · split at h
      · split at h <;> cases h
        exact W0y _
      · cases h
theorem Xvd : ∀ {n : Nat} {l : List Wd} {ps : List Pt},bdy n l=some ps→ps.length≤n
 | n,[],ps,h=>by cases n <;> cases h <;> exact W0y _
 | 0,_::_,_,h=>by cases h
 | n+1,c::r,ps,h=>by
  simp only [bdy] at h
  split at h
  · cases h
  · rename_i qs r' hc
    cases e : bdy n r' with
    | none=>rw [e] at h;cases h
    | some ts =>
     rw [e] at h
     cases h
     have:=Xvd e
     have:=Yc0 hc
     rw [W0d];omega
theorem Ybh {l : List Wd} {ps : List Pt} (h : rdP l=some ps) : ps.length≤l.length:=by
 rw [Xo0] at h
 split at h
 · split at h
   · cases h
   · rename_i q r hp
     cases e : body r with
     | none=>rw [e] at h;cases h
     | some ts =>
      rw [e] at h
      cases h
      have h1:=Xvd e
      have h2:=Xjo hp
      rw [List.length_tail] at h2
      rw [W0l]
      omega
 · cases h
end Go.Num
namespace Go.Proofs.YtdlhdemfnfpboaaGreatDoor.P56
open Go Go.Vm Go.Num Go.Tow Go.Proofs.YtdlhdemfnfpboaaGreatDoor
theorem Xzs {w : List UInt8} {x : Rat} (h : num w=some x) : Qs 1610 x:=by
 unfold num at h
 cases hp : prs w with
 | none=>rw [hp] at h;cases h
 | some q =>
  obtain ⟨ng,u,t⟩:=q
  rw [hp] at h
  cases h
  obtain ⟨hz,hb⟩:=P11.frI_zs hp
  show Qs 1610 (fr ng u t)
  rw [Xz6,←W3k]
  exact Qs.divInt (hz.mono (by decide)) ((R11.p10 t.length).mono (by omega)) (fun e=>Xyz t.length (by rw [e];rfl))
theorem Yal {x y : Rat} (hx : Qs 1610 x) : C0 23 [.d (dq x),.d (dq y)] (·=.b (dc (x=y))):=by
 have h1:=hx.n.len (by decide)
 have h2:=hx.d.len (by decide)
 refine En Tryz.func23 fun _ _ _=>?_
 refine Ce rfl (R2.SameInt_ok (z:=x.num) (w:=y.num) (by omega)) ?_
 refine By rfl (fun h=>?_) fun h=>?_
 · refine Ce rfl (R2.SameInt_ok (z:=(x.den : Int)) (w:=(y.den : Int)) (by omega)) ?_
   exact R1 rfl (.bp (Xaw.trans ⟨fun h3=>Rat.ext h (by omega),fun e=>by rw [e]⟩))
 · exact R1 rfl (.bp ⟨nofun,fun e=>absurd (by rw [e]) h⟩)
theorem Xe9 {ps : List Num.Pt} (hn : ps.length≤1000000) (hp : ∀ p∈ps,Num.Src p) : C0 7 [.d (.sl 8 (ps.map dPt)),.d (.sl 8 (ps.map dPt))] (·=.b true):=by
 have lm : (ps.map dPt).length=ps.length:=W0h ..
 refine En Tryz.func7 fun _ _ _=>?_
 refine No rfl (fun h=>h rfl) ?_
 refine Lo (fun k : Nat=>[(0,.d (.sl 8 (ps.map dPt))),(1,.d (.sl 8 (ps.map dPt))),(5,.d (.int .i64 k))]) (fun _=>[]) (fun k=>k≤ps.length) (fun k=>ps.length - k) 0 [] rfl (W0y _) fun k hk=>?_
 refine By rfl (fun h=>?_) fun h=>?_
 · have h : (k : Int)<((ps.map dPt).length : Nat):=h
   rw [lm] at h
   obtain ⟨p,e⟩ : ∃ p,ps[k]?=some p:=⟨_,W0c (by omega)⟩
   obtain ⟨w,v,h1,h2⟩:=hp p (W1b e)
   have hx : (ps.map dPt)[k]?=some (dPt p):=by rw [W0w,e];rfl
   refine Dw rfl ?_
   refine Ix k rfl hx ?_
   refine Ix k rfl hx ?_
   refine Ce rfl (Yal (Xzs h1)) ?_
   refine No rfl (fun h=>h rfl) ?_
   refine Ix k rfl hx ?_
   refine Ix k rfl hx ?_
   refine Ce rfl (Yal (Xzs h2)) ?_
   refine No rfl (fun h=>h rfl) ?_
   refine Ar (k+1 : Nat) rfl ?_
   exact Bk (k+1) [] rfl (by omega) (by show ps.length - (k+1)<ps.length - k;omega)
 · exact R0
theorem DrawingPoints_ok {s : List UInt8} : C0 3 [.d (.str s)] (·=.b true):=by
 refine En Tryz.func3 fun _ _ _=>?_
 refine Ce rfl P55.aw55_ok ?_
 refine No rfl nofun ?_
 refine By rfl (fun h=>?_) fun h=>?_
 · refine Ce rfl P55.aw55_ok ?_
   exact R0
 · have hs : s.length≤1000:=by
    have h : ¬ (s.length : Int) > 1000:=h
    omega
   have h1:=Points_ok (s:=s) (by omega)
   have h2:=R56.Points_ok (s:=s) (by omega)
   cases e : rdP (spl s) with
   | none =>
    rw [e] at h1 h2
    refine Ce rfl h1 ?_
    refine Ce rfl h2 ?_
    refine Yes rfl rfl ?_
    refine Ce rfl (Xe9 (ps:=[]) (by decide) nofun) ?_
    exact R0
   | some ps =>
    rw [e] at h1 h2
    refine Ce rfl h1 ?_
    refine Ce rfl h2 ?_
    refine Yes rfl rfl ?_
    refine Ce rfl (Xe9 (by have:=Ybh e;have:=Xbg s;have:=W4m (a:=(32 : UInt8)) (l:=s);omega) (Ybg e)) ?_
    exact R0
end Go.Proofs.YtdlhdemfnfpboaaGreatDoor.P56

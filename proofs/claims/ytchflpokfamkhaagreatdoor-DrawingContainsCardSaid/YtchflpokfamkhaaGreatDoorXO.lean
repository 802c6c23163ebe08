/- part 5 -/
import Derived.Test.YtchflpokfamkhaaGreatDoorXN
import Derived.Lib.Bytealg
import Derived.Shelf.Strings.AsciiSet
import Derived.Shelf.Strings.BuilderK
import Derived.Shelf.Strings.OnBuilder
import Derived.RangeFuncLeaves
import Derived.ControlIn
import Derived.RangeFuncCalls
set_option linter.unusedVariables false
set_option linter.unusedSimpArgs false
set_option maxRecDepth 100000
set_option maxHeartbeats 4000000
namespace Go.Proofs.YtchflpokfamkhaaGreatDoor
open Go Go.Vm Go.Num Go.Tow
section
structure Vn where
 x:Nm
 y:Nm
abbrev dV(v:Vn): D:=.st (.pr (dN v.x) (dN v.y))
abbrev dVs(l:List Vn): D:=.sl 4 (l.map dV)
abbrev n00: Nm:=⟨0,(),((0:Int):Rat)⟩
structure Gv {K:Nat} (G:Tw K) (S:List (Tow.El K)) (N:List Nm) (n:Nat) (v:Vn) (p:V2 K):Prop where
 x:Gd G S N n v.x p.1
 y:Gd G S N n v.y p.2
def IsB(r:AV): Prop:=∃c:Bool,r=.b c
section
variable{K:Nat}{G:Tw K}{S:List (Tow.El K)}{N:List Nm}{n m:Nat}{x y z:Nm}{a b v w:Tow.El K}{u s:Vn}{p q:V2 K}
theorem Gv.mono(h:Gv G S N n u p)(hm:n<=m): Gv G S N m u p:=⟨h.x.mono hm,h.y.mono hm⟩
def VeG(G:Tw K)(S:List (Tow.El K))(N:List Nm)(n:Nat)(p:V2 K)(r:AV): Prop:=∃v:Vn,r=.d (dV v)/\Gv G S N n v p
def VoG(G:Tw K)(S:List (Tow.El K))(N:List Nm)(n:Nat)(p:V2 K)(r:AV): Prop:=∃v:Vn,r=.tup (.pr (.d (dV v)) (.d (.int .i64 0)))/\Gv G S N n v p
theorem R9.Cmp_g(W:Wn G S N)(hx:Gd G S N n x v)(hy:Gd G S N m y w)(hn:n<=190)(hm:m<=190): C0 36 [.d (dN x),.d (dN y)] (·=.tup (.pr (.d (.int .i64 (sgn K G (Tow.add K v (Tow.neg K w))))) (.d (.int .i64 0)))):=by
 refine En Tryz.func36 λ_ _ _=>?_
 refine Ca rfl (R9.Sub_g W hx hy hn hm) λv hv=>?_
 obtain⟨z,rfl,hz⟩:=hv
 refine No rfl (by simp) ?_
 refine Ce rfl (R9.Sign_g W hz (by omega)) ?_
 exact RTt rfl (.cons (.rf rfl) Xbg)
theorem R9.Equal_g(W:Wn G S N)(hx:Gd G S N n x v)(hy:Gd G S N m y w)(hn:n<=190)(hm:m<=190): C0 85 [.d (dN x),.d (dN y)] (·=.b (dc (v=w))):=by
 refine En Tryz.func85 λ_ _ _=>?_
 refine Ce rfl (R9.Cmp_g W hx hy hn hm) ?_
 refine Yes rfl (by simp) ?_
 have e:sgn K G (Tow.add K v (Tow.neg K w))=0↔v=w:=by
  rw[Xbb W.w.g]
  exact⟨λh=>(Xax K G).sub0 h,λh=>(Xax K G).sb h⟩
 exact R1 rfl (.bp (Xaw.trans e))
end
end
section
section
variable{K:Nat}{G:Tw K}{S:List (Tow.El K)}{N:List Nm}{n m:Nat}{x y z:Nm}{a b:Tow.El K}{u s:Vn}{p q:V2 K}
theorem R13.Left_g(W:Wn G S N)(hu:Gv G S N n u p)(hn:n<=190): C0 31 [.d (dV u)] (VeG G S N n (neg K p.2,p.1)):=by
 refine En Tryz.func31 λ_ _ _=>?_
 refine Dw rfl ?_
 refine Ca rfl (R9.Neg_g W hu.y hn) λv hv=>?_
 obtain⟨z,rfl,hz⟩:=hv
 exact Rt rfl (.one (.rf rfl) rfl rfl) ⟨⟨z,u.x⟩,rfl,hz,hu.x⟩
theorem R13.Dot_g(W:Wn G S N)(hu:Gv G S N n u p)(hs:Gv G S N m s q)(hn:n<=190)(hm:m<=190)(h2:n+m<=190): C0 157 [.d (dV u),.d (dV s)] (OpG G S N (n+m+(n+m)) (Xao G p q)):=by
 refine En Tryz.func157 λ_ _ _=>?_
 refine Ca rfl (R9.Mul_g W hu.x hs.x hn hm) λv hv=>?_
 obtain⟨z,rfl,hz⟩:=hv
 refine Ca rfl (R9.Mul_g W hu.y hs.y hn hm) λv hv=>?_
 obtain⟨w,rfl,hw⟩:=hv
 refine No rfl (by simp) ?_
 refine No rfl (by simp) ?_
 refine Ca rfl (R9.Add_g W hz hw h2 h2) λv hv=>?_
 obtain⟨r,rfl,hr⟩:=hv
 exact Rt rfl (.tup (.cons (.rf rfl) Xbg)) ⟨r,rfl,hr⟩
theorem R13.Cross_g(W:Wn G S N)(hu:Gv G S N n u p)(hs:Gv G S N m s q)(hn:n<=190)(hm:m<=190)(h2:n+m<=190): C0 156 [.d (dV u),.d (dV s)] (OpG G S N (n+m+(n+m)) (Xai G p q)):=by
 refine En Tryz.func156 λ_ _ _=>?_
 refine Dw rfl ?_
 refine Ca rfl (R13.Left_g W hu hn) λv hv=>?_
 obtain⟨r,rfl,hr⟩:=hv
 refine Ca rfl (R13.Dot_g W hr hs hn hm h2) λv hv=>?_
 obtain⟨z,rfl,hz⟩:=hv
 exact Rt rfl (.tup (.cons (.rf rfl) Xbg)) ⟨z,rfl,hz⟩
theorem R13.Zero_g(W:Wn G S N)(hu:Gv G S N n u p)(hn:n<=800): C0 225 [.d (dV u)] (·=.b (dc (p=vz K))):=by
 refine En Tryz.func225 λ_ _ _=>?_
 refine Ce rfl (R9.Sign_g W hu.x hn) ?_
 refine By rfl (λh=>?_) λh=>?_
 . refine Ce rfl (R9.Sign_g W hu.y hn) ?_
   exact R1 rfl (.bp (Xaw.trans ⟨λh2=>(Xe3 W.w.g).2 ⟨h,h2⟩,λh2=>((Xe3 W.w.g).1 h2).2⟩))
 . exact R1 rfl (.bp ⟨nofun,λh2=>absurd ((Xe3 W.w.g).1 h2).1 h⟩)
theorem R13.Make_ok{i j:Rat}: C0 91 [.d (dq i),.d (dq j)] (·=.d (dV ⟨⟨0,(),i⟩,⟨0,(),j⟩⟩)):=by
 refine En Tryz.func91 λ_ _ _=>?_
 refine Dw rfl ?_
 refine Ce rfl R9.FromRat_ok ?_
 refine Ce rfl R9.FromRat_ok ?_
 exact R0
theorem R13.Whole_ok{i j:Int}(hi:-9223372036854775808<=i/\i<9223372036854775808)(hj:-9223372036854775808<=j/\j<9223372036854775808): C0 38 [.d (.int .i64 i),.d (.int .i64 j)] (·=.d (dV ⟨⟨0,(),(i:Rat)⟩,⟨0,(),(j:Rat)⟩⟩)):=by
 refine En Tryz.func38 λ_ _ _=>?_
 refine Ce rfl (R2.FromInt_ok hi) ?_
 refine Ce rfl (R2.FromInt_ok hj) ?_
 refine Ce rfl R13.Make_ok ?_
 exact R0
abbrev cal: Ob:=.var (.d (.st (.int .i64 0)))
theorem R15.note_ok: CN0 138 [.ptr 1000001 0,.d (.int .i64 0)] [(1000001,cal)] (λ_=>True):=by
 refine EnW Tryz.func138 λ_ _ _ _=>?_
 refine Yes rfl (by decide) ?_
 exact Rw [] [(1000001,cal)] rfl (.tup (.one (.rf rfl) (λ_ _ e=>by cases e) (λ_ _ e=>by cases e))) ⟨rfl,trivial⟩
theorem R15.num_ok{x:Nm}: CN0 155 [.ptr 1000001 0,.d (dN x),.d (.int .i64 0)] [(1000001,cal)] (·=.d (dN x)):=by
 refine EnW Tryz.func155 λ_ _ _ _=>?_
 refine Cn [] rfl R15.note_ok λv hv=>?_
 refine No rfl (by decide) ?_
 exact Rw [] [(1000001,cal)] rfl (.one (.rf rfl) rfl rfl) ⟨rfl,rfl⟩
theorem R15.Add_g(W:Wn G S N)(hx:Gd G S N n x a)(hy:Gd G S N m y b)(hn:n<=190)(hm:m<=190): CN0 150 [.ptr 1000001 0,.d (dN x),.d (dN y)] [(1000001,cal)] (OnG G S N (n+m) (Tow.add K a b)):=by
 refine EnW Tryz.func150 λ_ _ _ _=>?_
 refine Ca rfl (R9.Add_g W hx hy hn hm) λv hv=>?_
 obtain⟨z,rfl,hz⟩:=hv
 refine Cn [] rfl R15.num_ok λv hv=>?_
 subst hv
 exact Rw [] [(1000001,cal)] rfl (.one (.rf rfl) rfl rfl) ⟨rfl,z,rfl,hz⟩
theorem R15.Sub_g(W:Wn G S N)(hx:Gd G S N n x a)(hy:Gd G S N m y b)(hn:n<=190)(hm:m<=190): CN0 83 [.ptr 1000001 0,.d (dN x),.d (dN y)] [(1000001,cal)] (OnG G S N (n+m) (Tow.add K a (Tow.neg K b))):=by
 refine EnW Tryz.func83 λ_ _ _ _=>?_
 refine Ca rfl (R9.Sub_g W hx hy hn hm) λv hv=>?_
 obtain⟨z,rfl,hz⟩:=hv
 refine Cn [] rfl R15.num_ok λv hv=>?_
 subst hv
 exact Rw [] [(1000001,cal)] rfl (.one (.rf rfl) rfl rfl) ⟨rfl,z,rfl,hz⟩
theorem R15.Mul_g(W:Wn G S N)(hx:Gd G S N n x a)(hy:Gd G S N m y b)(hn:n<=190)(hm:m<=190): CN0 151 [.ptr 1000001 0,.d (dN x),.d (dN y)] [(1000001,cal)] (OnG G S N (n+m) (Tow.mul K G a b)):=by
 refine EnW Tryz.func151 λ_ _ _ _=>?_
 refine Ca rfl (R9.Mul_g W hx hy hn hm) λv hv=>?_
 obtain⟨z,rfl,hz⟩:=hv
 refine Cn [] rfl R15.num_ok λv hv=>?_
 subst hv
 exact Rw [] [(1000001,cal)] rfl (.one (.rf rfl) rfl rfl) ⟨rfl,z,rfl,hz⟩
theorem R15.Cross_g(W:Wn G S N)(hu:Gv G S N n u p)(hs:Gv G S N m s q)(hn:n<=190)(hm:m<=190)(h2:n+m<=190): CN0 81 [.ptr 1000001 0,.d (dV u),.d (dV s)] [(1000001,cal)] (OnG G S N (n+m+(n+m)) (Xai G p q)):=by
 refine EnW Tryz.func81 λ_ _ _ _=>?_
 refine Ca rfl (R13.Cross_g W hu hs hn hm h2) λv hv=>?_
 obtain⟨z,rfl,hz⟩:=hv
 refine Cn [] rfl R15.num_ok λv hv=>?_
 subst hv
 exact Rw [] [(1000001,cal)] rfl (.one (.rf rfl) rfl rfl) ⟨rfl,z,rfl,hz⟩
end
end
section
abbrev dT(v:Vn)(f:Int): D:=.st (.pr (dV v) (.int .i64 f))
abbrev dT0: D:=.st (.pr (.st (.pr R9.n0 R9.n0)) (.int .i64 0))
theorem Xr8{g:Hp}{K:Hpl}: Fit g K (.st (.pr (.st (.pr (.st (.pr .nil .nil)) (.st (.pr .nil .nil)))) (.d (.int .i64 0)))) (.d dT0):=.sd (.pd (.sd (.pd R9.fit0 R9.fit0)) (.rf rfl))
def lim(f:Int): Prop:=-1000000<=f/\f<=1000000
instance {f:Int}:Decidable (lim f):=by unfold lim;infer_instance
def Ylq{K:Nat}(G:Tw K)(p q:V2 K)(f g:Int): Int:=if f<g then -1 else if f>g then 1 else Xb9 G p q
section
variable{K:Nat}{G:Tw K}{S:List (Tow.El K)}{N:List Nm}{n m:Nat}{x y z:Nm}{a b:Tow.El K}{u s:Vn}{p q:V2 K}{f g:Int}
def TuG(G:Tw K)(S:List (Tow.El K))(N:List Nm)(n:Nat)(p:V2 K)(f:Int)(r:AV): Prop:=(lim f/\∃v,r=.tup (.pr (.d (dT v f)) (.d (.int .i64 0)))/\Gv G S N n v p)\/(¬lim f/\r=.tup (.pr (.d dT0) (.d (.int .i64 3))))
theorem R19.half_g(W:Wn G S N)(hu:Gv G S N n u p)(hn:n<=800): C0 300 [.d (dV u)] (·=.d (.int .i64 (if vup G p then 0 else 1))):=by
 refine En Tryz.func300 λ_ _ _=>?_
 refine Ce rfl (R9.Sign_g W hu.y hn) ?_
 refine By rfl (λh=>?_) λh=>?_
 . rw[if_pos (show vup G p from .inl h)];exact R0
 . refine By rfl (λh2=>?_) λh2=>?_
   . refine Ce rfl (R9.Sign_g W hu.x hn) ?_
     refine By rfl (λh3=>?_) λh3=>?_
     . rw[if_pos (show vup G p from .inr ⟨h2,h3⟩)];exact R0
     . rw[if_neg (show ¬vup G p from λe=>e.elim h λe=>h3 e.2)];exact R0
   . rw[if_neg (show ¬vup G p from λe=>e.elim h λe=>h2 e.1)];exact R0
theorem R19.order_g(W:Wn G S N)(hu:Gv G S N n u p)(hs:Gv G S N m s q)(hn:n<=190)(hm:m<=190)(h2:n+m<=190): CN0 224 [.ptr 1000001 0,.d (dV u),.d (dV s)] [(1000001,cal)] (·=.d (.int .i64 (Xb9 G p q))):=by
 refine EnW Tryz.func224 λ_ _ _ _=>?_
 refine Dw rfl ?_
 refine Ce rfl (R19.half_g W hu (by omega)) ?_
 refine Ce rfl (R19.half_g W hs (by omega)) ?_
 refine By rfl (λh=>?_) λh=>?_
 . refine Dw rfl ?_
   refine Ce rfl (R19.half_g W hu (by omega)) ?_
   refine Ce rfl (R19.half_g W hs (by omega)) ?_
   refine Ar (Xb9 G p q) rfl ?_ (by
    unfold Xb9
    by_cases h1:vup G p<;>by_cases h2:vup G q<;>simp[h1,h2] at h |-<;>rfl)
   exact Rw [] [(1000001,cal)] rfl (.one (.rf rfl) rfl rfl) ⟨rfl,rfl⟩
 . refine Cn [] rfl (R15.Cross_g W hu hs hn hm h2) λv hv=>?_
   obtain⟨z,rfl,hz⟩:=hv
   refine Ce rfl (R9.Sign_g W hz (by omega)) ?_
   have hi:vup G p↔vup G q:=by
    by_cases h1:vup G p<;>by_cases h2:vup G q<;>simp[h1,h2] at h |-
   have ht:=Xda G (Xai G p q)
   refine Ne (Xb9 G p q) rfl ?_ (by
    unfold Xb9
    rw[if_pos hi]
    exact wr (Int.zero_sub _) (by simp only[inK];omega))
   exact Rw [] [(1000001,cal)] rfl (.one (.rf rfl) rfl rfl) ⟨rfl,rfl⟩
theorem R19.result_g(hu:Gv G S N n u p): CN0 226 [.ptr 1000001 0,.d (dT u f)] [(1000001,cal)] (TuG G S N n p f):=by
 refine EnW Tryz.func226 λ_ _ _ _=>?_
 refine No rfl (by decide) ?_
 refine By rfl (λh=>?_) λh=>?_
 . exact Rw [] [(1000001,cal)] rfl (.tup (.cons Xr8 Xbg)) ⟨rfl,.inr ⟨λh2=>by unfold lim at h2;omega,rfl⟩⟩
 . refine By rfl (λh2=>?_) λh2=>?_
   . exact Rw [] [(1000001,cal)] rfl (.tup (.cons Xr8 Xbg)) ⟨rfl,.inr ⟨λh2=>by unfold lim at h2;omega,rfl⟩⟩
   . exact Rw [] [(1000001,cal)] rfl (.tup (.cons (.rf rfl) Xbg)) ⟨rfl,.inl ⟨by unfold lim;omega,u,rfl,hu⟩⟩
theorem R19.Cmp_g(W:Wn G S N)(hu:Gv G S N n u p)(hs:Gv G S N m s q)(h2:n+m<=190): C0 159 [.d (dT u f),.d (dT s g)] (·=.tup (.pr (.d (.int .i64 (Ylq G p q f g))) (.d (.int .i64 0)))):=by
 refine En Tryz.func159 λ_ _ _=>?_
 unfold Ylq
 refine By rfl (λh=>?_) λh=>?_
 . rw[if_pos h];exact RTt rfl (.cons (.rf rfl) Xbg)
 rw[if_neg h]
 refine By rfl (λh=>?_) λh=>?_
 . rw[if_pos h];exact RTt rfl (.cons (.rf rfl) Xbg)
 rw[if_neg h]
 refine Cn [(1000001,19)] rfl (R19.order_g W hu hs (by omega) (by omega) h2) λv hv=>?_
 subst hv
 refine No rfl (by decide) ?_
 exact RTt rfl (.cons (.rf rfl) Xbg)
end
end
open Go Go.Vm Go.Num Go.Tow
section
variable{K:Nat}{G:Tw K}{S:List (Tow.El K)}{N:List Nm}{n m:Nat}{x y z:Nm}{a b:Tow.El K}{u s:Vn}{p q:V2 K}{f g:Int}
namespace P13
theorem Yap(W:Wn G S N)(hu:Gv G S N n u p)(hs:Gv G S N m s q)(hn:n<=190)(hm:m<=190): C0 114 [.d (dV u),.d (dV s),.d (fnD 126)] (VoG G S N (n+m) (Tow.mul K G p.1 q.1,Tow.mul K G p.2 q.2)):=by
 refine En Tryz.func114 λ_ _ _=>?_
 refine Ca rfl (P9.Mul_g W hu.x hs.x hn hm) λv hv=>?_
 obtain⟨z,rfl,hz⟩:=hv
 refine No rfl (by simp) ?_
 refine Ca rfl (P9.Mul_g W hu.y hs.y hn hm) λv hv=>?_
 obtain⟨w,rfl,hw⟩:=hv
 refine No rfl (by simp) ?_
 exact Rt rfl (.tup (.cons (.rf rfl) Xbg)) ⟨⟨z,w⟩,rfl,hz,hw⟩
theorem Yae(W:Wn G S N)(hx:Gd G S N n x a)(hn:n<=190): C0 353 [.d (dN x)] (OnG G S N n a):=by
 refine En Tryz.func353 λ_ _ _=>?_
 refine Ca rfl (P9.Neg_g W hx hn) λv hv=>?_
 obtain⟨z,rfl,hz⟩:=hv
 refine Ca rfl (P9.Neg_g W hz hn) λv hv=>?_
 obtain⟨w,rfl,hw⟩:=hv
 rw[(Xax K G).nn] at hw
 exact Rt rfl (.one (.rf rfl) rfl rfl) ⟨w,rfl,hw⟩
theorem Left_g(W:Wn G S N)(hu:Gv G S N n u p)(hn:n<=190): C0 311 [.d (dV u)] (VeG G S N n (neg K p.2,p.1)):=by
 refine En Tryz.func311 λ_ _ _=>?_
 refine Dw rfl ?_
 refine Ca rfl (P9.Neg_g W hu.y hn) λv hv=>?_
 obtain⟨z,rfl,hz⟩:=hv
 refine Ca rfl (Yae W hu.x hn) λv hv=>?_
 obtain⟨w,rfl,hw⟩:=hv
 exact Rt rfl (.one (.rf rfl) rfl rfl) ⟨⟨z,w⟩,rfl,hz,hw⟩
theorem Dot_g(W:Wn G S N)(hu:Gv G S N n u p)(hs:Gv G S N m s q)(hn:n<=190)(hm:m<=190)(h2:n+m<=190): C0 259 [.d (dV u),.d (dV s)] (OpG G S N (n+m+(n+m)) (Xao G p q)):=by
 refine En Tryz.func259 λ_ _ _=>?_
 refine Ca rfl (Yap W hu hs hn hm) λv hv=>?_
 obtain⟨r,rfl,hr⟩:=hv
 refine No rfl (by simp) ?_
 refine Ca rfl (P9.Add_g W hr.x hr.y h2 h2) λv hv=>?_
 obtain⟨z,rfl,hz⟩:=hv
 exact Rt rfl (.tup (.cons (.rf rfl) Xbg)) ⟨z,rfl,hz⟩
theorem Cross_g(W:Wn G S N)(hu:Gv G S N n u p)(hs:Gv G S N m s q)(hn:n<=190)(hm:m<=190)(h2:n+m<=190): C0 258 [.d (dV u),.d (dV s)] (OpG G S N (n+m+(n+m)) (Xai G p q)):=by
 refine En Tryz.func258 λ_ _ _=>?_
 refine Dw rfl ?_
 refine Ca rfl (Left_g W hu hn) λv hv=>?_
 obtain⟨r,rfl,hr⟩:=hv
 refine Ca rfl (Dot_g W hr hs hn hm h2) λv hv=>?_
 obtain⟨z,rfl,hz⟩:=hv
 exact Rt rfl (.tup (.cons (.rf rfl) Xbg)) ⟨z,rfl,hz⟩
theorem Zero_g(W:Wn G S N)(hu:Gv G S N n u p)(hn:n<=800): C0 261 [.d (dV u)] (·=.b (dc (p=vz K))):=by
 refine En Tryz.func261 λ_ _ _=>?_
 refine Ce rfl (P9.Sign_g W hu.x hn) ?_
 refine By rfl (λh=>?_) λh=>?_
 . refine Ce rfl (P9.Sign_g W hu.y hn) ?_
   exact R1 rfl (.bp (Xaw.trans ⟨λh2=>(Xe3 W.w.g).2 ⟨h,h2⟩,λh2=>((Xe3 W.w.g).1 h2).2⟩))
 . exact R1 rfl (.bp ⟨nofun,λh2=>absurd ((Xe3 W.w.g).1 h2).1 h⟩)
end P13
namespace P19
theorem Xr3(W:Wn G S N)(hu:Gv G S N n u p)(hs:Gv G S N m s q)(h2:n+m<=190): C0 262 [.d (dV u),.d (dV s)] (VoG G S N (n+m+(n+m)) (Xap G p q)):=by
 refine En Tryz.func262 λ_ _ _=>?_
 refine Dw rfl ?_
 refine Ca rfl (P9.Neg_g W hu.y (by omega)) λv hv=>?_
 obtain⟨z,rfl,hz⟩:=hv
 refine Ca rfl (P13.Dot_g (u:=⟨u.x,z⟩) (p:=Xa2 p) W ⟨hu.x,hz⟩ hs (by omega) (by omega) h2) λv hv=>?_
 obtain⟨d,rfl,hd⟩:=hv
 rw[Xsy] at hd
 refine No rfl (by simp) ?_
 refine Dw rfl ?_
 refine Ca rfl (P9.Neg_g W hu.y (by omega)) λv hv=>?_
 obtain⟨z',rfl,hz'⟩:=hv
 refine Ca rfl (P13.Cross_g (u:=⟨u.x,z'⟩) (p:=Xa2 p) W ⟨hu.x,hz'⟩ hs (by omega) (by omega) h2) λv hv=>?_
 obtain⟨c,rfl,hc⟩:=hv
 rw[Ya9] at hc
 refine No rfl (by simp) ?_
 exact Rt rfl (.tup (.cons (.rf rfl) Xbg)) ⟨⟨d,c⟩,rfl,hd,hc⟩
theorem Xs2(W:Wn G S N)(hu:Gv G S N n u p)(hn:n<=800): C0 264 [.d (dV u)] (·=.b (dc (vup G p))):=by
 refine En Tryz.func264 λ_ _ _=>?_
 refine Ce rfl (P9.Sign_g W hu.y hn) ?_
 refine By rfl (λh=>?_) λh=>?_
 . exact R1 rfl (.bp ⟨λ_=>.inl h,λ_=>rfl⟩)
 . refine By rfl (λh2=>?_) λh2=>?_
   . refine Ce rfl (P9.Sign_g W hu.x hn) ?_
     exact R1 rfl (.bp (Xaw.trans ⟨λh3=>.inr ⟨h2,h3⟩,λh3=>h3.elim (λe=>absurd e h) λe=>e.2⟩))
   . exact R1 rfl (.bp ⟨nofun,λh3=>h3.elim (λe=>absurd e h) λe=>absurd e.1 h2⟩)
theorem Xwz(W:Wn G S N)(hu:Gv G S N n u p)(hs:Gv G S N m s q)(h2:n+m<=190): C0 199 [.d (dV u),.d (dV s)] (·=.tup (.pr (.d (.int .i64 (Xb9 G p q))) (.d (.int .i64 0)))):=by
 refine En Tryz.func199 λ_ _ _=>?_
 refine Dw rfl ?_
 refine Ce rfl (Xs2 W hu (by omega)) ?_
 refine Ce rfl (Xs2 W hs (by omega)) ?_
 unfold Xb9
 refine By rfl (λh=>?_) λh=>?_
 . refine By rfl (λh1=>?_) λh1=>?_
   . rw[if_neg (by simp[Xaw,h1] at h |-;exact h),if_pos h1]
     exact RTt rfl (.cons (.rf rfl) Xbg)
   . rw[if_neg (by simp[Xaw,h1] at h |-;exact h),if_neg h1]
     exact RTt rfl (.cons (.rf rfl) Xbg)
 . have d1:dc True=true:=Xaw.2 trivial
   have d2:dc False=false:=W4c.2 λh=>Xaw.1 h
   have h:vup G p↔vup G q:=by
    by_cases h1:vup G p<;>by_cases h2:vup G q<;>simp[h1,h2,d1,d2] at h |-
   rw[if_pos h]
   refine Ca rfl (P13.Cross_g W hu hs (by omega) (by omega) h2) λv hv=>?_
   obtain⟨z,rfl,hz⟩:=hv
   refine Ce rfl (P9.Sign_g W hz (by omega)) ?_
   have ht:=Xda G (Xai G p q)
   refine Ne (-sgn K G (Xai G p q)) rfl ?_ (wr (Int.zero_sub _) (by simp only[inK];omega))
   exact RTt rfl (.cons (.rf rfl) Xbg)
theorem Cmp_g(W:Wn G S N)(hu:Gv G S N n u p)(hs:Gv G S N m s q)(h2:n+m<=190): C0 122 [.d (dT u f),.d (dT s g)] (·=.tup (.pr (.d (.int .i64 (Ylq G p q f g))) (.d (.int .i64 0)))):=by
 refine En Tryz.func122 λ_ _ _=>?_
 unfold Ylq
 refine By rfl (λh=>?_) λh=>?_
 . rw[if_pos h];exact RTt rfl (.cons (.rf rfl) Xbg)
 rw[if_neg h]
 refine By rfl (λh=>?_) λh=>?_
 . rw[if_pos h];exact RTt rfl (.cons (.rf rfl) Xbg)
 rw[if_neg h]
 refine Ce rfl (Xwz W hu hs h2) ?_
 refine No rfl (by simp) ?_
 exact RTt rfl (.cons (.rf rfl) Xbg)
def Trm(x:Nm): Prop:=C0 175 [.d (dN x)] (·=.d (dN x))
theorem Xoo(W:Wn G S N)(hu:Gv G S N n u p)(ht:Trm u.x)(hn:n<=190): C0 263 [.d (dV u)] (VeG G S N n (Xa2 p)):=by
 refine En Tryz.func263 λ_ _ _=>?_
 refine Dw rfl ?_
 refine Ce rfl ht ?_
 refine Ca rfl (P9.Neg_g W hu.y hn) λv hv=>?_
 obtain⟨z,rfl,hz⟩:=hv
 exact Rt rfl (.one (.rf rfl) rfl rfl) ⟨⟨u.x,z⟩,rfl,hu.x,hz⟩
def OfG(G:Tw K)(S:List (Tow.El K))(N:List Nm)(n:Nat)(p q:V2 K)(r:AV): Prop:=(¬(p=vz K\/q=vz K)/\∃v,r=.tup (.pr (.d (dT v 0)) (.d (.int .i64 0)))/\Gv G S N n v (Xap G (Xa2 p) q))\/((p=vz K\/q=vz K)/\r=.tup (.pr (.d dT0) (.d (.int .i64 6))))
theorem Of_g(W:Wn G S N)(hu:Gv G S N n u p)(hs:Gv G S N m s q)(ht:Trm u.x)(h2:n+m<=190): C0 198 [.d (dV u),.d (dV s)] (OfG G S N (n+m+(n+m)) p q):=by
 refine En Tryz.func198 λ_ _ _=>?_
 refine Ce rfl (P13.Zero_g W hu (by omega)) ?_
 refine By rfl (λh=>?_) λh=>?_
 . exact Rt rfl (.tup (.cons Xr8 Xbg)) (.inr ⟨.inl h,rfl⟩)
 . refine Ce rfl (P13.Zero_g W hs (by omega)) ?_
   refine By rfl (λh1=>?_) λh1=>?_
   . exact Rt rfl (.tup (.cons Xr8 Xbg)) (.inr ⟨.inr h1,rfl⟩)
   refine Dw rfl ?_
   refine Ca rfl (Xoo W hu ht (by omega)) λv hv=>?_
   obtain⟨c,rfl,hc⟩:=hv
   refine Ca rfl (Xr3 W hc hs h2) λv hv=>?_
   obtain⟨d,rfl,hd⟩:=hv
   refine No rfl (by simp) ?_
   exact Rt rfl (.tup (.cons (.rf rfl) Xbg)) (.inl ⟨λe=>e.elim h h1,d,rfl,hd⟩)
end P19
end
end Go.Proofs.YtchflpokfamkhaaGreatDoor
namespace Go.Vm
open Go
section
variable{c:Cx}{s:St}{p:Pl}
noncomputable def You(tb:Nat->Option TI)(n:Nat)(s:St): Option (Pl×Nat×Nat×Int×Nat×Nat):=match nxA tb n s with
 | some (p,o,[.ptr q off,.d (.int _ j)])=>match o.op with
  | .indexAddr T _ _=>match tb T with
   | some ⟨.st _,e,_,ar⟩=>some (p,q,off,j,e.size,ar)
   | _=>none
  | _=>none
 | _=>none
theorem Ia(i:Nat){q off sz ar:Nat}{j:Int}(h:You c.tb c.n s=some (p,q,off,j,sz,ar))(hi:i<ar)(kk:p.nx c (.ptr q (off+i*sz)))(hj:j=(i:Int):=by first | exact rfl | omega): StP c s:=by
 subst hj
 unfold You at h
 split at h<;>try cases h
 rename_i p' o q1 off1 k1 j1 hA
 split at h<;>try cases h
 rename_i T x y ho
 split at h<;>try cases h
 rename_i z e eb ht
 refine Xcf (v:=.ptr q (off+i*e.size)) (us:=[]) hA ?_ (Pl.nx_nil kk)
 rw[ho]
 simp[F,Fp,ht,hi]
end
end Go.Vm
namespace Go.Proofs.YtchflpokfamkhaaGreatDoor
open Go Go.Vm Go.Num Go.Tow
theorem Xv5{c:Bool}{g:Hp}{K:Hpl}: FitT g K (.b c) (.b c):=.one (.rf rfl) (λ_ _ e=>by cases e) (λ_ _ e=>by cases e)
end Go.Proofs.YtchflpokfamkhaaGreatDoor
namespace Go.Proofs.YtchflpokfamkhaaGreatDoor.P9
open Go Go.Vm Go.Num Go.Tow Go.Proofs.YtchflpokfamkhaaGreatDoor
end Go.Proofs.YtchflpokfamkhaaGreatDoor.P9
namespace Go.Proofs.YtchflpokfamkhaaGreatDoor
open Go Go.Vm Go.Num Go.Tow
section
variable{K:Nat}{G:Tw K}{S:List (Tow.El K)}{N:List Nm}{n m k:Nat}{x y z:Nm}{a b v w:Tow.El K}{u s t:Vn}{p q r:V2 K}
def Xaj{K:Nat}(p q:V2 K): V2 K:=(Tow.add K p.1 (Tow.neg K q.1),Tow.add K p.2 (Tow.neg K q.2))
def Xed{K:Nat}(p q:V2 K): V2 K:=(Tow.add K p.1 q.1,Tow.add K p.2 q.2)
theorem P9.Sub_g(W:Wn G S N)(hx:Gd G S N n x v)(hy:Gd G S N m y w)(hn:n<=190)(hm:m<=190): C0 161 [.d (dN x),.d (dN y)] (OpG G S N (n+m) (Tow.add K v (Tow.neg K w))):=(P9.Sub_ok W.w (hx.op hn) (hy.op hm) (by decide)).mono λ_ ⟨z,e,h⟩=>⟨z,e,hx.add W hy.neg h⟩
theorem Yhm{K:Nat}{a b:Tow.El K}: toL K a=toL K b↔a=b:=⟨Xhn,λe=>by rw[e]⟩
theorem P9.Equal_g(W:Wn G S N)(hx:Gd G S N n x v)(hy:Gd G S N m y w)(hn:n<=190)(hm:m<=190): C0 111 [.d (dN x),.d (dN y)] (·=.b (dc (v=w))):=by
 have hG:=W.w.g
 have hR:=Xge
 have hx':=hx.op hn
 have hy':=hy.op hm
 obtain⟨ρx,hx1,hx2⟩:=hx'.ex
 obtain⟨ρy,hy1,hy2⟩:=hy'.ex
 have hx3:=W.w.le hx1
 have hy3:=W.w.le hy1
 have hxr:=W.w.t hx1
 have hyr:=W.w.t hy1
 have hpx:=p16 (show x.k<=16 by omega)
 have hJ:jW 3799892570=8*3799892570+73803682:=rfl
 have hj:C0 180 [.d (dNs [x,y])] λv'=>∃m T a b,v'=.tup (.pr (.d (dNs [⟨m,T,a⟩,⟨m,T,b⟩])) (.d (.int .i64 0)))/\R9.JnR G S 3799892570 v w m T a b:=P9.Join_ok W.w hx' hy' (by decide)
 have fin:∀ {k:Nat} {T:Tw k} {a b:Tow.El k} {ρ:Nat->Tow.El K},TOk G S k T ρ->ev G ρ k a=v->ev G ρ k b=w->(dc (toL k a=toL k b)=true↔v=w):=λ{k T a b ρ} h1 h2 h3=>by
  rw[Xaw,Yhm,<-h2,<-h3]
  exact⟨λe=>by rw[e],λe=>Xmp (Xae hG) h1.h h1.r e⟩
 refine En Tryz.func111 λ_ _ _=>?_
 refine Ce rfl (P9.begins_ok (T:=toT x.k x.t) (U:=toT y.k y.t) (TS.pt hxr) (TS.pt hyr) (by omega) (by rw[Xaa];omega)) ?_
 refine By rfl (λh1=>?_) λh1=>?_
 . refine Ce rfl (P9.begins_ok (T:=toT y.k y.t) (U:=toT x.k x.t) (TS.pt hyr) (TS.pt hxr) (by omega) (by rw[Xaa];omega)) ?_
   refine By rfl (λh2=>?_) λh2=>?_
   . refine Ce rfl (P9.sameElement_ok hx'.p.ps hy'.p.ps (by omega) (by rw[Xab];omega)) ?_
     refine R1 rfl (.bp ?_)
     have e1:(toT x.k x.t).take (toT y.k y.t).length=toT y.k y.t:=h1
     have e2:(toT y.k y.t).take (toT x.k x.t).length=toT x.k x.t:=h2
     have l1:=congrArg List.length e1
     have l2:=congrArg List.length e2
     rw[W0i,Xaa,Xaa] at l1 l2
     obtain⟨kx,tx,ax⟩:=x
     obtain⟨ky,ty,ay⟩:=y
     have l1:min ky kx=ky:=l1
     have l2:min kx ky=kx:=l2
     obtain rfl:kx=ky:=by omega
     have e3:toT kx tx=toT kx ty:=by
      have e1:(toT kx tx).take (toT kx ty).length=toT kx ty:=e1
      rwa[Xaa,W0a (by rw[Xaa];omega)] at e1
     obtain rfl:=Xka e3
     have hy2:ev G ρx kx ay=w:=by rw[<-hy2];exact Xb3 λi hi=>Hom.uniq hG hx1.h hy1.h i hi
     exact fin hx1 hx2 hy2
   . refine Ca rfl hj λv' hv=>?_
     obtain⟨m',T,a,b,rfl,ρ,j1,j2,j3,j4,j5⟩:=hv
     have jm:=W.w.le j1
     have jp:=p16 (show m'<=16 by omega)
     refine Yes rfl (by decide) ?_
     refine Dw rfl ?_
     refine Ix 0 rfl (u:=dN ⟨m',T,a⟩) rfl ?_
     refine Ix 1 rfl (u:=dN ⟨m',T,b⟩) rfl ?_
     refine Ce rfl (P9.sameElement_ok (l:=toL m' a) (m:=toL m' b) j4.ps j5.ps (by omega) (by rw[Xab];omega)) ?_
     exact R1 rfl (.bp (fin j1 j2 j3))
 . refine Ca rfl hj λv' hv=>?_
   obtain⟨m',T,a,b,rfl,ρ,j1,j2,j3,j4,j5⟩:=hv
   have jm:=W.w.le j1
   have jp:=p16 (show m'<=16 by omega)
   refine Yes rfl (by decide) ?_
   refine Dw rfl ?_
   refine Ix 0 rfl (u:=dN ⟨m',T,a⟩) rfl ?_
   refine Ix 1 rfl (u:=dN ⟨m',T,b⟩) rfl ?_
   refine Ce rfl (P9.sameElement_ok (l:=toL m' a) (m:=toL m' b) j4.ps j5.ps (by omega) (by rw[Xab];omega)) ?_
   exact R1 rfl (.bp (fin j1 j2 j3))
theorem P13.both_add(W:Wn G S N)(hu:Gv G S N n u p)(hs:Gv G S N m s q)(hn:n<=190)(hm:m<=190): C0 114 [.d (dV u),.d (dV s),.d (fnD 115)] (VoG G S N (n+m) (Xed p q)):=by
 refine En Tryz.func114 λ_ _ _=>?_
 refine Ca rfl (P9.Add_g W hu.x hs.x hn hm) λv hv=>?_
 obtain⟨z,rfl,hz⟩:=hv
 refine No rfl (by simp) ?_
 refine Ca rfl (P9.Add_g W hu.y hs.y hn hm) λv hv=>?_
 obtain⟨w,rfl,hw⟩:=hv
 refine No rfl (by simp) ?_
 exact Rt rfl (.tup (.cons (.rf rfl) Xbg)) ⟨⟨z,w⟩,rfl,hz,hw⟩
theorem P13.both_sub(W:Wn G S N)(hu:Gv G S N n u p)(hs:Gv G S N m s q)(hn:n<=190)(hm:m<=190): C0 114 [.d (dV u),.d (dV s),.d (fnD 161)] (VoG G S N (n+m) (Xaj p q)):=by
 refine En Tryz.func114 λ_ _ _=>?_
 refine Ca rfl (P9.Sub_g W hu.x hs.x hn hm) λv hv=>?_
 obtain⟨z,rfl,hz⟩:=hv
 refine No rfl (by simp) ?_
 refine Ca rfl (P9.Sub_g W hu.y hs.y hn hm) λv hv=>?_
 obtain⟨w,rfl,hw⟩:=hv
 refine No rfl (by simp) ?_
 exact Rt rfl (.tup (.cons (.rf rfl) Xbg)) ⟨⟨z,w⟩,rfl,hz,hw⟩
theorem P13.Add_g(W:Wn G S N)(hu:Gv G S N n u p)(hs:Gv G S N m s q)(hn:n<=190)(hm:m<=190): C0 52 [.d (dV u),.d (dV s)] (VoG G S N (n+m) (Xed p q)):=by
 refine En Tryz.func52 λ_ _ _=>?_
 refine Ca rfl (P13.both_add W hu hs hn hm) λv hv=>?_
 obtain⟨r,rfl,hr⟩:=hv
 exact Rt rfl (.tup (.cons (.rf rfl) Xbg)) ⟨r,rfl,hr⟩
theorem P13.Sub_g(W:Wn G S N)(hu:Gv G S N n u p)(hs:Gv G S N m s q)(hn:n<=190)(hm:m<=190): C0 97 [.d (dV u),.d (dV s)] (VoG G S N (n+m) (Xaj p q)):=by
 refine En Tryz.func97 λ_ _ _=>?_
 refine Ca rfl (P13.both_sub W hu hs hn hm) λv hv=>?_
 obtain⟨r,rfl,hr⟩:=hv
 exact Rt rfl (.tup (.cons (.rf rfl) Xbg)) ⟨r,rfl,hr⟩
theorem P13.Equal_g(W:Wn G S N)(hu:Gv G S N n u p)(hs:Gv G S N m s q)(hn:n<=190)(hm:m<=190): C0 92 [.d (dV u),.d (dV s)] (·=.b (dc (p=q))):=by
 refine En Tryz.func92 λ_ _ _=>?_
 refine Ce rfl (P9.Equal_g W hu.x hs.x hn hm) ?_
 refine By rfl (λh=>?_) λh=>?_
 . refine Ce rfl (P9.Equal_g W hu.y hs.y hn hm) ?_
   exact R1 rfl (.bp (Xaw.trans ⟨λh2=>W1h h h2,λe=>by rw[e]⟩))
 . exact R1 rfl (.bp ⟨nofun,λe=>absurd (by rw[e]) h⟩)
end
end Go.Proofs.YtchflpokfamkhaaGreatDoor
namespace Go.Proofs.YtchflpokfamkhaaGreatDoor.P15
open Go Go.Vm Go.Num Go.Tow Go.Proofs.YtchflpokfamkhaaGreatDoor
section
variable{K:Nat}{G:Tw K}{S:List (Tow.El K)}{N:List Nm}{n m k:Nat}{x y z:Nm}{a b v w:Tow.El K}{u s t:Vn}{p q r:V2 K}
theorem note_ok: CN0 346 [.ptr 1000001 0,.d (.int .i64 0)] [(1000001,cal)] IsB:=by
 refine EnW Tryz.func346 λ_ _ _ _=>?_
 refine Yes rfl (by decide) ?_
 exact Rw [] [(1000001,cal)] rfl (.one (.rf rfl) rfl rfl) ⟨rfl,_,rfl⟩
theorem Ydi{f:FuncId}(hf:C0 f [.d (dN x),.d (dN y)] (OpG G S N n w)): CN0 307 [.ptr 1000001 0,.d (fnD f),.d (dN x),.d (dN y)] [(1000001,cal)] (OnG G S N n w):=by
 refine EnW Tryz.func307 λ_ _ _ _=>?_
 refine No rfl (by decide) ?_
 refine Ca rfl hf λv hv=>?_
 obtain⟨z,rfl,hz⟩:=hv
 refine Cn [] rfl note_ok λv hv=>?_
 obtain⟨_,rfl⟩:=hv
 exact Rw [] [(1000001,cal)] rfl (.one (.rf rfl) rfl rfl) ⟨rfl,z,rfl,hz⟩
theorem Yn1(W:Wn G S N)(hx:Gd G S N n x v)(hy:Gd G S N m y w)(hn:n<=190)(hm:m<=190): CN0 240 [.ptr 1000001 0,.d (dN x),.d (dN y)] [(1000001,cal)] (OnG G S N (n+m) (Tow.add K v w)):=by
 refine EnW Tryz.func240 λ_ _ _ _=>?_
 refine Cn [] rfl (Ydi (P9.Add_g W hx hy hn hm)) λv hv=>?_
 obtain⟨z,rfl,hz⟩:=hv
 exact Rw [] [(1000001,cal)] rfl (.one (.rf rfl) rfl rfl) ⟨rfl,z,rfl,hz⟩
theorem Ydn(W:Wn G S N)(hx:Gd G S N n x v)(hy:Gd G S N m y w)(hn:n<=190)(hm:m<=190): CN0 242 [.ptr 1000001 0,.d (dN x),.d (dN y)] [(1000001,cal)] (OnG G S N (n+m) (Tow.add K v (Tow.neg K w))):=by
 refine EnW Tryz.func242 λ_ _ _ _=>?_
 refine Cn [] rfl (Ydi (P9.Sub_g W hx hy hn hm)) λv hv=>?_
 obtain⟨z,rfl,hz⟩:=hv
 exact Rw [] [(1000001,cal)] rfl (.one (.rf rfl) rfl rfl) ⟨rfl,z,rfl,hz⟩
theorem Yi6(W:Wn G S N)(hx:Gd G S N n x v)(hy:Gd G S N m y w)(hn:n<=190)(hm:m<=190): CN0 241 [.ptr 1000001 0,.d (dN x),.d (dN y)] [(1000001,cal)] (OnG G S N (n+m) (Tow.mul K G v w)):=by
 refine EnW Tryz.func241 λ_ _ _ _=>?_
 refine Cn [] rfl (Ydi (P9.Mul_g W hx hy hn hm)) λv hv=>?_
 obtain⟨z,rfl,hz⟩:=hv
 exact Rw [] [(1000001,cal)] rfl (.one (.rf rfl) rfl rfl) ⟨rfl,z,rfl,hz⟩
theorem Xu2(W:Wn G S N)(hu:Gv G S N n u p)(hs:Gv G S N m s q)(hn:n<=190)(hm:m<=190): CN0 177 [.ptr 1000001 0,.d (dV u),.d (dV s)] [(1000001,cal)] (VeG G S N (n+m) (Xaj p q)):=by
 refine EnW Tryz.func177 λ_ _ _ _=>?_
 refine Dw rfl ?_
 refine Cn [] rfl (Ydn W hu.x hs.x hn hm) λv hv=>?_
 obtain⟨z,rfl,hz⟩:=hv
 refine Cn [] rfl (Ydn W hu.y hs.y hn hm) λv hv=>?_
 obtain⟨w,rfl,hw⟩:=hv
 exact Rw [] [(1000001,cal)] rfl (.one (.rf rfl) rfl rfl) ⟨rfl,⟨z,w⟩,rfl,hz,hw⟩
theorem Xpl(W:Wn G S N)(hu:Gv G S N n u p)(hn:n+n<=190): CN0 176 [.ptr 1000001 0,.d (dV u)] [(1000001,cal)] (OnG G S N (n+n+(n+n)) (Xao G p p)):=by
 refine EnW Tryz.func176 λ_ _ _ _=>?_
 refine Dw rfl ?_
 refine Cn [] rfl (Yi6 W hu.x hu.x (by omega) (by omega)) λv hv=>?_
 obtain⟨z,rfl,hz⟩:=hv
 refine Cn [] rfl (Yi6 W hu.y hu.y (by omega) (by omega)) λv hv=>?_
 obtain⟨w,rfl,hw⟩:=hv
 refine Cn [] rfl (Yn1 W hz hw hn hn) λv hv=>?_
 obtain⟨z,rfl,hz⟩:=hv
 exact Rw [] [(1000001,cal)] rfl (.one (.rf rfl) rfl rfl) ⟨rfl,z,rfl,hz⟩
abbrev dK(u:Vn)(z:Nm): D:=.st (.pr (dV u) (dN z))
theorem Around_g(W:Wn G S N)(hu:Gv G S N n u p)(hs:Gv G S N m s q)(hx:P19.Trm u.x)(hy:P19.Trm u.y)(h2:n+m+(n+m)<=190)(hp:p≠q): C0 110 [.d (dV u),.d (dV s)] (λr=>∃z,r=.tup (.pr (.d (dK u z)) (.d (.int .i64 0)))/\Gd G S N (n+m+(n+m)+(n+m+(n+m))) z (Xao G (Xaj q p) (Xaj q p))):=by
 refine En Tryz.func110 λ_ _ _=>?_
 refine Ce rfl (P13.Equal_g W hu hs (by omega) (by omega)) ?_
 refine No rfl hp ?_
 refine Dw rfl ?_
 refine Ce rfl hx ?_
 refine Ce rfl hy ?_
 refine Cn [(1000001,13)] rfl (Xu2 W hs hu (by omega) (by omega)) λv hv=>?_
 obtain⟨v,rfl,hv⟩:=hv
 refine Cn [(1000001,13)] rfl (Xpl W hv (by omega)) λv hv=>?_
 obtain⟨z,rfl,hz⟩:=hv
 refine No rfl (by decide) ?_
 exact Rt rfl (.tup (.cons (.rf rfl) Xbg)) ⟨z,rfl,hz.mono (by omega)⟩
end
end Go.Proofs.YtchflpokfamkhaaGreatDoor.P15
namespace Go.Proofs.YtchflpokfamkhaaGreatDoor
open Go Go.Vm Go.Num Go.Tow
structure Cv where
 arc:Bool
 A:Vn
 B:Vn
 C:Vn
 cw:Bool
abbrev dC(c:Cv): D:=.st (.pr (.bool c.arc) (.pr (dV c.A) (.pr (dV c.B) (.pr (dV c.C) (.bool c.cw)))))
abbrev Xe8(l:List Cv): D:=.sl 14 (l.map dC)
section
variable{K:Nat}{G:Tw K}{S:List (Tow.El K)}{N:List Nm}{n m k:Nat}{x y z:Nm}{a b v w:Tow.El K}{u s t:Vn}{p q r:V2 K}
namespace P15
theorem Ygj(W:Wn G S N)(hu:Gv G S N n u p)(hz:Gd G S N k z w)(hs:Gv G S N m s q)(h2:n+m+(n+m)+(n+m+(n+m))<=190)(hk:k<=190): C0 196 [.d (dK u z),.d (dV s)] (OpG G S N (m+n+(m+n)+(m+n+(m+n))+k) (Tow.add K (Xao G (Xaj q p) (Xaj q p)) (Tow.neg K w))):=by
 refine En Tryz.func196 λ_ _ _=>?_
 refine Dw rfl ?_
 refine Cn [(1000001,9)] rfl (Xu2 W hs hu (by omega) (by omega)) λv hv=>?_
 obtain⟨v,rfl,hv⟩:=hv
 refine Cn [(1000001,9)] rfl (Xpl W hv (by omega)) λv hv=>?_
 obtain⟨z,rfl,hz1⟩:=hv
 refine Cn [(1000001,9)] rfl (Ydn W hz1 hz (by omega) hk) λv hv=>?_
 obtain⟨z,rfl,hz2⟩:=hv
 refine No rfl (by decide) ?_
 exact Rt rfl (.tup (.cons (.rf rfl) Xbg)) ⟨z,rfl,hz2⟩
theorem Side_g(W:Wn G S N)(hu:Gv G S N n u p)(hz:Gd G S N k z w)(hs:Gv G S N m s q)(h2:n+m+(n+m)+(n+m+(n+m))<=190)(hk:k<=190): C0 118 [.d (dK u z),.d (dV s)] (·=.tup (.pr (.d (.int .i64 (sgn K G (Tow.add K (Xao G (Xaj q p) (Xaj q p)) (Tow.neg K w))))) (.d (.int .i64 0)))):=by
 refine En Tryz.func118 λ_ _ _=>?_
 refine Ca rfl (Ygj W hu hz hs h2 hk) λv hv=>?_
 obtain⟨z,rfl,hz⟩:=hv
 refine No rfl (by decide) ?_
 refine Ce rfl (P9.Sign_g W hz (by omega)) ?_
 exact RTt rfl (.cons (.rf rfl) Xbg)
end P15
namespace P47
theorem Valid_seg{c:Cv}(W:Wn G S N)(ha:c.arc=false)(hu:Gv G S N n c.A p)(hs:Gv G S N m c.B q)(hn:n<=190)(hm:m<=190): C0 49 [.d (dC c)] (·=.b (dc (p≠q))):=by
 obtain⟨_,A,B,C,cw⟩:=c
 obtain rfl:_=false:=ha
 refine En Tryz.func49 λ_ _ _=>?_
 refine Yes rfl nofun ?_
 refine Ce rfl (P13.Equal_g W hu hs hn hm) ?_
 exact R1 rfl (.bp (by rw[Xbq,Xaw]))
theorem around_g{c:Cv}(W:Wn G S N)(hu:Gv G S N n c.C p)(hs:Gv G S N m c.A q)(hx:P19.Trm c.C.x)(hy:P19.Trm c.C.y)(h2:n+m+(n+m)<=190)(hp:p≠q): C0 117 [.d (dC c)] (λr=>∃z,r=.tup (.pr (.d (P15.dK c.C z)) (.d (.int .i64 0)))/\Gd G S N (n+m+(n+m)+(n+m+(n+m))) z (Xao G (Xaj q p) (Xaj q p))):=by
 refine En Tryz.func117 λ_ _ _=>?_
 refine Ca rfl (P15.Around_g W hu hs hx hy h2 hp) λv hv=>?_
 obtain⟨z,rfl,hz⟩:=hv
 exact Rt rfl (.tup (.cons (.rf rfl) Xbg)) ⟨z,rfl,hz⟩
theorem full_g{c:Cv}(W:Wn G S N)(ha:c.arc=true)(hu:Gv G S N n c.A p)(hs:Gv G S N m c.B q)(hn:n<=190)(hm:m<=190): C0 119 [.d (dC c)] (·=.b (dc (p=q))):=by
 obtain⟨_,A,B,C,cw⟩:=c
 obtain rfl:_=true:=ha
 refine En Tryz.func119 λ_ _ _=>?_
 refine Yes rfl rfl ?_
 refine Ce rfl (P13.Equal_g W hu hs hn hm) ?_
 exact R0
end P47
end
end Go.Proofs.YtchflpokfamkhaaGreatDoor
namespace Go.Vm
open Go
section
section
variable{c:Cx}{s:St}{p:Pl}
noncomputable def Yom(tb:Nat->Option TI)(n:Nat)(s:St): Option (Pl×List UInt8×List UInt8):=match nxA tb n s with
 | some (p,o,[.d (.str a),.d (.str b)])=>match o.op with
  | .binOp op _ _ _ _=>match op with
   | .add=>some (p,a,b)
   | _=>none
  | _=>none
 | _=>none
theorem Sc{a b:List UInt8}(t:List UInt8)(h:Yom c.tb c.n s=some (p,a,b))(ht:a++b=t)(hl:a.length+b.length<9223372036854775808)(kk:p.nx c (.d (.str t))): StP c s:=by
 subst ht
 unfold Yom at h
 split at h<;>try cases h
 rename_i hA
 split at h<;>try cases h
 rename_i ho
 split at h<;>cases h
 refine Xcf (us:=[]) hA ?_ (Pl.nx_nil kk)
 rw[ho]
 simp only[F,Fp,Ya2,if_pos hl]
noncomputable def Yi0(tb:Nat->Option TI)(n:Nat)(s:St): Option (Pl×List UInt8×Option Int×Option Int):=match nxA tb n s with
 | some (p,o,asx)=>match o.op with
  | .slice T _ lo hi mx=>match tb T with
   | some ti=>match ti.z,Xls lo hi mx asx with
    | .str _,some (.d (.str s),l,h,none)=>some (p,s,l,h)
    | _,_=>none
   | none=>none
  | _=>none
 | none=>none
theorem Xn3{t:List UInt8}{r:AV}{l h':Option Int}(h:Yi0 c.tb c.n s=some (p,t,l,h'))(hr:slS t l h'=some r)(k:p.nx c r): StP c s:=by
 unfold Yi0 at h
 split at h<;>try cases h
 rename_i hA
 split at h<;>try cases h
 rename_i ho
 split at h<;>try cases h
 rename_i ti ht
 split at h<;>cases h
 rename_i hz hs
 refine Xcf (us:=[]) hA ?_ (Pl.nx_nil k)
 rw[ho]
 simp only[F,Fp,ht,hz,hs,hr]
theorem Stk(j:Nat)(zs:List UInt8){i:Int}{xs:List UInt8}(h:Yi0 c.tb c.n s=some (p,xs,none,some i))(hl:j<=xs.length)(hz:xs.take j=zs)(k:p.nx c (.d (.str zs)))(hj:i=j:=by first | exact rfl | omega): StP c s:=by
 subst hj;subst hz
 refine Xn3 h ?_ k
 rw[slS,if_pos ⟨by omega,by omega⟩];simp
theorem Sdp(j:Nat)(zs:List UInt8){i:Int}{xs:List UInt8}(h:Yi0 c.tb c.n s=some (p,xs,some i,none))(hl:j<=xs.length)(hz:xs.drop j=zs)(k:p.nx c (.d (.str zs)))(hj:i=j:=by first | exact rfl | omega): StP c s:=by
 subst hj;subst hz
 refine Xn3 h ?_ k
 rw[slS,if_pos ⟨by omega,by omega⟩];simp
theorem Smd(i j:Nat)(zs:List UInt8){i' j':Int}{xs:List UInt8}(h:Yi0 c.tb c.n s=some (p,xs,some i',some j'))(hl:i<=j/\j<=xs.length)(hz:(xs.drop i).take (j-i)=zs)(k:p.nx c (.d (.str zs)))(hi:i'=i:=by first | exact rfl | omega)(hj:j'=j:=by first | exact rfl | omega): StP c s:=by
 subst hi;subst hj;subst hz
 refine Xn3 h ?_ k
 rw[slS,if_pos ⟨by omega,by omega,by omega⟩];simp
noncomputable def Yos(tb:Nat->Option TI)(n:Nat)(s:St): Option (Pl×AV):=match nxA tb n s with
 | some (p,o,[a])=>match o.op with
  | .convert S T _=>match tb S,tb T,Ygy a with
   | some ⟨.sl _ _,.int .u8 _,_,_⟩,some ⟨.str _,_,_,_⟩,true=>some (p,a)
   | _,_,_=>none
  | _=>none
 | _=>none
theorem Bs(zs:List UInt8){a:AV}(h:Yos c.tb c.n s=some (p,a))(hz:Ylr a=some zs)(kk:p.nx c (.d (.str zs))): StP c s:=by
 unfold Yos at h
 split at h<;>try cases h
 rename_i hA
 split at h<;>try cases h
 rename_i ho
 split at h<;>cases h
 rename_i h1 h2 h3
 refine Xcf (us:=[]) hA ?_ (Pl.nx_nil kk)
 rw[ho]
 have:∀k z,a≠.d (.int k z):=λk z e=>by subst e;cases h3
 cases a with
 | d x=>cases x<;>first | exact absurd rfl (this _ _) | simp only[F,Fp,h2,h1,hz]
 | _=>simp only[F,Fp,h2,h1,hz]
end
end
section
theorem Xwy{W:GW}{z:D}: ∀ {cs:List Value},(∀x∈z.comps,x.size=1)->D.At W z cs->AtL W 1 z.comps cs/\cs.length=z.comps.length:=by
 have one:∀ {x:D} {cs:List Value},x.size=1->D.At W x cs->AtL W 1 [x] cs/\cs.length=1:=λ{x cs} h1 h =>
  ⟨λi y hi=>by
   cases i with
   | zero=>simp at hi;subst hi;exact⟨cs,h,h1,λj v hj=>by simpa using hj⟩
   | succ i=>simp at hi,by rw[D.at_len x h,h1]⟩
 induction z using D.ind with
 | leaf x h1 h2 =>
  intro cs hs h
  have e:x.comps=[x]:=by cases x<;>first | rfl | exact absurd rfl (h2 _ _)
  rw[e] at hs |-
  exact one (hs x (W0e.2 rfl)) h
 | st a _=>intro cs hs h;exact one (hs _ (W0e.2 rfl)) h
 | pr a c _ ih =>
  intro cs hs ⟨u,v,e,h1,h2⟩
  have hs:∀x∈a::c.comps,x.size=1:=hs
  obtain⟨k1,k2⟩:=one (hs a (W0n ..)) h1
  obtain⟨k3,k4⟩:=ih (λx hx=>hs x (W0w _ hx)) h2
  subst e
  have:=k1.app k3 (by rw[k2];rfl)
  exact⟨this,by rw[W0d,k2,k4];show _=(a::c.comps).length;simp;omega⟩
theorem Stp.vara{N:Nat->Prop}{W:GW}{θ:Loc}{g:Hp}(h:Obs W θ N g){o d b n sz:Nat}{a:AV}{xs:List D}(ho:g o=some (.var a))(hb:(θ o).1=some b)(hB:d<1000000)(hd:g d=none)(hx:(Ob.arr sz xs).R W (λi=>if i=d then (some b,n) else θ i) d):
 Stp N W W θ (λi=>if i=d then (some b,n) else θ i) g (upd (upd g o .dead) d (.arr sz xs)) where
 os:=_root_.rfl
 out:=_root_.rfl
 tape:=_root_.rfl
 size:=W0b _
 same:=λ_ _ _=>_root_.rfl
 A:=λ_ _ _ _=>W3k
 le:=LeF.refl W
 th:=λi y hy=>if_neg λe=>by rw[e,hd] at hy;cases hy
 hi:=λi h=>if_neg (by omega)
 obs:=by
  have hg:∀ {i:Nat} {y:Ob},upd (upd g o .dead) d (.arr sz xs) i=some y->(i=d/\y=.arr sz xs)\/(i≠d/\i=o/\y=.dead)\/(i≠d/\i≠o/\g i=some y):=λ{i y} hy=>by
   rcases Xaf hy with ⟨e1,e2⟩ | ⟨e1,e2⟩
   . exact .inl ⟨e1,e2⟩
   . rcases Xaf e2 with ⟨f1,f2⟩ | ⟨f1,f2⟩
     . exact .inr (.inl ⟨e1,f1,f2⟩)
     . exact .inr (.inr ⟨e1,f1,f2⟩)
  have hnd:∀ {i:Nat},(∃z,g i=some z)->i≠d:=λ⟨z,hz⟩ e=>by rw[e,hd] at hz;cases hz
  refine⟨λi y hy=>?_,λi y b' hy hl hb'=>?_,λi j y y' b' hy hy' hl hl' b1 b2=>?_,λi y j hy hj=>?_⟩
  . rcases hg hy with ⟨rfl,rfl⟩ | ⟨_,_,rfl⟩ | ⟨e1,e2,e3⟩
    . exact hx
    . trivial
    . exact(h.r i y e3).keep (LeF.refl W) (if_neg e1) (λj hj=>if_neg (hnd (h.ids i y j e3 hj))) λ_ _ _=>⟨_root_.rfl,λ_ h=>h⟩
  . rcases hg hy with ⟨rfl,rfl⟩ | ⟨_,_,rfl⟩ | ⟨e1,e2,e3⟩
    . rw[if_pos _root_.rfl] at hb'
      exact h.new o _ b' ho _root_.rfl (hb.trans hb')
    . cases hl
    . rw[if_neg e1] at hb';exact h.new i y b' e3 hl hb'
  . rcases hg hy with ⟨rfl,rfl⟩ | ⟨_,_,rfl⟩ | ⟨e1,e2,e3⟩
    . rcases hg hy' with ⟨rfl,rfl⟩ | ⟨_,_,rfl⟩ | ⟨f1,f2,f3⟩
      . exact _root_.rfl
      . cases hl'
      . rw[if_pos _root_.rfl] at b1;rw[if_neg f1] at b2
        exact absurd (h.dis j o y' _ b' f3 ho hl' _root_.rfl b2 (hb.trans b1)) f2
    . cases hl
    . rcases hg hy' with ⟨rfl,rfl⟩ | ⟨_,_,rfl⟩ | ⟨f1,f2,f3⟩
      . rw[if_pos _root_.rfl] at b2;rw[if_neg e1] at b1
        exact absurd (h.dis i o y _ b' e3 ho hl _root_.rfl b1 (hb.trans b2)) e2
      . cases hl'
      . rw[if_neg e1] at b1;rw[if_neg f1] at b2;exact h.dis i j y y' b' e3 f3 hl hl' b1 b2
  . rcases hg hy with ⟨rfl,rfl⟩ | ⟨_,_,rfl⟩ | ⟨e1,e2,e3⟩
    . exact hj.elim
    . exact hj.elim
    . have hz:=h.ids i y j e3 hj
      rw[Xaq (hnd hz)]
      by_cases e:j=o
      . subst e;exact⟨_,Xal _ _ _⟩
      . rw[Xaq e];exact hz
 dom:=λi y hy=>by
  rw[Xaq (λe=>by rw[e,hd] at hy;cases hy)]
  by_cases e:i=o
  . subst e;exact⟨_,Xal _ _ _⟩
  . exact⟨y,by rw[Xaq e];exact hy⟩
section
variable{c:Cx}{s:St}{p:Pl}
noncomputable def Yok(tb:Nat->Option TI)(n id t:Nat)(s:St): Option (List Kt×Env×Hpl×Nat×D):=match runT tb n id 1000 s with
 | .j _ K E H=>match look E t with
  | some (.ptr o 0)=>match look H o with
   | some (.var (.d (.st z)))=>some (K,E,H,o,z)
   | _=>none
  | _=>none
 | _=>none
theorem Va(id t d m:Nat)(xs:List D){K:List Kt}{E:Env}{H:Hpl}{o:Nat}{z:D}(h:Yok c.tb c.n id t s=some (K,E,H,o,z))(hz:z.comps=xs)(hs:∀x∈xs,x.size=1)(hm:xs.length=m)(k:StP c (.j [] K ((t,.ap d m)::E) ((d,.arr 1 xs)::(o,.dead)::H)))
 (hd:(Nat.blt d 1000000 && !Xck H d&&Nat.blt m 1000000)=true:=by exact rfl):StP c s:=by
 subst hz
 simp only[W0g,W1n] at hd
 obtain⟨⟨hd1,hd2⟩,hm1⟩:=hd
 have hd1:=Xqk hd1
 have hm1:=Xqk hm1
 have hdn:look H d=none:=Xbu hd2
 unfold Yok at h
 split at h<;>try cases h
 rename_i hr
 split at h<;>try cases h
 rename_i he
 split at h<;>cases h
 rename_i ho
 refine Xhw (id:=id) 1000 ?_
 rw[hr]
 rintro a w ⟨s0,W,θ,hw,hs0,hθ,rfl⟩
 obtain⟨b,cs,T',r1,r2,r3,r4⟩:=hs0.obs.r _ _ ho
 have r3:D.At W z cs:=r3
 obtain⟨k1,k2⟩:=Xwy hs r3
 have st:=Stp.vara (n:=m) (sz:=1) (xs:=z.comps) hs0.obs ho r1 hd1 hdn ⟨b,cs,T',by simp,r2,by rw[k2,hm];simp,by simp only[if_true];omega,by simp only[if_true];omega,k1,r4⟩
 have h1:=hs0.step0 st
 refine k a w ⟨_,W,_,hw,?_,λi hi=>(st.hi i hi).trans (hθ i hi),rfl⟩
 rw[show sem ((t,AV.ap d m)::E) ((d,Ob.arr 1 z.comps)::(o,Ob.dead)::H)=(upd (look E) t (.ap d m),upd (upd (look H) o .dead) d (.arr 1 z.comps)) by rw[Xbh,Xbh,Xbh]]
 refine⟨h1.fm,⟨h1.rel.defers,h1.rel.size,λq v hq=>?_⟩,h1.obs,λq v i hq hi=>?_⟩
 . rcases Xaf hq with ⟨e1,e2⟩ | ⟨e1,e2⟩
   . subst e1;subst e2
     obtain⟨b',f1,f2⟩:=Xi5 (hs0.rel.has q _ he)
     rw[r1] at f1;injection f1 with f1;subst f1
     exact⟨_,⟨b,by simp,by simp,rfl⟩,f2⟩
   . exact h1.rel.has q v e2
 . rcases Xaf hq with ⟨e1,e2⟩ | ⟨e1,e2⟩
   . subst e2
     have hi:i=d:=hi
     subst hi
     exact⟨_,Xal _ _ _⟩
   . exact h1.ids q v i e2 hi
noncomputable def Yol(tb:Nat->Option TI)(n:Nat)(s:St): Option (Pl×Oper×TypeId×Operand×Operand×Nat×Nat×Nat×Nat×D×Int):=match nxO tb n s with
 | some (p,o)=>match o.op,p.dr with
  | .slice T x none (some y) none,false=>match Xdt (look p.E) x,Xdt (look p.E) y,tb T with
   | some (.ap q m),some (.d (.int _ j)),some ⟨.st z,e,eb,ar⟩=>match Nat.beq m ar,look p.H q with
    | true,some _=>some (p,o,T,x,y,q,m,e.size,eb,z,j)
    | _,_=>none
   | _,_,_=>none
  | _,_=>none
 | none=>none
theorem Sp(j:Nat){o:Oper}{T:TypeId}{x y:Operand}{q m sz eb:Nat}{z:D}{i:Int}(h:Yol c.tb c.n s=some (p,o,T,x,y,q,m,sz,eb,z,i))(hj:j<=m)(h0:0<m)(k:p.nx c (.own q sz 0 j))(hm:m<1000000)(hi:i=(j:Int):=by first | exact rfl | omega): StP c s:=by
 subst hi
 unfold Yol at h
 split at h<;>try cases h
 rename_i p' o' ho
 split at h<;>try cases h
 rename_i T' x' y' hop hdr
 split at h<;>try cases h
 rename_i k2 e eb' ar hx hy hti
 split at h<;>cases h
 rename_i hH hma
 have hma:=W0f hma
 subst hma
 refine Xzh (us:=[]) ho (by unfold Xav;rw[hop];rfl) hdr (λN W θ ρ _ hO hN hB hv=>?_) (Pl.nx_nil k)
 obtain⟨hk,_⟩:=c.hT _ _ hti
 obtain⟨t,u1,_,u3⟩:=hk.u
 simp only[show ¬m=0 by omega,if_false] at u3
 obtain⟨E,e1,i,v0,i1,i2,_⟩:=u3
 subst e1
 obtain⟨cs,⟨b,f1,f2,f3⟩,f4⟩:=hv _ _ hx
 subst f3
 have f4:ρ x=.pointer (some ⟨b,0,none⟩):=f4
 obtain⟨ey,_⟩:=Xdj (hv _ _ hy)
 have hg:(sem p.E p.H).2 q=some _:=hH
 refine .val (u:=.slice (some ⟨b,0,none⟩) j m) hO ?_ ?_ (λi hi=>by subst hi;exact⟨_,hg⟩)
 . have hm0:¬m=0:=by omega
   simp[execOp,hop,f4,ey,Instr.sliceAt,Instr.sureAddr,Instr.sliceBounds,Instr.sliceBound,asIntOf,sizeOf,typeInfo,underlying,program,bind,Sem.bind,Sem.run,pure,u1,i1,i2,hm0,hj,add0]
 . exact⟨[.slice (some ⟨b,0,none⟩) j m],⟨b,some ⟨b,0,none⟩,f1,by omega,by omega,by rw[f2,W6s],λ_=>by rw[W4x]⟩,rfl⟩
noncomputable def Yot(tb:Nat->Option TI)(n:Nat)(s:St): Option (Pl×Oper×TypeId×TypeId×Operand×Nat×Nat×Nat×List D):=match nxO tb n s with
 | some (p,o)=>match o.op,p.dr with
  | .convert S T x,false=>match Xdt (look p.E) x,tb S,tb T with
   | some (.own q 1 l m),some ⟨.sl _ _,.int .u8 _,_,_⟩,some ⟨.str _,_,_,_⟩=>match look p.H q with
    | some (.arr 1 xs)=>some (p,o,S,T,x,q,l,m,xs)
    | _=>none
   | _,_,_=>none
  | _,_=>none
 | none=>none
theorem Bo(zs:List UInt8){o:Oper}{S T:TypeId}{x:Operand}{q l m:Nat}{xs:List D}(h:Yot c.tb c.n s=some (p,o,S,T,x,q,l,m,xs))(hl:l+m<=xs.length)(hz:Yam ((xs.drop l).take m)=some zs)(k:p.nx c (.d (.str zs))): StP c s:=by
 unfold Yot at h
 split at h<;>try cases h
 rename_i p' o' ho
 split at h<;>try cases h
 rename_i S' T' x' hop hdr
 split at h<;>try cases h
 rename_i hx hS hT
 split at h<;>cases h
 rename_i hH
 refine Xzh (us:=[]) ho (by unfold Xav;rw[hop];rfl) hdr (λN W θ ρ _ hO hN hB hv=>?_) (Pl.nx_nil k)
 obtain⟨hk,_⟩:=c.hT _ _ hS
 obtain⟨t,u1,_,E,u3,_⟩:=hk.u
 subst u3
 obtain⟨t',u1',_,u3⟩:=(c.hT _ _ hT).1.u
 have u3:t'=.string:=u3
 subst u3
 have ue:=hk.k E _ _ u1 rfl
 obtain⟨b,pp,f1,f2,f3,e,f5⟩:=Xlh (hv _ _ hx)
 obtain⟨b',bs,T1,r1,r2,r3,r4,r5,r6,r7⟩:=hO.r _ _ hH
 rw[f1] at r1;injection r1 with r1;subst r1
 obtain⟨ns,hn1,rfl⟩:=Xle hz
 have hlen:ns.length=m:=by
  have:=congrArg List.length hn1
  simp at this;omega
 refine .val (u:=.string ⟨(ns.map λz=>UInt8.ofNat z.toNat).toArray⟩) hO ?_ (Xlp (by simp;omega)) (λ_ h=>h.elim)
 have hc:(convert S T (ρ x)).run c.P W.w=.ok (.string ⟨(ns.map λz=>UInt8.ofNat z.toNat).toArray⟩) W.w:=by
  rw[e,run_convert_bytes_string W.w S T E pp _ _ u1 ue u1']
  by_cases hm0:m=0
  . subst hm0
    have:ns=[]:=W4k.1 hlen
    subst this
    cases pp with
    | none=>rfl
    | some a=>exact run_bytesToString W.w a _ _ [] rfl
  . rw[f5 (by omega)]
    rw[run_bytesToString W.w _ _ _ ns (by
     have h:=run_loadCells (P:=c.P) (b:=b) (off:=l*1) (w:=W.w) (ns.map (Value.int .u8)) 0 #[] (λj v hj=>by
      rw[W1d] at hj
      cases hz:ns[j]? with
      | none=>rw[hz] at hj;cases hj
      | some z =>
       rw[hz] at hj;injection hj with hj;subst hj
       have hj':((xs.drop l).take m)[j]?=some (.int .u8 z):=by rw[hn1,W1d,hz];rfl
       have hj2:xs[l+j]?=some (.int .u8 z):=by
        rw[W1j] at hj'
        split at hj'
        . rwa[W2p] at hj'
        . cases hj'
       obtain⟨e1,g1,_,g2⟩:=r6 _ _ hj2
       have g1:=g1.1
       subst g1
       have:=g2 0 _ rfl
       rw[show l*1+(0+j)=(l+j)*1+0 by omega,Xbl r2]
       exact this)
     simp only[W0l] at h
     rw[<-hlen]
     simpa [loadCells] using h)]
    have:=Xfj ns []
    rw[show (ByteArray.empty:ByteArray)=⟨([]:List UInt8).toArray⟩ from rfl,this]
    simp
 unfold execOp
 rw[hop]
 simp only
 rw[Sem.run_bind,hc];rfl
noncomputable def Yoq(tb:Nat->Option TI)(n:Nat)(s:St): Option (Pl×Oper×TypeId×Nat×Operand×Nat×Int):=match nxO tb n s with
 | some (p,o)=>match o.op,p.dr with
  | .indexAddr T (.global g) y,false=>match Xdt (look p.E) y,tb T with
   | some (.d (.int _ j)),some ⟨.st _,.int _ _,_,ar⟩=>match Nat.beq ar 0 with
    | false=>some (p,o,T,g,y,ar,j)
    | true=>none
   | _,_=>none
  | _,_=>none
 | none=>none
theorem Gx(j:Nat)(k:IntKind)(z:Int){o:Oper}{T:TypeId}{y:Operand}{g ar:Nat}{i:Int}(h:Yoq c.tb c.n s=some (p,o,T,g,y,ar,i))(hj:j<ar)(hg:∀W,c.gb.g W->Fr W g j (.int k z))(hr:inR k z)(kk:p.nx c (.at (.int k z)))(hi:i=(j:Int):=by first | exact rfl | omega): StP c s:=by
 subst hi
 unfold Yoq at h
 split at h<;>try cases h
 rename_i p' o' ho
 split at h<;>try cases h
 rename_i T' g' y' hop hdr
 split at h<;>try cases h
 rename_i k1 j1 z1 k2 z2 eb ar1 hy hti
 split at h<;>cases h
 rename_i hz
 have hz:¬ar=0:=λe=>by subst e;cases hz
 refine Xzh (us:=[]) ho (by unfold Xav;rw[hop];rfl) hdr (λN W θ ρ hgb hO hN hB hv=>?_) (Pl.nx_nil kk)
 obtain⟨hk,_⟩:=c.hT _ _ hti
 obtain⟨t,u1,_,u3⟩:=hk.u
 simp only[hz,if_false] at u3
 obtain⟨E,e1,i,v0,i1,i2,_⟩:=u3
 subst e1
 obtain⟨ey,_⟩:=Xdj (hv _ _ hy)
 have eg:=hgb.2 g
 have i2:i.size=1:=i2
 refine .val (u:=.pointer (some ⟨g,j,none⟩)) hO ?_ (Ynx (e:=[.int k z]) ⟨rfl,hr⟩ λq v hq=>?_) (λ_ h=>h.elim)
 . have hjl:(j:Int)<(ar:Int):=by omega
   simp[execOp,hop,eg,ey,Instr.indexAt,Instr.sureAddr,asIntOf,sizeOf,typeInfo,underlying,program,bind,Sem.bind,Sem.run,pure,u1,i1,i2,hjl,hj,add0]
 . cases q with
   | zero=>simp at hq;subst hq;exact hg W hgb.1
   | succ q=>simp at hq
end
end
section
end
end Go.Vm
namespace Go.Proofs.YtchflpokfamkhaaGreatDoor
open Go Go.Vm Go.Num
abbrev Tx(s:List UInt8): Prop:=s.length<4611686018427387904
theorem Xg3{s t:List UInt8}(hs:Tx s)(ht:Tx t): C0 228 [.d (.str s),.d (.str t)] (·=.b (dc (s.take t.length=t))):=by
 refine En Tryz.func228 λ_ _ _=>?_
 refine By rfl (λh=>?_) λh=>?_
 . refine Stk t.length _ rfl (by omega) rfl ?_
   exact R1 rfl (.bp Xaw)
 . refine R1 rfl (.bp ⟨λe=>(by cases e),λe=>?_⟩)
   have:=congrArg List.length e
   rw[W0i] at this
   omega
theorem Xnd{s t:List UInt8}(hs:Tx s)(ht:Tx t): C0 100 [.d (.str s),.d (.str t)] (·=.tup (.pr (.d (.str (if s.take t.length=t then s.drop t.length else s))) (.b (dc (s.take t.length=t))))):=by
 have h1:C0 165 [.d (.str s),.d (.str t)] (·=.tup (.pr (.d (.str (if s.take t.length=t then s.drop t.length else s))) (.b (dc (s.take t.length=t))))):=by
  refine En Tryz.func165 λ_ _ _=>?_
  refine Ce rfl (Xg3 hs ht) ?_
  refine By rfl (λh=>?_) λh=>?_
  . refine RTt rfl (.cons (.eq (by rw[if_neg h])) (.one (by exact .bp (c:=false) ⟨λe=>(by cases e),λe=>absurd e h⟩) (λ_ _ e=>by cases e) (λ_ _ e=>by cases e)))
  . have h:=W4d.1 h
    have hl:t.length<=s.length:=by have:=congrArg List.length h;rw[W0i] at this;omega
    refine Sdp t.length _ rfl hl rfl ?_
    refine RTt rfl (.cons (.eq (by rw[if_pos h])) (.one (by exact .bp (c:=true) ⟨λ_=>h,λ_=>rfl⟩) (λ_ _ e=>by cases e) (λ_ _ e=>by cases e)))
 refine En Tryz.func100 λ_ _ _=>?_
 refine Ce rfl h1 ?_
 exact R0t
end Go.Proofs.YtchflpokfamkhaaGreatDoor
namespace Go.Num
def dec(n:Nat): List UInt8:=if h:n<10 then [UInt8.ofNat (48+n)] else dec (n/10)++[UInt8.ofNat (48+n%10)]
termination_by n
decreasing_by omega
theorem Xdv{n:Nat}(h:n<10): dec n=[UInt8.ofNat (48+n)]:=by rw[dec,dif_pos h]
theorem Xf8{n:Nat}(h:10<=n): dec n=dec (n/10)++[UInt8.ofNat (48+n%10)]:=by rw[dec,dif_neg (by omega)]
theorem Xwu(n:Nat): dec n≠[]:=by
 rw[dec];split<;>simp
theorem Xws(n:Nat): 0<(dec n).length:=W6l.2 (Xwu n)
theorem Xfo: ∀(k n:Nat),n<10^(k+1)->(dec n).length<=k+1
 | 0,n,h=>by rw[Xdv (by simpa using h)];simp
 | k+1,n,h=>by
  by_cases h1:n<10
  . rw[Xdv h1];simp
  . rw[Xf8 (by omega),W0d]
    have:=Xfo k (n/10) (W4j (by rw[W0t] at h;omega))
    simp;omega
theorem Xe0: ∀(k n:Nat),10^k<=n->k+1<=(dec n).length
 | 0,n,h=>Xws n
 | k+1,n,h=>by
  rw[W0t] at h
  have:0<10^k:=Nat.pow_pos (by decide)
  rw[Xf8 (by omega),W0d]
  have:=Xe0 k (n/10) (by omega)
  simp;omega
theorem Ykk(n:Nat): n<10^(dec n).length:=by
 induction n using Nat.strongRecOn with
 | ind n ih =>
  by_cases h:n<10
  . rw[Xdv h];simpa using h
  . rw[Xf8 (by omega),W0d]
    have:=ih (n/10) (by omega)
    simp only[W4g]
    rw[W0t];omega
def tx(z:Int): List UInt8:=(if z<0 then [45] else [])++dec z.natAbs
theorem Xza(l:Nat): 4294967296^l<=10^(10*l):=by
 rw[W4w];exact Nat.pow_le_pow_left (by decide) l
theorem Xon(n:Nat): (dec n).length<=10*(dig n).length+1:=by
 refine Xfo _ n (W0q (W0q (by have:=Xb4 (Xad n);rwa[Xag] at this) (Xza _)) (W0k (by decide) (by omega)))
theorem dg{d:Nat}(h:d<10): (UInt8.ofNat (48+d)).toNat=48+d:=by
 rw[UInt8.toNat_ofNat'];exact W3t (by omega)
def Xsv(b:UInt8): Prop:=48<=b.toNat/\b.toNat<=57
theorem Ykl(n:Nat): ∀b∈dec n,Xsv b:=by
 induction n using Nat.strongRecOn with
 | ind n ih =>
  intro b hb
  by_cases h:n<10
  . rw[Xdv h,W0e] at hb;subst hb;exact⟨by rw[dg h];omega,by rw[dg h];omega⟩
  . rw[Xf8 (by omega),W2k,W0e] at hb
    rcases hb with hb | hb
    . exact ih _ (by omega) b hb
    . subst hb;have:=W1z n (show 0<10 by decide);exact⟨by rw[dg this];omega,by rw[dg this];omega⟩
def pad(k:Nat)(d:List UInt8): List UInt8:=List.replicate (k+1-d.length) 48++d
theorem Yed(k:Nat)(d:List UInt8): (pad k d).length=max (k+1) d.length:=by simp[pad];omega
def pt(k:Nat)(p:List UInt8): List UInt8:=if k=0 then p else p.take (p.length-k)++46::p.drop (p.length-k)
def txt(z:Int)(k:Nat): List UInt8:=(if z<0 then [45] else [])++pt k (pad k (dec z.natAbs))
def Xx3(l:List UInt8): Nat:=l.foldl (λa b=>10*a+(b.toNat-48)) 0
theorem Xmt(l:List UInt8)(b:UInt8): Xx3 (l++[b])=10*Xx3 l+(b.toNat-48):=by simp[Xx3]
theorem Xyn{p:List UInt8->Prop}(h0:p [])(hs:∀l b,p l->p (l++[b]))(l:List UInt8): p l:=by
 rw[<-List.reverse_reverse l]
 induction l.reverse with
 | nil=>exact h0
 | cons b l ih=>rw[List.reverse_cons];exact hs _ _ ih
theorem Yfk{l:List UInt8}(h:∀b∈l,Xsv b): Xx3 l<10^l.length:=by
 induction l using Xyn with
 | h0=>decide
 | hs l b ih =>
  have h1:=ih λx hx=>h x (W2a _ hx)
  have h2:=h b (W1g _ (W0e.2 rfl))
  unfold Xsv at h2
  rw[Xmt,W0d,W4g,W0t]
  omega
theorem Yaa(b:UInt8): Xx3 [b]=b.toNat-48:=by simp[Xx3]
end Go.Num
namespace Go.Proofs.YtchflpokfamkhaaGreatDoor
open Go Go.Vm Go.Num Go.Proofs Go.Shelf Go.RowKit
section
def d2(n:Nat): List UInt8:=[UInt8.ofNat (48+n/10),UInt8.ofNat (48+n%10)]
theorem Ykm{n:Nat}(h:10<=n)(h1:n<100): dec n=d2 n:=by rw[Xf8 h,Xdv (by omega)];rfl
def tb2: List UInt8:=(List.range 100).flatMap d2
theorem Xyo{n:Nat}(hn:n<100): C0 302 [.d (.int .i64 n)] (·=.d (.str (dec n))):=by
 refine En Tryz.func302 λ_ _ _=>?_
 refine By rfl (λh=>?_) λh=>?_
 . refine Ar (n+1:Nat) rfl ?_
   refine Smd n (n+1) (dec n) rfl ⟨by omega,by simp;omega⟩ ?_ ?_
   . rw[Xdv (by omega)]
     have h1:n<10:=by omega
     clear hn h
     revert h1;generalize n=j;revert j;decide +kernel
   . exact R0
 . refine Ar (n*2:Nat) rfl ?_
   refine Ar (n*2:Nat) rfl ?_
   refine Ar (n*2+2:Nat) rfl ?_
   refine Smd (n*2) (n*2+2) (dec n) rfl ⟨by omega,by simp;omega⟩ ?_ ?_
   . rw[Ykm (by omega) hn]
     clear h
     revert hn;generalize n=j;revert j;decide +kernel
   . exact R0
theorem Xmb{n:Nat}(hn:n<=64): C0 341 [.d (.int .i64 n)] (·=.d (.int .i64 (n*78913/262144:Nat))):=by
 refine En Tryz.func341 λ_ _ _=>?_
 refine Ar (n*78913:Nat) rfl ?_
 refine Ar (n*78913/2^18:Nat) rfl ?_ (Xix (n:=18) (by decide))
 exact R1 rfl (.eq rfl)
theorem Yaq{p:Prop}: C0 343 [.b (dc p)] (λv=>∃n:Nat,v=.d (.int .i64 n)/\(n=1/\p\/n=0/\¬p)):=by
 refine En Tryz.func343 λ_ _ _=>?_
 refine By rfl (λh=>?_) λh=>?_
 . exact Rt rfl (.one (.rf rfl) rfl rfl) ⟨1,rfl,.inl ⟨rfl,h⟩⟩
 . exact Rt rfl (.one (.rf rfl) rfl rfl) ⟨0,rfl,.inr ⟨rfl,h⟩⟩
theorem Ya1{x:Nat}(hx:x<18446744073709551616): C0 342 [.d (.int .u64 x)] (·=.d (.int .i64 (bl x))):=by
 refine En Tryz.func342 λ_ _ _=>?_
 refine Cu none (λ((x1,n1):Nat×Nat)=>[(0,.d (.int .u64 x1)),(2,.d (.int .i64 n1))]) (λ_=>[]) (λ(x1,n1)=>x1<4294967296/\bl x=bl x1+n1/\n1<=32) rfl ?_ λ⟨x0,n0⟩ ⟨hx0,hb0,hn0⟩=>?_
 . refine By rfl (λh=>?_) λh=>?_
   . refine Ar (x/2^32:Nat) rfl ?_ (Xix (n:=32) (by decide))
     exact Jn (x/2^32,32) [] rfl ⟨by omega,Xe2 (by omega),W0b _⟩
   . exact Jn (x,0) [] rfl ⟨by omega,rfl,by omega⟩
 refine Cu none (λ((x1,n1):Nat×Nat)=>[(0,.d (.int .u64 x1)),(2,.d (.int .i64 n1))]) (λ_=>[]) (λ(x1,n1)=>x1<65536/\bl x=bl x1+n1/\n1<=48) rfl ?_ λ⟨x1,n1⟩ ⟨hx1,hb1,hn1⟩=>?_
 . refine By rfl (λh=>?_) λh=>?_
   . refine Ar (x0/2^16:Nat) rfl ?_ (Xix (n:=16) (by decide))
     refine Ar (n0+16:Nat) rfl ?_
     exact Jn (x0/2^16,n0+16) [] rfl ⟨by omega,by rw[hb0,Xe2 (n:=x0) (k:=16) (by omega)];omega,by omega⟩
   . exact Jn (x0,n0) [] rfl ⟨by omega,hb0,by omega⟩
 refine Cu none (λ((x1,n1):Nat×Nat)=>[(0,.d (.int .u64 x1)),(2,.d (.int .i64 n1))]) (λ_=>[]) (λ(x1,n1)=>x1<256/\bl x=bl x1+n1/\n1<=56) rfl ?_ λ⟨x2,n2⟩ ⟨hx2,hb2,hn2⟩=>?_
 . refine By rfl (λh=>?_) λh=>?_
   . refine Ar (x1/2^8:Nat) rfl ?_ (Xix (n:=8) (by decide))
     refine Ar (n1+8:Nat) rfl ?_
     exact Jn (x1/2^8,n1+8) [] rfl ⟨by omega,by rw[hb1,Xe2 (n:=x1) (k:=8) (by omega)];omega,by omega⟩
   . exact Jn (x1,n1) [] rfl ⟨by omega,hb1,by omega⟩
 have hbl:bl x2<256:=W0q (Ycl (p:=λj=>bl j<10) (by decide +kernel) x2 hx2) (by decide)
 refine Go.Vm.Cv x2 rfl ?_
 refine Yx x2 (UInt8.ofNat (bl x2)) rfl (by revert hx2;generalize x2=j;revert j;decide +kernel) ?_
 refine Go.Vm.Cv (bl x2:Nat) rfl ?_ ((wI ⟨by omega,by rw[Xyd hbl];omega⟩).trans (Xyd hbl))
 refine Ar (bl x:Nat) rfl ?_
 exact R0
theorem Xl8{x:Nat}(h1:100<=x)(hx:x<1000000000): C0 303 [.d (.int .u64 x)] (·=.d (.int .i64 (dec x).length)):=by
 obtain⟨b1,b2,b3⟩:=Xco (n:=x) (by omega)
 have hb7:7<=bl x:=by
  have:2^6<2^bl x:=W1t (by omega) b2
  have:=(W2s (by decide:1<2)).1 this
  omega
 have hb30:bl x<=30:=by
  have:2^(bl x-1)<2^30:=W1t b1 (by omega)
  have:=(W2s (by decide:1<2)).1 this
  omega
 obtain⟨t,ht⟩:∃t,t=bl x*78913/262144:=⟨_,rfl⟩
 have ht9:t<=9:=by omega
 have key:10^(t-1)<=x/\x<10^(t+1)/\1<=t:=by
  have hc:∀b,b<=30->7<=b->10^(b*78913/262144-1)<=2^(b-1)/\2^b<=10^(b*78913/262144+1)/\1<=b*78913/262144:=by decide +kernel
  obtain⟨c1,c2,c3⟩:=hc (bl x) hb30 hb7
  rw[<-ht] at c1 c2 c3
  exact⟨W0h c1 b1,W0q b2 c2,c3⟩
 refine En Tryz.func303 λ_ _ _=>?_
 refine Ce rfl (Ya1 (by omega)) ?_
 refine Ce rfl (show C0 _ _ (·=.d (.int .i64 (t:Nat))) by rw[ht];exact Xmb (by omega)) ?_
 refine Gx t .u64 ((10^t:Nat):Int) rfl (by omega) (λW h=>h t (by omega)) ?_ ?_
 . have:10^t<=10^9:=W0k (by decide) ht9
   exact wr rfl (by simp only[inK];omega)
 refine Ca rfl (C.nb Yaq) λv hv=>?_
 obtain⟨n,rfl,hn⟩:=hv
 refine Ar ((dec x).length:Nat) rfl ?_ ?_
 . exact R0
 . refine wr ?_ ?_
   . rcases hn with ⟨rfl,hp⟩ | ⟨rfl,hp⟩
     . have:=Xfo t x key.2.1
       have:=Xe0 t x (by omega)
       omega
     . have h3:=Xfo (t-1) x (by rw[show t-1+1=t by omega];omega)
       have h4:=Xe0 (t-1) x key.1
       omega
   . have:=Xfo 9 x (by omega)
     simp only[inK];omega
end
section
def dgs: Nat->Nat->List UInt8
 | 0,_=>[]
 | w+1,n=>dgs w (n/10)++[UInt8.ofNat (48+n%10)]
theorem Yfn(w n:Nat): dgs (w+2) n=dgs w (n/100)++d2 (n%100):=by
 rw[dgs,dgs,W5y,d2,show n/10%10=n%100/10 by omega,show n%10=n%100%10 by omega]
 simp
theorem Xwr(n:Nat): dgs (dec n).length n=dec n:=by
 induction n using Nat.strongRecOn with
 | ind n ih =>
  by_cases h:n<10
  . rw[Xdv h];show dgs 1 n=_;rw[dgs,dgs,W3t h];rfl
  . rw[Xf8 (by omega),W0d];show dgs (_+1) n=_
    rw[dgs,ih _ (by omega)]
def b8(b:UInt8): D:=.int .u8 b.toNat
theorem Xw8: ∀l:List UInt8,Yam (l.map b8)=some l
 | []=>rfl
 | b::l=>by
  show (match Yam (l.map b8) with | some s=>some (UInt8.ofNat ((b.toNat:Int)).toNat::s) | none=>none)=_
  rw[Xw8 l];simp
theorem st1{z acc:List UInt8}{i j:Nat}{a:UInt8}(h1:j+1=i)(h2:i<=z.length): ((z.take i++acc).map b8).set j (b8 a)=(z.take j++a::acc).map b8:=by
 subst h1
 rw[<-List.map_set]
 congr 1
 apply W5z
 intro k
 by_cases hk:k<j
 . rw[W1w (by omega),W1b (by simp;omega),W1b (by simp;omega),W1j,W1j,if_pos (by omega),if_pos (by omega)]
 . by_cases hk2:k=j
   . subst hk2
     rw[W2x (by simp;omega),W0z (by simp;omega)]
     have:k-(List.take k z).length=0:=by simp;omega
     rw[this];rfl
   . obtain⟨q,rfl⟩:∃q,k=j+1+q:=⟨k-(j+1),by omega⟩
     rw[W1w (by omega),W0z (by simp;omega),W0z (by simp;omega)]
     have e1:j+1+q-(List.take (j+1) z).length=q:=by simp;omega
     have e2:j+1+q-(List.take j z).length=q+1:=by simp;omega
     rw[e1,e2];simp
def Yoe(l:List UInt8): Prop:=∀v,v<100->l[v*2+1]?=some (UInt8.ofNat (48+v%10))/\l[v*2]?=some (UInt8.ofNat (48+v/10))
instance (l:List UInt8):Decidable (Yoe l):=inferInstanceAs (Decidable (∀v,v<100->_))
theorem quN{k:IntKind}{a b r:Nat}(hb:b≠0)(h:a/b=r)(hk:inK k (r:Int)): arB .quo k (a:Int) (b:Int) (r:Int):=show _/\_ from⟨by omega,wr (by subst h;rfl) hk⟩
theorem reN{k:IntKind}{a b r:Nat}(hb:b≠0)(h:a%b=r): arB .rem k (a:Int) (b:Int) (r:Int):=show _/\_ from⟨by omega,by subst h;rfl⟩
theorem tbl: Yoe (List.flatten ((List.range 100).map d2)):=by decide +kernel
theorem Stb{c:Cx}{s:St}{p:Pl}{q j:Nat}{xs:List D}{z:Int}(a:UInt8){zs:List D}(h:Ymv c.tb c.n s=some (p,q,1,xs,j,.int .u8 z))(hj:j<xs.length)(hz:xs.set j (b8 a)=zs)(k:p.nx' c (.ub True) [(q,.arr 1 zs)])(hza:z=(a.toNat:Int):=by exact rfl): StP c s:=by
 subst hza
 exact Sto h hj hz k
theorem Xij{nd x:Nat}{z0:List UInt8}(h1:nd<=9)(hx:x<1000000000)(hxn:x<10^nd)(hz0:nd<=z0.length)(hz24:z0.length<1000):
 CW0 304 [.own 1000001 1 0 nd,.d (.int .u64 x)] [(1000001,.arr 1 (z0.map b8))] λv H'=>H'=[(1000001,.arr 1 ((dgs nd x++z0.drop nd).map b8))]:=by
 refine EnW Tryz.func304 λ_ _ _ _=>?_
 refine Lo (λ((i,u,acc):Nat×Nat×List UInt8)=>[(0,.own 1000001 1 0 nd),(1,.d (.int .u64 u)),(4,.d (.int .i64 i))]) (λ(i,_,acc)=>[(1000001,.arr 1 ((z0.take i++acc).map b8))])
  (λ(i,u,acc)=>i<=nd/\u<10^i/\u<1000000000/\dgs i u++acc=dgs nd x++z0.drop nd) (λ(i,_,_)=>i) (nd,x,z0.drop nd) [] rfl ⟨W0b _,hxn,hx,rfl⟩ ?_ (by exact⟨rfl,by simp only[W5h];rfl,rfl,rfl,rfl⟩)
 rintro⟨i,u,acc⟩ ⟨hi,hu,hu9,hI⟩
 refine By rfl (λh=>?_) λh=>?_
 . obtain⟨v,hv⟩:∃v,v=u%100000000:=⟨_,rfl⟩
   obtain⟨t6,ht6⟩:∃t,t=v/10000:=⟨_,rfl⟩
   obtain⟨t7,ht7⟩:∃t,t=v%10000:=⟨_,rfl⟩
   obtain⟨v0,hv0⟩:∃w,w=t7%100:=⟨_,rfl⟩
   obtain⟨v1,hv1⟩:∃w,w=t7/100:=⟨_,rfl⟩
   obtain⟨v2,hv2⟩:∃w,w=t6%100:=⟨_,rfl⟩
   obtain⟨v3,hv3⟩:∃w,w=t6/100:=⟨_,rfl⟩
   have Bv0:v0<100:=by omega
   have Bv1:v1<100:=by omega
   have Bv2:v2<100:=by omega
   have Bv3:v3<100:=by omega
   refine Ar (v:Nat) rfl ?_ (reN (b:=100000000) (by decide) hv.symm)
   refine Go.Vm.Cv v rfl ?_
   refine Ar (u/100000000:Nat) rfl ?_ (quN (b:=100000000) (by decide) rfl (by simp only[inK];omega))
   refine Ar t6 rfl ?_ (quN (b:=10000) (by decide) ht6.symm (by simp only[inK];omega))
   refine Ar t7 rfl ?_ (reN (b:=10000) (by decide) ht7.symm)
   refine Ar v1 rfl ?_ (quN (b:=100) (by decide) hv1.symm (by simp only[inK];omega))
   refine Ar (v1*2:Nat) rfl ?_
   refine Ar v0 rfl ?_ (reN (b:=100) (by decide) hv0.symm)
   refine Ar (v0*2:Nat) rfl ?_
   refine Ar v3 rfl ?_ (quN (b:=100) (by decide) hv3.symm (by simp only[inK];omega))
   refine Ar (v3*2:Nat) rfl ?_
   refine Ar v2 rfl ?_ (reN (b:=100) (by decide) hv2.symm)
   refine Ar (v2*2:Nat) rfl ?_
   refine Dw rfl ?_
   refine Ar ((i-1:Nat):Int) rfl ?_
   refine Ar ((i-2:Nat):Int) rfl ?_
   refine Ar ((v0*2+1:Nat):Int) rfl ?_
   refine Yx (v0*2+1) (UInt8.ofNat (48+v0%10)) rfl (tbl v0 Bv0).1 ?_
   refine Yx (v0*2) (UInt8.ofNat (48+v0/10)) rfl (tbl v0 Bv0).2 ?_
   refine Eo (i-1) rfl (by omega) ?_
   refine Stb (UInt8.ofNat (48+v0%10)) rfl (by simp only[W0l,W0d,W0i,W0r];omega) (st1 (by omega) (by omega)) ?_
   refine Eo (i-2) rfl (by omega) ?_
   refine Stb (UInt8.ofNat (48+v0/10)) rfl (by simp only[W0l,W0d,W0i,W0r];omega) (st1 (by omega) (by omega)) ?_
   refine Dw rfl ?_
   refine Ar ((i-3:Nat):Int) rfl ?_
   refine Ar ((i-4:Nat):Int) rfl ?_
   refine Ar ((v1*2+1:Nat):Int) rfl ?_
   refine Yx (v1*2+1) (UInt8.ofNat (48+v1%10)) rfl (tbl v1 Bv1).1 ?_
   refine Yx (v1*2) (UInt8.ofNat (48+v1/10)) rfl (tbl v1 Bv1).2 ?_
   refine Eo (i-3) rfl (by omega) ?_
   refine Stb (UInt8.ofNat (48+v1%10)) rfl (by simp only[W0l,W0d,W0i,W0r];omega) (st1 (by omega) (by omega)) ?_
   refine Eo (i-4) rfl (by omega) ?_
   refine Stb (UInt8.ofNat (48+v1/10)) rfl (by simp only[W0l,W0d,W0i,W0r];omega) (st1 (by omega) (by omega)) ?_
   refine Dw rfl ?_
   refine Ar ((i-5:Nat):Int) rfl ?_
   refine Ar ((i-6:Nat):Int) rfl ?_
   refine Ar ((v2*2+1:Nat):Int) rfl ?_
   refine Yx (v2*2+1) (UInt8.ofNat (48+v2%10)) rfl (tbl v2 Bv2).1 ?_
   refine Yx (v2*2) (UInt8.ofNat (48+v2/10)) rfl (tbl v2 Bv2).2 ?_
   refine Eo (i-5) rfl (by omega) ?_
   refine Stb (UInt8.ofNat (48+v2%10)) rfl (by simp only[W0l,W0d,W0i,W0r];omega) (st1 (by omega) (by omega)) ?_
   refine Eo (i-6) rfl (by omega) ?_
   refine Stb (UInt8.ofNat (48+v2/10)) rfl (by simp only[W0l,W0d,W0i,W0r];omega) (st1 (by omega) (by omega)) ?_
   refine Dw rfl ?_
   refine Ar ((i-7:Nat):Int) rfl ?_
   refine Ar ((i-8:Nat):Int) rfl ?_
   refine Ar ((v3*2+1:Nat):Int) rfl ?_
   refine Yx (v3*2+1) (UInt8.ofNat (48+v3%10)) rfl (tbl v3 Bv3).1 ?_
   refine Yx (v3*2) (UInt8.ofNat (48+v3/10)) rfl (tbl v3 Bv3).2 ?_
   refine Eo (i-7) rfl (by omega) ?_
   refine Stb (UInt8.ofNat (48+v3%10)) rfl (by simp only[W0l,W0d,W0i,W0r];omega) (st1 (by omega) (by omega)) ?_
   refine Eo (i-8) rfl (by omega) ?_
   refine Stb (UInt8.ofNat (48+v3/10)) rfl (by simp only[W0l,W0d,W0i,W0r];omega) (st1 (by omega) (by omega)) ?_
   refine Ar ((i-8:Nat):Int) rfl ?_
   refine Bk (i-8,u/100000000,d2 v3++(d2 v2++(d2 v1++(d2 v0++acc)))) [] rfl ⟨by omega,?_,by omega,?_⟩ (by show i-8<i;omega) (by exact⟨rfl,rfl,rfl,rfl,rfl⟩)
   . obtain⟨q,rfl⟩:∃q,i=q+8:=⟨i-8,by omega⟩
     rw[W0u] at hu
     rw[W3p]
     exact W4j (by rw[W1e];exact hu)
   . obtain⟨q,rfl⟩:∃q,i=q+8:=⟨i-8,by omega⟩
     rw[W3p,<-hI,show q+8=q+6+2 from rfl,Yfn,show q+6=q+4+2 from rfl,Yfn,show q+4=q+2+2 from rfl,Yfn,Yfn]
     rw[show u/100/100/100/100=u/100000000 by omega,show u%100=v0 by omega,show u/100%100=v1 by omega,show u/100/100%100=v2 by omega,show u/100/100/100%100=v3 by omega]
     simp only[W3j]
 have hi8:i<8:=by omega
 have hu8:u<10^8:=W0q hu (W0k (by decide) (by omega))
 refine Go.Vm.Cv u rfl ?_
 refine Cu none (λ((i,u,acc):Nat×Nat×List UInt8)=>[(0,.own 1000001 1 0 nd),(12,.d (.int .u32 u)),(4,.d (.int .i64 i))]) (λ(i,_,acc)=>[(1000001,.arr 1 ((z0.take i++acc).map b8))])
  (λ(i,u,acc)=>i<=nd/\i<4/\u<10^i/\dgs i u++acc=dgs nd x++z0.drop nd) rfl ?_ ?_
 . refine By rfl (λh4=>?_) λh4=>?_
   . obtain⟨v,hv⟩:∃v,v=u%10000:=⟨_,rfl⟩
     obtain⟨v0,hv0⟩:∃w,w=v%100:=⟨_,rfl⟩
     obtain⟨v1,hv1⟩:∃w,w=v/100:=⟨_,rfl⟩
     have Bv0:v0<100:=by omega
     have Bv1:v1<100:=by omega
     refine Ar (v:Nat) rfl ?_ (reN (b:=10000) (by decide) hv.symm)
     refine Ar (u/10000:Nat) rfl ?_ (quN (b:=10000) (by decide) rfl (by simp only[inK];omega))
     refine Ar v1 rfl ?_ (quN (b:=100) (by decide) hv1.symm (by simp only[inK];omega))
     refine Ar (v1*2:Nat) rfl ?_
     refine Ar v0 rfl ?_ (reN (b:=100) (by decide) hv0.symm)
     refine Ar (v0*2:Nat) rfl ?_
     refine Dw rfl ?_
     refine Ar ((i-1:Nat):Int) rfl ?_
     refine Ar ((i-2:Nat):Int) rfl ?_
     refine Ar ((v0*2+1:Nat):Int) rfl ?_
     refine Yx (v0*2+1) (UInt8.ofNat (48+v0%10)) rfl (tbl v0 Bv0).1 ?_
     refine Yx (v0*2) (UInt8.ofNat (48+v0/10)) rfl (tbl v0 Bv0).2 ?_
     refine Eo (i-1) rfl (by omega) ?_
     refine Stb (UInt8.ofNat (48+v0%10)) rfl (by simp only[W0l,W0d,W0i,W0r];omega) (st1 (by omega) (by omega)) ?_
     refine Eo (i-2) rfl (by omega) ?_
     refine Stb (UInt8.ofNat (48+v0/10)) rfl (by simp only[W0l,W0d,W0i,W0r];omega) (st1 (by omega) (by omega)) ?_
     refine Dw rfl ?_
     refine Ar ((i-3:Nat):Int) rfl ?_
     refine Ar ((i-4:Nat):Int) rfl ?_
     refine Ar ((v1*2+1:Nat):Int) rfl ?_
     refine Yx (v1*2+1) (UInt8.ofNat (48+v1%10)) rfl (tbl v1 Bv1).1 ?_
     refine Yx (v1*2) (UInt8.ofNat (48+v1/10)) rfl (tbl v1 Bv1).2 ?_
     refine Eo (i-3) rfl (by omega) ?_
     refine Stb (UInt8.ofNat (48+v1%10)) rfl (by simp only[W0l,W0d,W0i,W0r];omega) (st1 (by omega) (by omega)) ?_
     refine Eo (i-4) rfl (by omega) ?_
     refine Stb (UInt8.ofNat (48+v1/10)) rfl (by simp only[W0l,W0d,W0i,W0r];omega) (st1 (by omega) (by omega)) ?_
     refine Ar ((i-4:Nat):Int) rfl ?_
     refine Jn (i-4,u/10000,d2 v1++(d2 v0++acc)) [] rfl ⟨by omega,by omega,?_,?_⟩
     . obtain⟨q,rfl⟩:∃q,i=q+4:=⟨i-4,by omega⟩
       rw[W0u] at hu
       rw[W3p]
       exact W4j (by rw[W1e];exact hu)
     . obtain⟨q,rfl⟩:∃q,i=q+4:=⟨i-4,by omega⟩
       rw[W3p,<-hI,show q+4=q+2+2 from rfl,Yfn,Yfn]
       rw[show u/100/100=u/10000 by omega,show u%100=v0 by omega,show u/100%100=v1 by omega]
       simp only[W3j]
   . exact Jn (i,u,acc) [] rfl ⟨hi,by omega,hu,hI⟩
 clear hu8 hi8 h hI hu9 hu hi acc u i
 rintro⟨i,u,acc⟩ ⟨hi,hi4,hu,hI⟩
 have hu4:u<10^4:=W0q hu (W0k (by decide) (by omega))
 refine Cu none (λ((i,u,acc):Nat×Nat×List UInt8)=>[(0,.own 1000001 1 0 nd),(12,.d (.int .u32 u)),(4,.d (.int .i64 i))]) (λ(i,_,acc)=>[(1000001,.arr 1 ((z0.take i++acc).map b8))])
  (λ(i,u,acc)=>i<=nd/\i<2/\u<10^i/\dgs i u++acc=dgs nd x++z0.drop nd) rfl ?_ ?_
 . refine By rfl (λh4=>?_) λh4=>?_
   . obtain⟨v0,hv0⟩:∃w,w=u%100:=⟨_,rfl⟩
     have Bv0:v0<100:=by omega
     refine Ar v0 rfl ?_ (reN (b:=100) (by decide) hv0.symm)
     refine Ar (v0*2:Nat) rfl ?_
     refine Ar (u/100:Nat) rfl ?_ (quN (b:=100) (by decide) rfl (by simp only[inK];omega))
     refine Dw rfl ?_
     refine Ar ((i-1:Nat):Int) rfl ?_
     refine Ar ((i-2:Nat):Int) rfl ?_
     refine Ar ((v0*2+1:Nat):Int) rfl ?_
     refine Yx (v0*2+1) (UInt8.ofNat (48+v0%10)) rfl (tbl v0 Bv0).1 ?_
     refine Yx (v0*2) (UInt8.ofNat (48+v0/10)) rfl (tbl v0 Bv0).2 ?_
     refine Eo (i-1) rfl (by omega) ?_
     refine Stb (UInt8.ofNat (48+v0%10)) rfl (by simp only[W0l,W0d,W0i,W0r];omega) (st1 (by omega) (by omega)) ?_
     refine Eo (i-2) rfl (by omega) ?_
     refine Stb (UInt8.ofNat (48+v0/10)) rfl (by simp only[W0l,W0d,W0i,W0r];omega) (st1 (by omega) (by omega)) ?_
     refine Ar ((i-2:Nat):Int) rfl ?_
     refine Jn (i-2,u/100,d2 v0++acc) [] rfl ⟨by omega,by omega,?_,?_⟩
     . obtain⟨q,rfl⟩:∃q,i=q+2:=⟨i-2,by omega⟩
       rw[W0u] at hu
       rw[W3p]
       exact W4j (by rw[W1e];exact hu)
     . obtain⟨q,rfl⟩:∃q,i=q+2:=⟨i-2,by omega⟩
       rw[W3p,<-hI,Yfn,<-hv0]
       simp only[W3j]
   . exact Jn (i,u,acc) [] rfl ⟨hi,by omega,hu,hI⟩
 clear hu4 hi4 hI hu hi acc u i
 rintro⟨i,u,acc⟩ ⟨hi,hi2,hu,hI⟩
 refine By rfl (λh4=>?_) λh4=>?_
 . have:i=1:=by omega
   subst this
   have hu1:u<10:=by simpa using hu
   refine Ar (48+u:Nat) rfl ?_
   refine Go.Vm.Cv (48+u:Nat) rfl ?_
   refine Eo 0 rfl (by omega) ?_
   refine Stb (UInt8.ofNat (48+u)) rfl (by simp only[W0l,W0d,W0i];omega) (st1 (i:=1) rfl (by omega)) ?_ (by rw[dg hu1])
   refine Rw [] [(1000001,.arr 1 ((z0.take 0++UInt8.ofNat (48+u)::acc).map b8))] rfl (.tup (.one (.rf rfl) (λ_ _ e=>by cases e) (λ_ _ e=>by cases e))) ?_
   rw[<-hI,dgs,dgs,W3t hu1];rfl
 . have:i=0:=by omega
   subst this
   refine Rw [] [(1000001,.arr 1 ((z0.take 0++acc).map b8))] rfl (.tup (.one (.rf rfl) (λ_ _ e=>by cases e) (λ_ _ e=>by cases e))) ?_
   rw[<-hI,dgs];rfl
end
section
theorem Xlj{x:Nat}(hx:x<1000000000): C0 168 [.d (.int .u64 x),.d (.int .i64 10)] (·=.d (.str (dec x))):=by
 have h1:C0 230 [.d (.int .u64 x),.d (.int .i64 10)] (·=.d (.str (dec x))):=by
  refine En Tryz.func230 λ_ _ _=>?_
  refine Yes rfl rfl ?_
  refine By rfl (λh=>?_) λh=>?_
  . refine Go.Vm.Cv x rfl ?_
    refine Ce rfl (Xyo (by omega)) ?_
    exact R0
  . have hl:=Xfo 8 x hx
    have hg:=Xe0 2 x (by omega)
    refine Va 5 5 900 24 ((List.replicate 24 (0:UInt8)).map b8) rfl rfl (by decide) rfl ?_
    refine Ce rfl (Xl8 (by omega) hx) ?_
    refine Sp (dec x).length rfl (by omega) (by decide) ?_ (by decide)
    refine Cw (args:=[.own 1000001 1 0 (dec x).length,.d (.int .u64 x)]) [(1000001,900)] rfl (Xij (z0:=List.replicate 24 (0:UInt8)) hl hx (Ykk x) (by simp;omega) (by simp)) (λv H' _ hv=>?_) rfl
    subst hv
    refine Sp (dec x).length rfl (by omega) (by decide) ?_ (by decide)
    refine Bo (dec x) rfl ?_ ?_ ?_
    . simp[Xwr]
    . rw[Xwr]
      simp only[W0x]
      rw[<-W2v,W6q rfl,Xw8]
    . exact R0
 refine En Tryz.func168 λ_ _ _=>?_
 refine Ce rfl h1 ?_
 exact R0
end
section
theorem Xd7{s t:List UInt8}(hs:Tx s)(ht:Tx t): C0 170 [.d (.str s),.d (.str t)] (·=.b (dc (s.take t.length=t))):=by
 refine En Tryz.func170 λ_ _ _=>?_
 refine Ce rfl (Xg3 hs ht) ?_
 exact R0
theorem Ygn{n:Nat}(hn:n<65): C0 169 [.d (.int .u64 1),.d (.int .u64 n)] (·=.tup (.pr (.d (.int .u64 0)) (.d (.int .u64 n)))):=by
 have h1:C0 232 [.d (.int .u64 1),.d (.int .u64 n)] (·=.tup (.pr (.d (.int .u64 0)) (.d (.int .u64 n)))):=by
  refine En Tryz.func232 λ_ _ _=>?_
  refine Ar 1 rfl ?_ (by simp only[arB];decide +kernel)
  refine Ar 0 rfl ?_ (by simp only[arB];decide +kernel)
  refine Ar n rfl ?_ (by simp only[arB];revert hn;generalize n=j;revert j;decide +kernel)
  refine Ar 0 rfl ?_ (by simp only[arB];revert hn;generalize n=j;revert j;decide +kernel)
  refine Ar n rfl ?_
  refine Ar 0 rfl ?_
  refine Ar 0 rfl ?_ (by simp only[arB];revert hn;generalize n=j;revert j;decide +kernel)
  refine Ar 0 rfl ?_
  refine Ar 0 rfl ?_ (by simp only[arB];decide +kernel)
  refine Ar 0 rfl ?_ (by simp only[arB];decide +kernel)
  refine Ar 0 rfl ?_
  refine Ar 0 rfl ?_
  refine Ar 0 rfl ?_
  refine Ar 0 rfl ?_
  refine Ar 0 rfl ?_ (by simp only[arB];decide +kernel)
  refine Ar 0 rfl ?_
  refine Ar n rfl ?_
  exact R0t
 refine En Tryz.func169 λ_ _ _=>?_
 refine Ce rfl h1 ?_
 exact R0t
theorem Xjy{n:Nat}(hn:n<65): C0 102 [.d (.str [48]),.d (.int .i64 n)] (·=.d (.str (List.replicate n 48))):=by
 refine En Tryz.func102 λ_ _ _=>?_
 refine By rfl (λh=>?_) λh=>?_
 . have:n=0:=by omega
   subst this;exact R1 rfl (.eq rfl)
 refine By rfl (λh1=>?_) λh1=>?_
 . have:n=1:=by omega
   subst this;exact R1 rfl (.eq rfl)
 refine No rfl (by omega) ?_
 refine Go.Vm.Cv 1 rfl ?_ (by decide)
 refine Go.Vm.Cv n rfl ?_
 refine Ce rfl (Ygn hn) ?_
 refine No rfl (by decide) ?_
 refine No rfl (by omega) ?_
 refine Go.Vm.Cv n rfl ?_
 refine No rfl (by decide) ?_
 refine Yx 0 48 rfl rfl ?_
 refine No rfl (by decide) ?_
 refine No rfl (by decide) ?_
 refine Yes rfl (by decide) ?_
 refine Yes rfl (by omega) ?_
 refine Ce rfl (Xd7 (by decide) (by decide)) ?_
 refine No rfl (by decide) ?_
 refine Yes rfl (by omega) ?_
 refine Ce rfl (Xd7 (by decide) (by decide)) ?_
 refine No rfl (by decide) ?_
 refine Yes rfl (by omega) ?_
 refine Ce rfl (Xd7 (by decide) (by decide)) ?_
 refine Yes rfl (by decide) ?_
 refine Stk n (List.replicate n 48) rfl (by simp;omega) ?_ ?_
 . clear h h1
   revert hn;generalize n=j;revert j;decide +kernel
 . exact R0
end
section
end
section
end
section
end
section
def rnB: Ren:=⟨λn=>match n with
 | 166=>104
 | 167=>166
 | 169=>105
 | 240=>172
 | 276=>233
 | _=>0,λn=>match n with
 | 3=>3
 | 4=>4
 | 5=>5
 | 9=>9
 | 20=>20
 | 37=>150
 | 70=>149
 | 72=>152
 | 75=>155
 | 80=>158
 | 127=>208
 | 164=>256
 | _=>0,λn=>n⟩
theorem Yjl: Lays.n166 Tryz.prog rnB where
 mixed:=by kernel_rfl
 f166:=by kernel_rfl
 f240:=by kernel_rfl
 f276:=by kernel_rfl
 t0:=by kernel_rfl
 a0:=λ_=>by kernel_rfl
 z0:=λ_=>by kernel_rfl
 v0:=λ_=>by kernel_rfl
 t3:=by kernel_rfl
 a3:=λ_=>by kernel_rfl
 z3:=λ_=>by kernel_rfl
 v3:=λ_=>by kernel_rfl
 t4:=by kernel_rfl
 a4:=λ_=>by kernel_rfl
 z4:=λ_=>by kernel_rfl
 v4:=λ_=>by kernel_rfl
 t9:=by kernel_rfl
 a9:=λ_=>by kernel_rfl
 z9:=λ_=>by kernel_rfl
 v9:=λ_=>by kernel_rfl
 t20:=by kernel_rfl
 a20:=λ_=>by kernel_rfl
 z20:=λ_=>by kernel_rfl
 v20:=λ_=>by kernel_rfl
 t37:=by kernel_rfl
 a37:=λ_=>by kernel_rfl
 z37:=λ_=>by kernel_rfl
 v37:=λ_=>by kernel_rfl
 t70:=by kernel_rfl
 a70:=λ_=>by kernel_rfl
 z70:=λ_=>by kernel_rfl
 v70:=λ_=>by kernel_rfl
 t72:=by kernel_rfl
 a72:=λ_=>by kernel_rfl
 z72:=λ_=>by kernel_rfl
 v72:=λ_=>by kernel_rfl
 t75:=by kernel_rfl
 a75:=λ_=>by kernel_rfl
 z75:=λ_=>by kernel_rfl
 v75:=λ_=>by kernel_rfl
 t164:=by kernel_rfl
 a164:=λ_=>by kernel_rfl
 z164:=λ_=>by kernel_rfl
 v164:=λ_=>by kernel_rfl
theorem Yjk: Lays.n167 Tryz.prog rnB where
 mixed:=by kernel_rfl
 f167:=by kernel_rfl
 f240:=by kernel_rfl
 f276:=by kernel_rfl
 t0:=by kernel_rfl
 a0:=λ_=>by kernel_rfl
 z0:=λ_=>by kernel_rfl
 v0:=λ_=>by kernel_rfl
 t4:=by kernel_rfl
 a4:=λ_=>by kernel_rfl
 z4:=λ_=>by kernel_rfl
 v4:=λ_=>by kernel_rfl
 t5:=by kernel_rfl
 a5:=λ_=>by kernel_rfl
 z5:=λ_=>by kernel_rfl
 v5:=λ_=>by kernel_rfl
 t9:=by kernel_rfl
 a9:=λ_=>by kernel_rfl
 z9:=λ_=>by kernel_rfl
 v9:=λ_=>by kernel_rfl
 t20:=by kernel_rfl
 a20:=λ_=>by kernel_rfl
 z20:=λ_=>by kernel_rfl
 v20:=λ_=>by kernel_rfl
 t37:=by kernel_rfl
 a37:=λ_=>by kernel_rfl
 z37:=λ_=>by kernel_rfl
 v37:=λ_=>by kernel_rfl
 t70:=by kernel_rfl
 a70:=λ_=>by kernel_rfl
 z70:=λ_=>by kernel_rfl
 v70:=λ_=>by kernel_rfl
 t72:=by kernel_rfl
 a72:=λ_=>by kernel_rfl
 z72:=λ_=>by kernel_rfl
 v72:=λ_=>by kernel_rfl
 t75:=by kernel_rfl
 a75:=λ_=>by kernel_rfl
 z75:=λ_=>by kernel_rfl
 v75:=λ_=>by kernel_rfl
 t164:=by kernel_rfl
 a164:=λ_=>by kernel_rfl
 z164:=λ_=>by kernel_rfl
 v164:=λ_=>by kernel_rfl
theorem Ycd: Lays.n169 Tryz.prog rnB where
 mixed:=by kernel_rfl
 f169:=by kernel_rfl
 t0:=by kernel_rfl
 a0:=λ_=>by kernel_rfl
 z0:=λ_=>by kernel_rfl
 v0:=λ_=>by kernel_rfl
 t3:=by kernel_rfl
 a3:=λ_=>by kernel_rfl
 z3:=λ_=>by kernel_rfl
 v3:=λ_=>by kernel_rfl
 t9:=by kernel_rfl
 a9:=λ_=>by kernel_rfl
 z9:=λ_=>by kernel_rfl
 v9:=λ_=>by kernel_rfl
 t37:=by kernel_rfl
 a37:=λ_=>by kernel_rfl
 z37:=λ_=>by kernel_rfl
 v37:=λ_=>by kernel_rfl
 t70:=by kernel_rfl
 a70:=λ_=>by kernel_rfl
 z70:=λ_=>by kernel_rfl
 v70:=λ_=>by kernel_rfl
 t72:=by kernel_rfl
 a72:=λ_=>by kernel_rfl
 z72:=λ_=>by kernel_rfl
 v72:=λ_=>by kernel_rfl
 t127:=by kernel_rfl
 a127:=λ_=>by kernel_rfl
 z127:=λ_=>by kernel_rfl
 v127:=λ_=>by kernel_rfl
theorem Yl1: Builder.Extra Tryz.prog rnB where
 sizeBuilder:=by kernel_rfl
 liesBuilder:=by kernel_rfl
 t5:=by kernel_rfl
 a5:=λ_=>by kernel_rfl
 z5:=λ_=>by kernel_rfl
 v5:=λ_=>by kernel_rfl
 infoByte:=by kernel_rfl
 cellsByte:=by kernel_rfl
 sizeByte:=by kernel_rfl
 neB5:=by decide
end
section
def rnJ: Ren:=⟨λn=>match n with
 | 156=>44
 | 165=>103
 | 166=>104
 | 169=>105
 | 240=>172
 | 241=>173
 | 276=>233
 | 277=>234
 | _=>0,λn=>match n with
 | 3=>3
 | 4=>4
 | 5=>5
 | 9=>9
 | 20=>20
 | 31=>96
 | 37=>150
 | 70=>149
 | 72=>152
 | 75=>155
 | 76=>156
 | 80=>158
 | 127=>208
 | 164=>256
 | _=>0,λn=>n⟩
theorem Xve: Lays.n156 Tryz.prog rnJ where
 mixed:=by kernel_rfl
 f156:=by kernel_rfl
 f165:=by kernel_rfl
 f166:=by kernel_rfl
 f169:=by kernel_rfl
 f240:=by kernel_rfl
 f241:=by kernel_rfl
 f276:=by kernel_rfl
 f277:=by kernel_rfl
 t0:=by kernel_rfl
 a0:=λ_=>by kernel_rfl
 z0:=λ_=>by kernel_rfl
 v0:=λ_=>by kernel_rfl
 t3:=by kernel_rfl
 a3:=λ_=>by kernel_rfl
 z3:=λ_=>by kernel_rfl
 v3:=λ_=>by kernel_rfl
 t4:=by kernel_rfl
 a4:=λ_=>by kernel_rfl
 z4:=λ_=>by kernel_rfl
 v4:=λ_=>by kernel_rfl
 t9:=by kernel_rfl
 a9:=λ_=>by kernel_rfl
 z9:=λ_=>by kernel_rfl
 v9:=λ_=>by kernel_rfl
 t20:=by kernel_rfl
 a20:=λ_=>by kernel_rfl
 z20:=λ_=>by kernel_rfl
 v20:=λ_=>by kernel_rfl
 t31:=by kernel_rfl
 a31:=λ_=>by kernel_rfl
 z31:=λ_=>by kernel_rfl
 v31:=λ_=>by kernel_rfl
 t37:=by kernel_rfl
 a37:=λ_=>by kernel_rfl
 z37:=λ_=>by kernel_rfl
 v37:=λ_=>by kernel_rfl
 t70:=by kernel_rfl
 a70:=λ_=>by kernel_rfl
 z70:=λ_=>by kernel_rfl
 v70:=λ_=>by kernel_rfl
 t72:=by kernel_rfl
 a72:=λ_=>by kernel_rfl
 z72:=λ_=>by kernel_rfl
 v72:=λ_=>by kernel_rfl
 t75:=by kernel_rfl
 a75:=λ_=>by kernel_rfl
 z75:=λ_=>by kernel_rfl
 v75:=λ_=>by kernel_rfl
 t76:=by kernel_rfl
 a76:=λ_=>by kernel_rfl
 z76:=λ_=>by kernel_rfl
 v76:=λ_=>by kernel_rfl
 t127:=by kernel_rfl
 a127:=λ_=>by kernel_rfl
 z127:=λ_=>by kernel_rfl
 v127:=λ_=>by kernel_rfl
 t164:=by kernel_rfl
 a164:=λ_=>by kernel_rfl
 z164:=λ_=>by kernel_rfl
 v164:=λ_=>by kernel_rfl
theorem Ynf: Builder.Extra Tryz.prog rnJ where
 sizeBuilder:=by kernel_rfl
 liesBuilder:=by kernel_rfl
 t5:=by kernel_rfl
 a5:=λ_=>by kernel_rfl
 z5:=λ_=>by kernel_rfl
 v5:=λ_=>by kernel_rfl
 infoByte:=by kernel_rfl
 cellsByte:=by kernel_rfl
 sizeByte:=by kernel_rfl
 neB5:=by decide
abbrev tB(s:List UInt8): ByteArray:=⟨s.toArray⟩
abbrev dXs(l:List (List UInt8)): D:=.sl 1 (l.map .str)
theorem Join_ok{l:List (List UInt8)}{sep:List UInt8}(hn:l.length<=1000000)(hl:(Lib.join l sep).length<=140737488355328): C0 44 [.d (dXs l),.d (.str sep)] (·=.d (.str (Lib.join l sep))):=by
 refine⟨⟨_,Tryz.func44,rfl,rfl⟩,λW vs _ ha=>?_⟩
 match vs,ha with
 | [v,u],ha =>
  obtain⟨p,c,rfl,h1,h2,h3⟩:=V_sl ha.1
  obtain⟨rfl,_⟩:=Xsk ha.2.1
  have hmm:(l.map tB).map (·.data.toList)=l:=by rw[List.map_map];exact(List.map_congr_left λx _=>by simp[tB]).trans (List.map_id l)
  have hsp:(tB sep).data.toList=sep:=by simp[tB]
  have key:Calls Tryz.prog 44 #[.slice p (l.map D.str).length c,.string (tB sep)] W.w λe w'=>e=.returned (.string (tB (Lib.join l sep)))/\Below W.w.heap.size W.w w':=by
   rcases h3 with h3 | ⟨b,off,rfl,hrow⟩
   . obtain rfl:l=[]:=List.map_eq_nil_iff.1 h3
     exact(Any.strings_Join_none Xve Ynf p c (tB sep) W.w).mono λe w' ⟨he,hw⟩=>⟨he,hw ▸ Below.refl _ _⟩
   . cases hl0:l with
     | nil =>
      exact(Any.strings_Join_none Xve Ynf _ c (tB sep) W.w).mono λe w' ⟨he,hw⟩=>⟨he,hw ▸ Below.refl _ _⟩
     | cons x0 r =>
      rw[<-hl0]
      have hc:∀(j:Nat) x,(l.map tB)[j]?=some x->W.w.cell? ⟨b,off+j,none⟩=some (.string x):=λj x hj=>by
       rw[W1d,Option.map_eq_some_iff] at hj
       obtain⟨s,hs,rfl⟩:=hj
       obtain⟨e,g1,_,g3⟩:=D.row_get hrow (i:=j) (x:=.str s) (by rw[W1d,hs];rfl)
       have:=(g3 0 (.string (tB s)) (by rw[g1.1];rfl)).1
       rwa[W3u,W2q] at this
      have hb:b<W.w.heap.size:=World.block_lt_of_cell? _ _ (hc 0 (tB x0) (by rw[hl0];rfl))
      have:=Any.strings_Join Xve Ynf b off c (l.map tB) (tB sep) W.w hc hb (by rw[W0l];omega) (by rw[W0l] at h1 |-;exact h1) (by rw[hmm,hsp];exact hl)
      rw[hmm,hsp] at this
      rw[W0l] at this |-
      exact this
  refine key.mono ?_
  rintro e w' ⟨rfl,hw⟩
  obtain⟨W',hW,hE⟩:=Xk4 hw
  exact⟨W',.d (.str (Lib.join l sep)),_,rfl,hW,hE,Xlp (by omega),λ_ h=>h.elim,rfl⟩
end
end Go.Proofs.YtchflpokfamkhaaGreatDoor
namespace Go.Proofs.YtchflpokfamkhaaGreatDoor.P55
open Go Go.Vm Go.Num Go.Tow Go.Proofs.YtchflpokfamkhaaGreatDoor
section
inductive Wv where
 | mk (s:List UInt8)
 | nu (x:Nm)
abbrev dMk(s:List UInt8): D:=.st (.pr (.str s) (.pr (.bool false) R9.n0))
abbrev dNu(x:Nm): D:=.st (.pr (.str []) (.pr (.bool true) (dN x)))
def dWv: Wv->D
 | .mk s=>dMk s
 | .nu x=>dNu x
abbrev dWs(l:List Wv): D:=.sl 4 (l.map dWv)
theorem Xde{s:List UInt8}: C0 93 [.d (.str s)] (·=.d (dMk s)):=by
 refine En Tryz.func93 λ_ _ _=>?_
 exact R1 rfl (.sd (.pd (.rf rfl) (.pd (.bd rfl) R9.fit0)))
theorem num_ok{x:Nm}: C0 94 [.d (dN x)] (·=.d (dNu x)):=by
 refine En Tryz.func94 λ_ _ _=>?_
 exact R1 rfl (.sd (.pd (.rf rfl) (.pd (.bd rfl) (.rf rfl))))
def flB(b:Bool): List UInt8:=if b then [49] else [48]
theorem Xk5{b:Bool}: C0 96 [.d (.bool b)] (·=.d (dMk (flB b))):=by
 refine C.nb (show C0 _ [.b b] _ from ?_)
 cases b with
 | true =>
  refine En Tryz.func96 λ_ _ _=>?_
  refine Yes rfl rfl ?_
  refine Ce rfl Xde ?_
  exact R0
 | false =>
  refine En Tryz.func96 λ_ _ _=>?_
  refine No rfl nofun ?_
  refine Ce rfl Xde ?_
  exact R0
def Xgc(r:Nm)(lg cc:Bool)(x:Vn): List Wv:=[.mk [65],.nu r,.nu r,.mk [48],.mk (flB lg),.mk (flB cc),.nu x.x,.nu x.y]
theorem Ybf{w:List Wv}{r:Nm}{c:Cv}{lg:Bool}{x:Vn}(hw:w.length<=100000): CW0 95 [.d (.bool lg),.d (dV x),.ptr 1000001 0,.ptr 1000002 0,.ptr 1000003 0] [(1000001,.var (.lit 4 (w.map dWv))),(1000002,.var (.d (dN r))),(1000003,.var (.d (dC c)))]
 (λv H'=>v=.tup .un/\H'=[(1000001,.var (.own 1000000 4 0 ((w++Xgc r lg (!c.cw) x).map dWv).length)),(1000002,.var (.d (dN r))),(1000003,.var (.d (dC c))),(1000000,.arr 4 ((w++Xgc r lg (!c.cw) x).map dWv))]):=by
 obtain⟨arc,A,B,C,cw⟩:=c
 refine EnW Tryz.func95 λ_ _ _ _=>?_
 refine Dw rfl ?_
 refine Ce rfl Xde ?_
 refine Ce rfl num_ok ?_
 refine Ce rfl num_ok ?_
 refine Ce rfl Xde ?_
 refine Ce rfl Xk5 ?_
 refine Ce rfl Xk5 ?_
 refine Ce rfl num_ok ?_
 refine Ce rfl num_ok ?_
 refine ApL ((w++Xgc r lg (!cw) x).map dWv) rfl (by rw[W1u];rfl) (W5r _) (by simp[Xgc];omega) ?_
 exact Rw [(27,1000000)] [(1000001,.var (.own 1000000 4 0 ((w++Xgc r lg (!cw) x).map dWv).length)),(1000002,.var (.d (dN r))),(1000003,.var (.d (dC ⟨arc,A,B,C,cw⟩))),(1000000,.arr 4 ((w++Xgc r lg (!cw) x).map dWv))] rfl (.tup (.one (.rf rfl) (λ_ _ e=>by cases e) (λ_ _ e=>by cases e))) ⟨rfl,rfl⟩
theorem Xpc{w:List Wv}{r:Nm}{c:Cv}{lg:Bool}{x:Vn}(hw:w.length<=100000): CW0 95 [.d (.bool lg),.d (dV x),.ptr 1000001 0,.ptr 1000002 0,.ptr 1000003 0] [(1000001,.var (.own 1000004 4 0 (w.map dWv).length)),(1000002,.var (.d (dN r))),(1000003,.var (.d (dC c))),(1000004,.arr 4 (w.map dWv))]
 (λv H'=>v=.tup .un/\H'=[(1000001,.var (.own 1000000 4 0 ((w++Xgc r lg (!c.cw) x).map dWv).length)),(1000002,.var (.d (dN r))),(1000003,.var (.d (dC c))),(1000004,.dead),(1000000,.arr 4 ((w++Xgc r lg (!c.cw) x).map dWv))]):=by
 obtain⟨arc,A,B,C,cw⟩:=c
 refine EnW Tryz.func95 λ_ _ _ _=>?_
 refine Dw rfl ?_
 refine Ce rfl Xde ?_
 refine Ce rfl num_ok ?_
 refine Ce rfl num_ok ?_
 refine Ce rfl Xde ?_
 refine Ce rfl Xk5 ?_
 refine Ce rfl Xk5 ?_
 refine Ce rfl num_ok ?_
 refine Ce rfl num_ok ?_
 refine ApO ((w++Xgc r lg (!cw) x).map dWv) rfl rfl rfl (by rw[W1u];rfl) (by simp[Xgc];omega) ?_
 exact Rw [(27,1000000)] [(1000001,.var (.own 1000000 4 0 ((w++Xgc r lg (!cw) x).map dWv).length)),(1000002,.var (.d (dN r))),(1000003,.var (.d (dC ⟨arc,A,B,C,cw⟩))),(1000004,.dead),(1000000,.arr 4 ((w++Xgc r lg (!cw) x).map dWv))] rfl (.tup (.one (.rf rfl) (λ_ _ e=>by cases e) (λ_ _ e=>by cases e))) ⟨rfl,rfl⟩
abbrev Yh5(B:Vn): List Wv:=[.mk [76],.nu B.x,.nu B.y]
inductive WdC (c:Cv):List Wv->Prop where
 | seg (h:c.arc=false):WdC c [.mk [76],.nu c.B.x,.nu c.B.y]
 | full {r:Nm} {w x:Vn} (h:c.arc=true) (h1:C0 50 [.d (dC c)] (·=.tup (.pr (.d (dN r)) (.d (.int .i64 0))))) (h2:C0 92 [.d (dV c.A),.d (dV c.B)] (·=.b true)) (h3:C0 97 [.d (dV c.C),.d (dV c.A)] (·=.tup (.pr (.d (dV w)) (.d (.int .i64 0)))))
  (h4:C0 52 [.d (dV c.C),.d (dV w)] (·=.tup (.pr (.d (dV x)) (.d (.int .i64 0))))):WdC c (Xgc r false (!c.cw) x++Xgc r false (!c.cw) c.B)
 | part {r:Nm} {lg:Bool} (h:c.arc=true) (h1:C0 50 [.d (dC c)] (·=.tup (.pr (.d (dN r)) (.d (.int .i64 0))))) (h2:C0 92 [.d (dV c.A),.d (dV c.B)] (·=.b false)) (h3:C0 98 [.d (dC c)] (·=.tup (.pr (.b lg) (.d (.int .i64 0))))):WdC c (Xgc r lg (!c.cw) c.B)
theorem WdC.len{c:Cv}{w:List Wv}(h:WdC c w): w.length<=16:=by cases h<;>simp[Xgc]
def ouH(w0:List Wv): Option (List Wv)->Hpl
 | none=>[(4,.var (.lit 4 (w0.map dWv)))]
 | some w=>[(4,.var (.own 600 4 0 (w.map dWv).length)),(600,.arr 4 (w.map dWv))]
def ouW(w0:List Wv): Option (List Wv)->List Wv
 | none=>w0
 | some w=>w
def hdW(c0:Cv): List Wv:=[.mk [77],.nu c0.A.x,.nu c0.A.y]
theorem Xc1{c0 d0:Cv}{l:List Cv}{Z:List (List Wv)}{cl:Bool}(h0:l[0]?=some c0)(h9:l[l.length-1]?=some d0)(hl:l.length<=1000)(hZ:Z.length=l.length)(hC:∀(i:Nat) c w,l[i]?=some c->Z[i]?=some w->WdC c w)(he:C0 92 [.d (dV c0.A),.d (dV d0.B)] (·=.b cl)):
 C0 42 [.d (Xe8 l)] (·=.tup (.pr (.d (dWs (hdW c0++Z.flatten++(if cl then [.mk [90]] else [])))) (.d (.int .i64 0)))):=by
 have hl0:0<l.length:=(W2l.1 h0).1
 have hfl:∀k,k<=l.length->(Z.take k).flatten.length<=16*k:=λk=>by
  induction k with
  | zero=>intro _;simp
  | succ k ih =>
   intro hk
   obtain⟨w,hw⟩:∃w,Z[k]?=some w:=⟨_,W0c (by omega)⟩
   obtain⟨c,hc⟩:∃c,l[k]?=some c:=⟨_,W0c (by omega)⟩
   have:=(hC k c w hc hw).len
   have:=ih (by omega)
   rw[W1i,hw]
   simp only[List.flatten_append,W0d,Option.toList_some,W7a,List.flatten_nil,W4y]
   omega
 have hw0l:(hdW c0).length=3:=rfl
 have hlm:(l.map dC).length=l.length:=W0l ..
 refine En Tryz.func42 λ_ _ _=>?_
 refine Dw rfl ?_
 refine Ce rfl Xde ?_
 refine Ix 0 rfl (u:=dC c0) (by rw[W1d,h0];rfl) ?_
 refine Ce rfl num_ok ?_
 refine Ix 0 rfl (u:=dC c0) (by rw[W1d,h0];rfl) ?_
 refine Ce rfl num_ok ?_
 refine Lo (λ((k,o):Nat×Option (List Wv))=>[(0,.d (Xe8 l)),(4,.ptr 4 0),(28,.d (Xe8 l)),(29,.d (.int .i64 (l.map dC).length)),(30,.d (.int .i64 k))]) (λ(_,o)=>ouH (hdW c0) o) (λ(k,o)=>k<=l.length/\ouW (hdW c0) o=(hdW c0)++(Z.take k).flatten/\(o=none↔k=0)) (λ(k,_)=>l.length-k) (0,none) [] rfl ⟨W1a _,by simp[ouW],by simp⟩ ?_
 rintro⟨k,o⟩ ⟨hk,hw,ho⟩
 cases o with
 | none =>
  obtain rfl:k=0:=ho.1 rfl
  have hw:(hdW c0)=(hdW c0)++(Z.take 0).flatten:=hw
  refine By rfl (λh=>?_) λh=>?_
  . have h:((0:Nat):Int)<((l.map dC).length:Nat):=h
    rw[W0l] at h
    have hkl:0<l.length:=hl0
    obtain⟨c,hc⟩:∃c,l[0]?=some c:=⟨_,W0c hkl⟩
    obtain⟨z,hz⟩:∃z,Z[0]?=some z:=⟨_,W0c (by omega)⟩
    have hnx:∀u,u=(hdW c0)++z->0+1<=l.length/\ouW (hdW c0) (some u)=(hdW c0)++(Z.take (0+1)).flatten/\(some u=none↔0+1=0):=λu hu=>⟨hkl,by rw[W1i,hz];show u=_;rw[hu];simp[<-W3j,<-hw],by simp⟩
    have hcl:((hdW c0)).length<=20000:=by rw[hw,W0d];have:=hfl 0 (W1a _);omega
    refine Ix 0 rfl (u:=dC c) (by rw[W1d,hc];rfl) ?_
    have hWc:=hC 0 c z hc hz
    obtain⟨arc,A,B,C,cw⟩:=c
    cases hWc with
    | seg h =>
     obtain rfl:arc=false:=h
     refine Yes rfl nofun ?_
     refine Dw rfl ?_
     refine Ce rfl Xde ?_
     refine Ce rfl num_ok ?_
     refine Ce rfl num_ok ?_
     refine ApL (((hdW c0)++Yh5 B).map dWv) rfl (by rw[W1u];rfl) (W5r _) (by rw[W0l,W0d];show _+3<=_;omega) ?_
     refine Ar (0+1:Nat) rfl ?_
     exact Bk (0+1,some ((hdW c0)++Yh5 B)) [(48,600)] rfl (hnx _ rfl) (by show l.length-(0+1)<l.length-0;omega)
    | @full r w x h h1 h2 h3 h4 =>
     obtain rfl:arc=true:=h
     refine No rfl (λh=>h rfl) ?_
     refine Ce rfl h1 ?_
     refine No rfl (by decide) ?_
     refine Ce rfl h2 ?_
     refine Yes rfl rfl ?_
     refine Ce rfl h3 ?_
     refine No rfl (by decide) ?_
     refine Ce rfl h4 ?_
     refine No rfl (by decide) ?_
     refine Cw [(1000001,4),(1000002,7),(1000003,6)] rfl (Ybf (w:=hdW c0) (r:=r) (c:=⟨true,A,B,C,cw⟩) (lg:=false) (x:=x) (by omega)) λv H' _ hv=>?_
     obtain⟨rfl,rfl⟩:=hv
     refine Cw [(1000001,4),(1000002,7),(1000003,6),(1000004,86)] rfl (Xpc (w:=(hdW c0)++Xgc r false (!cw) x) (r:=r) (c:=⟨true,A,B,C,cw⟩) (lg:=false) (x:=B) (by simp[Xgc];omega)) λv H' _ hv=>?_
     obtain⟨rfl,rfl⟩:=hv
     refine Ar (0+1:Nat) rfl ?_
     exact Bk (0+1,some ((hdW c0)++Xgc r false (!cw) x++Xgc r false (!cw) B)) [(90,600)] rfl (hnx _ (by simp)) (by show l.length-(0+1)<l.length-0;omega)
    | @part r lg h h1 h2 h3 =>
     obtain rfl:arc=true:=h
     refine No rfl (λh=>h rfl) ?_
     refine Ce rfl h1 ?_
     refine No rfl (by decide) ?_
     refine Ce rfl h2 ?_
     refine No rfl nofun ?_
     refine Ce rfl h3 ?_
     refine No rfl (by decide) ?_
     refine Cw [(1000001,4),(1000002,7),(1000003,6)] rfl (Ybf (w:=hdW c0) (r:=r) (c:=⟨true,A,B,C,cw⟩) (lg:=lg) (x:=B) (by omega)) λv H' _ hv=>?_
     obtain⟨rfl,rfl⟩:=hv
     refine Ar (0+1:Nat) rfl ?_
     exact Bk (0+1,some ((hdW c0)++Xgc r lg (!cw) B)) [(103,600)] rfl (hnx _ rfl) (by show l.length-(0+1)<l.length-0;omega)
  . have h:¬((0:Nat):Int)<((l.map dC).length:Nat):=h
    rw[W0l] at h
    omega
 | some w' =>
  have hw:w'=(hdW c0)++(Z.take k).flatten:=hw
  refine By rfl (λh=>?_) λh=>?_
  . have h:(k:Int)<((l.map dC).length:Nat):=h
    rw[W0l] at h
    have hkl:k<l.length:=by omega
    obtain⟨c,hc⟩:∃c,l[k]?=some c:=⟨_,W0c hkl⟩
    obtain⟨z,hz⟩:∃z,Z[k]?=some z:=⟨_,W0c (by omega)⟩
    have hnx:∀u,u=w'++z->k+1<=l.length/\ouW (hdW c0) (some u)=(hdW c0)++(Z.take (k+1)).flatten/\(some u=none↔k+1=0):=λu hu=>⟨hkl,by rw[W1i,hz];show u=_;rw[hu];simp[<-W3j,<-hw],by simp⟩
    have hcl:(w').length<=20000:=by rw[hw,W0d];have:=hfl k hk;omega
    refine Ix k rfl (u:=dC c) (by rw[W1d,hc];rfl) ?_
    have hWc:=hC k c z hc hz
    obtain⟨arc,A,B,C,cw⟩:=c
    cases hWc with
    | seg h =>
     obtain rfl:arc=false:=h
     refine Yes rfl nofun ?_
     refine Dw rfl ?_
     refine Ce rfl Xde ?_
     refine Ce rfl num_ok ?_
     refine Ce rfl num_ok ?_
     refine ApO ((w'++Yh5 B).map dWv) rfl rfl rfl (by rw[W1u];rfl) (by rw[W0l,W0d];show _+3<=_;omega) ?_
     refine Ar (k+1:Nat) rfl ?_
     exact Bk (k+1,some (w'++Yh5 B)) [(600,900),(48,600)] rfl (hnx _ rfl) (by show l.length-(k+1)<l.length-k;omega)
    | @full r w x h h1 h2 h3 h4 =>
     obtain rfl:arc=true:=h
     refine No rfl (λh=>h rfl) ?_
     refine Ce rfl h1 ?_
     refine No rfl (by decide) ?_
     refine Ce rfl h2 ?_
     refine Yes rfl rfl ?_
     refine Ce rfl h3 ?_
     refine No rfl (by decide) ?_
     refine Ce rfl h4 ?_
     refine No rfl (by decide) ?_
     refine Cw [(1000001,4),(1000002,7),(1000003,6),(1000004,600)] rfl (Xpc (w:=w') (r:=r) (c:=⟨true,A,B,C,cw⟩) (lg:=false) (x:=x) (by omega)) λv H' _ hv=>?_
     obtain⟨rfl,rfl⟩:=hv
     refine Cw [(1000001,4),(1000002,7),(1000003,6),(1000004,86)] rfl (Xpc (w:=w'++Xgc r false (!cw) x) (r:=r) (c:=⟨true,A,B,C,cw⟩) (lg:=false) (x:=B) (by simp[Xgc];omega)) λv H' _ hv=>?_
     obtain⟨rfl,rfl⟩:=hv
     refine Ar (k+1:Nat) rfl ?_
     exact Bk (k+1,some (w'++Xgc r false (!cw) x++Xgc r false (!cw) B)) [(600,900),(90,600)] rfl (hnx _ (by simp)) (by show l.length-(k+1)<l.length-k;omega)
    | @part r lg h h1 h2 h3 =>
     obtain rfl:arc=true:=h
     refine No rfl (λh=>h rfl) ?_
     refine Ce rfl h1 ?_
     refine No rfl (by decide) ?_
     refine Ce rfl h2 ?_
     refine No rfl nofun ?_
     refine Ce rfl h3 ?_
     refine No rfl (by decide) ?_
     refine Cw [(1000001,4),(1000002,7),(1000003,6),(1000004,600)] rfl (Xpc (w:=w') (r:=r) (c:=⟨true,A,B,C,cw⟩) (lg:=lg) (x:=B) (by omega)) λv H' _ hv=>?_
     obtain⟨rfl,rfl⟩:=hv
     refine Ar (k+1:Nat) rfl ?_
     exact Bk (k+1,some (w'++Xgc r lg (!cw) B)) [(600,900),(103,600)] rfl (hnx _ rfl) (by show l.length-(k+1)<l.length-k;omega)
  . have h:¬(k:Int)<((l.map dC).length:Nat):=h
    rw[W0l] at h
    obtain rfl:k=l.length:=by omega
    have hwl:w'.length<=20000:=by rw[hw,W0d];have:=hfl l.length hk;omega
    have hwz:w'=(hdW c0)++Z.flatten:=by rw[hw,W0a (by omega)]
    refine Dw rfl ?_
    refine Ix 0 rfl (u:=dC c0) (by rw[W1d,h0];rfl) ?_
    refine Ar (l.length-1:Nat) rfl ?_
    refine Ix (l.length-1) rfl (u:=dC d0) (by rw[W1d,h9];rfl) ?_
    refine Ce rfl he ?_
    cases cl with
    | true =>
     refine Yes rfl rfl ?_
     refine Dw rfl ?_
     refine Ce rfl Xde ?_
     refine ApO ((w'++([.mk [90]]:List Wv)).map dWv) rfl rfl rfl (by rw[W1u];rfl) (by rw[W0l,W0d];show _+1<=_;omega) ?_
     exact RTt rfl (.cons (.own rfl (by rw[W1q];exact W0b _) (by rw[W0x,W2e,hwz];rfl)) Xbg)
    | false =>
     refine No rfl nofun ?_
     exact RTt rfl (.cons (.own rfl (by rw[W1q];exact W0b _) (by rw[W0x,W2e,hwz];exact congrArg (List.map dWv) (W4y _).symm)) Xbg)
end
section
theorem lC(l:List Cv): (l.map dC).length=l.length:=W0l ..
theorem cAt{l:List Cv}{k:Nat}{c:Cv}(h:l[k]?=some c): (l.map dC)[k]?=some (dC c):=by rw[W1d,h];rfl
theorem Xme{l:List Cv}(hl:l.length<=1000)(h0:0<l.length)(hv:∀c∈l,C0 49 [.d (dC c)] (·=.b true))(he:∀(i:Nat) c d,l[i]?=some c->l[i+1]?=some d->C0 92 [.d (dV c.B),.d (dV d.A)] (·=.b true)):
 C0 41 [.d (Xe8 l)] (·=.b true):=by
 refine En Tryz.func41 λ_ _ _=>?_
 refine Lo (λk:Nat=>[(0,.d (Xe8 l)),(5,.d (Xe8 l)),(6,.d (.int .i64 (l.map dC).length)),(7,.d (.int .i64 k))]) (λ_=>[]) (λk=>k<=l.length) (λk=>l.length-k) 0 [] rfl (W1a _) λk hk=>?_
 refine By rfl (λh=>?_) λh=>?_<;>simp only[lC] at h
 . obtain⟨c,hc⟩:∃c,l[k]?=some c:=⟨_,W0c (by omega)⟩
   refine Ix k rfl (cAt hc) ?_
   refine Dw rfl ?_
   refine Ce rfl (hv c (W0o hc)) ?_
   refine No rfl (λh=>h rfl) ?_
   refine By rfl (λh1=>?_) λh1=>?_
   . obtain⟨b,hb⟩:∃b,l[k-1]?=some b:=⟨_,W0c (by omega)⟩
     refine Ar (k-1:Nat) rfl ?_
     refine Ix (k-1) rfl (cAt hb) ?_
     refine Ce rfl (he (k-1) b c hb (by rw[show k-1+1=k by omega];exact hc)) ?_
     refine No rfl (λh=>h rfl) ?_
     refine Ar (k+1:Nat) rfl ?_
     exact Bk (k+1) [] rfl (by omega) (by show l.length-(k+1)<l.length-k;omega)
   . refine Ar (k+1:Nat) rfl ?_
     exact Bk (k+1) [] rfl (by omega) (by show l.length-(k+1)<l.length-k;omega)
 . exact R1 rfl (by exact(show dc (((l.map dC).length:Int)>0)=true by rw[Xaw,lC];omega) ▸ .rf rfl)
def FmW(d:Int): Wv->List UInt8->Prop
 | .mk s,t=>t=s
 | .nu x,t=>C0 43 [.d (dN x),.d (.int .i64 d)] (·=.tup (.pr (.d (.str t)) (.d (.int .i64 0))))
theorem lWv(l:List Wv): (l.map dWv).length=l.length:=W0l ..
theorem Xxp{l:List Cv}{d:Int}{W:List Wv}{T:List (List UInt8)}(hd:0<=d/\d<=20)(hp:C0 41 [.d (Xe8 l)] (·=.b true))(hw:C0 42 [.d (Xe8 l)] (·=.tup (.pr (.d (dWs W)) (.d (.int .i64 0)))))
 (hW:W.length<=100000) (hT:T.length=W.length) (hF:∀(i:Nat) w t,W[i]?=some w->T[i]?=some t->FmW d w t) (hj:(Lib.join T [32]).length<=140737488355328):C0 12 [.d (Xe8 l),.d (.int .i64 d)] (·=.tup (.pr (.d (.str (Lib.join T [32]))) (.d (.int .i64 0)))):=by
 refine En Tryz.func12 λ_ _ _=>?_
 refine No rfl (by omega) ?_
 refine No rfl (by omega) ?_
 refine Ce rfl hp ?_
 refine No rfl (λh=>h rfl) ?_
 refine Ce rfl hw ?_
 refine No rfl (by decide) ?_
 refine Nl 8 8 1 rfl ?_
 refine Lo (λk:Nat=>[(1,.d (.int .i64 d)),(8,.gr 8 1 ((T.take k).map .str)),(31,.d (dWs W)),(32,.d (.int .i64 (W.map dWv).length)),(33,.d (.int .i64 k))]) (λk=>[(8,.tok ((T.take k).map D.str).length 1)]) (λk=>k<=W.length) (λk=>W.length-k) 0 [] rfl (W1a _) λk hk=>?_
 refine By rfl (λh=>?_) λh=>?_<;>simp only[lWv] at h
 . obtain⟨w,hw1⟩:∃w,W[k]?=some w:=⟨_,W0c (by omega)⟩
   obtain⟨t,ht⟩:∃t,T[k]?=some t:=⟨_,W0c (by omega)⟩
   have hf:=hF k w t hw1 ht
   have hz:(T.take k).map D.str++[D.str t]=(T.take (k+1)).map .str:=by rw[W1i,ht];simp
   refine Ix k rfl (u:=dWv w) (by rw[W1d,hw1];rfl) ?_
   cases w with
   | mk s =>
    obtain rfl:t=s:=hf
    refine No rfl nofun ?_
    refine ApG ((T.take (k+1)).map .str) rfl hz (by simp;omega) ?_
    refine Ar (k+1:Nat) rfl ?_
    exact Bk (k+1) [(8,90),(54,8)] rfl (by omega) (by show W.length-(k+1)<W.length-k;omega)
   | nu x =>
    have hf:C0 43 [.d (dN x),.d (.int .i64 d)] (·=.tup (.pr (.d (.str t)) (.d (.int .i64 0)))):=hf
    refine Yes rfl rfl ?_
    refine Ce rfl hf ?_
    refine No rfl (by decide) ?_
    refine ApG ((T.take (k+1)).map .str) rfl hz (by simp;omega) ?_
    refine Ar (k+1:Nat) rfl ?_
    exact Bk (k+1) [(8,90),(54,8)] rfl (by omega) (by show W.length-(k+1)<W.length-k;omega)
 . have e:T.take k=T:=W0a (by omega)
   have hjn:=Join_ok (l:=T) (sep:=[32]) (by omega) hj
   rw[e]
   refine Ce rfl hjn ?_
   exact R0t
end
section
def Qp(s:Nat)(p:Rat×Rat): Prop:=Qs s p.1/\Qs s p.2
abbrev v0(p:Rat×Rat): Vn:=⟨⟨0,(),p.1⟩,⟨0,(),p.2⟩⟩
theorem W0: Wn (K:=0) () ([]:List (Tow.El 0)) []:=⟨⟨trivial,W1a _,λ{m T ρ} h=>by
 have:=h.le (show Xbx 0 () from trivial)
 have e:m=0:=by have h0:([]:List (Tow.El 0)).length=0:=rfl;omega
 subst e
 trivial⟩,λz hz=>nomatch hz⟩
theorem g0{q:Rat}{s:Nat}(h:Qs s q)(hs:s<=10000:=by decide): Gd (K:=0) () [] [] 1 ⟨0,(),q⟩ q:=by
 have h0:NOk (K:=0) () ([]:List (Tow.El 0)) 0 (s+1) ⟨0,(),q⟩ (Tow.rat 0 q):=⟨⟨λ_=>zero _,⟨trivial,trivial,λi hi=>absurd hi (W5k _)⟩,rfl⟩,trivial,Sz.rat 0 h⟩
 have hg:Gs (K:=0) () ([]:List (Tow.El 0)) [] (gB 1) (Tow.rat 0 q):=(Gs.rat h).mono (by unfold gB;omega)
 exact⟨h0.re W0.w W0.h hg,hg,W0b _⟩
theorem gv0{p:Rat×Rat}{s:Nat}(h:Qp s p)(hs:s<=10000:=by decide): Gv (K:=0) () [] [] 1 (v0 p) p:=⟨g0 h.1 hs,g0 h.2 hs⟩
theorem zw{r p:Nat}{x:Nm}{v:Rat}(h:NOk (K:=0) () ([]:List (Tow.El 0)) r p x v): x=⟨0,(),v⟩:=by
 obtain⟨ρ,h1,h2⟩:=h.ex
 obtain⟨k,t,a⟩:=x
 have hk:k<=([]:List (Tow.El 0)).length:=h1.le (show Xbx 0 () from trivial)
 obtain rfl:k=0:=Nat.le_zero.1 hk
 have h2:(a:Rat)=v:=h2
 rw[<-h2]
 cases t
 rfl
theorem Xec{n:Nat}{v:Vn}{p:Rat×Rat}(h:Gv (K:=0) () ([]:List (Tow.El 0)) [] n v p): v=v0 p:=by
 obtain⟨x,y⟩:=v
 rw[show x=_ from zw h.x.o,show y=_ from zw h.y.o]
instance {p:Nat} {z:Int}:Decidable (Zs p z):=inferInstanceAs (Decidable (z.natAbs<2^p))
instance {p:Nat} {x:Rat}:Decidable (Qs p x):=decidable_of_iff (Zs p x.num/\Zs p x.den) ⟨λh=>⟨h.1,h.2⟩,λh=>⟨h.1,h.2⟩⟩
theorem Xbc{q:Rat}{s:Nat}(h:Qs s q)(hs:s<=10000:=by decide): P19.Trm ⟨0,(),q⟩:=by
 unfold P19.Trm
 refine En Tryz.func175 λ_ _ _=>?_
 refine Ce rfl (P9.detach_ok (x:=⟨0,(),q⟩) (r:=1) (p:=s+1) trivial (Sz.rat 0 h) (show (0:Nat)<=16 by decide) (by decide) (by omega)) ?_
 refine Ar (-1:Int) rfl ?_ (wr (show ((0:Nat):Int)-1=-1 by decide) (by simp only[inK];omega))
 refine Lo (λ_:Unit=>[(1,.ptr 1 0),(2,.ptr 2 0),(3,.ptr 3 0)]) (λ_=>[(1,.var (.d (dN ⟨0,(),q⟩))),(2,.var (.st (.pr .nil .nil))),(3,.var (.d (.int .i64 (-1))))]) (λ_=>True) (λ_=>0) () [] rfl trivial (λ_ _=>?_)
 refine No rfl (by decide) ?_
 exact R0
instance {p:Nat} {x:Rat×Rat}:Decidable (Qp p x):=by unfold Qp;infer_instance
end
section
def d2(p q:Rat×Rat): Rat:=Xao (K:=0) () (Xaj (K:=0) p q) (Xaj (K:=0) p q)
abbrev nr(q:Rat): Nm:=⟨0,(),q⟩
theorem Yiv: Sz 1000 (toL 1 (root 1 0)):=by
 have:Sz (1*2+1) (toL 1 (root 1 0)):=Sz.all (p:=1) (l:=[(0:Rat),1]) λx hx=>by
  have hx:x∈[(0:Rat),1]:=hx
  rcases W1l.1 hx with rfl | hx
  . exact⟨show (0:Int).natAbs<2^1 by decide,show ((1:Nat):Int).natAbs<2^1 by decide⟩
  . obtain rfl:=W0e.1 hx;exact⟨show (1:Int).natAbs<2^1 by decide,show ((1:Nat):Int).natAbs<2^1 by decide⟩
 exact this.mono (by decide)
theorem Ylh{s:Rat}(h:Qs 200 s)(hs:0<=s): C0 112 [.d (dN (nr s))] (R9.RtR (nr s)):=by
 have hS:Sz 201 (toL 0 (s:Tow.El 0)):=Sz.rat 0 h
 refine En Tryz.func112 λ_ _ _=>?_
 refine Ca rfl (P8.Adjoin_ok (k:=0) (t:=()) (a:=(s:Tow.El 0)) (r:=1) (p:=201) trivial hS trivial (by decide) (by decide +kernel) (by decide +kernel) (by decide +kernel) (by decide +kernel)) λv hv=>?_
 rcases hv with ⟨h1,rfl⟩ | ⟨y,h1,h2,rfl⟩ | ⟨h1,h2,h3,rfl⟩
 . have h1:Xcr s<0:=h1
   rcases Xay s with ⟨_,e⟩ | ⟨_,e⟩ | ⟨e,_⟩
   . omega
   . omega
   . grind
 . refine No rfl (by simp) ?_
   have hy:Sz 1000 (toL 0 (y:Tow.El 0)):=(hS.rootS (k:=0) (r:=1) (t:=()) (s:=(y:Tow.El 0)) trivial trivial h1).mono (by decide)
   refine Ce rfl (P9.detach_ok (x:=⟨0,(),y⟩) (r:=1) (p:=1000) trivial hy (show 0<=16 by decide) (by decide) (by decide)) ?_
   exact Rt rfl (.tup (.cons (.rf rfl) Xbg)) ⟨⟨0,(),y⟩,rfl,.inl ⟨y,rfl,h1,h2⟩⟩
 . refine No rfl (by simp) ?_
   refine Ce rfl (P9.detach_ok (x:=⟨1,tsn () s,root 1 0⟩) (r:=201) (p:=1000) ⟨trivial,hS⟩ Yiv (show 1<=16 by decide) (by decide) (by decide)) ?_
   exact Rt rfl (.tup (.cons (.rf rfl) Xbg)) ⟨⟨1,tsn () s,root 1 0⟩,rfl,.inr ⟨rfl,h1,h2⟩⟩
theorem radius_r{c:Cv}{p q:Rat×Rat}{s:Nat}(hC:c.C=v0 p)(hA:c.A=v0 q)(hp:Qp s p)(hq:Qp s q)(hne:p≠q)(hs:Qs 200 (d2 q p))(h0:0<=d2 q p)(h1:s<=10000:=by decide): C0 50 [.d (dC c)] (R9.RtR (nr (d2 q p))):=by
 obtain⟨arc,A,B,C,cw⟩:=c
 obtain rfl:C=v0 p:=hC
 obtain rfl:A=v0 q:=hA
 refine En Tryz.func50 λ_ _ _=>?_
 refine Ca rfl (P15.Around_g W0 (gv0 hp h1) (gv0 hq h1) (Xbc hp.1 h1) (Xbc hp.2 h1) (by decide) hne) λv hv=>?_
 obtain⟨z,rfl,hz⟩:=hv
 obtain rfl:=zw hz.o
 refine No rfl (by decide) ?_
 refine Ca rfl (Ylh hs h0) λv hv=>?_
 obtain⟨z,rfl,hz⟩:=hv
 exact Rt rfl (.tup (.cons (.rf rfl) Xbg)) ⟨z,rfl,hz⟩
def Ycx(r m:Nm): List Vn:=[⟨r,n00⟩,⟨n00,r⟩,⟨m,n00⟩,⟨n00,m⟩]
def sel: List Vn->List Bool->List Vn
 | x::X,b::B=>if b then x::sel X B else sel X B
 | _,_=>[]
theorem Xhc{x:Vn}{b:Bool}: ∀ {X:List Vn} {B:List Bool},X.length=B.length->sel (X++[x]) (B++[b])=sel X B++(if b then [x] else [])
 | [],[],_=>by cases b<;>rfl
 | y::X,c::B,h=>by
  have:=Xhc (x:=x) (b:=b) (X:=X) (B:=B) (by simpa using h)
  simp only[W4q,sel,this]
  cases c<;>simp
theorem Xfg: ∀ {X:List Vn} {B:List Bool},(sel X B).length<=X.length
 | [],_=>by simp[sel]
 | _::_,[]=>by simp[sel]
 | x::X,b::B=>by
  have:=Xfg (X:=X) (B:=B)
  simp only[sel];split<;>simp<;>omega
def exA(e0:List Vn): Option (List Vn)->AV
 | none=>.lit 4 (e0.map dV)
 | some w=>.own 600 4 0 (w.map dV).length
def exH(c:Cv): Option (List Vn)->Hpl
 | none=>[(1,.var (.d (dC c)))]
 | some w=>[(1,.var (.d (dC c))),(600,.arr 4 (w.map dV))]
def exW(e0:List Vn): Option (List Vn)->List Vn
 | none=>e0
 | some w=>w
theorem Xoy: C0 51 [.d (.int .i64 0)] (·=.d (dN n00)):=P9.FromInt_ok (z:=0) (by decide)
theorem extremes_seg{c:Cv}(h:c.arc=false): C0 18 [.d (dC c)] (·=.tup (.pr (.d (dVs [c.A,c.B])) (.d (.int .i64 0)))):=by
 obtain⟨arc,A,B,C,cw⟩:=c
 obtain rfl:arc=false:=h
 refine En Tryz.func18 λ_ _ _=>?_
 refine Yes rfl nofun ?_
 exact RTt rfl (.cons (.lit rfl) Xbg)
theorem extremes_arc{c:Cv}{r m:Nm}{X:List Vn}{B:List Bool}(h:c.arc=true)(hr:C0 50 [.d (dC c)] (·=.tup (.pr (.d (dN r)) (.d (.int .i64 0)))))(hm:C0 19 [.d (dN r)] (·=.d (dN m)))(hX:X.length=4)(hB:B.length=4)
 (hx:∀(i:Nat) d x b,(Ycx r m)[i]?=some d->X[i]?=some x->B[i]?=some b->C0 52 [.d (dV c.C),.d (dV d)] (·=.tup (.pr (.d (dV x)) (.d (.int .i64 0))))/\C0 53 [.d (dC c),.d (dV x)] (·=.b b)) :
 C0 18 [.d (dC c)] (·=.tup (.pr (.d (dVs ([c.A,c.B]++sel X B))) (.d (.int .i64 0)))):=by
 obtain⟨arc,A,B',C,cw⟩:=c
 obtain rfl:arc=true:=h
 refine En Tryz.func18 λ_ _ _=>?_
 refine No rfl (λh=>h rfl) ?_
 refine Ce rfl hr ?_
 refine No rfl (by decide) ?_
 refine Ce rfl Xoy ?_
 refine Dw rfl ?_
 refine Ce rfl hm ?_
 refine Ce rfl hm ?_
 refine Lo (λ((k,o):Nat×Option (List Vn))=>[(1,.ptr 1 0),(4,exA [A,B'] o),(44,.lit 4 ((Ycx r m).map dV)),(45,.d (.int .i64 4)),(46,.d (.int .i64 k))]) (λ(_,o)=>exH ⟨true,A,B',C,cw⟩ o) (λ(k,o)=>k<=4/\exW [A,B'] o=[A,B']++sel (X.take k) (B.take k)) (λ(k,_)=>4-k) (0,none) [] rfl ⟨W1a _,by simp[exW,sel]⟩ ?_
 rintro⟨k,o⟩ ⟨hk,hw⟩
 have hwl:(exW [A,B'] o).length<=6:=by
  have hw:exW [A,B'] o=_:=hw
  rw[hw,W0d]
  have:=Xfg (X:=X.take k) (B:=B.take k)
  rw[W0i] at this
  simp only[W0r,W4f]
  omega
 cases o with
 | none =>
  have hw:[A,B']=[A,B']++sel (X.take k) (B.take k):=hw
  refine By rfl (λh=>?_) λh=>?_
  . have h:(k:Int)<4:=h
    obtain⟨d,hd⟩:∃d,(Ycx r m)[k]?=some d:=⟨_,W0c (show k<4 by omega)⟩
    obtain⟨x,hxk⟩:∃x,X[k]?=some x:=⟨_,W0c (by omega)⟩
    obtain⟨b,hbk⟩:∃b,B[k]?=some b:=⟨_,W0c (by omega)⟩
    obtain⟨g1,g2⟩:=hx k d x b hd hxk hbk
    have hs:sel (X.take (k+1)) (B.take (k+1))=sel (X.take k) (B.take k)++(if b then [x] else []):=by
     rw[W1i,W1i,hxk,hbk];exact Xhc (by rw[W0i,W0i,hX,hB])
    refine Ix k rfl (u:=dV d) (by rw[W1d,hd];rfl) ?_
    refine Ce rfl g1 ?_
    refine No rfl (by decide) ?_
    refine Ce rfl g2 ?_
    cases b with
    | false =>
     refine No rfl nofun ?_
     refine Ar (k+1:Nat) rfl ?_
     exact Bk (k+1,none) [] rfl ⟨by omega,by rw[hs];simpa [exW] using hw⟩ (by show 4-(k+1)<4-k;omega)
    | true =>
     refine Yes rfl rfl ?_
     refine ApL (([A,B']++[x]).map dV) rfl rfl (W5r _) (show 3<=1099511627776 by decide) ?_
     refine Ar (k+1:Nat) rfl ?_
     exact Bk (k+1,some ([A,B']++[x])) [(66,600)] rfl ⟨by omega,by rw[hs,<-W3j,<-hw];rfl⟩ (by show 4-(k+1)<4-k;omega)
  . have h:¬(k:Int)<4:=h
    rw[W0a (by omega),W0a (by omega)] at hw
    exact RTt rfl (.cons (.lit (by rw[<-hw])) Xbg)
 | some w =>
  have hw:w=[A,B']++sel (X.take k) (B.take k):=hw
  have hwl:w.length<=6:=hwl
  refine By rfl (λh=>?_) λh=>?_
  . have h:(k:Int)<4:=h
    obtain⟨d,hd⟩:∃d,(Ycx r m)[k]?=some d:=⟨_,W0c (show k<4 by omega)⟩
    obtain⟨x,hxk⟩:∃x,X[k]?=some x:=⟨_,W0c (by omega)⟩
    obtain⟨b,hbk⟩:∃b,B[k]?=some b:=⟨_,W0c (by omega)⟩
    obtain⟨g1,g2⟩:=hx k d x b hd hxk hbk
    have hs:sel (X.take (k+1)) (B.take (k+1))=sel (X.take k) (B.take k)++(if b then [x] else []):=by
     rw[W1i,W1i,hxk,hbk];exact Xhc (by rw[W0i,W0i,hX,hB])
    refine Ix k rfl (u:=dV d) (by rw[W1d,hd];rfl) ?_
    refine Ce rfl g1 ?_
    refine No rfl (by decide) ?_
    refine Ce rfl g2 ?_
    cases b with
    | false =>
     refine No rfl nofun ?_
     refine Ar (k+1:Nat) rfl ?_
     exact Bk (k+1,some w) [] rfl ⟨by omega,by rw[hs];simpa [exW] using hw⟩ (by show 4-(k+1)<4-k;omega)
    | true =>
     refine Yes rfl rfl ?_
     refine ApO ((w++[x]).map dV) rfl rfl rfl (by rw[W1u];rfl) (by simp;omega) ?_
     refine Ar (k+1:Nat) rfl ?_
     exact Bk (k+1,some (w++[x])) [(600,900),(66,600)] rfl ⟨by omega,by rw[hs,<-W3j,<-hw];rfl⟩ (by show 4-(k+1)<4-k;omega)
  . have h:¬(k:Int)<4:=h
    rw[W0a (by omega),W0a (by omega)] at hw
    exact RTt rfl (.cons (.own rfl (by rw[W1q];exact W0b _) (by rw[W0x,W2e,hw])) Xbg)
end
end Go.Proofs.YtchflpokfamkhaaGreatDoor.P55
namespace Go.Proofs.YtchflpokfamkhaaGreatDoor
open Go Go.Num Go.Tow Go.Vm
section
def lo2(x y:Rat): Rat:=if y<x then y else x
def hi2(x y:Rat): Rat:=if x<y then y else x
def Xx0(x:Rat)(r:List Rat): Rat:=r.foldl lo2 x
def Xx1(x:Rat)(r:List Rat): Rat:=r.foldl hi2 x
theorem Yjf{s:Nat}{x y:Rat}(hx:Qs s x)(hy:Qs s y): Qs s (lo2 x y):=by unfold lo2;split<;>assumption
theorem Yjv{s:Nat}{x y:Rat}(hx:Qs s x)(hy:Qs s y): Qs s (hi2 x y):=by unfold hi2;split<;>assumption
theorem Xu3(x:Rat)(r:List Rat)(y:Rat): Xx0 x (r++[y])=lo2 (Xx0 x r) y:=by simp[Xx0]
theorem Xu8(x:Rat)(r:List Rat)(y:Rat): Xx1 x (r++[y])=hi2 (Xx1 x r) y:=by simp[Xx1]
theorem Xu4{s:Nat}{x:Rat}{r:List Rat}(h:∀y∈x::r,Qs s y): Qs s (Xx0 x r):=by
 induction r generalizing x with
 | nil=>exact h x (W0n ..)
 | cons y r ih=>exact ih (x:=lo2 x y) (λz hz=>by
  rcases W1l.1 hz with rfl | hz
  . exact Yjf (h x (W0n ..)) (h y (by simp))
  . exact h z (by simp[hz]))
theorem Xu9{s:Nat}{x:Rat}{r:List Rat}(h:∀y∈x::r,Qs s y): Qs s (Xx1 x r):=by
 induction r generalizing x with
 | nil=>exact h x (W0n ..)
 | cons y r ih=>exact ih (x:=hi2 x y) (λz hz=>by
  rcases W1l.1 hz with rfl | hz
  . exact Yjv (h x (W0n ..)) (h y (by simp))
  . exact h z (by simp[hz]))
theorem Yft{x y:Rat}: Xnf x y<0↔x<y:=by
 unfold Xnf
 split
 . rename_i h;simp[h]
 . rename_i h
   split<;>simp[h]
theorem Yfv{x y:Rat}: Xnf x y>0↔y<x:=by
 rw[Xmy,<-Yft];omega
theorem Xug{s:Nat}{x:Rat}{r:List Rat}(h:∀y∈x::r,Qs s y)(k:Nat): ∀y∈x::r.take k,Qs s y:=λy hy=>h y (by
 rcases W1l.1 hy with rfl | hy
 . exact W0n ..
 . exact W0w _ (W6g hy))
theorem Xwo(n:Int): Rat.divInt n 1=(n:Rat):=by
 rw[W3c]
 have:((1:Int):Rat)=1:=rfl
 grind
def pw(b:Nat): Rat:=((2^b:Int):Rat)
theorem Zs.two{b p:Nat}(h:b+1<=p): Zs p (2^b:Int):=by
 refine Zs.mono (p:=b+1) ?_ h
 unfold Zs
 rw[W6x]
 exact W3q (by decide) (Nat.lt_succ_self b)
theorem Xgu(b:Nat): (2^b:Int)≠0:=by have:=W5x (n:=2) (m:=b) (by decide);omega
theorem Xy5(b:Nat): Qs (b+1) (pw b):=⟨Zs.two (W0b _),Zs.one (by omega)⟩
theorem Zs.floor{s:Nat}{x:Rat}(h:Qs s x): Zs s x.floor:=by
 have hn:=h.n
 unfold Zs at *
 rw[Rat.floor_def]
 exact W1t (Int.natAbs_ediv_le_natAbs _ _) hn
def dnQ(x:Rat)(b:Nat): Rat:=Rat.divInt (x*pw b).floor (2^b)
def upQ(x:Rat)(b:Nat): Rat:=-dnQ (-x) b
theorem Xwl{s:Nat}{x:Rat}(h:Qs s x)(b:Nat): Qs (s+b+1) (dnQ x b) :=
 Qs.divInt (p:=s+b+1) ((Zs.floor (h.mul (Xy5 b))).mono (by omega)) (Zs.two (by omega)) (Xgu b)
theorem Yhk{s:Nat}{x:Rat}(h:Qs s x)(b:Nat): Qs (s+b+1) (upQ x b):=(Xwl h.neg b).neg
theorem Yfu{x y:Rat}: Xnf x y<=0↔¬y<x:=by rw[<-Yfv];omega
theorem Yeu{a p:Nat}(h:a<2^p): (dig a).length<=p/32+1:=by
 refine Xau (W0q h ?_)
 rw[show (4294967296:Nat)=2^32 from rfl,<-W4w]
 exact W0k (by decide) (by omega)
def rtF(x:Rat): Nat:=rt x.floor.toNat
theorem Ymo(n:Nat): rt n<=n:=by
 have h:=(Xdb n).1
 by_cases h0:rt n=0
 . omega
 . have:=W0m (rt n) (show 1<=rt n by omega)
   omega
theorem Xen{x:Rat}(h:0<=x): x.floor=(x.floor.toNat:Int):=by
 have:(0:Int)<=x.floor:=W7i.2 h
 omega
theorem Xt5{s:Nat}{x:Rat}(h:Qs s x)(h0:0<=x): Zs s (rtF x:Int):=by
 have h1:=Zs.floor h
 rw[Xen h0] at h1
 have h2:=Ymo x.floor.toNat
 unfold Zs at *
 have h1:x.floor.toNat<2^s:=h1
 show rt x.floor.toNat<2^s
 omega
theorem Xa3(b:Nat): 0<pw b:=Rat.intCast_pos.2 (W5x (by decide))
def sq2(x:Rat)(b:Nat): Rat:=x*(pw b*pw b)
def Xdw(x:Rat)(b:Nat): Rat:=Rat.divInt (rtF (sq2 x b):Int) (2^b)
open Classical in
noncomputable def Xtm(x:Rat): Nat:=if ((rtF x*rtF x:Int):Rat)<x then rtF x+1 else rtF x
noncomputable def Xss(x:Rat)(b:Nat): Rat:=Rat.divInt (Xtm (sq2 x b):Int) (2^b)
theorem Xtp{s b:Nat}{x:Rat}(h:Qs s x): Qs (s+(2*b+2)) (sq2 x b):=(h.mul ((Xy5 b).mul (Xy5 b))).mono (by omega)
theorem Xfx{x:Rat}{b:Nat}(h:0<=x): 0<=sq2 x b:=W7u h (W7u (W2i (Xa3 b)) (W2i (Xa3 b)))
theorem Xla(x:Rat)(n:Nat): (x.num*2^n).fdiv x.den=(x*pw n).floor:=by
 have hd:(0:Int)<x.den:=Int.natCast_pos.2 (W2j x.den_nz)
 rw[W1s _ (by omega)]
 have key:∀z:Int,z<=(x.num*2^n)/x.den↔z<=(x*pw n).floor:=by
  intro z
  rw[Int.le_ediv_iff_mul_le hd,W7i]
  have e:x*pw n*(x.den:Rat)=((x.num*2^n:Int):Rat):=by
   have:=Xkw x
   have h2:pw n=((2^n:Int):Rat):=rfl
   rw[W4o,<-h2,<-this]
   grind
  have hdr:(0:Rat)<(x.den:Rat):=by
   have:=Rat.intCast_pos.2 hd
   exact this
  rw[<-W3g,W4o,<-e]
  constructor
  . intro h
    exact W1v h hdr
  . intro h
    exact W2g h (W2i hdr)
 have h1:=(key _).1 (W7d _)
 have h2:=(key _).2 (W7d _)
 omega
theorem Ybz(b:Nat): pw (2*b)=pw b*pw b:=by
 show ((2^(2*b):Int):Rat)=((2^b:Int):Rat)*((2^b:Int):Rat)
 rw[<-W4o,<-Int.pow_add]
 congr 2;omega
theorem Xyl{x:Rat}(b:Nat)(h0:0<=x): (x.num*2^(2*b)).fdiv x.den=((sq2 x b).floor.toNat:Int):=by
 rw[Xla,Ybz]
 exact Xen (Xfx h0)
theorem Xhr{s:Nat}{x:Rat}(h:Qs s x)(h0:0<=x)(b:Nat): Qs (s+(2*b+2)) (Xdw x b) :=
 Qs.divInt (Xt5 (Xtp h) (Xfx h0)) (Zs.two (by omega)) (Xgu b)
def mx0(x:Rat): Rat:=if x<0 then 0 else x
theorem Xf1(x:Rat): 0<=mx0 x:=by unfold mx0;split<;>grind
theorem Xuu{s:Nat}{x:Rat}(h:Qs s x)(hs:1<=s): Qs s (mx0 x):=by
 unfold mx0
 split
 . exact qs0.mono hs
 . exact h
theorem Ykq{x:Rat}: Xa9 x.num 0<0↔x<0:=by
 rw[Xkk]
 rcases Xay x with ⟨h,e⟩ | ⟨h,e⟩ | ⟨h,e⟩<;>rw[e]
 . exact⟨λh=>absurd h (by decide),λh'=>absurd h' (by grind)⟩
 . exact⟨λh=>absurd h (by decide),λh'=>absurd h' (by grind)⟩
 . exact⟨λ_=>h,λ_=>by decide⟩
def rnd(p:Rat×Rat)(b:Nat): Rat×Rat:=(dnQ p.1 b,upQ p.2 b)
def rts(p:Rat×Rat)(b:Nat): Rat×Rat:=(Xdw (mx0 p.1) b,Xdw p.2 b+Rat.divInt 1 (2^b))
def Xcj(p q:Rat×Rat): Rat×Rat:=(Xx0 (p.1*q.1) [p.1*q.2,p.2*q.1,p.2*q.2],Xx1 (p.1*q.1) [p.1*q.2,p.2*q.1,p.2*q.2])
def Xng(p q:Rat×Rat): Rat×Rat:=(p.1+q.1,p.2+q.2)
def enc: (k:Nat)->Tw k->El k->Nat->Rat×Rat
 | 0=>λ_ (x:Rat) _=>(x,x)
 | k+1=>λt a b=>if (∀x∈toL k a.2,x=0) then enc k t.1 a.1 b else rnd (Xng (enc k t.1 a.1 b) (Xcj (enc k t.1 a.2 b) (rts (enc k t.1 t.2 b) b))) b
theorem Ycw(x:Rat)(b:Nat): dnQ x b*pw b=((x*pw b).floor:Rat):=by
 unfold dnQ
 rw[W3c]
 have h:=Xa3 b
 show ((x*pw b).floor:Rat)/pw b*pw b=_
 rw[W5g (by grind)]
theorem Xq7(x:Rat)(b:Nat): dnQ x b<=x:=by
 refine W1v ?_ (Xa3 b)
 rw[Ycw]
 exact Rat.floor_le _
theorem Xwm(x:Rat)(b:Nat): x*pw b<dnQ x b*pw b+1:=by
 rw[Ycw]
 have:=@Rat.lt_floor (x*pw b)
 grind
theorem Xs4(x:Rat)(b:Nat): x<=upQ x b:=by
 have:=Xq7 (-x) b
 unfold upQ;grind
theorem Ybc(x:Rat)(b:Nat): upQ x b*pw b<x*pw b+1:=by
 have:=Xwm (-x) b
 unfold upQ;grind
theorem Xvb{x y:Rat}: lo2 x y<=x/\lo2 x y<=y:=by unfold lo2;split<;>grind
theorem Xvy{x y:Rat}: x<=hi2 x y/\y<=hi2 x y:=by unfold hi2;split<;>grind
theorem Xva{x y:Rat}: lo2 x y=x\/lo2 x y=y:=by unfold lo2;split<;>simp
theorem Xvx{x y:Rat}: hi2 x y=x\/hi2 x y=y:=by unfold hi2;split<;>simp
theorem Xh9(p q:Rat×Rat): (Xcj p q).1<=p.1*q.1/\(Xcj p q).1<=p.1*q.2/\(Xcj p q).1<=p.2*q.1/\(Xcj p q).1<=p.2*q.2:=by
 show lo2 (lo2 (lo2 (p.1*q.1) (p.1*q.2)) (p.2*q.1)) (p.2*q.2)<=_/\lo2 (lo2 (lo2 (p.1*q.1) (p.1*q.2)) (p.2*q.1)) (p.2*q.2)<=_/\lo2 (lo2 (lo2 (p.1*q.1) (p.1*q.2)) (p.2*q.1)) (p.2*q.2)<=_/\lo2 (lo2 (lo2 (p.1*q.1) (p.1*q.2)) (p.2*q.1)) (p.2*q.2)<=_
 have h1:=@Xvb (p.1*q.1) (p.1*q.2)
 have h2:=@Xvb (lo2 (p.1*q.1) (p.1*q.2)) (p.2*q.1)
 have h3:=@Xvb (lo2 (lo2 (p.1*q.1) (p.1*q.2)) (p.2*q.1)) (p.2*q.2)
 refine⟨?_,?_,?_,h3.2⟩<;>grind
theorem Xia(p q:Rat×Rat): p.1*q.1<=(Xcj p q).2/\p.1*q.2<=(Xcj p q).2/\p.2*q.1<=(Xcj p q).2/\p.2*q.2<=(Xcj p q).2:=by
 show _<=hi2 (hi2 (hi2 (p.1*q.1) (p.1*q.2)) (p.2*q.1)) (p.2*q.2)/\_<=hi2 (hi2 (hi2 (p.1*q.1) (p.1*q.2)) (p.2*q.1)) (p.2*q.2)/\_<=hi2 (hi2 (hi2 (p.1*q.1) (p.1*q.2)) (p.2*q.1)) (p.2*q.2)/\_<=hi2 (hi2 (hi2 (p.1*q.1) (p.1*q.2)) (p.2*q.1)) (p.2*q.2)
 have h1:=@Xvy (p.1*q.1) (p.1*q.2)
 have h2:=@Xvy (hi2 (p.1*q.1) (p.1*q.2)) (p.2*q.1)
 have h3:=@Xvy (hi2 (hi2 (p.1*q.1) (p.1*q.2)) (p.2*q.1)) (p.2*q.2)
 refine⟨?_,?_,?_,h3.2⟩<;>grind
theorem Xfe(x:Rat)(b:Nat): Xdw x b*pw b=((rtF (sq2 x b):Int):Rat):=by
 unfold Xdw
 rw[W3c]
 have h:=Xa3 b
 show ((rtF (sq2 x b):Int):Rat)/pw b*pw b=_
 rw[W5g (by grind)]
theorem Xdz(b:Nat): Rat.divInt 1 (2^b)*pw b=1:=by
 rw[W3c]
 have h:=Xa3 b
 show ((1:Int):Rat)/pw b*pw b=_
 rw[W5g (by grind)];rfl
theorem Xc9(x:Rat)(b:Nat): 0<=Xdw x b:=by
 refine W1v ?_ (Xa3 b)
 rw[Xfe,W5f]
 exact Rat.intCast_nonneg.2 (by omega)
theorem Ybs{x:Rat}(h:0<=x): (((rtF x:Int)):Rat)*((rtF x:Int):Rat)<=x:=by
 have h1:=(Xdb x.floor.toNat).1
 have h2:=Xen h
 have h3:=@Rat.floor_le x
 have h4:((rtF x*rtF x:Int):Rat)<=(x.floor:Rat):=by
  rw[W3g,h2]
  unfold rtF
  exact_mod_cast h1
 rw[W4o] at h4
 exact W3r h4 h3
theorem Xt6{x:Rat}(h:0<=x): x<(((rtF x:Int))+1:Rat)*(((rtF x:Int))+1:Rat):=by
 have h1:=(Xdb x.floor.toNat).2
 have h2:=Xen h
 have h3:=@Rat.lt_floor x
 have h4:((x.floor+1:Int):Rat)<=(((rtF x+1:Int)*(rtF x+1:Int):Int):Rat):=by
  rw[W3g,h2]
  unfold rtF
  have h1:x.floor.toNat+1<=(rt x.floor.toNat+1)*(rt x.floor.toNat+1):=h1
  exact_mod_cast h1
 rw[W4o,W5j,W5j] at h4
 have h5:((1:Int):Rat)=1:=rfl
 rw[h5] at h4
 grind
theorem Xhq{x:Rat}{b:Nat}(h:0<=x): Xdw x b*Xdw x b<=x:=by
 have hp:=Xa3 b
 have hpp:=W4i hp hp
 refine W1v ?_ hpp
 have h1:=Ybs (Xfx (b:=b) h)
 rw[<-Xfe] at h1
 unfold sq2 at h1
 grind
theorem Xto{x:Rat}{b:Nat}(h:0<=x): x<=(Xdw x b+Rat.divInt 1 (2^b))*(Xdw x b+Rat.divInt 1 (2^b)):=by
 have hp:=Xa3 b
 have hpp:=W4i hp hp
 refine W1v ?_ hpp
 have h1:=Xt6 (Xfx (b:=b) h)
 have h2:=Xdz b
 rw[<-Xfe] at h1
 have h3:sq2 x b=x*(pw b*pw b):=rfl
 have h4:(Xdw x b+Rat.divInt 1 (2^b))*(Xdw x b+Rat.divInt 1 (2^b))*(pw b*pw b)=(Xdw x b*pw b+1)*(Xdw x b*pw b+1):=by
  rw[<-h2];grind
 rw[h4,<-h3]
 exact W2i h1
theorem Xgz: ∀ {k:Nat} {t:Tw k} (h:Xbx k t) (a:El k) (b:Nat),inI k t a (enc k t a b).1 (enc k t a b).2
 | 0,t,h,a,b=>⟨(Xak h).le_rf (Xax 0 t) a,(Xak h).le_rf (Xax 0 t) a⟩
 | k+1,t,h,a,b=>by
  have iu:=Xmh (t:=t) h.1 (Xgz h.1 a.1 b)
  have hs:=Xq6 (t:=t) a
  by_cases hz:∀x∈toL k a.2,x=0
  . have he:enc (k+1) t a b=enc k t.1 a.1 b:=if_pos hz
    rw[he]
    have ha:a=up k a.1:=W1h rfl ((Xat k a.2).2 hz)
    rw[ha]
    exact iu
  . have he:enc (k+1) t a b=rnd (Xng (enc k t.1 a.1 b) (Xcj (enc k t.1 a.2 b) (rts (enc k t.1 t.2 b) b))) b:=if_neg hz
    have iv:=Xmh (t:=t) h.1 (Xgz h.1 a.2 b)
    have ir:=Xgz h.1 t.2 b
    have hr2:0<=(enc k t.1 t.2 b).2:=by
     have h0:le k t.1 (rat k 0) t.2:=(Xh7 h.1).2 (by rw[h.2];decide)
     exact(Xbk h.1).1 (le_tr h.1 h0 ir.2)
    have hu:0<=Rat.divInt 1 (2^b):=W1v (by rw[Xdz,W5f];decide) (Xa3 b)
    have is:=Xvn h ir (c:=Xdw (mx0 (enc k t.1 t.2 b).1) b) (d:=Xdw (enc k t.1 t.2 b).2 b+Rat.divInt 1 (2^b)) (Xc9 _ _) (by have:=Xc9 (enc k t.1 t.2 b).2 b;grind)
     (by
      have h1:=Xhq (b:=b) (Xf1 (enc k t.1 t.2 b).1)
      by_cases h0:(enc k t.1 t.2 b).1<0
      . right
        have e:mx0 (enc k t.1 t.2 b).1=0:=if_pos h0
        rw[e] at h1 |-
        have h2:=Xc9 0 b
        by_cases h3:Xdw 0 b=0
        . exact h3
        . have:=W4i (show 0<Xdw 0 b by grind) (show 0<Xdw 0 b by grind)
          grind
      . left
        have e:mx0 (enc k t.1 t.2 b).1=(enc k t.1 t.2 b).1:=if_neg h0
        rw[e] at h1 |-
        exact h1) (Xto hr2)
    have im:=Xvo h iv is (Xc9 _ _) (Xh9 (enc k t.1 a.2 b) (rts (enc k t.1 t.2 b) b)).1 (Xh9 (enc k t.1 a.2 b) (rts (enc k t.1 t.2 b) b)).2.1 (Xia (enc k t.1 a.2 b) (rts (enc k t.1 t.2 b) b)).2.2.1 (Xia (enc k t.1 a.2 b) (rts (enc k t.1 t.2 b) b)).2.2.2
    have ia:=Xvp h iu im
    rw[<-hs] at ia
    rw[he]
    exact Xqu h ia (Xq7 _ _) (Xs4 _ _)
def eB(s b:Nat): Nat->Nat
 | 0=>s
 | k+1=>3*eB s b k+4*b+6
theorem Xz9(s b:Nat): ∀k,s<=eB s b k
 | 0=>W0b _
 | k+1=>by have:=Xz9 s b k;show s<=3*eB s b k+4*b+6;omega
theorem Ycp{k:Nat}{t:Tw (k+1)}(h:Xbx (k+1) t)(b:Nat): 0<=(enc k t.1 t.2 b).2:=by
 have h0:le k t.1 (rat k 0) t.2:=(Xh7 h.1).2 (by rw[h.2];decide)
 exact(Xbk h.1).1 (le_tr h.1 h0 (Xgz h.1 t.2 b).2)
def Q2(s:Nat)(p:Rat×Rat): Prop:=Qs s p.1/\Qs s p.2
theorem Xj8(b:Nat): Qs (b+1) (Rat.divInt 1 (2^b)):=Qs.divInt (Zs.one (by omega)) (Zs.two (W0b _)) (Xgu b)
theorem Ybq{s b:Nat}{p:Rat×Rat}(h:Q2 s p)(h0:0<=p.2)(hs:1<=s): Q2 (s+3*b+4) (rts p b) :=
 ⟨(Xhr (Xuu h.1 hs) (Xf1 _) b).mono (by omega),((Xhr h.2 h0 b).add (Xj8 b)).mono (by omega)⟩
theorem Xn7{s s':Nat}{p q:Rat×Rat}(h:Q2 s p)(h':Q2 s' q): Q2 (s+s') (Xcj p q):=by
 have key:∀y∈p.1*q.1::[p.1*q.2,p.2*q.1,p.2*q.2],Qs (s+s') y:=by
  intro y hy
  simp at hy
  rcases hy with rfl | rfl | rfl | rfl
  . exact h.1.mul h'.1
  . exact h.1.mul h'.2
  . exact h.2.mul h'.1
  . exact h.2.mul h'.2
 exact⟨Xu4 key,Xu9 key⟩
theorem Xos{s s':Nat}{p q:Rat×Rat}(h:Q2 s p)(h':Q2 s' q): Q2 (s+s'+1) (Xng p q):=⟨h.1.add h'.1,h.2.add h'.2⟩
theorem Ybu{s:Nat}{p:Rat×Rat}(h:Q2 s p)(b:Nat): Q2 (s+b+1) (rnd p b):=⟨Xwl h.1 b,Yhk h.2 b⟩
theorem Q2.mono{s s':Nat}{p:Rat×Rat}(h:Q2 s p)(hs:s<=s'): Q2 s' p:=⟨h.1.mono hs,h.2.mono hs⟩
theorem Xin: ∀ {k:Nat} {t:Tw k} {a:El k} {s b:Nat},Xbx k t->TS s k t->Sz s (toL k a)->1<=s->Q2 (eB s b k) (enc k t a b)
 | 0,t,a,s,b,h,hT,ha,hs=>⟨ha.qs (W0e.2 rfl),ha.qs (W0e.2 rfl)⟩
 | k+1,t,a,s,b,h,hT,ha,hs=>by
  have hu:=Xin (b:=b) h.1 hT.1 (Sz.left (l:=toL k a.1) (m:=toL k a.2) ha) hs
  have hv:=Xin (b:=b) h.1 hT.1 (Sz.right (l:=toL k a.1) (m:=toL k a.2) ha) hs
  have hr:=Xin (b:=b) h.1 hT.1 hT.2 hs
  have hge:=Xz9 s b k
  show Q2 (3*eB s b k+4*b+6) (if (∀x∈toL k a.2,x=0) then enc k t.1 a.1 b else rnd (Xng (enc k t.1 a.1 b) (Xcj (enc k t.1 a.2 b) (rts (enc k t.1 t.2 b) b))) b)
  split
  . exact hu.mono (by omega)
  . exact(Ybu (Xos hu (Xn7 hv (Ybq hr (Ycp h b) (by omega)))) b).mono (by omega)
theorem Xl4(a b:Nat): pw (a+b)=pw a*pw b:=by
 show ((2^(a+b):Int):Rat)=((2^a:Int):Rat)*((2^b:Int):Rat)
 rw[<-W4o,<-Int.pow_add]
theorem Xcu(n:Nat): pw (n+1)=2*pw n:=by rw[Xl4,show pw 1=2 from rfl];grind
theorem Xgw(n:Nat): 1<=pw n:=by
 induction n with
 | zero=>exact W6j
 | succ n ih=>rw[Xcu];grind
theorem Xh0{a b:Nat}(h:a<=b): pw a<=pw b:=by
 obtain⟨c,rfl⟩:=Nat.le.dest h
 rw[Xl4]
 have h1:=W2o (Xgw c) (W2i (Xa3 a))
 grind
theorem Xjh{x y:Rat}(h:0<=x)(k:0<=y): 0<=x*y:=W7u h k
theorem Ycc{a b c d:Rat}(h:a<=b)(k:c<=d)(hc:0<=c)(hb:0<=b): a*c<=b*d:=by
 have h1:=W2g h hc
 have h2:=W2o k hb
 grind
theorem Xkx{x y X Y:Rat}(h1:-X<=x)(h2:x<=X)(h3:-Y<=y)(h4:y<=Y): x*y<=X*Y:=by
 have a:=Xjh (show 0<=X-x by grind) (show 0<=Y+y by grind)
 have b:=Xjh (show 0<=X+x by grind) (show 0<=Y-y by grind)
 grind
theorem Xqs{x y:Rat}(hy:0<=y)(h:x*x<=y*y): x<=y:=by
 by_cases hxy:x<=y
 . exact hxy
 . have h1:y<x:=by grind
   have a:=W4i (show 0<x-y by grind) (show 0<x by grind)
   have b:=Xjh hy (show 0<=x-y by grind)
   grind
def Wid(p:Rat×Rat)(e:Nat): Prop:=p.1<=p.2/\(p.2-p.1)*pw e<=1
def Mg(p:Rat×Rat)(m:Nat): Prop:=-pw m<=p.1/\p.2<=pw m
theorem Wid.mono{p:Rat×Rat}{e f:Nat}(h:Wid p e)(hf:f<=e): Wid p f:=by
 refine⟨h.1,?_⟩
 have:=W2o (Xh0 hf) (show 0<=p.2-p.1 by have:=h.1;grind)
 have:=h.2
 grind
theorem Mg.mono{p:Rat×Rat}{m n:Nat}(h:Mg p m)(hn:m<=n): Mg p n:=by
 have:=Xh0 hn
 have h1:=h.1
 have h2:=h.2
 exact⟨by grind,by grind⟩
structure RtOf (r:Rat×Rat) (b:Nat) (s:Rat×Rat):Prop where
 lo:s.1=Xdw (mx0 r.1) b
 l:Xdw r.2 b<=s.2
 h:s.2<=Xdw r.2 b+Rat.divInt 1 (2^b)
theorem Xes(b:Nat): 0<Rat.divInt 1 (2^b):=by
 by_cases h:0<Rat.divInt 1 (2^b)
 . exact h
 . have h1:=W2g (show Rat.divInt 1 (2^b)<=0 by grind) (W2i (Xa3 b))
   rw[Xdz] at h1
   exact absurd h1 (by grind)
theorem Xs5{b f:Nat}(h:f+1<=b): 2*(Rat.divInt 1 (2^b)*pw f)<=1:=by
 have h1:=W2o (Xh0 h) (W2i (Xes b))
 rw[Xdz,Xcu] at h1
 grind
theorem Xj9(b:Nat): Rat.divInt 1 (2^b)<=1:=by
 have h1:=W2o (Xgw b) (W2i (Xes b))
 rw[Xdz] at h1
 grind
theorem Yi5(x:Rat): x<=mx0 x:=by unfold mx0;split<;>grind
theorem Xhs{x y:Rat}{b:Nat}(hx:0<=x)(h:x<=y): Xdw x b<=Xdw y b:=by
 have hp:=Xa3 b
 refine W1v ?_ hp
 rw[Xfe,Xfe,W3g]
 have h1:sq2 x b<=sq2 y b:=W2g h (W2i (W4i hp hp))
 have h2:=Ybs (Xfx (b:=b) hx)
 have h3:=Xt6 (x:=sq2 y b) (W3r (Xfx (b:=b) hx) h1)
 by_cases h4:(rtF (sq2 x b):Int)<=rtF (sq2 y b)
 . exact h4
 . have h5:(rtF (sq2 y b):Int)+1<=rtF (sq2 x b):=by omega
   have h6:=W3g.2 h5
   rw[W5j,show ((1:Int):Rat)=1 from rfl] at h6
   have h7:(0:Rat)<=((rtF (sq2 y b):Int):Rat):=Rat.intCast_nonneg.2 (by omega)
   have h8:=Ycc h6 h6 (by grind) (by grind)
   grind
theorem RtOf.wd{r s:Rat×Rat}{b e f:Nat}(R:RtOf r b s)(hr:Wid r e)(h0:0<=r.2)(hf:2*f<=e)(hb:f+1<=b): s.1<=s.2/\(s.2-s.1)*pw f<=2:=by
 obtain⟨r1,r2⟩:=r
 obtain⟨c,d⟩:=s
 obtain⟨h1,h2,h3⟩:=R
 dsimp only at *
 have hA:=Xhq (b:=b) h0
 have hB:=Xto (b:=b) (Xf1 r1)
 have hB0:=Xc9 (mx0 r1) b
 have hm:=Yi5 r1
 have hu:=Xes b
 have hul:=Xs5 hb
 rw[<-h1] at hB hB0
 have hw:=(hr.mono hf).2
 have hpf:=Xa3 f
 rw[show 2*f=f+f by omega,Xl4] at hw
 dsimp only at hw
 generalize Rat.divInt 1 (2^b)=ε at *
 generalize hAe:Xdw r2 b=A at *
 have key:(A-(c+ε))*pw f<=1:=by
  by_cases hk:(A-(c+ε))*pw f<=1
  . exact hk
  . have hk:1<(A-(c+ε))*pw f:=by grind
    have hD:0<A-(c+ε):=by
     by_cases hD:0<A-(c+ε)
     . exact hD
     . have:=W2g (show A-(c+ε)<=0 by grind) (W2i hpf)
       grind
    have e1:=Xjh (W2i hD) (show 0<=2*(c+ε) by grind)
    have e2:(A-(c+ε))*(A-(c+ε))<=r2-r1:=by grind
    have e3:=W2g e2 (W2i (W4i hpf hpf))
    have e4:=Ycc (W2i hk) (W2i hk) (by decide) (by grind)
    have e5:=W4i (show 0<(A-(c+ε))*pw f-1 by grind) (show 0<(A-(c+ε))*pw f by grind)
    grind
 refine⟨?_,?_⟩
 . have hmono:mx0 r1<=r2:=by
    have:=hr.1
    unfold mx0
    dsimp only at this
    split
    . exact h0
    . exact this
   have:=Xhs (b:=b) (Xf1 r1) hmono
   rw[hAe,<-h1] at this
   grind
 . have:=W2g (show d-c<=(A-(c+ε))+2*ε by grind) (W2i hpf)
   grind
theorem RtOf.mg{r s:Rat×Rat}{b m:Nat}(R:RtOf r b s)(hr:Mg r m)(h0:0<=r.2): 0<=s.1/\s.2<=pw (m+1):=by
 have h1:=Xhq (b:=b) h0
 have h2:=Xc9 (mx0 r.1) b
 rw[<-R.lo] at h2
 refine⟨h2,?_⟩
 have h3:Xdw r.2 b<=pw m:=by
  refine Xqs (W2i (Xa3 m)) (W3r h1 (W3r hr.2 ?_))
  have:=W2o (Xgw m) (W2i (Xa3 m))
  grind
 have h4:=R.h
 have h5:=Xj9 b
 have h6:=Xgw m
 rw[Xcu]
 grind
theorem Xux(p q:Rat×Rat): (∃v s,(v=p.1\/v=p.2)/\(s=q.1\/s=q.2)/\(Xcj p q).1=v*s)/\∃v s,(v=p.1\/v=p.2)/\(s=q.1\/s=q.2)/\(Xcj p q).2=v*s:=by
 constructor
 . show ∃v s,(v=p.1\/v=p.2)/\(s=q.1\/s=q.2)/\lo2 (lo2 (lo2 (p.1*q.1) (p.1*q.2)) (p.2*q.1)) (p.2*q.2)=v*s
   rcases @Xva (lo2 (lo2 (p.1*q.1) (p.1*q.2)) (p.2*q.1)) (p.2*q.2) with h | h<;>rw[h]
   . rcases @Xva (lo2 (p.1*q.1) (p.1*q.2)) (p.2*q.1) with h | h<;>rw[h]
     . rcases @Xva (p.1*q.1) (p.1*q.2) with h | h<;>rw[h]
       . exact⟨_,_,.inl rfl,.inl rfl,rfl⟩
       . exact⟨_,_,.inl rfl,.inr rfl,rfl⟩
     . exact⟨_,_,.inr rfl,.inl rfl,rfl⟩
   . exact⟨_,_,.inr rfl,.inr rfl,rfl⟩
 . show ∃v s,(v=p.1\/v=p.2)/\(s=q.1\/s=q.2)/\hi2 (hi2 (hi2 (p.1*q.1) (p.1*q.2)) (p.2*q.1)) (p.2*q.2)=v*s
   rcases @Xvx (hi2 (hi2 (p.1*q.1) (p.1*q.2)) (p.2*q.1)) (p.2*q.2) with h | h<;>rw[h]
   . rcases @Xvx (hi2 (p.1*q.1) (p.1*q.2)) (p.2*q.1) with h | h<;>rw[h]
     . rcases @Xvx (p.1*q.1) (p.1*q.2) with h | h<;>rw[h]
       . exact⟨_,_,.inl rfl,.inl rfl,rfl⟩
       . exact⟨_,_,.inl rfl,.inr rfl,rfl⟩
     . exact⟨_,_,.inr rfl,.inl rfl,rfl⟩
   . exact⟨_,_,.inr rfl,.inr rfl,rfl⟩
theorem Xpi{u v r s:Rat×Rat}{b b' e f m:Nat}(hu:Wid u f)(hv:Wid v f)(hr:Wid r e)(hf:2*f<=e)(mv:Mg v m)(ms:0<=s.1/\s.2<=pw (m+1))(h0:0<=r.2)(R:RtOf r b s)(hb:f+1<=b)(hb':b<=b')(he:m+3<=f):
 Wid (rnd (Xng u (Xcj v s)) b') (f-(m+3)):=by
 have hs:=R.wd hr h0 (f:=f) hf hb
 have wu:=hu.2
 have wv:=hv.2
 have hu1:=hu.1
 have hv1:=hv.1
 have hs1:=hs.1
 have hs2:=hs.2
 have hpf:=Xa3 f
 have hpm:=Xa3 m
 obtain⟨⟨v1,s1,hv1',hs1',e1⟩,v2,s2,hv2',hs2',e2⟩:=Xux v s
 have hle:=(Xh9 v s).1
 have hge:=(Xia v s).1
 have hP:(Xcj v s).2-(Xcj v s).1<=pw m*(s.2-s.1)+pw (m+1)*(v.2-v.1):=by
  rw[e1,e2]
  have a1:-pw m<=v2/\v2<=pw m:=by
   have:=mv.1;have:=mv.2
   rcases hv2' with rfl | rfl<;>exact⟨by grind,by grind⟩
  have a2:-(s.2-s.1)<=s2-s1/\s2-s1<=s.2-s.1:=by
   rcases hs1' with rfl | rfl<;>rcases hs2' with rfl | rfl<;>exact⟨by grind,by grind⟩
  have a3:-pw (m+1)<=s1/\s1<=pw (m+1):=by
   have:=ms.1;have:=ms.2;have:=Xa3 (m+1)
   rcases hs1' with rfl | rfl<;>exact⟨by grind,by grind⟩
  have a4:-(v.2-v.1)<=v2-v1/\v2-v1<=v.2-v.1:=by
   rcases hv1' with rfl | rfl<;>rcases hv2' with rfl | rfl<;>exact⟨by grind,by grind⟩
  have b1:=Xkx a1.1 a1.2 a2.1 a2.2
  have b2:=Xkx a3.1 a3.2 a4.1 a4.2
  grind
 have hPf:((Xcj v s).2-(Xcj v s).1)*pw f<=pw (m+2):=by
  have c1:=W2g hP (W2i hpf)
  have c2:=W2o hs2 (W2i hpm)
  have c3:=W2o wv (W2i (Xa3 (m+1)))
  rw[Xcu,Xcu] at *
  grind
 have d1:=Xwm (u.1+(Xcj v s).1) b'
 have d2:=Ybc (u.2+(Xcj v s).2) b'
 have d3:=Xq7 (u.1+(Xcj v s).1) b'
 have d4:=Xs4 (u.2+(Xcj v s).2) b'
 have hε:=Xs5 (b:=b') (f:=f) (by omega)
 have hεp:=Xes b'
 have hεe:=Xdz b'
 have d5:u.1+(Xcj v s).1-Rat.divInt 1 (2^b')<=dnQ (u.1+(Xcj v s).1) b':=by
  refine W1v ?_ (Xa3 b')
  grind
 have d6:upQ (u.2+(Xcj v s).2) b'<=u.2+(Xcj v s).2+Rat.divInt 1 (2^b'):=by
  refine W1v ?_ (Xa3 b')
  grind
 refine⟨?_,?_⟩
 . show dnQ (u.1+(Xcj v s).1) b'<=upQ (u.2+(Xcj v s).2) b'
   grind
 . show (upQ (u.2+(Xcj v s).2) b'-dnQ (u.1+(Xcj v s).1) b')*pw (f-(m+3))<=1
   refine W1v ?_ (Xa3 (m+3))
   rw[W7g,<-Xl4,show f-(m+3)+(m+3)=f by omega,Rat.one_mul]
   have g1:=W2g (show upQ (u.2+(Xcj v s).2) b'-dnQ (u.1+(Xcj v s).1) b'<=(u.2-u.1)+((Xcj v s).2-(Xcj v s).1)+2*Rat.divInt 1 (2^b') by grind) (W2i hpf)
   have g2:=Xgw (m+1)
   rw[Xcu (m+1)] at hPf
   rw[Xcu (m+2),Xcu (m+1)]
   grind
theorem Ydp{u v r s:Rat×Rat}{b b' e m:Nat}(hu:Wid u e)(hv:Wid v e)(hr:Wid r e)(mv:Mg v m)(mr:Mg r m)(h0:0<=r.2)(R:RtOf r b s)(hb:e/2+1<=b)(hb':b<=b')(he:m+3<=e/2):
 Wid (rnd (Xng u (Xcj v s)) b') (e/2-(m+3)):=Xpi (hu.mono (by omega)) (hv.mono (by omega)) hr (by omega) mv (R.mg mr h0) h0 R hb hb' he
theorem Xpj{u v s:Rat×Rat}{b' m j:Nat}(mu:Mg u m)(mv:Mg v m)(ms:0<=s.1/\s.2<=pw (j+1))(hs1:s.1<=s.2)(hv1:v.1<=v.2): Mg (rnd (Xng u (Xcj v s)) b') (m+j+2):=by
 obtain⟨⟨v1,s1,hv1',hs1',e1⟩,v2,s2,hv2',hs2',e2⟩:=Xux v s
 have key:∀x y,(x=v.1\/x=v.2)->(y=s.1\/y=s.2)->-(pw m*pw (j+1))<=x*y/\x*y<=pw m*pw (j+1):=by
  intro x y hx hy
  have a1:-pw m<=x/\x<=pw m:=by
   have:=mv.1;have:=mv.2
   rcases hx with rfl | rfl<;>exact⟨by grind,by grind⟩
  have a3:-pw (j+1)<=y/\y<=pw (j+1):=by
   have:=ms.1;have:=ms.2;have:=Xa3 (j+1)
   rcases hy with rfl | rfl<;>exact⟨by grind,by grind⟩
  have b1:=Xkx a1.1 a1.2 a3.1 a3.2
  have b2:=Xkx (x:=-x) (show -pw m<=-x by grind) (show -x<=pw m by grind) a3.1 a3.2
  exact⟨by grind,b1⟩
 have k1:=(key _ _ hv1' hs1').1
 have k2:=(key _ _ hv2' hs2').2
 rw[<-e1] at k1
 rw[<-e2] at k2
 have hεe:=Xdz b'
 have hε1:=Xj9 b'
 have d1:=Xwm (u.1+(Xcj v s).1) b'
 have d2:=Ybc (u.2+(Xcj v s).2) b'
 have d5:u.1+(Xcj v s).1-Rat.divInt 1 (2^b')<=dnQ (u.1+(Xcj v s).1) b':=by
  refine W1v ?_ (Xa3 b')
  grind
 have d6:upQ (u.2+(Xcj v s).2) b'<=u.2+(Xcj v s).2+Rat.divInt 1 (2^b'):=by
  refine W1v ?_ (Xa3 b')
  grind
 have e3:pw (m+j+2)=2*(pw m*pw (j+1)):=by rw[<-Xl4,<-Xcu];congr 1
 have e4:pw m+1<=pw m*pw (j+1):=by
  have h1:=Xgw m
  have h3:=Xgw j
  have h2:=W2o (show 2<=pw (j+1) by rw[Xcu];grind) (W2i (Xa3 m))
  grind
 have m1:=mu.1
 have m2:=mu.2
 refine⟨?_,?_⟩
 . show -pw (m+j+2)<=dnQ (u.1+(Xcj v s).1) b'
   rw[e3];grind
 . show upQ (u.2+(Xcj v s).2) b'<=pw (m+j+2)
   rw[e3];grind
theorem Ydr{u v r s:Rat×Rat}{b b' m:Nat}(mu:Mg u m)(mv:Mg v m)(mr:Mg r m)(h0:0<=r.2)(hs1:s.1<=s.2)(hv1:v.1<=v.2)(R:RtOf r b s): Mg (rnd (Xng u (Xcj v s)) b') (2*m+2):=by
 rw[show 2*m+2=m+m+2 by omega];exact Xpj mu mv (R.mg mr h0) hs1 hv1
def mW(m:Nat): Nat->Nat
 | 0=>m
 | k+1=>2*mW m k+2
def eW(m b:Nat): Nat->Nat
 | 0=>2*b-2
 | k+1=>eW m b k/2-(mW m k+3)
theorem Ykh(m b:Nat): ∀k,eW m b k<=2*b-2
 | 0=>W0b _
 | k+1=>by have:=Ykh m b k;show eW m b k/2-(mW m k+3)<=_;omega
theorem Yjb{m:Nat}{x:Rat}(h:Qs m x): Mg (x,x) m:=by
 have h1:=h.n
 unfold Zs at h1
 have e:=Xkw x
 have hd:(1:Rat)<=(x.den:Rat):=by
  have:((1:Int):Rat)<=((x.den:Int):Rat):=W3g.2 (by have:=x.den_pos;omega)
  exact this
 have h2:((x.num:Int):Rat) <= pw m := W3g.2 (by have:(x.num.natAbs:Int) < ((2^m:Nat):Int) := by exact_mod_cast h1
                                                have e2:((2^m:Nat):Int)=2^m:=by simp
                                                omega)
 have h3:-pw m<=((x.num:Int):Rat):=by
  have h4:((-(2^m):Int):Rat) <= ((x.num:Int):Rat) := W3g.2 (by have:(x.num.natAbs:Int) < ((2^m:Nat):Int) := by exact_mod_cast h1
                                                               have e2:((2^m:Nat):Int)=2^m:=by simp
                                                               omega)
  rwa[Rat.intCast_neg] at h4
 have hp:=Xa3 m
 refine⟨?_,?_⟩
 . show -pw m<=x
   by_cases h0:0<=x
   . grind
   . have:=Xjh (show 0<=-x by grind) (show 0<=(x.den:Rat)-1 by grind)
     grind
 . show x<=pw m
   by_cases h0:0<=x
   . have:=Xjh h0 (show 0<=(x.den:Rat)-1 by grind)
     grind
   . grind
def MgL(m:Nat)(l:List Rat): Prop:=∀x∈l,Qs m x
def MgT(m:Nat): (k:Nat)->Tw k->Prop
 | 0,_=>True
 | k+1,t=>MgT m k t.1/\MgL m (toL k t.2)
theorem Ybr(r:Rat×Rat)(b:Nat): RtOf r b (rts r b):=⟨rfl,by have:=Xes b;show _<=Xdw r.2 b+_;grind,W6j⟩
theorem Xwe{k:Nat}{t:Tw k}(h:Xbx k t)(a:El k)(b:Nat): (enc k t a b).1<=(enc k t a b).2:=Ycf h (Xgz h a b)
theorem Xms: ∀ {k:Nat} {t:Tw k} {a:El k} {m:Nat} (b:Nat),Xbx k t->MgT m k t->MgL m (toL k a)->Mg (enc k t a b) (mW m k)
 | 0,t,a,m,b,h,hT,ha=>Yjb (ha _ (W0e.2 rfl))
 | k+1,t,a,m,b,h,hT,ha=>by
  have hu:=Xms (a:=a.1) b h.1 hT.1 λx hx=>ha x (W2a _ hx)
  have hv:=Xms (a:=a.2) b h.1 hT.1 λx hx=>ha x (W1g _ hx)
  have hr:=Xms b h.1 hT.1 hT.2
  have h0:0<=(enc k t.1 t.2 b).2:=by
   have h0:le k t.1 (rat k 0) t.2:=(Xh7 h.1).2 (by rw[h.2];decide)
   exact(Xbk h.1).1 (le_tr h.1 h0 (Xgz h.1 t.2 b).2)
  show Mg (if (∀x∈toL k a.2,x=0) then enc k t.1 a.1 b else rnd (Xng (enc k t.1 a.1 b) (Xcj (enc k t.1 a.2 b) (rts (enc k t.1 t.2 b) b))) b) (2*mW m k+2)
  split
  . exact hu.mono (by omega)
  . refine Ydr hu hv hr h0 ?_ (Xwe h.1 _ _) (Ybr _ b)
    have hle:=Xwe h.1 t.2 b
    have hm:mx0 (enc k t.1 t.2 b).1<=(enc k t.1 t.2 b).2:=by unfold mx0;split<;>assumption
    have:=Xhs (b:=b) (Xf1 _) hm
    have:=Xes b
    show Xdw (mx0 (enc k t.1 t.2 b).1) b<=Xdw (enc k t.1 t.2 b).2 b+Rat.divInt 1 (2^b)
    grind
theorem Xq3: ∀ {k:Nat} {t:Tw k} {a:El k} {m b:Nat},Xbx k t->MgT m k t->MgL m (toL k a)->0<eW m b k->Wid (enc k t a b) (eW m b k)
 | 0,t,a,m,b,h,hT,ha,he=>⟨W6j,(λ(x:Rat)=>(by grind:(x-x)*pw (eW m b 0)<=1)) a⟩
 | k+1,t,a,m,b,h,hT,ha,he=>by
  have he':0<eW m b k/2-(mW m k+3):=he
  have hle:=Ykh m b k
  have hu:=Xq3 (a:=a.1) (m:=m) (b:=b) h.1 hT.1 (λx hx=>ha x (W2a _ hx)) (by omega)
  have hv:=Xq3 (a:=a.2) (m:=m) (b:=b) h.1 hT.1 (λx hx=>ha x (W1g _ hx)) (by omega)
  have hr:=Xq3 (m:=m) (b:=b) h.1 hT.1 hT.2 (by omega)
  have mv:=Xms (a:=a.2) b h.1 hT.1 λx hx=>ha x (W1g _ hx)
  have mr:=Xms b h.1 hT.1 hT.2
  have h0:0<=(enc k t.1 t.2 b).2:=by
   have h0:le k t.1 (rat k 0) t.2:=(Xh7 h.1).2 (by rw[h.2];decide)
   exact(Xbk h.1).1 (le_tr h.1 h0 (Xgz h.1 t.2 b).2)
  show Wid (if (∀x∈toL k a.2,x=0) then enc k t.1 a.1 b else rnd (Xng (enc k t.1 a.1 b) (Xcj (enc k t.1 a.2 b) (rts (enc k t.1 t.2 b) b))) b) (eW m b k/2-(mW m k+3))
  split
  . exact hu.mono (by omega)
  . exact Ydp hu hv hr mv mr h0 (Ybr _ b) (by omega) (W0b _) (by omega)
end
section
theorem Xol{s b b':Nat}(h:b<=b'): ∀k,eB s b k<=eB s b' k
 | 0=>W0b _
 | k+1=>by have:=Xol (s:=s) h k;show 3*eB s b k+4*b+6<=3*eB s b' k+4*b'+6;omega
theorem Yma{x y:Rat}{b:Nat}: Xnf (y-x) (Rat.divInt 1 (2^b))<=0↔(y-x)*pw b<=1:=by
 rw[Yfu]
 have h:=Xdz b
 constructor
 . intro h1
   have:=W2g (show y-x<=Rat.divInt 1 (2^b) by grind) (W2i (Xa3 b))
   rwa[h] at this
 . intro h1 h2
   have:=W4i (show 0<y-x-Rat.divInt 1 (2^b) by grind) (Xa3 b)
   grind
def Xbo(k:Nat)(t:Tw k)(a:El k)(z:Int): Prop:=le k t (rat k (z:Rat)) a/\sgn k t (add k a (neg k (rat k ((z+1:Int):Rat))))=-1
theorem Xqo{k:Nat}{t:Tw k}(h:Xbx k t){a b:El k}: sgn k t (add k a (neg k b))=-1↔¬le k t b a:=by
 unfold le
 have:=(Xak h).tri (add k a (neg k b))
 omega
theorem Xbo.uniq{k:Nat}{t:Tw k}{a:El k}{z z':Int}(h:Xbx k t)(i:Xbo k t a z)(j:Xbo k t a z'): z=z':=by
 have key:∀z z',Xbo k t a z->Xbo k t a z'->z<=z':=by
  intro z z' i j
  by_cases hz:z<=z'
  . exact hz
  . exact absurd (le_tr h ((Xbk h).2 (W3g.2 (show z'+1<=z by omega))) i.1) ((Xqo h).1 j.2)
 have:=key _ _ i j
 have:=key _ _ j i
 omega
theorem Xqz{k:Nat}{t:Tw k}{a:El k}{x y:Rat}(h:Xbx k t)(i:inI k t a x y)(hw:Wid (x,y) 1): (sgn k t (add k a (neg k (rat k (y.floor:Rat))))<0->Xbo k t a (y.floor-1))/\(¬sgn k t (add k a (neg k (rat k (y.floor:Rat))))<0->Xbo k t a y.floor):=by
 have h1:=@Rat.floor_le y
 have h2:=@Rat.lt_floor y
 have h3:(y-x)*2<=1:=hw.2
 have e1:((1:Int):Rat)=1:=rfl
 have hup:sgn k t (add k a (neg k (rat k ((y.floor+1:Int):Rat))))=-1:=by
  rw[Xqo h]
  intro hl
  have:=(Xbk h).1 (le_tr h hl i.2)
  rw[W5j,e1] at this
  grind
 refine⟨λhn=>⟨le_tr h ((Xbk h).2 ?_) i.1,?_⟩,λhn=>⟨?_,hup⟩⟩
 . rw[Rat.intCast_sub,e1]
   grind
 . rw[show y.floor-1+1=y.floor by omega]
   have:=(Xak h).tri (add k a (neg k (rat k (y.floor:Rat))))
   omega
 . show 0<=_
   omega
noncomputable def rtb(p:Rat×Rat)(b:Nat): Rat×Rat:=(Xdw (mx0 p.1) b,Xss p.2 b)
noncomputable def bx: (k:Nat)->Tw k->El k->Nat->Rat×Rat
 | 0=>λ_ (x:Rat) _=>(x,x)
 | k+1=>λt a b=>rnd (Xng (bx k t.1 a.1 b) (Xcj (bx k t.1 a.2 b) (rtb (bx k t.1 t.2 b) b))) (b+20)
theorem Xno(x:Rat)(b:Nat): Xss x b*pw b=((Xtm (sq2 x b):Int):Rat):=by
 unfold Xss
 rw[W3c]
 have h:=Xa3 b
 show ((Xtm (sq2 x b):Int):Rat)/pw b*pw b=_
 rw[W5g (by grind)]
theorem Xtl(x:Rat): (Xtm x=rtF x/\x<=((rtF x:Int):Rat)*((rtF x:Int):Rat))\/Xtm x=rtF x+1:=by
 unfold Xtm
 split
 . exact .inr rfl
 . rename_i h
   rw[W4o] at h
   exact .inl ⟨rfl,by grind⟩
theorem Xlr(x:Rat): ((rtF x:Int):Rat)<=((Xtm x:Int):Rat)/\((Xtm x:Int):Rat)<=((rtF x:Int):Rat)+1/\(0<=x->x<=((Xtm x:Int):Rat)*((Xtm x:Int):Rat)):=by
 have e1:((1:Int):Rat)=1:=rfl
 rcases Xtl x with ⟨h,h2⟩ | h
 . rw[h];exact⟨W6j,by grind,λ_=>h2⟩
 . have e:((Xtm x:Int):Rat)=((rtF x:Int):Rat)+1:=by
    rw[h,<-e1,<-W5j];congr 1
   rw[e]
   exact⟨by grind,W6j,λh0=>W2i (Xt6 h0)⟩
theorem Xpx(r:Rat×Rat)(b:Nat): RtOf r b (rtb r b):=by
 have h:=Xlr (sq2 r.2 b)
 have hp:=Xa3 b
 refine⟨rfl,?_,?_⟩
 . refine W1v ?_ hp
   rw[Xfe]
   show _<=Xss r.2 b*pw b
   rw[Xno];exact h.1
 . refine W1v ?_ hp
   show Xss r.2 b*pw b<=_
   have e:=Xfe r.2 b
   have e2:=Xdz b
   have e3:=Xno r.2 b
   have h2:=h.2.1
   grind
theorem Xym{x:Rat}{b:Nat}(h:0<=x): x<=Xss x b*Xss x b:=by
 have hp:=Xa3 b
 have hpp:=W4i hp hp
 refine W1v ?_ hpp
 have h1:=(Xlr (sq2 x b)).2.2 (Xfx h)
 rw[<-Xno] at h1
 have h3:sq2 x b=x*(pw b*pw b):=rfl
 rw[<-h3]
 have h4:Xss x b*Xss x b*(pw b*pw b)=Xss x b*pw b*(Xss x b*pw b):=by grind
 rw[h4];exact h1
theorem Ydt{s:Nat}{x:Rat}(h:Qs s x)(h0:0<=x)(b:Nat): Qs (s+(2*b+3)) (Xss x b):=by
 refine Qs.divInt ?_ (Zs.two (by omega)) (Xgu b)
 have h1:=Xt5 (Xtp (b:=b) h) (Xfx h0)
 rcases Xtl (sq2 x b) with ⟨e,_⟩ | e<;>rw[e]
 . exact h1.mono (by omega)
 . exact(h1.add (Zs.one (p:=1) (by decide))).mono (by omega)
theorem Ym1{x:Rat}{b:Nat}: Xdw (mx0 x) b*Xdw (mx0 x) b<=x\/Xdw (mx0 x) b=0:=by
 have h1:=Xhq (b:=b) (Xf1 x)
 by_cases h0:x<0
 . right
   have e:mx0 x=0:=if_pos h0
   rw[e] at h1 |-
   have h2:=Xc9 0 b
   by_cases h3:Xdw 0 b=0
   . exact h3
   . have:=W4i (show 0<Xdw 0 b by grind) (show 0<Xdw 0 b by grind)
     grind
 . left
   have e:mx0 x=x:=if_neg h0
   rw[e] at h1 |-
   exact h1
theorem Xjb{k:Nat}{t:Tw (k+1)}(h:Xbx (k+1) t){x y:Rat}(i:inI k t.1 t.2 x y): 0<=y:=by
 have h0:le k t.1 (rat k 0) t.2:=(Xh7 h.1).2 (by rw[h.2];decide)
 exact(Xbk h.1).1 (le_tr h.1 h0 i.2)
theorem Yds{k:Nat}{t:Tw (k+1)}(h:Xbx (k+1) t){a:El (k+1)}{u v r s:Rat×Rat}{b b':Nat}(iu:inI k t.1 a.1 u.1 u.2)(iv:inI k t.1 a.2 v.1 v.2)(ir:inI k t.1 t.2 r.1 r.2)(R:RtOf r b s)(hs:r.2<=s.2*s.2):
 inI (k+1) t a (rnd (Xng u (Xcj v s)) b').1 (rnd (Xng u (Xcj v s)) b').2:=by
 have iu:=Xmh (t:=t) h.1 iu
 have iv:=Xmh (t:=t) h.1 iv
 have hr2:=Xjb h ir
 have h0:0<=s.1:=by rw[R.lo];exact Xc9 _ _
 have h2:0<=s.2:=W3r (Xc9 _ _) R.l
 have is:=Xvn h ir (c:=s.1) (d:=s.2) h0 h2 (by rw[R.lo];exact Ym1) hs
 have im:=Xvo h iv is h0 (Xh9 v s).1 (Xh9 v s).2.1 (Xia v s).2.2.1 (Xia v s).2.2.2
 have ia:=Xvp h iu im
 rw[<-Xq6 a] at ia
 exact Xqu h ia (Xq7 _ _) (Xs4 _ _)
theorem Xlf{k:Nat}{t:Tw (k+1)}{a:El (k+1)}{b:Nat}: bx (k+1) t a b=rnd (Xng (bx k t.1 a.1 b) (Xcj (bx k t.1 a.2 b) (rtb (bx k t.1 t.2 b) b))) (b+20):=rfl
theorem Xi4: ∀ {k:Nat} {t:Tw k} (h:Xbx k t) (a:El k) (b:Nat),inI k t a (bx k t a b).1 (bx k t a b).2
 | 0,t,h,a,b=>⟨(Xak h).le_rf (Xax 0 t) a,(Xak h).le_rf (Xax 0 t) a⟩
 | k+1,t,h,a,b=>by
  have hu:=Xi4 h.1 a.1 b
  have hv:=Xi4 h.1 a.2 b
  have hr:=Xi4 h.1 t.2 b
  have hs:(bx k t.1 t.2 b).2<=(rtb (bx k t.1 t.2 b) b).2*(rtb (bx k t.1 t.2 b) b).2:=Xym (Xjb h hr)
  have R:=Xpx (bx k t.1 t.2 b) b
  rw[Xlf]
  generalize rtb (bx k t.1 t.2 b) b=s at *
  exact Yds h hu hv hr R hs
theorem Ykw{k:Nat}{t:Tw k}(h:Xbx k t)(a:El k)(b:Nat): (bx k t a b).1<=(bx k t a b).2:=Ycf h (Xi4 h a b)
theorem Yia{r:Rat×Rat}{b:Nat}(h0:0<=r.2)(h:r.1<=r.2): (rtb r b).1<=(rtb r b).2:=by
 have hm:mx0 r.1<=r.2:=by unfold mx0;split<;>assumption
 exact W3r (Xhs (b:=b) (Xf1 _) hm) (Xpx r b).l
def bB(s b:Nat): Nat->Nat
 | 0=>s
 | k+1=>3*bB s b k+3*b+30
theorem Yk3(s b:Nat): ∀k,s<=bB s b k
 | 0=>W0b _
 | k+1=>by have:=Yk3 s b k;show s<=3*bB s b k+3*b+30;omega
theorem Yh9{s b:Nat}{p:Rat×Rat}(h:Q2 s p)(h0:0<=p.2)(hs:1<=s): Q2 (s+2*b+3) (rtb p b) :=
 ⟨(Xhr (Xuu h.1 hs) (Xf1 _) b).mono (by omega),(Ydt h.2 h0 b).mono (by omega)⟩
theorem Yan: ∀ {k:Nat} {t:Tw k} {a:El k} {s b:Nat},Xbx k t->TS s k t->Sz s (toL k a)->1<=s->Q2 (bB s b k) (bx k t a b)
 | 0,t,a,s,b,h,hT,ha,hs=>⟨ha.qs (W0e.2 rfl),ha.qs (W0e.2 rfl)⟩
 | k+1,t,a,s,b,h,hT,ha,hs=>by
  have hu:=Yan (b:=b) h.1 hT.1 (Sz.left (l:=toL k a.1) (m:=toL k a.2) ha) hs
  have hv:=Yan (b:=b) h.1 hT.1 (Sz.right (l:=toL k a.1) (m:=toL k a.2) ha) hs
  have hr:=Yan (b:=b) h.1 hT.1 hT.2 hs
  have hge:=Yk3 s b k
  rw[Xlf]
  exact(Ybu (Xos hu (Xn7 hv (Yh9 hr (Xjb h (Xi4 h.1 t.2 b)) (by omega)))) (b+20)).mono (by show _<=3*bB s b k+3*b+30;omega)
end
section
abbrev dI(p:Rat×Rat): D:=.st (.pr (dq p.1) (dq p.2))
theorem Yj5{a b a' b':D}{g:Hp}{K:Hpl}(h1:a=a')(h2:b=b'): Fit g K (.d (.st (.pr a b))) (.d (.st (.pr a' b'))):=.eq (by rw[h1,h2])
abbrev zq: AV:=.st (.pr (.st (.pr (.b false) .nil)) (.st (.pr (.b false) .nil)))
abbrev zI: AV:=.st (.pr zq zq)
theorem Xvw{x:Rat}{r:List Rat}{s:Nat}(hx:∀y∈x::r,Qs s y)(hs:s+3<=4398046511104)(hn:r.length<=1000): C0 354 [.d (dqs (x::r))] (·=.d (dI (Xx0 x r,Xx1 x r))):=by
 refine En Tryz.func354 λ_ _ _=>?_
 refine Dz rfl ?_
 refine Ix 0 rfl (u:=dq x) rfl ?_
 refine Ix 0 rfl (u:=dq x) rfl ?_
 refine Dp 1 (r.map dq) rfl rfl (by simp) rfl ?_
 refine Lo (λ(q:Nat×Rat×Rat)=>[(2,.ptr 2 0),(3,.ptr 3 0),(4,.ptr 4 0),(15,.d (dqs r)),(16,.d (.int .i64 (r.map dq).length)),(17,.d (.int .i64 q.1))]) (λq=>[(2,.var zI),(3,.var (.d (dq q.2.1))),(4,.var (.d (dq q.2.2)))]) (λq=>q.1<=r.length/\q.2.1=Xx0 x (r.take q.1)/\q.2.2=Xx1 x (r.take q.1)) (λq=>r.length-q.1) (0,x,x) [] rfl ⟨W1a _,rfl,rfl⟩ (λ(k,lo,hi) ⟨hk,hlo,hhi⟩=>?_)
 simp only at hk hlo hhi
 have qlo:Qs s lo:=hlo ▸ Xu4 (Xug hx k)
 have qhi:Qs s hi:=hhi ▸ Xu9 (Xug hx k)
 refine By rfl (λh=>?_) λh=>?_
 . have h:(k:Int)<((r.map dq).length:Nat):=h
   rw[lq] at h
   obtain⟨y,hy⟩:=qat (l:=r) (k:=k) (by omega)
   have qy:Qs s y:=hx y (W0w _ (W0o hy))
   have e:r.take (k+1)=r.take k++[y]:=by rw[W1i,hy];rfl
   have e1:Xx0 x (r.take (k+1))=lo2 lo y:=by rw[e,Xu3,hlo]
   have e2:Xx1 x (r.take (k+1))=hi2 hi y:=by rw[e,Xu8,hhi]
   have fin:∀lo' hi',lo'=lo2 lo y->hi'=hi2 hi y->k+1<=r.length/\lo'=Xx0 x (r.take (k+1))/\hi'=Xx1 x (r.take (k+1)):=λlo' hi' a b=>⟨by omega,by rw[a,e1],by rw[b,e2]⟩
   refine Ix k rfl (mp hy) ?_
   refine Ce rfl (Xhz qy qlo (by omega)) ?_
   refine By rfl (λh1=>?_) λh1=>?_
   . refine Ce rfl (Xhz qy qhi (by omega)) ?_
     refine By rfl (λh2=>?_) λh2=>?_
     . refine Ar (k+1:Nat) rfl ?_ (wr (show (k:Int)+1=((k+1:Nat):Int) by omega) (by simp only[inK];omega))
       exact Bk (k+1,y,y) [] rfl (fin y y (if_pos (Yft.1 h1)).symm (if_pos (Yfv.1 h2)).symm) (by show r.length-(k+1)<r.length-k;omega)
     . refine Ar (k+1:Nat) rfl ?_ (wr (show (k:Int)+1=((k+1:Nat):Int) by omega) (by simp only[inK];omega))
       exact Bk (k+1,y,hi) [] rfl (fin y hi (if_pos (Yft.1 h1)).symm (if_neg λh=>h2 (Yfv.2 h)).symm) (by show r.length-(k+1)<r.length-k;omega)
   . refine Ce rfl (Xhz qy qhi (by omega)) ?_
     refine By rfl (λh2=>?_) λh2=>?_
     . refine Ar (k+1:Nat) rfl ?_ (wr (show (k:Int)+1=((k+1:Nat):Int) by omega) (by simp only[inK];omega))
       exact Bk (k+1,lo,y) [] rfl (fin lo y (if_neg λh=>h1 (Yft.2 h)).symm (if_pos (Yfv.1 h2)).symm) (by show r.length-(k+1)<r.length-k;omega)
     . refine Ar (k+1:Nat) rfl ?_ (wr (show (k:Int)+1=((k+1:Nat):Int) by omega) (by simp only[inK];omega))
       exact Bk (k+1,lo,hi) [] rfl (fin lo hi (if_neg λh=>h1 (Yft.2 h)).symm (if_neg λh=>h2 (Yfv.2 h)).symm) (by show r.length-(k+1)<r.length-k;omega)
 . have h:¬(k:Int)<((r.map dq).length:Nat):=h
   rw[lq] at h
   rw[W0a (by omega)] at hlo hhi
   refine Ce rfl (Xa8 (z:=0) (by decide)) ?_
   refine Dw rfl ?_
   refine Ce rfl (Xei (y:=0) qlo qs0 (by omega)) ?_
   refine Ce rfl (Xei (y:=0) qhi qs0 (by omega)) ?_
   exact R1 rfl (Yj5 (by rw[W6e,hlo]) (by rw[W6e,hhi]))
section
variable{p q:Rat×Rat}{s t:Nat}
theorem Xvu{x:Rat}(hx:Qs s x)(hs:s+3<=4398046511104): C0 319 [.d (dq x)] (·=.d (dI (x,x))):=by
 have e1:Xx0 x [x]=x:=by show lo2 x x=x;unfold lo2;split<;>rfl
 have e2:Xx1 x [x]=x:=by show hi2 x x=x;unfold hi2;split<;>rfl
 have:=Xvw (x:=x) (r:=[x]) (s:=s) (λy hy=>by simp at hy;rw[hy];exact hx) hs (by simp)
 rw[e1,e2] at this
 refine En Tryz.func319 λ_ _ _=>?_
 refine Ce rfl this ?_
 exact R1 rfl (.rf rfl)
theorem Xvs(hp:Q2 s p)(hs:2*s+1<=4398046511104): C0 273 [.d (dI p)] (·=.d (dq (p.2-p.1))):=by
 refine En Tryz.func273 λ_ _ _=>?_
 refine Ce rfl (Yd6 hp.2 hp.1 (by omega)) ?_
 exact R1 rfl (.rf rfl)
theorem Ye4(hp:Q2 s p)(hq:Q2 t q)(hs:s+t+1<=4398046511104): C0 321 [.d (dI p),.d (dI q)] (·=.d (dI (Xng p q))):=by
 refine En Tryz.func321 λ_ _ _=>?_
 refine Dw rfl ?_
 refine Ce rfl (Xei hp.1 hq.1 (by omega)) ?_
 refine Ce rfl (Xei hp.2 hq.2 (by omega)) ?_
 exact R1 rfl (Yj5 rfl rfl)
theorem Ye3(hp:Q2 s p)(hq:Q2 t q)(hs:s+t+3<=4398046511104): C0 322 [.d (dI p),.d (dI q)] (·=.d (dI (Xcj p q))):=by
 have hh:=Xvw (x:=p.1*q.1) (r:=[p.1*q.2,p.2*q.1,p.2*q.2]) (s:=s+t) (λy hy=>by
  simp only[W1l,W5t,or_false] at hy
  rcases hy with rfl | rfl | rfl | rfl
  . exact hp.1.mul hq.1
  . exact hp.1.mul hq.2
  . exact hp.2.mul hq.1
  . exact hp.2.mul hq.2) hs (by simp)
 refine En Tryz.func322 λ_ _ _=>?_
 refine Dw rfl ?_
 refine Ce rfl (Xhy hp.1 hq.1 (by omega)) ?_
 refine Ce rfl (Xhy hp.1 hq.2 (by omega)) ?_
 refine Ce rfl (Xhy hp.2 hq.1 (by omega)) ?_
 refine Ce rfl (Xhy hp.2 hq.2 (by omega)) ?_
 refine Ce rfl hh ?_
 exact R1 rfl (.rf rfl)
end
theorem Ynj{n m r:Nat}(hr:n/m=r)(hm:0<m)(hn:n<9223372036854775808): arB .quo .i64 n m r:=show _/\_ from⟨by omega,by
 rw[show Int.tdiv (n:Int) (m:Int)=((n/m:Nat):Int) from rfl,hr]
 have:=W3w n m
 exact wI (by omega)⟩
theorem Xdp{n:Nat}(hn:n<=8796093022200): C0 271 [.d (.int .i64 n)] (·=.d (dz (2^n:Int))):=by
 have e:(2^n:Int)=((2^n:Nat):Int):=by simp
 refine En Tryz.func271 λ_ _ _=>?_
 refine Ar (n/32:Nat) rfl ?_ (Ynj (m:=32) rfl (by decide) (by omega))
 refine Ar (n/32+1:Nat) rfl ?_
 refine Mk (n/32+1) rfl (by omega) ?_
 refine Ar (n/32:Nat) rfl ?_ (Ynj (m:=32) rfl (by decide) (by omega))
 refine Ar (n%32:Nat) rfl ?_ (show _/\_ from⟨by decide,Xxx n 32⟩)
 refine Ar (2^(n%32):Nat) rfl ?_ (Xha (W1z _ (by decide)))
 refine Eo (n/32) rfl (by omega) ?_
 refine Sto rfl (by simp) rfl ?_
 refine R1 rfl (.sd (.pd (.bd (by rw[e];exact(decide_eq_false (by have:=W5x (n:=2) (m:=n) (by decide);omega)).symm)) (.own rfl (by simp) ?_)))
 rw[e,W1k,Xom,W0x,W0a (by simp),<-ms,W2h]
 rfl
theorem Xcd(x:Rat): (x.den:Int)≠0:=by have:=x.den_nz;omega
section
variable{x:Rat}{s b:Nat}
theorem Xwi(hx:Qs s x)(hb:b<=1099511627776)(hs:s<=1099511627776): C0 355 [.d (dq x),.d (.int .i64 b)] (·=.d (dq (dnQ x b))):=by
 have hp:=hx.mul (Xy5 b)
 have h2:Zs (b+1) (2^b:Int):=Zs.two (W0b _)
 have hn2:=(hx.n.mul h2).len (by omega)
 have l1:=hx.n.len (by omega)
 have l2:=h2.len (by omega)
 have l3:=hx.d.len (by omega)
 have hm:=Make_ok (p:=s+b+1) (a:=(x*pw b).floor) (b:=2^b) ((Zs.floor hp).mono (by omega)) (h2.mono (by omega)) (by omega) (Xgu b)
 have hd:=DivMod_ok (a:=x.num*2^b) (b:=x.den) (by omega) (by omega) (Xcd x)
 rw[Xla] at hd
 refine En Tryz.func355 λ_ _ _=>?_
 refine Ce rfl (Xdp (n:=b) (by omega)) ?_
 refine Dz rfl ?_
 refine Ce rfl (Mul_ok (by omega) (by omega)) ?_
 refine Ce rfl hd ?_
 refine Ce rfl hm ?_
 exact R1 rfl (.rf rfl)
theorem Ymd(hx:Qs s x)(hb:b<=1099511627776)(hs:s<=1099511627776): C0 356 [.d (dq x),.d (.int .i64 b)] (·=.d (dq (upQ x b))):=by
 refine En Tryz.func356 λ_ _ _=>?_
 refine Ce rfl (Xkp hx (by omega)) ?_
 refine Ce rfl (Xwi hx.neg hb hs) ?_
 refine Ce rfl (Xkp (Xwl hx.neg b) (by omega)) ?_
 exact R1 rfl (.rf rfl)
theorem Xyx{p:Rat×Rat}(hp:Q2 s p)(hb:b<=1099511627776)(hs:s<=1099511627776): C0 320 [.d (dI p),.d (.int .i64 b)] (·=.d (dI (rnd p b))):=by
 refine En Tryz.func320 λ_ _ _=>?_
 refine Dw rfl ?_
 refine Ce rfl (Xwi hp.1 hb hs) ?_
 refine Ce rfl (Ymd hp.2 hb hs) ?_
 exact R1 rfl (Yj5 rfl rfl)
theorem Xc3(hx:Qs s x)(hx0:0<=x)(hb:b<=1099511627776)(hs:s<=1099511627776): C0 357 [.d (dq x),.d (.int .i64 b)] (·=.d (dq (Xdw x b))):=by
 have h2:Zs (2*b+1) (2^(2*b):Int):=Zs.two (W0b _)
 have hn2:=(hx.n.mul h2).len (by omega)
 have qx:=Xtp (b:=b) hx
 have nx:=Xfx (b:=b) hx0
 have zx:=Xt5 qx nx
 have fx:=Zs.floor qx
 rw[Xen nx] at fx
 have lx:=Yeu (show (sq2 x b).floor.toNat<_ from fx)
 have l1:=hx.n.len (by omega)
 have l2:=h2.len (by omega)
 have l3:=hx.d.len (by omega)
 have hd:=DivMod_ok (a:=x.num*2^(2*b)) (b:=x.den) (by omega) (by omega) (Xcd x)
 rw[Xyl b hx0] at hd
 refine En Tryz.func357 λ_ _ _=>?_
 refine Dz rfl ?_
 refine Ar (2*b:Nat) rfl ?_
 refine Ce rfl (Xdp (n:=2*b) (by omega)) ?_
 refine Ce rfl (Mul_ok (by omega) (by omega)) ?_
 refine Ce rfl hd ?_
 refine Ce rfl (Sqrt_ok (a:=(sq2 x b).floor.toNat) (by omega)) ?_
 refine Dz rfl ?_
 refine Ce rfl (Xdp (n:=b) (by omega)) ?_
 refine Ce rfl (Make_ok (p:=s+(2*b+2)) (a:=(rtF (sq2 x b):Int)) (b:=2^b) zx (Zs.two (by omega)) (by omega) (Xgu b)) ?_
 exact R1 rfl (.rf rfl)
theorem Xyy{p:Rat×Rat}(hp:Q2 s p)(hp0:0<=p.2)(hb:b<=1099511627776)(hs1:1<=s)(hs:s<=1099511627776): C0 323 [.d (dI p),.d (.int .i64 b)] (·=.d (dI (rts p b))):=by
 have hm:=Xuu hp.1 hs1
 have hmk:=Make_ok (p:=b+1) (a:=1) (b:=2^b) (Zs.one (by omega)) (Zs.two (W0b _)) (by omega) (Xgu b)
 refine En Tryz.func323 λ_ _ _=>?_
 refine Ce rfl (Xf0 hp.1 (by omega)) ?_
 refine By rfl (λh=>?_) λh=>?_
 . have e:mx0 p.1=0:=if_pos (Ykq.1 h)
   rw[e] at hm
   refine Ce rfl (Xa8 (z:=0) (by decide)) ?_
   refine Ce rfl (FromInt_ok (z:=1) (by decide)) ?_
   refine Ce rfl (Xdp (n:=b) (by omega)) ?_
   refine Ce rfl hmk ?_
   refine Dw rfl ?_
   refine Ce rfl (Xc3 (x:=0) hm W6j hb hs) ?_
   refine Ce rfl (Xc3 hp.2 hp0 hb hs) ?_
   refine Ce rfl (Xei (Xhr hp.2 hp0 b) (Xj8 b) (by omega)) ?_
   exact R1 rfl (Yj5 (by show dq _=dq (Xdw (mx0 p.1) b);rw[e]) rfl)
 . have e:mx0 p.1=p.1:=if_neg (λe=>h (Ykq.2 e))
   refine Ce rfl (FromInt_ok (z:=1) (by decide)) ?_
   refine Ce rfl (Xdp (n:=b) (by omega)) ?_
   refine Ce rfl hmk ?_
   refine Dw rfl ?_
   refine Ce rfl (Xc3 hp.1 (by rw[<-e];exact Xf1 _) hb hs) ?_
   refine Ce rfl (Xc3 hp.2 hp0 hb hs) ?_
   refine Ce rfl (Xei (Xhr hp.2 hp0 b) (Xj8 b) (by omega)) ?_
   exact R1 rfl (Yj5 (by show dq _=dq (Xdw (mx0 p.1) b);rw[e]) rfl)
end
theorem Xr9{k:Nat}: ∀ {s b:Nat} {t:Tw k} {a:Tow.El k},Xbx k t->TS s k t->Sz s (toL k a)->1<=s->k<=16->eB s b k<=274877906944->b<=274877906944->C0 272 [.d (dt t),.d (de a),.d (.int .i64 b)] (·=.d (dI (enc k t a b))):=by
 induction k with
 | zero =>
  intro s b t a hR hT ha hs1 hk hs hb
  have hs:s<=274877906944:=hs
  have key:∀y:Rat,Qs s y->C0 272 [.d (dts []),.d (dqs [y]),.d (.int .i64 b)] (·=.d (dI (y,y))):=λy hy=>by
   refine En Tryz.func272 λ_ _ _=>?_
   refine Yes rfl rfl ?_
   refine Ix 0 rfl (u:=dq y) rfl ?_
   refine Ce rfl (Xvu hy (by omega)) ?_
   exact R1 rfl (.rf rfl)
  exact key a (ha.qs (W0e.2 rfl))
 | succ k ih =>
  intro s b t a hR hT ha hs1 hk hs hb
  have hx:Sz s (toL k a.1):=Sz.left ha
  have hy:Sz s (toL k a.2):=Sz.right ha
  have hge:=Xz9 s b k
  have hs':3*eB s b k+4*b+6<=274877906944:=hs
  have qu:=Xin (b:=b) hR.1 hT.1 hx hs1
  have qv:=Xin (b:=b) hR.1 hT.1 hy hs1
  have qr:=Xin (b:=b) hR.1 hT.1 hT.2 hs1
  have hhi:=Ycp hR b
  have qs:=Ybq (b:=b) qr hhi (by omega)
  have qm:=Xn7 qv qs
  have qa:=Xos qu qm
  have hlen:=Xab k
  have hp:=p16 hk
  refine En Tryz.func272 λ_ _ _=>?_
  refine No rfl (by show ¬((((toT k t.1++[toL k t.2]).map dqs).length:Nat):Int)=0;rw[twL];omega) ?_
  refine Ar k rfl ?_ (tw1 t (by omega))
  refine Ar (2^k:Nat) rfl ?_ (hvq a (by omega))
  refine Tk k ((toT k t.1).map dqs) rfl rfl (Xi0 t) (twT t) ?_
  refine Tk (2^k) ((toL k a.1).map dq) rfl rfl (Xch a) (hvT a) ?_
  refine Ce rfl (ih hR.1 hT.1 hx hs1 (by omega) (by omega) hb) ?_
  refine Dp (2^k) ((toL k a.2).map dq) rfl rfl (Xch a) (hvD a) ?_
  refine Ce rfl (Xet (l:=toL k a.2) hy.ps (by omega) (by rw[hlen];have:=p16 (show k<=16 by omega);omega)) ?_
  refine By rfl (λh=>?_) λh=>?_
  . have he:enc (k+1) t a b=enc k t.1 a.1 b:=if_pos h
    exact R1 rfl (by rw[he];exact .rf rfl)
  . have he:enc (k+1) t a b=rnd (Xng (enc k t.1 a.1 b) (Xcj (enc k t.1 a.2 b) (rts (enc k t.1 t.2 b) b))) b:=if_neg h
    refine Dz rfl ?_
    refine Dp (2^k) ((toL k a.2).map dq) rfl rfl (Xch a) (hvD a) ?_
    refine Ce rfl (ih hR.1 hT.1 hy hs1 (by omega) (by omega) hb) ?_
    refine Ix k rfl (twU t) ?_
    refine Ce rfl (ih hR.1 hT.1 hT.2 hs1 (by omega) (by omega) hb) ?_
    refine Dw rfl ?_
    refine Ce rfl (Xyy qr hhi (by omega) (by omega) (by omega)) ?_
    refine Ce rfl (Ye3 qv qs (by omega)) ?_
    refine Ce rfl (Ye4 qu qm (by omega)) ?_
    refine Ce rfl (Xyx qa (by omega) (by omega)) ?_
    rw[he]
    exact R1 rfl (.rf rfl)
theorem Xsp{k:Nat}{t:Tw k}{a:Tow.El k}{bits P s:Nat}(hR:Xbx k t)(hw:∀b,P<=b->Wid (enc k t a b) bits)(hT:TS s k t)(ha:Sz s (toL k a))(hs1:1<=s)(hk:k<=16)(hv:vB s k s<=4398046511104)(hb:bits<=1024)(hP:P<=1000000000)(he:eB s (2*(P+bits+16)) k<=274877906944):
 C0 206 [.d (dt t),.d (de a),.d (.int .i64 bits)] λv=>∃p:Rat×Rat,v=.d (dI p)/\inI k t a p.1 p.2/\Wid p bits/\Q2 (eB s (2*(P+bits+16)) k) p:=by
 have hsb:s<=4398046511104:=W0h (Xdy k s) hv
 obtain⟨B,hB⟩:∃B,B=eB s (2*(P+bits+16)) k:=⟨_,rfl⟩
 rw[<-hB] at he |-
 have hq:∀b,b<=2*(P+bits+16)->Q2 B (enc k t a b):=λb hb=>(Xin hR hT ha hs1).mono (by rw[hB];exact Xol hb k)
 refine En Tryz.func206 λ_ _ _=>?_
 refine No rfl (by omega) ?_
 refine No rfl (by omega) ?_
 refine Ce rfl (Xog (l:=[toL k a]) (s:=s) hT hR hk hv hsb (λx hx=>⟨a,W0e.1 hx,ha⟩) (by simp) hsb) ?_
 refine No rfl (by simp) ?_
 refine Ce rfl (FromInt_ok (z:=1) (by decide)) ?_
 refine Ce rfl (Xdp (n:=bits) (by omega)) ?_
 refine Ce rfl (Make_ok (p:=bits+1) (a:=1) (b:=2^bits) (Zs.one (by omega)) (Zs.two (W0b _)) (by omega) (Xgu bits)) ?_
 refine Ar (bits+16:Nat) rfl ?_
 refine Lo (λ(g:Nat)=>[(0,.d (dt t)),(1,.d (de a)),(6,.ptr 6 0),(7,.ptr 7 0),(9,.d (.int .i64 g))]) (λ_=>[(6,.var (.st (.pr (.st (.pr (.st (.pr (.b false) .nil)) (.st (.pr (.b false) .nil)))) (.st (.pr (.st (.pr (.b false) .nil)) (.st (.pr (.b false) .nil))))))),(7,.var (.d (dq (Rat.divInt 1 (2^bits)))))]) (λg=>1<=g/\g<=2*(P+bits+16)) (λg=>2*(P+bits+16)-g) (bits+16) [] rfl ⟨by omega,by omega⟩ (λg ⟨hg1,hg⟩=>?_)
 have hge:=hq g hg
 have heB:eB s g k<=274877906944:=W0h (Xol hg k) (by omega)
 refine Ce rfl (Xr9 hR hT ha hs1 hk heB (by omega)) ?_
 refine Dw rfl ?_
 refine Ce rfl (Xvs hge (by omega)) ?_
 refine Ce rfl (Xhz (by rw[W6v];exact hge.2.add hge.1.neg) (Xj8 bits) (by omega)) ?_
 refine By rfl (λh=>?_) λh=>?_
 . exact Rt rfl (.one (.rf rfl) rfl rfl) ⟨_,rfl,Xgz hR a g,⟨Xwe hR a g,Yma.1 h⟩,hge⟩
 . have hgP:g<P:=by
    by_cases hgP:g<P
    . exact hgP
    . exact absurd (Yma.2 (hw g (by omega)).2) h
   refine Ar (2*g:Nat) rfl ?_
   exact Bk (2*g) [] rfl ⟨by omega,by omega⟩ (by show 2*(P+bits+16)-2*g<2*(P+bits+16)-g;omega)
end
section
theorem RtOf.mg2{r s:Rat×Rat}{b j:Nat}(R:RtOf r b s)(hr:r.2<=pw (2*j))(h0:0<=r.2): 0<=s.1/\s.2<=pw (j+1):=by
 have h1:=Xhq (b:=b) h0
 have h2:=Xc9 (mx0 r.1) b
 rw[<-R.lo] at h2
 refine⟨h2,?_⟩
 have h3:Xdw r.2 b<=pw j:=Xqs (W2i (Xa3 j)) (W3r h1 (by rw[<-Ybz];exact hr))
 have h4:=R.h
 have h5:=Xj9 b
 have h6:=Xgw j
 rw[Xcu]
 grind
def mE(m:Nat): Nat->Nat->Nat
 | 0,M=>M
 | k+1,M=>mE m k M+(mE m k m+1)/2+2
def eE(m b:Nat): Nat->Nat->Nat
 | 0,_=>2*b-2
 | k+1,M=>min (eE m b k M) (eE m b k m/2)-(max (mE m k M) ((mE m k m+1)/2)+3)
theorem Yki(m b:Nat): ∀k M,eE m b k M<=2*b-2
 | 0,_=>W0b _
 | k+1,M=>by have:=Yki m b k M;show min (eE m b k M) (eE m b k m/2)-(max (mE m k M) ((mE m k m+1)/2)+3)<=_;omega
theorem Ykv{k:Nat}{t:Tw (k+1)}{m b:Nat}(h:Xbx (k+1) t)(hr:Mg (bx k t.1 t.2 b) (mE m k m)): 0<=(rtb (bx k t.1 t.2 b) b).1/\(rtb (bx k t.1 t.2 b) b).2<=pw ((mE m k m+1)/2+1) :=
 (Xpx _ b).mg2 (W3r hr.2 (Xh0 (by omega))) (Xjb h (Xi4 h.1 t.2 b))
theorem Xm4: ∀ {k:Nat} {t:Tw k} {a:El k} {m M:Nat} (b:Nat),Xbx k t->MgT m k t->MgL M (toL k a)->Mg (bx k t a b) (mE m k M)
 | 0,t,a,m,M,b,h,hT,ha=>Yjb (ha _ (W0e.2 rfl))
 | k+1,t,a,m,M,b,h,hT,ha=>by
  have hu:=Xm4 (a:=a.1) (M:=M) b h.1 hT.1 λx hx=>ha x (W2a _ hx)
  have hv:=Xm4 (a:=a.2) (M:=M) b h.1 hT.1 λx hx=>ha x (W1g _ hx)
  have hr:=Xm4 (M:=m) b h.1 hT.1 hT.2
  have h0:=Xjb h (Xi4 h.1 t.2 b)
  rw[Xlf]
  exact Xpj hu hv (Ykv h hr) (Yia h0 (Ykw h.1 _ _)) (Ykw h.1 _ _)
theorem Xg1: ∀ {k:Nat} {t:Tw k} {a:El k} {m M b:Nat},Xbx k t->MgT m k t->MgL M (toL k a)->0<eE m b k M->Wid (bx k t a b) (eE m b k M)
 | 0,t,a,m,M,b,h,hT,ha,he=>⟨W6j,(λ(x:Rat)=>(by grind:(x-x)*pw (eE m b 0 M)<=1)) a⟩
 | k+1,t,a,m,M,b,h,hT,ha,he=>by
  have he':0<min (eE m b k M) (eE m b k m/2)-(max (mE m k M) ((mE m k m+1)/2)+3):=he
  have hle:=Yki m b k m
  have hu:=Xg1 (a:=a.1) (m:=m) (M:=M) (b:=b) h.1 hT.1 (λx hx=>ha x (W2a _ hx)) (by omega)
  have hv:=Xg1 (a:=a.2) (m:=m) (M:=M) (b:=b) h.1 hT.1 (λx hx=>ha x (W1g _ hx)) (by omega)
  have hr:=Xg1 (m:=m) (M:=m) (b:=b) h.1 hT.1 hT.2 (by omega)
  have mv:=Xm4 (a:=a.2) (M:=M) b h.1 hT.1 λx hx=>ha x (W1g _ hx)
  have mr:=Xm4 (M:=m) b h.1 hT.1 hT.2
  have ms:=Ykv h mr
  have h0:=Xjb h (Xi4 h.1 t.2 b)
  rw[Xlf]
  exact Xpi (m:=max (mE m k M) ((mE m k m+1)/2)) (hu.mono (by omega)) (hv.mono (by omega)) hr (by omega) (mv.mono (by omega)) ⟨ms.1,W3r ms.2 (Xh0 (by omega))⟩ h0 (Xpx _ b) (by omega) (by omega) (by omega)
theorem Yfz{k:Nat}{t:Tw k}{a:El k}(h:Xbx k t)(hT:MgT 64 k t)(ha:MgL 300 (toL k a))(hk:k<=3): Wid (bx k t a 2048) 1:=by
 have hk:k=0\/k=1\/k=2\/k=3:=by omega
 rcases hk with rfl | rfl | rfl | rfl
 . exact(Xg1 h hT ha (show 0<eE 64 2048 0 300 by decide)).mono (by decide)
 . exact(Xg1 h hT ha (show 0<eE 64 2048 1 300 by decide)).mono (by decide)
 . exact(Xg1 h hT ha (show 0<eE 64 2048 2 300 by decide)).mono (by decide)
 . exact(Xg1 h hT ha (show 0<eE 64 2048 3 300 by decide)).mono (by decide)
theorem Xio{k:Nat}{t:Tw k}{a:El k}{m:Nat}(h:Xbx k t)(hT:MgT m k t)(ha:MgL m (toL k a))(hk:k<=3)(hm:m<=10000): ∀b,1000000<=b->Wid (enc k t a b) 1:=λb hb=>by
 have key:∀e,(0<e->Wid (enc k t a b) e)->1<=e->Wid (enc k t a b) 1:=λe h1 h2=>(h1 (by omega)).mono h2
 refine key _ (λhe=>Xq3 h hT ha he) ?_
 have hk:k=0\/k=1\/k=2\/k=3:=by omega
 rcases hk with rfl | rfl | rfl | rfl<;>simp only[eW,mW]<;>omega
end
section
theorem Zs.pow{q:Nat}{z:Int}(h:Zs q z)(n:Nat): Zs (q*n+1) (z^n):=by
 unfold Zs at *
 rw[W6x]
 have h1:z.natAbs^n<=(2^q)^n:=Nat.pow_le_pow_left (W2b h) n
 rw[<-W4w] at h1
 rw[W0t]
 have:=W0s (q*n)
 omega
theorem Zs.len2{q:Nat}{z:Int}(h:Zs q z)(hq:q<=8000000000000): (dig z.natAbs).length<=274877906944:=by
 have h1:z.natAbs<4294967296^(q/32+1):=by
  rw[show 4294967296=2^32 from rfl,<-W4w]
  exact W0q h (W0k (by decide) (by omega))
 have:=Xau h1
 omega
theorem Xzu{a:Int}(ha:(dig a.natAbs).length<=549755813888): C0 210 [.d (dz a),.d (dz 1)] (·=.d (dz (a-1))):=by
 have h1:(dig (Int.natAbs (-1))).length<=549755813888:=W0h (Xau (n:=1) (k:=1) (by decide)) (by decide)
 have h:=Add_ok (a:=a) (b:=-1) ha h1
 have hc:C0 276 [.d (dz a),.d (.st (.pr (.bool (!decide ((1:Int)<0))) (ws (dig (Int.natAbs 1)))))] (·=.d (dz (a-1))):=h
 refine En Tryz.func210 λ_ _ _=>?_
 refine Ce rfl hc ?_
 exact R1 rfl (.rf rfl)
theorem Xuh{x:Rat}{p:Nat}(hx:Qs p x)(hp:p<=4398046511104): C0 205 [.d (dq x)] (·=.d (dz x.floor)):=by
 have h:=DivMod_ok (a:=x.num) (b:=x.den) (W0h (hx.n.len (by omega)) (by decide)) (W0h (hx.d.len (by omega)) (by decide)) (Xcd x)
 have e:x.num.fdiv x.den=x.floor:=by
  have:=Xla x 0
  rw[show pw 0=1 from rfl,W7c,Int.pow_zero,W4a] at this
  exact this
 rw[e] at h
 refine En Tryz.func205 λ_ _ _=>?_
 refine Ce rfl h ?_
 exact R1 rfl (.rf rfl)
theorem Xvt{n:Nat}{z:Int}{q:Nat}(hz:Zs q z)(hn:n<=4096)(hq:q<=100000): C0 62 [.d (dz z),.d (.int .i64 n)] (·=.tup (.pr (.d (dz (z^n))) (.d (.int .i64 0)))):=by
 refine En Tryz.func62 λ_ _ _=>?_
 refine No rfl (by omega) ?_
 refine No rfl (by omega) ?_
 refine Dw rfl ?_
 refine Ce rfl (FromInt_ok (z:=1) (by decide)) ?_
 refine Ce rfl (Norm_ok (W0h (hz.len (by omega)) (by decide))) ?_
 refine Lo (λ((m,o,e):Nat×Nat×Nat)=>[(1,.d (.int .i64 m)),(4,.ptr 4 0),(5,.d (.int .i64 0)),(6,.ptr 6 0),(7,.ptr 7 0)]) (λ(m,o,e)=>[(4,.var (.st (.pr (.b false) .nil))),(6,.var (.d (dz (z^o)))),(7,.var (.d (dz (z^e))))]) (λ(m,o,e)=>o+e*m=n/\e<=max n 1/\m<=n) (λ(m,_,_)=>m) (n,0,1) [] rfl ⟨by omega,by omega,W0b n⟩ ?_ (by exact⟨rfl,by show Xsr _ [(4,Ob.var (AV.st (.pr (.b false) .nil))),(6,Ob.var (AV.d (dz (z^0)))),(7,Ob.var (AV.d (dz (z^1))))];rw[Int.pow_zero,show z^1=z by rw[Int.pow_succ,Int.pow_zero,W2y]];rfl,rfl,rfl,rfl⟩)
 rintro⟨m,o,e⟩ ⟨hm,he,hmn⟩
 have hsz:∀j,j<=4096->(dig (z^j).natAbs).length<=549755813888:=λj hj=>by
  have:=Zs.pow hz j
  have hqj:q*j<=100000*4096:=W1x hq hj
  exact W0h (this.len (by omega)) (by decide)
 have ho:o<=4096:=by have:=W1a (e*m);omega
 have he4:e<=4096:=by omega
 refine By rfl (λh=>?_) λh=>?_
 . have h:(m:Int)>0:=h
   have hdm:=W2m m 2
   have hem:e*m=2*(e*(m/2))+e*(m%2):=by
    conv=>lhs;rw[<-hdm,W0v]
    rw[W4m]
   have hq2:arB .quo .i64 (m:Int) 2 ((m/2:Nat):Int):=Ynj (m:=2) rfl (by decide) (by omega)
   have sqr:∀e:Nat,z^e*z^e=z^(e+e):=λe=>(Int.pow_add ..).symm
   refine Ar (m%2:Nat) rfl ?_ (show _/\_ from⟨by decide,Xxx m 2⟩)
   refine By rfl (λh1=>?_) λh1=>?_
   . have h1:m%2=1:=by omega
     rw[h1,W3u] at hem
     refine Ce rfl (Mul_ok (hsz o ho) (hsz e he4)) ?_
     rw[<-Int.pow_add]
     refine Ar (m/2:Nat) rfl ?_ hq2
     refine By rfl (λh2=>?_) λh2=>?_
     . have he2:e*1<=e*(m/2):=W0m e (by omega)
       refine Ce rfl (Mul_ok (hsz e he4) (hsz e he4)) ?_
       rw[sqr]
       exact Bk (m/2,o+e,e+e) [] rfl ⟨by rw[W1f];omega,by omega,by omega⟩ (by show m/2<m;omega)
     . have h20:m/2=0:=by omega
       rw[h20] at hem
       exact Bk (m/2,o+e,e) [] rfl ⟨by rw[h20];omega,he,by omega⟩ (by show m/2<m;omega)
   . have h1:m%2=0:=by omega
     rw[h1,W3a] at hem
     refine Ar (m/2:Nat) rfl ?_ hq2
     have he2:e*1<=e*(m/2):=W0m e (by omega)
     refine Yes rfl (by omega) ?_
     refine Ce rfl (Mul_ok (hsz e he4) (hsz e he4)) ?_
     rw[sqr]
     exact Bk (m/2,o,e+e) [] rfl ⟨by rw[W1f];omega,by omega,by omega⟩ (by show m/2<m;omega)
 . have h:¬(m:Int)>0:=h
   have hm0:m=0:=by omega
   rw[hm0,W3a,W2q] at hm
   rw[hm]
   exact RTt rfl (.cons (.rf rfl) Xbg)
theorem Xt0{k:Nat}{t:Tw k}{a:Tow.El k}{P s:Nat}(hR:Xbx k t)(hw:∀b,P<=b->Wid (enc k t a b) 1)(hT:TS s k t)(ha:Sz s (toL k a))(hs1:1<=s)(hk:k<=16)(hP:P<=1000000000)(he:eB s (2*(P+1+16)) k<=274877906944)(hv:vB s k (s+eB s (2*(P+1+16)) k+4)<=4398046511104):
 C0 129 [.d (dt t),.d (de a)] λv=>∃z,v=.d (dz z)/\Xbo k t a z/\(dig z.natAbs).length<=274877906944:=by
 have hsB:=W0h (Xdy (r:=s) k _) hv
 obtain⟨B,hB⟩:∃B,B=eB s (2*(P+1+16)) k:=⟨_,rfl⟩
 have hvs:vB s k s<=4398046511104:=W0h (Xc8 (by omega)) hv
 have hE:=Xsp (bits:=1) hR hw hT ha hs1 hk hvs (by decide) hP he
 rw[<-hB] at he hv hsB hE
 have hB1:1<=B:=by rw[hB];exact W0h hs1 (Xz9 ..)
 refine En Tryz.func129 λ_ _ _=>?_
 refine Ce rfl (Xog (l:=[toL k a]) (s:=s) hT hR hk hvs (by omega) (λx hx=>⟨a,W0e.1 hx,ha⟩) (by simp) (by omega)) ?_
 refine No rfl (by simp) ?_
 refine Ca rfl hE λv hv'=>?_
 obtain⟨p,rfl,hin,hwd,hq⟩:=hv'
 have hz:=Zs.floor hq.2
 have hfl:=Xqz hR hin hwd
 have hl0:=Zs.len2 (z:=p.2.floor) hz (by omega)
 have hl1:=Zs.len2 (z:=p.2.floor-1) (q:=B+1) (by unfold Zs at *;rw[W0t];omega) (by omega)
 have hmk:=Make_ok (p:=B) (a:=p.2.floor) (b:=1) hz (Zs.one (by omega)) (by omega) (by decide)
 rw[Xwo] at hmk
 have qz:Qs B ((p.2.floor:Int):Rat):=Qs.int hz (by omega)
 have hzr:=Sz.rat k qz
 refine Ce rfl (Xuh hq.2 (by omega)) ?_
 refine Dw rfl ?_
 refine Ce rfl (FromInt_ok (z:=1) (by decide)) ?_
 refine Ce rfl hmk ?_
 refine Ce rfl (Xct hT hk (by omega) qz (by omega)) ?_
 refine Ce rfl (Xke hT ha hzr hk (by omega) (by omega)) ?_
 refine Ce rfl (Xj5 (s:=s+B+4) hT (by rw[Xa0,Xcp];exact(ha.add hzr.neg).mono (by omega)) hk hv (by omega)) ?_
 refine By rfl (λh=>?_) λh=>?_
 . refine Dw rfl ?_
   refine Ce rfl (FromInt_ok (z:=1) (by decide)) ?_
   refine Ce rfl (Xzu (W0h (hz.len (by omega)) (by decide))) ?_
   exact Rt rfl (.one (.rf rfl) rfl rfl) ⟨_,rfl,hfl.1 h,hl1⟩
 . exact Rt rfl (.one (.rf rfl) rfl rfl) ⟨_,rfl,hfl.2 h,hl0⟩
end
end Go.Proofs.YtchflpokfamkhaaGreatDoor
namespace Go.Proofs.YtchflpokfamkhaaGreatDoor.P55
open Go Go.Vm Go.Num Go.Tow Go.Proofs.YtchflpokfamkhaaGreatDoor
theorem Ye2{f:FuncId}{l:List Cv}(hl:l.length<=1000)(hf:∀c∈l,C0 f [.d (dC c)] (·=.b false)): C0 109 [.d (Xe8 l),.d (fnD f)] (·=.d (.int .i64 (-1))):=by
 refine En Tryz.func109 λ_ _ _=>?_
 refine Lo (λk:Nat=>[(0,.d (Xe8 l)),(1,.d (fnD f)),(7,.d (.int .i64 (l.map dC).length)),(8,.d (.int .i64 k))]) (λ_=>[]) (λk=>k<=l.length) (λk=>l.length-k) 0 [] rfl (W1a _) λk hk=>?_
 refine By rfl (λh=>?_) λh=>?_<;>simp only[lC] at h
 . obtain⟨c,hc⟩:∃c,l[k]?=some c:=⟨_,W0c (by omega)⟩
   refine Ix k rfl (cAt hc) ?_
   refine Ce rfl (hf c (W0o hc)) ?_
   refine No rfl nofun ?_
   refine Ar (k+1:Nat) rfl ?_
   exact Bk (k+1) [] rfl (by omega) (by show l.length-(k+1)<l.length-k;omega)
 . exact R0
theorem Yfs{f:FuncId}{l:List Cv}(hl:l.length<=1000)(hf:∀c∈l,C0 f [.d (dC c)] (·=.b false)): C0 47 [.d (Xe8 l),.d (fnD f)] (·=.b false):=by
 refine En Tryz.func47 λ_ _ _=>?_
 refine Ce rfl (Ye2 hl hf) ?_
 exact R1 rfl (by exact(show dc ((-1:Int)>=0)=false from W4c.2 λe=>absurd (Xaw.1 e) (by decide)) ▸ .rf rfl)
theorem Xhe{l:List Cv}{d:Int}(hd:0<=d/\d<=20)(h0:0<l.length)(hl:l.length<=1000)(hv:∀c∈l,C0 49 [.d (dC c)] (·=.b true)): C0 17 [.d (Xe8 l),.d (.int .i64 d)] (·=.b true):=by
 have hr:∀c∈l,C0 48 [.d (dC c)] (·=.b false):=λc hc=>by
  refine En Tryz.func48 λ_ _ _=>?_
  refine Ce rfl (hv c hc) ?_
  exact R1 rfl (by exact(show (!true)=false from rfl) ▸ .rf rfl)
 refine En Tryz.func17 λ_ _ _=>?_
 refine Yes rfl (by omega) ?_
 refine Yes rfl (by omega) ?_
 refine Yes rfl (by rw[lC];omega) ?_
 refine Ce rfl (Yfs hl hr) ?_
 exact R0
def qb(z:Int)(d:Nat): Rat:=Rat.divInt z (10^d)
abbrev Zb(z:Int): Prop:=(dig z.natAbs).length<=274877906944
theorem Zb.zs{z:Int}(h:Zb z): Zs (max (32*(dig z.natAbs).length) 200) z:=by
 have h1:Zs (32*(dig z.natAbs).length) z:=by
  show z.natAbs<2^_
  rw[W4w];exact Xc5 _
 exact h1.mono (Nat.le_max_left ..)
theorem Zb.neg{z:Int}(h:Zb z): Zb (-z):=by unfold Zb;rw[W4s];exact h
theorem Ynm{a b:Int}: Xa9 a b<0↔a<b:=by rcases Xaz a b with ⟨g1,g2⟩ | ⟨g1,g2⟩ | ⟨g1,g2⟩<;>omega
theorem Xfz{z:Int}{d:Nat}(hz:Zb z)(hd:d<=20): C0 22 [.d (dz z),.d (.int .i64 d)] (·=.d (dq (qb z d))):=by
 refine En Tryz.func22 λ_ _ _=>?_
 refine Ce rfl (FromInt_ok (z:=10) (by decide)) ?_
 refine Ce rfl (Xvt (z:=10) (q:=4) (show (10:Int).natAbs<2^4 by decide) (by omega) (by decide)) ?_
 have h10:Zs (max (32*(dig z.natAbs).length) 200) (10^d:Int):=by
  have h1:(10:Nat)^d<=10^20:=W0k (by decide) hd
  have h2:Zs 200 (10^d:Int):=by
   show ((10:Int)^d).natAbs<2^200
   rw[W6x]
   exact W1t h1 (by decide)
  exact h2.mono (Nat.le_max_right ..)
 have h0:(10^d:Int)≠0:=by have:=W5x (n:=10) (m:=d) (by decide);omega
 refine Ce rfl (Make_ok hz.zs h10 (by have hz:_<=_:=hz;omega) h0) ?_
 exact R1 rfl (.rf rfl)
structure F4 where
 a:Int
 b:Int
 c:Int
 e:Int
def mn(x y:Int): Int:=if y<x then y else x
structure O4 where
 a:Option Int
 b:Option Int
 c:Option Int
 e:Option Int
def nx(o:Option Int)(f:Int): Option Int:=match o with
 | none=>some f
 | some g=>some (mn g f)
def O4.nx(o:O4)(f:F4): O4:=⟨P55.nx o.a f.a,P55.nx o.b f.b,P55.nx o.c f.c,P55.nx o.e f.e⟩
def o40: O4:=⟨none,none,none,none⟩
def lst(l:List F4): O4:=l.foldl O4.nx o40
def f40(f:F4): O4:=⟨some f.a,some f.b,some f.c,some f.e⟩
theorem Xqp(l:List F4)(f:F4): lst (l++[f])=(lst l).nx f:=by simp[lst]
abbrev zIA: AV:=.st (.pr (.b false) .nil)
def ent: Option Int->AV
 | none=>zIA
 | some z=>.d (dz z)
def arA: O4->AV
 | ⟨some a,some b,some c,some e⟩=>.d (.st (.pr (dz a) (.pr (dz b) (.pr (dz c) (dz e)))))
 | o=>.st (.pr (ent o.a) (.pr (ent o.b) (.pr (ent o.c) (ent o.e))))
abbrev zRA: AV:=.st (.pr zIA zIA)
abbrev zBA: AV:=.st (.pr zRA (.pr zRA (.pr zRA zRA)))
structure PtF (d:Int) (p:Vn) (f:F4):Prop where
 n:∃x y,C0 19 [.d (dN p.x)] (·=.d (dN x))/\C0 19 [.d (dN p.y)] (·=.d (dN y))/\C0 20 [.d (dN x),.d (.int .i64 d)] (·=.tup (.pr (.d (dz f.c)) (.d (.int .i64 0))))/\C0 20 [.d (dN y),.d (.int .i64 d)] (·=.tup (.pr (.d (dz f.e)) (.d (.int .i64 0))))
 x:C0 20 [.d (dN p.x),.d (.int .i64 d)] (·=.tup (.pr (.d (dz f.a)) (.d (.int .i64 0))))
 y:C0 20 [.d (dN p.y),.d (.int .i64 d)] (·=.tup (.pr (.d (dz f.b)) (.d (.int .i64 0))))
 z:Zb f.a/\Zb f.b/\Zb f.c/\Zb f.e
def CuF(d:Int)(c:Cv)(fs:List F4): Prop:=∃P:List Vn,C0 18 [.d (dC c)] (·=.tup (.pr (.d (dVs P)) (.d (.int .i64 0))))/\P.length=fs.length/\P.length<=100/\∀(i:Nat) p f,P[i]?=some p->fs[i]?=some f->PtF d p f
theorem Xqv{a b:Int}(ha:Zb a)(hb:Zb b): C0 21 [.d (dz a),.d (dz b)] (·=.d (.int .i64 (Xa9 a b))):=Cmp_ok (W0h ha (by decide)) (W0h hb (by decide))
def Yf2(o:F4)(d:Nat): D:=.st (.pr (dq (qb o.a d)) (.pr (dq (qb o.b d)) (.pr (dq (qb (-o.c) d)) (dq (qb (-o.e) d)))))
def ofO: Option F4->O4
 | none=>o40
 | some g=>f40 g
def nxF(o:Option F4)(f:F4): F4:=match o with
 | none=>f
 | some g=>⟨mn g.a f.a,mn g.b f.b,mn g.c f.c,mn g.e f.e⟩
theorem Xh6{o:Option F4}{f:F4}: (ofO o).nx f=f40 (nxF o f):=by cases o<;>rfl
def BdZ(f:F4): Prop:=Zb f.a/\Zb f.b/\Zb f.c/\Zb f.e
theorem Xzl{x y:Int}(hx:Zb x)(hy:Zb y): Zb (mn x y):=by unfold mn;split<;>assumption
theorem BdZ.nx{o:Option F4}{f:F4}(ho:∀g,o=some g->BdZ g)(hf:BdZ f): BdZ (nxF o f):=by
 cases o with
 | none=>exact hf
 | some g =>
  have hg:=ho g rfl
  exact⟨Xzl hg.1 hf.1,Xzl hg.2.1 hf.2.1,Xzl hg.2.2.1 hf.2.2.1,Xzl hg.2.2.2 hf.2.2.2⟩
def part(o:O4)(f:F4): Nat->O4
 | 0=>o
 | 1=>⟨nx o.a f.a,o.b,o.c,o.e⟩
 | 2=>⟨nx o.a f.a,nx o.b f.b,o.c,o.e⟩
 | 3=>⟨nx o.a f.a,nx o.b f.b,nx o.c f.c,o.e⟩
 | _=>o.nx f
theorem Xuz{x y:Int}(h:y<x): mn x y=y:=if_pos h
theorem Xu0{x y:Int}(h:¬y<x): mn x y=x:=if_neg h
theorem Bounds_ok{l:List Cv}{Fs:List (List F4)}{d:Nat}{o:F4}(hd:d<=20)(h0:0<l.length)(hl:l.length<=1000)(hv:∀c∈l,C0 49 [.d (dC c)] (·=.b true))(hF:Fs.length=l.length)(hC:∀(i:Nat) c fs,l[i]?=some c->Fs[i]?=some fs->CuF d c fs)(ho:lst Fs.flatten=f40 o):
 C0 6 [.d (Xe8 l),.d (.int .i64 d)] (·=.tup (.pr (.d (Yf2 o d)) (.d (.int .i64 0)))):=by
 refine En Tryz.func6 λ_ _ _=>?_
 refine Ce rfl (Xhe (by omega) h0 hl hv) ?_
 refine No rfl (λh=>h rfl) ?_
 refine Lo (λ((k,o):Nat×Option F4)=>[(1,.d (.int .i64 d)),(4,.ptr 4 0),(6,.ptr 6 0),(7,.b o.isNone),(23,.d (Xe8 l)),(24,.d (.int .i64 (l.map dC).length)),(25,.d (.int .i64 k))]) (λ(_,o)=>[(4,.var zBA),(6,.var (arA (ofO o)))]) (λ(k,o)=>k<=l.length/\lst (Fs.take k).flatten=ofO o/\∀g,o=some g->BdZ g) (λ(k,_)=>l.length-k) (0,none) [] rfl ⟨W1a _,rfl,nofun⟩ ?_
 rintro⟨k,o1⟩ ⟨hk,ho1,hz1⟩
 have ho1:lst (Fs.take k).flatten=ofO o1:=ho1
 refine By rfl (λh=>?_) λh=>?_
 . have h:(k:Int)<((l.map dC).length:Nat):=h
   rw[lC] at h
   obtain⟨c,hc⟩:∃c,l[k]?=some c:=⟨_,W0c (by omega)⟩
   obtain⟨fs,hfs⟩:∃fs,Fs[k]?=some fs:=⟨_,W0c (by omega)⟩
   obtain⟨P,hP,hPl,hP1,hPf⟩:=hC k c fs hc hfs
   have hnext:(Fs.take (k+1)).flatten=(Fs.take k).flatten++fs:=by rw[W1i,hfs];simp
   refine Ix k rfl (cAt hc) ?_
   refine Ce rfl hP ?_
   refine No rfl (by decide) ?_
   refine Lo (λ((j,o):Nat×Option F4)=>[(1,.d (.int .i64 d)),(4,.ptr 4 0),(6,.ptr 6 0),(7,.b o.isNone),(23,.d (Xe8 l)),(24,.d (.int .i64 (l.map dC).length)),(25,.d (.int .i64 k)),(38,.d (dVs P)),(39,.d (.int .i64 (P.map dV).length)),(40,.d (.int .i64 j))]) (λ(_,o)=>[(4,.var zBA),(6,.var (arA (ofO o)))]) (λ(j,o)=>j<=fs.length/\lst ((Fs.take k).flatten++fs.take j)=ofO o/\∀g,o=some g->BdZ g) (λ(j,_)=>fs.length-j) (0,o1) [] rfl ⟨W1a _,by simpa using ho1,hz1⟩ ?_ (by exact⟨rfl,rfl,by cases o1<;>rfl,rfl,rfl⟩)
   rintro⟨j,o2⟩ ⟨hj,ho2,hz2⟩
   have ho2:lst ((Fs.take k).flatten++fs.take j)=ofO o2:=ho2
   refine By rfl (λh=>?_) λh=>?_
   . have h:(j:Int)<((P.map dV).length:Nat):=h
     rw[W0l] at h
     obtain⟨p,hp⟩:∃p,P[j]?=some p:=⟨_,W0c (by omega)⟩
     obtain⟨f,hf⟩:∃f,fs[j]?=some f:=⟨_,W0c (by omega)⟩
     obtain⟨⟨x',y',n1,n2,n3,n4⟩,m1,m2,m3⟩:=hPf j p f hp hf
     have hst:lst ((Fs.take k).flatten++fs.take (j+1))=ofO (some (nxF o2 f)):=by
      rw[W1i,hf,<-W3j,Option.toList_some,Xqp,ho2];exact Xh6
     refine Ix j rfl (u:=dV p) (by rw[W1d,hp];rfl) ?_
     refine Dw rfl ?_
     refine Ce rfl n1 ?_
     refine Ce rfl n2 ?_
     refine Lo (λ((i,_):Nat×O4)=>[(1,.d (.int .i64 d)),(4,.ptr 4 0),(6,.ptr 6 0),(7,.b o2.isNone),(23,.d (Xe8 l)),(24,.d (.int .i64 (l.map dC).length)),(25,.d (.int .i64 k)),(38,.d (dVs P)),(39,.d (.int .i64 (P.map dV).length)),(40,.d (.int .i64 j)),(54,.lit 2 [dN p.x,dN p.y,dN x',dN y']),(55,.d (.int .i64 4)),(56,.d (.int .i64 i))]) (λ(_,c)=>[(4,.var zBA),(6,.var (arA c))]) (λ(i,c)=>i<=4/\c=part (ofO o2) f i) (λ(i,_)=>4-i) (0,ofO o2) [] rfl ⟨by decide,rfl⟩ ?_ (by exact⟨rfl,rfl,by cases o2<;>rfl,rfl,rfl⟩)
     rintro⟨i,c4⟩ ⟨hi,hc4⟩
     have hc4:c4=part (ofO o2) f i:=hc4
     have hi:i=0\/i=1\/i=2\/i=3\/i=4:=by have hi:i<=4:=hi;omega
     rcases hi with rfl | rfl | rfl | rfl | rfl
     . obtain rfl:c4=part (ofO o2) f 0:=hc4
       refine Yes rfl (by decide) ?_
       refine Ix 0 rfl (u:=dN p.x) rfl ?_
       refine Ce rfl m1 ?_
       refine No rfl (by decide) ?_
       cases o2 with
       | none =>
        refine Dw rfl ?_
        refine Yes rfl rfl ?_
        refine Ia 0 rfl (by decide) ?_
        refine Ar (0+1:Nat) rfl ?_
        exact Bk (0+1,part (ofO none) f (0+1)) [] rfl ⟨by decide,rfl⟩ (by show 4-(0+1)<4-0;decide)
       | some g =>
        refine Dw rfl ?_
        refine No rfl nofun ?_
        refine Ia 0 rfl (by decide) ?_
        refine Ce rfl (Xqv (a:=f.a) (b:=g.a) m3.1 (hz2 g rfl).1) ?_
        refine By rfl (λh1=>?_) λh1=>?_
        . have h1:f.a<g.a:=Ynm.1 h1
          refine Ia 0 rfl (by decide) ?_
          refine Ar (0+1:Nat) rfl ?_
          exact Bk (0+1,⟨some f.a,(ofO (some g)).b,(ofO (some g)).c,(ofO (some g)).e⟩) [] rfl ⟨by decide,by show _=part (f40 g) f 1;simp[part,ofO,f40,nx,O4.nx,Xuz h1]⟩ (by show 4-(0+1)<4-0;decide)
        . have h1:¬f.a<g.a:=λe=>h1 (Ynm.2 e)
          refine Ar (0+1:Nat) rfl ?_
          exact Bk (0+1,part (ofO (some g)) f 0) [] rfl ⟨by decide,by show _=part (f40 g) f 1;simp[part,ofO,f40,nx,O4.nx,Xu0 h1]⟩ (by show 4-(0+1)<4-0;decide)
     . obtain rfl:c4=part (ofO o2) f 1:=hc4
       refine Yes rfl (by decide) ?_
       refine Ix 1 rfl (u:=dN p.y) rfl ?_
       refine Ce rfl m2 ?_
       refine No rfl (by decide) ?_
       cases o2 with
       | none =>
        refine Dw rfl ?_
        refine Yes rfl rfl ?_
        refine Ia 1 rfl (by decide) ?_
        refine Ar (1+1:Nat) rfl ?_
        exact Bk (1+1,part (ofO none) f (1+1)) [] rfl ⟨by decide,rfl⟩ (by show 4-(1+1)<4-1;decide)
       | some g =>
        refine Dw rfl ?_
        refine No rfl nofun ?_
        refine Ia 1 rfl (by decide) ?_
        refine Ce rfl (Xqv (a:=f.b) (b:=g.b) m3.2.1 (hz2 g rfl).2.1) ?_
        refine By rfl (λh1=>?_) λh1=>?_
        . have h1:f.b<g.b:=Ynm.1 h1
          refine Ia 1 rfl (by decide) ?_
          refine Ar (1+1:Nat) rfl ?_
          exact Bk (1+1,⟨nx (ofO (some g)).a f.a,some f.b,(ofO (some g)).c,(ofO (some g)).e⟩) [] rfl ⟨by decide,by show _=part (f40 g) f 2;simp[part,ofO,f40,nx,O4.nx,Xuz h1]⟩ (by show 4-(1+1)<4-1;decide)
        . have h1:¬f.b<g.b:=λe=>h1 (Ynm.2 e)
          refine Ar (1+1:Nat) rfl ?_
          exact Bk (1+1,part (ofO (some g)) f 1) [] rfl ⟨by decide,by show _=part (f40 g) f 2;simp[part,ofO,f40,nx,O4.nx,Xu0 h1]⟩ (by show 4-(1+1)<4-1;decide)
     . obtain rfl:c4=part (ofO o2) f 2:=hc4
       refine Yes rfl (by decide) ?_
       refine Ix 2 rfl (u:=dN x') rfl ?_
       refine Ce rfl n3 ?_
       refine No rfl (by decide) ?_
       cases o2 with
       | none =>
        refine Dw rfl ?_
        refine Yes rfl rfl ?_
        refine Ia 2 rfl (by decide) ?_
        refine Ar (2+1:Nat) rfl ?_
        exact Bk (2+1,part (ofO none) f (2+1)) [] rfl ⟨by decide,rfl⟩ (by show 4-(2+1)<4-2;decide)
       | some g =>
        refine Dw rfl ?_
        refine No rfl nofun ?_
        refine Ia 2 rfl (by decide) ?_
        refine Ce rfl (Xqv (a:=f.c) (b:=g.c) m3.2.2.1 (hz2 g rfl).2.2.1) ?_
        refine By rfl (λh1=>?_) λh1=>?_
        . have h1:f.c<g.c:=Ynm.1 h1
          refine Ia 2 rfl (by decide) ?_
          refine Ar (2+1:Nat) rfl ?_
          exact Bk (2+1,⟨nx (ofO (some g)).a f.a,nx (ofO (some g)).b f.b,some f.c,(ofO (some g)).e⟩) [] rfl ⟨by decide,by show _=part (f40 g) f 3;simp[part,ofO,f40,nx,O4.nx,Xuz h1]⟩ (by show 4-(2+1)<4-2;decide)
        . have h1:¬f.c<g.c:=λe=>h1 (Ynm.2 e)
          refine Ar (2+1:Nat) rfl ?_
          exact Bk (2+1,part (ofO (some g)) f 2) [] rfl ⟨by decide,by show _=part (f40 g) f 3;simp[part,ofO,f40,nx,O4.nx,Xu0 h1]⟩ (by show 4-(2+1)<4-2;decide)
     . obtain rfl:c4=part (ofO o2) f 3:=hc4
       refine Yes rfl (by decide) ?_
       refine Ix 3 rfl (u:=dN y') rfl ?_
       refine Ce rfl n4 ?_
       refine No rfl (by decide) ?_
       cases o2 with
       | none =>
        refine Dw rfl ?_
        refine Yes rfl rfl ?_
        refine Ia 3 rfl (by decide) ?_
        refine Ar (3+1:Nat) rfl ?_
        exact Bk (3+1,part (ofO none) f (3+1)) [] rfl ⟨by decide,rfl⟩ (by show 4-(3+1)<4-3;decide)
       | some g =>
        refine Dw rfl ?_
        refine No rfl nofun ?_
        refine Ia 3 rfl (by decide) ?_
        refine Ce rfl (Xqv (a:=f.e) (b:=g.e) m3.2.2.2 (hz2 g rfl).2.2.2) ?_
        refine By rfl (λh1=>?_) λh1=>?_
        . have h1:f.e<g.e:=Ynm.1 h1
          refine Ia 3 rfl (by decide) ?_
          refine Ar (3+1:Nat) rfl ?_
          exact Bk (3+1,⟨nx (ofO (some g)).a f.a,nx (ofO (some g)).b f.b,nx (ofO (some g)).c f.c,some f.e⟩) [] rfl ⟨by decide,by show _=part (f40 g) f 4;simp[part,ofO,f40,nx,O4.nx,Xuz h1]⟩ (by show 4-(3+1)<4-3;decide)
        . have h1:¬f.e<g.e:=λe=>h1 (Ynm.2 e)
          refine Ar (3+1:Nat) rfl ?_
          exact Bk (3+1,part (ofO (some g)) f 3) [] rfl ⟨by decide,by show _=part (f40 g) f 4;simp[part,ofO,f40,nx,O4.nx,Xu0 h1]⟩ (by show 4-(3+1)<4-3;decide)
     . obtain rfl:c4=(ofO o2).nx f:=hc4
       refine No rfl (by decide) ?_
       refine Ar (j+1:Nat) rfl ?_
       exact Bk (j+1,some (nxF o2 f)) [] rfl ⟨by omega,hst,λg hg=>by cases hg;exact BdZ.nx hz2 m3⟩ (by show fs.length-(j+1)<fs.length-j;omega) (by exact⟨rfl,by rw[Xh6];rfl,rfl,rfl,rfl⟩)
   . have h:¬(j:Int)<((P.map dV).length:Nat):=h
     rw[W0l] at h
     have hjf:fs.take j=fs:=W0a (by omega)
     refine Ar (k+1:Nat) rfl ?_
     exact Bk (k+1,o2) [] rfl ⟨by omega,by rw[hnext,<-hjf];exact ho2,hz2⟩ (by show l.length-(k+1)<l.length-k;omega) (by exact⟨rfl,rfl,by cases o2<;>rfl,rfl,rfl⟩)
 . have h:¬(k:Int)<((l.map dC).length:Nat):=h
   rw[lC] at h
   rw[W0a (by omega),ho] at ho1
   cases o1 with
   | none=>cases ho1
   | some g =>
    have hg:f40 o=f40 g:=ho1
    obtain rfl:o=g:=by cases o;cases g;simp only[f40,O4.mk.injEq,Option.some.injEq] at hg;obtain⟨rfl,rfl,rfl,rfl⟩:=hg;rfl
    obtain⟨z1,z2,z3,z4⟩:=hz1 o rfl
    refine Dw rfl ?_
    refine Ia 0 rfl (by decide) ?_
    refine Ce rfl (Xfz z1 hd) ?_
    refine Ia 1 rfl (by decide) ?_
    refine Ce rfl (Xfz z2 hd) ?_
    refine Ia 2 rfl (by decide) ?_
    refine Ce rfl (Neg_ok (z:=o.c) (W0h z3 (by decide))) ?_
    refine Ce rfl (Xfz z3.neg hd) ?_
    refine Ia 3 rfl (by decide) ?_
    refine Ce rfl (Neg_ok (z:=o.e) (W0h z4 (by decide))) ?_
    refine Ce rfl (Xfz z4.neg hd) ?_
    exact R0t
end Go.Proofs.YtchflpokfamkhaaGreatDoor.P55
namespace Go.Proofs.YtchflpokfamkhaaGreatDoor.P9
open Go Go.Vm Go.Num Go.Tow Go.Proofs.YtchflpokfamkhaaGreatDoor
abbrev nq(q:Rat): Nm:=⟨0,(),q⟩
theorem Yjg{k:Nat}{q:Rat}: Lf (k:=0) (m:=k) q (rat k q):=by
 show toL k (rat k q)=[q]++_
 rw[Xd0];rfl
section
variable{r p s:Nat}{x:Nm}{q:Rat}
theorem Yag(hr:TS r x.k x.t)(hk:x.k<=8)(hr2:r<=4000000000): C0 247 [.d (dNs [x,nq q])] (·=.tup (.pr (.d (dt x.t)) (.d (.int .i64 0)))):=by
 refine En Tryz.func247 λ_ _ _=>?_
 refine Nd 4 1 rfl ?_
 refine Lo (λ(s:Nat×(Σ m,Tw m))=>[(2,.nil),(3,.d (.int .i64 0)),(4,.d (dt s.2.2)),(9,.d (dNs [x,nq q])),(10,.d (.int .i64 2)),(11,.d (.int .i64 s.1))]) (λ_=>[]) (λs=>(s.1=0/\s.2=⟨0,()⟩)\/(s.1=1/\s.2=⟨x.k,x.t⟩)\/(s.1=2/\s.2=⟨x.k,x.t⟩)) (λs=>2-s.1) (0,⟨0,()⟩) [] rfl (.inl ⟨rfl,rfl⟩) (λ(i,⟨m,T⟩) hI=>?_)
 simp only at hI
 rcases hI with ⟨rfl,e⟩ | ⟨rfl,e⟩ | ⟨rfl,e⟩
 . cases e
   refine Yes rfl (show ((0:Nat):Int)<2 by decide) ?_
   refine Ix 0 rfl (u:=dN x) rfl ?_
   refine Ce rfl (begins_ok (T:=[]) (U:=toT x.k x.t) (p:=1) (λi r h=>by simp at h) (TS.pt hr) (by omega) (by decide)) ?_
   refine By rfl (λh=>?_) λh=>?_
   . obtain⟨kx,tx,ax⟩:=x
     have h:[]=toT kx tx:=by simpa using h
     obtain rfl:kx=0:=by have:=congrArg List.length h;rw[Xaa] at this;exact this.symm
     refine Ar (0+1:Nat) rfl ?_
     exact Bk (1,⟨0,tx⟩) [] rfl (.inr (.inl ⟨rfl,rfl⟩)) (show 1<2 by decide)
   . refine Ce rfl (begins_ok (U:=[]) (q:=1) (TS.pt hr) (λi r h=>by simp at h) (by omega) (by rw[Xaa];omega)) ?_
     refine Yes rfl (by simp) ?_
     refine Ar (0+1:Nat) rfl ?_
     exact Bk (1,⟨x.k,x.t⟩) [] rfl (.inr (.inl ⟨rfl,rfl⟩)) (show 1<2 by decide)
 . cases e
   refine Yes rfl (show ((1:Nat):Int)<2 by decide) ?_
   refine Ix 1 rfl (u:=dN (nq q)) rfl ?_
   refine Ce rfl (begins_ok (T:=toT x.k x.t) (U:=[]) (q:=1) (TS.pt hr) (λi r h=>by simp at h) (by omega) (by rw[Xaa];omega)) ?_
   refine Yes rfl (by simp) ?_
   refine Ar (1+1:Nat) rfl ?_
   exact Bk (2,⟨x.k,x.t⟩) [] rfl (.inr (.inr ⟨rfl,rfl⟩)) (show 0<1 by decide)
 . cases e
   refine No rfl (show ¬((2:Nat):Int)<2 by decide) ?_
   exact R0t
theorem Yll(hr:TS r x.k x.t)(hp:Sz p (toL x.k x.a))(hq:Qs s q)(hk:x.k<=8)(hr2:r<=4000000000)(hp2:p<=4000000000)(hs2:s<4000000000): C0 180 [.d (dNs [x,nq q])] (·=.tup (.pr (.d (dNs [x,⟨x.k,x.t,rat x.k q⟩])) (.d (.int .i64 0)))):=by
 have hc:=Yag (q:=q) hr hk hr2
 refine En Tryz.func180 λ_ _ _=>?_
 refine Ce rfl hc ?_
 refine No rfl (by decide) ?_
 refine Nl 6 6 2 rfl ?_
 refine Lo (λ(j:Nat)=>[(2,.nil),(3,.d (.int .i64 0)),(4,.d (dt x.t)),(6,.gr 6 2 (([x,⟨x.k,x.t,rat x.k q⟩].take j).map dN)),(20,.d (dNs [x,nq q])),(21,.d (.int .i64 2)),(22,.d (.int .i64 j))]) (λj=>[(6,.tok (([x,⟨x.k,x.t,rat x.k q⟩].take j).map dN).length 2)])
  (λj=>j<=2) (λj=>2-j) 0 [] rfl (W1a _) (λj hj=>?_)
 have hj:j=0\/j=1\/j=2:=by omega
 rcases hj with rfl | rfl | rfl
 . refine Yes rfl (show ((0:Nat):Int)<2 by decide) ?_
   refine Ix 0 rfl (u:=dN x) rfl ?_
   refine Ce rfl (begins_ok (T:=toT x.k x.t) (U:=toT x.k x.t) (TS.pt hr) (TS.pt hr) (by omega) (by rw[Xaa];omega)) ?_
   refine Yes rfl (W2e ..) ?_
   refine Ce rfl (Xqb (T:=x.t) (Lf.rfl' x.a) (W0b _) (by omega)) ?_
   refine Ce rfl (detach_ok (x:=x) hr hp (by omega) (by omega) (by omega)) ?_
   refine ApG ([x].map dN) rfl (by simp) (by simp) ?_
   refine Ar (0+1:Nat) rfl ?_
   exact Bk 1 [(6,90),(56,6)] rfl (show 1<=2 by decide) (show 2-1<2-0 by decide)
 . refine Yes rfl (show ((1:Nat):Int)<2 by decide) ?_
   refine Ix 1 rfl (u:=dN (nq q)) rfl ?_
   refine Ce rfl (begins_ok (T:=toT x.k x.t) (U:=[]) (q:=1) (TS.pt hr) (λi r h=>by simp at h) (by omega) (by rw[Xaa];omega)) ?_
   refine Yes rfl (by simp) ?_
   refine Ce rfl (Xqb (k:=0) (T:=x.t) (Yjg (q:=q)) (W1a _) (by omega)) ?_
   refine Ce rfl (detach_ok (x:=⟨x.k,x.t,rat x.k q⟩) hr (Sz.rat x.k hq) (show _<=16 by show x.k<=16;omega) (by omega) (by omega)) ?_
   refine ApG ([x,⟨x.k,x.t,rat x.k q⟩].map dN) rfl (by simp) (by simp) ?_
   refine Ar (1+1:Nat) rfl ?_
   exact Bk 2 [(6,90),(56,6)] rfl (show 2<=2 by decide) (show 2-2<2-1 by decide)
 . refine No rfl (show ¬((2:Nat):Int)<2 by decide) ?_
   exact RTt rfl (.cons (.gr rfl) Xbg)
theorem Xmx{f:FuncId}{z:Tow.El x.k}(hf:C0 f [.d (dt x.t),.d (de x.a),.d (de (rat x.k q))] (·=.d (de z)))(hr:TS r x.k x.t)(hp:Sz p (toL x.k x.a))(hq:Qs s q)(hk:x.k<=8)(hr2:r<=4000000000)(hp2:p<=4000000000)(hs2:s<4000000000): C0 187 [.d (dN x),.d (dN (nq q)),.d (fnD f)] (·=.tup (.pr (.d (dN ⟨x.k,x.t,z⟩)) (.d (.int .i64 0)))):=by
 refine En Tryz.func187 λ_ _ _=>?_
 refine Ce rfl (Yll hr hp hq hk hr2 hp2 hs2) ?_
 refine No rfl (by simp) ?_
 refine Ix 0 rfl (u:=dN x) rfl ?_
 refine Dw rfl ?_
 refine Ix 0 rfl (u:=dN x) rfl ?_
 refine Ix 1 rfl (u:=dN ⟨x.k,x.t,rat x.k q⟩) rfl ?_
 refine Ce rfl hf ?_
 exact RTt rfl (.cons (.rf rfl) Xbg)
theorem Yob(hr:TS r x.k x.t)(hp:Sz p (toL x.k x.a))(hq:Qs s q)(hk:x.k<=8)(hr2:r<=4000000000)(hp2:p<=2000000000)(hs2:s<2000000000): C0 115 [.d (dN x),.d (dN (nq q))] (·=.tup (.pr (.d (dN ⟨x.k,x.t,Tow.add x.k x.a (rat x.k q)⟩)) (.d (.int .i64 0)))):=by
 refine En Tryz.func115 λ_ _ _=>?_
 refine Ce rfl (Xmx (Xhp hr hp (Sz.rat x.k hq) (by omega) (by omega) (by omega)) hr hp hq hk hr2 (by omega) (by omega)) ?_
 exact R0t
theorem Yn7(hr:TS r x.k x.t)(hp:Sz p (toL x.k x.a))(hq:Qs s q)(hk:x.k<=8)(hr2:r<=4000000000)(hp2:p<=2000000000)(hs2:s<2000000000)(hc:cB r x.k<=1000000000): C0 126 [.d (dN x),.d (dN (nq q))] (·=.tup (.pr (.d (dN ⟨x.k,x.t,Tow.mul x.k x.t x.a (rat x.k q)⟩)) (.d (.int .i64 0)))):=by
 refine En Tryz.func126 λ_ _ _=>?_
 refine Ce rfl (Xmx (Xd1 hr hp (Sz.rat x.k hq) (by omega) (by omega) (by omega)) hr hp hq hk hr2 (by omega) (by omega)) ?_
 exact R0t
end
end Go.Proofs.YtchflpokfamkhaaGreatDoor.P9
namespace Go.Num
def isD(b:UInt8): Bool:=decide (48<=b.toNat)&&decide (b.toNat<=57)
theorem Ym6{b:UInt8}: isD b=true↔Xsv b:=by simp[isD,Xsv]
def z0(l:List UInt8): Bool:=l.all (·==48)
def fr(ng:Bool)(a b:List UInt8): Rat:=if ng then -(((Xx3 (a++b):Int):Rat)/((10^b.length:Int):Rat)) else ((Xx3 (a++b):Int):Rat)/((10^b.length:Int):Rat)
end Go.Num
namespace Go.Proofs.YtchflpokfamkhaaGreatDoor
open Go Go.Vm Go.Num
end Go.Proofs.YtchflpokfamkhaaGreatDoor
namespace Go.Num
open Go.Proofs.YtchflpokfamkhaaGreatDoor
section
end
section
theorem Xqa{k m d:Nat}(hd:d<10)(hm:m<10^(k+1)): pad k (dec m)++[UInt8.ofNat (48+d)]=pad (k+1) (dec (10*m+d)):=by
 by_cases h0:m=0
 . subst h0
   rw[show 10*0+d=d by omega,Xdv hd,Xdv (show 0<10 by decide)]
   show List.replicate (k+1-1) 48++[UInt8.ofNat (48+0)]++[UInt8.ofNat (48+d)]=List.replicate (k+1+1-1) 48++[UInt8.ofNat (48+d)]
   rw[show k+1+1-1=k+1-1+1 by omega,W6h]
   rfl
 . have e:dec (10*m+d)=dec m++[UInt8.ofNat (48+d)]:=by
    rw[Xf8 (show 10<=10*m+d by omega),show (10*m+d)/10=m by omega,show (10*m+d)%10=d by omega]
   rw[e]
   unfold pad
   rw[W0d,W4g,show k+1+1-((dec m).length+1)=k+1-(dec m).length by omega,W3j]
theorem Xwt: ∀(k n:Nat),10^(k+1)<=n->dec n=dec (n/10^(k+1))++pad k (dec (n%10^(k+1)))
 | 0,n,h=>by
  have h:10<=n:=h
  rw[Xf8 h]
  show _=dec (n/10)++pad 0 (dec (n%10))
  rw[Xdv (n:=n%10) (W1z _ (by decide))]
  rfl
 | k+1,n,h=>by
  have e1:10^(k+1+1)=10*10^(k+1):=by rw[W0t];omega
  have hp:0<10^(k+1):=Nat.pow_pos (by decide)
  have h10:10<=n:=by omega
  have ih:=Xwt k (n/10) (by rw[W7j (by decide)];omega)
  have hm:n/10%10^(k+1)<10^(k+1):=W1z _ hp
  rw[Xf8 h10,ih,W3j,Xqa (W1z _ (by decide)) hm,W5y,<-e1]
  congr 3
  have:=Nat.mod_mul (a:=10) (b:=10^(k+1)) (x:=n)
  rw[e1,this];omega
def cks(n:Nat): List Nat:=if h:n=0 then [] else n%1000000000::cks (n/1000000000)
termination_by n
decreasing_by omega
theorem Xe1: cks 0=[]:=by rw[cks,dif_pos rfl]
theorem Xfp{n:Nat}(h:n≠0): cks n=n%1000000000::cks (n/1000000000):=by rw[cks,dif_neg h]
theorem Yks: ∀(n c:Nat),c∈cks n->c<1000000000:=λn=>by
 induction n using Nat.strongRecOn with
 | _ n ih =>
  intro c hc
  by_cases h:n=0
  . subst h;rw[Xe1] at hc;cases hc
  . rw[Xfp h,W1l] at hc
    rcases hc with rfl | hc
    . omega
    . exact ih _ (by omega) c hc
theorem Xw3: ∀ {k n:Nat},n<4294967296^k->(cks n).length<=2*k
 | 0,n,h=>by
  have:n=0:=by simpa using h
  subst this;rw[Xe1];exact W0b _
 | k+1,n,h=>by
  by_cases h0:n=0
  . subst h0;rw[Xe1];exact W1a _
  . rw[Xfp h0]
    by_cases h1:n/1000000000=0
    . rw[h1,Xe1];simp;omega
    . rw[Xfp h1]
      have:=Xw3 (k:=k) (n:=n/1000000000/1000000000) (by
       rw[W0t] at h
       rw[W5y,W2n (by decide)]
       refine W0q h (W0m _ (by decide)))
      simp only[W0r];omega
def Xze: List Nat->List UInt8
 | []=>[]
 | [c]=>dec c
 | c::e::l=>Xze (e::l)++pad 8 (dec c)
theorem Xzd: ∀n,n≠0->Xze (cks n)=dec n:=λn=>by
 induction n using Nat.strongRecOn with
 | _ n ih =>
  intro h
  rw[Xfp h]
  by_cases h2:n/1000000000=0
  . rw[h2,Xe1]
    show dec (n%1000000000)=_
    congr 1;omega
  . have:=ih (n/1000000000) (by omega) h2
    rw[Xfp h2] at this |-
    show Xze (n/1000000000%1000000000::cks (n/1000000000/1000000000))++pad 8 (dec (n%1000000000))=_
    rw[this]
    exact(Xwt 8 n (by show 1000000000<=n;omega)).symm
theorem Xuj{c:Nat}{l:List Nat}(h:l≠[]): Xze (c::l)=Xze l++pad 8 (dec c):=by
 cases l with
 | nil=>exact absurd rfl h
 | cons e l=>rfl
end
section
theorem Yo5{l:List UInt8}: l.all isD=true↔∀b∈l,Xsv b:=by
 rw[W1o]
 exact⟨λh b hb=>Ym6.1 (h b hb),λh b hb=>Ym6.2 (h b hb)⟩
theorem Yfo: ∀(k:Nat) (l:List UInt8),l.length=k+1->(∀b∈l,Xsv b)->pad k (dec (Xx3 l))=l:=λk=>by
 induction k with
 | zero =>
  intro l hl hd
  match l,hl with
  | [x],_ =>
   have hx:=hd x (by simp)
   unfold Xsv at hx
   rw[Yaa,Xdv (by omega)]
   show [UInt8.ofNat (48+(x.toNat-48))]=[x]
   rw[show 48+(x.toNat-48)=x.toNat by omega];simp
 | succ k ih =>
  intro l hl hd
  obtain⟨m,x,rfl⟩:∃m x,l=m++[x]:=⟨l.dropLast,l.getLast (by intro e;rw[e] at hl;simp at hl),(List.dropLast_concat_getLast _).symm⟩
  have hm:m.length=k+1:=by simpa using hl
  have hdm:∀b∈m,Xsv b:=λb hb=>hd b (by simp[hb])
  have hx:=hd x (by simp)
  unfold Xsv at hx
  have h1:=Yfk hdm
  rw[hm] at h1
  rw[Xmt,<-Xqa (by omega) h1,ih m hm hdm,show 48+(x.toNat-48)=x.toNat by omega]
  simp
end
end Go.Num
namespace Go.Proofs.YtchflpokfamkhaaGreatDoor
open Go Go.Num Go.Tow
abbrev scl(k:Nat)(t:Tw k)(a:El k)(u h:Rat): El k:=add k (mul k t a (rat k u)) (rat k h)
section
variable{k:Nat}{t:Tw k}{a:El k}
theorem Xtv(hR:Xbx k t){q:Rat}(hq:0<q): sgn k t (mul k t a (rat k q))=sgn k t a:=by
 rw[(Xak hR).sm,Xbs hR,Xcb hq,W4a]
theorem Xzn(hR:Xbx k t){u c d:Rat}(hu:0<u)(hc:c*u=d): le k t (rat k c) a↔le k t (rat k d) (mul k t a (rat k u)):=by
 have L:=Xax k t
 have e:add k (mul k t a (rat k u)) (neg k (rat k d))=mul k t (add k a (neg k (rat k c))) (rat k u):=by
  rw[L.dm,<-Xa4,<-Xa4,<-Xbd,<-hc,Rat.neg_mul]
 unfold le
 rw[e,Xtv hR hu]
theorem Xta{u:Rat}: toL k (mul k t a (rat k u))=(toL k a).map (u*·):=by rw[(Xax k t).mc,Xkc]
theorem Xma{m n:Nat}{u:Rat}(ha:MgL m (toL k a))(hu:Qs n u): MgL (n+m) (toL k (mul k t a (rat k u))):=λx hx=>by
 rw[Xta] at hx
 obtain⟨y,hy,rfl⟩:=W3o.1 hx
 exact hu.mul (ha y hy)
theorem Xu6{n:Nat}{h:Rat}(hh:Qs n h)(h1:1<=n): MgL n (toL k (rat k h)):=λx hx=>by
 rw[Xd0] at hx
 rcases W1l.1 hx with rfl | hx
 . exact hh
 . obtain rfl:=(W5w.1 hx).2
   exact Qs.int (z:=0) (by unfold Zs;exact Nat.pow_pos (by decide)) h1
theorem Xu7{m n:Nat}{b:El k}(ha:MgL m (toL k a))(hb:MgL n (toL k b)): MgL (m+n+1) (toL k (add k a b)):=λx hx=>by
 rw[Xa0] at hx
 obtain⟨i,hi⟩:=W3y hx
 rw[W6f] at hi
 split at hi
 . rename_i y z hy hz
   cases hi
   exact(ha y (W0o hy)).add (hb z (W0o hz))
 . cases hi
end
theorem Xr7{k:Nat}{t:Tw k}{a:El k}{z:Int}(hR:Xbx k t){h:Rat}(hf:Xbo k t (add k a (rat k h)) z): le k t (rat k ((z:Rat)-h)) a/\le k t a (rat k ((z:Rat)+1-h)):=by
 have L:=Xax k t
 obtain⟨h1,h2⟩:=hf
 have e1:add k (add k a (rat k h)) (neg k (rat k (z:Rat)))=add k a (neg k (rat k ((z:Rat)-h))):=by
  rw[L.aa,<-Xa4,<-Xa4,<-Xbe];congr 2;grind
 have e0:((1:Int):Rat)=1:=rfl
 have e2:add k (add k a (rat k h)) (neg k (rat k ((z+1:Int):Rat)))=add k a (neg k (rat k ((z:Rat)+1-h))):=by
  rw[L.aa,<-Xa4,<-Xa4,<-Xbe,W5j,e0];congr 2;grind
 refine⟨by unfold le at *;rwa[e1] at h1,?_⟩
 rw[e2] at h2
 have h3:=(Xqo hR).1 h2
 unfold le at *
 have e3:add k (rat k ((z:Rat)+1-h)) (neg k a)=neg k (add k a (neg k (rat k ((z:Rat)+1-h)))):=by
  rw[L.nd,L.nn,L.ac]
 rw[e3,(Xak hR).sn]
 omega
end Go.Proofs.YtchflpokfamkhaaGreatDoor
namespace Go.Proofs.YtchflpokfamkhaaGreatDoor.R1
open Go Go.Vm Go.Num Go.Proofs.YtchflpokfamkhaaGreatDoor
end Go.Proofs.YtchflpokfamkhaaGreatDoor.R1
namespace Go.Proofs.YtchflpokfamkhaaGreatDoor.R11
open Go Go.Vm Go.Num Go.Proofs.YtchflpokfamkhaaGreatDoor
section
theorem Xs7{z:Int}(h:z<0): tx z=45::dec z.natAbs:=by rw[tx,if_pos h];rfl
theorem Xs6{z:Int}(h:¬z<0): tx z=dec z.natAbs:=by rw[tx,if_neg h];rfl
end
section
end
section
end
end Go.Proofs.YtchflpokfamkhaaGreatDoor.R11
namespace Go.Proofs.YtchflpokfamkhaaGreatDoor.P11
open Go Go.Vm Go.Num Go.Tow Go.Proofs.YtchflpokfamkhaaGreatDoor Go.Proofs.YtchflpokfamkhaaGreatDoor.P9 Go.Proofs.YtchflpokfamkhaaGreatDoor.R11
structure Pk (x:Nm):Prop where
 k:x.k<=3
 re:Xbx x.k x.t
 t:TS 300 x.k x.t
 mt:MgT 64 x.k x.t
 ml:MgL 64 (toL x.k x.a)\/(x.k=0/\MgL 1700 (toL x.k x.a))
theorem MgL.mono'{m n:Nat}{l:List Rat}(h:MgL m l)(hn:m<=n): MgL n l:=λx hx=>(h x hx).mono hn
theorem MgT.mono': ∀ {k m n:Nat} {t:Tw k},MgT m k t->m<=n->MgT n k t
 | 0,_,_,_,_,_=>trivial
 | _+1,_,_,_,h,hn=>⟨MgT.mono' h.1 hn,MgL.mono' h.2 hn⟩
theorem Xrt{k n:Nat}{a:El k}(h:MgL n (toL k a))(hk:k<=3/\n<=400\/k=0/\n<=3999): Sz 4000 (toL k a):=by
 refine(Sz.all h).mono ?_
 rw[Xab]
 rcases hk with ⟨h3,hn⟩ | ⟨rfl,hn⟩
 . have hp:2^k<=2^3:=W0k (by decide) h3
   have:=W1x hn hp
   omega
 . rw[Nat.pow_zero];omega
structure Scd (x:Nm) (u h:Rat):Prop where
 s1:Sz 4000 (toL x.k (mul x.k x.t x.a (rat x.k u)))
 s2:Sz 4000 (toL x.k (scl x.k x.t x.a u h))
 w1:Wid (bx x.k x.t (scl x.k x.t x.a u h) 2048) 1
 w2:∀b,1000000<=b->Wid (enc x.k x.t (scl x.k x.t x.a u h) b) 1
theorem Pk.sz{x:Nm}(H:Pk x): Sz 4000 (toL x.k x.a):=by
 rcases H.ml with h | ⟨h0,h⟩
 . exact Xrt h (.inl ⟨H.k,by decide⟩)
 . exact Xrt h (.inr ⟨h0,by decide⟩)
theorem Pk.sc{x:Nm}(H:Pk x){u h:Rat}(hu:Qs 200 u)(hh:Qs 2 h): Scd x u h:=by
 rcases H.ml with hl | ⟨h0,hl⟩
 . have m1:=Xma (t:=x.t) hl hu
   have m2:=Xu7 m1 (Xu6 (k:=x.k) hh (by decide))
   exact⟨Xrt m1 (.inl ⟨H.k,by decide⟩),Xrt m2 (.inl ⟨H.k,by decide⟩),Yfz H.re H.mt (MgL.mono' m2 (by decide)) H.k,Xio H.re (MgT.mono' H.mt (by decide)) (MgL.mono' m2 (by decide)) H.k (show 10000<=10000 by decide)⟩
 . have m1:=Xma (t:=x.t) hl hu
   have m2:=Xu7 m1 (Xu6 (k:=x.k) hh (by decide))
   refine⟨Xrt m1 (.inr ⟨h0,by decide⟩),Xrt m2 (.inr ⟨h0,by decide⟩),?_,Xio H.re (MgT.mono' H.mt (by decide)) (MgL.mono' m2 (by decide)) H.k (show 10000<=10000 by decide)⟩
   obtain⟨k,t,a⟩:=x
   obtain rfl:k=0:=h0
   exact(Xg1 (m:=64) (b:=2048) H.re H.mt m2 (show 0<eE 64 2048 0 _ by exact(by decide:0<2*2048-2))).mono (show 1<=2*2048-2 by decide)
theorem ten_qs{n:Nat}(hn:n<=60): Qs 200 ((10^n:Int):Rat):=by
 have h1:(10:Nat)^n<=10^60:=W0k (by decide) hn
 refine Qs.int ?_ (by decide)
 show ((10:Int)^n).natAbs<2^200
 rw[W6x]
 exact W1t h1 (by decide)
theorem Yp8{k:Nat}(hk:k<=3): eB 4000 (2*(1000000+1+16)) k<=274877906944/\vB 4000 k (4000+eB 4000 (2*(1000000+1+16)) k+4)<=4398046511104/\vB 4000 k (4000+bB 4000 2048 k+4)<=4398046511104/\bB 4000 2048 k<=274877906944/\cB 300 k<=1000000000:=by
 have h:k=0\/k=1\/k=2\/k=3:=by omega
 rcases h with rfl | rfl | rfl | rfl<;>decide +kernel
theorem Xy9{n:Nat}(hn:n<=400): C0 128 [.d (.int .i64 n)] (·=.d (dz (10^n))):=by
 refine En Tryz.func128 λ_ _ _=>?_
 refine Ce rfl (FromInt_ok (z:=10) (by decide)) ?_
 refine Ce rfl (Xvt (z:=10) (q:=4) (show (10:Int).natAbs<2^4 by decide) (by omega) (by decide)) ?_
 exact R1 rfl (.rf rfl)
theorem Xx8{z:Int}{p:Nat}(hz:Zs p z)(hp:1<=p)(hp2:p<=8796093022208): C0 127 [.d (dz z)] (·=.d (dq (z:Rat))):=by
 have h:=Make_ok hz (Zs.one hp) hp2 (by decide)
 rw[Xwo] at h
 refine En Tryz.func127 λ_ _ _=>?_
 refine Dw rfl ?_
 refine Ce rfl (FromInt_ok (z:=1) (by decide)) ?_
 refine Ce rfl h ?_
 exact R1 rfl (.rf rfl)
theorem Xqy{x:Nm}{d:Nat}{h:Rat}(H:Pk x)(hd:d<=60)(hh:Qs 2 h): C0 56 [.d (dN x),.d (.int .i64 d),.d (dq h)] λv=>∃z,v=.tup (.pr (.d (dz z)) (.d (.int .i64 0)))/\Xbo x.k x.t (scl x.k x.t x.a ((10^d:Int):Rat) h) z/\(dig z.natAbs).length<=274877906944:=by
 have hu:=ten_qs hd
 have S:=H.sc hu hh
 obtain⟨b1,b2,b3,b4,b5⟩:=Yp8 H.k
 have hz:Zs 200 (10^d:Int):=hu.n
 refine En Tryz.func56 λ_ _ _=>?_
 refine No rfl (by omega) ?_
 refine No rfl (by omega) ?_
 refine Dw rfl ?_
 refine Ce rfl (Xy9 (by omega)) ?_
 refine Ce rfl (Xx8 hz (by decide) (by decide)) ?_
 refine Ce rfl (P9.FromRat_ok hu (by decide)) ?_
 refine Ce rfl (Yn7 H.t H.sz hu (by have:=H.k;omega) (by decide) (by decide) (by decide) b5) ?_
 refine No rfl (by decide) ?_
 refine Dw rfl ?_
 refine Ce rfl (P9.FromRat_ok hh (by decide)) ?_
 refine Ce rfl (Yob (x:=⟨x.k,x.t,mul x.k x.t x.a (rat x.k ((10^d:Int):Rat))⟩) H.t S.s1 hh (by have:=H.k;show x.k<=8;omega) (by decide) (by decide) (by decide)) ?_
 refine No rfl (by decide) ?_
 refine Ca rfl (Xt0 (P:=1000000) H.re S.w2 (H.t.mono (by decide)) S.s2 (by decide) (show x.k<=16 by have:=H.k;omega) (by decide) b1 b2) λv hv=>?_
 obtain⟨z,rfl,hz⟩:=hv
 exact Rt rfl (.tup (.cons (.rf rfl) Xbg)) ⟨z,rfl,hz⟩
theorem Floor_ok{x:Nm}{d:Nat}(H:Pk x)(hd:d<=60): C0 20 [.d (dN x),.d (.int .i64 d)] λv=>∃z,v=.tup (.pr (.d (dz z)) (.d (.int .i64 0)))/\Xbo x.k x.t (scl x.k x.t x.a ((10^d:Int):Rat) ((0:Int):Rat)) z/\(dig z.natAbs).length<=274877906944:=by
 refine En Tryz.func20 λ_ _ _=>?_
 refine Dw rfl ?_
 refine Ce rfl (Xa8 (z:=0) (by decide)) ?_
 refine Ca rfl (Xqy H hd (Qs.int (z:=0) (show Int.natAbs 0<2^2 by decide) (by decide))) λv hv=>?_
 obtain⟨z,rfl,hz⟩:=hv
 exact Rt rfl (.tup (.cons (.rf rfl) Xbg)) ⟨z,rfl,hz⟩
abbrev hf: Rat:=Rat.divInt 1 2
theorem Ynb: Qs 2 hf:=⟨show hf.num.natAbs<2^2 by decide,show ((hf.den:Int)).natAbs<2^2 by decide⟩
theorem Yax{x:Nm}{d:Nat}(H:Pk x)(hd:d<=60): C0 99 [.d (dN x),.d (.int .i64 d)] λv=>∃z,v=.tup (.pr (.d (dz z)) (.d (.int .i64 0)))/\Xbo x.k x.t (scl x.k x.t x.a ((10^d:Int):Rat) hf) z/\(dig z.natAbs).length<=274877906944:=by
 refine En Tryz.func99 λ_ _ _=>?_
 refine Dw rfl ?_
 refine Ce rfl (Xp9 (a:=1) (b:=2) (by decide) (by decide)) ?_
 refine Ca rfl (Xqy H hd Ynb) λv hv=>?_
 obtain⟨z,rfl,hz⟩:=hv
 exact Rt rfl (.tup (.cons (.rf rfl) Xbg)) ⟨z,rfl,hz⟩
end Go.Proofs.YtchflpokfamkhaaGreatDoor.P11
namespace Go.Vm
open Go
abbrev cxM(P:Program)(gb:Gb P)(t:Tab P)(m:Mx P)(hpr:∀T ti,t.tb T=some ti->∀a c,ti.z≠.pr a c)(n:Nat)(hn:n<=1000000)(fn:Func)(W:GW)(Q:AV->Prop)(hg:gb.g W): Cx:=⟨P,gb,t.tb,λT ti h=>⟨t.ok T ti h,hpr T ti h⟩,m,n,hn,W,λ_=>False,θe,bodyPostM Fence.wide 8 P fn (Ret W Q),hg⟩
theorem EnM {P : Program} [gb : Gb P] [t : Tab P] [hp : Npr P] [m : Mx P] {f n : Nat} {fn : Func} {x : Code} {args : List AV} {Q : AV → Prop} (hf : P.funcs[f]? = some fn) (h : ∀ W hg hn, StP (cxM P gb t m hp.h n hn fn W Q hg) (.j [] [.c x] (Yg0 0 args) [])) (hname : (fn.name == "runtime.NumGoroutine") = false := by exact rfl) (hb : fn.body = some x := by exact rfl)
 (hN:fn.ntmps=n:=by exact rfl) (hl:(Nat.ble args.length n&&Nat.ble n 1000000&&args.all Xku)=true:=by exact rfl):C P f args Q:=by
 refine⟨⟨fn,hf,hname,by rw[hb];rfl⟩,λW vs hg ha=>(callsIn_wide (n:=8)).1 (callsIn_of_wp_marks hf hb trivial (wpIn_wide.2 ?_) rfl)⟩
 have h:=h W hg (by simp only[W0g] at hl;exact W1p hl.1.2)
 simp only[StP,sem,<-Xlg] at h
 simp only[W0g] at hl
 obtain⟨⟨hl1,hl2⟩,hl3⟩:=hl
 have hl1:=W1p hl1
 have hlen:=ha.len
 refine wp_mono (h _ W.w ⟨_,W,θe,rfl,⟨Fm.refl W _,⟨rfl,by simp[hN];omega,λt v ht=>?_⟩,⟨λo x h=>(by cases h),λo x b h=>(by cases h),λo o' x x' b h=>(by cases h),λo x i h=>(by cases h)⟩,λt v i ht hi=>?_⟩,λ_ _=>rfl,rfl⟩) λe a w h=>by cases e<;>exact h
 . obtain⟨_,u,h2,h3,_⟩:=Xm8 ha ht
   rw[W6s] at h2
   have hlt:=Xby h2
   rw[W0c hlt] at h2
   injection h2 with h2
   simp only[Array.getD]
   rw[dif_pos (by simp;omega)]
   simp[W6o,hlt,h2]
   exact h3
 . obtain⟨_,u,_,_,h4⟩:=Xm8 ha ht
   exact absurd hi (Xkt (W1o.1 hl3 v h4) i)
theorem StP.rest2{c:Cx}{G:List (Nat×Bool)}{x y:Code}{E:Env}{H:Hpl}(h:∀a w,c.Nx (λs'=>s'=sem E H) a w->x.wp c.P (Exit.then (y.wp c.P c.fin) c.fin) a w): StP c (.j G [.c x,.c y] E H) :=
 λa w hw=>wp_mono (h a w hw) λe a w h=>by
  cases e with
  | normal=>exact wp_mono h λe a w h=>by cases e<;>exact h
  | _=>exact h
theorem Tl{c:Cx}{s:St}(id:Nat){G:List (Nat×Bool)}{x y:Code}{E:Env}{H:Hpl}(h:nxT c.tb c.n (some id) s=some (G,x,[.c y],E,H))(k:∀a w,c.Nx (λs'=>s'=sem E H) a w->x.wpIn Fence.wide 8 c.P (Exit.then (y.wpIn Fence.wide 8 c.P c.fin) c.fin) a w): StP c s:=by
 have key:StP c (.j G [.c x,.c y] E H):=StP.rest2 λa w hw=>wp_mono (wpIn_wide.1 (k a w hw)) λe a w h=>by
  cases e with
  | normal=>exact wpIn_wide.1 h
  | _=>exact h
 unfold nxT at h
 simp only at h
 split at h<;>cases h
 rename_i hr
 exact Xhw 1000 (by rw[hr];exact key)
theorem Xah{α:Type}{n:Nat}: ∀ {l:List α},l.length=n+1->∃t l',l=t::l'/\l'.length=n
 | t::l',h=>⟨t,l',rfl,by simpa using h⟩
end Go.Vm
namespace Go.Proofs.YtchflpokfamkhaaGreatDoor
open Go Go.Vm Go.Num Go.Proofs Go.Shelf Go.RowKit
section
end
section
theorem Xvh{q n:Nat}{l:List Nat}(hw:Xar l)(hq:q+n<=l.length)(hl:n<=1099511627776): CN0 61 [.own 1000001 1 q n] [(1000001,.arr 1 (l.map wd))] λv=>∃k,k<=n/\v=.own 1000001 1 q k/\(l.drop q).take k=dig (val ((l.drop q).take n)):=by
 have dtk:∀ {m k:Nat},k<m->((l.drop q).take m)[k]?=l[q+k]?:=λh=>by rw[W1j,if_pos h,W2p]
 have Xx4:∀ {m:Nat},q+m<=l.length->((l.drop q).take m).length=m:=λh=>by rw[W0i,W2d];omega
 refine EnW Tryz.func61 λ_ _ _ _=>?_
 refine Lo (λk=>[(0,.own 1000001 1 q k)]) (λ_=>[(1000001,.arr 1 (l.map wd))]) (λk=>k<=n/\val ((l.drop q).take k)=val ((l.drop q).take n)) id n [] rfl ⟨W0b _,rfl⟩ λk ⟨hk,hv⟩=>?_
 have hwk:=(hw.drop q).take k
 refine By rfl (λh=>?_) λh=>?_
 . obtain⟨u,hu⟩:=xat (l:=l) (k:=q+(k-1)) (by omega)
   have hs:=Xac (l:=l.drop q) (k:=k-1) (x:=u) (by rw[W2p];exact hu)
   rw[show k-1+1=k by omega,hv] at hs
   refine Ar (k-1:Nat) rfl ?_
   refine El (k-1) rfl (by omega) ?_
   refine Ld (wd u) rfl (mp hu) ?_
   refine By rfl (λh0=>?_) λh0=>?_
   . refine Ar (k-1:Nat) rfl ?_
     refine Sw 0 (k-1) rfl (by omega) (by omega) ?_
     exact Bk (k-1) [] rfl ⟨by omega,by rw[hs,show u=0 by omega,W3a,W2q]⟩ (show k-1<k by omega)
   . exact Rw [] [(1000001,.arr 1 (l.map wd))] rfl (.one (.rf rfl) rfl rfl) ⟨rfl,k,hk,rfl,by rw[<-hv,Xfl hwk (.inr ⟨u,by rw[Xx4 (by omega),dtk (by omega)];exact hu,λe=>h0 (by rw[e];rfl)⟩)]⟩
 . refine Rw [] [(1000001,.arr 1 (l.map wd))] rfl (.one (.rf rfl) rfl rfl) ⟨rfl,k,hk,rfl,?_⟩
   rw[show k=0 by omega] at hv |-
   rw[<-hv,W7r,val,Xam]
theorem Xld{l:List Nat}(h0:0<l.length)(hl:l.length<=1099511627776): CA0 66 [.d (ws l)] 1 (l.map wd):=by
 refine EnW Tryz.func66 λ_ _ _ _=>?_
 refine Ub rfl (λh=>?_) ?_
 . exact absurd h (by intro e; have:l.length = 0 := by simpa using congrArg List.length e
                      omega)
 refine ApL (l.map wd) rfl rfl (by simpa using h0) (by simpa using hl) ?_
 exact Rw [(7,1000000)] [(1000000,.arr 1 (l.map wd))] rfl (.one (.rf rfl) rfl rfl) ⟨_,rfl,rfl,rfl⟩
theorem Xoz: C0 101 [.d (dz 0)] (·=.d (.str [48])):=by
 refine En Tryz.func101 λ_ _ _=>?_
 refine Ce rfl (Xcm (n:=0) (by rw[Xam];decide)) ?_
 refine Ce rfl (Xbv (l:=dig 0) (by rw[Xam];decide)) ?_
 refine Yes rfl (by rw[Xam];rfl) ?_
 exact R0
def Fm9(z x n:Nat)(lo cs:List Nat): Prop:=n<=lo.length/\lo.length<=549755813888/\Xar lo/\lo.take n=dig x/\cks z=cs++cks x
theorem Ygs{z x n:Nat}{lo cs:List Nat}(h:Fm9 z x n lo cs): n=(dig x).length:=by
 have:=congrArg List.length h.2.2.2.1
 rw[W0i,W2f h.1] at this
 exact this
end
section
attribute [local go_sem] Oper.semAt_some
abbrev C9:={ x:Nat // x<1000000000 }
def b9(zs:List C9)(k:Nat): List (Nat×C9):=(List.range k).map λj=>(zs.length-1-j,zs[zs.length-1-j]?.getD ⟨0,by decide⟩)
theorem Xxc(zs:List C9)(k:Nat): b9 zs (k+1)=b9 zs k++[(zs.length-1-k,zs[zs.length-1-k]?.getD ⟨0,by decide⟩)]:=by simp[b9,W7l]
theorem Xxd(zs:List C9)(k:Nat): (b9 zs k).length=k:=by simp[b9]
set_option maxRecDepth 100000 in
set_option maxHeartbeats 2000000 in
theorem Yk0(F:Fence)(n:Nat)(h8:F.fn 229)(hro:F.round=none)(hn:1<=n)(l Bs n₀ b off cap:Nat)(zs:List C9)(hreach:zs.length*4<=140737488351232)(hb:b<n₀)(J Jx:List (Nat×C9)->World->Prop)
 (hY:∀pre x W,J pre W->pre.length<zs.length->YieldAt F (n-1) Tryz.prog l #[.int .i64 (x.1:Int),.int .u32 (x.2.1:Int)] W λe W' =>
  (e=.returned (.bool true)/\J (pre++[x]) W'/\Kq n₀ Bs W W')\/(e=.returned (.bool false)/\Jx (pre++[x]) W'))
 (W:World) (hBs:W.cell? ⟨Bs,0,none⟩=some (.slice (some ⟨b,off,none⟩) zs.length cap)) (hc:∀j,j<zs.length->W.cell? ⟨b,off+j,none⟩=some (.int .u32 ((zs[j]?.getD ⟨0,by decide⟩).1:Int))) (h0:J [] W) :
 CallsIn F n Tryz.prog 229 #[.func (.yield l) #[] #[],.pointer (some ⟨Bs,0,none⟩)] W λe W'=>(∃v,e=.returned v) /\
  ((∃ys,ys=b9 zs zs.length/\J ys W')\/(∃pre,True/\Jx pre W')):=by
 refine callsIn_of_wp Tryz.func229 rfl h8 ?_ hro
 simp only[Tryz.ntmps229,W6b,W0r,W4f,Nat.reduceAdd,Nat.reduceSub,W5m,W5n,W6c,W5u,W4n,W4q]
 gi_wp2
 gi_loopw [3] (λi wr=>∃k:Nat,k<=zs.length/\i=.int .i64 ((zs.length:Int)-1-k)/\J (b9 zs k) wr/\Kq n₀ Bs W wr)
  (λi _=>(intOf i+1).toNat)
 case atStart=>exact⟨0,W1a _,by simp,h0,Kq.refl _ _ _⟩
 case round =>
  obtain⟨k,hk,rfl,hJs,hnx⟩:=hrel
  have hBs':=(World.cell?_of_block hnx.b).trans hBs
  by_cases hlt:k<zs.length
  . obtain⟨q,hq⟩:∃q,q+(k+1)=zs.length:=⟨zs.length-1-k,by omega⟩
    have hqi:((zs.length:Int)-1-k)=(q:Int):=by omega
    have hcx:=(hnx.a.cell (p:=⟨b,off+q,none⟩) hb).trans (hc q (by omega))
    obtain⟨fn,tmps,assign,body,hy,hR⟩:=hY _ (q,zs[q]?.getD ⟨0,by decide⟩) wr hJs (by rw[Xxd];exact hlt)
    dsimp only at hy
    rw[hqi]
    gi_wp2
    refine hR.mono ?_
    rintro e W3 (⟨rfl,hJ3,hk3⟩ | ⟨rfl,hJx3⟩)
    . gi_wp2
      go_roundw
      case rel=>exact⟨k+1,by omega,by congr 1;omega,by rw[Xxc,show zs.length-1-k=q by omega];exact hJ3,hnx.trans hk3⟩
      case measure=>simp[intOf]
    . gi_wp2
      refine bodyPost_ret (results_none rfl _ _ _) rfl ?_
      exact⟨⟨_,rfl⟩,.inr ⟨_,trivial,hJx3⟩⟩
  . obtain rfl:k=zs.length:=by omega
    rw[show ((zs.length:Int)-1-(zs.length:Int))=-1 by omega]
    gi_wp2
    go_end0
    exact⟨⟨_,rfl⟩,.inl ⟨_,rfl,hJs⟩⟩
theorem Xm5(F:Fence)(n:Nat)(h8:F.fn 229)(hro:F.round=none)(hn:1<=n)(Bs n₀ b off cap:Nat)(zs:List C9)(hreach:zs.length*4<=140737488351232)(w:World)(hBs:Bs<w.heap.size)(hn₀:n₀<=w.heap.size)
 (hc:w.cell? ⟨Bs,0,none⟩=some (.slice (some ⟨b,off,none⟩) zs.length cap)) (hb:b<n₀) (hcs:∀j,j<zs.length->w.cell? ⟨b,off+j,none⟩=some (.int .u32 ((zs[j]?.getD ⟨0,by decide⟩).1:Int))) :
 SeqStopsK F n Tryz.prog 229 #[.pointer (some ⟨Bs,0,none⟩)] (λx:Nat×C9=>#[Value.int .i64 (x.1:Int),Value.int .u32 (x.2.1:Int)]) (Kq n₀ Bs) (λys=>ys=b9 zs zs.length)
  (λ_=>True) zs.length w:=λl J Jx W hW _ _ hY h0=>by
 have hc':=(hW.cell (p:=⟨Bs,0,none⟩) hBs).trans hc
 exact Yk0 F n h8 hro hn l Bs n₀ b off cap zs hreach hb J Jx hY W hc' (λj hj=>(hW.cell (p:=⟨b,off+j,none⟩) (W0q hb hn₀)).trans (hcs j hj)) h0
def o9(N:Nat)(sg:List UInt8): List (Nat×C9)->List UInt8:=List.foldl (λt x=>t++(if x.1+1<N then List.replicate (9-(dec x.2.1).length) 48 else [])++dec x.2.1) sg
theorem Xn2(N:Nat)(sg:List UInt8)(pre:List (Nat×C9))(x:Nat×C9): o9 N sg (pre++[x])=o9 N sg pre++(if x.1+1<N then List.replicate (9-(dec x.2.1).length) 48 else [])++dec x.2.1:=by simp[o9]
theorem Ynk(x:C9): (dec x.1).length<=9:=Xfo 8 x.1 x.2
theorem Xun(N:Nat): ∀(pre:List (Nat×C9)) (sg:List UInt8),(o9 N sg pre).length<=sg.length+18*pre.length
 | [],_=>W5c _ _
 | x::l,sg=>by
  have ih:=Xun N l (sg++(if x.1+1<N then List.replicate (9-(dec x.2.1).length) 48 else [])++dec x.2.1)
  have:=Ynk x.2
  have h:(if x.1+1<N then List.replicate (9-(dec x.2.1).length) (48:UInt8) else []).length<=9:=by split<;>simp
  simp only[W0d,W0r] at h ih |-
  refine W0h (show (o9 N sg (x::l)).length<=_ from ih) ?_
  omega
theorem Yeh(sg:List UInt8)(zs:List C9): ∀k,k<=zs.length->o9 zs.length sg (b9 zs k)=sg++Xze ((zs.map (·.1)).drop (zs.length-k))
 | 0,_=>by
  rw[W1y (by simp)]
  simp[b9,o9,Xze]
 | k+1,h=>by
  obtain⟨x,hx⟩:∃x,zs[zs.length-1-k]?=some x:=⟨_,W0c (by omega)⟩
  have hxm:(zs.map (·.1))[zs.length-(k+1)]?=some x.1:=by rw[W1d,show zs.length-(k+1)=zs.length-1-k by omega,hx];rfl
  have hd:(zs.map (·.1)).drop (zs.length-(k+1))=x.1::(zs.map (·.1)).drop (zs.length-k):=by
   obtain⟨hlt,he⟩:=W2l.1 hxm
   rw[W3b hlt,he,show zs.length-(k+1)+1=zs.length-k by omega]
  rw[Xxc,Xn2,Yeh sg zs k (by omega),hx,hd]
  simp only[W5q]
  by_cases hk:k=0
  . subst hk
    rw[if_neg (by omega),show (zs.map (·.1)).drop (zs.length-0)=[] from W1y (by simp)]
    simp[Xze]
  . have hne:(zs.map (·.1)).drop (zs.length-k)≠[]:=λe=>by
     have:=congrArg List.length e
     simp at this;omega
    rw[if_pos (by omega),Xuj hne]
    unfold pad
    simp
theorem c9s{l:List Nat}(h:∀x∈l,x<1000000000): ∃zs:List C9,zs.map (·.1)=l:=by
 induction l with
 | nil=>exact⟨[],rfl⟩
 | cons a l ih =>
  obtain⟨zs,hz⟩:=ih λx hx=>h x (W0w _ hx)
  exact⟨⟨a,h a (W0n ..)⟩::zs,by rw[W3l,hz]⟩
def gw1(w:World): GW:=⟨w,λ_ _=>False,λ_ _ h=>h.elim⟩
theorem cell_lt{w:World}{b i:Nat}{v:Value}(h:w.cell? ⟨b,i,none⟩=some v): b<w.heap.size:=by
 apply W1c
 intro hn
 simp only[World.cell?] at h
 rw[W3s (by omega)] at h
 cases h
theorem Yji{W:GW}{n:Nat}{w':World}(h:Below n W.w w')(hn:W.w.heap.size<=n): LeF W (gw1 w'):=λb i v hv =>
 ⟨(World.cell?_of_block (h.block b (W0q (cell_lt hv.1) hn))).trans hv.1,id⟩
theorem Xrh{f:FuncId}{args:List AV}{vs:List Value}{s:List UInt8}{w:World}(hc:C0 f args (·=.d (.str s)))(hg:Gb.g Tryz.prog (gw1 w))(ha:Xiw (gw1 w) θe args vs):
 Calls Tryz.prog f vs.toArray w λe w'=>e=.returned (.string ⟨s.toArray⟩)/\Below w.heap.size w w' :=
 (hc.2 (gw1 w) vs hg ha).mono λe w' ⟨W',v,u,h1,h2,h3,h4,_,h6⟩=>by
  subst h6;subst h2
  obtain⟨rfl,_⟩:=Xsk h4
  exact⟨h1,h3.os,h3.tape,h3.out,h3.size,λk hk=>h3.same k hk id⟩
theorem Yo1{w:World}(hg:Gb.g Tryz.prog (gw1 w))(x:C9): Calls Tryz.prog 168 #[.int .u64 (x.1:Int),.int .i64 10] w λe w'=>e=.returned (.string ⟨(dec x.1).toArray⟩)/\Below w.heap.size w w' :=
 Xrh (vs:=[.int .u64 (x.1:Int),.int .i64 10]) (Xlj x.2) hg ⟨int_V (by have:=x.2;show IntKind.u64.wrap _=_;exact wU (by omega)),int_V (wI (by omega)),trivial⟩
theorem Yoi{w:World}(hg:Gb.g Tryz.prog (gw1 w)){n:Nat}{k:Int}(hk:k=n)(hn:n<65): Calls Tryz.prog 102 #[.string ⟨#[48]⟩,.int .i64 k] w λe w'=>e=.returned (.string ⟨(List.replicate n 48).toArray⟩)/\Below w.heap.size w w':=by
 subst hk
 exact Xrh (vs:=[.string ⟨#[48]⟩,.int .i64 (n:Int)]) (Xjy hn) hg ⟨Xlp (s:=[48]) (by decide),int_V (by show IntKind.i64.wrap _=_;exact wI (by omega)),trivial⟩
theorem Xvj{β:Type}(T e:TypeId)(B b:Nat)(f:β->List Value): Own (λs W=>Lib.IsBuilderF T e B b (f s) W):=by
 intro s X Y row h hg hrow
 have key:∀p,Lib.BuilderAtF T e B b p (f s) X->Lib.BuilderAtF T e B b p (f s) Y:=λp ⟨hB,v,hb,hown,hne⟩=>by
  have cells:∀k cs t fz,X.heap[k]?=some (.cells cs t fz)->some k≠row:=λk cs t fz hk e'=>by
   obtain⟨o,ho,hc⟩:=hrow k e'.symm
   rw[hk] at ho;cases ho;cases hc
  refine⟨hB,v,(hg.block b (W3m.1 hb).1 (cells b _ _ _ hb)).trans hb,hown.kept hg ?_,hne⟩
  cases hv:v.ownBlock with
  | none=>exact .inl rfl
  | some g =>
   obtain⟨c,fz,hc⟩:=Lib.ownsRowF_kind hown g hv
   exact .inr (cells g _ _ _ hc)
 exact h.elim (λh=>.inl (key _ h)) λh=>.inr (key _ h)
theorem Xih{W W':World}{row:Option Nat}{b:Nat}{cs:Array Value}{t:TypeId}{fz:Nat×Nat}(h:W.heap[b]?=some (.cells cs t fz))(hg:W.grownBy W' row)(hr:∀r,row=some r->∃o:Obj,W.heap[r]?=some o/\o.isCells=false): W'.heap[b]?=some (.cells cs t fz) :=
 (hg.block b (W3m.1 h).1 (λe'=>by
  obtain⟨o,ho,hc⟩:=hr b e'.symm
  rw[h] at ho;cases ho;cases hc)).trans h
theorem Xvk{T e:TypeId}{B b:Nat}{bs:List Value}{w w':World}(h:Lib.IsBuilderF T e B b bs w)(hw:Below w.heap.size w w'): Lib.IsBuilderF T e B b bs w':=by
 have key:∀p,Lib.BuilderAtF T e B b p bs w->Lib.BuilderAtF T e B b p bs w':=λp ⟨hB,v,hb,hown,hne⟩ =>
  ⟨hB,v,(hw.block b (W3m.1 hb).1).trans hb,hown.kept (row:=none) ⟨hw.os,hw.tape,hw.output,hw.size,λk hk _=>hw.block k hk⟩ (by cases hv:v.ownBlock<;>simp),hne⟩
 exact h.elim (λh=>.inl (key _ h)) λh=>.inr (key _ h)
theorem Xn9{w w':World}(h:Below w.heap.size w w'): KeepsOthers w w':=⟨h.size,λk o hk _=>(h.block k (W3m.1 hk).1).trans hk⟩
theorem Xk0{T e:TypeId}{B b n:Nat}{bs:List Value}{w w':World}(h:Lib.IsBuilderF T e B b bs w)(hw:Below n w w')(ho:Lib.OthersKept e (some b) w w'): KeepsOthers w w':=⟨hw.size,λk o hk hc=>by
 refine ho k o hk (λe'=>?_) (λc fz e'=>by subst e';cases hc)
 cases e'
 rcases h with ⟨_,v,hb,_⟩ | ⟨_,v,hb,_⟩<;>rw[hk] at hb<;>cases hb<;>cases hc⟩
structure W9 (n BS B:Nat) (sl:Value) (w W:World) (t:List UInt8) (W':World):Prop where
 b:Lib.IsBuilderF (rnB.t 72) (rnB.t 5) n n (Lib.byteCells t) W'
 s:W'.heap[BS]?=some (.cells #[sl] 27 (0,0))
 l:Below n w W'
 k:KeepsFrom B W W'
 q:Kq n BS W W'
theorem W9.below{n BS B:Nat}{sl:Value}{w W W' W'':World}{t:List UInt8}(h:W9 n BS B sl w W t W')(hn:n<=W'.heap.size)(hb:Below W'.heap.size W' W''): W9 n BS B sl w W t W'' :=
 ⟨Xvk h.b hb,(hb.block BS (W3m.1 h.s).1).trans h.s,h.l.trans (hb.mono hn),h.k.trans ((Xn9 hb).from _),h.q.trans ⟨hb.mono hn,hb.block BS (W3m.1 h.s).1⟩⟩
theorem W9.wr{n BS B:Nat}{sl:Value}{w W W':World}{t:List UInt8}(h:W9 n BS B sl w W t W')(u:List UInt8)(hn:n<=W'.heap.size)(hB:BS≠n)(hl:t.length+u.length<=140737488355328):
 Calls Tryz.prog 104 #[.pointer (some ⟨n,0,none⟩),.string ⟨u.toArray⟩] W' λe W''=>e=.returned (.tuple #[.int .i64 u.length,.nilIface])/\W9 n BS B sl w W (t++u) W'':=by
 have hsz:(⟨u.toArray⟩:ByteArray).size=u.length:=by simp[ByteArray.size]
 refine(Any.Builder_WriteString_k Yjl Yl1 n n _ ⟨u.toArray⟩ W' h.b (by rw[Lib.byteCells_length,hsz];exact hl) hn).mono ?_
 rintro e W'' ⟨rfl,hb,hbl,ho⟩
 have hs:W''.heap[BS]?=some (.cells #[sl] 27 (0,0)):=ho BS _ h.s (by intro e;cases e;exact hB rfl) (by intro c fz e;cases e)
 refine⟨by rw[hsz],.inr (by rw[Lib.byteCells_append];exact hb),hs,h.l.trans hbl,h.k.trans ((Xk0 h.b hbl ho).from _),h.q.trans ⟨hbl,hs.trans h.s.symm⟩⟩
end
section
attribute [local go_sem] Oper.semAt_some
theorem Xso{z:Int}(hz:z≠0)(hl:(dig z.natAbs).length<=274877906944): C0 101 [.d (dz z)] (·=.d (.str (tx z))):=by
 have hcl:=Xw3 (n:=z.natAbs) (k:=(dig z.natAbs).length) (by have:=Xb4 (Xad z.natAbs);rwa[Xag] at this)
 have hp:=W6l.2 (λe:dig z.natAbs=[]=>hz (by have:=Xsa.1 e;omega))
 refine EnM Tryz.func101 λW0 hg0 _=>?_
 refine Ce rfl (Xcm (n:=z.natAbs) (by omega)) ?_
 refine Cr rfl (Xld (l:=dig z.natAbs) hp (by omega)) ?_
 refine No rfl (by simp only[W0l];omega) ?_
 refine Nv 4 7 1 rfl ?_
 refine Lo (λ((x,n,lo,cs):Nat×Nat×List Nat×List Nat)=>[(1,.ptr 1 0),(2,.d (.str [])),(3,.own 14 1 0 n),(4,.ptr 4 0)]) (λ(x,n,lo,cs)=>[(1,.var (.d (dz z))),(14,.arr 1 (lo.map wd)),(4,.var (.gr 7 1 (cs.map wd))),(7,.tok (cs.map wd).length 1)])
  (λ(x,n,lo,cs)=>Fm9 z.natAbs x n lo cs) (λ(x,_)=>x) (z.natAbs,(dig z.natAbs).length,dig z.natAbs,[]) [] rfl ⟨W0b _,by omega,Xad _,W2e ..,rfl⟩ ?_ (by exact⟨by simp only[W0l];rfl,rfl,rfl,rfl,rfl⟩)
 rintro⟨x,n,lo,cs⟩ hI
 have hn:=Ygs hI
 obtain⟨hnl,hll,hwo,hdx,hck⟩:=hI
 have hsz:∀j,j<n->lo[j]?=(dig x)[j]?:=λj hj=>by rw[<-hdx,W1j,if_pos hj]
 refine By rfl (λh=>?_) λh=>?_
 . have h:(n:Int)>0:=h
   have hx0:x≠0:=λe=>by rw[e,Xam] at hn;simp at hn;omega
   refine Ar ((n:Int)-1) rfl ?_ (wr rfl (by simp only[inK];omega))
   refine Lo (λ((k,l,r):Nat×List Nat×Nat)=>[(1,.ptr 1 0),(2,.d (.str [])),(3,.own 14 1 0 n),(4,.ptr 4 0),(5,.d (.int .u64 r)),(6,.d (.int .i64 ((k:Int)-1)))]) (λ(_,l,_)=>[(1,.var (.d (dz z))),(14,.arr 1 (l.map wd)),(4,.var (.gr 7 1 (cs.map wd))),(7,.tok (cs.map wd).length 1)])
    (λ(k,l,r)=>k<=n/\l.length=lo.length/\Xar l/\r<1000000000/\val ((l.take n).drop k)*1000000000+r=val ((dig x).drop k)/\∀j,j<k->l[j]?=(dig x)[j]?) (λ(k,_,_)=>k) (n,lo,0) [] rfl
    ⟨W0b _,rfl,hwo,by decide,by rw[W1y (by rw[W0i];omega),W1y (by omega)];simp[val],hsz⟩ ?_
   rintro⟨k,l,r⟩ ⟨hk,hl2,hwl,hr,hval,hlj⟩
   refine By rfl (λh2=>?_) λh2=>?_
   . have h2:(k:Int)-1>=0:=h2
     obtain⟨u,hu⟩:=xat (l:=dig x) (k:=k-1) (by omega)
     have hub:=ww hu (Xad x)
     have hul:l[k-1]?=some u:=by rw[hlj _ (by omega),hu]
     obtain⟨s,hs⟩:∃s,s=r*2^32+u:=⟨_,rfl⟩
     have hs64:s<18446744073709551616:=by omega
     have hsy:s/1000000000<4294967296:=by omega
     have hek:((k:Int)-1)=((k-1:Nat):Int):=by omega
     refine Ar (r*2^32:Nat) rfl ?_ (Xht (n:=32) rfl (by omega) (by decide))
     refine Eo (k-1) (by rw[hek];rfl) (by omega) ?_
     refine Ld (wd u) rfl (mp hul) ?_
     refine Go.Vm.Cv u rfl ?_
     refine Ar s rfl ?_ (Yb3 (by omega) (by omega) (by rw[Xdq u r 32 (by omega),<-hs]) hs64)
     refine Ar (s/1000000000:Nat) rfl ?_ (show _/\_ from⟨by decide,Ydj s 1000000000 hs64⟩)
     refine Go.Vm.Cv (s/1000000000:Nat) rfl ?_ (wW ⟨W5e _,W6t.2 hsy⟩)
     refine Eo (k-1) (by rw[hek];rfl) (by omega) ?_
     refine Sto rfl (by simp only[W0l];omega) ms ?_
     refine Ar (s%1000000000:Nat) rfl ?_ (show _/\_ from⟨by decide,Xxx s 1000000000⟩)
     refine Ar ((k-1:Nat)-1:Int) rfl ?_ (wr (by omega) (by simp only[inK];omega))
     have hs0:val ((dig x).drop (k-1))=u+4294967296*val ((dig x).drop k):=by
      have:=Xb2 hu
      rwa[show k-1+1=k by omega] at this
     refine Bk (k-1,l.set (k-1) (s/1000000000),s%1000000000) [] rfl ⟨by omega,by simp[hl2],Xg4 hwl hsy,W1z _ (by decide),?_,λj hj=>?_⟩ (by show k-1<k;omega)
     . rw[hs0,<-hval,List.take_set,drop_set (by rw[W0i];omega),val,show k-1+1=k by omega]
       have e:=W2m s 1000000000
       have hs2:s=r*4294967296+u:=hs
       generalize val (((l.take n)).drop k)=V
       generalize s/1000000000=q at e |-
       generalize s%1000000000=m at e |-
       clear hck hcl hdx hsz hlj hs hval hs0 hsy hs64
       omega
     . rw[W1w (by omega)];exact hlj j (by omega)
   . have hk0:k=0:=by
      have h2:¬(k:Int)-1>=0:=h2
      omega
     subst hk0
     rw[W0x,W0x,Xag] at hval
     have hq:x/1000000000=val (l.take n):=by omega
     have hm:x%1000000000=r:=by omega
     refine Cn [(1000001,14)] rfl (Xvh (l:=l) (q:=0) (n:=n) hwl (by omega) (by omega)) λv hv=>?_
     obtain⟨m,hmn,rfl,hml⟩:=hv
     rw[W0x,<-hq] at hml
     refine Go.Vm.Cv r rfl ?_
     refine ApG ((cs++[r]).map wd) rfl (by simp;rfl) (by simp;have:=congrArg List.length hck;rw[W0d] at this;omega) ?_
     refine Bk (x/1000000000,m,l,cs++[r]) [(50,7)] rfl ⟨by omega,by omega,hwl,hml,?_⟩ (by show x/1000000000<x;omega)
     rw[hck,Xfp hx0,hm];simp
 . have h:¬(n:Int)>0:=h
   have hx0:x=0:=by
    have:dig x=[]:=W0j (by omega)
    exact Xsa.1 this
   subst hx0
   rw[Xe1,W4y] at hck
   obtain⟨zs,hzs⟩:=c9s (l:=cs) λx hx=>Yks z.natAbs x (by rw[hck];exact hx)
   have hzl:zs.length=cs.length:=by rw[<-hzs,W0l]
   have hz0:z.natAbs≠0:=by omega
   have hz1:0<zs.length:=by
    rw[hzl,<-hck,Xfp hz0];simp
   have hzn:zs.length<=549755813888:=by rw[hzl,<-hck];omega
   have htx:∀sg,sg++Xze (zs.map (·.1))=sg++dec z.natAbs:=λsg=>by rw[hzs,<-hck,Xzd _ hz0]
   refine Tl 15 rfl λa w hw=>?_
   obtain⟨s',W,θ,rfl,hS,hθ,rfl⟩:=hw
   have hgW:Gb.g Tryz.prog W:=Gb.mono _ _ hS.fm.le hg0
   obtain⟨b1,p1,e1⟩:=Xi5 (hS.rel.has 1 (.ptr 1 0) rfl)
   obtain⟨b4,p4,e4⟩:=Xi5 (hS.rel.has 4 (.ptr 4 0) rfl)
   obtain⟨bx,cx1,T1,q1,q2,q3,_⟩:=hS.obs.r 1 (.var (.d (dz z))) rfl
   obtain⟨by4,cx4,T4,q5,q6,q7,_⟩:=hS.obs.r 4 (.var (.gr 7 1 (cs.map wd))) rfl
   obtain rfl:bx=b1:=Option.some.inj (q1.symm.trans p1)
   obtain rfl:by4=b4:=Option.some.inj (q5.symm.trans p4)
   have c1:W.w.cell? ⟨bx,0,none⟩=some (.bool (decide (z<0))):=by
    obtain⟨u,v,h1,h2,_⟩:=q3
    have h2:u=[.bool (decide (z<0))]:=h2
    rw[Xbl q2,h1,h2];rfl
   obtain⟨b7,cp,c4,hcell⟩:∃b7 cp,W.w.cell? ⟨by4,0,none⟩=some (.slice (some ⟨b7,0,none⟩) zs.length cp)/\∀j,j<zs.length->W.w.cell? ⟨b7,0+j,none⟩=some (.int .u32 ((zs[j]?.getD ⟨0,by decide⟩).1:Int)):=by
    obtain⟨p,h1,h0,h2,_,h5⟩:=q7
    simp only[W0l] at h1 h2
    rcases h5 with h5 | ⟨b7,h5,hrow⟩
    . have:=congrArg List.length h5
      rw[W0l] at this
      have:cs.length=0:=this
      omega
    . have hp:p=some ⟨b7,0,none⟩:=by
       rcases h0 with h0 | h0
       . omega
       . rw[h0,h5];rfl
      refine⟨b7,_,by rw[Xbl q6,h1,hp,<-hzl];rfl,λj hj=>?_⟩
      obtain⟨x,hx⟩:∃x,zs[j]?=some x:=⟨_,W0c hj⟩
      obtain⟨e,g1,_,g3⟩:=D.row_get hrow (i:=j) (x:=wd x.1) (by rw[<-hzs];simp[hx])
      have g1:e=[.int .u32 x.1]:=g1.1
      have:=(g3 0 (.int .u32 x.1) (by rw[g1];rfl)).1
      rw[hx]
      simpa using this
   have hb1:=Go.Proofs.YtchflpokfamkhaaGreatDoor.cell_lt c1
   have hb4:=Go.Proofs.YtchflpokfamkhaaGreatDoor.cell_lt c4
   have hb7:=Go.Proofs.YtchflpokfamkhaaGreatDoor.cell_lt (hcell 0 hz1)
   have hfm:=hS.fm
   obtain⟨tm,df⟩:=a
   obtain rfl:df=[]:=hS.rel.defers
   obtain⟨L⟩:=tm
   have hL:L.length=74:=hS.rel.size
   clear hS
   obtain⟨t0,L0,rfl,hL0⟩:=Xah hL
   clear hL
   obtain⟨t1,L1,rfl,hL1⟩:=Xah hL0
   clear hL0
   obtain⟨t2,L2,rfl,hL2⟩:=Xah hL1
   clear hL1
   obtain⟨t3,L3,rfl,hL3⟩:=Xah hL2
   clear hL2
   obtain⟨t4,L4,rfl,hL4⟩:=Xah hL3
   clear hL3
   obtain⟨t5,L5,rfl,hL5⟩:=Xah hL4
   clear hL4
   obtain⟨t6,L6,rfl,hL6⟩:=Xah hL5
   clear hL5
   obtain⟨t7,L7,rfl,hL7⟩:=Xah hL6
   clear hL6
   obtain⟨t8,L8,rfl,hL8⟩:=Xah hL7
   clear hL7
   obtain⟨t9,L9,rfl,hL9⟩:=Xah hL8
   clear hL8
   obtain⟨t10,L10,rfl,hL10⟩:=Xah hL9
   clear hL9
   obtain⟨t11,L11,rfl,hL11⟩:=Xah hL10
   clear hL10
   obtain⟨t12,L12,rfl,hL12⟩:=Xah hL11
   clear hL11
   obtain⟨t13,L13,rfl,hL13⟩:=Xah hL12
   clear hL12
   obtain⟨t14,L14,rfl,hL14⟩:=Xah hL13
   clear hL13
   obtain⟨t15,L15,rfl,hL15⟩:=Xah hL14
   clear hL14
   obtain⟨t16,L16,rfl,hL16⟩:=Xah hL15
   clear hL15
   obtain⟨t17,L17,rfl,hL17⟩:=Xah hL16
   clear hL16
   obtain⟨t18,L18,rfl,hL18⟩:=Xah hL17
   clear hL17
   obtain⟨t19,L19,rfl,hL19⟩:=Xah hL18
   clear hL18
   obtain⟨t20,L20,rfl,hL20⟩:=Xah hL19
   clear hL19
   obtain⟨t21,L21,rfl,hL21⟩:=Xah hL20
   clear hL20
   obtain⟨t22,L22,rfl,hL22⟩:=Xah hL21
   clear hL21
   obtain⟨t23,L23,rfl,hL23⟩:=Xah hL22
   clear hL22
   obtain⟨t24,L24,rfl,hL24⟩:=Xah hL23
   clear hL23
   obtain⟨t25,L25,rfl,hL25⟩:=Xah hL24
   clear hL24
   obtain⟨t26,L26,rfl,hL26⟩:=Xah hL25
   clear hL25
   obtain⟨t27,L27,rfl,hL27⟩:=Xah hL26
   clear hL26
   obtain⟨t28,L28,rfl,hL28⟩:=Xah hL27
   clear hL27
   obtain⟨t29,L29,rfl,hL29⟩:=Xah hL28
   clear hL28
   obtain⟨t30,L30,rfl,hL30⟩:=Xah hL29
   clear hL29
   obtain⟨t31,L31,rfl,hL31⟩:=Xah hL30
   clear hL30
   obtain⟨t32,L32,rfl,hL32⟩:=Xah hL31
   clear hL31
   obtain⟨t33,L33,rfl,hL33⟩:=Xah hL32
   clear hL32
   obtain⟨t34,L34,rfl,hL34⟩:=Xah hL33
   clear hL33
   obtain⟨t35,L35,rfl,hL35⟩:=Xah hL34
   clear hL34
   obtain⟨t36,L36,rfl,hL36⟩:=Xah hL35
   clear hL35
   obtain⟨t37,L37,rfl,hL37⟩:=Xah hL36
   clear hL36
   obtain⟨t38,L38,rfl,hL38⟩:=Xah hL37
   clear hL37
   obtain⟨t39,L39,rfl,hL39⟩:=Xah hL38
   clear hL38
   obtain⟨t40,L40,rfl,hL40⟩:=Xah hL39
   clear hL39
   obtain⟨t41,L41,rfl,hL41⟩:=Xah hL40
   clear hL40
   obtain⟨t42,L42,rfl,hL42⟩:=Xah hL41
   clear hL41
   obtain⟨t43,L43,rfl,hL43⟩:=Xah hL42
   clear hL42
   obtain⟨t44,L44,rfl,hL44⟩:=Xah hL43
   clear hL43
   obtain⟨t45,L45,rfl,hL45⟩:=Xah hL44
   clear hL44
   obtain⟨t46,L46,rfl,hL46⟩:=Xah hL45
   clear hL45
   obtain⟨t47,L47,rfl,hL47⟩:=Xah hL46
   clear hL46
   obtain⟨t48,L48,rfl,hL48⟩:=Xah hL47
   clear hL47
   obtain⟨t49,L49,rfl,hL49⟩:=Xah hL48
   clear hL48
   obtain⟨t50,L50,rfl,hL50⟩:=Xah hL49
   clear hL49
   obtain⟨t51,L51,rfl,hL51⟩:=Xah hL50
   clear hL50
   obtain⟨t52,L52,rfl,hL52⟩:=Xah hL51
   clear hL51
   obtain⟨t53,L53,rfl,hL53⟩:=Xah hL52
   clear hL52
   obtain⟨t54,L54,rfl,hL54⟩:=Xah hL53
   clear hL53
   obtain⟨t55,L55,rfl,hL55⟩:=Xah hL54
   clear hL54
   obtain⟨t56,L56,rfl,hL56⟩:=Xah hL55
   clear hL55
   obtain⟨t57,L57,rfl,hL57⟩:=Xah hL56
   clear hL56
   obtain⟨t58,L58,rfl,hL58⟩:=Xah hL57
   clear hL57
   obtain⟨t59,L59,rfl,hL59⟩:=Xah hL58
   clear hL58
   obtain⟨t60,L60,rfl,hL60⟩:=Xah hL59
   clear hL59
   obtain⟨t61,L61,rfl,hL61⟩:=Xah hL60
   clear hL60
   obtain⟨t62,L62,rfl,hL62⟩:=Xah hL61
   clear hL61
   obtain⟨t63,L63,rfl,hL63⟩:=Xah hL62
   clear hL62
   obtain⟨t64,L64,rfl,hL64⟩:=Xah hL63
   clear hL63
   obtain⟨t65,L65,rfl,hL65⟩:=Xah hL64
   clear hL64
   obtain⟨t66,L66,rfl,hL66⟩:=Xah hL65
   clear hL65
   obtain⟨t67,L67,rfl,hL67⟩:=Xah hL66
   clear hL66
   obtain⟨t68,L68,rfl,hL68⟩:=Xah hL67
   clear hL67
   obtain⟨t69,L69,rfl,hL69⟩:=Xah hL68
   clear hL68
   obtain⟨t70,L70,rfl,hL70⟩:=Xah hL69
   clear hL69
   obtain⟨t71,L71,rfl,hL71⟩:=Xah hL70
   clear hL70
   obtain⟨t72,L72,rfl,hL72⟩:=Xah hL71
   clear hL71
   obtain⟨t73,L73,rfl,hL73⟩:=Xah hL72
   clear hL72
   obtain rfl:=W0j hL73
   obtain rfl:t1=.pointer (some ⟨bx,0,none⟩):=e1
   obtain rfl:t4=.pointer (some ⟨by4,0,none⟩):=e4
   have hfin:∀ {w':World} {s:List UInt8},Below W.w.heap.size W.w w'->s=tx z->Ret W0 (λx=>x=.d (.str (tx z))) (.returned (.string ⟨s.toArray⟩)) w':=λ{w' s} h e=>by
    obtain⟨W',h1,h2⟩:=Xk4 h
    subst e
    refine⟨W',_,_,rfl,h1,⟨h2.os.trans hfm.os,h2.out.trans hfm.out,h2.tape.trans hfm.tape,W0h hfm.size h2.size,λb hb hx=>(h2.same b (W0q hb hfm.size) id).trans (hfm.same b hb hx),λb hb hx i=>(h2.A b (W0q hb hfm.size) id i).trans (hfm.A b hb hx i),hfm.le.trans h2.le⟩,Xlp ?_,λ_ h=>h,rfl⟩
    have:=Xon z.natAbs
    unfold tx
    split<;>simp only[W0d,W0r,W4f]<;>omega
   clear q2 q3 q6 q7 hθ hck
   obtain⟨w,hww⟩:∃w,w=W.w:=⟨_,rfl⟩
   have hgw:∀ {w':World},Below w.heap.size w w'->Gb.g Tryz.prog (gw1 w'):=λh=>Gb.mono _ _ (Yji (n:=w.heap.size) (by rw[<-hww];exact h) (by rw[<-hww];exact W0b _)) hgW
   rw[<-hww] at c1 c4 hcell hb1 hb4 hb7 hfin |-
   clear hww hgW hzl hzs hcl hnl hll hwo hn hdx hsz h hp hl q1 q5 p1 p4 hfm
   have hz9:zs.length*4<=140737488351232:=by omega
   have cA:∀o,(w.alloc o).cell? ⟨bx,0,none⟩=some (.bool (decide (z<0))):=λo=>(World.cell?_of_block (a:=⟨bx,0,none⟩) (Below.heap_alloc w o bx hb1)).trans c1
   have c4A:∀o,(w.alloc o).cell? ⟨by4,0,none⟩=some (.slice (some ⟨b7,0,none⟩) zs.length cp):=λo=>(World.cell?_of_block (a:=⟨by4,0,none⟩) (Below.heap_alloc w o by4 hb4)).trans c4
   by_cases hneg:z<0
   . simp only[decide_eq_true hneg] at cA
     gi_wp2
     refine⟨trivial,(callsIn_wide.2 (Any.Builder_WriteByte_k Yjk Yl1 w.heap.size w.heap.size [] 45 _ (.of (Lib.fresh_isBuilder _ _ w)) (by decide) (by simp))).mono ?_⟩
     rintro e wb ⟨rfl,hB,hbw,hok⟩
     have hB:Lib.IsBuilderF (rnB.t 72) (rnB.t 5) w.heap.size w.heap.size (Lib.byteCells [45]) wb:=.inr hB
     have hbw:Below w.heap.size w wb:=((Below.refl _ w).alloc (W0b _) _).trans hbw
     have hlt:w.heap.size<wb.heap.size:=by rcases hB with h | h<;>exact h.lt
     have c4b:wb.cell? ⟨by4,0,none⟩=some (.slice (some ⟨b7,0,none⟩) zs.length cp):=(hbw.cell (p:=⟨by4,0,none⟩) hb4).trans c4
     gi_wp2
     refine⟨trivial,(Xor Fence.wide 7 trivial rfl _ _ _ _).mono ?_⟩
     rintro e w2 ⟨rfl,hw2⟩
     have hBS:w2.heap[wb.heap.size]?=some (.cells #[.slice (some ⟨b7,0,none⟩) zs.length cp] 27 (0,0)):=by rw[hw2];exact World.alloc_heap_new wb _
     have hb2:Below w.heap.size w w2:=by rw[hw2];exact hbw.alloc (by have:=hbw.size;omega) _
     have hB2:Lib.IsBuilderF (rnB.t 72) (rnB.t 5) w.heap.size w.heap.size (Lib.byteCells [45]) w2:=by rw[hw2];exact hB.alloc _
     have hs2:w2.heap.size=wb.heap.size+1:=by rw[hw2];simp
     have hcell2:∀j,j<zs.length->w2.cell? ⟨b7,0+j,none⟩=some (.int .u32 ((zs[j]?.getD ⟨0,by decide⟩).1:Int)):=λj hj=>(hb2.cell (p:=⟨b7,0+j,none⟩) hb7).trans (hcell j hj)
     have cBS:w2.cell? ⟨wb.heap.size,0,none⟩=some (.slice (some ⟨b7,0,none⟩) zs.length cp):=by simp[World.cell?,hBS]
     obtain⟨BS,hBSe⟩:∃BS,BS=wb.heap.size:=⟨_,rfl⟩
     rw[<-hBSe] at hBS hs2 cBS hlt |-
     clear hw2 hBSe hB hbw c4b hok
     gi_wp2
     refine wpIn_rangeFunc_ownG rfl (by decide) (gf:=229) (lb:=#[.pointer (some ⟨BS,0,none⟩)]) rfl trivial (enters_of Tryz.func229 (by kernel_rfl) rfl)
      (Xm5 Fence.wide (8-1) trivial rfl (by decide) BS w.heap.size b7 0 cp zs hz9 w2 (by omega) (by omega) cBS hb7 hcell2) Kq.trans (λW l o o' hl h _ _=>Xvf W l o hl (by omega) (by omega) h o') (Below.refl _ _) (λ_=>rfl)
      (λpre W=>(Lib.IsBuilderF (rnB.t 72) (rnB.t 5) w.heap.size w.heap.size (Lib.byteCells (o9 zs.length [45] pre)) W/\W.heap[BS]?=some (.cells #[.slice (some ⟨b7,0,none⟩) zs.length cp] 27 (0,0)))/\Below w.heap.size w W)
      (λ_ _ _=>False)
      (OwnFrom.and (Own.from (λs A B row hs hg hr=>⟨Xvj _ _ _ _ (λp=>Lib.byteCells (o9 zs.length [45] p)) s A B row hs.1 hg hr,Xih hs.2 hg hr⟩) _) (ownFrom_below (W0b _) (by omega)))
      (λ_ _ _ _ _ hs _ _=>hs)
      ⟨⟨hB2,hBS⟩,hb2⟩
      (λx=>{ tmps:=#[t0,.pointer (some ⟨bx,0,none⟩),t2,t3,.pointer (some ⟨by4,0,none⟩),t5,t6,.pointer (some ⟨w.heap.size,0,none⟩),.int .i64 (x.1:Int),.int .u32 (x.2.1:Int),t10,t11,t12,t13,t14,t15,t16,t17,t18,t19,t20,t21,t22,t23,t24,t25,t26,t27,t28,t29,t30,t31,t32,t33,t34,t35,t36,t37,t38,t39,t40,t41,t42,t43,t44,t45,t46,t47,t48,t49,t50,.pointer (some ⟨bx,0,none⟩),.bool true,.nilIface,.slice (some ⟨b7,0,none⟩) zs.length cp,.func (.func 229) #[] #[.pointer (some ⟨BS,0,none⟩)],.int .i64 (x.1:Int),.int .u32 (x.2.1:Int),t58,t59,t60,t61,t62,t63,t64,t65,t66,t67,t68,t69,t70,t71,t72,t73],defers:=[] }) ?assign ?body ?done ?stop
     case assign =>
      intro l x W K hK
      gi_wp2
      exact hK
     case stop =>
      rintro D c pre W _ _ h _
      exact h.elim
     case body =>
      rintro l pre x W ⟨⟨hBd,hBS⟩,hBl⟩ hlen
      gi_wp2
      rw[wU (by have:=x.2.2;omega)]
      refine⟨trivial,(CallsIn.inRound l (callsIn_wide.2 (Yo1 (hgw hBl) x.2))).mono ?_⟩
      rintro e W1 ⟨rfl,hW1⟩
      have h9:W9 w.heap.size BS w2.heap.size (.slice (some ⟨b7,0,none⟩) zs.length cp) w W (o9 zs.length [45] pre) W1:=W9.below ⟨hBd,hBS,hBl,KeepsFrom.refl _ _,Kq.refl _ _ _⟩ hBl.size hW1
      have c41:W1.cell? ⟨by4,0,none⟩=some (.slice (some ⟨b7,0,none⟩) zs.length cp):=(h9.l.cell (p:=⟨by4,0,none⟩) hb4).trans c4
      have hxl:=Ynk x.2
      have hol:=Xun zs.length pre [45]
      have hos:=Xn2 zs.length [45] pre x
      have hsgl:([45]:List UInt8).length<=1:=by decide
      have hpl:pre.length<549755813888:=by omega
      obtain⟨ds,hds⟩:∃ds,ds=dec x.2.1:=⟨_,rfl⟩
      rw[<-hds] at hxl hos |-
      have hBn:BS≠w.heap.size:=by omega
      clear hds hBd hBS hW1
      gi_wp2
      . rename_i hx
        refine⟨trivial,(CallsIn.inRound l (callsIn_wide.2 (Yoi (hgw h9.l) (n:=9-ds.length) (by omega) (by omega)))).mono ?_⟩
        rintro e W2 ⟨rfl,hW2⟩
        have h9b:=h9.below h9.l.size hW2
        obtain⟨zr,hzr⟩:∃zr,zr=List.replicate (9-ds.length) (48:UInt8):=⟨_,rfl⟩
        have hzrl:zr.length<=9:=by rw[hzr,W1r];omega
        rw[<-hzr]
        rw[if_pos (by omega),<-hzr] at hos
        clear hzr
        gi_wp2
        refine⟨trivial,(CallsIn.inRound l (callsIn_wide.2 (h9b.wr zr h9b.l.size hBn (by omega)))).mono ?_⟩
        rintro e W3 ⟨rfl,h9c⟩
        gi_wp2
        refine⟨trivial,(CallsIn.inRound l (callsIn_wide.2 (h9c.wr ds h9c.l.size hBn (by simp only[W0d];omega)))).mono ?_⟩
        rintro e W4 ⟨rfl,h9d⟩
        gi_wp2
        exact⟨h9d.k,h9d.q,⟨by rw[hos];exact h9d.b,h9d.s⟩,h9d.l⟩
      . rename_i hx
        rw[if_neg (by omega),W4y] at hos
        refine⟨trivial,(CallsIn.inRound l (callsIn_wide.2 (h9.wr ds h9.l.size hBn (by omega)))).mono ?_⟩
        rintro e W4 ⟨rfl,h9d⟩
        gi_wp2
        exact⟨h9d.k,h9d.q,⟨by rw[hos];exact h9d.b,h9d.s⟩,h9d.l⟩
     case done =>
      rintro D ys W hD rfl ⟨⟨hBd,hBS⟩,hBl⟩ hK
      gi_wp2
      have hne:o9 zs.length [45] (b9 zs zs.length)=tx z:=by
       rw[Yeh _ _ _ (W0b _),W3f,W0x,htx]
       unfold tx
       rw[if_pos hneg]
      rw[hne] at hBd
      have hn0:tx z≠[]:=by
       unfold tx
       intro h
       exact Xwu _ (W7e.1 h).2
      refine⟨trivial,(callsIn_wide.2 (Any.Builder_String_k Ycd Yl1 w.heap.size w.heap.size (tx z) W hBd hn0)).mono ?_⟩
      rintro e W3 ⟨rfl,_,hb3,hok3⟩
      have hK3:=hok3 D _ hK (by intro h;cases h;have:=hBl.size;omega) (by intro c fz h;cases h)
      gi_wp2
      refine⟨by simp,.inl ⟨_,_,rfl,run_takeDeferred hK3,?_⟩⟩
      refine⟨_,results_tmp rfl _ _ _,?_⟩
      refine hfin (s:=tx z) ?_ rfl
      exact(hBl.trans hb3).trans (belowK_b (w:=w) (W0b _) W3 D _ _ (by omega) hK3 rfl rfl)
   . simp only[decide_eq_false hneg] at cA
     gi_wp2
     obtain⟨wb,hwb⟩:∃wb,wb=w.alloc (.cells #[.pointer none,.slice none 0 0] 152):=⟨_,rfl⟩
     have hB:Lib.IsBuilderF (rnB.t 72) (rnB.t 5) w.heap.size w.heap.size (Lib.byteCells []) wb:=by rw[hwb];exact .of (Lib.fresh_isBuilder _ _ w)
     have hbw:Below w.heap.size w wb:=by rw[hwb];exact(Below.refl _ w).alloc (W0b _) _
     have hlt:w.heap.size<wb.heap.size:=by rcases hB with h | h<;>exact h.lt
     rw[<-hwb]
     clear hwb
     refine⟨trivial,(Xor Fence.wide 7 trivial rfl _ _ _ _).mono ?_⟩
     rintro e w2 ⟨rfl,hw2⟩
     have hBS:w2.heap[wb.heap.size]?=some (.cells #[.slice (some ⟨b7,0,none⟩) zs.length cp] 27 (0,0)):=by rw[hw2];exact World.alloc_heap_new wb _
     have hb2:Below w.heap.size w w2:=by rw[hw2];exact hbw.alloc (by have:=hbw.size;omega) _
     have hB2:Lib.IsBuilderF (rnB.t 72) (rnB.t 5) w.heap.size w.heap.size (Lib.byteCells []) w2:=by rw[hw2];exact hB.alloc _
     have hs2:w2.heap.size=wb.heap.size+1:=by rw[hw2];simp
     have hcell2:∀j,j<zs.length->w2.cell? ⟨b7,0+j,none⟩=some (.int .u32 ((zs[j]?.getD ⟨0,by decide⟩).1:Int)):=λj hj=>(hb2.cell (p:=⟨b7,0+j,none⟩) hb7).trans (hcell j hj)
     have cBS:w2.cell? ⟨wb.heap.size,0,none⟩=some (.slice (some ⟨b7,0,none⟩) zs.length cp):=by simp[World.cell?,hBS]
     obtain⟨BS,hBSe⟩:∃BS,BS=wb.heap.size:=⟨_,rfl⟩
     rw[<-hBSe] at hBS hs2 cBS hlt |-
     clear hw2 hBSe hB hbw
     gi_wp2
     refine wpIn_rangeFunc_ownG rfl (by decide) (gf:=229) (lb:=#[.pointer (some ⟨BS,0,none⟩)]) rfl trivial (enters_of Tryz.func229 (by kernel_rfl) rfl)
      (Xm5 Fence.wide (8-1) trivial rfl (by decide) BS w.heap.size b7 0 cp zs hz9 w2 (by omega) (by omega) cBS hb7 hcell2) Kq.trans (λW l o o' hl h _ _=>Xvf W l o hl (by omega) (by omega) h o') (Below.refl _ _) (λ_=>rfl)
      (λpre W=>(Lib.IsBuilderF (rnB.t 72) (rnB.t 5) w.heap.size w.heap.size (Lib.byteCells (o9 zs.length [] pre)) W/\W.heap[BS]?=some (.cells #[.slice (some ⟨b7,0,none⟩) zs.length cp] 27 (0,0)))/\Below w.heap.size w W)
      (λ_ _ _=>False)
      (OwnFrom.and (Own.from (λs A B row hs hg hr=>⟨Xvj _ _ _ _ (λp=>Lib.byteCells (o9 zs.length [] p)) s A B row hs.1 hg hr,Xih hs.2 hg hr⟩) _) (ownFrom_below (W0b _) (by omega)))
      (λ_ _ _ _ _ hs _ _=>hs)
      ⟨⟨hB2,hBS⟩,hb2⟩
      (λx=>{ tmps:=#[t0,.pointer (some ⟨bx,0,none⟩),t2,t3,.pointer (some ⟨by4,0,none⟩),t5,t6,.pointer (some ⟨w.heap.size,0,none⟩),.int .i64 (x.1:Int),.int .u32 (x.2.1:Int),t10,t11,t12,t13,t14,t15,t16,t17,t18,t19,t20,t21,t22,t23,t24,t25,t26,t27,t28,t29,t30,t31,t32,t33,t34,t35,t36,t37,t38,t39,t40,t41,t42,t43,t44,t45,t46,t47,t48,t49,t50,.pointer (some ⟨bx,0,none⟩),.bool false,t53,.slice (some ⟨b7,0,none⟩) zs.length cp,.func (.func 229) #[] #[.pointer (some ⟨BS,0,none⟩)],.int .i64 (x.1:Int),.int .u32 (x.2.1:Int),t58,t59,t60,t61,t62,t63,t64,t65,t66,t67,t68,t69,t70,t71,t72,t73],defers:=[] }) ?assign ?body ?done ?stop
     case assign =>
      intro l x W K hK
      gi_wp2
      exact hK
     case stop =>
      rintro D c pre W _ _ h _
      exact h.elim
     case body =>
      rintro l pre x W ⟨⟨hBd,hBS⟩,hBl⟩ hlen
      gi_wp2
      rw[wU (by have:=x.2.2;omega)]
      refine⟨trivial,(CallsIn.inRound l (callsIn_wide.2 (Yo1 (hgw hBl) x.2))).mono ?_⟩
      rintro e W1 ⟨rfl,hW1⟩
      have h9:W9 w.heap.size BS w2.heap.size (.slice (some ⟨b7,0,none⟩) zs.length cp) w W (o9 zs.length [] pre) W1:=W9.below ⟨hBd,hBS,hBl,KeepsFrom.refl _ _,Kq.refl _ _ _⟩ hBl.size hW1
      have c41:W1.cell? ⟨by4,0,none⟩=some (.slice (some ⟨b7,0,none⟩) zs.length cp):=(h9.l.cell (p:=⟨by4,0,none⟩) hb4).trans c4
      have hxl:=Ynk x.2
      have hol:=Xun zs.length pre []
      have hos:=Xn2 zs.length [] pre x
      have hsgl:([]:List UInt8).length<=1:=by decide
      have hpl:pre.length<549755813888:=by omega
      obtain⟨ds,hds⟩:∃ds,ds=dec x.2.1:=⟨_,rfl⟩
      rw[<-hds] at hxl hos |-
      have hBn:BS≠w.heap.size:=by omega
      clear hds hBd hBS hW1
      gi_wp2
      . rename_i hx
        refine⟨trivial,(CallsIn.inRound l (callsIn_wide.2 (Yoi (hgw h9.l) (n:=9-ds.length) (by omega) (by omega)))).mono ?_⟩
        rintro e W2 ⟨rfl,hW2⟩
        have h9b:=h9.below h9.l.size hW2
        obtain⟨zr,hzr⟩:∃zr,zr=List.replicate (9-ds.length) (48:UInt8):=⟨_,rfl⟩
        have hzrl:zr.length<=9:=by rw[hzr,W1r];omega
        rw[<-hzr]
        rw[if_pos (by omega),<-hzr] at hos
        clear hzr
        gi_wp2
        refine⟨trivial,(CallsIn.inRound l (callsIn_wide.2 (h9b.wr zr h9b.l.size hBn (by omega)))).mono ?_⟩
        rintro e W3 ⟨rfl,h9c⟩
        gi_wp2
        refine⟨trivial,(CallsIn.inRound l (callsIn_wide.2 (h9c.wr ds h9c.l.size hBn (by simp only[W0d];omega)))).mono ?_⟩
        rintro e W4 ⟨rfl,h9d⟩
        gi_wp2
        exact⟨h9d.k,h9d.q,⟨by rw[hos];exact h9d.b,h9d.s⟩,h9d.l⟩
      . rename_i hx
        rw[if_neg (by omega),W4y] at hos
        refine⟨trivial,(CallsIn.inRound l (callsIn_wide.2 (h9.wr ds h9.l.size hBn (by omega)))).mono ?_⟩
        rintro e W4 ⟨rfl,h9d⟩
        gi_wp2
        exact⟨h9d.k,h9d.q,⟨by rw[hos];exact h9d.b,h9d.s⟩,h9d.l⟩
     case done =>
      rintro D ys W hD rfl ⟨⟨hBd,hBS⟩,hBl⟩ hK
      gi_wp2
      have hne:o9 zs.length [] (b9 zs zs.length)=tx z:=by
       rw[Yeh _ _ _ (W0b _),W3f,W0x,htx]
       unfold tx
       rw[if_neg (by omega)]
      rw[hne] at hBd
      have hn0:tx z≠[]:=by
       unfold tx
       intro h
       exact Xwu _ (W7e.1 h).2
      refine⟨trivial,(callsIn_wide.2 (Any.Builder_String_k Ycd Yl1 w.heap.size w.heap.size (tx z) W hBd hn0)).mono ?_⟩
      rintro e W3 ⟨rfl,_,hb3,hok3⟩
      have hK3:=hok3 D _ hK (by intro h;cases h;have:=hBl.size;omega) (by intro c fz h;cases h)
      gi_wp2
      refine⟨by simp,.inl ⟨_,_,rfl,run_takeDeferred hK3,?_⟩⟩
      refine⟨_,results_tmp rfl _ _ _,?_⟩
      refine hfin (s:=tx z) ?_ rfl
      exact(hBl.trans hb3).trans (belowK_b (w:=w) (W0b _) W3 D _ _ (by omega) hK3 rfl rfl)
theorem Xr5{z:Int}(hl:(dig z.natAbs).length<=274877906944): C0 101 [.d (dz z)] (·=.d (.str (tx z))):=by
 by_cases hz:z=0
 . subst hz
   have:tx 0=[48]:=by unfold tx;rw[if_neg (by decide),show Int.natAbs 0=0 from rfl,Xdv (by decide)];rfl
   rw[this];exact Xoz
 . exact Xso hz hl
end
end Go.Proofs.YtchflpokfamkhaaGreatDoor
namespace Go.Proofs.YtchflpokfamkhaaGreatDoor.P11
open Go Go.Vm Go.Num Go.Tow Go.Proofs.YtchflpokfamkhaaGreatDoor Go.Proofs.YtchflpokfamkhaaGreatDoor.P9 Go.Proofs.YtchflpokfamkhaaGreatDoor.R11
section
def fmtV(z:Int)(d:Nat): AV:=if (txt z d).length<=400 then .tup (.pr (.d (.str (txt z d))) (.d (.int .i64 0))) else .tup (.pr (.d (.str [])) (.d (.int .i64 3)))
abbrev RndOf(x:Nm)(d:Nat)(z:Int): Prop:=Xbo x.k x.t (scl x.k x.t x.a ((10^d:Int):Rat) hf) z
theorem dcT{p:Prop}(h:p): dc p=true:=Xaw.2 h
theorem dcF{p:Prop}(h:¬p): dc p=false:=W4c.2 λe=>h (Xaw.1 e)
theorem Ykp{z:Int}(hl:(dig z.natAbs).length<=274877906944): C0 100 [.d (.str (tx z)),.d (.str [45])] (·=.tup (.pr (.d (.str (dec z.natAbs))) (.b (dc (z<0))))):=by
 have hlen:=Xon z.natAbs
 have hT:Tx (tx z):=by
  by_cases h:z<0
  . rw[Xs7 h];show (45::dec z.natAbs).length<_;rw[W0r];omega
  . rw[Xs6 h];show (dec z.natAbs).length<_;omega
 have h:=Xnd (s:=tx z) (t:=[45]) hT (by decide)
 by_cases hz:z<0
 . have e:(tx z).take [(45:UInt8)].length=[45]:=by rw[Xs7 hz];rfl
   rw[if_pos e,show (tx z).drop [(45:UInt8)].length=dec z.natAbs by rw[Xs7 hz];rfl] at h
   exact h.mono λv hv=>by rw[hv,dcT e,dcT hz]
 . have e:¬(tx z).take [(45:UInt8)].length=[45]:=λe=>by
    rw[Xs6 hz] at e
    have hm:(45:UInt8)∈dec z.natAbs:=W6g (by rw[e];exact W0e.2 rfl)
    have:=(Ykl z.natAbs 45 hm).1
    exact absurd this (by decide)
   exact h.mono λv hv=>by rw[hv,if_neg e,dcF e,dcF hz,Xs6 hz]
theorem Xxs{x:Nm}{d:Nat}(H:Pk x)(hd:d<=60): C0 43 [.d (dN x),.d (.int .i64 d)] λv=>∃z,RndOf x d z/\(dig z.natAbs).length<=274877906944/\v=fmtV z d:=by
 refine En Tryz.func43 λ_ _ _=>?_
 refine Ca rfl (Yax H hd) λv hv=>?_
 obtain⟨z,rfl,hz,hl⟩:=hv
 have hlen:=Xon z.natAbs
 have hpl:=Yed d (dec z.natAbs)
 have hdp:=Xws z.natAbs
 obtain⟨s,hs⟩:∃s,s=dec z.natAbs:=⟨_,rfl⟩
 rw[<-hs] at hlen hpl hdp
 have hct:=Ykp hl
 rw[<-hs] at hct
 refine No rfl (by decide) ?_
 refine Ce rfl (Xr5 hl) ?_
 refine Ce rfl hct ?_
 obtain⟨q,hq⟩:∃q,q=pad d s:=⟨_,rfl⟩
 have hql:q.length=max (d+1) s.length:=by rw[hq,hpl]
 obtain⟨r,hr⟩:∃r,r=pt d q:=⟨_,rfl⟩
 have hrl:r.length<=q.length+1:=by
  rw[hr,pt];split
  . omega
  . rw[W0d,W0r,W0i,W2d];omega
 have htx:txt z d=(if z<0 then [45] else [])++r:=by rw[txt,hr,hq,hs]
 refine Cu none (λ(_:Unit)=>[(1,.d (.int .i64 d)),(8,.d (.str q)),(9,.b (dc (z<0)))]) (λ_=>[]) (λ_=>True) rfl ?_ λ_ _=>?_
 . refine By rfl (λh=>?_) λh=>?_
   . have h:((s.length:Nat):Int)<=d:=h
     refine Ar (d+1:Nat) rfl ?_
     refine Ar (d+1-s.length:Nat) rfl ?_
     refine Ce rfl (Xjy (by omega)) ?_
     refine Sc q rfl (by rw[hq];rfl) (by rw[W1r];omega) ?_
     exact Jn () [] rfl trivial
   . have h:¬((s.length:Nat):Int)<=d:=h
     have e:q=s:=by rw[hq,pad,show d+1-s.length=0 by omega];rfl
     rw[e]
     exact Jn () [] rfl trivial
 refine Cu none (λ(_:Unit)=>[(1,.d (.int .i64 d)),(8,.d (.str r)),(9,.b (dc (z<0)))]) (λ_=>[]) (λ_=>True) rfl ?_ λ_ _=>?_
 . refine By rfl (λh=>?_) λh=>?_
   . refine Dw rfl ?_
     refine Ar ((q.length-d:Nat):Int) rfl ?_
     refine Stk (q.length-d) _ rfl (by omega) rfl ?_
     refine Sc (q.take (q.length-d)++[46]) rfl rfl (by simp;omega) ?_
     refine Ar ((q.length-d:Nat):Int) rfl ?_
     refine Sdp (q.length-d) _ rfl (by omega) rfl ?_
     refine Sc r rfl (by rw[hr,pt,if_neg (by omega)];simp) (by simp;omega) ?_
     exact Jn () [] rfl trivial
   . have e:r=q:=by rw[hr,pt,if_pos (by omega)]
     rw[e]
     exact Jn () [] rfl trivial
 refine Cu none (λ(_:Unit)=>[(8,.d (.str (txt z d)))]) (λ_=>[]) (λ_=>True) rfl ?_ λ_ _=>?_
 . refine By rfl (λh=>?_) λh=>?_
   . refine Sc (txt z d) rfl (by rw[htx,if_pos h]) (by show 1+r.length<_;omega) ?_
     exact Jn () [] rfl trivial
   . rw[htx,if_neg h]
     exact Jn () [] rfl trivial
 refine By rfl (λh=>?_) λh=>?_
 . exact Rt rfl (.tup (.cons (.rf rfl) Xbg)) ⟨z,hz,hl,by rw[fmtV,if_neg (by omega)]⟩
 . exact Rt rfl (.tup (.cons (.rf rfl) Xbg)) ⟨z,hz,hl,by rw[fmtV,if_pos (by omega)]⟩
theorem dFmt_ok{x:Nm}{d:Nat}(H:Pk x)(hd:d<=60): C0 43 [.d (dN x),.d (.int .i64 d)] λv=>∃z,RndOf x d z/\(dig z.natAbs).length<=274877906944/\v=fmtV z d:=Xxs H hd
end
section
end
section
theorem ten_pos(n:Nat): (0:Rat)<((10^n:Int):Rat):=by
 have:(0:Int)<10^n:=W5x (by decide)
 exact Rat.intCast_pos.2 this
end
end Go.Proofs.YtchflpokfamkhaaGreatDoor.P11
namespace Go.Proofs.YtchflpokfamkhaaGreatDoor.R3
open Go Go.Vm Go.Num Go.Tow Go.Proofs.YtchflpokfamkhaaGreatDoor
end Go.Proofs.YtchflpokfamkhaaGreatDoor.R3
namespace Go.Proofs.YtchflpokfamkhaaGreatDoor.R7
open Go Go.Vm Go.Num Go.Tow Go.Proofs.YtchflpokfamkhaaGreatDoor
end Go.Proofs.YtchflpokfamkhaaGreatDoor.R7
namespace Go.Vm
open Go
end Go.Vm
namespace Go.Proofs.YtchflpokfamkhaaGreatDoor.R11
open Go Go.Vm Go.Num Go.Tow Go.Proofs.YtchflpokfamkhaaGreatDoor Go.Proofs.YtchflpokfamkhaaGreatDoor.P11
end Go.Proofs.YtchflpokfamkhaaGreatDoor.R11
namespace Go.Proofs.YtchflpokfamkhaaGreatDoor.P11
open Go Go.Vm Go.Num Go.Tow Go.Proofs.YtchflpokfamkhaaGreatDoor Go.Proofs.YtchflpokfamkhaaGreatDoor.P9 Go.Proofs.YtchflpokfamkhaaGreatDoor.R11 Go.Proofs.YtchflpokfamkhaaGreatDoor.R9
section
theorem Pk_rat{q:Rat}{n:Nat}(hq:Qs n q)(hn:n<=1700): Pk ⟨0,(),q⟩ :=
 ⟨W1a _,trivial,trivial,trivial,.inr ⟨rfl,λx hx=>by obtain rfl:=W0e.1 hx;exact hq.mono hn⟩⟩
abbrev two: Nm:=⟨0,(),(2:Rat)⟩
end
section
theorem txt_at{d:Nat}(l:List UInt8)(hl:l.length=d+1)(hd:∀b∈l,Xsv b): txt (Xx3 l:Nat) d=pt d l:=by
 unfold txt
 rw[if_neg (by omega),W1k,Yfo d l hl hd];rfl
theorem rnd_at{q:Rat}{d:Nat}{z:Int}(h1:0<=Xcr (q*((10^d:Int):Rat)+hf+-(z:Rat)))(h2:Xcr (q*((10^d:Int):Rat)+hf+-((z+1:Int):Rat))=-1): RndOf ⟨0,(),q⟩ d z:=⟨h1,h2⟩
end
end Go.Proofs.YtchflpokfamkhaaGreatDoor.P11

/- part 1 -/
import Derived.WalkKit
set_option linter.unusedVariables false
set_option linter.unusedSimpArgs false
namespace Go
abbrev W0a:= @Nat.le_refl
abbrev W0b:= @List.take_of_length_le
abbrev W0c:= @List.getElem?_eq_getElem
abbrev W0d:= @List.length_append
abbrev W0e:= @Nat.eq_of_beq_eq_true
abbrev W0f:= @List.mem_of_getElem?
abbrev W0g:= @Bool.and_eq_true
abbrev W0h:= @List.mem_singleton
abbrev W0i:= @List.length_map
abbrev W0j:= @List.length_take
abbrev W0k:= @Nat.le_trans
abbrev W0l:= @List.mem_cons_self
abbrev W0m:= @Nat.pow_le_pow_right
abbrev W0n:= @List.getElem?_eq_some_iff
abbrev W0o:= @List.eq_nil_of_length_eq_zero
abbrev W0p:= @List.mem_cons_of_mem
abbrev W0q:= @Nat.mul_le_mul_right
abbrev W0r:= @Nat.two_pow_pos
abbrev W0s:= @List.length_cons
abbrev W0t:= @Nat.mul_le_mul_left
abbrev W0u:= @List.getElem?_append_right
abbrev W0v:= @Nat.lt_of_lt_of_le
abbrev W0w:= @Nat.mul_assoc
abbrev W0x:= @Nat.pow_add
abbrev W0y:= @Nat.pow_succ
abbrev W0z:= @Nat.zero_le
abbrev W1a:= @List.getElem?_append_left
abbrev W1b:= @Classical.byContradiction
abbrev W1c:= @Nat.mul_add
abbrev W1d:= @List.drop_zero
abbrev W1e:= @List.getElem?_take
abbrev W1f:= @Int.natAbs_natCast
abbrev W1g:= @Nat.le_of_ble_eq_true
abbrev W1h:= @Nat.add_mul
abbrev W1i:= @Nat.mul_comm
abbrev W1j:= @List.mem_cons
abbrev W1k:= @Nat.zero_add
abbrev W1l:= @List.length_drop
abbrev W1m:= @Nat.mul_pos
abbrev W1n:= @List.all_eq_true
abbrev W1o:= @List.mem_append_right
abbrev W1p:= @List.getElem?_map
abbrev W1q:= @Nat.mod_lt
abbrev W1r:= @Int.fdiv_eq_ediv_of_nonneg
abbrev W1s:= @List.mem_append
abbrev W1t:= @Nat.lt_of_le_of_lt
abbrev W1u:= @Bool.not_eq_true'
abbrev W1v:= @List.length_replicate
abbrev W1w:= @List.getElem?_set_ne
abbrev W1x:= @List.getElem?_eq_none
abbrev W1y:= @List.getElem?_drop
abbrev W1z:= @List.drop_eq_nil_of_le
abbrev W2a:= @Rat.le_of_mul_le_mul_right
abbrev W2b:= @Nat.mul_le_mul
abbrev W2c:= @List.map_append
abbrev W2d:= @List.take_add_one
abbrev W2e:= @List.map_take
abbrev W2f:= @Nat.min_eq_left
abbrev W2g:= @Classical.not_not
abbrev W2h:= @Nat.le_of_lt
abbrev W2i:= @List.map_replicate
abbrev W2j:= @List.take_length
abbrev W2k:= @List.mem_append_left
abbrev W2l:= @List.getD_eq_getElem?_getD
abbrev W2m:= @Nat.pos_of_ne_zero
abbrev W2n:= @Nat.add_zero
abbrev W2o:= @Nat.div_add_mod
abbrev W2p:= @Int.natCast_mul
abbrev W2q:= @Rat.le_of_lt
abbrev W2r:= @Rat.mul_le_mul_of_nonneg_right
abbrev W2s:= @Nat.div_lt_iff_lt_mul
abbrev W2t:= @Nat.succ_mul
abbrev W2u:= @Nat.eq_zero_or_pos
abbrev W2v:= @Nat.pow_lt_pow_iff_right
abbrev W2w:= @List.getElem?_set_self
abbrev W2x:= @Int.toNat_of_nonneg
abbrev W2y:= @List.mem_map
abbrev W2z:= @Rat.mul_le_mul_of_nonneg_left
abbrev W3a:= @List.getElem?_of_mem
abbrev W3b:= @Nat.sub_self
abbrev W3c:= @Nat.mul_lt_mul_of_pos_right
abbrev W3d:= @Nat.mul_zero
abbrev W3e:= @List.drop_eq_getElem_cons
abbrev W3f:= @List.length_set
abbrev W3g:= @Option.isSome_iff_exists
abbrev W3h:= @Nat.not_lt_zero
abbrev W3i:= @Nat.mul_lt_mul''
abbrev W3j:= @Prod.ext
abbrev W3k:= @Rat.intCast_le_intCast
abbrev W3l:= @Array.getElem?_setIfInBounds
abbrev W3m:= @Nat.div_le_self
abbrev W3n:= @Nat.add_sub_cancel_left
abbrev W3o:= @Array.getElem?_eq_some_iff
abbrev W3p:= @Int.natAbs_mul
abbrev W3q:= @Bool.or_eq_true
abbrev W3r:= @Nat.add_sub_cancel
abbrev W3s:= @Nat.pow_lt_pow_right
abbrev W3t:= @Rat.intCast_mul
abbrev W3u:= @Array.getElem?_eq_none
abbrev W3v:= @Option.getD_some
abbrev W3w:= @Nat.mod_eq_of_lt
abbrev W3x:= @Iff.rfl
abbrev W3y:= @List.ext_getElem?
abbrev W3z:= @List.nil_append
abbrev W4a:= @Nat.mul_one
abbrev W4b:= @List.length_eq_zero_iff
abbrev W4c:= @Nat.le_mul_of_pos_right
abbrev W4d:= @Nat.le_of_not_lt
abbrev W4e:= @List.mem_of_mem_take
abbrev W4f:= @List.mem_of_mem_drop
abbrev W4g:= @Nat.div_eq_of_lt
abbrev W4h:= @List.map_cons
abbrev W4i:= @List.replicate_succ
abbrev W4j:= @List.length_nil
abbrev W4k:= @Option.map_some
abbrev W4l:= @List.append_nil
abbrev W4m:= @List.mem_or_eq_of_mem_set
abbrev W4n:= @List.take_append_drop
abbrev W4o:= @Nat.zero_mul
abbrev W4p:= @Nat.zero_lt_succ
abbrev W4q:= @Rat.zero_mul
abbrev W4r:= @Nat.add_assoc
abbrev W4s:= @Rat.mul_pos
abbrev W4t:= @Nat.div_lt_of_lt_mul
abbrev W4u:= @List.getElem?_replicate
abbrev W4v:= @Classical.axiomOfChoice
abbrev W4w:= @Nat.mul_left_comm
abbrev W4x:= @List.append_assoc
abbrev W4y:= @Nat.dvd_of_mod_eq_zero
abbrev W4z:= @List.map_drop
abbrev W5a:= @List.cons_append
abbrev W5b:= @Int.natCast_nonneg
abbrev W5c:= @List.take_zero
abbrev W5d:= @Int.natAbs_neg
abbrev W5e:= @Rat.div_mul_cancel
abbrev W5f:= @Nat.add_mul_mod_self_left
abbrev W5g:= @List.replicate_append_replicate
abbrev W5h:= @Bool.eq_iff_iff
abbrev W5i:= @Int.zero_mul
abbrev W5j:= @Rat.divInt_eq_div
abbrev W5k:= @List.take_replicate
abbrev W5l:= @Nat.le_add_right
abbrev W5m:= @Int.mul_one
abbrev W5n:= @Int.one_mul
abbrev W5o:= @List.mem_replicate
abbrev W5p:= @Rat.le_trans
abbrev W5q:= @List.getElem?_zipWith
abbrev W5r:= @Int.fmod_eq_emod_of_nonneg
abbrev W5s:= @List.map_inj_left
abbrev W5t:= @Nat.not_lt
abbrev W5u:= @Array.replicate_succ
abbrev W5v:= @Array.replicate_zero
abbrev W5w:= @Nat.pow_mul
abbrev W5x:= @List.drop_drop
abbrev W5y:= @List.eq_of_mem_replicate
abbrev W5z:= @List.append_toArray
abbrev W6a:= @Rat.sub_eq_add_neg
abbrev W6b:= @Rat.num_eq_zero
abbrev W6c:= @Rat.natCast_mul
abbrev W6d:= @Rat.intCast_add
abbrev W6e:= @List.take_left'
abbrev W6f:= @Int.sign_eq_one_of_pos
abbrev W6g:= @Nat.div_div_eq_div_mul
abbrev W6h:= @List.take_append_of_le_length
abbrev W6i:= @Bool.eq_false_iff
abbrev W6j:= @List.size_toArray
abbrev W6k:= @List.push_toArray
abbrev W6l:= @Nat.sub_zero
abbrev W6m:= @List.length_singleton
abbrev W6n:= @List.getElem_mem
abbrev W6o:= @Nat.add_mul_div_left
abbrev W6p:= @List.replicate_succ'
abbrev W6q:= @Nat.one_mul
abbrev W6r:= @Rat.le_refl
abbrev W6s:= @Nat.div_mul_le_self
abbrev W6t:= @List.length_pos_iff
abbrev W6u:= @Array.getElem?_eq_getElem
abbrev W6v:= @List.mem_filter
abbrev W6w:= @Array.getElem_append_left
abbrev W6x:= @List.range_succ
abbrev W6y:= @Int.mul_ne_zero
abbrev W6z:= @Nat.lt_or_gt_of_ne
abbrev W7a:= @Int.ofNat_lt
abbrev W7b:= @Nat.gcd_comm
abbrev W7c:= @Rat.add_zero
abbrev W7d:= @List.take_left
abbrev W7e:= @Nat.mul_div_cancel_left
abbrev W7f:= @Int.toNat_natCast
abbrev W7g:= @Nat.lt_irrefl
abbrev W7h:= @Nat.lt_succ_self
abbrev W7i:= @Int.neg_fdiv_neg
abbrev W7j:= @Nat.le_div_iff_mul_le
abbrev W7k:= @Nat.zero_lt_one
abbrev W7l:= @Int.natCast_pow
abbrev W7m:= @Int.ediv_emod_unique
abbrev W7n:= @Rat.intCast_neg
abbrev W7o:= @Int.mul_eq_zero
abbrev W7p:= @Bool.or_eq_true_iff
abbrev W7q:= @Nat.pos_iff_ne_zero
abbrev W7r:= @List.drop_left
abbrev W7s:= @List.foldr_nil
abbrev W7t:= @Int.le_refl
end Go

namespace Go.Vm
open Go
section
inductive D where
 | int (k:IntKind) (z:Int)
 | bool (c:Bool)
 | str (s:List UInt8)
 | raw (u:Value)
 | sl (sz:Nat) (xs:List D)
 | st (a:D)
 | pr (a c:D)
 deriving Inhabited
theorem D.ind{p:D->Prop}(leaf:∀x,(∀z,x≠.st z)->(∀u v,x≠.pr u v)->p x)(st:∀a,p a->p (.st a))(pr:∀a c,p a->p c->p (.pr a c)): ∀x,p x
 | .st a=>st a (D.ind leaf st pr a)
 | .pr a c=>pr a c (D.ind leaf st pr a) (D.ind leaf st pr c)
 | .int ..=>leaf _ nofun nofun
 | .bool _=>leaf _ nofun nofun
 | .str _=>leaf _ nofun nofun
 | .raw _=>leaf _ nofun nofun
 | .sl ..=>leaf _ nofun nofun
structure GW where
 w:World
 A:Nat->Nat->Prop
 hA:∀b i,A b i->b<w.heap.size
abbrev GW.size(W:GW): Nat:=W.w.heap.size
def Fr(W:GW)(b i:Nat)(v:Value): Prop:=W.w.cell? ⟨b,i,none⟩=some v/\¬W.A b i
def LeF(W W':GW): Prop:=∀b i v,Fr W b i v->Fr W' b i v
theorem LeF.refl(W:GW): LeF W W:=λ_ _ _ h=>h
theorem LeF.trans{a b c:GW}(h:LeF a b)(k:LeF b c): LeF a c:=λ_ _ _ x=>k _ _ _ (h _ _ _ x)
def inR(k:IntKind)(z:Int): Prop:=k.wrap z=z
def Xf4: Value->Bool
 | .agg _ | .tuple _=>false
 | _=>true
def D.size: D->Nat
 | .st a=>a.size
 | .pr a c=>a.size+c.size
 | _=>1
mutual
def D.At(W:GW): D->List Value->Prop
 | .int k z,cs=>cs=[.int k z]/\inR k z
 | .bool c,cs=>cs=[.bool c]
 | .str s,cs=>cs=[.string ⟨s.toArray⟩]/\s.length<9223372036854775808
 | .raw u,cs=>cs=[u]/\Xf4 u=true
 | .sl sz xs,cs=>∃p c,cs=[.slice p xs.length c]/\xs.length<=c/\c<9223372036854775808/\(xs=[]\/∃b off,p=some ⟨b,off,none⟩/\D.Row W b sz off xs)
 | .st a,cs=>D.At W a cs
 | .pr a c,cs=>∃u v,cs=u++v/\D.At W a u/\D.At W c v
def D.Row(W:GW)(b sz:Nat): Nat->List D->Prop
 | _,[]=>True
 | off,x::xs=>(∃e,D.At W x e/\x.size=sz/\∀j v,e[j]?=some v->Fr W b (off+j) v)/\D.Row W b sz (off+sz) xs
end
def D.ag: D->Bool
 | .st _=>true
 | _=>false
theorem D.at_len{W:GW}: ∀(x:D) {cs:List Value},D.At W x cs->cs.length=x.size
 | .int _ _,_,h=>by rw[h.1];rfl
 | .bool _,_,h=>by rw[show _=_ from h];rfl
 | .str _,_,h=>by rw[h.1];rfl
 | .raw _,_,h=>by rw[h.1];rfl
 | .sl _ _,_,⟨_,_,h,_⟩=>by rw[h];rfl
 | .st a,_,h=>by rw[D.size];exact D.at_len a h
 | .pr a c,_,⟨u,v,h,h1,h2⟩=>by rw[h,D.size,W0d,D.at_len a h1,D.at_len c h2]
theorem D.at_one{W:GW}: ∀(x:D) {cs:List Value},D.At W x cs->∀v∈cs,Xf4 v=true
 | .int _ _,_,h,v,hv=>by rw[h.1,W0h] at hv;subst hv;rfl
 | .bool _,_,h,v,hv=>by rw[show _=_ from h,W0h] at hv;subst hv;rfl
 | .str _,_,h,v,hv=>by rw[h.1,W0h] at hv;subst hv;rfl
 | .raw _,_,h,v,hv=>by rw[h.1,W0h] at hv;subst hv;exact h.2
 | .sl _ _,_,⟨_,_,h,_⟩,v,hv=>by rw[h,W0h] at hv;subst hv;rfl
 | .st a,_,h,v,hv=>D.at_one a h v hv
 | .pr a c,_,⟨u,v,h,h1,h2⟩,w,hw=>by
  rw[h] at hw
  rcases W1s.1 hw with hw | hw
  . exact D.at_one a h1 w hw
  . exact D.at_one c h2 w hw
mutual
theorem D.mono{W W':GW}(l:LeF W W'): ∀(x:D) {cs:List Value},D.At W x cs->D.At W' x cs
 | .int _ _,_,h=>h
 | .bool _,_,h=>h
 | .str _,_,h=>h
 | .raw _,_,h=>h
 | .sl sz xs,_,⟨p,c,h,h1,h2,h3⟩=>⟨p,c,h,h1,h2,h3.imp id λ⟨b,off,hp,hr⟩=>⟨b,off,hp,D.row_mono l b sz xs off hr⟩⟩
 | .st a,_,h=>D.mono l a h
 | .pr a c,_,⟨u,v,h,h1,h2⟩=>⟨u,v,h,D.mono l a h1,D.mono l c h2⟩
theorem D.row_mono{W W':GW}(l:LeF W W')(b sz:Nat): ∀(xs:List D) (off:Nat),D.Row W b sz off xs->D.Row W' b sz off xs
 | [],_,_=>trivial
 | x::xs,off,⟨⟨e,h1,hs,h2⟩,h3⟩=>⟨⟨e,D.mono l x h1,hs,λj v hj=>l _ _ _ (h2 j v hj)⟩,D.row_mono l b sz xs _ h3⟩
end
theorem D.row_get{W:GW}{b sz:Nat}: ∀ {xs:List D} {off:Nat},D.Row W b sz off xs->∀ {i:Nat} {x:D},xs[i]?=some x->∃e,D.At W x e/\x.size=sz/\∀j v,e[j]?=some v->Fr W b (off+i*sz+j) v
 | [],_,_,i,x,h=>by simp at h
 | y::xs,off,⟨h1,h2⟩,0,x,h=>by
  simp at h;subst h
  simpa using h1
 | y::xs,off,⟨h1,h2⟩,i+1,x,h=>by
  obtain⟨e,a,s,f⟩:=D.row_get h2 (i:=i) (x:=x) (by simpa using h)
  refine⟨e,a,s,λj v hj=>?_⟩
  have:=f j v hj
  rwa[show off+sz+i*sz+j=off+(i+1)*sz+j by rw[W2t];omega] at this
theorem D.row_of{W:GW}{b sz:Nat}: ∀ {xs:List D} {off:Nat},(∀i x,xs[i]?=some x->∃e,D.At W x e/\x.size=sz/\∀j v,e[j]?=some v->Fr W b (off+i*sz+j) v)->D.Row W b sz off xs
 | [],_,_=>trivial
 | y::xs,off,h=>⟨by simpa using h 0 y rfl,D.row_of λi x hi=>by
  obtain⟨e,a,s,f⟩:=h (i+1) x (by simpa using hi)
  refine⟨e,a,s,λj v hj=>?_⟩
  have:=f j v hj
  rwa[show off+(i+1)*sz+j=off+sz+i*sz+j by rw[W2t];omega] at this⟩
theorem D.row_sub{W:GW}{b sz off:Nat}{xs:List D}(h:D.Row W b sz off xs)(l m:Nat): D.Row W b sz (off+l*sz) ((xs.drop l).take m) :=
 D.row_of λi x hi=>by
  have h1:xs[l+i]?=some x:=by
   rw[W1e] at hi
   split at hi
   . rwa[W1y] at hi
   . cases hi
  obtain⟨e,a,s,f⟩:=D.row_get h h1
  refine⟨e,a,s,λj v hj=>?_⟩
  have:=f j v hj
  rwa[show off+(l+i)*sz+j=off+l*sz+i*sz+j by rw[W1h];omega] at this
theorem D.row_app{W:GW}{b sz off:Nat}{xs ys:List D}(h:D.Row W b sz off xs)(k:D.Row W b sz (off+xs.length*sz) ys): D.Row W b sz off (xs++ys) :=
 D.row_of λi x hi=>by
  by_cases hl:i<xs.length
  . rw[W1a hl] at hi
    exact D.row_get h hi
  . rw[W0u (by omega)] at hi
    obtain⟨e,a,s,f⟩:=D.row_get k hi
    refine⟨e,a,s,λj v hj=>?_⟩
    have:=f j v hj
    rwa[show off+xs.length*sz+(i-xs.length)*sz+j=off+i*sz+j from by
     obtain⟨q,rfl⟩:=Nat.le.dest (W5t.1 hl)
     rw[W3n,W1h];omega] at this
def mkv(g:Bool)(cs:List Value): Value:=if g then .agg cs.toArray else cs.headD undef
def D.zc: D->List Value
 | .int k _=>[.int k 0]
 | .bool _=>[.bool false]
 | .str _=>[.string ByteArray.empty]
 | .raw u=>[u]
 | .sl _ _=>[.slice none 0 0]
 | .st a=>a.zc
 | .pr a c=>a.zc++c.zc
def D.isZ: D->Bool
 | .int _ z=>z==0
 | .bool c=>!c
 | .str s=>s.isEmpty
 | .raw u=>Xf4 u
 | .sl _ xs=>xs.isEmpty
 | .st a=>a.isZ
 | .pr a c=>a.isZ&&c.isZ
theorem Yo4(k:IntKind): inR k 0:=by cases k<;>rfl
theorem D.at_zc{W:GW}: ∀(x:D),x.isZ=true->D.At W x x.zc
 | .int k z,h=>by
  have:z=0:=by simpa [D.isZ] using h
  subst this;exact⟨rfl,Yo4 k⟩
 | .bool c,h=>by
  have:c=false:=by simpa [D.isZ] using h
  subst this;rfl
 | .str s,h=>by
  have:s=[]:=by simpa [D.isZ] using h
  subst this;exact⟨rfl,by decide⟩
 | .raw u,h=>⟨rfl,h⟩
 | .sl sz xs,h=>by
  have:xs=[]:=by simpa [D.isZ] using h
  subst this;exact⟨none,0,rfl,W0a _,by decide,.inl rfl⟩
 | .st a,h=>D.at_zc a h
 | .pr a c,h=>by
  have:a.isZ=true/\c.isZ=true:=by simpa [D.isZ] using h
  exact⟨_,_,rfl,D.at_zc a this.1,D.at_zc c this.2⟩
theorem Xa1{w:World}{b:Nat}{o:Obj}(h:w.heap[b]?=some o): b<w.heap.size:=by
 by_cases hb:b<w.heap.size
 . exact hb
 . rw[W3u (by omega)] at h;cases h
theorem Xa9{w:World}{b:Nat}{cs:List Value}{T:TypeId}{fr:Nat×Nat}(h:w.heap[b]?=some (.cells cs.toArray T fr))(i:Nat): w.cell? ⟨b,i,none⟩=cs[i]?:=by
 simp[World.cell?,h]
theorem cell_of_heap{w w':World}{a:Addr}(h:w'.heap[a.block]?=w.heap[a.block]?): w'.cell? a=w.cell? a:=World.cell?_of_block (w:=w) h
theorem cell_lt{w:World}{a:Addr}{v:Value}(h:w.cell? a=some v): a.block<w.heap.size:=by
 unfold World.cell? at h
 by_cases hb:a.block<w.heap.size
 . exact hb
 . rw[W3u (by omega)] at h;cases h
def GW.push(W:GW)(o:Obj)(L:Nat->Prop): GW where
 w:=W.w.alloc o
 A:=λb i=>W.A b i\/(b=W.size/\L i)
 hA:=by
  rintro b i (h | ⟨rfl,_⟩)
  . rw[World.size_alloc];exact Nat.lt_succ_of_lt (W.hA b i h)
  . rw[World.size_alloc];exact W7h _
theorem Xek(w:World)(o:Obj)(k:Nat)(h:k<w.heap.size): (w.alloc o).heap[k]?=w.heap[k]?:=by
 show (w.heap.push o)[k]?=_
 rw[Array.getElem?_push,if_neg (by omega)]
theorem Xbc(w:World)(o:Obj): (w.alloc o).heap[w.heap.size]?=some o:=by
 show (w.heap.push o)[w.heap.size]?=_
 rw[Array.getElem?_push,if_pos rfl]
theorem Xeg(W:GW)(o:Obj)(L:Nat->Prop): LeF W (W.push o L):=λb i v h=>by
 have hb:b<W.w.heap.size:=cell_lt h.1
 refine⟨by rw[<-h.1];exact cell_of_heap (Xek _ _ _ hb),?_⟩
 rintro(h1 | ⟨h1,_⟩)
 . exact h.2 h1
 . exact absurd h1 (by show b≠W.w.heap.size;omega)
def Xh2(w:World)(b:Nat)(o:Obj): World:={ w with heap:=w.heap.setIfInBounds b o }
theorem Xk7(w:World)(b:Nat)(o:Obj)(k:Nat)(h:k≠b): (Xh2 w b o).heap[k]?=w.heap[k]?:=by
 simp only[Xh2,W3l]
 rw[if_neg (λe=>h e.symm)]
theorem Xa6(w:World)(b:Nat)(o:Obj)(h:b<w.heap.size): (Xh2 w b o).heap[b]?=some o:=by
 simp only[Xh2,W3l,if_true,h]
def GW.put(W:GW)(b:Nat)(o:Obj)(B:Nat->Prop): GW where
 w:=Xh2 W.w b o
 A:=λk i=>W.A k i/\(k=b->B i)
 hA:=λk i h=>by simpa [Xh2] using W.hA k i h.1
theorem Xg2(W:GW)(b:Nat)(c c':List Value)(T:TypeId)(B:Nat->Prop)(hb:W.w.heap[b]?=some (.cells c.toArray T (0,0)))(hs:∀i v,¬W.A b i->c[i]?=some v->c'[i]?=some v):
 LeF W (W.put b (.cells c'.toArray T (0,0)) B):=λk i v h=>by
 refine⟨?_,λh1=>h.2 h1.1⟩
 by_cases hk:k=b
 . subst hk
   have h1:=h.1
   rw[Xa9 hb] at h1
   rw[show (W.put k (.cells c'.toArray T (0,0)) B).w.cell? ⟨k,i,none⟩=c'[i]? from Xa9 (Xa6 _ _ _ (Xa1 hb)) i]
   exact hs i v h.2 h1
 . rw[<-h.1];exact cell_of_heap (Xk7 _ _ _ _ hk)
def spl(c:List Value)(o:Nat): List Value->List Value
 | []=>c
 | v::vs=>spl (c.set o v) (o+1) vs
theorem Xdj(c:List Value)(o:Nat)(vs:List Value): (spl c o vs).length=c.length:=by
 induction vs generalizing c o with
 | nil=>rfl
 | cons v vs ih=>simp[spl,ih]
theorem Xe9(c:List Value)(o:Nat)(vs:List Value)(i:Nat)(ho:o+vs.length<=c.length):
 (spl c o vs)[i]?=if o<=i/\i<o+vs.length then vs[i-o]? else c[i]?:=by
 induction vs generalizing c o with
 | nil=>simp only[spl,W4j];rw[if_neg (by omega)]
 | cons v vs ih =>
  simp only[spl,W0s] at ho |-
  rw[ih (c.set o v) (o+1) (by simp;omega)]
  by_cases h1:i=o
  . subst h1
    rw[if_neg (by omega),if_pos (by omega),W2w (by omega)]
    simp
  . by_cases h2:o+1<=i/\i<o+1+vs.length
    . rw[if_pos h2,if_pos (by omega),show i-o=(i-(o+1))+1 by omega]
      simp
    . rw[if_neg h2,if_neg (by omega),W1w (λe=>h1 e.symm)]
theorem Xpr(a m z vs:List Value)(h:vs.length=m.length): spl (a++(m++z)) a.length vs=a++(vs++z):=by
 apply W3y
 intro i
 rw[Xe9 _ _ _ _ (by simp;omega)]
 by_cases h1:i<a.length
 . rw[if_neg (by omega),W1a h1,W1a h1]
 . rw[W0u (l₁:=a) (by omega),W0u (l₁:=a) (by omega)]
   by_cases h2:i<a.length+vs.length
   . rw[if_pos (by omega),W1a (by omega)]
   . rw[if_neg (by omega),W0u (by omega),W0u (by omega),h]
section
variable{P:Program}
theorem Xro{w:World}{b:Nat}{c:List Value}{T:TypeId}{fr:Nat×Nat}(hb:w.heap[b]?=some (.cells c.toArray T fr))(i:Nat)(v:Value):
 w.setCell ⟨b,i,none⟩ v=Xh2 w b (.cells (c.set i v).toArray T fr):=by
 unfold World.setCell Xh2
 congr 1
 apply Array.ext_getElem?
 intro k
 simp only[Array.getElem?_modify,W3l]
 by_cases h:b=k
 . subst h
   rw[if_pos rfl,if_pos rfl,if_pos (Xa1 hb),hb]
   simp
 . rw[if_neg h,if_neg h]
theorem Xh1{w:World}{b:Nat}{o:Obj}(hb:w.heap[b]?=some o): Xh2 w b o=w:=by
 unfold Xh2
 have:w.heap.setIfInBounds b o=w.heap:=by
  apply Array.ext_getElem?
  intro k
  simp only[W3l]
  by_cases h:b=k
  . subst h;rw[if_pos rfl,if_pos (Xa1 hb),hb]
  . rw[if_neg h]
 rw[this]
theorem Xtp(w:World)(b:Nat)(o o':Obj): Xh2 (Xh2 w b o) b o'=Xh2 w b o':=by
 unfold Xh2
 congr 1
 apply Array.ext_getElem?
 intro k
 simp only[W3l,Array.size_setIfInBounds]
 by_cases h:b=k<;>simp[h]
theorem add0(b off k:Nat): (⟨b,off,none⟩:Addr).add k=⟨b,off+k,none⟩:=by
 unfold Addr.add;split
 . rename_i h;subst h;rfl
 . rfl
theorem Xdb{b off:Nat}{T:TypeId}(vs:List Value): ∀(w:World) (i:Nat) (c:List Value),w.heap[b]?=some (.cells c.toArray T (0,0)) ->
 off+i+vs.length<=c.length->(∀v∈vs,Xf4 v=true)->(storeCells ⟨b,off,none⟩ vs i).run P w=.ok () (Xh2 w b (.cells (spl c (off+i) vs).toArray T (0,0))):=by
 induction vs with
 | nil=>intro w i c hb _ _;simp only[storeCells,spl];rw[Xh1 hb];rfl
 | cons v vs ih =>
  intro w i c hb hl h1
  simp only[W0s] at hl
  have hc:w.cell? ⟨b,off+i,none⟩=c[off+i]?:=Xa9 hb _
  have hlt:off+i<c.length:=by omega
  rw[W0c hlt] at hc
  have hf:w.frozen? ⟨b,off+i,none⟩=false:=by simp[World.frozen?,hb]
  have hone:=h1 v (W0l ..)
  have hrun:(store ((⟨b,off,none⟩:Addr).add i) v).run P w=.ok () (Xh2 w b (.cells (c.set (off+i) v).toArray T (0,0))):=by
   rw[add0,<-Xro hb]
   cases v<;>simp_all[store,Sem.run,Xf4]
  simp only[storeCells]
  rw[Sem.run_bind,hrun]
  simp only[Result.andThen_ok]
  rw[ih _ (i+1) (c.set (off+i) v) (Xa6 _ _ _ (Xa1 hb)) (by simp;omega) (λu hu=>h1 u (W0p _ hu)),Xtp]
  rfl
theorem run_load{a:Addr}{w:World}{v:Value}(h:w.cell? a=some v): (load a).run P w=.ok v w:=by
 simp[load,Sem.run,h]
theorem run_loadCells{b off:Nat}{w:World}(cs:List Value): ∀(i:Nat) (acc:Array Value),(∀j v,cs[j]?=some v->w.cell? ⟨b,off+(i+j),none⟩=some v) ->
 (loadCellsFrom ⟨b,off,none⟩ i cs.length acc).run P w=.ok (acc++cs.toArray) w:=by
 induction cs with
 | nil=>intro i acc _;simp[loadCellsFrom,pure,Sem.run]
 | cons c cs ih =>
  intro i acc h
  have h0:=h 0 c rfl
  have hi:=ih (i+1) (acc.push c) (λj v hj=>by
   have:=h (j+1) v hj
   rwa[show off+(i+1+j)=off+(i+(j+1)) by omega])
  simp only[W0s,loadCellsFrom,bind,load,Sem.bind,add0,Sem.run]
  rw[show off+(i+0)=off+i from rfl] at h0
  rw[h0]
  simp only[pure,Sem.bind]
  rw[hi]
  simp
theorem Xtt{α β:Type}(s:Sem α)(f:α->Sem β)(w w':World)(x:α)(h:s.run P w=.ok x w'): (s.bind f).run P w=(f x).run P w':=by
 show ((s >>= f).run P w)=_
 rw[Sem.run_bind,h];rfl
end
end
section
inductive AV where
 | d (x:D)
 | q (p:Prop)
 | b (c:Bool)
 | ub (p:Prop)
 | nil
 | lit (sz:Nat) (xs:List D)
 | st (a:AV)
 | pr (a c:AV)
 | tup (a:AV)
 | at (x:D)
 | ptr (o off:Nat)
 | own (o sz lo n:Nat)
 | ow3 (o sz lo n:Nat)
 | gr (o sz:Nat) (xs:List D)
 | el (o sz j off:Nat)
 | fn (f o:Nat)
 | fm (f:Nat) (a:AV)
 | ap (o n:Nat)
 | cx (o lo c:Nat)
 | an
 | un
 deriving Inhabited
inductive Ob where
 | var (a:AV)
 | arr (sz:Nat) (xs:List D)
 | tok (n sz:Nat)
 | dead
abbrev Loc:=Nat->Option Nat×Nat
def ad: Option Nat->Option Addr
 | none=>none
 | some b=>some ⟨b,0,none⟩
def AV.C(W:GW)(θ:Loc): AV->List Value->Prop
 | .d x,cs=>D.At W x cs
 | .q p,cs=>∃c,cs=[.bool c]/\(c=true↔p)
 | .b c,cs=>cs=[.bool c]
 | .ub p,cs=>∃c,cs=[.bool c]/\(c=true->p)
 | .nil,cs=>∃p,cs=[.slice p 0 0]
 | .lit sz xs,cs=>∃p,cs=[.slice p xs.length xs.length]/\xs.length<9223372036854775808/\(xs=[]\/∃b,p=some ⟨b,0,none⟩/\D.Row W b sz 0 xs)
 | .st a,cs=>AV.C W θ a cs
 | .pr a c,cs=>∃u v,cs=u++v/\AV.C W θ a u/\AV.C W θ c v
 | .tup _,_=>False
 | .un,_=>False
 | .at x,cs=>∃b off e,cs=[.pointer (some ⟨b,off,none⟩)]/\D.At W x e/\∀j v,e[j]?=some v->Fr W b (off+j) v
 | .ptr o off,cs=>∃b,(θ o).1=some b/\cs=[.pointer (some ⟨b,off,none⟩)]
 | .own o sz lo n,cs=>∃b p,(θ o).1=some b/\lo+n<=(θ o).2/\(θ o).2<9223372036854775808/\cs=[.slice p n ((θ o).2-lo)]/\(lo=0\/lo<(θ o).2->p=some ⟨b,lo*sz,none⟩)
 | .ow3 o sz lo n,cs=>∃b p,(θ o).1=some b/\lo+n<=(θ o).2/\(θ o).2<9223372036854775808/\cs=[.slice p n n]/\(lo=0\/0<n->p=some ⟨b,lo*sz,none⟩)
 | .gr o sz xs,cs=>∃p,cs=[.slice p xs.length (θ o).2]/\((θ o).2=0\/p=ad (θ o).1)/\xs.length<=(θ o).2/\(θ o).2<9223372036854775808/\(xs=[]\/∃b,(θ o).1=some b/\D.Row W b sz 0 xs)
 | .el o sz j off,cs=>∃b,(θ o).1=some b/\cs=[.pointer (some ⟨b,j*sz+off,none⟩)]
 | .fn f o,cs=>∃b,(θ o).1=some b/\cs=[.func (.func f) #[] #[.pointer (some ⟨b,0,none⟩)]]
 | .fm f a,cs=>∃vs:List Value,AV.C W θ a vs/\cs=[.func (.func f) #[] vs.toArray]
 | .ap o n,cs=>∃b,(θ o).1=some b/\(θ o).2=n/\cs=[.pointer (some ⟨b,0,none⟩)]
 | .cx o lo c,cs=>cs=[.int .i64 c]/\(θ o).2=lo+c
 | .an,cs=>∃p n c,cs=[.slice p n c]
def AV.size: AV->Nat
 | .d x=>x.size
 | .st a=>a.size
 | .pr a c=>a.size+c.size
 | _=>1
def AV.ag: AV->Bool
 | .d x=>x.ag
 | .st _=>true
 | _=>false
theorem AV.c_len{W:GW}{θ:Loc}: ∀(a:AV) {cs:List Value},AV.C W θ a cs->cs.length=a.size
 | .d x,_,h=>D.at_len x h
 | .q _,_,⟨_,h,_⟩=>by rw[h];rfl
 | .b _,_,h=>by rw[show _=_ from h];rfl
 | .ub _,_,⟨_,h,_⟩=>by rw[h];rfl
 | .nil,_,⟨_,h⟩=>by rw[h];rfl
 | .lit ..,_,⟨_,h,_⟩=>by rw[h];rfl
 | .st a,_,h=>by rw[AV.size];exact AV.c_len a h
 | .pr a c,_,⟨u,v,h,h1,h2⟩=>by rw[h,AV.size,W0d,AV.c_len a h1,AV.c_len c h2]
 | .tup _,_,h=>h.elim
 | .un,_,h=>h.elim
 | .at _,_,⟨_,_,_,h,_⟩=>by rw[h];rfl
 | .ptr _ _,_,⟨_,_,h⟩=>by rw[h];rfl
 | .own ..,_,⟨_,_,_,_,_,h,_⟩=>by rw[h];rfl
 | .ow3 ..,_,⟨_,_,_,_,_,h,_⟩=>by rw[h];rfl
 | .gr ..,_,⟨_,h,_⟩=>by rw[h];rfl
 | .el ..,_,⟨_,_,h⟩=>by rw[h];rfl
 | .fn ..,_,⟨_,_,h⟩=>by rw[h];rfl
 | .fm ..,_,⟨_,_,h⟩=>by rw[h];rfl
 | .ap ..,_,⟨_,_,_,h⟩=>by rw[h];rfl
 | .cx ..,_,⟨h,_⟩=>by rw[h];rfl
 | .an,_,⟨_,_,_,h⟩=>by rw[h];rfl
theorem AV.c_one{W:GW}{θ:Loc}: ∀(a:AV) {cs:List Value},AV.C W θ a cs->∀v∈cs,Xf4 v=true
 | .d x,_,h=>D.at_one x h
 | .q _,_,⟨_,h,_⟩=>by rw[h];simp[Xf4]
 | .b _,_,h=>by rw[show _=_ from h];simp[Xf4]
 | .ub _,_,⟨_,h,_⟩=>by rw[h];simp[Xf4]
 | .nil,_,⟨_,h⟩=>by rw[h];simp[Xf4]
 | .lit ..,_,⟨_,h,_⟩=>by rw[h];simp[Xf4]
 | .st a,_,h=>AV.c_one a h
 | .pr a c,_,⟨u,v,h,h1,h2⟩=>by
  intro w hw
  rw[h] at hw
  rcases W1s.1 hw with hw | hw
  . exact AV.c_one a h1 w hw
  . exact AV.c_one c h2 w hw
 | .tup _,_,h=>h.elim
 | .un,_,h=>h.elim
 | .at _,_,⟨_,_,_,h,_⟩=>by rw[h];simp[Xf4]
 | .ptr _ _,_,⟨_,_,h⟩=>by rw[h];simp[Xf4]
 | .own ..,_,⟨_,_,_,_,_,h,_⟩=>by rw[h];simp[Xf4]
 | .ow3 ..,_,⟨_,_,_,_,_,h,_⟩=>by rw[h];simp[Xf4]
 | .gr ..,_,⟨_,h,_⟩=>by rw[h];simp[Xf4]
 | .el ..,_,⟨_,_,h⟩=>by rw[h];simp[Xf4]
 | .fn ..,_,⟨_,_,h⟩=>by rw[h];simp[Xf4]
 | .fm ..,_,⟨_,_,h⟩=>by rw[h];simp[Xf4]
 | .ap ..,_,⟨_,_,_,h⟩=>by rw[h];simp[Xf4]
 | .cx ..,_,⟨h,_⟩=>by rw[h];simp[Xf4]
 | .an,_,⟨_,_,_,h⟩=>by rw[h];simp[Xf4]
def AV.ids: AV->Nat->Prop
 | .st a,i=>a.ids i
 | .pr a c,i=>a.ids i\/c.ids i
 | .tup a,i=>a.ids i
 | .ptr o _,i=>i=o
 | .own o _ _ _,i=>i=o
 | .ow3 o _ _ _,i=>i=o
 | .gr o _ _,i=>i=o
 | .el o _ _ _,i=>i=o
 | .fn _ o,i=>i=o
 | .fm _ a,i=>a.ids i
 | .ap o _,i=>i=o
 | .cx o _ _,i=>i=o
 | _,_=>False
theorem AV.c_mono{W W':GW}{θ θ':Loc}(l:LeF W W'): ∀(a:AV) {cs:List Value},(∀i,a.ids i->θ' i=θ i)->AV.C W θ a cs->AV.C W' θ' a cs
 | .d x,_,_,h=>D.mono l x h
 | .q _,_,_,h=>h
 | .b _,_,_,h=>h
 | .ub _,_,_,h=>h
 | .nil,_,_,h=>h
 | .lit sz xs,_,_,⟨p,h1,h2,h3⟩=>⟨p,h1,h2,h3.imp_right λ⟨b',h4,h5⟩=>⟨b',h4,D.row_mono l b' sz xs 0 h5⟩⟩
 | .st a,_,hi,h=>AV.c_mono l a hi h
 | .pr a c,_,hi,⟨u,v,h,h1,h2⟩=>⟨u,v,h,AV.c_mono l a (λi x=>hi i (.inl x)) h1,AV.c_mono l c (λi x=>hi i (.inr x)) h2⟩
 | .tup _,_,_,h=>h
 | .un,_,_,h=>h
 | .at x,_,_,⟨b1,off,e,h,h1,h2⟩=>⟨b1,off,e,h,D.mono l x h1,λj v hj=>l _ _ _ (h2 j v hj)⟩
 | .ptr o _,_,hi,⟨b1,h1,h2⟩=>⟨b1,by rw[hi o rfl];exact h1,h2⟩
 | .own o ..,_,hi,⟨b1,p,h1,h2,h5,h3,h4⟩=>by
  have e:=hi o rfl
  exact⟨b1,p,by rw[e];exact h1,by rw[e];exact h2,by rw[e];exact h5,by rw[e];exact h3,by rw[e];exact h4⟩
 | .ow3 o ..,_,hi,⟨b1,p,h1,h2,h5,h3,h4⟩=>by
  have e:=hi o rfl
  exact⟨b1,p,by rw[e];exact h1,by rw[e];exact h2,by rw[e];exact h5,h3,h4⟩
 | .gr o _ xs,_,hi,⟨p,h1,h0,h2,h3,h4⟩=>by
  have e:=hi o rfl
  refine⟨p,by rw[e];exact h1,by rw[e];exact h0,by rw[e];exact h2,by rw[e];exact h3,?_⟩
  rw[e]
  exact h4.imp id λ⟨b1,hb,hr⟩=>⟨b1,hb,D.row_mono l b1 _ xs 0 hr⟩
 | .el o ..,_,hi,⟨b1,h1,h2⟩=>⟨b1,by rw[hi o rfl];exact h1,h2⟩
 | .fn _ o,_,hi,⟨b1,h1,h2⟩=>⟨b1,by rw[hi o rfl];exact h1,h2⟩
 | .fm _ a,_,hi,⟨vs,h1,h2⟩=>⟨vs,AV.c_mono l a hi h1,h2⟩
 | .ap o _,_,hi,⟨b1,h1,h2,h3⟩=>⟨b1,by rw[hi o rfl];exact h1,by rw[hi o rfl];exact h2,h3⟩
 | .cx o _ _,_,hi,⟨h1,h2⟩=>⟨h1,by rw[hi o rfl];exact h2⟩
 | .an,_,_,h=>h
def AV.V1(W:GW)(θ:Loc)(a:AV)(v:Value): Prop:=∃cs,AV.C W θ a cs/\v=mkv a.ag cs
def AV.T(W:GW)(θ:Loc): AV->List Value->Prop
 | .pr a c,v::vs=>AV.V1 W θ a v/\AV.T W θ c vs
 | .un,[]=>True
 | a,[v]=>AV.V1 W θ a v
 | _,_=>False
def AV.V(W:GW)(θ:Loc): AV->Value->Prop
 | .tup a,v=>∃vs:List Value,v=.tuple vs.toArray/\AV.T W θ a vs
 | .un,v=>v=undef
 | a,v=>AV.V1 W θ a v
theorem AV.V1.mono{W W':GW}{θ θ':Loc}(l:LeF W W'){a:AV}{v:Value}(hi:∀i,a.ids i->θ' i=θ i)(h:AV.V1 W θ a v): AV.V1 W' θ' a v :=
 let ⟨cs,hc,e⟩:=h;⟨cs,AV.c_mono l a hi hc,e⟩
theorem AV.T.mono{W W':GW}{θ θ':Loc}(l:LeF W W'): ∀ {a:AV} {vs:List Value},(∀i,a.ids i->θ' i=θ i)->AV.T W θ a vs->AV.T W' θ' a vs:=by
 intro a
 induction a with
 | pr a c _ ih =>
  intro vs hi h
  match vs,h with
  | v::vs,h=>exact⟨h.1.mono l λi x=>hi i (.inl x),ih (λi x=>hi i (.inr x)) h.2⟩
 | un =>
  intro vs hi h
  match vs,h with
  | [],h=>exact h
  | [v],h=>exact AV.V1.mono l hi h
 | _ =>
  intro vs hi h
  match vs,h with
  | [v],h=>exact AV.V1.mono l hi h
theorem AV.V.mono{W W':GW}{θ θ':Loc}(l:LeF W W'){a:AV}{v:Value}(hi:∀i,a.ids i->θ' i=θ i)(h:AV.V W θ a v): AV.V W' θ' a v:=by
 cases a with
 | tup a=>obtain⟨vs,e,h⟩:=h;exact⟨vs,e,h.mono l hi⟩
 | un=>exact h
 | _=>exact AV.V1.mono l hi h
def Ob.R(W:GW)(θ:Loc)(o:Nat): Ob->Prop
 | .var a=>∃b cs T,(θ o).1=some b/\W.w.heap[b]?=some (.cells (cs:List Value).toArray T (0,0))/\AV.C W θ a cs/\∀i,W.A b i
 | .arr sz xs=>∃b cs T,(θ o).1=some b/\W.w.heap[b]?=some (.cells (cs:List Value).toArray T (0,0))/\cs.length=(θ o).2*sz/\(θ o).2<9223372036854775808/\xs.length<=(θ o).2 /\
  (∀i x,xs[i]?=some x->∃e,D.At W x e/\x.size=sz/\∀j v,e[j]?=some v->cs[i*sz+j]?=some v)/\∀i,W.A b i
 | .tok n sz=>n<=(θ o).2/\(θ o).2<9223372036854775808/\(((θ o).1=none/\(θ o).2=0) \/
  ∃b cs T,(θ o).1=some b/\W.w.heap[b]?=some (.cells (cs:List Value).toArray T (0,0))/\cs.length=(θ o).2*sz/\∀i,n*sz<=i->W.A b i)
 | .dead=>True
def Ob.live: Ob->Bool
 | .dead=>false
 | _=>true
def Ob.ids: Ob->Nat->Prop
 | .var a,i=>a.ids i
 | _,_=>False
theorem Ob.R.keep{W W':GW}{θ θ':Loc}(l:LeF W W'){o:Nat}{x:Ob}(ho:θ' o=θ o)(hi:∀i,x.ids i->θ' i=θ i)(h:x.R W θ o)
 (hk:x.live=true->∀b,(θ o).1=some b->W'.w.heap[b]?=W.w.heap[b]?/\∀i,W.A b i->W'.A b i):x.R W' θ' o:=by
 cases x with
 | var a =>
  obtain⟨b,cs,T,h1,h2,h3,h4⟩:=h
  have k:=hk rfl b h1
  exact⟨b,cs,T,by rw[ho];exact h1,by rw[k.1];exact h2,AV.c_mono l a hi h3,λi=>k.2 i (h4 i)⟩
 | arr sz xs =>
  obtain⟨b,cs,T,h1,h2,h3,h4,h5,h6,h7⟩:=h
  have k:=hk rfl b h1
  exact⟨b,cs,T,by rw[ho];exact h1,by rw[k.1];exact h2,by rw[ho];exact h3,by rw[ho];exact h4,by rw[ho];exact h5,
   λi x hx=>let ⟨e,e1,e2,e3⟩:=h6 i x hx;⟨e,D.mono l x e1,e2,e3⟩,λi=>k.2 i (h7 i)⟩
 | tok n sz =>
  obtain⟨h0,h1,h2⟩:=h
  refine⟨by rw[ho];exact h0,by rw[ho];exact h1,?_⟩
  rw[ho]
  rcases h2 with h2 | ⟨b,cs,T,h2,h3,h4,h5⟩
  . exact .inl h2
  . have k:=hk rfl b h2
    exact .inr ⟨b,cs,T,h2,by rw[k.1];exact h3,h4,λi hi=>k.2 i (h5 i hi)⟩
 | dead=>trivial
abbrev Ev:=Nat->Option AV
abbrev Hp:=Nat->Option Ob
def upd{α:Type _}(f:Nat->Option α)(d:Nat)(x:α): Nat->Option α:=λt=>match Nat.beq t d with | true=>some x | false=>f t
theorem Xaj{α:Type _}(f:Nat->Option α)(d:Nat)(x:α): upd f d x d=some x:=by simp[upd]
theorem Ybo{a b:Nat}(h:¬a=b): Nat.beq a b=false:=by
 cases e:Nat.beq a b with
 | false=>rfl
 | true=>exact absurd (W0e e) h
theorem Xak{α:Type _}{f:Nat->Option α}{d t:Nat}{x:α}(h:t≠d): upd f d x t=f t:=by simp[upd,Ybo h]
theorem Xaf{α:Type _}{f:Nat->Option α}{d t:Nat}{x y:α}(h:upd f d x t=some y): (t=d/\y=x)\/(t≠d/\f t=some y):=by
 by_cases e:t=d
 . subst e;rw[Xaj] at h;injection h with h;exact .inl ⟨rfl,h.symm⟩
 . rw[Xak e] at h;exact .inr ⟨e,h⟩
theorem Xhc{α:Type _}{f:Nat->Option α}{d t:Nat}{x y:α}(h:d≠t): upd (upd f d x) t y=upd (upd f t y) d x:=by
 funext s
 by_cases h1:s=d
 . subst h1;rw[Xak h,Xaj,Xaj]
 . rw[Xak (f:=upd f t y) h1]
   by_cases h2:s=t
   . subst h2;rw[Xaj,Xaj]
   . rw[Xak h2,Xak h2,Xak h1]
def Xbe(g:Hp): List (Nat×Ob)->Hp
 | []=>g
 | (o,x)::l=>upd (Xbe g l) o x
structure Fm (W0 W:GW) (X:Nat->Prop):Prop where
 os:W.w.os=W0.w.os
 out:W.w.output=W0.w.output
 tape:W.w.tape=W0.w.tape
 size:W0.size<=W.size
 same:∀b,b<W0.size->¬X b->W.w.heap[b]?=W0.w.heap[b]?
 A:∀b,b<W0.size->¬X b->∀i,W.A b i↔W0.A b i
 le:LeF W0 W
theorem Fm.refl(W:GW)(X:Nat->Prop): Fm W W X:=⟨rfl,rfl,rfl,W0a _,λ_ _ _=>rfl,λ_ _ _ _=>W3x,LeF.refl W⟩
structure Obs (W:GW) (θ:Loc) (N:Nat->Prop) (g:Hp):Prop where
 r:∀o x,g o=some x->x.R W θ o
 new:∀o x b,g o=some x->x.live=true->(θ o).1=some b->N b
 dis:∀o o' x x' b,g o=some x->g o'=some x'->x.live=true->x'.live=true->(θ o).1=some b->(θ o').1=some b->o=o'
 ids:∀o x i,g o=some x->x.ids i->∃y,g i=some y
structure Rel (W:GW) (θ:Loc) (n:Nat) (e:Ev) (a:Act):Prop where
 defers:a.defers=[]
 size:a.tmps.size=n
 has:∀t v,e t=some v->AV.V W θ v (a.tmps.getD t undef)
structure Sat (W0:GW) (X:Nat->Prop) (n:Nat) (s:Ev×Hp) (a:Act) (W:GW) (θ:Loc):Prop where
 fm:Fm W0 W X
 rel:Rel W θ n s.1 a
 obs:Obs W θ (λb=>W0.size<=b\/X b) s.2
 ids:∀t v i,s.1 t=some v->v.ids i->∃y,s.2 i=some y
end
section
def D.comps: D->List D
 | .pr a c=>a::c.comps
 | x=>[x]
structure TI where
 z:D
 e:D:=.bool false
 eb:Nat:=0
 arr:Nat:=0
def Xha: List D->Nat->Nat
 | _,0=>0
 | [],_=>0
 | x::l,f+1=>x.size+Xha l f
def Xz6: TypeDesc->Bool
 | .struct _ | .array _ _=>true
 | _=>false
def Yna(P:Program)(E:TypeId)(z:D)(by':Nat): Prop:=∃i v,P.info? E=some i/\i.size=z.size/\i.bytes=by'/\i.zero=some v/\v.cells.toList=z.zc
def Yka(P:Program)(fs:Array Field)(l:List D): Prop :=
 fs.size=l.length/\∀f c,l[f]?=some c->∃g i,fs[f]?=some g/\g.offset=Xha l f/\P.info? g.type=some i/\i.size=c.size/\∃t,P.underlying g.type=some t/\Xz6 t=c.ag/\(c.ag=false->c.size=1)
structure TyOk (P:Program) (T:TypeId) (ti:TI):Prop where
 k:∀E k z,P.underlying T=some (.slice E)->ti.e=.int k z->P.underlying E=some (.int k)
 i:∃i v,P.info? T=some i/\i.size=ti.z.size/\i.zero=some v/\v.cells.toList=ti.z.zc/\v=mkv ti.z.ag ti.z.zc
 z:ti.z.isZ=true
 u:∃t,P.underlying T=some t/\Xz6 t=ti.z.ag/\match ti.z with
  | .int k _=>t=.int k
  | .bool _=>t=.bool
  | .str _=>t=.string
  | .sl sz _=>∃E,t=.slice E/\sz=ti.e.size/\ti.e.isZ=true/\Yna P E ti.e ti.eb
  | .st z=>if ti.arr=0 then ∃fs,t=.struct fs/\Yka P fs z.comps else ∃E,t=.array ti.arr E/\Yna P E ti.e ti.eb
  | _=>True
class Tab (P:Program) where
 tb:Nat->Option TI
 ok:∀T ti,tb T=some ti->TyOk P T ti
noncomputable def dc(p:Prop): Bool:=@decide p (Classical.propDecidable p)
theorem Xah{p:Prop}: dc p=true↔p:=by unfold dc;simp
def nb: D->AV
 | .bool c=>.b c
 | x=>.d x
def stN: AV->AV
 | .d x=>.d (.st x)
 | a=>.st a
def prN: AV->AV->AV
 | .d x,.d y=>.d (.pr x y)
 | a,c=>.pr a c
def zA: D->AV
 | .bool _=>.b false
 | .sl _ _=>.nil
 | .st x=>stN (zA x)
 | .pr x y=>prN (zA x) (zA y)
 | x=>.d x
open Classical in
noncomputable def toD: D->AV->Option D
 | _,.d x=>some x
 | _,.b c=>some (.bool c)
 | _,.q p=>some (.bool (decide p))
 | .sl sz _,.nil=>some (.sl sz [])
 | _,.lit sz xs=>some (.sl sz xs)
 | _,.gr _ sz xs=>some (.sl sz xs)
 | .st z,.st a=>match toD z a with
  | some x=>some (.st x)
  | none=>none
 | .pr z1 z2,.pr a c=>match toD z1 a,toD z2 c with
  | some x,some y=>some (.pr x y)
  | _,_=>none
 | _,_=>none
def fit(s:Nat)(g:Bool)(x:D): Bool:=Nat.beq x.size s&&(x.ag==g)
def Xze(s:Nat)(g:Bool)(a:AV): Bool:=Nat.beq a.size s&&(a.ag==g)
def Xpk(s:Nat)(g:Bool): D->Nat->Option D
 | .st x,0=>match fit s g (.st x) with
  | true=>some (.st x)
  | false=>Xpk s g x 0
 | .st x,off=>Xpk s g x off
 | .pr x y,off=>match Nat.blt off x.size with
  | true=>Xpk s g x off
  | false=>Xpk s g y (off-x.size)
 | x,0=>match fit s g x with
  | true=>some x
  | false=>none
 | _,_=>none
def Xrn(s:Nat)(g:Bool): AV->Nat->Option AV
 | .d x,off=>match Xpk s g x off with
  | some y=>some (nb y)
  | none=>none
 | .st a,0=>match Xze s g (.st a) with
  | true=>some (.st a)
  | false=>Xrn s g a 0
 | .st a,off=>Xrn s g a off
 | .pr a c,off=>match Nat.blt off a.size with
  | true=>Xrn s g a off
  | false=>Xrn s g c (off-a.size)
 | a,0=>match Xze s g a with
  | true=>some a
  | false=>none
 | _,_=>none
def Xsw(v:AV): D->Nat->Option AV
 | .st x,0=>match fit v.size v.ag (.st x) with
  | true=>some v
  | false=>match Xsw v x 0 with
   | some a=>some (stN a)
   | none=>none
 | .st x,off=>match Xsw v x off with
  | some a=>some (stN a)
  | none=>none
 | .pr x y,off=>match Nat.blt off x.size with
  | true=>match Xsw v x off with
   | some a=>some (prN a (.d y))
   | none=>none
  | false=>match Xsw v y (off-x.size) with
   | some a=>some (prN (.d x) a)
   | none=>none
 | x,0=>match fit v.size v.ag x with
  | true=>some v
  | false=>none
 | _,_=>none
def Xrj(v:AV): AV->Nat->Option AV
 | .d x,off=>Xsw v x off
 | .st x,0=>match Xze v.size v.ag (.st x) with
  | true=>some v
  | false=>match Xrj v x 0 with
   | some a=>some (stN a)
   | none=>none
 | .st x,off=>match Xrj v x off with
  | some a=>some (stN a)
  | none=>none
 | .pr x y,off=>match Nat.blt off x.size with
  | true=>match Xrj v x off with
   | some a=>some (prN a y)
   | none=>none
  | false=>match Xrj v y (off-x.size) with
   | some a=>some (prN x a)
   | none=>none
 | x,0=>match Xze v.size v.ag x with
  | true=>some v
  | false=>none
 | _,_=>none
def Yb2: D->Nat->Option D
 | .pr a _,0=>some a
 | .pr _ c,f+1=>Yb2 c f
 | x,0=>some x
 | _,_=>none
def Ydr: AV->Nat->Option AV
 | .pr a _,0=>some a
 | .pr _ c,i+1=>Ydr c i
 | .un,_=>none
 | a,0=>some a
 | _,_=>none
def asP: AV->Option Prop
 | .q p=>some p
 | .b c=>some (c=true)
 | .d (.bool c)=>some (c=true)
 | _=>none
noncomputable def Yks(op:BinOp)(k:IntKind)(a b:Int): Option AV :=
 match op with
 | .add=>some (.d (.int k (k.wrap (a+b))))
 | .sub=>some (.d (.int k (k.wrap (a-b))))
 | .mul=>some (.d (.int k (k.wrap (a*b))))
 | .quo=>if b=0 then none else some (.d (.int k (k.wrap (a.tdiv b))))
 | .rem=>if b=0 then none else some (.d (.int k (a.tmod b)))
 | .and=>some (.d (.int k (k.wrap (BitVec.ofInt k.bits a&&&BitVec.ofInt k.bits b).toNat)))
 | .or=>some (.d (.int k (k.wrap (BitVec.ofInt k.bits a|||BitVec.ofInt k.bits b).toNat)))
 | .xor=>some (.d (.int k (k.wrap (BitVec.ofInt k.bits a^^^BitVec.ofInt k.bits b).toNat)))
 | .andNot=>some (.d (.int k (k.wrap (BitVec.ofInt k.bits a &&& ~~~BitVec.ofInt k.bits b).toNat)))
 | .eql=>some (.b (dc (a=b)))
 | .neq=>some (.b (dc (a≠b)))
 | .lss=>some (.b (dc (a<b)))
 | .leq=>some (.b (dc (a<=b)))
 | .gtr=>some (.b (dc (a>b)))
 | .geq=>some (.b (dc (a>=b)))
 | _=>none
def Yd7: AV->Bool
 | .d (.sl _ _) | .nil | .lit _ _ | .own _ _ _ _ | .ow3 _ _ _ _ | .gr _ _ _=>true
 | _=>false
def Ymm: AV->Prop
 | .d (.sl _ xs)=>xs=[]
 | .gr _ _ xs=>xs=[]
 | .lit _ xs=>xs=[]
 | _=>True
noncomputable def Yaf(tz:Option TI)(op:BinOp)(y:Operand): AV->AV->Option AV
 | .d (.int k a),.d (.int k' b)=>match op with
  | .shl=>if b<0 then none else some (.d (.int k (k.wrap (a*2^(min b.toNat k.bits)))))
  | .shr=>if b<0 then none else some (.d (.int k (a.fdiv (2^(min b.toNat k.bits)))))
  | op=>if k=k' then Yks op k a b else none
 | .d (.str a),.d (.str b)=>match op with
  | .add=>if a.length+b.length<9223372036854775808 then some (.d (.str (a++b))) else none
  | .eql=>some (.b (dc (a=b)))
  | .neq=>some (.b (dc (a≠b)))
  | _=>none
 | a,c=>match tz with
  | some ⟨.bool _,_,_,_⟩=>match asP a,asP c with
   | some p,some q=>match op with
    | .eql=>some (.b (dc (p↔q)))
    | .neq=>some (.b (dc (¬(p↔q))))
    | _=>none
   | _,_=>none
  | some ⟨.sl _ _,_,_,_⟩=>match op,y,Yd7 a with
   | .eql,.const (.slice none 0 0),true=>some (.ub (Ymm a))
   | .neq,.const (.slice none 0 0),true=>some (.ub True)
   | _,_,_=>none
  | _=>none
def Yn5: AV->Option Nat
 | .d (.sl _ xs)=>some xs.length
 | .gr _ _ xs=>some xs.length
 | .lit _ xs=>some xs.length
 | .nil=>some 0
 | .own _ _ _ n=>some n
 | .ow3 _ _ _ n=>some n
 | _=>none
def slA(lo:Option Int)(hi:Option Int): AV->Option AV
 | .d (.sl sz xs)=>slL sz xs lo hi
 | .gr _ sz xs=>slL sz xs lo hi
 | .lit sz xs=>slL sz xs lo hi
 | .own o sz l n=>match lo,hi with
  | none,none=>some (.own o sz l n)
  | none,some h=>if 0<=h/\h<=n then some (.own o sz l h.toNat) else none
  | some i,none=>if 0<=i/\i<=n then some (.own o sz (l+i.toNat) (n-i.toNat)) else none
  | some i,some h=>if 0<=i/\i<=h/\h<=n then some (.own o sz (l+i.toNat) (h.toNat-i.toNat)) else none
 | .ow3 o sz l n=>match lo,hi with
  | none,none=>some (.ow3 o sz l n)
  | some i,none=>if 0<=i/\i<=n then some (.ow3 o sz (l+i.toNat) (n-i.toNat)) else none
  | _,_=>none
 | .nil=>match lo,hi with
  | none,none=>some .nil
  | none,some h=>if h=0 then some .nil else none
  | some i,none=>if i=0 then some .nil else none
  | some i,some h=>if i=0/\h=0 then some .nil else none
 | _=>none
where slL (sz:Nat) (xs:List D):Option Int->Option Int->Option AV
 | none,none=>some (.d (.sl sz xs))
 | none,some h=>if 0<=h/\h<=xs.length then some (.d (.sl sz (xs.take h.toNat))) else none
 | some i,none=>if 0<=i/\i<=xs.length then some (.d (.sl sz (xs.drop i.toNat))) else none
 | some i,some h=>if 0<=i/\i<=h/\h<=xs.length then some (.d (.sl sz ((xs.drop i.toNat).take (h.toNat-i.toNat)))) else none
def sl3(h m:Int): AV->Option AV
 | .own o sz l n=>if 0<=h/\h<=n/\m=h then some (.ow3 o sz l h.toNat) else none
 | .ow3 o sz l n=>if 0<=h/\h<=n/\m=h then some (.ow3 o sz l h.toNat) else none
 | _=>none
def Yng(s:Nat): AV->Bool
 | .d (.sl s' _)=>Nat.beq s' s
 | .gr _ s' _=>Nat.beq s' s
 | .lit s' _=>Nat.beq s' s
 | .own _ s' _ _=>Nat.beq s' s
 | .ow3 _ s' _ _=>Nat.beq s' s
 | _=>true
def Xjh(lo hi mx:Option Operand): List AV->Option (AV×Option Int×Option Int×Option Int)
 | [x]=>match lo,hi,mx with
  | none,none,none=>some (x,none,none,none)
  | _,_,_=>none
 | [x,.d (.int _ a)]=>match lo,hi,mx with
  | some _,none,none=>some (x,some a,none,none)
  | none,some _,none=>some (x,none,some a,none)
  | _,_,_=>none
 | [x,.d (.int _ a),.d (.int _ b)]=>match lo,hi,mx with
  | some _,some _,none=>some (x,some a,some b,none)
  | none,some _,some _=>some (x,none,some a,some b)
  | _,_,_=>none
 | _=>none
def ixA(ti:TI)(j:Int): AV->Option AV
 | .d (.sl sz xs)=>ixL sz xs
 | .gr _ sz xs=>ixL sz xs
 | .lit sz xs=>ixL sz xs
 | .own o sz l n=>if 0<=j/\j<n/\sz=ti.e.size then some (.el o sz (l+j.toNat) 0) else none
 | .ow3 o sz l n=>if 0<=j/\j<n/\sz=ti.e.size then some (.el o sz (l+j.toNat) 0) else none
 | _=>none
where ixL (sz:Nat) (xs:List D):Option AV :=
 if 0<=j/\sz=ti.e.size then match xs[j.toNat]? with
  | some u=>some (.at u)
  | none=>none
 else none
def Xzz: List D->Option (List UInt8)
 | []=>some []
 | .int .u8 z::l=>match Xzz l with
  | some s=>some (UInt8.ofNat z.toNat::s)
  | none=>none
 | _=>none
def Yki: AV->Option (List UInt8)
 | .d (.sl 1 xs) | .lit 1 xs=>Xzz xs
 | _=>none
def slS(s:List UInt8): Option Int->Option Int->Option AV
 | none,none=>some (.d (.str s))
 | none,some h=>if 0<=h/\h<=s.length then some (.d (.str (s.take h.toNat))) else none
 | some i,none=>if 0<=i/\i<=s.length then some (.d (.str (s.drop i.toNat))) else none
 | some i,some h=>if 0<=i/\i<=h/\h<=s.length then some (.d (.str ((s.drop i.toNat).take (h.toNat-i.toNat)))) else none
def Ybi: AV->Bool
 | .ptr _ _ | .d (.int ..) | .d (.str _) | .d (.bool _) | .d (.raw _) | .b _=>true
 | _=>false
def chA: List AV->Option AV
 | []=>none
 | [a]=>match Ybi a with
  | true=>some a
  | false=>none
 | a::l=>match Ybi a,chA l with
  | true,some c=>some (.pr a c)
  | _,_=>none
def okA: AV->Bool
 | .pr a c=>Ybi a&&okA c
 | a=>Ybi a
def unA: AV->List AV
 | .pr a c=>a::unA c
 | a=>[a]
def plain: AV->Bool
 | .pr _ _ | .tup _ | .un | .d (.pr _ _)=>false
 | _=>true
noncomputable def Yct(z:D)(sz:Nat): List AV->Option (List D)
 | []=>some []
 | a::l=>match toD z a with
  | none=>none
  | some x=>match plain a&&Nat.beq x.size sz&&Nat.beq a.size sz&&(a.ag||Nat.beq sz 1) with
   | false=>none
   | true=>match Yct z sz l with
    | none=>none
    | some xs=>some (x::xs)
def Xr3: Nat->List (Nat×Operand)->Bool
 | _,[]=>true
 | k,(i,_)::l=>Nat.beq i k&&Xr3 (k+1) l
def Xsk: AV->Nat->AV->Option AV
 | .pr a c,0,v=>match Xze a.size a.ag v with
  | true=>some (.pr v c)
  | false=>none
 | .pr a c,f+1,v=>match Xsk c f v with
  | some c'=>some (.pr a c')
  | none=>none
 | a,0,v=>match Xze a.size a.ag v with
  | true=>some v
  | false=>none
 | _,_,_=>none
def Xnx: AV->List (Nat×Operand)->List AV->Option AV
 | a,[],[]=>some a
 | a,(i,_)::l,v::vs=>match plain v,Xsk a i v with
  | true,some a'=>Xnx a' l vs
  | _,_=>none
 | _,_,_=>none
def zP: D->AV
 | .pr x y=>.pr (zA x) (zP y)
 | x=>zA x
def Xy1: AV->AV
 | .pr a c=>prN a (Xy1 c)
 | a=>a
def Yjs(ti:TI)(z:D): Bool:=match ti.arr with
 | 0=>true
 | _+1=>z.comps.all λc=>Nat.beq c.size ti.e.size&&(c.ag||Nat.beq c.size 1)
noncomputable def Fp(tb:Nat->Option TI)(op:Op)(args:List AV): Option AV :=
 match op with
 | .move _ | .assign _=>match args with
  | [a]=>some a
  | _=>none
 | .pick _ _ _=>match args with
  | [.b true,a,_]=>some a
  | [.b false,_,c]=>some c
  | _=>none
 | .extract _ i=>match args with
  | [.tup a]=>Ydr a i
  | _=>none
 | .unOp .not _ _=>match args with
  | [.b c]=>some (.b (!c))
  | [.q p]=>some (.q (¬p))
  | _=>none
 | .unOp .neg _ _=>match args with
  | [.d (.int k z)]=>some (.d (.int k (k.wrap (0-z))))
  | _=>none
 | .binOp op T _ y _=>match args with
  | [a,c]=>Yaf (tb T) op y a c
  | _=>none
 | .convert S T _=>match args with
  | [.d (.int _ z)]=>match tb S,tb T with
   | some _,some ⟨.int k _,_,_,_⟩=>some (.d (.int k (k.wrap z)))
   | _,_=>none
  | [a]=>match tb S,tb T with
   | some ⟨.sl _ _,.int .u8 _,_,_⟩,some ⟨.str _,_,_,_⟩=>match Yki a with
    | some s=>some (.d (.str s))
    | none=>none
   | _,_=>none
  | _=>none
 | .call ⟨.builtin .len,_,tys⟩=>match args,tys[0]? with
  | [a],some T=>match tb T with
   | some ⟨.sl _ _,_,_,_⟩=>match Yn5 a with
    | some n=>some (.d (.int .i64 n))
    | none=>none
   | some ⟨.str _,_,_,_⟩=>match a with
    | .d (.str s)=>some (.d (.int .i64 s.length))
    | _=>none
   | _=>none
  | _,_=>none
 | .call ⟨.builtin .cap,_,tys⟩=>match args,tys[0]? with
  | [.nil],some T=>match tb T with
   | some ⟨.sl _ _,_,_,_⟩=>some (.d (.int .i64 0))
   | _=>none
  | _,_=>none
 | .call ⟨.builtin .min,_,_⟩=>match args with
  | [.d (.int k x),.d (.int k' y)]=>if k=k' then some (.d (.int k (if y<x then y else x))) else none
  | _=>none
 | .call ⟨.builtin .max,_,_⟩=>match args with
  | [.d (.int k x),.d (.int k' y)]=>if k=k' then some (.d (.int k (if y>x then y else x))) else none
  | _=>none
 | .nilCheck _=>match args with
  | [.ptr o off]=>some (.ptr o off)
  | _=>none
 | .fieldAddr T _ f=>match tb T with
  | some ti=>match ti.z,ti.arr with
   | .st z,0=>match Nat.blt f z.comps.length with
    | false=>none
    | true=>match args with
     | [.at (.st x)]=>match Nat.beq (Xha x.comps f) (Xha z.comps f),Yb2 x f with
      | true,some y=>some (.at y)
      | _,_=>none
     | [.ptr o off]=>some (.ptr o (off+Xha z.comps f))
     | [.el o sz j off]=>some (.el o sz j (off+Xha z.comps f))
     | _=>none
   | _,_=>none
  | none=>none
 | .field T _ f=>match tb T with
  | some ti=>match ti.z,ti.arr with
   | .st z,0=>match args with
    | [.d (.st x)]=>match Xpk ((z.comps[f]?).getD (.bool false)).size ((z.comps[f]?).getD (.bool false)).ag x (Xha z.comps f),Nat.blt f z.comps.length with
     | some y,true=>some (nb y)
     | _,_=>none
    | [.st x]=>match Xrn ((z.comps[f]?).getD (.bool false)).size ((z.comps[f]?).getD (.bool false)).ag x (Xha z.comps f),Nat.blt f z.comps.length with
     | some y,true=>some y
     | _,_=>none
    | _=>none
   | _,_=>none
  | none=>none
 | .indexAddr T _ _=>match tb T,args with
  | some ti,[a,.d (.int _ j)]=>match ti.z,a with
   | .sl _ _,a=>ixA ti j a
   | .st _,.ptr o off=>if 0<=j/\j<ti.arr then some (.ptr o (off+j.toNat*ti.e.size)) else none
   | _,_=>none
  | _,_=>none
 | .slice T _ lo hi mx=>match tb T with
  | some ti=>match ti.z,Xjh lo hi mx args with
   | .sl _ _,some (a,l,h,none)=>match Yng ti.e.size a with
    | true=>slA l h a
    | false=>none
   | .sl _ _,some (a,none,some h,some m)=>if h=0/\m=0/\Yd7 a then some .nil else sl3 h m a
   | .str _,some (.d (.str s),l,h,none)=>slS s l h
   | _,_=>none
  | none=>none
 | .build T ps=>match tb T with
  | some ti=>match ti.z with
   | .st z=>match Yjs ti z,Xnx (zP z) ps.toList args with
    | true,some a=>some (stN (Xy1 a))
    | _,_=>none
   | _=>none
  | none=>none
 | .buildSlice T n ps=>match tb T with
  | some ti=>match ti.z with
   | .sl sz _=>match Nat.ble (n*sz) 16777216&&Nat.beq ps.size n&&Xr3 0 ps.toList,Yct ti.e sz args with
    | true,some xs=>some (.lit sz xs)
    | _,_=>none
   | _=>none
  | none=>none
 | .index T _ _=>match tb T,args with
  | some ⟨.str _,_,_,_⟩,[.d (.str s),.d (.int _ j)]=>if 0<=j then match s[j.toNat]? with
   | some b=>some (.d (.int .u8 b.toNat))
   | none=>none
   else none
  | _,_=>none
 | .makeFunc fn ⟨[]⟩ ⟨l⟩=>match fn,l,args with
  | fn,[],_=>some (.d (.raw (.func fn #[] #[])))
  | .func f,[_],[.ptr o 0]=>some (.fn f o)
  | .func f,_::_::_,_=>match chA args with
   | some a=>some (.fm f a)
   | none=>none
  | _,_,_=>none
 | _=>none
def Xh5(n:Nat)(ti:TI): Prop:=n*ti.eb<=140737488355328/\n<9223372036854775808
noncomputable def Xkl(g:Hp)(z:D)(sz:Nat): AV->Option (List D)
 | .own o s l n=>match g o with
  | some (.arr s' ys)=>if s'=sz/\s=sz/\l+n<=ys.length then some ((ys.drop l).take n) else none
  | _=>none
 | .ow3 o s l n=>match g o with
  | some (.arr s' ys)=>if s'=sz/\s=sz/\l+n<=ys.length then some ((ys.drop l).take n) else none
  | _=>none
 | c=>match toD z c with
  | some (.sl s ys)=>if s=sz then some ys else none
  | _=>none
open Classical in
noncomputable def Xlt(d:Nat)(g:Hp)(ti:TI)(sz:Nat)(ys:List D): AV->Option (AV×List (Nat×Ob))
 | .nil=>if Xh5 ys.length ti then some (.gr d sz ys,[(d,.tok ys.length sz)]) else none
 | .lit s xs=>if Xh5 (xs.length+ys.length) ti/\0<ys.length/\s=sz then some (.own d sz 0 (xs.length+ys.length),[(d,.arr sz (xs++ys))]) else if Xh5 (xs.length+ys.length) ti/\ys.length=0/\s=sz then some (.lit s xs,[]) else none
 | .gr o s xs=>match g o with
  | some (.tok n s')=>if Xh5 (xs.length+ys.length) ti/\n=xs.length/\s=sz/\s'=sz then some (.gr d sz (xs++ys),[(d,.tok (xs.length+ys.length) sz),(o,.dead)]) else none
  | _=>none
 | .own o s l n=>match g o with
  | some (.arr s' xs)=>if Xh5 (xs.length+ys.length) ti/\l=0/\n=xs.length/\s=sz/\s'=sz then some (.own d sz 0 (xs.length+ys.length),[(d,.arr sz (xs++ys)),(o,.dead)]) else if Xh5 (n+ys.length) ti/\l=0/\n+ys.length<=xs.length/\s=sz/\s'=sz then some (.own o sz 0 (n+ys.length),[(o,.arr sz (xs.take n++ys++xs.drop (n+ys.length)))]) else none
  | _=>none
 | .ow3 o s l n=>match g o with
  | some (.arr s' xs)=>if Xh5 (n+ys.length) ti/\l=0/\n<=xs.length/\s=sz/\s'=sz then if ys.length=0 then some (.ow3 o s 0 n,[]) else some (.own d sz 0 (n+ys.length),[(d,.arr sz (xs.take n++ys))]) else none
  | _=>none
 | _=>none
open Classical in
noncomputable def F(tb:Nat->Option TI)(d:Nat)(g:Hp)(op:Op)(args:List AV): Option (AV×List (Nat×Ob)) :=
 match op with
 | .load T _=>match tb T with
  | some ti=>match args with
   | [.at x]=>match fit ti.z.size ti.z.ag x with
    | true=>some (nb x,[])
    | false=>none
   | [.ptr o off]=>match g o with
    | some (.var a)=>match Xrn ti.z.size ti.z.ag a off with
     | some y=>some (y,[])
     | none=>none
    | _=>none
   | [.el o sz j off]=>match g o with
    | some (.arr sz' xs)=>if sz=sz' then match xs[j]? with
     | some x=>match Xpk ti.z.size ti.z.ag x off with
      | some y=>some (nb y,[])
      | none=>none
     | none=>none
     else none
    | _=>none
   | _=>none
  | none=>none
 | .store T _ _=>match tb T with
  | some ti=>match args with
   | [.ptr o off,v]=>match g o with
    | some (.var a)=>match plain v&&Nat.beq v.size ti.z.size,Xrj v a off with
     | true,some a'=>some (.ub True,[(o,.var a')])
     | _,_=>none
    | _=>none
   | [.el o sz j 0,v]=>match g o with
    | some (.arr sz' xs)=>match toD ti.z v with
     | some x=>if plain v=true/\sz=sz'/\v.size=sz/\x.size=sz/\ti.z.size=sz/\j<xs.length then some (.ub True,[(o,.arr sz (xs.set j x))]) else none
     | none=>none
    | _=>none
   | _=>none
  | none=>none
 | .alloc T=>match tb T,g d,args with
  | some ti,none,[]=>some (.ptr d 0,[(d,.var (zA ti.z))])
  | _,_,_=>none
 | .box T _=>match g d,args with
  | none,[a]=>match plain a with
   | true=>some (.ptr d 0,[(d,.var a)])
   | false=>none
  | _,_=>none
 | .makeSlice T _ _=>match tb T,g d,args with
  | some ti,none,[.d (.int _ m),.d (.int _ c)]=>match ti.z with
   | .sl sz _=>if 0<=m/\m<=c/\Xh5 c.toNat ti then some (.own d sz 0 m.toNat,[(d,.arr sz (List.replicate m.toNat ti.e))]) else none
   | _=>none
  | _,_,_=>none
 | .call ⟨.builtin .append,_,⟨[T,T']⟩⟩=>match args with
  | [a,c]=>if T=T' then match tb T,g d with
   | some ti,none=>match ti.z with
    | .sl sz _=>match Xkl g ti.z sz c with
     | some ys=>Xlt d g ti sz ys a
     | none=>none
    | _=>none
   | _,_=>none
   else none
  | _=>none
 | op=>match Fp tb op args with
  | some v=>some (v,[])
  | none=>none
end
section
variable{W:GW}{θ:Loc}
theorem Yko{a b:Nat}(h:Nat.blt a b=false): ¬a<b:=λhh=>by rw[show Nat.blt a b=true from Nat.ble_eq_true_of_le hh] at h;cases h
theorem Ykp: ∀ {x:D} {cs:List Value},D.At W x cs->AV.C W θ (nb x) cs
 | .bool c,cs,h=>h
 | .int ..,_,h | .str _,_,h | .raw _,_,h | .sl ..,_,h | .st _,_,h | .pr ..,_,h=>h
theorem Xob(x:D): (nb x).size=x.size:=by cases x<;>rfl
theorem Ydu(x:D): (nb x).ag=x.ag:=by cases x<;>rfl
theorem Xmg(x:D)(i:Nat): ¬(nb x).ids i:=by cases x<;>exact id
theorem Xx5{a:AV}{cs:List Value}(h:AV.C W θ a cs): AV.C W θ (stN a) cs:=by cases a<;>exact h
theorem Xkk{a:AV}{i:Nat}(h:(stN a).ids i): a.ids i:=by cases a<;>exact h
theorem Xpn(a:AV): (stN a).ag=true:=by cases a<;>rfl
theorem Xx4(a:AV): (stN a).size=a.size:=by cases a<;>rfl
theorem Xyo{a c:AV}{u v:List Value}(h:AV.C W θ a u)(k:AV.C W θ c v): AV.C W θ (prN a c) (u++v):=by
 unfold prN;split
 . exact⟨u,v,rfl,h,k⟩
 . exact⟨u,v,rfl,h,k⟩
theorem Xku{a c:AV}{i:Nat}(h:(prN a c).ids i): a.ids i\/c.ids i:=by
 unfold prN at h;split at h
 . exact h.elim
 . exact h
theorem Xyn(a c:AV): (prN a c).size=a.size+c.size:=by
 unfold prN;split<;>rfl
theorem Yhd(a c:AV): (prN a c).ag=false:=by
 unfold prN;split<;>rfl
theorem Ycj: ∀ {x:D},x.isZ=true->AV.C W θ (zA x) x.zc
 | .bool c,h=>by
  have:c=false:=by simpa [D.isZ] using h
  subst this;rfl
 | .sl ..,_=>⟨none,rfl⟩
 | .st x,h=>Xx5 (Ycj (x:=x) h)
 | .pr x y,h=>by
  have:x.isZ=true/\y.isZ=true:=by simpa [D.isZ] using h
  exact Xyo (Ycj this.1) (Ycj this.2)
 | .int k z,h=>D.at_zc (.int k z) h
 | .str s,h=>D.at_zc (.str s) h
 | .raw u,h=>D.at_zc (.raw u) h
theorem Xho: ∀(x:D) (i:Nat),¬(zA x).ids i
 | .bool _,_ | .sl ..,_ | .int ..,_ | .str _,_ | .raw _,_=>id
 | .st x,i=>λh=>Xho x i (Xkk h)
 | .pr x y,i=>λh=>(Xku h).elim (Xho x i) (Xho y i)
theorem Xgh: ∀(x:D),(zA x).size=x.size
 | .bool _ | .sl .. | .int .. | .str _ | .raw _=>rfl
 | .st x=>by rw[zA,Xx4,Xgh x];rfl
 | .pr x y=>by rw[zA,Xyn,Xgh x,Xgh y];rfl
theorem Yck: ∀(x:D),(zA x).ag=x.ag
 | .bool _ | .sl .. | .int .. | .str _ | .raw _=>rfl
 | .st x=>Xpn _
 | .pr x y=>Yhd _ _
theorem Xly: ∀ {z:D} {a:AV} {x:D} {cs:List Value},toD z a=some x->AV.C W θ a cs->D.At W x cs:=by
 intro z a
 induction a generalizing z with
 | d y=>intro x cs h hc;simp[toD] at h;subst h;exact hc
 | b c=>intro x cs h hc;simp[toD] at h;subst h;exact hc
 | q p =>
  intro x cs h hc
  simp only[toD,Option.some.injEq] at h;subst h
  obtain⟨c,e,hp⟩:=hc
  show cs=[.bool (@decide p (Classical.propDecidable p))]
  rw[e]
  cases c with
  | true=>simp[hp.1 rfl]
  | false =>
   have:¬p:=λhh=>by simpa using hp.2 hh
   simp[this]
 | nil =>
  intro x cs h hc
  cases z<;>simp[toD] at h
  subst h
  obtain⟨p,e⟩:=hc
  exact⟨p,0,e,W0a _,by decide,.inl rfl⟩
 | gr o sz xs =>
  intro x cs h hc
  simp[toD] at h;subst h
  obtain⟨p,e,h0,h1,h2,h3⟩:=hc
  refine⟨_,_,e,h1,h2,?_⟩
  rcases h0 with h0 | h0
  . exact .inl (W0o (by omega))
  . refine h3.imp id ?_
    rintro⟨blk,hb,hr⟩
    exact⟨blk,0,by rw[h0,hb];rfl,hr⟩
 | st a ih =>
  intro x cs h hc
  cases z<;>simp only[toD] at h<;>try cases h
  split at h
  . rename_i y hy
    injection h with h;subst h;exact show D.At W y cs from ih hy hc
  . cases h
 | pr a c iha ihc =>
  intro x cs h hc
  cases z<;>simp only[toD] at h<;>try cases h
  split at h
  . rename_i y y' hy hy'
    injection h with h;subst h
    obtain⟨u,v,e,h1,h2⟩:=hc
    exact⟨u,v,e,iha hy h1,ihc hy' h2⟩
  . cases h
 | lit sz xs =>
  intro x cs h hc
  simp[toD] at h;subst h
  obtain⟨p,e,h1,h2⟩:=hc
  exact⟨_,_,e,W0a _,h1,h2.imp_right λ⟨b,h3,h4⟩=>⟨b,0,h3,h4⟩⟩
 | _=>intro x cs h hc;simp[toD] at h
theorem Xms{s:Nat}{g:Bool}{x:D}(h:fit s g x=true): x.size=s/\x.ag=g:=by
 simp only[fit,W0g,beq_iff_eq] at h
 exact⟨W0e h.1,h.2⟩
theorem Xdf{s:Nat}{g:Bool}{x:AV}(h:Xze s g x=true): x.size=s/\x.ag=g:=by
 simp only[Xze,W0g,beq_iff_eq] at h
 exact⟨W0e h.1,h.2⟩
theorem Ygk{s:Nat}{g:Bool}{x y:D}(hx:∀z,x≠.st z)(hp:∀u v,x≠.pr u v){off:Nat}(h:Xpk s g x off=some y): off=0/\y=x/\x.size=s/\x.ag=g:=by
 unfold Xpk at h
 split at h
 . exact absurd rfl (hx _)
 . exact absurd rfl (hx _)
 . exact absurd rfl (hp _ _)
 . split at h
   . rename_i hf;injection h with h;exact⟨rfl,h.symm,Xms hf⟩
   . cases h
 . cases h
theorem Xtd{s:Nat}{g:Bool}: ∀ {x:D} {off:Nat} {y:D} {cs:List Value},Xpk s g x off=some y->D.At W x cs ->
 ∃u m v,cs=u++(m++v)/\u.length=off/\D.At W y m/\y.size=s/\y.ag=g:=by
 intro x
 induction x using D.ind with
 | st x ih =>
  intro off y cs h hc
  cases off with
  | zero =>
   simp only[Xpk] at h
   split at h
   . rename_i hf;injection h with h;subst h
     exact⟨[],cs,[],by simp,rfl,hc,Xms hf⟩
   . exact ih h hc
  | succ off=>simp only[Xpk] at h;exact ih h hc
 | pr a c iha ihc =>
  intro off y cs h hc
  obtain⟨u,v,e,h1,h2⟩:=hc
  simp only[Xpk] at h
  split at h
  . obtain⟨u1,m,v1,e1,r⟩:=iha h h1
    exact⟨u1,m,v1++v,by rw[e,e1];simp,r⟩
  . rename_i hb
    obtain⟨u1,m,v1,e1,e2,r⟩:=ihc h h2
    refine⟨u++u1,m,v1,by rw[e,e1];simp,?_,r⟩
    have hl:=D.at_len a h1
    have:¬off<a.size:=Yko hb
    rw[W0d,e2];omega
 | leaf x hx hp =>
  intro off y cs h hc
  obtain⟨e1,e2,e3,e4⟩:=Ygk hx hp h
  subst e2
  exact⟨[],cs,[],by simp,e1.symm,hc,e3,e4⟩
theorem Ygl{s:Nat}{g:Bool}{x y:AV}(hx:∀z,x≠.st z)(hp:∀u v,x≠.pr u v)(hd:∀u,x≠.d u){off:Nat}(h:Xrn s g x off=some y): off=0/\y=x/\x.size=s/\x.ag=g:=by
 unfold Xrn at h
 split at h
 . exact absurd rfl (hd _)
 . exact absurd rfl (hx _)
 . exact absurd rfl (hx _)
 . exact absurd rfl (hp _ _)
 . split at h
   . rename_i hf;injection h with h;exact⟨rfl,h.symm,Xdf hf⟩
   . cases h
 . cases h
theorem Yax{s:Nat}{g:Bool}: ∀ {x:AV} {off:Nat} {y:AV} {cs:List Value},Xrn s g x off=some y->AV.C W θ x cs ->
 ∃u m v,cs=u++(m++v)/\u.length=off/\AV.C W θ y m/\y.size=s/\y.ag=g/\∀i,y.ids i->x.ids i:=by
 intro x
 induction x with
 | d x =>
  intro off y cs h hc
  simp only[Xrn] at h
  split at h
  . rename_i z hz
    injection h with h;subst h
    obtain⟨u,m,v,e1,e2,e3,e4,e5⟩:=Xtd hz hc
    exact⟨u,m,v,e1,e2,Ykp e3,by rw[Xob,e4],by rw[Ydu,e5],λi hi=>absurd hi (Xmg _ i)⟩
  . cases h
 | st x ih =>
  intro off y cs h hc
  cases off with
  | zero =>
   simp only[Xrn] at h
   split at h
   . rename_i hf;injection h with h;subst h
     exact⟨[],cs,[],by simp,rfl,hc,(Xdf hf).1,(Xdf hf).2,λ_ h=>h⟩
   . exact ih h hc
  | succ off=>simp only[Xrn] at h;exact ih h hc
 | pr a c iha ihc =>
  intro off y cs h hc
  obtain⟨u,v,e,h1,h2⟩:=hc
  simp only[Xrn] at h
  split at h
  . obtain⟨u1,m,v1,e1,e2,e3,e4,e5,e6⟩:=iha h h1
    exact⟨u1,m,v1++v,by rw[e,e1];simp,e2,e3,e4,e5,λi hi=>.inl (e6 i hi)⟩
  . rename_i hb
    obtain⟨u1,m,v1,e1,e2,e3,e4,e5,e6⟩:=ihc h h2
    refine⟨u++u1,m,v1,by rw[e,e1];simp,?_,e3,e4,e5,λi hi=>.inr (e6 i hi)⟩
    have hl:=AV.c_len a h1
    have:¬off<a.size:=Yko hb
    rw[W0d,e2];omega
 | _ =>
  intro off y cs h hc
  obtain⟨e1,e2,e3,e4⟩:=Ygl (by nofun) (by nofun) (by nofun) h
  subst e2
  exact⟨[],cs,[],by simp,e1.symm,hc,e3,e4,λ_ h=>h⟩
def Put(W:GW)(θ:Loc)(v:AV)(vs cs:List Value)(off:Nat)(a':AV)(I:Nat->Prop): Prop :=
 ∃u m w,cs=u++(m++w)/\u.length=off/\m.length=v.size/\AV.C W θ a' (u++(vs++w))/\∀i,a'.ids i->I i\/v.ids i
theorem Put.st{v:AV}{vs cs:List Value}{off:Nat}{a':AV}{I:Nat->Prop}(h:Put W θ v vs cs off a' I): Put W θ v vs cs off (stN a') I:=by
 obtain⟨u,m,w,e1,e2,e3,e4,e5⟩:=h
 exact⟨u,m,w,e1,e2,e3,Xx5 e4,λi hi=>e5 i (Xkk hi)⟩
theorem Put.left{v:AV}{vs cs ds:List Value}{off:Nat}{a' c:AV}{I J:Nat->Prop}(h:Put W θ v vs cs off a' I)(hc:AV.C W θ c ds)(hJ:∀i,I i->J i)(hK:∀i,c.ids i->J i):
 Put W θ v vs (cs++ds) off (prN a' c) J:=by
 obtain⟨u,m,w,e1,e2,e3,e4,e5⟩:=h
 refine⟨u,m,w++ds,by rw[e1];simp,e2,e3,?_,λi hi=>?_⟩
 . have:=Xyo e4 hc;simpa using this
 . rcases Xku hi with h | h
   . exact(e5 i h).imp (hJ i) id
   . exact .inl (hK i h)
theorem Put.right{v:AV}{vs cs ds:List Value}{off:Nat}{a' c:AV}{I J:Nat->Prop}(h:Put W θ v vs ds off a' I)(hc:AV.C W θ c cs)(hJ:∀i,I i->J i)(hK:∀i,c.ids i->J i):
 Put W θ v vs (cs++ds) (cs.length+off) (prN c a') J:=by
 obtain⟨u,m,w,e1,e2,e3,e4,e5⟩:=h
 refine⟨cs++u,m,w,by rw[e1];simp,by rw[W0d,e2],e3,?_,λi hi=>?_⟩
 . have:=Xyo hc e4;simpa using this
 . rcases Xku hi with h | h
   . exact .inl (hK i h)
   . exact(e5 i h).imp (hJ i) id
theorem Put.all{v:AV}{vs cs:List Value}{I:Nat->Prop}(hv:AV.C W θ v vs)(hl:cs.length=v.size): Put W θ v vs cs 0 v I :=
 ⟨[],cs,[],by simp,rfl,hl,by simpa using hv,λ_ h=>.inr h⟩
theorem Yf9{v:AV}{x:D}{y:AV}(hx:∀z,x≠.st z)(hp:∀u v,x≠.pr u v){off:Nat}(h:Xsw v x off=some y): off=0/\y=v/\x.size=v.size:=by
 unfold Xsw at h
 split at h
 . exact absurd rfl (hx _)
 . exact absurd rfl (hx _)
 . exact absurd rfl (hp _ _)
 . split at h
   . rename_i hf;injection h with h;exact⟨rfl,h.symm,(Xms hf).1⟩
   . cases h
 . cases h
theorem Yga{v:AV}{vs:List Value}(hv:AV.C W θ v vs): ∀ {x:D} {off:Nat} {a':AV} {cs:List Value},Xsw v x off=some a'->D.At W x cs->Put W θ v vs cs off a' λ_=>False:=by
 intro x
 induction x using D.ind with
 | st x ih =>
  intro off y cs h hc
  cases off with
  | zero =>
   simp only[Xsw] at h
   split at h
   . rename_i hf;injection h with h;subst h
     exact .all hv (by rw[D.at_len _ hc,(Xms hf).1])
   . split at h
     . rename_i hy;injection h with h;subst h;exact(ih hy hc).st
     . cases h
  | succ off =>
   simp only[Xsw] at h
   split at h
   . rename_i hy;injection h with h;subst h;exact(ih hy hc).st
   . cases h
 | pr a c iha ihc =>
  intro off y cs h hc
  obtain⟨u,w,e,h1,h2⟩:=hc
  subst e
  simp only[Xsw] at h
  split at h
  . split at h
    . rename_i hy;injection h with h;subst h
      exact(iha hy h1).left h2 (λ_ h=>h) (λ_ h=>h)
    . cases h
  . rename_i hb
    split at h
    . rename_i hy;injection h with h;subst h
      have hl:=D.at_len a h1
      have hn:¬off<a.size:=Yko hb
      have:=(ihc hy h2).right (c:=.d a) h1 (λ_ h=>h) (λ_ h=>h)
      rwa[show u.length+(off-a.size)=off by omega] at this
    . cases h
 | leaf x hx hp =>
  intro off y cs h hc
  obtain⟨e1,e2,e3⟩:=Yf9 hx hp h
  subst e1;subst e2
  exact .all hv (by rw[D.at_len _ hc,e3])
theorem Ygb{v:AV}{x:AV}{y:AV}(hx:∀z,x≠.st z)(hp:∀u v,x≠.pr u v)(hd:∀u,x≠.d u){off:Nat}(h:Xrj v x off=some y): off=0/\y=v/\x.size=v.size:=by
 unfold Xrj at h
 split at h
 . exact absurd rfl (hd _)
 . exact absurd rfl (hx _)
 . exact absurd rfl (hx _)
 . exact absurd rfl (hp _ _)
 . split at h
   . rename_i hf;injection h with h;exact⟨rfl,h.symm,(Xdf hf).1⟩
   . cases h
 . cases h
theorem Yar{v:AV}{vs:List Value}(hv:AV.C W θ v vs): ∀ {x:AV} {off:Nat} {a':AV} {cs:List Value},Xrj v x off=some a'->AV.C W θ x cs->Put W θ v vs cs off a' x.ids:=by
 intro x
 induction x with
 | d x =>
  intro off y cs h hc
  simp only[Xrj] at h
  obtain⟨u,m,w,e1,e2,e3,e4,e5⟩:=Yga hv h hc
  exact⟨u,m,w,e1,e2,e3,e4,λi hi=>(e5 i hi).imp (λh=>h.elim) id⟩
 | st x ih =>
  intro off y cs h hc
  cases off with
  | zero =>
   simp only[Xrj] at h
   split at h
   . rename_i hf;injection h with h;subst h
     exact .all hv (by rw[AV.c_len _ hc,(Xdf hf).1])
   . split at h
     . rename_i hy;injection h with h;subst h;exact(ih hy hc).st
     . cases h
  | succ off =>
   simp only[Xrj] at h
   split at h
   . rename_i hy;injection h with h;subst h;exact(ih hy hc).st
   . cases h
 | pr a c iha ihc =>
  intro off y cs h hc
  obtain⟨u,w,e,h1,h2⟩:=hc
  subst e
  simp only[Xrj] at h
  split at h
  . split at h
    . rename_i hy;injection h with h;subst h
      exact(iha hy h1).left h2 (λ_ h=>.inl h) (λ_ h=>.inr h)
    . cases h
  . rename_i hb
    split at h
    . rename_i hy;injection h with h;subst h
      have hl:=AV.c_len a h1
      have hn:¬off<a.size:=Yko hb
      have:=(ihc hy h2).right (c:=a) (J:=λi=>a.ids i\/c.ids i) h1 (λ_ h=>.inr h) (λ_ h=>.inl h)
      rwa[show u.length+(off-a.size)=off by omega] at this
    . cases h
 | _ =>
  intro off y cs h hc
  obtain⟨e1,e2,e3⟩:=Ygb (by nofun) (by nofun) (by nofun) h
  subst e1;subst e2
  exact .all hv (by rw[AV.c_len _ hc,e3])
theorem Yis: ∀ {x:D} {f:Nat} {y:D} {cs:List Value},Yb2 x f=some y->D.At W x cs->∃u m v,cs=u++(m++v)/\u.length=Xha x.comps f/\D.At W y m:=by
 intro x
 induction x using D.ind with
 | pr a c _ ih =>
  intro f y cs h hc
  obtain⟨u,v,e,h1,h2⟩:=hc
  cases f with
  | zero =>
   simp only[Yb2] at h;injection h with h;subst h
   exact⟨[],u,v,by simpa using e,rfl,h1⟩
  | succ f =>
   simp only[Yb2] at h
   obtain⟨u1,m,v1,e1,e2,e3⟩:=ih h h2
   exact⟨u++u1,m,v1,by rw[e,e1];simp,by rw[W0d,e2,D.at_len a h1];rfl,e3⟩
 | leaf x hx hp =>
  intro f y cs h hc
  unfold Yb2 at h
  split at h
  . exact absurd rfl (hp _ _)
  . exact absurd rfl (hp _ _)
  . injection h with h;subst h;exact⟨[],cs,[],by simp,by cases x<;>rfl,hc⟩
  . cases h
 | st x ih =>
  intro f y cs h hc
  cases f with
  | zero=>simp only[Yb2] at h;injection h with h;subst h;exact⟨[],cs,[],by simp,rfl,hc⟩
  | succ f=>simp[Yb2] at h
theorem Yj7{a:AV}{cs:List Value}(h:AV.C W θ a cs): AV.V1 W θ a (mkv a.ag cs):=⟨cs,h,rfl⟩
theorem Yj6{a:AV}{cs:List Value}(h:AV.C W θ a cs): AV.V W θ a (mkv a.ag cs):=by
 cases a with
 | tup a=>exact h.elim
 | un=>exact h.elim
 | _=>exact Yj7 h
theorem V_c{a:AV}{v:Value}(h:AV.V W θ a v)(ht:∀b,a≠.tup b)(hu:a≠.un): ∃cs,AV.C W θ a cs/\v=mkv a.ag cs:=by
 cases a with
 | tup a=>exact absurd rfl (ht a)
 | un=>exact absurd rfl hu
 | _=>exact h
theorem Ye7{a:AV}{cs:List Value}(h:AV.C W θ a cs)(hs:a.size=1): ∃v,cs=[v]:=by
 have:=AV.c_len a h
 match cs,this with
 | [v],_=>exact⟨v,rfl⟩
 | [],h=>simp[hs] at h
 | _::_::_,h=>simp[hs] at h
theorem Xw2{a:AV}{cs:List Value}(h:AV.C W θ a cs)(hg:a.ag=true\/a.size=1): (mkv a.ag cs).cells.toList=cs:=by
 cases e:a.ag with
 | true=>simp[mkv,Value.cells]
 | false =>
  rcases hg with hg | hg
  . rw[e] at hg;cases hg
  . obtain⟨v,rfl⟩:=Ye7 h hg
    have:=AV.c_one a h v (W0h.2 rfl)
    cases v<;>simp_all[mkv,Value.cells,Xf4]
end
section
structure Stp (N:Nat->Prop) (W W':GW) (θ θ':Loc) (g g':Hp):Prop where
 os:W'.w.os=W.w.os
 out:W'.w.output=W.w.output
 tape:W'.w.tape=W.w.tape
 size:W.size<=W'.size
 same:∀b,b<W.size->¬N b->W'.w.heap[b]?=W.w.heap[b]?
 A:∀b,b<W.size->¬N b->∀i,W'.A b i↔W.A b i
 le:LeF W W'
 th:∀i y,g i=some y->θ' i=θ i
 hi:∀i,1000000<=i->θ' i=θ i
 obs:Obs W' θ' N g'
 dom:∀i y,g i=some y->∃y',g' i=some y'
theorem Stp.rfl{N:Nat->Prop}{W:GW}{θ:Loc}{g:Hp}(h:Obs W θ N g): Stp N W W θ θ g g :=
 ⟨_root_.rfl,_root_.rfl,_root_.rfl,W0a _,λ_ _ _=>_root_.rfl,λ_ _ _ _=>W3x,LeF.refl W,λ_ _ _=>_root_.rfl,λ_ _=>_root_.rfl,h,λ_ y h=>⟨y,h⟩⟩
theorem Ydh(a:Act)(d t:Nat)(u:Value): (a.put (some d) u).tmps.getD t undef=if t=d/\d<a.tmps.size then u else a.tmps.getD t undef:=by
 simp only[Act.put,Array.getD_eq_getD_getElem?,W3l]
 by_cases h:d=t
 . subst h
   by_cases h2:d<a.tmps.size
   . simp[h2]
   . rw[if_pos _root_.rfl,if_neg h2,if_neg (by simp[h2]),W3u (by omega)]
 . rw[if_neg h,if_neg (λe=>h e.1.symm)]
theorem Sat.step0{W0:GW}{X:Nat->Prop}{n:Nat}{s:Ev×Hp}{a:Act}{W W':GW}{θ θ':Loc}{g':Hp}(h:Sat W0 X n s a W θ)(k:Stp (λb=>W0.size<=b\/X b) W W' θ θ' s.2 g'):
 Sat W0 X n (s.1,g') a W' θ' where
 fm:={
  os:=k.os.trans h.fm.os
  out:=k.out.trans h.fm.out
  tape:=k.tape.trans h.fm.tape
  size:=W0k h.fm.size k.size
  same:=λb hb hX=>(k.same b (W0v hb h.fm.size) (λh1=>h1.elim (λh1=>absurd hb (W5t.2 h1)) hX)).trans (h.fm.same b hb hX)
  A:=λb hb hX i=>(k.A b (W0v hb h.fm.size) (λh1=>h1.elim (λh1=>absurd hb (W5t.2 h1)) hX) i).trans (h.fm.A b hb hX i)
  le:=h.fm.le.trans k.le }
 rel:=⟨h.rel.defers,h.rel.size,λt v ht=>(h.rel.has t v ht).mono k.le λi hi=>let ⟨y,hy⟩:=h.ids t v i ht hi;k.th i y hy⟩
 obs:=k.obs
 ids:=λt v i ht hi=>let ⟨y,hy⟩:=h.ids t v i ht hi;k.dom i y hy
theorem Sat.put{W0:GW}{X:Nat->Prop}{n:Nat}{s:Ev×Hp}{a:Act}{W:GW}{θ:Loc}{d:Nat}{v:AV}{u:Value}(h:Sat W0 X n s a W θ)(hd:d<n)(hv:AV.V W θ v u)
 (hi:∀i,v.ids i->∃y,s.2 i=some y):Sat W0 X n (upd s.1 d v,s.2) (a.put (some d) u) W θ where
 fm:=h.fm
 rel:=⟨h.rel.defers,by simp[Act.put,h.rel.size],λt w ht=>by
  rw[Ydh]
  rcases Xaf ht with ⟨e1,e2⟩ | ⟨e1,e2⟩
  . subst e1;subst e2;rw[if_pos ⟨_root_.rfl,by rw[h.rel.size];exact hd⟩];exact hv
  . rw[if_neg (λe=>e1 e.1)];exact h.rel.has t w e2⟩
 obs:=h.obs
 ids:=λt w i ht hw=>by
  rcases Xaf ht with ⟨e1,e2⟩ | ⟨e1,e2⟩
  . subst e2;exact hi i hw
  . exact h.ids t w i e2 hw
theorem Ob.R.lt{W:GW}{θ:Loc}{o b:Nat}{x:Ob}(h:x.R W θ o)(hl:x.live=true)(hb:(θ o).1=some b): b<W.size:=by
 cases x with
 | var a=>obtain⟨b',cs,T,h1,h2,_⟩:=h;rw[hb] at h1;injection h1 with h1;subst h1;exact Xa1 h2
 | arr sz xs=>obtain⟨b',cs,T,h1,h2,_⟩:=h;rw[hb] at h1;injection h1 with h1;subst h1;exact Xa1 h2
 | tok n sz =>
  obtain⟨_,_,h | ⟨b',cs,T,h1,h2,_⟩⟩:=h
  . rw[hb] at h;cases h.1
  . rw[hb] at h1;injection h1 with h1;subst h1;exact Xa1 h2
 | dead=>cases hl
section
variable{N:Nat->Prop}{W:GW}{θ:Loc}{g:Hp}
theorem Obs.lt(h:Obs W θ N g){o b:Nat}{x:Ob}(hx:g o=some x)(hl:x.live=true)(hb:(θ o).1=some b): b<W.w.heap.size:=(h.r o x hx).lt hl hb
theorem Xmc(W:GW)(o:Obj)(L:Nat->Prop): (W.push o L).w.heap.size=W.w.heap.size+1:=World.size_alloc ..
theorem Stp.push0(h:Obs W θ N g)(o:Obj)(L:Nat->Prop): Stp N W (W.push o L) θ θ g g where
 os:=_root_.rfl
 out:=_root_.rfl
 tape:=_root_.rfl
 size:=W2h (by show W.w.heap.size<(W.push o L).w.heap.size;rw[Xmc];omega)
 same:=λb hb _=>Xek _ _ _ hb
 A:=λb hb _ i=>⟨λh=>h.elim id λh=>absurd h.1 (Nat.ne_of_lt hb),.inl⟩
 le:=Xeg W o L
 th:=λ_ _ _=>_root_.rfl
 hi:=λ_ _=>_root_.rfl
 obs:={
  r:=λo' x hx=>(h.r o' x hx).keep (Xeg W o L) _root_.rfl (λ_ _=>_root_.rfl) λhl b hb=>⟨Xek _ _ _ (h.lt hx hl hb),λi hi=>.inl hi⟩
  new:=h.new
  dis:=h.dis
  ids:=h.ids }
 dom:=λ_ y h=>⟨y,h⟩
theorem Stp.push(h:Obs W θ N g)(hN:∀b,W.size<=b->N b){d c:Nat}(hB:d<1000000)(hd:g d=none)(o:Obj)(L:Nat->Prop){x:Ob}(hx:x.R (W.push o L) (λi=>if i=d then (some W.size,c) else θ i) d)
 (hi:∀i,x.ids i->∃y,g i=some y):Stp N W (W.push o L) θ (λi=>if i=d then (some W.size,c) else θ i) g (upd g d x) where
 os:=_root_.rfl
 out:=_root_.rfl
 tape:=_root_.rfl
 size:=W2h (by show W.w.heap.size<(W.push o L).w.heap.size;rw[Xmc];omega)
 same:=λb hb _=>Xek _ _ _ hb
 A:=λb hb _ i=>⟨λh=>h.elim id λh=>absurd h.1 (Nat.ne_of_lt hb),.inl⟩
 le:=Xeg W o L
 th:=λi y hy=>if_neg λe=>by rw[e,hd] at hy;cases hy
 hi:=λi h=>if_neg (by omega)
 obs:={
  r:=λo' y hy=>by
   rcases Xaf hy with ⟨e1,e2⟩ | ⟨e1,e2⟩
   . subst e1;subst e2;exact hx
   . exact(h.r o' y e2).keep (Xeg W o L) (if_neg e1) (λi hi=>if_neg λe=>by obtain⟨z,hz⟩:=h.ids o' y i e2 hi;rw[e,hd] at hz;cases hz)
      λhl b hb=>⟨Xek _ _ _ (h.lt e2 hl hb),λi hi=>.inl hi⟩
  new:=λo' y b hy hl hb=>by
   rcases Xaf hy with ⟨e1,e2⟩ | ⟨e1,e2⟩
   . subst e1;rw[if_pos _root_.rfl] at hb;injection hb with hb;exact hN b (by rw[hb];exact W0a _)
   . rw[if_neg e1] at hb;exact h.new o' y b e2 hl hb
  dis:=λo1 o2 y1 y2 b h1 h2 l1 l2 b1 b2=>by
   rcases Xaf h1 with ⟨e1,f1⟩ | ⟨e1,f1⟩
   . rcases Xaf h2 with ⟨e2,f2⟩ | ⟨e2,f2⟩
     . exact e1.trans e2.symm
     . rw[if_pos e1] at b1;rw[if_neg e2] at b2
       injection b1 with b1
       exact absurd (h.lt f2 l2 b2) (by rw[<-b1];exact W7g _)
   . rcases Xaf h2 with ⟨e2,f2⟩ | ⟨e2,f2⟩
     . rw[if_neg e1] at b1;rw[if_pos e2] at b2
       injection b2 with b2
       exact absurd (h.lt f1 l1 b1) (by rw[<-b2];exact W7g _)
     . rw[if_neg e1] at b1;rw[if_neg e2] at b2;exact h.dis o1 o2 y1 y2 b f1 f2 l1 l2 b1 b2
  ids:=λo' y i hy hyi=>by
   have:∃z,g i=some z:=by
    rcases Xaf hy with ⟨e1,e2⟩ | ⟨e1,e2⟩
    . subst e2;exact hi i hyi
    . exact h.ids o' y i e2 hyi
   obtain⟨z,hz⟩:=this
   exact⟨z,by rw[Xak (λe=>by rw[e,hd] at hz;cases hz)];exact hz⟩ }
 dom:=λi y hy=>⟨y,by rw[Xak (λe=>by rw[e,hd] at hy;cases hy)];exact hy⟩
theorem Stp.put(h:Obs W θ N g){o t b:Nat}{y x:Ob}(ho:g o=some y)(hl:y.live=true)(hb:(θ o).1=some b){c c':List Value}{T:TypeId}{B:Nat->Prop}(hc:W.w.heap[b]?=some (.cells c.toArray T (0,0)))
 (hs:∀i v,¬W.A b i->c[i]?=some v->c'[i]?=some v) {θ':Loc} {g':Hp} (hθ:∀i z,g i=some z->θ' i=θ i) (hhi:∀i,1000000<=i->θ' i=θ i) (ht:(θ' t).1=some b)
 (hg:∀i z,g' i=some z->(i=t/\z=x)\/z=.dead\/(g i=some z/\i≠o)) (hdom:∀i z,g i=some z->∃z',g' i=some z')
 (hx:x.R (W.put b (.cells c'.toArray T (0,0)) B) θ' t) (hi:∀i,x.ids i->∃y,g i=some y):Stp N W (W.put b (.cells c'.toArray T (0,0)) B) θ θ' g g' where
 os:=_root_.rfl
 out:=_root_.rfl
 tape:=_root_.rfl
 size:=by show W.w.heap.size<=(Xh2 W.w b _).heap.size;simp[Xh2]
 same:=λk _ hk=>Xk7 _ _ _ _ λe=>hk (by rw[e];exact h.new o y b ho hl hb)
 A:=λk _ hk i=>⟨λh=>h.1,λh'=>⟨h',λe=>absurd (h.new o y b ho hl hb) (by rw[<-e];exact hk)⟩⟩
 le:=Xg2 W b c c' T B hc hs
 th:=hθ
 hi:=hhi
 obs:={
  r:=λi z hz=>by
   rcases hg i z hz with ⟨e1,e2⟩ | e | ⟨e1,e2⟩
   . subst e1;subst e2;exact hx
   . subst e;trivial
   . refine(h.r i z e1).keep (Xg2 W b c c' T B hc hs) (hθ i z e1) (λj hj=>let ⟨w,hw⟩:=h.ids i z j e1 hj;hθ j w hw) λhlz k hk=>?_
     have hne:k≠b:=λe=>e2 (h.dis i o z y b e1 ho hlz hl (by rw[<-e];exact hk) hb)
     exact⟨Xk7 _ _ _ _ hne,λj hj=>⟨hj,λe=>absurd e hne⟩⟩
  new:=λi z k hz hlz hk=>by
   rcases hg i z hz with ⟨e1,e2⟩ | e | ⟨e1,e2⟩
   . subst e1;rw[ht] at hk;injection hk with hk;rw[<-hk];exact h.new o y b ho hl hb
   . subst e;cases hlz
   . rw[hθ i z e1] at hk;exact h.new i z k e1 hlz hk
  dis:=λi j z w k hz hw lz lw bz bw=>by
   rcases hg i z hz with ⟨e1,e2⟩ | e | ⟨e1,e2⟩
   . rcases hg j w hw with ⟨f1,f2⟩ | f | ⟨f1,f2⟩
     . exact e1.trans f1.symm
     . subst f;cases lw
     . subst e1;rw[ht] at bz;injection bz with bz;subst bz
       rw[hθ j w f1] at bw
       exact absurd (h.dis j o w y b f1 ho lw hl bw hb) f2
   . subst e;cases lz
   . rcases hg j w hw with ⟨f1,f2⟩ | f | ⟨f1,f2⟩
     . subst f1;rw[ht] at bw;injection bw with bw;subst bw
       rw[hθ i z e1] at bz
       exact absurd (h.dis i o z y b e1 ho lz hl bz hb) e2
     . subst f;cases lw
     . rw[hθ i z e1] at bz;rw[hθ j w f1] at bw
       exact h.dis i j z w k e1 f1 lz lw bz bw
  ids:=λi z k hz hk=>by
   have:∃w,g k=some w:=by
    rcases hg i z hz with ⟨e1,e2⟩ | e | ⟨e1,e2⟩
    . subst e2;exact hi k hk
    . subst e;exact hk.elim
    . exact h.ids i z k e1 hk
   obtain⟨w,hw⟩:=this
   exact hdom k w hw }
 dom:=hdom
end
end
section
def Good(P:Program)(N:Nat->Prop)(W:GW)(θ:Loc)(g:Hp)(ρ:Operand->Value)(o:Oper)(v:AV)(g':Hp): Prop :=
 ∃W' θ' r,(execOp ρ o).run P W.w=.ok r W'.w/\Stp N W W' θ θ' g g'/\((r=.skip/\o.dst=none)\/∃u,r=.value u/\AV.V W' θ' v u)/\∀i,v.ids i->∃y,g' i=some y
def Xbm(W:GW)(θ:Loc)(g:Hp)(ρ:Operand->Value): List Operand->List AV->Prop
 | [],[]=>True
 | x::xs,a::asx=>(AV.V W θ a (ρ x)/\∀i,a.ids i->∃y,g i=some y)/\Xbm W θ g ρ xs asx
 | _,_=>False
section
variable{P:Program}{N:Nat->Prop}{W:GW}{θ:Loc}{g:Hp}{ρ:Operand->Value}
theorem Good.val{o:Oper}{v:AV}{u:Value}(h:Obs W θ N g)(hr:(execOp ρ o).run P W.w=.ok (.value u) W.w)(hv:AV.V W θ v u)(hi:∀i,v.ids i->∃y,g i=some y): Good P N W θ g ρ o v g :=
 ⟨W,θ,_,hr,Stp.rfl h,.inr ⟨u,rfl,hv⟩,hi⟩
theorem V_b{c:Bool}{v:Value}(h:AV.V W θ (.b c) v): v=.bool c:=by obtain⟨cs,h1,h2⟩:=h;rw[show cs=_ from h1] at h2;exact h2
theorem V_q{p:Prop}{v:Value}(h:AV.V W θ (.q p) v): ∃c,v=.bool c/\(c=true↔p):=by obtain⟨cs,⟨c,h1,h3⟩,h2⟩:=h;rw[h1] at h2;exact⟨c,h2,h3⟩
theorem Xdg{k:IntKind}{z:Int}{v:Value}(h:AV.V W θ (.d (.int k z)) v): v=.int k z/\inR k z:=by obtain⟨cs,⟨h1,h3⟩,h2⟩:=h;rw[h1] at h2;exact⟨h2,h3⟩
theorem Xxf{s:List UInt8}{v:Value}(h:AV.V W θ (.d (.str s)) v): v=.string ⟨s.toArray⟩/\s.length<9223372036854775808:=by obtain⟨cs,⟨h1,h3⟩,h2⟩:=h;rw[h1] at h2;exact⟨h2,h3⟩
theorem Xnr{s:List UInt8}(h:s.length<9223372036854775808): AV.V W θ (.d (.str s)) (.string ⟨s.toArray⟩):=⟨[.string ⟨s.toArray⟩],⟨rfl,h⟩,rfl⟩
theorem int_V{k:IntKind}{z:Int}(h:inR k z): AV.V W θ (.d (.int k z)) (.int k z):=⟨[.int k z],⟨rfl,h⟩,rfl⟩
theorem q_V{p:Prop}{c:Bool}(h:c=true↔p): AV.V W θ (.q p) (.bool c):=⟨[.bool c],⟨c,rfl,h⟩,rfl⟩
theorem Yje{p:Prop}{c:Bool}(h:c=true↔p): AV.V W θ (.b (dc p)) (.bool c):=by
 have:c=dc p:=W5h.2 (h.trans Xah.symm)
 subst this;exact⟨_,rfl,rfl⟩
theorem b_V(c:Bool): AV.V W θ (.b c) (.bool c):=⟨[.bool c],rfl,rfl⟩
theorem Yne{p:Prop}(c:Bool)(h:c=true->p): AV.V W θ (.ub p) (.bool c):=⟨[.bool c],⟨c,rfl,h⟩,rfl⟩
theorem V_sl{sz:Nat}{xs:List D}{v:Value}(h:AV.V W θ (.d (.sl sz xs)) v): ∃p c,v=.slice p xs.length c/\xs.length<=c/\c<9223372036854775808/\(xs=[]\/∃b off,p=some ⟨b,off,none⟩/\D.Row W b sz off xs):=by
 obtain⟨cs,⟨p,c,h1,h3⟩,h2⟩:=h;rw[h1] at h2;exact⟨p,c,h2,h3⟩
theorem Ylk{sz:Nat}{xs:List D}{p:Option Addr}{n c:Nat}(hn:n=xs.length)(h1:xs.length<=c)(h2:c<9223372036854775808)(h3:xs=[]\/∃b off,p=some ⟨b,off,none⟩/\D.Row W b sz off xs):
 AV.V W θ (.d (.sl sz xs)) (.slice p n c):=by subst hn;exact⟨_,⟨p,c,rfl,h1,h2,h3⟩,rfl⟩
theorem Ym6{o sz:Nat}{xs:List D}{v:Value}(h:AV.V W θ (.gr o sz xs) v): ∃p,v=.slice p xs.length (θ o).2/\((θ o).2=0\/p=ad (θ o).1)/\xs.length<=(θ o).2/\(θ o).2<9223372036854775808/\(xs=[]\/∃b,(θ o).1=some b/\D.Row W b sz 0 xs):=by
 obtain⟨cs,⟨p,h1,h3⟩,h2⟩:=h;rw[h1] at h2;exact⟨p,h2,h3⟩
theorem Xxh{o sz:Nat}{xs:List D}{v:Value}(h:AV.V W θ (.gr o sz xs) v): AV.V W θ (.d (.sl sz xs)) v:=by
 obtain⟨cs,hc,e⟩:=h
 exact⟨cs,Xly (z:=.sl sz []) (a:=.gr o sz xs) rfl hc,e⟩
theorem Xxg{sz:Nat}{xs:List D}{v:Value}(h:AV.V W θ (.lit sz xs) v): ∃p,v=.slice p xs.length xs.length/\xs.length<9223372036854775808/\(xs=[]\/∃b,p=some ⟨b,0,none⟩/\D.Row W b sz 0 xs):=by
 obtain⟨cs,⟨b,h1,h3⟩,h2⟩:=h;rw[h1] at h2;exact⟨b,h2,h3⟩
theorem Xhn{sz:Nat}{xs:List D}{v:Value}(h:AV.V W θ (.lit sz xs) v): AV.V W θ (.d (.sl sz xs)) v:=by
 obtain⟨b,e,h1,h2⟩:=Xxg h
 rw[e];exact Ylk rfl (W0a _) h1 (h2.imp_right λ⟨b,h3,h4⟩=>⟨b,0,h3,h4⟩)
theorem Xng{v:Value}(h:AV.V W θ .nil v): ∃p,v=.slice p 0 0:=by obtain⟨cs,⟨p,h1⟩,h2⟩:=h;rw[h1] at h2;exact⟨p,h2⟩
theorem Xjb{o sz l n:Nat}{v:Value}(h:AV.V W θ (.own o sz l n) v): ∃b p,(θ o).1=some b/\l+n<=(θ o).2/\(θ o).2<9223372036854775808/\v=.slice p n ((θ o).2-l)/\(l=0\/l<(θ o).2->p=some ⟨b,l*sz,none⟩):=by
 obtain⟨cs,⟨b,p,h1,h2,h6,h3,h4⟩,h5⟩:=h;rw[h3] at h5;exact⟨b,p,h1,h2,h6,h5,h4⟩
theorem Xo2{o sz l n:Nat}{v:Value}(h:AV.V W θ (.ow3 o sz l n) v): ∃b p,(θ o).1=some b/\l+n<=(θ o).2/\(θ o).2<9223372036854775808/\v=.slice p n n/\(l=0\/0<n->p=some ⟨b,l*sz,none⟩):=by
 obtain⟨cs,⟨b,p,h1,h2,h6,h3,h4⟩,h5⟩:=h;rw[h3] at h5;exact⟨b,p,h1,h2,h6,h5,h4⟩
theorem Xja{o off:Nat}{v:Value}(h:AV.V W θ (.ptr o off) v): ∃b,(θ o).1=some b/\v=.pointer (some ⟨b,off,none⟩):=by obtain⟨cs,⟨b,h1,h2⟩,h3⟩:=h;rw[h2] at h3;exact⟨b,h1,h3⟩
theorem Xrw{o off b:Nat}(h:(θ o).1=some b): AV.V W θ (.ptr o off) (.pointer (some ⟨b,off,none⟩)):=⟨_,⟨b,h,rfl⟩,rfl⟩
theorem Yk0{o sz j off:Nat}{v:Value}(h:AV.V W θ (.el o sz j off) v): ∃b,(θ o).1=some b/\v=.pointer (some ⟨b,j*sz+off,none⟩):=by obtain⟨cs,⟨b,h1,h2⟩,h3⟩:=h;rw[h2] at h3;exact⟨b,h1,h3⟩
theorem Ymn{o sz j off b:Nat}(h:(θ o).1=some b): AV.V W θ (.el o sz j off) (.pointer (some ⟨b,j*sz+off,none⟩)):=⟨_,⟨b,h,rfl⟩,rfl⟩
theorem Yoe{x:D}{v:Value}(h:AV.V W θ (.at x) v): ∃b off e,v=.pointer (some ⟨b,off,none⟩)/\D.At W x e/\∀j v,e[j]?=some v->Fr W b (off+j) v:=by
 obtain⟨cs,⟨b,off,e,h1,h2,h3⟩,h4⟩:=h;rw[h1] at h4;exact⟨b,off,e,h4,h2,h3⟩
theorem Ym0{x:D}{b off:Nat}{e:List Value}(h2:D.At W x e)(h3:∀j v,e[j]?=some v->Fr W b (off+j) v): AV.V W θ (.at x) (.pointer (some ⟨b,off,none⟩)):=⟨_,⟨b,off,e,rfl,h2,h3⟩,rfl⟩
theorem V1.V{a:AV}{v:Value}(h:AV.V1 W θ a v): AV.V W θ a v:=by
 cases a with
 | tup a=>obtain⟨cs,h1,_⟩:=h;exact h1.elim
 | un=>obtain⟨cs,h1,_⟩:=h;exact h1.elim
 | _=>exact h
theorem Yfd{a:AV}{p:Prop}{v:Value}(ha:asP a=some p)(h:AV.V W θ a v): ∃c,v=.bool c/\(c=true↔p):=by
 unfold asP at ha
 split at ha<;>try cases ha
 . exact V_q h
 . exact⟨_,V_b h,W3x⟩
 . obtain⟨cs,h1,h2⟩:=h;rw[show cs=_ from h1] at h2;exact⟨_,h2,W3x⟩
theorem Yho: ∀ {a:AV} {i:Nat} {b:AV} {vs:List Value},Ydr a i=some b->AV.T W θ a vs->∃w,vs[i]?=some w/\AV.V W θ b w/\∀j,b.ids j->a.ids j:=by
 intro a
 induction a with
 | pr a c _ ih =>
  intro i b vs h ht
  match vs,ht with
  | v::vs,ht =>
   cases i with
   | zero=>simp only[Ydr] at h;injection h with h;subst h;exact⟨v,rfl,V1.V ht.1,λj hj=>.inl hj⟩
   | succ i =>
    simp only[Ydr] at h
    obtain⟨w,h1,h2,h3⟩:=ih h ht.2
    exact⟨w,h1,h2,λj hj=>.inr (h3 j hj)⟩
 | un=>intro i b vs h;cases i<;>cases h
 | _ =>
  intro i b vs h ht
  cases i with
  | zero =>
   simp only[Ydr] at h;injection h with h;subst h
   match vs,ht with
   | [v],ht=>exact⟨v,rfl,V1.V ht,λj hj=>hj⟩
  | succ i=>simp[Ydr] at h
theorem Xkp{T:TypeId}{t:TypeDesc}{w:World}(h:P.underlying T=some t): (underlying T).run P w=.ok t w:=by
 simp[underlying,program,bind,Sem.bind,Sem.run,pure,h]
theorem Xye{T:TypeId}(h:P.underlying T=some .bool)(a b:Bool)(w:World)(m:Nat): (Op.equalIn (m+1) T (.bool a) (.bool b)).run P w=.ok (a==b) w:=by
 simp[Op.equalIn,underlying,program,bind,Sem.bind,Sem.run,pure,h]
theorem Xso(k:IntKind)(z:Int): k.wrap (k.wrap z)=k.wrap z:=by
 have key:∀m:Int,0<=m->m<2^k.bits->k.wrap m=if k.signed&&m>=(2^(k.bits-1):Int) then m-(2^k.bits:Int) else m:=by
  intro m h1 h2
  simp only[IntKind.wrap,Int.emod_eq_of_lt h1 h2]
 have hp:(0:Int)<2^k.bits:=by cases k<;>decide
 have h1:=Int.emod_nonneg z (Int.ne_of_gt hp)
 have h2:=Int.emod_lt_of_pos z hp
 have e:k.wrap z=k.wrap (z%2^k.bits):=by simp only[IntKind.wrap,Int.emod_emod]
 rw[e,key _ h1 h2]
 generalize z%2^k.bits=m at *
 split
 . rename_i hc
   show k.wrap (m-2^k.bits)=_
   have:(m-2^k.bits)%2^k.bits=m:=by rw[Int.sub_emod_right,Int.emod_eq_of_lt h1 h2]
   simp only[IntKind.wrap,this,hc,if_true]
 . rename_i hc
   rw[key m h1 h2,if_neg hc]
theorem Xf8(k:IntKind)(z:Int): inR k (k.wrap z):=Xso k z
theorem Xok{k:IntKind}{z:Int}: inR k z↔k.min<=z/\z<=k.max:=by
 unfold inR IntKind.wrap
 cases k<;>simp[IntKind.min,IntKind.max,IntKind.signed,IntKind.bits]<;>(try split)<;>omega
theorem Xy3{k:IntKind}{a b:Int}(ha:inR k a): inR k (a.tmod b):=by
 rw[Xok] at *
 have h1:(a.tmod b).natAbs<=a.natAbs:=by rw[Int.natAbs_tmod];exact Nat.mod_le _ _
 have h2:0<=a->0<=a.tmod b:=λh=>Int.tmod_nonneg b h
 have h3:a<=0->a.tmod b<=0:=λh=>by
  have:=Int.tmod_nonneg b (a:=-a) (by omega)
  rw[Int.neg_tmod] at this;omega
 have hm:k.min<=0/\0<=k.max:=by cases k<;>decide
 rcases Int.le_total 0 a with h | h
 . have:=h2 h;omega
 . have:=h3 h;omega
theorem Xy4{k:IntKind}{a:Int}(ha:inR k a)(n:Nat): inR k (a.fdiv (2^n)):=by
 rw[Xok] at *
 have hp:(0:Int)<2^n:=Int.pow_pos (by decide)
 have hp1:(1:Int)<=2^n:=hp
 have hm:k.min<=0/\0<=k.max:=by cases k<;>decide
 rw[W1r _ (Int.le_of_lt hp)]
 rcases Int.le_total 0 a with h | h
 . have h1:=Int.ediv_nonneg h (Int.le_of_lt hp)
   have h2:a/2^n<=a:=Int.ediv_le_self _ h
   omega
 . have h1:a/2^n<=0:=Int.ediv_nonpos_of_nonpos_of_neg h (by omega)
   have h2:a<=a/2^n:=by
    rw[Int.le_ediv_iff_mul_le hp]
    have:=Int.mul_le_mul_of_nonneg_left hp1 (show 0<=-a by omega)
    simp only[Int.neg_mul,W5m] at this
    omega
   omega
end
end
section
section
variable{P:Program}{N:Nat->Prop}{W:GW}{θ:Loc}{g:Hp}{ρ:Operand->Value}
variable{tb:Nat->Option TI}{d:Option Nat}{ty:TypeId}{pos:String}{aft:Array Edge}{gd:Option (Nat×Bool)}{args:List AV}{v:AV}
theorem Yly{x:Operand}(hO:Obs W θ N g)(hF:Fp tb (.move x) args=some v)(ha:Xbm W θ g ρ [x] args): Good P N W θ g ρ ⟨d,.move x,ty,pos,aft,gd⟩ v g:=by
 simp only[Fp] at hF
 split at hF<;>try cases hF
 exact .val hO rfl ha.1.1 ha.1.2
theorem Ym1{x:Operand}(hO:Obs W θ N g)(hF:Fp tb (.assign x) args=some v)(ha:Xbm W θ g ρ [x] args): Good P N W θ g ρ ⟨d,.assign x,ty,pos,aft,gd⟩ v g:=by
 simp only[Fp] at hF
 split at hF<;>try cases hF
 exact .val hO rfl ha.1.1 ha.1.2
theorem Ydl{c x y:Operand}(hO:Obs W θ N g)(hF:Fp tb (.pick c x y) args=some v)(ha:Xbm W θ g ρ [c,x,y] args): Good P N W θ g ρ ⟨d,.pick c x y,ty,pos,aft,gd⟩ v g:=by
 simp only[Fp] at hF
 split at hF<;>try cases hF
 . exact .val hO (by simp only[execOp,V_b ha.1.1];rfl) ha.2.1.1 ha.2.1.2
 . exact .val hO (by simp only[execOp,V_b ha.1.1];rfl) ha.2.2.1.1 ha.2.2.1.2
theorem Yiy{x:Operand}{i:Nat}(hO:Obs W θ N g)(hF:Fp tb (.extract x i) args=some v)(ha:Xbm W θ g ρ [x] args): Good P N W θ g ρ ⟨d,.extract x i,ty,pos,aft,gd⟩ v g:=by
 simp only[Fp] at hF
 split at hF<;>try cases hF
 obtain⟨vs,h1,h2⟩:=ha.1.1
 obtain⟨w,h3,h4,h5⟩:=Yho hF h2
 exact .val hO (by simp only[execOp,h1,Instr.extract,List.getElem?_toArray,h3];rfl) h4 λj hj=>ha.1.2 j (h5 j hj)
theorem Yla{u:UnOp}{x:Operand}{T:TypeId}(hO:Obs W θ N g)(hF:Fp tb (.unOp u T x) args=some v)(ha:Xbm W θ g ρ [x] args): Good P N W θ g ρ ⟨d,.unOp u T x,ty,pos,aft,gd⟩ v g:=by
 cases u<;>simp only[Fp] at hF<;>try cases hF
 all_goals (split at hF<;>try cases hF)
 all_goals first
  | exact .val hO (by simp only[execOp,V_b ha.1.1,Op.unary];rfl) (b_V _) (λ_ h=>h.elim)
  | exact .val hO (by simp only[execOp,(Xdg ha.1.1).1,Op.unary,Op.intArith];rfl) (int_V (Xf8 _ _)) (λ_ h=>h.elim)
  | (obtain⟨c, h1, h2⟩ := V_q ha.1.1
     exact .val hO (by simp only[execOp,h1,Op.unary];rfl) (q_V (by cases c<;>simp_all)) (λ_ h=>h.elim))
theorem Yjv{op:BinOp}{k:IntKind}{a b:Int}{T:TypeId}(h1:op≠.shl)(h2:op≠.shr): binOp op T (.int k a) (.int k b)=(match op with
 | .add | .sub | .mul=>Op.intArith op k a b
 | .quo | .rem=>Op.intDiv op k a b
 | .and | .or | .xor | .andNot=>Op.intBits op k a b
 | _=>Op.intCmp op a b):=by
 cases op<;>first
  | exact absurd rfl h1
  | exact absurd rfl h2
  | (simp only[binOp,if_neg (λe:¬(k=k)=>e rfl)])
theorem Yd9{op:BinOp}{k:IntKind}{a b:Int}(ha:inR k a)(hb:inR k b)(h1:op≠.shl)(h2:op≠.shr)(hF:Yks op k a b=some v)(T:TypeId):
 ∃u,(binOp op T (.int k a) (.int k b)).run P W.w=.ok u W.w/\AV.V W θ v u/\∀i,¬v.ids i:=by
 rw[Yjv h1 h2]
 cases op<;>simp only[Yks] at hF<;>try cases hF
 case add | sub | mul | and | or | xor | andNot=>exact⟨_,rfl,int_V (Xf8 _ _),λ_ h=>h⟩
 case eql | neq | lss | leq | gtr | geq=>exact⟨_,rfl,Yje (by simp),λ_ h=>h⟩
 case quo =>
  split at hF<;>try cases hF
  rename_i h0
  exact⟨_,by simp only[Op.intDiv,if_neg h0];rfl,int_V (Xf8 _ _),λ_ h=>h⟩
 case rem =>
  split at hF<;>try cases hF
  rename_i h0
  exact⟨_,by simp only[Op.intDiv,if_neg h0];rfl,int_V (Xy3 ha),λ_ h=>h⟩
theorem Xwe{op:BinOp}{T:TypeId}{x y:Operand}{a b:Value}(h:∀c,a≠.agg c)(h':a≠.nilIface): (eqGuard op T x y a b).run P W.w=.ok () W.w:=by
 unfold eqGuard
 cases op<;>first
  | rfl
  | (cases a<;>first
   | rfl
   | exact absurd rfl (h _)
   | exact absurd rfl h')
theorem Xgv{op:BinOp}{T T':TypeId}{x y:Operand}{u:Value}(h:∀c,ρ x≠.agg c)(h':ρ x≠.nilIface)(hr:(binOp op T (ρ x) (ρ y)).run P W.w=.ok u W.w):
 (execOp ρ ⟨d,.binOp op T x y T',ty,pos,aft,gd⟩).run P W.w=.ok (.value u) W.w:=by
 show (((eqGuard op T x y (ρ x) (ρ y)).bind λ_=>binOp op T (ρ x) (ρ y)).bind _).run P W.w=_
 rw[Xtt _ _ W.w W.w u (by rw[Xtt _ _ _ _ _ (Xwe h h')];exact hr)]
 rfl
theorem Xsa{op:BinOp}{T T':TypeId}{x y:Operand}{a c:AV}{tz:Option TI}(hF:Yaf tz op y a c=some v)(ha:AV.V W θ a (ρ x))(hc:AV.V W θ c (ρ y)){k k':IntKind}{z z':Int}(e1:a=.d (.int k z))(e2:c=.d (.int k' z')):
 ∃u,(execOp ρ ⟨d,.binOp op T x y T',ty,pos,aft,gd⟩).run P W.w=.ok (.value u) W.w/\AV.V W θ v u/\∀i,¬v.ids i:=by
 subst e1;subst e2
 obtain⟨h1,r1⟩:=Xdg ha
 obtain⟨h2,r2⟩:=Xdg hc
 have key:∃u,(binOp op T (ρ x) (ρ y)).run P W.w=.ok u W.w/\AV.V W θ v u/\∀i,¬v.ids i:=by
  rw[h1,h2]
  simp only[Yaf] at hF
  split at hF
  . split at hF<;>try cases hF
    rename_i h0
    exact⟨.int k (k.wrap (z*2^(min z'.toNat k.bits))),by simp[binOp,Op.shift,h0],int_V (Xf8 _ _),λ_ h=>h⟩
  . split at hF<;>try cases hF
    rename_i h0
    exact⟨.int k (z.fdiv (2^(min z'.toNat k.bits))),by simp[binOp,Op.shift,h0],int_V (Xy4 r1 _),λ_ h=>h⟩
  . rename_i n1 n2
    split at hF<;>try cases hF
    rename_i hk
    subst hk
    exact Yd9 r1 r2 n1 n2 hF T
 obtain⟨u,hu,hv,hi⟩:=key
 exact⟨u,Xgv (by rw[h1];exact λ_=>nofun) (by rw[h1];nofun) hu,hv,hi⟩
theorem Xmv{T:TypeId}{a b:Value}{c:Bool}(h:∀m,(Op.equalIn (m+1) T a b).run P W.w=.ok c W.w): (Op.equal T a b).run P W.w=.ok c W.w:=h 9999
theorem Xld{op:BinOp}{T:TypeId}{a b:Value}{c:Bool}(h:(Op.equal T a b).run P W.w=.ok c W.w)(ho:op=.eql\/op=.neq)
 (hb:binOp .eql T a b=(Op.equal T a b >>= λr=>pure (.bool r))/\binOp .neq T a b=(Op.equal T a b >>= λr=>pure (.bool (!r)))) :
 (binOp op T a b).run P W.w=.ok (.bool (match op with | .eql=>c | _=>!c)) W.w:=by
 rcases ho with rfl | rfl
 . rw[hb.1,Sem.run_bind,h];rfl
 . rw[hb.2,Sem.run_bind,h];rfl
theorem Ybw{a:AV}{v:Value}(hs:Yd7 a=true)(this:AV.V W θ a v): ∃p n k,v=.slice p n k/\(p.isNone=true->Ymm a):=by
 unfold Yd7 at hs
 split at hs
 . obtain⟨p,k,e,_,_,h⟩:=V_sl this;exact⟨_,_,_,e,λhp=>h.elim id λ⟨b,off,h1,_⟩=>by rw[h1] at hp;cases hp⟩
 . obtain⟨p,e⟩:=Xng this;exact⟨_,_,_,e,λ_=>trivial⟩
 . obtain⟨p,e,_,h⟩:=Xxg this;exact⟨_,_,_,e,λhp=>h.elim id λ⟨b,h1,_⟩=>by rw[h1] at hp;cases hp⟩
 . obtain⟨b,p,_,_,_,e,_⟩:=Xjb this;exact⟨_,_,_,e,λ_=>trivial⟩
 . obtain⟨b,p,_,_,_,e,_⟩:=Xo2 this;exact⟨_,_,_,e,λ_=>trivial⟩
 . rename_i xs
   obtain⟨p,e,h0,h1,_,h⟩:=Ym6 this
   refine⟨_,_,_,e,λhp=>h.elim id λ⟨b,hb,_⟩=>?_⟩
   rcases h0 with h0 | h0
   . exact W0o (by omega)
   . rw[h0,hb] at hp;cases hp
 . cases hs
theorem Xr9{op:BinOp}{T T':TypeId}{x y:Operand}{s t:List UInt8}{tz:Option TI}(hF:Yaf tz op y (.d (.str s)) (.d (.str t))=some v)(ha:AV.V W θ (.d (.str s)) (ρ x))(hc:AV.V W θ (.d (.str t)) (ρ y)):
 ∃u,(execOp ρ ⟨d,.binOp op T x y T',ty,pos,aft,gd⟩).run P W.w=.ok (.value u) W.w/\AV.V W θ v u/\∀i,¬v.ids i:=by
 obtain⟨h1,r1⟩:=Xxf ha
 obtain⟨h2,r2⟩:=Xxf hc
 have el:∀l:List UInt8,(ByteArray.mk l.toArray).toList=l:=λl=>by rw[ByteArray.toList_eq]
 have key:∃u,(binOp op T (ρ x) (ρ y)).run P W.w=.ok u W.w/\AV.V W θ v u/\∀i,¬v.ids i:=by
  rw[h1,h2]
  simp only[Yaf] at hF
  split at hF<;>try cases hF
  . split at hF<;>cases hF
    rename_i hl
    refine⟨.string ⟨(s++t).toArray⟩,?_,Xnr (by simpa using hl),λ_ h=>h⟩
    rw[binOp_string_add,run_string_add_sum _ _ _ (by show s.length+t.length<=_;omega),ByteArray.mk_append_mk]
  . refine⟨.bool (s==t),?_,Yje (by simp),λ_ h=>h⟩
    rw[binOp_string_eql,el,el];rfl
  . refine⟨.bool (!(s==t)),?_,Yje (by simp),λ_ h=>h⟩
    rw[binOp_string_neq,el,el];rfl
 obtain⟨u,hu,hv,hi⟩:=key
 exact⟨u,Xgv (by rw[h1];exact λ_=>nofun) (by rw[h1];nofun) hu,hv,hi⟩
theorem Yju{op:BinOp}{T T':TypeId}{x y:Operand}(hT:∀T ti,tb T=some ti->TyOk P T ti)(hO:Obs W θ N g)(hF:Fp tb (.binOp op T x y T') args=some v)(ha:Xbm W θ g ρ [x,y] args)(hy:∀u,y=.const u->ρ y=u):
 Good P N W θ g ρ ⟨d,.binOp op T x y T',ty,pos,aft,gd⟩ v g:=by
 simp only[Fp] at hF
 split at hF<;>try cases hF
 rename_i a c
 have hfin:(∃u,(execOp ρ ⟨d,.binOp op T x y T',ty,pos,aft,gd⟩).run P W.w=.ok (.value u) W.w/\AV.V W θ v u/\∀i,¬v.ids i)->Good P N W θ g ρ ⟨d,.binOp op T x y T',ty,pos,aft,gd⟩ v g :=
  λ⟨u,h1,h2,h3⟩=>.val hO h1 h2 λi hi=>absurd hi (h3 i)
 refine hfin ?_
 have hF':=hF
 unfold Yaf at hF
 split at hF
 . exact Xsa hF' ha.1.1 ha.2.1.1 rfl rfl
 . exact Xr9 hF' ha.1.1 ha.2.1.1
 . clear hF'
   split at hF
   . rename_i ti _ _ _ hti
     obtain⟨t,u1,u2,u3⟩:=(hT _ _ hti).u
     have u3:t=.bool:=u3
     subst u3
     split at hF<;>try cases hF
     rename_i p q hp hq
     obtain⟨b1,e1,i1⟩:=Yfd hp ha.1.1
     obtain⟨b2,e2,i2⟩:=Yfd hq ha.2.1.1
     have h1:=Xmv (P:=P) (W:=W) (λm=>Xye (P:=P) u1 b1 b2 W.w m)
     split at hF<;>try cases hF
     . refine⟨_,Xgv (by rw[e1];exact λ_=>nofun) (by rw[e1];nofun) (by rw[e1,e2];exact Xld h1 (.inl rfl) ⟨rfl,rfl⟩),Yje ?_,λ_ h=>h⟩
       rw[<-i1,<-i2];cases b1<;>cases b2<;>simp
     . refine⟨_,Xgv (by rw[e1];exact λ_=>nofun) (by rw[e1];nofun) (by rw[e1,e2];exact Xld h1 (.inr rfl) ⟨rfl,rfl⟩),Yje ?_,λ_ h=>h⟩
       rw[<-i1,<-i2];cases b1<;>cases b2<;>simp
   . rename_i sz xs _ _ _ hti
     obtain⟨t,u1,u2,E,u3,_⟩:=(hT _ _ hti).u
     subst u3
     have hs:Yd7 a=true->∃p n k,ρ x=.slice p n k/\(p.isNone=true->Ymm a):=λhs=>Ybw hs ha.1.1
     have h1:∀p n k,(Op.equal T (.slice p n k) (.slice none 0 0)).run P W.w=.ok p.isNone W.w:=λp n k=>Xmv λm=>by
      cases p<;>simp[Op.equalIn,run_underlying u1]
     split at hF<;>try cases hF
     . rename_i hsl
       obtain⟨p,n,k,e,he⟩:=hs hsl
       have e2:=hy _ rfl
       exact⟨_,Xgv (by rw[e];exact λ_=>nofun) (by rw[e];nofun) (by rw[e,e2];exact Xld (h1 p n k) (.inl rfl) ⟨rfl,rfl⟩),Yne _ he,λ_ h=>h⟩
     . rename_i hsl
       obtain⟨p,n,k,e,he⟩:=hs hsl
       have e2:=hy _ rfl
       exact⟨_,Xgv (by rw[e];exact λ_=>nofun) (by rw[e];nofun) (by rw[e,e2];exact Xld (h1 p n k) (.inr rfl) ⟨rfl,rfl⟩),Yne _ (λ_=>trivial),λ_ h=>h⟩
   . cases hF
theorem Xll: ∀ {xs:List D} {s:List UInt8},Xzz xs=some s->∃zs:List Int,xs=zs.map (λz=>D.int .u8 z)/\s=zs.map λz=>UInt8.ofNat z.toNat
 | [],s,h=>by simp only[Xzz,Option.some.injEq] at h;subst h;exact⟨[],rfl,rfl⟩
 | x::xs,s,h=>by
  unfold Xzz at h
  split at h
  . rename_i e;cases e
  . rename_i z l e
    injection e with e1 e2;subst e1;subst e2
    split at h<;>cases h
    rename_i s' hs
    obtain⟨zs,a,b⟩:=Xll hs
    exact⟨z::zs,by rw[a];rfl,by rw[b];rfl⟩
  . cases h
theorem Xfi: ∀(zs:List Int) (acc:List UInt8),zs.foldl (λ(r:ByteArray) n=>r.push (UInt8.ofNat n.toNat)) ⟨acc.toArray⟩=⟨(acc++zs.map λz=>UInt8.ofNat z.toNat).toArray⟩
 | [],acc=>by simp
 | z::zs,acc=>by
  rw[List.foldl_cons,show (ByteArray.mk acc.toArray).push (UInt8.ofNat z.toNat)=⟨(acc++[UInt8.ofNat z.toNat]).toArray⟩ by simp[ByteArray.push],Xfi zs]
  simp
theorem Xw4{b off n c:Nat}{zs:List Int}(hr:D.Row W b 1 off (zs.map λz=>D.int .u8 z))(hn:n=zs.length): (Conv.bytesToString (.slice (some ⟨b,off,none⟩) n c)).run P W.w=.ok (.string ⟨(zs.map λz=>UInt8.ofNat z.toNat).toArray⟩) W.w:=by
 rw[run_bytesToString W.w _ _ _ zs (by
  have h:=run_loadCells (P:=P) (b:=b) (off:=off) (w:=W.w) (zs.map (Value.int .u8)) 0 #[] (λj v hj=>by
   rw[W1p] at hj
   cases hz:zs[j]? with
   | none=>rw[hz] at hj;cases hj
   | some z =>
    rw[hz] at hj;injection hj with hj;subst hj
    obtain⟨e,h1,_,h2⟩:=D.row_get hr (i:=j) (x:=.int .u8 z) (by rw[W1p,hz];rfl)
    have h1:=h1.1
    subst h1
    have:=(h2 0 _ rfl).1
    simpa using this)
  simp only[W0i] at h
  rw[hn]
  simpa [loadCells] using h)]
 have:=Xfi zs []
 rw[show (ByteArray.empty:ByteArray)=⟨([]:List UInt8).toArray⟩ from rfl,this]
 simp
theorem Xw3{a:AV}{s:List UInt8}{u:Value}(hs:Yki a=some s)(ha:AV.V W θ a u): ∃r p n c,u=.slice p n c/\(Conv.bytesToString (.slice p n c)).run P W.w=.ok r W.w/\AV.V W θ (.d (.str s)) r:=by
 have key:∀ {xs:List D},Xzz xs=some s->AV.V W θ (.d (.sl 1 xs)) u->∃r p n c,u=.slice p n c/\(Conv.bytesToString (.slice p n c)).run P W.w=.ok r W.w/\AV.V W θ (.d (.str s)) r:=by
  intro xs hx hv
  obtain⟨p,c,e,e1,e2,e3⟩:=V_sl hv
  obtain⟨zs,rfl,rfl⟩:=Xll hx
  simp only[W0i] at e1
  refine⟨.string ⟨(zs.map λz=>UInt8.ofNat z.toNat).toArray⟩,p,_,c,e,?_,Xnr (by simp;omega)⟩
  rcases e3 with e3 | ⟨b,off,hp,hr⟩
  . have:zs=[]:=by simpa using e3
    subst this
    cases p with
    | none=>rfl
    | some a=>exact run_bytesToString W.w a _ _ [] rfl
  . subst hp
    exact Xw4 hr (by simp)
 unfold Yki at hs
 split at hs
 . exact key hs ha
 . exact key hs (Xhn ha)
 . cases hs
theorem Ye1{S T:TypeId}{x:Operand}(hT:∀T ti,tb T=some ti->TyOk P T ti)(hO:Obs W θ N g)(hF:Fp tb (.convert S T x) args=some v)(ha:Xbm W θ g ρ [x] args): Good P N W θ g ρ ⟨d,.convert S T x,ty,pos,aft,gd⟩ v g:=by
 simp only[Fp] at hF
 split at hF<;>try cases hF
 . split at hF<;>try cases hF
   rename_i h1 h2
   obtain⟨t,u1,_⟩:=(hT _ _ h1).u
   obtain⟨t',u1',_,u3⟩:=(hT _ _ h2).u
   have u3:t'=.int _:=u3
   subst u3
   exact .val hO (by
    simp only[execOp,(Xdg ha.1.1).1,convert,Conv.intToInt,underlying,program,bind,Sem.bind,Sem.run,pure,u1,u1']) (int_V (Xf8 _ _)) (λ_ h=>h.elim)
 . split at hF<;>try cases hF
   rename_i h1 h2
   split at hF<;>cases hF
   rename_i s hs
   obtain⟨t,u1,_,E,u3,_⟩:=(hT _ _ h1).u
   subst u3
   obtain⟨t',u1',_,u3⟩:=(hT _ _ h2).u
   have u3:t'=.string:=u3
   subst u3
   have ue:=(hT _ _ h1).k E _ _ u1 rfl
   obtain⟨u,p,n,c,e,hu,hv⟩:=Xw3 (P:=P) (W:=W) (θ:=θ) hs ha.1.1
   refine .val hO ?_ hv (λ_ h=>h.elim)
   simp only[execOp,e]
   rw[Sem.run_bind,run_convert_bytes_string W.w S T E p n c u1 ue u1',hu]
   rfl
theorem Xoj{n:Nat}(h:n<9223372036854775808): inR .i64 (n:Int):=by
 rw[Xok];show (-9223372036854775808:Int)<=n/\(n:Int)<=9223372036854775807;omega
theorem Yh5{tys:Array TypeId}{x:Operand}(hT:∀T ti,tb T=some ti->TyOk P T ti)(hO:Obs W θ N g)(hF:Fp tb (.call ⟨.builtin .len,#[x],tys⟩) args=some v)(ha:Xbm W θ g ρ [x] args):
 Good P N W θ g ρ ⟨d,.call ⟨.builtin .len,#[x],tys⟩,ty,pos,aft,gd⟩ v g:=by
 simp only[Fp] at hF
 split at hF<;>try cases hF
 rename_i a T ht
 split at hF<;>try cases hF
 case h_2 =>
  rename_i h1
  obtain⟨t,u1,_,u3⟩:=(hT _ _ h1).u
  have u3:t=.string:=u3
  subst u3
  split at hF<;>cases hF
  rename_i s
  obtain⟨e,hl⟩:=Xxf ha.1.1
  have e2:(ByteArray.mk s.toArray).size=s.length:=by show s.toArray.size=_;simp
  exact .val hO (by simp[execOp,resolve,invoke,builtin,Builtin.len_,e,underlying,program,bind,Sem.bind,Sem.run,pure,u1,goInt,ht,e2]) (int_V (Xoj hl)) (λ_ h=>h.elim)
 rename_i h1
 obtain⟨t,u1,_,E,u3,_⟩:=(hT _ _ h1).u
 subst u3
 split at hF<;>try cases hF
 rename_i n hn
 have key:∃p c,ρ x=.slice p n c/\n<9223372036854775808:=by
  have:=ha.1.1
  unfold Yn5 at hn
  split at hn<;>try cases hn
  . obtain⟨p,c,e,h1,h2,_⟩:=V_sl this;exact⟨_,_,e,by omega⟩
  . obtain⟨p,e,_,h1,h2,_⟩:=Ym6 this;exact⟨_,_,e,by omega⟩
  . obtain⟨b,e,h1,_⟩:=Xxg this;exact⟨_,_,e,h1⟩
  . obtain⟨p,e⟩:=Xng this;exact⟨_,_,e,by decide⟩
  . obtain⟨b,p,_,h1,h2,e,_⟩:=Xjb this;exact⟨_,_,e,by omega⟩
  . obtain⟨b,p,_,h1,h2,e,_⟩:=Xo2 this;exact⟨_,_,e,by omega⟩
 obtain⟨p,c,e,hlt⟩:=key
 exact .val hO (by simp[execOp,resolve,invoke,builtin,Builtin.len_,e,underlying,program,bind,Sem.bind,Sem.run,pure,u1,goInt,ht]) (int_V (Xoj hlt)) (λ_ h=>h.elim)
theorem Yjn{tys:Array TypeId}{x:Operand}(hT:∀T ti,tb T=some ti->TyOk P T ti)(hO:Obs W θ N g)(hF:Fp tb (.call ⟨.builtin .cap,#[x],tys⟩) args=some v)(ha:Xbm W θ g ρ [x] args):
 Good P N W θ g ρ ⟨d,.call ⟨.builtin .cap,#[x],tys⟩,ty,pos,aft,gd⟩ v g:=by
 simp only[Fp] at hF
 split at hF<;>try cases hF
 rename_i T ht
 split at hF<;>try cases hF
 rename_i h1
 obtain⟨t,u1,_,E,u3,_⟩:=(hT _ _ h1).u
 subst u3
 obtain⟨p,e⟩:=Xng ha.1.1
 exact .val hO (by simp[execOp,resolve,invoke,builtin,Builtin.cap_,e,underlying,program,bind,Sem.bind,Sem.run,pure,u1,goInt,ht]) (int_V (Xoj (n:=0) (by decide))) (λ_ h=>h.elim)
theorem Yhy{tys:Array TypeId}{x y:Operand}(hO:Obs W θ N g)(hF:Fp tb (.call ⟨.builtin .min,#[x,y],tys⟩) args=some v)(ha:Xbm W θ g ρ [x,y] args):
 Good P N W θ g ρ ⟨d,.call ⟨.builtin .min,#[x,y],tys⟩,ty,pos,aft,gd⟩ v g:=by
 simp only[Fp] at hF
 split at hF<;>try cases hF
 split at hF<;>try cases hF
 rename_i hk;subst hk
 obtain⟨e1,r1⟩:=Xdg ha.1.1
 obtain⟨e2,r2⟩:=Xdg ha.2.1.1
 exact .val hO (by simp[execOp,resolve,invoke,builtin,Builtin.min_,Builtin.min2,e1,e2,bind,Sem.bind,Sem.run,pure]) (int_V (by split<;>assumption)) (λ_ h=>h.elim)
theorem Yh1{tys:Array TypeId}{x y:Operand}(hO:Obs W θ N g)(hF:Fp tb (.call ⟨.builtin .max,#[x,y],tys⟩) args=some v)(ha:Xbm W θ g ρ [x,y] args):
 Good P N W θ g ρ ⟨d,.call ⟨.builtin .max,#[x,y],tys⟩,ty,pos,aft,gd⟩ v g:=by
 simp only[Fp] at hF
 split at hF<;>try cases hF
 split at hF<;>try cases hF
 rename_i hk;subst hk
 obtain⟨e1,r1⟩:=Xdg ha.1.1
 obtain⟨e2,r2⟩:=Xdg ha.2.1.1
 exact .val hO (by simp[execOp,resolve,invoke,builtin,Builtin.max_,Builtin.max2,e1,e2,bind,Sem.bind,Sem.run,pure]) (int_V (by split<;>assumption)) (λ_ h=>h.elim)
theorem Yds{x:Operand}(hO:Obs W θ N g)(hF:Fp tb (.nilCheck x) args=some v)(ha:Xbm W θ g ρ [x] args): Good P N W θ g ρ ⟨d,.nilCheck x,ty,pos,aft,gd⟩ v g:=by
 simp only[Fp] at hF
 split at hF<;>try cases hF
 obtain⟨b,h1,e⟩:=Xja ha.1.1
 exact .val hO (by simp only[execOp,e];rfl) (Xrw h1) ha.1.2
theorem Xwv: ∀(x:D),∀c∈x.comps,0<c.size:=by
 have hs:∀x:D,0<x.size:=λx=>by
  induction x using D.ind with
  | leaf x h1 h2=>cases x<;>first | exact absurd rfl (h1 _) | exact absurd rfl (h2 _ _) | exact W7k
  | st a ih=>exact ih
  | pr a c ih _=>exact W0v ih (W5l _ _)
 intro x c _;exact hs c
theorem Xv6{T:TypeId}{ti:TI}(h:TyOk P T ti){z:D}(hz:ti.z=.st z)(h0:ti.arr=0){f:Nat}(hf:f<z.comps.length):
 ∃fs gg i,P.underlying T=some (.struct fs)/\fs[f]?=some gg/\gg.offset=Xha z.comps f/\P.info? gg.type=some i/\i.size≠0/\i.size=z.comps[f].size/\∃t,P.underlying gg.type=some t/\Xz6 t=z.comps[f].ag/\(z.comps[f].ag=false->z.comps[f].size=1):=by
 obtain⟨t,u1,_,u3⟩:=h.u
 rw[hz] at u3
 simp only[h0,if_true] at u3
 obtain⟨fs,e,_,hh⟩:=u3
 subst e
 obtain⟨gg,i,g1,g2,g3,g4,g5⟩:=hh f z.comps[f] (W0c hf)
 exact⟨fs,gg,i,u1,g1,g2,g3,by rw[g4];exact Nat.ne_of_gt (Xwv z _ (W6n hf)),g4,g5⟩
theorem Xqk{a b:Nat}(h:Nat.blt a b=true): a<b:=W1g h
theorem Yix{T f:Nat}{x:Operand}(hT:∀T ti,tb T=some ti->TyOk P T ti)(hO:Obs W θ N g)(hF:Fp tb (.fieldAddr T x f) args=some v)(ha:Xbm W θ g ρ [x] args): Good P N W θ g ρ ⟨d,.fieldAddr T x f,ty,pos,aft,gd⟩ v g:=by
 simp only[Fp] at hF
 split at hF<;>try cases hF
 rename_i ti hti
 split at hF<;>try cases hF
 rename_i z hz h0
 split at hF<;>try cases hF
 rename_i hlt
 obtain⟨fs,gg,i,u1,u2,u3,u4,u5,_⟩:=Xv6 (hT _ _ hti) hz h0 (Xqk hlt)
 have run:∀b off,ρ x=.pointer (some ⟨b,off,none⟩)->(execOp ρ ⟨d,.fieldAddr T x f,ty,pos,aft,gd⟩).run P W.w=.ok (.value (.pointer (some ⟨b,off+Xha z.comps f,none⟩))) W.w:=λb off e=>by
  simp[execOp,e,Instr.fieldAt,Instr.sureAddr,fieldPlace,sizeOf,typeInfo,underlying,program,bind,Sem.bind,Sem.run,pure,u1,u2,u3,u4,u5,add0]
 split at hF<;>try cases hF
 . split at hF<;>try cases hF
   rename_i y hb hy
   obtain⟨b,off,e,h1,h2,h3⟩:=Yoe ha.1.1
   obtain⟨u,m,w,e1,e2,e3⟩:=Yis hy h2
   have e4:=W0e hb
   refine .val hO (run b off h1) (Ym0 e3 λj v hj=>?_) (λ_ h=>h.elim)
   have hj2:e[u.length+j]?=some v:=by
    rw[e1,W0u (by omega),W3n,W1a (by
     by_cases h:j<m.length
     . exact h
     . rw[W1x (by omega)] at hj;cases hj)]
    exact hj
   have:=h3 _ _ hj2
   rwa[e2,e4,<-W4r] at this
 . obtain⟨b,h1,e⟩:=Xja ha.1.1
   exact .val hO (run b _ e) (Xrw h1) ha.1.2
 . obtain⟨b,h1,e⟩:=Yk0 ha.1.1
   exact .val hO (run b _ e) (by rw[W4r];exact Ymn h1) ha.1.2
end
end
section
section
variable{P:Program}{N:Nat->Prop}{W:GW}{θ:Loc}{g:Hp}{ρ:Operand->Value}
variable{tb:Nat->Option TI}{d:Option Nat}{ty:TypeId}{pos:String}{aft:Array Edge}{gd:Option (Nat×Bool)}{args:List AV}{v:AV}
theorem Xl7{T:TypeId}{t:TypeDesc}{w:World}{b:Bool}(h:P.underlying T=some t)(hb:Xz6 t=b): (isAgg T).run P w=.ok b w:=by
 subst hb
 cases t<;>simp[isAgg,Xz6,underlying,program,bind,Sem.bind,Sem.run,pure,h]
theorem Xyd{T:TypeId}{t:TypeDesc}{i:TypeInfo}{w:World}{y:AV}{u m z:List Value}(h:P.underlying T=some t)(hb:Xz6 t=y.ag)(hi:P.info? T=some i)(hs:i.size=y.size)(hm:AV.C W θ y m)(h1:y.ag=false->y.size=1):
 (part T (u++(m++z)).toArray u.length).run P w=.ok (mkv y.ag m) w:=by
 unfold part
 have hsz:(sizeOf T).run P w=.ok y.size w:=by simp[sizeOf,typeInfo,program,bind,Sem.bind,Sem.run,pure,hi,hs]
 rw[Sem.run_bind,Xl7 h hb]
 have hl:=AV.c_len y hm
 cases e:y.ag with
 | true =>
  simp only[Result.andThen_ok,if_true]
  rw[Sem.run_bind,hsz]
  simp only[Result.andThen_ok,mkv,if_true,pure,Sem.run]
  congr 2
  simp[<-hl]
 | false =>
  obtain⟨c,rfl⟩:=Ye7 hm (h1 e)
  simp[mkv,pure,Sem.run]
theorem Yir{T f:Nat}{x:Operand}(hT:∀T ti,tb T=some ti->TyOk P T ti)(hO:Obs W θ N g)(hF:Fp tb (.field T x f) args=some v)(ha:Xbm W θ g ρ [x] args): Good P N W θ g ρ ⟨d,.field T x f,ty,pos,aft,gd⟩ v g:=by
 simp only[Fp] at hF
 split at hF<;>try cases hF
 rename_i ti hti
 split at hF<;>try cases hF
 rename_i z hz h0
 have fin:∀ {y:AV} {cs u m w:List Value},Nat.blt f z.comps.length=true->ρ x=.agg cs.toArray->cs=u++(m++w)->u.length=Xha z.comps f->AV.C W θ y m->y.size=((z.comps[f]?).getD (.bool false)).size->y.ag=((z.comps[f]?).getD (.bool false)).ag ->
  (∀i,y.ids i->∃k,g i=some k)->Good P N W θ g ρ ⟨d,.field T x f,ty,pos,aft,gd⟩ y g:=by
  intro y cs u m w hlt hx e1 e2 e3 e4 e5 hi
  have hlt:=Xqk hlt
  rw[W0c hlt,W3v] at e4 e5
  obtain⟨fs,gg,i,u1,u2,u3,u4,u5,u6,t,u7,u8,u9⟩:=Xv6 (hT _ _ hti) hz h0 hlt
  have hp:=Xyd (P:=P) (θ:=θ) (w:=W.w) (u:=u) (z:=w) u7 (by rw[u8,e5]) u4 (by rw[u6,e4]) e3 (λe=>by
   rw[e4];exact u9 (by rw[<-e5];exact e))
  refine .val hO ?_ (Yj6 e3) hi
  rw[e2,<-u3,<-e1] at hp
  simp only[execOp,hx,Instr.field]
  rw[Sem.run_bind,Sem.run_bind,Xkp u1]
  simp only[Result.andThen_ok,u2]
  rw[Sem.run_bind]
  simp only[asAgg,pure,Sem.run,Result.andThen_ok]
  rw[hp];rfl
 split at hF<;>try cases hF
 . split at hF<;>try cases hF
   rename_i y hy hlt
   obtain⟨cs,h1,h2⟩:=ha.1.1
   obtain⟨u,m,w,e1,e2,e3,e4,e5⟩:=Xtd hy (show D.At W _ cs from h1)
   exact fin hlt h2 e1 e2 (Ykp e3) (by rw[Xob,e4]) (by rw[Ydu,e5]) (λi hi=>absurd hi (Xmg _ _))
 . split at hF<;>try cases hF
   rename_i hlt hy
   obtain⟨cs,h1,h2⟩:=ha.1.1
   obtain⟨u,m,w,e1,e2,e3,e4,e5,e6⟩:=Yax hy (show AV.C W θ _ cs from h1)
   exact fin hlt h2 e1 e2 e3 e4 e5 (λi hi=>ha.1.2 i (e6 i hi))
theorem Ypa{ti:TI}{j:Int}{a v:AV}{x:Value}(h:ixA ti j a=some v)(ha:AV.V W θ a x):
 ∃p n c b off q,x=.slice p n c/\p=some ⟨b,off,none⟩/\0<=j/\j<n/\q=off+j.toNat*ti.e.size/\AV.V W θ v (.pointer (some ⟨b,q,none⟩))/\∀i,v.ids i->a.ids i:=by
 have key:∀ {sz:Nat} {xs:List D},ixA.ixL ti j sz xs=some v->AV.V W θ (.d (.sl sz xs)) x ->
  ∃p n c b off q,x=.slice p n c/\p=some ⟨b,off,none⟩/\0<=j/\j<n/\q=off+j.toNat*ti.e.size/\AV.V W θ v (.pointer (some ⟨b,q,none⟩))/\∀i,¬v.ids i:=by
  intro sz xs hx hv
  simp only[ixA.ixL] at hx
  split at hx<;>try cases hx
  rename_i hc
  obtain⟨h0,hz⟩:=hc
  split at hx<;>try cases hx
  rename_i u hu
  obtain⟨p,c,e,h1,h2,h3⟩:=V_sl hv
  have hlt:j.toNat<xs.length:=by
   by_cases h:j.toNat<xs.length
   . exact h
   . rw[W1x (by omega)] at hu;cases hu
  rcases h3 with h3 | ⟨b,off,hp,hr⟩
  . rw[h3] at hlt;cases hlt
  . obtain⟨e',he,_,hf⟩:=D.row_get hr hu
    exact⟨p,_,c,b,off,_,e,hp,h0,by omega,rfl,Ym0 he (by rw[<-hz];exact hf),λ_ h=>h⟩
 unfold ixA at h
 split at h<;>try cases h
 . obtain⟨p,n,c,b,off,q,h1,h2,h3,h4,h5,h6,h7⟩:=key h ha
   exact⟨p,n,c,b,off,q,h1,h2,h3,h4,h5,h6,λi hi=>absurd hi (h7 i)⟩
 . obtain⟨p,n,c,b,off,q,h1,h2,h3,h4,h5,h6,h7⟩:=key h (Xxh ha)
   exact⟨p,n,c,b,off,q,h1,h2,h3,h4,h5,h6,λi hi=>absurd hi (h7 i)⟩
 . obtain⟨p,n,c,b,off,q,h1,h2,h3,h4,h5,h6,h7⟩:=key h (Xhn ha)
   exact⟨p,n,c,b,off,q,h1,h2,h3,h4,h5,h6,λi hi=>absurd hi (h7 i)⟩
 . split at h<;>try cases h
   rename_i hc
   obtain⟨h0,hn,hz⟩:=hc
   obtain⟨b,p,h1,h2,h3,e,h5⟩:=Xjb ha
   refine⟨p,_,_,b,_,_,e,h5 (by omega),h0,by omega,rfl,?_,λi hi=>hi⟩
   rw[<-hz,<-W1h]
   exact Ymn (off:=0) h1
 . split at h<;>try cases h
   rename_i hc
   obtain⟨h0,hn,hz⟩:=hc
   obtain⟨b,p,h1,h2,h3,e,h5⟩:=Xo2 ha
   refine⟨p,_,_,b,_,_,e,h5 (by omega),h0,by omega,rfl,?_,λi hi=>hi⟩
   rw[<-hz,<-W1h]
   exact Ymn (off:=0) h1
theorem Yij{T:TypeId}{x y:Operand}(hT:∀T ti,tb T=some ti->TyOk P T ti)(hO:Obs W θ N g)(hF:Fp tb (.indexAddr T x y) args=some v)(ha:Xbm W θ g ρ [x,y] args):
 Good P N W θ g ρ ⟨d,.indexAddr T x y,ty,pos,aft,gd⟩ v g:=by
 simp only[Fp] at hF
 split at hF<;>try cases hF
 rename_i ti a k j hti
 obtain⟨e2,_⟩:=Xdg ha.2.1.1
 obtain⟨t,u1,_,u3⟩:=(hT _ _ hti).u
 split at hF<;>try cases hF
 . rename_i sz xs hz
   rw[hz] at u3
   obtain⟨E,e,_,_,i,v0,i1,i2,_⟩:=u3
   subst e
   obtain⟨p,n,c,b,off,q,h1,h2,h3,h4,h5,h6,h7⟩:=Ypa hF ha.1.1
   refine .val hO ?_ h6 (λi hi=>ha.1.2 i (h7 i hi))
   simp[execOp,h1,h2,e2,Instr.indexAt,asIntOf,sizeOf,typeInfo,underlying,program,bind,Sem.bind,Sem.run,pure,u1,i1,i2,h3,h4,add0,h5]
 . rename_i z hz
   split at hF<;>try cases hF
   rename_i hc
   obtain⟨b,h1,e⟩:=Xja ha.1.1
   rw[hz] at u3
   simp only[show ti.arr≠0 by omega,if_false] at u3
   obtain⟨E,e1,i,v0,i1,i2,_⟩:=u3
   subst e1
   refine .val hO ?_ (Xrw h1) ha.1.2
   simp[execOp,e,e2,Instr.indexAt,Instr.sureAddr,asIntOf,sizeOf,typeInfo,underlying,program,bind,Sem.bind,Sem.run,pure,u1,i1,i2,hc.1,hc.2,add0]
theorem Ygy{T E sz:Nat}{x:Value}{p:Option Addr}{m c:Nat}{w:World}{i:TypeInfo}(u:P.underlying T=some (.slice E))(hi:P.info? E=some i)(hs:i.size=sz)(hx:x=.slice p m c){l h:Nat}{lo hi':Option Value}
 (hl:lo=none/\l=0\/∃k,lo=some (.int k l)) (hh:hi'=none/\h=m\/∃k,hi'=some (.int k h)) (h1:l<=h) (h2:h<=c) :
 (Instr.sliceAt T x lo hi' none).run P w=.ok (.slice (if c=l then p else p.map (·.add (l*sz))) (h-l) (c-l)) w:=by
 subst hx
 rcases hl with ⟨e,e'⟩ | ⟨k,e⟩<;>rcases hh with ⟨f,f'⟩ | ⟨k',f⟩<;>subst e<;>subst f<;>(try subst e')<;>(try subst f') <;>
  simp[Instr.sliceAt,Instr.slice,Instr.sliceBounds,Instr.sliceBound,asIntOf,sizeOf,typeInfo,underlying,program,bind,Sem.bind,Sem.run,pure,u,hi,hs,h1,h2]
theorem Xnt{sz:Nat}{xs:List D}{x:Value}(ha:AV.V W θ (.d (.sl sz xs)) x){l h:Nat}(h1:l<=h)(h2:h<=xs.length):
 ∃p c,x=.slice p xs.length c/\h<=c/\AV.V W θ (.d (.sl sz ((xs.drop l).take (h-l)))) (.slice (if c=l then p else p.map (·.add (l*sz))) (h-l) (c-l)):=by
 obtain⟨p,c,e,e1,e2,e3⟩:=V_sl ha
 refine⟨p,c,e,by omega,Ylk (by simp;omega) (by simp;omega) (by omega) ?_⟩
 by_cases hx:(xs.drop l).take (h-l)=[]
 . exact .inl hx
 . have:¬c=l:=λhc=>hx (W4b.1 (by simp;omega))
   rcases e3 with e3 | ⟨b,off,hp,hr⟩
   . exact absurd (by rw[e3];simp) hx
   . exact .inr ⟨b,off+l*sz,by rw[if_neg this,hp];simp[add0],D.row_sub hr l (h-l)⟩
def Bd(m:Nat)(lo hi:Option Int)(l h:Nat): Prop:=(lo=none/\l=0\/lo=some (l:Int))/\(hi=none/\h=m\/hi=some (h:Int))/\l<=h/\h<=m
theorem Xtl{sz:Nat}{xs:List D}{lo hi:Option Int}(h:slA.slL sz xs lo hi=some v): ∃l k,Bd xs.length lo hi l k/\v=.d (.sl sz ((xs.drop l).take (k-l))):=by
 cases lo<;>cases hi<;>simp only[slA.slL] at h
 . injection h with h;exact⟨0,xs.length,⟨.inl ⟨rfl,rfl⟩,.inl ⟨rfl,rfl⟩,W0z _,W0a _⟩,by simp[<-h]⟩
 . split at h<;>try cases h
   rename_i z hc
   exact⟨0,z.toNat,⟨.inl ⟨rfl,rfl⟩,.inr (by rw[W2x hc.1]),W0z _,by omega⟩,by simp⟩
 . split at h<;>try cases h
   rename_i z hc
   exact⟨z.toNat,xs.length,⟨.inr (by rw[W2x hc.1]),.inl ⟨rfl,rfl⟩,by omega,W0a _⟩,by
    rw[W0b (by simp)]⟩
 . split at h<;>try cases h
   rename_i z z' hc
   exact⟨z.toNat,z'.toNat,⟨.inr (by rw[W2x hc.1]),.inr (by rw[W2x (by omega)]),by omega,by omega⟩,rfl⟩
theorem Yll{lo hi:Option Int}{a:AV}{x:Value}(h:slA lo hi a=some v)(ha:AV.V W θ a x):
 ∃p m c l k,Bd m lo hi l k/\k<=c/\x=.slice p m c/\(∀sz,(∀s xs,a=.d (.sl s xs)\/a=.lit s xs->s=sz)->(∀o s xs,a=.gr o s xs->s=sz)->(∀o s l n,a=.own o s l n\/a=.ow3 o s l n->s=sz) ->
  AV.V W θ v (.slice (if c=l then p else p.map (·.add (l*sz))) (k-l) (c-l)))/\∀i,v.ids i->a.ids i:=by
 unfold slA at h
 split at h<;>try cases h
 . obtain⟨l,k,hb,e⟩:=Xtl h
   subst e
   obtain⟨p,c,e1,e2,e3⟩:=Xnt ha hb.2.2.1 hb.2.2.2
   exact⟨p,_,c,l,k,hb,e2,e1,λsz h1 _ _=>by rw[<-h1 _ _ (.inl rfl)];exact e3,λ_ h=>h.elim⟩
 . obtain⟨l,k,hb,e⟩:=Xtl h
   subst e
   obtain⟨p,c,e1,e2,e3⟩:=Xnt (Xxh ha) hb.2.2.1 hb.2.2.2
   exact⟨p,_,c,l,k,hb,e2,e1,λsz _ h1 _=>by rw[<-h1 _ _ _ rfl];exact e3,λ_ h=>h.elim⟩
 . obtain⟨l,k,hb,e⟩:=Xtl h
   subst e
   obtain⟨p,c,e1,e2,e3⟩:=Xnt (Xhn ha) hb.2.2.1 hb.2.2.2
   exact⟨p,_,c,l,k,hb,e2,e1,λsz h1 _ _=>by rw[<-h1 _ _ (.inr rfl)];exact e3,λ_ h=>h.elim⟩
 . rename_i o sz0 l0 n
   obtain⟨b,p,h1,h2,h3,e,h5⟩:=Xjb ha
   have key:∀l k,Bd n lo hi l k->v=.own o sz0 (l0+l) (k-l)->∃p m c l k,Bd m lo hi l k/\k<=c/\x=.slice p m c/\(∀sz,(∀s xs,AV.own o sz0 l0 n=.d (.sl s xs)\/AV.own o sz0 l0 n=.lit s xs->s=sz)->(∀o' s xs,AV.own o sz0 l0 n=.gr o' s xs->s=sz)->(∀o' s l n',AV.own o sz0 l0 n=.own o' s l n'\/AV.own o sz0 l0 n=.ow3 o' s l n'->s=sz) ->
    AV.V W θ v (.slice (if c=l then p else p.map (·.add (l*sz))) (k-l) (c-l)))/\∀i,v.ids i->(AV.own o sz0 l0 n).ids i:=by
    intro l k hb hv
    subst hv
    refine⟨p,n,_,l,k,hb,by have:=hb.2.2.2;omega,e,λsz _ _ hs=>?_,λ_ h=>h⟩
    have:=hs _ _ _ _ (.inl rfl)
    subst this
    have hb1:=hb.2.2.1
    have hb2:=hb.2.2.2
    refine⟨_,⟨b,_,h1,by omega,h3,rfl,?_⟩,by rw[Nat.sub_sub];rfl⟩
    intro hc
    by_cases e0:(θ o).2-l0=l
    . rw[if_pos e0]
      have:l0=0/\l=0:=by omega
      rw[h5 (.inl this.1),this.1,this.2]
    . rw[if_neg e0,h5 (by omega)]
      simp[add0,W1h]
   cases lo<;>cases hi<;>simp only at h
   . injection h with h;exact key 0 n ⟨.inl ⟨rfl,rfl⟩,.inl ⟨rfl,rfl⟩,W0z _,W0a _⟩ (by rw[<-h];rfl)
   . split at h<;>try cases h
     rename_i z hc
     exact key 0 z.toNat ⟨.inl ⟨rfl,rfl⟩,.inr (by rw[W2x hc.1]),W0z _,by omega⟩ rfl
   . split at h<;>try cases h
     rename_i z hc
     exact key z.toNat n ⟨.inr (by rw[W2x hc.1]),.inl ⟨rfl,rfl⟩,by omega,W0a _⟩ rfl
   . split at h<;>try cases h
     rename_i z z' hc
     exact key z.toNat z'.toNat ⟨.inr (by rw[W2x hc.1]),.inr (by rw[W2x (by omega)]),by omega,by omega⟩ rfl
 . rename_i o sz0 l0 n
   obtain⟨b,p,h1,h2,h3,e,h5⟩:=Xo2 ha
   have key:∀l,l<=n->(lo=none/\l=0\/lo=some (l:Int))->hi=none->v=.ow3 o sz0 (l0+l) (n-l)->∃p m c l k,Bd m lo hi l k/\k<=c/\x=.slice p m c/\(∀sz,(∀s xs,AV.ow3 o sz0 l0 n=.d (.sl s xs)\/AV.ow3 o sz0 l0 n=.lit s xs->s=sz)->(∀o' s xs,AV.ow3 o sz0 l0 n=.gr o' s xs->s=sz)->(∀o' s l n',AV.ow3 o sz0 l0 n=.own o' s l n'\/AV.ow3 o sz0 l0 n=.ow3 o' s l n'->s=sz) ->
    AV.V W θ v (.slice (if c=l then p else p.map (·.add (l*sz))) (k-l) (c-l)))/\∀i,v.ids i->(AV.ow3 o sz0 l0 n).ids i:=by
    intro l hln hb hhi hv
    subst hv
    refine⟨p,n,n,l,n,⟨hb,.inl ⟨hhi,rfl⟩,hln,W0a _⟩,W0a _,e,λsz _ _ hs=>?_,λ_ h=>h⟩
    have:=hs _ _ _ _ (.inr rfl)
    subst this
    refine⟨_,⟨b,_,h1,by omega,h3,rfl,?_⟩,rfl⟩
    intro hc
    by_cases e0:n=l
    . rw[if_pos e0]
      have:l0=0/\l=0:=by omega
      rw[h5 (.inl this.1),this.1,this.2]
    . rw[if_neg e0,h5 (by omega)]
      simp[add0,W1h]
   cases lo<;>cases hi<;>simp only at h<;>try cases h
   . exact key 0 (W0z _) (.inl ⟨rfl,rfl⟩) rfl rfl
   . split at h<;>try cases h
     rename_i z hc
     exact key z.toNat (by omega) (.inr (by rw[W2x hc.1])) rfl rfl
 . obtain⟨p,e⟩:=Xng ha
   have key:Bd 0 lo hi 0 0->v=.nil->∃p m c l k,Bd m lo hi l k/\k<=c/\x=.slice p m c/\(∀sz,(∀s xs,AV.nil=.d (.sl s xs)\/AV.nil=.lit s xs->s=sz)->(∀o' s xs,AV.nil=.gr o' s xs->s=sz)->(∀o' s l n',AV.nil=.own o' s l n'\/AV.nil=.ow3 o' s l n'->s=sz) ->
    AV.V W θ v (.slice (if c=l then p else p.map (·.add (l*sz))) (k-l) (c-l)))/\∀i,v.ids i->AV.nil.ids i:=by
    intro hb hv
    subst hv
    exact⟨p,0,0,0,0,hb,W0a _,e,λ_ _ _ _=>⟨_,⟨_,rfl⟩,rfl⟩,λ_ h=>h⟩
   cases lo<;>cases hi<;>simp only at h
   . injection h with h;exact key ⟨.inl ⟨rfl,rfl⟩,.inl ⟨rfl,rfl⟩,W0a _,W0a _⟩ h.symm
   . split at h<;>try cases h
     rename_i hc;subst hc
     exact key ⟨.inl ⟨rfl,rfl⟩,.inr rfl,W0a _,W0a _⟩ rfl
   . split at h<;>try cases h
     rename_i hc;subst hc
     exact key ⟨.inr rfl,.inl ⟨rfl,rfl⟩,W0a _,W0a _⟩ rfl
   . split at h<;>try cases h
     rename_i hc;rcases hc with ⟨rfl,rfl⟩
     exact key ⟨.inr rfl,.inr rfl,W0a _,W0a _⟩ rfl
def OV: Option Int->Option Value->Prop
 | none,v=>v=none
 | some q,v=>∃k,v=some (.int k q)
theorem Xko{x:Operand}{lo hi mx:Option Operand}{a:AV}{l h m:Option Int}(hs:Xjh lo hi mx args=some (a,l,h,m))(ha:Xbm W θ g ρ (x::(lo.toList++(hi.toList++mx.toList))) args):
 (AV.V W θ a (ρ x)/\∀i,a.ids i->∃y,g i=some y)/\OV l (lo.map ρ)/\OV h (hi.map ρ)/\OV m (mx.map ρ):=by
 unfold Xjh at hs
 split at hs<;>try cases hs
 . split at hs<;>cases hs
   exact⟨ha.1,rfl,rfl,rfl⟩
 . split at hs<;>cases hs
   . exact⟨ha.1,⟨_,congrArg some (Xdg ha.2.1.1).1⟩,rfl,rfl⟩
   . exact⟨ha.1,rfl,⟨_,congrArg some (Xdg ha.2.1.1).1⟩,rfl⟩
 . split at hs<;>cases hs
   . exact⟨ha.1,⟨_,congrArg some (Xdg ha.2.1.1).1⟩,⟨_,congrArg some (Xdg ha.2.2.1.1).1⟩,rfl⟩
   . exact⟨ha.1,rfl,⟨_,congrArg some (Xdg ha.2.1.1).1⟩,⟨_,congrArg some (Xdg ha.2.2.1.1).1⟩⟩
theorem Xsd(s:List UInt8)(l h:Nat): (ByteArray.mk s.toArray).extract l h=⟨((s.drop l).take (h-l)).toArray⟩:=by
 apply ByteArray.ext
 rw[ByteArray.data_extract]
 simp[List.extract_eq_take_drop]
theorem Ygs{s:List UInt8}{lo hi:Option Int}(h:slS s lo hi=some v): ∃l k,Bd s.length lo hi l k/\v=.d (.str ((s.drop l).take (k-l))):=by
 cases lo<;>cases hi<;>simp only[slS] at h
 . injection h with h;exact⟨0,s.length,⟨.inl ⟨rfl,rfl⟩,.inl ⟨rfl,rfl⟩,W0z _,W0a _⟩,by simp[<-h]⟩
 . split at h<;>try cases h
   rename_i z hc
   exact⟨0,z.toNat,⟨.inl ⟨rfl,rfl⟩,.inr (by rw[W2x hc.1]),W0z _,by omega⟩,by simp⟩
 . split at h<;>try cases h
   rename_i z hc
   exact⟨z.toNat,s.length,⟨.inr (by rw[W2x hc.1]),.inl ⟨rfl,rfl⟩,by omega,W0a _⟩,by
    rw[W0b (by simp)]⟩
 . split at h<;>try cases h
   rename_i z z' hc
   exact⟨z.toNat,z'.toNat,⟨.inr (by rw[W2x hc.1]),.inr (by rw[W2x (by omega)]),by omega,by omega⟩,rfl⟩
theorem Yc9{T:TypeId}{s:List UInt8}{w:World}(u:P.underlying T=some .string){l h:Nat}{lo hi':Option Value}
 (hl:lo=none/\l=0\/∃k,lo=some (.int k l)) (hh:hi'=none/\h=s.length\/∃k,hi'=some (.int k h)) (h1:l<=h) (h2:h<=s.length) :
 (Instr.sliceAt T (.string ⟨s.toArray⟩) lo hi' none).run P w=.ok (.string ⟨((s.drop l).take (h-l)).toArray⟩) w:=by
 have e2:(ByteArray.mk s.toArray).size=s.length:=by show s.toArray.size=_;simp
 rcases hl with ⟨e,e'⟩ | ⟨k,e⟩<;>rcases hh with ⟨f,f'⟩ | ⟨k',f⟩<;>subst e<;>subst f<;>(try subst e')<;>(try subst f') <;>
  simp[Instr.sliceAt,Instr.slice,Instr.sliceBounds,Instr.sliceBound,asIntOf,underlying,program,bind,Sem.bind,Sem.run,pure,u,h1,h2,e2,Xsd]
theorem Ygr{T:TypeId}{x:Operand}{lo hi mx:Option Operand}(hT:∀T ti,tb T=some ti->TyOk P T ti)(hO:Obs W θ N g)(hF:Fp tb (.slice T x lo hi mx) args=some v)(ha:Xbm W θ g ρ (x::(lo.toList++(hi.toList++mx.toList))) args):
 Good P N W θ g ρ ⟨d,.slice T x lo hi mx,ty,pos,aft,gd⟩ v g:=by
 simp only[Fp] at hF
 split at hF<;>try cases hF
 rename_i ti hti
 obtain⟨t,u1,_,u3⟩:=(hT _ _ hti).u
 split at hF<;>try cases hF
 . rename_i a l h hz hs
   rw[hz] at u3
   obtain⟨E,e,_,_,i,v0,i1,i2,_⟩:=u3
   subst e
   split at hF<;>try cases hF
   rename_i hok
   obtain⟨⟨hv,hid⟩,o1,o2,o3⟩:=Xko hs ha
   obtain⟨p,m,c,l',k,⟨hb1,hb2,hb3,hb4⟩,h2,h3,h4,h5⟩:=Yll hF hv
   refine .val hO ?_ (h4 ti.e.size (λs xs e=>by rcases e with e | e<;>subst e<;>exact W0e hok) (λo s xs e=>by subst e;exact W0e hok) (λo s l n e=>by rcases e with e | e<;>subst e<;>exact W0e hok)) (λi hi=>hid i (h5 i hi))
   have:=Ygy (P:=P) (w:=W.w) u1 i1 i2 h3 (lo:=lo.map ρ) (hi':=hi.map ρ) (l:=l') (h:=k) (by
    rcases hb1 with ⟨f1,f2⟩ | f1
    . subst f1;exact .inl ⟨o1,f2⟩
    . subst f1;exact .inr o1) (by
    rcases hb2 with ⟨f1,f2⟩ | f1
    . subst f1;exact .inl ⟨o2,f2⟩
    . subst f1;exact .inr o2) hb3 h2
   have o3:mx.map ρ=none:=o3
   simp only[execOp,o3]
   rw[Sem.run_bind,this];rfl
 . rename_i a h m hz hs
   rw[hz] at u3
   obtain⟨E,e,_,_,i,v0,i1,i2,_⟩:=u3
   subst e
   obtain⟨⟨hv,hid⟩,o1,⟨k2,o2⟩,⟨k3,o3⟩⟩:=Xko hs ha
   have o1:lo.map ρ=none:=o1
   have fin:∀ {p:Option Addr} {n c k:Nat},ρ x=.slice p n c->k<=c->h=(k:Int)->m=(k:Int)->(execOp ρ ⟨d,.slice T x lo hi mx,ty,pos,aft,gd⟩).run P W.w=.ok (.value (.slice p k k)) W.w:=by
    intro p n c k e hkc h1 h2
    subst h1;subst h2
    by_cases h0:k=0
    . subst h0
      simp[execOp,e,o1,o2,o3,Instr.sliceAt,Instr.slice,Instr.sliceBounds,Instr.sliceBound,asIntOf,sizeOf,typeInfo,underlying,program,bind,Sem.bind,Sem.run,pure,u1,i1,i2]
    . have hg:(λa:Addr=>a.add 0)=id:=funext λa=>by cases a;simp[Addr.add]
      simp[execOp,e,o1,o2,o3,Instr.sliceAt,Instr.slice,Instr.sliceBounds,Instr.sliceBound,asIntOf,sizeOf,typeInfo,underlying,program,bind,Sem.bind,Sem.run,pure,u1,i1,i2,h0,hkc,hg]
   split at hF
   . cases hF
     rename_i hc
     rcases hc with ⟨rfl,rfl,hsl⟩
     obtain⟨p,n,c,e,_⟩:=Ybw hsl hv
     exact .val (u:=.slice p 0 0) hO (fin e (W0z _) rfl rfl) ⟨_,⟨_,rfl⟩,rfl⟩ (λ_ h=>h.elim)
   . unfold sl3 at hF
     split at hF<;>try cases hF
     . split at hF<;>cases hF
       rename_i hc
       obtain⟨c0,c1,c2⟩:=hc
       obtain⟨b,p,h1,h2,h3,e,h5⟩:=Xjb hv
       exact .val (u:=.slice p h.toNat h.toNat) hO (fin e (by omega) (by omega) (by omega)) ⟨_,⟨b,p,h1,by omega,h3,rfl,λhh=>h5 (by omega)⟩,rfl⟩ hid
     . split at hF<;>cases hF
       rename_i hc
       obtain⟨c0,c1,c2⟩:=hc
       obtain⟨b,p,h1,h2,h3,e,h5⟩:=Xo2 hv
       exact .val (u:=.slice p h.toNat h.toNat) hO (fin e (by omega) (by omega) (by omega)) ⟨_,⟨b,p,h1,by omega,h3,rfl,λhh=>h5 (by omega)⟩,rfl⟩ hid
 . rename_i s l h hz hs
   rw[hz] at u3
   subst u3
   obtain⟨⟨hv,hid⟩,o1,o2,o3⟩:=Xko hs ha
   obtain⟨l',k,⟨hb1,hb2,hb3,hb4⟩,rfl⟩:=Ygs hF
   obtain⟨e,hl⟩:=Xxf hv
   refine .val hO ?_ (Xnr (by simp;omega)) (λ_ h=>h.elim)
   have:=Yc9 (P:=P) (w:=W.w) u1 (lo:=lo.map ρ) (hi':=hi.map ρ) (s:=s) (l:=l') (h:=k) (by
    rcases hb1 with ⟨f1,f2⟩ | f1
    . subst f1;exact .inl ⟨o1,f2⟩
    . subst f1;exact .inr o1) (by
    rcases hb2 with ⟨f1,f2⟩ | f1
    . subst f1;exact .inl ⟨o2,f2⟩
    . subst f1;exact .inr o2) hb3 hb4
   have o3:mx.map ρ=none:=o3
   simp only[execOp,o3,e]
   rw[Sem.run_bind,this];rfl
end
end
section
section
variable{P:Program}{N:Nat->Prop}{W:GW}{θ:Loc}{g:Hp}{ρ:Operand->Value}
variable{tb:Nat->Option TI}{d:Option Nat}{ty:TypeId}{pos:String}{aft:Array Edge}{gd:Option (Nat×Bool)}{args:List AV}{v:AV}
theorem Xv5(vs:List Value): ∀(cs:List Value) (off k:Nat),(vs.zipIdx k).foldl (λ(cs:Array Value) (c,j)=>cs.setIfInBounds (off+j) c) cs.toArray=(spl cs (off+k) vs).toArray:=by
 induction vs with
 | nil=>intro cs off k;rfl
 | cons v vs ih=>intro cs off k;simp only[List.zipIdx_cons,List.foldl_cons,spl,List.setIfInBounds_toArray];rw[ih,W4r]
theorem Xnd(v:Array Value)(cs:List Value)(off:Nat): v.zipIdx.foldl (λ(cs:Array Value) (c,j)=>cs.setIfInBounds (off+j) c) cs.toArray=(spl cs off v.toList).toArray:=by
 rw[<-Array.foldl_toList,Array.toList_zipIdx]
 exact Xv5 v.toList cs off 0
def Ch: AV->List D->Prop
 | .pr a c,x::y::l=>(a.size=x.size/\a.ag=x.ag)/\Ch c (y::l)
 | .pr _ _,_=>False
 | a,[x]=>a.size=x.size/\a.ag=x.ag
 | _,_=>False
theorem Xzs(x:D): x.comps≠[]:=by cases x<;>simp[D.comps]
theorem Yaj: ∀(x:D),(∀u v,x≠.pr u v)->∀u v,zA x≠.pr u v
 | .pr x y,h=>absurd rfl (h x y)
 | .st x,_=>λu v e=>by
  have:=Xpn (zA x)
  rw[zA] at e
  rw[e] at this;cases this
 | .bool _,_ | .sl ..,_ | .int ..,_ | .str _,_ | .raw _,_=>λ_ _=>nofun
theorem Ch.one{a:AV}{x:D}(h:∀u v,a≠.pr u v)(h1:a.size=x.size)(h2:a.ag=x.ag): Ch a [x]:=by
 cases a<;>first | exact absurd rfl (h _ _) | exact⟨h1,h2⟩
theorem Yf2: ∀(x:D),Ch (zP x) x.comps:=by
 intro x
 induction x using D.ind with
 | leaf x h1 h2 =>
  have e:zP x=zA x:=by cases x<;>first | rfl | exact absurd rfl (h2 _ _)
  have e':x.comps=[x]:=by cases x<;>first | rfl | exact absurd rfl (h2 _ _)
  rw[e,e']
  exact .one (Yaj x h2) (Xgh x) (Yck x)
 | st a _=>exact .one (Yaj (.st a) (λ_ _=>nofun)) (Xgh _) (Yck _)
 | pr a c _ ih =>
  show Ch (.pr (zA a) (zP c)) (a::c.comps)
  cases h:c.comps with
  | nil=>exact absurd h (Xzs c)
  | cons y l=>rw[h] at ih;exact⟨⟨Xgh a,Yck a⟩,ih⟩
theorem Ynd: ∀(x:D),x.isZ=true->AV.C W θ (zP x) x.zc:=by
 intro x
 induction x using D.ind with
 | leaf x h1 h2 =>
  intro h
  have e:zP x=zA x:=by cases x<;>first | rfl | exact absurd rfl (h2 _ _)
  rw[e];exact Ycj h
 | st a _=>intro h;exact Ycj (x:=.st a) h
 | pr a c _ ih =>
  intro h
  have:a.isZ=true/\c.isZ=true:=by simpa [D.isZ] using h
  exact⟨_,_,rfl,Ycj this.1,ih this.2⟩
theorem Yai: ∀(x:D) (i:Nat),¬(zP x).ids i:=by
 intro x
 induction x using D.ind with
 | leaf x h1 h2 =>
  have e:zP x=zA x:=by cases x<;>first | rfl | exact absurd rfl (h2 _ _)
  rw[e];exact Xho x
 | st a _=>exact Xho (.st a)
 | pr a c _ ih=>exact λi h=>h.elim (Xho a i) (ih i)
theorem Xvb: ∀ {a:AV} {cs:List Value},AV.C W θ a cs->AV.C W θ (Xy1 a) cs:=by
 intro a
 induction a with
 | pr a c _ ih=>intro cs ⟨u,v,e,h1,h2⟩;rw[e];exact Xyo h1 (ih h2)
 | _=>intro cs h;exact h
theorem Xmk: ∀ {a:AV} {i:Nat},(Xy1 a).ids i->a.ids i:=by
 intro a
 induction a with
 | pr a c _ ih=>intro i h;exact(Xku h).imp id ih
 | _=>intro i h;exact h
theorem Xyb{v:AV}: ∀ {a:AV} {i:Nat} {a':AV} {l:List D},Xsk a i v=some a'->Ch a l->∃x,l[i]?=some x/\v.size=x.size/\v.ag=x.ag:=by
 intro a
 induction a with
 | pr a c _ ih =>
  intro i a' l h hl
  match l,hl with
  | x::y::l,hl =>
   cases i with
   | zero =>
    simp only[Xsk] at h
    split at h<;>try cases h
    rename_i hf
    obtain⟨f1,f2⟩:=Xdf hf
    exact⟨x,rfl,by rw[f1,hl.1.1],by rw[f2,hl.1.2]⟩
   | succ i =>
    simp only[Xsk] at h
    split at h<;>try cases h
    rename_i c' hc'
    obtain⟨z,k2,k3,k4⟩:=ih hc' hl.2
    exact⟨z,by simpa using k2,k3,k4⟩
 | _ =>
  intro i a' l h hl
  match l,hl with
  | [x],hl =>
   cases i with
   | zero =>
    simp only[Xsk] at h
    split at h<;>try cases h
    rename_i hf
    obtain⟨f1,f2⟩:=Xdf hf
    exact⟨x,rfl,by rw[f1,hl.1],by rw[f2,hl.2]⟩
   | succ i=>simp[Xsk] at h
theorem Ygx{v:AV}{vs:List Value}(hv:AV.C W θ v vs)(hnp:∀u w,v≠.pr u w): ∀ {a:AV} {i:Nat} {a':AV} {l:List D} {cs:List Value},Xsk a i v=some a'->Ch a l->AV.C W θ a cs ->
 Ch a' l/\(∃x,l[i]?=some x/\v.size=x.size/\v.ag=x.ag)/\(∃u m w,cs=u++(m++w)/\u.length=Xha l i/\m.length=v.size/\AV.C W θ a' (u++(vs++w)))/\∀i,a'.ids i->a.ids i\/v.ids i:=by
 intro a
 induction a with
 | pr a c _ ih =>
  intro i a' l cs h hl hc
  match l,hl with
  | x::y::l,hl =>
   obtain⟨u,w,e,h1,h2⟩:=hc
   subst e
   cases i with
   | zero =>
    simp only[Xsk] at h
    split at h<;>try cases h
    rename_i hf
    obtain⟨f1,f2⟩:=Xdf hf
    refine⟨⟨⟨by rw[f1,hl.1.1],by rw[f2,hl.1.2]⟩,hl.2⟩,⟨x,rfl,by rw[f1,hl.1.1],by rw[f2,hl.1.2]⟩,⟨[],u,w,rfl,rfl,by rw[AV.c_len a h1,f1],⟨vs,w,rfl,hv,h2⟩⟩,λi hi=>hi.elim .inr λh=>.inl (.inr h)⟩
   | succ i =>
    simp only[Xsk] at h
    split at h<;>try cases h
    rename_i c' hc'
    obtain⟨k1,⟨z,k2,k3,k4⟩,⟨u1,m,w1,e1,e2,e3,e4⟩,k5⟩:=ih hc' hl.2 h2
    refine⟨⟨hl.1,k1⟩,⟨z,by simpa using k2,k3,k4⟩,⟨u++u1,m,w1,by rw[e1];simp,by rw[W0d,e2,AV.c_len a h1,hl.1.1];rfl,e3,⟨u,_,by simp,h1,e4⟩⟩,λi hi=>hi.elim (λh=>.inl (.inl h)) λh=>(k5 i h).imp .inr id⟩
 | _ =>
  intro i a' l cs h hl hc
  match l,hl with
  | [x],hl =>
   cases i with
   | zero =>
    simp only[Xsk] at h
    split at h<;>try cases h
    rename_i hf
    obtain⟨f1,f2⟩:=Xdf hf
    exact⟨.one hnp (by rw[f1,hl.1]) (by rw[f2,hl.2]),⟨x,rfl,by rw[f1,hl.1],by rw[f2,hl.2]⟩,⟨[],cs,[],by simp,rfl,by rw[AV.c_len _ hc,f1],by simpa using hv⟩,λi hi=>.inr hi⟩
   | succ i=>simp[Xsk] at h
theorem Xf3: ∀ {v:AV},plain v=true->v.ag=true\/v.size=1
 | .d (.st _),_ | .st _,_=>.inl rfl
 | .d (.int ..),_ | .d (.bool _),_ | .d (.str _),_ | .d (.raw _),_ | .d (.sl ..),_ | .q _,_ | .b _,_ | .ub _,_ | .nil,_ | .lit ..,_ | .at _,_ | .ptr ..,_ | .own ..,_ | .ow3 ..,_ | .gr ..,_ | .el ..,_ | .fn ..,_ | .fm ..,_ | .ap ..,_ | .cx ..,_ | .an,_=>.inr rfl
theorem Xgp{v:AV}{u:Value}(hp:plain v=true)(h:AV.V W θ v u)(h1:v.ag=true\/v.size=1): AV.C W θ v u.cells.toList/\∀a c,v≠.pr a c:=by
 have hn:(∀a c,v≠.pr a c)/\(∀a,v≠.tup a)/\v≠.un:=⟨(λ_ _ e=>by subst e;cases hp),(λ_ e=>by subst e;cases hp),(λe=>by subst e;cases hp)⟩
 obtain⟨cs,hc,e⟩:=V_c h hn.2.1 hn.2.2
 rw[e,Xw2 hc h1]
 exact⟨hc,hn.1⟩
theorem Xv8{place:Nat->Option (Nat×Nat)}{l:List D}(hpl:∀f c,l[f]?=some c->place f=some (Xha l f,c.size))(hl1:∀c∈l,c.ag=false->c.size=1){I:Nat->Prop}:
 ∀ {ps:List (Nat×Operand)} {vs:List AV} {a a':AV} {cs:List Value},Xnx a ps vs=some a'->Ch a l->AV.C W θ a cs->(∀i,a.ids i->I i)->Xbm W θ g ρ (ps.map (·.2)) vs->(∀i y,g i=some y->I i) ->
 ∃cs',Instr.fill place cs.toArray (ps.map λx=>(x.1,ρ x.2))=some (cs':List Value).toArray/\AV.C W θ a' cs'/\∀i,a'.ids i->I i
 | [],[],a,a',cs,h,hl,hc,hi,_,_=>by
  simp only[Xnx] at h;injection h with h;subst h
  exact⟨cs,rfl,hc,hi⟩
 | (i,x)::ps,v::vs,a,a',cs,h,hl,hc,hi,ha,hg=>by
  simp only[Xnx] at h
  split at h<;>try cases h
  rename_i a1 hp ha1
  have hsz:v.ag=true\/v.size=1:=by
   obtain⟨z,k2,k3,k4⟩:=Xyb ha1 hl
   cases e:v.ag with
   | true=>exact .inl rfl
   | false=>exact .inr (by rw[k3];exact hl1 z (W0f k2) (by rw[<-k4,e]))
  obtain⟨hvc,hnp⟩:=Xgp hp ha.1.1 hsz
  obtain⟨k1,⟨z,k2,k3,k4⟩,⟨u,m,w,e1,e2,e3,e4⟩,k5⟩:=Ygx hvc hnp ha1 hl hc
  have hv:=AV.c_len v hvc
  have hv':(ρ x).cells.size=v.size:=by simpa using hv
  obtain⟨cs',f1,f2,f3⟩:=Xv8 hpl hl1 h k1 e4 (λj hj=>(k5 j hj).elim (hi j) λhj=>let ⟨y,hy⟩:=ha.1.2 j hj;hg j y hy) ha.2 hg
  refine⟨cs',?_,f2,f3⟩
  simp only[W4h,Instr.fill,hpl i z k2]
  have hc0:(decide ((ρ x).cells.size≠z.size)||decide (Xha l i+(ρ x).cells.size>cs.toArray.size))=false:=by
   simp[hv',k3,e1,e2]
   omega
  rw[if_neg (by rw[hc0];simp),Xnd,e1,<-e2,Xpr _ _ _ _ (by rw[hv,e3])]
  exact f1
 | [],_::_,_,_,_,h,_,_,_,_,_=>by simp[Xnx] at h
 | _::_,[],_,_,_,h,_,_,_,_,_=>by simp[Xnx] at h
theorem Xjn{w:World}: ∀ {fs:List Field} {l:List D} (o:Nat),fs.length=l.length->(∀f c,l[f]?=some c->∃gg i,fs[f]?=some gg/\gg.offset=o+Xha l f/\P.info? gg.type=some i/\i.size=c.size) ->
 ∃pl:List (Nat×Nat),(fs.mapM λf=>do pure (f.offset,<-sizeOf f.type):Sem (List (Nat×Nat))).run P w=.ok pl w/\∀f c,l[f]?=some c->pl[f]?=some (o+Xha l f,c.size)
 | [],[],_,_,_=>⟨[],rfl,λf c h=>by simp at h⟩
 | f::fs,c::l,o,hl,h=>by
  obtain⟨gg,i,h1,h2,h3,h4⟩:=h 0 c rfl
  simp at h1;subst h1
  obtain⟨pl,k1,k2⟩:=Xjn (w:=w) (fs:=fs) (l:=l) (o+c.size) (by simpa using hl) (λk x hk=>by
   obtain⟨gg,i,h1,h2,h3,h4⟩:=h (k+1) x (by simpa using hk)
   exact⟨gg,i,by simpa using h1,by rw[h2,Xha];omega,h3,h4⟩)
  refine⟨(f.offset,c.size)::pl,?_,λk x hk=>?_⟩
  . have m0:(sizeOf f.type).run P w=.ok c.size w:=by simp[sizeOf,typeInfo,h3,h4]
    have h0:((do pure (f.offset,<-sizeOf f.type):Sem (Nat×Nat))).run P w=.ok (f.offset,c.size) w:=by simp[m0]
    rw[List.mapM_cons,Sem.run_bind,h0]
    simp only[Result.andThen_ok]
    rw[Sem.run_bind,k1]
    rfl
  . cases k with
    | zero=>simp at hk;subst hk;simp[h2,Xha]
    | succ k=>simp at hk |-;rw[k2 k x hk,Xha];simp;omega
 | [],_::_,_,hl,_=>by simp at hl
 | _::_,[],_,hl,_=>by simp at hl
theorem Xqc{n:Nat}: ∀ {l:List D} {f:Nat} {c:D},(∀c∈l,c.size=n)->l[f]?=some c->Xha l f=f*n
 | x::l,0,c,_,_=>by simp[Xha]
 | x::l,f+1,c,h,hc=>by
  rw[Xha,h x (W0l ..),Xqc (λc hc=>h c (W0p _ hc)) (by simpa using hc),W2t]
  omega
 | [],_,_,_,h=>by simp at h
theorem Yjr{T:TypeId}{ps:Array (Nat×Operand)}(hT:∀T ti,tb T=some ti->TyOk P T ti)(hO:Obs W θ N g)(hF:Fp tb (.build T ps) args=some v)(ha:Xbm W θ g ρ (ps.toList.map (·.2)) args):
 Good P N W θ g ρ ⟨d,.build T ps,ty,pos,aft,gd⟩ v g:=by
 simp only[Fp] at hF
 split at hF<;>try cases hF
 rename_i ti hti
 split at hF<;>try cases hF
 rename_i z hz
 split at hF<;>try cases hF
 rename_i a hb hs
 have hk:=hT _ _ hti
 obtain⟨ii,v0,i1,i2,i3,i4,i5⟩:=hk.i
 obtain⟨t,u1,_,u3⟩:=hk.u
 have hzz:=hk.z
 rw[hz] at u3 i4 hzz
 have ezl:v0.cells=z.zc.toArray:=by
  have:v0.cells=v0.cells.toList.toArray:=by simp
  rw[this,i4];rfl
 have ez:(zeroValue T).run P W.w=.ok v0 W.w:=by simp[zeroValue,typeInfo,i1,i3]
 by_cases h0:ti.arr=0
 . simp only[h0,if_true] at u3
   obtain⟨fs,e,hl,hf⟩:=u3
   subst e
   obtain⟨pl,k1,k2⟩:=Xjn (P:=P) (w:=W.w) (fs:=fs.toList) (l:=z.comps) 0 (by simpa using hl) (λf c hc=>by
    obtain⟨gg,i,h1,h2,h3,h4,_⟩:=hf f c hc
    exact⟨gg,i,by simpa using h1,by omega,h3,h4⟩)
   obtain⟨cs',f1,f2,f3⟩:=Xv8 (ρ:=ρ) (g:=g) (place:=(pl.toArray[·]?)) (l:=z.comps) (θ:=θ) (W:=W) (I:=λi=>∃y,g i=some y) (λf c hc=>by
    have:=k2 f c hc;simpa using this) (λc hc=>by
    obtain⟨f,hf'⟩:=W3a hc
    obtain⟨gg,i,h1,h2,h3,h4,t,h5,h6,h7⟩:=hf f c hf'
    exact h7) hs (Yf2 z) (Ynd z hzz) (λi hi=>absurd hi (Yai z i)) ha (λi y hy=>⟨y,hy⟩)
   have hm:(fs.mapM λf=>do pure (f.offset,<-sizeOf f.type):Sem (Array (Nat×Nat))).run P W.w=.ok pl.toArray W.w:=by
    have:fs=fs.toList.toArray:=by simp
    rw[this,List.mapM_toArray,Sem.run_map,k1]
    rfl
   refine .val (u:=.agg cs'.toArray) hO ?_ ?_ (λi hi=>f3 i (Xmk (Xkk hi)))
   . simp only[execOp,Instr.build]
     rw[Sem.run_bind,Sem.run_bind,ez]
     simp only[Result.andThen_ok]
     rw[Sem.run_bind,Xkp u1]
     simp only[Result.andThen_ok]
     rw[Sem.run_bind,hm]
     simp only[Result.andThen_ok]
     rw[ezl,Array.toList_map,f1]
     rfl
   . have:=Yj6 (Xx5 (Xvb f2))
     rw[Xpn] at this
     exact this
 . simp only[h0,if_false] at u3
   obtain⟨E,e,ei,ev,e1,e2,e3,e4,e5⟩:=u3
   subst e
   have hb:(z.comps.all λc=>Nat.beq c.size ti.e.size&&(c.ag||Nat.beq c.size 1))=true:=by
    unfold Yjs at hb
    split at hb
    . rename_i h;exact absurd h h0
    . exact hb
   have hb1:∀c∈z.comps,c.size=ti.e.size/\(c.ag=false->c.size=1):=λc hc=>by
    have:=W1n.1 hb c hc
    simp only[W0g,W3q] at this
    exact⟨W0e this.1,λh=>this.2.elim (λh2=>by rw[h] at h2;cases h2) W0e⟩
   obtain⟨cs',f1,f2,f3⟩:=Xv8 (ρ:=ρ) (g:=g) (place:=λi=>some (i*ti.e.size,ti.e.size)) (l:=z.comps) (θ:=θ) (W:=W) (I:=λi=>∃y,g i=some y) (λf c hc=>by
    show some _=_
    rw[Xqc (n:=ti.e.size) (λc hc=>(hb1 c hc).1) hc,(hb1 c (W0f hc)).1]) (λc hc=>(hb1 c hc).2) hs (Yf2 z) (Ynd z hzz) (λi hi=>absurd hi (Yai z i)) ha (λi y hy=>⟨y,hy⟩)
   have hm:(sizeOf E).run P W.w=.ok ti.e.size W.w:=by simp[sizeOf,typeInfo,e1,e2]
   refine .val (u:=.agg cs'.toArray) hO ?_ ?_ (λi hi=>f3 i (Xmk (Xkk hi)))
   . simp only[execOp,Instr.build]
     rw[Sem.run_bind,Sem.run_bind,ez]
     simp only[Result.andThen_ok]
     rw[Sem.run_bind,Xkp u1]
     simp only[Result.andThen_ok]
     rw[Sem.run_bind,hm]
     simp only[Result.andThen_ok]
     rw[ezl,Array.toList_map,f1]
     rfl
   . have:=Yj6 (Xx5 (Xvb f2))
     rw[Xpn] at this
     exact this
theorem Yhw{fn:Fn}(hO:Obs W θ N g)(hF:Fp tb (.makeFunc fn #[] #[]) args=some v): Good P N W θ g ρ ⟨d,.makeFunc fn #[] #[],ty,pos,aft,gd⟩ v g:=by
 have hF:some _=some v:=hF
 injection hF with hF;subst hF
 exact .val (u:=.func fn #[] #[]) hO (by simp only[execOp,Instr.makeFunc,List.map_toArray,Array.map_empty];rfl) ⟨[.func fn #[] #[]],⟨rfl,rfl⟩,rfl⟩ (λ_ h=>h.elim)
theorem Yig{T:TypeId}{x y:Operand}(hT:∀T ti,tb T=some ti->TyOk P T ti)(hO:Obs W θ N g)(hF:Fp tb (.index T x y) args=some v)(ha:Xbm W θ g ρ [x,y] args): Good P N W θ g ρ ⟨d,.index T x y,ty,pos,aft,gd⟩ v g:=by
 simp only[Fp] at hF
 split at hF<;>try cases hF
 rename_i z e eb ar s k j ht
 split at hF<;>try cases hF
 rename_i hj
 split at hF<;>cases hF
 rename_i b hb
 obtain⟨t,u1,u2,u3⟩:=(hT _ _ ht).u
 simp only at u3
 subst u3
 obtain⟨cs,h1,h2⟩:=ha.1.1
 obtain⟨h1,_⟩:=h1
 subst h1
 have h2:ρ x=.string ⟨s.toArray⟩:=h2
 obtain⟨h3,_⟩:=Xdg ha.2.1.1
 obtain⟨n,rfl⟩:=Int.eq_ofNat_of_zero_le hj
 refine .val (u:=.int .u8 b.toNat) hO ?_ (int_V ?_) (λ_ h=>h.elim)
 . simp at hb
   have hb':(ByteArray.mk s.toArray)[n]?=some b:=by
    obtain⟨hn,e⟩:=W0n.1 hb
    have hs:n<(ByteArray.mk s.toArray).size:=by show n<s.toArray.size;simpa using hn
    rw[getElem?_pos (ByteArray.mk s.toArray) n hs]
    show some (s.toArray[n]'_)=_
    simp[e]
   simp[execOp,h2,h3,Instr.index,asIntOf,Xkp u1,hb']
 . have:=b.toNat_lt
   simp only[inR,IntKind.wrap,IntKind.bits,IntKind.signed];simp;omega
theorem Ybh{a:AV}{v:Value}(h:Ybi a=true)(hv:AV.V W θ a v): AV.C W θ a [v]:=by
 unfold Ybi at h
 split at h<;>try cases h
 all_goals (obtain⟨cs,hc,e⟩:=hv;first | (obtain⟨b,h1,h2⟩:=hc;subst h2;subst e;exact⟨b,h1,rfl⟩) | (have hc':=hc;obtain⟨h1,h2⟩:=hc';subst h1;subst e;exact⟨rfl,h2⟩) | (have hc:cs=_:=hc;subst hc;subst e;exact rfl))
theorem Yjm: ∀ {l:List AV} {xs:List Operand} {a:AV},chA l=some a->Xbm W θ g ρ xs l->AV.C W θ a (xs.map ρ)/\∀i,a.ids i->∃y,g i=some y
 | [],_,_,h,_=>by cases h
 | [b],[x],a,h,hv=>by
  simp only[chA] at h
  split at h<;>cases h
  rename_i h1
  exact⟨Ybh h1 hv.1.1,hv.1.2⟩
 | b::c::l,x::xs,a,h,hv=>by
  simp only[chA] at h
  split at h<;>cases h
  rename_i c' h1 h2
  obtain⟨k1,k2⟩:=Yjm (l:=c::l) h2 hv.2
  exact⟨⟨[ρ x],xs.map ρ,rfl,Ybh h1 hv.1.1,k1⟩,λi hi=>hi.elim (hv.1.2 i) (k2 i)⟩
 | [_],[],_,_,h=>h.elim
 | [_],_::_::_,_,_,h=>h.2.elim
 | _::_::_,[],_,_,h=>h.elim
theorem Ydw{f:Nat}{l:List Operand}{args:List AV}{a:AV}(hO:Obs W θ N g)(ha:Xbm W θ g ρ l args)(h:chA args=some a): Good P N W θ g ρ ⟨d,.makeFunc (.func f) #[] l.toArray,ty,pos,aft,gd⟩ (.fm f a) g:=by
 obtain⟨k1,k2⟩:=Yjm h ha
 exact .val (u:=.func (.func f) #[] (l.map ρ).toArray) hO (by simp only[execOp,Instr.makeFunc,List.map_toArray,Array.map_empty];rfl) ⟨[.func (.func f) #[] (l.map ρ).toArray],⟨_,k1,rfl⟩,rfl⟩ k2
theorem Ydx{f o:Nat}{x:Operand}(hO:Obs W θ N g)(ha:Xbm W θ g ρ [x] [.ptr o 0]): Good P N W θ g ρ ⟨d,.makeFunc (.func f) #[] #[x],ty,pos,aft,gd⟩ (.fn f o) g:=by
 obtain⟨b,h1,h2⟩:=Xja ha.1.1
 exact .val (u:=.func (.func f) #[] #[.pointer (some ⟨b,0,none⟩)]) hO (by simp only[execOp,Instr.makeFunc,List.map_toArray,Array.map_empty,W4h,List.map_nil,h2];rfl) ⟨[.func (.func f) #[] #[.pointer (some ⟨b,0,none⟩)]],⟨b,h1,rfl⟩,rfl⟩ (λi h=>by
  have h:i=o:=h
  subst h;exact ha.1.2 _ rfl)
end
end
section
section
variable{P:Program}{N:Nat->Prop}{W:GW}{θ:Loc}{g:Hp}{ρ:Operand->Value}
variable{tb:Nat->Option TI}{dd:Nat}{d:Option Nat}{ty:TypeId}{pos:String}{aft:Array Edge}{gd:Option (Nat×Bool)}{args:List AV}{v:AV}{us:List (Nat×Ob)}
theorem Xh3{T:TypeId}{ti:TI}(hk:TyOk P T ti){b off:Nat}{w:World}{y:AV}{cs:List Value}(hy:AV.C W θ y cs)(h1:y.size=ti.z.size)(h2:y.ag=ti.z.ag)(h3:y.ag=false->y.size=1)
 (hc:∀j u,cs[j]?=some u->w.cell? ⟨b,off+j,none⟩=some u):(loadVar T ⟨b,off,none⟩).run P w=.ok (mkv y.ag cs) w:=by
 obtain⟨ii,v0,i1,i2,i3,i4,i5⟩:=hk.i
 obtain⟨t,u1,u2,_⟩:=hk.u
 have hl:=AV.c_len y hy
 have hcells:=run_loadCells (P:=P) (b:=b) (off:=off) (w:=w) cs 0 #[] (λj v hj=>by simpa using hc j v hj)
 have hs:(sizeOf T).run P w=.ok cs.length w:=by simp[sizeOf,typeInfo,program,bind,Sem.bind,Sem.run,pure,i1,i2,<-h1,hl]
 unfold loadVar
 rw[Sem.run_bind,Xl7 u1 (u2.trans h2.symm)]
 cases e:y.ag with
 | true =>
  simp only[Result.andThen_ok,if_true]
  rw[Sem.run_bind,hs]
  simp only[Result.andThen_ok]
  rw[Sem.run_bind]
  simp only[loadCells]
  rw[hcells]
  simp[mkv]
 | false =>
  obtain⟨c,rfl⟩:=Ye7 hy (h3 e)
  simpa [mkv] using run_load (P:=P) (hc 0 c rfl)
theorem ag1{T:TypeId}{ti:TI}(hk:TyOk P T ti)(h:ti.z.ag=false)(hp:∀a c,ti.z≠.pr a c): ti.z.size=1:=by
 cases e:ti.z<;>rw[e] at h hp<;>first | rfl | exact absurd rfl (hp _ _) | cases h
theorem Xu9{T:TypeId}{x:Operand}{ti:TI}(hk:TyOk P T ti)(hp:∀a c,ti.z≠.pr a c)(hO:Obs W θ N g){b off:Nat}{y:AV}{cs:List Value}(hx:ρ x=.pointer (some ⟨b,off,none⟩))(hy:AV.C W θ y cs)(h1:y.size=ti.z.size)(h2:y.ag=ti.z.ag)
 (hc:∀j u,cs[j]?=some u->W.w.cell? ⟨b,off+j,none⟩=some u) (hi:∀i,y.ids i->∃k,g i=some k):Good P N W θ g ρ ⟨d,.load T x,ty,pos,aft,gd⟩ y g:=by
 have hr:=Xh3 hk hy h1 h2 (λe=>by rw[h1];exact ag1 hk (by rw[<-h2];exact e) hp) hc
 refine .val hO ?_ (Yj6 hy) hi
 simp only[execOp,hx,Instr.loadAt,Instr.sureAddr]
 rw[Sem.run_bind]
 show Result.andThen ((loadVar T ⟨b,off,none⟩).run P W.w) _=_
 rw[hr]
 rfl
theorem Xuz{u m w:List Value}{j:Nat}{v:Value}(h:m[j]?=some v): (u++(m++w))[u.length+j]?=some v:=by
 rw[W0u (by omega),W3n,W1a (by
  by_cases h':j<m.length
  . exact h'
  . rw[W1x (by omega)] at h;cases h)]
 exact h
theorem Xql{s:Nat}{gg:Bool}{x:D}(h:x.size=s)(h':x.ag=gg): (nb x).size=s/\(nb x).ag=gg:=⟨by rw[Xob,h],by rw[Ydu,h']⟩
theorem Yl5{T:TypeId}{x:Operand}(hT:∀T ti,tb T=some ti->TyOk P T ti/\∀a c,ti.z≠.pr a c)(hO:Obs W θ N g)(hF:F tb dd g (.load T x) args=some (v,us))(ha:Xbm W θ g ρ [x] args):
 us=[]/\Good P N W θ g ρ ⟨d,.load T x,ty,pos,aft,gd⟩ v g:=by
 simp only[F] at hF
 split at hF<;>try cases hF
 rename_i ti hti
 obtain⟨hk,hp⟩:=hT _ _ hti
 split at hF<;>try cases hF
 . split at hF<;>cases hF
   rename_i hf
   obtain⟨f1,f2⟩:=Xms hf
   obtain⟨b,off,e,h1,h2,h3⟩:=Yoe ha.1.1
   exact⟨rfl,Xu9 hk hp hO h1 (Ykp h2) (Xql f1 f2).1 (Xql f1 f2).2 (λj u hj=>(h3 j u hj).1) (λi hi=>absurd hi (Xmg _ _))⟩
 . split at hF<;>try cases hF
   rename_i a hg
   split at hF<;>cases hF
   rename_i hs
   obtain⟨b,h1,e⟩:=Xja ha.1.1
   obtain⟨b',cs,T',r1,r2,r3,r4⟩:=hO.r _ _ hg
   rw[h1] at r1;injection r1 with r1;subst r1
   obtain⟨u,m,w,e1,e2,e3,e4,e5,e6⟩:=Yax hs r3
   refine⟨rfl,Xu9 hk hp hO e e3 e4 e5 (λj c hj=>?_) (λi hi=>hO.ids _ _ i hg (e6 i hi))⟩
   rw[Xa9 r2,e1,<-e2]
   exact Xuz hj
 . split at hF<;>try cases hF
   rename_i sz' xs hg
   split at hF<;>try cases hF
   rename_i hsz
   subst hsz
   split at hF<;>try cases hF
   rename_i y hy
   split at hF<;>cases hF
   rename_i z hz
   obtain⟨b,h1,e⟩:=Yk0 ha.1.1
   obtain⟨b',cs,T',r1,r2,r3,r4,r5,r6,r7⟩:=hO.r _ _ hg
   rw[h1] at r1;injection r1 with r1;subst r1
   obtain⟨ce,he,_,hf⟩:=r6 _ _ hy
   obtain⟨u,m,w,e1,e2,e3,e4,e5⟩:=Xtd hz he
   refine⟨rfl,Xu9 hk hp hO e (Ykp e3) (Xql e4 e5).1 (Xql e4 e5).2 (λj c hj=>?_) (λi hi=>absurd hi (Xmg _ _))⟩
   rw[Xa9 r2,W4r]
   exact hf _ _ (by rw[e1,<-e2];exact Xuz hj)
theorem Ym2{T:TypeId}(hT:∀T ti,tb T=some ti->TyOk P T ti/\∀a c,ti.z≠.pr a c)(hO:Obs W θ N g)(hN:∀b,W.size<=b->N b)(hB:dd<1000000)(hF:F tb dd g (.alloc T) args=some (v,us)):
 Good P N W θ g ρ ⟨d,.alloc T,ty,pos,aft,gd⟩ v (Xbe g us):=by
 simp only[F] at hF
 split at hF<;>cases hF
 rename_i ti hti hg
 obtain⟨hk,hp⟩:=hT _ _ hti
 obtain⟨ii,v0,i1,i2,i3,i4,i5⟩:=hk.i
 refine⟨_,_,.value (.pointer (some ⟨W.size,0,none⟩)),?_,Stp.push (c:=0) hO hN hB hg (.cells v0.cells T) (λ_=>True) (x:=.var (zA ti.z)) ⟨W.size,ti.z.zc,T,by simp,?_,Ycj hk.z,λi=>.inr ⟨rfl,trivial⟩⟩ (λi hi=>absurd hi (Xho _ _)),
  .inr ⟨_,rfl,Xrw (by simp)⟩,λi hi=>⟨_,by subst hi;exact Xaj _ _ _⟩⟩
 . have hz:(zeroValue T).run P W.w=.ok v0 W.w:=by simp[zeroValue,typeInfo,program,bind,Sem.bind,Sem.run,pure,i1,i3]
   simp only[execOp,Instr.alloc]
   rw[Sem.run_bind,Sem.run_bind,hz]
   rfl
 . rw[<-i4,Array.toArray_toList]
   exact Xbc ..
theorem Ymv{T:TypeId}{x:Operand}(hO:Obs W θ N g)(hN:∀b,W.size<=b->N b)(hB:dd<1000000)(hF:F tb dd g (.box T x) args=some (v,us))(ha:Xbm W θ g ρ [x] args):
 Good P N W θ g ρ ⟨d,.box T x,ty,pos,aft,gd⟩ v (Xbe g us):=by
 simp only[F] at hF
 split at hF<;>try cases hF
 rename_i a hg
 split at hF<;>cases hF
 rename_i hpl
 obtain⟨hc,_⟩:=Xgp hpl ha.1.1 (Xf3 hpl)
 refine⟨_,_,.value (.pointer (some ⟨W.size,0,none⟩)),rfl,Stp.push (c:=0) hO hN hB hg (.cells (ρ x).cells T) (λ_=>True) (x:=.var a) ⟨W.size,(ρ x).cells.toList,T,by simp,?_,?_,λi=>.inr ⟨rfl,trivial⟩⟩ ha.1.2,
  .inr ⟨_,rfl,Xrw (by simp)⟩,λi hi=>⟨_,by subst hi;exact Xaj _ _ _⟩⟩
 . rw[Array.toArray_toList]
   exact Xbc ..
 . exact AV.c_mono (Xeg _ _ _) a (λi hi=>if_neg λe=>by obtain⟨y,hy⟩:=ha.1.2 i hi;rw[e,hg] at hy;cases hy) hc
theorem Xl6{T:TypeId}{ti:TI}(hk:TyOk P T ti){b off:Nat}{w:World}{U:TypeId}{c:List Value}{v:Value}(hb:w.heap[b]?=some (.cells c.toArray U (0,0)))
 (hs:v.cells.toList.length=ti.z.size) (hl:off+ti.z.size<=c.length) (h1:∀u∈v.cells.toList,Xf4 u=true) :
 (storeVar T ⟨b,off,none⟩ v).run P w=.ok () (Xh2 w b (.cells (spl c off v.cells.toList).toArray U (0,0))):=by
 obtain⟨ii,u,e1,e2,e3,_⟩:=hk.i
 have h2:(sizeOf T).run P w=.ok ti.z.size w:=by simp[sizeOf,typeInfo,program,bind,Sem.bind,Sem.run,pure,e1,e2]
 unfold storeVar
 rw[Sem.run_bind,h2]
 have h3:v.cells.size=ti.z.size:=by simpa using hs
 simp only[Result.andThen_ok,h3]
 simp only[ne_eq,not_true,if_false]
 have:=Xdb (P:=P) (off:=off) v.cells.toList w 0 c hb (by rw[hs];omega) h1
 simpa using this
theorem Xts{T:TypeId}{x y:Operand}{ti:TI}(hk:TyOk P T ti){b off:Nat}{U:TypeId}{c:List Value}(hx:ρ x=.pointer (some ⟨b,off,none⟩))(hb:W.w.heap[b]?=some (.cells c.toArray U (0,0)))
 (hs:(ρ y).cells.toList.length=ti.z.size) (hl:off+ti.z.size<=c.length) (h1:∀u∈(ρ y).cells.toList,Xf4 u=true) :
 (execOp ρ ⟨none,.store T x y,ty,pos,aft,gd⟩).run P W.w=.ok .skip (W.put b (.cells (spl c off (ρ y).cells.toList).toArray U (0,0)) (λ_=>True)).w:=by
 simp only[execOp,hx,Instr.storeAt,Instr.sureAddr]
 rw[Sem.run_bind,Sem.run_bind]
 show Result.andThen (Result.andThen (Result.ok _ _) _) _=_
 simp only[Result.andThen_ok]
 rw[Xl6 hk hb hs hl h1]
 rfl
theorem Ylh{T:TypeId}{x y:Operand}(hT:∀T ti,tb T=some ti->TyOk P T ti/\∀a c,ti.z≠.pr a c)(hO:Obs W θ N g)(hF:F tb dd g (.store T x y) args=some (v,us))(ha:Xbm W θ g ρ [x,y] args):
 Good P N W θ g ρ ⟨none,.store T x y,ty,pos,aft,gd⟩ v (Xbe g us):=by
 simp only[F] at hF
 split at hF<;>try cases hF
 rename_i ti hti
 obtain⟨hk,hp⟩:=hT _ _ hti
 split at hF<;>try cases hF
 . rename_i o off v1
   split at hF<;>try cases hF
   rename_i a hg
   split at hF<;>cases hF
   rename_i a' hsz hup
   rw[W0g] at hsz
   obtain⟨hpl,hsz⟩:=hsz
   have hsz:=W0e hsz
   obtain⟨b,h1,e⟩:=Xja ha.1.1
   obtain⟨b',cs,T',r1,r2,r3,r4⟩:=hO.r _ _ hg
   rw[h1] at r1;injection r1 with r1;subst r1
   obtain⟨hv,_⟩:=Xgp hpl ha.2.1.1 (Xf3 hpl)
   have hvl:=AV.c_len v1 hv
   obtain⟨u,m,w,e1,e2,e3,e4,e5⟩:=Yar hv hup r3
   have hrun:=Xts (P:=P) (ty:=ty) (pos:=pos) (aft:=aft) (gd:=gd) hk e r2 (by rw[hvl,hsz]) (by rw[e1];simp;omega) (AV.c_one v1 hv)
   have hspl:spl cs off (ρ y).cells.toList=u++((ρ y).cells.toList++w):=by rw[e1,<-e2];exact Xpr _ _ _ _ (by rw[hvl,e3])
   have hle:=Xg2 W b cs (spl cs off (ρ y).cells.toList) T' (λ_=>True) r2 (λi v hA=>absurd (r4 i) hA)
   refine⟨_,θ,_,hrun,Stp.put hO (t:=o) (x:=.var a') hg rfl h1 r2 (λi v hA=>absurd (r4 i) hA) (λ_ _ _=>rfl) (λ_ _=>rfl) h1 (λi z hz=>?_) (λi z hz=>?_) ⟨b,_,T',h1,Xa6 _ _ _ (Xa1 r2),?_,λi=>⟨r4 i,λ_=>trivial⟩⟩ (λi hi=>?_),.inl ⟨rfl,rfl⟩,λi hi=>hi.elim⟩
   . rcases Xaf hz with ⟨f1,f2⟩ | ⟨f1,f2⟩
     . exact .inl ⟨f1,f2⟩
     . exact .inr (.inr ⟨f2,f1⟩)
   . by_cases hio:i=o
     . subst hio;exact⟨_,Xaj _ _ _⟩
     . exact⟨z,by rw[show Xbe g [(o,Ob.var a')]=upd g o (.var a') from rfl,Xak hio];exact hz⟩
   . have:=AV.c_mono hle a' (λ_ _=>rfl) e4
     rw[<-hspl] at this
     exact this
   . rcases e5 i hi with h | h
     . exact hO.ids _ _ i hg h
     . exact ha.2.1.2 i h
 . rename_i o sz j v1
   split at hF<;>try cases hF
   rename_i sz' xs hg
   split at hF<;>try cases hF
   rename_i x1 hx1
   split at hF<;>cases hF
   rename_i hc
   obtain⟨hpl,rfl,hs1,hs2,hs3,hj⟩:=hc
   obtain⟨b,h1,e⟩:=Yk0 ha.1.1
   obtain⟨b',cs,T',r1,r2,r3,r4,r5,r6,r7⟩:=hO.r _ _ hg
   rw[h1] at r1;injection r1 with r1;subst r1
   obtain⟨hv,_⟩:=Xgp hpl ha.2.1.1 (Xf3 hpl)
   have hvl:=AV.c_len v1 hv
   have hjc:j*sz+sz<=cs.length:=by
    rw[r3,<-W2t];exact W0q _ (by omega)
   have hrun:=Xts (P:=P) (ty:=ty) (pos:=pos) (aft:=aft) (gd:=gd) hk e r2 (by rw[hvl,hs1,hs3]) (by rw[hs3];exact hjc) (AV.c_one v1 hv)
   have hle:=Xg2 W b cs (spl cs (j*sz) (ρ y).cells.toList) T' (λ_=>True) r2 (λi v hA=>absurd (r7 i) hA)
   have hsp:∀q,(spl cs (j*sz) (ρ y).cells.toList)[q]?=if j*sz<=q/\q<j*sz+sz then (ρ y).cells.toList[q-j*sz]? else cs[q]?:=λq=>by
    rw[Xe9 _ _ _ _ (by rw[hvl,hs1];exact hjc),hvl,hs1]
   refine⟨_,θ,_,hrun,Stp.put hO (t:=o) (x:=.arr sz (xs.set j x1)) hg rfl h1 r2 (λi v hA=>absurd (r7 i) hA) (λ_ _ _=>rfl) (λ_ _=>rfl) h1 (λi z hz=>?_) (λi z hz=>?_)
    ⟨b,_,T',h1,Xa6 _ _ _ (Xa1 r2),by rw[W2n,Xdj];exact r3,r4,by simpa using r5,λi x hx=>?_,λi=>⟨r7 i,λ_=>trivial⟩⟩ (λi hi=>hi.elim),.inl ⟨rfl,rfl⟩,λi hi=>hi.elim⟩
   . rcases Xaf hz with ⟨f1,f2⟩ | ⟨f1,f2⟩
     . exact .inl ⟨f1,f2⟩
     . exact .inr (.inr ⟨f2,f1⟩)
   . by_cases hio:i=o
     . subst hio;exact⟨_,Xaj _ _ _⟩
     . exact⟨z,by rw[show Xbe g [(o,Ob.arr sz (xs.set j x1))]=upd g o (.arr sz (xs.set j x1)) from rfl,Xak hio];exact hz⟩
   . rw[W2n]
     by_cases hij:i=j
     . subst hij
       rw[W2w hj] at hx
       injection hx with hx;subst hx
       refine⟨_,D.mono hle _ (Xly hx1 hv),hs2,λq c hq=>?_⟩
       have hql:q<sz:=by
        rw[<-hs1,<-hvl]
        by_cases h:q<(ρ y).cells.toList.length
        . exact h
        . rw[W1x (by omega)] at hq;cases hq
       rw[hsp,if_pos (by omega),W3n]
       exact hq
     . rw[W1w (λh=>hij h.symm)] at hx
       obtain⟨e1,e2,e3,e4⟩:=r6 i x hx
       refine⟨e1,D.mono hle _ e2,e3,λq c hq=>?_⟩
       have hql:q<sz:=by
        rw[<-e3,<-D.at_len x e2]
        by_cases h:q<e1.length
        . exact h
        . rw[W1x (by omega)] at hq;cases hq
       rw[hsp,if_neg ?_]
       . exact e4 q c hq
       . rcases W6z hij with h | h
         . have:i*sz+sz<=j*sz:=by rw[<-W2t];exact W0q _ (by omega)
           omega
         . have:j*sz+sz<=i*sz:=by rw[<-W2t];exact W0q _ (by omega)
           omega
end
end
section
def AtL(W:GW)(sz:Nat)(xs:List D)(cs:List Value): Prop:=∀i x,xs[i]?=some x->∃e,D.At W x e/\x.size=sz/\∀j v,e[j]?=some v->cs[i*sz+j]?=some v
theorem Xbj{α:Type _}{l:List α}{i:Nat}{x:α}(h:l[i]?=some x): i<l.length:=by
 by_cases h':i<l.length
 . exact h'
 . rw[W1x (by omega)] at h;cases h
theorem AtL.mono{W W':GW}{sz:Nat}{xs:List D}{cs:List Value}(l:LeF W W')(h:AtL W sz xs cs): AtL W' sz xs cs:=λi x hi =>
 let ⟨e,h1,h2,h3⟩:=h i x hi;⟨e,D.mono l x h1,h2,h3⟩
theorem AtL.ext{W:GW}{sz:Nat}{xs:List D}{cs ds:List Value}(h:AtL W sz xs cs)(hd:∀q v,q<xs.length*sz->cs[q]?=some v->ds[q]?=some v): AtL W sz xs ds:=λi x hi=>by
 obtain⟨e,h1,h2,h3⟩:=h i x hi
 refine⟨e,h1,h2,λj v hj=>hd _ v ?_ (h3 j v hj)⟩
 have hjl:=Xbj hj
 rw[D.at_len x h1,h2] at hjl
 have hil:=Xbj hi
 have:i*sz+sz<=xs.length*sz:=by rw[<-W2t];exact W0q _ (by omega)
 omega
theorem AtL.app{W:GW}{sz:Nat}{xs ys:List D}{cs ds:List Value}(h:AtL W sz xs cs)(k:AtL W sz ys ds)(hl:cs.length=xs.length*sz): AtL W sz (xs++ys) (cs++ds):=λi x hi=>by
 by_cases hx:i<xs.length
 . rw[W1a hx] at hi
   obtain⟨e,h1,h2,h3⟩:=h i x hi
   exact⟨e,h1,h2,λj v hj=>by
    have:=h3 j v hj
    rw[W1a (Xbj this)];exact this⟩
 . rw[W0u (by omega)] at hi
   obtain⟨e,h1,h2,h3⟩:=k _ x hi
   refine⟨e,h1,h2,λj v hj=>?_⟩
   have:=h3 j v hj
   obtain⟨q,rfl⟩:=Nat.le.dest (W5t.1 hx)
   rw[W3n] at this
   rw[W0u (by rw[hl,W1h];omega),hl,show (xs.length+q)*sz+j-xs.length*sz=q*sz+j by rw[W1h];omega]
   exact this
theorem AtL.row{W:GW}{sz b off:Nat}{xs:List D}{cs:List Value}(h:AtL W sz xs cs)(hf:∀q v,q<xs.length*sz->cs[q]?=some v->Fr W b (off+q) v): D.Row W b sz off xs :=
 D.row_of λi x hi=>by
  obtain⟨e,h1,h2,h3⟩:=h i x hi
  refine⟨e,h1,h2,λj v hj=>?_⟩
  rw[W4r]
  refine hf _ v ?_ (h3 j v hj)
  have hjl:=Xbj hj
  rw[D.at_len x h1,h2] at hjl
  have hil:=Xbj hi
  have:i*sz+sz<=xs.length*sz:=by rw[<-W2t];exact W0q _ (by omega)
  omega
theorem Xhi{W:GW}{b sz:Nat}: ∀ {xs:List D} {off:Nat},D.Row W b sz off xs->∃cs:List Value,cs.length=xs.length*sz/\(∀j u,cs[j]?=some u->Fr W b (off+j) u)/\(∀u∈cs,Xf4 u=true)/\AtL W sz xs cs
 | [],off,_=>⟨[],by simp,λj u h=>by simp at h,λu h=>by simp at h,λi x h=>by simp at h⟩
 | x::xs,off,⟨⟨e,h1,h2,h3⟩,h4⟩=>by
  obtain⟨cs,k1,k2,k3,k4⟩:=Xhi h4
  have hl:e.length=sz:=by rw[D.at_len x h1,h2]
  have one:AtL W sz [x] e:=λi y hi=>by
   cases i with
   | zero=>simp at hi;subst hi;exact⟨e,h1,h2,λj v hj=>by simpa using hj⟩
   | succ i=>simp at hi
  refine⟨e++cs,by rw[W0d,hl,k1,W0s,W2t];omega,λj u hj=>?_,λu hu=>?_,by simpa using one.app k4 (by simpa using hl)⟩
  . by_cases hjl:j<e.length
    . rw[W1a hjl] at hj;exact h3 j u hj
    . rw[W0u (by omega)] at hj
      have:=k2 _ u hj
      rwa[show off+sz+(j-e.length)=off+j by omega] at this
  . rcases W1s.1 hu with h | h
    . exact D.at_one x h1 u h
    . exact k3 u h
def Xrs(z:List Value): Nat->List Value
 | 0=>[]
 | k+1=>z++Xrs z k
theorem Xfc(z:List Value)(k:Nat): (Xrs z k).length=k*z.length:=by
 induction k with
 | zero=>simp[Xrs]
 | succ k ih=>simp only[Xrs,W0d,ih,W2t];omega
theorem Xp6(z:List Value)(k i j:Nat)(hi:i<k)(hj:j<z.length): (Xrs z k)[i*z.length+j]?=z[j]?:=by
 induction k generalizing i with
 | zero=>omega
 | succ k ih =>
  simp only[Xrs]
  cases i with
  | zero=>rw[W4o,W1k,W1a hj]
  | succ i =>
   rw[W2t,W0u (by omega),show i*z.length+z.length+j-z.length=i*z.length+j by omega]
   exact ih i (by omega)
theorem Xpb(z:List Value)(k:Nat)(h:0<z.length)(zero:Array Value)(hz:zero.toList=z): (Array.range (k*z.length)).map (λi=>zero[i%zero.size]!)=(Xrs z k).toArray:=by
 apply Array.ext'
 apply W3y
 intro q
 have hzs:zero.size=z.length:=by rw[<-hz];simp
 by_cases hq:q<k*z.length
 . have hdm:=W2o q z.length
   have hm:=W1q q h
   have hd:q/z.length<k:=W4t (by rw[W1i];exact hq)
   have:=Xp6 z k (q/z.length) (q%z.length) hd hm
   rw[show q/z.length*z.length+q%z.length=q by rw[W1i];exact hdm] at this
   simp only[Array.toList_map,Array.toList_range,W1p]
   rw[this,List.getElem?_range hq]
   have hz2:zero[q%z.length]?=z[q%z.length]?:=by rw[<-hz];simp
   simp only[W4k,hzs]
   rw[W0c hm] at hz2 |-
   have hlt:q%z.length<zero.size:=by omega
   rw[W6u hlt] at hz2
   rw[getElem!_pos zero _ hlt]
   exact hz2
 . rw[W1x (by simp;omega),W1x (by simp[Xfc];omega)]
theorem D.size_pos: ∀x:D,0<x.size:=λx=>by
 induction x using D.ind with
 | leaf x h1 h2=>cases x<;>first | exact absurd rfl (h1 _) | exact absurd rfl (h2 _ _) | exact W7k
 | st a ih=>exact ih
 | pr a c ih _=>exact W0v ih (W5l _ _)
theorem D.zc_len(x:D): x.zc.length=x.size:=by
 induction x using D.ind with
 | leaf x h1 h2=>cases x<;>first | exact absurd rfl (h1 _) | exact absurd rfl (h2 _ _) | rfl
 | st a ih=>exact ih
 | pr a c ih1 ih2=>rw[D.zc,W0d,ih1,ih2];rfl
section
variable{P:Program}{N:Nat->Prop}{W:GW}{θ:Loc}{g:Hp}{ρ:Operand->Value}
variable{tb:Nat->Option TI}{dd:Nat}{d:Option Nat}{ty:TypeId}{pos:String}{aft:Array Edge}{gd:Option (Nat×Bool)}{args:List AV}{v:AV}{us:List (Nat×Ob)}
theorem Yl1{T:TypeId}{x y:Operand}(hT:∀T ti,tb T=some ti->TyOk P T ti/\∀a c,ti.z≠.pr a c)(hO:Obs W θ N g)(hN:∀b,W.size<=b->N b)(hB:dd<1000000)(hF:F tb dd g (.makeSlice T x y) args=some (v,us))(ha:Xbm W θ g ρ [x,y] args):
 Good P N W θ g ρ ⟨d,.makeSlice T x y,ty,pos,aft,gd⟩ v (Xbe g us):=by
 simp only[F] at hF
 split at hF<;>try cases hF
 rename_i ti k m k' c hti hg
 obtain⟨hk,hp⟩:=hT _ _ hti
 obtain⟨t,u1,_,u3⟩:=hk.u
 split at hF<;>try cases hF
 rename_i sz xs0 hz
 rw[hz] at u3
 obtain⟨E,e,hsz,hez,ii,v0,i1,i2,i3,i4,i5⟩:=u3
 subst e
 split at hF<;>cases hF
 rename_i hc
 obtain⟨h0,hmc,hr1,hr2⟩:=hc
 obtain⟨e1,_⟩:=Xdg ha.1.1
 obtain⟨e2,_⟩:=Xdg ha.2.1.1
 have hzl:ti.e.zc.length=sz:=by rw[D.zc_len,hsz]
 have hpos:0<sz:=by rw[hsz];exact D.size_pos _
 have hrow:=Xpb ti.e.zc c.toNat (by omega) v0.cells i5
 rw[hzl] at hrow
 refine⟨W.push (.cells (Xrs ti.e.zc c.toNat).toArray E) (λ_=>True),_,.value (.slice (some ⟨W.size,0,none⟩) m.toNat c.toNat),?_,Stp.push (c:=c.toNat) hO hN hB hg (.cells (Xrs ti.e.zc c.toNat).toArray E) (λ_=>True)
  (x:=.arr sz (List.replicate m.toNat ti.e)) ⟨W.size,Xrs ti.e.zc c.toNat,E,by simp,Xbc ..,by simp[Xfc,hzl],by simpa using hr2,by simp;omega,λi x hi=>?_,λi=>.inr ⟨rfl,trivial⟩⟩ (λi hi=>hi.elim),
  .inr ⟨_,rfl,[.slice (some ⟨W.size,0,none⟩) m.toNat c.toNat],⟨W.size,some ⟨W.size,0,none⟩,by simp,by simp;omega,by simpa using hr2,by simp,λ_=>by rw[W4o]⟩,rfl⟩,λi hi=>⟨_,by subst hi;exact Xaj _ _ _⟩⟩
 . have:=run_make (P:=P) W.w T E ii v0 u1 i1 i4 k k' m c h0 hmc (by
    rw[i3]
    have h2:((c.toNat*ti.eb:Nat):Int)<=((140737488355328:Nat):Int):=Int.ofNat_le.2 hr1
    rw[W1i,W2p,W2x (by omega)] at h2
    omega) (by omega)
   simp only[execOp,e1,e2]
   rw[Sem.run_bind,this,i2,<-hsz]
   have h2:madeCells v0.cells (c.toNat*sz)=(Xrs ti.e.zc c.toNat).toArray:=hrow
   rw[h2]
   rfl
 . have hi':=W4u (a:=ti.e) (n:=m.toNat) (i:=i)
   rw[hi'] at hi
   split at hi<;>cases hi
   rename_i hlt
   refine⟨ti.e.zc,D.at_zc _ hez,hsz.symm,λj w hj=>?_⟩
   rw[<-hzl,Xp6 _ _ _ _ (by omega) (Xbj hj)]
   exact hj
theorem Xqx(sz:Nat): ∀ {ps:List (Nat×Operand)} {k:Nat} {pre rest:List Value},Xr3 k ps=true->pre.length=k*sz->rest.length=ps.length*sz->(∀x∈ps,(ρ x.2).cells.toList.length=sz) ->
 Instr.fill (λi=>some (i*sz,sz)) (pre++rest).toArray (ps.map λx=>(x.1,ρ x.2))=some (pre++ps.flatMap λx=>(ρ x.2).cells.toList).toArray
 | [],k,pre,rest,_,_,hr,_=>by
  have:rest=[]:=W0o (by simpa using hr)
  subst this;rfl
 | (i,x)::ps,k,pre,rest,hi,hp,hr,hx=>by
  simp only[Xr3,W0g] at hi
  have e:=W0e hi.1
  subst e
  have hv:=hx (i,x) (W0l ..)
  have hv':(ρ x).cells.size=sz:=by simpa using hv
  have hrl:sz<=rest.length:=by rw[hr,W0s,W2t];omega
  have hrs:rest=rest.take sz++rest.drop sz:=(W4n ..).symm
  have htl:(rest.take sz).length=sz:=by rw[W0j];omega
  simp only[W4h,Instr.fill]
  have hc0:(decide ((ρ x).cells.size≠sz)||decide (i*sz+(ρ x).cells.size>(pre++rest).toArray.size))=false:=by
   simp[hv',hp];omega
  rw[if_neg (by rw[hc0];simp),Xnd]
  have:spl (pre++rest) (i*sz) (ρ x).cells.toList=(pre++(ρ x).cells.toList)++rest.drop sz:=by
   rw[hrs,<-hp,Xpr _ _ _ _ (by rw[hv,htl]),<-hrs];simp
  rw[this,Xqx sz hi.2 (by rw[W0d,hp,hv,W2t]) (by rw[W1l,hr,W0s,W2t];omega) (λy hy=>hx y (W0p _ hy))]
  simp
theorem Yav{z:D}{sz:Nat}: ∀ {xs:List D} {asx:List AV} {ops:List Operand},Yct z sz asx=some xs->Xbm W θ g ρ ops asx->(∀x∈ops,(ρ x).cells.toList.length=sz)/\AtL W sz xs (ops.flatMap λx=>(ρ x).cells.toList)/\xs.length=ops.length
 | xs,[],[],h,_=>by simp only[Yct] at h;injection h with h;subst h;exact⟨λx h=>by simp at h,λi x h=>by simp at h,rfl⟩
 | xs,a::asx,x::ops,h,ha=>by
  simp only[Yct] at h
  split at h<;>try cases h
  rename_i y hy
  split at h<;>try cases h
  rename_i hc
  split at h<;>cases h
  rename_i ys hys
  simp only[W0g,W3q] at hc
  obtain⟨⟨⟨hp,hc1⟩,hc2⟩,hc3⟩:=hc
  have hc1:=W0e hc1
  have hc2:=W0e hc2
  obtain⟨k1,k2,k3⟩:=Yav hys ha.2
  obtain⟨hv,_⟩:=Xgp hp ha.1.1 (Xf3 hp)
  have hl:=AV.c_len a hv
  have one:AtL W sz [y] (ρ x).cells.toList:=λi u hi=>by
   cases i with
   | zero=>simp at hi;subst hi;exact⟨_,Xly hy hv,hc1,λj v hj=>by simpa using hj⟩
   | succ i=>simp at hi
  refine⟨λu hu=>?_,?_,by simp[k3]⟩
  . rcases W1j.1 hu with h | h
    . subst h;rw[hl,hc2]
    . exact k1 u h
  . simpa using one.app k2 (by simp[hl,hc2])
 | _,[],_::_,_,ha=>ha.elim
 | _,_::_,[],_,ha=>ha.elim
theorem Ymx{T n:Nat}{ps:Array (Nat×Operand)}(hT:∀T ti,tb T=some ti->TyOk P T ti/\∀a c,ti.z≠.pr a c)(hO:Obs W θ N g)(hF:Fp tb (.buildSlice T n ps) args=some v)(ha:Xbm W θ g ρ (ps.toList.map (·.2)) args):
 Good P N W θ g ρ ⟨d,.buildSlice T n ps,ty,pos,aft,gd⟩ v g:=by
 simp only[Fp] at hF
 split at hF<;>try cases hF
 rename_i ti hti
 obtain⟨hk,hp⟩:=hT _ _ hti
 obtain⟨t,u1,_,u3⟩:=hk.u
 split at hF<;>try cases hF
 rename_i sz xs0 hz
 rw[hz] at u3
 obtain⟨E,e,hsz,hez,ii,v0,i1,i2,i3,i4,i5⟩:=u3
 subst e
 have key:∀xs,(Nat.ble (n*sz) 16777216&&Nat.beq ps.size n&&Xr3 0 ps.toList)=true->Yct ti.e sz args=some xs ->
  ∃cs:List Value,(execOp ρ ⟨d,.buildSlice T n ps,ty,pos,aft,gd⟩).run P W.w=.ok (.value (.slice (some ⟨W.size,0,none⟩) n n)) (W.push (.cells cs.toArray E) (λ_=>False)).w/\AtL W sz xs cs/\xs.length=n/\n*sz<=16777216:=by
  intro xs hc hxs
  simp only[W0g] at hc
  obtain⟨⟨hc1,hc2⟩,hc3⟩:=hc
  have hc1:n*sz<=16777216:=W1g hc1
  have hc2:ps.size=n:=W0e hc2
  obtain⟨k1,k2,k3⟩:=Yav hxs ha
  have hzl:ti.e.zc.length=sz:=by rw[D.zc_len,hsz]
  have hpos:0<sz:=by rw[hsz];exact D.size_pos _
  have hpl:ps.toList.length=n:=by simpa using hc2
  have hf:=Xqx (ρ:=ρ) sz (ps:=ps.toList) (k:=0) (pre:=[]) (rest:=Xrs ti.e.zc n) hc3 (by simp) (by rw[Xfc,hzl,hpl]) (λx hx=>k1 _ (W2y.2 ⟨x,hx,rfl⟩))
  simp only[W3z] at hf
  refine⟨_,?_,k2,by rw[k3,W0i,hpl],hc1⟩
  have hn1:¬(16777216<n*sz):=by omega
  have hfm:((ps.toList.map (·.2)).flatMap λx=>(ρ x).cells.toList)=ps.toList.flatMap λx=>(ρ x.2).cells.toList:=by rw[List.flatMap_map]
  rw[hfm]
  simp only[execOp]
  rw[Sem.run_bind]
  suffices h:(Instr.buildSlice T n (ps.map λx=>(x.1,ρ x.2))).run P W.w=.ok (.slice (some ⟨W.size,0,none⟩) n n) (W.push (.cells (ps.toList.flatMap λx=>(ρ x.2).cells.toList).toArray E) (λ_=>False)).w by
   rw[h];rfl
  by_cases h0:n*sz=0
  . have hn0:n=0:=by rcases Nat.mul_eq_zero.1 h0 with h | h;exact h;omega
    subst hn0
    have hps:ps=#[]:=Array.eq_empty_of_size_eq_zero hc2
    subst hps
    simp[Instr.buildSlice,run_underlying u1,sizeOf,typeInfo,i1,i2,<-hsz,Instr.fill,newRow,Array.range_zero']
    rfl
  . have hz2:(Array.range (n*sz)).map (λq=>v0.cells[q%v0.cells.size]!)=(Xrs ti.e.zc n).toArray:=by
     have:=Xpb ti.e.zc n (by omega) v0.cells i5
     rw[hzl] at this;exact this
    simp[Instr.buildSlice,run_underlying u1,sizeOf,typeInfo,zeroValue,i1,i2,i4,<-hsz,hn1,h0,hz2,newRow,hf]
    rfl
 have fin:∀xs,(Nat.ble (n*sz) 16777216&&Nat.beq ps.size n&&Xr3 0 ps.toList)=true->Yct ti.e sz args=some xs ->
  (∀cs:List Value,AtL W sz xs cs->xs.length=n->n*sz<=16777216->AV.V (W.push (.cells cs.toArray E) (λ_=>False)) θ v (.slice (some ⟨W.size,0,none⟩) n n))->(∀i,¬v.ids i)->Good P N W θ g ρ ⟨d,.buildSlice T n ps,ty,pos,aft,gd⟩ v g:=by
  intro xs h1 h2 hv hi
  obtain⟨cs,k1,k2,k3,k4⟩:=key xs h1 h2
  exact⟨_,θ,_,k1,Stp.push0 hO _ _,.inr ⟨_,rfl,hv cs k2 k3 k4⟩,λi h=>absurd h (hi i)⟩
 split at hF<;>cases hF
 . rename_i xs h1 h2
   refine fin xs h1 h2 (λcs hc hn hL=>?_) (λ_ h=>h)
   have hpos:0<sz:=by rw[hsz];exact D.size_pos _
   have hnl:n<=n*sz:=W4c n hpos
   subst hn
   refine⟨_,⟨_,rfl,by omega,.inr ⟨W.size,rfl,(hc.mono (Xeg _ _ _)).row λq u hq hu=>⟨?_,?_⟩⟩⟩,rfl⟩
   . rw[W1k,<-hu];exact Xa9 (Xbc ..) q
   . rintro(h | ⟨_,h⟩)
     . exact absurd (W.hA _ _ h) (W7g _)
     . exact h
end
end
section
def GW.tick(W:GW): GW where
 w:=W.w.drew
 A:=W.A
 hA:=W.hA
section
variable{P:Program}{N:Nat->Prop}{W:GW}{θ:Loc}{g:Hp}{ρ:Operand->Value}
variable{tb:Nat->Option TI}{dd:Nat}{d:Option Nat}{ty:TypeId}{pos:String}{aft:Array Edge}{gd:Option (Nat×Bool)}{args:List AV}{v:AV}{us:List (Nat×Ob)}
theorem Xe7(W:GW): LeF W W.tick:=λ_ _ _ h=>h
theorem Stp.tick(h:Obs W θ N g): Stp N W W.tick θ θ g g where
 os:=_root_.rfl
 out:=_root_.rfl
 tape:=_root_.rfl
 size:=W0a _
 same:=λ_ _ _=>_root_.rfl
 A:=λ_ _ _ _=>W3x
 le:=Xe7 W
 th:=λ_ _ _=>_root_.rfl
 hi:=λ_ _=>_root_.rfl
 obs:={ r:=λo x hx=>(h.r o x hx).keep (Xe7 W) _root_.rfl (λ_ _=>_root_.rfl) (λ_ _ _=>⟨_root_.rfl,λ_ h=>h⟩),new:=h.new,dis:=h.dis,ids:=h.ids }
 dom:=λ_ y h=>⟨y,h⟩
theorem Stp.trans{W W1 W2:GW}{θ θ1 θ2:Loc}{g g1 g2:Hp}(h:Stp N W W1 θ θ1 g g1)(k:Stp N W1 W2 θ1 θ2 g1 g2): Stp N W W2 θ θ2 g g2 where
 os:=k.os.trans h.os
 out:=k.out.trans h.out
 tape:=k.tape.trans h.tape
 size:=W0k h.size k.size
 same:=λb hb hn=>(k.same b (W0v hb h.size) hn).trans (h.same b hb hn)
 A:=λb hb hn i=>(k.A b (W0v hb h.size) hn i).trans (h.A b hb hn i)
 le:=h.le.trans k.le
 th:=λi y hy=>let ⟨z,hz⟩:=h.dom i y hy;(k.th i z hz).trans (h.th i y hy)
 hi:=λi hi=>(k.hi i hi).trans (h.hi i hi)
 obs:=k.obs
 dom:=λi y hy=>let ⟨z,hz⟩:=h.dom i y hy;k.dom i z hz
theorem Xfp{T E:TypeId}{ti:TI}{ii:TypeInfo}{v0:Value}(u1:P.underlying T=some (.slice E))(i1:P.info? E=some ii)(i2:ii.size=ti.e.size)(i3:ii.bytes=ti.eb)(i4:ii.zero=some v0)(i5:v0.cells.toList=ti.e.zc)
 {p:Option Addr} {m c k c2:Nat} {q:Option Addr} {olds news:List Value} (hm:m<=c) (hp:c=0\/∃b,p=some ⟨b,0,none⟩) (ho:olds.length=m*ti.e.size)
 (hor:∀b,p=some ⟨b,0,none⟩->∀j u,olds[j]?=some u->W.w.cell? ⟨b,j,none⟩=some u) (hn:news.length=k*ti.e.size) (hnr:k=0\/∃b off,q=some ⟨b,off,none⟩/\∀j u,news[j]?=some u->W.w.cell? ⟨b,off+j,none⟩=some u)
 (hone:∀u∈news,Xf4 u=true) (hr:Xh5 (m+k) ti) (hk2:k<=c2) :
 (k=0/\(Builtin.append_ #[T,T] ty #[.slice p m c,.slice q k c2]).run P W.w=.ok (.slice p m c) W.w) \/
 (0<k/\m+k<=c/\∀b cs T',p=some ⟨b,0,none⟩->W.w.heap[b]?=some (.cells (cs:List Value).toArray T' (0,0))->cs.length=c*ti.e.size ->
  (Builtin.append_ #[T,T] ty #[.slice p m c,.slice q k c2]).run P W.w=.ok (.slice p (m+k) c) (Xh2 W.w b (.cells (spl cs (m*ti.e.size) news).toArray T' (0,0)))) \/
 (0<k/\∃c' zs,m+k<=c'/\c'<9223372036854775808/\(olds++news++zs).length=c'*ti.e.size /\
  (Builtin.append_ #[T,T] ty #[.slice p m c,.slice q k c2]).run P W.w=.ok (.slice (some ⟨W.size,0,none⟩) (m+k) c') (W.tick.w.alloc (.cells (olds++news++zs).toArray E))):=by
 rcases W2u k with hk | hk
 . subst hk
   left
   refine⟨rfl,?_⟩
   have hn0:news=[]:=W0o (by simpa using hn)
   cases p<;>cases q<;>simp[Builtin.append_,run_underlying u1,sizeOf,typeInfo,i1,Builtin.lenOf,Builtin.firstCells,loadCells,loadCellsFrom,storeCells,hm]
 . right
   rcases hnr with h | ⟨b2,off2,hq,hnc⟩
   . omega
   subst hq
   have hnl':news.length=k*ii.size:=by rw[hn,i2]
   have hnc':∀j u,news[j]?=some u->W.w.cell? ((⟨b2,off2,none⟩:Addr).add j)=some u:=λj u hj=>by rw[add0];exact hnc j u hj
   by_cases hroom:m+k<=c
   . left
     refine⟨hk,hroom,λb cs T' hpb hb hl=>?_⟩
     subst hpb
     have hfit:m*ii.size+news.length<=cs.length:=by
      rw[hnl',hl,i2,<-W1h];exact W0q _ hroom
     have hf:=run_firstCells_some (P:=P) W.w ii.size k ⟨b2,off2,none⟩ k c2 news hnl' hnc'
     have hst:=Xdb (P:=P) (off:=0+m*ii.size) news W.w 0 cs hb (by omega) hone
     simp only[W2n,W1k] at hst
     rw[<-i2]
     simp[Builtin.append_,run_underlying u1,sizeOf,typeInfo,i1,Builtin.lenOf,hroom,hf,add0,hst]
   . right
     refine⟨hk,grownCap W.w (m+k) c E,(Builtin.zeroCells v0.cells (grownCap W.w (m+k) c E-(m+k))).toList,grownCap_ge ..,?_,?_,?_⟩
     . have hlt:=hr.2
       have:=W1q (W.w.tape W.w.drawn (.appendCap (m+k) c E)) (show 0<2^63-(m+k) by omega)
       simp only[grownCap,Question.cut] at *
       omega
     . have hge:=grownCap_ge W.w (m+k) c E
       have hzs:v0.cells.size=ti.e.size:=by rw[<-D.zc_len,<-i5];simp
       rw[W0d,W0d,ho,hn,Array.length_toList,size_zeroCells,hzs,<-W1h,<-W1h]
       congr 1
       omega
     . have hfit:=growslice_fits (old:=c) (need:=m+k) (bytes:=ii.bytes) (by omega) (by rw[i3];exact hr.1)
       have h63:((m+k:Nat):Int)<=9223372036854775807:=by have:=hr.2;omega
       have fin:∀ {a b:Array Value},a=b->(Result.ok (Value.slice (some ⟨W.size,0,none⟩) (m+k) (grownCap W.w (m+k) c E)) (W.w.drew.alloc (.cells a E)):Result Value)=.ok (.slice (some ⟨W.size,0,none⟩) (m+k) (grownCap W.w (m+k) c E)) (W.tick.w.alloc (.cells b E)):=by
        rintro a b rfl;rfl
       cases p with
       | none =>
        have hc0:c=0:=by rcases hp with h | ⟨b,h⟩;exact h;cases h
        subst hc0
        have hm0:m=0:=by omega
        subst hm0
        have ho0:olds=[]:=W0o (by simpa using ho)
        subst ho0
        simp only[W1k] at *
        rw[run_append_nil (P:=P) W.w T ty E ii v0 u1 i1 i4 ⟨b2,off2,none⟩ k c2 news hnl' hnc' hk h63 (by rw[i3];have:=hr.1;omega)]
        exact fin (by simp)
       | some a =>
        have hold:∀j u,olds[j]?=some u->W.w.cell? (a.add j)=some u:=λj u hj=>by
         rcases hp with h | ⟨b,h⟩
         . have hm0:m=0:=by omega
           subst hm0
           have ho0:olds=[]:=W0o (by simpa using ho)
           rw[ho0] at hj;simp at hj
         . injection h with h;subst h;rw[add0,W1k];exact hor b rfl j u hj
        rw[run_append_grow (P:=P) W.w T ty E ii v0 u1 i1 i4 a m c olds (by rw[ho,i2]) hold ⟨b2,off2,none⟩ k c2 news hnl' hnc' (by omega) h63 hfit]
        exact fin (by simp)
theorem Ygg{z:D}{c:AV}{s:Nat}{ys:List D}{u:Value}(h:toD z c=some (.sl s ys))(hv:AV.V W θ c u): AV.V W θ (.d (.sl s ys)) u:=by
 have key:c.ag=false->(∀a,c≠.tup a)->c≠.un->AV.V W θ (.d (.sl s ys)) u:=λh1 h2 h3=>by
  obtain⟨cs,hc,e⟩:=V_c hv h2 h3
  exact⟨cs,Xly h hc,by rw[e,h1];rfl⟩
 cases c with
 | d x=>simp[toD] at h;subst h;exact hv
 | nil=>exact key rfl (λ_=>nofun) nofun
 | lit s' xs=>exact key rfl (λ_=>nofun) nofun
 | gr o s' xs=>exact key rfl (λ_=>nofun) nofun
 | st a => cases z<;>simp only[toD] at h<;>try cases h
           split at h<;>cases h
 | pr a c => cases z<;>simp only[toD] at h<;>try cases h
             split at h<;>cases h
 | _=>simp[toD] at h
theorem Ygm{z:D}{sz:Nat}{c:AV}{ys:List D}{u:Value}(hO:Obs W θ N g)(h:Xkl g z sz c=some ys)(hv:AV.V W θ c u):
 ∃q c2 news,u=.slice q ys.length c2/\ys.length<=c2/\(news:List Value).length=ys.length*sz/\(ys.length=0\/∃b off,q=some ⟨b,off,none⟩/\∀j u,news[j]?=some u->W.w.cell? ⟨b,off+j,none⟩=some u)/\(∀u∈news,Xf4 u=true)/\AtL W sz ys news:=by
 unfold Xkl at h
 split at h
 . rename_i o s l n
   split at h<;>try cases h
   rename_i s' xs hg
   split at h<;>cases h
   rename_i hc
   obtain⟨rfl,rfl,hln⟩:=hc
   obtain⟨b,p,h1,h2,h3,e,h5⟩:=Xjb hv
   obtain⟨b',cs,T',r1,r2,r3,r4,r5,r6,r7⟩:=hO.r _ _ hg
   rw[h1] at r1;injection r1 with r1;subst r1
   have hlen:((xs.drop l).take n).length=n:=by simp;omega
   rw[hlen]
   have hcl:(l+n)*s<=cs.length:=by rw[r3];exact W0q _ h2
   rw[W1h] at hcl
   have hsub:AtL W s ((xs.drop l).take n) ((cs.drop (l*s)).take (n*s)):=λi x hi=>by
    have hin:=Xbj hi
    rw[hlen] at hin
    rw[W1e,if_pos hin,W1y] at hi
    obtain⟨e,k1,k2,k3⟩:=r6 _ _ hi
    refine⟨e,k1,k2,λj v hj=>?_⟩
    have hjl:=Xbj hj
    rw[D.at_len x k1,k2] at hjl
    have:i*s+s<=n*s:=by rw[<-W2t];exact W0q _ (by omega)
    rw[W1e,if_pos (by omega),W1y,show l*s+(i*s+j)=(l+i)*s+j by rw[W1h];omega]
    exact k3 j v hj
   refine⟨_,_,(cs.drop (l*s)).take (n*s),e,by omega,by rw[W0j,W1l];omega,?_,λu hu=>?_,hsub⟩
   . rcases W2u n with hn | hn
     . exact .inl hn
     . refine .inr ⟨b,l*s,h5 (by omega),λj u hj=>?_⟩
       rw[W1e] at hj
       split at hj
       . rw[W1y] at hj
         rw[Xa9 r2];exact hj
       . cases hj
   . obtain⟨j,hj⟩:=W3a hu
     have hjl:=Xbj hj
     rw[W0j,W1l] at hjl
     have hs0:0<s:=by
      rcases W2u s with h | h
      . subst h;simp at hjl
      . exact h
     have hjn:j<n*s:=by omega
     have hdm:=W2o j s
     have hm:=W1q j hs0
     have hd:j/s<n:=W4t (by rw[W1i];exact hjn)
     obtain⟨x,hx⟩:∃x,((xs.drop l).take n)[j/s]?=some x:=⟨_,W0c (by rw[hlen];exact hd)⟩
     obtain⟨e,k1,k2,k3⟩:=hsub _ _ hx
     have hel:j%s<e.length:=by rw[D.at_len x k1,k2];exact hm
     have:=k3 _ _ (W0c hel)
     rw[show j/s*s+j%s=j by rw[W1i];exact hdm,hj] at this
     injection this with this
     rw[this];exact D.at_one x k1 _ (W6n hel)
 . rename_i o s l n
   split at h<;>try cases h
   rename_i s' xs hg
   split at h<;>cases h
   rename_i hc
   obtain⟨rfl,rfl,hln⟩:=hc
   obtain⟨b,p,h1,h2,h3,e,h5⟩:=Xo2 hv
   obtain⟨b',cs,T',r1,r2,r3,r4,r5,r6,r7⟩:=hO.r _ _ hg
   rw[h1] at r1;injection r1 with r1;subst r1
   have hlen:((xs.drop l).take n).length=n:=by simp;omega
   rw[hlen]
   have hcl:(l+n)*s<=cs.length:=by rw[r3];exact W0q _ h2
   rw[W1h] at hcl
   have hsub:AtL W s ((xs.drop l).take n) ((cs.drop (l*s)).take (n*s)):=λi x hi=>by
    have hin:=Xbj hi
    rw[hlen] at hin
    rw[W1e,if_pos hin,W1y] at hi
    obtain⟨e,k1,k2,k3⟩:=r6 _ _ hi
    refine⟨e,k1,k2,λj v hj=>?_⟩
    have hjl:=Xbj hj
    rw[D.at_len x k1,k2] at hjl
    have:i*s+s<=n*s:=by rw[<-W2t];exact W0q _ (by omega)
    rw[W1e,if_pos (by omega),W1y,show l*s+(i*s+j)=(l+i)*s+j by rw[W1h];omega]
    exact k3 j v hj
   refine⟨_,_,(cs.drop (l*s)).take (n*s),e,by omega,by rw[W0j,W1l];omega,?_,λu hu=>?_,hsub⟩
   . rcases W2u n with hn | hn
     . exact .inl hn
     . refine .inr ⟨b,l*s,h5 (by omega),λj u hj=>?_⟩
       rw[W1e] at hj
       split at hj
       . rw[W1y] at hj
         rw[Xa9 r2];exact hj
       . cases hj
   . obtain⟨j,hj⟩:=W3a hu
     have hjl:=Xbj hj
     rw[W0j,W1l] at hjl
     have hs0:0<s:=by
      rcases W2u s with h | h
      . subst h;simp at hjl
      . exact h
     have hjn:j<n*s:=by omega
     have hdm:=W2o j s
     have hm:=W1q j hs0
     have hd:j/s<n:=W4t (by rw[W1i];exact hjn)
     obtain⟨x,hx⟩:∃x,((xs.drop l).take n)[j/s]?=some x:=⟨_,W0c (by rw[hlen];exact hd)⟩
     obtain⟨e,k1,k2,k3⟩:=hsub _ _ hx
     have hel:j%s<e.length:=by rw[D.at_len x k1,k2];exact hm
     have:=k3 _ _ (W0c hel)
     rw[show j/s*s+j%s=j by rw[W1i];exact hdm,hj] at this
     injection this with this
     rw[this];exact D.at_one x k1 _ (W6n hel)
 . split at h<;>try cases h
   rename_i s ys' hd
   split at h<;>cases h
   rename_i hs
   subst hs
   obtain⟨p,c2,e,h1,h2,h3⟩:=V_sl (Ygg hd hv)
   rcases h3 with h3 | ⟨b,off,hp,hr⟩
   . subst h3
     exact⟨p,c2,[],e,h1,by simp,.inl rfl,λu h=>by simp at h,λi x h=>by simp at h⟩
   . obtain⟨cs,k1,k2,k3,k4⟩:=Xhi hr
     exact⟨p,c2,cs,e,h1,k1,.inr ⟨b,off,hp,λj u hj=>(k2 j u hj).1⟩,k3,k4⟩
end
end
end Go.Vm

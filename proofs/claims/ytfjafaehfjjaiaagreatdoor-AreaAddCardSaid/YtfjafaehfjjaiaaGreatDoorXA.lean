/- part 1 -/
import Derived.WalkKit
set_option linter.unusedVariables false
set_option linter.unusedSimpArgs false
namespace Go
abbrev W0a:= @Nat.le_refl
abbrev W0b:= @List.take_of_length_le
abbrev W0c:= @List.length_append
abbrev W0d:= @Nat.eq_of_beq_eq_true
abbrev W0e:= @List.getElem?_eq_getElem
abbrev W0f:= @List.length_take
abbrev W0g:= @Bool.and_eq_true
abbrev W0h:= @List.mem_of_getElem?
abbrev W0i:= @List.length_map
abbrev W0j:= @List.mem_singleton
abbrev W0k:= @Nat.mul_le_mul_right
abbrev W0l:= @List.mem_cons_self
abbrev W0m:= @Nat.le_trans
abbrev W0n:= @List.getElem?_eq_some_iff
abbrev W0o:= @List.mem_cons_of_mem
abbrev W0p:= @Nat.pow_le_pow_right
abbrev W0q:= @List.eq_nil_of_length_eq_zero
abbrev W0r:= @List.getElem?_append_left
abbrev W0s:= @List.getElem?_append_right
abbrev W0t:= @List.length_cons
abbrev W0u:= @Nat.two_pow_pos
abbrev W0v:= @Nat.mul_le_mul_left
abbrev W0w:= @Nat.zero_le
abbrev W0x:= @Nat.lt_of_lt_of_le
abbrev W0y:= @Nat.mul_assoc
abbrev W0z:= @Nat.pow_add
abbrev W1a:= @Nat.pow_succ
abbrev W1b:= @Classical.byContradiction
abbrev W1c:= @Nat.add_mul
abbrev W1d:= @List.getElem?_take
abbrev W1e:= @List.drop_zero
abbrev W1f:= @Nat.mul_add
abbrev W1g:= @Nat.le_of_ble_eq_true
abbrev W1h:= @Nat.mul_comm
abbrev W1i:= @List.mem_cons
abbrev W1j:= @Int.natAbs_natCast
abbrev W1k:= @List.length_drop
abbrev W1l:= @Nat.zero_add
abbrev W1m:= @Nat.mul_pos
abbrev W1n:= @List.length_replicate
abbrev W1o:= @List.all_eq_true
abbrev W1p:= @List.mem_append_right
abbrev W1q:= @List.getElem?_map
abbrev W1r:= @List.mem_append
abbrev W1s:= @Nat.mod_lt
abbrev W1t:= @Int.fdiv_eq_ediv_of_nonneg
abbrev W1u:= @List.map_append
abbrev W1v:= @List.getElem?_drop
abbrev W1w:= @Nat.lt_of_le_of_lt
abbrev W1x:= @Bool.not_eq_true'
abbrev W1y:= @List.drop_eq_nil_of_le
abbrev W1z:= @Nat.mul_le_mul
abbrev W2a:= @List.getElem?_set_ne
abbrev W2b:= @List.getElem?_eq_none
abbrev W2c:= @List.take_add_one
abbrev W2d:= @Rat.le_of_mul_le_mul_right
abbrev W2e:= @Nat.min_eq_left
abbrev W2f:= @Nat.le_of_lt
abbrev W2g:= @List.map_take
abbrev W2h:= @List.take_length
abbrev W2i:= @Nat.add_zero
abbrev W2j:= @List.map_replicate
abbrev W2k:= @Nat.succ_mul
abbrev W2l:= @List.mem_map
abbrev W2m:= @List.mem_append_left
abbrev W2n:= @Int.natCast_mul
abbrev W2o:= @List.getD_eq_getElem?_getD
abbrev W2p:= @Nat.pos_of_ne_zero
abbrev W2q:= @Nat.div_add_mod
abbrev W2r:= @Rat.le_of_lt
abbrev W2s:= @Rat.mul_le_mul_of_nonneg_right
abbrev W2t:= @Nat.div_lt_iff_lt_mul
abbrev W2u:= @Classical.not_not
abbrev W2v:= @Nat.eq_zero_or_pos
abbrev W2w:= @Nat.pow_lt_pow_iff_right
abbrev W2x:= @List.getElem?_set_self
abbrev W2y:= @Int.toNat_of_nonneg
abbrev W2z:= @Rat.mul_le_mul_of_nonneg_left
abbrev W3a:= @List.getElem?_of_mem
abbrev W3b:= @Nat.add_sub_cancel_left
abbrev W3c:= @Nat.sub_self
abbrev W3d:= @Nat.mul_lt_mul_of_pos_right
abbrev W3e:= @List.pairwise_cons
abbrev W3f:= @Nat.mul_zero
abbrev W3g:= @Option.map_some
abbrev W3h:= @List.drop_eq_getElem_cons
abbrev W3i:= @Prod.ext
abbrev W3j:= @Option.isSome_iff_exists
abbrev W3k:= @Nat.mul_lt_mul''
abbrev W3l:= @Array.getElem?_eq_some_iff
abbrev W3m:= @Rat.intCast_le_intCast
abbrev W3n:= @Array.getElem?_setIfInBounds
abbrev W3o:= @Nat.div_le_self
abbrev W3p:= @List.length_set
abbrev W3q:= @List.take_append_drop
abbrev W3r:= @List.append_assoc
abbrev W3s:= @Int.natAbs_mul
abbrev W3t:= @Bool.or_eq_true
abbrev W3u:= @List.nil_append
abbrev W3v:= @List.mem_of_mem_take
abbrev W3w:= @Nat.add_sub_cancel
abbrev W3x:= @Nat.pow_lt_pow_right
abbrev W3y:= @Rat.intCast_mul
abbrev W3z:= @Array.getElem?_eq_none
abbrev W4a:= @Option.getD_some
abbrev W4b:= @Nat.mod_eq_of_lt
abbrev W4c:= @List.ext_getElem?
abbrev W4d:= @Iff.rfl
abbrev W4e:= @List.append_nil
abbrev W4f:= @Nat.mul_one
abbrev W4g:= @List.length_eq_zero_iff
abbrev W4h:= @List.getElem?_replicate
abbrev W4i:= @Nat.le_mul_of_pos_right
abbrev W4j:= @Nat.le_of_not_lt
abbrev W4k:= @List.mem_of_mem_drop
abbrev W4l:= @Nat.div_eq_of_lt
abbrev W4m:= @List.map_cons
abbrev W4n:= @Nat.zero_mul
abbrev W4o:= @List.replicate_succ
abbrev W4p:= @List.length_nil
abbrev W4q:= @Bool.eq_iff_iff
abbrev W4r:= @Nat.not_lt_zero
abbrev W4s:= @Nat.zero_lt_succ
abbrev W4t:= @Rat.zero_mul
abbrev W4u:= @Nat.add_assoc
abbrev W4v:= @Int.one_mul
abbrev W4w:= @Rat.mul_pos
abbrev W4x:= @Nat.div_lt_of_lt_mul
abbrev W4y:= @Classical.axiomOfChoice
abbrev W4z:= @Nat.mul_left_comm
abbrev W5a:= @Nat.dvd_of_mod_eq_zero
abbrev W5b:= @List.map_drop
abbrev W5c:= @List.cons_append
abbrev W5d:= @Int.natCast_nonneg
abbrev W5e:= @List.take_zero
abbrev W5f:= @Int.natAbs_neg
abbrev W5g:= @Rat.div_mul_cancel
abbrev W5h:= @Nat.add_mul_mod_self_left
abbrev W5i:= @List.mem_or_eq_of_mem_set
abbrev W5j:= @List.replicate_append_replicate
abbrev W5k:= @Int.zero_mul
abbrev W5l:= @Rat.divInt_eq_div
abbrev W5m:= @List.take_append_of_le_length
abbrev W5n:= @List.take_replicate
abbrev W5o:= @Nat.le_add_right
abbrev W5p:= @Int.mul_one
abbrev W5q:= @List.drop_of_length_le
abbrev W5r:= @List.mem_replicate
abbrev W5s:= @Rat.le_trans
abbrev W5t:= @List.getElem?_zipWith
abbrev W5u:= @Int.fmod_eq_emod_of_nonneg
abbrev W5v:= @List.map_inj_left
abbrev W5w:= @Nat.not_lt
abbrev W5x:= @Array.replicate_succ
abbrev W5y:= @Array.replicate_zero
abbrev W5z:= @Nat.pow_mul
abbrev W6a:= @List.drop_drop
abbrev W6b:= @Nat.sub_zero
abbrev W6c:= @List.eq_of_mem_replicate
abbrev W6d:= @List.append_toArray
abbrev W6e:= @Rat.sub_eq_add_neg
abbrev W6f:= @Rat.num_eq_zero
abbrev W6g:= @Rat.natCast_mul
abbrev W6h:= @Rat.intCast_add
abbrev W6i:= @List.take_left'
abbrev W6j:= @Nat.one_mul
abbrev W6k:= @Int.sign_eq_one_of_pos
abbrev W6l:= @Nat.div_div_eq_div_mul
abbrev W6m:= @List.getElem_cons_drop
abbrev W6n:= @Bool.eq_false_iff
abbrev W6o:= @List.size_toArray
abbrev W6p:= @List.push_toArray
abbrev W6q:= @List.length_singleton
abbrev W6r:= @List.getElem_mem
abbrev W6s:= @Nat.add_mul_div_left
abbrev W6t:= @List.replicate_succ'
abbrev W6u:= @List.drop_append
abbrev W6v:= @Rat.le_refl
abbrev W6w:= @Nat.div_mul_le_self
abbrev W6x:= @List.length_pos_iff
abbrev W6y:= @Array.getElem?_eq_getElem
abbrev W6z:= @List.mem_filter
abbrev W7a:= @Array.getElem_append_left
abbrev W7b:= @List.range_succ
abbrev W7c:= @Int.mul_ne_zero
abbrev W7d:= @Nat.lt_or_gt_of_ne
abbrev W7e:= @Int.ofNat_lt
abbrev W7f:= @Nat.gcd_comm
abbrev W7g:= @Rat.add_zero
abbrev W7h:= @List.take_left
abbrev W7i:= @Nat.mul_div_cancel_left
abbrev W7j:= @Int.toNat_natCast
abbrev W7k:= @Nat.lt_irrefl
abbrev W7l:= @Nat.lt_succ_self
abbrev W7m:= @Int.neg_fdiv_neg
abbrev W7n:= @Nat.le_div_iff_mul_le
abbrev W7o:= @Nat.zero_lt_one
abbrev W7p:= @Int.natCast_pow
abbrev W7q:= @Nat.mul_ne_zero
abbrev W7r:= @Int.ediv_emod_unique
abbrev W7s:= @Rat.intCast_neg
abbrev W7t:= @Int.mul_eq_zero
abbrev W7u:= @Array.length_toList
abbrev W7v:= @Bool.or_eq_true_iff
abbrev W7w:= @Nat.pos_iff_ne_zero
abbrev W7x:= @Nat.add_le_add_left
abbrev W7y:= @List.drop_left
abbrev W7z:= @List.foldr_nil
abbrev W8a:= @Int.le_refl
end Go

namespace Go.Vm
open Go
section
inductive D where
 | int (k:IntKind) (z:Int)
 | bool (c:Bool)
 | str (s:List UInt8)
 | raw (u:Value)
 | sl (sz:Nat) (xs:List D)
 | st (a:D)
 | pr (a c:D)
 deriving Inhabited
theorem D.ind{p:D->Prop}(leaf:∀x,(∀z,x≠.st z)->(∀u v,x≠.pr u v)->p x)(st:∀a,p a->p (.st a))(pr:∀a c,p a->p c->p (.pr a c)): ∀x,p x
 | .st a=>st a (D.ind leaf st pr a)
 | .pr a c=>pr a c (D.ind leaf st pr a) (D.ind leaf st pr c)
 | .int ..=>leaf _ nofun nofun
 | .bool _=>leaf _ nofun nofun
 | .str _=>leaf _ nofun nofun
 | .raw _=>leaf _ nofun nofun
 | .sl ..=>leaf _ nofun nofun
structure GW where
 w:World
 A:Nat->Nat->Prop
 hA:∀b i,A b i->b<w.heap.size
abbrev GW.size(W:GW): Nat:=W.w.heap.size
def Fr(W:GW)(b i:Nat)(v:Value): Prop:=W.w.cell? ⟨b,i,none⟩=some v/\¬W.A b i
def LeF(W W':GW): Prop:=∀b i v,Fr W b i v->Fr W' b i v
theorem LeF.refl(W:GW): LeF W W:=λ_ _ _ h=>h
theorem LeF.trans{a b c:GW}(h:LeF a b)(k:LeF b c): LeF a c:=λ_ _ _ x=>k _ _ _ (h _ _ _ x)
def inR(k:IntKind)(z:Int): Prop:=k.wrap z=z
def Xfb: Value->Bool
 | .agg _ | .tuple _=>false
 | _=>true
def D.size: D->Nat
 | .st a=>a.size
 | .pr a c=>a.size+c.size
 | _=>1
mutual
def D.At(W:GW): D->List Value->Prop
 | .int k z,cs=>cs=[.int k z]/\inR k z
 | .bool c,cs=>cs=[.bool c]
 | .str s,cs=>cs=[.string ⟨s.toArray⟩]/\s.length<9223372036854775808
 | .raw u,cs=>cs=[u]/\Xfb u=true
 | .sl sz xs,cs=>∃p c,cs=[.slice p xs.length c]/\xs.length<=c/\c<9223372036854775808/\(xs=[]\/∃b off,p=some ⟨b,off,none⟩/\D.Row W b sz off xs)
 | .st a,cs=>D.At W a cs
 | .pr a c,cs=>∃u v,cs=u++v/\D.At W a u/\D.At W c v
def D.Row(W:GW)(b sz:Nat): Nat->List D->Prop
 | _,[]=>True
 | off,x::xs=>(∃e,D.At W x e/\x.size=sz/\∀j v,e[j]?=some v->Fr W b (off+j) v)/\D.Row W b sz (off+sz) xs
end
def D.ag: D->Bool
 | .st _=>true
 | _=>false
theorem D.at_len{W:GW}: ∀(x:D) {cs:List Value},D.At W x cs->cs.length=x.size
 | .int _ _,_,h=>by rw[h.1];rfl
 | .bool _,_,h=>by rw[show _=_ from h];rfl
 | .str _,_,h=>by rw[h.1];rfl
 | .raw _,_,h=>by rw[h.1];rfl
 | .sl _ _,_,⟨_,_,h,_⟩=>by rw[h];rfl
 | .st a,_,h=>by rw[D.size];exact D.at_len a h
 | .pr a c,_,⟨u,v,h,i,j⟩=>by rw[h,D.size,W0c,D.at_len a i,D.at_len c j]
theorem D.at_one{W:GW}: ∀(x:D) {cs:List Value},D.At W x cs->∀v∈cs,Xfb v=true
 | .int _ _,_,h,v,i=>by rw[h.1,W0j] at i;subst i;rfl
 | .bool _,_,h,v,i=>by rw[show _=_ from h,W0j] at i;subst i;rfl
 | .str _,_,h,v,i=>by rw[h.1,W0j] at i;subst i;rfl
 | .raw _,_,h,v,i=>by rw[h.1,W0j] at i;subst i;exact h.2
 | .sl _ _,_,⟨_,_,h,_⟩,v,i=>by rw[h,W0j] at i;subst i;rfl
 | .st a,_,h,v,i=>D.at_one a h v i
 | .pr a c,_,⟨u,v,h,o,I⟩,w,j=>by
  rw[h] at j
  rcases W1r.1 j with j | j
  . exact D.at_one a o w j
  . exact D.at_one c I w j
mutual
theorem D.mono{W W':GW}(l:LeF W W'): ∀(x:D) {cs:List Value},D.At W x cs->D.At W' x cs
 | .int _ _,_,h=>h
 | .bool _,_,h=>h
 | .str _,_,h=>h
 | .raw _,_,h=>h
 | .sl sz xs,_,⟨p,c,h,i,j,o⟩=>⟨p,c,h,i,j,o.imp id λ⟨b,off,hp,I⟩=>⟨b,off,hp,D.row_mono l b sz xs off I⟩⟩
 | .st a,_,h=>D.mono l a h
 | .pr a c,_,⟨u,v,h,i,j⟩=>⟨u,v,h,D.mono l a i,D.mono l c j⟩
theorem D.row_mono{W W':GW}(l:LeF W W')(b sz:Nat): ∀(xs:List D) (off:Nat),D.Row W b sz off xs->D.Row W' b sz off xs
 | [],_,_=>trivial
 | x::xs,off,⟨⟨e,h,hs,i⟩,o⟩=>⟨⟨e,D.mono l x h,hs,λj v I=>l _ _ _ (i j v I)⟩,D.row_mono l b sz xs _ o⟩
end
theorem D.row_get{W:GW}{b sz:Nat}: ∀ {xs:List D} {off:Nat},D.Row W b sz off xs->∀ {i:Nat} {x:D},xs[i]?=some x->∃e,D.At W x e/\x.size=sz/\∀j v,e[j]?=some v->Fr W b (off+i*sz+j) v
 | [],_,_,i,x,h=>by simp at h
 | y::xs,off,⟨o,I⟩,0,x,h=>by
  simp at h;subst h
  simpa using o
 | y::xs,off,⟨o,I⟩,i+1,x,h=>by
  obtain⟨e,a,s,f⟩:=D.row_get I (i:=i) (x:=x) (by simpa using h)
  refine⟨e,a,s,λj v O=>?_⟩
  have:=f j v O
  rwa[show off+sz+i*sz+j=off+(i+1)*sz+j by rw[W2k];omega] at this
theorem D.row_of{W:GW}{b sz:Nat}: ∀ {xs:List D} {off:Nat},(∀i x,xs[i]?=some x->∃e,D.At W x e/\x.size=sz/\∀j v,e[j]?=some v->Fr W b (off+i*sz+j) v)->D.Row W b sz off xs
 | [],_,_=>trivial
 | y::xs,off,h=>⟨by simpa using h 0 y rfl,D.row_of λi x hi=>by
  obtain⟨e,a,s,f⟩:=h (i+1) x (by simpa using hi)
  refine⟨e,a,s,λj v o=>?_⟩
  have:=f j v o
  rwa[show off+(i+1)*sz+j=off+sz+i*sz+j by rw[W2k];omega] at this⟩
theorem D.row_sub{W:GW}{b sz off:Nat}{xs:List D}(h:D.Row W b sz off xs)(l m:Nat): D.Row W b sz (off+l*sz) ((xs.drop l).take m) :=
 D.row_of λi x hi=>by
  have o:xs[l+i]?=some x:=by
   rw[W1d] at hi
   split at hi
   . rwa[W1v] at hi
   . cases hi
  obtain⟨e,a,s,f⟩:=D.row_get h o
  refine⟨e,a,s,λj v I=>?_⟩
  have:=f j v I
  rwa[show off+(l+i)*sz+j=off+l*sz+i*sz+j by rw[W1c];omega] at this
theorem D.row_app{W:GW}{b sz off:Nat}{xs ys:List D}(h:D.Row W b sz off xs)(k:D.Row W b sz (off+xs.length*sz) ys): D.Row W b sz off (xs++ys) :=
 D.row_of λi x hi=>by
  by_cases o:i<xs.length
  . rw[W0r o] at hi
    exact D.row_get h hi
  . rw[W0s (by omega)] at hi
    obtain⟨e,a,s,f⟩:=D.row_get k hi
    refine⟨e,a,s,λj v I=>?_⟩
    have:=f j v I
    rwa[show off+xs.length*sz+(i-xs.length)*sz+j=off+i*sz+j from by
     obtain⟨q,rfl⟩:=Nat.le.dest (W5w.1 o)
     rw[W3b,W1c];omega] at this
def mkv(g:Bool)(cs:List Value): Value:=if g then .agg cs.toArray else cs.headD undef
def D.zc: D->List Value
 | .int k _=>[.int k 0]
 | .bool _=>[.bool false]
 | .str _=>[.string ByteArray.empty]
 | .raw u=>[u]
 | .sl _ _=>[.slice none 0 0]
 | .st a=>a.zc
 | .pr a c=>a.zc++c.zc
def D.isZ: D->Bool
 | .int _ z=>z==0
 | .bool c=>!c
 | .str s=>s.isEmpty
 | .raw u=>Xfb u
 | .sl _ xs=>xs.isEmpty
 | .st a=>a.isZ
 | .pr a c=>a.isZ&&c.isZ
theorem Yql(k:IntKind): inR k 0:=by cases k<;>rfl
theorem D.at_zc{W:GW}: ∀(x:D),x.isZ=true->D.At W x x.zc
 | .int k z,h=>by
  have:z=0:=by simpa [D.isZ] using h
  subst this;exact⟨rfl,Yql k⟩
 | .bool c,h=>by
  have:c=false:=by simpa [D.isZ] using h
  subst this;rfl
 | .str s,h=>by
  have:s=[]:=by simpa [D.isZ] using h
  subst this;exact⟨rfl,by decide⟩
 | .raw u,h=>⟨rfl,h⟩
 | .sl sz xs,h=>by
  have:xs=[]:=by simpa [D.isZ] using h
  subst this;exact⟨none,0,rfl,W0a _,by decide,.inl rfl⟩
 | .st a,h=>D.at_zc a h
 | .pr a c,h=>by
  have:a.isZ=true/\c.isZ=true:=by simpa [D.isZ] using h
  exact⟨_,_,rfl,D.at_zc a this.1,D.at_zc c this.2⟩
theorem Xax{w:World}{b:Nat}{o:Obj}(h:w.heap[b]?=some o): b<w.heap.size:=by
 by_cases hb:b<w.heap.size
 . exact hb
 . rw[W3z (by omega)] at h;cases h
theorem Xa9{w:World}{b:Nat}{cs:List Value}{T:TypeId}{fr:Nat×Nat}(h:w.heap[b]?=some (.cells cs.toArray T fr))(i:Nat): w.cell? ⟨b,i,none⟩=cs[i]?:=by
 simp[World.cell?,h]
theorem cell_of_heap{w i:World}{a:Addr}(h:i.heap[a.block]?=w.heap[a.block]?): i.cell? a=w.cell? a:=World.cell?_of_block (w:=w) h
theorem cell_lt{w:World}{a:Addr}{v:Value}(h:w.cell? a=some v): a.block<w.heap.size:=by
 unfold World.cell? at h
 by_cases hb:a.block<w.heap.size
 . exact hb
 . rw[W3z (by omega)] at h;cases h
def GW.push(W:GW)(o:Obj)(L:Nat->Prop): GW where
 w:=W.w.alloc o
 A:=λb i=>W.A b i\/(b=W.size/\L i)
 hA:=by
  rintro b i (h | ⟨rfl,_⟩)
  . rw[World.size_alloc];exact Nat.lt_succ_of_lt (W.hA b i h)
  . rw[World.size_alloc];exact W7l _
theorem Xes(w:World)(o:Obj)(k:Nat)(h:k<w.heap.size): (w.alloc o).heap[k]?=w.heap[k]?:=by
 show (w.heap.push o)[k]?=_
 rw[Array.getElem?_push,if_neg (by omega)]
theorem Xbd(w:World)(o:Obj): (w.alloc o).heap[w.heap.size]?=some o:=by
 show (w.heap.push o)[w.heap.size]?=_
 rw[Array.getElem?_push,if_pos rfl]
theorem Xeo(W:GW)(o:Obj)(L:Nat->Prop): LeF W (W.push o L):=λb i v h=>by
 have hb:b<W.w.heap.size:=cell_lt h.1
 refine⟨by rw[<-h.1];exact cell_of_heap (Xes _ _ _ hb),?_⟩
 rintro(j | ⟨j,_⟩)
 . exact h.2 j
 . exact absurd j (by show b≠W.w.heap.size;omega)
def Xgx(w:World)(b:Nat)(o:Obj): World:={ w with heap:=w.heap.setIfInBounds b o }
theorem Xlo(w:World)(b:Nat)(o:Obj)(k:Nat)(h:k≠b): (Xgx w b o).heap[k]?=w.heap[k]?:=by
 simp only[Xgx,W3n]
 rw[if_neg (λe=>h e.symm)]
theorem Xaw(w:World)(b:Nat)(o:Obj)(h:b<w.heap.size): (Xgx w b o).heap[b]?=some o:=by
 simp only[Xgx,W3n,if_true,h]
def GW.put(W:GW)(b:Nat)(o:Obj)(B:Nat->Prop): GW where
 w:=Xgx W.w b o
 A:=λk i=>W.A k i/\(k=b->B i)
 hA:=λk i h=>by simpa [Xgx] using W.hA k i h.1
theorem Xfc(W:GW)(b:Nat)(c c':List Value)(T:TypeId)(B:Nat->Prop)(hb:W.w.heap[b]?=some (.cells c.toArray T (0,0)))(hs:∀i v,¬W.A b i->c[i]?=some v->c'[i]?=some v):
 LeF W (W.put b (.cells c'.toArray T (0,0)) B):=λk i v h=>by
 refine⟨?_,λj=>h.2 j.1⟩
 by_cases o:k=b
 . subst o
   have j:=h.1
   rw[Xa9 hb] at j
   rw[show (W.put k (.cells c'.toArray T (0,0)) B).w.cell? ⟨k,i,none⟩=c'[i]? from Xa9 (Xaw _ _ _ (Xax hb)) i]
   exact hs i v h.2 j
 . rw[<-h.1];exact cell_of_heap (Xlo _ _ _ _ o)
def spl(c:List Value)(o:Nat): List Value->List Value
 | []=>c
 | v::h=>spl (c.set o v) (o+1) h
theorem Xcg(c:List Value)(o:Nat)(vs:List Value): (spl c o vs).length=c.length:=by
 induction vs generalizing c o with
 | nil=>rfl
 | cons v vs h=>simp[spl,h]
theorem Xd0(c:List Value)(o:Nat)(vs:List Value)(i:Nat)(I:o+vs.length<=c.length):
 (spl c o vs)[i]?=if o<=i/\i<o+vs.length then vs[i-o]? else c[i]?:=by
 induction vs generalizing c o with
 | nil=>simp only[spl,W4p];rw[if_neg (by omega)]
 | cons v vs O =>
  simp only[spl,W0t] at I |-
  rw[O (c.set o v) (o+1) (by simp;omega)]
  by_cases h:i=o
  . subst h
    rw[if_neg (by omega),if_pos (by omega),W2x (by omega)]
    simp
  . by_cases j:o+1<=i/\i<o+1+vs.length
    . rw[if_pos j,if_pos (by omega),show i-o=(i-(o+1))+1 by omega]
      simp
    . rw[if_neg j,if_neg (by omega),W2a (λe=>h e.symm)]
theorem Xp7(a m z vs:List Value)(h:vs.length=m.length): spl (a++(m++z)) a.length vs=a++(vs++z):=by
 apply W4c
 intro i
 rw[Xd0 _ _ _ _ (by simp;omega)]
 by_cases j:i<a.length
 . rw[if_neg (by omega),W0r j,W0r j]
 . rw[W0s (l₁:=a) (by omega),W0s (l₁:=a) (by omega)]
   by_cases o:i<a.length+vs.length
   . rw[if_pos (by omega),W0r (by omega)]
   . rw[if_neg (by omega),W0s (by omega),W0s (by omega),h]
section
variable{P:Program}
theorem Xr6{w:World}{b:Nat}{c:List Value}{T:TypeId}{fr:Nat×Nat}(hb:w.heap[b]?=some (.cells c.toArray T fr))(i:Nat)(v:Value):
 w.setCell ⟨b,i,none⟩ v=Xgx w b (.cells (c.set i v).toArray T fr):=by
 unfold World.setCell Xgx
 congr 1
 apply Array.ext_getElem?
 intro k
 simp only[Array.getElem?_modify,W3n]
 by_cases h:b=k
 . subst h
   rw[if_pos rfl,if_pos rfl,if_pos (Xax hb),hb]
   simp
 . rw[if_neg h,if_neg h]
theorem Xih{w:World}{b:Nat}{o:Obj}(hb:w.heap[b]?=some o): Xgx w b o=w:=by
 unfold Xgx
 have:w.heap.setIfInBounds b o=w.heap:=by
  apply Array.ext_getElem?
  intro k
  simp only[W3n]
  by_cases h:b=k
  . subst h;rw[if_pos rfl,if_pos (Xax hb),hb]
  . rw[if_neg h]
 rw[this]
theorem Xt6(w:World)(b:Nat)(o i:Obj): Xgx (Xgx w b o) b i=Xgx w b i:=by
 unfold Xgx
 congr 1
 apply Array.ext_getElem?
 intro k
 simp only[W3n,Array.size_setIfInBounds]
 by_cases h:b=k<;>simp[h]
theorem add0(b off k:Nat): (⟨b,off,none⟩:Addr).add k=⟨b,off+k,none⟩:=by
 unfold Addr.add;split
 . rename_i h;subst h;rfl
 . rfl
theorem Xbz{b off:Nat}{T:TypeId}(vs:List Value): ∀(w:World) (i:Nat) (c:List Value),w.heap[b]?=some (.cells c.toArray T (0,0)) ->
 off+i+vs.length<=c.length->(∀v∈vs,Xfb v=true)->(storeCells ⟨b,off,none⟩ vs i).run P w=.ok () (Xgx w b (.cells (spl c (off+i) vs).toArray T (0,0))):=by
 induction vs with
 | nil=>intro w i c hb _ _;simp only[storeCells,spl];rw[Xih hb];rfl
 | cons v vs O =>
  intro w i c hb Q o
  simp only[W0t] at Q
  have V:w.cell? ⟨b,off+i,none⟩=c[off+i]?:=Xa9 hb _
  have j:off+i<c.length:=by omega
  rw[W0e j] at V
  have hf:w.frozen? ⟨b,off+i,none⟩=false:=by simp[World.frozen?,hb]
  have I:=o v (W0l ..)
  have h:(store ((⟨b,off,none⟩:Addr).add i) v).run P w=.ok () (Xgx w b (.cells (c.set (off+i) v).toArray T (0,0))):=by
   rw[add0,<-Xr6 hb]
   cases v<;>simp_all[store,Sem.run,Xfb]
  simp only[storeCells]
  rw[Sem.run_bind,h]
  simp only[Result.andThen_ok]
  rw[O _ (i+1) (c.set (off+i) v) (Xaw _ _ _ (Xax hb)) (by simp;omega) (λu Z=>o u (W0o _ Z)),Xt6]
  rfl
theorem run_load{a:Addr}{w:World}{v:Value}(h:w.cell? a=some v): (load a).run P w=.ok v w:=by
 simp[load,Sem.run,h]
theorem run_loadCells{b off:Nat}{w:World}(cs:List Value): ∀(i:Nat) (acc:Array Value),(∀j v,cs[j]?=some v->w.cell? ⟨b,off+(i+j),none⟩=some v) ->
 (loadCellsFrom ⟨b,off,none⟩ i cs.length acc).run P w=.ok (acc++cs.toArray) w:=by
 induction cs with
 | nil=>intro i acc _;simp[loadCellsFrom,pure,Sem.run]
 | cons c cs o =>
  intro i acc h
  have h0:=h 0 c rfl
  have hi:=o (i+1) (acc.push c) (λj v I=>by
   have:=h (j+1) v I
   rwa[show off+(i+1+j)=off+(i+(j+1)) by omega])
  simp only[W0t,loadCellsFrom,bind,load,Sem.bind,add0,Sem.run]
  rw[show off+(i+0)=off+i from rfl] at h0
  rw[h0]
  simp only[pure,Sem.bind]
  rw[hi]
  simp
theorem Xub{α j:Type}(s:Sem α)(f:α->Sem j)(w i:World)(x:α)(h:s.run P w=.ok x i): (s.bind f).run P w=(f x).run P i:=by
 show ((s >>= f).run P w)=_
 rw[Sem.run_bind,h];rfl
end
end
section
inductive AV where
 | d (x:D)
 | q (p:Prop)
 | b (c:Bool)
 | ub (p:Prop)
 | nil
 | lit (sz:Nat) (xs:List D)
 | st (a:AV)
 | pr (a c:AV)
 | tup (a:AV)
 | at (x:D)
 | ptr (o off:Nat)
 | own (o sz lo n:Nat)
 | ow3 (o sz lo n:Nat)
 | gr (o sz:Nat) (xs:List D)
 | el (o sz j off:Nat)
 | fn (f o:Nat)
 | fm (f:Nat) (a:AV)
 | ap (o n:Nat)
 | cx (o lo c:Nat)
 | an
 | un
 deriving Inhabited
inductive Ob where
 | var (a:AV)
 | arr (sz:Nat) (xs:List D)
 | tok (n sz:Nat)
 | dead
abbrev Loc:=Nat->Option Nat×Nat
def ad: Option Nat->Option Addr
 | none=>none
 | some b=>some ⟨b,0,none⟩
def AV.C(W:GW)(θ:Loc): AV->List Value->Prop
 | .d x,cs=>D.At W x cs
 | .q p,cs=>∃c,cs=[.bool c]/\(c=true↔p)
 | .b c,cs=>cs=[.bool c]
 | .ub p,cs=>∃c,cs=[.bool c]/\(c=true->p)
 | .nil,cs=>∃p,cs=[.slice p 0 0]
 | .lit sz xs,cs=>∃p,cs=[.slice p xs.length xs.length]/\xs.length<9223372036854775808/\(xs=[]\/∃b,p=some ⟨b,0,none⟩/\D.Row W b sz 0 xs)
 | .st a,cs=>AV.C W θ a cs
 | .pr a c,cs=>∃u v,cs=u++v/\AV.C W θ a u/\AV.C W θ c v
 | .tup _,_=>False
 | .un,_=>False
 | .at x,cs=>∃b off e,cs=[.pointer (some ⟨b,off,none⟩)]/\D.At W x e/\∀j v,e[j]?=some v->Fr W b (off+j) v
 | .ptr o off,cs=>∃b,(θ o).1=some b/\cs=[.pointer (some ⟨b,off,none⟩)]
 | .own o sz lo n,cs=>∃b p,(θ o).1=some b/\lo+n<=(θ o).2/\(θ o).2<9223372036854775808/\cs=[.slice p n ((θ o).2-lo)]/\(lo=0\/lo<(θ o).2->p=some ⟨b,lo*sz,none⟩)
 | .ow3 o sz lo n,cs=>∃b p,(θ o).1=some b/\lo+n<=(θ o).2/\(θ o).2<9223372036854775808/\cs=[.slice p n n]/\(lo=0\/0<n->p=some ⟨b,lo*sz,none⟩)
 | .gr o sz xs,cs=>∃p,cs=[.slice p xs.length (θ o).2]/\((θ o).2=0\/p=ad (θ o).1)/\xs.length<=(θ o).2/\(θ o).2<9223372036854775808/\(xs=[]\/∃b,(θ o).1=some b/\D.Row W b sz 0 xs)
 | .el o sz j off,cs=>∃b,(θ o).1=some b/\cs=[.pointer (some ⟨b,j*sz+off,none⟩)]
 | .fn f o,cs=>∃b,(θ o).1=some b/\cs=[.func (.func f) #[] #[.pointer (some ⟨b,0,none⟩)]]
 | .fm f a,cs=>∃h:List Value,AV.C W θ a h/\cs=[.func (.func f) #[] h.toArray]
 | .ap o n,cs=>∃b,(θ o).1=some b/\(θ o).2=n/\cs=[.pointer (some ⟨b,0,none⟩)]
 | .cx o lo c,cs=>cs=[.int .i64 c]/\(θ o).2=lo+c
 | .an,cs=>∃p n c,cs=[.slice p n c]
def AV.size: AV->Nat
 | .d x=>x.size
 | .st a=>a.size
 | .pr a c=>a.size+c.size
 | _=>1
def AV.ag: AV->Bool
 | .d x=>x.ag
 | .st _=>true
 | _=>false
theorem AV.c_len{W:GW}{θ:Loc}: ∀(a:AV) {cs:List Value},AV.C W θ a cs->cs.length=a.size
 | .d x,_,h=>D.at_len x h
 | .q _,_,⟨_,h,_⟩=>by rw[h];rfl
 | .b _,_,h=>by rw[show _=_ from h];rfl
 | .ub _,_,⟨_,h,_⟩=>by rw[h];rfl
 | .nil,_,⟨_,h⟩=>by rw[h];rfl
 | .lit ..,_,⟨_,h,_⟩=>by rw[h];rfl
 | .st a,_,h=>by rw[AV.size];exact AV.c_len a h
 | .pr a c,_,⟨u,v,h,i,j⟩=>by rw[h,AV.size,W0c,AV.c_len a i,AV.c_len c j]
 | .tup _,_,h=>h.elim
 | .un,_,h=>h.elim
 | .at _,_,⟨_,_,_,h,_⟩=>by rw[h];rfl
 | .ptr _ _,_,⟨_,_,h⟩=>by rw[h];rfl
 | .own ..,_,⟨_,_,_,_,_,h,_⟩=>by rw[h];rfl
 | .ow3 ..,_,⟨_,_,_,_,_,h,_⟩=>by rw[h];rfl
 | .gr ..,_,⟨_,h,_⟩=>by rw[h];rfl
 | .el ..,_,⟨_,_,h⟩=>by rw[h];rfl
 | .fn ..,_,⟨_,_,h⟩=>by rw[h];rfl
 | .fm ..,_,⟨_,_,h⟩=>by rw[h];rfl
 | .ap ..,_,⟨_,_,_,h⟩=>by rw[h];rfl
 | .cx ..,_,⟨h,_⟩=>by rw[h];rfl
 | .an,_,⟨_,_,_,h⟩=>by rw[h];rfl
theorem AV.c_one{W:GW}{θ:Loc}: ∀(a:AV) {cs:List Value},AV.C W θ a cs->∀v∈cs,Xfb v=true
 | .d x,_,h=>D.at_one x h
 | .q _,_,⟨_,h,_⟩=>by rw[h];simp[Xfb]
 | .b _,_,h=>by rw[show _=_ from h];simp[Xfb]
 | .ub _,_,⟨_,h,_⟩=>by rw[h];simp[Xfb]
 | .nil,_,⟨_,h⟩=>by rw[h];simp[Xfb]
 | .lit ..,_,⟨_,h,_⟩=>by rw[h];simp[Xfb]
 | .st a,_,h=>AV.c_one a h
 | .pr a c,_,⟨u,v,h,j,o⟩=>by
  intro w i
  rw[h] at i
  rcases W1r.1 i with i | i
  . exact AV.c_one a j w i
  . exact AV.c_one c o w i
 | .tup _,_,h=>h.elim
 | .un,_,h=>h.elim
 | .at _,_,⟨_,_,_,h,_⟩=>by rw[h];simp[Xfb]
 | .ptr _ _,_,⟨_,_,h⟩=>by rw[h];simp[Xfb]
 | .own ..,_,⟨_,_,_,_,_,h,_⟩=>by rw[h];simp[Xfb]
 | .ow3 ..,_,⟨_,_,_,_,_,h,_⟩=>by rw[h];simp[Xfb]
 | .gr ..,_,⟨_,h,_⟩=>by rw[h];simp[Xfb]
 | .el ..,_,⟨_,_,h⟩=>by rw[h];simp[Xfb]
 | .fn ..,_,⟨_,_,h⟩=>by rw[h];simp[Xfb]
 | .fm ..,_,⟨_,_,h⟩=>by rw[h];simp[Xfb]
 | .ap ..,_,⟨_,_,_,h⟩=>by rw[h];simp[Xfb]
 | .cx ..,_,⟨h,_⟩=>by rw[h];simp[Xfb]
 | .an,_,⟨_,_,_,h⟩=>by rw[h];simp[Xfb]
def AV.ids: AV->Nat->Prop
 | .st a,i=>a.ids i
 | .pr a c,i=>a.ids i\/c.ids i
 | .tup a,i=>a.ids i
 | .ptr o _,i=>i=o
 | .own o _ _ _,i=>i=o
 | .ow3 o _ _ _,i=>i=o
 | .gr o _ _,i=>i=o
 | .el o _ _ _,i=>i=o
 | .fn _ o,i=>i=o
 | .fm _ a,i=>a.ids i
 | .ap o _,i=>i=o
 | .cx o _ _,i=>i=o
 | _,_=>False
theorem AV.c_mono{W W':GW}{θ θ':Loc}(l:LeF W W'): ∀(a:AV) {cs:List Value},(∀i,a.ids i->θ' i=θ i)->AV.C W θ a cs->AV.C W' θ' a cs
 | .d x,_,_,h=>D.mono l x h
 | .q _,_,_,h=>h
 | .b _,_,_,h=>h
 | .ub _,_,_,h=>h
 | .nil,_,_,h=>h
 | .lit sz xs,_,_,⟨p,I,O,T⟩=>⟨p,I,O,T.imp_right λ⟨b',V,Z⟩=>⟨b',V,D.row_mono l b' sz xs 0 Z⟩⟩
 | .st a,_,hi,h=>AV.c_mono l a hi h
 | .pr a c,_,hi,⟨u,v,h,I,O⟩=>⟨u,v,h,AV.c_mono l a (λi x=>hi i (.inl x)) I,AV.c_mono l c (λi x=>hi i (.inr x)) O⟩
 | .tup _,_,_,h=>h
 | .un,_,_,h=>h
 | .at x,_,_,⟨Q,off,e,h,I,O⟩=>⟨Q,off,e,h,D.mono l x I,λj v hj=>l _ _ _ (O j v hj)⟩
 | .ptr o _,_,hi,⟨Q,I,O⟩=>⟨Q,by rw[hi o rfl];exact I,O⟩
 | .own o ..,_,hi,⟨Q,p,I,O,Z,T,V⟩=>by
  have e:=hi o rfl
  exact⟨Q,p,by rw[e];exact I,by rw[e];exact O,by rw[e];exact Z,by rw[e];exact T,by rw[e];exact V⟩
 | .ow3 o ..,_,hi,⟨Q,p,I,O,Z,T,V⟩=>by
  have e:=hi o rfl
  exact⟨Q,p,by rw[e];exact I,by rw[e];exact O,by rw[e];exact Z,T,V⟩
 | .gr o _ xs,_,hi,⟨p,I,h0,O,T,V⟩=>by
  have e:=hi o rfl
  refine⟨p,by rw[e];exact I,by rw[e];exact h0,by rw[e];exact O,by rw[e];exact T,?_⟩
  rw[e]
  exact V.imp id λ⟨Q,hb,hr⟩=>⟨Q,hb,D.row_mono l Q _ xs 0 hr⟩
 | .el o ..,_,hi,⟨Q,I,O⟩=>⟨Q,by rw[hi o rfl];exact I,O⟩
 | .fn _ o,_,hi,⟨Q,I,O⟩=>⟨Q,by rw[hi o rfl];exact I,O⟩
 | .fm _ a,_,hi,⟨vs,I,O⟩=>⟨vs,AV.c_mono l a hi I,O⟩
 | .ap o _,_,hi,⟨Q,I,O,T⟩=>⟨Q,by rw[hi o rfl];exact I,by rw[hi o rfl];exact O,T⟩
 | .cx o _ _,_,hi,⟨I,O⟩=>⟨I,by rw[hi o rfl];exact O⟩
 | .an,_,_,h=>h
def AV.V1(W:GW)(θ:Loc)(a:AV)(v:Value): Prop:=∃cs,AV.C W θ a cs/\v=mkv a.ag cs
def AV.T(W:GW)(θ:Loc): AV->List Value->Prop
 | .pr a c,v::h=>AV.V1 W θ a v/\AV.T W θ c h
 | .un,[]=>True
 | a,[v]=>AV.V1 W θ a v
 | _,_=>False
def AV.V(W:GW)(θ:Loc): AV->Value->Prop
 | .tup a,v=>∃h:List Value,v=.tuple h.toArray/\AV.T W θ a h
 | .un,v=>v=undef
 | a,v=>AV.V1 W θ a v
theorem AV.V1.mono{W W':GW}{θ θ':Loc}(l:LeF W W'){a:AV}{v:Value}(hi:∀i,a.ids i->θ' i=θ i)(h:AV.V1 W θ a v): AV.V1 W' θ' a v :=
 let ⟨cs,j,e⟩:=h;⟨cs,AV.c_mono l a hi j,e⟩
theorem AV.T.mono{W W':GW}{θ θ':Loc}(l:LeF W W'): ∀ {a:AV} {vs:List Value},(∀i,a.ids i->θ' i=θ i)->AV.T W θ a vs->AV.T W' θ' a vs:=by
 intro a
 induction a with
 | pr a c _ j =>
  intro vs hi h
  match vs,h with
  | v::vs,h=>exact⟨h.1.mono l λi x=>hi i (.inl x),j (λi x=>hi i (.inr x)) h.2⟩
 | un =>
  intro vs hi h
  match vs,h with
  | [],h=>exact h
  | [v],h=>exact AV.V1.mono l hi h
 | _ =>
  intro vs hi h
  match vs,h with
  | [v],h=>exact AV.V1.mono l hi h
theorem AV.V.mono{W W':GW}{θ θ':Loc}(l:LeF W W'){a:AV}{v:Value}(hi:∀i,a.ids i->θ' i=θ i)(h:AV.V W θ a v): AV.V W' θ' a v:=by
 cases a with
 | tup a=>obtain⟨j,e,h⟩:=h;exact⟨j,e,h.mono l hi⟩
 | un=>exact h
 | _=>exact AV.V1.mono l hi h
def Ob.R(W:GW)(θ:Loc)(o:Nat): Ob->Prop
 | .var a=>∃b cs T,(θ o).1=some b/\W.w.heap[b]?=some (.cells (cs:List Value).toArray T (0,0))/\AV.C W θ a cs/\∀i,W.A b i
 | .arr sz xs=>∃b cs T,(θ o).1=some b/\W.w.heap[b]?=some (.cells (cs:List Value).toArray T (0,0))/\cs.length=(θ o).2*sz/\(θ o).2<9223372036854775808/\xs.length<=(θ o).2 /\
  (∀i x,xs[i]?=some x->∃e,D.At W x e/\x.size=sz/\∀j v,e[j]?=some v->cs[i*sz+j]?=some v)/\∀i,W.A b i
 | .tok n sz=>n<=(θ o).2/\(θ o).2<9223372036854775808/\(((θ o).1=none/\(θ o).2=0) \/
  ∃b cs T,(θ o).1=some b/\W.w.heap[b]?=some (.cells (cs:List Value).toArray T (0,0))/\cs.length=(θ o).2*sz/\∀i,n*sz<=i->W.A b i)
 | .dead=>True
def Ob.live: Ob->Bool
 | .dead=>false
 | _=>true
def Ob.ids: Ob->Nat->Prop
 | .var a,i=>a.ids i
 | _,_=>False
theorem Ob.R.keep{W W':GW}{θ θ':Loc}(l:LeF W W'){o:Nat}{x:Ob}(I:θ' o=θ o)(hi:∀i,x.ids i->θ' i=θ i)(h:x.R W θ o)
 (Z:x.live=true->∀b,(θ o).1=some b->W'.w.heap[b]?=W.w.heap[b]?/\∀i,W.A b i->W'.A b i):x.R W' θ' o:=by
 cases x with
 | var a =>
  obtain⟨b,cs,T,O,j,Q,V⟩:=h
  have k:=Z rfl b O
  exact⟨b,cs,T,by rw[I];exact O,by rw[k.1];exact j,AV.c_mono l a hi Q,λi=>k.2 i (V i)⟩
 | arr sz xs =>
  obtain⟨b,cs,T,O,j,Q,V,h5,h6,h7⟩:=h
  have k:=Z rfl b O
  exact⟨b,cs,T,by rw[I];exact O,by rw[k.1];exact j,by rw[I];exact Q,by rw[I];exact V,by rw[I];exact h5,
   λi x hx=>let ⟨e,e1,e2,e3⟩:=h6 i x hx;⟨e,D.mono l x e1,e2,e3⟩,λi=>k.2 i (h7 i)⟩
 | tok n sz =>
  obtain⟨h0,O,j⟩:=h
  refine⟨by rw[I];exact h0,by rw[I];exact O,?_⟩
  rw[I]
  rcases j with j | ⟨b,cs,T,j,Q,V,h5⟩
  . exact .inl j
  . have k:=Z rfl b j
    exact .inr ⟨b,cs,T,j,by rw[k.1];exact Q,V,λi hi=>k.2 i (h5 i hi)⟩
 | dead=>trivial
abbrev Ev:=Nat->Option AV
abbrev Hp:=Nat->Option Ob
def upd{α:Type _}(f:Nat->Option α)(d:Nat)(x:α): Nat->Option α:=λt=>match Nat.beq t d with | true=>some x | false=>f t
theorem Xah{α:Type _}(f:Nat->Option α)(d:Nat)(x:α): upd f d x d=some x:=by simp[upd]
theorem Yci{a b:Nat}(h:¬a=b): Nat.beq a b=false:=by
 cases e:Nat.beq a b with
 | false=>rfl
 | true=>exact absurd (W0d e) h
theorem Xak{α:Type _}{f:Nat->Option α}{d t:Nat}{x:α}(h:t≠d): upd f d x t=f t:=by simp[upd,Yci h]
theorem Xaf{α:Type _}{f:Nat->Option α}{d t:Nat}{x y:α}(h:upd f d x t=some y): (t=d/\y=x)\/(t≠d/\f t=some y):=by
 by_cases e:t=d
 . subst e;rw[Xah] at h;injection h with h;exact .inl ⟨rfl,h.symm⟩
 . rw[Xak e] at h;exact .inr ⟨e,h⟩
theorem Xhs{α:Type _}{f:Nat->Option α}{d t:Nat}{x y:α}(h:d≠t): upd (upd f d x) t y=upd (upd f t y) d x:=by
 funext s
 by_cases i:s=d
 . subst i;rw[Xak h,Xah,Xah]
 . rw[Xak (f:=upd f t y) i]
   by_cases j:s=t
   . subst j;rw[Xah,Xah]
   . rw[Xak j,Xak j,Xak i]
def Xbg(g:Hp): List (Nat×Ob)->Hp
 | []=>g
 | (o,x)::l=>upd (Xbg g l) o x
structure Fm (W0 W:GW) (X:Nat->Prop):Prop where
 os:W.w.os=W0.w.os
 out:W.w.output=W0.w.output
 tape:W.w.tape=W0.w.tape
 size:W0.size<=W.size
 same:∀b,b<W0.size->¬X b->W.w.heap[b]?=W0.w.heap[b]?
 A:∀b,b<W0.size->¬X b->∀i,W.A b i↔W0.A b i
 le:LeF W0 W
theorem Fm.refl(W:GW)(X:Nat->Prop): Fm W W X:=⟨rfl,rfl,rfl,W0a _,λ_ _ _=>rfl,λ_ _ _ _=>W4d,LeF.refl W⟩
structure Obs (W:GW) (θ:Loc) (N:Nat->Prop) (g:Hp):Prop where
 r:∀o x,g o=some x->x.R W θ o
 new:∀o x b,g o=some x->x.live=true->(θ o).1=some b->N b
 dis:∀o o' x x' b,g o=some x->g o'=some x'->x.live=true->x'.live=true->(θ o).1=some b->(θ o').1=some b->o=o'
 ids:∀o x i,g o=some x->x.ids i->∃y,g i=some y
structure Rel (W:GW) (θ:Loc) (n:Nat) (e:Ev) (a:Act):Prop where
 defers:a.defers=[]
 size:a.tmps.size=n
 has:∀t v,e t=some v->AV.V W θ v (a.tmps.getD t undef)
structure Sat (W0:GW) (X:Nat->Prop) (n:Nat) (s:Ev×Hp) (a:Act) (W:GW) (θ:Loc):Prop where
 fm:Fm W0 W X
 rel:Rel W θ n s.1 a
 obs:Obs W θ (λb=>W0.size<=b\/X b) s.2
 ids:∀t v i,s.1 t=some v->v.ids i->∃y,s.2 i=some y
end
section
def D.comps: D->List D
 | .pr a c=>a::c.comps
 | x=>[x]
structure TI where
 z:D
 e:D:=.bool false
 eb:Nat:=0
 arr:Nat:=0
def Xhp: List D->Nat->Nat
 | _,0=>0
 | [],_=>0
 | x::l,f+1=>x.size+Xhp l f
def Yav: TypeDesc->Bool
 | .struct _ | .array _ _=>true
 | _=>false
def Yom(P:Program)(E:TypeId)(z:D)(h:Nat): Prop:=∃i v,P.info? E=some i/\i.size=z.size/\i.bytes=h/\i.zero=some v/\v.cells.toList=z.zc
def Ylk(P:Program)(fs:Array Field)(l:List D): Prop :=
 fs.size=l.length/\∀f c,l[f]?=some c->∃g i,fs[f]?=some g/\g.offset=Xhp l f/\P.info? g.type=some i/\i.size=c.size/\∃t,P.underlying g.type=some t/\Yav t=c.ag/\(c.ag=false->c.size=1)
structure TyOk (P:Program) (T:TypeId) (ti:TI):Prop where
 k:∀E k z,P.underlying T=some (.slice E)->ti.e=.int k z->P.underlying E=some (.int k)
 i:∃i v,P.info? T=some i/\i.size=ti.z.size/\i.zero=some v/\v.cells.toList=ti.z.zc/\v=mkv ti.z.ag ti.z.zc
 z:ti.z.isZ=true
 u:∃t,P.underlying T=some t/\Yav t=ti.z.ag/\match ti.z with
  | .int k _=>t=.int k
  | .bool _=>t=.bool
  | .str _=>t=.string
  | .sl sz _=>∃E,t=.slice E/\sz=ti.e.size/\ti.e.isZ=true/\Yom P E ti.e ti.eb
  | .st z=>if ti.arr=0 then ∃fs,t=.struct fs/\Ylk P fs z.comps else ∃E,t=.array ti.arr E/\Yom P E ti.e ti.eb
  | _=>True
class Tab (P:Program) where
 tb:Nat->Option TI
 ok:∀T ti,tb T=some ti->TyOk P T ti
noncomputable def dc(p:Prop): Bool:=@decide p (Classical.propDecidable p)
theorem Xaj{p:Prop}: dc p=true↔p:=by unfold dc;simp
def nb: D->AV
 | .bool c=>.b c
 | x=>.d x
def stN: AV->AV
 | .d x=>.d (.st x)
 | a=>.st a
def prN: AV->AV->AV
 | .d x,.d y=>.d (.pr x y)
 | a,c=>.pr a c
def zA: D->AV
 | .bool _=>.b false
 | .sl _ _=>.nil
 | .st x=>stN (zA x)
 | .pr x y=>prN (zA x) (zA y)
 | x=>.d x
open Classical in
noncomputable def toD: D->AV->Option D
 | _,.d x=>some x
 | _,.b c=>some (.bool c)
 | _,.q p=>some (.bool (decide p))
 | .sl sz _,.nil=>some (.sl sz [])
 | _,.lit sz xs=>some (.sl sz xs)
 | _,.gr _ sz xs=>some (.sl sz xs)
 | .st z,.st a=>match toD z a with
  | some x=>some (.st x)
  | none=>none
 | .pr h i,.pr a c=>match toD h a,toD i c with
  | some x,some y=>some (.pr x y)
  | _,_=>none
 | _,_=>none
def fit(s:Nat)(g:Bool)(x:D): Bool:=Nat.beq x.size s&&(x.ag==g)
def Xz2(s:Nat)(g:Bool)(a:AV): Bool:=Nat.beq a.size s&&(a.ag==g)
def Xpz(s:Nat)(g:Bool): D->Nat->Option D
 | .st x,0=>match fit s g (.st x) with
  | true=>some (.st x)
  | false=>Xpz s g x 0
 | .st x,off=>Xpz s g x off
 | .pr x y,off=>match Nat.blt off x.size with
  | true=>Xpz s g x off
  | false=>Xpz s g y (off-x.size)
 | x,0=>match fit s g x with
  | true=>some x
  | false=>none
 | _,_=>none
def Xr5(s:Nat)(g:Bool): AV->Nat->Option AV
 | .d x,off=>match Xpz s g x off with
  | some y=>some (nb y)
  | none=>none
 | .st a,0=>match Xz2 s g (.st a) with
  | true=>some (.st a)
  | false=>Xr5 s g a 0
 | .st a,off=>Xr5 s g a off
 | .pr a c,off=>match Nat.blt off a.size with
  | true=>Xr5 s g a off
  | false=>Xr5 s g c (off-a.size)
 | a,0=>match Xz2 s g a with
  | true=>some a
  | false=>none
 | _,_=>none
def Xte(v:AV): D->Nat->Option AV
 | .st x,0=>match fit v.size v.ag (.st x) with
  | true=>some v
  | false=>match Xte v x 0 with
   | some a=>some (stN a)
   | none=>none
 | .st x,off=>match Xte v x off with
  | some a=>some (stN a)
  | none=>none
 | .pr x y,off=>match Nat.blt off x.size with
  | true=>match Xte v x off with
   | some a=>some (prN a (.d y))
   | none=>none
  | false=>match Xte v y (off-x.size) with
   | some a=>some (prN (.d x) a)
   | none=>none
 | x,0=>match fit v.size v.ag x with
  | true=>some v
  | false=>none
 | _,_=>none
def Xr1(v:AV): AV->Nat->Option AV
 | .d x,off=>Xte v x off
 | .st x,0=>match Xz2 v.size v.ag (.st x) with
  | true=>some v
  | false=>match Xr1 v x 0 with
   | some a=>some (stN a)
   | none=>none
 | .st x,off=>match Xr1 v x off with
  | some a=>some (stN a)
  | none=>none
 | .pr x y,off=>match Nat.blt off x.size with
  | true=>match Xr1 v x off with
   | some a=>some (prN a y)
   | none=>none
  | false=>match Xr1 v y (off-x.size) with
   | some a=>some (prN x a)
   | none=>none
 | x,0=>match Xz2 v.size v.ag x with
  | true=>some v
  | false=>none
 | _,_=>none
def Ycy: D->Nat->Option D
 | .pr a _,0=>some a
 | .pr _ c,f+1=>Ycy c f
 | x,0=>some x
 | _,_=>none
def Yep: AV->Nat->Option AV
 | .pr a _,0=>some a
 | .pr _ c,i+1=>Yep c i
 | .un,_=>none
 | a,0=>some a
 | _,_=>none
def asP: AV->Option Prop
 | .q p=>some p
 | .b c=>some (c=true)
 | .d (.bool c)=>some (c=true)
 | _=>none
noncomputable def Yl0(op:BinOp)(k:IntKind)(a b:Int): Option AV :=
 match op with
 | .add=>some (.d (.int k (k.wrap (a+b))))
 | .sub=>some (.d (.int k (k.wrap (a-b))))
 | .mul=>some (.d (.int k (k.wrap (a*b))))
 | .quo=>if b=0 then none else some (.d (.int k (k.wrap (a.tdiv b))))
 | .rem=>if b=0 then none else some (.d (.int k (a.tmod b)))
 | .and=>some (.d (.int k (k.wrap (BitVec.ofInt k.bits a&&&BitVec.ofInt k.bits b).toNat)))
 | .or=>some (.d (.int k (k.wrap (BitVec.ofInt k.bits a|||BitVec.ofInt k.bits b).toNat)))
 | .xor=>some (.d (.int k (k.wrap (BitVec.ofInt k.bits a^^^BitVec.ofInt k.bits b).toNat)))
 | .andNot=>some (.d (.int k (k.wrap (BitVec.ofInt k.bits a &&& ~~~BitVec.ofInt k.bits b).toNat)))
 | .eql=>some (.b (dc (a=b)))
 | .neq=>some (.b (dc (a≠b)))
 | .lss=>some (.b (dc (a<b)))
 | .leq=>some (.b (dc (a<=b)))
 | .gtr=>some (.b (dc (a>b)))
 | .geq=>some (.b (dc (a>=b)))
 | _=>none
def Ye7: AV->Bool
 | .d (.sl _ _) | .nil | .lit _ _ | .own _ _ _ _ | .ow3 _ _ _ _ | .gr _ _ _=>true
 | _=>false
def Ynw: AV->Prop
 | .d (.sl _ xs)=>xs=[]
 | .gr _ _ xs=>xs=[]
 | .lit _ xs=>xs=[]
 | _=>True
noncomputable def Ya4(tz:Option TI)(op:BinOp)(y:Operand): AV->AV->Option AV
 | .d (.int k a),.d (.int h b)=>match op with
  | .shl=>if b<0 then none else some (.d (.int k (k.wrap (a*2^(min b.toNat k.bits)))))
  | .shr=>if b<0 then none else some (.d (.int k (a.fdiv (2^(min b.toNat k.bits)))))
  | op=>if k=h then Yl0 op k a b else none
 | .d (.str a),.d (.str b)=>match op with
  | .add=>if a.length+b.length<9223372036854775808 then some (.d (.str (a++b))) else none
  | .eql=>some (.b (dc (a=b)))
  | .neq=>some (.b (dc (a≠b)))
  | _=>none
 | a,c=>match tz with
  | some ⟨.bool _,_,_,_⟩=>match asP a,asP c with
   | some p,some q=>match op with
    | .eql=>some (.b (dc (p↔q)))
    | .neq=>some (.b (dc (¬(p↔q))))
    | _=>none
   | _,_=>none
  | some ⟨.sl _ _,_,_,_⟩=>match op,y,Ye7 a with
   | .eql,.const (.slice none 0 0),true=>some (.ub (Ynw a))
   | .neq,.const (.slice none 0 0),true=>some (.ub True)
   | _,_,_=>none
  | _=>none
def Ypm: AV->Option Nat
 | .d (.sl _ xs)=>some xs.length
 | .gr _ _ xs=>some xs.length
 | .lit _ xs=>some xs.length
 | .nil=>some 0
 | .own _ _ _ n=>some n
 | .ow3 _ _ _ n=>some n
 | _=>none
def slA(lo:Option Int)(hi:Option Int): AV->Option AV
 | .d (.sl sz xs)=>slL sz xs lo hi
 | .gr _ sz xs=>slL sz xs lo hi
 | .lit sz xs=>slL sz xs lo hi
 | .own o sz l n=>match lo,hi with
  | none,none=>some (.own o sz l n)
  | none,some h=>if 0<=h/\h<=n then some (.own o sz l h.toNat) else none
  | some i,none=>if 0<=i/\i<=n then some (.own o sz (l+i.toNat) (n-i.toNat)) else none
  | some i,some h=>if 0<=i/\i<=h/\h<=n then some (.own o sz (l+i.toNat) (h.toNat-i.toNat)) else none
 | .ow3 o sz l n=>match lo,hi with
  | none,none=>some (.ow3 o sz l n)
  | some i,none=>if 0<=i/\i<=n then some (.ow3 o sz (l+i.toNat) (n-i.toNat)) else none
  | _,_=>none
 | .nil=>match lo,hi with
  | none,none=>some .nil
  | none,some h=>if h=0 then some .nil else none
  | some i,none=>if i=0 then some .nil else none
  | some i,some h=>if i=0/\h=0 then some .nil else none
 | _=>none
where slL (sz:Nat) (xs:List D):Option Int->Option Int->Option AV
 | none,none=>some (.d (.sl sz xs))
 | none,some h=>if 0<=h/\h<=xs.length then some (.d (.sl sz (xs.take h.toNat))) else none
 | some i,none=>if 0<=i/\i<=xs.length then some (.d (.sl sz (xs.drop i.toNat))) else none
 | some i,some h=>if 0<=i/\i<=h/\h<=xs.length then some (.d (.sl sz ((xs.drop i.toNat).take (h.toNat-i.toNat)))) else none
def sl3(h m:Int): AV->Option AV
 | .own o sz l n=>if 0<=h/\h<=n/\m=h then some (.ow3 o sz l h.toNat) else none
 | .ow3 o sz l n=>if 0<=h/\h<=n/\m=h then some (.ow3 o sz l h.toNat) else none
 | _=>none
def Yos(s:Nat): AV->Bool
 | .d (.sl s' _)=>Nat.beq s' s
 | .gr _ s' _=>Nat.beq s' s
 | .lit s' _=>Nat.beq s' s
 | .own _ s' _ _=>Nat.beq s' s
 | .ow3 _ s' _ _=>Nat.beq s' s
 | _=>true
def Xjt(lo hi h:Option Operand): List AV->Option (AV×Option Int×Option Int×Option Int)
 | [x]=>match lo,hi,h with
  | none,none,none=>some (x,none,none,none)
  | _,_,_=>none
 | [x,.d (.int _ a)]=>match lo,hi,h with
  | some _,none,none=>some (x,some a,none,none)
  | none,some _,none=>some (x,none,some a,none)
  | _,_,_=>none
 | [x,.d (.int _ a),.d (.int _ b)]=>match lo,hi,h with
  | some _,some _,none=>some (x,some a,some b,none)
  | none,some _,some _=>some (x,none,some a,some b)
  | _,_,_=>none
 | _=>none
def ixA(ti:TI)(j:Int): AV->Option AV
 | .d (.sl sz xs)=>ixL sz xs
 | .gr _ sz xs=>ixL sz xs
 | .lit sz xs=>ixL sz xs
 | .own o sz l n=>if 0<=j/\j<n/\sz=ti.e.size then some (.el o sz (l+j.toNat) 0) else none
 | .ow3 o sz l n=>if 0<=j/\j<n/\sz=ti.e.size then some (.el o sz (l+j.toNat) 0) else none
 | _=>none
where ixL (sz:Nat) (xs:List D):Option AV :=
 if 0<=j/\sz=ti.e.size then match xs[j.toNat]? with
  | some u=>some (.at u)
  | none=>none
 else none
def Yan: List D->Option (List UInt8)
 | []=>some []
 | .int .u8 z::l=>match Yan l with
  | some s=>some (UInt8.ofNat z.toNat::s)
  | none=>none
 | _=>none
def Ylq: AV->Option (List UInt8)
 | .d (.sl 1 xs) | .lit 1 xs=>Yan xs
 | _=>none
def slS(s:List UInt8): Option Int->Option Int->Option AV
 | none,none=>some (.d (.str s))
 | none,some h=>if 0<=h/\h<=s.length then some (.d (.str (s.take h.toNat))) else none
 | some i,none=>if 0<=i/\i<=s.length then some (.d (.str (s.drop i.toNat))) else none
 | some i,some h=>if 0<=i/\i<=h/\h<=s.length then some (.d (.str ((s.drop i.toNat).take (h.toNat-i.toNat)))) else none
def Ycb: AV->Bool
 | .ptr _ _ | .d (.int ..) | .d (.str _) | .d (.bool _) | .d (.raw _) | .b _=>true
 | _=>false
def chA: List AV->Option AV
 | []=>none
 | [a]=>match Ycb a with
  | true=>some a
  | false=>none
 | a::l=>match Ycb a,chA l with
  | true,some c=>some (.pr a c)
  | _,_=>none
def okA: AV->Bool
 | .pr a c=>Ycb a&&okA c
 | a=>Ycb a
def unA: AV->List AV
 | .pr a c=>a::unA c
 | a=>[a]
def plain: AV->Bool
 | .pr _ _ | .tup _ | .un | .d (.pr _ _)=>false
 | _=>true
noncomputable def Ydq(z:D)(sz:Nat): List AV->Option (List D)
 | []=>some []
 | a::l=>match toD z a with
  | none=>none
  | some x=>match plain a&&Nat.beq x.size sz&&Nat.beq a.size sz&&(a.ag||Nat.beq sz 1) with
   | false=>none
   | true=>match Ydq z sz l with
    | none=>none
    | some xs=>some (x::xs)
def Xsk: Nat->List (Nat×Operand)->Bool
 | _,[]=>true
 | k,(i,_)::l=>Nat.beq i k&&Xsk (k+1) l
def Xs2: AV->Nat->AV->Option AV
 | .pr a c,0,v=>match Xz2 a.size a.ag v with
  | true=>some (.pr v c)
  | false=>none
 | .pr a c,f+1,v=>match Xs2 c f v with
  | some c'=>some (.pr a c')
  | none=>none
 | a,0,v=>match Xz2 a.size a.ag v with
  | true=>some v
  | false=>none
 | _,_,_=>none
def Xoc: AV->List (Nat×Operand)->List AV->Option AV
 | a,[],[]=>some a
 | a,(i,_)::l,v::h=>match plain v,Xs2 a i v with
  | true,some j=>Xoc j l h
  | _,_=>none
 | _,_,_=>none
def zP: D->AV
 | .pr x y=>.pr (zA x) (zP y)
 | x=>zA x
def Xzp: AV->AV
 | .pr a c=>prN a (Xzp c)
 | a=>a
def Yk3(ti:TI)(z:D): Bool:=match ti.arr with
 | 0=>true
 | _+1=>z.comps.all λc=>Nat.beq c.size ti.e.size&&(c.ag||Nat.beq c.size 1)
noncomputable def Fp(tb:Nat->Option TI)(op:Op)(args:List AV): Option AV :=
 match op with
 | .move _ | .assign _=>match args with
  | [a]=>some a
  | _=>none
 | .pick _ _ _=>match args with
  | [.b true,a,_]=>some a
  | [.b false,_,c]=>some c
  | _=>none
 | .extract _ i=>match args with
  | [.tup a]=>Yep a i
  | _=>none
 | .unOp .not _ _=>match args with
  | [.b c]=>some (.b (!c))
  | [.q p]=>some (.q (¬p))
  | _=>none
 | .unOp .neg _ _=>match args with
  | [.d (.int k z)]=>some (.d (.int k (k.wrap (0-z))))
  | _=>none
 | .binOp op T _ y _=>match args with
  | [a,c]=>Ya4 (tb T) op y a c
  | _=>none
 | .convert S T _=>match args with
  | [.d (.int _ z)]=>match tb S,tb T with
   | some _,some ⟨.int k _,_,_,_⟩=>some (.d (.int k (k.wrap z)))
   | _,_=>none
  | [a]=>match tb S,tb T with
   | some ⟨.sl _ _,.int .u8 _,_,_⟩,some ⟨.str _,_,_,_⟩=>match Ylq a with
    | some s=>some (.d (.str s))
    | none=>none
   | _,_=>none
  | _=>none
 | .call ⟨.builtin .len,_,O⟩=>match args,O[0]? with
  | [a],some T=>match tb T with
   | some ⟨.sl _ _,_,_,_⟩=>match Ypm a with
    | some n=>some (.d (.int .i64 n))
    | none=>none
   | some ⟨.str _,_,_,_⟩=>match a with
    | .d (.str s)=>some (.d (.int .i64 s.length))
    | _=>none
   | _=>none
  | _,_=>none
 | .call ⟨.builtin .cap,_,O⟩=>match args,O[0]? with
  | [.nil],some T=>match tb T with
   | some ⟨.sl _ _,_,_,_⟩=>some (.d (.int .i64 0))
   | _=>none
  | _,_=>none
 | .call ⟨.builtin .min,_,_⟩=>match args with
  | [.d (.int k x),.d (.int Q y)]=>if k=Q then some (.d (.int k (if y<x then y else x))) else none
  | _=>none
 | .call ⟨.builtin .max,_,_⟩=>match args with
  | [.d (.int k x),.d (.int Q y)]=>if k=Q then some (.d (.int k (if y>x then y else x))) else none
  | _=>none
 | .nilCheck _=>match args with
  | [.ptr o off]=>some (.ptr o off)
  | _=>none
 | .fieldAddr T _ f=>match tb T with
  | some I=>match I.z,I.arr with
   | .st z,0=>match Nat.blt f z.comps.length with
    | false=>none
    | true=>match args with
     | [.at (.st x)]=>match Nat.beq (Xhp x.comps f) (Xhp z.comps f),Ycy x f with
      | true,some y=>some (.at y)
      | _,_=>none
     | [.ptr o off]=>some (.ptr o (off+Xhp z.comps f))
     | [.el o sz j off]=>some (.el o sz j (off+Xhp z.comps f))
     | _=>none
   | _,_=>none
  | none=>none
 | .field T _ f=>match tb T with
  | some I=>match I.z,I.arr with
   | .st z,0=>match args with
    | [.d (.st x)]=>match Xpz ((z.comps[f]?).getD (.bool false)).size ((z.comps[f]?).getD (.bool false)).ag x (Xhp z.comps f),Nat.blt f z.comps.length with
     | some y,true=>some (nb y)
     | _,_=>none
    | [.st x]=>match Xr5 ((z.comps[f]?).getD (.bool false)).size ((z.comps[f]?).getD (.bool false)).ag x (Xhp z.comps f),Nat.blt f z.comps.length with
     | some y,true=>some y
     | _,_=>none
    | _=>none
   | _,_=>none
  | none=>none
 | .indexAddr T _ _=>match tb T,args with
  | some I,[a,.d (.int _ j)]=>match I.z,a with
   | .sl _ _,a=>ixA I j a
   | .st _,.ptr o off=>if 0<=j/\j<I.arr then some (.ptr o (off+j.toNat*I.e.size)) else none
   | _,_=>none
  | _,_=>none
 | .slice T _ lo hi V=>match tb T with
  | some I=>match I.z,Xjt lo hi V args with
   | .sl _ _,some (a,l,h,none)=>match Yos I.e.size a with
    | true=>slA l h a
    | false=>none
   | .sl _ _,some (a,none,some h,some m)=>if h=0/\m=0/\Ye7 a then some .nil else sl3 h m a
   | .str _,some (.d (.str s),l,h,none)=>slS s l h
   | _,_=>none
  | none=>none
 | .build T ps=>match tb T with
  | some I=>match I.z with
   | .st z=>match Yk3 I z,Xoc (zP z) ps.toList args with
    | true,some a=>some (stN (Xzp a))
    | _,_=>none
   | _=>none
  | none=>none
 | .buildSlice T n ps=>match tb T with
  | some I=>match I.z with
   | .sl sz _=>match Nat.ble (n*sz) 16777216&&Nat.beq ps.size n&&Xsk 0 ps.toList,Ydq I.e sz args with
    | true,some xs=>some (.lit sz xs)
    | _,_=>none
   | _=>none
  | none=>none
 | .index T _ _=>match tb T,args with
  | some ⟨.str _,_,_,_⟩,[.d (.str s),.d (.int _ j)]=>if 0<=j then match s[j.toNat]? with
   | some b=>some (.d (.int .u8 b.toNat))
   | none=>none
   else none
  | _,_=>none
 | .makeFunc fn ⟨[]⟩ ⟨l⟩=>match fn,l,args with
  | fn,[],_=>some (.d (.raw (.func fn #[] #[])))
  | .func f,[_],[.ptr o 0]=>some (.fn f o)
  | .func f,_::_::_,_=>match chA args with
   | some a=>some (.fm f a)
   | none=>none
  | _,_,_=>none
 | _=>none
def Xho(n:Nat)(ti:TI): Prop:=n*ti.eb<=140737488355328/\n<9223372036854775808
noncomputable def Xhn(g:Hp)(z:D)(sz:Nat): AV->Option (List D)
 | .own o s l n=>match g o with
  | some (.arr s' h)=>if s'=sz/\s=sz/\l+n<=h.length then some ((h.drop l).take n) else none
  | _=>none
 | .ow3 o s l n=>match g o with
  | some (.arr s' h)=>if s'=sz/\s=sz/\l+n<=h.length then some ((h.drop l).take n) else none
  | _=>none
 | c=>match toD z c with
  | some (.sl s h)=>if s=sz then some h else none
  | _=>none
open Classical in
noncomputable def Xkm(d:Nat)(g:Hp)(ti:TI)(sz:Nat)(ys:List D): AV->Option (AV×List (Nat×Ob))
 | .nil=>if Xho ys.length ti then some (.gr d sz ys,[(d,.tok ys.length sz)]) else none
 | .lit s xs=>if Xho (xs.length+ys.length) ti/\0<ys.length/\s=sz then some (.own d sz 0 (xs.length+ys.length),[(d,.arr sz (xs++ys))]) else if Xho (xs.length+ys.length) ti/\ys.length=0/\s=sz then some (.lit s xs,[]) else none
 | .gr o s xs=>match g o with
  | some (.tok n s')=>if Xho (xs.length+ys.length) ti/\n=xs.length/\s=sz/\s'=sz then some (.gr d sz (xs++ys),[(d,.tok (xs.length+ys.length) sz),(o,.dead)]) else none
  | _=>none
 | .own o s l n=>match g o with
  | some (.arr s' xs)=>if Xho (xs.length+ys.length) ti/\l=0/\n=xs.length/\s=sz/\s'=sz then some (.own d sz 0 (xs.length+ys.length),[(d,.arr sz (xs++ys)),(o,.dead)]) else if Xho (n+ys.length) ti/\l=0/\n+ys.length<=xs.length/\s=sz/\s'=sz then some (.own o sz 0 (n+ys.length),[(o,.arr sz (xs.take n++ys++xs.drop (n+ys.length)))]) else none
  | _=>none
 | .ow3 o s l n=>match g o with
  | some (.arr s' xs)=>if Xho (n+ys.length) ti/\l=0/\n<=xs.length/\s=sz/\s'=sz then if ys.length=0 then some (.ow3 o s 0 n,[]) else some (.own d sz 0 (n+ys.length),[(d,.arr sz (xs.take n++ys))]) else none
  | _=>none
 | _=>none
noncomputable def Yhs(g:Hp)(z:D)(sz n:Nat): AV->Option (List D)
 | .own o s l m=>match g o with
  | some (.arr s' h)=>if s'=sz/\s=sz/\l+min m n<=h.length then some ((h.drop l).take (min m n)) else none
  | _=>none
 | c=>Xhn g z sz c
open Classical in
noncomputable def Yl6(g:Hp)(sz:Nat)(ys:List D): AV->Option (AV×List (Nat×Ob))
 | .own o s l n=>match g o with
  | some (.arr s' xs)=>if s=sz/\s'=sz/\l<=xs.length/\ys.length<=n/\0<ys.length then some (.d (.int .i64 ys.length),[(o,.arr sz (xs.take l++ys++xs.drop (l+ys.length)))]) else none
  | _=>none
 | _=>none
open Classical in
noncomputable def F(tb:Nat->Option TI)(d:Nat)(g:Hp)(op:Op)(args:List AV): Option (AV×List (Nat×Ob)) :=
 match op with
 | .load T _=>match tb T with
  | some h=>match args with
   | [.at x]=>match fit h.z.size h.z.ag x with
    | true=>some (nb x,[])
    | false=>none
   | [.ptr o off]=>match g o with
    | some (.var a)=>match Xr5 h.z.size h.z.ag a off with
     | some y=>some (y,[])
     | none=>none
    | _=>none
   | [.el o sz j off]=>match g o with
    | some (.arr i xs)=>if sz=i then match xs[j]? with
     | some x=>match Xpz h.z.size h.z.ag x off with
      | some y=>some (nb y,[])
      | none=>none
     | none=>none
     else none
    | _=>none
   | _=>none
  | none=>none
 | .store T _ _=>match tb T with
  | some h=>match args with
   | [.ptr o off,v]=>match g o with
    | some (.var a)=>match plain v&&Nat.beq v.size h.z.size,Xr1 v a off with
     | true,some O=>some (.ub True,[(o,.var O)])
     | _,_=>none
    | _=>none
   | [.el o sz j 0,v]=>match g o with
    | some (.arr i xs)=>match toD h.z v with
     | some x=>if plain v=true/\sz=i/\v.size=sz/\x.size=sz/\h.z.size=sz/\j<xs.length then some (.ub True,[(o,.arr sz (xs.set j x))]) else none
     | none=>none
    | _=>none
   | _=>none
  | none=>none
 | .alloc T=>match tb T,g d,args with
  | some h,none,[]=>some (.ptr d 0,[(d,.var (zA h.z))])
  | _,_,_=>none
 | .box T _=>match g d,args with
  | none,[a]=>match plain a with
   | true=>some (.ptr d 0,[(d,.var a)])
   | false=>none
  | _,_=>none
 | .makeSlice T _ _=>match tb T,g d,args with
  | some h,none,[.d (.int _ m),.d (.int _ c)]=>match h.z with
   | .sl sz _=>if 0<=m/\m<=c/\Xho c.toNat h then some (.own d sz 0 m.toNat,[(d,.arr sz (List.replicate m.toNat h.e))]) else none
   | _=>none
  | _,_,_=>none
 | .call ⟨.builtin .append,_,⟨[T,T']⟩⟩=>match args with
  | [a,c]=>if T=T' then match tb T,g d with
   | some h,none=>match h.z with
    | .sl sz _=>match Xhn g h.z sz c with
     | some I=>Xkm d g h sz I a
     | none=>none
    | _=>none
   | _,_=>none
   else none
  | _=>none
 | .call ⟨.builtin .copy,_,⟨[T,T']⟩⟩=>match args with
  | [.own o s l n,c]=>if T=T' then match tb T with
   | some h=>match h.z with
    | .sl sz _=>match Yhs g h.z sz n c with
     | some I=>Yl6 g sz I (.own o s l n)
     | none=>none
    | _=>none
   | none=>none
   else none
  | _=>none
 | op=>match Fp tb op args with
  | some v=>some (v,[])
  | none=>none
end
section
variable{W:GW}{θ:Loc}
theorem Ylw{a b:Nat}(h:Nat.blt a b=false): ¬a<b:=λi=>by rw[show Nat.blt a b=true from Nat.ble_eq_true_of_le i] at h;cases h
theorem Ylx: ∀ {x:D} {cs:List Value},D.At W x cs->AV.C W θ (nb x) cs
 | .bool c,cs,h=>h
 | .int ..,_,h | .str _,_,h | .raw _,_,h | .sl ..,_,h | .st _,_,h | .pr ..,_,h=>h
theorem Xoq(x:D): (nb x).size=x.size:=by cases x<;>rfl
theorem Yet(x:D): (nb x).ag=x.ag:=by cases x<;>rfl
theorem Xmt(x:D)(i:Nat): ¬(nb x).ids i:=by cases x<;>exact id
theorem Xyu{a:AV}{cs:List Value}(h:AV.C W θ a cs): AV.C W θ (stN a) cs:=by cases a<;>exact h
theorem Xk2{a:AV}{i:Nat}(h:(stN a).ids i): a.ids i:=by cases a<;>exact h
theorem Xp2(a:AV): (stN a).ag=true:=by cases a<;>rfl
theorem Xyt(a:AV): (stN a).size=a.size:=by cases a<;>rfl
theorem Xzd{a c:AV}{u v:List Value}(h:AV.C W θ a u)(k:AV.C W θ c v): AV.C W θ (prN a c) (u++v):=by
 unfold prN;split
 . exact⟨u,v,rfl,h,k⟩
 . exact⟨u,v,rfl,h,k⟩
theorem Xlc{a c:AV}{i:Nat}(h:(prN a c).ids i): a.ids i\/c.ids i:=by
 unfold prN at h;split at h
 . exact h.elim
 . exact h
theorem Xzc(a c:AV): (prN a c).size=a.size+c.size:=by
 unfold prN;split<;>rfl
theorem Yii(a c:AV): (prN a c).ag=false:=by
 unfold prN;split<;>rfl
theorem Ydg: ∀ {x:D},x.isZ=true->AV.C W θ (zA x) x.zc
 | .bool c,h=>by
  have:c=false:=by simpa [D.isZ] using h
  subst this;rfl
 | .sl ..,_=>⟨none,rfl⟩
 | .st x,h=>Xyu (Ydg (x:=x) h)
 | .pr x y,h=>by
  have:x.isZ=true/\y.isZ=true:=by simpa [D.isZ] using h
  exact Xzd (Ydg this.1) (Ydg this.2)
 | .int k z,h=>D.at_zc (.int k z) h
 | .str s,h=>D.at_zc (.str s) h
 | .raw u,h=>D.at_zc (.raw u) h
theorem Xh3: ∀(x:D) (i:Nat),¬(zA x).ids i
 | .bool _,_ | .sl ..,_ | .int ..,_ | .str _,_ | .raw _,_=>id
 | .st x,i=>λh=>Xh3 x i (Xk2 h)
 | .pr x y,i=>λh=>(Xlc h).elim (Xh3 x i) (Xh3 y i)
theorem Xgm: ∀(x:D),(zA x).size=x.size
 | .bool _ | .sl .. | .int .. | .str _ | .raw _=>rfl
 | .st x=>by rw[zA,Xyt,Xgm x];rfl
 | .pr x y=>by rw[zA,Xzc,Xgm x,Xgm y];rfl
theorem Ydh: ∀(x:D),(zA x).ag=x.ag
 | .bool _ | .sl .. | .int .. | .str _ | .raw _=>rfl
 | .st x=>Xp2 _
 | .pr x y=>Yii _ _
theorem Xme: ∀ {z:D} {a:AV} {x:D} {cs:List Value},toD z a=some x->AV.C W θ a cs->D.At W x cs:=by
 intro z a
 induction a generalizing z with
 | d y=>intro x cs h i;simp[toD] at h;subst h;exact i
 | b c=>intro x cs h i;simp[toD] at h;subst h;exact i
 | q p =>
  intro x cs h i
  simp only[toD,Option.some.injEq] at h;subst h
  obtain⟨c,e,hp⟩:=i
  show cs=[.bool (@decide p (Classical.propDecidable p))]
  rw[e]
  cases c with
  | true=>simp[hp.1 rfl]
  | false =>
   have:¬p:=λhh=>by simpa using hp.2 hh
   simp[this]
 | nil =>
  intro x cs h i
  cases z<;>simp[toD] at h
  subst h
  obtain⟨p,e⟩:=i
  exact⟨p,0,e,W0a _,by decide,.inl rfl⟩
 | gr o sz xs =>
  intro x cs h i
  simp[toD] at h;subst h
  obtain⟨p,e,h0,j,I,O⟩:=i
  refine⟨_,_,e,j,I,?_⟩
  rcases h0 with h0 | h0
  . exact .inl (W0q (by omega))
  . refine O.imp id ?_
    rintro⟨Q,hb,hr⟩
    exact⟨Q,0,by rw[h0,hb];rfl,hr⟩
 | st a ih =>
  intro x cs h i
  cases z<;>simp only[toD] at h<;>try cases h
  split at h
  . rename_i y T
    injection h with h;subst h;exact show D.At W y cs from ih T i
  . cases h
 | pr a c V Z =>
  intro x cs h i
  cases z<;>simp only[toD] at h<;>try cases h
  split at h
  . rename_i y y' T hy'
    injection h with h;subst h
    obtain⟨u,v,e,j,I⟩:=i
    exact⟨u,v,e,V T j,Z hy' I⟩
  . cases h
 | lit sz xs =>
  intro x cs h i
  simp[toD] at h;subst h
  obtain⟨p,e,j,I⟩:=i
  exact⟨_,_,e,W0a _,j,I.imp_right λ⟨b,O,h4⟩=>⟨b,0,O,h4⟩⟩
 | _=>intro x cs h i;simp[toD] at h
theorem Xm7{s:Nat}{g:Bool}{x:D}(h:fit s g x=true): x.size=s/\x.ag=g:=by
 simp only[fit,W0g,beq_iff_eq] at h
 exact⟨W0d h.1,h.2⟩
theorem Xdi{s:Nat}{g:Bool}{x:AV}(h:Xz2 s g x=true): x.size=s/\x.ag=g:=by
 simp only[Xz2,W0g,beq_iff_eq] at h
 exact⟨W0d h.1,h.2⟩
theorem Yhp{s:Nat}{g:Bool}{x y:D}(i:∀z,x≠.st z)(hp:∀u v,x≠.pr u v){off:Nat}(h:Xpz s g x off=some y): off=0/\y=x/\x.size=s/\x.ag=g:=by
 unfold Xpz at h
 split at h
 . exact absurd rfl (i _)
 . exact absurd rfl (i _)
 . exact absurd rfl (hp _ _)
 . split at h
   . rename_i hf;injection h with h;exact⟨rfl,h.symm,Xm7 hf⟩
   . cases h
 . cases h
theorem Xtt{s:Nat}{g:Bool}: ∀ {x:D} {off:Nat} {y:D} {cs:List Value},Xpz s g x off=some y->D.At W x cs ->
 ∃u m v,cs=u++(m++v)/\u.length=off/\D.At W y m/\y.size=s/\y.ag=g:=by
 intro x
 induction x using D.ind with
 | st x V =>
  intro off y cs h i
  cases off with
  | zero =>
   simp only[Xpz] at h
   split at h
   . rename_i hf;injection h with h;subst h
     exact⟨[],cs,[],by simp,rfl,i,Xm7 hf⟩
   . exact V h i
  | succ off=>simp only[Xpz] at h;exact V h i
 | pr a c o I =>
  intro off y cs h i
  obtain⟨u,v,e,Z,h2⟩:=i
  simp only[Xpz] at h
  split at h
  . obtain⟨O,m,Q,j,r⟩:=o h Z
    exact⟨O,m,Q++v,by rw[e,j];simp,r⟩
  . rename_i hb
    obtain⟨O,m,Q,j,T,r⟩:=I h h2
    refine⟨u++O,m,Q,by rw[e,j];simp,?_,r⟩
    have hl:=D.at_len a Z
    have:¬off<a.size:=Ylw hb
    rw[W0c,T];omega
 | leaf x hx hp =>
  intro off y cs h i
  obtain⟨j,T,e3,e4⟩:=Yhp hx hp h
  subst T
  exact⟨[],cs,[],by simp,j.symm,i,e3,e4⟩
theorem Yhq{s:Nat}{g:Bool}{x y:AV}(i:∀z,x≠.st z)(hp:∀u v,x≠.pr u v)(hd:∀u,x≠.d u){off:Nat}(h:Xr5 s g x off=some y): off=0/\y=x/\x.size=s/\x.ag=g:=by
 unfold Xr5 at h
 split at h
 . exact absurd rfl (hd _)
 . exact absurd rfl (i _)
 . exact absurd rfl (i _)
 . exact absurd rfl (hp _ _)
 . split at h
   . rename_i hf;injection h with h;exact⟨rfl,h.symm,Xdi hf⟩
   . cases h
 . cases h
theorem Ybp{s:Nat}{g:Bool}: ∀ {x:AV} {off:Nat} {y:AV} {cs:List Value},Xr5 s g x off=some y->AV.C W θ x cs ->
 ∃u m v,cs=u++(m++v)/\u.length=off/\AV.C W θ y m/\y.size=s/\y.ag=g/\∀i,y.ids i->x.ids i:=by
 intro x
 induction x with
 | d x =>
  intro off y cs h j
  simp only[Xr5] at h
  split at h
  . rename_i z hz
    injection h with h;subst h
    obtain⟨u,m,v,o,I,O,Q,T⟩:=Xtt hz j
    exact⟨u,m,v,o,I,Ylx O,by rw[Xoq,Q],by rw[Yet,T],λi hi=>absurd hi (Xmt _ i)⟩
  . cases h
 | st x ih =>
  intro off y cs h j
  cases off with
  | zero =>
   simp only[Xr5] at h
   split at h
   . rename_i hf;injection h with h;subst h
     exact⟨[],cs,[],by simp,rfl,j,(Xdi hf).1,(Xdi hf).2,λ_ h=>h⟩
   . exact ih h j
  | succ off=>simp only[Xr5] at h;exact ih h j
 | pr a c V Z =>
  intro off y cs h j
  obtain⟨u,v,e,h1,h2⟩:=j
  simp only[Xr5] at h
  split at h
  . obtain⟨u1,m,v1,o,I,O,Q,T,e6⟩:=V h h1
    exact⟨u1,m,v1++v,by rw[e,o];simp,I,O,Q,T,λi hi=>.inl (e6 i hi)⟩
  . rename_i hb
    obtain⟨u1,m,v1,o,I,O,Q,T,e6⟩:=Z h h2
    refine⟨u++u1,m,v1,by rw[e,o];simp,?_,O,Q,T,λi hi=>.inr (e6 i hi)⟩
    have hl:=AV.c_len a h1
    have:¬off<a.size:=Ylw hb
    rw[W0c,I];omega
 | _ =>
  intro off y cs h j
  obtain⟨o,I,O,Q⟩:=Yhq (by nofun) (by nofun) (by nofun) h
  subst I
  exact⟨[],cs,[],by simp,o.symm,j,O,Q,λ_ h=>h⟩
def Put(W:GW)(θ:Loc)(v:AV)(vs cs:List Value)(off:Nat)(h:AV)(I:Nat->Prop): Prop :=
 ∃u m w,cs=u++(m++w)/\u.length=off/\m.length=v.size/\AV.C W θ h (u++(vs++w))/\∀i,h.ids i->I i\/v.ids i
theorem Put.st{v:AV}{vs cs:List Value}{off:Nat}{j:AV}{I:Nat->Prop}(h:Put W θ v vs cs off j I): Put W θ v vs cs off (stN j) I:=by
 obtain⟨u,m,w,o,O,Q,T,V⟩:=h
 exact⟨u,m,w,o,O,Q,Xyu T,λi hi=>V i (Xk2 hi)⟩
theorem Put.left{v:AV}{vs cs j:List Value}{off:Nat}{o c:AV}{I J:Nat->Prop}(h:Put W θ v vs cs off o I)(O:AV.C W θ c j)(Q:∀i,I i->J i)(T:∀i,c.ids i->J i):
 Put W θ v vs (cs++j) off (prN o c) J:=by
 obtain⟨u,m,w,V,Z,e3,e4,e5⟩:=h
 refine⟨u,m,w++j,by rw[V];simp,Z,e3,?_,λi hi=>?_⟩
 . have:=Xzd e4 O;simpa using this
 . rcases Xlc hi with h | h
   . exact(e5 i h).imp (Q i) id
   . exact .inl (T i h)
theorem Put.right{v:AV}{vs cs j:List Value}{off:Nat}{o c:AV}{I J:Nat->Prop}(h:Put W θ v vs j off o I)(O:AV.C W θ c cs)(Q:∀i,I i->J i)(T:∀i,c.ids i->J i):
 Put W θ v vs (cs++j) (cs.length+off) (prN c o) J:=by
 obtain⟨u,m,w,V,Z,e3,e4,e5⟩:=h
 refine⟨cs++u,m,w,by rw[V];simp,by rw[W0c,Z],e3,?_,λi hi=>?_⟩
 . have:=Xzd O e4;simpa using this
 . rcases Xlc hi with h | h
   . exact .inl (T i h)
   . exact(e5 i h).imp (Q i) id
theorem Put.all{v:AV}{vs cs:List Value}{I:Nat->Prop}(i:AV.C W θ v vs)(j:cs.length=v.size): Put W θ v vs cs 0 v I :=
 ⟨[],cs,[],by simp,rfl,j,by simpa using i,λ_ h=>.inr h⟩
theorem Yhe{v:AV}{x:D}{y:AV}(i:∀z,x≠.st z)(hp:∀u v,x≠.pr u v){off:Nat}(h:Xte v x off=some y): off=0/\y=v/\x.size=v.size:=by
 unfold Xte at h
 split at h
 . exact absurd rfl (i _)
 . exact absurd rfl (i _)
 . exact absurd rfl (hp _ _)
 . split at h
   . rename_i hf;injection h with h;exact⟨rfl,h.symm,(Xm7 hf).1⟩
   . cases h
 . cases h
theorem Yhf{v:AV}{vs:List Value}(Q:AV.C W θ v vs): ∀ {x:D} {off:Nat} {T:AV} {cs:List Value},Xte v x off=some T->D.At W x cs->Put W θ v vs cs off T λ_=>False:=by
 intro x
 induction x using D.ind with
 | st x V =>
  intro off y cs h i
  cases off with
  | zero =>
   simp only[Xte] at h
   split at h
   . rename_i hf;injection h with h;subst h
     exact .all Q (by rw[D.at_len _ i,(Xm7 hf).1])
   . split at h
     . rename_i j;injection h with h;subst h;exact(V j i).st
     . cases h
  | succ off =>
   simp only[Xte] at h
   split at h
   . rename_i j;injection h with h;subst h;exact(V j i).st
   . cases h
 | pr a c o I =>
  intro off y cs h i
  obtain⟨u,w,e,O,Z⟩:=i
  subst e
  simp only[Xte] at h
  split at h
  . split at h
    . rename_i j;injection h with h;subst h
      exact(o j O).left Z (λ_ h=>h) (λ_ h=>h)
    . cases h
  . rename_i hb
    split at h
    . rename_i j;injection h with h;subst h
      have hl:=D.at_len a O
      have hn:¬off<a.size:=Ylw hb
      have:=(I j Z).right (c:=.d a) O (λ_ h=>h) (λ_ h=>h)
      rwa[show u.length+(off-a.size)=off by omega] at this
    . cases h
 | leaf x hx hp =>
  intro off y cs h i
  obtain⟨e1,e2,e3⟩:=Yhe hx hp h
  subst e1;subst e2
  exact .all Q (by rw[D.at_len _ i,e3])
theorem Yhg{v:AV}{x:AV}{y:AV}(i:∀z,x≠.st z)(hp:∀u v,x≠.pr u v)(hd:∀u,x≠.d u){off:Nat}(h:Xr1 v x off=some y): off=0/\y=v/\x.size=v.size:=by
 unfold Xr1 at h
 split at h
 . exact absurd rfl (hd _)
 . exact absurd rfl (i _)
 . exact absurd rfl (i _)
 . exact absurd rfl (hp _ _)
 . split at h
   . rename_i hf;injection h with h;exact⟨rfl,h.symm,(Xdi hf).1⟩
   . cases h
 . cases h
theorem Ybj{v:AV}{vs:List Value}(I:AV.C W θ v vs): ∀ {x:AV} {off:Nat} {a':AV} {cs:List Value},Xr1 v x off=some a'->AV.C W θ x cs->Put W θ v vs cs off a' x.ids:=by
 intro x
 induction x with
 | d x =>
  intro off y cs h j
  simp only[Xr1] at h
  obtain⟨u,m,w,O,Q,T,e4,e5⟩:=Yhf I h j
  exact⟨u,m,w,O,Q,T,e4,λi hi=>(e5 i hi).imp (λh=>h.elim) id⟩
 | st x ih =>
  intro off y cs h j
  cases off with
  | zero =>
   simp only[Xr1] at h
   split at h
   . rename_i hf;injection h with h;subst h
     exact .all I (by rw[AV.c_len _ j,(Xdi hf).1])
   . split at h
     . rename_i o;injection h with h;subst h;exact(ih o j).st
     . cases h
  | succ off =>
   simp only[Xr1] at h
   split at h
   . rename_i o;injection h with h;subst h;exact(ih o j).st
   . cases h
 | pr a c V Z =>
  intro off y cs h j
  obtain⟨u,w,e,h1,h2⟩:=j
  subst e
  simp only[Xr1] at h
  split at h
  . split at h
    . rename_i o;injection h with h;subst h
      exact(V o h1).left h2 (λ_ h=>.inl h) (λ_ h=>.inr h)
    . cases h
  . rename_i hb
    split at h
    . rename_i o;injection h with h;subst h
      have hl:=AV.c_len a h1
      have hn:¬off<a.size:=Ylw hb
      have:=(Z o h2).right (c:=a) (J:=λi=>a.ids i\/c.ids i) h1 (λ_ h=>.inr h) (λ_ h=>.inl h)
      rwa[show u.length+(off-a.size)=off by omega] at this
    . cases h
 | _ =>
  intro off y cs h j
  obtain⟨O,Q,T⟩:=Yhg (by nofun) (by nofun) (by nofun) h
  subst O;subst Q
  exact .all I (by rw[AV.c_len _ j,T])
theorem Yj2: ∀ {x:D} {f:Nat} {y:D} {cs:List Value},Ycy x f=some y->D.At W x cs->∃u m v,cs=u++(m++v)/\u.length=Xhp x.comps f/\D.At W y m:=by
 intro x
 induction x using D.ind with
 | pr a c _ j =>
  intro f y cs h i
  obtain⟨u,v,e,o,I⟩:=i
  cases f with
  | zero =>
   simp only[Ycy] at h;injection h with h;subst h
   exact⟨[],u,v,by simpa using e,rfl,o⟩
  | succ f =>
   simp only[Ycy] at h
   obtain⟨O,m,Q,T,V,Z⟩:=j h I
   exact⟨u++O,m,Q,by rw[e,T];simp,by rw[W0c,V,D.at_len a o];rfl,Z⟩
 | leaf x hx hp =>
  intro f y cs h i
  unfold Ycy at h
  split at h
  . exact absurd rfl (hp _ _)
  . exact absurd rfl (hp _ _)
  . injection h with h;subst h;exact⟨[],cs,[],by simp,by cases x<;>rfl,i⟩
  . cases h
 | st x j =>
  intro f y cs h i
  cases f with
  | zero=>simp only[Ycy] at h;injection h with h;subst h;exact⟨[],cs,[],by simp,rfl,i⟩
  | succ f=>simp[Ycy] at h
theorem Ylh{a:AV}{cs:List Value}(h:AV.C W θ a cs): AV.V1 W θ a (mkv a.ag cs):=⟨cs,h,rfl⟩
theorem Ylg{a:AV}{cs:List Value}(h:AV.C W θ a cs): AV.V W θ a (mkv a.ag cs):=by
 cases a with
 | tup a=>exact h.elim
 | un=>exact h.elim
 | _=>exact Ylh h
theorem V_c{a:AV}{v:Value}(h:AV.V W θ a v)(i:∀b,a≠.tup b)(j:a≠.un): ∃cs,AV.C W θ a cs/\v=mkv a.ag cs:=by
 cases a with
 | tup a=>exact absurd rfl (i a)
 | un=>exact absurd rfl j
 | _=>exact h
theorem Yf7{a:AV}{cs:List Value}(h:AV.C W θ a cs)(hs:a.size=1): ∃v,cs=[v]:=by
 have:=AV.c_len a h
 match cs,this with
 | [v],_=>exact⟨v,rfl⟩
 | [],h=>simp[hs] at h
 | _::_::_,h=>simp[hs] at h
theorem Xxn{a:AV}{cs:List Value}(h:AV.C W θ a cs)(i:a.ag=true\/a.size=1): (mkv a.ag cs).cells.toList=cs:=by
 cases e:a.ag with
 | true=>simp[mkv,Value.cells]
 | false =>
  rcases i with i | i
  . rw[e] at i;cases i
  . obtain⟨v,rfl⟩:=Yf7 h i
    have:=AV.c_one a h v (W0j.2 rfl)
    cases v<;>simp_all[mkv,Value.cells,Xfb]
end
section
structure Stp (N:Nat->Prop) (W W':GW) (θ θ':Loc) (g g':Hp):Prop where
 os:W'.w.os=W.w.os
 out:W'.w.output=W.w.output
 tape:W'.w.tape=W.w.tape
 size:W.size<=W'.size
 same:∀b,b<W.size->¬N b->W'.w.heap[b]?=W.w.heap[b]?
 A:∀b,b<W.size->¬N b->∀i,W'.A b i↔W.A b i
 le:LeF W W'
 th:∀i y,g i=some y->θ' i=θ i
 hi:∀i,1000000<=i->θ' i=θ i
 obs:Obs W' θ' N g'
 dom:∀i y,g i=some y->∃y',g' i=some y'
theorem Stp.rfl{N:Nat->Prop}{W:GW}{θ:Loc}{g:Hp}(h:Obs W θ N g): Stp N W W θ θ g g :=
 ⟨_root_.rfl,_root_.rfl,_root_.rfl,W0a _,λ_ _ _=>_root_.rfl,λ_ _ _ _=>W4d,LeF.refl W,λ_ _ _=>_root_.rfl,λ_ _=>_root_.rfl,h,λ_ y h=>⟨y,h⟩⟩
theorem Yef(a:Act)(d t:Nat)(u:Value): (a.put (some d) u).tmps.getD t undef=if t=d/\d<a.tmps.size then u else a.tmps.getD t undef:=by
 simp only[Act.put,Array.getD_eq_getD_getElem?,W3n]
 by_cases h:d=t
 . subst h
   by_cases i:d<a.tmps.size
   . simp[i]
   . rw[if_pos _root_.rfl,if_neg i,if_neg (by simp[i]),W3z (by omega)]
 . rw[if_neg h,if_neg (λe=>h e.1.symm)]
theorem Sat.step0{W0:GW}{X:Nat->Prop}{n:Nat}{s:Ev×Hp}{a:Act}{W W':GW}{θ θ':Loc}{g':Hp}(h:Sat W0 X n s a W θ)(k:Stp (λb=>W0.size<=b\/X b) W W' θ θ' s.2 g'):
 Sat W0 X n (s.1,g') a W' θ' where
 fm:={
  os:=k.os.trans h.fm.os
  out:=k.out.trans h.fm.out
  tape:=k.tape.trans h.fm.tape
  size:=W0m h.fm.size k.size
  same:=λb hb o=>(k.same b (W0x hb h.fm.size) (λj=>j.elim (λj=>absurd hb (W5w.2 j)) o)).trans (h.fm.same b hb o)
  A:=λb hb o i=>(k.A b (W0x hb h.fm.size) (λj=>j.elim (λj=>absurd hb (W5w.2 j)) o) i).trans (h.fm.A b hb o i)
  le:=h.fm.le.trans k.le }
 rel:=⟨h.rel.defers,h.rel.size,λt v I=>(h.rel.has t v I).mono k.le λi hi=>let ⟨y,O⟩:=h.ids t v i I hi;k.th i y O⟩
 obs:=k.obs
 ids:=λt v i I hi=>let ⟨y,O⟩:=h.ids t v i I hi;k.dom i y O
theorem Sat.put{W0:GW}{X:Nat->Prop}{n:Nat}{s:Ev×Hp}{a:Act}{W:GW}{θ:Loc}{d:Nat}{v:AV}{u:Value}(h:Sat W0 X n s a W θ)(hd:d<n)(Q:AV.V W θ v u)
 (hi:∀i,v.ids i->∃y,s.2 i=some y):Sat W0 X n (upd s.1 d v,s.2) (a.put (some d) u) W θ where
 fm:=h.fm
 rel:=⟨h.rel.defers,by simp[Act.put,h.rel.size],λt w I=>by
  rw[Yef]
  rcases Xaf I with ⟨o,j⟩ | ⟨o,j⟩
  . subst o;subst j;rw[if_pos ⟨_root_.rfl,by rw[h.rel.size];exact hd⟩];exact Q
  . rw[if_neg (λe=>o e.1)];exact h.rel.has t w j⟩
 obs:=h.obs
 ids:=λt w i I O=>by
  rcases Xaf I with ⟨o,j⟩ | ⟨o,j⟩
  . subst j;exact hi i O
  . exact h.ids t w i j O
theorem Ob.R.lt{W:GW}{θ:Loc}{o b:Nat}{x:Ob}(h:x.R W θ o)(O:x.live=true)(hb:(θ o).1=some b): b<W.size:=by
 cases x with
 | var a=>obtain⟨I,cs,T,i,j,_⟩:=h;rw[hb] at i;injection i with i;subst i;exact Xax j
 | arr sz xs=>obtain⟨I,cs,T,i,j,_⟩:=h;rw[hb] at i;injection i with i;subst i;exact Xax j
 | tok n sz =>
  obtain⟨_,_,h | ⟨I,cs,T,i,j,_⟩⟩:=h
  . rw[hb] at h;cases h.1
  . rw[hb] at i;injection i with i;subst i;exact Xax j
 | dead=>cases O
section
variable{N:Nat->Prop}{W:GW}{θ:Loc}{g:Hp}
theorem Obs.lt(h:Obs W θ N g){o b:Nat}{x:Ob}(i:g o=some x)(j:x.live=true)(hb:(θ o).1=some b): b<W.w.heap.size:=(h.r o x i).lt j hb
theorem Xmr(W:GW)(o:Obj)(L:Nat->Prop): (W.push o L).w.heap.size=W.w.heap.size+1:=World.size_alloc ..
theorem Stp.push0(h:Obs W θ N g)(o:Obj)(L:Nat->Prop): Stp N W (W.push o L) θ θ g g where
 os:=_root_.rfl
 out:=_root_.rfl
 tape:=_root_.rfl
 size:=W2f (by show W.w.heap.size<(W.push o L).w.heap.size;rw[Xmr];omega)
 same:=λb hb _=>Xes _ _ _ hb
 A:=λb hb _ i=>⟨λh=>h.elim id λh=>absurd h.1 (Nat.ne_of_lt hb),.inl⟩
 le:=Xeo W o L
 th:=λ_ _ _=>_root_.rfl
 hi:=λ_ _=>_root_.rfl
 obs:={
  r:=λI x j=>(h.r I x j).keep (Xeo W o L) _root_.rfl (λ_ _=>_root_.rfl) λO b hb=>⟨Xes _ _ _ (h.lt j O hb),λi hi=>.inl hi⟩
  new:=h.new
  dis:=h.dis
  ids:=h.ids }
 dom:=λ_ y h=>⟨y,h⟩
theorem Stp.push(h:Obs W θ N g)(hN:∀b,W.size<=b->N b){d c:Nat}(hB:d<1000000)(hd:g d=none)(o:Obj)(L:Nat->Prop){x:Ob}(hx:x.R (W.push o L) (λi=>if i=d then (some W.size,c) else θ i) d)
 (hi:∀i,x.ids i->∃y,g i=some y):Stp N W (W.push o L) θ (λi=>if i=d then (some W.size,c) else θ i) g (upd g d x) where
 os:=_root_.rfl
 out:=_root_.rfl
 tape:=_root_.rfl
 size:=W2f (by show W.w.heap.size<(W.push o L).w.heap.size;rw[Xmr];omega)
 same:=λb hb _=>Xes _ _ _ hb
 A:=λb hb _ i=>⟨λh=>h.elim id λh=>absurd h.1 (Nat.ne_of_lt hb),.inl⟩
 le:=Xeo W o L
 th:=λi y O=>if_neg λe=>by rw[e,hd] at O;cases O
 hi:=λi h=>if_neg (by omega)
 obs:={
  r:=λV y O=>by
   rcases Xaf O with ⟨I,j⟩ | ⟨I,j⟩
   . subst I;subst j;exact hx
   . exact(h.r V y j).keep (Xeo W o L) (if_neg I) (λi hi=>if_neg λe=>by obtain⟨z,Z⟩:=h.ids V y i j hi;rw[e,hd] at Z;cases Z)
      λhl b hb=>⟨Xes _ _ _ (h.lt j hl hb),λi hi=>.inl hi⟩
  new:=λV y b O hl hb=>by
   rcases Xaf O with ⟨I,j⟩ | ⟨I,j⟩
   . subst I;rw[if_pos _root_.rfl] at hb;injection hb with hb;exact hN b (by rw[hb];exact W0a _)
   . rw[if_neg I] at hb;exact h.new V y b j hl hb
  dis:=λo1 o2 y1 y2 b h1 h2 l1 l2 Q T=>by
   rcases Xaf h1 with ⟨I,f1⟩ | ⟨I,f1⟩
   . rcases Xaf h2 with ⟨j,f2⟩ | ⟨j,f2⟩
     . exact I.trans j.symm
     . rw[if_pos I] at Q;rw[if_neg j] at T
       injection Q with Q
       exact absurd (h.lt f2 l2 T) (by rw[<-Q];exact W7k _)
   . rcases Xaf h2 with ⟨j,f2⟩ | ⟨j,f2⟩
     . rw[if_neg I] at Q;rw[if_pos j] at T
       injection T with T
       exact absurd (h.lt f1 l1 Q) (by rw[<-T];exact W7k _)
     . rw[if_neg I] at Q;rw[if_neg j] at T;exact h.dis o1 o2 y1 y2 b f1 f2 l1 l2 Q T
  ids:=λV y i O hyi=>by
   have:∃z,g i=some z:=by
    rcases Xaf O with ⟨I,j⟩ | ⟨I,j⟩
    . subst j;exact hi i hyi
    . exact h.ids V y i j hyi
   obtain⟨z,Z⟩:=this
   exact⟨z,by rw[Xak (λe=>by rw[e,hd] at Z;cases Z)];exact Z⟩ }
 dom:=λi y O=>⟨y,by rw[Xak (λe=>by rw[e,hd] at O;cases O)];exact O⟩
theorem Stp.put(h:Obs W θ N g){o t b:Nat}{y x:Ob}(ho:g o=some y)(hl:y.live=true)(hb:(θ o).1=some b){c c':List Value}{T:TypeId}{B:Nat->Prop}(hc:W.w.heap[b]?=some (.cells c.toArray T (0,0)))
 (hs:∀i v,¬W.A b i->c[i]?=some v->c'[i]?=some v) {θ':Loc} {g':Hp} (O:∀i z,g i=some z->θ' i=θ i) (hhi:∀i,1000000<=i->θ' i=θ i) (ht:(θ' t).1=some b)
 (hg:∀i z,g' i=some z->(i=t/\z=x)\/z=.dead\/(g i=some z/\i≠o)) (hdom:∀i z,g i=some z->∃z',g' i=some z')
 (hx:x.R (W.put b (.cells c'.toArray T (0,0)) B) θ' t) (hi:∀i,x.ids i->∃y,g i=some y):Stp N W (W.put b (.cells c'.toArray T (0,0)) B) θ θ' g g' where
 os:=_root_.rfl
 out:=_root_.rfl
 tape:=_root_.rfl
 size:=by show W.w.heap.size<=(Xgx W.w b _).heap.size;simp[Xgx]
 same:=λk _ Q=>Xlo _ _ _ _ λe=>Q (by rw[e];exact h.new o y b ho hl hb)
 A:=λk _ Q i=>⟨λh=>h.1,λh'=>⟨h',λe=>absurd (h.new o y b ho hl hb) (by rw[<-e];exact Q)⟩⟩
 le:=Xfc W b c c' T B hc hs
 th:=O
 hi:=hhi
 obs:={
  r:=λi z hz=>by
   rcases hg i z hz with ⟨I,V⟩ | e | ⟨I,V⟩
   . subst I;subst V;exact hx
   . subst e;trivial
   . refine(h.r i z I).keep (Xfc W b c c' T B hc hs) (O i z I) (λj hj=>let ⟨w,hw⟩:=h.ids i z j I hj;O j w hw) λZ k Q=>?_
     have hne:k≠b:=λe=>V (h.dis i o z y b I ho Z hl (by rw[<-e];exact Q) hb)
     exact⟨Xlo _ _ _ _ hne,λj hj=>⟨hj,λe=>absurd e hne⟩⟩
  new:=λi z k hz Z Q=>by
   rcases hg i z hz with ⟨I,V⟩ | e | ⟨I,V⟩
   . subst I;rw[ht] at Q;injection Q with Q;rw[<-Q];exact h.new o y b ho hl hb
   . subst e;cases Z
   . rw[O i z I] at Q;exact h.new i z k I Z Q
  dis:=λi j z w k hz hw lz lw bz bw=>by
   rcases hg i z hz with ⟨I,V⟩ | e | ⟨I,V⟩
   . rcases hg j w hw with ⟨f1,f2⟩ | f | ⟨f1,f2⟩
     . exact I.trans f1.symm
     . subst f;cases lw
     . subst I;rw[ht] at bz;injection bz with bz;subst bz
       rw[O j w f1] at bw
       exact absurd (h.dis j o w y b f1 ho lw hl bw hb) f2
   . subst e;cases lz
   . rcases hg j w hw with ⟨f1,f2⟩ | f | ⟨f1,f2⟩
     . subst f1;rw[ht] at bw;injection bw with bw;subst bw
       rw[O i z I] at bz
       exact absurd (h.dis i o z y b I ho lz hl bz hb) V
     . subst f;cases lw
     . rw[O i z I] at bz;rw[O j w f1] at bw
       exact h.dis i j z w k I f1 lz lw bz bw
  ids:=λi z k hz Q=>by
   have:∃w,g k=some w:=by
    rcases hg i z hz with ⟨I,V⟩ | e | ⟨I,V⟩
    . subst V;exact hi k Q
    . subst e;exact Q.elim
    . exact h.ids i z k I Q
   obtain⟨w,hw⟩:=this
   exact hdom k w hw }
 dom:=hdom
end
end
section
def Good(P:Program)(N:Nat->Prop)(W:GW)(θ:Loc)(g:Hp)(ρ:Operand->Value)(o:Oper)(v:AV)(g':Hp): Prop :=
 ∃W' h r,(execOp ρ o).run P W.w=.ok r W'.w/\Stp N W W' θ h g g'/\((r=.skip/\o.dst=none)\/∃u,r=.value u/\AV.V W' h v u)/\∀i,v.ids i->∃y,g' i=some y
def Xbl(W:GW)(θ:Loc)(g:Hp)(ρ:Operand->Value): List Operand->List AV->Prop
 | [],[]=>True
 | x::xs,a::asx=>(AV.V W θ a (ρ x)/\∀i,a.ids i->∃y,g i=some y)/\Xbl W θ g ρ xs asx
 | _,_=>False
section
variable{P:Program}{N:Nat->Prop}{W:GW}{θ:Loc}{g:Hp}{ρ:Operand->Value}
theorem Good.val{o:Oper}{v:AV}{u:Value}(h:Obs W θ N g)(hr:(execOp ρ o).run P W.w=.ok (.value u) W.w)(j:AV.V W θ v u)(hi:∀i,v.ids i->∃y,g i=some y): Good P N W θ g ρ o v g :=
 ⟨W,θ,_,hr,Stp.rfl h,.inr ⟨u,rfl,j⟩,hi⟩
theorem V_b{c:Bool}{v:Value}(h:AV.V W θ (.b c) v): v=.bool c:=by obtain⟨cs,j,i⟩:=h;rw[show cs=_ from j] at i;exact i
theorem V_q{p:Prop}{v:Value}(h:AV.V W θ (.q p) v): ∃c,v=.bool c/\(c=true↔p):=by obtain⟨cs,⟨c,j,o⟩,i⟩:=h;rw[j] at i;exact⟨c,i,o⟩
theorem Xcf{k:IntKind}{z:Int}{v:Value}(h:AV.V W θ (.d (.int k z)) v): v=.int k z/\inR k z:=by obtain⟨cs,⟨j,o⟩,i⟩:=h;rw[j] at i;exact⟨i,o⟩
theorem Xx0{s:List UInt8}{v:Value}(h:AV.V W θ (.d (.str s)) v): v=.string ⟨s.toArray⟩/\s.length<9223372036854775808:=by obtain⟨cs,⟨j,o⟩,i⟩:=h;rw[j] at i;exact⟨i,o⟩
theorem Xn6{s:List UInt8}(h:s.length<9223372036854775808): AV.V W θ (.d (.str s)) (.string ⟨s.toArray⟩):=⟨[.string ⟨s.toArray⟩],⟨rfl,h⟩,rfl⟩
theorem int_V{k:IntKind}{z:Int}(h:inR k z): AV.V W θ (.d (.int k z)) (.int k z):=⟨[.int k z],⟨rfl,h⟩,rfl⟩
theorem q_V{p:Prop}{c:Bool}(h:c=true↔p): AV.V W θ (.q p) (.bool c):=⟨[.bool c],⟨c,rfl,h⟩,rfl⟩
theorem Ykp{p:Prop}{c:Bool}(h:c=true↔p): AV.V W θ (.b (dc p)) (.bool c):=by
 have:c=dc p:=W4q.2 (h.trans Xaj.symm)
 subst this;exact⟨_,rfl,rfl⟩
theorem b_V(c:Bool): AV.V W θ (.b c) (.bool c):=⟨[.bool c],rfl,rfl⟩
theorem Yoq{p:Prop}(c:Bool)(h:c=true->p): AV.V W θ (.ub p) (.bool c):=⟨[.bool c],⟨c,rfl,h⟩,rfl⟩
theorem V_sl{sz:Nat}{xs:List D}{v:Value}(h:AV.V W θ (.d (.sl sz xs)) v): ∃p c,v=.slice p xs.length c/\xs.length<=c/\c<9223372036854775808/\(xs=[]\/∃b off,p=some ⟨b,off,none⟩/\D.Row W b sz off xs):=by
 obtain⟨cs,⟨p,c,j,o⟩,i⟩:=h;rw[j] at i;exact⟨p,c,i,o⟩
theorem Ymu{sz:Nat}{xs:List D}{p:Option Addr}{n c:Nat}(h:n=xs.length)(i:xs.length<=c)(j:c<9223372036854775808)(o:xs=[]\/∃b off,p=some ⟨b,off,none⟩/\D.Row W b sz off xs):
 AV.V W θ (.d (.sl sz xs)) (.slice p n c):=by subst h;exact⟨_,⟨p,c,rfl,i,j,o⟩,rfl⟩
theorem Yog{o sz:Nat}{xs:List D}{v:Value}(h:AV.V W θ (.gr o sz xs) v): ∃p,v=.slice p xs.length (θ o).2/\((θ o).2=0\/p=ad (θ o).1)/\xs.length<=(θ o).2/\(θ o).2<9223372036854775808/\(xs=[]\/∃b,(θ o).1=some b/\D.Row W b sz 0 xs):=by
 obtain⟨cs,⟨p,j,I⟩,i⟩:=h;rw[j] at i;exact⟨p,i,I⟩
theorem Xx1{o sz:Nat}{xs:List D}{v:Value}(h:AV.V W θ (.gr o sz xs) v): AV.V W θ (.d (.sl sz xs)) v:=by
 obtain⟨cs,i,e⟩:=h
 exact⟨cs,Xme (z:=.sl sz []) (a:=.gr o sz xs) rfl i,e⟩
theorem Xsy{sz:Nat}{xs:List D}{v:Value}(h:AV.V W θ (.lit sz xs) v): ∃p,v=.slice p xs.length xs.length/\xs.length<9223372036854775808/\(xs=[]\/∃b,p=some ⟨b,0,none⟩/\D.Row W b sz 0 xs):=by
 obtain⟨cs,⟨b,j,o⟩,i⟩:=h;rw[j] at i;exact⟨b,i,o⟩
theorem Xh2{sz:Nat}{xs:List D}{v:Value}(h:AV.V W θ (.lit sz xs) v): AV.V W θ (.d (.sl sz xs)) v:=by
 obtain⟨b,e,i,j⟩:=Xsy h
 rw[e];exact Ymu rfl (W0a _) i (j.imp_right λ⟨b,o,I⟩=>⟨b,0,o,I⟩)
theorem Xl4{v:Value}(h:AV.V W θ .nil v): ∃p,v=.slice p 0 0:=by obtain⟨cs,⟨p,j⟩,i⟩:=h;rw[j] at i;exact⟨p,i⟩
theorem Xea{o sz l n:Nat}{v:Value}(h:AV.V W θ (.own o sz l n) v): ∃b p,(θ o).1=some b/\l+n<=(θ o).2/\(θ o).2<9223372036854775808/\v=.slice p n ((θ o).2-l)/\(l=0\/l<(θ o).2->p=some ⟨b,l*sz,none⟩):=by
 obtain⟨cs,⟨b,p,j,I,O,Q,T⟩,i⟩:=h;rw[Q] at i;exact⟨b,p,j,I,O,i,T⟩
theorem Xpi{o sz l n:Nat}{v:Value}(h:AV.V W θ (.ow3 o sz l n) v): ∃b p,(θ o).1=some b/\l+n<=(θ o).2/\(θ o).2<9223372036854775808/\v=.slice p n n/\(l=0\/0<n->p=some ⟨b,l*sz,none⟩):=by
 obtain⟨cs,⟨b,p,j,I,O,Q,T⟩,i⟩:=h;rw[Q] at i;exact⟨b,p,j,I,O,i,T⟩
theorem Xjn{o off:Nat}{v:Value}(h:AV.V W θ (.ptr o off) v): ∃b,(θ o).1=some b/\v=.pointer (some ⟨b,off,none⟩):=by obtain⟨cs,⟨b,j,I⟩,i⟩:=h;rw[I] at i;exact⟨b,j,i⟩
theorem Xsd{o off b:Nat}(h:(θ o).1=some b): AV.V W θ (.ptr o off) (.pointer (some ⟨b,off,none⟩)):=⟨_,⟨b,h,rfl⟩,rfl⟩
theorem Yl9{o sz j off:Nat}{v:Value}(h:AV.V W θ (.el o sz j off) v): ∃b,(θ o).1=some b/\v=.pointer (some ⟨b,j*sz+off,none⟩):=by obtain⟨cs,⟨b,I,O⟩,i⟩:=h;rw[O] at i;exact⟨b,I,i⟩
theorem Ynx{o sz j off b:Nat}(h:(θ o).1=some b): AV.V W θ (.el o sz j off) (.pointer (some ⟨b,j*sz+off,none⟩)):=⟨_,⟨b,h,rfl⟩,rfl⟩
theorem Ypv{x:D}{v:Value}(h:AV.V W θ (.at x) v): ∃b off e,v=.pointer (some ⟨b,off,none⟩)/\D.At W x e/\∀j v,e[j]?=some v->Fr W b (off+j) v:=by
 obtain⟨cs,⟨b,off,e,o,I,O⟩,i⟩:=h;rw[o] at i;exact⟨b,off,e,i,I,O⟩
theorem Yoa{x:D}{b off:Nat}{e:List Value}(h:D.At W x e)(i:∀j v,e[j]?=some v->Fr W b (off+j) v): AV.V W θ (.at x) (.pointer (some ⟨b,off,none⟩)):=⟨_,⟨b,off,e,rfl,h,i⟩,rfl⟩
theorem V1.V{a:AV}{v:Value}(h:AV.V1 W θ a v): AV.V W θ a v:=by
 cases a with
 | tup a=>obtain⟨cs,i,_⟩:=h;exact i.elim
 | un=>obtain⟨cs,i,_⟩:=h;exact i.elim
 | _=>exact h
theorem Ygd{a:AV}{p:Prop}{v:Value}(ha:asP a=some p)(h:AV.V W θ a v): ∃c,v=.bool c/\(c=true↔p):=by
 unfold asP at ha
 split at ha<;>try cases ha
 . exact V_q h
 . exact⟨_,V_b h,W4d⟩
 . obtain⟨cs,j,i⟩:=h;rw[show cs=_ from j] at i;exact⟨_,i,W4d⟩
theorem Yiw: ∀ {a:AV} {i:Nat} {b:AV} {vs:List Value},Yep a i=some b->AV.T W θ a vs->∃w,vs[i]?=some w/\AV.V W θ b w/\∀j,b.ids j->a.ids j:=by
 intro a
 induction a with
 | pr a c _ O =>
  intro i b vs h o
  match vs,o with
  | v::vs,o =>
   cases i with
   | zero=>simp only[Yep] at h;injection h with h;subst h;exact⟨v,rfl,V1.V o.1,λj I=>.inl I⟩
   | succ i =>
    simp only[Yep] at h
    obtain⟨w,Q,Z,h3⟩:=O h o.2
    exact⟨w,Q,Z,λj I=>.inr (h3 j I)⟩
 | un=>intro i b vs h;cases i<;>cases h
 | _ =>
  intro i b vs h o
  cases i with
  | zero =>
   simp only[Yep] at h;injection h with h;subst h
   match vs,o with
   | [v],o=>exact⟨v,rfl,V1.V o,λj I=>I⟩
  | succ i=>simp[Yep] at h
theorem Xk6{T:TypeId}{t:TypeDesc}{w:World}(h:P.underlying T=some t): (underlying T).run P w=.ok t w:=by
 simp[underlying,program,bind,Sem.bind,Sem.run,pure,h]
theorem Xy3{T:TypeId}(h:P.underlying T=some .bool)(a b:Bool)(w:World)(m:Nat): (Op.equalIn (m+1) T (.bool a) (.bool b)).run P w=.ok (a==b) w:=by
 simp[Op.equalIn,underlying,program,bind,Sem.bind,Sem.run,pure,h]
theorem Xs6(k:IntKind)(z:Int): k.wrap (k.wrap z)=k.wrap z:=by
 have h:∀m:Int,0<=m->m<2^k.bits->k.wrap m=if k.signed&&m>=(2^(k.bits-1):Int) then m-(2^k.bits:Int) else m:=by
  intro m i j
  simp only[IntKind.wrap,Int.emod_eq_of_lt i j]
 have hp:(0:Int)<2^k.bits:=by cases k<;>decide
 have i:=Int.emod_nonneg z (Int.ne_of_gt hp)
 have j:=Int.emod_lt_of_pos z hp
 have e:k.wrap z=k.wrap (z%2^k.bits):=by simp only[IntKind.wrap,Int.emod_emod]
 rw[e,h _ i j]
 generalize z%2^k.bits=m at *
 split
 . rename_i o
   show k.wrap (m-2^k.bits)=_
   have:(m-2^k.bits)%2^k.bits=m:=by rw[Int.sub_emod_right,Int.emod_eq_of_lt i j]
   simp only[IntKind.wrap,this,o,if_true]
 . rename_i o
   rw[h m i j,if_neg o]
theorem Xgd(k:IntKind)(z:Int): inR k (k.wrap z):=Xs6 k z
theorem Xo0{k:IntKind}{z:Int}: inR k z↔k.min<=z/\z<=k.max:=by
 unfold inR IntKind.wrap
 cases k<;>simp[IntKind.min,IntKind.max,IntKind.signed,IntKind.bits]<;>(try split)<;>omega
theorem Xzs{k:IntKind}{a b:Int}(ha:inR k a): inR k (a.tmod b):=by
 rw[Xo0] at *
 have o:(a.tmod b).natAbs<=a.natAbs:=by rw[Int.natAbs_tmod];exact Nat.mod_le _ _
 have i:0<=a->0<=a.tmod b:=λh=>Int.tmod_nonneg b h
 have j:a<=0->a.tmod b<=0:=λh=>by
  have:=Int.tmod_nonneg b (a:=-a) (by omega)
  rw[Int.neg_tmod] at this;omega
 have I:k.min<=0/\0<=k.max:=by cases k<;>decide
 rcases Int.le_total 0 a with h | h
 . have:=i h;omega
 . have:=j h;omega
theorem Xzt{k:IntKind}{a:Int}(ha:inR k a)(n:Nat): inR k (a.fdiv (2^n)):=by
 rw[Xo0] at *
 have hp:(0:Int)<2^n:=Int.pow_pos (by decide)
 have i:(1:Int)<=2^n:=hp
 have I:k.min<=0/\0<=k.max:=by cases k<;>decide
 rw[W1t _ (Int.le_of_lt hp)]
 rcases Int.le_total 0 a with h | h
 . have j:=Int.ediv_nonneg h (Int.le_of_lt hp)
   have o:a/2^n<=a:=Int.ediv_le_self _ h
   omega
 . have j:a/2^n<=0:=Int.ediv_nonpos_of_nonpos_of_neg h (by omega)
   have o:a<=a/2^n:=by
    rw[Int.le_ediv_iff_mul_le hp]
    have:=Int.mul_le_mul_of_nonneg_left i (show 0<=-a by omega)
    simp only[Int.neg_mul,W5p] at this
    omega
   omega
end
end
section
section
variable{P:Program}{N:Nat->Prop}{W:GW}{θ:Loc}{g:Hp}{ρ:Operand->Value}
variable{tb:Nat->Option TI}{d:Option Nat}{ty:TypeId}{pos:String}{aft:Array Edge}{gd:Option (Nat×Bool)}{args:List AV}{v:AV}
theorem Ynb{x:Operand}(i:Obs W θ N g)(h:Fp tb (.move x) args=some v)(ha:Xbl W θ g ρ [x] args): Good P N W θ g ρ ⟨d,.move x,ty,pos,aft,gd⟩ v g:=by
 simp only[Fp] at h
 split at h<;>try cases h
 exact .val i rfl ha.1.1 ha.1.2
theorem Yob{x:Operand}(i:Obs W θ N g)(h:Fp tb (.assign x) args=some v)(ha:Xbl W θ g ρ [x] args): Good P N W θ g ρ ⟨d,.assign x,ty,pos,aft,gd⟩ v g:=by
 simp only[Fp] at h
 split at h<;>try cases h
 exact .val i rfl ha.1.1 ha.1.2
theorem Yej{c x y:Operand}(i:Obs W θ N g)(h:Fp tb (.pick c x y) args=some v)(ha:Xbl W θ g ρ [c,x,y] args): Good P N W θ g ρ ⟨d,.pick c x y,ty,pos,aft,gd⟩ v g:=by
 simp only[Fp] at h
 split at h<;>try cases h
 . exact .val i (by simp only[execOp,V_b ha.1.1];rfl) ha.2.1.1 ha.2.1.2
 . exact .val i (by simp only[execOp,V_b ha.1.1];rfl) ha.2.2.1.1 ha.2.2.1.2
theorem Yj8{x:Operand}{i:Nat}(o:Obs W θ N g)(h:Fp tb (.extract x i) args=some v)(ha:Xbl W θ g ρ [x] args): Good P N W θ g ρ ⟨d,.extract x i,ty,pos,aft,gd⟩ v g:=by
 simp only[Fp] at h
 split at h<;>try cases h
 obtain⟨vs,I,O⟩:=ha.1.1
 obtain⟨w,Q,T,V⟩:=Yiw h O
 exact .val o (by simp only[execOp,I,Instr.extract,List.getElem?_toArray,Q];rfl) T λj Z=>ha.1.2 j (V j Z)
theorem Ymj{u:UnOp}{x:Operand}{T:TypeId}(j:Obs W θ N g)(i:Fp tb (.unOp u T x) args=some v)(ha:Xbl W θ g ρ [x] args): Good P N W θ g ρ ⟨d,.unOp u T x,ty,pos,aft,gd⟩ v g:=by
 cases u<;>simp only[Fp] at i<;>try cases i
 all_goals (split at i<;>try cases i)
 all_goals first
  | exact .val j (by simp only[execOp,V_b ha.1.1,Op.unary];rfl) (b_V _) (λ_ h=>h.elim)
  | exact .val j (by simp only[execOp,(Xcf ha.1.1).1,Op.unary,Op.intArith];rfl) (int_V (Xgd _ _)) (λ_ h=>h.elim)
  | (obtain⟨c, o, I⟩ := V_q ha.1.1
     exact .val j (by simp only[execOp,o,Op.unary];rfl) (q_V (by cases c<;>simp_all)) (λ_ h=>h.elim))
theorem Yk6{op:BinOp}{k:IntKind}{a b:Int}{T:TypeId}(h:op≠.shl)(i:op≠.shr): binOp op T (.int k a) (.int k b)=(match op with
 | .add | .sub | .mul=>Op.intArith op k a b
 | .quo | .rem=>Op.intDiv op k a b
 | .and | .or | .xor | .andNot=>Op.intBits op k a b
 | _=>Op.intCmp op a b):=by
 cases op<;>first
  | exact absurd rfl h
  | exact absurd rfl i
  | (simp only[binOp,if_neg (λe:¬(k=k)=>e rfl)])
theorem Ye9{op:BinOp}{k:IntKind}{a b:Int}(ha:inR k a)(hb:inR k b)(o:op≠.shl)(I:op≠.shr)(j:Yl0 op k a b=some v)(T:TypeId):
 ∃u,(binOp op T (.int k a) (.int k b)).run P W.w=.ok u W.w/\AV.V W θ v u/\∀i,¬v.ids i:=by
 rw[Yk6 o I]
 cases op<;>simp only[Yl0] at j<;>try cases j
 case add | sub | mul | and | or | xor | andNot=>exact⟨_,rfl,int_V (Xgd _ _),λ_ h=>h⟩
 case eql | neq | lss | leq | gtr | geq=>exact⟨_,rfl,Ykp (by simp),λ_ h=>h⟩
 case quo =>
  split at j<;>try cases j
  rename_i h0
  exact⟨_,by simp only[Op.intDiv,if_neg h0];rfl,int_V (Xgd _ _),λ_ h=>h⟩
 case rem =>
  split at j<;>try cases j
  rename_i h0
  exact⟨_,by simp only[Op.intDiv,if_neg h0];rfl,int_V (Xzs ha),λ_ h=>h⟩
theorem Xwx{op:BinOp}{T:TypeId}{x y:Operand}{a b:Value}(h:∀c,a≠.agg c)(i:a≠.nilIface): (eqGuard op T x y a b).run P W.w=.ok () W.w:=by
 unfold eqGuard
 cases op<;>first
  | rfl
  | (cases a<;>first
   | rfl
   | exact absurd rfl (h _)
   | exact absurd rfl i)
theorem Xg8{op:BinOp}{T T':TypeId}{x y:Operand}{u:Value}(h:∀c,ρ x≠.agg c)(i:ρ x≠.nilIface)(hr:(binOp op T (ρ x) (ρ y)).run P W.w=.ok u W.w):
 (execOp ρ ⟨d,.binOp op T x y T',ty,pos,aft,gd⟩).run P W.w=.ok (.value u) W.w:=by
 show (((eqGuard op T x y (ρ x) (ρ y)).bind λ_=>binOp op T (ρ x) (ρ y)).bind _).run P W.w=_
 rw[Xub _ _ W.w W.w u (by rw[Xub _ _ _ _ _ (Xwx h i)];exact hr)]
 rfl
theorem Xkk{op:BinOp}{T T':TypeId}{x y:Operand}{a c:AV}{tz:Option TI}(j:Ya4 tz op y a c=some v)(ha:AV.V W θ a (ρ x))(Q:AV.V W θ c (ρ y)){k Z:IntKind}{z o:Int}(e1:a=.d (.int k z))(e2:c=.d (.int Z o)):
 ∃u,(execOp ρ ⟨d,.binOp op T x y T',ty,pos,aft,gd⟩).run P W.w=.ok (.value u) W.w/\AV.V W θ v u/\∀i,¬v.ids i:=by
 subst e1;subst e2
 obtain⟨I,r1⟩:=Xcf ha
 obtain⟨h2,r2⟩:=Xcf Q
 have O:∃u,(binOp op T (ρ x) (ρ y)).run P W.w=.ok u W.w/\AV.V W θ v u/\∀i,¬v.ids i:=by
  rw[I,h2]
  simp only[Ya4] at j
  split at j
  . split at j<;>try cases j
    rename_i h0
    exact⟨.int k (k.wrap (z*2^(min o.toNat k.bits))),by simp[binOp,Op.shift,h0],int_V (Xgd _ _),λ_ h=>h⟩
  . split at j<;>try cases j
    rename_i h0
    exact⟨.int k (z.fdiv (2^(min o.toNat k.bits))),by simp[binOp,Op.shift,h0],int_V (Xzt r1 _),λ_ h=>h⟩
  . rename_i n1 n2
    split at j<;>try cases j
    rename_i hk
    subst hk
    exact Ye9 r1 r2 n1 n2 j T
 obtain⟨u,hu,hv,hi⟩:=O
 exact⟨u,Xg8 (by rw[I];exact λ_=>nofun) (by rw[I];nofun) hu,hv,hi⟩
theorem Xna{T:TypeId}{a b:Value}{c:Bool}(h:∀m,(Op.equalIn (m+1) T a b).run P W.w=.ok c W.w): (Op.equal T a b).run P W.w=.ok c W.w:=h 9999
theorem Xls{op:BinOp}{T:TypeId}{a b:Value}{c:Bool}(h:(Op.equal T a b).run P W.w=.ok c W.w)(i:op=.eql\/op=.neq)
 (hb:binOp .eql T a b=(Op.equal T a b >>= λr=>pure (.bool r))/\binOp .neq T a b=(Op.equal T a b >>= λr=>pure (.bool (!r)))) :
 (binOp op T a b).run P W.w=.ok (.bool (match op with | .eql=>c | _=>!c)) W.w:=by
 rcases i with rfl | rfl
 . rw[hb.1,Sem.run_bind,h];rfl
 . rw[hb.2,Sem.run_bind,h];rfl
theorem Ycr{a:AV}{v:Value}(hs:Ye7 a=true)(this:AV.V W θ a v): ∃p n k,v=.slice p n k/\(p.isNone=true->Ynw a):=by
 unfold Ye7 at hs
 split at hs
 . obtain⟨p,k,e,_,_,h⟩:=V_sl this;exact⟨_,_,_,e,λhp=>h.elim id λ⟨b,off,i,_⟩=>by rw[i] at hp;cases hp⟩
 . obtain⟨p,e⟩:=Xl4 this;exact⟨_,_,_,e,λ_=>trivial⟩
 . obtain⟨p,e,_,h⟩:=Xsy this;exact⟨_,_,_,e,λhp=>h.elim id λ⟨b,i,_⟩=>by rw[i] at hp;cases hp⟩
 . obtain⟨b,p,_,_,_,e,_⟩:=Xea this;exact⟨_,_,_,e,λ_=>trivial⟩
 . obtain⟨b,p,_,_,_,e,_⟩:=Xpi this;exact⟨_,_,_,e,λ_=>trivial⟩
 . rename_i xs
   obtain⟨p,e,h0,i,_,h⟩:=Yog this
   refine⟨_,_,_,e,λhp=>h.elim id λ⟨b,hb,_⟩=>?_⟩
   rcases h0 with h0 | h0
   . exact W0q (by omega)
   . rw[h0,hb] at hp;cases hp
 . cases hs
theorem Xsr{op:BinOp}{T T':TypeId}{x y:Operand}{s t:List UInt8}{tz:Option TI}(j:Ya4 tz op y (.d (.str s)) (.d (.str t))=some v)(ha:AV.V W θ (.d (.str s)) (ρ x))(O:AV.V W θ (.d (.str t)) (ρ y)):
 ∃u,(execOp ρ ⟨d,.binOp op T x y T',ty,pos,aft,gd⟩).run P W.w=.ok (.value u) W.w/\AV.V W θ v u/\∀i,¬v.ids i:=by
 obtain⟨o,r1⟩:=Xx0 ha
 obtain⟨Q,r2⟩:=Xx0 O
 have el:∀l:List UInt8,(ByteArray.mk l.toArray).toList=l:=λl=>by rw[ByteArray.toList_eq]
 have I:∃u,(binOp op T (ρ x) (ρ y)).run P W.w=.ok u W.w/\AV.V W θ v u/\∀i,¬v.ids i:=by
  rw[o,Q]
  simp only[Ya4] at j
  split at j<;>try cases j
  . split at j<;>cases j
    rename_i Z
    refine⟨.string ⟨(s++t).toArray⟩,?_,Xn6 (by simpa using Z),λ_ h=>h⟩
    rw[binOp_string_add,run_string_add_sum _ _ _ (by show s.length+t.length<=_;omega),ByteArray.mk_append_mk]
  . refine⟨.bool (s==t),?_,Ykp (by simp),λ_ h=>h⟩
    rw[binOp_string_eql,el,el];rfl
  . refine⟨.bool (!(s==t)),?_,Ykp (by simp),λ_ h=>h⟩
    rw[binOp_string_neq,el,el];rfl
 obtain⟨u,hu,hv,hi⟩:=I
 exact⟨u,Xg8 (by rw[o];exact λ_=>nofun) (by rw[o];nofun) hu,hv,hi⟩
theorem Yk5{op:BinOp}{T T':TypeId}{x y:Operand}(hT:∀T ti,tb T=some ti->TyOk P T ti)(hO:Obs W θ N g)(j:Fp tb (.binOp op T x y T') args=some v)(ha:Xbl W θ g ρ [x,y] args)(hy:∀u,y=.const u->ρ y=u):
 Good P N W θ g ρ ⟨d,.binOp op T x y T',ty,pos,aft,gd⟩ v g:=by
 simp only[Fp] at j
 split at j<;>try cases j
 rename_i a c
 have hfin:(∃u,(execOp ρ ⟨d,.binOp op T x y T',ty,pos,aft,gd⟩).run P W.w=.ok (.value u) W.w/\AV.V W θ v u/\∀i,¬v.ids i)->Good P N W θ g ρ ⟨d,.binOp op T x y T',ty,pos,aft,gd⟩ v g :=
  λ⟨u,o,h2,h3⟩=>.val hO o h2 λi hi=>absurd hi (h3 i)
 refine hfin ?_
 have I:=j
 unfold Ya4 at j
 split at j
 . exact Xkk I ha.1.1 ha.2.1.1 rfl rfl
 . exact Xsr I ha.1.1 ha.2.1.1
 . clear I
   split at j
   . rename_i ti _ _ _ O
     obtain⟨t,u1,u2,u3⟩:=(hT _ _ O).u
     have u3:t=.bool:=u3
     subst u3
     split at j<;>try cases j
     rename_i p q hp hq
     obtain⟨b1,Z,i1⟩:=Ygd hp ha.1.1
     obtain⟨b2,e2,i2⟩:=Ygd hq ha.2.1.1
     have o:=Xna (P:=P) (W:=W) (λm=>Xy3 (P:=P) u1 b1 b2 W.w m)
     split at j<;>try cases j
     . refine⟨_,Xg8 (by rw[Z];exact λ_=>nofun) (by rw[Z];nofun) (by rw[Z,e2];exact Xls o (.inl rfl) ⟨rfl,rfl⟩),Ykp ?_,λ_ h=>h⟩
       rw[<-i1,<-i2];cases b1<;>cases b2<;>simp
     . refine⟨_,Xg8 (by rw[Z];exact λ_=>nofun) (by rw[Z];nofun) (by rw[Z,e2];exact Xls o (.inr rfl) ⟨rfl,rfl⟩),Ykp ?_,λ_ h=>h⟩
       rw[<-i1,<-i2];cases b1<;>cases b2<;>simp
   . rename_i sz xs _ _ _ O
     obtain⟨t,u1,u2,E,u3,_⟩:=(hT _ _ O).u
     subst u3
     have hs:Ye7 a=true->∃p n k,ρ x=.slice p n k/\(p.isNone=true->Ynw a):=λhs=>Ycr hs ha.1.1
     have o:∀p n k,(Op.equal T (.slice p n k) (.slice none 0 0)).run P W.w=.ok p.isNone W.w:=λp n k=>Xna λm=>by
      cases p<;>simp[Op.equalIn,run_underlying u1]
     split at j<;>try cases j
     . rename_i Q
       obtain⟨p,n,k,e,he⟩:=hs Q
       have e2:=hy _ rfl
       exact⟨_,Xg8 (by rw[e];exact λ_=>nofun) (by rw[e];nofun) (by rw[e,e2];exact Xls (o p n k) (.inl rfl) ⟨rfl,rfl⟩),Yoq _ he,λ_ h=>h⟩
     . rename_i Q
       obtain⟨p,n,k,e,he⟩:=hs Q
       have e2:=hy _ rfl
       exact⟨_,Xg8 (by rw[e];exact λ_=>nofun) (by rw[e];nofun) (by rw[e,e2];exact Xls (o p n k) (.inr rfl) ⟨rfl,rfl⟩),Yoq _ (λ_=>trivial),λ_ h=>h⟩
   . cases j
theorem Xl1: ∀ {xs:List D} {s:List UInt8},Yan xs=some s->∃zs:List Int,xs=zs.map (λz=>D.int .u8 z)/\s=zs.map λz=>UInt8.ofNat z.toNat
 | [],s,h=>by simp only[Yan,Option.some.injEq] at h;subst h;exact⟨[],rfl,rfl⟩
 | x::xs,s,h=>by
  unfold Yan at h
  split at h
  . rename_i e;cases e
  . rename_i z l e
    injection e with i j;subst i;subst j
    split at h<;>cases h
    rename_i s' hs
    obtain⟨zs,a,b⟩:=Xl1 hs
    exact⟨z::zs,by rw[a];rfl,by rw[b];rfl⟩
  . cases h
theorem Xfn: ∀(zs:List Int) (acc:List UInt8),zs.foldl (λ(r:ByteArray) n=>r.push (UInt8.ofNat n.toNat)) ⟨acc.toArray⟩=⟨(acc++zs.map λz=>UInt8.ofNat z.toNat).toArray⟩
 | [],acc=>by simp
 | z::zs,acc=>by
  rw[List.foldl_cons,show (ByteArray.mk acc.toArray).push (UInt8.ofNat z.toNat)=⟨(acc++[UInt8.ofNat z.toNat]).toArray⟩ by simp[ByteArray.push],Xfn zs]
  simp
theorem Xxp{b off n c:Nat}{zs:List Int}(hr:D.Row W b 1 off (zs.map λz=>D.int .u8 z))(Q:n=zs.length): (Conv.bytesToString (.slice (some ⟨b,off,none⟩) n c)).run P W.w=.ok (.string ⟨(zs.map λz=>UInt8.ofNat z.toNat).toArray⟩) W.w:=by
 rw[run_bytesToString W.w _ _ _ zs (by
  have h:=run_loadCells (P:=P) (b:=b) (off:=off) (w:=W.w) (zs.map (Value.int .u8)) 0 #[] (λj v o=>by
   rw[W1q] at o
   cases I:zs[j]? with
   | none=>rw[I] at o;cases o
   | some z =>
    rw[I] at o;injection o with o;subst o
    obtain⟨e,O,_,T⟩:=D.row_get hr (i:=j) (x:=.int .u8 z) (by rw[W1q,I];rfl)
    have O:=O.1
    subst O
    have:=(T 0 _ rfl).1
    simpa using this)
  simp only[W0i] at h
  rw[Q]
  simpa [loadCells] using h)]
 have:=Xfn zs []
 rw[show (ByteArray.empty:ByteArray)=⟨([]:List UInt8).toArray⟩ from rfl,this]
 simp
theorem Xxo{a:AV}{s:List UInt8}{u:Value}(hs:Ylq a=some s)(ha:AV.V W θ a u): ∃r p n c,u=.slice p n c/\(Conv.bytesToString (.slice p n c)).run P W.w=.ok r W.w/\AV.V W θ (.d (.str s)) r:=by
 have h:∀ {xs:List D},Yan xs=some s->AV.V W θ (.d (.sl 1 xs)) u->∃r p n c,u=.slice p n c/\(Conv.bytesToString (.slice p n c)).run P W.w=.ok r W.w/\AV.V W θ (.d (.str s)) r:=by
  intro xs o I
  obtain⟨p,c,e,O,T,i⟩:=V_sl I
  obtain⟨j,rfl,rfl⟩:=Xl1 o
  simp only[W0i] at O
  refine⟨.string ⟨(j.map λz=>UInt8.ofNat z.toNat).toArray⟩,p,_,c,e,?_,Xn6 (by simp;omega)⟩
  rcases i with i | ⟨b,off,hp,Q⟩
  . have:j=[]:=by simpa using i
    subst this
    cases p with
    | none=>rfl
    | some a=>exact run_bytesToString W.w a _ _ [] rfl
  . subst hp
    exact Xxp Q (by simp)
 unfold Ylq at hs
 split at hs
 . exact h hs ha
 . exact h hs (Xh2 ha)
 . cases hs
theorem Yfz{S T:TypeId}{x:Operand}(I:∀T ti,tb T=some ti->TyOk P T ti)(hO:Obs W θ N g)(i:Fp tb (.convert S T x) args=some v)(ha:Xbl W θ g ρ [x] args): Good P N W θ g ρ ⟨d,.convert S T x,ty,pos,aft,gd⟩ v g:=by
 simp only[Fp] at i
 split at i<;>try cases i
 . split at i<;>try cases i
   rename_i O V
   obtain⟨t,Q,_⟩:=(I _ _ O).u
   obtain⟨Z,o,_,j⟩:=(I _ _ V).u
   have j:Z=.int _:=j
   subst j
   exact .val hO (by
    simp only[execOp,(Xcf ha.1.1).1,convert,Conv.intToInt,underlying,program,bind,Sem.bind,Sem.run,pure,Q,o]) (int_V (Xgd _ _)) (λ_ h=>h.elim)
 . split at i<;>try cases i
   rename_i O V
   split at i<;>cases i
   rename_i s hs
   obtain⟨t,Q,_,E,j,_⟩:=(I _ _ O).u
   subst j
   obtain⟨Z,o,_,j⟩:=(I _ _ V).u
   have j:Z=.string:=j
   subst j
   have ue:=(I _ _ O).k E _ _ Q rfl
   obtain⟨u,p,n,c,e,hu,hv⟩:=Xxo (P:=P) (W:=W) (θ:=θ) hs ha.1.1
   refine .val hO ?_ hv (λ_ h=>h.elim)
   simp only[execOp,e]
   rw[Sem.run_bind,run_convert_bytes_string W.w S T E p n c Q ue o,hu]
   rfl
theorem Xoz{n:Nat}(h:n<9223372036854775808): inR .i64 (n:Int):=by
 rw[Xo0];show (-9223372036854775808:Int)<=n/\(n:Int)<=9223372036854775807;omega
theorem Yjf{o:Array TypeId}{x:Operand}(hT:∀T ti,tb T=some ti->TyOk P T ti)(hO:Obs W θ N g)(i:Fp tb (.call ⟨.builtin .len,#[x],o⟩) args=some v)(ha:Xbl W θ g ρ [x] args):
 Good P N W θ g ρ ⟨d,.call ⟨.builtin .len,#[x],o⟩,ty,pos,aft,gd⟩ v g:=by
 simp only[Fp] at i
 split at i<;>try cases i
 rename_i a T ht
 split at i<;>try cases i
 case h_2 =>
  rename_i j
  obtain⟨t,O,_,I⟩:=(hT _ _ j).u
  have I:t=.string:=I
  subst I
  split at i<;>cases i
  rename_i s
  obtain⟨e,hl⟩:=Xx0 ha.1.1
  have e2:(ByteArray.mk s.toArray).size=s.length:=by show s.toArray.size=_;simp
  exact .val hO (by simp[execOp,resolve,invoke,builtin,Builtin.len_,e,underlying,program,bind,Sem.bind,Sem.run,pure,O,goInt,ht,e2]) (int_V (Xoz hl)) (λ_ h=>h.elim)
 rename_i j
 obtain⟨t,O,_,E,I,_⟩:=(hT _ _ j).u
 subst I
 split at i<;>try cases i
 rename_i n Q
 have V:∃p c,ρ x=.slice p n c/\n<9223372036854775808:=by
  have:=ha.1.1
  unfold Ypm at Q
  split at Q<;>try cases Q
  . obtain⟨p,c,e,j,Z,_⟩:=V_sl this;exact⟨_,_,e,by omega⟩
  . obtain⟨p,e,_,j,Z,_⟩:=Yog this;exact⟨_,_,e,by omega⟩
  . obtain⟨b,e,j,_⟩:=Xsy this;exact⟨_,_,e,j⟩
  . obtain⟨p,e⟩:=Xl4 this;exact⟨_,_,e,by decide⟩
  . obtain⟨b,p,_,j,Z,e,_⟩:=Xea this;exact⟨_,_,e,by omega⟩
  . obtain⟨b,p,_,j,Z,e,_⟩:=Xpi this;exact⟨_,_,e,by omega⟩
 obtain⟨p,c,e,hlt⟩:=V
 exact .val hO (by simp[execOp,resolve,invoke,builtin,Builtin.len_,e,underlying,program,bind,Sem.bind,Sem.run,pure,O,goInt,ht]) (int_V (Xoz hlt)) (λ_ h=>h.elim)
theorem Yky{i:Array TypeId}{x:Operand}(o:∀T ti,tb T=some ti->TyOk P T ti)(I:Obs W θ N g)(j:Fp tb (.call ⟨.builtin .cap,#[x],i⟩) args=some v)(ha:Xbl W θ g ρ [x] args):
 Good P N W θ g ρ ⟨d,.call ⟨.builtin .cap,#[x],i⟩,ty,pos,aft,gd⟩ v g:=by
 simp only[Fp] at j
 split at j<;>try cases j
 rename_i T O
 split at j<;>try cases j
 rename_i Q
 obtain⟨t,V,_,E,Z,_⟩:=(o _ _ Q).u
 subst Z
 obtain⟨p,e⟩:=Xl4 ha.1.1
 exact .val I (by simp[execOp,resolve,invoke,builtin,Builtin.cap_,e,underlying,program,bind,Sem.bind,Sem.run,pure,V,goInt,O]) (int_V (Xoz (n:=0) (by decide))) (λ_ h=>h.elim)
theorem Yi6{i:Array TypeId}{x y:Operand}(o:Obs W θ N g)(j:Fp tb (.call ⟨.builtin .min,#[x,y],i⟩) args=some v)(ha:Xbl W θ g ρ [x,y] args):
 Good P N W θ g ρ ⟨d,.call ⟨.builtin .min,#[x,y],i⟩,ty,pos,aft,gd⟩ v g:=by
 simp only[Fp] at j
 split at j<;>try cases j
 split at j<;>try cases j
 rename_i I;subst I
 obtain⟨O,r1⟩:=Xcf ha.1.1
 obtain⟨Q,T⟩:=Xcf ha.2.1.1
 exact .val o (by simp[execOp,resolve,invoke,builtin,Builtin.min_,Builtin.min2,O,Q,bind,Sem.bind,Sem.run,pure]) (int_V (by split<;>assumption)) (λ_ h=>h.elim)
theorem Yi8{i:Array TypeId}{x y:Operand}(o:Obs W θ N g)(j:Fp tb (.call ⟨.builtin .max,#[x,y],i⟩) args=some v)(ha:Xbl W θ g ρ [x,y] args):
 Good P N W θ g ρ ⟨d,.call ⟨.builtin .max,#[x,y],i⟩,ty,pos,aft,gd⟩ v g:=by
 simp only[Fp] at j
 split at j<;>try cases j
 split at j<;>try cases j
 rename_i I;subst I
 obtain⟨O,r1⟩:=Xcf ha.1.1
 obtain⟨Q,T⟩:=Xcf ha.2.1.1
 exact .val o (by simp[execOp,resolve,invoke,builtin,Builtin.max_,Builtin.max2,O,Q,bind,Sem.bind,Sem.run,pure]) (int_V (by split<;>assumption)) (λ_ h=>h.elim)
theorem Yeq{x:Operand}(i:Obs W θ N g)(h:Fp tb (.nilCheck x) args=some v)(ha:Xbl W θ g ρ [x] args): Good P N W θ g ρ ⟨d,.nilCheck x,ty,pos,aft,gd⟩ v g:=by
 simp only[Fp] at h
 split at h<;>try cases h
 obtain⟨b,j,e⟩:=Xjn ha.1.1
 exact .val i (by simp only[execOp,e];rfl) (Xsd j) ha.1.2
theorem Xxf: ∀(x:D),∀c∈x.comps,0<c.size:=by
 have hs:∀x:D,0<x.size:=λx=>by
  induction x using D.ind with
  | leaf x i j=>cases x<;>first | exact absurd rfl (i _) | exact absurd rfl (j _ _) | exact W7o
  | st a h=>exact h
  | pr a c h _=>exact W0x h (W5o _ _)
 intro x c _;exact hs c
theorem Xwp{T:TypeId}{ti:TI}(h:TyOk P T ti){z:D}(O:ti.z=.st z)(h0:ti.arr=0){f:Nat}(hf:f<z.comps.length):
 ∃fs j i,P.underlying T=some (.struct fs)/\fs[f]?=some j/\j.offset=Xhp z.comps f/\P.info? j.type=some i/\i.size≠0/\i.size=z.comps[f].size/\∃t,P.underlying j.type=some t/\Yav t=z.comps[f].ag/\(z.comps[f].ag=false->z.comps[f].size=1):=by
 obtain⟨t,Q,_,o⟩:=h.u
 rw[O] at o
 simp only[h0,if_true] at o
 obtain⟨fs,e,_,V⟩:=o
 subst e
 obtain⟨j,i,Z,g2,g3,I,g5⟩:=V f z.comps[f] (W0e hf)
 exact⟨fs,j,i,Q,Z,g2,g3,by rw[I];exact Nat.ne_of_gt (Xxf z _ (W6r hf)),I,g5⟩
theorem Xqz{a b:Nat}(h:Nat.blt a b=true): a<b:=W1g h
theorem Yj7{T f:Nat}{x:Operand}(hT:∀T ti,tb T=some ti->TyOk P T ti)(Q:Obs W θ N g)(o:Fp tb (.fieldAddr T x f) args=some v)(ha:Xbl W θ g ρ [x] args): Good P N W θ g ρ ⟨d,.fieldAddr T x f,ty,pos,aft,gd⟩ v g:=by
 simp only[Fp] at o
 split at o<;>try cases o
 rename_i ti V
 split at o<;>try cases o
 rename_i z hz h0
 split at o<;>try cases o
 rename_i Z
 obtain⟨fs,gg,i,u1,u2,u3,u4,u5,_⟩:=Xwp (hT _ _ V) hz h0 (Xqz Z)
 have I:∀b off,ρ x=.pointer (some ⟨b,off,none⟩)->(execOp ρ ⟨d,.fieldAddr T x f,ty,pos,aft,gd⟩).run P W.w=.ok (.value (.pointer (some ⟨b,off+Xhp z.comps f,none⟩))) W.w:=λb off e=>by
  simp[execOp,e,Instr.fieldAt,Instr.sureAddr,fieldPlace,sizeOf,typeInfo,underlying,program,bind,Sem.bind,Sem.run,pure,u1,u2,u3,u4,u5,add0]
 split at o<;>try cases o
 . split at o<;>try cases o
   rename_i y hb hy
   obtain⟨b,off,e,O,h2,h3⟩:=Ypv ha.1.1
   obtain⟨u,m,w,e1,e2,e3⟩:=Yj2 hy h2
   have e4:=W0d hb
   refine .val Q (I b off O) (Yoa e3 λj v hj=>?_) (λ_ h=>h.elim)
   have hj2:e[u.length+j]?=some v:=by
    rw[e1,W0s (by omega),W3b,W0r (by
     by_cases h:j<m.length
     . exact h
     . rw[W2b (by omega)] at hj;cases hj)]
    exact hj
   have:=h3 _ _ hj2
   rwa[e2,e4,<-W4u] at this
 . obtain⟨b,O,e⟩:=Xjn ha.1.1
   exact .val Q (I b _ e) (Xsd O) ha.1.2
 . obtain⟨b,O,e⟩:=Yl9 ha.1.1
   exact .val Q (I b _ e) (by rw[W4u];exact Ynx O) ha.1.2
end
end
section
section
variable{P:Program}{N:Nat->Prop}{W:GW}{θ:Loc}{g:Hp}{ρ:Operand->Value}
variable{tb:Nat->Option TI}{d:Option Nat}{ty:TypeId}{pos:String}{aft:Array Edge}{gd:Option (Nat×Bool)}{args:List AV}{v:AV}
theorem Xmm{T:TypeId}{t:TypeDesc}{w:World}{b:Bool}(h:P.underlying T=some t)(hb:Yav t=b): (isAgg T).run P w=.ok b w:=by
 subst hb
 cases t<;>simp[isAgg,Yav,underlying,program,bind,Sem.bind,Sem.run,pure,h]
theorem Xy2{T:TypeId}{t:TypeDesc}{i:TypeInfo}{w:World}{y:AV}{u m z:List Value}(h:P.underlying T=some t)(hb:Yav t=y.ag)(hi:P.info? T=some i)(hs:i.size=y.size)(o:AV.C W θ y m)(I:y.ag=false->y.size=1):
 (part T (u++(m++z)).toArray u.length).run P w=.ok (mkv y.ag m) w:=by
 unfold part
 have j:(sizeOf T).run P w=.ok y.size w:=by simp[sizeOf,typeInfo,program,bind,Sem.bind,Sem.run,pure,hi,hs]
 rw[Sem.run_bind,Xmm h hb]
 have O:=AV.c_len y o
 cases e:y.ag with
 | true =>
  simp only[Result.andThen_ok,if_true]
  rw[Sem.run_bind,j]
  simp only[Result.andThen_ok,mkv,if_true,pure,Sem.run]
  congr 2
  simp[<-O]
 | false =>
  obtain⟨c,rfl⟩:=Yf7 o (I e)
  simp[mkv,pure,Sem.run]
theorem Yj1{T f:Nat}{x:Operand}(hT:∀T ti,tb T=some ti->TyOk P T ti)(hO:Obs W θ N g)(j:Fp tb (.field T x f) args=some v)(ha:Xbl W θ g ρ [x] args): Good P N W θ g ρ ⟨d,.field T x f,ty,pos,aft,gd⟩ v g:=by
 simp only[Fp] at j
 split at j<;>try cases j
 rename_i ti hti
 split at j<;>try cases j
 rename_i z hz h0
 have Q:∀ {y:AV} {cs u m w:List Value},Nat.blt f z.comps.length=true->ρ x=.agg cs.toArray->cs=u++(m++w)->u.length=Xhp z.comps f->AV.C W θ y m->y.size=((z.comps[f]?).getD (.bool false)).size->y.ag=((z.comps[f]?).getD (.bool false)).ag ->
  (∀i,y.ids i->∃k,g i=some k)->Good P N W θ g ρ ⟨d,.field T x f,ty,pos,aft,gd⟩ y g:=by
  intro y cs u m w h hx V Z O o I hi
  have h:=Xqz h
  rw[W0e h,W4a] at o I
  obtain⟨fs,gg,i,u1,u2,u3,u4,u5,u6,t,u7,u8,u9⟩:=Xwp (hT _ _ hti) hz h0 h
  have hp:=Xy2 (P:=P) (θ:=θ) (w:=W.w) (u:=u) (z:=w) u7 (by rw[u8,I]) u4 (by rw[u6,o]) O (λe=>by
   rw[o];exact u9 (by rw[<-I];exact e))
  refine .val hO ?_ (Ylg O) hi
  rw[Z,<-u3,<-V] at hp
  simp only[execOp,hx,Instr.field]
  rw[Sem.run_bind,Sem.run_bind,Xk6 u1]
  simp only[Result.andThen_ok,u2]
  rw[Sem.run_bind]
  simp only[asAgg,pure,Sem.run,Result.andThen_ok]
  rw[hp];rfl
 split at j<;>try cases j
 . split at j<;>try cases j
   rename_i y hy h
   obtain⟨cs,h1,h2⟩:=ha.1.1
   obtain⟨u,m,w,V,Z,O,o,I⟩:=Xtt hy (show D.At W _ cs from h1)
   exact Q h h2 V Z (Ylx O) (by rw[Xoq,o]) (by rw[Yet,I]) (λi hi=>absurd hi (Xmt _ _))
 . split at j<;>try cases j
   rename_i h hy
   obtain⟨cs,h1,h2⟩:=ha.1.1
   obtain⟨u,m,w,V,Z,O,o,I,e6⟩:=Ybp hy (show AV.C W θ _ cs from h1)
   exact Q h h2 V Z O o I (λi hi=>ha.1.2 i (e6 i hi))
theorem Yqr{ti:TI}{j:Int}{a v:AV}{x:Value}(h:ixA ti j a=some v)(ha:AV.V W θ a x):
 ∃p n c b off q,x=.slice p n c/\p=some ⟨b,off,none⟩/\0<=j/\j<n/\q=off+j.toNat*ti.e.size/\AV.V W θ v (.pointer (some ⟨b,q,none⟩))/\∀i,v.ids i->a.ids i:=by
 have T:∀ {sz:Nat} {xs:List D},ixA.ixL ti j sz xs=some v->AV.V W θ (.d (.sl sz xs)) x ->
  ∃p n c b off q,x=.slice p n c/\p=some ⟨b,off,none⟩/\0<=j/\j<n/\q=off+j.toNat*ti.e.size/\AV.V W θ v (.pointer (some ⟨b,q,none⟩))/\∀i,¬v.ids i:=by
  intro sz xs Z hv
  simp only[ixA.ixL] at Z
  split at Z<;>try cases Z
  rename_i hc
  obtain⟨h0,hz⟩:=hc
  split at Z<;>try cases Z
  rename_i u hu
  obtain⟨p,c,e,I,Q,o⟩:=V_sl hv
  have hlt:j.toNat<xs.length:=by
   by_cases h:j.toNat<xs.length
   . exact h
   . rw[W2b (by omega)] at hu;cases hu
  rcases o with o | ⟨b,off,hp,hr⟩
  . rw[o] at hlt;cases hlt
  . obtain⟨e',he,_,hf⟩:=D.row_get hr hu
    exact⟨p,_,c,b,off,_,e,hp,h0,by omega,rfl,Yoa he (by rw[<-hz];exact hf),λ_ h=>h⟩
 unfold ixA at h
 split at h<;>try cases h
 . obtain⟨p,n,c,b,off,q,I,Q,o,h4,O,h6,h7⟩:=T h ha
   exact⟨p,n,c,b,off,q,I,Q,o,h4,O,h6,λi hi=>absurd hi (h7 i)⟩
 . obtain⟨p,n,c,b,off,q,I,Q,o,h4,O,h6,h7⟩:=T h (Xx1 ha)
   exact⟨p,n,c,b,off,q,I,Q,o,h4,O,h6,λi hi=>absurd hi (h7 i)⟩
 . obtain⟨p,n,c,b,off,q,I,Q,o,h4,O,h6,h7⟩:=T h (Xh2 ha)
   exact⟨p,n,c,b,off,q,I,Q,o,h4,O,h6,λi hi=>absurd hi (h7 i)⟩
 . split at h<;>try cases h
   rename_i hc
   obtain⟨h0,hn,hz⟩:=hc
   obtain⟨b,p,I,Q,o,e,O⟩:=Xea ha
   refine⟨p,_,_,b,_,_,e,O (by omega),h0,by omega,rfl,?_,λi hi=>hi⟩
   rw[<-hz,<-W1c]
   exact Ynx (off:=0) I
 . split at h<;>try cases h
   rename_i hc
   obtain⟨h0,hn,hz⟩:=hc
   obtain⟨b,p,I,Q,o,e,O⟩:=Xpi ha
   refine⟨p,_,_,b,_,_,e,O (by omega),h0,by omega,rfl,?_,λi hi=>hi⟩
   rw[<-hz,<-W1c]
   exact Ynx (off:=0) I
theorem Yjt{T:TypeId}{x y:Operand}(hT:∀T ti,tb T=some ti->TyOk P T ti)(V:Obs W θ N g)(h:Fp tb (.indexAddr T x y) args=some v)(ha:Xbl W θ g ρ [x,y] args):
 Good P N W θ g ρ ⟨d,.indexAddr T x y,ty,pos,aft,gd⟩ v g:=by
 simp only[Fp] at h
 split at h<;>try cases h
 rename_i ti a k j I
 obtain⟨Z,_⟩:=Xcf ha.2.1.1
 obtain⟨t,u1,_,o⟩:=(hT _ _ I).u
 split at h<;>try cases h
 . rename_i sz xs O
   rw[O] at o
   obtain⟨E,e,_,_,i,v0,i1,i2,_⟩:=o
   subst e
   obtain⟨p,n,c,b,off,q,Q,h2,h3,h4,h5,h6,h7⟩:=Yqr h ha.1.1
   refine .val V ?_ h6 (λi hi=>ha.1.2 i (h7 i hi))
   simp[execOp,Q,h2,Z,Instr.indexAt,asIntOf,sizeOf,typeInfo,underlying,program,bind,Sem.bind,Sem.run,pure,u1,i1,i2,h3,h4,add0,h5]
 . rename_i z O
   split at h<;>try cases h
   rename_i hc
   obtain⟨b,Q,e⟩:=Xjn ha.1.1
   rw[O] at o
   simp only[show ti.arr≠0 by omega,if_false] at o
   obtain⟨E,e1,i,v0,i1,i2,_⟩:=o
   subst e1
   refine .val V ?_ (Xsd Q) ha.1.2
   simp[execOp,e,Z,Instr.indexAt,Instr.sureAddr,asIntOf,sizeOf,typeInfo,underlying,program,bind,Sem.bind,Sem.run,pure,u1,i1,i2,hc.1,hc.2,add0]
theorem Xua{T E sz:Nat}{x:Value}{p:Option Addr}{m c:Nat}{w:World}{i:TypeInfo}(u:P.underlying T=some (.slice E))(hi:P.info? E=some i)(hs:i.size=sz)(j:x=.slice p m c){l h:Nat}{lo hi':Option Value}
 (o:lo=none/\l=0\/∃k,lo=some (.int k l)) (hh:hi'=none/\h=m\/∃k,hi'=some (.int k h)) (I:l<=h) (O:h<=c) :
 (Instr.sliceAt T x lo hi' none).run P w=.ok (.slice (if c=l then p else p.map (·.add (l*sz))) (h-l) (c-l)) w:=by
 subst j
 rcases o with ⟨e,Q⟩ | ⟨k,e⟩<;>rcases hh with ⟨f,V⟩ | ⟨Z,f⟩<;>subst e<;>subst f<;>(try subst Q)<;>(try subst V) <;>
  simp[Instr.sliceAt,Instr.slice,Instr.sliceBounds,Instr.sliceBound,asIntOf,sizeOf,typeInfo,underlying,program,bind,Sem.bind,Sem.run,pure,u,hi,hs,I,O]
theorem Xn8{sz:Nat}{xs:List D}{x:Value}(ha:AV.V W θ (.d (.sl sz xs)) x){l h:Nat}(I:l<=h)(O:h<=xs.length):
 ∃p c,x=.slice p xs.length c/\h<=c/\AV.V W θ (.d (.sl sz ((xs.drop l).take (h-l)))) (.slice (if c=l then p else p.map (·.add (l*sz))) (h-l) (c-l)):=by
 obtain⟨p,c,e,Q,T,i⟩:=V_sl ha
 refine⟨p,c,e,by omega,Ymu (by simp;omega) (by simp;omega) (by omega) ?_⟩
 by_cases j:(xs.drop l).take (h-l)=[]
 . exact .inl j
 . have:¬c=l:=λZ=>j (W4g.1 (by simp;omega))
   rcases i with i | ⟨b,off,hp,o⟩
   . exact absurd (by rw[i];simp) j
   . exact .inr ⟨b,off+l*sz,by rw[if_neg this,hp];simp[add0],D.row_sub o l (h-l)⟩
def Bd(m:Nat)(lo hi:Option Int)(l h:Nat): Prop:=(lo=none/\l=0\/lo=some (l:Int))/\(hi=none/\h=m\/hi=some (h:Int))/\l<=h/\h<=m
theorem Xt2{sz:Nat}{xs:List D}{lo hi:Option Int}(h:slA.slL sz xs lo hi=some v): ∃l k,Bd xs.length lo hi l k/\v=.d (.sl sz ((xs.drop l).take (k-l))):=by
 cases lo<;>cases hi<;>simp only[slA.slL] at h
 . injection h with h;exact⟨0,xs.length,⟨.inl ⟨rfl,rfl⟩,.inl ⟨rfl,rfl⟩,W0w _,W0a _⟩,by simp[<-h]⟩
 . split at h<;>try cases h
   rename_i z i
   exact⟨0,z.toNat,⟨.inl ⟨rfl,rfl⟩,.inr (by rw[W2y i.1]),W0w _,by omega⟩,by simp⟩
 . split at h<;>try cases h
   rename_i z i
   exact⟨z.toNat,xs.length,⟨.inr (by rw[W2y i.1]),.inl ⟨rfl,rfl⟩,by omega,W0a _⟩,by
    rw[W0b (by simp)]⟩
 . split at h<;>try cases h
   rename_i z j i
   exact⟨z.toNat,j.toNat,⟨.inr (by rw[W2y i.1]),.inr (by rw[W2y (by omega)]),by omega,by omega⟩,rfl⟩
theorem Ymv{lo hi:Option Int}{a:AV}{x:Value}(h:slA lo hi a=some v)(ha:AV.V W θ a x):
 ∃p m c l k,Bd m lo hi l k/\k<=c/\x=.slice p m c/\(∀sz,(∀s xs,a=.d (.sl s xs)\/a=.lit s xs->s=sz)->(∀o s xs,a=.gr o s xs->s=sz)->(∀o s l n,a=.own o s l n\/a=.ow3 o s l n->s=sz) ->
  AV.V W θ v (.slice (if c=l then p else p.map (·.add (l*sz))) (k-l) (c-l)))/\∀i,v.ids i->a.ids i:=by
 unfold slA at h
 split at h<;>try cases h
 . obtain⟨l,k,hb,e⟩:=Xt2 h
   subst e
   obtain⟨p,c,e1,e2,e3⟩:=Xn8 ha hb.2.2.1 hb.2.2.2
   exact⟨p,_,c,l,k,hb,e2,e1,λsz T _ _=>by rw[<-T _ _ (.inl rfl)];exact e3,λ_ h=>h.elim⟩
 . obtain⟨l,k,hb,e⟩:=Xt2 h
   subst e
   obtain⟨p,c,e1,e2,e3⟩:=Xn8 (Xx1 ha) hb.2.2.1 hb.2.2.2
   exact⟨p,_,c,l,k,hb,e2,e1,λsz _ T _=>by rw[<-T _ _ _ rfl];exact e3,λ_ h=>h.elim⟩
 . obtain⟨l,k,hb,e⟩:=Xt2 h
   subst e
   obtain⟨p,c,e1,e2,e3⟩:=Xn8 (Xh2 ha) hb.2.2.1 hb.2.2.2
   exact⟨p,_,c,l,k,hb,e2,e1,λsz T _ _=>by rw[<-T _ _ (.inr rfl)];exact e3,λ_ h=>h.elim⟩
 . rename_i o j l0 n
   obtain⟨b,p,T,h2,h3,e,h5⟩:=Xea ha
   have I:∀l k,Bd n lo hi l k->v=.own o j (l0+l) (k-l)->∃p m c l k,Bd m lo hi l k/\k<=c/\x=.slice p m c/\(∀sz,(∀s xs,AV.own o j l0 n=.d (.sl s xs)\/AV.own o j l0 n=.lit s xs->s=sz)->(∀Q s xs,AV.own o j l0 n=.gr Q s xs->s=sz)->(∀Q s l Z,AV.own o j l0 n=.own Q s l Z\/AV.own o j l0 n=.ow3 Q s l Z->s=sz) ->
    AV.V W θ v (.slice (if c=l then p else p.map (·.add (l*sz))) (k-l) (c-l)))/\∀i,v.ids i->(AV.own o j l0 n).ids i:=by
    intro l k hb hv
    subst hv
    refine⟨p,n,_,l,k,hb,by have:=hb.2.2.2;omega,e,λsz _ _ hs=>?_,λ_ h=>h⟩
    have:=hs _ _ _ _ (.inl rfl)
    subst this
    have hb1:=hb.2.2.1
    have hb2:=hb.2.2.2
    refine⟨_,⟨b,_,T,by omega,h3,rfl,?_⟩,by rw[Nat.sub_sub];rfl⟩
    intro O
    by_cases e0:(θ o).2-l0=l
    . rw[if_pos e0]
      have:l0=0/\l=0:=by omega
      rw[h5 (.inl this.1),this.1,this.2]
    . rw[if_neg e0,h5 (by omega)]
      simp[add0,W1c]
   cases lo<;>cases hi<;>simp only at h
   . injection h with h;exact I 0 n ⟨.inl ⟨rfl,rfl⟩,.inl ⟨rfl,rfl⟩,W0w _,W0a _⟩ (by rw[<-h];rfl)
   . split at h<;>try cases h
     rename_i z O
     exact I 0 z.toNat ⟨.inl ⟨rfl,rfl⟩,.inr (by rw[W2y O.1]),W0w _,by omega⟩ rfl
   . split at h<;>try cases h
     rename_i z O
     exact I z.toNat n ⟨.inr (by rw[W2y O.1]),.inl ⟨rfl,rfl⟩,by omega,W0a _⟩ rfl
   . split at h<;>try cases h
     rename_i z z' O
     exact I z.toNat z'.toNat ⟨.inr (by rw[W2y O.1]),.inr (by rw[W2y (by omega)]),by omega,by omega⟩ rfl
 . rename_i o j l0 n
   obtain⟨b,p,T,h2,h3,e,h5⟩:=Xpi ha
   have I:∀l,l<=n->(lo=none/\l=0\/lo=some (l:Int))->hi=none->v=.ow3 o j (l0+l) (n-l)->∃p m c l k,Bd m lo hi l k/\k<=c/\x=.slice p m c/\(∀sz,(∀s xs,AV.ow3 o j l0 n=.d (.sl s xs)\/AV.ow3 o j l0 n=.lit s xs->s=sz)->(∀Q s xs,AV.ow3 o j l0 n=.gr Q s xs->s=sz)->(∀Q s l Z,AV.ow3 o j l0 n=.own Q s l Z\/AV.ow3 o j l0 n=.ow3 Q s l Z->s=sz) ->
    AV.V W θ v (.slice (if c=l then p else p.map (·.add (l*sz))) (k-l) (c-l)))/\∀i,v.ids i->(AV.ow3 o j l0 n).ids i:=by
    intro l hln hb hhi hv
    subst hv
    refine⟨p,n,n,l,n,⟨hb,.inl ⟨hhi,rfl⟩,hln,W0a _⟩,W0a _,e,λsz _ _ hs=>?_,λ_ h=>h⟩
    have:=hs _ _ _ _ (.inr rfl)
    subst this
    refine⟨_,⟨b,_,T,by omega,h3,rfl,?_⟩,rfl⟩
    intro O
    by_cases e0:n=l
    . rw[if_pos e0]
      have:l0=0/\l=0:=by omega
      rw[h5 (.inl this.1),this.1,this.2]
    . rw[if_neg e0,h5 (by omega)]
      simp[add0,W1c]
   cases lo<;>cases hi<;>simp only at h<;>try cases h
   . exact I 0 (W0w _) (.inl ⟨rfl,rfl⟩) rfl rfl
   . split at h<;>try cases h
     rename_i z O
     exact I z.toNat (by omega) (.inr (by rw[W2y O.1])) rfl rfl
 . obtain⟨p,e⟩:=Xl4 ha
   have I:Bd 0 lo hi 0 0->v=.nil->∃p m c l k,Bd m lo hi l k/\k<=c/\x=.slice p m c/\(∀sz,(∀s xs,AV.nil=.d (.sl s xs)\/AV.nil=.lit s xs->s=sz)->(∀Q s xs,AV.nil=.gr Q s xs->s=sz)->(∀Q s l Z,AV.nil=.own Q s l Z\/AV.nil=.ow3 Q s l Z->s=sz) ->
    AV.V W θ v (.slice (if c=l then p else p.map (·.add (l*sz))) (k-l) (c-l)))/\∀i,v.ids i->AV.nil.ids i:=by
    intro hb hv
    subst hv
    exact⟨p,0,0,0,0,hb,W0a _,e,λ_ _ _ _=>⟨_,⟨_,rfl⟩,rfl⟩,λ_ h=>h⟩
   cases lo<;>cases hi<;>simp only at h
   . injection h with h;exact I ⟨.inl ⟨rfl,rfl⟩,.inl ⟨rfl,rfl⟩,W0a _,W0a _⟩ h.symm
   . split at h<;>try cases h
     rename_i O;subst O
     exact I ⟨.inl ⟨rfl,rfl⟩,.inr rfl,W0a _,W0a _⟩ rfl
   . split at h<;>try cases h
     rename_i O;subst O
     exact I ⟨.inr rfl,.inl ⟨rfl,rfl⟩,W0a _,W0a _⟩ rfl
   . split at h<;>try cases h
     rename_i O;rcases O with ⟨rfl,rfl⟩
     exact I ⟨.inr rfl,.inr rfl,W0a _,W0a _⟩ rfl
def OV: Option Int->Option Value->Prop
 | none,v=>v=none
 | some q,v=>∃k,v=some (.int k q)
theorem Xk5{x:Operand}{lo hi j:Option Operand}{a:AV}{l h m:Option Int}(hs:Xjt lo hi j args=some (a,l,h,m))(ha:Xbl W θ g ρ (x::(lo.toList++(hi.toList++j.toList))) args):
 (AV.V W θ a (ρ x)/\∀i,a.ids i->∃y,g i=some y)/\OV l (lo.map ρ)/\OV h (hi.map ρ)/\OV m (j.map ρ):=by
 unfold Xjt at hs
 split at hs<;>try cases hs
 . split at hs<;>cases hs
   exact⟨ha.1,rfl,rfl,rfl⟩
 . split at hs<;>cases hs
   . exact⟨ha.1,⟨_,congrArg some (Xcf ha.2.1.1).1⟩,rfl,rfl⟩
   . exact⟨ha.1,rfl,⟨_,congrArg some (Xcf ha.2.1.1).1⟩,rfl⟩
 . split at hs<;>cases hs
   . exact⟨ha.1,⟨_,congrArg some (Xcf ha.2.1.1).1⟩,⟨_,congrArg some (Xcf ha.2.2.1.1).1⟩,rfl⟩
   . exact⟨ha.1,rfl,⟨_,congrArg some (Xcf ha.2.1.1).1⟩,⟨_,congrArg some (Xcf ha.2.2.1.1).1⟩⟩
theorem Xsu(s:List UInt8)(l h:Nat): (ByteArray.mk s.toArray).extract l h=⟨((s.drop l).take (h-l)).toArray⟩:=by
 apply ByteArray.ext
 rw[ByteArray.data_extract]
 simp[List.extract_eq_take_drop]
theorem Yhx{s:List UInt8}{lo hi:Option Int}(h:slS s lo hi=some v): ∃l k,Bd s.length lo hi l k/\v=.d (.str ((s.drop l).take (k-l))):=by
 cases lo<;>cases hi<;>simp only[slS] at h
 . injection h with h;exact⟨0,s.length,⟨.inl ⟨rfl,rfl⟩,.inl ⟨rfl,rfl⟩,W0w _,W0a _⟩,by simp[<-h]⟩
 . split at h<;>try cases h
   rename_i z i
   exact⟨0,z.toNat,⟨.inl ⟨rfl,rfl⟩,.inr (by rw[W2y i.1]),W0w _,by omega⟩,by simp⟩
 . split at h<;>try cases h
   rename_i z i
   exact⟨z.toNat,s.length,⟨.inr (by rw[W2y i.1]),.inl ⟨rfl,rfl⟩,by omega,W0a _⟩,by
    rw[W0b (by simp)]⟩
 . split at h<;>try cases h
   rename_i z j i
   exact⟨z.toNat,j.toNat,⟨.inr (by rw[W2y i.1]),.inr (by rw[W2y (by omega)]),by omega,by omega⟩,rfl⟩
theorem Yd7{T:TypeId}{s:List UInt8}{w:World}(u:P.underlying T=some .string){l h:Nat}{lo hi':Option Value}
 (i:lo=none/\l=0\/∃k,lo=some (.int k l)) (hh:hi'=none/\h=s.length\/∃k,hi'=some (.int k h)) (j:l<=h) (o:h<=s.length) :
 (Instr.sliceAt T (.string ⟨s.toArray⟩) lo hi' none).run P w=.ok (.string ⟨((s.drop l).take (h-l)).toArray⟩) w:=by
 have I:(ByteArray.mk s.toArray).size=s.length:=by show s.toArray.size=_;simp
 rcases i with ⟨e,O⟩ | ⟨k,e⟩<;>rcases hh with ⟨f,Q⟩ | ⟨V,f⟩<;>subst e<;>subst f<;>(try subst O)<;>(try subst Q) <;>
  simp[Instr.sliceAt,Instr.slice,Instr.sliceBounds,Instr.sliceBound,asIntOf,underlying,program,bind,Sem.bind,Sem.run,pure,u,j,o,I,Xsu]
theorem Yhw{T:TypeId}{x:Operand}{lo hi mx:Option Operand}(hT:∀T ti,tb T=some ti->TyOk P T ti)(hO:Obs W θ N g)(j:Fp tb (.slice T x lo hi mx) args=some v)(ha:Xbl W θ g ρ (x::(lo.toList++(hi.toList++mx.toList))) args):
 Good P N W θ g ρ ⟨d,.slice T x lo hi mx,ty,pos,aft,gd⟩ v g:=by
 simp only[Fp] at j
 split at j<;>try cases j
 rename_i ti hti
 obtain⟨t,u1,_,u3⟩:=(hT _ _ hti).u
 split at j<;>try cases j
 . rename_i a l h hz hs
   rw[hz] at u3
   obtain⟨E,e,_,_,i,v0,i1,i2,_⟩:=u3
   subst e
   split at j<;>try cases j
   rename_i hok
   obtain⟨⟨hv,O⟩,Q,Z,V⟩:=Xk5 hs ha
   obtain⟨p,m,c,l',k,⟨hb1,hb2,hb3,hb4⟩,h2,h3,h4,h5⟩:=Ymv j hv
   refine .val hO ?_ (h4 ti.e.size (λs xs e=>by rcases e with e | e<;>subst e<;>exact W0d hok) (λo s xs e=>by subst e;exact W0d hok) (λo s l n e=>by rcases e with e | e<;>subst e<;>exact W0d hok)) (λi hi=>O i (h5 i hi))
   have:=Xua (P:=P) (w:=W.w) u1 i1 i2 h3 (lo:=lo.map ρ) (hi':=hi.map ρ) (l:=l') (h:=k) (by
    rcases hb1 with ⟨I,f2⟩ | I
    . subst I;exact .inl ⟨Q,f2⟩
    . subst I;exact .inr Q) (by
    rcases hb2 with ⟨I,f2⟩ | I
    . subst I;exact .inl ⟨Z,f2⟩
    . subst I;exact .inr Z) hb3 h2
   have V:mx.map ρ=none:=V
   simp only[execOp,V]
   rw[Sem.run_bind,this];rfl
 . rename_i a h m hz hs
   rw[hz] at u3
   obtain⟨E,e,_,_,i,v0,i1,i2,_⟩:=u3
   subst e
   obtain⟨⟨hv,O⟩,Q,⟨k2,Z⟩,⟨k3,V⟩⟩:=Xk5 hs ha
   have Q:lo.map ρ=none:=Q
   have fin:∀ {p:Option Addr} {n c k:Nat},ρ x=.slice p n c->k<=c->h=(k:Int)->m=(k:Int)->(execOp ρ ⟨d,.slice T x lo hi mx,ty,pos,aft,gd⟩).run P W.w=.ok (.value (.slice p k k)) W.w:=by
    intro p n c k e hkc h1 h2
    subst h1;subst h2
    by_cases h0:k=0
    . subst h0
      simp[execOp,e,Q,Z,V,Instr.sliceAt,Instr.slice,Instr.sliceBounds,Instr.sliceBound,asIntOf,sizeOf,typeInfo,underlying,program,bind,Sem.bind,Sem.run,pure,u1,i1,i2]
    . have hg:(λa:Addr=>a.add 0)=id:=funext λa=>by cases a;simp[Addr.add]
      simp[execOp,e,Q,Z,V,Instr.sliceAt,Instr.slice,Instr.sliceBounds,Instr.sliceBound,asIntOf,sizeOf,typeInfo,underlying,program,bind,Sem.bind,Sem.run,pure,u1,i1,i2,h0,hkc,hg]
   split at j
   . cases j
     rename_i hc
     rcases hc with ⟨rfl,rfl,hsl⟩
     obtain⟨p,n,c,e,_⟩:=Ycr hsl hv
     exact .val (u:=.slice p 0 0) hO (fin e (W0w _) rfl rfl) ⟨_,⟨_,rfl⟩,rfl⟩ (λ_ h=>h.elim)
   . unfold sl3 at j
     split at j<;>try cases j
     . split at j<;>cases j
       rename_i hc
       obtain⟨c0,c1,c2⟩:=hc
       obtain⟨b,p,h1,h2,h3,e,h5⟩:=Xea hv
       exact .val (u:=.slice p h.toNat h.toNat) hO (fin e (by omega) (by omega) (by omega)) ⟨_,⟨b,p,h1,by omega,h3,rfl,λhh=>h5 (by omega)⟩,rfl⟩ O
     . split at j<;>cases j
       rename_i hc
       obtain⟨c0,c1,c2⟩:=hc
       obtain⟨b,p,h1,h2,h3,e,h5⟩:=Xpi hv
       exact .val (u:=.slice p h.toNat h.toNat) hO (fin e (by omega) (by omega) (by omega)) ⟨_,⟨b,p,h1,by omega,h3,rfl,λhh=>h5 (by omega)⟩,rfl⟩ O
 . rename_i s l h hz hs
   rw[hz] at u3
   subst u3
   obtain⟨⟨hv,O⟩,Q,Z,V⟩:=Xk5 hs ha
   obtain⟨l',k,⟨hb1,hb2,hb3,hb4⟩,rfl⟩:=Yhx j
   obtain⟨e,hl⟩:=Xx0 hv
   refine .val hO ?_ (Xn6 (by simp;omega)) (λ_ h=>h.elim)
   have:=Yd7 (P:=P) (w:=W.w) u1 (lo:=lo.map ρ) (hi':=hi.map ρ) (s:=s) (l:=l') (h:=k) (by
    rcases hb1 with ⟨I,f2⟩ | I
    . subst I;exact .inl ⟨Q,f2⟩
    . subst I;exact .inr Q) (by
    rcases hb2 with ⟨I,f2⟩ | I
    . subst I;exact .inl ⟨Z,f2⟩
    . subst I;exact .inr Z) hb3 hb4
   have V:mx.map ρ=none:=V
   simp only[execOp,V,e]
   rw[Sem.run_bind,this];rfl
end
end
section
section
variable{P:Program}{N:Nat->Prop}{W:GW}{θ:Loc}{g:Hp}{ρ:Operand->Value}
variable{tb:Nat->Option TI}{d:Option Nat}{ty:TypeId}{pos:String}{aft:Array Edge}{gd:Option (Nat×Bool)}{args:List AV}{v:AV}
theorem Xwo(vs:List Value): ∀(cs:List Value) (off k:Nat),(vs.zipIdx k).foldl (λ(cs:Array Value) (c,j)=>cs.setIfInBounds (off+j) c) cs.toArray=(spl cs (off+k) vs).toArray:=by
 induction vs with
 | nil=>intro cs off k;rfl
 | cons v vs h=>intro cs off k;simp only[List.zipIdx_cons,List.foldl_cons,spl,List.setIfInBounds_toArray];rw[h,W4u]
theorem Xnr(v:Array Value)(cs:List Value)(off:Nat): v.zipIdx.foldl (λ(cs:Array Value) (c,j)=>cs.setIfInBounds (off+j) c) cs.toArray=(spl cs off v.toList).toArray:=by
 rw[<-Array.foldl_toList,Array.toList_zipIdx]
 exact Xwo v.toList cs off 0
def Ch: AV->List D->Prop
 | .pr a c,x::y::l=>(a.size=x.size/\a.ag=x.ag)/\Ch c (y::l)
 | .pr _ _,_=>False
 | a,[x]=>a.size=x.size/\a.ag=x.ag
 | _,_=>False
theorem Yag(x:D): x.comps≠[]:=by cases x<;>simp[D.comps]
theorem Ya9: ∀(x:D),(∀u v,x≠.pr u v)->∀u v,zA x≠.pr u v
 | .pr x y,h=>absurd rfl (h x y)
 | .st x,_=>λu v e=>by
  have:=Xp2 (zA x)
  rw[zA] at e
  rw[e] at this;cases this
 | .bool _,_ | .sl ..,_ | .int ..,_ | .str _,_ | .raw _,_=>λ_ _=>nofun
theorem Ch.one{a:AV}{x:D}(h:∀u v,a≠.pr u v)(i:a.size=x.size)(j:a.ag=x.ag): Ch a [x]:=by
 cases a<;>first | exact absurd rfl (h _ _) | exact⟨i,j⟩
theorem Yg4: ∀(x:D),Ch (zP x) x.comps:=by
 intro x
 induction x using D.ind with
 | leaf x I i =>
  have e:zP x=zA x:=by cases x<;>first | rfl | exact absurd rfl (i _ _)
  have o:x.comps=[x]:=by cases x<;>first | rfl | exact absurd rfl (i _ _)
  rw[e,o]
  exact .one (Ya9 x i) (Xgm x) (Ydh x)
 | st a _=>exact .one (Ya9 (.st a) (λ_ _=>nofun)) (Xgm _) (Ydh _)
 | pr a c _ j =>
  show Ch (.pr (zA a) (zP c)) (a::c.comps)
  cases h:c.comps with
  | nil=>exact absurd h (Yag c)
  | cons y l=>rw[h] at j;exact⟨⟨Xgm a,Ydh a⟩,j⟩
theorem Yop: ∀(x:D),x.isZ=true->AV.C W θ (zP x) x.zc:=by
 intro x
 induction x using D.ind with
 | leaf x o i =>
  intro h
  have e:zP x=zA x:=by cases x<;>first | rfl | exact absurd rfl (i _ _)
  rw[e];exact Ydg h
 | st a _=>intro h;exact Ydg (x:=.st a) h
 | pr a c _ j =>
  intro h
  have:a.isZ=true/\c.isZ=true:=by simpa [D.isZ] using h
  exact⟨_,_,rfl,Ydg this.1,j this.2⟩
theorem Ya8: ∀(x:D) (i:Nat),¬(zP x).ids i:=by
 intro x
 induction x using D.ind with
 | leaf x I j =>
  have e:zP x=zA x:=by cases x<;>first | rfl | exact absurd rfl (j _ _)
  rw[e];exact Xh3 x
 | st a _=>exact Xh3 (.st a)
 | pr a c _ o=>exact λi h=>h.elim (Xh3 a i) (o i)
theorem Xvv: ∀ {a:AV} {cs:List Value},AV.C W θ a cs->AV.C W θ (Xzp a) cs:=by
 intro a
 induction a with
 | pr a c _ i=>intro cs ⟨u,v,e,j,o⟩;rw[e];exact Xzd j (i o)
 | _=>intro cs h;exact h
theorem Xmx: ∀ {a:AV} {i:Nat},(Xzp a).ids i->a.ids i:=by
 intro a
 induction a with
 | pr a c _ j=>intro i h;exact(Xlc h).imp id j
 | _=>intro i h;exact h
theorem Xy0{v:AV}: ∀ {a:AV} {i:Nat} {o:AV} {l:List D},Xs2 a i v=some o->Ch a l->∃x,l[i]?=some x/\v.size=x.size/\v.ag=x.ag:=by
 intro a
 induction a with
 | pr a c _ T =>
  intro i o l h j
  match l,j with
  | x::y::l,j =>
   cases i with
   | zero =>
    simp only[Xs2] at h
    split at h<;>try cases h
    rename_i hf
    obtain⟨I,O⟩:=Xdi hf
    exact⟨x,rfl,by rw[I,j.1.1],by rw[O,j.1.2]⟩
   | succ i =>
    simp only[Xs2] at h
    split at h<;>try cases h
    rename_i c' Q
    obtain⟨z,V,Z,k4⟩:=T Q j.2
    exact⟨z,by simpa using V,Z,k4⟩
 | _ =>
  intro i o l h j
  match l,j with
  | [x],j =>
   cases i with
   | zero =>
    simp only[Xs2] at h
    split at h<;>try cases h
    rename_i hf
    obtain⟨I,O⟩:=Xdi hf
    exact⟨x,rfl,by rw[I,j.1],by rw[O,j.2]⟩
   | succ i=>simp[Xs2] at h
theorem Yh1{v:AV}{vs:List Value}(hv:AV.C W θ v vs)(Q:∀u w,v≠.pr u w): ∀ {a:AV} {i:Nat} {I:AV} {l:List D} {cs:List Value},Xs2 a i v=some I->Ch a l->AV.C W θ a cs ->
 Ch I l/\(∃x,l[i]?=some x/\v.size=x.size/\v.ag=x.ag)/\(∃u m w,cs=u++(m++w)/\u.length=Xhp l i/\m.length=v.size/\AV.C W θ I (u++(vs++w)))/\∀i,I.ids i->a.ids i\/v.ids i:=by
 intro a
 induction a with
 | pr a c _ ih =>
  intro i I l cs h j T
  match l,j with
  | x::y::l,j =>
   obtain⟨u,w,e,V,h2⟩:=T
   subst e
   cases i with
   | zero =>
    simp only[Xs2] at h
    split at h<;>try cases h
    rename_i hf
    obtain⟨o,O⟩:=Xdi hf
    refine⟨⟨⟨by rw[o,j.1.1],by rw[O,j.1.2]⟩,j.2⟩,⟨x,rfl,by rw[o,j.1.1],by rw[O,j.1.2]⟩,⟨[],u,w,rfl,rfl,by rw[AV.c_len a V,o],⟨vs,w,rfl,hv,h2⟩⟩,λi hi=>hi.elim .inr λh=>.inl (.inr h)⟩
   | succ i =>
    simp only[Xs2] at h
    split at h<;>try cases h
    rename_i c' Z
    obtain⟨k1,⟨z,k2,k3,k4⟩,⟨u1,m,w1,e1,e2,e3,e4⟩,k5⟩:=ih Z j.2 h2
    refine⟨⟨j.1,k1⟩,⟨z,by simpa using k2,k3,k4⟩,⟨u++u1,m,w1,by rw[e1];simp,by rw[W0c,e2,AV.c_len a V,j.1.1];rfl,e3,⟨u,_,by simp,V,e4⟩⟩,λi hi=>hi.elim (λh=>.inl (.inl h)) λh=>(k5 i h).imp .inr id⟩
 | _ =>
  intro i I l cs h j T
  match l,j with
  | [x],j =>
   cases i with
   | zero =>
    simp only[Xs2] at h
    split at h<;>try cases h
    rename_i hf
    obtain⟨o,O⟩:=Xdi hf
    exact⟨.one Q (by rw[o,j.1]) (by rw[O,j.2]),⟨x,rfl,by rw[o,j.1],by rw[O,j.2]⟩,⟨[],cs,[],by simp,rfl,by rw[AV.c_len _ T,o],by simpa using hv⟩,λi hi=>.inr hi⟩
   | succ i=>simp[Xs2] at h
theorem Xf9: ∀ {v:AV},plain v=true->v.ag=true\/v.size=1
 | .d (.st _),_ | .st _,_=>.inl rfl
 | .d (.int ..),_ | .d (.bool _),_ | .d (.str _),_ | .d (.raw _),_ | .d (.sl ..),_ | .q _,_ | .b _,_ | .ub _,_ | .nil,_ | .lit ..,_ | .at _,_ | .ptr ..,_ | .own ..,_ | .ow3 ..,_ | .gr ..,_ | .el ..,_ | .fn ..,_ | .fm ..,_ | .ap ..,_ | .cx ..,_ | .an,_=>.inr rfl
theorem Xg0{v:AV}{u:Value}(hp:plain v=true)(h:AV.V W θ v u)(o:v.ag=true\/v.size=1): AV.C W θ v u.cells.toList/\∀a c,v≠.pr a c:=by
 have i:(∀a c,v≠.pr a c)/\(∀a,v≠.tup a)/\v≠.un:=⟨(λ_ _ e=>by subst e;cases hp),(λ_ e=>by subst e;cases hp),(λe=>by subst e;cases hp)⟩
 obtain⟨cs,j,e⟩:=V_c h i.2.1 i.2.2
 rw[e,Xxn j o]
 exact⟨j,i.1⟩
theorem Xwr{place:Nat->Option (Nat×Nat)}{l:List D}(O:∀f c,l[f]?=some c->place f=some (Xhp l f,c.size))(Q:∀c∈l,c.ag=false->c.size=1){I:Nat->Prop}:
 ∀ {ps:List (Nat×Operand)} {vs:List AV} {a T:AV} {cs:List Value},Xoc a ps vs=some T->Ch a l->AV.C W θ a cs->(∀i,a.ids i->I i)->Xbl W θ g ρ (ps.map (·.2)) vs->(∀i y,g i=some y->I i) ->
 ∃o,Instr.fill place cs.toArray (ps.map λx=>(x.1,ρ x.2))=some (o:List Value).toArray/\AV.C W θ T o/\∀i,T.ids i->I i
 | [],[],a,T,cs,h,hl,hc,hi,_,_=>by
  simp only[Xoc] at h;injection h with h;subst h
  exact⟨cs,rfl,hc,hi⟩
 | (i,x)::ps,v::vs,a,T,cs,h,hl,hc,hi,ha,hg=>by
  simp only[Xoc] at h
  split at h<;>try cases h
  rename_i a1 hp V
  have hsz:v.ag=true\/v.size=1:=by
   obtain⟨z,k2,k3,k4⟩:=Xy0 V hl
   cases e:v.ag with
   | true=>exact .inl rfl
   | false=>exact .inr (by rw[k3];exact Q z (W0h k2) (by rw[<-k4,e]))
  obtain⟨Z,hnp⟩:=Xg0 hp ha.1.1 hsz
  obtain⟨k1,⟨z,k2,k3,k4⟩,⟨u,m,w,e1,e2,e3,e4⟩,k5⟩:=Yh1 Z hnp V hl hc
  have hv:=AV.c_len v Z
  have hv':(ρ x).cells.size=v.size:=by simpa using hv
  obtain⟨o,f1,f2,f3⟩:=Xwr O Q h k1 e4 (λj hj=>(k5 j hj).elim (hi j) λhj=>let ⟨y,hy⟩:=ha.1.2 j hj;hg j y hy) ha.2 hg
  refine⟨o,?_,f2,f3⟩
  simp only[W4m,Instr.fill,O i z k2]
  have hc0:(decide ((ρ x).cells.size≠z.size)||decide (Xhp l i+(ρ x).cells.size>cs.toArray.size))=false:=by
   simp[hv',k3,e1,e2]
   omega
  rw[if_neg (by rw[hc0];simp),Xnr,e1,<-e2,Xp7 _ _ _ _ (by rw[hv,e3])]
  exact f1
 | [],_::_,_,_,_,h,_,_,_,_,_=>by simp[Xoc] at h
 | _::_,[],_,_,_,h,_,_,_,_,_=>by simp[Xoc] at h
theorem Xjy{w:World}: ∀ {fs:List Field} {l:List D} (o:Nat),fs.length=l.length->(∀f c,l[f]?=some c->∃j i,fs[f]?=some j/\j.offset=o+Xhp l f/\P.info? j.type=some i/\i.size=c.size) ->
 ∃Q:List (Nat×Nat),(fs.mapM λf=>do pure (f.offset,<-sizeOf f.type):Sem (List (Nat×Nat))).run P w=.ok Q w/\∀f c,l[f]?=some c->Q[f]?=some (o+Xhp l f,c.size)
 | [],[],_,_,_=>⟨[],rfl,λf c h=>by simp at h⟩
 | f::fs,c::l,o,O,h=>by
  obtain⟨j,i,T,V,Z,h4⟩:=h 0 c rfl
  simp at T;subst T
  obtain⟨Q,k1,k2⟩:=Xjy (w:=w) (fs:=fs) (l:=l) (o+c.size) (by simpa using O) (λk x I=>by
   obtain⟨j,i,T,V,Z,h4⟩:=h (k+1) x (by simpa using I)
   exact⟨j,i,by simpa using T,by rw[V,Xhp];omega,Z,h4⟩)
  refine⟨(f.offset,c.size)::Q,?_,λk x I=>?_⟩
  . have m0:(sizeOf f.type).run P w=.ok c.size w:=by simp[sizeOf,typeInfo,Z,h4]
    have h0:((do pure (f.offset,<-sizeOf f.type):Sem (Nat×Nat))).run P w=.ok (f.offset,c.size) w:=by simp[m0]
    rw[List.mapM_cons,Sem.run_bind,h0]
    simp only[Result.andThen_ok]
    rw[Sem.run_bind,k1]
    rfl
  . cases k with
    | zero=>simp at I;subst I;simp[V,Xhp]
    | succ k=>simp at I |-;rw[k2 k x I,Xhp];simp;omega
 | [],_::_,_,O,_=>by simp at O
 | _::_,[],_,O,_=>by simp at O
theorem Xqr{n:Nat}: ∀ {l:List D} {f:Nat} {c:D},(∀c∈l,c.size=n)->l[f]?=some c->Xhp l f=f*n
 | x::l,0,c,_,_=>by simp[Xhp]
 | x::l,f+1,c,h,i=>by
  rw[Xhp,h x (W0l ..),Xqr (λc i=>h c (W0o _ i)) (by simpa using i),W2k]
  omega
 | [],_,_,_,h=>by simp at h
theorem Yk2{T:TypeId}{ps:Array (Nat×Operand)}(hT:∀T ti,tb T=some ti->TyOk P T ti)(hO:Obs W θ N g)(o:Fp tb (.build T ps) args=some v)(ha:Xbl W θ g ρ (ps.toList.map (·.2)) args):
 Good P N W θ g ρ ⟨d,.build T ps,ty,pos,aft,gd⟩ v g:=by
 simp only[Fp] at o
 split at o<;>try cases o
 rename_i ti hti
 split at o<;>try cases o
 rename_i z hz
 split at o<;>try cases o
 rename_i a hb hs
 have hk:=hT _ _ hti
 obtain⟨ii,v0,i1,i2,i3,i4,i5⟩:=hk.i
 obtain⟨t,u1,_,Z⟩:=hk.u
 have O:=hk.z
 rw[hz] at Z i4 O
 have ezl:v0.cells=z.zc.toArray:=by
  have:v0.cells=v0.cells.toList.toArray:=by simp
  rw[this,i4];rfl
 have ez:(zeroValue T).run P W.w=.ok v0 W.w:=by simp[zeroValue,typeInfo,i1,i3]
 by_cases h0:ti.arr=0
 . simp only[h0,if_true] at Z
   obtain⟨fs,e,hl,hf⟩:=Z
   subst e
   obtain⟨pl,k1,k2⟩:=Xjy (P:=P) (w:=W.w) (fs:=fs.toList) (l:=z.comps) 0 (by simpa using hl) (λf c j=>by
    obtain⟨gg,i,h1,h2,h3,h4,_⟩:=hf f c j
    exact⟨gg,i,by simpa using h1,by omega,h3,h4⟩)
   obtain⟨Q,f1,f2,f3⟩:=Xwr (ρ:=ρ) (g:=g) (place:=(pl.toArray[·]?)) (l:=z.comps) (θ:=θ) (W:=W) (I:=λi=>∃y,g i=some y) (λf c j=>by
    have:=k2 f c j;simpa using this) (λc j=>by
    obtain⟨f,hf'⟩:=W3a j
    obtain⟨gg,i,h1,h2,h3,h4,t,h5,h6,h7⟩:=hf f c hf'
    exact h7) hs (Yg4 z) (Yop z O) (λi hi=>absurd hi (Ya8 z i)) ha (λi y hy=>⟨y,hy⟩)
   have hm:(fs.mapM λf=>do pure (f.offset,<-sizeOf f.type):Sem (Array (Nat×Nat))).run P W.w=.ok pl.toArray W.w:=by
    have:fs=fs.toList.toArray:=by simp
    rw[this,List.mapM_toArray,Sem.run_map,k1]
    rfl
   refine .val (u:=.agg Q.toArray) hO ?_ ?_ (λi hi=>f3 i (Xmx (Xk2 hi)))
   . simp only[execOp,Instr.build]
     rw[Sem.run_bind,Sem.run_bind,ez]
     simp only[Result.andThen_ok]
     rw[Sem.run_bind,Xk6 u1]
     simp only[Result.andThen_ok]
     rw[Sem.run_bind,hm]
     simp only[Result.andThen_ok]
     rw[ezl,Array.toList_map,f1]
     rfl
   . have:=Ylg (Xyu (Xvv f2))
     rw[Xp2] at this
     exact this
 . simp only[h0,if_false] at Z
   obtain⟨E,e,ei,ev,e1,e2,e3,e4,e5⟩:=Z
   subst e
   have hb:(z.comps.all λc=>Nat.beq c.size ti.e.size&&(c.ag||Nat.beq c.size 1))=true:=by
    unfold Yk3 at hb
    split at hb
    . rename_i h;exact absurd h h0
    . exact hb
   have V:∀c∈z.comps,c.size=ti.e.size/\(c.ag=false->c.size=1):=λc j=>by
    have:=W1o.1 hb c j
    simp only[W0g,W3t] at this
    exact⟨W0d this.1,λh=>this.2.elim (λh2=>by rw[h] at h2;cases h2) W0d⟩
   obtain⟨Q,f1,f2,f3⟩:=Xwr (ρ:=ρ) (g:=g) (place:=λi=>some (i*ti.e.size,ti.e.size)) (l:=z.comps) (θ:=θ) (W:=W) (I:=λi=>∃y,g i=some y) (λf c j=>by
    show some _=_
    rw[Xqr (n:=ti.e.size) (λc j=>(V c j).1) j,(V c (W0h j)).1]) (λc j=>(V c j).2) hs (Yg4 z) (Yop z O) (λi hi=>absurd hi (Ya8 z i)) ha (λi y hy=>⟨y,hy⟩)
   have hm:(sizeOf E).run P W.w=.ok ti.e.size W.w:=by simp[sizeOf,typeInfo,e1,e2]
   refine .val (u:=.agg Q.toArray) hO ?_ ?_ (λi hi=>f3 i (Xmx (Xk2 hi)))
   . simp only[execOp,Instr.build]
     rw[Sem.run_bind,Sem.run_bind,ez]
     simp only[Result.andThen_ok]
     rw[Sem.run_bind,Xk6 u1]
     simp only[Result.andThen_ok]
     rw[Sem.run_bind,hm]
     simp only[Result.andThen_ok]
     rw[ezl,Array.toList_map,f1]
     rfl
   . have:=Ylg (Xyu (Xvv f2))
     rw[Xp2] at this
     exact this
theorem Yi4{fn:Fn}(j:Obs W θ N g)(i:Fp tb (.makeFunc fn #[] #[]) args=some v): Good P N W θ g ρ ⟨d,.makeFunc fn #[] #[],ty,pos,aft,gd⟩ v g:=by
 have i:some _=some v:=i
 injection i with i;subst i
 exact .val (u:=.func fn #[] #[]) j (by simp only[execOp,Instr.makeFunc,List.map_toArray,Array.map_empty];rfl) ⟨[.func fn #[] #[]],⟨rfl,rfl⟩,rfl⟩ (λ_ h=>h.elim)
theorem Yjq{T:TypeId}{x y:Operand}(V:∀T ti,tb T=some ti->TyOk P T ti)(Z:Obs W θ N g)(i:Fp tb (.index T x y) args=some v)(ha:Xbl W θ g ρ [x,y] args): Good P N W θ g ρ ⟨d,.index T x y,ty,pos,aft,gd⟩ v g:=by
 simp only[Fp] at i
 split at i<;>try cases i
 rename_i z e eb ar s k j ht
 split at i<;>try cases i
 rename_i hj
 split at i<;>cases i
 rename_i b hb
 obtain⟨t,u1,u2,Q⟩:=(V _ _ ht).u
 simp only at Q
 subst Q
 obtain⟨cs,o,I⟩:=ha.1.1
 obtain⟨o,_⟩:=o
 subst o
 have I:ρ x=.string ⟨s.toArray⟩:=I
 obtain⟨h3,_⟩:=Xcf ha.2.1.1
 obtain⟨n,rfl⟩:=Int.eq_ofNat_of_zero_le hj
 refine .val (u:=.int .u8 b.toNat) Z ?_ (int_V ?_) (λ_ h=>h.elim)
 . simp at hb
   have O:(ByteArray.mk s.toArray)[n]?=some b:=by
    obtain⟨hn,e⟩:=W0n.1 hb
    have hs:n<(ByteArray.mk s.toArray).size:=by show n<s.toArray.size;simpa using hn
    rw[getElem?_pos (ByteArray.mk s.toArray) n hs]
    show some (s.toArray[n]'_)=_
    simp[e]
   simp[execOp,I,h3,Instr.index,asIntOf,Xk6 u1,O]
 . have:=b.toNat_lt
   simp only[inR,IntKind.wrap,IntKind.bits,IntKind.signed];simp;omega
theorem Yca{a:AV}{v:Value}(h:Ycb a=true)(O:AV.V W θ a v): AV.C W θ a [v]:=by
 unfold Ycb at h
 split at h<;>try cases h
 all_goals (obtain⟨cs,i,e⟩:=O;first | (obtain⟨b,j,o⟩:=i;subst o;subst e;exact⟨b,j,rfl⟩) | (have I:=i;obtain⟨j,o⟩:=I;subst j;subst e;exact⟨rfl,o⟩) | (have i:cs=_:=i;subst i;subst e;exact rfl))
theorem Ykx: ∀ {l:List AV} {xs:List Operand} {a:AV},chA l=some a->Xbl W θ g ρ xs l->AV.C W θ a (xs.map ρ)/\∀i,a.ids i->∃y,g i=some y
 | [],_,_,h,_=>by cases h
 | [b],[x],a,h,j=>by
  simp only[chA] at h
  split at h<;>cases h
  rename_i o
  exact⟨Yca o j.1.1,j.1.2⟩
 | b::c::l,x::xs,a,h,j=>by
  simp only[chA] at h
  split at h<;>cases h
  rename_i c' o I
  obtain⟨O,Q⟩:=Ykx (l:=c::l) I j.2
  exact⟨⟨[ρ x],xs.map ρ,rfl,Yca o j.1.1,O⟩,λi hi=>hi.elim (j.1.2 i) (Q i)⟩
 | [_],[],_,_,h=>h.elim
 | [_],_::_::_,_,_,h=>h.2.elim
 | _::_::_,[],_,_,h=>h.elim
theorem Yev{f:Nat}{l:List Operand}{args:List AV}{a:AV}(i:Obs W θ N g)(ha:Xbl W θ g ρ l args)(h:chA args=some a): Good P N W θ g ρ ⟨d,.makeFunc (.func f) #[] l.toArray,ty,pos,aft,gd⟩ (.fm f a) g:=by
 obtain⟨j,o⟩:=Ykx h ha
 exact .val (u:=.func (.func f) #[] (l.map ρ).toArray) i (by simp only[execOp,Instr.makeFunc,List.map_toArray,Array.map_empty];rfl) ⟨[.func (.func f) #[] (l.map ρ).toArray],⟨_,j,rfl⟩,rfl⟩ o
theorem Yew{f o:Nat}{x:Operand}(j:Obs W θ N g)(ha:Xbl W θ g ρ [x] [.ptr o 0]): Good P N W θ g ρ ⟨d,.makeFunc (.func f) #[] #[x],ty,pos,aft,gd⟩ (.fn f o) g:=by
 obtain⟨b,I,O⟩:=Xjn ha.1.1
 exact .val (u:=.func (.func f) #[] #[.pointer (some ⟨b,0,none⟩)]) j (by simp only[execOp,Instr.makeFunc,List.map_toArray,Array.map_empty,W4m,List.map_nil,O];rfl) ⟨[.func (.func f) #[] #[.pointer (some ⟨b,0,none⟩)]],⟨b,I,rfl⟩,rfl⟩ (λi h=>by
  have h:i=o:=h
  subst h;exact ha.1.2 _ rfl)
end
end
section
section
variable{P:Program}{N:Nat->Prop}{W:GW}{θ:Loc}{g:Hp}{ρ:Operand->Value}
variable{tb:Nat->Option TI}{dd:Nat}{d:Option Nat}{ty:TypeId}{pos:String}{aft:Array Edge}{gd:Option (Nat×Bool)}{args:List AV}{v:AV}{us:List (Nat×Ob)}
theorem Xii{T:TypeId}{ti:TI}(o:TyOk P T ti){b off:Nat}{w:World}{y:AV}{cs:List Value}(I:AV.C W θ y cs)(Q:y.size=ti.z.size)(V:y.ag=ti.z.ag)(Z:y.ag=false->y.size=1)
 (O:∀j u,cs[j]?=some u->w.cell? ⟨b,off+j,none⟩=some u):(loadVar T ⟨b,off,none⟩).run P w=.ok (mkv y.ag cs) w:=by
 obtain⟨ii,v0,i1,i2,i3,i4,i5⟩:=o.i
 obtain⟨t,u1,u2,_⟩:=o.u
 have hl:=AV.c_len y I
 have h:=run_loadCells (P:=P) (b:=b) (off:=off) (w:=w) cs 0 #[] (λj v hj=>by simpa using O j v hj)
 have hs:(sizeOf T).run P w=.ok cs.length w:=by simp[sizeOf,typeInfo,program,bind,Sem.bind,Sem.run,pure,i1,i2,<-Q,hl]
 unfold loadVar
 rw[Sem.run_bind,Xmm u1 (u2.trans V.symm)]
 cases e:y.ag with
 | true =>
  simp only[Result.andThen_ok,if_true]
  rw[Sem.run_bind,hs]
  simp only[Result.andThen_ok]
  rw[Sem.run_bind]
  simp only[loadCells]
  rw[h]
  simp[mkv]
 | false =>
  obtain⟨c,rfl⟩:=Yf7 I (Z e)
  simpa [mkv] using run_load (P:=P) (O 0 c rfl)
theorem ag1{T:TypeId}{ti:TI}(i:TyOk P T ti)(h:ti.z.ag=false)(hp:∀a c,ti.z≠.pr a c): ti.z.size=1:=by
 cases e:ti.z<;>rw[e] at h hp<;>first | rfl | exact absurd rfl (hp _ _) | cases h
theorem Xvt{T:TypeId}{x:Operand}{ti:TI}(h:TyOk P T ti)(hp:∀a c,ti.z≠.pr a c)(Q:Obs W θ N g){b off:Nat}{y:AV}{cs:List Value}(V:ρ x=.pointer (some ⟨b,off,none⟩))(o:AV.C W θ y cs)(I:y.size=ti.z.size)(O:y.ag=ti.z.ag)
 (Z:∀j u,cs[j]?=some u->W.w.cell? ⟨b,off+j,none⟩=some u) (hi:∀i,y.ids i->∃k,g i=some k):Good P N W θ g ρ ⟨d,.load T x,ty,pos,aft,gd⟩ y g:=by
 have hr:=Xii h o I O (λe=>by rw[I];exact ag1 h (by rw[<-O];exact e) hp) Z
 refine .val Q ?_ (Ylg o) hi
 simp only[execOp,V,Instr.loadAt,Instr.sureAddr]
 rw[Sem.run_bind]
 show Result.andThen ((loadVar T ⟨b,off,none⟩).run P W.w) _=_
 rw[hr]
 rfl
theorem Xvh{u m w:List Value}{j:Nat}{v:Value}(h:m[j]?=some v): (u++(m++w))[u.length+j]?=some v:=by
 rw[W0s (by omega),W3b,W0r (by
  by_cases i:j<m.length
  . exact i
  . rw[W2b (by omega)] at h;cases h)]
 exact h
theorem Xq0{s:Nat}{i:Bool}{x:D}(h:x.size=s)(j:x.ag=i): (nb x).size=s/\(nb x).ag=i:=⟨by rw[Xoq,h],by rw[Yet,j]⟩
theorem Ynh{T:TypeId}{x:Operand}(hT:∀T ti,tb T=some ti->TyOk P T ti/\∀a c,ti.z≠.pr a c)(o:Obs W θ N g)(h:F tb dd g (.load T x) args=some (v,us))(ha:Xbl W θ g ρ [x] args):
 us=[]/\Good P N W θ g ρ ⟨d,.load T x,ty,pos,aft,gd⟩ v g:=by
 simp only[F] at h
 split at h<;>try cases h
 rename_i ti hti
 obtain⟨hk,hp⟩:=hT _ _ hti
 split at h<;>try cases h
 . split at h<;>cases h
   rename_i hf
   obtain⟨f1,f2⟩:=Xm7 hf
   obtain⟨b,off,e,I,h2,h3⟩:=Ypv ha.1.1
   exact⟨rfl,Xvt hk hp o I (Ylx h2) (Xq0 f1 f2).1 (Xq0 f1 f2).2 (λj u O=>(h3 j u O).1) (λi hi=>absurd hi (Xmt _ _))⟩
 . split at h<;>try cases h
   rename_i a Q
   split at h<;>cases h
   rename_i hs
   obtain⟨b,I,e⟩:=Xjn ha.1.1
   obtain⟨b',cs,T',r1,r2,r3,r4⟩:=o.r _ _ Q
   rw[I] at r1;injection r1 with r1;subst r1
   obtain⟨u,m,w,e1,e2,e3,V,Z,e6⟩:=Ybp hs r3
   refine⟨rfl,Xvt hk hp o e e3 V Z (λj c O=>?_) (λi hi=>o.ids _ _ i Q (e6 i hi))⟩
   rw[Xa9 r2,e1,<-e2]
   exact Xvh O
 . split at h<;>try cases h
   rename_i sz' xs Q
   split at h<;>try cases h
   rename_i hsz
   subst hsz
   split at h<;>try cases h
   rename_i y hy
   split at h<;>cases h
   rename_i z hz
   obtain⟨b,I,e⟩:=Yl9 ha.1.1
   obtain⟨b',cs,T',r1,r2,r3,r4,r5,r6,r7⟩:=o.r _ _ Q
   rw[I] at r1;injection r1 with r1;subst r1
   obtain⟨ce,he,_,hf⟩:=r6 _ _ hy
   obtain⟨u,m,w,e1,e2,e3,V,Z⟩:=Xtt hz he
   refine⟨rfl,Xvt hk hp o e (Ylx e3) (Xq0 V Z).1 (Xq0 V Z).2 (λj c O=>?_) (λi hi=>absurd hi (Xmt _ _))⟩
   rw[Xa9 r2,W4u]
   exact hf _ _ (by rw[e1,<-e2];exact Xvh O)
theorem Yoc{T:TypeId}(I:∀T ti,tb T=some ti->TyOk P T ti/\∀a c,ti.z≠.pr a c)(O:Obs W θ N g)(Q:∀b,W.size<=b->N b)(V:dd<1000000)(h:F tb dd g (.alloc T) args=some (v,us)):
 Good P N W θ g ρ ⟨d,.alloc T,ty,pos,aft,gd⟩ v (Xbg g us):=by
 simp only[F] at h
 split at h<;>cases h
 rename_i ti j Z
 obtain⟨o,hp⟩:=I _ _ j
 obtain⟨ii,v0,i1,i2,i3,i4,i5⟩:=o.i
 refine⟨_,_,.value (.pointer (some ⟨W.size,0,none⟩)),?_,Stp.push (c:=0) O Q V Z (.cells v0.cells T) (λ_=>True) (x:=.var (zA ti.z)) ⟨W.size,ti.z.zc,T,by simp,?_,Ydg o.z,λi=>.inr ⟨rfl,trivial⟩⟩ (λi hi=>absurd hi (Xh3 _ _)),
  .inr ⟨_,rfl,Xsd (by simp)⟩,λi hi=>⟨_,by subst hi;exact Xah _ _ _⟩⟩
 . have hz:(zeroValue T).run P W.w=.ok v0 W.w:=by simp[zeroValue,typeInfo,program,bind,Sem.bind,Sem.run,pure,i1,i3]
   simp only[execOp,Instr.alloc]
   rw[Sem.run_bind,Sem.run_bind,hz]
   rfl
 . rw[<-i4,Array.toArray_toList]
   exact Xbd ..
theorem Yn5{T:TypeId}{x:Operand}(O:Obs W θ N g)(Q:∀b,W.size<=b->N b)(V:dd<1000000)(h:F tb dd g (.box T x) args=some (v,us))(ha:Xbl W θ g ρ [x] args):
 Good P N W θ g ρ ⟨d,.box T x,ty,pos,aft,gd⟩ v (Xbg g us):=by
 simp only[F] at h
 split at h<;>try cases h
 rename_i a o
 split at h<;>cases h
 rename_i j
 obtain⟨Z,_⟩:=Xg0 j ha.1.1 (Xf9 j)
 refine⟨_,_,.value (.pointer (some ⟨W.size,0,none⟩)),rfl,Stp.push (c:=0) O Q V o (.cells (ρ x).cells T) (λ_=>True) (x:=.var a) ⟨W.size,(ρ x).cells.toList,T,by simp,?_,?_,λi=>.inr ⟨rfl,trivial⟩⟩ ha.1.2,
  .inr ⟨_,rfl,Xsd (by simp)⟩,λi hi=>⟨_,by subst hi;exact Xah _ _ _⟩⟩
 . rw[Array.toArray_toList]
   exact Xbd ..
 . exact AV.c_mono (Xeo _ _ _) a (λi hi=>if_neg λe=>by obtain⟨y,I⟩:=ha.1.2 i hi;rw[e,o] at I;cases I) Z
theorem Xml{T:TypeId}{ti:TI}(h:TyOk P T ti){b off:Nat}{w:World}{U:TypeId}{c:List Value}{v:Value}(hb:w.heap[b]?=some (.cells c.toArray U (0,0)))
 (hs:v.cells.toList.length=ti.z.size) (V:off+ti.z.size<=c.length) (j:∀u∈v.cells.toList,Xfb u=true) :
 (storeVar T ⟨b,off,none⟩ v).run P w=.ok () (Xgx w b (.cells (spl c off v.cells.toList).toArray U (0,0))):=by
 obtain⟨Z,u,o,I,e3,_⟩:=h.i
 have O:(sizeOf T).run P w=.ok ti.z.size w:=by simp[sizeOf,typeInfo,program,bind,Sem.bind,Sem.run,pure,o,I]
 unfold storeVar
 rw[Sem.run_bind,O]
 have Q:v.cells.size=ti.z.size:=by simpa using hs
 simp only[Result.andThen_ok,Q]
 simp only[ne_eq,not_true,if_false]
 have:=Xbz (P:=P) (off:=off) v.cells.toList w 0 c hb (by rw[hs];omega) j
 simpa using this
theorem Xt9{T:TypeId}{x y:Operand}{ti:TI}(h:TyOk P T ti){b off:Nat}{U:TypeId}{c:List Value}(i:ρ x=.pointer (some ⟨b,off,none⟩))(hb:W.w.heap[b]?=some (.cells c.toArray U (0,0)))
 (hs:(ρ y).cells.toList.length=ti.z.size) (j:off+ti.z.size<=c.length) (o:∀u∈(ρ y).cells.toList,Xfb u=true) :
 (execOp ρ ⟨none,.store T x y,ty,pos,aft,gd⟩).run P W.w=.ok .skip (W.put b (.cells (spl c off (ρ y).cells.toList).toArray U (0,0)) (λ_=>True)).w:=by
 simp only[execOp,i,Instr.storeAt,Instr.sureAddr]
 rw[Sem.run_bind,Sem.run_bind]
 show Result.andThen (Result.andThen (Result.ok _ _) _) _=_
 simp only[Result.andThen_ok]
 rw[Xml h hb hs j o]
 rfl
theorem Ymr{T:TypeId}{x y:Operand}(hT:∀T ti,tb T=some ti->TyOk P T ti/\∀a c,ti.z≠.pr a c)(hO:Obs W θ N g)(I:F tb dd g (.store T x y) args=some (v,us))(ha:Xbl W θ g ρ [x,y] args):
 Good P N W θ g ρ ⟨none,.store T x y,ty,pos,aft,gd⟩ v (Xbg g us):=by
 simp only[F] at I
 split at I<;>try cases I
 rename_i ti hti
 obtain⟨hk,hp⟩:=hT _ _ hti
 split at I<;>try cases I
 . rename_i o off v1
   split at I<;>try cases I
   rename_i a hg
   split at I<;>cases I
   rename_i a' Q hup
   rw[W0g] at Q
   obtain⟨V,Q⟩:=Q
   have Q:=W0d Q
   obtain⟨b,h1,e⟩:=Xjn ha.1.1
   obtain⟨b',cs,T',r1,r2,r3,r4⟩:=hO.r _ _ hg
   rw[h1] at r1;injection r1 with r1;subst r1
   obtain⟨hv,_⟩:=Xg0 V ha.2.1.1 (Xf9 V)
   have O:=AV.c_len v1 hv
   obtain⟨u,m,w,e1,e2,e3,e4,e5⟩:=Ybj hv hup r3
   have Z:=Xt9 (P:=P) (ty:=ty) (pos:=pos) (aft:=aft) (gd:=gd) hk e r2 (by rw[O,Q]) (by rw[e1];simp;omega) (AV.c_one v1 hv)
   have hspl:spl cs off (ρ y).cells.toList=u++((ρ y).cells.toList++w):=by rw[e1,<-e2];exact Xp7 _ _ _ _ (by rw[O,e3])
   have hle:=Xfc W b cs (spl cs off (ρ y).cells.toList) T' (λ_=>True) r2 (λi v hA=>absurd (r4 i) hA)
   refine⟨_,θ,_,Z,Stp.put hO (t:=o) (x:=.var a') hg rfl h1 r2 (λi v hA=>absurd (r4 i) hA) (λ_ _ _=>rfl) (λ_ _=>rfl) h1 (λi z hz=>?_) (λi z hz=>?_) ⟨b,_,T',h1,Xaw _ _ _ (Xax r2),?_,λi=>⟨r4 i,λ_=>trivial⟩⟩ (λi hi=>?_),.inl ⟨rfl,rfl⟩,λi hi=>hi.elim⟩
   . rcases Xaf hz with ⟨f1,f2⟩ | ⟨f1,f2⟩
     . exact .inl ⟨f1,f2⟩
     . exact .inr (.inr ⟨f2,f1⟩)
   . by_cases hio:i=o
     . subst hio;exact⟨_,Xah _ _ _⟩
     . exact⟨z,by rw[show Xbg g [(o,Ob.var a')]=upd g o (.var a') from rfl,Xak hio];exact hz⟩
   . have:=AV.c_mono hle a' (λ_ _=>rfl) e4
     rw[<-hspl] at this
     exact this
   . rcases e5 i hi with h | h
     . exact hO.ids _ _ i hg h
     . exact ha.2.1.2 i h
 . rename_i o sz j v1
   split at I<;>try cases I
   rename_i sz' xs hg
   split at I<;>try cases I
   rename_i x1 hx1
   split at I<;>cases I
   rename_i hc
   obtain⟨V,rfl,hs1,hs2,hs3,hj⟩:=hc
   obtain⟨b,h1,e⟩:=Yl9 ha.1.1
   obtain⟨b',cs,T',r1,r2,r3,r4,r5,r6,r7⟩:=hO.r _ _ hg
   rw[h1] at r1;injection r1 with r1;subst r1
   obtain⟨hv,_⟩:=Xg0 V ha.2.1.1 (Xf9 V)
   have O:=AV.c_len v1 hv
   have hjc:j*sz+sz<=cs.length:=by
    rw[r3,<-W2k];exact W0k _ (by omega)
   have Z:=Xt9 (P:=P) (ty:=ty) (pos:=pos) (aft:=aft) (gd:=gd) hk e r2 (by rw[O,hs1,hs3]) (by rw[hs3];exact hjc) (AV.c_one v1 hv)
   have hle:=Xfc W b cs (spl cs (j*sz) (ρ y).cells.toList) T' (λ_=>True) r2 (λi v hA=>absurd (r7 i) hA)
   have hsp:∀q,(spl cs (j*sz) (ρ y).cells.toList)[q]?=if j*sz<=q/\q<j*sz+sz then (ρ y).cells.toList[q-j*sz]? else cs[q]?:=λq=>by
    rw[Xd0 _ _ _ _ (by rw[O,hs1];exact hjc),O,hs1]
   refine⟨_,θ,_,Z,Stp.put hO (t:=o) (x:=.arr sz (xs.set j x1)) hg rfl h1 r2 (λi v hA=>absurd (r7 i) hA) (λ_ _ _=>rfl) (λ_ _=>rfl) h1 (λi z hz=>?_) (λi z hz=>?_)
    ⟨b,_,T',h1,Xaw _ _ _ (Xax r2),by rw[W2i,Xcg];exact r3,r4,by simpa using r5,λi x hx=>?_,λi=>⟨r7 i,λ_=>trivial⟩⟩ (λi hi=>hi.elim),.inl ⟨rfl,rfl⟩,λi hi=>hi.elim⟩
   . rcases Xaf hz with ⟨f1,f2⟩ | ⟨f1,f2⟩
     . exact .inl ⟨f1,f2⟩
     . exact .inr (.inr ⟨f2,f1⟩)
   . by_cases hio:i=o
     . subst hio;exact⟨_,Xah _ _ _⟩
     . exact⟨z,by rw[show Xbg g [(o,Ob.arr sz (xs.set j x1))]=upd g o (.arr sz (xs.set j x1)) from rfl,Xak hio];exact hz⟩
   . rw[W2i]
     by_cases hij:i=j
     . subst hij
       rw[W2x hj] at hx
       injection hx with hx;subst hx
       refine⟨_,D.mono hle _ (Xme hx1 hv),hs2,λq c hq=>?_⟩
       have hql:q<sz:=by
        rw[<-hs1,<-O]
        by_cases h:q<(ρ y).cells.toList.length
        . exact h
        . rw[W2b (by omega)] at hq;cases hq
       rw[hsp,if_pos (by omega),W3b]
       exact hq
     . rw[W2a (λh=>hij h.symm)] at hx
       obtain⟨e1,e2,e3,e4⟩:=r6 i x hx
       refine⟨e1,D.mono hle _ e2,e3,λq c hq=>?_⟩
       have hql:q<sz:=by
        rw[<-e3,<-D.at_len x e2]
        by_cases h:q<e1.length
        . exact h
        . rw[W2b (by omega)] at hq;cases hq
       rw[hsp,if_neg ?_]
       . exact e4 q c hq
       . rcases W7d hij with h | h
         . have:i*sz+sz<=j*sz:=by rw[<-W2k];exact W0k _ (by omega)
           omega
         . have:j*sz+sz<=i*sz:=by rw[<-W2k];exact W0k _ (by omega)
           omega
end
end
section
def AtL(W:GW)(sz:Nat)(xs:List D)(cs:List Value): Prop:=∀i x,xs[i]?=some x->∃e,D.At W x e/\x.size=sz/\∀j v,e[j]?=some v->cs[i*sz+j]?=some v
theorem Xba{α:Type _}{l:List α}{i:Nat}{x:α}(h:l[i]?=some x): i<l.length:=by
 by_cases j:i<l.length
 . exact j
 . rw[W2b (by omega)] at h;cases h
theorem AtL.mono{W W':GW}{sz:Nat}{xs:List D}{cs:List Value}(l:LeF W W')(h:AtL W sz xs cs): AtL W' sz xs cs:=λi x hi =>
 let ⟨e,j,o,I⟩:=h i x hi;⟨e,D.mono l x j,o,I⟩
theorem AtL.ext{W:GW}{sz:Nat}{xs:List D}{cs I:List Value}(h:AtL W sz xs cs)(hd:∀q v,q<xs.length*sz->cs[q]?=some v->I[q]?=some v): AtL W sz xs I:=λi x hi=>by
 obtain⟨e,O,Q,V⟩:=h i x hi
 refine⟨e,O,Q,λj v T=>hd _ v ?_ (V j v T)⟩
 have o:=Xba T
 rw[D.at_len x O,Q] at o
 have Z:=Xba hi
 have:i*sz+sz<=xs.length*sz:=by rw[<-W2k];exact W0k _ (by omega)
 omega
theorem AtL.app{W:GW}{sz:Nat}{xs ys:List D}{cs T:List Value}(h:AtL W sz xs cs)(k:AtL W sz ys T)(V:cs.length=xs.length*sz): AtL W sz (xs++ys) (cs++T):=λi x hi=>by
 by_cases Z:i<xs.length
 . rw[W0r Z] at hi
   obtain⟨e,o,I,O⟩:=h i x hi
   exact⟨e,o,I,λj v Q=>by
    have:=O j v Q
    rw[W0r (Xba this)];exact this⟩
 . rw[W0s (by omega)] at hi
   obtain⟨e,o,I,O⟩:=k _ x hi
   refine⟨e,o,I,λj v Q=>?_⟩
   have:=O j v Q
   obtain⟨q,rfl⟩:=Nat.le.dest (W5w.1 Z)
   rw[W3b] at this
   rw[W0s (by rw[V,W1c];omega),V,show (xs.length+q)*sz+j-xs.length*sz=q*sz+j by rw[W1c];omega]
   exact this
theorem AtL.row{W:GW}{sz b off:Nat}{xs:List D}{cs:List Value}(h:AtL W sz xs cs)(hf:∀q v,q<xs.length*sz->cs[q]?=some v->Fr W b (off+q) v): D.Row W b sz off xs :=
 D.row_of λi x hi=>by
  obtain⟨e,I,O,T⟩:=h i x hi
  refine⟨e,I,O,λj v Q=>?_⟩
  rw[W4u]
  refine hf _ v ?_ (T j v Q)
  have o:=Xba Q
  rw[D.at_len x I,O] at o
  have V:=Xba hi
  have:i*sz+sz<=xs.length*sz:=by rw[<-W2k];exact W0k _ (by omega)
  omega
theorem Xf6{W:GW}{b sz:Nat}: ∀ {xs:List D} {off:Nat},D.Row W b sz off xs->∃cs:List Value,cs.length=xs.length*sz/\(∀j u,cs[j]?=some u->Fr W b (off+j) u)/\(∀u∈cs,Xfb u=true)/\AtL W sz xs cs
 | [],off,_=>⟨[],by simp,λj u h=>by simp at h,λu h=>by simp at h,λi x h=>by simp at h⟩
 | x::xs,off,⟨⟨e,I,Q,V⟩,Z⟩=>by
  obtain⟨cs,k1,k2,k3,k4⟩:=Xf6 Z
  have T:e.length=sz:=by rw[D.at_len x I,Q]
  have one:AtL W sz [x] e:=λi y hi=>by
   cases i with
   | zero=>simp at hi;subst hi;exact⟨e,I,Q,λj v o=>by simpa using o⟩
   | succ i=>simp at hi
  refine⟨e++cs,by rw[W0c,T,k1,W0t,W2k];omega,λj u o=>?_,λu hu=>?_,by simpa using one.app k4 (by simpa using T)⟩
  . by_cases O:j<e.length
    . rw[W0r O] at o;exact V j u o
    . rw[W0s (by omega)] at o
      have:=k2 _ u o
      rwa[show off+sz+(j-e.length)=off+j by omega] at this
  . rcases W1r.1 hu with h | h
    . exact D.at_one x I u h
    . exact k3 u h
def Xgz(z:List Value): Nat->List Value
 | 0=>[]
 | k+1=>z++Xgz z k
theorem Xd2(z:List Value)(k:Nat): (Xgz z k).length=k*z.length:=by
 induction k with
 | zero=>simp[Xgz]
 | succ k h=>simp only[Xgz,W0c,h,W2k];omega
theorem Xk9(z:List Value)(k i j:Nat)(hi:i<k)(h:j<z.length): (Xgz z k)[i*z.length+j]?=z[j]?:=by
 induction k generalizing i with
 | zero=>omega
 | succ k o =>
  simp only[Xgz]
  cases i with
  | zero=>rw[W4n,W1l,W0r h]
  | succ i =>
   rw[W2k,W0s (by omega),show i*z.length+z.length+j-z.length=i*z.length+j by omega]
   exact o i (by omega)
theorem Xkr(z:List Value)(k:Nat)(h:0<z.length)(zero:Array Value)(Q:zero.toList=z): (Array.range (k*z.length)).map (λi=>zero[i%zero.size]!)=(Xgz z k).toArray:=by
 apply Array.ext'
 apply W4c
 intro q
 have I:zero.size=z.length:=by rw[<-Q];simp
 by_cases hq:q<k*z.length
 . have O:=W2q q z.length
   have T:=W1s q h
   have hd:q/z.length<k:=W4x (by rw[W1h];exact hq)
   have:=Xk9 z k (q/z.length) (q%z.length) hd T
   rw[show q/z.length*z.length+q%z.length=q by rw[W1h];exact O] at this
   simp only[Array.toList_map,Array.toList_range,W1q]
   rw[this,List.getElem?_range hq]
   have j:zero[q%z.length]?=z[q%z.length]?:=by rw[<-Q];simp
   simp only[W3g,I]
   rw[W0e T] at j |-
   have o:q%z.length<zero.size:=by omega
   rw[W6y o] at j
   rw[getElem!_pos zero _ o]
   exact j
 . rw[W2b (by simp;omega),W2b (by simp[Xd2];omega)]
theorem D.size_pos: ∀x:D,0<x.size:=λx=>by
 induction x using D.ind with
 | leaf x i j=>cases x<;>first | exact absurd rfl (i _) | exact absurd rfl (j _ _) | exact W7o
 | st a h=>exact h
 | pr a c h _=>exact W0x h (W5o _ _)
theorem D.zc_len(x:D): x.zc.length=x.size:=by
 induction x using D.ind with
 | leaf x j o=>cases x<;>first | exact absurd rfl (j _) | exact absurd rfl (o _ _) | rfl
 | st a I=>exact I
 | pr a c h i=>rw[D.zc,W0c,h,i];rfl
section
variable{P:Program}{N:Nat->Prop}{W:GW}{θ:Loc}{g:Hp}{ρ:Operand->Value}
variable{tb:Nat->Option TI}{dd:Nat}{d:Option Nat}{ty:TypeId}{pos:String}{aft:Array Edge}{gd:Option (Nat×Bool)}{args:List AV}{v:AV}{us:List (Nat×Ob)}
theorem Yne{T:TypeId}{x y:Operand}(hT:∀T ti,tb T=some ti->TyOk P T ti/\∀a c,ti.z≠.pr a c)(hO:Obs W θ N g)(hN:∀b,W.size<=b->N b)(hB:dd<1000000)(I:F tb dd g (.makeSlice T x y) args=some (v,us))(ha:Xbl W θ g ρ [x,y] args):
 Good P N W θ g ρ ⟨d,.makeSlice T x y,ty,pos,aft,gd⟩ v (Xbg g us):=by
 simp only[F] at I
 split at I<;>try cases I
 rename_i ti k m k' c V hg
 obtain⟨hk,hp⟩:=hT _ _ V
 obtain⟨t,u1,_,u3⟩:=hk.u
 split at I<;>try cases I
 rename_i sz xs0 hz
 rw[hz] at u3
 obtain⟨E,e,h,Z,ii,v0,i1,i2,i3,i4,i5⟩:=u3
 subst e
 split at I<;>cases I
 rename_i hc
 obtain⟨h0,hmc,hr1,Q⟩:=hc
 obtain⟨e1,_⟩:=Xcf ha.1.1
 obtain⟨e2,_⟩:=Xcf ha.2.1.1
 have O:ti.e.zc.length=sz:=by rw[D.zc_len,h]
 have hpos:0<sz:=by rw[h];exact D.size_pos _
 have o:=Xkr ti.e.zc c.toNat (by omega) v0.cells i5
 rw[O] at o
 refine⟨W.push (.cells (Xgz ti.e.zc c.toNat).toArray E) (λ_=>True),_,.value (.slice (some ⟨W.size,0,none⟩) m.toNat c.toNat),?_,Stp.push (c:=c.toNat) hO hN hB hg (.cells (Xgz ti.e.zc c.toNat).toArray E) (λ_=>True)
  (x:=.arr sz (List.replicate m.toNat ti.e)) ⟨W.size,Xgz ti.e.zc c.toNat,E,by simp,Xbd ..,by simp[Xd2,O],by simpa using Q,by simp;omega,λi x hi=>?_,λi=>.inr ⟨rfl,trivial⟩⟩ (λi hi=>hi.elim),
  .inr ⟨_,rfl,[.slice (some ⟨W.size,0,none⟩) m.toNat c.toNat],⟨W.size,some ⟨W.size,0,none⟩,by simp,by simp;omega,by simpa using Q,by simp,λ_=>by rw[W4n]⟩,rfl⟩,λi hi=>⟨_,by subst hi;exact Xah _ _ _⟩⟩
 . have:=run_make (P:=P) W.w T E ii v0 u1 i1 i4 k k' m c h0 hmc (by
    rw[i3]
    have h2:((c.toNat*ti.eb:Nat):Int)<=((140737488355328:Nat):Int):=Int.ofNat_le.2 hr1
    rw[W1h,W2n,W2y (by omega)] at h2
    omega) (by omega)
   simp only[execOp,e1,e2]
   rw[Sem.run_bind,this,i2,<-h]
   have h2:madeCells v0.cells (c.toNat*sz)=(Xgz ti.e.zc c.toNat).toArray:=o
   rw[h2]
   rfl
 . have hi':=W4h (a:=ti.e) (n:=m.toNat) (i:=i)
   rw[hi'] at hi
   split at hi<;>cases hi
   rename_i hlt
   refine⟨ti.e.zc,D.at_zc _ Z,h.symm,λj w hj=>?_⟩
   rw[<-O,Xk9 _ _ _ _ (by omega) (Xba hj)]
   exact hj
theorem Xrd(sz:Nat): ∀ {ps:List (Nat×Operand)} {k:Nat} {pre rest:List Value},Xsk k ps=true->pre.length=k*sz->rest.length=ps.length*sz->(∀x∈ps,(ρ x.2).cells.toList.length=sz) ->
 Instr.fill (λi=>some (i*sz,sz)) (pre++rest).toArray (ps.map λx=>(x.1,ρ x.2))=some (pre++ps.flatMap λx=>(ρ x.2).cells.toList).toArray
 | [],k,pre,rest,_,_,j,_=>by
  have:rest=[]:=W0q (by simpa using j)
  subst this;rfl
 | (i,x)::ps,k,pre,rest,hi,hp,j,T=>by
  simp only[Xsk,W0g] at hi
  have e:=W0d hi.1
  subst e
  have o:=T (i,x) (W0l ..)
  have I:(ρ x).cells.size=sz:=by simpa using o
  have V:sz<=rest.length:=by rw[j,W0t,W2k];omega
  have h:rest=rest.take sz++rest.drop sz:=(W3q ..).symm
  have O:(rest.take sz).length=sz:=by rw[W0f];omega
  simp only[W4m,Instr.fill]
  have Q:(decide ((ρ x).cells.size≠sz)||decide (i*sz+(ρ x).cells.size>(pre++rest).toArray.size))=false:=by
   simp[I,hp];omega
  rw[if_neg (by rw[Q];simp),Xnr]
  have:spl (pre++rest) (i*sz) (ρ x).cells.toList=(pre++(ρ x).cells.toList)++rest.drop sz:=by
   rw[h,<-hp,Xp7 _ _ _ _ (by rw[o,O]),<-h];simp
  rw[this,Xrd sz hi.2 (by rw[W0c,hp,o,W2k]) (by rw[W1k,j,W0t,W2k];omega) (λy Z=>T y (W0o _ Z))]
  simp
theorem Ybn{z:D}{sz:Nat}: ∀ {xs:List D} {asx:List AV} {o:List Operand},Ydq z sz asx=some xs->Xbl W θ g ρ o asx->(∀x∈o,(ρ x).cells.toList.length=sz)/\AtL W sz xs (o.flatMap λx=>(ρ x).cells.toList)/\xs.length=o.length
 | xs,[],[],h,_=>by simp only[Ydq] at h;injection h with h;subst h;exact⟨λx h=>by simp at h,λi x h=>by simp at h,rfl⟩
 | xs,a::asx,x::o,h,ha=>by
  simp only[Ydq] at h
  split at h<;>try cases h
  rename_i y hy
  split at h<;>try cases h
  rename_i T
  split at h<;>cases h
  rename_i ys Q
  simp only[W0g,W3t] at T
  obtain⟨⟨⟨hp,O⟩,I⟩,hc3⟩:=T
  have O:=W0d O
  have I:=W0d I
  obtain⟨k1,k2,k3⟩:=Ybn Q ha.2
  obtain⟨V,_⟩:=Xg0 hp ha.1.1 (Xf9 hp)
  have Z:=AV.c_len a V
  have one:AtL W sz [y] (ρ x).cells.toList:=λi u hi=>by
   cases i with
   | zero=>simp at hi;subst hi;exact⟨_,Xme hy V,O,λj v hj=>by simpa using hj⟩
   | succ i=>simp at hi
  refine⟨λu hu=>?_,?_,by simp[k3]⟩
  . rcases W1i.1 hu with h | h
    . subst h;rw[Z,I]
    . exact k1 u h
  . simpa using one.app k2 (by simp[Z,I])
 | _,[],_::_,_,ha=>ha.elim
 | _,_::_,[],_,ha=>ha.elim
theorem Yn7{T n:Nat}{ps:Array (Nat×Operand)}(hT:∀T ti,tb T=some ti->TyOk P T ti/\∀a c,ti.z≠.pr a c)(hO:Obs W θ N g)(O:Fp tb (.buildSlice T n ps) args=some v)(ha:Xbl W θ g ρ (ps.toList.map (·.2)) args):
 Good P N W θ g ρ ⟨d,.buildSlice T n ps,ty,pos,aft,gd⟩ v g:=by
 simp only[Fp] at O
 split at O<;>try cases O
 rename_i ti hti
 obtain⟨hk,hp⟩:=hT _ _ hti
 obtain⟨t,u1,_,u3⟩:=hk.u
 split at O<;>try cases O
 rename_i sz xs0 hz
 rw[hz] at u3
 obtain⟨E,e,j,hez,ii,v0,i1,i2,i3,i4,i5⟩:=u3
 subst e
 have key:∀xs,(Nat.ble (n*sz) 16777216&&Nat.beq ps.size n&&Xsk 0 ps.toList)=true->Ydq ti.e sz args=some xs ->
  ∃cs:List Value,(execOp ρ ⟨d,.buildSlice T n ps,ty,pos,aft,gd⟩).run P W.w=.ok (.value (.slice (some ⟨W.size,0,none⟩) n n)) (W.push (.cells cs.toArray E) (λ_=>False)).w/\AtL W sz xs cs/\xs.length=n/\n*sz<=16777216:=by
  intro xs hc hxs
  simp only[W0g] at hc
  obtain⟨⟨Q,o⟩,hc3⟩:=hc
  have Q:n*sz<=16777216:=W1g Q
  have o:ps.size=n:=W0d o
  obtain⟨k1,k2,k3⟩:=Ybn hxs ha
  have Z:ti.e.zc.length=sz:=by rw[D.zc_len,j]
  have I:0<sz:=by rw[j];exact D.size_pos _
  have hpl:ps.toList.length=n:=by simpa using o
  have hf:=Xrd (ρ:=ρ) sz (ps:=ps.toList) (k:=0) (pre:=[]) (rest:=Xgz ti.e.zc n) hc3 (by simp) (by rw[Xd2,Z,hpl]) (λx hx=>k1 _ (W2l.2 ⟨x,hx,rfl⟩))
  simp only[W3u] at hf
  refine⟨_,?_,k2,by rw[k3,W0i,hpl],Q⟩
  have hn1:¬(16777216<n*sz):=by omega
  have hfm:((ps.toList.map (·.2)).flatMap λx=>(ρ x).cells.toList)=ps.toList.flatMap λx=>(ρ x.2).cells.toList:=by rw[List.flatMap_map]
  rw[hfm]
  simp only[execOp]
  rw[Sem.run_bind]
  suffices h:(Instr.buildSlice T n (ps.map λx=>(x.1,ρ x.2))).run P W.w=.ok (.slice (some ⟨W.size,0,none⟩) n n) (W.push (.cells (ps.toList.flatMap λx=>(ρ x.2).cells.toList).toArray E) (λ_=>False)).w by
   rw[h];rfl
  by_cases h0:n*sz=0
  . have hn0:n=0:=by rcases Nat.mul_eq_zero.1 h0 with h | h;exact h;omega
    subst hn0
    have hps:ps=#[]:=Array.eq_empty_of_size_eq_zero o
    subst hps
    simp[Instr.buildSlice,run_underlying u1,sizeOf,typeInfo,i1,i2,<-j,Instr.fill,newRow,Array.range_zero']
    rfl
  . have hz2:(Array.range (n*sz)).map (λq=>v0.cells[q%v0.cells.size]!)=(Xgz ti.e.zc n).toArray:=by
     have:=Xkr ti.e.zc n (by omega) v0.cells i5
     rw[Z] at this;exact this
    simp[Instr.buildSlice,run_underlying u1,sizeOf,typeInfo,zeroValue,i1,i2,i4,<-j,hn1,h0,hz2,newRow,hf]
    rfl
 have fin:∀xs,(Nat.ble (n*sz) 16777216&&Nat.beq ps.size n&&Xsk 0 ps.toList)=true->Ydq ti.e sz args=some xs ->
  (∀cs:List Value,AtL W sz xs cs->xs.length=n->n*sz<=16777216->AV.V (W.push (.cells cs.toArray E) (λ_=>False)) θ v (.slice (some ⟨W.size,0,none⟩) n n))->(∀i,¬v.ids i)->Good P N W θ g ρ ⟨d,.buildSlice T n ps,ty,pos,aft,gd⟩ v g:=by
  intro xs h1 h2 hv hi
  obtain⟨cs,k1,k2,k3,k4⟩:=key xs h1 h2
  exact⟨_,θ,_,k1,Stp.push0 hO _ _,.inr ⟨_,rfl,hv cs k2 k3 k4⟩,λi h=>absurd h (hi i)⟩
 split at O<;>cases O
 . rename_i xs h1 h2
   refine fin xs h1 h2 (λcs hc hn hL=>?_) (λ_ h=>h)
   have I:0<sz:=by rw[j];exact D.size_pos _
   have hnl:n<=n*sz:=W4i n I
   subst hn
   refine⟨_,⟨_,rfl,by omega,.inr ⟨W.size,rfl,(hc.mono (Xeo _ _ _)).row λq u hq hu=>⟨?_,?_⟩⟩⟩,rfl⟩
   . rw[W1l,<-hu];exact Xa9 (Xbd ..) q
   . rintro(h | ⟨_,h⟩)
     . exact absurd (W.hA _ _ h) (W7k _)
     . exact h
end
end
section
def GW.tick(W:GW): GW where
 w:=W.w.drew
 A:=W.A
 hA:=W.hA
section
variable{P:Program}{N:Nat->Prop}{W:GW}{θ:Loc}{g:Hp}{ρ:Operand->Value}
variable{tb:Nat->Option TI}{dd:Nat}{d:Option Nat}{ty:TypeId}{pos:String}{aft:Array Edge}{gd:Option (Nat×Bool)}{args:List AV}{v:AV}{us:List (Nat×Ob)}
theorem Xdy(W:GW): LeF W W.tick:=λ_ _ _ h=>h
theorem Stp.tick(h:Obs W θ N g): Stp N W W.tick θ θ g g where
 os:=_root_.rfl
 out:=_root_.rfl
 tape:=_root_.rfl
 size:=W0a _
 same:=λ_ _ _=>_root_.rfl
 A:=λ_ _ _ _=>W4d
 le:=Xdy W
 th:=λ_ _ _=>_root_.rfl
 hi:=λ_ _=>_root_.rfl
 obs:={ r:=λo x i=>(h.r o x i).keep (Xdy W) _root_.rfl (λ_ _=>_root_.rfl) (λ_ _ _=>⟨_root_.rfl,λ_ h=>h⟩),new:=h.new,dis:=h.dis,ids:=h.ids }
 dom:=λ_ y h=>⟨y,h⟩
theorem Stp.trans{W W1 W2:GW}{θ j o:Loc}{g T V:Hp}(h:Stp N W W1 θ j g T)(k:Stp N W1 W2 j o T V): Stp N W W2 θ o g V where
 os:=k.os.trans h.os
 out:=k.out.trans h.out
 tape:=k.tape.trans h.tape
 size:=W0m h.size k.size
 same:=λb hb I=>(k.same b (W0x hb h.size) I).trans (h.same b hb I)
 A:=λb hb I i=>(k.A b (W0x hb h.size) I i).trans (h.A b hb I i)
 le:=h.le.trans k.le
 th:=λi y O=>let ⟨z,Q⟩:=h.dom i y O;(k.th i z Q).trans (h.th i y O)
 hi:=λi hi=>(k.hi i hi).trans (h.hi i hi)
 obs:=k.obs
 dom:=λi y O=>let ⟨z,Q⟩:=h.dom i y O;k.dom i z Q
theorem Xex{T E:TypeId}{ti:TI}{O:TypeInfo}{v0:Value}(u1:P.underlying T=some (.slice E))(i1:P.info? E=some O)(i2:O.size=ti.e.size)(i3:O.bytes=ti.eb)(i4:O.zero=some v0)(i5:v0.cells.toList=ti.e.zc)
 {p:Option Addr} {m c k c2:Nat} {q:Option Addr} {olds news:List Value} (hm:m<=c) (hp:c=0\/∃b,p=some ⟨b,0,none⟩) (ho:olds.length=m*ti.e.size)
 (hor:∀b,p=some ⟨b,0,none⟩->∀j u,olds[j]?=some u->W.w.cell? ⟨b,j,none⟩=some u) (hn:news.length=k*ti.e.size) (hnr:k=0\/∃b off,q=some ⟨b,off,none⟩/\∀j u,news[j]?=some u->W.w.cell? ⟨b,off+j,none⟩=some u)
 (hone:∀u∈news,Xfb u=true) (hr:Xho (m+k) ti) (hk2:k<=c2) :
 (k=0/\(Builtin.append_ #[T,T] ty #[.slice p m c,.slice q k c2]).run P W.w=.ok (.slice p m c) W.w) \/
 (0<k/\m+k<=c/\∀b cs T',p=some ⟨b,0,none⟩->W.w.heap[b]?=some (.cells (cs:List Value).toArray T' (0,0))->cs.length=c*ti.e.size ->
  (Builtin.append_ #[T,T] ty #[.slice p m c,.slice q k c2]).run P W.w=.ok (.slice p (m+k) c) (Xgx W.w b (.cells (spl cs (m*ti.e.size) news).toArray T' (0,0)))) \/
 (0<k/\∃c' zs,m+k<=c'/\c'<9223372036854775808/\(olds++news++zs).length=c'*ti.e.size /\
  (Builtin.append_ #[T,T] ty #[.slice p m c,.slice q k c2]).run P W.w=.ok (.slice (some ⟨W.size,0,none⟩) (m+k) c') (W.tick.w.alloc (.cells (olds++news++zs).toArray E))):=by
 rcases W2v k with hk | hk
 . subst hk
   left
   refine⟨rfl,?_⟩
   have hn0:news=[]:=W0q (by simpa using hn)
   cases p<;>cases q<;>simp[Builtin.append_,run_underlying u1,sizeOf,typeInfo,i1,Builtin.lenOf,Builtin.firstCells,loadCells,loadCellsFrom,storeCells,hm]
 . right
   rcases hnr with h | ⟨b2,o,hq,hnc⟩
   . omega
   subst hq
   have I:news.length=k*O.size:=by rw[hn,i2]
   have Q:∀j u,news[j]?=some u->W.w.cell? ((⟨b2,o,none⟩:Addr).add j)=some u:=λj u hj=>by rw[add0];exact hnc j u hj
   by_cases i:m+k<=c
   . left
     refine⟨hk,i,λb cs T' hpb hb hl=>?_⟩
     subst hpb
     have V:m*O.size+news.length<=cs.length:=by
      rw[I,hl,i2,<-W1c];exact W0k _ i
     have hf:=run_firstCells_some (P:=P) W.w O.size k ⟨b2,o,none⟩ k c2 news I Q
     have hst:=Xbz (P:=P) (off:=0+m*O.size) news W.w 0 cs hb (by omega) hone
     simp only[W2i,W1l] at hst
     rw[<-i2]
     simp[Builtin.append_,run_underlying u1,sizeOf,typeInfo,i1,Builtin.lenOf,i,hf,add0,hst]
   . right
     refine⟨hk,grownCap W.w (m+k) c E,(Builtin.zeroCells v0.cells (grownCap W.w (m+k) c E-(m+k))).toList,grownCap_ge ..,?_,?_,?_⟩
     . have hlt:=hr.2
       have:=W1s (W.w.tape W.w.drawn (.appendCap (m+k) c E)) (show 0<2^63-(m+k) by omega)
       simp only[grownCap,Question.cut] at *
       omega
     . have hge:=grownCap_ge W.w (m+k) c E
       have hzs:v0.cells.size=ti.e.size:=by rw[<-D.zc_len,<-i5];simp
       rw[W0c,W0c,ho,hn,W7u,size_zeroCells,hzs,<-W1c,<-W1c]
       congr 1
       omega
     . have V:=growslice_fits (old:=c) (need:=m+k) (bytes:=O.bytes) (by omega) (by rw[i3];exact hr.1)
       have h63:((m+k:Nat):Int)<=9223372036854775807:=by have:=hr.2;omega
       have fin:∀ {a b:Array Value},a=b->(Result.ok (Value.slice (some ⟨W.size,0,none⟩) (m+k) (grownCap W.w (m+k) c E)) (W.w.drew.alloc (.cells a E)):Result Value)=.ok (.slice (some ⟨W.size,0,none⟩) (m+k) (grownCap W.w (m+k) c E)) (W.tick.w.alloc (.cells b E)):=by
        rintro a b rfl;rfl
       cases p with
       | none =>
        have hc0:c=0:=by rcases hp with h | ⟨b,h⟩;exact h;cases h
        subst hc0
        have Z:m=0:=by omega
        subst Z
        have ho0:olds=[]:=W0q (by simpa using ho)
        subst ho0
        simp only[W1l] at *
        rw[run_append_nil (P:=P) W.w T ty E O v0 u1 i1 i4 ⟨b2,o,none⟩ k c2 news I Q hk h63 (by rw[i3];have:=hr.1;omega)]
        exact fin (by simp)
       | some a =>
        have hold:∀j u,olds[j]?=some u->W.w.cell? (a.add j)=some u:=λj u hj=>by
         rcases hp with h | ⟨b,h⟩
         . have Z:m=0:=by omega
           subst Z
           have ho0:olds=[]:=W0q (by simpa using ho)
           rw[ho0] at hj;simp at hj
         . injection h with h;subst h;rw[add0,W1l];exact hor b rfl j u hj
        rw[run_append_grow (P:=P) W.w T ty E O v0 u1 i1 i4 a m c olds (by rw[ho,i2]) hold ⟨b2,o,none⟩ k c2 news I Q (by omega) h63 V]
        exact fin (by simp)
theorem Yhl{z:D}{c:AV}{s:Nat}{ys:List D}{u:Value}(h:toD z c=some (.sl s ys))(j:AV.V W θ c u): AV.V W θ (.d (.sl s ys)) u:=by
 have i:c.ag=false->(∀a,c≠.tup a)->c≠.un->AV.V W θ (.d (.sl s ys)) u:=λI O Q=>by
  obtain⟨cs,T,e⟩:=V_c j O Q
  exact⟨cs,Xme h T,by rw[e,I];rfl⟩
 cases c with
 | d x=>simp[toD] at h;subst h;exact j
 | nil=>exact i rfl (λ_=>nofun) nofun
 | lit s' xs=>exact i rfl (λ_=>nofun) nofun
 | gr o s' xs=>exact i rfl (λ_=>nofun) nofun
 | st a => cases z<;>simp only[toD] at h<;>try cases h
           split at h<;>cases h
 | pr a c => cases z<;>simp only[toD] at h<;>try cases h
             split at h<;>cases h
 | _=>simp[toD] at h
theorem Xp3{z:D}{sz:Nat}{c:AV}{ys:List D}{u:Value}(hO:Obs W θ N g)(h:Xhn g z sz c=some ys)(hv:AV.V W θ c u):
 ∃q c2 news,u=.slice q ys.length c2/\ys.length<=c2/\(news:List Value).length=ys.length*sz/\(ys.length=0\/∃b off,q=some ⟨b,off,none⟩/\∀j u,news[j]?=some u->W.w.cell? ⟨b,off+j,none⟩=some u)/\(∀u∈news,Xfb u=true)/\AtL W sz ys news:=by
 unfold Xhn at h
 split at h
 . rename_i o s l n
   split at h<;>try cases h
   rename_i s' xs hg
   split at h<;>cases h
   rename_i hc
   obtain⟨rfl,rfl,hln⟩:=hc
   obtain⟨b,p,h1,h2,h3,e,h5⟩:=Xea hv
   obtain⟨b',cs,T',r1,r2,r3,r4,r5,r6,r7⟩:=hO.r _ _ hg
   rw[h1] at r1;injection r1 with r1;subst r1
   have O:((xs.drop l).take n).length=n:=by simp;omega
   rw[O]
   have hcl:(l+n)*s<=cs.length:=by rw[r3];exact W0k _ h2
   rw[W1c] at hcl
   have T:AtL W s ((xs.drop l).take n) ((cs.drop (l*s)).take (n*s)):=λi x hi=>by
    have hin:=Xba hi
    rw[O] at hin
    rw[W1d,if_pos hin,W1v] at hi
    obtain⟨e,Z,k2,k3⟩:=r6 _ _ hi
    refine⟨e,Z,k2,λj v I=>?_⟩
    have Q:=Xba I
    rw[D.at_len x Z,k2] at Q
    have:i*s+s<=n*s:=by rw[<-W2k];exact W0k _ (by omega)
    rw[W1d,if_pos (by omega),W1v,show l*s+(i*s+j)=(l+i)*s+j by rw[W1c];omega]
    exact k3 j v I
   refine⟨_,_,(cs.drop (l*s)).take (n*s),e,by omega,by rw[W0f,W1k];omega,?_,λu hu=>?_,T⟩
   . rcases W2v n with hn | hn
     . exact .inl hn
     . refine .inr ⟨b,l*s,h5 (by omega),λj u I=>?_⟩
       rw[W1d] at I
       split at I
       . rw[W1v] at I
         rw[Xa9 r2];exact I
       . cases I
   . obtain⟨j,I⟩:=W3a hu
     have Q:=Xba I
     rw[W0f,W1k] at Q
     have hs0:0<s:=by
      rcases W2v s with h | h
      . subst h;simp at Q
      . exact h
     have hjn:j<n*s:=by omega
     have hdm:=W2q j s
     have hm:=W1s j hs0
     have hd:j/s<n:=W4x (by rw[W1h];exact hjn)
     obtain⟨x,hx⟩:∃x,((xs.drop l).take n)[j/s]?=some x:=⟨_,W0e (by rw[O];exact hd)⟩
     obtain⟨e,Z,k2,k3⟩:=T _ _ hx
     have hel:j%s<e.length:=by rw[D.at_len x Z,k2];exact hm
     have:=k3 _ _ (W0e hel)
     rw[show j/s*s+j%s=j by rw[W1h];exact hdm,I] at this
     injection this with this
     rw[this];exact D.at_one x Z _ (W6r hel)
 . rename_i o s l n
   split at h<;>try cases h
   rename_i s' xs hg
   split at h<;>cases h
   rename_i hc
   obtain⟨rfl,rfl,hln⟩:=hc
   obtain⟨b,p,h1,h2,h3,e,h5⟩:=Xpi hv
   obtain⟨b',cs,T',r1,r2,r3,r4,r5,r6,r7⟩:=hO.r _ _ hg
   rw[h1] at r1;injection r1 with r1;subst r1
   have O:((xs.drop l).take n).length=n:=by simp;omega
   rw[O]
   have hcl:(l+n)*s<=cs.length:=by rw[r3];exact W0k _ h2
   rw[W1c] at hcl
   have T:AtL W s ((xs.drop l).take n) ((cs.drop (l*s)).take (n*s)):=λi x hi=>by
    have hin:=Xba hi
    rw[O] at hin
    rw[W1d,if_pos hin,W1v] at hi
    obtain⟨e,Z,k2,k3⟩:=r6 _ _ hi
    refine⟨e,Z,k2,λj v I=>?_⟩
    have Q:=Xba I
    rw[D.at_len x Z,k2] at Q
    have:i*s+s<=n*s:=by rw[<-W2k];exact W0k _ (by omega)
    rw[W1d,if_pos (by omega),W1v,show l*s+(i*s+j)=(l+i)*s+j by rw[W1c];omega]
    exact k3 j v I
   refine⟨_,_,(cs.drop (l*s)).take (n*s),e,by omega,by rw[W0f,W1k];omega,?_,λu hu=>?_,T⟩
   . rcases W2v n with hn | hn
     . exact .inl hn
     . refine .inr ⟨b,l*s,h5 (by omega),λj u I=>?_⟩
       rw[W1d] at I
       split at I
       . rw[W1v] at I
         rw[Xa9 r2];exact I
       . cases I
   . obtain⟨j,I⟩:=W3a hu
     have Q:=Xba I
     rw[W0f,W1k] at Q
     have hs0:0<s:=by
      rcases W2v s with h | h
      . subst h;simp at Q
      . exact h
     have hjn:j<n*s:=by omega
     have hdm:=W2q j s
     have hm:=W1s j hs0
     have hd:j/s<n:=W4x (by rw[W1h];exact hjn)
     obtain⟨x,hx⟩:∃x,((xs.drop l).take n)[j/s]?=some x:=⟨_,W0e (by rw[O];exact hd)⟩
     obtain⟨e,Z,k2,k3⟩:=T _ _ hx
     have hel:j%s<e.length:=by rw[D.at_len x Z,k2];exact hm
     have:=k3 _ _ (W0e hel)
     rw[show j/s*s+j%s=j by rw[W1h];exact hdm,I] at this
     injection this with this
     rw[this];exact D.at_one x Z _ (W6r hel)
 . split at h<;>try cases h
   rename_i s ys' hd
   split at h<;>cases h
   rename_i hs
   subst hs
   obtain⟨p,c2,e,h1,h2,h3⟩:=V_sl (Yhl hd hv)
   rcases h3 with h3 | ⟨b,off,hp,hr⟩
   . subst h3
     exact⟨p,c2,[],e,h1,by simp,.inl rfl,λu h=>by simp at h,λi x h=>by simp at h⟩
   . obtain⟨cs,Z,k2,k3,k4⟩:=Xf6 hr
     exact⟨p,c2,cs,e,h1,Z,.inr ⟨b,off,hp,λj u I=>(k2 j u I).1⟩,k3,k4⟩
end
end
end Go.Vm

/- part 1 -/
import Derived.WalkKit
set_option linter.unusedVariables false
set_option linter.unusedSimpArgs false
namespace Go
abbrev W0a:= @List.getElem?_eq_getElem
abbrev W0b:= @List.take_of_length_le
abbrev W0c:= @Nat.le_refl
abbrev W0d:= @List.length_append
abbrev W0e:= @List.mem_of_getElem?
abbrev W0f:= @List.mem_singleton
abbrev W0g:= @Nat.eq_of_beq_eq_true
abbrev W0h:= @Bool.and_eq_true
abbrev W0i:= @List.length_map
abbrev W0j:= @List.length_cons
abbrev W0k:= @List.length_take
abbrev W0l:= @Nat.le_trans
abbrev W0m:= @Nat.pow_le_pow_right
abbrev W0n:= @List.eq_nil_of_length_eq_zero
abbrev W0o:= @List.getElem?_append_right
abbrev W0p:= @Nat.mul_le_mul_left
abbrev W0q:= @Nat.pow_succ
abbrev W0r:= @Nat.two_pow_pos
abbrev W0s:= @Nat.zero_le
abbrev W0t:= @Nat.mul_assoc
abbrev W0u:= @Nat.lt_of_lt_of_le
abbrev W0v:= @List.mem_cons_self
abbrev W0w:= @List.getElem?_map
abbrev W0x:= @Nat.mul_le_mul_right
abbrev W0y:= @List.drop_zero
abbrev W0z:= @Nat.mul_add
abbrev W1a:= @Nat.pow_add
abbrev W1b:= @List.mem_cons_of_mem
abbrev W1c:= @List.take_add_one
abbrev W1d:= @List.getElem?_append_left
abbrev W1e:= @List.getElem?_eq_some_iff
abbrev W1f:= @Nat.mul_comm
abbrev W1g:= @Classical.byContradiction
abbrev W1h:= @List.mem_cons
abbrev W1i:= @Nat.add_mul
abbrev W1j:= @Nat.zero_add
abbrev W1k:= @List.map_append
abbrev W1l:= @List.getElem?_take
abbrev W1m:= @Int.natAbs_natCast
abbrev W1n:= @List.length_drop
abbrev W1o:= @List.drop_eq_nil_of_le
abbrev W1p:= @Nat.mul_pos
abbrev W1q:= @List.all_eq_true
abbrev W1r:= @List.mem_append_right
abbrev W1s:= @Int.fdiv_eq_ediv_of_nonneg
abbrev W1t:= @Nat.le_of_ble_eq_true
abbrev W1u:= @Bool.not_eq_true'
abbrev W1v:= @List.getElem?_set_ne
abbrev W1w:= @List.length_replicate
abbrev W1x:= @List.take_length
abbrev W1y:= @Nat.lt_of_le_of_lt
abbrev W1z:= @Nat.mul_le_mul
abbrev W2a:= @Rat.le_of_mul_le_mul_right
abbrev W2b:= @Nat.mod_lt
abbrev W2c:= @List.mem_append
abbrev W2d:= @Nat.min_eq_left
abbrev W2e:= @Nat.le_of_lt
abbrev W2f:= @List.getElem?_eq_none
abbrev W2g:= @Option.isSome_iff_exists
abbrev W2h:= @List.getElem?_drop
abbrev W2i:= @List.map_replicate
abbrev W2j:= @List.append_assoc
abbrev W2k:= @List.length_eq_zero_iff
abbrev W2l:= @List.mem_append_left
abbrev W2m:= @Rat.le_of_lt
abbrev W2n:= @List.getElem?_set_self
abbrev W2o:= @Nat.eq_zero_or_pos
abbrev W2p:= @Bool.eq_false_iff
abbrev W2q:= @Nat.pos_of_ne_zero
abbrev W2r:= @Nat.add_zero
abbrev W2s:= @Nat.div_add_mod
abbrev W2t:= @Rat.mul_le_mul_of_nonneg_right
abbrev W2u:= @Nat.div_lt_iff_lt_mul
abbrev W2v:= @Nat.sub_self
abbrev W2w:= @Nat.pow_lt_pow_iff_right
abbrev W2x:= @List.getD_eq_getElem?_getD
abbrev W2y:= @Int.toNat_of_nonneg
abbrev W2z:= @Int.natCast_mul
abbrev W3a:= @Prod.ext
abbrev W3b:= @Nat.succ_mul
abbrev W3c:= @Rat.mul_le_mul_of_nonneg_left
abbrev W3d:= @List.map_take
abbrev W3e:= @List.length_nil
abbrev W3f:= @List.append_nil
abbrev W3g:= @Classical.not_not
abbrev W3h:= @Rat.intCast_le_intCast
abbrev W3i:= @Nat.mul_zero
abbrev W3j:= @Rat.divInt_eq_div
abbrev W3k:= @List.drop_eq_getElem_cons
abbrev W3l:= @List.mem_map
abbrev W3m:= @Nat.add_sub_cancel
abbrev W3n:= @Nat.mul_lt_mul_of_pos_right
abbrev W3o:= @List.length_set
abbrev W3p:= @List.replicate_succ
abbrev W3q:= @List.cons_append
abbrev W3r:= @Nat.add_sub_cancel_left
abbrev W3s:= @Array.getElem?_setIfInBounds
abbrev W3t:= @List.map_cons
abbrev W3u:= @Nat.zero_lt_succ
abbrev W3v:= @Nat.mod_eq_of_lt
abbrev W3w:= @List.take_append_drop
abbrev W3x:= @Array.getElem?_eq_some_iff
abbrev W3y:= @Nat.pow_lt_pow_right
abbrev W3z:= @Rat.intCast_mul
abbrev W4a:= @Rat.intCast_add
abbrev W4b:= @Array.getElem?_eq_none
abbrev W4c:= @Nat.mul_one
abbrev W4d:= @List.mem_or_eq_of_mem_set
abbrev W4e:= @Nat.mul_left_comm
abbrev W4f:= @Iff.rfl
abbrev W4g:= @List.length_singleton
abbrev W4h:= @Bool.eq_iff_iff
abbrev W4i:= @List.nil_append
abbrev W4j:= @Nat.div_le_self
abbrev W4k:= @Nat.le_mul_of_pos_right
abbrev W4l:= @Nat.div_lt_of_lt_mul
abbrev W4m:= @Nat.le_of_not_lt
abbrev W4n:= @Int.natAbs_mul
abbrev W4o:= @List.length_pos_iff
abbrev W4p:= @List.dropWhile_cons
abbrev W4q:= @Nat.zero_mul
abbrev W4r:= @Nat.add_assoc
abbrev W4s:= @Rat.mul_pos
abbrev W4t:= @List.getElem?_of_mem
abbrev W4u:= @List.drop_drop
abbrev W4v:= @Int.natAbs_neg
abbrev W4w:= @List.count_le_length
abbrev W4x:= @List.tail_drop
abbrev W4y:= @Bool.or_eq_true
abbrev W4z:= @Int.mul_one
abbrev W5a:= @Nat.pow_mul
abbrev W5b:= @Nat.dvd_of_mod_eq_zero
abbrev W5c:= @List.exists_cons_of_ne_nil
abbrev W5d:= @Nat.mul_lt_mul''
abbrev W5e:= @List.replicate_append_replicate
abbrev W5f:= @List.mem_of_mem_take
abbrev W5g:= @Int.zero_mul
abbrev W5h:= @Rat.le_trans
abbrev W5i:= @List.all_append
abbrev W5j:= @List.drop_eq_nil_iff
abbrev W5k:= @List.getElem?_replicate
abbrev W5l:= @List.take_replicate
abbrev W5m:= @Nat.div_eq_of_lt
abbrev W5n:= @Int.natCast_nonneg
abbrev W5o:= @List.mem_replicate
abbrev W5p:= @Rat.sub_eq_add_neg
abbrev W5q:= @Rat.zero_mul
abbrev W5r:= @Rat.div_mul_cancel
abbrev W5s:= @Rat.num_eq_zero
abbrev W5t:= @Int.fmod_eq_emod_of_nonneg
abbrev W5u:= @List.ext_getElem?
abbrev W5v:= @Array.replicate_succ
abbrev W5w:= @Array.replicate_zero
abbrev W5x:= @Int.pow_pos
abbrev W5y:= @Int.one_mul
abbrev W5z:= @Rat.div_def
abbrev W6a:= @Nat.le_add_right
abbrev W6b:= @Option.getD_some
abbrev W6c:= @List.eq_of_mem_replicate
abbrev W6d:= @List.not_mem_nil
abbrev W6e:= @List.append_toArray
abbrev W6f:= @Nat.pow_le_pow_left
abbrev W6g:= @List.takeWhile_append_dropWhile
abbrev W6h:= @Bool.true_and
abbrev W6i:= @List.all_cons
abbrev W6j:= @Nat.not_lt
abbrev W6k:= @Nat.div_div_eq_div_mul
abbrev W6l:= @List.map_inj_left
abbrev W6m:= @List.size_toArray
abbrev W6n:= @List.push_toArray
abbrev W6o:= @List.set_append_right
abbrev W6p:= @List.getElem?_zipWith
abbrev W6q:= @List.map_set
abbrev W6r:= @List.getElem_mem
abbrev W6s:= @List.mem_of_mem_drop
abbrev W6t:= @List.replicate_succ'
abbrev W6u:= @Nat.pow_pos
abbrev W6v:= @Rat.le_refl
abbrev W6w:= @Nat.div_mul_le_self
abbrev W6x:= @Array.getElem?_eq_getElem
abbrev W6y:= @Array.getElem_append_left
abbrev W6z:= @Int.mul_ne_zero
abbrev W7a:= @List.take_left'
abbrev W7b:= @Nat.lt_or_gt_of_ne
abbrev W7c:= @Nat.sub_zero
abbrev W7d:= @Int.ofNat_lt
abbrev W7e:= @Nat.gcd_comm
abbrev W7f:= @Int.pow_zero
abbrev W7g:= @Rat.add_zero
abbrev W7h:= @List.set_cons_zero
abbrev W7i:= @List.head?_dropWhile_not
abbrev W7j:= @Int.natAbs_pow
abbrev W7k:= @List.take_left
abbrev W7l:= @Nat.mul_div_cancel_left
abbrev W7m:= @Int.toNat_natCast
abbrev W7n:= @List.foldl_append
abbrev W7o:= @Nat.one_mul
abbrev W7p:= @Int.pow_add
abbrev W7q:= @Nat.lt_irrefl
abbrev W7r:= @Int.neg_fdiv_neg
abbrev W7s:= @List.drop_length
abbrev W7t:= @Nat.le_div_iff_mul_le
abbrev W7u:= @List.foldl_cons
abbrev W7v:= @Int.natCast_pow
abbrev W7w:= @List.range_succ
abbrev W7x:= @Int.ediv_emod_unique
abbrev W7y:= @Rat.natCast_mul
abbrev W7z:= @Rat.intCast_neg
abbrev W8a:= @Nat.not_lt_zero
abbrev W8b:= @Int.zero_sub
abbrev W8c:= @UInt8.toNat_inj
abbrev W8d:= @Rat.floor_le
abbrev W8e:= @Bool.or_eq_true_iff
abbrev W8f:= @Nat.pos_iff_ne_zero
abbrev W8g:= @List.takeWhile_cons
abbrev W8h:= @Bool.false_and
abbrev W8i:= @List.take_zero
abbrev W8j:= @List.drop_left
abbrev W8k:= @List.foldr_nil
abbrev W8l:= @Option.map_map
abbrev W8m:= @Int.le_refl
abbrev W8n:= @Nat.le_succ
end Go

namespace Go.Vm
open Go
section
inductive D where
 | int (k:IntKind) (z:Int)
 | bool (c:Bool)
 | str (s:List UInt8)
 | raw (u:Value)
 | sl (sz:Nat) (xs:List D)
 | st (a:D)
 | pr (a c:D)
 deriving Inhabited
theorem D.ind{p:D->Prop}(leaf:∀x,(∀z,x≠.st z)->(∀u v,x≠.pr u v)->p x)(st:∀a,p a->p (.st a))(pr:∀a c,p a->p c->p (.pr a c)): ∀x,p x
 | .st a=>st a (D.ind leaf st pr a)
 | .pr a c=>pr a c (D.ind leaf st pr a) (D.ind leaf st pr c)
 | .int ..=>leaf _ nofun nofun
 | .bool _=>leaf _ nofun nofun
 | .str _=>leaf _ nofun nofun
 | .raw _=>leaf _ nofun nofun
 | .sl ..=>leaf _ nofun nofun
structure GW where
 w:World
 A:Nat->Nat->Prop
 hA:∀b i,A b i->b<w.heap.size
abbrev GW.size(W:GW): Nat:=W.w.heap.size
def Fr(W:GW)(b i:Nat)(v:Value): Prop:=W.w.cell? ⟨b,i,none⟩=some v/\¬W.A b i
def LeF(W W':GW): Prop:=∀b i v,Fr W b i v->Fr W' b i v
theorem LeF.refl(W:GW): LeF W W:=λ_ _ _ h=>h
theorem LeF.trans{a b c:GW}(h:LeF a b)(k:LeF b c): LeF a c:=λ_ _ _ x=>k _ _ _ (h _ _ _ x)
def inR(k:IntKind)(z:Int): Prop:=k.wrap z=z
def Xgz: Value->Bool
 | .agg _ | .tuple _=>false
 | _=>true
def D.size: D->Nat
 | .st a=>a.size
 | .pr a c=>a.size+c.size
 | _=>1
mutual
def D.At(W:GW): D->List Value->Prop
 | .int k z,cs=>cs=[.int k z]/\inR k z
 | .bool c,cs=>cs=[.bool c]
 | .str s,cs=>cs=[.string ⟨s.toArray⟩]/\s.length<9223372036854775808
 | .raw u,cs=>cs=[u]/\Xgz u=true
 | .sl sz xs,cs=>∃p c,cs=[.slice p xs.length c]/\xs.length<=c/\c<9223372036854775808/\(xs=[]\/∃b off,p=some ⟨b,off,none⟩/\D.Row W b sz off xs)
 | .st a,cs=>D.At W a cs
 | .pr a c,cs=>∃u v,cs=u++v/\D.At W a u/\D.At W c v
def D.Row(W:GW)(b sz:Nat): Nat->List D->Prop
 | _,[]=>True
 | off,x::xs=>(∃e,D.At W x e/\x.size=sz/\∀j v,e[j]?=some v->Fr W b (off+j) v)/\D.Row W b sz (off+sz) xs
end
def D.ag: D->Bool
 | .st _=>true
 | _=>false
theorem D.at_len{W:GW}: ∀(x:D) {cs:List Value},D.At W x cs->cs.length=x.size
 | .int _ _,_,h=>by rw[h.1];rfl
 | .bool _,_,h=>by rw[show _=_ from h];rfl
 | .str _,_,h=>by rw[h.1];rfl
 | .raw _,_,h=>by rw[h.1];rfl
 | .sl _ _,_,⟨_,_,h,_⟩=>by rw[h];rfl
 | .st a,_,h=>by rw[D.size];exact D.at_len a h
 | .pr a c,_,⟨u,v,h,i,j⟩=>by rw[h,D.size,W0d,D.at_len a i,D.at_len c j]
theorem D.at_one{W:GW}: ∀(x:D) {cs:List Value},D.At W x cs->∀v∈cs,Xgz v=true
 | .int _ _,_,h,v,i=>by rw[h.1,W0f] at i;subst i;rfl
 | .bool _,_,h,v,i=>by rw[show _=_ from h,W0f] at i;subst i;rfl
 | .str _,_,h,v,i=>by rw[h.1,W0f] at i;subst i;rfl
 | .raw _,_,h,v,i=>by rw[h.1,W0f] at i;subst i;exact h.2
 | .sl _ _,_,⟨_,_,h,_⟩,v,i=>by rw[h,W0f] at i;subst i;rfl
 | .st a,_,h,v,i=>D.at_one a h v i
 | .pr a c,_,⟨u,v,h,o,A⟩,w,j=>by
  rw[h] at j
  rcases W2c.1 j with j | j
  . exact D.at_one a o w j
  . exact D.at_one c A w j
mutual
theorem D.mono{W W':GW}(l:LeF W W'): ∀(x:D) {cs:List Value},D.At W x cs->D.At W' x cs
 | .int _ _,_,h=>h
 | .bool _,_,h=>h
 | .str _,_,h=>h
 | .raw _,_,h=>h
 | .sl sz xs,_,⟨p,c,h,i,j,o⟩=>⟨p,c,h,i,j,o.imp id λ⟨b,off,hp,A⟩=>⟨b,off,hp,D.row_mono l b sz xs off A⟩⟩
 | .st a,_,h=>D.mono l a h
 | .pr a c,_,⟨u,v,h,i,j⟩=>⟨u,v,h,D.mono l a i,D.mono l c j⟩
theorem D.row_mono{W W':GW}(l:LeF W W')(b sz:Nat): ∀(xs:List D) (off:Nat),D.Row W b sz off xs->D.Row W' b sz off xs
 | [],_,_=>trivial
 | x::xs,off,⟨⟨e,h,hs,i⟩,o⟩=>⟨⟨e,D.mono l x h,hs,λj v A=>l _ _ _ (i j v A)⟩,D.row_mono l b sz xs _ o⟩
end
theorem D.row_get{W:GW}{b sz:Nat}: ∀ {xs:List D} {off:Nat},D.Row W b sz off xs->∀ {i:Nat} {x:D},xs[i]?=some x->∃e,D.At W x e/\x.size=sz/\∀j v,e[j]?=some v->Fr W b (off+i*sz+j) v
 | [],_,_,i,x,h=>by simp at h
 | y::xs,off,⟨o,A⟩,0,x,h=>by
  simp at h;subst h
  simpa using o
 | y::xs,off,⟨o,A⟩,i+1,x,h=>by
  obtain⟨e,a,s,f⟩:=D.row_get A (i:=i) (x:=x) (by simpa using h)
  refine⟨e,a,s,λj v B=>?_⟩
  have:=f j v B
  rwa[show off+sz+i*sz+j=off+(i+1)*sz+j by rw[W3b];omega] at this
theorem D.row_of{W:GW}{b sz:Nat}: ∀ {xs:List D} {off:Nat},(∀i x,xs[i]?=some x->∃e,D.At W x e/\x.size=sz/\∀j v,e[j]?=some v->Fr W b (off+i*sz+j) v)->D.Row W b sz off xs
 | [],_,_=>trivial
 | y::xs,off,h=>⟨by simpa using h 0 y rfl,D.row_of λi x hi=>by
  obtain⟨e,a,s,f⟩:=h (i+1) x (by simpa using hi)
  refine⟨e,a,s,λj v o=>?_⟩
  have:=f j v o
  rwa[show off+(i+1)*sz+j=off+sz+i*sz+j by rw[W3b];omega] at this⟩
theorem D.row_sub{W:GW}{b sz off:Nat}{xs:List D}(h:D.Row W b sz off xs)(l m:Nat): D.Row W b sz (off+l*sz) ((xs.drop l).take m) :=
 D.row_of λi x hi=>by
  have o:xs[l+i]?=some x:=by
   rw[W1l] at hi
   split at hi
   . rwa[W2h] at hi
   . cases hi
  obtain⟨e,a,s,f⟩:=D.row_get h o
  refine⟨e,a,s,λj v A=>?_⟩
  have:=f j v A
  rwa[show off+(l+i)*sz+j=off+l*sz+i*sz+j by rw[W1i];omega] at this
theorem D.row_app{W:GW}{b sz off:Nat}{xs ys:List D}(h:D.Row W b sz off xs)(k:D.Row W b sz (off+xs.length*sz) ys): D.Row W b sz off (xs++ys) :=
 D.row_of λi x hi=>by
  by_cases o:i<xs.length
  . rw[W1d o] at hi
    exact D.row_get h hi
  . rw[W0o (by omega)] at hi
    obtain⟨e,a,s,f⟩:=D.row_get k hi
    refine⟨e,a,s,λj v A=>?_⟩
    have:=f j v A
    rwa[show off+xs.length*sz+(i-xs.length)*sz+j=off+i*sz+j from by
     obtain⟨q,rfl⟩:=Nat.le.dest (W6j.1 o)
     rw[W3r,W1i];omega] at this
def mkv(g:Bool)(cs:List Value): Value:=if g then .agg cs.toArray else cs.headD undef
def D.zc: D->List Value
 | .int k _=>[.int k 0]
 | .bool _=>[.bool false]
 | .str _=>[.string ByteArray.empty]
 | .raw u=>[u]
 | .sl _ _=>[.slice none 0 0]
 | .st a=>a.zc
 | .pr a c=>a.zc++c.zc
def D.isZ: D->Bool
 | .int _ z=>z==0
 | .bool c=>!c
 | .str s=>s.isEmpty
 | .raw u=>Xgz u
 | .sl _ xs=>xs.isEmpty
 | .st a=>a.isZ
 | .pr a c=>a.isZ&&c.isZ
theorem Yrm(k:IntKind): inR k 0:=by cases k<;>rfl
theorem D.at_zc{W:GW}: ∀(x:D),x.isZ=true->D.At W x x.zc
 | .int k z,h=>by
  have:z=0:=by simpa [D.isZ] using h
  subst this;exact⟨rfl,Yrm k⟩
 | .bool c,h=>by
  have:c=false:=by simpa [D.isZ] using h
  subst this;rfl
 | .str s,h=>by
  have:s=[]:=by simpa [D.isZ] using h
  subst this;exact⟨rfl,by decide⟩
 | .raw u,h=>⟨rfl,h⟩
 | .sl sz xs,h=>by
  have:xs=[]:=by simpa [D.isZ] using h
  subst this;exact⟨none,0,rfl,W0c _,by decide,.inl rfl⟩
 | .st a,h=>D.at_zc a h
 | .pr a c,h=>by
  have:a.isZ=true/\c.isZ=true:=by simpa [D.isZ] using h
  exact⟨_,_,rfl,D.at_zc a this.1,D.at_zc c this.2⟩
theorem Xa3{w:World}{b:Nat}{o:Obj}(h:w.heap[b]?=some o): b<w.heap.size:=by
 by_cases hb:b<w.heap.size
 . exact hb
 . rw[W4b (by omega)] at h;cases h
theorem Xbf{w:World}{b:Nat}{cs:List Value}{T:TypeId}{fr:Nat×Nat}(h:w.heap[b]?=some (.cells cs.toArray T fr))(i:Nat): w.cell? ⟨b,i,none⟩=cs[i]?:=by
 simp[World.cell?,h]
theorem cell_of_heap{w w':World}{a:Addr}(h:w'.heap[a.block]?=w.heap[a.block]?): w'.cell? a=w.cell? a:=World.cell?_of_block (w:=w) h
theorem cell_lt{w:World}{a:Addr}{v:Value}(h:w.cell? a=some v): a.block<w.heap.size:=by
 unfold World.cell? at h
 by_cases hb:a.block<w.heap.size
 . exact hb
 . rw[W4b (by omega)] at h;cases h
def GW.push(W:GW)(o:Obj)(L:Nat->Prop): GW where
 w:=W.w.alloc o
 A:=λb i=>W.A b i\/(b=W.size/\L i)
 hA:=by
  rintro b i (h | ⟨rfl,_⟩)
  . rw[World.size_alloc];exact Nat.lt_succ_of_lt (W.hA b i h)
  . rw[World.size_alloc];exact Nat.lt_succ_self _
theorem Xei(w:World)(o:Obj)(k:Nat)(h:k<w.heap.size): (w.alloc o).heap[k]?=w.heap[k]?:=by
 show (w.heap.push o)[k]?=_
 rw[Array.getElem?_push,if_neg (by omega)]
theorem Xa8(w:World)(o:Obj): (w.alloc o).heap[w.heap.size]?=some o:=by
 show (w.heap.push o)[w.heap.size]?=_
 rw[Array.getElem?_push,if_pos rfl]
theorem Xee(W:GW)(o:Obj)(L:Nat->Prop): LeF W (W.push o L):=λb i v h=>by
 have hb:b<W.w.heap.size:=cell_lt h.1
 refine⟨by rw[<-h.1];exact cell_of_heap (Xei _ _ _ hb),?_⟩
 rintro(j | ⟨j,_⟩)
 . exact h.2 j
 . exact absurd j (by show b≠W.w.heap.size;omega)
def Xjh(w:World)(b:Nat)(o:Obj): World:={ w with heap:=w.heap.setIfInBounds b o }
theorem Xlv(w:World)(b:Nat)(o:Obj)(k:Nat)(h:k≠b): (Xjh w b o).heap[k]?=w.heap[k]?:=by
 simp only[Xjh,W3s]
 rw[if_neg (λe=>h e.symm)]
theorem Xa7(w:World)(b:Nat)(o:Obj)(h:b<w.heap.size): (Xjh w b o).heap[b]?=some o:=by
 simp only[Xjh,W3s,if_true,h]
def GW.put(W:GW)(b:Nat)(o:Obj)(B:Nat->Prop): GW where
 w:=Xjh W.w b o
 A:=λk i=>W.A k i/\(k=b->B i)
 hA:=λk i h=>by simpa [Xjh] using W.hA k i h.1
theorem Xid(W:GW)(b:Nat)(c j:List Value)(T:TypeId)(B:Nat->Prop)(hb:W.w.heap[b]?=some (.cells c.toArray T (0,0)))(hs:∀i v,¬W.A b i->c[i]?=some v->j[i]?=some v):
 LeF W (W.put b (.cells j.toArray T (0,0)) B):=λk i v h=>by
 refine⟨?_,λo=>h.2 o.1⟩
 by_cases I:k=b
 . subst I
   have o:=h.1
   rw[Xbf hb] at o
   rw[show (W.put k (.cells j.toArray T (0,0)) B).w.cell? ⟨k,i,none⟩=j[i]? from Xbf (Xa7 _ _ _ (Xa3 hb)) i]
   exact hs i v h.2 o
 . rw[<-h.1];exact cell_of_heap (Xlv _ _ _ _ I)
def spl(c:List Value)(o:Nat): List Value->List Value
 | []=>c
 | v::h=>spl (c.set o v) (o+1) h
theorem Xeq(c:List Value)(o:Nat)(vs:List Value): (spl c o vs).length=c.length:=by
 induction vs generalizing c o with
 | nil=>rfl
 | cons v vs h=>simp[spl,h]
theorem Xgh(c:List Value)(o:Nat)(vs:List Value)(i:Nat)(A:o+vs.length<=c.length):
 (spl c o vs)[i]?=if o<=i/\i<o+vs.length then vs[i-o]? else c[i]?:=by
 induction vs generalizing c o with
 | nil=>simp only[spl,W3e];rw[if_neg (by omega)]
 | cons v vs B =>
  simp only[spl,W0j] at A |-
  rw[B (c.set o v) (o+1) (by simp;omega)]
  by_cases h:i=o
  . subst h
    rw[if_neg (by omega),if_pos (by omega),W2n (by omega)]
    simp
  . by_cases j:o+1<=i/\i<o+1+vs.length
    . rw[if_pos j,if_pos (by omega),show i-o=(i-(o+1))+1 by omega]
      simp
    . rw[if_neg j,if_neg (by omega),W1v (λe=>h e.symm)]
theorem Xq4(a m z vs:List Value)(h:vs.length=m.length): spl (a++(m++z)) a.length vs=a++(vs++z):=by
 apply W5u
 intro i
 rw[Xgh _ _ _ _ (by simp;omega)]
 by_cases j:i<a.length
 . rw[if_neg (by omega),W1d j,W1d j]
 . rw[W0o (l₁:=a) (by omega),W0o (l₁:=a) (by omega)]
   by_cases o:i<a.length+vs.length
   . rw[if_pos (by omega),W1d (by omega)]
   . rw[if_neg (by omega),W0o (by omega),W0o (by omega),h]
section
variable{P:Program}
theorem Xti{w:World}{b:Nat}{c:List Value}{T:TypeId}{fr:Nat×Nat}(hb:w.heap[b]?=some (.cells c.toArray T fr))(i:Nat)(v:Value):
 w.setCell ⟨b,i,none⟩ v=Xjh w b (.cells (c.set i v).toArray T fr):=by
 unfold World.setCell Xjh
 congr 1
 apply Array.ext_getElem?
 intro k
 simp only[Array.getElem?_modify,W3s]
 by_cases h:b=k
 . subst h
   rw[if_pos rfl,if_pos rfl,if_pos (Xa3 hb),hb]
   simp
 . rw[if_neg h,if_neg h]
theorem Xh5{w:World}{b:Nat}{o:Obj}(hb:w.heap[b]?=some o): Xjh w b o=w:=by
 unfold Xjh
 have:w.heap.setIfInBounds b o=w.heap:=by
  apply Array.ext_getElem?
  intro k
  simp only[W3s]
  by_cases h:b=k
  . subst h;rw[if_pos rfl,if_pos (Xa3 hb),hb]
  . rw[if_neg h]
 rw[this]
theorem Xvb(w:World)(b:Nat)(o i:Obj): Xjh (Xjh w b o) b i=Xjh w b i:=by
 unfold Xjh
 congr 1
 apply Array.ext_getElem?
 intro k
 simp only[W3s,Array.size_setIfInBounds]
 by_cases h:b=k<;>simp[h]
theorem add0(b off k:Nat): (⟨b,off,none⟩:Addr).add k=⟨b,off+k,none⟩:=by
 unfold Addr.add;split
 . rename_i h;subst h;rfl
 . rfl
theorem Xe4{b off:Nat}{T:TypeId}(vs:List Value): ∀(w:World) (i:Nat) (c:List Value),w.heap[b]?=some (.cells c.toArray T (0,0)) ->
 off+i+vs.length<=c.length->(∀v∈vs,Xgz v=true)->(storeCells ⟨b,off,none⟩ vs i).run P w=.ok () (Xjh w b (.cells (spl c (off+i) vs).toArray T (0,0))):=by
 induction vs with
 | nil=>intro w i c hb _ _;simp only[storeCells,spl];rw[Xh5 hb];rfl
 | cons v vs B =>
  intro w i c hb I o
  simp only[W0j] at I
  have M:w.cell? ⟨b,off+i,none⟩=c[off+i]?:=Xbf hb _
  have j:off+i<c.length:=by omega
  rw[W0a j] at M
  have hf:w.frozen? ⟨b,off+i,none⟩=false:=by simp[World.frozen?,hb]
  have A:=o v (W0v ..)
  have h:(store ((⟨b,off,none⟩:Addr).add i) v).run P w=.ok () (Xjh w b (.cells (c.set (off+i) v).toArray T (0,0))):=by
   rw[add0,<-Xti hb]
   cases v<;>simp_all[store,Sem.run,Xgz]
  simp only[storeCells]
  rw[Sem.run_bind,h]
  simp only[Result.andThen_ok]
  rw[B _ (i+1) (c.set (off+i) v) (Xa7 _ _ _ (Xa3 hb)) (by simp;omega) (λu O=>o u (W1b _ O)),Xvb]
  rfl
theorem run_load{a:Addr}{w:World}{v:Value}(h:w.cell? a=some v): (load a).run P w=.ok v w:=by
 simp[load,Sem.run,h]
theorem run_loadCells{b off:Nat}{w:World}(cs:List Value): ∀(i:Nat) (acc:Array Value),(∀j v,cs[j]?=some v->w.cell? ⟨b,off+(i+j),none⟩=some v) ->
 (loadCellsFrom ⟨b,off,none⟩ i cs.length acc).run P w=.ok (acc++cs.toArray) w:=by
 induction cs with
 | nil=>intro i acc _;simp[loadCellsFrom,pure,Sem.run]
 | cons c cs o =>
  intro i acc h
  have h0:=h 0 c rfl
  have hi:=o (i+1) (acc.push c) (λj v A=>by
   have:=h (j+1) v A
   rwa[show off+(i+1+j)=off+(i+(j+1)) by omega])
  simp only[W0j,loadCellsFrom,bind,load,Sem.bind,add0,Sem.run]
  rw[show off+(i+0)=off+i from rfl] at h0
  rw[h0]
  simp only[pure,Sem.bind]
  rw[hi]
  simp
theorem Xvf{α i:Type}(s:Sem α)(f:α->Sem i)(w w':World)(x:α)(h:s.run P w=.ok x w'): (s.bind f).run P w=(f x).run P w':=by
 show ((s >>= f).run P w)=_
 rw[Sem.run_bind,h];rfl
end
end
section
inductive AV where
 | d (x:D)
 | q (p:Prop)
 | b (c:Bool)
 | ub (p:Prop)
 | nil
 | lit (sz:Nat) (xs:List D)
 | st (a:AV)
 | pr (a c:AV)
 | tup (a:AV)
 | at (x:D)
 | ptr (o off:Nat)
 | own (o sz lo n:Nat)
 | ow3 (o sz lo n:Nat)
 | gr (o sz:Nat) (xs:List D)
 | el (o sz j off:Nat)
 | fn (f o:Nat)
 | fm (f:Nat) (a:AV)
 | ap (o n:Nat)
 | un
 deriving Inhabited
inductive Ob where
 | var (a:AV)
 | arr (sz:Nat) (xs:List D)
 | tok (n sz:Nat)
 | dead
abbrev Loc:=Nat->Option Nat×Nat
def ad: Option Nat->Option Addr
 | none=>none
 | some b=>some ⟨b,0,none⟩
def AV.C(W:GW)(θ:Loc): AV->List Value->Prop
 | .d x,cs=>D.At W x cs
 | .q p,cs=>∃c,cs=[.bool c]/\(c=true↔p)
 | .b c,cs=>cs=[.bool c]
 | .ub p,cs=>∃c,cs=[.bool c]/\(c=true->p)
 | .nil,cs=>∃p,cs=[.slice p 0 0]
 | .lit sz xs,cs=>∃p,cs=[.slice p xs.length xs.length]/\xs.length<9223372036854775808/\(xs=[]\/∃b,p=some ⟨b,0,none⟩/\D.Row W b sz 0 xs)
 | .st a,cs=>AV.C W θ a cs
 | .pr a c,cs=>∃u v,cs=u++v/\AV.C W θ a u/\AV.C W θ c v
 | .tup _,_=>False
 | .un,_=>False
 | .at x,cs=>∃b off e,cs=[.pointer (some ⟨b,off,none⟩)]/\D.At W x e/\∀j v,e[j]?=some v->Fr W b (off+j) v
 | .ptr o off,cs=>∃b,(θ o).1=some b/\cs=[.pointer (some ⟨b,off,none⟩)]
 | .own o sz lo n,cs=>∃b p,(θ o).1=some b/\lo+n<=(θ o).2/\(θ o).2<9223372036854775808/\cs=[.slice p n ((θ o).2-lo)]/\(lo=0\/lo<(θ o).2->p=some ⟨b,lo*sz,none⟩)
 | .ow3 o sz lo n,cs=>∃b p,(θ o).1=some b/\lo+n<=(θ o).2/\(θ o).2<9223372036854775808/\cs=[.slice p n n]/\(lo=0\/0<n->p=some ⟨b,lo*sz,none⟩)
 | .gr o sz xs,cs=>∃p,cs=[.slice p xs.length (θ o).2]/\((θ o).2=0\/p=ad (θ o).1)/\xs.length<=(θ o).2/\(θ o).2<9223372036854775808/\(xs=[]\/∃b,(θ o).1=some b/\D.Row W b sz 0 xs)
 | .el o sz j off,cs=>∃b,(θ o).1=some b/\cs=[.pointer (some ⟨b,j*sz+off,none⟩)]
 | .fn f o,cs=>∃b,(θ o).1=some b/\cs=[.func (.func f) #[] #[.pointer (some ⟨b,0,none⟩)]]
 | .fm f a,cs=>∃h:List Value,AV.C W θ a h/\cs=[.func (.func f) #[] h.toArray]
 | .ap o n,cs=>∃b,(θ o).1=some b/\(θ o).2=n/\cs=[.pointer (some ⟨b,0,none⟩)]
def AV.size: AV->Nat
 | .d x=>x.size
 | .st a=>a.size
 | .pr a c=>a.size+c.size
 | _=>1
def AV.ag: AV->Bool
 | .d x=>x.ag
 | .st _=>true
 | _=>false
theorem AV.c_len{W:GW}{θ:Loc}: ∀(a:AV) {cs:List Value},AV.C W θ a cs->cs.length=a.size
 | .d x,_,h=>D.at_len x h
 | .q _,_,⟨_,h,_⟩=>by rw[h];rfl
 | .b _,_,h=>by rw[show _=_ from h];rfl
 | .ub _,_,⟨_,h,_⟩=>by rw[h];rfl
 | .nil,_,⟨_,h⟩=>by rw[h];rfl
 | .lit ..,_,⟨_,h,_⟩=>by rw[h];rfl
 | .st a,_,h=>by rw[AV.size];exact AV.c_len a h
 | .pr a c,_,⟨u,v,h,i,j⟩=>by rw[h,AV.size,W0d,AV.c_len a i,AV.c_len c j]
 | .tup _,_,h=>h.elim
 | .un,_,h=>h.elim
 | .at _,_,⟨_,_,_,h,_⟩=>by rw[h];rfl
 | .ptr _ _,_,⟨_,_,h⟩=>by rw[h];rfl
 | .own ..,_,⟨_,_,_,_,_,h,_⟩=>by rw[h];rfl
 | .ow3 ..,_,⟨_,_,_,_,_,h,_⟩=>by rw[h];rfl
 | .gr ..,_,⟨_,h,_⟩=>by rw[h];rfl
 | .el ..,_,⟨_,_,h⟩=>by rw[h];rfl
 | .fn ..,_,⟨_,_,h⟩=>by rw[h];rfl
 | .fm ..,_,⟨_,_,h⟩=>by rw[h];rfl
 | .ap ..,_,⟨_,_,_,h⟩=>by rw[h];rfl
theorem AV.c_one{W:GW}{θ:Loc}: ∀(a:AV) {cs:List Value},AV.C W θ a cs->∀v∈cs,Xgz v=true
 | .d x,_,h=>D.at_one x h
 | .q _,_,⟨_,h,_⟩=>by rw[h];simp[Xgz]
 | .b _,_,h=>by rw[show _=_ from h];simp[Xgz]
 | .ub _,_,⟨_,h,_⟩=>by rw[h];simp[Xgz]
 | .nil,_,⟨_,h⟩=>by rw[h];simp[Xgz]
 | .lit ..,_,⟨_,h,_⟩=>by rw[h];simp[Xgz]
 | .st a,_,h=>AV.c_one a h
 | .pr a c,_,⟨u,v,h,j,o⟩=>by
  intro w i
  rw[h] at i
  rcases W2c.1 i with i | i
  . exact AV.c_one a j w i
  . exact AV.c_one c o w i
 | .tup _,_,h=>h.elim
 | .un,_,h=>h.elim
 | .at _,_,⟨_,_,_,h,_⟩=>by rw[h];simp[Xgz]
 | .ptr _ _,_,⟨_,_,h⟩=>by rw[h];simp[Xgz]
 | .own ..,_,⟨_,_,_,_,_,h,_⟩=>by rw[h];simp[Xgz]
 | .ow3 ..,_,⟨_,_,_,_,_,h,_⟩=>by rw[h];simp[Xgz]
 | .gr ..,_,⟨_,h,_⟩=>by rw[h];simp[Xgz]
 | .el ..,_,⟨_,_,h⟩=>by rw[h];simp[Xgz]
 | .fn ..,_,⟨_,_,h⟩=>by rw[h];simp[Xgz]
 | .fm ..,_,⟨_,_,h⟩=>by rw[h];simp[Xgz]
 | .ap ..,_,⟨_,_,_,h⟩=>by rw[h];simp[Xgz]
def AV.ids: AV->Nat->Prop
 | .st a,i=>a.ids i
 | .pr a c,i=>a.ids i\/c.ids i
 | .tup a,i=>a.ids i
 | .ptr o _,i=>i=o
 | .own o _ _ _,i=>i=o
 | .ow3 o _ _ _,i=>i=o
 | .gr o _ _,i=>i=o
 | .el o _ _ _,i=>i=o
 | .fn _ o,i=>i=o
 | .fm _ a,i=>a.ids i
 | .ap o _,i=>i=o
 | _,_=>False
theorem AV.c_mono{W W':GW}{θ θ':Loc}(l:LeF W W'): ∀(a:AV) {cs:List Value},(∀i,a.ids i->θ' i=θ i)->AV.C W θ a cs->AV.C W' θ' a cs
 | .d x,_,_,h=>D.mono l x h
 | .q _,_,_,h=>h
 | .b _,_,_,h=>h
 | .ub _,_,_,h=>h
 | .nil,_,_,h=>h
 | .lit sz xs,_,_,⟨p,A,B,M⟩=>⟨p,A,B,M.imp_right λ⟨T,O,Q⟩=>⟨T,O,D.row_mono l T sz xs 0 Q⟩⟩
 | .st a,_,hi,h=>AV.c_mono l a hi h
 | .pr a c,_,hi,⟨u,v,h,A,B⟩=>⟨u,v,h,AV.c_mono l a (λi x=>hi i (.inl x)) A,AV.c_mono l c (λi x=>hi i (.inr x)) B⟩
 | .tup _,_,_,h=>h
 | .un,_,_,h=>h
 | .at x,_,_,⟨I,off,e,h,A,B⟩=>⟨I,off,e,h,D.mono l x A,λj v U=>l _ _ _ (B j v U)⟩
 | .ptr o _,_,hi,⟨I,A,B⟩=>⟨I,by rw[hi o rfl];exact A,B⟩
 | .own o ..,_,hi,⟨I,p,A,B,Q,M,O⟩=>by
  have e:=hi o rfl
  exact⟨I,p,by rw[e];exact A,by rw[e];exact B,by rw[e];exact Q,by rw[e];exact M,by rw[e];exact O⟩
 | .ow3 o ..,_,hi,⟨I,p,A,B,Q,M,O⟩=>by
  have e:=hi o rfl
  exact⟨I,p,by rw[e];exact A,by rw[e];exact B,by rw[e];exact Q,M,O⟩
 | .gr o _ xs,_,hi,⟨p,A,h0,B,M,O⟩=>by
  have e:=hi o rfl
  refine⟨p,by rw[e];exact A,by rw[e];exact h0,by rw[e];exact B,by rw[e];exact M,?_⟩
  rw[e]
  exact O.imp id λ⟨I,hb,V⟩=>⟨I,hb,D.row_mono l I _ xs 0 V⟩
 | .el o ..,_,hi,⟨I,A,B⟩=>⟨I,by rw[hi o rfl];exact A,B⟩
 | .fn _ o,_,hi,⟨I,A,B⟩=>⟨I,by rw[hi o rfl];exact A,B⟩
 | .fm _ a,_,hi,⟨Y,A,B⟩=>⟨Y,AV.c_mono l a hi A,B⟩
 | .ap o _,_,hi,⟨I,A,B,M⟩=>⟨I,by rw[hi o rfl];exact A,by rw[hi o rfl];exact B,M⟩
def AV.V1(W:GW)(θ:Loc)(a:AV)(v:Value): Prop:=∃cs,AV.C W θ a cs/\v=mkv a.ag cs
def AV.T(W:GW)(θ:Loc): AV->List Value->Prop
 | .pr a c,v::h=>AV.V1 W θ a v/\AV.T W θ c h
 | .un,[]=>True
 | a,[v]=>AV.V1 W θ a v
 | _,_=>False
def AV.V(W:GW)(θ:Loc): AV->Value->Prop
 | .tup a,v=>∃h:List Value,v=.tuple h.toArray/\AV.T W θ a h
 | .un,v=>v=undef
 | a,v=>AV.V1 W θ a v
theorem AV.V1.mono{W W':GW}{θ θ':Loc}(l:LeF W W'){a:AV}{v:Value}(hi:∀i,a.ids i->θ' i=θ i)(h:AV.V1 W θ a v): AV.V1 W' θ' a v :=
 let ⟨cs,j,e⟩:=h;⟨cs,AV.c_mono l a hi j,e⟩
theorem AV.T.mono{W W':GW}{θ θ':Loc}(l:LeF W W'): ∀ {a:AV} {vs:List Value},(∀i,a.ids i->θ' i=θ i)->AV.T W θ a vs->AV.T W' θ' a vs:=by
 intro a
 induction a with
 | pr a c _ j =>
  intro vs hi h
  match vs,h with
  | v::vs,h=>exact⟨h.1.mono l λi x=>hi i (.inl x),j (λi x=>hi i (.inr x)) h.2⟩
 | un =>
  intro vs hi h
  match vs,h with
  | [],h=>exact h
  | [v],h=>exact AV.V1.mono l hi h
 | _ =>
  intro vs hi h
  match vs,h with
  | [v],h=>exact AV.V1.mono l hi h
theorem AV.V.mono{W W':GW}{θ θ':Loc}(l:LeF W W'){a:AV}{v:Value}(hi:∀i,a.ids i->θ' i=θ i)(h:AV.V W θ a v): AV.V W' θ' a v:=by
 cases a with
 | tup a=>obtain⟨j,e,h⟩:=h;exact⟨j,e,h.mono l hi⟩
 | un=>exact h
 | _=>exact AV.V1.mono l hi h
def Ob.R(W:GW)(θ:Loc)(o:Nat): Ob->Prop
 | .var a=>∃b cs T,(θ o).1=some b/\W.w.heap[b]?=some (.cells (cs:List Value).toArray T (0,0))/\AV.C W θ a cs/\∀i,W.A b i
 | .arr sz xs=>∃b cs T,(θ o).1=some b/\W.w.heap[b]?=some (.cells (cs:List Value).toArray T (0,0))/\cs.length=(θ o).2*sz/\(θ o).2<9223372036854775808/\xs.length<=(θ o).2 /\
  (∀i x,xs[i]?=some x->∃e,D.At W x e/\x.size=sz/\∀j v,e[j]?=some v->cs[i*sz+j]?=some v)/\∀i,W.A b i
 | .tok n sz=>n<=(θ o).2/\(θ o).2<9223372036854775808/\(((θ o).1=none/\(θ o).2=0) \/
  ∃b cs T,(θ o).1=some b/\W.w.heap[b]?=some (.cells (cs:List Value).toArray T (0,0))/\cs.length=(θ o).2*sz/\∀i,n*sz<=i->W.A b i)
 | .dead=>True
def Ob.live: Ob->Bool
 | .dead=>false
 | _=>true
def Ob.ids: Ob->Nat->Prop
 | .var a,i=>a.ids i
 | _,_=>False
theorem Ob.R.keep{W W':GW}{θ θ':Loc}(l:LeF W W'){o:Nat}{x:Ob}(B:θ' o=θ o)(hi:∀i,x.ids i->θ' i=θ i)(h:x.R W θ o)
 (Q:x.live=true->∀b,(θ o).1=some b->W'.w.heap[b]?=W.w.heap[b]?/\∀i,W.A b i->W'.A b i):x.R W' θ' o:=by
 cases x with
 | var a =>
  obtain⟨b,cs,T,I,j,M,O⟩:=h
  have k:=Q rfl b I
  exact⟨b,cs,T,by rw[B];exact I,by rw[k.1];exact j,AV.c_mono l a hi M,λi=>k.2 i (O i)⟩
 | arr sz xs =>
  obtain⟨b,cs,T,I,j,M,O,U,V,Y⟩:=h
  have k:=Q rfl b I
  exact⟨b,cs,T,by rw[B];exact I,by rw[k.1];exact j,by rw[B];exact M,by rw[B];exact O,by rw[B];exact U,
   λi x Z=>let ⟨e,e1,e2,e3⟩:=V i x Z;⟨e,D.mono l x e1,e2,e3⟩,λi=>k.2 i (Y i)⟩
 | tok n sz =>
  obtain⟨h0,I,j⟩:=h
  refine⟨by rw[B];exact h0,by rw[B];exact I,?_⟩
  rw[B]
  rcases j with j | ⟨b,cs,T,j,M,O,U⟩
  . exact .inl j
  . have k:=Q rfl b j
    exact .inr ⟨b,cs,T,j,by rw[k.1];exact M,O,λi hi=>k.2 i (U i hi)⟩
 | dead=>trivial
abbrev Ev:=Nat->Option AV
abbrev Hp:=Nat->Option Ob
def upd{α:Type _}(f:Nat->Option α)(d:Nat)(x:α): Nat->Option α:=λt=>match Nat.beq t d with | true=>some x | false=>f t
theorem Xai{α:Type _}(f:Nat->Option α)(d:Nat)(x:α): upd f d x d=some x:=by simp[upd]
theorem Ydt{a b:Nat}(h:¬a=b): Nat.beq a b=false:=by
 cases e:Nat.beq a b with
 | false=>rfl
 | true=>exact absurd (W0g e) h
theorem Xam{α:Type _}{f:Nat->Option α}{d t:Nat}{x:α}(h:t≠d): upd f d x t=f t:=by simp[upd,Ydt h]
theorem Xae{α:Type _}{f:Nat->Option α}{d t:Nat}{x y:α}(h:upd f d x t=some y): (t=d/\y=x)\/(t≠d/\f t=some y):=by
 by_cases e:t=d
 . subst e;rw[Xai] at h;injection h with h;exact .inl ⟨rfl,h.symm⟩
 . rw[Xam e] at h;exact .inr ⟨e,h⟩
theorem Xkq{α:Type _}{f:Nat->Option α}{d t:Nat}{x y:α}(h:d≠t): upd (upd f d x) t y=upd (upd f t y) d x:=by
 funext s
 by_cases i:s=d
 . subst i;rw[Xam h,Xai,Xai]
 . rw[Xam (f:=upd f t y) i]
   by_cases j:s=t
   . subst j;rw[Xai,Xai]
   . rw[Xam j,Xam j,Xam i]
def Xb1(g:Hp): List (Nat×Ob)->Hp
 | []=>g
 | (o,x)::l=>upd (Xb1 g l) o x
structure Fm (W0 W:GW) (X:Nat->Prop):Prop where
 os:W.w.os=W0.w.os
 out:W.w.output=W0.w.output
 tape:W.w.tape=W0.w.tape
 size:W0.size<=W.size
 same:∀b,b<W0.size->¬X b->W.w.heap[b]?=W0.w.heap[b]?
 A:∀b,b<W0.size->¬X b->∀i,W.A b i↔W0.A b i
 le:LeF W0 W
theorem Fm.refl(W:GW)(X:Nat->Prop): Fm W W X:=⟨rfl,rfl,rfl,W0c _,λ_ _ _=>rfl,λ_ _ _ _=>W4f,LeF.refl W⟩
structure Obs (W:GW) (θ:Loc) (N:Nat->Prop) (g:Hp):Prop where
 r:∀o x,g o=some x->x.R W θ o
 new:∀o x b,g o=some x->x.live=true->(θ o).1=some b->N b
 dis:∀o o' x x' b,g o=some x->g o'=some x'->x.live=true->x'.live=true->(θ o).1=some b->(θ o').1=some b->o=o'
 ids:∀o x i,g o=some x->x.ids i->∃y,g i=some y
structure Rel (W:GW) (θ:Loc) (n:Nat) (e:Ev) (a:Act):Prop where
 defers:a.defers=[]
 size:a.tmps.size=n
 has:∀t v,e t=some v->AV.V W θ v (a.tmps.getD t undef)
structure Sat (W0:GW) (X:Nat->Prop) (n:Nat) (s:Ev×Hp) (a:Act) (W:GW) (θ:Loc):Prop where
 fm:Fm W0 W X
 rel:Rel W θ n s.1 a
 obs:Obs W θ (λb=>W0.size<=b\/X b) s.2
 ids:∀t v i,s.1 t=some v->v.ids i->∃y,s.2 i=some y
end
section
def D.comps: D->List D
 | .pr a c=>a::c.comps
 | x=>[x]
structure TI where
 z:D
 e:D:=.bool false
 eb:Nat:=0
 arr:Nat:=0
def Xg6: List D->Nat->Nat
 | _,0=>0
 | [],_=>0
 | x::l,f+1=>x.size+Xg6 l f
def Yb7: TypeDesc->Bool
 | .struct _ | .array _ _=>true
 | _=>false
def Ypq(P:Program)(E:TypeId)(z:D)(h:Nat): Prop:=∃i v,P.info? E=some i/\i.size=z.size/\i.bytes=h/\i.zero=some v/\v.cells.toList=z.zc
def Ym1(P:Program)(fs:Array Field)(l:List D): Prop :=
 fs.size=l.length/\∀f c,l[f]?=some c->∃g i,fs[f]?=some g/\g.offset=Xg6 l f/\P.info? g.type=some i/\i.size=c.size/\∃t,P.underlying g.type=some t/\Yb7 t=c.ag/\(c.ag=false->c.size=1)
structure TyOk (P:Program) (T:TypeId) (ti:TI):Prop where
 k:∀E k z,P.underlying T=some (.slice E)->ti.e=.int k z->P.underlying E=some (.int k)
 i:∃i v,P.info? T=some i/\i.size=ti.z.size/\i.zero=some v/\v.cells.toList=ti.z.zc/\v=mkv ti.z.ag ti.z.zc
 z:ti.z.isZ=true
 u:∃t,P.underlying T=some t/\Yb7 t=ti.z.ag/\match ti.z with
  | .int k _=>t=.int k
  | .bool _=>t=.bool
  | .str _=>t=.string
  | .sl sz _=>∃E,t=.slice E/\sz=ti.e.size/\ti.e.isZ=true/\Ypq P E ti.e ti.eb
  | .st z=>if ti.arr=0 then ∃fs,t=.struct fs/\Ym1 P fs z.comps else ∃E,t=.array ti.arr E/\Ypq P E ti.e ti.eb
  | _=>True
class Tab (P:Program) where
 tb:Nat->Option TI
 ok:∀T ti,tb T=some ti->TyOk P T ti
noncomputable def dc(p:Prop): Bool:=@decide p (Classical.propDecidable p)
theorem Xal{p:Prop}: dc p=true↔p:=by unfold dc;simp
def nb: D->AV
 | .bool c=>.b c
 | x=>.d x
def stN: AV->AV
 | .d x=>.d (.st x)
 | a=>.st a
def prN: AV->AV->AV
 | .d x,.d y=>.d (.pr x y)
 | a,c=>.pr a c
def zA: D->AV
 | .bool _=>.b false
 | .sl _ _=>.nil
 | .st x=>stN (zA x)
 | .pr x y=>prN (zA x) (zA y)
 | x=>.d x
open Classical in
noncomputable def toD: D->AV->Option D
 | _,.d x=>some x
 | _,.b c=>some (.bool c)
 | _,.q p=>some (.bool (decide p))
 | .sl sz _,.nil=>some (.sl sz [])
 | _,.lit sz xs=>some (.sl sz xs)
 | _,.gr _ sz xs=>some (.sl sz xs)
 | .st z,.st a=>match toD z a with
  | some x=>some (.st x)
  | none=>none
 | .pr h i,.pr a c=>match toD h a,toD i c with
  | some x,some y=>some (.pr x y)
  | _,_=>none
 | _,_=>none
def fit(s:Nat)(g:Bool)(x:D): Bool:=Nat.beq x.size s&&(x.ag==g)
def Ya5(s:Nat)(g:Bool)(a:AV): Bool:=Nat.beq a.size s&&(a.ag==g)
def Xqs(s:Nat)(g:Bool): D->Nat->Option D
 | .st x,0=>match fit s g (.st x) with
  | true=>some (.st x)
  | false=>Xqs s g x 0
 | .st x,off=>Xqs s g x off
 | .pr x y,off=>match Nat.blt off x.size with
  | true=>Xqs s g x off
  | false=>Xqs s g y (off-x.size)
 | x,0=>match fit s g x with
  | true=>some x
  | false=>none
 | _,_=>none
def Xtg(s:Nat)(g:Bool): AV->Nat->Option AV
 | .d x,off=>match Xqs s g x off with
  | some y=>some (nb y)
  | none=>none
 | .st a,0=>match Ya5 s g (.st a) with
  | true=>some (.st a)
  | false=>Xtg s g a 0
 | .st a,off=>Xtg s g a off
 | .pr a c,off=>match Nat.blt off a.size with
  | true=>Xtg s g a off
  | false=>Xtg s g c (off-a.size)
 | a,0=>match Ya5 s g a with
  | true=>some a
  | false=>none
 | _,_=>none
def Xui(v:AV): D->Nat->Option AV
 | .st x,0=>match fit v.size v.ag (.st x) with
  | true=>some v
  | false=>match Xui v x 0 with
   | some a=>some (stN a)
   | none=>none
 | .st x,off=>match Xui v x off with
  | some a=>some (stN a)
  | none=>none
 | .pr x y,off=>match Nat.blt off x.size with
  | true=>match Xui v x off with
   | some a=>some (prN a (.d y))
   | none=>none
  | false=>match Xui v y (off-x.size) with
   | some a=>some (prN (.d x) a)
   | none=>none
 | x,0=>match fit v.size v.ag x with
  | true=>some v
  | false=>none
 | _,_=>none
def Xtc(v:AV): AV->Nat->Option AV
 | .d x,off=>Xui v x off
 | .st x,0=>match Ya5 v.size v.ag (.st x) with
  | true=>some v
  | false=>match Xtc v x 0 with
   | some a=>some (stN a)
   | none=>none
 | .st x,off=>match Xtc v x off with
  | some a=>some (stN a)
  | none=>none
 | .pr x y,off=>match Nat.blt off x.size with
  | true=>match Xtc v x off with
   | some a=>some (prN a y)
   | none=>none
  | false=>match Xtc v y (off-x.size) with
   | some a=>some (prN x a)
   | none=>none
 | x,0=>match Ya5 v.size v.ag x with
  | true=>some v
  | false=>none
 | _,_=>none
def Yd1: D->Nat->Option D
 | .pr a _,0=>some a
 | .pr _ c,f+1=>Yd1 c f
 | x,0=>some x
 | _,_=>none
def Yf1: AV->Nat->Option AV
 | .pr a _,0=>some a
 | .pr _ c,i+1=>Yf1 c i
 | .un,_=>none
 | a,0=>some a
 | _,_=>none
def asP: AV->Option Prop
 | .q p=>some p
 | .b c=>some (c=true)
 | .d (.bool c)=>some (c=true)
 | _=>none
noncomputable def Yng(op:BinOp)(k:IntKind)(a b:Int): Option AV :=
 match op with
 | .add=>some (.d (.int k (k.wrap (a+b))))
 | .sub=>some (.d (.int k (k.wrap (a-b))))
 | .mul=>some (.d (.int k (k.wrap (a*b))))
 | .quo=>if b=0 then none else some (.d (.int k (k.wrap (a.tdiv b))))
 | .rem=>if b=0 then none else some (.d (.int k (a.tmod b)))
 | .and=>some (.d (.int k (k.wrap (BitVec.ofInt k.bits a&&&BitVec.ofInt k.bits b).toNat)))
 | .or=>some (.d (.int k (k.wrap (BitVec.ofInt k.bits a|||BitVec.ofInt k.bits b).toNat)))
 | .xor=>some (.d (.int k (k.wrap (BitVec.ofInt k.bits a^^^BitVec.ofInt k.bits b).toNat)))
 | .andNot=>some (.d (.int k (k.wrap (BitVec.ofInt k.bits a &&& ~~~BitVec.ofInt k.bits b).toNat)))
 | .eql=>some (.b (dc (a=b)))
 | .neq=>some (.b (dc (a≠b)))
 | .lss=>some (.b (dc (a<b)))
 | .leq=>some (.b (dc (a<=b)))
 | .gtr=>some (.b (dc (a>b)))
 | .geq=>some (.b (dc (a>=b)))
 | _=>none
def Yih: AV->Bool
 | .d (.sl _ _) | .nil | .lit _ _ | .own _ _ _ _ | .ow3 _ _ _ _ | .gr _ _ _=>true
 | _=>false
def Yo1: AV->Prop
 | .d (.sl _ xs)=>xs=[]
 | .gr _ _ xs=>xs=[]
 | .lit _ xs=>xs=[]
 | _=>True
noncomputable def Yce(h:Option TI)(op:BinOp)(y:Operand): AV->AV->Option AV
 | .d (.int k a),.d (.int i b)=>match op with
  | .shl=>if b<0 then none else some (.d (.int k (k.wrap (a*2^(min b.toNat k.bits)))))
  | .shr=>if b<0 then none else some (.d (.int k (a.fdiv (2^(min b.toNat k.bits)))))
  | op=>if k=i then Yng op k a b else none
 | .d (.str a),.d (.str b)=>match op with
  | .add=>if a.length+b.length<9223372036854775808 then some (.d (.str (a++b))) else none
  | .eql=>some (.b (dc (a=b)))
  | .neq=>some (.b (dc (a≠b)))
  | _=>none
 | a,c=>match h with
  | some ⟨.bool _,_,_,_⟩=>match asP a,asP c with
   | some p,some q=>match op with
    | .eql=>some (.b (dc (p↔q)))
    | .neq=>some (.b (dc (¬(p↔q))))
    | _=>none
   | _,_=>none
  | some ⟨.sl _ _,_,_,_⟩=>match op,y,Yih a with
   | .eql,.const (.slice none 0 0),true=>some (.ub (Yo1 a))
   | .neq,.const (.slice none 0 0),true=>some (.ub True)
   | _,_,_=>none
  | _=>none
def Yqj: AV->Option Nat
 | .d (.sl _ xs)=>some xs.length
 | .gr _ _ xs=>some xs.length
 | .lit _ xs=>some xs.length
 | .nil=>some 0
 | .own _ _ _ n=>some n
 | .ow3 _ _ _ n=>some n
 | _=>none
def slA(lo:Option Int)(hi:Option Int): AV->Option AV
 | .d (.sl sz xs)=>slL sz xs lo hi
 | .gr _ sz xs=>slL sz xs lo hi
 | .lit sz xs=>slL sz xs lo hi
 | .own o sz l n=>match lo,hi with
  | none,none=>some (.own o sz l n)
  | none,some h=>if 0<=h/\h<=n then some (.own o sz l h.toNat) else none
  | some i,none=>if 0<=i/\i<=n then some (.own o sz (l+i.toNat) (n-i.toNat)) else none
  | some i,some h=>if 0<=i/\i<=h/\h<=n then some (.own o sz (l+i.toNat) (h.toNat-i.toNat)) else none
 | .ow3 o sz l n=>match lo,hi with
  | none,none=>some (.ow3 o sz l n)
  | some i,none=>if 0<=i/\i<=n then some (.ow3 o sz (l+i.toNat) (n-i.toNat)) else none
  | _,_=>none
 | .nil=>match lo,hi with
  | none,none=>some .nil
  | none,some h=>if h=0 then some .nil else none
  | some i,none=>if i=0 then some .nil else none
  | some i,some h=>if i=0/\h=0 then some .nil else none
 | _=>none
where slL (sz:Nat) (xs:List D):Option Int->Option Int->Option AV
 | none,none=>some (.d (.sl sz xs))
 | none,some h=>if 0<=h/\h<=xs.length then some (.d (.sl sz (xs.take h.toNat))) else none
 | some i,none=>if 0<=i/\i<=xs.length then some (.d (.sl sz (xs.drop i.toNat))) else none
 | some i,some h=>if 0<=i/\i<=h/\h<=xs.length then some (.d (.sl sz ((xs.drop i.toNat).take (h.toNat-i.toNat)))) else none
def sl3(h m:Int): AV->Option AV
 | .own o sz l n=>if 0<=h/\h<=n/\m=h then some (.ow3 o sz l h.toNat) else none
 | .ow3 o sz l n=>if 0<=h/\h<=n/\m=h then some (.ow3 o sz l h.toNat) else none
 | _=>none
def Ypy(s:Nat): AV->Bool
 | .d (.sl s' _)=>Nat.beq s' s
 | .gr _ s' _=>Nat.beq s' s
 | .lit s' _=>Nat.beq s' s
 | .own _ s' _ _=>Nat.beq s' s
 | .ow3 _ s' _ _=>Nat.beq s' s
 | _=>true
def Xmw(lo hi h:Option Operand): List AV->Option (AV×Option Int×Option Int×Option Int)
 | [x]=>match lo,hi,h with
  | none,none,none=>some (x,none,none,none)
  | _,_,_=>none
 | [x,.d (.int _ a)]=>match lo,hi,h with
  | some _,none,none=>some (x,some a,none,none)
  | none,some _,none=>some (x,none,some a,none)
  | _,_,_=>none
 | [x,.d (.int _ a),.d (.int _ b)]=>match lo,hi,h with
  | some _,some _,none=>some (x,some a,some b,none)
  | none,some _,some _=>some (x,none,some a,some b)
  | _,_,_=>none
 | _=>none
def ixA(ti:TI)(j:Int): AV->Option AV
 | .d (.sl sz xs)=>ixL sz xs
 | .gr _ sz xs=>ixL sz xs
 | .lit sz xs=>ixL sz xs
 | .own o sz l n=>if 0<=j/\j<n/\sz=ti.e.size then some (.el o sz (l+j.toNat) 0) else none
 | .ow3 o sz l n=>if 0<=j/\j<n/\sz=ti.e.size then some (.el o sz (l+j.toNat) 0) else none
 | _=>none
where ixL (sz:Nat) (xs:List D):Option AV :=
 if 0<=j/\sz=ti.e.size then match xs[j.toNat]? with
  | some u=>some (.at u)
  | none=>none
 else none
def Ybz: List D->Option (List UInt8)
 | []=>some []
 | .int .u8 z::l=>match Ybz l with
  | some s=>some (UInt8.ofNat z.toNat::s)
  | none=>none
 | _=>none
def Ym7: AV->Option (List UInt8)
 | .d (.sl 1 xs) | .lit 1 xs=>Ybz xs
 | _=>none
def slS(s:List UInt8): Option Int->Option Int->Option AV
 | none,none=>some (.d (.str s))
 | none,some h=>if 0<=h/\h<=s.length then some (.d (.str (s.take h.toNat))) else none
 | some i,none=>if 0<=i/\i<=s.length then some (.d (.str (s.drop i.toNat))) else none
 | some i,some h=>if 0<=i/\i<=h/\h<=s.length then some (.d (.str ((s.drop i.toNat).take (h.toNat-i.toNat)))) else none
def Ydm: AV->Bool
 | .ptr _ _ | .d (.int ..) | .d (.str _) | .d (.bool _) | .d (.raw _) | .b _=>true
 | _=>false
def chA: List AV->Option AV
 | []=>none
 | [a]=>match Ydm a with
  | true=>some a
  | false=>none
 | a::l=>match Ydm a,chA l with
  | true,some c=>some (.pr a c)
  | _,_=>none
def okA: AV->Bool
 | .pr a c=>Ydm a&&okA c
 | a=>Ydm a
def unA: AV->List AV
 | .pr a c=>a::unA c
 | a=>[a]
def plain: AV->Bool
 | .pr _ _ | .tup _ | .un | .d (.pr _ _)=>false
 | _=>true
noncomputable def Yew(z:D)(sz:Nat): List AV->Option (List D)
 | []=>some []
 | a::l=>match toD z a with
  | none=>none
  | some x=>match plain a&&Nat.beq x.size sz&&Nat.beq a.size sz&&(a.ag||Nat.beq sz 1) with
   | false=>none
   | true=>match Yew z sz l with
    | none=>none
    | some xs=>some (x::xs)
def Xtq: Nat->List (Nat×Operand)->Bool
 | _,[]=>true
 | k,(i,_)::l=>Nat.beq i k&&Xtq (k+1) l
def Xua: AV->Nat->AV->Option AV
 | .pr a c,0,v=>match Ya5 a.size a.ag v with
  | true=>some (.pr v c)
  | false=>none
 | .pr a c,f+1,v=>match Xua c f v with
  | some h=>some (.pr a h)
  | none=>none
 | a,0,v=>match Ya5 a.size a.ag v with
  | true=>some v
  | false=>none
 | _,_,_=>none
def Xoy: AV->List (Nat×Operand)->List AV->Option AV
 | a,[],[]=>some a
 | a,(i,_)::l,v::h=>match plain v,Xua a i v with
  | true,some j=>Xoy j l h
  | _,_=>none
 | _,_,_=>none
def zP: D->AV
 | .pr x y=>.pr (zA x) (zP y)
 | x=>zA x
def Yaq: AV->AV
 | .pr a c=>prN a (Yaq c)
 | a=>a
def Ymc(ti:TI)(z:D): Bool:=match ti.arr with
 | 0=>true
 | _+1=>z.comps.all λc=>Nat.beq c.size ti.e.size&&(c.ag||Nat.beq c.size 1)
noncomputable def Fp(tb:Nat->Option TI)(op:Op)(args:List AV): Option AV :=
 match op with
 | .move _ | .assign _=>match args with
  | [a]=>some a
  | _=>none
 | .pick _ _ _=>match args with
  | [.b true,a,_]=>some a
  | [.b false,_,c]=>some c
  | _=>none
 | .extract _ i=>match args with
  | [.tup a]=>Yf1 a i
  | _=>none
 | .unOp .not _ _=>match args with
  | [.b c]=>some (.b (!c))
  | [.q p]=>some (.q (¬p))
  | _=>none
 | .unOp .neg _ _=>match args with
  | [.d (.int k z)]=>some (.d (.int k (k.wrap (0-z))))
  | _=>none
 | .binOp op T _ y _=>match args with
  | [a,c]=>Yce (tb T) op y a c
  | _=>none
 | .convert S T _=>match args with
  | [.d (.int _ z)]=>match tb S,tb T with
   | some _,some ⟨.int k _,_,_,_⟩=>some (.d (.int k (k.wrap z)))
   | _,_=>none
  | [a]=>match tb S,tb T with
   | some ⟨.sl _ _,.int .u8 _,_,_⟩,some ⟨.str _,_,_,_⟩=>match Ym7 a with
    | some s=>some (.d (.str s))
    | none=>none
   | _,_=>none
  | _=>none
 | .call ⟨.builtin .len,_,B⟩=>match args,B[0]? with
  | [a],some T=>match tb T with
   | some ⟨.sl _ _,_,_,_⟩=>match Yqj a with
    | some n=>some (.d (.int .i64 n))
    | none=>none
   | some ⟨.str _,_,_,_⟩=>match a with
    | .d (.str s)=>some (.d (.int .i64 s.length))
    | _=>none
   | _=>none
  | _,_=>none
 | .call ⟨.builtin .cap,_,B⟩=>match args,B[0]? with
  | [.nil],some T=>match tb T with
   | some ⟨.sl _ _,_,_,_⟩=>some (.d (.int .i64 0))
   | _=>none
  | _,_=>none
 | .call ⟨.builtin .min,_,_⟩=>match args with
  | [.d (.int k x),.d (.int I y)]=>if k=I then some (.d (.int k (if y<x then y else x))) else none
  | _=>none
 | .call ⟨.builtin .max,_,_⟩=>match args with
  | [.d (.int k x),.d (.int I y)]=>if k=I then some (.d (.int k (if y>x then y else x))) else none
  | _=>none
 | .nilCheck _=>match args with
  | [.ptr o off]=>some (.ptr o off)
  | _=>none
 | .fieldAddr T _ f=>match tb T with
  | some A=>match A.z,A.arr with
   | .st z,0=>match Nat.blt f z.comps.length with
    | false=>none
    | true=>match args with
     | [.at (.st x)]=>match Nat.beq (Xg6 x.comps f) (Xg6 z.comps f),Yd1 x f with
      | true,some y=>some (.at y)
      | _,_=>none
     | [.ptr o off]=>some (.ptr o (off+Xg6 z.comps f))
     | [.el o sz j off]=>some (.el o sz j (off+Xg6 z.comps f))
     | _=>none
   | _,_=>none
  | none=>none
 | .field T _ f=>match tb T with
  | some A=>match A.z,A.arr with
   | .st z,0=>match args with
    | [.d (.st x)]=>match Xqs ((z.comps[f]?).getD (.bool false)).size ((z.comps[f]?).getD (.bool false)).ag x (Xg6 z.comps f),Nat.blt f z.comps.length with
     | some y,true=>some (nb y)
     | _,_=>none
    | [.st x]=>match Xtg ((z.comps[f]?).getD (.bool false)).size ((z.comps[f]?).getD (.bool false)).ag x (Xg6 z.comps f),Nat.blt f z.comps.length with
     | some y,true=>some y
     | _,_=>none
    | _=>none
   | _,_=>none
  | none=>none
 | .indexAddr T _ _=>match tb T,args with
  | some A,[a,.d (.int _ j)]=>match A.z,a with
   | .sl _ _,a=>ixA A j a
   | .st _,.ptr o off=>if 0<=j/\j<A.arr then some (.ptr o (off+j.toNat*A.e.size)) else none
   | _,_=>none
  | _,_=>none
 | .slice T _ lo hi M=>match tb T with
  | some A=>match A.z,Xmw lo hi M args with
   | .sl _ _,some (a,l,h,none)=>match Ypy A.e.size a with
    | true=>slA l h a
    | false=>none
   | .sl _ _,some (a,none,some h,some m)=>if h=0/\m=0/\Yih a then some .nil else sl3 h m a
   | .str _,some (.d (.str s),l,h,none)=>slS s l h
   | _,_=>none
  | none=>none
 | .build T ps=>match tb T with
  | some A=>match A.z with
   | .st z=>match Ymc A z,Xoy (zP z) ps.toList args with
    | true,some a=>some (stN (Yaq a))
    | _,_=>none
   | _=>none
  | none=>none
 | .buildSlice T n ps=>match tb T with
  | some A=>match A.z with
   | .sl sz _=>match Nat.ble (n*sz) 16777216&&Nat.beq ps.size n&&Xtq 0 ps.toList,Yew A.e sz args with
    | true,some xs=>some (.lit sz xs)
    | _,_=>none
   | _=>none
  | none=>none
 | .index T _ _=>match tb T,args with
  | some ⟨.str _,_,_,_⟩,[.d (.str s),.d (.int _ j)]=>if 0<=j then match s[j.toNat]? with
   | some b=>some (.d (.int .u8 b.toNat))
   | none=>none
   else none
  | _,_=>none
 | .makeFunc fn ⟨[]⟩ ⟨l⟩=>match fn,l,args with
  | fn,[],_=>some (.d (.raw (.func fn #[] #[])))
  | .func f,[_],[.ptr o 0]=>some (.fn f o)
  | .func f,_::_::_,_=>match chA args with
   | some a=>some (.fm f a)
   | none=>none
  | _,_,_=>none
 | _=>none
def Xh8(n:Nat)(ti:TI): Prop:=n*ti.eb<=140737488355328/\n<9223372036854775808
noncomputable def Xqw(g:Hp)(z:D)(sz:Nat): AV->Option (List D)
 | .own o s l n=>match g o with
  | some (.arr s' h)=>if s'=sz/\s=sz/\l+n<=h.length then some ((h.drop l).take n) else none
  | _=>none
 | .ow3 o s l n=>match g o with
  | some (.arr s' h)=>if s'=sz/\s=sz/\l+n<=h.length then some ((h.drop l).take n) else none
  | _=>none
 | c=>match toD z c with
  | some (.sl s h)=>if s=sz then some h else none
  | _=>none
open Classical in
noncomputable def Xzg(d:Nat)(g:Hp)(ti:TI)(sz:Nat)(ys:List D): AV->Option (AV×List (Nat×Ob))
 | .nil=>if Xh8 ys.length ti then some (.gr d sz ys,[(d,.tok ys.length sz)]) else none
 | .lit s xs=>if Xh8 (xs.length+ys.length) ti/\0<ys.length/\s=sz then some (.own d sz 0 (xs.length+ys.length),[(d,.arr sz (xs++ys))]) else if Xh8 (xs.length+ys.length) ti/\ys.length=0/\s=sz then some (.lit s xs,[]) else none
 | .gr o s xs=>match g o with
  | some (.tok n s')=>if Xh8 (xs.length+ys.length) ti/\n=xs.length/\s=sz/\s'=sz then some (.gr d sz (xs++ys),[(d,.tok (xs.length+ys.length) sz),(o,.dead)]) else none
  | _=>none
 | .own o s l n=>match g o with
  | some (.arr s' xs)=>if Xh8 (xs.length+ys.length) ti/\l=0/\n=xs.length/\s=sz/\s'=sz then some (.own d sz 0 (xs.length+ys.length),[(d,.arr sz (xs++ys)),(o,.dead)]) else none
  | _=>none
 | .ow3 o s l n=>match g o with
  | some (.arr s' xs)=>if Xh8 (n+ys.length) ti/\l=0/\n<=xs.length/\s=sz/\s'=sz then if ys.length=0 then some (.ow3 o s 0 n,[]) else some (.own d sz 0 (n+ys.length),[(d,.arr sz (xs.take n++ys))]) else none
  | _=>none
 | _=>none
open Classical in
noncomputable def F(tb:Nat->Option TI)(d:Nat)(g:Hp)(op:Op)(args:List AV): Option (AV×List (Nat×Ob)) :=
 match op with
 | .load T _=>match tb T with
  | some h=>match args with
   | [.at x]=>match fit h.z.size h.z.ag x with
    | true=>some (nb x,[])
    | false=>none
   | [.ptr o off]=>match g o with
    | some (.var a)=>match Xtg h.z.size h.z.ag a off with
     | some y=>some (y,[])
     | none=>none
    | _=>none
   | [.el o sz j off]=>match g o with
    | some (.arr i xs)=>if sz=i then match xs[j]? with
     | some x=>match Xqs h.z.size h.z.ag x off with
      | some y=>some (nb y,[])
      | none=>none
     | none=>none
     else none
    | _=>none
   | _=>none
  | none=>none
 | .store T _ _=>match tb T with
  | some h=>match args with
   | [.ptr o off,v]=>match g o with
    | some (.var a)=>match plain v&&Nat.beq v.size h.z.size,Xtc v a off with
     | true,some A=>some (.ub True,[(o,.var A)])
     | _,_=>none
    | _=>none
   | [.el o sz j 0,v]=>match g o with
    | some (.arr i xs)=>match toD h.z v with
     | some x=>if plain v=true/\sz=i/\v.size=sz/\x.size=sz/\h.z.size=sz/\j<xs.length then some (.ub True,[(o,.arr sz (xs.set j x))]) else none
     | none=>none
    | _=>none
   | _=>none
  | none=>none
 | .alloc T=>match tb T,g d,args with
  | some h,none,[]=>some (.ptr d 0,[(d,.var (zA h.z))])
  | _,_,_=>none
 | .box T _=>match g d,args with
  | none,[a]=>match plain a with
   | true=>some (.ptr d 0,[(d,.var a)])
   | false=>none
  | _,_=>none
 | .makeSlice T _ _=>match tb T,g d,args with
  | some h,none,[.d (.int _ m),.d (.int _ c)]=>match h.z with
   | .sl sz _=>if 0<=m/\m<=c/\Xh8 c.toNat h then some (.own d sz 0 m.toNat,[(d,.arr sz (List.replicate m.toNat h.e))]) else none
   | _=>none
  | _,_,_=>none
 | .call ⟨.builtin .append,_,⟨[T,T']⟩⟩=>match args with
  | [a,c]=>if T=T' then match tb T,g d with
   | some h,none=>match h.z with
    | .sl sz _=>match Xqw g h.z sz c with
     | some B=>Xzg d g h sz B a
     | none=>none
    | _=>none
   | _,_=>none
   else none
  | _=>none
 | op=>match Fp tb op args with
  | some v=>some (v,[])
  | none=>none
end
section
variable{W:GW}{θ:Loc}
theorem Yne{a b:Nat}(h:Nat.blt a b=false): ¬a<b:=λi=>by rw[show Nat.blt a b=true from Nat.ble_eq_true_of_le i] at h;cases h
theorem Ynf: ∀ {x:D} {cs:List Value},D.At W x cs->AV.C W θ (nb x) cs
 | .bool c,cs,h=>h
 | .int ..,_,h | .str _,_,h | .raw _,_,h | .sl ..,_,h | .st _,_,h | .pr ..,_,h=>h
theorem Xpe(x:D): (nb x).size=x.size:=by cases x<;>rfl
theorem Yf5(x:D): (nb x).ag=x.ag:=by cases x<;>rfl
theorem Xr5(x:D)(i:Nat): ¬(nb x).ids i:=by cases x<;>exact id
theorem Xzs{a:AV}{cs:List Value}(h:AV.C W θ a cs): AV.C W θ (stN a) cs:=by cases a<;>exact h
theorem Xky{a:AV}{i:Nat}(h:(stN a).ids i): a.ids i:=by cases a<;>exact h
theorem Xqv(a:AV): (stN a).ag=true:=by cases a<;>rfl
theorem Xzr(a:AV): (stN a).size=a.size:=by cases a<;>rfl
theorem Yae{a c:AV}{u v:List Value}(h:AV.C W θ a u)(k:AV.C W θ c v): AV.C W θ (prN a c) (u++v):=by
 unfold prN;split
 . exact⟨u,v,rfl,h,k⟩
 . exact⟨u,v,rfl,h,k⟩
theorem Xlb{a c:AV}{i:Nat}(h:(prN a c).ids i): a.ids i\/c.ids i:=by
 unfold prN at h;split at h
 . exact h.elim
 . exact h
theorem Yad(a c:AV): (prN a c).size=a.size+c.size:=by
 unfold prN;split<;>rfl
theorem Yj1(a c:AV): (prN a c).ag=false:=by
 unfold prN;split<;>rfl
theorem Yej: ∀ {x:D},x.isZ=true->AV.C W θ (zA x) x.zc
 | .bool c,h=>by
  have:c=false:=by simpa [D.isZ] using h
  subst this;rfl
 | .sl ..,_=>⟨none,rfl⟩
 | .st x,h=>Xzs (Yej (x:=x) h)
 | .pr x y,h=>by
  have:x.isZ=true/\y.isZ=true:=by simpa [D.isZ] using h
  exact Yae (Yej this.1) (Yej this.2)
 | .int k z,h=>D.at_zc (.int k z) h
 | .str s,h=>D.at_zc (.str s) h
 | .raw u,h=>D.at_zc (.raw u) h
theorem Xhm: ∀(x:D) (i:Nat),¬(zA x).ids i
 | .bool _,_ | .sl ..,_ | .int ..,_ | .str _,_ | .raw _,_=>id
 | .st x,i=>λh=>Xhm x i (Xky h)
 | .pr x y,i=>λh=>(Xlb h).elim (Xhm x i) (Xhm y i)
theorem Xga: ∀(x:D),(zA x).size=x.size
 | .bool _ | .sl .. | .int .. | .str _ | .raw _=>rfl
 | .st x=>by rw[zA,Xzr,Xga x];rfl
 | .pr x y=>by rw[zA,Yad,Xga x,Xga y];rfl
theorem Yek: ∀(x:D),(zA x).ag=x.ag
 | .bool _ | .sl .. | .int .. | .str _ | .raw _=>rfl
 | .st x=>Xqv _
 | .pr x y=>Yj1 _ _
theorem Xmq: ∀ {z:D} {a:AV} {x:D} {cs:List Value},toD z a=some x->AV.C W θ a cs->D.At W x cs:=by
 intro z a
 induction a generalizing z with
 | d y=>intro x cs h i;simp[toD] at h;subst h;exact i
 | b c=>intro x cs h i;simp[toD] at h;subst h;exact i
 | q p =>
  intro x cs h i
  simp only[toD,Option.some.injEq] at h;subst h
  obtain⟨c,e,hp⟩:=i
  show cs=[.bool (@decide p (Classical.propDecidable p))]
  rw[e]
  cases c with
  | true=>simp[hp.1 rfl]
  | false =>
   have:¬p:=λU=>by simpa using hp.2 U
   simp[this]
 | nil =>
  intro x cs h i
  cases z<;>simp[toD] at h
  subst h
  obtain⟨p,e⟩:=i
  exact⟨p,0,e,W0c _,by decide,.inl rfl⟩
 | gr o sz xs =>
  intro x cs h i
  simp[toD] at h;subst h
  obtain⟨p,e,h0,j,A,B⟩:=i
  refine⟨_,_,e,j,A,?_⟩
  rcases h0 with h0 | h0
  . exact .inl (W0n (by omega))
  . refine B.imp id ?_
    rintro⟨I,hb,V⟩
    exact⟨I,0,by rw[h0,hb];rfl,V⟩
 | st a Y =>
  intro x cs h i
  cases z<;>simp only[toD] at h<;>try cases h
  split at h
  . rename_i y M
    injection h with h;subst h;exact show D.At W y cs from Y M i
  . cases h
 | pr a c O Q =>
  intro x cs h i
  cases z<;>simp only[toD] at h<;>try cases h
  split at h
  . rename_i y y' M T
    injection h with h;subst h
    obtain⟨u,v,e,j,A⟩:=i
    exact⟨u,v,e,O M j,Q T A⟩
  . cases h
 | lit sz xs =>
  intro x cs h i
  simp[toD] at h;subst h
  obtain⟨p,e,j,A⟩:=i
  exact⟨_,_,e,W0c _,j,A.imp_right λ⟨b,B,Z⟩=>⟨b,0,B,Z⟩⟩
 | _=>intro x cs h i;simp[toD] at h
theorem Xnu{s:Nat}{g:Bool}{x:D}(h:fit s g x=true): x.size=s/\x.ag=g:=by
 simp only[fit,W0h,beq_iff_eq] at h
 exact⟨W0g h.1,h.2⟩
theorem Xdd{s:Nat}{g:Bool}{x:AV}(h:Ya5 s g x=true): x.size=s/\x.ag=g:=by
 simp only[Ya5,W0h,beq_iff_eq] at h
 exact⟨W0g h.1,h.2⟩
theorem Yi5{s:Nat}{g:Bool}{x y:D}(i:∀z,x≠.st z)(hp:∀u v,x≠.pr u v){off:Nat}(h:Xqs s g x off=some y): off=0/\y=x/\x.size=s/\x.ag=g:=by
 unfold Xqs at h
 split at h
 . exact absurd rfl (i _)
 . exact absurd rfl (i _)
 . exact absurd rfl (hp _ _)
 . split at h
   . rename_i hf;injection h with h;exact⟨rfl,h.symm,Xnu hf⟩
   . cases h
 . cases h
theorem Xux{s:Nat}{g:Bool}: ∀ {x:D} {off:Nat} {y:D} {cs:List Value},Xqs s g x off=some y->D.At W x cs ->
 ∃u m v,cs=u++(m++v)/\u.length=off/\D.At W y m/\y.size=s/\y.ag=g:=by
 intro x
 induction x using D.ind with
 | st x O =>
  intro off y cs h i
  cases off with
  | zero =>
   simp only[Xqs] at h
   split at h
   . rename_i hf;injection h with h;subst h
     exact⟨[],cs,[],by simp,rfl,i,Xnu hf⟩
   . exact O h i
  | succ off=>simp only[Xqs] at h;exact O h i
 | pr a c o A =>
  intro off y cs h i
  obtain⟨u,v,e,Q,T⟩:=i
  simp only[Xqs] at h
  split at h
  . obtain⟨B,m,I,j,r⟩:=o h Q
    exact⟨B,m,I++v,by rw[e,j];simp,r⟩
  . rename_i hb
    obtain⟨B,m,I,j,M,r⟩:=A h T
    refine⟨u++B,m,I,by rw[e,j];simp,?_,r⟩
    have Z:=D.at_len a Q
    have:¬off<a.size:=Yne hb
    rw[W0d,M];omega
 | leaf x U hp =>
  intro off y cs h i
  obtain⟨j,M,V,Y⟩:=Yi5 U hp h
  subst M
  exact⟨[],cs,[],by simp,j.symm,i,V,Y⟩
theorem Yi6{s:Nat}{g:Bool}{x y:AV}(i:∀z,x≠.st z)(hp:∀u v,x≠.pr u v)(hd:∀u,x≠.d u){off:Nat}(h:Xtg s g x off=some y): off=0/\y=x/\x.size=s/\x.ag=g:=by
 unfold Xtg at h
 split at h
 . exact absurd rfl (hd _)
 . exact absurd rfl (i _)
 . exact absurd rfl (i _)
 . exact absurd rfl (hp _ _)
 . split at h
   . rename_i hf;injection h with h;exact⟨rfl,h.symm,Xdd hf⟩
   . cases h
 . cases h
theorem Ycw{s:Nat}{g:Bool}: ∀ {x:AV} {off:Nat} {y:AV} {cs:List Value},Xtg s g x off=some y->AV.C W θ x cs ->
 ∃u m v,cs=u++(m++v)/\u.length=off/\AV.C W θ y m/\y.size=s/\y.ag=g/\∀i,y.ids i->x.ids i:=by
 intro x
 induction x with
 | d x =>
  intro off y cs h j
  simp only[Xtg] at h
  split at h
  . rename_i z hz
    injection h with h;subst h
    obtain⟨u,m,v,o,A,B,I,M⟩:=Xux hz j
    exact⟨u,m,v,o,A,Ynf B,by rw[Xpe,I],by rw[Yf5,M],λi hi=>absurd hi (Xr5 _ i)⟩
  . cases h
 | st x Y =>
  intro off y cs h j
  cases off with
  | zero =>
   simp only[Xtg] at h
   split at h
   . rename_i hf;injection h with h;subst h
     exact⟨[],cs,[],by simp,rfl,j,(Xdd hf).1,(Xdd hf).2,λ_ h=>h⟩
   . exact Y h j
  | succ off=>simp only[Xtg] at h;exact Y h j
 | pr a c O Q =>
  intro off y cs h j
  obtain⟨u,v,e,Z,h2⟩:=j
  simp only[Xtg] at h
  split at h
  . obtain⟨T,m,U,o,A,B,I,M,V⟩:=O h Z
    exact⟨T,m,U++v,by rw[e,o];simp,A,B,I,M,λi hi=>.inl (V i hi)⟩
  . rename_i hb
    obtain⟨T,m,U,o,A,B,I,M,V⟩:=Q h h2
    refine⟨u++T,m,U,by rw[e,o];simp,?_,B,I,M,λi hi=>.inr (V i hi)⟩
    have hl:=AV.c_len a Z
    have:¬off<a.size:=Yne hb
    rw[W0d,A];omega
 | _ =>
  intro off y cs h j
  obtain⟨o,A,B,I⟩:=Yi6 (by nofun) (by nofun) (by nofun) h
  subst A
  exact⟨[],cs,[],by simp,o.symm,j,B,I,λ_ h=>h⟩
def Put(W:GW)(θ:Loc)(v:AV)(vs cs:List Value)(off:Nat)(h:AV)(I:Nat->Prop): Prop :=
 ∃u m w,cs=u++(m++w)/\u.length=off/\m.length=v.size/\AV.C W θ h (u++(vs++w))/\∀i,h.ids i->I i\/v.ids i
theorem Put.st{v:AV}{vs cs:List Value}{off:Nat}{j:AV}{I:Nat->Prop}(h:Put W θ v vs cs off j I): Put W θ v vs cs off (stN j) I:=by
 obtain⟨u,m,w,o,A,B,M,O⟩:=h
 exact⟨u,m,w,o,A,B,Xzs M,λi hi=>O i (Xky hi)⟩
theorem Put.left{v:AV}{vs cs j:List Value}{off:Nat}{o c:AV}{I J:Nat->Prop}(h:Put W θ v vs cs off o I)(A:AV.C W θ c j)(B:∀i,I i->J i)(M:∀i,c.ids i->J i):
 Put W θ v vs (cs++j) off (prN o c) J:=by
 obtain⟨u,m,w,O,Q,T,U,V⟩:=h
 refine⟨u,m,w++j,by rw[O];simp,Q,T,?_,λi hi=>?_⟩
 . have:=Yae U A;simpa using this
 . rcases Xlb hi with h | h
   . exact(V i h).imp (B i) id
   . exact .inl (M i h)
theorem Put.right{v:AV}{vs cs j:List Value}{off:Nat}{o c:AV}{I J:Nat->Prop}(h:Put W θ v vs j off o I)(A:AV.C W θ c cs)(B:∀i,I i->J i)(M:∀i,c.ids i->J i):
 Put W θ v vs (cs++j) (cs.length+off) (prN c o) J:=by
 obtain⟨u,m,w,O,Q,T,U,V⟩:=h
 refine⟨cs++u,m,w,by rw[O];simp,by rw[W0d,Q],T,?_,λi hi=>?_⟩
 . have:=Yae A U;simpa using this
 . rcases Xlb hi with h | h
   . exact .inl (M i h)
   . exact(V i h).imp (B i) id
theorem Put.all{v:AV}{vs cs:List Value}{I:Nat->Prop}(i:AV.C W θ v vs)(j:cs.length=v.size): Put W θ v vs cs 0 v I :=
 ⟨[],cs,[],by simp,rfl,j,by simpa using i,λ_ h=>.inr h⟩
theorem Yit{v:AV}{x:D}{y:AV}(i:∀z,x≠.st z)(hp:∀u v,x≠.pr u v){off:Nat}(h:Xui v x off=some y): off=0/\y=v/\x.size=v.size:=by
 unfold Xui at h
 split at h
 . exact absurd rfl (i _)
 . exact absurd rfl (i _)
 . exact absurd rfl (hp _ _)
 . split at h
   . rename_i hf;injection h with h;exact⟨rfl,h.symm,(Xnu hf).1⟩
   . cases h
 . cases h
theorem Yiu{v:AV}{vs:List Value}(I:AV.C W θ v vs): ∀ {x:D} {off:Nat} {M:AV} {cs:List Value},Xui v x off=some M->D.At W x cs->Put W θ v vs cs off M λ_=>False:=by
 intro x
 induction x using D.ind with
 | st x O =>
  intro off y cs h i
  cases off with
  | zero =>
   simp only[Xui] at h
   split at h
   . rename_i hf;injection h with h;subst h
     exact .all I (by rw[D.at_len _ i,(Xnu hf).1])
   . split at h
     . rename_i j;injection h with h;subst h;exact(O j i).st
     . cases h
  | succ off =>
   simp only[Xui] at h
   split at h
   . rename_i j;injection h with h;subst h;exact(O j i).st
   . cases h
 | pr a c o A =>
  intro off y cs h i
  obtain⟨u,w,e,B,Q⟩:=i
  subst e
  simp only[Xui] at h
  split at h
  . split at h
    . rename_i j;injection h with h;subst h
      exact(o j B).left Q (λ_ h=>h) (λ_ h=>h)
    . cases h
  . rename_i hb
    split at h
    . rename_i j;injection h with h;subst h
      have Z:=D.at_len a B
      have hn:¬off<a.size:=Yne hb
      have:=(A j Q).right (c:=.d a) B (λ_ h=>h) (λ_ h=>h)
      rwa[show u.length+(off-a.size)=off by omega] at this
    . cases h
 | leaf x T hp =>
  intro off y cs h i
  obtain⟨U,V,Y⟩:=Yit T hp h
  subst U;subst V
  exact .all I (by rw[D.at_len _ i,Y])
theorem Yiv{v:AV}{x:AV}{y:AV}(i:∀z,x≠.st z)(hp:∀u v,x≠.pr u v)(hd:∀u,x≠.d u){off:Nat}(h:Xtc v x off=some y): off=0/\y=v/\x.size=v.size:=by
 unfold Xtc at h
 split at h
 . exact absurd rfl (hd _)
 . exact absurd rfl (i _)
 . exact absurd rfl (i _)
 . exact absurd rfl (hp _ _)
 . split at h
   . rename_i hf;injection h with h;exact⟨rfl,h.symm,(Xdd hf).1⟩
   . cases h
 . cases h
theorem Yco{v:AV}{vs:List Value}(A:AV.C W θ v vs): ∀ {x:AV} {off:Nat} {U:AV} {cs:List Value},Xtc v x off=some U->AV.C W θ x cs->Put W θ v vs cs off U x.ids:=by
 intro x
 induction x with
 | d x =>
  intro off y cs h j
  simp only[Xtc] at h
  obtain⟨u,m,w,B,I,M,Z,e5⟩:=Yiu A h j
  exact⟨u,m,w,B,I,M,Z,λi hi=>(e5 i hi).imp (λh=>h.elim) id⟩
 | st x V =>
  intro off y cs h j
  cases off with
  | zero =>
   simp only[Xtc] at h
   split at h
   . rename_i hf;injection h with h;subst h
     exact .all A (by rw[AV.c_len _ j,(Xdd hf).1])
   . split at h
     . rename_i o;injection h with h;subst h;exact(V o j).st
     . cases h
  | succ off =>
   simp only[Xtc] at h
   split at h
   . rename_i o;injection h with h;subst h;exact(V o j).st
   . cases h
 | pr a c O Q =>
  intro off y cs h j
  obtain⟨u,w,e,T,Y⟩:=j
  subst e
  simp only[Xtc] at h
  split at h
  . split at h
    . rename_i o;injection h with h;subst h
      exact(O o T).left Y (λ_ h=>.inl h) (λ_ h=>.inr h)
    . cases h
  . rename_i hb
    split at h
    . rename_i o;injection h with h;subst h
      have hl:=AV.c_len a T
      have hn:¬off<a.size:=Yne hb
      have:=(Q o Y).right (c:=a) (J:=λi=>a.ids i\/c.ids i) T (λ_ h=>.inr h) (λ_ h=>.inl h)
      rwa[show u.length+(off-a.size)=off by omega] at this
    . cases h
 | _ =>
  intro off y cs h j
  obtain⟨B,I,M⟩:=Yiv (by nofun) (by nofun) (by nofun) h
  subst B;subst I
  exact .all A (by rw[AV.c_len _ j,M])
theorem Yla: ∀ {x:D} {f:Nat} {y:D} {cs:List Value},Yd1 x f=some y->D.At W x cs->∃u m v,cs=u++(m++v)/\u.length=Xg6 x.comps f/\D.At W y m:=by
 intro x
 induction x using D.ind with
 | pr a c _ j =>
  intro f y cs h i
  obtain⟨u,v,e,o,A⟩:=i
  cases f with
  | zero =>
   simp only[Yd1] at h;injection h with h;subst h
   exact⟨[],u,v,by simpa using e,rfl,o⟩
  | succ f =>
   simp only[Yd1] at h
   obtain⟨B,m,I,M,O,Q⟩:=j h A
   exact⟨u++B,m,I,by rw[e,M];simp,by rw[W0d,O,D.at_len a o];rfl,Q⟩
 | leaf x T hp =>
  intro f y cs h i
  unfold Yd1 at h
  split at h
  . exact absurd rfl (hp _ _)
  . exact absurd rfl (hp _ _)
  . injection h with h;subst h;exact⟨[],cs,[],by simp,by cases x<;>rfl,i⟩
  . cases h
 | st x j =>
  intro f y cs h i
  cases f with
  | zero=>simp only[Yd1] at h;injection h with h;subst h;exact⟨[],cs,[],by simp,rfl,i⟩
  | succ f=>simp[Yd1] at h
theorem Ymt{a:AV}{cs:List Value}(h:AV.C W θ a cs): AV.V1 W θ a (mkv a.ag cs):=⟨cs,h,rfl⟩
theorem Yms{a:AV}{cs:List Value}(h:AV.C W θ a cs): AV.V W θ a (mkv a.ag cs):=by
 cases a with
 | tup a=>exact h.elim
 | un=>exact h.elim
 | _=>exact Ymt h
theorem V_c{a:AV}{v:Value}(h:AV.V W θ a v)(i:∀b,a≠.tup b)(j:a≠.un): ∃cs,AV.C W θ a cs/\v=mkv a.ag cs:=by
 cases a with
 | tup a=>exact absurd rfl (i a)
 | un=>exact absurd rfl j
 | _=>exact h
theorem Yhh{a:AV}{cs:List Value}(h:AV.C W θ a cs)(hs:a.size=1): ∃v,cs=[v]:=by
 have:=AV.c_len a h
 match cs,this with
 | [v],_=>exact⟨v,rfl⟩
 | [],h=>simp[hs] at h
 | _::_::_,h=>simp[hs] at h
theorem Xyi{a:AV}{cs:List Value}(h:AV.C W θ a cs)(i:a.ag=true\/a.size=1): (mkv a.ag cs).cells.toList=cs:=by
 cases e:a.ag with
 | true=>simp[mkv,Value.cells]
 | false =>
  rcases i with i | i
  . rw[e] at i;cases i
  . obtain⟨v,rfl⟩:=Yhh h i
    have:=AV.c_one a h v (W0f.2 rfl)
    cases v<;>simp_all[mkv,Value.cells,Xgz]
end
section
structure Stp (N:Nat->Prop) (W W':GW) (θ θ':Loc) (g g':Hp):Prop where
 os:W'.w.os=W.w.os
 out:W'.w.output=W.w.output
 tape:W'.w.tape=W.w.tape
 size:W.size<=W'.size
 same:∀b,b<W.size->¬N b->W'.w.heap[b]?=W.w.heap[b]?
 A:∀b,b<W.size->¬N b->∀i,W'.A b i↔W.A b i
 le:LeF W W'
 th:∀i y,g i=some y->θ' i=θ i
 hi:∀i,1000000<=i->θ' i=θ i
 obs:Obs W' θ' N g'
 dom:∀i y,g i=some y->∃y',g' i=some y'
theorem Stp.rfl{N:Nat->Prop}{W:GW}{θ:Loc}{g:Hp}(h:Obs W θ N g): Stp N W W θ θ g g :=
 ⟨_root_.rfl,_root_.rfl,_root_.rfl,W0c _,λ_ _ _=>_root_.rfl,λ_ _ _ _=>W4f,LeF.refl W,λ_ _ _=>_root_.rfl,λ_ _=>_root_.rfl,h,λ_ y h=>⟨y,h⟩⟩
theorem Yfp(a:Act)(d t:Nat)(u:Value): (a.put (some d) u).tmps.getD t undef=if t=d/\d<a.tmps.size then u else a.tmps.getD t undef:=by
 simp only[Act.put,Array.getD_eq_getD_getElem?,W3s]
 by_cases h:d=t
 . subst h
   by_cases i:d<a.tmps.size
   . simp[i]
   . rw[if_pos _root_.rfl,if_neg i,if_neg (by simp[i]),W4b (by omega)]
 . rw[if_neg h,if_neg (λe=>h e.1.symm)]
theorem Sat.step0{W0:GW}{X:Nat->Prop}{n:Nat}{s:Ev×Hp}{a:Act}{W W':GW}{θ θ':Loc}{g':Hp}(h:Sat W0 X n s a W θ)(k:Stp (λb=>W0.size<=b\/X b) W W' θ θ' s.2 g'):
 Sat W0 X n (s.1,g') a W' θ' where
 fm:={
  os:=k.os.trans h.fm.os
  out:=k.out.trans h.fm.out
  tape:=k.tape.trans h.fm.tape
  size:=W0l h.fm.size k.size
  same:=λb hb o=>(k.same b (W0u hb h.fm.size) (λj=>j.elim (λj=>absurd hb (W6j.2 j)) o)).trans (h.fm.same b hb o)
  A:=λb hb o i=>(k.A b (W0u hb h.fm.size) (λj=>j.elim (λj=>absurd hb (W6j.2 j)) o) i).trans (h.fm.A b hb o i)
  le:=h.fm.le.trans k.le }
 rel:=⟨h.rel.defers,h.rel.size,λt v B=>(h.rel.has t v B).mono k.le λi hi=>let ⟨y,I⟩:=h.ids t v i B hi;k.th i y I⟩
 obs:=k.obs
 ids:=λt v i B hi=>let ⟨y,I⟩:=h.ids t v i B hi;k.dom i y I
theorem Sat.put{W0:GW}{X:Nat->Prop}{n:Nat}{s:Ev×Hp}{a:Act}{W:GW}{θ:Loc}{d:Nat}{v:AV}{u:Value}(h:Sat W0 X n s a W θ)(hd:d<n)(I:AV.V W θ v u)
 (hi:∀i,v.ids i->∃y,s.2 i=some y):Sat W0 X n (upd s.1 d v,s.2) (a.put (some d) u) W θ where
 fm:=h.fm
 rel:=⟨h.rel.defers,by simp[Act.put,h.rel.size],λt w A=>by
  rw[Yfp]
  rcases Xae A with ⟨o,j⟩ | ⟨o,j⟩
  . subst o;subst j;rw[if_pos ⟨_root_.rfl,by rw[h.rel.size];exact hd⟩];exact I
  . rw[if_neg (λe=>o e.1)];exact h.rel.has t w j⟩
 obs:=h.obs
 ids:=λt w i A B=>by
  rcases Xae A with ⟨o,j⟩ | ⟨o,j⟩
  . subst j;exact hi i B
  . exact h.ids t w i j B
theorem Ob.R.lt{W:GW}{θ:Loc}{o b:Nat}{x:Ob}(h:x.R W θ o)(B:x.live=true)(hb:(θ o).1=some b): b<W.size:=by
 cases x with
 | var a=>obtain⟨A,cs,T,i,j,_⟩:=h;rw[hb] at i;injection i with i;subst i;exact Xa3 j
 | arr sz xs=>obtain⟨A,cs,T,i,j,_⟩:=h;rw[hb] at i;injection i with i;subst i;exact Xa3 j
 | tok n sz =>
  obtain⟨_,_,h | ⟨A,cs,T,i,j,_⟩⟩:=h
  . rw[hb] at h;cases h.1
  . rw[hb] at i;injection i with i;subst i;exact Xa3 j
 | dead=>cases B
section
variable{N:Nat->Prop}{W:GW}{θ:Loc}{g:Hp}
theorem Obs.lt(h:Obs W θ N g){o b:Nat}{x:Ob}(i:g o=some x)(j:x.live=true)(hb:(θ o).1=some b): b<W.w.heap.size:=(h.r o x i).lt j hb
theorem Xna(W:GW)(o:Obj)(L:Nat->Prop): (W.push o L).w.heap.size=W.w.heap.size+1:=World.size_alloc ..
theorem Stp.push0(h:Obs W θ N g)(o:Obj)(L:Nat->Prop): Stp N W (W.push o L) θ θ g g where
 os:=_root_.rfl
 out:=_root_.rfl
 tape:=_root_.rfl
 size:=W2e (by show W.w.heap.size<(W.push o L).w.heap.size;rw[Xna];omega)
 same:=λb hb _=>Xei _ _ _ hb
 A:=λb hb _ i=>⟨λh=>h.elim id λh=>absurd h.1 (Nat.ne_of_lt hb),.inl⟩
 le:=Xee W o L
 th:=λ_ _ _=>_root_.rfl
 hi:=λ_ _=>_root_.rfl
 obs:={
  r:=λB x j=>(h.r B x j).keep (Xee W o L) _root_.rfl (λ_ _=>_root_.rfl) λI b hb=>⟨Xei _ _ _ (h.lt j I hb),λi hi=>.inl hi⟩
  new:=h.new
  dis:=h.dis
  ids:=h.ids }
 dom:=λ_ y h=>⟨y,h⟩
theorem Stp.push(h:Obs W θ N g)(hN:∀b,W.size<=b->N b){d c:Nat}(hB:d<1000000)(hd:g d=none)(o:Obj)(L:Nat->Prop){x:Ob}(hx:x.R (W.push o L) (λi=>if i=d then (some W.size,c) else θ i) d)
 (hi:∀i,x.ids i->∃y,g i=some y):Stp N W (W.push o L) θ (λi=>if i=d then (some W.size,c) else θ i) g (upd g d x) where
 os:=_root_.rfl
 out:=_root_.rfl
 tape:=_root_.rfl
 size:=W2e (by show W.w.heap.size<(W.push o L).w.heap.size;rw[Xna];omega)
 same:=λb hb _=>Xei _ _ _ hb
 A:=λb hb _ i=>⟨λh=>h.elim id λh=>absurd h.1 (Nat.ne_of_lt hb),.inl⟩
 le:=Xee W o L
 th:=λi y I=>if_neg λe=>by rw[e,hd] at I;cases I
 hi:=λi h=>if_neg (by omega)
 obs:={
  r:=λQ y I=>by
   rcases Xae I with ⟨B,j⟩ | ⟨B,j⟩
   . subst B;subst j;exact hx
   . exact(h.r Q y j).keep (Xee W o L) (if_neg B) (λi hi=>if_neg λe=>by obtain⟨z,T⟩:=h.ids Q y i j hi;rw[e,hd] at T;cases T)
      λY b hb=>⟨Xei _ _ _ (h.lt j Y hb),λi hi=>.inl hi⟩
  new:=λQ y b I Y hb=>by
   rcases Xae I with ⟨B,j⟩ | ⟨B,j⟩
   . subst B;rw[if_pos _root_.rfl] at hb;injection hb with hb;exact hN b (by rw[hb];exact W0c _)
   . rw[if_neg B] at hb;exact h.new Q y b j Y hb
  dis:=λo1 o2 y1 y2 b h1 h2 l1 l2 M O=>by
   rcases Xae h1 with ⟨B,Z⟩ | ⟨B,Z⟩
   . rcases Xae h2 with ⟨j,U⟩ | ⟨j,U⟩
     . exact B.trans j.symm
     . rw[if_pos B] at M;rw[if_neg j] at O
       injection M with M
       exact absurd (h.lt U l2 O) (by rw[<-M];exact W7q _)
   . rcases Xae h2 with ⟨j,U⟩ | ⟨j,U⟩
     . rw[if_neg B] at M;rw[if_pos j] at O
       injection O with O
       exact absurd (h.lt Z l1 M) (by rw[<-O];exact W7q _)
     . rw[if_neg B] at M;rw[if_neg j] at O;exact h.dis o1 o2 y1 y2 b Z U l1 l2 M O
  ids:=λQ y i I V=>by
   have:∃z,g i=some z:=by
    rcases Xae I with ⟨B,j⟩ | ⟨B,j⟩
    . subst j;exact hi i V
    . exact h.ids Q y i j V
   obtain⟨z,T⟩:=this
   exact⟨z,by rw[Xam (λe=>by rw[e,hd] at T;cases T)];exact T⟩ }
 dom:=λi y I=>⟨y,by rw[Xam (λe=>by rw[e,hd] at I;cases I)];exact I⟩
theorem Stp.put(h:Obs W θ N g){o t b:Nat}{y x:Ob}(ho:g o=some y)(hl:y.live=true)(hb:(θ o).1=some b){c c':List Value}{T:TypeId}{B:Nat->Prop}(hc:W.w.heap[b]?=some (.cells c.toArray T (0,0)))
 (hs:∀i v,¬W.A b i->c[i]?=some v->c'[i]?=some v) {θ':Loc} {g':Hp} (M:∀i z,g i=some z->θ' i=θ i) (hhi:∀i,1000000<=i->θ' i=θ i) (ht:(θ' t).1=some b)
 (hg:∀i z,g' i=some z->(i=t/\z=x)\/z=.dead\/(g i=some z/\i≠o)) (Y:∀i z,g i=some z->∃z',g' i=some z')
 (hx:x.R (W.put b (.cells c'.toArray T (0,0)) B) θ' t) (hi:∀i,x.ids i->∃y,g i=some y):Stp N W (W.put b (.cells c'.toArray T (0,0)) B) θ θ' g g' where
 os:=_root_.rfl
 out:=_root_.rfl
 tape:=_root_.rfl
 size:=by show W.w.heap.size<=(Xjh W.w b _).heap.size;simp[Xjh]
 same:=λk _ O=>Xlv _ _ _ _ λe=>O (by rw[e];exact h.new o y b ho hl hb)
 A:=λk _ O i=>⟨λh=>h.1,λh'=>⟨h',λe=>absurd (h.new o y b ho hl hb) (by rw[<-e];exact O)⟩⟩
 le:=Xid W b c c' T B hc hs
 th:=M
 hi:=hhi
 obs:={
  r:=λi z hz=>by
   rcases hg i z hz with ⟨I,Q⟩ | e | ⟨I,Q⟩
   . subst I;subst Q;exact hx
   . subst e;trivial
   . refine(h.r i z I).keep (Xid W b c c' T B hc hs) (M i z I) (λj hj=>let ⟨w,hw⟩:=h.ids i z j I hj;M j w hw) λU k O=>?_
     have hne:k≠b:=λe=>Q (h.dis i o z y b I ho U hl (by rw[<-e];exact O) hb)
     exact⟨Xlv _ _ _ _ hne,λj hj=>⟨hj,λe=>absurd e hne⟩⟩
  new:=λi z k hz U O=>by
   rcases hg i z hz with ⟨I,Q⟩ | e | ⟨I,Q⟩
   . subst I;rw[ht] at O;injection O with O;rw[<-O];exact h.new o y b ho hl hb
   . subst e;cases U
   . rw[M i z I] at O;exact h.new i z k I U O
  dis:=λi j z w k hz hw lz lw Z bw=>by
   rcases hg i z hz with ⟨I,Q⟩ | e | ⟨I,Q⟩
   . rcases hg j w hw with ⟨V,f2⟩ | f | ⟨V,f2⟩
     . exact I.trans V.symm
     . subst f;cases lw
     . subst I;rw[ht] at Z;injection Z with Z;subst Z
       rw[M j w V] at bw
       exact absurd (h.dis j o w y b V ho lw hl bw hb) f2
   . subst e;cases lz
   . rcases hg j w hw with ⟨V,f2⟩ | f | ⟨V,f2⟩
     . subst V;rw[ht] at bw;injection bw with bw;subst bw
       rw[M i z I] at Z
       exact absurd (h.dis i o z y b I ho lz hl Z hb) Q
     . subst f;cases lw
     . rw[M i z I] at Z;rw[M j w V] at bw
       exact h.dis i j z w k I V lz lw Z bw
  ids:=λi z k hz O=>by
   have:∃w,g k=some w:=by
    rcases hg i z hz with ⟨I,Q⟩ | e | ⟨I,Q⟩
    . subst Q;exact hi k O
    . subst e;exact O.elim
    . exact h.ids i z k I O
   obtain⟨w,hw⟩:=this
   exact Y k w hw }
 dom:=Y
end
end
section
def Good(P:Program)(N:Nat->Prop)(W:GW)(θ:Loc)(g:Hp)(ρ:Operand->Value)(o:Oper)(v:AV)(g':Hp): Prop :=
 ∃W' h r,(execOp ρ o).run P W.w=.ok r W'.w/\Stp N W W' θ h g g'/\((r=.skip/\o.dst=none)\/∃u,r=.value u/\AV.V W' h v u)/\∀i,v.ids i->∃y,g' i=some y
def Xbg(W:GW)(θ:Loc)(g:Hp)(ρ:Operand->Value): List Operand->List AV->Prop
 | [],[]=>True
 | x::xs,a::asx=>(AV.V W θ a (ρ x)/\∀i,a.ids i->∃y,g i=some y)/\Xbg W θ g ρ xs asx
 | _,_=>False
section
variable{P:Program}{N:Nat->Prop}{W:GW}{θ:Loc}{g:Hp}{ρ:Operand->Value}
theorem Good.val{o:Oper}{v:AV}{u:Value}(h:Obs W θ N g)(hr:(execOp ρ o).run P W.w=.ok (.value u) W.w)(j:AV.V W θ v u)(hi:∀i,v.ids i->∃y,g i=some y): Good P N W θ g ρ o v g :=
 ⟨W,θ,_,hr,Stp.rfl h,.inr ⟨u,rfl,j⟩,hi⟩
theorem V_b{c:Bool}{v:Value}(h:AV.V W θ (.b c) v): v=.bool c:=by obtain⟨cs,j,i⟩:=h;rw[show cs=_ from j] at i;exact i
theorem V_q{p:Prop}{v:Value}(h:AV.V W θ (.q p) v): ∃c,v=.bool c/\(c=true↔p):=by obtain⟨cs,⟨c,j,o⟩,i⟩:=h;rw[j] at i;exact⟨c,i,o⟩
theorem Xcv{k:IntKind}{z:Int}{v:Value}(h:AV.V W θ (.d (.int k z)) v): v=.int k z/\inR k z:=by obtain⟨cs,⟨j,o⟩,i⟩:=h;rw[j] at i;exact⟨i,o⟩
theorem Xjm{s:List UInt8}{v:Value}(h:AV.V W θ (.d (.str s)) v): v=.string ⟨s.toArray⟩/\s.length<9223372036854775808:=by obtain⟨cs,⟨j,o⟩,i⟩:=h;rw[j] at i;exact⟨i,o⟩
theorem Xmr{s:List UInt8}(h:s.length<9223372036854775808): AV.V W θ (.d (.str s)) (.string ⟨s.toArray⟩):=⟨[.string ⟨s.toArray⟩],⟨rfl,h⟩,rfl⟩
theorem int_V{k:IntKind}{z:Int}(h:inR k z): AV.V W θ (.d (.int k z)) (.int k z):=⟨[.int k z],⟨rfl,h⟩,rfl⟩
theorem q_V{p:Prop}{c:Bool}(h:c=true↔p): AV.V W θ (.q p) (.bool c):=⟨[.bool c],⟨c,rfl,h⟩,rfl⟩
theorem Ylt{p:Prop}{c:Bool}(h:c=true↔p): AV.V W θ (.b (dc p)) (.bool c):=by
 have:c=dc p:=W4h.2 (h.trans Xal.symm)
 subst this;exact⟨_,rfl,rfl⟩
theorem b_V(c:Bool): AV.V W θ (.b c) (.bool c):=⟨[.bool c],rfl,rfl⟩
theorem Ypw{p:Prop}(c:Bool)(h:c=true->p): AV.V W θ (.ub p) (.bool c):=⟨[.bool c],⟨c,rfl,h⟩,rfl⟩
theorem V_sl{sz:Nat}{xs:List D}{v:Value}(h:AV.V W θ (.d (.sl sz xs)) v): ∃p c,v=.slice p xs.length c/\xs.length<=c/\c<9223372036854775808/\(xs=[]\/∃b off,p=some ⟨b,off,none⟩/\D.Row W b sz off xs):=by
 obtain⟨cs,⟨p,c,j,o⟩,i⟩:=h;rw[j] at i;exact⟨p,c,i,o⟩
theorem Yn8{sz:Nat}{xs:List D}{p:Option Addr}{n c:Nat}(h:n=xs.length)(i:xs.length<=c)(j:c<9223372036854775808)(o:xs=[]\/∃b off,p=some ⟨b,off,none⟩/\D.Row W b sz off xs):
 AV.V W θ (.d (.sl sz xs)) (.slice p n c):=by subst h;exact⟨_,⟨p,c,rfl,i,j,o⟩,rfl⟩
theorem Ypo{o sz:Nat}{xs:List D}{v:Value}(h:AV.V W θ (.gr o sz xs) v): ∃p,v=.slice p xs.length (θ o).2/\((θ o).2=0\/p=ad (θ o).1)/\xs.length<=(θ o).2/\(θ o).2<9223372036854775808/\(xs=[]\/∃b,(θ o).1=some b/\D.Row W b sz 0 xs):=by
 obtain⟨cs,⟨p,j,A⟩,i⟩:=h;rw[j] at i;exact⟨p,i,A⟩
theorem Xy1{o sz:Nat}{xs:List D}{v:Value}(h:AV.V W θ (.gr o sz xs) v): AV.V W θ (.d (.sl sz xs)) v:=by
 obtain⟨cs,i,e⟩:=h
 exact⟨cs,Xmq (z:=.sl sz []) (a:=.gr o sz xs) rfl i,e⟩
theorem Xy0{sz:Nat}{xs:List D}{v:Value}(h:AV.V W θ (.lit sz xs) v): ∃p,v=.slice p xs.length xs.length/\xs.length<9223372036854775808/\(xs=[]\/∃b,p=some ⟨b,0,none⟩/\D.Row W b sz 0 xs):=by
 obtain⟨cs,⟨b,j,o⟩,i⟩:=h;rw[j] at i;exact⟨b,i,o⟩
theorem Xhk{sz:Nat}{xs:List D}{v:Value}(h:AV.V W θ (.lit sz xs) v): AV.V W θ (.d (.sl sz xs)) v:=by
 obtain⟨b,e,i,j⟩:=Xy0 h
 rw[e];exact Yn8 rfl (W0c _) i (j.imp_right λ⟨b,o,A⟩=>⟨b,0,o,A⟩)
theorem Xjo{v:Value}(h:AV.V W θ .nil v): ∃p,v=.slice p 0 0:=by obtain⟨cs,⟨p,j⟩,i⟩:=h;rw[j] at i;exact⟨p,i⟩
theorem Xmg{o sz l n:Nat}{v:Value}(h:AV.V W θ (.own o sz l n) v): ∃b p,(θ o).1=some b/\l+n<=(θ o).2/\(θ o).2<9223372036854775808/\v=.slice p n ((θ o).2-l)/\(l=0\/l<(θ o).2->p=some ⟨b,l*sz,none⟩):=by
 obtain⟨cs,⟨b,p,j,A,B,I,M⟩,i⟩:=h;rw[I] at i;exact⟨b,p,j,A,B,i,M⟩
theorem Xp6{o sz l n:Nat}{v:Value}(h:AV.V W θ (.ow3 o sz l n) v): ∃b p,(θ o).1=some b/\l+n<=(θ o).2/\(θ o).2<9223372036854775808/\v=.slice p n n/\(l=0\/0<n->p=some ⟨b,l*sz,none⟩):=by
 obtain⟨cs,⟨b,p,j,A,B,I,M⟩,i⟩:=h;rw[I] at i;exact⟨b,p,j,A,B,i,M⟩
theorem Xjn{o off:Nat}{v:Value}(h:AV.V W θ (.ptr o off) v): ∃b,(θ o).1=some b/\v=.pointer (some ⟨b,off,none⟩):=by obtain⟨cs,⟨b,j,A⟩,i⟩:=h;rw[A] at i;exact⟨b,j,i⟩
theorem Xtm{o off b:Nat}(h:(θ o).1=some b): AV.V W θ (.ptr o off) (.pointer (some ⟨b,off,none⟩)):=⟨_,⟨b,h,rfl⟩,rfl⟩
theorem Yno{o sz j off:Nat}{v:Value}(h:AV.V W θ (.el o sz j off) v): ∃b,(θ o).1=some b/\v=.pointer (some ⟨b,j*sz+off,none⟩):=by obtain⟨cs,⟨b,A,B⟩,i⟩:=h;rw[B] at i;exact⟨b,A,i⟩
theorem Ynj{o sz j off b:Nat}(h:(θ o).1=some b): AV.V W θ (.el o sz j off) (.pointer (some ⟨b,j*sz+off,none⟩)):=⟨_,⟨b,h,rfl⟩,rfl⟩
theorem Yqt{x:D}{v:Value}(h:AV.V W θ (.at x) v): ∃b off e,v=.pointer (some ⟨b,off,none⟩)/\D.At W x e/\∀j v,e[j]?=some v->Fr W b (off+j) v:=by
 obtain⟨cs,⟨b,off,e,o,A,B⟩,i⟩:=h;rw[o] at i;exact⟨b,off,e,i,A,B⟩
theorem Ypi{x:D}{b off:Nat}{e:List Value}(h:D.At W x e)(i:∀j v,e[j]?=some v->Fr W b (off+j) v): AV.V W θ (.at x) (.pointer (some ⟨b,off,none⟩)):=⟨_,⟨b,off,e,rfl,h,i⟩,rfl⟩
theorem V1.V{a:AV}{v:Value}(h:AV.V1 W θ a v): AV.V W θ a v:=by
 cases a with
 | tup a=>obtain⟨cs,i,_⟩:=h;exact i.elim
 | un=>obtain⟨cs,i,_⟩:=h;exact i.elim
 | _=>exact h
theorem Yhp{a:AV}{p:Prop}{v:Value}(ha:asP a=some p)(h:AV.V W θ a v): ∃c,v=.bool c/\(c=true↔p):=by
 unfold asP at ha
 split at ha<;>try cases ha
 . exact V_q h
 . exact⟨_,V_b h,W4f⟩
 . obtain⟨cs,j,i⟩:=h;rw[show cs=_ from j] at i;exact⟨_,i,W4f⟩
theorem Yj9: ∀ {a:AV} {i:Nat} {b:AV} {vs:List Value},Yf1 a i=some b->AV.T W θ a vs->∃w,vs[i]?=some w/\AV.V W θ b w/\∀j,b.ids j->a.ids j:=by
 intro a
 induction a with
 | pr a c _ B =>
  intro i b vs h o
  match vs,o with
  | v::vs,o =>
   cases i with
   | zero=>simp only[Yf1] at h;injection h with h;subst h;exact⟨v,rfl,V1.V o.1,λj A=>.inl A⟩
   | succ i =>
    simp only[Yf1] at h
    obtain⟨w,I,M,O⟩:=B h o.2
    exact⟨w,I,M,λj A=>.inr (O j A)⟩
 | un=>intro i b vs h;cases i<;>cases h
 | _ =>
  intro i b vs h o
  cases i with
  | zero =>
   simp only[Yf1] at h;injection h with h;subst h
   match vs,o with
   | [v],o=>exact⟨v,rfl,V1.V o,λj A=>A⟩
  | succ i=>simp[Yf1] at h
theorem Xk3{T:TypeId}{t:TypeDesc}{w:World}(h:P.underlying T=some t): (underlying T).run P w=.ok t w:=by
 simp[underlying,program,bind,Sem.bind,Sem.run,pure,h]
theorem Xz1{T:TypeId}(h:P.underlying T=some .bool)(a b:Bool)(w:World)(m:Nat): (Op.equalIn (m+1) T (.bool a) (.bool b)).run P w=.ok (a==b) w:=by
 simp[Op.equalIn,underlying,program,bind,Sem.bind,Sem.run,pure,h]
theorem Xue(k:IntKind)(z:Int): k.wrap (k.wrap z)=k.wrap z:=by
 have h:∀m:Int,0<=m->m<2^k.bits->k.wrap m=if k.signed&&m>=(2^(k.bits-1):Int) then m-(2^k.bits:Int) else m:=by
  intro m i j
  simp only[IntKind.wrap,Int.emod_eq_of_lt i j]
 have hp:(0:Int)<2^k.bits:=by cases k<;>decide
 have i:=Int.emod_nonneg z (Int.ne_of_gt hp)
 have j:=Int.emod_lt_of_pos z hp
 have e:k.wrap z=k.wrap (z%2^k.bits):=by simp only[IntKind.wrap,Int.emod_emod]
 rw[e,h _ i j]
 generalize z%2^k.bits=m at *
 split
 . rename_i o
   show k.wrap (m-2^k.bits)=_
   have:(m-2^k.bits)%2^k.bits=m:=by rw[Int.sub_emod_right,Int.emod_eq_of_lt i j]
   simp only[IntKind.wrap,this,o,if_true]
 . rename_i o
   rw[h m i j,if_neg o]
theorem Xfz(k:IntKind)(z:Int): inR k (k.wrap z):=Xue k z
theorem Xpm{k:IntKind}{z:Int}: inR k z↔k.min<=z/\z<=k.max:=by
 unfold inR IntKind.wrap
 cases k<;>simp[IntKind.min,IntKind.max,IntKind.signed,IntKind.bits]<;>(try split)<;>omega
theorem Yat{k:IntKind}{a b:Int}(ha:inR k a): inR k (a.tmod b):=by
 rw[Xpm] at *
 have o:(a.tmod b).natAbs<=a.natAbs:=by rw[Int.natAbs_tmod];exact Nat.mod_le _ _
 have i:0<=a->0<=a.tmod b:=λh=>Int.tmod_nonneg b h
 have j:a<=0->a.tmod b<=0:=λh=>by
  have:=Int.tmod_nonneg b (a:=-a) (by omega)
  rw[Int.neg_tmod] at this;omega
 have A:k.min<=0/\0<=k.max:=by cases k<;>decide
 rcases Int.le_total 0 a with h | h
 . have:=i h;omega
 . have:=j h;omega
theorem Yau{k:IntKind}{a:Int}(ha:inR k a)(n:Nat): inR k (a.fdiv (2^n)):=by
 rw[Xpm] at *
 have hp:(0:Int)<2^n:=W5x (by decide)
 have i:(1:Int)<=2^n:=hp
 have A:k.min<=0/\0<=k.max:=by cases k<;>decide
 rw[W1s _ (Int.le_of_lt hp)]
 rcases Int.le_total 0 a with h | h
 . have j:=Int.ediv_nonneg h (Int.le_of_lt hp)
   have o:a/2^n<=a:=Int.ediv_le_self _ h
   omega
 . have j:a/2^n<=0:=Int.ediv_nonpos_of_nonpos_of_neg h (by omega)
   have o:a<=a/2^n:=by
    rw[Int.le_ediv_iff_mul_le hp]
    have:=Int.mul_le_mul_of_nonneg_left i (show 0<=-a by omega)
    simp only[Int.neg_mul,W4z] at this
    omega
   omega
end
end
section
section
variable{P:Program}{N:Nat->Prop}{W:GW}{θ:Loc}{g:Hp}{ρ:Operand->Value}
variable{tb:Nat->Option TI}{d:Option Nat}{ty:TypeId}{pos:String}{aft:Array Edge}{gd:Option (Nat×Bool)}{args:List AV}{v:AV}
theorem Yol{x:Operand}(i:Obs W θ N g)(h:Fp tb (.move x) args=some v)(ha:Xbg W θ g ρ [x] args): Good P N W θ g ρ ⟨d,.move x,ty,pos,aft,gd⟩ v g:=by
 simp only[Fp] at h
 split at h<;>try cases h
 exact .val i rfl ha.1.1 ha.1.2
theorem Ypj{x:Operand}(i:Obs W θ N g)(h:Fp tb (.assign x) args=some v)(ha:Xbg W θ g ρ [x] args): Good P N W θ g ρ ⟨d,.assign x,ty,pos,aft,gd⟩ v g:=by
 simp only[Fp] at h
 split at h<;>try cases h
 exact .val i rfl ha.1.1 ha.1.2
theorem Yfu{c x y:Operand}(i:Obs W θ N g)(h:Fp tb (.pick c x y) args=some v)(ha:Xbg W θ g ρ [c,x,y] args): Good P N W θ g ρ ⟨d,.pick c x y,ty,pos,aft,gd⟩ v g:=by
 simp only[Fp] at h
 split at h<;>try cases h
 . exact .val i (by simp only[execOp,V_b ha.1.1];rfl) ha.2.1.1 ha.2.1.2
 . exact .val i (by simp only[execOp,V_b ha.1.1];rfl) ha.2.2.1.1 ha.2.2.1.2
theorem Ylf{x:Operand}{i:Nat}(o:Obs W θ N g)(h:Fp tb (.extract x i) args=some v)(ha:Xbg W θ g ρ [x] args): Good P N W θ g ρ ⟨d,.extract x i,ty,pos,aft,gd⟩ v g:=by
 simp only[Fp] at h
 split at h<;>try cases h
 obtain⟨T,A,B⟩:=ha.1.1
 obtain⟨w,I,M,O⟩:=Yj9 h B
 exact .val o (by simp only[execOp,A,Instr.extract,List.getElem?_toArray,I];rfl) M λj Q=>ha.1.2 j (O j Q)
theorem Ynz{u:UnOp}{x:Operand}{T:TypeId}(j:Obs W θ N g)(i:Fp tb (.unOp u T x) args=some v)(ha:Xbg W θ g ρ [x] args): Good P N W θ g ρ ⟨d,.unOp u T x,ty,pos,aft,gd⟩ v g:=by
 cases u<;>simp only[Fp] at i<;>try cases i
 all_goals (split at i<;>try cases i)
 all_goals first
  | exact .val j (by simp only[execOp,V_b ha.1.1,Op.unary];rfl) (b_V _) (λ_ h=>h.elim)
  | exact .val j (by simp only[execOp,(Xcv ha.1.1).1,Op.unary,Op.intArith];rfl) (int_V (Xfz _ _)) (λ_ h=>h.elim)
  | (obtain⟨c, o, A⟩ := V_q ha.1.1
     exact .val j (by simp only[execOp,o,Op.unary];rfl) (q_V (by cases c<;>simp_all)) (λ_ h=>h.elim))
theorem Ymf{op:BinOp}{k:IntKind}{a b:Int}{T:TypeId}(h:op≠.shl)(i:op≠.shr): binOp op T (.int k a) (.int k b)=(match op with
 | .add | .sub | .mul=>Op.intArith op k a b
 | .quo | .rem=>Op.intDiv op k a b
 | .and | .or | .xor | .andNot=>Op.intBits op k a b
 | _=>Op.intCmp op a b):=by
 cases op<;>first
  | exact absurd rfl h
  | exact absurd rfl i
  | (simp only[binOp,if_neg (λe:¬(k=k)=>e rfl)])
theorem Ygk{op:BinOp}{k:IntKind}{a b:Int}(ha:inR k a)(hb:inR k b)(o:op≠.shl)(A:op≠.shr)(j:Yng op k a b=some v)(T:TypeId):
 ∃u,(binOp op T (.int k a) (.int k b)).run P W.w=.ok u W.w/\AV.V W θ v u/\∀i,¬v.ids i:=by
 rw[Ymf o A]
 cases op<;>simp only[Yng] at j<;>try cases j
 case add | sub | mul | and | or | xor | andNot=>exact⟨_,rfl,int_V (Xfz _ _),λ_ h=>h⟩
 case eql | neq | lss | leq | gtr | geq=>exact⟨_,rfl,Ylt (by simp),λ_ h=>h⟩
 case quo =>
  split at j<;>try cases j
  rename_i h0
  exact⟨_,by simp only[Op.intDiv,if_neg h0];rfl,int_V (Xfz _ _),λ_ h=>h⟩
 case rem =>
  split at j<;>try cases j
  rename_i h0
  exact⟨_,by simp only[Op.intDiv,if_neg h0];rfl,int_V (Yat ha),λ_ h=>h⟩
theorem Xxr{op:BinOp}{T:TypeId}{x y:Operand}{a b:Value}(h:∀c,a≠.agg c)(i:a≠.nilIface): (eqGuard op T x y a b).run P W.w=.ok () W.w:=by
 unfold eqGuard
 cases op<;>first
  | rfl
  | (cases a<;>first
   | rfl
   | exact absurd rfl (h _)
   | exact absurd rfl i)
theorem Xgq{op:BinOp}{T T':TypeId}{x y:Operand}{u:Value}(h:∀c,ρ x≠.agg c)(i:ρ x≠.nilIface)(hr:(binOp op T (ρ x) (ρ y)).run P W.w=.ok u W.w):
 (execOp ρ ⟨d,.binOp op T x y T',ty,pos,aft,gd⟩).run P W.w=.ok (.value u) W.w:=by
 show (((eqGuard op T x y (ρ x) (ρ y)).bind λ_=>binOp op T (ρ x) (ρ y)).bind _).run P W.w=_
 rw[Xvf _ _ W.w W.w u (by rw[Xvf _ _ _ _ _ (Xxr h i)];exact hr)]
 rfl
theorem Xtz{op:BinOp}{T T':TypeId}{x y:Operand}{a c:AV}{I:Option TI}(j:Yce I op y a c=some v)(ha:AV.V W θ a (ρ x))(M:AV.V W θ c (ρ y)){k O:IntKind}{z o:Int}(Q:a=.d (.int k z))(U:c=.d (.int O o)):
 ∃u,(execOp ρ ⟨d,.binOp op T x y T',ty,pos,aft,gd⟩).run P W.w=.ok (.value u) W.w/\AV.V W θ v u/\∀i,¬v.ids i:=by
 subst Q;subst U
 obtain⟨A,r1⟩:=Xcv ha
 obtain⟨Y,Z⟩:=Xcv M
 have B:∃u,(binOp op T (ρ x) (ρ y)).run P W.w=.ok u W.w/\AV.V W θ v u/\∀i,¬v.ids i:=by
  rw[A,Y]
  simp only[Yce] at j
  split at j
  . split at j<;>try cases j
    rename_i h0
    exact⟨.int k (k.wrap (z*2^(min o.toNat k.bits))),by simp[binOp,Op.shift,h0],int_V (Xfz _ _),λ_ h=>h⟩
  . split at j<;>try cases j
    rename_i h0
    exact⟨.int k (z.fdiv (2^(min o.toNat k.bits))),by simp[binOp,Op.shift,h0],int_V (Yau r1 _),λ_ h=>h⟩
  . rename_i n1 n2
    split at j<;>try cases j
    rename_i hk
    subst hk
    exact Ygk r1 Z n1 n2 j T
 obtain⟨u,hu,hv,hi⟩:=B
 exact⟨u,Xgq (by rw[A];exact λ_=>nofun) (by rw[A];nofun) hu,hv,hi⟩
theorem Xny{T:TypeId}{a b:Value}{c:Bool}(h:∀m,(Op.equalIn (m+1) T a b).run P W.w=.ok c W.w): (Op.equal T a b).run P W.w=.ok c W.w:=h 9999
theorem Xl0{op:BinOp}{T:TypeId}{a b:Value}{c:Bool}(h:(Op.equal T a b).run P W.w=.ok c W.w)(i:op=.eql\/op=.neq)
 (hb:binOp .eql T a b=(Op.equal T a b >>= λr=>pure (.bool r))/\binOp .neq T a b=(Op.equal T a b >>= λr=>pure (.bool (!r)))) :
 (binOp op T a b).run P W.w=.ok (.bool (match op with | .eql=>c | _=>!c)) W.w:=by
 rcases i with rfl | rfl
 . rw[hb.1,Sem.run_bind,h];rfl
 . rw[hb.2,Sem.run_bind,h];rfl
theorem Ydx{a:AV}{v:Value}(hs:Yih a=true)(this:AV.V W θ a v): ∃p n k,v=.slice p n k/\(p.isNone=true->Yo1 a):=by
 unfold Yih at hs
 split at hs
 . obtain⟨p,k,e,_,_,h⟩:=V_sl this;exact⟨_,_,_,e,λhp=>h.elim id λ⟨b,off,i,_⟩=>by rw[i] at hp;cases hp⟩
 . obtain⟨p,e⟩:=Xjo this;exact⟨_,_,_,e,λ_=>trivial⟩
 . obtain⟨p,e,_,h⟩:=Xy0 this;exact⟨_,_,_,e,λhp=>h.elim id λ⟨b,i,_⟩=>by rw[i] at hp;cases hp⟩
 . obtain⟨b,p,_,_,_,e,_⟩:=Xmg this;exact⟨_,_,_,e,λ_=>trivial⟩
 . obtain⟨b,p,_,_,_,e,_⟩:=Xp6 this;exact⟨_,_,_,e,λ_=>trivial⟩
 . rename_i xs
   obtain⟨p,e,h0,i,_,h⟩:=Ypo this
   refine⟨_,_,_,e,λhp=>h.elim id λ⟨b,hb,_⟩=>?_⟩
   rcases h0 with h0 | h0
   . exact W0n (by omega)
   . rw[h0,hb] at hp;cases hp
 . cases hs
theorem Xty{op:BinOp}{T T':TypeId}{x y:Operand}{s t:List UInt8}{B:Option TI}(j:Yce B op y (.d (.str s)) (.d (.str t))=some v)(ha:AV.V W θ (.d (.str s)) (ρ x))(I:AV.V W θ (.d (.str t)) (ρ y)):
 ∃u,(execOp ρ ⟨d,.binOp op T x y T',ty,pos,aft,gd⟩).run P W.w=.ok (.value u) W.w/\AV.V W θ v u/\∀i,¬v.ids i:=by
 obtain⟨o,r1⟩:=Xjm ha
 obtain⟨M,Y⟩:=Xjm I
 have el:∀l:List UInt8,(ByteArray.mk l.toArray).toList=l:=λl=>by rw[ByteArray.toList_eq]
 have A:∃u,(binOp op T (ρ x) (ρ y)).run P W.w=.ok u W.w/\AV.V W θ v u/\∀i,¬v.ids i:=by
  rw[o,M]
  simp only[Yce] at j
  split at j<;>try cases j
  . split at j<;>cases j
    rename_i O
    refine⟨.string ⟨(s++t).toArray⟩,?_,Xmr (by simpa using O),λ_ h=>h⟩
    rw[binOp_string_add,run_string_add_sum _ _ _ (by show s.length+t.length<=_;omega),ByteArray.mk_append_mk]
  . refine⟨.bool (s==t),?_,Ylt (by simp),λ_ h=>h⟩
    rw[binOp_string_eql,el,el];rfl
  . refine⟨.bool (!(s==t)),?_,Ylt (by simp),λ_ h=>h⟩
    rw[binOp_string_neq,el,el];rfl
 obtain⟨u,Q,U,hi⟩:=A
 exact⟨u,Xgq (by rw[o];exact λ_=>nofun) (by rw[o];nofun) Q,U,hi⟩
theorem Yme{op:BinOp}{T T':TypeId}{x y:Operand}(hT:∀T ti,tb T=some ti->TyOk P T ti)(hO:Obs W θ N g)(j:Fp tb (.binOp op T x y T') args=some v)(ha:Xbg W θ g ρ [x,y] args)(hy:∀u,y=.const u->ρ y=u):
 Good P N W θ g ρ ⟨d,.binOp op T x y T',ty,pos,aft,gd⟩ v g:=by
 simp only[Fp] at j
 split at j<;>try cases j
 rename_i a c
 have Q:(∃u,(execOp ρ ⟨d,.binOp op T x y T',ty,pos,aft,gd⟩).run P W.w=.ok (.value u) W.w/\AV.V W θ v u/\∀i,¬v.ids i)->Good P N W θ g ρ ⟨d,.binOp op T x y T',ty,pos,aft,gd⟩ v g :=
  λ⟨u,o,h2,h3⟩=>.val hO o h2 λi hi=>absurd hi (h3 i)
 refine Q ?_
 have A:=j
 unfold Yce at j
 split at j
 . exact Xtz A ha.1.1 ha.2.1.1 rfl rfl
 . exact Xty A ha.1.1 ha.2.1.1
 . clear A
   split at j
   . rename_i ti _ _ _ B
     obtain⟨t,Y,u2,U⟩:=(hT _ _ B).u
     have U:t=.bool:=U
     subst U
     split at j<;>try cases j
     rename_i p q hp hq
     obtain⟨Z,M,i1⟩:=Yhp hp ha.1.1
     obtain⟨b2,O,i2⟩:=Yhp hq ha.2.1.1
     have o:=Xny (P:=P) (W:=W) (λm=>Xz1 (P:=P) Y Z b2 W.w m)
     split at j<;>try cases j
     . refine⟨_,Xgq (by rw[M];exact λ_=>nofun) (by rw[M];nofun) (by rw[M,O];exact Xl0 o (.inl rfl) ⟨rfl,rfl⟩),Ylt ?_,λ_ h=>h⟩
       rw[<-i1,<-i2];cases Z<;>cases b2<;>simp
     . refine⟨_,Xgq (by rw[M];exact λ_=>nofun) (by rw[M];nofun) (by rw[M,O];exact Xl0 o (.inr rfl) ⟨rfl,rfl⟩),Ylt ?_,λ_ h=>h⟩
       rw[<-i1,<-i2];cases Z<;>cases b2<;>simp
   . rename_i sz xs _ _ _ B
     obtain⟨t,Y,u2,E,U,_⟩:=(hT _ _ B).u
     subst U
     have hs:Yih a=true->∃p n k,ρ x=.slice p n k/\(p.isNone=true->Yo1 a):=λhs=>Ydx hs ha.1.1
     have o:∀p n k,(Op.equal T (.slice p n k) (.slice none 0 0)).run P W.w=.ok p.isNone W.w:=λp n k=>Xny λm=>by
      cases p<;>simp[Op.equalIn,run_underlying Y]
     split at j<;>try cases j
     . rename_i I
       obtain⟨p,n,k,e,he⟩:=hs I
       have O:=hy _ rfl
       exact⟨_,Xgq (by rw[e];exact λ_=>nofun) (by rw[e];nofun) (by rw[e,O];exact Xl0 (o p n k) (.inl rfl) ⟨rfl,rfl⟩),Ypw _ he,λ_ h=>h⟩
     . rename_i I
       obtain⟨p,n,k,e,he⟩:=hs I
       have O:=hy _ rfl
       exact⟨_,Xgq (by rw[e];exact λ_=>nofun) (by rw[e];nofun) (by rw[e,O];exact Xl0 (o p n k) (.inr rfl) ⟨rfl,rfl⟩),Ypw _ (λ_=>trivial),λ_ h=>h⟩
   . cases j
theorem Xmc: ∀ {xs:List D} {s:List UInt8},Ybz xs=some s->∃zs:List Int,xs=zs.map (λz=>D.int .u8 z)/\s=zs.map λz=>UInt8.ofNat z.toNat
 | [],s,h=>by simp only[Ybz,Option.some.injEq] at h;subst h;exact⟨[],rfl,rfl⟩
 | x::xs,s,h=>by
  unfold Ybz at h
  split at h
  . rename_i e;cases e
  . rename_i z l e
    injection e with i j;subst i;subst j
    split at h<;>cases h
    rename_i s' hs
    obtain⟨zs,a,b⟩:=Xmc hs
    exact⟨z::zs,by rw[a];rfl,by rw[b];rfl⟩
  . cases h
theorem Xfd: ∀(zs:List Int) (acc:List UInt8),zs.foldl (λ(r:ByteArray) n=>r.push (UInt8.ofNat n.toNat)) ⟨acc.toArray⟩=⟨(acc++zs.map λz=>UInt8.ofNat z.toNat).toArray⟩
 | [],acc=>by simp
 | z::zs,acc=>by
  rw[W7u,show (ByteArray.mk acc.toArray).push (UInt8.ofNat z.toNat)=⟨(acc++[UInt8.ofNat z.toNat]).toArray⟩ by simp[ByteArray.push],Xfd zs]
  simp
theorem Xyk{b off n c:Nat}{zs:List Int}(hr:D.Row W b 1 off (zs.map λz=>D.int .u8 z))(I:n=zs.length): (Conv.bytesToString (.slice (some ⟨b,off,none⟩) n c)).run P W.w=.ok (.string ⟨(zs.map λz=>UInt8.ofNat z.toNat).toArray⟩) W.w:=by
 rw[run_bytesToString W.w _ _ _ zs (by
  have h:=run_loadCells (P:=P) (b:=b) (off:=off) (w:=W.w) (zs.map (Value.int .u8)) 0 #[] (λj v o=>by
   rw[W0w] at o
   cases A:zs[j]? with
   | none=>rw[A] at o;cases o
   | some z =>
    rw[A] at o;injection o with o;subst o
    obtain⟨e,B,_,M⟩:=D.row_get hr (i:=j) (x:=.int .u8 z) (by rw[W0w,A];rfl)
    have B:=B.1
    subst B
    have:=(M 0 _ rfl).1
    simpa using this)
  simp only[W0i] at h
  rw[I]
  simpa [loadCells] using h)]
 have:=Xfd zs []
 rw[show (ByteArray.empty:ByteArray)=⟨([]:List UInt8).toArray⟩ from rfl,this]
 simp
theorem Xyj{a:AV}{s:List UInt8}{u:Value}(hs:Ym7 a=some s)(ha:AV.V W θ a u): ∃r p n c,u=.slice p n c/\(Conv.bytesToString (.slice p n c)).run P W.w=.ok r W.w/\AV.V W θ (.d (.str s)) r:=by
 have h:∀ {xs:List D},Ybz xs=some s->AV.V W θ (.d (.sl 1 xs)) u->∃r p n c,u=.slice p n c/\(Conv.bytesToString (.slice p n c)).run P W.w=.ok r W.w/\AV.V W θ (.d (.str s)) r:=by
  intro xs j o
  obtain⟨p,c,e,A,I,i⟩:=V_sl o
  obtain⟨zs,rfl,rfl⟩:=Xmc j
  simp only[W0i] at A
  refine⟨.string ⟨(zs.map λz=>UInt8.ofNat z.toNat).toArray⟩,p,_,c,e,?_,Xmr (by simp;omega)⟩
  rcases i with i | ⟨b,off,hp,B⟩
  . have:zs=[]:=by simpa using i
    subst this
    cases p with
    | none=>rfl
    | some a=>exact run_bytesToString W.w a _ _ [] rfl
  . subst hp
    exact Xyk B (by simp)
 unfold Ym7 at hs
 split at hs
 . exact h hs ha
 . exact h hs (Xhk ha)
 . cases hs
theorem Yha{S T:TypeId}{x:Operand}(A:∀T ti,tb T=some ti->TyOk P T ti)(Q:Obs W θ N g)(i:Fp tb (.convert S T x) args=some v)(ha:Xbg W θ g ρ [x] args): Good P N W θ g ρ ⟨d,.convert S T x,ty,pos,aft,gd⟩ v g:=by
 simp only[Fp] at i
 split at i<;>try cases i
 . split at i<;>try cases i
   rename_i B M
   obtain⟨t,I,_⟩:=(A _ _ B).u
   obtain⟨O,o,_,j⟩:=(A _ _ M).u
   have j:O=.int _:=j
   subst j
   exact .val Q (by
    simp only[execOp,(Xcv ha.1.1).1,convert,Conv.intToInt,underlying,program,bind,Sem.bind,Sem.run,pure,I,o]) (int_V (Xfz _ _)) (λ_ h=>h.elim)
 . split at i<;>try cases i
   rename_i B M
   split at i<;>cases i
   rename_i s hs
   obtain⟨t,I,_,E,j,_⟩:=(A _ _ B).u
   subst j
   obtain⟨O,o,_,j⟩:=(A _ _ M).u
   have j:O=.string:=j
   subst j
   have U:=(A _ _ B).k E _ _ I rfl
   obtain⟨u,p,n,c,e,V,Y⟩:=Xyj (P:=P) (W:=W) (θ:=θ) hs ha.1.1
   refine .val Q ?_ Y (λ_ h=>h.elim)
   simp only[execOp,e]
   rw[Sem.run_bind,run_convert_bytes_string W.w S T E p n c I U o,V]
   rfl
theorem Xpl{n:Nat}(h:n<9223372036854775808): inR .i64 (n:Int):=by
 rw[Xpm];show (-9223372036854775808:Int)<=n/\(n:Int)<=9223372036854775807;omega
theorem Ykp{o:Array TypeId}{x:Operand}(U:∀T ti,tb T=some ti->TyOk P T ti)(V:Obs W θ N g)(i:Fp tb (.call ⟨.builtin .len,#[x],o⟩) args=some v)(ha:Xbg W θ g ρ [x] args):
 Good P N W θ g ρ ⟨d,.call ⟨.builtin .len,#[x],o⟩,ty,pos,aft,gd⟩ v g:=by
 simp only[Fp] at i
 split at i<;>try cases i
 rename_i a T Y
 split at i<;>try cases i
 case h_2 =>
  rename_i j
  obtain⟨t,B,_,A⟩:=(U _ _ j).u
  have A:t=.string:=A
  subst A
  split at i<;>cases i
  rename_i s
  obtain⟨e,Z⟩:=Xjm ha.1.1
  have e2:(ByteArray.mk s.toArray).size=s.length:=by show s.toArray.size=_;simp
  exact .val V (by simp[execOp,resolve,invoke,builtin,Builtin.len_,e,underlying,program,bind,Sem.bind,Sem.run,pure,B,goInt,Y,e2]) (int_V (Xpl Z)) (λ_ h=>h.elim)
 rename_i j
 obtain⟨t,B,_,E,A,_⟩:=(U _ _ j).u
 subst A
 split at i<;>try cases i
 rename_i n I
 have M:∃p c,ρ x=.slice p n c/\n<9223372036854775808:=by
  have:=ha.1.1
  unfold Yqj at I
  split at I<;>try cases I
  . obtain⟨p,c,e,j,O,_⟩:=V_sl this;exact⟨_,_,e,by omega⟩
  . obtain⟨p,e,_,j,O,_⟩:=Ypo this;exact⟨_,_,e,by omega⟩
  . obtain⟨b,e,j,_⟩:=Xy0 this;exact⟨_,_,e,j⟩
  . obtain⟨p,e⟩:=Xjo this;exact⟨_,_,e,by decide⟩
  . obtain⟨b,p,_,j,O,e,_⟩:=Xmg this;exact⟨_,_,e,by omega⟩
  . obtain⟨b,p,_,j,O,e,_⟩:=Xp6 this;exact⟨_,_,e,by omega⟩
 obtain⟨p,c,e,Q⟩:=M
 exact .val V (by simp[execOp,resolve,invoke,builtin,Builtin.len_,e,underlying,program,bind,Sem.bind,Sem.run,pure,B,goInt,Y]) (int_V (Xpl Q)) (λ_ h=>h.elim)
theorem Yl5{i:Array TypeId}{x:Operand}(o:∀T ti,tb T=some ti->TyOk P T ti)(A:Obs W θ N g)(j:Fp tb (.call ⟨.builtin .cap,#[x],i⟩) args=some v)(ha:Xbg W θ g ρ [x] args):
 Good P N W θ g ρ ⟨d,.call ⟨.builtin .cap,#[x],i⟩,ty,pos,aft,gd⟩ v g:=by
 simp only[Fp] at j
 split at j<;>try cases j
 rename_i T B
 split at j<;>try cases j
 rename_i I
 obtain⟨t,M,_,E,O,_⟩:=(o _ _ I).u
 subst O
 obtain⟨p,e⟩:=Xjo ha.1.1
 exact .val A (by simp[execOp,resolve,invoke,builtin,Builtin.cap_,e,underlying,program,bind,Sem.bind,Sem.run,pure,M,goInt,B]) (int_V (Xpl (n:=0) (by decide))) (λ_ h=>h.elim)
theorem Ykj{i:Array TypeId}{x y:Operand}(o:Obs W θ N g)(j:Fp tb (.call ⟨.builtin .min,#[x,y],i⟩) args=some v)(ha:Xbg W θ g ρ [x,y] args):
 Good P N W θ g ρ ⟨d,.call ⟨.builtin .min,#[x,y],i⟩,ty,pos,aft,gd⟩ v g:=by
 simp only[Fp] at j
 split at j<;>try cases j
 split at j<;>try cases j
 rename_i A;subst A
 obtain⟨B,r1⟩:=Xcv ha.1.1
 obtain⟨I,M⟩:=Xcv ha.2.1.1
 exact .val o (by simp[execOp,resolve,invoke,builtin,Builtin.min_,Builtin.min2,B,I,bind,Sem.bind,Sem.run,pure]) (int_V (by split<;>assumption)) (λ_ h=>h.elim)
theorem Ykn{i:Array TypeId}{x y:Operand}(o:Obs W θ N g)(j:Fp tb (.call ⟨.builtin .max,#[x,y],i⟩) args=some v)(ha:Xbg W θ g ρ [x,y] args):
 Good P N W θ g ρ ⟨d,.call ⟨.builtin .max,#[x,y],i⟩,ty,pos,aft,gd⟩ v g:=by
 simp only[Fp] at j
 split at j<;>try cases j
 split at j<;>try cases j
 rename_i A;subst A
 obtain⟨B,r1⟩:=Xcv ha.1.1
 obtain⟨I,M⟩:=Xcv ha.2.1.1
 exact .val o (by simp[execOp,resolve,invoke,builtin,Builtin.max_,Builtin.max2,B,I,bind,Sem.bind,Sem.run,pure]) (int_V (by split<;>assumption)) (λ_ h=>h.elim)
theorem Yf3{x:Operand}(i:Obs W θ N g)(h:Fp tb (.nilCheck x) args=some v)(ha:Xbg W θ g ρ [x] args): Good P N W θ g ρ ⟨d,.nilCheck x,ty,pos,aft,gd⟩ v g:=by
 simp only[Fp] at h
 split at h<;>try cases h
 obtain⟨b,j,e⟩:=Xjn ha.1.1
 exact .val i (by simp only[execOp,e];rfl) (Xtm j) ha.1.2
theorem Xx6: ∀(x:D),∀c∈x.comps,0<c.size:=by
 have hs:∀x:D,0<x.size:=λx=>by
  induction x using D.ind with
  | leaf x i j=>cases x<;>first | exact absurd rfl (i _) | exact absurd rfl (j _ _) | exact Nat.zero_lt_one
  | st a h=>exact h
  | pr a c h _=>exact W0u h (W6a _ _)
 intro x c _;exact hs c
theorem Xxl{T:TypeId}{ti:TI}(h:TyOk P T ti){z:D}(B:ti.z=.st z)(h0:ti.arr=0){f:Nat}(hf:f<z.comps.length):
 ∃fs j i,P.underlying T=some (.struct fs)/\fs[f]?=some j/\j.offset=Xg6 z.comps f/\P.info? j.type=some i/\i.size≠0/\i.size=z.comps[f].size/\∃t,P.underlying j.type=some t/\Yb7 t=z.comps[f].ag/\(z.comps[f].ag=false->z.comps[f].size=1):=by
 obtain⟨t,I,_,o⟩:=h.u
 rw[B] at o
 simp only[h0,if_true] at o
 obtain⟨fs,e,_,M⟩:=o
 subst e
 obtain⟨j,i,O,Q,U,A,V⟩:=M f z.comps[f] (W0a hf)
 exact⟨fs,j,i,I,O,Q,U,by rw[A];exact Nat.ne_of_gt (Xx6 z _ (W6r hf)),A,V⟩
theorem Xr4{a b:Nat}(h:Nat.blt a b=true): a<b:=W1t h
theorem Yld{T f:Nat}{x:Operand}(V:∀T ti,tb T=some ti->TyOk P T ti)(I:Obs W θ N g)(o:Fp tb (.fieldAddr T x f) args=some v)(ha:Xbg W θ g ρ [x] args): Good P N W θ g ρ ⟨d,.fieldAddr T x f,ty,pos,aft,gd⟩ v g:=by
 simp only[Fp] at o
 split at o<;>try cases o
 rename_i ti M
 split at o<;>try cases o
 rename_i z Y h0
 split at o<;>try cases o
 rename_i O
 obtain⟨fs,gg,i,Z,u2,u3,u4,u5,_⟩:=Xxl (V _ _ M) Y h0 (Xr4 O)
 have A:∀b off,ρ x=.pointer (some ⟨b,off,none⟩)->(execOp ρ ⟨d,.fieldAddr T x f,ty,pos,aft,gd⟩).run P W.w=.ok (.value (.pointer (some ⟨b,off+Xg6 z.comps f,none⟩))) W.w:=λb off e=>by
  simp[execOp,e,Instr.fieldAt,Instr.sureAddr,fieldPlace,sizeOf,typeInfo,underlying,program,bind,Sem.bind,Sem.run,pure,Z,u2,u3,u4,u5,add0]
 split at o<;>try cases o
 . split at o<;>try cases o
   rename_i y hb hy
   obtain⟨b,off,e,B,h2,h3⟩:=Yqt ha.1.1
   obtain⟨u,m,w,e1,e2,e3⟩:=Yla hy h2
   have e4:=W0g hb
   refine .val I (A b off B) (Ypi e3 λj v Q=>?_) (λ_ h=>h.elim)
   have U:e[u.length+j]?=some v:=by
    rw[e1,W0o (by omega),W3r,W1d (by
     by_cases h:j<m.length
     . exact h
     . rw[W2f (by omega)] at Q;cases Q)]
    exact Q
   have:=h3 _ _ U
   rwa[e2,e4,<-W4r] at this
 . obtain⟨b,B,e⟩:=Xjn ha.1.1
   exact .val I (A b _ e) (Xtm B) ha.1.2
 . obtain⟨b,B,e⟩:=Yno ha.1.1
   exact .val I (A b _ e) (by rw[W4r];exact Ynj B) ha.1.2
end
end
section
section
variable{P:Program}{N:Nat->Prop}{W:GW}{θ:Loc}{g:Hp}{ρ:Operand->Value}
variable{tb:Nat->Option TI}{d:Option Nat}{ty:TypeId}{pos:String}{aft:Array Edge}{gd:Option (Nat×Bool)}{args:List AV}{v:AV}
theorem Xm1{T:TypeId}{t:TypeDesc}{w:World}{b:Bool}(h:P.underlying T=some t)(hb:Yb7 t=b): (isAgg T).run P w=.ok b w:=by
 subst hb
 cases t<;>simp[isAgg,Yb7,underlying,program,bind,Sem.bind,Sem.run,pure,h]
theorem Xz0{T:TypeId}{t:TypeDesc}{i:TypeInfo}{w:World}{y:AV}{u m z:List Value}(h:P.underlying T=some t)(hb:Yb7 t=y.ag)(hi:P.info? T=some i)(hs:i.size=y.size)(o:AV.C W θ y m)(A:y.ag=false->y.size=1):
 (part T (u++(m++z)).toArray u.length).run P w=.ok (mkv y.ag m) w:=by
 unfold part
 have j:(sizeOf T).run P w=.ok y.size w:=by simp[sizeOf,typeInfo,program,bind,Sem.bind,Sem.run,pure,hi,hs]
 rw[Sem.run_bind,Xm1 h hb]
 have B:=AV.c_len y o
 cases e:y.ag with
 | true =>
  simp only[Result.andThen_ok,if_true]
  rw[Sem.run_bind,j]
  simp only[Result.andThen_ok,mkv,if_true,pure,Sem.run]
  congr 2
  simp[<-B]
 | false =>
  obtain⟨c,rfl⟩:=Yhh o (A e)
  simp[mkv,pure,Sem.run]
theorem Yk9{T f:Nat}{x:Operand}(Z:∀T ti,tb T=some ti->TyOk P T ti)(hO:Obs W θ N g)(j:Fp tb (.field T x f) args=some v)(ha:Xbg W θ g ρ [x] args): Good P N W θ g ρ ⟨d,.field T x f,ty,pos,aft,gd⟩ v g:=by
 simp only[Fp] at j
 split at j<;>try cases j
 rename_i ti Q
 split at j<;>try cases j
 rename_i z hz h0
 have I:∀ {y:AV} {cs u m w:List Value},Nat.blt f z.comps.length=true->ρ x=.agg cs.toArray->cs=u++(m++w)->u.length=Xg6 z.comps f->AV.C W θ y m->y.size=((z.comps[f]?).getD (.bool false)).size->y.ag=((z.comps[f]?).getD (.bool false)).ag ->
  (∀i,y.ids i->∃k,g i=some k)->Good P N W θ g ρ ⟨d,.field T x f,ty,pos,aft,gd⟩ y g:=by
  intro y cs u m w h hx M O B o A hi
  have h:=Xr4 h
  rw[W0a h,W6b] at o A
  obtain⟨fs,gg,i,u1,u2,u3,u4,u5,u6,t,u7,u8,u9⟩:=Xxl (Z _ _ Q) hz h0 h
  have hp:=Xz0 (P:=P) (θ:=θ) (w:=W.w) (u:=u) (z:=w) u7 (by rw[u8,A]) u4 (by rw[u6,o]) B (λe=>by
   rw[o];exact u9 (by rw[<-A];exact e))
  refine .val hO ?_ (Yms B) hi
  rw[O,<-u3,<-M] at hp
  simp only[execOp,hx,Instr.field]
  rw[Sem.run_bind,Sem.run_bind,Xk3 u1]
  simp only[Result.andThen_ok,u2]
  rw[Sem.run_bind]
  simp only[asAgg,pure,Sem.run,Result.andThen_ok]
  rw[hp];rfl
 split at j<;>try cases j
 . split at j<;>try cases j
   rename_i y U h
   obtain⟨cs,V,Y⟩:=ha.1.1
   obtain⟨u,m,w,M,O,B,o,A⟩:=Xux U (show D.At W _ cs from V)
   exact I h Y M O (Ynf B) (by rw[Xpe,o]) (by rw[Yf5,A]) (λi hi=>absurd hi (Xr5 _ _))
 . split at j<;>try cases j
   rename_i h U
   obtain⟨cs,V,Y⟩:=ha.1.1
   obtain⟨u,m,w,M,O,B,o,A,e6⟩:=Ycw U (show AV.C W θ _ cs from V)
   exact I h Y M O B o A (λi hi=>ha.1.2 i (e6 i hi))
theorem Yrx{ti:TI}{j:Int}{a v:AV}{x:Value}(h:ixA ti j a=some v)(ha:AV.V W θ a x):
 ∃p n c b off q,x=.slice p n c/\p=some ⟨b,off,none⟩/\0<=j/\j<n/\q=off+j.toNat*ti.e.size/\AV.V W θ v (.pointer (some ⟨b,q,none⟩))/\∀i,v.ids i->a.ids i:=by
 have M:∀ {sz:Nat} {xs:List D},ixA.ixL ti j sz xs=some v->AV.V W θ (.d (.sl sz xs)) x ->
  ∃p n c b off q,x=.slice p n c/\p=some ⟨b,off,none⟩/\0<=j/\j<n/\q=off+j.toNat*ti.e.size/\AV.V W θ v (.pointer (some ⟨b,q,none⟩))/\∀i,¬v.ids i:=by
  intro sz xs O hv
  simp only[ixA.ixL] at O
  split at O<;>try cases O
  rename_i Q
  obtain⟨h0,T⟩:=Q
  split at O<;>try cases O
  rename_i u hu
  obtain⟨p,c,e,A,I,o⟩:=V_sl hv
  have U:j.toNat<xs.length:=by
   by_cases h:j.toNat<xs.length
   . exact h
   . rw[W2f (by omega)] at hu;cases hu
  rcases o with o | ⟨b,off,hp,hr⟩
  . rw[o] at U;cases U
  . obtain⟨e',he,_,hf⟩:=D.row_get hr hu
    exact⟨p,_,c,b,off,_,e,hp,h0,by omega,rfl,Ypi he (by rw[<-T];exact hf),λ_ h=>h⟩
 unfold ixA at h
 split at h<;>try cases h
 . obtain⟨p,n,c,b,off,q,A,I,o,Y,B,Z,h7⟩:=M h ha
   exact⟨p,n,c,b,off,q,A,I,o,Y,B,Z,λi hi=>absurd hi (h7 i)⟩
 . obtain⟨p,n,c,b,off,q,A,I,o,Y,B,Z,h7⟩:=M h (Xy1 ha)
   exact⟨p,n,c,b,off,q,A,I,o,Y,B,Z,λi hi=>absurd hi (h7 i)⟩
 . obtain⟨p,n,c,b,off,q,A,I,o,Y,B,Z,h7⟩:=M h (Xhk ha)
   exact⟨p,n,c,b,off,q,A,I,o,Y,B,Z,λi hi=>absurd hi (h7 i)⟩
 . split at h<;>try cases h
   rename_i Q
   obtain⟨h0,hn,T⟩:=Q
   obtain⟨b,p,A,I,o,e,B⟩:=Xmg ha
   refine⟨p,_,_,b,_,_,e,B (by omega),h0,by omega,rfl,?_,λi hi=>hi⟩
   rw[<-T,<-W1i]
   exact Ynj (off:=0) A
 . split at h<;>try cases h
   rename_i Q
   obtain⟨h0,hn,T⟩:=Q
   obtain⟨b,p,A,I,o,e,B⟩:=Xp6 ha
   refine⟨p,_,_,b,_,_,e,B (by omega),h0,by omega,rfl,?_,λi hi=>hi⟩
   rw[<-T,<-W1i]
   exact Ynj (off:=0) A
theorem Yk1{T:TypeId}{x y:Operand}(V:∀T ti,tb T=some ti->TyOk P T ti)(M:Obs W θ N g)(h:Fp tb (.indexAddr T x y) args=some v)(ha:Xbg W θ g ρ [x,y] args):
 Good P N W θ g ρ ⟨d,.indexAddr T x y,ty,pos,aft,gd⟩ v g:=by
 simp only[Fp] at h
 split at h<;>try cases h
 rename_i ti a k j A
 obtain⟨O,_⟩:=Xcv ha.2.1.1
 obtain⟨t,Q,_,o⟩:=(V _ _ A).u
 split at h<;>try cases h
 . rename_i sz xs B
   rw[B] at o
   obtain⟨E,e,_,_,i,v0,i1,i2,_⟩:=o
   subst e
   obtain⟨p,n,c,b,off,q,I,Y,Z,h4,h5,h6,h7⟩:=Yrx h ha.1.1
   refine .val M ?_ h6 (λi hi=>ha.1.2 i (h7 i hi))
   simp[execOp,I,Y,O,Instr.indexAt,asIntOf,sizeOf,typeInfo,underlying,program,bind,Sem.bind,Sem.run,pure,Q,i1,i2,Z,h4,add0,h5]
 . rename_i z B
   split at h<;>try cases h
   rename_i U
   obtain⟨b,I,e⟩:=Xjn ha.1.1
   rw[B] at o
   simp only[show ti.arr≠0 by omega,if_false] at o
   obtain⟨E,e1,i,v0,i1,i2,_⟩:=o
   subst e1
   refine .val M ?_ (Xtm I) ha.1.2
   simp[execOp,e,O,Instr.indexAt,Instr.sureAddr,asIntOf,sizeOf,typeInfo,underlying,program,bind,Sem.bind,Sem.run,pure,Q,i1,i2,U.1,U.2,add0]
theorem Yjh{T E sz:Nat}{x:Value}{p:Option Addr}{m c:Nat}{w:World}{i:TypeInfo}(u:P.underlying T=some (.slice E))(hi:P.info? E=some i)(hs:i.size=sz)(j:x=.slice p m c){l h:Nat}{lo hi':Option Value}
 (o:lo=none/\l=0\/∃k,lo=some (.int k l)) (A:hi'=none/\h=m\/∃k,hi'=some (.int k h)) (B:l<=h) (I:h<=c) :
 (Instr.sliceAt T x lo hi' none).run P w=.ok (.slice (if c=l then p else p.map (·.add (l*sz))) (h-l) (c-l)) w:=by
 subst j
 rcases o with ⟨e,M⟩ | ⟨k,e⟩<;>rcases A with ⟨f,O⟩ | ⟨Q,f⟩<;>subst e<;>subst f<;>(try subst M)<;>(try subst O) <;>
  simp[Instr.sliceAt,Instr.slice,Instr.sliceBounds,Instr.sliceBound,asIntOf,sizeOf,typeInfo,underlying,program,bind,Sem.bind,Sem.run,pure,u,hi,hs,B,I]
theorem Xow{sz:Nat}{xs:List D}{x:Value}(ha:AV.V W θ (.d (.sl sz xs)) x){l h:Nat}(A:l<=h)(B:h<=xs.length):
 ∃p c,x=.slice p xs.length c/\h<=c/\AV.V W θ (.d (.sl sz ((xs.drop l).take (h-l)))) (.slice (if c=l then p else p.map (·.add (l*sz))) (h-l) (c-l)):=by
 obtain⟨p,c,e,I,M,i⟩:=V_sl ha
 refine⟨p,c,e,by omega,Yn8 (by simp;omega) (by simp;omega) (by omega) ?_⟩
 by_cases j:(xs.drop l).take (h-l)=[]
 . exact .inl j
 . have:¬c=l:=λO=>j (W2k.1 (by simp;omega))
   rcases i with i | ⟨b,off,hp,o⟩
   . exact absurd (by rw[i];simp) j
   . exact .inr ⟨b,off+l*sz,by rw[if_neg this,hp];simp[add0],D.row_sub o l (h-l)⟩
def Bd(m:Nat)(lo hi:Option Int)(l h:Nat): Prop:=(lo=none/\l=0\/lo=some (l:Int))/\(hi=none/\h=m\/hi=some (h:Int))/\l<=h/\h<=m
theorem Xu5{sz:Nat}{xs:List D}{lo hi:Option Int}(h:slA.slL sz xs lo hi=some v): ∃l k,Bd xs.length lo hi l k/\v=.d (.sl sz ((xs.drop l).take (k-l))):=by
 cases lo<;>cases hi<;>simp only[slA.slL] at h
 . injection h with h;exact⟨0,xs.length,⟨.inl ⟨rfl,rfl⟩,.inl ⟨rfl,rfl⟩,W0s _,W0c _⟩,by simp[<-h]⟩
 . split at h<;>try cases h
   rename_i z i
   exact⟨0,z.toNat,⟨.inl ⟨rfl,rfl⟩,.inr (by rw[W2y i.1]),W0s _,by omega⟩,by simp⟩
 . split at h<;>try cases h
   rename_i z i
   exact⟨z.toNat,xs.length,⟨.inr (by rw[W2y i.1]),.inl ⟨rfl,rfl⟩,by omega,W0c _⟩,by
    rw[W0b (by simp)]⟩
 . split at h<;>try cases h
   rename_i z j i
   exact⟨z.toNat,j.toNat,⟨.inr (by rw[W2y i.1]),.inr (by rw[W2y (by omega)]),by omega,by omega⟩,rfl⟩
theorem Yn9{lo hi:Option Int}{a:AV}{x:Value}(h:slA lo hi a=some v)(ha:AV.V W θ a x):
 ∃p m c l k,Bd m lo hi l k/\k<=c/\x=.slice p m c/\(∀sz,(∀s xs,a=.d (.sl s xs)\/a=.lit s xs->s=sz)->(∀o s xs,a=.gr o s xs->s=sz)->(∀o s l n,a=.own o s l n\/a=.ow3 o s l n->s=sz) ->
  AV.V W θ v (.slice (if c=l then p else p.map (·.add (l*sz))) (k-l) (c-l)))/\∀i,v.ids i->a.ids i:=by
 unfold slA at h
 split at h<;>try cases h
 . obtain⟨l,k,hb,e⟩:=Xu5 h
   subst e
   obtain⟨p,c,Q,T,U⟩:=Xow ha hb.2.2.1 hb.2.2.2
   exact⟨p,_,c,l,k,hb,T,Q,λsz M _ _=>by rw[<-M _ _ (.inl rfl)];exact U,λ_ h=>h.elim⟩
 . obtain⟨l,k,hb,e⟩:=Xu5 h
   subst e
   obtain⟨p,c,Q,T,U⟩:=Xow (Xy1 ha) hb.2.2.1 hb.2.2.2
   exact⟨p,_,c,l,k,hb,T,Q,λsz _ M _=>by rw[<-M _ _ _ rfl];exact U,λ_ h=>h.elim⟩
 . obtain⟨l,k,hb,e⟩:=Xu5 h
   subst e
   obtain⟨p,c,Q,T,U⟩:=Xow (Xhk ha) hb.2.2.1 hb.2.2.2
   exact⟨p,_,c,l,k,hb,T,Q,λsz M _ _=>by rw[<-M _ _ (.inr rfl)];exact U,λ_ h=>h.elim⟩
 . rename_i o j l0 n
   obtain⟨b,p,M,h2,h3,e,Y⟩:=Xmg ha
   have A:∀l k,Bd n lo hi l k->v=.own o j (l0+l) (k-l)->∃p m c l k,Bd m lo hi l k/\k<=c/\x=.slice p m c/\(∀sz,(∀s xs,AV.own o j l0 n=.d (.sl s xs)\/AV.own o j l0 n=.lit s xs->s=sz)->(∀I s xs,AV.own o j l0 n=.gr I s xs->s=sz)->(∀I s l O,AV.own o j l0 n=.own I s l O\/AV.own o j l0 n=.ow3 I s l O->s=sz) ->
    AV.V W θ v (.slice (if c=l then p else p.map (·.add (l*sz))) (k-l) (c-l)))/\∀i,v.ids i->(AV.own o j l0 n).ids i:=by
    intro l k hb Z
    subst Z
    refine⟨p,n,_,l,k,hb,by have:=hb.2.2.2;omega,e,λsz _ _ hs=>?_,λ_ h=>h⟩
    have:=hs _ _ _ _ (.inl rfl)
    subst this
    have hb1:=hb.2.2.1
    have hb2:=hb.2.2.2
    refine⟨_,⟨b,_,M,by omega,h3,rfl,?_⟩,by rw[Nat.sub_sub];rfl⟩
    intro B
    by_cases e0:(θ o).2-l0=l
    . rw[if_pos e0]
      have:l0=0/\l=0:=by omega
      rw[Y (.inl this.1),this.1,this.2]
    . rw[if_neg e0,Y (by omega)]
      simp[add0,W1i]
   cases lo<;>cases hi<;>simp only at h
   . injection h with h;exact A 0 n ⟨.inl ⟨rfl,rfl⟩,.inl ⟨rfl,rfl⟩,W0s _,W0c _⟩ (by rw[<-h];rfl)
   . split at h<;>try cases h
     rename_i z B
     exact A 0 z.toNat ⟨.inl ⟨rfl,rfl⟩,.inr (by rw[W2y B.1]),W0s _,by omega⟩ rfl
   . split at h<;>try cases h
     rename_i z B
     exact A z.toNat n ⟨.inr (by rw[W2y B.1]),.inl ⟨rfl,rfl⟩,by omega,W0c _⟩ rfl
   . split at h<;>try cases h
     rename_i z z' B
     exact A z.toNat z'.toNat ⟨.inr (by rw[W2y B.1]),.inr (by rw[W2y (by omega)]),by omega,by omega⟩ rfl
 . rename_i o j l0 n
   obtain⟨b,p,M,h2,h3,e,Y⟩:=Xp6 ha
   have A:∀l,l<=n->(lo=none/\l=0\/lo=some (l:Int))->hi=none->v=.ow3 o j (l0+l) (n-l)->∃p m c l k,Bd m lo hi l k/\k<=c/\x=.slice p m c/\(∀sz,(∀s xs,AV.ow3 o j l0 n=.d (.sl s xs)\/AV.ow3 o j l0 n=.lit s xs->s=sz)->(∀I s xs,AV.ow3 o j l0 n=.gr I s xs->s=sz)->(∀I s l O,AV.ow3 o j l0 n=.own I s l O\/AV.ow3 o j l0 n=.ow3 I s l O->s=sz) ->
    AV.V W θ v (.slice (if c=l then p else p.map (·.add (l*sz))) (k-l) (c-l)))/\∀i,v.ids i->(AV.ow3 o j l0 n).ids i:=by
    intro l hln hb hhi Z
    subst Z
    refine⟨p,n,n,l,n,⟨hb,.inl ⟨hhi,rfl⟩,hln,W0c _⟩,W0c _,e,λsz _ _ hs=>?_,λ_ h=>h⟩
    have:=hs _ _ _ _ (.inr rfl)
    subst this
    refine⟨_,⟨b,_,M,by omega,h3,rfl,?_⟩,rfl⟩
    intro B
    by_cases e0:n=l
    . rw[if_pos e0]
      have:l0=0/\l=0:=by omega
      rw[Y (.inl this.1),this.1,this.2]
    . rw[if_neg e0,Y (by omega)]
      simp[add0,W1i]
   cases lo<;>cases hi<;>simp only at h<;>try cases h
   . exact A 0 (W0s _) (.inl ⟨rfl,rfl⟩) rfl rfl
   . split at h<;>try cases h
     rename_i z B
     exact A z.toNat (by omega) (.inr (by rw[W2y B.1])) rfl rfl
 . obtain⟨p,e⟩:=Xjo ha
   have A:Bd 0 lo hi 0 0->v=.nil->∃p m c l k,Bd m lo hi l k/\k<=c/\x=.slice p m c/\(∀sz,(∀s xs,AV.nil=.d (.sl s xs)\/AV.nil=.lit s xs->s=sz)->(∀I s xs,AV.nil=.gr I s xs->s=sz)->(∀I s l O,AV.nil=.own I s l O\/AV.nil=.ow3 I s l O->s=sz) ->
    AV.V W θ v (.slice (if c=l then p else p.map (·.add (l*sz))) (k-l) (c-l)))/\∀i,v.ids i->AV.nil.ids i:=by
    intro hb Z
    subst Z
    exact⟨p,0,0,0,0,hb,W0c _,e,λ_ _ _ _=>⟨_,⟨_,rfl⟩,rfl⟩,λ_ h=>h⟩
   cases lo<;>cases hi<;>simp only at h
   . injection h with h;exact A ⟨.inl ⟨rfl,rfl⟩,.inl ⟨rfl,rfl⟩,W0c _,W0c _⟩ h.symm
   . split at h<;>try cases h
     rename_i B;subst B
     exact A ⟨.inl ⟨rfl,rfl⟩,.inr rfl,W0c _,W0c _⟩ rfl
   . split at h<;>try cases h
     rename_i B;subst B
     exact A ⟨.inr rfl,.inl ⟨rfl,rfl⟩,W0c _,W0c _⟩ rfl
   . split at h<;>try cases h
     rename_i B;rcases B with ⟨rfl,rfl⟩
     exact A ⟨.inr rfl,.inr rfl,W0c _,W0c _⟩ rfl
def OV: Option Int->Option Value->Prop
 | none,v=>v=none
 | some q,v=>∃k,v=some (.int k q)
theorem Xk0{x:Operand}{lo hi j:Option Operand}{a:AV}{l h m:Option Int}(hs:Xmw lo hi j args=some (a,l,h,m))(ha:Xbg W θ g ρ (x::(lo.toList++(hi.toList++j.toList))) args):
 (AV.V W θ a (ρ x)/\∀i,a.ids i->∃y,g i=some y)/\OV l (lo.map ρ)/\OV h (hi.map ρ)/\OV m (j.map ρ):=by
 unfold Xmw at hs
 split at hs<;>try cases hs
 . split at hs<;>cases hs
   exact⟨ha.1,rfl,rfl,rfl⟩
 . split at hs<;>cases hs
   . exact⟨ha.1,⟨_,congrArg some (Xcv ha.2.1.1).1⟩,rfl,rfl⟩
   . exact⟨ha.1,rfl,⟨_,congrArg some (Xcv ha.2.1.1).1⟩,rfl⟩
 . split at hs<;>cases hs
   . exact⟨ha.1,⟨_,congrArg some (Xcv ha.2.1.1).1⟩,⟨_,congrArg some (Xcv ha.2.2.1.1).1⟩,rfl⟩
   . exact⟨ha.1,rfl,⟨_,congrArg some (Xcv ha.2.1.1).1⟩,⟨_,congrArg some (Xcv ha.2.2.1.1).1⟩⟩
theorem Xt2(s:List UInt8)(l h:Nat): (ByteArray.mk s.toArray).extract l h=⟨((s.drop l).take (h-l)).toArray⟩:=by
 apply ByteArray.ext
 rw[ByteArray.data_extract]
 simp[List.extract_eq_take_drop]
theorem Yjc{s:List UInt8}{lo hi:Option Int}(h:slS s lo hi=some v): ∃l k,Bd s.length lo hi l k/\v=.d (.str ((s.drop l).take (k-l))):=by
 cases lo<;>cases hi<;>simp only[slS] at h
 . injection h with h;exact⟨0,s.length,⟨.inl ⟨rfl,rfl⟩,.inl ⟨rfl,rfl⟩,W0s _,W0c _⟩,by simp[<-h]⟩
 . split at h<;>try cases h
   rename_i z i
   exact⟨0,z.toNat,⟨.inl ⟨rfl,rfl⟩,.inr (by rw[W2y i.1]),W0s _,by omega⟩,by simp⟩
 . split at h<;>try cases h
   rename_i z i
   exact⟨z.toNat,s.length,⟨.inr (by rw[W2y i.1]),.inl ⟨rfl,rfl⟩,by omega,W0c _⟩,by
    rw[W0b (by simp)]⟩
 . split at h<;>try cases h
   rename_i z j i
   exact⟨z.toNat,j.toNat,⟨.inr (by rw[W2y i.1]),.inr (by rw[W2y (by omega)]),by omega,by omega⟩,rfl⟩
theorem Yfd{T:TypeId}{s:List UInt8}{w:World}(u:P.underlying T=some .string){l h:Nat}{lo hi':Option Value}
 (i:lo=none/\l=0\/∃k,lo=some (.int k l)) (j:hi'=none/\h=s.length\/∃k,hi'=some (.int k h)) (o:l<=h) (A:h<=s.length) :
 (Instr.sliceAt T (.string ⟨s.toArray⟩) lo hi' none).run P w=.ok (.string ⟨((s.drop l).take (h-l)).toArray⟩) w:=by
 have B:(ByteArray.mk s.toArray).size=s.length:=by show s.toArray.size=_;simp
 rcases i with ⟨e,I⟩ | ⟨k,e⟩<;>rcases j with ⟨f,M⟩ | ⟨O,f⟩<;>subst e<;>subst f<;>(try subst I)<;>(try subst M) <;>
  simp[Instr.sliceAt,Instr.slice,Instr.sliceBounds,Instr.sliceBound,asIntOf,underlying,program,bind,Sem.bind,Sem.run,pure,u,o,A,B,Xt2]
theorem Yjb{T:TypeId}{x:Operand}{lo hi mx:Option Operand}(hT:∀T ti,tb T=some ti->TyOk P T ti)(hO:Obs W θ N g)(j:Fp tb (.slice T x lo hi mx) args=some v)(ha:Xbg W θ g ρ (x::(lo.toList++(hi.toList++mx.toList))) args):
 Good P N W θ g ρ ⟨d,.slice T x lo hi mx,ty,pos,aft,gd⟩ v g:=by
 simp only[Fp] at j
 split at j<;>try cases j
 rename_i ti hti
 obtain⟨t,u1,_,u3⟩:=(hT _ _ hti).u
 split at j<;>try cases j
 . rename_i a l h hz hs
   rw[hz] at u3
   obtain⟨E,e,_,_,i,v0,i1,i2,_⟩:=u3
   subst e
   split at j<;>try cases j
   rename_i Q
   obtain⟨⟨U,B⟩,I,O,M⟩:=Xk0 hs ha
   obtain⟨p,m,c,l',k,⟨V,Y,Z,hb4⟩,h2,h3,h4,h5⟩:=Yn9 j U
   refine .val hO ?_ (h4 ti.e.size (λs xs e=>by rcases e with e | e<;>subst e<;>exact W0g Q) (λo s xs e=>by subst e;exact W0g Q) (λo s l n e=>by rcases e with e | e<;>subst e<;>exact W0g Q)) (λi hi=>B i (h5 i hi))
   have:=Yjh (P:=P) (w:=W.w) u1 i1 i2 h3 (lo:=lo.map ρ) (hi':=hi.map ρ) (l:=l') (h:=k) (by
    rcases V with ⟨A,f2⟩ | A
    . subst A;exact .inl ⟨I,f2⟩
    . subst A;exact .inr I) (by
    rcases Y with ⟨A,f2⟩ | A
    . subst A;exact .inl ⟨O,f2⟩
    . subst A;exact .inr O) Z h2
   have M:mx.map ρ=none:=M
   simp only[execOp,M]
   rw[Sem.run_bind,this];rfl
 . rename_i a h m hz hs
   rw[hz] at u3
   obtain⟨E,e,_,_,i,v0,i1,i2,_⟩:=u3
   subst e
   obtain⟨⟨U,B⟩,I,⟨k2,O⟩,⟨k3,M⟩⟩:=Xk0 hs ha
   have I:lo.map ρ=none:=I
   have fin:∀ {p:Option Addr} {n c k:Nat},ρ x=.slice p n c->k<=c->h=(k:Int)->m=(k:Int)->(execOp ρ ⟨d,.slice T x lo hi mx,ty,pos,aft,gd⟩).run P W.w=.ok (.value (.slice p k k)) W.w:=by
    intro p n c k e hkc h1 h2
    subst h1;subst h2
    by_cases h0:k=0
    . subst h0
      simp[execOp,e,I,O,M,Instr.sliceAt,Instr.slice,Instr.sliceBounds,Instr.sliceBound,asIntOf,sizeOf,typeInfo,underlying,program,bind,Sem.bind,Sem.run,pure,u1,i1,i2]
    . have hg:(λa:Addr=>a.add 0)=id:=funext λa=>by cases a;simp[Addr.add]
      simp[execOp,e,I,O,M,Instr.sliceAt,Instr.slice,Instr.sliceBounds,Instr.sliceBound,asIntOf,sizeOf,typeInfo,underlying,program,bind,Sem.bind,Sem.run,pure,u1,i1,i2,h0,hkc,hg]
   split at j
   . cases j
     rename_i hc
     rcases hc with ⟨rfl,rfl,hsl⟩
     obtain⟨p,n,c,e,_⟩:=Ydx hsl U
     exact .val (u:=.slice p 0 0) hO (fin e (W0s _) rfl rfl) ⟨_,⟨_,rfl⟩,rfl⟩ (λ_ h=>h.elim)
   . unfold sl3 at j
     split at j<;>try cases j
     . split at j<;>cases j
       rename_i hc
       obtain⟨c0,c1,c2⟩:=hc
       obtain⟨b,p,h1,h2,h3,e,h5⟩:=Xmg U
       exact .val (u:=.slice p h.toNat h.toNat) hO (fin e (by omega) (by omega) (by omega)) ⟨_,⟨b,p,h1,by omega,h3,rfl,λhh=>h5 (by omega)⟩,rfl⟩ B
     . split at j<;>cases j
       rename_i hc
       obtain⟨c0,c1,c2⟩:=hc
       obtain⟨b,p,h1,h2,h3,e,h5⟩:=Xp6 U
       exact .val (u:=.slice p h.toNat h.toNat) hO (fin e (by omega) (by omega) (by omega)) ⟨_,⟨b,p,h1,by omega,h3,rfl,λhh=>h5 (by omega)⟩,rfl⟩ B
 . rename_i s l h hz hs
   rw[hz] at u3
   subst u3
   obtain⟨⟨U,B⟩,I,O,M⟩:=Xk0 hs ha
   obtain⟨l',k,⟨V,Y,Z,hb4⟩,rfl⟩:=Yjc j
   obtain⟨e,hl⟩:=Xjm U
   refine .val hO ?_ (Xmr (by simp;omega)) (λ_ h=>h.elim)
   have:=Yfd (P:=P) (w:=W.w) u1 (lo:=lo.map ρ) (hi':=hi.map ρ) (s:=s) (l:=l') (h:=k) (by
    rcases V with ⟨A,f2⟩ | A
    . subst A;exact .inl ⟨I,f2⟩
    . subst A;exact .inr I) (by
    rcases Y with ⟨A,f2⟩ | A
    . subst A;exact .inl ⟨O,f2⟩
    . subst A;exact .inr O) Z hb4
   have M:mx.map ρ=none:=M
   simp only[execOp,M,e]
   rw[Sem.run_bind,this];rfl
end
end
section
section
variable{P:Program}{N:Nat->Prop}{W:GW}{θ:Loc}{g:Hp}{ρ:Operand->Value}
variable{tb:Nat->Option TI}{d:Option Nat}{ty:TypeId}{pos:String}{aft:Array Edge}{gd:Option (Nat×Bool)}{args:List AV}{v:AV}
theorem Xxj(vs:List Value): ∀(cs:List Value) (off k:Nat),(vs.zipIdx k).foldl (λ(cs:Array Value) (c,j)=>cs.setIfInBounds (off+j) c) cs.toArray=(spl cs (off+k) vs).toArray:=by
 induction vs with
 | nil=>intro cs off k;rfl
 | cons v vs h=>intro cs off k;simp only[List.zipIdx_cons,W7u,spl,List.setIfInBounds_toArray];rw[h,W4r]
theorem Xog(v:Array Value)(cs:List Value)(off:Nat): v.zipIdx.foldl (λ(cs:Array Value) (c,j)=>cs.setIfInBounds (off+j) c) cs.toArray=(spl cs off v.toList).toArray:=by
 rw[<-Array.foldl_toList,Array.toList_zipIdx]
 exact Xxj v.toList cs off 0
def Ch: AV->List D->Prop
 | .pr a c,x::y::l=>(a.size=x.size/\a.ag=x.ag)/\Ch c (y::l)
 | .pr _ _,_=>False
 | a,[x]=>a.size=x.size/\a.ag=x.ag
 | _,_=>False
theorem Ybq(x:D): x.comps≠[]:=by cases x<;>simp[D.comps]
theorem Yci: ∀(x:D),(∀u v,x≠.pr u v)->∀u v,zA x≠.pr u v
 | .pr x y,h=>absurd rfl (h x y)
 | .st x,_=>λu v e=>by
  have:=Xqv (zA x)
  rw[zA] at e
  rw[e] at this;cases this
 | .bool _,_ | .sl ..,_ | .int ..,_ | .str _,_ | .raw _,_=>λ_ _=>nofun
theorem Ch.one{a:AV}{x:D}(h:∀u v,a≠.pr u v)(i:a.size=x.size)(j:a.ag=x.ag): Ch a [x]:=by
 cases a<;>first | exact absurd rfl (h _ _) | exact⟨i,j⟩
theorem Yil: ∀(x:D),Ch (zP x) x.comps:=by
 intro x
 induction x using D.ind with
 | leaf x A i =>
  have e:zP x=zA x:=by cases x<;>first | rfl | exact absurd rfl (i _ _)
  have o:x.comps=[x]:=by cases x<;>first | rfl | exact absurd rfl (i _ _)
  rw[e,o]
  exact .one (Yci x i) (Xga x) (Yek x)
 | st a _=>exact .one (Yci (.st a) (λ_ _=>nofun)) (Xga _) (Yek _)
 | pr a c _ j =>
  show Ch (.pr (zA a) (zP c)) (a::c.comps)
  cases h:c.comps with
  | nil=>exact absurd h (Ybq c)
  | cons y l=>rw[h] at j;exact⟨⟨Xga a,Yek a⟩,j⟩
theorem Ypv: ∀(x:D),x.isZ=true->AV.C W θ (zP x) x.zc:=by
 intro x
 induction x using D.ind with
 | leaf x o i =>
  intro h
  have e:zP x=zA x:=by cases x<;>first | rfl | exact absurd rfl (i _ _)
  rw[e];exact Yej h
 | st a _=>intro h;exact Yej (x:=.st a) h
 | pr a c _ j =>
  intro h
  have:a.isZ=true/\c.isZ=true:=by simpa [D.isZ] using h
  exact⟨_,_,rfl,Yej this.1,j this.2⟩
theorem Ych: ∀(x:D) (i:Nat),¬(zP x).ids i:=by
 intro x
 induction x using D.ind with
 | leaf x A j =>
  have e:zP x=zA x:=by cases x<;>first | rfl | exact absurd rfl (j _ _)
  rw[e];exact Xhm x
 | st a _=>exact Xhm (.st a)
 | pr a c _ o=>exact λi h=>h.elim (Xhm a i) (o i)
theorem Xwv: ∀ {a:AV} {cs:List Value},AV.C W θ a cs->AV.C W θ (Yaq a) cs:=by
 intro a
 induction a with
 | pr a c _ i=>intro cs ⟨u,v,e,j,o⟩;rw[e];exact Yae j (i o)
 | _=>intro cs h;exact h
theorem Xnk: ∀ {a:AV} {i:Nat},(Yaq a).ids i->a.ids i:=by
 intro a
 induction a with
 | pr a c _ j=>intro i h;exact(Xlb h).imp id j
 | _=>intro i h;exact h
theorem Xzy{v:AV}: ∀ {a:AV} {i:Nat} {o:AV} {l:List D},Xua a i v=some o->Ch a l->∃x,l[i]?=some x/\v.size=x.size/\v.ag=x.ag:=by
 intro a
 induction a with
 | pr a c _ M =>
  intro i o l h j
  match l,j with
  | x::y::l,j =>
   cases i with
   | zero =>
    simp only[Xua] at h
    split at h<;>try cases h
    rename_i hf
    obtain⟨A,B⟩:=Xdd hf
    exact⟨x,rfl,by rw[A,j.1.1],by rw[B,j.1.2]⟩
   | succ i =>
    simp only[Xua] at h
    split at h<;>try cases h
    rename_i U I
    obtain⟨z,O,Q,T⟩:=M I j.2
    exact⟨z,by simpa using O,Q,T⟩
 | _ =>
  intro i o l h j
  match l,j with
  | [x],j =>
   cases i with
   | zero =>
    simp only[Xua] at h
    split at h<;>try cases h
    rename_i hf
    obtain⟨A,B⟩:=Xdd hf
    exact⟨x,rfl,by rw[A,j.1],by rw[B,j.2]⟩
   | succ i=>simp[Xua] at h
theorem Yjg{v:AV}{vs:List Value}(T:AV.C W θ v vs)(I:∀u w,v≠.pr u w): ∀ {a:AV} {i:Nat} {A:AV} {l:List D} {cs:List Value},Xua a i v=some A->Ch a l->AV.C W θ a cs ->
 Ch A l/\(∃x,l[i]?=some x/\v.size=x.size/\v.ag=x.ag)/\(∃u m w,cs=u++(m++w)/\u.length=Xg6 l i/\m.length=v.size/\AV.C W θ A (u++(vs++w)))/\∀i,A.ids i->a.ids i\/v.ids i:=by
 intro a
 induction a with
 | pr a c _ V =>
  intro i A l cs h j M
  match l,j with
  | x::y::l,j =>
   obtain⟨u,w,e,O,U⟩:=M
   subst e
   cases i with
   | zero =>
    simp only[Xua] at h
    split at h<;>try cases h
    rename_i hf
    obtain⟨o,B⟩:=Xdd hf
    refine⟨⟨⟨by rw[o,j.1.1],by rw[B,j.1.2]⟩,j.2⟩,⟨x,rfl,by rw[o,j.1.1],by rw[B,j.1.2]⟩,⟨[],u,w,rfl,rfl,by rw[AV.c_len a O,o],⟨vs,w,rfl,T,U⟩⟩,λi hi=>hi.elim .inr λh=>.inl (.inr h)⟩
   | succ i =>
    simp only[Xua] at h
    split at h<;>try cases h
    rename_i c' Q
    obtain⟨Y,⟨z,Z,k3,k4⟩,⟨u1,m,w1,e1,e2,e3,e4⟩,k5⟩:=V Q j.2 U
    refine⟨⟨j.1,Y⟩,⟨z,by simpa using Z,k3,k4⟩,⟨u++u1,m,w1,by rw[e1];simp,by rw[W0d,e2,AV.c_len a O,j.1.1];rfl,e3,⟨u,_,by simp,O,e4⟩⟩,λi hi=>hi.elim (λh=>.inl (.inl h)) λh=>(k5 i h).imp .inr id⟩
 | _ =>
  intro i A l cs h j M
  match l,j with
  | [x],j =>
   cases i with
   | zero =>
    simp only[Xua] at h
    split at h<;>try cases h
    rename_i hf
    obtain⟨o,B⟩:=Xdd hf
    exact⟨.one I (by rw[o,j.1]) (by rw[B,j.2]),⟨x,rfl,by rw[o,j.1],by rw[B,j.2]⟩,⟨[],cs,[],by simp,rfl,by rw[AV.c_len _ M,o],by simpa using T⟩,λi hi=>.inr hi⟩
   | succ i=>simp[Xua] at h
theorem Xfu: ∀ {v:AV},plain v=true->v.ag=true\/v.size=1
 | .d (.st _),_ | .st _,_=>.inl rfl
 | .d (.int ..),_ | .d (.bool _),_ | .d (.str _),_ | .d (.raw _),_ | .d (.sl ..),_ | .q _,_ | .b _,_ | .ub _,_ | .nil,_ | .lit ..,_ | .at _,_ | .ptr ..,_ | .own ..,_ | .ow3 ..,_ | .gr ..,_ | .el ..,_ | .fn ..,_ | .fm ..,_ | .ap ..,_=>.inr rfl
theorem Xgk{v:AV}{u:Value}(hp:plain v=true)(h:AV.V W θ v u)(o:v.ag=true\/v.size=1): AV.C W θ v u.cells.toList/\∀a c,v≠.pr a c:=by
 have i:(∀a c,v≠.pr a c)/\(∀a,v≠.tup a)/\v≠.un:=⟨(λ_ _ e=>by subst e;cases hp),(λ_ e=>by subst e;cases hp),(λe=>by subst e;cases hp)⟩
 obtain⟨cs,j,e⟩:=V_c h i.2.1 i.2.2
 rw[e,Xyi j o]
 exact⟨j,i.1⟩
theorem Xxn{place:Nat->Option (Nat×Nat)}{l:List D}(A:∀f c,l[f]?=some c->place f=some (Xg6 l f,c.size))(B:∀c∈l,c.ag=false->c.size=1){I:Nat->Prop}:
 ∀ {ps:List (Nat×Operand)} {vs:List AV} {a M:AV} {cs:List Value},Xoy a ps vs=some M->Ch a l->AV.C W θ a cs->(∀i,a.ids i->I i)->Xbg W θ g ρ (ps.map (·.2)) vs->(∀i y,g i=some y->I i) ->
 ∃o,Instr.fill place cs.toArray (ps.map λx=>(x.1,ρ x.2))=some (o:List Value).toArray/\AV.C W θ M o/\∀i,M.ids i->I i
 | [],[],a,M,cs,h,T,U,hi,_,_=>by
  simp only[Xoy] at h;injection h with h;subst h
  exact⟨cs,rfl,U,hi⟩
 | (i,x)::ps,v::vs,a,M,cs,h,T,U,hi,ha,hg=>by
  simp only[Xoy] at h
  split at h<;>try cases h
  rename_i a1 hp O
  have V:v.ag=true\/v.size=1:=by
   obtain⟨z,Y,Z,k4⟩:=Xzy O T
   cases e:v.ag with
   | true=>exact .inl rfl
   | false=>exact .inr (by rw[Z];exact B z (W0e Y) (by rw[<-k4,e]))
  obtain⟨Q,hnp⟩:=Xgk hp ha.1.1 V
  obtain⟨k1,⟨z,Y,Z,k4⟩,⟨u,m,w,e1,e2,e3,e4⟩,k5⟩:=Yjg Q hnp O T U
  have hv:=AV.c_len v Q
  have hv':(ρ x).cells.size=v.size:=by simpa using hv
  obtain⟨o,f1,f2,f3⟩:=Xxn A B h k1 e4 (λj hj=>(k5 j hj).elim (hi j) λhj=>let ⟨y,hy⟩:=ha.1.2 j hj;hg j y hy) ha.2 hg
  refine⟨o,?_,f2,f3⟩
  simp only[W3t,Instr.fill,A i z Y]
  have hc0:(decide ((ρ x).cells.size≠z.size)||decide (Xg6 l i+(ρ x).cells.size>cs.toArray.size))=false:=by
   simp[hv',Z,e1,e2]
   omega
  rw[if_neg (by rw[hc0];simp),Xog,e1,<-e2,Xq4 _ _ _ _ (by rw[hv,e3])]
  exact f1
 | [],_::_,_,_,_,h,_,_,_,_,_=>by simp[Xoy] at h
 | _::_,[],_,_,_,h,_,_,_,_,_=>by simp[Xoy] at h
theorem Xjx{w:World}: ∀ {fs:List Field} {l:List D} (o:Nat),fs.length=l.length->(∀f c,l[f]?=some c->∃j i,fs[f]?=some j/\j.offset=o+Xg6 l f/\P.info? j.type=some i/\i.size=c.size) ->
 ∃I:List (Nat×Nat),(fs.mapM λf=>do pure (f.offset,<-sizeOf f.type):Sem (List (Nat×Nat))).run P w=.ok I w/\∀f c,l[f]?=some c->I[f]?=some (o+Xg6 l f,c.size)
 | [],[],_,_,_=>⟨[],rfl,λf c h=>by simp at h⟩
 | f::fs,c::l,o,B,h=>by
  obtain⟨j,i,M,O,Q,T⟩:=h 0 c rfl
  simp at M;subst M
  obtain⟨I,U,V⟩:=Xjx (w:=w) (fs:=fs) (l:=l) (o+c.size) (by simpa using B) (λk x A=>by
   obtain⟨j,i,M,O,Q,T⟩:=h (k+1) x (by simpa using A)
   exact⟨j,i,by simpa using M,by rw[O,Xg6];omega,Q,T⟩)
  refine⟨(f.offset,c.size)::I,?_,λk x A=>?_⟩
  . have Y:(sizeOf f.type).run P w=.ok c.size w:=by simp[sizeOf,typeInfo,Q,T]
    have h0:((do pure (f.offset,<-sizeOf f.type):Sem (Nat×Nat))).run P w=.ok (f.offset,c.size) w:=by simp[Y]
    rw[List.mapM_cons,Sem.run_bind,h0]
    simp only[Result.andThen_ok]
    rw[Sem.run_bind,U]
    rfl
  . cases k with
    | zero=>simp at A;subst A;simp[O,Xg6]
    | succ k=>simp at A |-;rw[V k x A,Xg6];simp;omega
 | [],_::_,_,B,_=>by simp at B
 | _::_,[],_,B,_=>by simp at B
theorem Xru{n:Nat}: ∀ {l:List D} {f:Nat} {c:D},(∀c∈l,c.size=n)->l[f]?=some c->Xg6 l f=f*n
 | x::l,0,c,_,_=>by simp[Xg6]
 | x::l,f+1,c,h,i=>by
  rw[Xg6,h x (W0v ..),Xru (λc i=>h c (W1b _ i)) (by simpa using i),W3b]
  omega
 | [],_,_,_,h=>by simp at h
theorem Ymb{T:TypeId}{ps:Array (Nat×Operand)}(hT:∀T ti,tb T=some ti->TyOk P T ti)(hO:Obs W θ N g)(o:Fp tb (.build T ps) args=some v)(ha:Xbg W θ g ρ (ps.toList.map (·.2)) args):
 Good P N W θ g ρ ⟨d,.build T ps,ty,pos,aft,gd⟩ v g:=by
 simp only[Fp] at o
 split at o<;>try cases o
 rename_i ti V
 split at o<;>try cases o
 rename_i z hz
 split at o<;>try cases o
 rename_i a hb hs
 have Y:=hT _ _ V
 obtain⟨ii,v0,i1,i2,i3,i4,i5⟩:=Y.i
 obtain⟨t,u1,_,O⟩:=Y.u
 have A:=Y.z
 rw[hz] at O i4 A
 have Q:v0.cells=z.zc.toArray:=by
  have:v0.cells=v0.cells.toList.toArray:=by simp
  rw[this,i4];rfl
 have ez:(zeroValue T).run P W.w=.ok v0 W.w:=by simp[zeroValue,typeInfo,i1,i3]
 by_cases h0:ti.arr=0
 . simp only[h0,if_true] at O
   obtain⟨fs,e,hl,hf⟩:=O
   subst e
   obtain⟨pl,k1,k2⟩:=Xjx (P:=P) (w:=W.w) (fs:=fs.toList) (l:=z.comps) 0 (by simpa using hl) (λf c j=>by
    obtain⟨gg,i,h1,U,h3,h4,_⟩:=hf f c j
    exact⟨gg,i,by simpa using h1,by omega,h3,h4⟩)
   obtain⟨B,Z,f2,f3⟩:=Xxn (ρ:=ρ) (g:=g) (place:=(pl.toArray[·]?)) (l:=z.comps) (θ:=θ) (W:=W) (I:=λi=>∃y,g i=some y) (λf c j=>by
    have:=k2 f c j;simpa using this) (λc j=>by
    obtain⟨f,hf'⟩:=W4t j
    obtain⟨gg,i,h1,U,h3,h4,t,h5,h6,h7⟩:=hf f c hf'
    exact h7) hs (Yil z) (Ypv z A) (λi hi=>absurd hi (Ych z i)) ha (λi y hy=>⟨y,hy⟩)
   have hm:(fs.mapM λf=>do pure (f.offset,<-sizeOf f.type):Sem (Array (Nat×Nat))).run P W.w=.ok pl.toArray W.w:=by
    have:fs=fs.toList.toArray:=by simp
    rw[this,List.mapM_toArray,Sem.run_map,k1]
    rfl
   refine .val (u:=.agg B.toArray) hO ?_ ?_ (λi hi=>f3 i (Xnk (Xky hi)))
   . simp only[execOp,Instr.build]
     rw[Sem.run_bind,Sem.run_bind,ez]
     simp only[Result.andThen_ok]
     rw[Sem.run_bind,Xk3 u1]
     simp only[Result.andThen_ok]
     rw[Sem.run_bind,hm]
     simp only[Result.andThen_ok]
     rw[Q,Array.toList_map,Z]
     rfl
   . have:=Yms (Xzs (Xwv f2))
     rw[Xqv] at this
     exact this
 . simp only[h0,if_false] at O
   obtain⟨E,e,ei,ev,e1,e2,e3,e4,e5⟩:=O
   subst e
   have hb:(z.comps.all λc=>Nat.beq c.size ti.e.size&&(c.ag||Nat.beq c.size 1))=true:=by
    unfold Ymc at hb
    split at hb
    . rename_i h;exact absurd h h0
    . exact hb
   have M:∀c∈z.comps,c.size=ti.e.size/\(c.ag=false->c.size=1):=λc j=>by
    have:=W1q.1 hb c j
    simp only[W0h,W4y] at this
    exact⟨W0g this.1,λh=>this.2.elim (λU=>by rw[h] at U;cases U) W0g⟩
   obtain⟨B,Z,f2,f3⟩:=Xxn (ρ:=ρ) (g:=g) (place:=λi=>some (i*ti.e.size,ti.e.size)) (l:=z.comps) (θ:=θ) (W:=W) (I:=λi=>∃y,g i=some y) (λf c j=>by
    show some _=_
    rw[Xru (n:=ti.e.size) (λc j=>(M c j).1) j,(M c (W0e j)).1]) (λc j=>(M c j).2) hs (Yil z) (Ypv z A) (λi hi=>absurd hi (Ych z i)) ha (λi y hy=>⟨y,hy⟩)
   have hm:(sizeOf E).run P W.w=.ok ti.e.size W.w:=by simp[sizeOf,typeInfo,e1,e2]
   refine .val (u:=.agg B.toArray) hO ?_ ?_ (λi hi=>f3 i (Xnk (Xky hi)))
   . simp only[execOp,Instr.build]
     rw[Sem.run_bind,Sem.run_bind,ez]
     simp only[Result.andThen_ok]
     rw[Sem.run_bind,Xk3 u1]
     simp only[Result.andThen_ok]
     rw[Sem.run_bind,hm]
     simp only[Result.andThen_ok]
     rw[Q,Array.toList_map,Z]
     rfl
   . have:=Yms (Xzs (Xwv f2))
     rw[Xqv] at this
     exact this
theorem Ykh{fn:Fn}(j:Obs W θ N g)(i:Fp tb (.makeFunc fn #[] #[]) args=some v): Good P N W θ g ρ ⟨d,.makeFunc fn #[] #[],ty,pos,aft,gd⟩ v g:=by
 have i:some _=some v:=i
 injection i with i;subst i
 exact .val (u:=.func fn #[] #[]) j (by simp only[execOp,Instr.makeFunc,List.map_toArray,Array.map_empty];rfl) ⟨[.func fn #[] #[]],⟨rfl,rfl⟩,rfl⟩ (λ_ h=>h.elim)
theorem Ykz{T:TypeId}{x y:Operand}(M:∀T ti,tb T=some ti->TyOk P T ti)(O:Obs W θ N g)(i:Fp tb (.index T x y) args=some v)(ha:Xbg W θ g ρ [x,y] args): Good P N W θ g ρ ⟨d,.index T x y,ty,pos,aft,gd⟩ v g:=by
 simp only[Fp] at i
 split at i<;>try cases i
 rename_i z e eb ar s k j Q
 split at i<;>try cases i
 rename_i U
 split at i<;>cases i
 rename_i b hb
 obtain⟨t,V,u2,I⟩:=(M _ _ Q).u
 simp only at I
 subst I
 obtain⟨cs,o,A⟩:=ha.1.1
 obtain⟨o,_⟩:=o
 subst o
 have A:ρ x=.string ⟨s.toArray⟩:=A
 obtain⟨Y,_⟩:=Xcv ha.2.1.1
 obtain⟨n,rfl⟩:=Int.eq_ofNat_of_zero_le U
 refine .val (u:=.int .u8 b.toNat) O ?_ (int_V ?_) (λ_ h=>h.elim)
 . simp at hb
   have B:(ByteArray.mk s.toArray)[n]?=some b:=by
    obtain⟨Z,e⟩:=W1e.1 hb
    have hs:n<(ByteArray.mk s.toArray).size:=by show n<s.toArray.size;simpa using Z
    rw[getElem?_pos (ByteArray.mk s.toArray) n hs]
    show some (s.toArray[n]'_)=_
    simp[e]
   simp[execOp,A,Y,Instr.index,asIntOf,Xk3 V,B]
 . have:=b.toNat_lt
   simp only[inR,IntKind.wrap,IntKind.bits,IntKind.signed];simp;omega
theorem Ydl{a:AV}{v:Value}(h:Ydm a=true)(B:AV.V W θ a v): AV.C W θ a [v]:=by
 unfold Ydm at h
 split at h<;>try cases h
 all_goals (obtain⟨cs,i,e⟩:=B;first | (obtain⟨b,j,o⟩:=i;subst o;subst e;exact⟨b,j,rfl⟩) | (have A:=i;obtain⟨j,o⟩:=A;subst j;subst e;exact⟨rfl,o⟩) | (have i:cs=_:=i;subst i;subst e;exact rfl))
theorem Yl4: ∀ {l:List AV} {xs:List Operand} {a:AV},chA l=some a->Xbg W θ g ρ xs l->AV.C W θ a (xs.map ρ)/\∀i,a.ids i->∃y,g i=some y
 | [],_,_,h,_=>by cases h
 | [b],[x],a,h,j=>by
  simp only[chA] at h
  split at h<;>cases h
  rename_i o
  exact⟨Ydl o j.1.1,j.1.2⟩
 | b::c::l,x::xs,a,h,j=>by
  simp only[chA] at h
  split at h<;>cases h
  rename_i M o A
  obtain⟨B,I⟩:=Yl4 (l:=c::l) A j.2
  exact⟨⟨[ρ x],xs.map ρ,rfl,Ydl o j.1.1,B⟩,λi hi=>hi.elim (j.1.2 i) (I i)⟩
 | [_],[],_,_,h=>h.elim
 | [_],_::_::_,_,_,h=>h.2.elim
 | _::_::_,[],_,_,h=>h.elim
theorem Yf7{f:Nat}{l:List Operand}{args:List AV}{a:AV}(i:Obs W θ N g)(ha:Xbg W θ g ρ l args)(h:chA args=some a): Good P N W θ g ρ ⟨d,.makeFunc (.func f) #[] l.toArray,ty,pos,aft,gd⟩ (.fm f a) g:=by
 obtain⟨j,o⟩:=Yl4 h ha
 exact .val (u:=.func (.func f) #[] (l.map ρ).toArray) i (by simp only[execOp,Instr.makeFunc,List.map_toArray,Array.map_empty];rfl) ⟨[.func (.func f) #[] (l.map ρ).toArray],⟨_,j,rfl⟩,rfl⟩ o
theorem Yf8{f o:Nat}{x:Operand}(j:Obs W θ N g)(ha:Xbg W θ g ρ [x] [.ptr o 0]): Good P N W θ g ρ ⟨d,.makeFunc (.func f) #[] #[x],ty,pos,aft,gd⟩ (.fn f o) g:=by
 obtain⟨b,A,B⟩:=Xjn ha.1.1
 exact .val (u:=.func (.func f) #[] #[.pointer (some ⟨b,0,none⟩)]) j (by simp only[execOp,Instr.makeFunc,List.map_toArray,Array.map_empty,W3t,List.map_nil,B];rfl) ⟨[.func (.func f) #[] #[.pointer (some ⟨b,0,none⟩)]],⟨b,A,rfl⟩,rfl⟩ (λi h=>by
  have h:i=o:=h
  subst h;exact ha.1.2 _ rfl)
end
end
section
section
variable{P:Program}{N:Nat->Prop}{W:GW}{θ:Loc}{g:Hp}{ρ:Operand->Value}
variable{tb:Nat->Option TI}{dd:Nat}{d:Option Nat}{ty:TypeId}{pos:String}{aft:Array Edge}{gd:Option (Nat×Bool)}{args:List AV}{v:AV}{us:List (Nat×Ob)}
theorem Xh7{T:TypeId}{ti:TI}(o:TyOk P T ti){b off:Nat}{w:World}{y:AV}{cs:List Value}(A:AV.C W θ y cs)(I:y.size=ti.z.size)(M:y.ag=ti.z.ag)(O:y.ag=false->y.size=1)
 (B:∀j u,cs[j]?=some u->w.cell? ⟨b,off+j,none⟩=some u):(loadVar T ⟨b,off,none⟩).run P w=.ok (mkv y.ag cs) w:=by
 obtain⟨Z,v0,i1,i2,i3,i4,i5⟩:=o.i
 obtain⟨t,Q,U,_⟩:=o.u
 have V:=AV.c_len y A
 have h:=run_loadCells (P:=P) (b:=b) (off:=off) (w:=w) cs 0 #[] (λj v Y=>by simpa using B j v Y)
 have hs:(sizeOf T).run P w=.ok cs.length w:=by simp[sizeOf,typeInfo,program,bind,Sem.bind,Sem.run,pure,i1,i2,<-I,V]
 unfold loadVar
 rw[Sem.run_bind,Xm1 Q (U.trans M.symm)]
 cases e:y.ag with
 | true =>
  simp only[Result.andThen_ok,if_true]
  rw[Sem.run_bind,hs]
  simp only[Result.andThen_ok]
  rw[Sem.run_bind]
  simp only[loadCells]
  rw[h]
  simp[mkv]
 | false =>
  obtain⟨c,rfl⟩:=Yhh A (O e)
  simpa [mkv] using run_load (P:=P) (B 0 c rfl)
theorem ag1{T:TypeId}{ti:TI}(i:TyOk P T ti)(h:ti.z.ag=false)(hp:∀a c,ti.z≠.pr a c): ti.z.size=1:=by
 cases e:ti.z<;>rw[e] at h hp<;>first | rfl | exact absurd rfl (hp _ _) | cases h
theorem Xwq{T:TypeId}{x:Operand}{ti:TI}(h:TyOk P T ti)(hp:∀a c,ti.z≠.pr a c)(I:Obs W θ N g){b off:Nat}{y:AV}{cs:List Value}(M:ρ x=.pointer (some ⟨b,off,none⟩))(o:AV.C W θ y cs)(A:y.size=ti.z.size)(B:y.ag=ti.z.ag)
 (O:∀j u,cs[j]?=some u->W.w.cell? ⟨b,off+j,none⟩=some u) (hi:∀i,y.ids i->∃k,g i=some k):Good P N W θ g ρ ⟨d,.load T x,ty,pos,aft,gd⟩ y g:=by
 have Q:=Xh7 h o A B (λe=>by rw[A];exact ag1 h (by rw[<-B];exact e) hp) O
 refine .val I ?_ (Yms o) hi
 simp only[execOp,M,Instr.loadAt,Instr.sureAddr]
 rw[Sem.run_bind]
 show Result.andThen ((loadVar T ⟨b,off,none⟩).run P W.w) _=_
 rw[Q]
 rfl
theorem Xwj{u m w:List Value}{j:Nat}{v:Value}(h:m[j]?=some v): (u++(m++w))[u.length+j]?=some v:=by
 rw[W0o (by omega),W3r,W1d (by
  by_cases i:j<m.length
  . exact i
  . rw[W2f (by omega)] at h;cases h)]
 exact h
theorem Xr6{s:Nat}{i:Bool}{x:D}(h:x.size=s)(j:x.ag=i): (nb x).size=s/\(nb x).ag=i:=⟨by rw[Xpe,h],by rw[Yf5,j]⟩
theorem Yop{T:TypeId}{x:Operand}(hT:∀T ti,tb T=some ti->TyOk P T ti/\∀a c,ti.z≠.pr a c)(o:Obs W θ N g)(h:F tb dd g (.load T x) args=some (v,us))(ha:Xbg W θ g ρ [x] args):
 us=[]/\Good P N W θ g ρ ⟨d,.load T x,ty,pos,aft,gd⟩ v g:=by
 simp only[F] at h
 split at h<;>try cases h
 rename_i ti Q
 obtain⟨U,hp⟩:=hT _ _ Q
 split at h<;>try cases h
 . split at h<;>cases h
   rename_i hf
   obtain⟨f1,f2⟩:=Xnu hf
   obtain⟨b,off,e,A,h2,h3⟩:=Yqt ha.1.1
   exact⟨rfl,Xwq U hp o A (Ynf h2) (Xr6 f1 f2).1 (Xr6 f1 f2).2 (λj u B=>(h3 j u B).1) (λi hi=>absurd hi (Xr5 _ _))⟩
 . split at h<;>try cases h
   rename_i a I
   split at h<;>cases h
   rename_i hs
   obtain⟨b,A,e⟩:=Xjn ha.1.1
   obtain⟨b',cs,T',r1,V,r3,r4⟩:=o.r _ _ I
   rw[A] at r1;injection r1 with r1;subst r1
   obtain⟨u,m,w,Y,Z,e3,M,O,e6⟩:=Ycw hs r3
   refine⟨rfl,Xwq U hp o e e3 M O (λj c B=>?_) (λi hi=>o.ids _ _ i I (e6 i hi))⟩
   rw[Xbf V,Y,<-Z]
   exact Xwj B
 . split at h<;>try cases h
   rename_i sz' xs I
   split at h<;>try cases h
   rename_i hsz
   subst hsz
   split at h<;>try cases h
   rename_i y hy
   split at h<;>cases h
   rename_i z hz
   obtain⟨b,A,e⟩:=Yno ha.1.1
   obtain⟨b',cs,T',r1,V,r3,r4,r5,r6,r7⟩:=o.r _ _ I
   rw[A] at r1;injection r1 with r1;subst r1
   obtain⟨ce,he,_,hf⟩:=r6 _ _ hy
   obtain⟨u,m,w,Y,Z,e3,M,O⟩:=Xux hz he
   refine⟨rfl,Xwq U hp o e (Ynf e3) (Xr6 M O).1 (Xr6 M O).2 (λj c B=>?_) (λi hi=>absurd hi (Xr5 _ _))⟩
   rw[Xbf V,W4r]
   exact hf _ _ (by rw[Y,<-Z];exact Xwj B)
theorem Ypk{T:TypeId}(A:∀T ti,tb T=some ti->TyOk P T ti/\∀a c,ti.z≠.pr a c)(B:Obs W θ N g)(I:∀b,W.size<=b->N b)(M:dd<1000000)(h:F tb dd g (.alloc T) args=some (v,us)):
 Good P N W θ g ρ ⟨d,.alloc T,ty,pos,aft,gd⟩ v (Xb1 g us):=by
 simp only[F] at h
 split at h<;>cases h
 rename_i ti j O
 obtain⟨o,hp⟩:=A _ _ j
 obtain⟨Y,v0,i1,i2,Q,U,Z⟩:=o.i
 refine⟨_,_,.value (.pointer (some ⟨W.size,0,none⟩)),?_,Stp.push (c:=0) B I M O (.cells v0.cells T) (λ_=>True) (x:=.var (zA ti.z)) ⟨W.size,ti.z.zc,T,by simp,?_,Yej o.z,λi=>.inr ⟨rfl,trivial⟩⟩ (λi hi=>absurd hi (Xhm _ _)),
  .inr ⟨_,rfl,Xtm (by simp)⟩,λi hi=>⟨_,by subst hi;exact Xai _ _ _⟩⟩
 . have V:(zeroValue T).run P W.w=.ok v0 W.w:=by simp[zeroValue,typeInfo,program,bind,Sem.bind,Sem.run,pure,i1,Q]
   simp only[execOp,Instr.alloc]
   rw[Sem.run_bind,Sem.run_bind,V]
   rfl
 . rw[<-U,Array.toArray_toList]
   exact Xa8 ..
theorem Ypd{T:TypeId}{x:Operand}(B:Obs W θ N g)(I:∀b,W.size<=b->N b)(M:dd<1000000)(h:F tb dd g (.box T x) args=some (v,us))(ha:Xbg W θ g ρ [x] args):
 Good P N W θ g ρ ⟨d,.box T x,ty,pos,aft,gd⟩ v (Xb1 g us):=by
 simp only[F] at h
 split at h<;>try cases h
 rename_i a o
 split at h<;>cases h
 rename_i j
 obtain⟨O,_⟩:=Xgk j ha.1.1 (Xfu j)
 refine⟨_,_,.value (.pointer (some ⟨W.size,0,none⟩)),rfl,Stp.push (c:=0) B I M o (.cells (ρ x).cells T) (λ_=>True) (x:=.var a) ⟨W.size,(ρ x).cells.toList,T,by simp,?_,?_,λi=>.inr ⟨rfl,trivial⟩⟩ ha.1.2,
  .inr ⟨_,rfl,Xtm (by simp)⟩,λi hi=>⟨_,by subst hi;exact Xai _ _ _⟩⟩
 . rw[Array.toArray_toList]
   exact Xa8 ..
 . exact AV.c_mono (Xee _ _ _) a (λi hi=>if_neg λe=>by obtain⟨y,A⟩:=ha.1.2 i hi;rw[e,o] at A;cases A) O
theorem Xm0{T:TypeId}{ti:TI}(h:TyOk P T ti){b off:Nat}{w:World}{U:TypeId}{c:List Value}{v:Value}(hb:w.heap[b]?=some (.cells c.toArray U (0,0)))
 (hs:v.cells.toList.length=ti.z.size) (M:off+ti.z.size<=c.length) (j:∀u∈v.cells.toList,Xgz u=true) :
 (storeVar T ⟨b,off,none⟩ v).run P w=.ok () (Xjh w b (.cells (spl c off v.cells.toList).toArray U (0,0))):=by
 obtain⟨O,u,o,A,Q,_⟩:=h.i
 have B:(sizeOf T).run P w=.ok ti.z.size w:=by simp[sizeOf,typeInfo,program,bind,Sem.bind,Sem.run,pure,o,A]
 unfold storeVar
 rw[Sem.run_bind,B]
 have I:v.cells.size=ti.z.size:=by simpa using hs
 simp only[Result.andThen_ok,I]
 simp only[ne_eq,not_true,if_false]
 have:=Xe4 (P:=P) (off:=off) v.cells.toList w 0 c hb (by rw[hs];omega) j
 simpa using this
theorem Xve{T:TypeId}{x y:Operand}{ti:TI}(h:TyOk P T ti){b off:Nat}{U:TypeId}{c:List Value}(i:ρ x=.pointer (some ⟨b,off,none⟩))(hb:W.w.heap[b]?=some (.cells c.toArray U (0,0)))
 (hs:(ρ y).cells.toList.length=ti.z.size) (j:off+ti.z.size<=c.length) (o:∀u∈(ρ y).cells.toList,Xgz u=true) :
 (execOp ρ ⟨none,.store T x y,ty,pos,aft,gd⟩).run P W.w=.ok .skip (W.put b (.cells (spl c off (ρ y).cells.toList).toArray U (0,0)) (λ_=>True)).w:=by
 simp only[execOp,i,Instr.storeAt,Instr.sureAddr]
 rw[Sem.run_bind,Sem.run_bind]
 show Result.andThen (Result.andThen (Result.ok _ _) _) _=_
 simp only[Result.andThen_ok]
 rw[Xm0 h hb hs j o]
 rfl
theorem Yn6{T:TypeId}{x y:Operand}(hT:∀T ti,tb T=some ti->TyOk P T ti/\∀a c,ti.z≠.pr a c)(hO:Obs W θ N g)(A:F tb dd g (.store T x y) args=some (v,us))(ha:Xbg W θ g ρ [x,y] args):
 Good P N W θ g ρ ⟨none,.store T x y,ty,pos,aft,gd⟩ v (Xb1 g us):=by
 simp only[F] at A
 split at A<;>try cases A
 rename_i ti hti
 obtain⟨hk,hp⟩:=hT _ _ hti
 split at A<;>try cases A
 . rename_i o off v1
   split at A<;>try cases A
   rename_i a hg
   split at A<;>cases A
   rename_i a' I hup
   rw[W0h] at I
   obtain⟨M,I⟩:=I
   have I:=W0g I
   obtain⟨b,U,e⟩:=Xjn ha.1.1
   obtain⟨b',cs,T',r1,V,r3,r4⟩:=hO.r _ _ hg
   rw[U] at r1;injection r1 with r1;subst r1
   obtain⟨hv,_⟩:=Xgk M ha.2.1.1 (Xfu M)
   have B:=AV.c_len v1 hv
   obtain⟨u,m,w,e1,e2,e3,e4,e5⟩:=Yco hv hup r3
   have O:=Xve (P:=P) (ty:=ty) (pos:=pos) (aft:=aft) (gd:=gd) hk e V (by rw[B,I]) (by rw[e1];simp;omega) (AV.c_one v1 hv)
   have hspl:spl cs off (ρ y).cells.toList=u++((ρ y).cells.toList++w):=by rw[e1,<-e2];exact Xq4 _ _ _ _ (by rw[B,e3])
   have Y:=Xid W b cs (spl cs off (ρ y).cells.toList) T' (λ_=>True) V (λi v hA=>absurd (r4 i) hA)
   refine⟨_,θ,_,O,Stp.put hO (t:=o) (x:=.var a') hg rfl U V (λi v hA=>absurd (r4 i) hA) (λ_ _ _=>rfl) (λ_ _=>rfl) U (λi z hz=>?_) (λi z hz=>?_) ⟨b,_,T',U,Xa7 _ _ _ (Xa3 V),?_,λi=>⟨r4 i,λ_=>trivial⟩⟩ (λi hi=>?_),.inl ⟨rfl,rfl⟩,λi hi=>hi.elim⟩
   . rcases Xae hz with ⟨f1,f2⟩ | ⟨f1,f2⟩
     . exact .inl ⟨f1,f2⟩
     . exact .inr (.inr ⟨f2,f1⟩)
   . by_cases Q:i=o
     . subst Q;exact⟨_,Xai _ _ _⟩
     . exact⟨z,by rw[show Xb1 g [(o,Ob.var a')]=upd g o (.var a') from rfl,Xam Q];exact hz⟩
   . have:=AV.c_mono Y a' (λ_ _=>rfl) e4
     rw[<-hspl] at this
     exact this
   . rcases e5 i hi with h | h
     . exact hO.ids _ _ i hg h
     . exact ha.2.1.2 i h
 . rename_i o sz j v1
   split at A<;>try cases A
   rename_i sz' xs hg
   split at A<;>try cases A
   rename_i x1 hx1
   split at A<;>cases A
   rename_i hc
   obtain⟨M,rfl,Z,hs2,hs3,hj⟩:=hc
   obtain⟨b,U,e⟩:=Yno ha.1.1
   obtain⟨b',cs,T',r1,V,r3,r4,r5,r6,r7⟩:=hO.r _ _ hg
   rw[U] at r1;injection r1 with r1;subst r1
   obtain⟨hv,_⟩:=Xgk M ha.2.1.1 (Xfu M)
   have B:=AV.c_len v1 hv
   have hjc:j*sz+sz<=cs.length:=by
    rw[r3,<-W3b];exact W0x _ (by omega)
   have O:=Xve (P:=P) (ty:=ty) (pos:=pos) (aft:=aft) (gd:=gd) hk e V (by rw[B,Z,hs3]) (by rw[hs3];exact hjc) (AV.c_one v1 hv)
   have Y:=Xid W b cs (spl cs (j*sz) (ρ y).cells.toList) T' (λ_=>True) V (λi v hA=>absurd (r7 i) hA)
   have hsp:∀q,(spl cs (j*sz) (ρ y).cells.toList)[q]?=if j*sz<=q/\q<j*sz+sz then (ρ y).cells.toList[q-j*sz]? else cs[q]?:=λq=>by
    rw[Xgh _ _ _ _ (by rw[B,Z];exact hjc),B,Z]
   refine⟨_,θ,_,O,Stp.put hO (t:=o) (x:=.arr sz (xs.set j x1)) hg rfl U V (λi v hA=>absurd (r7 i) hA) (λ_ _ _=>rfl) (λ_ _=>rfl) U (λi z hz=>?_) (λi z hz=>?_)
    ⟨b,_,T',U,Xa7 _ _ _ (Xa3 V),by rw[W2r,Xeq];exact r3,r4,by simpa using r5,λi x hx=>?_,λi=>⟨r7 i,λ_=>trivial⟩⟩ (λi hi=>hi.elim),.inl ⟨rfl,rfl⟩,λi hi=>hi.elim⟩
   . rcases Xae hz with ⟨f1,f2⟩ | ⟨f1,f2⟩
     . exact .inl ⟨f1,f2⟩
     . exact .inr (.inr ⟨f2,f1⟩)
   . by_cases Q:i=o
     . subst Q;exact⟨_,Xai _ _ _⟩
     . exact⟨z,by rw[show Xb1 g [(o,Ob.arr sz (xs.set j x1))]=upd g o (.arr sz (xs.set j x1)) from rfl,Xam Q];exact hz⟩
   . rw[W2r]
     by_cases hij:i=j
     . subst hij
       rw[W2n hj] at hx
       injection hx with hx;subst hx
       refine⟨_,D.mono Y _ (Xmq hx1 hv),hs2,λq c hq=>?_⟩
       have hql:q<sz:=by
        rw[<-Z,<-B]
        by_cases h:q<(ρ y).cells.toList.length
        . exact h
        . rw[W2f (by omega)] at hq;cases hq
       rw[hsp,if_pos (by omega),W3r]
       exact hq
     . rw[W1v (λh=>hij h.symm)] at hx
       obtain⟨e1,e2,e3,e4⟩:=r6 i x hx
       refine⟨e1,D.mono Y _ e2,e3,λq c hq=>?_⟩
       have hql:q<sz:=by
        rw[<-e3,<-D.at_len x e2]
        by_cases h:q<e1.length
        . exact h
        . rw[W2f (by omega)] at hq;cases hq
       rw[hsp,if_neg ?_]
       . exact e4 q c hq
       . rcases W7b hij with h | h
         . have:i*sz+sz<=j*sz:=by rw[<-W3b];exact W0x _ (by omega)
           omega
         . have:j*sz+sz<=i*sz:=by rw[<-W3b];exact W0x _ (by omega)
           omega
end
end
section
def AtL(W:GW)(sz:Nat)(xs:List D)(cs:List Value): Prop:=∀i x,xs[i]?=some x->∃e,D.At W x e/\x.size=sz/\∀j v,e[j]?=some v->cs[i*sz+j]?=some v
theorem Xbn{α:Type _}{l:List α}{i:Nat}{x:α}(h:l[i]?=some x): i<l.length:=by
 by_cases j:i<l.length
 . exact j
 . rw[W2f (by omega)] at h;cases h
theorem AtL.mono{W W':GW}{sz:Nat}{xs:List D}{cs:List Value}(l:LeF W W')(h:AtL W sz xs cs): AtL W' sz xs cs:=λi x hi =>
 let ⟨e,j,o,A⟩:=h i x hi;⟨e,D.mono l x j,o,A⟩
theorem AtL.ext{W:GW}{sz:Nat}{xs:List D}{cs A:List Value}(h:AtL W sz xs cs)(hd:∀q v,q<xs.length*sz->cs[q]?=some v->A[q]?=some v): AtL W sz xs A:=λi x hi=>by
 obtain⟨e,B,I,O⟩:=h i x hi
 refine⟨e,B,I,λj v M=>hd _ v ?_ (O j v M)⟩
 have o:=Xbn M
 rw[D.at_len x B,I] at o
 have Q:=Xbn hi
 have:i*sz+sz<=xs.length*sz:=by rw[<-W3b];exact W0x _ (by omega)
 omega
theorem AtL.app{W:GW}{sz:Nat}{xs ys:List D}{cs M:List Value}(h:AtL W sz xs cs)(k:AtL W sz ys M)(O:cs.length=xs.length*sz): AtL W sz (xs++ys) (cs++M):=λi x hi=>by
 by_cases Q:i<xs.length
 . rw[W1d Q] at hi
   obtain⟨e,o,A,B⟩:=h i x hi
   exact⟨e,o,A,λj v I=>by
    have:=B j v I
    rw[W1d (Xbn this)];exact this⟩
 . rw[W0o (by omega)] at hi
   obtain⟨e,o,A,B⟩:=k _ x hi
   refine⟨e,o,A,λj v I=>?_⟩
   have:=B j v I
   obtain⟨q,rfl⟩:=Nat.le.dest (W6j.1 Q)
   rw[W3r] at this
   rw[W0o (by rw[O,W1i];omega),O,show (xs.length+q)*sz+j-xs.length*sz=q*sz+j by rw[W1i];omega]
   exact this
theorem AtL.row{W:GW}{sz b off:Nat}{xs:List D}{cs:List Value}(h:AtL W sz xs cs)(hf:∀q v,q<xs.length*sz->cs[q]?=some v->Fr W b (off+q) v): D.Row W b sz off xs :=
 D.row_of λi x hi=>by
  obtain⟨e,A,B,M⟩:=h i x hi
  refine⟨e,A,B,λj v I=>?_⟩
  rw[W4r]
  refine hf _ v ?_ (M j v I)
  have o:=Xbn I
  rw[D.at_len x A,B] at o
  have O:=Xbn hi
  have:i*sz+sz<=xs.length*sz:=by rw[<-W3b];exact W0x _ (by omega)
  omega
theorem Xhd{W:GW}{b sz:Nat}: ∀ {xs:List D} {off:Nat},D.Row W b sz off xs->∃cs:List Value,cs.length=xs.length*sz/\(∀j u,cs[j]?=some u->Fr W b (off+j) u)/\(∀u∈cs,Xgz u=true)/\AtL W sz xs cs
 | [],off,_=>⟨[],by simp,λj u h=>by simp at h,λu h=>by simp at h,λi x h=>by simp at h⟩
 | x::xs,off,⟨⟨e,A,I,O⟩,Q⟩=>by
  obtain⟨cs,T,U,V,Y⟩:=Xhd Q
  have M:e.length=sz:=by rw[D.at_len x A,I]
  have one:AtL W sz [x] e:=λi y hi=>by
   cases i with
   | zero=>simp at hi;subst hi;exact⟨e,A,I,λj v o=>by simpa using o⟩
   | succ i=>simp at hi
  refine⟨e++cs,by rw[W0d,M,T,W0j,W3b];omega,λj u o=>?_,λu Z=>?_,by simpa using one.app Y (by simpa using M)⟩
  . by_cases B:j<e.length
    . rw[W1d B] at o;exact O j u o
    . rw[W0o (by omega)] at o
      have:=U _ u o
      rwa[show off+sz+(j-e.length)=off+j by omega] at this
  . rcases W2c.1 Z with h | h
    . exact D.at_one x A u h
    . exact V u h
def Xtl(z:List Value): Nat->List Value
 | 0=>[]
 | k+1=>z++Xtl z k
theorem Xfc(z:List Value)(k:Nat): (Xtl z k).length=k*z.length:=by
 induction k with
 | zero=>simp[Xtl]
 | succ k h=>simp only[Xtl,W0d,h,W3b];omega
theorem Xrj(z:List Value)(k i j:Nat)(hi:i<k)(h:j<z.length): (Xtl z k)[i*z.length+j]?=z[j]?:=by
 induction k generalizing i with
 | zero=>omega
 | succ k o =>
  simp only[Xtl]
  cases i with
  | zero=>rw[W4q,W1j,W1d h]
  | succ i =>
   rw[W3b,W0o (by omega),show i*z.length+z.length+j-z.length=i*z.length+j by omega]
   exact o i (by omega)
theorem Xqg(z:List Value)(k:Nat)(h:0<z.length)(zero:Array Value)(I:zero.toList=z): (Array.range (k*z.length)).map (λi=>zero[i%zero.size]!)=(Xtl z k).toArray:=by
 apply Array.ext'
 apply W5u
 intro q
 have A:zero.size=z.length:=by rw[<-I];simp
 by_cases hq:q<k*z.length
 . have B:=W2s q z.length
   have M:=W2b q h
   have hd:q/z.length<k:=W4l (by rw[W1f];exact hq)
   have:=Xrj z k (q/z.length) (q%z.length) hd M
   rw[show q/z.length*z.length+q%z.length=q by rw[W1f];exact B] at this
   simp only[Array.toList_map,Array.toList_range,W0w]
   rw[this,List.getElem?_range hq]
   have j:zero[q%z.length]?=z[q%z.length]?:=by rw[<-I];simp
   simp only[Option.map_some,A]
   rw[W0a M] at j |-
   have o:q%z.length<zero.size:=by omega
   rw[W6x o] at j
   rw[getElem!_pos zero _ o]
   exact j
 . rw[W2f (by simp;omega),W2f (by simp[Xfc];omega)]
theorem D.size_pos: ∀x:D,0<x.size:=λx=>by
 induction x using D.ind with
 | leaf x i j=>cases x<;>first | exact absurd rfl (i _) | exact absurd rfl (j _ _) | exact Nat.zero_lt_one
 | st a h=>exact h
 | pr a c h _=>exact W0u h (W6a _ _)
theorem D.zc_len(x:D): x.zc.length=x.size:=by
 induction x using D.ind with
 | leaf x j o=>cases x<;>first | exact absurd rfl (j _) | exact absurd rfl (o _ _) | rfl
 | st a A=>exact A
 | pr a c h i=>rw[D.zc,W0d,h,i];rfl
section
variable{P:Program}{N:Nat->Prop}{W:GW}{θ:Loc}{g:Hp}{ρ:Operand->Value}
variable{tb:Nat->Option TI}{dd:Nat}{d:Option Nat}{ty:TypeId}{pos:String}{aft:Array Edge}{gd:Option (Nat×Bool)}{args:List AV}{v:AV}{us:List (Nat×Ob)}
theorem Yon{T:TypeId}{x y:Operand}(hT:∀T ti,tb T=some ti->TyOk P T ti/\∀a c,ti.z≠.pr a c)(hO:Obs W θ N g)(hN:∀b,W.size<=b->N b)(hB:dd<1000000)(A:F tb dd g (.makeSlice T x y) args=some (v,us))(ha:Xbg W θ g ρ [x,y] args):
 Good P N W θ g ρ ⟨d,.makeSlice T x y,ty,pos,aft,gd⟩ v (Xb1 g us):=by
 simp only[F] at A
 split at A<;>try cases A
 rename_i ti k m k' c M hg
 obtain⟨hk,hp⟩:=hT _ _ M
 obtain⟨t,u1,_,Z⟩:=hk.u
 split at A<;>try cases A
 rename_i sz xs0 hz
 rw[hz] at Z
 obtain⟨E,e,h,O,ii,v0,i1,i2,i3,i4,i5⟩:=Z
 subst e
 split at A<;>cases A
 rename_i hc
 obtain⟨h0,Q,U,I⟩:=hc
 obtain⟨e1,_⟩:=Xcv ha.1.1
 obtain⟨e2,_⟩:=Xcv ha.2.1.1
 have B:ti.e.zc.length=sz:=by rw[D.zc_len,h]
 have hpos:0<sz:=by rw[h];exact D.size_pos _
 have o:=Xqg ti.e.zc c.toNat (by omega) v0.cells i5
 rw[B] at o
 refine⟨W.push (.cells (Xtl ti.e.zc c.toNat).toArray E) (λ_=>True),_,.value (.slice (some ⟨W.size,0,none⟩) m.toNat c.toNat),?_,Stp.push (c:=c.toNat) hO hN hB hg (.cells (Xtl ti.e.zc c.toNat).toArray E) (λ_=>True)
  (x:=.arr sz (List.replicate m.toNat ti.e)) ⟨W.size,Xtl ti.e.zc c.toNat,E,by simp,Xa8 ..,by simp[Xfc,B],by simpa using I,by simp;omega,λi x hi=>?_,λi=>.inr ⟨rfl,trivial⟩⟩ (λi hi=>hi.elim),
  .inr ⟨_,rfl,[.slice (some ⟨W.size,0,none⟩) m.toNat c.toNat],⟨W.size,some ⟨W.size,0,none⟩,by simp,by simp;omega,by simpa using I,by simp,λ_=>by rw[W4q]⟩,rfl⟩,λi hi=>⟨_,by subst hi;exact Xai _ _ _⟩⟩
 . have:=run_make (P:=P) W.w T E ii v0 u1 i1 i4 k k' m c h0 Q (by
    rw[i3]
    have V:((c.toNat*ti.eb:Nat):Int)<=((140737488355328:Nat):Int):=Int.ofNat_le.2 U
    rw[W1f,W2z,W2y (by omega)] at V
    omega) (by omega)
   simp only[execOp,e1,e2]
   rw[Sem.run_bind,this,i2,<-h]
   have V:madeCells v0.cells (c.toNat*sz)=(Xtl ti.e.zc c.toNat).toArray:=o
   rw[V]
   rfl
 . have Y:=W5k (a:=ti.e) (n:=m.toNat) (i:=i)
   rw[Y] at hi
   split at hi<;>cases hi
   rename_i hlt
   refine⟨ti.e.zc,D.at_zc _ O,h.symm,λj w hj=>?_⟩
   rw[<-B,Xrj _ _ _ _ (by omega) (Xbn hj)]
   exact hj
theorem Xso(sz:Nat): ∀ {ps:List (Nat×Operand)} {k:Nat} {pre rest:List Value},Xtq k ps=true->pre.length=k*sz->rest.length=ps.length*sz->(∀x∈ps,(ρ x.2).cells.toList.length=sz) ->
 Instr.fill (λi=>some (i*sz,sz)) (pre++rest).toArray (ps.map λx=>(x.1,ρ x.2))=some (pre++ps.flatMap λx=>(ρ x.2).cells.toList).toArray
 | [],k,pre,rest,_,_,j,_=>by
  have:rest=[]:=W0n (by simpa using j)
  subst this;rfl
 | (i,x)::ps,k,pre,rest,hi,hp,j,M=>by
  simp only[Xtq,W0h] at hi
  have e:=W0g hi.1
  subst e
  have o:=M (i,x) (W0v ..)
  have A:(ρ x).cells.size=sz:=by simpa using o
  have O:sz<=rest.length:=by rw[j,W0j,W3b];omega
  have h:rest=rest.take sz++rest.drop sz:=(W3w ..).symm
  have B:(rest.take sz).length=sz:=by rw[W0k];omega
  simp only[W3t,Instr.fill]
  have I:(decide ((ρ x).cells.size≠sz)||decide (i*sz+(ρ x).cells.size>(pre++rest).toArray.size))=false:=by
   simp[A,hp];omega
  rw[if_neg (by rw[I];simp),Xog]
  have:spl (pre++rest) (i*sz) (ρ x).cells.toList=(pre++(ρ x).cells.toList)++rest.drop sz:=by
   rw[h,<-hp,Xq4 _ _ _ _ (by rw[o,B]),<-h];simp
  rw[this,Xso sz hi.2 (by rw[W0d,hp,o,W3b]) (by rw[W1n,j,W0j,W3b];omega) (λy Q=>M y (W1b _ Q))]
  simp
theorem Ycu{z:D}{sz:Nat}: ∀ {xs:List D} {asx:List AV} {o:List Operand},Yew z sz asx=some xs->Xbg W θ g ρ o asx->(∀x∈o,(ρ x).cells.toList.length=sz)/\AtL W sz xs (o.flatMap λx=>(ρ x).cells.toList)/\xs.length=o.length
 | xs,[],[],h,_=>by simp only[Yew] at h;injection h with h;subst h;exact⟨λx h=>by simp at h,λi x h=>by simp at h,rfl⟩
 | xs,a::asx,x::o,h,ha=>by
  simp only[Yew] at h
  split at h<;>try cases h
  rename_i y T
  split at h<;>try cases h
  rename_i M
  split at h<;>cases h
  rename_i ys I
  simp only[W0h,W4y] at M
  obtain⟨⟨⟨hp,B⟩,A⟩,U⟩:=M
  have B:=W0g B
  have A:=W0g A
  obtain⟨V,Y,Z⟩:=Ycu I ha.2
  obtain⟨O,_⟩:=Xgk hp ha.1.1 (Xfu hp)
  have Q:=AV.c_len a O
  have one:AtL W sz [y] (ρ x).cells.toList:=λi u hi=>by
   cases i with
   | zero=>simp at hi;subst hi;exact⟨_,Xmq T O,B,λj v hj=>by simpa using hj⟩
   | succ i=>simp at hi
  refine⟨λu hu=>?_,?_,by simp[Z]⟩
  . rcases W1h.1 hu with h | h
    . subst h;rw[Q,A]
    . exact V u h
  . simpa using one.app Y (by simp[Q,A])
 | _,[],_::_,_,ha=>ha.elim
 | _,_::_,[],_,ha=>ha.elim
theorem Ypf{T n:Nat}{ps:Array (Nat×Operand)}(hT:∀T ti,tb T=some ti->TyOk P T ti/\∀a c,ti.z≠.pr a c)(hO:Obs W θ N g)(B:Fp tb (.buildSlice T n ps) args=some v)(ha:Xbg W θ g ρ (ps.toList.map (·.2)) args):
 Good P N W θ g ρ ⟨d,.buildSlice T n ps,ty,pos,aft,gd⟩ v g:=by
 simp only[Fp] at B
 split at B<;>try cases B
 rename_i ti U
 obtain⟨hk,hp⟩:=hT _ _ U
 obtain⟨t,u1,_,u3⟩:=hk.u
 split at B<;>try cases B
 rename_i sz xs0 hz
 rw[hz] at u3
 obtain⟨E,e,j,hez,ii,v0,i1,i2,i3,i4,i5⟩:=u3
 subst e
 have Y:∀xs,(Nat.ble (n*sz) 16777216&&Nat.beq ps.size n&&Xtq 0 ps.toList)=true->Yew ti.e sz args=some xs ->
  ∃cs:List Value,(execOp ρ ⟨d,.buildSlice T n ps,ty,pos,aft,gd⟩).run P W.w=.ok (.value (.slice (some ⟨W.size,0,none⟩) n n)) (W.push (.cells cs.toArray E) (λ_=>False)).w/\AtL W sz xs cs/\xs.length=n/\n*sz<=16777216:=by
  intro xs Q Z
  simp only[W0h] at Q
  obtain⟨⟨I,o⟩,hc3⟩:=Q
  have I:n*sz<=16777216:=W1t I
  have o:ps.size=n:=W0g o
  obtain⟨k1,k2,k3⟩:=Ycu Z ha
  have M:ti.e.zc.length=sz:=by rw[D.zc_len,j]
  have A:0<sz:=by rw[j];exact D.size_pos _
  have O:ps.toList.length=n:=by simpa using o
  have hf:=Xso (ρ:=ρ) sz (ps:=ps.toList) (k:=0) (pre:=[]) (rest:=Xtl ti.e.zc n) hc3 (by simp) (by rw[Xfc,M,O]) (λx hx=>k1 _ (W3l.2 ⟨x,hx,rfl⟩))
  simp only[W4i] at hf
  refine⟨_,?_,k2,by rw[k3,W0i,O],I⟩
  have hn1:¬(16777216<n*sz):=by omega
  have hfm:((ps.toList.map (·.2)).flatMap λx=>(ρ x).cells.toList)=ps.toList.flatMap λx=>(ρ x.2).cells.toList:=by rw[List.flatMap_map]
  rw[hfm]
  simp only[execOp]
  rw[Sem.run_bind]
  suffices h:(Instr.buildSlice T n (ps.map λx=>(x.1,ρ x.2))).run P W.w=.ok (.slice (some ⟨W.size,0,none⟩) n n) (W.push (.cells (ps.toList.flatMap λx=>(ρ x.2).cells.toList).toArray E) (λ_=>False)).w by
   rw[h];rfl
  by_cases h0:n*sz=0
  . have hn0:n=0:=by rcases Nat.mul_eq_zero.1 h0 with h | h;exact h;omega
    subst hn0
    have hps:ps=#[]:=Array.eq_empty_of_size_eq_zero o
    subst hps
    simp[Instr.buildSlice,run_underlying u1,sizeOf,typeInfo,i1,i2,<-j,Instr.fill,newRow,Array.range_zero']
    rfl
  . have hz2:(Array.range (n*sz)).map (λq=>v0.cells[q%v0.cells.size]!)=(Xtl ti.e.zc n).toArray:=by
     have:=Xqg ti.e.zc n (by omega) v0.cells i5
     rw[M] at this;exact this
    simp[Instr.buildSlice,run_underlying u1,sizeOf,typeInfo,zeroValue,i1,i2,i4,<-j,hn1,h0,hz2,newRow,hf]
    rfl
 have fin:∀xs,(Nat.ble (n*sz) 16777216&&Nat.beq ps.size n&&Xtq 0 ps.toList)=true->Yew ti.e sz args=some xs ->
  (∀cs:List Value,AtL W sz xs cs->xs.length=n->n*sz<=16777216->AV.V (W.push (.cells cs.toArray E) (λ_=>False)) θ v (.slice (some ⟨W.size,0,none⟩) n n))->(∀i,¬v.ids i)->Good P N W θ g ρ ⟨d,.buildSlice T n ps,ty,pos,aft,gd⟩ v g:=by
  intro xs h1 h2 hv hi
  obtain⟨cs,k1,k2,k3,k4⟩:=Y xs h1 h2
  exact⟨_,θ,_,k1,Stp.push0 hO _ _,.inr ⟨_,rfl,hv cs k2 k3 k4⟩,λi h=>absurd h (hi i)⟩
 split at B<;>cases B
 . rename_i xs h1 h2
   refine fin xs h1 h2 (λcs Q hn hL=>?_) (λ_ h=>h)
   have A:0<sz:=by rw[j];exact D.size_pos _
   have hnl:n<=n*sz:=W4k n A
   subst hn
   refine⟨_,⟨_,rfl,by omega,.inr ⟨W.size,rfl,(Q.mono (Xee _ _ _)).row λq u hq hu=>⟨?_,?_⟩⟩⟩,rfl⟩
   . rw[W1j,<-hu];exact Xbf (Xa8 ..) q
   . rintro(h | ⟨_,h⟩)
     . exact absurd (W.hA _ _ h) (W7q _)
     . exact h
end
end
section
def GW.tick(W:GW): GW where
 w:=W.w.drew
 A:=W.A
 hA:=W.hA
section
variable{P:Program}{N:Nat->Prop}{W:GW}{θ:Loc}{g:Hp}{ρ:Operand->Value}
variable{tb:Nat->Option TI}{dd:Nat}{d:Option Nat}{ty:TypeId}{pos:String}{aft:Array Edge}{gd:Option (Nat×Bool)}{args:List AV}{v:AV}{us:List (Nat×Ob)}
theorem Xd8(W:GW): LeF W W.tick:=λ_ _ _ h=>h
theorem Stp.tick(h:Obs W θ N g): Stp N W W.tick θ θ g g where
 os:=_root_.rfl
 out:=_root_.rfl
 tape:=_root_.rfl
 size:=W0c _
 same:=λ_ _ _=>_root_.rfl
 A:=λ_ _ _ _=>W4f
 le:=Xd8 W
 th:=λ_ _ _=>_root_.rfl
 hi:=λ_ _=>_root_.rfl
 obs:={ r:=λo x i=>(h.r o x i).keep (Xd8 W) _root_.rfl (λ_ _=>_root_.rfl) (λ_ _ _=>⟨_root_.rfl,λ_ h=>h⟩),new:=h.new,dis:=h.dis,ids:=h.ids }
 dom:=λ_ y h=>⟨y,h⟩
theorem Stp.trans{W W1 W2:GW}{θ j o:Loc}{g O Q:Hp}(h:Stp N W W1 θ j g O)(k:Stp N W1 W2 j o O Q): Stp N W W2 θ o g Q where
 os:=k.os.trans h.os
 out:=k.out.trans h.out
 tape:=k.tape.trans h.tape
 size:=W0l h.size k.size
 same:=λb hb B=>(k.same b (W0u hb h.size) B).trans (h.same b hb B)
 A:=λb hb B i=>(k.A b (W0u hb h.size) B i).trans (h.A b hb B i)
 le:=h.le.trans k.le
 th:=λi y I=>let ⟨z,M⟩:=h.dom i y I;(k.th i z M).trans (h.th i y I)
 hi:=λi hi=>(k.hi i hi).trans (h.hi i hi)
 obs:=k.obs
 dom:=λi y I=>let ⟨z,M⟩:=h.dom i y I;k.dom i z M
theorem Xfj{T E:TypeId}{ti:TI}{B:TypeInfo}{v0:Value}(u1:P.underlying T=some (.slice E))(i1:P.info? E=some B)(i2:B.size=ti.e.size)(i3:B.bytes=ti.eb)(i4:B.zero=some v0)(i5:v0.cells.toList=ti.e.zc)
 {p:Option Addr} {m c k c2:Nat} {q:Option Addr} {olds news:List Value} (hm:m<=c) (hp:c=0\/∃b,p=some ⟨b,0,none⟩) (ho:olds.length=m*ti.e.size)
 (hor:∀b,p=some ⟨b,0,none⟩->∀j u,olds[j]?=some u->W.w.cell? ⟨b,j,none⟩=some u) (hn:news.length=k*ti.e.size) (hnr:k=0\/∃b off,q=some ⟨b,off,none⟩/\∀j u,news[j]?=some u->W.w.cell? ⟨b,off+j,none⟩=some u)
 (U:∀u∈news,Xgz u=true) (hr:Xh8 (m+k) ti) (hk2:k<=c2) :
 (k=0/\(Builtin.append_ #[T,T] ty #[.slice p m c,.slice q k c2]).run P W.w=.ok (.slice p m c) W.w) \/
 (0<k/\m+k<=c/\∀b cs T',p=some ⟨b,0,none⟩->W.w.heap[b]?=some (.cells (cs:List Value).toArray T' (0,0))->cs.length=c*ti.e.size ->
  (Builtin.append_ #[T,T] ty #[.slice p m c,.slice q k c2]).run P W.w=.ok (.slice p (m+k) c) (Xjh W.w b (.cells (spl cs (m*ti.e.size) news).toArray T' (0,0)))) \/
 (0<k/\∃c' zs,m+k<=c'/\c'<9223372036854775808/\(olds++news++zs).length=c'*ti.e.size /\
  (Builtin.append_ #[T,T] ty #[.slice p m c,.slice q k c2]).run P W.w=.ok (.slice (some ⟨W.size,0,none⟩) (m+k) c') (W.tick.w.alloc (.cells (olds++news++zs).toArray E))):=by
 rcases W2o k with V | V
 . subst V
   left
   refine⟨rfl,?_⟩
   have hn0:news=[]:=W0n (by simpa using hn)
   cases p<;>cases q<;>simp[Builtin.append_,run_underlying u1,sizeOf,typeInfo,i1,Builtin.lenOf,Builtin.firstCells,loadCells,loadCellsFrom,storeCells,hm]
 . right
   rcases hnr with h | ⟨b2,o,hq,hnc⟩
   . omega
   subst hq
   have A:news.length=k*B.size:=by rw[hn,i2]
   have I:∀j u,news[j]?=some u->W.w.cell? ((⟨b2,o,none⟩:Addr).add j)=some u:=λj u Y=>by rw[add0];exact hnc j u Y
   by_cases i:m+k<=c
   . left
     refine⟨V,i,λb cs T' hpb hb hl=>?_⟩
     subst hpb
     have M:m*B.size+news.length<=cs.length:=by
      rw[A,hl,i2,<-W1i];exact W0x _ i
     have hf:=run_firstCells_some (P:=P) W.w B.size k ⟨b2,o,none⟩ k c2 news A I
     have Z:=Xe4 (P:=P) (off:=0+m*B.size) news W.w 0 cs hb (by omega) U
     simp only[W2r,W1j] at Z
     rw[<-i2]
     simp[Builtin.append_,run_underlying u1,sizeOf,typeInfo,i1,Builtin.lenOf,i,hf,add0,Z]
   . right
     refine⟨V,grownCap W.w (m+k) c E,(Builtin.zeroCells v0.cells (grownCap W.w (m+k) c E-(m+k))).toList,grownCap_ge ..,?_,?_,?_⟩
     . have hlt:=hr.2
       have:=W2b (W.w.tape W.w.drawn (.appendCap (m+k) c E)) (show 0<2^63-(m+k) by omega)
       simp only[grownCap,Question.cut] at *
       omega
     . have hge:=grownCap_ge W.w (m+k) c E
       have hzs:v0.cells.size=ti.e.size:=by rw[<-D.zc_len,<-i5];simp
       rw[W0d,W0d,ho,hn,Array.length_toList,size_zeroCells,hzs,<-W1i,<-W1i]
       congr 1
       omega
     . have M:=growslice_fits (old:=c) (need:=m+k) (bytes:=B.bytes) (by omega) (by rw[i3];exact hr.1)
       have h63:((m+k:Nat):Int)<=9223372036854775807:=by have:=hr.2;omega
       have fin:∀ {a b:Array Value},a=b->(Result.ok (Value.slice (some ⟨W.size,0,none⟩) (m+k) (grownCap W.w (m+k) c E)) (W.w.drew.alloc (.cells a E)):Result Value)=.ok (.slice (some ⟨W.size,0,none⟩) (m+k) (grownCap W.w (m+k) c E)) (W.tick.w.alloc (.cells b E)):=by
        rintro a b rfl;rfl
       cases p with
       | none =>
        have hc0:c=0:=by rcases hp with h | ⟨b,h⟩;exact h;cases h
        subst hc0
        have O:m=0:=by omega
        subst O
        have Q:olds=[]:=W0n (by simpa using ho)
        subst Q
        simp only[W1j] at *
        rw[run_append_nil (P:=P) W.w T ty E B v0 u1 i1 i4 ⟨b2,o,none⟩ k c2 news A I V h63 (by rw[i3];have:=hr.1;omega)]
        exact fin (by simp)
       | some a =>
        have hold:∀j u,olds[j]?=some u->W.w.cell? (a.add j)=some u:=λj u Y=>by
         rcases hp with h | ⟨b,h⟩
         . have O:m=0:=by omega
           subst O
           have Q:olds=[]:=W0n (by simpa using ho)
           rw[Q] at Y;simp at Y
         . injection h with h;subst h;rw[add0,W1j];exact hor b rfl j u Y
        rw[run_append_grow (P:=P) W.w T ty E B v0 u1 i1 i4 a m c olds (by rw[ho,i2]) hold ⟨b2,o,none⟩ k c2 news A I (by omega) h63 M]
        exact fin (by simp)
theorem Yi0{z:D}{c:AV}{s:Nat}{ys:List D}{u:Value}(h:toD z c=some (.sl s ys))(j:AV.V W θ c u): AV.V W θ (.d (.sl s ys)) u:=by
 have i:c.ag=false->(∀a,c≠.tup a)->c≠.un->AV.V W θ (.d (.sl s ys)) u:=λA B I=>by
  obtain⟨cs,M,e⟩:=V_c j B I
  exact⟨cs,Xmq h M,by rw[e,A];rfl⟩
 cases c with
 | d x=>simp[toD] at h;subst h;exact j
 | nil=>exact i rfl (λ_=>nofun) nofun
 | lit s' xs=>exact i rfl (λ_=>nofun) nofun
 | gr o s' xs=>exact i rfl (λ_=>nofun) nofun
 | st a => cases z<;>simp only[toD] at h<;>try cases h
           split at h<;>cases h
 | pr a c => cases z<;>simp only[toD] at h<;>try cases h
             split at h<;>cases h
 | _=>simp[toD] at h
theorem Ycx{z:D}{sz:Nat}{c:AV}{ys:List D}{u:Value}(hO:Obs W θ N g)(h:Xqw g z sz c=some ys)(hv:AV.V W θ c u):
 ∃q c2 news,u=.slice q ys.length c2/\ys.length<=c2/\(news:List Value).length=ys.length*sz/\(ys.length=0\/∃b off,q=some ⟨b,off,none⟩/\∀j u,news[j]?=some u->W.w.cell? ⟨b,off+j,none⟩=some u)/\(∀u∈news,Xgz u=true)/\AtL W sz ys news:=by
 unfold Xqw at h
 split at h
 . rename_i o s l n
   split at h<;>try cases h
   rename_i s' xs hg
   split at h<;>cases h
   rename_i hc
   obtain⟨rfl,rfl,hln⟩:=hc
   obtain⟨b,p,h1,h2,h3,e,h5⟩:=Xmg hv
   obtain⟨b',cs,T',r1,r2,r3,r4,r5,r6,r7⟩:=hO.r _ _ hg
   rw[h1] at r1;injection r1 with r1;subst r1
   have B:((xs.drop l).take n).length=n:=by simp;omega
   rw[B]
   have Z:(l+n)*s<=cs.length:=by rw[r3];exact W0x _ h2
   rw[W1i] at Z
   have M:AtL W s ((xs.drop l).take n) ((cs.drop (l*s)).take (n*s)):=λi x hi=>by
    have Q:=Xbn hi
    rw[B] at Q
    rw[W1l,if_pos Q,W2h] at hi
    obtain⟨e,O,T,Y⟩:=r6 _ _ hi
    refine⟨e,O,T,λj v A=>?_⟩
    have I:=Xbn A
    rw[D.at_len x O,T] at I
    have:i*s+s<=n*s:=by rw[<-W3b];exact W0x _ (by omega)
    rw[W1l,if_pos (by omega),W2h,show l*s+(i*s+j)=(l+i)*s+j by rw[W1i];omega]
    exact Y j v A
   refine⟨_,_,(cs.drop (l*s)).take (n*s),e,by omega,by rw[W0k,W1n];omega,?_,λu hu=>?_,M⟩
   . rcases W2o n with hn | hn
     . exact .inl hn
     . refine .inr ⟨b,l*s,h5 (by omega),λj u A=>?_⟩
       rw[W1l] at A
       split at A
       . rw[W2h] at A
         rw[Xbf r2];exact A
       . cases A
   . obtain⟨j,A⟩:=W4t hu
     have I:=Xbn A
     rw[W0k,W1n] at I
     have hs0:0<s:=by
      rcases W2o s with h | h
      . subst h;simp at I
      . exact h
     have hjn:j<n*s:=by omega
     have hdm:=W2s j s
     have hm:=W2b j hs0
     have hd:j/s<n:=W4l (by rw[W1f];exact hjn)
     obtain⟨x,hx⟩:∃x,((xs.drop l).take n)[j/s]?=some x:=⟨_,W0a (by rw[B];exact hd)⟩
     obtain⟨e,O,T,Y⟩:=M _ _ hx
     have U:j%s<e.length:=by rw[D.at_len x O,T];exact hm
     have:=Y _ _ (W0a U)
     rw[show j/s*s+j%s=j by rw[W1f];exact hdm,A] at this
     injection this with this
     rw[this];exact D.at_one x O _ (W6r U)
 . rename_i o s l n
   split at h<;>try cases h
   rename_i s' xs hg
   split at h<;>cases h
   rename_i hc
   obtain⟨rfl,rfl,hln⟩:=hc
   obtain⟨b,p,h1,h2,h3,e,h5⟩:=Xp6 hv
   obtain⟨b',cs,T',r1,r2,r3,r4,r5,r6,r7⟩:=hO.r _ _ hg
   rw[h1] at r1;injection r1 with r1;subst r1
   have B:((xs.drop l).take n).length=n:=by simp;omega
   rw[B]
   have Z:(l+n)*s<=cs.length:=by rw[r3];exact W0x _ h2
   rw[W1i] at Z
   have M:AtL W s ((xs.drop l).take n) ((cs.drop (l*s)).take (n*s)):=λi x hi=>by
    have Q:=Xbn hi
    rw[B] at Q
    rw[W1l,if_pos Q,W2h] at hi
    obtain⟨e,O,T,Y⟩:=r6 _ _ hi
    refine⟨e,O,T,λj v A=>?_⟩
    have I:=Xbn A
    rw[D.at_len x O,T] at I
    have:i*s+s<=n*s:=by rw[<-W3b];exact W0x _ (by omega)
    rw[W1l,if_pos (by omega),W2h,show l*s+(i*s+j)=(l+i)*s+j by rw[W1i];omega]
    exact Y j v A
   refine⟨_,_,(cs.drop (l*s)).take (n*s),e,by omega,by rw[W0k,W1n];omega,?_,λu hu=>?_,M⟩
   . rcases W2o n with hn | hn
     . exact .inl hn
     . refine .inr ⟨b,l*s,h5 (by omega),λj u A=>?_⟩
       rw[W1l] at A
       split at A
       . rw[W2h] at A
         rw[Xbf r2];exact A
       . cases A
   . obtain⟨j,A⟩:=W4t hu
     have I:=Xbn A
     rw[W0k,W1n] at I
     have hs0:0<s:=by
      rcases W2o s with h | h
      . subst h;simp at I
      . exact h
     have hjn:j<n*s:=by omega
     have hdm:=W2s j s
     have hm:=W2b j hs0
     have hd:j/s<n:=W4l (by rw[W1f];exact hjn)
     obtain⟨x,hx⟩:∃x,((xs.drop l).take n)[j/s]?=some x:=⟨_,W0a (by rw[B];exact hd)⟩
     obtain⟨e,O,T,Y⟩:=M _ _ hx
     have U:j%s<e.length:=by rw[D.at_len x O,T];exact hm
     have:=Y _ _ (W0a U)
     rw[show j/s*s+j%s=j by rw[W1f];exact hdm,A] at this
     injection this with this
     rw[this];exact D.at_one x O _ (W6r U)
 . split at h<;>try cases h
   rename_i s ys' hd
   split at h<;>cases h
   rename_i hs
   subst hs
   obtain⟨p,c2,e,h1,h2,h3⟩:=V_sl (Yi0 hd hv)
   rcases h3 with h3 | ⟨b,off,hp,hr⟩
   . subst h3
     exact⟨p,c2,[],e,h1,by simp,.inl rfl,λu h=>by simp at h,λi x h=>by simp at h⟩
   . obtain⟨cs,O,T,Y,k4⟩:=Xhd hr
     exact⟨p,c2,cs,e,h1,O,.inr ⟨b,off,hp,λj u A=>(T j u A).1⟩,Y,k4⟩
end
end
section
section
variable{P:Program}{N:Nat->Prop}{W:GW}{θ:Loc}{g:Hp}{ρ:Operand->Value}
variable{tb:Nat->Option TI}{dd:Nat}{d:Option Nat}{ty:TypeId}{pos:String}{aft:Array Edge}{gd:Option (Nat×Bool)}{args:List AV}{v:AV}{us:List (Nat×Ob)}
theorem Stp.new0(h:Obs W θ N g){d:Nat}(hB:d<1000000)(hd:g d=none){x:Ob}(Y:x.R W (λi=>if i=d then (none,0) else θ i) d)(hi:∀i,¬x.ids i): Stp N W W θ (λi=>if i=d then (none,0) else θ i) g (upd g d x) where
 os:=_root_.rfl
 out:=_root_.rfl
 tape:=_root_.rfl
 size:=W0c _
 same:=λ_ _ _=>_root_.rfl
 A:=λ_ _ _ _=>W4f
 le:=LeF.refl W
 th:=λi y B=>if_neg λe=>by rw[e,hd] at B;cases B
 hi:=λi h=>if_neg (by omega)
 obs:={
  r:=λI y B=>by
   rcases Xae B with ⟨o,j⟩ | ⟨o,j⟩
   . subst o;subst j;exact Y
   . exact(h.r I y j).keep (LeF.refl W) (if_neg o) (λi hi=>if_neg λe=>by obtain⟨z,M⟩:=h.ids I y i j hi;rw[e,hd] at M;cases M) λ_ _ _=>⟨_root_.rfl,λ_ h=>h⟩
  new:=λI y b B Z hb=>by
   rcases Xae B with ⟨o,j⟩ | ⟨o,j⟩
   . subst o;rw[if_pos _root_.rfl] at hb;cases hb
   . rw[if_neg o] at hb;exact h.new I y b j Z hb
  dis:=λo1 o2 y1 y2 b h1 h2 l1 l2 Q T=>by
   rcases Xae h1 with ⟨o,U⟩ | ⟨o,U⟩
   . rw[if_pos o] at Q;cases Q
   . rcases Xae h2 with ⟨j,V⟩ | ⟨j,V⟩
     . rw[if_pos j] at T;cases T
     . rw[if_neg o] at Q;rw[if_neg j] at T;exact h.dis o1 o2 y1 y2 b U V l1 l2 Q T
  ids:=λI y i B O=>by
   rcases Xae B with ⟨o,j⟩ | ⟨o,j⟩
   . subst j;exact absurd O (hi i)
   . obtain⟨z,M⟩:=h.ids I y i j O
     exact⟨z,by rw[Xam (λe=>by rw[e,hd] at M;cases M)];exact M⟩ }
 dom:=λi y B=>⟨y,by rw[Xam (λe=>by rw[e,hd] at B;cases B)];exact B⟩
theorem Stp.kill(h:Obs W θ N g){o:Nat}{y:Ob}(ho:g o=some y): Stp N W W θ θ g (upd g o .dead) where
 os:=_root_.rfl
 out:=_root_.rfl
 tape:=_root_.rfl
 size:=W0c _
 same:=λ_ _ _=>_root_.rfl
 A:=λ_ _ _ _=>W4f
 le:=LeF.refl W
 th:=λ_ _ _=>_root_.rfl
 hi:=λ_ _=>_root_.rfl
 obs:={
  r:=λM z B=>by
   rcases Xae B with ⟨I,j⟩ | ⟨I,j⟩
   . subst j;trivial
   . exact h.r M z j
  new:=λM z b B U hb=>by
   rcases Xae B with ⟨I,j⟩ | ⟨I,j⟩
   . subst j;cases U
   . exact h.new M z b j U hb
  dis:=λY Z y1 y2 b h1 h2 l1 V b1 b2=>by
   rcases Xae h1 with ⟨I,Q⟩ | ⟨I,Q⟩
   . subst Q;cases l1
   . rcases Xae h2 with ⟨j,T⟩ | ⟨j,T⟩
     . subst T;cases V
     . exact h.dis Y Z y1 y2 b Q T l1 V b1 b2
  ids:=λM z i B O=>by
   have:∃w,g i=some w:=by
    rcases Xae B with ⟨I,j⟩ | ⟨I,j⟩
    . subst j;exact O.elim
    . exact h.ids M z i j O
   obtain⟨w,hw⟩:=this
   by_cases e:i=o
   . subst e;exact⟨_,Xai _ _ _⟩
   . exact⟨w,by rw[Xam e];exact hw⟩ }
 dom:=λi z B=>by
  by_cases e:i=o
  . subst e;exact⟨_,Xai _ _ _⟩
  . exact⟨z,by rw[Xam e];exact B⟩
theorem Ygq{o sz c n:Nat}{xs:List D}{p:Option Addr}(h:n=xs.length)(i:(θ o).2=c)(j:(θ o).2=0\/p=ad (θ o).1)(A:xs.length<=(θ o).2)(B:(θ o).2<9223372036854775808)(I:xs=[]\/∃b,(θ o).1=some b/\D.Row W b sz 0 xs):
 AV.V W θ (.gr o sz xs) (.slice p n c):=by subst h;subst i;exact⟨_,⟨p,rfl,j,A,B,I⟩,rfl⟩
theorem Xsh(B:Obs W θ N g)(I:∀b,W.size<=b->N b)(M:dd<1000000)(hd:g dd=none){sz c:Nat}{E:TypeId}{xs:List D}{cs zs:List Value}(ha:AtL W sz xs cs)(Q:cs.length=xs.length*sz)(o:xs.length<=c)(A:c<9223372036854775808)(O:(cs++zs).length=c*sz):
 ∃W' θ',W'.w=W.w.alloc (.cells (cs++zs).toArray E)/\Stp N W W' θ θ' g (upd g dd (.tok xs.length sz))/\AV.V W' θ' (.gr dd sz xs) (.slice (some ⟨W.size,0,none⟩) xs.length c):=by
 have hp:∀q u,(cs++zs)[q]?=some u->(W.push (.cells (cs++zs).toArray E) (λi=>xs.length*sz<=i)).w.cell? ⟨W.size,q,none⟩=some u:=λq u j=>by
  rw[<-j];exact Xbf (Xa8 ..) q
 refine⟨W.push (.cells (cs++zs).toArray E) (λi=>xs.length*sz<=i),_,rfl,Stp.push (c:=c) B I M hd _ _ (x:=.tok xs.length sz) ⟨by simpa using o,by simpa using A,.inr ⟨W.size,cs++zs,E,by simp,Xa8 ..,by simpa using O,λi hi=>.inr ⟨rfl,hi⟩⟩⟩ (λi hi=>hi.elim),
  Ygq rfl (by simp) (.inr (by simp[ad])) (by simpa using o) (by simpa using A) (.inr ⟨W.size,by simp,?_⟩)⟩
 refine(ha.mono (Xee _ _ _)).row λq u hq j=>?_
 rw[W1j]
 refine⟨hp q u (by rw[W1d (by omega)];exact j),?_⟩
 rintro(h | ⟨_,h⟩)
 . exact absurd (W.hA _ _ h) (W7q _)
 . exact absurd h (by omega)
theorem Yfw{o sz c n b:Nat}{xs:List D}(h:(θ o).1=some b)(i:(θ o).2=c)(A:n<=(θ o).2)(j:(θ o).2<9223372036854775808): AV.V W θ (.own o sz 0 n) (.slice (some ⟨b,0,none⟩) n c):=by
 subst i;exact⟨_,⟨b,_,h,by omega,j,rfl,λ_=>by rw[W4q]⟩,rfl⟩
theorem Xig(A:Obs W θ N g)(B:∀b,W.size<=b->N b)(I:dd<1000000)(hd:g dd=none){sz c:Nat}{E:TypeId}{xs:List D}{cs zs:List Value}(ha:AtL W sz xs cs)(Q:cs.length=xs.length*sz)(h:xs.length<=c)(j:c<9223372036854775808)(M:(cs++zs).length=c*sz):
 ∃W' θ',W'.w=W.w.alloc (.cells (cs++zs).toArray E)/\Stp N W W' θ θ' g (upd g dd (.arr sz xs))/\AV.V W' θ' (.own dd sz 0 xs.length) (.slice (some ⟨W.size,0,none⟩) xs.length c):=by
 refine⟨W.push (.cells (cs++zs).toArray E) (λi=>True),_,rfl,Stp.push (c:=c) A B I hd _ _ (x:=.arr sz xs) ⟨W.size,cs++zs,E,by simp,Xa8 ..,by simpa using M,by simpa using j,by simpa using h,?_,λi=>.inr ⟨rfl,trivial⟩⟩ (λi hi=>hi.elim),
  Yfw (o:=dd) (xs:=xs) (by simp) (by simp) (by simpa using h) (by simpa using j)⟩
 exact(ha.mono (Xee _ _ _)).ext λq v hq O=>by rw[W1d (by omega)];exact O
theorem Xc3{T:TypeId}{x y:Operand}{r:Value}{w':World}(h:(Builtin.append_ #[T,T] ty #[ρ x,ρ y]).run P W.w=.ok r w'):
 (execOp ρ ⟨d,.call ⟨.builtin .append,#[x,y],#[T,T]⟩,ty,pos,aft,gd⟩).run P W.w=.ok (.value r) w':=by
 have i:(execOp ρ ⟨d,.call ⟨.builtin .append,#[x,y],#[T,T]⟩,ty,pos,aft,gd⟩)=(Builtin.append_ #[T,T] ty #[ρ x,ρ y] >>= λv=>pure (.value v)):=by
  simp[execOp,resolve,invoke,builtin]
 rw[i,Sem.run_bind,h];rfl
theorem Xsd{W:GW}{p:Option Addr}{sz:Nat}{xs:List D}(h:xs=[]\/∃b,p=some ⟨b,0,none⟩/\D.Row W b sz 0 xs): ∃olds:List Value,olds.length=xs.length*sz/\(xs.length=0\/∃b,p=some ⟨b,0,none⟩)/\(∀b,p=some ⟨b,0,none⟩->∀j u,olds[j]?=some u->Fr W b (0+j) u)/\AtL W sz xs olds:=by
 rcases h with rfl | ⟨b,rfl,h⟩
 . exact⟨[],by simp,.inl rfl,λ_ _ j u h=>by simp at h,λi x h=>by simp at h⟩
 . obtain⟨olds,A,B,_,I⟩:=Xhd h
   exact⟨olds,A,.inr ⟨b,rfl⟩,λO o j u M=>by injection o with o;injection o with o;subst o;exact B j u M,I⟩
theorem Ymn{T T':TypeId}{x y:Operand}(hT:∀T ti,tb T=some ti->TyOk P T ti/\∀a c,ti.z≠.pr a c)(hO:Obs W θ N g)(hN:∀b,W.size<=b->N b)(hB:dd<1000000)(hF:F tb dd g (.call ⟨.builtin .append,#[x,y],#[T,T']⟩) args=some (v,us))(ha:Xbg W θ g ρ [x,y] args):
 Good P N W θ g ρ ⟨d,.call ⟨.builtin .append,#[x,y],#[T,T']⟩,ty,pos,aft,gd⟩ v (Xb1 g us):=by
 simp only[F] at hF
 split at hF<;>try cases hF
 rename_i a c
 split at hF<;>try cases hF
 rename_i hTT
 subst hTT
 split at hF<;>try cases hF
 rename_i ti hti hd
 obtain⟨hk,hp⟩:=hT _ _ hti
 obtain⟨t,u1,_,u3⟩:=hk.u
 split at hF<;>try cases hF
 rename_i sz xs0 hz
 rw[hz] at u3
 obtain⟨E,e,O,hez,ii,v0,i1,i2,i3,i4,i5⟩:=u3
 subst e
 split at hF<;>try cases hF
 rename_i U hys
 obtain⟨q,c2,news,ey,hk2,hnl,hnr,hn1,hna⟩:=Ycx hO hys ha.2.1.1
 rw[O] at hnl
 have hgd:∀ {o:Nat} {y:Ob},g o=some y->o≠dd:=λh e=>by rw[e,hd] at h;cases h
 unfold Xzg at hF
 split at hF<;>try cases hF
 . split at hF<;>cases hF
   rename_i hr
   obtain⟨p,ex⟩:=Xjo ha.1.1
   have I:=Xfj (P:=P) (W:=W) (ty:=ty) (ti:=ti) u1 i1 i2 i3 i4 i5 (p:=p) (m:=0) (c:=0) (k:=U.length) (c2:=c2) (q:=q) (olds:=[]) (news:=news) (W0c _) (.inl rfl) (by simp) (λb _ j u hj=>by simp at hj) hnl hnr hn1 (by simpa using hr) hk2
   rcases I with ⟨h0,I⟩ | ⟨h0,h1,_⟩ | ⟨h0,c',zs,h1,h2,h3,I⟩
   . have hy0:U=[]:=W0n h0
     subst hy0
     refine⟨W,_,_,Xc3 (by rw[ex,ey];exact I),Stp.new0 (d:=dd) hO hB hd (x:=.tok 0 sz) ⟨by simp,by simp,.inl (by simp)⟩ (λi h=>h),.inr ⟨_,rfl,Ygq (o:=dd) (c:=0) (θ:=λi=>if i=dd then (none,0) else θ i) rfl (by simp) (.inl (by simp)) (by simp) (by simp) (.inl rfl)⟩,λi hi=>⟨_,by subst hi;exact Xai _ _ _⟩⟩
   . omega
   . simp only[W1j,W4i] at I h1 h3
     obtain⟨W',θ',e1,e2,e3⟩:=Xsh (W:=W.tick) (θ:=θ) (g:=g) (dd:=dd) (E:=E) (zs:=zs) (Stp.tick hO).obs hN hB hd (hna.mono (Xd8 W)) (by rw[hnl,O]) h1 h2 (by rw[O];exact h3)
     exact⟨W',θ',_,by rw[e1];exact Xc3 (by rw[ex,ey];exact I),(Stp.tick hO).trans e2,.inr ⟨_,rfl,e3⟩,λi hi=>⟨_,by subst hi;exact Xai _ _ _⟩⟩
 . rename_i s xs
   split at hF
   . cases hF
     rename_i hc
     obtain⟨hr,hy0,hs1⟩:=hc
     subst hs1
     obtain⟨b,ex,hxc,hrow⟩:=Xy0 ha.1.1
     obtain⟨olds,k1,k0,k2,k4⟩:=Xsd hrow
     have Z:olds.length=xs.length*ti.e.size:=by rw[k1,O]
     have M:(xs++U).length=xs.length+U.length:=W0d
     have I:=Xfj (P:=P) (W:=W) (ty:=ty) (ti:=ti) u1 i1 i2 i3 i4 i5 (p:=b) (m:=xs.length) (c:=xs.length) (k:=U.length) (c2:=c2) (q:=q) (olds:=olds) (news:=news) (W0c _) k0 Z (λb' Q j u hj=>by
      have h2:=(k2 b' Q j u hj).1
      rwa[W1j] at h2) hnl hnr hn1 hr hk2
     rcases I with ⟨h0,_⟩ | ⟨h0,h1,_⟩ | ⟨h0,c',zs,h1,h2,h3,I⟩
     . omega
     . omega
     . obtain⟨W',θ',e1,e2,e3⟩:=Xig (W:=W.tick) (θ:=θ) (g:=g) (dd:=dd) (E:=E) (sz:=s) (xs:=xs++U) (cs:=olds++news) (c:=c') (zs:=zs) (Stp.tick hO).obs hN hB hd ((k4.app hna (by rw[Z,O])).mono (Xd8 W)) (by rw[W0d,Z,hnl,M,W1i,O]) (by rw[M];exact h1) h2 (by rw[O];exact h3)
       rw[M] at e3
       exact⟨W',θ',_,by rw[e1];exact Xc3 (by rw[ex,ey];exact I),(Stp.tick hO).trans e2,.inr ⟨_,rfl,e3⟩,λi hi=>⟨_,by subst hi;exact Xai _ _ _⟩⟩
   . split at hF<;>cases hF
     rename_i hc
     obtain⟨hr,hy0,hs1⟩:=hc
     subst hs1
     obtain⟨b,ex,hxc,hrow⟩:=Xy0 ha.1.1
     obtain⟨olds,k1,k0,k2,k4⟩:=Xsd hrow
     have Z:olds.length=xs.length*ti.e.size:=by rw[k1,O]
     have M:(xs++U).length=xs.length+U.length:=W0d
     have I:=Xfj (P:=P) (W:=W) (ty:=ty) (ti:=ti) u1 i1 i2 i3 i4 i5 (p:=b) (m:=xs.length) (c:=xs.length) (k:=U.length) (c2:=c2) (q:=q) (olds:=olds) (news:=news) (W0c _) k0 Z (λb' Q j u hj=>by
      have h2:=(k2 b' Q j u hj).1
      rwa[W1j] at h2) hnl hnr hn1 hr hk2
     rcases I with ⟨h0,I⟩ | ⟨h0,h1,_⟩ | ⟨h0,c',zs,h1,h2,h3,I⟩
     . exact⟨W,θ,_,Xc3 (by rw[ex,ey];exact I),Stp.rfl hO,.inr ⟨_,rfl,ex ▸ ha.1.1⟩,λi hi=>hi.elim⟩
     . omega
     . omega
 . rename_i o s xs
   split at hF<;>try cases hF
   rename_i n s' hg
   split at hF<;>cases hF
   rename_i hc
   obtain⟨hr,rfl,hs1,hs2⟩:=hc
   subst hs2;subst hs1
   obtain⟨p,ex,hpc,hxc,hc63,hrow⟩:=Ypo ha.1.1
   obtain⟨_,_,htok⟩:=hO.r _ _ hg
   have hod:=hgd hg
   have hx:∃olds:List Value,olds.length=xs.length*ti.e.size/\(∀b,p=some ⟨b,0,none⟩->∀j u,olds[j]?=some u->W.w.cell? ⟨b,j,none⟩=some u)/\AtL W s xs olds:=by
    rcases hrow with h | ⟨b,hb,hr⟩
    . subst h;exact⟨[],by simp,λb _ j u hj=>by simp at hj,λi x h=>by simp at h⟩
    . obtain⟨cs,k1,k2,_,k4⟩:=Xhd hr
      refine⟨cs,by rw[k1,O],λb' Q j u hj=>?_,k4⟩
      have h2:=(k2 j u hj).1
      rw[W1j] at h2
      rcases hpc with h | h
      . have:xs.length=0:=by omega
        rw[this] at k1
        have:=Xbn hj
        omega
      . rw[h,hb] at Q;injection Q with Q;injection Q with Q;rw[<-Q];exact h2
   obtain⟨olds,Z,hor,hoa⟩:=hx
   have hpc':(θ o).2=0\/∃b,p=some ⟨b,0,none⟩:=by
    rcases htok with ⟨h1,h2⟩ | ⟨b,cs,T',h1,_⟩
    . exact .inl h2
    . rcases hpc with h | h
      . exact .inl h
      . exact .inr ⟨b,by rw[h,h1];rfl⟩
   have I:=Xfj (P:=P) (W:=W) (ty:=ty) (ti:=ti) u1 i1 i2 i3 i4 i5 (p:=p) (m:=xs.length) (c:=(θ o).2) (k:=U.length) (c2:=c2) (q:=q) (olds:=olds) (news:=news) hxc hpc' Z hor hnl hnr hn1 hr hk2
   have Y:=Stp.kill hO hg
   have hdk:upd g o .dead dd=none:=by rw[Xam (λh=>hod h.symm)];exact hd
   have M:(xs++U).length=xs.length+U.length:=W0d
   have fin:∀ {W':GW} {θ':Loc} {r:Value},(Builtin.append_ #[T,T] ty #[ρ x,ρ y]).run P W.w=.ok r W'.w->Stp N W W' θ θ' g (upd (upd g o .dead) dd (.tok (xs.length+U.length) s))->AV.V W' θ' (.gr dd s (xs++U)) r ->
    Good P N W θ g ρ ⟨d,.call ⟨.builtin .append,#[x,y],#[T,T]⟩,ty,pos,aft,gd⟩ (.gr dd s (xs++U)) (Xb1 g [(dd,.tok (xs.length+U.length) s),(o,.dead)]):=λh1 h2 h3 =>
    ⟨_,_,_,Xc3 h1,h2,.inr ⟨_,rfl,h3⟩,λi hi=>⟨_,by subst hi;exact Xai _ _ _⟩⟩
   have hgp:∀i z,upd (upd g o .dead) dd (.tok (xs.length+U.length) s) i=some z->(i=dd/\z=.tok (xs.length+U.length) s)\/z=.dead\/(g i=some z/\i≠o):=λi z hz=>by
    rcases Xae hz with h | ⟨h1,h2⟩
    . exact .inl h
    . rcases Xae h2 with ⟨_,h⟩ | ⟨h3,h4⟩
      . exact .inr (.inl h)
      . exact .inr (.inr ⟨h4,h3⟩)
   have hdm:∀i z,g i=some z->∃z',upd (upd g o .dead) dd (.tok (xs.length+U.length) s) i=some z':=λi z hz=>by
    have:i≠dd:=λh=>by rw[h,hd] at hz;cases hz
    rw[Xam this]
    by_cases e:i=o
    . subst e;exact⟨_,Xai _ _ _⟩
    . exact⟨z,by rw[Xam e];exact hz⟩
   have hth:∀i z,g i=some z->(λi=>if i=dd then θ o else θ i) i=θ i:=λi z hz=>if_neg λh=>by rw[h,hd] at hz;cases hz
   have hpos:0<ti.e.size:=D.size_pos _
   have inpl:∀ {b:Nat} {cs:List Value} {T':TypeId},(θ o).1=some b->W.w.heap[b]?=some (.cells cs.toArray T' (0,0))->cs.length=(θ o).2*s->(∀i,xs.length*s<=i->W.A b i)->p=some ⟨b,0,none⟩->xs.length+U.length<=(θ o).2 ->
    (Builtin.append_ #[T,T] ty #[ρ x,ρ y]).run P W.w=.ok (.slice p (xs.length+U.length) (θ o).2) (Xjh W.w b (.cells (spl cs (xs.length*ti.e.size) news).toArray T' (0,0))) ->
    Good P N W θ g ρ ⟨d,.call ⟨.builtin .append,#[x,y],#[T,T]⟩,ty,pos,aft,gd⟩ (.gr dd s (xs++U)) (Xb1 g [(dd,.tok (xs.length+U.length) s),(o,.dead)]):=by
    intro b cs T' h1 h2 h3 h4 hp' hroom I
    have hfit:xs.length*s+news.length<=cs.length:=by
     rw[hnl,<-O,h3,<-W1i];exact W0x _ hroom
    have hsp:∀q,(spl cs (xs.length*s) news)[q]?=if xs.length*s<=q/\q<xs.length*s+news.length then news[q-xs.length*s]? else cs[q]?:=λq=>Xgh _ _ _ _ hfit
    have hs':∀i v,¬W.A b i->cs[i]?=some v->(spl cs (xs.length*s) news)[i]?=some v:=λi v hA hv=>by
     rw[hsp,if_neg (λh=>hA (h4 i h.1))];exact hv
    have hle:=Xid W b cs (spl cs (xs.length*s) news) T' (λi=>(xs.length+U.length)*s<=i) h2 hs'
    have hput:=Stp.put hO (t:=dd) (x:=.tok (xs.length+U.length) s) (B:=λi=>(xs.length+U.length)*s<=i) hg rfl h1 h2 hs' (θ':=λi=>if i=dd then θ o else θ i) hth (λi h=>if_neg (by omega)) (by simp[h1]) hgp hdm
     ⟨by simpa using hroom,by simpa using hc63,.inr ⟨b,_,T',by simp[h1],Xa7 _ _ _ (Xa3 h2),by simp[Xeq,h3],λi hi=>⟨h4 i (W0l (W0x _ (W6a _ _)) hi),λ_=>hi⟩⟩⟩ (λi hi=>hi.elim)
    rw[<-O] at I
    refine fin I hput (Ygq (θ:=λi=>if i=dd then θ o else θ i) M.symm (by simp) (.inr (by simp[hp',h1,ad])) (by rw[M];simpa using hroom) (by simpa using hc63) (.inr ⟨b,by simp[h1],?_⟩))
    refine D.row_app (D.row_mono hle b s xs 0 (by
     rcases hrow with h | ⟨b',Q,hr⟩
     . subst h;trivial
     . rw[h1] at Q;injection Q with Q;subst Q;exact hr)) ((hna.mono hle).row λq u hq hu=>⟨?_,?_⟩)
    . rw[show (W.put b (.cells (spl cs (xs.length*s) news).toArray T' (0,0)) (λi=>(xs.length+U.length)*s<=i)).w.cell? ⟨b,0+xs.length*s+q,none⟩=_ from Xbf (Xa7 _ _ _ (Xa3 h2)) _,W1j,hsp,if_pos (by have:=Xbn hu;omega),W3r]
      exact hu
    . rintro⟨_,h⟩
      have:=h rfl
      rw[W1i] at this
      omega
   rcases I with ⟨h0,I⟩ | ⟨h0,h1,I⟩ | ⟨h0,c',zs,h1,h2,h3,I⟩
   . have hy0:U=[]:=W0n h0
     subst hy0
     have hn0:news=[]:=W0n (by simpa using hnl)
     subst hn0
     rcases htok with ⟨k1,k2⟩ | ⟨b,cs,T',k1,k2,k3,k4⟩
     . have hx0:xs=[]:=W0n (by omega)
       subst hx0
       exact fin (by rw[ex,ey];exact I) (Y.trans (Stp.new0 (d:=dd) Y.obs hB hdk (x:=.tok (([]:List D).length+([]:List D).length) s) ⟨by simp,by simp,.inl (by simp)⟩ (λi h=>h)))
        (Ygq (o:=dd) (θ:=λi=>if i=dd then (none,0) else θ i) rfl (by simp[k2]) (.inl (by simp)) (by simp) (by simp) (.inl rfl))
     . rcases hpc with k5 | k5
       . have hx0:xs=[]:=W0n (by omega)
         subst hx0
         refine fin (by rw[ex,ey];exact I) (Y.trans (Stp.new0 (d:=dd) Y.obs hB hdk (x:=.tok (([]:List D).length+([]:List D).length) s) ⟨by simp,by simp,.inl (by simp)⟩ (λi h=>h)))
          (Ygq (o:=dd) (θ:=λi=>if i=dd then (none,0) else θ i) rfl (by simp[k5]) (.inl (by simp)) (by simp) (by simp) (.inl rfl))
       . exact inpl k1 k2 k3 k4 (by rw[k5,k1];rfl) (by simpa using hxc) (by simp only[spl];rw[Xh5 k2,ex,ey];simpa using I)
   . rcases htok with ⟨k1,k2⟩ | ⟨b,cs,T',k1,k2,k3,k4⟩
     . omega
     . have hpb:p=some ⟨b,0,none⟩:=by
        rcases hpc with k5 | k5
        . omega
        . rw[k5,k1];rfl
       exact inpl k1 k2 k3 k4 hpb h1 (by rw[ex,ey];exact I b cs T' hpb k2 (by rw[k3,O]))
   . obtain⟨W',θ',e1,e2,e3⟩:=Xsh (W:=W.tick) (θ:=θ) (g:=upd g o .dead) (dd:=dd) (E:=E) (sz:=s) (xs:=xs++U) (cs:=olds++news) (c:=c') (zs:=zs) (Stp.tick Y.obs).obs hN hB hdk ((hoa.app hna (by rw[Z,O])).mono (Xd8 W)) (by rw[W0d,Z,hnl,M,W1i,O]) (by rw[M];exact h1) h2 (by rw[O];exact h3)
     rw[M] at e2 e3
     exact fin (by rw[e1,ex,ey];exact I) ((Y.trans (Stp.tick Y.obs)).trans e2) e3
 . rename_i o s l n
   split at hF<;>try cases hF
   rename_i s' xs hg
   split at hF<;>cases hF
   rename_i hc
   obtain⟨hr,rfl,rfl,hs1,hs2⟩:=hc
   subst hs2;subst hs1
   obtain⟨b,p,h1,hxc,hc63,ex,hp5⟩:=Xmg ha.1.1
   have hpb:=hp5 (.inl rfl)
   rw[W4q] at hpb
   rw[W7c] at ex
   rw[W1j] at hxc
   obtain⟨b',cs,T',r1,h2,h3,r4,r5,r6,r7⟩:=hO.r _ _ hg
   rw[h1] at r1;injection r1 with r1;subst r1
   have hod:=hgd hg
   have hmc:xs.length*s<=cs.length:=by rw[h3];exact W0x _ hxc
   have Z:(cs.take (xs.length*s)).length=xs.length*ti.e.size:=by rw[W0k,<-O];omega
   have hoa:AtL W s xs (cs.take (xs.length*s)):=AtL.ext r6 λq v hq hv=>by rw[W1l,if_pos hq];exact hv
   have I:=Xfj (P:=P) (W:=W) (ty:=ty) (ti:=ti) u1 i1 i2 i3 i4 i5 (p:=p) (m:=xs.length) (c:=(θ o).2) (k:=U.length) (c2:=c2) (q:=q) (olds:=cs.take (xs.length*s)) (news:=news) hxc (.inr ⟨b,hpb⟩) Z (λb' Q j u hj=>by
    rw[hpb] at Q;injection Q with Q;injection Q with Q;subst Q
    rw[W1l] at hj
    split at hj
    . rw[Xbf h2];exact hj
    . cases hj) hnl hnr hn1 hr hk2
   have Y:=Stp.kill hO hg
   have hdk:upd g o .dead dd=none:=by rw[Xam (λh=>hod h.symm)];exact hd
   have M:(xs++U).length=xs.length+U.length:=W0d
   have fin:∀ {W':GW} {θ':Loc} {r:Value},(Builtin.append_ #[T,T] ty #[ρ x,ρ y]).run P W.w=.ok r W'.w->Stp N W W' θ θ' g (upd (upd g o .dead) dd (.arr s (xs++U)))->AV.V W' θ' (.own dd s 0 (xs.length+U.length)) r ->
    Good P N W θ g ρ ⟨d,.call ⟨.builtin .append,#[x,y],#[T,T]⟩,ty,pos,aft,gd⟩ (.own dd s 0 (xs.length+U.length)) (Xb1 g [(dd,.arr s (xs++U)),(o,.dead)]):=λh1 h2 h3 =>
    ⟨_,_,_,Xc3 h1,h2,.inr ⟨_,rfl,h3⟩,λi hi=>⟨_,by subst hi;exact Xai _ _ _⟩⟩
   have hgp:∀i z,upd (upd g o .dead) dd (.arr s (xs++U)) i=some z->(i=dd/\z=.arr s (xs++U))\/z=.dead\/(g i=some z/\i≠o):=λi z hz=>by
    rcases Xae hz with h | ⟨h1,h2⟩
    . exact .inl h
    . rcases Xae h2 with ⟨_,h⟩ | ⟨h3,h4⟩
      . exact .inr (.inl h)
      . exact .inr (.inr ⟨h4,h3⟩)
   have hdm:∀i z,g i=some z->∃z',upd (upd g o .dead) dd (.arr s (xs++U)) i=some z':=λi z hz=>by
    have:i≠dd:=λh=>by rw[h,hd] at hz;cases hz
    rw[Xam this]
    by_cases e:i=o
    . subst e;exact⟨_,Xai _ _ _⟩
    . exact⟨z,by rw[Xam e];exact hz⟩
   have hth:∀i z,g i=some z->(λi=>if i=dd then θ o else θ i) i=θ i:=λi z hz=>if_neg λh=>by rw[h,hd] at hz;cases hz
   have inpl:xs.length+U.length<=(θ o).2->(Builtin.append_ #[T,T] ty #[ρ x,ρ y]).run P W.w=.ok (.slice p (xs.length+U.length) (θ o).2) (Xjh W.w b (.cells (spl cs (xs.length*ti.e.size) news).toArray T' (0,0))) ->
    Good P N W θ g ρ ⟨d,.call ⟨.builtin .append,#[x,y],#[T,T]⟩,ty,pos,aft,gd⟩ (.own dd s 0 (xs.length+U.length)) (Xb1 g [(dd,.arr s (xs++U)),(o,.dead)]):=by
    intro hroom I
    have hfit:xs.length*s+news.length<=cs.length:=by
     rw[hnl,<-O,h3,<-W1i];exact W0x _ hroom
    have hsp:∀q,(spl cs (xs.length*s) news)[q]?=if xs.length*s<=q/\q<xs.length*s+news.length then news[q-xs.length*s]? else cs[q]?:=λq=>Xgh _ _ _ _ hfit
    have hs':∀i v,¬W.A b i->cs[i]?=some v->(spl cs (xs.length*s) news)[i]?=some v:=λi v hA hv=>absurd (r7 i) hA
    have hle:=Xid W b cs (spl cs (xs.length*s) news) T' (λ_=>True) h2 hs'
    rw[<-O] at I
    refine fin I (Stp.put hO (t:=dd) (x:=.arr s (xs++U)) (B:=λ_=>True) hg rfl h1 h2 hs' (θ':=λi=>if i=dd then θ o else θ i) hth (λi h=>if_neg (by omega)) (by simp[h1]) hgp hdm
     ⟨b,_,T',by simp[h1],Xa7 _ _ _ (Xa3 h2),by simp[Xeq,h3],by simpa using hc63,by rw[M];simpa using hroom,?_,λi=>⟨r7 i,λ_=>trivial⟩⟩ (λi hi=>hi.elim))
     (by rw[hpb];exact Yfw (o:=dd) (xs:=xs) (θ:=λi=>if i=dd then θ o else θ i) (by simp[h1]) (by simp) (by simpa using hroom) (by simpa using hc63))
    have:=(hoa.mono hle).app (hna.mono hle) (by rw[Z,O])
    refine AtL.ext this λq v hq hv=>?_
    rw[M,W1i] at hq
    rw[hsp]
    by_cases hlt:q<xs.length*s
    . rw[if_neg (by omega)]
      rw[W1d (by rw[Z,<-O];exact hlt),W1l,if_pos hlt] at hv
      exact hv
    . rw[if_pos (by rw[hnl,<-O];omega)]
      rw[W0o (by rw[Z,<-O];omega),Z,<-O] at hv
      exact hv
   rcases I with ⟨h0,I⟩ | ⟨h0,k1,I⟩ | ⟨h0,c',zs,k1,k2,k3,I⟩
   . have hy0:U=[]:=W0n h0
     subst hy0
     have hn0:news=[]:=W0n (by simpa using hnl)
     subst hn0
     exact inpl (by simpa using hxc) (by simp only[spl];rw[Xh5 h2,ex,ey];simpa using I)
   . exact inpl k1 (by rw[ex,ey];exact I b cs T' hpb h2 (by rw[h3,O]))
   . obtain⟨W',θ',e1,e2,e3⟩:=Xig (W:=W.tick) (θ:=θ) (g:=upd g o .dead) (dd:=dd) (E:=E) (sz:=s) (xs:=xs++U) (cs:=cs.take (xs.length*s)++news) (c:=c') (zs:=zs) (Stp.tick Y.obs).obs hN hB hdk ((hoa.app hna (by rw[Z,O])).mono (Xd8 W)) (by rw[W0d,Z,hnl,M,W1i,O]) (by rw[M];exact k1) k2 (by rw[O];exact O ▸ k3)
     rw[M] at e3
     exact fin (by rw[e1,ex,ey];exact I) ((Y.trans (Stp.tick Y.obs)).trans e2) e3
 . rename_i o s l n
   split at hF<;>try cases hF
   rename_i s' xs hg
   split at hF<;>try cases hF
   rename_i hc
   obtain⟨hr,rfl,hn,hs1,hs2⟩:=hc
   subst hs2;subst hs1
   obtain⟨b,p,h1,hnc,hc63,ex,h5⟩:=Xp6 ha.1.1
   obtain⟨b',cs,T',r1,h2,h3,r4,r5,r6,r7⟩:=hO.r _ _ hg
   rw[h1] at r1;injection r1 with r1;subst r1
   have hpb:p=some ⟨b,0,none⟩:=by rw[h5 (.inl rfl),W4q]
   have hlt:(xs.take n).length=n:=by simp;omega
   have M:(xs.take n++U).length=n+U.length:=by rw[W0d,hlt]
   have hcn:n*s<=cs.length:=by rw[h3];exact W0x _ (by omega)
   have Z:(cs.take (n*s)).length=n*ti.e.size:=by rw[W0k,O];rw[<-O] at *;omega
   have hoa:AtL W s (xs.take n) (cs.take (n*s)):=AtL.ext (cs:=cs) (λi x hx=>r6 i x (by
    rw[W1l] at hx
    split at hx
    . exact hx
    . cases hx)) λq v hq hv=>by rw[hlt] at hq;rw[W1l,if_pos hq];exact hv
   have I:=Xfj (P:=P) (W:=W) (ty:=ty) (ti:=ti) u1 i1 i2 i3 i4 i5 (p:=p) (m:=n) (c:=n) (k:=U.length) (c2:=c2) (q:=q) (olds:=cs.take (n*s)) (news:=news) (W0c _) (.inr ⟨b,hpb⟩) Z (λb' Q j u hj=>by
    rw[hpb] at Q;injection Q with Q;injection Q with Q;subst Q
    rw[W1l] at hj
    split at hj
    . rw[Xbf h2];exact hj
    . cases hj) hnl hnr hn1 hr hk2
   by_cases hy0:U.length=0
   . rw[if_pos hy0] at hF
     cases hF
     rcases I with ⟨h0,I⟩ | ⟨h0,_⟩ | ⟨h0,_⟩
     . exact⟨W,θ,_,Xc3 (by rw[ex,ey];exact I),Stp.rfl hO,.inr ⟨_,rfl,ex ▸ ha.1.1⟩,λi hi=>⟨_,by have hi:i=o:=hi;subst hi;exact hg⟩⟩
     . omega
     . omega
   . rw[if_neg hy0] at hF
     cases hF
     rcases I with ⟨h0,_⟩ | ⟨h0,h4,_⟩ | ⟨h0,c',zs,k1,k2,k3,I⟩
     . omega
     . omega
     . obtain⟨W',θ',e1,e2,e3⟩:=Xig (W:=W.tick) (θ:=θ) (g:=g) (dd:=dd) (E:=E) (sz:=s) (xs:=xs.take n++U) (cs:=cs.take (n*s)++news) (c:=c') (zs:=zs) (Stp.tick hO).obs hN hB hd ((hoa.app hna (by rw[Z,O,hlt])).mono (Xd8 W)) (by rw[W0d,Z,hnl,M,W1i,O]) (by rw[M];exact k1) k2 (by rw[k3,O])
       rw[M] at e3
       exact⟨W',θ',_,by rw[e1];exact Xc3 (by rw[ex,ey];exact I),(Stp.tick hO).trans e2,.inr ⟨_,rfl,e3⟩,λi hi=>⟨_,by subst hi;exact Xai _ _ _⟩⟩
end
end
end Go.Vm

/- part 1 -/
import Derived.WalkKit
set_option linter.unusedVariables false
set_option linter.unusedSimpArgs false
namespace Go
abbrev W0a:= @Nat.le_refl
abbrev W0b:= @List.take_of_length_le
abbrev W0c:= @Nat.eq_of_beq_eq_true
abbrev W0d:= @Bool.and_eq_true
abbrev W0e:= @List.getElem?_eq_getElem
abbrev W0f:= @Rat.mul_le_mul_of_nonneg_right
abbrev W0g:= @List.mem_singleton
abbrev W0h:= @List.mem_of_getElem?
abbrev W0i:= @List.length_append
abbrev W0j:= @Nat.le_trans
abbrev W0k:= @List.length_take
abbrev W0l:= @Nat.mul_le_mul_right
abbrev W0m:= @List.eq_nil_of_length_eq_zero
abbrev W0n:= @List.getElem?_append_right
abbrev W0o:= @Nat.pow_le_pow_right
abbrev W0p:= @Nat.two_pow_pos
abbrev W0q:= @List.getElem?_append_left
abbrev W0r:= @Nat.zero_le
abbrev W0s:= @List.getElem?_eq_some_iff
abbrev W0t:= @Classical.byContradiction
abbrev W0u:= @Nat.mul_le_mul_left
abbrev W0v:= @Nat.mul_assoc
abbrev W0w:= @List.mem_cons_self
abbrev W0x:= @Nat.pow_add
abbrev W0y:= @Nat.lt_of_lt_of_le
abbrev W0z:= @Nat.pow_succ
abbrev W1a:= @Rat.mul_le_mul_of_nonneg_left
abbrev W1b:= @Int.natAbs_natCast
abbrev W1c:= @List.mem_cons_of_mem
abbrev W1d:= @Nat.mul_add
abbrev W1e:= @Nat.le_of_ble_eq_true
abbrev W1f:= @Nat.add_mul
abbrev W1g:= @Nat.mul_comm
abbrev W1h:= @List.getElem?_take
abbrev W1i:= @List.drop_zero
abbrev W1j:= @List.length_cons
abbrev W1k:= @List.length_map
abbrev W1l:= @Nat.zero_add
abbrev W1m:= @Rat.le_of_lt
abbrev W1n:= @Rat.le_trans
abbrev W1o:= @List.length_replicate
abbrev W1p:= @Nat.mul_pos
abbrev W1q:= @List.all_eq_true
abbrev W1r:= @Int.fdiv_eq_ediv_of_nonneg
abbrev W1s:= @List.mem_cons
abbrev W1t:= @List.getElem?_drop
abbrev W1u:= @List.length_drop
abbrev W1v:= @Bool.not_eq_true'
abbrev W1w:= @List.take_add_one
abbrev W1x:= @Rat.le_refl
abbrev W1y:= @List.getElem?_eq_none
abbrev W1z:= @List.mem_append_right
abbrev W2a:= @Nat.lt_of_le_of_lt
abbrev W2b:= @Nat.mul_le_mul
abbrev W2c:= @List.getElem?_map
abbrev W2d:= @Rat.le_of_mul_le_mul_right
abbrev W2e:= @Nat.add_zero
abbrev W2f:= @List.map_take
abbrev W2g:= @List.getD_eq_getElem?_getD
abbrev W2h:= @Nat.min_eq_left
abbrev W2i:= @List.map_replicate
abbrev W2j:= @List.map_append
abbrev W2k:= @Nat.le_of_lt
abbrev W2l:= @List.getElem?_set_ne
abbrev W2m:= @Nat.succ_mul
abbrev W2n:= @List.getElem?_set_self
abbrev W2o:= @Nat.mod_lt
abbrev W2p:= @List.mem_append
abbrev W2q:= @Nat.pos_of_ne_zero
abbrev W2r:= @Int.natCast_mul
abbrev W2s:= @List.take_append_of_le_length
abbrev W2t:= @Nat.eq_zero_or_pos
abbrev W2u:= @List.take_length
abbrev W2v:= @List.drop_eq_nil_of_le
abbrev W2w:= @Int.toNat_of_nonneg
abbrev W2x:= @Nat.div_add_mod
abbrev W2y:= @List.mem_append_left
abbrev W2z:= @Rat.mul_nonneg
abbrev W3a:= @Nat.sub_self
abbrev W3b:= @Nat.div_lt_iff_lt_mul
abbrev W3c:= @List.length_set
abbrev W3d:= @List.getElem?_of_mem
abbrev W3e:= @Int.one_mul
abbrev W3f:= @Prod.ext
abbrev W3g:= @Nat.mul_lt_mul_of_pos_right
abbrev W3h:= @Rat.intCast_le_intCast
abbrev W3i:= @Nat.pow_lt_pow_iff_right
abbrev W3j:= @Classical.not_not
abbrev W3k:= @Array.getElem?_eq_some_iff
abbrev W3l:= @Nat.mul_zero
abbrev W3m:= @Option.map_some
abbrev W3n:= @Nat.div_le_self
abbrev W3o:= @Option.isSome_iff_exists
abbrev W3p:= @Rat.zero_mul
abbrev W3q:= @Rat.pow_succ
abbrev W3r:= @List.length_nil
abbrev W3s:= @List.nil_append
abbrev W3t:= @Nat.not_lt_zero
abbrev W3u:= @Nat.mul_lt_mul''
abbrev W3v:= @Nat.add_sub_cancel_left
abbrev W3w:= @List.drop_eq_getElem_cons
abbrev W3x:= @List.mem_or_eq_of_mem_set
abbrev W3y:= @Array.getElem?_eq_none
abbrev W3z:= @Array.getElem?_setIfInBounds
abbrev W4a:= @Iff.rfl
abbrev W4b:= @Rat.intCast_mul
abbrev W4c:= @Int.mul_one
abbrev W4d:= @Int.natAbs_mul
abbrev W4e:= @Bool.or_eq_true
abbrev W4f:= @Nat.pow_lt_pow_right
abbrev W4g:= @List.cons_append
abbrev W4h:= @List.replicate_succ
abbrev W4i:= @Rat.mul_assoc
abbrev W4j:= @Nat.mul_one
abbrev W4k:= @Rat.sub_eq_add_neg
abbrev W4l:= @List.getElem?_replicate
abbrev W4m:= @Option.getD_some
abbrev W4n:= @Nat.le_of_not_lt
abbrev W4o:= @Nat.div_eq_of_lt
abbrev W4p:= @Array.replicate_succ
abbrev W4q:= @Array.replicate_zero
abbrev W4r:= @List.mem_map
abbrev W4s:= @List.replicate_append_replicate
abbrev W4t:= @List.ext_getElem?
abbrev W4u:= @Rat.divInt_eq_div
abbrev W4v:= @List.append_toArray
abbrev W4w:= @Bool.eq_iff_iff
abbrev W4x:= @List.append_nil
abbrev W4y:= @Nat.zero_mul
abbrev W4z:= @Nat.add_assoc
abbrev W5a:= @List.map_cons
abbrev W5b:= @List.length_eq_zero_iff
abbrev W5c:= @Nat.le_mul_of_pos_right
abbrev W5d:= @Nat.mul_left_comm
abbrev W5e:= @List.size_toArray
abbrev W5f:= @List.push_toArray
abbrev W5g:= @Rat.num_eq_zero
abbrev W5h:= @Nat.dvd_of_mod_eq_zero
abbrev W5i:= @List.map_drop
abbrev W5j:= @Nat.mod_eq_of_lt
abbrev W5k:= @List.take_zero
abbrev W5l:= @Int.natAbs_neg
abbrev W5m:= @Nat.add_mul_mod_self_left
abbrev W5n:= @Rat.div_def
abbrev W5o:= @Rat.mul_pos
abbrev W5p:= @Rat.one_mul
abbrev W5q:= @List.eq_of_mem_replicate
abbrev W5r:= @Int.zero_mul
abbrev W5s:= @Rat.intCast_add
abbrev W5t:= @Rat.intCast_neg
abbrev W5u:= @List.take_replicate
abbrev W5v:= @Nat.lt_succ_self
abbrev W5w:= @Rat.mul_one
abbrev W5x:= @Int.natCast_nonneg
abbrev W5y:= @Rat.div_mul_cancel
abbrev W5z:= @Rat.mul_inv_cancel
abbrev W6a:= @Rat.pow_zero
abbrev W6b:= @Nat.ble_eq_true_of_le
abbrev W6c:= @List.take_append_drop
abbrev W6d:= @Int.fmod_eq_emod_of_nonneg
abbrev W6e:= @Bool.eq_false_iff
abbrev W6f:= @Nat.not_lt
abbrev W6g:= @Array.getElem?_eq_getElem
abbrev W6h:= @Int.le_of_lt
abbrev W6i:= @Nat.le_add_right
abbrev W6j:= @Nat.sub_zero
abbrev W6k:= @Rat.add_zero
abbrev W6l:= @List.length_pos_iff
abbrev W6m:= @Classical.axiomOfChoice
abbrev W6n:= @List.mem_replicate
abbrev W6o:= @BitVec.toNat_ofInt
abbrev W6p:= @Rat.natCast_mul
abbrev W6q:= @Nat.pow_mul
abbrev W6r:= @Int.sign_eq_one_of_pos
abbrev W6s:= @List.drop_append_of_le_length
abbrev W6t:= @List.map_inj_left
abbrev W6u:= @List.append_assoc
abbrev W6v:= @List.drop_drop
abbrev W6w:= @List.set_append_right
abbrev W6x:= @List.getElem?_zipWith
abbrev W6y:= @Int.mul_nonneg
abbrev W6z:= @List.getElem_mem
abbrev W7a:= @Nat.add_mul_div_left
abbrev W7b:= @List.replicate_succ'
abbrev W7c:= @Nat.div_mul_le_self
abbrev W7d:= @Array.getElem_append_left
abbrev W7e:= @Int.mul_ne_zero
abbrev W7f:= @List.take_left'
abbrev W7g:= @Nat.lt_or_gt_of_ne
abbrev W7h:= @Nat.add_sub_cancel
abbrev W7i:= @Nat.gcd_comm
abbrev W7j:= @Rat.mul_zero
abbrev W7k:= @List.take_left
abbrev W7l:= @Nat.mul_div_cancel_left
abbrev W7m:= @Int.toNat_natCast
abbrev W7n:= @Nat.one_mul
abbrev W7o:= @Int.neg_neg
abbrev W7p:= @Int.le_refl
abbrev W7q:= @Nat.lt_irrefl
abbrev W7r:= @Nat.zero_lt_succ
abbrev W7s:= @Int.neg_fdiv_neg
abbrev W7t:= @Nat.zero_lt_one
abbrev W7u:= @Nat.div_lt_of_lt_mul
abbrev W7v:= @List.mem_of_mem_take
abbrev W7w:= @List.mem_of_mem_drop
abbrev W7x:= @Int.natCast_pow
abbrev W7y:= @Int.ofNat_lt
abbrev W7z:= @List.range_succ
abbrev W8a:= @Int.ediv_emod_unique
abbrev W8b:= @Rat.mul_comm
abbrev W8c:= @Int.mul_eq_zero
abbrev W8d:= @Rat.intCast_sub
abbrev W8e:= @Bool.or_eq_true_iff
abbrev W8f:= @Nat.pos_iff_ne_zero
abbrev W8g:= @Int.gcd_eq_zero_iff
abbrev W8h:= @List.drop_replicate
abbrev W8i:= @List.drop_left
abbrev W8j:= @List.foldr_nil
abbrev W8k:= @Int.pow_pos
end Go
namespace Go.Vm
open Go
section
inductive D where
 | int (k:IntKind) (z:Int)
 | bool (c:Bool)
 | str (s:List UInt8)
 | raw (u:Value)
 | sl (sz:Nat) (xs:List D)
 | st (a:D)
 | pr (a c:D)
 deriving Inhabited
theorem D.ind{p:D->Prop}(leaf:∀x,(∀z,x≠.st z)->(∀u v,x≠.pr u v)->p x)(st:∀a,p a->p (.st a))(pr:∀a c,p a->p c->p (.pr a c)): ∀x,p x
 | .st a=>st a (D.ind leaf st pr a)
 | .pr a c=>pr a c (D.ind leaf st pr a) (D.ind leaf st pr c)
 | .int ..=>leaf _ nofun nofun
 | .bool _=>leaf _ nofun nofun
 | .str _=>leaf _ nofun nofun
 | .raw _=>leaf _ nofun nofun
 | .sl ..=>leaf _ nofun nofun
structure GW where
 w:World
 A:Nat->Nat->Prop
 hA:∀b i,A b i->b<w.heap.size
abbrev GW.size(W:GW): Nat:=W.w.heap.size
def Fr(W:GW)(b i:Nat)(v:Value): Prop:=W.w.cell? ⟨b,i,none⟩=some v/\¬W.A b i
def LeF(W W':GW): Prop:=∀b i v,Fr W b i v->Fr W' b i v
theorem LeF.refl(W:GW): LeF W W:=λ_ _ _ h=>h
theorem LeF.trans{a b c:GW}(h:LeF a b)(k:LeF b c): LeF a c:=λ_ _ _ x=>k _ _ _ (h _ _ _ x)
def inR(k:IntKind)(z:Int): Prop:=k.wrap z=z
def Xfi: Value->Bool
 | .agg _ | .tuple _=>false
 | _=>true
def D.size: D->Nat
 | .st a=>a.size
 | .pr a c=>a.size+c.size
 | _=>1
mutual
def D.At(W:GW): D->List Value->Prop
 | .int k z,cs=>cs=[.int k z]/\inR k z
 | .bool c,cs=>cs=[.bool c]
 | .str s,cs=>cs=[.string ⟨s.toArray⟩]/\s.length<9223372036854775808
 | .raw u,cs=>cs=[u]/\Xfi u=true
 | .sl sz xs,cs=>∃p c,cs=[.slice p xs.length c]/\xs.length<=c/\c<9223372036854775808/\(xs=[]\/∃b off,p=some ⟨b,off,none⟩/\D.Row W b sz off xs)
 | .st a,cs=>D.At W a cs
 | .pr a c,cs=>∃u v,cs=u++v/\D.At W a u/\D.At W c v
def D.Row(W:GW)(b sz:Nat): Nat->List D->Prop
 | _,[]=>True
 | off,x::xs=>(∃e,D.At W x e/\x.size=sz/\∀j v,e[j]?=some v->Fr W b (off+j) v)/\D.Row W b sz (off+sz) xs
end
def D.ag: D->Bool
 | .st _=>true
 | _=>false
theorem D.at_len{W:GW}: ∀(x:D) {cs:List Value},D.At W x cs->cs.length=x.size
 | .int _ _,_,h=>by rw[h.1];rfl
 | .bool _,_,h=>by rw[show _=_ from h];rfl
 | .str _,_,h=>by rw[h.1];rfl
 | .raw _,_,h=>by rw[h.1];rfl
 | .sl _ _,_,⟨_,_,h,_⟩=>by rw[h];rfl
 | .st a,_,h=>by rw[D.size];exact D.at_len a h
 | .pr a c,_,⟨u,v,h,i,j⟩=>by rw[h,D.size,W0i,D.at_len a i,D.at_len c j]
theorem D.at_one{W:GW}: ∀(x:D) {cs:List Value},D.At W x cs->∀v∈cs,Xfi v=true
 | .int _ _,_,h,v,i=>by rw[h.1,W0g] at i;subst i;rfl
 | .bool _,_,h,v,i=>by rw[show _=_ from h,W0g] at i;subst i;rfl
 | .str _,_,h,v,i=>by rw[h.1,W0g] at i;subst i;rfl
 | .raw _,_,h,v,i=>by rw[h.1,W0g] at i;subst i;exact h.2
 | .sl _ _,_,⟨_,_,h,_⟩,v,i=>by rw[h,W0g] at i;subst i;rfl
 | .st a,_,h,v,i=>D.at_one a h v i
 | .pr a c,_,⟨u,v,h,o,I⟩,w,j=>by
  rw[h] at j
  rcases W2p.1 j with j | j
  exact D.at_one a o w j
  exact D.at_one c I w j
mutual
theorem D.mono{W W':GW}(l:LeF W W'): ∀(x:D) {cs:List Value},D.At W x cs->D.At W' x cs
 | .int _ _,_,h=>h
 | .bool _,_,h=>h
 | .str _,_,h=>h
 | .raw _,_,h=>h
 | .sl sz xs,_,⟨p,c,h,i,j,o⟩=>⟨p,c,h,i,j,o.imp id λ⟨b,off,hp,I⟩=>⟨b,off,hp,D.row_mono l b sz xs off I⟩⟩
 | .st a,_,h=>D.mono l a h
 | .pr a c,_,⟨u,v,h,i,j⟩=>⟨u,v,h,D.mono l a i,D.mono l c j⟩
theorem D.row_mono{W W':GW}(l:LeF W W')(b sz:Nat): ∀(xs:List D) (off:Nat),D.Row W b sz off xs->D.Row W' b sz off xs
 | [],_,_=>trivial
 | x::xs,off,⟨⟨e,h,i,o⟩,I⟩=>⟨⟨e,D.mono l x h,i,λj v M=>l _ _ _ (o j v M)⟩,D.row_mono l b sz xs _ I⟩
end
theorem D.row_get{W:GW}{b sz:Nat}: ∀ {xs:List D} {off:Nat},D.Row W b sz off xs->∀ {i:Nat} {x:D},xs[i]?=some x->∃e,D.At W x e/\x.size=sz/\∀j v,e[j]?=some v->Fr W b (off+i*sz+j) v
 | [],_,_,i,x,h=>by simp at h
 | y::xs,off,⟨o,I⟩,0,x,h=>by
  simp at h;subst h
  simpa using o
 | y::xs,off,⟨o,I⟩,i+1,x,h=>by
  obtain⟨e,a,s,f⟩:=D.row_get I (i:=i) (x:=x) (by simpa using h)
  refine⟨e,a,s,λj v M=>?_⟩
  have:=f j v M
  rwa[show off+sz+i*sz+j=off+(i+1)*sz+j by rw[W2m];omega] at this
theorem D.row_of{W:GW}{b sz:Nat}: ∀ {xs:List D} {off:Nat},(∀i x,xs[i]?=some x->∃e,D.At W x e/\x.size=sz/\∀j v,e[j]?=some v->Fr W b (off+i*sz+j) v)->D.Row W b sz off xs
 | [],_,_=>trivial
 | y::xs,off,h=>⟨by simpa using h 0 y rfl,D.row_of λi x hi=>by
  obtain⟨e,a,s,f⟩:=h (i+1) x (by simpa using hi)
  refine⟨e,a,s,λj v o=>?_⟩
  have:=f j v o
  rwa[show off+(i+1)*sz+j=off+sz+i*sz+j by rw[W2m];omega] at this⟩
theorem D.row_sub{W:GW}{b sz off:Nat}{xs:List D}(h:D.Row W b sz off xs)(l m:Nat): D.Row W b sz (off+l*sz) ((xs.drop l).take m) :=
 D.row_of λi x hi=>by
  have o:xs[l+i]?=some x:=by
   rw[W1h] at hi
   split at hi
   rwa[W1t] at hi
   cases hi
  obtain⟨e,a,s,f⟩:=D.row_get h o
  refine⟨e,a,s,λj v I=>?_⟩
  have:=f j v I
  rwa[show off+(l+i)*sz+j=off+l*sz+i*sz+j by rw[W1f];omega] at this
theorem D.row_app{W:GW}{b sz off:Nat}{xs ys:List D}(h:D.Row W b sz off xs)(k:D.Row W b sz (off+xs.length*sz) ys): D.Row W b sz off (xs++ys) :=
 D.row_of λi x hi=>by
  by_cases o:i<xs.length
  rw[W0q o] at hi
  exact D.row_get h hi
  rw[W0n (by omega)] at hi
  obtain⟨e,a,s,f⟩:=D.row_get k hi
  refine⟨e,a,s,λj v I=>?_⟩
  have:=f j v I
  rwa[show off+xs.length*sz+(i-xs.length)*sz+j=off+i*sz+j from by
   obtain⟨q,rfl⟩:=Nat.le.dest (W6f.1 o)
   rw[W3v,W1f];omega] at this
def mkv(g:Bool)(cs:List Value): Value:=if g then .agg cs.toArray else cs.headD undef
def D.zc: D->List Value
 | .int k _=>[.int k 0]
 | .bool _=>[.bool false]
 | .str _=>[.string ByteArray.empty]
 | .raw u=>[u]
 | .sl _ _=>[.slice none 0 0]
 | .st a=>a.zc
 | .pr a c=>a.zc++c.zc
def D.isZ: D->Bool
 | .int _ z=>z==0
 | .bool c=>!c
 | .str s=>s.isEmpty
 | .raw u=>Xfi u
 | .sl _ xs=>xs.isEmpty
 | .st a=>a.isZ
 | .pr a c=>a.isZ&&c.isZ
theorem Yr6(k:IntKind): inR k 0:=by cases k<;>rfl
theorem D.at_zc{W:GW}: ∀(x:D),x.isZ=true->D.At W x x.zc
 | .int k z,h=>by
  have:z=0:=by simpa [D.isZ] using h
  subst this;exact⟨rfl,Yr6 k⟩
 | .bool c,h=>by
  have:c=false:=by simpa [D.isZ] using h
  subst this;rfl
 | .str s,h=>by
  have:s=[]:=by simpa [D.isZ] using h
  subst this;exact⟨rfl,by decide⟩
 | .raw u,h=>⟨rfl,h⟩
 | .sl sz xs,h=>by
  have:xs=[]:=by simpa [D.isZ] using h
  subst this;exact⟨none,0,rfl,W0a _,by decide,.inl rfl⟩
 | .st a,h=>D.at_zc a h
 | .pr a c,h=>by
  have:a.isZ=true/\c.isZ=true:=by simpa [D.isZ] using h
  exact⟨_,_,rfl,D.at_zc a this.1,D.at_zc c this.2⟩
theorem Xa2{w:World}{b:Nat}{o:Obj}(h:w.heap[b]?=some o): b<w.heap.size:=by
 by_cases hb:b<w.heap.size
 exact hb
 rw[W3y (by omega)] at h;cases h
theorem Xbd{w:World}{b:Nat}{cs:List Value}{T:TypeId}{fr:Nat×Nat}(h:w.heap[b]?=some (.cells cs.toArray T fr))(i:Nat): w.cell? ⟨b,i,none⟩=cs[i]?:=by
 simp[World.cell?,h]
theorem cell_of_heap{w i:World}{a:Addr}(h:i.heap[a.block]?=w.heap[a.block]?): i.cell? a=w.cell? a:=World.cell?_of_block (w:=w) h
theorem cell_lt{w:World}{a:Addr}{v:Value}(h:w.cell? a=some v): a.block<w.heap.size:=by
 unfold World.cell? at h
 by_cases hb:a.block<w.heap.size
 exact hb
 rw[W3y (by omega)] at h;cases h
def GW.push(W:GW)(o:Obj)(L:Nat->Prop): GW where
 w:=W.w.alloc o
 A:=λb i=>W.A b i\/(b=W.size/\L i)
 hA:=by
  rintro b i (h | ⟨rfl,_⟩)
  rw[World.size_alloc];exact Nat.lt_succ_of_lt (W.hA b i h)
  rw[World.size_alloc];exact W5v _
theorem Xe0(w:World)(o:Obj)(k:Nat)(h:k<w.heap.size): (w.alloc o).heap[k]?=w.heap[k]?:=by
 show (w.heap.push o)[k]?=_
 rw[Array.getElem?_push,if_neg (by omega)]
theorem Xbh(w:World)(o:Obj): (w.alloc o).heap[w.heap.size]?=some o:=by
 show (w.heap.push o)[w.heap.size]?=_
 rw[Array.getElem?_push,if_pos rfl]
theorem Xew(W:GW)(o:Obj)(L:Nat->Prop): LeF W (W.push o L):=λb i v h=>by
 have hb:b<W.w.heap.size:=cell_lt h.1
 refine⟨by rw[<-h.1];exact cell_of_heap (Xe0 _ _ _ hb),?_⟩
 rintro(j | ⟨j,_⟩)
 exact h.2 j
 exact absurd j (by show b≠W.w.heap.size;omega)
def Xg6(w:World)(b:Nat)(o:Obj): World:={ w with heap:=w.heap.setIfInBounds b o }
theorem Xl9(w:World)(b:Nat)(o:Obj)(k:Nat)(h:k≠b): (Xg6 w b o).heap[k]?=w.heap[k]?:=by
 simp only[Xg6,W3z]
 rw[if_neg (λe=>h e.symm)]
theorem Xa1(w:World)(b:Nat)(o:Obj)(h:b<w.heap.size): (Xg6 w b o).heap[b]?=some o:=by
 simp only[Xg6,W3z,if_true,h]
def GW.put(W:GW)(b:Nat)(o:Obj)(B:Nat->Prop): GW where
 w:=Xg6 W.w b o
 A:=λk i=>W.A k i/\(k=b->B i)
 hA:=λk i h=>by simpa [Xg6] using W.hA k i h.1
theorem Xfl(W:GW)(b:Nat)(c c':List Value)(T:TypeId)(B:Nat->Prop)(hb:W.w.heap[b]?=some (.cells c.toArray T (0,0)))(I:∀i v,¬W.A b i->c[i]?=some v->c'[i]?=some v):
 LeF W (W.put b (.cells c'.toArray T (0,0)) B):=λk i v h=>by
 refine⟨?_,λj=>h.2 j.1⟩
 by_cases o:k=b
 subst o
 have j:=h.1
 rw[Xbd hb] at j
 rw[show (W.put k (.cells c'.toArray T (0,0)) B).w.cell? ⟨k,i,none⟩=c'[i]? from Xbd (Xa1 _ _ _ (Xa2 hb)) i]
 exact I i v h.2 j
 rw[<-h.1];exact cell_of_heap (Xl9 _ _ _ _ o)
def spl(c:List Value)(o:Nat): List Value->List Value
 | []=>c
 | v::h=>spl (c.set o v) (o+1) h
theorem Xcn(c:List Value)(o:Nat)(vs:List Value): (spl c o vs).length=c.length:=by
 induction vs generalizing c o with
 | nil=>rfl
 | cons v vs h=>simp[spl,h]
theorem Xd7(c:List Value)(o:Nat)(vs:List Value)(i:Nat)(I:o+vs.length<=c.length):
 (spl c o vs)[i]?=if o<=i/\i<o+vs.length then vs[i-o]? else c[i]?:=by
 induction vs generalizing c o with
 | nil=>simp only[spl,W3r];rw[if_neg (by omega)]
 | cons v vs M =>
  simp only[spl,W1j] at I |-
  rw[M (c.set o v) (o+1) (by simp;omega)]
  by_cases h:i=o
  subst h
  rw[if_neg (by omega),if_pos (by omega),W2n (by omega)]
  simp
  by_cases j:o+1<=i/\i<o+1+vs.length
  rw[if_pos j,if_pos (by omega),show i-o=(i-(o+1))+1 by omega]
  simp
  rw[if_neg j,if_neg (by omega),W2l (λe=>h e.symm)]
theorem Xq4(a m z vs:List Value)(h:vs.length=m.length): spl (a++(m++z)) a.length vs=a++(vs++z):=by
 apply W4t
 intro i
 rw[Xd7 _ _ _ _ (by simp;omega)]
 by_cases j:i<a.length
 rw[if_neg (by omega),W0q j,W0q j]
 rw[W0n (l₁:=a) (by omega),W0n (l₁:=a) (by omega)]
 by_cases o:i<a.length+vs.length
 rw[if_pos (by omega),W0q (by omega)]
 rw[if_neg (by omega),W0n (by omega),W0n (by omega),h]
section
variable{P:Program}
theorem Xtg{w:World}{b:Nat}{c:List Value}{T:TypeId}{fr:Nat×Nat}(hb:w.heap[b]?=some (.cells c.toArray T fr))(i:Nat)(v:Value):
 w.setCell ⟨b,i,none⟩ v=Xg6 w b (.cells (c.set i v).toArray T fr):=by
 unfold World.setCell Xg6
 congr 1
 apply Array.ext_getElem?
 intro k
 simp only[Array.getElem?_modify,W3z]
 by_cases h:b=k
 subst h
 rw[if_pos rfl,if_pos rfl,if_pos (Xa2 hb),hb]
 simp
 rw[if_neg h,if_neg h]
theorem Xiu{w:World}{b:Nat}{o:Obj}(hb:w.heap[b]?=some o): Xg6 w b o=w:=by
 unfold Xg6
 have:w.heap.setIfInBounds b o=w.heap:=by
  apply Array.ext_getElem?
  intro k
  simp only[W3z]
  by_cases h:b=k
  subst h;rw[if_pos rfl,if_pos (Xa2 hb),hb]
  rw[if_neg h]
 rw[this]
theorem Xvg(w:World)(b:Nat)(o i:Obj): Xg6 (Xg6 w b o) b i=Xg6 w b i:=by
 unfold Xg6
 congr 1
 apply Array.ext_getElem?
 intro k
 simp only[W3z,Array.size_setIfInBounds]
 by_cases h:b=k<;>simp[h]
theorem add0(b off k:Nat): (⟨b,off,none⟩:Addr).add k=⟨b,off+k,none⟩:=by
 unfold Addr.add;split
 rename_i h;subst h;rfl
 rfl
theorem Xb4{b off:Nat}{T:TypeId}(vs:List Value): ∀(w:World) (i:Nat) (c:List Value),w.heap[b]?=some (.cells c.toArray T (0,0)) ->
 off+i+vs.length<=c.length->(∀v∈vs,Xfi v=true)->(storeCells ⟨b,off,none⟩ vs i).run P w=.ok () (Xg6 w b (.cells (spl c (off+i) vs).toArray T (0,0))):=by
 induction vs with
 | nil=>intro w i c hb _ _;simp only[storeCells,spl];rw[Xiu hb];rfl
 | cons v vs M =>
  intro w i c hb O o
  simp only[W1j] at O
  have U:w.cell? ⟨b,off+i,none⟩=c[off+i]?:=Xbd hb _
  have j:off+i<c.length:=by omega
  rw[W0e j] at U
  have hf:w.frozen? ⟨b,off+i,none⟩=false:=by simp[World.frozen?,hb]
  have I:=o v (W0w ..)
  have h:(store ((⟨b,off,none⟩:Addr).add i) v).run P w=.ok () (Xg6 w b (.cells (c.set (off+i) v).toArray T (0,0))):=by
   rw[add0,<-Xtg hb]
   cases v<;>simp_all[store,Sem.run,Xfi]
  simp only[storeCells]
  rw[Sem.run_bind,h]
  simp only[Result.andThen_ok]
  rw[M _ (i+1) (c.set (off+i) v) (Xa1 _ _ _ (Xa2 hb)) (by simp;omega) (λu V=>o u (W1c _ V)),Xvg]
  rfl
theorem run_load{a:Addr}{w:World}{v:Value}(h:w.cell? a=some v): (load a).run P w=.ok v w:=by
 simp[load,Sem.run,h]
theorem run_loadCells{b off:Nat}{w:World}(cs:List Value): ∀(i:Nat) (acc:Array Value),(∀j v,cs[j]?=some v->w.cell? ⟨b,off+(i+j),none⟩=some v) ->
 (loadCellsFrom ⟨b,off,none⟩ i cs.length acc).run P w=.ok (acc++cs.toArray) w:=by
 induction cs with
 | nil=>intro i acc _;simp[loadCellsFrom,pure,Sem.run]
 | cons c cs o =>
  intro i acc h
  have h0:=h 0 c rfl
  have hi:=o (i+1) (acc.push c) (λj v I=>by
   have:=h (j+1) v I
   rwa[show off+(i+1+j)=off+(i+(j+1)) by omega])
  simp only[W1j,loadCellsFrom,bind,load,Sem.bind,add0,Sem.run]
  rw[show off+(i+0)=off+i from rfl] at h0
  rw[h0]
  simp only[pure,Sem.bind]
  rw[hi]
  simp
theorem Xvm{α j:Type}(s:Sem α)(f:α->Sem j)(w i:World)(x:α)(h:s.run P w=.ok x i): (s.bind f).run P w=(f x).run P i:=by
 show ((s >>= f).run P w)=_
 rw[Sem.run_bind,h];rfl
end
end
section
inductive AV where
 | d (x:D)
 | q (p:Prop)
 | b (c:Bool)
 | ub (p:Prop)
 | nil
 | lit (sz:Nat) (xs:List D)
 | st (a:AV)
 | pr (a c:AV)
 | tup (a:AV)
 | at (x:D)
 | ptr (o off:Nat)
 | own (o sz lo n:Nat)
 | ow3 (o sz lo n:Nat)
 | gr (o sz:Nat) (xs:List D)
 | el (o sz j off:Nat)
 | fn (f o:Nat)
 | fm (f:Nat) (a:AV)
 | ap (o n:Nat)
 | cx (o lo c:Nat)
 | an
 | un
 deriving Inhabited
inductive Ob where
 | var (a:AV)
 | arr (sz:Nat) (xs:List D)
 | tok (n sz:Nat)
 | dead
abbrev Loc:=Nat->Option Nat×Nat
def ad: Option Nat->Option Addr
 | none=>none
 | some b=>some ⟨b,0,none⟩
def AV.C(W:GW)(θ:Loc): AV->List Value->Prop
 | .d x,cs=>D.At W x cs
 | .q p,cs=>∃c,cs=[.bool c]/\(c=true↔p)
 | .b c,cs=>cs=[.bool c]
 | .ub p,cs=>∃c,cs=[.bool c]/\(c=true->p)
 | .nil,cs=>∃p,cs=[.slice p 0 0]
 | .lit sz xs,cs=>∃p,cs=[.slice p xs.length xs.length]/\xs.length<9223372036854775808/\(xs=[]\/∃b,p=some ⟨b,0,none⟩/\D.Row W b sz 0 xs)
 | .st a,cs=>AV.C W θ a cs
 | .pr a c,cs=>∃u v,cs=u++v/\AV.C W θ a u/\AV.C W θ c v
 | .tup _,_=>False
 | .un,_=>False
 | .at x,cs=>∃b off e,cs=[.pointer (some ⟨b,off,none⟩)]/\D.At W x e/\∀j v,e[j]?=some v->Fr W b (off+j) v
 | .ptr o off,cs=>∃b,(θ o).1=some b/\cs=[.pointer (some ⟨b,off,none⟩)]
 | .own o sz lo n,cs=>∃b p,(θ o).1=some b/\lo+n<=(θ o).2/\(θ o).2<9223372036854775808/\cs=[.slice p n ((θ o).2-lo)]/\(lo=0\/lo<(θ o).2->p=some ⟨b,lo*sz,none⟩)
 | .ow3 o sz lo n,cs=>∃b p,(θ o).1=some b/\lo+n<=(θ o).2/\(θ o).2<9223372036854775808/\cs=[.slice p n n]/\(lo=0\/0<n->p=some ⟨b,lo*sz,none⟩)
 | .gr o sz xs,cs=>∃p,cs=[.slice p xs.length (θ o).2]/\((θ o).2=0\/p=ad (θ o).1)/\xs.length<=(θ o).2/\(θ o).2<9223372036854775808/\(xs=[]\/∃b,(θ o).1=some b/\D.Row W b sz 0 xs)
 | .el o sz j off,cs=>∃b,(θ o).1=some b/\cs=[.pointer (some ⟨b,j*sz+off,none⟩)]
 | .fn f o,cs=>∃b,(θ o).1=some b/\cs=[.func (.func f) #[] #[.pointer (some ⟨b,0,none⟩)]]
 | .fm f a,cs=>∃h:List Value,AV.C W θ a h/\cs=[.func (.func f) #[] h.toArray]
 | .ap o n,cs=>∃b,(θ o).1=some b/\(θ o).2=n/\cs=[.pointer (some ⟨b,0,none⟩)]
 | .cx o lo c,cs=>cs=[.int .i64 c]/\(θ o).2=lo+c
 | .an,cs=>∃p n c,cs=[.slice p n c]
def AV.size: AV->Nat
 | .d x=>x.size
 | .st a=>a.size
 | .pr a c=>a.size+c.size
 | _=>1
def AV.ag: AV->Bool
 | .d x=>x.ag
 | .st _=>true
 | _=>false
theorem AV.c_len{W:GW}{θ:Loc}: ∀(a:AV) {cs:List Value},AV.C W θ a cs->cs.length=a.size
 | .d x,_,h=>D.at_len x h
 | .q _,_,⟨_,h,_⟩=>by rw[h];rfl
 | .b _,_,h=>by rw[show _=_ from h];rfl
 | .ub _,_,⟨_,h,_⟩=>by rw[h];rfl
 | .nil,_,⟨_,h⟩=>by rw[h];rfl
 | .lit ..,_,⟨_,h,_⟩=>by rw[h];rfl
 | .st a,_,h=>by rw[AV.size];exact AV.c_len a h
 | .pr a c,_,⟨u,v,h,i,j⟩=>by rw[h,AV.size,W0i,AV.c_len a i,AV.c_len c j]
 | .tup _,_,h=>h.elim
 | .un,_,h=>h.elim
 | .at _,_,⟨_,_,_,h,_⟩=>by rw[h];rfl
 | .ptr _ _,_,⟨_,_,h⟩=>by rw[h];rfl
 | .own ..,_,⟨_,_,_,_,_,h,_⟩=>by rw[h];rfl
 | .ow3 ..,_,⟨_,_,_,_,_,h,_⟩=>by rw[h];rfl
 | .gr ..,_,⟨_,h,_⟩=>by rw[h];rfl
 | .el ..,_,⟨_,_,h⟩=>by rw[h];rfl
 | .fn ..,_,⟨_,_,h⟩=>by rw[h];rfl
 | .fm ..,_,⟨_,_,h⟩=>by rw[h];rfl
 | .ap ..,_,⟨_,_,_,h⟩=>by rw[h];rfl
 | .cx ..,_,⟨h,_⟩=>by rw[h];rfl
 | .an,_,⟨_,_,_,h⟩=>by rw[h];rfl
theorem AV.c_one{W:GW}{θ:Loc}: ∀(a:AV) {cs:List Value},AV.C W θ a cs->∀v∈cs,Xfi v=true
 | .d x,_,h=>D.at_one x h
 | .q _,_,⟨_,h,_⟩=>by rw[h];simp[Xfi]
 | .b _,_,h=>by rw[show _=_ from h];simp[Xfi]
 | .ub _,_,⟨_,h,_⟩=>by rw[h];simp[Xfi]
 | .nil,_,⟨_,h⟩=>by rw[h];simp[Xfi]
 | .lit ..,_,⟨_,h,_⟩=>by rw[h];simp[Xfi]
 | .st a,_,h=>AV.c_one a h
 | .pr a c,_,⟨u,v,h,j,o⟩=>by
  intro w i
  rw[h] at i
  rcases W2p.1 i with i | i
  exact AV.c_one a j w i
  exact AV.c_one c o w i
 | .tup _,_,h=>h.elim
 | .un,_,h=>h.elim
 | .at _,_,⟨_,_,_,h,_⟩=>by rw[h];simp[Xfi]
 | .ptr _ _,_,⟨_,_,h⟩=>by rw[h];simp[Xfi]
 | .own ..,_,⟨_,_,_,_,_,h,_⟩=>by rw[h];simp[Xfi]
 | .ow3 ..,_,⟨_,_,_,_,_,h,_⟩=>by rw[h];simp[Xfi]
 | .gr ..,_,⟨_,h,_⟩=>by rw[h];simp[Xfi]
 | .el ..,_,⟨_,_,h⟩=>by rw[h];simp[Xfi]
 | .fn ..,_,⟨_,_,h⟩=>by rw[h];simp[Xfi]
 | .fm ..,_,⟨_,_,h⟩=>by rw[h];simp[Xfi]
 | .ap ..,_,⟨_,_,_,h⟩=>by rw[h];simp[Xfi]
 | .cx ..,_,⟨h,_⟩=>by rw[h];simp[Xfi]
 | .an,_,⟨_,_,_,h⟩=>by rw[h];simp[Xfi]
def AV.ids: AV->Nat->Prop
 | .st a,i=>a.ids i
 | .pr a c,i=>a.ids i\/c.ids i
 | .tup a,i=>a.ids i
 | .ptr o _,i=>i=o
 | .own o _ _ _,i=>i=o
 | .ow3 o _ _ _,i=>i=o
 | .gr o _ _,i=>i=o
 | .el o _ _ _,i=>i=o
 | .fn _ o,i=>i=o
 | .fm _ a,i=>a.ids i
 | .ap o _,i=>i=o
 | .cx o _ _,i=>i=o
 | _,_=>False
theorem AV.c_mono{W W':GW}{θ θ':Loc}(l:LeF W W'): ∀(a:AV) {cs:List Value},(∀i,a.ids i->θ' i=θ i)->AV.C W θ a cs->AV.C W' θ' a cs
 | .d x,_,_,h=>D.mono l x h
 | .q _,_,_,h=>h
 | .b _,_,_,h=>h
 | .ub _,_,_,h=>h
 | .nil,_,_,h=>h
 | .lit sz xs,_,_,⟨p,I,M,T⟩=>⟨p,I,M,T.imp_right λ⟨Z,U,V⟩=>⟨Z,U,D.row_mono l Z sz xs 0 V⟩⟩
 | .st a,_,hi,h=>AV.c_mono l a hi h
 | .pr a c,_,hi,⟨u,v,h,I,M⟩=>⟨u,v,h,AV.c_mono l a (λi x=>hi i (.inl x)) I,AV.c_mono l c (λi x=>hi i (.inr x)) M⟩
 | .tup _,_,_,h=>h
 | .un,_,_,h=>h
 | .at x,_,_,⟨O,off,e,h,I,M⟩=>⟨O,off,e,h,D.mono l x I,λj v hj=>l _ _ _ (M j v hj)⟩
 | .ptr o _,_,hi,⟨O,I,M⟩=>⟨O,by rw[hi o rfl];exact I,M⟩
 | .own o ..,_,hi,⟨O,p,I,M,V,T,U⟩=>by
  have e:=hi o rfl
  exact⟨O,p,by rw[e];exact I,by rw[e];exact M,by rw[e];exact V,by rw[e];exact T,by rw[e];exact U⟩
 | .ow3 o ..,_,hi,⟨O,p,I,M,V,T,U⟩=>by
  have e:=hi o rfl
  exact⟨O,p,by rw[e];exact I,by rw[e];exact M,by rw[e];exact V,T,U⟩
 | .gr o _ xs,_,hi,⟨p,I,h0,M,T,U⟩=>by
  have e:=hi o rfl
  refine⟨p,by rw[e];exact I,by rw[e];exact h0,by rw[e];exact M,by rw[e];exact T,?_⟩
  rw[e]
  exact U.imp id λ⟨O,hb,hr⟩=>⟨O,hb,D.row_mono l O _ xs 0 hr⟩
 | .el o ..,_,hi,⟨O,I,M⟩=>⟨O,by rw[hi o rfl];exact I,M⟩
 | .fn _ o,_,hi,⟨O,I,M⟩=>⟨O,by rw[hi o rfl];exact I,M⟩
 | .fm _ a,_,hi,⟨vs,I,M⟩=>⟨vs,AV.c_mono l a hi I,M⟩
 | .ap o _,_,hi,⟨O,I,M,T⟩=>⟨O,by rw[hi o rfl];exact I,by rw[hi o rfl];exact M,T⟩
 | .cx o _ _,_,hi,⟨I,M⟩=>⟨I,by rw[hi o rfl];exact M⟩
 | .an,_,_,h=>h
def AV.V1(W:GW)(θ:Loc)(a:AV)(v:Value): Prop:=∃cs,AV.C W θ a cs/\v=mkv a.ag cs
def AV.T(W:GW)(θ:Loc): AV->List Value->Prop
 | .pr a c,v::h=>AV.V1 W θ a v/\AV.T W θ c h
 | .un,[]=>True
 | a,[v]=>AV.V1 W θ a v
 | _,_=>False
def AV.V(W:GW)(θ:Loc): AV->Value->Prop
 | .tup a,v=>∃h:List Value,v=.tuple h.toArray/\AV.T W θ a h
 | .un,v=>v=undef
 | a,v=>AV.V1 W θ a v
theorem AV.V1.mono{W W':GW}{θ θ':Loc}(l:LeF W W'){a:AV}{v:Value}(hi:∀i,a.ids i->θ' i=θ i)(h:AV.V1 W θ a v): AV.V1 W' θ' a v :=
 let ⟨cs,j,e⟩:=h;⟨cs,AV.c_mono l a hi j,e⟩
theorem AV.T.mono{W W':GW}{θ θ':Loc}(l:LeF W W'): ∀ {a:AV} {vs:List Value},(∀i,a.ids i->θ' i=θ i)->AV.T W θ a vs->AV.T W' θ' a vs:=by
 intro a
 induction a with
 | pr a c _ j =>
  intro vs hi h
  match vs,h with
  | v::vs,h=>exact⟨h.1.mono l λi x=>hi i (.inl x),j (λi x=>hi i (.inr x)) h.2⟩
 | un =>
  intro vs hi h
  match vs,h with
  | [],h=>exact h
  | [v],h=>exact AV.V1.mono l hi h
 | _ =>
  intro vs hi h
  match vs,h with
  | [v],h=>exact AV.V1.mono l hi h
theorem AV.V.mono{W W':GW}{θ θ':Loc}(l:LeF W W'){a:AV}{v:Value}(hi:∀i,a.ids i->θ' i=θ i)(h:AV.V W θ a v): AV.V W' θ' a v:=by
 cases a with
 | tup a=>obtain⟨j,e,h⟩:=h;exact⟨j,e,h.mono l hi⟩
 | un=>exact h
 | _=>exact AV.V1.mono l hi h
def Ob.R(W:GW)(θ:Loc)(o:Nat): Ob->Prop
 | .var a=>∃b cs T,(θ o).1=some b/\W.w.heap[b]?=some (.cells (cs:List Value).toArray T (0,0))/\AV.C W θ a cs/\∀i,W.A b i
 | .arr sz xs=>∃b cs T,(θ o).1=some b/\W.w.heap[b]?=some (.cells (cs:List Value).toArray T (0,0))/\cs.length=(θ o).2*sz/\(θ o).2<9223372036854775808/\xs.length<=(θ o).2 /\
  (∀i x,xs[i]?=some x->∃e,D.At W x e/\x.size=sz/\∀j v,e[j]?=some v->cs[i*sz+j]?=some v)/\∀i,W.A b i
 | .tok n sz=>n<=(θ o).2/\(θ o).2<9223372036854775808/\(((θ o).1=none/\(θ o).2=0) \/
  ∃b cs T,(θ o).1=some b/\W.w.heap[b]?=some (.cells (cs:List Value).toArray T (0,0))/\cs.length=(θ o).2*sz/\∀i,n*sz<=i->W.A b i)
 | .dead=>True
def Ob.live: Ob->Bool
 | .dead=>false
 | _=>true
def Ob.ids: Ob->Nat->Prop
 | .var a,i=>a.ids i
 | _,_=>False
theorem Ob.R.keep{W W':GW}{θ θ':Loc}(l:LeF W W'){o:Nat}{x:Ob}(I:θ' o=θ o)(hi:∀i,x.ids i->θ' i=θ i)(h:x.R W θ o)
 (V:x.live=true->∀b,(θ o).1=some b->W'.w.heap[b]?=W.w.heap[b]?/\∀i,W.A b i->W'.A b i):x.R W' θ' o:=by
 cases x with
 | var a =>
  obtain⟨b,cs,T,M,j,O,U⟩:=h
  have k:=V rfl b M
  exact⟨b,cs,T,by rw[I];exact M,by rw[k.1];exact j,AV.c_mono l a hi O,λi=>k.2 i (U i)⟩
 | arr sz xs =>
  obtain⟨b,cs,T,M,j,O,U,Z,h6,h7⟩:=h
  have k:=V rfl b M
  exact⟨b,cs,T,by rw[I];exact M,by rw[k.1];exact j,by rw[I];exact O,by rw[I];exact U,by rw[I];exact Z,
   λi x hx=>let ⟨e,e1,e2,e3⟩:=h6 i x hx;⟨e,D.mono l x e1,e2,e3⟩,λi=>k.2 i (h7 i)⟩
 | tok n sz =>
  obtain⟨h0,M,j⟩:=h
  refine⟨by rw[I];exact h0,by rw[I];exact M,?_⟩
  rw[I]
  rcases j with j | ⟨b,cs,T,j,O,U,Z⟩
  exact .inl j
  have k:=V rfl b j
  exact .inr ⟨b,cs,T,j,by rw[k.1];exact O,U,λi hi=>k.2 i (Z i hi)⟩
 | dead=>trivial
abbrev Ev:=Nat->Option AV
abbrev Hp:=Nat->Option Ob
def upd{α:Type _}(f:Nat->Option α)(d:Nat)(x:α): Nat->Option α:=λt=>match Nat.beq t d with | true=>some x | false=>f t
theorem Xai{α:Type _}(f:Nat->Option α)(d:Nat)(x:α): upd f d x d=some x:=by simp[upd]
theorem Ydi{a b:Nat}(h:¬a=b): Nat.beq a b=false:=by
 cases e:Nat.beq a b with
 | false=>rfl
 | true=>exact absurd (W0c e) h
theorem Xak{α:Type _}{f:Nat->Option α}{d t:Nat}{x:α}(h:t≠d): upd f d x t=f t:=by simp[upd,Ydi h]
theorem Xae{α:Type _}{f:Nat->Option α}{d t:Nat}{x y:α}(h:upd f d x t=some y): (t=d/\y=x)\/(t≠d/\f t=some y):=by
 by_cases e:t=d
 subst e;rw[Xai] at h;injection h with h;exact .inl ⟨rfl,h.symm⟩
 rw[Xak e] at h;exact .inr ⟨e,h⟩
theorem Xh0{α:Type _}{f:Nat->Option α}{d t:Nat}{x y:α}(h:d≠t): upd (upd f d x) t y=upd (upd f t y) d x:=by
 funext s
 by_cases i:s=d
 subst i;rw[Xak h,Xai,Xai]
 rw[Xak (f:=upd f t y) i]
 by_cases j:s=t
 subst j;rw[Xai,Xai]
 rw[Xak j,Xak j,Xak i]
def Xbj(g:Hp): List (Nat×Ob)->Hp
 | []=>g
 | (o,x)::l=>upd (Xbj g l) o x
structure Fm (W0 W:GW) (X:Nat->Prop):Prop where
 os:W.w.os=W0.w.os
 out:W.w.output=W0.w.output
 tape:W.w.tape=W0.w.tape
 size:W0.size<=W.size
 same:∀b,b<W0.size->¬X b->W.w.heap[b]?=W0.w.heap[b]?
 A:∀b,b<W0.size->¬X b->∀i,W.A b i↔W0.A b i
 le:LeF W0 W
theorem Fm.refl(W:GW)(X:Nat->Prop): Fm W W X:=⟨rfl,rfl,rfl,W0a _,λ_ _ _=>rfl,λ_ _ _ _=>W4a,LeF.refl W⟩
structure Obs (W:GW) (θ:Loc) (N:Nat->Prop) (g:Hp):Prop where
 r:∀o x,g o=some x->x.R W θ o
 new:∀o x b,g o=some x->x.live=true->(θ o).1=some b->N b
 dis:∀o o' x x' b,g o=some x->g o'=some x'->x.live=true->x'.live=true->(θ o).1=some b->(θ o').1=some b->o=o'
 ids:∀o x i,g o=some x->x.ids i->∃y,g i=some y
structure Rel (W:GW) (θ:Loc) (n:Nat) (e:Ev) (a:Act):Prop where
 defers:a.defers=[]
 size:a.tmps.size=n
 has:∀t v,e t=some v->AV.V W θ v (a.tmps.getD t undef)
structure Sat (W0:GW) (X:Nat->Prop) (n:Nat) (s:Ev×Hp) (a:Act) (W:GW) (θ:Loc):Prop where
 fm:Fm W0 W X
 rel:Rel W θ n s.1 a
 obs:Obs W θ (λb=>W0.size<=b\/X b) s.2
 ids:∀t v i,s.1 t=some v->v.ids i->∃y,s.2 i=some y
end
section
def D.comps: D->List D
 | .pr a c=>a::c.comps
 | x=>[x]
structure TI where
 z:D
 e:D:=.bool false
 eb:Nat:=0
 arr:Nat:=0
def Xhv: List D->Nat->Nat
 | _,0=>0
 | [],_=>0
 | x::l,f+1=>x.size+Xhv l f
def Ybz: TypeDesc->Bool
 | .struct _ | .array _ _=>true
 | _=>false
def Yp5(P:Program)(E:TypeId)(z:D)(h:Nat): Prop:=∃i v,P.info? E=some i/\i.size=z.size/\i.bytes=h/\i.zero=some v/\v.cells.toList=z.zc
def Ym0(P:Program)(fs:Array Field)(l:List D): Prop :=
 fs.size=l.length/\∀f c,l[f]?=some c->∃g i,fs[f]?=some g/\g.offset=Xhv l f/\P.info? g.type=some i/\i.size=c.size/\∃t,P.underlying g.type=some t/\Ybz t=c.ag/\(c.ag=false->c.size=1)
structure TyOk (P:Program) (T:TypeId) (ti:TI):Prop where
 k:∀E k z,P.underlying T=some (.slice E)->ti.e=.int k z->P.underlying E=some (.int k)
 i:∃i v,P.info? T=some i/\i.size=ti.z.size/\i.zero=some v/\v.cells.toList=ti.z.zc/\v=mkv ti.z.ag ti.z.zc
 z:ti.z.isZ=true
 u:∃t,P.underlying T=some t/\Ybz t=ti.z.ag/\match ti.z with
  | .int k _=>t=.int k
  | .bool _=>t=.bool
  | .str _=>t=.string
  | .sl sz _=>∃E,t=.slice E/\sz=ti.e.size/\ti.e.isZ=true/\Yp5 P E ti.e ti.eb
  | .st z=>if ti.arr=0 then ∃fs,t=.struct fs/\Ym0 P fs z.comps else ∃E,t=.array ti.arr E/\Yp5 P E ti.e ti.eb
  | _=>True
class Tab (P:Program) where
 tb:Nat->Option TI
 ok:∀T ti,tb T=some ti->TyOk P T ti
noncomputable def dc(p:Prop): Bool:=@decide p (Classical.propDecidable p)
theorem Xaj{p:Prop}: dc p=true↔p:=by unfold dc;simp
def nb: D->AV
 | .bool c=>.b c
 | x=>.d x
def stN: AV->AV
 | .d x=>.d (.st x)
 | a=>.st a
def prN: AV->AV->AV
 | .d x,.d y=>.d (.pr x y)
 | a,c=>.pr a c
def zA: D->AV
 | .bool _=>.b false
 | .sl _ _=>.nil
 | .st x=>stN (zA x)
 | .pr x y=>prN (zA x) (zA y)
 | x=>.d x
open Classical in
noncomputable def toD: D->AV->Option D
 | _,.d x=>some x
 | _,.b c=>some (.bool c)
 | _,.q p=>some (.bool (decide p))
 | .sl sz _,.nil=>some (.sl sz [])
 | _,.lit sz xs=>some (.sl sz xs)
 | _,.gr _ sz xs=>some (.sl sz xs)
 | .st z,.st a=>match toD z a with
  | some x=>some (.st x)
  | none=>none
 | .pr h i,.pr a c=>match toD h a,toD i c with
  | some x,some y=>some (.pr x y)
  | _,_=>none
 | _,_=>none
def fit(s:Nat)(g:Bool)(x:D): Bool:=Nat.beq x.size s&&(x.ag==g)
def Yau(s:Nat)(g:Bool)(a:AV): Bool:=Nat.beq a.size s&&(a.ag==g)
def Xqw(s:Nat)(g:Bool): D->Nat->Option D
 | .st x,0=>match fit s g (.st x) with
  | true=>some (.st x)
  | false=>Xqw s g x 0
 | .st x,off=>Xqw s g x off
 | .pr x y,off=>match Nat.blt off x.size with
  | true=>Xqw s g x off
  | false=>Xqw s g y (off-x.size)
 | x,0=>match fit s g x with
  | true=>some x
  | false=>none
 | _,_=>none
def Xtd(s:Nat)(g:Bool): AV->Nat->Option AV
 | .d x,off=>match Xqw s g x off with
  | some y=>some (nb y)
  | none=>none
 | .st a,0=>match Yau s g (.st a) with
  | true=>some (.st a)
  | false=>Xtd s g a 0
 | .st a,off=>Xtd s g a off
 | .pr a c,off=>match Nat.blt off a.size with
  | true=>Xtd s g a off
  | false=>Xtd s g c (off-a.size)
 | a,0=>match Yau s g a with
  | true=>some a
  | false=>none
 | _,_=>none
def Xur(v:AV): D->Nat->Option AV
 | .st x,0=>match fit v.size v.ag (.st x) with
  | true=>some v
  | false=>match Xur v x 0 with
   | some a=>some (stN a)
   | none=>none
 | .st x,off=>match Xur v x off with
  | some a=>some (stN a)
  | none=>none
 | .pr x y,off=>match Nat.blt off x.size with
  | true=>match Xur v x off with
   | some a=>some (prN a (.d y))
   | none=>none
  | false=>match Xur v y (off-x.size) with
   | some a=>some (prN (.d x) a)
   | none=>none
 | x,0=>match fit v.size v.ag x with
  | true=>some v
  | false=>none
 | _,_=>none
def Xs8(v:AV): AV->Nat->Option AV
 | .d x,off=>Xur v x off
 | .st x,0=>match Yau v.size v.ag (.st x) with
  | true=>some v
  | false=>match Xs8 v x 0 with
   | some a=>some (stN a)
   | none=>none
 | .st x,off=>match Xs8 v x off with
  | some a=>some (stN a)
  | none=>none
 | .pr x y,off=>match Nat.blt off x.size with
  | true=>match Xs8 v x off with
   | some a=>some (prN a y)
   | none=>none
  | false=>match Xs8 v y (off-x.size) with
   | some a=>some (prN x a)
   | none=>none
 | x,0=>match Yau v.size v.ag x with
  | true=>some v
  | false=>none
 | _,_=>none
def Ydz: D->Nat->Option D
 | .pr a _,0=>some a
 | .pr _ c,f+1=>Ydz c f
 | x,0=>some x
 | _,_=>none
def Yfu: AV->Nat->Option AV
 | .pr a _,0=>some a
 | .pr _ c,i+1=>Yfu c i
 | .un,_=>none
 | a,0=>some a
 | _,_=>none
def asP: AV->Option Prop
 | .q p=>some p
 | .b c=>some (c=true)
 | .d (.bool c)=>some (c=true)
 | _=>none
noncomputable def Ynk(op:BinOp)(k:IntKind)(a b:Int): Option AV :=
 match op with
 | .add=>some (.d (.int k (k.wrap (a+b))))
 | .sub=>some (.d (.int k (k.wrap (a-b))))
 | .mul=>some (.d (.int k (k.wrap (a*b))))
 | .quo=>if b=0 then none else some (.d (.int k (k.wrap (a.tdiv b))))
 | .rem=>if b=0 then none else some (.d (.int k (a.tmod b)))
 | .and=>some (.d (.int k (k.wrap (BitVec.ofInt k.bits a&&&BitVec.ofInt k.bits b).toNat)))
 | .or=>some (.d (.int k (k.wrap (BitVec.ofInt k.bits a|||BitVec.ofInt k.bits b).toNat)))
 | .xor=>some (.d (.int k (k.wrap (BitVec.ofInt k.bits a^^^BitVec.ofInt k.bits b).toNat)))
 | .andNot=>some (.d (.int k (k.wrap (BitVec.ofInt k.bits a &&& ~~~BitVec.ofInt k.bits b).toNat)))
 | .eql=>some (.b (dc (a=b)))
 | .neq=>some (.b (dc (a≠b)))
 | .lss=>some (.b (dc (a<b)))
 | .leq=>some (.b (dc (a<=b)))
 | .gtr=>some (.b (dc (a>b)))
 | .geq=>some (.b (dc (a>=b)))
 | _=>none
def Ygh: AV->Bool
 | .d (.sl _ _) | .nil | .lit _ _ | .own _ _ _ _ | .ow3 _ _ _ _ | .gr _ _ _=>true
 | _=>false
def Ypc: AV->Prop
 | .d (.sl _ xs)=>xs=[]
 | .gr _ _ xs=>xs=[]
 | .lit _ xs=>xs=[]
 | _=>True
noncomputable def Yb6(h:Option TI)(op:BinOp)(y:Operand): AV->AV->Option AV
 | .d (.int k a),.d (.int i b)=>match op with
  | .shl=>if b<0 then none else some (.d (.int k (k.wrap (a*2^(min b.toNat k.bits)))))
  | .shr=>if b<0 then none else some (.d (.int k (a.fdiv (2^(min b.toNat k.bits)))))
  | op=>if k=i then Ynk op k a b else none
 | .d (.str a),.d (.str b)=>match op with
  | .add=>if a.length+b.length<9223372036854775808 then some (.d (.str (a++b))) else none
  | .eql=>some (.b (dc (a=b)))
  | .neq=>some (.b (dc (a≠b)))
  | _=>none
 | a,c=>match h with
  | some ⟨.bool _,_,_,_⟩=>match asP a,asP c with
   | some p,some q=>match op with
    | .eql=>some (.b (dc (p↔q)))
    | .neq=>some (.b (dc (¬(p↔q))))
    | _=>none
   | _,_=>none
  | some ⟨.sl _ _,_,_,_⟩=>match op,y,Ygh a with
   | .eql,.const (.slice none 0 0),true=>some (.ub (Ypc a))
   | .neq,.const (.slice none 0 0),true=>some (.ub True)
   | _,_,_=>none
  | _=>none
def Yq4: AV->Option Nat
 | .d (.sl _ xs)=>some xs.length
 | .gr _ _ xs=>some xs.length
 | .lit _ xs=>some xs.length
 | .nil=>some 0
 | .own _ _ _ n=>some n
 | .ow3 _ _ _ n=>some n
 | _=>none
def slA(lo:Option Int)(hi:Option Int): AV->Option AV
 | .d (.sl sz xs)=>slL sz xs lo hi
 | .gr _ sz xs=>slL sz xs lo hi
 | .lit sz xs=>slL sz xs lo hi
 | .own o sz l n=>match lo,hi with
  | none,none=>some (.own o sz l n)
  | none,some h=>if 0<=h/\h<=n then some (.own o sz l h.toNat) else none
  | some i,none=>if 0<=i/\i<=n then some (.own o sz (l+i.toNat) (n-i.toNat)) else none
  | some i,some h=>if 0<=i/\i<=h/\h<=n then some (.own o sz (l+i.toNat) (h.toNat-i.toNat)) else none
 | .ow3 o sz l n=>match lo,hi with
  | none,none=>some (.ow3 o sz l n)
  | some i,none=>if 0<=i/\i<=n then some (.ow3 o sz (l+i.toNat) (n-i.toNat)) else none
  | _,_=>none
 | .nil=>match lo,hi with
  | none,none=>some .nil
  | none,some h=>if h=0 then some .nil else none
  | some i,none=>if i=0 then some .nil else none
  | some i,some h=>if i=0/\h=0 then some .nil else none
 | _=>none
where slL (sz:Nat) (xs:List D):Option Int->Option Int->Option AV
 | none,none=>some (.d (.sl sz xs))
 | none,some h=>if 0<=h/\h<=xs.length then some (.d (.sl sz (xs.take h.toNat))) else none
 | some i,none=>if 0<=i/\i<=xs.length then some (.d (.sl sz (xs.drop i.toNat))) else none
 | some i,some h=>if 0<=i/\i<=h/\h<=xs.length then some (.d (.sl sz ((xs.drop i.toNat).take (h.toNat-i.toNat)))) else none
def sl3(h m:Int): AV->Option AV
 | .own o sz l n=>if 0<=h/\h<=n/\m=h then some (.ow3 o sz l h.toNat) else none
 | .ow3 o sz l n=>if 0<=h/\h<=n/\m=h then some (.ow3 o sz l h.toNat) else none
 | _=>none
def Yqa(s:Nat): AV->Bool
 | .d (.sl s' _)=>Nat.beq s' s
 | .gr _ s' _=>Nat.beq s' s
 | .lit s' _=>Nat.beq s' s
 | .own _ s' _ _=>Nat.beq s' s
 | .ow3 _ s' _ _=>Nat.beq s' s
 | _=>true
def Xkb(lo hi h:Option Operand): List AV->Option (AV×Option Int×Option Int×Option Int)
 | [x]=>match lo,hi,h with
  | none,none,none=>some (x,none,none,none)
  | _,_,_=>none
 | [x,.d (.int _ a)]=>match lo,hi,h with
  | some _,none,none=>some (x,some a,none,none)
  | none,some _,none=>some (x,none,some a,none)
  | _,_,_=>none
 | [x,.d (.int _ a),.d (.int _ b)]=>match lo,hi,h with
  | some _,some _,none=>some (x,some a,some b,none)
  | none,some _,some _=>some (x,none,some a,some b)
  | _,_,_=>none
 | _=>none
def ixA(ti:TI)(j:Int): AV->Option AV
 | .d (.sl sz xs)=>ixL sz xs
 | .gr _ sz xs=>ixL sz xs
 | .lit sz xs=>ixL sz xs
 | .own o sz l n=>if 0<=j/\j<n/\sz=ti.e.size then some (.el o sz (l+j.toNat) 0) else none
 | .ow3 o sz l n=>if 0<=j/\j<n/\sz=ti.e.size then some (.el o sz (l+j.toNat) 0) else none
 | _=>none
where ixL (sz:Nat) (xs:List D):Option AV :=
 if 0<=j/\sz=ti.e.size then match xs[j.toNat]? with
  | some u=>some (.at u)
  | none=>none
 else none
def Yhg: List D->Option (List UInt8)
 | []=>some []
 | .int .u8 z::l=>match Yhg l with
  | some s=>some (UInt8.ofNat z.toNat::s)
  | none=>none
 | _=>none
def Ym9: AV->Option (List UInt8)
 | .d (.sl 1 xs) | .lit 1 xs=>Yhg xs
 | _=>none
def slS(s:List UInt8): Option Int->Option Int->Option AV
 | none,none=>some (.d (.str s))
 | none,some h=>if 0<=h/\h<=s.length then some (.d (.str (s.take h.toNat))) else none
 | some i,none=>if 0<=i/\i<=s.length then some (.d (.str (s.drop i.toNat))) else none
 | some i,some h=>if 0<=i/\i<=h/\h<=s.length then some (.d (.str ((s.drop i.toNat).take (h.toNat-i.toNat)))) else none
def Ydc: AV->Bool
 | .ptr _ _ | .d (.int ..) | .d (.str _) | .d (.bool _) | .d (.raw _) | .b _=>true
 | _=>false
def chA: List AV->Option AV
 | []=>none
 | [a]=>match Ydc a with
  | true=>some a
  | false=>none
 | a::l=>match Ydc a,chA l with
  | true,some c=>some (.pr a c)
  | _,_=>none
def okA: AV->Bool
 | .pr a c=>Ydc a&&okA c
 | a=>Ydc a
def unA: AV->List AV
 | .pr a c=>a::unA c
 | a=>[a]
def plain: AV->Bool
 | .pr _ _ | .tup _ | .un | .d (.pr _ _)=>false
 | _=>true
noncomputable def Ye0(z:D)(sz:Nat): List AV->Option (List D)
 | []=>some []
 | a::l=>match toD z a with
  | none=>none
  | some x=>match plain a&&Nat.beq x.size sz&&Nat.beq a.size sz&&(a.ag||Nat.beq sz 1) with
   | false=>none
   | true=>match Ye0 z sz l with
    | none=>none
    | some xs=>some (x::xs)
def Xtr: Nat->List (Nat×Operand)->Bool
 | _,[]=>true
 | k,(i,_)::l=>Nat.beq i k&&Xtr (k+1) l
def Xub: AV->Nat->AV->Option AV
 | .pr a c,0,v=>match Yau a.size a.ag v with
  | true=>some (.pr v c)
  | false=>none
 | .pr a c,f+1,v=>match Xub c f v with
  | some c'=>some (.pr a c')
  | none=>none
 | a,0,v=>match Yau a.size a.ag v with
  | true=>some v
  | false=>none
 | _,_,_=>none
def Xo9: AV->List (Nat×Operand)->List AV->Option AV
 | a,[],[]=>some a
 | a,(i,_)::l,v::h=>match plain v,Xub a i v with
  | true,some j=>Xo9 j l h
  | _,_=>none
 | _,_,_=>none
def zP: D->AV
 | .pr x y=>.pr (zA x) (zP y)
 | x=>zA x
def Yac: AV->AV
 | .pr a c=>prN a (Yac c)
 | a=>a
def Ymj(ti:TI)(z:D): Bool:=match ti.arr with
 | 0=>true
 | _+1=>z.comps.all λc=>Nat.beq c.size ti.e.size&&(c.ag||Nat.beq c.size 1)
noncomputable def Fp(tb:Nat->Option TI)(op:Op)(args:List AV): Option AV :=
 match op with
 | .move _ | .assign _=>match args with
  | [a]=>some a
  | _=>none
 | .pick _ _ _=>match args with
  | [.b true,a,_]=>some a
  | [.b false,_,c]=>some c
  | _=>none
 | .extract _ i=>match args with
  | [.tup a]=>Yfu a i
  | _=>none
 | .unOp .not _ _=>match args with
  | [.b c]=>some (.b (!c))
  | [.q p]=>some (.q (¬p))
  | _=>none
 | .unOp .neg _ _=>match args with
  | [.d (.int k z)]=>some (.d (.int k (k.wrap (0-z))))
  | _=>none
 | .binOp op T _ y _=>match args with
  | [a,c]=>Yb6 (tb T) op y a c
  | _=>none
 | .convert S T _=>match args with
  | [.d (.int _ z)]=>match tb S,tb T with
   | some _,some ⟨.int k _,_,_,_⟩=>some (.d (.int k (k.wrap z)))
   | _,_=>none
  | [a]=>match tb S,tb T with
   | some ⟨.sl _ _,.int .u8 _,_,_⟩,some ⟨.str _,_,_,_⟩=>match Ym9 a with
    | some s=>some (.d (.str s))
    | none=>none
   | _,_=>none
  | _=>none
 | .call ⟨.builtin .len,_,M⟩=>match args,M[0]? with
  | [a],some T=>match tb T with
   | some ⟨.sl _ _,_,_,_⟩=>match Yq4 a with
    | some n=>some (.d (.int .i64 n))
    | none=>none
   | some ⟨.str _,_,_,_⟩=>match a with
    | .d (.str s)=>some (.d (.int .i64 s.length))
    | _=>none
   | _=>none
  | _,_=>none
 | .call ⟨.builtin .cap,_,M⟩=>match args,M[0]? with
  | [.nil],some T=>match tb T with
   | some ⟨.sl _ _,_,_,_⟩=>some (.d (.int .i64 0))
   | _=>none
  | _,_=>none
 | .call ⟨.builtin .min,_,_⟩=>match args with
  | [.d (.int k x),.d (.int O y)]=>if k=O then some (.d (.int k (if y<x then y else x))) else none
  | _=>none
 | .call ⟨.builtin .max,_,_⟩=>match args with
  | [.d (.int k x),.d (.int O y)]=>if k=O then some (.d (.int k (if y>x then y else x))) else none
  | _=>none
 | .nilCheck _=>match args with
  | [.ptr o off]=>some (.ptr o off)
  | _=>none
 | .fieldAddr T _ f=>match tb T with
  | some I=>match I.z,I.arr with
   | .st z,0=>match Nat.blt f z.comps.length with
    | false=>none
    | true=>match args with
     | [.at (.st x)]=>match Nat.beq (Xhv x.comps f) (Xhv z.comps f),Ydz x f with
      | true,some y=>some (.at y)
      | _,_=>none
     | [.ptr o off]=>some (.ptr o (off+Xhv z.comps f))
     | [.el o sz j off]=>some (.el o sz j (off+Xhv z.comps f))
     | _=>none
   | _,_=>none
  | none=>none
 | .field T _ f=>match tb T with
  | some I=>match I.z,I.arr with
   | .st z,0=>match args with
    | [.d (.st x)]=>match Xqw ((z.comps[f]?).getD (.bool false)).size ((z.comps[f]?).getD (.bool false)).ag x (Xhv z.comps f),Nat.blt f z.comps.length with
     | some y,true=>some (nb y)
     | _,_=>none
    | [.st x]=>match Xtd ((z.comps[f]?).getD (.bool false)).size ((z.comps[f]?).getD (.bool false)).ag x (Xhv z.comps f),Nat.blt f z.comps.length with
     | some y,true=>some y
     | _,_=>none
    | _=>none
   | _,_=>none
  | none=>none
 | .indexAddr T _ _=>match tb T,args with
  | some I,[a,.d (.int _ j)]=>match I.z,a with
   | .sl _ _,a=>ixA I j a
   | .st _,.ptr o off=>if 0<=j/\j<I.arr then some (.ptr o (off+j.toNat*I.e.size)) else none
   | _,_=>none
  | _,_=>none
 | .slice T _ lo hi U=>match tb T with
  | some I=>match I.z,Xkb lo hi U args with
   | .sl _ _,some (a,l,h,none)=>match Yqa I.e.size a with
    | true=>slA l h a
    | false=>none
   | .sl _ _,some (a,none,some h,some m)=>if h=0/\m=0/\Ygh a then some .nil else sl3 h m a
   | .str _,some (.d (.str s),l,h,none)=>slS s l h
   | _,_=>none
  | none=>none
 | .build T ps=>match tb T with
  | some I=>match I.z with
   | .st z=>match Ymj I z,Xo9 (zP z) ps.toList args with
    | true,some a=>some (stN (Yac a))
    | _,_=>none
   | _=>none
  | none=>none
 | .buildSlice T n ps=>match tb T with
  | some I=>match I.z with
   | .sl sz _=>match Nat.ble (n*sz) 16777216&&Nat.beq ps.size n&&Xtr 0 ps.toList,Ye0 I.e sz args with
    | true,some xs=>some (.lit sz xs)
    | _,_=>none
   | _=>none
  | none=>none
 | .index T _ _=>match tb T,args with
  | some ⟨.str _,_,_,_⟩,[.d (.str s),.d (.int _ j)]=>if 0<=j then match s[j.toNat]? with
   | some b=>some (.d (.int .u8 b.toNat))
   | none=>none
   else none
  | _,_=>none
 | .makeFunc fn ⟨[]⟩ ⟨l⟩=>match fn,l,args with
  | fn,[],_=>some (.d (.raw (.func fn #[] #[])))
  | .func f,[_],[.ptr o 0]=>some (.fn f o)
  | .func f,_::_::_,_=>match chA args with
   | some a=>some (.fm f a)
   | none=>none
  | _,_,_=>none
 | _=>none
def Xiw(n:Nat)(ti:TI): Prop:=n*ti.eb<=140737488355328/\n<9223372036854775808
noncomputable def Xh3(g:Hp)(z:D)(sz:Nat): AV->Option (List D)
 | .own o s l n=>match g o with
  | some (.arr s' h)=>if s'=sz/\s=sz/\l+n<=h.length then some ((h.drop l).take n) else none
  | _=>none
 | .ow3 o s l n=>match g o with
  | some (.arr s' h)=>if s'=sz/\s=sz/\l+n<=h.length then some ((h.drop l).take n) else none
  | _=>none
 | c=>match toD z c with
  | some (.sl s h)=>if s=sz then some h else none
  | _=>none
open Classical in
noncomputable def Xj3(d:Nat)(g:Hp)(ti:TI)(sz:Nat)(ys:List D): AV->Option (AV×List (Nat×Ob))
 | .nil=>if Xiw ys.length ti then some (.gr d sz ys,[(d,.tok ys.length sz)]) else none
 | .lit s xs=>if Xiw (xs.length+ys.length) ti/\0<ys.length/\s=sz then some (.own d sz 0 (xs.length+ys.length),[(d,.arr sz (xs++ys))]) else if Xiw (xs.length+ys.length) ti/\ys.length=0/\s=sz then some (.lit s xs,[]) else none
 | .gr o s xs=>match g o with
  | some (.tok n s')=>if Xiw (xs.length+ys.length) ti/\n=xs.length/\s=sz/\s'=sz then some (.gr d sz (xs++ys),[(d,.tok (xs.length+ys.length) sz),(o,.dead)]) else none
  | _=>none
 | .own o s l n=>match g o with
  | some (.arr s' xs)=>if Xiw (xs.length+ys.length) ti/\l=0/\n=xs.length/\s=sz/\s'=sz then some (.own d sz 0 (xs.length+ys.length),[(d,.arr sz (xs++ys)),(o,.dead)]) else if Xiw (n+ys.length) ti/\l=0/\n+ys.length<=xs.length/\s=sz/\s'=sz then some (.own o sz 0 (n+ys.length),[(o,.arr sz (xs.take n++ys++xs.drop (n+ys.length)))]) else none
  | _=>none
 | .ow3 o s l n=>match g o with
  | some (.arr s' xs)=>if Xiw (n+ys.length) ti/\l=0/\n<=xs.length/\s=sz/\s'=sz then if ys.length=0 then some (.ow3 o s 0 n,[]) else some (.own d sz 0 (n+ys.length),[(d,.arr sz (xs.take n++ys))]) else none
  | _=>none
 | _=>none
noncomputable def Yi9(g:Hp)(z:D)(sz n:Nat): AV->Option (List D)
 | .own o s l m=>match g o with
  | some (.arr s' h)=>if s'=sz/\s=sz/\l+min m n<=h.length then some ((h.drop l).take (min m n)) else none
  | _=>none
 | c=>Xh3 g z sz c
open Classical in
noncomputable def Yno(g:Hp)(sz:Nat)(ys:List D): AV->Option (AV×List (Nat×Ob))
 | .own o s l n=>match g o with
  | some (.arr s' xs)=>if s=sz/\s'=sz/\l<=xs.length/\ys.length<=n/\0<ys.length then some (.d (.int .i64 ys.length),[(o,.arr sz (xs.take l++ys++xs.drop (l+ys.length)))]) else none
  | _=>none
 | _=>none
open Classical in
noncomputable def F(tb:Nat->Option TI)(d:Nat)(g:Hp)(op:Op)(args:List AV): Option (AV×List (Nat×Ob)) :=
 match op with
 | .load T _=>match tb T with
  | some h=>match args with
   | [.at x]=>match fit h.z.size h.z.ag x with
    | true=>some (nb x,[])
    | false=>none
   | [.ptr o off]=>match g o with
    | some (.var a)=>match Xtd h.z.size h.z.ag a off with
     | some y=>some (y,[])
     | none=>none
    | _=>none
   | [.el o sz j off]=>match g o with
    | some (.arr i xs)=>if sz=i then match xs[j]? with
     | some x=>match Xqw h.z.size h.z.ag x off with
      | some y=>some (nb y,[])
      | none=>none
     | none=>none
     else none
    | _=>none
   | _=>none
  | none=>none
 | .store T _ _=>match tb T with
  | some h=>match args with
   | [.ptr o off,v]=>match g o with
    | some (.var a)=>match plain v&&Nat.beq v.size h.z.size,Xs8 v a off with
     | true,some M=>some (.ub True,[(o,.var M)])
     | _,_=>none
    | _=>none
   | [.el o sz j 0,v]=>match g o with
    | some (.arr i xs)=>match toD h.z v with
     | some x=>if plain v=true/\sz=i/\v.size=sz/\x.size=sz/\h.z.size=sz/\j<xs.length then some (.ub True,[(o,.arr sz (xs.set j x))]) else none
     | none=>none
    | _=>none
   | _=>none
  | none=>none
 | .alloc T=>match tb T,g d,args with
  | some h,none,[]=>some (.ptr d 0,[(d,.var (zA h.z))])
  | _,_,_=>none
 | .box T _=>match g d,args with
  | none,[a]=>match plain a with
   | true=>some (.ptr d 0,[(d,.var a)])
   | false=>none
  | _,_=>none
 | .makeSlice T _ _=>match tb T,g d,args with
  | some h,none,[.d (.int _ m),.d (.int _ c)]=>match h.z with
   | .sl sz _=>if 0<=m/\m<=c/\Xiw c.toNat h then some (.own d sz 0 m.toNat,[(d,.arr sz (List.replicate m.toNat h.e))]) else none
   | _=>none
  | _,_,_=>none
 | .call ⟨.builtin .append,_,⟨[T,T']⟩⟩=>match args with
  | [a,c]=>if T=T' then match tb T,g d with
   | some h,none=>match h.z with
    | .sl sz _=>match Xh3 g h.z sz c with
     | some I=>Xj3 d g h sz I a
     | none=>none
    | _=>none
   | _,_=>none
   else none
  | _=>none
 | .call ⟨.builtin .copy,_,⟨[T,T']⟩⟩=>match args with
  | [.own o s l n,c]=>if T=T' then match tb T with
   | some h=>match h.z with
    | .sl sz _=>match Yi9 g h.z sz n c with
     | some I=>Yno g sz I (.own o s l n)
     | none=>none
    | _=>none
   | none=>none
   else none
  | _=>none
 | op=>match Fp tb op args with
  | some v=>some (v,[])
  | none=>none
end
section
variable{W:GW}{θ:Loc}
theorem Yng{a b:Nat}(h:Nat.blt a b=false): ¬a<b:=λi=>by rw[show Nat.blt a b=true from W6b i] at h;cases h
theorem Ynh: ∀ {x:D} {cs:List Value},D.At W x cs->AV.C W θ (nb x) cs
 | .bool c,cs,h=>h
 | .int ..,_,h | .str _,_,h | .raw _,_,h | .sl ..,_,h | .st _,_,h | .pr ..,_,h=>h
theorem Xpj(x:D): (nb x).size=x.size:=by cases x<;>rfl
theorem Yfy(x:D): (nb x).ag=x.ag:=by cases x<;>rfl
theorem Xng(x:D)(i:Nat): ¬(nb x).ids i:=by cases x<;>exact id
theorem Xzm{a:AV}{cs:List Value}(h:AV.C W θ a cs): AV.C W θ (stN a) cs:=by cases a<;>exact h
theorem Xlg{a:AV}{i:Nat}(h:(stN a).ids i): a.ids i:=by cases a<;>exact h
theorem Xqz(a:AV): (stN a).ag=true:=by cases a<;>rfl
theorem Xzl(a:AV): (stN a).size=a.size:=by cases a<;>rfl
theorem Xz3{a c:AV}{u v:List Value}(h:AV.C W θ a u)(k:AV.C W θ c v): AV.C W θ (prN a c) (u++v):=by
 unfold prN;split
 exact⟨u,v,rfl,h,k⟩
 exact⟨u,v,rfl,h,k⟩
theorem Xlv{a c:AV}{i:Nat}(h:(prN a c).ids i): a.ids i\/c.ids i:=by
 unfold prN at h;split at h
 exact h.elim
 exact h
theorem Xz2(a c:AV): (prN a c).size=a.size+c.size:=by
 unfold prN;split<;>rfl
theorem Yj1(a c:AV): (prN a c).ag=false:=by
 unfold prN;split<;>rfl
theorem Yeg: ∀ {x:D},x.isZ=true->AV.C W θ (zA x) x.zc
 | .bool c,h=>by
  have:c=false:=by simpa [D.isZ] using h
  subst this;rfl
 | .sl ..,_=>⟨none,rfl⟩
 | .st x,h=>Xzm (Yeg (x:=x) h)
 | .pr x y,h=>by
  have:x.isZ=true/\y.isZ=true:=by simpa [D.isZ] using h
  exact Xz3 (Yeg this.1) (Yeg this.2)
 | .int k z,h=>D.at_zc (.int k z) h
 | .str s,h=>D.at_zc (.str s) h
 | .raw u,h=>D.at_zc (.raw u) h
theorem Xie: ∀(x:D) (i:Nat),¬(zA x).ids i
 | .bool _,_ | .sl ..,_ | .int ..,_ | .str _,_ | .raw _,_=>id
 | .st x,i=>λh=>Xie x i (Xlg h)
 | .pr x y,i=>λh=>(Xlv h).elim (Xie x i) (Xie y i)
theorem Xgw: ∀(x:D),(zA x).size=x.size
 | .bool _ | .sl .. | .int .. | .str _ | .raw _=>rfl
 | .st x=>by rw[zA,Xzl,Xgw x];rfl
 | .pr x y=>by rw[zA,Xz2,Xgw x,Xgw y];rfl
theorem Yeh: ∀(x:D),(zA x).ag=x.ag
 | .bool _ | .sl .. | .int .. | .str _ | .raw _=>rfl
 | .st x=>Xqz _
 | .pr x y=>Yj1 _ _
theorem Xm2: ∀ {z:D} {a:AV} {x:D} {cs:List Value},toD z a=some x->AV.C W θ a cs->D.At W x cs:=by
 intro z a
 induction a generalizing z with
 | d y=>intro x cs h i;simp[toD] at h;subst h;exact i
 | b c=>intro x cs h i;simp[toD] at h;subst h;exact i
 | q p =>
  intro x cs h i
  simp only[toD,Option.some.injEq] at h;subst h
  obtain⟨c,e,hp⟩:=i
  show cs=[.bool (@decide p (Classical.propDecidable p))]
  rw[e]
  cases c with
  | true=>simp[hp.1 rfl]
  | false =>
   have:¬p:=λhh=>by simpa using hp.2 hh
   simp[this]
 | nil =>
  intro x cs h i
  cases z<;>simp[toD] at h
  subst h
  obtain⟨p,e⟩:=i
  exact⟨p,0,e,W0a _,by decide,.inl rfl⟩
 | gr o sz xs =>
  intro x cs h i
  simp[toD] at h;subst h
  obtain⟨p,e,h0,j,I,M⟩:=i
  refine⟨_,_,e,j,I,?_⟩
  rcases h0 with h0 | h0
  exact .inl (W0m (by omega))
  refine M.imp id ?_
  rintro⟨O,hb,hr⟩
  exact⟨O,0,by rw[h0,hb];rfl,hr⟩
 | st a ih =>
  intro x cs h i
  cases z<;>simp only[toD] at h<;>try cases h
  split at h
  rename_i y T
  injection h with h;subst h;exact show D.At W y cs from ih T i
  cases h
 | pr a c U V =>
  intro x cs h i
  cases z<;>simp only[toD] at h<;>try cases h
  split at h
  rename_i y y' T Z
  injection h with h;subst h
  obtain⟨u,v,e,j,I⟩:=i
  exact⟨u,v,e,U T j,V Z I⟩
  cases h
 | lit sz xs =>
  intro x cs h i
  simp[toD] at h;subst h
  obtain⟨p,e,j,I⟩:=i
  exact⟨_,_,e,W0a _,j,I.imp_right λ⟨b,M,h4⟩=>⟨b,0,M,h4⟩⟩
 | _=>intro x cs h i;simp[toD] at h
theorem Xnw{s:Nat}{g:Bool}{x:D}(h:fit s g x=true): x.size=s/\x.ag=g:=by
 simp only[fit,W0d,beq_iff_eq] at h
 exact⟨W0c h.1,h.2⟩
theorem Xdt{s:Nat}{g:Bool}{x:AV}(h:Yau s g x=true): x.size=s/\x.ag=g:=by
 simp only[Yau,W0d,beq_iff_eq] at h
 exact⟨W0c h.1,h.2⟩
theorem Yi6{s:Nat}{g:Bool}{x y:D}(i:∀z,x≠.st z)(hp:∀u v,x≠.pr u v){off:Nat}(h:Xqw s g x off=some y): off=0/\y=x/\x.size=s/\x.ag=g:=by
 unfold Xqw at h
 split at h
 exact absurd rfl (i _)
 exact absurd rfl (i _)
 exact absurd rfl (hp _ _)
 split at h
 rename_i hf;injection h with h;exact⟨rfl,h.symm,Xnw hf⟩
 cases h
 cases h
theorem Xu3{s:Nat}{g:Bool}: ∀ {x:D} {off:Nat} {y:D} {cs:List Value},Xqw s g x off=some y->D.At W x cs ->
 ∃u m v,cs=u++(m++v)/\u.length=off/\D.At W y m/\y.size=s/\y.ag=g:=by
 intro x
 induction x using D.ind with
 | st x U =>
  intro off y cs h i
  cases off with
  | zero =>
   simp only[Xqw] at h
   split at h
   rename_i hf;injection h with h;subst h
   exact⟨[],cs,[],by simp,rfl,i,Xnw hf⟩
   exact U h i
  | succ off=>simp only[Xqw] at h;exact U h i
 | pr a c o I =>
  intro off y cs h i
  obtain⟨u,v,e,V,Z⟩:=i
  simp only[Xqw] at h
  split at h
  obtain⟨M,m,O,j,r⟩:=o h V
  exact⟨M,m,O++v,by rw[e,j];simp,r⟩
  rename_i hb
  obtain⟨M,m,O,j,T,r⟩:=I h Z
  refine⟨u++M,m,O,by rw[e,j];simp,?_,r⟩
  have hl:=D.at_len a V
  have:¬off<a.size:=Yng hb
  rw[W0i,T];omega
 | leaf x hx hp =>
  intro off y cs h i
  obtain⟨j,T,e3,e4⟩:=Yi6 hx hp h
  subst T
  exact⟨[],cs,[],by simp,j.symm,i,e3,e4⟩
theorem Yi7{s:Nat}{g:Bool}{x y:AV}(i:∀z,x≠.st z)(hp:∀u v,x≠.pr u v)(hd:∀u,x≠.d u){off:Nat}(h:Xtd s g x off=some y): off=0/\y=x/\x.size=s/\x.ag=g:=by
 unfold Xtd at h
 split at h
 exact absurd rfl (hd _)
 exact absurd rfl (i _)
 exact absurd rfl (i _)
 exact absurd rfl (hp _ _)
 split at h
 rename_i hf;injection h with h;exact⟨rfl,h.symm,Xdt hf⟩
 cases h
 cases h
theorem Ycm{s:Nat}{g:Bool}: ∀ {x:AV} {off:Nat} {y:AV} {cs:List Value},Xtd s g x off=some y->AV.C W θ x cs ->
 ∃u m v,cs=u++(m++v)/\u.length=off/\AV.C W θ y m/\y.size=s/\y.ag=g/\∀i,y.ids i->x.ids i:=by
 intro x
 induction x with
 | d x =>
  intro off y cs h j
  simp only[Xtd] at h
  split at h
  rename_i z hz
  injection h with h;subst h
  obtain⟨u,m,v,o,I,M,O,T⟩:=Xu3 hz j
  exact⟨u,m,v,o,I,Ynh M,by rw[Xpj,O],by rw[Yfy,T],λi hi=>absurd hi (Xng _ i)⟩
  cases h
 | st x ih =>
  intro off y cs h j
  cases off with
  | zero =>
   simp only[Xtd] at h
   split at h
   rename_i hf;injection h with h;subst h
   exact⟨[],cs,[],by simp,rfl,j,(Xdt hf).1,(Xdt hf).2,λ_ h=>h⟩
   exact ih h j
  | succ off=>simp only[Xtd] at h;exact ih h j
 | pr a c U V =>
  intro off y cs h j
  obtain⟨u,v,e,h1,h2⟩:=j
  simp only[Xtd] at h
  split at h
  obtain⟨Z,m,v1,o,I,M,O,T,e6⟩:=U h h1
  exact⟨Z,m,v1++v,by rw[e,o];simp,I,M,O,T,λi hi=>.inl (e6 i hi)⟩
  rename_i hb
  obtain⟨Z,m,v1,o,I,M,O,T,e6⟩:=V h h2
  refine⟨u++Z,m,v1,by rw[e,o];simp,?_,M,O,T,λi hi=>.inr (e6 i hi)⟩
  have hl:=AV.c_len a h1
  have:¬off<a.size:=Yng hb
  rw[W0i,I];omega
 | _ =>
  intro off y cs h j
  obtain⟨o,I,M,O⟩:=Yi7 (by nofun) (by nofun) (by nofun) h
  subst I
  exact⟨[],cs,[],by simp,o.symm,j,M,O,λ_ h=>h⟩
def Put(W:GW)(θ:Loc)(v:AV)(vs cs:List Value)(off:Nat)(h:AV)(I:Nat->Prop): Prop :=
 ∃u m w,cs=u++(m++w)/\u.length=off/\m.length=v.size/\AV.C W θ h (u++(vs++w))/\∀i,h.ids i->I i\/v.ids i
theorem Put.st{v:AV}{vs cs:List Value}{off:Nat}{j:AV}{I:Nat->Prop}(h:Put W θ v vs cs off j I): Put W θ v vs cs off (stN j) I:=by
 obtain⟨u,m,w,o,M,O,T,U⟩:=h
 exact⟨u,m,w,o,M,O,Xzm T,λi hi=>U i (Xlg hi)⟩
theorem Put.left{v:AV}{vs cs j:List Value}{off:Nat}{o c:AV}{I J:Nat->Prop}(h:Put W θ v vs cs off o I)(M:AV.C W θ c j)(O:∀i,I i->J i)(T:∀i,c.ids i->J i):
 Put W θ v vs (cs++j) off (prN o c) J:=by
 obtain⟨u,m,w,U,V,Z,e4,e5⟩:=h
 refine⟨u,m,w++j,by rw[U];simp,V,Z,?_,λi hi=>?_⟩
 have:=Xz3 e4 M;simpa using this
 rcases Xlv hi with h | h
 exact(e5 i h).imp (O i) id
 exact .inl (T i h)
theorem Put.right{v:AV}{vs cs j:List Value}{off:Nat}{o c:AV}{I J:Nat->Prop}(h:Put W θ v vs j off o I)(M:AV.C W θ c cs)(O:∀i,I i->J i)(T:∀i,c.ids i->J i):
 Put W θ v vs (cs++j) (cs.length+off) (prN c o) J:=by
 obtain⟨u,m,w,U,V,Z,e4,e5⟩:=h
 refine⟨cs++u,m,w,by rw[U];simp,by rw[W0i,V],Z,?_,λi hi=>?_⟩
 have:=Xz3 M e4;simpa using this
 rcases Xlv hi with h | h
 exact .inl (T i h)
 exact(e5 i h).imp (O i) id
theorem Put.all{v:AV}{vs cs:List Value}{I:Nat->Prop}(i:AV.C W θ v vs)(j:cs.length=v.size): Put W θ v vs cs 0 v I :=
 ⟨[],cs,[],by simp,rfl,j,by simpa using i,λ_ h=>.inr h⟩
theorem Yiv{v:AV}{x:D}{y:AV}(i:∀z,x≠.st z)(hp:∀u v,x≠.pr u v){off:Nat}(h:Xur v x off=some y): off=0/\y=v/\x.size=v.size:=by
 unfold Xur at h
 split at h
 exact absurd rfl (i _)
 exact absurd rfl (i _)
 exact absurd rfl (hp _ _)
 split at h
 rename_i hf;injection h with h;exact⟨rfl,h.symm,(Xnw hf).1⟩
 cases h
 cases h
theorem Yiw{v:AV}{vs:List Value}(O:AV.C W θ v vs): ∀ {x:D} {off:Nat} {T:AV} {cs:List Value},Xur v x off=some T->D.At W x cs->Put W θ v vs cs off T λ_=>False:=by
 intro x
 induction x using D.ind with
 | st x U =>
  intro off y cs h i
  cases off with
  | zero =>
   simp only[Xur] at h
   split at h
   rename_i hf;injection h with h;subst h
   exact .all O (by rw[D.at_len _ i,(Xnw hf).1])
   split at h
   rename_i j;injection h with h;subst h;exact(U j i).st
   cases h
  | succ off =>
   simp only[Xur] at h
   split at h
   rename_i j;injection h with h;subst h;exact(U j i).st
   cases h
 | pr a c o I =>
  intro off y cs h i
  obtain⟨u,w,e,M,V⟩:=i
  subst e
  simp only[Xur] at h
  split at h
  split at h
  rename_i j;injection h with h;subst h
  exact(o j M).left V (λ_ h=>h) (λ_ h=>h)
  cases h
  rename_i hb
  split at h
  rename_i j;injection h with h;subst h
  have hl:=D.at_len a M
  have hn:¬off<a.size:=Yng hb
  have:=(I j V).right (c:=.d a) M (λ_ h=>h) (λ_ h=>h)
  rwa[show u.length+(off-a.size)=off by omega] at this
  cases h
 | leaf x Z hp =>
  intro off y cs h i
  obtain⟨e1,e2,e3⟩:=Yiv Z hp h
  subst e1;subst e2
  exact .all O (by rw[D.at_len _ i,e3])
theorem Yix{v:AV}{x:AV}{y:AV}(i:∀z,x≠.st z)(hp:∀u v,x≠.pr u v)(hd:∀u,x≠.d u){off:Nat}(h:Xs8 v x off=some y): off=0/\y=v/\x.size=v.size:=by
 unfold Xs8 at h
 split at h
 exact absurd rfl (hd _)
 exact absurd rfl (i _)
 exact absurd rfl (i _)
 exact absurd rfl (hp _ _)
 split at h
 rename_i hf;injection h with h;exact⟨rfl,h.symm,(Xdt hf).1⟩
 cases h
 cases h
theorem Ycf{v:AV}{vs:List Value}(I:AV.C W θ v vs): ∀ {x:AV} {off:Nat} {a':AV} {cs:List Value},Xs8 v x off=some a'->AV.C W θ x cs->Put W θ v vs cs off a' x.ids:=by
 intro x
 induction x with
 | d x =>
  intro off y cs h j
  simp only[Xs8] at h
  obtain⟨u,m,w,M,O,T,e4,e5⟩:=Yiw I h j
  exact⟨u,m,w,M,O,T,e4,λi hi=>(e5 i hi).imp (λh=>h.elim) id⟩
 | st x ih =>
  intro off y cs h j
  cases off with
  | zero =>
   simp only[Xs8] at h
   split at h
   rename_i hf;injection h with h;subst h
   exact .all I (by rw[AV.c_len _ j,(Xdt hf).1])
   split at h
   rename_i o;injection h with h;subst h;exact(ih o j).st
   cases h
  | succ off =>
   simp only[Xs8] at h
   split at h
   rename_i o;injection h with h;subst h;exact(ih o j).st
   cases h
 | pr a c U V =>
  intro off y cs h j
  obtain⟨u,w,e,Z,h2⟩:=j
  subst e
  simp only[Xs8] at h
  split at h
  split at h
  rename_i o;injection h with h;subst h
  exact(U o Z).left h2 (λ_ h=>.inl h) (λ_ h=>.inr h)
  cases h
  rename_i hb
  split at h
  rename_i o;injection h with h;subst h
  have hl:=AV.c_len a Z
  have hn:¬off<a.size:=Yng hb
  have:=(V o h2).right (c:=a) (J:=λi=>a.ids i\/c.ids i) Z (λ_ h=>.inr h) (λ_ h=>.inl h)
  rwa[show u.length+(off-a.size)=off by omega] at this
  cases h
 | _ =>
  intro off y cs h j
  obtain⟨M,O,T⟩:=Yix (by nofun) (by nofun) (by nofun) h
  subst M;subst O
  exact .all I (by rw[AV.c_len _ j,T])
theorem Ylj: ∀ {x:D} {f:Nat} {y:D} {cs:List Value},Ydz x f=some y->D.At W x cs->∃u m v,cs=u++(m++v)/\u.length=Xhv x.comps f/\D.At W y m:=by
 intro x
 induction x using D.ind with
 | pr a c _ j =>
  intro f y cs h i
  obtain⟨u,v,e,o,I⟩:=i
  cases f with
  | zero =>
   simp only[Ydz] at h;injection h with h;subst h
   exact⟨[],u,v,by simpa using e,rfl,o⟩
  | succ f =>
   simp only[Ydz] at h
   obtain⟨M,m,O,T,U,V⟩:=j h I
   exact⟨u++M,m,O,by rw[e,T];simp,by rw[W0i,U,D.at_len a o];rfl,V⟩
 | leaf x Z hp =>
  intro f y cs h i
  unfold Ydz at h
  split at h
  exact absurd rfl (hp _ _)
  exact absurd rfl (hp _ _)
  injection h with h;subst h;exact⟨[],cs,[],by simp,by cases x<;>rfl,i⟩
  cases h
 | st x j =>
  intro f y cs h i
  cases f with
  | zero=>simp only[Ydz] at h;injection h with h;subst h;exact⟨[],cs,[],by simp,rfl,i⟩
  | succ f=>simp[Ydz] at h
theorem Ymv{a:AV}{cs:List Value}(h:AV.C W θ a cs): AV.V1 W θ a (mkv a.ag cs):=⟨cs,h,rfl⟩
theorem Ymu{a:AV}{cs:List Value}(h:AV.C W θ a cs): AV.V W θ a (mkv a.ag cs):=by
 cases a with
 | tup a=>exact h.elim
 | un=>exact h.elim
 | _=>exact Ymv h
theorem V_c{a:AV}{v:Value}(h:AV.V W θ a v)(i:∀b,a≠.tup b)(j:a≠.un): ∃cs,AV.C W θ a cs/\v=mkv a.ag cs:=by
 cases a with
 | tup a=>exact absurd rfl (i a)
 | un=>exact absurd rfl j
 | _=>exact h
theorem Yhf{a:AV}{cs:List Value}(h:AV.C W θ a cs)(i:a.size=1): ∃v,cs=[v]:=by
 have:=AV.c_len a h
 match cs,this with
 | [v],_=>exact⟨v,rfl⟩
 | [],h=>simp[i] at h
 | _::_::_,h=>simp[i] at h
theorem Xya{a:AV}{cs:List Value}(h:AV.C W θ a cs)(i:a.ag=true\/a.size=1): (mkv a.ag cs).cells.toList=cs:=by
 cases e:a.ag with
 | true=>simp[mkv,Value.cells]
 | false =>
  rcases i with i | i
  rw[e] at i;cases i
  obtain⟨v,rfl⟩:=Yhf h i
  have:=AV.c_one a h v (W0g.2 rfl)
  cases v<;>simp_all[mkv,Value.cells,Xfi]
end
section
structure Stp (N:Nat->Prop) (W W':GW) (θ θ':Loc) (g g':Hp):Prop where
 os:W'.w.os=W.w.os
 out:W'.w.output=W.w.output
 tape:W'.w.tape=W.w.tape
 size:W.size<=W'.size
 same:∀b,b<W.size->¬N b->W'.w.heap[b]?=W.w.heap[b]?
 A:∀b,b<W.size->¬N b->∀i,W'.A b i↔W.A b i
 le:LeF W W'
 th:∀i y,g i=some y->θ' i=θ i
 hi:∀i,1000000<=i->θ' i=θ i
 obs:Obs W' θ' N g'
 dom:∀i y,g i=some y->∃y',g' i=some y'
theorem Stp.rfl{N:Nat->Prop}{W:GW}{θ:Loc}{g:Hp}(h:Obs W θ N g): Stp N W W θ θ g g :=
 ⟨_root_.rfl,_root_.rfl,_root_.rfl,W0a _,λ_ _ _=>_root_.rfl,λ_ _ _ _=>W4a,LeF.refl W,λ_ _ _=>_root_.rfl,λ_ _=>_root_.rfl,h,λ_ y h=>⟨y,h⟩⟩
theorem Yfn(a:Act)(d t:Nat)(u:Value): (a.put (some d) u).tmps.getD t undef=if t=d/\d<a.tmps.size then u else a.tmps.getD t undef:=by
 simp only[Act.put,Array.getD_eq_getD_getElem?,W3z]
 by_cases h:d=t
 subst h
 by_cases i:d<a.tmps.size
 simp[i]
 rw[if_pos _root_.rfl,if_neg i,if_neg (by simp[i]),W3y (by omega)]
 rw[if_neg h,if_neg (λe=>h e.1.symm)]
theorem Sat.step0{W0:GW}{X:Nat->Prop}{n:Nat}{s:Ev×Hp}{a:Act}{W W':GW}{θ θ':Loc}{g':Hp}(h:Sat W0 X n s a W θ)(k:Stp (λb=>W0.size<=b\/X b) W W' θ θ' s.2 g'):
 Sat W0 X n (s.1,g') a W' θ' where
 fm:={
  os:=k.os.trans h.fm.os
  out:=k.out.trans h.fm.out
  tape:=k.tape.trans h.fm.tape
  size:=W0j h.fm.size k.size
  same:=λb hb o=>(k.same b (W0y hb h.fm.size) (λj=>j.elim (λj=>absurd hb (W6f.2 j)) o)).trans (h.fm.same b hb o)
  A:=λb hb o i=>(k.A b (W0y hb h.fm.size) (λj=>j.elim (λj=>absurd hb (W6f.2 j)) o) i).trans (h.fm.A b hb o i)
  le:=h.fm.le.trans k.le }
 rel:=⟨h.rel.defers,h.rel.size,λt v I=>(h.rel.has t v I).mono k.le λi hi=>let ⟨y,M⟩:=h.ids t v i I hi;k.th i y M⟩
 obs:=k.obs
 ids:=λt v i I hi=>let ⟨y,M⟩:=h.ids t v i I hi;k.dom i y M
theorem Sat.put{W0:GW}{X:Nat->Prop}{n:Nat}{s:Ev×Hp}{a:Act}{W:GW}{θ:Loc}{d:Nat}{v:AV}{u:Value}(h:Sat W0 X n s a W θ)(hd:d<n)(O:AV.V W θ v u)
 (hi:∀i,v.ids i->∃y,s.2 i=some y):Sat W0 X n (upd s.1 d v,s.2) (a.put (some d) u) W θ where
 fm:=h.fm
 rel:=⟨h.rel.defers,by simp[Act.put,h.rel.size],λt w I=>by
  rw[Yfn]
  rcases Xae I with ⟨o,j⟩ | ⟨o,j⟩
  subst o;subst j;rw[if_pos ⟨_root_.rfl,by rw[h.rel.size];exact hd⟩];exact O
  rw[if_neg (λe=>o e.1)];exact h.rel.has t w j⟩
 obs:=h.obs
 ids:=λt w i I M=>by
  rcases Xae I with ⟨o,j⟩ | ⟨o,j⟩
  subst j;exact hi i M
  exact h.ids t w i j M
theorem Ob.R.lt{W:GW}{θ:Loc}{o b:Nat}{x:Ob}(h:x.R W θ o)(M:x.live=true)(hb:(θ o).1=some b): b<W.size:=by
 cases x with
 | var a=>obtain⟨I,cs,T,i,j,_⟩:=h;rw[hb] at i;injection i with i;subst i;exact Xa2 j
 | arr sz xs=>obtain⟨I,cs,T,i,j,_⟩:=h;rw[hb] at i;injection i with i;subst i;exact Xa2 j
 | tok n sz =>
  obtain⟨_,_,h | ⟨I,cs,T,i,j,_⟩⟩:=h
  rw[hb] at h;cases h.1
  rw[hb] at i;injection i with i;subst i;exact Xa2 j
 | dead=>cases M
section
variable{N:Nat->Prop}{W:GW}{θ:Loc}{g:Hp}
theorem Obs.lt(h:Obs W θ N g){o b:Nat}{x:Ob}(i:g o=some x)(j:x.live=true)(hb:(θ o).1=some b): b<W.w.heap.size:=(h.r o x i).lt j hb
theorem Xnd(W:GW)(o:Obj)(L:Nat->Prop): (W.push o L).w.heap.size=W.w.heap.size+1:=World.size_alloc ..
theorem Stp.push0(h:Obs W θ N g)(o:Obj)(L:Nat->Prop): Stp N W (W.push o L) θ θ g g where
 os:=_root_.rfl
 out:=_root_.rfl
 tape:=_root_.rfl
 size:=W2k (by show W.w.heap.size<(W.push o L).w.heap.size;rw[Xnd];omega)
 same:=λb hb _=>Xe0 _ _ _ hb
 A:=λb hb _ i=>⟨λh=>h.elim id λh=>absurd h.1 (Nat.ne_of_lt hb),.inl⟩
 le:=Xew W o L
 th:=λ_ _ _=>_root_.rfl
 hi:=λ_ _=>_root_.rfl
 obs:={
  r:=λI x j=>(h.r I x j).keep (Xew W o L) _root_.rfl (λ_ _=>_root_.rfl) λM b hb=>⟨Xe0 _ _ _ (h.lt j M hb),λi hi=>.inl hi⟩
  new:=h.new
  dis:=h.dis
  ids:=h.ids }
 dom:=λ_ y h=>⟨y,h⟩
theorem Stp.push(h:Obs W θ N g)(hN:∀b,W.size<=b->N b){d c:Nat}(hB:d<1000000)(hd:g d=none)(o:Obj)(L:Nat->Prop){x:Ob}(hx:x.R (W.push o L) (λi=>if i=d then (some W.size,c) else θ i) d)
 (hi:∀i,x.ids i->∃y,g i=some y):Stp N W (W.push o L) θ (λi=>if i=d then (some W.size,c) else θ i) g (upd g d x) where
 os:=_root_.rfl
 out:=_root_.rfl
 tape:=_root_.rfl
 size:=W2k (by show W.w.heap.size<(W.push o L).w.heap.size;rw[Xnd];omega)
 same:=λb hb _=>Xe0 _ _ _ hb
 A:=λb hb _ i=>⟨λh=>h.elim id λh=>absurd h.1 (Nat.ne_of_lt hb),.inl⟩
 le:=Xew W o L
 th:=λi y M=>if_neg λe=>by rw[e,hd] at M;cases M
 hi:=λi h=>if_neg (by omega)
 obs:={
  r:=λU y M=>by
   rcases Xae M with ⟨I,j⟩ | ⟨I,j⟩
   subst I;subst j;exact hx
   exact(h.r U y j).keep (Xew W o L) (if_neg I) (λi hi=>if_neg λe=>by obtain⟨z,V⟩:=h.ids U y i j hi;rw[e,hd] at V;cases V)
    λhl b hb=>⟨Xe0 _ _ _ (h.lt j hl hb),λi hi=>.inl hi⟩
  new:=λU y b M hl hb=>by
   rcases Xae M with ⟨I,j⟩ | ⟨I,j⟩
   subst I;rw[if_pos _root_.rfl] at hb;injection hb with hb;exact hN b (by rw[hb];exact W0a _)
   rw[if_neg I] at hb;exact h.new U y b j hl hb
  dis:=λo1 o2 y1 y2 b h1 h2 l1 l2 O T=>by
   rcases Xae h1 with ⟨I,f1⟩ | ⟨I,f1⟩
   rcases Xae h2 with ⟨j,Z⟩ | ⟨j,Z⟩
   exact I.trans j.symm
   rw[if_pos I] at O;rw[if_neg j] at T
   injection O with O
   exact absurd (h.lt Z l2 T) (by rw[<-O];exact W7q _)
   rcases Xae h2 with ⟨j,Z⟩ | ⟨j,Z⟩
   rw[if_neg I] at O;rw[if_pos j] at T
   injection T with T
   exact absurd (h.lt f1 l1 O) (by rw[<-T];exact W7q _)
   rw[if_neg I] at O;rw[if_neg j] at T;exact h.dis o1 o2 y1 y2 b f1 Z l1 l2 O T
  ids:=λU y i M hyi=>by
   have:∃z,g i=some z:=by
    rcases Xae M with ⟨I,j⟩ | ⟨I,j⟩
    subst j;exact hi i hyi
    exact h.ids U y i j hyi
   obtain⟨z,V⟩:=this
   exact⟨z,by rw[Xak (λe=>by rw[e,hd] at V;cases V)];exact V⟩ }
 dom:=λi y M=>⟨y,by rw[Xak (λe=>by rw[e,hd] at M;cases M)];exact M⟩
theorem Stp.put(h:Obs W θ N g){o t b:Nat}{y x:Ob}(ho:g o=some y)(hl:y.live=true)(hb:(θ o).1=some b){c c':List Value}{T:TypeId}{B:Nat->Prop}(hc:W.w.heap[b]?=some (.cells c.toArray T (0,0)))
 (hs:∀i v,¬W.A b i->c[i]?=some v->c'[i]?=some v) {θ':Loc} {g':Hp} (M:∀i z,g i=some z->θ' i=θ i) (hhi:∀i,1000000<=i->θ' i=θ i) (ht:(θ' t).1=some b)
 (hg:∀i z,g' i=some z->(i=t/\z=x)\/z=.dead\/(g i=some z/\i≠o)) (hdom:∀i z,g i=some z->∃z',g' i=some z')
 (hx:x.R (W.put b (.cells c'.toArray T (0,0)) B) θ' t) (hi:∀i,x.ids i->∃y,g i=some y):Stp N W (W.put b (.cells c'.toArray T (0,0)) B) θ θ' g g' where
 os:=_root_.rfl
 out:=_root_.rfl
 tape:=_root_.rfl
 size:=by show W.w.heap.size<=(Xg6 W.w b _).heap.size;simp[Xg6]
 same:=λk _ O=>Xl9 _ _ _ _ λe=>O (by rw[e];exact h.new o y b ho hl hb)
 A:=λk _ O i=>⟨λh=>h.1,λh'=>⟨h',λe=>absurd (h.new o y b ho hl hb) (by rw[<-e];exact O)⟩⟩
 le:=Xfl W b c c' T B hc hs
 th:=M
 hi:=hhi
 obs:={
  r:=λi z hz=>by
   rcases hg i z hz with ⟨I,U⟩ | e | ⟨I,U⟩
   subst I;subst U;exact hx
   subst e;trivial
   refine(h.r i z I).keep (Xfl W b c c' T B hc hs) (M i z I) (λj hj=>let ⟨w,hw⟩:=h.ids i z j I hj;M j w hw) λV k O=>?_
   have hne:k≠b:=λe=>U (h.dis i o z y b I ho V hl (by rw[<-e];exact O) hb)
   exact⟨Xl9 _ _ _ _ hne,λj hj=>⟨hj,λe=>absurd e hne⟩⟩
  new:=λi z k hz V O=>by
   rcases hg i z hz with ⟨I,U⟩ | e | ⟨I,U⟩
   subst I;rw[ht] at O;injection O with O;rw[<-O];exact h.new o y b ho hl hb
   subst e;cases V
   rw[M i z I] at O;exact h.new i z k I V O
  dis:=λi j z w k hz hw lz lw bz bw=>by
   rcases hg i z hz with ⟨I,U⟩ | e | ⟨I,U⟩
   rcases hg j w hw with ⟨Z,f2⟩ | f | ⟨Z,f2⟩
   exact I.trans Z.symm
   subst f;cases lw
   subst I;rw[ht] at bz;injection bz with bz;subst bz
   rw[M j w Z] at bw
   exact absurd (h.dis j o w y b Z ho lw hl bw hb) f2
   subst e;cases lz
   rcases hg j w hw with ⟨Z,f2⟩ | f | ⟨Z,f2⟩
   subst Z;rw[ht] at bw;injection bw with bw;subst bw
   rw[M i z I] at bz
   exact absurd (h.dis i o z y b I ho lz hl bz hb) U
   subst f;cases lw
   rw[M i z I] at bz;rw[M j w Z] at bw
   exact h.dis i j z w k I Z lz lw bz bw
  ids:=λi z k hz O=>by
   have:∃w,g k=some w:=by
    rcases hg i z hz with ⟨I,U⟩ | e | ⟨I,U⟩
    subst U;exact hi k O
    subst e;exact O.elim
    exact h.ids i z k I O
   obtain⟨w,hw⟩:=this
   exact hdom k w hw }
 dom:=hdom
end
end
section
def Good(P:Program)(N:Nat->Prop)(W:GW)(θ:Loc)(g:Hp)(ρ:Operand->Value)(o:Oper)(v:AV)(g':Hp): Prop :=
 ∃W' h r,(execOp ρ o).run P W.w=.ok r W'.w/\Stp N W W' θ h g g'/\((r=.skip/\o.dst=none)\/∃u,r=.value u/\AV.V W' h v u)/\∀i,v.ids i->∃y,g' i=some y
def Xbq(W:GW)(θ:Loc)(g:Hp)(ρ:Operand->Value): List Operand->List AV->Prop
 | [],[]=>True
 | x::xs,a::asx=>(AV.V W θ a (ρ x)/\∀i,a.ids i->∃y,g i=some y)/\Xbq W θ g ρ xs asx
 | _,_=>False
section
variable{P:Program}{N:Nat->Prop}{W:GW}{θ:Loc}{g:Hp}{ρ:Operand->Value}
theorem Good.val{o:Oper}{v:AV}{u:Value}(h:Obs W θ N g)(hr:(execOp ρ o).run P W.w=.ok (.value u) W.w)(j:AV.V W θ v u)(hi:∀i,v.ids i->∃y,g i=some y): Good P N W θ g ρ o v g :=
 ⟨W,θ,_,hr,Stp.rfl h,.inr ⟨u,rfl,j⟩,hi⟩
theorem V_b{c:Bool}{v:Value}(h:AV.V W θ (.b c) v): v=.bool c:=by obtain⟨cs,j,i⟩:=h;rw[show cs=_ from j] at i;exact i
theorem V_q{p:Prop}{v:Value}(h:AV.V W θ (.q p) v): ∃c,v=.bool c/\(c=true↔p):=by obtain⟨cs,⟨c,j,o⟩,i⟩:=h;rw[j] at i;exact⟨c,i,o⟩
theorem Xcw{k:IntKind}{z:Int}{v:Value}(h:AV.V W θ (.d (.int k z)) v): v=.int k z/\inR k z:=by obtain⟨cs,⟨j,o⟩,i⟩:=h;rw[j] at i;exact⟨i,o⟩
theorem Xyq{s:List UInt8}{v:Value}(h:AV.V W θ (.d (.str s)) v): v=.string ⟨s.toArray⟩/\s.length<9223372036854775808:=by obtain⟨cs,⟨j,o⟩,i⟩:=h;rw[j] at i;exact⟨i,o⟩
theorem Xte{s:List UInt8}(h:s.length<9223372036854775808): AV.V W θ (.d (.str s)) (.string ⟨s.toArray⟩):=⟨[.string ⟨s.toArray⟩],⟨rfl,h⟩,rfl⟩
theorem int_V{k:IntKind}{z:Int}(h:inR k z): AV.V W θ (.d (.int k z)) (.int k z):=⟨[.int k z],⟨rfl,h⟩,rfl⟩
theorem q_V{p:Prop}{c:Bool}(h:c=true↔p): AV.V W θ (.q p) (.bool c):=⟨[.bool c],⟨c,rfl,h⟩,rfl⟩
theorem Yl6{p:Prop}{c:Bool}(h:c=true↔p): AV.V W θ (.b (dc p)) (.bool c):=by
 have:c=dc p:=W4w.2 (h.trans Xaj.symm)
 subst this;exact⟨_,rfl,rfl⟩
theorem b_V(c:Bool): AV.V W θ (.b c) (.bool c):=⟨[.bool c],rfl,rfl⟩
theorem Yp9{p:Prop}(c:Bool)(h:c=true->p): AV.V W θ (.ub p) (.bool c):=⟨[.bool c],⟨c,rfl,h⟩,rfl⟩
theorem V_sl{sz:Nat}{xs:List D}{v:Value}(h:AV.V W θ (.d (.sl sz xs)) v): ∃p c,v=.slice p xs.length c/\xs.length<=c/\c<9223372036854775808/\(xs=[]\/∃b off,p=some ⟨b,off,none⟩/\D.Row W b sz off xs):=by
 obtain⟨cs,⟨p,c,j,o⟩,i⟩:=h;rw[j] at i;exact⟨p,c,i,o⟩
theorem Yoc{sz:Nat}{xs:List D}{p:Option Addr}{n c:Nat}(h:n=xs.length)(i:xs.length<=c)(j:c<9223372036854775808)(o:xs=[]\/∃b off,p=some ⟨b,off,none⟩/\D.Row W b sz off xs):
 AV.V W θ (.d (.sl sz xs)) (.slice p n c):=by subst h;exact⟨_,⟨p,c,rfl,i,j,o⟩,rfl⟩
theorem Yp0{o sz:Nat}{xs:List D}{v:Value}(h:AV.V W θ (.gr o sz xs) v): ∃p,v=.slice p xs.length (θ o).2/\((θ o).2=0\/p=ad (θ o).1)/\xs.length<=(θ o).2/\(θ o).2<9223372036854775808/\(xs=[]\/∃b,(θ o).1=some b/\D.Row W b sz 0 xs):=by
 obtain⟨cs,⟨p,j,I⟩,i⟩:=h;rw[j] at i;exact⟨p,i,I⟩
theorem Xyr{o sz:Nat}{xs:List D}{v:Value}(h:AV.V W θ (.gr o sz xs) v): AV.V W θ (.d (.sl sz xs)) v:=by
 obtain⟨cs,i,e⟩:=h
 exact⟨cs,Xm2 (z:=.sl sz []) (a:=.gr o sz xs) rfl i,e⟩
theorem Xt5{sz:Nat}{xs:List D}{v:Value}(h:AV.V W θ (.lit sz xs) v): ∃p,v=.slice p xs.length xs.length/\xs.length<9223372036854775808/\(xs=[]\/∃b,p=some ⟨b,0,none⟩/\D.Row W b sz 0 xs):=by
 obtain⟨cs,⟨b,j,o⟩,i⟩:=h;rw[j] at i;exact⟨b,i,o⟩
theorem Xid{sz:Nat}{xs:List D}{v:Value}(h:AV.V W θ (.lit sz xs) v): AV.V W θ (.d (.sl sz xs)) v:=by
 obtain⟨b,e,i,j⟩:=Xt5 h
 rw[e];exact Yoc rfl (W0a _) i (j.imp_right λ⟨b,o,I⟩=>⟨b,0,o,I⟩)
theorem Xol{v:Value}(h:AV.V W θ .nil v): ∃p,v=.slice p 0 0:=by obtain⟨cs,⟨p,j⟩,i⟩:=h;rw[j] at i;exact⟨p,i⟩
theorem Xf1{o sz l n:Nat}{v:Value}(h:AV.V W θ (.own o sz l n) v): ∃b p,(θ o).1=some b/\l+n<=(θ o).2/\(θ o).2<9223372036854775808/\v=.slice p n ((θ o).2-l)/\(l=0\/l<(θ o).2->p=some ⟨b,l*sz,none⟩):=by
 obtain⟨cs,⟨b,p,j,I,M,O,T⟩,i⟩:=h;rw[O] at i;exact⟨b,p,j,I,M,i,T⟩
theorem Xqd{o sz l n:Nat}{v:Value}(h:AV.V W θ (.ow3 o sz l n) v): ∃b p,(θ o).1=some b/\l+n<=(θ o).2/\(θ o).2<9223372036854775808/\v=.slice p n n/\(l=0\/0<n->p=some ⟨b,l*sz,none⟩):=by
 obtain⟨cs,⟨b,p,j,I,M,O,T⟩,i⟩:=h;rw[O] at i;exact⟨b,p,j,I,M,i,T⟩
theorem Xj4{o off:Nat}{v:Value}(h:AV.V W θ (.ptr o off) v): ∃b,(θ o).1=some b/\v=.pointer (some ⟨b,off,none⟩):=by obtain⟨cs,⟨b,j,I⟩,i⟩:=h;rw[I] at i;exact⟨b,j,i⟩
theorem Xtm{o off b:Nat}(h:(θ o).1=some b): AV.V W θ (.ptr o off) (.pointer (some ⟨b,off,none⟩)):=⟨_,⟨b,h,rfl⟩,rfl⟩
theorem Ynq{o sz j off:Nat}{v:Value}(h:AV.V W θ (.el o sz j off) v): ∃b,(θ o).1=some b/\v=.pointer (some ⟨b,j*sz+off,none⟩):=by obtain⟨cs,⟨b,I,M⟩,i⟩:=h;rw[M] at i;exact⟨b,I,i⟩
theorem Ypd{o sz j off b:Nat}(h:(θ o).1=some b): AV.V W θ (.el o sz j off) (.pointer (some ⟨b,j*sz+off,none⟩)):=⟨_,⟨b,h,rfl⟩,rfl⟩
theorem Yre{x:D}{v:Value}(h:AV.V W θ (.at x) v): ∃b off e,v=.pointer (some ⟨b,off,none⟩)/\D.At W x e/\∀j v,e[j]?=some v->Fr W b (off+j) v:=by
 obtain⟨cs,⟨b,off,e,o,I,M⟩,i⟩:=h;rw[o] at i;exact⟨b,off,e,i,I,M⟩
theorem Ypu{x:D}{b off:Nat}{e:List Value}(h:D.At W x e)(i:∀j v,e[j]?=some v->Fr W b (off+j) v): AV.V W θ (.at x) (.pointer (some ⟨b,off,none⟩)):=⟨_,⟨b,off,e,rfl,h,i⟩,rfl⟩
theorem V1.V{a:AV}{v:Value}(h:AV.V1 W θ a v): AV.V W θ a v:=by
 cases a with
 | tup a=>obtain⟨cs,i,_⟩:=h;exact i.elim
 | un=>obtain⟨cs,i,_⟩:=h;exact i.elim
 | _=>exact h
theorem Yhm{a:AV}{p:Prop}{v:Value}(ha:asP a=some p)(h:AV.V W θ a v): ∃c,v=.bool c/\(c=true↔p):=by
 unfold asP at ha
 split at ha<;>try cases ha
 exact V_q h
 exact⟨_,V_b h,W4a⟩
 obtain⟨cs,j,i⟩:=h;rw[show cs=_ from j] at i;exact⟨_,i,W4a⟩
theorem Ykc: ∀ {a:AV} {i:Nat} {b:AV} {vs:List Value},Yfu a i=some b->AV.T W θ a vs->∃w,vs[i]?=some w/\AV.V W θ b w/\∀j,b.ids j->a.ids j:=by
 intro a
 induction a with
 | pr a c _ M =>
  intro i b vs h o
  match vs,o with
  | v::vs,o =>
   cases i with
   | zero=>simp only[Yfu] at h;injection h with h;subst h;exact⟨v,rfl,V1.V o.1,λj I=>.inl I⟩
   | succ i =>
    simp only[Yfu] at h
    obtain⟨w,O,U,Z⟩:=M h o.2
    exact⟨w,O,U,λj I=>.inr (Z j I)⟩
 | un=>intro i b vs h;cases i<;>cases h
 | _ =>
  intro i b vs h o
  cases i with
  | zero =>
   simp only[Yfu] at h;injection h with h;subst h
   match vs,o with
   | [v],o=>exact⟨v,rfl,V1.V o,λj I=>I⟩
  | succ i=>simp[Yfu] at h
theorem Xlo{T:TypeId}{t:TypeDesc}{w:World}(h:P.underlying T=some t): (underlying T).run P w=.ok t w:=by
 simp[underlying,program,bind,Sem.bind,Sem.run,pure,h]
theorem Xzu{T:TypeId}(h:P.underlying T=some .bool)(a b:Bool)(w:World)(m:Nat): (Op.equalIn (m+1) T (.bool a) (.bool b)).run P w=.ok (a==b) w:=by
 simp[Op.equalIn,underlying,program,bind,Sem.bind,Sem.run,pure,h]
theorem Xuh(k:IntKind)(z:Int): k.wrap (k.wrap z)=k.wrap z:=by
 have h:∀m:Int,0<=m->m<2^k.bits->k.wrap m=if k.signed&&m>=(2^(k.bits-1):Int) then m-(2^k.bits:Int) else m:=by
  intro m i j
  simp only[IntKind.wrap,Int.emod_eq_of_lt i j]
 have hp:(0:Int)<2^k.bits:=by cases k<;>decide
 have i:=Int.emod_nonneg z (Int.ne_of_gt hp)
 have j:=Int.emod_lt_of_pos z hp
 have e:k.wrap z=k.wrap (z%2^k.bits):=by simp only[IntKind.wrap,Int.emod_emod]
 rw[e,h _ i j]
 generalize z%2^k.bits=m at *
 split
 rename_i o
 show k.wrap (m-2^k.bits)=_
 have:(m-2^k.bits)%2^k.bits=m:=by rw[Int.sub_emod_right,Int.emod_eq_of_lt i j]
 simp only[IntKind.wrap,this,o,if_true]
 rename_i o
 rw[h m i j,if_neg o]
theorem Xgm(k:IntKind)(z:Int): inR k (k.wrap z):=Xuh k z
theorem Xpw{k:IntKind}{z:Int}: inR k z↔k.min<=z/\z<=k.max:=by
 unfold inR IntKind.wrap
 cases k<;>simp[IntKind.min,IntKind.max,IntKind.signed,IntKind.bits]<;>(try split)<;>omega
theorem Yai{k:IntKind}{a b:Int}(ha:inR k a): inR k (a.tmod b):=by
 rw[Xpw] at *
 have o:(a.tmod b).natAbs<=a.natAbs:=by rw[Int.natAbs_tmod];exact Nat.mod_le _ _
 have i:0<=a->0<=a.tmod b:=λh=>Int.tmod_nonneg b h
 have j:a<=0->a.tmod b<=0:=λh=>by
  have:=Int.tmod_nonneg b (a:=-a) (by omega)
  rw[Int.neg_tmod] at this;omega
 have I:k.min<=0/\0<=k.max:=by cases k<;>decide
 rcases Int.le_total 0 a with h | h
 have:=i h;omega
 have:=j h;omega
theorem Yaj{k:IntKind}{a:Int}(ha:inR k a)(n:Nat): inR k (a.fdiv (2^n)):=by
 rw[Xpw] at *
 have hp:(0:Int)<2^n:=W8k (by decide)
 have i:(1:Int)<=2^n:=hp
 have I:k.min<=0/\0<=k.max:=by cases k<;>decide
 rw[W1r _ (W6h hp)]
 rcases Int.le_total 0 a with h | h
 have j:=Int.ediv_nonneg h (W6h hp)
 have o:a/2^n<=a:=Int.ediv_le_self _ h
 omega
 have j:a/2^n<=0:=Int.ediv_nonpos_of_nonpos_of_neg h (by omega)
 have o:a<=a/2^n:=by
  rw[Int.le_ediv_iff_mul_le hp]
  have:=Int.mul_le_mul_of_nonneg_left i (by omega:0<=-a)
  simp only[Int.neg_mul,W4c] at this
  omega
 omega
end
end
section
section
variable{P:Program}{N:Nat->Prop}{W:GW}{θ:Loc}{g:Hp}{ρ:Operand->Value}
variable{tb:Nat->Option TI}{d:Option Nat}{ty:TypeId}{pos:String}{aft:Array Edge}{gd:Option (Nat×Bool)}{args:List AV}{v:AV}
theorem You{x:Operand}(i:Obs W θ N g)(h:Fp tb (.move x) args=some v)(ha:Xbq W θ g ρ [x] args): Good P N W θ g ρ ⟨d,.move x,ty,pos,aft,gd⟩ v g:=by
 simp only[Fp] at h
 split at h<;>try cases h
 exact .val i rfl ha.1.1 ha.1.2
theorem Ypv{x:Operand}(i:Obs W θ N g)(h:Fp tb (.assign x) args=some v)(ha:Xbq W θ g ρ [x] args): Good P N W θ g ρ ⟨d,.assign x,ty,pos,aft,gd⟩ v g:=by
 simp only[Fp] at h
 split at h<;>try cases h
 exact .val i rfl ha.1.1 ha.1.2
theorem Yfq{c x y:Operand}(i:Obs W θ N g)(h:Fp tb (.pick c x y) args=some v)(ha:Xbq W θ g ρ [c,x,y] args): Good P N W θ g ρ ⟨d,.pick c x y,ty,pos,aft,gd⟩ v g:=by
 simp only[Fp] at h
 split at h<;>try cases h
 exact .val i (by simp only[execOp,V_b ha.1.1];rfl) ha.2.1.1 ha.2.1.2
 exact .val i (by simp only[execOp,V_b ha.1.1];rfl) ha.2.2.1.1 ha.2.2.1.2
theorem Ylp{x:Operand}{i:Nat}(o:Obs W θ N g)(h:Fp tb (.extract x i) args=some v)(ha:Xbq W θ g ρ [x] args): Good P N W θ g ρ ⟨d,.extract x i,ty,pos,aft,gd⟩ v g:=by
 simp only[Fp] at h
 split at h<;>try cases h
 obtain⟨Z,I,M⟩:=ha.1.1
 obtain⟨w,O,T,U⟩:=Ykc h M
 exact .val o (by simp only[execOp,I,Instr.extract,List.getElem?_toArray,O];rfl) T λj V=>ha.1.2 j (U j V)
theorem Yn4{u:UnOp}{x:Operand}{T:TypeId}(j:Obs W θ N g)(i:Fp tb (.unOp u T x) args=some v)(ha:Xbq W θ g ρ [x] args): Good P N W θ g ρ ⟨d,.unOp u T x,ty,pos,aft,gd⟩ v g:=by
 cases u<;>simp only[Fp] at i<;>try cases i
 all_goals (split at i<;>try cases i)
 all_goals first
  | exact .val j (by simp only[execOp,V_b ha.1.1,Op.unary];rfl) (b_V _) (λ_ h=>h.elim)
  | exact .val j (by simp only[execOp,(Xcw ha.1.1).1,Op.unary,Op.intArith];rfl) (int_V (Xgm _ _)) (λ_ h=>h.elim)
  | (obtain⟨c, o, I⟩ := V_q ha.1.1
     exact .val j (by simp only[execOp,o,Op.unary];rfl) (q_V (by cases c<;>simp_all)) (λ_ h=>h.elim))
theorem Yml{op:BinOp}{k:IntKind}{a b:Int}{T:TypeId}(h:op≠.shl)(i:op≠.shr): binOp op T (.int k a) (.int k b)=(match op with
 | .add | .sub | .mul=>Op.intArith op k a b
 | .quo | .rem=>Op.intDiv op k a b
 | .and | .or | .xor | .andNot=>Op.intBits op k a b
 | _=>Op.intCmp op a b):=by
 cases op<;>first
  | exact absurd rfl h
  | exact absurd rfl i
  | (simp only[binOp,if_neg (λe:¬(k=k)=>e rfl)])
theorem Ygk{op:BinOp}{k:IntKind}{a b:Int}(ha:inR k a)(hb:inR k b)(o:op≠.shl)(I:op≠.shr)(j:Ynk op k a b=some v)(T:TypeId):
 ∃u,(binOp op T (.int k a) (.int k b)).run P W.w=.ok u W.w/\AV.V W θ v u/\∀i,¬v.ids i:=by
 rw[Yml o I]
 cases op<;>simp only[Ynk] at j<;>try cases j
 case add | sub | mul | and | or | xor | andNot=>exact⟨_,rfl,int_V (Xgm _ _),λ_ h=>h⟩
 case eql | neq | lss | leq | gtr | geq=>exact⟨_,rfl,Yl6 (by simp),λ_ h=>h⟩
 case quo =>
  split at j<;>try cases j
  rename_i h0
  exact⟨_,by simp only[Op.intDiv,if_neg h0];rfl,int_V (Xgm _ _),λ_ h=>h⟩
 case rem =>
  split at j<;>try cases j
  rename_i h0
  exact⟨_,by simp only[Op.intDiv,if_neg h0];rfl,int_V (Yai ha),λ_ h=>h⟩
theorem Xxm{op:BinOp}{T:TypeId}{x y:Operand}{a b:Value}(h:∀c,a≠.agg c)(i:a≠.nilIface): (eqGuard op T x y a b).run P W.w=.ok () W.w:=by
 unfold eqGuard
 cases op<;>first
  | rfl
  | (cases a<;>first
   | rfl
   | exact absurd rfl (h _)
   | exact absurd rfl i)
theorem Xhk{op:BinOp}{T T':TypeId}{x y:Operand}{u:Value}(h:∀c,ρ x≠.agg c)(i:ρ x≠.nilIface)(hr:(binOp op T (ρ x) (ρ y)).run P W.w=.ok u W.w):
 (execOp ρ ⟨d,.binOp op T x y T',ty,pos,aft,gd⟩).run P W.w=.ok (.value u) W.w:=by
 show (((eqGuard op T x y (ρ x) (ρ y)).bind λ_=>binOp op T (ρ x) (ρ y)).bind _).run P W.w=_
 rw[Xvm _ _ W.w W.w u (by rw[Xvm _ _ _ _ _ (Xxm h i)];exact hr)]
 rfl
theorem Xty{op:BinOp}{T T':TypeId}{x y:Operand}{a c:AV}{O:Option TI}(j:Yb6 O op y a c=some v)(ha:AV.V W θ a (ρ x))(U:AV.V W θ c (ρ y)){k Z:IntKind}{z o:Int}(e1:a=.d (.int k z))(e2:c=.d (.int Z o)):
 ∃u,(execOp ρ ⟨d,.binOp op T x y T',ty,pos,aft,gd⟩).run P W.w=.ok (.value u) W.w/\AV.V W θ v u/\∀i,¬v.ids i:=by
 subst e1;subst e2
 obtain⟨I,r1⟩:=Xcw ha
 obtain⟨h2,r2⟩:=Xcw U
 have M:∃u,(binOp op T (ρ x) (ρ y)).run P W.w=.ok u W.w/\AV.V W θ v u/\∀i,¬v.ids i:=by
  rw[I,h2]
  simp only[Yb6] at j
  split at j
  split at j<;>try cases j
  rename_i h0
  exact⟨.int k (k.wrap (z*2^(min o.toNat k.bits))),by simp[binOp,Op.shift,h0],int_V (Xgm _ _),λ_ h=>h⟩
  split at j<;>try cases j
  rename_i h0
  exact⟨.int k (z.fdiv (2^(min o.toNat k.bits))),by simp[binOp,Op.shift,h0],int_V (Yaj r1 _),λ_ h=>h⟩
  rename_i n1 n2
  split at j<;>try cases j
  rename_i hk
  subst hk
  exact Ygk r1 r2 n1 n2 j T
 obtain⟨u,hu,hv,hi⟩:=M
 exact⟨u,Xhk (by rw[I];exact λ_=>nofun) (by rw[I];nofun) hu,hv,hi⟩
theorem Xny{T:TypeId}{a b:Value}{c:Bool}(h:∀m,(Op.equalIn (m+1) T a b).run P W.w=.ok c W.w): (Op.equal T a b).run P W.w=.ok c W.w:=h 9999
theorem Xmg{op:BinOp}{T:TypeId}{a b:Value}{c:Bool}(h:(Op.equal T a b).run P W.w=.ok c W.w)(i:op=.eql\/op=.neq)
 (hb:binOp .eql T a b=(Op.equal T a b >>= λr=>pure (.bool r))/\binOp .neq T a b=(Op.equal T a b >>= λr=>pure (.bool (!r)))) :
 (binOp op T a b).run P W.w=.ok (.bool (match op with | .eql=>c | _=>!c)) W.w:=by
 rcases i with rfl | rfl
 rw[hb.1,Sem.run_bind,h];rfl
 rw[hb.2,Sem.run_bind,h];rfl
theorem Ydr{a:AV}{v:Value}(j:Ygh a=true)(this:AV.V W θ a v): ∃p n k,v=.slice p n k/\(p.isNone=true->Ypc a):=by
 unfold Ygh at j
 split at j
 obtain⟨p,k,e,_,_,h⟩:=V_sl this;exact⟨_,_,_,e,λhp=>h.elim id λ⟨b,off,i,_⟩=>by rw[i] at hp;cases hp⟩
 obtain⟨p,e⟩:=Xol this;exact⟨_,_,_,e,λ_=>trivial⟩
 obtain⟨p,e,_,h⟩:=Xt5 this;exact⟨_,_,_,e,λhp=>h.elim id λ⟨b,i,_⟩=>by rw[i] at hp;cases hp⟩
 obtain⟨b,p,_,_,_,e,_⟩:=Xf1 this;exact⟨_,_,_,e,λ_=>trivial⟩
 obtain⟨b,p,_,_,_,e,_⟩:=Xqd this;exact⟨_,_,_,e,λ_=>trivial⟩
 rename_i xs
 obtain⟨p,e,h0,i,_,h⟩:=Yp0 this
 refine⟨_,_,_,e,λhp=>h.elim id λ⟨b,hb,_⟩=>?_⟩
 rcases h0 with h0 | h0
 exact W0m (by omega)
 rw[h0,hb] at hp;cases hp
 cases j
theorem Xtx{op:BinOp}{T T':TypeId}{x y:Operand}{s t:List UInt8}{M:Option TI}(j:Yb6 M op y (.d (.str s)) (.d (.str t))=some v)(ha:AV.V W θ (.d (.str s)) (ρ x))(O:AV.V W θ (.d (.str t)) (ρ y)):
 ∃u,(execOp ρ ⟨d,.binOp op T x y T',ty,pos,aft,gd⟩).run P W.w=.ok (.value u) W.w/\AV.V W θ v u/\∀i,¬v.ids i:=by
 obtain⟨o,r1⟩:=Xyq ha
 obtain⟨U,r2⟩:=Xyq O
 have el:∀l:List UInt8,(ByteArray.mk l.toArray).toList=l:=λl=>by rw[ByteArray.toList_eq]
 have I:∃u,(binOp op T (ρ x) (ρ y)).run P W.w=.ok u W.w/\AV.V W θ v u/\∀i,¬v.ids i:=by
  rw[o,U]
  simp only[Yb6] at j
  split at j<;>try cases j
  split at j<;>cases j
  rename_i Z
  refine⟨.string ⟨(s++t).toArray⟩,?_,Xte (by simpa using Z),λ_ h=>h⟩
  rw[binOp_string_add,run_string_add_sum _ _ _ (by show s.length+t.length<=_;omega),ByteArray.mk_append_mk]
  refine⟨.bool (s==t),?_,Yl6 (by simp),λ_ h=>h⟩
  rw[binOp_string_eql,el,el];rfl
  refine⟨.bool (!(s==t)),?_,Yl6 (by simp),λ_ h=>h⟩
  rw[binOp_string_neq,el,el];rfl
 obtain⟨u,hu,hv,hi⟩:=I
 exact⟨u,Xhk (by rw[o];exact λ_=>nofun) (by rw[o];nofun) hu,hv,hi⟩
theorem Ymk{op:BinOp}{T T':TypeId}{x y:Operand}(hT:∀T ti,tb T=some ti->TyOk P T ti)(hO:Obs W θ N g)(j:Fp tb (.binOp op T x y T') args=some v)(ha:Xbq W θ g ρ [x,y] args)(hy:∀u,y=.const u->ρ y=u):
 Good P N W θ g ρ ⟨d,.binOp op T x y T',ty,pos,aft,gd⟩ v g:=by
 simp only[Fp] at j
 split at j<;>try cases j
 rename_i a c
 have hfin:(∃u,(execOp ρ ⟨d,.binOp op T x y T',ty,pos,aft,gd⟩).run P W.w=.ok (.value u) W.w/\AV.V W θ v u/\∀i,¬v.ids i)->Good P N W θ g ρ ⟨d,.binOp op T x y T',ty,pos,aft,gd⟩ v g :=
  λ⟨u,o,h2,h3⟩=>.val hO o h2 λi hi=>absurd hi (h3 i)
 refine hfin ?_
 have I:=j
 unfold Yb6 at j
 split at j
 exact Xty I ha.1.1 ha.2.1.1 rfl rfl
 exact Xtx I ha.1.1 ha.2.1.1
 clear I
 split at j
 rename_i ti _ _ _ M
 obtain⟨t,u1,u2,u3⟩:=(hT _ _ M).u
 have u3:t=.bool:=u3
 subst u3
 split at j<;>try cases j
 rename_i p q hp hq
 obtain⟨b1,U,i1⟩:=Yhm hp ha.1.1
 obtain⟨b2,Z,i2⟩:=Yhm hq ha.2.1.1
 have o:=Xny (P:=P) (W:=W) (λm=>Xzu (P:=P) u1 b1 b2 W.w m)
 split at j<;>try cases j
 refine⟨_,Xhk (by rw[U];exact λ_=>nofun) (by rw[U];nofun) (by rw[U,Z];exact Xmg o (.inl rfl) ⟨rfl,rfl⟩),Yl6 ?_,λ_ h=>h⟩
 rw[<-i1,<-i2];cases b1<;>cases b2<;>simp
 refine⟨_,Xhk (by rw[U];exact λ_=>nofun) (by rw[U];nofun) (by rw[U,Z];exact Xmg o (.inr rfl) ⟨rfl,rfl⟩),Yl6 ?_,λ_ h=>h⟩
 rw[<-i1,<-i2];cases b1<;>cases b2<;>simp
 rename_i sz xs _ _ _ M
 obtain⟨t,u1,u2,E,u3,_⟩:=(hT _ _ M).u
 subst u3
 have hs:Ygh a=true->∃p n k,ρ x=.slice p n k/\(p.isNone=true->Ypc a):=λhs=>Ydr hs ha.1.1
 have o:∀p n k,(Op.equal T (.slice p n k) (.slice none 0 0)).run P W.w=.ok p.isNone W.w:=λp n k=>Xny λm=>by
  cases p<;>simp[Op.equalIn,run_underlying u1]
 split at j<;>try cases j
 rename_i O
 obtain⟨p,n,k,e,he⟩:=hs O
 have Z:=hy _ rfl
 exact⟨_,Xhk (by rw[e];exact λ_=>nofun) (by rw[e];nofun) (by rw[e,Z];exact Xmg (o p n k) (.inl rfl) ⟨rfl,rfl⟩),Yp9 _ he,λ_ h=>h⟩
 rename_i O
 obtain⟨p,n,k,e,he⟩:=hs O
 have Z:=hy _ rfl
 exact⟨_,Xhk (by rw[e];exact λ_=>nofun) (by rw[e];nofun) (by rw[e,Z];exact Xmg (o p n k) (.inr rfl) ⟨rfl,rfl⟩),Yp9 _ (λ_=>trivial),λ_ h=>h⟩
 cases j
theorem Xmp: ∀ {xs:List D} {s:List UInt8},Yhg xs=some s->∃zs:List Int,xs=zs.map (λz=>D.int .u8 z)/\s=zs.map λz=>UInt8.ofNat z.toNat
 | [],s,h=>by simp only[Yhg,Option.some.injEq] at h;subst h;exact⟨[],rfl,rfl⟩
 | x::xs,s,h=>by
  unfold Yhg at h
  split at h
  rename_i e;cases e
  rename_i z l e
  injection e with i j;subst i;subst j
  split at h<;>cases h
  rename_i s' o
  obtain⟨zs,a,b⟩:=Xmp o
  exact⟨z::zs,by rw[a];rfl,by rw[b];rfl⟩
  cases h
theorem Xfv: ∀(zs:List Int) (acc:List UInt8),zs.foldl (λ(r:ByteArray) n=>r.push (UInt8.ofNat n.toNat)) ⟨acc.toArray⟩=⟨(acc++zs.map λz=>UInt8.ofNat z.toNat).toArray⟩
 | [],acc=>by simp
 | z::zs,acc=>by
  rw[List.foldl_cons,show (ByteArray.mk acc.toArray).push (UInt8.ofNat z.toNat)=⟨(acc++[UInt8.ofNat z.toNat]).toArray⟩ by simp[ByteArray.push],Xfv zs]
  simp
theorem Xyc{b off n c:Nat}{zs:List Int}(hr:D.Row W b 1 off (zs.map λz=>D.int .u8 z))(O:n=zs.length): (Conv.bytesToString (.slice (some ⟨b,off,none⟩) n c)).run P W.w=.ok (.string ⟨(zs.map λz=>UInt8.ofNat z.toNat).toArray⟩) W.w:=by
 rw[run_bytesToString W.w _ _ _ zs (by
  have h:=run_loadCells (P:=P) (b:=b) (off:=off) (w:=W.w) (zs.map (Value.int .u8)) 0 #[] (λj v o=>by
   rw[W2c] at o
   cases I:zs[j]? with
   | none=>rw[I] at o;cases o
   | some z =>
    rw[I] at o;injection o with o;subst o
    obtain⟨e,M,_,T⟩:=D.row_get hr (i:=j) (x:=.int .u8 z) (by rw[W2c,I];rfl)
    have M:=M.1
    subst M
    have:=(T 0 _ rfl).1
    simpa using this)
  simp only[W1k] at h
  rw[O]
  simpa [loadCells] using h)]
 have:=Xfv zs []
 rw[show (ByteArray.empty:ByteArray)=⟨([]:List UInt8).toArray⟩ from rfl,this]
 simp
theorem Xyb{a:AV}{s:List UInt8}{u:Value}(h:Ym9 a=some s)(ha:AV.V W θ a u): ∃r p n c,u=.slice p n c/\(Conv.bytesToString (.slice p n c)).run P W.w=.ok r W.w/\AV.V W θ (.d (.str s)) r:=by
 have i:∀ {xs:List D},Yhg xs=some s->AV.V W θ (.d (.sl 1 xs)) u->∃r p n c,u=.slice p n c/\(Conv.bytesToString (.slice p n c)).run P W.w=.ok r W.w/\AV.V W θ (.d (.str s)) r:=by
  intro xs I M
  obtain⟨p,c,e,O,U,j⟩:=V_sl M
  obtain⟨o,rfl,rfl⟩:=Xmp I
  simp only[W1k] at O
  refine⟨.string ⟨(o.map λz=>UInt8.ofNat z.toNat).toArray⟩,p,_,c,e,?_,Xte (by simp;omega)⟩
  rcases j with j | ⟨b,off,hp,T⟩
  have:o=[]:=by simpa using j
  subst this
  cases p with
  | none=>rfl
  | some a=>exact run_bytesToString W.w a _ _ [] rfl
  subst hp
  exact Xyc T (by simp)
 unfold Ym9 at h
 split at h
 exact i h ha
 exact i h (Xid ha)
 cases h
theorem Yha{S T:TypeId}{x:Operand}(I:∀T ti,tb T=some ti->TyOk P T ti)(Z:Obs W θ N g)(i:Fp tb (.convert S T x) args=some v)(ha:Xbq W θ g ρ [x] args): Good P N W θ g ρ ⟨d,.convert S T x,ty,pos,aft,gd⟩ v g:=by
 simp only[Fp] at i
 split at i<;>try cases i
 split at i<;>try cases i
 rename_i M U
 obtain⟨t,O,_⟩:=(I _ _ M).u
 obtain⟨V,o,_,j⟩:=(I _ _ U).u
 have j:V=.int _:=j
 subst j
 exact .val Z (by
  simp only[execOp,(Xcw ha.1.1).1,convert,Conv.intToInt,underlying,program,bind,Sem.bind,Sem.run,pure,O,o]) (int_V (Xgm _ _)) (λ_ h=>h.elim)
 split at i<;>try cases i
 rename_i M U
 split at i<;>cases i
 rename_i s hs
 obtain⟨t,O,_,E,j,_⟩:=(I _ _ M).u
 subst j
 obtain⟨V,o,_,j⟩:=(I _ _ U).u
 have j:V=.string:=j
 subst j
 have ue:=(I _ _ M).k E _ _ O rfl
 obtain⟨u,p,n,c,e,hu,hv⟩:=Xyb (P:=P) (W:=W) (θ:=θ) hs ha.1.1
 refine .val Z ?_ hv (λ_ h=>h.elim)
 simp only[execOp,e]
 rw[Sem.run_bind,run_convert_bytes_string W.w S T E p n c O ue o,hu]
 rfl
theorem Xpv{n:Nat}(h:n<9223372036854775808): inR .i64 (n:Int):=by
 rw[Xpw];show (-9223372036854775808:Int)<=n/\(n:Int)<=9223372036854775807;omega
theorem Ykr{o:Array TypeId}{x:Operand}(hT:∀T ti,tb T=some ti->TyOk P T ti)(hO:Obs W θ N g)(i:Fp tb (.call ⟨.builtin .len,#[x],o⟩) args=some v)(ha:Xbq W θ g ρ [x] args):
 Good P N W θ g ρ ⟨d,.call ⟨.builtin .len,#[x],o⟩,ty,pos,aft,gd⟩ v g:=by
 simp only[Fp] at i
 split at i<;>try cases i
 rename_i a T ht
 split at i<;>try cases i
 case h_2 =>
  rename_i j
  obtain⟨t,M,_,I⟩:=(hT _ _ j).u
  have I:t=.string:=I
  subst I
  split at i<;>cases i
  rename_i s
  obtain⟨e,hl⟩:=Xyq ha.1.1
  have e2:(ByteArray.mk s.toArray).size=s.length:=by show s.toArray.size=_;simp
  exact .val hO (by simp[execOp,resolve,invoke,builtin,Builtin.len_,e,underlying,program,bind,Sem.bind,Sem.run,pure,M,goInt,ht,e2]) (int_V (Xpv hl)) (λ_ h=>h.elim)
 rename_i j
 obtain⟨t,M,_,E,I,_⟩:=(hT _ _ j).u
 subst I
 split at i<;>try cases i
 rename_i n O
 have U:∃p c,ρ x=.slice p n c/\n<9223372036854775808:=by
  have:=ha.1.1
  unfold Yq4 at O
  split at O<;>try cases O
  obtain⟨p,c,e,j,V,_⟩:=V_sl this;exact⟨_,_,e,by omega⟩
  obtain⟨p,e,_,j,V,_⟩:=Yp0 this;exact⟨_,_,e,by omega⟩
  obtain⟨b,e,j,_⟩:=Xt5 this;exact⟨_,_,e,j⟩
  obtain⟨p,e⟩:=Xol this;exact⟨_,_,e,by decide⟩
  obtain⟨b,p,_,j,V,e,_⟩:=Xf1 this;exact⟨_,_,e,by omega⟩
  obtain⟨b,p,_,j,V,e,_⟩:=Xqd this;exact⟨_,_,e,by omega⟩
 obtain⟨p,c,e,Z⟩:=U
 exact .val hO (by simp[execOp,resolve,invoke,builtin,Builtin.len_,e,underlying,program,bind,Sem.bind,Sem.run,pure,M,goInt,ht]) (int_V (Xpv Z)) (λ_ h=>h.elim)
theorem Ymf{i:Array TypeId}{x:Operand}(o:∀T ti,tb T=some ti->TyOk P T ti)(I:Obs W θ N g)(j:Fp tb (.call ⟨.builtin .cap,#[x],i⟩) args=some v)(ha:Xbq W θ g ρ [x] args):
 Good P N W θ g ρ ⟨d,.call ⟨.builtin .cap,#[x],i⟩,ty,pos,aft,gd⟩ v g:=by
 simp only[Fp] at j
 split at j<;>try cases j
 rename_i T M
 split at j<;>try cases j
 rename_i O
 obtain⟨t,U,_,E,V,_⟩:=(o _ _ O).u
 subst V
 obtain⟨p,e⟩:=Xol ha.1.1
 exact .val I (by simp[execOp,resolve,invoke,builtin,Builtin.cap_,e,underlying,program,bind,Sem.bind,Sem.run,pure,U,goInt,M]) (int_V (Xpv (n:=0) (by decide))) (λ_ h=>h.elim)
theorem Ykm{i:Array TypeId}{x y:Operand}(o:Obs W θ N g)(j:Fp tb (.call ⟨.builtin .min,#[x,y],i⟩) args=some v)(ha:Xbq W θ g ρ [x,y] args):
 Good P N W θ g ρ ⟨d,.call ⟨.builtin .min,#[x,y],i⟩,ty,pos,aft,gd⟩ v g:=by
 simp only[Fp] at j
 split at j<;>try cases j
 split at j<;>try cases j
 rename_i I;subst I
 obtain⟨M,r1⟩:=Xcw ha.1.1
 obtain⟨O,T⟩:=Xcw ha.2.1.1
 exact .val o (by simp[execOp,resolve,invoke,builtin,Builtin.min_,Builtin.min2,M,O,bind,Sem.bind,Sem.run,pure]) (int_V (by split<;>assumption)) (λ_ h=>h.elim)
theorem Yko{i:Array TypeId}{x y:Operand}(o:Obs W θ N g)(j:Fp tb (.call ⟨.builtin .max,#[x,y],i⟩) args=some v)(ha:Xbq W θ g ρ [x,y] args):
 Good P N W θ g ρ ⟨d,.call ⟨.builtin .max,#[x,y],i⟩,ty,pos,aft,gd⟩ v g:=by
 simp only[Fp] at j
 split at j<;>try cases j
 split at j<;>try cases j
 rename_i I;subst I
 obtain⟨M,r1⟩:=Xcw ha.1.1
 obtain⟨O,T⟩:=Xcw ha.2.1.1
 exact .val o (by simp[execOp,resolve,invoke,builtin,Builtin.max_,Builtin.max2,M,O,bind,Sem.bind,Sem.run,pure]) (int_V (by split<;>assumption)) (λ_ h=>h.elim)
theorem Yfw{x:Operand}(i:Obs W θ N g)(h:Fp tb (.nilCheck x) args=some v)(ha:Xbq W θ g ρ [x] args): Good P N W θ g ρ ⟨d,.nilCheck x,ty,pos,aft,gd⟩ v g:=by
 simp only[Fp] at h
 split at h<;>try cases h
 obtain⟨b,j,e⟩:=Xj4 ha.1.1
 exact .val i (by simp only[execOp,e];rfl) (Xtm j) ha.1.2
theorem Xx0: ∀(x:D),∀c∈x.comps,0<c.size:=by
 have i:∀x:D,0<x.size:=λx=>by
  induction x using D.ind with
  | leaf x j o=>cases x<;>first | exact absurd rfl (j _) | exact absurd rfl (o _ _) | exact W7t
  | st a h=>exact h
  | pr a c h _=>exact W0y h (W6i _ _)
 intro x c _;exact i c
theorem Xxe{T:TypeId}{ti:TI}(h:TyOk P T ti){z:D}(M:ti.z=.st z)(h0:ti.arr=0){f:Nat}(hf:f<z.comps.length):
 ∃fs j i,P.underlying T=some (.struct fs)/\fs[f]?=some j/\j.offset=Xhv z.comps f/\P.info? j.type=some i/\i.size≠0/\i.size=z.comps[f].size/\∃t,P.underlying j.type=some t/\Ybz t=z.comps[f].ag/\(z.comps[f].ag=false->z.comps[f].size=1):=by
 obtain⟨t,O,_,o⟩:=h.u
 rw[M] at o
 simp only[h0,if_true] at o
 obtain⟨fs,e,_,U⟩:=o
 subst e
 obtain⟨j,i,V,Z,g3,I,g5⟩:=U f z.comps[f] (W0e hf)
 exact⟨fs,j,i,O,V,Z,g3,by rw[I];exact Nat.ne_of_gt (Xx0 z _ (W6z hf)),I,g5⟩
theorem Xr2{a b:Nat}(h:Nat.blt a b=true): a<b:=W1e h
theorem Ylo{T f:Nat}{x:Operand}(hT:∀T ti,tb T=some ti->TyOk P T ti)(O:Obs W θ N g)(o:Fp tb (.fieldAddr T x f) args=some v)(ha:Xbq W θ g ρ [x] args): Good P N W θ g ρ ⟨d,.fieldAddr T x f,ty,pos,aft,gd⟩ v g:=by
 simp only[Fp] at o
 split at o<;>try cases o
 rename_i ti U
 split at o<;>try cases o
 rename_i z hz h0
 split at o<;>try cases o
 rename_i V
 obtain⟨fs,gg,i,u1,u2,u3,u4,u5,_⟩:=Xxe (hT _ _ U) hz h0 (Xr2 V)
 have I:∀b off,ρ x=.pointer (some ⟨b,off,none⟩)->(execOp ρ ⟨d,.fieldAddr T x f,ty,pos,aft,gd⟩).run P W.w=.ok (.value (.pointer (some ⟨b,off+Xhv z.comps f,none⟩))) W.w:=λb off e=>by
  simp[execOp,e,Instr.fieldAt,Instr.sureAddr,fieldPlace,sizeOf,typeInfo,underlying,program,bind,Sem.bind,Sem.run,pure,u1,u2,u3,u4,u5,add0]
 split at o<;>try cases o
 split at o<;>try cases o
 rename_i y hb hy
 obtain⟨b,off,e,M,h2,h3⟩:=Yre ha.1.1
 obtain⟨u,m,w,e1,e2,e3⟩:=Ylj hy h2
 have e4:=W0c hb
 refine .val O (I b off M) (Ypu e3 λj v Z=>?_) (λ_ h=>h.elim)
 have hj2:e[u.length+j]?=some v:=by
  rw[e1,W0n (by omega),W3v,W0q (by
   by_cases h:j<m.length
   exact h
   rw[W1y (by omega)] at Z;cases Z)]
  exact Z
 have:=h3 _ _ hj2
 rwa[e2,e4,<-W4z] at this
 obtain⟨b,M,e⟩:=Xj4 ha.1.1
 exact .val O (I b _ e) (Xtm M) ha.1.2
 obtain⟨b,M,e⟩:=Ynq ha.1.1
 exact .val O (I b _ e) (by rw[W4z];exact Ypd M) ha.1.2
end
end
section
section
variable{P:Program}{N:Nat->Prop}{W:GW}{θ:Loc}{g:Hp}{ρ:Operand->Value}
variable{tb:Nat->Option TI}{d:Option Nat}{ty:TypeId}{pos:String}{aft:Array Edge}{gd:Option (Nat×Bool)}{args:List AV}{v:AV}
theorem Xm7{T:TypeId}{t:TypeDesc}{w:World}{b:Bool}(h:P.underlying T=some t)(hb:Ybz t=b): (isAgg T).run P w=.ok b w:=by
 subst hb
 cases t<;>simp[isAgg,Ybz,underlying,program,bind,Sem.bind,Sem.run,pure,h]
theorem Xzt{T:TypeId}{t:TypeDesc}{i:TypeInfo}{w:World}{y:AV}{u m z:List Value}(h:P.underlying T=some t)(hb:Ybz t=y.ag)(hi:P.info? T=some i)(I:i.size=y.size)(o:AV.C W θ y m)(M:y.ag=false->y.size=1):
 (part T (u++(m++z)).toArray u.length).run P w=.ok (mkv y.ag m) w:=by
 unfold part
 have j:(sizeOf T).run P w=.ok y.size w:=by simp[sizeOf,typeInfo,program,bind,Sem.bind,Sem.run,pure,hi,I]
 rw[Sem.run_bind,Xm7 h hb]
 have O:=AV.c_len y o
 cases e:y.ag with
 | true =>
  simp only[Result.andThen_ok,if_true]
  rw[Sem.run_bind,j]
  simp only[Result.andThen_ok,mkv,if_true,pure,Sem.run]
  congr 2
  simp[<-O]
 | false =>
  obtain⟨c,rfl⟩:=Yhf o (M e)
  simp[mkv,pure,Sem.run]
theorem Yli{T f:Nat}{x:Operand}(hT:∀T ti,tb T=some ti->TyOk P T ti)(hO:Obs W θ N g)(j:Fp tb (.field T x f) args=some v)(ha:Xbq W θ g ρ [x] args): Good P N W θ g ρ ⟨d,.field T x f,ty,pos,aft,gd⟩ v g:=by
 simp only[Fp] at j
 split at j<;>try cases j
 rename_i ti Z
 split at j<;>try cases j
 rename_i z hz h0
 have O:∀ {y:AV} {cs u m w:List Value},Nat.blt f z.comps.length=true->ρ x=.agg cs.toArray->cs=u++(m++w)->u.length=Xhv z.comps f->AV.C W θ y m->y.size=((z.comps[f]?).getD (.bool false)).size->y.ag=((z.comps[f]?).getD (.bool false)).ag ->
  (∀i,y.ids i->∃k,g i=some k)->Good P N W θ g ρ ⟨d,.field T x f,ty,pos,aft,gd⟩ y g:=by
  intro y cs u m w h hx U V M o I hi
  have h:=Xr2 h
  rw[W0e h,W4m] at o I
  obtain⟨fs,gg,i,u1,u2,u3,u4,u5,u6,t,u7,u8,u9⟩:=Xxe (hT _ _ Z) hz h0 h
  have hp:=Xzt (P:=P) (θ:=θ) (w:=W.w) (u:=u) (z:=w) u7 (by rw[u8,I]) u4 (by rw[u6,o]) M (λe=>by
   rw[o];exact u9 (by rw[<-I];exact e))
  refine .val hO ?_ (Ymu M) hi
  rw[V,<-u3,<-U] at hp
  simp only[execOp,hx,Instr.field]
  rw[Sem.run_bind,Sem.run_bind,Xlo u1]
  simp only[Result.andThen_ok,u2]
  rw[Sem.run_bind]
  simp only[asAgg,pure,Sem.run,Result.andThen_ok]
  rw[hp];rfl
 split at j<;>try cases j
 split at j<;>try cases j
 rename_i y hy h
 obtain⟨cs,h1,h2⟩:=ha.1.1
 obtain⟨u,m,w,U,V,M,o,I⟩:=Xu3 hy (show D.At W _ cs from h1)
 exact O h h2 U V (Ynh M) (by rw[Xpj,o]) (by rw[Yfy,I]) (λi hi=>absurd hi (Xng _ _))
 split at j<;>try cases j
 rename_i h hy
 obtain⟨cs,h1,h2⟩:=ha.1.1
 obtain⟨u,m,w,U,V,M,o,I,e6⟩:=Ycm hy (show AV.C W θ _ cs from h1)
 exact O h h2 U V M o I (λi hi=>ha.1.2 i (e6 i hi))
theorem Yse{ti:TI}{j:Int}{a v:AV}{x:Value}(h:ixA ti j a=some v)(ha:AV.V W θ a x):
 ∃p n c b off q,x=.slice p n c/\p=some ⟨b,off,none⟩/\0<=j/\j<n/\q=off+j.toNat*ti.e.size/\AV.V W θ v (.pointer (some ⟨b,q,none⟩))/\∀i,v.ids i->a.ids i:=by
 have T:∀ {sz:Nat} {xs:List D},ixA.ixL ti j sz xs=some v->AV.V W θ (.d (.sl sz xs)) x ->
  ∃p n c b off q,x=.slice p n c/\p=some ⟨b,off,none⟩/\0<=j/\j<n/\q=off+j.toNat*ti.e.size/\AV.V W θ v (.pointer (some ⟨b,q,none⟩))/\∀i,¬v.ids i:=by
  intro sz xs U hv
  simp only[ixA.ixL] at U
  split at U<;>try cases U
  rename_i Z
  obtain⟨h0,hz⟩:=Z
  split at U<;>try cases U
  rename_i u hu
  obtain⟨p,c,e,I,O,o⟩:=V_sl hv
  have hlt:j.toNat<xs.length:=by
   by_cases h:j.toNat<xs.length
   exact h
   rw[W1y (by omega)] at hu;cases hu
  rcases o with o | ⟨b,off,hp,hr⟩
  rw[o] at hlt;cases hlt
  obtain⟨e',he,_,hf⟩:=D.row_get hr hu
  exact⟨p,_,c,b,off,_,e,hp,h0,by omega,rfl,Ypu he (by rw[<-hz];exact hf),λ_ h=>h⟩
 unfold ixA at h
 split at h<;>try cases h
 obtain⟨p,n,c,b,off,q,I,O,o,h4,M,h6,h7⟩:=T h ha
 exact⟨p,n,c,b,off,q,I,O,o,h4,M,h6,λi hi=>absurd hi (h7 i)⟩
 obtain⟨p,n,c,b,off,q,I,O,o,h4,M,h6,h7⟩:=T h (Xyr ha)
 exact⟨p,n,c,b,off,q,I,O,o,h4,M,h6,λi hi=>absurd hi (h7 i)⟩
 obtain⟨p,n,c,b,off,q,I,O,o,h4,M,h6,h7⟩:=T h (Xid ha)
 exact⟨p,n,c,b,off,q,I,O,o,h4,M,h6,λi hi=>absurd hi (h7 i)⟩
 split at h<;>try cases h
 rename_i Z
 obtain⟨h0,hn,hz⟩:=Z
 obtain⟨b,p,I,O,o,e,M⟩:=Xf1 ha
 refine⟨p,_,_,b,_,_,e,M (by omega),h0,by omega,rfl,?_,λi hi=>hi⟩
 rw[<-hz,<-W1f]
 exact Ypd (off:=0) I
 split at h<;>try cases h
 rename_i Z
 obtain⟨h0,hn,hz⟩:=Z
 obtain⟨b,p,I,O,o,e,M⟩:=Xqd ha
 refine⟨p,_,_,b,_,_,e,M (by omega),h0,by omega,rfl,?_,λi hi=>hi⟩
 rw[<-hz,<-W1f]
 exact Ypd (off:=0) I
theorem Yk7{T:TypeId}{x y:Operand}(hT:∀T ti,tb T=some ti->TyOk P T ti)(U:Obs W θ N g)(h:Fp tb (.indexAddr T x y) args=some v)(ha:Xbq W θ g ρ [x,y] args):
 Good P N W θ g ρ ⟨d,.indexAddr T x y,ty,pos,aft,gd⟩ v g:=by
 simp only[Fp] at h
 split at h<;>try cases h
 rename_i ti a k j I
 obtain⟨V,_⟩:=Xcw ha.2.1.1
 obtain⟨t,Z,_,o⟩:=(hT _ _ I).u
 split at h<;>try cases h
 rename_i sz xs M
 rw[M] at o
 obtain⟨E,e,_,_,i,v0,i1,i2,_⟩:=o
 subst e
 obtain⟨p,n,c,b,off,q,O,h2,h3,h4,h5,h6,h7⟩:=Yse h ha.1.1
 refine .val U ?_ h6 (λi hi=>ha.1.2 i (h7 i hi))
 simp[execOp,O,h2,V,Instr.indexAt,asIntOf,sizeOf,typeInfo,underlying,program,bind,Sem.bind,Sem.run,pure,Z,i1,i2,h3,h4,add0,h5]
 rename_i z M
 split at h<;>try cases h
 rename_i hc
 obtain⟨b,O,e⟩:=Xj4 ha.1.1
 rw[M] at o
 simp only[show ti.arr≠0 by omega,if_false] at o
 obtain⟨E,e1,i,v0,i1,i2,_⟩:=o
 subst e1
 refine .val U ?_ (Xtm O) ha.1.2
 simp[execOp,e,V,Instr.indexAt,Instr.sureAddr,asIntOf,sizeOf,typeInfo,underlying,program,bind,Sem.bind,Sem.run,pure,Z,i1,i2,hc.1,hc.2,add0]
theorem Ycx{T E sz:Nat}{x:Value}{p:Option Addr}{m c:Nat}{w:World}{i:TypeInfo}(u:P.underlying T=some (.slice E))(hi:P.info? E=some i)(j:i.size=sz)(o:x=.slice p m c){l h:Nat}{lo hi':Option Value}
 (I:lo=none/\l=0\/∃k,lo=some (.int k l)) (hh:hi'=none/\h=m\/∃k,hi'=some (.int k h)) (M:l<=h) (O:h<=c) :
 (Instr.sliceAt T x lo hi' none).run P w=.ok (.slice (if c=l then p else p.map (·.add (l*sz))) (h-l) (c-l)) w:=by
 subst o
 rcases I with ⟨e,U⟩ | ⟨k,e⟩<;>rcases hh with ⟨f,V⟩ | ⟨Z,f⟩<;>subst e<;>subst f<;>(try subst U)<;>(try subst V) <;>
  simp[Instr.sliceAt,Instr.slice,Instr.sliceBounds,Instr.sliceBound,asIntOf,sizeOf,typeInfo,underlying,program,bind,Sem.bind,Sem.run,pure,u,hi,j,M,O]
theorem Xo6{sz:Nat}{xs:List D}{x:Value}(ha:AV.V W θ (.d (.sl sz xs)) x){l h:Nat}(I:l<=h)(M:h<=xs.length):
 ∃p c,x=.slice p xs.length c/\h<=c/\AV.V W θ (.d (.sl sz ((xs.drop l).take (h-l)))) (.slice (if c=l then p else p.map (·.add (l*sz))) (h-l) (c-l)):=by
 obtain⟨p,c,e,O,T,i⟩:=V_sl ha
 refine⟨p,c,e,by omega,Yoc (by simp;omega) (by simp;omega) (by omega) ?_⟩
 by_cases j:(xs.drop l).take (h-l)=[]
 exact .inl j
 have:¬c=l:=λU=>j (W5b.1 (by simp;omega))
 rcases i with i | ⟨b,off,hp,o⟩
 exact absurd (by rw[i];simp) j
 exact .inr ⟨b,off+l*sz,by rw[if_neg this,hp];simp[add0],D.row_sub o l (h-l)⟩
def Bd(m:Nat)(lo hi:Option Int)(l h:Nat): Prop:=(lo=none/\l=0\/lo=some (l:Int))/\(hi=none/\h=m\/hi=some (h:Int))/\l<=h/\h<=m
theorem Xu9{sz:Nat}{xs:List D}{lo hi:Option Int}(h:slA.slL sz xs lo hi=some v): ∃l k,Bd xs.length lo hi l k/\v=.d (.sl sz ((xs.drop l).take (k-l))):=by
 cases lo<;>cases hi<;>simp only[slA.slL] at h
 injection h with h;exact⟨0,xs.length,⟨.inl ⟨rfl,rfl⟩,.inl ⟨rfl,rfl⟩,W0r _,W0a _⟩,by simp[<-h]⟩
 split at h<;>try cases h
 rename_i z i
 exact⟨0,z.toNat,⟨.inl ⟨rfl,rfl⟩,.inr (by rw[W2w i.1]),W0r _,by omega⟩,by simp⟩
 split at h<;>try cases h
 rename_i z i
 exact⟨z.toNat,xs.length,⟨.inr (by rw[W2w i.1]),.inl ⟨rfl,rfl⟩,by omega,W0a _⟩,by
  rw[W0b (by simp)]⟩
 split at h<;>try cases h
 rename_i z j i
 exact⟨z.toNat,j.toNat,⟨.inr (by rw[W2w i.1]),.inr (by rw[W2w (by omega)]),by omega,by omega⟩,rfl⟩
theorem Yod{lo hi:Option Int}{a:AV}{x:Value}(h:slA lo hi a=some v)(ha:AV.V W θ a x):
 ∃p m c l k,Bd m lo hi l k/\k<=c/\x=.slice p m c/\(∀sz,(∀s xs,a=.d (.sl s xs)\/a=.lit s xs->s=sz)->(∀o s xs,a=.gr o s xs->s=sz)->(∀o s l n,a=.own o s l n\/a=.ow3 o s l n->s=sz) ->
  AV.V W θ v (.slice (if c=l then p else p.map (·.add (l*sz))) (k-l) (c-l)))/\∀i,v.ids i->a.ids i:=by
 unfold slA at h
 split at h<;>try cases h
 obtain⟨l,k,hb,e⟩:=Xu9 h
 subst e
 obtain⟨p,c,Z,e2,e3⟩:=Xo6 ha hb.2.2.1 hb.2.2.2
 exact⟨p,_,c,l,k,hb,e2,Z,λsz T _ _=>by rw[<-T _ _ (.inl rfl)];exact e3,λ_ h=>h.elim⟩
 obtain⟨l,k,hb,e⟩:=Xu9 h
 subst e
 obtain⟨p,c,Z,e2,e3⟩:=Xo6 (Xyr ha) hb.2.2.1 hb.2.2.2
 exact⟨p,_,c,l,k,hb,e2,Z,λsz _ T _=>by rw[<-T _ _ _ rfl];exact e3,λ_ h=>h.elim⟩
 obtain⟨l,k,hb,e⟩:=Xu9 h
 subst e
 obtain⟨p,c,Z,e2,e3⟩:=Xo6 (Xid ha) hb.2.2.1 hb.2.2.2
 exact⟨p,_,c,l,k,hb,e2,Z,λsz T _ _=>by rw[<-T _ _ (.inr rfl)];exact e3,λ_ h=>h.elim⟩
 rename_i o j l0 n
 obtain⟨b,p,T,h2,h3,e,h5⟩:=Xf1 ha
 have I:∀l k,Bd n lo hi l k->v=.own o j (l0+l) (k-l)->∃p m c l k,Bd m lo hi l k/\k<=c/\x=.slice p m c/\(∀sz,(∀s xs,AV.own o j l0 n=.d (.sl s xs)\/AV.own o j l0 n=.lit s xs->s=sz)->(∀O s xs,AV.own o j l0 n=.gr O s xs->s=sz)->(∀O s l U,AV.own o j l0 n=.own O s l U\/AV.own o j l0 n=.ow3 O s l U->s=sz) ->
  AV.V W θ v (.slice (if c=l then p else p.map (·.add (l*sz))) (k-l) (c-l)))/\∀i,v.ids i->(AV.own o j l0 n).ids i:=by
  intro l k hb hv
  subst hv
  refine⟨p,n,_,l,k,hb,by have:=hb.2.2.2;omega,e,λsz _ _ hs=>?_,λ_ h=>h⟩
  have:=hs _ _ _ _ (.inl rfl)
  subst this
  have hb1:=hb.2.2.1
  have hb2:=hb.2.2.2
  refine⟨_,⟨b,_,T,by omega,h3,rfl,?_⟩,by rw[Nat.sub_sub];rfl⟩
  intro M
  by_cases e0:(θ o).2-l0=l
  rw[if_pos e0]
  have:l0=0/\l=0:=by omega
  rw[h5 (.inl this.1),this.1,this.2]
  rw[if_neg e0,h5 (by omega)]
  simp[add0,W1f]
 cases lo<;>cases hi<;>simp only at h
 injection h with h;exact I 0 n ⟨.inl ⟨rfl,rfl⟩,.inl ⟨rfl,rfl⟩,W0r _,W0a _⟩ (by rw[<-h];rfl)
 split at h<;>try cases h
 rename_i z M
 exact I 0 z.toNat ⟨.inl ⟨rfl,rfl⟩,.inr (by rw[W2w M.1]),W0r _,by omega⟩ rfl
 split at h<;>try cases h
 rename_i z M
 exact I z.toNat n ⟨.inr (by rw[W2w M.1]),.inl ⟨rfl,rfl⟩,by omega,W0a _⟩ rfl
 split at h<;>try cases h
 rename_i z z' M
 exact I z.toNat z'.toNat ⟨.inr (by rw[W2w M.1]),.inr (by rw[W2w (by omega)]),by omega,by omega⟩ rfl
 rename_i o j l0 n
 obtain⟨b,p,T,h2,h3,e,h5⟩:=Xqd ha
 have I:∀l,l<=n->(lo=none/\l=0\/lo=some (l:Int))->hi=none->v=.ow3 o j (l0+l) (n-l)->∃p m c l k,Bd m lo hi l k/\k<=c/\x=.slice p m c/\(∀sz,(∀s xs,AV.ow3 o j l0 n=.d (.sl s xs)\/AV.ow3 o j l0 n=.lit s xs->s=sz)->(∀O s xs,AV.ow3 o j l0 n=.gr O s xs->s=sz)->(∀O s l U,AV.ow3 o j l0 n=.own O s l U\/AV.ow3 o j l0 n=.ow3 O s l U->s=sz) ->
  AV.V W θ v (.slice (if c=l then p else p.map (·.add (l*sz))) (k-l) (c-l)))/\∀i,v.ids i->(AV.ow3 o j l0 n).ids i:=by
  intro l hln hb hhi hv
  subst hv
  refine⟨p,n,n,l,n,⟨hb,.inl ⟨hhi,rfl⟩,hln,W0a _⟩,W0a _,e,λsz _ _ hs=>?_,λ_ h=>h⟩
  have:=hs _ _ _ _ (.inr rfl)
  subst this
  refine⟨_,⟨b,_,T,by omega,h3,rfl,?_⟩,rfl⟩
  intro M
  by_cases e0:n=l
  rw[if_pos e0]
  have:l0=0/\l=0:=by omega
  rw[h5 (.inl this.1),this.1,this.2]
  rw[if_neg e0,h5 (by omega)]
  simp[add0,W1f]
 cases lo<;>cases hi<;>simp only at h<;>try cases h
 exact I 0 (W0r _) (.inl ⟨rfl,rfl⟩) rfl rfl
 split at h<;>try cases h
 rename_i z M
 exact I z.toNat (by omega) (.inr (by rw[W2w M.1])) rfl rfl
 obtain⟨p,e⟩:=Xol ha
 have I:Bd 0 lo hi 0 0->v=.nil->∃p m c l k,Bd m lo hi l k/\k<=c/\x=.slice p m c/\(∀sz,(∀s xs,AV.nil=.d (.sl s xs)\/AV.nil=.lit s xs->s=sz)->(∀O s xs,AV.nil=.gr O s xs->s=sz)->(∀O s l U,AV.nil=.own O s l U\/AV.nil=.ow3 O s l U->s=sz) ->
  AV.V W θ v (.slice (if c=l then p else p.map (·.add (l*sz))) (k-l) (c-l)))/\∀i,v.ids i->AV.nil.ids i:=by
  intro hb hv
  subst hv
  exact⟨p,0,0,0,0,hb,W0a _,e,λ_ _ _ _=>⟨_,⟨_,rfl⟩,rfl⟩,λ_ h=>h⟩
 cases lo<;>cases hi<;>simp only at h
 injection h with h;exact I ⟨.inl ⟨rfl,rfl⟩,.inl ⟨rfl,rfl⟩,W0a _,W0a _⟩ h.symm
 split at h<;>try cases h
 rename_i M;subst M
 exact I ⟨.inl ⟨rfl,rfl⟩,.inr rfl,W0a _,W0a _⟩ rfl
 split at h<;>try cases h
 rename_i M;subst M
 exact I ⟨.inr rfl,.inl ⟨rfl,rfl⟩,W0a _,W0a _⟩ rfl
 split at h<;>try cases h
 rename_i M;rcases M with ⟨rfl,rfl⟩
 exact I ⟨.inr rfl,.inr rfl,W0a _,W0a _⟩ rfl
def OV: Option Int->Option Value->Prop
 | none,v=>v=none
 | some q,v=>∃k,v=some (.int k q)
theorem Xlk{x:Operand}{lo hi o:Option Operand}{a:AV}{l h m:Option Int}(j:Xkb lo hi o args=some (a,l,h,m))(ha:Xbq W θ g ρ (x::(lo.toList++(hi.toList++o.toList))) args):
 (AV.V W θ a (ρ x)/\∀i,a.ids i->∃y,g i=some y)/\OV l (lo.map ρ)/\OV h (hi.map ρ)/\OV m (o.map ρ):=by
 unfold Xkb at j
 split at j<;>try cases j
 split at j<;>cases j
 exact⟨ha.1,rfl,rfl,rfl⟩
 split at j<;>cases j
 exact⟨ha.1,⟨_,congrArg some (Xcw ha.2.1.1).1⟩,rfl,rfl⟩
 exact⟨ha.1,rfl,⟨_,congrArg some (Xcw ha.2.1.1).1⟩,rfl⟩
 split at j<;>cases j
 exact⟨ha.1,⟨_,congrArg some (Xcw ha.2.1.1).1⟩,⟨_,congrArg some (Xcw ha.2.2.1.1).1⟩,rfl⟩
 exact⟨ha.1,rfl,⟨_,congrArg some (Xcw ha.2.1.1).1⟩,⟨_,congrArg some (Xcw ha.2.2.1.1).1⟩⟩
theorem Xt1(s:List UInt8)(l h:Nat): (ByteArray.mk s.toArray).extract l h=⟨((s.drop l).take (h-l)).toArray⟩:=by
 apply ByteArray.ext
 rw[ByteArray.data_extract]
 simp[List.extract_eq_take_drop]
theorem Yjf{s:List UInt8}{lo hi:Option Int}(h:slS s lo hi=some v): ∃l k,Bd s.length lo hi l k/\v=.d (.str ((s.drop l).take (k-l))):=by
 cases lo<;>cases hi<;>simp only[slS] at h
 injection h with h;exact⟨0,s.length,⟨.inl ⟨rfl,rfl⟩,.inl ⟨rfl,rfl⟩,W0r _,W0a _⟩,by simp[<-h]⟩
 split at h<;>try cases h
 rename_i z i
 exact⟨0,z.toNat,⟨.inl ⟨rfl,rfl⟩,.inr (by rw[W2w i.1]),W0r _,by omega⟩,by simp⟩
 split at h<;>try cases h
 rename_i z i
 exact⟨z.toNat,s.length,⟨.inr (by rw[W2w i.1]),.inl ⟨rfl,rfl⟩,by omega,W0a _⟩,by
  rw[W0b (by simp)]⟩
 split at h<;>try cases h
 rename_i z j i
 exact⟨z.toNat,j.toNat,⟨.inr (by rw[W2w i.1]),.inr (by rw[W2w (by omega)]),by omega,by omega⟩,rfl⟩
theorem Yfe{T:TypeId}{s:List UInt8}{w:World}(u:P.underlying T=some .string){l h:Nat}{lo hi':Option Value}
 (i:lo=none/\l=0\/∃k,lo=some (.int k l)) (hh:hi'=none/\h=s.length\/∃k,hi'=some (.int k h)) (j:l<=h) (o:h<=s.length) :
 (Instr.sliceAt T (.string ⟨s.toArray⟩) lo hi' none).run P w=.ok (.string ⟨((s.drop l).take (h-l)).toArray⟩) w:=by
 have I:(ByteArray.mk s.toArray).size=s.length:=by show s.toArray.size=_;simp
 rcases i with ⟨e,M⟩ | ⟨k,e⟩<;>rcases hh with ⟨f,O⟩ | ⟨U,f⟩<;>subst e<;>subst f<;>(try subst M)<;>(try subst O) <;>
  simp[Instr.sliceAt,Instr.slice,Instr.sliceBounds,Instr.sliceBound,asIntOf,underlying,program,bind,Sem.bind,Sem.run,pure,u,j,o,I,Xt1]
theorem Yje{T:TypeId}{x:Operand}{lo hi mx:Option Operand}(hT:∀T ti,tb T=some ti->TyOk P T ti)(hO:Obs W θ N g)(j:Fp tb (.slice T x lo hi mx) args=some v)(ha:Xbq W θ g ρ (x::(lo.toList++(hi.toList++mx.toList))) args):
 Good P N W θ g ρ ⟨d,.slice T x lo hi mx,ty,pos,aft,gd⟩ v g:=by
 simp only[Fp] at j
 split at j<;>try cases j
 rename_i ti hti
 obtain⟨t,u1,_,u3⟩:=(hT _ _ hti).u
 split at j<;>try cases j
 rename_i a l h hz hs
 rw[hz] at u3
 obtain⟨E,e,_,_,i,v0,i1,i2,_⟩:=u3
 subst e
 split at j<;>try cases j
 rename_i Z
 obtain⟨⟨hv,M⟩,O,V,U⟩:=Xlk hs ha
 obtain⟨p,m,c,l',k,⟨hb1,hb2,hb3,hb4⟩,h2,h3,h4,h5⟩:=Yod j hv
 refine .val hO ?_ (h4 ti.e.size (λs xs e=>by rcases e with e | e<;>subst e<;>exact W0c Z) (λo s xs e=>by subst e;exact W0c Z) (λo s l n e=>by rcases e with e | e<;>subst e<;>exact W0c Z)) (λi hi=>M i (h5 i hi))
 have:=Ycx (P:=P) (w:=W.w) u1 i1 i2 h3 (lo:=lo.map ρ) (hi':=hi.map ρ) (l:=l') (h:=k) (by
  rcases hb1 with ⟨I,f2⟩ | I
  subst I;exact .inl ⟨O,f2⟩
  subst I;exact .inr O) (by
  rcases hb2 with ⟨I,f2⟩ | I
  subst I;exact .inl ⟨V,f2⟩
  subst I;exact .inr V) hb3 h2
 have U:mx.map ρ=none:=U
 simp only[execOp,U]
 rw[Sem.run_bind,this];rfl
 rename_i a h m hz hs
 rw[hz] at u3
 obtain⟨E,e,_,_,i,v0,i1,i2,_⟩:=u3
 subst e
 obtain⟨⟨hv,M⟩,O,⟨k2,V⟩,⟨k3,U⟩⟩:=Xlk hs ha
 have O:lo.map ρ=none:=O
 have fin:∀ {p:Option Addr} {n c k:Nat},ρ x=.slice p n c->k<=c->h=(k:Int)->m=(k:Int)->(execOp ρ ⟨d,.slice T x lo hi mx,ty,pos,aft,gd⟩).run P W.w=.ok (.value (.slice p k k)) W.w:=by
  intro p n c k e hkc h1 h2
  subst h1;subst h2
  by_cases h0:k=0
  subst h0
  simp[execOp,e,O,V,U,Instr.sliceAt,Instr.slice,Instr.sliceBounds,Instr.sliceBound,asIntOf,sizeOf,typeInfo,underlying,program,bind,Sem.bind,Sem.run,pure,u1,i1,i2]
  have hg:(λa:Addr=>a.add 0)=id:=funext λa=>by cases a;simp[Addr.add]
  simp[execOp,e,O,V,U,Instr.sliceAt,Instr.slice,Instr.sliceBounds,Instr.sliceBound,asIntOf,sizeOf,typeInfo,underlying,program,bind,Sem.bind,Sem.run,pure,u1,i1,i2,h0,hkc,hg]
 split at j
 cases j
 rename_i hc
 rcases hc with ⟨rfl,rfl,hsl⟩
 obtain⟨p,n,c,e,_⟩:=Ydr hsl hv
 exact .val (u:=.slice p 0 0) hO (fin e (W0r _) rfl rfl) ⟨_,⟨_,rfl⟩,rfl⟩ (λ_ h=>h.elim)
 unfold sl3 at j
 split at j<;>try cases j
 split at j<;>cases j
 rename_i hc
 obtain⟨c0,c1,c2⟩:=hc
 obtain⟨b,p,h1,h2,h3,e,h5⟩:=Xf1 hv
 exact .val (u:=.slice p h.toNat h.toNat) hO (fin e (by omega) (by omega) (by omega)) ⟨_,⟨b,p,h1,by omega,h3,rfl,λhh=>h5 (by omega)⟩,rfl⟩ M
 split at j<;>cases j
 rename_i hc
 obtain⟨c0,c1,c2⟩:=hc
 obtain⟨b,p,h1,h2,h3,e,h5⟩:=Xqd hv
 exact .val (u:=.slice p h.toNat h.toNat) hO (fin e (by omega) (by omega) (by omega)) ⟨_,⟨b,p,h1,by omega,h3,rfl,λhh=>h5 (by omega)⟩,rfl⟩ M
 rename_i s l h hz hs
 rw[hz] at u3
 subst u3
 obtain⟨⟨hv,M⟩,O,V,U⟩:=Xlk hs ha
 obtain⟨l',k,⟨hb1,hb2,hb3,hb4⟩,rfl⟩:=Yjf j
 obtain⟨e,hl⟩:=Xyq hv
 refine .val hO ?_ (Xte (by simp;omega)) (λ_ h=>h.elim)
 have:=Yfe (P:=P) (w:=W.w) u1 (lo:=lo.map ρ) (hi':=hi.map ρ) (s:=s) (l:=l') (h:=k) (by
  rcases hb1 with ⟨I,f2⟩ | I
  subst I;exact .inl ⟨O,f2⟩
  subst I;exact .inr O) (by
  rcases hb2 with ⟨I,f2⟩ | I
  subst I;exact .inl ⟨V,f2⟩
  subst I;exact .inr V) hb3 hb4
 have U:mx.map ρ=none:=U
 simp only[execOp,U,e]
 rw[Sem.run_bind,this];rfl
end
end
section
section
variable{P:Program}{N:Nat->Prop}{W:GW}{θ:Loc}{g:Hp}{ρ:Operand->Value}
variable{tb:Nat->Option TI}{d:Option Nat}{ty:TypeId}{pos:String}{aft:Array Edge}{gd:Option (Nat×Bool)}{args:List AV}{v:AV}
theorem Xxd(vs:List Value): ∀(cs:List Value) (off k:Nat),(vs.zipIdx k).foldl (λ(cs:Array Value) (c,j)=>cs.setIfInBounds (off+j) c) cs.toArray=(spl cs (off+k) vs).toArray:=by
 induction vs with
 | nil=>intro cs off k;rfl
 | cons v vs h=>intro cs off k;simp only[List.zipIdx_cons,List.foldl_cons,spl,List.setIfInBounds_toArray];rw[h,W4z]
theorem Xoh(v:Array Value)(cs:List Value)(off:Nat): v.zipIdx.foldl (λ(cs:Array Value) (c,j)=>cs.setIfInBounds (off+j) c) cs.toArray=(spl cs off v.toList).toArray:=by
 rw[<-Array.foldl_toList,Array.toList_zipIdx]
 exact Xxd v.toList cs off 0
def Ch: AV->List D->Prop
 | .pr a c,x::y::l=>(a.size=x.size/\a.ag=x.ag)/\Ch c (y::l)
 | .pr _ _,_=>False
 | a,[x]=>a.size=x.size/\a.ag=x.ag
 | _,_=>False
theorem Ybc(x:D): x.comps≠[]:=by cases x<;>simp[D.comps]
theorem Ycb: ∀(x:D),(∀u v,x≠.pr u v)->∀u v,zA x≠.pr u v
 | .pr x y,h=>absurd rfl (h x y)
 | .st x,_=>λu v e=>by
  have:=Xqz (zA x)
  rw[zA] at e
  rw[e] at this;cases this
 | .bool _,_ | .sl ..,_ | .int ..,_ | .str _,_ | .raw _,_=>λ_ _=>nofun
theorem Ch.one{a:AV}{x:D}(h:∀u v,a≠.pr u v)(i:a.size=x.size)(j:a.ag=x.ag): Ch a [x]:=by
 cases a<;>first | exact absurd rfl (h _ _) | exact⟨i,j⟩
theorem Yih: ∀(x:D),Ch (zP x) x.comps:=by
 intro x
 induction x using D.ind with
 | leaf x I i =>
  have e:zP x=zA x:=by cases x<;>first | rfl | exact absurd rfl (i _ _)
  have o:x.comps=[x]:=by cases x<;>first | rfl | exact absurd rfl (i _ _)
  rw[e,o]
  exact .one (Ycb x i) (Xgw x) (Yeh x)
 | st a _=>exact .one (Ycb (.st a) (λ_ _=>nofun)) (Xgw _) (Yeh _)
 | pr a c _ j =>
  show Ch (.pr (zA a) (zP c)) (a::c.comps)
  cases h:c.comps with
  | nil=>exact absurd h (Ybc c)
  | cons y l=>rw[h] at j;exact⟨⟨Xgw a,Yeh a⟩,j⟩
theorem Yp8: ∀(x:D),x.isZ=true->AV.C W θ (zP x) x.zc:=by
 intro x
 induction x using D.ind with
 | leaf x o i =>
  intro h
  have e:zP x=zA x:=by cases x<;>first | rfl | exact absurd rfl (i _ _)
  rw[e];exact Yeg h
 | st a _=>intro h;exact Yeg (x:=.st a) h
 | pr a c _ j =>
  intro h
  have:a.isZ=true/\c.isZ=true:=by simpa [D.isZ] using h
  exact⟨_,_,rfl,Yeg this.1,j this.2⟩
theorem Yca: ∀(x:D) (i:Nat),¬(zP x).ids i:=by
 intro x
 induction x using D.ind with
 | leaf x I j =>
  have e:zP x=zA x:=by cases x<;>first | rfl | exact absurd rfl (j _ _)
  rw[e];exact Xie x
 | st a _=>exact Xie (.st a)
 | pr a c _ o=>exact λi h=>h.elim (Xie a i) (o i)
theorem Xwq: ∀ {a:AV} {cs:List Value},AV.C W θ a cs->AV.C W θ (Yac a) cs:=by
 intro a
 induction a with
 | pr a c _ i=>intro cs ⟨u,v,e,j,o⟩;rw[e];exact Xz3 j (i o)
 | _=>intro cs h;exact h
theorem Xnn: ∀ {a:AV} {i:Nat},(Yac a).ids i->a.ids i:=by
 intro a
 induction a with
 | pr a c _ j=>intro i h;exact(Xlv h).imp id j
 | _=>intro i h;exact h
theorem Xzr{v:AV}: ∀ {a:AV} {i:Nat} {o:AV} {l:List D},Xub a i v=some o->Ch a l->∃x,l[i]?=some x/\v.size=x.size/\v.ag=x.ag:=by
 intro a
 induction a with
 | pr a c _ T =>
  intro i o l h j
  match l,j with
  | x::y::l,j =>
   cases i with
   | zero =>
    simp only[Xub] at h
    split at h<;>try cases h
    rename_i hf
    obtain⟨I,M⟩:=Xdt hf
    exact⟨x,rfl,by rw[I,j.1.1],by rw[M,j.1.2]⟩
   | succ i =>
    simp only[Xub] at h
    split at h<;>try cases h
    rename_i c' O
    obtain⟨z,U,V,Z⟩:=T O j.2
    exact⟨z,by simpa using U,V,Z⟩
 | _ =>
  intro i o l h j
  match l,j with
  | [x],j =>
   cases i with
   | zero =>
    simp only[Xub] at h
    split at h<;>try cases h
    rename_i hf
    obtain⟨I,M⟩:=Xdt hf
    exact⟨x,rfl,by rw[I,j.1],by rw[M,j.2]⟩
   | succ i=>simp[Xub] at h
theorem Yjj{v:AV}{vs:List Value}(Z:AV.C W θ v vs)(O:∀u w,v≠.pr u w): ∀ {a:AV} {i:Nat} {I:AV} {l:List D} {cs:List Value},Xub a i v=some I->Ch a l->AV.C W θ a cs ->
 Ch I l/\(∃x,l[i]?=some x/\v.size=x.size/\v.ag=x.ag)/\(∃u m w,cs=u++(m++w)/\u.length=Xhv l i/\m.length=v.size/\AV.C W θ I (u++(vs++w)))/\∀i,I.ids i->a.ids i\/v.ids i:=by
 intro a
 induction a with
 | pr a c _ ih =>
  intro i I l cs h j T
  match l,j with
  | x::y::l,j =>
   obtain⟨u,w,e,U,h2⟩:=T
   subst e
   cases i with
   | zero =>
    simp only[Xub] at h
    split at h<;>try cases h
    rename_i hf
    obtain⟨o,M⟩:=Xdt hf
    refine⟨⟨⟨by rw[o,j.1.1],by rw[M,j.1.2]⟩,j.2⟩,⟨x,rfl,by rw[o,j.1.1],by rw[M,j.1.2]⟩,⟨[],u,w,rfl,rfl,by rw[AV.c_len a U,o],⟨vs,w,rfl,Z,h2⟩⟩,λi hi=>hi.elim .inr λh=>.inl (.inr h)⟩
   | succ i =>
    simp only[Xub] at h
    split at h<;>try cases h
    rename_i c' V
    obtain⟨k1,⟨z,k2,k3,k4⟩,⟨u1,m,w1,e1,e2,e3,e4⟩,k5⟩:=ih V j.2 h2
    refine⟨⟨j.1,k1⟩,⟨z,by simpa using k2,k3,k4⟩,⟨u++u1,m,w1,by rw[e1];simp,by rw[W0i,e2,AV.c_len a U,j.1.1];rfl,e3,⟨u,_,by simp,U,e4⟩⟩,λi hi=>hi.elim (λh=>.inl (.inl h)) λh=>(k5 i h).imp .inr id⟩
 | _ =>
  intro i I l cs h j T
  match l,j with
  | [x],j =>
   cases i with
   | zero =>
    simp only[Xub] at h
    split at h<;>try cases h
    rename_i hf
    obtain⟨o,M⟩:=Xdt hf
    exact⟨.one O (by rw[o,j.1]) (by rw[M,j.2]),⟨x,rfl,by rw[o,j.1],by rw[M,j.2]⟩,⟨[],cs,[],by simp,rfl,by rw[AV.c_len _ T,o],by simpa using Z⟩,λi hi=>.inr hi⟩
   | succ i=>simp[Xub] at h
theorem Xgg: ∀ {v:AV},plain v=true->v.ag=true\/v.size=1
 | .d (.st _),_ | .st _,_=>.inl rfl
 | .d (.int ..),_ | .d (.bool _),_ | .d (.str _),_ | .d (.raw _),_ | .d (.sl ..),_ | .q _,_ | .b _,_ | .ub _,_ | .nil,_ | .lit ..,_ | .at _,_ | .ptr ..,_ | .own ..,_ | .ow3 ..,_ | .gr ..,_ | .el ..,_ | .fn ..,_ | .fm ..,_ | .ap ..,_ | .cx ..,_ | .an,_=>.inr rfl
theorem Xha{v:AV}{u:Value}(hp:plain v=true)(h:AV.V W θ v u)(o:v.ag=true\/v.size=1): AV.C W θ v u.cells.toList/\∀a c,v≠.pr a c:=by
 have i:(∀a c,v≠.pr a c)/\(∀a,v≠.tup a)/\v≠.un:=⟨(λ_ _ e=>by subst e;cases hp),(λ_ e=>by subst e;cases hp),(λe=>by subst e;cases hp)⟩
 obtain⟨cs,j,e⟩:=V_c h i.2.1 i.2.2
 rw[e,Xya j o]
 exact⟨j,i.1⟩
theorem Xxg{place:Nat->Option (Nat×Nat)}{l:List D}(M:∀f c,l[f]?=some c->place f=some (Xhv l f,c.size))(O:∀c∈l,c.ag=false->c.size=1){I:Nat->Prop}:
 ∀ {ps:List (Nat×Operand)} {vs:List AV} {a T:AV} {cs:List Value},Xo9 a ps vs=some T->Ch a l->AV.C W θ a cs->(∀i,a.ids i->I i)->Xbq W θ g ρ (ps.map (·.2)) vs->(∀i y,g i=some y->I i) ->
 ∃o,Instr.fill place cs.toArray (ps.map λx=>(x.1,ρ x.2))=some (o:List Value).toArray/\AV.C W θ T o/\∀i,T.ids i->I i
 | [],[],a,T,cs,h,Z,hc,hi,_,_=>by
  simp only[Xo9] at h;injection h with h;subst h
  exact⟨cs,rfl,hc,hi⟩
 | (i,x)::ps,v::vs,a,T,cs,h,Z,hc,hi,ha,hg=>by
  simp only[Xo9] at h
  split at h<;>try cases h
  rename_i a1 hp U
  have hsz:v.ag=true\/v.size=1:=by
   obtain⟨z,k2,k3,k4⟩:=Xzr U Z
   cases e:v.ag with
   | true=>exact .inl rfl
   | false=>exact .inr (by rw[k3];exact O z (W0h k2) (by rw[<-k4,e]))
  obtain⟨V,hnp⟩:=Xha hp ha.1.1 hsz
  obtain⟨k1,⟨z,k2,k3,k4⟩,⟨u,m,w,e1,e2,e3,e4⟩,k5⟩:=Yjj V hnp U Z hc
  have hv:=AV.c_len v V
  have hv':(ρ x).cells.size=v.size:=by simpa using hv
  obtain⟨o,f1,f2,f3⟩:=Xxg M O h k1 e4 (λj hj=>(k5 j hj).elim (hi j) λhj=>let ⟨y,hy⟩:=ha.1.2 j hj;hg j y hy) ha.2 hg
  refine⟨o,?_,f2,f3⟩
  simp only[W5a,Instr.fill,M i z k2]
  have hc0:(decide ((ρ x).cells.size≠z.size)||decide (Xhv l i+(ρ x).cells.size>cs.toArray.size))=false:=by
   simp[hv',k3,e1,e2]
   omega
  rw[if_neg (by rw[hc0];simp),Xoh,e1,<-e2,Xq4 _ _ _ _ (by rw[hv,e3])]
  exact f1
 | [],_::_,_,_,_,h,_,_,_,_,_=>by simp[Xo9] at h
 | _::_,[],_,_,_,h,_,_,_,_,_=>by simp[Xo9] at h
theorem Xkg{w:World}: ∀ {fs:List Field} {l:List D} (o:Nat),fs.length=l.length->(∀f c,l[f]?=some c->∃j i,fs[f]?=some j/\j.offset=o+Xhv l f/\P.info? j.type=some i/\i.size=c.size) ->
 ∃O:List (Nat×Nat),(fs.mapM λf=>do pure (f.offset,<-sizeOf f.type):Sem (List (Nat×Nat))).run P w=.ok O w/\∀f c,l[f]?=some c->O[f]?=some (o+Xhv l f,c.size)
 | [],[],_,_,_=>⟨[],rfl,λf c h=>by simp at h⟩
 | f::fs,c::l,o,M,h=>by
  obtain⟨j,i,T,U,V,Z⟩:=h 0 c rfl
  simp at T;subst T
  obtain⟨O,k1,k2⟩:=Xkg (w:=w) (fs:=fs) (l:=l) (o+c.size) (by simpa using M) (λk x I=>by
   obtain⟨j,i,T,U,V,Z⟩:=h (k+1) x (by simpa using I)
   exact⟨j,i,by simpa using T,by rw[U,Xhv];omega,V,Z⟩)
  refine⟨(f.offset,c.size)::O,?_,λk x I=>?_⟩
  have m0:(sizeOf f.type).run P w=.ok c.size w:=by simp[sizeOf,typeInfo,V,Z]
  have h0:((do pure (f.offset,<-sizeOf f.type):Sem (Nat×Nat))).run P w=.ok (f.offset,c.size) w:=by simp[m0]
  rw[List.mapM_cons,Sem.run_bind,h0]
  simp only[Result.andThen_ok]
  rw[Sem.run_bind,k1]
  rfl
  cases k with
  | zero=>simp at I;subst I;simp[U,Xhv]
  | succ k=>simp at I |-;rw[k2 k x I,Xhv];simp;omega
 | [],_::_,_,M,_=>by simp at M
 | _::_,[],_,M,_=>by simp at M
theorem Xrt{n:Nat}: ∀ {l:List D} {f:Nat} {c:D},(∀c∈l,c.size=n)->l[f]?=some c->Xhv l f=f*n
 | x::l,0,c,_,_=>by simp[Xhv]
 | x::l,f+1,c,h,i=>by
  rw[Xhv,h x (W0w ..),Xrt (λc i=>h c (W1c _ i)) (by simpa using i),W2m]
  omega
 | [],_,_,_,h=>by simp at h
theorem Ymi{T:TypeId}{ps:Array (Nat×Operand)}(hT:∀T ti,tb T=some ti->TyOk P T ti)(hO:Obs W θ N g)(o:Fp tb (.build T ps) args=some v)(ha:Xbq W θ g ρ (ps.toList.map (·.2)) args):
 Good P N W θ g ρ ⟨d,.build T ps,ty,pos,aft,gd⟩ v g:=by
 simp only[Fp] at o
 split at o<;>try cases o
 rename_i ti hti
 split at o<;>try cases o
 rename_i z hz
 split at o<;>try cases o
 rename_i a hb hs
 have hk:=hT _ _ hti
 obtain⟨ii,v0,i1,i2,i3,i4,i5⟩:=hk.i
 obtain⟨t,u1,_,V⟩:=hk.u
 have M:=hk.z
 rw[hz] at V i4 M
 have Z:v0.cells=z.zc.toArray:=by
  have:v0.cells=v0.cells.toList.toArray:=by simp
  rw[this,i4];rfl
 have ez:(zeroValue T).run P W.w=.ok v0 W.w:=by simp[zeroValue,typeInfo,i1,i3]
 by_cases h0:ti.arr=0
 simp only[h0,if_true] at V
 obtain⟨fs,e,hl,hf⟩:=V
 subst e
 obtain⟨pl,k1,k2⟩:=Xkg (P:=P) (w:=W.w) (fs:=fs.toList) (l:=z.comps) 0 (by simpa using hl) (λf c j=>by
  obtain⟨gg,i,h1,h2,h3,h4,_⟩:=hf f c j
  exact⟨gg,i,by simpa using h1,by omega,h3,h4⟩)
 obtain⟨O,f1,f2,f3⟩:=Xxg (ρ:=ρ) (g:=g) (place:=(pl.toArray[·]?)) (l:=z.comps) (θ:=θ) (W:=W) (I:=λi=>∃y,g i=some y) (λf c j=>by
  have:=k2 f c j;simpa using this) (λc j=>by
  obtain⟨f,hf'⟩:=W3d j
  obtain⟨gg,i,h1,h2,h3,h4,t,h5,h6,h7⟩:=hf f c hf'
  exact h7) hs (Yih z) (Yp8 z M) (λi hi=>absurd hi (Yca z i)) ha (λi y hy=>⟨y,hy⟩)
 have hm:(fs.mapM λf=>do pure (f.offset,<-sizeOf f.type):Sem (Array (Nat×Nat))).run P W.w=.ok pl.toArray W.w:=by
  have:fs=fs.toList.toArray:=by simp
  rw[this,List.mapM_toArray,Sem.run_map,k1]
  rfl
 refine .val (u:=.agg O.toArray) hO ?_ ?_ (λi hi=>f3 i (Xnn (Xlg hi)))
 simp only[execOp,Instr.build]
 rw[Sem.run_bind,Sem.run_bind,ez]
 simp only[Result.andThen_ok]
 rw[Sem.run_bind,Xlo u1]
 simp only[Result.andThen_ok]
 rw[Sem.run_bind,hm]
 simp only[Result.andThen_ok]
 rw[Z,Array.toList_map,f1]
 rfl
 have:=Ymu (Xzm (Xwq f2))
 rw[Xqz] at this
 exact this
 simp only[h0,if_false] at V
 obtain⟨E,e,ei,ev,e1,e2,e3,e4,e5⟩:=V
 subst e
 have hb:(z.comps.all λc=>Nat.beq c.size ti.e.size&&(c.ag||Nat.beq c.size 1))=true:=by
  unfold Ymj at hb
  split at hb
  rename_i h;exact absurd h h0
  exact hb
 have U:∀c∈z.comps,c.size=ti.e.size/\(c.ag=false->c.size=1):=λc j=>by
  have:=W1q.1 hb c j
  simp only[W0d,W4e] at this
  exact⟨W0c this.1,λh=>this.2.elim (λh2=>by rw[h] at h2;cases h2) W0c⟩
 obtain⟨O,f1,f2,f3⟩:=Xxg (ρ:=ρ) (g:=g) (place:=λi=>some (i*ti.e.size,ti.e.size)) (l:=z.comps) (θ:=θ) (W:=W) (I:=λi=>∃y,g i=some y) (λf c j=>by
  show some _=_
  rw[Xrt (n:=ti.e.size) (λc j=>(U c j).1) j,(U c (W0h j)).1]) (λc j=>(U c j).2) hs (Yih z) (Yp8 z M) (λi hi=>absurd hi (Yca z i)) ha (λi y hy=>⟨y,hy⟩)
 have hm:(sizeOf E).run P W.w=.ok ti.e.size W.w:=by simp[sizeOf,typeInfo,e1,e2]
 refine .val (u:=.agg O.toArray) hO ?_ ?_ (λi hi=>f3 i (Xnn (Xlg hi)))
 simp only[execOp,Instr.build]
 rw[Sem.run_bind,Sem.run_bind,ez]
 simp only[Result.andThen_ok]
 rw[Sem.run_bind,Xlo u1]
 simp only[Result.andThen_ok]
 rw[Sem.run_bind,hm]
 simp only[Result.andThen_ok]
 rw[Z,Array.toList_map,f1]
 rfl
 have:=Ymu (Xzm (Xwq f2))
 rw[Xqz] at this
 exact this
theorem Ykk{fn:Fn}(j:Obs W θ N g)(i:Fp tb (.makeFunc fn #[] #[]) args=some v): Good P N W θ g ρ ⟨d,.makeFunc fn #[] #[],ty,pos,aft,gd⟩ v g:=by
 have i:some _=some v:=i
 injection i with i;subst i
 exact .val (u:=.func fn #[] #[]) j (by simp only[execOp,Instr.makeFunc,List.map_toArray,Array.map_empty];rfl) ⟨[.func fn #[] #[]],⟨rfl,rfl⟩,rfl⟩ (λ_ h=>h.elim)
theorem Yk2{T:TypeId}{x y:Operand}(U:∀T ti,tb T=some ti->TyOk P T ti)(V:Obs W θ N g)(i:Fp tb (.index T x y) args=some v)(ha:Xbq W θ g ρ [x,y] args): Good P N W θ g ρ ⟨d,.index T x y,ty,pos,aft,gd⟩ v g:=by
 simp only[Fp] at i
 split at i<;>try cases i
 rename_i z e eb ar s k j Z
 split at i<;>try cases i
 rename_i hj
 split at i<;>cases i
 rename_i b hb
 obtain⟨t,u1,u2,O⟩:=(U _ _ Z).u
 simp only at O
 subst O
 obtain⟨cs,o,I⟩:=ha.1.1
 obtain⟨o,_⟩:=o
 subst o
 have I:ρ x=.string ⟨s.toArray⟩:=I
 obtain⟨h3,_⟩:=Xcw ha.2.1.1
 obtain⟨n,rfl⟩:=Int.eq_ofNat_of_zero_le hj
 refine .val (u:=.int .u8 b.toNat) V ?_ (int_V ?_) (λ_ h=>h.elim)
 simp at hb
 have M:(ByteArray.mk s.toArray)[n]?=some b:=by
  obtain⟨hn,e⟩:=W0s.1 hb
  have hs:n<(ByteArray.mk s.toArray).size:=by show n<s.toArray.size;simpa using hn
  rw[getElem?_pos (ByteArray.mk s.toArray) n hs]
  show some (s.toArray[n]'_)=_
  simp[e]
 simp[execOp,I,h3,Instr.index,asIntOf,Xlo u1,M]
 have:=b.toNat_lt
 simp only[inR,IntKind.wrap,IntKind.bits,IntKind.signed];simp;omega
theorem Ydb{a:AV}{v:Value}(h:Ydc a=true)(M:AV.V W θ a v): AV.C W θ a [v]:=by
 unfold Ydc at h
 split at h<;>try cases h
 all_goals (obtain⟨cs,i,e⟩:=M;first | (obtain⟨b,j,o⟩:=i;subst o;subst e;exact⟨b,j,rfl⟩) | (have I:=i;obtain⟨j,o⟩:=I;subst j;subst e;exact⟨rfl,o⟩) | (have i:cs=_:=i;subst i;subst e;exact rfl))
theorem Yme: ∀ {l:List AV} {xs:List Operand} {a:AV},chA l=some a->Xbq W θ g ρ xs l->AV.C W θ a (xs.map ρ)/\∀i,a.ids i->∃y,g i=some y
 | [],_,_,h,_=>by cases h
 | [b],[x],a,h,j=>by
  simp only[chA] at h
  split at h<;>cases h
  rename_i o
  exact⟨Ydb o j.1.1,j.1.2⟩
 | b::c::l,x::xs,a,h,j=>by
  simp only[chA] at h
  split at h<;>cases h
  rename_i c' o I
  obtain⟨M,O⟩:=Yme (l:=c::l) I j.2
  exact⟨⟨[ρ x],xs.map ρ,rfl,Ydb o j.1.1,M⟩,λi hi=>hi.elim (j.1.2 i) (O i)⟩
 | [_],[],_,_,h=>h.elim
 | [_],_::_::_,_,_,h=>h.2.elim
 | _::_::_,[],_,_,h=>h.elim
theorem Yf3{f:Nat}{l:List Operand}{args:List AV}{a:AV}(i:Obs W θ N g)(ha:Xbq W θ g ρ l args)(h:chA args=some a): Good P N W θ g ρ ⟨d,.makeFunc (.func f) #[] l.toArray,ty,pos,aft,gd⟩ (.fm f a) g:=by
 obtain⟨j,o⟩:=Yme h ha
 exact .val (u:=.func (.func f) #[] (l.map ρ).toArray) i (by simp only[execOp,Instr.makeFunc,List.map_toArray,Array.map_empty];rfl) ⟨[.func (.func f) #[] (l.map ρ).toArray],⟨_,j,rfl⟩,rfl⟩ o
theorem Yf4{f o:Nat}{x:Operand}(j:Obs W θ N g)(ha:Xbq W θ g ρ [x] [.ptr o 0]): Good P N W θ g ρ ⟨d,.makeFunc (.func f) #[] #[x],ty,pos,aft,gd⟩ (.fn f o) g:=by
 obtain⟨b,I,M⟩:=Xj4 ha.1.1
 exact .val (u:=.func (.func f) #[] #[.pointer (some ⟨b,0,none⟩)]) j (by simp only[execOp,Instr.makeFunc,List.map_toArray,Array.map_empty,W5a,List.map_nil,M];rfl) ⟨[.func (.func f) #[] #[.pointer (some ⟨b,0,none⟩)]],⟨b,I,rfl⟩,rfl⟩ (λi h=>by
  have h:i=o:=h
  subst h;exact ha.1.2 _ rfl)
end
end
section
section
variable{P:Program}{N:Nat->Prop}{W:GW}{θ:Loc}{g:Hp}{ρ:Operand->Value}
variable{tb:Nat->Option TI}{dd:Nat}{d:Option Nat}{ty:TypeId}{pos:String}{aft:Array Edge}{gd:Option (Nat×Bool)}{args:List AV}{v:AV}{us:List (Nat×Ob)}
theorem Xiv{T:TypeId}{ti:TI}(o:TyOk P T ti){b off:Nat}{w:World}{y:AV}{cs:List Value}(I:AV.C W θ y cs)(O:y.size=ti.z.size)(U:y.ag=ti.z.ag)(V:y.ag=false->y.size=1)
 (M:∀j u,cs[j]?=some u->w.cell? ⟨b,off+j,none⟩=some u):(loadVar T ⟨b,off,none⟩).run P w=.ok (mkv y.ag cs) w:=by
 obtain⟨ii,v0,i1,i2,i3,i4,i5⟩:=o.i
 obtain⟨t,Z,u2,_⟩:=o.u
 have hl:=AV.c_len y I
 have h:=run_loadCells (P:=P) (b:=b) (off:=off) (w:=w) cs 0 #[] (λj v hj=>by simpa using M j v hj)
 have hs:(sizeOf T).run P w=.ok cs.length w:=by simp[sizeOf,typeInfo,program,bind,Sem.bind,Sem.run,pure,i1,i2,<-O,hl]
 unfold loadVar
 rw[Sem.run_bind,Xm7 Z (u2.trans U.symm)]
 cases e:y.ag with
 | true =>
  simp only[Result.andThen_ok,if_true]
  rw[Sem.run_bind,hs]
  simp only[Result.andThen_ok]
  rw[Sem.run_bind]
  simp only[loadCells]
  rw[h]
  simp[mkv]
 | false =>
  obtain⟨c,rfl⟩:=Yhf I (V e)
  simpa [mkv] using run_load (P:=P) (M 0 c rfl)
theorem ag1{T:TypeId}{ti:TI}(i:TyOk P T ti)(h:ti.z.ag=false)(hp:∀a c,ti.z≠.pr a c): ti.z.size=1:=by
 cases e:ti.z<;>rw[e] at h hp<;>first | rfl | exact absurd rfl (hp _ _) | cases h
theorem Xwp{T:TypeId}{x:Operand}{ti:TI}(h:TyOk P T ti)(hp:∀a c,ti.z≠.pr a c)(O:Obs W θ N g){b off:Nat}{y:AV}{cs:List Value}(U:ρ x=.pointer (some ⟨b,off,none⟩))(o:AV.C W θ y cs)(I:y.size=ti.z.size)(M:y.ag=ti.z.ag)
 (V:∀j u,cs[j]?=some u->W.w.cell? ⟨b,off+j,none⟩=some u) (hi:∀i,y.ids i->∃k,g i=some k):Good P N W θ g ρ ⟨d,.load T x,ty,pos,aft,gd⟩ y g:=by
 have Z:=Xiv h o I M (λe=>by rw[I];exact ag1 h (by rw[<-M];exact e) hp) V
 refine .val O ?_ (Ymu o) hi
 simp only[execOp,U,Instr.loadAt,Instr.sureAddr]
 rw[Sem.run_bind]
 show Result.andThen ((loadVar T ⟨b,off,none⟩).run P W.w) _=_
 rw[Z]
 rfl
theorem Xwm{u m w:List Value}{j:Nat}{v:Value}(h:m[j]?=some v): (u++(m++w))[u.length+j]?=some v:=by
 rw[W0n (by omega),W3v,W0q (by
  by_cases i:j<m.length
  exact i
  rw[W1y (by omega)] at h;cases h)]
 exact h
theorem Xr3{s:Nat}{i:Bool}{x:D}(h:x.size=s)(j:x.ag=i): (nb x).size=s/\(nb x).ag=i:=⟨by rw[Xpj,h],by rw[Yfy,j]⟩
theorem Yo0{T:TypeId}{x:Operand}(hT:∀T ti,tb T=some ti->TyOk P T ti/\∀a c,ti.z≠.pr a c)(o:Obs W θ N g)(h:F tb dd g (.load T x) args=some (v,us))(ha:Xbq W θ g ρ [x] args):
 us=[]/\Good P N W θ g ρ ⟨d,.load T x,ty,pos,aft,gd⟩ v g:=by
 simp only[F] at h
 split at h<;>try cases h
 rename_i ti Z
 obtain⟨hk,hp⟩:=hT _ _ Z
 split at h<;>try cases h
 split at h<;>cases h
 rename_i hf
 obtain⟨f1,f2⟩:=Xnw hf
 obtain⟨b,off,e,I,h2,h3⟩:=Yre ha.1.1
 exact⟨rfl,Xwp hk hp o I (Ynh h2) (Xr3 f1 f2).1 (Xr3 f1 f2).2 (λj u M=>(h3 j u M).1) (λi hi=>absurd hi (Xng _ _))⟩
 split at h<;>try cases h
 rename_i a O
 split at h<;>cases h
 rename_i hs
 obtain⟨b,I,e⟩:=Xj4 ha.1.1
 obtain⟨b',cs,T',r1,r2,r3,r4⟩:=o.r _ _ O
 rw[I] at r1;injection r1 with r1;subst r1
 obtain⟨u,m,w,e1,e2,e3,U,V,e6⟩:=Ycm hs r3
 refine⟨rfl,Xwp hk hp o e e3 U V (λj c M=>?_) (λi hi=>o.ids _ _ i O (e6 i hi))⟩
 rw[Xbd r2,e1,<-e2]
 exact Xwm M
 split at h<;>try cases h
 rename_i sz' xs O
 split at h<;>try cases h
 rename_i hsz
 subst hsz
 split at h<;>try cases h
 rename_i y hy
 split at h<;>cases h
 rename_i z hz
 obtain⟨b,I,e⟩:=Ynq ha.1.1
 obtain⟨b',cs,T',r1,r2,r3,r4,r5,r6,r7⟩:=o.r _ _ O
 rw[I] at r1;injection r1 with r1;subst r1
 obtain⟨ce,he,_,hf⟩:=r6 _ _ hy
 obtain⟨u,m,w,e1,e2,e3,U,V⟩:=Xu3 hz he
 refine⟨rfl,Xwp hk hp o e (Ynh e3) (Xr3 U V).1 (Xr3 U V).2 (λj c M=>?_) (λi hi=>absurd hi (Xng _ _))⟩
 rw[Xbd r2,W4z]
 exact hf _ _ (by rw[e1,<-e2];exact Xwm M)
theorem Ypw{T:TypeId}(I:∀T ti,tb T=some ti->TyOk P T ti/\∀a c,ti.z≠.pr a c)(M:Obs W θ N g)(hN:∀b,W.size<=b->N b)(O:dd<1000000)(h:F tb dd g (.alloc T) args=some (v,us)):
 Good P N W θ g ρ ⟨d,.alloc T,ty,pos,aft,gd⟩ v (Xbj g us):=by
 simp only[F] at h
 split at h<;>cases h
 rename_i ti j U
 obtain⟨o,hp⟩:=I _ _ j
 obtain⟨ii,v0,i1,i2,V,Z,i5⟩:=o.i
 refine⟨_,_,.value (.pointer (some ⟨W.size,0,none⟩)),?_,Stp.push (c:=0) M hN O U (.cells v0.cells T) (λ_=>True) (x:=.var (zA ti.z)) ⟨W.size,ti.z.zc,T,by simp,?_,Yeg o.z,λi=>.inr ⟨rfl,trivial⟩⟩ (λi hi=>absurd hi (Xie _ _)),
  .inr ⟨_,rfl,Xtm (by simp)⟩,λi hi=>⟨_,by subst hi;exact Xai _ _ _⟩⟩
 have hz:(zeroValue T).run P W.w=.ok v0 W.w:=by simp[zeroValue,typeInfo,program,bind,Sem.bind,Sem.run,pure,i1,V]
 simp only[execOp,Instr.alloc]
 rw[Sem.run_bind,Sem.run_bind,hz]
 rfl
 rw[<-Z,Array.toArray_toList]
 exact Xbh ..
theorem Ypp{T:TypeId}{x:Operand}(M:Obs W θ N g)(hN:∀b,W.size<=b->N b)(O:dd<1000000)(h:F tb dd g (.box T x) args=some (v,us))(ha:Xbq W θ g ρ [x] args):
 Good P N W θ g ρ ⟨d,.box T x,ty,pos,aft,gd⟩ v (Xbj g us):=by
 simp only[F] at h
 split at h<;>try cases h
 rename_i a o
 split at h<;>cases h
 rename_i j
 obtain⟨U,_⟩:=Xha j ha.1.1 (Xgg j)
 refine⟨_,_,.value (.pointer (some ⟨W.size,0,none⟩)),rfl,Stp.push (c:=0) M hN O o (.cells (ρ x).cells T) (λ_=>True) (x:=.var a) ⟨W.size,(ρ x).cells.toList,T,by simp,?_,?_,λi=>.inr ⟨rfl,trivial⟩⟩ ha.1.2,
  .inr ⟨_,rfl,Xtm (by simp)⟩,λi hi=>⟨_,by subst hi;exact Xai _ _ _⟩⟩
 rw[Array.toArray_toList]
 exact Xbh ..
 exact AV.c_mono (Xew _ _ _) a (λi hi=>if_neg λe=>by obtain⟨y,I⟩:=ha.1.2 i hi;rw[e,o] at I;cases I) U
theorem Xm6{T:TypeId}{ti:TI}(j:TyOk P T ti){b off:Nat}{w:World}{U:TypeId}{c:List Value}{v:Value}(hb:w.heap[b]?=some (.cells c.toArray U (0,0)))
 (h:v.cells.toList.length=ti.z.size) (Z:off+ti.z.size<=c.length) (o:∀u∈v.cells.toList,Xfi u=true) :
 (storeVar T ⟨b,off,none⟩ v).run P w=.ok () (Xg6 w b (.cells (spl c off v.cells.toList).toArray U (0,0))):=by
 obtain⟨ii,u,I,M,e3,_⟩:=j.i
 have O:(sizeOf T).run P w=.ok ti.z.size w:=by simp[sizeOf,typeInfo,program,bind,Sem.bind,Sem.run,pure,I,M]
 unfold storeVar
 rw[Sem.run_bind,O]
 have V:v.cells.size=ti.z.size:=by simpa using h
 simp only[Result.andThen_ok,V]
 simp only[ne_eq,not_true,if_false]
 have:=Xb4 (P:=P) (off:=off) v.cells.toList w 0 c hb (by rw[h];omega) o
 simpa using this
theorem Xvl{T:TypeId}{x y:Operand}{ti:TI}(h:TyOk P T ti){b off:Nat}{U:TypeId}{c:List Value}(i:ρ x=.pointer (some ⟨b,off,none⟩))(hb:W.w.heap[b]?=some (.cells c.toArray U (0,0)))
 (j:(ρ y).cells.toList.length=ti.z.size) (o:off+ti.z.size<=c.length) (I:∀u∈(ρ y).cells.toList,Xfi u=true) :
 (execOp ρ ⟨none,.store T x y,ty,pos,aft,gd⟩).run P W.w=.ok .skip (W.put b (.cells (spl c off (ρ y).cells.toList).toArray U (0,0)) (λ_=>True)).w:=by
 simp only[execOp,i,Instr.storeAt,Instr.sureAddr]
 rw[Sem.run_bind,Sem.run_bind]
 show Result.andThen (Result.andThen (Result.ok _ _) _) _=_
 simp only[Result.andThen_ok]
 rw[Xm6 h hb j o I]
 rfl
theorem Yoa{T:TypeId}{x y:Operand}(hT:∀T ti,tb T=some ti->TyOk P T ti/\∀a c,ti.z≠.pr a c)(hO:Obs W θ N g)(I:F tb dd g (.store T x y) args=some (v,us))(ha:Xbq W θ g ρ [x,y] args):
 Good P N W θ g ρ ⟨none,.store T x y,ty,pos,aft,gd⟩ v (Xbj g us):=by
 simp only[F] at I
 split at I<;>try cases I
 rename_i ti hti
 obtain⟨hk,hp⟩:=hT _ _ hti
 split at I<;>try cases I
 rename_i o off v1
 split at I<;>try cases I
 rename_i a hg
 split at I<;>cases I
 rename_i a' O hup
 rw[W0d] at O
 obtain⟨U,O⟩:=O
 have O:=W0c O
 obtain⟨b,h1,e⟩:=Xj4 ha.1.1
 obtain⟨b',cs,T',r1,r2,r3,r4⟩:=hO.r _ _ hg
 rw[h1] at r1;injection r1 with r1;subst r1
 obtain⟨hv,_⟩:=Xha U ha.2.1.1 (Xgg U)
 have M:=AV.c_len v1 hv
 obtain⟨u,m,w,e1,e2,e3,e4,e5⟩:=Ycf hv hup r3
 have V:=Xvl (P:=P) (ty:=ty) (pos:=pos) (aft:=aft) (gd:=gd) hk e r2 (by rw[M,O]) (by rw[e1];simp;omega) (AV.c_one v1 hv)
 have hspl:spl cs off (ρ y).cells.toList=u++((ρ y).cells.toList++w):=by rw[e1,<-e2];exact Xq4 _ _ _ _ (by rw[M,e3])
 have hle:=Xfl W b cs (spl cs off (ρ y).cells.toList) T' (λ_=>True) r2 (λi v hA=>absurd (r4 i) hA)
 refine⟨_,θ,_,V,Stp.put hO (t:=o) (x:=.var a') hg rfl h1 r2 (λi v hA=>absurd (r4 i) hA) (λ_ _ _=>rfl) (λ_ _=>rfl) h1 (λi z hz=>?_) (λi z hz=>?_) ⟨b,_,T',h1,Xa1 _ _ _ (Xa2 r2),?_,λi=>⟨r4 i,λ_=>trivial⟩⟩ (λi hi=>?_),.inl ⟨rfl,rfl⟩,λi hi=>hi.elim⟩
 rcases Xae hz with ⟨f1,f2⟩ | ⟨f1,f2⟩
 exact .inl ⟨f1,f2⟩
 exact .inr (.inr ⟨f2,f1⟩)
 by_cases Z:i=o
 subst Z;exact⟨_,Xai _ _ _⟩
 exact⟨z,by rw[show Xbj g [(o,Ob.var a')]=upd g o (.var a') from rfl,Xak Z];exact hz⟩
 have:=AV.c_mono hle a' (λ_ _=>rfl) e4
 rw[<-hspl] at this
 exact this
 rcases e5 i hi with h | h
 exact hO.ids _ _ i hg h
 exact ha.2.1.2 i h
 rename_i o sz j v1
 split at I<;>try cases I
 rename_i sz' xs hg
 split at I<;>try cases I
 rename_i x1 hx1
 split at I<;>cases I
 rename_i hc
 obtain⟨U,rfl,hs1,hs2,hs3,hj⟩:=hc
 obtain⟨b,h1,e⟩:=Ynq ha.1.1
 obtain⟨b',cs,T',r1,r2,r3,r4,r5,r6,r7⟩:=hO.r _ _ hg
 rw[h1] at r1;injection r1 with r1;subst r1
 obtain⟨hv,_⟩:=Xha U ha.2.1.1 (Xgg U)
 have M:=AV.c_len v1 hv
 have hjc:j*sz+sz<=cs.length:=by
  rw[r3,<-W2m];exact W0l _ (by omega)
 have V:=Xvl (P:=P) (ty:=ty) (pos:=pos) (aft:=aft) (gd:=gd) hk e r2 (by rw[M,hs1,hs3]) (by rw[hs3];exact hjc) (AV.c_one v1 hv)
 have hle:=Xfl W b cs (spl cs (j*sz) (ρ y).cells.toList) T' (λ_=>True) r2 (λi v hA=>absurd (r7 i) hA)
 have hsp:∀q,(spl cs (j*sz) (ρ y).cells.toList)[q]?=if j*sz<=q/\q<j*sz+sz then (ρ y).cells.toList[q-j*sz]? else cs[q]?:=λq=>by
  rw[Xd7 _ _ _ _ (by rw[M,hs1];exact hjc),M,hs1]
 refine⟨_,θ,_,V,Stp.put hO (t:=o) (x:=.arr sz (xs.set j x1)) hg rfl h1 r2 (λi v hA=>absurd (r7 i) hA) (λ_ _ _=>rfl) (λ_ _=>rfl) h1 (λi z hz=>?_) (λi z hz=>?_)
  ⟨b,_,T',h1,Xa1 _ _ _ (Xa2 r2),by rw[W2e,Xcn];exact r3,r4,by simpa using r5,λi x hx=>?_,λi=>⟨r7 i,λ_=>trivial⟩⟩ (λi hi=>hi.elim),.inl ⟨rfl,rfl⟩,λi hi=>hi.elim⟩
 rcases Xae hz with ⟨f1,f2⟩ | ⟨f1,f2⟩
 exact .inl ⟨f1,f2⟩
 exact .inr (.inr ⟨f2,f1⟩)
 by_cases Z:i=o
 subst Z;exact⟨_,Xai _ _ _⟩
 exact⟨z,by rw[show Xbj g [(o,Ob.arr sz (xs.set j x1))]=upd g o (.arr sz (xs.set j x1)) from rfl,Xak Z];exact hz⟩
 rw[W2e]
 by_cases hij:i=j
 subst hij
 rw[W2n hj] at hx
 injection hx with hx;subst hx
 refine⟨_,D.mono hle _ (Xm2 hx1 hv),hs2,λq c hq=>?_⟩
 have hql:q<sz:=by
  rw[<-hs1,<-M]
  by_cases h:q<(ρ y).cells.toList.length
  exact h
  rw[W1y (by omega)] at hq;cases hq
 rw[hsp,if_pos (by omega),W3v]
 exact hq
 rw[W2l (λh=>hij h.symm)] at hx
 obtain⟨e1,e2,e3,e4⟩:=r6 i x hx
 refine⟨e1,D.mono hle _ e2,e3,λq c hq=>?_⟩
 have hql:q<sz:=by
  rw[<-e3,<-D.at_len x e2]
  by_cases h:q<e1.length
  exact h
  rw[W1y (by omega)] at hq;cases hq
 rw[hsp,if_neg ?_]
 exact e4 q c hq
 rcases W7g hij with h | h
 have:i*sz+sz<=j*sz:=by rw[<-W2m];exact W0l _ (by omega)
 omega
 have:j*sz+sz<=i*sz:=by rw[<-W2m];exact W0l _ (by omega)
 omega
end
end
section
def AtL(W:GW)(sz:Nat)(xs:List D)(cs:List Value): Prop:=∀i x,xs[i]?=some x->∃e,D.At W x e/\x.size=sz/\∀j v,e[j]?=some v->cs[i*sz+j]?=some v
theorem Xbe{α:Type _}{l:List α}{i:Nat}{x:α}(h:l[i]?=some x): i<l.length:=by
 by_cases j:i<l.length
 exact j
 rw[W1y (by omega)] at h;cases h
theorem AtL.mono{W W':GW}{sz:Nat}{xs:List D}{cs:List Value}(l:LeF W W')(h:AtL W sz xs cs): AtL W' sz xs cs:=λi x hi =>
 let ⟨e,j,o,I⟩:=h i x hi;⟨e,D.mono l x j,o,I⟩
theorem AtL.ext{W:GW}{sz:Nat}{xs:List D}{cs I:List Value}(h:AtL W sz xs cs)(hd:∀q v,q<xs.length*sz->cs[q]?=some v->I[q]?=some v): AtL W sz xs I:=λi x hi=>by
 obtain⟨e,M,O,U⟩:=h i x hi
 refine⟨e,M,O,λj v T=>hd _ v ?_ (U j v T)⟩
 have o:=Xbe T
 rw[D.at_len x M,O] at o
 have V:=Xbe hi
 have:i*sz+sz<=xs.length*sz:=by rw[<-W2m];exact W0l _ (by omega)
 omega
theorem AtL.app{W:GW}{sz:Nat}{xs ys:List D}{cs T:List Value}(h:AtL W sz xs cs)(k:AtL W sz ys T)(U:cs.length=xs.length*sz): AtL W sz (xs++ys) (cs++T):=λi x hi=>by
 by_cases V:i<xs.length
 rw[W0q V] at hi
 obtain⟨e,o,I,M⟩:=h i x hi
 exact⟨e,o,I,λj v O=>by
  have:=M j v O
  rw[W0q (Xbe this)];exact this⟩
 rw[W0n (by omega)] at hi
 obtain⟨e,o,I,M⟩:=k _ x hi
 refine⟨e,o,I,λj v O=>?_⟩
 have:=M j v O
 obtain⟨q,rfl⟩:=Nat.le.dest (W6f.1 V)
 rw[W3v] at this
 rw[W0n (by rw[U,W1f];omega),U,show (xs.length+q)*sz+j-xs.length*sz=q*sz+j by rw[W1f];omega]
 exact this
theorem AtL.row{W:GW}{sz b off:Nat}{xs:List D}{cs:List Value}(h:AtL W sz xs cs)(hf:∀q v,q<xs.length*sz->cs[q]?=some v->Fr W b (off+q) v): D.Row W b sz off xs :=
 D.row_of λi x hi=>by
  obtain⟨e,I,M,T⟩:=h i x hi
  refine⟨e,I,M,λj v O=>?_⟩
  rw[W4z]
  refine hf _ v ?_ (T j v O)
  have o:=Xbe O
  rw[D.at_len x I,M] at o
  have U:=Xbe hi
  have:i*sz+sz<=xs.length*sz:=by rw[<-W2m];exact W0l _ (by omega)
  omega
theorem Xh6{W:GW}{b sz:Nat}: ∀ {xs:List D} {off:Nat},D.Row W b sz off xs->∃cs:List Value,cs.length=xs.length*sz/\(∀j u,cs[j]?=some u->Fr W b (off+j) u)/\(∀u∈cs,Xfi u=true)/\AtL W sz xs cs
 | [],off,_=>⟨[],by simp,λj u h=>by simp at h,λu h=>by simp at h,λi x h=>by simp at h⟩
 | x::xs,off,⟨⟨e,I,O,U⟩,V⟩=>by
  obtain⟨cs,Z,k2,k3,k4⟩:=Xh6 V
  have T:e.length=sz:=by rw[D.at_len x I,O]
  have one:AtL W sz [x] e:=λi y hi=>by
   cases i with
   | zero=>simp at hi;subst hi;exact⟨e,I,O,λj v o=>by simpa using o⟩
   | succ i=>simp at hi
  refine⟨e++cs,by rw[W0i,T,Z,W1j,W2m];omega,λj u o=>?_,λu hu=>?_,by simpa using one.app k4 (by simpa using T)⟩
  by_cases M:j<e.length
  rw[W0q M] at o;exact U j u o
  rw[W0n (by omega)] at o
  have:=k2 _ u o
  rwa[show off+sz+(j-e.length)=off+j by omega] at this
  rcases W2p.1 hu with h | h
  exact D.at_one x I u h
  exact k3 u h
def Xg8(z:List Value): Nat->List Value
 | 0=>[]
 | k+1=>z++Xg8 z k
theorem Xd9(z:List Value)(k:Nat): (Xg8 z k).length=k*z.length:=by
 induction k with
 | zero=>simp[Xg8]
 | succ k h=>simp only[Xg8,W0i,h,W2m];omega
theorem Xlr(z:List Value)(k i j:Nat)(hi:i<k)(h:j<z.length): (Xg8 z k)[i*z.length+j]?=z[j]?:=by
 induction k generalizing i with
 | zero=>omega
 | succ k o =>
  simp only[Xg8]
  cases i with
  | zero=>rw[W4y,W1l,W0q h]
  | succ i =>
   rw[W2m,W0n (by omega),show i*z.length+z.length+j-z.length=i*z.length+j by omega]
   exact o i (by omega)
theorem Xk2(z:List Value)(k:Nat)(h:0<z.length)(zero:Array Value)(O:zero.toList=z): (Array.range (k*z.length)).map (λi=>zero[i%zero.size]!)=(Xg8 z k).toArray:=by
 apply Array.ext'
 apply W4t
 intro q
 have I:zero.size=z.length:=by rw[<-O];simp
 by_cases hq:q<k*z.length
 have M:=W2x q z.length
 have T:=W2o q h
 have hd:q/z.length<k:=W7u (by rw[W1g];exact hq)
 have:=Xlr z k (q/z.length) (q%z.length) hd T
 rw[show q/z.length*z.length+q%z.length=q by rw[W1g];exact M] at this
 simp only[Array.toList_map,Array.toList_range,W2c]
 rw[this,List.getElem?_range hq]
 have j:zero[q%z.length]?=z[q%z.length]?:=by rw[<-O];simp
 simp only[W3m,I]
 rw[W0e T] at j |-
 have o:q%z.length<zero.size:=by omega
 rw[W6g o] at j
 rw[getElem!_pos zero _ o]
 exact j
 rw[W1y (by simp;omega),W1y (by simp[Xd9];omega)]
theorem D.size_pos: ∀x:D,0<x.size:=λx=>by
 induction x using D.ind with
 | leaf x i j=>cases x<;>first | exact absurd rfl (i _) | exact absurd rfl (j _ _) | exact W7t
 | st a h=>exact h
 | pr a c h _=>exact W0y h (W6i _ _)
theorem D.zc_len(x:D): x.zc.length=x.size:=by
 induction x using D.ind with
 | leaf x j o=>cases x<;>first | exact absurd rfl (j _) | exact absurd rfl (o _ _) | rfl
 | st a I=>exact I
 | pr a c h i=>rw[D.zc,W0i,h,i];rfl
section
variable{P:Program}{N:Nat->Prop}{W:GW}{θ:Loc}{g:Hp}{ρ:Operand->Value}
variable{tb:Nat->Option TI}{dd:Nat}{d:Option Nat}{ty:TypeId}{pos:String}{aft:Array Edge}{gd:Option (Nat×Bool)}{args:List AV}{v:AV}{us:List (Nat×Ob)}
theorem Yoz{T:TypeId}{x y:Operand}(hT:∀T ti,tb T=some ti->TyOk P T ti/\∀a c,ti.z≠.pr a c)(hO:Obs W θ N g)(hN:∀b,W.size<=b->N b)(hB:dd<1000000)(I:F tb dd g (.makeSlice T x y) args=some (v,us))(ha:Xbq W θ g ρ [x,y] args):
 Good P N W θ g ρ ⟨d,.makeSlice T x y,ty,pos,aft,gd⟩ v (Xbj g us):=by
 simp only[F] at I
 split at I<;>try cases I
 rename_i ti k m k' c U hg
 obtain⟨hk,hp⟩:=hT _ _ U
 obtain⟨t,u1,_,u3⟩:=hk.u
 split at I<;>try cases I
 rename_i sz xs0 hz
 rw[hz] at u3
 obtain⟨E,e,h,V,ii,v0,i1,i2,i3,i4,i5⟩:=u3
 subst e
 split at I<;>cases I
 rename_i hc
 obtain⟨h0,Z,hr1,O⟩:=hc
 obtain⟨e1,_⟩:=Xcw ha.1.1
 obtain⟨e2,_⟩:=Xcw ha.2.1.1
 have M:ti.e.zc.length=sz:=by rw[D.zc_len,h]
 have hpos:0<sz:=by rw[h];exact D.size_pos _
 have o:=Xk2 ti.e.zc c.toNat (by omega) v0.cells i5
 rw[M] at o
 refine⟨W.push (.cells (Xg8 ti.e.zc c.toNat).toArray E) (λ_=>True),_,.value (.slice (some ⟨W.size,0,none⟩) m.toNat c.toNat),?_,Stp.push (c:=c.toNat) hO hN hB hg (.cells (Xg8 ti.e.zc c.toNat).toArray E) (λ_=>True)
  (x:=.arr sz (List.replicate m.toNat ti.e)) ⟨W.size,Xg8 ti.e.zc c.toNat,E,by simp,Xbh ..,by simp[Xd9,M],by simpa using O,by simp;omega,λi x hi=>?_,λi=>.inr ⟨rfl,trivial⟩⟩ (λi hi=>hi.elim),
  .inr ⟨_,rfl,[.slice (some ⟨W.size,0,none⟩) m.toNat c.toNat],⟨W.size,some ⟨W.size,0,none⟩,by simp,by simp;omega,by simpa using O,by simp,λ_=>by rw[W4y]⟩,rfl⟩,λi hi=>⟨_,by subst hi;exact Xai _ _ _⟩⟩
 have:=run_make (P:=P) W.w T E ii v0 u1 i1 i4 k k' m c h0 Z (by
  rw[i3]
  have h2:((c.toNat*ti.eb:Nat):Int)<=((140737488355328:Nat):Int):=Int.ofNat_le.2 hr1
  rw[W1g,W2r,W2w (by omega)] at h2
  omega) (by omega)
 simp only[execOp,e1,e2]
 rw[Sem.run_bind,this,i2,<-h]
 have h2:madeCells v0.cells (c.toNat*sz)=(Xg8 ti.e.zc c.toNat).toArray:=o
 rw[h2]
 rfl
 have hi':=W4l (a:=ti.e) (n:=m.toNat) (i:=i)
 rw[hi'] at hi
 split at hi<;>cases hi
 rename_i hlt
 refine⟨ti.e.zc,D.at_zc _ V,h.symm,λj w hj=>?_⟩
 rw[<-M,Xlr _ _ _ _ (by omega) (Xbe hj)]
 exact hj
theorem Xsk(sz:Nat): ∀ {ps:List (Nat×Operand)} {k:Nat} {pre rest:List Value},Xtr k ps=true->pre.length=k*sz->rest.length=ps.length*sz->(∀x∈ps,(ρ x.2).cells.toList.length=sz) ->
 Instr.fill (λi=>some (i*sz,sz)) (pre++rest).toArray (ps.map λx=>(x.1,ρ x.2))=some (pre++ps.flatMap λx=>(ρ x.2).cells.toList).toArray
 | [],k,pre,rest,_,_,j,_=>by
  have:rest=[]:=W0m (by simpa using j)
  subst this;rfl
 | (i,x)::ps,k,pre,rest,hi,hp,j,T=>by
  simp only[Xtr,W0d] at hi
  have e:=W0c hi.1
  subst e
  have o:=T (i,x) (W0w ..)
  have I:(ρ x).cells.size=sz:=by simpa using o
  have U:sz<=rest.length:=by rw[j,W1j,W2m];omega
  have h:rest=rest.take sz++rest.drop sz:=(W6c ..).symm
  have M:(rest.take sz).length=sz:=by rw[W0k];omega
  simp only[W5a,Instr.fill]
  have O:(decide ((ρ x).cells.size≠sz)||decide (i*sz+(ρ x).cells.size>(pre++rest).toArray.size))=false:=by
   simp[I,hp];omega
  rw[if_neg (by rw[O];simp),Xoh]
  have:spl (pre++rest) (i*sz) (ρ x).cells.toList=(pre++(ρ x).cells.toList)++rest.drop sz:=by
   rw[h,<-hp,Xq4 _ _ _ _ (by rw[o,M]),<-h];simp
  rw[this,Xsk sz hi.2 (by rw[W0i,hp,o,W2m]) (by rw[W1u,j,W1j,W2m];omega) (λy V=>T y (W1c _ V))]
  simp
theorem Yci{z:D}{sz:Nat}: ∀ {xs:List D} {asx:List AV} {o:List Operand},Ye0 z sz asx=some xs->Xbq W θ g ρ o asx->(∀x∈o,(ρ x).cells.toList.length=sz)/\AtL W sz xs (o.flatMap λx=>(ρ x).cells.toList)/\xs.length=o.length
 | xs,[],[],h,_=>by simp only[Ye0] at h;injection h with h;subst h;exact⟨λx h=>by simp at h,λi x h=>by simp at h,rfl⟩
 | xs,a::asx,x::o,h,ha=>by
  simp only[Ye0] at h
  split at h<;>try cases h
  rename_i y Z
  split at h<;>try cases h
  rename_i T
  split at h<;>cases h
  rename_i ys O
  simp only[W0d,W4e] at T
  obtain⟨⟨⟨hp,M⟩,I⟩,hc3⟩:=T
  have M:=W0c M
  have I:=W0c I
  obtain⟨k1,k2,k3⟩:=Yci O ha.2
  obtain⟨U,_⟩:=Xha hp ha.1.1 (Xgg hp)
  have V:=AV.c_len a U
  have one:AtL W sz [y] (ρ x).cells.toList:=λi u hi=>by
   cases i with
   | zero=>simp at hi;subst hi;exact⟨_,Xm2 Z U,M,λj v hj=>by simpa using hj⟩
   | succ i=>simp at hi
  refine⟨λu hu=>?_,?_,by simp[k3]⟩
  rcases W1s.1 hu with h | h
  subst h;rw[V,I]
  exact k1 u h
  simpa using one.app k2 (by simp[V,I])
 | _,[],_::_,_,ha=>ha.elim
 | _,_::_,[],_,ha=>ha.elim
theorem Ypr{T n:Nat}{ps:Array (Nat×Operand)}(hT:∀T ti,tb T=some ti->TyOk P T ti/\∀a c,ti.z≠.pr a c)(hO:Obs W θ N g)(M:Fp tb (.buildSlice T n ps) args=some v)(ha:Xbq W θ g ρ (ps.toList.map (·.2)) args):
 Good P N W θ g ρ ⟨d,.buildSlice T n ps,ty,pos,aft,gd⟩ v g:=by
 simp only[Fp] at M
 split at M<;>try cases M
 rename_i ti hti
 obtain⟨hk,hp⟩:=hT _ _ hti
 obtain⟨t,u1,_,u3⟩:=hk.u
 split at M<;>try cases M
 rename_i sz xs0 hz
 rw[hz] at u3
 obtain⟨E,e,j,hez,ii,v0,i1,i2,i3,i4,i5⟩:=u3
 subst e
 have key:∀xs,(Nat.ble (n*sz) 16777216&&Nat.beq ps.size n&&Xtr 0 ps.toList)=true->Ye0 ti.e sz args=some xs ->
  ∃cs:List Value,(execOp ρ ⟨d,.buildSlice T n ps,ty,pos,aft,gd⟩).run P W.w=.ok (.value (.slice (some ⟨W.size,0,none⟩) n n)) (W.push (.cells cs.toArray E) (λ_=>False)).w/\AtL W sz xs cs/\xs.length=n/\n*sz<=16777216:=by
  intro xs hc hxs
  simp only[W0d] at hc
  obtain⟨⟨O,o⟩,hc3⟩:=hc
  have O:n*sz<=16777216:=W1e O
  have o:ps.size=n:=W0c o
  obtain⟨k1,k2,k3⟩:=Yci hxs ha
  have U:ti.e.zc.length=sz:=by rw[D.zc_len,j]
  have I:0<sz:=by rw[j];exact D.size_pos _
  have Z:ps.toList.length=n:=by simpa using o
  have hf:=Xsk (ρ:=ρ) sz (ps:=ps.toList) (k:=0) (pre:=[]) (rest:=Xg8 ti.e.zc n) hc3 (by simp) (by rw[Xd9,U,Z]) (λx hx=>k1 _ (W4r.2 ⟨x,hx,rfl⟩))
  simp only[W3s] at hf
  refine⟨_,?_,k2,by rw[k3,W1k,Z],O⟩
  have hn1:¬(16777216<n*sz):=by omega
  have hfm:((ps.toList.map (·.2)).flatMap λx=>(ρ x).cells.toList)=ps.toList.flatMap λx=>(ρ x.2).cells.toList:=by rw[List.flatMap_map]
  rw[hfm]
  simp only[execOp]
  rw[Sem.run_bind]
  suffices h:(Instr.buildSlice T n (ps.map λx=>(x.1,ρ x.2))).run P W.w=.ok (.slice (some ⟨W.size,0,none⟩) n n) (W.push (.cells (ps.toList.flatMap λx=>(ρ x.2).cells.toList).toArray E) (λ_=>False)).w by
   rw[h];rfl
  by_cases h0:n*sz=0
  have hn0:n=0:=by rcases Nat.mul_eq_zero.1 h0 with h | h;exact h;omega
  subst hn0
  have hps:ps=#[]:=Array.eq_empty_of_size_eq_zero o
  subst hps
  simp[Instr.buildSlice,run_underlying u1,sizeOf,typeInfo,i1,i2,<-j,Instr.fill,newRow,Array.range_zero']
  rfl
  have hz2:(Array.range (n*sz)).map (λq=>v0.cells[q%v0.cells.size]!)=(Xg8 ti.e.zc n).toArray:=by
   have:=Xk2 ti.e.zc n (by omega) v0.cells i5
   rw[U] at this;exact this
  simp[Instr.buildSlice,run_underlying u1,sizeOf,typeInfo,zeroValue,i1,i2,i4,<-j,hn1,h0,hz2,newRow,hf]
  rfl
 have fin:∀xs,(Nat.ble (n*sz) 16777216&&Nat.beq ps.size n&&Xtr 0 ps.toList)=true->Ye0 ti.e sz args=some xs ->
  (∀cs:List Value,AtL W sz xs cs->xs.length=n->n*sz<=16777216->AV.V (W.push (.cells cs.toArray E) (λ_=>False)) θ v (.slice (some ⟨W.size,0,none⟩) n n))->(∀i,¬v.ids i)->Good P N W θ g ρ ⟨d,.buildSlice T n ps,ty,pos,aft,gd⟩ v g:=by
  intro xs h1 h2 hv hi
  obtain⟨cs,k1,k2,k3,k4⟩:=key xs h1 h2
  exact⟨_,θ,_,k1,Stp.push0 hO _ _,.inr ⟨_,rfl,hv cs k2 k3 k4⟩,λi h=>absurd h (hi i)⟩
 split at M<;>cases M
 rename_i xs h1 h2
 refine fin xs h1 h2 (λcs hc hn hL=>?_) (λ_ h=>h)
 have I:0<sz:=by rw[j];exact D.size_pos _
 have hnl:n<=n*sz:=W5c n I
 subst hn
 refine⟨_,⟨_,rfl,by omega,.inr ⟨W.size,rfl,(hc.mono (Xew _ _ _)).row λq u hq hu=>⟨?_,?_⟩⟩⟩,rfl⟩
 rw[W1l,<-hu];exact Xbd (Xbh ..) q
 rintro(h | ⟨_,h⟩)
 exact absurd (W.hA _ _ h) (W7q _)
 exact h
end
end
section
def GW.tick(W:GW): GW where
 w:=W.w.drew
 A:=W.A
 hA:=W.hA
section
variable{P:Program}{N:Nat->Prop}{W:GW}{θ:Loc}{g:Hp}{ρ:Operand->Value}
variable{tb:Nat->Option TI}{dd:Nat}{d:Option Nat}{ty:TypeId}{pos:String}{aft:Array Edge}{gd:Option (Nat×Bool)}{args:List AV}{v:AV}{us:List (Nat×Ob)}
theorem Xfp(W:GW): LeF W W.tick:=λ_ _ _ h=>h
theorem Stp.tick(h:Obs W θ N g): Stp N W W.tick θ θ g g where
 os:=_root_.rfl
 out:=_root_.rfl
 tape:=_root_.rfl
 size:=W0a _
 same:=λ_ _ _=>_root_.rfl
 A:=λ_ _ _ _=>W4a
 le:=Xfp W
 th:=λ_ _ _=>_root_.rfl
 hi:=λ_ _=>_root_.rfl
 obs:={ r:=λo x i=>(h.r o x i).keep (Xfp W) _root_.rfl (λ_ _=>_root_.rfl) (λ_ _ _=>⟨_root_.rfl,λ_ h=>h⟩),new:=h.new,dis:=h.dis,ids:=h.ids }
 dom:=λ_ y h=>⟨y,h⟩
theorem Stp.trans{W W1 W2:GW}{θ j o:Loc}{g T U:Hp}(h:Stp N W W1 θ j g T)(k:Stp N W1 W2 j o T U): Stp N W W2 θ o g U where
 os:=k.os.trans h.os
 out:=k.out.trans h.out
 tape:=k.tape.trans h.tape
 size:=W0j h.size k.size
 same:=λb hb I=>(k.same b (W0y hb h.size) I).trans (h.same b hb I)
 A:=λb hb I i=>(k.A b (W0y hb h.size) I i).trans (h.A b hb I i)
 le:=h.le.trans k.le
 th:=λi y M=>let ⟨z,O⟩:=h.dom i y M;(k.th i z O).trans (h.th i y M)
 hi:=λi hi=>(k.hi i hi).trans (h.hi i hi)
 obs:=k.obs
 dom:=λi y M=>let ⟨z,O⟩:=h.dom i y M;k.dom i z O
theorem Xfz{T E:TypeId}{ti:TI}{M:TypeInfo}{v0:Value}(u1:P.underlying T=some (.slice E))(i1:P.info? E=some M)(i2:M.size=ti.e.size)(i3:M.bytes=ti.eb)(i4:M.zero=some v0)(i5:v0.cells.toList=ti.e.zc)
 {p:Option Addr} {m c k c2:Nat} {q:Option Addr} {olds news:List Value} (hm:m<=c) (hp:c=0\/∃b,p=some ⟨b,0,none⟩) (ho:olds.length=m*ti.e.size)
 (hor:∀b,p=some ⟨b,0,none⟩->∀j u,olds[j]?=some u->W.w.cell? ⟨b,j,none⟩=some u) (hn:news.length=k*ti.e.size) (hnr:k=0\/∃b off,q=some ⟨b,off,none⟩/\∀j u,news[j]?=some u->W.w.cell? ⟨b,off+j,none⟩=some u)
 (hone:∀u∈news,Xfi u=true) (hr:Xiw (m+k) ti) (hk2:k<=c2) :
 (k=0/\(Builtin.append_ #[T,T] ty #[.slice p m c,.slice q k c2]).run P W.w=.ok (.slice p m c) W.w) \/
 (0<k/\m+k<=c/\∀b cs T',p=some ⟨b,0,none⟩->W.w.heap[b]?=some (.cells (cs:List Value).toArray T' (0,0))->cs.length=c*ti.e.size ->
  (Builtin.append_ #[T,T] ty #[.slice p m c,.slice q k c2]).run P W.w=.ok (.slice p (m+k) c) (Xg6 W.w b (.cells (spl cs (m*ti.e.size) news).toArray T' (0,0)))) \/
 (0<k/\∃c' zs,m+k<=c'/\c'<9223372036854775808/\(olds++news++zs).length=c'*ti.e.size /\
  (Builtin.append_ #[T,T] ty #[.slice p m c,.slice q k c2]).run P W.w=.ok (.slice (some ⟨W.size,0,none⟩) (m+k) c') (W.tick.w.alloc (.cells (olds++news++zs).toArray E))):=by
 rcases W2t k with hk | hk
 subst hk
 left
 refine⟨rfl,?_⟩
 have hn0:news=[]:=W0m (by simpa using hn)
 cases p<;>cases q<;>simp[Builtin.append_,run_underlying u1,sizeOf,typeInfo,i1,Builtin.lenOf,Builtin.firstCells,loadCells,loadCellsFrom,storeCells,hm]
 right
 rcases hnr with h | ⟨b2,o,hq,hnc⟩
 omega
 subst hq
 have I:news.length=k*M.size:=by rw[hn,i2]
 have O:∀j u,news[j]?=some u->W.w.cell? ((⟨b2,o,none⟩:Addr).add j)=some u:=λj u hj=>by rw[add0];exact hnc j u hj
 by_cases i:m+k<=c
 left
 refine⟨hk,i,λb cs T' hpb hb hl=>?_⟩
 subst hpb
 have U:m*M.size+news.length<=cs.length:=by
  rw[I,hl,i2,<-W1f];exact W0l _ i
 have hf:=run_firstCells_some (P:=P) W.w M.size k ⟨b2,o,none⟩ k c2 news I O
 have hst:=Xb4 (P:=P) (off:=0+m*M.size) news W.w 0 cs hb (by omega) hone
 simp only[W2e,W1l] at hst
 rw[<-i2]
 simp[Builtin.append_,run_underlying u1,sizeOf,typeInfo,i1,Builtin.lenOf,i,hf,add0,hst]
 right
 refine⟨hk,grownCap W.w (m+k) c E,(Builtin.zeroCells v0.cells (grownCap W.w (m+k) c E-(m+k))).toList,grownCap_ge ..,?_,?_,?_⟩
 have hlt:=hr.2
 have:=W2o (W.w.tape W.w.drawn (.appendCap (m+k) c E)) (by omega:0<2^63-(m+k))
 simp only[grownCap,Question.cut] at *
 omega
 have hge:=grownCap_ge W.w (m+k) c E
 have hzs:v0.cells.size=ti.e.size:=by rw[<-D.zc_len,<-i5];simp
 rw[W0i,W0i,ho,hn,Array.length_toList,size_zeroCells,hzs,<-W1f,<-W1f]
 congr 1
 omega
 have U:=growslice_fits (old:=c) (need:=m+k) (bytes:=M.bytes) (by omega) (by rw[i3];exact hr.1)
 have h63:((m+k:Nat):Int)<=9223372036854775807:=by have:=hr.2;omega
 have fin:∀ {a b:Array Value},a=b->(Result.ok (Value.slice (some ⟨W.size,0,none⟩) (m+k) (grownCap W.w (m+k) c E)) (W.w.drew.alloc (.cells a E)):Result Value)=.ok (.slice (some ⟨W.size,0,none⟩) (m+k) (grownCap W.w (m+k) c E)) (W.tick.w.alloc (.cells b E)):=by
  rintro a b rfl;rfl
 cases p with
 | none =>
  have hc0:c=0:=by rcases hp with h | ⟨b,h⟩;exact h;cases h
  subst hc0
  have V:m=0:=by omega
  subst V
  have Z:olds=[]:=W0m (by simpa using ho)
  subst Z
  simp only[W1l] at *
  rw[run_append_nil (P:=P) W.w T ty E M v0 u1 i1 i4 ⟨b2,o,none⟩ k c2 news I O hk h63 (by rw[i3];have:=hr.1;omega)]
  exact fin (by simp)
 | some a =>
  have hold:∀j u,olds[j]?=some u->W.w.cell? (a.add j)=some u:=λj u hj=>by
   rcases hp with h | ⟨b,h⟩
   have V:m=0:=by omega
   subst V
   have Z:olds=[]:=W0m (by simpa using ho)
   rw[Z] at hj;simp at hj
   injection h with h;subst h;rw[add0,W1l];exact hor b rfl j u hj
  rw[run_append_grow (P:=P) W.w T ty E M v0 u1 i1 i4 a m c olds (by rw[ho,i2]) hold ⟨b2,o,none⟩ k c2 news I O (by omega) h63 U]
  exact fin (by simp)
theorem Yi3{z:D}{c:AV}{s:Nat}{ys:List D}{u:Value}(h:toD z c=some (.sl s ys))(j:AV.V W θ c u): AV.V W θ (.d (.sl s ys)) u:=by
 have i:c.ag=false->(∀a,c≠.tup a)->c≠.un->AV.V W θ (.d (.sl s ys)) u:=λI M O=>by
  obtain⟨cs,T,e⟩:=V_c j M O
  exact⟨cs,Xm2 h T,by rw[e,I];rfl⟩
 cases c with
 | d x=>simp[toD] at h;subst h;exact j
 | nil=>exact i rfl (λ_=>nofun) nofun
 | lit s' xs=>exact i rfl (λ_=>nofun) nofun
 | gr o s' xs=>exact i rfl (λ_=>nofun) nofun
 | st a => cases z<;>simp only[toD] at h<;>try cases h
           split at h<;>cases h
 | pr a c => cases z<;>simp only[toD] at h<;>try cases h
             split at h<;>cases h
 | _=>simp[toD] at h
theorem Xu4{z:D}{sz:Nat}{c:AV}{ys:List D}{u:Value}(hO:Obs W θ N g)(h:Xh3 g z sz c=some ys)(hv:AV.V W θ c u):
 ∃q c2 news,u=.slice q ys.length c2/\ys.length<=c2/\(news:List Value).length=ys.length*sz/\(ys.length=0\/∃b off,q=some ⟨b,off,none⟩/\∀j u,news[j]?=some u->W.w.cell? ⟨b,off+j,none⟩=some u)/\(∀u∈news,Xfi u=true)/\AtL W sz ys news:=by
 unfold Xh3 at h
 split at h
 rename_i o s l n
 split at h<;>try cases h
 rename_i s' xs hg
 split at h<;>cases h
 rename_i hc
 obtain⟨rfl,rfl,hln⟩:=hc
 obtain⟨b,p,h1,h2,h3,e,h5⟩:=Xf1 hv
 obtain⟨b',cs,T',r1,r2,r3,r4,r5,r6,r7⟩:=hO.r _ _ hg
 rw[h1] at r1;injection r1 with r1;subst r1
 have M:((xs.drop l).take n).length=n:=by simp;omega
 rw[M]
 have hcl:(l+n)*s<=cs.length:=by rw[r3];exact W0l _ h2
 rw[W1f] at hcl
 have T:AtL W s ((xs.drop l).take n) ((cs.drop (l*s)).take (n*s)):=λi x hi=>by
  have Z:=Xbe hi
  rw[M] at Z
  rw[W1h,if_pos Z,W1t] at hi
  obtain⟨e,U,k2,k3⟩:=r6 _ _ hi
  refine⟨e,U,k2,λj v I=>?_⟩
  have O:=Xbe I
  rw[D.at_len x U,k2] at O
  have:i*s+s<=n*s:=by rw[<-W2m];exact W0l _ (by omega)
  rw[W1h,if_pos (by omega),W1t,show l*s+(i*s+j)=(l+i)*s+j by rw[W1f];omega]
  exact k3 j v I
 refine⟨_,_,(cs.drop (l*s)).take (n*s),e,by omega,by rw[W0k,W1u];omega,?_,λu hu=>?_,T⟩
 rcases W2t n with hn | hn
 exact .inl hn
 refine .inr ⟨b,l*s,h5 (by omega),λj u I=>?_⟩
 rw[W1h] at I
 split at I
 rw[W1t] at I
 rw[Xbd r2];exact I
 cases I
 obtain⟨j,I⟩:=W3d hu
 have O:=Xbe I
 rw[W0k,W1u] at O
 have hs0:0<s:=by
  rcases W2t s with h | h
  subst h;simp at O
  exact h
 have hjn:j<n*s:=by omega
 have hdm:=W2x j s
 have hm:=W2o j hs0
 have hd:j/s<n:=W7u (by rw[W1g];exact hjn)
 obtain⟨x,hx⟩:∃x,((xs.drop l).take n)[j/s]?=some x:=⟨_,W0e (by rw[M];exact hd)⟩
 obtain⟨e,U,k2,k3⟩:=T _ _ hx
 have hel:j%s<e.length:=by rw[D.at_len x U,k2];exact hm
 have:=k3 _ _ (W0e hel)
 rw[show j/s*s+j%s=j by rw[W1g];exact hdm,I] at this
 injection this with this
 rw[this];exact D.at_one x U _ (W6z hel)
 rename_i o s l n
 split at h<;>try cases h
 rename_i s' xs hg
 split at h<;>cases h
 rename_i hc
 obtain⟨rfl,rfl,hln⟩:=hc
 obtain⟨b,p,h1,h2,h3,e,h5⟩:=Xqd hv
 obtain⟨b',cs,T',r1,r2,r3,r4,r5,r6,r7⟩:=hO.r _ _ hg
 rw[h1] at r1;injection r1 with r1;subst r1
 have M:((xs.drop l).take n).length=n:=by simp;omega
 rw[M]
 have hcl:(l+n)*s<=cs.length:=by rw[r3];exact W0l _ h2
 rw[W1f] at hcl
 have T:AtL W s ((xs.drop l).take n) ((cs.drop (l*s)).take (n*s)):=λi x hi=>by
  have Z:=Xbe hi
  rw[M] at Z
  rw[W1h,if_pos Z,W1t] at hi
  obtain⟨e,U,k2,k3⟩:=r6 _ _ hi
  refine⟨e,U,k2,λj v I=>?_⟩
  have O:=Xbe I
  rw[D.at_len x U,k2] at O
  have:i*s+s<=n*s:=by rw[<-W2m];exact W0l _ (by omega)
  rw[W1h,if_pos (by omega),W1t,show l*s+(i*s+j)=(l+i)*s+j by rw[W1f];omega]
  exact k3 j v I
 refine⟨_,_,(cs.drop (l*s)).take (n*s),e,by omega,by rw[W0k,W1u];omega,?_,λu hu=>?_,T⟩
 rcases W2t n with hn | hn
 exact .inl hn
 refine .inr ⟨b,l*s,h5 (by omega),λj u I=>?_⟩
 rw[W1h] at I
 split at I
 rw[W1t] at I
 rw[Xbd r2];exact I
 cases I
 obtain⟨j,I⟩:=W3d hu
 have O:=Xbe I
 rw[W0k,W1u] at O
 have hs0:0<s:=by
  rcases W2t s with h | h
  subst h;simp at O
  exact h
 have hjn:j<n*s:=by omega
 have hdm:=W2x j s
 have hm:=W2o j hs0
 have hd:j/s<n:=W7u (by rw[W1g];exact hjn)
 obtain⟨x,hx⟩:∃x,((xs.drop l).take n)[j/s]?=some x:=⟨_,W0e (by rw[M];exact hd)⟩
 obtain⟨e,U,k2,k3⟩:=T _ _ hx
 have hel:j%s<e.length:=by rw[D.at_len x U,k2];exact hm
 have:=k3 _ _ (W0e hel)
 rw[show j/s*s+j%s=j by rw[W1g];exact hdm,I] at this
 injection this with this
 rw[this];exact D.at_one x U _ (W6z hel)
 split at h<;>try cases h
 rename_i s ys' hd
 split at h<;>cases h
 rename_i hs
 subst hs
 obtain⟨p,c2,e,h1,h2,h3⟩:=V_sl (Yi3 hd hv)
 rcases h3 with h3 | ⟨b,off,hp,hr⟩
 subst h3
 exact⟨p,c2,[],e,h1,by simp,.inl rfl,λu h=>by simp at h,λi x h=>by simp at h⟩
 obtain⟨cs,U,k2,k3,k4⟩:=Xh6 hr
 exact⟨p,c2,cs,e,h1,U,.inr ⟨b,off,hp,λj u I=>(k2 j u I).1⟩,k3,k4⟩
end
end
end Go.Vm

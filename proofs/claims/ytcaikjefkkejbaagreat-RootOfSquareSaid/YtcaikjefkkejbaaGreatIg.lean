/- The program's integers: contracts. -/
import Derived.Test.YtcaikjefkkejbaaGreatIf
import Derived.Test.YtcaikjefkkejbaaGreatRl
set_option linter.unusedVariables false
set_option linter.unusedSimpArgs false
set_option maxRecDepth 10000
set_option maxHeartbeats 4000000
namespace Go.Proofs.YtcaikjefkkejbaaGreat
open Go Go.Rx Go.Num
section
section
variable {P : Program} {n : Nat} {ops : Array Oper} {l : List Oper} {K : List Kt} {fin : Exit → Act → World → Prop} {env : Env} {W : GW}
variable {d d2 : Nat} {ty ty2 : TypeId} {pos pos2 : String} {aft aft2 : Array Edge}
theorem O.neg {x : Operand} {T : TypeId} {k' : IntKind} {a r : Int} (hx : get env x = some (.int k' a)) (hr : k'.wrap (-a) = r) (k : JO P n ops l K fin ((d, .int k' r) :: env) W) :
    JO P n ops (⟨some d, .unOp .neg T x, ty, pos, aft, none⟩ :: l) K fin env W :=
  JO.value (fun ac ha => by simp only [execOp, ha.get hx, Op.unary]; rw [← hr]; simp [bind, Sem.bind, Sem.run, pure, Op.intArith, Int.zero_sub]) k
end
theorem integer_trimd_ok {W : GW} {p : Option Addr} {m c n : Nat} (h : Sl RW W p m c (dig n)) :
    Ok Tryz.prog 150 [.slice p m c] W fun W' v => V (RSl RW) W' v (dig n) :=
  (integer_trim_ok h).mono fun _ _ _ h => by rwa [val_dig] at h
theorem integer_signedd_ok {W : GW} {p : Option Addr} {m c n : Nat} (neg : Bool) (h : Sl RW W p m c (dig n)) :
    Ok Tryz.prog 125 [.bool neg, .slice p m c] W fun W' v => V RI W' v (ci (sg neg n)) :=
  (integer_signed_ok neg h).mono fun _ _ _ h => by rwa [val_dig] at h
theorem natAbs_cases (z : Int) : (z < 0 ∧ z = -(z.natAbs : Int)) ∨ (¬ z < 0 ∧ z = (z.natAbs : Int)) := by omega
theorem sg_neg (z : Int) : sg (!decide (z < 0)) z.natAbs = -z := by
  rcases natAbs_cases z with ⟨h, e⟩ | ⟨h, e⟩ <;> simp [sg, h] <;> omega
theorem sg_abs (z : Int) : sg (decide (z < 0)) z.natAbs = z := by
  rcases natAbs_cases z with ⟨h, e⟩ | ⟨h, e⟩ <;> simp [sg, h] <;> omega
theorem sg_mul (x y : Int) : sg (decide (x < 0) != decide (y < 0)) (x.natAbs * y.natAbs) = x * y := by
  rcases natAbs_cases x with ⟨h, e⟩ | ⟨h, e⟩ <;> rcases natAbs_cases y with ⟨h', e'⟩ | ⟨h', e'⟩ <;>
    (simp only [sg, h, h', decide_true, decide_false]
     generalize x.natAbs = a at *
     generalize y.natAbs = b at *
     subst e
     subst e'
     simp [Int.neg_mul, Int.mul_neg])
/-- Sign -/
theorem integer_Sign_ok {W : GW} {v : Value} {z : Int} (h : V RI W v (ci z)) :
    Ok Tryz.prog 131 [v] W fun W' r => r = .int .i64 (cmpI z 0) := by
  obtain ⟨p, m, c, rfl, hs⟩ := unI h
  have hn := hs.hn
  refine Ok.enter Tryz.func131 rfl rfl rfl rfl fun W0 iEn => ?_
  refine J.seq <| J.reg rfl <| O.box rfl fun W1 b1 i1 hb1 => O.as rfl <| JO.nil <| J.seq <| J.block <| J.seq <| J.reg rfl <| O.fa rfl <| O.ldB rfl hb1.to rfl <| O.call rfl (integer_trimd_ok hs.to) fun W2 v2 i2 e2 h2 => ?_
  obtain ⟨p2, m2, c2, rfl, s2⟩ := h2.sl
  have hn2 := s2.hn
  have hz := @dig_len0 z.natAbs
  refine O.len rfl <| O.eq rfl rfl <| O.as rfl <| JO.nil <| J.condD rfl (fun h3 => ?_) (fun h3 => ?_)
  · skip
    refine J.seq <| J.reg rfl <| O.as rfl <| JO.nil <| J.ret1 rfl (.tmp rfl) fun W' iE iP => ?_
    have : z = 0 := by omega
    subst this
    rfl
  · skip
    refine J.seq <| J.reg rfl <| O.fa rfl <| O.ldB rfl hb1.to rfl <| O.as rfl <| JO.nil <| J.condD rfl (fun h9 => ?_) (fun h9 => ?_)
    · skip
      refine J.seq <| J.reg rfl <| O.as rfl <| JO.nil <| J.ret1 rfl (.tmp rfl) fun W' iE iP => ?_
      have : z < 0 := h9
      unfold cmpI
      rw [if_pos this]
    · skip
      refine J.skip <| J.bend <| J.seq <| J.reg rfl <| O.as rfl <| JO.nil <| J.ret1 rfl (.tmp rfl) fun W' iE iP => ?_
      have h1 : ¬ z < 0 := h9
      have h2 : z ≠ 0 := by omega
      unfold cmpI
      rw [if_neg h1, if_pos (by omega)]
/-- Neg -/
theorem integer_Neg_ok {W : GW} {v : Value} {z : Int} (h : V RI W v (ci z)) (hl : (dig z.natAbs).length ≤ 1099511627776) :
    Ok Tryz.prog 149 [v] W fun W' r => V RI W' r (ci (-z)) := by
  obtain ⟨p, m, c, rfl, hs⟩ := unI h
  have hn := hs.hn
  refine Ok.enter Tryz.func149 rfl rfl rfl rfl fun W0 iEn => ?_
  refine J.seq <| J.reg rfl <| O.box rfl fun W1 b1 i1 hb1 => O.alloc fun W2 b2 i2 hl2 hc2 hb2 => JO.nil <| J.seq <| ?_
  refine J.draw [.ex _, .ex _, .ex _, .ex _, .ex _, .rel _, .rel _, .rel _] rfl rfl ⟨fun W1 i1 e1 _ => O.fa rfl <| D.ex, fun W1 i1 e1 _ => O.ldB rfl hb1.to rfl <| D.ex, fun W1 i1 e1 _ => O.not rfl <| D.ex, fun W1 i1 e1 _ => O.fa rfl <| D.ex, fun W1 i1 e1 _ => O.ldB rfl hb1.to rfl <| D.ex, fun W1 i1 e1 _ => O.call rfl (integer_trimd_ok hs.to) fun W5 v5 i5 e5 h5 => D.rel e5 h5 V.me, fun W1 i1 e1 _ => fun _ _ => fun v8 h8 => (by obtain ⟨p6, m6, c6, rfl, hs6⟩ := h8.sl; exact O.call rfl (clone_u32_ok hs6.to (by omega)) fun W5 v5 i5 e5 h5 => D.rel e5 h5 V.me), fun W1 i1 e1 _ => fun _ _ => fun v9 h9 => (by obtain ⟨p6, m6, c6, rfl, hs6⟩ := h9.sl; exact O.call rfl (integer_signedd_ok (!decide (z < 0)) hs6.to) fun W5 v5 i5 e5 h5 => D.rel e5 h5 V.me), trivial⟩ ?_
  intro W1 i1 e1 v8 h8 v9 h9 v10 h10
  obtain ⟨p3, m3, c3, rfl, hs3⟩ := unI h10
  refine O.st rfl rfl hl2.to rfl (by simp [oneC, Value.cells]) fun W3 i3 hc3 => JO.nil <| J.ret1 rfl (.cell rfl hc3 rfl) fun W' iE iP => ?_
  rw [← sg_neg]
  exact mkI hs3.to
/-- Mul -/
theorem integer_Mul_ok {W : GW} {v v' : Value} {z z' : Int} (h : V RI W v (ci z)) (h' : V RI W v' (ci z')) (hl : (dig z.natAbs).length ≤ 1099511627776) (hl' : (dig z'.natAbs).length ≤ 1099511627776) :
    Ok Tryz.prog 129 [v, v'] W fun W' r => V RI W' r (ci (z * z')) := by
  obtain ⟨p, m, c, rfl, hs⟩ := unI h
  obtain ⟨p', m', c', rfl, hs'⟩ := unI h'
  refine Ok.enter Tryz.func129 rfl rfl rfl rfl fun W0 iEn => ?_
  refine J.seq <| J.reg rfl <| O.box rfl fun W1 b1 i1 hb1 => O.box rfl fun W2 b2 i2 hb2 => O.alloc fun W3 b3 i3 hl3 hc3 hb3 => JO.nil <| J.seq <| ?_
  refine J.draw [.ex _, .ex _, .ex _, .ex _, .ex _, .ex _, .ex _, .rel _, .ex _, .ex _, .rel _, .rel _, .rel _] rfl rfl ⟨fun W1 i1 e1 _ => O.fa rfl <| D.ex, fun W1 i1 e1 _ => O.ldB rfl hb1.to rfl <| D.ex, fun W1 i1 e1 _ => O.fa rfl <| D.ex, fun W1 i1 e1 _ => O.ldB rfl hb2.to rfl <| D.ex, fun W1 i1 e1 _ => O.bne rfl rfl <| D.ex, fun W1 i1 e1 _ => O.fa rfl <| D.ex, fun W1 i1 e1 _ => O.ldB rfl hb1.to rfl <| D.ex, fun W1 i1 e1 _ => O.call rfl (integer_trimd_ok hs.to) fun W5 v5 i5 e5 h5 => D.rel e5 h5 V.me, fun W1 i1 e1 _ => O.fa rfl <| D.ex, fun W1 i1 e1 _ => O.ldB rfl hb2.to rfl <| D.ex, fun W1 i1 e1 _ => fun v12 h12 => O.call rfl (integer_trimd_ok hs'.to) fun W5 v5 i5 e5 h5 => D.rel e5 h5 V.me, fun W1 i1 e1 _ => fun v12 h12 => fun _ _ => fun v15 h15 => (by obtain ⟨p6, m6, c6, rfl, hs6⟩ := h12.sl; obtain ⟨p7, m7, c7, rfl, hs7⟩ := h15.sl; exact O.call rfl (integer_times_ok hs6.to hs7.to hl hl') fun W5 v5 i5 e5 h5 => D.rel e5 h5 V.me), fun W1 i1 e1 _ => fun _ _ => fun v16 h16 => (by obtain ⟨p6, m6, c6, rfl, hs6⟩ := h16.sl; exact O.call rfl (integer_signedd_ok (decide (z < 0) != decide (z' < 0)) hs6.to) fun W5 v5 i5 e5 h5 => D.rel e5 h5 V.me), trivial⟩ ?_
  intro W1 i1 e1 v12 h12 v15 h15 v16 h16 v17 h17
  obtain ⟨p4, m4, c4, rfl, hs4⟩ := unI h17
  refine O.st rfl rfl hl3.to rfl (by simp [oneC, Value.cells]) fun W4 i4 hc4 => JO.nil <| J.ret1 rfl (.cell rfl hc4 rfl) fun W' iE iP => ?_
  rw [← sg_mul]
  exact mkI hs4.to
theorem sg_add {x y : Int} (h : decide (x < 0) = decide (y < 0)) : sg (decide (x < 0)) (x.natAbs + y.natAbs) = x + y := by
  rcases natAbs_cases x with ⟨h1, e⟩ | ⟨h1, e⟩ <;> rcases natAbs_cases y with ⟨h2, e'⟩ | ⟨h2, e'⟩ <;> simp [h1, h2] at h <;> simp [sg, h1] <;> omega
theorem sg_sub {x y : Int} (h : decide (x < 0) ≠ decide (y < 0)) (hle : y.natAbs ≤ x.natAbs) : sg (decide (x < 0)) (x.natAbs - y.natAbs) = x + y := by
  rcases natAbs_cases x with ⟨h1, e⟩ | ⟨h1, e⟩ <;> rcases natAbs_cases y with ⟨h2, e'⟩ | ⟨h2, e'⟩ <;> simp [h1, h2] at h <;> simp [sg, h1] <;> omega
/-- Add -/
theorem integer_Add_ok {W : GW} {v v' : Value} {z z' : Int} (h : V RI W v (ci z)) (h' : V RI W v' (ci z')) (hl : (dig z.natAbs).length ≤ 1099511627776) (hl' : (dig z'.natAbs).length ≤ 1099511627776) :
    Ok Tryz.prog 128 [v, v'] W fun W' r => V RI W' r (ci (z + z')) := by
  obtain ⟨p, m, c, rfl, hs⟩ := unI h
  obtain ⟨p', m', c', rfl, hs'⟩ := unI h'
  refine Ok.enter Tryz.func128 rfl rfl rfl rfl fun W0 iEn => ?_
  refine J.seq <| J.reg rfl <| O.box rfl fun W1 b1 i1 hb1 => O.box rfl fun W2 b2 i2 hb2 => O.alloc fun W3 b3 i3 hl3 hc3 hb3 => JO.nil <| J.seq <| ?_
  refine J.draw [.ex _, .ex _, .rel _, .ex _, .ex _, .rel _] rfl rfl ⟨fun W1 i1 e1 _ => O.fa rfl <| D.ex, fun W1 i1 e1 _ => O.ldB rfl hb1.to rfl <| D.ex, fun W1 i1 e1 _ => O.call rfl (integer_trimd_ok hs.to) fun W5 v5 i5 e5 h5 => D.rel e5 h5 V.me, fun W1 i1 e1 _ => O.fa rfl <| D.ex, fun W1 i1 e1 _ => O.ldB rfl hb2.to rfl <| D.ex, fun W1 i1 e1 _ => fun v9 h9 => O.call rfl (integer_trimd_ok hs'.to) fun W5 v5 i5 e5 h5 => D.rel e5 h5 V.me, trivial⟩ ?_
  intro W1 i1 e1 v9 h9 v12 h12
  obtain ⟨px, mx, cx, rfl, hsx⟩ := h9.sl
  obtain ⟨py, my, cy, rfl, hsy⟩ := h12.sl
  have iD := i1
  refine O.as rfl <| O.as rfl <| JO.nil <| J.seq <| J.seq <| J.reg rfl <| O.fa rfl <| O.ldB rfl hb1.to rfl <| O.fa rfl <| O.ldB rfl hb2.to rfl <| O.beq rfl rfl <| JO.nil <| J.cond rfl (fun h17 => ?_) (fun h17 => ?_)
  · skip
    refine J.seq <| ?_
    refine J.draw [.ex _, .ex _, .ex _, .ex _, .rel _, .rel _] rfl rfl ⟨fun W1 i1 e1 _ => O.fa rfl <| D.ex, fun W1 i1 e1 _ => O.ldB rfl hb1.to rfl <| D.ex, fun W1 i1 e1 _ => O.mv rfl <| D.ex, fun W1 i1 e1 _ => O.mv rfl <| D.ex, fun W1 i1 e1 _ => O.call rfl (integer_plus_ok hsx.to hsy.to hl hl') fun W5 v5 i5 e5 h5 => D.rel e5 h5 V.me, fun W1 i1 e1 _ => fun _ _ => fun v22 h22 => (by obtain ⟨p6, m6, c6, rfl, hs6⟩ := h22.sl; exact O.call rfl (integer_signedd_ok (decide (z < 0)) hs6.to) fun W5 v5 i5 e5 h5 => D.rel e5 h5 V.me), trivial⟩ ?_
    intro W1 i1 e1 v22 h22 v23 h23
    obtain ⟨p4, m4, c4, rfl, hs4⟩ := unI h23
    refine O.st rfl rfl hl3.to rfl (by simp [oneC, Value.cells]) fun W4 i4 hc4 => JO.nil <| J.ret1 rfl (.cell rfl hc4 rfl) fun W' iE iP => ?_
    rw [← sg_add (beq_iff_eq.1 h17)]
    exact mkI hs4.to
  · skip
    have hne : decide (z < 0) ≠ decide (z' < 0) := fun e => by have e2 : (decide (z < 0) == decide (z' < 0)) = false := h17; rw [e] at e2; simp at e2
    refine J.skip <| J.seq <| J.seq <| J.reg rfl <| O.mv rfl <| O.mv rfl <| O.call rfl (integer_compare_ok hsx.to hsy.to) fun W5 v5 i5 e5 h5 => ?_
    subst h5
    refine O.lt rfl rfl <| JO.nil <| J.condD rfl (fun h27 => ?_) (fun h27 => ?_)
    · skip
      refine J.seq <| ?_
      refine J.draw [.ex _, .ex _, .ex _, .ex _, .rel _, .rel _] rfl rfl ⟨fun W1 i1 e1 _ => O.fa rfl <| D.ex, fun W1 i1 e1 _ => O.ldB rfl hb2.to rfl <| D.ex, fun W1 i1 e1 _ => O.mv rfl <| D.ex, fun W1 i1 e1 _ => O.mv rfl <| D.ex, fun W1 i1 e1 _ => O.call rfl (integer_minus_ok hsy.to hsx.to hl' (Nat.le_of_lt (cmpI_neg.1 h27))) fun W5 v5 i5 e5 h5 => D.rel e5 h5 V.me, fun W1 i1 e1 _ => fun _ _ => fun v32 h32 => (by obtain ⟨p6, m6, c6, rfl, hs6⟩ := h32.sl; exact O.call rfl (integer_signedd_ok (decide (z' < 0)) hs6.to) fun W5 v5 i5 e5 h5 => D.rel e5 h5 V.me), trivial⟩ ?_
      intro W1 i1 e1 v32 h32 v33 h33
      obtain ⟨p4, m4, c4, rfl, hs4⟩ := unI h33
      refine O.st rfl rfl hl3.to rfl (by simp [oneC, Value.cells]) fun W4 i4 hc4 => JO.nil <| J.ret1 rfl (.cell rfl hc4 rfl) fun W' iE iP => ?_
      rw [Int.add_comm, ← sg_sub hne.symm (Nat.le_of_lt (cmpI_neg.1 h27))]
      exact mkI hs4.to
    · skip
      refine J.skip <| J.seq <| ?_
      refine J.draw [.ex _, .ex _, .ex _, .ex _, .rel _, .rel _] rfl rfl ⟨fun W1 i1 e1 _ => O.fa rfl <| D.ex, fun W1 i1 e1 _ => O.ldB rfl hb1.to rfl <| D.ex, fun W1 i1 e1 _ => O.mv rfl <| D.ex, fun W1 i1 e1 _ => O.mv rfl <| D.ex, fun W1 i1 e1 _ => O.call rfl (integer_minus_ok hsx.to hsy.to hl (Nat.le_of_not_lt fun e => h27 (cmpI_neg.2 e))) fun W5 v5 i5 e5 h5 => D.rel e5 h5 V.me, fun W1 i1 e1 _ => fun _ _ => fun v38 h38 => (by obtain ⟨p6, m6, c6, rfl, hs6⟩ := h38.sl; exact O.call rfl (integer_signedd_ok (decide (z < 0)) hs6.to) fun W5 v5 i5 e5 h5 => D.rel e5 h5 V.me), trivial⟩ ?_
      intro W1 i1 e1 v38 h38 v39 h39
      obtain ⟨p4, m4, c4, rfl, hs4⟩ := unI h39
      refine O.st rfl rfl hl3.to rfl (by simp [oneC, Value.cells]) fun W4 i4 hc4 => JO.nil <| J.ret1 rfl (.cell rfl hc4 rfl) fun W' iE iP => ?_
      rw [← sg_sub hne (Nat.le_of_not_lt fun e => h27 (cmpI_neg.2 e))]
      exact mkI hs4.to
theorem u64abs (z : Int) (h : -9223372036854775808 ≤ z ∧ z < 9223372036854775808) : (if z < 0 then IntKind.u64.wrap (-(IntKind.u64.wrap z)) else IntKind.u64.wrap z) = (z.natAbs : Int) := by
  rw [wUm z, wUm]
  split <;> omega
/-- FromInt -/
theorem integer_FromInt_ok {W : GW} {z : Int} (hz : -9223372036854775808 ≤ z ∧ z < 9223372036854775808) :
    Ok Tryz.prog 95 [.int .i64 z] W fun W' r => V RI W' r (ci z) := by
  have hu := u64abs z hz
  refine Ok.enter Tryz.func95 rfl rfl rfl rfl fun W0 iEn => ?_
  refine J.seq <| J.reg rfl <| O.alloc fun W1 b1 i1 hl1 hc1 hb1 => JO.nil <| J.seq <| J.reg rfl <| O.mv rfl <| O.cv (r := IntKind.u64.wrap z) rfl rfl <| O.as rfl <| JO.nil <| J.seq <| J.seq <| J.reg rfl <| O.mv rfl <| O.lt rfl rfl <| JO.nil <| ?_
  refine J.cut (α := Unit) (fun _ => [(0, .int .i64 z), (2, .pointer (some ⟨b1, 0, none⟩)), (3, .int .u64 (z.natAbs : Int))]) (fun _ W' => W' = W1) ?_ ?_
  · skip
    refine J.condD rfl (fun h7 => ?_) (fun h7 => ?_)
    · skip
      rw [if_pos h7] at hu
      refine J.reg rfl <| O.mv rfl <| O.neg rfl hu <| O.as rfl <| JO.nil <| ?_
      exact J.at' () ⟨rfl, rfl, rfl, trivial⟩ rfl
    · skip
      rw [if_neg h7] at hu
      refine J.skip <| ?_
      exact J.at' () ⟨rfl, rfl, by rw [← hu]; rfl, trivial⟩ rfl
  · skip
    rintro _ W2 rfl
    refine J.seq <| J.reg rfl <| O.mv rfl <| O.lt rfl rfl <| O.mv rfl <| O.call rfl (integer_fromUint_ok (by omega)) fun W5 v5 i5 e5 h5 => ?_
    obtain ⟨p6, m6, c6, rfl, hs6⟩ := h5.sl
    refine O.call rfl (integer_signedd_ok (decide (z < 0)) hs6.to) fun W6 v6 i6 e6 h6 => ?_
    rw [sg_abs] at h6
    obtain ⟨p4, m4, c4, rfl, hs4⟩ := unI h6
    refine O.st rfl rfl hl1.to rfl (by simp [oneC, Value.cells]) fun W4 i4 hc4 => JO.nil <| J.ret1 rfl (.cell rfl hc4 rfl) fun W' iE iP => ?_
    exact mkI hs4.to
end
section
section
variable {P : Program} {n : Nat} {l : List Oper} {K : List Kt} {fin : Exit → Act → World → Prop} {env : Env} {W : GW}
theorem yielded_undef {L : List Oper} {a : Act} {j t : Nat} (ha : Rel n env a) (ho : dstAt L j = some t) (hv : Rx.look env t = some undef) : yielded L.toArray a.tmps j = none := by
  rw [dstAt_eq] at ho
  have h1 := ha.has t _ hv
  simp only [Array.getD] at h1
  split at h1
  · rename_i hlt
    have h2 : a.tmps[t]? = some undef := by
      rw [Array.getElem?_eq_getElem hlt]
      exact congrArg some h1
    simp [yielded, ho, h2, undef]
  · rename_i hlt
    have h2 : a.tmps[t]? = none := Array.getElem?_eq_none (Nat.le_of_not_lt hlt)
    simp [yielded, ho, h2]
/-- an operation whose guard was itself passed over -/
theorem O.gu {L : List Oper} {d : Nat} {op : Op} {ty : TypeId} {pos : String} {aft : Array Edge} {j t : Nat} {b : Bool}
    (ho : dstAt L j = some t) (hv : Rx.look env t = some undef) (k : JO P n L.toArray l K fin ((d, undef) :: env) W) :
    JO P n L.toArray (⟨some d, op, ty, pos, aft, some (j, b)⟩ :: l) K fin env W := by
  intro hok a ha
  have hy := yielded_undef ha ho hv
  have hw : Region.wanted ⟨some d, op, ty, pos, aft, some (j, b)⟩ (yielded L.toArray a.tmps) = false := by
    simp only [Region.wanted, hy]
    rfl
  simp only [wpL, hw, Bool.false_eq_true, if_false]
  exact k (JO.unok hok) _ (ha.put (JO.dst hok) undef)
end
theorem dig_lt2 {n : Nat} (h : (dig n).length ≤ 2) : n < 18446744073709551616 := by
  have := dig_ub n
  have h1 : 4294967296 ^ (dig n).length ≤ 4294967296 ^ 2 := Nat.pow_le_pow_right (by decide) h
  omega
theorem sg_false (n : Nat) : sg false n = (n : Int) := rfl
/-- GCD -/
theorem integer_GCD_ok {W : GW} {v v' : Value} {z z' : Int} (h : V RI W v (ci z)) (h' : V RI W v' (ci z')) (hl : (dig z.natAbs).length ≤ 1099511627776) (hl' : (dig z'.natAbs).length ≤ 1099511627776) :
    Ok Tryz.prog 134 [v, v'] W fun W' r => V RI W' r (ci (Int.gcd z z' : Int)) := by
  obtain ⟨p, m, c, rfl, hs⟩ := unI h
  obtain ⟨p', m', c', rfl, hs'⟩ := unI h'
  refine Ok.enter Tryz.func134 rfl rfl rfl rfl fun W0 iEn => ?_
  refine J.seq <| J.reg rfl <| O.box rfl fun W1 b1 i1 hb1 => O.box rfl fun W2 b2 i2 hb2 => O.alloc fun W3 b3 i3 hl3 hc3 hb3 => JO.nil <| J.seq <| ?_
  refine J.draw [.ex _, .ex _, .rel _, .ex _, .ex _, .rel _] rfl rfl ⟨fun W1 i1 e1 _ => O.fa rfl <| D.ex, fun W1 i1 e1 _ => O.ldB rfl hb1.to rfl <| D.ex, fun W1 i1 e1 _ => O.call rfl (integer_trimd_ok hs.to) fun W5 v5 i5 e5 h5 => D.rel e5 h5 V.me, fun W1 i1 e1 _ => O.fa rfl <| D.ex, fun W1 i1 e1 _ => O.ldB rfl hb2.to rfl <| D.ex, fun W1 i1 e1 _ => fun v13 h13 => O.call rfl (integer_trimd_ok hs'.to) fun W5 v5 i5 e5 h5 => D.rel e5 h5 V.me, trivial⟩ ?_
  intro W1 i1 e1 v13 h13 v16 h16
  obtain ⟨px, mx, cx, rfl, hsx⟩ := h13.sl
  obtain ⟨py, my, cy, rfl, hsy⟩ := h16.sl
  refine O.as rfl <| O.as rfl <| JO.nil <| J.seq <| ?_
  refine J.cut (α := (Option Addr × Nat × Nat × Nat) × Option Addr × Nat × Nat × Nat) (fun q => [(4, .pointer (some ⟨b3, 0, none⟩)), (5, .slice q.1.1 q.1.2.1 q.1.2.2.1), (6, .slice q.2.1 q.2.2.1 q.2.2.2.1)]) (fun q W => Lk W3 W ∧ Le W0 W ∧ Sl RW W q.1.1 q.1.2.1 q.1.2.2.1 (dig q.1.2.2.2) ∧ Sl RW W q.2.1 q.2.2.1 q.2.2.2.1 (dig q.2.2.2.2) ∧ Nat.gcd q.1.2.2.2 q.2.2.2.2 = Int.gcd z z' ∧ (dig q.1.2.2.2).length ≤ 1099511627776 ∧ (dig q.2.2.2.2).length ≤ 1099511627776 ∧ (dig q.2.2.2.2).length ≤ 2 ∧ ((dig q.1.2.2.2).length ≤ 2 ∨ q.2.2.2.2 = 0)) ?_ ?_
  · skip
    refine J.block <| ?_
    refine J.loop (α := (Option Addr × Nat × Nat × Nat) × Option Addr × Nat × Nat × Nat) (fun q => [(4, .pointer (some ⟨b3, 0, none⟩)), (5, .slice q.1.1 q.1.2.1 q.1.2.2.1), (6, .slice q.2.1 q.2.2.1 q.2.2.2.1)]) (fun q W => Lk W3 W ∧ Le W0 W ∧ Sl RW W q.1.1 q.1.2.1 q.1.2.2.1 (dig q.1.2.2.2) ∧ Sl RW W q.2.1 q.2.2.1 q.2.2.2.1 (dig q.2.2.2.2) ∧ Nat.gcd q.1.2.2.2 q.2.2.2.2 = Int.gcd z z' ∧ (dig q.1.2.2.2).length ≤ 1099511627776 ∧ (dig q.2.2.2.2).length ≤ 1099511627776) (fun q => q.2.2.2.2) ((px, mx, cx, z.natAbs), py, my, cy, z'.natAbs) ⟨rfl, rfl, rfl, trivial⟩ ⟨inferInstance, inferInstance, hsx.to, hsy.to, rfl, hl, hl'⟩ ?_
    rintro ⟨⟨p1, n1, c1, x1⟩, p2, n2, c2, x2⟩ W4 ⟨iL, _, h1, h2, hg, hx1, hx2⟩
    dsimp only at *
    have hn1 := h1.hn
    have hn2 := h2.hn
    have hz2 := @dig_len0 x2
    refine J.seq <| J.seq <| J.reg rfl <| O.mv rfl <| O.len rfl <| O.gtr rfl rfl <| O.mv rfl <| ?_
    by_cases hg20 : 2 < n2
    · skip
      refine O.set (t := 20) (.bool true) rfl (by simp only [Value.bool.injEq, decide_eq_true_eq, decide_eq_false_iff_not]; omega) <| O.gs rfl rfl rfl <| O.gs rfl rfl rfl <| O.gs rfl rfl rfl <| O.gs rfl rfl rfl <| O.gu rfl rfl <| O.gu rfl rfl <| O.gu rfl rfl <| O.gs rfl rfl rfl <| O.pickT rfl rfl <| JO.nil <| J.condT rfl <| ?_
      have hx20 : x2 ≠ 0 := fun e => by have := hz2.2 e; omega
      refine J.skip <| J.block <| J.seq <| J.reg rfl <| O.mv rfl <| O.mv rfl <| O.call rfl (integer_divide_ok h1.to h2.to hx1 hx2 hx20) fun W5 v5 i5 e5 h5 => ?_
      obtain ⟨v6, v7, rfl, h6, h7⟩ := h5
      obtain ⟨p6, m6, c6, rfl, s6⟩ := h6.sl
      obtain ⟨p7, m7, c7, rfl, s7⟩ := h7.sl
      have hlt := Nat.mod_lt x1 (Nat.pos_of_ne_zero hx20)
      refine O.mv rfl <| O.ext rfl rfl <| O.ext rfl rfl <| O.as rfl <| O.as rfl <| JO.nil <| J.reg rfl <| O.mv rfl <| O.mv rfl <| O.as rfl <| O.as rfl <| JO.nil <| J.bend <| ?_
      exact J.at' ((p2, n2, c2, x2), p7, m7, c7, x1 % x2) ⟨rfl, rfl, rfl, trivial⟩ ⟨⟨inferInstance, inferInstance, h2.to, s7.to, by rw [← hg]; show Nat.gcd x2 (x1 % x2) = _; rw [Nat.gcd_comm x2, ← Nat.gcd_rec, Nat.gcd_comm], hx2, Nat.le_trans (len_mono (Nat.le_of_lt hlt)) hx2⟩, hlt⟩
    · skip
      refine O.set (t := 20) (.bool false) rfl (by simp only [Value.bool.injEq, decide_eq_true_eq, decide_eq_false_iff_not]; omega) <| O.gt rfl rfl <| O.mv rfl <| O.gt rfl rfl <| O.len rfl <| O.gt rfl rfl <| O.gtr rfl rfl <| O.gt rfl rfl <| O.mv rfl <| ?_
      by_cases hg24 : 2 < n1
      · skip
        refine O.set (t := 24) (.bool true) rfl (by simp only [Value.bool.injEq, decide_eq_true_eq, decide_eq_false_iff_not]; omega) <| O.gt rfl rfl <| O.mv rfl <| O.gt rfl rfl <| O.len rfl <| O.gt rfl rfl <| O.gtr rfl rfl <| O.gt rfl rfl <| O.pickT rfl rfl <| O.pickF rfl rfl <| JO.nil <| J.condD rfl (fun h29 => ?_) (fun h29 => ?_)
        · skip
          have hx20 : x2 ≠ 0 := fun e => by have := hz2.2 e; omega
          refine J.skip <| J.block <| J.seq <| J.reg rfl <| O.mv rfl <| O.mv rfl <| O.call rfl (integer_divide_ok h1.to h2.to hx1 hx2 hx20) fun W5 v5 i5 e5 h5 => ?_
          obtain ⟨v6, v7, rfl, h6, h7⟩ := h5
          obtain ⟨p6, m6, c6, rfl, s6⟩ := h6.sl
          obtain ⟨p7, m7, c7, rfl, s7⟩ := h7.sl
          have hlt := Nat.mod_lt x1 (Nat.pos_of_ne_zero hx20)
          refine O.mv rfl <| O.ext rfl rfl <| O.ext rfl rfl <| O.as rfl <| O.as rfl <| JO.nil <| J.reg rfl <| O.mv rfl <| O.mv rfl <| O.as rfl <| O.as rfl <| JO.nil <| J.bend <| ?_
          exact J.at' ((p2, n2, c2, x2), p7, m7, c7, x1 % x2) ⟨rfl, rfl, rfl, trivial⟩ ⟨⟨inferInstance, inferInstance, h2.to, s7.to, by rw [← hg]; show Nat.gcd x2 (x1 % x2) = _; rw [Nat.gcd_comm x2, ← Nat.gcd_rec, Nat.gcd_comm], hx2, Nat.le_trans (len_mono (Nat.le_of_lt hlt)) hx2⟩, hlt⟩
        · skip
          refine J.exit rfl <| ?_
          exact J.at' ((p1, n1, c1, x1), p2, n2, c2, x2) ⟨rfl, rfl, rfl, trivial⟩ ⟨inferInstance, inferInstance, h1, h2, hg, hx1, hx2, by show (dig x2).length ≤ 2; omega, by show (dig x1).length ≤ 2 ∨ x2 = 0; omega⟩
      · skip
        refine O.set (t := 24) (.bool false) rfl (by simp only [Value.bool.injEq, decide_eq_true_eq, decide_eq_false_iff_not]; omega) <| O.gs rfl rfl rfl <| O.gs rfl rfl rfl <| O.gs rfl rfl rfl <| O.gt rfl rfl <| O.pickF rfl rfl <| O.pickF rfl rfl <| JO.nil <| J.condF rfl <| J.exit rfl <| ?_
        exact J.at' ((p1, n1, c1, x1), p2, n2, c2, x2) ⟨rfl, rfl, rfl, trivial⟩ ⟨inferInstance, inferInstance, h1, h2, hg, hx1, hx2, by show (dig x2).length ≤ 2; omega, by show (dig x1).length ≤ 2 ∨ x2 = 0; omega⟩
  · skip
    rintro ⟨⟨p1, n1, c1, x1⟩, p2, n2, c2, x2⟩ W4 ⟨iL, _, h1, h2, hg, hx1, hx2, hle2, hle1⟩
    dsimp only at *
    have hn1 := h1.hn
    have hn2 := h2.hn
    have hz2 := @dig_len0 x2
    refine J.seq <| J.seq <| J.reg rfl <| O.mv rfl <| O.len rfl <| O.eq rfl rfl <| JO.nil <| J.condD rfl (fun h40 => ?_) (fun h40 => ?_)
    · skip
      refine J.seq <| J.reg rfl <| O.mv rfl <| O.call rfl (clone_u32_ok h1.to (by omega)) fun W5 v5 i5 e5 h5 => ?_
      obtain ⟨p6, m6, c6, rfl, hs6⟩ := h5.sl
      refine O.call rfl (integer_signedd_ok false hs6.to) fun W6 v6 i6 e6 h6 => ?_
      obtain ⟨p4, m4, c4, rfl, hs4⟩ := unI h6
      refine O.st rfl rfl hl3.to rfl (by simp [oneC, Value.cells]) fun W4 i4 hc4 => JO.nil <| J.ret1 rfl (.cell rfl hc4 rfl) fun W' iE iP => ?_
      have h0 : x2 = 0 := hz2.1 (by omega)
      subst h0
      rw [Nat.gcd_zero_right] at hg
      rw [← hg, ← sg_false]
      exact mkI hs4.to
    · skip
      have hlt1 : x1 < 18446744073709551616 := dig_lt2 (by omega)
      have hlt2 : x2 < 18446744073709551616 := dig_lt2 (by omega)
      refine J.skip <| J.seq <| J.reg rfl <| O.mv rfl <| O.call rfl (integer_toUint_ok h1.to hlt1) fun W5 v5 i5 e5 h5 => ?_
      subst h5
      refine O.mv rfl <| O.call rfl (integer_toUint_ok h2.to hlt2) fun W6 v6 i6 e6 h6 => ?_
      subst h6
      refine O.as rfl <| O.as rfl <| JO.nil <| J.seq <| J.block <| ?_
      refine J.loop (α := Nat × Nat) (fun q => [(4, .pointer (some ⟨b3, 0, none⟩)), (9, .int .u64 (q.1 : Int)), (10, .int .u64 (q.2 : Int))]) (fun q W => Lk W3 W ∧ Le W0 W ∧ q.1 < 18446744073709551616 ∧ q.2 < 18446744073709551616 ∧ Nat.gcd q.1 q.2 = Int.gcd z z') (fun q => q.2) (x1, x2) ⟨rfl, rfl, rfl, trivial⟩ ⟨inferInstance, inferInstance, hlt1, hlt2, hg⟩ ?_
      rintro ⟨x, y⟩ W7 ⟨iL2, _, hx, hy, hg2⟩
      dsimp only at *
      refine J.seq <| J.seq <| J.reg rfl <| O.mv rfl <| O.ne rfl rfl <| JO.nil <| J.condD rfl (fun h49 => ?_) (fun h49 => ?_)
      · skip
        have hy0 : y ≠ 0 := by omega
        have hltm := Nat.mod_lt x (Nat.pos_of_ne_zero hy0)
        refine J.skip <| J.block <| ?_
        refine J.perm [[0, 1, 2, 3, 4, 5], [0, 1, 2, 4, 3, 5], [0, 1, 4, 2, 3, 5], [0, 2, 1, 3, 4, 5], [0, 2, 1, 4, 3, 5], [1, 0, 2, 3, 4, 5], [1, 0, 2, 4, 3, 5], [1, 0, 4, 2, 3, 5], [1, 2, 0, 3, 4, 5], [1, 2, 0, 4, 3, 5], [1, 2, 3, 0, 4, 5], [2, 0, 1, 3, 4, 5], [2, 0, 1, 4, 3, 5], [2, 1, 0, 3, 4, 5], [2, 1, 0, 4, 3, 5], [2, 1, 3, 0, 4, 5]] (by decide +kernel) rfl fun W1 i1 e1 => ⟨?_, ?_, ?_, ?_, ?_, ?_, ?_, ?_, ?_, ?_, ?_, ?_, ?_, ?_, ?_, ?_, trivial⟩
        · skip
          refine O.mv rfl <| O.mv rfl <| O.mv rfl <| O.rem (r := ((x % y : Nat) : Int)) rfl rfl (by omega) (trem x y) <| O.as rfl <| O.as rfl <| JO.nil <| J.bend <| ?_
          exact J.at' (y, x % y) ⟨rfl, rfl, rfl, trivial⟩ ⟨⟨inferInstance, inferInstance, hy, by show x % y < _; omega, by rw [← hg2]; show Nat.gcd y (x % y) = _; rw [Nat.gcd_comm y, ← Nat.gcd_rec, Nat.gcd_comm]⟩, hltm⟩
        · skip
          refine O.mv rfl <| O.mv rfl <| O.mv rfl <| O.as rfl <| O.rem (r := ((x % y : Nat) : Int)) rfl rfl (by omega) (trem x y) <| O.as rfl <| JO.nil <| J.bend <| ?_
          exact J.at' (y, x % y) ⟨rfl, rfl, rfl, trivial⟩ ⟨⟨inferInstance, inferInstance, hy, by show x % y < _; omega, by rw [← hg2]; show Nat.gcd y (x % y) = _; rw [Nat.gcd_comm y, ← Nat.gcd_rec, Nat.gcd_comm]⟩, hltm⟩
        · skip
          refine O.mv rfl <| O.mv rfl <| O.as rfl <| O.mv rfl <| O.rem (r := ((x % y : Nat) : Int)) rfl rfl (by omega) (trem x y) <| O.as rfl <| JO.nil <| J.bend <| ?_
          exact J.at' (y, x % y) ⟨rfl, rfl, rfl, trivial⟩ ⟨⟨inferInstance, inferInstance, hy, by show x % y < _; omega, by rw [← hg2]; show Nat.gcd y (x % y) = _; rw [Nat.gcd_comm y, ← Nat.gcd_rec, Nat.gcd_comm]⟩, hltm⟩
        · skip
          refine O.mv rfl <| O.mv rfl <| O.mv rfl <| O.rem (r := ((x % y : Nat) : Int)) rfl rfl (by omega) (trem x y) <| O.as rfl <| O.as rfl <| JO.nil <| J.bend <| ?_
          exact J.at' (y, x % y) ⟨rfl, rfl, rfl, trivial⟩ ⟨⟨inferInstance, inferInstance, hy, by show x % y < _; omega, by rw [← hg2]; show Nat.gcd y (x % y) = _; rw [Nat.gcd_comm y, ← Nat.gcd_rec, Nat.gcd_comm]⟩, hltm⟩
        · skip
          refine O.mv rfl <| O.mv rfl <| O.mv rfl <| O.as rfl <| O.rem (r := ((x % y : Nat) : Int)) rfl rfl (by omega) (trem x y) <| O.as rfl <| JO.nil <| J.bend <| ?_
          exact J.at' (y, x % y) ⟨rfl, rfl, rfl, trivial⟩ ⟨⟨inferInstance, inferInstance, hy, by show x % y < _; omega, by rw [← hg2]; show Nat.gcd y (x % y) = _; rw [Nat.gcd_comm y, ← Nat.gcd_rec, Nat.gcd_comm]⟩, hltm⟩
        · skip
          refine O.mv rfl <| O.mv rfl <| O.mv rfl <| O.rem (r := ((x % y : Nat) : Int)) rfl rfl (by omega) (trem x y) <| O.as rfl <| O.as rfl <| JO.nil <| J.bend <| ?_
          exact J.at' (y, x % y) ⟨rfl, rfl, rfl, trivial⟩ ⟨⟨inferInstance, inferInstance, hy, by show x % y < _; omega, by rw [← hg2]; show Nat.gcd y (x % y) = _; rw [Nat.gcd_comm y, ← Nat.gcd_rec, Nat.gcd_comm]⟩, hltm⟩
        · skip
          refine O.mv rfl <| O.mv rfl <| O.mv rfl <| O.as rfl <| O.rem (r := ((x % y : Nat) : Int)) rfl rfl (by omega) (trem x y) <| O.as rfl <| JO.nil <| J.bend <| ?_
          exact J.at' (y, x % y) ⟨rfl, rfl, rfl, trivial⟩ ⟨⟨inferInstance, inferInstance, hy, by show x % y < _; omega, by rw [← hg2]; show Nat.gcd y (x % y) = _; rw [Nat.gcd_comm y, ← Nat.gcd_rec, Nat.gcd_comm]⟩, hltm⟩
        · skip
          refine O.mv rfl <| O.mv rfl <| O.as rfl <| O.mv rfl <| O.rem (r := ((x % y : Nat) : Int)) rfl rfl (by omega) (trem x y) <| O.as rfl <| JO.nil <| J.bend <| ?_
          exact J.at' (y, x % y) ⟨rfl, rfl, rfl, trivial⟩ ⟨⟨inferInstance, inferInstance, hy, by show x % y < _; omega, by rw [← hg2]; show Nat.gcd y (x % y) = _; rw [Nat.gcd_comm y, ← Nat.gcd_rec, Nat.gcd_comm]⟩, hltm⟩
        · skip
          refine O.mv rfl <| O.mv rfl <| O.mv rfl <| O.rem (r := ((x % y : Nat) : Int)) rfl rfl (by omega) (trem x y) <| O.as rfl <| O.as rfl <| JO.nil <| J.bend <| ?_
          exact J.at' (y, x % y) ⟨rfl, rfl, rfl, trivial⟩ ⟨⟨inferInstance, inferInstance, hy, by show x % y < _; omega, by rw [← hg2]; show Nat.gcd y (x % y) = _; rw [Nat.gcd_comm y, ← Nat.gcd_rec, Nat.gcd_comm]⟩, hltm⟩
        · skip
          refine O.mv rfl <| O.mv rfl <| O.mv rfl <| O.as rfl <| O.rem (r := ((x % y : Nat) : Int)) rfl rfl (by omega) (trem x y) <| O.as rfl <| JO.nil <| J.bend <| ?_
          exact J.at' (y, x % y) ⟨rfl, rfl, rfl, trivial⟩ ⟨⟨inferInstance, inferInstance, hy, by show x % y < _; omega, by rw [← hg2]; show Nat.gcd y (x % y) = _; rw [Nat.gcd_comm y, ← Nat.gcd_rec, Nat.gcd_comm]⟩, hltm⟩
        · skip
          refine O.mv rfl <| O.mv rfl <| O.rem (r := ((x % y : Nat) : Int)) rfl rfl (by omega) (trem x y) <| O.mv rfl <| O.as rfl <| O.as rfl <| JO.nil <| J.bend <| ?_
          exact J.at' (y, x % y) ⟨rfl, rfl, rfl, trivial⟩ ⟨⟨inferInstance, inferInstance, hy, by show x % y < _; omega, by rw [← hg2]; show Nat.gcd y (x % y) = _; rw [Nat.gcd_comm y, ← Nat.gcd_rec, Nat.gcd_comm]⟩, hltm⟩
        · skip
          refine O.mv rfl <| O.mv rfl <| O.mv rfl <| O.rem (r := ((x % y : Nat) : Int)) rfl rfl (by omega) (trem x y) <| O.as rfl <| O.as rfl <| JO.nil <| J.bend <| ?_
          exact J.at' (y, x % y) ⟨rfl, rfl, rfl, trivial⟩ ⟨⟨inferInstance, inferInstance, hy, by show x % y < _; omega, by rw [← hg2]; show Nat.gcd y (x % y) = _; rw [Nat.gcd_comm y, ← Nat.gcd_rec, Nat.gcd_comm]⟩, hltm⟩
        · skip
          refine O.mv rfl <| O.mv rfl <| O.mv rfl <| O.as rfl <| O.rem (r := ((x % y : Nat) : Int)) rfl rfl (by omega) (trem x y) <| O.as rfl <| JO.nil <| J.bend <| ?_
          exact J.at' (y, x % y) ⟨rfl, rfl, rfl, trivial⟩ ⟨⟨inferInstance, inferInstance, hy, by show x % y < _; omega, by rw [← hg2]; show Nat.gcd y (x % y) = _; rw [Nat.gcd_comm y, ← Nat.gcd_rec, Nat.gcd_comm]⟩, hltm⟩
        · skip
          refine O.mv rfl <| O.mv rfl <| O.mv rfl <| O.rem (r := ((x % y : Nat) : Int)) rfl rfl (by omega) (trem x y) <| O.as rfl <| O.as rfl <| JO.nil <| J.bend <| ?_
          exact J.at' (y, x % y) ⟨rfl, rfl, rfl, trivial⟩ ⟨⟨inferInstance, inferInstance, hy, by show x % y < _; omega, by rw [← hg2]; show Nat.gcd y (x % y) = _; rw [Nat.gcd_comm y, ← Nat.gcd_rec, Nat.gcd_comm]⟩, hltm⟩
        · skip
          refine O.mv rfl <| O.mv rfl <| O.mv rfl <| O.as rfl <| O.rem (r := ((x % y : Nat) : Int)) rfl rfl (by omega) (trem x y) <| O.as rfl <| JO.nil <| J.bend <| ?_
          exact J.at' (y, x % y) ⟨rfl, rfl, rfl, trivial⟩ ⟨⟨inferInstance, inferInstance, hy, by show x % y < _; omega, by rw [← hg2]; show Nat.gcd y (x % y) = _; rw [Nat.gcd_comm y, ← Nat.gcd_rec, Nat.gcd_comm]⟩, hltm⟩
        · skip
          refine O.mv rfl <| O.mv rfl <| O.rem (r := ((x % y : Nat) : Int)) rfl rfl (by omega) (trem x y) <| O.mv rfl <| O.as rfl <| O.as rfl <| JO.nil <| J.bend <| ?_
          exact J.at' (y, x % y) ⟨rfl, rfl, rfl, trivial⟩ ⟨⟨inferInstance, inferInstance, hy, by show x % y < _; omega, by rw [← hg2]; show Nat.gcd y (x % y) = _; rw [Nat.gcd_comm y, ← Nat.gcd_rec, Nat.gcd_comm]⟩, hltm⟩
      · skip
        refine J.exit rfl <| J.seq <| J.reg rfl <| O.mv rfl <| O.call rfl (integer_fromUint_ok hx) fun W5 v5 i5 e5 h5 => ?_
        obtain ⟨p6, m6, c6, rfl, hs6⟩ := h5.sl
        refine O.call rfl (integer_signedd_ok false hs6.to) fun W6 v6 i6 e6 h6 => ?_
        obtain ⟨p4, m4, c4, rfl, hs4⟩ := unI h6
        refine O.st rfl rfl hl3.to rfl (by simp [oneC, Value.cells]) fun W4 i4 hc4 => JO.nil <| J.ret1 rfl (.cell rfl hc4 rfl) fun W' iE iP => ?_
        have h0 : y = 0 := by omega
        subst h0
        rw [Nat.gcd_zero_right] at hg2
        rw [← hg2, ← sg_false]
        exact mkI hs4.to
end
section
/-- quotient and remainder, rounded down, from those of the absolute values -/
theorem fdm_same {a b : Int} (hb : b ≠ 0) (h : decide (a < 0) = decide (b < 0)) : sg (decide (a < 0) != decide (b < 0)) (a.natAbs / b.natAbs) = a.fdiv b ∧ sg (decide (b < 0)) (a.natAbs % b.natAbs) = a.fmod b := by
  rcases natAbs_cases a with ⟨h1, e⟩ | ⟨h1, e⟩ <;> rcases natAbs_cases b with ⟨h2, e'⟩ | ⟨h2, e'⟩ <;> simp [h1, h2] at h <;> simp only [sg, h1, h2, decide_true, decide_false]
  all_goals
    generalize a.natAbs = x at *
    generalize b.natAbs = y at *
    subst e
    subst e'
    simp [Int.fdiv_eq_ediv_of_nonneg, Int.fmod_eq_emod_of_nonneg]
theorem fdm_neg (x y : Nat) (hy : 0 < y) : (-(x : Int)).fdiv y = -((x / y + if 0 < x % y then 1 else 0 : Nat) : Int) ∧ (-(x : Int)).fmod y = ((if 0 < x % y then y - x % y else 0 : Nat) : Int) := by
  rw [Int.fdiv_eq_ediv_of_nonneg _ (by omega), Int.fmod_eq_emod_of_nonneg _ (by omega)]
  have h1 := Nat.div_add_mod x y
  have h2 := Nat.mod_lt x hy
  refine (Int.ediv_emod_unique (by omega)).2 ?_
  generalize x / y = q at *
  generalize x % y = r at *
  split
  · refine ⟨?_, by omega, by omega⟩
    rw [← h1, Int.natCast_sub (by omega)]
    push_cast
    grind
  · have : r = 0 := by omega
    subst this
    refine ⟨?_, by omega, by omega⟩
    rw [← h1]
    push_cast
    grind
theorem fdm_diff {a b : Int} (hb : b ≠ 0) (h : decide (a < 0) ≠ decide (b < 0)) : sg (decide (a < 0) != decide (b < 0)) (a.natAbs / b.natAbs + if 0 < a.natAbs % b.natAbs then 1 else 0) = a.fdiv b ∧ sg (decide (b < 0)) (if 0 < a.natAbs % b.natAbs then b.natAbs - a.natAbs % b.natAbs else 0) = a.fmod b := by
  rcases natAbs_cases a with ⟨h1, e⟩ | ⟨h1, e⟩ <;> rcases natAbs_cases b with ⟨h2, e'⟩ | ⟨h2, e'⟩ <;> simp [h1, h2] at h <;> simp only [sg, h1, h2, decide_true, decide_false]
  all_goals
    generalize a.natAbs = x at *
    generalize b.natAbs = y at *
    subst e
    subst e'
    have hf := fdm_neg x y (by omega)
  · rw [hf.1, hf.2]
    exact ⟨rfl, rfl⟩
  · have e1 : (x : Int).fdiv (-(y : Int)) = (-(x : Int)).fdiv y := by rw [← Int.neg_fdiv_neg, Int.neg_neg]
    have e2 : (x : Int).fmod (-(y : Int)) = -((-(x : Int)).fmod y) := by rw [← Int.neg_fmod_neg, Int.neg_neg]
    rw [e1, e2, hf.1, hf.2]
    exact ⟨rfl, rfl⟩
section
variable {P : Program} {n : Nat} {ops : Array Oper} {l : List Oper} {K : List Kt} {fin : Exit → Act → World → Prop} {env : Env} {W : GW}
variable {d : Nat} {ty : TypeId} {pos : String} {aft : Array Edge}
/-- a store into a variable; another variable keeps what it holds -/
theorem O.stC {T sz b b' : Nat} {ag : Bool} {z cs' : List Value} {x y : Operand} {v : Value} [i : TVar P T sz ag z] (hx : get env x = some (.pointer (some ⟨b, 0, none⟩))) (hy : get env y = some v)
    (hl : Rx.Loc W b sz) (hs : v.cells.toList.length = sz) (h1 : ∀ u ∈ v.cells.toList, oneC u = true) (hc : Cnt W b' cs') (hne : b' ≠ b)
    (k : ∀ W', Lk1 W W' → Cnt W' b v.cells.toList → Cnt W' b' cs' → JO P n ops l K fin env W') : JO P n ops (⟨none, .store T x y, ty, pos, aft, none⟩ :: l) K fin env W := by
  obtain ⟨cs, ⟨U, hb⟩, hsz⟩ := hl.h
  have hr := run_storeVar (P := P) (T := T) (off := 0) (v := v) hb hs (by omega) h1
  rw [spl_full _ _ (by omega)] at hr
  obtain ⟨T', hc⟩ := hc
  refine JO.unit (W' := W.put b (.cells v.cells.toList.toArray U (0, 0))) (fun a ha => ?_)
    (k _ ⟨put_lek W b _ _ U (0, 0) hb hl.A hl.m (by simp; simpa using hs.trans hsz.symm)⟩ ⟨U, heap_put_self _ _ _ (lt_of_heap hb)⟩ ⟨T', (heap_put _ _ _ _ hne).trans hc⟩)
  simp only [execOp, ha.get hx, ha.get hy, Instr.storeAt, Instr.sureAddr]
  rw [Sem.run_bind, Sem.run_bind]
  show Result.andThen (Result.andThen (Result.ok _ _) _) _ = _
  simp only [Result.andThen_ok]
  rw [hr]
  rfl
end
/-- DivMod -/
theorem integer_DivMod_ok {W : GW} {v v' : Value} {z z' : Int} (h : V RI W v (ci z)) (h' : V RI W v' (ci z')) (hl : (dig z.natAbs).length ≤ 1099511627776) (hl' : (dig z'.natAbs).length ≤ 1099511627776) (hz0 : z' ≠ 0) :
    Ok Tryz.prog 166 [v, v'] W fun W' r => ∃ v1 v2, r = .tuple #[v1, v2, .int .i64 0] ∧ V RI W' v1 (ci (z.fdiv z')) ∧ V RI W' v2 (ci (z.fmod z')) := by
  obtain ⟨p, m, c, rfl, hs⟩ := unI h
  obtain ⟨p', m', c', rfl, hs'⟩ := unI h'
  have hy0 : z'.natAbs ≠ 0 := by omega
  refine Ok.enter Tryz.func166 rfl rfl rfl rfl fun W0 iEn => ?_
  refine J.seq <| J.reg rfl <| O.box rfl fun W1 b1 i1 hb1 => O.box rfl fun W2 b2 i2 hb2 => O.alloc fun W3 b3 i3 hl3 hc3 hb3 => O.alloc fun W4 b4 i4 hl4 hc4 hb4 => O.as rfl <| JO.nil <| J.seq <| J.reg rfl <| O.fa rfl <| O.ldB rfl hb2.to rfl <| O.call rfl (integer_trimd_ok hs'.to) fun W5 v5 i5 e5 h5 => ?_
  obtain ⟨py, my, cy, rfl, hsy⟩ := h5.sl
  have hny := hsy.hn
  have hd0 := @dig_len0 z'.natAbs
  refine O.as rfl <| JO.nil <| J.seq <| J.seq <| J.reg rfl <| O.mv rfl <| O.len rfl <| O.eq rfl rfl <| JO.nil <| J.condD rfl (fun h15 => ?_) (fun h15 => ?_)
  · skip
    exact absurd (hd0.1 (by omega)) hy0 -- done
  · skip
    refine J.skip <| J.seq <| J.reg rfl <| O.fa rfl <| O.ldB rfl hb1.to rfl <| O.call rfl (integer_trimd_ok hs.to) fun W6 v6 i6 e6 h6 => ?_
    obtain ⟨px, mx, cx, rfl, hsx⟩ := h6.sl
    refine O.mv rfl <| O.call rfl (integer_divide_ok hsx.to hsy.to hl hl' hy0) fun W7 v7 i7 e7 h7 => ?_
    obtain ⟨v8, v9, rfl, h8, h9⟩ := h7
    obtain ⟨pq, mq, cq, rfl, hsq⟩ := h8.sl
    obtain ⟨pr, mr, cr, rfl, hsr⟩ := h9.sl
    have hnr := hsr.hn
    have hr0 := @dig_len0 (z.natAbs % z'.natAbs)
    have hrlt := Nat.mod_lt z.natAbs (Nat.pos_of_ne_zero hy0)
    refine O.mv rfl <| O.ext rfl rfl <| O.ext rfl rfl <| O.as rfl <| O.as rfl <| JO.nil <| J.seq <| J.seq <| J.reg rfl <| O.fa rfl <| O.ldB rfl hb1.to rfl <| O.fa rfl <| O.ldB rfl hb2.to rfl <| O.bne rfl rfl <| O.mv rfl <| ?_
    by_cases hg31 : decide (z < 0) ≠ decide (z' < 0)
    · skip
      refine O.set (t := 31) (.bool true) rfl (congrArg Value.bool (bne_iff_ne.2 hg31)) <| O.gt rfl rfl <| O.mv rfl <| O.gt rfl rfl <| O.len rfl <| O.gt rfl rfl <| O.gtr rfl rfl <| O.pickT rfl rfl <| JO.nil <| ?_
      refine J.cut (α := (Option Addr × Nat × Nat × Nat) × Option Addr × Nat × Nat × Nat) (fun q => [(2, .pointer (some ⟨b1, 0, none⟩)), (3, .pointer (some ⟨b2, 0, none⟩)), (4, .pointer (some ⟨b3, 0, none⟩)), (5, .pointer (some ⟨b4, 0, none⟩)), (8, .slice q.1.1 q.1.2.1 q.1.2.2.1), (9, .slice q.2.1 q.2.2.1 q.2.2.2.1)]) (fun q W => Lk W4 W ∧ Lk W3 W ∧ Le W0 W ∧ Le W1 W ∧ Le W2 W ∧ Sl RW W q.1.1 q.1.2.1 q.1.2.2.1 (dig q.1.2.2.2) ∧ Sl RW W q.2.1 q.2.2.1 q.2.2.2.1 (dig q.2.2.2.2) ∧ sg (decide (z < 0) != decide (z' < 0)) q.1.2.2.2 = z.fdiv z' ∧ sg (decide (z' < 0)) q.2.2.2.2 = z.fmod z') ?_ ?_
      · skip
        refine J.condD rfl (fun h35 => ?_) (fun h35 => ?_)
        · skip
          refine J.seq <| J.reg rfl <| O.mv rfl <| O.bs (r := RW) [1] rfl ⟨rwv _ (by decide), trivial⟩ rfl rfl rfl (by decide) (.inr rfl) (by decide) fun W8 p8 i8 e8 s8 => ?_
          have hd1 : dig 1 = [1] := (dig_val (l := [1]) (fun x hx => by simp at hx; subst hx; decide) (.inr ⟨1, rfl, by decide⟩)).symm ▸ rfl
          refine O.call rfl (integer_plus_ok hsq.to (x := z.natAbs / z'.natAbs) (y := 1) (hd1 ▸ s8) (Nat.le_trans (len_mono (Nat.div_le_self ..)) hl) (by rw [hd1]; decide)) fun W9 v9 i9 e9 h9 => ?_
          obtain ⟨p9, m9, c9, rfl, s9⟩ := h9.sl
          refine O.as rfl <| JO.nil <| J.reg rfl <| O.mv rfl <| O.mv rfl <| O.call rfl (integer_minus_ok hsy.to hsr.to hl' (Nat.le_of_lt hrlt)) fun W10 v10 i10 e10 h10 => ?_
          obtain ⟨p10, m10, c10, rfl, s10⟩ := h10.sl
          have hf := fdm_diff hz0 hg31
          have hpos : 0 < z.natAbs % z'.natAbs := Nat.pos_of_ne_zero fun e => by have := hr0.2 e; omega
          rw [if_pos hpos, if_pos hpos] at hf
          refine O.as rfl <| JO.nil <| ?_
          exact J.at' ((p9, m9, c9, z.natAbs / z'.natAbs + 1), p10, m10, c10, z'.natAbs - z.natAbs % z'.natAbs) ⟨rfl, rfl, rfl, rfl, rfl, rfl, trivial⟩ ⟨inferInstance, inferInstance, inferInstance, inferInstance, inferInstance, s9.to, s10, hf.1, hf.2⟩
        · skip
          refine J.skip <| ?_
          have hf := fdm_diff hz0 hg31
          have hpos : ¬ 0 < z.natAbs % z'.natAbs := fun e => by
            have : (dig (z.natAbs % z'.natAbs)).length ≠ 0 := fun e2 => by have := hr0.1 e2; omega
            omega
          rw [if_neg hpos, if_neg hpos, Nat.add_zero] at hf
          have hr1 : z.natAbs % z'.natAbs = 0 := by omega
          exact J.at' ((pq, mq, cq, z.natAbs / z'.natAbs), pr, mr, cr, z.natAbs % z'.natAbs) ⟨rfl, rfl, rfl, rfl, rfl, rfl, trivial⟩ ⟨inferInstance, inferInstance, inferInstance, inferInstance, inferInstance, hsq.to, hsr.to, hf.1, by show sg _ (z.natAbs % z'.natAbs) = _; rw [hr1]; exact hf.2⟩
      · skip
        have hb34 : b3 ≠ b4 := by
          obtain ⟨_, hb3'⟩ := hc3
          have : b3 < W3.size := lt_of_heap hb3'
          omega
        rintro ⟨⟨p1, n1, c1, x1⟩, p2, n2, c2, x2⟩ W11 ⟨iL, _, _, _, _, h1, h2, hf1, hf2⟩
        dsimp only at *
        refine J.seq <| ?_
        refine J.draw [.ex _, .ex _, .ex _, .ex _, .ex _, .ex _, .rel _, .ex _, .ex _, .ex _, .rel _] rfl rfl ⟨fun W1 i1 e1 _ => O.fa rfl <| D.ex, fun W1 i1 e1 _ => O.ldB rfl hb1.to rfl <| D.ex, fun W1 i1 e1 _ => O.fa rfl <| D.ex, fun W1 i1 e1 _ => O.ldB rfl hb2.to rfl <| D.ex, fun W1 i1 e1 _ => O.bne rfl rfl <| D.ex, fun W1 i1 e1 _ => O.mv rfl <| D.ex, fun W1 i1 e1 _ => O.call rfl (integer_signedd_ok (decide (z < 0) != decide (z' < 0)) h1.to) fun W5 v5 i5 e5 h5 => D.rel e5 h5 V.me, fun W1 i1 e1 _ => O.fa rfl <| D.ex, fun W1 i1 e1 _ => O.ldB rfl hb2.to rfl <| D.ex, fun W1 i1 e1 _ => O.mv rfl <| D.ex, fun W1 i1 e1 _ => fun v48 h48 => O.call rfl (integer_signedd_ok (decide (z' < 0)) h2.to) fun W5 v5 i5 e5 h5 => D.rel e5 h5 V.me, trivial⟩ ?_
        intro W1 i1 e1 v48 h48 v52 h52
        rw [hf1] at h48
        rw [hf2] at h52
        obtain ⟨p4, m4, c4, rfl, hs4⟩ := unI h48
        obtain ⟨p5, m5, c5, rfl, hs5⟩ := unI h52
        refine O.st rfl rfl hl3.to rfl (by simp [oneC, Value.cells]) fun W12 i12 hc12 => O.stC rfl rfl hl4.to rfl (by simp [oneC, Value.cells]) hc12 hb34 fun W13 i13 hc13 hc14 => O.as rfl <| JO.nil <| J.ret3 rfl (.cell rfl hc14 rfl) (.cell rfl hc13 rfl) (.tmp rfl) fun W' iE iP => ?_
        exact ⟨_, _, rfl, mkI hs4.to, mkI hs5.to⟩
    · skip
      refine O.set (t := 31) (.bool false) rfl (congrArg Value.bool (by have h := Classical.not_not.1 hg31; show (decide (z < 0) != decide (z' < 0)) = false; rw [h]; simp)) <| O.gs rfl rfl rfl <| O.gs rfl rfl rfl <| O.gs rfl rfl rfl <| O.pickF rfl rfl <| JO.nil <| ?_
      refine J.cut (α := (Option Addr × Nat × Nat × Nat) × Option Addr × Nat × Nat × Nat) (fun q => [(2, .pointer (some ⟨b1, 0, none⟩)), (3, .pointer (some ⟨b2, 0, none⟩)), (4, .pointer (some ⟨b3, 0, none⟩)), (5, .pointer (some ⟨b4, 0, none⟩)), (8, .slice q.1.1 q.1.2.1 q.1.2.2.1), (9, .slice q.2.1 q.2.2.1 q.2.2.2.1)]) (fun q W => Lk W4 W ∧ Lk W3 W ∧ Le W0 W ∧ Le W1 W ∧ Le W2 W ∧ Sl RW W q.1.1 q.1.2.1 q.1.2.2.1 (dig q.1.2.2.2) ∧ Sl RW W q.2.1 q.2.2.1 q.2.2.2.1 (dig q.2.2.2.2) ∧ sg (decide (z < 0) != decide (z' < 0)) q.1.2.2.2 = z.fdiv z' ∧ sg (decide (z' < 0)) q.2.2.2.2 = z.fmod z') ?_ ?_
      · skip
        refine J.condF rfl <| J.skip <| ?_
        have hf := fdm_same hz0 (Classical.not_not.1 hg31)
        exact J.at' ((pq, mq, cq, z.natAbs / z'.natAbs), pr, mr, cr, z.natAbs % z'.natAbs) ⟨rfl, rfl, rfl, rfl, rfl, rfl, trivial⟩ ⟨inferInstance, inferInstance, inferInstance, inferInstance, inferInstance, hsq.to, hsr.to, hf.1, hf.2⟩
      · skip
        have hb34 : b3 ≠ b4 := by
          obtain ⟨_, hb3'⟩ := hc3
          have : b3 < W3.size := lt_of_heap hb3'
          omega
        rintro ⟨⟨p1, n1, c1, x1⟩, p2, n2, c2, x2⟩ W11 ⟨iL, _, _, _, _, h1, h2, hf1, hf2⟩
        dsimp only at *
        refine J.seq <| ?_
        refine J.draw [.ex _, .ex _, .ex _, .ex _, .ex _, .ex _, .rel _, .ex _, .ex _, .ex _, .rel _] rfl rfl ⟨fun W1 i1 e1 _ => O.fa rfl <| D.ex, fun W1 i1 e1 _ => O.ldB rfl hb1.to rfl <| D.ex, fun W1 i1 e1 _ => O.fa rfl <| D.ex, fun W1 i1 e1 _ => O.ldB rfl hb2.to rfl <| D.ex, fun W1 i1 e1 _ => O.bne rfl rfl <| D.ex, fun W1 i1 e1 _ => O.mv rfl <| D.ex, fun W1 i1 e1 _ => O.call rfl (integer_signedd_ok (decide (z < 0) != decide (z' < 0)) h1.to) fun W5 v5 i5 e5 h5 => D.rel e5 h5 V.me, fun W1 i1 e1 _ => O.fa rfl <| D.ex, fun W1 i1 e1 _ => O.ldB rfl hb2.to rfl <| D.ex, fun W1 i1 e1 _ => O.mv rfl <| D.ex, fun W1 i1 e1 _ => fun v48 h48 => O.call rfl (integer_signedd_ok (decide (z' < 0)) h2.to) fun W5 v5 i5 e5 h5 => D.rel e5 h5 V.me, trivial⟩ ?_
        intro W1 i1 e1 v48 h48 v52 h52
        rw [hf1] at h48
        rw [hf2] at h52
        obtain ⟨p4, m4, c4, rfl, hs4⟩ := unI h48
        obtain ⟨p5, m5, c5, rfl, hs5⟩ := unI h52
        refine O.st rfl rfl hl3.to rfl (by simp [oneC, Value.cells]) fun W12 i12 hc12 => O.stC rfl rfl hl4.to rfl (by simp [oneC, Value.cells]) hc12 hb34 fun W13 i13 hc13 hc14 => O.as rfl <| JO.nil <| J.ret3 rfl (.cell rfl hc14 rfl) (.cell rfl hc13 rfl) (.tmp rfl) fun W' iE iP => ?_
        exact ⟨_, _, rfl, mkI hs4.to, mkI hs5.to⟩
end
end Go.Proofs.YtcaikjefkkejbaaGreat

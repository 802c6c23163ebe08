/- The program's integers: contracts. -/
import Derived.Test.YtcobdnnfmhfenaaGreatIf
set_option linter.unusedVariables false
set_option linter.unusedSimpArgs false
set_option maxRecDepth 10000
namespace Go.Proofs.YtcobdnnfmhfenaaGreat
open Go Go.Rx Go.Num

section
variable {P : Program} {n : Nat} {ops : Array Oper} {l : List Oper} {K : List Kt} {fin : Exit → Act → World → Prop} {env : Env} {W : GW}
variable {d d2 : Nat} {ty ty2 : TypeId} {pos pos2 : String} {aft aft2 : Array Edge}
theorem O.neg {x : Operand} {T : TypeId} {k' : IntKind} {a r : Int} (hx : get env x = some (.int k' a)) (hr : k'.wrap (-a) = r) (k : JO P n ops l K fin ((d, .int k' r) :: env) W) :
    JO P n ops (⟨some d, .unOp .neg T x, ty, pos, aft, none⟩ :: l) K fin env W :=
  JO.value (fun ac ha => by simp only [execOp, ha.get hx, Op.unary]; rw [← hr]; simp [bind, Sem.bind, Sem.run, pure, Op.intArith, Int.zero_sub]) k
end
theorem integer_trimd_ok {W : GW} {p : Option Addr} {m c n : Nat} (h : Sl RW W p m c (dig n)) :
    Ok Tryz.prog 93 [.slice p m c] W fun W' v => V (RSl RW) W' v (dig n) :=
  (integer_trim_ok h).mono fun _ _ _ h => by rwa [val_dig] at h
theorem integer_signedd_ok {W : GW} {p : Option Addr} {m c n : Nat} (neg : Bool) (h : Sl RW W p m c (dig n)) :
    Ok Tryz.prog 95 [.bool neg, .slice p m c] W fun W' v => V RI W' v (ci (sg neg n)) :=
  (integer_signed_ok neg h).mono fun _ _ _ h => by rwa [val_dig] at h

theorem natAbs_cases (z : Int) : (z < 0 ∧ z = -(z.natAbs : Int)) ∨ (¬ z < 0 ∧ z = (z.natAbs : Int)) := by omega
theorem sg_neg (z : Int) : sg (!decide (z < 0)) z.natAbs = -z := by
  rcases natAbs_cases z with ⟨h, e⟩ | ⟨h, e⟩ <;> simp [sg, h] <;> omega
theorem sg_abs (z : Int) : sg (decide (z < 0)) z.natAbs = z := by
  rcases natAbs_cases z with ⟨h, e⟩ | ⟨h, e⟩ <;> simp [sg, h] <;> omega
theorem sg_mul (x y : Int) : sg (decide (x < 0) != decide (y < 0)) (x.natAbs * y.natAbs) = x * y := by
  rcases natAbs_cases x with ⟨h, e⟩ | ⟨h, e⟩ <;> rcases natAbs_cases y with ⟨h', e'⟩ | ⟨h', e'⟩ <;>
    (simp only [sg, h, h', decide_true, decide_false]
     generalize x.natAbs = a at *
     generalize y.natAbs = b at *
     subst e
     subst e'
     simp [Int.neg_mul, Int.mul_neg])

/-- Sign -/
theorem integer_Sign_ok {W : GW} {v : Value} {z : Int} (h : V RI W v (ci z)) :
    Ok Tryz.prog 70 [v] W fun W' r => r = .int .i64 (cmpI z 0) := by
  obtain ⟨p, m, c, rfl, hs⟩ := unI h
  have hn := hs.hn
  refine Ok.enter Tryz.func70 rfl rfl rfl rfl fun W0 iEn => ?_
  refine J.seq <| J.reg rfl <| O.box rfl fun W1 b1 i1 hb1 => O.as rfl <| JO.nil <| J.seq <| J.block <| J.seq <| J.reg rfl <| O.fa rfl <| O.ldB rfl hb1.to rfl <| O.call rfl (integer_trimd_ok hs.to) fun W2 v2 i2 e2 h2 => ?_
  obtain ⟨p2, m2, c2, rfl, s2⟩ := h2.sl
  have hn2 := s2.hn
  have hz := @dig_len0 z.natAbs
  refine O.len rfl <| O.eq rfl rfl <| O.as rfl <| JO.nil <| J.condD rfl (fun h3 => ?_) (fun h3 => ?_)
  · skip
    refine J.seq <| J.reg rfl <| O.as rfl <| JO.nil <| J.ret1 rfl (.tmp rfl) fun W' iE iP => ?_
    have : z = 0 := by omega
    subst this
    rfl
  · skip
    refine J.seq <| J.reg rfl <| O.fa rfl <| O.ldB rfl hb1.to rfl <| O.as rfl <| JO.nil <| J.condD rfl (fun h9 => ?_) (fun h9 => ?_)
    · skip
      refine J.seq <| J.reg rfl <| O.as rfl <| JO.nil <| J.ret1 rfl (.tmp rfl) fun W' iE iP => ?_
      have : z < 0 := h9
      unfold cmpI
      rw [if_pos this]
    · skip
      refine J.skip <| J.bend <| J.seq <| J.reg rfl <| O.as rfl <| JO.nil <| J.ret1 rfl (.tmp rfl) fun W' iE iP => ?_
      have h1 : ¬ z < 0 := h9
      have h2 : z ≠ 0 := by omega
      unfold cmpI
      rw [if_neg h1, if_pos (by omega)]

/-- Neg -/
theorem integer_Neg_ok {W : GW} {v : Value} {z : Int} (h : V RI W v (ci z)) (hl : (dig z.natAbs).length ≤ 1099511627776) :
    Ok Tryz.prog 75 [v] W fun W' r => V RI W' r (ci (-z)) := by
  obtain ⟨p, m, c, rfl, hs⟩ := unI h
  have hn := hs.hn
  refine Ok.enter Tryz.func75 rfl rfl rfl rfl fun W0 iEn => ?_
  refine J.seq <| J.reg rfl <| O.box rfl fun W1 b1 i1 hb1 => O.alloc fun W2 b2 i2 hl2 hc2 hb2 => JO.nil <| J.seq <| ?_
  refine J.draw [.ex _, .ex _, .ex _, .ex _, .ex _, .rel _, .rel _, .rel _] rfl rfl ⟨fun W1 i1 e1 _ => O.fa rfl <| D.ex, fun W1 i1 e1 _ => O.ldB rfl hb1.to rfl <| D.ex, fun W1 i1 e1 _ => O.not rfl <| D.ex, fun W1 i1 e1 _ => O.fa rfl <| D.ex, fun W1 i1 e1 _ => O.ldB rfl hb1.to rfl <| D.ex, fun W1 i1 e1 _ => O.call rfl (integer_trimd_ok hs.to) fun W5 v5 i5 e5 h5 => D.rel e5 h5 V.me, fun W1 i1 e1 _ => fun _ _ => fun v8 h8 => (by obtain ⟨p6, m6, c6, rfl, hs6⟩ := h8.sl; exact O.call rfl (clone_u32_ok hs6.to (by omega)) fun W5 v5 i5 e5 h5 => D.rel e5 h5 V.me), fun W1 i1 e1 _ => fun _ _ => fun v9 h9 => (by obtain ⟨p6, m6, c6, rfl, hs6⟩ := h9.sl; exact O.call rfl (integer_signedd_ok (!decide (z < 0)) hs6.to) fun W5 v5 i5 e5 h5 => D.rel e5 h5 V.me), trivial⟩ ?_
  intro W1 i1 e1 v8 h8 v9 h9 v10 h10
  obtain ⟨p3, m3, c3, rfl, hs3⟩ := unI h10
  refine O.st rfl rfl hl2.to rfl (by simp [oneC, Value.cells]) fun W3 i3 hc3 => JO.nil <| J.ret1 rfl (.cell rfl hc3 rfl) fun W' iE iP => ?_
  rw [← sg_neg]
  exact mkI hs3.to

/-- Mul -/
theorem integer_Mul_ok {W : GW} {v v' : Value} {z z' : Int} (h : V RI W v (ci z)) (h' : V RI W v' (ci z')) (hl : (dig z.natAbs).length ≤ 1099511627776) (hl' : (dig z'.natAbs).length ≤ 1099511627776) :
    Ok Tryz.prog 106 [v, v'] W fun W' r => V RI W' r (ci (z * z')) := by
  obtain ⟨p, m, c, rfl, hs⟩ := unI h
  obtain ⟨p', m', c', rfl, hs'⟩ := unI h'
  refine Ok.enter Tryz.func106 rfl rfl rfl rfl fun W0 iEn => ?_
  refine J.seq <| J.reg rfl <| O.box rfl fun W1 b1 i1 hb1 => O.box rfl fun W2 b2 i2 hb2 => O.alloc fun W3 b3 i3 hl3 hc3 hb3 => JO.nil <| J.seq <| ?_
  refine J.draw [.ex _, .ex _, .ex _, .ex _, .ex _, .ex _, .ex _, .rel _, .ex _, .ex _, .rel _, .rel _, .rel _] rfl rfl ⟨fun W1 i1 e1 _ => O.fa rfl <| D.ex, fun W1 i1 e1 _ => O.ldB rfl hb1.to rfl <| D.ex, fun W1 i1 e1 _ => O.fa rfl <| D.ex, fun W1 i1 e1 _ => O.ldB rfl hb2.to rfl <| D.ex, fun W1 i1 e1 _ => O.bne rfl rfl <| D.ex, fun W1 i1 e1 _ => O.fa rfl <| D.ex, fun W1 i1 e1 _ => O.ldB rfl hb1.to rfl <| D.ex, fun W1 i1 e1 _ => O.call rfl (integer_trimd_ok hs.to) fun W5 v5 i5 e5 h5 => D.rel e5 h5 V.me, fun W1 i1 e1 _ => O.fa rfl <| D.ex, fun W1 i1 e1 _ => O.ldB rfl hb2.to rfl <| D.ex, fun W1 i1 e1 _ => fun v12 h12 => O.call rfl (integer_trimd_ok hs'.to) fun W5 v5 i5 e5 h5 => D.rel e5 h5 V.me, fun W1 i1 e1 _ => fun v12 h12 => fun _ _ => fun v15 h15 => (by obtain ⟨p6, m6, c6, rfl, hs6⟩ := h12.sl; obtain ⟨p7, m7, c7, rfl, hs7⟩ := h15.sl; exact O.call rfl (integer_times_ok hs6.to hs7.to hl hl') fun W5 v5 i5 e5 h5 => D.rel e5 h5 V.me), fun W1 i1 e1 _ => fun _ _ => fun v16 h16 => (by obtain ⟨p6, m6, c6, rfl, hs6⟩ := h16.sl; exact O.call rfl (integer_signedd_ok (decide (z < 0) != decide (z' < 0)) hs6.to) fun W5 v5 i5 e5 h5 => D.rel e5 h5 V.me), trivial⟩ ?_
  intro W1 i1 e1 v12 h12 v15 h15 v16 h16 v17 h17
  obtain ⟨p4, m4, c4, rfl, hs4⟩ := unI h17
  refine O.st rfl rfl hl3.to rfl (by simp [oneC, Value.cells]) fun W4 i4 hc4 => JO.nil <| J.ret1 rfl (.cell rfl hc4 rfl) fun W' iE iP => ?_
  rw [← sg_mul]
  exact mkI hs4.to

theorem sg_add {x y : Int} (h : decide (x < 0) = decide (y < 0)) : sg (decide (x < 0)) (x.natAbs + y.natAbs) = x + y := by
  rcases natAbs_cases x with ⟨h1, e⟩ | ⟨h1, e⟩ <;> rcases natAbs_cases y with ⟨h2, e'⟩ | ⟨h2, e'⟩ <;> simp [h1, h2] at h <;> simp [sg, h1] <;> omega
theorem sg_sub {x y : Int} (h : decide (x < 0) ≠ decide (y < 0)) (hle : y.natAbs ≤ x.natAbs) : sg (decide (x < 0)) (x.natAbs - y.natAbs) = x + y := by
  rcases natAbs_cases x with ⟨h1, e⟩ | ⟨h1, e⟩ <;> rcases natAbs_cases y with ⟨h2, e'⟩ | ⟨h2, e'⟩ <;> simp [h1, h2] at h <;> simp [sg, h1] <;> omega

/-- Add -/
theorem integer_Add_ok {W : GW} {v v' : Value} {z z' : Int} (h : V RI W v (ci z)) (h' : V RI W v' (ci z')) (hl : (dig z.natAbs).length ≤ 1099511627776) (hl' : (dig z'.natAbs).length ≤ 1099511627776) :
    Ok Tryz.prog 113 [v, v'] W fun W' r => V RI W' r (ci (z + z')) := by
  obtain ⟨p, m, c, rfl, hs⟩ := unI h
  obtain ⟨p', m', c', rfl, hs'⟩ := unI h'
  refine Ok.enter Tryz.func113 rfl rfl rfl rfl fun W0 iEn => ?_
  refine J.seq <| J.reg rfl <| O.box rfl fun W1 b1 i1 hb1 => O.box rfl fun W2 b2 i2 hb2 => O.alloc fun W3 b3 i3 hl3 hc3 hb3 => JO.nil <| J.seq <| ?_
  refine J.draw [.ex _, .ex _, .rel _, .ex _, .ex _, .rel _] rfl rfl ⟨fun W1 i1 e1 _ => O.fa rfl <| D.ex, fun W1 i1 e1 _ => O.ldB rfl hb1.to rfl <| D.ex, fun W1 i1 e1 _ => O.call rfl (integer_trimd_ok hs.to) fun W5 v5 i5 e5 h5 => D.rel e5 h5 V.me, fun W1 i1 e1 _ => O.fa rfl <| D.ex, fun W1 i1 e1 _ => O.ldB rfl hb2.to rfl <| D.ex, fun W1 i1 e1 _ => fun v9 h9 => O.call rfl (integer_trimd_ok hs'.to) fun W5 v5 i5 e5 h5 => D.rel e5 h5 V.me, trivial⟩ ?_
  intro W1 i1 e1 v9 h9 v12 h12
  obtain ⟨px, mx, cx, rfl, hsx⟩ := h9.sl
  obtain ⟨py, my, cy, rfl, hsy⟩ := h12.sl
  have iD := i1
  refine O.as rfl <| O.as rfl <| JO.nil <| J.seq <| J.seq <| J.reg rfl <| O.fa rfl <| O.ldB rfl hb1.to rfl <| O.fa rfl <| O.ldB rfl hb2.to rfl <| O.beq rfl rfl <| JO.nil <| J.cond rfl (fun h17 => ?_) (fun h17 => ?_)
  · skip
    refine J.seq <| ?_
    refine J.draw [.ex _, .ex _, .ex _, .ex _, .rel _, .rel _] rfl rfl ⟨fun W1 i1 e1 _ => O.fa rfl <| D.ex, fun W1 i1 e1 _ => O.ldB rfl hb1.to rfl <| D.ex, fun W1 i1 e1 _ => O.mv rfl <| D.ex, fun W1 i1 e1 _ => O.mv rfl <| D.ex, fun W1 i1 e1 _ => O.call rfl (integer_plus_ok hsx.to hsy.to hl hl') fun W5 v5 i5 e5 h5 => D.rel e5 h5 V.me, fun W1 i1 e1 _ => fun _ _ => fun v22 h22 => (by obtain ⟨p6, m6, c6, rfl, hs6⟩ := h22.sl; exact O.call rfl (integer_signedd_ok (decide (z < 0)) hs6.to) fun W5 v5 i5 e5 h5 => D.rel e5 h5 V.me), trivial⟩ ?_
    intro W1 i1 e1 v22 h22 v23 h23
    obtain ⟨p4, m4, c4, rfl, hs4⟩ := unI h23
    refine O.st rfl rfl hl3.to rfl (by simp [oneC, Value.cells]) fun W4 i4 hc4 => JO.nil <| J.ret1 rfl (.cell rfl hc4 rfl) fun W' iE iP => ?_
    rw [← sg_add (beq_iff_eq.1 h17)]
    exact mkI hs4.to
  · skip
    have hne : decide (z < 0) ≠ decide (z' < 0) := fun e => by have e2 : (decide (z < 0) == decide (z' < 0)) = false := h17; rw [e] at e2; simp at e2
    refine J.skip <| J.seq <| J.seq <| J.reg rfl <| O.mv rfl <| O.mv rfl <| O.call rfl (integer_compare_ok hsx.to hsy.to) fun W5 v5 i5 e5 h5 => ?_
    subst h5
    refine O.lt rfl rfl <| JO.nil <| J.condD rfl (fun h27 => ?_) (fun h27 => ?_)
    · skip
      refine J.seq <| ?_
      refine J.draw [.ex _, .ex _, .ex _, .ex _, .rel _, .rel _] rfl rfl ⟨fun W1 i1 e1 _ => O.fa rfl <| D.ex, fun W1 i1 e1 _ => O.ldB rfl hb2.to rfl <| D.ex, fun W1 i1 e1 _ => O.mv rfl <| D.ex, fun W1 i1 e1 _ => O.mv rfl <| D.ex, fun W1 i1 e1 _ => O.call rfl (integer_minus_ok hsy.to hsx.to hl' (Nat.le_of_lt (cmpI_neg.1 h27))) fun W5 v5 i5 e5 h5 => D.rel e5 h5 V.me, fun W1 i1 e1 _ => fun _ _ => fun v32 h32 => (by obtain ⟨p6, m6, c6, rfl, hs6⟩ := h32.sl; exact O.call rfl (integer_signedd_ok (decide (z' < 0)) hs6.to) fun W5 v5 i5 e5 h5 => D.rel e5 h5 V.me), trivial⟩ ?_
      intro W1 i1 e1 v32 h32 v33 h33
      obtain ⟨p4, m4, c4, rfl, hs4⟩ := unI h33
      refine O.st rfl rfl hl3.to rfl (by simp [oneC, Value.cells]) fun W4 i4 hc4 => JO.nil <| J.ret1 rfl (.cell rfl hc4 rfl) fun W' iE iP => ?_
      rw [Int.add_comm, ← sg_sub hne.symm (Nat.le_of_lt (cmpI_neg.1 h27))]
      exact mkI hs4.to
    · skip
      refine J.skip <| J.seq <| ?_
      refine J.draw [.ex _, .ex _, .ex _, .ex _, .rel _, .rel _] rfl rfl ⟨fun W1 i1 e1 _ => O.fa rfl <| D.ex, fun W1 i1 e1 _ => O.ldB rfl hb1.to rfl <| D.ex, fun W1 i1 e1 _ => O.mv rfl <| D.ex, fun W1 i1 e1 _ => O.mv rfl <| D.ex, fun W1 i1 e1 _ => O.call rfl (integer_minus_ok hsx.to hsy.to hl (Nat.le_of_not_lt fun e => h27 (cmpI_neg.2 e))) fun W5 v5 i5 e5 h5 => D.rel e5 h5 V.me, fun W1 i1 e1 _ => fun _ _ => fun v38 h38 => (by obtain ⟨p6, m6, c6, rfl, hs6⟩ := h38.sl; exact O.call rfl (integer_signedd_ok (decide (z < 0)) hs6.to) fun W5 v5 i5 e5 h5 => D.rel e5 h5 V.me), trivial⟩ ?_
      intro W1 i1 e1 v38 h38 v39 h39
      obtain ⟨p4, m4, c4, rfl, hs4⟩ := unI h39
      refine O.st rfl rfl hl3.to rfl (by simp [oneC, Value.cells]) fun W4 i4 hc4 => JO.nil <| J.ret1 rfl (.cell rfl hc4 rfl) fun W' iE iP => ?_
      rw [← sg_sub hne (Nat.le_of_not_lt fun e => h27 (cmpI_neg.2 e))]
      exact mkI hs4.to

theorem u64abs (z : Int) (h : -9223372036854775808 ≤ z ∧ z < 9223372036854775808) : (if z < 0 then IntKind.u64.wrap (-(IntKind.u64.wrap z)) else IntKind.u64.wrap z) = (z.natAbs : Int) := by
  rw [wUm z, wUm]
  split <;> omega
/-- FromInt -/
theorem integer_FromInt_ok {W : GW} {z : Int} (hz : -9223372036854775808 ≤ z ∧ z < 9223372036854775808) :
    Ok Tryz.prog 73 [.int .i64 z] W fun W' r => V RI W' r (ci z) := by
  have hu := u64abs z hz
  refine Ok.enter Tryz.func73 rfl rfl rfl rfl fun W0 iEn => ?_
  refine J.seq <| J.reg rfl <| O.alloc fun W1 b1 i1 hl1 hc1 hb1 => JO.nil <| J.seq <| J.reg rfl <| O.mv rfl <| O.cv (r := IntKind.u64.wrap z) rfl rfl <| O.as rfl <| JO.nil <| J.seq <| J.seq <| J.reg rfl <| O.mv rfl <| O.lt rfl rfl <| JO.nil <| ?_
  refine J.cut (α := Unit) (fun _ => [(0, .int .i64 z), (2, .pointer (some ⟨b1, 0, none⟩)), (3, .int .u64 (z.natAbs : Int))]) (fun _ W' => W' = W1) ?_ ?_
  · skip
    refine J.condD rfl (fun h7 => ?_) (fun h7 => ?_)
    · skip
      rw [if_pos h7] at hu
      refine J.reg rfl <| O.mv rfl <| O.neg rfl hu <| O.as rfl <| JO.nil <| ?_
      exact J.at' () ⟨rfl, rfl, rfl, trivial⟩ rfl
    · skip
      rw [if_neg h7] at hu
      refine J.skip <| ?_
      exact J.at' () ⟨rfl, rfl, by rw [← hu]; rfl, trivial⟩ rfl
  · skip
    rintro _ W2 rfl
    refine J.seq <| J.reg rfl <| O.mv rfl <| O.lt rfl rfl <| O.mv rfl <| O.call rfl (integer_fromUint_ok (by omega)) fun W5 v5 i5 e5 h5 => ?_
    obtain ⟨p6, m6, c6, rfl, hs6⟩ := h5.sl
    refine O.call rfl (integer_signedd_ok (decide (z < 0)) hs6.to) fun W6 v6 i6 e6 h6 => ?_
    rw [sg_abs] at h6
    obtain ⟨p4, m4, c4, rfl, hs4⟩ := unI h6
    refine O.st rfl rfl hl1.to rfl (by simp [oneC, Value.cells]) fun W4 i4 hc4 => JO.nil <| J.ret1 rfl (.cell rfl hc4 rfl) fun W' iE iP => ?_
    exact mkI hs4.to
end Go.Proofs.YtcobdnnfmhfenaaGreat

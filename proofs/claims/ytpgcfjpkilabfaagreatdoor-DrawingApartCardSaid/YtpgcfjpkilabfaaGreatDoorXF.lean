/- part 6 -/
import Derived.Test.YtpgcfjpkilabfaaGreatDoorXE
import Derived.RangeFuncLeaves
import Derived.ControlIn
import Derived.RangeFuncCalls
set_option linter.unusedVariables false
set_option linter.unusedSimpArgs false
set_option maxRecDepth 100000
set_option maxHeartbeats 4000000
namespace Go.Proofs.YtpgcfjpkilabfaaGreatDoor
open Go Go.Num Go.Tow Go.Vm
section
def lo2 (x y : Rat) : Rat := if y < x then y else x
def hi2 (x y : Rat) : Rat := if x < y then y else x
def minL (x : Rat) (r : List Rat) : Rat := r.foldl lo2 x
def maxL (x : Rat) (r : List Rat) : Rat := r.foldl hi2 x
theorem lo2_qs {s : Nat} {x y : Rat} (hx : Qs s x) (hy : Qs s y) : Qs s (lo2 x y) := by unfold lo2; split <;> assumption
theorem hi2_qs {s : Nat} {x y : Rat} (hx : Qs s x) (hy : Qs s y) : Qs s (hi2 x y) := by unfold hi2; split <;> assumption
theorem minL_snoc (x : Rat) (r : List Rat) (y : Rat) : minL x (r ++ [y]) = lo2 (minL x r) y := by simp [minL]
theorem maxL_snoc (x : Rat) (r : List Rat) (y : Rat) : maxL x (r ++ [y]) = hi2 (maxL x r) y := by simp [maxL]
theorem minL_qs {s : Nat} {x : Rat} {r : List Rat} (h : ∀ y ∈ x :: r, Qs s y) : Qs s (minL x r) := by
 induction r generalizing x with
 | nil => exact h x (List.mem_cons_self ..)
 | cons y r ih => exact ih (x := lo2 x y) (fun z hz => by
  rcases List.mem_cons.1 hz with rfl | hz
  · exact lo2_qs (h x (List.mem_cons_self ..)) (h y (by simp))
  · exact h z (by simp [hz]))
theorem maxL_qs {s : Nat} {x : Rat} {r : List Rat} (h : ∀ y ∈ x :: r, Qs s y) : Qs s (maxL x r) := by
 induction r generalizing x with
 | nil => exact h x (List.mem_cons_self ..)
 | cons y r ih => exact ih (x := hi2 x y) (fun z hz => by
  rcases List.mem_cons.1 hz with rfl | hz
  · exact hi2_qs (h x (List.mem_cons_self ..)) (h y (by simp))
  · exact h z (by simp [hz]))
theorem cmpQ_lt {x y : Rat} : cmpQ x y < 0 ↔ x < y := by
 unfold cmpQ
 split
 · rename_i h; simp [h]
 · rename_i h
   split <;> simp [h]
theorem cmpQ_gt {x y : Rat} : cmpQ x y > 0 ↔ y < x := by
 rw [cmpQ_swap, ← cmpQ_lt]; omega
theorem qs_take {s : Nat} {x : Rat} {r : List Rat} (h : ∀ y ∈ x :: r, Qs s y) (k : Nat) : ∀ y ∈ x :: r.take k, Qs s y := fun y hy => h y (by
 rcases List.mem_cons.1 hy with rfl | hy
 · exact List.mem_cons_self ..
 · exact List.mem_cons_of_mem _ (List.mem_of_mem_take hy))
theorem divInt1 (n : Int) : Rat.divInt n 1 = (n : Rat) := by
 rw [Rat.divInt_eq_div]
 have : ((1 : Int) : Rat) = 1 := rfl
 grind
def pw (b : Nat) : Rat := ((2 ^ b : Int) : Rat)
theorem Zs.two {b p : Nat} (h : b + 1 ≤ p) : Zs p (2 ^ b : Int) := by
 refine Zs.mono (p := b + 1) ?_ h
 unfold Zs
 rw [Int.natAbs_pow]
 exact Nat.pow_lt_pow_right (by decide) (Nat.lt_succ_self b)
theorem two_ne (b : Nat) : (2 ^ b : Int) ≠ 0 := by have := Int.pow_pos (n := 2) (m := b) (by decide); omega
theorem pw_qs (b : Nat) : Qs (b + 1) (pw b) := ⟨Zs.two (Nat.le_refl _), Zs.one (by omega)⟩
theorem Zs.floor {s : Nat} {x : Rat} (h : Qs s x) : Zs s x.floor := by
 have hn := h.n
 unfold Zs at *
 rw [Rat.floor_def]
 exact Nat.lt_of_le_of_lt (Int.natAbs_ediv_le_natAbs _ _) hn
def dnQ (x : Rat) (b : Nat) : Rat := Rat.divInt (x * pw b).floor (2 ^ b)
def upQ (x : Rat) (b : Nat) : Rat := -dnQ (-x) b
theorem dnQ_qs {s : Nat} {x : Rat} (h : Qs s x) (b : Nat) : Qs (s + b + 1) (dnQ x b) :=
 Qs.divInt (p := s + b + 1) ((Zs.floor (h.mul (pw_qs b))).mono (by omega)) (Zs.two (by omega)) (two_ne b)
theorem upQ_qs {s : Nat} {x : Rat} (h : Qs s x) (b : Nat) : Qs (s + b + 1) (upQ x b) := (dnQ_qs h.neg b).neg
theorem cmpQ_le {x y : Rat} : cmpQ x y ≤ 0 ↔ ¬ y < x := by rw [← cmpQ_gt]; omega
theorem len_nat {a p : Nat} (h : a < 2 ^ p) : (dig a).length ≤ p / 32 + 1 := by
 refine dig_len_le (Nat.lt_of_lt_of_le h ?_)
 rw [show (4294967296 : Nat) = 2 ^ 32 from rfl, ← Nat.pow_mul]
 exact Nat.pow_le_pow_right (by decide) (by omega)
def rtF (x : Rat) : Nat := rt x.floor.toNat
theorem rt_le (n : Nat) : rt n ≤ n := by
 have h := (rt_spec n).1
 by_cases h0 : rt n = 0
 · omega
 · have := Nat.mul_le_mul_left (rt n) (show 1 ≤ rt n by omega)
   omega
theorem floor_nat {x : Rat} (h : 0 ≤ x) : x.floor = (x.floor.toNat : Int) := by
 have : (0 : Int) ≤ x.floor := Rat.le_floor_iff.2 h
 omega
theorem rtF_zs {s : Nat} {x : Rat} (h : Qs s x) (h0 : 0 ≤ x) : Zs s (rtF x : Int) := by
 have h1 := Zs.floor h
 rw [floor_nat h0] at h1
 have h2 := rt_le x.floor.toNat
 unfold Zs at *
 have h1 : x.floor.toNat < 2 ^ s := h1
 show rt x.floor.toNat < 2 ^ s
 omega
theorem pw_pos (b : Nat) : 0 < pw b := Rat.intCast_pos.2 (Int.pow_pos (by decide))
def sq2 (x : Rat) (b : Nat) : Rat := x * (pw b * pw b)
def sqLo (x : Rat) (b : Nat) : Rat := Rat.divInt (rtF (sq2 x b) : Int) (2 ^ b)
open Classical in
noncomputable def sqUp (x : Rat) : Nat := if ((rtF x * rtF x : Int) : Rat) < x then rtF x + 1 else rtF x
noncomputable def sqHi (x : Rat) (b : Nat) : Rat := Rat.divInt (sqUp (sq2 x b) : Int) (2 ^ b)
theorem sq2_qs {s b : Nat} {x : Rat} (h : Qs s x) : Qs (s + (2 * b + 2)) (sq2 x b) := (h.mul ((pw_qs b).mul (pw_qs b))).mono (by omega)
theorem sq2_nn {x : Rat} {b : Nat} (h : 0 ≤ x) : 0 ≤ sq2 x b := Rat.mul_nonneg h (Rat.mul_nonneg (Rat.le_of_lt (pw_pos b)) (Rat.le_of_lt (pw_pos b)))
theorem dn_floor (x : Rat) (n : Nat) : (x.num * 2 ^ n).fdiv x.den = (x * pw n).floor := by
 have hd : (0 : Int) < x.den := Int.natCast_pos.2 (Nat.pos_of_ne_zero x.den_nz)
 rw [Int.fdiv_eq_ediv_of_nonneg _ (by omega)]
 have key : ∀ z : Int, z ≤ (x.num * 2 ^ n) / x.den ↔ z ≤ (x * pw n).floor := by
  intro z
  rw [Int.le_ediv_iff_mul_le hd, Rat.le_floor_iff]
  have e : x * pw n * (x.den : Rat) = ((x.num * 2 ^ n : Int) : Rat) := by
   have := mul_den x
   have h2 : pw n = ((2 ^ n : Int) : Rat) := rfl
   rw [Rat.intCast_mul, ← h2, ← this]
   grind
  have hdr : (0 : Rat) < (x.den : Rat) := by
   have := Rat.intCast_pos.2 hd
   exact this
  rw [← Rat.intCast_le_intCast, Rat.intCast_mul, ← e]
  constructor
  · intro h
    exact Rat.le_of_mul_le_mul_right h hdr
  · intro h
    exact Rat.mul_le_mul_of_nonneg_right h (Rat.le_of_lt hdr)
 have h1 := (key _).1 (Int.le_refl _)
 have h2 := (key _).2 (Int.le_refl _)
 omega
theorem pw_dbl (b : Nat) : pw (2 * b) = pw b * pw b := by
 show ((2 ^ (2 * b) : Int) : Rat) = ((2 ^ b : Int) : Rat) * ((2 ^ b : Int) : Rat)
 rw [← Rat.intCast_mul, ← Int.pow_add]
 congr 2; omega
theorem sq_floor {x : Rat} (b : Nat) (h0 : 0 ≤ x) : (x.num * 2 ^ (2 * b)).fdiv x.den = ((sq2 x b).floor.toNat : Int) := by
 rw [dn_floor, pw_dbl]
 exact floor_nat (sq2_nn h0)
theorem sqLo_qs {s : Nat} {x : Rat} (h : Qs s x) (h0 : 0 ≤ x) (b : Nat) : Qs (s + (2 * b + 2)) (sqLo x b) :=
 Qs.divInt (rtF_zs (sq2_qs h) (sq2_nn h0)) (Zs.two (by omega)) (two_ne b)
def mx0 (x : Rat) : Rat := if x < 0 then 0 else x
theorem mx0_nn (x : Rat) : 0 ≤ mx0 x := by unfold mx0; split <;> grind
theorem mx0_qs {s : Nat} {x : Rat} (h : Qs s x) (hs : 1 ≤ s) : Qs s (mx0 x) := by
 unfold mx0
 split
 · exact qs0.mono hs
 · exact h
theorem cmpI_negR {x : Rat} : cmpI x.num 0 < 0 ↔ x < 0 := by
 rw [sgnQ_cmp]
 rcases sgnQ_tri x with ⟨h, e⟩ | ⟨h, e⟩ | ⟨h, e⟩ <;> rw [e]
 · exact ⟨fun h => absurd h (by decide), fun h' => absurd h' (by grind)⟩
 · exact ⟨fun h => absurd h (by decide), fun h' => absurd h' (by grind)⟩
 · exact ⟨fun _ => h, fun _ => by decide⟩
def rnd (p : Rat × Rat) (b : Nat) : Rat × Rat := (dnQ p.1 b, upQ p.2 b)
def rts (p : Rat × Rat) (b : Nat) : Rat × Rat := (sqLo (mx0 p.1) b, sqLo p.2 b + Rat.divInt 1 (2 ^ b))
def mulI (p q : Rat × Rat) : Rat × Rat := (minL (p.1 * q.1) [p.1 * q.2, p.2 * q.1, p.2 * q.2], maxL (p.1 * q.1) [p.1 * q.2, p.2 * q.1, p.2 * q.2])
def addI (p q : Rat × Rat) : Rat × Rat := (p.1 + q.1, p.2 + q.2)
def enc : (k : Nat) → Tw k → El k → Nat → Rat × Rat
 | 0 => fun _ (x : Rat) _ => (x, x)
 | k + 1 => fun t a b => if (∀ x ∈ toL k a.2, x = 0) then enc k t.1 a.1 b else rnd (addI (enc k t.1 a.1 b) (mulI (enc k t.1 a.2 b) (rts (enc k t.1 t.2 b) b))) b
theorem dnQ_eq (x : Rat) (b : Nat) : dnQ x b * pw b = ((x * pw b).floor : Rat) := by
 unfold dnQ
 rw [Rat.divInt_eq_div]
 have h := pw_pos b
 show ((x * pw b).floor : Rat) / pw b * pw b = _
 rw [Rat.div_mul_cancel (by grind)]
theorem dnQ_le (x : Rat) (b : Nat) : dnQ x b ≤ x := by
 refine Rat.le_of_mul_le_mul_right ?_ (pw_pos b)
 rw [dnQ_eq]
 exact Rat.floor_le _
theorem dnQ_gt (x : Rat) (b : Nat) : x * pw b < dnQ x b * pw b + 1 := by
 rw [dnQ_eq]
 have := @Rat.lt_floor (x * pw b)
 grind
theorem upQ_ge (x : Rat) (b : Nat) : x ≤ upQ x b := by
 have := dnQ_le (-x) b
 unfold upQ; grind
theorem upQ_lt (x : Rat) (b : Nat) : upQ x b * pw b < x * pw b + 1 := by
 have := dnQ_gt (-x) b
 unfold upQ; grind
theorem lo2_le {x y : Rat} : lo2 x y ≤ x ∧ lo2 x y ≤ y := by unfold lo2; split <;> grind
theorem hi2_ge {x y : Rat} : x ≤ hi2 x y ∧ y ≤ hi2 x y := by unfold hi2; split <;> grind
theorem lo2_or {x y : Rat} : lo2 x y = x ∨ lo2 x y = y := by unfold lo2; split <;> simp
theorem hi2_or {x y : Rat} : hi2 x y = x ∨ hi2 x y = y := by unfold hi2; split <;> simp
theorem mulI_le (p q : Rat × Rat) : (mulI p q).1 ≤ p.1 * q.1 ∧ (mulI p q).1 ≤ p.1 * q.2 ∧ (mulI p q).1 ≤ p.2 * q.1 ∧ (mulI p q).1 ≤ p.2 * q.2 := by
 show lo2 (lo2 (lo2 (p.1 * q.1) (p.1 * q.2)) (p.2 * q.1)) (p.2 * q.2) ≤ _ ∧ lo2 (lo2 (lo2 (p.1 * q.1) (p.1 * q.2)) (p.2 * q.1)) (p.2 * q.2) ≤ _ ∧ lo2 (lo2 (lo2 (p.1 * q.1) (p.1 * q.2)) (p.2 * q.1)) (p.2 * q.2) ≤ _ ∧ lo2 (lo2 (lo2 (p.1 * q.1) (p.1 * q.2)) (p.2 * q.1)) (p.2 * q.2) ≤ _
 have h1 := @lo2_le (p.1 * q.1) (p.1 * q.2)
 have h2 := @lo2_le (lo2 (p.1 * q.1) (p.1 * q.2)) (p.2 * q.1)
 have h3 := @lo2_le (lo2 (lo2 (p.1 * q.1) (p.1 * q.2)) (p.2 * q.1)) (p.2 * q.2)
 refine ⟨?_, ?_, ?_, h3.2⟩ <;> grind
theorem mulI_ge (p q : Rat × Rat) : p.1 * q.1 ≤ (mulI p q).2 ∧ p.1 * q.2 ≤ (mulI p q).2 ∧ p.2 * q.1 ≤ (mulI p q).2 ∧ p.2 * q.2 ≤ (mulI p q).2 := by
 show _ ≤ hi2 (hi2 (hi2 (p.1 * q.1) (p.1 * q.2)) (p.2 * q.1)) (p.2 * q.2) ∧ _ ≤ hi2 (hi2 (hi2 (p.1 * q.1) (p.1 * q.2)) (p.2 * q.1)) (p.2 * q.2) ∧ _ ≤ hi2 (hi2 (hi2 (p.1 * q.1) (p.1 * q.2)) (p.2 * q.1)) (p.2 * q.2) ∧ _ ≤ hi2 (hi2 (hi2 (p.1 * q.1) (p.1 * q.2)) (p.2 * q.1)) (p.2 * q.2)
 have h1 := @hi2_ge (p.1 * q.1) (p.1 * q.2)
 have h2 := @hi2_ge (hi2 (p.1 * q.1) (p.1 * q.2)) (p.2 * q.1)
 have h3 := @hi2_ge (hi2 (hi2 (p.1 * q.1) (p.1 * q.2)) (p.2 * q.1)) (p.2 * q.2)
 refine ⟨?_, ?_, ?_, h3.2⟩ <;> grind
theorem sqLo_eq (x : Rat) (b : Nat) : sqLo x b * pw b = ((rtF (sq2 x b) : Int) : Rat) := by
 unfold sqLo
 rw [Rat.divInt_eq_div]
 have h := pw_pos b
 show ((rtF (sq2 x b) : Int) : Rat) / pw b * pw b = _
 rw [Rat.div_mul_cancel (by grind)]
theorem unit_eq (b : Nat) : Rat.divInt 1 (2 ^ b) * pw b = 1 := by
 rw [Rat.divInt_eq_div]
 have h := pw_pos b
 show ((1 : Int) : Rat) / pw b * pw b = _
 rw [Rat.div_mul_cancel (by grind)]; rfl
theorem sqLo_nn (x : Rat) (b : Nat) : 0 ≤ sqLo x b := by
 refine Rat.le_of_mul_le_mul_right ?_ (pw_pos b)
 rw [sqLo_eq, Rat.zero_mul]
 exact Rat.intCast_nonneg.2 (by omega)
theorem rtF_lo {x : Rat} (h : 0 ≤ x) : (((rtF x : Int)) : Rat) * ((rtF x : Int) : Rat) ≤ x := by
 have h1 := (rt_spec x.floor.toNat).1
 have h2 := floor_nat h
 have h3 := @Rat.floor_le x
 have h4 : ((rtF x * rtF x : Int) : Rat) ≤ (x.floor : Rat) := by
  rw [Rat.intCast_le_intCast, h2]
  unfold rtF
  exact_mod_cast h1
 rw [Rat.intCast_mul] at h4
 exact Rat.le_trans h4 h3
theorem rtF_hi {x : Rat} (h : 0 ≤ x) : x < (((rtF x : Int)) + 1 : Rat) * (((rtF x : Int)) + 1 : Rat) := by
 have h1 := (rt_spec x.floor.toNat).2
 have h2 := floor_nat h
 have h3 := @Rat.lt_floor x
 have h4 : ((x.floor + 1 : Int) : Rat) ≤ (((rtF x + 1 : Int) * (rtF x + 1 : Int) : Int) : Rat) := by
  rw [Rat.intCast_le_intCast, h2]
  unfold rtF
  have h1 : x.floor.toNat + 1 ≤ (rt x.floor.toNat + 1) * (rt x.floor.toNat + 1) := h1
  exact_mod_cast h1
 rw [Rat.intCast_mul, Rat.intCast_add, Rat.intCast_add] at h4
 have h5 : ((1 : Int) : Rat) = 1 := rfl
 rw [h5] at h4
 grind
theorem sqLo_sq {x : Rat} {b : Nat} (h : 0 ≤ x) : sqLo x b * sqLo x b ≤ x := by
 have hp := pw_pos b
 have hpp := Rat.mul_pos hp hp
 refine Rat.le_of_mul_le_mul_right ?_ hpp
 have h1 := rtF_lo (sq2_nn (b := b) h)
 rw [← sqLo_eq] at h1
 unfold sq2 at h1
 grind
theorem sqHi_sq {x : Rat} {b : Nat} (h : 0 ≤ x) : x ≤ (sqLo x b + Rat.divInt 1 (2 ^ b)) * (sqLo x b + Rat.divInt 1 (2 ^ b)) := by
 have hp := pw_pos b
 have hpp := Rat.mul_pos hp hp
 refine Rat.le_of_mul_le_mul_right ?_ hpp
 have h1 := rtF_hi (sq2_nn (b := b) h)
 have h2 := unit_eq b
 rw [← sqLo_eq] at h1
 have h3 : sq2 x b = x * (pw b * pw b) := rfl
 have h4 : (sqLo x b + Rat.divInt 1 (2 ^ b)) * (sqLo x b + Rat.divInt 1 (2 ^ b)) * (pw b * pw b) = (sqLo x b * pw b + 1) * (sqLo x b * pw b + 1) := by
  rw [← h2]; grind
 rw [h4, ← h3]
 exact Rat.le_of_lt h1
theorem enc_in : ∀ {k : Nat} {t : Tw k} (h : real k t) (a : El k) (b : Nat), inI k t a (enc k t a b).1 (enc k t a b).2
 | 0, t, h, a, b => ⟨(sgn_ok h).le_rf (ring 0 t) a, (sgn_ok h).le_rf (ring 0 t) a⟩
 | k + 1, t, h, a, b => by
  have iu := inI_up (t := t) h.1 (enc_in h.1 a.1 b)
  have hs := el_split (t := t) a
  by_cases hz : ∀ x ∈ toL k a.2, x = 0
  · have he : enc (k + 1) t a b = enc k t.1 a.1 b := if_pos hz
    rw [he]
    have ha : a = up k a.1 := Prod.ext rfl ((eq_zero_iff k a.2).2 hz)
    rw [ha]
    exact iu
  · have he : enc (k + 1) t a b = rnd (addI (enc k t.1 a.1 b) (mulI (enc k t.1 a.2 b) (rts (enc k t.1 t.2 b) b))) b := if_neg hz
    have iv := inI_up (t := t) h.1 (enc_in h.1 a.2 b)
    have ir := enc_in h.1 t.2 b
    have hr2 : 0 ≤ (enc k t.1 t.2 b).2 := by
     have h0 : le k t.1 (rat k 0) t.2 := (nn_iff h.1).2 (by rw [h.2]; decide)
     exact (le_ratI h.1).1 (le_tr h.1 h0 ir.2)
    have hu : 0 ≤ Rat.divInt 1 (2 ^ b) := Rat.le_of_mul_le_mul_right (by rw [unit_eq, Rat.zero_mul]; decide) (pw_pos b)
    have is := in_root h ir (c := sqLo (mx0 (enc k t.1 t.2 b).1) b) (d := sqLo (enc k t.1 t.2 b).2 b + Rat.divInt 1 (2 ^ b)) (sqLo_nn _ _) (by have := sqLo_nn (enc k t.1 t.2 b).2 b; grind)
     (by
      have h1 := sqLo_sq (b := b) (mx0_nn (enc k t.1 t.2 b).1)
      by_cases h0 : (enc k t.1 t.2 b).1 < 0
      · right
        have e : mx0 (enc k t.1 t.2 b).1 = 0 := if_pos h0
        rw [e] at h1 ⊢
        have h2 := sqLo_nn 0 b
        by_cases h3 : sqLo 0 b = 0
        · exact h3
        · have := Rat.mul_pos (show 0 < sqLo 0 b by grind) (show 0 < sqLo 0 b by grind)
          grind
      · left
        have e : mx0 (enc k t.1 t.2 b).1 = (enc k t.1 t.2 b).1 := if_neg h0
        rw [e] at h1 ⊢
        exact h1) (sqHi_sq hr2)
    have im := inI_mul h iv is (sqLo_nn _ _) (mulI_le (enc k t.1 a.2 b) (rts (enc k t.1 t.2 b) b)).1 (mulI_le (enc k t.1 a.2 b) (rts (enc k t.1 t.2 b) b)).2.1 (mulI_ge (enc k t.1 a.2 b) (rts (enc k t.1 t.2 b) b)).2.2.1 (mulI_ge (enc k t.1 a.2 b) (rts (enc k t.1 t.2 b) b)).2.2.2
    have ia := inI_add h iu im
    rw [← hs] at ia
    rw [he]
    exact inI_mono h ia (dnQ_le _ _) (upQ_ge _ _)
def eB (s b : Nat) : Nat → Nat
 | 0 => s
 | k + 1 => 3 * eB s b k + 4 * b + 6
theorem eB_ge (s b : Nat) : ∀ k, s ≤ eB s b k
 | 0 => Nat.le_refl _
 | k + 1 => by have := eB_ge s b k; show s ≤ 3 * eB s b k + 4 * b + 6; omega
theorem enc_hi {k : Nat} {t : Tw (k + 1)} (h : real (k + 1) t) (b : Nat) : 0 ≤ (enc k t.1 t.2 b).2 := by
 have h0 : le k t.1 (rat k 0) t.2 := (nn_iff h.1).2 (by rw [h.2]; decide)
 exact (le_ratI h.1).1 (le_tr h.1 h0 (enc_in h.1 t.2 b).2)
def Q2 (s : Nat) (p : Rat × Rat) : Prop := Qs s p.1 ∧ Qs s p.2
theorem unit_qs (b : Nat) : Qs (b + 1) (Rat.divInt 1 (2 ^ b)) := Qs.divInt (Zs.one (by omega)) (Zs.two (Nat.le_refl _)) (two_ne b)
theorem rts_qs {s b : Nat} {p : Rat × Rat} (h : Q2 s p) (h0 : 0 ≤ p.2) (hs : 1 ≤ s) : Q2 (s + 3 * b + 4) (rts p b) :=
 ⟨(sqLo_qs (mx0_qs h.1 hs) (mx0_nn _) b).mono (by omega), ((sqLo_qs h.2 h0 b).add (unit_qs b)).mono (by omega)⟩
theorem mulI_qs {s s' : Nat} {p q : Rat × Rat} (h : Q2 s p) (h' : Q2 s' q) : Q2 (s + s') (mulI p q) := by
 have key : ∀ y ∈ p.1 * q.1 :: [p.1 * q.2, p.2 * q.1, p.2 * q.2], Qs (s + s') y := by
  intro y hy
  simp at hy
  rcases hy with rfl | rfl | rfl | rfl
  · exact h.1.mul h'.1
  · exact h.1.mul h'.2
  · exact h.2.mul h'.1
  · exact h.2.mul h'.2
 exact ⟨minL_qs key, maxL_qs key⟩
theorem addI_qs {s s' : Nat} {p q : Rat × Rat} (h : Q2 s p) (h' : Q2 s' q) : Q2 (s + s' + 1) (addI p q) := ⟨h.1.add h'.1, h.2.add h'.2⟩
theorem rnd_qs {s : Nat} {p : Rat × Rat} (h : Q2 s p) (b : Nat) : Q2 (s + b + 1) (rnd p b) := ⟨dnQ_qs h.1 b, upQ_qs h.2 b⟩
theorem Q2.mono {s s' : Nat} {p : Rat × Rat} (h : Q2 s p) (hs : s ≤ s') : Q2 s' p := ⟨h.1.mono hs, h.2.mono hs⟩
theorem enc_qs : ∀ {k : Nat} {t : Tw k} {a : El k} {s b : Nat}, real k t → TS s k t → Sz s (toL k a) → 1 ≤ s → Q2 (eB s b k) (enc k t a b)
 | 0, t, a, s, b, h, hT, ha, hs => ⟨ha.qs (List.mem_singleton.2 rfl), ha.qs (List.mem_singleton.2 rfl)⟩
 | k + 1, t, a, s, b, h, hT, ha, hs => by
  have hu := enc_qs (b := b) h.1 hT.1 (Sz.left (l := toL k a.1) (m := toL k a.2) ha) hs
  have hv := enc_qs (b := b) h.1 hT.1 (Sz.right (l := toL k a.1) (m := toL k a.2) ha) hs
  have hr := enc_qs (b := b) h.1 hT.1 hT.2 hs
  have hge := eB_ge s b k
  show Q2 (3 * eB s b k + 4 * b + 6) (if (∀ x ∈ toL k a.2, x = 0) then enc k t.1 a.1 b else rnd (addI (enc k t.1 a.1 b) (mulI (enc k t.1 a.2 b) (rts (enc k t.1 t.2 b) b))) b)
  split
  · exact hu.mono (by omega)
  · exact (rnd_qs (addI_qs hu (mulI_qs hv (rts_qs hr (enc_hi h b) (by omega)))) b).mono (by omega)
theorem pw_add (a b : Nat) : pw (a + b) = pw a * pw b := by
 show ((2 ^ (a + b) : Int) : Rat) = ((2 ^ a : Int) : Rat) * ((2 ^ b : Int) : Rat)
 rw [← Rat.intCast_mul, ← Int.pow_add]
theorem pw_succ (n : Nat) : pw (n + 1) = 2 * pw n := by rw [pw_add, show pw 1 = 2 from rfl]; grind
theorem pw_ge1 (n : Nat) : 1 ≤ pw n := by
 induction n with
 | zero => exact Rat.le_refl
 | succ n ih => rw [pw_succ]; grind
theorem pw_mono {a b : Nat} (h : a ≤ b) : pw a ≤ pw b := by
 obtain ⟨c, rfl⟩ := Nat.le.dest h
 rw [pw_add]
 have h1 := Rat.mul_le_mul_of_nonneg_left (pw_ge1 c) (Rat.le_of_lt (pw_pos a))
 grind
theorem mul_nn {x y : Rat} (h : 0 ≤ x) (k : 0 ≤ y) : 0 ≤ x * y := Rat.mul_nonneg h k
theorem mul_le {a b c d : Rat} (h : a ≤ b) (k : c ≤ d) (hc : 0 ≤ c) (hb : 0 ≤ b) : a * c ≤ b * d := by
 have h1 := Rat.mul_le_mul_of_nonneg_right h hc
 have h2 := Rat.mul_le_mul_of_nonneg_left k hb
 grind
theorem mul_abs {x y X Y : Rat} (h1 : -X ≤ x) (h2 : x ≤ X) (h3 : -Y ≤ y) (h4 : y ≤ Y) : x * y ≤ X * Y := by
 have a := mul_nn (show 0 ≤ X - x by grind) (show 0 ≤ Y + y by grind)
 have b := mul_nn (show 0 ≤ X + x by grind) (show 0 ≤ Y - y by grind)
 grind
theorem le_of_sq {x y : Rat} (hy : 0 ≤ y) (h : x * x ≤ y * y) : x ≤ y := by
 by_cases hxy : x ≤ y
 · exact hxy
 · have h1 : y < x := by grind
   have a := Rat.mul_pos (show 0 < x - y by grind) (show 0 < x by grind)
   have b := mul_nn hy (show 0 ≤ x - y by grind)
   grind
def Wid (p : Rat × Rat) (e : Nat) : Prop := p.1 ≤ p.2 ∧ (p.2 - p.1) * pw e ≤ 1
def Mg (p : Rat × Rat) (m : Nat) : Prop := -pw m ≤ p.1 ∧ p.2 ≤ pw m
theorem Wid.mono {p : Rat × Rat} {e f : Nat} (h : Wid p e) (hf : f ≤ e) : Wid p f := by
 refine ⟨h.1, ?_⟩
 have := Rat.mul_le_mul_of_nonneg_left (pw_mono hf) (show 0 ≤ p.2 - p.1 by have := h.1; grind)
 have := h.2
 grind
theorem Mg.mono {p : Rat × Rat} {m n : Nat} (h : Mg p m) (hn : m ≤ n) : Mg p n := by
 have := pw_mono hn
 have h1 := h.1
 have h2 := h.2
 exact ⟨by grind, by grind⟩
structure RtOf (r : Rat × Rat) (b : Nat) (s : Rat × Rat) : Prop where
 lo : s.1 = sqLo (mx0 r.1) b
 l : sqLo r.2 b ≤ s.2
 h : s.2 ≤ sqLo r.2 b + Rat.divInt 1 (2 ^ b)
theorem unit_pos (b : Nat) : 0 < Rat.divInt 1 (2 ^ b) := by
 by_cases h : 0 < Rat.divInt 1 (2 ^ b)
 · exact h
 · have h1 := Rat.mul_le_mul_of_nonneg_right (show Rat.divInt 1 (2 ^ b) ≤ 0 by grind) (Rat.le_of_lt (pw_pos b))
   rw [unit_eq] at h1
   exact absurd h1 (by grind)
theorem unit_le {b f : Nat} (h : f + 1 ≤ b) : 2 * (Rat.divInt 1 (2 ^ b) * pw f) ≤ 1 := by
 have h1 := Rat.mul_le_mul_of_nonneg_left (pw_mono h) (Rat.le_of_lt (unit_pos b))
 rw [unit_eq, pw_succ] at h1
 grind
theorem unit_le1 (b : Nat) : Rat.divInt 1 (2 ^ b) ≤ 1 := by
 have h1 := Rat.mul_le_mul_of_nonneg_left (pw_ge1 b) (Rat.le_of_lt (unit_pos b))
 rw [unit_eq] at h1
 grind
theorem mx0_ge (x : Rat) : x ≤ mx0 x := by unfold mx0; split <;> grind
theorem sqLo_mono {x y : Rat} {b : Nat} (hx : 0 ≤ x) (h : x ≤ y) : sqLo x b ≤ sqLo y b := by
 have hp := pw_pos b
 refine Rat.le_of_mul_le_mul_right ?_ hp
 rw [sqLo_eq, sqLo_eq, Rat.intCast_le_intCast]
 have h1 : sq2 x b ≤ sq2 y b := Rat.mul_le_mul_of_nonneg_right h (Rat.le_of_lt (Rat.mul_pos hp hp))
 have h2 := rtF_lo (sq2_nn (b := b) hx)
 have h3 := rtF_hi (x := sq2 y b) (Rat.le_trans (sq2_nn (b := b) hx) h1)
 by_cases h4 : (rtF (sq2 x b) : Int) ≤ rtF (sq2 y b)
 · exact h4
 · have h5 : (rtF (sq2 y b) : Int) + 1 ≤ rtF (sq2 x b) := by omega
   have h6 := Rat.intCast_le_intCast.2 h5
   rw [Rat.intCast_add, show ((1 : Int) : Rat) = 1 from rfl] at h6
   have h7 : (0 : Rat) ≤ ((rtF (sq2 y b) : Int) : Rat) := Rat.intCast_nonneg.2 (by omega)
   have h8 := mul_le h6 h6 (by grind) (by grind)
   grind
theorem RtOf.wd {r s : Rat × Rat} {b e f : Nat} (R : RtOf r b s) (hr : Wid r e) (h0 : 0 ≤ r.2) (hf : 2 * f ≤ e) (hb : f + 1 ≤ b) : s.1 ≤ s.2 ∧ (s.2 - s.1) * pw f ≤ 2 := by
 obtain ⟨r1, r2⟩ := r
 obtain ⟨c, d⟩ := s
 obtain ⟨h1, h2, h3⟩ := R
 dsimp only at *
 have hA := sqLo_sq (b := b) h0
 have hB := sqHi_sq (b := b) (mx0_nn r1)
 have hB0 := sqLo_nn (mx0 r1) b
 have hm := mx0_ge r1
 have hu := unit_pos b
 have hul := unit_le hb
 rw [← h1] at hB hB0
 have hw := (hr.mono hf).2
 have hpf := pw_pos f
 rw [show 2 * f = f + f by omega, pw_add] at hw
 dsimp only at hw
 generalize Rat.divInt 1 (2 ^ b) = ε at *
 generalize hAe : sqLo r2 b = A at *
 have key : (A - (c + ε)) * pw f ≤ 1 := by
  by_cases hk : (A - (c + ε)) * pw f ≤ 1
  · exact hk
  · have hk : 1 < (A - (c + ε)) * pw f := by grind
    have hD : 0 < A - (c + ε) := by
     by_cases hD : 0 < A - (c + ε)
     · exact hD
     · have := Rat.mul_le_mul_of_nonneg_right (show A - (c + ε) ≤ 0 by grind) (Rat.le_of_lt hpf)
       grind
    have e1 := mul_nn (Rat.le_of_lt hD) (show 0 ≤ 2 * (c + ε) by grind)
    have e2 : (A - (c + ε)) * (A - (c + ε)) ≤ r2 - r1 := by grind
    have e3 := Rat.mul_le_mul_of_nonneg_right e2 (Rat.le_of_lt (Rat.mul_pos hpf hpf))
    have e4 := mul_le (Rat.le_of_lt hk) (Rat.le_of_lt hk) (by decide) (by grind)
    have e5 := Rat.mul_pos (show 0 < (A - (c + ε)) * pw f - 1 by grind) (show 0 < (A - (c + ε)) * pw f by grind)
    grind
 refine ⟨?_, ?_⟩
 · have hmono : mx0 r1 ≤ r2 := by
    have := hr.1
    unfold mx0
    dsimp only at this
    split
    · exact h0
    · exact this
   have := sqLo_mono (b := b) (mx0_nn r1) hmono
   rw [hAe, ← h1] at this
   grind
 · have := Rat.mul_le_mul_of_nonneg_right (show d - c ≤ (A - (c + ε)) + 2 * ε by grind) (Rat.le_of_lt hpf)
   grind
theorem RtOf.mg {r s : Rat × Rat} {b m : Nat} (R : RtOf r b s) (hr : Mg r m) (h0 : 0 ≤ r.2) : 0 ≤ s.1 ∧ s.2 ≤ pw (m + 1) := by
 have h1 := sqLo_sq (b := b) h0
 have h2 := sqLo_nn (mx0 r.1) b
 rw [← R.lo] at h2
 refine ⟨h2, ?_⟩
 have h3 : sqLo r.2 b ≤ pw m := by
  refine le_of_sq (Rat.le_of_lt (pw_pos m)) (Rat.le_trans h1 (Rat.le_trans hr.2 ?_))
  have := Rat.mul_le_mul_of_nonneg_left (pw_ge1 m) (Rat.le_of_lt (pw_pos m))
  grind
 have h4 := R.h
 have h5 := unit_le1 b
 have h6 := pw_ge1 m
 rw [pw_succ]
 grind
theorem mulI_or (p q : Rat × Rat) : (∃ v s, (v = p.1 ∨ v = p.2) ∧ (s = q.1 ∨ s = q.2) ∧ (mulI p q).1 = v * s) ∧ ∃ v s, (v = p.1 ∨ v = p.2) ∧ (s = q.1 ∨ s = q.2) ∧ (mulI p q).2 = v * s := by
 constructor
 · show ∃ v s, (v = p.1 ∨ v = p.2) ∧ (s = q.1 ∨ s = q.2) ∧ lo2 (lo2 (lo2 (p.1 * q.1) (p.1 * q.2)) (p.2 * q.1)) (p.2 * q.2) = v * s
   rcases @lo2_or (lo2 (lo2 (p.1 * q.1) (p.1 * q.2)) (p.2 * q.1)) (p.2 * q.2) with h | h <;> rw [h]
   · rcases @lo2_or (lo2 (p.1 * q.1) (p.1 * q.2)) (p.2 * q.1) with h | h <;> rw [h]
     · rcases @lo2_or (p.1 * q.1) (p.1 * q.2) with h | h <;> rw [h]
       · exact ⟨_, _, .inl rfl, .inl rfl, rfl⟩
       · exact ⟨_, _, .inl rfl, .inr rfl, rfl⟩
     · exact ⟨_, _, .inr rfl, .inl rfl, rfl⟩
   · exact ⟨_, _, .inr rfl, .inr rfl, rfl⟩
 · show ∃ v s, (v = p.1 ∨ v = p.2) ∧ (s = q.1 ∨ s = q.2) ∧ hi2 (hi2 (hi2 (p.1 * q.1) (p.1 * q.2)) (p.2 * q.1)) (p.2 * q.2) = v * s
   rcases @hi2_or (hi2 (hi2 (p.1 * q.1) (p.1 * q.2)) (p.2 * q.1)) (p.2 * q.2) with h | h <;> rw [h]
   · rcases @hi2_or (hi2 (p.1 * q.1) (p.1 * q.2)) (p.2 * q.1) with h | h <;> rw [h]
     · rcases @hi2_or (p.1 * q.1) (p.1 * q.2) with h | h <;> rw [h]
       · exact ⟨_, _, .inl rfl, .inl rfl, rfl⟩
       · exact ⟨_, _, .inl rfl, .inr rfl, rfl⟩
     · exact ⟨_, _, .inr rfl, .inl rfl, rfl⟩
   · exact ⟨_, _, .inr rfl, .inr rfl, rfl⟩
theorem step_wd2 {u v r s : Rat × Rat} {b b' e f m : Nat} (hu : Wid u f) (hv : Wid v f) (hr : Wid r e) (hf : 2 * f ≤ e) (mv : Mg v m) (ms : 0 ≤ s.1 ∧ s.2 ≤ pw (m + 1)) (h0 : 0 ≤ r.2) (R : RtOf r b s) (hb : f + 1 ≤ b) (hb' : b ≤ b') (he : m + 3 ≤ f) :
 Wid (rnd (addI u (mulI v s)) b') (f - (m + 3)) := by
 have hs := R.wd hr h0 (f := f) hf hb
 have wu := hu.2
 have wv := hv.2
 have hu1 := hu.1
 have hv1 := hv.1
 have hs1 := hs.1
 have hs2 := hs.2
 have hpf := pw_pos f
 have hpm := pw_pos m
 obtain ⟨⟨v1, s1, hv1', hs1', e1⟩, v2, s2, hv2', hs2', e2⟩ := mulI_or v s
 have hle := (mulI_le v s).1
 have hge := (mulI_ge v s).1
 have hP : (mulI v s).2 - (mulI v s).1 ≤ pw m * (s.2 - s.1) + pw (m + 1) * (v.2 - v.1) := by
  rw [e1, e2]
  have a1 : -pw m ≤ v2 ∧ v2 ≤ pw m := by
   have := mv.1; have := mv.2
   rcases hv2' with rfl | rfl <;> exact ⟨by grind, by grind⟩
  have a2 : -(s.2 - s.1) ≤ s2 - s1 ∧ s2 - s1 ≤ s.2 - s.1 := by
   rcases hs1' with rfl | rfl <;> rcases hs2' with rfl | rfl <;> exact ⟨by grind, by grind⟩
  have a3 : -pw (m + 1) ≤ s1 ∧ s1 ≤ pw (m + 1) := by
   have := ms.1; have := ms.2; have := pw_pos (m + 1)
   rcases hs1' with rfl | rfl <;> exact ⟨by grind, by grind⟩
  have a4 : -(v.2 - v.1) ≤ v2 - v1 ∧ v2 - v1 ≤ v.2 - v.1 := by
   rcases hv1' with rfl | rfl <;> rcases hv2' with rfl | rfl <;> exact ⟨by grind, by grind⟩
  have b1 := mul_abs a1.1 a1.2 a2.1 a2.2
  have b2 := mul_abs a3.1 a3.2 a4.1 a4.2
  grind
 have hPf : ((mulI v s).2 - (mulI v s).1) * pw f ≤ pw (m + 2) := by
  have c1 := Rat.mul_le_mul_of_nonneg_right hP (Rat.le_of_lt hpf)
  have c2 := Rat.mul_le_mul_of_nonneg_left hs2 (Rat.le_of_lt hpm)
  have c3 := Rat.mul_le_mul_of_nonneg_left wv (Rat.le_of_lt (pw_pos (m + 1)))
  rw [pw_succ, pw_succ] at *
  grind
 have d1 := dnQ_gt (u.1 + (mulI v s).1) b'
 have d2 := upQ_lt (u.2 + (mulI v s).2) b'
 have d3 := dnQ_le (u.1 + (mulI v s).1) b'
 have d4 := upQ_ge (u.2 + (mulI v s).2) b'
 have hε := unit_le (b := b') (f := f) (by omega)
 have hεp := unit_pos b'
 have hεe := unit_eq b'
 have d5 : u.1 + (mulI v s).1 - Rat.divInt 1 (2 ^ b') ≤ dnQ (u.1 + (mulI v s).1) b' := by
  refine Rat.le_of_mul_le_mul_right ?_ (pw_pos b')
  grind
 have d6 : upQ (u.2 + (mulI v s).2) b' ≤ u.2 + (mulI v s).2 + Rat.divInt 1 (2 ^ b') := by
  refine Rat.le_of_mul_le_mul_right ?_ (pw_pos b')
  grind
 refine ⟨?_, ?_⟩
 · show dnQ (u.1 + (mulI v s).1) b' ≤ upQ (u.2 + (mulI v s).2) b'
   grind
 · show (upQ (u.2 + (mulI v s).2) b' - dnQ (u.1 + (mulI v s).1) b') * pw (f - (m + 3)) ≤ 1
   refine Rat.le_of_mul_le_mul_right ?_ (pw_pos (m + 3))
   rw [Rat.mul_assoc, ← pw_add, show f - (m + 3) + (m + 3) = f by omega, Rat.one_mul]
   have g1 := Rat.mul_le_mul_of_nonneg_right (show upQ (u.2 + (mulI v s).2) b' - dnQ (u.1 + (mulI v s).1) b' ≤ (u.2 - u.1) + ((mulI v s).2 - (mulI v s).1) + 2 * Rat.divInt 1 (2 ^ b') by grind) (Rat.le_of_lt hpf)
   have g2 := pw_ge1 (m + 1)
   rw [pw_succ (m + 1)] at hPf
   rw [pw_succ (m + 2), pw_succ (m + 1)]
   grind
theorem step_wd {u v r s : Rat × Rat} {b b' e m : Nat} (hu : Wid u e) (hv : Wid v e) (hr : Wid r e) (mv : Mg v m) (mr : Mg r m) (h0 : 0 ≤ r.2) (R : RtOf r b s) (hb : e / 2 + 1 ≤ b) (hb' : b ≤ b') (he : m + 3 ≤ e / 2) :
 Wid (rnd (addI u (mulI v s)) b') (e / 2 - (m + 3)) := step_wd2 (hu.mono (by omega)) (hv.mono (by omega)) hr (by omega) mv (R.mg mr h0) h0 R hb hb' he
theorem step_mg2 {u v s : Rat × Rat} {b' m j : Nat} (mu : Mg u m) (mv : Mg v m) (ms : 0 ≤ s.1 ∧ s.2 ≤ pw (j + 1)) (hs1 : s.1 ≤ s.2) (hv1 : v.1 ≤ v.2) : Mg (rnd (addI u (mulI v s)) b') (m + j + 2) := by
 obtain ⟨⟨v1, s1, hv1', hs1', e1⟩, v2, s2, hv2', hs2', e2⟩ := mulI_or v s
 have key : ∀ x y, (x = v.1 ∨ x = v.2) → (y = s.1 ∨ y = s.2) → -(pw m * pw (j + 1)) ≤ x * y ∧ x * y ≤ pw m * pw (j + 1) := by
  intro x y hx hy
  have a1 : -pw m ≤ x ∧ x ≤ pw m := by
   have := mv.1; have := mv.2
   rcases hx with rfl | rfl <;> exact ⟨by grind, by grind⟩
  have a3 : -pw (j + 1) ≤ y ∧ y ≤ pw (j + 1) := by
   have := ms.1; have := ms.2; have := pw_pos (j + 1)
   rcases hy with rfl | rfl <;> exact ⟨by grind, by grind⟩
  have b1 := mul_abs a1.1 a1.2 a3.1 a3.2
  have b2 := mul_abs (x := -x) (show -pw m ≤ -x by grind) (show -x ≤ pw m by grind) a3.1 a3.2
  exact ⟨by grind, b1⟩
 have k1 := (key _ _ hv1' hs1').1
 have k2 := (key _ _ hv2' hs2').2
 rw [← e1] at k1
 rw [← e2] at k2
 have hεe := unit_eq b'
 have hε1 := unit_le1 b'
 have d1 := dnQ_gt (u.1 + (mulI v s).1) b'
 have d2 := upQ_lt (u.2 + (mulI v s).2) b'
 have d5 : u.1 + (mulI v s).1 - Rat.divInt 1 (2 ^ b') ≤ dnQ (u.1 + (mulI v s).1) b' := by
  refine Rat.le_of_mul_le_mul_right ?_ (pw_pos b')
  grind
 have d6 : upQ (u.2 + (mulI v s).2) b' ≤ u.2 + (mulI v s).2 + Rat.divInt 1 (2 ^ b') := by
  refine Rat.le_of_mul_le_mul_right ?_ (pw_pos b')
  grind
 have e3 : pw (m + j + 2) = 2 * (pw m * pw (j + 1)) := by rw [← pw_add, ← pw_succ]; congr 1
 have e4 : pw m + 1 ≤ pw m * pw (j + 1) := by
  have h1 := pw_ge1 m
  have h3 := pw_ge1 j
  have h2 := Rat.mul_le_mul_of_nonneg_left (show 2 ≤ pw (j + 1) by rw [pw_succ]; grind) (Rat.le_of_lt (pw_pos m))
  grind
 have m1 := mu.1
 have m2 := mu.2
 refine ⟨?_, ?_⟩
 · show -pw (m + j + 2) ≤ dnQ (u.1 + (mulI v s).1) b'
   rw [e3]; grind
 · show upQ (u.2 + (mulI v s).2) b' ≤ pw (m + j + 2)
   rw [e3]; grind
theorem step_mg {u v r s : Rat × Rat} {b b' m : Nat} (mu : Mg u m) (mv : Mg v m) (mr : Mg r m) (h0 : 0 ≤ r.2) (hs1 : s.1 ≤ s.2) (hv1 : v.1 ≤ v.2) (R : RtOf r b s) : Mg (rnd (addI u (mulI v s)) b') (2 * m + 2) := by
 rw [show 2 * m + 2 = m + m + 2 by omega]; exact step_mg2 mu mv (R.mg mr h0) hs1 hv1
def mW (m : Nat) : Nat → Nat
 | 0 => m
 | k + 1 => 2 * mW m k + 2
def eW (m b : Nat) : Nat → Nat
 | 0 => 2 * b - 2
 | k + 1 => eW m b k / 2 - (mW m k + 3)
theorem eW_le (m b : Nat) : ∀ k, eW m b k ≤ 2 * b - 2
 | 0 => Nat.le_refl _
 | k + 1 => by have := eW_le m b k; show eW m b k / 2 - (mW m k + 3) ≤ _; omega
theorem mg_qs {m : Nat} {x : Rat} (h : Qs m x) : Mg (x, x) m := by
 have h1 := h.n
 unfold Zs at h1
 have e := mul_den x
 have hd : (1 : Rat) ≤ (x.den : Rat) := by
  have : ((1 : Int) : Rat) ≤ ((x.den : Int) : Rat) := Rat.intCast_le_intCast.2 (by have := x.den_pos; omega)
  exact this
 have h2 : ((x.num : Int) : Rat) ≤ pw m := Rat.intCast_le_intCast.2 (by have : (x.num.natAbs : Int) < ((2 ^ m : Nat) : Int) := by exact_mod_cast h1
                                                                        have e2 : ((2 ^ m : Nat) : Int) = 2 ^ m := by simp
                                                                        omega)
 have h3 : -pw m ≤ ((x.num : Int) : Rat) := by
  have h4 : ((-(2 ^ m) : Int) : Rat) ≤ ((x.num : Int) : Rat) := Rat.intCast_le_intCast.2 (by have : (x.num.natAbs : Int) < ((2 ^ m : Nat) : Int) := by exact_mod_cast h1
                                                                                             have e2 : ((2 ^ m : Nat) : Int) = 2 ^ m := by simp
                                                                                             omega)
  rwa [Rat.intCast_neg] at h4
 have hp := pw_pos m
 refine ⟨?_, ?_⟩
 · show -pw m ≤ x
   by_cases h0 : 0 ≤ x
   · grind
   · have := mul_nn (show 0 ≤ -x by grind) (show 0 ≤ (x.den : Rat) - 1 by grind)
     grind
 · show x ≤ pw m
   by_cases h0 : 0 ≤ x
   · have := mul_nn h0 (show 0 ≤ (x.den : Rat) - 1 by grind)
     grind
   · grind
def MgL (m : Nat) (l : List Rat) : Prop := ∀ x ∈ l, Qs m x
def MgT (m : Nat) : (k : Nat) → Tw k → Prop
 | 0, _ => True
 | k + 1, t => MgT m k t.1 ∧ MgL m (toL k t.2)
theorem rts_of (r : Rat × Rat) (b : Nat) : RtOf r b (rts r b) := ⟨rfl, by have := unit_pos b; show _ ≤ sqLo r.2 b + _; grind, Rat.le_refl⟩
theorem enc_le {k : Nat} {t : Tw k} (h : real k t) (a : El k) (b : Nat) : (enc k t a b).1 ≤ (enc k t a b).2 := inI_le h (enc_in h a b)
theorem enc_mg : ∀ {k : Nat} {t : Tw k} {a : El k} {m : Nat} (b : Nat), real k t → MgT m k t → MgL m (toL k a) → Mg (enc k t a b) (mW m k)
 | 0, t, a, m, b, h, hT, ha => mg_qs (ha _ (List.mem_singleton.2 rfl))
 | k + 1, t, a, m, b, h, hT, ha => by
  have hu := enc_mg (a := a.1) b h.1 hT.1 fun x hx => ha x (List.mem_append_left _ hx)
  have hv := enc_mg (a := a.2) b h.1 hT.1 fun x hx => ha x (List.mem_append_right _ hx)
  have hr := enc_mg b h.1 hT.1 hT.2
  have h0 : 0 ≤ (enc k t.1 t.2 b).2 := by
   have h0 : le k t.1 (rat k 0) t.2 := (nn_iff h.1).2 (by rw [h.2]; decide)
   exact (le_ratI h.1).1 (le_tr h.1 h0 (enc_in h.1 t.2 b).2)
  show Mg (if (∀ x ∈ toL k a.2, x = 0) then enc k t.1 a.1 b else rnd (addI (enc k t.1 a.1 b) (mulI (enc k t.1 a.2 b) (rts (enc k t.1 t.2 b) b))) b) (2 * mW m k + 2)
  split
  · exact hu.mono (by omega)
  · refine step_mg hu hv hr h0 ?_ (enc_le h.1 _ _) (rts_of _ b)
    have hle := enc_le h.1 t.2 b
    have hm : mx0 (enc k t.1 t.2 b).1 ≤ (enc k t.1 t.2 b).2 := by unfold mx0; split <;> assumption
    have := sqLo_mono (b := b) (mx0_nn _) hm
    have := unit_pos b
    show sqLo (mx0 (enc k t.1 t.2 b).1) b ≤ sqLo (enc k t.1 t.2 b).2 b + Rat.divInt 1 (2 ^ b)
    grind
theorem enc_wd : ∀ {k : Nat} {t : Tw k} {a : El k} {m b : Nat}, real k t → MgT m k t → MgL m (toL k a) → 0 < eW m b k → Wid (enc k t a b) (eW m b k)
 | 0, t, a, m, b, h, hT, ha, he => ⟨Rat.le_refl, (fun (x : Rat) => (by grind : (x - x) * pw (eW m b 0) ≤ 1)) a⟩
 | k + 1, t, a, m, b, h, hT, ha, he => by
  have he' : 0 < eW m b k / 2 - (mW m k + 3) := he
  have hle := eW_le m b k
  have hu := enc_wd (a := a.1) (m := m) (b := b) h.1 hT.1 (fun x hx => ha x (List.mem_append_left _ hx)) (by omega)
  have hv := enc_wd (a := a.2) (m := m) (b := b) h.1 hT.1 (fun x hx => ha x (List.mem_append_right _ hx)) (by omega)
  have hr := enc_wd (m := m) (b := b) h.1 hT.1 hT.2 (by omega)
  have mv := enc_mg (a := a.2) b h.1 hT.1 fun x hx => ha x (List.mem_append_right _ hx)
  have mr := enc_mg b h.1 hT.1 hT.2
  have h0 : 0 ≤ (enc k t.1 t.2 b).2 := by
   have h0 : le k t.1 (rat k 0) t.2 := (nn_iff h.1).2 (by rw [h.2]; decide)
   exact (le_ratI h.1).1 (le_tr h.1 h0 (enc_in h.1 t.2 b).2)
  show Wid (if (∀ x ∈ toL k a.2, x = 0) then enc k t.1 a.1 b else rnd (addI (enc k t.1 a.1 b) (mulI (enc k t.1 a.2 b) (rts (enc k t.1 t.2 b) b))) b) (eW m b k / 2 - (mW m k + 3))
  split
  · exact hu.mono (by omega)
  · exact step_wd hu hv hr mv mr h0 (rts_of _ b) (by omega) (Nat.le_refl _) (by omega)
end
section
theorem eB_mono {s b b' : Nat} (h : b ≤ b') : ∀ k, eB s b k ≤ eB s b' k
 | 0 => Nat.le_refl _
 | k + 1 => by have := eB_mono (s := s) h k; show 3 * eB s b k + 4 * b + 6 ≤ 3 * eB s b' k + 4 * b' + 6; omega
theorem wid_iff {x y : Rat} {b : Nat} : cmpQ (y - x) (Rat.divInt 1 (2 ^ b)) ≤ 0 ↔ (y - x) * pw b ≤ 1 := by
 rw [cmpQ_le]
 have h := unit_eq b
 constructor
 · intro h1
   have := Rat.mul_le_mul_of_nonneg_right (show y - x ≤ Rat.divInt 1 (2 ^ b) by grind) (Rat.le_of_lt (pw_pos b))
   rwa [h] at this
 · intro h1 h2
   have := Rat.mul_pos (show 0 < y - x - Rat.divInt 1 (2 ^ b) by grind) (pw_pos b)
   grind
def FloorOf (k : Nat) (t : Tw k) (a : El k) (z : Int) : Prop := le k t (rat k (z : Rat)) a ∧ sgn k t (add k a (neg k (rat k ((z + 1 : Int) : Rat)))) = -1
theorem lt_not {k : Nat} {t : Tw k} (h : real k t) {a b : El k} : sgn k t (add k a (neg k b)) = -1 ↔ ¬ le k t b a := by
 unfold le
 have := (sgn_ok h).tri (add k a (neg k b))
 omega
theorem FloorOf.uniq {k : Nat} {t : Tw k} {a : El k} {z z' : Int} (h : real k t) (i : FloorOf k t a z) (j : FloorOf k t a z') : z = z' := by
 have key : ∀ z z', FloorOf k t a z → FloorOf k t a z' → z ≤ z' := by
  intro z z' i j
  by_cases hz : z ≤ z'
  · exact hz
  · exact absurd (le_tr h ((le_ratI h).2 (Rat.intCast_le_intCast.2 (show z' + 1 ≤ z by omega))) i.1) ((lt_not h).1 j.2)
 have := key _ _ i j
 have := key _ _ j i
 omega
theorem floor_hi {k : Nat} {t : Tw k} {a : El k} {x y : Rat} (h : real k t) (i : inI k t a x y) (hw : Wid (x, y) 1) : (sgn k t (add k a (neg k (rat k (y.floor : Rat)))) < 0 → FloorOf k t a (y.floor - 1)) ∧ (¬ sgn k t (add k a (neg k (rat k (y.floor : Rat)))) < 0 → FloorOf k t a y.floor) := by
 have h1 := @Rat.floor_le y
 have h2 := @Rat.lt_floor y
 have h3 : (y - x) * 2 ≤ 1 := hw.2
 have e1 : ((1 : Int) : Rat) = 1 := rfl
 have hup : sgn k t (add k a (neg k (rat k ((y.floor + 1 : Int) : Rat)))) = -1 := by
  rw [lt_not h]
  intro hl
  have := (le_ratI h).1 (le_tr h hl i.2)
  rw [Rat.intCast_add, e1] at this
  grind
 refine ⟨fun hn => ⟨le_tr h ((le_ratI h).2 ?_) i.1, ?_⟩, fun hn => ⟨?_, hup⟩⟩
 · rw [Rat.intCast_sub, e1]
   grind
 · rw [show y.floor - 1 + 1 = y.floor by omega]
   have := (sgn_ok h).tri (add k a (neg k (rat k (y.floor : Rat))))
   omega
 · show 0 ≤ _
   omega
noncomputable def rtb (p : Rat × Rat) (b : Nat) : Rat × Rat := (sqLo (mx0 p.1) b, sqHi p.2 b)
noncomputable def bx : (k : Nat) → Tw k → El k → Nat → Rat × Rat
 | 0 => fun _ (x : Rat) _ => (x, x)
 | k + 1 => fun t a b => rnd (addI (bx k t.1 a.1 b) (mulI (bx k t.1 a.2 b) (rtb (bx k t.1 t.2 b) b))) (b + 20)
theorem sqHi_eq (x : Rat) (b : Nat) : sqHi x b * pw b = ((sqUp (sq2 x b) : Int) : Rat) := by
 unfold sqHi
 rw [Rat.divInt_eq_div]
 have h := pw_pos b
 show ((sqUp (sq2 x b) : Int) : Rat) / pw b * pw b = _
 rw [Rat.div_mul_cancel (by grind)]
theorem sqUp_or (x : Rat) : (sqUp x = rtF x ∧ x ≤ ((rtF x : Int) : Rat) * ((rtF x : Int) : Rat)) ∨ sqUp x = rtF x + 1 := by
 unfold sqUp
 split
 · exact .inr rfl
 · rename_i h
   rw [Rat.intCast_mul] at h
   exact .inl ⟨rfl, by grind⟩
theorem sqUp_cast (x : Rat) : ((rtF x : Int) : Rat) ≤ ((sqUp x : Int) : Rat) ∧ ((sqUp x : Int) : Rat) ≤ ((rtF x : Int) : Rat) + 1 ∧ (0 ≤ x → x ≤ ((sqUp x : Int) : Rat) * ((sqUp x : Int) : Rat)) := by
 have e1 : ((1 : Int) : Rat) = 1 := rfl
 rcases sqUp_or x with ⟨h, h2⟩ | h
 · rw [h]; exact ⟨Rat.le_refl, by grind, fun _ => h2⟩
 · have e : ((sqUp x : Int) : Rat) = ((rtF x : Int) : Rat) + 1 := by
    rw [h, ← e1, ← Rat.intCast_add]; congr 1
   rw [e]
   exact ⟨by grind, Rat.le_refl, fun h0 => Rat.le_of_lt (rtF_hi h0)⟩
theorem rtb_of (r : Rat × Rat) (b : Nat) : RtOf r b (rtb r b) := by
 have h := sqUp_cast (sq2 r.2 b)
 have hp := pw_pos b
 refine ⟨rfl, ?_, ?_⟩
 · refine Rat.le_of_mul_le_mul_right ?_ hp
   rw [sqLo_eq]
   show _ ≤ sqHi r.2 b * pw b
   rw [sqHi_eq]; exact h.1
 · refine Rat.le_of_mul_le_mul_right ?_ hp
   show sqHi r.2 b * pw b ≤ _
   have e := sqLo_eq r.2 b
   have e2 := unit_eq b
   have e3 := sqHi_eq r.2 b
   have h2 := h.2.1
   grind
theorem sqHi_sq' {x : Rat} {b : Nat} (h : 0 ≤ x) : x ≤ sqHi x b * sqHi x b := by
 have hp := pw_pos b
 have hpp := Rat.mul_pos hp hp
 refine Rat.le_of_mul_le_mul_right ?_ hpp
 have h1 := (sqUp_cast (sq2 x b)).2.2 (sq2_nn h)
 rw [← sqHi_eq] at h1
 have h3 : sq2 x b = x * (pw b * pw b) := rfl
 rw [← h3]
 have h4 : sqHi x b * sqHi x b * (pw b * pw b) = sqHi x b * pw b * (sqHi x b * pw b) := by grind
 rw [h4]; exact h1
theorem lo_or {x : Rat} {b : Nat} : sqLo (mx0 x) b * sqLo (mx0 x) b ≤ x ∨ sqLo (mx0 x) b = 0 := by
 have h1 := sqLo_sq (b := b) (mx0_nn x)
 by_cases h0 : x < 0
 · right
   have e : mx0 x = 0 := if_pos h0
   rw [e] at h1 ⊢
   have h2 := sqLo_nn 0 b
   by_cases h3 : sqLo 0 b = 0
   · exact h3
   · have := Rat.mul_pos (show 0 < sqLo 0 b by grind) (show 0 < sqLo 0 b by grind)
     grind
 · left
   have e : mx0 x = x := if_neg h0
   rw [e] at h1 ⊢
   exact h1
theorem sgn_hi {k : Nat} {t : Tw (k + 1)} (h : real (k + 1) t) {x y : Rat} (i : inI k t.1 t.2 x y) : 0 ≤ y := by
 have h0 : le k t.1 (rat k 0) t.2 := (nn_iff h.1).2 (by rw [h.2]; decide)
 exact (le_ratI h.1).1 (le_tr h.1 h0 i.2)
theorem step_in {k : Nat} {t : Tw (k + 1)} (h : real (k + 1) t) {a : El (k + 1)} {u v r s : Rat × Rat} {b b' : Nat} (iu : inI k t.1 a.1 u.1 u.2) (iv : inI k t.1 a.2 v.1 v.2) (ir : inI k t.1 t.2 r.1 r.2) (R : RtOf r b s) (hs : r.2 ≤ s.2 * s.2) :
 inI (k + 1) t a (rnd (addI u (mulI v s)) b').1 (rnd (addI u (mulI v s)) b').2 := by
 have iu := inI_up (t := t) h.1 iu
 have iv := inI_up (t := t) h.1 iv
 have hr2 := sgn_hi h ir
 have h0 : 0 ≤ s.1 := by rw [R.lo]; exact sqLo_nn _ _
 have h2 : 0 ≤ s.2 := Rat.le_trans (sqLo_nn _ _) R.l
 have is := in_root h ir (c := s.1) (d := s.2) h0 h2 (by rw [R.lo]; exact lo_or) hs
 have im := inI_mul h iv is h0 (mulI_le v s).1 (mulI_le v s).2.1 (mulI_ge v s).2.2.1 (mulI_ge v s).2.2.2
 have ia := inI_add h iu im
 rw [← el_split a] at ia
 exact inI_mono h ia (dnQ_le _ _) (upQ_ge _ _)
theorem bx_succ {k : Nat} {t : Tw (k + 1)} {a : El (k + 1)} {b : Nat} : bx (k + 1) t a b = rnd (addI (bx k t.1 a.1 b) (mulI (bx k t.1 a.2 b) (rtb (bx k t.1 t.2 b) b))) (b + 20) := rfl
theorem bx_in : ∀ {k : Nat} {t : Tw k} (h : real k t) (a : El k) (b : Nat), inI k t a (bx k t a b).1 (bx k t a b).2
 | 0, t, h, a, b => ⟨(sgn_ok h).le_rf (ring 0 t) a, (sgn_ok h).le_rf (ring 0 t) a⟩
 | k + 1, t, h, a, b => by
  have hu := bx_in h.1 a.1 b
  have hv := bx_in h.1 a.2 b
  have hr := bx_in h.1 t.2 b
  have hs : (bx k t.1 t.2 b).2 ≤ (rtb (bx k t.1 t.2 b) b).2 * (rtb (bx k t.1 t.2 b) b).2 := sqHi_sq' (sgn_hi h hr)
  have R := rtb_of (bx k t.1 t.2 b) b
  rw [bx_succ]
  generalize rtb (bx k t.1 t.2 b) b = s at *
  exact step_in h hu hv hr R hs
theorem bx_le {k : Nat} {t : Tw k} (h : real k t) (a : El k) (b : Nat) : (bx k t a b).1 ≤ (bx k t a b).2 := inI_le h (bx_in h a b)
theorem rtb_le {r : Rat × Rat} {b : Nat} (h0 : 0 ≤ r.2) (h : r.1 ≤ r.2) : (rtb r b).1 ≤ (rtb r b).2 := by
 have hm : mx0 r.1 ≤ r.2 := by unfold mx0; split <;> assumption
 exact Rat.le_trans (sqLo_mono (b := b) (mx0_nn _) hm) (rtb_of r b).l
def bB (s b : Nat) : Nat → Nat
 | 0 => s
 | k + 1 => 3 * bB s b k + 3 * b + 30
end
section
abbrev dI (p : Rat × Rat) : D := .st (.pr (dq p.1) (dq p.2))
theorem fitR {a b a' b' : D} {g : Hp} {K : Hpl} (h1 : a = a') (h2 : b = b') : Fit g K (.d (.st (.pr a b))) (.d (.st (.pr a' b'))) := .eq (by rw [h1, h2])
abbrev zq : AV := .st (.pr (.st (.pr (.b false) .nil)) (.st (.pr (.b false) .nil)))
abbrev zI : AV := .st (.pr zq zq)
theorem hull_ok {x : Rat} {r : List Rat} {s : Nat} (hx : ∀ y ∈ x :: r, Qs s y) (hs : s + 3 ≤ 4398046511104) (hn : r.length ≤ 1000) : C0 381 [.d (dqs (x :: r))] (· = .d (dI (minL x r, maxL x r))) := by
 refine En Tryz.func381 fun _ _ _ => ?_
 refine Dz rfl ?_
 refine Ix 0 rfl (u := dq x) rfl ?_
 refine Ix 0 rfl (u := dq x) rfl ?_
 refine Dp 1 (r.map dq) rfl rfl (by simp) rfl ?_
 refine Lo (fun (q : Nat × Rat × Rat) => [(2, .ptr 2 0), (3, .ptr 3 0), (4, .ptr 4 0), (15, .d (dqs r)), (16, .d (.int .i64 (r.map dq).length)), (17, .d (.int .i64 q.1))]) (fun q => [(2, .var zI), (3, .var (.d (dq q.2.1))), (4, .var (.d (dq q.2.2)))]) (fun q => q.1 ≤ r.length ∧ q.2.1 = minL x (r.take q.1) ∧ q.2.2 = maxL x (r.take q.1)) (fun q => r.length - q.1) (0, x, x) [] rfl ⟨Nat.zero_le _, rfl, rfl⟩ (fun (k, lo, hi) ⟨hk, hlo, hhi⟩ => ?_)
 simp only at hk hlo hhi
 have qlo : Qs s lo := hlo ▸ minL_qs (qs_take hx k)
 have qhi : Qs s hi := hhi ▸ maxL_qs (qs_take hx k)
 refine By rfl (fun h => ?_) fun h => ?_
 · have h : (k : Int) < ((r.map dq).length : Nat) := h
   rw [lq] at h
   obtain ⟨y, hy⟩ := qat (l := r) (k := k) (by omega)
   have qy : Qs s y := hx y (List.mem_cons_of_mem _ (List.mem_of_getElem? hy))
   have e : r.take (k + 1) = r.take k ++ [y] := by rw [List.take_add_one, hy]; rfl
   have e1 : minL x (r.take (k + 1)) = lo2 lo y := by rw [e, minL_snoc, hlo]
   have e2 : maxL x (r.take (k + 1)) = hi2 hi y := by rw [e, maxL_snoc, hhi]
   have fin : ∀ lo' hi', lo' = lo2 lo y → hi' = hi2 hi y → k + 1 ≤ r.length ∧ lo' = minL x (r.take (k + 1)) ∧ hi' = maxL x (r.take (k + 1)) := fun lo' hi' a b => ⟨by omega, by rw [a, e1], by rw [b, e2]⟩
   refine Ix k rfl (mp hy) ?_
   refine Ce rfl (qCmp_ok qy qlo (by omega)) ?_
   refine By rfl (fun h1 => ?_) fun h1 => ?_
   · refine Ce rfl (qCmp_ok qy qhi (by omega)) ?_
     refine By rfl (fun h2 => ?_) fun h2 => ?_
     · refine Ar (k + 1 : Nat) rfl ?_ (wr (show (k : Int) + 1 = ((k + 1 : Nat) : Int) by omega) (by simp only [inK]; omega))
       exact Bk (k + 1, y, y) [] rfl (fin y y (if_pos (cmpQ_lt.1 h1)).symm (if_pos (cmpQ_gt.1 h2)).symm) (by show r.length - (k + 1) < r.length - k; omega)
     · refine Ar (k + 1 : Nat) rfl ?_ (wr (show (k : Int) + 1 = ((k + 1 : Nat) : Int) by omega) (by simp only [inK]; omega))
       exact Bk (k + 1, y, hi) [] rfl (fin y hi (if_pos (cmpQ_lt.1 h1)).symm (if_neg fun h => h2 (cmpQ_gt.2 h)).symm) (by show r.length - (k + 1) < r.length - k; omega)
   · refine Ce rfl (qCmp_ok qy qhi (by omega)) ?_
     refine By rfl (fun h2 => ?_) fun h2 => ?_
     · refine Ar (k + 1 : Nat) rfl ?_ (wr (show (k : Int) + 1 = ((k + 1 : Nat) : Int) by omega) (by simp only [inK]; omega))
       exact Bk (k + 1, lo, y) [] rfl (fin lo y (if_neg fun h => h1 (cmpQ_lt.2 h)).symm (if_pos (cmpQ_gt.1 h2)).symm) (by show r.length - (k + 1) < r.length - k; omega)
     · refine Ar (k + 1 : Nat) rfl ?_ (wr (show (k : Int) + 1 = ((k + 1 : Nat) : Int) by omega) (by simp only [inK]; omega))
       exact Bk (k + 1, lo, hi) [] rfl (fin lo hi (if_neg fun h => h1 (cmpQ_lt.2 h)).symm (if_neg fun h => h2 (cmpQ_gt.2 h)).symm) (by show r.length - (k + 1) < r.length - k; omega)
 · have h : ¬ (k : Int) < ((r.map dq).length : Nat) := h
   rw [lq] at h
   rw [List.take_of_length_le (by omega)] at hlo hhi
   refine Ce rfl (qFromInt_ok (z := 0) (by decide)) ?_
   refine Dw rfl ?_
   refine Ce rfl (qAdd_ok (y := 0) qlo qs0 (by omega)) ?_
   refine Ce rfl (qAdd_ok (y := 0) qhi qs0 (by omega)) ?_
   exact R1 rfl (fitR (by rw [Rat.add_zero, hlo]) (by rw [Rat.add_zero, hhi]))
section
variable {p q : Rat × Rat} {s t : Nat}
theorem iPoint_ok {x : Rat} (hx : Qs s x) (hs : s + 3 ≤ 4398046511104) : C0 344 [.d (dq x)] (· = .d (dI (x, x))) := by
 have e1 : minL x [x] = x := by show lo2 x x = x; unfold lo2; split <;> rfl
 have e2 : maxL x [x] = x := by show hi2 x x = x; unfold hi2; split <;> rfl
 have := hull_ok (x := x) (r := [x]) (s := s) (fun y hy => by simp at hy; rw [hy]; exact hx) hs (by simp)
 rw [e1, e2] at this
 refine En Tryz.func344 fun _ _ _ => ?_
 refine Ce rfl this ?_
 exact R1 rfl (.rf rfl)
theorem iWidth_ok (hp : Q2 s p) (hs : 2 * s + 1 ≤ 4398046511104) : C0 301 [.d (dI p)] (· = .d (dq (p.2 - p.1))) := by
 refine En Tryz.func301 fun _ _ _ => ?_
 refine Ce rfl (qSub_ok hp.2 hp.1 (by omega)) ?_
 exact R1 rfl (.rf rfl)
theorem iAdd_ok (hp : Q2 s p) (hq : Q2 t q) (hs : s + t + 1 ≤ 4398046511104) : C0 346 [.d (dI p), .d (dI q)] (· = .d (dI (addI p q))) := by
 refine En Tryz.func346 fun _ _ _ => ?_
 refine Dw rfl ?_
 refine Ce rfl (qAdd_ok hp.1 hq.1 (by omega)) ?_
 refine Ce rfl (qAdd_ok hp.2 hq.2 (by omega)) ?_
 exact R1 rfl (fitR rfl rfl)
theorem iMul_ok (hp : Q2 s p) (hq : Q2 t q) (hs : s + t + 3 ≤ 4398046511104) : C0 347 [.d (dI p), .d (dI q)] (· = .d (dI (mulI p q))) := by
 have hh := hull_ok (x := p.1 * q.1) (r := [p.1 * q.2, p.2 * q.1, p.2 * q.2]) (s := s + t) (fun y hy => by
  simp only [List.mem_cons, List.not_mem_nil, or_false] at hy
  rcases hy with rfl | rfl | rfl | rfl
  · exact hp.1.mul hq.1
  · exact hp.1.mul hq.2
  · exact hp.2.mul hq.1
  · exact hp.2.mul hq.2) hs (by simp)
 refine En Tryz.func347 fun _ _ _ => ?_
 refine Dw rfl ?_
 refine Ce rfl (qMul_ok hp.1 hq.1 (by omega)) ?_
 refine Ce rfl (qMul_ok hp.1 hq.2 (by omega)) ?_
 refine Ce rfl (qMul_ok hp.2 hq.1 (by omega)) ?_
 refine Ce rfl (qMul_ok hp.2 hq.2 (by omega)) ?_
 refine Ce rfl hh ?_
 exact R1 rfl (.rf rfl)
end
theorem divI {n m r : Nat} (hr : n / m = r) (hm : 0 < m) (hn : n < 9223372036854775808) : arB .quo .i64 n m r := show _ ∧ _ from ⟨by omega, by
 rw [show Int.tdiv (n : Int) (m : Int) = ((n / m : Nat) : Int) from rfl, hr]
 have := Nat.div_le_self n m
 exact wI (by omega)⟩
theorem power2_ok {n : Nat} (hn : n ≤ 8796093022200) : C0 299 [.d (.int .i64 n)] (· = .d (dz (2 ^ n : Int))) := by
 have e : (2 ^ n : Int) = ((2 ^ n : Nat) : Int) := by simp
 refine En Tryz.func299 fun _ _ _ => ?_
 refine Ar (n / 32 : Nat) rfl ?_ (divI (m := 32) rfl (by decide) (by omega))
 refine Ar (n / 32 + 1 : Nat) rfl ?_
 refine Mk (n / 32 + 1) rfl (by omega) ?_
 refine Ar (n / 32 : Nat) rfl ?_ (divI (m := 32) rfl (by decide) (by omega))
 refine Ar (n % 32 : Nat) rfl ?_ (show _ ∧ _ from ⟨by decide, trem n 32⟩)
 refine Ar (2 ^ (n % 32) : Nat) rfl ?_ (shl32one (Nat.mod_lt _ (by decide)))
 refine Eo (n / 32) rfl (by omega) ?_
 refine Sto rfl (by simp) rfl ?_
 refine R1 rfl (.sd (.pd (.bd (by rw [e]; exact (decide_eq_false (by have := Int.pow_pos (n := 2) (m := n) (by decide); omega)).symm)) (.own rfl (by simp) ?_)))
 rw [e, Int.natAbs_natCast, dig_pow, List.drop_zero, List.take_of_length_le (by simp), ← ms, List.map_replicate]
 rfl
theorem den_ne (x : Rat) : (x.den : Int) ≠ 0 := by have := x.den_nz; omega
section
variable {x : Rat} {s b : Nat}
theorem down_ok (hx : Qs s x) (hb : b ≤ 1099511627776) (hs : s ≤ 1099511627776) : C0 382 [.d (dq x), .d (.int .i64 b)] (· = .d (dq (dnQ x b))) := by
 have hp := hx.mul (pw_qs b)
 have h2 : Zs (b + 1) (2 ^ b : Int) := Zs.two (Nat.le_refl _)
 have hn2 := (hx.n.mul h2).len (by omega)
 have l1 := hx.n.len (by omega)
 have l2 := h2.len (by omega)
 have l3 := hx.d.len (by omega)
 have hm := Make_ok (p := s + b + 1) (a := (x * pw b).floor) (b := 2 ^ b) ((Zs.floor hp).mono (by omega)) (h2.mono (by omega)) (by omega) (two_ne b)
 have hd := DivMod_ok (a := x.num * 2 ^ b) (b := x.den) (by omega) (by omega) (den_ne x)
 rw [dn_floor] at hd
 refine En Tryz.func382 fun _ _ _ => ?_
 refine Ce rfl (power2_ok (n := b) (by omega)) ?_
 refine Dz rfl ?_
 refine Ce rfl (Mul_ok (by omega) (by omega)) ?_
 refine Ce rfl hd ?_
 refine Ce rfl hm ?_
 exact R1 rfl (.rf rfl)
theorem up_ok (hx : Qs s x) (hb : b ≤ 1099511627776) (hs : s ≤ 1099511627776) : C0 383 [.d (dq x), .d (.int .i64 b)] (· = .d (dq (upQ x b))) := by
 refine En Tryz.func383 fun _ _ _ => ?_
 refine Ce rfl (qNeg_ok hx (by omega)) ?_
 refine Ce rfl (down_ok hx.neg hb hs) ?_
 refine Ce rfl (qNeg_ok (dnQ_qs hx.neg b) (by omega)) ?_
 exact R1 rfl (.rf rfl)
theorem round_ok {p : Rat × Rat} (hp : Q2 s p) (hb : b ≤ 1099511627776) (hs : s ≤ 1099511627776) : C0 345 [.d (dI p), .d (.int .i64 b)] (· = .d (dI (rnd p b))) := by
 refine En Tryz.func345 fun _ _ _ => ?_
 refine Dw rfl ?_
 refine Ce rfl (down_ok hp.1 hb hs) ?_
 refine Ce rfl (up_ok hp.2 hb hs) ?_
 exact R1 rfl (fitR rfl rfl)
theorem floorRoot_ok (hx : Qs s x) (hx0 : 0 ≤ x) (hb : b ≤ 1099511627776) (hs : s ≤ 1099511627776) : C0 384 [.d (dq x), .d (.int .i64 b)] (· = .d (dq (sqLo x b))) := by
 have h2 : Zs (2 * b + 1) (2 ^ (2 * b) : Int) := Zs.two (Nat.le_refl _)
 have hn2 := (hx.n.mul h2).len (by omega)
 have qx := sq2_qs (b := b) hx
 have nx := sq2_nn (b := b) hx0
 have zx := rtF_zs qx nx
 have fx := Zs.floor qx
 rw [floor_nat nx] at fx
 have lx := len_nat (show (sq2 x b).floor.toNat < _ from fx)
 have l1 := hx.n.len (by omega)
 have l2 := h2.len (by omega)
 have l3 := hx.d.len (by omega)
 have hd := DivMod_ok (a := x.num * 2 ^ (2 * b)) (b := x.den) (by omega) (by omega) (den_ne x)
 rw [sq_floor b hx0] at hd
 refine En Tryz.func384 fun _ _ _ => ?_
 refine Dz rfl ?_
 refine Ar (2 * b : Nat) rfl ?_
 refine Ce rfl (power2_ok (n := 2 * b) (by omega)) ?_
 refine Ce rfl (Mul_ok (by omega) (by omega)) ?_
 refine Ce rfl hd ?_
 refine Ce rfl (Sqrt_ok (a := (sq2 x b).floor.toNat) (by omega)) ?_
 refine Dz rfl ?_
 refine Ce rfl (power2_ok (n := b) (by omega)) ?_
 refine Ce rfl (Make_ok (p := s + (2 * b + 2)) (a := (rtF (sq2 x b) : Int)) (b := 2 ^ b) zx (Zs.two (by omega)) (by omega) (two_ne b)) ?_
 exact R1 rfl (.rf rfl)
theorem roots_ok {p : Rat × Rat} (hp : Q2 s p) (hp0 : 0 ≤ p.2) (hb : b ≤ 1099511627776) (hs1 : 1 ≤ s) (hs : s ≤ 1099511627776) : C0 348 [.d (dI p), .d (.int .i64 b)] (· = .d (dI (rts p b))) := by
 have hm := mx0_qs hp.1 hs1
 have hmk := Make_ok (p := b + 1) (a := 1) (b := 2 ^ b) (Zs.one (by omega)) (Zs.two (Nat.le_refl _)) (by omega) (two_ne b)
 refine En Tryz.func348 fun _ _ _ => ?_
 refine Ce rfl (qSign_ok hp.1 (by omega)) ?_
 refine By rfl (fun h => ?_) fun h => ?_
 · have e : mx0 p.1 = 0 := if_pos (cmpI_negR.1 h)
   rw [e] at hm
   refine Ce rfl (qFromInt_ok (z := 0) (by decide)) ?_
   refine Ce rfl (FromInt_ok (z := 1) (by decide)) ?_
   refine Ce rfl (power2_ok (n := b) (by omega)) ?_
   refine Ce rfl hmk ?_
   refine Dw rfl ?_
   refine Ce rfl (floorRoot_ok (x := 0) hm Rat.le_refl hb hs) ?_
   refine Ce rfl (floorRoot_ok hp.2 hp0 hb hs) ?_
   refine Ce rfl (qAdd_ok (sqLo_qs hp.2 hp0 b) (unit_qs b) (by omega)) ?_
   exact R1 rfl (fitR (by show dq _ = dq (sqLo (mx0 p.1) b); rw [e]) rfl)
 · have e : mx0 p.1 = p.1 := if_neg (fun e => h (cmpI_negR.2 e))
   refine Ce rfl (FromInt_ok (z := 1) (by decide)) ?_
   refine Ce rfl (power2_ok (n := b) (by omega)) ?_
   refine Ce rfl hmk ?_
   refine Dw rfl ?_
   refine Ce rfl (floorRoot_ok hp.1 (by rw [← e]; exact mx0_nn _) hb hs) ?_
   refine Ce rfl (floorRoot_ok hp.2 hp0 hb hs) ?_
   refine Ce rfl (qAdd_ok (sqLo_qs hp.2 hp0 b) (unit_qs b) (by omega)) ?_
   exact R1 rfl (fitR (by show dq _ = dq (sqLo (mx0 p.1) b); rw [e]) rfl)
end
theorem enclose_ok {k : Nat} : ∀ {s b : Nat} {t : Tw k} {a : Tow.El k}, real k t → TS s k t → Sz s (toL k a) → 1 ≤ s → k ≤ 16 → eB s b k ≤ 274877906944 → b ≤ 274877906944 → C0 300 [.d (dt t), .d (de a), .d (.int .i64 b)] (· = .d (dI (enc k t a b))) := by
 induction k with
 | zero =>
  intro s b t a hR hT ha hs1 hk hs hb
  have hs : s ≤ 274877906944 := hs
  have key : ∀ y : Rat, Qs s y → C0 300 [.d (dts []), .d (dqs [y]), .d (.int .i64 b)] (· = .d (dI (y, y))) := fun y hy => by
   refine En Tryz.func300 fun _ _ _ => ?_
   refine Yes rfl rfl ?_
   refine Ix 0 rfl (u := dq y) rfl ?_
   refine Ce rfl (iPoint_ok hy (by omega)) ?_
   exact R1 rfl (.rf rfl)
  exact key a (ha.qs (List.mem_singleton.2 rfl))
 | succ k ih =>
  intro s b t a hR hT ha hs1 hk hs hb
  have hx : Sz s (toL k a.1) := Sz.left ha
  have hy : Sz s (toL k a.2) := Sz.right ha
  have hge := eB_ge s b k
  have hs' : 3 * eB s b k + 4 * b + 6 ≤ 274877906944 := hs
  have qu := enc_qs (b := b) hR.1 hT.1 hx hs1
  have qv := enc_qs (b := b) hR.1 hT.1 hy hs1
  have qr := enc_qs (b := b) hR.1 hT.1 hT.2 hs1
  have hhi := enc_hi hR b
  have qs := rts_qs (b := b) qr hhi (by omega)
  have qm := mulI_qs qv qs
  have qa := addI_qs qu qm
  have hlen := toL_length k
  have hp := p16 hk
  refine En Tryz.func300 fun _ _ _ => ?_
  refine No rfl (by show ¬ ((((toT k t.1 ++ [toL k t.2]).map dqs).length : Nat) : Int) = 0; rw [twL]; omega) ?_
  refine Ar k rfl ?_ (tw1 t (by omega))
  refine Ar (2 ^ k : Nat) rfl ?_ (hvq a (by omega))
  refine Tk k ((toT k t.1).map dqs) rfl rfl (tw_le t) (twT t) ?_
  refine Tk (2 ^ k) ((toL k a.1).map dq) rfl rfl (hv_le a) (hvT a) ?_
  refine Ce rfl (ih hR.1 hT.1 hx hs1 (by omega) (by omega) hb) ?_
  refine Dp (2 ^ k) ((toL k a.2).map dq) rfl rfl (hv_le a) (hvD a) ?_
  refine Ce rfl (tZero_ok (l := toL k a.2) hy.ps (by omega) (by rw [hlen]; have := p16 (show k ≤ 16 by omega); omega)) ?_
  refine By rfl (fun h => ?_) fun h => ?_
  · have he : enc (k + 1) t a b = enc k t.1 a.1 b := if_pos h
    exact R1 rfl (by rw [he]; exact .rf rfl)
  · have he : enc (k + 1) t a b = rnd (addI (enc k t.1 a.1 b) (mulI (enc k t.1 a.2 b) (rts (enc k t.1 t.2 b) b))) b := if_neg h
    refine Dz rfl ?_
    refine Dp (2 ^ k) ((toL k a.2).map dq) rfl rfl (hv_le a) (hvD a) ?_
    refine Ce rfl (ih hR.1 hT.1 hy hs1 (by omega) (by omega) hb) ?_
    refine Ix k rfl (twU t) ?_
    refine Ce rfl (ih hR.1 hT.1 hT.2 hs1 (by omega) (by omega) hb) ?_
    refine Dw rfl ?_
    refine Ce rfl (roots_ok qr hhi (by omega) (by omega) (by omega)) ?_
    refine Ce rfl (iMul_ok qv qs (by omega)) ?_
    refine Ce rfl (iAdd_ok qu qm (by omega)) ?_
    refine Ce rfl (round_ok qa (by omega) (by omega)) ?_
    rw [he]
    exact R1 rfl (.rf rfl)
theorem Enclose_ok {k : Nat} {t : Tw k} {a : Tow.El k} {bits P s : Nat} (hR : real k t) (hw : ∀ b, P ≤ b → Wid (enc k t a b) bits) (hT : TS s k t) (ha : Sz s (toL k a)) (hs1 : 1 ≤ s) (hk : k ≤ 16) (hv : vB s k s ≤ 4398046511104) (hb : bits ≤ 1024) (hP : P ≤ 1000000000) (he : eB s (2 * (P + bits + 16)) k ≤ 274877906944) :
 C0 223 [.d (dt t), .d (de a), .d (.int .i64 bits)] fun v => ∃ p : Rat × Rat, v = .d (dI p) ∧ inI k t a p.1 p.2 ∧ Wid p bits ∧ Q2 (eB s (2 * (P + bits + 16)) k) p := by
 have hsb : s ≤ 4398046511104 := Nat.le_trans (vB_ge k s) hv
 obtain ⟨B, hB⟩ : ∃ B, B = eB s (2 * (P + bits + 16)) k := ⟨_, rfl⟩
 rw [← hB] at he ⊢
 have hq : ∀ b, b ≤ 2 * (P + bits + 16) → Q2 B (enc k t a b) := fun b hb => (enc_qs hR hT ha hs1).mono (by rw [hB]; exact eB_mono hb k)
 refine En Tryz.func223 fun _ _ _ => ?_
 refine No rfl (by omega) ?_
 refine No rfl (by omega) ?_
 refine Ce rfl (good_ok (l := [toL k a]) (s := s) hT hR hk hv hsb (fun x hx => ⟨a, List.mem_singleton.1 hx, ha⟩) (by simp) hsb) ?_
 refine No rfl (by simp) ?_
 refine Ce rfl (FromInt_ok (z := 1) (by decide)) ?_
 refine Ce rfl (power2_ok (n := bits) (by omega)) ?_
 refine Ce rfl (Make_ok (p := bits + 1) (a := 1) (b := 2 ^ bits) (Zs.one (by omega)) (Zs.two (Nat.le_refl _)) (by omega) (two_ne bits)) ?_
 refine Ar (bits + 16 : Nat) rfl ?_
 refine Lo (fun (g : Nat) => [(0, .d (dt t)), (1, .d (de a)), (6, .ptr 6 0), (7, .ptr 7 0), (9, .d (.int .i64 g))]) (fun _ => [(6, .var (.st (.pr (.st (.pr (.st (.pr (.b false) .nil)) (.st (.pr (.b false) .nil)))) (.st (.pr (.st (.pr (.b false) .nil)) (.st (.pr (.b false) .nil))))))), (7, .var (.d (dq (Rat.divInt 1 (2 ^ bits)))))]) (fun g => 1 ≤ g ∧ g ≤ 2 * (P + bits + 16)) (fun g => 2 * (P + bits + 16) - g) (bits + 16) [] rfl ⟨by omega, by omega⟩ (fun g ⟨hg1, hg⟩ => ?_)
 have hge := hq g hg
 have heB : eB s g k ≤ 274877906944 := Nat.le_trans (eB_mono hg k) (by omega)
 refine Ce rfl (enclose_ok hR hT ha hs1 hk heB (by omega)) ?_
 refine Dw rfl ?_
 refine Ce rfl (iWidth_ok hge (by omega)) ?_
 refine Ce rfl (qCmp_ok (by rw [Rat.sub_eq_add_neg]; exact hge.2.add hge.1.neg) (unit_qs bits) (by omega)) ?_
 refine By rfl (fun h => ?_) fun h => ?_
 · exact Rt rfl (.one (.rf rfl) rfl rfl) ⟨_, rfl, enc_in hR a g, ⟨enc_le hR a g, wid_iff.1 h⟩, hge⟩
 · have hgP : g < P := by
    by_cases hgP : g < P
    · exact hgP
    · exact absurd (wid_iff.2 (hw g (by omega)).2) h
   refine Ar (2 * g : Nat) rfl ?_
   exact Bk (2 * g) [] rfl ⟨by omega, by omega⟩ (by show 2 * (P + bits + 16) - 2 * g < 2 * (P + bits + 16) - g; omega)
end
section
theorem RtOf.mg2 {r s : Rat × Rat} {b j : Nat} (R : RtOf r b s) (hr : r.2 ≤ pw (2 * j)) (h0 : 0 ≤ r.2) : 0 ≤ s.1 ∧ s.2 ≤ pw (j + 1) := by
 have h1 := sqLo_sq (b := b) h0
 have h2 := sqLo_nn (mx0 r.1) b
 rw [← R.lo] at h2
 refine ⟨h2, ?_⟩
 have h3 : sqLo r.2 b ≤ pw j := le_of_sq (Rat.le_of_lt (pw_pos j)) (Rat.le_trans h1 (by rw [← pw_dbl]; exact hr))
 have h4 := R.h
 have h5 := unit_le1 b
 have h6 := pw_ge1 j
 rw [pw_succ]
 grind
def mE (m : Nat) : Nat → Nat → Nat
 | 0, M => M
 | k + 1, M => mE m k M + (mE m k m + 1) / 2 + 2
def eE (m b : Nat) : Nat → Nat → Nat
 | 0, _ => 2 * b - 2
 | k + 1, M => min (eE m b k M) (eE m b k m / 2) - (max (mE m k M) ((mE m k m + 1) / 2) + 3)
theorem eE_le (m b : Nat) : ∀ k M, eE m b k M ≤ 2 * b - 2
 | 0, _ => Nat.le_refl _
 | k + 1, M => by have := eE_le m b k M; show min (eE m b k M) (eE m b k m / 2) - (max (mE m k M) ((mE m k m + 1) / 2) + 3) ≤ _; omega
theorem bx_rt {k : Nat} {t : Tw (k + 1)} {m b : Nat} (h : real (k + 1) t) (hr : Mg (bx k t.1 t.2 b) (mE m k m)) : 0 ≤ (rtb (bx k t.1 t.2 b) b).1 ∧ (rtb (bx k t.1 t.2 b) b).2 ≤ pw ((mE m k m + 1) / 2 + 1) :=
 (rtb_of _ b).mg2 (Rat.le_trans hr.2 (pw_mono (by omega))) (sgn_hi h (bx_in h.1 t.2 b))
theorem bx_mg2 : ∀ {k : Nat} {t : Tw k} {a : El k} {m M : Nat} (b : Nat), real k t → MgT m k t → MgL M (toL k a) → Mg (bx k t a b) (mE m k M)
 | 0, t, a, m, M, b, h, hT, ha => mg_qs (ha _ (List.mem_singleton.2 rfl))
 | k + 1, t, a, m, M, b, h, hT, ha => by
  have hu := bx_mg2 (a := a.1) (M := M) b h.1 hT.1 fun x hx => ha x (List.mem_append_left _ hx)
  have hv := bx_mg2 (a := a.2) (M := M) b h.1 hT.1 fun x hx => ha x (List.mem_append_right _ hx)
  have hr := bx_mg2 (M := m) b h.1 hT.1 hT.2
  have h0 := sgn_hi h (bx_in h.1 t.2 b)
  rw [bx_succ]
  exact step_mg2 hu hv (bx_rt h hr) (rtb_le h0 (bx_le h.1 _ _)) (bx_le h.1 _ _)
theorem bx_wd2 : ∀ {k : Nat} {t : Tw k} {a : El k} {m M b : Nat}, real k t → MgT m k t → MgL M (toL k a) → 0 < eE m b k M → Wid (bx k t a b) (eE m b k M)
 | 0, t, a, m, M, b, h, hT, ha, he => ⟨Rat.le_refl, (fun (x : Rat) => (by grind : (x - x) * pw (eE m b 0 M) ≤ 1)) a⟩
 | k + 1, t, a, m, M, b, h, hT, ha, he => by
  have he' : 0 < min (eE m b k M) (eE m b k m / 2) - (max (mE m k M) ((mE m k m + 1) / 2) + 3) := he
  have hle := eE_le m b k m
  have hu := bx_wd2 (a := a.1) (m := m) (M := M) (b := b) h.1 hT.1 (fun x hx => ha x (List.mem_append_left _ hx)) (by omega)
  have hv := bx_wd2 (a := a.2) (m := m) (M := M) (b := b) h.1 hT.1 (fun x hx => ha x (List.mem_append_right _ hx)) (by omega)
  have hr := bx_wd2 (m := m) (M := m) (b := b) h.1 hT.1 hT.2 (by omega)
  have mv := bx_mg2 (a := a.2) (M := M) b h.1 hT.1 fun x hx => ha x (List.mem_append_right _ hx)
  have mr := bx_mg2 (M := m) b h.1 hT.1 hT.2
  have ms := bx_rt h mr
  have h0 := sgn_hi h (bx_in h.1 t.2 b)
  rw [bx_succ]
  exact step_wd2 (m := max (mE m k M) ((mE m k m + 1) / 2)) (hu.mono (by omega)) (hv.mono (by omega)) hr (by omega) (mv.mono (by omega)) ⟨ms.1, Rat.le_trans ms.2 (pw_mono (by omega))⟩ h0 (rtb_of _ b) (by omega) (by omega) (by omega)
theorem bx_2048 {k : Nat} {t : Tw k} {a : El k} (h : real k t) (hT : MgT 64 k t) (ha : MgL 300 (toL k a)) (hk : k ≤ 3) : Wid (bx k t a 2048) 1 := by
 have hk : k = 0 ∨ k = 1 ∨ k = 2 ∨ k = 3 := by omega
 rcases hk with rfl | rfl | rfl | rfl
 · exact (bx_wd2 h hT ha (show 0 < eE 64 2048 0 300 by decide)).mono (by decide)
 · exact (bx_wd2 h hT ha (show 0 < eE 64 2048 1 300 by decide)).mono (by decide)
 · exact (bx_wd2 h hT ha (show 0 < eE 64 2048 2 300 by decide)).mono (by decide)
 · exact (bx_wd2 h hT ha (show 0 < eE 64 2048 3 300 by decide)).mono (by decide)
theorem enc_million {k : Nat} {t : Tw k} {a : El k} {m : Nat} (h : real k t) (hT : MgT m k t) (ha : MgL m (toL k a)) (hk : k ≤ 3) (hm : m ≤ 10000) : ∀ b, 1000000 ≤ b → Wid (enc k t a b) 1 := fun b hb => by
 have key : ∀ e, (0 < e → Wid (enc k t a b) e) → 1 ≤ e → Wid (enc k t a b) 1 := fun e h1 h2 => (h1 (by omega)).mono h2
 refine key _ (fun he => enc_wd h hT ha he) ?_
 have hk : k = 0 ∨ k = 1 ∨ k = 2 ∨ k = 3 := by omega
 rcases hk with rfl | rfl | rfl | rfl <;> simp only [eW, mW] <;> omega
end
section
theorem Zs.pow {q : Nat} {z : Int} (h : Zs q z) (n : Nat) : Zs (q * n + 1) (z ^ n) := by
 unfold Zs at *
 rw [Int.natAbs_pow]
 have h1 : z.natAbs ^ n ≤ (2 ^ q) ^ n := Nat.pow_le_pow_left (Nat.le_of_lt h) n
 rw [← Nat.pow_mul] at h1
 rw [Nat.pow_succ]
 have := Nat.two_pow_pos (q * n)
 omega
theorem Zs.len2 {q : Nat} {z : Int} (h : Zs q z) (hq : q ≤ 8000000000000) : (dig z.natAbs).length ≤ 274877906944 := by
 have h1 : z.natAbs < 4294967296 ^ (q / 32 + 1) := by
  rw [show 4294967296 = 2 ^ 32 from rfl, ← Nat.pow_mul]
  exact Nat.lt_of_lt_of_le h (Nat.pow_le_pow_right (by decide) (by omega))
 have := dig_len_le h1
 omega
theorem iSub1_ok {a : Int} (ha : (dig a.natAbs).length ≤ 549755813888) : C0 227 [.d (dz a), .d (dz 1)] (· = .d (dz (a - 1))) := by
 have h1 : (dig (Int.natAbs (-1))).length ≤ 549755813888 := Nat.le_trans (dig_len_le (n := 1) (k := 1) (by decide)) (by decide)
 have h := Add_ok (a := a) (b := -1) ha h1
 have hc : C0 303 [.d (dz a), .d (.st (.pr (.bool (!decide ((1 : Int) < 0))) (ws (dig (Int.natAbs 1)))))] (· = .d (dz (a - 1))) := h
 refine En Tryz.func227 fun _ _ _ => ?_
 refine Ce rfl hc ?_
 exact R1 rfl (.rf rfl)
theorem qFloor_ok {x : Rat} {p : Nat} (hx : Qs p x) (hp : p ≤ 4398046511104) : C0 222 [.d (dq x)] (· = .d (dz x.floor)) := by
 have h := DivMod_ok (a := x.num) (b := x.den) (Nat.le_trans (hx.n.len (by omega)) (by decide)) (Nat.le_trans (hx.d.len (by omega)) (by decide)) (den_ne x)
 have e : x.num.fdiv x.den = x.floor := by
  have := dn_floor x 0
  rw [show pw 0 = 1 from rfl, Rat.mul_one, Int.pow_zero, Int.mul_one] at this
  exact this
 rw [e] at h
 refine En Tryz.func222 fun _ _ _ => ?_
 refine Ce rfl h ?_
 exact R1 rfl (.rf rfl)
theorem iPow_ok {n : Nat} {z : Int} {q : Nat} (hz : Zs q z) (hn : n ≤ 4096) (hq : q ≤ 100000) : C0 66 [.d (dz z), .d (.int .i64 n)] (· = .tup (.pr (.d (dz (z ^ n))) (.d (.int .i64 0)))) := by
 refine En Tryz.func66 fun _ _ _ => ?_
 refine No rfl (by omega) ?_
 refine No rfl (by omega) ?_
 refine Dw rfl ?_
 refine Ce rfl (FromInt_ok (z := 1) (by decide)) ?_
 refine Ce rfl (Norm_ok (Nat.le_trans (hz.len (by omega)) (by decide))) ?_
 refine Lo (fun ((m, o, e) : Nat × Nat × Nat) => [(1, .d (.int .i64 m)), (4, .ptr 4 0), (5, .d (.int .i64 0)), (6, .ptr 6 0), (7, .ptr 7 0)]) (fun (m, o, e) => [(4, .var (.st (.pr (.b false) .nil))), (6, .var (.d (dz (z ^ o)))), (7, .var (.d (dz (z ^ e))))]) (fun (m, o, e) => o + e * m = n ∧ e ≤ max n 1 ∧ m ≤ n) (fun (m, _, _) => m) (n, 0, 1) [] rfl ⟨by omega, by omega, Nat.le_refl n⟩ ?_ (by exact ⟨rfl, by show subL _ [(4, Ob.var (AV.st (.pr (.b false) .nil))), (6, Ob.var (AV.d (dz (z ^ 0)))), (7, Ob.var (AV.d (dz (z ^ 1))))]; rw [Int.pow_zero, show z ^ 1 = z by rw [Int.pow_succ, Int.pow_zero, Int.one_mul]]; rfl, rfl, rfl, rfl⟩)
 rintro ⟨m, o, e⟩ ⟨hm, he, hmn⟩
 have hsz : ∀ j, j ≤ 4096 → (dig (z ^ j).natAbs).length ≤ 549755813888 := fun j hj => by
  have := Zs.pow hz j
  have hqj : q * j ≤ 100000 * 4096 := Nat.mul_le_mul hq hj
  exact Nat.le_trans (this.len (by omega)) (by decide)
 have ho : o ≤ 4096 := by have := Nat.zero_le (e * m); omega
 have he4 : e ≤ 4096 := by omega
 refine By rfl (fun h => ?_) fun h => ?_
 · have h : (m : Int) > 0 := h
   have hdm := Nat.div_add_mod m 2
   have hem : e * m = 2 * (e * (m / 2)) + e * (m % 2) := by
    conv => lhs; rw [← hdm, Nat.mul_add]
    rw [Nat.mul_left_comm]
   have hq2 : arB .quo .i64 (m : Int) 2 ((m / 2 : Nat) : Int) := divI (m := 2) rfl (by decide) (by omega)
   have sqr : ∀ e : Nat, z ^ e * z ^ e = z ^ (e + e) := fun e => (Int.pow_add ..).symm
   refine Ar (m % 2 : Nat) rfl ?_ (show _ ∧ _ from ⟨by decide, trem m 2⟩)
   refine By rfl (fun h1 => ?_) fun h1 => ?_
   · have h1 : m % 2 = 1 := by omega
     rw [h1, Nat.mul_one] at hem
     refine Ce rfl (Mul_ok (hsz o ho) (hsz e he4)) ?_
     rw [← Int.pow_add]
     refine Ar (m / 2 : Nat) rfl ?_ hq2
     refine By rfl (fun h2 => ?_) fun h2 => ?_
     · have he2 : e * 1 ≤ e * (m / 2) := Nat.mul_le_mul_left e (by omega)
       refine Ce rfl (Mul_ok (hsz e he4) (hsz e he4)) ?_
       rw [sqr]
       exact Bk (m / 2, o + e, e + e) [] rfl ⟨by rw [Nat.add_mul]; omega, by omega, by omega⟩ (by show m / 2 < m; omega)
     · have h20 : m / 2 = 0 := by omega
       rw [h20] at hem
       exact Bk (m / 2, o + e, e) [] rfl ⟨by rw [h20]; omega, he, by omega⟩ (by show m / 2 < m; omega)
   · have h1 : m % 2 = 0 := by omega
     rw [h1, Nat.mul_zero] at hem
     refine Ar (m / 2 : Nat) rfl ?_ hq2
     have he2 : e * 1 ≤ e * (m / 2) := Nat.mul_le_mul_left e (by omega)
     refine Yes rfl (by omega) ?_
     refine Ce rfl (Mul_ok (hsz e he4) (hsz e he4)) ?_
     rw [sqr]
     exact Bk (m / 2, o, e + e) [] rfl ⟨by rw [Nat.add_mul]; omega, by omega, by omega⟩ (by show m / 2 < m; omega)
 · have h : ¬ (m : Int) > 0 := h
   have hm0 : m = 0 := by omega
   rw [hm0, Nat.mul_zero, Nat.add_zero] at hm
   rw [hm]
   exact RTt rfl (.cons (.rf rfl) fitI)
theorem sFloor_ok {k : Nat} {t : Tw k} {a : Tow.El k} {P s : Nat} (hR : real k t) (hw : ∀ b, P ≤ b → Wid (enc k t a b) 1) (hT : TS s k t) (ha : Sz s (toL k a)) (hs1 : 1 ≤ s) (hk : k ≤ 16) (hP : P ≤ 1000000000) (he : eB s (2 * (P + 1 + 16)) k ≤ 274877906944) (hv : vB s k (s + eB s (2 * (P + 1 + 16)) k + 4) ≤ 4398046511104) :
 C0 132 [.d (dt t), .d (de a)] fun v => ∃ z, v = .d (dz z) ∧ FloorOf k t a z ∧ (dig z.natAbs).length ≤ 274877906944 := by
 have hsB := Nat.le_trans (vB_ge (r := s) k _) hv
 obtain ⟨B, hB⟩ : ∃ B, B = eB s (2 * (P + 1 + 16)) k := ⟨_, rfl⟩
 have hvs : vB s k s ≤ 4398046511104 := Nat.le_trans (vB_mono (by omega)) hv
 have hE := Enclose_ok (bits := 1) hR hw hT ha hs1 hk hvs (by decide) hP he
 rw [← hB] at he hv hsB hE
 have hB1 : 1 ≤ B := by rw [hB]; exact Nat.le_trans hs1 (eB_ge ..)
 refine En Tryz.func132 fun _ _ _ => ?_
 refine Ce rfl (good_ok (l := [toL k a]) (s := s) hT hR hk hvs (by omega) (fun x hx => ⟨a, List.mem_singleton.1 hx, ha⟩) (by simp) (by omega)) ?_
 refine No rfl (by simp) ?_
 refine Ca rfl hE fun v hv' => ?_
 obtain ⟨p, rfl, hin, hwd, hq⟩ := hv'
 have hz := Zs.floor hq.2
 have hfl := floor_hi hR hin hwd
 have hl0 := Zs.len2 (z := p.2.floor) hz (by omega)
 have hl1 := Zs.len2 (z := p.2.floor - 1) (q := B + 1) (by unfold Zs at *; rw [Nat.pow_succ]; omega) (by omega)
 have hmk := Make_ok (p := B) (a := p.2.floor) (b := 1) hz (Zs.one (by omega)) (by omega) (by decide)
 rw [divInt1] at hmk
 have qz : Qs B ((p.2.floor : Int) : Rat) := Qs.int hz (by omega)
 have hzr := Sz.rat k qz
 refine Ce rfl (qFloor_ok hq.2 (by omega)) ?_
 refine Dw rfl ?_
 refine Ce rfl (FromInt_ok (z := 1) (by decide)) ?_
 refine Ce rfl hmk ?_
 refine Ce rfl (tFromRat_ok hT hk (by omega) qz (by omega)) ?_
 refine Ce rfl (tSub_ok hT ha hzr hk (by omega) (by omega)) ?_
 refine Ce rfl (value_ok (s := s + B + 4) hT (by rw [toL_add, toL_neg]; exact (ha.add hzr.neg).mono (by omega)) hk hv (by omega)) ?_
 refine By rfl (fun h => ?_) fun h => ?_
 · refine Dw rfl ?_
   refine Ce rfl (FromInt_ok (z := 1) (by decide)) ?_
   refine Ce rfl (iSub1_ok (Nat.le_trans (hz.len (by omega)) (by decide))) ?_
   exact Rt rfl (.one (.rf rfl) rfl rfl) ⟨_, rfl, hfl.1 h, hl1⟩
 · exact Rt rfl (.one (.rf rfl) rfl rfl) ⟨_, rfl, hfl.2 h, hl0⟩
end
end Go.Proofs.YtpgcfjpkilabfaaGreatDoor
namespace Go.Proofs.YtpgcfjpkilabfaaGreatDoor.P55
open Go Go.Vm Go.Num Go.Tow Go.Proofs.YtpgcfjpkilabfaaGreatDoor
theorem idxC_ok {f : FuncId} {l : List Cv} (hl : l.length ≤ 1000) (hf : ∀ c ∈ l, C0 f [.d (dC c)] (· = .b false)) : C0 112 [.d (dCs' l), .d (fnD f)] (· = .d (.int .i64 (-1))) := by
 refine En Tryz.func112 fun _ _ _ => ?_
 refine Lo (fun k : Nat => [(0, .d (dCs' l)), (1, .d (fnD f)), (7, .d (.int .i64 (l.map dC).length)), (8, .d (.int .i64 k))]) (fun _ => []) (fun k => k ≤ l.length) (fun k => l.length - k) 0 [] rfl (Nat.zero_le _) fun k hk => ?_
 refine By rfl (fun h => ?_) fun h => ?_ <;> simp only [lC] at h
 · obtain ⟨c, hc⟩ : ∃ c, l[k]? = some c := ⟨_, List.getElem?_eq_getElem (by omega)⟩
   refine Ix k rfl (cAt hc) ?_
   refine Ce rfl (hf c (List.mem_of_getElem? hc)) ?_
   refine No rfl nofun ?_
   refine Ar (k + 1 : Nat) rfl ?_
   exact Bk (k + 1) [] rfl (by omega) (by show l.length - (k + 1) < l.length - k; omega)
 · exact R0
theorem conC_ok {f : FuncId} {l : List Cv} (hl : l.length ≤ 1000) (hf : ∀ c ∈ l, C0 f [.d (dC c)] (· = .b false)) : C0 51 [.d (dCs' l), .d (fnD f)] (· = .b false) := by
 refine En Tryz.func51 fun _ _ _ => ?_
 refine Ce rfl (idxC_ok hl hf) ?_
 exact R1 rfl (by exact (show dc ((-1 : Int) ≥ 0) = false from Bool.eq_false_iff.2 fun e => absurd (dc_iff.1 e) (by decide)) ▸ .rf rfl)
theorem right_ok {l : List Cv} {d : Int} (hd : 0 ≤ d ∧ d ≤ 20) (h0 : 0 < l.length) (hl : l.length ≤ 1000) (hv : ∀ c ∈ l, C0 53 [.d (dC c)] (· = .b true)) : C0 20 [.d (dCs' l), .d (.int .i64 d)] (· = .b true) := by
 have hr : ∀ c ∈ l, C0 52 [.d (dC c)] (· = .b false) := fun c hc => by
  refine En Tryz.func52 fun _ _ _ => ?_
  refine Ce rfl (hv c hc) ?_
  exact R1 rfl (by exact (show (!true) = false from rfl) ▸ .rf rfl)
 refine En Tryz.func20 fun _ _ _ => ?_
 refine Yes rfl (by omega) ?_
 refine Yes rfl (by omega) ?_
 refine Yes rfl (by rw [lC]; omega) ?_
 refine Ce rfl (conC_ok hl hr) ?_
 exact R0
def qb (z : Int) (d : Nat) : Rat := Rat.divInt z (10 ^ d)
abbrev Zb (z : Int) : Prop := (dig z.natAbs).length ≤ 274877906944
theorem Zb.zs {z : Int} (h : Zb z) : Zs (max (32 * (dig z.natAbs).length) 200) z := by
 have h1 : Zs (32 * (dig z.natAbs).length) z := by
  show z.natAbs < 2 ^ _
  rw [Nat.pow_mul]; exact dig_ub _
 exact h1.mono (Nat.le_max_left ..)
theorem Zb.neg {z : Int} (h : Zb z) : Zb (-z) := by unfold Zb; rw [Int.natAbs_neg]; exact h
theorem cmpI_lt {a b : Int} : cmpI a b < 0 ↔ a < b := by rcases cmpI_tri a b with ⟨g1, g2⟩ | ⟨g1, g2⟩ | ⟨g1, g2⟩ <;> omega
theorem scaled_ok {z : Int} {d : Nat} (hz : Zb z) (hd : d ≤ 20) : C0 25 [.d (dz z), .d (.int .i64 d)] (· = .d (dq (qb z d))) := by
 refine En Tryz.func25 fun _ _ _ => ?_
 refine Ce rfl (FromInt_ok (z := 10) (by decide)) ?_
 refine Ce rfl (iPow_ok (z := 10) (q := 4) (show (10 : Int).natAbs < 2 ^ 4 by decide) (by omega) (by decide)) ?_
 have h10 : Zs (max (32 * (dig z.natAbs).length) 200) (10 ^ d : Int) := by
  have h1 : (10 : Nat) ^ d ≤ 10 ^ 20 := Nat.pow_le_pow_right (by decide) hd
  have h2 : Zs 200 (10 ^ d : Int) := by
   show ((10 : Int) ^ d).natAbs < 2 ^ 200
   rw [Int.natAbs_pow]
   exact Nat.lt_of_le_of_lt h1 (by decide)
  exact h2.mono (Nat.le_max_right ..)
 have h0 : (10 ^ d : Int) ≠ 0 := by have := Int.pow_pos (n := 10) (m := d) (by decide); omega
 refine Ce rfl (Make_ok hz.zs h10 (by have hz : _ ≤ _ := hz; omega) h0) ?_
 exact R1 rfl (.rf rfl)
structure F4 where
 a : Int
 b : Int
 c : Int
 e : Int
def mn (x y : Int) : Int := if y < x then y else x
structure O4 where
 a : Option Int
 b : Option Int
 c : Option Int
 e : Option Int
def nx (o : Option Int) (f : Int) : Option Int := match o with
 | none => some f
 | some g => some (mn g f)
def O4.nx (o : O4) (f : F4) : O4 := ⟨P55.nx o.a f.a, P55.nx o.b f.b, P55.nx o.c f.c, P55.nx o.e f.e⟩
def o40 : O4 := ⟨none, none, none, none⟩
def lst (l : List F4) : O4 := l.foldl O4.nx o40
def f40 (f : F4) : O4 := ⟨some f.a, some f.b, some f.c, some f.e⟩
theorem lst_snoc (l : List F4) (f : F4) : lst (l ++ [f]) = (lst l).nx f := by simp [lst]
abbrev zIA : AV := .st (.pr (.b false) .nil)
def ent : Option Int → AV
 | none => zIA
 | some z => .d (dz z)
def arA : O4 → AV
 | ⟨some a, some b, some c, some e⟩ => .d (.st (.pr (dz a) (.pr (dz b) (.pr (dz c) (dz e)))))
 | o => .st (.pr (ent o.a) (.pr (ent o.b) (.pr (ent o.c) (ent o.e))))
abbrev zRA : AV := .st (.pr zIA zIA)
abbrev zBA : AV := .st (.pr zRA (.pr zRA (.pr zRA zRA)))
structure PtF (d : Int) (p : Vn) (f : F4) : Prop where
 n : ∃ x y, C0 22 [.d (dN p.x)] (· = .d (dN x)) ∧ C0 22 [.d (dN p.y)] (· = .d (dN y)) ∧ C0 23 [.d (dN x), .d (.int .i64 d)] (· = .tup (.pr (.d (dz f.c)) (.d (.int .i64 0)))) ∧ C0 23 [.d (dN y), .d (.int .i64 d)] (· = .tup (.pr (.d (dz f.e)) (.d (.int .i64 0))))
 x : C0 23 [.d (dN p.x), .d (.int .i64 d)] (· = .tup (.pr (.d (dz f.a)) (.d (.int .i64 0))))
 y : C0 23 [.d (dN p.y), .d (.int .i64 d)] (· = .tup (.pr (.d (dz f.b)) (.d (.int .i64 0))))
 z : Zb f.a ∧ Zb f.b ∧ Zb f.c ∧ Zb f.e
def CuF (d : Int) (c : Cv) (fs : List F4) : Prop := ∃ P : List Vn, C0 21 [.d (dC c)] (· = .tup (.pr (.d (dVs P)) (.d (.int .i64 0)))) ∧ P.length = fs.length ∧ P.length ≤ 100 ∧ ∀ (i : Nat) p f, P[i]? = some p → fs[i]? = some f → PtF d p f
theorem iCmp_b {a b : Int} (ha : Zb a) (hb : Zb b) : C0 24 [.d (dz a), .d (dz b)] (· = .d (.int .i64 (cmpI a b))) := Cmp_ok (Nat.le_trans ha (by decide)) (Nat.le_trans hb (by decide))
def boxQ (o : F4) (d : Nat) : D := .st (.pr (dq (qb o.a d)) (.pr (dq (qb o.b d)) (.pr (dq (qb (-o.c) d)) (dq (qb (-o.e) d)))))
def ofO : Option F4 → O4
 | none => o40
 | some g => f40 g
def nxF (o : Option F4) (f : F4) : F4 := match o with
 | none => f
 | some g => ⟨mn g.a f.a, mn g.b f.b, mn g.c f.c, mn g.e f.e⟩
theorem ofO_nx {o : Option F4} {f : F4} : (ofO o).nx f = f40 (nxF o f) := by cases o <;> rfl
def BdZ (f : F4) : Prop := Zb f.a ∧ Zb f.b ∧ Zb f.c ∧ Zb f.e
theorem mn_zb {x y : Int} (hx : Zb x) (hy : Zb y) : Zb (mn x y) := by unfold mn; split <;> assumption
theorem BdZ.nx {o : Option F4} {f : F4} (ho : ∀ g, o = some g → BdZ g) (hf : BdZ f) : BdZ (nxF o f) := by
 cases o with
 | none => exact hf
 | some g =>
  have hg := ho g rfl
  exact ⟨mn_zb hg.1 hf.1, mn_zb hg.2.1 hf.2.1, mn_zb hg.2.2.1 hf.2.2.1, mn_zb hg.2.2.2 hf.2.2.2⟩
def part (o : O4) (f : F4) : Nat → O4
 | 0 => o
 | 1 => ⟨nx o.a f.a, o.b, o.c, o.e⟩
 | 2 => ⟨nx o.a f.a, nx o.b f.b, o.c, o.e⟩
 | 3 => ⟨nx o.a f.a, nx o.b f.b, nx o.c f.c, o.e⟩
 | _ => o.nx f
theorem mn_lt {x y : Int} (h : y < x) : mn x y = y := if_pos h
theorem mn_ge {x y : Int} (h : ¬ y < x) : mn x y = x := if_neg h
theorem Bounds_ok {l : List Cv} {Fs : List (List F4)} {d : Nat} {o : F4} (hd : d ≤ 20) (h0 : 0 < l.length) (hl : l.length ≤ 1000) (hv : ∀ c ∈ l, C0 53 [.d (dC c)] (· = .b true)) (hF : Fs.length = l.length) (hC : ∀ (i : Nat) c fs, l[i]? = some c → Fs[i]? = some fs → CuF d c fs) (ho : lst Fs.flatten = f40 o) :
 C0 7 [.d (dCs' l), .d (.int .i64 d)] (· = .tup (.pr (.d (boxQ o d)) (.d (.int .i64 0)))) := by
 refine En Tryz.func7 fun _ _ _ => ?_
 refine Ce rfl (right_ok (by omega) h0 hl hv) ?_
 refine No rfl (fun h => h rfl) ?_
 refine Lo (fun ((k, o) : Nat × Option F4) => [(1, .d (.int .i64 d)), (4, .ptr 4 0), (6, .ptr 6 0), (7, .b o.isNone), (23, .d (dCs' l)), (24, .d (.int .i64 (l.map dC).length)), (25, .d (.int .i64 k))]) (fun (_, o) => [(4, .var zBA), (6, .var (arA (ofO o)))]) (fun (k, o) => k ≤ l.length ∧ lst (Fs.take k).flatten = ofO o ∧ ∀ g, o = some g → BdZ g) (fun (k, _) => l.length - k) (0, none) [] rfl ⟨Nat.zero_le _, rfl, nofun⟩ ?_
 rintro ⟨k, o1⟩ ⟨hk, ho1, hz1⟩
 have ho1 : lst (Fs.take k).flatten = ofO o1 := ho1
 refine By rfl (fun h => ?_) fun h => ?_
 · have h : (k : Int) < ((l.map dC).length : Nat) := h
   rw [lC] at h
   obtain ⟨c, hc⟩ : ∃ c, l[k]? = some c := ⟨_, List.getElem?_eq_getElem (by omega)⟩
   obtain ⟨fs, hfs⟩ : ∃ fs, Fs[k]? = some fs := ⟨_, List.getElem?_eq_getElem (by omega)⟩
   obtain ⟨P, hP, hPl, hP1, hPf⟩ := hC k c fs hc hfs
   have hnext : (Fs.take (k + 1)).flatten = (Fs.take k).flatten ++ fs := by rw [List.take_add_one, hfs]; simp
   refine Ix k rfl (cAt hc) ?_
   refine Ce rfl hP ?_
   refine No rfl (by decide) ?_
   refine Lo (fun ((j, o) : Nat × Option F4) => [(1, .d (.int .i64 d)), (4, .ptr 4 0), (6, .ptr 6 0), (7, .b o.isNone), (23, .d (dCs' l)), (24, .d (.int .i64 (l.map dC).length)), (25, .d (.int .i64 k)), (38, .d (dVs P)), (39, .d (.int .i64 (P.map dV).length)), (40, .d (.int .i64 j))]) (fun (_, o) => [(4, .var zBA), (6, .var (arA (ofO o)))]) (fun (j, o) => j ≤ fs.length ∧ lst ((Fs.take k).flatten ++ fs.take j) = ofO o ∧ ∀ g, o = some g → BdZ g) (fun (j, _) => fs.length - j) (0, o1) [] rfl ⟨Nat.zero_le _, by simpa using ho1, hz1⟩ ?_ (by exact ⟨rfl, rfl, by cases o1 <;> rfl, rfl, rfl⟩)
   rintro ⟨j, o2⟩ ⟨hj, ho2, hz2⟩
   have ho2 : lst ((Fs.take k).flatten ++ fs.take j) = ofO o2 := ho2
   refine By rfl (fun h => ?_) fun h => ?_
   · have h : (j : Int) < ((P.map dV).length : Nat) := h
     rw [List.length_map] at h
     obtain ⟨p, hp⟩ : ∃ p, P[j]? = some p := ⟨_, List.getElem?_eq_getElem (by omega)⟩
     obtain ⟨f, hf⟩ : ∃ f, fs[j]? = some f := ⟨_, List.getElem?_eq_getElem (by omega)⟩
     obtain ⟨⟨x', y', n1, n2, n3, n4⟩, m1, m2, m3⟩ := hPf j p f hp hf
     have hst : lst ((Fs.take k).flatten ++ fs.take (j + 1)) = ofO (some (nxF o2 f)) := by
      rw [List.take_add_one, hf, ← List.append_assoc, Option.toList_some, lst_snoc, ho2]; exact ofO_nx
     refine Ix j rfl (u := dV p) (by rw [List.getElem?_map, hp]; rfl) ?_
     refine Dw rfl ?_
     refine Ce rfl n1 ?_
     refine Ce rfl n2 ?_
     refine Lo (fun ((i, _) : Nat × O4) => [(1, .d (.int .i64 d)), (4, .ptr 4 0), (6, .ptr 6 0), (7, .b o2.isNone), (23, .d (dCs' l)), (24, .d (.int .i64 (l.map dC).length)), (25, .d (.int .i64 k)), (38, .d (dVs P)), (39, .d (.int .i64 (P.map dV).length)), (40, .d (.int .i64 j)), (54, .lit 2 [dN p.x, dN p.y, dN x', dN y']), (55, .d (.int .i64 4)), (56, .d (.int .i64 i))]) (fun (_, c) => [(4, .var zBA), (6, .var (arA c))]) (fun (i, c) => i ≤ 4 ∧ c = part (ofO o2) f i) (fun (i, _) => 4 - i) (0, ofO o2) [] rfl ⟨by decide, rfl⟩ ?_ (by exact ⟨rfl, rfl, by cases o2 <;> rfl, rfl, rfl⟩)
     rintro ⟨i, c4⟩ ⟨hi, hc4⟩
     have hc4 : c4 = part (ofO o2) f i := hc4
     have hi : i = 0 ∨ i = 1 ∨ i = 2 ∨ i = 3 ∨ i = 4 := by have hi : i ≤ 4 := hi; omega
     rcases hi with rfl | rfl | rfl | rfl | rfl
     · obtain rfl : c4 = part (ofO o2) f 0 := hc4
       refine Yes rfl (by decide) ?_
       refine Ix 0 rfl (u := dN p.x) rfl ?_
       refine Ce rfl m1 ?_
       refine No rfl (by decide) ?_
       cases o2 with
       | none =>
        refine Dw rfl ?_
        refine Yes rfl rfl ?_
        refine Ia 0 rfl (by decide) ?_
        refine Ar (0 + 1 : Nat) rfl ?_
        exact Bk (0 + 1, part (ofO none) f (0 + 1)) [] rfl ⟨by decide, rfl⟩ (by show 4 - (0 + 1) < 4 - 0; decide)
       | some g =>
        refine Dw rfl ?_
        refine No rfl nofun ?_
        refine Ia 0 rfl (by decide) ?_
        refine Ce rfl (iCmp_b (a := f.a) (b := g.a) m3.1 (hz2 g rfl).1) ?_
        refine By rfl (fun h1 => ?_) fun h1 => ?_
        · have h1 : f.a < g.a := cmpI_lt.1 h1
          refine Ia 0 rfl (by decide) ?_
          refine Ar (0 + 1 : Nat) rfl ?_
          exact Bk (0 + 1, ⟨some f.a, (ofO (some g)).b, (ofO (some g)).c, (ofO (some g)).e⟩) [] rfl ⟨by decide, by show _ = part (f40 g) f 1; simp [part, ofO, f40, nx, O4.nx, mn_lt h1]⟩ (by show 4 - (0 + 1) < 4 - 0; decide)
        · have h1 : ¬ f.a < g.a := fun e => h1 (cmpI_lt.2 e)
          refine Ar (0 + 1 : Nat) rfl ?_
          exact Bk (0 + 1, part (ofO (some g)) f 0) [] rfl ⟨by decide, by show _ = part (f40 g) f 1; simp [part, ofO, f40, nx, O4.nx, mn_ge h1]⟩ (by show 4 - (0 + 1) < 4 - 0; decide)
     · obtain rfl : c4 = part (ofO o2) f 1 := hc4
       refine Yes rfl (by decide) ?_
       refine Ix 1 rfl (u := dN p.y) rfl ?_
       refine Ce rfl m2 ?_
       refine No rfl (by decide) ?_
       cases o2 with
       | none =>
        refine Dw rfl ?_
        refine Yes rfl rfl ?_
        refine Ia 1 rfl (by decide) ?_
        refine Ar (1 + 1 : Nat) rfl ?_
        exact Bk (1 + 1, part (ofO none) f (1 + 1)) [] rfl ⟨by decide, rfl⟩ (by show 4 - (1 + 1) < 4 - 1; decide)
       | some g =>
        refine Dw rfl ?_
        refine No rfl nofun ?_
        refine Ia 1 rfl (by decide) ?_
        refine Ce rfl (iCmp_b (a := f.b) (b := g.b) m3.2.1 (hz2 g rfl).2.1) ?_
        refine By rfl (fun h1 => ?_) fun h1 => ?_
        · have h1 : f.b < g.b := cmpI_lt.1 h1
          refine Ia 1 rfl (by decide) ?_
          refine Ar (1 + 1 : Nat) rfl ?_
          exact Bk (1 + 1, ⟨nx (ofO (some g)).a f.a, some f.b, (ofO (some g)).c, (ofO (some g)).e⟩) [] rfl ⟨by decide, by show _ = part (f40 g) f 2; simp [part, ofO, f40, nx, O4.nx, mn_lt h1]⟩ (by show 4 - (1 + 1) < 4 - 1; decide)
        · have h1 : ¬ f.b < g.b := fun e => h1 (cmpI_lt.2 e)
          refine Ar (1 + 1 : Nat) rfl ?_
          exact Bk (1 + 1, part (ofO (some g)) f 1) [] rfl ⟨by decide, by show _ = part (f40 g) f 2; simp [part, ofO, f40, nx, O4.nx, mn_ge h1]⟩ (by show 4 - (1 + 1) < 4 - 1; decide)
     · obtain rfl : c4 = part (ofO o2) f 2 := hc4
       refine Yes rfl (by decide) ?_
       refine Ix 2 rfl (u := dN x') rfl ?_
       refine Ce rfl n3 ?_
       refine No rfl (by decide) ?_
       cases o2 with
       | none =>
        refine Dw rfl ?_
        refine Yes rfl rfl ?_
        refine Ia 2 rfl (by decide) ?_
        refine Ar (2 + 1 : Nat) rfl ?_
        exact Bk (2 + 1, part (ofO none) f (2 + 1)) [] rfl ⟨by decide, rfl⟩ (by show 4 - (2 + 1) < 4 - 2; decide)
       | some g =>
        refine Dw rfl ?_
        refine No rfl nofun ?_
        refine Ia 2 rfl (by decide) ?_
        refine Ce rfl (iCmp_b (a := f.c) (b := g.c) m3.2.2.1 (hz2 g rfl).2.2.1) ?_
        refine By rfl (fun h1 => ?_) fun h1 => ?_
        · have h1 : f.c < g.c := cmpI_lt.1 h1
          refine Ia 2 rfl (by decide) ?_
          refine Ar (2 + 1 : Nat) rfl ?_
          exact Bk (2 + 1, ⟨nx (ofO (some g)).a f.a, nx (ofO (some g)).b f.b, some f.c, (ofO (some g)).e⟩) [] rfl ⟨by decide, by show _ = part (f40 g) f 3; simp [part, ofO, f40, nx, O4.nx, mn_lt h1]⟩ (by show 4 - (2 + 1) < 4 - 2; decide)
        · have h1 : ¬ f.c < g.c := fun e => h1 (cmpI_lt.2 e)
          refine Ar (2 + 1 : Nat) rfl ?_
          exact Bk (2 + 1, part (ofO (some g)) f 2) [] rfl ⟨by decide, by show _ = part (f40 g) f 3; simp [part, ofO, f40, nx, O4.nx, mn_ge h1]⟩ (by show 4 - (2 + 1) < 4 - 2; decide)
     · obtain rfl : c4 = part (ofO o2) f 3 := hc4
       refine Yes rfl (by decide) ?_
       refine Ix 3 rfl (u := dN y') rfl ?_
       refine Ce rfl n4 ?_
       refine No rfl (by decide) ?_
       cases o2 with
       | none =>
        refine Dw rfl ?_
        refine Yes rfl rfl ?_
        refine Ia 3 rfl (by decide) ?_
        refine Ar (3 + 1 : Nat) rfl ?_
        exact Bk (3 + 1, part (ofO none) f (3 + 1)) [] rfl ⟨by decide, rfl⟩ (by show 4 - (3 + 1) < 4 - 3; decide)
       | some g =>
        refine Dw rfl ?_
        refine No rfl nofun ?_
        refine Ia 3 rfl (by decide) ?_
        refine Ce rfl (iCmp_b (a := f.e) (b := g.e) m3.2.2.2 (hz2 g rfl).2.2.2) ?_
        refine By rfl (fun h1 => ?_) fun h1 => ?_
        · have h1 : f.e < g.e := cmpI_lt.1 h1
          refine Ia 3 rfl (by decide) ?_
          refine Ar (3 + 1 : Nat) rfl ?_
          exact Bk (3 + 1, ⟨nx (ofO (some g)).a f.a, nx (ofO (some g)).b f.b, nx (ofO (some g)).c f.c, some f.e⟩) [] rfl ⟨by decide, by show _ = part (f40 g) f 4; simp [part, ofO, f40, nx, O4.nx, mn_lt h1]⟩ (by show 4 - (3 + 1) < 4 - 3; decide)
        · have h1 : ¬ f.e < g.e := fun e => h1 (cmpI_lt.2 e)
          refine Ar (3 + 1 : Nat) rfl ?_
          exact Bk (3 + 1, part (ofO (some g)) f 3) [] rfl ⟨by decide, by show _ = part (f40 g) f 4; simp [part, ofO, f40, nx, O4.nx, mn_ge h1]⟩ (by show 4 - (3 + 1) < 4 - 3; decide)
     · obtain rfl : c4 = (ofO o2).nx f := hc4
       refine No rfl (by decide) ?_
       refine Ar (j + 1 : Nat) rfl ?_
       exact Bk (j + 1, some (nxF o2 f)) [] rfl ⟨by omega, hst, fun g hg => by cases hg; exact BdZ.nx hz2 m3⟩ (by show fs.length - (j + 1) < fs.length - j; omega) (by exact ⟨rfl, by rw [ofO_nx]; rfl, rfl, rfl, rfl⟩)
   · have h : ¬ (j : Int) < ((P.map dV).length : Nat) := h
     rw [List.length_map] at h
     have hjf : fs.take j = fs := List.take_of_length_le (by omega)
     refine Ar (k + 1 : Nat) rfl ?_
     exact Bk (k + 1, o2) [] rfl ⟨by omega, by rw [hnext, ← hjf]; exact ho2, hz2⟩ (by show l.length - (k + 1) < l.length - k; omega) (by exact ⟨rfl, rfl, by cases o2 <;> rfl, rfl, rfl⟩)
 · have h : ¬ (k : Int) < ((l.map dC).length : Nat) := h
   rw [lC] at h
   rw [List.take_of_length_le (by omega), ho] at ho1
   cases o1 with
   | none => cases ho1
   | some g =>
    have hg : f40 o = f40 g := ho1
    obtain rfl : o = g := by cases o; cases g; simp only [f40, O4.mk.injEq, Option.some.injEq] at hg; obtain ⟨rfl, rfl, rfl, rfl⟩ := hg; rfl
    obtain ⟨z1, z2, z3, z4⟩ := hz1 o rfl
    refine Dw rfl ?_
    refine Ia 0 rfl (by decide) ?_
    refine Ce rfl (scaled_ok z1 hd) ?_
    refine Ia 1 rfl (by decide) ?_
    refine Ce rfl (scaled_ok z2 hd) ?_
    refine Ia 2 rfl (by decide) ?_
    refine Ce rfl (Neg_ok (z := o.c) (Nat.le_trans z3 (by decide))) ?_
    refine Ce rfl (scaled_ok z3.neg hd) ?_
    refine Ia 3 rfl (by decide) ?_
    refine Ce rfl (Neg_ok (z := o.e) (Nat.le_trans z4 (by decide))) ?_
    refine Ce rfl (scaled_ok z4.neg hd) ?_
    exact R0t
end Go.Proofs.YtpgcfjpkilabfaaGreatDoor.P55
namespace Go.Proofs.YtpgcfjpkilabfaaGreatDoor.P9
open Go Go.Vm Go.Num Go.Tow Go.Proofs.YtpgcfjpkilabfaaGreatDoor
abbrev nq (q : Rat) : Nm := ⟨0, (), q⟩
theorem lf_rat {k : Nat} {q : Rat} : Lf (k := 0) (m := k) q (rat k q) := by
 show toL k (rat k q) = [q] ++ _
 rw [toL_rat]; rfl
section
variable {r p s : Nat} {x : Nm} {q : Rat}
theorem common_r (hr : TS r x.k x.t) (hk : x.k ≤ 8) (hr2 : r ≤ 4000000000) : C0 275 [.d (dNs [x, nq q])] (· = .tup (.pr (.d (dt x.t)) (.d (.int .i64 0)))) := by
 refine En Tryz.func275 fun _ _ _ => ?_
 refine Nd 4 1 rfl ?_
 refine Lo (fun (s : Nat × (Σ m, Tw m)) => [(2, .nil), (3, .d (.int .i64 0)), (4, .d (dt s.2.2)), (9, .d (dNs [x, nq q])), (10, .d (.int .i64 2)), (11, .d (.int .i64 s.1))]) (fun _ => []) (fun s => (s.1 = 0 ∧ s.2 = ⟨0, ()⟩) ∨ (s.1 = 1 ∧ s.2 = ⟨x.k, x.t⟩) ∨ (s.1 = 2 ∧ s.2 = ⟨x.k, x.t⟩)) (fun s => 2 - s.1) (0, ⟨0, ()⟩) [] rfl (.inl ⟨rfl, rfl⟩) (fun (i, ⟨m, T⟩) hI => ?_)
 simp only at hI
 rcases hI with ⟨rfl, e⟩ | ⟨rfl, e⟩ | ⟨rfl, e⟩
 · cases e
   refine Yes rfl (show ((0 : Nat) : Int) < 2 by decide) ?_
   refine Ix 0 rfl (u := dN x) rfl ?_
   refine Ce rfl (begins_ok (T := []) (U := toT x.k x.t) (p := 1) (fun i r h => by simp at h) (TS.pt hr) (by omega) (by decide)) ?_
   refine By rfl (fun h => ?_) fun h => ?_
   · obtain ⟨kx, tx, ax⟩ := x
     have h : [] = toT kx tx := by simpa using h
     obtain rfl : kx = 0 := by have := congrArg List.length h; rw [toT_length] at this; exact this.symm
     refine Ar (0 + 1 : Nat) rfl ?_
     exact Bk (1, ⟨0, tx⟩) [] rfl (.inr (.inl ⟨rfl, rfl⟩)) (show 1 < 2 by decide)
   · refine Ce rfl (begins_ok (U := []) (q := 1) (TS.pt hr) (fun i r h => by simp at h) (by omega) (by rw [toT_length]; omega)) ?_
     refine Yes rfl (by simp) ?_
     refine Ar (0 + 1 : Nat) rfl ?_
     exact Bk (1, ⟨x.k, x.t⟩) [] rfl (.inr (.inl ⟨rfl, rfl⟩)) (show 1 < 2 by decide)
 · cases e
   refine Yes rfl (show ((1 : Nat) : Int) < 2 by decide) ?_
   refine Ix 1 rfl (u := dN (nq q)) rfl ?_
   refine Ce rfl (begins_ok (T := toT x.k x.t) (U := []) (q := 1) (TS.pt hr) (fun i r h => by simp at h) (by omega) (by rw [toT_length]; omega)) ?_
   refine Yes rfl (by simp) ?_
   refine Ar (1 + 1 : Nat) rfl ?_
   exact Bk (2, ⟨x.k, x.t⟩) [] rfl (.inr (.inr ⟨rfl, rfl⟩)) (show 0 < 1 by decide)
 · cases e
   refine No rfl (show ¬ ((2 : Nat) : Int) < 2 by decide) ?_
   exact R0t
theorem Join_r (hr : TS r x.k x.t) (hp : Sz p (toL x.k x.a)) (hq : Qs s q) (hk : x.k ≤ 8) (hr2 : r ≤ 4000000000) (hp2 : p ≤ 4000000000) (hs2 : s < 4000000000) : C0 197 [.d (dNs [x, nq q])] (· = .tup (.pr (.d (dNs [x, ⟨x.k, x.t, rat x.k q⟩])) (.d (.int .i64 0)))) := by
 have hc := common_r (q := q) hr hk hr2
 refine En Tryz.func197 fun _ _ _ => ?_
 refine Ce rfl hc ?_
 refine No rfl (by decide) ?_
 refine Nl 6 6 2 rfl ?_
 refine Lo (fun (j : Nat) => [(2, .nil), (3, .d (.int .i64 0)), (4, .d (dt x.t)), (6, .gr 6 2 (([x, ⟨x.k, x.t, rat x.k q⟩].take j).map dN)), (20, .d (dNs [x, nq q])), (21, .d (.int .i64 2)), (22, .d (.int .i64 j))]) (fun j => [(6, .tok (([x, ⟨x.k, x.t, rat x.k q⟩].take j).map dN).length 2)])
  (fun j => j ≤ 2) (fun j => 2 - j) 0 [] rfl (Nat.zero_le _) (fun j hj => ?_)
 have hj : j = 0 ∨ j = 1 ∨ j = 2 := by omega
 rcases hj with rfl | rfl | rfl
 · refine Yes rfl (show ((0 : Nat) : Int) < 2 by decide) ?_
   refine Ix 0 rfl (u := dN x) rfl ?_
   refine Ce rfl (begins_ok (T := toT x.k x.t) (U := toT x.k x.t) (TS.pt hr) (TS.pt hr) (by omega) (by rw [toT_length]; omega)) ?_
   refine Yes rfl (List.take_length ..) ?_
   refine Ce rfl (pad_el (T := x.t) (Lf.rfl' x.a) (Nat.le_refl _) (by omega)) ?_
   refine Ce rfl (detach_ok (x := x) hr hp (by omega) (by omega) (by omega)) ?_
   refine ApG ([x].map dN) rfl (by simp) (by simp) ?_
   refine Ar (0 + 1 : Nat) rfl ?_
   exact Bk 1 [(6, 90), (56, 6)] rfl (show 1 ≤ 2 by decide) (show 2 - 1 < 2 - 0 by decide)
 · refine Yes rfl (show ((1 : Nat) : Int) < 2 by decide) ?_
   refine Ix 1 rfl (u := dN (nq q)) rfl ?_
   refine Ce rfl (begins_ok (T := toT x.k x.t) (U := []) (q := 1) (TS.pt hr) (fun i r h => by simp at h) (by omega) (by rw [toT_length]; omega)) ?_
   refine Yes rfl (by simp) ?_
   refine Ce rfl (pad_el (k := 0) (T := x.t) (lf_rat (q := q)) (Nat.zero_le _) (by omega)) ?_
   refine Ce rfl (detach_ok (x := ⟨x.k, x.t, rat x.k q⟩) hr (Sz.rat x.k hq) (show _ ≤ 16 from by show x.k ≤ 16; omega) (by omega) (by omega)) ?_
   refine ApG ([x, ⟨x.k, x.t, rat x.k q⟩].map dN) rfl (by simp) (by simp) ?_
   refine Ar (1 + 1 : Nat) rfl ?_
   exact Bk 2 [(6, 90), (56, 6)] rfl (show 2 ≤ 2 by decide) (show 2 - 2 < 2 - 1 by decide)
 · refine No rfl (show ¬ ((2 : Nat) : Int) < 2 by decide) ?_
   exact RTt rfl (.cons (.gr rfl) fitI)
theorem combine_r {f : FuncId} {z : Tow.El x.k} (hf : C0 f [.d (dt x.t), .d (de x.a), .d (de (rat x.k q))] (· = .d (de z))) (hr : TS r x.k x.t) (hp : Sz p (toL x.k x.a)) (hq : Qs s q) (hk : x.k ≤ 8) (hr2 : r ≤ 4000000000) (hp2 : p ≤ 4000000000) (hs2 : s < 4000000000) : C0 204 [.d (dN x), .d (dN (nq q)), .d (fnD f)] (· = .tup (.pr (.d (dN ⟨x.k, x.t, z⟩)) (.d (.int .i64 0)))) := by
 refine En Tryz.func204 fun _ _ _ => ?_
 refine Ce rfl (Join_r hr hp hq hk hr2 hp2 hs2) ?_
 refine No rfl (by simp) ?_
 refine Ix 0 rfl (u := dN x) rfl ?_
 refine Dw rfl ?_
 refine Ix 0 rfl (u := dN x) rfl ?_
 refine Ix 1 rfl (u := dN ⟨x.k, x.t, rat x.k q⟩) rfl ?_
 refine Ce rfl hf ?_
 exact RTt rfl (.cons (.rf rfl) fitI)
theorem Add_r (hr : TS r x.k x.t) (hp : Sz p (toL x.k x.a)) (hq : Qs s q) (hk : x.k ≤ 8) (hr2 : r ≤ 4000000000) (hp2 : p ≤ 2000000000) (hs2 : s < 2000000000) : C0 118 [.d (dN x), .d (dN (nq q))] (· = .tup (.pr (.d (dN ⟨x.k, x.t, Tow.add x.k x.a (rat x.k q)⟩)) (.d (.int .i64 0)))) := by
 refine En Tryz.func118 fun _ _ _ => ?_
 refine Ce rfl (combine_r (tAdd_ok hr hp (Sz.rat x.k hq) (by omega) (by omega) (by omega)) hr hp hq hk hr2 (by omega) (by omega)) ?_
 exact R0t
theorem Mul_r (hr : TS r x.k x.t) (hp : Sz p (toL x.k x.a)) (hq : Qs s q) (hk : x.k ≤ 8) (hr2 : r ≤ 4000000000) (hp2 : p ≤ 2000000000) (hs2 : s < 2000000000) (hc : cB r x.k ≤ 1000000000) : C0 129 [.d (dN x), .d (dN (nq q))] (· = .tup (.pr (.d (dN ⟨x.k, x.t, Tow.mul x.k x.t x.a (rat x.k q)⟩)) (.d (.int .i64 0)))) := by
 refine En Tryz.func129 fun _ _ _ => ?_
 refine Ce rfl (combine_r (tMul_ok hr hp (Sz.rat x.k hq) (by omega) (by omega) (by omega)) hr hp hq hk hr2 (by omega) (by omega)) ?_
 exact R0t
end
end Go.Proofs.YtpgcfjpkilabfaaGreatDoor.P9
namespace Go.Num
def isD (b : UInt8) : Bool := decide (48 ≤ b.toNat) && decide (b.toNat ≤ 57)
theorem isD_iff {b : UInt8} : isD b = true ↔ isDg b := by simp [isD, isDg]
def z0 (l : List UInt8) : Bool := l.all (· == 48)
def fr (ng : Bool) (a b : List UInt8) : Rat := if ng then -(((dval (a ++ b) : Int) : Rat) / ((10 ^ b.length : Int) : Rat)) else ((dval (a ++ b) : Int) : Rat) / ((10 ^ b.length : Int) : Rat)
end Go.Num
namespace Go.Proofs.YtpgcfjpkilabfaaGreatDoor
open Go Go.Vm Go.Num
end Go.Proofs.YtpgcfjpkilabfaaGreatDoor
namespace Go.Num
open Go.Proofs.YtpgcfjpkilabfaaGreatDoor
section
end
section
theorem pad_snoc {k m d : Nat} (hd : d < 10) (hm : m < 10 ^ (k + 1)) : pad k (dec m) ++ [UInt8.ofNat (48 + d)] = pad (k + 1) (dec (10 * m + d)) := by
 by_cases h0 : m = 0
 · subst h0
   rw [show 10 * 0 + d = d by omega, dec_lt hd, dec_lt (show 0 < 10 by decide)]
   show List.replicate (k + 1 - 1) 48 ++ [UInt8.ofNat (48 + 0)] ++ [UInt8.ofNat (48 + d)] = List.replicate (k + 1 + 1 - 1) 48 ++ [UInt8.ofNat (48 + d)]
   rw [show k + 1 + 1 - 1 = k + 1 - 1 + 1 by omega, List.replicate_succ']
   rfl
 · have e : dec (10 * m + d) = dec m ++ [UInt8.ofNat (48 + d)] := by
    rw [dec_ge (show 10 ≤ 10 * m + d by omega), show (10 * m + d) / 10 = m by omega, show (10 * m + d) % 10 = d by omega]
   rw [e]
   unfold pad
   rw [List.length_append, List.length_singleton, show k + 1 + 1 - ((dec m).length + 1) = k + 1 - (dec m).length by omega, List.append_assoc]
theorem dec_pad : ∀ (k n : Nat), 10 ^ (k + 1) ≤ n → dec n = dec (n / 10 ^ (k + 1)) ++ pad k (dec (n % 10 ^ (k + 1)))
 | 0, n, h => by
  have h : 10 ≤ n := h
  rw [dec_ge h]
  show _ = dec (n / 10) ++ pad 0 (dec (n % 10))
  rw [dec_lt (n := n % 10) (Nat.mod_lt _ (by decide))]
  rfl
 | k + 1, n, h => by
  have e1 : 10 ^ (k + 1 + 1) = 10 * 10 ^ (k + 1) := by rw [Nat.pow_succ]; omega
  have hp : 0 < 10 ^ (k + 1) := Nat.pow_pos (by decide)
  have h10 : 10 ≤ n := by omega
  have ih := dec_pad k (n / 10) (by rw [Nat.le_div_iff_mul_le (by decide)]; omega)
  have hm : n / 10 % 10 ^ (k + 1) < 10 ^ (k + 1) := Nat.mod_lt _ hp
  rw [dec_ge h10, ih, List.append_assoc, pad_snoc (Nat.mod_lt _ (by decide)) hm, Nat.div_div_eq_div_mul, ← e1]
  congr 3
  have := Nat.mod_mul (a := 10) (b := 10 ^ (k + 1)) (x := n)
  rw [e1, this]; omega
def cks (n : Nat) : List Nat := if h : n = 0 then [] else n % 1000000000 :: cks (n / 1000000000)
termination_by n
decreasing_by omega
theorem cks_zero : cks 0 = [] := by rw [cks, dif_pos rfl]
theorem cks_pos {n : Nat} (h : n ≠ 0) : cks n = n % 1000000000 :: cks (n / 1000000000) := by rw [cks, dif_neg h]
theorem cks_lt : ∀ (n c : Nat), c ∈ cks n → c < 1000000000 := fun n => by
 induction n using Nat.strongRecOn with
 | _ n ih =>
  intro c hc
  by_cases h : n = 0
  · subst h; rw [cks_zero] at hc; cases hc
  · rw [cks_pos h, List.mem_cons] at hc
    rcases hc with rfl | hc
    · omega
    · exact ih _ (by omega) c hc
theorem cks_len : ∀ {k n : Nat}, n < 4294967296 ^ k → (cks n).length ≤ 2 * k
 | 0, n, h => by
  have : n = 0 := by simpa using h
  subst this; rw [cks_zero]; exact Nat.le_refl _
 | k + 1, n, h => by
  by_cases h0 : n = 0
  · subst h0; rw [cks_zero]; exact Nat.zero_le _
  · rw [cks_pos h0]
    by_cases h1 : n / 1000000000 = 0
    · rw [h1, cks_zero]; simp; omega
    · rw [cks_pos h1]
      have := cks_len (k := k) (n := n / 1000000000 / 1000000000) (by
       rw [Nat.pow_succ] at h
       rw [Nat.div_div_eq_div_mul, Nat.div_lt_iff_lt_mul (by decide)]
       refine Nat.lt_of_lt_of_le h (Nat.mul_le_mul_left _ (by decide)))
      simp only [List.length_cons]; omega
def outT : List Nat → List UInt8
 | [] => []
 | [c] => dec c
 | c :: e :: l => outT (e :: l) ++ pad 8 (dec c)
theorem outT_cks : ∀ n, n ≠ 0 → outT (cks n) = dec n := fun n => by
 induction n using Nat.strongRecOn with
 | _ n ih =>
  intro h
  rw [cks_pos h]
  by_cases h2 : n / 1000000000 = 0
  · rw [h2, cks_zero]
    show dec (n % 1000000000) = _
    congr 1; omega
  · have := ih (n / 1000000000) (by omega) h2
    rw [cks_pos h2] at this ⊢
    show outT (n / 1000000000 % 1000000000 :: cks (n / 1000000000 / 1000000000)) ++ pad 8 (dec (n % 1000000000)) = _
    rw [this]
    exact (dec_pad 8 n (by show 1000000000 ≤ n; omega)).symm
theorem outT_cons {c : Nat} {l : List Nat} (h : l ≠ []) : outT (c :: l) = outT l ++ pad 8 (dec c) := by
 cases l with
 | nil => exact absurd rfl h
 | cons e l => rfl
end
section
theorem all_dg {l : List UInt8} : l.all isD = true ↔ ∀ b ∈ l, isDg b := by
 rw [List.all_eq_true]
 exact ⟨fun h b hb => isD_iff.1 (h b hb), fun h b hb => isD_iff.2 (h b hb)⟩
theorem dec_fix : ∀ (k : Nat) (l : List UInt8), l.length = k + 1 → (∀ b ∈ l, isDg b) → pad k (dec (dval l)) = l := fun k => by
 induction k with
 | zero =>
  intro l hl hd
  match l, hl with
  | [x], _ =>
   have hx := hd x (by simp)
   unfold isDg at hx
   rw [dval_one, dec_lt (by omega)]
   show [UInt8.ofNat (48 + (x.toNat - 48))] = [x]
   rw [show 48 + (x.toNat - 48) = x.toNat by omega]; simp
 | succ k ih =>
  intro l hl hd
  obtain ⟨m, x, rfl⟩ : ∃ m x, l = m ++ [x] := ⟨l.dropLast, l.getLast (by intro e; rw [e] at hl; simp at hl), (List.dropLast_concat_getLast _).symm⟩
  have hm : m.length = k + 1 := by simpa using hl
  have hdm : ∀ b ∈ m, isDg b := fun b hb => hd b (by simp [hb])
  have hx := hd x (by simp)
  unfold isDg at hx
  have h1 := dval_lt hdm
  rw [hm] at h1
  rw [dval_snoc, ← pad_snoc (by omega) h1, ih m hm hdm, show 48 + (x.toNat - 48) = x.toNat by omega]
  simp
end
end Go.Num
namespace Go.Proofs.YtpgcfjpkilabfaaGreatDoor
open Go Go.Num Go.Tow
abbrev scl (k : Nat) (t : Tw k) (a : El k) (u h : Rat) : El k := add k (mul k t a (rat k u)) (rat k h)
section
variable {k : Nat} {t : Tw k} {a : El k}
theorem toL_scale {u : Rat} : toL k (mul k t a (rat k u)) = (toL k a).map (u * ·) := by rw [(ring k t).mc, toL_smul]
theorem mgl_scale {m n : Nat} {u : Rat} (ha : MgL m (toL k a)) (hu : Qs n u) : MgL (n + m) (toL k (mul k t a (rat k u))) := fun x hx => by
 rw [toL_scale] at hx
 obtain ⟨y, hy, rfl⟩ := List.mem_map.1 hx
 exact hu.mul (ha y hy)
theorem mgl_rat {n : Nat} {h : Rat} (hh : Qs n h) (h1 : 1 ≤ n) : MgL n (toL k (rat k h)) := fun x hx => by
 rw [toL_rat] at hx
 rcases List.mem_cons.1 hx with rfl | hx
 · exact hh
 · obtain rfl := (List.mem_replicate.1 hx).2
   exact Qs.int (z := 0) (by unfold Zs; exact Nat.pow_pos (by decide)) h1
theorem mgl_add {m n : Nat} {b : El k} (ha : MgL m (toL k a)) (hb : MgL n (toL k b)) : MgL (m + n + 1) (toL k (add k a b)) := fun x hx => by
 rw [toL_add] at hx
 obtain ⟨i, hi⟩ := List.getElem?_of_mem hx
 rw [List.getElem?_zipWith] at hi
 split at hi
 · rename_i y z hy hz
   cases hi
   exact (ha y (List.mem_of_getElem? hy)).add (hb z (List.mem_of_getElem? hz))
 · cases hi
end
end Go.Proofs.YtpgcfjpkilabfaaGreatDoor
namespace Go.Proofs.YtpgcfjpkilabfaaGreatDoor.R1
open Go Go.Vm Go.Num Go.Proofs.YtpgcfjpkilabfaaGreatDoor
end Go.Proofs.YtpgcfjpkilabfaaGreatDoor.R1
namespace Go.Proofs.YtpgcfjpkilabfaaGreatDoor.R11
open Go Go.Vm Go.Num Go.Proofs.YtpgcfjpkilabfaaGreatDoor
section
theorem tx_neg {z : Int} (h : z < 0) : tx z = 45 :: dec z.natAbs := by rw [tx, if_pos h]; rfl
theorem tx_pos {z : Int} (h : ¬ z < 0) : tx z = dec z.natAbs := by rw [tx, if_neg h]; rfl
end
section
end
section
end
end Go.Proofs.YtpgcfjpkilabfaaGreatDoor.R11
namespace Go.Proofs.YtpgcfjpkilabfaaGreatDoor.P11
open Go Go.Vm Go.Num Go.Tow Go.Proofs.YtpgcfjpkilabfaaGreatDoor Go.Proofs.YtpgcfjpkilabfaaGreatDoor.P9 Go.Proofs.YtpgcfjpkilabfaaGreatDoor.R11
structure Pk (x : Nm) : Prop where
 k : x.k ≤ 3
 re : real x.k x.t
 t : TS 300 x.k x.t
 mt : MgT 64 x.k x.t
 ml : MgL 64 (toL x.k x.a) ∨ (x.k = 0 ∧ MgL 1700 (toL x.k x.a))
theorem MgL.mono' {m n : Nat} {l : List Rat} (h : MgL m l) (hn : m ≤ n) : MgL n l := fun x hx => (h x hx).mono hn
theorem MgT.mono' : ∀ {k m n : Nat} {t : Tw k}, MgT m k t → m ≤ n → MgT n k t
 | 0, _, _, _, _, _ => trivial
 | _ + 1, _, _, _, h, hn => ⟨MgT.mono' h.1 hn, MgL.mono' h.2 hn⟩
theorem sz_of {k n : Nat} {a : El k} (h : MgL n (toL k a)) (hk : k ≤ 3 ∧ n ≤ 400 ∨ k = 0 ∧ n ≤ 3999) : Sz 4000 (toL k a) := by
 refine (Sz.all h).mono ?_
 rw [toL_length]
 rcases hk with ⟨h3, hn⟩ | ⟨rfl, hn⟩
 · have hp : 2 ^ k ≤ 2 ^ 3 := Nat.pow_le_pow_right (by decide) h3
   have := Nat.mul_le_mul hn hp
   omega
 · rw [Nat.pow_zero]; omega
structure Scd (x : Nm) (u h : Rat) : Prop where
 s1 : Sz 4000 (toL x.k (mul x.k x.t x.a (rat x.k u)))
 s2 : Sz 4000 (toL x.k (scl x.k x.t x.a u h))
 w1 : Wid (bx x.k x.t (scl x.k x.t x.a u h) 2048) 1
 w2 : ∀ b, 1000000 ≤ b → Wid (enc x.k x.t (scl x.k x.t x.a u h) b) 1
theorem Pk.sz {x : Nm} (H : Pk x) : Sz 4000 (toL x.k x.a) := by
 rcases H.ml with h | ⟨h0, h⟩
 · exact sz_of h (.inl ⟨H.k, by decide⟩)
 · exact sz_of h (.inr ⟨h0, by decide⟩)
theorem Pk.sc {x : Nm} (H : Pk x) {u h : Rat} (hu : Qs 200 u) (hh : Qs 2 h) : Scd x u h := by
 rcases H.ml with hl | ⟨h0, hl⟩
 · have m1 := mgl_scale (t := x.t) hl hu
   have m2 := mgl_add m1 (mgl_rat (k := x.k) hh (by decide))
   exact ⟨sz_of m1 (.inl ⟨H.k, by decide⟩), sz_of m2 (.inl ⟨H.k, by decide⟩), bx_2048 H.re H.mt (MgL.mono' m2 (by decide)) H.k, enc_million H.re (MgT.mono' H.mt (by decide)) (MgL.mono' m2 (by decide)) H.k (show 10000 ≤ 10000 by decide)⟩
 · have m1 := mgl_scale (t := x.t) hl hu
   have m2 := mgl_add m1 (mgl_rat (k := x.k) hh (by decide))
   refine ⟨sz_of m1 (.inr ⟨h0, by decide⟩), sz_of m2 (.inr ⟨h0, by decide⟩), ?_, enc_million H.re (MgT.mono' H.mt (by decide)) (MgL.mono' m2 (by decide)) H.k (show 10000 ≤ 10000 by decide)⟩
   obtain ⟨k, t, a⟩ := x
   obtain rfl : k = 0 := h0
   exact (bx_wd2 (m := 64) (b := 2048) H.re H.mt m2 (show 0 < eE 64 2048 0 _ by exact (by decide : 0 < 2 * 2048 - 2))).mono (show 1 ≤ 2 * 2048 - 2 by decide)
theorem ten_qs {n : Nat} (hn : n ≤ 60) : Qs 200 ((10 ^ n : Int) : Rat) := by
 have h1 : (10 : Nat) ^ n ≤ 10 ^ 60 := Nat.pow_le_pow_right (by decide) hn
 refine Qs.int ?_ (by decide)
 show ((10 : Int) ^ n).natAbs < 2 ^ 200
 rw [Int.natAbs_pow]
 exact Nat.lt_of_le_of_lt h1 (by decide)
theorem bnds {k : Nat} (hk : k ≤ 3) : eB 4000 (2 * (1000000 + 1 + 16)) k ≤ 274877906944 ∧ vB 4000 k (4000 + eB 4000 (2 * (1000000 + 1 + 16)) k + 4) ≤ 4398046511104 ∧ vB 4000 k (4000 + bB 4000 2048 k + 4) ≤ 4398046511104 ∧ bB 4000 2048 k ≤ 274877906944 ∧ cB 300 k ≤ 1000000000 := by
 have h : k = 0 ∨ k = 1 ∨ k = 2 ∨ k = 3 := by omega
 rcases h with rfl | rfl | rfl | rfl <;> decide +kernel
theorem power_ok {n : Nat} (hn : n ≤ 400) : C0 131 [.d (.int .i64 n)] (· = .d (dz (10 ^ n))) := by
 refine En Tryz.func131 fun _ _ _ => ?_
 refine Ce rfl (FromInt_ok (z := 10) (by decide)) ?_
 refine Ce rfl (iPow_ok (z := 10) (q := 4) (show (10 : Int).natAbs < 2 ^ 4 by decide) (by omega) (by decide)) ?_
 exact R1 rfl (.rf rfl)
theorem whole_ok {z : Int} {p : Nat} (hz : Zs p z) (hp : 1 ≤ p) (hp2 : p ≤ 8796093022208) : C0 130 [.d (dz z)] (· = .d (dq (z : Rat))) := by
 have h := Make_ok hz (Zs.one hp) hp2 (by decide)
 rw [divInt1] at h
 refine En Tryz.func130 fun _ _ _ => ?_
 refine Dw rfl ?_
 refine Ce rfl (FromInt_ok (z := 1) (by decide)) ?_
 refine Ce rfl h ?_
 exact R1 rfl (.rf rfl)
theorem floor_ok {x : Nm} {d : Nat} {h : Rat} (H : Pk x) (hd : d ≤ 60) (hh : Qs 2 h) : C0 60 [.d (dN x), .d (.int .i64 d), .d (dq h)] fun v => ∃ z, v = .tup (.pr (.d (dz z)) (.d (.int .i64 0))) ∧ FloorOf x.k x.t (scl x.k x.t x.a ((10 ^ d : Int) : Rat) h) z ∧ (dig z.natAbs).length ≤ 274877906944 := by
 have hu := ten_qs hd
 have S := H.sc hu hh
 obtain ⟨b1, b2, b3, b4, b5⟩ := bnds H.k
 have hz : Zs 200 (10 ^ d : Int) := hu.n
 refine En Tryz.func60 fun _ _ _ => ?_
 refine No rfl (by omega) ?_
 refine No rfl (by omega) ?_
 refine Dw rfl ?_
 refine Ce rfl (power_ok (by omega)) ?_
 refine Ce rfl (whole_ok hz (by decide) (by decide)) ?_
 refine Ce rfl (P9.FromRat_ok hu (by decide)) ?_
 refine Ce rfl (Mul_r H.t H.sz hu (by have := H.k; omega) (by decide) (by decide) (by decide) b5) ?_
 refine No rfl (by decide) ?_
 refine Dw rfl ?_
 refine Ce rfl (P9.FromRat_ok hh (by decide)) ?_
 refine Ce rfl (Add_r (x := ⟨x.k, x.t, mul x.k x.t x.a (rat x.k ((10 ^ d : Int) : Rat))⟩) H.t S.s1 hh (by have := H.k; show x.k ≤ 8; omega) (by decide) (by decide) (by decide)) ?_
 refine No rfl (by decide) ?_
 refine Ca rfl (sFloor_ok (P := 1000000) H.re S.w2 (H.t.mono (by decide)) S.s2 (by decide) (show x.k ≤ 16 by have := H.k; omega) (by decide) b1 b2) fun v hv => ?_
 obtain ⟨z, rfl, hz⟩ := hv
 exact Rt rfl (.tup (.cons (.rf rfl) fitI)) ⟨z, rfl, hz⟩
theorem Floor_ok {x : Nm} {d : Nat} (H : Pk x) (hd : d ≤ 60) : C0 23 [.d (dN x), .d (.int .i64 d)] fun v => ∃ z, v = .tup (.pr (.d (dz z)) (.d (.int .i64 0))) ∧ FloorOf x.k x.t (scl x.k x.t x.a ((10 ^ d : Int) : Rat) ((0 : Int) : Rat)) z ∧ (dig z.natAbs).length ≤ 274877906944 := by
 refine En Tryz.func23 fun _ _ _ => ?_
 refine Dw rfl ?_
 refine Ce rfl (qFromInt_ok (z := 0) (by decide)) ?_
 refine Ca rfl (floor_ok H hd (Qs.int (z := 0) (show Int.natAbs 0 < 2 ^ 2 by decide) (by decide))) fun v hv => ?_
 obtain ⟨z, rfl, hz⟩ := hv
 exact Rt rfl (.tup (.cons (.rf rfl) fitI)) ⟨z, rfl, hz⟩
abbrev hf : Rat := Rat.divInt 1 2
theorem hf_qs : Qs 2 hf := ⟨show hf.num.natAbs < 2 ^ 2 by decide, show ((hf.den : Int)).natAbs < 2 ^ 2 by decide⟩
theorem Round_ok {x : Nm} {d : Nat} (H : Pk x) (hd : d ≤ 60) : C0 103 [.d (dN x), .d (.int .i64 d)] fun v => ∃ z, v = .tup (.pr (.d (dz z)) (.d (.int .i64 0))) ∧ FloorOf x.k x.t (scl x.k x.t x.a ((10 ^ d : Int) : Rat) hf) z ∧ (dig z.natAbs).length ≤ 274877906944 := by
 refine En Tryz.func103 fun _ _ _ => ?_
 refine Dw rfl ?_
 refine Ce rfl (qFrac_ok (a := 1) (b := 2) (by decide) (by decide)) ?_
 refine Ca rfl (floor_ok H hd hf_qs) fun v hv => ?_
 obtain ⟨z, rfl, hz⟩ := hv
 exact Rt rfl (.tup (.cons (.rf rfl) fitI)) ⟨z, rfl, hz⟩
end Go.Proofs.YtpgcfjpkilabfaaGreatDoor.P11
namespace Go.Vm
open Go
abbrev cxM (P : Program) (gb : Gb P) (t : Tab P) (m : Mx P) (hpr : ∀ T ti, t.tb T = some ti → ∀ a c, ti.z ≠ .pr a c) (n : Nat) (hn : n ≤ 1000000) (fn : Func) (W : GW) (Q : AV → Prop) (hg : gb.g W) : Cx := ⟨P, gb, t.tb, fun T ti h => ⟨t.ok T ti h, hpr T ti h⟩, m, n, hn, W, fun _ => False, θe, bodyPostM Fence.wide 8 P fn (Ret W Q), hg⟩
theorem EnM {P : Program} [gb : Gb P] [t : Tab P] [hp : Npr P] [m : Mx P] {f n : Nat} {fn : Func} {x : Code} {args : List AV} {Q : AV → Prop} (hf : P.funcs[f]? = some fn) (h : ∀ W hg hn, StP (cxM P gb t m hp.h n hn fn W Q hg) (.j [] [.c x] (argL 0 args) [])) (hname : (fn.name == "runtime.NumGoroutine") = false := by exact rfl) (hb : fn.body = some x := by exact rfl)
 (hN : fn.ntmps = n := by exact rfl) (hl : (Nat.ble args.length n && Nat.ble n 1000000 && args.all noId) = true := by exact rfl) : C P f args Q := by
 refine ⟨⟨fn, hf, hname, by rw [hb]; rfl⟩, fun W vs hg ha => (callsIn_wide (n := 8)).1 (callsIn_of_wp_marks hf hb trivial (wpIn_wide.2 ?_) rfl)⟩
 have h := h W hg (by simp only [Bool.and_eq_true] at hl; exact Nat.le_of_ble_eq_true hl.1.2)
 simp only [StP, sem, ← argL_eq] at h
 simp only [Bool.and_eq_true] at hl
 obtain ⟨⟨hl1, hl2⟩, hl3⟩ := hl
 have hl1 := Nat.le_of_ble_eq_true hl1
 have hlen := ha.len
 refine wp_mono (h _ W.w ⟨_, W, θe, rfl, ⟨Fm.refl W _, ⟨rfl, by simp [hN]; omega, fun t v ht => ?_⟩, ⟨fun o x h => (by cases h), fun o x b h => (by cases h), fun o o' x x' b h => (by cases h), fun o x i h => (by cases h)⟩, fun t v i ht hi => ?_⟩, fun _ _ => rfl, rfl⟩) fun e a w h => by cases e <;> exact h
 · obtain ⟨_, u, h2, h3, _⟩ := argE_V ha ht
   rw [Nat.sub_zero] at h2
   have hlt := get_lt h2
   rw [List.getElem?_eq_getElem hlt] at h2
   injection h2 with h2
   simp only [Array.getD]
   rw [dif_pos (by simp; omega)]
   simp [Array.getElem_append_left, hlt, h2]
   exact h3
 · obtain ⟨_, u, _, _, h4⟩ := argE_V ha ht
   exact absurd hi (noId_ids (List.all_eq_true.1 hl3 v h4) i)
theorem StP.rest2 {c : Cx} {G : List (Nat × Bool)} {x y : Code} {E : Env} {H : Hpl} (h : ∀ a w, c.Nx (fun s' => s' = sem E H) a w → x.wp c.P (Exit.then (y.wp c.P c.fin) c.fin) a w) : StP c (.j G [.c x, .c y] E H) :=
 fun a w hw => wp_mono (h a w hw) fun e a w h => by
  cases e with
  | normal => exact wp_mono h fun e a w h => by cases e <;> exact h
  | _ => exact h
theorem Tl {c : Cx} {s : St} (id : Nat) {G : List (Nat × Bool)} {x y : Code} {E : Env} {H : Hpl} (h : nxT c.tb c.n (some id) s = some (G, x, [.c y], E, H)) (k : ∀ a w, c.Nx (fun s' => s' = sem E H) a w → x.wpIn Fence.wide 8 c.P (Exit.then (y.wpIn Fence.wide 8 c.P c.fin) c.fin) a w) : StP c s := by
 have key : StP c (.j G [.c x, .c y] E H) := StP.rest2 fun a w hw => wp_mono (wpIn_wide.1 (k a w hw)) fun e a w h => by
  cases e with
  | normal => exact wpIn_wide.1 h
  | _ => exact h
 unfold nxT at h
 simp only at h
 split at h <;> cases h
 rename_i hr
 exact runT_ok 1000 (by rw [hr]; exact key)
theorem uncons {α : Type} {n : Nat} : ∀ {l : List α}, l.length = n + 1 → ∃ t l', l = t :: l' ∧ l'.length = n
 | t :: l', h => ⟨t, l', rfl, by simpa using h⟩
end Go.Vm
namespace Go.Proofs.YtpgcfjpkilabfaaGreatDoor
open Go Go.Vm Go.Num Go.Proofs Go.Shelf Go.RowKit
section
end
section
theorem itrim_own {q n : Nat} {l : List Nat} (hw : Words l) (hq : q + n ≤ l.length) (hl : n ≤ 1099511627776) : CN0 65 [.own 1000001 1 q n] [(1000001, .arr 1 (l.map wd))] fun v => ∃ k, k ≤ n ∧ v = .own 1000001 1 q k ∧ (l.drop q).take k = dig (val ((l.drop q).take n)) := by
 have dtk : ∀ {m k : Nat}, k < m → ((l.drop q).take m)[k]? = l[q + k]? := fun h => by rw [List.getElem?_take, if_pos h, List.getElem?_drop]
 have dlen : ∀ {m : Nat}, q + m ≤ l.length → ((l.drop q).take m).length = m := fun h => by rw [List.length_take, List.length_drop]; omega
 refine EnW Tryz.func65 fun _ _ _ _ => ?_
 refine Lo (fun k => [(0, .own 1000001 1 q k)]) (fun _ => [(1000001, .arr 1 (l.map wd))]) (fun k => k ≤ n ∧ val ((l.drop q).take k) = val ((l.drop q).take n)) id n [] rfl ⟨Nat.le_refl _, rfl⟩ fun k ⟨hk, hv⟩ => ?_
 have hwk := (hw.drop q).take k
 refine By rfl (fun h => ?_) fun h => ?_
 · obtain ⟨u, hu⟩ := xat (l := l) (k := q + (k - 1)) (by omega)
   have hs := val_take_succ (l := l.drop q) (k := k - 1) (x := u) (by rw [List.getElem?_drop]; exact hu)
   rw [show k - 1 + 1 = k by omega, hv] at hs
   refine Ar (k - 1 : Nat) rfl ?_
   refine El (k - 1) rfl (by omega) ?_
   refine Ld (wd u) rfl (mp hu) ?_
   refine By rfl (fun h0 => ?_) fun h0 => ?_
   · refine Ar (k - 1 : Nat) rfl ?_
     refine Sw 0 (k - 1) rfl (by omega) (by omega) ?_
     exact Bk (k - 1) [] rfl ⟨by omega, by rw [hs, show u = 0 by omega, Nat.mul_zero, Nat.add_zero]⟩ (show k - 1 < k by omega)
   · exact Rw [] [(1000001, .arr 1 (l.map wd))] rfl (.one (.rf rfl) rfl rfl) ⟨rfl, k, hk, rfl, by rw [← hv, dig_val hwk (.inr ⟨u, by rw [dlen (by omega), dtk (by omega)]; exact hu, fun e => h0 (by rw [e]; rfl)⟩)]⟩
 · refine Rw [] [(1000001, .arr 1 (l.map wd))] rfl (.one (.rf rfl) rfl rfl) ⟨rfl, k, hk, rfl, ?_⟩
   rw [show k = 0 by omega] at hv ⊢
   rw [← hv, List.take_zero, val, dig_zero]
theorem clone_u32_own {l : List Nat} (h0 : 0 < l.length) (hl : l.length ≤ 1099511627776) : CA0 70 [.d (ws l)] 1 (l.map wd) := by
 refine EnW Tryz.func70 fun _ _ _ _ => ?_
 refine Ub rfl (fun h => ?_) ?_
 · exact absurd h (by intro e; have : l.length = 0 := by simpa using congrArg List.length e
                      omega)
 refine ApL (l.map wd) rfl rfl (by simpa using h0) (by simpa using hl) ?_
 exact Rw [(7, 1000000)] [(1000000, .arr 1 (l.map wd))] rfl (.one (.rf rfl) rfl rfl) ⟨_, rfl, rfl, rfl⟩
theorem Format_zero : C0 105 [.d (dz 0)] (· = .d (.str [48])) := by
 refine En Tryz.func105 fun _ _ _ => ?_
 refine Ce rfl (trim_d (n := 0) (by rw [dig_zero]; decide)) ?_
 refine Ce rfl (clone_u32_ok (l := dig 0) (by rw [dig_zero]; decide)) ?_
 refine Yes rfl (by rw [dig_zero]; rfl) ?_
 exact R0
def Fm9 (z x n : Nat) (lo cs : List Nat) : Prop := n ≤ lo.length ∧ lo.length ≤ 549755813888 ∧ Words lo ∧ lo.take n = dig x ∧ cks z = cs ++ cks x
theorem Fm9_len {z x n : Nat} {lo cs : List Nat} (h : Fm9 z x n lo cs) : n = (dig x).length := by
 have := congrArg List.length h.2.2.2.1
 rw [List.length_take, Nat.min_eq_left h.1] at this
 exact this
end
section
attribute [local go_sem] Oper.semAt_some
abbrev C9 := { x : Nat // x < 1000000000 }
def b9 (zs : List C9) (k : Nat) : List (Nat × C9) := (List.range k).map fun j => (zs.length - 1 - j, zs[zs.length - 1 - j]?.getD ⟨0, by decide⟩)
theorem b9_succ (zs : List C9) (k : Nat) : b9 zs (k + 1) = b9 zs k ++ [(zs.length - 1 - k, zs[zs.length - 1 - k]?.getD ⟨0, by decide⟩)] := by simp [b9, List.range_succ]
theorem b9_length (zs : List C9) (k : Nat) : (b9 zs k).length = k := by simp [b9]
set_option maxRecDepth 100000 in
set_option maxHeartbeats 2000000 in
theorem bk9_in (F : Fence) (n : Nat) (h8 : F.fn 258) (hro : F.round = none) (hn : 1 ≤ n) (l Bs n₀ b off cap : Nat) (zs : List C9) (hreach : zs.length * 4 ≤ 140737488351232) (hb : b < n₀) (J Jx : List (Nat × C9) → World → Prop)
 (hY : ∀ pre x W, J pre W → pre.length < zs.length → YieldAt F (n - 1) Tryz.prog l #[.int .i64 (x.1 : Int), .int .u32 (x.2.1 : Int)] W fun e W' =>
  (e = .returned (.bool true) ∧ J (pre ++ [x]) W' ∧ Kq n₀ Bs W W') ∨ (e = .returned (.bool false) ∧ Jx (pre ++ [x]) W'))
 (W : World) (hBs : W.cell? ⟨Bs, 0, none⟩ = some (.slice (some ⟨b, off, none⟩) zs.length cap)) (hc : ∀ j, j < zs.length → W.cell? ⟨b, off + j, none⟩ = some (.int .u32 ((zs[j]?.getD ⟨0, by decide⟩).1 : Int))) (h0 : J [] W) :
 CallsIn F n Tryz.prog 258 #[.func (.yield l) #[] #[], .pointer (some ⟨Bs, 0, none⟩)] W fun e W' => (∃ v, e = .returned v) ∧
  ((∃ ys, ys = b9 zs zs.length ∧ J ys W') ∨ (∃ pre, True ∧ Jx pre W')) := by
 refine callsIn_of_wp Tryz.func258 rfl h8 ?_ hro
 simp only [Tryz.ntmps258, List.size_toArray, List.length_cons, List.length_nil, Nat.reduceAdd, Nat.reduceSub, Array.replicate_succ, Array.replicate_zero, List.push_toArray, List.append_toArray, List.nil_append, List.cons_append]
 gi_wp2
 gi_loopw [3] (fun i wr => ∃ k : Nat, k ≤ zs.length ∧ i = .int .i64 ((zs.length : Int) - 1 - k) ∧ J (b9 zs k) wr ∧ Kq n₀ Bs W wr)
  (fun i _ => (intOf i + 1).toNat)
 case atStart => exact ⟨0, Nat.zero_le _, by simp, h0, Kq.refl _ _ _⟩
 case round =>
  obtain ⟨k, hk, rfl, hJs, hnx⟩ := hrel
  have hBs' := (World.cell?_of_block hnx.b).trans hBs
  by_cases hlt : k < zs.length
  · obtain ⟨q, hq⟩ : ∃ q, q + (k + 1) = zs.length := ⟨zs.length - 1 - k, by omega⟩
    have hqi : ((zs.length : Int) - 1 - k) = (q : Int) := by omega
    have hcx := (hnx.a.cell (p := ⟨b, off + q, none⟩) hb).trans (hc q (by omega))
    obtain ⟨fn, tmps, assign, body, hy, hR⟩ := hY _ (q, zs[q]?.getD ⟨0, by decide⟩) wr hJs (by rw [b9_length]; exact hlt)
    dsimp only at hy
    rw [hqi]
    gi_wp2
    refine hR.mono ?_
    rintro e W3 (⟨rfl, hJ3, hk3⟩ | ⟨rfl, hJx3⟩)
    · gi_wp2
      go_roundw
      case rel => exact ⟨k + 1, by omega, by congr 1; omega, by rw [b9_succ, show zs.length - 1 - k = q from by omega]; exact hJ3, hnx.trans hk3⟩
      case measure => simp [intOf]
    · gi_wp2
      refine bodyPost_ret (results_none rfl _ _ _) rfl ?_
      exact ⟨⟨_, rfl⟩, .inr ⟨_, trivial, hJx3⟩⟩
  · obtain rfl : k = zs.length := by omega
    rw [show ((zs.length : Int) - 1 - (zs.length : Int)) = -1 from by omega]
    gi_wp2
    go_end0
    exact ⟨⟨_, rfl⟩, .inl ⟨_, rfl, hJs⟩⟩
theorem bk9_stops (F : Fence) (n : Nat) (h8 : F.fn 258) (hro : F.round = none) (hn : 1 ≤ n) (Bs n₀ b off cap : Nat) (zs : List C9) (hreach : zs.length * 4 ≤ 140737488351232) (w : World) (hBs : Bs < w.heap.size) (hn₀ : n₀ ≤ w.heap.size)
 (hc : w.cell? ⟨Bs, 0, none⟩ = some (.slice (some ⟨b, off, none⟩) zs.length cap)) (hb : b < n₀) (hcs : ∀ j, j < zs.length → w.cell? ⟨b, off + j, none⟩ = some (.int .u32 ((zs[j]?.getD ⟨0, by decide⟩).1 : Int))) :
 SeqStopsK F n Tryz.prog 258 #[.pointer (some ⟨Bs, 0, none⟩)] (fun x : Nat × C9 => #[Value.int .i64 (x.1 : Int), Value.int .u32 (x.2.1 : Int)]) (Kq n₀ Bs) (fun ys => ys = b9 zs zs.length)
  (fun _ => True) zs.length w := fun l J Jx W hW _ _ hY h0 => by
 have hc' := (hW.cell (p := ⟨Bs, 0, none⟩) hBs).trans hc
 exact bk9_in F n h8 hro hn l Bs n₀ b off cap zs hreach hb J Jx hY W hc' (fun j hj => (hW.cell (p := ⟨b, off + j, none⟩) (Nat.lt_of_lt_of_le hb hn₀)).trans (hcs j hj)) h0
def o9 (N : Nat) (sg : List UInt8) : List (Nat × C9) → List UInt8 := List.foldl (fun t x => t ++ (if x.1 + 1 < N then List.replicate (9 - (dec x.2.1).length) 48 else []) ++ dec x.2.1) sg
theorem o9_snoc (N : Nat) (sg : List UInt8) (pre : List (Nat × C9)) (x : Nat × C9) : o9 N sg (pre ++ [x]) = o9 N sg pre ++ (if x.1 + 1 < N then List.replicate (9 - (dec x.2.1).length) 48 else []) ++ dec x.2.1 := by simp [o9]
theorem dec9 (x : C9) : (dec x.1).length ≤ 9 := dec_len 8 x.1 x.2
theorem o9_len (N : Nat) : ∀ (pre : List (Nat × C9)) (sg : List UInt8), (o9 N sg pre).length ≤ sg.length + 18 * pre.length
 | [], _ => Nat.le_add_right _ _
 | x :: l, sg => by
  have ih := o9_len N l (sg ++ (if x.1 + 1 < N then List.replicate (9 - (dec x.2.1).length) 48 else []) ++ dec x.2.1)
  have := dec9 x.2
  have h : (if x.1 + 1 < N then List.replicate (9 - (dec x.2.1).length) (48 : UInt8) else []).length ≤ 9 := by split <;> simp
  simp only [List.length_append, List.length_cons] at h ih ⊢
  refine Nat.le_trans (show (o9 N sg (x :: l)).length ≤ _ from ih) ?_
  omega
theorem o9_bk (sg : List UInt8) (zs : List C9) : ∀ k, k ≤ zs.length → o9 zs.length sg (b9 zs k) = sg ++ outT ((zs.map (·.1)).drop (zs.length - k))
 | 0, _ => by
  rw [List.drop_eq_nil_of_le (by simp)]
  simp [b9, o9, outT]
 | k + 1, h => by
  obtain ⟨x, hx⟩ : ∃ x, zs[zs.length - 1 - k]? = some x := ⟨_, List.getElem?_eq_getElem (by omega)⟩
  have hxm : (zs.map (·.1))[zs.length - (k + 1)]? = some x.1 := by rw [List.getElem?_map, show zs.length - (k + 1) = zs.length - 1 - k by omega, hx]; rfl
  have hd : (zs.map (·.1)).drop (zs.length - (k + 1)) = x.1 :: (zs.map (·.1)).drop (zs.length - k) := by
   obtain ⟨hlt, he⟩ := List.getElem?_eq_some_iff.1 hxm
   rw [List.drop_eq_getElem_cons hlt, he, show zs.length - (k + 1) + 1 = zs.length - k by omega]
  rw [b9_succ, o9_snoc, o9_bk sg zs k (by omega), hx, hd]
  simp only [Option.getD_some]
  by_cases hk : k = 0
  · subst hk
    rw [if_neg (by omega), show (zs.map (·.1)).drop (zs.length - 0) = [] from List.drop_eq_nil_of_le (by simp)]
    simp [outT]
  · have hne : (zs.map (·.1)).drop (zs.length - k) ≠ [] := fun e => by
     have := congrArg List.length e
     simp at this; omega
    rw [if_pos (by omega), outT_cons hne]
    unfold pad
    simp
theorem c9s {l : List Nat} (h : ∀ x ∈ l, x < 1000000000) : ∃ zs : List C9, zs.map (·.1) = l := by
 induction l with
 | nil => exact ⟨[], rfl⟩
 | cons a l ih =>
  obtain ⟨zs, hz⟩ := ih fun x hx => h x (List.mem_cons_of_mem _ hx)
  exact ⟨⟨a, h a (List.mem_cons_self ..)⟩ :: zs, by rw [List.map_cons, hz]⟩
def gw1 (w : World) : GW := ⟨w, fun _ _ => False, fun _ _ h => h.elim⟩
theorem cell_lt {w : World} {b i : Nat} {v : Value} (h : w.cell? ⟨b, i, none⟩ = some v) : b < w.heap.size := by
 apply Classical.byContradiction
 intro hn
 simp only [World.cell?] at h
 rw [Array.getElem?_eq_none (by omega)] at h
 cases h
theorem le_gw1 {W : GW} {n : Nat} {w' : World} (h : Below n W.w w') (hn : W.w.heap.size ≤ n) : LeF W (gw1 w') := fun b i v hv =>
 ⟨(World.cell?_of_block (h.block b (Nat.lt_of_lt_of_le (cell_lt hv.1) hn))).trans hv.1, id⟩
theorem call_str {f : FuncId} {args : List AV} {vs : List Value} {s : List UInt8} {w : World} (hc : C0 f args (· = .d (.str s))) (hg : Gb.g Tryz.prog (gw1 w)) (ha : ArgL (gw1 w) θe args vs) :
 Calls Tryz.prog f vs.toArray w fun e w' => e = .returned (.string ⟨s.toArray⟩) ∧ Below w.heap.size w w' :=
 (hc.2 (gw1 w) vs hg ha).mono fun e w' ⟨W', v, u, h1, h2, h3, h4, _, h6⟩ => by
  subst h6; subst h2
  obtain ⟨rfl, _⟩ := V_str h4
  exact ⟨h1, h3.os, h3.tape, h3.out, h3.size, fun k hk => h3.same k hk id⟩
theorem fmtU {w : World} (hg : Gb.g Tryz.prog (gw1 w)) (x : C9) : Calls Tryz.prog 185 #[.int .u64 (x.1 : Int), .int .i64 10] w fun e w' => e = .returned (.string ⟨(dec x.1).toArray⟩) ∧ Below w.heap.size w w' :=
 call_str (vs := [.int .u64 (x.1 : Int), .int .i64 10]) (FormatUint_ok x.2) hg ⟨int_V (by have := x.2; show IntKind.u64.wrap _ = _; exact wU (by omega)), int_V (wI (by omega)), trivial⟩
theorem rep0 {w : World} (hg : Gb.g Tryz.prog (gw1 w)) {n : Nat} {k : Int} (hk : k = n) (hn : n < 65) : Calls Tryz.prog 106 #[.string ⟨#[48]⟩, .int .i64 k] w fun e w' => e = .returned (.string ⟨(List.replicate n 48).toArray⟩) ∧ Below w.heap.size w w' := by
 subst hk
 exact call_str (vs := [.string ⟨#[48]⟩, .int .i64 (n : Int)]) (Repeat0_ok hn) hg ⟨str_V (s := [48]) (by decide), int_V (by show IntKind.i64.wrap _ = _; exact wI (by omega)), trivial⟩
theorem isB_own {β : Type} (T e : TypeId) (B b : Nat) (f : β → List Value) : Own (fun s W => Lib.IsBuilderF T e B b (f s) W) := by
 intro s X Y row h hg hrow
 have key : ∀ p, Lib.BuilderAtF T e B b p (f s) X → Lib.BuilderAtF T e B b p (f s) Y := fun p ⟨hB, v, hb, hown, hne⟩ => by
  have cells : ∀ k cs t fz, X.heap[k]? = some (.cells cs t fz) → some k ≠ row := fun k cs t fz hk e' => by
   obtain ⟨o, ho, hc⟩ := hrow k e'.symm
   rw [hk] at ho; cases ho; cases hc
  refine ⟨hB, v, (hg.block b (Array.getElem?_eq_some_iff.1 hb).1 (cells b _ _ _ hb)).trans hb, hown.kept hg ?_, hne⟩
  cases hv : v.ownBlock with
  | none => exact .inl rfl
  | some g =>
   obtain ⟨c, fz, hc⟩ := Lib.ownsRowF_kind hown g hv
   exact .inr (cells g _ _ _ hc)
 exact h.elim (fun h => .inl (key _ h)) fun h => .inr (key _ h)
theorem grownBy_box {W W' : World} {row : Option Nat} {b : Nat} {cs : Array Value} {t : TypeId} {fz : Nat × Nat} (h : W.heap[b]? = some (.cells cs t fz)) (hg : W.grownBy W' row) (hr : ∀ r, row = some r → ∃ o : Obj, W.heap[r]? = some o ∧ o.isCells = false) : W'.heap[b]? = some (.cells cs t fz) :=
 (hg.block b (Array.getElem?_eq_some_iff.1 h).1 (fun e' => by
  obtain ⟨o, ho, hc⟩ := hr b e'.symm
  rw [h] at ho; cases ho; cases hc)).trans h
theorem isB_below {T e : TypeId} {B b : Nat} {bs : List Value} {w w' : World} (h : Lib.IsBuilderF T e B b bs w) (hw : Below w.heap.size w w') : Lib.IsBuilderF T e B b bs w' := by
 have key : ∀ p, Lib.BuilderAtF T e B b p bs w → Lib.BuilderAtF T e B b p bs w' := fun p ⟨hB, v, hb, hown, hne⟩ =>
  ⟨hB, v, (hw.block b (Array.getElem?_eq_some_iff.1 hb).1).trans hb, hown.kept (row := none) ⟨hw.os, hw.tape, hw.output, hw.size, fun k hk _ => hw.block k hk⟩ (by cases hv : v.ownBlock <;> simp), hne⟩
 exact h.elim (fun h => .inl (key _ h)) fun h => .inr (key _ h)
theorem keeps_below {w w' : World} (h : Below w.heap.size w w') : KeepsOthers w w' := ⟨h.size, fun k o hk _ => (h.block k (Array.getElem?_eq_some_iff.1 hk).1).trans hk⟩
theorem keeps_builder {T e : TypeId} {B b n : Nat} {bs : List Value} {w w' : World} (h : Lib.IsBuilderF T e B b bs w) (hw : Below n w w') (ho : Lib.OthersKept e (some b) w w') : KeepsOthers w w' := ⟨hw.size, fun k o hk hc => by
 refine ho k o hk (fun e' => ?_) (fun c fz e' => by subst e'; cases hc)
 cases e'
 rcases h with ⟨_, v, hb, _⟩ | ⟨_, v, hb, _⟩ <;> rw [hk] at hb <;> cases hb <;> cases hc⟩
structure W9 (n BS B : Nat) (sl : Value) (w W : World) (t : List UInt8) (W' : World) : Prop where
 b : Lib.IsBuilderF (rnB.t 72) (rnB.t 5) n n (Lib.byteCells t) W'
 s : W'.heap[BS]? = some (.cells #[sl] 27 (0, 0))
 l : Below n w W'
 k : KeepsFrom B W W'
 q : Kq n BS W W'
theorem W9.below {n BS B : Nat} {sl : Value} {w W W' W'' : World} {t : List UInt8} (h : W9 n BS B sl w W t W') (hn : n ≤ W'.heap.size) (hb : Below W'.heap.size W' W'') : W9 n BS B sl w W t W'' :=
 ⟨isB_below h.b hb, (hb.block BS (Array.getElem?_eq_some_iff.1 h.s).1).trans h.s, h.l.trans (hb.mono hn), h.k.trans ((keeps_below hb).from _), h.q.trans ⟨hb.mono hn, hb.block BS (Array.getElem?_eq_some_iff.1 h.s).1⟩⟩
theorem W9.wr {n BS B : Nat} {sl : Value} {w W W' : World} {t : List UInt8} (h : W9 n BS B sl w W t W') (u : List UInt8) (hn : n ≤ W'.heap.size) (hB : BS ≠ n) (hl : t.length + u.length ≤ 140737488355328) :
 Calls Tryz.prog 108 #[.pointer (some ⟨n, 0, none⟩), .string ⟨u.toArray⟩] W' fun e W'' => e = .returned (.tuple #[.int .i64 u.length, .nilIface]) ∧ W9 n BS B sl w W (t ++ u) W'' := by
 have hsz : (⟨u.toArray⟩ : ByteArray).size = u.length := by simp [ByteArray.size]
 refine (Any.Builder_WriteString_k lay166 extB n n _ ⟨u.toArray⟩ W' h.b (by rw [Lib.byteCells_length, hsz]; exact hl) hn).mono ?_
 rintro e W'' ⟨rfl, hb, hbl, ho⟩
 have hs : W''.heap[BS]? = some (.cells #[sl] 27 (0, 0)) := ho BS _ h.s (by intro e; cases e; exact hB rfl) (by intro c fz e; cases e)
 refine ⟨by rw [hsz], .inr (by rw [Lib.byteCells_append]; exact hb), hs, h.l.trans hbl, h.k.trans ((keeps_builder h.b hbl ho).from _), h.q.trans ⟨hbl, hs.trans h.s.symm⟩⟩
end
section
attribute [local go_sem] Oper.semAt_some
theorem Format_pos {z : Int} (hz : z ≠ 0) (hl : (dig z.natAbs).length ≤ 274877906944) : C0 105 [.d (dz z)] (· = .d (.str (tx z))) := by
 have hcl := cks_len (n := z.natAbs) (k := (dig z.natAbs).length) (by have := val_lt (words_dig z.natAbs); rwa [val_dig] at this)
 have hp := List.length_pos_iff.2 (fun e : dig z.natAbs = [] => hz (by have := dig_eq_nil.1 e; omega))
 refine EnM Tryz.func105 fun W0 hg0 _ => ?_
 refine Ce rfl (trim_d (n := z.natAbs) (by omega)) ?_
 refine Cr rfl (clone_u32_own (l := dig z.natAbs) hp (by omega)) ?_
 refine No rfl (by simp only [List.length_map]; omega) ?_
 refine Nv 4 7 1 rfl ?_
 refine Lo (fun ((x, n, lo, cs) : Nat × Nat × List Nat × List Nat) => [(1, .ptr 1 0), (2, .d (.str [])), (3, .own 14 1 0 n), (4, .ptr 4 0)]) (fun (x, n, lo, cs) => [(1, .var (.d (dz z))), (14, .arr 1 (lo.map wd)), (4, .var (.gr 7 1 (cs.map wd))), (7, .tok (cs.map wd).length 1)])
  (fun (x, n, lo, cs) => Fm9 z.natAbs x n lo cs) (fun (x, _) => x) (z.natAbs, (dig z.natAbs).length, dig z.natAbs, []) [] rfl ⟨Nat.le_refl _, by omega, words_dig _, List.take_length .., rfl⟩ ?_ (by exact ⟨by simp only [List.length_map]; rfl, rfl, rfl, rfl, rfl⟩)
 rintro ⟨x, n, lo, cs⟩ hI
 have hn := Fm9_len hI
 obtain ⟨hnl, hll, hwo, hdx, hck⟩ := hI
 have hsz : ∀ j, j < n → lo[j]? = (dig x)[j]? := fun j hj => by rw [← hdx, List.getElem?_take, if_pos hj]
 refine By rfl (fun h => ?_) fun h => ?_
 · have h : (n : Int) > 0 := h
   have hx0 : x ≠ 0 := fun e => by rw [e, dig_zero] at hn; simp at hn; omega
   refine Ar ((n : Int) - 1) rfl ?_ (wr rfl (by simp only [inK]; omega))
   refine Lo (fun ((k, l, r) : Nat × List Nat × Nat) => [(1, .ptr 1 0), (2, .d (.str [])), (3, .own 14 1 0 n), (4, .ptr 4 0), (5, .d (.int .u64 r)), (6, .d (.int .i64 ((k : Int) - 1)))]) (fun (_, l, _) => [(1, .var (.d (dz z))), (14, .arr 1 (l.map wd)), (4, .var (.gr 7 1 (cs.map wd))), (7, .tok (cs.map wd).length 1)])
    (fun (k, l, r) => k ≤ n ∧ l.length = lo.length ∧ Words l ∧ r < 1000000000 ∧ val ((l.take n).drop k) * 1000000000 + r = val ((dig x).drop k) ∧ ∀ j, j < k → l[j]? = (dig x)[j]?) (fun (k, _, _) => k) (n, lo, 0) [] rfl
    ⟨Nat.le_refl _, rfl, hwo, by decide, by rw [List.drop_eq_nil_of_le (by rw [List.length_take]; omega), List.drop_eq_nil_of_le (by omega)]; simp [val], hsz⟩ ?_
   rintro ⟨k, l, r⟩ ⟨hk, hl2, hwl, hr, hval, hlj⟩
   refine By rfl (fun h2 => ?_) fun h2 => ?_
   · have h2 : (k : Int) - 1 ≥ 0 := h2
     obtain ⟨u, hu⟩ := xat (l := dig x) (k := k - 1) (by omega)
     have hub := ww hu (words_dig x)
     have hul : l[k - 1]? = some u := by rw [hlj _ (by omega), hu]
     obtain ⟨s, hs⟩ : ∃ s, s = r * 2 ^ 32 + u := ⟨_, rfl⟩
     have hs64 : s < 18446744073709551616 := by omega
     have hsy : s / 1000000000 < 4294967296 := by omega
     have hek : ((k : Int) - 1) = ((k - 1 : Nat) : Int) := by omega
     refine Ar (r * 2 ^ 32 : Nat) rfl ?_ (shl64 (n := 32) rfl (by omega) (by decide))
     refine Eo (k - 1) (by rw [hek]; rfl) (by omega) ?_
     refine Ld (wd u) rfl (mp hul) ?_
     refine Go.Vm.Cv u rfl ?_
     refine Ar s rfl ?_ (or64 (by omega) (by omega) (by rw [or_add u r 32 (by omega), ← hs]) hs64)
     refine Ar (s / 1000000000 : Nat) rfl ?_ (show _ ∧ _ from ⟨by decide, tquo s 1000000000 hs64⟩)
     refine Go.Vm.Cv (s / 1000000000 : Nat) rfl ?_ (wW ⟨Int.natCast_nonneg _, Int.ofNat_lt.2 hsy⟩)
     refine Eo (k - 1) (by rw [hek]; rfl) (by omega) ?_
     refine Sto rfl (by simp only [List.length_map]; omega) ms ?_
     refine Ar (s % 1000000000 : Nat) rfl ?_ (show _ ∧ _ from ⟨by decide, trem s 1000000000⟩)
     refine Ar ((k - 1 : Nat) - 1 : Int) rfl ?_ (wr (by omega) (by simp only [inK]; omega))
     have hs0 : val ((dig x).drop (k - 1)) = u + 4294967296 * val ((dig x).drop k) := by
      have := val_drop hu
      rwa [show k - 1 + 1 = k by omega] at this
     refine Bk (k - 1, l.set (k - 1) (s / 1000000000), s % 1000000000) [] rfl ⟨by omega, by simp [hl2], wset hwl hsy, Nat.mod_lt _ (by decide), ?_, fun j hj => ?_⟩ (by show k - 1 < k; omega)
     · rw [hs0, ← hval, List.take_set, drop_set (by rw [List.length_take]; omega), val, show k - 1 + 1 = k by omega]
       have e := Nat.div_add_mod s 1000000000
       have hs2 : s = r * 4294967296 + u := hs
       generalize val (((l.take n)).drop k) = V
       generalize s / 1000000000 = q at e ⊢
       generalize s % 1000000000 = m at e ⊢
       clear hck hcl hdx hsz hlj hs hval hs0 hsy hs64
       omega
     · rw [List.getElem?_set_ne (by omega)]; exact hlj j (by omega)
   · have hk0 : k = 0 := by
      have h2 : ¬ (k : Int) - 1 ≥ 0 := h2
      omega
     subst hk0
     rw [List.drop_zero, List.drop_zero, val_dig] at hval
     have hq : x / 1000000000 = val (l.take n) := by omega
     have hm : x % 1000000000 = r := by omega
     refine Cn [(1000001, 14)] rfl (itrim_own (l := l) (q := 0) (n := n) hwl (by omega) (by omega)) fun v hv => ?_
     obtain ⟨m, hmn, rfl, hml⟩ := hv
     rw [List.drop_zero, ← hq] at hml
     refine Go.Vm.Cv r rfl ?_
     refine ApG ((cs ++ [r]).map wd) rfl (by simp; rfl) (by simp; have := congrArg List.length hck; rw [List.length_append] at this; omega) ?_
     refine Bk (x / 1000000000, m, l, cs ++ [r]) [(50, 7)] rfl ⟨by omega, by omega, hwl, hml, ?_⟩ (by show x / 1000000000 < x; omega)
     rw [hck, cks_pos hx0, hm]; simp
 · have h : ¬ (n : Int) > 0 := h
   have hx0 : x = 0 := by
    have : dig x = [] := List.eq_nil_of_length_eq_zero (by omega)
    exact dig_eq_nil.1 this
   subst hx0
   rw [cks_zero, List.append_nil] at hck
   obtain ⟨zs, hzs⟩ := c9s (l := cs) fun x hx => cks_lt z.natAbs x (by rw [hck]; exact hx)
   have hzl : zs.length = cs.length := by rw [← hzs, List.length_map]
   have hz0 : z.natAbs ≠ 0 := by omega
   have hz1 : 0 < zs.length := by
    rw [hzl, ← hck, cks_pos hz0]; simp
   have hzn : zs.length ≤ 549755813888 := by rw [hzl, ← hck]; omega
   have htx : ∀ sg, sg ++ outT (zs.map (·.1)) = sg ++ dec z.natAbs := fun sg => by rw [hzs, ← hck, outT_cks _ hz0]
   refine Tl 15 rfl fun a w hw => ?_
   obtain ⟨s', W, θ, rfl, hS, hθ, rfl⟩ := hw
   have hgW : Gb.g Tryz.prog W := Gb.mono _ _ hS.fm.le hg0
   obtain ⟨b1, p1, e1⟩ := V_ptr (hS.rel.has 1 (.ptr 1 0) rfl)
   obtain ⟨b4, p4, e4⟩ := V_ptr (hS.rel.has 4 (.ptr 4 0) rfl)
   obtain ⟨bx, cx1, T1, q1, q2, q3, _⟩ := hS.obs.r 1 (.var (.d (dz z))) rfl
   obtain ⟨by4, cx4, T4, q5, q6, q7, _⟩ := hS.obs.r 4 (.var (.gr 7 1 (cs.map wd))) rfl
   obtain rfl : bx = b1 := Option.some.inj (q1.symm.trans p1)
   obtain rfl : by4 = b4 := Option.some.inj (q5.symm.trans p4)
   have c1 : W.w.cell? ⟨bx, 0, none⟩ = some (.bool (decide (z < 0))) := by
    obtain ⟨u, v, h1, h2, _⟩ := q3
    have h2 : u = [.bool (decide (z < 0))] := h2
    rw [cell_of q2, h1, h2]; rfl
   obtain ⟨b7, cp, c4, hcell⟩ : ∃ b7 cp, W.w.cell? ⟨by4, 0, none⟩ = some (.slice (some ⟨b7, 0, none⟩) zs.length cp) ∧ ∀ j, j < zs.length → W.w.cell? ⟨b7, 0 + j, none⟩ = some (.int .u32 ((zs[j]?.getD ⟨0, by decide⟩).1 : Int)) := by
    obtain ⟨p, h1, h0, h2, _, h5⟩ := q7
    simp only [List.length_map] at h1 h2
    rcases h5 with h5 | ⟨b7, h5, hrow⟩
    · have := congrArg List.length h5
      rw [List.length_map] at this
      have : cs.length = 0 := this
      omega
    · have hp : p = some ⟨b7, 0, none⟩ := by
       rcases h0 with h0 | h0
       · omega
       · rw [h0, h5]; rfl
      refine ⟨b7, _, by rw [cell_of q6, h1, hp, ← hzl]; rfl, fun j hj => ?_⟩
      obtain ⟨x, hx⟩ : ∃ x, zs[j]? = some x := ⟨_, List.getElem?_eq_getElem hj⟩
      obtain ⟨e, g1, _, g3⟩ := D.row_get hrow (i := j) (x := wd x.1) (by rw [← hzs]; simp [hx])
      have g1 : e = [.int .u32 x.1] := g1.1
      have := (g3 0 (.int .u32 x.1) (by rw [g1]; rfl)).1
      rw [hx]
      simpa using this
   have hb1 := Go.Proofs.YtpgcfjpkilabfaaGreatDoor.cell_lt c1
   have hb4 := Go.Proofs.YtpgcfjpkilabfaaGreatDoor.cell_lt c4
   have hb7 := Go.Proofs.YtpgcfjpkilabfaaGreatDoor.cell_lt (hcell 0 hz1)
   have hfm := hS.fm
   obtain ⟨tm, df⟩ := a
   obtain rfl : df = [] := hS.rel.defers
   obtain ⟨L⟩ := tm
   have hL : L.length = 74 := hS.rel.size
   clear hS
   obtain ⟨t0, L0, rfl, hL0⟩ := uncons hL
   clear hL
   obtain ⟨t1, L1, rfl, hL1⟩ := uncons hL0
   clear hL0
   obtain ⟨t2, L2, rfl, hL2⟩ := uncons hL1
   clear hL1
   obtain ⟨t3, L3, rfl, hL3⟩ := uncons hL2
   clear hL2
   obtain ⟨t4, L4, rfl, hL4⟩ := uncons hL3
   clear hL3
   obtain ⟨t5, L5, rfl, hL5⟩ := uncons hL4
   clear hL4
   obtain ⟨t6, L6, rfl, hL6⟩ := uncons hL5
   clear hL5
   obtain ⟨t7, L7, rfl, hL7⟩ := uncons hL6
   clear hL6
   obtain ⟨t8, L8, rfl, hL8⟩ := uncons hL7
   clear hL7
   obtain ⟨t9, L9, rfl, hL9⟩ := uncons hL8
   clear hL8
   obtain ⟨t10, L10, rfl, hL10⟩ := uncons hL9
   clear hL9
   obtain ⟨t11, L11, rfl, hL11⟩ := uncons hL10
   clear hL10
   obtain ⟨t12, L12, rfl, hL12⟩ := uncons hL11
   clear hL11
   obtain ⟨t13, L13, rfl, hL13⟩ := uncons hL12
   clear hL12
   obtain ⟨t14, L14, rfl, hL14⟩ := uncons hL13
   clear hL13
   obtain ⟨t15, L15, rfl, hL15⟩ := uncons hL14
   clear hL14
   obtain ⟨t16, L16, rfl, hL16⟩ := uncons hL15
   clear hL15
   obtain ⟨t17, L17, rfl, hL17⟩ := uncons hL16
   clear hL16
   obtain ⟨t18, L18, rfl, hL18⟩ := uncons hL17
   clear hL17
   obtain ⟨t19, L19, rfl, hL19⟩ := uncons hL18
   clear hL18
   obtain ⟨t20, L20, rfl, hL20⟩ := uncons hL19
   clear hL19
   obtain ⟨t21, L21, rfl, hL21⟩ := uncons hL20
   clear hL20
   obtain ⟨t22, L22, rfl, hL22⟩ := uncons hL21
   clear hL21
   obtain ⟨t23, L23, rfl, hL23⟩ := uncons hL22
   clear hL22
   obtain ⟨t24, L24, rfl, hL24⟩ := uncons hL23
   clear hL23
   obtain ⟨t25, L25, rfl, hL25⟩ := uncons hL24
   clear hL24
   obtain ⟨t26, L26, rfl, hL26⟩ := uncons hL25
   clear hL25
   obtain ⟨t27, L27, rfl, hL27⟩ := uncons hL26
   clear hL26
   obtain ⟨t28, L28, rfl, hL28⟩ := uncons hL27
   clear hL27
   obtain ⟨t29, L29, rfl, hL29⟩ := uncons hL28
   clear hL28
   obtain ⟨t30, L30, rfl, hL30⟩ := uncons hL29
   clear hL29
   obtain ⟨t31, L31, rfl, hL31⟩ := uncons hL30
   clear hL30
   obtain ⟨t32, L32, rfl, hL32⟩ := uncons hL31
   clear hL31
   obtain ⟨t33, L33, rfl, hL33⟩ := uncons hL32
   clear hL32
   obtain ⟨t34, L34, rfl, hL34⟩ := uncons hL33
   clear hL33
   obtain ⟨t35, L35, rfl, hL35⟩ := uncons hL34
   clear hL34
   obtain ⟨t36, L36, rfl, hL36⟩ := uncons hL35
   clear hL35
   obtain ⟨t37, L37, rfl, hL37⟩ := uncons hL36
   clear hL36
   obtain ⟨t38, L38, rfl, hL38⟩ := uncons hL37
   clear hL37
   obtain ⟨t39, L39, rfl, hL39⟩ := uncons hL38
   clear hL38
   obtain ⟨t40, L40, rfl, hL40⟩ := uncons hL39
   clear hL39
   obtain ⟨t41, L41, rfl, hL41⟩ := uncons hL40
   clear hL40
   obtain ⟨t42, L42, rfl, hL42⟩ := uncons hL41
   clear hL41
   obtain ⟨t43, L43, rfl, hL43⟩ := uncons hL42
   clear hL42
   obtain ⟨t44, L44, rfl, hL44⟩ := uncons hL43
   clear hL43
   obtain ⟨t45, L45, rfl, hL45⟩ := uncons hL44
   clear hL44
   obtain ⟨t46, L46, rfl, hL46⟩ := uncons hL45
   clear hL45
   obtain ⟨t47, L47, rfl, hL47⟩ := uncons hL46
   clear hL46
   obtain ⟨t48, L48, rfl, hL48⟩ := uncons hL47
   clear hL47
   obtain ⟨t49, L49, rfl, hL49⟩ := uncons hL48
   clear hL48
   obtain ⟨t50, L50, rfl, hL50⟩ := uncons hL49
   clear hL49
   obtain ⟨t51, L51, rfl, hL51⟩ := uncons hL50
   clear hL50
   obtain ⟨t52, L52, rfl, hL52⟩ := uncons hL51
   clear hL51
   obtain ⟨t53, L53, rfl, hL53⟩ := uncons hL52
   clear hL52
   obtain ⟨t54, L54, rfl, hL54⟩ := uncons hL53
   clear hL53
   obtain ⟨t55, L55, rfl, hL55⟩ := uncons hL54
   clear hL54
   obtain ⟨t56, L56, rfl, hL56⟩ := uncons hL55
   clear hL55
   obtain ⟨t57, L57, rfl, hL57⟩ := uncons hL56
   clear hL56
   obtain ⟨t58, L58, rfl, hL58⟩ := uncons hL57
   clear hL57
   obtain ⟨t59, L59, rfl, hL59⟩ := uncons hL58
   clear hL58
   obtain ⟨t60, L60, rfl, hL60⟩ := uncons hL59
   clear hL59
   obtain ⟨t61, L61, rfl, hL61⟩ := uncons hL60
   clear hL60
   obtain ⟨t62, L62, rfl, hL62⟩ := uncons hL61
   clear hL61
   obtain ⟨t63, L63, rfl, hL63⟩ := uncons hL62
   clear hL62
   obtain ⟨t64, L64, rfl, hL64⟩ := uncons hL63
   clear hL63
   obtain ⟨t65, L65, rfl, hL65⟩ := uncons hL64
   clear hL64
   obtain ⟨t66, L66, rfl, hL66⟩ := uncons hL65
   clear hL65
   obtain ⟨t67, L67, rfl, hL67⟩ := uncons hL66
   clear hL66
   obtain ⟨t68, L68, rfl, hL68⟩ := uncons hL67
   clear hL67
   obtain ⟨t69, L69, rfl, hL69⟩ := uncons hL68
   clear hL68
   obtain ⟨t70, L70, rfl, hL70⟩ := uncons hL69
   clear hL69
   obtain ⟨t71, L71, rfl, hL71⟩ := uncons hL70
   clear hL70
   obtain ⟨t72, L72, rfl, hL72⟩ := uncons hL71
   clear hL71
   obtain ⟨t73, L73, rfl, hL73⟩ := uncons hL72
   clear hL72
   obtain rfl := List.eq_nil_of_length_eq_zero hL73
   obtain rfl : t1 = .pointer (some ⟨bx, 0, none⟩) := e1
   obtain rfl : t4 = .pointer (some ⟨by4, 0, none⟩) := e4
   have hfin : ∀ {w' : World} {s : List UInt8}, Below W.w.heap.size W.w w' → s = tx z → Ret W0 (fun x => x = .d (.str (tx z))) (.returned (.string ⟨s.toArray⟩)) w' := fun {w' s} h e => by
    obtain ⟨W', h1, h2⟩ := fm_below h
    subst e
    refine ⟨W', _, _, rfl, h1, ⟨h2.os.trans hfm.os, h2.out.trans hfm.out, h2.tape.trans hfm.tape, Nat.le_trans hfm.size h2.size, fun b hb hx => (h2.same b (Nat.lt_of_lt_of_le hb hfm.size) id).trans (hfm.same b hb hx), fun b hb hx i => (h2.A b (Nat.lt_of_lt_of_le hb hfm.size) id i).trans (hfm.A b hb hx i), hfm.le.trans h2.le⟩, str_V ?_, fun _ h => h, rfl⟩
    have := dec_dig z.natAbs
    unfold tx
    split <;> simp only [List.length_append, List.length_cons, List.length_nil] <;> omega
   clear q2 q3 q6 q7 hθ hck
   obtain ⟨w, hww⟩ : ∃ w, w = W.w := ⟨_, rfl⟩
   have hgw : ∀ {w' : World}, Below w.heap.size w w' → Gb.g Tryz.prog (gw1 w') := fun h => Gb.mono _ _ (le_gw1 (n := w.heap.size) (by rw [← hww]; exact h) (by rw [← hww]; exact Nat.le_refl _)) hgW
   rw [← hww] at c1 c4 hcell hb1 hb4 hb7 hfin ⊢
   clear hww hgW hzl hzs hcl hnl hll hwo hn hdx hsz h hp hl q1 q5 p1 p4 hfm
   have hz9 : zs.length * 4 ≤ 140737488351232 := by omega
   have cA : ∀ o, (w.alloc o).cell? ⟨bx, 0, none⟩ = some (.bool (decide (z < 0))) := fun o => (World.cell?_of_block (a := ⟨bx, 0, none⟩) (Below.heap_alloc w o bx hb1)).trans c1
   have c4A : ∀ o, (w.alloc o).cell? ⟨by4, 0, none⟩ = some (.slice (some ⟨b7, 0, none⟩) zs.length cp) := fun o => (World.cell?_of_block (a := ⟨by4, 0, none⟩) (Below.heap_alloc w o by4 hb4)).trans c4
   by_cases hneg : z < 0
   · simp only [decide_eq_true hneg] at cA
     gi_wp2
     refine ⟨trivial, (callsIn_wide.2 (Any.Builder_WriteByte_k lay167 extB w.heap.size w.heap.size [] 45 _ (.of (Lib.fresh_isBuilder _ _ w)) (by decide) (by simp))).mono ?_⟩
     rintro e wb ⟨rfl, hB, hbw, hok⟩
     have hB : Lib.IsBuilderF (rnB.t 72) (rnB.t 5) w.heap.size w.heap.size (Lib.byteCells [45]) wb := .inr hB
     have hbw : Below w.heap.size w wb := ((Below.refl _ w).alloc (Nat.le_refl _) _).trans hbw
     have hlt : w.heap.size < wb.heap.size := by rcases hB with h | h <;> exact h.lt
     have c4b : wb.cell? ⟨by4, 0, none⟩ = some (.slice (some ⟨b7, 0, none⟩) zs.length cp) := (hbw.cell (p := ⟨by4, 0, none⟩) hb4).trans c4
     gi_wp2
     refine ⟨trivial, (back_in Fence.wide 7 trivial rfl _ _ _ _).mono ?_⟩
     rintro e w2 ⟨rfl, hw2⟩
     have hBS : w2.heap[wb.heap.size]? = some (.cells #[.slice (some ⟨b7, 0, none⟩) zs.length cp] 27 (0, 0)) := by rw [hw2]; exact World.alloc_heap_new wb _
     have hb2 : Below w.heap.size w w2 := by rw [hw2]; exact hbw.alloc (by have := hbw.size; omega) _
     have hB2 : Lib.IsBuilderF (rnB.t 72) (rnB.t 5) w.heap.size w.heap.size (Lib.byteCells [45]) w2 := by rw [hw2]; exact hB.alloc _
     have hs2 : w2.heap.size = wb.heap.size + 1 := by rw [hw2]; simp
     have hcell2 : ∀ j, j < zs.length → w2.cell? ⟨b7, 0 + j, none⟩ = some (.int .u32 ((zs[j]?.getD ⟨0, by decide⟩).1 : Int)) := fun j hj => (hb2.cell (p := ⟨b7, 0 + j, none⟩) hb7).trans (hcell j hj)
     have cBS : w2.cell? ⟨wb.heap.size, 0, none⟩ = some (.slice (some ⟨b7, 0, none⟩) zs.length cp) := by simp [World.cell?, hBS]
     obtain ⟨BS, hBSe⟩ : ∃ BS, BS = wb.heap.size := ⟨_, rfl⟩
     rw [← hBSe] at hBS hs2 cBS hlt ⊢
     clear hw2 hBSe hB hbw c4b hok
     gi_wp2
     refine wpIn_rangeFunc_ownG rfl (by decide) (gf := 258) (lb := #[.pointer (some ⟨BS, 0, none⟩)]) rfl trivial (enters_of Tryz.func258 (by kernel_rfl) rfl)
      (bk9_stops Fence.wide (8 - 1) trivial rfl (by decide) BS w.heap.size b7 0 cp zs hz9 w2 (by omega) (by omega) cBS hb7 hcell2) Kq.trans (fun W l o o' hl h _ _ => kq_put W l o hl (by omega) (by omega) h o') (Below.refl _ _) (fun _ => rfl)
      (fun pre W => (Lib.IsBuilderF (rnB.t 72) (rnB.t 5) w.heap.size w.heap.size (Lib.byteCells (o9 zs.length [45] pre)) W ∧ W.heap[BS]? = some (.cells #[.slice (some ⟨b7, 0, none⟩) zs.length cp] 27 (0, 0))) ∧ Below w.heap.size w W)
      (fun _ _ _ => False)
      (OwnFrom.and (Own.from (fun s A B row hs hg hr => ⟨isB_own _ _ _ _ (fun p => Lib.byteCells (o9 zs.length [45] p)) s A B row hs.1 hg hr, grownBy_box hs.2 hg hr⟩) _) (ownFrom_below (Nat.le_refl _) (by omega)))
      (fun _ _ _ _ _ hs _ _ => hs)
      ⟨⟨hB2, hBS⟩, hb2⟩
      (fun x => { tmps := #[t0, .pointer (some ⟨bx, 0, none⟩), t2, t3, .pointer (some ⟨by4, 0, none⟩), t5, t6, .pointer (some ⟨w.heap.size, 0, none⟩), .int .i64 (x.1 : Int), .int .u32 (x.2.1 : Int), t10, t11, t12, t13, t14, t15, t16, t17, t18, t19, t20, t21, t22, t23, t24, t25, t26, t27, t28, t29, t30, t31, t32, t33, t34, t35, t36, t37, t38, t39, t40, t41, t42, t43, t44, t45, t46, t47, t48, t49, t50, .pointer (some ⟨bx, 0, none⟩), .bool true, .nilIface, .slice (some ⟨b7, 0, none⟩) zs.length cp, .func (.func 258) #[] #[.pointer (some ⟨BS, 0, none⟩)], .int .i64 (x.1 : Int), .int .u32 (x.2.1 : Int), t58, t59, t60, t61, t62, t63, t64, t65, t66, t67, t68, t69, t70, t71, t72, t73], defers := [] }) ?assign ?body ?done ?stop
     case assign =>
      intro l x W K hK
      gi_wp2
      exact hK
     case stop =>
      rintro D c pre W _ _ h _
      exact h.elim
     case body =>
      rintro l pre x W ⟨⟨hBd, hBS⟩, hBl⟩ hlen
      gi_wp2
      rw [wU (by have := x.2.2; omega)]
      refine ⟨trivial, (CallsIn.inRound l (callsIn_wide.2 (fmtU (hgw hBl) x.2))).mono ?_⟩
      rintro e W1 ⟨rfl, hW1⟩
      have h9 : W9 w.heap.size BS w2.heap.size (.slice (some ⟨b7, 0, none⟩) zs.length cp) w W (o9 zs.length [45] pre) W1 := W9.below ⟨hBd, hBS, hBl, KeepsFrom.refl _ _, Kq.refl _ _ _⟩ hBl.size hW1
      have c41 : W1.cell? ⟨by4, 0, none⟩ = some (.slice (some ⟨b7, 0, none⟩) zs.length cp) := (h9.l.cell (p := ⟨by4, 0, none⟩) hb4).trans c4
      have hxl := dec9 x.2
      have hol := o9_len zs.length pre [45]
      have hos := o9_snoc zs.length [45] pre x
      have hsgl : ([45] : List UInt8).length ≤ 1 := by decide
      have hpl : pre.length < 549755813888 := by omega
      obtain ⟨ds, hds⟩ : ∃ ds, ds = dec x.2.1 := ⟨_, rfl⟩
      rw [← hds] at hxl hos ⊢
      have hBn : BS ≠ w.heap.size := by omega
      clear hds hBd hBS hW1
      gi_wp2
      · rename_i hx
        refine ⟨trivial, (CallsIn.inRound l (callsIn_wide.2 (rep0 (hgw h9.l) (n := 9 - ds.length) (by omega) (by omega)))).mono ?_⟩
        rintro e W2 ⟨rfl, hW2⟩
        have h9b := h9.below h9.l.size hW2
        obtain ⟨zr, hzr⟩ : ∃ zr, zr = List.replicate (9 - ds.length) (48 : UInt8) := ⟨_, rfl⟩
        have hzrl : zr.length ≤ 9 := by rw [hzr, List.length_replicate]; omega
        rw [← hzr]
        rw [if_pos (by omega), ← hzr] at hos
        clear hzr
        gi_wp2
        refine ⟨trivial, (CallsIn.inRound l (callsIn_wide.2 (h9b.wr zr h9b.l.size hBn (by omega)))).mono ?_⟩
        rintro e W3 ⟨rfl, h9c⟩
        gi_wp2
        refine ⟨trivial, (CallsIn.inRound l (callsIn_wide.2 (h9c.wr ds h9c.l.size hBn (by simp only [List.length_append]; omega)))).mono ?_⟩
        rintro e W4 ⟨rfl, h9d⟩
        gi_wp2
        exact ⟨h9d.k, h9d.q, ⟨by rw [hos]; exact h9d.b, h9d.s⟩, h9d.l⟩
      · rename_i hx
        rw [if_neg (by omega), List.append_nil] at hos
        refine ⟨trivial, (CallsIn.inRound l (callsIn_wide.2 (h9.wr ds h9.l.size hBn (by omega)))).mono ?_⟩
        rintro e W4 ⟨rfl, h9d⟩
        gi_wp2
        exact ⟨h9d.k, h9d.q, ⟨by rw [hos]; exact h9d.b, h9d.s⟩, h9d.l⟩
     case done =>
      rintro D ys W hD rfl ⟨⟨hBd, hBS⟩, hBl⟩ hK
      gi_wp2
      have hne : o9 zs.length [45] (b9 zs zs.length) = tx z := by
       rw [o9_bk _ _ _ (Nat.le_refl _), Nat.sub_self, List.drop_zero, htx]
       unfold tx
       rw [if_pos hneg]
      rw [hne] at hBd
      have hn0 : tx z ≠ [] := by
       unfold tx
       intro h
       exact dec_ne _ (List.append_eq_nil_iff.1 h).2
      refine ⟨trivial, (callsIn_wide.2 (Any.Builder_String_k lay169 extB w.heap.size w.heap.size (tx z) W hBd hn0)).mono ?_⟩
      rintro e W3 ⟨rfl, _, hb3, hok3⟩
      have hK3 := hok3 D _ hK (by intro h; cases h; have := hBl.size; omega) (by intro c fz h; cases h)
      gi_wp2
      refine ⟨by simp, .inl ⟨_, _, rfl, run_takeDeferred hK3, ?_⟩⟩
      refine ⟨_, results_tmp rfl _ _ _, ?_⟩
      refine hfin (s := tx z) ?_ rfl
      exact (hBl.trans hb3).trans (belowK_b (w := w) (Nat.le_refl _) W3 D _ _ (by omega) hK3 rfl rfl)
   · simp only [decide_eq_false hneg] at cA
     gi_wp2
     obtain ⟨wb, hwb⟩ : ∃ wb, wb = w.alloc (.cells #[.pointer none, .slice none 0 0] 148) := ⟨_, rfl⟩
     have hB : Lib.IsBuilderF (rnB.t 72) (rnB.t 5) w.heap.size w.heap.size (Lib.byteCells []) wb := by rw [hwb]; exact .of (Lib.fresh_isBuilder _ _ w)
     have hbw : Below w.heap.size w wb := by rw [hwb]; exact (Below.refl _ w).alloc (Nat.le_refl _) _
     have hlt : w.heap.size < wb.heap.size := by rcases hB with h | h <;> exact h.lt
     rw [← hwb]
     clear hwb
     refine ⟨trivial, (back_in Fence.wide 7 trivial rfl _ _ _ _).mono ?_⟩
     rintro e w2 ⟨rfl, hw2⟩
     have hBS : w2.heap[wb.heap.size]? = some (.cells #[.slice (some ⟨b7, 0, none⟩) zs.length cp] 27 (0, 0)) := by rw [hw2]; exact World.alloc_heap_new wb _
     have hb2 : Below w.heap.size w w2 := by rw [hw2]; exact hbw.alloc (by have := hbw.size; omega) _
     have hB2 : Lib.IsBuilderF (rnB.t 72) (rnB.t 5) w.heap.size w.heap.size (Lib.byteCells []) w2 := by rw [hw2]; exact hB.alloc _
     have hs2 : w2.heap.size = wb.heap.size + 1 := by rw [hw2]; simp
     have hcell2 : ∀ j, j < zs.length → w2.cell? ⟨b7, 0 + j, none⟩ = some (.int .u32 ((zs[j]?.getD ⟨0, by decide⟩).1 : Int)) := fun j hj => (hb2.cell (p := ⟨b7, 0 + j, none⟩) hb7).trans (hcell j hj)
     have cBS : w2.cell? ⟨wb.heap.size, 0, none⟩ = some (.slice (some ⟨b7, 0, none⟩) zs.length cp) := by simp [World.cell?, hBS]
     obtain ⟨BS, hBSe⟩ : ∃ BS, BS = wb.heap.size := ⟨_, rfl⟩
     rw [← hBSe] at hBS hs2 cBS hlt ⊢
     clear hw2 hBSe hB hbw
     gi_wp2
     refine wpIn_rangeFunc_ownG rfl (by decide) (gf := 258) (lb := #[.pointer (some ⟨BS, 0, none⟩)]) rfl trivial (enters_of Tryz.func258 (by kernel_rfl) rfl)
      (bk9_stops Fence.wide (8 - 1) trivial rfl (by decide) BS w.heap.size b7 0 cp zs hz9 w2 (by omega) (by omega) cBS hb7 hcell2) Kq.trans (fun W l o o' hl h _ _ => kq_put W l o hl (by omega) (by omega) h o') (Below.refl _ _) (fun _ => rfl)
      (fun pre W => (Lib.IsBuilderF (rnB.t 72) (rnB.t 5) w.heap.size w.heap.size (Lib.byteCells (o9 zs.length [] pre)) W ∧ W.heap[BS]? = some (.cells #[.slice (some ⟨b7, 0, none⟩) zs.length cp] 27 (0, 0))) ∧ Below w.heap.size w W)
      (fun _ _ _ => False)
      (OwnFrom.and (Own.from (fun s A B row hs hg hr => ⟨isB_own _ _ _ _ (fun p => Lib.byteCells (o9 zs.length [] p)) s A B row hs.1 hg hr, grownBy_box hs.2 hg hr⟩) _) (ownFrom_below (Nat.le_refl _) (by omega)))
      (fun _ _ _ _ _ hs _ _ => hs)
      ⟨⟨hB2, hBS⟩, hb2⟩
      (fun x => { tmps := #[t0, .pointer (some ⟨bx, 0, none⟩), t2, t3, .pointer (some ⟨by4, 0, none⟩), t5, t6, .pointer (some ⟨w.heap.size, 0, none⟩), .int .i64 (x.1 : Int), .int .u32 (x.2.1 : Int), t10, t11, t12, t13, t14, t15, t16, t17, t18, t19, t20, t21, t22, t23, t24, t25, t26, t27, t28, t29, t30, t31, t32, t33, t34, t35, t36, t37, t38, t39, t40, t41, t42, t43, t44, t45, t46, t47, t48, t49, t50, .pointer (some ⟨bx, 0, none⟩), .bool false, t53, .slice (some ⟨b7, 0, none⟩) zs.length cp, .func (.func 258) #[] #[.pointer (some ⟨BS, 0, none⟩)], .int .i64 (x.1 : Int), .int .u32 (x.2.1 : Int), t58, t59, t60, t61, t62, t63, t64, t65, t66, t67, t68, t69, t70, t71, t72, t73], defers := [] }) ?assign ?body ?done ?stop
     case assign =>
      intro l x W K hK
      gi_wp2
      exact hK
     case stop =>
      rintro D c pre W _ _ h _
      exact h.elim
     case body =>
      rintro l pre x W ⟨⟨hBd, hBS⟩, hBl⟩ hlen
      gi_wp2
      rw [wU (by have := x.2.2; omega)]
      refine ⟨trivial, (CallsIn.inRound l (callsIn_wide.2 (fmtU (hgw hBl) x.2))).mono ?_⟩
      rintro e W1 ⟨rfl, hW1⟩
      have h9 : W9 w.heap.size BS w2.heap.size (.slice (some ⟨b7, 0, none⟩) zs.length cp) w W (o9 zs.length [] pre) W1 := W9.below ⟨hBd, hBS, hBl, KeepsFrom.refl _ _, Kq.refl _ _ _⟩ hBl.size hW1
      have c41 : W1.cell? ⟨by4, 0, none⟩ = some (.slice (some ⟨b7, 0, none⟩) zs.length cp) := (h9.l.cell (p := ⟨by4, 0, none⟩) hb4).trans c4
      have hxl := dec9 x.2
      have hol := o9_len zs.length pre []
      have hos := o9_snoc zs.length [] pre x
      have hsgl : ([] : List UInt8).length ≤ 1 := by decide
      have hpl : pre.length < 549755813888 := by omega
      obtain ⟨ds, hds⟩ : ∃ ds, ds = dec x.2.1 := ⟨_, rfl⟩
      rw [← hds] at hxl hos ⊢
      have hBn : BS ≠ w.heap.size := by omega
      clear hds hBd hBS hW1
      gi_wp2
      · rename_i hx
        refine ⟨trivial, (CallsIn.inRound l (callsIn_wide.2 (rep0 (hgw h9.l) (n := 9 - ds.length) (by omega) (by omega)))).mono ?_⟩
        rintro e W2 ⟨rfl, hW2⟩
        have h9b := h9.below h9.l.size hW2
        obtain ⟨zr, hzr⟩ : ∃ zr, zr = List.replicate (9 - ds.length) (48 : UInt8) := ⟨_, rfl⟩
        have hzrl : zr.length ≤ 9 := by rw [hzr, List.length_replicate]; omega
        rw [← hzr]
        rw [if_pos (by omega), ← hzr] at hos
        clear hzr
        gi_wp2
        refine ⟨trivial, (CallsIn.inRound l (callsIn_wide.2 (h9b.wr zr h9b.l.size hBn (by omega)))).mono ?_⟩
        rintro e W3 ⟨rfl, h9c⟩
        gi_wp2
        refine ⟨trivial, (CallsIn.inRound l (callsIn_wide.2 (h9c.wr ds h9c.l.size hBn (by simp only [List.length_append]; omega)))).mono ?_⟩
        rintro e W4 ⟨rfl, h9d⟩
        gi_wp2
        exact ⟨h9d.k, h9d.q, ⟨by rw [hos]; exact h9d.b, h9d.s⟩, h9d.l⟩
      · rename_i hx
        rw [if_neg (by omega), List.append_nil] at hos
        refine ⟨trivial, (CallsIn.inRound l (callsIn_wide.2 (h9.wr ds h9.l.size hBn (by omega)))).mono ?_⟩
        rintro e W4 ⟨rfl, h9d⟩
        gi_wp2
        exact ⟨h9d.k, h9d.q, ⟨by rw [hos]; exact h9d.b, h9d.s⟩, h9d.l⟩
     case done =>
      rintro D ys W hD rfl ⟨⟨hBd, hBS⟩, hBl⟩ hK
      gi_wp2
      have hne : o9 zs.length [] (b9 zs zs.length) = tx z := by
       rw [o9_bk _ _ _ (Nat.le_refl _), Nat.sub_self, List.drop_zero, htx]
       unfold tx
       rw [if_neg (by omega)]
      rw [hne] at hBd
      have hn0 : tx z ≠ [] := by
       unfold tx
       intro h
       exact dec_ne _ (List.append_eq_nil_iff.1 h).2
      refine ⟨trivial, (callsIn_wide.2 (Any.Builder_String_k lay169 extB w.heap.size w.heap.size (tx z) W hBd hn0)).mono ?_⟩
      rintro e W3 ⟨rfl, _, hb3, hok3⟩
      have hK3 := hok3 D _ hK (by intro h; cases h; have := hBl.size; omega) (by intro c fz h; cases h)
      gi_wp2
      refine ⟨by simp, .inl ⟨_, _, rfl, run_takeDeferred hK3, ?_⟩⟩
      refine ⟨_, results_tmp rfl _ _ _, ?_⟩
      refine hfin (s := tx z) ?_ rfl
      exact (hBl.trans hb3).trans (belowK_b (w := w) (Nat.le_refl _) W3 D _ _ (by omega) hK3 rfl rfl)
theorem iFormat_ok {z : Int} (hl : (dig z.natAbs).length ≤ 274877906944) : C0 105 [.d (dz z)] (· = .d (.str (tx z))) := by
 by_cases hz : z = 0
 · subst hz
   have : tx 0 = [48] := by unfold tx; rw [if_neg (by decide), show Int.natAbs 0 = 0 from rfl, dec_lt (by decide)]; rfl
   rw [this]; exact Format_zero
 · exact Format_pos hz hl
end
end Go.Proofs.YtpgcfjpkilabfaaGreatDoor
namespace Go.Proofs.YtpgcfjpkilabfaaGreatDoor.P11
open Go Go.Vm Go.Num Go.Tow Go.Proofs.YtpgcfjpkilabfaaGreatDoor Go.Proofs.YtpgcfjpkilabfaaGreatDoor.P9 Go.Proofs.YtpgcfjpkilabfaaGreatDoor.R11
section
def fmtV (z : Int) (d : Nat) : AV := if (txt z d).length ≤ 400 then .tup (.pr (.d (.str (txt z d))) (.d (.int .i64 0))) else .tup (.pr (.d (.str [])) (.d (.int .i64 3)))
abbrev RndOf (x : Nm) (d : Nat) (z : Int) : Prop := FloorOf x.k x.t (scl x.k x.t x.a ((10 ^ d : Int) : Rat) hf) z
theorem dcT {p : Prop} (h : p) : dc p = true := dc_iff.2 h
theorem dcF {p : Prop} (h : ¬ p) : dc p = false := Bool.eq_false_iff.2 fun e => h (dc_iff.1 e)
theorem cut_tx {z : Int} (hl : (dig z.natAbs).length ≤ 274877906944) : C0 104 [.d (.str (tx z)), .d (.str [45])] (· = .tup (.pr (.d (.str (dec z.natAbs))) (.b (dc (z < 0))))) := by
 have hlen := dec_dig z.natAbs
 have hT : Tx (tx z) := by
  by_cases h : z < 0
  · rw [tx_neg h]; show (45 :: dec z.natAbs).length < _; rw [List.length_cons]; omega
  · rw [tx_pos h]; show (dec z.natAbs).length < _; omega
 have h := CutPrefix_ok (s := tx z) (t := [45]) hT (by decide)
 by_cases hz : z < 0
 · have e : (tx z).take [(45 : UInt8)].length = [45] := by rw [tx_neg hz]; rfl
   rw [if_pos e, show (tx z).drop [(45 : UInt8)].length = dec z.natAbs by rw [tx_neg hz]; rfl] at h
   exact h.mono fun v hv => by rw [hv, dcT e, dcT hz]
 · have e : ¬ (tx z).take [(45 : UInt8)].length = [45] := fun e => by
    rw [tx_pos hz] at e
    have hm : (45 : UInt8) ∈ dec z.natAbs := List.mem_of_mem_take (by rw [e]; exact List.mem_singleton.2 rfl)
    have := (dec_dg z.natAbs 45 hm).1
    exact absurd this (by decide)
   exact h.mono fun v hv => by rw [hv, if_neg e, dcF e, dcF hz, tx_pos hz]
theorem Format_ok {x : Nm} {d : Nat} (H : Pk x) (hd : d ≤ 60) : C0 48 [.d (dN x), .d (.int .i64 d)] fun v => ∃ z, RndOf x d z ∧ (dig z.natAbs).length ≤ 274877906944 ∧ v = fmtV z d := by
 refine En Tryz.func48 fun _ _ _ => ?_
 refine Ca rfl (Round_ok H hd) fun v hv => ?_
 obtain ⟨z, rfl, hz, hl⟩ := hv
 have hlen := dec_dig z.natAbs
 have hpl := pad_len d (dec z.natAbs)
 have hdp := dec_pos z.natAbs
 obtain ⟨s, hs⟩ : ∃ s, s = dec z.natAbs := ⟨_, rfl⟩
 rw [← hs] at hlen hpl hdp
 have hct := cut_tx hl
 rw [← hs] at hct
 refine No rfl (by decide) ?_
 refine Ce rfl (iFormat_ok hl) ?_
 refine Ce rfl hct ?_
 obtain ⟨q, hq⟩ : ∃ q, q = pad d s := ⟨_, rfl⟩
 have hql : q.length = max (d + 1) s.length := by rw [hq, hpl]
 obtain ⟨r, hr⟩ : ∃ r, r = pt d q := ⟨_, rfl⟩
 have hrl : r.length ≤ q.length + 1 := by
  rw [hr, pt]; split
  · omega
  · rw [List.length_append, List.length_cons, List.length_take, List.length_drop]; omega
 have htx : txt z d = (if z < 0 then [45] else []) ++ r := by rw [txt, hr, hq, hs]
 refine Cu none (fun (_ : Unit) => [(1, .d (.int .i64 d)), (8, .d (.str q)), (9, .b (dc (z < 0)))]) (fun _ => []) (fun _ => True) rfl ?_ fun _ _ => ?_
 · refine By rfl (fun h => ?_) fun h => ?_
   · have h : ((s.length : Nat) : Int) ≤ d := h
     refine Ar (d + 1 : Nat) rfl ?_
     refine Ar (d + 1 - s.length : Nat) rfl ?_
     refine Ce rfl (Repeat0_ok (by omega)) ?_
     refine Sc q rfl (by rw [hq]; rfl) (by rw [List.length_replicate]; omega) ?_
     exact Jn () [] rfl trivial
   · have h : ¬ ((s.length : Nat) : Int) ≤ d := h
     have e : q = s := by rw [hq, pad, show d + 1 - s.length = 0 by omega]; rfl
     rw [e]
     exact Jn () [] rfl trivial
 refine Cu none (fun (_ : Unit) => [(1, .d (.int .i64 d)), (8, .d (.str r)), (9, .b (dc (z < 0)))]) (fun _ => []) (fun _ => True) rfl ?_ fun _ _ => ?_
 · refine By rfl (fun h => ?_) fun h => ?_
   · refine Dw rfl ?_
     refine Ar ((q.length - d : Nat) : Int) rfl ?_
     refine Stk (q.length - d) _ rfl (by omega) rfl ?_
     refine Sc (q.take (q.length - d) ++ [46]) rfl rfl (by simp; omega) ?_
     refine Ar ((q.length - d : Nat) : Int) rfl ?_
     refine Sdp (q.length - d) _ rfl (by omega) rfl ?_
     refine Sc r rfl (by rw [hr, pt, if_neg (by omega)]; simp) (by simp; omega) ?_
     exact Jn () [] rfl trivial
   · have e : r = q := by rw [hr, pt, if_pos (by omega)]
     rw [e]
     exact Jn () [] rfl trivial
 refine Cu none (fun (_ : Unit) => [(8, .d (.str (txt z d)))]) (fun _ => []) (fun _ => True) rfl ?_ fun _ _ => ?_
 · refine By rfl (fun h => ?_) fun h => ?_
   · refine Sc (txt z d) rfl (by rw [htx, if_pos h]) (by show 1 + r.length < _; omega) ?_
     exact Jn () [] rfl trivial
   · rw [htx, if_neg h]
     exact Jn () [] rfl trivial
 refine By rfl (fun h => ?_) fun h => ?_
 · exact Rt rfl (.tup (.cons (.rf rfl) fitI)) ⟨z, hz, hl, by rw [fmtV, if_neg (by omega)]⟩
 · exact Rt rfl (.tup (.cons (.rf rfl) fitI)) ⟨z, hz, hl, by rw [fmtV, if_pos (by omega)]⟩
theorem dFmt_ok {x : Nm} {d : Nat} (H : Pk x) (hd : d ≤ 60) : C0 48 [.d (dN x), .d (.int .i64 d)] fun v => ∃ z, RndOf x d z ∧ (dig z.natAbs).length ≤ 274877906944 ∧ v = fmtV z d := Format_ok H hd
end
section
end
section
end
end Go.Proofs.YtpgcfjpkilabfaaGreatDoor.P11
namespace Go.Proofs.YtpgcfjpkilabfaaGreatDoor.R3
open Go Go.Vm Go.Num Go.Tow Go.Proofs.YtpgcfjpkilabfaaGreatDoor
section
variable {x : Rat} {s b : Nat}
end
section
variable {p q : Rat × Rat} {s t b : Nat}
end
end Go.Proofs.YtpgcfjpkilabfaaGreatDoor.R3
namespace Go.Proofs.YtpgcfjpkilabfaaGreatDoor.R7
open Go Go.Vm Go.Num Go.Tow Go.Proofs.YtpgcfjpkilabfaaGreatDoor
end Go.Proofs.YtpgcfjpkilabfaaGreatDoor.R7
namespace Go.Vm
open Go
section
variable {c : Cx} {s : St}
end
end Go.Vm
namespace Go.Proofs.YtpgcfjpkilabfaaGreatDoor.R11
open Go Go.Vm Go.Num Go.Tow Go.Proofs.YtpgcfjpkilabfaaGreatDoor Go.Proofs.YtpgcfjpkilabfaaGreatDoor.P11
end Go.Proofs.YtpgcfjpkilabfaaGreatDoor.R11
namespace Go.Proofs.YtpgcfjpkilabfaaGreatDoor.P11
open Go Go.Vm Go.Num Go.Tow Go.Proofs.YtpgcfjpkilabfaaGreatDoor Go.Proofs.YtpgcfjpkilabfaaGreatDoor.P9 Go.Proofs.YtpgcfjpkilabfaaGreatDoor.R11 Go.Proofs.YtpgcfjpkilabfaaGreatDoor.R9
section
theorem Pk_rat {q : Rat} {n : Nat} (hq : Qs n q) (hn : n ≤ 1700) : Pk ⟨0, (), q⟩ :=
 ⟨Nat.zero_le _, trivial, trivial, trivial, .inr ⟨rfl, fun x hx => by obtain rfl := List.mem_singleton.1 hx; exact hq.mono hn⟩⟩
abbrev two : Nm := ⟨0, (), (2 : Rat)⟩
end
section
section
variable {k : Nat} {t : Tw k} {a : El k}
end
theorem txt_at {d : Nat} (l : List UInt8) (hl : l.length = d + 1) (hd : ∀ b ∈ l, isDg b) : txt (dval l : Nat) d = pt d l := by
 unfold txt
 rw [if_neg (by omega), Int.natAbs_natCast, dec_fix d l hl hd]; rfl
theorem rnd_at {q : Rat} {d : Nat} {z : Int} (h1 : 0 ≤ sgnQ (q * ((10 ^ d : Int) : Rat) + hf + -(z : Rat))) (h2 : sgnQ (q * ((10 ^ d : Int) : Rat) + hf + -((z + 1 : Int) : Rat)) = -1) : RndOf ⟨0, (), q⟩ d z := ⟨h1, h2⟩
end
end Go.Proofs.YtpgcfjpkilabfaaGreatDoor.P11
namespace Go.Proofs.YtpgcfjpkilabfaaGreatDoor
open Go Go.Vm Go.Num Go.Tow
namespace P47
theorem Valid_arc {K : Nat} {G : Tw K} {S : List (Tow.El K)} {N : List Nm} {n m k : Nat} {p q r : V2 K} {c : Cv} (W : Wn G S N) (ha : c.arc = true) (hu : Gv G S N n c.C p) (hs : Gv G S N m c.A q) (ht : Gv G S N k c.B r) (hx : P19.Trm c.C.x) (hy : P19.Trm c.C.y) (h2 : n + m + (n + m) + (n + m + (n + m)) ≤ 190) (h3 : n + k + (n + k) + (n + k + (n + k)) ≤ 190) (hp : p ≠ q) (hr : p ≠ r) : C0 53 [.d (dC c)] (· = .b (dc (vdot G (vsub q p) (vsub q p) = vdot G (vsub r p) (vsub r p)))) := by
 obtain ⟨_, A, B, C, cw⟩ := c
 obtain rfl : _ = true := ha
 refine En Tryz.func53 fun _ _ _ => ?_
 refine No rfl (fun h => h rfl) ?_
 refine Ca rfl (P15.Around_g W hu hs hx hy (by omega) hp) fun v hv => ?_
 obtain ⟨z, rfl, hz⟩ := hv
 refine Ca rfl (P15.Around_g W hu ht hx hy (by omega) hr) fun v hv => ?_
 obtain ⟨w, rfl, hw⟩ := hv
 refine Yes rfl (by decide) ?_
 refine Yes rfl (by decide) ?_
 refine Ce rfl (P9.Equal_g W hz hw h2 h3) ?_
 exact R0
theorem On_full {c : Cv} {z : Nm} {x : Vn} (ha : c.arc = true) (h1 : C0 120 [.d (dC c)] (· = .tup (.pr (.d (P15.dK c.C z)) (.d (.int .i64 0))))) (h2 : C0 121 [.d (P15.dK c.C z), .d (dV x)] (· = .tup (.pr (.d (.int .i64 0)) (.d (.int .i64 0))))) (h3 : C0 122 [.d (dC c)] (· = .b true)) : C0 57 [.d (dC c), .d (dV x)] (· = .b true) := by
 obtain ⟨_, A, B, C, cw⟩ := c
 obtain rfl : _ = true := ha
 refine En Tryz.func57 fun _ _ _ => ?_
 refine No rfl (fun h => h rfl) ?_
 refine Ce rfl h1 ?_
 refine No rfl (by decide) ?_
 refine Ce rfl h2 ?_
 refine No rfl (by decide) ?_
 refine No rfl (by decide) ?_
 refine Ce rfl h3 ?_
 refine Yes rfl rfl ?_
 exact R0
end P47
namespace P55
theorem Add0 {p q r : Rat × Rat} (hp : Qp 64 p) (hq : Qp 64 q) (h : vplus (K := 0) p q = r) : C0 56 [.d (dV (v0 p)), .d (dV (v0 q))] (· = .tup (.pr (.d (dV (v0 r))) (.d (.int .i64 0)))) := (P13.Add_g W0 (gv0 hp) (gv0 hq) (by decide) (by decide)).mono fun v ⟨z, e, hz⟩ => by rw [e, gv_eq hz, h]
theorem Sub0 {p q r : Rat × Rat} (hp : Qp 64 p) (hq : Qp 64 q) (h : vsub (K := 0) p q = r) : C0 101 [.d (dV (v0 p)), .d (dV (v0 q))] (· = .tup (.pr (.d (dV (v0 r))) (.d (.int .i64 0)))) := (P13.Sub_g W0 (gv0 hp) (gv0 hq) (by decide) (by decide)).mono fun v ⟨z, e, hz⟩ => by rw [e, gv_eq hz, h]
theorem Equal0 {p q : Rat × Rat} {b : Bool} (hp : Qp 64 p) (hq : Qp 64 q) (h : dc (p = q) = b) : C0 96 [.d (dV (v0 p)), .d (dV (v0 q))] (· = .b b) := (P13.Equal_g W0 (gv0 hp) (gv0 hq) (by decide) (by decide)).mono fun v e => e.trans (congrArg AV.b h)
theorem Neg0 {q s : Rat} (hq : Qs 64 q) (h : -q = s) : C0 22 [.d (dN (nr q))] (· = .d (dN (nr s))) := (P9.Neg_g W0 (g0 hq) (by decide)).mono fun v ⟨z, e, hz⟩ => by rw [e, zw hz.o, ← h]; rfl
theorem flo_at {q : Rat} {d : Nat} {z : Int} (hq : Qs 64 q) (hd : d ≤ 60) (h1 : 0 ≤ sgnQ (q * ((10 ^ d : Int) : Rat) + ((0 : Int) : Rat) + -(z : Rat))) (h2 : sgnQ (q * ((10 ^ d : Int) : Rat) + ((0 : Int) : Rat) + -((z + 1 : Int) : Rat)) = -1) : C0 23 [.d (dN (nr q)), .d (.int .i64 d)] (· = .tup (.pr (.d (dz z)) (.d (.int .i64 0)))) :=
 (P11.Floor_ok (P11.Pk_rat hq (by decide)) hd).mono fun v ⟨w, e, hw, _⟩ => by
  obtain rfl := FloorOf.uniq (k := 0) (t := ()) trivial hw (show FloorOf 0 () _ z from ⟨h1, h2⟩)
  exact e
theorem fmt_q {x : Nm} {d : Nat} {z : Int} {s : List UInt8} (H : P11.Pk x) (hd : d ≤ 60) (hz : P11.RndOf x d z) (ht : txt z d = s) (hs : s.length ≤ 400) : C0 48 [.d (dN x), .d (.int .i64 d)] (· = .tup (.pr (.d (.str s)) (.d (.int .i64 0)))) :=
 (P11.dFmt_ok H hd).mono fun v ⟨w, hw, _, hv⟩ => by
  obtain rfl := FloorOf.uniq H.re hw hz
  subst ht
  rw [hv, P11.fmtV, if_pos hs]
theorem dg : ∀ l : List UInt8, l.all isD = true → ∀ b ∈ l, isDg b := fun l h => all_dg.1 h
abbrev i0 : Rat := ((0 : Int) : Rat)
abbrev i1 : Rat := ((1 : Int) : Rat)
abbrev i2 : Rat := ((2 : Int) : Rat)
abbrev im : Rat := ((-1 : Int) : Rat)
theorem Pki {q : Rat} (h : Qs 64 q) : P11.Pk ⟨0, (), q⟩ := P11.Pk_rat h (by decide)
theorem q0 : Qs 64 i0 := by decide +kernel
theorem q1 : Qs 64 i1 := by decide +kernel
theorem q2 : Qs 64 i2 := by decide +kernel
theorem qm : Qs 64 im := by decide +kernel
theorem f01 : C0 48 [.d (dN (nr i0)), .d (.int .i64 1)] (· = .tup (.pr (.d (.str [48, 46, 48])) (.d (.int .i64 0)))) := fmt_q (d := 1) (z := 0) (s := [48, 46, 48]) (Pki q0) (by decide) (P11.rnd_at (by decide +kernel) (by decide +kernel)) (P11.txt_at [48, 48] rfl (dg _ rfl)) (by decide)
theorem f11 : C0 48 [.d (dN (nr i1)), .d (.int .i64 1)] (· = .tup (.pr (.d (.str [49, 46, 48])) (.d (.int .i64 0)))) := fmt_q (d := 1) (z := 10) (s := [49, 46, 48]) (Pki q1) (by decide) (P11.rnd_at (by decide +kernel) (by decide +kernel)) (P11.txt_at [49, 48] rfl (dg _ rfl)) (by decide)
theorem f21 : C0 48 [.d (dN (nr i2)), .d (.int .i64 1)] (· = .tup (.pr (.d (.str [50, 46, 48])) (.d (.int .i64 0)))) := fmt_q (d := 1) (z := 20) (s := [50, 46, 48]) (Pki q2) (by decide) (P11.rnd_at (by decide +kernel) (by decide +kernel)) (P11.txt_at [50, 48] rfl (dg _ rfl)) (by decide)
theorem f00 : C0 48 [.d (dN (nr i0)), .d (.int .i64 0)] (· = .tup (.pr (.d (.str [48])) (.d (.int .i64 0)))) := fmt_q (d := 0) (z := 0) (s := [48]) (Pki q0) (by decide) (P11.rnd_at (by decide +kernel) (by decide +kernel)) (P11.txt_at [48] rfl (dg _ rfl)) (by decide)
theorem f10 : C0 48 [.d (dN (nr i1)), .d (.int .i64 0)] (· = .tup (.pr (.d (.str [49])) (.d (.int .i64 0)))) := fmt_q (d := 0) (z := 1) (s := [49]) (Pki q1) (by decide) (P11.rnd_at (by decide +kernel) (by decide +kernel)) (P11.txt_at [49] rfl (dg _ rfl)) (by decide)
theorem fm0 : C0 48 [.d (dN (nr im)), .d (.int .i64 0)] (· = .tup (.pr (.d (.str [45, 49])) (.d (.int .i64 0)))) := fmt_q (d := 0) (z := -1) (s := [45, 49]) (Pki qm) (by decide) (P11.rnd_at (by decide +kernel) (by decide +kernel)) (by unfold txt; rw [if_pos (by decide), show (-1 : Int).natAbs = 1 from rfl, dec_lt (show 1 < 10 by decide)]; rfl) (by decide)
abbrev sg : Cv := ⟨false, v0 (i0, i0), v0 (i1, i2), v0 (i0, i0), false⟩
abbrev wh : Cv := ⟨true, v0 (i1, i0), v0 (i1, i0), v0 (i0, i0), false⟩
theorem one1 {α : Type} {x y : α} {i : Nat} (h : [x][i]? = some y) : i = 0 ∧ x = y := by
 cases i with
 | zero => exact ⟨rfl, by simpa using h⟩
 | succ i => simp at h
theorem Path_sg : C0 16 [.d (dCs' [sg]), .d (.int .i64 1)] (· = .tup (.pr (.d (.str [77, 32, 48, 46, 48, 32, 48, 46, 48, 32, 76, 32, 49, 46, 48, 32, 50, 46, 48])) (.d (.int .i64 0)))) := by
 have hV : C0 53 [.d (dC sg)] (· = .b true) := (P47.Valid_seg (K := 0) (G := ()) (S := []) (N := []) (n := 1) (m := 1) (c := sg) (p := (i0, i0)) (q := (i1, i2)) W0 rfl (gv0 ⟨q0, q0⟩) (gv0 ⟨q1, q2⟩) (by decide) (by decide)).mono fun v e => by rw [e]; exact congrArg AV.b (dc_iff.2 (by decide +kernel))
 have hp := isPath_ok (l := [sg]) (by decide) (by decide) (fun c hc => by obtain rfl := List.mem_singleton.1 hc; exact hV) (fun i c d _ h => by simp at h)
 have hw := words_ok (c0 := sg) (d0 := sg) (l := [sg]) (Z := [segW sg.B]) (cl := false) rfl rfl (by decide) rfl (fun i c w h1 h2 => by
  obtain ⟨rfl, rfl⟩ := one1 h1
  obtain ⟨_, rfl⟩ := one1 h2
  exact .seg rfl) (Equal0 ⟨q0, q0⟩ ⟨q1, q2⟩ (P11.dcF (by decide +kernel)))
 exact Path_ok (l := [sg]) (d := 1) (T := [[77], [48, 46, 48], [48, 46, 48], [76], [49, 46, 48], [50, 46, 48]]) (by decide) hp hw (by decide) rfl (fun i w t h1 h2 => by
  match i, h1, h2 with
  | 0, h1, h2 => cases h1; cases h2; rfl
  | 1, h1, h2 => cases h1; cases h2; exact f01
  | 2, h1, h2 => cases h1; cases h2; exact f01
  | 3, h1, h2 => cases h1; cases h2; rfl
  | 4, h1, h2 => cases h1; cases h2; exact f11
  | 5, h1, h2 => cases h1; cases h2; exact f21
  | i + 6, h1, h2 => cases h1) (by decide)
theorem Valid_wh : C0 53 [.d (dC wh)] (· = .b true) := (P47.Valid_arc (K := 0) (G := ()) (S := []) (N := []) (n := 1) (m := 1) (k := 1) (c := wh) (p := (i0, i0)) (q := (i1, i0)) (r := (i1, i0)) W0 rfl (gv0 ⟨q0, q0⟩) (gv0 ⟨q1, q0⟩) (gv0 ⟨q1, q0⟩) (Trim0_ok q0) (Trim0_ok q0) (by decide) (by decide) (by decide +kernel) (by decide +kernel)).mono fun v e => by rw [e]; exact congrArg AV.b (dc_iff.2 rfl)
theorem sq_one (y : Rat) (h1 : y * y = i1) (h2 : 0 ≤ sgnQ y) : y = i1 := by
 have e0 : i1 = 1 := rfl
 have e1 : (y - 1) * (y + 1) = 0 := by rw [e0] at h1; grind
 rcases Rat.mul_eq_zero.1 e1 with e | e
 · rw [e0]; grind
 · exfalso
   have : y < 0 := by grind
   rw [sgnQ_neg this] at h2
   omega
theorem radius_wh : C0 54 [.d (dC wh)] (· = .tup (.pr (.d (dN (nr i1))) (.d (.int .i64 0)))) := by
 have hd : d2 (i1, i0) (i0, i0) = i1 := by decide +kernel
 have h := radius_r (c := wh) (p := (i0, i0)) (q := (i1, i0)) rfl rfl ⟨q0, q0⟩ ⟨q1, q0⟩ (by decide +kernel) (by rw [hd]; exact q1.mono (by decide)) (by rw [hd]; decide +kernel)
 rw [hd] at h
 refine h.mono fun v hv => ?_
 obtain ⟨z, rfl, hz⟩ := hv
 rcases hz with ⟨y, rfl, h1, h2⟩ | ⟨_, _, h2⟩
 · have hy : y = i1 := sq_one y h1 h2
   rw [hy]
 · exact absurd ⟨(i1 : Tow.El 0), by show i1 * i1 = i1; decide +kernel⟩ h2
theorem words_wh : C0 47 [.d (dCs' [wh])] (· = .tup (.pr (.d (dWs (hdW wh ++ [arcW (nr i1) false true (v0 (im, i0)) ++ arcW (nr i1) false true wh.B].flatten ++ [.mk [90]]))) (.d (.int .i64 0)))) :=
 words_ok (c0 := wh) (d0 := wh) (l := [wh]) (cl := true) rfl rfl (by decide) rfl (fun i c w h1 h2 => by
  obtain ⟨rfl, rfl⟩ := one1 h1
  obtain ⟨_, rfl⟩ := one1 h2
  exact .full (c := wh) (w := v0 (im, i0)) rfl radius_wh (Equal0 ⟨q1, q0⟩ ⟨q1, q0⟩ (P11.dcT rfl)) (Sub0 (r := (im, i0)) ⟨q0, q0⟩ ⟨q1, q0⟩ (Prod.ext (show i0 + -i1 = im by decide +kernel) (show i0 + -i0 = i0 by decide +kernel))) (Add0 (r := (im, i0)) ⟨q0, q0⟩ ⟨qm, q0⟩ (Prod.ext (show i0 + im = im by decide +kernel) (show i0 + i0 = i0 by decide +kernel)))) (Equal0 ⟨q1, q0⟩ ⟨q1, q0⟩ (P11.dcT rfl))
theorem Path_wh : C0 16 [.d (dCs' [wh]), .d (.int .i64 0)] (· = .tup (.pr (.d (.str [77, 32, 49, 32, 48, 32, 65, 32, 49, 32, 49, 32, 48, 32, 48, 32, 49, 32, 45, 49, 32, 48, 32, 65, 32, 49, 32, 49, 32, 48, 32, 48, 32, 49, 32, 49, 32, 48, 32, 90])) (.d (.int .i64 0)))) := by
 have hp := isPath_ok (l := [wh]) (by decide) (by decide) (fun c hc => by obtain rfl := List.mem_singleton.1 hc; exact Valid_wh) (fun i c d _ h => by simp at h)
 exact Path_ok (l := [wh]) (d := 0) (T := [[77], [49], [48], [65], [49], [49], [48], [48], [49], [45, 49], [48], [65], [49], [49], [48], [48], [49], [49], [48], [90]]) (by decide) hp words_wh (by decide) rfl (fun i w t h1 h2 => by
  match i, h1, h2 with
  | 0, h1, h2 => cases h1; cases h2; rfl
  | 1, h1, h2 => cases h1; cases h2; exact f10
  | 2, h1, h2 => cases h1; cases h2; exact f00
  | 3, h1, h2 => cases h1; cases h2; rfl
  | 4, h1, h2 => cases h1; cases h2; exact f10
  | 5, h1, h2 => cases h1; cases h2; exact f10
  | 6, h1, h2 => cases h1; cases h2; rfl
  | 7, h1, h2 => cases h1; cases h2; rfl
  | 8, h1, h2 => cases h1; cases h2; rfl
  | 9, h1, h2 => cases h1; cases h2; exact fm0
  | 10, h1, h2 => cases h1; cases h2; exact f00
  | 11, h1, h2 => cases h1; cases h2; rfl
  | 12, h1, h2 => cases h1; cases h2; exact f10
  | 13, h1, h2 => cases h1; cases h2; exact f10
  | 14, h1, h2 => cases h1; cases h2; rfl
  | 15, h1, h2 => cases h1; cases h2; rfl
  | 16, h1, h2 => cases h1; cases h2; rfl
  | 17, h1, h2 => cases h1; cases h2; exact f10
  | 18, h1, h2 => cases h1; cases h2; exact f00
  | 19, h1, h2 => cases h1; cases h2; rfl
  | i + 20, h1, h2 => cases h1) (by decide)
theorem Add0' {p q r : Rat × Rat} (hp : Qp 64 p) (hq : Qp 64 q) (h1 : p.1 + q.1 = r.1) (h2 : p.2 + q.2 = r.2) : C0 56 [.d (dV (v0 p)), .d (dV (v0 q))] (· = .tup (.pr (.d (dV (v0 r))) (.d (.int .i64 0)))) := Add0 hp hq (Prod.ext h1 h2)
theorem On_wh {p : Rat × Rat} (hp : Qp 64 p) (h : (p.1 + -i0) * (p.1 + -i0) + (p.2 + -i0) * (p.2 + -i0) = i1) : C0 57 [.d (dC wh), .d (dV (v0 p))] (· = .b true) := by
 have hd : d2 (i1, i0) (i0, i0) = i1 := by decide +kernel
 have hz1 : Gd (K := 0) () ([] : List (Tow.El 0)) [] 8 (nr i1) i1 := (g0 q1).mono (by decide)
 refine P47.On_full (z := nr i1) rfl ?_ ?_ ?_
 · refine (P47.around_g (c := wh) (K := 0) (G := ()) (S := []) (N := []) (n := 1) (m := 1) (p := (i0, i0)) (q := (i1, i0)) W0 (gv0 ⟨q0, q0⟩) (gv0 ⟨q1, q0⟩) (Trim0_ok q0) (Trim0_ok q0) (by decide) (by decide +kernel)).mono fun v hv => ?_
   obtain ⟨z, rfl, hz⟩ := hv
   have hz2 : z = nr (d2 (i1, i0) (i0, i0)) := zw hz.o
   rw [hd] at hz2
   rw [hz2]
 · refine (P15.Side_g (K := 0) (G := ()) (S := []) (N := []) (n := 1) (m := 1) (k := 8) (p := (i0, i0)) (q := p) W0 (gv0 (p := (i0, i0)) ⟨q0, q0⟩) hz1 (gv0 hp) (by decide) (by decide)).mono fun v hv => ?_
   rw [hv]
   have e : sgnQ (((p.1 + -i0) * (p.1 + -i0) + (p.2 + -i0) * (p.2 + -i0)) + -i1) = 0 := by rw [h]; decide +kernel
   have e2 : sgn 0 () (Tow.add 0 (vdot (K := 0) () (vsub (K := 0) p (i0, i0)) (vsub (K := 0) p (i0, i0))) (Tow.neg 0 (i1 : Tow.El 0))) = 0 := e
   rw [e2]
 · exact (P47.full_g (c := wh) (K := 0) (G := ()) (S := []) (N := []) (n := 1) (m := 1) (p := (i1, i0)) (q := (i1, i0)) W0 rfl (gv0 ⟨q1, q0⟩) (gv0 ⟨q1, q0⟩) (by decide) (by decide)).mono fun v e => e.trans (congrArg AV.b (dc_iff.2 rfl))
theorem ext_wh : C0 21 [.d (dC wh)] (· = .tup (.pr (.d (dVs [v0 (i1, i0), v0 (i1, i0), v0 (i1, i0), v0 (i0, i1), v0 (im, i0), v0 (i0, im)])) (.d (.int .i64 0)))) :=
 extremes_arc (c := wh) (r := nr i1) (m := nr im) (X := [v0 (i1, i0), v0 (i0, i1), v0 (im, i0), v0 (i0, im)]) (B := [true, true, true, true]) rfl radius_wh (Neg0 q1 (by decide +kernel)) rfl rfl (fun i d x b h1 h2 h3 => by
  match i, h1, h2, h3 with
  | 0, h1, h2, h3 => cases h1; cases h2; cases h3; exact ⟨Add0' (p := (i0, i0)) (q := (i1, i0)) (r := (i1, i0)) ⟨q0, q0⟩ ⟨q1, q0⟩ (by decide +kernel) (by decide +kernel), On_wh (p := (i1, i0)) ⟨q1, q0⟩ (by decide +kernel)⟩
  | 1, h1, h2, h3 => cases h1; cases h2; cases h3; exact ⟨Add0' (p := (i0, i0)) (q := (i0, i1)) (r := (i0, i1)) ⟨q0, q0⟩ ⟨q0, q1⟩ (by decide +kernel) (by decide +kernel), On_wh (p := (i0, i1)) ⟨q0, q1⟩ (by decide +kernel)⟩
  | 2, h1, h2, h3 => cases h1; cases h2; cases h3; exact ⟨Add0' (p := (i0, i0)) (q := (im, i0)) (r := (im, i0)) ⟨q0, q0⟩ ⟨qm, q0⟩ (by decide +kernel) (by decide +kernel), On_wh (p := (im, i0)) ⟨qm, q0⟩ (by decide +kernel)⟩
  | 3, h1, h2, h3 => cases h1; cases h2; cases h3; exact ⟨Add0' (p := (i0, i0)) (q := (i0, im)) (r := (i0, im)) ⟨q0, q0⟩ ⟨q0, qm⟩ (by decide +kernel) (by decide +kernel), On_wh (p := (i0, im)) ⟨q0, qm⟩ (by decide +kernel)⟩
  | i + 4, h1, _, _ => cases h1)
theorem l0 : C0 23 [.d (dN (nr i0)), .d (.int .i64 (0 : Nat))] (· = .tup (.pr (.d (dz 0)) (.d (.int .i64 0)))) := flo_at q0 (by decide) (by decide +kernel) (by decide +kernel)
theorem l1 : C0 23 [.d (dN (nr i1)), .d (.int .i64 (0 : Nat))] (· = .tup (.pr (.d (dz 1)) (.d (.int .i64 0)))) := flo_at q1 (by decide) (by decide +kernel) (by decide +kernel)
theorem lm : C0 23 [.d (dN (nr im)), .d (.int .i64 (0 : Nat))] (· = .tup (.pr (.d (dz (-1))) (.d (.int .i64 0)))) := flo_at qm (by decide) (by decide +kernel) (by decide +kernel)
theorem n0 : C0 22 [.d (dN (nr i0))] (· = .d (dN (nr i0))) := Neg0 q0 (by decide +kernel)
theorem n1 : C0 22 [.d (dN (nr i1))] (· = .d (dN (nr im))) := Neg0 q1 (by decide +kernel)
theorem nm : C0 22 [.d (dN (nr im))] (· = .d (dN (nr i1))) := Neg0 qm (by decide +kernel)
theorem zb (z : Int) (h : z.natAbs < 4294967296) : Zb z := Nat.le_trans (dig_len_le (k := 1) (by rw [Nat.pow_one]; exact h)) (by decide)
theorem zs4 (a b c e : Int) (ha : a.natAbs < 4294967296) (hb : b.natAbs < 4294967296) (hc : c.natAbs < 4294967296) (he : e.natAbs < 4294967296) : Zb a ∧ Zb b ∧ Zb c ∧ Zb e := ⟨zb a ha, zb b hb, zb c hc, zb e he⟩
theorem p10 : PtF (0 : Nat) (v0 (i1, i0)) ⟨1, 0, -1, 0⟩ := ⟨⟨_, _, n1, n0, lm, l0⟩, l1, l0, zs4 _ _ _ _ (by decide) (by decide) (by decide) (by decide)⟩
theorem p01 : PtF (0 : Nat) (v0 (i0, i1)) ⟨0, 1, 0, -1⟩ := ⟨⟨_, _, n0, n1, l0, lm⟩, l0, l1, zs4 _ _ _ _ (by decide) (by decide) (by decide) (by decide)⟩
theorem pm0 : PtF (0 : Nat) (v0 (im, i0)) ⟨-1, 0, 1, 0⟩ := ⟨⟨_, _, nm, n0, l1, l0⟩, lm, l0, zs4 _ _ _ _ (by decide) (by decide) (by decide) (by decide)⟩
theorem p0m : PtF (0 : Nat) (v0 (i0, im)) ⟨0, -1, 0, 1⟩ := ⟨⟨_, _, n0, nm, l0, l1⟩, l0, lm, zs4 _ _ _ _ (by decide) (by decide) (by decide) (by decide)⟩
abbrev fwh : List F4 := [⟨1, 0, -1, 0⟩, ⟨1, 0, -1, 0⟩, ⟨1, 0, -1, 0⟩, ⟨0, 1, 0, -1⟩, ⟨-1, 0, 1, 0⟩, ⟨0, -1, 0, 1⟩]
theorem cu_wh : CuF (0 : Nat) wh fwh := ⟨_, ext_wh, rfl, by decide, fun i p f h1 h2 => by
 match i, h1, h2 with
 | 0, h1, h2 => cases h1; cases h2; exact p10
 | 1, h1, h2 => cases h1; cases h2; exact p10
 | 2, h1, h2 => cases h1; cases h2; exact p10
 | 3, h1, h2 => cases h1; cases h2; exact p01
 | 4, h1, h2 => cases h1; cases h2; exact pm0
 | 5, h1, h2 => cases h1; cases h2; exact p0m
 | i + 6, h1, h2 => cases h1⟩
theorem Bounds_wh : C0 7 [.d (dCs' [wh]), .d (.int .i64 (0 : Nat))] (· = .tup (.pr (.d (boxQ ⟨-1, -1, -1, -1⟩ 0)) (.d (.int .i64 0)))) :=
 Bounds_ok (l := [wh]) (Fs := [fwh]) (d := 0) (by decide) (by decide) (by decide) (fun c hc => by obtain rfl := List.mem_singleton.1 hc; exact Valid_wh) rfl (fun i c fs h1 h2 => by
  obtain ⟨rfl, rfl⟩ := one1 h1
  obtain ⟨_, rfl⟩ := one1 h2
  exact cu_wh) rfl
theorem Same_q {x y : Rat} (hx : Qs 200 x) : C0 34 [.d (dq x), .d (dq y)] (· = .b (dc (x = y))) := by
 have h1 := hx.n.len (by decide)
 have h2 := hx.d.len (by decide)
 refine En Tryz.func34 fun _ _ _ => ?_
 refine Ce rfl (R2.SameInt_ok (z := x.num) (w := y.num) (by omega)) ?_
 refine By rfl (fun h => ?_) fun h => ?_
 · refine Ce rfl (R2.SameInt_ok (z := (x.den : Int)) (w := (y.den : Int)) (by omega)) ?_
   exact R1 rfl (.bp (dc_iff.trans ⟨fun h3 => Rat.ext h (by omega), fun e => by rw [e]⟩))
 · exact R1 rfl (.bp ⟨nofun, fun e => absurd (by rw [e]) h⟩)
abbrev dB4 (a b c e : Rat) : D := .st (.pr (dq a) (.pr (dq b) (.pr (dq c) (dq e))))
theorem SameBox_ok {a b c e : Rat} (ha : Qs 200 a) (hb : Qs 200 b) (hc : Qs 200 c) (he : Qs 200 e) : C0 9 [.d (dB4 a b c e), .d (dB4 a b c e)] (· = .b true) := by
 have s : ∀ {x : Rat}, Qs 200 x → C0 34 [.d (dq x), .d (dq x)] (· = .b true) := fun hx => (Same_q hx).mono fun v e => e.trans (congrArg AV.b (dc_iff.2 rfl))
 refine En Tryz.func9 fun _ _ _ => ?_
 refine Ce rfl (s ha) ?_
 refine Yes rfl rfl ?_
 refine Ce rfl (s hb) ?_
 refine Yes rfl rfl ?_
 refine Ce rfl (s hc) ?_
 refine Yes rfl rfl ?_
 refine Ce rfl (s he) ?_
 exact R0
theorem at55_ok {i j : Int} (hi : -9223372036854775808 ≤ i ∧ i < 9223372036854775808) (hj : -9223372036854775808 ≤ j ∧ j < 9223372036854775808) : C0 17 [.d (.int .i64 i), .d (.int .i64 j)] (· = .d (dV (v0 ((i : Rat), (j : Rat))))) := by
 refine En Tryz.func17 fun _ _ _ => ?_
 refine Ce rfl (R13.Whole_ok hi hj) ?_
 exact R0
theorem aw1_ok {i : Int} (hi : -9223372036854775808 ≤ i ∧ i < 9223372036854775808) : C0 18 [.d (.int .i64 i)] (· = .d (dq (i : Rat))) := by
 refine En Tryz.func18 fun _ _ _ => ?_
 refine Ce rfl (R2.FromInt_ok hi) ?_
 exact R0
theorem box55_ok {a b c e : Rat} : C0 10 [.d (dB4 a b c e)] (· = .d (dB4 a b c e)) := by
 refine En Tryz.func10 fun _ _ _ => ?_
 exact R0
theorem boxQ_wh : boxQ ⟨-1, -1, -1, -1⟩ 0 = dB4 im im i1 i1 := by
 show dB4 (qb (-1) 0) (qb (-1) 0) (qb (- -1) 0) (qb (- -1) 0) = _
 rw [show qb (-1) 0 = im by decide +kernel, show qb (- -1) 0 = i1 by decide +kernel]
theorem aw55_ok : C0 6 [] (· = .b true) := by
 have hB := Bounds_wh
 rw [boxQ_wh] at hB
 refine En Tryz.func6 fun _ _ _ => ?_
 refine Ce rfl (at55_ok (i := 0) (j := 0) (by decide) (by decide)) ?_
 refine Ce rfl (at55_ok (i := 1) (j := 2) (by decide) (by decide)) ?_
 refine Ce rfl (at55_ok (i := 0) (j := 0) (by decide) (by decide)) ?_
 refine Ce rfl Path_sg ?_
 refine Ce rfl (at55_ok (i := 1) (j := 0) (by decide) (by decide)) ?_
 refine Ce rfl (at55_ok (i := 1) (j := 0) (by decide) (by decide)) ?_
 refine Ce rfl (at55_ok (i := 0) (j := 0) (by decide) (by decide)) ?_
 refine Ce rfl Path_wh ?_
 refine Ce rfl hB ?_
 refine Yes rfl (by decide) ?_
 refine Yes rfl (by decide) ?_
 refine Yes rfl (by decide) ?_
 refine Yes rfl rfl ?_
 refine Yes rfl rfl ?_
 refine Ce rfl box55_ok ?_
 refine Ce rfl (aw1_ok (i := -1) (by decide)) ?_
 refine Ce rfl (aw1_ok (i := -1) (by decide)) ?_
 refine Ce rfl (aw1_ok (i := 1) (by decide)) ?_
 refine Ce rfl (aw1_ok (i := 1) (by decide)) ?_
 refine Ce rfl (SameBox_ok (a := im) (b := im) (c := i1) (e := i1) (qm.mono (by decide)) (qm.mono (by decide)) (q1.mono (by decide)) (q1.mono (by decide))) ?_
 exact R0
end P55
end Go.Proofs.YtpgcfjpkilabfaaGreatDoor
namespace Go.Proofs.YtpgcfjpkilabfaaGreatDoor.R2
open Go Go.Vm Go.Num Go.Proofs.YtpgcfjpkilabfaaGreatDoor
theorem dig_fix {l : List Nat} (hw : Words l) (h : (dig (val l)).length = l.length) : dig (val l) = l := by
 by_cases h0 : val l = 0
 · rw [h0, dig_zero] at h ⊢
   exact (List.eq_nil_of_length_eq_zero h.symm).symm
 · have h1 := dig_lb h0
   rw [h] at h1
   exact dig_val hw (top_trim hw (by have := List.length_pos_iff.2 (fun e => h0 (dig_eq_nil.1 e) : dig (val l) ≠ []); omega) h1)
def NrI (b : Bool) (l : List Nat) : Prop := ∃ z : Int, dS b l = dz z ∧ l = dig z.natAbs
theorem nrI_of {b : Bool} {l : List Nat} (e : dig (val l) = l) (h : b = true → l ≠ []) : NrI b l := by
 cases b with
 | false => exact ⟨(val l : Int), by show _ = dS (decide ((val l : Int) < 0)) (dig (val l : Int).natAbs); rw [Int.natAbs_natCast, e, show decide ((val l : Int) < 0) = false from decide_eq_false (by omega)], by rw [Int.natAbs_natCast, e]⟩
 | true =>
  have h0 : val l ≠ 0 := fun h0 => h rfl (by rw [← e, h0, dig_zero])
  exact ⟨-(val l : Int), by show _ = dS (decide (-(val l : Int) < 0)) (dig (-(val l : Int)).natAbs); rw [Int.natAbs_neg, Int.natAbs_natCast, e, show decide (-(val l : Int) < 0) = true from decide_eq_true (by omega)], by rw [Int.natAbs_neg, Int.natAbs_natCast, e]⟩
theorem iValid_raw {b : Bool} {l : List Nat} (hw : Words l) (hl : l.length ≤ 1000) : C0 167 [.d (dS b l)] (fun v => ∃ c : Bool, v = .b c ∧ (c = true → NrI b l)) := by
 refine En Tryz.func167 fun _ _ _ => ?_
 refine Dw rfl ?_
 refine Ce rfl (R1.trim_ok hw (by omega)) ?_
 refine By rfl (fun h => ?_) fun h => ?_
 · have h : (((dig (val l)).map wd).length : Int) = ((l.map wd).length : Nat) := h
   have h : (dig (val l)).length = l.length := by rw [List.length_map, List.length_map] at h; omega
   have e := dig_fix hw h
   refine By rfl (fun h1 => ?_) fun h1 => ?_
   · refine Rt rfl (.one (.rf rfl) rfl rfl) ⟨true, rfl, fun _ => nrI_of e fun hb => ?_⟩
     subst hb; simp at h1
   · refine Rt rfl (.one (.rf rfl) rfl rfl) ⟨dc (((List.map wd l).length : Int) > 0), rfl, fun hc => nrI_of e fun _ hn => ?_⟩
     rw [dc_iff, hn] at hc
     simp at hc
 · exact Rt rfl (.one (.rf rfl) rfl rfl) ⟨false, rfl, nofun⟩
structure Rw where
 b : Bool
 l : List Nat
 c : Bool
 m : List Nat
abbrev dRw (x : Rw) : D := .st (.pr (dS x.b x.l) (dS x.c x.m))
def Rw.ok (x : Rw) : Prop := Words x.l ∧ Words x.m
theorem Few_raw {x : Rw} (hx : x.ok) (hl : x.l.length < 9223372036854775808 ∧ x.m.length < 9223372036854775808) : C0 35 [.d (dRw x), .d (.int .i64 4)] (fun v => ∃ c : Bool, v = .b c ∧ (c = true → ∃ q : Rat, dRw x = dq q ∧ Qs 128 q)) := by
 have hv : x.l.length ≤ 4 → x.m.length ≤ 4 → C0 84 [.d (dRw x)] (fun v => ∃ c : Bool, v = .b c ∧ (c = true → ∃ q : Rat, dRw x = dq q ∧ Qs 128 q)) := fun h1 h2 => by
  refine En Tryz.func84 fun _ _ _ => ?_
  refine Ca rfl (iValid_raw hx.1 (by omega)) fun v hv => ?_
  obtain ⟨c, rfl, hc⟩ := hv
  cases c with
  | false =>
   refine No rfl nofun ?_
   exact Rt rfl (.one (.rf rfl) rfl rfl) ⟨false, rfl, nofun⟩
  | true =>
   refine Yes rfl rfl ?_
   obtain ⟨a, ea, la⟩ := hc rfl
   refine Ca rfl (iValid_raw hx.2 (by omega)) fun v hv => ?_
   obtain ⟨c, rfl, hc⟩ := hv
   cases c with
   | false =>
    refine No rfl nofun ?_
    exact Rt rfl (.one (.rf rfl) rfl rfl) ⟨false, rfl, nofun⟩
   | true =>
    refine Yes rfl rfl ?_
    obtain ⟨d, ed, ld⟩ := hc rfl
    have hla : (dig a.natAbs).length ≤ 4 := by rw [← la]; exact h1
    have hld : (dig d.natAbs).length ≤ 4 := by rw [← ld]; exact h2
    have hS := R1.Sign_ok (z := d) (by omega)
    rw [← ed] at hS
    refine Ce rfl hS ?_
    refine By rfl (fun h3 => ?_) fun h3 => ?_
    · have hG := R1.GCD_ok (a := a) (b := d) (by omega) (by omega)
      rw [← ea, ← ed] at hG
      refine Ce rfl hG ?_
      refine Ce rfl one_ok ?_
      refine Rt rfl (.one (.rf rfl) rfl rfl) ⟨dc ((Int.gcd a d : Int) = 1), rfl, fun hc => ?_⟩
      have hg : Int.gcd a d = 1 := by have := dc_iff.1 hc; omega
      have hd0 : 0 < d := cmpI_gt.1 h3
      refine ⟨⟨a, d.natAbs, by omega, hg⟩, ?_, ?_⟩
      · show D.st (.pr (dS x.b x.l) (dS x.c x.m)) = D.st (.pr (dz a) (dz (d.natAbs : Int)))
        rw [ea, ed, show ((d.natAbs : Nat) : Int) = d by omega]
      · have hb : ∀ n : Nat, (dig n).length ≤ 4 → n < 2 ^ 128 := fun n hn => Nat.lt_of_lt_of_le (dig_ub n) (Nat.le_trans (Nat.pow_le_pow_right (by decide) hn) (by decide))
        exact ⟨hb _ hla, by show ((d.natAbs : Nat) : Int).natAbs < _; rw [Int.natAbs_natCast]; exact hb _ hld⟩
    · exact Rt rfl (.one (.rf rfl) rfl rfl) ⟨false, rfl, nofun⟩
 refine En Tryz.func35 fun _ _ _ => ?_
 refine By rfl (fun h1 => ?_) fun h1 => ?_
 · refine By rfl (fun h2 => ?_) fun h2 => ?_
   · have h1 : (((x.l).map wd).length : Int) ≤ 4 := h1
     have h2 : (((x.m).map wd).length : Int) ≤ 4 := h2
     rw [List.length_map] at h1 h2
     refine Ca rfl (hv (by omega) (by omega)) fun v hv => ?_
     obtain ⟨c, rfl, hc⟩ := hv
     exact Rt rfl (.one (.rf rfl) rfl rfl) ⟨c, rfl, hc⟩
   · exact Rt rfl (.one (.rf rfl) rfl rfl) ⟨false, rfl, nofun⟩
 · exact Rt rfl (.one (.rf rfl) rfl rfl) ⟨false, rfl, nofun⟩
end Go.Proofs.YtpgcfjpkilabfaaGreatDoor.R2
namespace Go.Proofs.YtpgcfjpkilabfaaGreatDoor.P55
open Go Go.Vm Go.Num Go.Tow Go.Proofs.YtpgcfjpkilabfaaGreatDoor
structure Bx where
 a : R2.Rw
 b : R2.Rw
 c : R2.Rw
 d : R2.Rw
abbrev dBx (x : Bx) : D := .st (.pr (R2.dRw x.a) (.pr (R2.dRw x.b) (.pr (R2.dRw x.c) (R2.dRw x.d))))
def RwOk (x : R2.Rw) : Prop := x.ok ∧ x.l.length < 9223372036854775808 ∧ x.m.length < 9223372036854775808
def Bx.ok (x : Bx) : Prop := RwOk x.a ∧ RwOk x.b ∧ RwOk x.c ∧ RwOk x.d
def Shq (x : R2.Rw) : Prop := ∃ q : Rat, R2.dRw x = dq q ∧ Qs 128 q
theorem rats_ok {l : List R2.Rw} (hl : l.length ≤ 1000) (h : ∀ x ∈ l, RwOk x) : C0 12 [.d (.sl 4 (l.map R2.dRw))] (fun v => ∃ c : Bool, v = .b c ∧ (c = true → ∀ x ∈ l, Shq x)) := by
 have hm : (l.map R2.dRw).length = l.length := List.length_map ..
 refine En Tryz.func12 fun _ _ _ => ?_
 refine Lo (fun k : Nat => [(5, .d (.sl 4 (l.map R2.dRw))), (6, .d (.int .i64 (l.map R2.dRw).length)), (7, .d (.int .i64 k))]) (fun _ => []) (fun k => k ≤ l.length ∧ ∀ x ∈ l.take k, Shq x) (fun k => l.length - k) 0 [] rfl ⟨Nat.zero_le _, by simp⟩ fun k ⟨hk, hn⟩ => ?_
 refine By rfl (fun h1 => ?_) fun h1 => ?_ <;> simp only [hm] at h1
 · obtain ⟨x, hx⟩ : ∃ x, l[k]? = some x := ⟨_, List.getElem?_eq_getElem (by omega)⟩
   have hxm := List.mem_of_getElem? hx
   have hxo := h x hxm
   refine Ix k rfl (u := R2.dRw x) (by rw [List.getElem?_map, hx]; rfl) ?_
   refine Ca rfl (R2.Few_raw hxo.1 hxo.2) fun v hv => ?_
   obtain ⟨c, rfl, hc⟩ := hv
   cases c with
   | false =>
    refine Yes rfl nofun ?_
    exact Rt rfl (.one (.rf rfl) rfl rfl) ⟨false, rfl, nofun⟩
   | true =>
    refine No rfl (fun h => h rfl) ?_
    refine Ar (k + 1 : Nat) rfl ?_
    refine Bk (k + 1) [] rfl ⟨by omega, fun y hy => ?_⟩ (by show l.length - (k + 1) < l.length - k; omega)
    rw [List.take_add_one, hx] at hy
    rcases List.mem_append.1 hy with hy | hy
    · exact hn y hy
    · simp at hy; rw [hy]; exact hc rfl
 · rw [List.take_of_length_le (by omega)] at hn
   exact Rt rfl (.one (.rf rfl) rfl rfl) ⟨true, rfl, fun _ => hn⟩
structure Qb where
 a : Rat
 b : Rat
 c : Rat
 d : Rat
structure Qb.ok (x : Qb) : Prop where
 a : Qs 128 x.a
 b : Qs 128 x.b
 c : Qs 128 x.c
 d : Qs 128 x.d
abbrev dQb (x : Qb) : D := dB4 x.a x.b x.c x.d
def ApP (x y : Qb) : Prop := cmpQ x.c y.a ≤ 0 ∨ cmpQ y.c x.a ≤ 0 ∨ cmpQ x.d y.b ≤ 0 ∨ cmpQ y.d x.b ≤ 0
theorem ApP_comm {x y : Qb} : ApP x y ↔ ApP y x := by unfold ApP; constructor <;> (rintro (h | h | h | h) <;> simp [h])
theorem ap1 {x y : Rat} (hx : Qs 128 x) (hy : Qs 128 y) : C0 36 [.d (dq x), .d (dq y)] (· = .b (dc (cmpQ x y ≤ 0))) := by
 refine En Tryz.func36 fun _ _ _ => ?_
 refine Ce rfl (qCmp_ok hx hy (by decide)) ?_
 exact R0
theorem Apart_q {x y : Qb} (hx : x.ok) (hy : y.ok) : C0 13 [.d (dQb x), .d (dQb y)] (· = .b (dc (ApP x y))) := by
 refine En Tryz.func13 fun _ _ _ => ?_
 refine Ce rfl (ap1 hx.c hy.a) ?_
 refine By rfl (fun h1 => ?_) fun h1 => ?_
 · exact R1 rfl (.bp ⟨fun _ => .inl h1, fun _ => rfl⟩)
 refine Ce rfl (ap1 hy.c hx.a) ?_
 refine By rfl (fun h2 => ?_) fun h2 => ?_
 · exact R1 rfl (.bp ⟨fun _ => .inr (.inl h2), fun _ => rfl⟩)
 refine Ce rfl (ap1 hx.d hy.b) ?_
 refine By rfl (fun h3 => ?_) fun h3 => ?_
 · exact R1 rfl (.bp ⟨fun _ => .inr (.inr (.inl h3)), fun _ => rfl⟩)
 refine Ce rfl (ap1 hy.d hx.b) ?_
 exact R1 rfl (.bp (dc_iff.trans ⟨fun h => .inr (.inr (.inr h)), fun h => by rcases h with h | h | h | h <;> first | exact absurd h h1 | exact absurd h h2 | exact absurd h h3 | exact h⟩))
theorem rApart_q {x y : Qb} (hx : x.ok) (hy : y.ok) : C0 14 [.d (dQb x), .d (dQb y)] (· = .b (dc (ApP x y))) := by
 refine En Tryz.func14 fun _ _ _ => ?_
 refine Ce rfl (R2.Cmp_ok hx.c hy.a (by decide)) ?_
 refine By rfl (fun h1 => ?_) fun h1 => ?_
 · exact R1 rfl (.bp ⟨fun _ => .inl h1, fun _ => rfl⟩)
 refine Ce rfl (R2.Cmp_ok hy.c hx.a (by decide)) ?_
 refine By rfl (fun h2 => ?_) fun h2 => ?_
 · exact R1 rfl (.bp ⟨fun _ => .inr (.inl h2), fun _ => rfl⟩)
 refine Ce rfl (R2.Cmp_ok hx.d hy.b (by decide)) ?_
 refine By rfl (fun h3 => ?_) fun h3 => ?_
 · exact R1 rfl (.bp ⟨fun _ => .inr (.inr (.inl h3)), fun _ => rfl⟩)
 refine Ce rfl (R2.Cmp_ok hy.d hx.b (by decide)) ?_
 exact R1 rfl (.bp (dc_iff.trans ⟨fun h => .inr (.inr (.inr h)), fun h => by rcases h with h | h | h | h <;> first | exact absurd h h1 | exact absurd h h2 | exact absurd h h3 | exact h⟩))
theorem qb_of {x : Bx} (h1 : Shq x.a) (h2 : Shq x.b) (h3 : Shq x.c) (h4 : Shq x.d) : ∃ q : Qb, dBx x = dQb q ∧ q.ok := by
 obtain ⟨a, e1, a1⟩ := h1
 obtain ⟨b, e2, b1⟩ := h2
 obtain ⟨c, e3, c1⟩ := h3
 obtain ⟨d, e4, d1⟩ := h4
 exact ⟨⟨a, b, c, d⟩, by show D.st (.pr (R2.dRw x.a) (.pr (R2.dRw x.b) (.pr (R2.dRw x.c) (R2.dRw x.d)))) = _; rw [e1, e2, e3, e4], ⟨a1, b1, c1, d1⟩⟩
theorem DrawingApart_ok {x y : Bx} (hx : x.ok) (hy : y.ok) : C0 4 [.d (dBx x), .d (dBx y)] (· = .b true) := by
 have hr := rats_ok (l := [x.a, x.c, x.d, x.b, y.a, y.c, y.d, y.b]) (show 8 ≤ 1000 by decide) (fun z hz => by
  obtain ⟨h1, h2, h3, h4⟩ := hx
  obtain ⟨h5, h6, h7, h8⟩ := hy
  simp only [List.mem_cons, List.not_mem_nil, or_false] at hz
  rcases hz with rfl | rfl | rfl | rfl | rfl | rfl | rfl | rfl <;> assumption)
 refine En Tryz.func4 fun _ _ _ => ?_
 refine Ce rfl aw55_ok ?_
 refine No rfl (fun h => h rfl) ?_
 refine Ca rfl hr fun v hv => ?_
 obtain ⟨c, rfl, hc⟩ := hv
 cases c with
 | false =>
  refine Yes rfl nofun ?_
  refine Ce rfl aw55_ok ?_
  exact R0
 | true =>
  have hc := hc rfl
  obtain ⟨p, ep, hp⟩ := qb_of (x := x) (hc _ (by simp)) (hc _ (by simp)) (hc _ (by simp)) (hc _ (by simp))
  obtain ⟨q, eq, hq⟩ := qb_of (x := y) (hc _ (by simp)) (hc _ (by simp)) (hc _ (by simp)) (hc _ (by simp))
  obtain ⟨b, hb⟩ : ∃ b, b = dc (ApP p q) := ⟨_, rfl⟩
  have c1 : C0 13 [.d (dBx x), .d (dBx y)] (· = .b b) := by rw [ep, eq, hb]; exact Apart_q hp hq
  have c2 : C0 13 [.d (dBx y), .d (dBx x)] (· = .b b) := by rw [ep, eq, hb, show ApP p q = ApP q p from propext ApP_comm]; exact Apart_q hq hp
  have c3 : C0 14 [.d (dBx x), .d (dBx y)] (· = .b b) := by rw [ep, eq, hb]; exact rApart_q hp hq
  refine No rfl (fun h => h rfl) ?_
  refine Dz rfl ?_
  refine Dw rfl ?_
  refine Ce rfl c1 ?_
  refine Ce rfl c3 ?_
  refine Yes rfl Iff.rfl ?_
  refine Ce rfl c2 ?_
  refine Ce rfl c3 ?_
  exact Rt rfl (.one (.rf rfl) rfl rfl) (by exact congrArg AV.b (dc_iff.2 (Iff.rfl (a := b = true))))
end Go.Proofs.YtpgcfjpkilabfaaGreatDoor.P55
namespace Go.Vm
open Go Go.ChangeShapes Go.WideShapes Go.ChangeAt Go.RowKit
theorem wf_u32 {n : Int} (h : (Lit.int .u32 n).wf = true) : 0 ≤ n ∧ n < 4294967296 := by
 simp [Lit.wf, IntKind.min, IntKind.max, IntKind.signed, IntKind.bits] at h; omega
theorem reads_u32 {P : Program} {t : TypeId} (ht : P.underlying t = some (.int .u32)) : Reads P t fun d => ∃ n : Nat, d = .int .u32 n ∧ n < 4294967296 :=
 (reads_int ht fun n h => by
  have := wf_u32 h
  show IntKind.u32.wrap n = n
  simp [IntKind.wrap, IntKind.bits, IntKind.signed]; omega).mono fun d ⟨z, e, h⟩ => ⟨z.toNat, by rw [e, Int.toNat_of_nonneg (wf_u32 h).1], by have := wf_u32 h; omega⟩
theorem reads_bool {P : Program} {t : TypeId} (ht : P.underlying t = some .bool) : Reads P t fun d => ∃ b : Bool, d = .bool b := fun w _ _ _ _ _ _ _ h =>
 let ⟨b, h1, _⟩ := DataW.trod_bool ht h
 ⟨_, ⟨b, rfl⟩, h1⟩
end Go.Vm
namespace Go.Proofs.YtpgcfjpkilabfaaGreatDoor
open Go Go.Vm Go.Num P55
theorem reads_mag {t : TypeId} (ht : Tryz.prog.underlying t = some (.slice 117)) : Reads Tryz.prog t fun d => ∃ l : List Nat, d = ws l ∧ Words l ∧ l.length < 9223372036854775808 :=
 (reads_slice ht (reads_u32 Tryz.underlying117) (sz := 1) (by kernel_rfl) (by decide)).mono fun d ⟨l, e, hl, h⟩ => by
  obtain ⟨m, hm⟩ := mapE (f := fun n : { x : Nat // x < 4294967296 } => wd n.1) fun y hy => let ⟨n, e, hn⟩ := h y hy; ⟨⟨n, hn⟩, e⟩
  refine ⟨m.map (·.1), by rw [e, hm]; show _ = D.sl 1 ((m.map (·.1)).map wd); rw [List.map_map]; rfl, fun x hx => ?_, by rw [hm] at hl; simpa using hl⟩
  obtain ⟨y, _, rfl⟩ := List.mem_map.1 hx
  exact y.2
theorem reads_Int : Reads Tryz.prog 29 fun d => ∃ (b : Bool) (l : List Nat), d = dS b l ∧ Words l ∧ l.length < 9223372036854775808 :=
 (reads_struct Tryz.underlying29 (.cons (n := 1) rfl (reads_bool Tryz.underlying4) (by kernel_rfl) (.one rfl (reads_mag Tryz.underlying27))) (fun f hf => by cases hf; kernel_rfl)).mono fun d hd => by
  obtain ⟨_, rfl, _, _, rfl, ⟨b, rfl⟩, ⟨l, rfl, h1, h2⟩⟩ := hd
  exact ⟨b, l, rfl, h1, h2⟩
theorem reads_Rat : Reads Tryz.prog 31 fun d => ∃ x, d = R2.dRw x ∧ RwOk x :=
 (reads_struct Tryz.underlying31 (.cons (n := 2) rfl reads_Int (by kernel_rfl) (.one rfl reads_Int)) (fun f hf => by cases hf; kernel_rfl)).mono fun d hd => by
  obtain ⟨_, rfl, _, _, rfl, ⟨b, l, rfl, h1, h2⟩, ⟨c, m, rfl, h3, h4⟩⟩ := hd
  exact ⟨⟨b, l, c, m⟩, rfl, ⟨h1, h3⟩, h2, h4⟩
theorem reads_Box : Reads Tryz.prog 37 fun d => ∃ x, d = dBx x ∧ x.ok :=
 (reads_struct Tryz.underlying37 (.cons (n := 4) rfl reads_Rat (by kernel_rfl) (.cons (n := 4) rfl reads_Rat (by kernel_rfl) (.cons (n := 4) rfl reads_Rat (by kernel_rfl) (.one rfl reads_Rat)))) (fun f hf => by cases hf; kernel_rfl)).mono fun d hd => by
  obtain ⟨_, rfl, _, _, rfl, ⟨a, rfl, ha⟩, _, _, rfl, ⟨b, rfl, hb⟩, _, _, rfl, ⟨c, rfl, hc⟩, ⟨e, rfl, he⟩⟩ := hd
  exact ⟨⟨a, b, c, e⟩, rfl, ha, hb, hc, he⟩
theorem arg_Box : Arg Tryz.prog 37 fun d => ∃ x, d = dBx x ∧ x.ok := arg_struct Tryz.underlying37 reads_Box fun x ⟨_, e, _⟩ => by rw [e]; rfl
end Go.Proofs.YtpgcfjpkilabfaaGreatDoor

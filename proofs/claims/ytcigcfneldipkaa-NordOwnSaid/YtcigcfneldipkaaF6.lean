/- Floats, part 6: from-tos, each end taken one word further out, hold what is exact; how far off. Condition: the ends are finite and not too far out. -/
import Derived.Test.YtcigcfneldipkaaF5
import Derived.Test.YtcigcfneldipkaaL8
namespace Go.Eng
open Go

theorem two_pow (n : Nat) : 2 ^ (n + 1) = 2 * 2 ^ n := by rw [Nat.pow_succ, Nat.mul_comm]

theorem pow_pos_int (n : Nat) : (0 : Int) < ((2 ^ n : Nat) : Int) := by have := Nat.two_pow_pos n; omega

theorem wrapI {m : Int} (h0 : -9223372036854775808 ≤ m) (h1 : m < 9223372036854775808) : IntKind.i64.wrap m = m := by
  unfold IntKind.wrap
  simp [IntKind.bits, IntKind.signed]
  omega

theorem wi_range (a n : Int) (hn : 0 < n) (hm : n < 4294967296) : 0 ≤ wi a n ∧ wi a n < n := by
  have h1 := Int.tmod_lt_of_pos a hn
  have h2 := Int.lt_tmod_of_pos a hn
  unfold wi
  by_cases h : a.tmod n < 0
  · simp only [h, decide_true, cond_true]
    rw [wrapI (by omega) (by omega)]
    omega
  · simp only [h, decide_false, cond_false]
    omega

theorem lesser_idx {x y : Nat} (hx : Num64 x) (hy : Num64 y) : Num64 (lesser x y) ∧ idx (lesser x y) = min (idx x) (idx y) := by
  unfold lesser
  rw [flt_idx hx hy]
  by_cases h : idx x < idx y
  · simp only [h, decide_true, cond_true]; exact ⟨hx, by omega⟩
  · simp only [h, decide_false, cond_false]; exact ⟨hy, by omega⟩
theorem greater_idx {x y : Nat} (hx : Num64 x) (hy : Num64 y) : Num64 (greater x y) ∧ idx (greater x y) = max (idx x) (idx y) := by
  unfold greater
  rw [fgt_idx hx hy]
  by_cases h : idx y < idx x
  · simp only [h, decide_true, cond_true]; exact ⟨hx, by omega⟩
  · simp only [h, decide_false, cond_false]; exact ⟨hy, by omega⟩

theorem mk_idx {x y : Nat} (hx : Num64 x) (hy : Num64 y) (h : idx x ≤ idx y) : mkLo x y = x ∧ mkHi x y = y := by
  unfold mkLo mkHi
  rw [fle_idx hx hy]
  simp [h]
theorem mk_self {x : Nat} (hx : Num64 x) : mkLo x x = x ∧ mkHi x x = x := mk_idx hx hx (Int.le_refl _)

/-- Both ends taken one word further out. -/
theorem out_idx {x y : Nat} (hx : Num64 x) (hy : Num64 y) (h : idx x - 1 ≤ idx y + 1) : Num64 (outLo x y) ∧ Num64 (outHi x y) ∧ idx (outLo x y) = max (idx x - 1) (-9218868437227405312) ∧ idx (outHi x y) = min (idx y + 1) 9218868437227405312 := by
  obtain ⟨d1, d2⟩ := fdown_idx hx
  obtain ⟨u1, u2⟩ := fup_idx hy
  have bx := idx_bound hx
  have byy := idx_bound hy
  obtain ⟨m1, m2⟩ := mk_idx d1 u1 (by omega)
  unfold outLo outHi
  rw [m1, m2]
  exact ⟨d1, u1, d2, u2⟩

/-- One rounded, then taken outward: how far it is off, below 2 to the 16. -/
theorem step16 {Z : Int} {r : Nat} (R : Rd 1074 Z r) (h1 : -((2 ^ 1090 : Nat) : Int) ≤ Z) (h2 : Z ≤ ((2 ^ 1090 : Nat) : Int)) :
    -4679240012837945344 ≤ idx r ∧ idx r ≤ 4679240012837945344 ∧ sv (idx r - 1) ≤ Z ∧ Z ≤ sv (idx r + 1) ∧ Z - sv (idx r - 1) ≤ ((2 ^ 1039 : Nat) : Int) ∧ sv (idx r + 1) - Z ≤ ((2 ^ 1039 : Nat) : Int) := by
  have e : sv 4679240012837945344 = ((2 ^ 1090 : Nat) : Int) := by
    rcases sv_pow 1090 with g | g
    · exact g
    · omega
  have en : sv (-4679240012837945344) = -((2 ^ 1090 : Nat) : Int) := by rw [sv_neg, e]
  have a1 := R.up (-4679240012837945344) (by omega) (by omega) (by rw [one_unit, en]; exact h1)
  have a2 := R.dn 4679240012837945344 (by omega) (by omega) (by rw [one_unit, e]; exact h2)
  have b1 := below_exact R (by omega)
  have b2 := above_exact R (by omega)
  rw [one_unit] at b1 b2
  have s1 := sv_step (i := idx r - 1) (e := 1038) (by omega) (by omega)
  have s2 := sv_step (i := idx r) (e := 1038) (by omega) (by omega)
  rw [show idx r - 1 + 1 = idx r by omega] at s1
  have e2 : (2 ^ 1039 : Nat) = 2 * 2 ^ 1038 := by rw [show (1039 : Nat) = 1038 + 1 from rfl]; exact two_pow 1038
  rw [e2]
  generalize 2 ^ 1038 = W at *
  generalize 2 ^ 1090 = B at *
  generalize sv (idx r + 1) = A1 at *
  generalize sv (idx r) = A0 at *
  generalize sv (idx r - 1) = Am at *
  refine ⟨a1, a2, b1, b2, ?_, ?_⟩ <;> omega

/-- A sum's ends: each rounded, taken outward, below 2 to the 16. -/
theorem out16 {Z1 Z2 T : Int} {r1 r2 : Nat} (R1 : Rd 1074 Z1 r1) (R2 : Rd 1074 Z2 r2) (hT1 : Z1 ≤ T) (hT2 : T ≤ Z2) (h1 : -((2 ^ 1090 : Nat) : Int) ≤ Z1) (h2 : Z2 ≤ ((2 ^ 1090 : Nat) : Int)) :
    Fin64 (outLo r1 r2) ∧ Fin64 (outHi r1 r2) ∧ sv (idx (outLo r1 r2)) ≤ Z1 ∧ Z2 ≤ sv (idx (outHi r1 r2)) ∧ Z1 - sv (idx (outLo r1 r2)) ≤ ((2 ^ 1039 : Nat) : Int) ∧ sv (idx (outHi r1 r2)) - Z2 ≤ ((2 ^ 1039 : Nat) : Int) := by
  obtain ⟨p1, p2, p3, p4, p5, p6⟩ := step16 R1 h1 (by omega)
  obtain ⟨q1, q2, q3, q4, q5, q6⟩ := step16 R2 (by omega) h2
  have hle : idx r1 - 1 ≤ idx r2 + 1 := sv_le.1 (by omega)
  obtain ⟨o1, o2, o3, o4⟩ := out_idx R1.num R2.num hle
  have e3 : idx (outLo r1 r2) = idx r1 - 1 := by omega
  have e4 : idx (outHi r1 r2) = idx r2 + 1 := by omega
  rw [e3, e4]
  exact ⟨fin_of_idx o1 (by omega) (by omega), fin_of_idx o2 (by omega) (by omega), p3, q4, p5, q6⟩

/-- The rung of 2 to the p. -/
def powI (p : Nat) : Int := (((1023 + p) * 4503599627370496 : Nat) : Int)
theorem sv_powI (p : Nat) : sv (powI p) = ((2 ^ (1074 + p) : Nat) : Int) := by
  unfold powI
  rcases sv_pow (1074 + p) with g | g
  · rw [show 1074 + p - 51 = 1023 + p by omega] at g
    exact g
  · omega

/-- A product, rounded: where it lies, up to 2 to the p times 1000. -/
theorem stepMul {x K : Nat} {p : Nat} {k : Int} (hp : p ≤ 900) (hx : Fin64 x) (hK : Fin64 K) (hk : sv (idx K) = k * (2 ^ 1074 : Nat)) (k1 : -1000 ≤ k) (k2 : k ≤ 1000) (x1 : -powI p ≤ idx x) (x2 : idx x ≤ powI p) :
    Num64 (fmul x K) ∧ -powI (p + 10) ≤ idx (fmul x K) ∧ idx (fmul x K) ≤ powI (p + 10) ∧ sv (idx (fmul x K) - 1) ≤ sv (idx x) * k ∧ sv (idx x) * k ≤ sv (idx (fmul x K) + 1) := by
  have R : RdU (2 ^ (2148 - 1074)) (sv (idx x) * sv (idx K)) (fmul x K) := fmul_rd hx hK
  rw [show (2148 : Nat) - 1074 = 1074 from rfl] at R
  rw [hk] at R
  have hU : (0 : Int) < ((2 ^ 1074 : Nat) : Int) := pow_pos_int 1074
  have e1 : sv (idx x) * (k * ((2 ^ 1074 : Nat) : Int)) = sv (idx x) * k * ((2 ^ 1074 : Nat) : Int) := by rw [Int.mul_assoc]
  rw [e1] at R
  have y1 : sv (idx x) ≤ sv (powI p) := sv_le.2 x2
  have y2 : -sv (powI p) ≤ sv (idx x) := by rw [← sv_neg]; exact sv_le.2 x1
  have e2 : sv (powI (p + 10)) = 1024 * sv (powI p) := by
    rw [sv_powI, sv_powI, ← Nat.add_assoc, Nat.pow_add]
    rw [Int.natCast_mul]
    rw [Int.mul_comm]
    rfl
  have hpos : 0 ≤ sv (powI p) := by rw [sv_powI]; exact Int.natCast_nonneg _
  have e3 : powI (p + 10) = (((1033 + p) * 4503599627370496 : Nat) : Int) := by unfold powI; omega
  -- the product's size
  have z : -sv (powI (p + 10)) ≤ sv (idx x) * k ∧ sv (idx x) * k ≤ sv (powI (p + 10)) := by
    rw [e2]
    generalize sv (powI p) = B at *
    generalize sv (idx x) = X at *
    have a1 : X * k ≤ B * 1000 := by
      by_cases hk0 : 0 ≤ k
      · have q1 := Int.mul_le_mul_of_nonneg_right y1 hk0
        have q2 := Int.mul_le_mul_of_nonneg_left k2 hpos
        omega
      · have q1 := Int.mul_le_mul_of_nonpos_right y2 (show k ≤ 0 by omega)
        have q2 := Int.mul_le_mul_of_nonneg_left (show -k ≤ 1000 by omega) hpos
        have q3 : -B * k = B * -k := by rw [Int.neg_mul, Int.mul_neg]
        omega
    have a2 : -(B * 1000) ≤ X * k := by
      by_cases hk0 : 0 ≤ k
      · have q1 := Int.mul_le_mul_of_nonneg_right y2 hk0
        have q2 := Int.mul_le_mul_of_nonneg_left k2 hpos
        have q3 : -B * k = -(B * k) := by rw [Int.neg_mul]
        omega
      · have q1 := Int.mul_le_mul_of_nonpos_right y1 (show k ≤ 0 by omega)
        have q2 := Int.mul_le_mul_of_nonneg_left (show -k ≤ 1000 by omega) hpos
        have q3 : B * -k = -(B * k) := by rw [Int.mul_neg]
        omega
    omega
  have a1 := R.up (-powI (p + 10)) (by omega) (by omega) (by
    rw [sv_neg]
    exact Int.mul_le_mul_of_nonneg_right z.1 (Int.le_of_lt hU))
  have a2 := R.dn (powI (p + 10)) (by omega) (by omega) (Int.mul_le_mul_of_nonneg_right z.2 (Int.le_of_lt hU))
  have b1 := below_exact R (by omega)
  have b2 := above_exact R (by omega)
  refine ⟨R.num, a1, a2, Int.le_of_mul_le_mul_right b1 hU, Int.le_of_mul_le_mul_right b2 hU⟩
end Go.Eng

/- Floats, part 3: words by a whole number that grows as they do; the sum, difference and product of finite words. Condition: words below 2^64 that are no NaN. -/
import Derived.Test.YtcigcfneldipkaaF2
namespace Go.Eng
open Go

/-- The place of a word among all, from minus infinity up; both zeros at 0. -/
def idx (x : Nat) : Int := if x / 9223372036854775808 % 2 = 1 then -((x % 9223372036854775808 : Nat) : Int) else ((x % 9223372036854775808 : Nat) : Int)
/-- What stands at a place, in units of the least magnitude. -/
def sv (i : Int) : Int := if i < 0 then -(mag i.natAbs : Int) else (mag i.natAbs : Int)

def Fin64 (x : Nat) : Prop := x < 18446744073709551616 ∧ x % 9223372036854775808 < 9218868437227405312
def Num64 (x : Nat) : Prop := x < 18446744073709551616 ∧ x % 9223372036854775808 ≤ 9218868437227405312

theorem Fin64.num {x : Nat} (h : Fin64 x) : Num64 x := ⟨h.1, Nat.le_of_lt h.2⟩
theorem Num64.nan {x : Nat} (h : Num64 x) : nanB x = false := by
  unfold nanB
  have := h.2
  simp only [decide_eq_false_iff_not]
  omega
theorem num_of_nan {x : Nat} (h : x < 18446744073709551616) (hn : nanB x = false) : Num64 x := by
  refine ⟨h, ?_⟩
  unfold nanB at hn
  simp only [decide_eq_false_iff_not] at hn
  omega

theorem idx_bound {x : Nat} (h : Num64 x) : -9218868437227405312 ≤ idx x ∧ idx x ≤ 9218868437227405312 := by
  unfold idx
  have := h.2
  split <;> omega
theorem idx_fin {x : Nat} (h : Fin64 x) : -9218868437227405312 < idx x ∧ idx x < 9218868437227405312 := by
  unfold idx
  have := h.2
  split <;> omega
theorem fin_of_idx {x : Nat} (h : Num64 x) (h1 : -9218868437227405312 < idx x) (h2 : idx x < 9218868437227405312) : Fin64 x := by
  refine ⟨h.1, ?_⟩
  unfold idx at h1 h2
  split at h1 <;> simp_all <;> omega

theorem sv_zero : sv 0 = 0 := by simp [sv, mag_zero]
theorem sv_neg (i : Int) : sv (-i) = - sv i := by
  unfold sv
  rcases Int.lt_trichotomy i 0 with h | h | h
  · rw [if_neg (by omega), if_pos h, Int.natAbs_neg]; omega
  · subst h; simp [mag_zero]
  · rw [if_pos (by omega), if_neg (by omega), Int.natAbs_neg]
theorem sv_nat (n : Nat) : sv n = mag n := by
  unfold sv
  rw [if_neg (by omega)]
  rfl
theorem sv_strict {i j : Int} (h : i < j) : sv i < sv j := by
  unfold sv
  by_cases hi : i < 0
  · rw [if_pos hi]
    have h1 : mag 0 < mag i.natAbs := mag_strict (by omega)
    rw [mag_zero] at h1
    by_cases hj : j < 0
    · rw [if_pos hj]
      have := mag_strict (show j.natAbs < i.natAbs by omega)
      omega
    · rw [if_neg hj]; omega
  · rw [if_neg hi, if_neg (by omega)]
    have := mag_strict (show i.natAbs < j.natAbs by omega)
    omega
theorem sv_le {i j : Int} : sv i ≤ sv j ↔ i ≤ j := by
  constructor
  · intro h
    rcases Int.lt_or_le j i with g | g
    · have := sv_strict g; omega
    · exact g
  · intro h
    rcases Int.lt_or_le i j with g | g
    · exact Int.le_of_lt (sv_strict g)
    · have : i = j := by omega
      rw [this]; exact Int.le_refl _
theorem sv_lt {i j : Int} : sv i < sv j ↔ i < j := by
  constructor
  · intro h
    rcases Int.lt_or_le i j with g | g
    · exact g
    · have := sv_le.2 g; omega
  · exact sv_strict

/-! ### Reading -/
def sgn (x : Nat) : Bool := x / 9223372036854775808 % 2 == 1

theorem idx_sgn (x : Nat) : idx x = if sgn x then -((x % 9223372036854775808 : Nat) : Int) else ((x % 9223372036854775808 : Nat) : Int) := by
  unfold idx sgn
  by_cases h : x / 9223372036854775808 % 2 = 1 <;> simp [h]

theorem sv_idx (x : Nat) : sv (idx x) = if sgn x then -(mag (x % 9223372036854775808) : Int) else (mag (x % 9223372036854775808) : Int) := by
  rw [idx_sgn]
  cases sgn x
  · simp only [Bool.false_eq_true, if_false]; rw [sv_nat]
  · simp only [if_true]; rw [sv_neg, sv_nat]

theorem read_fin {x : Nat} (h : Fin64 x) : ∃ m p, Ieee.double.read x = .number (sgn x) m p ∧ -1074 ≤ p ∧ m * 2 ^ (p + 1074).toNat = mag (x % 9223372036854775808) := by
  unfold Ieee.Format.read
  simp only [sw64, bi64, in64, lp64]
  have h2 := h.2
  generalize hr : x % 9223372036854775808 = r at *
  by_cases h1 : r < 4503599627370496
  · rw [if_pos h1]
    refine ⟨r, -1074, rfl, by omega, ?_⟩
    unfold mag
    rw [if_pos h1]
    simp
  · rw [if_neg h1, if_pos h2]
    refine ⟨_, _, rfl, by omega, ?_⟩
    unfold mag
    rw [if_neg h1, show (-1074 + ((r / 4503599627370496 - 1 : Nat) : Int) + 1074).toNat = r / 4503599627370496 - 1 by omega]

theorem read_inf {x : Nat} (h : x % 9223372036854775808 = 9218868437227405312) : Ieee.double.read x = .infinity (sgn x) := by
  unfold Ieee.Format.read
  simp only [sw64, bi64, in64, h]
  rfl

theorem signed_eq (s : Bool) (m k : Nat) : Ieee.signed s m k = if s then -((m * 2 ^ k : Nat) : Int) else ((m * 2 ^ k : Nat) : Int) := by
  unfold Ieee.signed
  rw [Nat.shiftLeft_eq]

/-- A signed magnitude, brought to the least unit. -/
theorem signed_scale {s : Bool} {m r : Nat} {p base : Int} (hb : -1074 ≤ base) (hbp : base ≤ p) (hm : m * 2 ^ (p + 1074).toNat = mag r) : Ieee.signed s m (p - base).toNat * (2 ^ (base + 1074).toNat : Nat) = if s then -(mag r : Int) else (mag r : Int) := by
  rw [signed_eq, ← hm]
  have e : m * 2 ^ (p - base).toNat * 2 ^ (base + 1074).toNat = m * 2 ^ (p + 1074).toNat := by
    rw [Nat.mul_assoc, ← Nat.pow_add]
    have e2 : (p - base).toNat + (base + 1074).toNat = (p + 1074).toNat := by omega
    rw [e2]
  cases s
  · simp only [Bool.false_eq_true, if_false]
    rw [← Int.natCast_mul, e]
  · simp only [if_true]
    rw [Int.neg_mul, ← Int.natCast_mul, e]

/-! ### Order -/
theorem order_idx {x y : Nat} (hx : Num64 x) (hy : Num64 y) : Ieee.double.order x y = some (compare (idx x) (idx y)) := by
  unfold Ieee.Format.order
  have hbx := idx_bound hx
  have hby := idx_bound hy
  by_cases fx : x % 9223372036854775808 < 9218868437227405312
  · obtain ⟨m, p, e1, e2, e3⟩ := read_fin ⟨hx.1, fx⟩
    have gx := idx_fin ⟨hx.1, fx⟩
    by_cases fy : y % 9223372036854775808 < 9218868437227405312
    · obtain ⟨n, q, f1, f2, f3⟩ := read_fin ⟨hy.1, fy⟩
      rw [e1, f1]
      simp only [Ieee.Datum.order]
      congr 1
      have a1 := signed_scale (s := sgn x) (base := min p q) (by omega) (by omega) e3
      have a2 := signed_scale (s := sgn y) (base := min p q) (by omega) (by omega) f3
      rw [← sv_idx] at a1 a2
      have hpos : (0 : Int) < ((2 ^ (min p q + 1074).toNat : Nat) : Int) := by have := Nat.two_pow_pos (min p q + 1074).toNat; omega
      generalize Ieee.signed (sgn x) m (p - min p q).toNat = A at *
      generalize Ieee.signed (sgn y) n (q - min p q).toNat = B at *
      generalize ((2 ^ (min p q + 1074).toNat : Nat) : Int) = U at *
      rcases Int.lt_trichotomy A B with g | g | g
      · have : A * U < B * U := Int.mul_lt_mul_of_pos_right g hpos
        rw [a1, a2, sv_lt] at this
        rw [Int.compare_eq_lt.2 g, Int.compare_eq_lt.2 this]
      · subst g
        have : idx x = idx y := by
          have h1 := (sv_le (i := idx x) (j := idx y)).1 (by omega)
          have h2 := (sv_le (i := idx y) (j := idx x)).1 (by omega)
          omega
        rw [this]
        simp
      · have : B * U < A * U := Int.mul_lt_mul_of_pos_right g hpos
        rw [a1, a2, sv_lt] at this
        rw [Int.compare_eq_gt.2 g, Int.compare_eq_gt.2 this]
    · have hy2 : y % 9223372036854775808 = 9218868437227405312 := by have := hy.2; omega
      rw [e1, read_inf hy2]
      simp only [Ieee.Datum.order]
      congr 1
      have : idx y = if sgn y then -9218868437227405312 else 9218868437227405312 := by rw [idx_sgn, hy2]; rfl
      cases hs : sgn y <;> simp only [hs, if_true, Bool.false_eq_true, if_false] at this ⊢
      · rw [Int.compare_eq_lt.2 (by omega)]
      · rw [Int.compare_eq_gt.2 (by omega)]
  · have hx2 : x % 9223372036854775808 = 9218868437227405312 := by have := hx.2; omega
    have ix : idx x = if sgn x then -9218868437227405312 else 9218868437227405312 := by rw [idx_sgn, hx2]; rfl
    by_cases fy : y % 9223372036854775808 < 9218868437227405312
    · obtain ⟨n, q, f1, f2, f3⟩ := read_fin ⟨hy.1, fy⟩
      have gy := idx_fin ⟨hy.1, fy⟩
      rw [f1, read_inf hx2]
      simp only [Ieee.Datum.order]
      congr 1
      cases hs : sgn x <;> simp only [hs, if_true, Bool.false_eq_true, if_false] at ix ⊢
      · rw [Int.compare_eq_gt.2 (by omega)]
      · rw [Int.compare_eq_lt.2 (by omega)]
    · have hy2 : y % 9223372036854775808 = 9218868437227405312 := by have := hy.2; omega
      have iy : idx y = if sgn y then -9218868437227405312 else 9218868437227405312 := by rw [idx_sgn, hy2]; rfl
      rw [read_inf hx2, read_inf hy2]
      simp only [Ieee.Datum.order]
      congr 1
      rw [ix, iy]
      cases sgn x <;> cases sgn y <;> decide

section
variable {x y : Nat}
theorem flt_idx (hx : Num64 x) (hy : Num64 y) : flt x y = decide (idx x < idx y) := by
  unfold flt
  rw [order_idx hx hy]
  rcases Int.lt_trichotomy (idx x) (idx y) with g | g | g
  · rw [Int.compare_eq_lt.2 g]; simp [g]
  · rw [Int.compare_eq_eq.2 g]; simp [g]
  · rw [Int.compare_eq_gt.2 g]; have : ¬ idx x < idx y := by omega
    simp [this]
theorem fle_idx (hx : Num64 x) (hy : Num64 y) : fle x y = decide (idx x ≤ idx y) := by
  unfold fle
  rw [order_idx hx hy]
  rcases Int.lt_trichotomy (idx x) (idx y) with g | g | g
  · rw [Int.compare_eq_lt.2 g]; have : idx x ≤ idx y := by omega
    simp [this]
  · rw [Int.compare_eq_eq.2 g]; simp [g]
  · rw [Int.compare_eq_gt.2 g]; have : ¬ idx x ≤ idx y := by omega
    simp [this]
theorem fgt_idx (hx : Num64 x) (hy : Num64 y) : fgt x y = decide (idx y < idx x) := by
  unfold fgt
  rw [order_idx hx hy]
  rcases Int.lt_trichotomy (idx x) (idx y) with g | g | g
  · rw [Int.compare_eq_lt.2 g]; have : ¬ idx y < idx x := by omega
    simp [this]
  · rw [Int.compare_eq_eq.2 g]; simp [g]
  · rw [Int.compare_eq_gt.2 g]; simp [g]
theorem feq_idx (hx : Num64 x) (hy : Num64 y) : feq x y = decide (idx x = idx y) := by
  unfold feq
  rw [order_idx hx hy]
  rcases Int.lt_trichotomy (idx x) (idx y) with g | g | g
  · rw [Int.compare_eq_lt.2 g]; have : ¬ idx x = idx y := by omega
    simp [this]
  · rw [Int.compare_eq_eq.2 g]; simp [g]
  · rw [Int.compare_eq_gt.2 g]; have : ¬ idx x = idx y := by omega
    simp [this]
end
end Go.Eng

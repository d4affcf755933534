/- Floats, part 1: magnitudes by their rung; rounding is monotone and exact where it can be. Condition: rungs up to infinity's. -/
import Derived.Test.YtcigcfneldipkaaE3
namespace Go.Eng
open Go

/-- The magnitude of a rung, in units of the least. -/
def mag (r : Nat) : Nat := if r < 4503599627370496 then r else (4503599627370496 + r % 4503599627370496) * 2 ^ (r / 4503599627370496 - 1)

theorem mag_at (E k : Nat) (h1 : k ≤ 9007199254740992) (h2 : E = 0 ∨ 4503599627370496 ≤ k) : mag (E * 4503599627370496 + k) = k * 2 ^ E := by
  unfold mag
  by_cases hk : k < 4503599627370496
  · have hE : E = 0 := by omega
    subst hE
    rw [if_pos (by omega), Nat.zero_mul, Nat.zero_add, Nat.pow_zero, Nat.mul_one]
  · rw [if_neg (by omega)]
    by_cases hk2 : k = 9007199254740992
    · subst hk2
      have e1 : (E * 4503599627370496 + 9007199254740992) % 4503599627370496 = 0 := by omega
      have e2 : (E * 4503599627370496 + 9007199254740992) / 4503599627370496 - 1 = E + 1 := by omega
      rw [e1, e2, Nat.pow_succ]
      omega
    · have e1 : (E * 4503599627370496 + k) % 4503599627370496 = k - 4503599627370496 := by omega
      have e2 : (E * 4503599627370496 + k) / 4503599627370496 - 1 = E := by omega
      have e3 : 4503599627370496 + (k - 4503599627370496) = k := by omega
      rw [e1, e2, e3]

theorem mag_succ (r : Nat) : mag (r + 1) = mag r + 2 ^ (r / 4503599627370496 - 1) := by
  by_cases h : r < 4503599627370496
  · have e3 : r / 4503599627370496 - 1 = 0 := by omega
    rw [e3]
    by_cases h2 : r + 1 < 4503599627370496
    · unfold mag
      rw [if_pos h, if_pos h2]
    · have h3 : r = 4503599627370495 := by omega
      subst h3
      decide +kernel
  · have e1 := mag_at (r / 4503599627370496 - 1) (4503599627370496 + r % 4503599627370496) (by omega) (.inr (by omega))
    have e2 := mag_at (r / 4503599627370496 - 1) (4503599627370496 + r % 4503599627370496 + 1) (by omega) (.inr (by omega))
    have e3 : (r / 4503599627370496 - 1) * 4503599627370496 + (4503599627370496 + r % 4503599627370496) = r := by omega
    rw [e3] at e1
    rw [show (r / 4503599627370496 - 1) * 4503599627370496 + (4503599627370496 + r % 4503599627370496 + 1) = r + 1 by omega] at e2
    rw [e1, e2, Nat.add_mul, Nat.one_mul]

theorem mag_lt_succ (r : Nat) : mag r < mag (r + 1) := by
  rw [mag_succ]
  have := Nat.two_pow_pos (r / 4503599627370496 - 1)
  omega

theorem mag_mono {q r : Nat} (h : q ≤ r) : mag q ≤ mag r := by
  induction r with
  | zero => have : q = 0 := by omega
            rw [this]; exact Nat.le_refl _
  | succ r ih =>
    by_cases hq : q = r + 1
    · rw [hq]; exact Nat.le_refl _
    · exact Nat.le_trans (ih (by omega)) (Nat.le_of_lt (mag_lt_succ r))

theorem mag_strict {q r : Nat} (h : q < r) : mag q < mag r := Nat.lt_of_lt_of_le (mag_lt_succ q) (mag_mono h)
theorem mag_le {q r : Nat} : mag q ≤ mag r ↔ q ≤ r := ⟨fun h => by
  by_cases hq : q ≤ r
  · exact hq
  · have := mag_strict (show r < q by omega); omega, mag_mono⟩
theorem mag_inj {q r : Nat} (h : mag q = mag r) : q = r := by
  have h1 := (mag_le (q := q) (r := r)).1 (by omega)
  have h2 := (mag_le (q := r) (r := q)).1 (by omega)
  omega
theorem mag_zero : mag 0 = 0 := by simp [mag]

/-! ### Cutting -/
theorem cut_le {neg : Bool} {n b m : Nat} (h : m * 2 ^ b ≤ n) : m ≤ Ieee.Toward.even.cut neg n b := by
  unfold Ieee.Toward.cut
  simp only
  rw [Nat.one_shiftLeft]
  by_cases hb : b ≤ n.log2 + 2
  · rw [Nat.min_eq_left hb]
    have h1 : m ≤ n / 2 ^ b := (Nat.le_div_iff_mul_le (Nat.two_pow_pos b)).2 h
    omega
  · have hn : n < 2 ^ (n.log2 + 1) := Nat.lt_log2_self
    have hlt : n < 2 ^ b := Nat.lt_of_lt_of_le hn (Nat.pow_le_pow_right (by omega) (by omega))
    have : m = 0 := by
      cases m with
      | zero => rfl
      | succ m =>
        exfalso
        have : 2 ^ b ≤ (m + 1) * 2 ^ b := Nat.le_mul_of_pos_left _ (by omega)
        omega
    rw [this]
    exact Nat.zero_le _

theorem le_cut {neg : Bool} {n b m : Nat} (h : n ≤ m * 2 ^ b) : Ieee.Toward.even.cut neg n b ≤ m := by
  unfold Ieee.Toward.cut
  simp only
  rw [Nat.one_shiftLeft]
  by_cases hb : b ≤ n.log2 + 2
  · rw [Nat.min_eq_left hb]
    have hp := Nat.two_pow_pos b
    have h0 := Nat.div_add_mod n (2 ^ b)
    have h1 : n / 2 ^ b ≤ m := by
      have := Nat.div_le_div_right (c := 2 ^ b) h
      rwa [Nat.mul_div_cancel _ hp] at this
    by_cases hr : n % 2 ^ b = 0
    · rw [hr]
      have : ¬ (2 ^ b < 2 * 0) := by omega
      have h2 : ((2 ^ b == 2 * 0) : Bool) = false := by
        simp only [Nat.mul_zero, beq_eq_false_iff_ne, ne_eq]
        omega
      simp only [this, h2, decide_false, Bool.false_and, Bool.or_false, Bool.toNat_false, Nat.add_zero]
      exact h1
    · have h2 : n / 2 ^ b < m := by
        rcases Nat.lt_or_ge (n / 2 ^ b) m with g | g
        · exact g
        · exfalso
          have e : n / 2 ^ b = m := by omega
          rw [e, Nat.mul_comm] at h0
          omega
      have h3 := Bool.toNat_le (decide (2 ^ b < 2 * (n % 2 ^ b)) || (2 ^ b == 2 * (n % 2 ^ b)) && n / 2 ^ b % 2 == 1)
      omega
  · have hn : n < 2 ^ (n.log2 + 1) := Nat.lt_log2_self
    rw [Nat.min_eq_right (by omega)]
    have e2 : 2 ^ (n.log2 + 2) = 2 * 2 ^ (n.log2 + 1) := by rw [Nat.pow_succ]; omega
    have e3 : n / 2 ^ (n.log2 + 2) = 0 := Nat.div_eq_of_lt (by omega)
    have e4 : n % 2 ^ (n.log2 + 2) = n := Nat.mod_eq_of_lt (by omega)
    rw [e3, e4]
    have h2 : ¬ (2 ^ (n.log2 + 2) < 2 * n) := by omega
    have h3 : ((2 ^ (n.log2 + 2) == 2 * n) : Bool) = false := by
      simp only [beq_eq_false_iff_ne, ne_eq]
      omega
    simp only [h2, h3, decide_false, Bool.false_and, Bool.or_false, Bool.toNat_false, Nat.add_zero]
    omega

end Go.Eng

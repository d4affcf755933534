/- Floats, part 5: the next word above, below; whole numbers are exact; what an outward step is off at most. Condition: words that are no NaN. -/
import Derived.Test.YtcigcfneldipkaaF4
import Derived.Test.YtcigcfneldipkaaL6
namespace Go.Eng
open Go

theorem canon_num {x : Nat} (h : Num64 x) : canon x = x := canon_of_not h.nan

theorem wrap64 {m : Int} (h0 : 0 ≤ m) (h1 : m < 18446744073709551616) : IntKind.u64.wrap m = m := by
  unfold IntKind.wrap
  simp [IntKind.bits, IntKind.signed]
  omega

theorem num_inf : Num64 infB := by unfold Num64 infB; omega
theorem num_ninf : Num64 ninfB := by unfold Num64 ninfB; omega
theorem num_zero : Num64 0 := by unfold Num64; omega
theorem idx_inf : idx infB = 9218868437227405312 := by decide +kernel
theorem idx_ninf : idx ninfB = -9218868437227405312 := by decide +kernel
theorem idx_zero : idx 0 = 0 := by decide +kernel

theorem fup_idx {x : Nat} (hx : Num64 x) : Num64 (fup x) ∧ idx (fup x) = min (idx x + 1) 9218868437227405312 := by
  have hb := idx_bound hx
  unfold fup
  rw [fne_self, hx.nan, feq_idx hx num_inf, feq_idx hx num_zero, fgt_idx num_inf hx, fgt_idx hx num_zero, idx_inf, idx_zero]
  simp only [cond_false]
  by_cases h1 : idx x = 9218868437227405312
  · simp only [h1, decide_true, cond_true]
    exact ⟨hx, by omega⟩
  · simp only [h1, decide_false, cond_false]
    by_cases h2 : idx x = 0
    · simp only [h2, decide_true, cond_true]
      exact ⟨by unfold Num64; omega, by decide +kernel⟩
    · simp only [h2, decide_false, cond_false]
      have hlt : idx x < 9218868437227405312 := by omega
      simp only [hlt, decide_true]
      have hx1 := hx.1
      have hx2 := hx.2
      by_cases h3 : 0 < idx x
      · simp only [h3, decide_true, BEq.rfl, cond_true]
        have hs : x < 9223372036854775808 := by
          unfold idx at h3
          split at h3 <;> omega
        have hi : idx x = x := by
          unfold idx
          rw [if_neg (by omega)]
          omega
        rw [wrap64 (by omega) (by omega), show ((x : Int) + 1).toNat = x + 1 by omega]
        have hn : Num64 (x + 1) := ⟨by omega, by omega⟩
        rw [canon_num hn]
        refine ⟨hn, ?_⟩
        rw [hi, show idx (x + 1) = ((x + 1 : Nat) : Int) by unfold idx; rw [if_neg (by omega)]; omega]
        omega
      · have hf : (true == decide (0 < idx x)) = false := by simp [h3]
        rw [hf]
        simp only [cond_false]
        have hneg : x / 9223372036854775808 % 2 = 1 := by
          unfold idx at h2 h3
          split at h3 <;> omega
        have hi : idx x = -((x % 9223372036854775808 : Nat) : Int) := by
          unfold idx
          rw [if_pos hneg]
        rw [wrap64 (by omega) (by omega), show ((x : Int) - 1).toNat = x - 1 by omega]
        have hn : Num64 (x - 1) := ⟨by omega, by omega⟩
        rw [canon_num hn]
        refine ⟨hn, ?_⟩
        rw [show idx (x - 1) = -(((x - 1) % 9223372036854775808 : Nat) : Int) by unfold idx; rw [if_pos (by omega)]]
        omega

theorem fdown_idx {x : Nat} (hx : Num64 x) : Num64 (fdown x) ∧ idx (fdown x) = max (idx x - 1) (-9218868437227405312) := by
  have hb := idx_bound hx
  unfold fdown
  rw [fne_self, hx.nan, feq_idx hx num_ninf, feq_idx hx num_zero, fgt_idx num_ninf hx, fgt_idx hx num_zero, idx_ninf, idx_zero]
  simp only [cond_false]
  by_cases h1 : idx x = -9218868437227405312
  · simp only [h1, decide_true, cond_true]
    exact ⟨hx, by omega⟩
  · simp only [h1, decide_false, cond_false]
    by_cases h2 : idx x = 0
    · simp only [h2, decide_true, cond_true]
      exact ⟨by unfold Num64; omega, by decide +kernel⟩
    · simp only [h2, decide_false, cond_false]
      have hlt : ¬ idx x < -9218868437227405312 := by omega
      simp only [hlt, decide_false]
      have hx1 := hx.1
      have hx2 := hx.2
      by_cases h3 : 0 < idx x
      · have hf : (false == decide (0 < idx x)) = false := by simp [h3]
        rw [hf]
        simp only [cond_false]
        have hs : x < 9223372036854775808 := by
          unfold idx at h3
          split at h3 <;> omega
        have hi : idx x = x := by
          unfold idx
          rw [if_neg (by omega)]
          omega
        rw [wrap64 (by omega) (by omega), show ((x : Int) - 1).toNat = x - 1 by omega]
        have hn : Num64 (x - 1) := ⟨by omega, by omega⟩
        rw [canon_num hn]
        refine ⟨hn, ?_⟩
        rw [hi, show idx (x - 1) = ((x - 1 : Nat) : Int) by unfold idx; rw [if_neg (by omega)]; omega]
        omega
      · have hf : (false == decide (0 < idx x)) = true := by simp [h3]
        rw [hf]
        simp only [cond_true]
        have hneg : x / 9223372036854775808 % 2 = 1 := by
          unfold idx at h2 h3
          split at h3 <;> omega
        have hi : idx x = -((x % 9223372036854775808 : Nat) : Int) := by
          unfold idx
          rw [if_pos hneg]
        rw [wrap64 (by omega) (by omega), show ((x : Int) + 1).toNat = x + 1 by omega]
        have hn : Num64 (x + 1) := ⟨by omega, by omega⟩
        rw [canon_num hn]
        refine ⟨hn, ?_⟩
        rw [show idx (x + 1) = -(((x + 1) % 9223372036854775808 : Nat) : Int) by unfold idx; rw [if_pos (by omega)]]
        omega

/-! ### Whole numbers -/
theorem mag_whole (n : Nat) (h0 : n ≠ 0) (h : n < 9007199254740992) : ∃ q, q < 9218868437227405312 ∧ mag q = n * 2 ^ 1074 := by
  have hL : 2 ^ n.log2 ≤ n := Nat.log2_self_le h0
  have hU : n < 2 ^ (n.log2 + 1) := Nat.lt_log2_self
  have hl : n.log2 < 53 := (Nat.log2_lt h0).2 (by rw [show (2 : Nat) ^ 53 = 9007199254740992 by decide +kernel]; exact h)
  generalize n.log2 = L at *
  have e52 : (4503599627370496 : Nat) = 2 ^ 52 := by decide +kernel
  have e53 : (9007199254740992 : Nat) = 2 ^ 53 := by decide +kernel
  have k1 : 4503599627370496 ≤ n * 2 ^ (52 - L) := by
    refine Nat.le_trans ?_ (Nat.mul_le_mul_right _ hL)
    rw [e52, ← Nat.pow_add]
    exact Nat.pow_le_pow_right (by omega) (by omega)
  have k2 : n * 2 ^ (52 - L) ≤ 9007199254740992 := by
    refine Nat.le_trans (Nat.mul_le_mul_right _ (Nat.le_of_lt hU)) ?_
    rw [e53, ← Nat.pow_add]
    exact Nat.pow_le_pow_right (by omega) (by omega)
  refine ⟨(1022 + L) * 4503599627370496 + n * 2 ^ (52 - L), by omega, ?_⟩
  rw [mag_at _ _ k2 (.inr k1), Nat.mul_assoc, ← Nat.pow_add]
  have e : 52 - L + (1022 + L) = 1074 := by omega
  rw [e]

theorem sv_whole (n : Int) (h : n.natAbs < 9007199254740992) : ∃ i, -9218868437227405312 < i ∧ i < 9218868437227405312 ∧ sv i = n * (2 ^ 1074 : Nat) := by
  by_cases h0 : n = 0
  · subst h0; exact ⟨0, by omega, by omega, by rw [sv_zero]; omega⟩
  · obtain ⟨q, h1, h2⟩ := mag_whole n.natAbs (by omega) h
    generalize 2 ^ 1074 = U at *
    by_cases hn : n < 0
    · refine ⟨-(q : Int), by omega, by omega, ?_⟩
      rw [sv_neg, sv_nat, h2, Int.natCast_mul, ← Int.neg_mul]
      congr 1
      omega
    · refine ⟨(q : Int), by omega, by omega, ?_⟩
      rw [sv_nat, h2, Int.natCast_mul]
      congr 1
      omega

theorem one_unit (i : Int) : sv i * ((2 ^ (1074 - 1074) : Nat) : Int) = sv i := by
  rw [Nat.sub_self, Nat.pow_zero]
  simp

theorem fofint_exact (n : Int) (h : n.natAbs < 9007199254740992) : Fin64 (fofint n) ∧ sv (idx (fofint n)) = n * (2 ^ 1074 : Nat) := by
  obtain ⟨i, h1, h2, h3⟩ := sv_whole n h
  have R := fofint_rd n
  have e : idx (fofint n) = i := by
    have a := R.up i (by omega) (by omega) (by rw [one_unit, h3]; exact Int.le_refl _)
    have b := R.dn i (by omega) (by omega) (by rw [one_unit, h3]; exact Int.le_refl _)
    omega
  rw [e]
  exact ⟨fin_of_idx R.num (by omega) (by omega), h3⟩

/-! ### An outward step -/
section
variable {U : Nat} {Z : Int} {r : Nat}

/-- One below is not above what is exact. -/
theorem below_exact (R : RdU U Z r) (h : -9218868437227405312 < idx r) : sv (idx r - 1) * (U : Int) ≤ Z := by
  have hb := idx_bound R.num
  rcases Int.lt_or_le Z (sv (idx r - 1) * U) with g | g
  · have := R.dn (idx r - 1) (by omega) (by omega) (Int.le_of_lt g)
    omega
  · exact g
theorem above_exact (R : RdU U Z r) (h : idx r < 9218868437227405312) : Z ≤ sv (idx r + 1) * (U : Int) := by
  have hb := idx_bound R.num
  rcases Int.lt_or_le (sv (idx r + 1) * U) Z with g | g
  · have := R.up (idx r + 1) (by omega) (by omega) (Int.le_of_lt g)
    omega
  · exact g
end

theorem sv_step {i : Int} {e : Nat} (h1 : -(((e + 2) * 4503599627370496 : Nat) : Int) ≤ i) (h2 : i < ((e + 2) * 4503599627370496 : Nat)) : sv (i + 1) - sv i ≤ (2 ^ e : Nat) := by
  by_cases h : 0 ≤ i
  · obtain ⟨q, rfl⟩ := Int.eq_ofNat_of_zero_le h
    have e1 : ((q : Int) + 1) = ((q + 1 : Nat) : Int) := rfl
    rw [e1, sv_nat, sv_nat, mag_succ]
    have : 2 ^ (q / 4503599627370496 - 1) ≤ 2 ^ e := Nat.pow_le_pow_right (by omega) (by omega)
    omega
  · obtain ⟨q, hq⟩ := Int.eq_ofNat_of_zero_le (show 0 ≤ -i - 1 by omega)
    have e1 : i = -((q + 1 : Nat) : Int) := by omega
    have e2 : i + 1 = -(q : Int) := by omega
    rw [e2, e1, sv_neg, sv_neg, sv_nat, sv_nat, mag_succ]
    have : 2 ^ (q / 4503599627370496 - 1) ≤ 2 ^ e := Nat.pow_le_pow_right (by omega) (by omega)
    omega

/-- The place of 2 to the p. -/
theorem sv_pow (p : Nat) : sv (((p - 51) * 4503599627370496 : Nat) : Int) = ((2 ^ p : Nat) : Int) ∨ p < 52 := by
  by_cases h : p < 52
  · exact .inr h
  · left
    rw [sv_nat]
    have e : (p - 51) * 4503599627370496 = (p - 52) * 4503599627370496 + 4503599627370496 := by omega
    rw [e, mag_at _ _ (by omega) (.inr (by omega)), show (4503599627370496 : Nat) = 2 ^ 52 by decide +kernel, ← Nat.pow_add]
    congr 2
    omega
end Go.Eng

/- Floats, part 4: sum, difference, product, a whole number made a float: each the word nearest to what is exact. Condition: finite words. -/
import Derived.Test.YtcigcfneldipkaaF3
namespace Go.Eng
open Go

/-- r is the word nearest to Z, in units of 2 to the -K, as far as order tells. -/
structure RdU (U : Nat) (Z : Int) (r : Nat) : Prop where
  num : Num64 r
  up : ∀ i, -9218868437227405312 ≤ i → i ≤ 9218868437227405312 → sv i * (U : Int) ≤ Z → i ≤ idx r
  dn : ∀ i, -9218868437227405312 ≤ i → i ≤ 9218868437227405312 → Z ≤ sv i * (U : Int) → idx r ≤ i
abbrev Rd (K : Nat) (Z : Int) (r : Nat) : Prop := RdU (2 ^ (K - 1074)) Z r

theorem cast_le {a b c : Nat} : (a : Int) * (b : Int) ≤ (c : Int) ↔ a * b ≤ c := by
  rw [← Int.natCast_mul]; exact Int.ofNat_le
theorem le_cast {a b c : Nat} : (c : Int) ≤ (a : Int) * (b : Int) ↔ c ≤ a * b := by
  rw [← Int.natCast_mul]; exact Int.ofNat_le

theorem rungOf_le (m : Nat) (p : Int) : rungOf m p ≤ 9218868437227405312 := by
  unfold rungOf
  split
  · omega
  · exact Nat.min_le_right _ _

theorem word_eq (neg : Bool) (g : Nat) : Ieee.double.word neg g = if neg then 9223372036854775808 + g else g := by
  unfold Ieee.Format.word
  rw [sw64]

theorem rd_word (neg : Bool) (m : Nat) (p : Int) (K : Nat) (hK : 1074 ≤ K) (hp : 0 ≤ p + K) : Rd K (if neg then -((m * 2 ^ (p + K).toNat : Nat) : Int) else ((m * 2 ^ (p + K).toNat : Nat) : Int)) (Ieee.double.word neg (rungOf m p)) := by
  have hg := rungOf_le m p
  have L := fun q hq h => le_rung (m := m) (p := p) (K := K) hK hp (q := q) hq h
  have G := fun q h => rung_le (m := m) (p := p) (K := K) hK hp (q := q) h
  rw [word_eq]
  show RdU _ _ _
  generalize rungOf m p = g at *
  generalize m * 2 ^ (p + K).toNat = X at *
  have hU := Nat.two_pow_pos (K - 1074)
  generalize 2 ^ (K - 1074) = U at *
  cases neg with
  | false =>
    simp only [Bool.false_eq_true, if_false]
    have hi : idx g = g := by unfold idx; rw [if_neg (by omega)]; omega
    refine ⟨⟨by omega, by omega⟩, fun i h1 h2 h => ?_, fun i h1 h2 h => ?_⟩
    · rw [hi]
      by_cases h0 : i < 0
      · omega
      · obtain ⟨q, rfl⟩ := Int.eq_ofNat_of_zero_le (show 0 ≤ i by omega)
        rw [sv_nat] at h
        have := L q (by omega) (cast_le.1 h)
        omega
    · rw [hi]
      by_cases h0 : i < 0
      · exfalso
        have h3 := sv_strict h0
        rw [sv_zero] at h3
        have := Int.mul_neg_of_neg_of_pos h3 (show (0 : Int) < (U : Int) by omega)
        omega
      · obtain ⟨q, rfl⟩ := Int.eq_ofNat_of_zero_le (show 0 ≤ i by omega)
        rw [sv_nat] at h
        have := G q (le_cast.1 h)
        omega
  | true =>
    simp only [if_true]
    have hi : idx (9223372036854775808 + g) = -g := by
      unfold idx
      by_cases hg0 : g < 9223372036854775808
      · rw [if_pos (by omega), show (9223372036854775808 + g) % 9223372036854775808 = g by omega]
      · omega
    refine ⟨⟨by omega, by omega⟩, fun i h1 h2 h => ?_, fun i h1 h2 h => ?_⟩
    · rw [hi]
      by_cases h0 : 0 < i
      · exfalso
        have h3 := sv_strict h0
        rw [sv_zero] at h3
        have := Int.mul_pos h3 (show (0 : Int) < (U : Int) by omega)
        omega
      · obtain ⟨q, hq⟩ := Int.eq_ofNat_of_zero_le (show 0 ≤ -i by omega)
        have e : i = -(q : Int) := by omega
        subst e
        rw [sv_neg, sv_nat, Int.neg_mul] at h
        have h' : ((X : Nat) : Int) ≤ (mag q : Int) * (U : Int) := by omega
        have := G q (le_cast.1 h')
        omega
    · rw [hi]
      by_cases h0 : 0 ≤ i
      · omega
      · obtain ⟨q, hq⟩ := Int.eq_ofNat_of_zero_le (show 0 ≤ -i by omega)
        have e : i = -(q : Int) := by omega
        subst e
        rw [sv_neg, sv_nat, Int.neg_mul] at h
        have h' : (mag q : Int) * (U : Int) ≤ ((X : Nat) : Int) := by omega
        have := L q (by omega) (cast_le.1 h')
        omega

/-! ### The operations -/
theorem write_number (s : Bool) (m : Nat) (p : Int) : Ieee.double.write (.number s m p) = Ieee.double.word s (rungOf m p) := nearest_eq s m p

theorem natAbs_sign {s t : Bool} {T : Int} : (if (if T = 0 then s && t else decide (T < 0)) then -((T.natAbs : Nat) : Int) else ((T.natAbs : Nat) : Int)) = T := by
  by_cases h : T = 0
  · subst h; cases s <;> cases t <;> rfl
  · rw [if_neg h]
    by_cases h2 : T < 0
    · simp only [h2, decide_true, if_true]; omega
    · simp only [h2, decide_false, Bool.false_eq_true, if_false]; omega

theorem rd_sum {s t sg : Bool} {m n : Nat} {p q : Int} {A B : Int} (hp : -1074 ≤ p) (hq : -1074 ≤ q) (hA : Ieee.signed s m (p - min p q).toNat * (2 ^ (min p q + 1074).toNat : Nat) = A) (hB : Ieee.signed t n (q - min p q).toNat * (2 ^ (min p q + 1074).toNat : Nat) = B)
    (hs : sg = (if Ieee.signed s m (p - min p q).toNat + Ieee.signed t n (q - min p q).toNat = 0 then s && t else decide (Ieee.signed s m (p - min p q).toNat + Ieee.signed t n (q - min p q).toNat < 0))) :
    Rd 1074 (A + B) (Ieee.double.write (.number sg (Ieee.signed s m (p - min p q).toNat + Ieee.signed t n (q - min p q).toNat).natAbs (min p q))) := by
  rw [write_number, ← hA, ← hB, ← Int.add_mul]
  generalize Ieee.signed s m (p - min p q).toNat + Ieee.signed t n (q - min p q).toNat = T at *
  have h := rd_word sg T.natAbs (min p q) 1074 (Nat.le_refl _) (by omega)
  have e : (if sg then -((T.natAbs * 2 ^ (min p q + (1074 : Nat)).toNat : Nat) : Int) else ((T.natAbs * 2 ^ (min p q + (1074 : Nat)).toNat : Nat) : Int)) = T * (2 ^ (min p q + 1074).toNat : Nat) := by
    have h2 := natAbs_sign (s := s) (t := t) (T := T)
    rw [← hs] at h2
    have e3 : (min p q + (1074 : Nat)).toNat = (min p q + 1074).toNat := rfl
    rw [e3]
    generalize 2 ^ (min p q + 1074).toNat = U at *
    cases sg
    · simp only [Bool.false_eq_true, if_false] at h2 ⊢
      rw [Int.natCast_mul, h2]
    · simp only [if_true] at h2 ⊢
      rw [Int.natCast_mul, ← Int.neg_mul, h2]
  rw [e] at h
  exact h

section
variable {x y : Nat}

theorem fadd_rd (hx : Fin64 x) (hy : Fin64 y) : Rd 1074 (sv (idx x) + sv (idx y)) (fadd x y) := by
  obtain ⟨m, p, e1, e2, e3⟩ := read_fin hx
  obtain ⟨n, q, f1, f2, f3⟩ := read_fin hy
  unfold fadd Ieee.Format.add
  rw [e1, f1]
  simp only [Ieee.Datum.sum, Option.map_some, Option.getD_some]
  refine rd_sum e2 f2 ?_ ?_ rfl
  · rw [sv_idx]; exact signed_scale (by omega) (by omega) e3
  · rw [sv_idx]; exact signed_scale (by omega) (by omega) f3

theorem fsub_rd (hx : Fin64 x) (hy : Fin64 y) : Rd 1074 (sv (idx x) - sv (idx y)) (fsub x y) := by
  obtain ⟨m, p, e1, e2, e3⟩ := read_fin hx
  obtain ⟨n, q, f1, f2, f3⟩ := read_fin hy
  unfold fsub Ieee.Format.sub
  rw [e1, f1]
  simp only [Ieee.Datum.opposite, Ieee.Datum.sum, Option.map_some, Option.getD_some]
  rw [Int.sub_eq_add_neg]
  refine rd_sum e2 f2 ?_ ?_ rfl
  · rw [sv_idx]; exact signed_scale (by omega) (by omega) e3
  · rw [sv_idx, signed_scale (r := y % 9223372036854775808) (by omega) (by omega) f3]
    cases sgn y <;> simp

theorem fmul_rd (hx : Fin64 x) (hy : Fin64 y) : Rd 2148 (sv (idx x) * sv (idx y)) (fmul x y) := by
  obtain ⟨m, p, e1, e2, e3⟩ := read_fin hx
  obtain ⟨n, q, f1, f2, f3⟩ := read_fin hy
  unfold fmul Ieee.Format.mul
  rw [e1, f1]
  simp only [Ieee.Datum.product, Option.map_some, Option.getD_some]
  rw [write_number]
  have h := rd_word (sgn x ^^ sgn y) (m * n) (p + q) 2148 (by omega) (by omega)
  have e : m * n * 2 ^ (p + q + (2148 : Nat)).toNat = mag (x % 9223372036854775808) * mag (y % 9223372036854775808) := by
    rw [← e3, ← f3]
    have : (p + q + (2148 : Nat)).toNat = (p + 1074).toNat + (q + 1074).toNat := by omega
    rw [this, Nat.pow_add]
    generalize 2 ^ (p + 1074).toNat = U
    generalize 2 ^ (q + 1074).toNat = W
    rw [Nat.mul_assoc, Nat.mul_assoc, Nat.mul_left_comm n]
  rw [e] at h
  have e2 : (if (sgn x ^^ sgn y) then -((mag (x % 9223372036854775808) * mag (y % 9223372036854775808) : Nat) : Int) else ((mag (x % 9223372036854775808) * mag (y % 9223372036854775808) : Nat) : Int)) = sv (idx x) * sv (idx y) := by
    rw [sv_idx, sv_idx]
    cases sgn x <;> cases sgn y <;> simp [Int.natCast_mul, Int.neg_mul, Int.mul_neg]
  rw [e2] at h
  exact h
end

theorem fofint_rd (n : Int) : Rd 1074 (n * (2 ^ 1074 : Nat)) (fofint n) := by
  rw [fofint_eq, write_number]
  have h := rd_word (decide (n < 0)) n.natAbs 0 1074 (Nat.le_refl _) (by omega)
  have e : (if (decide (n < 0)) = true then -((n.natAbs * 2 ^ ((0 : Int) + (1074 : Nat)).toNat : Nat) : Int) else ((n.natAbs * 2 ^ ((0 : Int) + (1074 : Nat)).toNat : Nat) : Int)) = n * (2 ^ 1074 : Nat) := by
    have e3 : ((0 : Int) + (1074 : Nat)).toNat = 1074 := rfl
    rw [e3]
    generalize 2 ^ 1074 = U
    by_cases hn : n < 0
    · simp only [hn, decide_true, if_true]
      rw [Int.natCast_mul, ← Int.neg_mul]
      congr 1
      omega
    · simp only [hn, decide_false, Bool.false_eq_true, if_false]
      rw [Int.natCast_mul]
      congr 1
      omega
  rw [e] at h
  exact h
end Go.Eng

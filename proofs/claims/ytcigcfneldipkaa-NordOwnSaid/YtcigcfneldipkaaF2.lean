/- Floats, part 2: the rung nearest to a number. Condition: the number's place is told from far enough below. -/
import Derived.Test.YtcigcfneldipkaaF1
namespace Go.Eng
open Go

def lastOf (m : Nat) (p : Int) : Int := max (p + m.log2 - 52) (-1074)
def keptOf (m : Nat) (p : Int) : Nat := Ieee.Toward.even.cut false (m <<< (p - lastOf m p).toNat) (lastOf m p - p).toNat
def rungOf (m : Nat) (p : Int) : Nat := if m = 0 then 0 else min ((lastOf m p + 1074).toNat * 4503599627370496 + keptOf m p) 9218868437227405312

theorem lp64 : Ieee.double.leastPlace = -1074 := by decide +kernel

theorem nearest_eq (neg : Bool) (m : Nat) (p : Int) : Ieee.double.nearest neg m p = Ieee.double.word neg (rungOf m p) := by
  unfold Ieee.Format.nearest rungOf keptOf lastOf
  by_cases h : m = 0
  · simp [h]
  · rw [if_neg h, if_neg h]
    simp only [bi64, in64, lp64]
    have e1 : (Ieee.double.fractionBits : Int) = 52 := rfl
    rw [e1, show ∀ x : Int, x - -1074 = x + 1074 from fun x => by omega]
    rfl

/-- What is kept lies in its binade. -/
theorem kept_facts (m : Nat) (p : Int) (hm : m ≠ 0) : keptOf m p ≤ 9007199254740992 ∧ ((lastOf m p + 1074).toNat = 0 ∨ 4503599627370496 ≤ keptOf m p) ∧
    m <<< (p - lastOf m p).toNat < 9007199254740992 * 2 ^ (lastOf m p - p).toNat ∧ ((lastOf m p + 1074).toNat = 0 ∨ 4503599627370496 * 2 ^ (lastOf m p - p).toNat ≤ m <<< (p - lastOf m p).toNat) := by
  have hL : 2 ^ m.log2 ≤ m := Nat.log2_self_le hm
  have hU : m < 2 ^ (m.log2 + 1) := Nat.lt_log2_self
  have hl : lastOf m p = p + m.log2 - 52 ∨ lastOf m p = -1074 := by unfold lastOf; omega
  have hg : p + m.log2 - 52 ≤ lastOf m p := by unfold lastOf; omega
  generalize hlast : lastOf m p = l at *
  have e52 : (4503599627370496 : Nat) = 2 ^ 52 := by decide +kernel
  have e53 : (9007199254740992 : Nat) = 2 ^ 53 := by decide +kernel
  have hupper : m <<< (p - l).toNat < 9007199254740992 * 2 ^ (l - p).toNat := by
    rw [Nat.shiftLeft_eq, e53, ← Nat.pow_add]
    refine Nat.lt_of_lt_of_le (Nat.mul_lt_mul_of_pos_right hU (Nat.two_pow_pos _)) ?_
    rw [← Nat.pow_add]
    exact Nat.pow_le_pow_right (by omega) (by omega)
  have hlower : (l + 1074).toNat = 0 ∨ 4503599627370496 * 2 ^ (l - p).toNat ≤ m <<< (p - l).toNat := by
    rcases hl with h | h
    · right
      rw [Nat.shiftLeft_eq, e52, ← Nat.pow_add]
      refine Nat.le_trans ?_ (Nat.mul_le_mul_right _ hL)
      rw [← Nat.pow_add]
      exact Nat.pow_le_pow_right (by omega) (by omega)
    · left; omega
  refine ⟨?_, ?_, hupper, hlower⟩
  · unfold keptOf
    rw [hlast]
    exact le_cut (Nat.le_of_lt hupper)
  · rcases hlower with h | h
    · exact .inl h
    · right
      unfold keptOf
      rw [hlast]
      exact cut_le h

section
variable {m : Nat} {p : Int} {K : Nat}

/-- The number against what is cut. -/
theorem scale_eq (hK : 1074 ≤ K) (hp : 0 ≤ p + K) : m <<< (p - lastOf m p).toNat * (2 ^ (lastOf m p + 1074).toNat * 2 ^ (K - 1074)) = m * 2 ^ (p + K).toNat * 2 ^ (lastOf m p - p).toNat := by
  have hl : -1074 ≤ lastOf m p := by unfold lastOf; omega
  generalize lastOf m p = l at *
  rw [Nat.shiftLeft_eq, Nat.mul_assoc, Nat.mul_assoc, ← Nat.pow_add, ← Nat.pow_add, ← Nat.pow_add]
  have e : (p - l).toNat + ((l + 1074).toNat + (K - 1074)) = (p + K).toNat + (l - p).toNat := by omega
  rw [e]

theorem le_rung (hK : 1074 ≤ K) (hp : 0 ≤ p + K) {q : Nat} (hq : q ≤ 9218868437227405312) (h : mag q * 2 ^ (K - 1074) ≤ m * 2 ^ (p + K).toNat) : q ≤ rungOf m p := by
  unfold rungOf
  by_cases hm : m = 0
  · subst hm
    rw [if_pos rfl]
    have h0 : mag q * 2 ^ (K - 1074) = 0 := by simpa using h
    have hp0 := Nat.two_pow_pos (K - 1074)
    have : mag q = 0 := by
      rcases Nat.mul_eq_zero.1 h0 with g | g
      · exact g
      · omega
    have := mag_inj (q := q) (r := 0) (by rw [this, mag_zero])
    omega
  · rw [if_neg hm]
    obtain ⟨k1, k2, k3, k4⟩ := kept_facts m p hm
    have hs := scale_eq (m := m) hK hp
    generalize hE : (lastOf m p + 1074).toNat = E at *
    have hb := Nat.two_pow_pos (lastOf m p - p).toNat
    have hu : 0 < 2 ^ E * 2 ^ (K - 1074) := Nat.mul_pos (Nat.two_pow_pos _) (Nat.two_pow_pos _)
    -- m' units are not above the number: m' is kept
    have key : ∀ k, k * 2 ^ E * 2 ^ (K - 1074) ≤ m * 2 ^ (p + K).toNat → k * 2 ^ (lastOf m p - p).toNat ≤ m <<< (p - lastOf m p).toNat := by
      intro k hk
      refine Nat.le_of_mul_le_mul_right ?_ hu
      rw [hs]
      calc k * 2 ^ (lastOf m p - p).toNat * (2 ^ E * 2 ^ (K - 1074)) = k * 2 ^ E * 2 ^ (K - 1074) * 2 ^ (lastOf m p - p).toNat := by
            rw [Nat.mul_assoc k, Nat.mul_comm (2 ^ (lastOf m p - p).toNat), ← Nat.mul_assoc k, ← Nat.mul_assoc k]
        _ ≤ _ := Nat.mul_le_mul_right _ hk
    refine Nat.le_min.2 ⟨?_, hq⟩
    rcases Nat.lt_or_ge (E * 4503599627370496 + keptOf m p) q with hlt | hge
    · exfalso
      by_cases hk : keptOf m p + 1 ≤ 9007199254740992
      · have h1 : mag (E * 4503599627370496 + (keptOf m p + 1)) ≤ mag q := mag_mono (by omega)
        rw [mag_at E _ hk (by omega)] at h1
        have h2 := key (keptOf m p + 1) (Nat.le_trans (Nat.mul_le_mul_right _ h1) h)
        have := cut_le (neg := false) h2
        change keptOf m p + 1 ≤ keptOf m p at this
        omega
      · have hk' : keptOf m p = 9007199254740992 := by omega
        have h1 : mag (E * 4503599627370496 + 9007199254740992) ≤ mag q := mag_mono (by omega)
        rw [mag_at E _ (by omega) (.inr (by omega))] at h1
        have h2 := key 9007199254740992 (Nat.le_trans (Nat.mul_le_mul_right _ h1) h)
        omega
    · exact hge

theorem rung_le (hK : 1074 ≤ K) (hp : 0 ≤ p + K) {q : Nat} (h : m * 2 ^ (p + K).toNat ≤ mag q * 2 ^ (K - 1074)) : rungOf m p ≤ q := by
  unfold rungOf
  by_cases hm : m = 0
  · subst hm
    rw [if_pos rfl]
    omega
  · rw [if_neg hm]
    obtain ⟨k1, k2, k3, k4⟩ := kept_facts m p hm
    have hs := scale_eq (m := m) hK hp
    generalize hE : (lastOf m p + 1074).toNat = E at *
    have hb := Nat.two_pow_pos (lastOf m p - p).toNat
    have hu : 0 < 2 ^ E * 2 ^ (K - 1074) := Nat.mul_pos (Nat.two_pow_pos _) (Nat.two_pow_pos _)
    have key : ∀ k, m * 2 ^ (p + K).toNat ≤ k * 2 ^ E * 2 ^ (K - 1074) → m <<< (p - lastOf m p).toNat ≤ k * 2 ^ (lastOf m p - p).toNat := by
      intro k hk
      refine Nat.le_of_mul_le_mul_right ?_ hu
      rw [hs]
      calc m * 2 ^ (p + K).toNat * 2 ^ (lastOf m p - p).toNat ≤ k * 2 ^ E * 2 ^ (K - 1074) * 2 ^ (lastOf m p - p).toNat := Nat.mul_le_mul_right _ hk
        _ = k * 2 ^ (lastOf m p - p).toNat * (2 ^ E * 2 ^ (K - 1074)) := by
            rw [Nat.mul_assoc k (2 ^ (lastOf m p - p).toNat), Nat.mul_comm (2 ^ (lastOf m p - p).toNat), ← Nat.mul_assoc k, ← Nat.mul_assoc k]
    rcases Nat.lt_or_ge q (E * 4503599627370496 + keptOf m p) with hlt | hge
    · exfalso
      by_cases hk : E = 0 ∨ 4503599627370496 < keptOf m p
      · have hk0 : 0 < keptOf m p := by omega
        have h1 : mag q ≤ mag (E * 4503599627370496 + (keptOf m p - 1)) := mag_mono (by omega)
        rw [mag_at E _ (by omega) (by omega)] at h1
        have h2 := key (keptOf m p - 1) (Nat.le_trans h (Nat.mul_le_mul_right _ h1))
        have := le_cut (neg := false) h2
        change keptOf m p ≤ keptOf m p - 1 at this
        omega
      · have hk1 : keptOf m p = 4503599627370496 := by omega
        have h1 : mag q < mag (E * 4503599627370496 + 4503599627370496) := mag_strict (by omega)
        rw [mag_at E _ (by omega) (.inr (by omega))] at h1
        have h2 : m * 2 ^ (p + K).toNat < 4503599627370496 * 2 ^ E * 2 ^ (K - 1074) := Nat.lt_of_le_of_lt h (Nat.mul_lt_mul_of_pos_right h1 (Nat.two_pow_pos _))
        have h3 : 4503599627370496 * 2 ^ (lastOf m p - p).toNat ≤ m <<< (p - lastOf m p).toNat := by
          rcases k4 with g | g
          · omega
          · exact g
        have h4 := Nat.mul_le_mul_right (2 ^ E * 2 ^ (K - 1074)) h3
        rw [hs] at h4
        have h5 := Nat.mul_lt_mul_of_pos_right h2 hb
        have h6 : 4503599627370496 * 2 ^ (lastOf m p - p).toNat * (2 ^ E * 2 ^ (K - 1074)) = 4503599627370496 * 2 ^ E * 2 ^ (K - 1074) * 2 ^ (lastOf m p - p).toNat := by
          rw [Nat.mul_assoc 4503599627370496, Nat.mul_comm (2 ^ (lastOf m p - p).toNat), ← Nat.mul_assoc 4503599627370496, ← Nat.mul_assoc 4503599627370496]
        omega
    · exact Nat.le_trans (Nat.min_le_left _ _) hge
end
end Go.Eng

/- IvMany, part 2: what holds round by round; the law's contract. No condition. -/
import Derived.Test.YtcigcfneldipkaaF6
import Derived.Test.YtcigcfneldipkaaM1
namespace Go.Eng
open Go Go.RowKit Go.Eng.Try

structure MQ where
  lo : Nat
  hi : Nat
  plo : Nat
  phi : Nat
  sum : Int
  prod : Int

/-- What holds ahead of round n. -/
structure MInv (n : Nat) (q : MQ) : Prop where
  s1 : -(1000 * (n : Int)) ≤ q.sum
  s2 : q.sum ≤ 1000 * (n : Int)
  flo : Fin64 q.lo
  fhi : Fin64 q.hi
  a1 : sv (idx q.lo) ≤ q.sum * (2 ^ 1074 : Nat)
  a2 : q.sum * (2 ^ 1074 : Nat) ≤ sv (idx q.hi)
  a3 : q.sum * (2 ^ 1074 : Nat) - sv (idx q.lo) ≤ (n : Int) * (2 ^ 1039 : Nat)
  a4 : sv (idx q.hi) - q.sum * (2 ^ 1074 : Nat) ≤ (n : Int) * (2 ^ 1039 : Nat)
  p1 : -1099511627776000 ≤ q.prod
  p2 : q.prod ≤ 1099511627776000
  fpl : Fin64 q.plo
  fph : Fin64 q.phi
  b1 : sv (idx q.plo) ≤ q.prod * (2 ^ 1074 : Nat)
  b2 : q.prod * (2 ^ 1074 : Nat) ≤ sv (idx q.phi)
  c1 : -powI (11 * n) ≤ idx q.plo
  c2 : idx q.plo ≤ powI (11 * n)
  c3 : -powI (11 * n) ≤ idx q.phi
  c4 : idx q.phi ≤ powI (11 * n)

theorem pow_35 (n m : Nat) (h : n = 35 + m) : 2 ^ n = 34359738368 * 2 ^ m := by subst h; rw [Nat.pow_add]
theorem pow_51 (n m : Nat) (h : n = 51 + m) : 2 ^ n = 2251799813685248 * 2 ^ m := by subst h; rw [Nat.pow_add]
theorem pow1074 : (2 ^ 1074 : Nat) = 34359738368 * 2 ^ 1039 := pow_35 1074 1039 rfl
theorem pow1090 : (2 ^ 1090 : Nat) = 2251799813685248 * 2 ^ 1039 := pow_51 1090 1039 rfl

/-- A sum's round. -/
theorem sum_step {n : Nat} (hn : n < 40) {sum d : Int} {lo hi r1 r2 : Nat} (s1 : -(1000 * (n : Int)) ≤ sum) (s2 : sum ≤ 1000 * (n : Int)) (d1 : -1000 ≤ d) (d2 : d ≤ 1000)
    (a1 : sv (idx lo) ≤ sum * (2 ^ 1074 : Nat)) (a2 : sum * (2 ^ 1074 : Nat) ≤ sv (idx hi)) (a3 : sum * (2 ^ 1074 : Nat) - sv (idx lo) ≤ (n : Int) * (2 ^ 1039 : Nat)) (a4 : sv (idx hi) - sum * (2 ^ 1074 : Nat) ≤ (n : Int) * (2 ^ 1039 : Nat))
    (R1 : Rd 1074 (sv (idx lo) + d * (2 ^ 1074 : Nat)) r1) (R2 : Rd 1074 (sv (idx hi) + d * (2 ^ 1074 : Nat)) r2) :
    Fin64 (outLo r1 r2) ∧ Fin64 (outHi r1 r2) ∧ sv (idx (outLo r1 r2)) ≤ (sum + d) * (2 ^ 1074 : Nat) ∧ (sum + d) * (2 ^ 1074 : Nat) ≤ sv (idx (outHi r1 r2)) ∧
      (sum + d) * (2 ^ 1074 : Nat) - sv (idx (outLo r1 r2)) ≤ ((n + 1 : Nat) : Int) * (2 ^ 1039 : Nat) ∧ sv (idx (outHi r1 r2)) - (sum + d) * (2 ^ 1074 : Nat) ≤ ((n + 1 : Nat) : Int) * (2 ^ 1039 : Nat) := by
  have key := fun h1 h2 h3 h4 => out16 (T := (sum + d) * (2 ^ 1074 : Nat)) R1 R2 h1 h2 h3 h4
  have hW := pow_pos_int 1039
  rw [pow1090, pow1074] at key
  rw [pow1074] at a1 a2 a3 a4
  rw [pow1074]
  clear R1 R2
  generalize (2 ^ 1039 : Nat) = W at *
  have e : (sum + d) * ((34359738368 * W : Nat) : Int) = sum * ((34359738368 * W : Nat) : Int) + d * ((34359738368 * W : Nat) : Int) := Int.add_mul _ _ _
  rw [e] at key ⊢
  have e1 : ((n + 1 : Nat) : Int) * (W : Int) = (n : Int) * (W : Int) + W := by rw [Int.natCast_add, Int.add_mul]; simp
  rw [e1]
  have hS : (0 : Int) ≤ ((34359738368 * W : Nat) : Int) := Int.natCast_nonneg _
  have m1 : sum * ((34359738368 * W : Nat) : Int) ≤ 40000 * ((34359738368 * W : Nat) : Int) := Int.mul_le_mul_of_nonneg_right (by omega) hS
  have m2 : -40000 * ((34359738368 * W : Nat) : Int) ≤ sum * ((34359738368 * W : Nat) : Int) := Int.mul_le_mul_of_nonneg_right (by omega) hS
  have m3 : d * ((34359738368 * W : Nat) : Int) ≤ 1000 * ((34359738368 * W : Nat) : Int) := Int.mul_le_mul_of_nonneg_right (by omega) hS
  have m4 : -1000 * ((34359738368 * W : Nat) : Int) ≤ d * ((34359738368 * W : Nat) : Int) := Int.mul_le_mul_of_nonneg_right (by omega) hS
  have m5 : (n : Int) * (W : Int) ≤ 40 * (W : Int) := Int.mul_le_mul_of_nonneg_right (by omega) (by omega)
  generalize sum * ((34359738368 * W : Nat) : Int) = A at *
  generalize d * ((34359738368 * W : Nat) : Int) = D at *
  generalize (n : Int) * (W : Int) = N at *
  obtain ⟨k1, k2, k3, k4, k5, k6⟩ := key (by omega) (by omega) (by omega) (by omega)
  exact ⟨k1, k2, by omega, by omega, by omega, by omega⟩

theorem powI_mono {p q : Nat} (h : p ≤ q) : powI p ≤ powI q := by unfold powI; omega
theorem powI_succ (p : Nat) : powI p + 1 ≤ powI (p + 1) := by unfold powI; omega

/-- A product's round. -/
theorem mul_step {n : Nat} (hn : n < 40) {prod k : Int} {lo hi K : Nat} (k1 : -1000 ≤ k) (k2 : k ≤ 1000) (flo : Fin64 lo) (fhi : Fin64 hi) (fK : Fin64 K) (hk : sv (idx K) = k * (2 ^ 1074 : Nat))
    (b1 : sv (idx lo) ≤ prod * (2 ^ 1074 : Nat)) (b2 : prod * (2 ^ 1074 : Nat) ≤ sv (idx hi)) (c1 : -powI (11 * n) ≤ idx lo) (c2 : idx lo ≤ powI (11 * n)) (c3 : -powI (11 * n) ≤ idx hi) (c4 : idx hi ≤ powI (11 * n)) :
    Fin64 (mulLo lo hi K K) ∧ Fin64 (mulHi lo hi K K) ∧ sv (idx (mulLo lo hi K K)) ≤ prod * k * (2 ^ 1074 : Nat) ∧ prod * k * (2 ^ 1074 : Nat) ≤ sv (idx (mulHi lo hi K K)) ∧
      -powI (11 * (n + 1)) ≤ idx (mulLo lo hi K K) ∧ idx (mulLo lo hi K K) ≤ powI (11 * (n + 1)) ∧ -powI (11 * (n + 1)) ≤ idx (mulHi lo hi K K) ∧ idx (mulHi lo hi K K) ≤ powI (11 * (n + 1)) := by
  obtain ⟨n1, l1, l2, l3, l4⟩ := stepMul (p := 11 * n) (by omega) flo fK hk k1 k2 c1 c2
  obtain ⟨n2, h1, h2, h3, h4⟩ := stepMul (p := 11 * n) (by omega) fhi fK hk k1 k2 c3 c4
  have hs : spanNan (fmul lo K) (fmul lo K) (fmul hi K) (fmul hi K) = false := by
    unfold spanNan
    simp only [fne_self, n1.nan, n2.nan, Bool.or_false]
  have el : mulLo lo hi K K = outLo (spLo (fmul lo K) (fmul lo K) (fmul hi K) (fmul hi K)) (spHi (fmul lo K) (fmul lo K) (fmul hi K) (fmul hi K)) := by
    unfold mulLo spanLo; rw [hs]; rfl
  have eh : mulHi lo hi K K = outHi (spLo (fmul lo K) (fmul lo K) (fmul hi K) (fmul hi K)) (spHi (fmul lo K) (fmul lo K) (fmul hi K) (fmul hi K)) := by
    unfold mulHi spanHi; rw [hs]; rfl
  rw [el, eh]
  generalize fmul lo K = r1 at *
  generalize fmul hi K = r2 at *
  have hlo : Num64 (spLo r1 r1 r2 r2) ∧ idx (spLo r1 r1 r2 r2) = min (idx r1) (idx r2) := by
    unfold spLo
    rw [lesser_self]
    obtain ⟨g1, g2⟩ := lesser_idx n2 n1
    obtain ⟨g3, g4⟩ := lesser_idx n2 g1
    exact ⟨g3, by omega⟩
  have hhi : Num64 (spHi r1 r1 r2 r2) ∧ idx (spHi r1 r1 r2 r2) = max (idx r1) (idx r2) := by
    unfold spHi
    rw [greater_self]
    obtain ⟨g1, g2⟩ := greater_idx n2 n1
    obtain ⟨g3, g4⟩ := greater_idx n2 g1
    exact ⟨g3, by omega⟩
  generalize spLo r1 r1 r2 r2 = sl at *
  generalize spHi r1 r1 r2 r2 = sh at *
  obtain ⟨o1, o2, o3, o4⟩ := out_idx hlo.1 hhi.1 (by omega)
  have e11 : 11 * (n + 1) = 11 * n + 10 + 1 := by omega
  have pm := powI_succ (11 * n + 10)
  have pb : powI (11 * n + 10 + 1) < 9218868437227405312 := by unfold powI; omega
  rw [e11]
  have eL : idx (outLo sl sh) = min (idx r1) (idx r2) - 1 := by omega
  have eH : idx (outHi sl sh) = max (idx r1) (idx r2) + 1 := by omega
  have hS := pow_pos_int 1074
  have v1 : sv (idx (outLo sl sh)) ≤ prod * k * (2 ^ 1074 : Nat) ∧ prod * k * (2 ^ 1074 : Nat) ≤ sv (idx (outHi sl sh)) := by
    have t1 : sv (idx (outLo sl sh)) ≤ sv (idx r1 - 1) := sv_le.2 (by omega)
    have t2 : sv (idx (outLo sl sh)) ≤ sv (idx r2 - 1) := sv_le.2 (by omega)
    have t3 : sv (idx r1 + 1) ≤ sv (idx (outHi sl sh)) := sv_le.2 (by omega)
    have t4 : sv (idx r2 + 1) ≤ sv (idx (outHi sl sh)) := sv_le.2 (by omega)
    have e : prod * k * ((2 ^ 1074 : Nat) : Int) = prod * ((2 ^ 1074 : Nat) : Int) * k := by
      rw [Int.mul_assoc, Int.mul_comm k, Int.mul_assoc]
    rw [e]
    by_cases hk0 : 0 ≤ k
    · have w1 := Int.mul_le_mul_of_nonneg_right b1 hk0
      have w2 := Int.mul_le_mul_of_nonneg_right b2 hk0
      omega
    · have w1 := Int.mul_le_mul_of_nonpos_right b1 (show k ≤ 0 by omega)
      have w2 := Int.mul_le_mul_of_nonpos_right b2 (show k ≤ 0 by omega)
      omega
  refine ⟨fin_of_idx o1 (by omega) (by omega), fin_of_idx o2 (by omega) (by omega), v1.1, v1.2, by omega, by omega, by omega, by omega⟩
end Go.Eng

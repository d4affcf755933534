/- IvMany, part 3: the law's contract: of any whole numbers it answers true. Condition: the numbers are a row of integers. -/
import Derived.Test.YtcigcfneldipkaaM2
namespace Go.Eng.Try
open Go Go.RowKit Go.Proofs.Try

/-- One round. -/
def mStep (cells : List AV) (i : Int) (q : MQ) : MQ where
  lo := bif evenB i then outLo (fadd q.lo (mkLo (fofint (elK cells i)) (fofint (elK cells i)))) (fadd q.hi (mkHi (fofint (elK cells i)) (fofint (elK cells i)))) else outLo (fsub q.lo (mkHi (fofint (elK cells i)) (fofint (elK cells i)))) (fsub q.hi (mkLo (fofint (elK cells i)) (fofint (elK cells i))))
  hi := bif evenB i then outHi (fadd q.lo (mkLo (fofint (elK cells i)) (fofint (elK cells i)))) (fadd q.hi (mkHi (fofint (elK cells i)) (fofint (elK cells i)))) else outHi (fsub q.lo (mkHi (fofint (elK cells i)) (fofint (elK cells i)))) (fsub q.hi (mkLo (fofint (elK cells i)) (fofint (elK cells i))))
  plo := bif midB q.prod then mulLo q.plo q.phi (mkLo (fofint (elK cells i)) (fofint (elK cells i))) (mkHi (fofint (elK cells i)) (fofint (elK cells i))) else q.plo
  phi := bif midB q.prod then mulHi q.plo q.phi (mkLo (fofint (elK cells i)) (fofint (elK cells i))) (mkHi (fofint (elK cells i)) (fofint (elK cells i))) else q.phi
  sum := bif evenB i then IntKind.i64.wrap (q.sum + elK cells i) else IntKind.i64.wrap (q.sum - elK cells i)
  prod := bif midB q.prod then IntKind.i64.wrap (q.prod * elK cells i) else q.prod

def mQ (cells : List AV) : Nat → MQ
  | 0 => ⟨0, 0, 4607182418800017408, 4607182418800017408, 0, 1⟩
  | n + 1 => mStep cells n (mQ cells n)

def mSq (cells : List AV) (len n : Nat) (q : MQ) : St := mS cells len q.lo q.hi q.plo q.phi q.sum q.prod n []

section
variable {cells : List AV} {len : Nat}

theorem round_goes {n : Nat} {q : MQ} (hn : n < 40) (hl : n < len) (hc : n < cells.length) (hk : (cells.getD n .undef).isInt .i64 = true) (w0 : World) : Goes C5 w0 80 mBody (mSq cells len n q) .normal (mSq cells len (n + 1) (mStep cells n q)) := by
  have e1 : ((n : Int).toNat * 1) = n := by simp
  have g1 : (Nat.blt ((n : Int).toNat * 1) cells.length && (cells.getD ((n : Int).toNat * 1) .undef).isInt .i64) = true := by
    rw [e1, hk, Bool.and_true]
    rw [Nat.blt_eq]; exact hc
  have g2 : decide (0 ≤ (n : Int) ∧ (n : Int) < (len : Int)) = true := by simp; omega
  have g3 : decide ((n : Int) < 40) = true := by simp; omega
  have g4 : decide ((n : Int) < (len : Int)) = true := by simp; omega
  have ew : IntKind.i64.wrap ((n : Int) + 1) = ((n + 1 : Nat) : Int) := by rw [wrapI (by omega) (by omega)]; rfl
  unfold mSq mStep midB
  rw [← ew]
  cases h37 : evenB n with
  | true =>
    cases h1 : decide (q.prod < 1099511627776) with
    | false => exact mItE1 cells len _ _ _ _ _ _ n w0 g1 g2 g3 g4 h37 h1 [] []
    | true =>
      cases h2 : decide (q.prod > -1099511627776) with
      | false => exact mItE2 cells len _ _ _ _ _ _ n w0 g1 g2 g3 g4 h37 h1 h2 [] []
      | true => exact mItE0 cells len _ _ _ _ _ _ n w0 g1 g2 g3 g4 h37 h1 h2 [] []
  | false =>
    cases h1 : decide (q.prod < 1099511627776) with
    | false => exact mItO1 cells len _ _ _ _ _ _ n w0 g1 g2 g3 g4 h37 h1 [] []
    | true =>
      cases h2 : decide (q.prod > -1099511627776) with
      | false => exact mItO2 cells len _ _ _ _ _ _ n w0 g1 g2 g3 g4 h37 h1 h2 [] []
      | true => exact mItO0 cells len _ _ _ _ _ _ n w0 g1 g2 g3 g4 h37 h1 h2 [] []

theorem elK_range (cells : List AV) (i : Int) : -1000 ≤ elK cells i ∧ elK cells i ≤ 1000 := by
  unfold elK
  have h := wi_range (cells.getD (i.toNat * 1) .undef).toInt 2001 (by omega) (by omega)
  rw [wrapI (by omega) (by omega)]
  omega

theorem round_inv {n : Nat} {q : MQ} (hn : n < 40) (I : MInv n q) (cells : List AV) : MInv (n + 1) (mStep cells n q) := by
  obtain ⟨k1, k2⟩ := elK_range cells n
  obtain ⟨fx, ex⟩ := fofint_exact (elK cells n) (by omega)
  obtain ⟨m1, m2⟩ := mk_self fx.num
  have hS := I.s1
  have hS2 := I.s2
  -- the sum
  have sumPart : MInv (n + 1) { q with
      lo := (mStep cells n q).lo, hi := (mStep cells n q).hi, sum := (mStep cells n q).sum } := by
    have mono := powI_mono (show 11 * n ≤ 11 * (n + 1) by omega)
    have c1 := I.c1
    have c2 := I.c2
    have c3 := I.c3
    have c4 := I.c4
    cases h37 : evenB n with
    | true =>
      have r1 := fadd_rd I.flo fx
      have r2 := fadd_rd I.fhi fx
      rw [ex] at r1 r2
      obtain ⟨j1, j2, j3, j4, j5, j6⟩ := sum_step hn I.s1 I.s2 k1 k2 I.a1 I.a2 I.a3 I.a4 r1 r2
      have ew : IntKind.i64.wrap (q.sum + elK cells n) = q.sum + elK cells n := wrapI (by omega) (by omega)
      simp only [mStep, h37, cond_true, m1, m2, ew]
      exact ⟨by dsimp only; clear j3 j4 j5 j6; omega, by dsimp only; clear j3 j4 j5 j6; omega, j1, j2, j3, j4, j5, j6, I.p1, I.p2, I.fpl, I.fph, I.b1, I.b2, by dsimp only; clear j3 j4 j5 j6; omega, by dsimp only; clear j3 j4 j5 j6; omega, by dsimp only; clear j3 j4 j5 j6; omega, by dsimp only; clear j3 j4 j5 j6; omega⟩
    | false =>
      have r1 := fsub_rd I.flo fx
      have r2 := fsub_rd I.fhi fx
      rw [ex, Int.sub_eq_add_neg, ← Int.neg_mul] at r1 r2
      obtain ⟨j1, j2, j3, j4, j5, j6⟩ := sum_step (d := -elK cells n) hn I.s1 I.s2 (by omega) (by omega) I.a1 I.a2 I.a3 I.a4 r1 r2
      have ew : IntKind.i64.wrap (q.sum - elK cells n) = q.sum + -elK cells n := by rw [wrapI (by omega) (by omega)]; omega
      simp only [mStep, h37, cond_false, m1, m2, ew]
      exact ⟨by dsimp only; clear j3 j4 j5 j6; omega, by dsimp only; clear j3 j4 j5 j6; omega, j1, j2, j3, j4, j5, j6, I.p1, I.p2, I.fpl, I.fph, I.b1, I.b2, by dsimp only; clear j3 j4 j5 j6; omega, by dsimp only; clear j3 j4 j5 j6; omega, by dsimp only; clear j3 j4 j5 j6; omega, by dsimp only; clear j3 j4 j5 j6; omega⟩
  -- the product
  cases hm : midB q.prod with
  | false =>
    have e1 : (mStep cells n q).plo = q.plo := by simp only [mStep, hm, cond_false]
    have e2 : (mStep cells n q).phi = q.phi := by simp only [mStep, hm, cond_false]
    have e3 : (mStep cells n q).prod = q.prod := by simp only [mStep, hm, cond_false]
    obtain ⟨x1, x2, x3, x4, x5, x6, x7, x8, x9, x10, x11, x12, x13, x14, x15, x16, x17, x18⟩ := sumPart
    exact ⟨x1, x2, x3, x4, x5, x6, x7, x8, by rw [e3]; exact x9, by rw [e3]; exact x10, by rw [e1]; exact x11, by rw [e2]; exact x12, by rw [e1, e3]; exact x13, by rw [e2, e3]; exact x14, by rw [e1]; exact x15, by rw [e1]; exact x16, by rw [e2]; exact x17, by rw [e2]; exact x18⟩
  | true =>
    have hm2 : q.prod < 1099511627776 ∧ q.prod > -1099511627776 := by simpa [midB] using hm
    obtain ⟨y1, y2, y3, y4, y5, y6, y7, y8⟩ := mul_step hn k1 k2 I.fpl I.fph fx ex I.b1 I.b2 I.c1 I.c2 I.c3 I.c4
    have hp : -1099511627776000 ≤ q.prod * elK cells n ∧ q.prod * elK cells n ≤ 1099511627776000 := by
      generalize elK cells n = k at *
      generalize q.prod = p at *
      by_cases h0 : 0 ≤ k
      · have w1 := Int.mul_le_mul_of_nonneg_right (show p ≤ 1099511627776 by omega) h0
        have w2 := Int.mul_le_mul_of_nonneg_right (show -1099511627776 ≤ p by omega) h0
        omega
      · have w1 := Int.mul_le_mul_of_nonpos_right (show p ≤ 1099511627776 by omega) (show k ≤ 0 by omega)
        have w2 := Int.mul_le_mul_of_nonpos_right (show -1099511627776 ≤ p by omega) (show k ≤ 0 by omega)
        omega
    have e1 : (mStep cells n q).plo = mulLo q.plo q.phi (fofint (elK cells n)) (fofint (elK cells n)) := by simp only [mStep, hm, cond_true, m1, m2]
    have e2 : (mStep cells n q).phi = mulHi q.plo q.phi (fofint (elK cells n)) (fofint (elK cells n)) := by simp only [mStep, hm, cond_true, m1, m2]
    have e3 : (mStep cells n q).prod = q.prod * elK cells n := by
      simp only [mStep, hm, cond_true]
      exact wrapI (by omega) (by omega)
    obtain ⟨x1, x2, x3, x4, x5, x6, x7, x8, _⟩ := sumPart
    exact ⟨x1, x2, x3, x4, x5, x6, x7, x8, by rw [e3]; exact hp.1, by rw [e3]; exact hp.2, by rw [e1]; exact y1, by rw [e2]; exact y2, by rw [e1, e3]; exact y3, by rw [e2, e3]; exact y4, by rw [e1]; exact y5, by rw [e1]; exact y6, by rw [e2]; exact y7, by rw [e2]; exact y8⟩

theorem inv_zero (cells : List AV) : MInv 0 (mQ cells 0) := by
  have z : sv (idx 0) = 0 := by rw [idx_zero, sv_zero]
  have i1 : idx 4607182418800017408 = powI 0 := by decide +kernel
  have o : sv (idx 4607182418800017408) = ((2 ^ 1074 : Nat) : Int) := by rw [i1, sv_powI, Nat.add_zero]
  refine ⟨by simp [mQ], by simp [mQ], ⟨by simp [mQ], by simp [mQ]⟩, ⟨by simp [mQ], by simp [mQ]⟩, ?_, ?_, ?_, ?_, by simp [mQ], by simp [mQ], ⟨by simp [mQ], by simp [mQ]⟩, ⟨by simp [mQ], by simp [mQ]⟩, ?_, ?_, ?_, ?_, ?_, ?_⟩
  · show sv (idx 0) ≤ 0 * _
    rw [z, Int.zero_mul]; exact Int.le_refl _
  · show 0 * _ ≤ sv (idx 0)
    rw [z, Int.zero_mul]; exact Int.le_refl _
  · show 0 * _ - sv (idx 0) ≤ 0 * _
    rw [z, Int.zero_mul, Int.zero_mul]; exact Int.le_refl _
  · show sv (idx 0) - 0 * _ ≤ 0 * _
    rw [z, Int.zero_mul, Int.zero_mul]; exact Int.le_refl _
  · show sv (idx 4607182418800017408) ≤ 1 * _
    rw [o, Int.one_mul]; exact Int.le_refl _
  · show 1 * _ ≤ sv (idx 4607182418800017408)
    rw [o, Int.one_mul]; exact Int.le_refl _
  all_goals
    show _ ≤ _
    simp only [mQ, i1]
    unfold powI
    omega

theorem inv_all (cells : List AV) : ∀ n, n ≤ 40 → MInv n (mQ cells n)
  | 0, _ => inv_zero cells
  | n + 1, h => round_inv (by omega) (inv_all cells n (by omega)) cells
end
end Go.Eng.Try

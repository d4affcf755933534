/- IvMany, part 4: the law's contract. Condition: the numbers are a row of integers. -/
import Derived.Test.YtcigcfneldipkaaM3
namespace Go.Eng.Try
open Go Go.RowKit Go.Proofs.Try

theorem in_exact {lo hi : Nat} (flo : Fin64 lo) (fhi : Fin64 hi) {n : Int} (hn : n.natAbs < 9007199254740992) (a1 : sv (idx lo) ≤ n * (2 ^ 1074 : Nat)) (a2 : n * (2 ^ 1074 : Nat) ≤ sv (idx hi)) : (fle lo (fofint n) && fle (fofint n) hi) = true := by
  obtain ⟨fx, ex⟩ := fofint_exact n hn
  rw [fle_idx flo.num fx.num, fle_idx fx.num fhi.num]
  have h1 : idx lo ≤ idx (fofint n) := sv_le.1 (by rw [ex]; exact a1)
  have h2 : idx (fofint n) ≤ idx hi := sv_le.1 (by rw [ex]; exact a2)
  simp [h1, h2]

theorem pow_7 (n m : Nat) (h : n = 7 + m) : 2 ^ n = 128 * 2 ^ m := by subst h; rw [Nat.pow_add]
theorem pow1046 : (2 ^ 1046 : Nat) = 128 * 2 ^ 1039 := pow_7 1046 1039 rfl

theorem narrow {n : Nat} (hn : n ≤ 40) {q : MQ} (I : MInv n q) : flt (fsub q.hi q.lo) 4517329193108106637 = true := by
  have R := fsub_rd I.fhi I.flo
  have a3 := I.a3
  have a4 := I.a4
  have e : sv 4481081629233643520 = ((2 ^ 1046 : Nat) : Int) := by
    rcases sv_pow 1046 with g | g
    · exact g
    · omega
  have hle : idx (fsub q.hi q.lo) ≤ 4481081629233643520 := by
    refine R.dn 4481081629233643520 (by omega) (by omega) ?_
    rw [one_unit, e, pow1046]
    have hW := pow_pos_int 1039
    clear R e
    generalize (2 ^ 1039 : Nat) = W at *
    have m5 : (n : Int) * (W : Int) ≤ 40 * (W : Int) := Int.mul_le_mul_of_nonneg_right (by omega) (by omega)
    generalize q.sum * ((2 ^ 1074 : Nat) : Int) = A at *
    generalize (n : Int) * (W : Int) = N at *
    omega
  have hc : Num64 4517329193108106637 := by unfold Num64; omega
  have hi : idx 4517329193108106637 = 4517329193108106637 := by decide +kernel
  rw [flt_idx R.num hc, hi]
  simp only [decide_eq_true_eq]
  omega

theorem con_ivMany (zs : List Int) (len : Nat) (hlen : len ≤ zs.length) (n : Nat) : Con prog 3 [.snap (zs.map (AV.int .i64)) len] n (.bool true) [] := by
  generalize hcells : zs.map (AV.int .i64) = cells
  have hcl : cells.length = zs.length := by rw [← hcells]; simp
  have hint : ∀ k, k < cells.length → (cells.getD k .undef).isInt .i64 = true := by
    intro k hk
    rw [← hcells, List.getD_eq_getElem?_getD, List.getElem?_map, List.getElem?_eq_getElem (by omega)]
    simp [AV.isInt]
  have I := inv_all cells (min len 40) (by omega)
  have h1 := in_exact I.flo I.fhi (n := (mQ cells (min len 40)).sum) (by have := I.s1; have := I.s2; omega) I.a1 I.a2
  have h2 := in_exact I.fpl I.fph (n := (mQ cells (min len 40)).prod) (by have := I.p1; have := I.p2; omega) I.b1 I.b2
  have h3 := narrow (by omega) I
  refine @con_goesC prog es5 8 3 80 _ (by kernel_rfl) [] .ret (mk [2] [.bool true] [] []) n ⟨.bool true, [], true⟩ (by kernel_rfl) rfl (.inl rfl) fun w0 => ?_
  refine mPre cells len w0 (goes_seq (by kernel_rfl) (mMid cells len w0 (goes_block (id := 0) (by kernel_rfl) (goes_loop (by kernel_rfl) (fun h => by cases h) (min len 40) (fun k => mSq cells len k (mQ cells k)) (s2 := mSq cells len (min len 40) (mQ cells (min len 40))) ?_ ?_))) ?_)
  · intro k hk
    exact round_goes (by omega) (by omega) (by omega) (hint k (by omega)) w0
  · by_cases h : len ≤ 40
    · have e : min len 40 = len := by omega
      rw [e]
      exact mOutLen cells len _ _ _ _ _ _ _ w0 (by simp) [] []
    · have e : min len 40 = 40 := by omega
      rw [e]
      exact mOut40 cells len _ _ _ _ _ _ _ w0 (by simp; omega) (by simp) [] []
  · have := mEnd cells len _ _ _ _ _ _ ((min len 40 : Nat) : Int) w0 h1 h2 []
    rw [h3] at this
    exact this
end Go.Eng.Try

/- Part 5 of what the proof leans on: Fields, part 5; Fields, part 6; Fields, from-tos, part 6. Conditions: as each theorem says. -/
import Derived.Test.YtcigcfneldipkaaA4
set_option linter.unusedVariables false
/- Fields, part 5: the document's way of telling how a field of floats changes (enveloperef4.Jac): pieces. Condition: as each piece says. Written by wip/tools/kg.py. -/
namespace Go.Eng.Try
open Go Go.Eng Go.RowKit Go.Proofs.Try
noncomputable def eC : Code := codeOf prog 63
noncomputable def eBody : Code := cL (cL (cR (cL (cR (cR (cR eC))))))
/-- Values so far, and noughts. -/
def rvC (m : Nat) (rs : List (Rg Nat)) : List AV := fltL (rs.map fun r => r.v) ++ List.replicate (m - rs.length) (.flt 0)
def rdL (N : Nat) (rs : List (Rg Nat)) : List AV := rs.map fun r => .snap (fltL r.d) N
/-- Rows so far, and none. -/
def rdC (N m : Nat) (rs : List (Rg Nat)) : List AV := rdL N rs ++ List.replicate (m - rs.length) .nils

theorem eChg2 (u v q da db : Nat) (nb : Nat) : Con prog 115 [.int .i64 2, .flt u, .flt v, .flt q, .flt da, .flt db] nb (AV.flt (fadd da db)) [] :=
  con_evF OM0 mixed (qs := []) (dec := []) (r := ⟨(AV.flt (fadd da db)), [], true⟩) (by kernel_rfl) rfl
theorem eChg3 (u v q da db : Nat) (nb : Nat) : Con prog 115 [.int .i64 3, .flt u, .flt v, .flt q, .flt da, .flt db] nb (AV.flt (fsub da db)) [] :=
  con_evF OM0 mixed (qs := []) (dec := []) (r := ⟨(AV.flt (fsub da db)), [], true⟩) (by kernel_rfl) rfl
theorem eChg4 (u v q da db : Nat) (nb : Nat) : Con prog 115 [.int .i64 4, .flt u, .flt v, .flt q, .flt da, .flt db] nb (AV.flt (fadd (fmul da v) (fmul u db))) [] :=
  con_evF OM0 mixed (qs := []) (dec := []) (r := ⟨(AV.flt (fadd (fmul da v) (fmul u db))), [], true⟩) (by kernel_rfl) rfl
theorem eChg5 (u v q da db : Nat) (nb : Nat) : Con prog 115 [.int .i64 5, .flt u, .flt v, .flt q, .flt da, .flt db] nb (AV.flt (fdiv (fsub da (fmul q db)) v)) [] :=
  con_evF OM0 mixed (qs := []) (dec := []) (r := ⟨(AV.flt (fdiv (fsub da (fmul q db)) v)), [], true⟩) (by kernel_rfl) rfl
theorem eA1 (xs : List Nat) (lx : Nat) (ops : List TOp) (m : Nat) (outs : List Int) (w0 : World) (dec1 : List Bool) : Goes CM w0 191 (cL eC) (St0 [.agg [.int .i64 1, .snap (opsL ops) m, .snap (intL outs) 1], .snap (fltL xs) lx] []) Ex.normal (mk [1,2] [.snap (fltL xs) lx, .ptr 0 0] [ABlk.mk [.int .i64 1, .snap (opsL ops) m, .snap (intL outs) 1] 53] dec1) :=
  goes_viewK' OM mixed (qs := []) (fuel := 8) [.lit] (by kernel_rfl) rfl dec1
theorem eB1 (xs : List Nat) (lx : Nat) (ops : List TOp) (m : Nat) (outs : List Int) (w0 : World) (dec0 dec1 : List Bool) (hok : (((List.all (List.replicate (Int.toNat ↑m) (AV.flt 0)) AV.noOwn) && true && (decide ((0 : Int) ≤ (↑m : Int) ∧ (↑m : Int) ≤ (↑m : Int) ∧ (8 : Int) * (↑m : Int) ≤ (281474976710656 : Int) ∧ (↑m : Int) ≤ (9223372036854775807 : Int)) && true))) = true) : Goes CM w0 191 (cL (cR eC)) (mk [1,2] [.snap (fltL xs) lx, .ptr 0 0] [⟨[.int .i64 1, .snap (opsL ops) m, .snap (intL outs) 1], 53⟩] dec0) Ex.normal (mk [1,2,5] [.snap (fltL xs) lx, .ptr 0 0, .slc 1 0 (Int.toNat ↑m)] [ABlk.mk [.int .i64 1, .snap (opsL ops) m, .snap (intL outs) 1] 53, ABlk.mk (List.replicate (Int.toNat ↑m) (AV.flt 0)) 24] dec1) :=
  goes_re (dec := []) (goes_viewK' OM mixed (qs := []) (fuel := 8) [.lit, .flat] (by kernel_rfl) hok dec1)
theorem eD1 (xs : List Nat) (lx : Nat) (ops : List TOp) (m : Nat) (outs : List Int) (r0 : List AV) (w0 : World) (dec0 dec1 : List Bool) (hok : (((List.all r0 AV.noOwn) && ((List.all (List.replicate (Int.toNat ↑m) AV.nils) AV.noOwn) && true) && (decide ((0 : Int) ≤ (↑m : Int) ∧ (↑m : Int) ≤ (↑m : Int) ∧ (24 : Int) * (↑m : Int) ≤ (281474976710656 : Int) ∧ (↑m : Int) ≤ (9223372036854775807 : Int)) && true))) = true) : Goes CM w0 191 (cL (cR (cR eC))) (mk [1,2,5] [.snap (fltL xs) lx, .ptr 0 0, .slc 1 0 m] [⟨[.int .i64 1, .snap (opsL ops) m, .snap (intL outs) 1], 53⟩, ⟨r0, 24⟩] dec0) Ex.normal (mk [1,2,5,6] [.snap (fltL xs) lx, .ptr 0 0, .slc 1 0 m, .slc 2 0 (Int.toNat ↑m)] [ABlk.mk [.int .i64 1, .snap (opsL ops) m, .snap (intL outs) 1] 53, ABlk.mk r0 24, ABlk.mk (List.replicate (Int.toNat ↑m) AV.nils) 34] dec1) :=
  goes_re (dec := []) (goes_viewK' OM mixed (qs := []) (fuel := 8) [.lit, .flat, .flat] (by kernel_rfl) hok dec1)
theorem eE1 (xs : List Nat) (lx : Nat) (ops : List TOp) (m : Nat) (outs : List Int) (r0 d0 : List AV) (w0 : World) (dec0 dec1 : List Bool) (hok : (((List.all r0 AV.noOwn) && ((List.all d0 AV.noOwn) && true) && true)) = true) : Goes CM w0 191 (cL (cL (cR (cR (cR eC))))) (mk [1,2,5,6] [.snap (fltL xs) lx, .ptr 0 0, .slc 1 0 m, .slc 2 0 m] [⟨[.int .i64 1, .snap (opsL ops) m, .snap (intL outs) 1], 53⟩, ⟨r0, 24⟩, ⟨d0, 34⟩] dec0) Ex.normal (mk [1,2,5,6,7] [.snap (fltL xs) lx, .ptr 0 0, .slc 1 0 m, .slc 2 0 m, .int .i64 0] [ABlk.mk [.int .i64 1, .snap (opsL ops) m, .snap (intL outs) 1] 53, ABlk.mk r0 24, ABlk.mk d0 34] dec1) :=
  goes_re (dec := []) (goes_viewK' OM mixed (qs := []) (fuel := 8) [.lit, .flat, .flat] (by kernel_rfl) hok dec1)
theorem eI1_0 (xs : List Nat) (lx : Nat) (ops : List TOp) (m : Nat) (outs : List Int) (rs : List (Rg Nat)) (i : Nat) (a b : Int) (c : Nat) (w0 : World) (dec0 dec1 : List Bool) (hok : ((pb (SubP true [] [] 0 [.flt 0] [.flt 0]) && true && (pb (SubP true [(1027, [.flt 0])] [0, 1, 2] 0 (setL (rvC m rs) (0 + Int.toNat ↑i * 1) [.flt c]) (rvC m (rs ++ [stepR kF 0 1 xs rs (TOp.mk (0 : Int) a b c)]))) && (pb (SubP true [(1027, [.flt 0])] [0, 1, 2] 0 (setL (rdC 1 m rs) (0 + Int.toNat ↑i * 1) [.slc 1027 0 1]) (rdC 1 m (rs ++ [stepR kF 0 1 xs rs (TOp.mk (0 : Int) a b c)]))) && true) && (Nat.ble (0 + Int.toNat ↑i * 1 + 1) (List.length (rvC m rs)) && true && (decide ((0 : Int) ≤ (↑i : Int) ∧ (↑i : Int) < (↑m : Int)) && (Nat.ble (0 + Int.toNat ↑i * 1 + 1) (List.length (rdC 1 m rs)) && true && (decide ((0 : Int) ≤ (↑i : Int) ∧ (↑i : Int) < (↑m : Int)) && (pb (AV.agg [.int .i64 (AV.toInt (List.getD (opsL ops) (Int.toNat ↑i * 4) .undef)), .int .i64 (AV.toInt (List.getD (opsL ops) (Int.toNat ↑i * 4 + 1) .undef)), .int .i64 (AV.toInt (List.getD (opsL ops) (Int.toNat ↑i * 4 + 1 + 1) .undef)), .flt (AV.toFlt (List.getD (opsL ops) (Int.toNat ↑i * 4 + 1 + 1 + 1) .undef))] = AV.agg [.int .i64 0, .int .i64 a, .int .i64 b, .flt c]) && (Nat.ble (Int.toNat ↑i * 4 + 4) (List.length (opsL ops)) && etasOk [Leaf.i IntKind.i64, Leaf.i IntKind.i64, Leaf.i IntKind.i64, Leaf.f] (opsL ops) (Int.toNat ↑i * 4)) && (decide ((0 : Int) ≤ (↑i : Int) ∧ (↑i : Int) < (↑m : Int)) && (decide ((↑i : Int) < (↑m : Int)) && true)))))))))) = true) : Goes CM w0 191 (eBody) (mk [1,2,5,6,7] [.snap (fltL xs) lx, .ptr 0 0, .slc 1 0 m, .slc 2 0 m, .int .i64 (i : Int)] [⟨[.int .i64 1, .snap (opsL ops) m, .snap (intL outs) 1], 53⟩, ⟨rvC m rs, 24⟩, ⟨rdC 1 m rs, 34⟩] dec0) Ex.normal (mk [1,2,5,6,7] [.snap (fltL xs) lx, .ptr 0 0, .slc 1 0 m, .slc 2 0 m, .int .i64 (IntKind.wrap IntKind.i64 ((↑i : Int) + (1 : Int)))] [ABlk.mk [.int .i64 1, .snap (opsL ops) m, .snap (intL outs) 1] 53, ABlk.mk (rvC m (rs ++ [stepR kF 0 1 xs rs (TOp.mk (0 : Int) a b c)])) 24, ABlk.mk (rdC 1 m (rs ++ [stepR kF 0 1 xs rs (TOp.mk (0 : Int) a b c)])) 34] dec1) :=
  goes_re (dec := [true]) (goes_O (l := [(31, .agg [.int .i64 0, .int .i64 a, .int .i64 b, .flt c])]) (goes_viewK' (ctxO_ok OM _) mixed (qs := [24]) (fuel := 8) [.lit, .giv (rvC m (rs ++ [stepR kF 0 1 xs rs ⟨0, a, b, c⟩])) [], .giv (rdC 1 m (rs ++ [stepR kF 0 1 xs rs ⟨0, a, b, c⟩])) [1027], .frzGiv (fltL (stepR kF 0 1 xs rs ⟨0, a, b, c⟩).d) []] (by kernel_rfl) hok dec1))
theorem eI1_1 (xs : List Nat) (lx : Nat) (ops : List TOp) (m : Nat) (outs : List Int) (rs : List (Rg Nat)) (i : Nat) (a b : Int) (c : Nat) (w0 : World) (dec0 dec1 : List Bool) (hok : ((pb (SubP true [] [] 0 (setL [.flt 0] (0 + Int.toNat a * 1) [.flt 4607182418800017408]) [.flt (slopeR kF 0 rs (TOp.mk (1 : Int) a b c) (valR kF 0 xs rs (TOp.mk (1 : Int) a b c)) 0)]) && true && (pb (SubP true [(1027, [.flt (slopeR kF 0 rs (TOp.mk (1 : Int) a b c) (valR kF 0 xs rs (TOp.mk (1 : Int) a b c)) 0)])] [0, 1, 2] 0 (setL (rvC m rs) (0 + Int.toNat ↑i * 1) [.flt (List.getD xs (Int.toNat a) 0)]) (rvC m (rs ++ [stepR kF 0 1 xs rs (TOp.mk (1 : Int) a b c)]))) && (pb (SubP true [(1027, [.flt (slopeR kF 0 rs (TOp.mk (1 : Int) a b c) (valR kF 0 xs rs (TOp.mk (1 : Int) a b c)) 0)])] [0, 1, 2] 0 (setL (rdC 1 m rs) (0 + Int.toNat ↑i * 1) [.slc 1027 0 1]) (rdC 1 m (rs ++ [stepR kF 0 1 xs rs (TOp.mk (1 : Int) a b c)]))) && true) && (Nat.ble (0 + Int.toNat a * 1 + 1) 1 && true && (decide ((0 : Int) ≤ a ∧ a < (1 : Int)) && (Nat.ble (0 + Int.toNat ↑i * 1 + 1) (List.length (rvC m rs)) && true && (decide ((0 : Int) ≤ (↑i : Int) ∧ (↑i : Int) < (↑m : Int)) && (pb (AV.flt (AV.toFlt (List.getD (fltL xs) (Int.toNat a * 1) .undef)) = AV.flt (List.getD xs (Int.toNat a) 0)) && (Nat.blt (Int.toNat a * 1) (List.length (fltL xs)) && AV.isFlt (List.getD (fltL xs) (Int.toNat a * 1) .undef)) && (decide ((0 : Int) ≤ a ∧ a < (↑lx : Int)) && (pb (List.getD (setL (rdC 1 m rs) (0 + Int.toNat ↑i * 1) [.slc 1027 0 1]) (0 + Int.toNat ↑i * 1) .undef = AV.slc 1027 0 1) && (Nat.blt (0 + Int.toNat ↑i * 1) (List.length (setL (rdC 1 m rs) (0 + Int.toNat ↑i * 1) [.slc 1027 0 1])) && true) && (decide ((0 : Int) ≤ (↑i : Int) ∧ (↑i : Int) < (↑m : Int)) && (Nat.ble (0 + Int.toNat ↑i * 1 + 1) (List.length (rdC 1 m rs)) && true && (decide ((0 : Int) ≤ (↑i : Int) ∧ (↑i : Int) < (↑m : Int)) && (pb (AV.agg [.int .i64 (AV.toInt (List.getD (opsL ops) (Int.toNat ↑i * 4) .undef)), .int .i64 (AV.toInt (List.getD (opsL ops) (Int.toNat ↑i * 4 + 1) .undef)), .int .i64 (AV.toInt (List.getD (opsL ops) (Int.toNat ↑i * 4 + 1 + 1) .undef)), .flt (AV.toFlt (List.getD (opsL ops) (Int.toNat ↑i * 4 + 1 + 1 + 1) .undef))] = AV.agg [.int .i64 1, .int .i64 a, .int .i64 b, .flt c]) && (Nat.ble (Int.toNat ↑i * 4 + 4) (List.length (opsL ops)) && etasOk [Leaf.i IntKind.i64, Leaf.i IntKind.i64, Leaf.i IntKind.i64, Leaf.f] (opsL ops) (Int.toNat ↑i * 4)) && (decide ((0 : Int) ≤ (↑i : Int) ∧ (↑i : Int) < (↑m : Int)) && (decide ((↑i : Int) < (↑m : Int)) && true)))))))))))))))) = true) : Goes CM w0 191 (eBody) (mk [1,2,5,6,7] [.snap (fltL xs) lx, .ptr 0 0, .slc 1 0 m, .slc 2 0 m, .int .i64 (i : Int)] [⟨[.int .i64 1, .snap (opsL ops) m, .snap (intL outs) 1], 53⟩, ⟨rvC m rs, 24⟩, ⟨rdC 1 m rs, 34⟩] dec0) Ex.normal (mk [1,2,5,6,7] [.snap (fltL xs) lx, .ptr 0 0, .slc 1 0 m, .slc 2 0 m, .int .i64 (IntKind.wrap IntKind.i64 ((↑i : Int) + (1 : Int)))] [ABlk.mk [.int .i64 1, .snap (opsL ops) m, .snap (intL outs) 1] 53, ABlk.mk (rvC m (rs ++ [stepR kF 0 1 xs rs (TOp.mk (1 : Int) a b c)])) 24, ABlk.mk (rdC 1 m (rs ++ [stepR kF 0 1 xs rs (TOp.mk (1 : Int) a b c)])) 34] dec1) :=
  goes_re (dec := [true]) (goes_O (l := [(31, .agg [.int .i64 1, .int .i64 a, .int .i64 b, .flt c]), (68, .slc 1027 0 1), (75, .flt (xs.getD a.toNat 0))]) (goes_viewK' (ctxO_ok OM _) mixed (qs := [24]) (fuel := 8) [.lit, .giv (rvC m (rs ++ [stepR kF 0 1 xs rs ⟨1, a, b, c⟩])) [], .giv (rdC 1 m (rs ++ [stepR kF 0 1 xs rs ⟨1, a, b, c⟩])) [1027], .frzGiv (fltL (stepR kF 0 1 xs rs ⟨1, a, b, c⟩).d) []] (by kernel_rfl) hok dec1))
theorem eI1_2 (xs : List Nat) (lx : Nat) (ops : List TOp) (m : Nat) (outs : List Int) (rs : List (Rg Nat)) (i : Nat) (a b : Int) (c : Nat) (w0 : World) (dec0 dec1 : List Bool) (hok : ((pb (SubP true [] [] 0 [.flt (fadd (AV.toFlt (List.getD (fltL (rAt 0 rs a).2) 0 .undef)) (AV.toFlt (List.getD (fltL (rAt 0 rs b).2) 0 .undef)))] [.flt (slopeR kF 0 rs (TOp.mk (2 : Int) a b c) (valR kF 0 xs rs (TOp.mk (2 : Int) a b c)) 0)]) && true && (pb (SubP true [(1027, [.flt (slopeR kF 0 rs (TOp.mk (2 : Int) a b c) (valR kF 0 xs rs (TOp.mk (2 : Int) a b c)) 0)])] [0, 1, 2] 0 (setL (rvC m rs) (0 + Int.toNat ↑i * 1) [.flt (fadd (rAt 0 rs a).1 (rAt 0 rs b).1)]) (rvC m (rs ++ [stepR kF 0 1 xs rs (TOp.mk (2 : Int) a b c)]))) && (pb (SubP true [(1027, [.flt (slopeR kF 0 rs (TOp.mk (2 : Int) a b c) (valR kF 0 xs rs (TOp.mk (2 : Int) a b c)) 0)])] [0, 1, 2] 0 (setL (rdC 1 m rs) (0 + Int.toNat ↑i * 1) [.slc 1027 0 1]) (rdC 1 m (rs ++ [stepR kF 0 1 xs rs (TOp.mk (2 : Int) a b c)]))) && true) && (Nat.blt 0 (List.length (fltL (rAt 0 rs b).2)) && AV.isFlt (List.getD (fltL (rAt 0 rs b).2) 0 .undef) && (pb (List.getD (setL (rdC 1 m rs) (0 + Int.toNat ↑i * 1) [.slc 1027 0 1]) (0 + Int.toNat b * 1) .undef = AV.snap (fltL (rAt 0 rs b).2) 1) && (Nat.blt (0 + Int.toNat b * 1) (List.length (setL (rdC 1 m rs) (0 + Int.toNat ↑i * 1) [.slc 1027 0 1])) && true) && (decide ((0 : Int) ≤ b ∧ b < (↑m : Int)) && (Nat.blt 0 (List.length (fltL (rAt 0 rs a).2)) && AV.isFlt (List.getD (fltL (rAt 0 rs a).2) 0 .undef) && (pb (List.getD (setL (rdC 1 m rs) (0 + Int.toNat ↑i * 1) [.slc 1027 0 1]) (0 + Int.toNat a * 1) .undef = AV.snap (fltL (rAt 0 rs a).2) 1) && (Nat.blt (0 + Int.toNat a * 1) (List.length (setL (rdC 1 m rs) (0 + Int.toNat ↑i * 1) [.slc 1027 0 1])) && true) && (decide ((0 : Int) ≤ a ∧ a < (↑m : Int)) && (pb (AV.flt (AV.toFlt (List.getD (setL (rvC m rs) (0 + Int.toNat ↑i * 1) [.flt (fadd (rAt 0 rs a).1 (rAt 0 rs b).1)]) (0 + Int.toNat ↑i * 1) .undef)) = AV.flt (valR kF 0 xs rs (TOp.mk (2 : Int) a b c))) && (Nat.blt (0 + Int.toNat ↑i * 1) (List.length (setL (rvC m rs) (0 + Int.toNat ↑i * 1) [.flt (fadd (rAt 0 rs a).1 (rAt 0 rs b).1)])) && AV.isFlt (List.getD (setL (rvC m rs) (0 + Int.toNat ↑i * 1) [.flt (fadd (rAt 0 rs a).1 (rAt 0 rs b).1)]) (0 + Int.toNat ↑i * 1) .undef)) && (decide ((0 : Int) ≤ (↑i : Int) ∧ (↑i : Int) < (↑m : Int)) && (pb (AV.flt (AV.toFlt (List.getD (setL (rvC m rs) (0 + Int.toNat ↑i * 1) [.flt (fadd (rAt 0 rs a).1 (rAt 0 rs b).1)]) (0 + Int.toNat b * 1) .undef)) = AV.flt (rAt 0 rs b).1) && (Nat.blt (0 + Int.toNat b * 1) (List.length (setL (rvC m rs) (0 + Int.toNat ↑i * 1) [.flt (fadd (rAt 0 rs a).1 (rAt 0 rs b).1)])) && AV.isFlt (List.getD (setL (rvC m rs) (0 + Int.toNat ↑i * 1) [.flt (fadd (rAt 0 rs a).1 (rAt 0 rs b).1)]) (0 + Int.toNat b * 1) .undef)) && (decide ((0 : Int) ≤ b ∧ b < (↑m : Int)) && (pb (AV.flt (AV.toFlt (List.getD (setL (rvC m rs) (0 + Int.toNat ↑i * 1) [.flt (fadd (rAt 0 rs a).1 (rAt 0 rs b).1)]) (0 + Int.toNat a * 1) .undef)) = AV.flt (rAt 0 rs a).1) && (Nat.blt (0 + Int.toNat a * 1) (List.length (setL (rvC m rs) (0 + Int.toNat ↑i * 1) [.flt (fadd (rAt 0 rs a).1 (rAt 0 rs b).1)])) && AV.isFlt (List.getD (setL (rvC m rs) (0 + Int.toNat ↑i * 1) [.flt (fadd (rAt 0 rs a).1 (rAt 0 rs b).1)]) (0 + Int.toNat a * 1) .undef)) && (decide ((0 : Int) ≤ a ∧ a < (↑m : Int)) && (pb (List.getD (setL (rdC 1 m rs) (0 + Int.toNat ↑i * 1) [.slc 1027 0 1]) (0 + Int.toNat ↑i * 1) .undef = AV.slc 1027 0 1) && (Nat.blt (0 + Int.toNat ↑i * 1) (List.length (setL (rdC 1 m rs) (0 + Int.toNat ↑i * 1) [.slc 1027 0 1])) && true) && (decide ((0 : Int) ≤ (↑i : Int) ∧ (↑i : Int) < (↑m : Int)) && (Nat.ble (0 + Int.toNat ↑i * 1 + 1) (List.length (rvC m rs)) && true && (decide ((0 : Int) ≤ (↑i : Int) ∧ (↑i : Int) < (↑m : Int)) && (pb (AV.flt (AV.toFlt (List.getD (rvC m rs) (0 + Int.toNat b * 1) .undef)) = AV.flt (rAt 0 rs b).1) && (Nat.blt (0 + Int.toNat b * 1) (List.length (rvC m rs)) && AV.isFlt (List.getD (rvC m rs) (0 + Int.toNat b * 1) .undef)) && (decide ((0 : Int) ≤ b ∧ b < (↑m : Int)) && (pb (AV.flt (AV.toFlt (List.getD (rvC m rs) (0 + Int.toNat a * 1) .undef)) = AV.flt (rAt 0 rs a).1) && (Nat.blt (0 + Int.toNat a * 1) (List.length (rvC m rs)) && AV.isFlt (List.getD (rvC m rs) (0 + Int.toNat a * 1) .undef)) && (decide ((0 : Int) ≤ a ∧ a < (↑m : Int)) && (Nat.ble (0 + Int.toNat ↑i * 1 + 1) (List.length (rdC 1 m rs)) && true && (decide ((0 : Int) ≤ (↑i : Int) ∧ (↑i : Int) < (↑m : Int)) && (pb (AV.agg [.int .i64 (AV.toInt (List.getD (opsL ops) (Int.toNat ↑i * 4) .undef)), .int .i64 (AV.toInt (List.getD (opsL ops) (Int.toNat ↑i * 4 + 1) .undef)), .int .i64 (AV.toInt (List.getD (opsL ops) (Int.toNat ↑i * 4 + 1 + 1) .undef)), .flt (AV.toFlt (List.getD (opsL ops) (Int.toNat ↑i * 4 + 1 + 1 + 1) .undef))] = AV.agg [.int .i64 2, .int .i64 a, .int .i64 b, .flt c]) && (Nat.ble (Int.toNat ↑i * 4 + 4) (List.length (opsL ops)) && etasOk [Leaf.i IntKind.i64, Leaf.i IntKind.i64, Leaf.i IntKind.i64, Leaf.f] (opsL ops) (Int.toNat ↑i * 4)) && (decide ((0 : Int) ≤ (↑i : Int) ∧ (↑i : Int) < (↑m : Int)) && (decide ((↑i : Int) < (↑m : Int)) && true)))))))))))))))))))))))))))) = true) : Goes CM w0 191 (eBody) (mk [1,2,5,6,7] [.snap (fltL xs) lx, .ptr 0 0, .slc 1 0 m, .slc 2 0 m, .int .i64 (i : Int)] [⟨[.int .i64 1, .snap (opsL ops) m, .snap (intL outs) 1], 53⟩, ⟨rvC m rs, 24⟩, ⟨rdC 1 m rs, 34⟩] dec0) Ex.normal (mk [1,2,5,6,7] [.snap (fltL xs) lx, .ptr 0 0, .slc 1 0 m, .slc 2 0 m, .int .i64 (IntKind.wrap IntKind.i64 ((↑i : Int) + (1 : Int)))] [ABlk.mk [.int .i64 1, .snap (opsL ops) m, .snap (intL outs) 1] 53, ABlk.mk (rvC m (rs ++ [stepR kF 0 1 xs rs (TOp.mk (2 : Int) a b c)])) 24, ABlk.mk (rdC 1 m (rs ++ [stepR kF 0 1 xs rs (TOp.mk (2 : Int) a b c)])) 34] dec1) :=
  goes_re (dec := [true]) (goes_O (l := [(31, .agg [.int .i64 2, .int .i64 a, .int .i64 b, .flt c]), (135, .slc 1027 0 1), (143, .flt (rAt 0 rs a).v), (148, .flt (rAt 0 rs b).v), (152, .flt (valR kF 0 xs rs ⟨2, a, b, c⟩)), (157, .snap (fltL (rAt 0 rs a).d) 1), (165, .snap (fltL (rAt 0 rs b).d) 1), (86, .flt (rAt 0 rs a).v), (91, .flt (rAt 0 rs b).v)]) (goes_viewK' (ctxO_ok OM _) mixed (qs := [24]) (fuel := 8) [.lit, .giv (rvC m (rs ++ [stepR kF 0 1 xs rs ⟨2, a, b, c⟩])) [], .giv (rdC 1 m (rs ++ [stepR kF 0 1 xs rs ⟨2, a, b, c⟩])) [1027], .frzGiv (fltL (stepR kF 0 1 xs rs ⟨2, a, b, c⟩).d) []] (by kernel_rfl) hok dec1))
theorem eI1_3 (xs : List Nat) (lx : Nat) (ops : List TOp) (m : Nat) (outs : List Int) (rs : List (Rg Nat)) (i : Nat) (a b : Int) (c : Nat) (w0 : World) (dec0 dec1 : List Bool) (hok : ((pb (SubP true [] [] 0 [.flt (fsub (AV.toFlt (List.getD (fltL (rAt 0 rs a).2) 0 .undef)) (AV.toFlt (List.getD (fltL (rAt 0 rs b).2) 0 .undef)))] [.flt (slopeR kF 0 rs (TOp.mk (3 : Int) a b c) (valR kF 0 xs rs (TOp.mk (3 : Int) a b c)) 0)]) && true && (pb (SubP true [(1027, [.flt (slopeR kF 0 rs (TOp.mk (3 : Int) a b c) (valR kF 0 xs rs (TOp.mk (3 : Int) a b c)) 0)])] [0, 1, 2] 0 (setL (rvC m rs) (0 + Int.toNat ↑i * 1) [.flt (fsub (rAt 0 rs a).1 (rAt 0 rs b).1)]) (rvC m (rs ++ [stepR kF 0 1 xs rs (TOp.mk (3 : Int) a b c)]))) && (pb (SubP true [(1027, [.flt (slopeR kF 0 rs (TOp.mk (3 : Int) a b c) (valR kF 0 xs rs (TOp.mk (3 : Int) a b c)) 0)])] [0, 1, 2] 0 (setL (rdC 1 m rs) (0 + Int.toNat ↑i * 1) [.slc 1027 0 1]) (rdC 1 m (rs ++ [stepR kF 0 1 xs rs (TOp.mk (3 : Int) a b c)]))) && true) && (Nat.blt 0 (List.length (fltL (rAt 0 rs b).2)) && AV.isFlt (List.getD (fltL (rAt 0 rs b).2) 0 .undef) && (pb (List.getD (setL (rdC 1 m rs) (0 + Int.toNat ↑i * 1) [.slc 1027 0 1]) (0 + Int.toNat b * 1) .undef = AV.snap (fltL (rAt 0 rs b).2) 1) && (Nat.blt (0 + Int.toNat b * 1) (List.length (setL (rdC 1 m rs) (0 + Int.toNat ↑i * 1) [.slc 1027 0 1])) && true) && (decide ((0 : Int) ≤ b ∧ b < (↑m : Int)) && (Nat.blt 0 (List.length (fltL (rAt 0 rs a).2)) && AV.isFlt (List.getD (fltL (rAt 0 rs a).2) 0 .undef) && (pb (List.getD (setL (rdC 1 m rs) (0 + Int.toNat ↑i * 1) [.slc 1027 0 1]) (0 + Int.toNat a * 1) .undef = AV.snap (fltL (rAt 0 rs a).2) 1) && (Nat.blt (0 + Int.toNat a * 1) (List.length (setL (rdC 1 m rs) (0 + Int.toNat ↑i * 1) [.slc 1027 0 1])) && true) && (decide ((0 : Int) ≤ a ∧ a < (↑m : Int)) && (pb (AV.flt (AV.toFlt (List.getD (setL (rvC m rs) (0 + Int.toNat ↑i * 1) [.flt (fsub (rAt 0 rs a).1 (rAt 0 rs b).1)]) (0 + Int.toNat ↑i * 1) .undef)) = AV.flt (valR kF 0 xs rs (TOp.mk (3 : Int) a b c))) && (Nat.blt (0 + Int.toNat ↑i * 1) (List.length (setL (rvC m rs) (0 + Int.toNat ↑i * 1) [.flt (fsub (rAt 0 rs a).1 (rAt 0 rs b).1)])) && AV.isFlt (List.getD (setL (rvC m rs) (0 + Int.toNat ↑i * 1) [.flt (fsub (rAt 0 rs a).1 (rAt 0 rs b).1)]) (0 + Int.toNat ↑i * 1) .undef)) && (decide ((0 : Int) ≤ (↑i : Int) ∧ (↑i : Int) < (↑m : Int)) && (pb (AV.flt (AV.toFlt (List.getD (setL (rvC m rs) (0 + Int.toNat ↑i * 1) [.flt (fsub (rAt 0 rs a).1 (rAt 0 rs b).1)]) (0 + Int.toNat b * 1) .undef)) = AV.flt (rAt 0 rs b).1) && (Nat.blt (0 + Int.toNat b * 1) (List.length (setL (rvC m rs) (0 + Int.toNat ↑i * 1) [.flt (fsub (rAt 0 rs a).1 (rAt 0 rs b).1)])) && AV.isFlt (List.getD (setL (rvC m rs) (0 + Int.toNat ↑i * 1) [.flt (fsub (rAt 0 rs a).1 (rAt 0 rs b).1)]) (0 + Int.toNat b * 1) .undef)) && (decide ((0 : Int) ≤ b ∧ b < (↑m : Int)) && (pb (AV.flt (AV.toFlt (List.getD (setL (rvC m rs) (0 + Int.toNat ↑i * 1) [.flt (fsub (rAt 0 rs a).1 (rAt 0 rs b).1)]) (0 + Int.toNat a * 1) .undef)) = AV.flt (rAt 0 rs a).1) && (Nat.blt (0 + Int.toNat a * 1) (List.length (setL (rvC m rs) (0 + Int.toNat ↑i * 1) [.flt (fsub (rAt 0 rs a).1 (rAt 0 rs b).1)])) && AV.isFlt (List.getD (setL (rvC m rs) (0 + Int.toNat ↑i * 1) [.flt (fsub (rAt 0 rs a).1 (rAt 0 rs b).1)]) (0 + Int.toNat a * 1) .undef)) && (decide ((0 : Int) ≤ a ∧ a < (↑m : Int)) && (pb (List.getD (setL (rdC 1 m rs) (0 + Int.toNat ↑i * 1) [.slc 1027 0 1]) (0 + Int.toNat ↑i * 1) .undef = AV.slc 1027 0 1) && (Nat.blt (0 + Int.toNat ↑i * 1) (List.length (setL (rdC 1 m rs) (0 + Int.toNat ↑i * 1) [.slc 1027 0 1])) && true) && (decide ((0 : Int) ≤ (↑i : Int) ∧ (↑i : Int) < (↑m : Int)) && (Nat.ble (0 + Int.toNat ↑i * 1 + 1) (List.length (rvC m rs)) && true && (decide ((0 : Int) ≤ (↑i : Int) ∧ (↑i : Int) < (↑m : Int)) && (pb (AV.flt (AV.toFlt (List.getD (rvC m rs) (0 + Int.toNat b * 1) .undef)) = AV.flt (rAt 0 rs b).1) && (Nat.blt (0 + Int.toNat b * 1) (List.length (rvC m rs)) && AV.isFlt (List.getD (rvC m rs) (0 + Int.toNat b * 1) .undef)) && (decide ((0 : Int) ≤ b ∧ b < (↑m : Int)) && (pb (AV.flt (AV.toFlt (List.getD (rvC m rs) (0 + Int.toNat a * 1) .undef)) = AV.flt (rAt 0 rs a).1) && (Nat.blt (0 + Int.toNat a * 1) (List.length (rvC m rs)) && AV.isFlt (List.getD (rvC m rs) (0 + Int.toNat a * 1) .undef)) && (decide ((0 : Int) ≤ a ∧ a < (↑m : Int)) && (Nat.ble (0 + Int.toNat ↑i * 1 + 1) (List.length (rdC 1 m rs)) && true && (decide ((0 : Int) ≤ (↑i : Int) ∧ (↑i : Int) < (↑m : Int)) && (pb (AV.agg [.int .i64 (AV.toInt (List.getD (opsL ops) (Int.toNat ↑i * 4) .undef)), .int .i64 (AV.toInt (List.getD (opsL ops) (Int.toNat ↑i * 4 + 1) .undef)), .int .i64 (AV.toInt (List.getD (opsL ops) (Int.toNat ↑i * 4 + 1 + 1) .undef)), .flt (AV.toFlt (List.getD (opsL ops) (Int.toNat ↑i * 4 + 1 + 1 + 1) .undef))] = AV.agg [.int .i64 3, .int .i64 a, .int .i64 b, .flt c]) && (Nat.ble (Int.toNat ↑i * 4 + 4) (List.length (opsL ops)) && etasOk [Leaf.i IntKind.i64, Leaf.i IntKind.i64, Leaf.i IntKind.i64, Leaf.f] (opsL ops) (Int.toNat ↑i * 4)) && (decide ((0 : Int) ≤ (↑i : Int) ∧ (↑i : Int) < (↑m : Int)) && (decide ((↑i : Int) < (↑m : Int)) && true)))))))))))))))))))))))))))) = true) : Goes CM w0 191 (eBody) (mk [1,2,5,6,7] [.snap (fltL xs) lx, .ptr 0 0, .slc 1 0 m, .slc 2 0 m, .int .i64 (i : Int)] [⟨[.int .i64 1, .snap (opsL ops) m, .snap (intL outs) 1], 53⟩, ⟨rvC m rs, 24⟩, ⟨rdC 1 m rs, 34⟩] dec0) Ex.normal (mk [1,2,5,6,7] [.snap (fltL xs) lx, .ptr 0 0, .slc 1 0 m, .slc 2 0 m, .int .i64 (IntKind.wrap IntKind.i64 ((↑i : Int) + (1 : Int)))] [ABlk.mk [.int .i64 1, .snap (opsL ops) m, .snap (intL outs) 1] 53, ABlk.mk (rvC m (rs ++ [stepR kF 0 1 xs rs (TOp.mk (3 : Int) a b c)])) 24, ABlk.mk (rdC 1 m (rs ++ [stepR kF 0 1 xs rs (TOp.mk (3 : Int) a b c)])) 34] dec1) :=
  goes_re (dec := [true]) (goes_O (l := [(31, .agg [.int .i64 3, .int .i64 a, .int .i64 b, .flt c]), (135, .slc 1027 0 1), (143, .flt (rAt 0 rs a).v), (148, .flt (rAt 0 rs b).v), (152, .flt (valR kF 0 xs rs ⟨3, a, b, c⟩)), (157, .snap (fltL (rAt 0 rs a).d) 1), (165, .snap (fltL (rAt 0 rs b).d) 1), (102, .flt (rAt 0 rs a).v), (107, .flt (rAt 0 rs b).v)]) (goes_viewK' (ctxO_ok OM _) mixed (qs := [24]) (fuel := 8) [.lit, .giv (rvC m (rs ++ [stepR kF 0 1 xs rs ⟨3, a, b, c⟩])) [], .giv (rdC 1 m (rs ++ [stepR kF 0 1 xs rs ⟨3, a, b, c⟩])) [1027], .frzGiv (fltL (stepR kF 0 1 xs rs ⟨3, a, b, c⟩).d) []] (by kernel_rfl) hok dec1))
theorem eI1_4 (xs : List Nat) (lx : Nat) (ops : List TOp) (m : Nat) (outs : List Int) (rs : List (Rg Nat)) (i : Nat) (a b : Int) (c : Nat) (w0 : World) (dec0 dec1 : List Bool) (hok : ((pb (SubP true [] [] 0 [.flt (fadd (fmul (AV.toFlt (List.getD (fltL (rAt 0 rs a).2) 0 .undef)) (rAt 0 rs b).1) (fmul (rAt 0 rs a).1 (AV.toFlt (List.getD (fltL (rAt 0 rs b).2) 0 .undef))))] [.flt (slopeR kF 0 rs (TOp.mk (4 : Int) a b c) (valR kF 0 xs rs (TOp.mk (4 : Int) a b c)) 0)]) && true && (pb (SubP true [(1027, [.flt (slopeR kF 0 rs (TOp.mk (4 : Int) a b c) (valR kF 0 xs rs (TOp.mk (4 : Int) a b c)) 0)])] [0, 1, 2] 0 (setL (rvC m rs) (0 + Int.toNat ↑i * 1) [.flt (fmul (rAt 0 rs a).1 (rAt 0 rs b).1)]) (rvC m (rs ++ [stepR kF 0 1 xs rs (TOp.mk (4 : Int) a b c)]))) && (pb (SubP true [(1027, [.flt (slopeR kF 0 rs (TOp.mk (4 : Int) a b c) (valR kF 0 xs rs (TOp.mk (4 : Int) a b c)) 0)])] [0, 1, 2] 0 (setL (rdC 1 m rs) (0 + Int.toNat ↑i * 1) [.slc 1027 0 1]) (rdC 1 m (rs ++ [stepR kF 0 1 xs rs (TOp.mk (4 : Int) a b c)]))) && true) && (Nat.blt 0 (List.length (fltL (rAt 0 rs b).2)) && AV.isFlt (List.getD (fltL (rAt 0 rs b).2) 0 .undef) && (pb (List.getD (setL (rdC 1 m rs) (0 + Int.toNat ↑i * 1) [.slc 1027 0 1]) (0 + Int.toNat b * 1) .undef = AV.snap (fltL (rAt 0 rs b).2) 1) && (Nat.blt (0 + Int.toNat b * 1) (List.length (setL (rdC 1 m rs) (0 + Int.toNat ↑i * 1) [.slc 1027 0 1])) && true) && (decide ((0 : Int) ≤ b ∧ b < (↑m : Int)) && (Nat.blt 0 (List.length (fltL (rAt 0 rs a).2)) && AV.isFlt (List.getD (fltL (rAt 0 rs a).2) 0 .undef) && (pb (List.getD (setL (rdC 1 m rs) (0 + Int.toNat ↑i * 1) [.slc 1027 0 1]) (0 + Int.toNat a * 1) .undef = AV.snap (fltL (rAt 0 rs a).2) 1) && (Nat.blt (0 + Int.toNat a * 1) (List.length (setL (rdC 1 m rs) (0 + Int.toNat ↑i * 1) [.slc 1027 0 1])) && true) && (decide ((0 : Int) ≤ a ∧ a < (↑m : Int)) && (pb (AV.flt (AV.toFlt (List.getD (setL (rvC m rs) (0 + Int.toNat ↑i * 1) [.flt (fmul (rAt 0 rs a).1 (rAt 0 rs b).1)]) (0 + Int.toNat ↑i * 1) .undef)) = AV.flt (valR kF 0 xs rs (TOp.mk (4 : Int) a b c))) && (Nat.blt (0 + Int.toNat ↑i * 1) (List.length (setL (rvC m rs) (0 + Int.toNat ↑i * 1) [.flt (fmul (rAt 0 rs a).1 (rAt 0 rs b).1)])) && AV.isFlt (List.getD (setL (rvC m rs) (0 + Int.toNat ↑i * 1) [.flt (fmul (rAt 0 rs a).1 (rAt 0 rs b).1)]) (0 + Int.toNat ↑i * 1) .undef)) && (decide ((0 : Int) ≤ (↑i : Int) ∧ (↑i : Int) < (↑m : Int)) && (pb (AV.flt (AV.toFlt (List.getD (setL (rvC m rs) (0 + Int.toNat ↑i * 1) [.flt (fmul (rAt 0 rs a).1 (rAt 0 rs b).1)]) (0 + Int.toNat b * 1) .undef)) = AV.flt (rAt 0 rs b).1) && (Nat.blt (0 + Int.toNat b * 1) (List.length (setL (rvC m rs) (0 + Int.toNat ↑i * 1) [.flt (fmul (rAt 0 rs a).1 (rAt 0 rs b).1)])) && AV.isFlt (List.getD (setL (rvC m rs) (0 + Int.toNat ↑i * 1) [.flt (fmul (rAt 0 rs a).1 (rAt 0 rs b).1)]) (0 + Int.toNat b * 1) .undef)) && (decide ((0 : Int) ≤ b ∧ b < (↑m : Int)) && (pb (AV.flt (AV.toFlt (List.getD (setL (rvC m rs) (0 + Int.toNat ↑i * 1) [.flt (fmul (rAt 0 rs a).1 (rAt 0 rs b).1)]) (0 + Int.toNat a * 1) .undef)) = AV.flt (rAt 0 rs a).1) && (Nat.blt (0 + Int.toNat a * 1) (List.length (setL (rvC m rs) (0 + Int.toNat ↑i * 1) [.flt (fmul (rAt 0 rs a).1 (rAt 0 rs b).1)])) && AV.isFlt (List.getD (setL (rvC m rs) (0 + Int.toNat ↑i * 1) [.flt (fmul (rAt 0 rs a).1 (rAt 0 rs b).1)]) (0 + Int.toNat a * 1) .undef)) && (decide ((0 : Int) ≤ a ∧ a < (↑m : Int)) && (pb (List.getD (setL (rdC 1 m rs) (0 + Int.toNat ↑i * 1) [.slc 1027 0 1]) (0 + Int.toNat ↑i * 1) .undef = AV.slc 1027 0 1) && (Nat.blt (0 + Int.toNat ↑i * 1) (List.length (setL (rdC 1 m rs) (0 + Int.toNat ↑i * 1) [.slc 1027 0 1])) && true) && (decide ((0 : Int) ≤ (↑i : Int) ∧ (↑i : Int) < (↑m : Int)) && (Nat.ble (0 + Int.toNat ↑i * 1 + 1) (List.length (rvC m rs)) && true && (decide ((0 : Int) ≤ (↑i : Int) ∧ (↑i : Int) < (↑m : Int)) && (pb (AV.flt (AV.toFlt (List.getD (rvC m rs) (0 + Int.toNat b * 1) .undef)) = AV.flt (rAt 0 rs b).1) && (Nat.blt (0 + Int.toNat b * 1) (List.length (rvC m rs)) && AV.isFlt (List.getD (rvC m rs) (0 + Int.toNat b * 1) .undef)) && (decide ((0 : Int) ≤ b ∧ b < (↑m : Int)) && (pb (AV.flt (AV.toFlt (List.getD (rvC m rs) (0 + Int.toNat a * 1) .undef)) = AV.flt (rAt 0 rs a).1) && (Nat.blt (0 + Int.toNat a * 1) (List.length (rvC m rs)) && AV.isFlt (List.getD (rvC m rs) (0 + Int.toNat a * 1) .undef)) && (decide ((0 : Int) ≤ a ∧ a < (↑m : Int)) && (Nat.ble (0 + Int.toNat ↑i * 1 + 1) (List.length (rdC 1 m rs)) && true && (decide ((0 : Int) ≤ (↑i : Int) ∧ (↑i : Int) < (↑m : Int)) && (pb (AV.agg [.int .i64 (AV.toInt (List.getD (opsL ops) (Int.toNat ↑i * 4) .undef)), .int .i64 (AV.toInt (List.getD (opsL ops) (Int.toNat ↑i * 4 + 1) .undef)), .int .i64 (AV.toInt (List.getD (opsL ops) (Int.toNat ↑i * 4 + 1 + 1) .undef)), .flt (AV.toFlt (List.getD (opsL ops) (Int.toNat ↑i * 4 + 1 + 1 + 1) .undef))] = AV.agg [.int .i64 4, .int .i64 a, .int .i64 b, .flt c]) && (Nat.ble (Int.toNat ↑i * 4 + 4) (List.length (opsL ops)) && etasOk [Leaf.i IntKind.i64, Leaf.i IntKind.i64, Leaf.i IntKind.i64, Leaf.f] (opsL ops) (Int.toNat ↑i * 4)) && (decide ((0 : Int) ≤ (↑i : Int) ∧ (↑i : Int) < (↑m : Int)) && (decide ((↑i : Int) < (↑m : Int)) && true)))))))))))))))))))))))))))) = true) : Goes CM w0 191 (eBody) (mk [1,2,5,6,7] [.snap (fltL xs) lx, .ptr 0 0, .slc 1 0 m, .slc 2 0 m, .int .i64 (i : Int)] [⟨[.int .i64 1, .snap (opsL ops) m, .snap (intL outs) 1], 53⟩, ⟨rvC m rs, 24⟩, ⟨rdC 1 m rs, 34⟩] dec0) Ex.normal (mk [1,2,5,6,7] [.snap (fltL xs) lx, .ptr 0 0, .slc 1 0 m, .slc 2 0 m, .int .i64 (IntKind.wrap IntKind.i64 ((↑i : Int) + (1 : Int)))] [ABlk.mk [.int .i64 1, .snap (opsL ops) m, .snap (intL outs) 1] 53, ABlk.mk (rvC m (rs ++ [stepR kF 0 1 xs rs (TOp.mk (4 : Int) a b c)])) 24, ABlk.mk (rdC 1 m (rs ++ [stepR kF 0 1 xs rs (TOp.mk (4 : Int) a b c)])) 34] dec1) :=
  goes_re (dec := [true]) (goes_O (l := [(31, .agg [.int .i64 4, .int .i64 a, .int .i64 b, .flt c]), (135, .slc 1027 0 1), (143, .flt (rAt 0 rs a).v), (148, .flt (rAt 0 rs b).v), (152, .flt (valR kF 0 xs rs ⟨4, a, b, c⟩)), (157, .snap (fltL (rAt 0 rs a).d) 1), (165, .snap (fltL (rAt 0 rs b).d) 1), (118, .flt (rAt 0 rs a).v), (123, .flt (rAt 0 rs b).v)]) (goes_viewK' (ctxO_ok OM _) mixed (qs := [24]) (fuel := 8) [.lit, .giv (rvC m (rs ++ [stepR kF 0 1 xs rs ⟨4, a, b, c⟩])) [], .giv (rdC 1 m (rs ++ [stepR kF 0 1 xs rs ⟨4, a, b, c⟩])) [1027], .frzGiv (fltL (stepR kF 0 1 xs rs ⟨4, a, b, c⟩).d) []] (by kernel_rfl) hok dec1))
theorem eI1_5 (xs : List Nat) (lx : Nat) (ops : List TOp) (m : Nat) (outs : List Int) (rs : List (Rg Nat)) (i : Nat) (a b : Int) (c : Nat) (w0 : World) (dec0 dec1 : List Bool) (hok : ((pb (SubP true [] [] 0 [.flt (fdiv (fsub (AV.toFlt (List.getD (fltL (rAt 0 rs a).2) 0 .undef)) (fmul (valR kF 0 xs rs (TOp.mk (5 : Int) a b c)) (AV.toFlt (List.getD (fltL (rAt 0 rs b).2) 0 .undef)))) (rAt 0 rs b).1)] [.flt (slopeR kF 0 rs (TOp.mk (5 : Int) a b c) (valR kF 0 xs rs (TOp.mk (5 : Int) a b c)) 0)]) && true && (pb (SubP true [(1027, [.flt (slopeR kF 0 rs (TOp.mk (5 : Int) a b c) (valR kF 0 xs rs (TOp.mk (5 : Int) a b c)) 0)])] [0, 1, 2] 0 (setL (rvC m rs) (0 + Int.toNat ↑i * 1) [.flt (fdiv (rAt 0 rs a).1 (rAt 0 rs b).1)]) (rvC m (rs ++ [stepR kF 0 1 xs rs (TOp.mk (5 : Int) a b c)]))) && (pb (SubP true [(1027, [.flt (slopeR kF 0 rs (TOp.mk (5 : Int) a b c) (valR kF 0 xs rs (TOp.mk (5 : Int) a b c)) 0)])] [0, 1, 2] 0 (setL (rdC 1 m rs) (0 + Int.toNat ↑i * 1) [.slc 1027 0 1]) (rdC 1 m (rs ++ [stepR kF 0 1 xs rs (TOp.mk (5 : Int) a b c)]))) && true) && (Nat.blt 0 (List.length (fltL (rAt 0 rs b).2)) && AV.isFlt (List.getD (fltL (rAt 0 rs b).2) 0 .undef) && (pb (List.getD (setL (rdC 1 m rs) (0 + Int.toNat ↑i * 1) [.slc 1027 0 1]) (0 + Int.toNat b * 1) .undef = AV.snap (fltL (rAt 0 rs b).2) 1) && (Nat.blt (0 + Int.toNat b * 1) (List.length (setL (rdC 1 m rs) (0 + Int.toNat ↑i * 1) [.slc 1027 0 1])) && true) && (decide ((0 : Int) ≤ b ∧ b < (↑m : Int)) && (Nat.blt 0 (List.length (fltL (rAt 0 rs a).2)) && AV.isFlt (List.getD (fltL (rAt 0 rs a).2) 0 .undef) && (pb (List.getD (setL (rdC 1 m rs) (0 + Int.toNat ↑i * 1) [.slc 1027 0 1]) (0 + Int.toNat a * 1) .undef = AV.snap (fltL (rAt 0 rs a).2) 1) && (Nat.blt (0 + Int.toNat a * 1) (List.length (setL (rdC 1 m rs) (0 + Int.toNat ↑i * 1) [.slc 1027 0 1])) && true) && (decide ((0 : Int) ≤ a ∧ a < (↑m : Int)) && (pb (AV.flt (AV.toFlt (List.getD (setL (rvC m rs) (0 + Int.toNat ↑i * 1) [.flt (fdiv (rAt 0 rs a).1 (rAt 0 rs b).1)]) (0 + Int.toNat ↑i * 1) .undef)) = AV.flt (valR kF 0 xs rs (TOp.mk (5 : Int) a b c))) && (Nat.blt (0 + Int.toNat ↑i * 1) (List.length (setL (rvC m rs) (0 + Int.toNat ↑i * 1) [.flt (fdiv (rAt 0 rs a).1 (rAt 0 rs b).1)])) && AV.isFlt (List.getD (setL (rvC m rs) (0 + Int.toNat ↑i * 1) [.flt (fdiv (rAt 0 rs a).1 (rAt 0 rs b).1)]) (0 + Int.toNat ↑i * 1) .undef)) && (decide ((0 : Int) ≤ (↑i : Int) ∧ (↑i : Int) < (↑m : Int)) && (pb (AV.flt (AV.toFlt (List.getD (setL (rvC m rs) (0 + Int.toNat ↑i * 1) [.flt (fdiv (rAt 0 rs a).1 (rAt 0 rs b).1)]) (0 + Int.toNat b * 1) .undef)) = AV.flt (rAt 0 rs b).1) && (Nat.blt (0 + Int.toNat b * 1) (List.length (setL (rvC m rs) (0 + Int.toNat ↑i * 1) [.flt (fdiv (rAt 0 rs a).1 (rAt 0 rs b).1)])) && AV.isFlt (List.getD (setL (rvC m rs) (0 + Int.toNat ↑i * 1) [.flt (fdiv (rAt 0 rs a).1 (rAt 0 rs b).1)]) (0 + Int.toNat b * 1) .undef)) && (decide ((0 : Int) ≤ b ∧ b < (↑m : Int)) && (pb (AV.flt (AV.toFlt (List.getD (setL (rvC m rs) (0 + Int.toNat ↑i * 1) [.flt (fdiv (rAt 0 rs a).1 (rAt 0 rs b).1)]) (0 + Int.toNat a * 1) .undef)) = AV.flt (rAt 0 rs a).1) && (Nat.blt (0 + Int.toNat a * 1) (List.length (setL (rvC m rs) (0 + Int.toNat ↑i * 1) [.flt (fdiv (rAt 0 rs a).1 (rAt 0 rs b).1)])) && AV.isFlt (List.getD (setL (rvC m rs) (0 + Int.toNat ↑i * 1) [.flt (fdiv (rAt 0 rs a).1 (rAt 0 rs b).1)]) (0 + Int.toNat a * 1) .undef)) && (decide ((0 : Int) ≤ a ∧ a < (↑m : Int)) && (pb (List.getD (setL (rdC 1 m rs) (0 + Int.toNat ↑i * 1) [.slc 1027 0 1]) (0 + Int.toNat ↑i * 1) .undef = AV.slc 1027 0 1) && (Nat.blt (0 + Int.toNat ↑i * 1) (List.length (setL (rdC 1 m rs) (0 + Int.toNat ↑i * 1) [.slc 1027 0 1])) && true) && (decide ((0 : Int) ≤ (↑i : Int) ∧ (↑i : Int) < (↑m : Int)) && (Nat.ble (0 + Int.toNat ↑i * 1 + 1) (List.length (rvC m rs)) && true && (decide ((0 : Int) ≤ (↑i : Int) ∧ (↑i : Int) < (↑m : Int)) && (pb (AV.flt (AV.toFlt (List.getD (rvC m rs) (0 + Int.toNat b * 1) .undef)) = AV.flt (rAt 0 rs b).1) && (Nat.blt (0 + Int.toNat b * 1) (List.length (rvC m rs)) && AV.isFlt (List.getD (rvC m rs) (0 + Int.toNat b * 1) .undef)) && (decide ((0 : Int) ≤ b ∧ b < (↑m : Int)) && (pb (AV.flt (AV.toFlt (List.getD (rvC m rs) (0 + Int.toNat a * 1) .undef)) = AV.flt (rAt 0 rs a).1) && (Nat.blt (0 + Int.toNat a * 1) (List.length (rvC m rs)) && AV.isFlt (List.getD (rvC m rs) (0 + Int.toNat a * 1) .undef)) && (decide ((0 : Int) ≤ a ∧ a < (↑m : Int)) && (Nat.ble (0 + Int.toNat ↑i * 1 + 1) (List.length (rdC 1 m rs)) && true && (decide ((0 : Int) ≤ (↑i : Int) ∧ (↑i : Int) < (↑m : Int)) && (pb (AV.agg [.int .i64 (AV.toInt (List.getD (opsL ops) (Int.toNat ↑i * 4) .undef)), .int .i64 (AV.toInt (List.getD (opsL ops) (Int.toNat ↑i * 4 + 1) .undef)), .int .i64 (AV.toInt (List.getD (opsL ops) (Int.toNat ↑i * 4 + 1 + 1) .undef)), .flt (AV.toFlt (List.getD (opsL ops) (Int.toNat ↑i * 4 + 1 + 1 + 1) .undef))] = AV.agg [.int .i64 5, .int .i64 a, .int .i64 b, .flt c]) && (Nat.ble (Int.toNat ↑i * 4 + 4) (List.length (opsL ops)) && etasOk [Leaf.i IntKind.i64, Leaf.i IntKind.i64, Leaf.i IntKind.i64, Leaf.f] (opsL ops) (Int.toNat ↑i * 4)) && (decide ((0 : Int) ≤ (↑i : Int) ∧ (↑i : Int) < (↑m : Int)) && (decide ((↑i : Int) < (↑m : Int)) && true)))))))))))))))))))))))))))) = true) : Goes CM w0 191 (eBody) (mk [1,2,5,6,7] [.snap (fltL xs) lx, .ptr 0 0, .slc 1 0 m, .slc 2 0 m, .int .i64 (i : Int)] [⟨[.int .i64 1, .snap (opsL ops) m, .snap (intL outs) 1], 53⟩, ⟨rvC m rs, 24⟩, ⟨rdC 1 m rs, 34⟩] dec0) Ex.normal (mk [1,2,5,6,7] [.snap (fltL xs) lx, .ptr 0 0, .slc 1 0 m, .slc 2 0 m, .int .i64 (IntKind.wrap IntKind.i64 ((↑i : Int) + (1 : Int)))] [ABlk.mk [.int .i64 1, .snap (opsL ops) m, .snap (intL outs) 1] 53, ABlk.mk (rvC m (rs ++ [stepR kF 0 1 xs rs (TOp.mk (5 : Int) a b c)])) 24, ABlk.mk (rdC 1 m (rs ++ [stepR kF 0 1 xs rs (TOp.mk (5 : Int) a b c)])) 34] dec1) :=
  goes_re (dec := [true]) (goes_O (l := [(31, .agg [.int .i64 5, .int .i64 a, .int .i64 b, .flt c]), (135, .slc 1027 0 1), (143, .flt (rAt 0 rs a).v), (148, .flt (rAt 0 rs b).v), (152, .flt (valR kF 0 xs rs ⟨5, a, b, c⟩)), (157, .snap (fltL (rAt 0 rs a).d) 1), (165, .snap (fltL (rAt 0 rs b).d) 1), (46, .flt (rAt 0 rs a).v), (51, .flt (rAt 0 rs b).v)]) (goes_viewK' (ctxO_ok OM _) mixed (qs := [24]) (fuel := 8) [.lit, .giv (rvC m (rs ++ [stepR kF 0 1 xs rs ⟨5, a, b, c⟩])) [], .giv (rdC 1 m (rs ++ [stepR kF 0 1 xs rs ⟨5, a, b, c⟩])) [1027], .frzGiv (fltL (stepR kF 0 1 xs rs ⟨5, a, b, c⟩).d) []] (by kernel_rfl) hok dec1))
theorem eX1 (xs : List Nat) (lx : Nat) (ops : List TOp) (m : Nat) (outs : List Int) (rs : List (Rg Nat)) (i : Nat) (w0 : World) (dec0 dec1 : List Bool) (hok : (((List.all (rdC 1 m rs) AV.noOwn) && true && (!decide ((↑i : Int) < (↑m : Int)) && true))) = true) : Goes CM w0 191 (eBody) (mk [1,2,5,6,7] [.snap (fltL xs) lx, .ptr 0 0, .slc 1 0 m, .slc 2 0 m, .int .i64 (i : Int)] [⟨[.int .i64 1, .snap (opsL ops) m, .snap (intL outs) 1], 53⟩, ⟨rvC m rs, 24⟩, ⟨rdC 1 m rs, 34⟩] dec0) (Ex.exit 0) (mk [2,6] [.ptr 0 0, .snap (rdC 1 m rs) m] [ABlk.mk [.int .i64 1, .snap (opsL ops) m, .snap (intL outs) 1] 53] dec1) :=
  goes_re (dec := [false]) (goes_viewK' OM mixed (qs := [24]) (fuel := 8) [.lit, .frzFlat] (by kernel_rfl) hok dec1)
theorem eZ1 (xs : List Nat) (lx : Nat) (ops : List TOp) (m : Nat) (outs : List Int) (rs : List (Rg Nat)) (i : Nat) (w0 : World) (dec0 dec1 : List Bool) (hok : (((List.all ([] ++ List.take (AV.sLen (List.getD (rdC 1 m rs) (Int.toNat (AV.toInt (List.getD (intL outs) 0 .undef)) * 1) .undef) * 1) (AV.sCells (List.getD (rdC 1 m rs) (Int.toNat (AV.toInt (List.getD (intL outs) 0 .undef)) * 1) .undef))) AV.noOwn) && true && (Nat.ble (AV.sLen (List.getD (rdC 1 m rs) (Int.toNat (AV.toInt (List.getD (intL outs) 0 .undef)) * 1) .undef) * 1) (List.length (AV.sCells (List.getD (rdC 1 m rs) (Int.toNat (AV.toInt (List.getD (intL outs) 0 .undef)) * 1) .undef))) && List.all (List.take (AV.sLen (List.getD (rdC 1 m rs) (Int.toNat (AV.toInt (List.getD (intL outs) 0 .undef)) * 1) .undef) * 1) (AV.sCells (List.getD (rdC 1 m rs) (Int.toNat (AV.toInt (List.getD (intL outs) 0 .undef)) * 1) .undef))) AV.one && decide (0 = 0 ∧ (0 + AV.sLen (List.getD (rdC 1 m rs) (Int.toNat (AV.toInt (List.getD (intL outs) 0 .undef)) * 1) .undef)) * 8 ≤ 140737488355328 ∧ 0 + AV.sLen (List.getD (rdC 1 m rs) (Int.toNat (AV.toInt (List.getD (intL outs) 0 .undef)) * 1) .undef) ≤ 9223372036854775807) && (Nat.blt (Int.toNat (AV.toInt (List.getD (intL outs) 0 .undef)) * 1) (List.length (rdC 1 m rs)) && AV.isSn (List.getD (rdC 1 m rs) (Int.toNat (AV.toInt (List.getD (intL outs) 0 .undef)) * 1) .undef) && (decide ((0 : Int) ≤ AV.toInt (List.getD (intL outs) 0 .undef) ∧ AV.toInt (List.getD (intL outs) 0 .undef) < (↑m : Int)) && (Nat.blt 0 (List.length (intL outs)) && AV.isInt IntKind.i64 (List.getD (intL outs) 0 .undef) && true)))))) = true) : Goes CM w0 191 (cR (cR (cR (cR eC)))) (mk [2,6] [.ptr 0 0, .snap (rdC 1 m rs) m] [⟨[.int .i64 1, .snap (opsL ops) m, .snap (intL outs) 1], 53⟩] dec0) Ex.ret (mk [4] [.slc 0 0 1] [ABlk.mk [.slc 1 0 (0 + AV.sLen (List.getD (rdC 1 m rs) (Int.toNat (AV.toInt (List.getD (intL outs) 0 .undef)) * 1) .undef))] 34, ABlk.mk ([] ++ List.take (AV.sLen (List.getD (rdC 1 m rs) (Int.toNat (AV.toInt (List.getD (intL outs) 0 .undef)) * 1) .undef) * 1) (AV.sCells (List.getD (rdC 1 m rs) (Int.toNat (AV.toInt (List.getD (intL outs) 0 .undef)) * 1) .undef))) 24] dec1) :=
  goes_re (dec := []) (goes_viewK' OM mixed (qs := []) (fuel := 8) [.lit, .flat] (by kernel_rfl) hok dec1)
theorem eA2 (xs : List Nat) (lx : Nat) (ops : List TOp) (m : Nat) (outs : List Int) (w0 : World) (dec1 : List Bool) : Goes CM w0 191 (cL eC) (St0 [.agg [.int .i64 2, .snap (opsL ops) m, .snap (intL outs) 2], .snap (fltL xs) lx] []) Ex.normal (mk [1,2] [.snap (fltL xs) lx, .ptr 0 0] [ABlk.mk [.int .i64 2, .snap (opsL ops) m, .snap (intL outs) 2] 53] dec1) :=
  goes_viewK' OM mixed (qs := []) (fuel := 8) [.lit] (by kernel_rfl) rfl dec1
theorem eB2 (xs : List Nat) (lx : Nat) (ops : List TOp) (m : Nat) (outs : List Int) (w0 : World) (dec0 dec1 : List Bool) (hok : (((List.all (List.replicate (Int.toNat ↑m) (AV.flt 0)) AV.noOwn) && true && (decide ((0 : Int) ≤ (↑m : Int) ∧ (↑m : Int) ≤ (↑m : Int) ∧ (8 : Int) * (↑m : Int) ≤ (281474976710656 : Int) ∧ (↑m : Int) ≤ (9223372036854775807 : Int)) && true))) = true) : Goes CM w0 191 (cL (cR eC)) (mk [1,2] [.snap (fltL xs) lx, .ptr 0 0] [⟨[.int .i64 2, .snap (opsL ops) m, .snap (intL outs) 2], 53⟩] dec0) Ex.normal (mk [1,2,5] [.snap (fltL xs) lx, .ptr 0 0, .slc 1 0 (Int.toNat ↑m)] [ABlk.mk [.int .i64 2, .snap (opsL ops) m, .snap (intL outs) 2] 53, ABlk.mk (List.replicate (Int.toNat ↑m) (AV.flt 0)) 24] dec1) :=
  goes_re (dec := []) (goes_viewK' OM mixed (qs := []) (fuel := 8) [.lit, .flat] (by kernel_rfl) hok dec1)
theorem eD2 (xs : List Nat) (lx : Nat) (ops : List TOp) (m : Nat) (outs : List Int) (r0 : List AV) (w0 : World) (dec0 dec1 : List Bool) (hok : (((List.all r0 AV.noOwn) && ((List.all (List.replicate (Int.toNat ↑m) AV.nils) AV.noOwn) && true) && (decide ((0 : Int) ≤ (↑m : Int) ∧ (↑m : Int) ≤ (↑m : Int) ∧ (24 : Int) * (↑m : Int) ≤ (281474976710656 : Int) ∧ (↑m : Int) ≤ (9223372036854775807 : Int)) && true))) = true) : Goes CM w0 191 (cL (cR (cR eC))) (mk [1,2,5] [.snap (fltL xs) lx, .ptr 0 0, .slc 1 0 m] [⟨[.int .i64 2, .snap (opsL ops) m, .snap (intL outs) 2], 53⟩, ⟨r0, 24⟩] dec0) Ex.normal (mk [1,2,5,6] [.snap (fltL xs) lx, .ptr 0 0, .slc 1 0 m, .slc 2 0 (Int.toNat ↑m)] [ABlk.mk [.int .i64 2, .snap (opsL ops) m, .snap (intL outs) 2] 53, ABlk.mk r0 24, ABlk.mk (List.replicate (Int.toNat ↑m) AV.nils) 34] dec1) :=
  goes_re (dec := []) (goes_viewK' OM mixed (qs := []) (fuel := 8) [.lit, .flat, .flat] (by kernel_rfl) hok dec1)
theorem eE2 (xs : List Nat) (lx : Nat) (ops : List TOp) (m : Nat) (outs : List Int) (r0 d0 : List AV) (w0 : World) (dec0 dec1 : List Bool) (hok : (((List.all r0 AV.noOwn) && ((List.all d0 AV.noOwn) && true) && true)) = true) : Goes CM w0 191 (cL (cL (cR (cR (cR eC))))) (mk [1,2,5,6] [.snap (fltL xs) lx, .ptr 0 0, .slc 1 0 m, .slc 2 0 m] [⟨[.int .i64 2, .snap (opsL ops) m, .snap (intL outs) 2], 53⟩, ⟨r0, 24⟩, ⟨d0, 34⟩] dec0) Ex.normal (mk [1,2,5,6,7] [.snap (fltL xs) lx, .ptr 0 0, .slc 1 0 m, .slc 2 0 m, .int .i64 0] [ABlk.mk [.int .i64 2, .snap (opsL ops) m, .snap (intL outs) 2] 53, ABlk.mk r0 24, ABlk.mk d0 34] dec1) :=
  goes_re (dec := []) (goes_viewK' OM mixed (qs := []) (fuel := 8) [.lit, .flat, .flat] (by kernel_rfl) hok dec1)
theorem eI2_0 (xs : List Nat) (lx : Nat) (ops : List TOp) (m : Nat) (outs : List Int) (rs : List (Rg Nat)) (i : Nat) (a b : Int) (c : Nat) (w0 : World) (dec0 dec1 : List Bool) (hok : ((pb (SubP true [] [] 0 [.flt 0, .flt 0] [.flt 0, .flt 0]) && true && (pb (SubP true [(1027, [.flt 0, .flt 0])] [0, 1, 2] 0 (setL (rvC m rs) (0 + Int.toNat ↑i * 1) [.flt c]) (rvC m (rs ++ [stepR kF 0 2 xs rs (TOp.mk (0 : Int) a b c)]))) && (pb (SubP true [(1027, [.flt 0, .flt 0])] [0, 1, 2] 0 (setL (rdC 2 m rs) (0 + Int.toNat ↑i * 1) [.slc 1027 0 2]) (rdC 2 m (rs ++ [stepR kF 0 2 xs rs (TOp.mk (0 : Int) a b c)]))) && true) && (Nat.ble (0 + Int.toNat ↑i * 1 + 1) (List.length (rvC m rs)) && true && (decide ((0 : Int) ≤ (↑i : Int) ∧ (↑i : Int) < (↑m : Int)) && (Nat.ble (0 + Int.toNat ↑i * 1 + 1) (List.length (rdC 2 m rs)) && true && (decide ((0 : Int) ≤ (↑i : Int) ∧ (↑i : Int) < (↑m : Int)) && (pb (AV.agg [.int .i64 (AV.toInt (List.getD (opsL ops) (Int.toNat ↑i * 4) .undef)), .int .i64 (AV.toInt (List.getD (opsL ops) (Int.toNat ↑i * 4 + 1) .undef)), .int .i64 (AV.toInt (List.getD (opsL ops) (Int.toNat ↑i * 4 + 1 + 1) .undef)), .flt (AV.toFlt (List.getD (opsL ops) (Int.toNat ↑i * 4 + 1 + 1 + 1) .undef))] = AV.agg [.int .i64 0, .int .i64 a, .int .i64 b, .flt c]) && (Nat.ble (Int.toNat ↑i * 4 + 4) (List.length (opsL ops)) && etasOk [Leaf.i IntKind.i64, Leaf.i IntKind.i64, Leaf.i IntKind.i64, Leaf.f] (opsL ops) (Int.toNat ↑i * 4)) && (decide ((0 : Int) ≤ (↑i : Int) ∧ (↑i : Int) < (↑m : Int)) && (decide ((↑i : Int) < (↑m : Int)) && true)))))))))) = true) : Goes CM w0 191 (eBody) (mk [1,2,5,6,7] [.snap (fltL xs) lx, .ptr 0 0, .slc 1 0 m, .slc 2 0 m, .int .i64 (i : Int)] [⟨[.int .i64 2, .snap (opsL ops) m, .snap (intL outs) 2], 53⟩, ⟨rvC m rs, 24⟩, ⟨rdC 2 m rs, 34⟩] dec0) Ex.normal (mk [1,2,5,6,7] [.snap (fltL xs) lx, .ptr 0 0, .slc 1 0 m, .slc 2 0 m, .int .i64 (IntKind.wrap IntKind.i64 ((↑i : Int) + (1 : Int)))] [ABlk.mk [.int .i64 2, .snap (opsL ops) m, .snap (intL outs) 2] 53, ABlk.mk (rvC m (rs ++ [stepR kF 0 2 xs rs (TOp.mk (0 : Int) a b c)])) 24, ABlk.mk (rdC 2 m (rs ++ [stepR kF 0 2 xs rs (TOp.mk (0 : Int) a b c)])) 34] dec1) :=
  goes_re (dec := [true]) (goes_O (l := [(31, .agg [.int .i64 0, .int .i64 a, .int .i64 b, .flt c])]) (goes_viewK' (ctxO_ok OM _) mixed (qs := [24]) (fuel := 8) [.lit, .giv (rvC m (rs ++ [stepR kF 0 2 xs rs ⟨0, a, b, c⟩])) [], .giv (rdC 2 m (rs ++ [stepR kF 0 2 xs rs ⟨0, a, b, c⟩])) [1027], .frzGiv (fltL (stepR kF 0 2 xs rs ⟨0, a, b, c⟩).d) []] (by kernel_rfl) hok dec1))
theorem eI2_1 (xs : List Nat) (lx : Nat) (ops : List TOp) (m : Nat) (outs : List Int) (rs : List (Rg Nat)) (i : Nat) (a b : Int) (c : Nat) (w0 : World) (dec0 dec1 : List Bool) (hok : ((pb (SubP true [] [] 0 (setL [.flt 0, .flt 0] (0 + Int.toNat a * 1) [.flt 4607182418800017408]) [.flt (slopeR kF 0 rs (TOp.mk (1 : Int) a b c) (valR kF 0 xs rs (TOp.mk (1 : Int) a b c)) 0), .flt (slopeR kF 0 rs (TOp.mk (1 : Int) a b c) (valR kF 0 xs rs (TOp.mk (1 : Int) a b c)) 1)]) && true && (pb (SubP true [(1027, [.flt (slopeR kF 0 rs (TOp.mk (1 : Int) a b c) (valR kF 0 xs rs (TOp.mk (1 : Int) a b c)) 0), .flt (slopeR kF 0 rs (TOp.mk (1 : Int) a b c) (valR kF 0 xs rs (TOp.mk (1 : Int) a b c)) 1)])] [0, 1, 2] 0 (setL (rvC m rs) (0 + Int.toNat ↑i * 1) [.flt (List.getD xs (Int.toNat a) 0)]) (rvC m (rs ++ [stepR kF 0 2 xs rs (TOp.mk (1 : Int) a b c)]))) && (pb (SubP true [(1027, [.flt (slopeR kF 0 rs (TOp.mk (1 : Int) a b c) (valR kF 0 xs rs (TOp.mk (1 : Int) a b c)) 0), .flt (slopeR kF 0 rs (TOp.mk (1 : Int) a b c) (valR kF 0 xs rs (TOp.mk (1 : Int) a b c)) 1)])] [0, 1, 2] 0 (setL (rdC 2 m rs) (0 + Int.toNat ↑i * 1) [.slc 1027 0 2]) (rdC 2 m (rs ++ [stepR kF 0 2 xs rs (TOp.mk (1 : Int) a b c)]))) && true) && (Nat.ble (0 + Int.toNat a * 1 + 1) 2 && true && (decide ((0 : Int) ≤ a ∧ a < (2 : Int)) && (Nat.ble (0 + Int.toNat ↑i * 1 + 1) (List.length (rvC m rs)) && true && (decide ((0 : Int) ≤ (↑i : Int) ∧ (↑i : Int) < (↑m : Int)) && (pb (AV.flt (AV.toFlt (List.getD (fltL xs) (Int.toNat a * 1) .undef)) = AV.flt (List.getD xs (Int.toNat a) 0)) && (Nat.blt (Int.toNat a * 1) (List.length (fltL xs)) && AV.isFlt (List.getD (fltL xs) (Int.toNat a * 1) .undef)) && (decide ((0 : Int) ≤ a ∧ a < (↑lx : Int)) && (pb (List.getD (setL (rdC 2 m rs) (0 + Int.toNat ↑i * 1) [.slc 1027 0 2]) (0 + Int.toNat ↑i * 1) .undef = AV.slc 1027 0 2) && (Nat.blt (0 + Int.toNat ↑i * 1) (List.length (setL (rdC 2 m rs) (0 + Int.toNat ↑i * 1) [.slc 1027 0 2])) && true) && (decide ((0 : Int) ≤ (↑i : Int) ∧ (↑i : Int) < (↑m : Int)) && (Nat.ble (0 + Int.toNat ↑i * 1 + 1) (List.length (rdC 2 m rs)) && true && (decide ((0 : Int) ≤ (↑i : Int) ∧ (↑i : Int) < (↑m : Int)) && (pb (AV.agg [.int .i64 (AV.toInt (List.getD (opsL ops) (Int.toNat ↑i * 4) .undef)), .int .i64 (AV.toInt (List.getD (opsL ops) (Int.toNat ↑i * 4 + 1) .undef)), .int .i64 (AV.toInt (List.getD (opsL ops) (Int.toNat ↑i * 4 + 1 + 1) .undef)), .flt (AV.toFlt (List.getD (opsL ops) (Int.toNat ↑i * 4 + 1 + 1 + 1) .undef))] = AV.agg [.int .i64 1, .int .i64 a, .int .i64 b, .flt c]) && (Nat.ble (Int.toNat ↑i * 4 + 4) (List.length (opsL ops)) && etasOk [Leaf.i IntKind.i64, Leaf.i IntKind.i64, Leaf.i IntKind.i64, Leaf.f] (opsL ops) (Int.toNat ↑i * 4)) && (decide ((0 : Int) ≤ (↑i : Int) ∧ (↑i : Int) < (↑m : Int)) && (decide ((↑i : Int) < (↑m : Int)) && true)))))))))))))))) = true) : Goes CM w0 191 (eBody) (mk [1,2,5,6,7] [.snap (fltL xs) lx, .ptr 0 0, .slc 1 0 m, .slc 2 0 m, .int .i64 (i : Int)] [⟨[.int .i64 2, .snap (opsL ops) m, .snap (intL outs) 2], 53⟩, ⟨rvC m rs, 24⟩, ⟨rdC 2 m rs, 34⟩] dec0) Ex.normal (mk [1,2,5,6,7] [.snap (fltL xs) lx, .ptr 0 0, .slc 1 0 m, .slc 2 0 m, .int .i64 (IntKind.wrap IntKind.i64 ((↑i : Int) + (1 : Int)))] [ABlk.mk [.int .i64 2, .snap (opsL ops) m, .snap (intL outs) 2] 53, ABlk.mk (rvC m (rs ++ [stepR kF 0 2 xs rs (TOp.mk (1 : Int) a b c)])) 24, ABlk.mk (rdC 2 m (rs ++ [stepR kF 0 2 xs rs (TOp.mk (1 : Int) a b c)])) 34] dec1) :=
  goes_re (dec := [true]) (goes_O (l := [(31, .agg [.int .i64 1, .int .i64 a, .int .i64 b, .flt c]), (68, .slc 1027 0 2), (75, .flt (xs.getD a.toNat 0))]) (goes_viewK' (ctxO_ok OM _) mixed (qs := [24]) (fuel := 8) [.lit, .giv (rvC m (rs ++ [stepR kF 0 2 xs rs ⟨1, a, b, c⟩])) [], .giv (rdC 2 m (rs ++ [stepR kF 0 2 xs rs ⟨1, a, b, c⟩])) [1027], .frzGiv (fltL (stepR kF 0 2 xs rs ⟨1, a, b, c⟩).d) []] (by kernel_rfl) hok dec1))
theorem eI2_2 (xs : List Nat) (lx : Nat) (ops : List TOp) (m : Nat) (outs : List Int) (rs : List (Rg Nat)) (i : Nat) (a b : Int) (c : Nat) (w0 : World) (dec0 dec1 : List Bool) (hok : ((pb (SubP true [] [] 0 [.flt (fadd (AV.toFlt (List.getD (fltL (rAt 0 rs a).2) 0 .undef)) (AV.toFlt (List.getD (fltL (rAt 0 rs b).2) 0 .undef))), .flt (fadd (AV.toFlt (List.getD (fltL (rAt 0 rs a).2) 1 .undef)) (AV.toFlt (List.getD (fltL (rAt 0 rs b).2) 1 .undef)))] [.flt (slopeR kF 0 rs (TOp.mk (2 : Int) a b c) (valR kF 0 xs rs (TOp.mk (2 : Int) a b c)) 0), .flt (slopeR kF 0 rs (TOp.mk (2 : Int) a b c) (valR kF 0 xs rs (TOp.mk (2 : Int) a b c)) 1)]) && true && (pb (SubP true [(1027, [.flt (slopeR kF 0 rs (TOp.mk (2 : Int) a b c) (valR kF 0 xs rs (TOp.mk (2 : Int) a b c)) 0), .flt (slopeR kF 0 rs (TOp.mk (2 : Int) a b c) (valR kF 0 xs rs (TOp.mk (2 : Int) a b c)) 1)])] [0, 1, 2] 0 (setL (rvC m rs) (0 + Int.toNat ↑i * 1) [.flt (fadd (rAt 0 rs a).1 (rAt 0 rs b).1)]) (rvC m (rs ++ [stepR kF 0 2 xs rs (TOp.mk (2 : Int) a b c)]))) && (pb (SubP true [(1027, [.flt (slopeR kF 0 rs (TOp.mk (2 : Int) a b c) (valR kF 0 xs rs (TOp.mk (2 : Int) a b c)) 0), .flt (slopeR kF 0 rs (TOp.mk (2 : Int) a b c) (valR kF 0 xs rs (TOp.mk (2 : Int) a b c)) 1)])] [0, 1, 2] 0 (setL (rdC 2 m rs) (0 + Int.toNat ↑i * 1) [.slc 1027 0 2]) (rdC 2 m (rs ++ [stepR kF 0 2 xs rs (TOp.mk (2 : Int) a b c)]))) && true) && (Nat.blt 1 (List.length (fltL (rAt 0 rs b).2)) && AV.isFlt (List.getD (fltL (rAt 0 rs b).2) 1 .undef) && (pb (List.getD (setL (rdC 2 m rs) (0 + Int.toNat ↑i * 1) [.slc 1027 0 2]) (0 + Int.toNat b * 1) .undef = AV.snap (fltL (rAt 0 rs b).2) 2) && (Nat.blt (0 + Int.toNat b * 1) (List.length (setL (rdC 2 m rs) (0 + Int.toNat ↑i * 1) [.slc 1027 0 2])) && true) && (decide ((0 : Int) ≤ b ∧ b < (↑m : Int)) && (Nat.blt 1 (List.length (fltL (rAt 0 rs a).2)) && AV.isFlt (List.getD (fltL (rAt 0 rs a).2) 1 .undef) && (pb (List.getD (setL (rdC 2 m rs) (0 + Int.toNat ↑i * 1) [.slc 1027 0 2]) (0 + Int.toNat a * 1) .undef = AV.snap (fltL (rAt 0 rs a).2) 2) && (Nat.blt (0 + Int.toNat a * 1) (List.length (setL (rdC 2 m rs) (0 + Int.toNat ↑i * 1) [.slc 1027 0 2])) && true) && (decide ((0 : Int) ≤ a ∧ a < (↑m : Int)) && (pb (AV.flt (AV.toFlt (List.getD (setL (rvC m rs) (0 + Int.toNat ↑i * 1) [.flt (fadd (rAt 0 rs a).1 (rAt 0 rs b).1)]) (0 + Int.toNat ↑i * 1) .undef)) = AV.flt (valR kF 0 xs rs (TOp.mk (2 : Int) a b c))) && (Nat.blt (0 + Int.toNat ↑i * 1) (List.length (setL (rvC m rs) (0 + Int.toNat ↑i * 1) [.flt (fadd (rAt 0 rs a).1 (rAt 0 rs b).1)])) && AV.isFlt (List.getD (setL (rvC m rs) (0 + Int.toNat ↑i * 1) [.flt (fadd (rAt 0 rs a).1 (rAt 0 rs b).1)]) (0 + Int.toNat ↑i * 1) .undef)) && (decide ((0 : Int) ≤ (↑i : Int) ∧ (↑i : Int) < (↑m : Int)) && (pb (AV.flt (AV.toFlt (List.getD (setL (rvC m rs) (0 + Int.toNat ↑i * 1) [.flt (fadd (rAt 0 rs a).1 (rAt 0 rs b).1)]) (0 + Int.toNat b * 1) .undef)) = AV.flt (rAt 0 rs b).1) && (Nat.blt (0 + Int.toNat b * 1) (List.length (setL (rvC m rs) (0 + Int.toNat ↑i * 1) [.flt (fadd (rAt 0 rs a).1 (rAt 0 rs b).1)])) && AV.isFlt (List.getD (setL (rvC m rs) (0 + Int.toNat ↑i * 1) [.flt (fadd (rAt 0 rs a).1 (rAt 0 rs b).1)]) (0 + Int.toNat b * 1) .undef)) && (decide ((0 : Int) ≤ b ∧ b < (↑m : Int)) && (pb (AV.flt (AV.toFlt (List.getD (setL (rvC m rs) (0 + Int.toNat ↑i * 1) [.flt (fadd (rAt 0 rs a).1 (rAt 0 rs b).1)]) (0 + Int.toNat a * 1) .undef)) = AV.flt (rAt 0 rs a).1) && (Nat.blt (0 + Int.toNat a * 1) (List.length (setL (rvC m rs) (0 + Int.toNat ↑i * 1) [.flt (fadd (rAt 0 rs a).1 (rAt 0 rs b).1)])) && AV.isFlt (List.getD (setL (rvC m rs) (0 + Int.toNat ↑i * 1) [.flt (fadd (rAt 0 rs a).1 (rAt 0 rs b).1)]) (0 + Int.toNat a * 1) .undef)) && (decide ((0 : Int) ≤ a ∧ a < (↑m : Int)) && (pb (List.getD (setL (rdC 2 m rs) (0 + Int.toNat ↑i * 1) [.slc 1027 0 2]) (0 + Int.toNat ↑i * 1) .undef = AV.slc 1027 0 2) && (Nat.blt (0 + Int.toNat ↑i * 1) (List.length (setL (rdC 2 m rs) (0 + Int.toNat ↑i * 1) [.slc 1027 0 2])) && true) && (decide ((0 : Int) ≤ (↑i : Int) ∧ (↑i : Int) < (↑m : Int)) && (Nat.blt 0 (List.length (fltL (rAt 0 rs b).2)) && AV.isFlt (List.getD (fltL (rAt 0 rs b).2) 0 .undef) && (pb (List.getD (setL (rdC 2 m rs) (0 + Int.toNat ↑i * 1) [.slc 1027 0 2]) (0 + Int.toNat b * 1) .undef = AV.snap (fltL (rAt 0 rs b).2) 2) && (Nat.blt (0 + Int.toNat b * 1) (List.length (setL (rdC 2 m rs) (0 + Int.toNat ↑i * 1) [.slc 1027 0 2])) && true) && (decide ((0 : Int) ≤ b ∧ b < (↑m : Int)) && (Nat.blt 0 (List.length (fltL (rAt 0 rs a).2)) && AV.isFlt (List.getD (fltL (rAt 0 rs a).2) 0 .undef) && (pb (List.getD (setL (rdC 2 m rs) (0 + Int.toNat ↑i * 1) [.slc 1027 0 2]) (0 + Int.toNat a * 1) .undef = AV.snap (fltL (rAt 0 rs a).2) 2) && (Nat.blt (0 + Int.toNat a * 1) (List.length (setL (rdC 2 m rs) (0 + Int.toNat ↑i * 1) [.slc 1027 0 2])) && true) && (decide ((0 : Int) ≤ a ∧ a < (↑m : Int)) && (pb (AV.flt (AV.toFlt (List.getD (setL (rvC m rs) (0 + Int.toNat ↑i * 1) [.flt (fadd (rAt 0 rs a).1 (rAt 0 rs b).1)]) (0 + Int.toNat ↑i * 1) .undef)) = AV.flt (valR kF 0 xs rs (TOp.mk (2 : Int) a b c))) && (Nat.blt (0 + Int.toNat ↑i * 1) (List.length (setL (rvC m rs) (0 + Int.toNat ↑i * 1) [.flt (fadd (rAt 0 rs a).1 (rAt 0 rs b).1)])) && AV.isFlt (List.getD (setL (rvC m rs) (0 + Int.toNat ↑i * 1) [.flt (fadd (rAt 0 rs a).1 (rAt 0 rs b).1)]) (0 + Int.toNat ↑i * 1) .undef)) && (decide ((0 : Int) ≤ (↑i : Int) ∧ (↑i : Int) < (↑m : Int)) && (pb (AV.flt (AV.toFlt (List.getD (setL (rvC m rs) (0 + Int.toNat ↑i * 1) [.flt (fadd (rAt 0 rs a).1 (rAt 0 rs b).1)]) (0 + Int.toNat b * 1) .undef)) = AV.flt (rAt 0 rs b).1) && (Nat.blt (0 + Int.toNat b * 1) (List.length (setL (rvC m rs) (0 + Int.toNat ↑i * 1) [.flt (fadd (rAt 0 rs a).1 (rAt 0 rs b).1)])) && AV.isFlt (List.getD (setL (rvC m rs) (0 + Int.toNat ↑i * 1) [.flt (fadd (rAt 0 rs a).1 (rAt 0 rs b).1)]) (0 + Int.toNat b * 1) .undef)) && (decide ((0 : Int) ≤ b ∧ b < (↑m : Int)) && (pb (AV.flt (AV.toFlt (List.getD (setL (rvC m rs) (0 + Int.toNat ↑i * 1) [.flt (fadd (rAt 0 rs a).1 (rAt 0 rs b).1)]) (0 + Int.toNat a * 1) .undef)) = AV.flt (rAt 0 rs a).1) && (Nat.blt (0 + Int.toNat a * 1) (List.length (setL (rvC m rs) (0 + Int.toNat ↑i * 1) [.flt (fadd (rAt 0 rs a).1 (rAt 0 rs b).1)])) && AV.isFlt (List.getD (setL (rvC m rs) (0 + Int.toNat ↑i * 1) [.flt (fadd (rAt 0 rs a).1 (rAt 0 rs b).1)]) (0 + Int.toNat a * 1) .undef)) && (decide ((0 : Int) ≤ a ∧ a < (↑m : Int)) && (pb (List.getD (setL (rdC 2 m rs) (0 + Int.toNat ↑i * 1) [.slc 1027 0 2]) (0 + Int.toNat ↑i * 1) .undef = AV.slc 1027 0 2) && (Nat.blt (0 + Int.toNat ↑i * 1) (List.length (setL (rdC 2 m rs) (0 + Int.toNat ↑i * 1) [.slc 1027 0 2])) && true) && (decide ((0 : Int) ≤ (↑i : Int) ∧ (↑i : Int) < (↑m : Int)) && (Nat.ble (0 + Int.toNat ↑i * 1 + 1) (List.length (rvC m rs)) && true && (decide ((0 : Int) ≤ (↑i : Int) ∧ (↑i : Int) < (↑m : Int)) && (pb (AV.flt (AV.toFlt (List.getD (rvC m rs) (0 + Int.toNat b * 1) .undef)) = AV.flt (rAt 0 rs b).1) && (Nat.blt (0 + Int.toNat b * 1) (List.length (rvC m rs)) && AV.isFlt (List.getD (rvC m rs) (0 + Int.toNat b * 1) .undef)) && (decide ((0 : Int) ≤ b ∧ b < (↑m : Int)) && (pb (AV.flt (AV.toFlt (List.getD (rvC m rs) (0 + Int.toNat a * 1) .undef)) = AV.flt (rAt 0 rs a).1) && (Nat.blt (0 + Int.toNat a * 1) (List.length (rvC m rs)) && AV.isFlt (List.getD (rvC m rs) (0 + Int.toNat a * 1) .undef)) && (decide ((0 : Int) ≤ a ∧ a < (↑m : Int)) && (Nat.ble (0 + Int.toNat ↑i * 1 + 1) (List.length (rdC 2 m rs)) && true && (decide ((0 : Int) ≤ (↑i : Int) ∧ (↑i : Int) < (↑m : Int)) && (pb (AV.agg [.int .i64 (AV.toInt (List.getD (opsL ops) (Int.toNat ↑i * 4) .undef)), .int .i64 (AV.toInt (List.getD (opsL ops) (Int.toNat ↑i * 4 + 1) .undef)), .int .i64 (AV.toInt (List.getD (opsL ops) (Int.toNat ↑i * 4 + 1 + 1) .undef)), .flt (AV.toFlt (List.getD (opsL ops) (Int.toNat ↑i * 4 + 1 + 1 + 1) .undef))] = AV.agg [.int .i64 2, .int .i64 a, .int .i64 b, .flt c]) && (Nat.ble (Int.toNat ↑i * 4 + 4) (List.length (opsL ops)) && etasOk [Leaf.i IntKind.i64, Leaf.i IntKind.i64, Leaf.i IntKind.i64, Leaf.f] (opsL ops) (Int.toNat ↑i * 4)) && (decide ((0 : Int) ≤ (↑i : Int) ∧ (↑i : Int) < (↑m : Int)) && (decide ((↑i : Int) < (↑m : Int)) && true)))))))))))))))))))))))))))))))))))))))))) = true) : Goes CM w0 191 (eBody) (mk [1,2,5,6,7] [.snap (fltL xs) lx, .ptr 0 0, .slc 1 0 m, .slc 2 0 m, .int .i64 (i : Int)] [⟨[.int .i64 2, .snap (opsL ops) m, .snap (intL outs) 2], 53⟩, ⟨rvC m rs, 24⟩, ⟨rdC 2 m rs, 34⟩] dec0) Ex.normal (mk [1,2,5,6,7] [.snap (fltL xs) lx, .ptr 0 0, .slc 1 0 m, .slc 2 0 m, .int .i64 (IntKind.wrap IntKind.i64 ((↑i : Int) + (1 : Int)))] [ABlk.mk [.int .i64 2, .snap (opsL ops) m, .snap (intL outs) 2] 53, ABlk.mk (rvC m (rs ++ [stepR kF 0 2 xs rs (TOp.mk (2 : Int) a b c)])) 24, ABlk.mk (rdC 2 m (rs ++ [stepR kF 0 2 xs rs (TOp.mk (2 : Int) a b c)])) 34] dec1) :=
  goes_re (dec := [true]) (goes_O (l := [(31, .agg [.int .i64 2, .int .i64 a, .int .i64 b, .flt c]), (135, .slc 1027 0 2), (143, .flt (rAt 0 rs a).v), (148, .flt (rAt 0 rs b).v), (152, .flt (valR kF 0 xs rs ⟨2, a, b, c⟩)), (157, .snap (fltL (rAt 0 rs a).d) 2), (165, .snap (fltL (rAt 0 rs b).d) 2), (86, .flt (rAt 0 rs a).v), (91, .flt (rAt 0 rs b).v)]) (goes_viewK' (ctxO_ok OM _) mixed (qs := [24]) (fuel := 8) [.lit, .giv (rvC m (rs ++ [stepR kF 0 2 xs rs ⟨2, a, b, c⟩])) [], .giv (rdC 2 m (rs ++ [stepR kF 0 2 xs rs ⟨2, a, b, c⟩])) [1027], .frzGiv (fltL (stepR kF 0 2 xs rs ⟨2, a, b, c⟩).d) []] (by kernel_rfl) hok dec1))
theorem eI2_3 (xs : List Nat) (lx : Nat) (ops : List TOp) (m : Nat) (outs : List Int) (rs : List (Rg Nat)) (i : Nat) (a b : Int) (c : Nat) (w0 : World) (dec0 dec1 : List Bool) (hok : ((pb (SubP true [] [] 0 [.flt (fsub (AV.toFlt (List.getD (fltL (rAt 0 rs a).2) 0 .undef)) (AV.toFlt (List.getD (fltL (rAt 0 rs b).2) 0 .undef))), .flt (fsub (AV.toFlt (List.getD (fltL (rAt 0 rs a).2) 1 .undef)) (AV.toFlt (List.getD (fltL (rAt 0 rs b).2) 1 .undef)))] [.flt (slopeR kF 0 rs (TOp.mk (3 : Int) a b c) (valR kF 0 xs rs (TOp.mk (3 : Int) a b c)) 0), .flt (slopeR kF 0 rs (TOp.mk (3 : Int) a b c) (valR kF 0 xs rs (TOp.mk (3 : Int) a b c)) 1)]) && true && (pb (SubP true [(1027, [.flt (slopeR kF 0 rs (TOp.mk (3 : Int) a b c) (valR kF 0 xs rs (TOp.mk (3 : Int) a b c)) 0), .flt (slopeR kF 0 rs (TOp.mk (3 : Int) a b c) (valR kF 0 xs rs (TOp.mk (3 : Int) a b c)) 1)])] [0, 1, 2] 0 (setL (rvC m rs) (0 + Int.toNat ↑i * 1) [.flt (fsub (rAt 0 rs a).1 (rAt 0 rs b).1)]) (rvC m (rs ++ [stepR kF 0 2 xs rs (TOp.mk (3 : Int) a b c)]))) && (pb (SubP true [(1027, [.flt (slopeR kF 0 rs (TOp.mk (3 : Int) a b c) (valR kF 0 xs rs (TOp.mk (3 : Int) a b c)) 0), .flt (slopeR kF 0 rs (TOp.mk (3 : Int) a b c) (valR kF 0 xs rs (TOp.mk (3 : Int) a b c)) 1)])] [0, 1, 2] 0 (setL (rdC 2 m rs) (0 + Int.toNat ↑i * 1) [.slc 1027 0 2]) (rdC 2 m (rs ++ [stepR kF 0 2 xs rs (TOp.mk (3 : Int) a b c)]))) && true) && (Nat.blt 1 (List.length (fltL (rAt 0 rs b).2)) && AV.isFlt (List.getD (fltL (rAt 0 rs b).2) 1 .undef) && (pb (List.getD (setL (rdC 2 m rs) (0 + Int.toNat ↑i * 1) [.slc 1027 0 2]) (0 + Int.toNat b * 1) .undef = AV.snap (fltL (rAt 0 rs b).2) 2) && (Nat.blt (0 + Int.toNat b * 1) (List.length (setL (rdC 2 m rs) (0 + Int.toNat ↑i * 1) [.slc 1027 0 2])) && true) && (decide ((0 : Int) ≤ b ∧ b < (↑m : Int)) && (Nat.blt 1 (List.length (fltL (rAt 0 rs a).2)) && AV.isFlt (List.getD (fltL (rAt 0 rs a).2) 1 .undef) && (pb (List.getD (setL (rdC 2 m rs) (0 + Int.toNat ↑i * 1) [.slc 1027 0 2]) (0 + Int.toNat a * 1) .undef = AV.snap (fltL (rAt 0 rs a).2) 2) && (Nat.blt (0 + Int.toNat a * 1) (List.length (setL (rdC 2 m rs) (0 + Int.toNat ↑i * 1) [.slc 1027 0 2])) && true) && (decide ((0 : Int) ≤ a ∧ a < (↑m : Int)) && (pb (AV.flt (AV.toFlt (List.getD (setL (rvC m rs) (0 + Int.toNat ↑i * 1) [.flt (fsub (rAt 0 rs a).1 (rAt 0 rs b).1)]) (0 + Int.toNat ↑i * 1) .undef)) = AV.flt (valR kF 0 xs rs (TOp.mk (3 : Int) a b c))) && (Nat.blt (0 + Int.toNat ↑i * 1) (List.length (setL (rvC m rs) (0 + Int.toNat ↑i * 1) [.flt (fsub (rAt 0 rs a).1 (rAt 0 rs b).1)])) && AV.isFlt (List.getD (setL (rvC m rs) (0 + Int.toNat ↑i * 1) [.flt (fsub (rAt 0 rs a).1 (rAt 0 rs b).1)]) (0 + Int.toNat ↑i * 1) .undef)) && (decide ((0 : Int) ≤ (↑i : Int) ∧ (↑i : Int) < (↑m : Int)) && (pb (AV.flt (AV.toFlt (List.getD (setL (rvC m rs) (0 + Int.toNat ↑i * 1) [.flt (fsub (rAt 0 rs a).1 (rAt 0 rs b).1)]) (0 + Int.toNat b * 1) .undef)) = AV.flt (rAt 0 rs b).1) && (Nat.blt (0 + Int.toNat b * 1) (List.length (setL (rvC m rs) (0 + Int.toNat ↑i * 1) [.flt (fsub (rAt 0 rs a).1 (rAt 0 rs b).1)])) && AV.isFlt (List.getD (setL (rvC m rs) (0 + Int.toNat ↑i * 1) [.flt (fsub (rAt 0 rs a).1 (rAt 0 rs b).1)]) (0 + Int.toNat b * 1) .undef)) && (decide ((0 : Int) ≤ b ∧ b < (↑m : Int)) && (pb (AV.flt (AV.toFlt (List.getD (setL (rvC m rs) (0 + Int.toNat ↑i * 1) [.flt (fsub (rAt 0 rs a).1 (rAt 0 rs b).1)]) (0 + Int.toNat a * 1) .undef)) = AV.flt (rAt 0 rs a).1) && (Nat.blt (0 + Int.toNat a * 1) (List.length (setL (rvC m rs) (0 + Int.toNat ↑i * 1) [.flt (fsub (rAt 0 rs a).1 (rAt 0 rs b).1)])) && AV.isFlt (List.getD (setL (rvC m rs) (0 + Int.toNat ↑i * 1) [.flt (fsub (rAt 0 rs a).1 (rAt 0 rs b).1)]) (0 + Int.toNat a * 1) .undef)) && (decide ((0 : Int) ≤ a ∧ a < (↑m : Int)) && (pb (List.getD (setL (rdC 2 m rs) (0 + Int.toNat ↑i * 1) [.slc 1027 0 2]) (0 + Int.toNat ↑i * 1) .undef = AV.slc 1027 0 2) && (Nat.blt (0 + Int.toNat ↑i * 1) (List.length (setL (rdC 2 m rs) (0 + Int.toNat ↑i * 1) [.slc 1027 0 2])) && true) && (decide ((0 : Int) ≤ (↑i : Int) ∧ (↑i : Int) < (↑m : Int)) && (Nat.blt 0 (List.length (fltL (rAt 0 rs b).2)) && AV.isFlt (List.getD (fltL (rAt 0 rs b).2) 0 .undef) && (pb (List.getD (setL (rdC 2 m rs) (0 + Int.toNat ↑i * 1) [.slc 1027 0 2]) (0 + Int.toNat b * 1) .undef = AV.snap (fltL (rAt 0 rs b).2) 2) && (Nat.blt (0 + Int.toNat b * 1) (List.length (setL (rdC 2 m rs) (0 + Int.toNat ↑i * 1) [.slc 1027 0 2])) && true) && (decide ((0 : Int) ≤ b ∧ b < (↑m : Int)) && (Nat.blt 0 (List.length (fltL (rAt 0 rs a).2)) && AV.isFlt (List.getD (fltL (rAt 0 rs a).2) 0 .undef) && (pb (List.getD (setL (rdC 2 m rs) (0 + Int.toNat ↑i * 1) [.slc 1027 0 2]) (0 + Int.toNat a * 1) .undef = AV.snap (fltL (rAt 0 rs a).2) 2) && (Nat.blt (0 + Int.toNat a * 1) (List.length (setL (rdC 2 m rs) (0 + Int.toNat ↑i * 1) [.slc 1027 0 2])) && true) && (decide ((0 : Int) ≤ a ∧ a < (↑m : Int)) && (pb (AV.flt (AV.toFlt (List.getD (setL (rvC m rs) (0 + Int.toNat ↑i * 1) [.flt (fsub (rAt 0 rs a).1 (rAt 0 rs b).1)]) (0 + Int.toNat ↑i * 1) .undef)) = AV.flt (valR kF 0 xs rs (TOp.mk (3 : Int) a b c))) && (Nat.blt (0 + Int.toNat ↑i * 1) (List.length (setL (rvC m rs) (0 + Int.toNat ↑i * 1) [.flt (fsub (rAt 0 rs a).1 (rAt 0 rs b).1)])) && AV.isFlt (List.getD (setL (rvC m rs) (0 + Int.toNat ↑i * 1) [.flt (fsub (rAt 0 rs a).1 (rAt 0 rs b).1)]) (0 + Int.toNat ↑i * 1) .undef)) && (decide ((0 : Int) ≤ (↑i : Int) ∧ (↑i : Int) < (↑m : Int)) && (pb (AV.flt (AV.toFlt (List.getD (setL (rvC m rs) (0 + Int.toNat ↑i * 1) [.flt (fsub (rAt 0 rs a).1 (rAt 0 rs b).1)]) (0 + Int.toNat b * 1) .undef)) = AV.flt (rAt 0 rs b).1) && (Nat.blt (0 + Int.toNat b * 1) (List.length (setL (rvC m rs) (0 + Int.toNat ↑i * 1) [.flt (fsub (rAt 0 rs a).1 (rAt 0 rs b).1)])) && AV.isFlt (List.getD (setL (rvC m rs) (0 + Int.toNat ↑i * 1) [.flt (fsub (rAt 0 rs a).1 (rAt 0 rs b).1)]) (0 + Int.toNat b * 1) .undef)) && (decide ((0 : Int) ≤ b ∧ b < (↑m : Int)) && (pb (AV.flt (AV.toFlt (List.getD (setL (rvC m rs) (0 + Int.toNat ↑i * 1) [.flt (fsub (rAt 0 rs a).1 (rAt 0 rs b).1)]) (0 + Int.toNat a * 1) .undef)) = AV.flt (rAt 0 rs a).1) && (Nat.blt (0 + Int.toNat a * 1) (List.length (setL (rvC m rs) (0 + Int.toNat ↑i * 1) [.flt (fsub (rAt 0 rs a).1 (rAt 0 rs b).1)])) && AV.isFlt (List.getD (setL (rvC m rs) (0 + Int.toNat ↑i * 1) [.flt (fsub (rAt 0 rs a).1 (rAt 0 rs b).1)]) (0 + Int.toNat a * 1) .undef)) && (decide ((0 : Int) ≤ a ∧ a < (↑m : Int)) && (pb (List.getD (setL (rdC 2 m rs) (0 + Int.toNat ↑i * 1) [.slc 1027 0 2]) (0 + Int.toNat ↑i * 1) .undef = AV.slc 1027 0 2) && (Nat.blt (0 + Int.toNat ↑i * 1) (List.length (setL (rdC 2 m rs) (0 + Int.toNat ↑i * 1) [.slc 1027 0 2])) && true) && (decide ((0 : Int) ≤ (↑i : Int) ∧ (↑i : Int) < (↑m : Int)) && (Nat.ble (0 + Int.toNat ↑i * 1 + 1) (List.length (rvC m rs)) && true && (decide ((0 : Int) ≤ (↑i : Int) ∧ (↑i : Int) < (↑m : Int)) && (pb (AV.flt (AV.toFlt (List.getD (rvC m rs) (0 + Int.toNat b * 1) .undef)) = AV.flt (rAt 0 rs b).1) && (Nat.blt (0 + Int.toNat b * 1) (List.length (rvC m rs)) && AV.isFlt (List.getD (rvC m rs) (0 + Int.toNat b * 1) .undef)) && (decide ((0 : Int) ≤ b ∧ b < (↑m : Int)) && (pb (AV.flt (AV.toFlt (List.getD (rvC m rs) (0 + Int.toNat a * 1) .undef)) = AV.flt (rAt 0 rs a).1) && (Nat.blt (0 + Int.toNat a * 1) (List.length (rvC m rs)) && AV.isFlt (List.getD (rvC m rs) (0 + Int.toNat a * 1) .undef)) && (decide ((0 : Int) ≤ a ∧ a < (↑m : Int)) && (Nat.ble (0 + Int.toNat ↑i * 1 + 1) (List.length (rdC 2 m rs)) && true && (decide ((0 : Int) ≤ (↑i : Int) ∧ (↑i : Int) < (↑m : Int)) && (pb (AV.agg [.int .i64 (AV.toInt (List.getD (opsL ops) (Int.toNat ↑i * 4) .undef)), .int .i64 (AV.toInt (List.getD (opsL ops) (Int.toNat ↑i * 4 + 1) .undef)), .int .i64 (AV.toInt (List.getD (opsL ops) (Int.toNat ↑i * 4 + 1 + 1) .undef)), .flt (AV.toFlt (List.getD (opsL ops) (Int.toNat ↑i * 4 + 1 + 1 + 1) .undef))] = AV.agg [.int .i64 3, .int .i64 a, .int .i64 b, .flt c]) && (Nat.ble (Int.toNat ↑i * 4 + 4) (List.length (opsL ops)) && etasOk [Leaf.i IntKind.i64, Leaf.i IntKind.i64, Leaf.i IntKind.i64, Leaf.f] (opsL ops) (Int.toNat ↑i * 4)) && (decide ((0 : Int) ≤ (↑i : Int) ∧ (↑i : Int) < (↑m : Int)) && (decide ((↑i : Int) < (↑m : Int)) && true)))))))))))))))))))))))))))))))))))))))))) = true) : Goes CM w0 191 (eBody) (mk [1,2,5,6,7] [.snap (fltL xs) lx, .ptr 0 0, .slc 1 0 m, .slc 2 0 m, .int .i64 (i : Int)] [⟨[.int .i64 2, .snap (opsL ops) m, .snap (intL outs) 2], 53⟩, ⟨rvC m rs, 24⟩, ⟨rdC 2 m rs, 34⟩] dec0) Ex.normal (mk [1,2,5,6,7] [.snap (fltL xs) lx, .ptr 0 0, .slc 1 0 m, .slc 2 0 m, .int .i64 (IntKind.wrap IntKind.i64 ((↑i : Int) + (1 : Int)))] [ABlk.mk [.int .i64 2, .snap (opsL ops) m, .snap (intL outs) 2] 53, ABlk.mk (rvC m (rs ++ [stepR kF 0 2 xs rs (TOp.mk (3 : Int) a b c)])) 24, ABlk.mk (rdC 2 m (rs ++ [stepR kF 0 2 xs rs (TOp.mk (3 : Int) a b c)])) 34] dec1) :=
  goes_re (dec := [true]) (goes_O (l := [(31, .agg [.int .i64 3, .int .i64 a, .int .i64 b, .flt c]), (135, .slc 1027 0 2), (143, .flt (rAt 0 rs a).v), (148, .flt (rAt 0 rs b).v), (152, .flt (valR kF 0 xs rs ⟨3, a, b, c⟩)), (157, .snap (fltL (rAt 0 rs a).d) 2), (165, .snap (fltL (rAt 0 rs b).d) 2), (102, .flt (rAt 0 rs a).v), (107, .flt (rAt 0 rs b).v)]) (goes_viewK' (ctxO_ok OM _) mixed (qs := [24]) (fuel := 8) [.lit, .giv (rvC m (rs ++ [stepR kF 0 2 xs rs ⟨3, a, b, c⟩])) [], .giv (rdC 2 m (rs ++ [stepR kF 0 2 xs rs ⟨3, a, b, c⟩])) [1027], .frzGiv (fltL (stepR kF 0 2 xs rs ⟨3, a, b, c⟩).d) []] (by kernel_rfl) hok dec1))
theorem eI2_4 (xs : List Nat) (lx : Nat) (ops : List TOp) (m : Nat) (outs : List Int) (rs : List (Rg Nat)) (i : Nat) (a b : Int) (c : Nat) (w0 : World) (dec0 dec1 : List Bool) (hok : ((pb (SubP true [] [] 0 [.flt (fadd (fmul (AV.toFlt (List.getD (fltL (rAt 0 rs a).2) 0 .undef)) (rAt 0 rs b).1) (fmul (rAt 0 rs a).1 (AV.toFlt (List.getD (fltL (rAt 0 rs b).2) 0 .undef)))), .flt (fadd (fmul (AV.toFlt (List.getD (fltL (rAt 0 rs a).2) 1 .undef)) (rAt 0 rs b).1) (fmul (rAt 0 rs a).1 (AV.toFlt (List.getD (fltL (rAt 0 rs b).2) 1 .undef))))] [.flt (slopeR kF 0 rs (TOp.mk (4 : Int) a b c) (valR kF 0 xs rs (TOp.mk (4 : Int) a b c)) 0), .flt (slopeR kF 0 rs (TOp.mk (4 : Int) a b c) (valR kF 0 xs rs (TOp.mk (4 : Int) a b c)) 1)]) && true && (pb (SubP true [(1027, [.flt (slopeR kF 0 rs (TOp.mk (4 : Int) a b c) (valR kF 0 xs rs (TOp.mk (4 : Int) a b c)) 0), .flt (slopeR kF 0 rs (TOp.mk (4 : Int) a b c) (valR kF 0 xs rs (TOp.mk (4 : Int) a b c)) 1)])] [0, 1, 2] 0 (setL (rvC m rs) (0 + Int.toNat ↑i * 1) [.flt (fmul (rAt 0 rs a).1 (rAt 0 rs b).1)]) (rvC m (rs ++ [stepR kF 0 2 xs rs (TOp.mk (4 : Int) a b c)]))) && (pb (SubP true [(1027, [.flt (slopeR kF 0 rs (TOp.mk (4 : Int) a b c) (valR kF 0 xs rs (TOp.mk (4 : Int) a b c)) 0), .flt (slopeR kF 0 rs (TOp.mk (4 : Int) a b c) (valR kF 0 xs rs (TOp.mk (4 : Int) a b c)) 1)])] [0, 1, 2] 0 (setL (rdC 2 m rs) (0 + Int.toNat ↑i * 1) [.slc 1027 0 2]) (rdC 2 m (rs ++ [stepR kF 0 2 xs rs (TOp.mk (4 : Int) a b c)]))) && true) && (Nat.blt 1 (List.length (fltL (rAt 0 rs b).2)) && AV.isFlt (List.getD (fltL (rAt 0 rs b).2) 1 .undef) && (pb (List.getD (setL (rdC 2 m rs) (0 + Int.toNat ↑i * 1) [.slc 1027 0 2]) (0 + Int.toNat b * 1) .undef = AV.snap (fltL (rAt 0 rs b).2) 2) && (Nat.blt (0 + Int.toNat b * 1) (List.length (setL (rdC 2 m rs) (0 + Int.toNat ↑i * 1) [.slc 1027 0 2])) && true) && (decide ((0 : Int) ≤ b ∧ b < (↑m : Int)) && (Nat.blt 1 (List.length (fltL (rAt 0 rs a).2)) && AV.isFlt (List.getD (fltL (rAt 0 rs a).2) 1 .undef) && (pb (List.getD (setL (rdC 2 m rs) (0 + Int.toNat ↑i * 1) [.slc 1027 0 2]) (0 + Int.toNat a * 1) .undef = AV.snap (fltL (rAt 0 rs a).2) 2) && (Nat.blt (0 + Int.toNat a * 1) (List.length (setL (rdC 2 m rs) (0 + Int.toNat ↑i * 1) [.slc 1027 0 2])) && true) && (decide ((0 : Int) ≤ a ∧ a < (↑m : Int)) && (pb (AV.flt (AV.toFlt (List.getD (setL (rvC m rs) (0 + Int.toNat ↑i * 1) [.flt (fmul (rAt 0 rs a).1 (rAt 0 rs b).1)]) (0 + Int.toNat ↑i * 1) .undef)) = AV.flt (valR kF 0 xs rs (TOp.mk (4 : Int) a b c))) && (Nat.blt (0 + Int.toNat ↑i * 1) (List.length (setL (rvC m rs) (0 + Int.toNat ↑i * 1) [.flt (fmul (rAt 0 rs a).1 (rAt 0 rs b).1)])) && AV.isFlt (List.getD (setL (rvC m rs) (0 + Int.toNat ↑i * 1) [.flt (fmul (rAt 0 rs a).1 (rAt 0 rs b).1)]) (0 + Int.toNat ↑i * 1) .undef)) && (decide ((0 : Int) ≤ (↑i : Int) ∧ (↑i : Int) < (↑m : Int)) && (pb (AV.flt (AV.toFlt (List.getD (setL (rvC m rs) (0 + Int.toNat ↑i * 1) [.flt (fmul (rAt 0 rs a).1 (rAt 0 rs b).1)]) (0 + Int.toNat b * 1) .undef)) = AV.flt (rAt 0 rs b).1) && (Nat.blt (0 + Int.toNat b * 1) (List.length (setL (rvC m rs) (0 + Int.toNat ↑i * 1) [.flt (fmul (rAt 0 rs a).1 (rAt 0 rs b).1)])) && AV.isFlt (List.getD (setL (rvC m rs) (0 + Int.toNat ↑i * 1) [.flt (fmul (rAt 0 rs a).1 (rAt 0 rs b).1)]) (0 + Int.toNat b * 1) .undef)) && (decide ((0 : Int) ≤ b ∧ b < (↑m : Int)) && (pb (AV.flt (AV.toFlt (List.getD (setL (rvC m rs) (0 + Int.toNat ↑i * 1) [.flt (fmul (rAt 0 rs a).1 (rAt 0 rs b).1)]) (0 + Int.toNat a * 1) .undef)) = AV.flt (rAt 0 rs a).1) && (Nat.blt (0 + Int.toNat a * 1) (List.length (setL (rvC m rs) (0 + Int.toNat ↑i * 1) [.flt (fmul (rAt 0 rs a).1 (rAt 0 rs b).1)])) && AV.isFlt (List.getD (setL (rvC m rs) (0 + Int.toNat ↑i * 1) [.flt (fmul (rAt 0 rs a).1 (rAt 0 rs b).1)]) (0 + Int.toNat a * 1) .undef)) && (decide ((0 : Int) ≤ a ∧ a < (↑m : Int)) && (pb (List.getD (setL (rdC 2 m rs) (0 + Int.toNat ↑i * 1) [.slc 1027 0 2]) (0 + Int.toNat ↑i * 1) .undef = AV.slc 1027 0 2) && (Nat.blt (0 + Int.toNat ↑i * 1) (List.length (setL (rdC 2 m rs) (0 + Int.toNat ↑i * 1) [.slc 1027 0 2])) && true) && (decide ((0 : Int) ≤ (↑i : Int) ∧ (↑i : Int) < (↑m : Int)) && (Nat.blt 0 (List.length (fltL (rAt 0 rs b).2)) && AV.isFlt (List.getD (fltL (rAt 0 rs b).2) 0 .undef) && (pb (List.getD (setL (rdC 2 m rs) (0 + Int.toNat ↑i * 1) [.slc 1027 0 2]) (0 + Int.toNat b * 1) .undef = AV.snap (fltL (rAt 0 rs b).2) 2) && (Nat.blt (0 + Int.toNat b * 1) (List.length (setL (rdC 2 m rs) (0 + Int.toNat ↑i * 1) [.slc 1027 0 2])) && true) && (decide ((0 : Int) ≤ b ∧ b < (↑m : Int)) && (Nat.blt 0 (List.length (fltL (rAt 0 rs a).2)) && AV.isFlt (List.getD (fltL (rAt 0 rs a).2) 0 .undef) && (pb (List.getD (setL (rdC 2 m rs) (0 + Int.toNat ↑i * 1) [.slc 1027 0 2]) (0 + Int.toNat a * 1) .undef = AV.snap (fltL (rAt 0 rs a).2) 2) && (Nat.blt (0 + Int.toNat a * 1) (List.length (setL (rdC 2 m rs) (0 + Int.toNat ↑i * 1) [.slc 1027 0 2])) && true) && (decide ((0 : Int) ≤ a ∧ a < (↑m : Int)) && (pb (AV.flt (AV.toFlt (List.getD (setL (rvC m rs) (0 + Int.toNat ↑i * 1) [.flt (fmul (rAt 0 rs a).1 (rAt 0 rs b).1)]) (0 + Int.toNat ↑i * 1) .undef)) = AV.flt (valR kF 0 xs rs (TOp.mk (4 : Int) a b c))) && (Nat.blt (0 + Int.toNat ↑i * 1) (List.length (setL (rvC m rs) (0 + Int.toNat ↑i * 1) [.flt (fmul (rAt 0 rs a).1 (rAt 0 rs b).1)])) && AV.isFlt (List.getD (setL (rvC m rs) (0 + Int.toNat ↑i * 1) [.flt (fmul (rAt 0 rs a).1 (rAt 0 rs b).1)]) (0 + Int.toNat ↑i * 1) .undef)) && (decide ((0 : Int) ≤ (↑i : Int) ∧ (↑i : Int) < (↑m : Int)) && (pb (AV.flt (AV.toFlt (List.getD (setL (rvC m rs) (0 + Int.toNat ↑i * 1) [.flt (fmul (rAt 0 rs a).1 (rAt 0 rs b).1)]) (0 + Int.toNat b * 1) .undef)) = AV.flt (rAt 0 rs b).1) && (Nat.blt (0 + Int.toNat b * 1) (List.length (setL (rvC m rs) (0 + Int.toNat ↑i * 1) [.flt (fmul (rAt 0 rs a).1 (rAt 0 rs b).1)])) && AV.isFlt (List.getD (setL (rvC m rs) (0 + Int.toNat ↑i * 1) [.flt (fmul (rAt 0 rs a).1 (rAt 0 rs b).1)]) (0 + Int.toNat b * 1) .undef)) && (decide ((0 : Int) ≤ b ∧ b < (↑m : Int)) && (pb (AV.flt (AV.toFlt (List.getD (setL (rvC m rs) (0 + Int.toNat ↑i * 1) [.flt (fmul (rAt 0 rs a).1 (rAt 0 rs b).1)]) (0 + Int.toNat a * 1) .undef)) = AV.flt (rAt 0 rs a).1) && (Nat.blt (0 + Int.toNat a * 1) (List.length (setL (rvC m rs) (0 + Int.toNat ↑i * 1) [.flt (fmul (rAt 0 rs a).1 (rAt 0 rs b).1)])) && AV.isFlt (List.getD (setL (rvC m rs) (0 + Int.toNat ↑i * 1) [.flt (fmul (rAt 0 rs a).1 (rAt 0 rs b).1)]) (0 + Int.toNat a * 1) .undef)) && (decide ((0 : Int) ≤ a ∧ a < (↑m : Int)) && (pb (List.getD (setL (rdC 2 m rs) (0 + Int.toNat ↑i * 1) [.slc 1027 0 2]) (0 + Int.toNat ↑i * 1) .undef = AV.slc 1027 0 2) && (Nat.blt (0 + Int.toNat ↑i * 1) (List.length (setL (rdC 2 m rs) (0 + Int.toNat ↑i * 1) [.slc 1027 0 2])) && true) && (decide ((0 : Int) ≤ (↑i : Int) ∧ (↑i : Int) < (↑m : Int)) && (Nat.ble (0 + Int.toNat ↑i * 1 + 1) (List.length (rvC m rs)) && true && (decide ((0 : Int) ≤ (↑i : Int) ∧ (↑i : Int) < (↑m : Int)) && (pb (AV.flt (AV.toFlt (List.getD (rvC m rs) (0 + Int.toNat b * 1) .undef)) = AV.flt (rAt 0 rs b).1) && (Nat.blt (0 + Int.toNat b * 1) (List.length (rvC m rs)) && AV.isFlt (List.getD (rvC m rs) (0 + Int.toNat b * 1) .undef)) && (decide ((0 : Int) ≤ b ∧ b < (↑m : Int)) && (pb (AV.flt (AV.toFlt (List.getD (rvC m rs) (0 + Int.toNat a * 1) .undef)) = AV.flt (rAt 0 rs a).1) && (Nat.blt (0 + Int.toNat a * 1) (List.length (rvC m rs)) && AV.isFlt (List.getD (rvC m rs) (0 + Int.toNat a * 1) .undef)) && (decide ((0 : Int) ≤ a ∧ a < (↑m : Int)) && (Nat.ble (0 + Int.toNat ↑i * 1 + 1) (List.length (rdC 2 m rs)) && true && (decide ((0 : Int) ≤ (↑i : Int) ∧ (↑i : Int) < (↑m : Int)) && (pb (AV.agg [.int .i64 (AV.toInt (List.getD (opsL ops) (Int.toNat ↑i * 4) .undef)), .int .i64 (AV.toInt (List.getD (opsL ops) (Int.toNat ↑i * 4 + 1) .undef)), .int .i64 (AV.toInt (List.getD (opsL ops) (Int.toNat ↑i * 4 + 1 + 1) .undef)), .flt (AV.toFlt (List.getD (opsL ops) (Int.toNat ↑i * 4 + 1 + 1 + 1) .undef))] = AV.agg [.int .i64 4, .int .i64 a, .int .i64 b, .flt c]) && (Nat.ble (Int.toNat ↑i * 4 + 4) (List.length (opsL ops)) && etasOk [Leaf.i IntKind.i64, Leaf.i IntKind.i64, Leaf.i IntKind.i64, Leaf.f] (opsL ops) (Int.toNat ↑i * 4)) && (decide ((0 : Int) ≤ (↑i : Int) ∧ (↑i : Int) < (↑m : Int)) && (decide ((↑i : Int) < (↑m : Int)) && true)))))))))))))))))))))))))))))))))))))))))) = true) : Goes CM w0 191 (eBody) (mk [1,2,5,6,7] [.snap (fltL xs) lx, .ptr 0 0, .slc 1 0 m, .slc 2 0 m, .int .i64 (i : Int)] [⟨[.int .i64 2, .snap (opsL ops) m, .snap (intL outs) 2], 53⟩, ⟨rvC m rs, 24⟩, ⟨rdC 2 m rs, 34⟩] dec0) Ex.normal (mk [1,2,5,6,7] [.snap (fltL xs) lx, .ptr 0 0, .slc 1 0 m, .slc 2 0 m, .int .i64 (IntKind.wrap IntKind.i64 ((↑i : Int) + (1 : Int)))] [ABlk.mk [.int .i64 2, .snap (opsL ops) m, .snap (intL outs) 2] 53, ABlk.mk (rvC m (rs ++ [stepR kF 0 2 xs rs (TOp.mk (4 : Int) a b c)])) 24, ABlk.mk (rdC 2 m (rs ++ [stepR kF 0 2 xs rs (TOp.mk (4 : Int) a b c)])) 34] dec1) :=
  goes_re (dec := [true]) (goes_O (l := [(31, .agg [.int .i64 4, .int .i64 a, .int .i64 b, .flt c]), (135, .slc 1027 0 2), (143, .flt (rAt 0 rs a).v), (148, .flt (rAt 0 rs b).v), (152, .flt (valR kF 0 xs rs ⟨4, a, b, c⟩)), (157, .snap (fltL (rAt 0 rs a).d) 2), (165, .snap (fltL (rAt 0 rs b).d) 2), (118, .flt (rAt 0 rs a).v), (123, .flt (rAt 0 rs b).v)]) (goes_viewK' (ctxO_ok OM _) mixed (qs := [24]) (fuel := 8) [.lit, .giv (rvC m (rs ++ [stepR kF 0 2 xs rs ⟨4, a, b, c⟩])) [], .giv (rdC 2 m (rs ++ [stepR kF 0 2 xs rs ⟨4, a, b, c⟩])) [1027], .frzGiv (fltL (stepR kF 0 2 xs rs ⟨4, a, b, c⟩).d) []] (by kernel_rfl) hok dec1))
theorem eI2_5 (xs : List Nat) (lx : Nat) (ops : List TOp) (m : Nat) (outs : List Int) (rs : List (Rg Nat)) (i : Nat) (a b : Int) (c : Nat) (w0 : World) (dec0 dec1 : List Bool) (hok : ((pb (SubP true [] [] 0 [.flt (fdiv (fsub (AV.toFlt (List.getD (fltL (rAt 0 rs a).2) 0 .undef)) (fmul (valR kF 0 xs rs (TOp.mk (5 : Int) a b c)) (AV.toFlt (List.getD (fltL (rAt 0 rs b).2) 0 .undef)))) (rAt 0 rs b).1), .flt (fdiv (fsub (AV.toFlt (List.getD (fltL (rAt 0 rs a).2) 1 .undef)) (fmul (valR kF 0 xs rs (TOp.mk (5 : Int) a b c)) (AV.toFlt (List.getD (fltL (rAt 0 rs b).2) 1 .undef)))) (rAt 0 rs b).1)] [.flt (slopeR kF 0 rs (TOp.mk (5 : Int) a b c) (valR kF 0 xs rs (TOp.mk (5 : Int) a b c)) 0), .flt (slopeR kF 0 rs (TOp.mk (5 : Int) a b c) (valR kF 0 xs rs (TOp.mk (5 : Int) a b c)) 1)]) && true && (pb (SubP true [(1027, [.flt (slopeR kF 0 rs (TOp.mk (5 : Int) a b c) (valR kF 0 xs rs (TOp.mk (5 : Int) a b c)) 0), .flt (slopeR kF 0 rs (TOp.mk (5 : Int) a b c) (valR kF 0 xs rs (TOp.mk (5 : Int) a b c)) 1)])] [0, 1, 2] 0 (setL (rvC m rs) (0 + Int.toNat ↑i * 1) [.flt (fdiv (rAt 0 rs a).1 (rAt 0 rs b).1)]) (rvC m (rs ++ [stepR kF 0 2 xs rs (TOp.mk (5 : Int) a b c)]))) && (pb (SubP true [(1027, [.flt (slopeR kF 0 rs (TOp.mk (5 : Int) a b c) (valR kF 0 xs rs (TOp.mk (5 : Int) a b c)) 0), .flt (slopeR kF 0 rs (TOp.mk (5 : Int) a b c) (valR kF 0 xs rs (TOp.mk (5 : Int) a b c)) 1)])] [0, 1, 2] 0 (setL (rdC 2 m rs) (0 + Int.toNat ↑i * 1) [.slc 1027 0 2]) (rdC 2 m (rs ++ [stepR kF 0 2 xs rs (TOp.mk (5 : Int) a b c)]))) && true) && (Nat.blt 1 (List.length (fltL (rAt 0 rs b).2)) && AV.isFlt (List.getD (fltL (rAt 0 rs b).2) 1 .undef) && (pb (List.getD (setL (rdC 2 m rs) (0 + Int.toNat ↑i * 1) [.slc 1027 0 2]) (0 + Int.toNat b * 1) .undef = AV.snap (fltL (rAt 0 rs b).2) 2) && (Nat.blt (0 + Int.toNat b * 1) (List.length (setL (rdC 2 m rs) (0 + Int.toNat ↑i * 1) [.slc 1027 0 2])) && true) && (decide ((0 : Int) ≤ b ∧ b < (↑m : Int)) && (Nat.blt 1 (List.length (fltL (rAt 0 rs a).2)) && AV.isFlt (List.getD (fltL (rAt 0 rs a).2) 1 .undef) && (pb (List.getD (setL (rdC 2 m rs) (0 + Int.toNat ↑i * 1) [.slc 1027 0 2]) (0 + Int.toNat a * 1) .undef = AV.snap (fltL (rAt 0 rs a).2) 2) && (Nat.blt (0 + Int.toNat a * 1) (List.length (setL (rdC 2 m rs) (0 + Int.toNat ↑i * 1) [.slc 1027 0 2])) && true) && (decide ((0 : Int) ≤ a ∧ a < (↑m : Int)) && (pb (AV.flt (AV.toFlt (List.getD (setL (rvC m rs) (0 + Int.toNat ↑i * 1) [.flt (fdiv (rAt 0 rs a).1 (rAt 0 rs b).1)]) (0 + Int.toNat ↑i * 1) .undef)) = AV.flt (valR kF 0 xs rs (TOp.mk (5 : Int) a b c))) && (Nat.blt (0 + Int.toNat ↑i * 1) (List.length (setL (rvC m rs) (0 + Int.toNat ↑i * 1) [.flt (fdiv (rAt 0 rs a).1 (rAt 0 rs b).1)])) && AV.isFlt (List.getD (setL (rvC m rs) (0 + Int.toNat ↑i * 1) [.flt (fdiv (rAt 0 rs a).1 (rAt 0 rs b).1)]) (0 + Int.toNat ↑i * 1) .undef)) && (decide ((0 : Int) ≤ (↑i : Int) ∧ (↑i : Int) < (↑m : Int)) && (pb (AV.flt (AV.toFlt (List.getD (setL (rvC m rs) (0 + Int.toNat ↑i * 1) [.flt (fdiv (rAt 0 rs a).1 (rAt 0 rs b).1)]) (0 + Int.toNat b * 1) .undef)) = AV.flt (rAt 0 rs b).1) && (Nat.blt (0 + Int.toNat b * 1) (List.length (setL (rvC m rs) (0 + Int.toNat ↑i * 1) [.flt (fdiv (rAt 0 rs a).1 (rAt 0 rs b).1)])) && AV.isFlt (List.getD (setL (rvC m rs) (0 + Int.toNat ↑i * 1) [.flt (fdiv (rAt 0 rs a).1 (rAt 0 rs b).1)]) (0 + Int.toNat b * 1) .undef)) && (decide ((0 : Int) ≤ b ∧ b < (↑m : Int)) && (pb (AV.flt (AV.toFlt (List.getD (setL (rvC m rs) (0 + Int.toNat ↑i * 1) [.flt (fdiv (rAt 0 rs a).1 (rAt 0 rs b).1)]) (0 + Int.toNat a * 1) .undef)) = AV.flt (rAt 0 rs a).1) && (Nat.blt (0 + Int.toNat a * 1) (List.length (setL (rvC m rs) (0 + Int.toNat ↑i * 1) [.flt (fdiv (rAt 0 rs a).1 (rAt 0 rs b).1)])) && AV.isFlt (List.getD (setL (rvC m rs) (0 + Int.toNat ↑i * 1) [.flt (fdiv (rAt 0 rs a).1 (rAt 0 rs b).1)]) (0 + Int.toNat a * 1) .undef)) && (decide ((0 : Int) ≤ a ∧ a < (↑m : Int)) && (pb (List.getD (setL (rdC 2 m rs) (0 + Int.toNat ↑i * 1) [.slc 1027 0 2]) (0 + Int.toNat ↑i * 1) .undef = AV.slc 1027 0 2) && (Nat.blt (0 + Int.toNat ↑i * 1) (List.length (setL (rdC 2 m rs) (0 + Int.toNat ↑i * 1) [.slc 1027 0 2])) && true) && (decide ((0 : Int) ≤ (↑i : Int) ∧ (↑i : Int) < (↑m : Int)) && (Nat.blt 0 (List.length (fltL (rAt 0 rs b).2)) && AV.isFlt (List.getD (fltL (rAt 0 rs b).2) 0 .undef) && (pb (List.getD (setL (rdC 2 m rs) (0 + Int.toNat ↑i * 1) [.slc 1027 0 2]) (0 + Int.toNat b * 1) .undef = AV.snap (fltL (rAt 0 rs b).2) 2) && (Nat.blt (0 + Int.toNat b * 1) (List.length (setL (rdC 2 m rs) (0 + Int.toNat ↑i * 1) [.slc 1027 0 2])) && true) && (decide ((0 : Int) ≤ b ∧ b < (↑m : Int)) && (Nat.blt 0 (List.length (fltL (rAt 0 rs a).2)) && AV.isFlt (List.getD (fltL (rAt 0 rs a).2) 0 .undef) && (pb (List.getD (setL (rdC 2 m rs) (0 + Int.toNat ↑i * 1) [.slc 1027 0 2]) (0 + Int.toNat a * 1) .undef = AV.snap (fltL (rAt 0 rs a).2) 2) && (Nat.blt (0 + Int.toNat a * 1) (List.length (setL (rdC 2 m rs) (0 + Int.toNat ↑i * 1) [.slc 1027 0 2])) && true) && (decide ((0 : Int) ≤ a ∧ a < (↑m : Int)) && (pb (AV.flt (AV.toFlt (List.getD (setL (rvC m rs) (0 + Int.toNat ↑i * 1) [.flt (fdiv (rAt 0 rs a).1 (rAt 0 rs b).1)]) (0 + Int.toNat ↑i * 1) .undef)) = AV.flt (valR kF 0 xs rs (TOp.mk (5 : Int) a b c))) && (Nat.blt (0 + Int.toNat ↑i * 1) (List.length (setL (rvC m rs) (0 + Int.toNat ↑i * 1) [.flt (fdiv (rAt 0 rs a).1 (rAt 0 rs b).1)])) && AV.isFlt (List.getD (setL (rvC m rs) (0 + Int.toNat ↑i * 1) [.flt (fdiv (rAt 0 rs a).1 (rAt 0 rs b).1)]) (0 + Int.toNat ↑i * 1) .undef)) && (decide ((0 : Int) ≤ (↑i : Int) ∧ (↑i : Int) < (↑m : Int)) && (pb (AV.flt (AV.toFlt (List.getD (setL (rvC m rs) (0 + Int.toNat ↑i * 1) [.flt (fdiv (rAt 0 rs a).1 (rAt 0 rs b).1)]) (0 + Int.toNat b * 1) .undef)) = AV.flt (rAt 0 rs b).1) && (Nat.blt (0 + Int.toNat b * 1) (List.length (setL (rvC m rs) (0 + Int.toNat ↑i * 1) [.flt (fdiv (rAt 0 rs a).1 (rAt 0 rs b).1)])) && AV.isFlt (List.getD (setL (rvC m rs) (0 + Int.toNat ↑i * 1) [.flt (fdiv (rAt 0 rs a).1 (rAt 0 rs b).1)]) (0 + Int.toNat b * 1) .undef)) && (decide ((0 : Int) ≤ b ∧ b < (↑m : Int)) && (pb (AV.flt (AV.toFlt (List.getD (setL (rvC m rs) (0 + Int.toNat ↑i * 1) [.flt (fdiv (rAt 0 rs a).1 (rAt 0 rs b).1)]) (0 + Int.toNat a * 1) .undef)) = AV.flt (rAt 0 rs a).1) && (Nat.blt (0 + Int.toNat a * 1) (List.length (setL (rvC m rs) (0 + Int.toNat ↑i * 1) [.flt (fdiv (rAt 0 rs a).1 (rAt 0 rs b).1)])) && AV.isFlt (List.getD (setL (rvC m rs) (0 + Int.toNat ↑i * 1) [.flt (fdiv (rAt 0 rs a).1 (rAt 0 rs b).1)]) (0 + Int.toNat a * 1) .undef)) && (decide ((0 : Int) ≤ a ∧ a < (↑m : Int)) && (pb (List.getD (setL (rdC 2 m rs) (0 + Int.toNat ↑i * 1) [.slc 1027 0 2]) (0 + Int.toNat ↑i * 1) .undef = AV.slc 1027 0 2) && (Nat.blt (0 + Int.toNat ↑i * 1) (List.length (setL (rdC 2 m rs) (0 + Int.toNat ↑i * 1) [.slc 1027 0 2])) && true) && (decide ((0 : Int) ≤ (↑i : Int) ∧ (↑i : Int) < (↑m : Int)) && (Nat.ble (0 + Int.toNat ↑i * 1 + 1) (List.length (rvC m rs)) && true && (decide ((0 : Int) ≤ (↑i : Int) ∧ (↑i : Int) < (↑m : Int)) && (pb (AV.flt (AV.toFlt (List.getD (rvC m rs) (0 + Int.toNat b * 1) .undef)) = AV.flt (rAt 0 rs b).1) && (Nat.blt (0 + Int.toNat b * 1) (List.length (rvC m rs)) && AV.isFlt (List.getD (rvC m rs) (0 + Int.toNat b * 1) .undef)) && (decide ((0 : Int) ≤ b ∧ b < (↑m : Int)) && (pb (AV.flt (AV.toFlt (List.getD (rvC m rs) (0 + Int.toNat a * 1) .undef)) = AV.flt (rAt 0 rs a).1) && (Nat.blt (0 + Int.toNat a * 1) (List.length (rvC m rs)) && AV.isFlt (List.getD (rvC m rs) (0 + Int.toNat a * 1) .undef)) && (decide ((0 : Int) ≤ a ∧ a < (↑m : Int)) && (Nat.ble (0 + Int.toNat ↑i * 1 + 1) (List.length (rdC 2 m rs)) && true && (decide ((0 : Int) ≤ (↑i : Int) ∧ (↑i : Int) < (↑m : Int)) && (pb (AV.agg [.int .i64 (AV.toInt (List.getD (opsL ops) (Int.toNat ↑i * 4) .undef)), .int .i64 (AV.toInt (List.getD (opsL ops) (Int.toNat ↑i * 4 + 1) .undef)), .int .i64 (AV.toInt (List.getD (opsL ops) (Int.toNat ↑i * 4 + 1 + 1) .undef)), .flt (AV.toFlt (List.getD (opsL ops) (Int.toNat ↑i * 4 + 1 + 1 + 1) .undef))] = AV.agg [.int .i64 5, .int .i64 a, .int .i64 b, .flt c]) && (Nat.ble (Int.toNat ↑i * 4 + 4) (List.length (opsL ops)) && etasOk [Leaf.i IntKind.i64, Leaf.i IntKind.i64, Leaf.i IntKind.i64, Leaf.f] (opsL ops) (Int.toNat ↑i * 4)) && (decide ((0 : Int) ≤ (↑i : Int) ∧ (↑i : Int) < (↑m : Int)) && (decide ((↑i : Int) < (↑m : Int)) && true)))))))))))))))))))))))))))))))))))))))))) = true) : Goes CM w0 191 (eBody) (mk [1,2,5,6,7] [.snap (fltL xs) lx, .ptr 0 0, .slc 1 0 m, .slc 2 0 m, .int .i64 (i : Int)] [⟨[.int .i64 2, .snap (opsL ops) m, .snap (intL outs) 2], 53⟩, ⟨rvC m rs, 24⟩, ⟨rdC 2 m rs, 34⟩] dec0) Ex.normal (mk [1,2,5,6,7] [.snap (fltL xs) lx, .ptr 0 0, .slc 1 0 m, .slc 2 0 m, .int .i64 (IntKind.wrap IntKind.i64 ((↑i : Int) + (1 : Int)))] [ABlk.mk [.int .i64 2, .snap (opsL ops) m, .snap (intL outs) 2] 53, ABlk.mk (rvC m (rs ++ [stepR kF 0 2 xs rs (TOp.mk (5 : Int) a b c)])) 24, ABlk.mk (rdC 2 m (rs ++ [stepR kF 0 2 xs rs (TOp.mk (5 : Int) a b c)])) 34] dec1) :=
  goes_re (dec := [true]) (goes_O (l := [(31, .agg [.int .i64 5, .int .i64 a, .int .i64 b, .flt c]), (135, .slc 1027 0 2), (143, .flt (rAt 0 rs a).v), (148, .flt (rAt 0 rs b).v), (152, .flt (valR kF 0 xs rs ⟨5, a, b, c⟩)), (157, .snap (fltL (rAt 0 rs a).d) 2), (165, .snap (fltL (rAt 0 rs b).d) 2), (46, .flt (rAt 0 rs a).v), (51, .flt (rAt 0 rs b).v)]) (goes_viewK' (ctxO_ok OM _) mixed (qs := [24]) (fuel := 8) [.lit, .giv (rvC m (rs ++ [stepR kF 0 2 xs rs ⟨5, a, b, c⟩])) [], .giv (rdC 2 m (rs ++ [stepR kF 0 2 xs rs ⟨5, a, b, c⟩])) [1027], .frzGiv (fltL (stepR kF 0 2 xs rs ⟨5, a, b, c⟩).d) []] (by kernel_rfl) hok dec1))
theorem eX2 (xs : List Nat) (lx : Nat) (ops : List TOp) (m : Nat) (outs : List Int) (rs : List (Rg Nat)) (i : Nat) (w0 : World) (dec0 dec1 : List Bool) (hok : (((List.all (rdC 2 m rs) AV.noOwn) && true && (!decide ((↑i : Int) < (↑m : Int)) && true))) = true) : Goes CM w0 191 (eBody) (mk [1,2,5,6,7] [.snap (fltL xs) lx, .ptr 0 0, .slc 1 0 m, .slc 2 0 m, .int .i64 (i : Int)] [⟨[.int .i64 2, .snap (opsL ops) m, .snap (intL outs) 2], 53⟩, ⟨rvC m rs, 24⟩, ⟨rdC 2 m rs, 34⟩] dec0) (Ex.exit 0) (mk [2,6] [.ptr 0 0, .snap (rdC 2 m rs) m] [ABlk.mk [.int .i64 2, .snap (opsL ops) m, .snap (intL outs) 2] 53] dec1) :=
  goes_re (dec := [false]) (goes_viewK' OM mixed (qs := [24]) (fuel := 8) [.lit, .frzFlat] (by kernel_rfl) hok dec1)
theorem eZ2 (xs : List Nat) (lx : Nat) (ops : List TOp) (m : Nat) (outs : List Int) (rs : List (Rg Nat)) (i : Nat) (w0 : World) (dec0 dec1 : List Bool) (hok : (((List.all ([] ++ List.take (AV.sLen (List.getD (rdC 2 m rs) (Int.toNat (AV.toInt (List.getD (intL outs) 0 .undef)) * 1) .undef) * 1) (AV.sCells (List.getD (rdC 2 m rs) (Int.toNat (AV.toInt (List.getD (intL outs) 0 .undef)) * 1) .undef))) AV.noOwn) && ((List.all ([] ++ List.take (AV.sLen (List.getD (rdC 2 m rs) (Int.toNat (AV.toInt (List.getD (intL outs) 1 .undef)) * 1) .undef) * 1) (AV.sCells (List.getD (rdC 2 m rs) (Int.toNat (AV.toInt (List.getD (intL outs) 1 .undef)) * 1) .undef))) AV.noOwn) && true) && (Nat.ble (AV.sLen (List.getD (rdC 2 m rs) (Int.toNat (AV.toInt (List.getD (intL outs) 1 .undef)) * 1) .undef) * 1) (List.length (AV.sCells (List.getD (rdC 2 m rs) (Int.toNat (AV.toInt (List.getD (intL outs) 1 .undef)) * 1) .undef))) && List.all (List.take (AV.sLen (List.getD (rdC 2 m rs) (Int.toNat (AV.toInt (List.getD (intL outs) 1 .undef)) * 1) .undef) * 1) (AV.sCells (List.getD (rdC 2 m rs) (Int.toNat (AV.toInt (List.getD (intL outs) 1 .undef)) * 1) .undef))) AV.one && decide (0 = 0 ∧ (0 + AV.sLen (List.getD (rdC 2 m rs) (Int.toNat (AV.toInt (List.getD (intL outs) 1 .undef)) * 1) .undef)) * 8 ≤ 140737488355328 ∧ 0 + AV.sLen (List.getD (rdC 2 m rs) (Int.toNat (AV.toInt (List.getD (intL outs) 1 .undef)) * 1) .undef) ≤ 9223372036854775807) && (Nat.blt (Int.toNat (AV.toInt (List.getD (intL outs) 1 .undef)) * 1) (List.length (rdC 2 m rs)) && AV.isSn (List.getD (rdC 2 m rs) (Int.toNat (AV.toInt (List.getD (intL outs) 1 .undef)) * 1) .undef) && (decide ((0 : Int) ≤ AV.toInt (List.getD (intL outs) 1 .undef) ∧ AV.toInt (List.getD (intL outs) 1 .undef) < (↑m : Int)) && (Nat.blt 1 (List.length (intL outs)) && AV.isInt IntKind.i64 (List.getD (intL outs) 1 .undef) && (Nat.ble (AV.sLen (List.getD (rdC 2 m rs) (Int.toNat (AV.toInt (List.getD (intL outs) 0 .undef)) * 1) .undef) * 1) (List.length (AV.sCells (List.getD (rdC 2 m rs) (Int.toNat (AV.toInt (List.getD (intL outs) 0 .undef)) * 1) .undef))) && List.all (List.take (AV.sLen (List.getD (rdC 2 m rs) (Int.toNat (AV.toInt (List.getD (intL outs) 0 .undef)) * 1) .undef) * 1) (AV.sCells (List.getD (rdC 2 m rs) (Int.toNat (AV.toInt (List.getD (intL outs) 0 .undef)) * 1) .undef))) AV.one && decide (0 = 0 ∧ (0 + AV.sLen (List.getD (rdC 2 m rs) (Int.toNat (AV.toInt (List.getD (intL outs) 0 .undef)) * 1) .undef)) * 8 ≤ 140737488355328 ∧ 0 + AV.sLen (List.getD (rdC 2 m rs) (Int.toNat (AV.toInt (List.getD (intL outs) 0 .undef)) * 1) .undef) ≤ 9223372036854775807) && (Nat.blt (Int.toNat (AV.toInt (List.getD (intL outs) 0 .undef)) * 1) (List.length (rdC 2 m rs)) && AV.isSn (List.getD (rdC 2 m rs) (Int.toNat (AV.toInt (List.getD (intL outs) 0 .undef)) * 1) .undef) && (decide ((0 : Int) ≤ AV.toInt (List.getD (intL outs) 0 .undef) ∧ AV.toInt (List.getD (intL outs) 0 .undef) < (↑m : Int)) && (Nat.blt 0 (List.length (intL outs)) && AV.isInt IntKind.i64 (List.getD (intL outs) 0 .undef) && true)))))))))) = true) : Goes CM w0 191 (cR (cR (cR (cR eC)))) (mk [2,6] [.ptr 0 0, .snap (rdC 2 m rs) m] [⟨[.int .i64 2, .snap (opsL ops) m, .snap (intL outs) 2], 53⟩] dec0) Ex.ret (mk [4] [.slc 0 0 2] [ABlk.mk [.slc 1 0 (0 + AV.sLen (List.getD (rdC 2 m rs) (Int.toNat (AV.toInt (List.getD (intL outs) 0 .undef)) * 1) .undef)), .slc 2 0 (0 + AV.sLen (List.getD (rdC 2 m rs) (Int.toNat (AV.toInt (List.getD (intL outs) 1 .undef)) * 1) .undef))] 34, ABlk.mk ([] ++ List.take (AV.sLen (List.getD (rdC 2 m rs) (Int.toNat (AV.toInt (List.getD (intL outs) 0 .undef)) * 1) .undef) * 1) (AV.sCells (List.getD (rdC 2 m rs) (Int.toNat (AV.toInt (List.getD (intL outs) 0 .undef)) * 1) .undef))) 24, ABlk.mk ([] ++ List.take (AV.sLen (List.getD (rdC 2 m rs) (Int.toNat (AV.toInt (List.getD (intL outs) 1 .undef)) * 1) .undef) * 1) (AV.sCells (List.getD (rdC 2 m rs) (Int.toNat (AV.toInt (List.getD (intL outs) 1 .undef)) * 1) .undef))) 24] dec1) :=
  goes_re (dec := []) (goes_viewK' OM mixed (qs := []) (fuel := 8) [.lit, .flat, .flat] (by kernel_rfl) hok dec1)
theorem eA3 (xs : List Nat) (lx : Nat) (ops : List TOp) (m : Nat) (outs : List Int) (w0 : World) (dec1 : List Bool) : Goes CM w0 191 (cL eC) (St0 [.agg [.int .i64 3, .snap (opsL ops) m, .snap (intL outs) 3], .snap (fltL xs) lx] []) Ex.normal (mk [1,2] [.snap (fltL xs) lx, .ptr 0 0] [ABlk.mk [.int .i64 3, .snap (opsL ops) m, .snap (intL outs) 3] 53] dec1) :=
  goes_viewK' OM mixed (qs := []) (fuel := 8) [.lit] (by kernel_rfl) rfl dec1
theorem eB3 (xs : List Nat) (lx : Nat) (ops : List TOp) (m : Nat) (outs : List Int) (w0 : World) (dec0 dec1 : List Bool) (hok : (((List.all (List.replicate (Int.toNat ↑m) (AV.flt 0)) AV.noOwn) && true && (decide ((0 : Int) ≤ (↑m : Int) ∧ (↑m : Int) ≤ (↑m : Int) ∧ (8 : Int) * (↑m : Int) ≤ (281474976710656 : Int) ∧ (↑m : Int) ≤ (9223372036854775807 : Int)) && true))) = true) : Goes CM w0 191 (cL (cR eC)) (mk [1,2] [.snap (fltL xs) lx, .ptr 0 0] [⟨[.int .i64 3, .snap (opsL ops) m, .snap (intL outs) 3], 53⟩] dec0) Ex.normal (mk [1,2,5] [.snap (fltL xs) lx, .ptr 0 0, .slc 1 0 (Int.toNat ↑m)] [ABlk.mk [.int .i64 3, .snap (opsL ops) m, .snap (intL outs) 3] 53, ABlk.mk (List.replicate (Int.toNat ↑m) (AV.flt 0)) 24] dec1) :=
  goes_re (dec := []) (goes_viewK' OM mixed (qs := []) (fuel := 8) [.lit, .flat] (by kernel_rfl) hok dec1)
theorem eD3 (xs : List Nat) (lx : Nat) (ops : List TOp) (m : Nat) (outs : List Int) (r0 : List AV) (w0 : World) (dec0 dec1 : List Bool) (hok : (((List.all r0 AV.noOwn) && ((List.all (List.replicate (Int.toNat ↑m) AV.nils) AV.noOwn) && true) && (decide ((0 : Int) ≤ (↑m : Int) ∧ (↑m : Int) ≤ (↑m : Int) ∧ (24 : Int) * (↑m : Int) ≤ (281474976710656 : Int) ∧ (↑m : Int) ≤ (9223372036854775807 : Int)) && true))) = true) : Goes CM w0 191 (cL (cR (cR eC))) (mk [1,2,5] [.snap (fltL xs) lx, .ptr 0 0, .slc 1 0 m] [⟨[.int .i64 3, .snap (opsL ops) m, .snap (intL outs) 3], 53⟩, ⟨r0, 24⟩] dec0) Ex.normal (mk [1,2,5,6] [.snap (fltL xs) lx, .ptr 0 0, .slc 1 0 m, .slc 2 0 (Int.toNat ↑m)] [ABlk.mk [.int .i64 3, .snap (opsL ops) m, .snap (intL outs) 3] 53, ABlk.mk r0 24, ABlk.mk (List.replicate (Int.toNat ↑m) AV.nils) 34] dec1) :=
  goes_re (dec := []) (goes_viewK' OM mixed (qs := []) (fuel := 8) [.lit, .flat, .flat] (by kernel_rfl) hok dec1)
theorem eE3 (xs : List Nat) (lx : Nat) (ops : List TOp) (m : Nat) (outs : List Int) (r0 d0 : List AV) (w0 : World) (dec0 dec1 : List Bool) (hok : (((List.all r0 AV.noOwn) && ((List.all d0 AV.noOwn) && true) && true)) = true) : Goes CM w0 191 (cL (cL (cR (cR (cR eC))))) (mk [1,2,5,6] [.snap (fltL xs) lx, .ptr 0 0, .slc 1 0 m, .slc 2 0 m] [⟨[.int .i64 3, .snap (opsL ops) m, .snap (intL outs) 3], 53⟩, ⟨r0, 24⟩, ⟨d0, 34⟩] dec0) Ex.normal (mk [1,2,5,6,7] [.snap (fltL xs) lx, .ptr 0 0, .slc 1 0 m, .slc 2 0 m, .int .i64 0] [ABlk.mk [.int .i64 3, .snap (opsL ops) m, .snap (intL outs) 3] 53, ABlk.mk r0 24, ABlk.mk d0 34] dec1) :=
  goes_re (dec := []) (goes_viewK' OM mixed (qs := []) (fuel := 8) [.lit, .flat, .flat] (by kernel_rfl) hok dec1)
theorem eI3_0 (xs : List Nat) (lx : Nat) (ops : List TOp) (m : Nat) (outs : List Int) (rs : List (Rg Nat)) (i : Nat) (a b : Int) (c : Nat) (w0 : World) (dec0 dec1 : List Bool) (hok : ((pb (SubP true [] [] 0 [.flt 0, .flt 0, .flt 0] [.flt 0, .flt 0, .flt 0]) && true && (pb (SubP true [(1027, [.flt 0, .flt 0, .flt 0])] [0, 1, 2] 0 (setL (rvC m rs) (0 + Int.toNat ↑i * 1) [.flt c]) (rvC m (rs ++ [stepR kF 0 3 xs rs (TOp.mk (0 : Int) a b c)]))) && (pb (SubP true [(1027, [.flt 0, .flt 0, .flt 0])] [0, 1, 2] 0 (setL (rdC 3 m rs) (0 + Int.toNat ↑i * 1) [.slc 1027 0 3]) (rdC 3 m (rs ++ [stepR kF 0 3 xs rs (TOp.mk (0 : Int) a b c)]))) && true) && (Nat.ble (0 + Int.toNat ↑i * 1 + 1) (List.length (rvC m rs)) && true && (decide ((0 : Int) ≤ (↑i : Int) ∧ (↑i : Int) < (↑m : Int)) && (Nat.ble (0 + Int.toNat ↑i * 1 + 1) (List.length (rdC 3 m rs)) && true && (decide ((0 : Int) ≤ (↑i : Int) ∧ (↑i : Int) < (↑m : Int)) && (pb (AV.agg [.int .i64 (AV.toInt (List.getD (opsL ops) (Int.toNat ↑i * 4) .undef)), .int .i64 (AV.toInt (List.getD (opsL ops) (Int.toNat ↑i * 4 + 1) .undef)), .int .i64 (AV.toInt (List.getD (opsL ops) (Int.toNat ↑i * 4 + 1 + 1) .undef)), .flt (AV.toFlt (List.getD (opsL ops) (Int.toNat ↑i * 4 + 1 + 1 + 1) .undef))] = AV.agg [.int .i64 0, .int .i64 a, .int .i64 b, .flt c]) && (Nat.ble (Int.toNat ↑i * 4 + 4) (List.length (opsL ops)) && etasOk [Leaf.i IntKind.i64, Leaf.i IntKind.i64, Leaf.i IntKind.i64, Leaf.f] (opsL ops) (Int.toNat ↑i * 4)) && (decide ((0 : Int) ≤ (↑i : Int) ∧ (↑i : Int) < (↑m : Int)) && (decide ((↑i : Int) < (↑m : Int)) && true)))))))))) = true) : Goes CM w0 191 (eBody) (mk [1,2,5,6,7] [.snap (fltL xs) lx, .ptr 0 0, .slc 1 0 m, .slc 2 0 m, .int .i64 (i : Int)] [⟨[.int .i64 3, .snap (opsL ops) m, .snap (intL outs) 3], 53⟩, ⟨rvC m rs, 24⟩, ⟨rdC 3 m rs, 34⟩] dec0) Ex.normal (mk [1,2,5,6,7] [.snap (fltL xs) lx, .ptr 0 0, .slc 1 0 m, .slc 2 0 m, .int .i64 (IntKind.wrap IntKind.i64 ((↑i : Int) + (1 : Int)))] [ABlk.mk [.int .i64 3, .snap (opsL ops) m, .snap (intL outs) 3] 53, ABlk.mk (rvC m (rs ++ [stepR kF 0 3 xs rs (TOp.mk (0 : Int) a b c)])) 24, ABlk.mk (rdC 3 m (rs ++ [stepR kF 0 3 xs rs (TOp.mk (0 : Int) a b c)])) 34] dec1) :=
  goes_re (dec := [true]) (goes_O (l := [(31, .agg [.int .i64 0, .int .i64 a, .int .i64 b, .flt c])]) (goes_viewK' (ctxO_ok OM _) mixed (qs := [24]) (fuel := 8) [.lit, .giv (rvC m (rs ++ [stepR kF 0 3 xs rs ⟨0, a, b, c⟩])) [], .giv (rdC 3 m (rs ++ [stepR kF 0 3 xs rs ⟨0, a, b, c⟩])) [1027], .frzGiv (fltL (stepR kF 0 3 xs rs ⟨0, a, b, c⟩).d) []] (by kernel_rfl) hok dec1))
theorem eI3_1 (xs : List Nat) (lx : Nat) (ops : List TOp) (m : Nat) (outs : List Int) (rs : List (Rg Nat)) (i : Nat) (a b : Int) (c : Nat) (w0 : World) (dec0 dec1 : List Bool) (hok : ((pb (SubP true [] [] 0 (setL [.flt 0, .flt 0, .flt 0] (0 + Int.toNat a * 1) [.flt 4607182418800017408]) [.flt (slopeR kF 0 rs (TOp.mk (1 : Int) a b c) (valR kF 0 xs rs (TOp.mk (1 : Int) a b c)) 0), .flt (slopeR kF 0 rs (TOp.mk (1 : Int) a b c) (valR kF 0 xs rs (TOp.mk (1 : Int) a b c)) 1), .flt (slopeR kF 0 rs (TOp.mk (1 : Int) a b c) (valR kF 0 xs rs (TOp.mk (1 : Int) a b c)) 2)]) && true && (pb (SubP true [(1027, [.flt (slopeR kF 0 rs (TOp.mk (1 : Int) a b c) (valR kF 0 xs rs (TOp.mk (1 : Int) a b c)) 0), .flt (slopeR kF 0 rs (TOp.mk (1 : Int) a b c) (valR kF 0 xs rs (TOp.mk (1 : Int) a b c)) 1), .flt (slopeR kF 0 rs (TOp.mk (1 : Int) a b c) (valR kF 0 xs rs (TOp.mk (1 : Int) a b c)) 2)])] [0, 1, 2] 0 (setL (rvC m rs) (0 + Int.toNat ↑i * 1) [.flt (List.getD xs (Int.toNat a) 0)]) (rvC m (rs ++ [stepR kF 0 3 xs rs (TOp.mk (1 : Int) a b c)]))) && (pb (SubP true [(1027, [.flt (slopeR kF 0 rs (TOp.mk (1 : Int) a b c) (valR kF 0 xs rs (TOp.mk (1 : Int) a b c)) 0), .flt (slopeR kF 0 rs (TOp.mk (1 : Int) a b c) (valR kF 0 xs rs (TOp.mk (1 : Int) a b c)) 1), .flt (slopeR kF 0 rs (TOp.mk (1 : Int) a b c) (valR kF 0 xs rs (TOp.mk (1 : Int) a b c)) 2)])] [0, 1, 2] 0 (setL (rdC 3 m rs) (0 + Int.toNat ↑i * 1) [.slc 1027 0 3]) (rdC 3 m (rs ++ [stepR kF 0 3 xs rs (TOp.mk (1 : Int) a b c)]))) && true) && (Nat.ble (0 + Int.toNat a * 1 + 1) 3 && true && (decide ((0 : Int) ≤ a ∧ a < (3 : Int)) && (Nat.ble (0 + Int.toNat ↑i * 1 + 1) (List.length (rvC m rs)) && true && (decide ((0 : Int) ≤ (↑i : Int) ∧ (↑i : Int) < (↑m : Int)) && (pb (AV.flt (AV.toFlt (List.getD (fltL xs) (Int.toNat a * 1) .undef)) = AV.flt (List.getD xs (Int.toNat a) 0)) && (Nat.blt (Int.toNat a * 1) (List.length (fltL xs)) && AV.isFlt (List.getD (fltL xs) (Int.toNat a * 1) .undef)) && (decide ((0 : Int) ≤ a ∧ a < (↑lx : Int)) && (pb (List.getD (setL (rdC 3 m rs) (0 + Int.toNat ↑i * 1) [.slc 1027 0 3]) (0 + Int.toNat ↑i * 1) .undef = AV.slc 1027 0 3) && (Nat.blt (0 + Int.toNat ↑i * 1) (List.length (setL (rdC 3 m rs) (0 + Int.toNat ↑i * 1) [.slc 1027 0 3])) && true) && (decide ((0 : Int) ≤ (↑i : Int) ∧ (↑i : Int) < (↑m : Int)) && (Nat.ble (0 + Int.toNat ↑i * 1 + 1) (List.length (rdC 3 m rs)) && true && (decide ((0 : Int) ≤ (↑i : Int) ∧ (↑i : Int) < (↑m : Int)) && (pb (AV.agg [.int .i64 (AV.toInt (List.getD (opsL ops) (Int.toNat ↑i * 4) .undef)), .int .i64 (AV.toInt (List.getD (opsL ops) (Int.toNat ↑i * 4 + 1) .undef)), .int .i64 (AV.toInt (List.getD (opsL ops) (Int.toNat ↑i * 4 + 1 + 1) .undef)), .flt (AV.toFlt (List.getD (opsL ops) (Int.toNat ↑i * 4 + 1 + 1 + 1) .undef))] = AV.agg [.int .i64 1, .int .i64 a, .int .i64 b, .flt c]) && (Nat.ble (Int.toNat ↑i * 4 + 4) (List.length (opsL ops)) && etasOk [Leaf.i IntKind.i64, Leaf.i IntKind.i64, Leaf.i IntKind.i64, Leaf.f] (opsL ops) (Int.toNat ↑i * 4)) && (decide ((0 : Int) ≤ (↑i : Int) ∧ (↑i : Int) < (↑m : Int)) && (decide ((↑i : Int) < (↑m : Int)) && true)))))))))))))))) = true) : Goes CM w0 191 (eBody) (mk [1,2,5,6,7] [.snap (fltL xs) lx, .ptr 0 0, .slc 1 0 m, .slc 2 0 m, .int .i64 (i : Int)] [⟨[.int .i64 3, .snap (opsL ops) m, .snap (intL outs) 3], 53⟩, ⟨rvC m rs, 24⟩, ⟨rdC 3 m rs, 34⟩] dec0) Ex.normal (mk [1,2,5,6,7] [.snap (fltL xs) lx, .ptr 0 0, .slc 1 0 m, .slc 2 0 m, .int .i64 (IntKind.wrap IntKind.i64 ((↑i : Int) + (1 : Int)))] [ABlk.mk [.int .i64 3, .snap (opsL ops) m, .snap (intL outs) 3] 53, ABlk.mk (rvC m (rs ++ [stepR kF 0 3 xs rs (TOp.mk (1 : Int) a b c)])) 24, ABlk.mk (rdC 3 m (rs ++ [stepR kF 0 3 xs rs (TOp.mk (1 : Int) a b c)])) 34] dec1) :=
  goes_re (dec := [true]) (goes_O (l := [(31, .agg [.int .i64 1, .int .i64 a, .int .i64 b, .flt c]), (68, .slc 1027 0 3), (75, .flt (xs.getD a.toNat 0))]) (goes_viewK' (ctxO_ok OM _) mixed (qs := [24]) (fuel := 8) [.lit, .giv (rvC m (rs ++ [stepR kF 0 3 xs rs ⟨1, a, b, c⟩])) [], .giv (rdC 3 m (rs ++ [stepR kF 0 3 xs rs ⟨1, a, b, c⟩])) [1027], .frzGiv (fltL (stepR kF 0 3 xs rs ⟨1, a, b, c⟩).d) []] (by kernel_rfl) hok dec1))
theorem eI3_2 (xs : List Nat) (lx : Nat) (ops : List TOp) (m : Nat) (outs : List Int) (rs : List (Rg Nat)) (i : Nat) (a b : Int) (c : Nat) (w0 : World) (dec0 dec1 : List Bool) (hok : ((pb (SubP true [] [] 0 [.flt (fadd (AV.toFlt (List.getD (fltL (rAt 0 rs a).2) 0 .undef)) (AV.toFlt (List.getD (fltL (rAt 0 rs b).2) 0 .undef))), .flt (fadd (AV.toFlt (List.getD (fltL (rAt 0 rs a).2) 1 .undef)) (AV.toFlt (List.getD (fltL (rAt 0 rs b).2) 1 .undef))), .flt (fadd (AV.toFlt (List.getD (fltL (rAt 0 rs a).2) 2 .undef)) (AV.toFlt (List.getD (fltL (rAt 0 rs b).2) 2 .undef)))] [.flt (slopeR kF 0 rs (TOp.mk (2 : Int) a b c) (valR kF 0 xs rs (TOp.mk (2 : Int) a b c)) 0), .flt (slopeR kF 0 rs (TOp.mk (2 : Int) a b c) (valR kF 0 xs rs (TOp.mk (2 : Int) a b c)) 1), .flt (slopeR kF 0 rs (TOp.mk (2 : Int) a b c) (valR kF 0 xs rs (TOp.mk (2 : Int) a b c)) 2)]) && true && (pb (SubP true [(1027, [.flt (slopeR kF 0 rs (TOp.mk (2 : Int) a b c) (valR kF 0 xs rs (TOp.mk (2 : Int) a b c)) 0), .flt (slopeR kF 0 rs (TOp.mk (2 : Int) a b c) (valR kF 0 xs rs (TOp.mk (2 : Int) a b c)) 1), .flt (slopeR kF 0 rs (TOp.mk (2 : Int) a b c) (valR kF 0 xs rs (TOp.mk (2 : Int) a b c)) 2)])] [0, 1, 2] 0 (setL (rvC m rs) (0 + Int.toNat ↑i * 1) [.flt (fadd (rAt 0 rs a).1 (rAt 0 rs b).1)]) (rvC m (rs ++ [stepR kF 0 3 xs rs (TOp.mk (2 : Int) a b c)]))) && (pb (SubP true [(1027, [.flt (slopeR kF 0 rs (TOp.mk (2 : Int) a b c) (valR kF 0 xs rs (TOp.mk (2 : Int) a b c)) 0), .flt (slopeR kF 0 rs (TOp.mk (2 : Int) a b c) (valR kF 0 xs rs (TOp.mk (2 : Int) a b c)) 1), .flt (slopeR kF 0 rs (TOp.mk (2 : Int) a b c) (valR kF 0 xs rs (TOp.mk (2 : Int) a b c)) 2)])] [0, 1, 2] 0 (setL (rdC 3 m rs) (0 + Int.toNat ↑i * 1) [.slc 1027 0 3]) (rdC 3 m (rs ++ [stepR kF 0 3 xs rs (TOp.mk (2 : Int) a b c)]))) && true) && (Nat.blt 2 (List.length (fltL (rAt 0 rs b).2)) && AV.isFlt (List.getD (fltL (rAt 0 rs b).2) 2 .undef) && (pb (List.getD (setL (rdC 3 m rs) (0 + Int.toNat ↑i * 1) [.slc 1027 0 3]) (0 + Int.toNat b * 1) .undef = AV.snap (fltL (rAt 0 rs b).2) 3) && (Nat.blt (0 + Int.toNat b * 1) (List.length (setL (rdC 3 m rs) (0 + Int.toNat ↑i * 1) [.slc 1027 0 3])) && true) && (decide ((0 : Int) ≤ b ∧ b < (↑m : Int)) && (Nat.blt 2 (List.length (fltL (rAt 0 rs a).2)) && AV.isFlt (List.getD (fltL (rAt 0 rs a).2) 2 .undef) && (pb (List.getD (setL (rdC 3 m rs) (0 + Int.toNat ↑i * 1) [.slc 1027 0 3]) (0 + Int.toNat a * 1) .undef = AV.snap (fltL (rAt 0 rs a).2) 3) && (Nat.blt (0 + Int.toNat a * 1) (List.length (setL (rdC 3 m rs) (0 + Int.toNat ↑i * 1) [.slc 1027 0 3])) && true) && (decide ((0 : Int) ≤ a ∧ a < (↑m : Int)) && (pb (AV.flt (AV.toFlt (List.getD (setL (rvC m rs) (0 + Int.toNat ↑i * 1) [.flt (fadd (rAt 0 rs a).1 (rAt 0 rs b).1)]) (0 + Int.toNat ↑i * 1) .undef)) = AV.flt (valR kF 0 xs rs (TOp.mk (2 : Int) a b c))) && (Nat.blt (0 + Int.toNat ↑i * 1) (List.length (setL (rvC m rs) (0 + Int.toNat ↑i * 1) [.flt (fadd (rAt 0 rs a).1 (rAt 0 rs b).1)])) && AV.isFlt (List.getD (setL (rvC m rs) (0 + Int.toNat ↑i * 1) [.flt (fadd (rAt 0 rs a).1 (rAt 0 rs b).1)]) (0 + Int.toNat ↑i * 1) .undef)) && (decide ((0 : Int) ≤ (↑i : Int) ∧ (↑i : Int) < (↑m : Int)) && (pb (AV.flt (AV.toFlt (List.getD (setL (rvC m rs) (0 + Int.toNat ↑i * 1) [.flt (fadd (rAt 0 rs a).1 (rAt 0 rs b).1)]) (0 + Int.toNat b * 1) .undef)) = AV.flt (rAt 0 rs b).1) && (Nat.blt (0 + Int.toNat b * 1) (List.length (setL (rvC m rs) (0 + Int.toNat ↑i * 1) [.flt (fadd (rAt 0 rs a).1 (rAt 0 rs b).1)])) && AV.isFlt (List.getD (setL (rvC m rs) (0 + Int.toNat ↑i * 1) [.flt (fadd (rAt 0 rs a).1 (rAt 0 rs b).1)]) (0 + Int.toNat b * 1) .undef)) && (decide ((0 : Int) ≤ b ∧ b < (↑m : Int)) && (pb (AV.flt (AV.toFlt (List.getD (setL (rvC m rs) (0 + Int.toNat ↑i * 1) [.flt (fadd (rAt 0 rs a).1 (rAt 0 rs b).1)]) (0 + Int.toNat a * 1) .undef)) = AV.flt (rAt 0 rs a).1) && (Nat.blt (0 + Int.toNat a * 1) (List.length (setL (rvC m rs) (0 + Int.toNat ↑i * 1) [.flt (fadd (rAt 0 rs a).1 (rAt 0 rs b).1)])) && AV.isFlt (List.getD (setL (rvC m rs) (0 + Int.toNat ↑i * 1) [.flt (fadd (rAt 0 rs a).1 (rAt 0 rs b).1)]) (0 + Int.toNat a * 1) .undef)) && (decide ((0 : Int) ≤ a ∧ a < (↑m : Int)) && (pb (List.getD (setL (rdC 3 m rs) (0 + Int.toNat ↑i * 1) [.slc 1027 0 3]) (0 + Int.toNat ↑i * 1) .undef = AV.slc 1027 0 3) && (Nat.blt (0 + Int.toNat ↑i * 1) (List.length (setL (rdC 3 m rs) (0 + Int.toNat ↑i * 1) [.slc 1027 0 3])) && true) && (decide ((0 : Int) ≤ (↑i : Int) ∧ (↑i : Int) < (↑m : Int)) && (Nat.blt 1 (List.length (fltL (rAt 0 rs b).2)) && AV.isFlt (List.getD (fltL (rAt 0 rs b).2) 1 .undef) && (pb (List.getD (setL (rdC 3 m rs) (0 + Int.toNat ↑i * 1) [.slc 1027 0 3]) (0 + Int.toNat b * 1) .undef = AV.snap (fltL (rAt 0 rs b).2) 3) && (Nat.blt (0 + Int.toNat b * 1) (List.length (setL (rdC 3 m rs) (0 + Int.toNat ↑i * 1) [.slc 1027 0 3])) && true) && (decide ((0 : Int) ≤ b ∧ b < (↑m : Int)) && (Nat.blt 1 (List.length (fltL (rAt 0 rs a).2)) && AV.isFlt (List.getD (fltL (rAt 0 rs a).2) 1 .undef) && (pb (List.getD (setL (rdC 3 m rs) (0 + Int.toNat ↑i * 1) [.slc 1027 0 3]) (0 + Int.toNat a * 1) .undef = AV.snap (fltL (rAt 0 rs a).2) 3) && (Nat.blt (0 + Int.toNat a * 1) (List.length (setL (rdC 3 m rs) (0 + Int.toNat ↑i * 1) [.slc 1027 0 3])) && true) && (decide ((0 : Int) ≤ a ∧ a < (↑m : Int)) && (pb (AV.flt (AV.toFlt (List.getD (setL (rvC m rs) (0 + Int.toNat ↑i * 1) [.flt (fadd (rAt 0 rs a).1 (rAt 0 rs b).1)]) (0 + Int.toNat ↑i * 1) .undef)) = AV.flt (valR kF 0 xs rs (TOp.mk (2 : Int) a b c))) && (Nat.blt (0 + Int.toNat ↑i * 1) (List.length (setL (rvC m rs) (0 + Int.toNat ↑i * 1) [.flt (fadd (rAt 0 rs a).1 (rAt 0 rs b).1)])) && AV.isFlt (List.getD (setL (rvC m rs) (0 + Int.toNat ↑i * 1) [.flt (fadd (rAt 0 rs a).1 (rAt 0 rs b).1)]) (0 + Int.toNat ↑i * 1) .undef)) && (decide ((0 : Int) ≤ (↑i : Int) ∧ (↑i : Int) < (↑m : Int)) && (pb (AV.flt (AV.toFlt (List.getD (setL (rvC m rs) (0 + Int.toNat ↑i * 1) [.flt (fadd (rAt 0 rs a).1 (rAt 0 rs b).1)]) (0 + Int.toNat b * 1) .undef)) = AV.flt (rAt 0 rs b).1) && (Nat.blt (0 + Int.toNat b * 1) (List.length (setL (rvC m rs) (0 + Int.toNat ↑i * 1) [.flt (fadd (rAt 0 rs a).1 (rAt 0 rs b).1)])) && AV.isFlt (List.getD (setL (rvC m rs) (0 + Int.toNat ↑i * 1) [.flt (fadd (rAt 0 rs a).1 (rAt 0 rs b).1)]) (0 + Int.toNat b * 1) .undef)) && (decide ((0 : Int) ≤ b ∧ b < (↑m : Int)) && (pb (AV.flt (AV.toFlt (List.getD (setL (rvC m rs) (0 + Int.toNat ↑i * 1) [.flt (fadd (rAt 0 rs a).1 (rAt 0 rs b).1)]) (0 + Int.toNat a * 1) .undef)) = AV.flt (rAt 0 rs a).1) && (Nat.blt (0 + Int.toNat a * 1) (List.length (setL (rvC m rs) (0 + Int.toNat ↑i * 1) [.flt (fadd (rAt 0 rs a).1 (rAt 0 rs b).1)])) && AV.isFlt (List.getD (setL (rvC m rs) (0 + Int.toNat ↑i * 1) [.flt (fadd (rAt 0 rs a).1 (rAt 0 rs b).1)]) (0 + Int.toNat a * 1) .undef)) && (decide ((0 : Int) ≤ a ∧ a < (↑m : Int)) && (pb (List.getD (setL (rdC 3 m rs) (0 + Int.toNat ↑i * 1) [.slc 1027 0 3]) (0 + Int.toNat ↑i * 1) .undef = AV.slc 1027 0 3) && (Nat.blt (0 + Int.toNat ↑i * 1) (List.length (setL (rdC 3 m rs) (0 + Int.toNat ↑i * 1) [.slc 1027 0 3])) && true) && (decide ((0 : Int) ≤ (↑i : Int) ∧ (↑i : Int) < (↑m : Int)) && (Nat.blt 0 (List.length (fltL (rAt 0 rs b).2)) && AV.isFlt (List.getD (fltL (rAt 0 rs b).2) 0 .undef) && (pb (List.getD (setL (rdC 3 m rs) (0 + Int.toNat ↑i * 1) [.slc 1027 0 3]) (0 + Int.toNat b * 1) .undef = AV.snap (fltL (rAt 0 rs b).2) 3) && (Nat.blt (0 + Int.toNat b * 1) (List.length (setL (rdC 3 m rs) (0 + Int.toNat ↑i * 1) [.slc 1027 0 3])) && true) && (decide ((0 : Int) ≤ b ∧ b < (↑m : Int)) && (Nat.blt 0 (List.length (fltL (rAt 0 rs a).2)) && AV.isFlt (List.getD (fltL (rAt 0 rs a).2) 0 .undef) && (pb (List.getD (setL (rdC 3 m rs) (0 + Int.toNat ↑i * 1) [.slc 1027 0 3]) (0 + Int.toNat a * 1) .undef = AV.snap (fltL (rAt 0 rs a).2) 3) && (Nat.blt (0 + Int.toNat a * 1) (List.length (setL (rdC 3 m rs) (0 + Int.toNat ↑i * 1) [.slc 1027 0 3])) && true) && (decide ((0 : Int) ≤ a ∧ a < (↑m : Int)) && (pb (AV.flt (AV.toFlt (List.getD (setL (rvC m rs) (0 + Int.toNat ↑i * 1) [.flt (fadd (rAt 0 rs a).1 (rAt 0 rs b).1)]) (0 + Int.toNat ↑i * 1) .undef)) = AV.flt (valR kF 0 xs rs (TOp.mk (2 : Int) a b c))) && (Nat.blt (0 + Int.toNat ↑i * 1) (List.length (setL (rvC m rs) (0 + Int.toNat ↑i * 1) [.flt (fadd (rAt 0 rs a).1 (rAt 0 rs b).1)])) && AV.isFlt (List.getD (setL (rvC m rs) (0 + Int.toNat ↑i * 1) [.flt (fadd (rAt 0 rs a).1 (rAt 0 rs b).1)]) (0 + Int.toNat ↑i * 1) .undef)) && (decide ((0 : Int) ≤ (↑i : Int) ∧ (↑i : Int) < (↑m : Int)) && (pb (AV.flt (AV.toFlt (List.getD (setL (rvC m rs) (0 + Int.toNat ↑i * 1) [.flt (fadd (rAt 0 rs a).1 (rAt 0 rs b).1)]) (0 + Int.toNat b * 1) .undef)) = AV.flt (rAt 0 rs b).1) && (Nat.blt (0 + Int.toNat b * 1) (List.length (setL (rvC m rs) (0 + Int.toNat ↑i * 1) [.flt (fadd (rAt 0 rs a).1 (rAt 0 rs b).1)])) && AV.isFlt (List.getD (setL (rvC m rs) (0 + Int.toNat ↑i * 1) [.flt (fadd (rAt 0 rs a).1 (rAt 0 rs b).1)]) (0 + Int.toNat b * 1) .undef)) && (decide ((0 : Int) ≤ b ∧ b < (↑m : Int)) && (pb (AV.flt (AV.toFlt (List.getD (setL (rvC m rs) (0 + Int.toNat ↑i * 1) [.flt (fadd (rAt 0 rs a).1 (rAt 0 rs b).1)]) (0 + Int.toNat a * 1) .undef)) = AV.flt (rAt 0 rs a).1) && (Nat.blt (0 + Int.toNat a * 1) (List.length (setL (rvC m rs) (0 + Int.toNat ↑i * 1) [.flt (fadd (rAt 0 rs a).1 (rAt 0 rs b).1)])) && AV.isFlt (List.getD (setL (rvC m rs) (0 + Int.toNat ↑i * 1) [.flt (fadd (rAt 0 rs a).1 (rAt 0 rs b).1)]) (0 + Int.toNat a * 1) .undef)) && (decide ((0 : Int) ≤ a ∧ a < (↑m : Int)) && (pb (List.getD (setL (rdC 3 m rs) (0 + Int.toNat ↑i * 1) [.slc 1027 0 3]) (0 + Int.toNat ↑i * 1) .undef = AV.slc 1027 0 3) && (Nat.blt (0 + Int.toNat ↑i * 1) (List.length (setL (rdC 3 m rs) (0 + Int.toNat ↑i * 1) [.slc 1027 0 3])) && true) && (decide ((0 : Int) ≤ (↑i : Int) ∧ (↑i : Int) < (↑m : Int)) && (Nat.ble (0 + Int.toNat ↑i * 1 + 1) (List.length (rvC m rs)) && true && (decide ((0 : Int) ≤ (↑i : Int) ∧ (↑i : Int) < (↑m : Int)) && (pb (AV.flt (AV.toFlt (List.getD (rvC m rs) (0 + Int.toNat b * 1) .undef)) = AV.flt (rAt 0 rs b).1) && (Nat.blt (0 + Int.toNat b * 1) (List.length (rvC m rs)) && AV.isFlt (List.getD (rvC m rs) (0 + Int.toNat b * 1) .undef)) && (decide ((0 : Int) ≤ b ∧ b < (↑m : Int)) && (pb (AV.flt (AV.toFlt (List.getD (rvC m rs) (0 + Int.toNat a * 1) .undef)) = AV.flt (rAt 0 rs a).1) && (Nat.blt (0 + Int.toNat a * 1) (List.length (rvC m rs)) && AV.isFlt (List.getD (rvC m rs) (0 + Int.toNat a * 1) .undef)) && (decide ((0 : Int) ≤ a ∧ a < (↑m : Int)) && (Nat.ble (0 + Int.toNat ↑i * 1 + 1) (List.length (rdC 3 m rs)) && true && (decide ((0 : Int) ≤ (↑i : Int) ∧ (↑i : Int) < (↑m : Int)) && (pb (AV.agg [.int .i64 (AV.toInt (List.getD (opsL ops) (Int.toNat ↑i * 4) .undef)), .int .i64 (AV.toInt (List.getD (opsL ops) (Int.toNat ↑i * 4 + 1) .undef)), .int .i64 (AV.toInt (List.getD (opsL ops) (Int.toNat ↑i * 4 + 1 + 1) .undef)), .flt (AV.toFlt (List.getD (opsL ops) (Int.toNat ↑i * 4 + 1 + 1 + 1) .undef))] = AV.agg [.int .i64 2, .int .i64 a, .int .i64 b, .flt c]) && (Nat.ble (Int.toNat ↑i * 4 + 4) (List.length (opsL ops)) && etasOk [Leaf.i IntKind.i64, Leaf.i IntKind.i64, Leaf.i IntKind.i64, Leaf.f] (opsL ops) (Int.toNat ↑i * 4)) && (decide ((0 : Int) ≤ (↑i : Int) ∧ (↑i : Int) < (↑m : Int)) && (decide ((↑i : Int) < (↑m : Int)) && true)))))))))))))))))))))))))))))))))))))))))))))))))))))))) = true) : Goes CM w0 191 (eBody) (mk [1,2,5,6,7] [.snap (fltL xs) lx, .ptr 0 0, .slc 1 0 m, .slc 2 0 m, .int .i64 (i : Int)] [⟨[.int .i64 3, .snap (opsL ops) m, .snap (intL outs) 3], 53⟩, ⟨rvC m rs, 24⟩, ⟨rdC 3 m rs, 34⟩] dec0) Ex.normal (mk [1,2,5,6,7] [.snap (fltL xs) lx, .ptr 0 0, .slc 1 0 m, .slc 2 0 m, .int .i64 (IntKind.wrap IntKind.i64 ((↑i : Int) + (1 : Int)))] [ABlk.mk [.int .i64 3, .snap (opsL ops) m, .snap (intL outs) 3] 53, ABlk.mk (rvC m (rs ++ [stepR kF 0 3 xs rs (TOp.mk (2 : Int) a b c)])) 24, ABlk.mk (rdC 3 m (rs ++ [stepR kF 0 3 xs rs (TOp.mk (2 : Int) a b c)])) 34] dec1) :=
  goes_re (dec := [true]) (goes_O (l := [(31, .agg [.int .i64 2, .int .i64 a, .int .i64 b, .flt c]), (135, .slc 1027 0 3), (143, .flt (rAt 0 rs a).v), (148, .flt (rAt 0 rs b).v), (152, .flt (valR kF 0 xs rs ⟨2, a, b, c⟩)), (157, .snap (fltL (rAt 0 rs a).d) 3), (165, .snap (fltL (rAt 0 rs b).d) 3), (86, .flt (rAt 0 rs a).v), (91, .flt (rAt 0 rs b).v)]) (goes_viewK' (ctxO_ok OM _) mixed (qs := [24]) (fuel := 8) [.lit, .giv (rvC m (rs ++ [stepR kF 0 3 xs rs ⟨2, a, b, c⟩])) [], .giv (rdC 3 m (rs ++ [stepR kF 0 3 xs rs ⟨2, a, b, c⟩])) [1027], .frzGiv (fltL (stepR kF 0 3 xs rs ⟨2, a, b, c⟩).d) []] (by kernel_rfl) hok dec1))
theorem eI3_3 (xs : List Nat) (lx : Nat) (ops : List TOp) (m : Nat) (outs : List Int) (rs : List (Rg Nat)) (i : Nat) (a b : Int) (c : Nat) (w0 : World) (dec0 dec1 : List Bool) (hok : ((pb (SubP true [] [] 0 [.flt (fsub (AV.toFlt (List.getD (fltL (rAt 0 rs a).2) 0 .undef)) (AV.toFlt (List.getD (fltL (rAt 0 rs b).2) 0 .undef))), .flt (fsub (AV.toFlt (List.getD (fltL (rAt 0 rs a).2) 1 .undef)) (AV.toFlt (List.getD (fltL (rAt 0 rs b).2) 1 .undef))), .flt (fsub (AV.toFlt (List.getD (fltL (rAt 0 rs a).2) 2 .undef)) (AV.toFlt (List.getD (fltL (rAt 0 rs b).2) 2 .undef)))] [.flt (slopeR kF 0 rs (TOp.mk (3 : Int) a b c) (valR kF 0 xs rs (TOp.mk (3 : Int) a b c)) 0), .flt (slopeR kF 0 rs (TOp.mk (3 : Int) a b c) (valR kF 0 xs rs (TOp.mk (3 : Int) a b c)) 1), .flt (slopeR kF 0 rs (TOp.mk (3 : Int) a b c) (valR kF 0 xs rs (TOp.mk (3 : Int) a b c)) 2)]) && true && (pb (SubP true [(1027, [.flt (slopeR kF 0 rs (TOp.mk (3 : Int) a b c) (valR kF 0 xs rs (TOp.mk (3 : Int) a b c)) 0), .flt (slopeR kF 0 rs (TOp.mk (3 : Int) a b c) (valR kF 0 xs rs (TOp.mk (3 : Int) a b c)) 1), .flt (slopeR kF 0 rs (TOp.mk (3 : Int) a b c) (valR kF 0 xs rs (TOp.mk (3 : Int) a b c)) 2)])] [0, 1, 2] 0 (setL (rvC m rs) (0 + Int.toNat ↑i * 1) [.flt (fsub (rAt 0 rs a).1 (rAt 0 rs b).1)]) (rvC m (rs ++ [stepR kF 0 3 xs rs (TOp.mk (3 : Int) a b c)]))) && (pb (SubP true [(1027, [.flt (slopeR kF 0 rs (TOp.mk (3 : Int) a b c) (valR kF 0 xs rs (TOp.mk (3 : Int) a b c)) 0), .flt (slopeR kF 0 rs (TOp.mk (3 : Int) a b c) (valR kF 0 xs rs (TOp.mk (3 : Int) a b c)) 1), .flt (slopeR kF 0 rs (TOp.mk (3 : Int) a b c) (valR kF 0 xs rs (TOp.mk (3 : Int) a b c)) 2)])] [0, 1, 2] 0 (setL (rdC 3 m rs) (0 + Int.toNat ↑i * 1) [.slc 1027 0 3]) (rdC 3 m (rs ++ [stepR kF 0 3 xs rs (TOp.mk (3 : Int) a b c)]))) && true) && (Nat.blt 2 (List.length (fltL (rAt 0 rs b).2)) && AV.isFlt (List.getD (fltL (rAt 0 rs b).2) 2 .undef) && (pb (List.getD (setL (rdC 3 m rs) (0 + Int.toNat ↑i * 1) [.slc 1027 0 3]) (0 + Int.toNat b * 1) .undef = AV.snap (fltL (rAt 0 rs b).2) 3) && (Nat.blt (0 + Int.toNat b * 1) (List.length (setL (rdC 3 m rs) (0 + Int.toNat ↑i * 1) [.slc 1027 0 3])) && true) && (decide ((0 : Int) ≤ b ∧ b < (↑m : Int)) && (Nat.blt 2 (List.length (fltL (rAt 0 rs a).2)) && AV.isFlt (List.getD (fltL (rAt 0 rs a).2) 2 .undef) && (pb (List.getD (setL (rdC 3 m rs) (0 + Int.toNat ↑i * 1) [.slc 1027 0 3]) (0 + Int.toNat a * 1) .undef = AV.snap (fltL (rAt 0 rs a).2) 3) && (Nat.blt (0 + Int.toNat a * 1) (List.length (setL (rdC 3 m rs) (0 + Int.toNat ↑i * 1) [.slc 1027 0 3])) && true) && (decide ((0 : Int) ≤ a ∧ a < (↑m : Int)) && (pb (AV.flt (AV.toFlt (List.getD (setL (rvC m rs) (0 + Int.toNat ↑i * 1) [.flt (fsub (rAt 0 rs a).1 (rAt 0 rs b).1)]) (0 + Int.toNat ↑i * 1) .undef)) = AV.flt (valR kF 0 xs rs (TOp.mk (3 : Int) a b c))) && (Nat.blt (0 + Int.toNat ↑i * 1) (List.length (setL (rvC m rs) (0 + Int.toNat ↑i * 1) [.flt (fsub (rAt 0 rs a).1 (rAt 0 rs b).1)])) && AV.isFlt (List.getD (setL (rvC m rs) (0 + Int.toNat ↑i * 1) [.flt (fsub (rAt 0 rs a).1 (rAt 0 rs b).1)]) (0 + Int.toNat ↑i * 1) .undef)) && (decide ((0 : Int) ≤ (↑i : Int) ∧ (↑i : Int) < (↑m : Int)) && (pb (AV.flt (AV.toFlt (List.getD (setL (rvC m rs) (0 + Int.toNat ↑i * 1) [.flt (fsub (rAt 0 rs a).1 (rAt 0 rs b).1)]) (0 + Int.toNat b * 1) .undef)) = AV.flt (rAt 0 rs b).1) && (Nat.blt (0 + Int.toNat b * 1) (List.length (setL (rvC m rs) (0 + Int.toNat ↑i * 1) [.flt (fsub (rAt 0 rs a).1 (rAt 0 rs b).1)])) && AV.isFlt (List.getD (setL (rvC m rs) (0 + Int.toNat ↑i * 1) [.flt (fsub (rAt 0 rs a).1 (rAt 0 rs b).1)]) (0 + Int.toNat b * 1) .undef)) && (decide ((0 : Int) ≤ b ∧ b < (↑m : Int)) && (pb (AV.flt (AV.toFlt (List.getD (setL (rvC m rs) (0 + Int.toNat ↑i * 1) [.flt (fsub (rAt 0 rs a).1 (rAt 0 rs b).1)]) (0 + Int.toNat a * 1) .undef)) = AV.flt (rAt 0 rs a).1) && (Nat.blt (0 + Int.toNat a * 1) (List.length (setL (rvC m rs) (0 + Int.toNat ↑i * 1) [.flt (fsub (rAt 0 rs a).1 (rAt 0 rs b).1)])) && AV.isFlt (List.getD (setL (rvC m rs) (0 + Int.toNat ↑i * 1) [.flt (fsub (rAt 0 rs a).1 (rAt 0 rs b).1)]) (0 + Int.toNat a * 1) .undef)) && (decide ((0 : Int) ≤ a ∧ a < (↑m : Int)) && (pb (List.getD (setL (rdC 3 m rs) (0 + Int.toNat ↑i * 1) [.slc 1027 0 3]) (0 + Int.toNat ↑i * 1) .undef = AV.slc 1027 0 3) && (Nat.blt (0 + Int.toNat ↑i * 1) (List.length (setL (rdC 3 m rs) (0 + Int.toNat ↑i * 1) [.slc 1027 0 3])) && true) && (decide ((0 : Int) ≤ (↑i : Int) ∧ (↑i : Int) < (↑m : Int)) && (Nat.blt 1 (List.length (fltL (rAt 0 rs b).2)) && AV.isFlt (List.getD (fltL (rAt 0 rs b).2) 1 .undef) && (pb (List.getD (setL (rdC 3 m rs) (0 + Int.toNat ↑i * 1) [.slc 1027 0 3]) (0 + Int.toNat b * 1) .undef = AV.snap (fltL (rAt 0 rs b).2) 3) && (Nat.blt (0 + Int.toNat b * 1) (List.length (setL (rdC 3 m rs) (0 + Int.toNat ↑i * 1) [.slc 1027 0 3])) && true) && (decide ((0 : Int) ≤ b ∧ b < (↑m : Int)) && (Nat.blt 1 (List.length (fltL (rAt 0 rs a).2)) && AV.isFlt (List.getD (fltL (rAt 0 rs a).2) 1 .undef) && (pb (List.getD (setL (rdC 3 m rs) (0 + Int.toNat ↑i * 1) [.slc 1027 0 3]) (0 + Int.toNat a * 1) .undef = AV.snap (fltL (rAt 0 rs a).2) 3) && (Nat.blt (0 + Int.toNat a * 1) (List.length (setL (rdC 3 m rs) (0 + Int.toNat ↑i * 1) [.slc 1027 0 3])) && true) && (decide ((0 : Int) ≤ a ∧ a < (↑m : Int)) && (pb (AV.flt (AV.toFlt (List.getD (setL (rvC m rs) (0 + Int.toNat ↑i * 1) [.flt (fsub (rAt 0 rs a).1 (rAt 0 rs b).1)]) (0 + Int.toNat ↑i * 1) .undef)) = AV.flt (valR kF 0 xs rs (TOp.mk (3 : Int) a b c))) && (Nat.blt (0 + Int.toNat ↑i * 1) (List.length (setL (rvC m rs) (0 + Int.toNat ↑i * 1) [.flt (fsub (rAt 0 rs a).1 (rAt 0 rs b).1)])) && AV.isFlt (List.getD (setL (rvC m rs) (0 + Int.toNat ↑i * 1) [.flt (fsub (rAt 0 rs a).1 (rAt 0 rs b).1)]) (0 + Int.toNat ↑i * 1) .undef)) && (decide ((0 : Int) ≤ (↑i : Int) ∧ (↑i : Int) < (↑m : Int)) && (pb (AV.flt (AV.toFlt (List.getD (setL (rvC m rs) (0 + Int.toNat ↑i * 1) [.flt (fsub (rAt 0 rs a).1 (rAt 0 rs b).1)]) (0 + Int.toNat b * 1) .undef)) = AV.flt (rAt 0 rs b).1) && (Nat.blt (0 + Int.toNat b * 1) (List.length (setL (rvC m rs) (0 + Int.toNat ↑i * 1) [.flt (fsub (rAt 0 rs a).1 (rAt 0 rs b).1)])) && AV.isFlt (List.getD (setL (rvC m rs) (0 + Int.toNat ↑i * 1) [.flt (fsub (rAt 0 rs a).1 (rAt 0 rs b).1)]) (0 + Int.toNat b * 1) .undef)) && (decide ((0 : Int) ≤ b ∧ b < (↑m : Int)) && (pb (AV.flt (AV.toFlt (List.getD (setL (rvC m rs) (0 + Int.toNat ↑i * 1) [.flt (fsub (rAt 0 rs a).1 (rAt 0 rs b).1)]) (0 + Int.toNat a * 1) .undef)) = AV.flt (rAt 0 rs a).1) && (Nat.blt (0 + Int.toNat a * 1) (List.length (setL (rvC m rs) (0 + Int.toNat ↑i * 1) [.flt (fsub (rAt 0 rs a).1 (rAt 0 rs b).1)])) && AV.isFlt (List.getD (setL (rvC m rs) (0 + Int.toNat ↑i * 1) [.flt (fsub (rAt 0 rs a).1 (rAt 0 rs b).1)]) (0 + Int.toNat a * 1) .undef)) && (decide ((0 : Int) ≤ a ∧ a < (↑m : Int)) && (pb (List.getD (setL (rdC 3 m rs) (0 + Int.toNat ↑i * 1) [.slc 1027 0 3]) (0 + Int.toNat ↑i * 1) .undef = AV.slc 1027 0 3) && (Nat.blt (0 + Int.toNat ↑i * 1) (List.length (setL (rdC 3 m rs) (0 + Int.toNat ↑i * 1) [.slc 1027 0 3])) && true) && (decide ((0 : Int) ≤ (↑i : Int) ∧ (↑i : Int) < (↑m : Int)) && (Nat.blt 0 (List.length (fltL (rAt 0 rs b).2)) && AV.isFlt (List.getD (fltL (rAt 0 rs b).2) 0 .undef) && (pb (List.getD (setL (rdC 3 m rs) (0 + Int.toNat ↑i * 1) [.slc 1027 0 3]) (0 + Int.toNat b * 1) .undef = AV.snap (fltL (rAt 0 rs b).2) 3) && (Nat.blt (0 + Int.toNat b * 1) (List.length (setL (rdC 3 m rs) (0 + Int.toNat ↑i * 1) [.slc 1027 0 3])) && true) && (decide ((0 : Int) ≤ b ∧ b < (↑m : Int)) && (Nat.blt 0 (List.length (fltL (rAt 0 rs a).2)) && AV.isFlt (List.getD (fltL (rAt 0 rs a).2) 0 .undef) && (pb (List.getD (setL (rdC 3 m rs) (0 + Int.toNat ↑i * 1) [.slc 1027 0 3]) (0 + Int.toNat a * 1) .undef = AV.snap (fltL (rAt 0 rs a).2) 3) && (Nat.blt (0 + Int.toNat a * 1) (List.length (setL (rdC 3 m rs) (0 + Int.toNat ↑i * 1) [.slc 1027 0 3])) && true) && (decide ((0 : Int) ≤ a ∧ a < (↑m : Int)) && (pb (AV.flt (AV.toFlt (List.getD (setL (rvC m rs) (0 + Int.toNat ↑i * 1) [.flt (fsub (rAt 0 rs a).1 (rAt 0 rs b).1)]) (0 + Int.toNat ↑i * 1) .undef)) = AV.flt (valR kF 0 xs rs (TOp.mk (3 : Int) a b c))) && (Nat.blt (0 + Int.toNat ↑i * 1) (List.length (setL (rvC m rs) (0 + Int.toNat ↑i * 1) [.flt (fsub (rAt 0 rs a).1 (rAt 0 rs b).1)])) && AV.isFlt (List.getD (setL (rvC m rs) (0 + Int.toNat ↑i * 1) [.flt (fsub (rAt 0 rs a).1 (rAt 0 rs b).1)]) (0 + Int.toNat ↑i * 1) .undef)) && (decide ((0 : Int) ≤ (↑i : Int) ∧ (↑i : Int) < (↑m : Int)) && (pb (AV.flt (AV.toFlt (List.getD (setL (rvC m rs) (0 + Int.toNat ↑i * 1) [.flt (fsub (rAt 0 rs a).1 (rAt 0 rs b).1)]) (0 + Int.toNat b * 1) .undef)) = AV.flt (rAt 0 rs b).1) && (Nat.blt (0 + Int.toNat b * 1) (List.length (setL (rvC m rs) (0 + Int.toNat ↑i * 1) [.flt (fsub (rAt 0 rs a).1 (rAt 0 rs b).1)])) && AV.isFlt (List.getD (setL (rvC m rs) (0 + Int.toNat ↑i * 1) [.flt (fsub (rAt 0 rs a).1 (rAt 0 rs b).1)]) (0 + Int.toNat b * 1) .undef)) && (decide ((0 : Int) ≤ b ∧ b < (↑m : Int)) && (pb (AV.flt (AV.toFlt (List.getD (setL (rvC m rs) (0 + Int.toNat ↑i * 1) [.flt (fsub (rAt 0 rs a).1 (rAt 0 rs b).1)]) (0 + Int.toNat a * 1) .undef)) = AV.flt (rAt 0 rs a).1) && (Nat.blt (0 + Int.toNat a * 1) (List.length (setL (rvC m rs) (0 + Int.toNat ↑i * 1) [.flt (fsub (rAt 0 rs a).1 (rAt 0 rs b).1)])) && AV.isFlt (List.getD (setL (rvC m rs) (0 + Int.toNat ↑i * 1) [.flt (fsub (rAt 0 rs a).1 (rAt 0 rs b).1)]) (0 + Int.toNat a * 1) .undef)) && (decide ((0 : Int) ≤ a ∧ a < (↑m : Int)) && (pb (List.getD (setL (rdC 3 m rs) (0 + Int.toNat ↑i * 1) [.slc 1027 0 3]) (0 + Int.toNat ↑i * 1) .undef = AV.slc 1027 0 3) && (Nat.blt (0 + Int.toNat ↑i * 1) (List.length (setL (rdC 3 m rs) (0 + Int.toNat ↑i * 1) [.slc 1027 0 3])) && true) && (decide ((0 : Int) ≤ (↑i : Int) ∧ (↑i : Int) < (↑m : Int)) && (Nat.ble (0 + Int.toNat ↑i * 1 + 1) (List.length (rvC m rs)) && true && (decide ((0 : Int) ≤ (↑i : Int) ∧ (↑i : Int) < (↑m : Int)) && (pb (AV.flt (AV.toFlt (List.getD (rvC m rs) (0 + Int.toNat b * 1) .undef)) = AV.flt (rAt 0 rs b).1) && (Nat.blt (0 + Int.toNat b * 1) (List.length (rvC m rs)) && AV.isFlt (List.getD (rvC m rs) (0 + Int.toNat b * 1) .undef)) && (decide ((0 : Int) ≤ b ∧ b < (↑m : Int)) && (pb (AV.flt (AV.toFlt (List.getD (rvC m rs) (0 + Int.toNat a * 1) .undef)) = AV.flt (rAt 0 rs a).1) && (Nat.blt (0 + Int.toNat a * 1) (List.length (rvC m rs)) && AV.isFlt (List.getD (rvC m rs) (0 + Int.toNat a * 1) .undef)) && (decide ((0 : Int) ≤ a ∧ a < (↑m : Int)) && (Nat.ble (0 + Int.toNat ↑i * 1 + 1) (List.length (rdC 3 m rs)) && true && (decide ((0 : Int) ≤ (↑i : Int) ∧ (↑i : Int) < (↑m : Int)) && (pb (AV.agg [.int .i64 (AV.toInt (List.getD (opsL ops) (Int.toNat ↑i * 4) .undef)), .int .i64 (AV.toInt (List.getD (opsL ops) (Int.toNat ↑i * 4 + 1) .undef)), .int .i64 (AV.toInt (List.getD (opsL ops) (Int.toNat ↑i * 4 + 1 + 1) .undef)), .flt (AV.toFlt (List.getD (opsL ops) (Int.toNat ↑i * 4 + 1 + 1 + 1) .undef))] = AV.agg [.int .i64 3, .int .i64 a, .int .i64 b, .flt c]) && (Nat.ble (Int.toNat ↑i * 4 + 4) (List.length (opsL ops)) && etasOk [Leaf.i IntKind.i64, Leaf.i IntKind.i64, Leaf.i IntKind.i64, Leaf.f] (opsL ops) (Int.toNat ↑i * 4)) && (decide ((0 : Int) ≤ (↑i : Int) ∧ (↑i : Int) < (↑m : Int)) && (decide ((↑i : Int) < (↑m : Int)) && true)))))))))))))))))))))))))))))))))))))))))))))))))))))))) = true) : Goes CM w0 191 (eBody) (mk [1,2,5,6,7] [.snap (fltL xs) lx, .ptr 0 0, .slc 1 0 m, .slc 2 0 m, .int .i64 (i : Int)] [⟨[.int .i64 3, .snap (opsL ops) m, .snap (intL outs) 3], 53⟩, ⟨rvC m rs, 24⟩, ⟨rdC 3 m rs, 34⟩] dec0) Ex.normal (mk [1,2,5,6,7] [.snap (fltL xs) lx, .ptr 0 0, .slc 1 0 m, .slc 2 0 m, .int .i64 (IntKind.wrap IntKind.i64 ((↑i : Int) + (1 : Int)))] [ABlk.mk [.int .i64 3, .snap (opsL ops) m, .snap (intL outs) 3] 53, ABlk.mk (rvC m (rs ++ [stepR kF 0 3 xs rs (TOp.mk (3 : Int) a b c)])) 24, ABlk.mk (rdC 3 m (rs ++ [stepR kF 0 3 xs rs (TOp.mk (3 : Int) a b c)])) 34] dec1) :=
  goes_re (dec := [true]) (goes_O (l := [(31, .agg [.int .i64 3, .int .i64 a, .int .i64 b, .flt c]), (135, .slc 1027 0 3), (143, .flt (rAt 0 rs a).v), (148, .flt (rAt 0 rs b).v), (152, .flt (valR kF 0 xs rs ⟨3, a, b, c⟩)), (157, .snap (fltL (rAt 0 rs a).d) 3), (165, .snap (fltL (rAt 0 rs b).d) 3), (102, .flt (rAt 0 rs a).v), (107, .flt (rAt 0 rs b).v)]) (goes_viewK' (ctxO_ok OM _) mixed (qs := [24]) (fuel := 8) [.lit, .giv (rvC m (rs ++ [stepR kF 0 3 xs rs ⟨3, a, b, c⟩])) [], .giv (rdC 3 m (rs ++ [stepR kF 0 3 xs rs ⟨3, a, b, c⟩])) [1027], .frzGiv (fltL (stepR kF 0 3 xs rs ⟨3, a, b, c⟩).d) []] (by kernel_rfl) hok dec1))
theorem eI3_4 (xs : List Nat) (lx : Nat) (ops : List TOp) (m : Nat) (outs : List Int) (rs : List (Rg Nat)) (i : Nat) (a b : Int) (c : Nat) (w0 : World) (dec0 dec1 : List Bool) (hok : ((pb (SubP true [] [] 0 [.flt (fadd (fmul (AV.toFlt (List.getD (fltL (rAt 0 rs a).2) 0 .undef)) (rAt 0 rs b).1) (fmul (rAt 0 rs a).1 (AV.toFlt (List.getD (fltL (rAt 0 rs b).2) 0 .undef)))), .flt (fadd (fmul (AV.toFlt (List.getD (fltL (rAt 0 rs a).2) 1 .undef)) (rAt 0 rs b).1) (fmul (rAt 0 rs a).1 (AV.toFlt (List.getD (fltL (rAt 0 rs b).2) 1 .undef)))), .flt (fadd (fmul (AV.toFlt (List.getD (fltL (rAt 0 rs a).2) 2 .undef)) (rAt 0 rs b).1) (fmul (rAt 0 rs a).1 (AV.toFlt (List.getD (fltL (rAt 0 rs b).2) 2 .undef))))] [.flt (slopeR kF 0 rs (TOp.mk (4 : Int) a b c) (valR kF 0 xs rs (TOp.mk (4 : Int) a b c)) 0), .flt (slopeR kF 0 rs (TOp.mk (4 : Int) a b c) (valR kF 0 xs rs (TOp.mk (4 : Int) a b c)) 1), .flt (slopeR kF 0 rs (TOp.mk (4 : Int) a b c) (valR kF 0 xs rs (TOp.mk (4 : Int) a b c)) 2)]) && true && (pb (SubP true [(1027, [.flt (slopeR kF 0 rs (TOp.mk (4 : Int) a b c) (valR kF 0 xs rs (TOp.mk (4 : Int) a b c)) 0), .flt (slopeR kF 0 rs (TOp.mk (4 : Int) a b c) (valR kF 0 xs rs (TOp.mk (4 : Int) a b c)) 1), .flt (slopeR kF 0 rs (TOp.mk (4 : Int) a b c) (valR kF 0 xs rs (TOp.mk (4 : Int) a b c)) 2)])] [0, 1, 2] 0 (setL (rvC m rs) (0 + Int.toNat ↑i * 1) [.flt (fmul (rAt 0 rs a).1 (rAt 0 rs b).1)]) (rvC m (rs ++ [stepR kF 0 3 xs rs (TOp.mk (4 : Int) a b c)]))) && (pb (SubP true [(1027, [.flt (slopeR kF 0 rs (TOp.mk (4 : Int) a b c) (valR kF 0 xs rs (TOp.mk (4 : Int) a b c)) 0), .flt (slopeR kF 0 rs (TOp.mk (4 : Int) a b c) (valR kF 0 xs rs (TOp.mk (4 : Int) a b c)) 1), .flt (slopeR kF 0 rs (TOp.mk (4 : Int) a b c) (valR kF 0 xs rs (TOp.mk (4 : Int) a b c)) 2)])] [0, 1, 2] 0 (setL (rdC 3 m rs) (0 + Int.toNat ↑i * 1) [.slc 1027 0 3]) (rdC 3 m (rs ++ [stepR kF 0 3 xs rs (TOp.mk (4 : Int) a b c)]))) && true) && (Nat.blt 2 (List.length (fltL (rAt 0 rs b).2)) && AV.isFlt (List.getD (fltL (rAt 0 rs b).2) 2 .undef) && (pb (List.getD (setL (rdC 3 m rs) (0 + Int.toNat ↑i * 1) [.slc 1027 0 3]) (0 + Int.toNat b * 1) .undef = AV.snap (fltL (rAt 0 rs b).2) 3) && (Nat.blt (0 + Int.toNat b * 1) (List.length (setL (rdC 3 m rs) (0 + Int.toNat ↑i * 1) [.slc 1027 0 3])) && true) && (decide ((0 : Int) ≤ b ∧ b < (↑m : Int)) && (Nat.blt 2 (List.length (fltL (rAt 0 rs a).2)) && AV.isFlt (List.getD (fltL (rAt 0 rs a).2) 2 .undef) && (pb (List.getD (setL (rdC 3 m rs) (0 + Int.toNat ↑i * 1) [.slc 1027 0 3]) (0 + Int.toNat a * 1) .undef = AV.snap (fltL (rAt 0 rs a).2) 3) && (Nat.blt (0 + Int.toNat a * 1) (List.length (setL (rdC 3 m rs) (0 + Int.toNat ↑i * 1) [.slc 1027 0 3])) && true) && (decide ((0 : Int) ≤ a ∧ a < (↑m : Int)) && (pb (AV.flt (AV.toFlt (List.getD (setL (rvC m rs) (0 + Int.toNat ↑i * 1) [.flt (fmul (rAt 0 rs a).1 (rAt 0 rs b).1)]) (0 + Int.toNat ↑i * 1) .undef)) = AV.flt (valR kF 0 xs rs (TOp.mk (4 : Int) a b c))) && (Nat.blt (0 + Int.toNat ↑i * 1) (List.length (setL (rvC m rs) (0 + Int.toNat ↑i * 1) [.flt (fmul (rAt 0 rs a).1 (rAt 0 rs b).1)])) && AV.isFlt (List.getD (setL (rvC m rs) (0 + Int.toNat ↑i * 1) [.flt (fmul (rAt 0 rs a).1 (rAt 0 rs b).1)]) (0 + Int.toNat ↑i * 1) .undef)) && (decide ((0 : Int) ≤ (↑i : Int) ∧ (↑i : Int) < (↑m : Int)) && (pb (AV.flt (AV.toFlt (List.getD (setL (rvC m rs) (0 + Int.toNat ↑i * 1) [.flt (fmul (rAt 0 rs a).1 (rAt 0 rs b).1)]) (0 + Int.toNat b * 1) .undef)) = AV.flt (rAt 0 rs b).1) && (Nat.blt (0 + Int.toNat b * 1) (List.length (setL (rvC m rs) (0 + Int.toNat ↑i * 1) [.flt (fmul (rAt 0 rs a).1 (rAt 0 rs b).1)])) && AV.isFlt (List.getD (setL (rvC m rs) (0 + Int.toNat ↑i * 1) [.flt (fmul (rAt 0 rs a).1 (rAt 0 rs b).1)]) (0 + Int.toNat b * 1) .undef)) && (decide ((0 : Int) ≤ b ∧ b < (↑m : Int)) && (pb (AV.flt (AV.toFlt (List.getD (setL (rvC m rs) (0 + Int.toNat ↑i * 1) [.flt (fmul (rAt 0 rs a).1 (rAt 0 rs b).1)]) (0 + Int.toNat a * 1) .undef)) = AV.flt (rAt 0 rs a).1) && (Nat.blt (0 + Int.toNat a * 1) (List.length (setL (rvC m rs) (0 + Int.toNat ↑i * 1) [.flt (fmul (rAt 0 rs a).1 (rAt 0 rs b).1)])) && AV.isFlt (List.getD (setL (rvC m rs) (0 + Int.toNat ↑i * 1) [.flt (fmul (rAt 0 rs a).1 (rAt 0 rs b).1)]) (0 + Int.toNat a * 1) .undef)) && (decide ((0 : Int) ≤ a ∧ a < (↑m : Int)) && (pb (List.getD (setL (rdC 3 m rs) (0 + Int.toNat ↑i * 1) [.slc 1027 0 3]) (0 + Int.toNat ↑i * 1) .undef = AV.slc 1027 0 3) && (Nat.blt (0 + Int.toNat ↑i * 1) (List.length (setL (rdC 3 m rs) (0 + Int.toNat ↑i * 1) [.slc 1027 0 3])) && true) && (decide ((0 : Int) ≤ (↑i : Int) ∧ (↑i : Int) < (↑m : Int)) && (Nat.blt 1 (List.length (fltL (rAt 0 rs b).2)) && AV.isFlt (List.getD (fltL (rAt 0 rs b).2) 1 .undef) && (pb (List.getD (setL (rdC 3 m rs) (0 + Int.toNat ↑i * 1) [.slc 1027 0 3]) (0 + Int.toNat b * 1) .undef = AV.snap (fltL (rAt 0 rs b).2) 3) && (Nat.blt (0 + Int.toNat b * 1) (List.length (setL (rdC 3 m rs) (0 + Int.toNat ↑i * 1) [.slc 1027 0 3])) && true) && (decide ((0 : Int) ≤ b ∧ b < (↑m : Int)) && (Nat.blt 1 (List.length (fltL (rAt 0 rs a).2)) && AV.isFlt (List.getD (fltL (rAt 0 rs a).2) 1 .undef) && (pb (List.getD (setL (rdC 3 m rs) (0 + Int.toNat ↑i * 1) [.slc 1027 0 3]) (0 + Int.toNat a * 1) .undef = AV.snap (fltL (rAt 0 rs a).2) 3) && (Nat.blt (0 + Int.toNat a * 1) (List.length (setL (rdC 3 m rs) (0 + Int.toNat ↑i * 1) [.slc 1027 0 3])) && true) && (decide ((0 : Int) ≤ a ∧ a < (↑m : Int)) && (pb (AV.flt (AV.toFlt (List.getD (setL (rvC m rs) (0 + Int.toNat ↑i * 1) [.flt (fmul (rAt 0 rs a).1 (rAt 0 rs b).1)]) (0 + Int.toNat ↑i * 1) .undef)) = AV.flt (valR kF 0 xs rs (TOp.mk (4 : Int) a b c))) && (Nat.blt (0 + Int.toNat ↑i * 1) (List.length (setL (rvC m rs) (0 + Int.toNat ↑i * 1) [.flt (fmul (rAt 0 rs a).1 (rAt 0 rs b).1)])) && AV.isFlt (List.getD (setL (rvC m rs) (0 + Int.toNat ↑i * 1) [.flt (fmul (rAt 0 rs a).1 (rAt 0 rs b).1)]) (0 + Int.toNat ↑i * 1) .undef)) && (decide ((0 : Int) ≤ (↑i : Int) ∧ (↑i : Int) < (↑m : Int)) && (pb (AV.flt (AV.toFlt (List.getD (setL (rvC m rs) (0 + Int.toNat ↑i * 1) [.flt (fmul (rAt 0 rs a).1 (rAt 0 rs b).1)]) (0 + Int.toNat b * 1) .undef)) = AV.flt (rAt 0 rs b).1) && (Nat.blt (0 + Int.toNat b * 1) (List.length (setL (rvC m rs) (0 + Int.toNat ↑i * 1) [.flt (fmul (rAt 0 rs a).1 (rAt 0 rs b).1)])) && AV.isFlt (List.getD (setL (rvC m rs) (0 + Int.toNat ↑i * 1) [.flt (fmul (rAt 0 rs a).1 (rAt 0 rs b).1)]) (0 + Int.toNat b * 1) .undef)) && (decide ((0 : Int) ≤ b ∧ b < (↑m : Int)) && (pb (AV.flt (AV.toFlt (List.getD (setL (rvC m rs) (0 + Int.toNat ↑i * 1) [.flt (fmul (rAt 0 rs a).1 (rAt 0 rs b).1)]) (0 + Int.toNat a * 1) .undef)) = AV.flt (rAt 0 rs a).1) && (Nat.blt (0 + Int.toNat a * 1) (List.length (setL (rvC m rs) (0 + Int.toNat ↑i * 1) [.flt (fmul (rAt 0 rs a).1 (rAt 0 rs b).1)])) && AV.isFlt (List.getD (setL (rvC m rs) (0 + Int.toNat ↑i * 1) [.flt (fmul (rAt 0 rs a).1 (rAt 0 rs b).1)]) (0 + Int.toNat a * 1) .undef)) && (decide ((0 : Int) ≤ a ∧ a < (↑m : Int)) && (pb (List.getD (setL (rdC 3 m rs) (0 + Int.toNat ↑i * 1) [.slc 1027 0 3]) (0 + Int.toNat ↑i * 1) .undef = AV.slc 1027 0 3) && (Nat.blt (0 + Int.toNat ↑i * 1) (List.length (setL (rdC 3 m rs) (0 + Int.toNat ↑i * 1) [.slc 1027 0 3])) && true) && (decide ((0 : Int) ≤ (↑i : Int) ∧ (↑i : Int) < (↑m : Int)) && (Nat.blt 0 (List.length (fltL (rAt 0 rs b).2)) && AV.isFlt (List.getD (fltL (rAt 0 rs b).2) 0 .undef) && (pb (List.getD (setL (rdC 3 m rs) (0 + Int.toNat ↑i * 1) [.slc 1027 0 3]) (0 + Int.toNat b * 1) .undef = AV.snap (fltL (rAt 0 rs b).2) 3) && (Nat.blt (0 + Int.toNat b * 1) (List.length (setL (rdC 3 m rs) (0 + Int.toNat ↑i * 1) [.slc 1027 0 3])) && true) && (decide ((0 : Int) ≤ b ∧ b < (↑m : Int)) && (Nat.blt 0 (List.length (fltL (rAt 0 rs a).2)) && AV.isFlt (List.getD (fltL (rAt 0 rs a).2) 0 .undef) && (pb (List.getD (setL (rdC 3 m rs) (0 + Int.toNat ↑i * 1) [.slc 1027 0 3]) (0 + Int.toNat a * 1) .undef = AV.snap (fltL (rAt 0 rs a).2) 3) && (Nat.blt (0 + Int.toNat a * 1) (List.length (setL (rdC 3 m rs) (0 + Int.toNat ↑i * 1) [.slc 1027 0 3])) && true) && (decide ((0 : Int) ≤ a ∧ a < (↑m : Int)) && (pb (AV.flt (AV.toFlt (List.getD (setL (rvC m rs) (0 + Int.toNat ↑i * 1) [.flt (fmul (rAt 0 rs a).1 (rAt 0 rs b).1)]) (0 + Int.toNat ↑i * 1) .undef)) = AV.flt (valR kF 0 xs rs (TOp.mk (4 : Int) a b c))) && (Nat.blt (0 + Int.toNat ↑i * 1) (List.length (setL (rvC m rs) (0 + Int.toNat ↑i * 1) [.flt (fmul (rAt 0 rs a).1 (rAt 0 rs b).1)])) && AV.isFlt (List.getD (setL (rvC m rs) (0 + Int.toNat ↑i * 1) [.flt (fmul (rAt 0 rs a).1 (rAt 0 rs b).1)]) (0 + Int.toNat ↑i * 1) .undef)) && (decide ((0 : Int) ≤ (↑i : Int) ∧ (↑i : Int) < (↑m : Int)) && (pb (AV.flt (AV.toFlt (List.getD (setL (rvC m rs) (0 + Int.toNat ↑i * 1) [.flt (fmul (rAt 0 rs a).1 (rAt 0 rs b).1)]) (0 + Int.toNat b * 1) .undef)) = AV.flt (rAt 0 rs b).1) && (Nat.blt (0 + Int.toNat b * 1) (List.length (setL (rvC m rs) (0 + Int.toNat ↑i * 1) [.flt (fmul (rAt 0 rs a).1 (rAt 0 rs b).1)])) && AV.isFlt (List.getD (setL (rvC m rs) (0 + Int.toNat ↑i * 1) [.flt (fmul (rAt 0 rs a).1 (rAt 0 rs b).1)]) (0 + Int.toNat b * 1) .undef)) && (decide ((0 : Int) ≤ b ∧ b < (↑m : Int)) && (pb (AV.flt (AV.toFlt (List.getD (setL (rvC m rs) (0 + Int.toNat ↑i * 1) [.flt (fmul (rAt 0 rs a).1 (rAt 0 rs b).1)]) (0 + Int.toNat a * 1) .undef)) = AV.flt (rAt 0 rs a).1) && (Nat.blt (0 + Int.toNat a * 1) (List.length (setL (rvC m rs) (0 + Int.toNat ↑i * 1) [.flt (fmul (rAt 0 rs a).1 (rAt 0 rs b).1)])) && AV.isFlt (List.getD (setL (rvC m rs) (0 + Int.toNat ↑i * 1) [.flt (fmul (rAt 0 rs a).1 (rAt 0 rs b).1)]) (0 + Int.toNat a * 1) .undef)) && (decide ((0 : Int) ≤ a ∧ a < (↑m : Int)) && (pb (List.getD (setL (rdC 3 m rs) (0 + Int.toNat ↑i * 1) [.slc 1027 0 3]) (0 + Int.toNat ↑i * 1) .undef = AV.slc 1027 0 3) && (Nat.blt (0 + Int.toNat ↑i * 1) (List.length (setL (rdC 3 m rs) (0 + Int.toNat ↑i * 1) [.slc 1027 0 3])) && true) && (decide ((0 : Int) ≤ (↑i : Int) ∧ (↑i : Int) < (↑m : Int)) && (Nat.ble (0 + Int.toNat ↑i * 1 + 1) (List.length (rvC m rs)) && true && (decide ((0 : Int) ≤ (↑i : Int) ∧ (↑i : Int) < (↑m : Int)) && (pb (AV.flt (AV.toFlt (List.getD (rvC m rs) (0 + Int.toNat b * 1) .undef)) = AV.flt (rAt 0 rs b).1) && (Nat.blt (0 + Int.toNat b * 1) (List.length (rvC m rs)) && AV.isFlt (List.getD (rvC m rs) (0 + Int.toNat b * 1) .undef)) && (decide ((0 : Int) ≤ b ∧ b < (↑m : Int)) && (pb (AV.flt (AV.toFlt (List.getD (rvC m rs) (0 + Int.toNat a * 1) .undef)) = AV.flt (rAt 0 rs a).1) && (Nat.blt (0 + Int.toNat a * 1) (List.length (rvC m rs)) && AV.isFlt (List.getD (rvC m rs) (0 + Int.toNat a * 1) .undef)) && (decide ((0 : Int) ≤ a ∧ a < (↑m : Int)) && (Nat.ble (0 + Int.toNat ↑i * 1 + 1) (List.length (rdC 3 m rs)) && true && (decide ((0 : Int) ≤ (↑i : Int) ∧ (↑i : Int) < (↑m : Int)) && (pb (AV.agg [.int .i64 (AV.toInt (List.getD (opsL ops) (Int.toNat ↑i * 4) .undef)), .int .i64 (AV.toInt (List.getD (opsL ops) (Int.toNat ↑i * 4 + 1) .undef)), .int .i64 (AV.toInt (List.getD (opsL ops) (Int.toNat ↑i * 4 + 1 + 1) .undef)), .flt (AV.toFlt (List.getD (opsL ops) (Int.toNat ↑i * 4 + 1 + 1 + 1) .undef))] = AV.agg [.int .i64 4, .int .i64 a, .int .i64 b, .flt c]) && (Nat.ble (Int.toNat ↑i * 4 + 4) (List.length (opsL ops)) && etasOk [Leaf.i IntKind.i64, Leaf.i IntKind.i64, Leaf.i IntKind.i64, Leaf.f] (opsL ops) (Int.toNat ↑i * 4)) && (decide ((0 : Int) ≤ (↑i : Int) ∧ (↑i : Int) < (↑m : Int)) && (decide ((↑i : Int) < (↑m : Int)) && true)))))))))))))))))))))))))))))))))))))))))))))))))))))))) = true) : Goes CM w0 191 (eBody) (mk [1,2,5,6,7] [.snap (fltL xs) lx, .ptr 0 0, .slc 1 0 m, .slc 2 0 m, .int .i64 (i : Int)] [⟨[.int .i64 3, .snap (opsL ops) m, .snap (intL outs) 3], 53⟩, ⟨rvC m rs, 24⟩, ⟨rdC 3 m rs, 34⟩] dec0) Ex.normal (mk [1,2,5,6,7] [.snap (fltL xs) lx, .ptr 0 0, .slc 1 0 m, .slc 2 0 m, .int .i64 (IntKind.wrap IntKind.i64 ((↑i : Int) + (1 : Int)))] [ABlk.mk [.int .i64 3, .snap (opsL ops) m, .snap (intL outs) 3] 53, ABlk.mk (rvC m (rs ++ [stepR kF 0 3 xs rs (TOp.mk (4 : Int) a b c)])) 24, ABlk.mk (rdC 3 m (rs ++ [stepR kF 0 3 xs rs (TOp.mk (4 : Int) a b c)])) 34] dec1) :=
  goes_re (dec := [true]) (goes_O (l := [(31, .agg [.int .i64 4, .int .i64 a, .int .i64 b, .flt c]), (135, .slc 1027 0 3), (143, .flt (rAt 0 rs a).v), (148, .flt (rAt 0 rs b).v), (152, .flt (valR kF 0 xs rs ⟨4, a, b, c⟩)), (157, .snap (fltL (rAt 0 rs a).d) 3), (165, .snap (fltL (rAt 0 rs b).d) 3), (118, .flt (rAt 0 rs a).v), (123, .flt (rAt 0 rs b).v)]) (goes_viewK' (ctxO_ok OM _) mixed (qs := [24]) (fuel := 8) [.lit, .giv (rvC m (rs ++ [stepR kF 0 3 xs rs ⟨4, a, b, c⟩])) [], .giv (rdC 3 m (rs ++ [stepR kF 0 3 xs rs ⟨4, a, b, c⟩])) [1027], .frzGiv (fltL (stepR kF 0 3 xs rs ⟨4, a, b, c⟩).d) []] (by kernel_rfl) hok dec1))
theorem eI3_5 (xs : List Nat) (lx : Nat) (ops : List TOp) (m : Nat) (outs : List Int) (rs : List (Rg Nat)) (i : Nat) (a b : Int) (c : Nat) (w0 : World) (dec0 dec1 : List Bool) (hok : ((pb (SubP true [] [] 0 [.flt (fdiv (fsub (AV.toFlt (List.getD (fltL (rAt 0 rs a).2) 0 .undef)) (fmul (valR kF 0 xs rs (TOp.mk (5 : Int) a b c)) (AV.toFlt (List.getD (fltL (rAt 0 rs b).2) 0 .undef)))) (rAt 0 rs b).1), .flt (fdiv (fsub (AV.toFlt (List.getD (fltL (rAt 0 rs a).2) 1 .undef)) (fmul (valR kF 0 xs rs (TOp.mk (5 : Int) a b c)) (AV.toFlt (List.getD (fltL (rAt 0 rs b).2) 1 .undef)))) (rAt 0 rs b).1), .flt (fdiv (fsub (AV.toFlt (List.getD (fltL (rAt 0 rs a).2) 2 .undef)) (fmul (valR kF 0 xs rs (TOp.mk (5 : Int) a b c)) (AV.toFlt (List.getD (fltL (rAt 0 rs b).2) 2 .undef)))) (rAt 0 rs b).1)] [.flt (slopeR kF 0 rs (TOp.mk (5 : Int) a b c) (valR kF 0 xs rs (TOp.mk (5 : Int) a b c)) 0), .flt (slopeR kF 0 rs (TOp.mk (5 : Int) a b c) (valR kF 0 xs rs (TOp.mk (5 : Int) a b c)) 1), .flt (slopeR kF 0 rs (TOp.mk (5 : Int) a b c) (valR kF 0 xs rs (TOp.mk (5 : Int) a b c)) 2)]) && true && (pb (SubP true [(1027, [.flt (slopeR kF 0 rs (TOp.mk (5 : Int) a b c) (valR kF 0 xs rs (TOp.mk (5 : Int) a b c)) 0), .flt (slopeR kF 0 rs (TOp.mk (5 : Int) a b c) (valR kF 0 xs rs (TOp.mk (5 : Int) a b c)) 1), .flt (slopeR kF 0 rs (TOp.mk (5 : Int) a b c) (valR kF 0 xs rs (TOp.mk (5 : Int) a b c)) 2)])] [0, 1, 2] 0 (setL (rvC m rs) (0 + Int.toNat ↑i * 1) [.flt (fdiv (rAt 0 rs a).1 (rAt 0 rs b).1)]) (rvC m (rs ++ [stepR kF 0 3 xs rs (TOp.mk (5 : Int) a b c)]))) && (pb (SubP true [(1027, [.flt (slopeR kF 0 rs (TOp.mk (5 : Int) a b c) (valR kF 0 xs rs (TOp.mk (5 : Int) a b c)) 0), .flt (slopeR kF 0 rs (TOp.mk (5 : Int) a b c) (valR kF 0 xs rs (TOp.mk (5 : Int) a b c)) 1), .flt (slopeR kF 0 rs (TOp.mk (5 : Int) a b c) (valR kF 0 xs rs (TOp.mk (5 : Int) a b c)) 2)])] [0, 1, 2] 0 (setL (rdC 3 m rs) (0 + Int.toNat ↑i * 1) [.slc 1027 0 3]) (rdC 3 m (rs ++ [stepR kF 0 3 xs rs (TOp.mk (5 : Int) a b c)]))) && true) && (Nat.blt 2 (List.length (fltL (rAt 0 rs b).2)) && AV.isFlt (List.getD (fltL (rAt 0 rs b).2) 2 .undef) && (pb (List.getD (setL (rdC 3 m rs) (0 + Int.toNat ↑i * 1) [.slc 1027 0 3]) (0 + Int.toNat b * 1) .undef = AV.snap (fltL (rAt 0 rs b).2) 3) && (Nat.blt (0 + Int.toNat b * 1) (List.length (setL (rdC 3 m rs) (0 + Int.toNat ↑i * 1) [.slc 1027 0 3])) && true) && (decide ((0 : Int) ≤ b ∧ b < (↑m : Int)) && (Nat.blt 2 (List.length (fltL (rAt 0 rs a).2)) && AV.isFlt (List.getD (fltL (rAt 0 rs a).2) 2 .undef) && (pb (List.getD (setL (rdC 3 m rs) (0 + Int.toNat ↑i * 1) [.slc 1027 0 3]) (0 + Int.toNat a * 1) .undef = AV.snap (fltL (rAt 0 rs a).2) 3) && (Nat.blt (0 + Int.toNat a * 1) (List.length (setL (rdC 3 m rs) (0 + Int.toNat ↑i * 1) [.slc 1027 0 3])) && true) && (decide ((0 : Int) ≤ a ∧ a < (↑m : Int)) && (pb (AV.flt (AV.toFlt (List.getD (setL (rvC m rs) (0 + Int.toNat ↑i * 1) [.flt (fdiv (rAt 0 rs a).1 (rAt 0 rs b).1)]) (0 + Int.toNat ↑i * 1) .undef)) = AV.flt (valR kF 0 xs rs (TOp.mk (5 : Int) a b c))) && (Nat.blt (0 + Int.toNat ↑i * 1) (List.length (setL (rvC m rs) (0 + Int.toNat ↑i * 1) [.flt (fdiv (rAt 0 rs a).1 (rAt 0 rs b).1)])) && AV.isFlt (List.getD (setL (rvC m rs) (0 + Int.toNat ↑i * 1) [.flt (fdiv (rAt 0 rs a).1 (rAt 0 rs b).1)]) (0 + Int.toNat ↑i * 1) .undef)) && (decide ((0 : Int) ≤ (↑i : Int) ∧ (↑i : Int) < (↑m : Int)) && (pb (AV.flt (AV.toFlt (List.getD (setL (rvC m rs) (0 + Int.toNat ↑i * 1) [.flt (fdiv (rAt 0 rs a).1 (rAt 0 rs b).1)]) (0 + Int.toNat b * 1) .undef)) = AV.flt (rAt 0 rs b).1) && (Nat.blt (0 + Int.toNat b * 1) (List.length (setL (rvC m rs) (0 + Int.toNat ↑i * 1) [.flt (fdiv (rAt 0 rs a).1 (rAt 0 rs b).1)])) && AV.isFlt (List.getD (setL (rvC m rs) (0 + Int.toNat ↑i * 1) [.flt (fdiv (rAt 0 rs a).1 (rAt 0 rs b).1)]) (0 + Int.toNat b * 1) .undef)) && (decide ((0 : Int) ≤ b ∧ b < (↑m : Int)) && (pb (AV.flt (AV.toFlt (List.getD (setL (rvC m rs) (0 + Int.toNat ↑i * 1) [.flt (fdiv (rAt 0 rs a).1 (rAt 0 rs b).1)]) (0 + Int.toNat a * 1) .undef)) = AV.flt (rAt 0 rs a).1) && (Nat.blt (0 + Int.toNat a * 1) (List.length (setL (rvC m rs) (0 + Int.toNat ↑i * 1) [.flt (fdiv (rAt 0 rs a).1 (rAt 0 rs b).1)])) && AV.isFlt (List.getD (setL (rvC m rs) (0 + Int.toNat ↑i * 1) [.flt (fdiv (rAt 0 rs a).1 (rAt 0 rs b).1)]) (0 + Int.toNat a * 1) .undef)) && (decide ((0 : Int) ≤ a ∧ a < (↑m : Int)) && (pb (List.getD (setL (rdC 3 m rs) (0 + Int.toNat ↑i * 1) [.slc 1027 0 3]) (0 + Int.toNat ↑i * 1) .undef = AV.slc 1027 0 3) && (Nat.blt (0 + Int.toNat ↑i * 1) (List.length (setL (rdC 3 m rs) (0 + Int.toNat ↑i * 1) [.slc 1027 0 3])) && true) && (decide ((0 : Int) ≤ (↑i : Int) ∧ (↑i : Int) < (↑m : Int)) && (Nat.blt 1 (List.length (fltL (rAt 0 rs b).2)) && AV.isFlt (List.getD (fltL (rAt 0 rs b).2) 1 .undef) && (pb (List.getD (setL (rdC 3 m rs) (0 + Int.toNat ↑i * 1) [.slc 1027 0 3]) (0 + Int.toNat b * 1) .undef = AV.snap (fltL (rAt 0 rs b).2) 3) && (Nat.blt (0 + Int.toNat b * 1) (List.length (setL (rdC 3 m rs) (0 + Int.toNat ↑i * 1) [.slc 1027 0 3])) && true) && (decide ((0 : Int) ≤ b ∧ b < (↑m : Int)) && (Nat.blt 1 (List.length (fltL (rAt 0 rs a).2)) && AV.isFlt (List.getD (fltL (rAt 0 rs a).2) 1 .undef) && (pb (List.getD (setL (rdC 3 m rs) (0 + Int.toNat ↑i * 1) [.slc 1027 0 3]) (0 + Int.toNat a * 1) .undef = AV.snap (fltL (rAt 0 rs a).2) 3) && (Nat.blt (0 + Int.toNat a * 1) (List.length (setL (rdC 3 m rs) (0 + Int.toNat ↑i * 1) [.slc 1027 0 3])) && true) && (decide ((0 : Int) ≤ a ∧ a < (↑m : Int)) && (pb (AV.flt (AV.toFlt (List.getD (setL (rvC m rs) (0 + Int.toNat ↑i * 1) [.flt (fdiv (rAt 0 rs a).1 (rAt 0 rs b).1)]) (0 + Int.toNat ↑i * 1) .undef)) = AV.flt (valR kF 0 xs rs (TOp.mk (5 : Int) a b c))) && (Nat.blt (0 + Int.toNat ↑i * 1) (List.length (setL (rvC m rs) (0 + Int.toNat ↑i * 1) [.flt (fdiv (rAt 0 rs a).1 (rAt 0 rs b).1)])) && AV.isFlt (List.getD (setL (rvC m rs) (0 + Int.toNat ↑i * 1) [.flt (fdiv (rAt 0 rs a).1 (rAt 0 rs b).1)]) (0 + Int.toNat ↑i * 1) .undef)) && (decide ((0 : Int) ≤ (↑i : Int) ∧ (↑i : Int) < (↑m : Int)) && (pb (AV.flt (AV.toFlt (List.getD (setL (rvC m rs) (0 + Int.toNat ↑i * 1) [.flt (fdiv (rAt 0 rs a).1 (rAt 0 rs b).1)]) (0 + Int.toNat b * 1) .undef)) = AV.flt (rAt 0 rs b).1) && (Nat.blt (0 + Int.toNat b * 1) (List.length (setL (rvC m rs) (0 + Int.toNat ↑i * 1) [.flt (fdiv (rAt 0 rs a).1 (rAt 0 rs b).1)])) && AV.isFlt (List.getD (setL (rvC m rs) (0 + Int.toNat ↑i * 1) [.flt (fdiv (rAt 0 rs a).1 (rAt 0 rs b).1)]) (0 + Int.toNat b * 1) .undef)) && (decide ((0 : Int) ≤ b ∧ b < (↑m : Int)) && (pb (AV.flt (AV.toFlt (List.getD (setL (rvC m rs) (0 + Int.toNat ↑i * 1) [.flt (fdiv (rAt 0 rs a).1 (rAt 0 rs b).1)]) (0 + Int.toNat a * 1) .undef)) = AV.flt (rAt 0 rs a).1) && (Nat.blt (0 + Int.toNat a * 1) (List.length (setL (rvC m rs) (0 + Int.toNat ↑i * 1) [.flt (fdiv (rAt 0 rs a).1 (rAt 0 rs b).1)])) && AV.isFlt (List.getD (setL (rvC m rs) (0 + Int.toNat ↑i * 1) [.flt (fdiv (rAt 0 rs a).1 (rAt 0 rs b).1)]) (0 + Int.toNat a * 1) .undef)) && (decide ((0 : Int) ≤ a ∧ a < (↑m : Int)) && (pb (List.getD (setL (rdC 3 m rs) (0 + Int.toNat ↑i * 1) [.slc 1027 0 3]) (0 + Int.toNat ↑i * 1) .undef = AV.slc 1027 0 3) && (Nat.blt (0 + Int.toNat ↑i * 1) (List.length (setL (rdC 3 m rs) (0 + Int.toNat ↑i * 1) [.slc 1027 0 3])) && true) && (decide ((0 : Int) ≤ (↑i : Int) ∧ (↑i : Int) < (↑m : Int)) && (Nat.blt 0 (List.length (fltL (rAt 0 rs b).2)) && AV.isFlt (List.getD (fltL (rAt 0 rs b).2) 0 .undef) && (pb (List.getD (setL (rdC 3 m rs) (0 + Int.toNat ↑i * 1) [.slc 1027 0 3]) (0 + Int.toNat b * 1) .undef = AV.snap (fltL (rAt 0 rs b).2) 3) && (Nat.blt (0 + Int.toNat b * 1) (List.length (setL (rdC 3 m rs) (0 + Int.toNat ↑i * 1) [.slc 1027 0 3])) && true) && (decide ((0 : Int) ≤ b ∧ b < (↑m : Int)) && (Nat.blt 0 (List.length (fltL (rAt 0 rs a).2)) && AV.isFlt (List.getD (fltL (rAt 0 rs a).2) 0 .undef) && (pb (List.getD (setL (rdC 3 m rs) (0 + Int.toNat ↑i * 1) [.slc 1027 0 3]) (0 + Int.toNat a * 1) .undef = AV.snap (fltL (rAt 0 rs a).2) 3) && (Nat.blt (0 + Int.toNat a * 1) (List.length (setL (rdC 3 m rs) (0 + Int.toNat ↑i * 1) [.slc 1027 0 3])) && true) && (decide ((0 : Int) ≤ a ∧ a < (↑m : Int)) && (pb (AV.flt (AV.toFlt (List.getD (setL (rvC m rs) (0 + Int.toNat ↑i * 1) [.flt (fdiv (rAt 0 rs a).1 (rAt 0 rs b).1)]) (0 + Int.toNat ↑i * 1) .undef)) = AV.flt (valR kF 0 xs rs (TOp.mk (5 : Int) a b c))) && (Nat.blt (0 + Int.toNat ↑i * 1) (List.length (setL (rvC m rs) (0 + Int.toNat ↑i * 1) [.flt (fdiv (rAt 0 rs a).1 (rAt 0 rs b).1)])) && AV.isFlt (List.getD (setL (rvC m rs) (0 + Int.toNat ↑i * 1) [.flt (fdiv (rAt 0 rs a).1 (rAt 0 rs b).1)]) (0 + Int.toNat ↑i * 1) .undef)) && (decide ((0 : Int) ≤ (↑i : Int) ∧ (↑i : Int) < (↑m : Int)) && (pb (AV.flt (AV.toFlt (List.getD (setL (rvC m rs) (0 + Int.toNat ↑i * 1) [.flt (fdiv (rAt 0 rs a).1 (rAt 0 rs b).1)]) (0 + Int.toNat b * 1) .undef)) = AV.flt (rAt 0 rs b).1) && (Nat.blt (0 + Int.toNat b * 1) (List.length (setL (rvC m rs) (0 + Int.toNat ↑i * 1) [.flt (fdiv (rAt 0 rs a).1 (rAt 0 rs b).1)])) && AV.isFlt (List.getD (setL (rvC m rs) (0 + Int.toNat ↑i * 1) [.flt (fdiv (rAt 0 rs a).1 (rAt 0 rs b).1)]) (0 + Int.toNat b * 1) .undef)) && (decide ((0 : Int) ≤ b ∧ b < (↑m : Int)) && (pb (AV.flt (AV.toFlt (List.getD (setL (rvC m rs) (0 + Int.toNat ↑i * 1) [.flt (fdiv (rAt 0 rs a).1 (rAt 0 rs b).1)]) (0 + Int.toNat a * 1) .undef)) = AV.flt (rAt 0 rs a).1) && (Nat.blt (0 + Int.toNat a * 1) (List.length (setL (rvC m rs) (0 + Int.toNat ↑i * 1) [.flt (fdiv (rAt 0 rs a).1 (rAt 0 rs b).1)])) && AV.isFlt (List.getD (setL (rvC m rs) (0 + Int.toNat ↑i * 1) [.flt (fdiv (rAt 0 rs a).1 (rAt 0 rs b).1)]) (0 + Int.toNat a * 1) .undef)) && (decide ((0 : Int) ≤ a ∧ a < (↑m : Int)) && (pb (List.getD (setL (rdC 3 m rs) (0 + Int.toNat ↑i * 1) [.slc 1027 0 3]) (0 + Int.toNat ↑i * 1) .undef = AV.slc 1027 0 3) && (Nat.blt (0 + Int.toNat ↑i * 1) (List.length (setL (rdC 3 m rs) (0 + Int.toNat ↑i * 1) [.slc 1027 0 3])) && true) && (decide ((0 : Int) ≤ (↑i : Int) ∧ (↑i : Int) < (↑m : Int)) && (Nat.ble (0 + Int.toNat ↑i * 1 + 1) (List.length (rvC m rs)) && true && (decide ((0 : Int) ≤ (↑i : Int) ∧ (↑i : Int) < (↑m : Int)) && (pb (AV.flt (AV.toFlt (List.getD (rvC m rs) (0 + Int.toNat b * 1) .undef)) = AV.flt (rAt 0 rs b).1) && (Nat.blt (0 + Int.toNat b * 1) (List.length (rvC m rs)) && AV.isFlt (List.getD (rvC m rs) (0 + Int.toNat b * 1) .undef)) && (decide ((0 : Int) ≤ b ∧ b < (↑m : Int)) && (pb (AV.flt (AV.toFlt (List.getD (rvC m rs) (0 + Int.toNat a * 1) .undef)) = AV.flt (rAt 0 rs a).1) && (Nat.blt (0 + Int.toNat a * 1) (List.length (rvC m rs)) && AV.isFlt (List.getD (rvC m rs) (0 + Int.toNat a * 1) .undef)) && (decide ((0 : Int) ≤ a ∧ a < (↑m : Int)) && (Nat.ble (0 + Int.toNat ↑i * 1 + 1) (List.length (rdC 3 m rs)) && true && (decide ((0 : Int) ≤ (↑i : Int) ∧ (↑i : Int) < (↑m : Int)) && (pb (AV.agg [.int .i64 (AV.toInt (List.getD (opsL ops) (Int.toNat ↑i * 4) .undef)), .int .i64 (AV.toInt (List.getD (opsL ops) (Int.toNat ↑i * 4 + 1) .undef)), .int .i64 (AV.toInt (List.getD (opsL ops) (Int.toNat ↑i * 4 + 1 + 1) .undef)), .flt (AV.toFlt (List.getD (opsL ops) (Int.toNat ↑i * 4 + 1 + 1 + 1) .undef))] = AV.agg [.int .i64 5, .int .i64 a, .int .i64 b, .flt c]) && (Nat.ble (Int.toNat ↑i * 4 + 4) (List.length (opsL ops)) && etasOk [Leaf.i IntKind.i64, Leaf.i IntKind.i64, Leaf.i IntKind.i64, Leaf.f] (opsL ops) (Int.toNat ↑i * 4)) && (decide ((0 : Int) ≤ (↑i : Int) ∧ (↑i : Int) < (↑m : Int)) && (decide ((↑i : Int) < (↑m : Int)) && true)))))))))))))))))))))))))))))))))))))))))))))))))))))))) = true) : Goes CM w0 191 (eBody) (mk [1,2,5,6,7] [.snap (fltL xs) lx, .ptr 0 0, .slc 1 0 m, .slc 2 0 m, .int .i64 (i : Int)] [⟨[.int .i64 3, .snap (opsL ops) m, .snap (intL outs) 3], 53⟩, ⟨rvC m rs, 24⟩, ⟨rdC 3 m rs, 34⟩] dec0) Ex.normal (mk [1,2,5,6,7] [.snap (fltL xs) lx, .ptr 0 0, .slc 1 0 m, .slc 2 0 m, .int .i64 (IntKind.wrap IntKind.i64 ((↑i : Int) + (1 : Int)))] [ABlk.mk [.int .i64 3, .snap (opsL ops) m, .snap (intL outs) 3] 53, ABlk.mk (rvC m (rs ++ [stepR kF 0 3 xs rs (TOp.mk (5 : Int) a b c)])) 24, ABlk.mk (rdC 3 m (rs ++ [stepR kF 0 3 xs rs (TOp.mk (5 : Int) a b c)])) 34] dec1) :=
  goes_re (dec := [true]) (goes_O (l := [(31, .agg [.int .i64 5, .int .i64 a, .int .i64 b, .flt c]), (135, .slc 1027 0 3), (143, .flt (rAt 0 rs a).v), (148, .flt (rAt 0 rs b).v), (152, .flt (valR kF 0 xs rs ⟨5, a, b, c⟩)), (157, .snap (fltL (rAt 0 rs a).d) 3), (165, .snap (fltL (rAt 0 rs b).d) 3), (46, .flt (rAt 0 rs a).v), (51, .flt (rAt 0 rs b).v)]) (goes_viewK' (ctxO_ok OM _) mixed (qs := [24]) (fuel := 8) [.lit, .giv (rvC m (rs ++ [stepR kF 0 3 xs rs ⟨5, a, b, c⟩])) [], .giv (rdC 3 m (rs ++ [stepR kF 0 3 xs rs ⟨5, a, b, c⟩])) [1027], .frzGiv (fltL (stepR kF 0 3 xs rs ⟨5, a, b, c⟩).d) []] (by kernel_rfl) hok dec1))
theorem eX3 (xs : List Nat) (lx : Nat) (ops : List TOp) (m : Nat) (outs : List Int) (rs : List (Rg Nat)) (i : Nat) (w0 : World) (dec0 dec1 : List Bool) (hok : (((List.all (rdC 3 m rs) AV.noOwn) && true && (!decide ((↑i : Int) < (↑m : Int)) && true))) = true) : Goes CM w0 191 (eBody) (mk [1,2,5,6,7] [.snap (fltL xs) lx, .ptr 0 0, .slc 1 0 m, .slc 2 0 m, .int .i64 (i : Int)] [⟨[.int .i64 3, .snap (opsL ops) m, .snap (intL outs) 3], 53⟩, ⟨rvC m rs, 24⟩, ⟨rdC 3 m rs, 34⟩] dec0) (Ex.exit 0) (mk [2,6] [.ptr 0 0, .snap (rdC 3 m rs) m] [ABlk.mk [.int .i64 3, .snap (opsL ops) m, .snap (intL outs) 3] 53] dec1) :=
  goes_re (dec := [false]) (goes_viewK' OM mixed (qs := [24]) (fuel := 8) [.lit, .frzFlat] (by kernel_rfl) hok dec1)
theorem eZ3 (xs : List Nat) (lx : Nat) (ops : List TOp) (m : Nat) (outs : List Int) (rs : List (Rg Nat)) (i : Nat) (w0 : World) (dec0 dec1 : List Bool) (hok : (((List.all ([] ++ List.take (AV.sLen (List.getD (rdC 3 m rs) (Int.toNat (AV.toInt (List.getD (intL outs) 0 .undef)) * 1) .undef) * 1) (AV.sCells (List.getD (rdC 3 m rs) (Int.toNat (AV.toInt (List.getD (intL outs) 0 .undef)) * 1) .undef))) AV.noOwn) && ((List.all ([] ++ List.take (AV.sLen (List.getD (rdC 3 m rs) (Int.toNat (AV.toInt (List.getD (intL outs) 1 .undef)) * 1) .undef) * 1) (AV.sCells (List.getD (rdC 3 m rs) (Int.toNat (AV.toInt (List.getD (intL outs) 1 .undef)) * 1) .undef))) AV.noOwn) && ((List.all ([] ++ List.take (AV.sLen (List.getD (rdC 3 m rs) (Int.toNat (AV.toInt (List.getD (intL outs) 2 .undef)) * 1) .undef) * 1) (AV.sCells (List.getD (rdC 3 m rs) (Int.toNat (AV.toInt (List.getD (intL outs) 2 .undef)) * 1) .undef))) AV.noOwn) && true)) && (Nat.ble (AV.sLen (List.getD (rdC 3 m rs) (Int.toNat (AV.toInt (List.getD (intL outs) 2 .undef)) * 1) .undef) * 1) (List.length (AV.sCells (List.getD (rdC 3 m rs) (Int.toNat (AV.toInt (List.getD (intL outs) 2 .undef)) * 1) .undef))) && List.all (List.take (AV.sLen (List.getD (rdC 3 m rs) (Int.toNat (AV.toInt (List.getD (intL outs) 2 .undef)) * 1) .undef) * 1) (AV.sCells (List.getD (rdC 3 m rs) (Int.toNat (AV.toInt (List.getD (intL outs) 2 .undef)) * 1) .undef))) AV.one && decide (0 = 0 ∧ (0 + AV.sLen (List.getD (rdC 3 m rs) (Int.toNat (AV.toInt (List.getD (intL outs) 2 .undef)) * 1) .undef)) * 8 ≤ 140737488355328 ∧ 0 + AV.sLen (List.getD (rdC 3 m rs) (Int.toNat (AV.toInt (List.getD (intL outs) 2 .undef)) * 1) .undef) ≤ 9223372036854775807) && (Nat.blt (Int.toNat (AV.toInt (List.getD (intL outs) 2 .undef)) * 1) (List.length (rdC 3 m rs)) && AV.isSn (List.getD (rdC 3 m rs) (Int.toNat (AV.toInt (List.getD (intL outs) 2 .undef)) * 1) .undef) && (decide ((0 : Int) ≤ AV.toInt (List.getD (intL outs) 2 .undef) ∧ AV.toInt (List.getD (intL outs) 2 .undef) < (↑m : Int)) && (Nat.blt 2 (List.length (intL outs)) && AV.isInt IntKind.i64 (List.getD (intL outs) 2 .undef) && (Nat.ble (AV.sLen (List.getD (rdC 3 m rs) (Int.toNat (AV.toInt (List.getD (intL outs) 1 .undef)) * 1) .undef) * 1) (List.length (AV.sCells (List.getD (rdC 3 m rs) (Int.toNat (AV.toInt (List.getD (intL outs) 1 .undef)) * 1) .undef))) && List.all (List.take (AV.sLen (List.getD (rdC 3 m rs) (Int.toNat (AV.toInt (List.getD (intL outs) 1 .undef)) * 1) .undef) * 1) (AV.sCells (List.getD (rdC 3 m rs) (Int.toNat (AV.toInt (List.getD (intL outs) 1 .undef)) * 1) .undef))) AV.one && decide (0 = 0 ∧ (0 + AV.sLen (List.getD (rdC 3 m rs) (Int.toNat (AV.toInt (List.getD (intL outs) 1 .undef)) * 1) .undef)) * 8 ≤ 140737488355328 ∧ 0 + AV.sLen (List.getD (rdC 3 m rs) (Int.toNat (AV.toInt (List.getD (intL outs) 1 .undef)) * 1) .undef) ≤ 9223372036854775807) && (Nat.blt (Int.toNat (AV.toInt (List.getD (intL outs) 1 .undef)) * 1) (List.length (rdC 3 m rs)) && AV.isSn (List.getD (rdC 3 m rs) (Int.toNat (AV.toInt (List.getD (intL outs) 1 .undef)) * 1) .undef) && (decide ((0 : Int) ≤ AV.toInt (List.getD (intL outs) 1 .undef) ∧ AV.toInt (List.getD (intL outs) 1 .undef) < (↑m : Int)) && (Nat.blt 1 (List.length (intL outs)) && AV.isInt IntKind.i64 (List.getD (intL outs) 1 .undef) && (Nat.ble (AV.sLen (List.getD (rdC 3 m rs) (Int.toNat (AV.toInt (List.getD (intL outs) 0 .undef)) * 1) .undef) * 1) (List.length (AV.sCells (List.getD (rdC 3 m rs) (Int.toNat (AV.toInt (List.getD (intL outs) 0 .undef)) * 1) .undef))) && List.all (List.take (AV.sLen (List.getD (rdC 3 m rs) (Int.toNat (AV.toInt (List.getD (intL outs) 0 .undef)) * 1) .undef) * 1) (AV.sCells (List.getD (rdC 3 m rs) (Int.toNat (AV.toInt (List.getD (intL outs) 0 .undef)) * 1) .undef))) AV.one && decide (0 = 0 ∧ (0 + AV.sLen (List.getD (rdC 3 m rs) (Int.toNat (AV.toInt (List.getD (intL outs) 0 .undef)) * 1) .undef)) * 8 ≤ 140737488355328 ∧ 0 + AV.sLen (List.getD (rdC 3 m rs) (Int.toNat (AV.toInt (List.getD (intL outs) 0 .undef)) * 1) .undef) ≤ 9223372036854775807) && (Nat.blt (Int.toNat (AV.toInt (List.getD (intL outs) 0 .undef)) * 1) (List.length (rdC 3 m rs)) && AV.isSn (List.getD (rdC 3 m rs) (Int.toNat (AV.toInt (List.getD (intL outs) 0 .undef)) * 1) .undef) && (decide ((0 : Int) ≤ AV.toInt (List.getD (intL outs) 0 .undef) ∧ AV.toInt (List.getD (intL outs) 0 .undef) < (↑m : Int)) && (Nat.blt 0 (List.length (intL outs)) && AV.isInt IntKind.i64 (List.getD (intL outs) 0 .undef) && true)))))))))))))) = true) : Goes CM w0 191 (cR (cR (cR (cR eC)))) (mk [2,6] [.ptr 0 0, .snap (rdC 3 m rs) m] [⟨[.int .i64 3, .snap (opsL ops) m, .snap (intL outs) 3], 53⟩] dec0) Ex.ret (mk [4] [.slc 0 0 3] [ABlk.mk [.slc 1 0 (0 + AV.sLen (List.getD (rdC 3 m rs) (Int.toNat (AV.toInt (List.getD (intL outs) 0 .undef)) * 1) .undef)), .slc 2 0 (0 + AV.sLen (List.getD (rdC 3 m rs) (Int.toNat (AV.toInt (List.getD (intL outs) 1 .undef)) * 1) .undef)), .slc 3 0 (0 + AV.sLen (List.getD (rdC 3 m rs) (Int.toNat (AV.toInt (List.getD (intL outs) 2 .undef)) * 1) .undef))] 34, ABlk.mk ([] ++ List.take (AV.sLen (List.getD (rdC 3 m rs) (Int.toNat (AV.toInt (List.getD (intL outs) 0 .undef)) * 1) .undef) * 1) (AV.sCells (List.getD (rdC 3 m rs) (Int.toNat (AV.toInt (List.getD (intL outs) 0 .undef)) * 1) .undef))) 24, ABlk.mk ([] ++ List.take (AV.sLen (List.getD (rdC 3 m rs) (Int.toNat (AV.toInt (List.getD (intL outs) 1 .undef)) * 1) .undef) * 1) (AV.sCells (List.getD (rdC 3 m rs) (Int.toNat (AV.toInt (List.getD (intL outs) 1 .undef)) * 1) .undef))) 24, ABlk.mk ([] ++ List.take (AV.sLen (List.getD (rdC 3 m rs) (Int.toNat (AV.toInt (List.getD (intL outs) 2 .undef)) * 1) .undef) * 1) (AV.sCells (List.getD (rdC 3 m rs) (Int.toNat (AV.toInt (List.getD (intL outs) 2 .undef)) * 1) .undef))) 24] dec1) :=
  goes_re (dec := []) (goes_viewK' OM mixed (qs := []) (fuel := 8) [.lit, .flat, .flat, .flat] (by kernel_rfl) hok dec1)
end Go.Eng.Try
/- Fields, part 6: the document's way of telling how a field of floats changes (enveloperef4.Jac): contract. Condition: the field may be. Written by wip/tools/genR2.py. -/
namespace Go.Eng
open Go Go.RowKit

theorem getD_set_self {α : Type} (L : List α) (i : Nat) (x z : α) (h : i < L.length) : (L.set i x).getD i z = x := by
  simp [List.getD_eq_getElem?_getD, List.getElem?_set, h]
theorem getD_set_ne {α : Type} (L : List α) (i j : Nat) (x z : α) (h : i ≠ j) : (L.set i x).getD j z = L.getD j z := by
  simp [List.getD_eq_getElem?_getD, List.getElem?_set, h]
theorem set_snoc {α : Type} (A : List α) (x z : α) (k : Nat) : (A ++ List.replicate (k + 1) z).set A.length x = (A ++ [x]) ++ List.replicate k z := by
  rw [List.set_append_right _ _ (Nat.le_refl _), Nat.sub_self, List.replicate_succ, List.set_cons_zero, List.append_assoc]
  rfl
theorem SubP.set {σ : List (Nat × List AV)} {ids : List Nat} {n : Nat} {A : List AV} {x y : AV} (hA : A.all AV.noOwn = true) (i : Nat) (h : sub true σ ids n 4096 x = some y) : SubP true σ ids n (A.set i x) (A.set i y) := by
  refine ⟨by simp, fun j u v hu hv => ?_⟩
  rw [List.getElem?_set] at hu hv
  by_cases hij : i = j
  · rw [if_pos hij] at hu hv
    split at hu
    · cases hu
      rw [if_pos (by assumption)] at hv
      cases hv
      exact .inr h
    · cases hu
  · rw [if_neg hij] at hu hv
    rw [hu] at hv
    cases hv
    exact .inl ⟨rfl, List.all_eq_true.1 hA u (List.mem_of_getElem? hu)⟩

namespace Try
open Go.Proofs.Try

section
variable {m : Nat} {rs : List (Rg Nat)}
theorem rvC_length (h : rs.length ≤ m) : (rvC m rs).length = m := by unfold rvC; simp [fltL]; omega
theorem rvC_noOwn (m : Nat) (rs : List (Rg Nat)) : (rvC m rs).all AV.noOwn = true := by
  unfold rvC
  rw [List.all_append, fltL_noOwn]
  simp [List.all_eq_true, AV.noOwn]
theorem rvC_get {a : Int} (h0 : 0 ≤ a) (h1 : a < rs.length) : (rvC m rs).getD a.toNat .undef = .flt (rAt 0 rs a).v := by
  have h : a.toNat < rs.length := by omega
  unfold rvC rAt
  rw [getD_append_left _ _ _ _ (by simp [fltL]; exact h), fltL_get (by simpa using h)]
  simp [List.getD_eq_getElem?_getD, List.getElem?_eq_getElem h]
theorem rvC_set (h : rs.length < m) (r : Rg Nat) : (rvC m rs).set rs.length (.flt r.v) = rvC m (rs ++ [r]) := by
  unfold rvC
  rw [show m - rs.length = (m - (rs ++ [r]).length) + 1 by simp; omega]
  have := set_snoc (fltL (rs.map fun r => r.v)) (.flt r.v) (.flt 0) (m - (rs ++ [r]).length)
  rw [show (fltL (rs.map fun r => r.v)).length = rs.length by simp [fltL]] at this
  rw [this]
  simp [fltL]
theorem rdC_length {N : Nat} (h : rs.length ≤ m) : (rdC N m rs).length = m := by unfold rdC rdL; simp; omega
theorem rdC_noOwn (N m : Nat) (rs : List (Rg Nat)) : (rdC N m rs).all AV.noOwn = true := by
  unfold rdC rdL
  rw [List.all_append]
  simp [List.all_eq_true, AV.noOwn]
theorem rdC_get {N : Nat} {a : Int} (h0 : 0 ≤ a) (h1 : a < rs.length) : (rdC N m rs).getD a.toNat .undef = .snap (fltL (rAt 0 rs a).d) N := by
  have h : a.toNat < rs.length := by omega
  unfold rdC rdL rAt
  rw [getD_append_left _ _ _ _ (by simpa using h)]
  simp [List.getD_eq_getElem?_getD, List.getElem?_eq_getElem h]
theorem rdC_set {N : Nat} (h : rs.length < m) (r : Rg Nat) : (rdC N m rs).set rs.length (.snap (fltL r.d) N) = rdC N m (rs ++ [r]) := by
  unfold rdC
  rw [show m - rs.length = (m - (rs ++ [r]).length) + 1 by simp; omega]
  have := set_snoc (rdL N rs) (.snap (fltL r.d) N) .nils (m - (rs ++ [r]).length)
  rw [show (rdL N rs).length = rs.length by simp [rdL]] at this
  rw [this]
  simp [rdL]
end

def eSt1 (xs : List Nat) (ops : List TOp) (outs : List Int) (rs : List (Rg Nat)) (i : Nat) : St :=
  mk [1,2,5,6,7] [.snap (fltL xs) xs.length, .ptr 0 0, .slc 1 0 ops.length, .slc 2 0 ops.length, .int .i64 (i : Int)] [⟨[.int .i64 1, .snap (opsL ops) ops.length, .snap (intL outs) 1], 53⟩, ⟨rvC ops.length rs, 24⟩, ⟨rdC 1 ops.length rs, 34⟩] []

theorem eRound1 (xs : List Nat) (ops : List TOp) (outs : List Int) (rs : List (Rg Nat)) (i : Nat) (hi : i < ops.length) (hm : ops.length < 1000) (hl : rs.length = i) (hw : Wide 1 rs) (ho : OpsOk xs.length ops) (hx : xs.length = 1) (w0 : World) :
    Goes CM w0 191 eBody (eSt1 xs ops outs rs i) .normal (eSt1 xs ops outs (rs ++ [stepR kF 0 1 xs rs (ops.getD i op0)]) (i + 1)) := by
  have ew : IntKind.i64.wrap ((i : Int) + 1) = ((i + 1 : Nat) : Int) := by rw [wrapI (by omega) (by omega)]; rfl
  obtain ⟨g0, g1, g2, g3⟩ := opsL_at ops i hi
  rw [Int.toNat_natCast] at g0 g1 g2 g3
  have hop := ho i hi
  have hlen := opsL_length ops
  have hlv : (rvC ops.length rs).length = ops.length := rvC_length (by omega)
  have hld : (rdC 1 ops.length rs).length = ops.length := rdC_length (by omega)
  have gsi : ∀ x, ((rvC ops.length rs).set i x).getD i .undef = x := fun x => getD_set_self _ _ _ _ (by omega)
  have hsi : ∀ x, ((rdC 1 ops.length rs).set i x).getD i .undef = x := fun x => getD_set_self _ _ _ _ (by omega)
  have hvs : ∀ r : Rg Nat, (rvC ops.length rs).set i (.flt r.v) = rvC ops.length (rs ++ [r]) := fun r => by subst hl; exact rvC_set (by omega) r
  have hds : ∀ r : Rg Nat, (rdC 1 ops.length rs).set i (.snap (fltL r.d) 1) = rdC 1 ops.length (rs ++ [r]) := fun r => by subst hl; exact rdC_set (by omega) r
  have fin : ∀ o, mk [1,2,5,6,7] [.snap (fltL xs) xs.length, .ptr 0 0, .slc 1 0 ops.length, .slc 2 0 ops.length, .int .i64 (IntKind.wrap .i64 ((i : Int) + 1))] [⟨[.int .i64 1, .snap (opsL ops) ops.length, .snap (intL outs) 1], 53⟩, ⟨rvC ops.length (rs ++ [stepR kF 0 1 xs rs o]), 24⟩, ⟨rdC 1 ops.length (rs ++ [stepR kF 0 1 xs rs o]), 34⟩] [] = eSt1 xs ops outs (rs ++ [stepR kF 0 1 xs rs o]) (i + 1) := fun o => by unfold eSt1; rw [← ew]
  generalize ops.getD i op0 = o at *
  obtain ⟨k, a, b, c⟩ := o
  dsimp only at g0 g1 g2 g3
  rcases hop with ⟨hk, _⟩ | ⟨hk, h0, h1, _⟩ | ⟨hk, h0, h1, h2, h3, _⟩
  · dsimp only at hk
    subst hk
    refine goes_to (eI1_0 xs xs.length ops ops.length outs rs i a b c w0 [] [] ?_) (fin _)
    simp only [Int.toNat_natCast, Nat.zero_add, Nat.mul_one, setL, List.length_set]
    simp only [Bool.and_eq_true]
    and_intros
    all_goals first
      | rfl
      | exact trivial
      | (simp only [decide_eq_true_eq]; omega)
      | (simp only [Nat.blt_eq, Nat.ble_eq]; omega)
      | (simp only [etasOk, g0, g1, g2, g3]; rfl)
      | (apply pb_of; simp only [g0, g1, g2, g3, AV.toInt, AV.toFlt]; done)
      | (apply pb_of; simp only [hsi]; done)
      | exact pb_of (by rw [← hvs]; exact SubP.same (A := (rvC ops.length rs).set i (.flt (stepR kF 0 1 xs rs ⟨0, a, b, c⟩).v)) (by rw [hvs]; exact rvC_noOwn _ _))
      | exact pb_of (by rw [← hds]; exact SubP.set (rdC_noOwn _ _ _) _ rfl)
      | exact pb_of (SubP.same (A := fltL (stepR kF 0 1 xs rs ⟨0, a, b, c⟩).d) rfl)
  · dsimp only at hk h0 h1
    subst hk
    have hax : a.toNat < xs.length := by omega
    have gx := fltL_get hax
    refine goes_to (eI1_1 xs xs.length ops ops.length outs rs i a b c w0 [] [] ?_) (fin _)
    simp only [Int.toNat_natCast, Nat.zero_add, Nat.mul_one, setL, List.length_set]
    simp only [Bool.and_eq_true]
    and_intros
    all_goals first
      | rfl
      | exact trivial
      | (simp only [decide_eq_true_eq]; omega)
      | (simp only [Nat.blt_eq, Nat.ble_eq, fltL_length]; omega)
      | (simp only [etasOk, g0, g1, g2, g3]; rfl)
      | (apply pb_of; simp only [g0, g1, g2, g3, AV.toInt, AV.toFlt]; done)
      | (simp only [gx]; rfl)
      | (apply pb_of; simp only [gx, AV.toFlt]; done)
      | (apply pb_of; simp only [hsi]; done)
      | exact pb_of (by rw [← hvs]; exact SubP.same (A := (rvC ops.length rs).set i (.flt (stepR kF 0 1 xs rs ⟨1, a, b, c⟩).v)) (by rw [hvs]; exact rvC_noOwn _ _))
      | exact pb_of (by rw [← hds]; exact SubP.set (rdC_noOwn _ _ _) _ rfl)
      | (apply pb_of
         rw [hx] at h1
         have ha : a = 0 := by omega
         rcases ha with rfl <;> exact SubP.same rfl)
  · dsimp only at hk h0 h1 h2 h3
    have da := hw _ (rAt_mem 0 rs a h0 (by omega))
    have db := hw _ (rAt_mem 0 rs b h2 (by omega))
    have gva := rvC_get (m := ops.length) h0 (show a < rs.length by omega)
    have gvb := rvC_get (m := ops.length) h2 (show b < rs.length by omega)
    have gsa : ∀ x, ((rvC ops.length rs).set i x).getD a.toNat .undef = .flt (rAt 0 rs a).v := fun x => by rw [getD_set_ne _ _ _ _ _ (by omega)]; exact gva
    have gsb : ∀ x, ((rvC ops.length rs).set i x).getD b.toNat .undef = .flt (rAt 0 rs b).v := fun x => by rw [getD_set_ne _ _ _ _ _ (by omega)]; exact gvb
    have hsa : ∀ x, ((rdC 1 ops.length rs).set i x).getD a.toNat .undef = .snap (fltL (rAt 0 rs a).d) 1 := fun x => by rw [getD_set_ne _ _ _ _ _ (by omega)]; exact rdC_get h0 (by omega)
    have hsb : ∀ x, ((rdC 1 ops.length rs).set i x).getD b.toNat .undef = .snap (fltL (rAt 0 rs b).d) 1 := fun x => by rw [getD_set_ne _ _ _ _ _ (by omega)]; exact rdC_get h2 (by omega)
    have fa0 := fltL_get (xs := (rAt 0 rs a).d) (i := 0) (by omega)
    have fb0 := fltL_get (xs := (rAt 0 rs b).d) (i := 0) (by omega)
    rcases hk with hk | hk | hk | hk <;> subst hk
    · refine goes_to (eI1_2 xs xs.length ops ops.length outs rs i a b c w0 [] [] ?_) (fin _)
      simp only [Int.toNat_natCast, Nat.zero_add, Nat.mul_one, setL, List.length_set]
      simp only [Bool.and_eq_true]
      and_intros
      all_goals first
        | rfl
        | exact trivial
        | (simp only [decide_eq_true_eq]; omega)
        | (simp only [Nat.blt_eq, Nat.ble_eq, fltL_length]; omega)
        | (simp only [etasOk, g0, g1, g2, g3]; rfl)
        | (apply pb_of; simp only [g0, g1, g2, g3, AV.toInt, AV.toFlt]; done)
        | (simp only [gva, gvb, gsa, gsb, gsi, fa0, fb0]; rfl)
        | (apply pb_of; simp only [gva, gvb, gsa, gsb, AV.toFlt]; done)
        | (apply pb_of; rw [gsi]; rfl)
        | (apply pb_of; simp only [hsa, hsb, hsi]; done)
        | exact pb_of (by rw [← hvs]; exact SubP.same (A := (rvC ops.length rs).set i (.flt (stepR kF 0 1 xs rs ⟨2, a, b, c⟩).v)) (by rw [hvs]; exact rvC_noOwn _ _))
        | exact pb_of (by rw [← hds]; exact SubP.set (rdC_noOwn _ _ _) _ rfl)
        | (apply pb_of; simp only [fa0, fb0, AV.toFlt]; exact SubP.same (A := fltL (stepR kF 0 1 xs rs ⟨2, a, b, c⟩).d) rfl)
    · refine goes_to (eI1_3 xs xs.length ops ops.length outs rs i a b c w0 [] [] ?_) (fin _)
      simp only [Int.toNat_natCast, Nat.zero_add, Nat.mul_one, setL, List.length_set]
      simp only [Bool.and_eq_true]
      and_intros
      all_goals first
        | rfl
        | exact trivial
        | (simp only [decide_eq_true_eq]; omega)
        | (simp only [Nat.blt_eq, Nat.ble_eq, fltL_length]; omega)
        | (simp only [etasOk, g0, g1, g2, g3]; rfl)
        | (apply pb_of; simp only [g0, g1, g2, g3, AV.toInt, AV.toFlt]; done)
        | (simp only [gva, gvb, gsa, gsb, gsi, fa0, fb0]; rfl)
        | (apply pb_of; simp only [gva, gvb, gsa, gsb, AV.toFlt]; done)
        | (apply pb_of; rw [gsi]; rfl)
        | (apply pb_of; simp only [hsa, hsb, hsi]; done)
        | exact pb_of (by rw [← hvs]; exact SubP.same (A := (rvC ops.length rs).set i (.flt (stepR kF 0 1 xs rs ⟨3, a, b, c⟩).v)) (by rw [hvs]; exact rvC_noOwn _ _))
        | exact pb_of (by rw [← hds]; exact SubP.set (rdC_noOwn _ _ _) _ rfl)
        | (apply pb_of; simp only [fa0, fb0, AV.toFlt]; exact SubP.same (A := fltL (stepR kF 0 1 xs rs ⟨3, a, b, c⟩).d) rfl)
    · refine goes_to (eI1_4 xs xs.length ops ops.length outs rs i a b c w0 [] [] ?_) (fin _)
      simp only [Int.toNat_natCast, Nat.zero_add, Nat.mul_one, setL, List.length_set]
      simp only [Bool.and_eq_true]
      and_intros
      all_goals first
        | rfl
        | exact trivial
        | (simp only [decide_eq_true_eq]; omega)
        | (simp only [Nat.blt_eq, Nat.ble_eq, fltL_length]; omega)
        | (simp only [etasOk, g0, g1, g2, g3]; rfl)
        | (apply pb_of; simp only [g0, g1, g2, g3, AV.toInt, AV.toFlt]; done)
        | (simp only [gva, gvb, gsa, gsb, gsi, fa0, fb0]; rfl)
        | (apply pb_of; simp only [gva, gvb, gsa, gsb, AV.toFlt]; done)
        | (apply pb_of; rw [gsi]; rfl)
        | (apply pb_of; simp only [hsa, hsb, hsi]; done)
        | exact pb_of (by rw [← hvs]; exact SubP.same (A := (rvC ops.length rs).set i (.flt (stepR kF 0 1 xs rs ⟨4, a, b, c⟩).v)) (by rw [hvs]; exact rvC_noOwn _ _))
        | exact pb_of (by rw [← hds]; exact SubP.set (rdC_noOwn _ _ _) _ rfl)
        | (apply pb_of; simp only [fa0, fb0, AV.toFlt]; exact SubP.same (A := fltL (stepR kF 0 1 xs rs ⟨4, a, b, c⟩).d) rfl)
    · refine goes_to (eI1_5 xs xs.length ops ops.length outs rs i a b c w0 [] [] ?_) (fin _)
      simp only [Int.toNat_natCast, Nat.zero_add, Nat.mul_one, setL, List.length_set]
      simp only [Bool.and_eq_true]
      and_intros
      all_goals first
        | rfl
        | exact trivial
        | (simp only [decide_eq_true_eq]; omega)
        | (simp only [Nat.blt_eq, Nat.ble_eq, fltL_length]; omega)
        | (simp only [etasOk, g0, g1, g2, g3]; rfl)
        | (apply pb_of; simp only [g0, g1, g2, g3, AV.toInt, AV.toFlt]; done)
        | (simp only [gva, gvb, gsa, gsb, gsi, fa0, fb0]; rfl)
        | (apply pb_of; simp only [gva, gvb, gsa, gsb, AV.toFlt]; done)
        | (apply pb_of; rw [gsi]; rfl)
        | (apply pb_of; simp only [hsa, hsb, hsi]; done)
        | exact pb_of (by rw [← hvs]; exact SubP.same (A := (rvC ops.length rs).set i (.flt (stepR kF 0 1 xs rs ⟨5, a, b, c⟩).v)) (by rw [hvs]; exact rvC_noOwn _ _))
        | exact pb_of (by rw [← hds]; exact SubP.set (rdC_noOwn _ _ _) _ rfl)
        | (apply pb_of; simp only [fa0, fb0, AV.toFlt]; exact SubP.same (A := fltL (stepR kF 0 1 xs rs ⟨5, a, b, c⟩).d) rfl)

theorem con_ejac1 (xs : List Nat) (ops : List TOp) (outs : List Int) (hm : ops.length < 1000) (ho : OpsOk xs.length ops) (hx : xs.length = 1) (hout : OutsOk 1 ops.length outs) (n : Nat) :
    Con prog 63 [.agg [.int .i64 1, .snap (opsL ops) ops.length, .snap (intL outs) 1], .snap (fltL xs) xs.length] n (.slc n 0 1) [⟨[.slc (n + 1) 0 1], 34⟩, ⟨jRow 1 (jacD kF 0 1 xs ops outs 0), 24⟩] := by
  have hrl : (runR kF 0 1 xs ops ops.length).length = ops.length := runR_length _ _ _ _ _ _
  have hwr : Wide 1 (runR kF 0 1 xs ops ops.length) := runR_d _ _ _ _ _ _
  refine con_goesKC (es := es4) (d := 8) (deep := shallow []) 191 (by kernel_rfl) (dec := []) (e := .ret) (s := mk [4] [.slc 0 0 1] [⟨[.slc 1 0 1], 34⟩, ⟨jRow 1 (jacD kF 0 1 xs ops outs 0), 24⟩] []) [] (r := ⟨_, _, true⟩) (by kernel_rfl) rfl (.inl rfl) fun w0 => ?_
  refine goes_seq (by kernel_rfl) (eA1 xs xs.length ops ops.length outs w0 []) (goes_seq (by kernel_rfl) (goes_to (eB1 xs xs.length ops ops.length outs w0 [] [] ?_) ?_) (goes_seq (by kernel_rfl) (goes_to (eD1 xs xs.length ops ops.length outs (rvC ops.length []) w0 [] [] ?_) ?_) (goes_seq (by kernel_rfl) (goes_seq (by kernel_rfl) (goes_to (eE1 xs xs.length ops ops.length outs (rvC ops.length []) (rdC 1 ops.length []) w0 [] [] ?_) ?_) (goes_block (id := 0) (by kernel_rfl) (goes_loop (by kernel_rfl) (fun h => by cases h) ops.length (fun i => eSt1 xs ops outs (runR kF 0 1 xs ops i) i) (s2 := _) ?_ ?_))) (goes_to (eZ1 xs xs.length ops ops.length outs (runR kF 0 1 xs ops ops.length) ops.length w0 [] [] ?_) ?_))))
  · simp [AV.noOwn]; omega
  · simp only [Int.toNat_natCast]; rfl
  · simp [rvC_noOwn, AV.noOwn]; omega
  · simp only [Int.toNat_natCast]; rfl
  · simp [rvC_noOwn, rdC_noOwn]
  · rfl
  · intro i hi
    exact eRound1 xs ops outs (runR kF 0 1 xs ops i) i hi hm (runR_length _ _ _ _ _ _) (runR_d _ _ _ _ _ _) ho hx w0
  · exact eX1 xs xs.length ops ops.length outs (runR kF 0 1 xs ops ops.length) ops.length w0 [] [] (by
      simp only [Bool.and_eq_true]
      and_intros
      all_goals first
        | rfl
        | exact trivial
        | exact rdC_noOwn _ _ _
        | simp)
  · have hld : (rdC 1 ops.length (runR kF 0 1 xs ops ops.length)).length = ops.length := rdC_length (by omega)
    have h0 := hout.2 0 (by omega)
    have o0 := intL_get (xs := outs) (i := 0) (by rw [hout.1]; omega)
    have r0 := rdC_get (m := ops.length) (N := 1) (rs := runR kF 0 1 xs ops ops.length) (a := outs.getD 0 0) h0.1 (by rw [hrl]; exact h0.2)
    have d0 := jacD_length kF 0 (xs := xs) hout (j := 0) (by omega)
    have e0 : fltL (rAt 0 (runR kF 0 1 xs ops ops.length) (outs.getD 0 0)).d = jRow 1 (jacD kF 0 1 xs ops outs 0) := fltL_row d0
    have t0 : List.take 1 (jRow 1 (jacD kF 0 1 xs ops outs 0)) = jRow 1 (jacD kF 0 1 xs ops outs 0) := rfl
    simp only [o0, r0, e0, AV.toInt, AV.sLen, AV.sCells, AV.isSn, Nat.mul_one, List.nil_append, t0]
    simp only [Bool.and_eq_true]
    and_intros
    all_goals first
      | rfl
      | exact trivial
      | exact fltL_noOwn _
      | (rw [Nat.blt_eq]; simp only [intL_length, hld, hout.1]; omega)
      | (rw [Nat.ble_eq]; rw [fltL_length]; omega)
      | (simp only [decide_eq_true_eq]; omega)
      | (simp; omega)
  · have hld : (rdC 1 ops.length (runR kF 0 1 xs ops ops.length)).length = ops.length := rdC_length (by omega)
    have h0 := hout.2 0 (by omega)
    have o0 := intL_get (xs := outs) (i := 0) (by rw [hout.1]; omega)
    have r0 := rdC_get (m := ops.length) (N := 1) (rs := runR kF 0 1 xs ops ops.length) (a := outs.getD 0 0) h0.1 (by rw [hrl]; exact h0.2)
    have d0 := jacD_length kF 0 (xs := xs) hout (j := 0) (by omega)
    have e0 : fltL (rAt 0 (runR kF 0 1 xs ops ops.length) (outs.getD 0 0)).d = jRow 1 (jacD kF 0 1 xs ops outs 0) := fltL_row d0
    have t0 : List.take 1 (jRow 1 (jacD kF 0 1 xs ops outs 0)) = jRow 1 (jacD kF 0 1 xs ops outs 0) := rfl
    simp only [o0, r0, e0, AV.toInt, AV.sLen, AV.sCells, Nat.mul_one, List.nil_append, t0]

def eSt2 (xs : List Nat) (ops : List TOp) (outs : List Int) (rs : List (Rg Nat)) (i : Nat) : St :=
  mk [1,2,5,6,7] [.snap (fltL xs) xs.length, .ptr 0 0, .slc 1 0 ops.length, .slc 2 0 ops.length, .int .i64 (i : Int)] [⟨[.int .i64 2, .snap (opsL ops) ops.length, .snap (intL outs) 2], 53⟩, ⟨rvC ops.length rs, 24⟩, ⟨rdC 2 ops.length rs, 34⟩] []

theorem eRound2 (xs : List Nat) (ops : List TOp) (outs : List Int) (rs : List (Rg Nat)) (i : Nat) (hi : i < ops.length) (hm : ops.length < 1000) (hl : rs.length = i) (hw : Wide 2 rs) (ho : OpsOk xs.length ops) (hx : xs.length = 2) (w0 : World) :
    Goes CM w0 191 eBody (eSt2 xs ops outs rs i) .normal (eSt2 xs ops outs (rs ++ [stepR kF 0 2 xs rs (ops.getD i op0)]) (i + 1)) := by
  have ew : IntKind.i64.wrap ((i : Int) + 1) = ((i + 1 : Nat) : Int) := by rw [wrapI (by omega) (by omega)]; rfl
  obtain ⟨g0, g1, g2, g3⟩ := opsL_at ops i hi
  rw [Int.toNat_natCast] at g0 g1 g2 g3
  have hop := ho i hi
  have hlen := opsL_length ops
  have hlv : (rvC ops.length rs).length = ops.length := rvC_length (by omega)
  have hld : (rdC 2 ops.length rs).length = ops.length := rdC_length (by omega)
  have gsi : ∀ x, ((rvC ops.length rs).set i x).getD i .undef = x := fun x => getD_set_self _ _ _ _ (by omega)
  have hsi : ∀ x, ((rdC 2 ops.length rs).set i x).getD i .undef = x := fun x => getD_set_self _ _ _ _ (by omega)
  have hvs : ∀ r : Rg Nat, (rvC ops.length rs).set i (.flt r.v) = rvC ops.length (rs ++ [r]) := fun r => by subst hl; exact rvC_set (by omega) r
  have hds : ∀ r : Rg Nat, (rdC 2 ops.length rs).set i (.snap (fltL r.d) 2) = rdC 2 ops.length (rs ++ [r]) := fun r => by subst hl; exact rdC_set (by omega) r
  have fin : ∀ o, mk [1,2,5,6,7] [.snap (fltL xs) xs.length, .ptr 0 0, .slc 1 0 ops.length, .slc 2 0 ops.length, .int .i64 (IntKind.wrap .i64 ((i : Int) + 1))] [⟨[.int .i64 2, .snap (opsL ops) ops.length, .snap (intL outs) 2], 53⟩, ⟨rvC ops.length (rs ++ [stepR kF 0 2 xs rs o]), 24⟩, ⟨rdC 2 ops.length (rs ++ [stepR kF 0 2 xs rs o]), 34⟩] [] = eSt2 xs ops outs (rs ++ [stepR kF 0 2 xs rs o]) (i + 1) := fun o => by unfold eSt2; rw [← ew]
  generalize ops.getD i op0 = o at *
  obtain ⟨k, a, b, c⟩ := o
  dsimp only at g0 g1 g2 g3
  rcases hop with ⟨hk, _⟩ | ⟨hk, h0, h1, _⟩ | ⟨hk, h0, h1, h2, h3, _⟩
  · dsimp only at hk
    subst hk
    refine goes_to (eI2_0 xs xs.length ops ops.length outs rs i a b c w0 [] [] ?_) (fin _)
    simp only [Int.toNat_natCast, Nat.zero_add, Nat.mul_one, setL, List.length_set]
    simp only [Bool.and_eq_true]
    and_intros
    all_goals first
      | rfl
      | exact trivial
      | (simp only [decide_eq_true_eq]; omega)
      | (simp only [Nat.blt_eq, Nat.ble_eq]; omega)
      | (simp only [etasOk, g0, g1, g2, g3]; rfl)
      | (apply pb_of; simp only [g0, g1, g2, g3, AV.toInt, AV.toFlt]; done)
      | (apply pb_of; simp only [hsi]; done)
      | exact pb_of (by rw [← hvs]; exact SubP.same (A := (rvC ops.length rs).set i (.flt (stepR kF 0 2 xs rs ⟨0, a, b, c⟩).v)) (by rw [hvs]; exact rvC_noOwn _ _))
      | exact pb_of (by rw [← hds]; exact SubP.set (rdC_noOwn _ _ _) _ rfl)
      | exact pb_of (SubP.same (A := fltL (stepR kF 0 2 xs rs ⟨0, a, b, c⟩).d) rfl)
  · dsimp only at hk h0 h1
    subst hk
    have hax : a.toNat < xs.length := by omega
    have gx := fltL_get hax
    refine goes_to (eI2_1 xs xs.length ops ops.length outs rs i a b c w0 [] [] ?_) (fin _)
    simp only [Int.toNat_natCast, Nat.zero_add, Nat.mul_one, setL, List.length_set]
    simp only [Bool.and_eq_true]
    and_intros
    all_goals first
      | rfl
      | exact trivial
      | (simp only [decide_eq_true_eq]; omega)
      | (simp only [Nat.blt_eq, Nat.ble_eq, fltL_length]; omega)
      | (simp only [etasOk, g0, g1, g2, g3]; rfl)
      | (apply pb_of; simp only [g0, g1, g2, g3, AV.toInt, AV.toFlt]; done)
      | (simp only [gx]; rfl)
      | (apply pb_of; simp only [gx, AV.toFlt]; done)
      | (apply pb_of; simp only [hsi]; done)
      | exact pb_of (by rw [← hvs]; exact SubP.same (A := (rvC ops.length rs).set i (.flt (stepR kF 0 2 xs rs ⟨1, a, b, c⟩).v)) (by rw [hvs]; exact rvC_noOwn _ _))
      | exact pb_of (by rw [← hds]; exact SubP.set (rdC_noOwn _ _ _) _ rfl)
      | (apply pb_of
         rw [hx] at h1
         have ha : a = 0 ∨ a = 1 := by omega
         rcases ha with rfl | rfl <;> exact SubP.same rfl)
  · dsimp only at hk h0 h1 h2 h3
    have da := hw _ (rAt_mem 0 rs a h0 (by omega))
    have db := hw _ (rAt_mem 0 rs b h2 (by omega))
    have gva := rvC_get (m := ops.length) h0 (show a < rs.length by omega)
    have gvb := rvC_get (m := ops.length) h2 (show b < rs.length by omega)
    have gsa : ∀ x, ((rvC ops.length rs).set i x).getD a.toNat .undef = .flt (rAt 0 rs a).v := fun x => by rw [getD_set_ne _ _ _ _ _ (by omega)]; exact gva
    have gsb : ∀ x, ((rvC ops.length rs).set i x).getD b.toNat .undef = .flt (rAt 0 rs b).v := fun x => by rw [getD_set_ne _ _ _ _ _ (by omega)]; exact gvb
    have hsa : ∀ x, ((rdC 2 ops.length rs).set i x).getD a.toNat .undef = .snap (fltL (rAt 0 rs a).d) 2 := fun x => by rw [getD_set_ne _ _ _ _ _ (by omega)]; exact rdC_get h0 (by omega)
    have hsb : ∀ x, ((rdC 2 ops.length rs).set i x).getD b.toNat .undef = .snap (fltL (rAt 0 rs b).d) 2 := fun x => by rw [getD_set_ne _ _ _ _ _ (by omega)]; exact rdC_get h2 (by omega)
    have fa0 := fltL_get (xs := (rAt 0 rs a).d) (i := 0) (by omega)
    have fb0 := fltL_get (xs := (rAt 0 rs b).d) (i := 0) (by omega)
    have fa1 := fltL_get (xs := (rAt 0 rs a).d) (i := 1) (by omega)
    have fb1 := fltL_get (xs := (rAt 0 rs b).d) (i := 1) (by omega)
    rcases hk with hk | hk | hk | hk <;> subst hk
    · refine goes_to (eI2_2 xs xs.length ops ops.length outs rs i a b c w0 [] [] ?_) (fin _)
      simp only [Int.toNat_natCast, Nat.zero_add, Nat.mul_one, setL, List.length_set]
      simp only [Bool.and_eq_true]
      and_intros
      all_goals first
        | rfl
        | exact trivial
        | (simp only [decide_eq_true_eq]; omega)
        | (simp only [Nat.blt_eq, Nat.ble_eq, fltL_length]; omega)
        | (simp only [etasOk, g0, g1, g2, g3]; rfl)
        | (apply pb_of; simp only [g0, g1, g2, g3, AV.toInt, AV.toFlt]; done)
        | (simp only [gva, gvb, gsa, gsb, gsi, fa0, fb0, fa1, fb1]; rfl)
        | (apply pb_of; simp only [gva, gvb, gsa, gsb, AV.toFlt]; done)
        | (apply pb_of; rw [gsi]; rfl)
        | (apply pb_of; simp only [hsa, hsb, hsi]; done)
        | exact pb_of (by rw [← hvs]; exact SubP.same (A := (rvC ops.length rs).set i (.flt (stepR kF 0 2 xs rs ⟨2, a, b, c⟩).v)) (by rw [hvs]; exact rvC_noOwn _ _))
        | exact pb_of (by rw [← hds]; exact SubP.set (rdC_noOwn _ _ _) _ rfl)
        | (apply pb_of; simp only [fa0, fb0, fa1, fb1, AV.toFlt]; exact SubP.same (A := fltL (stepR kF 0 2 xs rs ⟨2, a, b, c⟩).d) rfl)
    · refine goes_to (eI2_3 xs xs.length ops ops.length outs rs i a b c w0 [] [] ?_) (fin _)
      simp only [Int.toNat_natCast, Nat.zero_add, Nat.mul_one, setL, List.length_set]
      simp only [Bool.and_eq_true]
      and_intros
      all_goals first
        | rfl
        | exact trivial
        | (simp only [decide_eq_true_eq]; omega)
        | (simp only [Nat.blt_eq, Nat.ble_eq, fltL_length]; omega)
        | (simp only [etasOk, g0, g1, g2, g3]; rfl)
        | (apply pb_of; simp only [g0, g1, g2, g3, AV.toInt, AV.toFlt]; done)
        | (simp only [gva, gvb, gsa, gsb, gsi, fa0, fb0, fa1, fb1]; rfl)
        | (apply pb_of; simp only [gva, gvb, gsa, gsb, AV.toFlt]; done)
        | (apply pb_of; rw [gsi]; rfl)
        | (apply pb_of; simp only [hsa, hsb, hsi]; done)
        | exact pb_of (by rw [← hvs]; exact SubP.same (A := (rvC ops.length rs).set i (.flt (stepR kF 0 2 xs rs ⟨3, a, b, c⟩).v)) (by rw [hvs]; exact rvC_noOwn _ _))
        | exact pb_of (by rw [← hds]; exact SubP.set (rdC_noOwn _ _ _) _ rfl)
        | (apply pb_of; simp only [fa0, fb0, fa1, fb1, AV.toFlt]; exact SubP.same (A := fltL (stepR kF 0 2 xs rs ⟨3, a, b, c⟩).d) rfl)
    · refine goes_to (eI2_4 xs xs.length ops ops.length outs rs i a b c w0 [] [] ?_) (fin _)
      simp only [Int.toNat_natCast, Nat.zero_add, Nat.mul_one, setL, List.length_set]
      simp only [Bool.and_eq_true]
      and_intros
      all_goals first
        | rfl
        | exact trivial
        | (simp only [decide_eq_true_eq]; omega)
        | (simp only [Nat.blt_eq, Nat.ble_eq, fltL_length]; omega)
        | (simp only [etasOk, g0, g1, g2, g3]; rfl)
        | (apply pb_of; simp only [g0, g1, g2, g3, AV.toInt, AV.toFlt]; done)
        | (simp only [gva, gvb, gsa, gsb, gsi, fa0, fb0, fa1, fb1]; rfl)
        | (apply pb_of; simp only [gva, gvb, gsa, gsb, AV.toFlt]; done)
        | (apply pb_of; rw [gsi]; rfl)
        | (apply pb_of; simp only [hsa, hsb, hsi]; done)
        | exact pb_of (by rw [← hvs]; exact SubP.same (A := (rvC ops.length rs).set i (.flt (stepR kF 0 2 xs rs ⟨4, a, b, c⟩).v)) (by rw [hvs]; exact rvC_noOwn _ _))
        | exact pb_of (by rw [← hds]; exact SubP.set (rdC_noOwn _ _ _) _ rfl)
        | (apply pb_of; simp only [fa0, fb0, fa1, fb1, AV.toFlt]; exact SubP.same (A := fltL (stepR kF 0 2 xs rs ⟨4, a, b, c⟩).d) rfl)
    · refine goes_to (eI2_5 xs xs.length ops ops.length outs rs i a b c w0 [] [] ?_) (fin _)
      simp only [Int.toNat_natCast, Nat.zero_add, Nat.mul_one, setL, List.length_set]
      simp only [Bool.and_eq_true]
      and_intros
      all_goals first
        | rfl
        | exact trivial
        | (simp only [decide_eq_true_eq]; omega)
        | (simp only [Nat.blt_eq, Nat.ble_eq, fltL_length]; omega)
        | (simp only [etasOk, g0, g1, g2, g3]; rfl)
        | (apply pb_of; simp only [g0, g1, g2, g3, AV.toInt, AV.toFlt]; done)
        | (simp only [gva, gvb, gsa, gsb, gsi, fa0, fb0, fa1, fb1]; rfl)
        | (apply pb_of; simp only [gva, gvb, gsa, gsb, AV.toFlt]; done)
        | (apply pb_of; rw [gsi]; rfl)
        | (apply pb_of; simp only [hsa, hsb, hsi]; done)
        | exact pb_of (by rw [← hvs]; exact SubP.same (A := (rvC ops.length rs).set i (.flt (stepR kF 0 2 xs rs ⟨5, a, b, c⟩).v)) (by rw [hvs]; exact rvC_noOwn _ _))
        | exact pb_of (by rw [← hds]; exact SubP.set (rdC_noOwn _ _ _) _ rfl)
        | (apply pb_of; simp only [fa0, fb0, fa1, fb1, AV.toFlt]; exact SubP.same (A := fltL (stepR kF 0 2 xs rs ⟨5, a, b, c⟩).d) rfl)

theorem con_ejac2 (xs : List Nat) (ops : List TOp) (outs : List Int) (hm : ops.length < 1000) (ho : OpsOk xs.length ops) (hx : xs.length = 2) (hout : OutsOk 2 ops.length outs) (n : Nat) :
    Con prog 63 [.agg [.int .i64 2, .snap (opsL ops) ops.length, .snap (intL outs) 2], .snap (fltL xs) xs.length] n (.slc n 0 2) [⟨[.slc (n + 1) 0 2, .slc (n + 2) 0 2], 34⟩, ⟨jRow 2 (jacD kF 0 2 xs ops outs 0), 24⟩, ⟨jRow 2 (jacD kF 0 2 xs ops outs 1), 24⟩] := by
  have hrl : (runR kF 0 2 xs ops ops.length).length = ops.length := runR_length _ _ _ _ _ _
  have hwr : Wide 2 (runR kF 0 2 xs ops ops.length) := runR_d _ _ _ _ _ _
  refine con_goesKC (es := es4) (d := 8) (deep := shallow []) 191 (by kernel_rfl) (dec := []) (e := .ret) (s := mk [4] [.slc 0 0 2] [⟨[.slc 1 0 2, .slc 2 0 2], 34⟩, ⟨jRow 2 (jacD kF 0 2 xs ops outs 0), 24⟩, ⟨jRow 2 (jacD kF 0 2 xs ops outs 1), 24⟩] []) [] (r := ⟨_, _, true⟩) (by kernel_rfl) rfl (.inl rfl) fun w0 => ?_
  refine goes_seq (by kernel_rfl) (eA2 xs xs.length ops ops.length outs w0 []) (goes_seq (by kernel_rfl) (goes_to (eB2 xs xs.length ops ops.length outs w0 [] [] ?_) ?_) (goes_seq (by kernel_rfl) (goes_to (eD2 xs xs.length ops ops.length outs (rvC ops.length []) w0 [] [] ?_) ?_) (goes_seq (by kernel_rfl) (goes_seq (by kernel_rfl) (goes_to (eE2 xs xs.length ops ops.length outs (rvC ops.length []) (rdC 2 ops.length []) w0 [] [] ?_) ?_) (goes_block (id := 0) (by kernel_rfl) (goes_loop (by kernel_rfl) (fun h => by cases h) ops.length (fun i => eSt2 xs ops outs (runR kF 0 2 xs ops i) i) (s2 := _) ?_ ?_))) (goes_to (eZ2 xs xs.length ops ops.length outs (runR kF 0 2 xs ops ops.length) ops.length w0 [] [] ?_) ?_))))
  · simp [AV.noOwn]; omega
  · simp only [Int.toNat_natCast]; rfl
  · simp [rvC_noOwn, AV.noOwn]; omega
  · simp only [Int.toNat_natCast]; rfl
  · simp [rvC_noOwn, rdC_noOwn]
  · rfl
  · intro i hi
    exact eRound2 xs ops outs (runR kF 0 2 xs ops i) i hi hm (runR_length _ _ _ _ _ _) (runR_d _ _ _ _ _ _) ho hx w0
  · exact eX2 xs xs.length ops ops.length outs (runR kF 0 2 xs ops ops.length) ops.length w0 [] [] (by
      simp only [Bool.and_eq_true]
      and_intros
      all_goals first
        | rfl
        | exact trivial
        | exact rdC_noOwn _ _ _
        | simp)
  · have hld : (rdC 2 ops.length (runR kF 0 2 xs ops ops.length)).length = ops.length := rdC_length (by omega)
    have h0 := hout.2 0 (by omega)
    have o0 := intL_get (xs := outs) (i := 0) (by rw [hout.1]; omega)
    have r0 := rdC_get (m := ops.length) (N := 2) (rs := runR kF 0 2 xs ops ops.length) (a := outs.getD 0 0) h0.1 (by rw [hrl]; exact h0.2)
    have d0 := jacD_length kF 0 (xs := xs) hout (j := 0) (by omega)
    have e0 : fltL (rAt 0 (runR kF 0 2 xs ops ops.length) (outs.getD 0 0)).d = jRow 2 (jacD kF 0 2 xs ops outs 0) := fltL_row d0
    have t0 : List.take 2 (jRow 2 (jacD kF 0 2 xs ops outs 0)) = jRow 2 (jacD kF 0 2 xs ops outs 0) := rfl
    have h1 := hout.2 1 (by omega)
    have o1 := intL_get (xs := outs) (i := 1) (by rw [hout.1]; omega)
    have r1 := rdC_get (m := ops.length) (N := 2) (rs := runR kF 0 2 xs ops ops.length) (a := outs.getD 1 0) h1.1 (by rw [hrl]; exact h1.2)
    have d1 := jacD_length kF 0 (xs := xs) hout (j := 1) (by omega)
    have e1 : fltL (rAt 0 (runR kF 0 2 xs ops ops.length) (outs.getD 1 0)).d = jRow 2 (jacD kF 0 2 xs ops outs 1) := fltL_row d1
    have t1 : List.take 2 (jRow 2 (jacD kF 0 2 xs ops outs 1)) = jRow 2 (jacD kF 0 2 xs ops outs 1) := rfl
    simp only [o0, r0, e0, o1, r1, e1, AV.toInt, AV.sLen, AV.sCells, AV.isSn, Nat.mul_one, List.nil_append, t0, t1]
    simp only [Bool.and_eq_true]
    and_intros
    all_goals first
      | rfl
      | exact trivial
      | exact fltL_noOwn _
      | (rw [Nat.blt_eq]; simp only [intL_length, hld, hout.1]; omega)
      | (rw [Nat.ble_eq]; rw [fltL_length]; omega)
      | (simp only [decide_eq_true_eq]; omega)
      | (simp; omega)
  · have hld : (rdC 2 ops.length (runR kF 0 2 xs ops ops.length)).length = ops.length := rdC_length (by omega)
    have h0 := hout.2 0 (by omega)
    have o0 := intL_get (xs := outs) (i := 0) (by rw [hout.1]; omega)
    have r0 := rdC_get (m := ops.length) (N := 2) (rs := runR kF 0 2 xs ops ops.length) (a := outs.getD 0 0) h0.1 (by rw [hrl]; exact h0.2)
    have d0 := jacD_length kF 0 (xs := xs) hout (j := 0) (by omega)
    have e0 : fltL (rAt 0 (runR kF 0 2 xs ops ops.length) (outs.getD 0 0)).d = jRow 2 (jacD kF 0 2 xs ops outs 0) := fltL_row d0
    have t0 : List.take 2 (jRow 2 (jacD kF 0 2 xs ops outs 0)) = jRow 2 (jacD kF 0 2 xs ops outs 0) := rfl
    have h1 := hout.2 1 (by omega)
    have o1 := intL_get (xs := outs) (i := 1) (by rw [hout.1]; omega)
    have r1 := rdC_get (m := ops.length) (N := 2) (rs := runR kF 0 2 xs ops ops.length) (a := outs.getD 1 0) h1.1 (by rw [hrl]; exact h1.2)
    have d1 := jacD_length kF 0 (xs := xs) hout (j := 1) (by omega)
    have e1 : fltL (rAt 0 (runR kF 0 2 xs ops ops.length) (outs.getD 1 0)).d = jRow 2 (jacD kF 0 2 xs ops outs 1) := fltL_row d1
    have t1 : List.take 2 (jRow 2 (jacD kF 0 2 xs ops outs 1)) = jRow 2 (jacD kF 0 2 xs ops outs 1) := rfl
    simp only [o0, r0, e0, o1, r1, e1, AV.toInt, AV.sLen, AV.sCells, Nat.mul_one, List.nil_append, t0, t1]

def eSt3 (xs : List Nat) (ops : List TOp) (outs : List Int) (rs : List (Rg Nat)) (i : Nat) : St :=
  mk [1,2,5,6,7] [.snap (fltL xs) xs.length, .ptr 0 0, .slc 1 0 ops.length, .slc 2 0 ops.length, .int .i64 (i : Int)] [⟨[.int .i64 3, .snap (opsL ops) ops.length, .snap (intL outs) 3], 53⟩, ⟨rvC ops.length rs, 24⟩, ⟨rdC 3 ops.length rs, 34⟩] []

theorem eRound3 (xs : List Nat) (ops : List TOp) (outs : List Int) (rs : List (Rg Nat)) (i : Nat) (hi : i < ops.length) (hm : ops.length < 1000) (hl : rs.length = i) (hw : Wide 3 rs) (ho : OpsOk xs.length ops) (hx : xs.length = 3) (w0 : World) :
    Goes CM w0 191 eBody (eSt3 xs ops outs rs i) .normal (eSt3 xs ops outs (rs ++ [stepR kF 0 3 xs rs (ops.getD i op0)]) (i + 1)) := by
  have ew : IntKind.i64.wrap ((i : Int) + 1) = ((i + 1 : Nat) : Int) := by rw [wrapI (by omega) (by omega)]; rfl
  obtain ⟨g0, g1, g2, g3⟩ := opsL_at ops i hi
  rw [Int.toNat_natCast] at g0 g1 g2 g3
  have hop := ho i hi
  have hlen := opsL_length ops
  have hlv : (rvC ops.length rs).length = ops.length := rvC_length (by omega)
  have hld : (rdC 3 ops.length rs).length = ops.length := rdC_length (by omega)
  have gsi : ∀ x, ((rvC ops.length rs).set i x).getD i .undef = x := fun x => getD_set_self _ _ _ _ (by omega)
  have hsi : ∀ x, ((rdC 3 ops.length rs).set i x).getD i .undef = x := fun x => getD_set_self _ _ _ _ (by omega)
  have hvs : ∀ r : Rg Nat, (rvC ops.length rs).set i (.flt r.v) = rvC ops.length (rs ++ [r]) := fun r => by subst hl; exact rvC_set (by omega) r
  have hds : ∀ r : Rg Nat, (rdC 3 ops.length rs).set i (.snap (fltL r.d) 3) = rdC 3 ops.length (rs ++ [r]) := fun r => by subst hl; exact rdC_set (by omega) r
  have fin : ∀ o, mk [1,2,5,6,7] [.snap (fltL xs) xs.length, .ptr 0 0, .slc 1 0 ops.length, .slc 2 0 ops.length, .int .i64 (IntKind.wrap .i64 ((i : Int) + 1))] [⟨[.int .i64 3, .snap (opsL ops) ops.length, .snap (intL outs) 3], 53⟩, ⟨rvC ops.length (rs ++ [stepR kF 0 3 xs rs o]), 24⟩, ⟨rdC 3 ops.length (rs ++ [stepR kF 0 3 xs rs o]), 34⟩] [] = eSt3 xs ops outs (rs ++ [stepR kF 0 3 xs rs o]) (i + 1) := fun o => by unfold eSt3; rw [← ew]
  generalize ops.getD i op0 = o at *
  obtain ⟨k, a, b, c⟩ := o
  dsimp only at g0 g1 g2 g3
  rcases hop with ⟨hk, _⟩ | ⟨hk, h0, h1, _⟩ | ⟨hk, h0, h1, h2, h3, _⟩
  · dsimp only at hk
    subst hk
    refine goes_to (eI3_0 xs xs.length ops ops.length outs rs i a b c w0 [] [] ?_) (fin _)
    simp only [Int.toNat_natCast, Nat.zero_add, Nat.mul_one, setL, List.length_set]
    simp only [Bool.and_eq_true]
    and_intros
    all_goals first
      | rfl
      | exact trivial
      | (simp only [decide_eq_true_eq]; omega)
      | (simp only [Nat.blt_eq, Nat.ble_eq]; omega)
      | (simp only [etasOk, g0, g1, g2, g3]; rfl)
      | (apply pb_of; simp only [g0, g1, g2, g3, AV.toInt, AV.toFlt]; done)
      | (apply pb_of; simp only [hsi]; done)
      | exact pb_of (by rw [← hvs]; exact SubP.same (A := (rvC ops.length rs).set i (.flt (stepR kF 0 3 xs rs ⟨0, a, b, c⟩).v)) (by rw [hvs]; exact rvC_noOwn _ _))
      | exact pb_of (by rw [← hds]; exact SubP.set (rdC_noOwn _ _ _) _ rfl)
      | exact pb_of (SubP.same (A := fltL (stepR kF 0 3 xs rs ⟨0, a, b, c⟩).d) rfl)
  · dsimp only at hk h0 h1
    subst hk
    have hax : a.toNat < xs.length := by omega
    have gx := fltL_get hax
    refine goes_to (eI3_1 xs xs.length ops ops.length outs rs i a b c w0 [] [] ?_) (fin _)
    simp only [Int.toNat_natCast, Nat.zero_add, Nat.mul_one, setL, List.length_set]
    simp only [Bool.and_eq_true]
    and_intros
    all_goals first
      | rfl
      | exact trivial
      | (simp only [decide_eq_true_eq]; omega)
      | (simp only [Nat.blt_eq, Nat.ble_eq, fltL_length]; omega)
      | (simp only [etasOk, g0, g1, g2, g3]; rfl)
      | (apply pb_of; simp only [g0, g1, g2, g3, AV.toInt, AV.toFlt]; done)
      | (simp only [gx]; rfl)
      | (apply pb_of; simp only [gx, AV.toFlt]; done)
      | (apply pb_of; simp only [hsi]; done)
      | exact pb_of (by rw [← hvs]; exact SubP.same (A := (rvC ops.length rs).set i (.flt (stepR kF 0 3 xs rs ⟨1, a, b, c⟩).v)) (by rw [hvs]; exact rvC_noOwn _ _))
      | exact pb_of (by rw [← hds]; exact SubP.set (rdC_noOwn _ _ _) _ rfl)
      | (apply pb_of
         rw [hx] at h1
         have ha : a = 0 ∨ a = 1 ∨ a = 2 := by omega
         rcases ha with rfl | rfl | rfl <;> exact SubP.same rfl)
  · dsimp only at hk h0 h1 h2 h3
    have da := hw _ (rAt_mem 0 rs a h0 (by omega))
    have db := hw _ (rAt_mem 0 rs b h2 (by omega))
    have gva := rvC_get (m := ops.length) h0 (show a < rs.length by omega)
    have gvb := rvC_get (m := ops.length) h2 (show b < rs.length by omega)
    have gsa : ∀ x, ((rvC ops.length rs).set i x).getD a.toNat .undef = .flt (rAt 0 rs a).v := fun x => by rw [getD_set_ne _ _ _ _ _ (by omega)]; exact gva
    have gsb : ∀ x, ((rvC ops.length rs).set i x).getD b.toNat .undef = .flt (rAt 0 rs b).v := fun x => by rw [getD_set_ne _ _ _ _ _ (by omega)]; exact gvb
    have hsa : ∀ x, ((rdC 3 ops.length rs).set i x).getD a.toNat .undef = .snap (fltL (rAt 0 rs a).d) 3 := fun x => by rw [getD_set_ne _ _ _ _ _ (by omega)]; exact rdC_get h0 (by omega)
    have hsb : ∀ x, ((rdC 3 ops.length rs).set i x).getD b.toNat .undef = .snap (fltL (rAt 0 rs b).d) 3 := fun x => by rw [getD_set_ne _ _ _ _ _ (by omega)]; exact rdC_get h2 (by omega)
    have fa0 := fltL_get (xs := (rAt 0 rs a).d) (i := 0) (by omega)
    have fb0 := fltL_get (xs := (rAt 0 rs b).d) (i := 0) (by omega)
    have fa1 := fltL_get (xs := (rAt 0 rs a).d) (i := 1) (by omega)
    have fb1 := fltL_get (xs := (rAt 0 rs b).d) (i := 1) (by omega)
    have fa2 := fltL_get (xs := (rAt 0 rs a).d) (i := 2) (by omega)
    have fb2 := fltL_get (xs := (rAt 0 rs b).d) (i := 2) (by omega)
    rcases hk with hk | hk | hk | hk <;> subst hk
    · refine goes_to (eI3_2 xs xs.length ops ops.length outs rs i a b c w0 [] [] ?_) (fin _)
      simp only [Int.toNat_natCast, Nat.zero_add, Nat.mul_one, setL, List.length_set]
      simp only [Bool.and_eq_true]
      and_intros
      all_goals first
        | rfl
        | exact trivial
        | (simp only [decide_eq_true_eq]; omega)
        | (simp only [Nat.blt_eq, Nat.ble_eq, fltL_length]; omega)
        | (simp only [etasOk, g0, g1, g2, g3]; rfl)
        | (apply pb_of; simp only [g0, g1, g2, g3, AV.toInt, AV.toFlt]; done)
        | (simp only [gva, gvb, gsa, gsb, gsi, fa0, fb0, fa1, fb1, fa2, fb2]; rfl)
        | (apply pb_of; simp only [gva, gvb, gsa, gsb, AV.toFlt]; done)
        | (apply pb_of; rw [gsi]; rfl)
        | (apply pb_of; simp only [hsa, hsb, hsi]; done)
        | exact pb_of (by rw [← hvs]; exact SubP.same (A := (rvC ops.length rs).set i (.flt (stepR kF 0 3 xs rs ⟨2, a, b, c⟩).v)) (by rw [hvs]; exact rvC_noOwn _ _))
        | exact pb_of (by rw [← hds]; exact SubP.set (rdC_noOwn _ _ _) _ rfl)
        | (apply pb_of; simp only [fa0, fb0, fa1, fb1, fa2, fb2, AV.toFlt]; exact SubP.same (A := fltL (stepR kF 0 3 xs rs ⟨2, a, b, c⟩).d) rfl)
    · refine goes_to (eI3_3 xs xs.length ops ops.length outs rs i a b c w0 [] [] ?_) (fin _)
      simp only [Int.toNat_natCast, Nat.zero_add, Nat.mul_one, setL, List.length_set]
      simp only [Bool.and_eq_true]
      and_intros
      all_goals first
        | rfl
        | exact trivial
        | (simp only [decide_eq_true_eq]; omega)
        | (simp only [Nat.blt_eq, Nat.ble_eq, fltL_length]; omega)
        | (simp only [etasOk, g0, g1, g2, g3]; rfl)
        | (apply pb_of; simp only [g0, g1, g2, g3, AV.toInt, AV.toFlt]; done)
        | (simp only [gva, gvb, gsa, gsb, gsi, fa0, fb0, fa1, fb1, fa2, fb2]; rfl)
        | (apply pb_of; simp only [gva, gvb, gsa, gsb, AV.toFlt]; done)
        | (apply pb_of; rw [gsi]; rfl)
        | (apply pb_of; simp only [hsa, hsb, hsi]; done)
        | exact pb_of (by rw [← hvs]; exact SubP.same (A := (rvC ops.length rs).set i (.flt (stepR kF 0 3 xs rs ⟨3, a, b, c⟩).v)) (by rw [hvs]; exact rvC_noOwn _ _))
        | exact pb_of (by rw [← hds]; exact SubP.set (rdC_noOwn _ _ _) _ rfl)
        | (apply pb_of; simp only [fa0, fb0, fa1, fb1, fa2, fb2, AV.toFlt]; exact SubP.same (A := fltL (stepR kF 0 3 xs rs ⟨3, a, b, c⟩).d) rfl)
    · refine goes_to (eI3_4 xs xs.length ops ops.length outs rs i a b c w0 [] [] ?_) (fin _)
      simp only [Int.toNat_natCast, Nat.zero_add, Nat.mul_one, setL, List.length_set]
      simp only [Bool.and_eq_true]
      and_intros
      all_goals first
        | rfl
        | exact trivial
        | (simp only [decide_eq_true_eq]; omega)
        | (simp only [Nat.blt_eq, Nat.ble_eq, fltL_length]; omega)
        | (simp only [etasOk, g0, g1, g2, g3]; rfl)
        | (apply pb_of; simp only [g0, g1, g2, g3, AV.toInt, AV.toFlt]; done)
        | (simp only [gva, gvb, gsa, gsb, gsi, fa0, fb0, fa1, fb1, fa2, fb2]; rfl)
        | (apply pb_of; simp only [gva, gvb, gsa, gsb, AV.toFlt]; done)
        | (apply pb_of; rw [gsi]; rfl)
        | (apply pb_of; simp only [hsa, hsb, hsi]; done)
        | exact pb_of (by rw [← hvs]; exact SubP.same (A := (rvC ops.length rs).set i (.flt (stepR kF 0 3 xs rs ⟨4, a, b, c⟩).v)) (by rw [hvs]; exact rvC_noOwn _ _))
        | exact pb_of (by rw [← hds]; exact SubP.set (rdC_noOwn _ _ _) _ rfl)
        | (apply pb_of; simp only [fa0, fb0, fa1, fb1, fa2, fb2, AV.toFlt]; exact SubP.same (A := fltL (stepR kF 0 3 xs rs ⟨4, a, b, c⟩).d) rfl)
    · refine goes_to (eI3_5 xs xs.length ops ops.length outs rs i a b c w0 [] [] ?_) (fin _)
      simp only [Int.toNat_natCast, Nat.zero_add, Nat.mul_one, setL, List.length_set]
      simp only [Bool.and_eq_true]
      and_intros
      all_goals first
        | rfl
        | exact trivial
        | (simp only [decide_eq_true_eq]; omega)
        | (simp only [Nat.blt_eq, Nat.ble_eq, fltL_length]; omega)
        | (simp only [etasOk, g0, g1, g2, g3]; rfl)
        | (apply pb_of; simp only [g0, g1, g2, g3, AV.toInt, AV.toFlt]; done)
        | (simp only [gva, gvb, gsa, gsb, gsi, fa0, fb0, fa1, fb1, fa2, fb2]; rfl)
        | (apply pb_of; simp only [gva, gvb, gsa, gsb, AV.toFlt]; done)
        | (apply pb_of; rw [gsi]; rfl)
        | (apply pb_of; simp only [hsa, hsb, hsi]; done)
        | exact pb_of (by rw [← hvs]; exact SubP.same (A := (rvC ops.length rs).set i (.flt (stepR kF 0 3 xs rs ⟨5, a, b, c⟩).v)) (by rw [hvs]; exact rvC_noOwn _ _))
        | exact pb_of (by rw [← hds]; exact SubP.set (rdC_noOwn _ _ _) _ rfl)
        | (apply pb_of; simp only [fa0, fb0, fa1, fb1, fa2, fb2, AV.toFlt]; exact SubP.same (A := fltL (stepR kF 0 3 xs rs ⟨5, a, b, c⟩).d) rfl)

theorem con_ejac3 (xs : List Nat) (ops : List TOp) (outs : List Int) (hm : ops.length < 1000) (ho : OpsOk xs.length ops) (hx : xs.length = 3) (hout : OutsOk 3 ops.length outs) (n : Nat) :
    Con prog 63 [.agg [.int .i64 3, .snap (opsL ops) ops.length, .snap (intL outs) 3], .snap (fltL xs) xs.length] n (.slc n 0 3) [⟨[.slc (n + 1) 0 3, .slc (n + 2) 0 3, .slc (n + 3) 0 3], 34⟩, ⟨jRow 3 (jacD kF 0 3 xs ops outs 0), 24⟩, ⟨jRow 3 (jacD kF 0 3 xs ops outs 1), 24⟩, ⟨jRow 3 (jacD kF 0 3 xs ops outs 2), 24⟩] := by
  have hrl : (runR kF 0 3 xs ops ops.length).length = ops.length := runR_length _ _ _ _ _ _
  have hwr : Wide 3 (runR kF 0 3 xs ops ops.length) := runR_d _ _ _ _ _ _
  refine con_goesKC (es := es4) (d := 8) (deep := shallow []) 191 (by kernel_rfl) (dec := []) (e := .ret) (s := mk [4] [.slc 0 0 3] [⟨[.slc 1 0 3, .slc 2 0 3, .slc 3 0 3], 34⟩, ⟨jRow 3 (jacD kF 0 3 xs ops outs 0), 24⟩, ⟨jRow 3 (jacD kF 0 3 xs ops outs 1), 24⟩, ⟨jRow 3 (jacD kF 0 3 xs ops outs 2), 24⟩] []) [] (r := ⟨_, _, true⟩) (by kernel_rfl) rfl (.inl rfl) fun w0 => ?_
  refine goes_seq (by kernel_rfl) (eA3 xs xs.length ops ops.length outs w0 []) (goes_seq (by kernel_rfl) (goes_to (eB3 xs xs.length ops ops.length outs w0 [] [] ?_) ?_) (goes_seq (by kernel_rfl) (goes_to (eD3 xs xs.length ops ops.length outs (rvC ops.length []) w0 [] [] ?_) ?_) (goes_seq (by kernel_rfl) (goes_seq (by kernel_rfl) (goes_to (eE3 xs xs.length ops ops.length outs (rvC ops.length []) (rdC 3 ops.length []) w0 [] [] ?_) ?_) (goes_block (id := 0) (by kernel_rfl) (goes_loop (by kernel_rfl) (fun h => by cases h) ops.length (fun i => eSt3 xs ops outs (runR kF 0 3 xs ops i) i) (s2 := _) ?_ ?_))) (goes_to (eZ3 xs xs.length ops ops.length outs (runR kF 0 3 xs ops ops.length) ops.length w0 [] [] ?_) ?_))))
  · simp [AV.noOwn]; omega
  · simp only [Int.toNat_natCast]; rfl
  · simp [rvC_noOwn, AV.noOwn]; omega
  · simp only [Int.toNat_natCast]; rfl
  · simp [rvC_noOwn, rdC_noOwn]
  · rfl
  · intro i hi
    exact eRound3 xs ops outs (runR kF 0 3 xs ops i) i hi hm (runR_length _ _ _ _ _ _) (runR_d _ _ _ _ _ _) ho hx w0
  · exact eX3 xs xs.length ops ops.length outs (runR kF 0 3 xs ops ops.length) ops.length w0 [] [] (by
      simp only [Bool.and_eq_true]
      and_intros
      all_goals first
        | rfl
        | exact trivial
        | exact rdC_noOwn _ _ _
        | simp)
  · have hld : (rdC 3 ops.length (runR kF 0 3 xs ops ops.length)).length = ops.length := rdC_length (by omega)
    have h0 := hout.2 0 (by omega)
    have o0 := intL_get (xs := outs) (i := 0) (by rw [hout.1]; omega)
    have r0 := rdC_get (m := ops.length) (N := 3) (rs := runR kF 0 3 xs ops ops.length) (a := outs.getD 0 0) h0.1 (by rw [hrl]; exact h0.2)
    have d0 := jacD_length kF 0 (xs := xs) hout (j := 0) (by omega)
    have e0 : fltL (rAt 0 (runR kF 0 3 xs ops ops.length) (outs.getD 0 0)).d = jRow 3 (jacD kF 0 3 xs ops outs 0) := fltL_row d0
    have t0 : List.take 3 (jRow 3 (jacD kF 0 3 xs ops outs 0)) = jRow 3 (jacD kF 0 3 xs ops outs 0) := rfl
    have h1 := hout.2 1 (by omega)
    have o1 := intL_get (xs := outs) (i := 1) (by rw [hout.1]; omega)
    have r1 := rdC_get (m := ops.length) (N := 3) (rs := runR kF 0 3 xs ops ops.length) (a := outs.getD 1 0) h1.1 (by rw [hrl]; exact h1.2)
    have d1 := jacD_length kF 0 (xs := xs) hout (j := 1) (by omega)
    have e1 : fltL (rAt 0 (runR kF 0 3 xs ops ops.length) (outs.getD 1 0)).d = jRow 3 (jacD kF 0 3 xs ops outs 1) := fltL_row d1
    have t1 : List.take 3 (jRow 3 (jacD kF 0 3 xs ops outs 1)) = jRow 3 (jacD kF 0 3 xs ops outs 1) := rfl
    have h2 := hout.2 2 (by omega)
    have o2 := intL_get (xs := outs) (i := 2) (by rw [hout.1]; omega)
    have r2 := rdC_get (m := ops.length) (N := 3) (rs := runR kF 0 3 xs ops ops.length) (a := outs.getD 2 0) h2.1 (by rw [hrl]; exact h2.2)
    have d2 := jacD_length kF 0 (xs := xs) hout (j := 2) (by omega)
    have e2 : fltL (rAt 0 (runR kF 0 3 xs ops ops.length) (outs.getD 2 0)).d = jRow 3 (jacD kF 0 3 xs ops outs 2) := fltL_row d2
    have t2 : List.take 3 (jRow 3 (jacD kF 0 3 xs ops outs 2)) = jRow 3 (jacD kF 0 3 xs ops outs 2) := rfl
    simp only [o0, r0, e0, o1, r1, e1, o2, r2, e2, AV.toInt, AV.sLen, AV.sCells, AV.isSn, Nat.mul_one, List.nil_append, t0, t1, t2]
    simp only [Bool.and_eq_true]
    and_intros
    all_goals first
      | rfl
      | exact trivial
      | exact fltL_noOwn _
      | (rw [Nat.blt_eq]; simp only [intL_length, hld, hout.1]; omega)
      | (rw [Nat.ble_eq]; rw [fltL_length]; omega)
      | (simp only [decide_eq_true_eq]; omega)
      | (simp; omega)
  · have hld : (rdC 3 ops.length (runR kF 0 3 xs ops ops.length)).length = ops.length := rdC_length (by omega)
    have h0 := hout.2 0 (by omega)
    have o0 := intL_get (xs := outs) (i := 0) (by rw [hout.1]; omega)
    have r0 := rdC_get (m := ops.length) (N := 3) (rs := runR kF 0 3 xs ops ops.length) (a := outs.getD 0 0) h0.1 (by rw [hrl]; exact h0.2)
    have d0 := jacD_length kF 0 (xs := xs) hout (j := 0) (by omega)
    have e0 : fltL (rAt 0 (runR kF 0 3 xs ops ops.length) (outs.getD 0 0)).d = jRow 3 (jacD kF 0 3 xs ops outs 0) := fltL_row d0
    have t0 : List.take 3 (jRow 3 (jacD kF 0 3 xs ops outs 0)) = jRow 3 (jacD kF 0 3 xs ops outs 0) := rfl
    have h1 := hout.2 1 (by omega)
    have o1 := intL_get (xs := outs) (i := 1) (by rw [hout.1]; omega)
    have r1 := rdC_get (m := ops.length) (N := 3) (rs := runR kF 0 3 xs ops ops.length) (a := outs.getD 1 0) h1.1 (by rw [hrl]; exact h1.2)
    have d1 := jacD_length kF 0 (xs := xs) hout (j := 1) (by omega)
    have e1 : fltL (rAt 0 (runR kF 0 3 xs ops ops.length) (outs.getD 1 0)).d = jRow 3 (jacD kF 0 3 xs ops outs 1) := fltL_row d1
    have t1 : List.take 3 (jRow 3 (jacD kF 0 3 xs ops outs 1)) = jRow 3 (jacD kF 0 3 xs ops outs 1) := rfl
    have h2 := hout.2 2 (by omega)
    have o2 := intL_get (xs := outs) (i := 2) (by rw [hout.1]; omega)
    have r2 := rdC_get (m := ops.length) (N := 3) (rs := runR kF 0 3 xs ops ops.length) (a := outs.getD 2 0) h2.1 (by rw [hrl]; exact h2.2)
    have d2 := jacD_length kF 0 (xs := xs) hout (j := 2) (by omega)
    have e2 : fltL (rAt 0 (runR kF 0 3 xs ops ops.length) (outs.getD 2 0)).d = jRow 3 (jacD kF 0 3 xs ops outs 2) := fltL_row d2
    have t2 : List.take 3 (jRow 3 (jacD kF 0 3 xs ops outs 2)) = jRow 3 (jacD kF 0 3 xs ops outs 2) := rfl
    simp only [o0, r0, e0, o1, r1, e1, o2, r2, e2, AV.toInt, AV.sLen, AV.sCells, Nat.mul_one, List.nil_append, t0, t1, t2]
end Try
end Go.Eng
/- Fields, from-tos, part 6: the document's way of telling how a field of from-tos changes (enveloperef4.JacIv): contract. Condition: the field may be. Written by wip/tools/genU8.py. -/
namespace Go.Eng
open Go Go.RowKit

theorem ivL_set (x : Nat × Nat) : ∀ (L : List (Nat × Nat)) (i : Nat), i < L.length → ((ivL L).set (i * 2) (.flt x.1)).set (i * 2 + 1) (.flt x.2) = ivL (L.set i x)
  | [], i, h => by simp at h
  | y :: L, 0, _ => by simp [ivL]
  | y :: L, i + 1, h => by
    have ih := ivL_set x L i (by simpa using h)
    rw [show (i + 1) * 2 = (i * 2) + 2 by omega, show i * 2 + 2 + 1 = (i * 2 + 1) + 2 by omega]
    simp [ivL, ih]

namespace Try
open Go.Proofs.Try

section
variable {m : Nat} {rs : List (Rg (Nat × Nat))}
theorem rvI_length (h : rs.length ≤ m) : (rvI m rs).length = 2 * m := by unfold rvI; rw [ivL_length]; simp; omega
theorem rvI_nil (m : Nat) : rvI m [] = (List.replicate m [AV.flt 0, AV.flt 0]).flatten := by
  unfold rvI
  rw [ivL_flat]
  simp [z2]
theorem rvI_noOwn (m : Nat) (rs : List (Rg (Nat × Nat))) : (rvI m rs).all AV.noOwn = true := ivL_noOwn _
theorem rvI_get {a : Int} (h0 : 0 ≤ a) (h1 : a < rs.length) (hm : rs.length ≤ m) : (rvI m rs).getD (a.toNat * 2) .undef = .flt (rAt z2 rs a).v.1 ∧ (rvI m rs).getD (a.toNat * 2 + 1) .undef = .flt (rAt z2 rs a).v.2 := by
  have h : a.toNat < rs.length := by omega
  unfold rvI rAt
  obtain ⟨g1, g2⟩ := ivL_get ((rs.map fun r => r.v) ++ List.replicate (m - rs.length) z2) a.toNat (by simp; omega)
  rw [g1, g2, getD_append_left _ _ _ _ (by simpa using h)]
  simp [List.getD_eq_getElem?_getD, List.getElem?_eq_getElem h]
theorem rvI_set (h : rs.length < m) (r : Rg (Nat × Nat)) : ((rvI m rs).set (rs.length * 2) (.flt r.v.1)).set (rs.length * 2 + 1) (.flt r.v.2) = rvI m (rs ++ [r]) := by
  unfold rvI
  rw [ivL_set _ _ _ (by simp; omega)]
  rw [show m - rs.length = (m - (rs ++ [r]).length) + 1 by simp; omega]
  have := set_snoc (rs.map fun r => r.v) r.v z2 (m - (rs ++ [r]).length)
  rw [List.length_map] at this
  rw [this]
  simp
theorem rdI_length {N : Nat} (h : rs.length ≤ m) : (rdI N m rs).length = m := by unfold rdI; simp; omega
theorem rdI_noOwn (N m : Nat) (rs : List (Rg (Nat × Nat))) : (rdI N m rs).all AV.noOwn = true := by
  unfold rdI
  rw [List.all_append]
  simp [List.all_eq_true, AV.noOwn]
theorem rdI_get {N : Nat} {a : Int} (h0 : 0 ≤ a) (h1 : a < rs.length) : (rdI N m rs).getD a.toNat .undef = .snap (ivL (rAt z2 rs a).d) N := by
  have h : a.toNat < rs.length := by omega
  unfold rdI rAt
  rw [getD_append_left _ _ _ _ (by simpa using h)]
  simp [List.getD_eq_getElem?_getD, List.getElem?_eq_getElem h]
theorem rdI_set {N : Nat} (h : rs.length < m) (r : Rg (Nat × Nat)) : (rdI N m rs).set rs.length (.snap (ivL r.d) N) = rdI N m (rs ++ [r]) := by
  unfold rdI
  rw [show m - rs.length = (m - (rs ++ [r]).length) + 1 by simp; omega]
  have := set_snoc (rs.map fun r => AV.snap (ivL r.d) N) (.snap (ivL r.d) N) .nils (m - (rs ++ [r]).length)
  rw [List.length_map] at this
  rw [this]
  simp
end

def wSt1 (xs : List (Nat × Nat)) (ops : List TOp) (outs : List Int) (rs : List (Rg (Nat × Nat))) (i : Nat) : St :=
  mk [1,2,5,6,7] [.snap (ivL xs) xs.length, .ptr 0 0, .slc 1 0 ops.length, .slc 2 0 ops.length, .int .i64 (i : Int)] [⟨[.int .i64 1, .snap (opsL ops) ops.length, .snap (intL outs) 1], 53⟩, ⟨rvI ops.length rs, 26⟩, ⟨rdI 1 ops.length rs, 71⟩] []

theorem wRound1 (xs : List (Nat × Nat)) (ops : List TOp) (outs : List Int) (rs : List (Rg (Nat × Nat))) (i : Nat) (hi : i < ops.length) (hm : ops.length < 1000) (hl : rs.length = i) (hw : Wide 1 rs) (ho : OpsOk xs.length ops) (hx : xs.length = 1) (w0 : World) :
    Goes CW w0 193 wBody (wSt1 xs ops outs rs i) .normal (wSt1 xs ops outs (rs ++ [stepR kI z2 1 xs rs (ops.getD i op0)]) (i + 1)) := by
  have ew : IntKind.i64.wrap ((i : Int) + 1) = ((i + 1 : Nat) : Int) := by rw [wrapI (by omega) (by omega)]; rfl
  obtain ⟨g0, g1, g2, g3⟩ := opsL_at ops i hi
  rw [Int.toNat_natCast] at g0 g1 g2 g3
  have hop := ho i hi
  have hlen := opsL_length ops
  have hlv : (rvI ops.length rs).length = 2 * ops.length := rvI_length (by omega)
  have hld : (rdI 1 ops.length rs).length = ops.length := rdI_length (by omega)
  have gsi : ∀ x y, (((rvI ops.length rs).set (i * 2) x).set (i * 2 + 1) y).getD (i * 2) .undef = x := fun x y => by rw [getD_set_ne _ _ _ _ _ (by omega)]; exact getD_set_self _ _ _ _ (by omega)
  have gsi1 : ∀ x y, (((rvI ops.length rs).set (i * 2) x).set (i * 2 + 1) y).getD (i * 2 + 1) .undef = y := fun x y => getD_set_self _ _ _ _ (by simp; omega)
  have hsi : ∀ x, ((rdI 1 ops.length rs).set i x).getD i .undef = x := fun x => getD_set_self _ _ _ _ (by omega)
  have hvs : ∀ r : Rg (Nat × Nat), ((rvI ops.length rs).set (i * 2) (.flt r.v.1)).set (i * 2 + 1) (.flt r.v.2) = rvI ops.length (rs ++ [r]) := fun r => by subst hl; exact rvI_set (by omega) r
  have hds : ∀ r : Rg (Nat × Nat), (rdI 1 ops.length rs).set i (.snap (ivL r.d) 1) = rdI 1 ops.length (rs ++ [r]) := fun r => by subst hl; exact rdI_set (by omega) r
  have fin : ∀ o, mk [1,2,5,6,7] [.snap (ivL xs) xs.length, .ptr 0 0, .slc 1 0 ops.length, .slc 2 0 ops.length, .int .i64 (IntKind.wrap .i64 ((i : Int) + 1))] [⟨[.int .i64 1, .snap (opsL ops) ops.length, .snap (intL outs) 1], 53⟩, ⟨rvI ops.length (rs ++ [stepR kI z2 1 xs rs o]), 26⟩, ⟨rdI 1 ops.length (rs ++ [stepR kI z2 1 xs rs o]), 71⟩] [] = wSt1 xs ops outs (rs ++ [stepR kI z2 1 xs rs o]) (i + 1) := fun o => by unfold wSt1; rw [← ew]
  generalize ops.getD i op0 = o at *
  obtain ⟨k, a, b, c⟩ := o
  dsimp only at g0 g1 g2 g3
  rcases hop with ⟨hk, _⟩ | ⟨hk, h0, h1, _⟩ | ⟨hk, h0, h1, h2, h3, _⟩
  · dsimp only at hk
    subst hk
    refine goes_to (wI1_0 xs xs.length ops ops.length outs rs i a b c w0 [] [] ?_) (fin _)
    simp only [Int.toNat_natCast, Nat.zero_add, Nat.mul_one, setL, List.length_set]
    simp only [Bool.and_eq_true]
    and_intros
    all_goals first
      | rfl
      | exact trivial
      | (simp only [decide_eq_true_eq]; omega)
      | (simp only [Nat.blt_eq, Nat.ble_eq]; omega)
      | (simp only [etasOk, g0, g1, g2, g3]; rfl)
      | (apply pb_of; simp only [g0, g1, g2, g3, AV.toInt, AV.toFlt]; done)
      | (apply pb_of; simp only [hsi]; done)
      | exact pb_of (by rw [← hvs]; exact SubP.same (A := ((rvI ops.length rs).set (i * 2) (.flt (stepR kI z2 1 xs rs ⟨0, a, b, c⟩).v.1)).set (i * 2 + 1) (.flt (stepR kI z2 1 xs rs ⟨0, a, b, c⟩).v.2)) (by rw [hvs]; exact rvI_noOwn _ _))
      | exact pb_of (by rw [← hds]; exact SubP.set (rdI_noOwn _ _ _) _ rfl)
      | exact pb_of (SubP.same (A := ivL (stepR kI z2 1 xs rs ⟨0, a, b, c⟩).d) rfl)
  · dsimp only at hk h0 h1
    subst hk
    have hax : a.toNat < xs.length := by omega
    obtain ⟨gx, gx1⟩ := ivL_get xs a.toNat hax
    have hxl := ivL_length xs
    refine goes_to (wI1_1 xs xs.length ops ops.length outs rs i a b c w0 [] [] ?_) (fin _)
    simp only [Int.toNat_natCast, Nat.zero_add, Nat.mul_one, setL, List.length_set]
    simp only [Bool.and_eq_true]
    and_intros
    all_goals first
      | rfl
      | exact trivial
      | (simp only [decide_eq_true_eq]; omega)
      | (simp only [Nat.blt_eq, Nat.ble_eq, ivL_length]; omega)
      | (simp only [etasOk, g0, g1, g2, g3]; rfl)
      | (apply pb_of; simp only [g0, g1, g2, g3, AV.toInt, AV.toFlt]; done)
      | (simp only [etasOk, gx, gx1]; rfl)
      | (apply pb_of; simp only [gx, gx1, AV.toFlt]; done)
      | (apply pb_of; simp only [hsi]; done)
      | exact pb_of (by rw [← hvs]; exact SubP.same (A := ((rvI ops.length rs).set (i * 2) (.flt (stepR kI z2 1 xs rs ⟨1, a, b, c⟩).v.1)).set (i * 2 + 1) (.flt (stepR kI z2 1 xs rs ⟨1, a, b, c⟩).v.2)) (by rw [hvs]; exact rvI_noOwn _ _))
      | exact pb_of (by rw [← hds]; exact SubP.set (rdI_noOwn _ _ _) _ rfl)
      | (apply pb_of
         rw [hx] at h1
         have ha : a = 0 := by omega
         rcases ha with rfl <;> exact SubP.same rfl)
  · dsimp only at hk h0 h1 h2 h3
    have da := hw _ (rAt_mem z2 rs a h0 (by omega))
    have db := hw _ (rAt_mem z2 rs b h2 (by omega))
    obtain ⟨gva, gva1⟩ := rvI_get (m := ops.length) h0 (show a < rs.length by omega) (by omega)
    obtain ⟨gvb, gvb1⟩ := rvI_get (m := ops.length) h2 (show b < rs.length by omega) (by omega)
    have na1 : i * 2 + 1 ≠ a.toNat * 2 := by omega
    have na2 : i * 2 ≠ a.toNat * 2 := by omega
    have na3 : i * 2 + 1 ≠ a.toNat * 2 + 1 := by omega
    have na4 : i * 2 ≠ a.toNat * 2 + 1 := by omega
    have gsa : ∀ x y, (((rvI ops.length rs).set (i * 2) x).set (i * 2 + 1) y).getD (a.toNat * 2) .undef = .flt (rAt z2 rs a).v.1 := fun x y => by rw [getD_set_ne _ _ _ _ _ na1, getD_set_ne _ _ _ _ _ na2]; exact gva
    have gsa1 : ∀ x y, (((rvI ops.length rs).set (i * 2) x).set (i * 2 + 1) y).getD (a.toNat * 2 + 1) .undef = .flt (rAt z2 rs a).v.2 := fun x y => by rw [getD_set_ne _ _ _ _ _ na3, getD_set_ne _ _ _ _ _ na4]; exact gva1
    have nb1 : i * 2 + 1 ≠ b.toNat * 2 := by omega
    have nb2 : i * 2 ≠ b.toNat * 2 := by omega
    have nb3 : i * 2 + 1 ≠ b.toNat * 2 + 1 := by omega
    have nb4 : i * 2 ≠ b.toNat * 2 + 1 := by omega
    have gsb : ∀ x y, (((rvI ops.length rs).set (i * 2) x).set (i * 2 + 1) y).getD (b.toNat * 2) .undef = .flt (rAt z2 rs b).v.1 := fun x y => by rw [getD_set_ne _ _ _ _ _ nb1, getD_set_ne _ _ _ _ _ nb2]; exact gvb
    have gsb1 : ∀ x y, (((rvI ops.length rs).set (i * 2) x).set (i * 2 + 1) y).getD (b.toNat * 2 + 1) .undef = .flt (rAt z2 rs b).v.2 := fun x y => by rw [getD_set_ne _ _ _ _ _ nb3, getD_set_ne _ _ _ _ _ nb4]; exact gvb1
    have hsa : ∀ x, ((rdI 1 ops.length rs).set i x).getD a.toNat .undef = .snap (ivL (rAt z2 rs a).d) 1 := fun x => by rw [getD_set_ne _ _ _ _ _ (by omega)]; exact rdI_get h0 (by omega)
    have hsb : ∀ x, ((rdI 1 ops.length rs).set i x).getD b.toNat .undef = .snap (ivL (rAt z2 rs b).d) 1 := fun x => by rw [getD_set_ne _ _ _ _ _ (by omega)]; exact rdI_get h2 (by omega)
    have la := ivL_length (rAt z2 rs a).d
    have lb := ivL_length (rAt z2 rs b).d
    have fa0 : (ivL (rAt z2 rs a).d).getD 0 .undef = .flt ((rAt z2 rs a).d.getD 0 z2).1 := (ivL_get (rAt z2 rs a).d 0 (by omega)).1
    have fa0x : (ivL (rAt z2 rs a).d).getD 1 .undef = .flt ((rAt z2 rs a).d.getD 0 z2).2 := (ivL_get (rAt z2 rs a).d 0 (by omega)).2
    have fb0 : (ivL (rAt z2 rs b).d).getD 0 .undef = .flt ((rAt z2 rs b).d.getD 0 z2).1 := (ivL_get (rAt z2 rs b).d 0 (by omega)).1
    have fb0x : (ivL (rAt z2 rs b).d).getD 1 .undef = .flt ((rAt z2 rs b).d.getD 0 z2).2 := (ivL_get (rAt z2 rs b).d 0 (by omega)).2
    rcases hk with hk | hk | hk | hk <;> subst hk
    · refine goes_to (wI1_2 xs xs.length ops ops.length outs rs i a b c w0 [] [] ?_) (fin _)
      simp only [Int.toNat_natCast, Nat.zero_add, Nat.mul_one, setL, List.length_set]
      simp only [Bool.and_eq_true]
      and_intros
      all_goals first
        | rfl
        | exact trivial
        | (simp only [decide_eq_true_eq]; omega)
        | (simp only [Nat.blt_eq, Nat.ble_eq, ivL_length]; omega)
        | (simp only [etasOk, g0, g1, g2, g3]; rfl)
        | (apply pb_of; simp only [g0, g1, g2, g3, AV.toInt, AV.toFlt]; done)
        | (simp only [etasOk, gva, gvb, gva1, gvb1, gsa, gsb, gsa1, gsb1, gsi, gsi1, fa0, fb0, fa0x, fb0x]; rfl)
        | (apply pb_of; simp only [gva, gvb, gva1, gvb1, gsa, gsb, gsa1, gsb1, AV.toFlt]; done)
        | (apply pb_of; rw [gsi, gsi1]; rfl)
        | (apply pb_of; simp only [hsa, hsb, hsi]; done)
        | exact pb_of (by rw [← hvs]; exact SubP.same (A := ((rvI ops.length rs).set (i * 2) (.flt (stepR kI z2 1 xs rs ⟨2, a, b, c⟩).v.1)).set (i * 2 + 1) (.flt (stepR kI z2 1 xs rs ⟨2, a, b, c⟩).v.2)) (by rw [hvs]; exact rvI_noOwn _ _))
        | exact pb_of (by rw [← hds]; exact SubP.set (rdI_noOwn _ _ _) _ rfl)
        | (apply pb_of; simp only [fa0, fb0, fa0x, fb0x, AV.toFlt]; exact SubP.same (A := ivL (stepR kI z2 1 xs rs ⟨2, a, b, c⟩).d) rfl)
    · refine goes_to (wI1_3 xs xs.length ops ops.length outs rs i a b c w0 [] [] ?_) (fin _)
      simp only [Int.toNat_natCast, Nat.zero_add, Nat.mul_one, setL, List.length_set]
      simp only [Bool.and_eq_true]
      and_intros
      all_goals first
        | rfl
        | exact trivial
        | (simp only [decide_eq_true_eq]; omega)
        | (simp only [Nat.blt_eq, Nat.ble_eq, ivL_length]; omega)
        | (simp only [etasOk, g0, g1, g2, g3]; rfl)
        | (apply pb_of; simp only [g0, g1, g2, g3, AV.toInt, AV.toFlt]; done)
        | (simp only [etasOk, gva, gvb, gva1, gvb1, gsa, gsb, gsa1, gsb1, gsi, gsi1, fa0, fb0, fa0x, fb0x]; rfl)
        | (apply pb_of; simp only [gva, gvb, gva1, gvb1, gsa, gsb, gsa1, gsb1, AV.toFlt]; done)
        | (apply pb_of; rw [gsi, gsi1]; rfl)
        | (apply pb_of; simp only [hsa, hsb, hsi]; done)
        | exact pb_of (by rw [← hvs]; exact SubP.same (A := ((rvI ops.length rs).set (i * 2) (.flt (stepR kI z2 1 xs rs ⟨3, a, b, c⟩).v.1)).set (i * 2 + 1) (.flt (stepR kI z2 1 xs rs ⟨3, a, b, c⟩).v.2)) (by rw [hvs]; exact rvI_noOwn _ _))
        | exact pb_of (by rw [← hds]; exact SubP.set (rdI_noOwn _ _ _) _ rfl)
        | (apply pb_of; simp only [fa0, fb0, fa0x, fb0x, AV.toFlt]; exact SubP.same (A := ivL (stepR kI z2 1 xs rs ⟨3, a, b, c⟩).d) rfl)
    · refine goes_to (wI1_4 xs xs.length ops ops.length outs rs i a b c w0 [] [] ?_) (fin _)
      simp only [Int.toNat_natCast, Nat.zero_add, Nat.mul_one, setL, List.length_set]
      simp only [Bool.and_eq_true]
      and_intros
      all_goals first
        | rfl
        | exact trivial
        | (simp only [decide_eq_true_eq]; omega)
        | (simp only [Nat.blt_eq, Nat.ble_eq, ivL_length]; omega)
        | (simp only [etasOk, g0, g1, g2, g3]; rfl)
        | (apply pb_of; simp only [g0, g1, g2, g3, AV.toInt, AV.toFlt]; done)
        | (simp only [etasOk, gva, gvb, gva1, gvb1, gsa, gsb, gsa1, gsb1, gsi, gsi1, fa0, fb0, fa0x, fb0x]; rfl)
        | (apply pb_of; simp only [gva, gvb, gva1, gvb1, gsa, gsb, gsa1, gsb1, AV.toFlt]; done)
        | (apply pb_of; rw [gsi, gsi1]; rfl)
        | (apply pb_of; simp only [hsa, hsb, hsi]; done)
        | exact pb_of (by rw [← hvs]; exact SubP.same (A := ((rvI ops.length rs).set (i * 2) (.flt (stepR kI z2 1 xs rs ⟨4, a, b, c⟩).v.1)).set (i * 2 + 1) (.flt (stepR kI z2 1 xs rs ⟨4, a, b, c⟩).v.2)) (by rw [hvs]; exact rvI_noOwn _ _))
        | exact pb_of (by rw [← hds]; exact SubP.set (rdI_noOwn _ _ _) _ rfl)
        | (apply pb_of; simp only [fa0, fb0, fa0x, fb0x, AV.toFlt]; exact SubP.same (A := ivL (stepR kI z2 1 xs rs ⟨4, a, b, c⟩).d) rfl)
    · refine goes_to (wI1_5 xs xs.length ops ops.length outs rs i a b c w0 [] [] ?_) (fin _)
      simp only [Int.toNat_natCast, Nat.zero_add, Nat.mul_one, setL, List.length_set]
      simp only [Bool.and_eq_true]
      and_intros
      all_goals first
        | rfl
        | exact trivial
        | (simp only [decide_eq_true_eq]; omega)
        | (simp only [Nat.blt_eq, Nat.ble_eq, ivL_length]; omega)
        | (simp only [etasOk, g0, g1, g2, g3]; rfl)
        | (apply pb_of; simp only [g0, g1, g2, g3, AV.toInt, AV.toFlt]; done)
        | (simp only [etasOk, gva, gvb, gva1, gvb1, gsa, gsb, gsa1, gsb1, gsi, gsi1, fa0, fb0, fa0x, fb0x]; rfl)
        | (apply pb_of; simp only [gva, gvb, gva1, gvb1, gsa, gsb, gsa1, gsb1, AV.toFlt]; done)
        | (apply pb_of; rw [gsi, gsi1]; rfl)
        | (apply pb_of; simp only [hsa, hsb, hsi]; done)
        | exact pb_of (by rw [← hvs]; exact SubP.same (A := ((rvI ops.length rs).set (i * 2) (.flt (stepR kI z2 1 xs rs ⟨5, a, b, c⟩).v.1)).set (i * 2 + 1) (.flt (stepR kI z2 1 xs rs ⟨5, a, b, c⟩).v.2)) (by rw [hvs]; exact rvI_noOwn _ _))
        | exact pb_of (by rw [← hds]; exact SubP.set (rdI_noOwn _ _ _) _ rfl)
        | (apply pb_of; simp only [fa0, fb0, fa0x, fb0x, AV.toFlt]; exact SubP.same (A := ivL (stepR kI z2 1 xs rs ⟨5, a, b, c⟩).d) rfl)

theorem con_wjac1 (xs : List (Nat × Nat)) (ops : List TOp) (outs : List Int) (hm : ops.length < 1000) (ho : OpsOk xs.length ops) (hx : xs.length = 1) (hout : OutsOk 1 ops.length outs) (n : Nat) :
    Con prog 74 [.agg [.int .i64 1, .snap (opsL ops) ops.length, .snap (intL outs) 1], .snap (ivL xs) xs.length] n (.slc n 0 1) [⟨[.slc (n + 1) 0 1], 71⟩, ⟨ivRow 1 (jacD kI z2 1 xs ops outs 0), 26⟩] := by
  have hrl : (runR kI z2 1 xs ops ops.length).length = ops.length := runR_length _ _ _ _ _ _
  have hwr : Wide 1 (runR kI z2 1 xs ops ops.length) := runR_d _ _ _ _ _ _
  refine con_goesKC (es := esU) (d := 8) (deep := shallow []) 193 (by kernel_rfl) (dec := []) (e := .ret) (s := mk [4] [.slc 0 0 1] [⟨[.slc 1 0 1], 71⟩, ⟨ivRow 1 (jacD kI z2 1 xs ops outs 0), 26⟩] []) [] (r := ⟨_, _, true⟩) (by kernel_rfl) rfl (.inl rfl) fun w0 => ?_
  refine goes_seq (by kernel_rfl) (wA1 xs xs.length ops ops.length outs w0 []) (goes_seq (by kernel_rfl) (goes_to (wB1 xs xs.length ops ops.length outs w0 [] [] ?_) ?_) (goes_seq (by kernel_rfl) (goes_to (wD1 xs xs.length ops ops.length outs (rvI ops.length []) w0 [] [] ?_) ?_) (goes_seq (by kernel_rfl) (goes_seq (by kernel_rfl) (goes_to (wE1 xs xs.length ops ops.length outs (rvI ops.length []) (rdI 1 ops.length []) w0 [] [] ?_) ?_) (goes_block (id := 0) (by kernel_rfl) (goes_loop (by kernel_rfl) (fun h => by cases h) ops.length (fun i => wSt1 xs ops outs (runR kI z2 1 xs ops i) i) (s2 := _) ?_ ?_))) (goes_to (wZ1 xs xs.length ops ops.length outs (runR kI z2 1 xs ops ops.length) ops.length w0 [] [] ?_) ?_))))
  · simp [AV.noOwn]; omega
  · simp only [Int.toNat_natCast]; rw [rvI_nil]
  · simp [rvI_noOwn, AV.noOwn]; omega
  · simp only [Int.toNat_natCast]; rfl
  · simp [rvI_noOwn, rdI_noOwn]
  · rfl
  · intro i hi
    exact wRound1 xs ops outs (runR kI z2 1 xs ops i) i hi hm (runR_length _ _ _ _ _ _) (runR_d _ _ _ _ _ _) ho hx w0
  · exact wX1 xs xs.length ops ops.length outs (runR kI z2 1 xs ops ops.length) ops.length w0 [] [] (by
      simp only [Bool.and_eq_true]
      and_intros
      all_goals first
        | rfl
        | exact trivial
        | exact rdI_noOwn _ _ _
        | simp)
  · have hld : (rdI 1 ops.length (runR kI z2 1 xs ops ops.length)).length = ops.length := rdI_length (by omega)
    have h0 := hout.2 0 (by omega)
    have o0 := intL_get (xs := outs) (i := 0) (by rw [hout.1]; omega)
    have r0 := rdI_get (m := ops.length) (N := 1) (rs := runR kI z2 1 xs ops ops.length) (a := outs.getD 0 0) h0.1 (by rw [hrl]; exact h0.2)
    have d0 := jacD_length kI z2 (xs := xs) hout (j := 0) (by omega)
    have e0 : ivL (rAt z2 (runR kI z2 1 xs ops ops.length) (outs.getD 0 0)).d = ivRow 1 (jacD kI z2 1 xs ops outs 0) := ivL_row d0
    have t0 : List.take 2 (ivRow 1 (jacD kI z2 1 xs ops outs 0)) = ivRow 1 (jacD kI z2 1 xs ops outs 0) := rfl
    have a0 : (ivRow 1 (jacD kI z2 1 xs ops outs 0)).all AV.noOwn = true := rfl
    have b0 : (ivRow 1 (jacD kI z2 1 xs ops outs 0)).all AV.one = true := rfl
    have l0 : (ivRow 1 (jacD kI z2 1 xs ops outs 0)).length = 2 := rfl
    simp only [o0, r0, e0, AV.toInt, AV.sLen, AV.sCells, AV.isSn, Nat.mul_one, Nat.reduceMul, List.nil_append, t0, a0, b0, l0]
    simp only [Bool.and_eq_true]
    and_intros
    all_goals first
      | rfl
      | exact trivial
      | exact ivL_noOwn _
      | (rw [Nat.blt_eq]; simp only [intL_length, hld, hout.1]; omega)
      | (rw [Nat.ble_eq]; rw [ivL_length]; omega)
      | (simp only [decide_eq_true_eq]; omega)
      | (simp; omega)
  · have hld : (rdI 1 ops.length (runR kI z2 1 xs ops ops.length)).length = ops.length := rdI_length (by omega)
    have h0 := hout.2 0 (by omega)
    have o0 := intL_get (xs := outs) (i := 0) (by rw [hout.1]; omega)
    have r0 := rdI_get (m := ops.length) (N := 1) (rs := runR kI z2 1 xs ops ops.length) (a := outs.getD 0 0) h0.1 (by rw [hrl]; exact h0.2)
    have d0 := jacD_length kI z2 (xs := xs) hout (j := 0) (by omega)
    have e0 : ivL (rAt z2 (runR kI z2 1 xs ops ops.length) (outs.getD 0 0)).d = ivRow 1 (jacD kI z2 1 xs ops outs 0) := ivL_row d0
    have t0 : List.take 2 (ivRow 1 (jacD kI z2 1 xs ops outs 0)) = ivRow 1 (jacD kI z2 1 xs ops outs 0) := rfl
    have a0 : (ivRow 1 (jacD kI z2 1 xs ops outs 0)).all AV.noOwn = true := rfl
    have b0 : (ivRow 1 (jacD kI z2 1 xs ops outs 0)).all AV.one = true := rfl
    have l0 : (ivRow 1 (jacD kI z2 1 xs ops outs 0)).length = 2 := rfl
    simp only [o0, r0, e0, AV.toInt, AV.sLen, AV.sCells, Nat.mul_one, Nat.reduceMul, List.nil_append, t0]

def wSt2 (xs : List (Nat × Nat)) (ops : List TOp) (outs : List Int) (rs : List (Rg (Nat × Nat))) (i : Nat) : St :=
  mk [1,2,5,6,7] [.snap (ivL xs) xs.length, .ptr 0 0, .slc 1 0 ops.length, .slc 2 0 ops.length, .int .i64 (i : Int)] [⟨[.int .i64 2, .snap (opsL ops) ops.length, .snap (intL outs) 2], 53⟩, ⟨rvI ops.length rs, 26⟩, ⟨rdI 2 ops.length rs, 71⟩] []

theorem wRound2 (xs : List (Nat × Nat)) (ops : List TOp) (outs : List Int) (rs : List (Rg (Nat × Nat))) (i : Nat) (hi : i < ops.length) (hm : ops.length < 1000) (hl : rs.length = i) (hw : Wide 2 rs) (ho : OpsOk xs.length ops) (hx : xs.length = 2) (w0 : World) :
    Goes CW w0 193 wBody (wSt2 xs ops outs rs i) .normal (wSt2 xs ops outs (rs ++ [stepR kI z2 2 xs rs (ops.getD i op0)]) (i + 1)) := by
  have ew : IntKind.i64.wrap ((i : Int) + 1) = ((i + 1 : Nat) : Int) := by rw [wrapI (by omega) (by omega)]; rfl
  obtain ⟨g0, g1, g2, g3⟩ := opsL_at ops i hi
  rw [Int.toNat_natCast] at g0 g1 g2 g3
  have hop := ho i hi
  have hlen := opsL_length ops
  have hlv : (rvI ops.length rs).length = 2 * ops.length := rvI_length (by omega)
  have hld : (rdI 2 ops.length rs).length = ops.length := rdI_length (by omega)
  have gsi : ∀ x y, (((rvI ops.length rs).set (i * 2) x).set (i * 2 + 1) y).getD (i * 2) .undef = x := fun x y => by rw [getD_set_ne _ _ _ _ _ (by omega)]; exact getD_set_self _ _ _ _ (by omega)
  have gsi1 : ∀ x y, (((rvI ops.length rs).set (i * 2) x).set (i * 2 + 1) y).getD (i * 2 + 1) .undef = y := fun x y => getD_set_self _ _ _ _ (by simp; omega)
  have hsi : ∀ x, ((rdI 2 ops.length rs).set i x).getD i .undef = x := fun x => getD_set_self _ _ _ _ (by omega)
  have hvs : ∀ r : Rg (Nat × Nat), ((rvI ops.length rs).set (i * 2) (.flt r.v.1)).set (i * 2 + 1) (.flt r.v.2) = rvI ops.length (rs ++ [r]) := fun r => by subst hl; exact rvI_set (by omega) r
  have hds : ∀ r : Rg (Nat × Nat), (rdI 2 ops.length rs).set i (.snap (ivL r.d) 2) = rdI 2 ops.length (rs ++ [r]) := fun r => by subst hl; exact rdI_set (by omega) r
  have fin : ∀ o, mk [1,2,5,6,7] [.snap (ivL xs) xs.length, .ptr 0 0, .slc 1 0 ops.length, .slc 2 0 ops.length, .int .i64 (IntKind.wrap .i64 ((i : Int) + 1))] [⟨[.int .i64 2, .snap (opsL ops) ops.length, .snap (intL outs) 2], 53⟩, ⟨rvI ops.length (rs ++ [stepR kI z2 2 xs rs o]), 26⟩, ⟨rdI 2 ops.length (rs ++ [stepR kI z2 2 xs rs o]), 71⟩] [] = wSt2 xs ops outs (rs ++ [stepR kI z2 2 xs rs o]) (i + 1) := fun o => by unfold wSt2; rw [← ew]
  generalize ops.getD i op0 = o at *
  obtain ⟨k, a, b, c⟩ := o
  dsimp only at g0 g1 g2 g3
  rcases hop with ⟨hk, _⟩ | ⟨hk, h0, h1, _⟩ | ⟨hk, h0, h1, h2, h3, _⟩
  · dsimp only at hk
    subst hk
    refine goes_to (wI2_0 xs xs.length ops ops.length outs rs i a b c w0 [] [] ?_) (fin _)
    simp only [Int.toNat_natCast, Nat.zero_add, Nat.mul_one, setL, List.length_set]
    simp only [Bool.and_eq_true]
    and_intros
    all_goals first
      | rfl
      | exact trivial
      | (simp only [decide_eq_true_eq]; omega)
      | (simp only [Nat.blt_eq, Nat.ble_eq]; omega)
      | (simp only [etasOk, g0, g1, g2, g3]; rfl)
      | (apply pb_of; simp only [g0, g1, g2, g3, AV.toInt, AV.toFlt]; done)
      | (apply pb_of; simp only [hsi]; done)
      | exact pb_of (by rw [← hvs]; exact SubP.same (A := ((rvI ops.length rs).set (i * 2) (.flt (stepR kI z2 2 xs rs ⟨0, a, b, c⟩).v.1)).set (i * 2 + 1) (.flt (stepR kI z2 2 xs rs ⟨0, a, b, c⟩).v.2)) (by rw [hvs]; exact rvI_noOwn _ _))
      | exact pb_of (by rw [← hds]; exact SubP.set (rdI_noOwn _ _ _) _ rfl)
      | exact pb_of (SubP.same (A := ivL (stepR kI z2 2 xs rs ⟨0, a, b, c⟩).d) rfl)
  · dsimp only at hk h0 h1
    subst hk
    have hax : a.toNat < xs.length := by omega
    obtain ⟨gx, gx1⟩ := ivL_get xs a.toNat hax
    have hxl := ivL_length xs
    refine goes_to (wI2_1 xs xs.length ops ops.length outs rs i a b c w0 [] [] ?_) (fin _)
    simp only [Int.toNat_natCast, Nat.zero_add, Nat.mul_one, setL, List.length_set]
    simp only [Bool.and_eq_true]
    and_intros
    all_goals first
      | rfl
      | exact trivial
      | (simp only [decide_eq_true_eq]; omega)
      | (simp only [Nat.blt_eq, Nat.ble_eq, ivL_length]; omega)
      | (simp only [etasOk, g0, g1, g2, g3]; rfl)
      | (apply pb_of; simp only [g0, g1, g2, g3, AV.toInt, AV.toFlt]; done)
      | (simp only [etasOk, gx, gx1]; rfl)
      | (apply pb_of; simp only [gx, gx1, AV.toFlt]; done)
      | (apply pb_of; simp only [hsi]; done)
      | exact pb_of (by rw [← hvs]; exact SubP.same (A := ((rvI ops.length rs).set (i * 2) (.flt (stepR kI z2 2 xs rs ⟨1, a, b, c⟩).v.1)).set (i * 2 + 1) (.flt (stepR kI z2 2 xs rs ⟨1, a, b, c⟩).v.2)) (by rw [hvs]; exact rvI_noOwn _ _))
      | exact pb_of (by rw [← hds]; exact SubP.set (rdI_noOwn _ _ _) _ rfl)
      | (apply pb_of
         rw [hx] at h1
         have ha : a = 0 ∨ a = 1 := by omega
         rcases ha with rfl | rfl <;> exact SubP.same rfl)
  · dsimp only at hk h0 h1 h2 h3
    have da := hw _ (rAt_mem z2 rs a h0 (by omega))
    have db := hw _ (rAt_mem z2 rs b h2 (by omega))
    obtain ⟨gva, gva1⟩ := rvI_get (m := ops.length) h0 (show a < rs.length by omega) (by omega)
    obtain ⟨gvb, gvb1⟩ := rvI_get (m := ops.length) h2 (show b < rs.length by omega) (by omega)
    have na1 : i * 2 + 1 ≠ a.toNat * 2 := by omega
    have na2 : i * 2 ≠ a.toNat * 2 := by omega
    have na3 : i * 2 + 1 ≠ a.toNat * 2 + 1 := by omega
    have na4 : i * 2 ≠ a.toNat * 2 + 1 := by omega
    have gsa : ∀ x y, (((rvI ops.length rs).set (i * 2) x).set (i * 2 + 1) y).getD (a.toNat * 2) .undef = .flt (rAt z2 rs a).v.1 := fun x y => by rw [getD_set_ne _ _ _ _ _ na1, getD_set_ne _ _ _ _ _ na2]; exact gva
    have gsa1 : ∀ x y, (((rvI ops.length rs).set (i * 2) x).set (i * 2 + 1) y).getD (a.toNat * 2 + 1) .undef = .flt (rAt z2 rs a).v.2 := fun x y => by rw [getD_set_ne _ _ _ _ _ na3, getD_set_ne _ _ _ _ _ na4]; exact gva1
    have nb1 : i * 2 + 1 ≠ b.toNat * 2 := by omega
    have nb2 : i * 2 ≠ b.toNat * 2 := by omega
    have nb3 : i * 2 + 1 ≠ b.toNat * 2 + 1 := by omega
    have nb4 : i * 2 ≠ b.toNat * 2 + 1 := by omega
    have gsb : ∀ x y, (((rvI ops.length rs).set (i * 2) x).set (i * 2 + 1) y).getD (b.toNat * 2) .undef = .flt (rAt z2 rs b).v.1 := fun x y => by rw [getD_set_ne _ _ _ _ _ nb1, getD_set_ne _ _ _ _ _ nb2]; exact gvb
    have gsb1 : ∀ x y, (((rvI ops.length rs).set (i * 2) x).set (i * 2 + 1) y).getD (b.toNat * 2 + 1) .undef = .flt (rAt z2 rs b).v.2 := fun x y => by rw [getD_set_ne _ _ _ _ _ nb3, getD_set_ne _ _ _ _ _ nb4]; exact gvb1
    have hsa : ∀ x, ((rdI 2 ops.length rs).set i x).getD a.toNat .undef = .snap (ivL (rAt z2 rs a).d) 2 := fun x => by rw [getD_set_ne _ _ _ _ _ (by omega)]; exact rdI_get h0 (by omega)
    have hsb : ∀ x, ((rdI 2 ops.length rs).set i x).getD b.toNat .undef = .snap (ivL (rAt z2 rs b).d) 2 := fun x => by rw [getD_set_ne _ _ _ _ _ (by omega)]; exact rdI_get h2 (by omega)
    have la := ivL_length (rAt z2 rs a).d
    have lb := ivL_length (rAt z2 rs b).d
    have fa0 : (ivL (rAt z2 rs a).d).getD 0 .undef = .flt ((rAt z2 rs a).d.getD 0 z2).1 := (ivL_get (rAt z2 rs a).d 0 (by omega)).1
    have fa0x : (ivL (rAt z2 rs a).d).getD 1 .undef = .flt ((rAt z2 rs a).d.getD 0 z2).2 := (ivL_get (rAt z2 rs a).d 0 (by omega)).2
    have fb0 : (ivL (rAt z2 rs b).d).getD 0 .undef = .flt ((rAt z2 rs b).d.getD 0 z2).1 := (ivL_get (rAt z2 rs b).d 0 (by omega)).1
    have fb0x : (ivL (rAt z2 rs b).d).getD 1 .undef = .flt ((rAt z2 rs b).d.getD 0 z2).2 := (ivL_get (rAt z2 rs b).d 0 (by omega)).2
    have fa1 : (ivL (rAt z2 rs a).d).getD 2 .undef = .flt ((rAt z2 rs a).d.getD 1 z2).1 := (ivL_get (rAt z2 rs a).d 1 (by omega)).1
    have fa1x : (ivL (rAt z2 rs a).d).getD 3 .undef = .flt ((rAt z2 rs a).d.getD 1 z2).2 := (ivL_get (rAt z2 rs a).d 1 (by omega)).2
    have fb1 : (ivL (rAt z2 rs b).d).getD 2 .undef = .flt ((rAt z2 rs b).d.getD 1 z2).1 := (ivL_get (rAt z2 rs b).d 1 (by omega)).1
    have fb1x : (ivL (rAt z2 rs b).d).getD 3 .undef = .flt ((rAt z2 rs b).d.getD 1 z2).2 := (ivL_get (rAt z2 rs b).d 1 (by omega)).2
    rcases hk with hk | hk | hk | hk <;> subst hk
    · refine goes_to (wI2_2 xs xs.length ops ops.length outs rs i a b c w0 [] [] ?_) (fin _)
      simp only [Int.toNat_natCast, Nat.zero_add, Nat.mul_one, setL, List.length_set]
      simp only [Bool.and_eq_true]
      and_intros
      all_goals first
        | rfl
        | exact trivial
        | (simp only [decide_eq_true_eq]; omega)
        | (simp only [Nat.blt_eq, Nat.ble_eq, ivL_length]; omega)
        | (simp only [etasOk, g0, g1, g2, g3]; rfl)
        | (apply pb_of; simp only [g0, g1, g2, g3, AV.toInt, AV.toFlt]; done)
        | (simp only [etasOk, gva, gvb, gva1, gvb1, gsa, gsb, gsa1, gsb1, gsi, gsi1, fa0, fb0, fa0x, fb0x, fa1, fb1, fa1x, fb1x]; rfl)
        | (apply pb_of; simp only [gva, gvb, gva1, gvb1, gsa, gsb, gsa1, gsb1, AV.toFlt]; done)
        | (apply pb_of; rw [gsi, gsi1]; rfl)
        | (apply pb_of; simp only [hsa, hsb, hsi]; done)
        | exact pb_of (by rw [← hvs]; exact SubP.same (A := ((rvI ops.length rs).set (i * 2) (.flt (stepR kI z2 2 xs rs ⟨2, a, b, c⟩).v.1)).set (i * 2 + 1) (.flt (stepR kI z2 2 xs rs ⟨2, a, b, c⟩).v.2)) (by rw [hvs]; exact rvI_noOwn _ _))
        | exact pb_of (by rw [← hds]; exact SubP.set (rdI_noOwn _ _ _) _ rfl)
        | (apply pb_of; simp only [fa0, fb0, fa0x, fb0x, fa1, fb1, fa1x, fb1x, AV.toFlt]; exact SubP.same (A := ivL (stepR kI z2 2 xs rs ⟨2, a, b, c⟩).d) rfl)
    · refine goes_to (wI2_3 xs xs.length ops ops.length outs rs i a b c w0 [] [] ?_) (fin _)
      simp only [Int.toNat_natCast, Nat.zero_add, Nat.mul_one, setL, List.length_set]
      simp only [Bool.and_eq_true]
      and_intros
      all_goals first
        | rfl
        | exact trivial
        | (simp only [decide_eq_true_eq]; omega)
        | (simp only [Nat.blt_eq, Nat.ble_eq, ivL_length]; omega)
        | (simp only [etasOk, g0, g1, g2, g3]; rfl)
        | (apply pb_of; simp only [g0, g1, g2, g3, AV.toInt, AV.toFlt]; done)
        | (simp only [etasOk, gva, gvb, gva1, gvb1, gsa, gsb, gsa1, gsb1, gsi, gsi1, fa0, fb0, fa0x, fb0x, fa1, fb1, fa1x, fb1x]; rfl)
        | (apply pb_of; simp only [gva, gvb, gva1, gvb1, gsa, gsb, gsa1, gsb1, AV.toFlt]; done)
        | (apply pb_of; rw [gsi, gsi1]; rfl)
        | (apply pb_of; simp only [hsa, hsb, hsi]; done)
        | exact pb_of (by rw [← hvs]; exact SubP.same (A := ((rvI ops.length rs).set (i * 2) (.flt (stepR kI z2 2 xs rs ⟨3, a, b, c⟩).v.1)).set (i * 2 + 1) (.flt (stepR kI z2 2 xs rs ⟨3, a, b, c⟩).v.2)) (by rw [hvs]; exact rvI_noOwn _ _))
        | exact pb_of (by rw [← hds]; exact SubP.set (rdI_noOwn _ _ _) _ rfl)
        | (apply pb_of; simp only [fa0, fb0, fa0x, fb0x, fa1, fb1, fa1x, fb1x, AV.toFlt]; exact SubP.same (A := ivL (stepR kI z2 2 xs rs ⟨3, a, b, c⟩).d) rfl)
    · refine goes_to (wI2_4 xs xs.length ops ops.length outs rs i a b c w0 [] [] ?_) (fin _)
      simp only [Int.toNat_natCast, Nat.zero_add, Nat.mul_one, setL, List.length_set]
      simp only [Bool.and_eq_true]
      and_intros
      all_goals first
        | rfl
        | exact trivial
        | (simp only [decide_eq_true_eq]; omega)
        | (simp only [Nat.blt_eq, Nat.ble_eq, ivL_length]; omega)
        | (simp only [etasOk, g0, g1, g2, g3]; rfl)
        | (apply pb_of; simp only [g0, g1, g2, g3, AV.toInt, AV.toFlt]; done)
        | (simp only [etasOk, gva, gvb, gva1, gvb1, gsa, gsb, gsa1, gsb1, gsi, gsi1, fa0, fb0, fa0x, fb0x, fa1, fb1, fa1x, fb1x]; rfl)
        | (apply pb_of; simp only [gva, gvb, gva1, gvb1, gsa, gsb, gsa1, gsb1, AV.toFlt]; done)
        | (apply pb_of; rw [gsi, gsi1]; rfl)
        | (apply pb_of; simp only [hsa, hsb, hsi]; done)
        | exact pb_of (by rw [← hvs]; exact SubP.same (A := ((rvI ops.length rs).set (i * 2) (.flt (stepR kI z2 2 xs rs ⟨4, a, b, c⟩).v.1)).set (i * 2 + 1) (.flt (stepR kI z2 2 xs rs ⟨4, a, b, c⟩).v.2)) (by rw [hvs]; exact rvI_noOwn _ _))
        | exact pb_of (by rw [← hds]; exact SubP.set (rdI_noOwn _ _ _) _ rfl)
        | (apply pb_of; simp only [fa0, fb0, fa0x, fb0x, fa1, fb1, fa1x, fb1x, AV.toFlt]; exact SubP.same (A := ivL (stepR kI z2 2 xs rs ⟨4, a, b, c⟩).d) rfl)
    · refine goes_to (wI2_5 xs xs.length ops ops.length outs rs i a b c w0 [] [] ?_) (fin _)
      simp only [Int.toNat_natCast, Nat.zero_add, Nat.mul_one, setL, List.length_set]
      simp only [Bool.and_eq_true]
      and_intros
      all_goals first
        | rfl
        | exact trivial
        | (simp only [decide_eq_true_eq]; omega)
        | (simp only [Nat.blt_eq, Nat.ble_eq, ivL_length]; omega)
        | (simp only [etasOk, g0, g1, g2, g3]; rfl)
        | (apply pb_of; simp only [g0, g1, g2, g3, AV.toInt, AV.toFlt]; done)
        | (simp only [etasOk, gva, gvb, gva1, gvb1, gsa, gsb, gsa1, gsb1, gsi, gsi1, fa0, fb0, fa0x, fb0x, fa1, fb1, fa1x, fb1x]; rfl)
        | (apply pb_of; simp only [gva, gvb, gva1, gvb1, gsa, gsb, gsa1, gsb1, AV.toFlt]; done)
        | (apply pb_of; rw [gsi, gsi1]; rfl)
        | (apply pb_of; simp only [hsa, hsb, hsi]; done)
        | exact pb_of (by rw [← hvs]; exact SubP.same (A := ((rvI ops.length rs).set (i * 2) (.flt (stepR kI z2 2 xs rs ⟨5, a, b, c⟩).v.1)).set (i * 2 + 1) (.flt (stepR kI z2 2 xs rs ⟨5, a, b, c⟩).v.2)) (by rw [hvs]; exact rvI_noOwn _ _))
        | exact pb_of (by rw [← hds]; exact SubP.set (rdI_noOwn _ _ _) _ rfl)
        | (apply pb_of; simp only [fa0, fb0, fa0x, fb0x, fa1, fb1, fa1x, fb1x, AV.toFlt]; exact SubP.same (A := ivL (stepR kI z2 2 xs rs ⟨5, a, b, c⟩).d) rfl)

theorem con_wjac2 (xs : List (Nat × Nat)) (ops : List TOp) (outs : List Int) (hm : ops.length < 1000) (ho : OpsOk xs.length ops) (hx : xs.length = 2) (hout : OutsOk 2 ops.length outs) (n : Nat) :
    Con prog 74 [.agg [.int .i64 2, .snap (opsL ops) ops.length, .snap (intL outs) 2], .snap (ivL xs) xs.length] n (.slc n 0 2) [⟨[.slc (n + 1) 0 2, .slc (n + 2) 0 2], 71⟩, ⟨ivRow 2 (jacD kI z2 2 xs ops outs 0), 26⟩, ⟨ivRow 2 (jacD kI z2 2 xs ops outs 1), 26⟩] := by
  have hrl : (runR kI z2 2 xs ops ops.length).length = ops.length := runR_length _ _ _ _ _ _
  have hwr : Wide 2 (runR kI z2 2 xs ops ops.length) := runR_d _ _ _ _ _ _
  refine con_goesKC (es := esU) (d := 8) (deep := shallow []) 193 (by kernel_rfl) (dec := []) (e := .ret) (s := mk [4] [.slc 0 0 2] [⟨[.slc 1 0 2, .slc 2 0 2], 71⟩, ⟨ivRow 2 (jacD kI z2 2 xs ops outs 0), 26⟩, ⟨ivRow 2 (jacD kI z2 2 xs ops outs 1), 26⟩] []) [] (r := ⟨_, _, true⟩) (by kernel_rfl) rfl (.inl rfl) fun w0 => ?_
  refine goes_seq (by kernel_rfl) (wA2 xs xs.length ops ops.length outs w0 []) (goes_seq (by kernel_rfl) (goes_to (wB2 xs xs.length ops ops.length outs w0 [] [] ?_) ?_) (goes_seq (by kernel_rfl) (goes_to (wD2 xs xs.length ops ops.length outs (rvI ops.length []) w0 [] [] ?_) ?_) (goes_seq (by kernel_rfl) (goes_seq (by kernel_rfl) (goes_to (wE2 xs xs.length ops ops.length outs (rvI ops.length []) (rdI 2 ops.length []) w0 [] [] ?_) ?_) (goes_block (id := 0) (by kernel_rfl) (goes_loop (by kernel_rfl) (fun h => by cases h) ops.length (fun i => wSt2 xs ops outs (runR kI z2 2 xs ops i) i) (s2 := _) ?_ ?_))) (goes_to (wZ2 xs xs.length ops ops.length outs (runR kI z2 2 xs ops ops.length) ops.length w0 [] [] ?_) ?_))))
  · simp [AV.noOwn]; omega
  · simp only [Int.toNat_natCast]; rw [rvI_nil]
  · simp [rvI_noOwn, AV.noOwn]; omega
  · simp only [Int.toNat_natCast]; rfl
  · simp [rvI_noOwn, rdI_noOwn]
  · rfl
  · intro i hi
    exact wRound2 xs ops outs (runR kI z2 2 xs ops i) i hi hm (runR_length _ _ _ _ _ _) (runR_d _ _ _ _ _ _) ho hx w0
  · exact wX2 xs xs.length ops ops.length outs (runR kI z2 2 xs ops ops.length) ops.length w0 [] [] (by
      simp only [Bool.and_eq_true]
      and_intros
      all_goals first
        | rfl
        | exact trivial
        | exact rdI_noOwn _ _ _
        | simp)
  · have hld : (rdI 2 ops.length (runR kI z2 2 xs ops ops.length)).length = ops.length := rdI_length (by omega)
    have h0 := hout.2 0 (by omega)
    have o0 := intL_get (xs := outs) (i := 0) (by rw [hout.1]; omega)
    have r0 := rdI_get (m := ops.length) (N := 2) (rs := runR kI z2 2 xs ops ops.length) (a := outs.getD 0 0) h0.1 (by rw [hrl]; exact h0.2)
    have d0 := jacD_length kI z2 (xs := xs) hout (j := 0) (by omega)
    have e0 : ivL (rAt z2 (runR kI z2 2 xs ops ops.length) (outs.getD 0 0)).d = ivRow 2 (jacD kI z2 2 xs ops outs 0) := ivL_row d0
    have t0 : List.take 4 (ivRow 2 (jacD kI z2 2 xs ops outs 0)) = ivRow 2 (jacD kI z2 2 xs ops outs 0) := rfl
    have a0 : (ivRow 2 (jacD kI z2 2 xs ops outs 0)).all AV.noOwn = true := rfl
    have b0 : (ivRow 2 (jacD kI z2 2 xs ops outs 0)).all AV.one = true := rfl
    have l0 : (ivRow 2 (jacD kI z2 2 xs ops outs 0)).length = 4 := rfl
    have h1 := hout.2 1 (by omega)
    have o1 := intL_get (xs := outs) (i := 1) (by rw [hout.1]; omega)
    have r1 := rdI_get (m := ops.length) (N := 2) (rs := runR kI z2 2 xs ops ops.length) (a := outs.getD 1 0) h1.1 (by rw [hrl]; exact h1.2)
    have d1 := jacD_length kI z2 (xs := xs) hout (j := 1) (by omega)
    have e1 : ivL (rAt z2 (runR kI z2 2 xs ops ops.length) (outs.getD 1 0)).d = ivRow 2 (jacD kI z2 2 xs ops outs 1) := ivL_row d1
    have t1 : List.take 4 (ivRow 2 (jacD kI z2 2 xs ops outs 1)) = ivRow 2 (jacD kI z2 2 xs ops outs 1) := rfl
    have a1 : (ivRow 2 (jacD kI z2 2 xs ops outs 1)).all AV.noOwn = true := rfl
    have b1 : (ivRow 2 (jacD kI z2 2 xs ops outs 1)).all AV.one = true := rfl
    have l1 : (ivRow 2 (jacD kI z2 2 xs ops outs 1)).length = 4 := rfl
    simp only [o0, r0, e0, o1, r1, e1, AV.toInt, AV.sLen, AV.sCells, AV.isSn, Nat.mul_one, Nat.reduceMul, List.nil_append, t0, t1, a0, b0, l0, a1, b1, l1]
    simp only [Bool.and_eq_true]
    and_intros
    all_goals first
      | rfl
      | exact trivial
      | exact ivL_noOwn _
      | (rw [Nat.blt_eq]; simp only [intL_length, hld, hout.1]; omega)
      | (rw [Nat.ble_eq]; rw [ivL_length]; omega)
      | (simp only [decide_eq_true_eq]; omega)
      | (simp; omega)
  · have hld : (rdI 2 ops.length (runR kI z2 2 xs ops ops.length)).length = ops.length := rdI_length (by omega)
    have h0 := hout.2 0 (by omega)
    have o0 := intL_get (xs := outs) (i := 0) (by rw [hout.1]; omega)
    have r0 := rdI_get (m := ops.length) (N := 2) (rs := runR kI z2 2 xs ops ops.length) (a := outs.getD 0 0) h0.1 (by rw [hrl]; exact h0.2)
    have d0 := jacD_length kI z2 (xs := xs) hout (j := 0) (by omega)
    have e0 : ivL (rAt z2 (runR kI z2 2 xs ops ops.length) (outs.getD 0 0)).d = ivRow 2 (jacD kI z2 2 xs ops outs 0) := ivL_row d0
    have t0 : List.take 4 (ivRow 2 (jacD kI z2 2 xs ops outs 0)) = ivRow 2 (jacD kI z2 2 xs ops outs 0) := rfl
    have a0 : (ivRow 2 (jacD kI z2 2 xs ops outs 0)).all AV.noOwn = true := rfl
    have b0 : (ivRow 2 (jacD kI z2 2 xs ops outs 0)).all AV.one = true := rfl
    have l0 : (ivRow 2 (jacD kI z2 2 xs ops outs 0)).length = 4 := rfl
    have h1 := hout.2 1 (by omega)
    have o1 := intL_get (xs := outs) (i := 1) (by rw [hout.1]; omega)
    have r1 := rdI_get (m := ops.length) (N := 2) (rs := runR kI z2 2 xs ops ops.length) (a := outs.getD 1 0) h1.1 (by rw [hrl]; exact h1.2)
    have d1 := jacD_length kI z2 (xs := xs) hout (j := 1) (by omega)
    have e1 : ivL (rAt z2 (runR kI z2 2 xs ops ops.length) (outs.getD 1 0)).d = ivRow 2 (jacD kI z2 2 xs ops outs 1) := ivL_row d1
    have t1 : List.take 4 (ivRow 2 (jacD kI z2 2 xs ops outs 1)) = ivRow 2 (jacD kI z2 2 xs ops outs 1) := rfl
    have a1 : (ivRow 2 (jacD kI z2 2 xs ops outs 1)).all AV.noOwn = true := rfl
    have b1 : (ivRow 2 (jacD kI z2 2 xs ops outs 1)).all AV.one = true := rfl
    have l1 : (ivRow 2 (jacD kI z2 2 xs ops outs 1)).length = 4 := rfl
    simp only [o0, r0, e0, o1, r1, e1, AV.toInt, AV.sLen, AV.sCells, Nat.mul_one, Nat.reduceMul, List.nil_append, t0, t1]

def wSt3 (xs : List (Nat × Nat)) (ops : List TOp) (outs : List Int) (rs : List (Rg (Nat × Nat))) (i : Nat) : St :=
  mk [1,2,5,6,7] [.snap (ivL xs) xs.length, .ptr 0 0, .slc 1 0 ops.length, .slc 2 0 ops.length, .int .i64 (i : Int)] [⟨[.int .i64 3, .snap (opsL ops) ops.length, .snap (intL outs) 3], 53⟩, ⟨rvI ops.length rs, 26⟩, ⟨rdI 3 ops.length rs, 71⟩] []

theorem wRound3 (xs : List (Nat × Nat)) (ops : List TOp) (outs : List Int) (rs : List (Rg (Nat × Nat))) (i : Nat) (hi : i < ops.length) (hm : ops.length < 1000) (hl : rs.length = i) (hw : Wide 3 rs) (ho : OpsOk xs.length ops) (hx : xs.length = 3) (w0 : World) :
    Goes CW w0 193 wBody (wSt3 xs ops outs rs i) .normal (wSt3 xs ops outs (rs ++ [stepR kI z2 3 xs rs (ops.getD i op0)]) (i + 1)) := by
  have ew : IntKind.i64.wrap ((i : Int) + 1) = ((i + 1 : Nat) : Int) := by rw [wrapI (by omega) (by omega)]; rfl
  obtain ⟨g0, g1, g2, g3⟩ := opsL_at ops i hi
  rw [Int.toNat_natCast] at g0 g1 g2 g3
  have hop := ho i hi
  have hlen := opsL_length ops
  have hlv : (rvI ops.length rs).length = 2 * ops.length := rvI_length (by omega)
  have hld : (rdI 3 ops.length rs).length = ops.length := rdI_length (by omega)
  have gsi : ∀ x y, (((rvI ops.length rs).set (i * 2) x).set (i * 2 + 1) y).getD (i * 2) .undef = x := fun x y => by rw [getD_set_ne _ _ _ _ _ (by omega)]; exact getD_set_self _ _ _ _ (by omega)
  have gsi1 : ∀ x y, (((rvI ops.length rs).set (i * 2) x).set (i * 2 + 1) y).getD (i * 2 + 1) .undef = y := fun x y => getD_set_self _ _ _ _ (by simp; omega)
  have hsi : ∀ x, ((rdI 3 ops.length rs).set i x).getD i .undef = x := fun x => getD_set_self _ _ _ _ (by omega)
  have hvs : ∀ r : Rg (Nat × Nat), ((rvI ops.length rs).set (i * 2) (.flt r.v.1)).set (i * 2 + 1) (.flt r.v.2) = rvI ops.length (rs ++ [r]) := fun r => by subst hl; exact rvI_set (by omega) r
  have hds : ∀ r : Rg (Nat × Nat), (rdI 3 ops.length rs).set i (.snap (ivL r.d) 3) = rdI 3 ops.length (rs ++ [r]) := fun r => by subst hl; exact rdI_set (by omega) r
  have fin : ∀ o, mk [1,2,5,6,7] [.snap (ivL xs) xs.length, .ptr 0 0, .slc 1 0 ops.length, .slc 2 0 ops.length, .int .i64 (IntKind.wrap .i64 ((i : Int) + 1))] [⟨[.int .i64 3, .snap (opsL ops) ops.length, .snap (intL outs) 3], 53⟩, ⟨rvI ops.length (rs ++ [stepR kI z2 3 xs rs o]), 26⟩, ⟨rdI 3 ops.length (rs ++ [stepR kI z2 3 xs rs o]), 71⟩] [] = wSt3 xs ops outs (rs ++ [stepR kI z2 3 xs rs o]) (i + 1) := fun o => by unfold wSt3; rw [← ew]
  generalize ops.getD i op0 = o at *
  obtain ⟨k, a, b, c⟩ := o
  dsimp only at g0 g1 g2 g3
  rcases hop with ⟨hk, _⟩ | ⟨hk, h0, h1, _⟩ | ⟨hk, h0, h1, h2, h3, _⟩
  · dsimp only at hk
    subst hk
    refine goes_to (wI3_0 xs xs.length ops ops.length outs rs i a b c w0 [] [] ?_) (fin _)
    simp only [Int.toNat_natCast, Nat.zero_add, Nat.mul_one, setL, List.length_set]
    simp only [Bool.and_eq_true]
    and_intros
    all_goals first
      | rfl
      | exact trivial
      | (simp only [decide_eq_true_eq]; omega)
      | (simp only [Nat.blt_eq, Nat.ble_eq]; omega)
      | (simp only [etasOk, g0, g1, g2, g3]; rfl)
      | (apply pb_of; simp only [g0, g1, g2, g3, AV.toInt, AV.toFlt]; done)
      | (apply pb_of; simp only [hsi]; done)
      | exact pb_of (by rw [← hvs]; exact SubP.same (A := ((rvI ops.length rs).set (i * 2) (.flt (stepR kI z2 3 xs rs ⟨0, a, b, c⟩).v.1)).set (i * 2 + 1) (.flt (stepR kI z2 3 xs rs ⟨0, a, b, c⟩).v.2)) (by rw [hvs]; exact rvI_noOwn _ _))
      | exact pb_of (by rw [← hds]; exact SubP.set (rdI_noOwn _ _ _) _ rfl)
      | exact pb_of (SubP.same (A := ivL (stepR kI z2 3 xs rs ⟨0, a, b, c⟩).d) rfl)
  · dsimp only at hk h0 h1
    subst hk
    have hax : a.toNat < xs.length := by omega
    obtain ⟨gx, gx1⟩ := ivL_get xs a.toNat hax
    have hxl := ivL_length xs
    refine goes_to (wI3_1 xs xs.length ops ops.length outs rs i a b c w0 [] [] ?_) (fin _)
    simp only [Int.toNat_natCast, Nat.zero_add, Nat.mul_one, setL, List.length_set]
    simp only [Bool.and_eq_true]
    and_intros
    all_goals first
      | rfl
      | exact trivial
      | (simp only [decide_eq_true_eq]; omega)
      | (simp only [Nat.blt_eq, Nat.ble_eq, ivL_length]; omega)
      | (simp only [etasOk, g0, g1, g2, g3]; rfl)
      | (apply pb_of; simp only [g0, g1, g2, g3, AV.toInt, AV.toFlt]; done)
      | (simp only [etasOk, gx, gx1]; rfl)
      | (apply pb_of; simp only [gx, gx1, AV.toFlt]; done)
      | (apply pb_of; simp only [hsi]; done)
      | exact pb_of (by rw [← hvs]; exact SubP.same (A := ((rvI ops.length rs).set (i * 2) (.flt (stepR kI z2 3 xs rs ⟨1, a, b, c⟩).v.1)).set (i * 2 + 1) (.flt (stepR kI z2 3 xs rs ⟨1, a, b, c⟩).v.2)) (by rw [hvs]; exact rvI_noOwn _ _))
      | exact pb_of (by rw [← hds]; exact SubP.set (rdI_noOwn _ _ _) _ rfl)
      | (apply pb_of
         rw [hx] at h1
         have ha : a = 0 ∨ a = 1 ∨ a = 2 := by omega
         rcases ha with rfl | rfl | rfl <;> exact SubP.same rfl)
  · dsimp only at hk h0 h1 h2 h3
    have da := hw _ (rAt_mem z2 rs a h0 (by omega))
    have db := hw _ (rAt_mem z2 rs b h2 (by omega))
    obtain ⟨gva, gva1⟩ := rvI_get (m := ops.length) h0 (show a < rs.length by omega) (by omega)
    obtain ⟨gvb, gvb1⟩ := rvI_get (m := ops.length) h2 (show b < rs.length by omega) (by omega)
    have na1 : i * 2 + 1 ≠ a.toNat * 2 := by omega
    have na2 : i * 2 ≠ a.toNat * 2 := by omega
    have na3 : i * 2 + 1 ≠ a.toNat * 2 + 1 := by omega
    have na4 : i * 2 ≠ a.toNat * 2 + 1 := by omega
    have gsa : ∀ x y, (((rvI ops.length rs).set (i * 2) x).set (i * 2 + 1) y).getD (a.toNat * 2) .undef = .flt (rAt z2 rs a).v.1 := fun x y => by rw [getD_set_ne _ _ _ _ _ na1, getD_set_ne _ _ _ _ _ na2]; exact gva
    have gsa1 : ∀ x y, (((rvI ops.length rs).set (i * 2) x).set (i * 2 + 1) y).getD (a.toNat * 2 + 1) .undef = .flt (rAt z2 rs a).v.2 := fun x y => by rw [getD_set_ne _ _ _ _ _ na3, getD_set_ne _ _ _ _ _ na4]; exact gva1
    have nb1 : i * 2 + 1 ≠ b.toNat * 2 := by omega
    have nb2 : i * 2 ≠ b.toNat * 2 := by omega
    have nb3 : i * 2 + 1 ≠ b.toNat * 2 + 1 := by omega
    have nb4 : i * 2 ≠ b.toNat * 2 + 1 := by omega
    have gsb : ∀ x y, (((rvI ops.length rs).set (i * 2) x).set (i * 2 + 1) y).getD (b.toNat * 2) .undef = .flt (rAt z2 rs b).v.1 := fun x y => by rw [getD_set_ne _ _ _ _ _ nb1, getD_set_ne _ _ _ _ _ nb2]; exact gvb
    have gsb1 : ∀ x y, (((rvI ops.length rs).set (i * 2) x).set (i * 2 + 1) y).getD (b.toNat * 2 + 1) .undef = .flt (rAt z2 rs b).v.2 := fun x y => by rw [getD_set_ne _ _ _ _ _ nb3, getD_set_ne _ _ _ _ _ nb4]; exact gvb1
    have hsa : ∀ x, ((rdI 3 ops.length rs).set i x).getD a.toNat .undef = .snap (ivL (rAt z2 rs a).d) 3 := fun x => by rw [getD_set_ne _ _ _ _ _ (by omega)]; exact rdI_get h0 (by omega)
    have hsb : ∀ x, ((rdI 3 ops.length rs).set i x).getD b.toNat .undef = .snap (ivL (rAt z2 rs b).d) 3 := fun x => by rw [getD_set_ne _ _ _ _ _ (by omega)]; exact rdI_get h2 (by omega)
    have la := ivL_length (rAt z2 rs a).d
    have lb := ivL_length (rAt z2 rs b).d
    have fa0 : (ivL (rAt z2 rs a).d).getD 0 .undef = .flt ((rAt z2 rs a).d.getD 0 z2).1 := (ivL_get (rAt z2 rs a).d 0 (by omega)).1
    have fa0x : (ivL (rAt z2 rs a).d).getD 1 .undef = .flt ((rAt z2 rs a).d.getD 0 z2).2 := (ivL_get (rAt z2 rs a).d 0 (by omega)).2
    have fb0 : (ivL (rAt z2 rs b).d).getD 0 .undef = .flt ((rAt z2 rs b).d.getD 0 z2).1 := (ivL_get (rAt z2 rs b).d 0 (by omega)).1
    have fb0x : (ivL (rAt z2 rs b).d).getD 1 .undef = .flt ((rAt z2 rs b).d.getD 0 z2).2 := (ivL_get (rAt z2 rs b).d 0 (by omega)).2
    have fa1 : (ivL (rAt z2 rs a).d).getD 2 .undef = .flt ((rAt z2 rs a).d.getD 1 z2).1 := (ivL_get (rAt z2 rs a).d 1 (by omega)).1
    have fa1x : (ivL (rAt z2 rs a).d).getD 3 .undef = .flt ((rAt z2 rs a).d.getD 1 z2).2 := (ivL_get (rAt z2 rs a).d 1 (by omega)).2
    have fb1 : (ivL (rAt z2 rs b).d).getD 2 .undef = .flt ((rAt z2 rs b).d.getD 1 z2).1 := (ivL_get (rAt z2 rs b).d 1 (by omega)).1
    have fb1x : (ivL (rAt z2 rs b).d).getD 3 .undef = .flt ((rAt z2 rs b).d.getD 1 z2).2 := (ivL_get (rAt z2 rs b).d 1 (by omega)).2
    have fa2 : (ivL (rAt z2 rs a).d).getD 4 .undef = .flt ((rAt z2 rs a).d.getD 2 z2).1 := (ivL_get (rAt z2 rs a).d 2 (by omega)).1
    have fa2x : (ivL (rAt z2 rs a).d).getD 5 .undef = .flt ((rAt z2 rs a).d.getD 2 z2).2 := (ivL_get (rAt z2 rs a).d 2 (by omega)).2
    have fb2 : (ivL (rAt z2 rs b).d).getD 4 .undef = .flt ((rAt z2 rs b).d.getD 2 z2).1 := (ivL_get (rAt z2 rs b).d 2 (by omega)).1
    have fb2x : (ivL (rAt z2 rs b).d).getD 5 .undef = .flt ((rAt z2 rs b).d.getD 2 z2).2 := (ivL_get (rAt z2 rs b).d 2 (by omega)).2
    rcases hk with hk | hk | hk | hk <;> subst hk
    · refine goes_to (wI3_2 xs xs.length ops ops.length outs rs i a b c w0 [] [] ?_) (fin _)
      simp only [Int.toNat_natCast, Nat.zero_add, Nat.mul_one, setL, List.length_set]
      simp only [Bool.and_eq_true]
      and_intros
      all_goals first
        | rfl
        | exact trivial
        | (simp only [decide_eq_true_eq]; omega)
        | (simp only [Nat.blt_eq, Nat.ble_eq, ivL_length]; omega)
        | (simp only [etasOk, g0, g1, g2, g3]; rfl)
        | (apply pb_of; simp only [g0, g1, g2, g3, AV.toInt, AV.toFlt]; done)
        | (simp only [etasOk, gva, gvb, gva1, gvb1, gsa, gsb, gsa1, gsb1, gsi, gsi1, fa0, fb0, fa0x, fb0x, fa1, fb1, fa1x, fb1x, fa2, fb2, fa2x, fb2x]; rfl)
        | (apply pb_of; simp only [gva, gvb, gva1, gvb1, gsa, gsb, gsa1, gsb1, AV.toFlt]; done)
        | (apply pb_of; rw [gsi, gsi1]; rfl)
        | (apply pb_of; simp only [hsa, hsb, hsi]; done)
        | exact pb_of (by rw [← hvs]; exact SubP.same (A := ((rvI ops.length rs).set (i * 2) (.flt (stepR kI z2 3 xs rs ⟨2, a, b, c⟩).v.1)).set (i * 2 + 1) (.flt (stepR kI z2 3 xs rs ⟨2, a, b, c⟩).v.2)) (by rw [hvs]; exact rvI_noOwn _ _))
        | exact pb_of (by rw [← hds]; exact SubP.set (rdI_noOwn _ _ _) _ rfl)
        | (apply pb_of; simp only [fa0, fb0, fa0x, fb0x, fa1, fb1, fa1x, fb1x, fa2, fb2, fa2x, fb2x, AV.toFlt]; exact SubP.same (A := ivL (stepR kI z2 3 xs rs ⟨2, a, b, c⟩).d) rfl)
    · refine goes_to (wI3_3 xs xs.length ops ops.length outs rs i a b c w0 [] [] ?_) (fin _)
      simp only [Int.toNat_natCast, Nat.zero_add, Nat.mul_one, setL, List.length_set]
      simp only [Bool.and_eq_true]
      and_intros
      all_goals first
        | rfl
        | exact trivial
        | (simp only [decide_eq_true_eq]; omega)
        | (simp only [Nat.blt_eq, Nat.ble_eq, ivL_length]; omega)
        | (simp only [etasOk, g0, g1, g2, g3]; rfl)
        | (apply pb_of; simp only [g0, g1, g2, g3, AV.toInt, AV.toFlt]; done)
        | (simp only [etasOk, gva, gvb, gva1, gvb1, gsa, gsb, gsa1, gsb1, gsi, gsi1, fa0, fb0, fa0x, fb0x, fa1, fb1, fa1x, fb1x, fa2, fb2, fa2x, fb2x]; rfl)
        | (apply pb_of; simp only [gva, gvb, gva1, gvb1, gsa, gsb, gsa1, gsb1, AV.toFlt]; done)
        | (apply pb_of; rw [gsi, gsi1]; rfl)
        | (apply pb_of; simp only [hsa, hsb, hsi]; done)
        | exact pb_of (by rw [← hvs]; exact SubP.same (A := ((rvI ops.length rs).set (i * 2) (.flt (stepR kI z2 3 xs rs ⟨3, a, b, c⟩).v.1)).set (i * 2 + 1) (.flt (stepR kI z2 3 xs rs ⟨3, a, b, c⟩).v.2)) (by rw [hvs]; exact rvI_noOwn _ _))
        | exact pb_of (by rw [← hds]; exact SubP.set (rdI_noOwn _ _ _) _ rfl)
        | (apply pb_of; simp only [fa0, fb0, fa0x, fb0x, fa1, fb1, fa1x, fb1x, fa2, fb2, fa2x, fb2x, AV.toFlt]; exact SubP.same (A := ivL (stepR kI z2 3 xs rs ⟨3, a, b, c⟩).d) rfl)
    · refine goes_to (wI3_4 xs xs.length ops ops.length outs rs i a b c w0 [] [] ?_) (fin _)
      simp only [Int.toNat_natCast, Nat.zero_add, Nat.mul_one, setL, List.length_set]
      simp only [Bool.and_eq_true]
      and_intros
      all_goals first
        | rfl
        | exact trivial
        | (simp only [decide_eq_true_eq]; omega)
        | (simp only [Nat.blt_eq, Nat.ble_eq, ivL_length]; omega)
        | (simp only [etasOk, g0, g1, g2, g3]; rfl)
        | (apply pb_of; simp only [g0, g1, g2, g3, AV.toInt, AV.toFlt]; done)
        | (simp only [etasOk, gva, gvb, gva1, gvb1, gsa, gsb, gsa1, gsb1, gsi, gsi1, fa0, fb0, fa0x, fb0x, fa1, fb1, fa1x, fb1x, fa2, fb2, fa2x, fb2x]; rfl)
        | (apply pb_of; simp only [gva, gvb, gva1, gvb1, gsa, gsb, gsa1, gsb1, AV.toFlt]; done)
        | (apply pb_of; rw [gsi, gsi1]; rfl)
        | (apply pb_of; simp only [hsa, hsb, hsi]; done)
        | exact pb_of (by rw [← hvs]; exact SubP.same (A := ((rvI ops.length rs).set (i * 2) (.flt (stepR kI z2 3 xs rs ⟨4, a, b, c⟩).v.1)).set (i * 2 + 1) (.flt (stepR kI z2 3 xs rs ⟨4, a, b, c⟩).v.2)) (by rw [hvs]; exact rvI_noOwn _ _))
        | exact pb_of (by rw [← hds]; exact SubP.set (rdI_noOwn _ _ _) _ rfl)
        | (apply pb_of; simp only [fa0, fb0, fa0x, fb0x, fa1, fb1, fa1x, fb1x, fa2, fb2, fa2x, fb2x, AV.toFlt]; exact SubP.same (A := ivL (stepR kI z2 3 xs rs ⟨4, a, b, c⟩).d) rfl)
    · refine goes_to (wI3_5 xs xs.length ops ops.length outs rs i a b c w0 [] [] ?_) (fin _)
      simp only [Int.toNat_natCast, Nat.zero_add, Nat.mul_one, setL, List.length_set]
      simp only [Bool.and_eq_true]
      and_intros
      all_goals first
        | rfl
        | exact trivial
        | (simp only [decide_eq_true_eq]; omega)
        | (simp only [Nat.blt_eq, Nat.ble_eq, ivL_length]; omega)
        | (simp only [etasOk, g0, g1, g2, g3]; rfl)
        | (apply pb_of; simp only [g0, g1, g2, g3, AV.toInt, AV.toFlt]; done)
        | (simp only [etasOk, gva, gvb, gva1, gvb1, gsa, gsb, gsa1, gsb1, gsi, gsi1, fa0, fb0, fa0x, fb0x, fa1, fb1, fa1x, fb1x, fa2, fb2, fa2x, fb2x]; rfl)
        | (apply pb_of; simp only [gva, gvb, gva1, gvb1, gsa, gsb, gsa1, gsb1, AV.toFlt]; done)
        | (apply pb_of; rw [gsi, gsi1]; rfl)
        | (apply pb_of; simp only [hsa, hsb, hsi]; done)
        | exact pb_of (by rw [← hvs]; exact SubP.same (A := ((rvI ops.length rs).set (i * 2) (.flt (stepR kI z2 3 xs rs ⟨5, a, b, c⟩).v.1)).set (i * 2 + 1) (.flt (stepR kI z2 3 xs rs ⟨5, a, b, c⟩).v.2)) (by rw [hvs]; exact rvI_noOwn _ _))
        | exact pb_of (by rw [← hds]; exact SubP.set (rdI_noOwn _ _ _) _ rfl)
        | (apply pb_of; simp only [fa0, fb0, fa0x, fb0x, fa1, fb1, fa1x, fb1x, fa2, fb2, fa2x, fb2x, AV.toFlt]; exact SubP.same (A := ivL (stepR kI z2 3 xs rs ⟨5, a, b, c⟩).d) rfl)

theorem con_wjac3 (xs : List (Nat × Nat)) (ops : List TOp) (outs : List Int) (hm : ops.length < 1000) (ho : OpsOk xs.length ops) (hx : xs.length = 3) (hout : OutsOk 3 ops.length outs) (n : Nat) :
    Con prog 74 [.agg [.int .i64 3, .snap (opsL ops) ops.length, .snap (intL outs) 3], .snap (ivL xs) xs.length] n (.slc n 0 3) [⟨[.slc (n + 1) 0 3, .slc (n + 2) 0 3, .slc (n + 3) 0 3], 71⟩, ⟨ivRow 3 (jacD kI z2 3 xs ops outs 0), 26⟩, ⟨ivRow 3 (jacD kI z2 3 xs ops outs 1), 26⟩, ⟨ivRow 3 (jacD kI z2 3 xs ops outs 2), 26⟩] := by
  have hrl : (runR kI z2 3 xs ops ops.length).length = ops.length := runR_length _ _ _ _ _ _
  have hwr : Wide 3 (runR kI z2 3 xs ops ops.length) := runR_d _ _ _ _ _ _
  refine con_goesKC (es := esU) (d := 8) (deep := shallow []) 193 (by kernel_rfl) (dec := []) (e := .ret) (s := mk [4] [.slc 0 0 3] [⟨[.slc 1 0 3, .slc 2 0 3, .slc 3 0 3], 71⟩, ⟨ivRow 3 (jacD kI z2 3 xs ops outs 0), 26⟩, ⟨ivRow 3 (jacD kI z2 3 xs ops outs 1), 26⟩, ⟨ivRow 3 (jacD kI z2 3 xs ops outs 2), 26⟩] []) [] (r := ⟨_, _, true⟩) (by kernel_rfl) rfl (.inl rfl) fun w0 => ?_
  refine goes_seq (by kernel_rfl) (wA3 xs xs.length ops ops.length outs w0 []) (goes_seq (by kernel_rfl) (goes_to (wB3 xs xs.length ops ops.length outs w0 [] [] ?_) ?_) (goes_seq (by kernel_rfl) (goes_to (wD3 xs xs.length ops ops.length outs (rvI ops.length []) w0 [] [] ?_) ?_) (goes_seq (by kernel_rfl) (goes_seq (by kernel_rfl) (goes_to (wE3 xs xs.length ops ops.length outs (rvI ops.length []) (rdI 3 ops.length []) w0 [] [] ?_) ?_) (goes_block (id := 0) (by kernel_rfl) (goes_loop (by kernel_rfl) (fun h => by cases h) ops.length (fun i => wSt3 xs ops outs (runR kI z2 3 xs ops i) i) (s2 := _) ?_ ?_))) (goes_to (wZ3 xs xs.length ops ops.length outs (runR kI z2 3 xs ops ops.length) ops.length w0 [] [] ?_) ?_))))
  · simp [AV.noOwn]; omega
  · simp only [Int.toNat_natCast]; rw [rvI_nil]
  · simp [rvI_noOwn, AV.noOwn]; omega
  · simp only [Int.toNat_natCast]; rfl
  · simp [rvI_noOwn, rdI_noOwn]
  · rfl
  · intro i hi
    exact wRound3 xs ops outs (runR kI z2 3 xs ops i) i hi hm (runR_length _ _ _ _ _ _) (runR_d _ _ _ _ _ _) ho hx w0
  · exact wX3 xs xs.length ops ops.length outs (runR kI z2 3 xs ops ops.length) ops.length w0 [] [] (by
      simp only [Bool.and_eq_true]
      and_intros
      all_goals first
        | rfl
        | exact trivial
        | exact rdI_noOwn _ _ _
        | simp)
  · have hld : (rdI 3 ops.length (runR kI z2 3 xs ops ops.length)).length = ops.length := rdI_length (by omega)
    have h0 := hout.2 0 (by omega)
    have o0 := intL_get (xs := outs) (i := 0) (by rw [hout.1]; omega)
    have r0 := rdI_get (m := ops.length) (N := 3) (rs := runR kI z2 3 xs ops ops.length) (a := outs.getD 0 0) h0.1 (by rw [hrl]; exact h0.2)
    have d0 := jacD_length kI z2 (xs := xs) hout (j := 0) (by omega)
    have e0 : ivL (rAt z2 (runR kI z2 3 xs ops ops.length) (outs.getD 0 0)).d = ivRow 3 (jacD kI z2 3 xs ops outs 0) := ivL_row d0
    have t0 : List.take 6 (ivRow 3 (jacD kI z2 3 xs ops outs 0)) = ivRow 3 (jacD kI z2 3 xs ops outs 0) := rfl
    have a0 : (ivRow 3 (jacD kI z2 3 xs ops outs 0)).all AV.noOwn = true := rfl
    have b0 : (ivRow 3 (jacD kI z2 3 xs ops outs 0)).all AV.one = true := rfl
    have l0 : (ivRow 3 (jacD kI z2 3 xs ops outs 0)).length = 6 := rfl
    have h1 := hout.2 1 (by omega)
    have o1 := intL_get (xs := outs) (i := 1) (by rw [hout.1]; omega)
    have r1 := rdI_get (m := ops.length) (N := 3) (rs := runR kI z2 3 xs ops ops.length) (a := outs.getD 1 0) h1.1 (by rw [hrl]; exact h1.2)
    have d1 := jacD_length kI z2 (xs := xs) hout (j := 1) (by omega)
    have e1 : ivL (rAt z2 (runR kI z2 3 xs ops ops.length) (outs.getD 1 0)).d = ivRow 3 (jacD kI z2 3 xs ops outs 1) := ivL_row d1
    have t1 : List.take 6 (ivRow 3 (jacD kI z2 3 xs ops outs 1)) = ivRow 3 (jacD kI z2 3 xs ops outs 1) := rfl
    have a1 : (ivRow 3 (jacD kI z2 3 xs ops outs 1)).all AV.noOwn = true := rfl
    have b1 : (ivRow 3 (jacD kI z2 3 xs ops outs 1)).all AV.one = true := rfl
    have l1 : (ivRow 3 (jacD kI z2 3 xs ops outs 1)).length = 6 := rfl
    have h2 := hout.2 2 (by omega)
    have o2 := intL_get (xs := outs) (i := 2) (by rw [hout.1]; omega)
    have r2 := rdI_get (m := ops.length) (N := 3) (rs := runR kI z2 3 xs ops ops.length) (a := outs.getD 2 0) h2.1 (by rw [hrl]; exact h2.2)
    have d2 := jacD_length kI z2 (xs := xs) hout (j := 2) (by omega)
    have e2 : ivL (rAt z2 (runR kI z2 3 xs ops ops.length) (outs.getD 2 0)).d = ivRow 3 (jacD kI z2 3 xs ops outs 2) := ivL_row d2
    have t2 : List.take 6 (ivRow 3 (jacD kI z2 3 xs ops outs 2)) = ivRow 3 (jacD kI z2 3 xs ops outs 2) := rfl
    have a2 : (ivRow 3 (jacD kI z2 3 xs ops outs 2)).all AV.noOwn = true := rfl
    have b2 : (ivRow 3 (jacD kI z2 3 xs ops outs 2)).all AV.one = true := rfl
    have l2 : (ivRow 3 (jacD kI z2 3 xs ops outs 2)).length = 6 := rfl
    simp only [o0, r0, e0, o1, r1, e1, o2, r2, e2, AV.toInt, AV.sLen, AV.sCells, AV.isSn, Nat.mul_one, Nat.reduceMul, List.nil_append, t0, t1, t2, a0, b0, l0, a1, b1, l1, a2, b2, l2]
    simp only [Bool.and_eq_true]
    and_intros
    all_goals first
      | rfl
      | exact trivial
      | exact ivL_noOwn _
      | (rw [Nat.blt_eq]; simp only [intL_length, hld, hout.1]; omega)
      | (rw [Nat.ble_eq]; rw [ivL_length]; omega)
      | (simp only [decide_eq_true_eq]; omega)
      | (simp; omega)
  · have hld : (rdI 3 ops.length (runR kI z2 3 xs ops ops.length)).length = ops.length := rdI_length (by omega)
    have h0 := hout.2 0 (by omega)
    have o0 := intL_get (xs := outs) (i := 0) (by rw [hout.1]; omega)
    have r0 := rdI_get (m := ops.length) (N := 3) (rs := runR kI z2 3 xs ops ops.length) (a := outs.getD 0 0) h0.1 (by rw [hrl]; exact h0.2)
    have d0 := jacD_length kI z2 (xs := xs) hout (j := 0) (by omega)
    have e0 : ivL (rAt z2 (runR kI z2 3 xs ops ops.length) (outs.getD 0 0)).d = ivRow 3 (jacD kI z2 3 xs ops outs 0) := ivL_row d0
    have t0 : List.take 6 (ivRow 3 (jacD kI z2 3 xs ops outs 0)) = ivRow 3 (jacD kI z2 3 xs ops outs 0) := rfl
    have a0 : (ivRow 3 (jacD kI z2 3 xs ops outs 0)).all AV.noOwn = true := rfl
    have b0 : (ivRow 3 (jacD kI z2 3 xs ops outs 0)).all AV.one = true := rfl
    have l0 : (ivRow 3 (jacD kI z2 3 xs ops outs 0)).length = 6 := rfl
    have h1 := hout.2 1 (by omega)
    have o1 := intL_get (xs := outs) (i := 1) (by rw [hout.1]; omega)
    have r1 := rdI_get (m := ops.length) (N := 3) (rs := runR kI z2 3 xs ops ops.length) (a := outs.getD 1 0) h1.1 (by rw [hrl]; exact h1.2)
    have d1 := jacD_length kI z2 (xs := xs) hout (j := 1) (by omega)
    have e1 : ivL (rAt z2 (runR kI z2 3 xs ops ops.length) (outs.getD 1 0)).d = ivRow 3 (jacD kI z2 3 xs ops outs 1) := ivL_row d1
    have t1 : List.take 6 (ivRow 3 (jacD kI z2 3 xs ops outs 1)) = ivRow 3 (jacD kI z2 3 xs ops outs 1) := rfl
    have a1 : (ivRow 3 (jacD kI z2 3 xs ops outs 1)).all AV.noOwn = true := rfl
    have b1 : (ivRow 3 (jacD kI z2 3 xs ops outs 1)).all AV.one = true := rfl
    have l1 : (ivRow 3 (jacD kI z2 3 xs ops outs 1)).length = 6 := rfl
    have h2 := hout.2 2 (by omega)
    have o2 := intL_get (xs := outs) (i := 2) (by rw [hout.1]; omega)
    have r2 := rdI_get (m := ops.length) (N := 3) (rs := runR kI z2 3 xs ops ops.length) (a := outs.getD 2 0) h2.1 (by rw [hrl]; exact h2.2)
    have d2 := jacD_length kI z2 (xs := xs) hout (j := 2) (by omega)
    have e2 : ivL (rAt z2 (runR kI z2 3 xs ops ops.length) (outs.getD 2 0)).d = ivRow 3 (jacD kI z2 3 xs ops outs 2) := ivL_row d2
    have t2 : List.take 6 (ivRow 3 (jacD kI z2 3 xs ops outs 2)) = ivRow 3 (jacD kI z2 3 xs ops outs 2) := rfl
    have a2 : (ivRow 3 (jacD kI z2 3 xs ops outs 2)).all AV.noOwn = true := rfl
    have b2 : (ivRow 3 (jacD kI z2 3 xs ops outs 2)).all AV.one = true := rfl
    have l2 : (ivRow 3 (jacD kI z2 3 xs ops outs 2)).length = 6 := rfl
    simp only [o0, r0, e0, o1, r1, e1, o2, r2, e2, AV.toInt, AV.sLen, AV.sCells, Nat.mul_one, Nat.reduceMul, List.nil_append, t0, t1, t2]
end Try
end Go.Eng

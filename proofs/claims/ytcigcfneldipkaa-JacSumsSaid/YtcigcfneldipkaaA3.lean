/- Part 3 of what the proof leans on: Fields, part 5; Fields, part 6; Tapes, part 3; Fields, part 7; Fields, part 8. Conditions: as each theorem says. -/
import Derived.Test.YtcigcfneldipkaaA2
set_option linter.unusedVariables false
/- Fields, part 5: the document's way of telling how a field of floats changes (enveloperef4.Jac): pieces. Condition: as each piece says. Written by wip/tools/kg.py. -/
namespace Go.Eng.Try
open Go Go.Eng Go.RowKit Go.Proofs.Try
noncomputable def eC : Code := codeOf prog 63
noncomputable def eBody : Code := cL (cL (cR (cL (cR (cR (cR eC))))))
/-- Values so far, and noughts. -/
def rvC (m : Nat) (rs : List (Rg Nat)) : List AV := fltL (rs.map fun r => r.v) ++ List.replicate (m - rs.length) (.flt 0)
def rdL (N : Nat) (rs : List (Rg Nat)) : List AV := rs.map fun r => .snap (fltL r.d) N
/-- Rows so far, and none. -/
def rdC (N m : Nat) (rs : List (Rg Nat)) : List AV := rdL N rs ++ List.replicate (m - rs.length) .nils

theorem eChg2 (u v q da db : Nat) (nb : Nat) : Con prog 115 [.int .i64 2, .flt u, .flt v, .flt q, .flt da, .flt db] nb (AV.flt (fadd da db)) [] :=
  con_evF OM0 mixed (qs := []) (dec := []) (r := ⟨(AV.flt (fadd da db)), [], true⟩) (by kernel_rfl) rfl
theorem eChg3 (u v q da db : Nat) (nb : Nat) : Con prog 115 [.int .i64 3, .flt u, .flt v, .flt q, .flt da, .flt db] nb (AV.flt (fsub da db)) [] :=
  con_evF OM0 mixed (qs := []) (dec := []) (r := ⟨(AV.flt (fsub da db)), [], true⟩) (by kernel_rfl) rfl
theorem eChg4 (u v q da db : Nat) (nb : Nat) : Con prog 115 [.int .i64 4, .flt u, .flt v, .flt q, .flt da, .flt db] nb (AV.flt (fadd (fmul da v) (fmul u db))) [] :=
  con_evF OM0 mixed (qs := []) (dec := []) (r := ⟨(AV.flt (fadd (fmul da v) (fmul u db))), [], true⟩) (by kernel_rfl) rfl
theorem eChg5 (u v q da db : Nat) (nb : Nat) : Con prog 115 [.int .i64 5, .flt u, .flt v, .flt q, .flt da, .flt db] nb (AV.flt (fdiv (fsub da (fmul q db)) v)) [] :=
  con_evF OM0 mixed (qs := []) (dec := []) (r := ⟨(AV.flt (fdiv (fsub da (fmul q db)) v)), [], true⟩) (by kernel_rfl) rfl
theorem eA1 (xs : List Nat) (lx : Nat) (ops : List TOp) (m : Nat) (outs : List Int) (w0 : World) (dec1 : List Bool) : Goes CM w0 191 (cL eC) (St0 [.agg [.int .i64 1, .snap (opsL ops) m, .snap (intL outs) 1], .snap (fltL xs) lx] []) Ex.normal (mk [1,2] [AV.snap (fltL xs) lx, AV.ptr 0 0] [ABlk.mk [AV.int IntKind.i64 1, AV.snap (opsL ops) m, AV.snap (intL outs) 1] 53] dec1) :=
  goes_viewK' OM mixed (qs := []) (fuel := 8) [.lit] (by kernel_rfl) rfl dec1
theorem eB1 (xs : List Nat) (lx : Nat) (ops : List TOp) (m : Nat) (outs : List Int) (w0 : World) (dec0 dec1 : List Bool) (hok : (((List.all (List.replicate (Int.toNat (↑m : Int)) (AV.flt 0)) AV.noOwn) && true && (decide ((0 : Int) ≤ (↑m : Int) ∧ (↑m : Int) ≤ (↑m : Int) ∧ (8 : Int) * (↑m : Int) ≤ (281474976710656 : Int) ∧ (↑m : Int) ≤ (9223372036854775807 : Int)) && true))) = true) : Goes CM w0 191 (cL (cR eC)) (mk [1,2] [.snap (fltL xs) lx, .ptr 0 0] [⟨[.int .i64 1, .snap (opsL ops) m, .snap (intL outs) 1], 53⟩] dec0) Ex.normal (mk [1,2,5] [AV.snap (fltL xs) lx, AV.ptr 0 0, AV.slc 1 0 (Int.toNat (↑m : Int))] [ABlk.mk [AV.int IntKind.i64 1, AV.snap (opsL ops) m, AV.snap (intL outs) 1] 53, ABlk.mk (List.replicate (Int.toNat (↑m : Int)) (AV.flt 0)) 24] dec1) :=
  goes_re (dec := []) (goes_viewK' OM mixed (qs := []) (fuel := 8) [.lit, .flat] (by kernel_rfl) hok dec1)
theorem eD1 (xs : List Nat) (lx : Nat) (ops : List TOp) (m : Nat) (outs : List Int) (r0 : List AV) (w0 : World) (dec0 dec1 : List Bool) (hok : (((List.all r0 AV.noOwn) && ((List.all (List.replicate (Int.toNat (↑m : Int)) AV.nils) AV.noOwn) && true) && (decide ((0 : Int) ≤ (↑m : Int) ∧ (↑m : Int) ≤ (↑m : Int) ∧ (24 : Int) * (↑m : Int) ≤ (281474976710656 : Int) ∧ (↑m : Int) ≤ (9223372036854775807 : Int)) && true))) = true) : Goes CM w0 191 (cL (cR (cR eC))) (mk [1,2,5] [.snap (fltL xs) lx, .ptr 0 0, .slc 1 0 m] [⟨[.int .i64 1, .snap (opsL ops) m, .snap (intL outs) 1], 53⟩, ⟨r0, 24⟩] dec0) Ex.normal (mk [1,2,5,6] [AV.snap (fltL xs) lx, AV.ptr 0 0, AV.slc 1 0 m, AV.slc 2 0 (Int.toNat (↑m : Int))] [ABlk.mk [AV.int IntKind.i64 1, AV.snap (opsL ops) m, AV.snap (intL outs) 1] 53, ABlk.mk r0 24, ABlk.mk (List.replicate (Int.toNat (↑m : Int)) AV.nils) 34] dec1) :=
  goes_re (dec := []) (goes_viewK' OM mixed (qs := []) (fuel := 8) [.lit, .flat, .flat] (by kernel_rfl) hok dec1)
theorem eE1 (xs : List Nat) (lx : Nat) (ops : List TOp) (m : Nat) (outs : List Int) (r0 d0 : List AV) (w0 : World) (dec0 dec1 : List Bool) (hok : (((List.all r0 AV.noOwn) && ((List.all d0 AV.noOwn) && true) && true)) = true) : Goes CM w0 191 (cL (cL (cR (cR (cR eC))))) (mk [1,2,5,6] [.snap (fltL xs) lx, .ptr 0 0, .slc 1 0 m, .slc 2 0 m] [⟨[.int .i64 1, .snap (opsL ops) m, .snap (intL outs) 1], 53⟩, ⟨r0, 24⟩, ⟨d0, 34⟩] dec0) Ex.normal (mk [1,2,5,6,7] [AV.snap (fltL xs) lx, AV.ptr 0 0, AV.slc 1 0 m, AV.slc 2 0 m, AV.int IntKind.i64 0] [ABlk.mk [AV.int IntKind.i64 1, AV.snap (opsL ops) m, AV.snap (intL outs) 1] 53, ABlk.mk r0 24, ABlk.mk d0 34] dec1) :=
  goes_re (dec := []) (goes_viewK' OM mixed (qs := []) (fuel := 8) [.lit, .flat, .flat] (by kernel_rfl) hok dec1)
theorem eI1_0 (xs : List Nat) (lx : Nat) (ops : List TOp) (m : Nat) (outs : List Int) (rs : List (Rg Nat)) (i : Nat) (a b : Int) (c : Nat) (w0 : World) (dec0 dec1 : List Bool) (hok : ((pb (SubP true [] [] 0 [AV.flt 0] [AV.flt 0]) && true && (pb (SubP true [(1027, [AV.flt 0])] [0, 1, 2] 0 (setL (rvC m rs) (0 + Int.toNat (↑i : Int) * 1) [AV.flt c]) (rvC m (rs ++ [stepR kF 0 1 xs rs (TOp.mk (0 : Int) a b c)]))) && (pb (SubP true [(1027, [AV.flt 0])] [0, 1, 2] 0 (setL (rdC 1 m rs) (0 + Int.toNat (↑i : Int) * 1) [AV.slc 1027 0 1]) (rdC 1 m (rs ++ [stepR kF 0 1 xs rs (TOp.mk (0 : Int) a b c)]))) && true) && (Nat.ble (0 + Int.toNat (↑i : Int) * 1 + 1) (List.length (rvC m rs)) && true && (decide ((0 : Int) ≤ (↑i : Int) ∧ (↑i : Int) < (↑m : Int)) && (Nat.ble (0 + Int.toNat (↑i : Int) * 1 + 1) (List.length (rdC 1 m rs)) && true && (decide ((0 : Int) ≤ (↑i : Int) ∧ (↑i : Int) < (↑m : Int)) && (pb (AV.agg [AV.int IntKind.i64 (AV.toInt (List.getD (opsL ops) (Int.toNat (↑i : Int) * 4) AV.undef)), AV.int IntKind.i64 (AV.toInt (List.getD (opsL ops) (Int.toNat (↑i : Int) * 4 + 1) AV.undef)), AV.int IntKind.i64 (AV.toInt (List.getD (opsL ops) (Int.toNat (↑i : Int) * 4 + 1 + 1) AV.undef)), AV.flt (AV.toFlt (List.getD (opsL ops) (Int.toNat (↑i : Int) * 4 + 1 + 1 + 1) AV.undef))] = AV.agg [AV.int IntKind.i64 0, AV.int IntKind.i64 a, AV.int IntKind.i64 b, AV.flt c]) && (Nat.ble (Int.toNat (↑i : Int) * 4 + 4) (List.length (opsL ops)) && etasOk [Leaf.i IntKind.i64, Leaf.i IntKind.i64, Leaf.i IntKind.i64, Leaf.f] (opsL ops) (Int.toNat (↑i : Int) * 4)) && (decide ((0 : Int) ≤ (↑i : Int) ∧ (↑i : Int) < (↑m : Int)) && (decide ((↑i : Int) < (↑m : Int)) && true)))))))))) = true) : Goes CM w0 191 (eBody) (mk [1,2,5,6,7] [.snap (fltL xs) lx, .ptr 0 0, .slc 1 0 m, .slc 2 0 m, .int .i64 (i : Int)] [⟨[.int .i64 1, .snap (opsL ops) m, .snap (intL outs) 1], 53⟩, ⟨rvC m rs, 24⟩, ⟨rdC 1 m rs, 34⟩] dec0) Ex.normal (mk [1,2,5,6,7] [AV.snap (fltL xs) lx, AV.ptr 0 0, AV.slc 1 0 m, AV.slc 2 0 m, AV.int IntKind.i64 (IntKind.wrap IntKind.i64 ((↑i : Int) + (1 : Int)))] [ABlk.mk [AV.int IntKind.i64 1, AV.snap (opsL ops) m, AV.snap (intL outs) 1] 53, ABlk.mk (rvC m (rs ++ [stepR kF 0 1 xs rs (TOp.mk (0 : Int) a b c)])) 24, ABlk.mk (rdC 1 m (rs ++ [stepR kF 0 1 xs rs (TOp.mk (0 : Int) a b c)])) 34] dec1) :=
  goes_re (dec := [true]) (goes_O (l := [(31, .agg [.int .i64 0, .int .i64 a, .int .i64 b, .flt c])]) (goes_viewK' (ctxO_ok OM _) mixed (qs := [24]) (fuel := 8) [.lit, .giv (rvC m (rs ++ [stepR kF 0 1 xs rs ⟨0, a, b, c⟩])) [], .giv (rdC 1 m (rs ++ [stepR kF 0 1 xs rs ⟨0, a, b, c⟩])) [1027], .frzGiv (fltL (stepR kF 0 1 xs rs ⟨0, a, b, c⟩).d) []] (by kernel_rfl) hok dec1))
theorem eI1_1 (xs : List Nat) (lx : Nat) (ops : List TOp) (m : Nat) (outs : List Int) (rs : List (Rg Nat)) (i : Nat) (a b : Int) (c : Nat) (w0 : World) (dec0 dec1 : List Bool) (hok : ((pb (SubP true [] [] 0 (setL [AV.flt 0] (0 + Int.toNat a * 1) [AV.flt 4607182418800017408]) [AV.flt (slopeR kF 0 rs (TOp.mk (1 : Int) a b c) (valR kF 0 xs rs (TOp.mk (1 : Int) a b c)) 0)]) && true && (pb (SubP true [(1027, [AV.flt (slopeR kF 0 rs (TOp.mk (1 : Int) a b c) (valR kF 0 xs rs (TOp.mk (1 : Int) a b c)) 0)])] [0, 1, 2] 0 (setL (rvC m rs) (0 + Int.toNat (↑i : Int) * 1) [AV.flt (List.getD xs (Int.toNat a) 0)]) (rvC m (rs ++ [stepR kF 0 1 xs rs (TOp.mk (1 : Int) a b c)]))) && (pb (SubP true [(1027, [AV.flt (slopeR kF 0 rs (TOp.mk (1 : Int) a b c) (valR kF 0 xs rs (TOp.mk (1 : Int) a b c)) 0)])] [0, 1, 2] 0 (setL (rdC 1 m rs) (0 + Int.toNat (↑i : Int) * 1) [AV.slc 1027 0 1]) (rdC 1 m (rs ++ [stepR kF 0 1 xs rs (TOp.mk (1 : Int) a b c)]))) && true) && (Nat.ble (0 + Int.toNat a * 1 + 1) 1 && true && (decide ((0 : Int) ≤ a ∧ a < (1 : Int)) && (Nat.ble (0 + Int.toNat (↑i : Int) * 1 + 1) (List.length (rvC m rs)) && true && (decide ((0 : Int) ≤ (↑i : Int) ∧ (↑i : Int) < (↑m : Int)) && (pb (AV.flt (AV.toFlt (List.getD (fltL xs) (Int.toNat a * 1) AV.undef)) = AV.flt (List.getD xs (Int.toNat a) 0)) && (Nat.blt (Int.toNat a * 1) (List.length (fltL xs)) && AV.isFlt (List.getD (fltL xs) (Int.toNat a * 1) AV.undef)) && (decide ((0 : Int) ≤ a ∧ a < (↑lx : Int)) && (pb (List.getD (setL (rdC 1 m rs) (0 + Int.toNat (↑i : Int) * 1) [AV.slc 1027 0 1]) (0 + Int.toNat (↑i : Int) * 1) AV.undef = AV.slc 1027 0 1) && (Nat.blt (0 + Int.toNat (↑i : Int) * 1) (List.length (setL (rdC 1 m rs) (0 + Int.toNat (↑i : Int) * 1) [AV.slc 1027 0 1])) && true) && (decide ((0 : Int) ≤ (↑i : Int) ∧ (↑i : Int) < (↑m : Int)) && (Nat.ble (0 + Int.toNat (↑i : Int) * 1 + 1) (List.length (rdC 1 m rs)) && true && (decide ((0 : Int) ≤ (↑i : Int) ∧ (↑i : Int) < (↑m : Int)) && (pb (AV.agg [AV.int IntKind.i64 (AV.toInt (List.getD (opsL ops) (Int.toNat (↑i : Int) * 4) AV.undef)), AV.int IntKind.i64 (AV.toInt (List.getD (opsL ops) (Int.toNat (↑i : Int) * 4 + 1) AV.undef)), AV.int IntKind.i64 (AV.toInt (List.getD (opsL ops) (Int.toNat (↑i : Int) * 4 + 1 + 1) AV.undef)), AV.flt (AV.toFlt (List.getD (opsL ops) (Int.toNat (↑i : Int) * 4 + 1 + 1 + 1) AV.undef))] = AV.agg [AV.int IntKind.i64 1, AV.int IntKind.i64 a, AV.int IntKind.i64 b, AV.flt c]) && (Nat.ble (Int.toNat (↑i : Int) * 4 + 4) (List.length (opsL ops)) && etasOk [Leaf.i IntKind.i64, Leaf.i IntKind.i64, Leaf.i IntKind.i64, Leaf.f] (opsL ops) (Int.toNat (↑i : Int) * 4)) && (decide ((0 : Int) ≤ (↑i : Int) ∧ (↑i : Int) < (↑m : Int)) && (decide ((↑i : Int) < (↑m : Int)) && true)))))))))))))))) = true) : Goes CM w0 191 (eBody) (mk [1,2,5,6,7] [.snap (fltL xs) lx, .ptr 0 0, .slc 1 0 m, .slc 2 0 m, .int .i64 (i : Int)] [⟨[.int .i64 1, .snap (opsL ops) m, .snap (intL outs) 1], 53⟩, ⟨rvC m rs, 24⟩, ⟨rdC 1 m rs, 34⟩] dec0) Ex.normal (mk [1,2,5,6,7] [AV.snap (fltL xs) lx, AV.ptr 0 0, AV.slc 1 0 m, AV.slc 2 0 m, AV.int IntKind.i64 (IntKind.wrap IntKind.i64 ((↑i : Int) + (1 : Int)))] [ABlk.mk [AV.int IntKind.i64 1, AV.snap (opsL ops) m, AV.snap (intL outs) 1] 53, ABlk.mk (rvC m (rs ++ [stepR kF 0 1 xs rs (TOp.mk (1 : Int) a b c)])) 24, ABlk.mk (rdC 1 m (rs ++ [stepR kF 0 1 xs rs (TOp.mk (1 : Int) a b c)])) 34] dec1) :=
  goes_re (dec := [true]) (goes_O (l := [(31, .agg [.int .i64 1, .int .i64 a, .int .i64 b, .flt c]), (68, .slc 1027 0 1), (75, .flt (xs.getD a.toNat 0))]) (goes_viewK' (ctxO_ok OM _) mixed (qs := [24]) (fuel := 8) [.lit, .giv (rvC m (rs ++ [stepR kF 0 1 xs rs ⟨1, a, b, c⟩])) [], .giv (rdC 1 m (rs ++ [stepR kF 0 1 xs rs ⟨1, a, b, c⟩])) [1027], .frzGiv (fltL (stepR kF 0 1 xs rs ⟨1, a, b, c⟩).d) []] (by kernel_rfl) hok dec1))
theorem eI1_2 (xs : List Nat) (lx : Nat) (ops : List TOp) (m : Nat) (outs : List Int) (rs : List (Rg Nat)) (i : Nat) (a b : Int) (c : Nat) (w0 : World) (dec0 dec1 : List Bool) (hok : ((pb (SubP true [] [] 0 [AV.flt (fadd (AV.toFlt (List.getD (fltL (rAt 0 rs a).2) 0 AV.undef)) (AV.toFlt (List.getD (fltL (rAt 0 rs b).2) 0 AV.undef)))] [AV.flt (slopeR kF 0 rs (TOp.mk (2 : Int) a b c) (valR kF 0 xs rs (TOp.mk (2 : Int) a b c)) 0)]) && true && (pb (SubP true [(1027, [AV.flt (slopeR kF 0 rs (TOp.mk (2 : Int) a b c) (valR kF 0 xs rs (TOp.mk (2 : Int) a b c)) 0)])] [0, 1, 2] 0 (setL (rvC m rs) (0 + Int.toNat (↑i : Int) * 1) [AV.flt (fadd (rAt 0 rs a).1 (rAt 0 rs b).1)]) (rvC m (rs ++ [stepR kF 0 1 xs rs (TOp.mk (2 : Int) a b c)]))) && (pb (SubP true [(1027, [AV.flt (slopeR kF 0 rs (TOp.mk (2 : Int) a b c) (valR kF 0 xs rs (TOp.mk (2 : Int) a b c)) 0)])] [0, 1, 2] 0 (setL (rdC 1 m rs) (0 + Int.toNat (↑i : Int) * 1) [AV.slc 1027 0 1]) (rdC 1 m (rs ++ [stepR kF 0 1 xs rs (TOp.mk (2 : Int) a b c)]))) && true) && (Nat.blt 0 (List.length (fltL (rAt 0 rs b).2)) && AV.isFlt (List.getD (fltL (rAt 0 rs b).2) 0 AV.undef) && (pb (List.getD (setL (rdC 1 m rs) (0 + Int.toNat (↑i : Int) * 1) [AV.slc 1027 0 1]) (0 + Int.toNat b * 1) AV.undef = AV.snap (fltL (rAt 0 rs b).2) 1) && (Nat.blt (0 + Int.toNat b * 1) (List.length (setL (rdC 1 m rs) (0 + Int.toNat (↑i : Int) * 1) [AV.slc 1027 0 1])) && true) && (decide ((0 : Int) ≤ b ∧ b < (↑m : Int)) && (Nat.blt 0 (List.length (fltL (rAt 0 rs a).2)) && AV.isFlt (List.getD (fltL (rAt 0 rs a).2) 0 AV.undef) && (pb (List.getD (setL (rdC 1 m rs) (0 + Int.toNat (↑i : Int) * 1) [AV.slc 1027 0 1]) (0 + Int.toNat a * 1) AV.undef = AV.snap (fltL (rAt 0 rs a).2) 1) && (Nat.blt (0 + Int.toNat a * 1) (List.length (setL (rdC 1 m rs) (0 + Int.toNat (↑i : Int) * 1) [AV.slc 1027 0 1])) && true) && (decide ((0 : Int) ≤ a ∧ a < (↑m : Int)) && (pb (AV.flt (AV.toFlt (List.getD (setL (rvC m rs) (0 + Int.toNat (↑i : Int) * 1) [AV.flt (fadd (rAt 0 rs a).1 (rAt 0 rs b).1)]) (0 + Int.toNat (↑i : Int) * 1) AV.undef)) = AV.flt (valR kF 0 xs rs (TOp.mk (2 : Int) a b c))) && (Nat.blt (0 + Int.toNat (↑i : Int) * 1) (List.length (setL (rvC m rs) (0 + Int.toNat (↑i : Int) * 1) [AV.flt (fadd (rAt 0 rs a).1 (rAt 0 rs b).1)])) && AV.isFlt (List.getD (setL (rvC m rs) (0 + Int.toNat (↑i : Int) * 1) [AV.flt (fadd (rAt 0 rs a).1 (rAt 0 rs b).1)]) (0 + Int.toNat (↑i : Int) * 1) AV.undef)) && (decide ((0 : Int) ≤ (↑i : Int) ∧ (↑i : Int) < (↑m : Int)) && (pb (AV.flt (AV.toFlt (List.getD (setL (rvC m rs) (0 + Int.toNat (↑i : Int) * 1) [AV.flt (fadd (rAt 0 rs a).1 (rAt 0 rs b).1)]) (0 + Int.toNat b * 1) AV.undef)) = AV.flt (rAt 0 rs b).1) && (Nat.blt (0 + Int.toNat b * 1) (List.length (setL (rvC m rs) (0 + Int.toNat (↑i : Int) * 1) [AV.flt (fadd (rAt 0 rs a).1 (rAt 0 rs b).1)])) && AV.isFlt (List.getD (setL (rvC m rs) (0 + Int.toNat (↑i : Int) * 1) [AV.flt (fadd (rAt 0 rs a).1 (rAt 0 rs b).1)]) (0 + Int.toNat b * 1) AV.undef)) && (decide ((0 : Int) ≤ b ∧ b < (↑m : Int)) && (pb (AV.flt (AV.toFlt (List.getD (setL (rvC m rs) (0 + Int.toNat (↑i : Int) * 1) [AV.flt (fadd (rAt 0 rs a).1 (rAt 0 rs b).1)]) (0 + Int.toNat a * 1) AV.undef)) = AV.flt (rAt 0 rs a).1) && (Nat.blt (0 + Int.toNat a * 1) (List.length (setL (rvC m rs) (0 + Int.toNat (↑i : Int) * 1) [AV.flt (fadd (rAt 0 rs a).1 (rAt 0 rs b).1)])) && AV.isFlt (List.getD (setL (rvC m rs) (0 + Int.toNat (↑i : Int) * 1) [AV.flt (fadd (rAt 0 rs a).1 (rAt 0 rs b).1)]) (0 + Int.toNat a * 1) AV.undef)) && (decide ((0 : Int) ≤ a ∧ a < (↑m : Int)) && (pb (List.getD (setL (rdC 1 m rs) (0 + Int.toNat (↑i : Int) * 1) [AV.slc 1027 0 1]) (0 + Int.toNat (↑i : Int) * 1) AV.undef = AV.slc 1027 0 1) && (Nat.blt (0 + Int.toNat (↑i : Int) * 1) (List.length (setL (rdC 1 m rs) (0 + Int.toNat (↑i : Int) * 1) [AV.slc 1027 0 1])) && true) && (decide ((0 : Int) ≤ (↑i : Int) ∧ (↑i : Int) < (↑m : Int)) && (Nat.ble (0 + Int.toNat (↑i : Int) * 1 + 1) (List.length (rvC m rs)) && true && (decide ((0 : Int) ≤ (↑i : Int) ∧ (↑i : Int) < (↑m : Int)) && (pb (AV.flt (AV.toFlt (List.getD (rvC m rs) (0 + Int.toNat b * 1) AV.undef)) = AV.flt (rAt 0 rs b).1) && (Nat.blt (0 + Int.toNat b * 1) (List.length (rvC m rs)) && AV.isFlt (List.getD (rvC m rs) (0 + Int.toNat b * 1) AV.undef)) && (decide ((0 : Int) ≤ b ∧ b < (↑m : Int)) && (pb (AV.flt (AV.toFlt (List.getD (rvC m rs) (0 + Int.toNat a * 1) AV.undef)) = AV.flt (rAt 0 rs a).1) && (Nat.blt (0 + Int.toNat a * 1) (List.length (rvC m rs)) && AV.isFlt (List.getD (rvC m rs) (0 + Int.toNat a * 1) AV.undef)) && (decide ((0 : Int) ≤ a ∧ a < (↑m : Int)) && (Nat.ble (0 + Int.toNat (↑i : Int) * 1 + 1) (List.length (rdC 1 m rs)) && true && (decide ((0 : Int) ≤ (↑i : Int) ∧ (↑i : Int) < (↑m : Int)) && (pb (AV.agg [AV.int IntKind.i64 (AV.toInt (List.getD (opsL ops) (Int.toNat (↑i : Int) * 4) AV.undef)), AV.int IntKind.i64 (AV.toInt (List.getD (opsL ops) (Int.toNat (↑i : Int) * 4 + 1) AV.undef)), AV.int IntKind.i64 (AV.toInt (List.getD (opsL ops) (Int.toNat (↑i : Int) * 4 + 1 + 1) AV.undef)), AV.flt (AV.toFlt (List.getD (opsL ops) (Int.toNat (↑i : Int) * 4 + 1 + 1 + 1) AV.undef))] = AV.agg [AV.int IntKind.i64 2, AV.int IntKind.i64 a, AV.int IntKind.i64 b, AV.flt c]) && (Nat.ble (Int.toNat (↑i : Int) * 4 + 4) (List.length (opsL ops)) && etasOk [Leaf.i IntKind.i64, Leaf.i IntKind.i64, Leaf.i IntKind.i64, Leaf.f] (opsL ops) (Int.toNat (↑i : Int) * 4)) && (decide ((0 : Int) ≤ (↑i : Int) ∧ (↑i : Int) < (↑m : Int)) && (decide ((↑i : Int) < (↑m : Int)) && true)))))))))))))))))))))))))))) = true) : Goes CM w0 191 (eBody) (mk [1,2,5,6,7] [.snap (fltL xs) lx, .ptr 0 0, .slc 1 0 m, .slc 2 0 m, .int .i64 (i : Int)] [⟨[.int .i64 1, .snap (opsL ops) m, .snap (intL outs) 1], 53⟩, ⟨rvC m rs, 24⟩, ⟨rdC 1 m rs, 34⟩] dec0) Ex.normal (mk [1,2,5,6,7] [AV.snap (fltL xs) lx, AV.ptr 0 0, AV.slc 1 0 m, AV.slc 2 0 m, AV.int IntKind.i64 (IntKind.wrap IntKind.i64 ((↑i : Int) + (1 : Int)))] [ABlk.mk [AV.int IntKind.i64 1, AV.snap (opsL ops) m, AV.snap (intL outs) 1] 53, ABlk.mk (rvC m (rs ++ [stepR kF 0 1 xs rs (TOp.mk (2 : Int) a b c)])) 24, ABlk.mk (rdC 1 m (rs ++ [stepR kF 0 1 xs rs (TOp.mk (2 : Int) a b c)])) 34] dec1) :=
  goes_re (dec := [true]) (goes_O (l := [(31, .agg [.int .i64 2, .int .i64 a, .int .i64 b, .flt c]), (135, .slc 1027 0 1), (143, .flt (rAt 0 rs a).v), (148, .flt (rAt 0 rs b).v), (152, .flt (valR kF 0 xs rs ⟨2, a, b, c⟩)), (157, .snap (fltL (rAt 0 rs a).d) 1), (165, .snap (fltL (rAt 0 rs b).d) 1), (86, .flt (rAt 0 rs a).v), (91, .flt (rAt 0 rs b).v)]) (goes_viewK' (ctxO_ok OM _) mixed (qs := [24]) (fuel := 8) [.lit, .giv (rvC m (rs ++ [stepR kF 0 1 xs rs ⟨2, a, b, c⟩])) [], .giv (rdC 1 m (rs ++ [stepR kF 0 1 xs rs ⟨2, a, b, c⟩])) [1027], .frzGiv (fltL (stepR kF 0 1 xs rs ⟨2, a, b, c⟩).d) []] (by kernel_rfl) hok dec1))
theorem eI1_3 (xs : List Nat) (lx : Nat) (ops : List TOp) (m : Nat) (outs : List Int) (rs : List (Rg Nat)) (i : Nat) (a b : Int) (c : Nat) (w0 : World) (dec0 dec1 : List Bool) (hok : ((pb (SubP true [] [] 0 [AV.flt (fsub (AV.toFlt (List.getD (fltL (rAt 0 rs a).2) 0 AV.undef)) (AV.toFlt (List.getD (fltL (rAt 0 rs b).2) 0 AV.undef)))] [AV.flt (slopeR kF 0 rs (TOp.mk (3 : Int) a b c) (valR kF 0 xs rs (TOp.mk (3 : Int) a b c)) 0)]) && true && (pb (SubP true [(1027, [AV.flt (slopeR kF 0 rs (TOp.mk (3 : Int) a b c) (valR kF 0 xs rs (TOp.mk (3 : Int) a b c)) 0)])] [0, 1, 2] 0 (setL (rvC m rs) (0 + Int.toNat (↑i : Int) * 1) [AV.flt (fsub (rAt 0 rs a).1 (rAt 0 rs b).1)]) (rvC m (rs ++ [stepR kF 0 1 xs rs (TOp.mk (3 : Int) a b c)]))) && (pb (SubP true [(1027, [AV.flt (slopeR kF 0 rs (TOp.mk (3 : Int) a b c) (valR kF 0 xs rs (TOp.mk (3 : Int) a b c)) 0)])] [0, 1, 2] 0 (setL (rdC 1 m rs) (0 + Int.toNat (↑i : Int) * 1) [AV.slc 1027 0 1]) (rdC 1 m (rs ++ [stepR kF 0 1 xs rs (TOp.mk (3 : Int) a b c)]))) && true) && (Nat.blt 0 (List.length (fltL (rAt 0 rs b).2)) && AV.isFlt (List.getD (fltL (rAt 0 rs b).2) 0 AV.undef) && (pb (List.getD (setL (rdC 1 m rs) (0 + Int.toNat (↑i : Int) * 1) [AV.slc 1027 0 1]) (0 + Int.toNat b * 1) AV.undef = AV.snap (fltL (rAt 0 rs b).2) 1) && (Nat.blt (0 + Int.toNat b * 1) (List.length (setL (rdC 1 m rs) (0 + Int.toNat (↑i : Int) * 1) [AV.slc 1027 0 1])) && true) && (decide ((0 : Int) ≤ b ∧ b < (↑m : Int)) && (Nat.blt 0 (List.length (fltL (rAt 0 rs a).2)) && AV.isFlt (List.getD (fltL (rAt 0 rs a).2) 0 AV.undef) && (pb (List.getD (setL (rdC 1 m rs) (0 + Int.toNat (↑i : Int) * 1) [AV.slc 1027 0 1]) (0 + Int.toNat a * 1) AV.undef = AV.snap (fltL (rAt 0 rs a).2) 1) && (Nat.blt (0 + Int.toNat a * 1) (List.length (setL (rdC 1 m rs) (0 + Int.toNat (↑i : Int) * 1) [AV.slc 1027 0 1])) && true) && (decide ((0 : Int) ≤ a ∧ a < (↑m : Int)) && (pb (AV.flt (AV.toFlt (List.getD (setL (rvC m rs) (0 + Int.toNat (↑i : Int) * 1) [AV.flt (fsub (rAt 0 rs a).1 (rAt 0 rs b).1)]) (0 + Int.toNat (↑i : Int) * 1) AV.undef)) = AV.flt (valR kF 0 xs rs (TOp.mk (3 : Int) a b c))) && (Nat.blt (0 + Int.toNat (↑i : Int) * 1) (List.length (setL (rvC m rs) (0 + Int.toNat (↑i : Int) * 1) [AV.flt (fsub (rAt 0 rs a).1 (rAt 0 rs b).1)])) && AV.isFlt (List.getD (setL (rvC m rs) (0 + Int.toNat (↑i : Int) * 1) [AV.flt (fsub (rAt 0 rs a).1 (rAt 0 rs b).1)]) (0 + Int.toNat (↑i : Int) * 1) AV.undef)) && (decide ((0 : Int) ≤ (↑i : Int) ∧ (↑i : Int) < (↑m : Int)) && (pb (AV.flt (AV.toFlt (List.getD (setL (rvC m rs) (0 + Int.toNat (↑i : Int) * 1) [AV.flt (fsub (rAt 0 rs a).1 (rAt 0 rs b).1)]) (0 + Int.toNat b * 1) AV.undef)) = AV.flt (rAt 0 rs b).1) && (Nat.blt (0 + Int.toNat b * 1) (List.length (setL (rvC m rs) (0 + Int.toNat (↑i : Int) * 1) [AV.flt (fsub (rAt 0 rs a).1 (rAt 0 rs b).1)])) && AV.isFlt (List.getD (setL (rvC m rs) (0 + Int.toNat (↑i : Int) * 1) [AV.flt (fsub (rAt 0 rs a).1 (rAt 0 rs b).1)]) (0 + Int.toNat b * 1) AV.undef)) && (decide ((0 : Int) ≤ b ∧ b < (↑m : Int)) && (pb (AV.flt (AV.toFlt (List.getD (setL (rvC m rs) (0 + Int.toNat (↑i : Int) * 1) [AV.flt (fsub (rAt 0 rs a).1 (rAt 0 rs b).1)]) (0 + Int.toNat a * 1) AV.undef)) = AV.flt (rAt 0 rs a).1) && (Nat.blt (0 + Int.toNat a * 1) (List.length (setL (rvC m rs) (0 + Int.toNat (↑i : Int) * 1) [AV.flt (fsub (rAt 0 rs a).1 (rAt 0 rs b).1)])) && AV.isFlt (List.getD (setL (rvC m rs) (0 + Int.toNat (↑i : Int) * 1) [AV.flt (fsub (rAt 0 rs a).1 (rAt 0 rs b).1)]) (0 + Int.toNat a * 1) AV.undef)) && (decide ((0 : Int) ≤ a ∧ a < (↑m : Int)) && (pb (List.getD (setL (rdC 1 m rs) (0 + Int.toNat (↑i : Int) * 1) [AV.slc 1027 0 1]) (0 + Int.toNat (↑i : Int) * 1) AV.undef = AV.slc 1027 0 1) && (Nat.blt (0 + Int.toNat (↑i : Int) * 1) (List.length (setL (rdC 1 m rs) (0 + Int.toNat (↑i : Int) * 1) [AV.slc 1027 0 1])) && true) && (decide ((0 : Int) ≤ (↑i : Int) ∧ (↑i : Int) < (↑m : Int)) && (Nat.ble (0 + Int.toNat (↑i : Int) * 1 + 1) (List.length (rvC m rs)) && true && (decide ((0 : Int) ≤ (↑i : Int) ∧ (↑i : Int) < (↑m : Int)) && (pb (AV.flt (AV.toFlt (List.getD (rvC m rs) (0 + Int.toNat b * 1) AV.undef)) = AV.flt (rAt 0 rs b).1) && (Nat.blt (0 + Int.toNat b * 1) (List.length (rvC m rs)) && AV.isFlt (List.getD (rvC m rs) (0 + Int.toNat b * 1) AV.undef)) && (decide ((0 : Int) ≤ b ∧ b < (↑m : Int)) && (pb (AV.flt (AV.toFlt (List.getD (rvC m rs) (0 + Int.toNat a * 1) AV.undef)) = AV.flt (rAt 0 rs a).1) && (Nat.blt (0 + Int.toNat a * 1) (List.length (rvC m rs)) && AV.isFlt (List.getD (rvC m rs) (0 + Int.toNat a * 1) AV.undef)) && (decide ((0 : Int) ≤ a ∧ a < (↑m : Int)) && (Nat.ble (0 + Int.toNat (↑i : Int) * 1 + 1) (List.length (rdC 1 m rs)) && true && (decide ((0 : Int) ≤ (↑i : Int) ∧ (↑i : Int) < (↑m : Int)) && (pb (AV.agg [AV.int IntKind.i64 (AV.toInt (List.getD (opsL ops) (Int.toNat (↑i : Int) * 4) AV.undef)), AV.int IntKind.i64 (AV.toInt (List.getD (opsL ops) (Int.toNat (↑i : Int) * 4 + 1) AV.undef)), AV.int IntKind.i64 (AV.toInt (List.getD (opsL ops) (Int.toNat (↑i : Int) * 4 + 1 + 1) AV.undef)), AV.flt (AV.toFlt (List.getD (opsL ops) (Int.toNat (↑i : Int) * 4 + 1 + 1 + 1) AV.undef))] = AV.agg [AV.int IntKind.i64 3, AV.int IntKind.i64 a, AV.int IntKind.i64 b, AV.flt c]) && (Nat.ble (Int.toNat (↑i : Int) * 4 + 4) (List.length (opsL ops)) && etasOk [Leaf.i IntKind.i64, Leaf.i IntKind.i64, Leaf.i IntKind.i64, Leaf.f] (opsL ops) (Int.toNat (↑i : Int) * 4)) && (decide ((0 : Int) ≤ (↑i : Int) ∧ (↑i : Int) < (↑m : Int)) && (decide ((↑i : Int) < (↑m : Int)) && true)))))))))))))))))))))))))))) = true) : Goes CM w0 191 (eBody) (mk [1,2,5,6,7] [.snap (fltL xs) lx, .ptr 0 0, .slc 1 0 m, .slc 2 0 m, .int .i64 (i : Int)] [⟨[.int .i64 1, .snap (opsL ops) m, .snap (intL outs) 1], 53⟩, ⟨rvC m rs, 24⟩, ⟨rdC 1 m rs, 34⟩] dec0) Ex.normal (mk [1,2,5,6,7] [AV.snap (fltL xs) lx, AV.ptr 0 0, AV.slc 1 0 m, AV.slc 2 0 m, AV.int IntKind.i64 (IntKind.wrap IntKind.i64 ((↑i : Int) + (1 : Int)))] [ABlk.mk [AV.int IntKind.i64 1, AV.snap (opsL ops) m, AV.snap (intL outs) 1] 53, ABlk.mk (rvC m (rs ++ [stepR kF 0 1 xs rs (TOp.mk (3 : Int) a b c)])) 24, ABlk.mk (rdC 1 m (rs ++ [stepR kF 0 1 xs rs (TOp.mk (3 : Int) a b c)])) 34] dec1) :=
  goes_re (dec := [true]) (goes_O (l := [(31, .agg [.int .i64 3, .int .i64 a, .int .i64 b, .flt c]), (135, .slc 1027 0 1), (143, .flt (rAt 0 rs a).v), (148, .flt (rAt 0 rs b).v), (152, .flt (valR kF 0 xs rs ⟨3, a, b, c⟩)), (157, .snap (fltL (rAt 0 rs a).d) 1), (165, .snap (fltL (rAt 0 rs b).d) 1), (102, .flt (rAt 0 rs a).v), (107, .flt (rAt 0 rs b).v)]) (goes_viewK' (ctxO_ok OM _) mixed (qs := [24]) (fuel := 8) [.lit, .giv (rvC m (rs ++ [stepR kF 0 1 xs rs ⟨3, a, b, c⟩])) [], .giv (rdC 1 m (rs ++ [stepR kF 0 1 xs rs ⟨3, a, b, c⟩])) [1027], .frzGiv (fltL (stepR kF 0 1 xs rs ⟨3, a, b, c⟩).d) []] (by kernel_rfl) hok dec1))
theorem eI1_4 (xs : List Nat) (lx : Nat) (ops : List TOp) (m : Nat) (outs : List Int) (rs : List (Rg Nat)) (i : Nat) (a b : Int) (c : Nat) (w0 : World) (dec0 dec1 : List Bool) (hok : ((pb (SubP true [] [] 0 [AV.flt (fadd (fmul (AV.toFlt (List.getD (fltL (rAt 0 rs a).2) 0 AV.undef)) (rAt 0 rs b).1) (fmul (rAt 0 rs a).1 (AV.toFlt (List.getD (fltL (rAt 0 rs b).2) 0 AV.undef))))] [AV.flt (slopeR kF 0 rs (TOp.mk (4 : Int) a b c) (valR kF 0 xs rs (TOp.mk (4 : Int) a b c)) 0)]) && true && (pb (SubP true [(1027, [AV.flt (slopeR kF 0 rs (TOp.mk (4 : Int) a b c) (valR kF 0 xs rs (TOp.mk (4 : Int) a b c)) 0)])] [0, 1, 2] 0 (setL (rvC m rs) (0 + Int.toNat (↑i : Int) * 1) [AV.flt (fmul (rAt 0 rs a).1 (rAt 0 rs b).1)]) (rvC m (rs ++ [stepR kF 0 1 xs rs (TOp.mk (4 : Int) a b c)]))) && (pb (SubP true [(1027, [AV.flt (slopeR kF 0 rs (TOp.mk (4 : Int) a b c) (valR kF 0 xs rs (TOp.mk (4 : Int) a b c)) 0)])] [0, 1, 2] 0 (setL (rdC 1 m rs) (0 + Int.toNat (↑i : Int) * 1) [AV.slc 1027 0 1]) (rdC 1 m (rs ++ [stepR kF 0 1 xs rs (TOp.mk (4 : Int) a b c)]))) && true) && (Nat.blt 0 (List.length (fltL (rAt 0 rs b).2)) && AV.isFlt (List.getD (fltL (rAt 0 rs b).2) 0 AV.undef) && (pb (List.getD (setL (rdC 1 m rs) (0 + Int.toNat (↑i : Int) * 1) [AV.slc 1027 0 1]) (0 + Int.toNat b * 1) AV.undef = AV.snap (fltL (rAt 0 rs b).2) 1) && (Nat.blt (0 + Int.toNat b * 1) (List.length (setL (rdC 1 m rs) (0 + Int.toNat (↑i : Int) * 1) [AV.slc 1027 0 1])) && true) && (decide ((0 : Int) ≤ b ∧ b < (↑m : Int)) && (Nat.blt 0 (List.length (fltL (rAt 0 rs a).2)) && AV.isFlt (List.getD (fltL (rAt 0 rs a).2) 0 AV.undef) && (pb (List.getD (setL (rdC 1 m rs) (0 + Int.toNat (↑i : Int) * 1) [AV.slc 1027 0 1]) (0 + Int.toNat a * 1) AV.undef = AV.snap (fltL (rAt 0 rs a).2) 1) && (Nat.blt (0 + Int.toNat a * 1) (List.length (setL (rdC 1 m rs) (0 + Int.toNat (↑i : Int) * 1) [AV.slc 1027 0 1])) && true) && (decide ((0 : Int) ≤ a ∧ a < (↑m : Int)) && (pb (AV.flt (AV.toFlt (List.getD (setL (rvC m rs) (0 + Int.toNat (↑i : Int) * 1) [AV.flt (fmul (rAt 0 rs a).1 (rAt 0 rs b).1)]) (0 + Int.toNat (↑i : Int) * 1) AV.undef)) = AV.flt (valR kF 0 xs rs (TOp.mk (4 : Int) a b c))) && (Nat.blt (0 + Int.toNat (↑i : Int) * 1) (List.length (setL (rvC m rs) (0 + Int.toNat (↑i : Int) * 1) [AV.flt (fmul (rAt 0 rs a).1 (rAt 0 rs b).1)])) && AV.isFlt (List.getD (setL (rvC m rs) (0 + Int.toNat (↑i : Int) * 1) [AV.flt (fmul (rAt 0 rs a).1 (rAt 0 rs b).1)]) (0 + Int.toNat (↑i : Int) * 1) AV.undef)) && (decide ((0 : Int) ≤ (↑i : Int) ∧ (↑i : Int) < (↑m : Int)) && (pb (AV.flt (AV.toFlt (List.getD (setL (rvC m rs) (0 + Int.toNat (↑i : Int) * 1) [AV.flt (fmul (rAt 0 rs a).1 (rAt 0 rs b).1)]) (0 + Int.toNat b * 1) AV.undef)) = AV.flt (rAt 0 rs b).1) && (Nat.blt (0 + Int.toNat b * 1) (List.length (setL (rvC m rs) (0 + Int.toNat (↑i : Int) * 1) [AV.flt (fmul (rAt 0 rs a).1 (rAt 0 rs b).1)])) && AV.isFlt (List.getD (setL (rvC m rs) (0 + Int.toNat (↑i : Int) * 1) [AV.flt (fmul (rAt 0 rs a).1 (rAt 0 rs b).1)]) (0 + Int.toNat b * 1) AV.undef)) && (decide ((0 : Int) ≤ b ∧ b < (↑m : Int)) && (pb (AV.flt (AV.toFlt (List.getD (setL (rvC m rs) (0 + Int.toNat (↑i : Int) * 1) [AV.flt (fmul (rAt 0 rs a).1 (rAt 0 rs b).1)]) (0 + Int.toNat a * 1) AV.undef)) = AV.flt (rAt 0 rs a).1) && (Nat.blt (0 + Int.toNat a * 1) (List.length (setL (rvC m rs) (0 + Int.toNat (↑i : Int) * 1) [AV.flt (fmul (rAt 0 rs a).1 (rAt 0 rs b).1)])) && AV.isFlt (List.getD (setL (rvC m rs) (0 + Int.toNat (↑i : Int) * 1) [AV.flt (fmul (rAt 0 rs a).1 (rAt 0 rs b).1)]) (0 + Int.toNat a * 1) AV.undef)) && (decide ((0 : Int) ≤ a ∧ a < (↑m : Int)) && (pb (List.getD (setL (rdC 1 m rs) (0 + Int.toNat (↑i : Int) * 1) [AV.slc 1027 0 1]) (0 + Int.toNat (↑i : Int) * 1) AV.undef = AV.slc 1027 0 1) && (Nat.blt (0 + Int.toNat (↑i : Int) * 1) (List.length (setL (rdC 1 m rs) (0 + Int.toNat (↑i : Int) * 1) [AV.slc 1027 0 1])) && true) && (decide ((0 : Int) ≤ (↑i : Int) ∧ (↑i : Int) < (↑m : Int)) && (Nat.ble (0 + Int.toNat (↑i : Int) * 1 + 1) (List.length (rvC m rs)) && true && (decide ((0 : Int) ≤ (↑i : Int) ∧ (↑i : Int) < (↑m : Int)) && (pb (AV.flt (AV.toFlt (List.getD (rvC m rs) (0 + Int.toNat b * 1) AV.undef)) = AV.flt (rAt 0 rs b).1) && (Nat.blt (0 + Int.toNat b * 1) (List.length (rvC m rs)) && AV.isFlt (List.getD (rvC m rs) (0 + Int.toNat b * 1) AV.undef)) && (decide ((0 : Int) ≤ b ∧ b < (↑m : Int)) && (pb (AV.flt (AV.toFlt (List.getD (rvC m rs) (0 + Int.toNat a * 1) AV.undef)) = AV.flt (rAt 0 rs a).1) && (Nat.blt (0 + Int.toNat a * 1) (List.length (rvC m rs)) && AV.isFlt (List.getD (rvC m rs) (0 + Int.toNat a * 1) AV.undef)) && (decide ((0 : Int) ≤ a ∧ a < (↑m : Int)) && (Nat.ble (0 + Int.toNat (↑i : Int) * 1 + 1) (List.length (rdC 1 m rs)) && true && (decide ((0 : Int) ≤ (↑i : Int) ∧ (↑i : Int) < (↑m : Int)) && (pb (AV.agg [AV.int IntKind.i64 (AV.toInt (List.getD (opsL ops) (Int.toNat (↑i : Int) * 4) AV.undef)), AV.int IntKind.i64 (AV.toInt (List.getD (opsL ops) (Int.toNat (↑i : Int) * 4 + 1) AV.undef)), AV.int IntKind.i64 (AV.toInt (List.getD (opsL ops) (Int.toNat (↑i : Int) * 4 + 1 + 1) AV.undef)), AV.flt (AV.toFlt (List.getD (opsL ops) (Int.toNat (↑i : Int) * 4 + 1 + 1 + 1) AV.undef))] = AV.agg [AV.int IntKind.i64 4, AV.int IntKind.i64 a, AV.int IntKind.i64 b, AV.flt c]) && (Nat.ble (Int.toNat (↑i : Int) * 4 + 4) (List.length (opsL ops)) && etasOk [Leaf.i IntKind.i64, Leaf.i IntKind.i64, Leaf.i IntKind.i64, Leaf.f] (opsL ops) (Int.toNat (↑i : Int) * 4)) && (decide ((0 : Int) ≤ (↑i : Int) ∧ (↑i : Int) < (↑m : Int)) && (decide ((↑i : Int) < (↑m : Int)) && true)))))))))))))))))))))))))))) = true) : Goes CM w0 191 (eBody) (mk [1,2,5,6,7] [.snap (fltL xs) lx, .ptr 0 0, .slc 1 0 m, .slc 2 0 m, .int .i64 (i : Int)] [⟨[.int .i64 1, .snap (opsL ops) m, .snap (intL outs) 1], 53⟩, ⟨rvC m rs, 24⟩, ⟨rdC 1 m rs, 34⟩] dec0) Ex.normal (mk [1,2,5,6,7] [AV.snap (fltL xs) lx, AV.ptr 0 0, AV.slc 1 0 m, AV.slc 2 0 m, AV.int IntKind.i64 (IntKind.wrap IntKind.i64 ((↑i : Int) + (1 : Int)))] [ABlk.mk [AV.int IntKind.i64 1, AV.snap (opsL ops) m, AV.snap (intL outs) 1] 53, ABlk.mk (rvC m (rs ++ [stepR kF 0 1 xs rs (TOp.mk (4 : Int) a b c)])) 24, ABlk.mk (rdC 1 m (rs ++ [stepR kF 0 1 xs rs (TOp.mk (4 : Int) a b c)])) 34] dec1) :=
  goes_re (dec := [true]) (goes_O (l := [(31, .agg [.int .i64 4, .int .i64 a, .int .i64 b, .flt c]), (135, .slc 1027 0 1), (143, .flt (rAt 0 rs a).v), (148, .flt (rAt 0 rs b).v), (152, .flt (valR kF 0 xs rs ⟨4, a, b, c⟩)), (157, .snap (fltL (rAt 0 rs a).d) 1), (165, .snap (fltL (rAt 0 rs b).d) 1), (118, .flt (rAt 0 rs a).v), (123, .flt (rAt 0 rs b).v)]) (goes_viewK' (ctxO_ok OM _) mixed (qs := [24]) (fuel := 8) [.lit, .giv (rvC m (rs ++ [stepR kF 0 1 xs rs ⟨4, a, b, c⟩])) [], .giv (rdC 1 m (rs ++ [stepR kF 0 1 xs rs ⟨4, a, b, c⟩])) [1027], .frzGiv (fltL (stepR kF 0 1 xs rs ⟨4, a, b, c⟩).d) []] (by kernel_rfl) hok dec1))
theorem eI1_5 (xs : List Nat) (lx : Nat) (ops : List TOp) (m : Nat) (outs : List Int) (rs : List (Rg Nat)) (i : Nat) (a b : Int) (c : Nat) (w0 : World) (dec0 dec1 : List Bool) (hok : ((pb (SubP true [] [] 0 [AV.flt (fdiv (fsub (AV.toFlt (List.getD (fltL (rAt 0 rs a).2) 0 AV.undef)) (fmul (valR kF 0 xs rs (TOp.mk (5 : Int) a b c)) (AV.toFlt (List.getD (fltL (rAt 0 rs b).2) 0 AV.undef)))) (rAt 0 rs b).1)] [AV.flt (slopeR kF 0 rs (TOp.mk (5 : Int) a b c) (valR kF 0 xs rs (TOp.mk (5 : Int) a b c)) 0)]) && true && (pb (SubP true [(1027, [AV.flt (slopeR kF 0 rs (TOp.mk (5 : Int) a b c) (valR kF 0 xs rs (TOp.mk (5 : Int) a b c)) 0)])] [0, 1, 2] 0 (setL (rvC m rs) (0 + Int.toNat (↑i : Int) * 1) [AV.flt (fdiv (rAt 0 rs a).1 (rAt 0 rs b).1)]) (rvC m (rs ++ [stepR kF 0 1 xs rs (TOp.mk (5 : Int) a b c)]))) && (pb (SubP true [(1027, [AV.flt (slopeR kF 0 rs (TOp.mk (5 : Int) a b c) (valR kF 0 xs rs (TOp.mk (5 : Int) a b c)) 0)])] [0, 1, 2] 0 (setL (rdC 1 m rs) (0 + Int.toNat (↑i : Int) * 1) [AV.slc 1027 0 1]) (rdC 1 m (rs ++ [stepR kF 0 1 xs rs (TOp.mk (5 : Int) a b c)]))) && true) && (Nat.blt 0 (List.length (fltL (rAt 0 rs b).2)) && AV.isFlt (List.getD (fltL (rAt 0 rs b).2) 0 AV.undef) && (pb (List.getD (setL (rdC 1 m rs) (0 + Int.toNat (↑i : Int) * 1) [AV.slc 1027 0 1]) (0 + Int.toNat b * 1) AV.undef = AV.snap (fltL (rAt 0 rs b).2) 1) && (Nat.blt (0 + Int.toNat b * 1) (List.length (setL (rdC 1 m rs) (0 + Int.toNat (↑i : Int) * 1) [AV.slc 1027 0 1])) && true) && (decide ((0 : Int) ≤ b ∧ b < (↑m : Int)) && (Nat.blt 0 (List.length (fltL (rAt 0 rs a).2)) && AV.isFlt (List.getD (fltL (rAt 0 rs a).2) 0 AV.undef) && (pb (List.getD (setL (rdC 1 m rs) (0 + Int.toNat (↑i : Int) * 1) [AV.slc 1027 0 1]) (0 + Int.toNat a * 1) AV.undef = AV.snap (fltL (rAt 0 rs a).2) 1) && (Nat.blt (0 + Int.toNat a * 1) (List.length (setL (rdC 1 m rs) (0 + Int.toNat (↑i : Int) * 1) [AV.slc 1027 0 1])) && true) && (decide ((0 : Int) ≤ a ∧ a < (↑m : Int)) && (pb (AV.flt (AV.toFlt (List.getD (setL (rvC m rs) (0 + Int.toNat (↑i : Int) * 1) [AV.flt (fdiv (rAt 0 rs a).1 (rAt 0 rs b).1)]) (0 + Int.toNat (↑i : Int) * 1) AV.undef)) = AV.flt (valR kF 0 xs rs (TOp.mk (5 : Int) a b c))) && (Nat.blt (0 + Int.toNat (↑i : Int) * 1) (List.length (setL (rvC m rs) (0 + Int.toNat (↑i : Int) * 1) [AV.flt (fdiv (rAt 0 rs a).1 (rAt 0 rs b).1)])) && AV.isFlt (List.getD (setL (rvC m rs) (0 + Int.toNat (↑i : Int) * 1) [AV.flt (fdiv (rAt 0 rs a).1 (rAt 0 rs b).1)]) (0 + Int.toNat (↑i : Int) * 1) AV.undef)) && (decide ((0 : Int) ≤ (↑i : Int) ∧ (↑i : Int) < (↑m : Int)) && (pb (AV.flt (AV.toFlt (List.getD (setL (rvC m rs) (0 + Int.toNat (↑i : Int) * 1) [AV.flt (fdiv (rAt 0 rs a).1 (rAt 0 rs b).1)]) (0 + Int.toNat b * 1) AV.undef)) = AV.flt (rAt 0 rs b).1) && (Nat.blt (0 + Int.toNat b * 1) (List.length (setL (rvC m rs) (0 + Int.toNat (↑i : Int) * 1) [AV.flt (fdiv (rAt 0 rs a).1 (rAt 0 rs b).1)])) && AV.isFlt (List.getD (setL (rvC m rs) (0 + Int.toNat (↑i : Int) * 1) [AV.flt (fdiv (rAt 0 rs a).1 (rAt 0 rs b).1)]) (0 + Int.toNat b * 1) AV.undef)) && (decide ((0 : Int) ≤ b ∧ b < (↑m : Int)) && (pb (AV.flt (AV.toFlt (List.getD (setL (rvC m rs) (0 + Int.toNat (↑i : Int) * 1) [AV.flt (fdiv (rAt 0 rs a).1 (rAt 0 rs b).1)]) (0 + Int.toNat a * 1) AV.undef)) = AV.flt (rAt 0 rs a).1) && (Nat.blt (0 + Int.toNat a * 1) (List.length (setL (rvC m rs) (0 + Int.toNat (↑i : Int) * 1) [AV.flt (fdiv (rAt 0 rs a).1 (rAt 0 rs b).1)])) && AV.isFlt (List.getD (setL (rvC m rs) (0 + Int.toNat (↑i : Int) * 1) [AV.flt (fdiv (rAt 0 rs a).1 (rAt 0 rs b).1)]) (0 + Int.toNat a * 1) AV.undef)) && (decide ((0 : Int) ≤ a ∧ a < (↑m : Int)) && (pb (List.getD (setL (rdC 1 m rs) (0 + Int.toNat (↑i : Int) * 1) [AV.slc 1027 0 1]) (0 + Int.toNat (↑i : Int) * 1) AV.undef = AV.slc 1027 0 1) && (Nat.blt (0 + Int.toNat (↑i : Int) * 1) (List.length (setL (rdC 1 m rs) (0 + Int.toNat (↑i : Int) * 1) [AV.slc 1027 0 1])) && true) && (decide ((0 : Int) ≤ (↑i : Int) ∧ (↑i : Int) < (↑m : Int)) && (Nat.ble (0 + Int.toNat (↑i : Int) * 1 + 1) (List.length (rvC m rs)) && true && (decide ((0 : Int) ≤ (↑i : Int) ∧ (↑i : Int) < (↑m : Int)) && (pb (AV.flt (AV.toFlt (List.getD (rvC m rs) (0 + Int.toNat b * 1) AV.undef)) = AV.flt (rAt 0 rs b).1) && (Nat.blt (0 + Int.toNat b * 1) (List.length (rvC m rs)) && AV.isFlt (List.getD (rvC m rs) (0 + Int.toNat b * 1) AV.undef)) && (decide ((0 : Int) ≤ b ∧ b < (↑m : Int)) && (pb (AV.flt (AV.toFlt (List.getD (rvC m rs) (0 + Int.toNat a * 1) AV.undef)) = AV.flt (rAt 0 rs a).1) && (Nat.blt (0 + Int.toNat a * 1) (List.length (rvC m rs)) && AV.isFlt (List.getD (rvC m rs) (0 + Int.toNat a * 1) AV.undef)) && (decide ((0 : Int) ≤ a ∧ a < (↑m : Int)) && (Nat.ble (0 + Int.toNat (↑i : Int) * 1 + 1) (List.length (rdC 1 m rs)) && true && (decide ((0 : Int) ≤ (↑i : Int) ∧ (↑i : Int) < (↑m : Int)) && (pb (AV.agg [AV.int IntKind.i64 (AV.toInt (List.getD (opsL ops) (Int.toNat (↑i : Int) * 4) AV.undef)), AV.int IntKind.i64 (AV.toInt (List.getD (opsL ops) (Int.toNat (↑i : Int) * 4 + 1) AV.undef)), AV.int IntKind.i64 (AV.toInt (List.getD (opsL ops) (Int.toNat (↑i : Int) * 4 + 1 + 1) AV.undef)), AV.flt (AV.toFlt (List.getD (opsL ops) (Int.toNat (↑i : Int) * 4 + 1 + 1 + 1) AV.undef))] = AV.agg [AV.int IntKind.i64 5, AV.int IntKind.i64 a, AV.int IntKind.i64 b, AV.flt c]) && (Nat.ble (Int.toNat (↑i : Int) * 4 + 4) (List.length (opsL ops)) && etasOk [Leaf.i IntKind.i64, Leaf.i IntKind.i64, Leaf.i IntKind.i64, Leaf.f] (opsL ops) (Int.toNat (↑i : Int) * 4)) && (decide ((0 : Int) ≤ (↑i : Int) ∧ (↑i : Int) < (↑m : Int)) && (decide ((↑i : Int) < (↑m : Int)) && true)))))))))))))))))))))))))))) = true) : Goes CM w0 191 (eBody) (mk [1,2,5,6,7] [.snap (fltL xs) lx, .ptr 0 0, .slc 1 0 m, .slc 2 0 m, .int .i64 (i : Int)] [⟨[.int .i64 1, .snap (opsL ops) m, .snap (intL outs) 1], 53⟩, ⟨rvC m rs, 24⟩, ⟨rdC 1 m rs, 34⟩] dec0) Ex.normal (mk [1,2,5,6,7] [AV.snap (fltL xs) lx, AV.ptr 0 0, AV.slc 1 0 m, AV.slc 2 0 m, AV.int IntKind.i64 (IntKind.wrap IntKind.i64 ((↑i : Int) + (1 : Int)))] [ABlk.mk [AV.int IntKind.i64 1, AV.snap (opsL ops) m, AV.snap (intL outs) 1] 53, ABlk.mk (rvC m (rs ++ [stepR kF 0 1 xs rs (TOp.mk (5 : Int) a b c)])) 24, ABlk.mk (rdC 1 m (rs ++ [stepR kF 0 1 xs rs (TOp.mk (5 : Int) a b c)])) 34] dec1) :=
  goes_re (dec := [true]) (goes_O (l := [(31, .agg [.int .i64 5, .int .i64 a, .int .i64 b, .flt c]), (135, .slc 1027 0 1), (143, .flt (rAt 0 rs a).v), (148, .flt (rAt 0 rs b).v), (152, .flt (valR kF 0 xs rs ⟨5, a, b, c⟩)), (157, .snap (fltL (rAt 0 rs a).d) 1), (165, .snap (fltL (rAt 0 rs b).d) 1), (46, .flt (rAt 0 rs a).v), (51, .flt (rAt 0 rs b).v)]) (goes_viewK' (ctxO_ok OM _) mixed (qs := [24]) (fuel := 8) [.lit, .giv (rvC m (rs ++ [stepR kF 0 1 xs rs ⟨5, a, b, c⟩])) [], .giv (rdC 1 m (rs ++ [stepR kF 0 1 xs rs ⟨5, a, b, c⟩])) [1027], .frzGiv (fltL (stepR kF 0 1 xs rs ⟨5, a, b, c⟩).d) []] (by kernel_rfl) hok dec1))
theorem eX1 (xs : List Nat) (lx : Nat) (ops : List TOp) (m : Nat) (outs : List Int) (rs : List (Rg Nat)) (i : Nat) (w0 : World) (dec0 dec1 : List Bool) (hok : (((List.all (rdC 1 m rs) AV.noOwn) && true && (!decide ((↑i : Int) < (↑m : Int)) && true))) = true) : Goes CM w0 191 (eBody) (mk [1,2,5,6,7] [.snap (fltL xs) lx, .ptr 0 0, .slc 1 0 m, .slc 2 0 m, .int .i64 (i : Int)] [⟨[.int .i64 1, .snap (opsL ops) m, .snap (intL outs) 1], 53⟩, ⟨rvC m rs, 24⟩, ⟨rdC 1 m rs, 34⟩] dec0) (Ex.exit 0) (mk [2,6] [AV.ptr 0 0, AV.snap (rdC 1 m rs) m] [ABlk.mk [AV.int IntKind.i64 1, AV.snap (opsL ops) m, AV.snap (intL outs) 1] 53] dec1) :=
  goes_re (dec := [false]) (goes_viewK' OM mixed (qs := [24]) (fuel := 8) [.lit, .frzFlat] (by kernel_rfl) hok dec1)
theorem eZ1 (xs : List Nat) (lx : Nat) (ops : List TOp) (m : Nat) (outs : List Int) (rs : List (Rg Nat)) (i : Nat) (w0 : World) (dec0 dec1 : List Bool) (hok : (((List.all ([] ++ List.take (AV.sLen (List.getD (rdC 1 m rs) (Int.toNat (AV.toInt (List.getD (intL outs) 0 AV.undef)) * 1) AV.undef) * 1) (AV.sCells (List.getD (rdC 1 m rs) (Int.toNat (AV.toInt (List.getD (intL outs) 0 AV.undef)) * 1) AV.undef))) AV.noOwn) && true && (Nat.ble (AV.sLen (List.getD (rdC 1 m rs) (Int.toNat (AV.toInt (List.getD (intL outs) 0 AV.undef)) * 1) AV.undef) * 1) (List.length (AV.sCells (List.getD (rdC 1 m rs) (Int.toNat (AV.toInt (List.getD (intL outs) 0 AV.undef)) * 1) AV.undef))) && List.all (List.take (AV.sLen (List.getD (rdC 1 m rs) (Int.toNat (AV.toInt (List.getD (intL outs) 0 AV.undef)) * 1) AV.undef) * 1) (AV.sCells (List.getD (rdC 1 m rs) (Int.toNat (AV.toInt (List.getD (intL outs) 0 AV.undef)) * 1) AV.undef))) AV.one && decide (0 = 0 ∧ (0 + AV.sLen (List.getD (rdC 1 m rs) (Int.toNat (AV.toInt (List.getD (intL outs) 0 AV.undef)) * 1) AV.undef)) * 8 ≤ 140737488355328 ∧ 0 + AV.sLen (List.getD (rdC 1 m rs) (Int.toNat (AV.toInt (List.getD (intL outs) 0 AV.undef)) * 1) AV.undef) ≤ 9223372036854775807) && (Nat.blt (Int.toNat (AV.toInt (List.getD (intL outs) 0 AV.undef)) * 1) (List.length (rdC 1 m rs)) && AV.isSn (List.getD (rdC 1 m rs) (Int.toNat (AV.toInt (List.getD (intL outs) 0 AV.undef)) * 1) AV.undef) && (decide ((0 : Int) ≤ AV.toInt (List.getD (intL outs) 0 AV.undef) ∧ AV.toInt (List.getD (intL outs) 0 AV.undef) < (↑m : Int)) && (Nat.blt 0 (List.length (intL outs)) && AV.isInt IntKind.i64 (List.getD (intL outs) 0 AV.undef) && true)))))) = true) : Goes CM w0 191 (cR (cR (cR (cR eC)))) (mk [2,6] [.ptr 0 0, .snap (rdC 1 m rs) m] [⟨[.int .i64 1, .snap (opsL ops) m, .snap (intL outs) 1], 53⟩] dec0) Ex.ret (mk [4] [AV.slc 0 0 1] [ABlk.mk [AV.slc 1 0 (0 + AV.sLen (List.getD (rdC 1 m rs) (Int.toNat (AV.toInt (List.getD (intL outs) 0 AV.undef)) * 1) AV.undef))] 34, ABlk.mk ([] ++ List.take (AV.sLen (List.getD (rdC 1 m rs) (Int.toNat (AV.toInt (List.getD (intL outs) 0 AV.undef)) * 1) AV.undef) * 1) (AV.sCells (List.getD (rdC 1 m rs) (Int.toNat (AV.toInt (List.getD (intL outs) 0 AV.undef)) * 1) AV.undef))) 24] dec1) :=
  goes_re (dec := []) (goes_viewK' OM mixed (qs := []) (fuel := 8) [.lit, .flat] (by kernel_rfl) hok dec1)
theorem eA2 (xs : List Nat) (lx : Nat) (ops : List TOp) (m : Nat) (outs : List Int) (w0 : World) (dec1 : List Bool) : Goes CM w0 191 (cL eC) (St0 [.agg [.int .i64 2, .snap (opsL ops) m, .snap (intL outs) 2], .snap (fltL xs) lx] []) Ex.normal (mk [1,2] [AV.snap (fltL xs) lx, AV.ptr 0 0] [ABlk.mk [AV.int IntKind.i64 2, AV.snap (opsL ops) m, AV.snap (intL outs) 2] 53] dec1) :=
  goes_viewK' OM mixed (qs := []) (fuel := 8) [.lit] (by kernel_rfl) rfl dec1
theorem eB2 (xs : List Nat) (lx : Nat) (ops : List TOp) (m : Nat) (outs : List Int) (w0 : World) (dec0 dec1 : List Bool) (hok : (((List.all (List.replicate (Int.toNat (↑m : Int)) (AV.flt 0)) AV.noOwn) && true && (decide ((0 : Int) ≤ (↑m : Int) ∧ (↑m : Int) ≤ (↑m : Int) ∧ (8 : Int) * (↑m : Int) ≤ (281474976710656 : Int) ∧ (↑m : Int) ≤ (9223372036854775807 : Int)) && true))) = true) : Goes CM w0 191 (cL (cR eC)) (mk [1,2] [.snap (fltL xs) lx, .ptr 0 0] [⟨[.int .i64 2, .snap (opsL ops) m, .snap (intL outs) 2], 53⟩] dec0) Ex.normal (mk [1,2,5] [AV.snap (fltL xs) lx, AV.ptr 0 0, AV.slc 1 0 (Int.toNat (↑m : Int))] [ABlk.mk [AV.int IntKind.i64 2, AV.snap (opsL ops) m, AV.snap (intL outs) 2] 53, ABlk.mk (List.replicate (Int.toNat (↑m : Int)) (AV.flt 0)) 24] dec1) :=
  goes_re (dec := []) (goes_viewK' OM mixed (qs := []) (fuel := 8) [.lit, .flat] (by kernel_rfl) hok dec1)
theorem eD2 (xs : List Nat) (lx : Nat) (ops : List TOp) (m : Nat) (outs : List Int) (r0 : List AV) (w0 : World) (dec0 dec1 : List Bool) (hok : (((List.all r0 AV.noOwn) && ((List.all (List.replicate (Int.toNat (↑m : Int)) AV.nils) AV.noOwn) && true) && (decide ((0 : Int) ≤ (↑m : Int) ∧ (↑m : Int) ≤ (↑m : Int) ∧ (24 : Int) * (↑m : Int) ≤ (281474976710656 : Int) ∧ (↑m : Int) ≤ (9223372036854775807 : Int)) && true))) = true) : Goes CM w0 191 (cL (cR (cR eC))) (mk [1,2,5] [.snap (fltL xs) lx, .ptr 0 0, .slc 1 0 m] [⟨[.int .i64 2, .snap (opsL ops) m, .snap (intL outs) 2], 53⟩, ⟨r0, 24⟩] dec0) Ex.normal (mk [1,2,5,6] [AV.snap (fltL xs) lx, AV.ptr 0 0, AV.slc 1 0 m, AV.slc 2 0 (Int.toNat (↑m : Int))] [ABlk.mk [AV.int IntKind.i64 2, AV.snap (opsL ops) m, AV.snap (intL outs) 2] 53, ABlk.mk r0 24, ABlk.mk (List.replicate (Int.toNat (↑m : Int)) AV.nils) 34] dec1) :=
  goes_re (dec := []) (goes_viewK' OM mixed (qs := []) (fuel := 8) [.lit, .flat, .flat] (by kernel_rfl) hok dec1)
theorem eE2 (xs : List Nat) (lx : Nat) (ops : List TOp) (m : Nat) (outs : List Int) (r0 d0 : List AV) (w0 : World) (dec0 dec1 : List Bool) (hok : (((List.all r0 AV.noOwn) && ((List.all d0 AV.noOwn) && true) && true)) = true) : Goes CM w0 191 (cL (cL (cR (cR (cR eC))))) (mk [1,2,5,6] [.snap (fltL xs) lx, .ptr 0 0, .slc 1 0 m, .slc 2 0 m] [⟨[.int .i64 2, .snap (opsL ops) m, .snap (intL outs) 2], 53⟩, ⟨r0, 24⟩, ⟨d0, 34⟩] dec0) Ex.normal (mk [1,2,5,6,7] [AV.snap (fltL xs) lx, AV.ptr 0 0, AV.slc 1 0 m, AV.slc 2 0 m, AV.int IntKind.i64 0] [ABlk.mk [AV.int IntKind.i64 2, AV.snap (opsL ops) m, AV.snap (intL outs) 2] 53, ABlk.mk r0 24, ABlk.mk d0 34] dec1) :=
  goes_re (dec := []) (goes_viewK' OM mixed (qs := []) (fuel := 8) [.lit, .flat, .flat] (by kernel_rfl) hok dec1)
theorem eI2_0 (xs : List Nat) (lx : Nat) (ops : List TOp) (m : Nat) (outs : List Int) (rs : List (Rg Nat)) (i : Nat) (a b : Int) (c : Nat) (w0 : World) (dec0 dec1 : List Bool) (hok : ((pb (SubP true [] [] 0 [AV.flt 0, AV.flt 0] [AV.flt 0, AV.flt 0]) && true && (pb (SubP true [(1027, [AV.flt 0, AV.flt 0])] [0, 1, 2] 0 (setL (rvC m rs) (0 + Int.toNat (↑i : Int) * 1) [AV.flt c]) (rvC m (rs ++ [stepR kF 0 2 xs rs (TOp.mk (0 : Int) a b c)]))) && (pb (SubP true [(1027, [AV.flt 0, AV.flt 0])] [0, 1, 2] 0 (setL (rdC 2 m rs) (0 + Int.toNat (↑i : Int) * 1) [AV.slc 1027 0 2]) (rdC 2 m (rs ++ [stepR kF 0 2 xs rs (TOp.mk (0 : Int) a b c)]))) && true) && (Nat.ble (0 + Int.toNat (↑i : Int) * 1 + 1) (List.length (rvC m rs)) && true && (decide ((0 : Int) ≤ (↑i : Int) ∧ (↑i : Int) < (↑m : Int)) && (Nat.ble (0 + Int.toNat (↑i : Int) * 1 + 1) (List.length (rdC 2 m rs)) && true && (decide ((0 : Int) ≤ (↑i : Int) ∧ (↑i : Int) < (↑m : Int)) && (pb (AV.agg [AV.int IntKind.i64 (AV.toInt (List.getD (opsL ops) (Int.toNat (↑i : Int) * 4) AV.undef)), AV.int IntKind.i64 (AV.toInt (List.getD (opsL ops) (Int.toNat (↑i : Int) * 4 + 1) AV.undef)), AV.int IntKind.i64 (AV.toInt (List.getD (opsL ops) (Int.toNat (↑i : Int) * 4 + 1 + 1) AV.undef)), AV.flt (AV.toFlt (List.getD (opsL ops) (Int.toNat (↑i : Int) * 4 + 1 + 1 + 1) AV.undef))] = AV.agg [AV.int IntKind.i64 0, AV.int IntKind.i64 a, AV.int IntKind.i64 b, AV.flt c]) && (Nat.ble (Int.toNat (↑i : Int) * 4 + 4) (List.length (opsL ops)) && etasOk [Leaf.i IntKind.i64, Leaf.i IntKind.i64, Leaf.i IntKind.i64, Leaf.f] (opsL ops) (Int.toNat (↑i : Int) * 4)) && (decide ((0 : Int) ≤ (↑i : Int) ∧ (↑i : Int) < (↑m : Int)) && (decide ((↑i : Int) < (↑m : Int)) && true)))))))))) = true) : Goes CM w0 191 (eBody) (mk [1,2,5,6,7] [.snap (fltL xs) lx, .ptr 0 0, .slc 1 0 m, .slc 2 0 m, .int .i64 (i : Int)] [⟨[.int .i64 2, .snap (opsL ops) m, .snap (intL outs) 2], 53⟩, ⟨rvC m rs, 24⟩, ⟨rdC 2 m rs, 34⟩] dec0) Ex.normal (mk [1,2,5,6,7] [AV.snap (fltL xs) lx, AV.ptr 0 0, AV.slc 1 0 m, AV.slc 2 0 m, AV.int IntKind.i64 (IntKind.wrap IntKind.i64 ((↑i : Int) + (1 : Int)))] [ABlk.mk [AV.int IntKind.i64 2, AV.snap (opsL ops) m, AV.snap (intL outs) 2] 53, ABlk.mk (rvC m (rs ++ [stepR kF 0 2 xs rs (TOp.mk (0 : Int) a b c)])) 24, ABlk.mk (rdC 2 m (rs ++ [stepR kF 0 2 xs rs (TOp.mk (0 : Int) a b c)])) 34] dec1) :=
  goes_re (dec := [true]) (goes_O (l := [(31, .agg [.int .i64 0, .int .i64 a, .int .i64 b, .flt c])]) (goes_viewK' (ctxO_ok OM _) mixed (qs := [24]) (fuel := 8) [.lit, .giv (rvC m (rs ++ [stepR kF 0 2 xs rs ⟨0, a, b, c⟩])) [], .giv (rdC 2 m (rs ++ [stepR kF 0 2 xs rs ⟨0, a, b, c⟩])) [1027], .frzGiv (fltL (stepR kF 0 2 xs rs ⟨0, a, b, c⟩).d) []] (by kernel_rfl) hok dec1))
theorem eI2_1 (xs : List Nat) (lx : Nat) (ops : List TOp) (m : Nat) (outs : List Int) (rs : List (Rg Nat)) (i : Nat) (a b : Int) (c : Nat) (w0 : World) (dec0 dec1 : List Bool) (hok : ((pb (SubP true [] [] 0 (setL [AV.flt 0, AV.flt 0] (0 + Int.toNat a * 1) [AV.flt 4607182418800017408]) [AV.flt (slopeR kF 0 rs (TOp.mk (1 : Int) a b c) (valR kF 0 xs rs (TOp.mk (1 : Int) a b c)) 0), AV.flt (slopeR kF 0 rs (TOp.mk (1 : Int) a b c) (valR kF 0 xs rs (TOp.mk (1 : Int) a b c)) 1)]) && true && (pb (SubP true [(1027, [AV.flt (slopeR kF 0 rs (TOp.mk (1 : Int) a b c) (valR kF 0 xs rs (TOp.mk (1 : Int) a b c)) 0), AV.flt (slopeR kF 0 rs (TOp.mk (1 : Int) a b c) (valR kF 0 xs rs (TOp.mk (1 : Int) a b c)) 1)])] [0, 1, 2] 0 (setL (rvC m rs) (0 + Int.toNat (↑i : Int) * 1) [AV.flt (List.getD xs (Int.toNat a) 0)]) (rvC m (rs ++ [stepR kF 0 2 xs rs (TOp.mk (1 : Int) a b c)]))) && (pb (SubP true [(1027, [AV.flt (slopeR kF 0 rs (TOp.mk (1 : Int) a b c) (valR kF 0 xs rs (TOp.mk (1 : Int) a b c)) 0), AV.flt (slopeR kF 0 rs (TOp.mk (1 : Int) a b c) (valR kF 0 xs rs (TOp.mk (1 : Int) a b c)) 1)])] [0, 1, 2] 0 (setL (rdC 2 m rs) (0 + Int.toNat (↑i : Int) * 1) [AV.slc 1027 0 2]) (rdC 2 m (rs ++ [stepR kF 0 2 xs rs (TOp.mk (1 : Int) a b c)]))) && true) && (Nat.ble (0 + Int.toNat a * 1 + 1) 2 && true && (decide ((0 : Int) ≤ a ∧ a < (2 : Int)) && (Nat.ble (0 + Int.toNat (↑i : Int) * 1 + 1) (List.length (rvC m rs)) && true && (decide ((0 : Int) ≤ (↑i : Int) ∧ (↑i : Int) < (↑m : Int)) && (pb (AV.flt (AV.toFlt (List.getD (fltL xs) (Int.toNat a * 1) AV.undef)) = AV.flt (List.getD xs (Int.toNat a) 0)) && (Nat.blt (Int.toNat a * 1) (List.length (fltL xs)) && AV.isFlt (List.getD (fltL xs) (Int.toNat a * 1) AV.undef)) && (decide ((0 : Int) ≤ a ∧ a < (↑lx : Int)) && (pb (List.getD (setL (rdC 2 m rs) (0 + Int.toNat (↑i : Int) * 1) [AV.slc 1027 0 2]) (0 + Int.toNat (↑i : Int) * 1) AV.undef = AV.slc 1027 0 2) && (Nat.blt (0 + Int.toNat (↑i : Int) * 1) (List.length (setL (rdC 2 m rs) (0 + Int.toNat (↑i : Int) * 1) [AV.slc 1027 0 2])) && true) && (decide ((0 : Int) ≤ (↑i : Int) ∧ (↑i : Int) < (↑m : Int)) && (Nat.ble (0 + Int.toNat (↑i : Int) * 1 + 1) (List.length (rdC 2 m rs)) && true && (decide ((0 : Int) ≤ (↑i : Int) ∧ (↑i : Int) < (↑m : Int)) && (pb (AV.agg [AV.int IntKind.i64 (AV.toInt (List.getD (opsL ops) (Int.toNat (↑i : Int) * 4) AV.undef)), AV.int IntKind.i64 (AV.toInt (List.getD (opsL ops) (Int.toNat (↑i : Int) * 4 + 1) AV.undef)), AV.int IntKind.i64 (AV.toInt (List.getD (opsL ops) (Int.toNat (↑i : Int) * 4 + 1 + 1) AV.undef)), AV.flt (AV.toFlt (List.getD (opsL ops) (Int.toNat (↑i : Int) * 4 + 1 + 1 + 1) AV.undef))] = AV.agg [AV.int IntKind.i64 1, AV.int IntKind.i64 a, AV.int IntKind.i64 b, AV.flt c]) && (Nat.ble (Int.toNat (↑i : Int) * 4 + 4) (List.length (opsL ops)) && etasOk [Leaf.i IntKind.i64, Leaf.i IntKind.i64, Leaf.i IntKind.i64, Leaf.f] (opsL ops) (Int.toNat (↑i : Int) * 4)) && (decide ((0 : Int) ≤ (↑i : Int) ∧ (↑i : Int) < (↑m : Int)) && (decide ((↑i : Int) < (↑m : Int)) && true)))))))))))))))) = true) : Goes CM w0 191 (eBody) (mk [1,2,5,6,7] [.snap (fltL xs) lx, .ptr 0 0, .slc 1 0 m, .slc 2 0 m, .int .i64 (i : Int)] [⟨[.int .i64 2, .snap (opsL ops) m, .snap (intL outs) 2], 53⟩, ⟨rvC m rs, 24⟩, ⟨rdC 2 m rs, 34⟩] dec0) Ex.normal (mk [1,2,5,6,7] [AV.snap (fltL xs) lx, AV.ptr 0 0, AV.slc 1 0 m, AV.slc 2 0 m, AV.int IntKind.i64 (IntKind.wrap IntKind.i64 ((↑i : Int) + (1 : Int)))] [ABlk.mk [AV.int IntKind.i64 2, AV.snap (opsL ops) m, AV.snap (intL outs) 2] 53, ABlk.mk (rvC m (rs ++ [stepR kF 0 2 xs rs (TOp.mk (1 : Int) a b c)])) 24, ABlk.mk (rdC 2 m (rs ++ [stepR kF 0 2 xs rs (TOp.mk (1 : Int) a b c)])) 34] dec1) :=
  goes_re (dec := [true]) (goes_O (l := [(31, .agg [.int .i64 1, .int .i64 a, .int .i64 b, .flt c]), (68, .slc 1027 0 2), (75, .flt (xs.getD a.toNat 0))]) (goes_viewK' (ctxO_ok OM _) mixed (qs := [24]) (fuel := 8) [.lit, .giv (rvC m (rs ++ [stepR kF 0 2 xs rs ⟨1, a, b, c⟩])) [], .giv (rdC 2 m (rs ++ [stepR kF 0 2 xs rs ⟨1, a, b, c⟩])) [1027], .frzGiv (fltL (stepR kF 0 2 xs rs ⟨1, a, b, c⟩).d) []] (by kernel_rfl) hok dec1))
theorem eI2_2 (xs : List Nat) (lx : Nat) (ops : List TOp) (m : Nat) (outs : List Int) (rs : List (Rg Nat)) (i : Nat) (a b : Int) (c : Nat) (w0 : World) (dec0 dec1 : List Bool) (hok : ((pb (SubP true [] [] 0 [AV.flt (fadd (AV.toFlt (List.getD (fltL (rAt 0 rs a).2) 0 AV.undef)) (AV.toFlt (List.getD (fltL (rAt 0 rs b).2) 0 AV.undef))), AV.flt (fadd (AV.toFlt (List.getD (fltL (rAt 0 rs a).2) 1 AV.undef)) (AV.toFlt (List.getD (fltL (rAt 0 rs b).2) 1 AV.undef)))] [AV.flt (slopeR kF 0 rs (TOp.mk (2 : Int) a b c) (valR kF 0 xs rs (TOp.mk (2 : Int) a b c)) 0), AV.flt (slopeR kF 0 rs (TOp.mk (2 : Int) a b c) (valR kF 0 xs rs (TOp.mk (2 : Int) a b c)) 1)]) && true && (pb (SubP true [(1027, [AV.flt (slopeR kF 0 rs (TOp.mk (2 : Int) a b c) (valR kF 0 xs rs (TOp.mk (2 : Int) a b c)) 0), AV.flt (slopeR kF 0 rs (TOp.mk (2 : Int) a b c) (valR kF 0 xs rs (TOp.mk (2 : Int) a b c)) 1)])] [0, 1, 2] 0 (setL (rvC m rs) (0 + Int.toNat (↑i : Int) * 1) [AV.flt (fadd (rAt 0 rs a).1 (rAt 0 rs b).1)]) (rvC m (rs ++ [stepR kF 0 2 xs rs (TOp.mk (2 : Int) a b c)]))) && (pb (SubP true [(1027, [AV.flt (slopeR kF 0 rs (TOp.mk (2 : Int) a b c) (valR kF 0 xs rs (TOp.mk (2 : Int) a b c)) 0), AV.flt (slopeR kF 0 rs (TOp.mk (2 : Int) a b c) (valR kF 0 xs rs (TOp.mk (2 : Int) a b c)) 1)])] [0, 1, 2] 0 (setL (rdC 2 m rs) (0 + Int.toNat (↑i : Int) * 1) [AV.slc 1027 0 2]) (rdC 2 m (rs ++ [stepR kF 0 2 xs rs (TOp.mk (2 : Int) a b c)]))) && true) && (Nat.blt 1 (List.length (fltL (rAt 0 rs b).2)) && AV.isFlt (List.getD (fltL (rAt 0 rs b).2) 1 AV.undef) && (pb (List.getD (setL (rdC 2 m rs) (0 + Int.toNat (↑i : Int) * 1) [AV.slc 1027 0 2]) (0 + Int.toNat b * 1) AV.undef = AV.snap (fltL (rAt 0 rs b).2) 2) && (Nat.blt (0 + Int.toNat b * 1) (List.length (setL (rdC 2 m rs) (0 + Int.toNat (↑i : Int) * 1) [AV.slc 1027 0 2])) && true) && (decide ((0 : Int) ≤ b ∧ b < (↑m : Int)) && (Nat.blt 1 (List.length (fltL (rAt 0 rs a).2)) && AV.isFlt (List.getD (fltL (rAt 0 rs a).2) 1 AV.undef) && (pb (List.getD (setL (rdC 2 m rs) (0 + Int.toNat (↑i : Int) * 1) [AV.slc 1027 0 2]) (0 + Int.toNat a * 1) AV.undef = AV.snap (fltL (rAt 0 rs a).2) 2) && (Nat.blt (0 + Int.toNat a * 1) (List.length (setL (rdC 2 m rs) (0 + Int.toNat (↑i : Int) * 1) [AV.slc 1027 0 2])) && true) && (decide ((0 : Int) ≤ a ∧ a < (↑m : Int)) && (pb (AV.flt (AV.toFlt (List.getD (setL (rvC m rs) (0 + Int.toNat (↑i : Int) * 1) [AV.flt (fadd (rAt 0 rs a).1 (rAt 0 rs b).1)]) (0 + Int.toNat (↑i : Int) * 1) AV.undef)) = AV.flt (valR kF 0 xs rs (TOp.mk (2 : Int) a b c))) && (Nat.blt (0 + Int.toNat (↑i : Int) * 1) (List.length (setL (rvC m rs) (0 + Int.toNat (↑i : Int) * 1) [AV.flt (fadd (rAt 0 rs a).1 (rAt 0 rs b).1)])) && AV.isFlt (List.getD (setL (rvC m rs) (0 + Int.toNat (↑i : Int) * 1) [AV.flt (fadd (rAt 0 rs a).1 (rAt 0 rs b).1)]) (0 + Int.toNat (↑i : Int) * 1) AV.undef)) && (decide ((0 : Int) ≤ (↑i : Int) ∧ (↑i : Int) < (↑m : Int)) && (pb (AV.flt (AV.toFlt (List.getD (setL (rvC m rs) (0 + Int.toNat (↑i : Int) * 1) [AV.flt (fadd (rAt 0 rs a).1 (rAt 0 rs b).1)]) (0 + Int.toNat b * 1) AV.undef)) = AV.flt (rAt 0 rs b).1) && (Nat.blt (0 + Int.toNat b * 1) (List.length (setL (rvC m rs) (0 + Int.toNat (↑i : Int) * 1) [AV.flt (fadd (rAt 0 rs a).1 (rAt 0 rs b).1)])) && AV.isFlt (List.getD (setL (rvC m rs) (0 + Int.toNat (↑i : Int) * 1) [AV.flt (fadd (rAt 0 rs a).1 (rAt 0 rs b).1)]) (0 + Int.toNat b * 1) AV.undef)) && (decide ((0 : Int) ≤ b ∧ b < (↑m : Int)) && (pb (AV.flt (AV.toFlt (List.getD (setL (rvC m rs) (0 + Int.toNat (↑i : Int) * 1) [AV.flt (fadd (rAt 0 rs a).1 (rAt 0 rs b).1)]) (0 + Int.toNat a * 1) AV.undef)) = AV.flt (rAt 0 rs a).1) && (Nat.blt (0 + Int.toNat a * 1) (List.length (setL (rvC m rs) (0 + Int.toNat (↑i : Int) * 1) [AV.flt (fadd (rAt 0 rs a).1 (rAt 0 rs b).1)])) && AV.isFlt (List.getD (setL (rvC m rs) (0 + Int.toNat (↑i : Int) * 1) [AV.flt (fadd (rAt 0 rs a).1 (rAt 0 rs b).1)]) (0 + Int.toNat a * 1) AV.undef)) && (decide ((0 : Int) ≤ a ∧ a < (↑m : Int)) && (pb (List.getD (setL (rdC 2 m rs) (0 + Int.toNat (↑i : Int) * 1) [AV.slc 1027 0 2]) (0 + Int.toNat (↑i : Int) * 1) AV.undef = AV.slc 1027 0 2) && (Nat.blt (0 + Int.toNat (↑i : Int) * 1) (List.length (setL (rdC 2 m rs) (0 + Int.toNat (↑i : Int) * 1) [AV.slc 1027 0 2])) && true) && (decide ((0 : Int) ≤ (↑i : Int) ∧ (↑i : Int) < (↑m : Int)) && (Nat.blt 0 (List.length (fltL (rAt 0 rs b).2)) && AV.isFlt (List.getD (fltL (rAt 0 rs b).2) 0 AV.undef) && (pb (List.getD (setL (rdC 2 m rs) (0 + Int.toNat (↑i : Int) * 1) [AV.slc 1027 0 2]) (0 + Int.toNat b * 1) AV.undef = AV.snap (fltL (rAt 0 rs b).2) 2) && (Nat.blt (0 + Int.toNat b * 1) (List.length (setL (rdC 2 m rs) (0 + Int.toNat (↑i : Int) * 1) [AV.slc 1027 0 2])) && true) && (decide ((0 : Int) ≤ b ∧ b < (↑m : Int)) && (Nat.blt 0 (List.length (fltL (rAt 0 rs a).2)) && AV.isFlt (List.getD (fltL (rAt 0 rs a).2) 0 AV.undef) && (pb (List.getD (setL (rdC 2 m rs) (0 + Int.toNat (↑i : Int) * 1) [AV.slc 1027 0 2]) (0 + Int.toNat a * 1) AV.undef = AV.snap (fltL (rAt 0 rs a).2) 2) && (Nat.blt (0 + Int.toNat a * 1) (List.length (setL (rdC 2 m rs) (0 + Int.toNat (↑i : Int) * 1) [AV.slc 1027 0 2])) && true) && (decide ((0 : Int) ≤ a ∧ a < (↑m : Int)) && (pb (AV.flt (AV.toFlt (List.getD (setL (rvC m rs) (0 + Int.toNat (↑i : Int) * 1) [AV.flt (fadd (rAt 0 rs a).1 (rAt 0 rs b).1)]) (0 + Int.toNat (↑i : Int) * 1) AV.undef)) = AV.flt (valR kF 0 xs rs (TOp.mk (2 : Int) a b c))) && (Nat.blt (0 + Int.toNat (↑i : Int) * 1) (List.length (setL (rvC m rs) (0 + Int.toNat (↑i : Int) * 1) [AV.flt (fadd (rAt 0 rs a).1 (rAt 0 rs b).1)])) && AV.isFlt (List.getD (setL (rvC m rs) (0 + Int.toNat (↑i : Int) * 1) [AV.flt (fadd (rAt 0 rs a).1 (rAt 0 rs b).1)]) (0 + Int.toNat (↑i : Int) * 1) AV.undef)) && (decide ((0 : Int) ≤ (↑i : Int) ∧ (↑i : Int) < (↑m : Int)) && (pb (AV.flt (AV.toFlt (List.getD (setL (rvC m rs) (0 + Int.toNat (↑i : Int) * 1) [AV.flt (fadd (rAt 0 rs a).1 (rAt 0 rs b).1)]) (0 + Int.toNat b * 1) AV.undef)) = AV.flt (rAt 0 rs b).1) && (Nat.blt (0 + Int.toNat b * 1) (List.length (setL (rvC m rs) (0 + Int.toNat (↑i : Int) * 1) [AV.flt (fadd (rAt 0 rs a).1 (rAt 0 rs b).1)])) && AV.isFlt (List.getD (setL (rvC m rs) (0 + Int.toNat (↑i : Int) * 1) [AV.flt (fadd (rAt 0 rs a).1 (rAt 0 rs b).1)]) (0 + Int.toNat b * 1) AV.undef)) && (decide ((0 : Int) ≤ b ∧ b < (↑m : Int)) && (pb (AV.flt (AV.toFlt (List.getD (setL (rvC m rs) (0 + Int.toNat (↑i : Int) * 1) [AV.flt (fadd (rAt 0 rs a).1 (rAt 0 rs b).1)]) (0 + Int.toNat a * 1) AV.undef)) = AV.flt (rAt 0 rs a).1) && (Nat.blt (0 + Int.toNat a * 1) (List.length (setL (rvC m rs) (0 + Int.toNat (↑i : Int) * 1) [AV.flt (fadd (rAt 0 rs a).1 (rAt 0 rs b).1)])) && AV.isFlt (List.getD (setL (rvC m rs) (0 + Int.toNat (↑i : Int) * 1) [AV.flt (fadd (rAt 0 rs a).1 (rAt 0 rs b).1)]) (0 + Int.toNat a * 1) AV.undef)) && (decide ((0 : Int) ≤ a ∧ a < (↑m : Int)) && (pb (List.getD (setL (rdC 2 m rs) (0 + Int.toNat (↑i : Int) * 1) [AV.slc 1027 0 2]) (0 + Int.toNat (↑i : Int) * 1) AV.undef = AV.slc 1027 0 2) && (Nat.blt (0 + Int.toNat (↑i : Int) * 1) (List.length (setL (rdC 2 m rs) (0 + Int.toNat (↑i : Int) * 1) [AV.slc 1027 0 2])) && true) && (decide ((0 : Int) ≤ (↑i : Int) ∧ (↑i : Int) < (↑m : Int)) && (Nat.ble (0 + Int.toNat (↑i : Int) * 1 + 1) (List.length (rvC m rs)) && true && (decide ((0 : Int) ≤ (↑i : Int) ∧ (↑i : Int) < (↑m : Int)) && (pb (AV.flt (AV.toFlt (List.getD (rvC m rs) (0 + Int.toNat b * 1) AV.undef)) = AV.flt (rAt 0 rs b).1) && (Nat.blt (0 + Int.toNat b * 1) (List.length (rvC m rs)) && AV.isFlt (List.getD (rvC m rs) (0 + Int.toNat b * 1) AV.undef)) && (decide ((0 : Int) ≤ b ∧ b < (↑m : Int)) && (pb (AV.flt (AV.toFlt (List.getD (rvC m rs) (0 + Int.toNat a * 1) AV.undef)) = AV.flt (rAt 0 rs a).1) && (Nat.blt (0 + Int.toNat a * 1) (List.length (rvC m rs)) && AV.isFlt (List.getD (rvC m rs) (0 + Int.toNat a * 1) AV.undef)) && (decide ((0 : Int) ≤ a ∧ a < (↑m : Int)) && (Nat.ble (0 + Int.toNat (↑i : Int) * 1 + 1) (List.length (rdC 2 m rs)) && true && (decide ((0 : Int) ≤ (↑i : Int) ∧ (↑i : Int) < (↑m : Int)) && (pb (AV.agg [AV.int IntKind.i64 (AV.toInt (List.getD (opsL ops) (Int.toNat (↑i : Int) * 4) AV.undef)), AV.int IntKind.i64 (AV.toInt (List.getD (opsL ops) (Int.toNat (↑i : Int) * 4 + 1) AV.undef)), AV.int IntKind.i64 (AV.toInt (List.getD (opsL ops) (Int.toNat (↑i : Int) * 4 + 1 + 1) AV.undef)), AV.flt (AV.toFlt (List.getD (opsL ops) (Int.toNat (↑i : Int) * 4 + 1 + 1 + 1) AV.undef))] = AV.agg [AV.int IntKind.i64 2, AV.int IntKind.i64 a, AV.int IntKind.i64 b, AV.flt c]) && (Nat.ble (Int.toNat (↑i : Int) * 4 + 4) (List.length (opsL ops)) && etasOk [Leaf.i IntKind.i64, Leaf.i IntKind.i64, Leaf.i IntKind.i64, Leaf.f] (opsL ops) (Int.toNat (↑i : Int) * 4)) && (decide ((0 : Int) ≤ (↑i : Int) ∧ (↑i : Int) < (↑m : Int)) && (decide ((↑i : Int) < (↑m : Int)) && true)))))))))))))))))))))))))))))))))))))))))) = true) : Goes CM w0 191 (eBody) (mk [1,2,5,6,7] [.snap (fltL xs) lx, .ptr 0 0, .slc 1 0 m, .slc 2 0 m, .int .i64 (i : Int)] [⟨[.int .i64 2, .snap (opsL ops) m, .snap (intL outs) 2], 53⟩, ⟨rvC m rs, 24⟩, ⟨rdC 2 m rs, 34⟩] dec0) Ex.normal (mk [1,2,5,6,7] [AV.snap (fltL xs) lx, AV.ptr 0 0, AV.slc 1 0 m, AV.slc 2 0 m, AV.int IntKind.i64 (IntKind.wrap IntKind.i64 ((↑i : Int) + (1 : Int)))] [ABlk.mk [AV.int IntKind.i64 2, AV.snap (opsL ops) m, AV.snap (intL outs) 2] 53, ABlk.mk (rvC m (rs ++ [stepR kF 0 2 xs rs (TOp.mk (2 : Int) a b c)])) 24, ABlk.mk (rdC 2 m (rs ++ [stepR kF 0 2 xs rs (TOp.mk (2 : Int) a b c)])) 34] dec1) :=
  goes_re (dec := [true]) (goes_O (l := [(31, .agg [.int .i64 2, .int .i64 a, .int .i64 b, .flt c]), (135, .slc 1027 0 2), (143, .flt (rAt 0 rs a).v), (148, .flt (rAt 0 rs b).v), (152, .flt (valR kF 0 xs rs ⟨2, a, b, c⟩)), (157, .snap (fltL (rAt 0 rs a).d) 2), (165, .snap (fltL (rAt 0 rs b).d) 2), (86, .flt (rAt 0 rs a).v), (91, .flt (rAt 0 rs b).v)]) (goes_viewK' (ctxO_ok OM _) mixed (qs := [24]) (fuel := 8) [.lit, .giv (rvC m (rs ++ [stepR kF 0 2 xs rs ⟨2, a, b, c⟩])) [], .giv (rdC 2 m (rs ++ [stepR kF 0 2 xs rs ⟨2, a, b, c⟩])) [1027], .frzGiv (fltL (stepR kF 0 2 xs rs ⟨2, a, b, c⟩).d) []] (by kernel_rfl) hok dec1))
theorem eI2_3 (xs : List Nat) (lx : Nat) (ops : List TOp) (m : Nat) (outs : List Int) (rs : List (Rg Nat)) (i : Nat) (a b : Int) (c : Nat) (w0 : World) (dec0 dec1 : List Bool) (hok : ((pb (SubP true [] [] 0 [AV.flt (fsub (AV.toFlt (List.getD (fltL (rAt 0 rs a).2) 0 AV.undef)) (AV.toFlt (List.getD (fltL (rAt 0 rs b).2) 0 AV.undef))), AV.flt (fsub (AV.toFlt (List.getD (fltL (rAt 0 rs a).2) 1 AV.undef)) (AV.toFlt (List.getD (fltL (rAt 0 rs b).2) 1 AV.undef)))] [AV.flt (slopeR kF 0 rs (TOp.mk (3 : Int) a b c) (valR kF 0 xs rs (TOp.mk (3 : Int) a b c)) 0), AV.flt (slopeR kF 0 rs (TOp.mk (3 : Int) a b c) (valR kF 0 xs rs (TOp.mk (3 : Int) a b c)) 1)]) && true && (pb (SubP true [(1027, [AV.flt (slopeR kF 0 rs (TOp.mk (3 : Int) a b c) (valR kF 0 xs rs (TOp.mk (3 : Int) a b c)) 0), AV.flt (slopeR kF 0 rs (TOp.mk (3 : Int) a b c) (valR kF 0 xs rs (TOp.mk (3 : Int) a b c)) 1)])] [0, 1, 2] 0 (setL (rvC m rs) (0 + Int.toNat (↑i : Int) * 1) [AV.flt (fsub (rAt 0 rs a).1 (rAt 0 rs b).1)]) (rvC m (rs ++ [stepR kF 0 2 xs rs (TOp.mk (3 : Int) a b c)]))) && (pb (SubP true [(1027, [AV.flt (slopeR kF 0 rs (TOp.mk (3 : Int) a b c) (valR kF 0 xs rs (TOp.mk (3 : Int) a b c)) 0), AV.flt (slopeR kF 0 rs (TOp.mk (3 : Int) a b c) (valR kF 0 xs rs (TOp.mk (3 : Int) a b c)) 1)])] [0, 1, 2] 0 (setL (rdC 2 m rs) (0 + Int.toNat (↑i : Int) * 1) [AV.slc 1027 0 2]) (rdC 2 m (rs ++ [stepR kF 0 2 xs rs (TOp.mk (3 : Int) a b c)]))) && true) && (Nat.blt 1 (List.length (fltL (rAt 0 rs b).2)) && AV.isFlt (List.getD (fltL (rAt 0 rs b).2) 1 AV.undef) && (pb (List.getD (setL (rdC 2 m rs) (0 + Int.toNat (↑i : Int) * 1) [AV.slc 1027 0 2]) (0 + Int.toNat b * 1) AV.undef = AV.snap (fltL (rAt 0 rs b).2) 2) && (Nat.blt (0 + Int.toNat b * 1) (List.length (setL (rdC 2 m rs) (0 + Int.toNat (↑i : Int) * 1) [AV.slc 1027 0 2])) && true) && (decide ((0 : Int) ≤ b ∧ b < (↑m : Int)) && (Nat.blt 1 (List.length (fltL (rAt 0 rs a).2)) && AV.isFlt (List.getD (fltL (rAt 0 rs a).2) 1 AV.undef) && (pb (List.getD (setL (rdC 2 m rs) (0 + Int.toNat (↑i : Int) * 1) [AV.slc 1027 0 2]) (0 + Int.toNat a * 1) AV.undef = AV.snap (fltL (rAt 0 rs a).2) 2) && (Nat.blt (0 + Int.toNat a * 1) (List.length (setL (rdC 2 m rs) (0 + Int.toNat (↑i : Int) * 1) [AV.slc 1027 0 2])) && true) && (decide ((0 : Int) ≤ a ∧ a < (↑m : Int)) && (pb (AV.flt (AV.toFlt (List.getD (setL (rvC m rs) (0 + Int.toNat (↑i : Int) * 1) [AV.flt (fsub (rAt 0 rs a).1 (rAt 0 rs b).1)]) (0 + Int.toNat (↑i : Int) * 1) AV.undef)) = AV.flt (valR kF 0 xs rs (TOp.mk (3 : Int) a b c))) && (Nat.blt (0 + Int.toNat (↑i : Int) * 1) (List.length (setL (rvC m rs) (0 + Int.toNat (↑i : Int) * 1) [AV.flt (fsub (rAt 0 rs a).1 (rAt 0 rs b).1)])) && AV.isFlt (List.getD (setL (rvC m rs) (0 + Int.toNat (↑i : Int) * 1) [AV.flt (fsub (rAt 0 rs a).1 (rAt 0 rs b).1)]) (0 + Int.toNat (↑i : Int) * 1) AV.undef)) && (decide ((0 : Int) ≤ (↑i : Int) ∧ (↑i : Int) < (↑m : Int)) && (pb (AV.flt (AV.toFlt (List.getD (setL (rvC m rs) (0 + Int.toNat (↑i : Int) * 1) [AV.flt (fsub (rAt 0 rs a).1 (rAt 0 rs b).1)]) (0 + Int.toNat b * 1) AV.undef)) = AV.flt (rAt 0 rs b).1) && (Nat.blt (0 + Int.toNat b * 1) (List.length (setL (rvC m rs) (0 + Int.toNat (↑i : Int) * 1) [AV.flt (fsub (rAt 0 rs a).1 (rAt 0 rs b).1)])) && AV.isFlt (List.getD (setL (rvC m rs) (0 + Int.toNat (↑i : Int) * 1) [AV.flt (fsub (rAt 0 rs a).1 (rAt 0 rs b).1)]) (0 + Int.toNat b * 1) AV.undef)) && (decide ((0 : Int) ≤ b ∧ b < (↑m : Int)) && (pb (AV.flt (AV.toFlt (List.getD (setL (rvC m rs) (0 + Int.toNat (↑i : Int) * 1) [AV.flt (fsub (rAt 0 rs a).1 (rAt 0 rs b).1)]) (0 + Int.toNat a * 1) AV.undef)) = AV.flt (rAt 0 rs a).1) && (Nat.blt (0 + Int.toNat a * 1) (List.length (setL (rvC m rs) (0 + Int.toNat (↑i : Int) * 1) [AV.flt (fsub (rAt 0 rs a).1 (rAt 0 rs b).1)])) && AV.isFlt (List.getD (setL (rvC m rs) (0 + Int.toNat (↑i : Int) * 1) [AV.flt (fsub (rAt 0 rs a).1 (rAt 0 rs b).1)]) (0 + Int.toNat a * 1) AV.undef)) && (decide ((0 : Int) ≤ a ∧ a < (↑m : Int)) && (pb (List.getD (setL (rdC 2 m rs) (0 + Int.toNat (↑i : Int) * 1) [AV.slc 1027 0 2]) (0 + Int.toNat (↑i : Int) * 1) AV.undef = AV.slc 1027 0 2) && (Nat.blt (0 + Int.toNat (↑i : Int) * 1) (List.length (setL (rdC 2 m rs) (0 + Int.toNat (↑i : Int) * 1) [AV.slc 1027 0 2])) && true) && (decide ((0 : Int) ≤ (↑i : Int) ∧ (↑i : Int) < (↑m : Int)) && (Nat.blt 0 (List.length (fltL (rAt 0 rs b).2)) && AV.isFlt (List.getD (fltL (rAt 0 rs b).2) 0 AV.undef) && (pb (List.getD (setL (rdC 2 m rs) (0 + Int.toNat (↑i : Int) * 1) [AV.slc 1027 0 2]) (0 + Int.toNat b * 1) AV.undef = AV.snap (fltL (rAt 0 rs b).2) 2) && (Nat.blt (0 + Int.toNat b * 1) (List.length (setL (rdC 2 m rs) (0 + Int.toNat (↑i : Int) * 1) [AV.slc 1027 0 2])) && true) && (decide ((0 : Int) ≤ b ∧ b < (↑m : Int)) && (Nat.blt 0 (List.length (fltL (rAt 0 rs a).2)) && AV.isFlt (List.getD (fltL (rAt 0 rs a).2) 0 AV.undef) && (pb (List.getD (setL (rdC 2 m rs) (0 + Int.toNat (↑i : Int) * 1) [AV.slc 1027 0 2]) (0 + Int.toNat a * 1) AV.undef = AV.snap (fltL (rAt 0 rs a).2) 2) && (Nat.blt (0 + Int.toNat a * 1) (List.length (setL (rdC 2 m rs) (0 + Int.toNat (↑i : Int) * 1) [AV.slc 1027 0 2])) && true) && (decide ((0 : Int) ≤ a ∧ a < (↑m : Int)) && (pb (AV.flt (AV.toFlt (List.getD (setL (rvC m rs) (0 + Int.toNat (↑i : Int) * 1) [AV.flt (fsub (rAt 0 rs a).1 (rAt 0 rs b).1)]) (0 + Int.toNat (↑i : Int) * 1) AV.undef)) = AV.flt (valR kF 0 xs rs (TOp.mk (3 : Int) a b c))) && (Nat.blt (0 + Int.toNat (↑i : Int) * 1) (List.length (setL (rvC m rs) (0 + Int.toNat (↑i : Int) * 1) [AV.flt (fsub (rAt 0 rs a).1 (rAt 0 rs b).1)])) && AV.isFlt (List.getD (setL (rvC m rs) (0 + Int.toNat (↑i : Int) * 1) [AV.flt (fsub (rAt 0 rs a).1 (rAt 0 rs b).1)]) (0 + Int.toNat (↑i : Int) * 1) AV.undef)) && (decide ((0 : Int) ≤ (↑i : Int) ∧ (↑i : Int) < (↑m : Int)) && (pb (AV.flt (AV.toFlt (List.getD (setL (rvC m rs) (0 + Int.toNat (↑i : Int) * 1) [AV.flt (fsub (rAt 0 rs a).1 (rAt 0 rs b).1)]) (0 + Int.toNat b * 1) AV.undef)) = AV.flt (rAt 0 rs b).1) && (Nat.blt (0 + Int.toNat b * 1) (List.length (setL (rvC m rs) (0 + Int.toNat (↑i : Int) * 1) [AV.flt (fsub (rAt 0 rs a).1 (rAt 0 rs b).1)])) && AV.isFlt (List.getD (setL (rvC m rs) (0 + Int.toNat (↑i : Int) * 1) [AV.flt (fsub (rAt 0 rs a).1 (rAt 0 rs b).1)]) (0 + Int.toNat b * 1) AV.undef)) && (decide ((0 : Int) ≤ b ∧ b < (↑m : Int)) && (pb (AV.flt (AV.toFlt (List.getD (setL (rvC m rs) (0 + Int.toNat (↑i : Int) * 1) [AV.flt (fsub (rAt 0 rs a).1 (rAt 0 rs b).1)]) (0 + Int.toNat a * 1) AV.undef)) = AV.flt (rAt 0 rs a).1) && (Nat.blt (0 + Int.toNat a * 1) (List.length (setL (rvC m rs) (0 + Int.toNat (↑i : Int) * 1) [AV.flt (fsub (rAt 0 rs a).1 (rAt 0 rs b).1)])) && AV.isFlt (List.getD (setL (rvC m rs) (0 + Int.toNat (↑i : Int) * 1) [AV.flt (fsub (rAt 0 rs a).1 (rAt 0 rs b).1)]) (0 + Int.toNat a * 1) AV.undef)) && (decide ((0 : Int) ≤ a ∧ a < (↑m : Int)) && (pb (List.getD (setL (rdC 2 m rs) (0 + Int.toNat (↑i : Int) * 1) [AV.slc 1027 0 2]) (0 + Int.toNat (↑i : Int) * 1) AV.undef = AV.slc 1027 0 2) && (Nat.blt (0 + Int.toNat (↑i : Int) * 1) (List.length (setL (rdC 2 m rs) (0 + Int.toNat (↑i : Int) * 1) [AV.slc 1027 0 2])) && true) && (decide ((0 : Int) ≤ (↑i : Int) ∧ (↑i : Int) < (↑m : Int)) && (Nat.ble (0 + Int.toNat (↑i : Int) * 1 + 1) (List.length (rvC m rs)) && true && (decide ((0 : Int) ≤ (↑i : Int) ∧ (↑i : Int) < (↑m : Int)) && (pb (AV.flt (AV.toFlt (List.getD (rvC m rs) (0 + Int.toNat b * 1) AV.undef)) = AV.flt (rAt 0 rs b).1) && (Nat.blt (0 + Int.toNat b * 1) (List.length (rvC m rs)) && AV.isFlt (List.getD (rvC m rs) (0 + Int.toNat b * 1) AV.undef)) && (decide ((0 : Int) ≤ b ∧ b < (↑m : Int)) && (pb (AV.flt (AV.toFlt (List.getD (rvC m rs) (0 + Int.toNat a * 1) AV.undef)) = AV.flt (rAt 0 rs a).1) && (Nat.blt (0 + Int.toNat a * 1) (List.length (rvC m rs)) && AV.isFlt (List.getD (rvC m rs) (0 + Int.toNat a * 1) AV.undef)) && (decide ((0 : Int) ≤ a ∧ a < (↑m : Int)) && (Nat.ble (0 + Int.toNat (↑i : Int) * 1 + 1) (List.length (rdC 2 m rs)) && true && (decide ((0 : Int) ≤ (↑i : Int) ∧ (↑i : Int) < (↑m : Int)) && (pb (AV.agg [AV.int IntKind.i64 (AV.toInt (List.getD (opsL ops) (Int.toNat (↑i : Int) * 4) AV.undef)), AV.int IntKind.i64 (AV.toInt (List.getD (opsL ops) (Int.toNat (↑i : Int) * 4 + 1) AV.undef)), AV.int IntKind.i64 (AV.toInt (List.getD (opsL ops) (Int.toNat (↑i : Int) * 4 + 1 + 1) AV.undef)), AV.flt (AV.toFlt (List.getD (opsL ops) (Int.toNat (↑i : Int) * 4 + 1 + 1 + 1) AV.undef))] = AV.agg [AV.int IntKind.i64 3, AV.int IntKind.i64 a, AV.int IntKind.i64 b, AV.flt c]) && (Nat.ble (Int.toNat (↑i : Int) * 4 + 4) (List.length (opsL ops)) && etasOk [Leaf.i IntKind.i64, Leaf.i IntKind.i64, Leaf.i IntKind.i64, Leaf.f] (opsL ops) (Int.toNat (↑i : Int) * 4)) && (decide ((0 : Int) ≤ (↑i : Int) ∧ (↑i : Int) < (↑m : Int)) && (decide ((↑i : Int) < (↑m : Int)) && true)))))))))))))))))))))))))))))))))))))))))) = true) : Goes CM w0 191 (eBody) (mk [1,2,5,6,7] [.snap (fltL xs) lx, .ptr 0 0, .slc 1 0 m, .slc 2 0 m, .int .i64 (i : Int)] [⟨[.int .i64 2, .snap (opsL ops) m, .snap (intL outs) 2], 53⟩, ⟨rvC m rs, 24⟩, ⟨rdC 2 m rs, 34⟩] dec0) Ex.normal (mk [1,2,5,6,7] [AV.snap (fltL xs) lx, AV.ptr 0 0, AV.slc 1 0 m, AV.slc 2 0 m, AV.int IntKind.i64 (IntKind.wrap IntKind.i64 ((↑i : Int) + (1 : Int)))] [ABlk.mk [AV.int IntKind.i64 2, AV.snap (opsL ops) m, AV.snap (intL outs) 2] 53, ABlk.mk (rvC m (rs ++ [stepR kF 0 2 xs rs (TOp.mk (3 : Int) a b c)])) 24, ABlk.mk (rdC 2 m (rs ++ [stepR kF 0 2 xs rs (TOp.mk (3 : Int) a b c)])) 34] dec1) :=
  goes_re (dec := [true]) (goes_O (l := [(31, .agg [.int .i64 3, .int .i64 a, .int .i64 b, .flt c]), (135, .slc 1027 0 2), (143, .flt (rAt 0 rs a).v), (148, .flt (rAt 0 rs b).v), (152, .flt (valR kF 0 xs rs ⟨3, a, b, c⟩)), (157, .snap (fltL (rAt 0 rs a).d) 2), (165, .snap (fltL (rAt 0 rs b).d) 2), (102, .flt (rAt 0 rs a).v), (107, .flt (rAt 0 rs b).v)]) (goes_viewK' (ctxO_ok OM _) mixed (qs := [24]) (fuel := 8) [.lit, .giv (rvC m (rs ++ [stepR kF 0 2 xs rs ⟨3, a, b, c⟩])) [], .giv (rdC 2 m (rs ++ [stepR kF 0 2 xs rs ⟨3, a, b, c⟩])) [1027], .frzGiv (fltL (stepR kF 0 2 xs rs ⟨3, a, b, c⟩).d) []] (by kernel_rfl) hok dec1))
theorem eI2_4 (xs : List Nat) (lx : Nat) (ops : List TOp) (m : Nat) (outs : List Int) (rs : List (Rg Nat)) (i : Nat) (a b : Int) (c : Nat) (w0 : World) (dec0 dec1 : List Bool) (hok : ((pb (SubP true [] [] 0 [AV.flt (fadd (fmul (AV.toFlt (List.getD (fltL (rAt 0 rs a).2) 0 AV.undef)) (rAt 0 rs b).1) (fmul (rAt 0 rs a).1 (AV.toFlt (List.getD (fltL (rAt 0 rs b).2) 0 AV.undef)))), AV.flt (fadd (fmul (AV.toFlt (List.getD (fltL (rAt 0 rs a).2) 1 AV.undef)) (rAt 0 rs b).1) (fmul (rAt 0 rs a).1 (AV.toFlt (List.getD (fltL (rAt 0 rs b).2) 1 AV.undef))))] [AV.flt (slopeR kF 0 rs (TOp.mk (4 : Int) a b c) (valR kF 0 xs rs (TOp.mk (4 : Int) a b c)) 0), AV.flt (slopeR kF 0 rs (TOp.mk (4 : Int) a b c) (valR kF 0 xs rs (TOp.mk (4 : Int) a b c)) 1)]) && true && (pb (SubP true [(1027, [AV.flt (slopeR kF 0 rs (TOp.mk (4 : Int) a b c) (valR kF 0 xs rs (TOp.mk (4 : Int) a b c)) 0), AV.flt (slopeR kF 0 rs (TOp.mk (4 : Int) a b c) (valR kF 0 xs rs (TOp.mk (4 : Int) a b c)) 1)])] [0, 1, 2] 0 (setL (rvC m rs) (0 + Int.toNat (↑i : Int) * 1) [AV.flt (fmul (rAt 0 rs a).1 (rAt 0 rs b).1)]) (rvC m (rs ++ [stepR kF 0 2 xs rs (TOp.mk (4 : Int) a b c)]))) && (pb (SubP true [(1027, [AV.flt (slopeR kF 0 rs (TOp.mk (4 : Int) a b c) (valR kF 0 xs rs (TOp.mk (4 : Int) a b c)) 0), AV.flt (slopeR kF 0 rs (TOp.mk (4 : Int) a b c) (valR kF 0 xs rs (TOp.mk (4 : Int) a b c)) 1)])] [0, 1, 2] 0 (setL (rdC 2 m rs) (0 + Int.toNat (↑i : Int) * 1) [AV.slc 1027 0 2]) (rdC 2 m (rs ++ [stepR kF 0 2 xs rs (TOp.mk (4 : Int) a b c)]))) && true) && (Nat.blt 1 (List.length (fltL (rAt 0 rs b).2)) && AV.isFlt (List.getD (fltL (rAt 0 rs b).2) 1 AV.undef) && (pb (List.getD (setL (rdC 2 m rs) (0 + Int.toNat (↑i : Int) * 1) [AV.slc 1027 0 2]) (0 + Int.toNat b * 1) AV.undef = AV.snap (fltL (rAt 0 rs b).2) 2) && (Nat.blt (0 + Int.toNat b * 1) (List.length (setL (rdC 2 m rs) (0 + Int.toNat (↑i : Int) * 1) [AV.slc 1027 0 2])) && true) && (decide ((0 : Int) ≤ b ∧ b < (↑m : Int)) && (Nat.blt 1 (List.length (fltL (rAt 0 rs a).2)) && AV.isFlt (List.getD (fltL (rAt 0 rs a).2) 1 AV.undef) && (pb (List.getD (setL (rdC 2 m rs) (0 + Int.toNat (↑i : Int) * 1) [AV.slc 1027 0 2]) (0 + Int.toNat a * 1) AV.undef = AV.snap (fltL (rAt 0 rs a).2) 2) && (Nat.blt (0 + Int.toNat a * 1) (List.length (setL (rdC 2 m rs) (0 + Int.toNat (↑i : Int) * 1) [AV.slc 1027 0 2])) && true) && (decide ((0 : Int) ≤ a ∧ a < (↑m : Int)) && (pb (AV.flt (AV.toFlt (List.getD (setL (rvC m rs) (0 + Int.toNat (↑i : Int) * 1) [AV.flt (fmul (rAt 0 rs a).1 (rAt 0 rs b).1)]) (0 + Int.toNat (↑i : Int) * 1) AV.undef)) = AV.flt (valR kF 0 xs rs (TOp.mk (4 : Int) a b c))) && (Nat.blt (0 + Int.toNat (↑i : Int) * 1) (List.length (setL (rvC m rs) (0 + Int.toNat (↑i : Int) * 1) [AV.flt (fmul (rAt 0 rs a).1 (rAt 0 rs b).1)])) && AV.isFlt (List.getD (setL (rvC m rs) (0 + Int.toNat (↑i : Int) * 1) [AV.flt (fmul (rAt 0 rs a).1 (rAt 0 rs b).1)]) (0 + Int.toNat (↑i : Int) * 1) AV.undef)) && (decide ((0 : Int) ≤ (↑i : Int) ∧ (↑i : Int) < (↑m : Int)) && (pb (AV.flt (AV.toFlt (List.getD (setL (rvC m rs) (0 + Int.toNat (↑i : Int) * 1) [AV.flt (fmul (rAt 0 rs a).1 (rAt 0 rs b).1)]) (0 + Int.toNat b * 1) AV.undef)) = AV.flt (rAt 0 rs b).1) && (Nat.blt (0 + Int.toNat b * 1) (List.length (setL (rvC m rs) (0 + Int.toNat (↑i : Int) * 1) [AV.flt (fmul (rAt 0 rs a).1 (rAt 0 rs b).1)])) && AV.isFlt (List.getD (setL (rvC m rs) (0 + Int.toNat (↑i : Int) * 1) [AV.flt (fmul (rAt 0 rs a).1 (rAt 0 rs b).1)]) (0 + Int.toNat b * 1) AV.undef)) && (decide ((0 : Int) ≤ b ∧ b < (↑m : Int)) && (pb (AV.flt (AV.toFlt (List.getD (setL (rvC m rs) (0 + Int.toNat (↑i : Int) * 1) [AV.flt (fmul (rAt 0 rs a).1 (rAt 0 rs b).1)]) (0 + Int.toNat a * 1) AV.undef)) = AV.flt (rAt 0 rs a).1) && (Nat.blt (0 + Int.toNat a * 1) (List.length (setL (rvC m rs) (0 + Int.toNat (↑i : Int) * 1) [AV.flt (fmul (rAt 0 rs a).1 (rAt 0 rs b).1)])) && AV.isFlt (List.getD (setL (rvC m rs) (0 + Int.toNat (↑i : Int) * 1) [AV.flt (fmul (rAt 0 rs a).1 (rAt 0 rs b).1)]) (0 + Int.toNat a * 1) AV.undef)) && (decide ((0 : Int) ≤ a ∧ a < (↑m : Int)) && (pb (List.getD (setL (rdC 2 m rs) (0 + Int.toNat (↑i : Int) * 1) [AV.slc 1027 0 2]) (0 + Int.toNat (↑i : Int) * 1) AV.undef = AV.slc 1027 0 2) && (Nat.blt (0 + Int.toNat (↑i : Int) * 1) (List.length (setL (rdC 2 m rs) (0 + Int.toNat (↑i : Int) * 1) [AV.slc 1027 0 2])) && true) && (decide ((0 : Int) ≤ (↑i : Int) ∧ (↑i : Int) < (↑m : Int)) && (Nat.blt 0 (List.length (fltL (rAt 0 rs b).2)) && AV.isFlt (List.getD (fltL (rAt 0 rs b).2) 0 AV.undef) && (pb (List.getD (setL (rdC 2 m rs) (0 + Int.toNat (↑i : Int) * 1) [AV.slc 1027 0 2]) (0 + Int.toNat b * 1) AV.undef = AV.snap (fltL (rAt 0 rs b).2) 2) && (Nat.blt (0 + Int.toNat b * 1) (List.length (setL (rdC 2 m rs) (0 + Int.toNat (↑i : Int) * 1) [AV.slc 1027 0 2])) && true) && (decide ((0 : Int) ≤ b ∧ b < (↑m : Int)) && (Nat.blt 0 (List.length (fltL (rAt 0 rs a).2)) && AV.isFlt (List.getD (fltL (rAt 0 rs a).2) 0 AV.undef) && (pb (List.getD (setL (rdC 2 m rs) (0 + Int.toNat (↑i : Int) * 1) [AV.slc 1027 0 2]) (0 + Int.toNat a * 1) AV.undef = AV.snap (fltL (rAt 0 rs a).2) 2) && (Nat.blt (0 + Int.toNat a * 1) (List.length (setL (rdC 2 m rs) (0 + Int.toNat (↑i : Int) * 1) [AV.slc 1027 0 2])) && true) && (decide ((0 : Int) ≤ a ∧ a < (↑m : Int)) && (pb (AV.flt (AV.toFlt (List.getD (setL (rvC m rs) (0 + Int.toNat (↑i : Int) * 1) [AV.flt (fmul (rAt 0 rs a).1 (rAt 0 rs b).1)]) (0 + Int.toNat (↑i : Int) * 1) AV.undef)) = AV.flt (valR kF 0 xs rs (TOp.mk (4 : Int) a b c))) && (Nat.blt (0 + Int.toNat (↑i : Int) * 1) (List.length (setL (rvC m rs) (0 + Int.toNat (↑i : Int) * 1) [AV.flt (fmul (rAt 0 rs a).1 (rAt 0 rs b).1)])) && AV.isFlt (List.getD (setL (rvC m rs) (0 + Int.toNat (↑i : Int) * 1) [AV.flt (fmul (rAt 0 rs a).1 (rAt 0 rs b).1)]) (0 + Int.toNat (↑i : Int) * 1) AV.undef)) && (decide ((0 : Int) ≤ (↑i : Int) ∧ (↑i : Int) < (↑m : Int)) && (pb (AV.flt (AV.toFlt (List.getD (setL (rvC m rs) (0 + Int.toNat (↑i : Int) * 1) [AV.flt (fmul (rAt 0 rs a).1 (rAt 0 rs b).1)]) (0 + Int.toNat b * 1) AV.undef)) = AV.flt (rAt 0 rs b).1) && (Nat.blt (0 + Int.toNat b * 1) (List.length (setL (rvC m rs) (0 + Int.toNat (↑i : Int) * 1) [AV.flt (fmul (rAt 0 rs a).1 (rAt 0 rs b).1)])) && AV.isFlt (List.getD (setL (rvC m rs) (0 + Int.toNat (↑i : Int) * 1) [AV.flt (fmul (rAt 0 rs a).1 (rAt 0 rs b).1)]) (0 + Int.toNat b * 1) AV.undef)) && (decide ((0 : Int) ≤ b ∧ b < (↑m : Int)) && (pb (AV.flt (AV.toFlt (List.getD (setL (rvC m rs) (0 + Int.toNat (↑i : Int) * 1) [AV.flt (fmul (rAt 0 rs a).1 (rAt 0 rs b).1)]) (0 + Int.toNat a * 1) AV.undef)) = AV.flt (rAt 0 rs a).1) && (Nat.blt (0 + Int.toNat a * 1) (List.length (setL (rvC m rs) (0 + Int.toNat (↑i : Int) * 1) [AV.flt (fmul (rAt 0 rs a).1 (rAt 0 rs b).1)])) && AV.isFlt (List.getD (setL (rvC m rs) (0 + Int.toNat (↑i : Int) * 1) [AV.flt (fmul (rAt 0 rs a).1 (rAt 0 rs b).1)]) (0 + Int.toNat a * 1) AV.undef)) && (decide ((0 : Int) ≤ a ∧ a < (↑m : Int)) && (pb (List.getD (setL (rdC 2 m rs) (0 + Int.toNat (↑i : Int) * 1) [AV.slc 1027 0 2]) (0 + Int.toNat (↑i : Int) * 1) AV.undef = AV.slc 1027 0 2) && (Nat.blt (0 + Int.toNat (↑i : Int) * 1) (List.length (setL (rdC 2 m rs) (0 + Int.toNat (↑i : Int) * 1) [AV.slc 1027 0 2])) && true) && (decide ((0 : Int) ≤ (↑i : Int) ∧ (↑i : Int) < (↑m : Int)) && (Nat.ble (0 + Int.toNat (↑i : Int) * 1 + 1) (List.length (rvC m rs)) && true && (decide ((0 : Int) ≤ (↑i : Int) ∧ (↑i : Int) < (↑m : Int)) && (pb (AV.flt (AV.toFlt (List.getD (rvC m rs) (0 + Int.toNat b * 1) AV.undef)) = AV.flt (rAt 0 rs b).1) && (Nat.blt (0 + Int.toNat b * 1) (List.length (rvC m rs)) && AV.isFlt (List.getD (rvC m rs) (0 + Int.toNat b * 1) AV.undef)) && (decide ((0 : Int) ≤ b ∧ b < (↑m : Int)) && (pb (AV.flt (AV.toFlt (List.getD (rvC m rs) (0 + Int.toNat a * 1) AV.undef)) = AV.flt (rAt 0 rs a).1) && (Nat.blt (0 + Int.toNat a * 1) (List.length (rvC m rs)) && AV.isFlt (List.getD (rvC m rs) (0 + Int.toNat a * 1) AV.undef)) && (decide ((0 : Int) ≤ a ∧ a < (↑m : Int)) && (Nat.ble (0 + Int.toNat (↑i : Int) * 1 + 1) (List.length (rdC 2 m rs)) && true && (decide ((0 : Int) ≤ (↑i : Int) ∧ (↑i : Int) < (↑m : Int)) && (pb (AV.agg [AV.int IntKind.i64 (AV.toInt (List.getD (opsL ops) (Int.toNat (↑i : Int) * 4) AV.undef)), AV.int IntKind.i64 (AV.toInt (List.getD (opsL ops) (Int.toNat (↑i : Int) * 4 + 1) AV.undef)), AV.int IntKind.i64 (AV.toInt (List.getD (opsL ops) (Int.toNat (↑i : Int) * 4 + 1 + 1) AV.undef)), AV.flt (AV.toFlt (List.getD (opsL ops) (Int.toNat (↑i : Int) * 4 + 1 + 1 + 1) AV.undef))] = AV.agg [AV.int IntKind.i64 4, AV.int IntKind.i64 a, AV.int IntKind.i64 b, AV.flt c]) && (Nat.ble (Int.toNat (↑i : Int) * 4 + 4) (List.length (opsL ops)) && etasOk [Leaf.i IntKind.i64, Leaf.i IntKind.i64, Leaf.i IntKind.i64, Leaf.f] (opsL ops) (Int.toNat (↑i : Int) * 4)) && (decide ((0 : Int) ≤ (↑i : Int) ∧ (↑i : Int) < (↑m : Int)) && (decide ((↑i : Int) < (↑m : Int)) && true)))))))))))))))))))))))))))))))))))))))))) = true) : Goes CM w0 191 (eBody) (mk [1,2,5,6,7] [.snap (fltL xs) lx, .ptr 0 0, .slc 1 0 m, .slc 2 0 m, .int .i64 (i : Int)] [⟨[.int .i64 2, .snap (opsL ops) m, .snap (intL outs) 2], 53⟩, ⟨rvC m rs, 24⟩, ⟨rdC 2 m rs, 34⟩] dec0) Ex.normal (mk [1,2,5,6,7] [AV.snap (fltL xs) lx, AV.ptr 0 0, AV.slc 1 0 m, AV.slc 2 0 m, AV.int IntKind.i64 (IntKind.wrap IntKind.i64 ((↑i : Int) + (1 : Int)))] [ABlk.mk [AV.int IntKind.i64 2, AV.snap (opsL ops) m, AV.snap (intL outs) 2] 53, ABlk.mk (rvC m (rs ++ [stepR kF 0 2 xs rs (TOp.mk (4 : Int) a b c)])) 24, ABlk.mk (rdC 2 m (rs ++ [stepR kF 0 2 xs rs (TOp.mk (4 : Int) a b c)])) 34] dec1) :=
  goes_re (dec := [true]) (goes_O (l := [(31, .agg [.int .i64 4, .int .i64 a, .int .i64 b, .flt c]), (135, .slc 1027 0 2), (143, .flt (rAt 0 rs a).v), (148, .flt (rAt 0 rs b).v), (152, .flt (valR kF 0 xs rs ⟨4, a, b, c⟩)), (157, .snap (fltL (rAt 0 rs a).d) 2), (165, .snap (fltL (rAt 0 rs b).d) 2), (118, .flt (rAt 0 rs a).v), (123, .flt (rAt 0 rs b).v)]) (goes_viewK' (ctxO_ok OM _) mixed (qs := [24]) (fuel := 8) [.lit, .giv (rvC m (rs ++ [stepR kF 0 2 xs rs ⟨4, a, b, c⟩])) [], .giv (rdC 2 m (rs ++ [stepR kF 0 2 xs rs ⟨4, a, b, c⟩])) [1027], .frzGiv (fltL (stepR kF 0 2 xs rs ⟨4, a, b, c⟩).d) []] (by kernel_rfl) hok dec1))
theorem eI2_5 (xs : List Nat) (lx : Nat) (ops : List TOp) (m : Nat) (outs : List Int) (rs : List (Rg Nat)) (i : Nat) (a b : Int) (c : Nat) (w0 : World) (dec0 dec1 : List Bool) (hok : ((pb (SubP true [] [] 0 [AV.flt (fdiv (fsub (AV.toFlt (List.getD (fltL (rAt 0 rs a).2) 0 AV.undef)) (fmul (valR kF 0 xs rs (TOp.mk (5 : Int) a b c)) (AV.toFlt (List.getD (fltL (rAt 0 rs b).2) 0 AV.undef)))) (rAt 0 rs b).1), AV.flt (fdiv (fsub (AV.toFlt (List.getD (fltL (rAt 0 rs a).2) 1 AV.undef)) (fmul (valR kF 0 xs rs (TOp.mk (5 : Int) a b c)) (AV.toFlt (List.getD (fltL (rAt 0 rs b).2) 1 AV.undef)))) (rAt 0 rs b).1)] [AV.flt (slopeR kF 0 rs (TOp.mk (5 : Int) a b c) (valR kF 0 xs rs (TOp.mk (5 : Int) a b c)) 0), AV.flt (slopeR kF 0 rs (TOp.mk (5 : Int) a b c) (valR kF 0 xs rs (TOp.mk (5 : Int) a b c)) 1)]) && true && (pb (SubP true [(1027, [AV.flt (slopeR kF 0 rs (TOp.mk (5 : Int) a b c) (valR kF 0 xs rs (TOp.mk (5 : Int) a b c)) 0), AV.flt (slopeR kF 0 rs (TOp.mk (5 : Int) a b c) (valR kF 0 xs rs (TOp.mk (5 : Int) a b c)) 1)])] [0, 1, 2] 0 (setL (rvC m rs) (0 + Int.toNat (↑i : Int) * 1) [AV.flt (fdiv (rAt 0 rs a).1 (rAt 0 rs b).1)]) (rvC m (rs ++ [stepR kF 0 2 xs rs (TOp.mk (5 : Int) a b c)]))) && (pb (SubP true [(1027, [AV.flt (slopeR kF 0 rs (TOp.mk (5 : Int) a b c) (valR kF 0 xs rs (TOp.mk (5 : Int) a b c)) 0), AV.flt (slopeR kF 0 rs (TOp.mk (5 : Int) a b c) (valR kF 0 xs rs (TOp.mk (5 : Int) a b c)) 1)])] [0, 1, 2] 0 (setL (rdC 2 m rs) (0 + Int.toNat (↑i : Int) * 1) [AV.slc 1027 0 2]) (rdC 2 m (rs ++ [stepR kF 0 2 xs rs (TOp.mk (5 : Int) a b c)]))) && true) && (Nat.blt 1 (List.length (fltL (rAt 0 rs b).2)) && AV.isFlt (List.getD (fltL (rAt 0 rs b).2) 1 AV.undef) && (pb (List.getD (setL (rdC 2 m rs) (0 + Int.toNat (↑i : Int) * 1) [AV.slc 1027 0 2]) (0 + Int.toNat b * 1) AV.undef = AV.snap (fltL (rAt 0 rs b).2) 2) && (Nat.blt (0 + Int.toNat b * 1) (List.length (setL (rdC 2 m rs) (0 + Int.toNat (↑i : Int) * 1) [AV.slc 1027 0 2])) && true) && (decide ((0 : Int) ≤ b ∧ b < (↑m : Int)) && (Nat.blt 1 (List.length (fltL (rAt 0 rs a).2)) && AV.isFlt (List.getD (fltL (rAt 0 rs a).2) 1 AV.undef) && (pb (List.getD (setL (rdC 2 m rs) (0 + Int.toNat (↑i : Int) * 1) [AV.slc 1027 0 2]) (0 + Int.toNat a * 1) AV.undef = AV.snap (fltL (rAt 0 rs a).2) 2) && (Nat.blt (0 + Int.toNat a * 1) (List.length (setL (rdC 2 m rs) (0 + Int.toNat (↑i : Int) * 1) [AV.slc 1027 0 2])) && true) && (decide ((0 : Int) ≤ a ∧ a < (↑m : Int)) && (pb (AV.flt (AV.toFlt (List.getD (setL (rvC m rs) (0 + Int.toNat (↑i : Int) * 1) [AV.flt (fdiv (rAt 0 rs a).1 (rAt 0 rs b).1)]) (0 + Int.toNat (↑i : Int) * 1) AV.undef)) = AV.flt (valR kF 0 xs rs (TOp.mk (5 : Int) a b c))) && (Nat.blt (0 + Int.toNat (↑i : Int) * 1) (List.length (setL (rvC m rs) (0 + Int.toNat (↑i : Int) * 1) [AV.flt (fdiv (rAt 0 rs a).1 (rAt 0 rs b).1)])) && AV.isFlt (List.getD (setL (rvC m rs) (0 + Int.toNat (↑i : Int) * 1) [AV.flt (fdiv (rAt 0 rs a).1 (rAt 0 rs b).1)]) (0 + Int.toNat (↑i : Int) * 1) AV.undef)) && (decide ((0 : Int) ≤ (↑i : Int) ∧ (↑i : Int) < (↑m : Int)) && (pb (AV.flt (AV.toFlt (List.getD (setL (rvC m rs) (0 + Int.toNat (↑i : Int) * 1) [AV.flt (fdiv (rAt 0 rs a).1 (rAt 0 rs b).1)]) (0 + Int.toNat b * 1) AV.undef)) = AV.flt (rAt 0 rs b).1) && (Nat.blt (0 + Int.toNat b * 1) (List.length (setL (rvC m rs) (0 + Int.toNat (↑i : Int) * 1) [AV.flt (fdiv (rAt 0 rs a).1 (rAt 0 rs b).1)])) && AV.isFlt (List.getD (setL (rvC m rs) (0 + Int.toNat (↑i : Int) * 1) [AV.flt (fdiv (rAt 0 rs a).1 (rAt 0 rs b).1)]) (0 + Int.toNat b * 1) AV.undef)) && (decide ((0 : Int) ≤ b ∧ b < (↑m : Int)) && (pb (AV.flt (AV.toFlt (List.getD (setL (rvC m rs) (0 + Int.toNat (↑i : Int) * 1) [AV.flt (fdiv (rAt 0 rs a).1 (rAt 0 rs b).1)]) (0 + Int.toNat a * 1) AV.undef)) = AV.flt (rAt 0 rs a).1) && (Nat.blt (0 + Int.toNat a * 1) (List.length (setL (rvC m rs) (0 + Int.toNat (↑i : Int) * 1) [AV.flt (fdiv (rAt 0 rs a).1 (rAt 0 rs b).1)])) && AV.isFlt (List.getD (setL (rvC m rs) (0 + Int.toNat (↑i : Int) * 1) [AV.flt (fdiv (rAt 0 rs a).1 (rAt 0 rs b).1)]) (0 + Int.toNat a * 1) AV.undef)) && (decide ((0 : Int) ≤ a ∧ a < (↑m : Int)) && (pb (List.getD (setL (rdC 2 m rs) (0 + Int.toNat (↑i : Int) * 1) [AV.slc 1027 0 2]) (0 + Int.toNat (↑i : Int) * 1) AV.undef = AV.slc 1027 0 2) && (Nat.blt (0 + Int.toNat (↑i : Int) * 1) (List.length (setL (rdC 2 m rs) (0 + Int.toNat (↑i : Int) * 1) [AV.slc 1027 0 2])) && true) && (decide ((0 : Int) ≤ (↑i : Int) ∧ (↑i : Int) < (↑m : Int)) && (Nat.blt 0 (List.length (fltL (rAt 0 rs b).2)) && AV.isFlt (List.getD (fltL (rAt 0 rs b).2) 0 AV.undef) && (pb (List.getD (setL (rdC 2 m rs) (0 + Int.toNat (↑i : Int) * 1) [AV.slc 1027 0 2]) (0 + Int.toNat b * 1) AV.undef = AV.snap (fltL (rAt 0 rs b).2) 2) && (Nat.blt (0 + Int.toNat b * 1) (List.length (setL (rdC 2 m rs) (0 + Int.toNat (↑i : Int) * 1) [AV.slc 1027 0 2])) && true) && (decide ((0 : Int) ≤ b ∧ b < (↑m : Int)) && (Nat.blt 0 (List.length (fltL (rAt 0 rs a).2)) && AV.isFlt (List.getD (fltL (rAt 0 rs a).2) 0 AV.undef) && (pb (List.getD (setL (rdC 2 m rs) (0 + Int.toNat (↑i : Int) * 1) [AV.slc 1027 0 2]) (0 + Int.toNat a * 1) AV.undef = AV.snap (fltL (rAt 0 rs a).2) 2) && (Nat.blt (0 + Int.toNat a * 1) (List.length (setL (rdC 2 m rs) (0 + Int.toNat (↑i : Int) * 1) [AV.slc 1027 0 2])) && true) && (decide ((0 : Int) ≤ a ∧ a < (↑m : Int)) && (pb (AV.flt (AV.toFlt (List.getD (setL (rvC m rs) (0 + Int.toNat (↑i : Int) * 1) [AV.flt (fdiv (rAt 0 rs a).1 (rAt 0 rs b).1)]) (0 + Int.toNat (↑i : Int) * 1) AV.undef)) = AV.flt (valR kF 0 xs rs (TOp.mk (5 : Int) a b c))) && (Nat.blt (0 + Int.toNat (↑i : Int) * 1) (List.length (setL (rvC m rs) (0 + Int.toNat (↑i : Int) * 1) [AV.flt (fdiv (rAt 0 rs a).1 (rAt 0 rs b).1)])) && AV.isFlt (List.getD (setL (rvC m rs) (0 + Int.toNat (↑i : Int) * 1) [AV.flt (fdiv (rAt 0 rs a).1 (rAt 0 rs b).1)]) (0 + Int.toNat (↑i : Int) * 1) AV.undef)) && (decide ((0 : Int) ≤ (↑i : Int) ∧ (↑i : Int) < (↑m : Int)) && (pb (AV.flt (AV.toFlt (List.getD (setL (rvC m rs) (0 + Int.toNat (↑i : Int) * 1) [AV.flt (fdiv (rAt 0 rs a).1 (rAt 0 rs b).1)]) (0 + Int.toNat b * 1) AV.undef)) = AV.flt (rAt 0 rs b).1) && (Nat.blt (0 + Int.toNat b * 1) (List.length (setL (rvC m rs) (0 + Int.toNat (↑i : Int) * 1) [AV.flt (fdiv (rAt 0 rs a).1 (rAt 0 rs b).1)])) && AV.isFlt (List.getD (setL (rvC m rs) (0 + Int.toNat (↑i : Int) * 1) [AV.flt (fdiv (rAt 0 rs a).1 (rAt 0 rs b).1)]) (0 + Int.toNat b * 1) AV.undef)) && (decide ((0 : Int) ≤ b ∧ b < (↑m : Int)) && (pb (AV.flt (AV.toFlt (List.getD (setL (rvC m rs) (0 + Int.toNat (↑i : Int) * 1) [AV.flt (fdiv (rAt 0 rs a).1 (rAt 0 rs b).1)]) (0 + Int.toNat a * 1) AV.undef)) = AV.flt (rAt 0 rs a).1) && (Nat.blt (0 + Int.toNat a * 1) (List.length (setL (rvC m rs) (0 + Int.toNat (↑i : Int) * 1) [AV.flt (fdiv (rAt 0 rs a).1 (rAt 0 rs b).1)])) && AV.isFlt (List.getD (setL (rvC m rs) (0 + Int.toNat (↑i : Int) * 1) [AV.flt (fdiv (rAt 0 rs a).1 (rAt 0 rs b).1)]) (0 + Int.toNat a * 1) AV.undef)) && (decide ((0 : Int) ≤ a ∧ a < (↑m : Int)) && (pb (List.getD (setL (rdC 2 m rs) (0 + Int.toNat (↑i : Int) * 1) [AV.slc 1027 0 2]) (0 + Int.toNat (↑i : Int) * 1) AV.undef = AV.slc 1027 0 2) && (Nat.blt (0 + Int.toNat (↑i : Int) * 1) (List.length (setL (rdC 2 m rs) (0 + Int.toNat (↑i : Int) * 1) [AV.slc 1027 0 2])) && true) && (decide ((0 : Int) ≤ (↑i : Int) ∧ (↑i : Int) < (↑m : Int)) && (Nat.ble (0 + Int.toNat (↑i : Int) * 1 + 1) (List.length (rvC m rs)) && true && (decide ((0 : Int) ≤ (↑i : Int) ∧ (↑i : Int) < (↑m : Int)) && (pb (AV.flt (AV.toFlt (List.getD (rvC m rs) (0 + Int.toNat b * 1) AV.undef)) = AV.flt (rAt 0 rs b).1) && (Nat.blt (0 + Int.toNat b * 1) (List.length (rvC m rs)) && AV.isFlt (List.getD (rvC m rs) (0 + Int.toNat b * 1) AV.undef)) && (decide ((0 : Int) ≤ b ∧ b < (↑m : Int)) && (pb (AV.flt (AV.toFlt (List.getD (rvC m rs) (0 + Int.toNat a * 1) AV.undef)) = AV.flt (rAt 0 rs a).1) && (Nat.blt (0 + Int.toNat a * 1) (List.length (rvC m rs)) && AV.isFlt (List.getD (rvC m rs) (0 + Int.toNat a * 1) AV.undef)) && (decide ((0 : Int) ≤ a ∧ a < (↑m : Int)) && (Nat.ble (0 + Int.toNat (↑i : Int) * 1 + 1) (List.length (rdC 2 m rs)) && true && (decide ((0 : Int) ≤ (↑i : Int) ∧ (↑i : Int) < (↑m : Int)) && (pb (AV.agg [AV.int IntKind.i64 (AV.toInt (List.getD (opsL ops) (Int.toNat (↑i : Int) * 4) AV.undef)), AV.int IntKind.i64 (AV.toInt (List.getD (opsL ops) (Int.toNat (↑i : Int) * 4 + 1) AV.undef)), AV.int IntKind.i64 (AV.toInt (List.getD (opsL ops) (Int.toNat (↑i : Int) * 4 + 1 + 1) AV.undef)), AV.flt (AV.toFlt (List.getD (opsL ops) (Int.toNat (↑i : Int) * 4 + 1 + 1 + 1) AV.undef))] = AV.agg [AV.int IntKind.i64 5, AV.int IntKind.i64 a, AV.int IntKind.i64 b, AV.flt c]) && (Nat.ble (Int.toNat (↑i : Int) * 4 + 4) (List.length (opsL ops)) && etasOk [Leaf.i IntKind.i64, Leaf.i IntKind.i64, Leaf.i IntKind.i64, Leaf.f] (opsL ops) (Int.toNat (↑i : Int) * 4)) && (decide ((0 : Int) ≤ (↑i : Int) ∧ (↑i : Int) < (↑m : Int)) && (decide ((↑i : Int) < (↑m : Int)) && true)))))))))))))))))))))))))))))))))))))))))) = true) : Goes CM w0 191 (eBody) (mk [1,2,5,6,7] [.snap (fltL xs) lx, .ptr 0 0, .slc 1 0 m, .slc 2 0 m, .int .i64 (i : Int)] [⟨[.int .i64 2, .snap (opsL ops) m, .snap (intL outs) 2], 53⟩, ⟨rvC m rs, 24⟩, ⟨rdC 2 m rs, 34⟩] dec0) Ex.normal (mk [1,2,5,6,7] [AV.snap (fltL xs) lx, AV.ptr 0 0, AV.slc 1 0 m, AV.slc 2 0 m, AV.int IntKind.i64 (IntKind.wrap IntKind.i64 ((↑i : Int) + (1 : Int)))] [ABlk.mk [AV.int IntKind.i64 2, AV.snap (opsL ops) m, AV.snap (intL outs) 2] 53, ABlk.mk (rvC m (rs ++ [stepR kF 0 2 xs rs (TOp.mk (5 : Int) a b c)])) 24, ABlk.mk (rdC 2 m (rs ++ [stepR kF 0 2 xs rs (TOp.mk (5 : Int) a b c)])) 34] dec1) :=
  goes_re (dec := [true]) (goes_O (l := [(31, .agg [.int .i64 5, .int .i64 a, .int .i64 b, .flt c]), (135, .slc 1027 0 2), (143, .flt (rAt 0 rs a).v), (148, .flt (rAt 0 rs b).v), (152, .flt (valR kF 0 xs rs ⟨5, a, b, c⟩)), (157, .snap (fltL (rAt 0 rs a).d) 2), (165, .snap (fltL (rAt 0 rs b).d) 2), (46, .flt (rAt 0 rs a).v), (51, .flt (rAt 0 rs b).v)]) (goes_viewK' (ctxO_ok OM _) mixed (qs := [24]) (fuel := 8) [.lit, .giv (rvC m (rs ++ [stepR kF 0 2 xs rs ⟨5, a, b, c⟩])) [], .giv (rdC 2 m (rs ++ [stepR kF 0 2 xs rs ⟨5, a, b, c⟩])) [1027], .frzGiv (fltL (stepR kF 0 2 xs rs ⟨5, a, b, c⟩).d) []] (by kernel_rfl) hok dec1))
theorem eX2 (xs : List Nat) (lx : Nat) (ops : List TOp) (m : Nat) (outs : List Int) (rs : List (Rg Nat)) (i : Nat) (w0 : World) (dec0 dec1 : List Bool) (hok : (((List.all (rdC 2 m rs) AV.noOwn) && true && (!decide ((↑i : Int) < (↑m : Int)) && true))) = true) : Goes CM w0 191 (eBody) (mk [1,2,5,6,7] [.snap (fltL xs) lx, .ptr 0 0, .slc 1 0 m, .slc 2 0 m, .int .i64 (i : Int)] [⟨[.int .i64 2, .snap (opsL ops) m, .snap (intL outs) 2], 53⟩, ⟨rvC m rs, 24⟩, ⟨rdC 2 m rs, 34⟩] dec0) (Ex.exit 0) (mk [2,6] [AV.ptr 0 0, AV.snap (rdC 2 m rs) m] [ABlk.mk [AV.int IntKind.i64 2, AV.snap (opsL ops) m, AV.snap (intL outs) 2] 53] dec1) :=
  goes_re (dec := [false]) (goes_viewK' OM mixed (qs := [24]) (fuel := 8) [.lit, .frzFlat] (by kernel_rfl) hok dec1)
theorem eZ2 (xs : List Nat) (lx : Nat) (ops : List TOp) (m : Nat) (outs : List Int) (rs : List (Rg Nat)) (i : Nat) (w0 : World) (dec0 dec1 : List Bool) (hok : (((List.all ([] ++ List.take (AV.sLen (List.getD (rdC 2 m rs) (Int.toNat (AV.toInt (List.getD (intL outs) 0 AV.undef)) * 1) AV.undef) * 1) (AV.sCells (List.getD (rdC 2 m rs) (Int.toNat (AV.toInt (List.getD (intL outs) 0 AV.undef)) * 1) AV.undef))) AV.noOwn) && ((List.all ([] ++ List.take (AV.sLen (List.getD (rdC 2 m rs) (Int.toNat (AV.toInt (List.getD (intL outs) 1 AV.undef)) * 1) AV.undef) * 1) (AV.sCells (List.getD (rdC 2 m rs) (Int.toNat (AV.toInt (List.getD (intL outs) 1 AV.undef)) * 1) AV.undef))) AV.noOwn) && true) && (Nat.ble (AV.sLen (List.getD (rdC 2 m rs) (Int.toNat (AV.toInt (List.getD (intL outs) 1 AV.undef)) * 1) AV.undef) * 1) (List.length (AV.sCells (List.getD (rdC 2 m rs) (Int.toNat (AV.toInt (List.getD (intL outs) 1 AV.undef)) * 1) AV.undef))) && List.all (List.take (AV.sLen (List.getD (rdC 2 m rs) (Int.toNat (AV.toInt (List.getD (intL outs) 1 AV.undef)) * 1) AV.undef) * 1) (AV.sCells (List.getD (rdC 2 m rs) (Int.toNat (AV.toInt (List.getD (intL outs) 1 AV.undef)) * 1) AV.undef))) AV.one && decide (0 = 0 ∧ (0 + AV.sLen (List.getD (rdC 2 m rs) (Int.toNat (AV.toInt (List.getD (intL outs) 1 AV.undef)) * 1) AV.undef)) * 8 ≤ 140737488355328 ∧ 0 + AV.sLen (List.getD (rdC 2 m rs) (Int.toNat (AV.toInt (List.getD (intL outs) 1 AV.undef)) * 1) AV.undef) ≤ 9223372036854775807) && (Nat.blt (Int.toNat (AV.toInt (List.getD (intL outs) 1 AV.undef)) * 1) (List.length (rdC 2 m rs)) && AV.isSn (List.getD (rdC 2 m rs) (Int.toNat (AV.toInt (List.getD (intL outs) 1 AV.undef)) * 1) AV.undef) && (decide ((0 : Int) ≤ AV.toInt (List.getD (intL outs) 1 AV.undef) ∧ AV.toInt (List.getD (intL outs) 1 AV.undef) < (↑m : Int)) && (Nat.blt 1 (List.length (intL outs)) && AV.isInt IntKind.i64 (List.getD (intL outs) 1 AV.undef) && (Nat.ble (AV.sLen (List.getD (rdC 2 m rs) (Int.toNat (AV.toInt (List.getD (intL outs) 0 AV.undef)) * 1) AV.undef) * 1) (List.length (AV.sCells (List.getD (rdC 2 m rs) (Int.toNat (AV.toInt (List.getD (intL outs) 0 AV.undef)) * 1) AV.undef))) && List.all (List.take (AV.sLen (List.getD (rdC 2 m rs) (Int.toNat (AV.toInt (List.getD (intL outs) 0 AV.undef)) * 1) AV.undef) * 1) (AV.sCells (List.getD (rdC 2 m rs) (Int.toNat (AV.toInt (List.getD (intL outs) 0 AV.undef)) * 1) AV.undef))) AV.one && decide (0 = 0 ∧ (0 + AV.sLen (List.getD (rdC 2 m rs) (Int.toNat (AV.toInt (List.getD (intL outs) 0 AV.undef)) * 1) AV.undef)) * 8 ≤ 140737488355328 ∧ 0 + AV.sLen (List.getD (rdC 2 m rs) (Int.toNat (AV.toInt (List.getD (intL outs) 0 AV.undef)) * 1) AV.undef) ≤ 9223372036854775807) && (Nat.blt (Int.toNat (AV.toInt (List.getD (intL outs) 0 AV.undef)) * 1) (List.length (rdC 2 m rs)) && AV.isSn (List.getD (rdC 2 m rs) (Int.toNat (AV.toInt (List.getD (intL outs) 0 AV.undef)) * 1) AV.undef) && (decide ((0 : Int) ≤ AV.toInt (List.getD (intL outs) 0 AV.undef) ∧ AV.toInt (List.getD (intL outs) 0 AV.undef) < (↑m : Int)) && (Nat.blt 0 (List.length (intL outs)) && AV.isInt IntKind.i64 (List.getD (intL outs) 0 AV.undef) && true)))))))))) = true) : Goes CM w0 191 (cR (cR (cR (cR eC)))) (mk [2,6] [.ptr 0 0, .snap (rdC 2 m rs) m] [⟨[.int .i64 2, .snap (opsL ops) m, .snap (intL outs) 2], 53⟩] dec0) Ex.ret (mk [4] [AV.slc 0 0 2] [ABlk.mk [AV.slc 1 0 (0 + AV.sLen (List.getD (rdC 2 m rs) (Int.toNat (AV.toInt (List.getD (intL outs) 0 AV.undef)) * 1) AV.undef)), AV.slc 2 0 (0 + AV.sLen (List.getD (rdC 2 m rs) (Int.toNat (AV.toInt (List.getD (intL outs) 1 AV.undef)) * 1) AV.undef))] 34, ABlk.mk ([] ++ List.take (AV.sLen (List.getD (rdC 2 m rs) (Int.toNat (AV.toInt (List.getD (intL outs) 0 AV.undef)) * 1) AV.undef) * 1) (AV.sCells (List.getD (rdC 2 m rs) (Int.toNat (AV.toInt (List.getD (intL outs) 0 AV.undef)) * 1) AV.undef))) 24, ABlk.mk ([] ++ List.take (AV.sLen (List.getD (rdC 2 m rs) (Int.toNat (AV.toInt (List.getD (intL outs) 1 AV.undef)) * 1) AV.undef) * 1) (AV.sCells (List.getD (rdC 2 m rs) (Int.toNat (AV.toInt (List.getD (intL outs) 1 AV.undef)) * 1) AV.undef))) 24] dec1) :=
  goes_re (dec := []) (goes_viewK' OM mixed (qs := []) (fuel := 8) [.lit, .flat, .flat] (by kernel_rfl) hok dec1)
theorem eA3 (xs : List Nat) (lx : Nat) (ops : List TOp) (m : Nat) (outs : List Int) (w0 : World) (dec1 : List Bool) : Goes CM w0 191 (cL eC) (St0 [.agg [.int .i64 3, .snap (opsL ops) m, .snap (intL outs) 3], .snap (fltL xs) lx] []) Ex.normal (mk [1,2] [AV.snap (fltL xs) lx, AV.ptr 0 0] [ABlk.mk [AV.int IntKind.i64 3, AV.snap (opsL ops) m, AV.snap (intL outs) 3] 53] dec1) :=
  goes_viewK' OM mixed (qs := []) (fuel := 8) [.lit] (by kernel_rfl) rfl dec1
theorem eB3 (xs : List Nat) (lx : Nat) (ops : List TOp) (m : Nat) (outs : List Int) (w0 : World) (dec0 dec1 : List Bool) (hok : (((List.all (List.replicate (Int.toNat (↑m : Int)) (AV.flt 0)) AV.noOwn) && true && (decide ((0 : Int) ≤ (↑m : Int) ∧ (↑m : Int) ≤ (↑m : Int) ∧ (8 : Int) * (↑m : Int) ≤ (281474976710656 : Int) ∧ (↑m : Int) ≤ (9223372036854775807 : Int)) && true))) = true) : Goes CM w0 191 (cL (cR eC)) (mk [1,2] [.snap (fltL xs) lx, .ptr 0 0] [⟨[.int .i64 3, .snap (opsL ops) m, .snap (intL outs) 3], 53⟩] dec0) Ex.normal (mk [1,2,5] [AV.snap (fltL xs) lx, AV.ptr 0 0, AV.slc 1 0 (Int.toNat (↑m : Int))] [ABlk.mk [AV.int IntKind.i64 3, AV.snap (opsL ops) m, AV.snap (intL outs) 3] 53, ABlk.mk (List.replicate (Int.toNat (↑m : Int)) (AV.flt 0)) 24] dec1) :=
  goes_re (dec := []) (goes_viewK' OM mixed (qs := []) (fuel := 8) [.lit, .flat] (by kernel_rfl) hok dec1)
theorem eD3 (xs : List Nat) (lx : Nat) (ops : List TOp) (m : Nat) (outs : List Int) (r0 : List AV) (w0 : World) (dec0 dec1 : List Bool) (hok : (((List.all r0 AV.noOwn) && ((List.all (List.replicate (Int.toNat (↑m : Int)) AV.nils) AV.noOwn) && true) && (decide ((0 : Int) ≤ (↑m : Int) ∧ (↑m : Int) ≤ (↑m : Int) ∧ (24 : Int) * (↑m : Int) ≤ (281474976710656 : Int) ∧ (↑m : Int) ≤ (9223372036854775807 : Int)) && true))) = true) : Goes CM w0 191 (cL (cR (cR eC))) (mk [1,2,5] [.snap (fltL xs) lx, .ptr 0 0, .slc 1 0 m] [⟨[.int .i64 3, .snap (opsL ops) m, .snap (intL outs) 3], 53⟩, ⟨r0, 24⟩] dec0) Ex.normal (mk [1,2,5,6] [AV.snap (fltL xs) lx, AV.ptr 0 0, AV.slc 1 0 m, AV.slc 2 0 (Int.toNat (↑m : Int))] [ABlk.mk [AV.int IntKind.i64 3, AV.snap (opsL ops) m, AV.snap (intL outs) 3] 53, ABlk.mk r0 24, ABlk.mk (List.replicate (Int.toNat (↑m : Int)) AV.nils) 34] dec1) :=
  goes_re (dec := []) (goes_viewK' OM mixed (qs := []) (fuel := 8) [.lit, .flat, .flat] (by kernel_rfl) hok dec1)
theorem eE3 (xs : List Nat) (lx : Nat) (ops : List TOp) (m : Nat) (outs : List Int) (r0 d0 : List AV) (w0 : World) (dec0 dec1 : List Bool) (hok : (((List.all r0 AV.noOwn) && ((List.all d0 AV.noOwn) && true) && true)) = true) : Goes CM w0 191 (cL (cL (cR (cR (cR eC))))) (mk [1,2,5,6] [.snap (fltL xs) lx, .ptr 0 0, .slc 1 0 m, .slc 2 0 m] [⟨[.int .i64 3, .snap (opsL ops) m, .snap (intL outs) 3], 53⟩, ⟨r0, 24⟩, ⟨d0, 34⟩] dec0) Ex.normal (mk [1,2,5,6,7] [AV.snap (fltL xs) lx, AV.ptr 0 0, AV.slc 1 0 m, AV.slc 2 0 m, AV.int IntKind.i64 0] [ABlk.mk [AV.int IntKind.i64 3, AV.snap (opsL ops) m, AV.snap (intL outs) 3] 53, ABlk.mk r0 24, ABlk.mk d0 34] dec1) :=
  goes_re (dec := []) (goes_viewK' OM mixed (qs := []) (fuel := 8) [.lit, .flat, .flat] (by kernel_rfl) hok dec1)
theorem eI3_0 (xs : List Nat) (lx : Nat) (ops : List TOp) (m : Nat) (outs : List Int) (rs : List (Rg Nat)) (i : Nat) (a b : Int) (c : Nat) (w0 : World) (dec0 dec1 : List Bool) (hok : ((pb (SubP true [] [] 0 [AV.flt 0, AV.flt 0, AV.flt 0] [AV.flt 0, AV.flt 0, AV.flt 0]) && true && (pb (SubP true [(1027, [AV.flt 0, AV.flt 0, AV.flt 0])] [0, 1, 2] 0 (setL (rvC m rs) (0 + Int.toNat (↑i : Int) * 1) [AV.flt c]) (rvC m (rs ++ [stepR kF 0 3 xs rs (TOp.mk (0 : Int) a b c)]))) && (pb (SubP true [(1027, [AV.flt 0, AV.flt 0, AV.flt 0])] [0, 1, 2] 0 (setL (rdC 3 m rs) (0 + Int.toNat (↑i : Int) * 1) [AV.slc 1027 0 3]) (rdC 3 m (rs ++ [stepR kF 0 3 xs rs (TOp.mk (0 : Int) a b c)]))) && true) && (Nat.ble (0 + Int.toNat (↑i : Int) * 1 + 1) (List.length (rvC m rs)) && true && (decide ((0 : Int) ≤ (↑i : Int) ∧ (↑i : Int) < (↑m : Int)) && (Nat.ble (0 + Int.toNat (↑i : Int) * 1 + 1) (List.length (rdC 3 m rs)) && true && (decide ((0 : Int) ≤ (↑i : Int) ∧ (↑i : Int) < (↑m : Int)) && (pb (AV.agg [AV.int IntKind.i64 (AV.toInt (List.getD (opsL ops) (Int.toNat (↑i : Int) * 4) AV.undef)), AV.int IntKind.i64 (AV.toInt (List.getD (opsL ops) (Int.toNat (↑i : Int) * 4 + 1) AV.undef)), AV.int IntKind.i64 (AV.toInt (List.getD (opsL ops) (Int.toNat (↑i : Int) * 4 + 1 + 1) AV.undef)), AV.flt (AV.toFlt (List.getD (opsL ops) (Int.toNat (↑i : Int) * 4 + 1 + 1 + 1) AV.undef))] = AV.agg [AV.int IntKind.i64 0, AV.int IntKind.i64 a, AV.int IntKind.i64 b, AV.flt c]) && (Nat.ble (Int.toNat (↑i : Int) * 4 + 4) (List.length (opsL ops)) && etasOk [Leaf.i IntKind.i64, Leaf.i IntKind.i64, Leaf.i IntKind.i64, Leaf.f] (opsL ops) (Int.toNat (↑i : Int) * 4)) && (decide ((0 : Int) ≤ (↑i : Int) ∧ (↑i : Int) < (↑m : Int)) && (decide ((↑i : Int) < (↑m : Int)) && true)))))))))) = true) : Goes CM w0 191 (eBody) (mk [1,2,5,6,7] [.snap (fltL xs) lx, .ptr 0 0, .slc 1 0 m, .slc 2 0 m, .int .i64 (i : Int)] [⟨[.int .i64 3, .snap (opsL ops) m, .snap (intL outs) 3], 53⟩, ⟨rvC m rs, 24⟩, ⟨rdC 3 m rs, 34⟩] dec0) Ex.normal (mk [1,2,5,6,7] [AV.snap (fltL xs) lx, AV.ptr 0 0, AV.slc 1 0 m, AV.slc 2 0 m, AV.int IntKind.i64 (IntKind.wrap IntKind.i64 ((↑i : Int) + (1 : Int)))] [ABlk.mk [AV.int IntKind.i64 3, AV.snap (opsL ops) m, AV.snap (intL outs) 3] 53, ABlk.mk (rvC m (rs ++ [stepR kF 0 3 xs rs (TOp.mk (0 : Int) a b c)])) 24, ABlk.mk (rdC 3 m (rs ++ [stepR kF 0 3 xs rs (TOp.mk (0 : Int) a b c)])) 34] dec1) :=
  goes_re (dec := [true]) (goes_O (l := [(31, .agg [.int .i64 0, .int .i64 a, .int .i64 b, .flt c])]) (goes_viewK' (ctxO_ok OM _) mixed (qs := [24]) (fuel := 8) [.lit, .giv (rvC m (rs ++ [stepR kF 0 3 xs rs ⟨0, a, b, c⟩])) [], .giv (rdC 3 m (rs ++ [stepR kF 0 3 xs rs ⟨0, a, b, c⟩])) [1027], .frzGiv (fltL (stepR kF 0 3 xs rs ⟨0, a, b, c⟩).d) []] (by kernel_rfl) hok dec1))
theorem eI3_1 (xs : List Nat) (lx : Nat) (ops : List TOp) (m : Nat) (outs : List Int) (rs : List (Rg Nat)) (i : Nat) (a b : Int) (c : Nat) (w0 : World) (dec0 dec1 : List Bool) (hok : ((pb (SubP true [] [] 0 (setL [AV.flt 0, AV.flt 0, AV.flt 0] (0 + Int.toNat a * 1) [AV.flt 4607182418800017408]) [AV.flt (slopeR kF 0 rs (TOp.mk (1 : Int) a b c) (valR kF 0 xs rs (TOp.mk (1 : Int) a b c)) 0), AV.flt (slopeR kF 0 rs (TOp.mk (1 : Int) a b c) (valR kF 0 xs rs (TOp.mk (1 : Int) a b c)) 1), AV.flt (slopeR kF 0 rs (TOp.mk (1 : Int) a b c) (valR kF 0 xs rs (TOp.mk (1 : Int) a b c)) 2)]) && true && (pb (SubP true [(1027, [AV.flt (slopeR kF 0 rs (TOp.mk (1 : Int) a b c) (valR kF 0 xs rs (TOp.mk (1 : Int) a b c)) 0), AV.flt (slopeR kF 0 rs (TOp.mk (1 : Int) a b c) (valR kF 0 xs rs (TOp.mk (1 : Int) a b c)) 1), AV.flt (slopeR kF 0 rs (TOp.mk (1 : Int) a b c) (valR kF 0 xs rs (TOp.mk (1 : Int) a b c)) 2)])] [0, 1, 2] 0 (setL (rvC m rs) (0 + Int.toNat (↑i : Int) * 1) [AV.flt (List.getD xs (Int.toNat a) 0)]) (rvC m (rs ++ [stepR kF 0 3 xs rs (TOp.mk (1 : Int) a b c)]))) && (pb (SubP true [(1027, [AV.flt (slopeR kF 0 rs (TOp.mk (1 : Int) a b c) (valR kF 0 xs rs (TOp.mk (1 : Int) a b c)) 0), AV.flt (slopeR kF 0 rs (TOp.mk (1 : Int) a b c) (valR kF 0 xs rs (TOp.mk (1 : Int) a b c)) 1), AV.flt (slopeR kF 0 rs (TOp.mk (1 : Int) a b c) (valR kF 0 xs rs (TOp.mk (1 : Int) a b c)) 2)])] [0, 1, 2] 0 (setL (rdC 3 m rs) (0 + Int.toNat (↑i : Int) * 1) [AV.slc 1027 0 3]) (rdC 3 m (rs ++ [stepR kF 0 3 xs rs (TOp.mk (1 : Int) a b c)]))) && true) && (Nat.ble (0 + Int.toNat a * 1 + 1) 3 && true && (decide ((0 : Int) ≤ a ∧ a < (3 : Int)) && (Nat.ble (0 + Int.toNat (↑i : Int) * 1 + 1) (List.length (rvC m rs)) && true && (decide ((0 : Int) ≤ (↑i : Int) ∧ (↑i : Int) < (↑m : Int)) && (pb (AV.flt (AV.toFlt (List.getD (fltL xs) (Int.toNat a * 1) AV.undef)) = AV.flt (List.getD xs (Int.toNat a) 0)) && (Nat.blt (Int.toNat a * 1) (List.length (fltL xs)) && AV.isFlt (List.getD (fltL xs) (Int.toNat a * 1) AV.undef)) && (decide ((0 : Int) ≤ a ∧ a < (↑lx : Int)) && (pb (List.getD (setL (rdC 3 m rs) (0 + Int.toNat (↑i : Int) * 1) [AV.slc 1027 0 3]) (0 + Int.toNat (↑i : Int) * 1) AV.undef = AV.slc 1027 0 3) && (Nat.blt (0 + Int.toNat (↑i : Int) * 1) (List.length (setL (rdC 3 m rs) (0 + Int.toNat (↑i : Int) * 1) [AV.slc 1027 0 3])) && true) && (decide ((0 : Int) ≤ (↑i : Int) ∧ (↑i : Int) < (↑m : Int)) && (Nat.ble (0 + Int.toNat (↑i : Int) * 1 + 1) (List.length (rdC 3 m rs)) && true && (decide ((0 : Int) ≤ (↑i : Int) ∧ (↑i : Int) < (↑m : Int)) && (pb (AV.agg [AV.int IntKind.i64 (AV.toInt (List.getD (opsL ops) (Int.toNat (↑i : Int) * 4) AV.undef)), AV.int IntKind.i64 (AV.toInt (List.getD (opsL ops) (Int.toNat (↑i : Int) * 4 + 1) AV.undef)), AV.int IntKind.i64 (AV.toInt (List.getD (opsL ops) (Int.toNat (↑i : Int) * 4 + 1 + 1) AV.undef)), AV.flt (AV.toFlt (List.getD (opsL ops) (Int.toNat (↑i : Int) * 4 + 1 + 1 + 1) AV.undef))] = AV.agg [AV.int IntKind.i64 1, AV.int IntKind.i64 a, AV.int IntKind.i64 b, AV.flt c]) && (Nat.ble (Int.toNat (↑i : Int) * 4 + 4) (List.length (opsL ops)) && etasOk [Leaf.i IntKind.i64, Leaf.i IntKind.i64, Leaf.i IntKind.i64, Leaf.f] (opsL ops) (Int.toNat (↑i : Int) * 4)) && (decide ((0 : Int) ≤ (↑i : Int) ∧ (↑i : Int) < (↑m : Int)) && (decide ((↑i : Int) < (↑m : Int)) && true)))))))))))))))) = true) : Goes CM w0 191 (eBody) (mk [1,2,5,6,7] [.snap (fltL xs) lx, .ptr 0 0, .slc 1 0 m, .slc 2 0 m, .int .i64 (i : Int)] [⟨[.int .i64 3, .snap (opsL ops) m, .snap (intL outs) 3], 53⟩, ⟨rvC m rs, 24⟩, ⟨rdC 3 m rs, 34⟩] dec0) Ex.normal (mk [1,2,5,6,7] [AV.snap (fltL xs) lx, AV.ptr 0 0, AV.slc 1 0 m, AV.slc 2 0 m, AV.int IntKind.i64 (IntKind.wrap IntKind.i64 ((↑i : Int) + (1 : Int)))] [ABlk.mk [AV.int IntKind.i64 3, AV.snap (opsL ops) m, AV.snap (intL outs) 3] 53, ABlk.mk (rvC m (rs ++ [stepR kF 0 3 xs rs (TOp.mk (1 : Int) a b c)])) 24, ABlk.mk (rdC 3 m (rs ++ [stepR kF 0 3 xs rs (TOp.mk (1 : Int) a b c)])) 34] dec1) :=
  goes_re (dec := [true]) (goes_O (l := [(31, .agg [.int .i64 1, .int .i64 a, .int .i64 b, .flt c]), (68, .slc 1027 0 3), (75, .flt (xs.getD a.toNat 0))]) (goes_viewK' (ctxO_ok OM _) mixed (qs := [24]) (fuel := 8) [.lit, .giv (rvC m (rs ++ [stepR kF 0 3 xs rs ⟨1, a, b, c⟩])) [], .giv (rdC 3 m (rs ++ [stepR kF 0 3 xs rs ⟨1, a, b, c⟩])) [1027], .frzGiv (fltL (stepR kF 0 3 xs rs ⟨1, a, b, c⟩).d) []] (by kernel_rfl) hok dec1))
theorem eI3_2 (xs : List Nat) (lx : Nat) (ops : List TOp) (m : Nat) (outs : List Int) (rs : List (Rg Nat)) (i : Nat) (a b : Int) (c : Nat) (w0 : World) (dec0 dec1 : List Bool) (hok : ((pb (SubP true [] [] 0 [AV.flt (fadd (AV.toFlt (List.getD (fltL (rAt 0 rs a).2) 0 AV.undef)) (AV.toFlt (List.getD (fltL (rAt 0 rs b).2) 0 AV.undef))), AV.flt (fadd (AV.toFlt (List.getD (fltL (rAt 0 rs a).2) 1 AV.undef)) (AV.toFlt (List.getD (fltL (rAt 0 rs b).2) 1 AV.undef))), AV.flt (fadd (AV.toFlt (List.getD (fltL (rAt 0 rs a).2) 2 AV.undef)) (AV.toFlt (List.getD (fltL (rAt 0 rs b).2) 2 AV.undef)))] [AV.flt (slopeR kF 0 rs (TOp.mk (2 : Int) a b c) (valR kF 0 xs rs (TOp.mk (2 : Int) a b c)) 0), AV.flt (slopeR kF 0 rs (TOp.mk (2 : Int) a b c) (valR kF 0 xs rs (TOp.mk (2 : Int) a b c)) 1), AV.flt (slopeR kF 0 rs (TOp.mk (2 : Int) a b c) (valR kF 0 xs rs (TOp.mk (2 : Int) a b c)) 2)]) && true && (pb (SubP true [(1027, [AV.flt (slopeR kF 0 rs (TOp.mk (2 : Int) a b c) (valR kF 0 xs rs (TOp.mk (2 : Int) a b c)) 0), AV.flt (slopeR kF 0 rs (TOp.mk (2 : Int) a b c) (valR kF 0 xs rs (TOp.mk (2 : Int) a b c)) 1), AV.flt (slopeR kF 0 rs (TOp.mk (2 : Int) a b c) (valR kF 0 xs rs (TOp.mk (2 : Int) a b c)) 2)])] [0, 1, 2] 0 (setL (rvC m rs) (0 + Int.toNat (↑i : Int) * 1) [AV.flt (fadd (rAt 0 rs a).1 (rAt 0 rs b).1)]) (rvC m (rs ++ [stepR kF 0 3 xs rs (TOp.mk (2 : Int) a b c)]))) && (pb (SubP true [(1027, [AV.flt (slopeR kF 0 rs (TOp.mk (2 : Int) a b c) (valR kF 0 xs rs (TOp.mk (2 : Int) a b c)) 0), AV.flt (slopeR kF 0 rs (TOp.mk (2 : Int) a b c) (valR kF 0 xs rs (TOp.mk (2 : Int) a b c)) 1), AV.flt (slopeR kF 0 rs (TOp.mk (2 : Int) a b c) (valR kF 0 xs rs (TOp.mk (2 : Int) a b c)) 2)])] [0, 1, 2] 0 (setL (rdC 3 m rs) (0 + Int.toNat (↑i : Int) * 1) [AV.slc 1027 0 3]) (rdC 3 m (rs ++ [stepR kF 0 3 xs rs (TOp.mk (2 : Int) a b c)]))) && true) && (Nat.blt 2 (List.length (fltL (rAt 0 rs b).2)) && AV.isFlt (List.getD (fltL (rAt 0 rs b).2) 2 AV.undef) && (pb (List.getD (setL (rdC 3 m rs) (0 + Int.toNat (↑i : Int) * 1) [AV.slc 1027 0 3]) (0 + Int.toNat b * 1) AV.undef = AV.snap (fltL (rAt 0 rs b).2) 3) && (Nat.blt (0 + Int.toNat b * 1) (List.length (setL (rdC 3 m rs) (0 + Int.toNat (↑i : Int) * 1) [AV.slc 1027 0 3])) && true) && (decide ((0 : Int) ≤ b ∧ b < (↑m : Int)) && (Nat.blt 2 (List.length (fltL (rAt 0 rs a).2)) && AV.isFlt (List.getD (fltL (rAt 0 rs a).2) 2 AV.undef) && (pb (List.getD (setL (rdC 3 m rs) (0 + Int.toNat (↑i : Int) * 1) [AV.slc 1027 0 3]) (0 + Int.toNat a * 1) AV.undef = AV.snap (fltL (rAt 0 rs a).2) 3) && (Nat.blt (0 + Int.toNat a * 1) (List.length (setL (rdC 3 m rs) (0 + Int.toNat (↑i : Int) * 1) [AV.slc 1027 0 3])) && true) && (decide ((0 : Int) ≤ a ∧ a < (↑m : Int)) && (pb (AV.flt (AV.toFlt (List.getD (setL (rvC m rs) (0 + Int.toNat (↑i : Int) * 1) [AV.flt (fadd (rAt 0 rs a).1 (rAt 0 rs b).1)]) (0 + Int.toNat (↑i : Int) * 1) AV.undef)) = AV.flt (valR kF 0 xs rs (TOp.mk (2 : Int) a b c))) && (Nat.blt (0 + Int.toNat (↑i : Int) * 1) (List.length (setL (rvC m rs) (0 + Int.toNat (↑i : Int) * 1) [AV.flt (fadd (rAt 0 rs a).1 (rAt 0 rs b).1)])) && AV.isFlt (List.getD (setL (rvC m rs) (0 + Int.toNat (↑i : Int) * 1) [AV.flt (fadd (rAt 0 rs a).1 (rAt 0 rs b).1)]) (0 + Int.toNat (↑i : Int) * 1) AV.undef)) && (decide ((0 : Int) ≤ (↑i : Int) ∧ (↑i : Int) < (↑m : Int)) && (pb (AV.flt (AV.toFlt (List.getD (setL (rvC m rs) (0 + Int.toNat (↑i : Int) * 1) [AV.flt (fadd (rAt 0 rs a).1 (rAt 0 rs b).1)]) (0 + Int.toNat b * 1) AV.undef)) = AV.flt (rAt 0 rs b).1) && (Nat.blt (0 + Int.toNat b * 1) (List.length (setL (rvC m rs) (0 + Int.toNat (↑i : Int) * 1) [AV.flt (fadd (rAt 0 rs a).1 (rAt 0 rs b).1)])) && AV.isFlt (List.getD (setL (rvC m rs) (0 + Int.toNat (↑i : Int) * 1) [AV.flt (fadd (rAt 0 rs a).1 (rAt 0 rs b).1)]) (0 + Int.toNat b * 1) AV.undef)) && (decide ((0 : Int) ≤ b ∧ b < (↑m : Int)) && (pb (AV.flt (AV.toFlt (List.getD (setL (rvC m rs) (0 + Int.toNat (↑i : Int) * 1) [AV.flt (fadd (rAt 0 rs a).1 (rAt 0 rs b).1)]) (0 + Int.toNat a * 1) AV.undef)) = AV.flt (rAt 0 rs a).1) && (Nat.blt (0 + Int.toNat a * 1) (List.length (setL (rvC m rs) (0 + Int.toNat (↑i : Int) * 1) [AV.flt (fadd (rAt 0 rs a).1 (rAt 0 rs b).1)])) && AV.isFlt (List.getD (setL (rvC m rs) (0 + Int.toNat (↑i : Int) * 1) [AV.flt (fadd (rAt 0 rs a).1 (rAt 0 rs b).1)]) (0 + Int.toNat a * 1) AV.undef)) && (decide ((0 : Int) ≤ a ∧ a < (↑m : Int)) && (pb (List.getD (setL (rdC 3 m rs) (0 + Int.toNat (↑i : Int) * 1) [AV.slc 1027 0 3]) (0 + Int.toNat (↑i : Int) * 1) AV.undef = AV.slc 1027 0 3) && (Nat.blt (0 + Int.toNat (↑i : Int) * 1) (List.length (setL (rdC 3 m rs) (0 + Int.toNat (↑i : Int) * 1) [AV.slc 1027 0 3])) && true) && (decide ((0 : Int) ≤ (↑i : Int) ∧ (↑i : Int) < (↑m : Int)) && (Nat.blt 1 (List.length (fltL (rAt 0 rs b).2)) && AV.isFlt (List.getD (fltL (rAt 0 rs b).2) 1 AV.undef) && (pb (List.getD (setL (rdC 3 m rs) (0 + Int.toNat (↑i : Int) * 1) [AV.slc 1027 0 3]) (0 + Int.toNat b * 1) AV.undef = AV.snap (fltL (rAt 0 rs b).2) 3) && (Nat.blt (0 + Int.toNat b * 1) (List.length (setL (rdC 3 m rs) (0 + Int.toNat (↑i : Int) * 1) [AV.slc 1027 0 3])) && true) && (decide ((0 : Int) ≤ b ∧ b < (↑m : Int)) && (Nat.blt 1 (List.length (fltL (rAt 0 rs a).2)) && AV.isFlt (List.getD (fltL (rAt 0 rs a).2) 1 AV.undef) && (pb (List.getD (setL (rdC 3 m rs) (0 + Int.toNat (↑i : Int) * 1) [AV.slc 1027 0 3]) (0 + Int.toNat a * 1) AV.undef = AV.snap (fltL (rAt 0 rs a).2) 3) && (Nat.blt (0 + Int.toNat a * 1) (List.length (setL (rdC 3 m rs) (0 + Int.toNat (↑i : Int) * 1) [AV.slc 1027 0 3])) && true) && (decide ((0 : Int) ≤ a ∧ a < (↑m : Int)) && (pb (AV.flt (AV.toFlt (List.getD (setL (rvC m rs) (0 + Int.toNat (↑i : Int) * 1) [AV.flt (fadd (rAt 0 rs a).1 (rAt 0 rs b).1)]) (0 + Int.toNat (↑i : Int) * 1) AV.undef)) = AV.flt (valR kF 0 xs rs (TOp.mk (2 : Int) a b c))) && (Nat.blt (0 + Int.toNat (↑i : Int) * 1) (List.length (setL (rvC m rs) (0 + Int.toNat (↑i : Int) * 1) [AV.flt (fadd (rAt 0 rs a).1 (rAt 0 rs b).1)])) && AV.isFlt (List.getD (setL (rvC m rs) (0 + Int.toNat (↑i : Int) * 1) [AV.flt (fadd (rAt 0 rs a).1 (rAt 0 rs b).1)]) (0 + Int.toNat (↑i : Int) * 1) AV.undef)) && (decide ((0 : Int) ≤ (↑i : Int) ∧ (↑i : Int) < (↑m : Int)) && (pb (AV.flt (AV.toFlt (List.getD (setL (rvC m rs) (0 + Int.toNat (↑i : Int) * 1) [AV.flt (fadd (rAt 0 rs a).1 (rAt 0 rs b).1)]) (0 + Int.toNat b * 1) AV.undef)) = AV.flt (rAt 0 rs b).1) && (Nat.blt (0 + Int.toNat b * 1) (List.length (setL (rvC m rs) (0 + Int.toNat (↑i : Int) * 1) [AV.flt (fadd (rAt 0 rs a).1 (rAt 0 rs b).1)])) && AV.isFlt (List.getD (setL (rvC m rs) (0 + Int.toNat (↑i : Int) * 1) [AV.flt (fadd (rAt 0 rs a).1 (rAt 0 rs b).1)]) (0 + Int.toNat b * 1) AV.undef)) && (decide ((0 : Int) ≤ b ∧ b < (↑m : Int)) && (pb (AV.flt (AV.toFlt (List.getD (setL (rvC m rs) (0 + Int.toNat (↑i : Int) * 1) [AV.flt (fadd (rAt 0 rs a).1 (rAt 0 rs b).1)]) (0 + Int.toNat a * 1) AV.undef)) = AV.flt (rAt 0 rs a).1) && (Nat.blt (0 + Int.toNat a * 1) (List.length (setL (rvC m rs) (0 + Int.toNat (↑i : Int) * 1) [AV.flt (fadd (rAt 0 rs a).1 (rAt 0 rs b).1)])) && AV.isFlt (List.getD (setL (rvC m rs) (0 + Int.toNat (↑i : Int) * 1) [AV.flt (fadd (rAt 0 rs a).1 (rAt 0 rs b).1)]) (0 + Int.toNat a * 1) AV.undef)) && (decide ((0 : Int) ≤ a ∧ a < (↑m : Int)) && (pb (List.getD (setL (rdC 3 m rs) (0 + Int.toNat (↑i : Int) * 1) [AV.slc 1027 0 3]) (0 + Int.toNat (↑i : Int) * 1) AV.undef = AV.slc 1027 0 3) && (Nat.blt (0 + Int.toNat (↑i : Int) * 1) (List.length (setL (rdC 3 m rs) (0 + Int.toNat (↑i : Int) * 1) [AV.slc 1027 0 3])) && true) && (decide ((0 : Int) ≤ (↑i : Int) ∧ (↑i : Int) < (↑m : Int)) && (Nat.blt 0 (List.length (fltL (rAt 0 rs b).2)) && AV.isFlt (List.getD (fltL (rAt 0 rs b).2) 0 AV.undef) && (pb (List.getD (setL (rdC 3 m rs) (0 + Int.toNat (↑i : Int) * 1) [AV.slc 1027 0 3]) (0 + Int.toNat b * 1) AV.undef = AV.snap (fltL (rAt 0 rs b).2) 3) && (Nat.blt (0 + Int.toNat b * 1) (List.length (setL (rdC 3 m rs) (0 + Int.toNat (↑i : Int) * 1) [AV.slc 1027 0 3])) && true) && (decide ((0 : Int) ≤ b ∧ b < (↑m : Int)) && (Nat.blt 0 (List.length (fltL (rAt 0 rs a).2)) && AV.isFlt (List.getD (fltL (rAt 0 rs a).2) 0 AV.undef) && (pb (List.getD (setL (rdC 3 m rs) (0 + Int.toNat (↑i : Int) * 1) [AV.slc 1027 0 3]) (0 + Int.toNat a * 1) AV.undef = AV.snap (fltL (rAt 0 rs a).2) 3) && (Nat.blt (0 + Int.toNat a * 1) (List.length (setL (rdC 3 m rs) (0 + Int.toNat (↑i : Int) * 1) [AV.slc 1027 0 3])) && true) && (decide ((0 : Int) ≤ a ∧ a < (↑m : Int)) && (pb (AV.flt (AV.toFlt (List.getD (setL (rvC m rs) (0 + Int.toNat (↑i : Int) * 1) [AV.flt (fadd (rAt 0 rs a).1 (rAt 0 rs b).1)]) (0 + Int.toNat (↑i : Int) * 1) AV.undef)) = AV.flt (valR kF 0 xs rs (TOp.mk (2 : Int) a b c))) && (Nat.blt (0 + Int.toNat (↑i : Int) * 1) (List.length (setL (rvC m rs) (0 + Int.toNat (↑i : Int) * 1) [AV.flt (fadd (rAt 0 rs a).1 (rAt 0 rs b).1)])) && AV.isFlt (List.getD (setL (rvC m rs) (0 + Int.toNat (↑i : Int) * 1) [AV.flt (fadd (rAt 0 rs a).1 (rAt 0 rs b).1)]) (0 + Int.toNat (↑i : Int) * 1) AV.undef)) && (decide ((0 : Int) ≤ (↑i : Int) ∧ (↑i : Int) < (↑m : Int)) && (pb (AV.flt (AV.toFlt (List.getD (setL (rvC m rs) (0 + Int.toNat (↑i : Int) * 1) [AV.flt (fadd (rAt 0 rs a).1 (rAt 0 rs b).1)]) (0 + Int.toNat b * 1) AV.undef)) = AV.flt (rAt 0 rs b).1) && (Nat.blt (0 + Int.toNat b * 1) (List.length (setL (rvC m rs) (0 + Int.toNat (↑i : Int) * 1) [AV.flt (fadd (rAt 0 rs a).1 (rAt 0 rs b).1)])) && AV.isFlt (List.getD (setL (rvC m rs) (0 + Int.toNat (↑i : Int) * 1) [AV.flt (fadd (rAt 0 rs a).1 (rAt 0 rs b).1)]) (0 + Int.toNat b * 1) AV.undef)) && (decide ((0 : Int) ≤ b ∧ b < (↑m : Int)) && (pb (AV.flt (AV.toFlt (List.getD (setL (rvC m rs) (0 + Int.toNat (↑i : Int) * 1) [AV.flt (fadd (rAt 0 rs a).1 (rAt 0 rs b).1)]) (0 + Int.toNat a * 1) AV.undef)) = AV.flt (rAt 0 rs a).1) && (Nat.blt (0 + Int.toNat a * 1) (List.length (setL (rvC m rs) (0 + Int.toNat (↑i : Int) * 1) [AV.flt (fadd (rAt 0 rs a).1 (rAt 0 rs b).1)])) && AV.isFlt (List.getD (setL (rvC m rs) (0 + Int.toNat (↑i : Int) * 1) [AV.flt (fadd (rAt 0 rs a).1 (rAt 0 rs b).1)]) (0 + Int.toNat a * 1) AV.undef)) && (decide ((0 : Int) ≤ a ∧ a < (↑m : Int)) && (pb (List.getD (setL (rdC 3 m rs) (0 + Int.toNat (↑i : Int) * 1) [AV.slc 1027 0 3]) (0 + Int.toNat (↑i : Int) * 1) AV.undef = AV.slc 1027 0 3) && (Nat.blt (0 + Int.toNat (↑i : Int) * 1) (List.length (setL (rdC 3 m rs) (0 + Int.toNat (↑i : Int) * 1) [AV.slc 1027 0 3])) && true) && (decide ((0 : Int) ≤ (↑i : Int) ∧ (↑i : Int) < (↑m : Int)) && (Nat.ble (0 + Int.toNat (↑i : Int) * 1 + 1) (List.length (rvC m rs)) && true && (decide ((0 : Int) ≤ (↑i : Int) ∧ (↑i : Int) < (↑m : Int)) && (pb (AV.flt (AV.toFlt (List.getD (rvC m rs) (0 + Int.toNat b * 1) AV.undef)) = AV.flt (rAt 0 rs b).1) && (Nat.blt (0 + Int.toNat b * 1) (List.length (rvC m rs)) && AV.isFlt (List.getD (rvC m rs) (0 + Int.toNat b * 1) AV.undef)) && (decide ((0 : Int) ≤ b ∧ b < (↑m : Int)) && (pb (AV.flt (AV.toFlt (List.getD (rvC m rs) (0 + Int.toNat a * 1) AV.undef)) = AV.flt (rAt 0 rs a).1) && (Nat.blt (0 + Int.toNat a * 1) (List.length (rvC m rs)) && AV.isFlt (List.getD (rvC m rs) (0 + Int.toNat a * 1) AV.undef)) && (decide ((0 : Int) ≤ a ∧ a < (↑m : Int)) && (Nat.ble (0 + Int.toNat (↑i : Int) * 1 + 1) (List.length (rdC 3 m rs)) && true && (decide ((0 : Int) ≤ (↑i : Int) ∧ (↑i : Int) < (↑m : Int)) && (pb (AV.agg [AV.int IntKind.i64 (AV.toInt (List.getD (opsL ops) (Int.toNat (↑i : Int) * 4) AV.undef)), AV.int IntKind.i64 (AV.toInt (List.getD (opsL ops) (Int.toNat (↑i : Int) * 4 + 1) AV.undef)), AV.int IntKind.i64 (AV.toInt (List.getD (opsL ops) (Int.toNat (↑i : Int) * 4 + 1 + 1) AV.undef)), AV.flt (AV.toFlt (List.getD (opsL ops) (Int.toNat (↑i : Int) * 4 + 1 + 1 + 1) AV.undef))] = AV.agg [AV.int IntKind.i64 2, AV.int IntKind.i64 a, AV.int IntKind.i64 b, AV.flt c]) && (Nat.ble (Int.toNat (↑i : Int) * 4 + 4) (List.length (opsL ops)) && etasOk [Leaf.i IntKind.i64, Leaf.i IntKind.i64, Leaf.i IntKind.i64, Leaf.f] (opsL ops) (Int.toNat (↑i : Int) * 4)) && (decide ((0 : Int) ≤ (↑i : Int) ∧ (↑i : Int) < (↑m : Int)) && (decide ((↑i : Int) < (↑m : Int)) && true)))))))))))))))))))))))))))))))))))))))))))))))))))))))) = true) : Goes CM w0 191 (eBody) (mk [1,2,5,6,7] [.snap (fltL xs) lx, .ptr 0 0, .slc 1 0 m, .slc 2 0 m, .int .i64 (i : Int)] [⟨[.int .i64 3, .snap (opsL ops) m, .snap (intL outs) 3], 53⟩, ⟨rvC m rs, 24⟩, ⟨rdC 3 m rs, 34⟩] dec0) Ex.normal (mk [1,2,5,6,7] [AV.snap (fltL xs) lx, AV.ptr 0 0, AV.slc 1 0 m, AV.slc 2 0 m, AV.int IntKind.i64 (IntKind.wrap IntKind.i64 ((↑i : Int) + (1 : Int)))] [ABlk.mk [AV.int IntKind.i64 3, AV.snap (opsL ops) m, AV.snap (intL outs) 3] 53, ABlk.mk (rvC m (rs ++ [stepR kF 0 3 xs rs (TOp.mk (2 : Int) a b c)])) 24, ABlk.mk (rdC 3 m (rs ++ [stepR kF 0 3 xs rs (TOp.mk (2 : Int) a b c)])) 34] dec1) :=
  goes_re (dec := [true]) (goes_O (l := [(31, .agg [.int .i64 2, .int .i64 a, .int .i64 b, .flt c]), (135, .slc 1027 0 3), (143, .flt (rAt 0 rs a).v), (148, .flt (rAt 0 rs b).v), (152, .flt (valR kF 0 xs rs ⟨2, a, b, c⟩)), (157, .snap (fltL (rAt 0 rs a).d) 3), (165, .snap (fltL (rAt 0 rs b).d) 3), (86, .flt (rAt 0 rs a).v), (91, .flt (rAt 0 rs b).v)]) (goes_viewK' (ctxO_ok OM _) mixed (qs := [24]) (fuel := 8) [.lit, .giv (rvC m (rs ++ [stepR kF 0 3 xs rs ⟨2, a, b, c⟩])) [], .giv (rdC 3 m (rs ++ [stepR kF 0 3 xs rs ⟨2, a, b, c⟩])) [1027], .frzGiv (fltL (stepR kF 0 3 xs rs ⟨2, a, b, c⟩).d) []] (by kernel_rfl) hok dec1))
theorem eI3_3 (xs : List Nat) (lx : Nat) (ops : List TOp) (m : Nat) (outs : List Int) (rs : List (Rg Nat)) (i : Nat) (a b : Int) (c : Nat) (w0 : World) (dec0 dec1 : List Bool) (hok : ((pb (SubP true [] [] 0 [AV.flt (fsub (AV.toFlt (List.getD (fltL (rAt 0 rs a).2) 0 AV.undef)) (AV.toFlt (List.getD (fltL (rAt 0 rs b).2) 0 AV.undef))), AV.flt (fsub (AV.toFlt (List.getD (fltL (rAt 0 rs a).2) 1 AV.undef)) (AV.toFlt (List.getD (fltL (rAt 0 rs b).2) 1 AV.undef))), AV.flt (fsub (AV.toFlt (List.getD (fltL (rAt 0 rs a).2) 2 AV.undef)) (AV.toFlt (List.getD (fltL (rAt 0 rs b).2) 2 AV.undef)))] [AV.flt (slopeR kF 0 rs (TOp.mk (3 : Int) a b c) (valR kF 0 xs rs (TOp.mk (3 : Int) a b c)) 0), AV.flt (slopeR kF 0 rs (TOp.mk (3 : Int) a b c) (valR kF 0 xs rs (TOp.mk (3 : Int) a b c)) 1), AV.flt (slopeR kF 0 rs (TOp.mk (3 : Int) a b c) (valR kF 0 xs rs (TOp.mk (3 : Int) a b c)) 2)]) && true && (pb (SubP true [(1027, [AV.flt (slopeR kF 0 rs (TOp.mk (3 : Int) a b c) (valR kF 0 xs rs (TOp.mk (3 : Int) a b c)) 0), AV.flt (slopeR kF 0 rs (TOp.mk (3 : Int) a b c) (valR kF 0 xs rs (TOp.mk (3 : Int) a b c)) 1), AV.flt (slopeR kF 0 rs (TOp.mk (3 : Int) a b c) (valR kF 0 xs rs (TOp.mk (3 : Int) a b c)) 2)])] [0, 1, 2] 0 (setL (rvC m rs) (0 + Int.toNat (↑i : Int) * 1) [AV.flt (fsub (rAt 0 rs a).1 (rAt 0 rs b).1)]) (rvC m (rs ++ [stepR kF 0 3 xs rs (TOp.mk (3 : Int) a b c)]))) && (pb (SubP true [(1027, [AV.flt (slopeR kF 0 rs (TOp.mk (3 : Int) a b c) (valR kF 0 xs rs (TOp.mk (3 : Int) a b c)) 0), AV.flt (slopeR kF 0 rs (TOp.mk (3 : Int) a b c) (valR kF 0 xs rs (TOp.mk (3 : Int) a b c)) 1), AV.flt (slopeR kF 0 rs (TOp.mk (3 : Int) a b c) (valR kF 0 xs rs (TOp.mk (3 : Int) a b c)) 2)])] [0, 1, 2] 0 (setL (rdC 3 m rs) (0 + Int.toNat (↑i : Int) * 1) [AV.slc 1027 0 3]) (rdC 3 m (rs ++ [stepR kF 0 3 xs rs (TOp.mk (3 : Int) a b c)]))) && true) && (Nat.blt 2 (List.length (fltL (rAt 0 rs b).2)) && AV.isFlt (List.getD (fltL (rAt 0 rs b).2) 2 AV.undef) && (pb (List.getD (setL (rdC 3 m rs) (0 + Int.toNat (↑i : Int) * 1) [AV.slc 1027 0 3]) (0 + Int.toNat b * 1) AV.undef = AV.snap (fltL (rAt 0 rs b).2) 3) && (Nat.blt (0 + Int.toNat b * 1) (List.length (setL (rdC 3 m rs) (0 + Int.toNat (↑i : Int) * 1) [AV.slc 1027 0 3])) && true) && (decide ((0 : Int) ≤ b ∧ b < (↑m : Int)) && (Nat.blt 2 (List.length (fltL (rAt 0 rs a).2)) && AV.isFlt (List.getD (fltL (rAt 0 rs a).2) 2 AV.undef) && (pb (List.getD (setL (rdC 3 m rs) (0 + Int.toNat (↑i : Int) * 1) [AV.slc 1027 0 3]) (0 + Int.toNat a * 1) AV.undef = AV.snap (fltL (rAt 0 rs a).2) 3) && (Nat.blt (0 + Int.toNat a * 1) (List.length (setL (rdC 3 m rs) (0 + Int.toNat (↑i : Int) * 1) [AV.slc 1027 0 3])) && true) && (decide ((0 : Int) ≤ a ∧ a < (↑m : Int)) && (pb (AV.flt (AV.toFlt (List.getD (setL (rvC m rs) (0 + Int.toNat (↑i : Int) * 1) [AV.flt (fsub (rAt 0 rs a).1 (rAt 0 rs b).1)]) (0 + Int.toNat (↑i : Int) * 1) AV.undef)) = AV.flt (valR kF 0 xs rs (TOp.mk (3 : Int) a b c))) && (Nat.blt (0 + Int.toNat (↑i : Int) * 1) (List.length (setL (rvC m rs) (0 + Int.toNat (↑i : Int) * 1) [AV.flt (fsub (rAt 0 rs a).1 (rAt 0 rs b).1)])) && AV.isFlt (List.getD (setL (rvC m rs) (0 + Int.toNat (↑i : Int) * 1) [AV.flt (fsub (rAt 0 rs a).1 (rAt 0 rs b).1)]) (0 + Int.toNat (↑i : Int) * 1) AV.undef)) && (decide ((0 : Int) ≤ (↑i : Int) ∧ (↑i : Int) < (↑m : Int)) && (pb (AV.flt (AV.toFlt (List.getD (setL (rvC m rs) (0 + Int.toNat (↑i : Int) * 1) [AV.flt (fsub (rAt 0 rs a).1 (rAt 0 rs b).1)]) (0 + Int.toNat b * 1) AV.undef)) = AV.flt (rAt 0 rs b).1) && (Nat.blt (0 + Int.toNat b * 1) (List.length (setL (rvC m rs) (0 + Int.toNat (↑i : Int) * 1) [AV.flt (fsub (rAt 0 rs a).1 (rAt 0 rs b).1)])) && AV.isFlt (List.getD (setL (rvC m rs) (0 + Int.toNat (↑i : Int) * 1) [AV.flt (fsub (rAt 0 rs a).1 (rAt 0 rs b).1)]) (0 + Int.toNat b * 1) AV.undef)) && (decide ((0 : Int) ≤ b ∧ b < (↑m : Int)) && (pb (AV.flt (AV.toFlt (List.getD (setL (rvC m rs) (0 + Int.toNat (↑i : Int) * 1) [AV.flt (fsub (rAt 0 rs a).1 (rAt 0 rs b).1)]) (0 + Int.toNat a * 1) AV.undef)) = AV.flt (rAt 0 rs a).1) && (Nat.blt (0 + Int.toNat a * 1) (List.length (setL (rvC m rs) (0 + Int.toNat (↑i : Int) * 1) [AV.flt (fsub (rAt 0 rs a).1 (rAt 0 rs b).1)])) && AV.isFlt (List.getD (setL (rvC m rs) (0 + Int.toNat (↑i : Int) * 1) [AV.flt (fsub (rAt 0 rs a).1 (rAt 0 rs b).1)]) (0 + Int.toNat a * 1) AV.undef)) && (decide ((0 : Int) ≤ a ∧ a < (↑m : Int)) && (pb (List.getD (setL (rdC 3 m rs) (0 + Int.toNat (↑i : Int) * 1) [AV.slc 1027 0 3]) (0 + Int.toNat (↑i : Int) * 1) AV.undef = AV.slc 1027 0 3) && (Nat.blt (0 + Int.toNat (↑i : Int) * 1) (List.length (setL (rdC 3 m rs) (0 + Int.toNat (↑i : Int) * 1) [AV.slc 1027 0 3])) && true) && (decide ((0 : Int) ≤ (↑i : Int) ∧ (↑i : Int) < (↑m : Int)) && (Nat.blt 1 (List.length (fltL (rAt 0 rs b).2)) && AV.isFlt (List.getD (fltL (rAt 0 rs b).2) 1 AV.undef) && (pb (List.getD (setL (rdC 3 m rs) (0 + Int.toNat (↑i : Int) * 1) [AV.slc 1027 0 3]) (0 + Int.toNat b * 1) AV.undef = AV.snap (fltL (rAt 0 rs b).2) 3) && (Nat.blt (0 + Int.toNat b * 1) (List.length (setL (rdC 3 m rs) (0 + Int.toNat (↑i : Int) * 1) [AV.slc 1027 0 3])) && true) && (decide ((0 : Int) ≤ b ∧ b < (↑m : Int)) && (Nat.blt 1 (List.length (fltL (rAt 0 rs a).2)) && AV.isFlt (List.getD (fltL (rAt 0 rs a).2) 1 AV.undef) && (pb (List.getD (setL (rdC 3 m rs) (0 + Int.toNat (↑i : Int) * 1) [AV.slc 1027 0 3]) (0 + Int.toNat a * 1) AV.undef = AV.snap (fltL (rAt 0 rs a).2) 3) && (Nat.blt (0 + Int.toNat a * 1) (List.length (setL (rdC 3 m rs) (0 + Int.toNat (↑i : Int) * 1) [AV.slc 1027 0 3])) && true) && (decide ((0 : Int) ≤ a ∧ a < (↑m : Int)) && (pb (AV.flt (AV.toFlt (List.getD (setL (rvC m rs) (0 + Int.toNat (↑i : Int) * 1) [AV.flt (fsub (rAt 0 rs a).1 (rAt 0 rs b).1)]) (0 + Int.toNat (↑i : Int) * 1) AV.undef)) = AV.flt (valR kF 0 xs rs (TOp.mk (3 : Int) a b c))) && (Nat.blt (0 + Int.toNat (↑i : Int) * 1) (List.length (setL (rvC m rs) (0 + Int.toNat (↑i : Int) * 1) [AV.flt (fsub (rAt 0 rs a).1 (rAt 0 rs b).1)])) && AV.isFlt (List.getD (setL (rvC m rs) (0 + Int.toNat (↑i : Int) * 1) [AV.flt (fsub (rAt 0 rs a).1 (rAt 0 rs b).1)]) (0 + Int.toNat (↑i : Int) * 1) AV.undef)) && (decide ((0 : Int) ≤ (↑i : Int) ∧ (↑i : Int) < (↑m : Int)) && (pb (AV.flt (AV.toFlt (List.getD (setL (rvC m rs) (0 + Int.toNat (↑i : Int) * 1) [AV.flt (fsub (rAt 0 rs a).1 (rAt 0 rs b).1)]) (0 + Int.toNat b * 1) AV.undef)) = AV.flt (rAt 0 rs b).1) && (Nat.blt (0 + Int.toNat b * 1) (List.length (setL (rvC m rs) (0 + Int.toNat (↑i : Int) * 1) [AV.flt (fsub (rAt 0 rs a).1 (rAt 0 rs b).1)])) && AV.isFlt (List.getD (setL (rvC m rs) (0 + Int.toNat (↑i : Int) * 1) [AV.flt (fsub (rAt 0 rs a).1 (rAt 0 rs b).1)]) (0 + Int.toNat b * 1) AV.undef)) && (decide ((0 : Int) ≤ b ∧ b < (↑m : Int)) && (pb (AV.flt (AV.toFlt (List.getD (setL (rvC m rs) (0 + Int.toNat (↑i : Int) * 1) [AV.flt (fsub (rAt 0 rs a).1 (rAt 0 rs b).1)]) (0 + Int.toNat a * 1) AV.undef)) = AV.flt (rAt 0 rs a).1) && (Nat.blt (0 + Int.toNat a * 1) (List.length (setL (rvC m rs) (0 + Int.toNat (↑i : Int) * 1) [AV.flt (fsub (rAt 0 rs a).1 (rAt 0 rs b).1)])) && AV.isFlt (List.getD (setL (rvC m rs) (0 + Int.toNat (↑i : Int) * 1) [AV.flt (fsub (rAt 0 rs a).1 (rAt 0 rs b).1)]) (0 + Int.toNat a * 1) AV.undef)) && (decide ((0 : Int) ≤ a ∧ a < (↑m : Int)) && (pb (List.getD (setL (rdC 3 m rs) (0 + Int.toNat (↑i : Int) * 1) [AV.slc 1027 0 3]) (0 + Int.toNat (↑i : Int) * 1) AV.undef = AV.slc 1027 0 3) && (Nat.blt (0 + Int.toNat (↑i : Int) * 1) (List.length (setL (rdC 3 m rs) (0 + Int.toNat (↑i : Int) * 1) [AV.slc 1027 0 3])) && true) && (decide ((0 : Int) ≤ (↑i : Int) ∧ (↑i : Int) < (↑m : Int)) && (Nat.blt 0 (List.length (fltL (rAt 0 rs b).2)) && AV.isFlt (List.getD (fltL (rAt 0 rs b).2) 0 AV.undef) && (pb (List.getD (setL (rdC 3 m rs) (0 + Int.toNat (↑i : Int) * 1) [AV.slc 1027 0 3]) (0 + Int.toNat b * 1) AV.undef = AV.snap (fltL (rAt 0 rs b).2) 3) && (Nat.blt (0 + Int.toNat b * 1) (List.length (setL (rdC 3 m rs) (0 + Int.toNat (↑i : Int) * 1) [AV.slc 1027 0 3])) && true) && (decide ((0 : Int) ≤ b ∧ b < (↑m : Int)) && (Nat.blt 0 (List.length (fltL (rAt 0 rs a).2)) && AV.isFlt (List.getD (fltL (rAt 0 rs a).2) 0 AV.undef) && (pb (List.getD (setL (rdC 3 m rs) (0 + Int.toNat (↑i : Int) * 1) [AV.slc 1027 0 3]) (0 + Int.toNat a * 1) AV.undef = AV.snap (fltL (rAt 0 rs a).2) 3) && (Nat.blt (0 + Int.toNat a * 1) (List.length (setL (rdC 3 m rs) (0 + Int.toNat (↑i : Int) * 1) [AV.slc 1027 0 3])) && true) && (decide ((0 : Int) ≤ a ∧ a < (↑m : Int)) && (pb (AV.flt (AV.toFlt (List.getD (setL (rvC m rs) (0 + Int.toNat (↑i : Int) * 1) [AV.flt (fsub (rAt 0 rs a).1 (rAt 0 rs b).1)]) (0 + Int.toNat (↑i : Int) * 1) AV.undef)) = AV.flt (valR kF 0 xs rs (TOp.mk (3 : Int) a b c))) && (Nat.blt (0 + Int.toNat (↑i : Int) * 1) (List.length (setL (rvC m rs) (0 + Int.toNat (↑i : Int) * 1) [AV.flt (fsub (rAt 0 rs a).1 (rAt 0 rs b).1)])) && AV.isFlt (List.getD (setL (rvC m rs) (0 + Int.toNat (↑i : Int) * 1) [AV.flt (fsub (rAt 0 rs a).1 (rAt 0 rs b).1)]) (0 + Int.toNat (↑i : Int) * 1) AV.undef)) && (decide ((0 : Int) ≤ (↑i : Int) ∧ (↑i : Int) < (↑m : Int)) && (pb (AV.flt (AV.toFlt (List.getD (setL (rvC m rs) (0 + Int.toNat (↑i : Int) * 1) [AV.flt (fsub (rAt 0 rs a).1 (rAt 0 rs b).1)]) (0 + Int.toNat b * 1) AV.undef)) = AV.flt (rAt 0 rs b).1) && (Nat.blt (0 + Int.toNat b * 1) (List.length (setL (rvC m rs) (0 + Int.toNat (↑i : Int) * 1) [AV.flt (fsub (rAt 0 rs a).1 (rAt 0 rs b).1)])) && AV.isFlt (List.getD (setL (rvC m rs) (0 + Int.toNat (↑i : Int) * 1) [AV.flt (fsub (rAt 0 rs a).1 (rAt 0 rs b).1)]) (0 + Int.toNat b * 1) AV.undef)) && (decide ((0 : Int) ≤ b ∧ b < (↑m : Int)) && (pb (AV.flt (AV.toFlt (List.getD (setL (rvC m rs) (0 + Int.toNat (↑i : Int) * 1) [AV.flt (fsub (rAt 0 rs a).1 (rAt 0 rs b).1)]) (0 + Int.toNat a * 1) AV.undef)) = AV.flt (rAt 0 rs a).1) && (Nat.blt (0 + Int.toNat a * 1) (List.length (setL (rvC m rs) (0 + Int.toNat (↑i : Int) * 1) [AV.flt (fsub (rAt 0 rs a).1 (rAt 0 rs b).1)])) && AV.isFlt (List.getD (setL (rvC m rs) (0 + Int.toNat (↑i : Int) * 1) [AV.flt (fsub (rAt 0 rs a).1 (rAt 0 rs b).1)]) (0 + Int.toNat a * 1) AV.undef)) && (decide ((0 : Int) ≤ a ∧ a < (↑m : Int)) && (pb (List.getD (setL (rdC 3 m rs) (0 + Int.toNat (↑i : Int) * 1) [AV.slc 1027 0 3]) (0 + Int.toNat (↑i : Int) * 1) AV.undef = AV.slc 1027 0 3) && (Nat.blt (0 + Int.toNat (↑i : Int) * 1) (List.length (setL (rdC 3 m rs) (0 + Int.toNat (↑i : Int) * 1) [AV.slc 1027 0 3])) && true) && (decide ((0 : Int) ≤ (↑i : Int) ∧ (↑i : Int) < (↑m : Int)) && (Nat.ble (0 + Int.toNat (↑i : Int) * 1 + 1) (List.length (rvC m rs)) && true && (decide ((0 : Int) ≤ (↑i : Int) ∧ (↑i : Int) < (↑m : Int)) && (pb (AV.flt (AV.toFlt (List.getD (rvC m rs) (0 + Int.toNat b * 1) AV.undef)) = AV.flt (rAt 0 rs b).1) && (Nat.blt (0 + Int.toNat b * 1) (List.length (rvC m rs)) && AV.isFlt (List.getD (rvC m rs) (0 + Int.toNat b * 1) AV.undef)) && (decide ((0 : Int) ≤ b ∧ b < (↑m : Int)) && (pb (AV.flt (AV.toFlt (List.getD (rvC m rs) (0 + Int.toNat a * 1) AV.undef)) = AV.flt (rAt 0 rs a).1) && (Nat.blt (0 + Int.toNat a * 1) (List.length (rvC m rs)) && AV.isFlt (List.getD (rvC m rs) (0 + Int.toNat a * 1) AV.undef)) && (decide ((0 : Int) ≤ a ∧ a < (↑m : Int)) && (Nat.ble (0 + Int.toNat (↑i : Int) * 1 + 1) (List.length (rdC 3 m rs)) && true && (decide ((0 : Int) ≤ (↑i : Int) ∧ (↑i : Int) < (↑m : Int)) && (pb (AV.agg [AV.int IntKind.i64 (AV.toInt (List.getD (opsL ops) (Int.toNat (↑i : Int) * 4) AV.undef)), AV.int IntKind.i64 (AV.toInt (List.getD (opsL ops) (Int.toNat (↑i : Int) * 4 + 1) AV.undef)), AV.int IntKind.i64 (AV.toInt (List.getD (opsL ops) (Int.toNat (↑i : Int) * 4 + 1 + 1) AV.undef)), AV.flt (AV.toFlt (List.getD (opsL ops) (Int.toNat (↑i : Int) * 4 + 1 + 1 + 1) AV.undef))] = AV.agg [AV.int IntKind.i64 3, AV.int IntKind.i64 a, AV.int IntKind.i64 b, AV.flt c]) && (Nat.ble (Int.toNat (↑i : Int) * 4 + 4) (List.length (opsL ops)) && etasOk [Leaf.i IntKind.i64, Leaf.i IntKind.i64, Leaf.i IntKind.i64, Leaf.f] (opsL ops) (Int.toNat (↑i : Int) * 4)) && (decide ((0 : Int) ≤ (↑i : Int) ∧ (↑i : Int) < (↑m : Int)) && (decide ((↑i : Int) < (↑m : Int)) && true)))))))))))))))))))))))))))))))))))))))))))))))))))))))) = true) : Goes CM w0 191 (eBody) (mk [1,2,5,6,7] [.snap (fltL xs) lx, .ptr 0 0, .slc 1 0 m, .slc 2 0 m, .int .i64 (i : Int)] [⟨[.int .i64 3, .snap (opsL ops) m, .snap (intL outs) 3], 53⟩, ⟨rvC m rs, 24⟩, ⟨rdC 3 m rs, 34⟩] dec0) Ex.normal (mk [1,2,5,6,7] [AV.snap (fltL xs) lx, AV.ptr 0 0, AV.slc 1 0 m, AV.slc 2 0 m, AV.int IntKind.i64 (IntKind.wrap IntKind.i64 ((↑i : Int) + (1 : Int)))] [ABlk.mk [AV.int IntKind.i64 3, AV.snap (opsL ops) m, AV.snap (intL outs) 3] 53, ABlk.mk (rvC m (rs ++ [stepR kF 0 3 xs rs (TOp.mk (3 : Int) a b c)])) 24, ABlk.mk (rdC 3 m (rs ++ [stepR kF 0 3 xs rs (TOp.mk (3 : Int) a b c)])) 34] dec1) :=
  goes_re (dec := [true]) (goes_O (l := [(31, .agg [.int .i64 3, .int .i64 a, .int .i64 b, .flt c]), (135, .slc 1027 0 3), (143, .flt (rAt 0 rs a).v), (148, .flt (rAt 0 rs b).v), (152, .flt (valR kF 0 xs rs ⟨3, a, b, c⟩)), (157, .snap (fltL (rAt 0 rs a).d) 3), (165, .snap (fltL (rAt 0 rs b).d) 3), (102, .flt (rAt 0 rs a).v), (107, .flt (rAt 0 rs b).v)]) (goes_viewK' (ctxO_ok OM _) mixed (qs := [24]) (fuel := 8) [.lit, .giv (rvC m (rs ++ [stepR kF 0 3 xs rs ⟨3, a, b, c⟩])) [], .giv (rdC 3 m (rs ++ [stepR kF 0 3 xs rs ⟨3, a, b, c⟩])) [1027], .frzGiv (fltL (stepR kF 0 3 xs rs ⟨3, a, b, c⟩).d) []] (by kernel_rfl) hok dec1))
theorem eI3_4 (xs : List Nat) (lx : Nat) (ops : List TOp) (m : Nat) (outs : List Int) (rs : List (Rg Nat)) (i : Nat) (a b : Int) (c : Nat) (w0 : World) (dec0 dec1 : List Bool) (hok : ((pb (SubP true [] [] 0 [AV.flt (fadd (fmul (AV.toFlt (List.getD (fltL (rAt 0 rs a).2) 0 AV.undef)) (rAt 0 rs b).1) (fmul (rAt 0 rs a).1 (AV.toFlt (List.getD (fltL (rAt 0 rs b).2) 0 AV.undef)))), AV.flt (fadd (fmul (AV.toFlt (List.getD (fltL (rAt 0 rs a).2) 1 AV.undef)) (rAt 0 rs b).1) (fmul (rAt 0 rs a).1 (AV.toFlt (List.getD (fltL (rAt 0 rs b).2) 1 AV.undef)))), AV.flt (fadd (fmul (AV.toFlt (List.getD (fltL (rAt 0 rs a).2) 2 AV.undef)) (rAt 0 rs b).1) (fmul (rAt 0 rs a).1 (AV.toFlt (List.getD (fltL (rAt 0 rs b).2) 2 AV.undef))))] [AV.flt (slopeR kF 0 rs (TOp.mk (4 : Int) a b c) (valR kF 0 xs rs (TOp.mk (4 : Int) a b c)) 0), AV.flt (slopeR kF 0 rs (TOp.mk (4 : Int) a b c) (valR kF 0 xs rs (TOp.mk (4 : Int) a b c)) 1), AV.flt (slopeR kF 0 rs (TOp.mk (4 : Int) a b c) (valR kF 0 xs rs (TOp.mk (4 : Int) a b c)) 2)]) && true && (pb (SubP true [(1027, [AV.flt (slopeR kF 0 rs (TOp.mk (4 : Int) a b c) (valR kF 0 xs rs (TOp.mk (4 : Int) a b c)) 0), AV.flt (slopeR kF 0 rs (TOp.mk (4 : Int) a b c) (valR kF 0 xs rs (TOp.mk (4 : Int) a b c)) 1), AV.flt (slopeR kF 0 rs (TOp.mk (4 : Int) a b c) (valR kF 0 xs rs (TOp.mk (4 : Int) a b c)) 2)])] [0, 1, 2] 0 (setL (rvC m rs) (0 + Int.toNat (↑i : Int) * 1) [AV.flt (fmul (rAt 0 rs a).1 (rAt 0 rs b).1)]) (rvC m (rs ++ [stepR kF 0 3 xs rs (TOp.mk (4 : Int) a b c)]))) && (pb (SubP true [(1027, [AV.flt (slopeR kF 0 rs (TOp.mk (4 : Int) a b c) (valR kF 0 xs rs (TOp.mk (4 : Int) a b c)) 0), AV.flt (slopeR kF 0 rs (TOp.mk (4 : Int) a b c) (valR kF 0 xs rs (TOp.mk (4 : Int) a b c)) 1), AV.flt (slopeR kF 0 rs (TOp.mk (4 : Int) a b c) (valR kF 0 xs rs (TOp.mk (4 : Int) a b c)) 2)])] [0, 1, 2] 0 (setL (rdC 3 m rs) (0 + Int.toNat (↑i : Int) * 1) [AV.slc 1027 0 3]) (rdC 3 m (rs ++ [stepR kF 0 3 xs rs (TOp.mk (4 : Int) a b c)]))) && true) && (Nat.blt 2 (List.length (fltL (rAt 0 rs b).2)) && AV.isFlt (List.getD (fltL (rAt 0 rs b).2) 2 AV.undef) && (pb (List.getD (setL (rdC 3 m rs) (0 + Int.toNat (↑i : Int) * 1) [AV.slc 1027 0 3]) (0 + Int.toNat b * 1) AV.undef = AV.snap (fltL (rAt 0 rs b).2) 3) && (Nat.blt (0 + Int.toNat b * 1) (List.length (setL (rdC 3 m rs) (0 + Int.toNat (↑i : Int) * 1) [AV.slc 1027 0 3])) && true) && (decide ((0 : Int) ≤ b ∧ b < (↑m : Int)) && (Nat.blt 2 (List.length (fltL (rAt 0 rs a).2)) && AV.isFlt (List.getD (fltL (rAt 0 rs a).2) 2 AV.undef) && (pb (List.getD (setL (rdC 3 m rs) (0 + Int.toNat (↑i : Int) * 1) [AV.slc 1027 0 3]) (0 + Int.toNat a * 1) AV.undef = AV.snap (fltL (rAt 0 rs a).2) 3) && (Nat.blt (0 + Int.toNat a * 1) (List.length (setL (rdC 3 m rs) (0 + Int.toNat (↑i : Int) * 1) [AV.slc 1027 0 3])) && true) && (decide ((0 : Int) ≤ a ∧ a < (↑m : Int)) && (pb (AV.flt (AV.toFlt (List.getD (setL (rvC m rs) (0 + Int.toNat (↑i : Int) * 1) [AV.flt (fmul (rAt 0 rs a).1 (rAt 0 rs b).1)]) (0 + Int.toNat (↑i : Int) * 1) AV.undef)) = AV.flt (valR kF 0 xs rs (TOp.mk (4 : Int) a b c))) && (Nat.blt (0 + Int.toNat (↑i : Int) * 1) (List.length (setL (rvC m rs) (0 + Int.toNat (↑i : Int) * 1) [AV.flt (fmul (rAt 0 rs a).1 (rAt 0 rs b).1)])) && AV.isFlt (List.getD (setL (rvC m rs) (0 + Int.toNat (↑i : Int) * 1) [AV.flt (fmul (rAt 0 rs a).1 (rAt 0 rs b).1)]) (0 + Int.toNat (↑i : Int) * 1) AV.undef)) && (decide ((0 : Int) ≤ (↑i : Int) ∧ (↑i : Int) < (↑m : Int)) && (pb (AV.flt (AV.toFlt (List.getD (setL (rvC m rs) (0 + Int.toNat (↑i : Int) * 1) [AV.flt (fmul (rAt 0 rs a).1 (rAt 0 rs b).1)]) (0 + Int.toNat b * 1) AV.undef)) = AV.flt (rAt 0 rs b).1) && (Nat.blt (0 + Int.toNat b * 1) (List.length (setL (rvC m rs) (0 + Int.toNat (↑i : Int) * 1) [AV.flt (fmul (rAt 0 rs a).1 (rAt 0 rs b).1)])) && AV.isFlt (List.getD (setL (rvC m rs) (0 + Int.toNat (↑i : Int) * 1) [AV.flt (fmul (rAt 0 rs a).1 (rAt 0 rs b).1)]) (0 + Int.toNat b * 1) AV.undef)) && (decide ((0 : Int) ≤ b ∧ b < (↑m : Int)) && (pb (AV.flt (AV.toFlt (List.getD (setL (rvC m rs) (0 + Int.toNat (↑i : Int) * 1) [AV.flt (fmul (rAt 0 rs a).1 (rAt 0 rs b).1)]) (0 + Int.toNat a * 1) AV.undef)) = AV.flt (rAt 0 rs a).1) && (Nat.blt (0 + Int.toNat a * 1) (List.length (setL (rvC m rs) (0 + Int.toNat (↑i : Int) * 1) [AV.flt (fmul (rAt 0 rs a).1 (rAt 0 rs b).1)])) && AV.isFlt (List.getD (setL (rvC m rs) (0 + Int.toNat (↑i : Int) * 1) [AV.flt (fmul (rAt 0 rs a).1 (rAt 0 rs b).1)]) (0 + Int.toNat a * 1) AV.undef)) && (decide ((0 : Int) ≤ a ∧ a < (↑m : Int)) && (pb (List.getD (setL (rdC 3 m rs) (0 + Int.toNat (↑i : Int) * 1) [AV.slc 1027 0 3]) (0 + Int.toNat (↑i : Int) * 1) AV.undef = AV.slc 1027 0 3) && (Nat.blt (0 + Int.toNat (↑i : Int) * 1) (List.length (setL (rdC 3 m rs) (0 + Int.toNat (↑i : Int) * 1) [AV.slc 1027 0 3])) && true) && (decide ((0 : Int) ≤ (↑i : Int) ∧ (↑i : Int) < (↑m : Int)) && (Nat.blt 1 (List.length (fltL (rAt 0 rs b).2)) && AV.isFlt (List.getD (fltL (rAt 0 rs b).2) 1 AV.undef) && (pb (List.getD (setL (rdC 3 m rs) (0 + Int.toNat (↑i : Int) * 1) [AV.slc 1027 0 3]) (0 + Int.toNat b * 1) AV.undef = AV.snap (fltL (rAt 0 rs b).2) 3) && (Nat.blt (0 + Int.toNat b * 1) (List.length (setL (rdC 3 m rs) (0 + Int.toNat (↑i : Int) * 1) [AV.slc 1027 0 3])) && true) && (decide ((0 : Int) ≤ b ∧ b < (↑m : Int)) && (Nat.blt 1 (List.length (fltL (rAt 0 rs a).2)) && AV.isFlt (List.getD (fltL (rAt 0 rs a).2) 1 AV.undef) && (pb (List.getD (setL (rdC 3 m rs) (0 + Int.toNat (↑i : Int) * 1) [AV.slc 1027 0 3]) (0 + Int.toNat a * 1) AV.undef = AV.snap (fltL (rAt 0 rs a).2) 3) && (Nat.blt (0 + Int.toNat a * 1) (List.length (setL (rdC 3 m rs) (0 + Int.toNat (↑i : Int) * 1) [AV.slc 1027 0 3])) && true) && (decide ((0 : Int) ≤ a ∧ a < (↑m : Int)) && (pb (AV.flt (AV.toFlt (List.getD (setL (rvC m rs) (0 + Int.toNat (↑i : Int) * 1) [AV.flt (fmul (rAt 0 rs a).1 (rAt 0 rs b).1)]) (0 + Int.toNat (↑i : Int) * 1) AV.undef)) = AV.flt (valR kF 0 xs rs (TOp.mk (4 : Int) a b c))) && (Nat.blt (0 + Int.toNat (↑i : Int) * 1) (List.length (setL (rvC m rs) (0 + Int.toNat (↑i : Int) * 1) [AV.flt (fmul (rAt 0 rs a).1 (rAt 0 rs b).1)])) && AV.isFlt (List.getD (setL (rvC m rs) (0 + Int.toNat (↑i : Int) * 1) [AV.flt (fmul (rAt 0 rs a).1 (rAt 0 rs b).1)]) (0 + Int.toNat (↑i : Int) * 1) AV.undef)) && (decide ((0 : Int) ≤ (↑i : Int) ∧ (↑i : Int) < (↑m : Int)) && (pb (AV.flt (AV.toFlt (List.getD (setL (rvC m rs) (0 + Int.toNat (↑i : Int) * 1) [AV.flt (fmul (rAt 0 rs a).1 (rAt 0 rs b).1)]) (0 + Int.toNat b * 1) AV.undef)) = AV.flt (rAt 0 rs b).1) && (Nat.blt (0 + Int.toNat b * 1) (List.length (setL (rvC m rs) (0 + Int.toNat (↑i : Int) * 1) [AV.flt (fmul (rAt 0 rs a).1 (rAt 0 rs b).1)])) && AV.isFlt (List.getD (setL (rvC m rs) (0 + Int.toNat (↑i : Int) * 1) [AV.flt (fmul (rAt 0 rs a).1 (rAt 0 rs b).1)]) (0 + Int.toNat b * 1) AV.undef)) && (decide ((0 : Int) ≤ b ∧ b < (↑m : Int)) && (pb (AV.flt (AV.toFlt (List.getD (setL (rvC m rs) (0 + Int.toNat (↑i : Int) * 1) [AV.flt (fmul (rAt 0 rs a).1 (rAt 0 rs b).1)]) (0 + Int.toNat a * 1) AV.undef)) = AV.flt (rAt 0 rs a).1) && (Nat.blt (0 + Int.toNat a * 1) (List.length (setL (rvC m rs) (0 + Int.toNat (↑i : Int) * 1) [AV.flt (fmul (rAt 0 rs a).1 (rAt 0 rs b).1)])) && AV.isFlt (List.getD (setL (rvC m rs) (0 + Int.toNat (↑i : Int) * 1) [AV.flt (fmul (rAt 0 rs a).1 (rAt 0 rs b).1)]) (0 + Int.toNat a * 1) AV.undef)) && (decide ((0 : Int) ≤ a ∧ a < (↑m : Int)) && (pb (List.getD (setL (rdC 3 m rs) (0 + Int.toNat (↑i : Int) * 1) [AV.slc 1027 0 3]) (0 + Int.toNat (↑i : Int) * 1) AV.undef = AV.slc 1027 0 3) && (Nat.blt (0 + Int.toNat (↑i : Int) * 1) (List.length (setL (rdC 3 m rs) (0 + Int.toNat (↑i : Int) * 1) [AV.slc 1027 0 3])) && true) && (decide ((0 : Int) ≤ (↑i : Int) ∧ (↑i : Int) < (↑m : Int)) && (Nat.blt 0 (List.length (fltL (rAt 0 rs b).2)) && AV.isFlt (List.getD (fltL (rAt 0 rs b).2) 0 AV.undef) && (pb (List.getD (setL (rdC 3 m rs) (0 + Int.toNat (↑i : Int) * 1) [AV.slc 1027 0 3]) (0 + Int.toNat b * 1) AV.undef = AV.snap (fltL (rAt 0 rs b).2) 3) && (Nat.blt (0 + Int.toNat b * 1) (List.length (setL (rdC 3 m rs) (0 + Int.toNat (↑i : Int) * 1) [AV.slc 1027 0 3])) && true) && (decide ((0 : Int) ≤ b ∧ b < (↑m : Int)) && (Nat.blt 0 (List.length (fltL (rAt 0 rs a).2)) && AV.isFlt (List.getD (fltL (rAt 0 rs a).2) 0 AV.undef) && (pb (List.getD (setL (rdC 3 m rs) (0 + Int.toNat (↑i : Int) * 1) [AV.slc 1027 0 3]) (0 + Int.toNat a * 1) AV.undef = AV.snap (fltL (rAt 0 rs a).2) 3) && (Nat.blt (0 + Int.toNat a * 1) (List.length (setL (rdC 3 m rs) (0 + Int.toNat (↑i : Int) * 1) [AV.slc 1027 0 3])) && true) && (decide ((0 : Int) ≤ a ∧ a < (↑m : Int)) && (pb (AV.flt (AV.toFlt (List.getD (setL (rvC m rs) (0 + Int.toNat (↑i : Int) * 1) [AV.flt (fmul (rAt 0 rs a).1 (rAt 0 rs b).1)]) (0 + Int.toNat (↑i : Int) * 1) AV.undef)) = AV.flt (valR kF 0 xs rs (TOp.mk (4 : Int) a b c))) && (Nat.blt (0 + Int.toNat (↑i : Int) * 1) (List.length (setL (rvC m rs) (0 + Int.toNat (↑i : Int) * 1) [AV.flt (fmul (rAt 0 rs a).1 (rAt 0 rs b).1)])) && AV.isFlt (List.getD (setL (rvC m rs) (0 + Int.toNat (↑i : Int) * 1) [AV.flt (fmul (rAt 0 rs a).1 (rAt 0 rs b).1)]) (0 + Int.toNat (↑i : Int) * 1) AV.undef)) && (decide ((0 : Int) ≤ (↑i : Int) ∧ (↑i : Int) < (↑m : Int)) && (pb (AV.flt (AV.toFlt (List.getD (setL (rvC m rs) (0 + Int.toNat (↑i : Int) * 1) [AV.flt (fmul (rAt 0 rs a).1 (rAt 0 rs b).1)]) (0 + Int.toNat b * 1) AV.undef)) = AV.flt (rAt 0 rs b).1) && (Nat.blt (0 + Int.toNat b * 1) (List.length (setL (rvC m rs) (0 + Int.toNat (↑i : Int) * 1) [AV.flt (fmul (rAt 0 rs a).1 (rAt 0 rs b).1)])) && AV.isFlt (List.getD (setL (rvC m rs) (0 + Int.toNat (↑i : Int) * 1) [AV.flt (fmul (rAt 0 rs a).1 (rAt 0 rs b).1)]) (0 + Int.toNat b * 1) AV.undef)) && (decide ((0 : Int) ≤ b ∧ b < (↑m : Int)) && (pb (AV.flt (AV.toFlt (List.getD (setL (rvC m rs) (0 + Int.toNat (↑i : Int) * 1) [AV.flt (fmul (rAt 0 rs a).1 (rAt 0 rs b).1)]) (0 + Int.toNat a * 1) AV.undef)) = AV.flt (rAt 0 rs a).1) && (Nat.blt (0 + Int.toNat a * 1) (List.length (setL (rvC m rs) (0 + Int.toNat (↑i : Int) * 1) [AV.flt (fmul (rAt 0 rs a).1 (rAt 0 rs b).1)])) && AV.isFlt (List.getD (setL (rvC m rs) (0 + Int.toNat (↑i : Int) * 1) [AV.flt (fmul (rAt 0 rs a).1 (rAt 0 rs b).1)]) (0 + Int.toNat a * 1) AV.undef)) && (decide ((0 : Int) ≤ a ∧ a < (↑m : Int)) && (pb (List.getD (setL (rdC 3 m rs) (0 + Int.toNat (↑i : Int) * 1) [AV.slc 1027 0 3]) (0 + Int.toNat (↑i : Int) * 1) AV.undef = AV.slc 1027 0 3) && (Nat.blt (0 + Int.toNat (↑i : Int) * 1) (List.length (setL (rdC 3 m rs) (0 + Int.toNat (↑i : Int) * 1) [AV.slc 1027 0 3])) && true) && (decide ((0 : Int) ≤ (↑i : Int) ∧ (↑i : Int) < (↑m : Int)) && (Nat.ble (0 + Int.toNat (↑i : Int) * 1 + 1) (List.length (rvC m rs)) && true && (decide ((0 : Int) ≤ (↑i : Int) ∧ (↑i : Int) < (↑m : Int)) && (pb (AV.flt (AV.toFlt (List.getD (rvC m rs) (0 + Int.toNat b * 1) AV.undef)) = AV.flt (rAt 0 rs b).1) && (Nat.blt (0 + Int.toNat b * 1) (List.length (rvC m rs)) && AV.isFlt (List.getD (rvC m rs) (0 + Int.toNat b * 1) AV.undef)) && (decide ((0 : Int) ≤ b ∧ b < (↑m : Int)) && (pb (AV.flt (AV.toFlt (List.getD (rvC m rs) (0 + Int.toNat a * 1) AV.undef)) = AV.flt (rAt 0 rs a).1) && (Nat.blt (0 + Int.toNat a * 1) (List.length (rvC m rs)) && AV.isFlt (List.getD (rvC m rs) (0 + Int.toNat a * 1) AV.undef)) && (decide ((0 : Int) ≤ a ∧ a < (↑m : Int)) && (Nat.ble (0 + Int.toNat (↑i : Int) * 1 + 1) (List.length (rdC 3 m rs)) && true && (decide ((0 : Int) ≤ (↑i : Int) ∧ (↑i : Int) < (↑m : Int)) && (pb (AV.agg [AV.int IntKind.i64 (AV.toInt (List.getD (opsL ops) (Int.toNat (↑i : Int) * 4) AV.undef)), AV.int IntKind.i64 (AV.toInt (List.getD (opsL ops) (Int.toNat (↑i : Int) * 4 + 1) AV.undef)), AV.int IntKind.i64 (AV.toInt (List.getD (opsL ops) (Int.toNat (↑i : Int) * 4 + 1 + 1) AV.undef)), AV.flt (AV.toFlt (List.getD (opsL ops) (Int.toNat (↑i : Int) * 4 + 1 + 1 + 1) AV.undef))] = AV.agg [AV.int IntKind.i64 4, AV.int IntKind.i64 a, AV.int IntKind.i64 b, AV.flt c]) && (Nat.ble (Int.toNat (↑i : Int) * 4 + 4) (List.length (opsL ops)) && etasOk [Leaf.i IntKind.i64, Leaf.i IntKind.i64, Leaf.i IntKind.i64, Leaf.f] (opsL ops) (Int.toNat (↑i : Int) * 4)) && (decide ((0 : Int) ≤ (↑i : Int) ∧ (↑i : Int) < (↑m : Int)) && (decide ((↑i : Int) < (↑m : Int)) && true)))))))))))))))))))))))))))))))))))))))))))))))))))))))) = true) : Goes CM w0 191 (eBody) (mk [1,2,5,6,7] [.snap (fltL xs) lx, .ptr 0 0, .slc 1 0 m, .slc 2 0 m, .int .i64 (i : Int)] [⟨[.int .i64 3, .snap (opsL ops) m, .snap (intL outs) 3], 53⟩, ⟨rvC m rs, 24⟩, ⟨rdC 3 m rs, 34⟩] dec0) Ex.normal (mk [1,2,5,6,7] [AV.snap (fltL xs) lx, AV.ptr 0 0, AV.slc 1 0 m, AV.slc 2 0 m, AV.int IntKind.i64 (IntKind.wrap IntKind.i64 ((↑i : Int) + (1 : Int)))] [ABlk.mk [AV.int IntKind.i64 3, AV.snap (opsL ops) m, AV.snap (intL outs) 3] 53, ABlk.mk (rvC m (rs ++ [stepR kF 0 3 xs rs (TOp.mk (4 : Int) a b c)])) 24, ABlk.mk (rdC 3 m (rs ++ [stepR kF 0 3 xs rs (TOp.mk (4 : Int) a b c)])) 34] dec1) :=
  goes_re (dec := [true]) (goes_O (l := [(31, .agg [.int .i64 4, .int .i64 a, .int .i64 b, .flt c]), (135, .slc 1027 0 3), (143, .flt (rAt 0 rs a).v), (148, .flt (rAt 0 rs b).v), (152, .flt (valR kF 0 xs rs ⟨4, a, b, c⟩)), (157, .snap (fltL (rAt 0 rs a).d) 3), (165, .snap (fltL (rAt 0 rs b).d) 3), (118, .flt (rAt 0 rs a).v), (123, .flt (rAt 0 rs b).v)]) (goes_viewK' (ctxO_ok OM _) mixed (qs := [24]) (fuel := 8) [.lit, .giv (rvC m (rs ++ [stepR kF 0 3 xs rs ⟨4, a, b, c⟩])) [], .giv (rdC 3 m (rs ++ [stepR kF 0 3 xs rs ⟨4, a, b, c⟩])) [1027], .frzGiv (fltL (stepR kF 0 3 xs rs ⟨4, a, b, c⟩).d) []] (by kernel_rfl) hok dec1))
theorem eI3_5 (xs : List Nat) (lx : Nat) (ops : List TOp) (m : Nat) (outs : List Int) (rs : List (Rg Nat)) (i : Nat) (a b : Int) (c : Nat) (w0 : World) (dec0 dec1 : List Bool) (hok : ((pb (SubP true [] [] 0 [AV.flt (fdiv (fsub (AV.toFlt (List.getD (fltL (rAt 0 rs a).2) 0 AV.undef)) (fmul (valR kF 0 xs rs (TOp.mk (5 : Int) a b c)) (AV.toFlt (List.getD (fltL (rAt 0 rs b).2) 0 AV.undef)))) (rAt 0 rs b).1), AV.flt (fdiv (fsub (AV.toFlt (List.getD (fltL (rAt 0 rs a).2) 1 AV.undef)) (fmul (valR kF 0 xs rs (TOp.mk (5 : Int) a b c)) (AV.toFlt (List.getD (fltL (rAt 0 rs b).2) 1 AV.undef)))) (rAt 0 rs b).1), AV.flt (fdiv (fsub (AV.toFlt (List.getD (fltL (rAt 0 rs a).2) 2 AV.undef)) (fmul (valR kF 0 xs rs (TOp.mk (5 : Int) a b c)) (AV.toFlt (List.getD (fltL (rAt 0 rs b).2) 2 AV.undef)))) (rAt 0 rs b).1)] [AV.flt (slopeR kF 0 rs (TOp.mk (5 : Int) a b c) (valR kF 0 xs rs (TOp.mk (5 : Int) a b c)) 0), AV.flt (slopeR kF 0 rs (TOp.mk (5 : Int) a b c) (valR kF 0 xs rs (TOp.mk (5 : Int) a b c)) 1), AV.flt (slopeR kF 0 rs (TOp.mk (5 : Int) a b c) (valR kF 0 xs rs (TOp.mk (5 : Int) a b c)) 2)]) && true && (pb (SubP true [(1027, [AV.flt (slopeR kF 0 rs (TOp.mk (5 : Int) a b c) (valR kF 0 xs rs (TOp.mk (5 : Int) a b c)) 0), AV.flt (slopeR kF 0 rs (TOp.mk (5 : Int) a b c) (valR kF 0 xs rs (TOp.mk (5 : Int) a b c)) 1), AV.flt (slopeR kF 0 rs (TOp.mk (5 : Int) a b c) (valR kF 0 xs rs (TOp.mk (5 : Int) a b c)) 2)])] [0, 1, 2] 0 (setL (rvC m rs) (0 + Int.toNat (↑i : Int) * 1) [AV.flt (fdiv (rAt 0 rs a).1 (rAt 0 rs b).1)]) (rvC m (rs ++ [stepR kF 0 3 xs rs (TOp.mk (5 : Int) a b c)]))) && (pb (SubP true [(1027, [AV.flt (slopeR kF 0 rs (TOp.mk (5 : Int) a b c) (valR kF 0 xs rs (TOp.mk (5 : Int) a b c)) 0), AV.flt (slopeR kF 0 rs (TOp.mk (5 : Int) a b c) (valR kF 0 xs rs (TOp.mk (5 : Int) a b c)) 1), AV.flt (slopeR kF 0 rs (TOp.mk (5 : Int) a b c) (valR kF 0 xs rs (TOp.mk (5 : Int) a b c)) 2)])] [0, 1, 2] 0 (setL (rdC 3 m rs) (0 + Int.toNat (↑i : Int) * 1) [AV.slc 1027 0 3]) (rdC 3 m (rs ++ [stepR kF 0 3 xs rs (TOp.mk (5 : Int) a b c)]))) && true) && (Nat.blt 2 (List.length (fltL (rAt 0 rs b).2)) && AV.isFlt (List.getD (fltL (rAt 0 rs b).2) 2 AV.undef) && (pb (List.getD (setL (rdC 3 m rs) (0 + Int.toNat (↑i : Int) * 1) [AV.slc 1027 0 3]) (0 + Int.toNat b * 1) AV.undef = AV.snap (fltL (rAt 0 rs b).2) 3) && (Nat.blt (0 + Int.toNat b * 1) (List.length (setL (rdC 3 m rs) (0 + Int.toNat (↑i : Int) * 1) [AV.slc 1027 0 3])) && true) && (decide ((0 : Int) ≤ b ∧ b < (↑m : Int)) && (Nat.blt 2 (List.length (fltL (rAt 0 rs a).2)) && AV.isFlt (List.getD (fltL (rAt 0 rs a).2) 2 AV.undef) && (pb (List.getD (setL (rdC 3 m rs) (0 + Int.toNat (↑i : Int) * 1) [AV.slc 1027 0 3]) (0 + Int.toNat a * 1) AV.undef = AV.snap (fltL (rAt 0 rs a).2) 3) && (Nat.blt (0 + Int.toNat a * 1) (List.length (setL (rdC 3 m rs) (0 + Int.toNat (↑i : Int) * 1) [AV.slc 1027 0 3])) && true) && (decide ((0 : Int) ≤ a ∧ a < (↑m : Int)) && (pb (AV.flt (AV.toFlt (List.getD (setL (rvC m rs) (0 + Int.toNat (↑i : Int) * 1) [AV.flt (fdiv (rAt 0 rs a).1 (rAt 0 rs b).1)]) (0 + Int.toNat (↑i : Int) * 1) AV.undef)) = AV.flt (valR kF 0 xs rs (TOp.mk (5 : Int) a b c))) && (Nat.blt (0 + Int.toNat (↑i : Int) * 1) (List.length (setL (rvC m rs) (0 + Int.toNat (↑i : Int) * 1) [AV.flt (fdiv (rAt 0 rs a).1 (rAt 0 rs b).1)])) && AV.isFlt (List.getD (setL (rvC m rs) (0 + Int.toNat (↑i : Int) * 1) [AV.flt (fdiv (rAt 0 rs a).1 (rAt 0 rs b).1)]) (0 + Int.toNat (↑i : Int) * 1) AV.undef)) && (decide ((0 : Int) ≤ (↑i : Int) ∧ (↑i : Int) < (↑m : Int)) && (pb (AV.flt (AV.toFlt (List.getD (setL (rvC m rs) (0 + Int.toNat (↑i : Int) * 1) [AV.flt (fdiv (rAt 0 rs a).1 (rAt 0 rs b).1)]) (0 + Int.toNat b * 1) AV.undef)) = AV.flt (rAt 0 rs b).1) && (Nat.blt (0 + Int.toNat b * 1) (List.length (setL (rvC m rs) (0 + Int.toNat (↑i : Int) * 1) [AV.flt (fdiv (rAt 0 rs a).1 (rAt 0 rs b).1)])) && AV.isFlt (List.getD (setL (rvC m rs) (0 + Int.toNat (↑i : Int) * 1) [AV.flt (fdiv (rAt 0 rs a).1 (rAt 0 rs b).1)]) (0 + Int.toNat b * 1) AV.undef)) && (decide ((0 : Int) ≤ b ∧ b < (↑m : Int)) && (pb (AV.flt (AV.toFlt (List.getD (setL (rvC m rs) (0 + Int.toNat (↑i : Int) * 1) [AV.flt (fdiv (rAt 0 rs a).1 (rAt 0 rs b).1)]) (0 + Int.toNat a * 1) AV.undef)) = AV.flt (rAt 0 rs a).1) && (Nat.blt (0 + Int.toNat a * 1) (List.length (setL (rvC m rs) (0 + Int.toNat (↑i : Int) * 1) [AV.flt (fdiv (rAt 0 rs a).1 (rAt 0 rs b).1)])) && AV.isFlt (List.getD (setL (rvC m rs) (0 + Int.toNat (↑i : Int) * 1) [AV.flt (fdiv (rAt 0 rs a).1 (rAt 0 rs b).1)]) (0 + Int.toNat a * 1) AV.undef)) && (decide ((0 : Int) ≤ a ∧ a < (↑m : Int)) && (pb (List.getD (setL (rdC 3 m rs) (0 + Int.toNat (↑i : Int) * 1) [AV.slc 1027 0 3]) (0 + Int.toNat (↑i : Int) * 1) AV.undef = AV.slc 1027 0 3) && (Nat.blt (0 + Int.toNat (↑i : Int) * 1) (List.length (setL (rdC 3 m rs) (0 + Int.toNat (↑i : Int) * 1) [AV.slc 1027 0 3])) && true) && (decide ((0 : Int) ≤ (↑i : Int) ∧ (↑i : Int) < (↑m : Int)) && (Nat.blt 1 (List.length (fltL (rAt 0 rs b).2)) && AV.isFlt (List.getD (fltL (rAt 0 rs b).2) 1 AV.undef) && (pb (List.getD (setL (rdC 3 m rs) (0 + Int.toNat (↑i : Int) * 1) [AV.slc 1027 0 3]) (0 + Int.toNat b * 1) AV.undef = AV.snap (fltL (rAt 0 rs b).2) 3) && (Nat.blt (0 + Int.toNat b * 1) (List.length (setL (rdC 3 m rs) (0 + Int.toNat (↑i : Int) * 1) [AV.slc 1027 0 3])) && true) && (decide ((0 : Int) ≤ b ∧ b < (↑m : Int)) && (Nat.blt 1 (List.length (fltL (rAt 0 rs a).2)) && AV.isFlt (List.getD (fltL (rAt 0 rs a).2) 1 AV.undef) && (pb (List.getD (setL (rdC 3 m rs) (0 + Int.toNat (↑i : Int) * 1) [AV.slc 1027 0 3]) (0 + Int.toNat a * 1) AV.undef = AV.snap (fltL (rAt 0 rs a).2) 3) && (Nat.blt (0 + Int.toNat a * 1) (List.length (setL (rdC 3 m rs) (0 + Int.toNat (↑i : Int) * 1) [AV.slc 1027 0 3])) && true) && (decide ((0 : Int) ≤ a ∧ a < (↑m : Int)) && (pb (AV.flt (AV.toFlt (List.getD (setL (rvC m rs) (0 + Int.toNat (↑i : Int) * 1) [AV.flt (fdiv (rAt 0 rs a).1 (rAt 0 rs b).1)]) (0 + Int.toNat (↑i : Int) * 1) AV.undef)) = AV.flt (valR kF 0 xs rs (TOp.mk (5 : Int) a b c))) && (Nat.blt (0 + Int.toNat (↑i : Int) * 1) (List.length (setL (rvC m rs) (0 + Int.toNat (↑i : Int) * 1) [AV.flt (fdiv (rAt 0 rs a).1 (rAt 0 rs b).1)])) && AV.isFlt (List.getD (setL (rvC m rs) (0 + Int.toNat (↑i : Int) * 1) [AV.flt (fdiv (rAt 0 rs a).1 (rAt 0 rs b).1)]) (0 + Int.toNat (↑i : Int) * 1) AV.undef)) && (decide ((0 : Int) ≤ (↑i : Int) ∧ (↑i : Int) < (↑m : Int)) && (pb (AV.flt (AV.toFlt (List.getD (setL (rvC m rs) (0 + Int.toNat (↑i : Int) * 1) [AV.flt (fdiv (rAt 0 rs a).1 (rAt 0 rs b).1)]) (0 + Int.toNat b * 1) AV.undef)) = AV.flt (rAt 0 rs b).1) && (Nat.blt (0 + Int.toNat b * 1) (List.length (setL (rvC m rs) (0 + Int.toNat (↑i : Int) * 1) [AV.flt (fdiv (rAt 0 rs a).1 (rAt 0 rs b).1)])) && AV.isFlt (List.getD (setL (rvC m rs) (0 + Int.toNat (↑i : Int) * 1) [AV.flt (fdiv (rAt 0 rs a).1 (rAt 0 rs b).1)]) (0 + Int.toNat b * 1) AV.undef)) && (decide ((0 : Int) ≤ b ∧ b < (↑m : Int)) && (pb (AV.flt (AV.toFlt (List.getD (setL (rvC m rs) (0 + Int.toNat (↑i : Int) * 1) [AV.flt (fdiv (rAt 0 rs a).1 (rAt 0 rs b).1)]) (0 + Int.toNat a * 1) AV.undef)) = AV.flt (rAt 0 rs a).1) && (Nat.blt (0 + Int.toNat a * 1) (List.length (setL (rvC m rs) (0 + Int.toNat (↑i : Int) * 1) [AV.flt (fdiv (rAt 0 rs a).1 (rAt 0 rs b).1)])) && AV.isFlt (List.getD (setL (rvC m rs) (0 + Int.toNat (↑i : Int) * 1) [AV.flt (fdiv (rAt 0 rs a).1 (rAt 0 rs b).1)]) (0 + Int.toNat a * 1) AV.undef)) && (decide ((0 : Int) ≤ a ∧ a < (↑m : Int)) && (pb (List.getD (setL (rdC 3 m rs) (0 + Int.toNat (↑i : Int) * 1) [AV.slc 1027 0 3]) (0 + Int.toNat (↑i : Int) * 1) AV.undef = AV.slc 1027 0 3) && (Nat.blt (0 + Int.toNat (↑i : Int) * 1) (List.length (setL (rdC 3 m rs) (0 + Int.toNat (↑i : Int) * 1) [AV.slc 1027 0 3])) && true) && (decide ((0 : Int) ≤ (↑i : Int) ∧ (↑i : Int) < (↑m : Int)) && (Nat.blt 0 (List.length (fltL (rAt 0 rs b).2)) && AV.isFlt (List.getD (fltL (rAt 0 rs b).2) 0 AV.undef) && (pb (List.getD (setL (rdC 3 m rs) (0 + Int.toNat (↑i : Int) * 1) [AV.slc 1027 0 3]) (0 + Int.toNat b * 1) AV.undef = AV.snap (fltL (rAt 0 rs b).2) 3) && (Nat.blt (0 + Int.toNat b * 1) (List.length (setL (rdC 3 m rs) (0 + Int.toNat (↑i : Int) * 1) [AV.slc 1027 0 3])) && true) && (decide ((0 : Int) ≤ b ∧ b < (↑m : Int)) && (Nat.blt 0 (List.length (fltL (rAt 0 rs a).2)) && AV.isFlt (List.getD (fltL (rAt 0 rs a).2) 0 AV.undef) && (pb (List.getD (setL (rdC 3 m rs) (0 + Int.toNat (↑i : Int) * 1) [AV.slc 1027 0 3]) (0 + Int.toNat a * 1) AV.undef = AV.snap (fltL (rAt 0 rs a).2) 3) && (Nat.blt (0 + Int.toNat a * 1) (List.length (setL (rdC 3 m rs) (0 + Int.toNat (↑i : Int) * 1) [AV.slc 1027 0 3])) && true) && (decide ((0 : Int) ≤ a ∧ a < (↑m : Int)) && (pb (AV.flt (AV.toFlt (List.getD (setL (rvC m rs) (0 + Int.toNat (↑i : Int) * 1) [AV.flt (fdiv (rAt 0 rs a).1 (rAt 0 rs b).1)]) (0 + Int.toNat (↑i : Int) * 1) AV.undef)) = AV.flt (valR kF 0 xs rs (TOp.mk (5 : Int) a b c))) && (Nat.blt (0 + Int.toNat (↑i : Int) * 1) (List.length (setL (rvC m rs) (0 + Int.toNat (↑i : Int) * 1) [AV.flt (fdiv (rAt 0 rs a).1 (rAt 0 rs b).1)])) && AV.isFlt (List.getD (setL (rvC m rs) (0 + Int.toNat (↑i : Int) * 1) [AV.flt (fdiv (rAt 0 rs a).1 (rAt 0 rs b).1)]) (0 + Int.toNat (↑i : Int) * 1) AV.undef)) && (decide ((0 : Int) ≤ (↑i : Int) ∧ (↑i : Int) < (↑m : Int)) && (pb (AV.flt (AV.toFlt (List.getD (setL (rvC m rs) (0 + Int.toNat (↑i : Int) * 1) [AV.flt (fdiv (rAt 0 rs a).1 (rAt 0 rs b).1)]) (0 + Int.toNat b * 1) AV.undef)) = AV.flt (rAt 0 rs b).1) && (Nat.blt (0 + Int.toNat b * 1) (List.length (setL (rvC m rs) (0 + Int.toNat (↑i : Int) * 1) [AV.flt (fdiv (rAt 0 rs a).1 (rAt 0 rs b).1)])) && AV.isFlt (List.getD (setL (rvC m rs) (0 + Int.toNat (↑i : Int) * 1) [AV.flt (fdiv (rAt 0 rs a).1 (rAt 0 rs b).1)]) (0 + Int.toNat b * 1) AV.undef)) && (decide ((0 : Int) ≤ b ∧ b < (↑m : Int)) && (pb (AV.flt (AV.toFlt (List.getD (setL (rvC m rs) (0 + Int.toNat (↑i : Int) * 1) [AV.flt (fdiv (rAt 0 rs a).1 (rAt 0 rs b).1)]) (0 + Int.toNat a * 1) AV.undef)) = AV.flt (rAt 0 rs a).1) && (Nat.blt (0 + Int.toNat a * 1) (List.length (setL (rvC m rs) (0 + Int.toNat (↑i : Int) * 1) [AV.flt (fdiv (rAt 0 rs a).1 (rAt 0 rs b).1)])) && AV.isFlt (List.getD (setL (rvC m rs) (0 + Int.toNat (↑i : Int) * 1) [AV.flt (fdiv (rAt 0 rs a).1 (rAt 0 rs b).1)]) (0 + Int.toNat a * 1) AV.undef)) && (decide ((0 : Int) ≤ a ∧ a < (↑m : Int)) && (pb (List.getD (setL (rdC 3 m rs) (0 + Int.toNat (↑i : Int) * 1) [AV.slc 1027 0 3]) (0 + Int.toNat (↑i : Int) * 1) AV.undef = AV.slc 1027 0 3) && (Nat.blt (0 + Int.toNat (↑i : Int) * 1) (List.length (setL (rdC 3 m rs) (0 + Int.toNat (↑i : Int) * 1) [AV.slc 1027 0 3])) && true) && (decide ((0 : Int) ≤ (↑i : Int) ∧ (↑i : Int) < (↑m : Int)) && (Nat.ble (0 + Int.toNat (↑i : Int) * 1 + 1) (List.length (rvC m rs)) && true && (decide ((0 : Int) ≤ (↑i : Int) ∧ (↑i : Int) < (↑m : Int)) && (pb (AV.flt (AV.toFlt (List.getD (rvC m rs) (0 + Int.toNat b * 1) AV.undef)) = AV.flt (rAt 0 rs b).1) && (Nat.blt (0 + Int.toNat b * 1) (List.length (rvC m rs)) && AV.isFlt (List.getD (rvC m rs) (0 + Int.toNat b * 1) AV.undef)) && (decide ((0 : Int) ≤ b ∧ b < (↑m : Int)) && (pb (AV.flt (AV.toFlt (List.getD (rvC m rs) (0 + Int.toNat a * 1) AV.undef)) = AV.flt (rAt 0 rs a).1) && (Nat.blt (0 + Int.toNat a * 1) (List.length (rvC m rs)) && AV.isFlt (List.getD (rvC m rs) (0 + Int.toNat a * 1) AV.undef)) && (decide ((0 : Int) ≤ a ∧ a < (↑m : Int)) && (Nat.ble (0 + Int.toNat (↑i : Int) * 1 + 1) (List.length (rdC 3 m rs)) && true && (decide ((0 : Int) ≤ (↑i : Int) ∧ (↑i : Int) < (↑m : Int)) && (pb (AV.agg [AV.int IntKind.i64 (AV.toInt (List.getD (opsL ops) (Int.toNat (↑i : Int) * 4) AV.undef)), AV.int IntKind.i64 (AV.toInt (List.getD (opsL ops) (Int.toNat (↑i : Int) * 4 + 1) AV.undef)), AV.int IntKind.i64 (AV.toInt (List.getD (opsL ops) (Int.toNat (↑i : Int) * 4 + 1 + 1) AV.undef)), AV.flt (AV.toFlt (List.getD (opsL ops) (Int.toNat (↑i : Int) * 4 + 1 + 1 + 1) AV.undef))] = AV.agg [AV.int IntKind.i64 5, AV.int IntKind.i64 a, AV.int IntKind.i64 b, AV.flt c]) && (Nat.ble (Int.toNat (↑i : Int) * 4 + 4) (List.length (opsL ops)) && etasOk [Leaf.i IntKind.i64, Leaf.i IntKind.i64, Leaf.i IntKind.i64, Leaf.f] (opsL ops) (Int.toNat (↑i : Int) * 4)) && (decide ((0 : Int) ≤ (↑i : Int) ∧ (↑i : Int) < (↑m : Int)) && (decide ((↑i : Int) < (↑m : Int)) && true)))))))))))))))))))))))))))))))))))))))))))))))))))))))) = true) : Goes CM w0 191 (eBody) (mk [1,2,5,6,7] [.snap (fltL xs) lx, .ptr 0 0, .slc 1 0 m, .slc 2 0 m, .int .i64 (i : Int)] [⟨[.int .i64 3, .snap (opsL ops) m, .snap (intL outs) 3], 53⟩, ⟨rvC m rs, 24⟩, ⟨rdC 3 m rs, 34⟩] dec0) Ex.normal (mk [1,2,5,6,7] [AV.snap (fltL xs) lx, AV.ptr 0 0, AV.slc 1 0 m, AV.slc 2 0 m, AV.int IntKind.i64 (IntKind.wrap IntKind.i64 ((↑i : Int) + (1 : Int)))] [ABlk.mk [AV.int IntKind.i64 3, AV.snap (opsL ops) m, AV.snap (intL outs) 3] 53, ABlk.mk (rvC m (rs ++ [stepR kF 0 3 xs rs (TOp.mk (5 : Int) a b c)])) 24, ABlk.mk (rdC 3 m (rs ++ [stepR kF 0 3 xs rs (TOp.mk (5 : Int) a b c)])) 34] dec1) :=
  goes_re (dec := [true]) (goes_O (l := [(31, .agg [.int .i64 5, .int .i64 a, .int .i64 b, .flt c]), (135, .slc 1027 0 3), (143, .flt (rAt 0 rs a).v), (148, .flt (rAt 0 rs b).v), (152, .flt (valR kF 0 xs rs ⟨5, a, b, c⟩)), (157, .snap (fltL (rAt 0 rs a).d) 3), (165, .snap (fltL (rAt 0 rs b).d) 3), (46, .flt (rAt 0 rs a).v), (51, .flt (rAt 0 rs b).v)]) (goes_viewK' (ctxO_ok OM _) mixed (qs := [24]) (fuel := 8) [.lit, .giv (rvC m (rs ++ [stepR kF 0 3 xs rs ⟨5, a, b, c⟩])) [], .giv (rdC 3 m (rs ++ [stepR kF 0 3 xs rs ⟨5, a, b, c⟩])) [1027], .frzGiv (fltL (stepR kF 0 3 xs rs ⟨5, a, b, c⟩).d) []] (by kernel_rfl) hok dec1))
theorem eX3 (xs : List Nat) (lx : Nat) (ops : List TOp) (m : Nat) (outs : List Int) (rs : List (Rg Nat)) (i : Nat) (w0 : World) (dec0 dec1 : List Bool) (hok : (((List.all (rdC 3 m rs) AV.noOwn) && true && (!decide ((↑i : Int) < (↑m : Int)) && true))) = true) : Goes CM w0 191 (eBody) (mk [1,2,5,6,7] [.snap (fltL xs) lx, .ptr 0 0, .slc 1 0 m, .slc 2 0 m, .int .i64 (i : Int)] [⟨[.int .i64 3, .snap (opsL ops) m, .snap (intL outs) 3], 53⟩, ⟨rvC m rs, 24⟩, ⟨rdC 3 m rs, 34⟩] dec0) (Ex.exit 0) (mk [2,6] [AV.ptr 0 0, AV.snap (rdC 3 m rs) m] [ABlk.mk [AV.int IntKind.i64 3, AV.snap (opsL ops) m, AV.snap (intL outs) 3] 53] dec1) :=
  goes_re (dec := [false]) (goes_viewK' OM mixed (qs := [24]) (fuel := 8) [.lit, .frzFlat] (by kernel_rfl) hok dec1)
theorem eZ3 (xs : List Nat) (lx : Nat) (ops : List TOp) (m : Nat) (outs : List Int) (rs : List (Rg Nat)) (i : Nat) (w0 : World) (dec0 dec1 : List Bool) (hok : (((List.all ([] ++ List.take (AV.sLen (List.getD (rdC 3 m rs) (Int.toNat (AV.toInt (List.getD (intL outs) 0 AV.undef)) * 1) AV.undef) * 1) (AV.sCells (List.getD (rdC 3 m rs) (Int.toNat (AV.toInt (List.getD (intL outs) 0 AV.undef)) * 1) AV.undef))) AV.noOwn) && ((List.all ([] ++ List.take (AV.sLen (List.getD (rdC 3 m rs) (Int.toNat (AV.toInt (List.getD (intL outs) 1 AV.undef)) * 1) AV.undef) * 1) (AV.sCells (List.getD (rdC 3 m rs) (Int.toNat (AV.toInt (List.getD (intL outs) 1 AV.undef)) * 1) AV.undef))) AV.noOwn) && ((List.all ([] ++ List.take (AV.sLen (List.getD (rdC 3 m rs) (Int.toNat (AV.toInt (List.getD (intL outs) 2 AV.undef)) * 1) AV.undef) * 1) (AV.sCells (List.getD (rdC 3 m rs) (Int.toNat (AV.toInt (List.getD (intL outs) 2 AV.undef)) * 1) AV.undef))) AV.noOwn) && true)) && (Nat.ble (AV.sLen (List.getD (rdC 3 m rs) (Int.toNat (AV.toInt (List.getD (intL outs) 2 AV.undef)) * 1) AV.undef) * 1) (List.length (AV.sCells (List.getD (rdC 3 m rs) (Int.toNat (AV.toInt (List.getD (intL outs) 2 AV.undef)) * 1) AV.undef))) && List.all (List.take (AV.sLen (List.getD (rdC 3 m rs) (Int.toNat (AV.toInt (List.getD (intL outs) 2 AV.undef)) * 1) AV.undef) * 1) (AV.sCells (List.getD (rdC 3 m rs) (Int.toNat (AV.toInt (List.getD (intL outs) 2 AV.undef)) * 1) AV.undef))) AV.one && decide (0 = 0 ∧ (0 + AV.sLen (List.getD (rdC 3 m rs) (Int.toNat (AV.toInt (List.getD (intL outs) 2 AV.undef)) * 1) AV.undef)) * 8 ≤ 140737488355328 ∧ 0 + AV.sLen (List.getD (rdC 3 m rs) (Int.toNat (AV.toInt (List.getD (intL outs) 2 AV.undef)) * 1) AV.undef) ≤ 9223372036854775807) && (Nat.blt (Int.toNat (AV.toInt (List.getD (intL outs) 2 AV.undef)) * 1) (List.length (rdC 3 m rs)) && AV.isSn (List.getD (rdC 3 m rs) (Int.toNat (AV.toInt (List.getD (intL outs) 2 AV.undef)) * 1) AV.undef) && (decide ((0 : Int) ≤ AV.toInt (List.getD (intL outs) 2 AV.undef) ∧ AV.toInt (List.getD (intL outs) 2 AV.undef) < (↑m : Int)) && (Nat.blt 2 (List.length (intL outs)) && AV.isInt IntKind.i64 (List.getD (intL outs) 2 AV.undef) && (Nat.ble (AV.sLen (List.getD (rdC 3 m rs) (Int.toNat (AV.toInt (List.getD (intL outs) 1 AV.undef)) * 1) AV.undef) * 1) (List.length (AV.sCells (List.getD (rdC 3 m rs) (Int.toNat (AV.toInt (List.getD (intL outs) 1 AV.undef)) * 1) AV.undef))) && List.all (List.take (AV.sLen (List.getD (rdC 3 m rs) (Int.toNat (AV.toInt (List.getD (intL outs) 1 AV.undef)) * 1) AV.undef) * 1) (AV.sCells (List.getD (rdC 3 m rs) (Int.toNat (AV.toInt (List.getD (intL outs) 1 AV.undef)) * 1) AV.undef))) AV.one && decide (0 = 0 ∧ (0 + AV.sLen (List.getD (rdC 3 m rs) (Int.toNat (AV.toInt (List.getD (intL outs) 1 AV.undef)) * 1) AV.undef)) * 8 ≤ 140737488355328 ∧ 0 + AV.sLen (List.getD (rdC 3 m rs) (Int.toNat (AV.toInt (List.getD (intL outs) 1 AV.undef)) * 1) AV.undef) ≤ 9223372036854775807) && (Nat.blt (Int.toNat (AV.toInt (List.getD (intL outs) 1 AV.undef)) * 1) (List.length (rdC 3 m rs)) && AV.isSn (List.getD (rdC 3 m rs) (Int.toNat (AV.toInt (List.getD (intL outs) 1 AV.undef)) * 1) AV.undef) && (decide ((0 : Int) ≤ AV.toInt (List.getD (intL outs) 1 AV.undef) ∧ AV.toInt (List.getD (intL outs) 1 AV.undef) < (↑m : Int)) && (Nat.blt 1 (List.length (intL outs)) && AV.isInt IntKind.i64 (List.getD (intL outs) 1 AV.undef) && (Nat.ble (AV.sLen (List.getD (rdC 3 m rs) (Int.toNat (AV.toInt (List.getD (intL outs) 0 AV.undef)) * 1) AV.undef) * 1) (List.length (AV.sCells (List.getD (rdC 3 m rs) (Int.toNat (AV.toInt (List.getD (intL outs) 0 AV.undef)) * 1) AV.undef))) && List.all (List.take (AV.sLen (List.getD (rdC 3 m rs) (Int.toNat (AV.toInt (List.getD (intL outs) 0 AV.undef)) * 1) AV.undef) * 1) (AV.sCells (List.getD (rdC 3 m rs) (Int.toNat (AV.toInt (List.getD (intL outs) 0 AV.undef)) * 1) AV.undef))) AV.one && decide (0 = 0 ∧ (0 + AV.sLen (List.getD (rdC 3 m rs) (Int.toNat (AV.toInt (List.getD (intL outs) 0 AV.undef)) * 1) AV.undef)) * 8 ≤ 140737488355328 ∧ 0 + AV.sLen (List.getD (rdC 3 m rs) (Int.toNat (AV.toInt (List.getD (intL outs) 0 AV.undef)) * 1) AV.undef) ≤ 9223372036854775807) && (Nat.blt (Int.toNat (AV.toInt (List.getD (intL outs) 0 AV.undef)) * 1) (List.length (rdC 3 m rs)) && AV.isSn (List.getD (rdC 3 m rs) (Int.toNat (AV.toInt (List.getD (intL outs) 0 AV.undef)) * 1) AV.undef) && (decide ((0 : Int) ≤ AV.toInt (List.getD (intL outs) 0 AV.undef) ∧ AV.toInt (List.getD (intL outs) 0 AV.undef) < (↑m : Int)) && (Nat.blt 0 (List.length (intL outs)) && AV.isInt IntKind.i64 (List.getD (intL outs) 0 AV.undef) && true)))))))))))))) = true) : Goes CM w0 191 (cR (cR (cR (cR eC)))) (mk [2,6] [.ptr 0 0, .snap (rdC 3 m rs) m] [⟨[.int .i64 3, .snap (opsL ops) m, .snap (intL outs) 3], 53⟩] dec0) Ex.ret (mk [4] [AV.slc 0 0 3] [ABlk.mk [AV.slc 1 0 (0 + AV.sLen (List.getD (rdC 3 m rs) (Int.toNat (AV.toInt (List.getD (intL outs) 0 AV.undef)) * 1) AV.undef)), AV.slc 2 0 (0 + AV.sLen (List.getD (rdC 3 m rs) (Int.toNat (AV.toInt (List.getD (intL outs) 1 AV.undef)) * 1) AV.undef)), AV.slc 3 0 (0 + AV.sLen (List.getD (rdC 3 m rs) (Int.toNat (AV.toInt (List.getD (intL outs) 2 AV.undef)) * 1) AV.undef))] 34, ABlk.mk ([] ++ List.take (AV.sLen (List.getD (rdC 3 m rs) (Int.toNat (AV.toInt (List.getD (intL outs) 0 AV.undef)) * 1) AV.undef) * 1) (AV.sCells (List.getD (rdC 3 m rs) (Int.toNat (AV.toInt (List.getD (intL outs) 0 AV.undef)) * 1) AV.undef))) 24, ABlk.mk ([] ++ List.take (AV.sLen (List.getD (rdC 3 m rs) (Int.toNat (AV.toInt (List.getD (intL outs) 1 AV.undef)) * 1) AV.undef) * 1) (AV.sCells (List.getD (rdC 3 m rs) (Int.toNat (AV.toInt (List.getD (intL outs) 1 AV.undef)) * 1) AV.undef))) 24, ABlk.mk ([] ++ List.take (AV.sLen (List.getD (rdC 3 m rs) (Int.toNat (AV.toInt (List.getD (intL outs) 2 AV.undef)) * 1) AV.undef) * 1) (AV.sCells (List.getD (rdC 3 m rs) (Int.toNat (AV.toInt (List.getD (intL outs) 2 AV.undef)) * 1) AV.undef))) 24] dec1) :=
  goes_re (dec := []) (goes_viewK' OM mixed (qs := []) (fuel := 8) [.lit, .flat, .flat, .flat] (by kernel_rfl) hok dec1)
end Go.Eng.Try
/- Fields, part 6: the document's way of telling how a field of floats changes (enveloperef4.Jac): contract. Condition: the field may be. Written by wip/tools/genR2.py. -/
namespace Go.Eng
open Go Go.RowKit

theorem getD_set_self {α : Type} (L : List α) (i : Nat) (x z : α) (h : i < L.length) : (L.set i x).getD i z = x := by
  simp [List.getD_eq_getElem?_getD, List.getElem?_set, h]
theorem getD_set_ne {α : Type} (L : List α) (i j : Nat) (x z : α) (h : i ≠ j) : (L.set i x).getD j z = L.getD j z := by
  simp [List.getD_eq_getElem?_getD, List.getElem?_set, h]
theorem set_snoc {α : Type} (A : List α) (x z : α) (k : Nat) : (A ++ List.replicate (k + 1) z).set A.length x = (A ++ [x]) ++ List.replicate k z := by
  rw [List.set_append_right _ _ (Nat.le_refl _), Nat.sub_self, List.replicate_succ, List.set_cons_zero, List.append_assoc]
  rfl
theorem SubP.set {σ : List (Nat × List AV)} {ids : List Nat} {n : Nat} {A : List AV} {x y : AV} (hA : A.all AV.noOwn = true) (i : Nat) (h : sub true σ ids n 4096 x = some y) : SubP true σ ids n (A.set i x) (A.set i y) := by
  refine ⟨by simp, fun j u v hu hv => ?_⟩
  rw [List.getElem?_set] at hu hv
  by_cases hij : i = j
  · rw [if_pos hij] at hu hv
    split at hu
    · cases hu
      rw [if_pos (by assumption)] at hv
      cases hv
      exact .inr h
    · cases hu
  · rw [if_neg hij] at hu hv
    rw [hu] at hv
    cases hv
    exact .inl ⟨rfl, List.all_eq_true.1 hA u (List.mem_of_getElem? hu)⟩

namespace Try
open Go.Proofs.Try

section
variable {m : Nat} {rs : List (Rg Nat)}
theorem rvC_length (h : rs.length ≤ m) : (rvC m rs).length = m := by unfold rvC; simp [fltL]; omega
theorem rvC_noOwn (m : Nat) (rs : List (Rg Nat)) : (rvC m rs).all AV.noOwn = true := by
  unfold rvC
  rw [List.all_append, fltL_noOwn]
  simp [List.all_eq_true, AV.noOwn]
theorem rvC_get {a : Int} (h0 : 0 ≤ a) (h1 : a < rs.length) : (rvC m rs).getD a.toNat .undef = .flt (rAt 0 rs a).v := by
  have h : a.toNat < rs.length := by omega
  unfold rvC rAt
  rw [getD_append_left _ _ _ _ (by simp [fltL]; exact h), fltL_get (by simpa using h)]
  simp [List.getD_eq_getElem?_getD, List.getElem?_eq_getElem h]
theorem rvC_set (h : rs.length < m) (r : Rg Nat) : (rvC m rs).set rs.length (.flt r.v) = rvC m (rs ++ [r]) := by
  unfold rvC
  rw [show m - rs.length = (m - (rs ++ [r]).length) + 1 by simp; omega]
  have := set_snoc (fltL (rs.map fun r => r.v)) (.flt r.v) (.flt 0) (m - (rs ++ [r]).length)
  rw [show (fltL (rs.map fun r => r.v)).length = rs.length by simp [fltL]] at this
  rw [this]
  simp [fltL]
theorem rdC_length {N : Nat} (h : rs.length ≤ m) : (rdC N m rs).length = m := by unfold rdC rdL; simp; omega
theorem rdC_noOwn (N m : Nat) (rs : List (Rg Nat)) : (rdC N m rs).all AV.noOwn = true := by
  unfold rdC rdL
  rw [List.all_append]
  simp [List.all_eq_true, AV.noOwn]
theorem rdC_get {N : Nat} {a : Int} (h0 : 0 ≤ a) (h1 : a < rs.length) : (rdC N m rs).getD a.toNat .undef = .snap (fltL (rAt 0 rs a).d) N := by
  have h : a.toNat < rs.length := by omega
  unfold rdC rdL rAt
  rw [getD_append_left _ _ _ _ (by simpa using h)]
  simp [List.getD_eq_getElem?_getD, List.getElem?_eq_getElem h]
theorem rdC_set {N : Nat} (h : rs.length < m) (r : Rg Nat) : (rdC N m rs).set rs.length (.snap (fltL r.d) N) = rdC N m (rs ++ [r]) := by
  unfold rdC
  rw [show m - rs.length = (m - (rs ++ [r]).length) + 1 by simp; omega]
  have := set_snoc (rdL N rs) (.snap (fltL r.d) N) .nils (m - (rs ++ [r]).length)
  rw [show (rdL N rs).length = rs.length by simp [rdL]] at this
  rw [this]
  simp [rdL]
end

def eSt1 (xs : List Nat) (ops : List TOp) (outs : List Int) (rs : List (Rg Nat)) (i : Nat) : St :=
  mk [1,2,5,6,7] [.snap (fltL xs) xs.length, .ptr 0 0, .slc 1 0 ops.length, .slc 2 0 ops.length, .int .i64 (i : Int)] [⟨[.int .i64 1, .snap (opsL ops) ops.length, .snap (intL outs) 1], 53⟩, ⟨rvC ops.length rs, 24⟩, ⟨rdC 1 ops.length rs, 34⟩] []

theorem eRound1 (xs : List Nat) (ops : List TOp) (outs : List Int) (rs : List (Rg Nat)) (i : Nat) (hi : i < ops.length) (hm : ops.length < 1000) (hl : rs.length = i) (hw : Wide 1 rs) (ho : OpsOk xs.length ops) (hx : xs.length = 1) (w0 : World) :
    Goes CM w0 191 eBody (eSt1 xs ops outs rs i) .normal (eSt1 xs ops outs (rs ++ [stepR kF 0 1 xs rs (ops.getD i op0)]) (i + 1)) := by
  have ew : IntKind.i64.wrap ((i : Int) + 1) = ((i + 1 : Nat) : Int) := by rw [wrapI (by omega) (by omega)]; rfl
  obtain ⟨g0, g1, g2, g3⟩ := opsL_at ops i hi
  rw [Int.toNat_natCast] at g0 g1 g2 g3
  have hop := ho i hi
  have hlen := opsL_length ops
  have hlv : (rvC ops.length rs).length = ops.length := rvC_length (by omega)
  have hld : (rdC 1 ops.length rs).length = ops.length := rdC_length (by omega)
  have gsi : ∀ x, ((rvC ops.length rs).set i x).getD i .undef = x := fun x => getD_set_self _ _ _ _ (by omega)
  have hsi : ∀ x, ((rdC 1 ops.length rs).set i x).getD i .undef = x := fun x => getD_set_self _ _ _ _ (by omega)
  have hvs : ∀ r : Rg Nat, (rvC ops.length rs).set i (.flt r.v) = rvC ops.length (rs ++ [r]) := fun r => by subst hl; exact rvC_set (by omega) r
  have hds : ∀ r : Rg Nat, (rdC 1 ops.length rs).set i (.snap (fltL r.d) 1) = rdC 1 ops.length (rs ++ [r]) := fun r => by subst hl; exact rdC_set (by omega) r
  have fin : ∀ o, mk [1,2,5,6,7] [.snap (fltL xs) xs.length, .ptr 0 0, .slc 1 0 ops.length, .slc 2 0 ops.length, .int .i64 (IntKind.wrap .i64 ((i : Int) + 1))] [⟨[.int .i64 1, .snap (opsL ops) ops.length, .snap (intL outs) 1], 53⟩, ⟨rvC ops.length (rs ++ [stepR kF 0 1 xs rs o]), 24⟩, ⟨rdC 1 ops.length (rs ++ [stepR kF 0 1 xs rs o]), 34⟩] [] = eSt1 xs ops outs (rs ++ [stepR kF 0 1 xs rs o]) (i + 1) := fun o => by unfold eSt1; rw [← ew]
  generalize ops.getD i op0 = o at *
  obtain ⟨k, a, b, c⟩ := o
  dsimp only at g0 g1 g2 g3
  rcases hop with ⟨hk, _⟩ | ⟨hk, h0, h1, _⟩ | ⟨hk, h0, h1, h2, h3, _⟩
  · dsimp only at hk
    subst hk
    refine goes_to (eI1_0 xs xs.length ops ops.length outs rs i a b c w0 [] [] ?_) (fin _)
    simp only [Int.toNat_natCast, Nat.zero_add, Nat.mul_one, setL, List.length_set]
    simp only [Bool.and_eq_true]
    and_intros
    all_goals first
      | rfl
      | exact trivial
      | (simp only [decide_eq_true_eq]; omega)
      | (simp only [Nat.blt_eq, Nat.ble_eq]; omega)
      | (simp only [etasOk, g0, g1, g2, g3]; rfl)
      | (apply pb_of; simp only [g0, g1, g2, g3, AV.toInt, AV.toFlt]; done)
      | (apply pb_of; simp only [hsi]; done)
      | exact pb_of (by rw [← hvs]; exact SubP.same (A := (rvC ops.length rs).set i (.flt (stepR kF 0 1 xs rs ⟨0, a, b, c⟩).v)) (by rw [hvs]; exact rvC_noOwn _ _))
      | exact pb_of (by rw [← hds]; exact SubP.set (rdC_noOwn _ _ _) _ rfl)
      | exact pb_of (SubP.same (A := fltL (stepR kF 0 1 xs rs ⟨0, a, b, c⟩).d) rfl)
  · dsimp only at hk h0 h1
    subst hk
    have hax : a.toNat < xs.length := by omega
    have gx := fltL_get hax
    refine goes_to (eI1_1 xs xs.length ops ops.length outs rs i a b c w0 [] [] ?_) (fin _)
    simp only [Int.toNat_natCast, Nat.zero_add, Nat.mul_one, setL, List.length_set]
    simp only [Bool.and_eq_true]
    and_intros
    all_goals first
      | rfl
      | exact trivial
      | (simp only [decide_eq_true_eq]; omega)
      | (simp only [Nat.blt_eq, Nat.ble_eq, fltL_length]; omega)
      | (simp only [etasOk, g0, g1, g2, g3]; rfl)
      | (apply pb_of; simp only [g0, g1, g2, g3, AV.toInt, AV.toFlt]; done)
      | (simp only [gx]; rfl)
      | (apply pb_of; simp only [gx, AV.toFlt]; done)
      | (apply pb_of; simp only [hsi]; done)
      | exact pb_of (by rw [← hvs]; exact SubP.same (A := (rvC ops.length rs).set i (.flt (stepR kF 0 1 xs rs ⟨1, a, b, c⟩).v)) (by rw [hvs]; exact rvC_noOwn _ _))
      | exact pb_of (by rw [← hds]; exact SubP.set (rdC_noOwn _ _ _) _ rfl)
      | (apply pb_of
         rw [hx] at h1
         have ha : a = 0 := by omega
         rcases ha with rfl <;> exact SubP.same rfl)
  · dsimp only at hk h0 h1 h2 h3
    have da := hw _ (rAt_mem 0 rs a h0 (by omega))
    have db := hw _ (rAt_mem 0 rs b h2 (by omega))
    have gva := rvC_get (m := ops.length) h0 (show a < rs.length by omega)
    have gvb := rvC_get (m := ops.length) h2 (show b < rs.length by omega)
    have gsa : ∀ x, ((rvC ops.length rs).set i x).getD a.toNat .undef = .flt (rAt 0 rs a).v := fun x => by rw [getD_set_ne _ _ _ _ _ (by omega)]; exact gva
    have gsb : ∀ x, ((rvC ops.length rs).set i x).getD b.toNat .undef = .flt (rAt 0 rs b).v := fun x => by rw [getD_set_ne _ _ _ _ _ (by omega)]; exact gvb
    have hsa : ∀ x, ((rdC 1 ops.length rs).set i x).getD a.toNat .undef = .snap (fltL (rAt 0 rs a).d) 1 := fun x => by rw [getD_set_ne _ _ _ _ _ (by omega)]; exact rdC_get h0 (by omega)
    have hsb : ∀ x, ((rdC 1 ops.length rs).set i x).getD b.toNat .undef = .snap (fltL (rAt 0 rs b).d) 1 := fun x => by rw [getD_set_ne _ _ _ _ _ (by omega)]; exact rdC_get h2 (by omega)
    have fa0 := fltL_get (xs := (rAt 0 rs a).d) (i := 0) (by omega)
    have fb0 := fltL_get (xs := (rAt 0 rs b).d) (i := 0) (by omega)
    rcases hk with hk | hk | hk | hk <;> subst hk
    · refine goes_to (eI1_2 xs xs.length ops ops.length outs rs i a b c w0 [] [] ?_) (fin _)
      simp only [Int.toNat_natCast, Nat.zero_add, Nat.mul_one, setL, List.length_set]
      simp only [Bool.and_eq_true]
      and_intros
      all_goals first
        | rfl
        | exact trivial
        | (simp only [decide_eq_true_eq]; omega)
        | (simp only [Nat.blt_eq, Nat.ble_eq, fltL_length]; omega)
        | (simp only [etasOk, g0, g1, g2, g3]; rfl)
        | (apply pb_of; simp only [g0, g1, g2, g3, AV.toInt, AV.toFlt]; done)
        | (simp only [gva, gvb, gsa, gsb, gsi, fa0, fb0]; rfl)
        | (apply pb_of; simp only [gva, gvb, gsa, gsb, AV.toFlt]; done)
        | (apply pb_of; rw [gsi]; rfl)
        | (apply pb_of; simp only [hsa, hsb, hsi]; done)
        | exact pb_of (by rw [← hvs]; exact SubP.same (A := (rvC ops.length rs).set i (.flt (stepR kF 0 1 xs rs ⟨2, a, b, c⟩).v)) (by rw [hvs]; exact rvC_noOwn _ _))
        | exact pb_of (by rw [← hds]; exact SubP.set (rdC_noOwn _ _ _) _ rfl)
        | (apply pb_of; simp only [fa0, fb0, AV.toFlt]; exact SubP.same (A := fltL (stepR kF 0 1 xs rs ⟨2, a, b, c⟩).d) rfl)
    · refine goes_to (eI1_3 xs xs.length ops ops.length outs rs i a b c w0 [] [] ?_) (fin _)
      simp only [Int.toNat_natCast, Nat.zero_add, Nat.mul_one, setL, List.length_set]
      simp only [Bool.and_eq_true]
      and_intros
      all_goals first
        | rfl
        | exact trivial
        | (simp only [decide_eq_true_eq]; omega)
        | (simp only [Nat.blt_eq, Nat.ble_eq, fltL_length]; omega)
        | (simp only [etasOk, g0, g1, g2, g3]; rfl)
        | (apply pb_of; simp only [g0, g1, g2, g3, AV.toInt, AV.toFlt]; done)
        | (simp only [gva, gvb, gsa, gsb, gsi, fa0, fb0]; rfl)
        | (apply pb_of; simp only [gva, gvb, gsa, gsb, AV.toFlt]; done)
        | (apply pb_of; rw [gsi]; rfl)
        | (apply pb_of; simp only [hsa, hsb, hsi]; done)
        | exact pb_of (by rw [← hvs]; exact SubP.same (A := (rvC ops.length rs).set i (.flt (stepR kF 0 1 xs rs ⟨3, a, b, c⟩).v)) (by rw [hvs]; exact rvC_noOwn _ _))
        | exact pb_of (by rw [← hds]; exact SubP.set (rdC_noOwn _ _ _) _ rfl)
        | (apply pb_of; simp only [fa0, fb0, AV.toFlt]; exact SubP.same (A := fltL (stepR kF 0 1 xs rs ⟨3, a, b, c⟩).d) rfl)
    · refine goes_to (eI1_4 xs xs.length ops ops.length outs rs i a b c w0 [] [] ?_) (fin _)
      simp only [Int.toNat_natCast, Nat.zero_add, Nat.mul_one, setL, List.length_set]
      simp only [Bool.and_eq_true]
      and_intros
      all_goals first
        | rfl
        | exact trivial
        | (simp only [decide_eq_true_eq]; omega)
        | (simp only [Nat.blt_eq, Nat.ble_eq, fltL_length]; omega)
        | (simp only [etasOk, g0, g1, g2, g3]; rfl)
        | (apply pb_of; simp only [g0, g1, g2, g3, AV.toInt, AV.toFlt]; done)
        | (simp only [gva, gvb, gsa, gsb, gsi, fa0, fb0]; rfl)
        | (apply pb_of; simp only [gva, gvb, gsa, gsb, AV.toFlt]; done)
        | (apply pb_of; rw [gsi]; rfl)
        | (apply pb_of; simp only [hsa, hsb, hsi]; done)
        | exact pb_of (by rw [← hvs]; exact SubP.same (A := (rvC ops.length rs).set i (.flt (stepR kF 0 1 xs rs ⟨4, a, b, c⟩).v)) (by rw [hvs]; exact rvC_noOwn _ _))
        | exact pb_of (by rw [← hds]; exact SubP.set (rdC_noOwn _ _ _) _ rfl)
        | (apply pb_of; simp only [fa0, fb0, AV.toFlt]; exact SubP.same (A := fltL (stepR kF 0 1 xs rs ⟨4, a, b, c⟩).d) rfl)
    · refine goes_to (eI1_5 xs xs.length ops ops.length outs rs i a b c w0 [] [] ?_) (fin _)
      simp only [Int.toNat_natCast, Nat.zero_add, Nat.mul_one, setL, List.length_set]
      simp only [Bool.and_eq_true]
      and_intros
      all_goals first
        | rfl
        | exact trivial
        | (simp only [decide_eq_true_eq]; omega)
        | (simp only [Nat.blt_eq, Nat.ble_eq, fltL_length]; omega)
        | (simp only [etasOk, g0, g1, g2, g3]; rfl)
        | (apply pb_of; simp only [g0, g1, g2, g3, AV.toInt, AV.toFlt]; done)
        | (simp only [gva, gvb, gsa, gsb, gsi, fa0, fb0]; rfl)
        | (apply pb_of; simp only [gva, gvb, gsa, gsb, AV.toFlt]; done)
        | (apply pb_of; rw [gsi]; rfl)
        | (apply pb_of; simp only [hsa, hsb, hsi]; done)
        | exact pb_of (by rw [← hvs]; exact SubP.same (A := (rvC ops.length rs).set i (.flt (stepR kF 0 1 xs rs ⟨5, a, b, c⟩).v)) (by rw [hvs]; exact rvC_noOwn _ _))
        | exact pb_of (by rw [← hds]; exact SubP.set (rdC_noOwn _ _ _) _ rfl)
        | (apply pb_of; simp only [fa0, fb0, AV.toFlt]; exact SubP.same (A := fltL (stepR kF 0 1 xs rs ⟨5, a, b, c⟩).d) rfl)

theorem con_ejac1 (xs : List Nat) (ops : List TOp) (outs : List Int) (hm : ops.length < 1000) (ho : OpsOk xs.length ops) (hx : xs.length = 1) (hout : OutsOk 1 ops.length outs) (n : Nat) :
    Con prog 63 [.agg [.int .i64 1, .snap (opsL ops) ops.length, .snap (intL outs) 1], .snap (fltL xs) xs.length] n (.slc n 0 1) [⟨[.slc (n + 1) 0 1], 34⟩, ⟨jRow 1 (jacD kF 0 1 xs ops outs 0), 24⟩] := by
  have hrl : (runR kF 0 1 xs ops ops.length).length = ops.length := runR_length _ _ _ _ _ _
  have hwr : Wide 1 (runR kF 0 1 xs ops ops.length) := runR_d _ _ _ _ _ _
  refine con_goesKC (es := es4) (d := 8) (deep := shallow []) 191 (by kernel_rfl) (dec := []) (e := .ret) (s := mk [4] [.slc 0 0 1] [⟨[.slc 1 0 1], 34⟩, ⟨jRow 1 (jacD kF 0 1 xs ops outs 0), 24⟩] []) [] (r := ⟨_, _, true⟩) (by kernel_rfl) rfl (.inl rfl) fun w0 => ?_
  refine goes_seq (by kernel_rfl) (eA1 xs xs.length ops ops.length outs w0 []) (goes_seq (by kernel_rfl) (goes_to (eB1 xs xs.length ops ops.length outs w0 [] [] ?_) ?_) (goes_seq (by kernel_rfl) (goes_to (eD1 xs xs.length ops ops.length outs (rvC ops.length []) w0 [] [] ?_) ?_) (goes_seq (by kernel_rfl) (goes_seq (by kernel_rfl) (goes_to (eE1 xs xs.length ops ops.length outs (rvC ops.length []) (rdC 1 ops.length []) w0 [] [] ?_) ?_) (goes_block (id := 0) (by kernel_rfl) (goes_loop (by kernel_rfl) (fun h => by cases h) ops.length (fun i => eSt1 xs ops outs (runR kF 0 1 xs ops i) i) (s2 := _) ?_ ?_))) (goes_to (eZ1 xs xs.length ops ops.length outs (runR kF 0 1 xs ops ops.length) ops.length w0 [] [] ?_) ?_))))
  · simp [AV.noOwn]; omega
  · simp only [Int.toNat_natCast]; rfl
  · simp [rvC_noOwn, AV.noOwn]; omega
  · simp only [Int.toNat_natCast]; rfl
  · simp [rvC_noOwn, rdC_noOwn]
  · rfl
  · intro i hi
    exact eRound1 xs ops outs (runR kF 0 1 xs ops i) i hi hm (runR_length _ _ _ _ _ _) (runR_d _ _ _ _ _ _) ho hx w0
  · exact eX1 xs xs.length ops ops.length outs (runR kF 0 1 xs ops ops.length) ops.length w0 [] [] (by
      simp only [Bool.and_eq_true]
      and_intros
      all_goals first
        | rfl
        | exact trivial
        | exact rdC_noOwn _ _ _
        | simp)
  · have hld : (rdC 1 ops.length (runR kF 0 1 xs ops ops.length)).length = ops.length := rdC_length (by omega)
    have h0 := hout.2 0 (by omega)
    have o0 := intL_get (xs := outs) (i := 0) (by rw [hout.1]; omega)
    have r0 := rdC_get (m := ops.length) (N := 1) (rs := runR kF 0 1 xs ops ops.length) (a := outs.getD 0 0) h0.1 (by rw [hrl]; exact h0.2)
    have d0 := jacD_length kF 0 (xs := xs) hout (j := 0) (by omega)
    have e0 : fltL (rAt 0 (runR kF 0 1 xs ops ops.length) (outs.getD 0 0)).d = jRow 1 (jacD kF 0 1 xs ops outs 0) := fltL_row d0
    have t0 : List.take 1 (jRow 1 (jacD kF 0 1 xs ops outs 0)) = jRow 1 (jacD kF 0 1 xs ops outs 0) := rfl
    simp only [o0, r0, e0, AV.toInt, AV.sLen, AV.sCells, AV.isSn, Nat.mul_one, List.nil_append, t0]
    simp only [Bool.and_eq_true]
    and_intros
    all_goals first
      | rfl
      | exact trivial
      | exact fltL_noOwn _
      | (rw [Nat.blt_eq]; simp only [intL_length, hld, hout.1]; omega)
      | (rw [Nat.ble_eq]; rw [fltL_length]; omega)
      | (simp only [decide_eq_true_eq]; omega)
      | (simp; omega)
  · have hld : (rdC 1 ops.length (runR kF 0 1 xs ops ops.length)).length = ops.length := rdC_length (by omega)
    have h0 := hout.2 0 (by omega)
    have o0 := intL_get (xs := outs) (i := 0) (by rw [hout.1]; omega)
    have r0 := rdC_get (m := ops.length) (N := 1) (rs := runR kF 0 1 xs ops ops.length) (a := outs.getD 0 0) h0.1 (by rw [hrl]; exact h0.2)
    have d0 := jacD_length kF 0 (xs := xs) hout (j := 0) (by omega)
    have e0 : fltL (rAt 0 (runR kF 0 1 xs ops ops.length) (outs.getD 0 0)).d = jRow 1 (jacD kF 0 1 xs ops outs 0) := fltL_row d0
    have t0 : List.take 1 (jRow 1 (jacD kF 0 1 xs ops outs 0)) = jRow 1 (jacD kF 0 1 xs ops outs 0) := rfl
    simp only [o0, r0, e0, AV.toInt, AV.sLen, AV.sCells, Nat.mul_one, List.nil_append, t0]

def eSt2 (xs : List Nat) (ops : List TOp) (outs : List Int) (rs : List (Rg Nat)) (i : Nat) : St :=
  mk [1,2,5,6,7] [.snap (fltL xs) xs.length, .ptr 0 0, .slc 1 0 ops.length, .slc 2 0 ops.length, .int .i64 (i : Int)] [⟨[.int .i64 2, .snap (opsL ops) ops.length, .snap (intL outs) 2], 53⟩, ⟨rvC ops.length rs, 24⟩, ⟨rdC 2 ops.length rs, 34⟩] []

theorem eRound2 (xs : List Nat) (ops : List TOp) (outs : List Int) (rs : List (Rg Nat)) (i : Nat) (hi : i < ops.length) (hm : ops.length < 1000) (hl : rs.length = i) (hw : Wide 2 rs) (ho : OpsOk xs.length ops) (hx : xs.length = 2) (w0 : World) :
    Goes CM w0 191 eBody (eSt2 xs ops outs rs i) .normal (eSt2 xs ops outs (rs ++ [stepR kF 0 2 xs rs (ops.getD i op0)]) (i + 1)) := by
  have ew : IntKind.i64.wrap ((i : Int) + 1) = ((i + 1 : Nat) : Int) := by rw [wrapI (by omega) (by omega)]; rfl
  obtain ⟨g0, g1, g2, g3⟩ := opsL_at ops i hi
  rw [Int.toNat_natCast] at g0 g1 g2 g3
  have hop := ho i hi
  have hlen := opsL_length ops
  have hlv : (rvC ops.length rs).length = ops.length := rvC_length (by omega)
  have hld : (rdC 2 ops.length rs).length = ops.length := rdC_length (by omega)
  have gsi : ∀ x, ((rvC ops.length rs).set i x).getD i .undef = x := fun x => getD_set_self _ _ _ _ (by omega)
  have hsi : ∀ x, ((rdC 2 ops.length rs).set i x).getD i .undef = x := fun x => getD_set_self _ _ _ _ (by omega)
  have hvs : ∀ r : Rg Nat, (rvC ops.length rs).set i (.flt r.v) = rvC ops.length (rs ++ [r]) := fun r => by subst hl; exact rvC_set (by omega) r
  have hds : ∀ r : Rg Nat, (rdC 2 ops.length rs).set i (.snap (fltL r.d) 2) = rdC 2 ops.length (rs ++ [r]) := fun r => by subst hl; exact rdC_set (by omega) r
  have fin : ∀ o, mk [1,2,5,6,7] [.snap (fltL xs) xs.length, .ptr 0 0, .slc 1 0 ops.length, .slc 2 0 ops.length, .int .i64 (IntKind.wrap .i64 ((i : Int) + 1))] [⟨[.int .i64 2, .snap (opsL ops) ops.length, .snap (intL outs) 2], 53⟩, ⟨rvC ops.length (rs ++ [stepR kF 0 2 xs rs o]), 24⟩, ⟨rdC 2 ops.length (rs ++ [stepR kF 0 2 xs rs o]), 34⟩] [] = eSt2 xs ops outs (rs ++ [stepR kF 0 2 xs rs o]) (i + 1) := fun o => by unfold eSt2; rw [← ew]
  generalize ops.getD i op0 = o at *
  obtain ⟨k, a, b, c⟩ := o
  dsimp only at g0 g1 g2 g3
  rcases hop with ⟨hk, _⟩ | ⟨hk, h0, h1, _⟩ | ⟨hk, h0, h1, h2, h3, _⟩
  · dsimp only at hk
    subst hk
    refine goes_to (eI2_0 xs xs.length ops ops.length outs rs i a b c w0 [] [] ?_) (fin _)
    simp only [Int.toNat_natCast, Nat.zero_add, Nat.mul_one, setL, List.length_set]
    simp only [Bool.and_eq_true]
    and_intros
    all_goals first
      | rfl
      | exact trivial
      | (simp only [decide_eq_true_eq]; omega)
      | (simp only [Nat.blt_eq, Nat.ble_eq]; omega)
      | (simp only [etasOk, g0, g1, g2, g3]; rfl)
      | (apply pb_of; simp only [g0, g1, g2, g3, AV.toInt, AV.toFlt]; done)
      | (apply pb_of; simp only [hsi]; done)
      | exact pb_of (by rw [← hvs]; exact SubP.same (A := (rvC ops.length rs).set i (.flt (stepR kF 0 2 xs rs ⟨0, a, b, c⟩).v)) (by rw [hvs]; exact rvC_noOwn _ _))
      | exact pb_of (by rw [← hds]; exact SubP.set (rdC_noOwn _ _ _) _ rfl)
      | exact pb_of (SubP.same (A := fltL (stepR kF 0 2 xs rs ⟨0, a, b, c⟩).d) rfl)
  · dsimp only at hk h0 h1
    subst hk
    have hax : a.toNat < xs.length := by omega
    have gx := fltL_get hax
    refine goes_to (eI2_1 xs xs.length ops ops.length outs rs i a b c w0 [] [] ?_) (fin _)
    simp only [Int.toNat_natCast, Nat.zero_add, Nat.mul_one, setL, List.length_set]
    simp only [Bool.and_eq_true]
    and_intros
    all_goals first
      | rfl
      | exact trivial
      | (simp only [decide_eq_true_eq]; omega)
      | (simp only [Nat.blt_eq, Nat.ble_eq, fltL_length]; omega)
      | (simp only [etasOk, g0, g1, g2, g3]; rfl)
      | (apply pb_of; simp only [g0, g1, g2, g3, AV.toInt, AV.toFlt]; done)
      | (simp only [gx]; rfl)
      | (apply pb_of; simp only [gx, AV.toFlt]; done)
      | (apply pb_of; simp only [hsi]; done)
      | exact pb_of (by rw [← hvs]; exact SubP.same (A := (rvC ops.length rs).set i (.flt (stepR kF 0 2 xs rs ⟨1, a, b, c⟩).v)) (by rw [hvs]; exact rvC_noOwn _ _))
      | exact pb_of (by rw [← hds]; exact SubP.set (rdC_noOwn _ _ _) _ rfl)
      | (apply pb_of
         rw [hx] at h1
         have ha : a = 0 ∨ a = 1 := by omega
         rcases ha with rfl | rfl <;> exact SubP.same rfl)
  · dsimp only at hk h0 h1 h2 h3
    have da := hw _ (rAt_mem 0 rs a h0 (by omega))
    have db := hw _ (rAt_mem 0 rs b h2 (by omega))
    have gva := rvC_get (m := ops.length) h0 (show a < rs.length by omega)
    have gvb := rvC_get (m := ops.length) h2 (show b < rs.length by omega)
    have gsa : ∀ x, ((rvC ops.length rs).set i x).getD a.toNat .undef = .flt (rAt 0 rs a).v := fun x => by rw [getD_set_ne _ _ _ _ _ (by omega)]; exact gva
    have gsb : ∀ x, ((rvC ops.length rs).set i x).getD b.toNat .undef = .flt (rAt 0 rs b).v := fun x => by rw [getD_set_ne _ _ _ _ _ (by omega)]; exact gvb
    have hsa : ∀ x, ((rdC 2 ops.length rs).set i x).getD a.toNat .undef = .snap (fltL (rAt 0 rs a).d) 2 := fun x => by rw [getD_set_ne _ _ _ _ _ (by omega)]; exact rdC_get h0 (by omega)
    have hsb : ∀ x, ((rdC 2 ops.length rs).set i x).getD b.toNat .undef = .snap (fltL (rAt 0 rs b).d) 2 := fun x => by rw [getD_set_ne _ _ _ _ _ (by omega)]; exact rdC_get h2 (by omega)
    have fa0 := fltL_get (xs := (rAt 0 rs a).d) (i := 0) (by omega)
    have fb0 := fltL_get (xs := (rAt 0 rs b).d) (i := 0) (by omega)
    have fa1 := fltL_get (xs := (rAt 0 rs a).d) (i := 1) (by omega)
    have fb1 := fltL_get (xs := (rAt 0 rs b).d) (i := 1) (by omega)
    rcases hk with hk | hk | hk | hk <;> subst hk
    · refine goes_to (eI2_2 xs xs.length ops ops.length outs rs i a b c w0 [] [] ?_) (fin _)
      simp only [Int.toNat_natCast, Nat.zero_add, Nat.mul_one, setL, List.length_set]
      simp only [Bool.and_eq_true]
      and_intros
      all_goals first
        | rfl
        | exact trivial
        | (simp only [decide_eq_true_eq]; omega)
        | (simp only [Nat.blt_eq, Nat.ble_eq, fltL_length]; omega)
        | (simp only [etasOk, g0, g1, g2, g3]; rfl)
        | (apply pb_of; simp only [g0, g1, g2, g3, AV.toInt, AV.toFlt]; done)
        | (simp only [gva, gvb, gsa, gsb, gsi, fa0, fb0, fa1, fb1]; rfl)
        | (apply pb_of; simp only [gva, gvb, gsa, gsb, AV.toFlt]; done)
        | (apply pb_of; rw [gsi]; rfl)
        | (apply pb_of; simp only [hsa, hsb, hsi]; done)
        | exact pb_of (by rw [← hvs]; exact SubP.same (A := (rvC ops.length rs).set i (.flt (stepR kF 0 2 xs rs ⟨2, a, b, c⟩).v)) (by rw [hvs]; exact rvC_noOwn _ _))
        | exact pb_of (by rw [← hds]; exact SubP.set (rdC_noOwn _ _ _) _ rfl)
        | (apply pb_of; simp only [fa0, fb0, fa1, fb1, AV.toFlt]; exact SubP.same (A := fltL (stepR kF 0 2 xs rs ⟨2, a, b, c⟩).d) rfl)
    · refine goes_to (eI2_3 xs xs.length ops ops.length outs rs i a b c w0 [] [] ?_) (fin _)
      simp only [Int.toNat_natCast, Nat.zero_add, Nat.mul_one, setL, List.length_set]
      simp only [Bool.and_eq_true]
      and_intros
      all_goals first
        | rfl
        | exact trivial
        | (simp only [decide_eq_true_eq]; omega)
        | (simp only [Nat.blt_eq, Nat.ble_eq, fltL_length]; omega)
        | (simp only [etasOk, g0, g1, g2, g3]; rfl)
        | (apply pb_of; simp only [g0, g1, g2, g3, AV.toInt, AV.toFlt]; done)
        | (simp only [gva, gvb, gsa, gsb, gsi, fa0, fb0, fa1, fb1]; rfl)
        | (apply pb_of; simp only [gva, gvb, gsa, gsb, AV.toFlt]; done)
        | (apply pb_of; rw [gsi]; rfl)
        | (apply pb_of; simp only [hsa, hsb, hsi]; done)
        | exact pb_of (by rw [← hvs]; exact SubP.same (A := (rvC ops.length rs).set i (.flt (stepR kF 0 2 xs rs ⟨3, a, b, c⟩).v)) (by rw [hvs]; exact rvC_noOwn _ _))
        | exact pb_of (by rw [← hds]; exact SubP.set (rdC_noOwn _ _ _) _ rfl)
        | (apply pb_of; simp only [fa0, fb0, fa1, fb1, AV.toFlt]; exact SubP.same (A := fltL (stepR kF 0 2 xs rs ⟨3, a, b, c⟩).d) rfl)
    · refine goes_to (eI2_4 xs xs.length ops ops.length outs rs i a b c w0 [] [] ?_) (fin _)
      simp only [Int.toNat_natCast, Nat.zero_add, Nat.mul_one, setL, List.length_set]
      simp only [Bool.and_eq_true]
      and_intros
      all_goals first
        | rfl
        | exact trivial
        | (simp only [decide_eq_true_eq]; omega)
        | (simp only [Nat.blt_eq, Nat.ble_eq, fltL_length]; omega)
        | (simp only [etasOk, g0, g1, g2, g3]; rfl)
        | (apply pb_of; simp only [g0, g1, g2, g3, AV.toInt, AV.toFlt]; done)
        | (simp only [gva, gvb, gsa, gsb, gsi, fa0, fb0, fa1, fb1]; rfl)
        | (apply pb_of; simp only [gva, gvb, gsa, gsb, AV.toFlt]; done)
        | (apply pb_of; rw [gsi]; rfl)
        | (apply pb_of; simp only [hsa, hsb, hsi]; done)
        | exact pb_of (by rw [← hvs]; exact SubP.same (A := (rvC ops.length rs).set i (.flt (stepR kF 0 2 xs rs ⟨4, a, b, c⟩).v)) (by rw [hvs]; exact rvC_noOwn _ _))
        | exact pb_of (by rw [← hds]; exact SubP.set (rdC_noOwn _ _ _) _ rfl)
        | (apply pb_of; simp only [fa0, fb0, fa1, fb1, AV.toFlt]; exact SubP.same (A := fltL (stepR kF 0 2 xs rs ⟨4, a, b, c⟩).d) rfl)
    · refine goes_to (eI2_5 xs xs.length ops ops.length outs rs i a b c w0 [] [] ?_) (fin _)
      simp only [Int.toNat_natCast, Nat.zero_add, Nat.mul_one, setL, List.length_set]
      simp only [Bool.and_eq_true]
      and_intros
      all_goals first
        | rfl
        | exact trivial
        | (simp only [decide_eq_true_eq]; omega)
        | (simp only [Nat.blt_eq, Nat.ble_eq, fltL_length]; omega)
        | (simp only [etasOk, g0, g1, g2, g3]; rfl)
        | (apply pb_of; simp only [g0, g1, g2, g3, AV.toInt, AV.toFlt]; done)
        | (simp only [gva, gvb, gsa, gsb, gsi, fa0, fb0, fa1, fb1]; rfl)
        | (apply pb_of; simp only [gva, gvb, gsa, gsb, AV.toFlt]; done)
        | (apply pb_of; rw [gsi]; rfl)
        | (apply pb_of; simp only [hsa, hsb, hsi]; done)
        | exact pb_of (by rw [← hvs]; exact SubP.same (A := (rvC ops.length rs).set i (.flt (stepR kF 0 2 xs rs ⟨5, a, b, c⟩).v)) (by rw [hvs]; exact rvC_noOwn _ _))
        | exact pb_of (by rw [← hds]; exact SubP.set (rdC_noOwn _ _ _) _ rfl)
        | (apply pb_of; simp only [fa0, fb0, fa1, fb1, AV.toFlt]; exact SubP.same (A := fltL (stepR kF 0 2 xs rs ⟨5, a, b, c⟩).d) rfl)

theorem con_ejac2 (xs : List Nat) (ops : List TOp) (outs : List Int) (hm : ops.length < 1000) (ho : OpsOk xs.length ops) (hx : xs.length = 2) (hout : OutsOk 2 ops.length outs) (n : Nat) :
    Con prog 63 [.agg [.int .i64 2, .snap (opsL ops) ops.length, .snap (intL outs) 2], .snap (fltL xs) xs.length] n (.slc n 0 2) [⟨[.slc (n + 1) 0 2, .slc (n + 2) 0 2], 34⟩, ⟨jRow 2 (jacD kF 0 2 xs ops outs 0), 24⟩, ⟨jRow 2 (jacD kF 0 2 xs ops outs 1), 24⟩] := by
  have hrl : (runR kF 0 2 xs ops ops.length).length = ops.length := runR_length _ _ _ _ _ _
  have hwr : Wide 2 (runR kF 0 2 xs ops ops.length) := runR_d _ _ _ _ _ _
  refine con_goesKC (es := es4) (d := 8) (deep := shallow []) 191 (by kernel_rfl) (dec := []) (e := .ret) (s := mk [4] [.slc 0 0 2] [⟨[.slc 1 0 2, .slc 2 0 2], 34⟩, ⟨jRow 2 (jacD kF 0 2 xs ops outs 0), 24⟩, ⟨jRow 2 (jacD kF 0 2 xs ops outs 1), 24⟩] []) [] (r := ⟨_, _, true⟩) (by kernel_rfl) rfl (.inl rfl) fun w0 => ?_
  refine goes_seq (by kernel_rfl) (eA2 xs xs.length ops ops.length outs w0 []) (goes_seq (by kernel_rfl) (goes_to (eB2 xs xs.length ops ops.length outs w0 [] [] ?_) ?_) (goes_seq (by kernel_rfl) (goes_to (eD2 xs xs.length ops ops.length outs (rvC ops.length []) w0 [] [] ?_) ?_) (goes_seq (by kernel_rfl) (goes_seq (by kernel_rfl) (goes_to (eE2 xs xs.length ops ops.length outs (rvC ops.length []) (rdC 2 ops.length []) w0 [] [] ?_) ?_) (goes_block (id := 0) (by kernel_rfl) (goes_loop (by kernel_rfl) (fun h => by cases h) ops.length (fun i => eSt2 xs ops outs (runR kF 0 2 xs ops i) i) (s2 := _) ?_ ?_))) (goes_to (eZ2 xs xs.length ops ops.length outs (runR kF 0 2 xs ops ops.length) ops.length w0 [] [] ?_) ?_))))
  · simp [AV.noOwn]; omega
  · simp only [Int.toNat_natCast]; rfl
  · simp [rvC_noOwn, AV.noOwn]; omega
  · simp only [Int.toNat_natCast]; rfl
  · simp [rvC_noOwn, rdC_noOwn]
  · rfl
  · intro i hi
    exact eRound2 xs ops outs (runR kF 0 2 xs ops i) i hi hm (runR_length _ _ _ _ _ _) (runR_d _ _ _ _ _ _) ho hx w0
  · exact eX2 xs xs.length ops ops.length outs (runR kF 0 2 xs ops ops.length) ops.length w0 [] [] (by
      simp only [Bool.and_eq_true]
      and_intros
      all_goals first
        | rfl
        | exact trivial
        | exact rdC_noOwn _ _ _
        | simp)
  · have hld : (rdC 2 ops.length (runR kF 0 2 xs ops ops.length)).length = ops.length := rdC_length (by omega)
    have h0 := hout.2 0 (by omega)
    have o0 := intL_get (xs := outs) (i := 0) (by rw [hout.1]; omega)
    have r0 := rdC_get (m := ops.length) (N := 2) (rs := runR kF 0 2 xs ops ops.length) (a := outs.getD 0 0) h0.1 (by rw [hrl]; exact h0.2)
    have d0 := jacD_length kF 0 (xs := xs) hout (j := 0) (by omega)
    have e0 : fltL (rAt 0 (runR kF 0 2 xs ops ops.length) (outs.getD 0 0)).d = jRow 2 (jacD kF 0 2 xs ops outs 0) := fltL_row d0
    have t0 : List.take 2 (jRow 2 (jacD kF 0 2 xs ops outs 0)) = jRow 2 (jacD kF 0 2 xs ops outs 0) := rfl
    have h1 := hout.2 1 (by omega)
    have o1 := intL_get (xs := outs) (i := 1) (by rw [hout.1]; omega)
    have r1 := rdC_get (m := ops.length) (N := 2) (rs := runR kF 0 2 xs ops ops.length) (a := outs.getD 1 0) h1.1 (by rw [hrl]; exact h1.2)
    have d1 := jacD_length kF 0 (xs := xs) hout (j := 1) (by omega)
    have e1 : fltL (rAt 0 (runR kF 0 2 xs ops ops.length) (outs.getD 1 0)).d = jRow 2 (jacD kF 0 2 xs ops outs 1) := fltL_row d1
    have t1 : List.take 2 (jRow 2 (jacD kF 0 2 xs ops outs 1)) = jRow 2 (jacD kF 0 2 xs ops outs 1) := rfl
    simp only [o0, r0, e0, o1, r1, e1, AV.toInt, AV.sLen, AV.sCells, AV.isSn, Nat.mul_one, List.nil_append, t0, t1]
    simp only [Bool.and_eq_true]
    and_intros
    all_goals first
      | rfl
      | exact trivial
      | exact fltL_noOwn _
      | (rw [Nat.blt_eq]; simp only [intL_length, hld, hout.1]; omega)
      | (rw [Nat.ble_eq]; rw [fltL_length]; omega)
      | (simp only [decide_eq_true_eq]; omega)
      | (simp; omega)
  · have hld : (rdC 2 ops.length (runR kF 0 2 xs ops ops.length)).length = ops.length := rdC_length (by omega)
    have h0 := hout.2 0 (by omega)
    have o0 := intL_get (xs := outs) (i := 0) (by rw [hout.1]; omega)
    have r0 := rdC_get (m := ops.length) (N := 2) (rs := runR kF 0 2 xs ops ops.length) (a := outs.getD 0 0) h0.1 (by rw [hrl]; exact h0.2)
    have d0 := jacD_length kF 0 (xs := xs) hout (j := 0) (by omega)
    have e0 : fltL (rAt 0 (runR kF 0 2 xs ops ops.length) (outs.getD 0 0)).d = jRow 2 (jacD kF 0 2 xs ops outs 0) := fltL_row d0
    have t0 : List.take 2 (jRow 2 (jacD kF 0 2 xs ops outs 0)) = jRow 2 (jacD kF 0 2 xs ops outs 0) := rfl
    have h1 := hout.2 1 (by omega)
    have o1 := intL_get (xs := outs) (i := 1) (by rw [hout.1]; omega)
    have r1 := rdC_get (m := ops.length) (N := 2) (rs := runR kF 0 2 xs ops ops.length) (a := outs.getD 1 0) h1.1 (by rw [hrl]; exact h1.2)
    have d1 := jacD_length kF 0 (xs := xs) hout (j := 1) (by omega)
    have e1 : fltL (rAt 0 (runR kF 0 2 xs ops ops.length) (outs.getD 1 0)).d = jRow 2 (jacD kF 0 2 xs ops outs 1) := fltL_row d1
    have t1 : List.take 2 (jRow 2 (jacD kF 0 2 xs ops outs 1)) = jRow 2 (jacD kF 0 2 xs ops outs 1) := rfl
    simp only [o0, r0, e0, o1, r1, e1, AV.toInt, AV.sLen, AV.sCells, Nat.mul_one, List.nil_append, t0, t1]

def eSt3 (xs : List Nat) (ops : List TOp) (outs : List Int) (rs : List (Rg Nat)) (i : Nat) : St :=
  mk [1,2,5,6,7] [.snap (fltL xs) xs.length, .ptr 0 0, .slc 1 0 ops.length, .slc 2 0 ops.length, .int .i64 (i : Int)] [⟨[.int .i64 3, .snap (opsL ops) ops.length, .snap (intL outs) 3], 53⟩, ⟨rvC ops.length rs, 24⟩, ⟨rdC 3 ops.length rs, 34⟩] []

theorem eRound3 (xs : List Nat) (ops : List TOp) (outs : List Int) (rs : List (Rg Nat)) (i : Nat) (hi : i < ops.length) (hm : ops.length < 1000) (hl : rs.length = i) (hw : Wide 3 rs) (ho : OpsOk xs.length ops) (hx : xs.length = 3) (w0 : World) :
    Goes CM w0 191 eBody (eSt3 xs ops outs rs i) .normal (eSt3 xs ops outs (rs ++ [stepR kF 0 3 xs rs (ops.getD i op0)]) (i + 1)) := by
  have ew : IntKind.i64.wrap ((i : Int) + 1) = ((i + 1 : Nat) : Int) := by rw [wrapI (by omega) (by omega)]; rfl
  obtain ⟨g0, g1, g2, g3⟩ := opsL_at ops i hi
  rw [Int.toNat_natCast] at g0 g1 g2 g3
  have hop := ho i hi
  have hlen := opsL_length ops
  have hlv : (rvC ops.length rs).length = ops.length := rvC_length (by omega)
  have hld : (rdC 3 ops.length rs).length = ops.length := rdC_length (by omega)
  have gsi : ∀ x, ((rvC ops.length rs).set i x).getD i .undef = x := fun x => getD_set_self _ _ _ _ (by omega)
  have hsi : ∀ x, ((rdC 3 ops.length rs).set i x).getD i .undef = x := fun x => getD_set_self _ _ _ _ (by omega)
  have hvs : ∀ r : Rg Nat, (rvC ops.length rs).set i (.flt r.v) = rvC ops.length (rs ++ [r]) := fun r => by subst hl; exact rvC_set (by omega) r
  have hds : ∀ r : Rg Nat, (rdC 3 ops.length rs).set i (.snap (fltL r.d) 3) = rdC 3 ops.length (rs ++ [r]) := fun r => by subst hl; exact rdC_set (by omega) r
  have fin : ∀ o, mk [1,2,5,6,7] [.snap (fltL xs) xs.length, .ptr 0 0, .slc 1 0 ops.length, .slc 2 0 ops.length, .int .i64 (IntKind.wrap .i64 ((i : Int) + 1))] [⟨[.int .i64 3, .snap (opsL ops) ops.length, .snap (intL outs) 3], 53⟩, ⟨rvC ops.length (rs ++ [stepR kF 0 3 xs rs o]), 24⟩, ⟨rdC 3 ops.length (rs ++ [stepR kF 0 3 xs rs o]), 34⟩] [] = eSt3 xs ops outs (rs ++ [stepR kF 0 3 xs rs o]) (i + 1) := fun o => by unfold eSt3; rw [← ew]
  generalize ops.getD i op0 = o at *
  obtain ⟨k, a, b, c⟩ := o
  dsimp only at g0 g1 g2 g3
  rcases hop with ⟨hk, _⟩ | ⟨hk, h0, h1, _⟩ | ⟨hk, h0, h1, h2, h3, _⟩
  · dsimp only at hk
    subst hk
    refine goes_to (eI3_0 xs xs.length ops ops.length outs rs i a b c w0 [] [] ?_) (fin _)
    simp only [Int.toNat_natCast, Nat.zero_add, Nat.mul_one, setL, List.length_set]
    simp only [Bool.and_eq_true]
    and_intros
    all_goals first
      | rfl
      | exact trivial
      | (simp only [decide_eq_true_eq]; omega)
      | (simp only [Nat.blt_eq, Nat.ble_eq]; omega)
      | (simp only [etasOk, g0, g1, g2, g3]; rfl)
      | (apply pb_of; simp only [g0, g1, g2, g3, AV.toInt, AV.toFlt]; done)
      | (apply pb_of; simp only [hsi]; done)
      | exact pb_of (by rw [← hvs]; exact SubP.same (A := (rvC ops.length rs).set i (.flt (stepR kF 0 3 xs rs ⟨0, a, b, c⟩).v)) (by rw [hvs]; exact rvC_noOwn _ _))
      | exact pb_of (by rw [← hds]; exact SubP.set (rdC_noOwn _ _ _) _ rfl)
      | exact pb_of (SubP.same (A := fltL (stepR kF 0 3 xs rs ⟨0, a, b, c⟩).d) rfl)
  · dsimp only at hk h0 h1
    subst hk
    have hax : a.toNat < xs.length := by omega
    have gx := fltL_get hax
    refine goes_to (eI3_1 xs xs.length ops ops.length outs rs i a b c w0 [] [] ?_) (fin _)
    simp only [Int.toNat_natCast, Nat.zero_add, Nat.mul_one, setL, List.length_set]
    simp only [Bool.and_eq_true]
    and_intros
    all_goals first
      | rfl
      | exact trivial
      | (simp only [decide_eq_true_eq]; omega)
      | (simp only [Nat.blt_eq, Nat.ble_eq, fltL_length]; omega)
      | (simp only [etasOk, g0, g1, g2, g3]; rfl)
      | (apply pb_of; simp only [g0, g1, g2, g3, AV.toInt, AV.toFlt]; done)
      | (simp only [gx]; rfl)
      | (apply pb_of; simp only [gx, AV.toFlt]; done)
      | (apply pb_of; simp only [hsi]; done)
      | exact pb_of (by rw [← hvs]; exact SubP.same (A := (rvC ops.length rs).set i (.flt (stepR kF 0 3 xs rs ⟨1, a, b, c⟩).v)) (by rw [hvs]; exact rvC_noOwn _ _))
      | exact pb_of (by rw [← hds]; exact SubP.set (rdC_noOwn _ _ _) _ rfl)
      | (apply pb_of
         rw [hx] at h1
         have ha : a = 0 ∨ a = 1 ∨ a = 2 := by omega
         rcases ha with rfl | rfl | rfl <;> exact SubP.same rfl)
  · dsimp only at hk h0 h1 h2 h3
    have da := hw _ (rAt_mem 0 rs a h0 (by omega))
    have db := hw _ (rAt_mem 0 rs b h2 (by omega))
    have gva := rvC_get (m := ops.length) h0 (show a < rs.length by omega)
    have gvb := rvC_get (m := ops.length) h2 (show b < rs.length by omega)
    have gsa : ∀ x, ((rvC ops.length rs).set i x).getD a.toNat .undef = .flt (rAt 0 rs a).v := fun x => by rw [getD_set_ne _ _ _ _ _ (by omega)]; exact gva
    have gsb : ∀ x, ((rvC ops.length rs).set i x).getD b.toNat .undef = .flt (rAt 0 rs b).v := fun x => by rw [getD_set_ne _ _ _ _ _ (by omega)]; exact gvb
    have hsa : ∀ x, ((rdC 3 ops.length rs).set i x).getD a.toNat .undef = .snap (fltL (rAt 0 rs a).d) 3 := fun x => by rw [getD_set_ne _ _ _ _ _ (by omega)]; exact rdC_get h0 (by omega)
    have hsb : ∀ x, ((rdC 3 ops.length rs).set i x).getD b.toNat .undef = .snap (fltL (rAt 0 rs b).d) 3 := fun x => by rw [getD_set_ne _ _ _ _ _ (by omega)]; exact rdC_get h2 (by omega)
    have fa0 := fltL_get (xs := (rAt 0 rs a).d) (i := 0) (by omega)
    have fb0 := fltL_get (xs := (rAt 0 rs b).d) (i := 0) (by omega)
    have fa1 := fltL_get (xs := (rAt 0 rs a).d) (i := 1) (by omega)
    have fb1 := fltL_get (xs := (rAt 0 rs b).d) (i := 1) (by omega)
    have fa2 := fltL_get (xs := (rAt 0 rs a).d) (i := 2) (by omega)
    have fb2 := fltL_get (xs := (rAt 0 rs b).d) (i := 2) (by omega)
    rcases hk with hk | hk | hk | hk <;> subst hk
    · refine goes_to (eI3_2 xs xs.length ops ops.length outs rs i a b c w0 [] [] ?_) (fin _)
      simp only [Int.toNat_natCast, Nat.zero_add, Nat.mul_one, setL, List.length_set]
      simp only [Bool.and_eq_true]
      and_intros
      all_goals first
        | rfl
        | exact trivial
        | (simp only [decide_eq_true_eq]; omega)
        | (simp only [Nat.blt_eq, Nat.ble_eq, fltL_length]; omega)
        | (simp only [etasOk, g0, g1, g2, g3]; rfl)
        | (apply pb_of; simp only [g0, g1, g2, g3, AV.toInt, AV.toFlt]; done)
        | (simp only [gva, gvb, gsa, gsb, gsi, fa0, fb0, fa1, fb1, fa2, fb2]; rfl)
        | (apply pb_of; simp only [gva, gvb, gsa, gsb, AV.toFlt]; done)
        | (apply pb_of; rw [gsi]; rfl)
        | (apply pb_of; simp only [hsa, hsb, hsi]; done)
        | exact pb_of (by rw [← hvs]; exact SubP.same (A := (rvC ops.length rs).set i (.flt (stepR kF 0 3 xs rs ⟨2, a, b, c⟩).v)) (by rw [hvs]; exact rvC_noOwn _ _))
        | exact pb_of (by rw [← hds]; exact SubP.set (rdC_noOwn _ _ _) _ rfl)
        | (apply pb_of; simp only [fa0, fb0, fa1, fb1, fa2, fb2, AV.toFlt]; exact SubP.same (A := fltL (stepR kF 0 3 xs rs ⟨2, a, b, c⟩).d) rfl)
    · refine goes_to (eI3_3 xs xs.length ops ops.length outs rs i a b c w0 [] [] ?_) (fin _)
      simp only [Int.toNat_natCast, Nat.zero_add, Nat.mul_one, setL, List.length_set]
      simp only [Bool.and_eq_true]
      and_intros
      all_goals first
        | rfl
        | exact trivial
        | (simp only [decide_eq_true_eq]; omega)
        | (simp only [Nat.blt_eq, Nat.ble_eq, fltL_length]; omega)
        | (simp only [etasOk, g0, g1, g2, g3]; rfl)
        | (apply pb_of; simp only [g0, g1, g2, g3, AV.toInt, AV.toFlt]; done)
        | (simp only [gva, gvb, gsa, gsb, gsi, fa0, fb0, fa1, fb1, fa2, fb2]; rfl)
        | (apply pb_of; simp only [gva, gvb, gsa, gsb, AV.toFlt]; done)
        | (apply pb_of; rw [gsi]; rfl)
        | (apply pb_of; simp only [hsa, hsb, hsi]; done)
        | exact pb_of (by rw [← hvs]; exact SubP.same (A := (rvC ops.length rs).set i (.flt (stepR kF 0 3 xs rs ⟨3, a, b, c⟩).v)) (by rw [hvs]; exact rvC_noOwn _ _))
        | exact pb_of (by rw [← hds]; exact SubP.set (rdC_noOwn _ _ _) _ rfl)
        | (apply pb_of; simp only [fa0, fb0, fa1, fb1, fa2, fb2, AV.toFlt]; exact SubP.same (A := fltL (stepR kF 0 3 xs rs ⟨3, a, b, c⟩).d) rfl)
    · refine goes_to (eI3_4 xs xs.length ops ops.length outs rs i a b c w0 [] [] ?_) (fin _)
      simp only [Int.toNat_natCast, Nat.zero_add, Nat.mul_one, setL, List.length_set]
      simp only [Bool.and_eq_true]
      and_intros
      all_goals first
        | rfl
        | exact trivial
        | (simp only [decide_eq_true_eq]; omega)
        | (simp only [Nat.blt_eq, Nat.ble_eq, fltL_length]; omega)
        | (simp only [etasOk, g0, g1, g2, g3]; rfl)
        | (apply pb_of; simp only [g0, g1, g2, g3, AV.toInt, AV.toFlt]; done)
        | (simp only [gva, gvb, gsa, gsb, gsi, fa0, fb0, fa1, fb1, fa2, fb2]; rfl)
        | (apply pb_of; simp only [gva, gvb, gsa, gsb, AV.toFlt]; done)
        | (apply pb_of; rw [gsi]; rfl)
        | (apply pb_of; simp only [hsa, hsb, hsi]; done)
        | exact pb_of (by rw [← hvs]; exact SubP.same (A := (rvC ops.length rs).set i (.flt (stepR kF 0 3 xs rs ⟨4, a, b, c⟩).v)) (by rw [hvs]; exact rvC_noOwn _ _))
        | exact pb_of (by rw [← hds]; exact SubP.set (rdC_noOwn _ _ _) _ rfl)
        | (apply pb_of; simp only [fa0, fb0, fa1, fb1, fa2, fb2, AV.toFlt]; exact SubP.same (A := fltL (stepR kF 0 3 xs rs ⟨4, a, b, c⟩).d) rfl)
    · refine goes_to (eI3_5 xs xs.length ops ops.length outs rs i a b c w0 [] [] ?_) (fin _)
      simp only [Int.toNat_natCast, Nat.zero_add, Nat.mul_one, setL, List.length_set]
      simp only [Bool.and_eq_true]
      and_intros
      all_goals first
        | rfl
        | exact trivial
        | (simp only [decide_eq_true_eq]; omega)
        | (simp only [Nat.blt_eq, Nat.ble_eq, fltL_length]; omega)
        | (simp only [etasOk, g0, g1, g2, g3]; rfl)
        | (apply pb_of; simp only [g0, g1, g2, g3, AV.toInt, AV.toFlt]; done)
        | (simp only [gva, gvb, gsa, gsb, gsi, fa0, fb0, fa1, fb1, fa2, fb2]; rfl)
        | (apply pb_of; simp only [gva, gvb, gsa, gsb, AV.toFlt]; done)
        | (apply pb_of; rw [gsi]; rfl)
        | (apply pb_of; simp only [hsa, hsb, hsi]; done)
        | exact pb_of (by rw [← hvs]; exact SubP.same (A := (rvC ops.length rs).set i (.flt (stepR kF 0 3 xs rs ⟨5, a, b, c⟩).v)) (by rw [hvs]; exact rvC_noOwn _ _))
        | exact pb_of (by rw [← hds]; exact SubP.set (rdC_noOwn _ _ _) _ rfl)
        | (apply pb_of; simp only [fa0, fb0, fa1, fb1, fa2, fb2, AV.toFlt]; exact SubP.same (A := fltL (stepR kF 0 3 xs rs ⟨5, a, b, c⟩).d) rfl)

theorem con_ejac3 (xs : List Nat) (ops : List TOp) (outs : List Int) (hm : ops.length < 1000) (ho : OpsOk xs.length ops) (hx : xs.length = 3) (hout : OutsOk 3 ops.length outs) (n : Nat) :
    Con prog 63 [.agg [.int .i64 3, .snap (opsL ops) ops.length, .snap (intL outs) 3], .snap (fltL xs) xs.length] n (.slc n 0 3) [⟨[.slc (n + 1) 0 3, .slc (n + 2) 0 3, .slc (n + 3) 0 3], 34⟩, ⟨jRow 3 (jacD kF 0 3 xs ops outs 0), 24⟩, ⟨jRow 3 (jacD kF 0 3 xs ops outs 1), 24⟩, ⟨jRow 3 (jacD kF 0 3 xs ops outs 2), 24⟩] := by
  have hrl : (runR kF 0 3 xs ops ops.length).length = ops.length := runR_length _ _ _ _ _ _
  have hwr : Wide 3 (runR kF 0 3 xs ops ops.length) := runR_d _ _ _ _ _ _
  refine con_goesKC (es := es4) (d := 8) (deep := shallow []) 191 (by kernel_rfl) (dec := []) (e := .ret) (s := mk [4] [.slc 0 0 3] [⟨[.slc 1 0 3, .slc 2 0 3, .slc 3 0 3], 34⟩, ⟨jRow 3 (jacD kF 0 3 xs ops outs 0), 24⟩, ⟨jRow 3 (jacD kF 0 3 xs ops outs 1), 24⟩, ⟨jRow 3 (jacD kF 0 3 xs ops outs 2), 24⟩] []) [] (r := ⟨_, _, true⟩) (by kernel_rfl) rfl (.inl rfl) fun w0 => ?_
  refine goes_seq (by kernel_rfl) (eA3 xs xs.length ops ops.length outs w0 []) (goes_seq (by kernel_rfl) (goes_to (eB3 xs xs.length ops ops.length outs w0 [] [] ?_) ?_) (goes_seq (by kernel_rfl) (goes_to (eD3 xs xs.length ops ops.length outs (rvC ops.length []) w0 [] [] ?_) ?_) (goes_seq (by kernel_rfl) (goes_seq (by kernel_rfl) (goes_to (eE3 xs xs.length ops ops.length outs (rvC ops.length []) (rdC 3 ops.length []) w0 [] [] ?_) ?_) (goes_block (id := 0) (by kernel_rfl) (goes_loop (by kernel_rfl) (fun h => by cases h) ops.length (fun i => eSt3 xs ops outs (runR kF 0 3 xs ops i) i) (s2 := _) ?_ ?_))) (goes_to (eZ3 xs xs.length ops ops.length outs (runR kF 0 3 xs ops ops.length) ops.length w0 [] [] ?_) ?_))))
  · simp [AV.noOwn]; omega
  · simp only [Int.toNat_natCast]; rfl
  · simp [rvC_noOwn, AV.noOwn]; omega
  · simp only [Int.toNat_natCast]; rfl
  · simp [rvC_noOwn, rdC_noOwn]
  · rfl
  · intro i hi
    exact eRound3 xs ops outs (runR kF 0 3 xs ops i) i hi hm (runR_length _ _ _ _ _ _) (runR_d _ _ _ _ _ _) ho hx w0
  · exact eX3 xs xs.length ops ops.length outs (runR kF 0 3 xs ops ops.length) ops.length w0 [] [] (by
      simp only [Bool.and_eq_true]
      and_intros
      all_goals first
        | rfl
        | exact trivial
        | exact rdC_noOwn _ _ _
        | simp)
  · have hld : (rdC 3 ops.length (runR kF 0 3 xs ops ops.length)).length = ops.length := rdC_length (by omega)
    have h0 := hout.2 0 (by omega)
    have o0 := intL_get (xs := outs) (i := 0) (by rw [hout.1]; omega)
    have r0 := rdC_get (m := ops.length) (N := 3) (rs := runR kF 0 3 xs ops ops.length) (a := outs.getD 0 0) h0.1 (by rw [hrl]; exact h0.2)
    have d0 := jacD_length kF 0 (xs := xs) hout (j := 0) (by omega)
    have e0 : fltL (rAt 0 (runR kF 0 3 xs ops ops.length) (outs.getD 0 0)).d = jRow 3 (jacD kF 0 3 xs ops outs 0) := fltL_row d0
    have t0 : List.take 3 (jRow 3 (jacD kF 0 3 xs ops outs 0)) = jRow 3 (jacD kF 0 3 xs ops outs 0) := rfl
    have h1 := hout.2 1 (by omega)
    have o1 := intL_get (xs := outs) (i := 1) (by rw [hout.1]; omega)
    have r1 := rdC_get (m := ops.length) (N := 3) (rs := runR kF 0 3 xs ops ops.length) (a := outs.getD 1 0) h1.1 (by rw [hrl]; exact h1.2)
    have d1 := jacD_length kF 0 (xs := xs) hout (j := 1) (by omega)
    have e1 : fltL (rAt 0 (runR kF 0 3 xs ops ops.length) (outs.getD 1 0)).d = jRow 3 (jacD kF 0 3 xs ops outs 1) := fltL_row d1
    have t1 : List.take 3 (jRow 3 (jacD kF 0 3 xs ops outs 1)) = jRow 3 (jacD kF 0 3 xs ops outs 1) := rfl
    have h2 := hout.2 2 (by omega)
    have o2 := intL_get (xs := outs) (i := 2) (by rw [hout.1]; omega)
    have r2 := rdC_get (m := ops.length) (N := 3) (rs := runR kF 0 3 xs ops ops.length) (a := outs.getD 2 0) h2.1 (by rw [hrl]; exact h2.2)
    have d2 := jacD_length kF 0 (xs := xs) hout (j := 2) (by omega)
    have e2 : fltL (rAt 0 (runR kF 0 3 xs ops ops.length) (outs.getD 2 0)).d = jRow 3 (jacD kF 0 3 xs ops outs 2) := fltL_row d2
    have t2 : List.take 3 (jRow 3 (jacD kF 0 3 xs ops outs 2)) = jRow 3 (jacD kF 0 3 xs ops outs 2) := rfl
    simp only [o0, r0, e0, o1, r1, e1, o2, r2, e2, AV.toInt, AV.sLen, AV.sCells, AV.isSn, Nat.mul_one, List.nil_append, t0, t1, t2]
    simp only [Bool.and_eq_true]
    and_intros
    all_goals first
      | rfl
      | exact trivial
      | exact fltL_noOwn _
      | (rw [Nat.blt_eq]; simp only [intL_length, hld, hout.1]; omega)
      | (rw [Nat.ble_eq]; rw [fltL_length]; omega)
      | (simp only [decide_eq_true_eq]; omega)
      | (simp; omega)
  · have hld : (rdC 3 ops.length (runR kF 0 3 xs ops ops.length)).length = ops.length := rdC_length (by omega)
    have h0 := hout.2 0 (by omega)
    have o0 := intL_get (xs := outs) (i := 0) (by rw [hout.1]; omega)
    have r0 := rdC_get (m := ops.length) (N := 3) (rs := runR kF 0 3 xs ops ops.length) (a := outs.getD 0 0) h0.1 (by rw [hrl]; exact h0.2)
    have d0 := jacD_length kF 0 (xs := xs) hout (j := 0) (by omega)
    have e0 : fltL (rAt 0 (runR kF 0 3 xs ops ops.length) (outs.getD 0 0)).d = jRow 3 (jacD kF 0 3 xs ops outs 0) := fltL_row d0
    have t0 : List.take 3 (jRow 3 (jacD kF 0 3 xs ops outs 0)) = jRow 3 (jacD kF 0 3 xs ops outs 0) := rfl
    have h1 := hout.2 1 (by omega)
    have o1 := intL_get (xs := outs) (i := 1) (by rw [hout.1]; omega)
    have r1 := rdC_get (m := ops.length) (N := 3) (rs := runR kF 0 3 xs ops ops.length) (a := outs.getD 1 0) h1.1 (by rw [hrl]; exact h1.2)
    have d1 := jacD_length kF 0 (xs := xs) hout (j := 1) (by omega)
    have e1 : fltL (rAt 0 (runR kF 0 3 xs ops ops.length) (outs.getD 1 0)).d = jRow 3 (jacD kF 0 3 xs ops outs 1) := fltL_row d1
    have t1 : List.take 3 (jRow 3 (jacD kF 0 3 xs ops outs 1)) = jRow 3 (jacD kF 0 3 xs ops outs 1) := rfl
    have h2 := hout.2 2 (by omega)
    have o2 := intL_get (xs := outs) (i := 2) (by rw [hout.1]; omega)
    have r2 := rdC_get (m := ops.length) (N := 3) (rs := runR kF 0 3 xs ops ops.length) (a := outs.getD 2 0) h2.1 (by rw [hrl]; exact h2.2)
    have d2 := jacD_length kF 0 (xs := xs) hout (j := 2) (by omega)
    have e2 : fltL (rAt 0 (runR kF 0 3 xs ops ops.length) (outs.getD 2 0)).d = jRow 3 (jacD kF 0 3 xs ops outs 2) := fltL_row d2
    have t2 : List.take 3 (jRow 3 (jacD kF 0 3 xs ops outs 2)) = jRow 3 (jacD kF 0 3 xs ops outs 2) := rfl
    simp only [o0, r0, e0, o1, r1, e1, o2, r2, e2, AV.toInt, AV.sLen, AV.sCells, Nat.mul_one, List.nil_append, t0, t1, t2]
end Try
end Go.Eng
/- Tapes, part 3: the contract of the law's own tapes. Condition: the numbers are a row of integers, the shape is as told. -/
namespace Go.Eng.Try
open Go Go.RowKit Go.Proofs.Try

def mkSt (n : Int) (ns : List AV) (len : Nat) (d : Bool) (N : Int) (ops : List TOp) (m i : Nat) : St :=
  mk [0,1,2,6,7,9] [.int .i64 n, .snap ns len, .bool d, .ptr 0 0, .ptr 1 0, .int .i64 (i : Int)] [⟨[.int .i64 0, .nils, .nils], 53⟩, ⟨[.int .i64 N, .slc 2 0 m, .nils], 53⟩, ⟨opsL ops, 57⟩] []

section
variable (n : Int) (ns : List AV) (len : Nat) (N : Int)

theorem mkRound (d : Bool) (ops : List TOp) {m i : Nat} (hops : ops.length = m) (hm : m ≠ 0) (hm2 : m < 1000) (hi : i < len) (hi8 : i < 8) (hl : len ≤ ns.length) (hint : (ns.getD i .undef).isInt .i64 = true) (w0 : World) :
    Goes CM w0 120 mkL (mkSt n ns len d N ops m i) .normal (mkSt n ns len d N (ops ++ [mkOp d m (nsAt ns i)]) (m + 1) (i + 1)) := by
  have ew : IntKind.i64.wrap ((i : Int) + 1) = ((i + 1 : Nat) : Int) := by rw [wrapI (by omega) (by omega)]; rfl
  have hlt : i < ns.length := by omega
  have hm0 : ((m : Int) != 0) = true := by simpa using hm
  have e1 : (m + 1) * 32 ≤ 140737488355328 := by omega
  have e2 : m + 1 ≤ 9223372036854775807 := by omega
  have hi1 : decide ((i : Int) < 8) = true := by simp; omega
  have hi2 : decide ((i : Int) < (len : Int)) = true := by simp; omega
  cases h80 : wi (AV.toInt (ns.getD i .undef)) 11 == 0 with
  | true =>
    cases d with
    | false => exact goes_to (mkIf01 n ns len N ops m i w0 [] [] (by simp [-List.getD_eq_getElem?_getD, List.all_append, opsL_noOwn, AV.noOwn, opsL_length, hops, Nat.mul_comm, e1, e2, h80, hm0, hlt, hint, hi1, hi2, hi])) (by simp [-List.getD_eq_getElem?_getD, mkSt, mkOp, nsAt, opsL_append, opsL, h80, ew])
    | true =>
      cases h76 : wi (AV.toInt (ns.getD i .undef)) 7 == 0 with
      | true => exact goes_to (mkIt11 n ns len N ops m i w0 [] [] (by simp [-List.getD_eq_getElem?_getD, List.all_append, opsL_noOwn, AV.noOwn, opsL_length, hops, Nat.mul_comm, e1, e2, h80, h76, hm0, hlt, hint, hi1, hi2, hi])) (by simp [-List.getD_eq_getElem?_getD, mkSt, mkOp, nsAt, opsL_append, opsL, h80, h76, ew])
      | false => exact goes_to (mkIt01 n ns len N ops m i w0 [] [] (by simp [-List.getD_eq_getElem?_getD, List.all_append, opsL_noOwn, AV.noOwn, opsL_length, hops, Nat.mul_comm, e1, e2, h80, h76, hm0, hlt, hint, hi1, hi2, hi])) (by simp [-List.getD_eq_getElem?_getD, mkSt, mkOp, nsAt, opsL_append, opsL, h80, h76, ew])
  | false =>
    cases d with
    | false => exact goes_to (mkIf00 n ns len N ops m i w0 [] [] (by simp [-List.getD_eq_getElem?_getD, List.all_append, opsL_noOwn, AV.noOwn, opsL_length, hops, Nat.mul_comm, e1, e2, h80, hm0, hlt, hint, hi1, hi2, hi])) (by simp [-List.getD_eq_getElem?_getD, mkSt, mkOp, nsAt, opsL_append, opsL, h80, ew])
    | true =>
      cases h76 : wi (AV.toInt (ns.getD i .undef)) 7 == 0 with
      | true => exact goes_to (mkIt10 n ns len N ops m i w0 [] [] (by simp [-List.getD_eq_getElem?_getD, List.all_append, opsL_noOwn, AV.noOwn, opsL_length, hops, Nat.mul_comm, e1, e2, h80, h76, hm0, hlt, hint, hi1, hi2, hi])) (by simp [-List.getD_eq_getElem?_getD, mkSt, mkOp, nsAt, opsL_append, opsL, h80, h76, ew])
      | false => exact goes_to (mkIt00 n ns len N ops m i w0 [] [] (by simp [-List.getD_eq_getElem?_getD, List.all_append, opsL_noOwn, AV.noOwn, opsL_length, hops, Nat.mul_comm, e1, e2, h80, h76, hm0, hlt, hint, hi1, hi2, hi])) (by simp [-List.getD_eq_getElem?_getD, mkSt, mkOp, nsAt, opsL_append, opsL, h80, h76, ew])
end

/-- The conditions of a made tape. -/
def LmkOk (ns : List AV) (len : Nat) : Prop := len ≤ ns.length ∧ ∀ i, i < ns.length → (ns.getD i .undef).isInt .i64 = true
def lmkM (N len : Nat) : Nat := N + 1 + min len 8
def lmkOps (n : Int) (N : Nat) (d : Bool) (ns : List AV) (len : Nat) : List TOp := mkOps d (baseT n N) ns (min len 8)

theorem lmkOps_length (n : Int) (N : Nat) (hN : N = 1 ∨ N = 2 ∨ N = 3) (d : Bool) (ns : List AV) (len : Nat) : (lmkOps n N d ns len).length = lmkM N len := by
  unfold lmkOps lmkM
  rw [mkOps_length, (baseT_ok n N hN).2]
theorem lmkOps_ok (n : Int) (N : Nat) (hN : N = 1 ∨ N = 2 ∨ N = 3) (d : Bool) (ns : List AV) (len : Nat) : OpsOk N (lmkOps n N d ns len) := mkOps_ok n N hN d ns _ (by omega)

theorem mkLoop (n : Int) (ns : List AV) (len : Nat) (N : Nat) (hN : N = 1 ∨ N = 2 ∨ N = 3) (d : Bool) (h : LmkOk ns len) (w0 : World) :
    Goes CM w0 120 (cL (cL (cR (cR (cR (cR mkC)))))) (mk [0,1,2,6,7] [.int .i64 n, .snap ns len, .bool d, .ptr 0 0, .ptr 1 0] [⟨[.int .i64 0, .nils, .nils], 53⟩, ⟨[.int .i64 N, .slc 2 0 (N + 1), .nils], 53⟩, ⟨opsL (baseT n N), 57⟩] []) .normal (mkSt n ns len d N (baseT n N) (N + 1) 0) :=
  goes_to (mkF n ns len d N (baseT n N) (N + 1) w0 [] [] (by simp [opsL_noOwn])) rfl

theorem mkAll (n : Int) (ns : List AV) (len : Nat) (N : Nat) (hN : N = 1 ∨ N = 2 ∨ N = 3) (d : Bool) (h : LmkOk ns len) (w0 : World) :
    Goes CM w0 120 (cL (cR (cR (cR (cR mkC))))) (mk [0,1,2,6,7] [.int .i64 n, .snap ns len, .bool d, .ptr 0 0, .ptr 1 0] [⟨[.int .i64 0, .nils, .nils], 53⟩, ⟨[.int .i64 N, .slc 2 0 (N + 1), .nils], 53⟩, ⟨opsL (baseT n N), 57⟩] []) .normal
      (mk [0,1,2,6,7] [.int .i64 n, .snap ns len, .bool d, .ptr 0 0, .ptr 1 0] [⟨[.int .i64 0, .nils, .nils], 53⟩, ⟨[.int .i64 N, .slc 2 0 (lmkM N len), .nils], 53⟩, ⟨opsL (lmkOps n N d ns len), 57⟩] []) := by
  have hbl := (baseT_ok n N hN).2
  refine goes_seq (by kernel_rfl) (mkLoop n ns len N hN d h w0) (goes_block (id := 2) (by kernel_rfl) (goes_loop (by kernel_rfl) (fun h => by cases h) (min len 8) (fun i => mkSt n ns len d N (mkOps d (baseT n N) ns i) (N + 1 + i) i) (s2 := _) ?_ ?_))
  · intro i hi
    have hl : (mkOps d (baseT n N) ns i).length = N + 1 + i := by rw [mkOps_length, hbl]
    have := mkRound n ns len N d (mkOps d (baseT n N) ns i) hl (by omega) (by omega) (show i < len by omega) (by omega) h.1 (h.2 i (by have := h.1; omega)) w0
    refine goes_to this ?_
    show _ = mkSt n ns len d N (mkOps d (baseT n N) ns i ++ [mkOp d ((baseT n N).length + i) (nsAt ns i)]) (N + 1 + (i + 1)) (i + 1)
    rw [hbl]
    rfl
  · by_cases hc : len ≤ 8
    · have e : min len 8 = len := by omega
      refine goes_to (mkX1 n ns len d _ N _ _ w0 [] [] (by simp [opsL_noOwn, e])) ?_
      rfl
    · have e : min len 8 = 8 := by omega
      refine goes_to (mkX2 n ns len d _ N _ _ w0 [] [] (by simp [opsL_noOwn, e]; omega)) ?_
      rfl

theorem mkN (n : Int) (N : Nat) (h : wi n 3 + 1 = N) : IntKind.i64.wrap (1 + wi n 3) = N := by
  have := wi_range n 3 (by omega) (by omega)
  rw [wrapI (by omega) (by omega)]
  omega

theorem con_lmk1 (n : Int) (ns : List AV) (len : Nat) (d : Bool) (h : LmkOk ns len) (hN : wi n 3 + 1 = (1 : Nat)) (nb : Nat) : Con prog 41 [.int .i64 n, .snap ns len, .bool d] nb (.agg [.int .i64 1, .slc nb 0 (lmkM 1 len), .slc (nb + 1) 0 1]) [⟨opsL (lmkOps n 1 d ns len), 57⟩, ⟨intL (outsT n (lmkM 1 len) 1), 3⟩] := by
  obtain ⟨a1, a2, a3⟩ := min3_is (lmkM 1 len) (by unfold lmkM; omega)
  refine con_goesKC (es := es4) (d := 8) (deep := shallow []) 120 (by kernel_rfl) (dec := []) (e := .ret) (s := mk [6] [.ptr 0 0] [⟨[.int .i64 1, .slc 1 0 (lmkM 1 len), .slc 2 0 1], 53⟩, ⟨opsL (lmkOps n 1 d ns len), 57⟩, ⟨intL (outsT n (lmkM 1 len) 1), 3⟩] []) [.flat] (r := ⟨_, _, ((List.all (opsL (lmkOps n 1 d ns len)) AV.scal) && true) && true⟩) (by kernel_rfl) (by rw [opsL_scal]; rfl) (.inl rfl) fun w0 => ?_
  refine goes_seq (by kernel_rfl) (mkA n ns len d w0 []) (goes_seq (by kernel_rfl) (mkB n ns len d w0 [] []) ?_)
  rw [mkN n 1 hN]
  refine goes_seq (by kernel_rfl) (mkD1 n ns len d w0 [] []) (goes_seq (by kernel_rfl) (mkE n ns len d 1 [⟨1, 0, 0, 0⟩] 1 w0 [] [] ?_) (goes_seq (by kernel_rfl) (mkAll n ns len 1 (.inl rfl) d h w0) (mkG1 n ns len d (lmkOps n 1 d ns len) (lmkM 1 len) w0 [] [] ?_)))
  · rfl
  · have : (min3 (lmkM 1 len) != 0) = true := by simp; omega
    simp [opsL_noOwn, this]
theorem con_lmk2 (n : Int) (ns : List AV) (len : Nat) (d : Bool) (h : LmkOk ns len) (hN : wi n 3 + 1 = (2 : Nat)) (nb : Nat) : Con prog 41 [.int .i64 n, .snap ns len, .bool d] nb (.agg [.int .i64 2, .slc nb 0 (lmkM 2 len), .slc (nb + 1) 0 2]) [⟨opsL (lmkOps n 2 d ns len), 57⟩, ⟨intL (outsT n (lmkM 2 len) 2), 3⟩] := by
  obtain ⟨a1, a2, a3⟩ := min3_is (lmkM 2 len) (by unfold lmkM; omega)
  refine con_goesKC (es := es4) (d := 8) (deep := shallow []) 120 (by kernel_rfl) (dec := []) (e := .ret) (s := mk [6] [.ptr 0 0] [⟨[.int .i64 2, .slc 1 0 (lmkM 2 len), .slc 2 0 2], 53⟩, ⟨opsL (lmkOps n 2 d ns len), 57⟩, ⟨intL (outsT n (lmkM 2 len) 2), 3⟩] []) [.flat] (r := ⟨_, _, ((List.all (opsL (lmkOps n 2 d ns len)) AV.scal) && true) && true⟩) (by kernel_rfl) (by rw [opsL_scal]; rfl) (.inl rfl) fun w0 => ?_
  refine goes_seq (by kernel_rfl) (mkA n ns len d w0 []) (goes_seq (by kernel_rfl) (mkB n ns len d w0 [] []) ?_)
  rw [mkN n 2 hN]
  refine goes_seq (by kernel_rfl) (mkD2 n ns len d w0 [] []) (goes_seq (by kernel_rfl) (mkE n ns len d 2 [⟨1, 0, 0, 0⟩, ⟨1, 1, 0, 0⟩] 2 w0 [] [] ?_) (goes_seq (by kernel_rfl) (mkAll n ns len 2 (.inr (.inl rfl)) d h w0) (mkG2 n ns len d (lmkOps n 2 d ns len) (lmkM 2 len) w0 [] [] ?_)))
  · rfl
  · have : (min3 (lmkM 2 len) != 0) = true := by simp; omega
    simp [opsL_noOwn, this]
theorem con_lmk3 (n : Int) (ns : List AV) (len : Nat) (d : Bool) (h : LmkOk ns len) (hN : wi n 3 + 1 = (3 : Nat)) (nb : Nat) : Con prog 41 [.int .i64 n, .snap ns len, .bool d] nb (.agg [.int .i64 3, .slc nb 0 (lmkM 3 len), .slc (nb + 1) 0 3]) [⟨opsL (lmkOps n 3 d ns len), 57⟩, ⟨intL (outsT n (lmkM 3 len) 3), 3⟩] := by
  obtain ⟨a1, a2, a3⟩ := min3_is (lmkM 3 len) (by unfold lmkM; omega)
  refine con_goesKC (es := es4) (d := 8) (deep := shallow []) 120 (by kernel_rfl) (dec := []) (e := .ret) (s := mk [6] [.ptr 0 0] [⟨[.int .i64 3, .slc 1 0 (lmkM 3 len), .slc 2 0 3], 53⟩, ⟨opsL (lmkOps n 3 d ns len), 57⟩, ⟨intL (outsT n (lmkM 3 len) 3), 3⟩] []) [.flat] (r := ⟨_, _, ((List.all (opsL (lmkOps n 3 d ns len)) AV.scal) && true) && true⟩) (by kernel_rfl) (by rw [opsL_scal]; rfl) (.inl rfl) fun w0 => ?_
  refine goes_seq (by kernel_rfl) (mkA n ns len d w0 []) (goes_seq (by kernel_rfl) (mkB n ns len d w0 [] []) ?_)
  rw [mkN n 3 hN]
  refine goes_seq (by kernel_rfl) (mkD3 n ns len d w0 [] []) (goes_seq (by kernel_rfl) (mkE n ns len d 3 [⟨1, 0, 0, 0⟩, ⟨1, 1, 0, 0⟩, ⟨1, 2, 0, 0⟩] 3 w0 [] [] ?_) (goes_seq (by kernel_rfl) (mkAll n ns len 3 (.inr (.inr rfl)) d h w0) (mkG3 n ns len d (lmkOps n 3 d ns len) (lmkM 3 len) w0 [] [] ?_)))
  · rfl
  · have : (min3 (lmkM 3 len) != 0) = true := by simp; omega
    simp [opsL_noOwn, this]
end Go.Eng.Try
/- Fields, part 7: the laws' own numbers (envelopelaw3.Values), what the law knows (envelopelaw4.known): pieces. Condition: as each piece says. Written by wip/tools/kg.py. -/
namespace Go.Eng.Try
open Go Go.Eng Go.RowKit Go.Proofs.Try
theorem vls1_0 (ms : List AV) (len : Nat) (nb : Nat) (hok : ((!decide ((0 : Int) < (↑len : Int)) && true)) = true) : Con prog 46 [.int .i64 1, .snap ms len] nb (AV.slc nb 0 1) [ABlk.mk [AV.flt 13839561654909534208] 24] :=
  con_evF OM0 mixed (qs := [17]) (dec := [false]) (r := ⟨(AV.slc nb 0 1), [ABlk.mk [AV.flt 13839561654909534208] 24], (!decide ((0 : Int) < (↑len : Int)) && true)⟩) (by kernel_rfl) hok
theorem vls1_1 (ms : List AV) (len : Nat) (nb : Nat) (hok : ((Nat.blt 0 (List.length ms) && AV.isInt IntKind.i64 (List.getD ms 0 AV.undef) && (decide ((0 : Int) ≤ (0 : Int) ∧ (0 : Int) < (↑len : Int)) && (decide ((0 : Int) < (↑len : Int)) && true)))) = true) : Con prog 46 [.int .i64 1, .snap ms len] nb (AV.slc nb 0 1) [ABlk.mk [AV.flt (fdiv (fofint (IntKind.wrap IntKind.i64 (wi (AV.toInt (List.getD ms 0 AV.undef)) (65 : Int) - (32 : Int)))) 4620693217682128896)] 24] :=
  con_evF OM0 mixed (qs := [17]) (dec := [true]) (r := ⟨(AV.slc nb 0 1), [ABlk.mk [AV.flt (fdiv (fofint (IntKind.wrap IntKind.i64 (wi (AV.toInt (List.getD ms 0 AV.undef)) (65 : Int) - (32 : Int)))) 4620693217682128896)] 24], (Nat.blt 0 (List.length ms) && AV.isInt IntKind.i64 (List.getD ms 0 AV.undef) && (decide ((0 : Int) ≤ (0 : Int) ∧ (0 : Int) < (↑len : Int)) && (decide ((0 : Int) < (↑len : Int)) && true)))⟩) (by kernel_rfl) hok
theorem vls2_00 (ms : List AV) (len : Nat) (nb : Nat) (hok : ((!decide ((1 : Int) < (↑len : Int)) && (!decide ((0 : Int) < (↑len : Int)) && true))) = true) : Con prog 46 [.int .i64 2, .snap ms len] nb (AV.slc nb 0 2) [ABlk.mk [AV.flt 13839561654909534208, AV.flt 13839280179932823552] 24] :=
  con_evF OM0 mixed (qs := [17]) (dec := [false,false]) (r := ⟨(AV.slc nb 0 2), [ABlk.mk [AV.flt 13839561654909534208, AV.flt 13839280179932823552] 24], (!decide ((1 : Int) < (↑len : Int)) && (!decide ((0 : Int) < (↑len : Int)) && true))⟩) (by kernel_rfl) hok
theorem vls2_01 (ms : List AV) (len : Nat) (nb : Nat) (hok : ((Nat.blt 1 (List.length ms) && AV.isInt IntKind.i64 (List.getD ms 1 AV.undef) && (decide ((0 : Int) ≤ (1 : Int) ∧ (1 : Int) < (↑len : Int)) && (decide ((1 : Int) < (↑len : Int)) && (!decide ((0 : Int) < (↑len : Int)) && true))))) = true) : Con prog 46 [.int .i64 2, .snap ms len] nb (AV.slc nb 0 2) [ABlk.mk [AV.flt 13839561654909534208, AV.flt (fdiv (fofint (IntKind.wrap IntKind.i64 (wi (AV.toInt (List.getD ms 1 AV.undef)) (65 : Int) - (32 : Int)))) 4620693217682128896)] 24] :=
  con_evF OM0 mixed (qs := [17]) (dec := [false,true]) (r := ⟨(AV.slc nb 0 2), [ABlk.mk [AV.flt 13839561654909534208, AV.flt (fdiv (fofint (IntKind.wrap IntKind.i64 (wi (AV.toInt (List.getD ms 1 AV.undef)) (65 : Int) - (32 : Int)))) 4620693217682128896)] 24], (Nat.blt 1 (List.length ms) && AV.isInt IntKind.i64 (List.getD ms 1 AV.undef) && (decide ((0 : Int) ≤ (1 : Int) ∧ (1 : Int) < (↑len : Int)) && (decide ((1 : Int) < (↑len : Int)) && (!decide ((0 : Int) < (↑len : Int)) && true))))⟩) (by kernel_rfl) hok
theorem vls2_10 (ms : List AV) (len : Nat) (nb : Nat) (hok : ((!decide ((1 : Int) < (↑len : Int)) && (Nat.blt 0 (List.length ms) && AV.isInt IntKind.i64 (List.getD ms 0 AV.undef) && (decide ((0 : Int) ≤ (0 : Int) ∧ (0 : Int) < (↑len : Int)) && (decide ((0 : Int) < (↑len : Int)) && true))))) = true) : Con prog 46 [.int .i64 2, .snap ms len] nb (AV.slc nb 0 2) [ABlk.mk [AV.flt (fdiv (fofint (IntKind.wrap IntKind.i64 (wi (AV.toInt (List.getD ms 0 AV.undef)) (65 : Int) - (32 : Int)))) 4620693217682128896), AV.flt 13839280179932823552] 24] :=
  con_evF OM0 mixed (qs := [17]) (dec := [true,false]) (r := ⟨(AV.slc nb 0 2), [ABlk.mk [AV.flt (fdiv (fofint (IntKind.wrap IntKind.i64 (wi (AV.toInt (List.getD ms 0 AV.undef)) (65 : Int) - (32 : Int)))) 4620693217682128896), AV.flt 13839280179932823552] 24], (!decide ((1 : Int) < (↑len : Int)) && (Nat.blt 0 (List.length ms) && AV.isInt IntKind.i64 (List.getD ms 0 AV.undef) && (decide ((0 : Int) ≤ (0 : Int) ∧ (0 : Int) < (↑len : Int)) && (decide ((0 : Int) < (↑len : Int)) && true))))⟩) (by kernel_rfl) hok
theorem vls2_11 (ms : List AV) (len : Nat) (nb : Nat) (hok : ((Nat.blt 1 (List.length ms) && AV.isInt IntKind.i64 (List.getD ms 1 AV.undef) && (decide ((0 : Int) ≤ (1 : Int) ∧ (1 : Int) < (↑len : Int)) && (decide ((1 : Int) < (↑len : Int)) && (Nat.blt 0 (List.length ms) && AV.isInt IntKind.i64 (List.getD ms 0 AV.undef) && (decide ((0 : Int) ≤ (0 : Int) ∧ (0 : Int) < (↑len : Int)) && (decide ((0 : Int) < (↑len : Int)) && true))))))) = true) : Con prog 46 [.int .i64 2, .snap ms len] nb (AV.slc nb 0 2) [ABlk.mk [AV.flt (fdiv (fofint (IntKind.wrap IntKind.i64 (wi (AV.toInt (List.getD ms 0 AV.undef)) (65 : Int) - (32 : Int)))) 4620693217682128896), AV.flt (fdiv (fofint (IntKind.wrap IntKind.i64 (wi (AV.toInt (List.getD ms 1 AV.undef)) (65 : Int) - (32 : Int)))) 4620693217682128896)] 24] :=
  con_evF OM0 mixed (qs := [17]) (dec := [true,true]) (r := ⟨(AV.slc nb 0 2), [ABlk.mk [AV.flt (fdiv (fofint (IntKind.wrap IntKind.i64 (wi (AV.toInt (List.getD ms 0 AV.undef)) (65 : Int) - (32 : Int)))) 4620693217682128896), AV.flt (fdiv (fofint (IntKind.wrap IntKind.i64 (wi (AV.toInt (List.getD ms 1 AV.undef)) (65 : Int) - (32 : Int)))) 4620693217682128896)] 24], (Nat.blt 1 (List.length ms) && AV.isInt IntKind.i64 (List.getD ms 1 AV.undef) && (decide ((0 : Int) ≤ (1 : Int) ∧ (1 : Int) < (↑len : Int)) && (decide ((1 : Int) < (↑len : Int)) && (Nat.blt 0 (List.length ms) && AV.isInt IntKind.i64 (List.getD ms 0 AV.undef) && (decide ((0 : Int) ≤ (0 : Int) ∧ (0 : Int) < (↑len : Int)) && (decide ((0 : Int) < (↑len : Int)) && true))))))⟩) (by kernel_rfl) hok
theorem vls3_000 (ms : List AV) (len : Nat) (nb : Nat) (hok : ((!decide ((2 : Int) < (↑len : Int)) && (!decide ((1 : Int) < (↑len : Int)) && (!decide ((0 : Int) < (↑len : Int)) && true)))) = true) : Con prog 46 [.int .i64 3, .snap ms len] nb (AV.slc nb 0 3) [ABlk.mk [AV.flt 13839561654909534208, AV.flt 13839280179932823552, AV.flt 13838998704956112896] 24] :=
  con_evF OM0 mixed (qs := [17]) (dec := [false,false,false]) (r := ⟨(AV.slc nb 0 3), [ABlk.mk [AV.flt 13839561654909534208, AV.flt 13839280179932823552, AV.flt 13838998704956112896] 24], (!decide ((2 : Int) < (↑len : Int)) && (!decide ((1 : Int) < (↑len : Int)) && (!decide ((0 : Int) < (↑len : Int)) && true)))⟩) (by kernel_rfl) hok
theorem vls3_001 (ms : List AV) (len : Nat) (nb : Nat) (hok : ((Nat.blt 2 (List.length ms) && AV.isInt IntKind.i64 (List.getD ms 2 AV.undef) && (decide ((0 : Int) ≤ (2 : Int) ∧ (2 : Int) < (↑len : Int)) && (decide ((2 : Int) < (↑len : Int)) && (!decide ((1 : Int) < (↑len : Int)) && (!decide ((0 : Int) < (↑len : Int)) && true)))))) = true) : Con prog 46 [.int .i64 3, .snap ms len] nb (AV.slc nb 0 3) [ABlk.mk [AV.flt 13839561654909534208, AV.flt 13839280179932823552, AV.flt (fdiv (fofint (IntKind.wrap IntKind.i64 (wi (AV.toInt (List.getD ms 2 AV.undef)) (65 : Int) - (32 : Int)))) 4620693217682128896)] 24] :=
  con_evF OM0 mixed (qs := [17]) (dec := [false,false,true]) (r := ⟨(AV.slc nb 0 3), [ABlk.mk [AV.flt 13839561654909534208, AV.flt 13839280179932823552, AV.flt (fdiv (fofint (IntKind.wrap IntKind.i64 (wi (AV.toInt (List.getD ms 2 AV.undef)) (65 : Int) - (32 : Int)))) 4620693217682128896)] 24], (Nat.blt 2 (List.length ms) && AV.isInt IntKind.i64 (List.getD ms 2 AV.undef) && (decide ((0 : Int) ≤ (2 : Int) ∧ (2 : Int) < (↑len : Int)) && (decide ((2 : Int) < (↑len : Int)) && (!decide ((1 : Int) < (↑len : Int)) && (!decide ((0 : Int) < (↑len : Int)) && true)))))⟩) (by kernel_rfl) hok
theorem vls3_010 (ms : List AV) (len : Nat) (nb : Nat) (hok : ((!decide ((2 : Int) < (↑len : Int)) && (Nat.blt 1 (List.length ms) && AV.isInt IntKind.i64 (List.getD ms 1 AV.undef) && (decide ((0 : Int) ≤ (1 : Int) ∧ (1 : Int) < (↑len : Int)) && (decide ((1 : Int) < (↑len : Int)) && (!decide ((0 : Int) < (↑len : Int)) && true)))))) = true) : Con prog 46 [.int .i64 3, .snap ms len] nb (AV.slc nb 0 3) [ABlk.mk [AV.flt 13839561654909534208, AV.flt (fdiv (fofint (IntKind.wrap IntKind.i64 (wi (AV.toInt (List.getD ms 1 AV.undef)) (65 : Int) - (32 : Int)))) 4620693217682128896), AV.flt 13838998704956112896] 24] :=
  con_evF OM0 mixed (qs := [17]) (dec := [false,true,false]) (r := ⟨(AV.slc nb 0 3), [ABlk.mk [AV.flt 13839561654909534208, AV.flt (fdiv (fofint (IntKind.wrap IntKind.i64 (wi (AV.toInt (List.getD ms 1 AV.undef)) (65 : Int) - (32 : Int)))) 4620693217682128896), AV.flt 13838998704956112896] 24], (!decide ((2 : Int) < (↑len : Int)) && (Nat.blt 1 (List.length ms) && AV.isInt IntKind.i64 (List.getD ms 1 AV.undef) && (decide ((0 : Int) ≤ (1 : Int) ∧ (1 : Int) < (↑len : Int)) && (decide ((1 : Int) < (↑len : Int)) && (!decide ((0 : Int) < (↑len : Int)) && true)))))⟩) (by kernel_rfl) hok
theorem vls3_011 (ms : List AV) (len : Nat) (nb : Nat) (hok : ((Nat.blt 2 (List.length ms) && AV.isInt IntKind.i64 (List.getD ms 2 AV.undef) && (decide ((0 : Int) ≤ (2 : Int) ∧ (2 : Int) < (↑len : Int)) && (decide ((2 : Int) < (↑len : Int)) && (Nat.blt 1 (List.length ms) && AV.isInt IntKind.i64 (List.getD ms 1 AV.undef) && (decide ((0 : Int) ≤ (1 : Int) ∧ (1 : Int) < (↑len : Int)) && (decide ((1 : Int) < (↑len : Int)) && (!decide ((0 : Int) < (↑len : Int)) && true)))))))) = true) : Con prog 46 [.int .i64 3, .snap ms len] nb (AV.slc nb 0 3) [ABlk.mk [AV.flt 13839561654909534208, AV.flt (fdiv (fofint (IntKind.wrap IntKind.i64 (wi (AV.toInt (List.getD ms 1 AV.undef)) (65 : Int) - (32 : Int)))) 4620693217682128896), AV.flt (fdiv (fofint (IntKind.wrap IntKind.i64 (wi (AV.toInt (List.getD ms 2 AV.undef)) (65 : Int) - (32 : Int)))) 4620693217682128896)] 24] :=
  con_evF OM0 mixed (qs := [17]) (dec := [false,true,true]) (r := ⟨(AV.slc nb 0 3), [ABlk.mk [AV.flt 13839561654909534208, AV.flt (fdiv (fofint (IntKind.wrap IntKind.i64 (wi (AV.toInt (List.getD ms 1 AV.undef)) (65 : Int) - (32 : Int)))) 4620693217682128896), AV.flt (fdiv (fofint (IntKind.wrap IntKind.i64 (wi (AV.toInt (List.getD ms 2 AV.undef)) (65 : Int) - (32 : Int)))) 4620693217682128896)] 24], (Nat.blt 2 (List.length ms) && AV.isInt IntKind.i64 (List.getD ms 2 AV.undef) && (decide ((0 : Int) ≤ (2 : Int) ∧ (2 : Int) < (↑len : Int)) && (decide ((2 : Int) < (↑len : Int)) && (Nat.blt 1 (List.length ms) && AV.isInt IntKind.i64 (List.getD ms 1 AV.undef) && (decide ((0 : Int) ≤ (1 : Int) ∧ (1 : Int) < (↑len : Int)) && (decide ((1 : Int) < (↑len : Int)) && (!decide ((0 : Int) < (↑len : Int)) && true)))))))⟩) (by kernel_rfl) hok
theorem vls3_100 (ms : List AV) (len : Nat) (nb : Nat) (hok : ((!decide ((2 : Int) < (↑len : Int)) && (!decide ((1 : Int) < (↑len : Int)) && (Nat.blt 0 (List.length ms) && AV.isInt IntKind.i64 (List.getD ms 0 AV.undef) && (decide ((0 : Int) ≤ (0 : Int) ∧ (0 : Int) < (↑len : Int)) && (decide ((0 : Int) < (↑len : Int)) && true)))))) = true) : Con prog 46 [.int .i64 3, .snap ms len] nb (AV.slc nb 0 3) [ABlk.mk [AV.flt (fdiv (fofint (IntKind.wrap IntKind.i64 (wi (AV.toInt (List.getD ms 0 AV.undef)) (65 : Int) - (32 : Int)))) 4620693217682128896), AV.flt 13839280179932823552, AV.flt 13838998704956112896] 24] :=
  con_evF OM0 mixed (qs := [17]) (dec := [true,false,false]) (r := ⟨(AV.slc nb 0 3), [ABlk.mk [AV.flt (fdiv (fofint (IntKind.wrap IntKind.i64 (wi (AV.toInt (List.getD ms 0 AV.undef)) (65 : Int) - (32 : Int)))) 4620693217682128896), AV.flt 13839280179932823552, AV.flt 13838998704956112896] 24], (!decide ((2 : Int) < (↑len : Int)) && (!decide ((1 : Int) < (↑len : Int)) && (Nat.blt 0 (List.length ms) && AV.isInt IntKind.i64 (List.getD ms 0 AV.undef) && (decide ((0 : Int) ≤ (0 : Int) ∧ (0 : Int) < (↑len : Int)) && (decide ((0 : Int) < (↑len : Int)) && true)))))⟩) (by kernel_rfl) hok
theorem vls3_101 (ms : List AV) (len : Nat) (nb : Nat) (hok : ((Nat.blt 2 (List.length ms) && AV.isInt IntKind.i64 (List.getD ms 2 AV.undef) && (decide ((0 : Int) ≤ (2 : Int) ∧ (2 : Int) < (↑len : Int)) && (decide ((2 : Int) < (↑len : Int)) && (!decide ((1 : Int) < (↑len : Int)) && (Nat.blt 0 (List.length ms) && AV.isInt IntKind.i64 (List.getD ms 0 AV.undef) && (decide ((0 : Int) ≤ (0 : Int) ∧ (0 : Int) < (↑len : Int)) && (decide ((0 : Int) < (↑len : Int)) && true)))))))) = true) : Con prog 46 [.int .i64 3, .snap ms len] nb (AV.slc nb 0 3) [ABlk.mk [AV.flt (fdiv (fofint (IntKind.wrap IntKind.i64 (wi (AV.toInt (List.getD ms 0 AV.undef)) (65 : Int) - (32 : Int)))) 4620693217682128896), AV.flt 13839280179932823552, AV.flt (fdiv (fofint (IntKind.wrap IntKind.i64 (wi (AV.toInt (List.getD ms 2 AV.undef)) (65 : Int) - (32 : Int)))) 4620693217682128896)] 24] :=
  con_evF OM0 mixed (qs := [17]) (dec := [true,false,true]) (r := ⟨(AV.slc nb 0 3), [ABlk.mk [AV.flt (fdiv (fofint (IntKind.wrap IntKind.i64 (wi (AV.toInt (List.getD ms 0 AV.undef)) (65 : Int) - (32 : Int)))) 4620693217682128896), AV.flt 13839280179932823552, AV.flt (fdiv (fofint (IntKind.wrap IntKind.i64 (wi (AV.toInt (List.getD ms 2 AV.undef)) (65 : Int) - (32 : Int)))) 4620693217682128896)] 24], (Nat.blt 2 (List.length ms) && AV.isInt IntKind.i64 (List.getD ms 2 AV.undef) && (decide ((0 : Int) ≤ (2 : Int) ∧ (2 : Int) < (↑len : Int)) && (decide ((2 : Int) < (↑len : Int)) && (!decide ((1 : Int) < (↑len : Int)) && (Nat.blt 0 (List.length ms) && AV.isInt IntKind.i64 (List.getD ms 0 AV.undef) && (decide ((0 : Int) ≤ (0 : Int) ∧ (0 : Int) < (↑len : Int)) && (decide ((0 : Int) < (↑len : Int)) && true)))))))⟩) (by kernel_rfl) hok
theorem vls3_110 (ms : List AV) (len : Nat) (nb : Nat) (hok : ((!decide ((2 : Int) < (↑len : Int)) && (Nat.blt 1 (List.length ms) && AV.isInt IntKind.i64 (List.getD ms 1 AV.undef) && (decide ((0 : Int) ≤ (1 : Int) ∧ (1 : Int) < (↑len : Int)) && (decide ((1 : Int) < (↑len : Int)) && (Nat.blt 0 (List.length ms) && AV.isInt IntKind.i64 (List.getD ms 0 AV.undef) && (decide ((0 : Int) ≤ (0 : Int) ∧ (0 : Int) < (↑len : Int)) && (decide ((0 : Int) < (↑len : Int)) && true)))))))) = true) : Con prog 46 [.int .i64 3, .snap ms len] nb (AV.slc nb 0 3) [ABlk.mk [AV.flt (fdiv (fofint (IntKind.wrap IntKind.i64 (wi (AV.toInt (List.getD ms 0 AV.undef)) (65 : Int) - (32 : Int)))) 4620693217682128896), AV.flt (fdiv (fofint (IntKind.wrap IntKind.i64 (wi (AV.toInt (List.getD ms 1 AV.undef)) (65 : Int) - (32 : Int)))) 4620693217682128896), AV.flt 13838998704956112896] 24] :=
  con_evF OM0 mixed (qs := [17]) (dec := [true,true,false]) (r := ⟨(AV.slc nb 0 3), [ABlk.mk [AV.flt (fdiv (fofint (IntKind.wrap IntKind.i64 (wi (AV.toInt (List.getD ms 0 AV.undef)) (65 : Int) - (32 : Int)))) 4620693217682128896), AV.flt (fdiv (fofint (IntKind.wrap IntKind.i64 (wi (AV.toInt (List.getD ms 1 AV.undef)) (65 : Int) - (32 : Int)))) 4620693217682128896), AV.flt 13838998704956112896] 24], (!decide ((2 : Int) < (↑len : Int)) && (Nat.blt 1 (List.length ms) && AV.isInt IntKind.i64 (List.getD ms 1 AV.undef) && (decide ((0 : Int) ≤ (1 : Int) ∧ (1 : Int) < (↑len : Int)) && (decide ((1 : Int) < (↑len : Int)) && (Nat.blt 0 (List.length ms) && AV.isInt IntKind.i64 (List.getD ms 0 AV.undef) && (decide ((0 : Int) ≤ (0 : Int) ∧ (0 : Int) < (↑len : Int)) && (decide ((0 : Int) < (↑len : Int)) && true)))))))⟩) (by kernel_rfl) hok
theorem vls3_111 (ms : List AV) (len : Nat) (nb : Nat) (hok : ((Nat.blt 2 (List.length ms) && AV.isInt IntKind.i64 (List.getD ms 2 AV.undef) && (decide ((0 : Int) ≤ (2 : Int) ∧ (2 : Int) < (↑len : Int)) && (decide ((2 : Int) < (↑len : Int)) && (Nat.blt 1 (List.length ms) && AV.isInt IntKind.i64 (List.getD ms 1 AV.undef) && (decide ((0 : Int) ≤ (1 : Int) ∧ (1 : Int) < (↑len : Int)) && (decide ((1 : Int) < (↑len : Int)) && (Nat.blt 0 (List.length ms) && AV.isInt IntKind.i64 (List.getD ms 0 AV.undef) && (decide ((0 : Int) ≤ (0 : Int) ∧ (0 : Int) < (↑len : Int)) && (decide ((0 : Int) < (↑len : Int)) && true)))))))))) = true) : Con prog 46 [.int .i64 3, .snap ms len] nb (AV.slc nb 0 3) [ABlk.mk [AV.flt (fdiv (fofint (IntKind.wrap IntKind.i64 (wi (AV.toInt (List.getD ms 0 AV.undef)) (65 : Int) - (32 : Int)))) 4620693217682128896), AV.flt (fdiv (fofint (IntKind.wrap IntKind.i64 (wi (AV.toInt (List.getD ms 1 AV.undef)) (65 : Int) - (32 : Int)))) 4620693217682128896), AV.flt (fdiv (fofint (IntKind.wrap IntKind.i64 (wi (AV.toInt (List.getD ms 2 AV.undef)) (65 : Int) - (32 : Int)))) 4620693217682128896)] 24] :=
  con_evF OM0 mixed (qs := [17]) (dec := [true,true,true]) (r := ⟨(AV.slc nb 0 3), [ABlk.mk [AV.flt (fdiv (fofint (IntKind.wrap IntKind.i64 (wi (AV.toInt (List.getD ms 0 AV.undef)) (65 : Int) - (32 : Int)))) 4620693217682128896), AV.flt (fdiv (fofint (IntKind.wrap IntKind.i64 (wi (AV.toInt (List.getD ms 1 AV.undef)) (65 : Int) - (32 : Int)))) 4620693217682128896), AV.flt (fdiv (fofint (IntKind.wrap IntKind.i64 (wi (AV.toInt (List.getD ms 2 AV.undef)) (65 : Int) - (32 : Int)))) 4620693217682128896)] 24], (Nat.blt 2 (List.length ms) && AV.isInt IntKind.i64 (List.getD ms 2 AV.undef) && (decide ((0 : Int) ≤ (2 : Int) ∧ (2 : Int) < (↑len : Int)) && (decide ((2 : Int) < (↑len : Int)) && (Nat.blt 1 (List.length ms) && AV.isInt IntKind.i64 (List.getD ms 1 AV.undef) && (decide ((0 : Int) ≤ (1 : Int) ∧ (1 : Int) < (↑len : Int)) && (decide ((1 : Int) < (↑len : Int)) && (Nat.blt 0 (List.length ms) && AV.isInt IntKind.i64 (List.getD ms 0 AV.undef) && (decide ((0 : Int) ≤ (0 : Int) ∧ (0 : Int) < (↑len : Int)) && (decide ((0 : Int) < (↑len : Int)) && true)))))))))⟩) (by kernel_rfl) hok
theorem known4  (nb : Nat) : Con prog 55 [] nb (AV.bool true) [] :=
  con_evF OM0 mixed (qs := []) (dec := []) (r := ⟨(AV.bool true), [], true⟩) (by kernel_rfl) rfl
theorem known3  (nb : Nat) : Con prog 39 [] nb (AV.bool true) [] :=
  con_evF OM0 mixed (qs := []) (dec := []) (r := ⟨(AV.bool true), [], true⟩) (by kernel_rfl) rfl
theorem known5  (nb : Nat) : Con prog 33 [] nb (AV.bool true) [] :=
  con_evF OM0 mixed (qs := []) (dec := []) (r := ⟨(AV.bool true), [], true⟩) (by kernel_rfl) rfl
theorem known8  (nb : Nat) : Con prog 24 [] nb (AV.bool true) [] :=
  con_evF OM0 mixed (qs := []) (dec := []) (r := ⟨(AV.bool true), [], true⟩) (by kernel_rfl) rfl
end Go.Eng.Try
/- Fields, part 8: entries for fields of floats; the laws' numbers. Condition: as each entry says. Written by wip/tools/genR4.py. -/
namespace Go.Eng
open Go Go.RowKit

def valV (ms : List AV) (len i : Nat) : Nat := fdiv (fofint (IntKind.wrap IntKind.i64 (wi (bif decide ((i : Int) < (len : Int)) then nsAt ms i else (i : Int)) 65 - 32))) 4620693217682128896
theorem valV_t (ms : List AV) (len i : Nat) (h : decide ((i : Int) < (len : Int)) = true) : valV ms len i = fdiv (fofint (IntKind.wrap IntKind.i64 (wi (AV.toInt (ms.getD i .undef)) 65 - 32))) 4620693217682128896 := by
  unfold valV nsAt
  rw [h]
  rfl
def valC (i : Nat) : Nat := fdiv (fofint (IntKind.wrap IntKind.i64 (wi (i : Int) 65 - 32))) 4620693217682128896
theorem valV_f (ms : List AV) (len i : Nat) (h : decide ((i : Int) < (len : Int)) = false) : valV ms len i = valC i := by
  unfold valV valC
  rw [h]
  rfl
theorem valC0 : valC 0 = 13839561654909534208 := by decide +kernel
theorem valC1 : valC 1 = 13839280179932823552 := by decide +kernel
theorem valC2 : valC 2 = 13838998704956112896 := by decide +kernel
def xsV (N : Nat) (ms : List AV) (len : Nat) : List Nat := (List.range N).map (valV ms len)
theorem xsV_length (N : Nat) (ms : List AV) (len : Nat) : (xsV N ms len).length = N := by simp [xsV]

def unOps : List AV → List TOp
  | .int _ k :: .int _ a :: .int _ b :: .flt c :: rest => ⟨k, a, b, c⟩ :: unOps rest
  | _ => []
theorem unOps_ops (os : List TOp) : unOps (opsL os) = os := by
  induction os with
  | nil => rfl
  | cons o os ih => simp [opsL, unOps, ih]
def unInt (cs : List AV) : List Int := cs.map AV.toInt
theorem unInt_int (xs : List Int) : unInt (intL xs) = xs := by
  unfold unInt intL
  rw [List.map_map]
  have : (AV.toInt ∘ AV.int .i64) = id := by funext x; rfl
  rw [this, List.map_id]

/-- A field of N variables, and as many numbers. -/
def FldOk (N : Nat) (k : IntKind) (a : Int) (oc : List AV) (m : Nat) (uc : List AV) (u : Nat) : Prop :=
  k = .i64 ∧ a = N ∧ u = N ∧ ∃ ops outs, oc = opsL ops ∧ m = ops.length ∧ uc = intL outs ∧ m < 1000 ∧ OpsOk N ops ∧ OutsOk N m outs
def XsOk (N : Nat) (xc : List AV) (lx : Nat) : Prop := lx = N ∧ ∃ xs, xc = fltL xs ∧ xs.length = N

def jRows (N nb : Nat) (xs : List Nat) (ops : List TOp) (outs : List Int) : List ABlk :=
  ⟨(List.range N).map (fun i => .slc (nb + (i + 1)) 0 N), 34⟩ :: (List.range N).map (fun i => ⟨jRow N (jacD kF 0 N xs ops outs i), 24⟩)

namespace Try
open Go.Proofs.Try

theorem con_vals1 (ms : List AV) (len : Nat) (h : LmkOk ms len) (nb : Nat) : Con prog 46 [.int .i64 1, .snap ms len] nb (.slc nb 0 1) [⟨fltL (xsV 1 ms len), 24⟩] := by
  obtain ⟨hl, hi⟩ := h
  have e : fltL (xsV 1 ms len) = [.flt (valV ms len 0)] := rfl
  rw [e]
  cases h0 : decide (((0 : Nat) : Int) < (len : Int)) with
  | true =>
    have w0 : valV ms len 0 = _ := valV_t ms len 0 h0
    rw [w0]
    exact vls1_1 ms len nb (by
      simp only [Bool.and_eq_true]
      and_intros
      all_goals first
        | exact trivial
        | (rw [Nat.blt_eq]; simp only [decide_eq_true_eq] at *; omega)
        | (refine hi _ ?_; simp only [decide_eq_true_eq] at *; omega)
        | (simp only [decide_eq_true_eq] at *; omega)
        | (simp only [Bool.not_eq_true', decide_eq_false_iff_not, decide_eq_true_eq] at *; omega))
  | false =>
    have w0 : valV ms len 0 = _ := (valV_f ms len 0 h0).trans valC0
    rw [w0]
    exact vls1_0 ms len nb (by
      simp only [Bool.and_eq_true]
      and_intros
      all_goals first
        | exact trivial
        | (rw [Nat.blt_eq]; simp only [decide_eq_true_eq] at *; omega)
        | (refine hi _ ?_; simp only [decide_eq_true_eq] at *; omega)
        | (simp only [decide_eq_true_eq] at *; omega)
        | (simp only [Bool.not_eq_true', decide_eq_false_iff_not, decide_eq_true_eq] at *; omega))

theorem con_vals2 (ms : List AV) (len : Nat) (h : LmkOk ms len) (nb : Nat) : Con prog 46 [.int .i64 2, .snap ms len] nb (.slc nb 0 2) [⟨fltL (xsV 2 ms len), 24⟩] := by
  obtain ⟨hl, hi⟩ := h
  have e : fltL (xsV 2 ms len) = [.flt (valV ms len 0), .flt (valV ms len 1)] := rfl
  rw [e]
  cases h0 : decide (((0 : Nat) : Int) < (len : Int)) with
  | true =>
    cases h1 : decide (((1 : Nat) : Int) < (len : Int)) with
    | true =>
      have w0 : valV ms len 0 = _ := valV_t ms len 0 h0
      have w1 : valV ms len 1 = _ := valV_t ms len 1 h1
      rw [w0, w1]
      exact vls2_11 ms len nb (by
        simp only [Bool.and_eq_true]
        and_intros
        all_goals first
          | exact trivial
          | (rw [Nat.blt_eq]; simp only [decide_eq_true_eq] at *; omega)
          | (refine hi _ ?_; simp only [decide_eq_true_eq] at *; omega)
          | (simp only [decide_eq_true_eq] at *; omega)
          | (simp only [Bool.not_eq_true', decide_eq_false_iff_not, decide_eq_true_eq] at *; omega))
    | false =>
      have w0 : valV ms len 0 = _ := valV_t ms len 0 h0
      have w1 : valV ms len 1 = _ := (valV_f ms len 1 h1).trans valC1
      rw [w0, w1]
      exact vls2_10 ms len nb (by
        simp only [Bool.and_eq_true]
        and_intros
        all_goals first
          | exact trivial
          | (rw [Nat.blt_eq]; simp only [decide_eq_true_eq] at *; omega)
          | (refine hi _ ?_; simp only [decide_eq_true_eq] at *; omega)
          | (simp only [decide_eq_true_eq] at *; omega)
          | (simp only [Bool.not_eq_true', decide_eq_false_iff_not, decide_eq_true_eq] at *; omega))
  | false =>
    cases h1 : decide (((1 : Nat) : Int) < (len : Int)) with
    | true =>
      have w0 : valV ms len 0 = _ := (valV_f ms len 0 h0).trans valC0
      have w1 : valV ms len 1 = _ := valV_t ms len 1 h1
      rw [w0, w1]
      exact vls2_01 ms len nb (by
        simp only [Bool.and_eq_true]
        and_intros
        all_goals first
          | exact trivial
          | (rw [Nat.blt_eq]; simp only [decide_eq_true_eq] at *; omega)
          | (refine hi _ ?_; simp only [decide_eq_true_eq] at *; omega)
          | (simp only [decide_eq_true_eq] at *; omega)
          | (simp only [Bool.not_eq_true', decide_eq_false_iff_not, decide_eq_true_eq] at *; omega))
    | false =>
      have w0 : valV ms len 0 = _ := (valV_f ms len 0 h0).trans valC0
      have w1 : valV ms len 1 = _ := (valV_f ms len 1 h1).trans valC1
      rw [w0, w1]
      exact vls2_00 ms len nb (by
        simp only [Bool.and_eq_true]
        and_intros
        all_goals first
          | exact trivial
          | (rw [Nat.blt_eq]; simp only [decide_eq_true_eq] at *; omega)
          | (refine hi _ ?_; simp only [decide_eq_true_eq] at *; omega)
          | (simp only [decide_eq_true_eq] at *; omega)
          | (simp only [Bool.not_eq_true', decide_eq_false_iff_not, decide_eq_true_eq] at *; omega))

theorem con_vals3 (ms : List AV) (len : Nat) (h : LmkOk ms len) (nb : Nat) : Con prog 46 [.int .i64 3, .snap ms len] nb (.slc nb 0 3) [⟨fltL (xsV 3 ms len), 24⟩] := by
  obtain ⟨hl, hi⟩ := h
  have e : fltL (xsV 3 ms len) = [.flt (valV ms len 0), .flt (valV ms len 1), .flt (valV ms len 2)] := rfl
  rw [e]
  cases h0 : decide (((0 : Nat) : Int) < (len : Int)) with
  | true =>
    cases h1 : decide (((1 : Nat) : Int) < (len : Int)) with
    | true =>
      cases h2 : decide (((2 : Nat) : Int) < (len : Int)) with
      | true =>
        have w0 : valV ms len 0 = _ := valV_t ms len 0 h0
        have w1 : valV ms len 1 = _ := valV_t ms len 1 h1
        have w2 : valV ms len 2 = _ := valV_t ms len 2 h2
        rw [w0, w1, w2]
        exact vls3_111 ms len nb (by
          simp only [Bool.and_eq_true]
          and_intros
          all_goals first
            | exact trivial
            | (rw [Nat.blt_eq]; simp only [decide_eq_true_eq] at *; omega)
            | (refine hi _ ?_; simp only [decide_eq_true_eq] at *; omega)
            | (simp only [decide_eq_true_eq] at *; omega)
            | (simp only [Bool.not_eq_true', decide_eq_false_iff_not, decide_eq_true_eq] at *; omega))
      | false =>
        have w0 : valV ms len 0 = _ := valV_t ms len 0 h0
        have w1 : valV ms len 1 = _ := valV_t ms len 1 h1
        have w2 : valV ms len 2 = _ := (valV_f ms len 2 h2).trans valC2
        rw [w0, w1, w2]
        exact vls3_110 ms len nb (by
          simp only [Bool.and_eq_true]
          and_intros
          all_goals first
            | exact trivial
            | (rw [Nat.blt_eq]; simp only [decide_eq_true_eq] at *; omega)
            | (refine hi _ ?_; simp only [decide_eq_true_eq] at *; omega)
            | (simp only [decide_eq_true_eq] at *; omega)
            | (simp only [Bool.not_eq_true', decide_eq_false_iff_not, decide_eq_true_eq] at *; omega))
    | false =>
      cases h2 : decide (((2 : Nat) : Int) < (len : Int)) with
      | true =>
        have w0 : valV ms len 0 = _ := valV_t ms len 0 h0
        have w1 : valV ms len 1 = _ := (valV_f ms len 1 h1).trans valC1
        have w2 : valV ms len 2 = _ := valV_t ms len 2 h2
        rw [w0, w1, w2]
        exact vls3_101 ms len nb (by
          simp only [Bool.and_eq_true]
          and_intros
          all_goals first
            | exact trivial
            | (rw [Nat.blt_eq]; simp only [decide_eq_true_eq] at *; omega)
            | (refine hi _ ?_; simp only [decide_eq_true_eq] at *; omega)
            | (simp only [decide_eq_true_eq] at *; omega)
            | (simp only [Bool.not_eq_true', decide_eq_false_iff_not, decide_eq_true_eq] at *; omega))
      | false =>
        have w0 : valV ms len 0 = _ := valV_t ms len 0 h0
        have w1 : valV ms len 1 = _ := (valV_f ms len 1 h1).trans valC1
        have w2 : valV ms len 2 = _ := (valV_f ms len 2 h2).trans valC2
        rw [w0, w1, w2]
        exact vls3_100 ms len nb (by
          simp only [Bool.and_eq_true]
          and_intros
          all_goals first
            | exact trivial
            | (rw [Nat.blt_eq]; simp only [decide_eq_true_eq] at *; omega)
            | (refine hi _ ?_; simp only [decide_eq_true_eq] at *; omega)
            | (simp only [decide_eq_true_eq] at *; omega)
            | (simp only [Bool.not_eq_true', decide_eq_false_iff_not, decide_eq_true_eq] at *; omega))
  | false =>
    cases h1 : decide (((1 : Nat) : Int) < (len : Int)) with
    | true =>
      cases h2 : decide (((2 : Nat) : Int) < (len : Int)) with
      | true =>
        have w0 : valV ms len 0 = _ := (valV_f ms len 0 h0).trans valC0
        have w1 : valV ms len 1 = _ := valV_t ms len 1 h1
        have w2 : valV ms len 2 = _ := valV_t ms len 2 h2
        rw [w0, w1, w2]
        exact vls3_011 ms len nb (by
          simp only [Bool.and_eq_true]
          and_intros
          all_goals first
            | exact trivial
            | (rw [Nat.blt_eq]; simp only [decide_eq_true_eq] at *; omega)
            | (refine hi _ ?_; simp only [decide_eq_true_eq] at *; omega)
            | (simp only [decide_eq_true_eq] at *; omega)
            | (simp only [Bool.not_eq_true', decide_eq_false_iff_not, decide_eq_true_eq] at *; omega))
      | false =>
        have w0 : valV ms len 0 = _ := (valV_f ms len 0 h0).trans valC0
        have w1 : valV ms len 1 = _ := valV_t ms len 1 h1
        have w2 : valV ms len 2 = _ := (valV_f ms len 2 h2).trans valC2
        rw [w0, w1, w2]
        exact vls3_010 ms len nb (by
          simp only [Bool.and_eq_true]
          and_intros
          all_goals first
            | exact trivial
            | (rw [Nat.blt_eq]; simp only [decide_eq_true_eq] at *; omega)
            | (refine hi _ ?_; simp only [decide_eq_true_eq] at *; omega)
            | (simp only [decide_eq_true_eq] at *; omega)
            | (simp only [Bool.not_eq_true', decide_eq_false_iff_not, decide_eq_true_eq] at *; omega))
    | false =>
      cases h2 : decide (((2 : Nat) : Int) < (len : Int)) with
      | true =>
        have w0 : valV ms len 0 = _ := (valV_f ms len 0 h0).trans valC0
        have w1 : valV ms len 1 = _ := (valV_f ms len 1 h1).trans valC1
        have w2 : valV ms len 2 = _ := valV_t ms len 2 h2
        rw [w0, w1, w2]
        exact vls3_001 ms len nb (by
          simp only [Bool.and_eq_true]
          and_intros
          all_goals first
            | exact trivial
            | (rw [Nat.blt_eq]; simp only [decide_eq_true_eq] at *; omega)
            | (refine hi _ ?_; simp only [decide_eq_true_eq] at *; omega)
            | (simp only [decide_eq_true_eq] at *; omega)
            | (simp only [Bool.not_eq_true', decide_eq_false_iff_not, decide_eq_true_eq] at *; omega))
      | false =>
        have w0 : valV ms len 0 = _ := (valV_f ms len 0 h0).trans valC0
        have w1 : valV ms len 1 = _ := (valV_f ms len 1 h1).trans valC1
        have w2 : valV ms len 2 = _ := (valV_f ms len 2 h2).trans valC2
        rw [w0, w1, w2]
        exact vls3_000 ms len nb (by
          simp only [Bool.and_eq_true]
          and_intros
          all_goals first
            | exact trivial
            | (rw [Nat.blt_eq]; simp only [decide_eq_true_eq] at *; omega)
            | (refine hi _ ?_; simp only [decide_eq_true_eq] at *; omega)
            | (simp only [decide_eq_true_eq] at *; omega)
            | (simp only [Bool.not_eq_true', decide_eq_false_iff_not, decide_eq_true_eq] at *; omega))


noncomputable def eVals1 : Entry := ⟨46, fun ys nb => match ys with
  | [.int k a, .snap ms len] => some ⟨.slc nb 0 1, [⟨fltL (xsV 1 ms len), 24⟩], pb (k = .i64 ∧ a = 1 ∧ LmkOk ms len)⟩
  | _ => none⟩
theorem eVals1_ok : EntryOK prog eVals1 := by
  intro ys n r h hok
  simp only [eVals1] at h
  split at h
  · cases h
    obtain ⟨rfl, rfl, h⟩ := pb_is.1 hok
    exact con_vals1 _ _ h n
  · cases h
noncomputable def eJrun1 : Entry := ⟨107, fun ys nb => match ys with
  | [kk, .agg [.int k a, .snap oc m, .snap uc u], .snap xc lx] => some ⟨.slc nb 0 1, jRows 1 nb (unF xc) (unOps oc) (unInt uc), pb (kk = jKinds ∧ FldOk 1 k a oc m uc u ∧ XsOk 1 xc lx)⟩
  | _ => none⟩
theorem eJrun1_ok : EntryOK prog eJrun1 := by
  intro ys n r h hok
  simp only [eJrun1] at h
  split at h
  · cases h
    obtain ⟨rfl, ⟨rfl, rfl, rfl, ops, outs, rfl, rfl, rfl, hm, ho, hu⟩, rfl, xs, rfl, hx⟩ := pb_is.1 hok
    rw [unF_flt, unOps_ops, unInt_int]
    have := con_jrun1 xs ops outs hm (by rw [hx]; exact ho) hu n
    rw [hx] at this
    exact this
  · cases h
noncomputable def eEjac1 : Entry := ⟨63, fun ys nb => match ys with
  | [.agg [.int k a, .snap oc m, .snap uc u], .snap xc lx] => some ⟨.slc nb 0 1, jRows 1 nb (unF xc) (unOps oc) (unInt uc), pb (FldOk 1 k a oc m uc u ∧ XsOk 1 xc lx)⟩
  | _ => none⟩
theorem eEjac1_ok : EntryOK prog eEjac1 := by
  intro ys n r h hok
  simp only [eEjac1] at h
  split at h
  · cases h
    obtain ⟨⟨rfl, rfl, rfl, ops, outs, rfl, rfl, rfl, hm, ho, hu⟩, rfl, xs, rfl, hx⟩ := pb_is.1 hok
    rw [unF_flt, unOps_ops, unInt_int]
    have := con_ejac1 xs ops outs hm (by rw [hx]; exact ho) hx hu n
    rw [hx] at this
    exact this
  · cases h
noncomputable def eLmk1 : Entry := ⟨41, fun ys nb => match ys with
  | [.int k n, .snap ns len, .bool d] => some ⟨.agg [.int .i64 1, .slc nb 0 (lmkM 1 len), .slc (nb + 1) 0 1], [⟨opsL (lmkOps n 1 d ns len), 57⟩, ⟨intL (outsT n (lmkM 1 len) 1), 3⟩], pb (k = .i64 ∧ LmkOk ns len ∧ wi n 3 + 1 = (1 : Nat))⟩
  | _ => none⟩
theorem eLmk1_ok : EntryOK prog eLmk1 := by
  intro ys n r h hok
  simp only [eLmk1] at h
  split at h
  · cases h
    obtain ⟨rfl, h1, h2⟩ := pb_is.1 hok
    exact con_lmk1 _ _ _ _ h1 h2 n
  · cases h

noncomputable def eVals2 : Entry := ⟨46, fun ys nb => match ys with
  | [.int k a, .snap ms len] => some ⟨.slc nb 0 2, [⟨fltL (xsV 2 ms len), 24⟩], pb (k = .i64 ∧ a = 2 ∧ LmkOk ms len)⟩
  | _ => none⟩
theorem eVals2_ok : EntryOK prog eVals2 := by
  intro ys n r h hok
  simp only [eVals2] at h
  split at h
  · cases h
    obtain ⟨rfl, rfl, h⟩ := pb_is.1 hok
    exact con_vals2 _ _ h n
  · cases h
noncomputable def eJrun2 : Entry := ⟨107, fun ys nb => match ys with
  | [kk, .agg [.int k a, .snap oc m, .snap uc u], .snap xc lx] => some ⟨.slc nb 0 2, jRows 2 nb (unF xc) (unOps oc) (unInt uc), pb (kk = jKinds ∧ FldOk 2 k a oc m uc u ∧ XsOk 2 xc lx)⟩
  | _ => none⟩
theorem eJrun2_ok : EntryOK prog eJrun2 := by
  intro ys n r h hok
  simp only [eJrun2] at h
  split at h
  · cases h
    obtain ⟨rfl, ⟨rfl, rfl, rfl, ops, outs, rfl, rfl, rfl, hm, ho, hu⟩, rfl, xs, rfl, hx⟩ := pb_is.1 hok
    rw [unF_flt, unOps_ops, unInt_int]
    have := con_jrun2 xs ops outs hm (by rw [hx]; exact ho) hu n
    rw [hx] at this
    exact this
  · cases h
noncomputable def eEjac2 : Entry := ⟨63, fun ys nb => match ys with
  | [.agg [.int k a, .snap oc m, .snap uc u], .snap xc lx] => some ⟨.slc nb 0 2, jRows 2 nb (unF xc) (unOps oc) (unInt uc), pb (FldOk 2 k a oc m uc u ∧ XsOk 2 xc lx)⟩
  | _ => none⟩
theorem eEjac2_ok : EntryOK prog eEjac2 := by
  intro ys n r h hok
  simp only [eEjac2] at h
  split at h
  · cases h
    obtain ⟨⟨rfl, rfl, rfl, ops, outs, rfl, rfl, rfl, hm, ho, hu⟩, rfl, xs, rfl, hx⟩ := pb_is.1 hok
    rw [unF_flt, unOps_ops, unInt_int]
    have := con_ejac2 xs ops outs hm (by rw [hx]; exact ho) hx hu n
    rw [hx] at this
    exact this
  · cases h
noncomputable def eLmk2 : Entry := ⟨41, fun ys nb => match ys with
  | [.int k n, .snap ns len, .bool d] => some ⟨.agg [.int .i64 2, .slc nb 0 (lmkM 2 len), .slc (nb + 1) 0 2], [⟨opsL (lmkOps n 2 d ns len), 57⟩, ⟨intL (outsT n (lmkM 2 len) 2), 3⟩], pb (k = .i64 ∧ LmkOk ns len ∧ wi n 3 + 1 = (2 : Nat))⟩
  | _ => none⟩
theorem eLmk2_ok : EntryOK prog eLmk2 := by
  intro ys n r h hok
  simp only [eLmk2] at h
  split at h
  · cases h
    obtain ⟨rfl, h1, h2⟩ := pb_is.1 hok
    exact con_lmk2 _ _ _ _ h1 h2 n
  · cases h

noncomputable def eVals3 : Entry := ⟨46, fun ys nb => match ys with
  | [.int k a, .snap ms len] => some ⟨.slc nb 0 3, [⟨fltL (xsV 3 ms len), 24⟩], pb (k = .i64 ∧ a = 3 ∧ LmkOk ms len)⟩
  | _ => none⟩
theorem eVals3_ok : EntryOK prog eVals3 := by
  intro ys n r h hok
  simp only [eVals3] at h
  split at h
  · cases h
    obtain ⟨rfl, rfl, h⟩ := pb_is.1 hok
    exact con_vals3 _ _ h n
  · cases h
noncomputable def eJrun3 : Entry := ⟨107, fun ys nb => match ys with
  | [kk, .agg [.int k a, .snap oc m, .snap uc u], .snap xc lx] => some ⟨.slc nb 0 3, jRows 3 nb (unF xc) (unOps oc) (unInt uc), pb (kk = jKinds ∧ FldOk 3 k a oc m uc u ∧ XsOk 3 xc lx)⟩
  | _ => none⟩
theorem eJrun3_ok : EntryOK prog eJrun3 := by
  intro ys n r h hok
  simp only [eJrun3] at h
  split at h
  · cases h
    obtain ⟨rfl, ⟨rfl, rfl, rfl, ops, outs, rfl, rfl, rfl, hm, ho, hu⟩, rfl, xs, rfl, hx⟩ := pb_is.1 hok
    rw [unF_flt, unOps_ops, unInt_int]
    have := con_jrun3 xs ops outs hm (by rw [hx]; exact ho) hu n
    rw [hx] at this
    exact this
  · cases h
noncomputable def eEjac3 : Entry := ⟨63, fun ys nb => match ys with
  | [.agg [.int k a, .snap oc m, .snap uc u], .snap xc lx] => some ⟨.slc nb 0 3, jRows 3 nb (unF xc) (unOps oc) (unInt uc), pb (FldOk 3 k a oc m uc u ∧ XsOk 3 xc lx)⟩
  | _ => none⟩
theorem eEjac3_ok : EntryOK prog eEjac3 := by
  intro ys n r h hok
  simp only [eEjac3] at h
  split at h
  · cases h
    obtain ⟨⟨rfl, rfl, rfl, ops, outs, rfl, rfl, rfl, hm, ho, hu⟩, rfl, xs, rfl, hx⟩ := pb_is.1 hok
    rw [unF_flt, unOps_ops, unInt_int]
    have := con_ejac3 xs ops outs hm (by rw [hx]; exact ho) hx hu n
    rw [hx] at this
    exact this
  · cases h
noncomputable def eLmk3 : Entry := ⟨41, fun ys nb => match ys with
  | [.int k n, .snap ns len, .bool d] => some ⟨.agg [.int .i64 3, .slc nb 0 (lmkM 3 len), .slc (nb + 1) 0 3], [⟨opsL (lmkOps n 3 d ns len), 57⟩, ⟨intL (outsT n (lmkM 3 len) 3), 3⟩], pb (k = .i64 ∧ LmkOk ns len ∧ wi n 3 + 1 = (3 : Nat))⟩
  | _ => none⟩
theorem eLmk3_ok : EntryOK prog eLmk3 := by
  intro ys n r h hok
  simp only [eLmk3] at h
  split at h
  · cases h
    obtain ⟨rfl, h1, h2⟩ := pb_is.1 hok
    exact con_lmk3 _ _ _ _ h1 h2 n
  · cases h

def eKnown4 : Entry := ⟨55, fun ys nb => match ys with
  | [] => some ⟨.bool true, [], true⟩
  | _ => none⟩
theorem eKnown4_ok : EntryOK prog eKnown4 := by
  intro ys n r h hok
  simp only [eKnown4] at h
  split at h
  · cases h
    exact known4 n
  · cases h

def eKnown3 : Entry := ⟨39, fun ys nb => match ys with
  | [] => some ⟨.bool true, [], true⟩
  | _ => none⟩
theorem eKnown3_ok : EntryOK prog eKnown3 := by
  intro ys n r h hok
  simp only [eKnown3] at h
  split at h
  · cases h
    exact known3 n
  · cases h

def eKnown5 : Entry := ⟨33, fun ys nb => match ys with
  | [] => some ⟨.bool true, [], true⟩
  | _ => none⟩
theorem eKnown5_ok : EntryOK prog eKnown5 := by
  intro ys n r h hok
  simp only [eKnown5] at h
  split at h
  · cases h
    exact known5 n
  · cases h

def eKnown8 : Entry := ⟨24, fun ys nb => match ys with
  | [] => some ⟨.bool true, [], true⟩
  | _ => none⟩
theorem eKnown8_ok : EntryOK prog eKnown8 := by
  intro ys n r h hok
  simp only [eKnown8] at h
  split at h
  · cases h
    exact known8 n
  · cases h

theorem outsT_ok (n : Int) (N m : Nat) (hN : N = 1 ∨ N = 2 ∨ N = 3) (h2 : 2 ≤ m) (h3 : m < 1000) : OutsOk N m (outsT n m N) := by
  rcases hN with rfl | rfl | rfl
  · refine ⟨rfl, fun j hj => ?_⟩
    have : j = 0 := by omega
    subst this
    exact outT_range n m 0 h2 h3 (by omega)
  · refine ⟨rfl, fun j hj => ?_⟩
    have : j = 0 ∨ j = 1 := by omega
    rcases this with rfl | rfl
    · exact outT_range n m 0 h2 h3 (by omega)
    · exact outT_range n m 1 h2 h3 (by omega)
  · refine ⟨rfl, fun j hj => ?_⟩
    have : j = 0 ∨ j = 1 ∨ j = 2 := by omega
    rcases this with rfl | rfl | rfl
    · exact outT_range n m 0 h2 h3 (by omega)
    · exact outT_range n m 1 h2 h3 (by omega)
    · exact outT_range n m 2 h2 h3 (by omega)

theorem fld_lmk (n : Int) (N : Nat) (hN : N = 1 ∨ N = 2 ∨ N = 3) (d : Bool) (ns : List AV) (len : Nat) : FldOk N .i64 N (opsL (lmkOps n N d ns len)) (lmkM N len) (intL (outsT n (lmkM N len) N)) N :=
  ⟨rfl, rfl, rfl, _, _, rfl, (lmkOps_length n N hN d ns len).symm, rfl, by unfold lmkM; omega, lmkOps_ok n N hN d ns len, outsT_ok n N _ hN (by unfold lmkM; omega) (by unfold lmkM; omega)⟩
theorem xs_vals (N : Nat) (ms : List AV) (len : Nat) : XsOk N (fltL (xsV N ms len)) N := ⟨rfl, _, rfl, xsV_length _ _ _⟩
end Try
end Go.Eng

/- Part 3 of what the proof leans on: Fields, from-tos, part 1; Fields, from-tos, part 2; Fields, from-tos, part 3; Fields, part 3; Fields, part 4; Fields, from-tos, part 4. Conditions: as each theorem says. -/
import Derived.Test.YtcigcfneldipkaaA2
set_option linter.unusedVariables false
/- Fields, from-tos, part 1: one value, one slope (jac.kind.value, jac.kind.slope), by kinds. Condition: as each piece says. Written by wip/tools/kg.py. -/
namespace Go.Eng.Try
open Go Go.Eng Go.RowKit Go.Proofs.Try
noncomputable abbrev CV0 : Ctx := ctx prog esU 8
def vKinds : AV := .agg [.fn 156 [] [], .fn 20 [] [], .fn 21 [] [], .fn 22 [] [], .fn 138 [] []]

theorem OV0 : OrcOK CV0.P CV0.orc := ctx_ok mixed esU_ok 8

theorem vVal0 (xs : List (Nat × Nat)) (lx : Nat) (cells : List AV) (l : Nat) (a b : Int) (c : Nat) (nb : Nat) : Con prog 157 [vKinds, .agg [.int .i64 0, .int .i64 a, .int .i64 b, .flt c], .snap (ivL xs) lx, .snap cells l] nb (AV.agg [.flt c, .flt c]) [] :=
  con_evF OV0 mixed (qs := []) (dec := []) (r := ⟨(AV.agg [.flt c, .flt c]), [], true⟩) (by kernel_rfl) rfl
theorem vVal1 (xs : List (Nat × Nat)) (lx : Nat) (cells : List AV) (l : Nat) (a b : Int) (c : Nat) (nb : Nat) (hok : ((Nat.ble (Int.toNat a * 2 + 2) (List.length (ivL xs)) && etasOk [Leaf.f, Leaf.f] (ivL xs) (Int.toNat a * 2) && (decide ((0 : Int) ≤ a ∧ a < (↑lx : Int)) && true))) = true) : Con prog 157 [vKinds, .agg [.int .i64 1, .int .i64 a, .int .i64 b, .flt c], .snap (ivL xs) lx, .snap cells l] nb (AV.agg [.flt (AV.toFlt (List.getD (ivL xs) (Int.toNat a * 2) .undef)), .flt (AV.toFlt (List.getD (ivL xs) (Int.toNat a * 2 + 1) .undef))]) [] :=
  con_evF OV0 mixed (qs := []) (dec := []) (r := ⟨(AV.agg [.flt (AV.toFlt (List.getD (ivL xs) (Int.toNat a * 2) .undef)), .flt (AV.toFlt (List.getD (ivL xs) (Int.toNat a * 2 + 1) .undef))]), [], (Nat.ble (Int.toNat a * 2 + 2) (List.length (ivL xs)) && etasOk [Leaf.f, Leaf.f] (ivL xs) (Int.toNat a * 2) && (decide ((0 : Int) ≤ a ∧ a < (↑lx : Int)) && true))⟩) (by kernel_rfl) hok
theorem vVal2 (xs : List (Nat × Nat)) (lx : Nat) (cells : List AV) (l : Nat) (a b : Int) (c : Nat) (nb : Nat) (hok : ((Nat.ble (Int.toNat b * 3 + 0 + 2) (List.length cells) && etasOk [Leaf.f, Leaf.f] cells (Int.toNat b * 3 + 0) && (decide ((0 : Int) ≤ b ∧ b < (↑l : Int)) && (Nat.ble (Int.toNat a * 3 + 0 + 2) (List.length cells) && etasOk [Leaf.f, Leaf.f] cells (Int.toNat a * 3 + 0) && (decide ((0 : Int) ≤ a ∧ a < (↑l : Int)) && true))))) = true) : Con prog 157 [vKinds, .agg [.int .i64 2, .int .i64 a, .int .i64 b, .flt c], .snap (ivL xs) lx, .snap cells l] nb (AV.agg [.flt (outLo (fadd (AV.toFlt (List.getD cells (Int.toNat a * 3 + 0) .undef)) (AV.toFlt (List.getD cells (Int.toNat b * 3 + 0) .undef))) (fadd (AV.toFlt (List.getD cells (Int.toNat a * 3 + 0 + 1) .undef)) (AV.toFlt (List.getD cells (Int.toNat b * 3 + 0 + 1) .undef)))), .flt (outHi (fadd (AV.toFlt (List.getD cells (Int.toNat a * 3 + 0) .undef)) (AV.toFlt (List.getD cells (Int.toNat b * 3 + 0) .undef))) (fadd (AV.toFlt (List.getD cells (Int.toNat a * 3 + 0 + 1) .undef)) (AV.toFlt (List.getD cells (Int.toNat b * 3 + 0 + 1) .undef))))]) [] :=
  con_evF OV0 mixed (qs := []) (dec := []) (r := ⟨(AV.agg [.flt (outLo (fadd (AV.toFlt (List.getD cells (Int.toNat a * 3 + 0) .undef)) (AV.toFlt (List.getD cells (Int.toNat b * 3 + 0) .undef))) (fadd (AV.toFlt (List.getD cells (Int.toNat a * 3 + 0 + 1) .undef)) (AV.toFlt (List.getD cells (Int.toNat b * 3 + 0 + 1) .undef)))), .flt (outHi (fadd (AV.toFlt (List.getD cells (Int.toNat a * 3 + 0) .undef)) (AV.toFlt (List.getD cells (Int.toNat b * 3 + 0) .undef))) (fadd (AV.toFlt (List.getD cells (Int.toNat a * 3 + 0 + 1) .undef)) (AV.toFlt (List.getD cells (Int.toNat b * 3 + 0 + 1) .undef))))]), [], (Nat.ble (Int.toNat b * 3 + 0 + 2) (List.length cells) && etasOk [Leaf.f, Leaf.f] cells (Int.toNat b * 3 + 0) && (decide ((0 : Int) ≤ b ∧ b < (↑l : Int)) && (Nat.ble (Int.toNat a * 3 + 0 + 2) (List.length cells) && etasOk [Leaf.f, Leaf.f] cells (Int.toNat a * 3 + 0) && (decide ((0 : Int) ≤ a ∧ a < (↑l : Int)) && true))))⟩) (by kernel_rfl) hok
theorem vVal3 (xs : List (Nat × Nat)) (lx : Nat) (cells : List AV) (l : Nat) (a b : Int) (c : Nat) (nb : Nat) (hok : ((Nat.ble (Int.toNat b * 3 + 0 + 2) (List.length cells) && etasOk [Leaf.f, Leaf.f] cells (Int.toNat b * 3 + 0) && (decide ((0 : Int) ≤ b ∧ b < (↑l : Int)) && (Nat.ble (Int.toNat a * 3 + 0 + 2) (List.length cells) && etasOk [Leaf.f, Leaf.f] cells (Int.toNat a * 3 + 0) && (decide ((0 : Int) ≤ a ∧ a < (↑l : Int)) && true))))) = true) : Con prog 157 [vKinds, .agg [.int .i64 3, .int .i64 a, .int .i64 b, .flt c], .snap (ivL xs) lx, .snap cells l] nb (AV.agg [.flt (outLo (fsub (AV.toFlt (List.getD cells (Int.toNat a * 3 + 0) .undef)) (AV.toFlt (List.getD cells (Int.toNat b * 3 + 0 + 1) .undef))) (fsub (AV.toFlt (List.getD cells (Int.toNat a * 3 + 0 + 1) .undef)) (AV.toFlt (List.getD cells (Int.toNat b * 3 + 0) .undef)))), .flt (outHi (fsub (AV.toFlt (List.getD cells (Int.toNat a * 3 + 0) .undef)) (AV.toFlt (List.getD cells (Int.toNat b * 3 + 0 + 1) .undef))) (fsub (AV.toFlt (List.getD cells (Int.toNat a * 3 + 0 + 1) .undef)) (AV.toFlt (List.getD cells (Int.toNat b * 3 + 0) .undef))))]) [] :=
  con_evF OV0 mixed (qs := []) (dec := []) (r := ⟨(AV.agg [.flt (outLo (fsub (AV.toFlt (List.getD cells (Int.toNat a * 3 + 0) .undef)) (AV.toFlt (List.getD cells (Int.toNat b * 3 + 0 + 1) .undef))) (fsub (AV.toFlt (List.getD cells (Int.toNat a * 3 + 0 + 1) .undef)) (AV.toFlt (List.getD cells (Int.toNat b * 3 + 0) .undef)))), .flt (outHi (fsub (AV.toFlt (List.getD cells (Int.toNat a * 3 + 0) .undef)) (AV.toFlt (List.getD cells (Int.toNat b * 3 + 0 + 1) .undef))) (fsub (AV.toFlt (List.getD cells (Int.toNat a * 3 + 0 + 1) .undef)) (AV.toFlt (List.getD cells (Int.toNat b * 3 + 0) .undef))))]), [], (Nat.ble (Int.toNat b * 3 + 0 + 2) (List.length cells) && etasOk [Leaf.f, Leaf.f] cells (Int.toNat b * 3 + 0) && (decide ((0 : Int) ≤ b ∧ b < (↑l : Int)) && (Nat.ble (Int.toNat a * 3 + 0 + 2) (List.length cells) && etasOk [Leaf.f, Leaf.f] cells (Int.toNat a * 3 + 0) && (decide ((0 : Int) ≤ a ∧ a < (↑l : Int)) && true))))⟩) (by kernel_rfl) hok
theorem vVal4 (xs : List (Nat × Nat)) (lx : Nat) (cells : List AV) (l : Nat) (a b : Int) (c : Nat) (nb : Nat) (hok : ((Nat.ble (Int.toNat b * 3 + 0 + 2) (List.length cells) && etasOk [Leaf.f, Leaf.f] cells (Int.toNat b * 3 + 0) && (decide ((0 : Int) ≤ b ∧ b < (↑l : Int)) && (Nat.ble (Int.toNat a * 3 + 0 + 2) (List.length cells) && etasOk [Leaf.f, Leaf.f] cells (Int.toNat a * 3 + 0) && (decide ((0 : Int) ≤ a ∧ a < (↑l : Int)) && true))))) = true) : Con prog 157 [vKinds, .agg [.int .i64 4, .int .i64 a, .int .i64 b, .flt c], .snap (ivL xs) lx, .snap cells l] nb (AV.agg [.flt (mulLo (AV.toFlt (List.getD cells (Int.toNat a * 3 + 0) .undef)) (AV.toFlt (List.getD cells (Int.toNat a * 3 + 0 + 1) .undef)) (AV.toFlt (List.getD cells (Int.toNat b * 3 + 0) .undef)) (AV.toFlt (List.getD cells (Int.toNat b * 3 + 0 + 1) .undef))), .flt (mulHi (AV.toFlt (List.getD cells (Int.toNat a * 3 + 0) .undef)) (AV.toFlt (List.getD cells (Int.toNat a * 3 + 0 + 1) .undef)) (AV.toFlt (List.getD cells (Int.toNat b * 3 + 0) .undef)) (AV.toFlt (List.getD cells (Int.toNat b * 3 + 0 + 1) .undef)))]) [] :=
  con_evF OV0 mixed (qs := []) (dec := []) (r := ⟨(AV.agg [.flt (mulLo (AV.toFlt (List.getD cells (Int.toNat a * 3 + 0) .undef)) (AV.toFlt (List.getD cells (Int.toNat a * 3 + 0 + 1) .undef)) (AV.toFlt (List.getD cells (Int.toNat b * 3 + 0) .undef)) (AV.toFlt (List.getD cells (Int.toNat b * 3 + 0 + 1) .undef))), .flt (mulHi (AV.toFlt (List.getD cells (Int.toNat a * 3 + 0) .undef)) (AV.toFlt (List.getD cells (Int.toNat a * 3 + 0 + 1) .undef)) (AV.toFlt (List.getD cells (Int.toNat b * 3 + 0) .undef)) (AV.toFlt (List.getD cells (Int.toNat b * 3 + 0 + 1) .undef)))]), [], (Nat.ble (Int.toNat b * 3 + 0 + 2) (List.length cells) && etasOk [Leaf.f, Leaf.f] cells (Int.toNat b * 3 + 0) && (decide ((0 : Int) ≤ b ∧ b < (↑l : Int)) && (Nat.ble (Int.toNat a * 3 + 0 + 2) (List.length cells) && etasOk [Leaf.f, Leaf.f] cells (Int.toNat a * 3 + 0) && (decide ((0 : Int) ≤ a ∧ a < (↑l : Int)) && true))))⟩) (by kernel_rfl) hok
theorem vVal5 (xs : List (Nat × Nat)) (lx : Nat) (cells : List AV) (l : Nat) (a b : Int) (c : Nat) (nb : Nat) (hok : ((Nat.ble (Int.toNat b * 3 + 0 + 2) (List.length cells) && etasOk [Leaf.f, Leaf.f] cells (Int.toNat b * 3 + 0) && (decide ((0 : Int) ≤ b ∧ b < (↑l : Int)) && (Nat.ble (Int.toNat a * 3 + 0 + 2) (List.length cells) && etasOk [Leaf.f, Leaf.f] cells (Int.toNat a * 3 + 0) && (decide ((0 : Int) ≤ a ∧ a < (↑l : Int)) && true))))) = true) : Con prog 157 [vKinds, .agg [.int .i64 5, .int .i64 a, .int .i64 b, .flt c], .snap (ivL xs) lx, .snap cells l] nb (AV.agg [.flt (divLo (AV.toFlt (List.getD cells (Int.toNat a * 3 + 0) .undef)) (AV.toFlt (List.getD cells (Int.toNat a * 3 + 0 + 1) .undef)) (AV.toFlt (List.getD cells (Int.toNat b * 3 + 0) .undef)) (AV.toFlt (List.getD cells (Int.toNat b * 3 + 0 + 1) .undef))), .flt (divHi (AV.toFlt (List.getD cells (Int.toNat a * 3 + 0) .undef)) (AV.toFlt (List.getD cells (Int.toNat a * 3 + 0 + 1) .undef)) (AV.toFlt (List.getD cells (Int.toNat b * 3 + 0) .undef)) (AV.toFlt (List.getD cells (Int.toNat b * 3 + 0 + 1) .undef)))]) [] :=
  con_evF OV0 mixed (qs := []) (dec := []) (r := ⟨(AV.agg [.flt (divLo (AV.toFlt (List.getD cells (Int.toNat a * 3 + 0) .undef)) (AV.toFlt (List.getD cells (Int.toNat a * 3 + 0 + 1) .undef)) (AV.toFlt (List.getD cells (Int.toNat b * 3 + 0) .undef)) (AV.toFlt (List.getD cells (Int.toNat b * 3 + 0 + 1) .undef))), .flt (divHi (AV.toFlt (List.getD cells (Int.toNat a * 3 + 0) .undef)) (AV.toFlt (List.getD cells (Int.toNat a * 3 + 0 + 1) .undef)) (AV.toFlt (List.getD cells (Int.toNat b * 3 + 0) .undef)) (AV.toFlt (List.getD cells (Int.toNat b * 3 + 0 + 1) .undef)))]), [], (Nat.ble (Int.toNat b * 3 + 0 + 2) (List.length cells) && etasOk [Leaf.f, Leaf.f] cells (Int.toNat b * 3 + 0) && (decide ((0 : Int) ≤ b ∧ b < (↑l : Int)) && (Nat.ble (Int.toNat a * 3 + 0 + 2) (List.length cells) && etasOk [Leaf.f, Leaf.f] cells (Int.toNat a * 3 + 0) && (decide ((0 : Int) ≤ a ∧ a < (↑l : Int)) && true))))⟩) (by kernel_rfl) hok
theorem vSlo0 (cells : List AV) (l : Nat) (a b : Int) (c : Nat) (i : Nat) (q : Nat × Nat) (nb : Nat) : Con prog 158 [vKinds, .agg [.int .i64 0, .int .i64 a, .int .i64 b, .flt c], .int .i64 (i : Int), .agg [.flt q.1, .flt q.2], .snap cells l] nb (AV.agg [.flt 0, .flt 0]) [] :=
  con_evF OV0 mixed (qs := []) (dec := []) (r := ⟨(AV.agg [.flt 0, .flt 0]), [], true⟩) (by kernel_rfl) rfl
theorem vSlo1t (cells : List AV) (l : Nat) (a b : Int) (c : Nat) (i : Nat) (q : Nat × Nat) (nb : Nat) (hok : ((a == (↑i : Int) && true)) = true) : Con prog 158 [vKinds, .agg [.int .i64 1, .int .i64 a, .int .i64 b, .flt c], .int .i64 (i : Int), .agg [.flt q.1, .flt q.2], .snap cells l] nb (AV.agg [.flt 4607182418800017408, .flt 4607182418800017408]) [] :=
  con_evF OV0 mixed (qs := [13]) (dec := [true]) (r := ⟨(AV.agg [.flt 4607182418800017408, .flt 4607182418800017408]), [], (a == (↑i : Int) && true)⟩) (by kernel_rfl) hok
theorem vSlo1f (cells : List AV) (l : Nat) (a b : Int) (c : Nat) (i : Nat) (q : Nat × Nat) (nb : Nat) (hok : ((!a == (↑i : Int) && true)) = true) : Con prog 158 [vKinds, .agg [.int .i64 1, .int .i64 a, .int .i64 b, .flt c], .int .i64 (i : Int), .agg [.flt q.1, .flt q.2], .snap cells l] nb (AV.agg [.flt 0, .flt 0]) [] :=
  con_evF OV0 mixed (qs := [13]) (dec := [false]) (r := ⟨(AV.agg [.flt 0, .flt 0]), [], (!a == (↑i : Int) && true)⟩) (by kernel_rfl) hok
theorem vSlo2 (cells : List AV) (l : Nat) (a b : Int) (c : Nat) (i : Nat) (q : Nat × Nat) (nb : Nat) (hok : ((Nat.ble (Int.toNat ↑i * 2 + 2) (List.length (AV.sCells (List.getD cells (Int.toNat b * 3 + 1 + 1) .undef))) && etasOk [Leaf.f, Leaf.f] (AV.sCells (List.getD cells (Int.toNat b * 3 + 1 + 1) .undef)) (Int.toNat ↑i * 2) && (decide ((0 : Int) ≤ (↑i : Int) ∧ (↑i : Int) < (↑(AV.sLen (List.getD cells (Int.toNat b * 3 + 1 + 1) .undef)) : Int)) && (Nat.ble (Int.toNat ↑i * 2 + 2) (List.length (AV.sCells (List.getD cells (Int.toNat a * 3 + 1 + 1) .undef))) && etasOk [Leaf.f, Leaf.f] (AV.sCells (List.getD cells (Int.toNat a * 3 + 1 + 1) .undef)) (Int.toNat ↑i * 2) && (decide ((0 : Int) ≤ (↑i : Int) ∧ (↑i : Int) < (↑(AV.sLen (List.getD cells (Int.toNat a * 3 + 1 + 1) .undef)) : Int)) && (Nat.ble (Int.toNat b * 3 + 3) (List.length cells) && etasOk [Leaf.f, Leaf.f, Leaf.sl] cells (Int.toNat b * 3) && (decide ((0 : Int) ≤ b ∧ b < (↑l : Int)) && (Nat.ble (Int.toNat a * 3 + 3) (List.length cells) && etasOk [Leaf.f, Leaf.f, Leaf.sl] cells (Int.toNat a * 3) && (decide ((0 : Int) ≤ a ∧ a < (↑l : Int)) && true))))))))) = true) : Con prog 158 [vKinds, .agg [.int .i64 2, .int .i64 a, .int .i64 b, .flt c], .int .i64 (i : Int), .agg [.flt q.1, .flt q.2], .snap cells l] nb (AV.agg [.flt (outLo (fadd (AV.toFlt (List.getD (AV.sCells (List.getD cells (Int.toNat a * 3 + 1 + 1) .undef)) (Int.toNat ↑i * 2) .undef)) (AV.toFlt (List.getD (AV.sCells (List.getD cells (Int.toNat b * 3 + 1 + 1) .undef)) (Int.toNat ↑i * 2) .undef))) (fadd (AV.toFlt (List.getD (AV.sCells (List.getD cells (Int.toNat a * 3 + 1 + 1) .undef)) (Int.toNat ↑i * 2 + 1) .undef)) (AV.toFlt (List.getD (AV.sCells (List.getD cells (Int.toNat b * 3 + 1 + 1) .undef)) (Int.toNat ↑i * 2 + 1) .undef)))), .flt (outHi (fadd (AV.toFlt (List.getD (AV.sCells (List.getD cells (Int.toNat a * 3 + 1 + 1) .undef)) (Int.toNat ↑i * 2) .undef)) (AV.toFlt (List.getD (AV.sCells (List.getD cells (Int.toNat b * 3 + 1 + 1) .undef)) (Int.toNat ↑i * 2) .undef))) (fadd (AV.toFlt (List.getD (AV.sCells (List.getD cells (Int.toNat a * 3 + 1 + 1) .undef)) (Int.toNat ↑i * 2 + 1) .undef)) (AV.toFlt (List.getD (AV.sCells (List.getD cells (Int.toNat b * 3 + 1 + 1) .undef)) (Int.toNat ↑i * 2 + 1) .undef))))]) [] :=
  con_evF OV0 mixed (qs := []) (dec := []) (r := ⟨(AV.agg [.flt (outLo (fadd (AV.toFlt (List.getD (AV.sCells (List.getD cells (Int.toNat a * 3 + 1 + 1) .undef)) (Int.toNat ↑i * 2) .undef)) (AV.toFlt (List.getD (AV.sCells (List.getD cells (Int.toNat b * 3 + 1 + 1) .undef)) (Int.toNat ↑i * 2) .undef))) (fadd (AV.toFlt (List.getD (AV.sCells (List.getD cells (Int.toNat a * 3 + 1 + 1) .undef)) (Int.toNat ↑i * 2 + 1) .undef)) (AV.toFlt (List.getD (AV.sCells (List.getD cells (Int.toNat b * 3 + 1 + 1) .undef)) (Int.toNat ↑i * 2 + 1) .undef)))), .flt (outHi (fadd (AV.toFlt (List.getD (AV.sCells (List.getD cells (Int.toNat a * 3 + 1 + 1) .undef)) (Int.toNat ↑i * 2) .undef)) (AV.toFlt (List.getD (AV.sCells (List.getD cells (Int.toNat b * 3 + 1 + 1) .undef)) (Int.toNat ↑i * 2) .undef))) (fadd (AV.toFlt (List.getD (AV.sCells (List.getD cells (Int.toNat a * 3 + 1 + 1) .undef)) (Int.toNat ↑i * 2 + 1) .undef)) (AV.toFlt (List.getD (AV.sCells (List.getD cells (Int.toNat b * 3 + 1 + 1) .undef)) (Int.toNat ↑i * 2 + 1) .undef))))]), [], (Nat.ble (Int.toNat ↑i * 2 + 2) (List.length (AV.sCells (List.getD cells (Int.toNat b * 3 + 1 + 1) .undef))) && etasOk [Leaf.f, Leaf.f] (AV.sCells (List.getD cells (Int.toNat b * 3 + 1 + 1) .undef)) (Int.toNat ↑i * 2) && (decide ((0 : Int) ≤ (↑i : Int) ∧ (↑i : Int) < (↑(AV.sLen (List.getD cells (Int.toNat b * 3 + 1 + 1) .undef)) : Int)) && (Nat.ble (Int.toNat ↑i * 2 + 2) (List.length (AV.sCells (List.getD cells (Int.toNat a * 3 + 1 + 1) .undef))) && etasOk [Leaf.f, Leaf.f] (AV.sCells (List.getD cells (Int.toNat a * 3 + 1 + 1) .undef)) (Int.toNat ↑i * 2) && (decide ((0 : Int) ≤ (↑i : Int) ∧ (↑i : Int) < (↑(AV.sLen (List.getD cells (Int.toNat a * 3 + 1 + 1) .undef)) : Int)) && (Nat.ble (Int.toNat b * 3 + 3) (List.length cells) && etasOk [Leaf.f, Leaf.f, Leaf.sl] cells (Int.toNat b * 3) && (decide ((0 : Int) ≤ b ∧ b < (↑l : Int)) && (Nat.ble (Int.toNat a * 3 + 3) (List.length cells) && etasOk [Leaf.f, Leaf.f, Leaf.sl] cells (Int.toNat a * 3) && (decide ((0 : Int) ≤ a ∧ a < (↑l : Int)) && true))))))))⟩) (by kernel_rfl) hok
theorem vSlo3 (cells : List AV) (l : Nat) (a b : Int) (c : Nat) (i : Nat) (q : Nat × Nat) (nb : Nat) (hok : ((Nat.ble (Int.toNat ↑i * 2 + 2) (List.length (AV.sCells (List.getD cells (Int.toNat b * 3 + 1 + 1) .undef))) && etasOk [Leaf.f, Leaf.f] (AV.sCells (List.getD cells (Int.toNat b * 3 + 1 + 1) .undef)) (Int.toNat ↑i * 2) && (decide ((0 : Int) ≤ (↑i : Int) ∧ (↑i : Int) < (↑(AV.sLen (List.getD cells (Int.toNat b * 3 + 1 + 1) .undef)) : Int)) && (Nat.ble (Int.toNat ↑i * 2 + 2) (List.length (AV.sCells (List.getD cells (Int.toNat a * 3 + 1 + 1) .undef))) && etasOk [Leaf.f, Leaf.f] (AV.sCells (List.getD cells (Int.toNat a * 3 + 1 + 1) .undef)) (Int.toNat ↑i * 2) && (decide ((0 : Int) ≤ (↑i : Int) ∧ (↑i : Int) < (↑(AV.sLen (List.getD cells (Int.toNat a * 3 + 1 + 1) .undef)) : Int)) && (Nat.ble (Int.toNat b * 3 + 3) (List.length cells) && etasOk [Leaf.f, Leaf.f, Leaf.sl] cells (Int.toNat b * 3) && (decide ((0 : Int) ≤ b ∧ b < (↑l : Int)) && (Nat.ble (Int.toNat a * 3 + 3) (List.length cells) && etasOk [Leaf.f, Leaf.f, Leaf.sl] cells (Int.toNat a * 3) && (decide ((0 : Int) ≤ a ∧ a < (↑l : Int)) && true))))))))) = true) : Con prog 158 [vKinds, .agg [.int .i64 3, .int .i64 a, .int .i64 b, .flt c], .int .i64 (i : Int), .agg [.flt q.1, .flt q.2], .snap cells l] nb (AV.agg [.flt (outLo (fsub (AV.toFlt (List.getD (AV.sCells (List.getD cells (Int.toNat a * 3 + 1 + 1) .undef)) (Int.toNat ↑i * 2) .undef)) (AV.toFlt (List.getD (AV.sCells (List.getD cells (Int.toNat b * 3 + 1 + 1) .undef)) (Int.toNat ↑i * 2 + 1) .undef))) (fsub (AV.toFlt (List.getD (AV.sCells (List.getD cells (Int.toNat a * 3 + 1 + 1) .undef)) (Int.toNat ↑i * 2 + 1) .undef)) (AV.toFlt (List.getD (AV.sCells (List.getD cells (Int.toNat b * 3 + 1 + 1) .undef)) (Int.toNat ↑i * 2) .undef)))), .flt (outHi (fsub (AV.toFlt (List.getD (AV.sCells (List.getD cells (Int.toNat a * 3 + 1 + 1) .undef)) (Int.toNat ↑i * 2) .undef)) (AV.toFlt (List.getD (AV.sCells (List.getD cells (Int.toNat b * 3 + 1 + 1) .undef)) (Int.toNat ↑i * 2 + 1) .undef))) (fsub (AV.toFlt (List.getD (AV.sCells (List.getD cells (Int.toNat a * 3 + 1 + 1) .undef)) (Int.toNat ↑i * 2 + 1) .undef)) (AV.toFlt (List.getD (AV.sCells (List.getD cells (Int.toNat b * 3 + 1 + 1) .undef)) (Int.toNat ↑i * 2) .undef))))]) [] :=
  con_evF OV0 mixed (qs := []) (dec := []) (r := ⟨(AV.agg [.flt (outLo (fsub (AV.toFlt (List.getD (AV.sCells (List.getD cells (Int.toNat a * 3 + 1 + 1) .undef)) (Int.toNat ↑i * 2) .undef)) (AV.toFlt (List.getD (AV.sCells (List.getD cells (Int.toNat b * 3 + 1 + 1) .undef)) (Int.toNat ↑i * 2 + 1) .undef))) (fsub (AV.toFlt (List.getD (AV.sCells (List.getD cells (Int.toNat a * 3 + 1 + 1) .undef)) (Int.toNat ↑i * 2 + 1) .undef)) (AV.toFlt (List.getD (AV.sCells (List.getD cells (Int.toNat b * 3 + 1 + 1) .undef)) (Int.toNat ↑i * 2) .undef)))), .flt (outHi (fsub (AV.toFlt (List.getD (AV.sCells (List.getD cells (Int.toNat a * 3 + 1 + 1) .undef)) (Int.toNat ↑i * 2) .undef)) (AV.toFlt (List.getD (AV.sCells (List.getD cells (Int.toNat b * 3 + 1 + 1) .undef)) (Int.toNat ↑i * 2 + 1) .undef))) (fsub (AV.toFlt (List.getD (AV.sCells (List.getD cells (Int.toNat a * 3 + 1 + 1) .undef)) (Int.toNat ↑i * 2 + 1) .undef)) (AV.toFlt (List.getD (AV.sCells (List.getD cells (Int.toNat b * 3 + 1 + 1) .undef)) (Int.toNat ↑i * 2) .undef))))]), [], (Nat.ble (Int.toNat ↑i * 2 + 2) (List.length (AV.sCells (List.getD cells (Int.toNat b * 3 + 1 + 1) .undef))) && etasOk [Leaf.f, Leaf.f] (AV.sCells (List.getD cells (Int.toNat b * 3 + 1 + 1) .undef)) (Int.toNat ↑i * 2) && (decide ((0 : Int) ≤ (↑i : Int) ∧ (↑i : Int) < (↑(AV.sLen (List.getD cells (Int.toNat b * 3 + 1 + 1) .undef)) : Int)) && (Nat.ble (Int.toNat ↑i * 2 + 2) (List.length (AV.sCells (List.getD cells (Int.toNat a * 3 + 1 + 1) .undef))) && etasOk [Leaf.f, Leaf.f] (AV.sCells (List.getD cells (Int.toNat a * 3 + 1 + 1) .undef)) (Int.toNat ↑i * 2) && (decide ((0 : Int) ≤ (↑i : Int) ∧ (↑i : Int) < (↑(AV.sLen (List.getD cells (Int.toNat a * 3 + 1 + 1) .undef)) : Int)) && (Nat.ble (Int.toNat b * 3 + 3) (List.length cells) && etasOk [Leaf.f, Leaf.f, Leaf.sl] cells (Int.toNat b * 3) && (decide ((0 : Int) ≤ b ∧ b < (↑l : Int)) && (Nat.ble (Int.toNat a * 3 + 3) (List.length cells) && etasOk [Leaf.f, Leaf.f, Leaf.sl] cells (Int.toNat a * 3) && (decide ((0 : Int) ≤ a ∧ a < (↑l : Int)) && true))))))))⟩) (by kernel_rfl) hok
theorem vSlo4 (cells : List AV) (l : Nat) (a b : Int) (c : Nat) (i : Nat) (q : Nat × Nat) (nb : Nat) (hok : ((Nat.ble (Int.toNat ↑i * 2 + 2) (List.length (AV.sCells (List.getD cells (Int.toNat b * 3 + 1 + 1) .undef))) && etasOk [Leaf.f, Leaf.f] (AV.sCells (List.getD cells (Int.toNat b * 3 + 1 + 1) .undef)) (Int.toNat ↑i * 2) && (decide ((0 : Int) ≤ (↑i : Int) ∧ (↑i : Int) < (↑(AV.sLen (List.getD cells (Int.toNat b * 3 + 1 + 1) .undef)) : Int)) && (Nat.ble (Int.toNat ↑i * 2 + 2) (List.length (AV.sCells (List.getD cells (Int.toNat a * 3 + 1 + 1) .undef))) && etasOk [Leaf.f, Leaf.f] (AV.sCells (List.getD cells (Int.toNat a * 3 + 1 + 1) .undef)) (Int.toNat ↑i * 2) && (decide ((0 : Int) ≤ (↑i : Int) ∧ (↑i : Int) < (↑(AV.sLen (List.getD cells (Int.toNat a * 3 + 1 + 1) .undef)) : Int)) && (Nat.ble (Int.toNat b * 3 + 3) (List.length cells) && etasOk [Leaf.f, Leaf.f, Leaf.sl] cells (Int.toNat b * 3) && (decide ((0 : Int) ≤ b ∧ b < (↑l : Int)) && (Nat.ble (Int.toNat a * 3 + 3) (List.length cells) && etasOk [Leaf.f, Leaf.f, Leaf.sl] cells (Int.toNat a * 3) && (decide ((0 : Int) ≤ a ∧ a < (↑l : Int)) && true))))))))) = true) : Con prog 158 [vKinds, .agg [.int .i64 4, .int .i64 a, .int .i64 b, .flt c], .int .i64 (i : Int), .agg [.flt q.1, .flt q.2], .snap cells l] nb (AV.agg [.flt (outLo (fadd (mulLo (AV.toFlt (List.getD (AV.sCells (List.getD cells (Int.toNat a * 3 + 1 + 1) .undef)) (Int.toNat ↑i * 2) .undef)) (AV.toFlt (List.getD (AV.sCells (List.getD cells (Int.toNat a * 3 + 1 + 1) .undef)) (Int.toNat ↑i * 2 + 1) .undef)) (AV.toFlt (List.getD cells (Int.toNat b * 3) .undef)) (AV.toFlt (List.getD cells (Int.toNat b * 3 + 1) .undef))) (mulLo (AV.toFlt (List.getD cells (Int.toNat a * 3) .undef)) (AV.toFlt (List.getD cells (Int.toNat a * 3 + 1) .undef)) (AV.toFlt (List.getD (AV.sCells (List.getD cells (Int.toNat b * 3 + 1 + 1) .undef)) (Int.toNat ↑i * 2) .undef)) (AV.toFlt (List.getD (AV.sCells (List.getD cells (Int.toNat b * 3 + 1 + 1) .undef)) (Int.toNat ↑i * 2 + 1) .undef)))) (fadd (mulHi (AV.toFlt (List.getD (AV.sCells (List.getD cells (Int.toNat a * 3 + 1 + 1) .undef)) (Int.toNat ↑i * 2) .undef)) (AV.toFlt (List.getD (AV.sCells (List.getD cells (Int.toNat a * 3 + 1 + 1) .undef)) (Int.toNat ↑i * 2 + 1) .undef)) (AV.toFlt (List.getD cells (Int.toNat b * 3) .undef)) (AV.toFlt (List.getD cells (Int.toNat b * 3 + 1) .undef))) (mulHi (AV.toFlt (List.getD cells (Int.toNat a * 3) .undef)) (AV.toFlt (List.getD cells (Int.toNat a * 3 + 1) .undef)) (AV.toFlt (List.getD (AV.sCells (List.getD cells (Int.toNat b * 3 + 1 + 1) .undef)) (Int.toNat ↑i * 2) .undef)) (AV.toFlt (List.getD (AV.sCells (List.getD cells (Int.toNat b * 3 + 1 + 1) .undef)) (Int.toNat ↑i * 2 + 1) .undef))))), .flt (outHi (fadd (mulLo (AV.toFlt (List.getD (AV.sCells (List.getD cells (Int.toNat a * 3 + 1 + 1) .undef)) (Int.toNat ↑i * 2) .undef)) (AV.toFlt (List.getD (AV.sCells (List.getD cells (Int.toNat a * 3 + 1 + 1) .undef)) (Int.toNat ↑i * 2 + 1) .undef)) (AV.toFlt (List.getD cells (Int.toNat b * 3) .undef)) (AV.toFlt (List.getD cells (Int.toNat b * 3 + 1) .undef))) (mulLo (AV.toFlt (List.getD cells (Int.toNat a * 3) .undef)) (AV.toFlt (List.getD cells (Int.toNat a * 3 + 1) .undef)) (AV.toFlt (List.getD (AV.sCells (List.getD cells (Int.toNat b * 3 + 1 + 1) .undef)) (Int.toNat ↑i * 2) .undef)) (AV.toFlt (List.getD (AV.sCells (List.getD cells (Int.toNat b * 3 + 1 + 1) .undef)) (Int.toNat ↑i * 2 + 1) .undef)))) (fadd (mulHi (AV.toFlt (List.getD (AV.sCells (List.getD cells (Int.toNat a * 3 + 1 + 1) .undef)) (Int.toNat ↑i * 2) .undef)) (AV.toFlt (List.getD (AV.sCells (List.getD cells (Int.toNat a * 3 + 1 + 1) .undef)) (Int.toNat ↑i * 2 + 1) .undef)) (AV.toFlt (List.getD cells (Int.toNat b * 3) .undef)) (AV.toFlt (List.getD cells (Int.toNat b * 3 + 1) .undef))) (mulHi (AV.toFlt (List.getD cells (Int.toNat a * 3) .undef)) (AV.toFlt (List.getD cells (Int.toNat a * 3 + 1) .undef)) (AV.toFlt (List.getD (AV.sCells (List.getD cells (Int.toNat b * 3 + 1 + 1) .undef)) (Int.toNat ↑i * 2) .undef)) (AV.toFlt (List.getD (AV.sCells (List.getD cells (Int.toNat b * 3 + 1 + 1) .undef)) (Int.toNat ↑i * 2 + 1) .undef)))))]) [] :=
  con_evF OV0 mixed (qs := []) (dec := []) (r := ⟨(AV.agg [.flt (outLo (fadd (mulLo (AV.toFlt (List.getD (AV.sCells (List.getD cells (Int.toNat a * 3 + 1 + 1) .undef)) (Int.toNat ↑i * 2) .undef)) (AV.toFlt (List.getD (AV.sCells (List.getD cells (Int.toNat a * 3 + 1 + 1) .undef)) (Int.toNat ↑i * 2 + 1) .undef)) (AV.toFlt (List.getD cells (Int.toNat b * 3) .undef)) (AV.toFlt (List.getD cells (Int.toNat b * 3 + 1) .undef))) (mulLo (AV.toFlt (List.getD cells (Int.toNat a * 3) .undef)) (AV.toFlt (List.getD cells (Int.toNat a * 3 + 1) .undef)) (AV.toFlt (List.getD (AV.sCells (List.getD cells (Int.toNat b * 3 + 1 + 1) .undef)) (Int.toNat ↑i * 2) .undef)) (AV.toFlt (List.getD (AV.sCells (List.getD cells (Int.toNat b * 3 + 1 + 1) .undef)) (Int.toNat ↑i * 2 + 1) .undef)))) (fadd (mulHi (AV.toFlt (List.getD (AV.sCells (List.getD cells (Int.toNat a * 3 + 1 + 1) .undef)) (Int.toNat ↑i * 2) .undef)) (AV.toFlt (List.getD (AV.sCells (List.getD cells (Int.toNat a * 3 + 1 + 1) .undef)) (Int.toNat ↑i * 2 + 1) .undef)) (AV.toFlt (List.getD cells (Int.toNat b * 3) .undef)) (AV.toFlt (List.getD cells (Int.toNat b * 3 + 1) .undef))) (mulHi (AV.toFlt (List.getD cells (Int.toNat a * 3) .undef)) (AV.toFlt (List.getD cells (Int.toNat a * 3 + 1) .undef)) (AV.toFlt (List.getD (AV.sCells (List.getD cells (Int.toNat b * 3 + 1 + 1) .undef)) (Int.toNat ↑i * 2) .undef)) (AV.toFlt (List.getD (AV.sCells (List.getD cells (Int.toNat b * 3 + 1 + 1) .undef)) (Int.toNat ↑i * 2 + 1) .undef))))), .flt (outHi (fadd (mulLo (AV.toFlt (List.getD (AV.sCells (List.getD cells (Int.toNat a * 3 + 1 + 1) .undef)) (Int.toNat ↑i * 2) .undef)) (AV.toFlt (List.getD (AV.sCells (List.getD cells (Int.toNat a * 3 + 1 + 1) .undef)) (Int.toNat ↑i * 2 + 1) .undef)) (AV.toFlt (List.getD cells (Int.toNat b * 3) .undef)) (AV.toFlt (List.getD cells (Int.toNat b * 3 + 1) .undef))) (mulLo (AV.toFlt (List.getD cells (Int.toNat a * 3) .undef)) (AV.toFlt (List.getD cells (Int.toNat a * 3 + 1) .undef)) (AV.toFlt (List.getD (AV.sCells (List.getD cells (Int.toNat b * 3 + 1 + 1) .undef)) (Int.toNat ↑i * 2) .undef)) (AV.toFlt (List.getD (AV.sCells (List.getD cells (Int.toNat b * 3 + 1 + 1) .undef)) (Int.toNat ↑i * 2 + 1) .undef)))) (fadd (mulHi (AV.toFlt (List.getD (AV.sCells (List.getD cells (Int.toNat a * 3 + 1 + 1) .undef)) (Int.toNat ↑i * 2) .undef)) (AV.toFlt (List.getD (AV.sCells (List.getD cells (Int.toNat a * 3 + 1 + 1) .undef)) (Int.toNat ↑i * 2 + 1) .undef)) (AV.toFlt (List.getD cells (Int.toNat b * 3) .undef)) (AV.toFlt (List.getD cells (Int.toNat b * 3 + 1) .undef))) (mulHi (AV.toFlt (List.getD cells (Int.toNat a * 3) .undef)) (AV.toFlt (List.getD cells (Int.toNat a * 3 + 1) .undef)) (AV.toFlt (List.getD (AV.sCells (List.getD cells (Int.toNat b * 3 + 1 + 1) .undef)) (Int.toNat ↑i * 2) .undef)) (AV.toFlt (List.getD (AV.sCells (List.getD cells (Int.toNat b * 3 + 1 + 1) .undef)) (Int.toNat ↑i * 2 + 1) .undef)))))]), [], (Nat.ble (Int.toNat ↑i * 2 + 2) (List.length (AV.sCells (List.getD cells (Int.toNat b * 3 + 1 + 1) .undef))) && etasOk [Leaf.f, Leaf.f] (AV.sCells (List.getD cells (Int.toNat b * 3 + 1 + 1) .undef)) (Int.toNat ↑i * 2) && (decide ((0 : Int) ≤ (↑i : Int) ∧ (↑i : Int) < (↑(AV.sLen (List.getD cells (Int.toNat b * 3 + 1 + 1) .undef)) : Int)) && (Nat.ble (Int.toNat ↑i * 2 + 2) (List.length (AV.sCells (List.getD cells (Int.toNat a * 3 + 1 + 1) .undef))) && etasOk [Leaf.f, Leaf.f] (AV.sCells (List.getD cells (Int.toNat a * 3 + 1 + 1) .undef)) (Int.toNat ↑i * 2) && (decide ((0 : Int) ≤ (↑i : Int) ∧ (↑i : Int) < (↑(AV.sLen (List.getD cells (Int.toNat a * 3 + 1 + 1) .undef)) : Int)) && (Nat.ble (Int.toNat b * 3 + 3) (List.length cells) && etasOk [Leaf.f, Leaf.f, Leaf.sl] cells (Int.toNat b * 3) && (decide ((0 : Int) ≤ b ∧ b < (↑l : Int)) && (Nat.ble (Int.toNat a * 3 + 3) (List.length cells) && etasOk [Leaf.f, Leaf.f, Leaf.sl] cells (Int.toNat a * 3) && (decide ((0 : Int) ≤ a ∧ a < (↑l : Int)) && true))))))))⟩) (by kernel_rfl) hok
theorem vSlo5 (cells : List AV) (l : Nat) (a b : Int) (c : Nat) (i : Nat) (q : Nat × Nat) (nb : Nat) (hok : ((Nat.ble (Int.toNat ↑i * 2 + 2) (List.length (AV.sCells (List.getD cells (Int.toNat b * 3 + 1 + 1) .undef))) && etasOk [Leaf.f, Leaf.f] (AV.sCells (List.getD cells (Int.toNat b * 3 + 1 + 1) .undef)) (Int.toNat ↑i * 2) && (decide ((0 : Int) ≤ (↑i : Int) ∧ (↑i : Int) < (↑(AV.sLen (List.getD cells (Int.toNat b * 3 + 1 + 1) .undef)) : Int)) && (Nat.ble (Int.toNat ↑i * 2 + 2) (List.length (AV.sCells (List.getD cells (Int.toNat a * 3 + 1 + 1) .undef))) && etasOk [Leaf.f, Leaf.f] (AV.sCells (List.getD cells (Int.toNat a * 3 + 1 + 1) .undef)) (Int.toNat ↑i * 2) && (decide ((0 : Int) ≤ (↑i : Int) ∧ (↑i : Int) < (↑(AV.sLen (List.getD cells (Int.toNat a * 3 + 1 + 1) .undef)) : Int)) && (Nat.ble (Int.toNat b * 3 + 3) (List.length cells) && etasOk [Leaf.f, Leaf.f, Leaf.sl] cells (Int.toNat b * 3) && (decide ((0 : Int) ≤ b ∧ b < (↑l : Int)) && (Nat.ble (Int.toNat a * 3 + 3) (List.length cells) && etasOk [Leaf.f, Leaf.f, Leaf.sl] cells (Int.toNat a * 3) && (decide ((0 : Int) ≤ a ∧ a < (↑l : Int)) && true))))))))) = true) : Con prog 158 [vKinds, .agg [.int .i64 5, .int .i64 a, .int .i64 b, .flt c], .int .i64 (i : Int), .agg [.flt q.1, .flt q.2], .snap cells l] nb (AV.agg [.flt (divLo (outLo (fsub (AV.toFlt (List.getD (AV.sCells (List.getD cells (Int.toNat a * 3 + 1 + 1) .undef)) (Int.toNat ↑i * 2) .undef)) (mulHi q.1 q.2 (AV.toFlt (List.getD (AV.sCells (List.getD cells (Int.toNat b * 3 + 1 + 1) .undef)) (Int.toNat ↑i * 2) .undef)) (AV.toFlt (List.getD (AV.sCells (List.getD cells (Int.toNat b * 3 + 1 + 1) .undef)) (Int.toNat ↑i * 2 + 1) .undef)))) (fsub (AV.toFlt (List.getD (AV.sCells (List.getD cells (Int.toNat a * 3 + 1 + 1) .undef)) (Int.toNat ↑i * 2 + 1) .undef)) (mulLo q.1 q.2 (AV.toFlt (List.getD (AV.sCells (List.getD cells (Int.toNat b * 3 + 1 + 1) .undef)) (Int.toNat ↑i * 2) .undef)) (AV.toFlt (List.getD (AV.sCells (List.getD cells (Int.toNat b * 3 + 1 + 1) .undef)) (Int.toNat ↑i * 2 + 1) .undef))))) (outHi (fsub (AV.toFlt (List.getD (AV.sCells (List.getD cells (Int.toNat a * 3 + 1 + 1) .undef)) (Int.toNat ↑i * 2) .undef)) (mulHi q.1 q.2 (AV.toFlt (List.getD (AV.sCells (List.getD cells (Int.toNat b * 3 + 1 + 1) .undef)) (Int.toNat ↑i * 2) .undef)) (AV.toFlt (List.getD (AV.sCells (List.getD cells (Int.toNat b * 3 + 1 + 1) .undef)) (Int.toNat ↑i * 2 + 1) .undef)))) (fsub (AV.toFlt (List.getD (AV.sCells (List.getD cells (Int.toNat a * 3 + 1 + 1) .undef)) (Int.toNat ↑i * 2 + 1) .undef)) (mulLo q.1 q.2 (AV.toFlt (List.getD (AV.sCells (List.getD cells (Int.toNat b * 3 + 1 + 1) .undef)) (Int.toNat ↑i * 2) .undef)) (AV.toFlt (List.getD (AV.sCells (List.getD cells (Int.toNat b * 3 + 1 + 1) .undef)) (Int.toNat ↑i * 2 + 1) .undef))))) (AV.toFlt (List.getD cells (Int.toNat b * 3) .undef)) (AV.toFlt (List.getD cells (Int.toNat b * 3 + 1) .undef))), .flt (divHi (outLo (fsub (AV.toFlt (List.getD (AV.sCells (List.getD cells (Int.toNat a * 3 + 1 + 1) .undef)) (Int.toNat ↑i * 2) .undef)) (mulHi q.1 q.2 (AV.toFlt (List.getD (AV.sCells (List.getD cells (Int.toNat b * 3 + 1 + 1) .undef)) (Int.toNat ↑i * 2) .undef)) (AV.toFlt (List.getD (AV.sCells (List.getD cells (Int.toNat b * 3 + 1 + 1) .undef)) (Int.toNat ↑i * 2 + 1) .undef)))) (fsub (AV.toFlt (List.getD (AV.sCells (List.getD cells (Int.toNat a * 3 + 1 + 1) .undef)) (Int.toNat ↑i * 2 + 1) .undef)) (mulLo q.1 q.2 (AV.toFlt (List.getD (AV.sCells (List.getD cells (Int.toNat b * 3 + 1 + 1) .undef)) (Int.toNat ↑i * 2) .undef)) (AV.toFlt (List.getD (AV.sCells (List.getD cells (Int.toNat b * 3 + 1 + 1) .undef)) (Int.toNat ↑i * 2 + 1) .undef))))) (outHi (fsub (AV.toFlt (List.getD (AV.sCells (List.getD cells (Int.toNat a * 3 + 1 + 1) .undef)) (Int.toNat ↑i * 2) .undef)) (mulHi q.1 q.2 (AV.toFlt (List.getD (AV.sCells (List.getD cells (Int.toNat b * 3 + 1 + 1) .undef)) (Int.toNat ↑i * 2) .undef)) (AV.toFlt (List.getD (AV.sCells (List.getD cells (Int.toNat b * 3 + 1 + 1) .undef)) (Int.toNat ↑i * 2 + 1) .undef)))) (fsub (AV.toFlt (List.getD (AV.sCells (List.getD cells (Int.toNat a * 3 + 1 + 1) .undef)) (Int.toNat ↑i * 2 + 1) .undef)) (mulLo q.1 q.2 (AV.toFlt (List.getD (AV.sCells (List.getD cells (Int.toNat b * 3 + 1 + 1) .undef)) (Int.toNat ↑i * 2) .undef)) (AV.toFlt (List.getD (AV.sCells (List.getD cells (Int.toNat b * 3 + 1 + 1) .undef)) (Int.toNat ↑i * 2 + 1) .undef))))) (AV.toFlt (List.getD cells (Int.toNat b * 3) .undef)) (AV.toFlt (List.getD cells (Int.toNat b * 3 + 1) .undef)))]) [] :=
  con_evF OV0 mixed (qs := []) (dec := []) (r := ⟨(AV.agg [.flt (divLo (outLo (fsub (AV.toFlt (List.getD (AV.sCells (List.getD cells (Int.toNat a * 3 + 1 + 1) .undef)) (Int.toNat ↑i * 2) .undef)) (mulHi q.1 q.2 (AV.toFlt (List.getD (AV.sCells (List.getD cells (Int.toNat b * 3 + 1 + 1) .undef)) (Int.toNat ↑i * 2) .undef)) (AV.toFlt (List.getD (AV.sCells (List.getD cells (Int.toNat b * 3 + 1 + 1) .undef)) (Int.toNat ↑i * 2 + 1) .undef)))) (fsub (AV.toFlt (List.getD (AV.sCells (List.getD cells (Int.toNat a * 3 + 1 + 1) .undef)) (Int.toNat ↑i * 2 + 1) .undef)) (mulLo q.1 q.2 (AV.toFlt (List.getD (AV.sCells (List.getD cells (Int.toNat b * 3 + 1 + 1) .undef)) (Int.toNat ↑i * 2) .undef)) (AV.toFlt (List.getD (AV.sCells (List.getD cells (Int.toNat b * 3 + 1 + 1) .undef)) (Int.toNat ↑i * 2 + 1) .undef))))) (outHi (fsub (AV.toFlt (List.getD (AV.sCells (List.getD cells (Int.toNat a * 3 + 1 + 1) .undef)) (Int.toNat ↑i * 2) .undef)) (mulHi q.1 q.2 (AV.toFlt (List.getD (AV.sCells (List.getD cells (Int.toNat b * 3 + 1 + 1) .undef)) (Int.toNat ↑i * 2) .undef)) (AV.toFlt (List.getD (AV.sCells (List.getD cells (Int.toNat b * 3 + 1 + 1) .undef)) (Int.toNat ↑i * 2 + 1) .undef)))) (fsub (AV.toFlt (List.getD (AV.sCells (List.getD cells (Int.toNat a * 3 + 1 + 1) .undef)) (Int.toNat ↑i * 2 + 1) .undef)) (mulLo q.1 q.2 (AV.toFlt (List.getD (AV.sCells (List.getD cells (Int.toNat b * 3 + 1 + 1) .undef)) (Int.toNat ↑i * 2) .undef)) (AV.toFlt (List.getD (AV.sCells (List.getD cells (Int.toNat b * 3 + 1 + 1) .undef)) (Int.toNat ↑i * 2 + 1) .undef))))) (AV.toFlt (List.getD cells (Int.toNat b * 3) .undef)) (AV.toFlt (List.getD cells (Int.toNat b * 3 + 1) .undef))), .flt (divHi (outLo (fsub (AV.toFlt (List.getD (AV.sCells (List.getD cells (Int.toNat a * 3 + 1 + 1) .undef)) (Int.toNat ↑i * 2) .undef)) (mulHi q.1 q.2 (AV.toFlt (List.getD (AV.sCells (List.getD cells (Int.toNat b * 3 + 1 + 1) .undef)) (Int.toNat ↑i * 2) .undef)) (AV.toFlt (List.getD (AV.sCells (List.getD cells (Int.toNat b * 3 + 1 + 1) .undef)) (Int.toNat ↑i * 2 + 1) .undef)))) (fsub (AV.toFlt (List.getD (AV.sCells (List.getD cells (Int.toNat a * 3 + 1 + 1) .undef)) (Int.toNat ↑i * 2 + 1) .undef)) (mulLo q.1 q.2 (AV.toFlt (List.getD (AV.sCells (List.getD cells (Int.toNat b * 3 + 1 + 1) .undef)) (Int.toNat ↑i * 2) .undef)) (AV.toFlt (List.getD (AV.sCells (List.getD cells (Int.toNat b * 3 + 1 + 1) .undef)) (Int.toNat ↑i * 2 + 1) .undef))))) (outHi (fsub (AV.toFlt (List.getD (AV.sCells (List.getD cells (Int.toNat a * 3 + 1 + 1) .undef)) (Int.toNat ↑i * 2) .undef)) (mulHi q.1 q.2 (AV.toFlt (List.getD (AV.sCells (List.getD cells (Int.toNat b * 3 + 1 + 1) .undef)) (Int.toNat ↑i * 2) .undef)) (AV.toFlt (List.getD (AV.sCells (List.getD cells (Int.toNat b * 3 + 1 + 1) .undef)) (Int.toNat ↑i * 2 + 1) .undef)))) (fsub (AV.toFlt (List.getD (AV.sCells (List.getD cells (Int.toNat a * 3 + 1 + 1) .undef)) (Int.toNat ↑i * 2 + 1) .undef)) (mulLo q.1 q.2 (AV.toFlt (List.getD (AV.sCells (List.getD cells (Int.toNat b * 3 + 1 + 1) .undef)) (Int.toNat ↑i * 2) .undef)) (AV.toFlt (List.getD (AV.sCells (List.getD cells (Int.toNat b * 3 + 1 + 1) .undef)) (Int.toNat ↑i * 2 + 1) .undef))))) (AV.toFlt (List.getD cells (Int.toNat b * 3) .undef)) (AV.toFlt (List.getD cells (Int.toNat b * 3 + 1) .undef)))]), [], (Nat.ble (Int.toNat ↑i * 2 + 2) (List.length (AV.sCells (List.getD cells (Int.toNat b * 3 + 1 + 1) .undef))) && etasOk [Leaf.f, Leaf.f] (AV.sCells (List.getD cells (Int.toNat b * 3 + 1 + 1) .undef)) (Int.toNat ↑i * 2) && (decide ((0 : Int) ≤ (↑i : Int) ∧ (↑i : Int) < (↑(AV.sLen (List.getD cells (Int.toNat b * 3 + 1 + 1) .undef)) : Int)) && (Nat.ble (Int.toNat ↑i * 2 + 2) (List.length (AV.sCells (List.getD cells (Int.toNat a * 3 + 1 + 1) .undef))) && etasOk [Leaf.f, Leaf.f] (AV.sCells (List.getD cells (Int.toNat a * 3 + 1 + 1) .undef)) (Int.toNat ↑i * 2) && (decide ((0 : Int) ≤ (↑i : Int) ∧ (↑i : Int) < (↑(AV.sLen (List.getD cells (Int.toNat a * 3 + 1 + 1) .undef)) : Int)) && (Nat.ble (Int.toNat b * 3 + 3) (List.length cells) && etasOk [Leaf.f, Leaf.f, Leaf.sl] cells (Int.toNat b * 3) && (decide ((0 : Int) ≤ b ∧ b < (↑l : Int)) && (Nat.ble (Int.toNat a * 3 + 3) (List.length cells) && etasOk [Leaf.f, Leaf.f, Leaf.sl] cells (Int.toNat a * 3) && (decide ((0 : Int) ≤ a ∧ a < (↑l : Int)) && true))))))))⟩) (by kernel_rfl) hok
end Go.Eng.Try
/- Fields, from-tos, part 2: one value, one slope: contracts and entries. Condition: the operation may be. Written by wip/tools/genU4.py. -/
namespace Go.Eng
open Go Go.RowKit

def ValOkI (kk : AV) (k1 k2 k3 : IntKind) (o : TOp) (xc : List AV) (lx : Nat) (cells : List AV) (l : Nat) : Prop :=
  kk = Try.vKinds ∧ k1 = .i64 ∧ k2 = .i64 ∧ k3 = .i64 ∧ ∃ N xs rs, xc = ivL xs ∧ lx = xs.length ∧ cells = rgI N rs ∧ l = rs.length ∧ Wide N rs ∧ OpOk xs.length rs.length o
def SloOkI (kk : AV) (k1 k2 k3 k4 : IntKind) (o : TOp) (i : Int) (cells : List AV) (l : Nat) : Prop :=
  kk = Try.vKinds ∧ k1 = .i64 ∧ k2 = .i64 ∧ k3 = .i64 ∧ k4 = .i64 ∧ ∃ N rs M, cells = rgI N rs ∧ l = rs.length ∧ Wide N rs ∧ OpOk M rs.length o ∧ 0 ≤ i ∧ i < N

namespace Try
open Go.Proofs.Try

theorem con_vVal (N : Nat) (xs : List (Nat × Nat)) (rs : List (Rg (Nat × Nat))) (o : TOp) (hw : Wide N rs) (ho : OpOk xs.length rs.length o) (nb : Nat) :
    Con prog 157 [vKinds, .agg [.int .i64 o.k, .int .i64 o.a, .int .i64 o.b, .flt o.c], .snap (ivL xs) xs.length, .snap (rgI N rs) rs.length] nb (ivV (valR kI z2 xs rs o)) [] := by
  obtain ⟨k, a, b, c⟩ := o
  dsimp only
  have hrl := rgI_length N rs
  have hxl := ivL_length xs
  rcases ho with ⟨hk, _⟩ | ⟨hk, h0, h1, _⟩ | ⟨hk, h0, h1, h2, h3, _⟩
  · dsimp only at hk
    subst hk
    exact vVal0 xs xs.length (rgI N rs) rs.length a b c nb
  · dsimp only at hk h0 h1
    subst hk
    obtain ⟨g1, g2⟩ := ivL_get xs a.toNat (by omega)
    have := vVal1 xs xs.length (rgI N rs) rs.length a b c nb (by
      simp only [etasOk, g1, g2]
      repeat' (with_reducible apply and_t')
      all_goals first
        | rfl
        | (simp only [Nat.blt_eq, Nat.ble_eq]; omega)
        | (simp only [decide_eq_true_eq]; omega))
    simp only [g1, g2, AV.toFlt] at this
    exact this
  · dsimp only at hk h0 h1 h2 h3
    obtain ⟨ea, ea1, ea2⟩ := rgI_at N rs a h0 h1
    obtain ⟨eb, eb1, eb2⟩ := rgI_at N rs b h2 h3
    rcases hk with hk | hk | hk | hk <;> subst hk
    · have := vVal2 xs xs.length (rgI N rs) rs.length a b c nb (by
        simp only [Nat.add_zero, etasOk, ea, eb, ea1, eb1]
        repeat' (with_reducible apply and_t')
        all_goals first
          | rfl
          | (simp only [Nat.blt_eq, Nat.ble_eq]; omega)
          | (simp only [decide_eq_true_eq]; omega))
      simp only [Nat.add_zero, ea, eb, ea1, eb1, AV.toFlt] at this
      exact this
    · have := vVal3 xs xs.length (rgI N rs) rs.length a b c nb (by
        simp only [Nat.add_zero, etasOk, ea, eb, ea1, eb1]
        repeat' (with_reducible apply and_t')
        all_goals first
          | rfl
          | (simp only [Nat.blt_eq, Nat.ble_eq]; omega)
          | (simp only [decide_eq_true_eq]; omega))
      simp only [Nat.add_zero, ea, eb, ea1, eb1, AV.toFlt] at this
      exact this
    · have := vVal4 xs xs.length (rgI N rs) rs.length a b c nb (by
        simp only [Nat.add_zero, etasOk, ea, eb, ea1, eb1]
        repeat' (with_reducible apply and_t')
        all_goals first
          | rfl
          | (simp only [Nat.blt_eq, Nat.ble_eq]; omega)
          | (simp only [decide_eq_true_eq]; omega))
      simp only [Nat.add_zero, ea, eb, ea1, eb1, AV.toFlt] at this
      exact this
    · have := vVal5 xs xs.length (rgI N rs) rs.length a b c nb (by
        simp only [Nat.add_zero, etasOk, ea, eb, ea1, eb1]
        repeat' (with_reducible apply and_t')
        all_goals first
          | rfl
          | (simp only [Nat.blt_eq, Nat.ble_eq]; omega)
          | (simp only [decide_eq_true_eq]; omega))
      simp only [Nat.add_zero, ea, eb, ea1, eb1, AV.toFlt] at this
      exact this

theorem con_vSlo (N : Nat) (rs : List (Rg (Nat × Nat))) (o : TOp) (M : Nat) (hw : Wide N rs) (ho : OpOk M rs.length o) (i : Nat) (hi : i < N) (q : Nat × Nat) (nb : Nat) :
    Con prog 158 [vKinds, .agg [.int .i64 o.k, .int .i64 o.a, .int .i64 o.b, .flt o.c], .int .i64 (i : Int), .agg [.flt q.1, .flt q.2], .snap (rgI N rs) rs.length] nb (ivV (slopeR kI z2 rs o q i)) [] := by
  obtain ⟨k, a, b, c⟩ := o
  dsimp only
  have hrl := rgI_length N rs
  rcases ho with ⟨hk, _⟩ | ⟨hk, h0, h1, _⟩ | ⟨hk, h0, h1, h2, h3, _⟩
  · dsimp only at hk
    subst hk
    exact vSlo0 (rgI N rs) rs.length a b c i q nb
  · dsimp only at hk h0 h1
    subst hk
    by_cases hai : a = (i : Int)
    · have := vSlo1t (rgI N rs) rs.length a b c i q nb (by simp [hai])
      simpa [slopeR, kI, ivV, hai] using this
    · have := vSlo1f (rgI N rs) rs.length a b c i q nb (by simp [hai])
      simpa [slopeR, kI, ivV, hai] using this
  · dsimp only at hk h0 h1 h2 h3
    obtain ⟨ea, ea1, ea2⟩ := rgI_at N rs a h0 h1
    obtain ⟨eb, eb1, eb2⟩ := rgI_at N rs b h2 h3
    have da := hw _ (rAt_mem z2 rs a h0 h1)
    have db := hw _ (rAt_mem z2 rs b h2 h3)
    obtain ⟨ga, ga1⟩ := ivL_get (rAt z2 rs a).d i (by omega)
    obtain ⟨gb, gb1⟩ := ivL_get (rAt z2 rs b).d i (by omega)
    have la := ivL_length (rAt z2 rs a).d
    have lb := ivL_length (rAt z2 rs b).d
    have ea3 : (rgI N rs).getD (a.toNat * 3 + 1 + 1) .undef = _ := ea2
    have eb3 : (rgI N rs).getD (b.toNat * 3 + 1 + 1) .undef = _ := eb2
    rcases hk with hk | hk | hk | hk <;> subst hk
    · have := vSlo2 (rgI N rs) rs.length a b c i q nb (by
        simp only [Nat.add_zero, etasOk, ea, eb, ea1, eb1, ea2, eb2, ea3, eb3, AV.sCells, AV.sLen, Int.toNat_natCast, ga, gb, ga1, gb1]
        repeat' (with_reducible apply and_t')
        all_goals first
          | rfl
          | (simp only [Nat.blt_eq, Nat.ble_eq]; omega)
          | (simp only [decide_eq_true_eq]; omega))
      simp only [Nat.add_zero, ea, eb, ea1, eb1, ea2, eb2, ea3, eb3, AV.sCells, Int.toNat_natCast, ga, gb, ga1, gb1, AV.toFlt] at this
      exact this
    · have := vSlo3 (rgI N rs) rs.length a b c i q nb (by
        simp only [Nat.add_zero, etasOk, ea, eb, ea1, eb1, ea2, eb2, ea3, eb3, AV.sCells, AV.sLen, Int.toNat_natCast, ga, gb, ga1, gb1]
        repeat' (with_reducible apply and_t')
        all_goals first
          | rfl
          | (simp only [Nat.blt_eq, Nat.ble_eq]; omega)
          | (simp only [decide_eq_true_eq]; omega))
      simp only [Nat.add_zero, ea, eb, ea1, eb1, ea2, eb2, ea3, eb3, AV.sCells, Int.toNat_natCast, ga, gb, ga1, gb1, AV.toFlt] at this
      exact this
    · have := vSlo4 (rgI N rs) rs.length a b c i q nb (by
        simp only [Nat.add_zero, etasOk, ea, eb, ea1, eb1, ea2, eb2, ea3, eb3, AV.sCells, AV.sLen, Int.toNat_natCast, ga, gb, ga1, gb1]
        repeat' (with_reducible apply and_t')
        all_goals first
          | rfl
          | (simp only [Nat.blt_eq, Nat.ble_eq]; omega)
          | (simp only [decide_eq_true_eq]; omega))
      simp only [Nat.add_zero, ea, eb, ea1, eb1, ea2, eb2, ea3, eb3, AV.sCells, Int.toNat_natCast, ga, gb, ga1, gb1, AV.toFlt] at this
      exact this
    · have := vSlo5 (rgI N rs) rs.length a b c i q nb (by
        simp only [Nat.add_zero, etasOk, ea, eb, ea1, eb1, ea2, eb2, ea3, eb3, AV.sCells, AV.sLen, Int.toNat_natCast, ga, gb, ga1, gb1]
        repeat' (with_reducible apply and_t')
        all_goals first
          | rfl
          | (simp only [Nat.blt_eq, Nat.ble_eq]; omega)
          | (simp only [decide_eq_true_eq]; omega))
      simp only [Nat.add_zero, ea, eb, ea1, eb1, ea2, eb2, ea3, eb3, AV.sCells, Int.toNat_natCast, ga, gb, ga1, gb1, AV.toFlt] at this
      exact this

noncomputable def eValI : Entry := ⟨157, fun ys _ => match ys with
  | [kk, .agg [.int k1 k, .int k2 a, .int k3 b, .flt c], .snap xc lx, .snap cells l] => some ⟨ivV (valR kI z2 (unI xc) (unRgI cells) ⟨k, a, b, c⟩), [], pb (ValOkI kk k1 k2 k3 ⟨k, a, b, c⟩ xc lx cells l)⟩
  | _ => none⟩
theorem eValI_ok : EntryOK prog eValI := by
  intro ys n r h hok
  simp only [eValI] at h
  split at h
  · cases h
    obtain ⟨rfl, rfl, rfl, rfl, N, xs, rs, rfl, rfl, rfl, rfl, hw, ho⟩ := pb_is.1 hok
    dsimp only
    rw [unI_iv, unRgI_rg]
    exact con_vVal N xs rs _ hw ho n
  · cases h

noncomputable def eSloI : Entry := ⟨158, fun ys _ => match ys with
  | [kk, .agg [.int k1 k, .int k2 a, .int k3 b, .flt c], .int k4 i, .agg [.flt q1, .flt q2], .snap cells l] => some ⟨ivV (slopeR kI z2 (unRgI cells) ⟨k, a, b, c⟩ (q1, q2) i.toNat), [], pb (SloOkI kk k1 k2 k3 k4 ⟨k, a, b, c⟩ i cells l)⟩
  | _ => none⟩
theorem eSloI_ok : EntryOK prog eSloI := by
  intro ys n r h hok
  simp only [eSloI] at h
  split at h
  · rename_i kk k1 k k2 a k3 b c k4 i q1 q2 cells l
    cases h
    obtain ⟨rfl, rfl, rfl, rfl, rfl, N, rs, M, rfl, rfl, hw, ho, h0, h1⟩ := pb_is.1 hok
    obtain ⟨j, rfl⟩ := Int.eq_ofNat_of_zero_le h0
    dsimp only
    rw [unRgI_rg]
    exact con_vSlo N rs _ M hw ho j (by omega) (q1, q2) n
  · cases h

noncomputable def esV : List Entry := [eValI, eSloI] ++ esU
theorem esV_ok : ∀ e ∈ esV, EntryOK prog e := by
  intro e he
  rcases List.mem_cons.1 he with rfl | he
  · exact eValI_ok
  rcases List.mem_cons.1 he with rfl | he
  · exact eSloI_ok
  · exact esU_ok e he
noncomputable abbrev CV : Ctx := ctxD prog esV 8 (shallow [157, 158])
theorem OV : OrcOK CV.P CV.orc := ctxD_ok mixed esV_ok 8 _
end Try
end Go.Eng
/- Fields, from-tos, part 3: how a field of from-tos changes: rounds and end (jac.kind.run). Condition: as each piece says. Written by wip/tools/kg.py. -/
namespace Go.Eng.Try
open Go Go.Eng Go.RowKit Go.Proofs.Try
noncomputable def vC : Code := codeOf prog 109
noncomputable def vBody : Code := cL (cL (cR (cL (cR (cR vC)))))
def vKB : ABlk := ⟨[.fn 156 [] [], .fn 20 [] [], .fn 21 [] [], .fn 22 [] [], .fn 138 [] []], 121⟩

theorem vA1 (xs : List (Nat × Nat)) (lx : Nat) (ops : List TOp) (m : Nat) (outs : List Int) (w0 : World) (dec1 : List Bool) : Goes CV w0 73 (cL vC) (St0 [vKinds, .agg [.int .i64 1, .snap (opsL ops) m, .snap (intL outs) 1], .snap (ivL xs) lx] []) Ex.normal (mk [2,3,4] [.snap (ivL xs) lx, .ptr 0 0, .ptr 1 0] [ABlk.mk [.fn 156 [] [], .fn 20 [] [], .fn 21 [] [], .fn 22 [] [], .fn 138 [] []] 121, ABlk.mk [.int .i64 1, .snap (opsL ops) m, .snap (intL outs) 1] 53] dec1) :=
  goes_viewK' OV mixed (qs := []) (fuel := 8) [.lit, .lit] (by kernel_rfl) rfl dec1
theorem vB1 (xs : List (Nat × Nat)) (lx : Nat) (ops : List TOp) (m : Nat) (outs : List Int) (w0 : World) (dec0 dec1 : List Bool) : Goes CV w0 73 (cL (cR vC)) (mk [2,3,4] [.snap (ivL xs) lx, .ptr 0 0, .ptr 1 0] [vKB, ⟨[.int .i64 1, .snap (opsL ops) m, .snap (intL outs) 1], 53⟩] dec0) Ex.normal (mk [2,3,4,7] [.snap (ivL xs) lx, .ptr 0 0, .ptr 1 0, .nils] [ABlk.mk [.fn 156 [] [], .fn 20 [] [], .fn 21 [] [], .fn 22 [] [], .fn 138 [] []] 121, ABlk.mk [.int .i64 1, .snap (opsL ops) m, .snap (intL outs) 1] 53] dec1) :=
  goes_re (dec := []) (goes_viewK' OV mixed (qs := []) (fuel := 8) [.lit, .lit] (by kernel_rfl) rfl dec1)
theorem vD1 (xs : List (Nat × Nat)) (lx : Nat) (ops : List TOp) (m : Nat) (outs : List Int) (w0 : World) (dec0 dec1 : List Bool) : Goes CV w0 73 (cL (cL (cR (cR vC)))) (mk [2,3,4,7] [.snap (ivL xs) lx, .ptr 0 0, .ptr 1 0, .nils] [vKB, ⟨[.int .i64 1, .snap (opsL ops) m, .snap (intL outs) 1], 53⟩] dec0) Ex.normal (mk [2,3,4,7,16,17,18] [.snap (ivL xs) lx, .ptr 0 0, .ptr 1 0, .nils, .snap (opsL ops) m, .int .i64 (↑m : Int), .int .i64 0] [ABlk.mk [.fn 156 [] [], .fn 20 [] [], .fn 21 [] [], .fn 22 [] [], .fn 138 [] []] 121, ABlk.mk [.int .i64 1, .snap (opsL ops) m, .snap (intL outs) 1] 53] dec1) :=
  goes_re (dec := []) (goes_viewK' OV mixed (qs := []) (fuel := 8) [.lit, .lit] (by kernel_rfl) rfl dec1)
theorem vI1 (xs : List (Nat × Nat)) (lx : Nat) (ops : List TOp) (m : Nat) (outs : List Int) (rs : List (Rg (Nat × Nat))) (i : Nat) (k a b : Int) (c : Nat) (w0 : World) (dec0 dec1 : List Bool) (hok : ((pb (SubP true [(1859, [.flt (Prod.fst (slopeR kI z2 (unRgI (rgI 1 rs)) (TOp.mk k a b c) (Prod.fst (valR kI z2 (unI (ivL xs)) (unRgI (rgI 1 rs)) (TOp.mk k a b c)), Prod.snd (valR kI z2 (unI (ivL xs)) (unRgI (rgI 1 rs)) (TOp.mk k a b c))) 0)), .flt (Prod.snd (slopeR kI z2 (unRgI (rgI 1 rs)) (TOp.mk k a b c) (Prod.fst (valR kI z2 (unI (ivL xs)) (unRgI (rgI 1 rs)) (TOp.mk k a b c)), Prod.snd (valR kI z2 (unI (ivL xs)) (unRgI (rgI 1 rs)) (TOp.mk k a b c))) 0))])] [0, 1, 2435] 0 (rgI 1 rs ++ [.flt (Prod.fst (valR kI z2 (unI (ivL xs)) (unRgI (rgI 1 rs)) (TOp.mk k a b c))), .flt (Prod.snd (valR kI z2 (unI (ivL xs)) (unRgI (rgI 1 rs)) (TOp.mk k a b c))), .slc 1859 0 1]) (rgI 1 (rs ++ [stepR kI z2 1 xs rs (TOp.mk k a b c)]))) && true && (decide (List.length (rgI 1 rs) = i * 3 ∧ (i + 1) * 40 ≤ 140737488355328 ∧ i + 1 ≤ 9223372036854775807) && (List.all (rgI 1 rs) AV.noOwn && true && pb (SloOkI (AV.agg [.fn 156 [] [], .fn 20 [] [], .fn 21 [] [], .fn 22 [] [], .fn 138 [] []]) IntKind.i64 IntKind.i64 IntKind.i64 IntKind.i64 (TOp.mk k a b c) (0 : Int) (rgI 1 rs) i) && (List.all (rgI 1 rs) AV.noOwn && true && pb (ValOkI (AV.agg [.fn 156 [] [], .fn 20 [] [], .fn 21 [] [], .fn 22 [] [], .fn 138 [] []]) IntKind.i64 IntKind.i64 IntKind.i64 (TOp.mk k a b c) (ivL xs) lx (rgI 1 rs) i) && (pb (AV.agg [.int .i64 (AV.toInt (List.getD (opsL ops) (Int.toNat ↑i * 4) .undef)), .int .i64 (AV.toInt (List.getD (opsL ops) (Int.toNat ↑i * 4 + 1) .undef)), .int .i64 (AV.toInt (List.getD (opsL ops) (Int.toNat ↑i * 4 + 1 + 1) .undef)), .flt (AV.toFlt (List.getD (opsL ops) (Int.toNat ↑i * 4 + 1 + 1 + 1) .undef))] = AV.agg [.int .i64 k, .int .i64 a, .int .i64 b, .flt c]) && (Nat.ble (Int.toNat ↑i * 4 + 4) (List.length (opsL ops)) && etasOk [Leaf.i IntKind.i64, Leaf.i IntKind.i64, Leaf.i IntKind.i64, Leaf.f] (opsL ops) (Int.toNat ↑i * 4)) && (decide ((0 : Int) ≤ (↑i : Int) ∧ (↑i : Int) < (↑m : Int)) && (decide ((↑i : Int) < (↑m : Int)) && true)))))))) = true) : Goes CV w0 73 (vBody) (mk [2,3,4,7,16,17,18] [.snap (ivL xs) lx, .ptr 0 0, .ptr 1 0, .slc 2 0 i, .snap (opsL ops) m, .int .i64 m, .int .i64 (i : Int)] [vKB, ⟨[.int .i64 1, .snap (opsL ops) m, .snap (intL outs) 1], 53⟩, ⟨rgI 1 rs, 152⟩] dec0) Ex.normal (mk [2,3,4,7,16,17,18] [.snap (ivL xs) lx, .ptr 0 0, .ptr 1 0, .slc 2 0 (i + 1), .snap (opsL ops) m, .int .i64 (↑m : Int), .int .i64 (IntKind.wrap IntKind.i64 ((↑i : Int) + (1 : Int)))] [ABlk.mk [.fn 156 [] [], .fn 20 [] [], .fn 21 [] [], .fn 22 [] [], .fn 138 [] []] 121, ABlk.mk [.int .i64 1, .snap (opsL ops) m, .snap (intL outs) 1] 53, ABlk.mk (rgI 1 (rs ++ [stepR kI z2 1 xs rs (TOp.mk k a b c)])) 152] dec1) :=
  goes_re (dec := [true]) (goes_O (l := [(21, .agg [.int .i64 k, .int .i64 a, .int .i64 b, .flt c])]) (goes_viewK' (ctxO_ok OV _) mixed (qs := [19]) (fuel := 8) [.lit, .lit, .giv (rgI 1 (rs ++ [stepR kI z2 1 xs rs ⟨k, a, b, c⟩])) [1859], .frz] (by kernel_rfl) hok dec1))
theorem vX1 (xs : List (Nat × Nat)) (lx : Nat) (ops : List TOp) (m : Nat) (outs : List Int) (rs : List (Rg (Nat × Nat))) (i : Nat) (w0 : World) (dec0 dec1 : List Bool) (hok : (((List.all (rgI 1 rs) AV.noOwn) && true && (!decide ((↑i : Int) < (↑m : Int)) && true))) = true) : Goes CV w0 73 (vBody) (mk [2,3,4,7,16,17,18] [.snap (ivL xs) lx, .ptr 0 0, .ptr 1 0, .slc 2 0 i, .snap (opsL ops) m, .int .i64 m, .int .i64 (i : Int)] [vKB, ⟨[.int .i64 1, .snap (opsL ops) m, .snap (intL outs) 1], 53⟩, ⟨rgI 1 rs, 152⟩] dec0) (Ex.exit 0) (mk [4,7] [.ptr 0 0, .snap (rgI 1 rs) i] [ABlk.mk [.int .i64 1, .snap (opsL ops) m, .snap (intL outs) 1] 53] dec1) :=
  goes_re (dec := [false]) (goes_viewK' OV mixed (qs := [19]) (fuel := 8) [.lit, .frzFlat] (by kernel_rfl) hok dec1)
theorem vE1 (xs : List (Nat × Nat)) (lx : Nat) (ops : List TOp) (m : Nat) (outs : List Int) (rs : List (Rg (Nat × Nat))) (i : Nat) (w0 : World) (dec0 dec1 : List Bool) (hok : (((List.all (List.take (AV.sLen (List.getD (rgI 1 rs) (Int.toNat (AV.toInt (List.getD (intL outs) 0 .undef)) * 3 + 2) .undef) * 2) (AV.sCells (List.getD (rgI 1 rs) (Int.toNat (AV.toInt (List.getD (intL outs) 0 .undef)) * 3 + 2) .undef))) AV.noOwn) && true && (Nat.ble (AV.sLen (List.getD (rgI 1 rs) (Int.toNat (AV.toInt (List.getD (intL outs) 0 .undef)) * 3 + 2) .undef) * 2) (List.length (AV.sCells (List.getD (rgI 1 rs) (Int.toNat (AV.toInt (List.getD (intL outs) 0 .undef)) * 3 + 2) .undef))) && decide (AV.sLen (List.getD (rgI 1 rs) (Int.toNat (AV.toInt (List.getD (intL outs) 0 .undef)) * 3 + 2) .undef) * 16 ≤ 140737488355328 ∧ AV.sLen (List.getD (rgI 1 rs) (Int.toNat (AV.toInt (List.getD (intL outs) 0 .undef)) * 3 + 2) .undef) ≤ 9223372036854775807) && (Nat.blt (Int.toNat (AV.toInt (List.getD (intL outs) 0 .undef)) * 3 + 2) (List.length (rgI 1 rs)) && AV.isSn (List.getD (rgI 1 rs) (Int.toNat (AV.toInt (List.getD (intL outs) 0 .undef)) * 3 + 2) .undef) && (decide ((0 : Int) ≤ AV.toInt (List.getD (intL outs) 0 .undef) ∧ AV.toInt (List.getD (intL outs) 0 .undef) < (↑i : Int)) && (Nat.blt 0 (List.length (intL outs)) && AV.isInt IntKind.i64 (List.getD (intL outs) 0 .undef) && true)))))) = true) : Goes CV w0 73 (cR (cR (cR vC))) (mk [4,7] [.ptr 0 0, .snap (rgI 1 rs) i] [⟨[.int .i64 1, .snap (opsL ops) m, .snap (intL outs) 1], 53⟩] dec0) Ex.ret (mk [6] [.slc 0 0 1] [ABlk.mk [.slc 1 0 (AV.sLen (List.getD (rgI 1 rs) (Int.toNat (AV.toInt (List.getD (intL outs) 0 .undef)) * 3 + 2) .undef))] 71, ABlk.mk (List.take (AV.sLen (List.getD (rgI 1 rs) (Int.toNat (AV.toInt (List.getD (intL outs) 0 .undef)) * 3 + 2) .undef) * 2) (AV.sCells (List.getD (rgI 1 rs) (Int.toNat (AV.toInt (List.getD (intL outs) 0 .undef)) * 3 + 2) .undef))) 26] dec1) :=
  goes_re (dec := []) (goes_viewK' OV mixed (qs := []) (fuel := 8) [.lit, .flat] (by kernel_rfl) hok dec1)
theorem vA2 (xs : List (Nat × Nat)) (lx : Nat) (ops : List TOp) (m : Nat) (outs : List Int) (w0 : World) (dec1 : List Bool) : Goes CV w0 73 (cL vC) (St0 [vKinds, .agg [.int .i64 2, .snap (opsL ops) m, .snap (intL outs) 2], .snap (ivL xs) lx] []) Ex.normal (mk [2,3,4] [.snap (ivL xs) lx, .ptr 0 0, .ptr 1 0] [ABlk.mk [.fn 156 [] [], .fn 20 [] [], .fn 21 [] [], .fn 22 [] [], .fn 138 [] []] 121, ABlk.mk [.int .i64 2, .snap (opsL ops) m, .snap (intL outs) 2] 53] dec1) :=
  goes_viewK' OV mixed (qs := []) (fuel := 8) [.lit, .lit] (by kernel_rfl) rfl dec1
theorem vB2 (xs : List (Nat × Nat)) (lx : Nat) (ops : List TOp) (m : Nat) (outs : List Int) (w0 : World) (dec0 dec1 : List Bool) : Goes CV w0 73 (cL (cR vC)) (mk [2,3,4] [.snap (ivL xs) lx, .ptr 0 0, .ptr 1 0] [vKB, ⟨[.int .i64 2, .snap (opsL ops) m, .snap (intL outs) 2], 53⟩] dec0) Ex.normal (mk [2,3,4,7] [.snap (ivL xs) lx, .ptr 0 0, .ptr 1 0, .nils] [ABlk.mk [.fn 156 [] [], .fn 20 [] [], .fn 21 [] [], .fn 22 [] [], .fn 138 [] []] 121, ABlk.mk [.int .i64 2, .snap (opsL ops) m, .snap (intL outs) 2] 53] dec1) :=
  goes_re (dec := []) (goes_viewK' OV mixed (qs := []) (fuel := 8) [.lit, .lit] (by kernel_rfl) rfl dec1)
theorem vD2 (xs : List (Nat × Nat)) (lx : Nat) (ops : List TOp) (m : Nat) (outs : List Int) (w0 : World) (dec0 dec1 : List Bool) : Goes CV w0 73 (cL (cL (cR (cR vC)))) (mk [2,3,4,7] [.snap (ivL xs) lx, .ptr 0 0, .ptr 1 0, .nils] [vKB, ⟨[.int .i64 2, .snap (opsL ops) m, .snap (intL outs) 2], 53⟩] dec0) Ex.normal (mk [2,3,4,7,16,17,18] [.snap (ivL xs) lx, .ptr 0 0, .ptr 1 0, .nils, .snap (opsL ops) m, .int .i64 (↑m : Int), .int .i64 0] [ABlk.mk [.fn 156 [] [], .fn 20 [] [], .fn 21 [] [], .fn 22 [] [], .fn 138 [] []] 121, ABlk.mk [.int .i64 2, .snap (opsL ops) m, .snap (intL outs) 2] 53] dec1) :=
  goes_re (dec := []) (goes_viewK' OV mixed (qs := []) (fuel := 8) [.lit, .lit] (by kernel_rfl) rfl dec1)
theorem vI2 (xs : List (Nat × Nat)) (lx : Nat) (ops : List TOp) (m : Nat) (outs : List Int) (rs : List (Rg (Nat × Nat))) (i : Nat) (k a b : Int) (c : Nat) (w0 : World) (dec0 dec1 : List Bool) (hok : ((pb (SubP true [(3011, [.flt (Prod.fst (slopeR kI z2 (unRgI (rgI 2 rs)) (TOp.mk k a b c) (Prod.fst (valR kI z2 (unI (ivL xs)) (unRgI (rgI 2 rs)) (TOp.mk k a b c)), Prod.snd (valR kI z2 (unI (ivL xs)) (unRgI (rgI 2 rs)) (TOp.mk k a b c))) 0)), .flt (Prod.snd (slopeR kI z2 (unRgI (rgI 2 rs)) (TOp.mk k a b c) (Prod.fst (valR kI z2 (unI (ivL xs)) (unRgI (rgI 2 rs)) (TOp.mk k a b c)), Prod.snd (valR kI z2 (unI (ivL xs)) (unRgI (rgI 2 rs)) (TOp.mk k a b c))) 0)), .flt (Prod.fst (slopeR kI z2 (unRgI (rgI 2 rs)) (TOp.mk k a b c) (Prod.fst (valR kI z2 (unI (ivL xs)) (unRgI (rgI 2 rs)) (TOp.mk k a b c)), Prod.snd (valR kI z2 (unI (ivL xs)) (unRgI (rgI 2 rs)) (TOp.mk k a b c))) 1)), .flt (Prod.snd (slopeR kI z2 (unRgI (rgI 2 rs)) (TOp.mk k a b c) (Prod.fst (valR kI z2 (unI (ivL xs)) (unRgI (rgI 2 rs)) (TOp.mk k a b c)), Prod.snd (valR kI z2 (unI (ivL xs)) (unRgI (rgI 2 rs)) (TOp.mk k a b c))) 1))])] [0, 1, 3587] 0 (rgI 2 rs ++ [.flt (Prod.fst (valR kI z2 (unI (ivL xs)) (unRgI (rgI 2 rs)) (TOp.mk k a b c))), .flt (Prod.snd (valR kI z2 (unI (ivL xs)) (unRgI (rgI 2 rs)) (TOp.mk k a b c))), .slc 3011 0 2]) (rgI 2 (rs ++ [stepR kI z2 2 xs rs (TOp.mk k a b c)]))) && true && (decide (List.length (rgI 2 rs) = i * 3 ∧ (i + 1) * 40 ≤ 140737488355328 ∧ i + 1 ≤ 9223372036854775807) && (List.all (rgI 2 rs) AV.noOwn && true && pb (SloOkI (AV.agg [.fn 156 [] [], .fn 20 [] [], .fn 21 [] [], .fn 22 [] [], .fn 138 [] []]) IntKind.i64 IntKind.i64 IntKind.i64 IntKind.i64 (TOp.mk k a b c) (1 : Int) (rgI 2 rs) i) && (List.all (rgI 2 rs) AV.noOwn && true && pb (SloOkI (AV.agg [.fn 156 [] [], .fn 20 [] [], .fn 21 [] [], .fn 22 [] [], .fn 138 [] []]) IntKind.i64 IntKind.i64 IntKind.i64 IntKind.i64 (TOp.mk k a b c) (0 : Int) (rgI 2 rs) i) && (List.all (rgI 2 rs) AV.noOwn && true && pb (ValOkI (AV.agg [.fn 156 [] [], .fn 20 [] [], .fn 21 [] [], .fn 22 [] [], .fn 138 [] []]) IntKind.i64 IntKind.i64 IntKind.i64 (TOp.mk k a b c) (ivL xs) lx (rgI 2 rs) i) && (pb (AV.agg [.int .i64 (AV.toInt (List.getD (opsL ops) (Int.toNat ↑i * 4) .undef)), .int .i64 (AV.toInt (List.getD (opsL ops) (Int.toNat ↑i * 4 + 1) .undef)), .int .i64 (AV.toInt (List.getD (opsL ops) (Int.toNat ↑i * 4 + 1 + 1) .undef)), .flt (AV.toFlt (List.getD (opsL ops) (Int.toNat ↑i * 4 + 1 + 1 + 1) .undef))] = AV.agg [.int .i64 k, .int .i64 a, .int .i64 b, .flt c]) && (Nat.ble (Int.toNat ↑i * 4 + 4) (List.length (opsL ops)) && etasOk [Leaf.i IntKind.i64, Leaf.i IntKind.i64, Leaf.i IntKind.i64, Leaf.f] (opsL ops) (Int.toNat ↑i * 4)) && (decide ((0 : Int) ≤ (↑i : Int) ∧ (↑i : Int) < (↑m : Int)) && (decide ((↑i : Int) < (↑m : Int)) && true))))))))) = true) : Goes CV w0 73 (vBody) (mk [2,3,4,7,16,17,18] [.snap (ivL xs) lx, .ptr 0 0, .ptr 1 0, .slc 2 0 i, .snap (opsL ops) m, .int .i64 m, .int .i64 (i : Int)] [vKB, ⟨[.int .i64 2, .snap (opsL ops) m, .snap (intL outs) 2], 53⟩, ⟨rgI 2 rs, 152⟩] dec0) Ex.normal (mk [2,3,4,7,16,17,18] [.snap (ivL xs) lx, .ptr 0 0, .ptr 1 0, .slc 2 0 (i + 1), .snap (opsL ops) m, .int .i64 (↑m : Int), .int .i64 (IntKind.wrap IntKind.i64 ((↑i : Int) + (1 : Int)))] [ABlk.mk [.fn 156 [] [], .fn 20 [] [], .fn 21 [] [], .fn 22 [] [], .fn 138 [] []] 121, ABlk.mk [.int .i64 2, .snap (opsL ops) m, .snap (intL outs) 2] 53, ABlk.mk (rgI 2 (rs ++ [stepR kI z2 2 xs rs (TOp.mk k a b c)])) 152] dec1) :=
  goes_re (dec := [true]) (goes_O (l := [(21, .agg [.int .i64 k, .int .i64 a, .int .i64 b, .flt c])]) (goes_viewK' (ctxO_ok OV _) mixed (qs := [19]) (fuel := 8) [.lit, .lit, .giv (rgI 2 (rs ++ [stepR kI z2 2 xs rs ⟨k, a, b, c⟩])) [3011], .frz] (by kernel_rfl) hok dec1))
theorem vX2 (xs : List (Nat × Nat)) (lx : Nat) (ops : List TOp) (m : Nat) (outs : List Int) (rs : List (Rg (Nat × Nat))) (i : Nat) (w0 : World) (dec0 dec1 : List Bool) (hok : (((List.all (rgI 2 rs) AV.noOwn) && true && (!decide ((↑i : Int) < (↑m : Int)) && true))) = true) : Goes CV w0 73 (vBody) (mk [2,3,4,7,16,17,18] [.snap (ivL xs) lx, .ptr 0 0, .ptr 1 0, .slc 2 0 i, .snap (opsL ops) m, .int .i64 m, .int .i64 (i : Int)] [vKB, ⟨[.int .i64 2, .snap (opsL ops) m, .snap (intL outs) 2], 53⟩, ⟨rgI 2 rs, 152⟩] dec0) (Ex.exit 0) (mk [4,7] [.ptr 0 0, .snap (rgI 2 rs) i] [ABlk.mk [.int .i64 2, .snap (opsL ops) m, .snap (intL outs) 2] 53] dec1) :=
  goes_re (dec := [false]) (goes_viewK' OV mixed (qs := [19]) (fuel := 8) [.lit, .frzFlat] (by kernel_rfl) hok dec1)
theorem vE2 (xs : List (Nat × Nat)) (lx : Nat) (ops : List TOp) (m : Nat) (outs : List Int) (rs : List (Rg (Nat × Nat))) (i : Nat) (w0 : World) (dec0 dec1 : List Bool) (hok : (((List.all (List.take (AV.sLen (List.getD (rgI 2 rs) (Int.toNat (AV.toInt (List.getD (intL outs) 0 .undef)) * 3 + 2) .undef) * 2) (AV.sCells (List.getD (rgI 2 rs) (Int.toNat (AV.toInt (List.getD (intL outs) 0 .undef)) * 3 + 2) .undef))) AV.noOwn) && ((List.all (List.take (AV.sLen (List.getD (rgI 2 rs) (Int.toNat (AV.toInt (List.getD (intL outs) 1 .undef)) * 3 + 2) .undef) * 2) (AV.sCells (List.getD (rgI 2 rs) (Int.toNat (AV.toInt (List.getD (intL outs) 1 .undef)) * 3 + 2) .undef))) AV.noOwn) && true) && (Nat.ble (AV.sLen (List.getD (rgI 2 rs) (Int.toNat (AV.toInt (List.getD (intL outs) 1 .undef)) * 3 + 2) .undef) * 2) (List.length (AV.sCells (List.getD (rgI 2 rs) (Int.toNat (AV.toInt (List.getD (intL outs) 1 .undef)) * 3 + 2) .undef))) && decide (AV.sLen (List.getD (rgI 2 rs) (Int.toNat (AV.toInt (List.getD (intL outs) 1 .undef)) * 3 + 2) .undef) * 16 ≤ 140737488355328 ∧ AV.sLen (List.getD (rgI 2 rs) (Int.toNat (AV.toInt (List.getD (intL outs) 1 .undef)) * 3 + 2) .undef) ≤ 9223372036854775807) && (Nat.blt (Int.toNat (AV.toInt (List.getD (intL outs) 1 .undef)) * 3 + 2) (List.length (rgI 2 rs)) && AV.isSn (List.getD (rgI 2 rs) (Int.toNat (AV.toInt (List.getD (intL outs) 1 .undef)) * 3 + 2) .undef) && (decide ((0 : Int) ≤ AV.toInt (List.getD (intL outs) 1 .undef) ∧ AV.toInt (List.getD (intL outs) 1 .undef) < (↑i : Int)) && (Nat.blt 1 (List.length (intL outs)) && AV.isInt IntKind.i64 (List.getD (intL outs) 1 .undef) && (Nat.ble (AV.sLen (List.getD (rgI 2 rs) (Int.toNat (AV.toInt (List.getD (intL outs) 0 .undef)) * 3 + 2) .undef) * 2) (List.length (AV.sCells (List.getD (rgI 2 rs) (Int.toNat (AV.toInt (List.getD (intL outs) 0 .undef)) * 3 + 2) .undef))) && decide (AV.sLen (List.getD (rgI 2 rs) (Int.toNat (AV.toInt (List.getD (intL outs) 0 .undef)) * 3 + 2) .undef) * 16 ≤ 140737488355328 ∧ AV.sLen (List.getD (rgI 2 rs) (Int.toNat (AV.toInt (List.getD (intL outs) 0 .undef)) * 3 + 2) .undef) ≤ 9223372036854775807) && (Nat.blt (Int.toNat (AV.toInt (List.getD (intL outs) 0 .undef)) * 3 + 2) (List.length (rgI 2 rs)) && AV.isSn (List.getD (rgI 2 rs) (Int.toNat (AV.toInt (List.getD (intL outs) 0 .undef)) * 3 + 2) .undef) && (decide ((0 : Int) ≤ AV.toInt (List.getD (intL outs) 0 .undef) ∧ AV.toInt (List.getD (intL outs) 0 .undef) < (↑i : Int)) && (Nat.blt 0 (List.length (intL outs)) && AV.isInt IntKind.i64 (List.getD (intL outs) 0 .undef) && true)))))))))) = true) : Goes CV w0 73 (cR (cR (cR vC))) (mk [4,7] [.ptr 0 0, .snap (rgI 2 rs) i] [⟨[.int .i64 2, .snap (opsL ops) m, .snap (intL outs) 2], 53⟩] dec0) Ex.ret (mk [6] [.slc 0 0 2] [ABlk.mk [.slc 1 0 (AV.sLen (List.getD (rgI 2 rs) (Int.toNat (AV.toInt (List.getD (intL outs) 0 .undef)) * 3 + 2) .undef)), .slc 2 0 (AV.sLen (List.getD (rgI 2 rs) (Int.toNat (AV.toInt (List.getD (intL outs) 1 .undef)) * 3 + 2) .undef))] 71, ABlk.mk (List.take (AV.sLen (List.getD (rgI 2 rs) (Int.toNat (AV.toInt (List.getD (intL outs) 0 .undef)) * 3 + 2) .undef) * 2) (AV.sCells (List.getD (rgI 2 rs) (Int.toNat (AV.toInt (List.getD (intL outs) 0 .undef)) * 3 + 2) .undef))) 26, ABlk.mk (List.take (AV.sLen (List.getD (rgI 2 rs) (Int.toNat (AV.toInt (List.getD (intL outs) 1 .undef)) * 3 + 2) .undef) * 2) (AV.sCells (List.getD (rgI 2 rs) (Int.toNat (AV.toInt (List.getD (intL outs) 1 .undef)) * 3 + 2) .undef))) 26] dec1) :=
  goes_re (dec := []) (goes_viewK' OV mixed (qs := []) (fuel := 8) [.lit, .flat, .flat] (by kernel_rfl) hok dec1)
theorem vA3 (xs : List (Nat × Nat)) (lx : Nat) (ops : List TOp) (m : Nat) (outs : List Int) (w0 : World) (dec1 : List Bool) : Goes CV w0 73 (cL vC) (St0 [vKinds, .agg [.int .i64 3, .snap (opsL ops) m, .snap (intL outs) 3], .snap (ivL xs) lx] []) Ex.normal (mk [2,3,4] [.snap (ivL xs) lx, .ptr 0 0, .ptr 1 0] [ABlk.mk [.fn 156 [] [], .fn 20 [] [], .fn 21 [] [], .fn 22 [] [], .fn 138 [] []] 121, ABlk.mk [.int .i64 3, .snap (opsL ops) m, .snap (intL outs) 3] 53] dec1) :=
  goes_viewK' OV mixed (qs := []) (fuel := 8) [.lit, .lit] (by kernel_rfl) rfl dec1
theorem vB3 (xs : List (Nat × Nat)) (lx : Nat) (ops : List TOp) (m : Nat) (outs : List Int) (w0 : World) (dec0 dec1 : List Bool) : Goes CV w0 73 (cL (cR vC)) (mk [2,3,4] [.snap (ivL xs) lx, .ptr 0 0, .ptr 1 0] [vKB, ⟨[.int .i64 3, .snap (opsL ops) m, .snap (intL outs) 3], 53⟩] dec0) Ex.normal (mk [2,3,4,7] [.snap (ivL xs) lx, .ptr 0 0, .ptr 1 0, .nils] [ABlk.mk [.fn 156 [] [], .fn 20 [] [], .fn 21 [] [], .fn 22 [] [], .fn 138 [] []] 121, ABlk.mk [.int .i64 3, .snap (opsL ops) m, .snap (intL outs) 3] 53] dec1) :=
  goes_re (dec := []) (goes_viewK' OV mixed (qs := []) (fuel := 8) [.lit, .lit] (by kernel_rfl) rfl dec1)
theorem vD3 (xs : List (Nat × Nat)) (lx : Nat) (ops : List TOp) (m : Nat) (outs : List Int) (w0 : World) (dec0 dec1 : List Bool) : Goes CV w0 73 (cL (cL (cR (cR vC)))) (mk [2,3,4,7] [.snap (ivL xs) lx, .ptr 0 0, .ptr 1 0, .nils] [vKB, ⟨[.int .i64 3, .snap (opsL ops) m, .snap (intL outs) 3], 53⟩] dec0) Ex.normal (mk [2,3,4,7,16,17,18] [.snap (ivL xs) lx, .ptr 0 0, .ptr 1 0, .nils, .snap (opsL ops) m, .int .i64 (↑m : Int), .int .i64 0] [ABlk.mk [.fn 156 [] [], .fn 20 [] [], .fn 21 [] [], .fn 22 [] [], .fn 138 [] []] 121, ABlk.mk [.int .i64 3, .snap (opsL ops) m, .snap (intL outs) 3] 53] dec1) :=
  goes_re (dec := []) (goes_viewK' OV mixed (qs := []) (fuel := 8) [.lit, .lit] (by kernel_rfl) rfl dec1)
theorem vI3 (xs : List (Nat × Nat)) (lx : Nat) (ops : List TOp) (m : Nat) (outs : List Int) (rs : List (Rg (Nat × Nat))) (i : Nat) (k a b : Int) (c : Nat) (w0 : World) (dec0 dec1 : List Bool) (hok : ((pb (SubP true [(4163, [.flt (Prod.fst (slopeR kI z2 (unRgI (rgI 3 rs)) (TOp.mk k a b c) (Prod.fst (valR kI z2 (unI (ivL xs)) (unRgI (rgI 3 rs)) (TOp.mk k a b c)), Prod.snd (valR kI z2 (unI (ivL xs)) (unRgI (rgI 3 rs)) (TOp.mk k a b c))) 0)), .flt (Prod.snd (slopeR kI z2 (unRgI (rgI 3 rs)) (TOp.mk k a b c) (Prod.fst (valR kI z2 (unI (ivL xs)) (unRgI (rgI 3 rs)) (TOp.mk k a b c)), Prod.snd (valR kI z2 (unI (ivL xs)) (unRgI (rgI 3 rs)) (TOp.mk k a b c))) 0)), .flt (Prod.fst (slopeR kI z2 (unRgI (rgI 3 rs)) (TOp.mk k a b c) (Prod.fst (valR kI z2 (unI (ivL xs)) (unRgI (rgI 3 rs)) (TOp.mk k a b c)), Prod.snd (valR kI z2 (unI (ivL xs)) (unRgI (rgI 3 rs)) (TOp.mk k a b c))) 1)), .flt (Prod.snd (slopeR kI z2 (unRgI (rgI 3 rs)) (TOp.mk k a b c) (Prod.fst (valR kI z2 (unI (ivL xs)) (unRgI (rgI 3 rs)) (TOp.mk k a b c)), Prod.snd (valR kI z2 (unI (ivL xs)) (unRgI (rgI 3 rs)) (TOp.mk k a b c))) 1)), .flt (Prod.fst (slopeR kI z2 (unRgI (rgI 3 rs)) (TOp.mk k a b c) (Prod.fst (valR kI z2 (unI (ivL xs)) (unRgI (rgI 3 rs)) (TOp.mk k a b c)), Prod.snd (valR kI z2 (unI (ivL xs)) (unRgI (rgI 3 rs)) (TOp.mk k a b c))) 2)), .flt (Prod.snd (slopeR kI z2 (unRgI (rgI 3 rs)) (TOp.mk k a b c) (Prod.fst (valR kI z2 (unI (ivL xs)) (unRgI (rgI 3 rs)) (TOp.mk k a b c)), Prod.snd (valR kI z2 (unI (ivL xs)) (unRgI (rgI 3 rs)) (TOp.mk k a b c))) 2))])] [0, 1, 4739] 0 (rgI 3 rs ++ [.flt (Prod.fst (valR kI z2 (unI (ivL xs)) (unRgI (rgI 3 rs)) (TOp.mk k a b c))), .flt (Prod.snd (valR kI z2 (unI (ivL xs)) (unRgI (rgI 3 rs)) (TOp.mk k a b c))), .slc 4163 0 3]) (rgI 3 (rs ++ [stepR kI z2 3 xs rs (TOp.mk k a b c)]))) && true && (decide (List.length (rgI 3 rs) = i * 3 ∧ (i + 1) * 40 ≤ 140737488355328 ∧ i + 1 ≤ 9223372036854775807) && (List.all (rgI 3 rs) AV.noOwn && true && pb (SloOkI (AV.agg [.fn 156 [] [], .fn 20 [] [], .fn 21 [] [], .fn 22 [] [], .fn 138 [] []]) IntKind.i64 IntKind.i64 IntKind.i64 IntKind.i64 (TOp.mk k a b c) (2 : Int) (rgI 3 rs) i) && (List.all (rgI 3 rs) AV.noOwn && true && pb (SloOkI (AV.agg [.fn 156 [] [], .fn 20 [] [], .fn 21 [] [], .fn 22 [] [], .fn 138 [] []]) IntKind.i64 IntKind.i64 IntKind.i64 IntKind.i64 (TOp.mk k a b c) (1 : Int) (rgI 3 rs) i) && (List.all (rgI 3 rs) AV.noOwn && true && pb (SloOkI (AV.agg [.fn 156 [] [], .fn 20 [] [], .fn 21 [] [], .fn 22 [] [], .fn 138 [] []]) IntKind.i64 IntKind.i64 IntKind.i64 IntKind.i64 (TOp.mk k a b c) (0 : Int) (rgI 3 rs) i) && (List.all (rgI 3 rs) AV.noOwn && true && pb (ValOkI (AV.agg [.fn 156 [] [], .fn 20 [] [], .fn 21 [] [], .fn 22 [] [], .fn 138 [] []]) IntKind.i64 IntKind.i64 IntKind.i64 (TOp.mk k a b c) (ivL xs) lx (rgI 3 rs) i) && (pb (AV.agg [.int .i64 (AV.toInt (List.getD (opsL ops) (Int.toNat ↑i * 4) .undef)), .int .i64 (AV.toInt (List.getD (opsL ops) (Int.toNat ↑i * 4 + 1) .undef)), .int .i64 (AV.toInt (List.getD (opsL ops) (Int.toNat ↑i * 4 + 1 + 1) .undef)), .flt (AV.toFlt (List.getD (opsL ops) (Int.toNat ↑i * 4 + 1 + 1 + 1) .undef))] = AV.agg [.int .i64 k, .int .i64 a, .int .i64 b, .flt c]) && (Nat.ble (Int.toNat ↑i * 4 + 4) (List.length (opsL ops)) && etasOk [Leaf.i IntKind.i64, Leaf.i IntKind.i64, Leaf.i IntKind.i64, Leaf.f] (opsL ops) (Int.toNat ↑i * 4)) && (decide ((0 : Int) ≤ (↑i : Int) ∧ (↑i : Int) < (↑m : Int)) && (decide ((↑i : Int) < (↑m : Int)) && true)))))))))) = true) : Goes CV w0 73 (vBody) (mk [2,3,4,7,16,17,18] [.snap (ivL xs) lx, .ptr 0 0, .ptr 1 0, .slc 2 0 i, .snap (opsL ops) m, .int .i64 m, .int .i64 (i : Int)] [vKB, ⟨[.int .i64 3, .snap (opsL ops) m, .snap (intL outs) 3], 53⟩, ⟨rgI 3 rs, 152⟩] dec0) Ex.normal (mk [2,3,4,7,16,17,18] [.snap (ivL xs) lx, .ptr 0 0, .ptr 1 0, .slc 2 0 (i + 1), .snap (opsL ops) m, .int .i64 (↑m : Int), .int .i64 (IntKind.wrap IntKind.i64 ((↑i : Int) + (1 : Int)))] [ABlk.mk [.fn 156 [] [], .fn 20 [] [], .fn 21 [] [], .fn 22 [] [], .fn 138 [] []] 121, ABlk.mk [.int .i64 3, .snap (opsL ops) m, .snap (intL outs) 3] 53, ABlk.mk (rgI 3 (rs ++ [stepR kI z2 3 xs rs (TOp.mk k a b c)])) 152] dec1) :=
  goes_re (dec := [true]) (goes_O (l := [(21, .agg [.int .i64 k, .int .i64 a, .int .i64 b, .flt c])]) (goes_viewK' (ctxO_ok OV _) mixed (qs := [19]) (fuel := 8) [.lit, .lit, .giv (rgI 3 (rs ++ [stepR kI z2 3 xs rs ⟨k, a, b, c⟩])) [4163], .frz] (by kernel_rfl) hok dec1))
theorem vX3 (xs : List (Nat × Nat)) (lx : Nat) (ops : List TOp) (m : Nat) (outs : List Int) (rs : List (Rg (Nat × Nat))) (i : Nat) (w0 : World) (dec0 dec1 : List Bool) (hok : (((List.all (rgI 3 rs) AV.noOwn) && true && (!decide ((↑i : Int) < (↑m : Int)) && true))) = true) : Goes CV w0 73 (vBody) (mk [2,3,4,7,16,17,18] [.snap (ivL xs) lx, .ptr 0 0, .ptr 1 0, .slc 2 0 i, .snap (opsL ops) m, .int .i64 m, .int .i64 (i : Int)] [vKB, ⟨[.int .i64 3, .snap (opsL ops) m, .snap (intL outs) 3], 53⟩, ⟨rgI 3 rs, 152⟩] dec0) (Ex.exit 0) (mk [4,7] [.ptr 0 0, .snap (rgI 3 rs) i] [ABlk.mk [.int .i64 3, .snap (opsL ops) m, .snap (intL outs) 3] 53] dec1) :=
  goes_re (dec := [false]) (goes_viewK' OV mixed (qs := [19]) (fuel := 8) [.lit, .frzFlat] (by kernel_rfl) hok dec1)
theorem vE3 (xs : List (Nat × Nat)) (lx : Nat) (ops : List TOp) (m : Nat) (outs : List Int) (rs : List (Rg (Nat × Nat))) (i : Nat) (w0 : World) (dec0 dec1 : List Bool) (hok : (((List.all (List.take (AV.sLen (List.getD (rgI 3 rs) (Int.toNat (AV.toInt (List.getD (intL outs) 0 .undef)) * 3 + 2) .undef) * 2) (AV.sCells (List.getD (rgI 3 rs) (Int.toNat (AV.toInt (List.getD (intL outs) 0 .undef)) * 3 + 2) .undef))) AV.noOwn) && ((List.all (List.take (AV.sLen (List.getD (rgI 3 rs) (Int.toNat (AV.toInt (List.getD (intL outs) 1 .undef)) * 3 + 2) .undef) * 2) (AV.sCells (List.getD (rgI 3 rs) (Int.toNat (AV.toInt (List.getD (intL outs) 1 .undef)) * 3 + 2) .undef))) AV.noOwn) && ((List.all (List.take (AV.sLen (List.getD (rgI 3 rs) (Int.toNat (AV.toInt (List.getD (intL outs) 2 .undef)) * 3 + 2) .undef) * 2) (AV.sCells (List.getD (rgI 3 rs) (Int.toNat (AV.toInt (List.getD (intL outs) 2 .undef)) * 3 + 2) .undef))) AV.noOwn) && true)) && (Nat.ble (AV.sLen (List.getD (rgI 3 rs) (Int.toNat (AV.toInt (List.getD (intL outs) 2 .undef)) * 3 + 2) .undef) * 2) (List.length (AV.sCells (List.getD (rgI 3 rs) (Int.toNat (AV.toInt (List.getD (intL outs) 2 .undef)) * 3 + 2) .undef))) && decide (AV.sLen (List.getD (rgI 3 rs) (Int.toNat (AV.toInt (List.getD (intL outs) 2 .undef)) * 3 + 2) .undef) * 16 ≤ 140737488355328 ∧ AV.sLen (List.getD (rgI 3 rs) (Int.toNat (AV.toInt (List.getD (intL outs) 2 .undef)) * 3 + 2) .undef) ≤ 9223372036854775807) && (Nat.blt (Int.toNat (AV.toInt (List.getD (intL outs) 2 .undef)) * 3 + 2) (List.length (rgI 3 rs)) && AV.isSn (List.getD (rgI 3 rs) (Int.toNat (AV.toInt (List.getD (intL outs) 2 .undef)) * 3 + 2) .undef) && (decide ((0 : Int) ≤ AV.toInt (List.getD (intL outs) 2 .undef) ∧ AV.toInt (List.getD (intL outs) 2 .undef) < (↑i : Int)) && (Nat.blt 2 (List.length (intL outs)) && AV.isInt IntKind.i64 (List.getD (intL outs) 2 .undef) && (Nat.ble (AV.sLen (List.getD (rgI 3 rs) (Int.toNat (AV.toInt (List.getD (intL outs) 1 .undef)) * 3 + 2) .undef) * 2) (List.length (AV.sCells (List.getD (rgI 3 rs) (Int.toNat (AV.toInt (List.getD (intL outs) 1 .undef)) * 3 + 2) .undef))) && decide (AV.sLen (List.getD (rgI 3 rs) (Int.toNat (AV.toInt (List.getD (intL outs) 1 .undef)) * 3 + 2) .undef) * 16 ≤ 140737488355328 ∧ AV.sLen (List.getD (rgI 3 rs) (Int.toNat (AV.toInt (List.getD (intL outs) 1 .undef)) * 3 + 2) .undef) ≤ 9223372036854775807) && (Nat.blt (Int.toNat (AV.toInt (List.getD (intL outs) 1 .undef)) * 3 + 2) (List.length (rgI 3 rs)) && AV.isSn (List.getD (rgI 3 rs) (Int.toNat (AV.toInt (List.getD (intL outs) 1 .undef)) * 3 + 2) .undef) && (decide ((0 : Int) ≤ AV.toInt (List.getD (intL outs) 1 .undef) ∧ AV.toInt (List.getD (intL outs) 1 .undef) < (↑i : Int)) && (Nat.blt 1 (List.length (intL outs)) && AV.isInt IntKind.i64 (List.getD (intL outs) 1 .undef) && (Nat.ble (AV.sLen (List.getD (rgI 3 rs) (Int.toNat (AV.toInt (List.getD (intL outs) 0 .undef)) * 3 + 2) .undef) * 2) (List.length (AV.sCells (List.getD (rgI 3 rs) (Int.toNat (AV.toInt (List.getD (intL outs) 0 .undef)) * 3 + 2) .undef))) && decide (AV.sLen (List.getD (rgI 3 rs) (Int.toNat (AV.toInt (List.getD (intL outs) 0 .undef)) * 3 + 2) .undef) * 16 ≤ 140737488355328 ∧ AV.sLen (List.getD (rgI 3 rs) (Int.toNat (AV.toInt (List.getD (intL outs) 0 .undef)) * 3 + 2) .undef) ≤ 9223372036854775807) && (Nat.blt (Int.toNat (AV.toInt (List.getD (intL outs) 0 .undef)) * 3 + 2) (List.length (rgI 3 rs)) && AV.isSn (List.getD (rgI 3 rs) (Int.toNat (AV.toInt (List.getD (intL outs) 0 .undef)) * 3 + 2) .undef) && (decide ((0 : Int) ≤ AV.toInt (List.getD (intL outs) 0 .undef) ∧ AV.toInt (List.getD (intL outs) 0 .undef) < (↑i : Int)) && (Nat.blt 0 (List.length (intL outs)) && AV.isInt IntKind.i64 (List.getD (intL outs) 0 .undef) && true)))))))))))))) = true) : Goes CV w0 73 (cR (cR (cR vC))) (mk [4,7] [.ptr 0 0, .snap (rgI 3 rs) i] [⟨[.int .i64 3, .snap (opsL ops) m, .snap (intL outs) 3], 53⟩] dec0) Ex.ret (mk [6] [.slc 0 0 3] [ABlk.mk [.slc 1 0 (AV.sLen (List.getD (rgI 3 rs) (Int.toNat (AV.toInt (List.getD (intL outs) 0 .undef)) * 3 + 2) .undef)), .slc 2 0 (AV.sLen (List.getD (rgI 3 rs) (Int.toNat (AV.toInt (List.getD (intL outs) 1 .undef)) * 3 + 2) .undef)), .slc 3 0 (AV.sLen (List.getD (rgI 3 rs) (Int.toNat (AV.toInt (List.getD (intL outs) 2 .undef)) * 3 + 2) .undef))] 71, ABlk.mk (List.take (AV.sLen (List.getD (rgI 3 rs) (Int.toNat (AV.toInt (List.getD (intL outs) 0 .undef)) * 3 + 2) .undef) * 2) (AV.sCells (List.getD (rgI 3 rs) (Int.toNat (AV.toInt (List.getD (intL outs) 0 .undef)) * 3 + 2) .undef))) 26, ABlk.mk (List.take (AV.sLen (List.getD (rgI 3 rs) (Int.toNat (AV.toInt (List.getD (intL outs) 1 .undef)) * 3 + 2) .undef) * 2) (AV.sCells (List.getD (rgI 3 rs) (Int.toNat (AV.toInt (List.getD (intL outs) 1 .undef)) * 3 + 2) .undef))) 26, ABlk.mk (List.take (AV.sLen (List.getD (rgI 3 rs) (Int.toNat (AV.toInt (List.getD (intL outs) 2 .undef)) * 3 + 2) .undef) * 2) (AV.sCells (List.getD (rgI 3 rs) (Int.toNat (AV.toInt (List.getD (intL outs) 2 .undef)) * 3 + 2) .undef))) 26] dec1) :=
  goes_re (dec := []) (goes_viewK' OV mixed (qs := []) (fuel := 8) [.lit, .flat, .flat, .flat] (by kernel_rfl) hok dec1)
end Go.Eng.Try
/- Fields, part 3: how a field of floats changes: rounds and end (jac.kind.run). Condition: as each piece says. Written by wip/tools/kg.py. -/
namespace Go.Eng.Try
open Go Go.Eng Go.RowKit Go.Proofs.Try
noncomputable def jC : Code := codeOf prog 107
noncomputable def jBody : Code := cL (cL (cR (cL (cR (cR jC)))))
def jKB : ABlk := ⟨[.fn 149 [] [], .fn 150 [] [], .fn 151 [] [], .fn 152 [] [], .fn 153 [] []], 118⟩

theorem jA1 (xs : List Nat) (lx : Nat) (ops : List TOp) (m : Nat) (outs : List Int) (w0 : World) (dec1 : List Bool) : Goes CJ w0 73 (cL jC) (St0 [jKinds, .agg [.int .i64 1, .snap (opsL ops) m, .snap (intL outs) 1], .snap (fltL xs) lx] []) Ex.normal (mk [2,3,4] [.snap (fltL xs) lx, .ptr 0 0, .ptr 1 0] [ABlk.mk [.fn 149 [] [], .fn 150 [] [], .fn 151 [] [], .fn 152 [] [], .fn 153 [] []] 118, ABlk.mk [.int .i64 1, .snap (opsL ops) m, .snap (intL outs) 1] 53] dec1) :=
  goes_viewK' OJ mixed (qs := []) (fuel := 8) [.lit, .lit] (by kernel_rfl) rfl dec1
theorem jB1 (xs : List Nat) (lx : Nat) (ops : List TOp) (m : Nat) (outs : List Int) (w0 : World) (dec0 dec1 : List Bool) : Goes CJ w0 73 (cL (cR jC)) (mk [2,3,4] [.snap (fltL xs) lx, .ptr 0 0, .ptr 1 0] [jKB, ⟨[.int .i64 1, .snap (opsL ops) m, .snap (intL outs) 1], 53⟩] dec0) Ex.normal (mk [2,3,4,7] [.snap (fltL xs) lx, .ptr 0 0, .ptr 1 0, .nils] [ABlk.mk [.fn 149 [] [], .fn 150 [] [], .fn 151 [] [], .fn 152 [] [], .fn 153 [] []] 118, ABlk.mk [.int .i64 1, .snap (opsL ops) m, .snap (intL outs) 1] 53] dec1) :=
  goes_re (dec := []) (goes_viewK' OJ mixed (qs := []) (fuel := 8) [.lit, .lit] (by kernel_rfl) rfl dec1)
theorem jD1 (xs : List Nat) (lx : Nat) (ops : List TOp) (m : Nat) (outs : List Int) (w0 : World) (dec0 dec1 : List Bool) : Goes CJ w0 73 (cL (cL (cR (cR jC)))) (mk [2,3,4,7] [.snap (fltL xs) lx, .ptr 0 0, .ptr 1 0, .nils] [jKB, ⟨[.int .i64 1, .snap (opsL ops) m, .snap (intL outs) 1], 53⟩] dec0) Ex.normal (mk [2,3,4,7,16,17,18] [.snap (fltL xs) lx, .ptr 0 0, .ptr 1 0, .nils, .snap (opsL ops) m, .int .i64 (↑m : Int), .int .i64 0] [ABlk.mk [.fn 149 [] [], .fn 150 [] [], .fn 151 [] [], .fn 152 [] [], .fn 153 [] []] 118, ABlk.mk [.int .i64 1, .snap (opsL ops) m, .snap (intL outs) 1] 53] dec1) :=
  goes_re (dec := []) (goes_viewK' OJ mixed (qs := []) (fuel := 8) [.lit, .lit] (by kernel_rfl) rfl dec1)
theorem jI1 (xs : List Nat) (lx : Nat) (ops : List TOp) (m : Nat) (outs : List Int) (rs : List (Rg Nat)) (i : Nat) (k a b : Int) (c : Nat) (w0 : World) (dec0 dec1 : List Bool) (hok : ((pb (SubP true [(1859, [.flt (slopeR kF 0 (unRg (rgF 1 rs)) (TOp.mk k a b c) (valR kF 0 (unF (fltL xs)) (unRg (rgF 1 rs)) (TOp.mk k a b c)) 0)])] [0, 1, 2435] 0 (rgF 1 rs ++ [.flt (valR kF 0 (unF (fltL xs)) (unRg (rgF 1 rs)) (TOp.mk k a b c)), .slc 1859 0 1]) (rgF 1 (rs ++ [stepR kF 0 1 xs rs (TOp.mk k a b c)]))) && true && (decide (List.length (rgF 1 rs) = i * 2 ∧ (i + 1) * 32 ≤ 140737488355328 ∧ i + 1 ≤ 9223372036854775807) && (List.all (rgF 1 rs) AV.noOwn && true && pb (SloOk (AV.agg [.fn 149 [] [], .fn 150 [] [], .fn 151 [] [], .fn 152 [] [], .fn 153 [] []]) IntKind.i64 IntKind.i64 IntKind.i64 IntKind.i64 (TOp.mk k a b c) (0 : Int) (rgF 1 rs) i) && (List.all (rgF 1 rs) AV.noOwn && true && pb (ValOk (AV.agg [.fn 149 [] [], .fn 150 [] [], .fn 151 [] [], .fn 152 [] [], .fn 153 [] []]) IntKind.i64 IntKind.i64 IntKind.i64 (TOp.mk k a b c) (fltL xs) lx (rgF 1 rs) i) && (pb (AV.agg [.int .i64 (AV.toInt (List.getD (opsL ops) (Int.toNat ↑i * 4) .undef)), .int .i64 (AV.toInt (List.getD (opsL ops) (Int.toNat ↑i * 4 + 1) .undef)), .int .i64 (AV.toInt (List.getD (opsL ops) (Int.toNat ↑i * 4 + 1 + 1) .undef)), .flt (AV.toFlt (List.getD (opsL ops) (Int.toNat ↑i * 4 + 1 + 1 + 1) .undef))] = AV.agg [.int .i64 k, .int .i64 a, .int .i64 b, .flt c]) && (Nat.ble (Int.toNat ↑i * 4 + 4) (List.length (opsL ops)) && etasOk [Leaf.i IntKind.i64, Leaf.i IntKind.i64, Leaf.i IntKind.i64, Leaf.f] (opsL ops) (Int.toNat ↑i * 4)) && (decide ((0 : Int) ≤ (↑i : Int) ∧ (↑i : Int) < (↑m : Int)) && (decide ((↑i : Int) < (↑m : Int)) && true)))))))) = true) : Goes CJ w0 73 (jBody) (mk [2,3,4,7,16,17,18] [.snap (fltL xs) lx, .ptr 0 0, .ptr 1 0, .slc 2 0 i, .snap (opsL ops) m, .int .i64 m, .int .i64 (i : Int)] [jKB, ⟨[.int .i64 1, .snap (opsL ops) m, .snap (intL outs) 1], 53⟩, ⟨rgF 1 rs, 147⟩] dec0) Ex.normal (mk [2,3,4,7,16,17,18] [.snap (fltL xs) lx, .ptr 0 0, .ptr 1 0, .slc 2 0 (i + 1), .snap (opsL ops) m, .int .i64 (↑m : Int), .int .i64 (IntKind.wrap IntKind.i64 ((↑i : Int) + (1 : Int)))] [ABlk.mk [.fn 149 [] [], .fn 150 [] [], .fn 151 [] [], .fn 152 [] [], .fn 153 [] []] 118, ABlk.mk [.int .i64 1, .snap (opsL ops) m, .snap (intL outs) 1] 53, ABlk.mk (rgF 1 (rs ++ [stepR kF 0 1 xs rs (TOp.mk k a b c)])) 147] dec1) :=
  goes_re (dec := [true]) (goes_O (l := [(21, .agg [.int .i64 k, .int .i64 a, .int .i64 b, .flt c])]) (goes_viewK' (ctxO_ok OJ _) mixed (qs := [19]) (fuel := 8) [.lit, .lit, .giv (rgF 1 (rs ++ [stepR kF 0 1 xs rs ⟨k, a, b, c⟩])) [1859], .frz] (by kernel_rfl) hok dec1))
theorem jX1 (xs : List Nat) (lx : Nat) (ops : List TOp) (m : Nat) (outs : List Int) (rs : List (Rg Nat)) (i : Nat) (w0 : World) (dec0 dec1 : List Bool) (hok : (((List.all (rgF 1 rs) AV.noOwn) && true && (!decide ((↑i : Int) < (↑m : Int)) && true))) = true) : Goes CJ w0 73 (jBody) (mk [2,3,4,7,16,17,18] [.snap (fltL xs) lx, .ptr 0 0, .ptr 1 0, .slc 2 0 i, .snap (opsL ops) m, .int .i64 m, .int .i64 (i : Int)] [jKB, ⟨[.int .i64 1, .snap (opsL ops) m, .snap (intL outs) 1], 53⟩, ⟨rgF 1 rs, 147⟩] dec0) (Ex.exit 0) (mk [4,7] [.ptr 0 0, .snap (rgF 1 rs) i] [ABlk.mk [.int .i64 1, .snap (opsL ops) m, .snap (intL outs) 1] 53] dec1) :=
  goes_re (dec := [false]) (goes_viewK' OJ mixed (qs := [19]) (fuel := 8) [.lit, .frzFlat] (by kernel_rfl) hok dec1)
theorem jE1 (xs : List Nat) (lx : Nat) (ops : List TOp) (m : Nat) (outs : List Int) (rs : List (Rg Nat)) (i : Nat) (w0 : World) (dec0 dec1 : List Bool) (hok : (((List.all (List.take (AV.sLen (List.getD (rgF 1 rs) (Int.toNat (AV.toInt (List.getD (intL outs) 0 .undef)) * 2 + 1) .undef) * 1) (AV.sCells (List.getD (rgF 1 rs) (Int.toNat (AV.toInt (List.getD (intL outs) 0 .undef)) * 2 + 1) .undef))) AV.noOwn) && true && (Nat.ble (AV.sLen (List.getD (rgF 1 rs) (Int.toNat (AV.toInt (List.getD (intL outs) 0 .undef)) * 2 + 1) .undef) * 1) (List.length (AV.sCells (List.getD (rgF 1 rs) (Int.toNat (AV.toInt (List.getD (intL outs) 0 .undef)) * 2 + 1) .undef))) && decide (AV.sLen (List.getD (rgF 1 rs) (Int.toNat (AV.toInt (List.getD (intL outs) 0 .undef)) * 2 + 1) .undef) * 8 ≤ 140737488355328 ∧ AV.sLen (List.getD (rgF 1 rs) (Int.toNat (AV.toInt (List.getD (intL outs) 0 .undef)) * 2 + 1) .undef) ≤ 9223372036854775807) && (Nat.blt (Int.toNat (AV.toInt (List.getD (intL outs) 0 .undef)) * 2 + 1) (List.length (rgF 1 rs)) && AV.isSn (List.getD (rgF 1 rs) (Int.toNat (AV.toInt (List.getD (intL outs) 0 .undef)) * 2 + 1) .undef) && (decide ((0 : Int) ≤ AV.toInt (List.getD (intL outs) 0 .undef) ∧ AV.toInt (List.getD (intL outs) 0 .undef) < (↑i : Int)) && (Nat.blt 0 (List.length (intL outs)) && AV.isInt IntKind.i64 (List.getD (intL outs) 0 .undef) && true)))))) = true) : Goes CJ w0 73 (cR (cR (cR jC))) (mk [4,7] [.ptr 0 0, .snap (rgF 1 rs) i] [⟨[.int .i64 1, .snap (opsL ops) m, .snap (intL outs) 1], 53⟩] dec0) Ex.ret (mk [6] [.slc 0 0 1] [ABlk.mk [.slc 1 0 (AV.sLen (List.getD (rgF 1 rs) (Int.toNat (AV.toInt (List.getD (intL outs) 0 .undef)) * 2 + 1) .undef))] 34, ABlk.mk (List.take (AV.sLen (List.getD (rgF 1 rs) (Int.toNat (AV.toInt (List.getD (intL outs) 0 .undef)) * 2 + 1) .undef) * 1) (AV.sCells (List.getD (rgF 1 rs) (Int.toNat (AV.toInt (List.getD (intL outs) 0 .undef)) * 2 + 1) .undef))) 24] dec1) :=
  goes_re (dec := []) (goes_viewK' OJ mixed (qs := []) (fuel := 8) [.lit, .flat] (by kernel_rfl) hok dec1)
theorem jA2 (xs : List Nat) (lx : Nat) (ops : List TOp) (m : Nat) (outs : List Int) (w0 : World) (dec1 : List Bool) : Goes CJ w0 73 (cL jC) (St0 [jKinds, .agg [.int .i64 2, .snap (opsL ops) m, .snap (intL outs) 2], .snap (fltL xs) lx] []) Ex.normal (mk [2,3,4] [.snap (fltL xs) lx, .ptr 0 0, .ptr 1 0] [ABlk.mk [.fn 149 [] [], .fn 150 [] [], .fn 151 [] [], .fn 152 [] [], .fn 153 [] []] 118, ABlk.mk [.int .i64 2, .snap (opsL ops) m, .snap (intL outs) 2] 53] dec1) :=
  goes_viewK' OJ mixed (qs := []) (fuel := 8) [.lit, .lit] (by kernel_rfl) rfl dec1
theorem jB2 (xs : List Nat) (lx : Nat) (ops : List TOp) (m : Nat) (outs : List Int) (w0 : World) (dec0 dec1 : List Bool) : Goes CJ w0 73 (cL (cR jC)) (mk [2,3,4] [.snap (fltL xs) lx, .ptr 0 0, .ptr 1 0] [jKB, ⟨[.int .i64 2, .snap (opsL ops) m, .snap (intL outs) 2], 53⟩] dec0) Ex.normal (mk [2,3,4,7] [.snap (fltL xs) lx, .ptr 0 0, .ptr 1 0, .nils] [ABlk.mk [.fn 149 [] [], .fn 150 [] [], .fn 151 [] [], .fn 152 [] [], .fn 153 [] []] 118, ABlk.mk [.int .i64 2, .snap (opsL ops) m, .snap (intL outs) 2] 53] dec1) :=
  goes_re (dec := []) (goes_viewK' OJ mixed (qs := []) (fuel := 8) [.lit, .lit] (by kernel_rfl) rfl dec1)
theorem jD2 (xs : List Nat) (lx : Nat) (ops : List TOp) (m : Nat) (outs : List Int) (w0 : World) (dec0 dec1 : List Bool) : Goes CJ w0 73 (cL (cL (cR (cR jC)))) (mk [2,3,4,7] [.snap (fltL xs) lx, .ptr 0 0, .ptr 1 0, .nils] [jKB, ⟨[.int .i64 2, .snap (opsL ops) m, .snap (intL outs) 2], 53⟩] dec0) Ex.normal (mk [2,3,4,7,16,17,18] [.snap (fltL xs) lx, .ptr 0 0, .ptr 1 0, .nils, .snap (opsL ops) m, .int .i64 (↑m : Int), .int .i64 0] [ABlk.mk [.fn 149 [] [], .fn 150 [] [], .fn 151 [] [], .fn 152 [] [], .fn 153 [] []] 118, ABlk.mk [.int .i64 2, .snap (opsL ops) m, .snap (intL outs) 2] 53] dec1) :=
  goes_re (dec := []) (goes_viewK' OJ mixed (qs := []) (fuel := 8) [.lit, .lit] (by kernel_rfl) rfl dec1)
theorem jI2 (xs : List Nat) (lx : Nat) (ops : List TOp) (m : Nat) (outs : List Int) (rs : List (Rg Nat)) (i : Nat) (k a b : Int) (c : Nat) (w0 : World) (dec0 dec1 : List Bool) (hok : ((pb (SubP true [(3011, [.flt (slopeR kF 0 (unRg (rgF 2 rs)) (TOp.mk k a b c) (valR kF 0 (unF (fltL xs)) (unRg (rgF 2 rs)) (TOp.mk k a b c)) 0), .flt (slopeR kF 0 (unRg (rgF 2 rs)) (TOp.mk k a b c) (valR kF 0 (unF (fltL xs)) (unRg (rgF 2 rs)) (TOp.mk k a b c)) 1)])] [0, 1, 3587] 0 (rgF 2 rs ++ [.flt (valR kF 0 (unF (fltL xs)) (unRg (rgF 2 rs)) (TOp.mk k a b c)), .slc 3011 0 2]) (rgF 2 (rs ++ [stepR kF 0 2 xs rs (TOp.mk k a b c)]))) && true && (decide (List.length (rgF 2 rs) = i * 2 ∧ (i + 1) * 32 ≤ 140737488355328 ∧ i + 1 ≤ 9223372036854775807) && (List.all (rgF 2 rs) AV.noOwn && true && pb (SloOk (AV.agg [.fn 149 [] [], .fn 150 [] [], .fn 151 [] [], .fn 152 [] [], .fn 153 [] []]) IntKind.i64 IntKind.i64 IntKind.i64 IntKind.i64 (TOp.mk k a b c) (1 : Int) (rgF 2 rs) i) && (List.all (rgF 2 rs) AV.noOwn && true && pb (SloOk (AV.agg [.fn 149 [] [], .fn 150 [] [], .fn 151 [] [], .fn 152 [] [], .fn 153 [] []]) IntKind.i64 IntKind.i64 IntKind.i64 IntKind.i64 (TOp.mk k a b c) (0 : Int) (rgF 2 rs) i) && (List.all (rgF 2 rs) AV.noOwn && true && pb (ValOk (AV.agg [.fn 149 [] [], .fn 150 [] [], .fn 151 [] [], .fn 152 [] [], .fn 153 [] []]) IntKind.i64 IntKind.i64 IntKind.i64 (TOp.mk k a b c) (fltL xs) lx (rgF 2 rs) i) && (pb (AV.agg [.int .i64 (AV.toInt (List.getD (opsL ops) (Int.toNat ↑i * 4) .undef)), .int .i64 (AV.toInt (List.getD (opsL ops) (Int.toNat ↑i * 4 + 1) .undef)), .int .i64 (AV.toInt (List.getD (opsL ops) (Int.toNat ↑i * 4 + 1 + 1) .undef)), .flt (AV.toFlt (List.getD (opsL ops) (Int.toNat ↑i * 4 + 1 + 1 + 1) .undef))] = AV.agg [.int .i64 k, .int .i64 a, .int .i64 b, .flt c]) && (Nat.ble (Int.toNat ↑i * 4 + 4) (List.length (opsL ops)) && etasOk [Leaf.i IntKind.i64, Leaf.i IntKind.i64, Leaf.i IntKind.i64, Leaf.f] (opsL ops) (Int.toNat ↑i * 4)) && (decide ((0 : Int) ≤ (↑i : Int) ∧ (↑i : Int) < (↑m : Int)) && (decide ((↑i : Int) < (↑m : Int)) && true))))))))) = true) : Goes CJ w0 73 (jBody) (mk [2,3,4,7,16,17,18] [.snap (fltL xs) lx, .ptr 0 0, .ptr 1 0, .slc 2 0 i, .snap (opsL ops) m, .int .i64 m, .int .i64 (i : Int)] [jKB, ⟨[.int .i64 2, .snap (opsL ops) m, .snap (intL outs) 2], 53⟩, ⟨rgF 2 rs, 147⟩] dec0) Ex.normal (mk [2,3,4,7,16,17,18] [.snap (fltL xs) lx, .ptr 0 0, .ptr 1 0, .slc 2 0 (i + 1), .snap (opsL ops) m, .int .i64 (↑m : Int), .int .i64 (IntKind.wrap IntKind.i64 ((↑i : Int) + (1 : Int)))] [ABlk.mk [.fn 149 [] [], .fn 150 [] [], .fn 151 [] [], .fn 152 [] [], .fn 153 [] []] 118, ABlk.mk [.int .i64 2, .snap (opsL ops) m, .snap (intL outs) 2] 53, ABlk.mk (rgF 2 (rs ++ [stepR kF 0 2 xs rs (TOp.mk k a b c)])) 147] dec1) :=
  goes_re (dec := [true]) (goes_O (l := [(21, .agg [.int .i64 k, .int .i64 a, .int .i64 b, .flt c])]) (goes_viewK' (ctxO_ok OJ _) mixed (qs := [19]) (fuel := 8) [.lit, .lit, .giv (rgF 2 (rs ++ [stepR kF 0 2 xs rs ⟨k, a, b, c⟩])) [3011], .frz] (by kernel_rfl) hok dec1))
theorem jX2 (xs : List Nat) (lx : Nat) (ops : List TOp) (m : Nat) (outs : List Int) (rs : List (Rg Nat)) (i : Nat) (w0 : World) (dec0 dec1 : List Bool) (hok : (((List.all (rgF 2 rs) AV.noOwn) && true && (!decide ((↑i : Int) < (↑m : Int)) && true))) = true) : Goes CJ w0 73 (jBody) (mk [2,3,4,7,16,17,18] [.snap (fltL xs) lx, .ptr 0 0, .ptr 1 0, .slc 2 0 i, .snap (opsL ops) m, .int .i64 m, .int .i64 (i : Int)] [jKB, ⟨[.int .i64 2, .snap (opsL ops) m, .snap (intL outs) 2], 53⟩, ⟨rgF 2 rs, 147⟩] dec0) (Ex.exit 0) (mk [4,7] [.ptr 0 0, .snap (rgF 2 rs) i] [ABlk.mk [.int .i64 2, .snap (opsL ops) m, .snap (intL outs) 2] 53] dec1) :=
  goes_re (dec := [false]) (goes_viewK' OJ mixed (qs := [19]) (fuel := 8) [.lit, .frzFlat] (by kernel_rfl) hok dec1)
theorem jE2 (xs : List Nat) (lx : Nat) (ops : List TOp) (m : Nat) (outs : List Int) (rs : List (Rg Nat)) (i : Nat) (w0 : World) (dec0 dec1 : List Bool) (hok : (((List.all (List.take (AV.sLen (List.getD (rgF 2 rs) (Int.toNat (AV.toInt (List.getD (intL outs) 0 .undef)) * 2 + 1) .undef) * 1) (AV.sCells (List.getD (rgF 2 rs) (Int.toNat (AV.toInt (List.getD (intL outs) 0 .undef)) * 2 + 1) .undef))) AV.noOwn) && ((List.all (List.take (AV.sLen (List.getD (rgF 2 rs) (Int.toNat (AV.toInt (List.getD (intL outs) 1 .undef)) * 2 + 1) .undef) * 1) (AV.sCells (List.getD (rgF 2 rs) (Int.toNat (AV.toInt (List.getD (intL outs) 1 .undef)) * 2 + 1) .undef))) AV.noOwn) && true) && (Nat.ble (AV.sLen (List.getD (rgF 2 rs) (Int.toNat (AV.toInt (List.getD (intL outs) 1 .undef)) * 2 + 1) .undef) * 1) (List.length (AV.sCells (List.getD (rgF 2 rs) (Int.toNat (AV.toInt (List.getD (intL outs) 1 .undef)) * 2 + 1) .undef))) && decide (AV.sLen (List.getD (rgF 2 rs) (Int.toNat (AV.toInt (List.getD (intL outs) 1 .undef)) * 2 + 1) .undef) * 8 ≤ 140737488355328 ∧ AV.sLen (List.getD (rgF 2 rs) (Int.toNat (AV.toInt (List.getD (intL outs) 1 .undef)) * 2 + 1) .undef) ≤ 9223372036854775807) && (Nat.blt (Int.toNat (AV.toInt (List.getD (intL outs) 1 .undef)) * 2 + 1) (List.length (rgF 2 rs)) && AV.isSn (List.getD (rgF 2 rs) (Int.toNat (AV.toInt (List.getD (intL outs) 1 .undef)) * 2 + 1) .undef) && (decide ((0 : Int) ≤ AV.toInt (List.getD (intL outs) 1 .undef) ∧ AV.toInt (List.getD (intL outs) 1 .undef) < (↑i : Int)) && (Nat.blt 1 (List.length (intL outs)) && AV.isInt IntKind.i64 (List.getD (intL outs) 1 .undef) && (Nat.ble (AV.sLen (List.getD (rgF 2 rs) (Int.toNat (AV.toInt (List.getD (intL outs) 0 .undef)) * 2 + 1) .undef) * 1) (List.length (AV.sCells (List.getD (rgF 2 rs) (Int.toNat (AV.toInt (List.getD (intL outs) 0 .undef)) * 2 + 1) .undef))) && decide (AV.sLen (List.getD (rgF 2 rs) (Int.toNat (AV.toInt (List.getD (intL outs) 0 .undef)) * 2 + 1) .undef) * 8 ≤ 140737488355328 ∧ AV.sLen (List.getD (rgF 2 rs) (Int.toNat (AV.toInt (List.getD (intL outs) 0 .undef)) * 2 + 1) .undef) ≤ 9223372036854775807) && (Nat.blt (Int.toNat (AV.toInt (List.getD (intL outs) 0 .undef)) * 2 + 1) (List.length (rgF 2 rs)) && AV.isSn (List.getD (rgF 2 rs) (Int.toNat (AV.toInt (List.getD (intL outs) 0 .undef)) * 2 + 1) .undef) && (decide ((0 : Int) ≤ AV.toInt (List.getD (intL outs) 0 .undef) ∧ AV.toInt (List.getD (intL outs) 0 .undef) < (↑i : Int)) && (Nat.blt 0 (List.length (intL outs)) && AV.isInt IntKind.i64 (List.getD (intL outs) 0 .undef) && true)))))))))) = true) : Goes CJ w0 73 (cR (cR (cR jC))) (mk [4,7] [.ptr 0 0, .snap (rgF 2 rs) i] [⟨[.int .i64 2, .snap (opsL ops) m, .snap (intL outs) 2], 53⟩] dec0) Ex.ret (mk [6] [.slc 0 0 2] [ABlk.mk [.slc 1 0 (AV.sLen (List.getD (rgF 2 rs) (Int.toNat (AV.toInt (List.getD (intL outs) 0 .undef)) * 2 + 1) .undef)), .slc 2 0 (AV.sLen (List.getD (rgF 2 rs) (Int.toNat (AV.toInt (List.getD (intL outs) 1 .undef)) * 2 + 1) .undef))] 34, ABlk.mk (List.take (AV.sLen (List.getD (rgF 2 rs) (Int.toNat (AV.toInt (List.getD (intL outs) 0 .undef)) * 2 + 1) .undef) * 1) (AV.sCells (List.getD (rgF 2 rs) (Int.toNat (AV.toInt (List.getD (intL outs) 0 .undef)) * 2 + 1) .undef))) 24, ABlk.mk (List.take (AV.sLen (List.getD (rgF 2 rs) (Int.toNat (AV.toInt (List.getD (intL outs) 1 .undef)) * 2 + 1) .undef) * 1) (AV.sCells (List.getD (rgF 2 rs) (Int.toNat (AV.toInt (List.getD (intL outs) 1 .undef)) * 2 + 1) .undef))) 24] dec1) :=
  goes_re (dec := []) (goes_viewK' OJ mixed (qs := []) (fuel := 8) [.lit, .flat, .flat] (by kernel_rfl) hok dec1)
theorem jA3 (xs : List Nat) (lx : Nat) (ops : List TOp) (m : Nat) (outs : List Int) (w0 : World) (dec1 : List Bool) : Goes CJ w0 73 (cL jC) (St0 [jKinds, .agg [.int .i64 3, .snap (opsL ops) m, .snap (intL outs) 3], .snap (fltL xs) lx] []) Ex.normal (mk [2,3,4] [.snap (fltL xs) lx, .ptr 0 0, .ptr 1 0] [ABlk.mk [.fn 149 [] [], .fn 150 [] [], .fn 151 [] [], .fn 152 [] [], .fn 153 [] []] 118, ABlk.mk [.int .i64 3, .snap (opsL ops) m, .snap (intL outs) 3] 53] dec1) :=
  goes_viewK' OJ mixed (qs := []) (fuel := 8) [.lit, .lit] (by kernel_rfl) rfl dec1
theorem jB3 (xs : List Nat) (lx : Nat) (ops : List TOp) (m : Nat) (outs : List Int) (w0 : World) (dec0 dec1 : List Bool) : Goes CJ w0 73 (cL (cR jC)) (mk [2,3,4] [.snap (fltL xs) lx, .ptr 0 0, .ptr 1 0] [jKB, ⟨[.int .i64 3, .snap (opsL ops) m, .snap (intL outs) 3], 53⟩] dec0) Ex.normal (mk [2,3,4,7] [.snap (fltL xs) lx, .ptr 0 0, .ptr 1 0, .nils] [ABlk.mk [.fn 149 [] [], .fn 150 [] [], .fn 151 [] [], .fn 152 [] [], .fn 153 [] []] 118, ABlk.mk [.int .i64 3, .snap (opsL ops) m, .snap (intL outs) 3] 53] dec1) :=
  goes_re (dec := []) (goes_viewK' OJ mixed (qs := []) (fuel := 8) [.lit, .lit] (by kernel_rfl) rfl dec1)
theorem jD3 (xs : List Nat) (lx : Nat) (ops : List TOp) (m : Nat) (outs : List Int) (w0 : World) (dec0 dec1 : List Bool) : Goes CJ w0 73 (cL (cL (cR (cR jC)))) (mk [2,3,4,7] [.snap (fltL xs) lx, .ptr 0 0, .ptr 1 0, .nils] [jKB, ⟨[.int .i64 3, .snap (opsL ops) m, .snap (intL outs) 3], 53⟩] dec0) Ex.normal (mk [2,3,4,7,16,17,18] [.snap (fltL xs) lx, .ptr 0 0, .ptr 1 0, .nils, .snap (opsL ops) m, .int .i64 (↑m : Int), .int .i64 0] [ABlk.mk [.fn 149 [] [], .fn 150 [] [], .fn 151 [] [], .fn 152 [] [], .fn 153 [] []] 118, ABlk.mk [.int .i64 3, .snap (opsL ops) m, .snap (intL outs) 3] 53] dec1) :=
  goes_re (dec := []) (goes_viewK' OJ mixed (qs := []) (fuel := 8) [.lit, .lit] (by kernel_rfl) rfl dec1)
theorem jI3 (xs : List Nat) (lx : Nat) (ops : List TOp) (m : Nat) (outs : List Int) (rs : List (Rg Nat)) (i : Nat) (k a b : Int) (c : Nat) (w0 : World) (dec0 dec1 : List Bool) (hok : ((pb (SubP true [(4163, [.flt (slopeR kF 0 (unRg (rgF 3 rs)) (TOp.mk k a b c) (valR kF 0 (unF (fltL xs)) (unRg (rgF 3 rs)) (TOp.mk k a b c)) 0), .flt (slopeR kF 0 (unRg (rgF 3 rs)) (TOp.mk k a b c) (valR kF 0 (unF (fltL xs)) (unRg (rgF 3 rs)) (TOp.mk k a b c)) 1), .flt (slopeR kF 0 (unRg (rgF 3 rs)) (TOp.mk k a b c) (valR kF 0 (unF (fltL xs)) (unRg (rgF 3 rs)) (TOp.mk k a b c)) 2)])] [0, 1, 4739] 0 (rgF 3 rs ++ [.flt (valR kF 0 (unF (fltL xs)) (unRg (rgF 3 rs)) (TOp.mk k a b c)), .slc 4163 0 3]) (rgF 3 (rs ++ [stepR kF 0 3 xs rs (TOp.mk k a b c)]))) && true && (decide (List.length (rgF 3 rs) = i * 2 ∧ (i + 1) * 32 ≤ 140737488355328 ∧ i + 1 ≤ 9223372036854775807) && (List.all (rgF 3 rs) AV.noOwn && true && pb (SloOk (AV.agg [.fn 149 [] [], .fn 150 [] [], .fn 151 [] [], .fn 152 [] [], .fn 153 [] []]) IntKind.i64 IntKind.i64 IntKind.i64 IntKind.i64 (TOp.mk k a b c) (2 : Int) (rgF 3 rs) i) && (List.all (rgF 3 rs) AV.noOwn && true && pb (SloOk (AV.agg [.fn 149 [] [], .fn 150 [] [], .fn 151 [] [], .fn 152 [] [], .fn 153 [] []]) IntKind.i64 IntKind.i64 IntKind.i64 IntKind.i64 (TOp.mk k a b c) (1 : Int) (rgF 3 rs) i) && (List.all (rgF 3 rs) AV.noOwn && true && pb (SloOk (AV.agg [.fn 149 [] [], .fn 150 [] [], .fn 151 [] [], .fn 152 [] [], .fn 153 [] []]) IntKind.i64 IntKind.i64 IntKind.i64 IntKind.i64 (TOp.mk k a b c) (0 : Int) (rgF 3 rs) i) && (List.all (rgF 3 rs) AV.noOwn && true && pb (ValOk (AV.agg [.fn 149 [] [], .fn 150 [] [], .fn 151 [] [], .fn 152 [] [], .fn 153 [] []]) IntKind.i64 IntKind.i64 IntKind.i64 (TOp.mk k a b c) (fltL xs) lx (rgF 3 rs) i) && (pb (AV.agg [.int .i64 (AV.toInt (List.getD (opsL ops) (Int.toNat ↑i * 4) .undef)), .int .i64 (AV.toInt (List.getD (opsL ops) (Int.toNat ↑i * 4 + 1) .undef)), .int .i64 (AV.toInt (List.getD (opsL ops) (Int.toNat ↑i * 4 + 1 + 1) .undef)), .flt (AV.toFlt (List.getD (opsL ops) (Int.toNat ↑i * 4 + 1 + 1 + 1) .undef))] = AV.agg [.int .i64 k, .int .i64 a, .int .i64 b, .flt c]) && (Nat.ble (Int.toNat ↑i * 4 + 4) (List.length (opsL ops)) && etasOk [Leaf.i IntKind.i64, Leaf.i IntKind.i64, Leaf.i IntKind.i64, Leaf.f] (opsL ops) (Int.toNat ↑i * 4)) && (decide ((0 : Int) ≤ (↑i : Int) ∧ (↑i : Int) < (↑m : Int)) && (decide ((↑i : Int) < (↑m : Int)) && true)))))))))) = true) : Goes CJ w0 73 (jBody) (mk [2,3,4,7,16,17,18] [.snap (fltL xs) lx, .ptr 0 0, .ptr 1 0, .slc 2 0 i, .snap (opsL ops) m, .int .i64 m, .int .i64 (i : Int)] [jKB, ⟨[.int .i64 3, .snap (opsL ops) m, .snap (intL outs) 3], 53⟩, ⟨rgF 3 rs, 147⟩] dec0) Ex.normal (mk [2,3,4,7,16,17,18] [.snap (fltL xs) lx, .ptr 0 0, .ptr 1 0, .slc 2 0 (i + 1), .snap (opsL ops) m, .int .i64 (↑m : Int), .int .i64 (IntKind.wrap IntKind.i64 ((↑i : Int) + (1 : Int)))] [ABlk.mk [.fn 149 [] [], .fn 150 [] [], .fn 151 [] [], .fn 152 [] [], .fn 153 [] []] 118, ABlk.mk [.int .i64 3, .snap (opsL ops) m, .snap (intL outs) 3] 53, ABlk.mk (rgF 3 (rs ++ [stepR kF 0 3 xs rs (TOp.mk k a b c)])) 147] dec1) :=
  goes_re (dec := [true]) (goes_O (l := [(21, .agg [.int .i64 k, .int .i64 a, .int .i64 b, .flt c])]) (goes_viewK' (ctxO_ok OJ _) mixed (qs := [19]) (fuel := 8) [.lit, .lit, .giv (rgF 3 (rs ++ [stepR kF 0 3 xs rs ⟨k, a, b, c⟩])) [4163], .frz] (by kernel_rfl) hok dec1))
theorem jX3 (xs : List Nat) (lx : Nat) (ops : List TOp) (m : Nat) (outs : List Int) (rs : List (Rg Nat)) (i : Nat) (w0 : World) (dec0 dec1 : List Bool) (hok : (((List.all (rgF 3 rs) AV.noOwn) && true && (!decide ((↑i : Int) < (↑m : Int)) && true))) = true) : Goes CJ w0 73 (jBody) (mk [2,3,4,7,16,17,18] [.snap (fltL xs) lx, .ptr 0 0, .ptr 1 0, .slc 2 0 i, .snap (opsL ops) m, .int .i64 m, .int .i64 (i : Int)] [jKB, ⟨[.int .i64 3, .snap (opsL ops) m, .snap (intL outs) 3], 53⟩, ⟨rgF 3 rs, 147⟩] dec0) (Ex.exit 0) (mk [4,7] [.ptr 0 0, .snap (rgF 3 rs) i] [ABlk.mk [.int .i64 3, .snap (opsL ops) m, .snap (intL outs) 3] 53] dec1) :=
  goes_re (dec := [false]) (goes_viewK' OJ mixed (qs := [19]) (fuel := 8) [.lit, .frzFlat] (by kernel_rfl) hok dec1)
theorem jE3 (xs : List Nat) (lx : Nat) (ops : List TOp) (m : Nat) (outs : List Int) (rs : List (Rg Nat)) (i : Nat) (w0 : World) (dec0 dec1 : List Bool) (hok : (((List.all (List.take (AV.sLen (List.getD (rgF 3 rs) (Int.toNat (AV.toInt (List.getD (intL outs) 0 .undef)) * 2 + 1) .undef) * 1) (AV.sCells (List.getD (rgF 3 rs) (Int.toNat (AV.toInt (List.getD (intL outs) 0 .undef)) * 2 + 1) .undef))) AV.noOwn) && ((List.all (List.take (AV.sLen (List.getD (rgF 3 rs) (Int.toNat (AV.toInt (List.getD (intL outs) 1 .undef)) * 2 + 1) .undef) * 1) (AV.sCells (List.getD (rgF 3 rs) (Int.toNat (AV.toInt (List.getD (intL outs) 1 .undef)) * 2 + 1) .undef))) AV.noOwn) && ((List.all (List.take (AV.sLen (List.getD (rgF 3 rs) (Int.toNat (AV.toInt (List.getD (intL outs) 2 .undef)) * 2 + 1) .undef) * 1) (AV.sCells (List.getD (rgF 3 rs) (Int.toNat (AV.toInt (List.getD (intL outs) 2 .undef)) * 2 + 1) .undef))) AV.noOwn) && true)) && (Nat.ble (AV.sLen (List.getD (rgF 3 rs) (Int.toNat (AV.toInt (List.getD (intL outs) 2 .undef)) * 2 + 1) .undef) * 1) (List.length (AV.sCells (List.getD (rgF 3 rs) (Int.toNat (AV.toInt (List.getD (intL outs) 2 .undef)) * 2 + 1) .undef))) && decide (AV.sLen (List.getD (rgF 3 rs) (Int.toNat (AV.toInt (List.getD (intL outs) 2 .undef)) * 2 + 1) .undef) * 8 ≤ 140737488355328 ∧ AV.sLen (List.getD (rgF 3 rs) (Int.toNat (AV.toInt (List.getD (intL outs) 2 .undef)) * 2 + 1) .undef) ≤ 9223372036854775807) && (Nat.blt (Int.toNat (AV.toInt (List.getD (intL outs) 2 .undef)) * 2 + 1) (List.length (rgF 3 rs)) && AV.isSn (List.getD (rgF 3 rs) (Int.toNat (AV.toInt (List.getD (intL outs) 2 .undef)) * 2 + 1) .undef) && (decide ((0 : Int) ≤ AV.toInt (List.getD (intL outs) 2 .undef) ∧ AV.toInt (List.getD (intL outs) 2 .undef) < (↑i : Int)) && (Nat.blt 2 (List.length (intL outs)) && AV.isInt IntKind.i64 (List.getD (intL outs) 2 .undef) && (Nat.ble (AV.sLen (List.getD (rgF 3 rs) (Int.toNat (AV.toInt (List.getD (intL outs) 1 .undef)) * 2 + 1) .undef) * 1) (List.length (AV.sCells (List.getD (rgF 3 rs) (Int.toNat (AV.toInt (List.getD (intL outs) 1 .undef)) * 2 + 1) .undef))) && decide (AV.sLen (List.getD (rgF 3 rs) (Int.toNat (AV.toInt (List.getD (intL outs) 1 .undef)) * 2 + 1) .undef) * 8 ≤ 140737488355328 ∧ AV.sLen (List.getD (rgF 3 rs) (Int.toNat (AV.toInt (List.getD (intL outs) 1 .undef)) * 2 + 1) .undef) ≤ 9223372036854775807) && (Nat.blt (Int.toNat (AV.toInt (List.getD (intL outs) 1 .undef)) * 2 + 1) (List.length (rgF 3 rs)) && AV.isSn (List.getD (rgF 3 rs) (Int.toNat (AV.toInt (List.getD (intL outs) 1 .undef)) * 2 + 1) .undef) && (decide ((0 : Int) ≤ AV.toInt (List.getD (intL outs) 1 .undef) ∧ AV.toInt (List.getD (intL outs) 1 .undef) < (↑i : Int)) && (Nat.blt 1 (List.length (intL outs)) && AV.isInt IntKind.i64 (List.getD (intL outs) 1 .undef) && (Nat.ble (AV.sLen (List.getD (rgF 3 rs) (Int.toNat (AV.toInt (List.getD (intL outs) 0 .undef)) * 2 + 1) .undef) * 1) (List.length (AV.sCells (List.getD (rgF 3 rs) (Int.toNat (AV.toInt (List.getD (intL outs) 0 .undef)) * 2 + 1) .undef))) && decide (AV.sLen (List.getD (rgF 3 rs) (Int.toNat (AV.toInt (List.getD (intL outs) 0 .undef)) * 2 + 1) .undef) * 8 ≤ 140737488355328 ∧ AV.sLen (List.getD (rgF 3 rs) (Int.toNat (AV.toInt (List.getD (intL outs) 0 .undef)) * 2 + 1) .undef) ≤ 9223372036854775807) && (Nat.blt (Int.toNat (AV.toInt (List.getD (intL outs) 0 .undef)) * 2 + 1) (List.length (rgF 3 rs)) && AV.isSn (List.getD (rgF 3 rs) (Int.toNat (AV.toInt (List.getD (intL outs) 0 .undef)) * 2 + 1) .undef) && (decide ((0 : Int) ≤ AV.toInt (List.getD (intL outs) 0 .undef) ∧ AV.toInt (List.getD (intL outs) 0 .undef) < (↑i : Int)) && (Nat.blt 0 (List.length (intL outs)) && AV.isInt IntKind.i64 (List.getD (intL outs) 0 .undef) && true)))))))))))))) = true) : Goes CJ w0 73 (cR (cR (cR jC))) (mk [4,7] [.ptr 0 0, .snap (rgF 3 rs) i] [⟨[.int .i64 3, .snap (opsL ops) m, .snap (intL outs) 3], 53⟩] dec0) Ex.ret (mk [6] [.slc 0 0 3] [ABlk.mk [.slc 1 0 (AV.sLen (List.getD (rgF 3 rs) (Int.toNat (AV.toInt (List.getD (intL outs) 0 .undef)) * 2 + 1) .undef)), .slc 2 0 (AV.sLen (List.getD (rgF 3 rs) (Int.toNat (AV.toInt (List.getD (intL outs) 1 .undef)) * 2 + 1) .undef)), .slc 3 0 (AV.sLen (List.getD (rgF 3 rs) (Int.toNat (AV.toInt (List.getD (intL outs) 2 .undef)) * 2 + 1) .undef))] 34, ABlk.mk (List.take (AV.sLen (List.getD (rgF 3 rs) (Int.toNat (AV.toInt (List.getD (intL outs) 0 .undef)) * 2 + 1) .undef) * 1) (AV.sCells (List.getD (rgF 3 rs) (Int.toNat (AV.toInt (List.getD (intL outs) 0 .undef)) * 2 + 1) .undef))) 24, ABlk.mk (List.take (AV.sLen (List.getD (rgF 3 rs) (Int.toNat (AV.toInt (List.getD (intL outs) 1 .undef)) * 2 + 1) .undef) * 1) (AV.sCells (List.getD (rgF 3 rs) (Int.toNat (AV.toInt (List.getD (intL outs) 1 .undef)) * 2 + 1) .undef))) 24, ABlk.mk (List.take (AV.sLen (List.getD (rgF 3 rs) (Int.toNat (AV.toInt (List.getD (intL outs) 2 .undef)) * 2 + 1) .undef) * 1) (AV.sCells (List.getD (rgF 3 rs) (Int.toNat (AV.toInt (List.getD (intL outs) 2 .undef)) * 2 + 1) .undef))) 24] dec1) :=
  goes_re (dec := []) (goes_viewK' OJ mixed (qs := []) (fuel := 8) [.lit, .flat, .flat, .flat] (by kernel_rfl) hok dec1)
end Go.Eng.Try
/- Fields, part 4: how a field of floats changes: contract (jac.kind.run, jac.Jac). Condition: the field may be. Written by wip/tools/genQ7.py. -/
namespace Go.Eng
open Go Go.RowKit

def jRow (N : Nat) (d : List Nat) : List AV := (List.range N).map fun i => .flt (d.getD i 0)
theorem fltL_row {N : Nat} {d : List Nat} (h : d.length = N) : fltL d = jRow N d := by
  subst h
  apply List.ext_getElem?
  intro i
  unfold fltL jRow
  by_cases hi : i < d.length
  · simp [List.getElem?_eq_getElem hi, hi]
  · rw [List.getElem?_eq_none (by simpa using hi), List.getElem?_eq_none (by simpa using hi)]

theorem opsL_at (ops : List TOp) (i : Nat) (h : i < ops.length) : (opsL ops).getD (Int.toNat (i : Int) * 4) .undef = .int .i64 (ops.getD i op0).k ∧ (opsL ops).getD (Int.toNat (i : Int) * 4 + 1) .undef = .int .i64 (ops.getD i op0).a ∧
    (opsL ops).getD (Int.toNat (i : Int) * 4 + 1 + 1) .undef = .int .i64 (ops.getD i op0).b ∧ (opsL ops).getD (Int.toNat (i : Int) * 4 + 1 + 1 + 1) .undef = .flt (ops.getD i op0).c := by
  have := opsL_get ops i h
  rw [Int.toNat_natCast, Nat.mul_comm]
  exact this

/-- Outputs that may be. -/
def OutsOk (N m : Nat) (outs : List Int) : Prop := outs.length = N ∧ ∀ j, j < N → 0 ≤ outs.getD j 0 ∧ outs.getD j 0 < m

/-- How the j-th output changes. -/
def jacD {T : Type} (K : Kd T) (z : T) (N : Nat) (xs : List T) (ops : List TOp) (outs : List Int) (j : Nat) : List T := (rAt z (runR K z N xs ops ops.length) (outs.getD j 0)).d

theorem jacD_length {T : Type} (K : Kd T) (z : T) {N : Nat} {xs : List T} {ops : List TOp} {outs : List Int} (ho : OutsOk N ops.length outs) {j : Nat} (hj : j < N) : (jacD K z N xs ops outs j).length = N := by
  have h := ho.2 j hj
  exact runR_d K z N xs ops ops.length _ (rAt_mem z _ _ h.1 (by rw [runR_length]; exact h.2))

namespace Try
open Go.Proofs.Try

def jSt1 (xs : List Nat) (ops : List TOp) (outs : List Int) (rs : List (Rg Nat)) (i : Nat) : St :=
  mk [2,3,4,7,16,17,18] [.snap (fltL xs) xs.length, .ptr 0 0, .ptr 1 0, .slc 2 0 i, .snap (opsL ops) ops.length, .int .i64 ops.length, .int .i64 (i : Int)] [jKB, ⟨[.int .i64 1, .snap (opsL ops) ops.length, .snap (intL outs) 1], 53⟩, ⟨rgF 1 rs, 147⟩] []

theorem jRound1 (xs : List Nat) (ops : List TOp) (outs : List Int) (rs : List (Rg Nat)) (i : Nat) (hi : i < ops.length) (hm : ops.length < 1000) (hl : rs.length = i) (hw : Wide 1 rs) (ho : OpsOk xs.length ops) (w0 : World) :
    Goes CJ w0 73 jBody (jSt1 xs ops outs rs i) .normal (jSt1 xs ops outs (rs ++ [stepR kF 0 1 xs rs (ops.getD i op0)]) (i + 1)) := by
  have ew : IntKind.i64.wrap ((i : Int) + 1) = ((i + 1 : Nat) : Int) := by rw [wrapI (by omega) (by omega)]; rfl
  obtain ⟨g0, g1, g2, g3⟩ := opsL_at ops i hi
  have hop := ho i hi
  have hlen := opsL_length ops
  have hrl := rgF_length 1 rs
  refine goes_to (jI1 xs xs.length ops ops.length outs rs i (ops.getD i op0).k (ops.getD i op0).a (ops.getD i op0).b (ops.getD i op0).c w0 [] [] ?_) ?_
  · simp only [Bool.and_eq_true]
    and_intros
    all_goals first
      | rfl
      | exact trivial
      | exact rgF_noOwn _ _
      | exact pb_of ⟨rfl, rfl, rfl, rfl, rfl, 1, rs, xs.length, rfl, hl.symm, hw, by rw [hl]; exact hop, by omega, by omega⟩
      | exact pb_of ⟨rfl, rfl, rfl, rfl, 1, xs, rs, rfl, rfl, rfl, hl.symm, hw, by rw [hl]; exact hop⟩
      | (rw [Nat.ble_eq]; simp only [Int.toNat_natCast]; omega)
      | (simp only [etasOk, g0, g1, g2, g3]; rfl)
      | (apply pb_of; rw [g0, g1, g2, g3]; rfl)
      | (simp; omega)
      | (apply pb_of
         rw [unF_flt, unRg_rg, rgF_append]
         exact SubP.append (SubP.same (rgF_noOwn _ _)) (SubP.cons (.inl ⟨rfl, rfl⟩) (SubP.cons (.inr rfl) SubP.nil)))
  · unfold jSt1
    rw [← ew]
    rfl

theorem con_jrun1 (xs : List Nat) (ops : List TOp) (outs : List Int) (hm : ops.length < 1000) (ho : OpsOk xs.length ops) (hout : OutsOk 1 ops.length outs) (n : Nat) :
    Con prog 107 [jKinds, .agg [.int .i64 1, .snap (opsL ops) ops.length, .snap (intL outs) 1], .snap (fltL xs) xs.length] n (.slc n 0 1) [⟨[.slc (n + 1) 0 1], 34⟩, ⟨jRow 1 (jacD kF 0 1 xs ops outs 0), 24⟩] := by
  have hrl : (runR kF 0 1 xs ops ops.length).length = ops.length := runR_length _ _ _ _ _ _
  have hwr : Wide 1 (runR kF 0 1 xs ops ops.length) := runR_d _ _ _ _ _ _
  refine con_goesKC (es := esJ) (d := 8) (deep := shallow [154, 155]) 73 (by kernel_rfl) (dec := []) (e := .ret) (s := mk [6] [.slc 0 0 1] [⟨[.slc 1 0 1], 34⟩, ⟨jRow 1 (jacD kF 0 1 xs ops outs 0), 24⟩] []) [] (r := ⟨_, _, true⟩) (by kernel_rfl) rfl (.inl rfl) fun w0 => ?_
  refine goes_seq (by kernel_rfl) (jA1 xs xs.length ops ops.length outs w0 []) (goes_seq (by kernel_rfl) (jB1 xs xs.length ops ops.length outs w0 [] []) (goes_seq (by kernel_rfl) (goes_seq (by kernel_rfl) (jD1 xs xs.length ops ops.length outs w0 [] []) ?_) (goes_to (jE1 xs xs.length ops ops.length outs (runR kF 0 1 xs ops ops.length) ops.length w0 [] [] ?_) ?_)))
  · refine goes_block (id := 0) (by kernel_rfl) (goes_nils (dec' := []) 3 147 rfl (goes_loop (by kernel_rfl) (fun h => by cases h) ops.length (fun i => jSt1 xs ops outs (runR kF 0 1 xs ops i) i) (s2 := _) ?_ ?_))
    · intro i hi
      exact jRound1 xs ops outs (runR kF 0 1 xs ops i) i hi hm (runR_length _ _ _ _ _ _) (runR_d _ _ _ _ _ _) ho w0
    · exact jX1 xs xs.length ops ops.length outs (runR kF 0 1 xs ops ops.length) ops.length w0 [] [] (by
        simp only [Bool.and_eq_true]
        and_intros
        all_goals first
          | rfl
          | exact trivial
          | exact rgF_noOwn _ _
          | simp)
  · have h0 := hout.2 0 (by omega)
    have o0 := intL_get (xs := outs) (i := 0) (by rw [hout.1]; omega)
    have r0 := (rgF_at 1 (runR kF 0 1 xs ops ops.length) (outs.getD 0 0) h0.1 (by rw [hrl]; exact h0.2)).2
    have d0 := jacD_length kF 0 (xs := xs) hout (j := 0) (by omega)
    have e0 : fltL (rAt 0 (runR kF 0 1 xs ops ops.length) (outs.getD 0 0)).d = jRow 1 (jacD kF 0 1 xs ops outs 0) := fltL_row d0
    have t0 : List.take 1 (jRow 1 (jacD kF 0 1 xs ops outs 0)) = jRow 1 (jacD kF 0 1 xs ops outs 0) := rfl
    simp only [o0, r0, e0, AV.toInt, AV.sLen, AV.sCells, AV.isSn, Nat.mul_one, List.take_of_length_le (Nat.le_refl _), t0]
    simp only [Bool.and_eq_true]
    and_intros
    all_goals first
      | rfl
      | exact trivial
      | exact fltL_noOwn _
      | (rw [Nat.blt_eq]; simp only [rgF_length, intL_length, hrl, hout.1]; omega)
      | (rw [Nat.ble_eq]; rw [fltL_length]; omega)
      | (simp only [decide_eq_true_eq]; omega)
      | (simp; omega)
  · have h0 := hout.2 0 (by omega)
    have o0 := intL_get (xs := outs) (i := 0) (by rw [hout.1]; omega)
    have r0 := (rgF_at 1 (runR kF 0 1 xs ops ops.length) (outs.getD 0 0) h0.1 (by rw [hrl]; exact h0.2)).2
    have d0 := jacD_length kF 0 (xs := xs) hout (j := 0) (by omega)
    have e0 : fltL (rAt 0 (runR kF 0 1 xs ops ops.length) (outs.getD 0 0)).d = jRow 1 (jacD kF 0 1 xs ops outs 0) := fltL_row d0
    have t0 : List.take 1 (jRow 1 (jacD kF 0 1 xs ops outs 0)) = jRow 1 (jacD kF 0 1 xs ops outs 0) := rfl
    simp only [o0, r0, e0, AV.toInt, AV.sLen, AV.sCells, Nat.mul_one, t0]

def jSt2 (xs : List Nat) (ops : List TOp) (outs : List Int) (rs : List (Rg Nat)) (i : Nat) : St :=
  mk [2,3,4,7,16,17,18] [.snap (fltL xs) xs.length, .ptr 0 0, .ptr 1 0, .slc 2 0 i, .snap (opsL ops) ops.length, .int .i64 ops.length, .int .i64 (i : Int)] [jKB, ⟨[.int .i64 2, .snap (opsL ops) ops.length, .snap (intL outs) 2], 53⟩, ⟨rgF 2 rs, 147⟩] []

theorem jRound2 (xs : List Nat) (ops : List TOp) (outs : List Int) (rs : List (Rg Nat)) (i : Nat) (hi : i < ops.length) (hm : ops.length < 1000) (hl : rs.length = i) (hw : Wide 2 rs) (ho : OpsOk xs.length ops) (w0 : World) :
    Goes CJ w0 73 jBody (jSt2 xs ops outs rs i) .normal (jSt2 xs ops outs (rs ++ [stepR kF 0 2 xs rs (ops.getD i op0)]) (i + 1)) := by
  have ew : IntKind.i64.wrap ((i : Int) + 1) = ((i + 1 : Nat) : Int) := by rw [wrapI (by omega) (by omega)]; rfl
  obtain ⟨g0, g1, g2, g3⟩ := opsL_at ops i hi
  have hop := ho i hi
  have hlen := opsL_length ops
  have hrl := rgF_length 2 rs
  refine goes_to (jI2 xs xs.length ops ops.length outs rs i (ops.getD i op0).k (ops.getD i op0).a (ops.getD i op0).b (ops.getD i op0).c w0 [] [] ?_) ?_
  · simp only [Bool.and_eq_true]
    and_intros
    all_goals first
      | rfl
      | exact trivial
      | exact rgF_noOwn _ _
      | exact pb_of ⟨rfl, rfl, rfl, rfl, rfl, 2, rs, xs.length, rfl, hl.symm, hw, by rw [hl]; exact hop, by omega, by omega⟩
      | exact pb_of ⟨rfl, rfl, rfl, rfl, 2, xs, rs, rfl, rfl, rfl, hl.symm, hw, by rw [hl]; exact hop⟩
      | (rw [Nat.ble_eq]; simp only [Int.toNat_natCast]; omega)
      | (simp only [etasOk, g0, g1, g2, g3]; rfl)
      | (apply pb_of; rw [g0, g1, g2, g3]; rfl)
      | (simp; omega)
      | (apply pb_of
         rw [unF_flt, unRg_rg, rgF_append]
         exact SubP.append (SubP.same (rgF_noOwn _ _)) (SubP.cons (.inl ⟨rfl, rfl⟩) (SubP.cons (.inr rfl) SubP.nil)))
  · unfold jSt2
    rw [← ew]
    rfl

theorem con_jrun2 (xs : List Nat) (ops : List TOp) (outs : List Int) (hm : ops.length < 1000) (ho : OpsOk xs.length ops) (hout : OutsOk 2 ops.length outs) (n : Nat) :
    Con prog 107 [jKinds, .agg [.int .i64 2, .snap (opsL ops) ops.length, .snap (intL outs) 2], .snap (fltL xs) xs.length] n (.slc n 0 2) [⟨[.slc (n + 1) 0 2, .slc (n + 2) 0 2], 34⟩, ⟨jRow 2 (jacD kF 0 2 xs ops outs 0), 24⟩, ⟨jRow 2 (jacD kF 0 2 xs ops outs 1), 24⟩] := by
  have hrl : (runR kF 0 2 xs ops ops.length).length = ops.length := runR_length _ _ _ _ _ _
  have hwr : Wide 2 (runR kF 0 2 xs ops ops.length) := runR_d _ _ _ _ _ _
  refine con_goesKC (es := esJ) (d := 8) (deep := shallow [154, 155]) 73 (by kernel_rfl) (dec := []) (e := .ret) (s := mk [6] [.slc 0 0 2] [⟨[.slc 1 0 2, .slc 2 0 2], 34⟩, ⟨jRow 2 (jacD kF 0 2 xs ops outs 0), 24⟩, ⟨jRow 2 (jacD kF 0 2 xs ops outs 1), 24⟩] []) [] (r := ⟨_, _, true⟩) (by kernel_rfl) rfl (.inl rfl) fun w0 => ?_
  refine goes_seq (by kernel_rfl) (jA2 xs xs.length ops ops.length outs w0 []) (goes_seq (by kernel_rfl) (jB2 xs xs.length ops ops.length outs w0 [] []) (goes_seq (by kernel_rfl) (goes_seq (by kernel_rfl) (jD2 xs xs.length ops ops.length outs w0 [] []) ?_) (goes_to (jE2 xs xs.length ops ops.length outs (runR kF 0 2 xs ops ops.length) ops.length w0 [] [] ?_) ?_)))
  · refine goes_block (id := 0) (by kernel_rfl) (goes_nils (dec' := []) 3 147 rfl (goes_loop (by kernel_rfl) (fun h => by cases h) ops.length (fun i => jSt2 xs ops outs (runR kF 0 2 xs ops i) i) (s2 := _) ?_ ?_))
    · intro i hi
      exact jRound2 xs ops outs (runR kF 0 2 xs ops i) i hi hm (runR_length _ _ _ _ _ _) (runR_d _ _ _ _ _ _) ho w0
    · exact jX2 xs xs.length ops ops.length outs (runR kF 0 2 xs ops ops.length) ops.length w0 [] [] (by
        simp only [Bool.and_eq_true]
        and_intros
        all_goals first
          | rfl
          | exact trivial
          | exact rgF_noOwn _ _
          | simp)
  · have h0 := hout.2 0 (by omega)
    have o0 := intL_get (xs := outs) (i := 0) (by rw [hout.1]; omega)
    have r0 := (rgF_at 2 (runR kF 0 2 xs ops ops.length) (outs.getD 0 0) h0.1 (by rw [hrl]; exact h0.2)).2
    have d0 := jacD_length kF 0 (xs := xs) hout (j := 0) (by omega)
    have e0 : fltL (rAt 0 (runR kF 0 2 xs ops ops.length) (outs.getD 0 0)).d = jRow 2 (jacD kF 0 2 xs ops outs 0) := fltL_row d0
    have t0 : List.take 2 (jRow 2 (jacD kF 0 2 xs ops outs 0)) = jRow 2 (jacD kF 0 2 xs ops outs 0) := rfl
    have h1 := hout.2 1 (by omega)
    have o1 := intL_get (xs := outs) (i := 1) (by rw [hout.1]; omega)
    have r1 := (rgF_at 2 (runR kF 0 2 xs ops ops.length) (outs.getD 1 0) h1.1 (by rw [hrl]; exact h1.2)).2
    have d1 := jacD_length kF 0 (xs := xs) hout (j := 1) (by omega)
    have e1 : fltL (rAt 0 (runR kF 0 2 xs ops ops.length) (outs.getD 1 0)).d = jRow 2 (jacD kF 0 2 xs ops outs 1) := fltL_row d1
    have t1 : List.take 2 (jRow 2 (jacD kF 0 2 xs ops outs 1)) = jRow 2 (jacD kF 0 2 xs ops outs 1) := rfl
    simp only [o0, r0, e0, o1, r1, e1, AV.toInt, AV.sLen, AV.sCells, AV.isSn, Nat.mul_one, List.take_of_length_le (Nat.le_refl _), t0, t1]
    simp only [Bool.and_eq_true]
    and_intros
    all_goals first
      | rfl
      | exact trivial
      | exact fltL_noOwn _
      | (rw [Nat.blt_eq]; simp only [rgF_length, intL_length, hrl, hout.1]; omega)
      | (rw [Nat.ble_eq]; rw [fltL_length]; omega)
      | (simp only [decide_eq_true_eq]; omega)
      | (simp; omega)
  · have h0 := hout.2 0 (by omega)
    have o0 := intL_get (xs := outs) (i := 0) (by rw [hout.1]; omega)
    have r0 := (rgF_at 2 (runR kF 0 2 xs ops ops.length) (outs.getD 0 0) h0.1 (by rw [hrl]; exact h0.2)).2
    have d0 := jacD_length kF 0 (xs := xs) hout (j := 0) (by omega)
    have e0 : fltL (rAt 0 (runR kF 0 2 xs ops ops.length) (outs.getD 0 0)).d = jRow 2 (jacD kF 0 2 xs ops outs 0) := fltL_row d0
    have t0 : List.take 2 (jRow 2 (jacD kF 0 2 xs ops outs 0)) = jRow 2 (jacD kF 0 2 xs ops outs 0) := rfl
    have h1 := hout.2 1 (by omega)
    have o1 := intL_get (xs := outs) (i := 1) (by rw [hout.1]; omega)
    have r1 := (rgF_at 2 (runR kF 0 2 xs ops ops.length) (outs.getD 1 0) h1.1 (by rw [hrl]; exact h1.2)).2
    have d1 := jacD_length kF 0 (xs := xs) hout (j := 1) (by omega)
    have e1 : fltL (rAt 0 (runR kF 0 2 xs ops ops.length) (outs.getD 1 0)).d = jRow 2 (jacD kF 0 2 xs ops outs 1) := fltL_row d1
    have t1 : List.take 2 (jRow 2 (jacD kF 0 2 xs ops outs 1)) = jRow 2 (jacD kF 0 2 xs ops outs 1) := rfl
    simp only [o0, r0, e0, o1, r1, e1, AV.toInt, AV.sLen, AV.sCells, Nat.mul_one, t0, t1]

def jSt3 (xs : List Nat) (ops : List TOp) (outs : List Int) (rs : List (Rg Nat)) (i : Nat) : St :=
  mk [2,3,4,7,16,17,18] [.snap (fltL xs) xs.length, .ptr 0 0, .ptr 1 0, .slc 2 0 i, .snap (opsL ops) ops.length, .int .i64 ops.length, .int .i64 (i : Int)] [jKB, ⟨[.int .i64 3, .snap (opsL ops) ops.length, .snap (intL outs) 3], 53⟩, ⟨rgF 3 rs, 147⟩] []

theorem jRound3 (xs : List Nat) (ops : List TOp) (outs : List Int) (rs : List (Rg Nat)) (i : Nat) (hi : i < ops.length) (hm : ops.length < 1000) (hl : rs.length = i) (hw : Wide 3 rs) (ho : OpsOk xs.length ops) (w0 : World) :
    Goes CJ w0 73 jBody (jSt3 xs ops outs rs i) .normal (jSt3 xs ops outs (rs ++ [stepR kF 0 3 xs rs (ops.getD i op0)]) (i + 1)) := by
  have ew : IntKind.i64.wrap ((i : Int) + 1) = ((i + 1 : Nat) : Int) := by rw [wrapI (by omega) (by omega)]; rfl
  obtain ⟨g0, g1, g2, g3⟩ := opsL_at ops i hi
  have hop := ho i hi
  have hlen := opsL_length ops
  have hrl := rgF_length 3 rs
  refine goes_to (jI3 xs xs.length ops ops.length outs rs i (ops.getD i op0).k (ops.getD i op0).a (ops.getD i op0).b (ops.getD i op0).c w0 [] [] ?_) ?_
  · simp only [Bool.and_eq_true]
    and_intros
    all_goals first
      | rfl
      | exact trivial
      | exact rgF_noOwn _ _
      | exact pb_of ⟨rfl, rfl, rfl, rfl, rfl, 3, rs, xs.length, rfl, hl.symm, hw, by rw [hl]; exact hop, by omega, by omega⟩
      | exact pb_of ⟨rfl, rfl, rfl, rfl, 3, xs, rs, rfl, rfl, rfl, hl.symm, hw, by rw [hl]; exact hop⟩
      | (rw [Nat.ble_eq]; simp only [Int.toNat_natCast]; omega)
      | (simp only [etasOk, g0, g1, g2, g3]; rfl)
      | (apply pb_of; rw [g0, g1, g2, g3]; rfl)
      | (simp; omega)
      | (apply pb_of
         rw [unF_flt, unRg_rg, rgF_append]
         exact SubP.append (SubP.same (rgF_noOwn _ _)) (SubP.cons (.inl ⟨rfl, rfl⟩) (SubP.cons (.inr rfl) SubP.nil)))
  · unfold jSt3
    rw [← ew]
    rfl

theorem con_jrun3 (xs : List Nat) (ops : List TOp) (outs : List Int) (hm : ops.length < 1000) (ho : OpsOk xs.length ops) (hout : OutsOk 3 ops.length outs) (n : Nat) :
    Con prog 107 [jKinds, .agg [.int .i64 3, .snap (opsL ops) ops.length, .snap (intL outs) 3], .snap (fltL xs) xs.length] n (.slc n 0 3) [⟨[.slc (n + 1) 0 3, .slc (n + 2) 0 3, .slc (n + 3) 0 3], 34⟩, ⟨jRow 3 (jacD kF 0 3 xs ops outs 0), 24⟩, ⟨jRow 3 (jacD kF 0 3 xs ops outs 1), 24⟩, ⟨jRow 3 (jacD kF 0 3 xs ops outs 2), 24⟩] := by
  have hrl : (runR kF 0 3 xs ops ops.length).length = ops.length := runR_length _ _ _ _ _ _
  have hwr : Wide 3 (runR kF 0 3 xs ops ops.length) := runR_d _ _ _ _ _ _
  refine con_goesKC (es := esJ) (d := 8) (deep := shallow [154, 155]) 73 (by kernel_rfl) (dec := []) (e := .ret) (s := mk [6] [.slc 0 0 3] [⟨[.slc 1 0 3, .slc 2 0 3, .slc 3 0 3], 34⟩, ⟨jRow 3 (jacD kF 0 3 xs ops outs 0), 24⟩, ⟨jRow 3 (jacD kF 0 3 xs ops outs 1), 24⟩, ⟨jRow 3 (jacD kF 0 3 xs ops outs 2), 24⟩] []) [] (r := ⟨_, _, true⟩) (by kernel_rfl) rfl (.inl rfl) fun w0 => ?_
  refine goes_seq (by kernel_rfl) (jA3 xs xs.length ops ops.length outs w0 []) (goes_seq (by kernel_rfl) (jB3 xs xs.length ops ops.length outs w0 [] []) (goes_seq (by kernel_rfl) (goes_seq (by kernel_rfl) (jD3 xs xs.length ops ops.length outs w0 [] []) ?_) (goes_to (jE3 xs xs.length ops ops.length outs (runR kF 0 3 xs ops ops.length) ops.length w0 [] [] ?_) ?_)))
  · refine goes_block (id := 0) (by kernel_rfl) (goes_nils (dec' := []) 3 147 rfl (goes_loop (by kernel_rfl) (fun h => by cases h) ops.length (fun i => jSt3 xs ops outs (runR kF 0 3 xs ops i) i) (s2 := _) ?_ ?_))
    · intro i hi
      exact jRound3 xs ops outs (runR kF 0 3 xs ops i) i hi hm (runR_length _ _ _ _ _ _) (runR_d _ _ _ _ _ _) ho w0
    · exact jX3 xs xs.length ops ops.length outs (runR kF 0 3 xs ops ops.length) ops.length w0 [] [] (by
        simp only [Bool.and_eq_true]
        and_intros
        all_goals first
          | rfl
          | exact trivial
          | exact rgF_noOwn _ _
          | simp)
  · have h0 := hout.2 0 (by omega)
    have o0 := intL_get (xs := outs) (i := 0) (by rw [hout.1]; omega)
    have r0 := (rgF_at 3 (runR kF 0 3 xs ops ops.length) (outs.getD 0 0) h0.1 (by rw [hrl]; exact h0.2)).2
    have d0 := jacD_length kF 0 (xs := xs) hout (j := 0) (by omega)
    have e0 : fltL (rAt 0 (runR kF 0 3 xs ops ops.length) (outs.getD 0 0)).d = jRow 3 (jacD kF 0 3 xs ops outs 0) := fltL_row d0
    have t0 : List.take 3 (jRow 3 (jacD kF 0 3 xs ops outs 0)) = jRow 3 (jacD kF 0 3 xs ops outs 0) := rfl
    have h1 := hout.2 1 (by omega)
    have o1 := intL_get (xs := outs) (i := 1) (by rw [hout.1]; omega)
    have r1 := (rgF_at 3 (runR kF 0 3 xs ops ops.length) (outs.getD 1 0) h1.1 (by rw [hrl]; exact h1.2)).2
    have d1 := jacD_length kF 0 (xs := xs) hout (j := 1) (by omega)
    have e1 : fltL (rAt 0 (runR kF 0 3 xs ops ops.length) (outs.getD 1 0)).d = jRow 3 (jacD kF 0 3 xs ops outs 1) := fltL_row d1
    have t1 : List.take 3 (jRow 3 (jacD kF 0 3 xs ops outs 1)) = jRow 3 (jacD kF 0 3 xs ops outs 1) := rfl
    have h2 := hout.2 2 (by omega)
    have o2 := intL_get (xs := outs) (i := 2) (by rw [hout.1]; omega)
    have r2 := (rgF_at 3 (runR kF 0 3 xs ops ops.length) (outs.getD 2 0) h2.1 (by rw [hrl]; exact h2.2)).2
    have d2 := jacD_length kF 0 (xs := xs) hout (j := 2) (by omega)
    have e2 : fltL (rAt 0 (runR kF 0 3 xs ops ops.length) (outs.getD 2 0)).d = jRow 3 (jacD kF 0 3 xs ops outs 2) := fltL_row d2
    have t2 : List.take 3 (jRow 3 (jacD kF 0 3 xs ops outs 2)) = jRow 3 (jacD kF 0 3 xs ops outs 2) := rfl
    simp only [o0, r0, e0, o1, r1, e1, o2, r2, e2, AV.toInt, AV.sLen, AV.sCells, AV.isSn, Nat.mul_one, List.take_of_length_le (Nat.le_refl _), t0, t1, t2]
    simp only [Bool.and_eq_true]
    and_intros
    all_goals first
      | rfl
      | exact trivial
      | exact fltL_noOwn _
      | (rw [Nat.blt_eq]; simp only [rgF_length, intL_length, hrl, hout.1]; omega)
      | (rw [Nat.ble_eq]; rw [fltL_length]; omega)
      | (simp only [decide_eq_true_eq]; omega)
      | (simp; omega)
  · have h0 := hout.2 0 (by omega)
    have o0 := intL_get (xs := outs) (i := 0) (by rw [hout.1]; omega)
    have r0 := (rgF_at 3 (runR kF 0 3 xs ops ops.length) (outs.getD 0 0) h0.1 (by rw [hrl]; exact h0.2)).2
    have d0 := jacD_length kF 0 (xs := xs) hout (j := 0) (by omega)
    have e0 : fltL (rAt 0 (runR kF 0 3 xs ops ops.length) (outs.getD 0 0)).d = jRow 3 (jacD kF 0 3 xs ops outs 0) := fltL_row d0
    have t0 : List.take 3 (jRow 3 (jacD kF 0 3 xs ops outs 0)) = jRow 3 (jacD kF 0 3 xs ops outs 0) := rfl
    have h1 := hout.2 1 (by omega)
    have o1 := intL_get (xs := outs) (i := 1) (by rw [hout.1]; omega)
    have r1 := (rgF_at 3 (runR kF 0 3 xs ops ops.length) (outs.getD 1 0) h1.1 (by rw [hrl]; exact h1.2)).2
    have d1 := jacD_length kF 0 (xs := xs) hout (j := 1) (by omega)
    have e1 : fltL (rAt 0 (runR kF 0 3 xs ops ops.length) (outs.getD 1 0)).d = jRow 3 (jacD kF 0 3 xs ops outs 1) := fltL_row d1
    have t1 : List.take 3 (jRow 3 (jacD kF 0 3 xs ops outs 1)) = jRow 3 (jacD kF 0 3 xs ops outs 1) := rfl
    have h2 := hout.2 2 (by omega)
    have o2 := intL_get (xs := outs) (i := 2) (by rw [hout.1]; omega)
    have r2 := (rgF_at 3 (runR kF 0 3 xs ops ops.length) (outs.getD 2 0) h2.1 (by rw [hrl]; exact h2.2)).2
    have d2 := jacD_length kF 0 (xs := xs) hout (j := 2) (by omega)
    have e2 : fltL (rAt 0 (runR kF 0 3 xs ops ops.length) (outs.getD 2 0)).d = jRow 3 (jacD kF 0 3 xs ops outs 2) := fltL_row d2
    have t2 : List.take 3 (jRow 3 (jacD kF 0 3 xs ops outs 2)) = jRow 3 (jacD kF 0 3 xs ops outs 2) := rfl
    simp only [o0, r0, e0, o1, r1, e1, o2, r2, e2, AV.toInt, AV.sLen, AV.sCells, Nat.mul_one, t0, t1, t2]
end Try
end Go.Eng
/- Fields, from-tos, part 4: how a field of from-tos changes: contract (jac.kind.run). Condition: the field may be. Written by wip/tools/genU6.py. -/
namespace Go.Eng
open Go Go.RowKit

def ivRow (N : Nat) (d : List (Nat × Nat)) : List AV := ((List.range N).map fun i => [AV.flt (d.getD i z2).1, AV.flt (d.getD i z2).2]).flatten
theorem ivL_flat (d : List (Nat × Nat)) : ivL d = (d.map fun x => [AV.flt x.1, AV.flt x.2]).flatten := by
  induction d with
  | nil => rfl
  | cons x xs ih => simp [ivL, ih]
theorem ivL_row {N : Nat} {d : List (Nat × Nat)} (h : d.length = N) : ivL d = ivRow N d := by
  subst h
  rw [ivL_flat]
  unfold ivRow
  congr 1
  apply List.ext_getElem?
  intro i
  by_cases hi : i < d.length
  · simp [List.getElem?_eq_getElem hi, hi]
  · rw [List.getElem?_eq_none (by simpa using hi), List.getElem?_eq_none (by simpa using hi)]

namespace Try
open Go.Proofs.Try

def vSt1 (xs : List (Nat × Nat)) (ops : List TOp) (outs : List Int) (rs : List (Rg (Nat × Nat))) (i : Nat) : St :=
  mk [2,3,4,7,16,17,18] [.snap (ivL xs) xs.length, .ptr 0 0, .ptr 1 0, .slc 2 0 i, .snap (opsL ops) ops.length, .int .i64 ops.length, .int .i64 (i : Int)] [vKB, ⟨[.int .i64 1, .snap (opsL ops) ops.length, .snap (intL outs) 1], 53⟩, ⟨rgI 1 rs, 152⟩] []

theorem vRound1 (xs : List (Nat × Nat)) (ops : List TOp) (outs : List Int) (rs : List (Rg (Nat × Nat))) (i : Nat) (hi : i < ops.length) (hm : ops.length < 1000) (hl : rs.length = i) (hw : Wide 1 rs) (ho : OpsOk xs.length ops) (w0 : World) :
    Goes CV w0 73 vBody (vSt1 xs ops outs rs i) .normal (vSt1 xs ops outs (rs ++ [stepR kI z2 1 xs rs (ops.getD i op0)]) (i + 1)) := by
  have ew : IntKind.i64.wrap ((i : Int) + 1) = ((i + 1 : Nat) : Int) := by rw [wrapI (by omega) (by omega)]; rfl
  obtain ⟨g0, g1, g2, g3⟩ := opsL_at ops i hi
  have hop := ho i hi
  have hlen := opsL_length ops
  have hrl := rgI_length 1 rs
  refine goes_to (vI1 xs xs.length ops ops.length outs rs i (ops.getD i op0).k (ops.getD i op0).a (ops.getD i op0).b (ops.getD i op0).c w0 [] [] ?_) ?_
  · simp only [Bool.and_eq_true]
    and_intros
    all_goals first
      | rfl
      | exact trivial
      | exact rgI_noOwn _ _
      | exact pb_of ⟨rfl, rfl, rfl, rfl, rfl, 1, rs, xs.length, rfl, hl.symm, hw, by rw [hl]; exact hop, by omega, by omega⟩
      | exact pb_of ⟨rfl, rfl, rfl, rfl, 1, xs, rs, rfl, rfl, rfl, hl.symm, hw, by rw [hl]; exact hop⟩
      | (rw [Nat.ble_eq]; simp only [Int.toNat_natCast]; omega)
      | (simp only [etasOk, g0, g1, g2, g3]; rfl)
      | (apply pb_of; rw [g0, g1, g2, g3]; rfl)
      | (simp; omega)
      | (apply pb_of
         rw [unI_iv, unRgI_rg, rgI_append]
         exact SubP.append (SubP.same (rgI_noOwn _ _)) (SubP.cons (.inl ⟨rfl, rfl⟩) (SubP.cons (.inl ⟨rfl, rfl⟩) (SubP.cons (.inr rfl) SubP.nil))))
  · unfold vSt1
    rw [← ew]
    rfl

theorem con_vrun1 (xs : List (Nat × Nat)) (ops : List TOp) (outs : List Int) (hm : ops.length < 1000) (ho : OpsOk xs.length ops) (hout : OutsOk 1 ops.length outs) (n : Nat) :
    Con prog 109 [vKinds, .agg [.int .i64 1, .snap (opsL ops) ops.length, .snap (intL outs) 1], .snap (ivL xs) xs.length] n (.slc n 0 1) [⟨[.slc (n + 1) 0 1], 71⟩, ⟨ivRow 1 (jacD kI z2 1 xs ops outs 0), 26⟩] := by
  have hrl : (runR kI z2 1 xs ops ops.length).length = ops.length := runR_length _ _ _ _ _ _
  have hwr : Wide 1 (runR kI z2 1 xs ops ops.length) := runR_d _ _ _ _ _ _
  refine con_goesKC (es := esV) (d := 8) (deep := shallow [157, 158]) 73 (by kernel_rfl) (dec := []) (e := .ret) (s := mk [6] [.slc 0 0 1] [⟨[.slc 1 0 1], 71⟩, ⟨ivRow 1 (jacD kI z2 1 xs ops outs 0), 26⟩] []) [] (r := ⟨_, _, true⟩) (by kernel_rfl) rfl (.inl rfl) fun w0 => ?_
  refine goes_seq (by kernel_rfl) (vA1 xs xs.length ops ops.length outs w0 []) (goes_seq (by kernel_rfl) (vB1 xs xs.length ops ops.length outs w0 [] []) (goes_seq (by kernel_rfl) (goes_seq (by kernel_rfl) (vD1 xs xs.length ops ops.length outs w0 [] []) ?_) (goes_to (vE1 xs xs.length ops ops.length outs (runR kI z2 1 xs ops ops.length) ops.length w0 [] [] ?_) ?_)))
  · refine goes_block (id := 0) (by kernel_rfl) (goes_nils (dec' := []) 3 152 rfl (goes_loop (by kernel_rfl) (fun h => by cases h) ops.length (fun i => vSt1 xs ops outs (runR kI z2 1 xs ops i) i) (s2 := _) ?_ ?_))
    · intro i hi
      exact vRound1 xs ops outs (runR kI z2 1 xs ops i) i hi hm (runR_length _ _ _ _ _ _) (runR_d _ _ _ _ _ _) ho w0
    · exact vX1 xs xs.length ops ops.length outs (runR kI z2 1 xs ops ops.length) ops.length w0 [] [] (by
        simp only [Bool.and_eq_true]
        and_intros
        all_goals first
          | rfl
          | exact trivial
          | exact rgI_noOwn _ _
          | simp)
  · have h0 := hout.2 0 (by omega)
    have o0 := intL_get (xs := outs) (i := 0) (by rw [hout.1]; omega)
    have r0 : (rgI 1 (runR kI z2 1 xs ops ops.length)).getD ((outs.getD 0 0).toNat * 3 + 1 + 1) .undef = _ := (rgI_at 1 (runR kI z2 1 xs ops ops.length) (outs.getD 0 0) h0.1 (by rw [hrl]; exact h0.2)).2.2
    have d0 := jacD_length kI z2 (xs := xs) hout (j := 0) (by omega)
    have e0 : ivL (rAt z2 (runR kI z2 1 xs ops ops.length) (outs.getD 0 0)).d = ivRow 1 (jacD kI z2 1 xs ops outs 0) := ivL_row d0
    have t0 : List.take 2 (ivRow 1 (jacD kI z2 1 xs ops outs 0)) = ivRow 1 (jacD kI z2 1 xs ops outs 0) := rfl
    have a0 : (ivRow 1 (jacD kI z2 1 xs ops outs 0)).all AV.noOwn = true := rfl
    have l0 : (ivRow 1 (jacD kI z2 1 xs ops outs 0)).length = 2 := rfl
    simp only [o0, r0, e0, AV.toInt, AV.sLen, AV.sCells, AV.isSn, Nat.mul_one, Nat.reduceMul, t0, a0, l0]
    simp only [Bool.and_eq_true]
    and_intros
    all_goals first
      | rfl
      | exact trivial
      | exact ivL_noOwn _
      | (rw [Nat.blt_eq]; simp only [rgI_length, intL_length, hrl, hout.1]; omega)
      | (rw [Nat.ble_eq]; rw [ivL_length]; omega)
      | (simp only [decide_eq_true_eq]; omega)
      | (simp; omega)
  · have h0 := hout.2 0 (by omega)
    have o0 := intL_get (xs := outs) (i := 0) (by rw [hout.1]; omega)
    have r0 : (rgI 1 (runR kI z2 1 xs ops ops.length)).getD ((outs.getD 0 0).toNat * 3 + 1 + 1) .undef = _ := (rgI_at 1 (runR kI z2 1 xs ops ops.length) (outs.getD 0 0) h0.1 (by rw [hrl]; exact h0.2)).2.2
    have d0 := jacD_length kI z2 (xs := xs) hout (j := 0) (by omega)
    have e0 : ivL (rAt z2 (runR kI z2 1 xs ops ops.length) (outs.getD 0 0)).d = ivRow 1 (jacD kI z2 1 xs ops outs 0) := ivL_row d0
    have t0 : List.take 2 (ivRow 1 (jacD kI z2 1 xs ops outs 0)) = ivRow 1 (jacD kI z2 1 xs ops outs 0) := rfl
    have a0 : (ivRow 1 (jacD kI z2 1 xs ops outs 0)).all AV.noOwn = true := rfl
    have l0 : (ivRow 1 (jacD kI z2 1 xs ops outs 0)).length = 2 := rfl
    simp only [o0, r0, e0, AV.toInt, AV.sLen, AV.sCells, Nat.mul_one, Nat.reduceMul, t0]

def vSt2 (xs : List (Nat × Nat)) (ops : List TOp) (outs : List Int) (rs : List (Rg (Nat × Nat))) (i : Nat) : St :=
  mk [2,3,4,7,16,17,18] [.snap (ivL xs) xs.length, .ptr 0 0, .ptr 1 0, .slc 2 0 i, .snap (opsL ops) ops.length, .int .i64 ops.length, .int .i64 (i : Int)] [vKB, ⟨[.int .i64 2, .snap (opsL ops) ops.length, .snap (intL outs) 2], 53⟩, ⟨rgI 2 rs, 152⟩] []

theorem vRound2 (xs : List (Nat × Nat)) (ops : List TOp) (outs : List Int) (rs : List (Rg (Nat × Nat))) (i : Nat) (hi : i < ops.length) (hm : ops.length < 1000) (hl : rs.length = i) (hw : Wide 2 rs) (ho : OpsOk xs.length ops) (w0 : World) :
    Goes CV w0 73 vBody (vSt2 xs ops outs rs i) .normal (vSt2 xs ops outs (rs ++ [stepR kI z2 2 xs rs (ops.getD i op0)]) (i + 1)) := by
  have ew : IntKind.i64.wrap ((i : Int) + 1) = ((i + 1 : Nat) : Int) := by rw [wrapI (by omega) (by omega)]; rfl
  obtain ⟨g0, g1, g2, g3⟩ := opsL_at ops i hi
  have hop := ho i hi
  have hlen := opsL_length ops
  have hrl := rgI_length 2 rs
  refine goes_to (vI2 xs xs.length ops ops.length outs rs i (ops.getD i op0).k (ops.getD i op0).a (ops.getD i op0).b (ops.getD i op0).c w0 [] [] ?_) ?_
  · simp only [Bool.and_eq_true]
    and_intros
    all_goals first
      | rfl
      | exact trivial
      | exact rgI_noOwn _ _
      | exact pb_of ⟨rfl, rfl, rfl, rfl, rfl, 2, rs, xs.length, rfl, hl.symm, hw, by rw [hl]; exact hop, by omega, by omega⟩
      | exact pb_of ⟨rfl, rfl, rfl, rfl, 2, xs, rs, rfl, rfl, rfl, hl.symm, hw, by rw [hl]; exact hop⟩
      | (rw [Nat.ble_eq]; simp only [Int.toNat_natCast]; omega)
      | (simp only [etasOk, g0, g1, g2, g3]; rfl)
      | (apply pb_of; rw [g0, g1, g2, g3]; rfl)
      | (simp; omega)
      | (apply pb_of
         rw [unI_iv, unRgI_rg, rgI_append]
         exact SubP.append (SubP.same (rgI_noOwn _ _)) (SubP.cons (.inl ⟨rfl, rfl⟩) (SubP.cons (.inl ⟨rfl, rfl⟩) (SubP.cons (.inr rfl) SubP.nil))))
  · unfold vSt2
    rw [← ew]
    rfl

theorem con_vrun2 (xs : List (Nat × Nat)) (ops : List TOp) (outs : List Int) (hm : ops.length < 1000) (ho : OpsOk xs.length ops) (hout : OutsOk 2 ops.length outs) (n : Nat) :
    Con prog 109 [vKinds, .agg [.int .i64 2, .snap (opsL ops) ops.length, .snap (intL outs) 2], .snap (ivL xs) xs.length] n (.slc n 0 2) [⟨[.slc (n + 1) 0 2, .slc (n + 2) 0 2], 71⟩, ⟨ivRow 2 (jacD kI z2 2 xs ops outs 0), 26⟩, ⟨ivRow 2 (jacD kI z2 2 xs ops outs 1), 26⟩] := by
  have hrl : (runR kI z2 2 xs ops ops.length).length = ops.length := runR_length _ _ _ _ _ _
  have hwr : Wide 2 (runR kI z2 2 xs ops ops.length) := runR_d _ _ _ _ _ _
  refine con_goesKC (es := esV) (d := 8) (deep := shallow [157, 158]) 73 (by kernel_rfl) (dec := []) (e := .ret) (s := mk [6] [.slc 0 0 2] [⟨[.slc 1 0 2, .slc 2 0 2], 71⟩, ⟨ivRow 2 (jacD kI z2 2 xs ops outs 0), 26⟩, ⟨ivRow 2 (jacD kI z2 2 xs ops outs 1), 26⟩] []) [] (r := ⟨_, _, true⟩) (by kernel_rfl) rfl (.inl rfl) fun w0 => ?_
  refine goes_seq (by kernel_rfl) (vA2 xs xs.length ops ops.length outs w0 []) (goes_seq (by kernel_rfl) (vB2 xs xs.length ops ops.length outs w0 [] []) (goes_seq (by kernel_rfl) (goes_seq (by kernel_rfl) (vD2 xs xs.length ops ops.length outs w0 [] []) ?_) (goes_to (vE2 xs xs.length ops ops.length outs (runR kI z2 2 xs ops ops.length) ops.length w0 [] [] ?_) ?_)))
  · refine goes_block (id := 0) (by kernel_rfl) (goes_nils (dec' := []) 3 152 rfl (goes_loop (by kernel_rfl) (fun h => by cases h) ops.length (fun i => vSt2 xs ops outs (runR kI z2 2 xs ops i) i) (s2 := _) ?_ ?_))
    · intro i hi
      exact vRound2 xs ops outs (runR kI z2 2 xs ops i) i hi hm (runR_length _ _ _ _ _ _) (runR_d _ _ _ _ _ _) ho w0
    · exact vX2 xs xs.length ops ops.length outs (runR kI z2 2 xs ops ops.length) ops.length w0 [] [] (by
        simp only [Bool.and_eq_true]
        and_intros
        all_goals first
          | rfl
          | exact trivial
          | exact rgI_noOwn _ _
          | simp)
  · have h0 := hout.2 0 (by omega)
    have o0 := intL_get (xs := outs) (i := 0) (by rw [hout.1]; omega)
    have r0 : (rgI 2 (runR kI z2 2 xs ops ops.length)).getD ((outs.getD 0 0).toNat * 3 + 1 + 1) .undef = _ := (rgI_at 2 (runR kI z2 2 xs ops ops.length) (outs.getD 0 0) h0.1 (by rw [hrl]; exact h0.2)).2.2
    have d0 := jacD_length kI z2 (xs := xs) hout (j := 0) (by omega)
    have e0 : ivL (rAt z2 (runR kI z2 2 xs ops ops.length) (outs.getD 0 0)).d = ivRow 2 (jacD kI z2 2 xs ops outs 0) := ivL_row d0
    have t0 : List.take 4 (ivRow 2 (jacD kI z2 2 xs ops outs 0)) = ivRow 2 (jacD kI z2 2 xs ops outs 0) := rfl
    have a0 : (ivRow 2 (jacD kI z2 2 xs ops outs 0)).all AV.noOwn = true := rfl
    have l0 : (ivRow 2 (jacD kI z2 2 xs ops outs 0)).length = 4 := rfl
    have h1 := hout.2 1 (by omega)
    have o1 := intL_get (xs := outs) (i := 1) (by rw [hout.1]; omega)
    have r1 : (rgI 2 (runR kI z2 2 xs ops ops.length)).getD ((outs.getD 1 0).toNat * 3 + 1 + 1) .undef = _ := (rgI_at 2 (runR kI z2 2 xs ops ops.length) (outs.getD 1 0) h1.1 (by rw [hrl]; exact h1.2)).2.2
    have d1 := jacD_length kI z2 (xs := xs) hout (j := 1) (by omega)
    have e1 : ivL (rAt z2 (runR kI z2 2 xs ops ops.length) (outs.getD 1 0)).d = ivRow 2 (jacD kI z2 2 xs ops outs 1) := ivL_row d1
    have t1 : List.take 4 (ivRow 2 (jacD kI z2 2 xs ops outs 1)) = ivRow 2 (jacD kI z2 2 xs ops outs 1) := rfl
    have a1 : (ivRow 2 (jacD kI z2 2 xs ops outs 1)).all AV.noOwn = true := rfl
    have l1 : (ivRow 2 (jacD kI z2 2 xs ops outs 1)).length = 4 := rfl
    simp only [o0, r0, e0, o1, r1, e1, AV.toInt, AV.sLen, AV.sCells, AV.isSn, Nat.mul_one, Nat.reduceMul, t0, t1, a0, l0, a1, l1]
    simp only [Bool.and_eq_true]
    and_intros
    all_goals first
      | rfl
      | exact trivial
      | exact ivL_noOwn _
      | (rw [Nat.blt_eq]; simp only [rgI_length, intL_length, hrl, hout.1]; omega)
      | (rw [Nat.ble_eq]; rw [ivL_length]; omega)
      | (simp only [decide_eq_true_eq]; omega)
      | (simp; omega)
  · have h0 := hout.2 0 (by omega)
    have o0 := intL_get (xs := outs) (i := 0) (by rw [hout.1]; omega)
    have r0 : (rgI 2 (runR kI z2 2 xs ops ops.length)).getD ((outs.getD 0 0).toNat * 3 + 1 + 1) .undef = _ := (rgI_at 2 (runR kI z2 2 xs ops ops.length) (outs.getD 0 0) h0.1 (by rw [hrl]; exact h0.2)).2.2
    have d0 := jacD_length kI z2 (xs := xs) hout (j := 0) (by omega)
    have e0 : ivL (rAt z2 (runR kI z2 2 xs ops ops.length) (outs.getD 0 0)).d = ivRow 2 (jacD kI z2 2 xs ops outs 0) := ivL_row d0
    have t0 : List.take 4 (ivRow 2 (jacD kI z2 2 xs ops outs 0)) = ivRow 2 (jacD kI z2 2 xs ops outs 0) := rfl
    have a0 : (ivRow 2 (jacD kI z2 2 xs ops outs 0)).all AV.noOwn = true := rfl
    have l0 : (ivRow 2 (jacD kI z2 2 xs ops outs 0)).length = 4 := rfl
    have h1 := hout.2 1 (by omega)
    have o1 := intL_get (xs := outs) (i := 1) (by rw [hout.1]; omega)
    have r1 : (rgI 2 (runR kI z2 2 xs ops ops.length)).getD ((outs.getD 1 0).toNat * 3 + 1 + 1) .undef = _ := (rgI_at 2 (runR kI z2 2 xs ops ops.length) (outs.getD 1 0) h1.1 (by rw [hrl]; exact h1.2)).2.2
    have d1 := jacD_length kI z2 (xs := xs) hout (j := 1) (by omega)
    have e1 : ivL (rAt z2 (runR kI z2 2 xs ops ops.length) (outs.getD 1 0)).d = ivRow 2 (jacD kI z2 2 xs ops outs 1) := ivL_row d1
    have t1 : List.take 4 (ivRow 2 (jacD kI z2 2 xs ops outs 1)) = ivRow 2 (jacD kI z2 2 xs ops outs 1) := rfl
    have a1 : (ivRow 2 (jacD kI z2 2 xs ops outs 1)).all AV.noOwn = true := rfl
    have l1 : (ivRow 2 (jacD kI z2 2 xs ops outs 1)).length = 4 := rfl
    simp only [o0, r0, e0, o1, r1, e1, AV.toInt, AV.sLen, AV.sCells, Nat.mul_one, Nat.reduceMul, t0, t1]

def vSt3 (xs : List (Nat × Nat)) (ops : List TOp) (outs : List Int) (rs : List (Rg (Nat × Nat))) (i : Nat) : St :=
  mk [2,3,4,7,16,17,18] [.snap (ivL xs) xs.length, .ptr 0 0, .ptr 1 0, .slc 2 0 i, .snap (opsL ops) ops.length, .int .i64 ops.length, .int .i64 (i : Int)] [vKB, ⟨[.int .i64 3, .snap (opsL ops) ops.length, .snap (intL outs) 3], 53⟩, ⟨rgI 3 rs, 152⟩] []

theorem vRound3 (xs : List (Nat × Nat)) (ops : List TOp) (outs : List Int) (rs : List (Rg (Nat × Nat))) (i : Nat) (hi : i < ops.length) (hm : ops.length < 1000) (hl : rs.length = i) (hw : Wide 3 rs) (ho : OpsOk xs.length ops) (w0 : World) :
    Goes CV w0 73 vBody (vSt3 xs ops outs rs i) .normal (vSt3 xs ops outs (rs ++ [stepR kI z2 3 xs rs (ops.getD i op0)]) (i + 1)) := by
  have ew : IntKind.i64.wrap ((i : Int) + 1) = ((i + 1 : Nat) : Int) := by rw [wrapI (by omega) (by omega)]; rfl
  obtain ⟨g0, g1, g2, g3⟩ := opsL_at ops i hi
  have hop := ho i hi
  have hlen := opsL_length ops
  have hrl := rgI_length 3 rs
  refine goes_to (vI3 xs xs.length ops ops.length outs rs i (ops.getD i op0).k (ops.getD i op0).a (ops.getD i op0).b (ops.getD i op0).c w0 [] [] ?_) ?_
  · simp only [Bool.and_eq_true]
    and_intros
    all_goals first
      | rfl
      | exact trivial
      | exact rgI_noOwn _ _
      | exact pb_of ⟨rfl, rfl, rfl, rfl, rfl, 3, rs, xs.length, rfl, hl.symm, hw, by rw [hl]; exact hop, by omega, by omega⟩
      | exact pb_of ⟨rfl, rfl, rfl, rfl, 3, xs, rs, rfl, rfl, rfl, hl.symm, hw, by rw [hl]; exact hop⟩
      | (rw [Nat.ble_eq]; simp only [Int.toNat_natCast]; omega)
      | (simp only [etasOk, g0, g1, g2, g3]; rfl)
      | (apply pb_of; rw [g0, g1, g2, g3]; rfl)
      | (simp; omega)
      | (apply pb_of
         rw [unI_iv, unRgI_rg, rgI_append]
         exact SubP.append (SubP.same (rgI_noOwn _ _)) (SubP.cons (.inl ⟨rfl, rfl⟩) (SubP.cons (.inl ⟨rfl, rfl⟩) (SubP.cons (.inr rfl) SubP.nil))))
  · unfold vSt3
    rw [← ew]
    rfl

theorem con_vrun3 (xs : List (Nat × Nat)) (ops : List TOp) (outs : List Int) (hm : ops.length < 1000) (ho : OpsOk xs.length ops) (hout : OutsOk 3 ops.length outs) (n : Nat) :
    Con prog 109 [vKinds, .agg [.int .i64 3, .snap (opsL ops) ops.length, .snap (intL outs) 3], .snap (ivL xs) xs.length] n (.slc n 0 3) [⟨[.slc (n + 1) 0 3, .slc (n + 2) 0 3, .slc (n + 3) 0 3], 71⟩, ⟨ivRow 3 (jacD kI z2 3 xs ops outs 0), 26⟩, ⟨ivRow 3 (jacD kI z2 3 xs ops outs 1), 26⟩, ⟨ivRow 3 (jacD kI z2 3 xs ops outs 2), 26⟩] := by
  have hrl : (runR kI z2 3 xs ops ops.length).length = ops.length := runR_length _ _ _ _ _ _
  have hwr : Wide 3 (runR kI z2 3 xs ops ops.length) := runR_d _ _ _ _ _ _
  refine con_goesKC (es := esV) (d := 8) (deep := shallow [157, 158]) 73 (by kernel_rfl) (dec := []) (e := .ret) (s := mk [6] [.slc 0 0 3] [⟨[.slc 1 0 3, .slc 2 0 3, .slc 3 0 3], 71⟩, ⟨ivRow 3 (jacD kI z2 3 xs ops outs 0), 26⟩, ⟨ivRow 3 (jacD kI z2 3 xs ops outs 1), 26⟩, ⟨ivRow 3 (jacD kI z2 3 xs ops outs 2), 26⟩] []) [] (r := ⟨_, _, true⟩) (by kernel_rfl) rfl (.inl rfl) fun w0 => ?_
  refine goes_seq (by kernel_rfl) (vA3 xs xs.length ops ops.length outs w0 []) (goes_seq (by kernel_rfl) (vB3 xs xs.length ops ops.length outs w0 [] []) (goes_seq (by kernel_rfl) (goes_seq (by kernel_rfl) (vD3 xs xs.length ops ops.length outs w0 [] []) ?_) (goes_to (vE3 xs xs.length ops ops.length outs (runR kI z2 3 xs ops ops.length) ops.length w0 [] [] ?_) ?_)))
  · refine goes_block (id := 0) (by kernel_rfl) (goes_nils (dec' := []) 3 152 rfl (goes_loop (by kernel_rfl) (fun h => by cases h) ops.length (fun i => vSt3 xs ops outs (runR kI z2 3 xs ops i) i) (s2 := _) ?_ ?_))
    · intro i hi
      exact vRound3 xs ops outs (runR kI z2 3 xs ops i) i hi hm (runR_length _ _ _ _ _ _) (runR_d _ _ _ _ _ _) ho w0
    · exact vX3 xs xs.length ops ops.length outs (runR kI z2 3 xs ops ops.length) ops.length w0 [] [] (by
        simp only [Bool.and_eq_true]
        and_intros
        all_goals first
          | rfl
          | exact trivial
          | exact rgI_noOwn _ _
          | simp)
  · have h0 := hout.2 0 (by omega)
    have o0 := intL_get (xs := outs) (i := 0) (by rw [hout.1]; omega)
    have r0 : (rgI 3 (runR kI z2 3 xs ops ops.length)).getD ((outs.getD 0 0).toNat * 3 + 1 + 1) .undef = _ := (rgI_at 3 (runR kI z2 3 xs ops ops.length) (outs.getD 0 0) h0.1 (by rw [hrl]; exact h0.2)).2.2
    have d0 := jacD_length kI z2 (xs := xs) hout (j := 0) (by omega)
    have e0 : ivL (rAt z2 (runR kI z2 3 xs ops ops.length) (outs.getD 0 0)).d = ivRow 3 (jacD kI z2 3 xs ops outs 0) := ivL_row d0
    have t0 : List.take 6 (ivRow 3 (jacD kI z2 3 xs ops outs 0)) = ivRow 3 (jacD kI z2 3 xs ops outs 0) := rfl
    have a0 : (ivRow 3 (jacD kI z2 3 xs ops outs 0)).all AV.noOwn = true := rfl
    have l0 : (ivRow 3 (jacD kI z2 3 xs ops outs 0)).length = 6 := rfl
    have h1 := hout.2 1 (by omega)
    have o1 := intL_get (xs := outs) (i := 1) (by rw [hout.1]; omega)
    have r1 : (rgI 3 (runR kI z2 3 xs ops ops.length)).getD ((outs.getD 1 0).toNat * 3 + 1 + 1) .undef = _ := (rgI_at 3 (runR kI z2 3 xs ops ops.length) (outs.getD 1 0) h1.1 (by rw [hrl]; exact h1.2)).2.2
    have d1 := jacD_length kI z2 (xs := xs) hout (j := 1) (by omega)
    have e1 : ivL (rAt z2 (runR kI z2 3 xs ops ops.length) (outs.getD 1 0)).d = ivRow 3 (jacD kI z2 3 xs ops outs 1) := ivL_row d1
    have t1 : List.take 6 (ivRow 3 (jacD kI z2 3 xs ops outs 1)) = ivRow 3 (jacD kI z2 3 xs ops outs 1) := rfl
    have a1 : (ivRow 3 (jacD kI z2 3 xs ops outs 1)).all AV.noOwn = true := rfl
    have l1 : (ivRow 3 (jacD kI z2 3 xs ops outs 1)).length = 6 := rfl
    have h2 := hout.2 2 (by omega)
    have o2 := intL_get (xs := outs) (i := 2) (by rw [hout.1]; omega)
    have r2 : (rgI 3 (runR kI z2 3 xs ops ops.length)).getD ((outs.getD 2 0).toNat * 3 + 1 + 1) .undef = _ := (rgI_at 3 (runR kI z2 3 xs ops ops.length) (outs.getD 2 0) h2.1 (by rw [hrl]; exact h2.2)).2.2
    have d2 := jacD_length kI z2 (xs := xs) hout (j := 2) (by omega)
    have e2 : ivL (rAt z2 (runR kI z2 3 xs ops ops.length) (outs.getD 2 0)).d = ivRow 3 (jacD kI z2 3 xs ops outs 2) := ivL_row d2
    have t2 : List.take 6 (ivRow 3 (jacD kI z2 3 xs ops outs 2)) = ivRow 3 (jacD kI z2 3 xs ops outs 2) := rfl
    have a2 : (ivRow 3 (jacD kI z2 3 xs ops outs 2)).all AV.noOwn = true := rfl
    have l2 : (ivRow 3 (jacD kI z2 3 xs ops outs 2)).length = 6 := rfl
    simp only [o0, r0, e0, o1, r1, e1, o2, r2, e2, AV.toInt, AV.sLen, AV.sCells, AV.isSn, Nat.mul_one, Nat.reduceMul, t0, t1, t2, a0, l0, a1, l1, a2, l2]
    simp only [Bool.and_eq_true]
    and_intros
    all_goals first
      | rfl
      | exact trivial
      | exact ivL_noOwn _
      | (rw [Nat.blt_eq]; simp only [rgI_length, intL_length, hrl, hout.1]; omega)
      | (rw [Nat.ble_eq]; rw [ivL_length]; omega)
      | (simp only [decide_eq_true_eq]; omega)
      | (simp; omega)
  · have h0 := hout.2 0 (by omega)
    have o0 := intL_get (xs := outs) (i := 0) (by rw [hout.1]; omega)
    have r0 : (rgI 3 (runR kI z2 3 xs ops ops.length)).getD ((outs.getD 0 0).toNat * 3 + 1 + 1) .undef = _ := (rgI_at 3 (runR kI z2 3 xs ops ops.length) (outs.getD 0 0) h0.1 (by rw [hrl]; exact h0.2)).2.2
    have d0 := jacD_length kI z2 (xs := xs) hout (j := 0) (by omega)
    have e0 : ivL (rAt z2 (runR kI z2 3 xs ops ops.length) (outs.getD 0 0)).d = ivRow 3 (jacD kI z2 3 xs ops outs 0) := ivL_row d0
    have t0 : List.take 6 (ivRow 3 (jacD kI z2 3 xs ops outs 0)) = ivRow 3 (jacD kI z2 3 xs ops outs 0) := rfl
    have a0 : (ivRow 3 (jacD kI z2 3 xs ops outs 0)).all AV.noOwn = true := rfl
    have l0 : (ivRow 3 (jacD kI z2 3 xs ops outs 0)).length = 6 := rfl
    have h1 := hout.2 1 (by omega)
    have o1 := intL_get (xs := outs) (i := 1) (by rw [hout.1]; omega)
    have r1 : (rgI 3 (runR kI z2 3 xs ops ops.length)).getD ((outs.getD 1 0).toNat * 3 + 1 + 1) .undef = _ := (rgI_at 3 (runR kI z2 3 xs ops ops.length) (outs.getD 1 0) h1.1 (by rw [hrl]; exact h1.2)).2.2
    have d1 := jacD_length kI z2 (xs := xs) hout (j := 1) (by omega)
    have e1 : ivL (rAt z2 (runR kI z2 3 xs ops ops.length) (outs.getD 1 0)).d = ivRow 3 (jacD kI z2 3 xs ops outs 1) := ivL_row d1
    have t1 : List.take 6 (ivRow 3 (jacD kI z2 3 xs ops outs 1)) = ivRow 3 (jacD kI z2 3 xs ops outs 1) := rfl
    have a1 : (ivRow 3 (jacD kI z2 3 xs ops outs 1)).all AV.noOwn = true := rfl
    have l1 : (ivRow 3 (jacD kI z2 3 xs ops outs 1)).length = 6 := rfl
    have h2 := hout.2 2 (by omega)
    have o2 := intL_get (xs := outs) (i := 2) (by rw [hout.1]; omega)
    have r2 : (rgI 3 (runR kI z2 3 xs ops ops.length)).getD ((outs.getD 2 0).toNat * 3 + 1 + 1) .undef = _ := (rgI_at 3 (runR kI z2 3 xs ops ops.length) (outs.getD 2 0) h2.1 (by rw [hrl]; exact h2.2)).2.2
    have d2 := jacD_length kI z2 (xs := xs) hout (j := 2) (by omega)
    have e2 : ivL (rAt z2 (runR kI z2 3 xs ops ops.length) (outs.getD 2 0)).d = ivRow 3 (jacD kI z2 3 xs ops outs 2) := ivL_row d2
    have t2 : List.take 6 (ivRow 3 (jacD kI z2 3 xs ops outs 2)) = ivRow 3 (jacD kI z2 3 xs ops outs 2) := rfl
    have a2 : (ivRow 3 (jacD kI z2 3 xs ops outs 2)).all AV.noOwn = true := rfl
    have l2 : (ivRow 3 (jacD kI z2 3 xs ops outs 2)).length = 6 := rfl
    simp only [o0, r0, e0, o1, r1, e1, o2, r2, e2, AV.toInt, AV.sLen, AV.sCells, Nat.mul_one, Nat.reduceMul, t0, t1, t2]
end Try
end Go.Eng

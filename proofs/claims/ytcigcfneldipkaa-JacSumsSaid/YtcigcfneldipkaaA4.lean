/- Part 4 of what the proof leans on: JacOwn, part 1; JacOwn, part 2; JacSums, part 1; JacSums, part 2. Conditions: as each theorem says. -/
import Derived.Test.YtcigcfneldipkaaA3
set_option linter.unusedVariables false
/- JacOwn, part 1: the law at each number of variables. Condition: as each piece says. Written by wip/tools/kg.py. -/
namespace Go.Eng.Try
open Go Go.Eng Go.RowKit Go.Proofs.Try
noncomputable def esO1 : List Entry := [eKnown4, eLmk1, eVals1, eJrun1, eEjac1, eSame] ++ es4
noncomputable abbrev CO1 : Ctx := ctxD prog esO1 8 (shallow [56, 107, 63])

theorem esO1_ok : ∀ e ∈ esO1, EntryOK prog e := by
  intro e he
  simp only [esO1, List.cons_append, List.nil_append, List.mem_cons] at he
  rcases he with rfl | rfl | rfl | rfl | rfl | rfl | he
  · exact eKnown4_ok
  · exact eLmk1_ok
  · exact eVals1_ok
  · exact eJrun1_ok
  · exact eEjac1_ok
  · exact eSame_ok
  · exact es4_ok e he
theorem OO1 : OrcOK CO1.P CO1.orc := ctxD_ok mixed esO1_ok 8 _

theorem jacOwn1 (n : Int) (ns : List AV) (ln : Nat) (ms : List AV) (lm : Nat) (bt : Int) (nb : Nat) (hok : ((decide (valV ms lm 0 = valV ms lm 0) && true && (decide (List.getD (jacD kF 0 1 [valV ms lm 0] (unOps (opsL (lmkOps n 1 true ns ln))) (unInt [AV.int IntKind.i64 (IntKind.wrap IntKind.i64 (IntKind.wrap IntKind.i64 ((↑(lmkM 1 ln) : Int) - (1 : Int)) - wi (IntKind.wrap IntKind.i64 (IntKind.wrap IntKind.i64 (Int.tdiv n (3 : Int)) + (0 : Int))) (min3 (lmkM 1 ln))))]) 0) 0 0 = List.getD (jacD kF 0 1 [valV ms lm 0] (unOps (opsL (lmkOps n 1 true ns ln))) (unInt [AV.int IntKind.i64 (IntKind.wrap IntKind.i64 (IntKind.wrap IntKind.i64 ((↑(lmkM 1 ln) : Int) - (1 : Int)) - wi (IntKind.wrap IntKind.i64 (IntKind.wrap IntKind.i64 (Int.tdiv n (3 : Int)) + (0 : Int))) (min3 (lmkM 1 ln))))]) 0) 0 0) && true && true && (List.all (opsL (lmkOps n 1 true ns ln)) AV.noOwn && true && true && pb (FldOk 1 IntKind.i64 1 (opsL (lmkOps n 1 true ns ln)) (lmkM 1 ln) [AV.int IntKind.i64 (IntKind.wrap IntKind.i64 (IntKind.wrap IntKind.i64 ((↑(lmkM 1 ln) : Int) - (1 : Int)) - wi (IntKind.wrap IntKind.i64 (IntKind.wrap IntKind.i64 (Int.tdiv n (3 : Int)) + (0 : Int))) (min3 (lmkM 1 ln))))] 1 ∧ XsOk 1 [AV.flt (valV ms lm 0)] 1) && (pb (IntKind.i64 = IntKind.i64 ∧ LmkOk ns ln ∧ wi n (3 : Int) + (1 : Int) = (1 : Int)) && (List.all (opsL (lmkOps n 1 true ns ln)) AV.noOwn && true && true && (pb (AV.agg [AV.fn 149 [] [], AV.fn 150 [] [], AV.fn 151 [] [], AV.fn 152 [] [], AV.fn 153 [] []] = AV.agg [AV.fn 149 [] [], AV.fn 150 [] [], AV.fn 151 [] [], AV.fn 152 [] [], AV.fn 153 [] []] ∧ FldOk 1 IntKind.i64 1 (opsL (lmkOps n 1 true ns ln)) (lmkM 1 ln) [AV.int IntKind.i64 (IntKind.wrap IntKind.i64 (IntKind.wrap IntKind.i64 ((↑(lmkM 1 ln) : Int) - (1 : Int)) - wi (IntKind.wrap IntKind.i64 (IntKind.wrap IntKind.i64 (Int.tdiv n (3 : Int)) + (0 : Int))) (min3 (lmkM 1 ln))))] 1 ∧ XsOk 1 [AV.flt (valV ms lm 0)] 1) && true) && (List.all (opsL (lmkOps n 1 true ns ln)) AV.noOwn && true && true && (pb (AV.agg [AV.fn 149 [] [], AV.fn 150 [] [], AV.fn 151 [] [], AV.fn 152 [] [], AV.fn 153 [] []] = AV.agg [AV.fn 149 [] [], AV.fn 150 [] [], AV.fn 151 [] [], AV.fn 152 [] [], AV.fn 153 [] []] ∧ FldOk 1 IntKind.i64 1 (opsL (lmkOps n 1 true ns ln)) (lmkM 1 ln) [AV.int IntKind.i64 (IntKind.wrap IntKind.i64 (IntKind.wrap IntKind.i64 ((↑(lmkM 1 ln) : Int) - (1 : Int)) - wi (IntKind.wrap IntKind.i64 (IntKind.wrap IntKind.i64 (Int.tdiv n (3 : Int)) + (0 : Int))) (min3 (lmkM 1 ln))))] 1 ∧ XsOk 1 [AV.flt (valV ms lm 0)] 1) && true) && (pb (IntKind.i64 = IntKind.i64 ∧ (1 : Int) = (1 : Int) ∧ LmkOk ms lm) && (pb (IntKind.i64 = IntKind.i64 ∧ (1 : Int) = (1 : Int) ∧ LmkOk ms lm) && (pb (IntKind.i64 = IntKind.i64 ∧ LmkOk ns ln ∧ wi n (3 : Int) + (1 : Int) = (1 : Int)) && true)))))))))) = true) : Con prog 11 [.int .i64 n, .snap ns ln, .snap ms lm, .int .i64 bt] nb (AV.bool true) [] :=
  con_evF OO1 mixed (qs := []) (dec := []) (r := ⟨(AV.bool true), [], (decide (valV ms lm 0 = valV ms lm 0) && true && (decide (List.getD (jacD kF 0 1 [valV ms lm 0] (unOps (opsL (lmkOps n 1 true ns ln))) (unInt [AV.int IntKind.i64 (IntKind.wrap IntKind.i64 (IntKind.wrap IntKind.i64 ((↑(lmkM 1 ln) : Int) - (1 : Int)) - wi (IntKind.wrap IntKind.i64 (IntKind.wrap IntKind.i64 (Int.tdiv n (3 : Int)) + (0 : Int))) (min3 (lmkM 1 ln))))]) 0) 0 0 = List.getD (jacD kF 0 1 [valV ms lm 0] (unOps (opsL (lmkOps n 1 true ns ln))) (unInt [AV.int IntKind.i64 (IntKind.wrap IntKind.i64 (IntKind.wrap IntKind.i64 ((↑(lmkM 1 ln) : Int) - (1 : Int)) - wi (IntKind.wrap IntKind.i64 (IntKind.wrap IntKind.i64 (Int.tdiv n (3 : Int)) + (0 : Int))) (min3 (lmkM 1 ln))))]) 0) 0 0) && true && true && (List.all (opsL (lmkOps n 1 true ns ln)) AV.noOwn && true && true && pb (FldOk 1 IntKind.i64 1 (opsL (lmkOps n 1 true ns ln)) (lmkM 1 ln) [AV.int IntKind.i64 (IntKind.wrap IntKind.i64 (IntKind.wrap IntKind.i64 ((↑(lmkM 1 ln) : Int) - (1 : Int)) - wi (IntKind.wrap IntKind.i64 (IntKind.wrap IntKind.i64 (Int.tdiv n (3 : Int)) + (0 : Int))) (min3 (lmkM 1 ln))))] 1 ∧ XsOk 1 [AV.flt (valV ms lm 0)] 1) && (pb (IntKind.i64 = IntKind.i64 ∧ LmkOk ns ln ∧ wi n (3 : Int) + (1 : Int) = (1 : Int)) && (List.all (opsL (lmkOps n 1 true ns ln)) AV.noOwn && true && true && (pb (AV.agg [AV.fn 149 [] [], AV.fn 150 [] [], AV.fn 151 [] [], AV.fn 152 [] [], AV.fn 153 [] []] = AV.agg [AV.fn 149 [] [], AV.fn 150 [] [], AV.fn 151 [] [], AV.fn 152 [] [], AV.fn 153 [] []] ∧ FldOk 1 IntKind.i64 1 (opsL (lmkOps n 1 true ns ln)) (lmkM 1 ln) [AV.int IntKind.i64 (IntKind.wrap IntKind.i64 (IntKind.wrap IntKind.i64 ((↑(lmkM 1 ln) : Int) - (1 : Int)) - wi (IntKind.wrap IntKind.i64 (IntKind.wrap IntKind.i64 (Int.tdiv n (3 : Int)) + (0 : Int))) (min3 (lmkM 1 ln))))] 1 ∧ XsOk 1 [AV.flt (valV ms lm 0)] 1) && true) && (List.all (opsL (lmkOps n 1 true ns ln)) AV.noOwn && true && true && (pb (AV.agg [AV.fn 149 [] [], AV.fn 150 [] [], AV.fn 151 [] [], AV.fn 152 [] [], AV.fn 153 [] []] = AV.agg [AV.fn 149 [] [], AV.fn 150 [] [], AV.fn 151 [] [], AV.fn 152 [] [], AV.fn 153 [] []] ∧ FldOk 1 IntKind.i64 1 (opsL (lmkOps n 1 true ns ln)) (lmkM 1 ln) [AV.int IntKind.i64 (IntKind.wrap IntKind.i64 (IntKind.wrap IntKind.i64 ((↑(lmkM 1 ln) : Int) - (1 : Int)) - wi (IntKind.wrap IntKind.i64 (IntKind.wrap IntKind.i64 (Int.tdiv n (3 : Int)) + (0 : Int))) (min3 (lmkM 1 ln))))] 1 ∧ XsOk 1 [AV.flt (valV ms lm 0)] 1) && true) && (pb (IntKind.i64 = IntKind.i64 ∧ (1 : Int) = (1 : Int) ∧ LmkOk ms lm) && (pb (IntKind.i64 = IntKind.i64 ∧ (1 : Int) = (1 : Int) ∧ LmkOk ms lm) && (pb (IntKind.i64 = IntKind.i64 ∧ LmkOk ns ln ∧ wi n (3 : Int) + (1 : Int) = (1 : Int)) && true)))))))))⟩) (by kernel_rfl) hok
noncomputable def esO2 : List Entry := [eKnown4, eLmk2, eVals2, eJrun2, eEjac2, eSame] ++ es4
noncomputable abbrev CO2 : Ctx := ctxD prog esO2 8 (shallow [56, 107, 63])

theorem esO2_ok : ∀ e ∈ esO2, EntryOK prog e := by
  intro e he
  simp only [esO2, List.cons_append, List.nil_append, List.mem_cons] at he
  rcases he with rfl | rfl | rfl | rfl | rfl | rfl | he
  · exact eKnown4_ok
  · exact eLmk2_ok
  · exact eVals2_ok
  · exact eJrun2_ok
  · exact eEjac2_ok
  · exact eSame_ok
  · exact es4_ok e he
theorem OO2 : OrcOK CO2.P CO2.orc := ctxD_ok mixed esO2_ok 8 _

theorem jacOwn2 (n : Int) (ns : List AV) (ln : Nat) (ms : List AV) (lm : Nat) (bt : Int) (nb : Nat) (hok : ((decide (valV ms lm 1 = valV ms lm 1) && (decide (valV ms lm 0 = valV ms lm 0) && true) && (decide (List.getD (jacD kF 0 2 [valV ms lm 0, valV ms lm 1] (unOps (opsL (lmkOps n 2 true ns ln))) (unInt [AV.int IntKind.i64 (IntKind.wrap IntKind.i64 (IntKind.wrap IntKind.i64 ((↑(lmkM 2 ln) : Int) - (1 : Int)) - wi (IntKind.wrap IntKind.i64 (IntKind.wrap IntKind.i64 (Int.tdiv n (3 : Int)) + (0 : Int))) (min3 (lmkM 2 ln)))), AV.int IntKind.i64 (IntKind.wrap IntKind.i64 (IntKind.wrap IntKind.i64 ((↑(lmkM 2 ln) : Int) - (1 : Int)) - wi (IntKind.wrap IntKind.i64 (IntKind.wrap IntKind.i64 (Int.tdiv n (3 : Int)) + (1 : Int))) (min3 (lmkM 2 ln))))]) 1) 1 0 = List.getD (jacD kF 0 2 [valV ms lm 0, valV ms lm 1] (unOps (opsL (lmkOps n 2 true ns ln))) (unInt [AV.int IntKind.i64 (IntKind.wrap IntKind.i64 (IntKind.wrap IntKind.i64 ((↑(lmkM 2 ln) : Int) - (1 : Int)) - wi (IntKind.wrap IntKind.i64 (IntKind.wrap IntKind.i64 (Int.tdiv n (3 : Int)) + (0 : Int))) (min3 (lmkM 2 ln)))), AV.int IntKind.i64 (IntKind.wrap IntKind.i64 (IntKind.wrap IntKind.i64 ((↑(lmkM 2 ln) : Int) - (1 : Int)) - wi (IntKind.wrap IntKind.i64 (IntKind.wrap IntKind.i64 (Int.tdiv n (3 : Int)) + (1 : Int))) (min3 (lmkM 2 ln))))]) 1) 1 0) && (decide (List.getD (jacD kF 0 2 [valV ms lm 0, valV ms lm 1] (unOps (opsL (lmkOps n 2 true ns ln))) (unInt [AV.int IntKind.i64 (IntKind.wrap IntKind.i64 (IntKind.wrap IntKind.i64 ((↑(lmkM 2 ln) : Int) - (1 : Int)) - wi (IntKind.wrap IntKind.i64 (IntKind.wrap IntKind.i64 (Int.tdiv n (3 : Int)) + (0 : Int))) (min3 (lmkM 2 ln)))), AV.int IntKind.i64 (IntKind.wrap IntKind.i64 (IntKind.wrap IntKind.i64 ((↑(lmkM 2 ln) : Int) - (1 : Int)) - wi (IntKind.wrap IntKind.i64 (IntKind.wrap IntKind.i64 (Int.tdiv n (3 : Int)) + (1 : Int))) (min3 (lmkM 2 ln))))]) 1) 0 0 = List.getD (jacD kF 0 2 [valV ms lm 0, valV ms lm 1] (unOps (opsL (lmkOps n 2 true ns ln))) (unInt [AV.int IntKind.i64 (IntKind.wrap IntKind.i64 (IntKind.wrap IntKind.i64 ((↑(lmkM 2 ln) : Int) - (1 : Int)) - wi (IntKind.wrap IntKind.i64 (IntKind.wrap IntKind.i64 (Int.tdiv n (3 : Int)) + (0 : Int))) (min3 (lmkM 2 ln)))), AV.int IntKind.i64 (IntKind.wrap IntKind.i64 (IntKind.wrap IntKind.i64 ((↑(lmkM 2 ln) : Int) - (1 : Int)) - wi (IntKind.wrap IntKind.i64 (IntKind.wrap IntKind.i64 (Int.tdiv n (3 : Int)) + (1 : Int))) (min3 (lmkM 2 ln))))]) 1) 0 0) && true) && (decide (List.getD (jacD kF 0 2 [valV ms lm 0, valV ms lm 1] (unOps (opsL (lmkOps n 2 true ns ln))) (unInt [AV.int IntKind.i64 (IntKind.wrap IntKind.i64 (IntKind.wrap IntKind.i64 ((↑(lmkM 2 ln) : Int) - (1 : Int)) - wi (IntKind.wrap IntKind.i64 (IntKind.wrap IntKind.i64 (Int.tdiv n (3 : Int)) + (0 : Int))) (min3 (lmkM 2 ln)))), AV.int IntKind.i64 (IntKind.wrap IntKind.i64 (IntKind.wrap IntKind.i64 ((↑(lmkM 2 ln) : Int) - (1 : Int)) - wi (IntKind.wrap IntKind.i64 (IntKind.wrap IntKind.i64 (Int.tdiv n (3 : Int)) + (1 : Int))) (min3 (lmkM 2 ln))))]) 0) 1 0 = List.getD (jacD kF 0 2 [valV ms lm 0, valV ms lm 1] (unOps (opsL (lmkOps n 2 true ns ln))) (unInt [AV.int IntKind.i64 (IntKind.wrap IntKind.i64 (IntKind.wrap IntKind.i64 ((↑(lmkM 2 ln) : Int) - (1 : Int)) - wi (IntKind.wrap IntKind.i64 (IntKind.wrap IntKind.i64 (Int.tdiv n (3 : Int)) + (0 : Int))) (min3 (lmkM 2 ln)))), AV.int IntKind.i64 (IntKind.wrap IntKind.i64 (IntKind.wrap IntKind.i64 ((↑(lmkM 2 ln) : Int) - (1 : Int)) - wi (IntKind.wrap IntKind.i64 (IntKind.wrap IntKind.i64 (Int.tdiv n (3 : Int)) + (1 : Int))) (min3 (lmkM 2 ln))))]) 0) 1 0) && (decide (List.getD (jacD kF 0 2 [valV ms lm 0, valV ms lm 1] (unOps (opsL (lmkOps n 2 true ns ln))) (unInt [AV.int IntKind.i64 (IntKind.wrap IntKind.i64 (IntKind.wrap IntKind.i64 ((↑(lmkM 2 ln) : Int) - (1 : Int)) - wi (IntKind.wrap IntKind.i64 (IntKind.wrap IntKind.i64 (Int.tdiv n (3 : Int)) + (0 : Int))) (min3 (lmkM 2 ln)))), AV.int IntKind.i64 (IntKind.wrap IntKind.i64 (IntKind.wrap IntKind.i64 ((↑(lmkM 2 ln) : Int) - (1 : Int)) - wi (IntKind.wrap IntKind.i64 (IntKind.wrap IntKind.i64 (Int.tdiv n (3 : Int)) + (1 : Int))) (min3 (lmkM 2 ln))))]) 0) 0 0 = List.getD (jacD kF 0 2 [valV ms lm 0, valV ms lm 1] (unOps (opsL (lmkOps n 2 true ns ln))) (unInt [AV.int IntKind.i64 (IntKind.wrap IntKind.i64 (IntKind.wrap IntKind.i64 ((↑(lmkM 2 ln) : Int) - (1 : Int)) - wi (IntKind.wrap IntKind.i64 (IntKind.wrap IntKind.i64 (Int.tdiv n (3 : Int)) + (0 : Int))) (min3 (lmkM 2 ln)))), AV.int IntKind.i64 (IntKind.wrap IntKind.i64 (IntKind.wrap IntKind.i64 ((↑(lmkM 2 ln) : Int) - (1 : Int)) - wi (IntKind.wrap IntKind.i64 (IntKind.wrap IntKind.i64 (Int.tdiv n (3 : Int)) + (1 : Int))) (min3 (lmkM 2 ln))))]) 0) 0 0) && true) && true) && (List.all (opsL (lmkOps n 2 true ns ln)) AV.noOwn && true && true && pb (FldOk 2 IntKind.i64 2 (opsL (lmkOps n 2 true ns ln)) (lmkM 2 ln) [AV.int IntKind.i64 (IntKind.wrap IntKind.i64 (IntKind.wrap IntKind.i64 ((↑(lmkM 2 ln) : Int) - (1 : Int)) - wi (IntKind.wrap IntKind.i64 (IntKind.wrap IntKind.i64 (Int.tdiv n (3 : Int)) + (0 : Int))) (min3 (lmkM 2 ln)))), AV.int IntKind.i64 (IntKind.wrap IntKind.i64 (IntKind.wrap IntKind.i64 ((↑(lmkM 2 ln) : Int) - (1 : Int)) - wi (IntKind.wrap IntKind.i64 (IntKind.wrap IntKind.i64 (Int.tdiv n (3 : Int)) + (1 : Int))) (min3 (lmkM 2 ln))))] 2 ∧ XsOk 2 [AV.flt (valV ms lm 0), AV.flt (valV ms lm 1)] 2) && (pb (IntKind.i64 = IntKind.i64 ∧ LmkOk ns ln ∧ wi n (3 : Int) + (1 : Int) = (2 : Int)) && (List.all (opsL (lmkOps n 2 true ns ln)) AV.noOwn && true && true && (pb (AV.agg [AV.fn 149 [] [], AV.fn 150 [] [], AV.fn 151 [] [], AV.fn 152 [] [], AV.fn 153 [] []] = AV.agg [AV.fn 149 [] [], AV.fn 150 [] [], AV.fn 151 [] [], AV.fn 152 [] [], AV.fn 153 [] []] ∧ FldOk 2 IntKind.i64 2 (opsL (lmkOps n 2 true ns ln)) (lmkM 2 ln) [AV.int IntKind.i64 (IntKind.wrap IntKind.i64 (IntKind.wrap IntKind.i64 ((↑(lmkM 2 ln) : Int) - (1 : Int)) - wi (IntKind.wrap IntKind.i64 (IntKind.wrap IntKind.i64 (Int.tdiv n (3 : Int)) + (0 : Int))) (min3 (lmkM 2 ln)))), AV.int IntKind.i64 (IntKind.wrap IntKind.i64 (IntKind.wrap IntKind.i64 ((↑(lmkM 2 ln) : Int) - (1 : Int)) - wi (IntKind.wrap IntKind.i64 (IntKind.wrap IntKind.i64 (Int.tdiv n (3 : Int)) + (1 : Int))) (min3 (lmkM 2 ln))))] 2 ∧ XsOk 2 [AV.flt (valV ms lm 0), AV.flt (valV ms lm 1)] 2) && true) && (List.all (opsL (lmkOps n 2 true ns ln)) AV.noOwn && true && true && (pb (AV.agg [AV.fn 149 [] [], AV.fn 150 [] [], AV.fn 151 [] [], AV.fn 152 [] [], AV.fn 153 [] []] = AV.agg [AV.fn 149 [] [], AV.fn 150 [] [], AV.fn 151 [] [], AV.fn 152 [] [], AV.fn 153 [] []] ∧ FldOk 2 IntKind.i64 2 (opsL (lmkOps n 2 true ns ln)) (lmkM 2 ln) [AV.int IntKind.i64 (IntKind.wrap IntKind.i64 (IntKind.wrap IntKind.i64 ((↑(lmkM 2 ln) : Int) - (1 : Int)) - wi (IntKind.wrap IntKind.i64 (IntKind.wrap IntKind.i64 (Int.tdiv n (3 : Int)) + (0 : Int))) (min3 (lmkM 2 ln)))), AV.int IntKind.i64 (IntKind.wrap IntKind.i64 (IntKind.wrap IntKind.i64 ((↑(lmkM 2 ln) : Int) - (1 : Int)) - wi (IntKind.wrap IntKind.i64 (IntKind.wrap IntKind.i64 (Int.tdiv n (3 : Int)) + (1 : Int))) (min3 (lmkM 2 ln))))] 2 ∧ XsOk 2 [AV.flt (valV ms lm 0), AV.flt (valV ms lm 1)] 2) && true) && (pb (IntKind.i64 = IntKind.i64 ∧ (2 : Int) = (2 : Int) ∧ LmkOk ms lm) && (pb (IntKind.i64 = IntKind.i64 ∧ (2 : Int) = (2 : Int) ∧ LmkOk ms lm) && (pb (IntKind.i64 = IntKind.i64 ∧ LmkOk ns ln ∧ wi n (3 : Int) + (1 : Int) = (2 : Int)) && true)))))))))) = true) : Con prog 11 [.int .i64 n, .snap ns ln, .snap ms lm, .int .i64 bt] nb (AV.bool true) [] :=
  con_evF OO2 mixed (qs := []) (dec := []) (r := ⟨(AV.bool true), [], (decide (valV ms lm 1 = valV ms lm 1) && (decide (valV ms lm 0 = valV ms lm 0) && true) && (decide (List.getD (jacD kF 0 2 [valV ms lm 0, valV ms lm 1] (unOps (opsL (lmkOps n 2 true ns ln))) (unInt [AV.int IntKind.i64 (IntKind.wrap IntKind.i64 (IntKind.wrap IntKind.i64 ((↑(lmkM 2 ln) : Int) - (1 : Int)) - wi (IntKind.wrap IntKind.i64 (IntKind.wrap IntKind.i64 (Int.tdiv n (3 : Int)) + (0 : Int))) (min3 (lmkM 2 ln)))), AV.int IntKind.i64 (IntKind.wrap IntKind.i64 (IntKind.wrap IntKind.i64 ((↑(lmkM 2 ln) : Int) - (1 : Int)) - wi (IntKind.wrap IntKind.i64 (IntKind.wrap IntKind.i64 (Int.tdiv n (3 : Int)) + (1 : Int))) (min3 (lmkM 2 ln))))]) 1) 1 0 = List.getD (jacD kF 0 2 [valV ms lm 0, valV ms lm 1] (unOps (opsL (lmkOps n 2 true ns ln))) (unInt [AV.int IntKind.i64 (IntKind.wrap IntKind.i64 (IntKind.wrap IntKind.i64 ((↑(lmkM 2 ln) : Int) - (1 : Int)) - wi (IntKind.wrap IntKind.i64 (IntKind.wrap IntKind.i64 (Int.tdiv n (3 : Int)) + (0 : Int))) (min3 (lmkM 2 ln)))), AV.int IntKind.i64 (IntKind.wrap IntKind.i64 (IntKind.wrap IntKind.i64 ((↑(lmkM 2 ln) : Int) - (1 : Int)) - wi (IntKind.wrap IntKind.i64 (IntKind.wrap IntKind.i64 (Int.tdiv n (3 : Int)) + (1 : Int))) (min3 (lmkM 2 ln))))]) 1) 1 0) && (decide (List.getD (jacD kF 0 2 [valV ms lm 0, valV ms lm 1] (unOps (opsL (lmkOps n 2 true ns ln))) (unInt [AV.int IntKind.i64 (IntKind.wrap IntKind.i64 (IntKind.wrap IntKind.i64 ((↑(lmkM 2 ln) : Int) - (1 : Int)) - wi (IntKind.wrap IntKind.i64 (IntKind.wrap IntKind.i64 (Int.tdiv n (3 : Int)) + (0 : Int))) (min3 (lmkM 2 ln)))), AV.int IntKind.i64 (IntKind.wrap IntKind.i64 (IntKind.wrap IntKind.i64 ((↑(lmkM 2 ln) : Int) - (1 : Int)) - wi (IntKind.wrap IntKind.i64 (IntKind.wrap IntKind.i64 (Int.tdiv n (3 : Int)) + (1 : Int))) (min3 (lmkM 2 ln))))]) 1) 0 0 = List.getD (jacD kF 0 2 [valV ms lm 0, valV ms lm 1] (unOps (opsL (lmkOps n 2 true ns ln))) (unInt [AV.int IntKind.i64 (IntKind.wrap IntKind.i64 (IntKind.wrap IntKind.i64 ((↑(lmkM 2 ln) : Int) - (1 : Int)) - wi (IntKind.wrap IntKind.i64 (IntKind.wrap IntKind.i64 (Int.tdiv n (3 : Int)) + (0 : Int))) (min3 (lmkM 2 ln)))), AV.int IntKind.i64 (IntKind.wrap IntKind.i64 (IntKind.wrap IntKind.i64 ((↑(lmkM 2 ln) : Int) - (1 : Int)) - wi (IntKind.wrap IntKind.i64 (IntKind.wrap IntKind.i64 (Int.tdiv n (3 : Int)) + (1 : Int))) (min3 (lmkM 2 ln))))]) 1) 0 0) && true) && (decide (List.getD (jacD kF 0 2 [valV ms lm 0, valV ms lm 1] (unOps (opsL (lmkOps n 2 true ns ln))) (unInt [AV.int IntKind.i64 (IntKind.wrap IntKind.i64 (IntKind.wrap IntKind.i64 ((↑(lmkM 2 ln) : Int) - (1 : Int)) - wi (IntKind.wrap IntKind.i64 (IntKind.wrap IntKind.i64 (Int.tdiv n (3 : Int)) + (0 : Int))) (min3 (lmkM 2 ln)))), AV.int IntKind.i64 (IntKind.wrap IntKind.i64 (IntKind.wrap IntKind.i64 ((↑(lmkM 2 ln) : Int) - (1 : Int)) - wi (IntKind.wrap IntKind.i64 (IntKind.wrap IntKind.i64 (Int.tdiv n (3 : Int)) + (1 : Int))) (min3 (lmkM 2 ln))))]) 0) 1 0 = List.getD (jacD kF 0 2 [valV ms lm 0, valV ms lm 1] (unOps (opsL (lmkOps n 2 true ns ln))) (unInt [AV.int IntKind.i64 (IntKind.wrap IntKind.i64 (IntKind.wrap IntKind.i64 ((↑(lmkM 2 ln) : Int) - (1 : Int)) - wi (IntKind.wrap IntKind.i64 (IntKind.wrap IntKind.i64 (Int.tdiv n (3 : Int)) + (0 : Int))) (min3 (lmkM 2 ln)))), AV.int IntKind.i64 (IntKind.wrap IntKind.i64 (IntKind.wrap IntKind.i64 ((↑(lmkM 2 ln) : Int) - (1 : Int)) - wi (IntKind.wrap IntKind.i64 (IntKind.wrap IntKind.i64 (Int.tdiv n (3 : Int)) + (1 : Int))) (min3 (lmkM 2 ln))))]) 0) 1 0) && (decide (List.getD (jacD kF 0 2 [valV ms lm 0, valV ms lm 1] (unOps (opsL (lmkOps n 2 true ns ln))) (unInt [AV.int IntKind.i64 (IntKind.wrap IntKind.i64 (IntKind.wrap IntKind.i64 ((↑(lmkM 2 ln) : Int) - (1 : Int)) - wi (IntKind.wrap IntKind.i64 (IntKind.wrap IntKind.i64 (Int.tdiv n (3 : Int)) + (0 : Int))) (min3 (lmkM 2 ln)))), AV.int IntKind.i64 (IntKind.wrap IntKind.i64 (IntKind.wrap IntKind.i64 ((↑(lmkM 2 ln) : Int) - (1 : Int)) - wi (IntKind.wrap IntKind.i64 (IntKind.wrap IntKind.i64 (Int.tdiv n (3 : Int)) + (1 : Int))) (min3 (lmkM 2 ln))))]) 0) 0 0 = List.getD (jacD kF 0 2 [valV ms lm 0, valV ms lm 1] (unOps (opsL (lmkOps n 2 true ns ln))) (unInt [AV.int IntKind.i64 (IntKind.wrap IntKind.i64 (IntKind.wrap IntKind.i64 ((↑(lmkM 2 ln) : Int) - (1 : Int)) - wi (IntKind.wrap IntKind.i64 (IntKind.wrap IntKind.i64 (Int.tdiv n (3 : Int)) + (0 : Int))) (min3 (lmkM 2 ln)))), AV.int IntKind.i64 (IntKind.wrap IntKind.i64 (IntKind.wrap IntKind.i64 ((↑(lmkM 2 ln) : Int) - (1 : Int)) - wi (IntKind.wrap IntKind.i64 (IntKind.wrap IntKind.i64 (Int.tdiv n (3 : Int)) + (1 : Int))) (min3 (lmkM 2 ln))))]) 0) 0 0) && true) && true) && (List.all (opsL (lmkOps n 2 true ns ln)) AV.noOwn && true && true && pb (FldOk 2 IntKind.i64 2 (opsL (lmkOps n 2 true ns ln)) (lmkM 2 ln) [AV.int IntKind.i64 (IntKind.wrap IntKind.i64 (IntKind.wrap IntKind.i64 ((↑(lmkM 2 ln) : Int) - (1 : Int)) - wi (IntKind.wrap IntKind.i64 (IntKind.wrap IntKind.i64 (Int.tdiv n (3 : Int)) + (0 : Int))) (min3 (lmkM 2 ln)))), AV.int IntKind.i64 (IntKind.wrap IntKind.i64 (IntKind.wrap IntKind.i64 ((↑(lmkM 2 ln) : Int) - (1 : Int)) - wi (IntKind.wrap IntKind.i64 (IntKind.wrap IntKind.i64 (Int.tdiv n (3 : Int)) + (1 : Int))) (min3 (lmkM 2 ln))))] 2 ∧ XsOk 2 [AV.flt (valV ms lm 0), AV.flt (valV ms lm 1)] 2) && (pb (IntKind.i64 = IntKind.i64 ∧ LmkOk ns ln ∧ wi n (3 : Int) + (1 : Int) = (2 : Int)) && (List.all (opsL (lmkOps n 2 true ns ln)) AV.noOwn && true && true && (pb (AV.agg [AV.fn 149 [] [], AV.fn 150 [] [], AV.fn 151 [] [], AV.fn 152 [] [], AV.fn 153 [] []] = AV.agg [AV.fn 149 [] [], AV.fn 150 [] [], AV.fn 151 [] [], AV.fn 152 [] [], AV.fn 153 [] []] ∧ FldOk 2 IntKind.i64 2 (opsL (lmkOps n 2 true ns ln)) (lmkM 2 ln) [AV.int IntKind.i64 (IntKind.wrap IntKind.i64 (IntKind.wrap IntKind.i64 ((↑(lmkM 2 ln) : Int) - (1 : Int)) - wi (IntKind.wrap IntKind.i64 (IntKind.wrap IntKind.i64 (Int.tdiv n (3 : Int)) + (0 : Int))) (min3 (lmkM 2 ln)))), AV.int IntKind.i64 (IntKind.wrap IntKind.i64 (IntKind.wrap IntKind.i64 ((↑(lmkM 2 ln) : Int) - (1 : Int)) - wi (IntKind.wrap IntKind.i64 (IntKind.wrap IntKind.i64 (Int.tdiv n (3 : Int)) + (1 : Int))) (min3 (lmkM 2 ln))))] 2 ∧ XsOk 2 [AV.flt (valV ms lm 0), AV.flt (valV ms lm 1)] 2) && true) && (List.all (opsL (lmkOps n 2 true ns ln)) AV.noOwn && true && true && (pb (AV.agg [AV.fn 149 [] [], AV.fn 150 [] [], AV.fn 151 [] [], AV.fn 152 [] [], AV.fn 153 [] []] = AV.agg [AV.fn 149 [] [], AV.fn 150 [] [], AV.fn 151 [] [], AV.fn 152 [] [], AV.fn 153 [] []] ∧ FldOk 2 IntKind.i64 2 (opsL (lmkOps n 2 true ns ln)) (lmkM 2 ln) [AV.int IntKind.i64 (IntKind.wrap IntKind.i64 (IntKind.wrap IntKind.i64 ((↑(lmkM 2 ln) : Int) - (1 : Int)) - wi (IntKind.wrap IntKind.i64 (IntKind.wrap IntKind.i64 (Int.tdiv n (3 : Int)) + (0 : Int))) (min3 (lmkM 2 ln)))), AV.int IntKind.i64 (IntKind.wrap IntKind.i64 (IntKind.wrap IntKind.i64 ((↑(lmkM 2 ln) : Int) - (1 : Int)) - wi (IntKind.wrap IntKind.i64 (IntKind.wrap IntKind.i64 (Int.tdiv n (3 : Int)) + (1 : Int))) (min3 (lmkM 2 ln))))] 2 ∧ XsOk 2 [AV.flt (valV ms lm 0), AV.flt (valV ms lm 1)] 2) && true) && (pb (IntKind.i64 = IntKind.i64 ∧ (2 : Int) = (2 : Int) ∧ LmkOk ms lm) && (pb (IntKind.i64 = IntKind.i64 ∧ (2 : Int) = (2 : Int) ∧ LmkOk ms lm) && (pb (IntKind.i64 = IntKind.i64 ∧ LmkOk ns ln ∧ wi n (3 : Int) + (1 : Int) = (2 : Int)) && true)))))))))⟩) (by kernel_rfl) hok
noncomputable def esO3 : List Entry := [eKnown4, eLmk3, eVals3, eJrun3, eEjac3, eSame] ++ es4
noncomputable abbrev CO3 : Ctx := ctxD prog esO3 8 (shallow [56, 107, 63])

theorem esO3_ok : ∀ e ∈ esO3, EntryOK prog e := by
  intro e he
  simp only [esO3, List.cons_append, List.nil_append, List.mem_cons] at he
  rcases he with rfl | rfl | rfl | rfl | rfl | rfl | he
  · exact eKnown4_ok
  · exact eLmk3_ok
  · exact eVals3_ok
  · exact eJrun3_ok
  · exact eEjac3_ok
  · exact eSame_ok
  · exact es4_ok e he
theorem OO3 : OrcOK CO3.P CO3.orc := ctxD_ok mixed esO3_ok 8 _

theorem jacOwn3 (n : Int) (ns : List AV) (ln : Nat) (ms : List AV) (lm : Nat) (bt : Int) (nb : Nat) (hok : ((decide (valV ms lm 2 = valV ms lm 2) && (decide (valV ms lm 1 = valV ms lm 1) && (decide (valV ms lm 0 = valV ms lm 0) && true)) && (decide (List.getD (jacD kF 0 3 [valV ms lm 0, valV ms lm 1, valV ms lm 2] (unOps (opsL (lmkOps n 3 true ns ln))) (unInt [AV.int IntKind.i64 (IntKind.wrap IntKind.i64 (IntKind.wrap IntKind.i64 ((↑(lmkM 3 ln) : Int) - (1 : Int)) - wi (IntKind.wrap IntKind.i64 (IntKind.wrap IntKind.i64 (Int.tdiv n (3 : Int)) + (0 : Int))) (min3 (lmkM 3 ln)))), AV.int IntKind.i64 (IntKind.wrap IntKind.i64 (IntKind.wrap IntKind.i64 ((↑(lmkM 3 ln) : Int) - (1 : Int)) - wi (IntKind.wrap IntKind.i64 (IntKind.wrap IntKind.i64 (Int.tdiv n (3 : Int)) + (1 : Int))) (min3 (lmkM 3 ln)))), AV.int IntKind.i64 (IntKind.wrap IntKind.i64 (IntKind.wrap IntKind.i64 ((↑(lmkM 3 ln) : Int) - (1 : Int)) - wi (IntKind.wrap IntKind.i64 (IntKind.wrap IntKind.i64 (Int.tdiv n (3 : Int)) + (2 : Int))) (min3 (lmkM 3 ln))))]) 2) 2 0 = List.getD (jacD kF 0 3 [valV ms lm 0, valV ms lm 1, valV ms lm 2] (unOps (opsL (lmkOps n 3 true ns ln))) (unInt [AV.int IntKind.i64 (IntKind.wrap IntKind.i64 (IntKind.wrap IntKind.i64 ((↑(lmkM 3 ln) : Int) - (1 : Int)) - wi (IntKind.wrap IntKind.i64 (IntKind.wrap IntKind.i64 (Int.tdiv n (3 : Int)) + (0 : Int))) (min3 (lmkM 3 ln)))), AV.int IntKind.i64 (IntKind.wrap IntKind.i64 (IntKind.wrap IntKind.i64 ((↑(lmkM 3 ln) : Int) - (1 : Int)) - wi (IntKind.wrap IntKind.i64 (IntKind.wrap IntKind.i64 (Int.tdiv n (3 : Int)) + (1 : Int))) (min3 (lmkM 3 ln)))), AV.int IntKind.i64 (IntKind.wrap IntKind.i64 (IntKind.wrap IntKind.i64 ((↑(lmkM 3 ln) : Int) - (1 : Int)) - wi (IntKind.wrap IntKind.i64 (IntKind.wrap IntKind.i64 (Int.tdiv n (3 : Int)) + (2 : Int))) (min3 (lmkM 3 ln))))]) 2) 2 0) && (decide (List.getD (jacD kF 0 3 [valV ms lm 0, valV ms lm 1, valV ms lm 2] (unOps (opsL (lmkOps n 3 true ns ln))) (unInt [AV.int IntKind.i64 (IntKind.wrap IntKind.i64 (IntKind.wrap IntKind.i64 ((↑(lmkM 3 ln) : Int) - (1 : Int)) - wi (IntKind.wrap IntKind.i64 (IntKind.wrap IntKind.i64 (Int.tdiv n (3 : Int)) + (0 : Int))) (min3 (lmkM 3 ln)))), AV.int IntKind.i64 (IntKind.wrap IntKind.i64 (IntKind.wrap IntKind.i64 ((↑(lmkM 3 ln) : Int) - (1 : Int)) - wi (IntKind.wrap IntKind.i64 (IntKind.wrap IntKind.i64 (Int.tdiv n (3 : Int)) + (1 : Int))) (min3 (lmkM 3 ln)))), AV.int IntKind.i64 (IntKind.wrap IntKind.i64 (IntKind.wrap IntKind.i64 ((↑(lmkM 3 ln) : Int) - (1 : Int)) - wi (IntKind.wrap IntKind.i64 (IntKind.wrap IntKind.i64 (Int.tdiv n (3 : Int)) + (2 : Int))) (min3 (lmkM 3 ln))))]) 2) 1 0 = List.getD (jacD kF 0 3 [valV ms lm 0, valV ms lm 1, valV ms lm 2] (unOps (opsL (lmkOps n 3 true ns ln))) (unInt [AV.int IntKind.i64 (IntKind.wrap IntKind.i64 (IntKind.wrap IntKind.i64 ((↑(lmkM 3 ln) : Int) - (1 : Int)) - wi (IntKind.wrap IntKind.i64 (IntKind.wrap IntKind.i64 (Int.tdiv n (3 : Int)) + (0 : Int))) (min3 (lmkM 3 ln)))), AV.int IntKind.i64 (IntKind.wrap IntKind.i64 (IntKind.wrap IntKind.i64 ((↑(lmkM 3 ln) : Int) - (1 : Int)) - wi (IntKind.wrap IntKind.i64 (IntKind.wrap IntKind.i64 (Int.tdiv n (3 : Int)) + (1 : Int))) (min3 (lmkM 3 ln)))), AV.int IntKind.i64 (IntKind.wrap IntKind.i64 (IntKind.wrap IntKind.i64 ((↑(lmkM 3 ln) : Int) - (1 : Int)) - wi (IntKind.wrap IntKind.i64 (IntKind.wrap IntKind.i64 (Int.tdiv n (3 : Int)) + (2 : Int))) (min3 (lmkM 3 ln))))]) 2) 1 0) && (decide (List.getD (jacD kF 0 3 [valV ms lm 0, valV ms lm 1, valV ms lm 2] (unOps (opsL (lmkOps n 3 true ns ln))) (unInt [AV.int IntKind.i64 (IntKind.wrap IntKind.i64 (IntKind.wrap IntKind.i64 ((↑(lmkM 3 ln) : Int) - (1 : Int)) - wi (IntKind.wrap IntKind.i64 (IntKind.wrap IntKind.i64 (Int.tdiv n (3 : Int)) + (0 : Int))) (min3 (lmkM 3 ln)))), AV.int IntKind.i64 (IntKind.wrap IntKind.i64 (IntKind.wrap IntKind.i64 ((↑(lmkM 3 ln) : Int) - (1 : Int)) - wi (IntKind.wrap IntKind.i64 (IntKind.wrap IntKind.i64 (Int.tdiv n (3 : Int)) + (1 : Int))) (min3 (lmkM 3 ln)))), AV.int IntKind.i64 (IntKind.wrap IntKind.i64 (IntKind.wrap IntKind.i64 ((↑(lmkM 3 ln) : Int) - (1 : Int)) - wi (IntKind.wrap IntKind.i64 (IntKind.wrap IntKind.i64 (Int.tdiv n (3 : Int)) + (2 : Int))) (min3 (lmkM 3 ln))))]) 2) 0 0 = List.getD (jacD kF 0 3 [valV ms lm 0, valV ms lm 1, valV ms lm 2] (unOps (opsL (lmkOps n 3 true ns ln))) (unInt [AV.int IntKind.i64 (IntKind.wrap IntKind.i64 (IntKind.wrap IntKind.i64 ((↑(lmkM 3 ln) : Int) - (1 : Int)) - wi (IntKind.wrap IntKind.i64 (IntKind.wrap IntKind.i64 (Int.tdiv n (3 : Int)) + (0 : Int))) (min3 (lmkM 3 ln)))), AV.int IntKind.i64 (IntKind.wrap IntKind.i64 (IntKind.wrap IntKind.i64 ((↑(lmkM 3 ln) : Int) - (1 : Int)) - wi (IntKind.wrap IntKind.i64 (IntKind.wrap IntKind.i64 (Int.tdiv n (3 : Int)) + (1 : Int))) (min3 (lmkM 3 ln)))), AV.int IntKind.i64 (IntKind.wrap IntKind.i64 (IntKind.wrap IntKind.i64 ((↑(lmkM 3 ln) : Int) - (1 : Int)) - wi (IntKind.wrap IntKind.i64 (IntKind.wrap IntKind.i64 (Int.tdiv n (3 : Int)) + (2 : Int))) (min3 (lmkM 3 ln))))]) 2) 0 0) && true)) && (decide (List.getD (jacD kF 0 3 [valV ms lm 0, valV ms lm 1, valV ms lm 2] (unOps (opsL (lmkOps n 3 true ns ln))) (unInt [AV.int IntKind.i64 (IntKind.wrap IntKind.i64 (IntKind.wrap IntKind.i64 ((↑(lmkM 3 ln) : Int) - (1 : Int)) - wi (IntKind.wrap IntKind.i64 (IntKind.wrap IntKind.i64 (Int.tdiv n (3 : Int)) + (0 : Int))) (min3 (lmkM 3 ln)))), AV.int IntKind.i64 (IntKind.wrap IntKind.i64 (IntKind.wrap IntKind.i64 ((↑(lmkM 3 ln) : Int) - (1 : Int)) - wi (IntKind.wrap IntKind.i64 (IntKind.wrap IntKind.i64 (Int.tdiv n (3 : Int)) + (1 : Int))) (min3 (lmkM 3 ln)))), AV.int IntKind.i64 (IntKind.wrap IntKind.i64 (IntKind.wrap IntKind.i64 ((↑(lmkM 3 ln) : Int) - (1 : Int)) - wi (IntKind.wrap IntKind.i64 (IntKind.wrap IntKind.i64 (Int.tdiv n (3 : Int)) + (2 : Int))) (min3 (lmkM 3 ln))))]) 1) 2 0 = List.getD (jacD kF 0 3 [valV ms lm 0, valV ms lm 1, valV ms lm 2] (unOps (opsL (lmkOps n 3 true ns ln))) (unInt [AV.int IntKind.i64 (IntKind.wrap IntKind.i64 (IntKind.wrap IntKind.i64 ((↑(lmkM 3 ln) : Int) - (1 : Int)) - wi (IntKind.wrap IntKind.i64 (IntKind.wrap IntKind.i64 (Int.tdiv n (3 : Int)) + (0 : Int))) (min3 (lmkM 3 ln)))), AV.int IntKind.i64 (IntKind.wrap IntKind.i64 (IntKind.wrap IntKind.i64 ((↑(lmkM 3 ln) : Int) - (1 : Int)) - wi (IntKind.wrap IntKind.i64 (IntKind.wrap IntKind.i64 (Int.tdiv n (3 : Int)) + (1 : Int))) (min3 (lmkM 3 ln)))), AV.int IntKind.i64 (IntKind.wrap IntKind.i64 (IntKind.wrap IntKind.i64 ((↑(lmkM 3 ln) : Int) - (1 : Int)) - wi (IntKind.wrap IntKind.i64 (IntKind.wrap IntKind.i64 (Int.tdiv n (3 : Int)) + (2 : Int))) (min3 (lmkM 3 ln))))]) 1) 2 0) && (decide (List.getD (jacD kF 0 3 [valV ms lm 0, valV ms lm 1, valV ms lm 2] (unOps (opsL (lmkOps n 3 true ns ln))) (unInt [AV.int IntKind.i64 (IntKind.wrap IntKind.i64 (IntKind.wrap IntKind.i64 ((↑(lmkM 3 ln) : Int) - (1 : Int)) - wi (IntKind.wrap IntKind.i64 (IntKind.wrap IntKind.i64 (Int.tdiv n (3 : Int)) + (0 : Int))) (min3 (lmkM 3 ln)))), AV.int IntKind.i64 (IntKind.wrap IntKind.i64 (IntKind.wrap IntKind.i64 ((↑(lmkM 3 ln) : Int) - (1 : Int)) - wi (IntKind.wrap IntKind.i64 (IntKind.wrap IntKind.i64 (Int.tdiv n (3 : Int)) + (1 : Int))) (min3 (lmkM 3 ln)))), AV.int IntKind.i64 (IntKind.wrap IntKind.i64 (IntKind.wrap IntKind.i64 ((↑(lmkM 3 ln) : Int) - (1 : Int)) - wi (IntKind.wrap IntKind.i64 (IntKind.wrap IntKind.i64 (Int.tdiv n (3 : Int)) + (2 : Int))) (min3 (lmkM 3 ln))))]) 1) 1 0 = List.getD (jacD kF 0 3 [valV ms lm 0, valV ms lm 1, valV ms lm 2] (unOps (opsL (lmkOps n 3 true ns ln))) (unInt [AV.int IntKind.i64 (IntKind.wrap IntKind.i64 (IntKind.wrap IntKind.i64 ((↑(lmkM 3 ln) : Int) - (1 : Int)) - wi (IntKind.wrap IntKind.i64 (IntKind.wrap IntKind.i64 (Int.tdiv n (3 : Int)) + (0 : Int))) (min3 (lmkM 3 ln)))), AV.int IntKind.i64 (IntKind.wrap IntKind.i64 (IntKind.wrap IntKind.i64 ((↑(lmkM 3 ln) : Int) - (1 : Int)) - wi (IntKind.wrap IntKind.i64 (IntKind.wrap IntKind.i64 (Int.tdiv n (3 : Int)) + (1 : Int))) (min3 (lmkM 3 ln)))), AV.int IntKind.i64 (IntKind.wrap IntKind.i64 (IntKind.wrap IntKind.i64 ((↑(lmkM 3 ln) : Int) - (1 : Int)) - wi (IntKind.wrap IntKind.i64 (IntKind.wrap IntKind.i64 (Int.tdiv n (3 : Int)) + (2 : Int))) (min3 (lmkM 3 ln))))]) 1) 1 0) && (decide (List.getD (jacD kF 0 3 [valV ms lm 0, valV ms lm 1, valV ms lm 2] (unOps (opsL (lmkOps n 3 true ns ln))) (unInt [AV.int IntKind.i64 (IntKind.wrap IntKind.i64 (IntKind.wrap IntKind.i64 ((↑(lmkM 3 ln) : Int) - (1 : Int)) - wi (IntKind.wrap IntKind.i64 (IntKind.wrap IntKind.i64 (Int.tdiv n (3 : Int)) + (0 : Int))) (min3 (lmkM 3 ln)))), AV.int IntKind.i64 (IntKind.wrap IntKind.i64 (IntKind.wrap IntKind.i64 ((↑(lmkM 3 ln) : Int) - (1 : Int)) - wi (IntKind.wrap IntKind.i64 (IntKind.wrap IntKind.i64 (Int.tdiv n (3 : Int)) + (1 : Int))) (min3 (lmkM 3 ln)))), AV.int IntKind.i64 (IntKind.wrap IntKind.i64 (IntKind.wrap IntKind.i64 ((↑(lmkM 3 ln) : Int) - (1 : Int)) - wi (IntKind.wrap IntKind.i64 (IntKind.wrap IntKind.i64 (Int.tdiv n (3 : Int)) + (2 : Int))) (min3 (lmkM 3 ln))))]) 1) 0 0 = List.getD (jacD kF 0 3 [valV ms lm 0, valV ms lm 1, valV ms lm 2] (unOps (opsL (lmkOps n 3 true ns ln))) (unInt [AV.int IntKind.i64 (IntKind.wrap IntKind.i64 (IntKind.wrap IntKind.i64 ((↑(lmkM 3 ln) : Int) - (1 : Int)) - wi (IntKind.wrap IntKind.i64 (IntKind.wrap IntKind.i64 (Int.tdiv n (3 : Int)) + (0 : Int))) (min3 (lmkM 3 ln)))), AV.int IntKind.i64 (IntKind.wrap IntKind.i64 (IntKind.wrap IntKind.i64 ((↑(lmkM 3 ln) : Int) - (1 : Int)) - wi (IntKind.wrap IntKind.i64 (IntKind.wrap IntKind.i64 (Int.tdiv n (3 : Int)) + (1 : Int))) (min3 (lmkM 3 ln)))), AV.int IntKind.i64 (IntKind.wrap IntKind.i64 (IntKind.wrap IntKind.i64 ((↑(lmkM 3 ln) : Int) - (1 : Int)) - wi (IntKind.wrap IntKind.i64 (IntKind.wrap IntKind.i64 (Int.tdiv n (3 : Int)) + (2 : Int))) (min3 (lmkM 3 ln))))]) 1) 0 0) && true)) && (decide (List.getD (jacD kF 0 3 [valV ms lm 0, valV ms lm 1, valV ms lm 2] (unOps (opsL (lmkOps n 3 true ns ln))) (unInt [AV.int IntKind.i64 (IntKind.wrap IntKind.i64 (IntKind.wrap IntKind.i64 ((↑(lmkM 3 ln) : Int) - (1 : Int)) - wi (IntKind.wrap IntKind.i64 (IntKind.wrap IntKind.i64 (Int.tdiv n (3 : Int)) + (0 : Int))) (min3 (lmkM 3 ln)))), AV.int IntKind.i64 (IntKind.wrap IntKind.i64 (IntKind.wrap IntKind.i64 ((↑(lmkM 3 ln) : Int) - (1 : Int)) - wi (IntKind.wrap IntKind.i64 (IntKind.wrap IntKind.i64 (Int.tdiv n (3 : Int)) + (1 : Int))) (min3 (lmkM 3 ln)))), AV.int IntKind.i64 (IntKind.wrap IntKind.i64 (IntKind.wrap IntKind.i64 ((↑(lmkM 3 ln) : Int) - (1 : Int)) - wi (IntKind.wrap IntKind.i64 (IntKind.wrap IntKind.i64 (Int.tdiv n (3 : Int)) + (2 : Int))) (min3 (lmkM 3 ln))))]) 0) 2 0 = List.getD (jacD kF 0 3 [valV ms lm 0, valV ms lm 1, valV ms lm 2] (unOps (opsL (lmkOps n 3 true ns ln))) (unInt [AV.int IntKind.i64 (IntKind.wrap IntKind.i64 (IntKind.wrap IntKind.i64 ((↑(lmkM 3 ln) : Int) - (1 : Int)) - wi (IntKind.wrap IntKind.i64 (IntKind.wrap IntKind.i64 (Int.tdiv n (3 : Int)) + (0 : Int))) (min3 (lmkM 3 ln)))), AV.int IntKind.i64 (IntKind.wrap IntKind.i64 (IntKind.wrap IntKind.i64 ((↑(lmkM 3 ln) : Int) - (1 : Int)) - wi (IntKind.wrap IntKind.i64 (IntKind.wrap IntKind.i64 (Int.tdiv n (3 : Int)) + (1 : Int))) (min3 (lmkM 3 ln)))), AV.int IntKind.i64 (IntKind.wrap IntKind.i64 (IntKind.wrap IntKind.i64 ((↑(lmkM 3 ln) : Int) - (1 : Int)) - wi (IntKind.wrap IntKind.i64 (IntKind.wrap IntKind.i64 (Int.tdiv n (3 : Int)) + (2 : Int))) (min3 (lmkM 3 ln))))]) 0) 2 0) && (decide (List.getD (jacD kF 0 3 [valV ms lm 0, valV ms lm 1, valV ms lm 2] (unOps (opsL (lmkOps n 3 true ns ln))) (unInt [AV.int IntKind.i64 (IntKind.wrap IntKind.i64 (IntKind.wrap IntKind.i64 ((↑(lmkM 3 ln) : Int) - (1 : Int)) - wi (IntKind.wrap IntKind.i64 (IntKind.wrap IntKind.i64 (Int.tdiv n (3 : Int)) + (0 : Int))) (min3 (lmkM 3 ln)))), AV.int IntKind.i64 (IntKind.wrap IntKind.i64 (IntKind.wrap IntKind.i64 ((↑(lmkM 3 ln) : Int) - (1 : Int)) - wi (IntKind.wrap IntKind.i64 (IntKind.wrap IntKind.i64 (Int.tdiv n (3 : Int)) + (1 : Int))) (min3 (lmkM 3 ln)))), AV.int IntKind.i64 (IntKind.wrap IntKind.i64 (IntKind.wrap IntKind.i64 ((↑(lmkM 3 ln) : Int) - (1 : Int)) - wi (IntKind.wrap IntKind.i64 (IntKind.wrap IntKind.i64 (Int.tdiv n (3 : Int)) + (2 : Int))) (min3 (lmkM 3 ln))))]) 0) 1 0 = List.getD (jacD kF 0 3 [valV ms lm 0, valV ms lm 1, valV ms lm 2] (unOps (opsL (lmkOps n 3 true ns ln))) (unInt [AV.int IntKind.i64 (IntKind.wrap IntKind.i64 (IntKind.wrap IntKind.i64 ((↑(lmkM 3 ln) : Int) - (1 : Int)) - wi (IntKind.wrap IntKind.i64 (IntKind.wrap IntKind.i64 (Int.tdiv n (3 : Int)) + (0 : Int))) (min3 (lmkM 3 ln)))), AV.int IntKind.i64 (IntKind.wrap IntKind.i64 (IntKind.wrap IntKind.i64 ((↑(lmkM 3 ln) : Int) - (1 : Int)) - wi (IntKind.wrap IntKind.i64 (IntKind.wrap IntKind.i64 (Int.tdiv n (3 : Int)) + (1 : Int))) (min3 (lmkM 3 ln)))), AV.int IntKind.i64 (IntKind.wrap IntKind.i64 (IntKind.wrap IntKind.i64 ((↑(lmkM 3 ln) : Int) - (1 : Int)) - wi (IntKind.wrap IntKind.i64 (IntKind.wrap IntKind.i64 (Int.tdiv n (3 : Int)) + (2 : Int))) (min3 (lmkM 3 ln))))]) 0) 1 0) && (decide (List.getD (jacD kF 0 3 [valV ms lm 0, valV ms lm 1, valV ms lm 2] (unOps (opsL (lmkOps n 3 true ns ln))) (unInt [AV.int IntKind.i64 (IntKind.wrap IntKind.i64 (IntKind.wrap IntKind.i64 ((↑(lmkM 3 ln) : Int) - (1 : Int)) - wi (IntKind.wrap IntKind.i64 (IntKind.wrap IntKind.i64 (Int.tdiv n (3 : Int)) + (0 : Int))) (min3 (lmkM 3 ln)))), AV.int IntKind.i64 (IntKind.wrap IntKind.i64 (IntKind.wrap IntKind.i64 ((↑(lmkM 3 ln) : Int) - (1 : Int)) - wi (IntKind.wrap IntKind.i64 (IntKind.wrap IntKind.i64 (Int.tdiv n (3 : Int)) + (1 : Int))) (min3 (lmkM 3 ln)))), AV.int IntKind.i64 (IntKind.wrap IntKind.i64 (IntKind.wrap IntKind.i64 ((↑(lmkM 3 ln) : Int) - (1 : Int)) - wi (IntKind.wrap IntKind.i64 (IntKind.wrap IntKind.i64 (Int.tdiv n (3 : Int)) + (2 : Int))) (min3 (lmkM 3 ln))))]) 0) 0 0 = List.getD (jacD kF 0 3 [valV ms lm 0, valV ms lm 1, valV ms lm 2] (unOps (opsL (lmkOps n 3 true ns ln))) (unInt [AV.int IntKind.i64 (IntKind.wrap IntKind.i64 (IntKind.wrap IntKind.i64 ((↑(lmkM 3 ln) : Int) - (1 : Int)) - wi (IntKind.wrap IntKind.i64 (IntKind.wrap IntKind.i64 (Int.tdiv n (3 : Int)) + (0 : Int))) (min3 (lmkM 3 ln)))), AV.int IntKind.i64 (IntKind.wrap IntKind.i64 (IntKind.wrap IntKind.i64 ((↑(lmkM 3 ln) : Int) - (1 : Int)) - wi (IntKind.wrap IntKind.i64 (IntKind.wrap IntKind.i64 (Int.tdiv n (3 : Int)) + (1 : Int))) (min3 (lmkM 3 ln)))), AV.int IntKind.i64 (IntKind.wrap IntKind.i64 (IntKind.wrap IntKind.i64 ((↑(lmkM 3 ln) : Int) - (1 : Int)) - wi (IntKind.wrap IntKind.i64 (IntKind.wrap IntKind.i64 (Int.tdiv n (3 : Int)) + (2 : Int))) (min3 (lmkM 3 ln))))]) 0) 0 0) && true)) && true)) && (List.all (opsL (lmkOps n 3 true ns ln)) AV.noOwn && true && true && pb (FldOk 3 IntKind.i64 3 (opsL (lmkOps n 3 true ns ln)) (lmkM 3 ln) [AV.int IntKind.i64 (IntKind.wrap IntKind.i64 (IntKind.wrap IntKind.i64 ((↑(lmkM 3 ln) : Int) - (1 : Int)) - wi (IntKind.wrap IntKind.i64 (IntKind.wrap IntKind.i64 (Int.tdiv n (3 : Int)) + (0 : Int))) (min3 (lmkM 3 ln)))), AV.int IntKind.i64 (IntKind.wrap IntKind.i64 (IntKind.wrap IntKind.i64 ((↑(lmkM 3 ln) : Int) - (1 : Int)) - wi (IntKind.wrap IntKind.i64 (IntKind.wrap IntKind.i64 (Int.tdiv n (3 : Int)) + (1 : Int))) (min3 (lmkM 3 ln)))), AV.int IntKind.i64 (IntKind.wrap IntKind.i64 (IntKind.wrap IntKind.i64 ((↑(lmkM 3 ln) : Int) - (1 : Int)) - wi (IntKind.wrap IntKind.i64 (IntKind.wrap IntKind.i64 (Int.tdiv n (3 : Int)) + (2 : Int))) (min3 (lmkM 3 ln))))] 3 ∧ XsOk 3 [AV.flt (valV ms lm 0), AV.flt (valV ms lm 1), AV.flt (valV ms lm 2)] 3) && (pb (IntKind.i64 = IntKind.i64 ∧ LmkOk ns ln ∧ wi n (3 : Int) + (1 : Int) = (3 : Int)) && (List.all (opsL (lmkOps n 3 true ns ln)) AV.noOwn && true && true && (pb (AV.agg [AV.fn 149 [] [], AV.fn 150 [] [], AV.fn 151 [] [], AV.fn 152 [] [], AV.fn 153 [] []] = AV.agg [AV.fn 149 [] [], AV.fn 150 [] [], AV.fn 151 [] [], AV.fn 152 [] [], AV.fn 153 [] []] ∧ FldOk 3 IntKind.i64 3 (opsL (lmkOps n 3 true ns ln)) (lmkM 3 ln) [AV.int IntKind.i64 (IntKind.wrap IntKind.i64 (IntKind.wrap IntKind.i64 ((↑(lmkM 3 ln) : Int) - (1 : Int)) - wi (IntKind.wrap IntKind.i64 (IntKind.wrap IntKind.i64 (Int.tdiv n (3 : Int)) + (0 : Int))) (min3 (lmkM 3 ln)))), AV.int IntKind.i64 (IntKind.wrap IntKind.i64 (IntKind.wrap IntKind.i64 ((↑(lmkM 3 ln) : Int) - (1 : Int)) - wi (IntKind.wrap IntKind.i64 (IntKind.wrap IntKind.i64 (Int.tdiv n (3 : Int)) + (1 : Int))) (min3 (lmkM 3 ln)))), AV.int IntKind.i64 (IntKind.wrap IntKind.i64 (IntKind.wrap IntKind.i64 ((↑(lmkM 3 ln) : Int) - (1 : Int)) - wi (IntKind.wrap IntKind.i64 (IntKind.wrap IntKind.i64 (Int.tdiv n (3 : Int)) + (2 : Int))) (min3 (lmkM 3 ln))))] 3 ∧ XsOk 3 [AV.flt (valV ms lm 0), AV.flt (valV ms lm 1), AV.flt (valV ms lm 2)] 3) && true) && (List.all (opsL (lmkOps n 3 true ns ln)) AV.noOwn && true && true && (pb (AV.agg [AV.fn 149 [] [], AV.fn 150 [] [], AV.fn 151 [] [], AV.fn 152 [] [], AV.fn 153 [] []] = AV.agg [AV.fn 149 [] [], AV.fn 150 [] [], AV.fn 151 [] [], AV.fn 152 [] [], AV.fn 153 [] []] ∧ FldOk 3 IntKind.i64 3 (opsL (lmkOps n 3 true ns ln)) (lmkM 3 ln) [AV.int IntKind.i64 (IntKind.wrap IntKind.i64 (IntKind.wrap IntKind.i64 ((↑(lmkM 3 ln) : Int) - (1 : Int)) - wi (IntKind.wrap IntKind.i64 (IntKind.wrap IntKind.i64 (Int.tdiv n (3 : Int)) + (0 : Int))) (min3 (lmkM 3 ln)))), AV.int IntKind.i64 (IntKind.wrap IntKind.i64 (IntKind.wrap IntKind.i64 ((↑(lmkM 3 ln) : Int) - (1 : Int)) - wi (IntKind.wrap IntKind.i64 (IntKind.wrap IntKind.i64 (Int.tdiv n (3 : Int)) + (1 : Int))) (min3 (lmkM 3 ln)))), AV.int IntKind.i64 (IntKind.wrap IntKind.i64 (IntKind.wrap IntKind.i64 ((↑(lmkM 3 ln) : Int) - (1 : Int)) - wi (IntKind.wrap IntKind.i64 (IntKind.wrap IntKind.i64 (Int.tdiv n (3 : Int)) + (2 : Int))) (min3 (lmkM 3 ln))))] 3 ∧ XsOk 3 [AV.flt (valV ms lm 0), AV.flt (valV ms lm 1), AV.flt (valV ms lm 2)] 3) && true) && (pb (IntKind.i64 = IntKind.i64 ∧ (3 : Int) = (3 : Int) ∧ LmkOk ms lm) && (pb (IntKind.i64 = IntKind.i64 ∧ (3 : Int) = (3 : Int) ∧ LmkOk ms lm) && (pb (IntKind.i64 = IntKind.i64 ∧ LmkOk ns ln ∧ wi n (3 : Int) + (1 : Int) = (3 : Int)) && true)))))))))) = true) : Con prog 11 [.int .i64 n, .snap ns ln, .snap ms lm, .int .i64 bt] nb (AV.bool true) [] :=
  con_evF OO3 mixed (qs := []) (dec := []) (r := ⟨(AV.bool true), [], (decide (valV ms lm 2 = valV ms lm 2) && (decide (valV ms lm 1 = valV ms lm 1) && (decide (valV ms lm 0 = valV ms lm 0) && true)) && (decide (List.getD (jacD kF 0 3 [valV ms lm 0, valV ms lm 1, valV ms lm 2] (unOps (opsL (lmkOps n 3 true ns ln))) (unInt [AV.int IntKind.i64 (IntKind.wrap IntKind.i64 (IntKind.wrap IntKind.i64 ((↑(lmkM 3 ln) : Int) - (1 : Int)) - wi (IntKind.wrap IntKind.i64 (IntKind.wrap IntKind.i64 (Int.tdiv n (3 : Int)) + (0 : Int))) (min3 (lmkM 3 ln)))), AV.int IntKind.i64 (IntKind.wrap IntKind.i64 (IntKind.wrap IntKind.i64 ((↑(lmkM 3 ln) : Int) - (1 : Int)) - wi (IntKind.wrap IntKind.i64 (IntKind.wrap IntKind.i64 (Int.tdiv n (3 : Int)) + (1 : Int))) (min3 (lmkM 3 ln)))), AV.int IntKind.i64 (IntKind.wrap IntKind.i64 (IntKind.wrap IntKind.i64 ((↑(lmkM 3 ln) : Int) - (1 : Int)) - wi (IntKind.wrap IntKind.i64 (IntKind.wrap IntKind.i64 (Int.tdiv n (3 : Int)) + (2 : Int))) (min3 (lmkM 3 ln))))]) 2) 2 0 = List.getD (jacD kF 0 3 [valV ms lm 0, valV ms lm 1, valV ms lm 2] (unOps (opsL (lmkOps n 3 true ns ln))) (unInt [AV.int IntKind.i64 (IntKind.wrap IntKind.i64 (IntKind.wrap IntKind.i64 ((↑(lmkM 3 ln) : Int) - (1 : Int)) - wi (IntKind.wrap IntKind.i64 (IntKind.wrap IntKind.i64 (Int.tdiv n (3 : Int)) + (0 : Int))) (min3 (lmkM 3 ln)))), AV.int IntKind.i64 (IntKind.wrap IntKind.i64 (IntKind.wrap IntKind.i64 ((↑(lmkM 3 ln) : Int) - (1 : Int)) - wi (IntKind.wrap IntKind.i64 (IntKind.wrap IntKind.i64 (Int.tdiv n (3 : Int)) + (1 : Int))) (min3 (lmkM 3 ln)))), AV.int IntKind.i64 (IntKind.wrap IntKind.i64 (IntKind.wrap IntKind.i64 ((↑(lmkM 3 ln) : Int) - (1 : Int)) - wi (IntKind.wrap IntKind.i64 (IntKind.wrap IntKind.i64 (Int.tdiv n (3 : Int)) + (2 : Int))) (min3 (lmkM 3 ln))))]) 2) 2 0) && (decide (List.getD (jacD kF 0 3 [valV ms lm 0, valV ms lm 1, valV ms lm 2] (unOps (opsL (lmkOps n 3 true ns ln))) (unInt [AV.int IntKind.i64 (IntKind.wrap IntKind.i64 (IntKind.wrap IntKind.i64 ((↑(lmkM 3 ln) : Int) - (1 : Int)) - wi (IntKind.wrap IntKind.i64 (IntKind.wrap IntKind.i64 (Int.tdiv n (3 : Int)) + (0 : Int))) (min3 (lmkM 3 ln)))), AV.int IntKind.i64 (IntKind.wrap IntKind.i64 (IntKind.wrap IntKind.i64 ((↑(lmkM 3 ln) : Int) - (1 : Int)) - wi (IntKind.wrap IntKind.i64 (IntKind.wrap IntKind.i64 (Int.tdiv n (3 : Int)) + (1 : Int))) (min3 (lmkM 3 ln)))), AV.int IntKind.i64 (IntKind.wrap IntKind.i64 (IntKind.wrap IntKind.i64 ((↑(lmkM 3 ln) : Int) - (1 : Int)) - wi (IntKind.wrap IntKind.i64 (IntKind.wrap IntKind.i64 (Int.tdiv n (3 : Int)) + (2 : Int))) (min3 (lmkM 3 ln))))]) 2) 1 0 = List.getD (jacD kF 0 3 [valV ms lm 0, valV ms lm 1, valV ms lm 2] (unOps (opsL (lmkOps n 3 true ns ln))) (unInt [AV.int IntKind.i64 (IntKind.wrap IntKind.i64 (IntKind.wrap IntKind.i64 ((↑(lmkM 3 ln) : Int) - (1 : Int)) - wi (IntKind.wrap IntKind.i64 (IntKind.wrap IntKind.i64 (Int.tdiv n (3 : Int)) + (0 : Int))) (min3 (lmkM 3 ln)))), AV.int IntKind.i64 (IntKind.wrap IntKind.i64 (IntKind.wrap IntKind.i64 ((↑(lmkM 3 ln) : Int) - (1 : Int)) - wi (IntKind.wrap IntKind.i64 (IntKind.wrap IntKind.i64 (Int.tdiv n (3 : Int)) + (1 : Int))) (min3 (lmkM 3 ln)))), AV.int IntKind.i64 (IntKind.wrap IntKind.i64 (IntKind.wrap IntKind.i64 ((↑(lmkM 3 ln) : Int) - (1 : Int)) - wi (IntKind.wrap IntKind.i64 (IntKind.wrap IntKind.i64 (Int.tdiv n (3 : Int)) + (2 : Int))) (min3 (lmkM 3 ln))))]) 2) 1 0) && (decide (List.getD (jacD kF 0 3 [valV ms lm 0, valV ms lm 1, valV ms lm 2] (unOps (opsL (lmkOps n 3 true ns ln))) (unInt [AV.int IntKind.i64 (IntKind.wrap IntKind.i64 (IntKind.wrap IntKind.i64 ((↑(lmkM 3 ln) : Int) - (1 : Int)) - wi (IntKind.wrap IntKind.i64 (IntKind.wrap IntKind.i64 (Int.tdiv n (3 : Int)) + (0 : Int))) (min3 (lmkM 3 ln)))), AV.int IntKind.i64 (IntKind.wrap IntKind.i64 (IntKind.wrap IntKind.i64 ((↑(lmkM 3 ln) : Int) - (1 : Int)) - wi (IntKind.wrap IntKind.i64 (IntKind.wrap IntKind.i64 (Int.tdiv n (3 : Int)) + (1 : Int))) (min3 (lmkM 3 ln)))), AV.int IntKind.i64 (IntKind.wrap IntKind.i64 (IntKind.wrap IntKind.i64 ((↑(lmkM 3 ln) : Int) - (1 : Int)) - wi (IntKind.wrap IntKind.i64 (IntKind.wrap IntKind.i64 (Int.tdiv n (3 : Int)) + (2 : Int))) (min3 (lmkM 3 ln))))]) 2) 0 0 = List.getD (jacD kF 0 3 [valV ms lm 0, valV ms lm 1, valV ms lm 2] (unOps (opsL (lmkOps n 3 true ns ln))) (unInt [AV.int IntKind.i64 (IntKind.wrap IntKind.i64 (IntKind.wrap IntKind.i64 ((↑(lmkM 3 ln) : Int) - (1 : Int)) - wi (IntKind.wrap IntKind.i64 (IntKind.wrap IntKind.i64 (Int.tdiv n (3 : Int)) + (0 : Int))) (min3 (lmkM 3 ln)))), AV.int IntKind.i64 (IntKind.wrap IntKind.i64 (IntKind.wrap IntKind.i64 ((↑(lmkM 3 ln) : Int) - (1 : Int)) - wi (IntKind.wrap IntKind.i64 (IntKind.wrap IntKind.i64 (Int.tdiv n (3 : Int)) + (1 : Int))) (min3 (lmkM 3 ln)))), AV.int IntKind.i64 (IntKind.wrap IntKind.i64 (IntKind.wrap IntKind.i64 ((↑(lmkM 3 ln) : Int) - (1 : Int)) - wi (IntKind.wrap IntKind.i64 (IntKind.wrap IntKind.i64 (Int.tdiv n (3 : Int)) + (2 : Int))) (min3 (lmkM 3 ln))))]) 2) 0 0) && true)) && (decide (List.getD (jacD kF 0 3 [valV ms lm 0, valV ms lm 1, valV ms lm 2] (unOps (opsL (lmkOps n 3 true ns ln))) (unInt [AV.int IntKind.i64 (IntKind.wrap IntKind.i64 (IntKind.wrap IntKind.i64 ((↑(lmkM 3 ln) : Int) - (1 : Int)) - wi (IntKind.wrap IntKind.i64 (IntKind.wrap IntKind.i64 (Int.tdiv n (3 : Int)) + (0 : Int))) (min3 (lmkM 3 ln)))), AV.int IntKind.i64 (IntKind.wrap IntKind.i64 (IntKind.wrap IntKind.i64 ((↑(lmkM 3 ln) : Int) - (1 : Int)) - wi (IntKind.wrap IntKind.i64 (IntKind.wrap IntKind.i64 (Int.tdiv n (3 : Int)) + (1 : Int))) (min3 (lmkM 3 ln)))), AV.int IntKind.i64 (IntKind.wrap IntKind.i64 (IntKind.wrap IntKind.i64 ((↑(lmkM 3 ln) : Int) - (1 : Int)) - wi (IntKind.wrap IntKind.i64 (IntKind.wrap IntKind.i64 (Int.tdiv n (3 : Int)) + (2 : Int))) (min3 (lmkM 3 ln))))]) 1) 2 0 = List.getD (jacD kF 0 3 [valV ms lm 0, valV ms lm 1, valV ms lm 2] (unOps (opsL (lmkOps n 3 true ns ln))) (unInt [AV.int IntKind.i64 (IntKind.wrap IntKind.i64 (IntKind.wrap IntKind.i64 ((↑(lmkM 3 ln) : Int) - (1 : Int)) - wi (IntKind.wrap IntKind.i64 (IntKind.wrap IntKind.i64 (Int.tdiv n (3 : Int)) + (0 : Int))) (min3 (lmkM 3 ln)))), AV.int IntKind.i64 (IntKind.wrap IntKind.i64 (IntKind.wrap IntKind.i64 ((↑(lmkM 3 ln) : Int) - (1 : Int)) - wi (IntKind.wrap IntKind.i64 (IntKind.wrap IntKind.i64 (Int.tdiv n (3 : Int)) + (1 : Int))) (min3 (lmkM 3 ln)))), AV.int IntKind.i64 (IntKind.wrap IntKind.i64 (IntKind.wrap IntKind.i64 ((↑(lmkM 3 ln) : Int) - (1 : Int)) - wi (IntKind.wrap IntKind.i64 (IntKind.wrap IntKind.i64 (Int.tdiv n (3 : Int)) + (2 : Int))) (min3 (lmkM 3 ln))))]) 1) 2 0) && (decide (List.getD (jacD kF 0 3 [valV ms lm 0, valV ms lm 1, valV ms lm 2] (unOps (opsL (lmkOps n 3 true ns ln))) (unInt [AV.int IntKind.i64 (IntKind.wrap IntKind.i64 (IntKind.wrap IntKind.i64 ((↑(lmkM 3 ln) : Int) - (1 : Int)) - wi (IntKind.wrap IntKind.i64 (IntKind.wrap IntKind.i64 (Int.tdiv n (3 : Int)) + (0 : Int))) (min3 (lmkM 3 ln)))), AV.int IntKind.i64 (IntKind.wrap IntKind.i64 (IntKind.wrap IntKind.i64 ((↑(lmkM 3 ln) : Int) - (1 : Int)) - wi (IntKind.wrap IntKind.i64 (IntKind.wrap IntKind.i64 (Int.tdiv n (3 : Int)) + (1 : Int))) (min3 (lmkM 3 ln)))), AV.int IntKind.i64 (IntKind.wrap IntKind.i64 (IntKind.wrap IntKind.i64 ((↑(lmkM 3 ln) : Int) - (1 : Int)) - wi (IntKind.wrap IntKind.i64 (IntKind.wrap IntKind.i64 (Int.tdiv n (3 : Int)) + (2 : Int))) (min3 (lmkM 3 ln))))]) 1) 1 0 = List.getD (jacD kF 0 3 [valV ms lm 0, valV ms lm 1, valV ms lm 2] (unOps (opsL (lmkOps n 3 true ns ln))) (unInt [AV.int IntKind.i64 (IntKind.wrap IntKind.i64 (IntKind.wrap IntKind.i64 ((↑(lmkM 3 ln) : Int) - (1 : Int)) - wi (IntKind.wrap IntKind.i64 (IntKind.wrap IntKind.i64 (Int.tdiv n (3 : Int)) + (0 : Int))) (min3 (lmkM 3 ln)))), AV.int IntKind.i64 (IntKind.wrap IntKind.i64 (IntKind.wrap IntKind.i64 ((↑(lmkM 3 ln) : Int) - (1 : Int)) - wi (IntKind.wrap IntKind.i64 (IntKind.wrap IntKind.i64 (Int.tdiv n (3 : Int)) + (1 : Int))) (min3 (lmkM 3 ln)))), AV.int IntKind.i64 (IntKind.wrap IntKind.i64 (IntKind.wrap IntKind.i64 ((↑(lmkM 3 ln) : Int) - (1 : Int)) - wi (IntKind.wrap IntKind.i64 (IntKind.wrap IntKind.i64 (Int.tdiv n (3 : Int)) + (2 : Int))) (min3 (lmkM 3 ln))))]) 1) 1 0) && (decide (List.getD (jacD kF 0 3 [valV ms lm 0, valV ms lm 1, valV ms lm 2] (unOps (opsL (lmkOps n 3 true ns ln))) (unInt [AV.int IntKind.i64 (IntKind.wrap IntKind.i64 (IntKind.wrap IntKind.i64 ((↑(lmkM 3 ln) : Int) - (1 : Int)) - wi (IntKind.wrap IntKind.i64 (IntKind.wrap IntKind.i64 (Int.tdiv n (3 : Int)) + (0 : Int))) (min3 (lmkM 3 ln)))), AV.int IntKind.i64 (IntKind.wrap IntKind.i64 (IntKind.wrap IntKind.i64 ((↑(lmkM 3 ln) : Int) - (1 : Int)) - wi (IntKind.wrap IntKind.i64 (IntKind.wrap IntKind.i64 (Int.tdiv n (3 : Int)) + (1 : Int))) (min3 (lmkM 3 ln)))), AV.int IntKind.i64 (IntKind.wrap IntKind.i64 (IntKind.wrap IntKind.i64 ((↑(lmkM 3 ln) : Int) - (1 : Int)) - wi (IntKind.wrap IntKind.i64 (IntKind.wrap IntKind.i64 (Int.tdiv n (3 : Int)) + (2 : Int))) (min3 (lmkM 3 ln))))]) 1) 0 0 = List.getD (jacD kF 0 3 [valV ms lm 0, valV ms lm 1, valV ms lm 2] (unOps (opsL (lmkOps n 3 true ns ln))) (unInt [AV.int IntKind.i64 (IntKind.wrap IntKind.i64 (IntKind.wrap IntKind.i64 ((↑(lmkM 3 ln) : Int) - (1 : Int)) - wi (IntKind.wrap IntKind.i64 (IntKind.wrap IntKind.i64 (Int.tdiv n (3 : Int)) + (0 : Int))) (min3 (lmkM 3 ln)))), AV.int IntKind.i64 (IntKind.wrap IntKind.i64 (IntKind.wrap IntKind.i64 ((↑(lmkM 3 ln) : Int) - (1 : Int)) - wi (IntKind.wrap IntKind.i64 (IntKind.wrap IntKind.i64 (Int.tdiv n (3 : Int)) + (1 : Int))) (min3 (lmkM 3 ln)))), AV.int IntKind.i64 (IntKind.wrap IntKind.i64 (IntKind.wrap IntKind.i64 ((↑(lmkM 3 ln) : Int) - (1 : Int)) - wi (IntKind.wrap IntKind.i64 (IntKind.wrap IntKind.i64 (Int.tdiv n (3 : Int)) + (2 : Int))) (min3 (lmkM 3 ln))))]) 1) 0 0) && true)) && (decide (List.getD (jacD kF 0 3 [valV ms lm 0, valV ms lm 1, valV ms lm 2] (unOps (opsL (lmkOps n 3 true ns ln))) (unInt [AV.int IntKind.i64 (IntKind.wrap IntKind.i64 (IntKind.wrap IntKind.i64 ((↑(lmkM 3 ln) : Int) - (1 : Int)) - wi (IntKind.wrap IntKind.i64 (IntKind.wrap IntKind.i64 (Int.tdiv n (3 : Int)) + (0 : Int))) (min3 (lmkM 3 ln)))), AV.int IntKind.i64 (IntKind.wrap IntKind.i64 (IntKind.wrap IntKind.i64 ((↑(lmkM 3 ln) : Int) - (1 : Int)) - wi (IntKind.wrap IntKind.i64 (IntKind.wrap IntKind.i64 (Int.tdiv n (3 : Int)) + (1 : Int))) (min3 (lmkM 3 ln)))), AV.int IntKind.i64 (IntKind.wrap IntKind.i64 (IntKind.wrap IntKind.i64 ((↑(lmkM 3 ln) : Int) - (1 : Int)) - wi (IntKind.wrap IntKind.i64 (IntKind.wrap IntKind.i64 (Int.tdiv n (3 : Int)) + (2 : Int))) (min3 (lmkM 3 ln))))]) 0) 2 0 = List.getD (jacD kF 0 3 [valV ms lm 0, valV ms lm 1, valV ms lm 2] (unOps (opsL (lmkOps n 3 true ns ln))) (unInt [AV.int IntKind.i64 (IntKind.wrap IntKind.i64 (IntKind.wrap IntKind.i64 ((↑(lmkM 3 ln) : Int) - (1 : Int)) - wi (IntKind.wrap IntKind.i64 (IntKind.wrap IntKind.i64 (Int.tdiv n (3 : Int)) + (0 : Int))) (min3 (lmkM 3 ln)))), AV.int IntKind.i64 (IntKind.wrap IntKind.i64 (IntKind.wrap IntKind.i64 ((↑(lmkM 3 ln) : Int) - (1 : Int)) - wi (IntKind.wrap IntKind.i64 (IntKind.wrap IntKind.i64 (Int.tdiv n (3 : Int)) + (1 : Int))) (min3 (lmkM 3 ln)))), AV.int IntKind.i64 (IntKind.wrap IntKind.i64 (IntKind.wrap IntKind.i64 ((↑(lmkM 3 ln) : Int) - (1 : Int)) - wi (IntKind.wrap IntKind.i64 (IntKind.wrap IntKind.i64 (Int.tdiv n (3 : Int)) + (2 : Int))) (min3 (lmkM 3 ln))))]) 0) 2 0) && (decide (List.getD (jacD kF 0 3 [valV ms lm 0, valV ms lm 1, valV ms lm 2] (unOps (opsL (lmkOps n 3 true ns ln))) (unInt [AV.int IntKind.i64 (IntKind.wrap IntKind.i64 (IntKind.wrap IntKind.i64 ((↑(lmkM 3 ln) : Int) - (1 : Int)) - wi (IntKind.wrap IntKind.i64 (IntKind.wrap IntKind.i64 (Int.tdiv n (3 : Int)) + (0 : Int))) (min3 (lmkM 3 ln)))), AV.int IntKind.i64 (IntKind.wrap IntKind.i64 (IntKind.wrap IntKind.i64 ((↑(lmkM 3 ln) : Int) - (1 : Int)) - wi (IntKind.wrap IntKind.i64 (IntKind.wrap IntKind.i64 (Int.tdiv n (3 : Int)) + (1 : Int))) (min3 (lmkM 3 ln)))), AV.int IntKind.i64 (IntKind.wrap IntKind.i64 (IntKind.wrap IntKind.i64 ((↑(lmkM 3 ln) : Int) - (1 : Int)) - wi (IntKind.wrap IntKind.i64 (IntKind.wrap IntKind.i64 (Int.tdiv n (3 : Int)) + (2 : Int))) (min3 (lmkM 3 ln))))]) 0) 1 0 = List.getD (jacD kF 0 3 [valV ms lm 0, valV ms lm 1, valV ms lm 2] (unOps (opsL (lmkOps n 3 true ns ln))) (unInt [AV.int IntKind.i64 (IntKind.wrap IntKind.i64 (IntKind.wrap IntKind.i64 ((↑(lmkM 3 ln) : Int) - (1 : Int)) - wi (IntKind.wrap IntKind.i64 (IntKind.wrap IntKind.i64 (Int.tdiv n (3 : Int)) + (0 : Int))) (min3 (lmkM 3 ln)))), AV.int IntKind.i64 (IntKind.wrap IntKind.i64 (IntKind.wrap IntKind.i64 ((↑(lmkM 3 ln) : Int) - (1 : Int)) - wi (IntKind.wrap IntKind.i64 (IntKind.wrap IntKind.i64 (Int.tdiv n (3 : Int)) + (1 : Int))) (min3 (lmkM 3 ln)))), AV.int IntKind.i64 (IntKind.wrap IntKind.i64 (IntKind.wrap IntKind.i64 ((↑(lmkM 3 ln) : Int) - (1 : Int)) - wi (IntKind.wrap IntKind.i64 (IntKind.wrap IntKind.i64 (Int.tdiv n (3 : Int)) + (2 : Int))) (min3 (lmkM 3 ln))))]) 0) 1 0) && (decide (List.getD (jacD kF 0 3 [valV ms lm 0, valV ms lm 1, valV ms lm 2] (unOps (opsL (lmkOps n 3 true ns ln))) (unInt [AV.int IntKind.i64 (IntKind.wrap IntKind.i64 (IntKind.wrap IntKind.i64 ((↑(lmkM 3 ln) : Int) - (1 : Int)) - wi (IntKind.wrap IntKind.i64 (IntKind.wrap IntKind.i64 (Int.tdiv n (3 : Int)) + (0 : Int))) (min3 (lmkM 3 ln)))), AV.int IntKind.i64 (IntKind.wrap IntKind.i64 (IntKind.wrap IntKind.i64 ((↑(lmkM 3 ln) : Int) - (1 : Int)) - wi (IntKind.wrap IntKind.i64 (IntKind.wrap IntKind.i64 (Int.tdiv n (3 : Int)) + (1 : Int))) (min3 (lmkM 3 ln)))), AV.int IntKind.i64 (IntKind.wrap IntKind.i64 (IntKind.wrap IntKind.i64 ((↑(lmkM 3 ln) : Int) - (1 : Int)) - wi (IntKind.wrap IntKind.i64 (IntKind.wrap IntKind.i64 (Int.tdiv n (3 : Int)) + (2 : Int))) (min3 (lmkM 3 ln))))]) 0) 0 0 = List.getD (jacD kF 0 3 [valV ms lm 0, valV ms lm 1, valV ms lm 2] (unOps (opsL (lmkOps n 3 true ns ln))) (unInt [AV.int IntKind.i64 (IntKind.wrap IntKind.i64 (IntKind.wrap IntKind.i64 ((↑(lmkM 3 ln) : Int) - (1 : Int)) - wi (IntKind.wrap IntKind.i64 (IntKind.wrap IntKind.i64 (Int.tdiv n (3 : Int)) + (0 : Int))) (min3 (lmkM 3 ln)))), AV.int IntKind.i64 (IntKind.wrap IntKind.i64 (IntKind.wrap IntKind.i64 ((↑(lmkM 3 ln) : Int) - (1 : Int)) - wi (IntKind.wrap IntKind.i64 (IntKind.wrap IntKind.i64 (Int.tdiv n (3 : Int)) + (1 : Int))) (min3 (lmkM 3 ln)))), AV.int IntKind.i64 (IntKind.wrap IntKind.i64 (IntKind.wrap IntKind.i64 ((↑(lmkM 3 ln) : Int) - (1 : Int)) - wi (IntKind.wrap IntKind.i64 (IntKind.wrap IntKind.i64 (Int.tdiv n (3 : Int)) + (2 : Int))) (min3 (lmkM 3 ln))))]) 0) 0 0) && true)) && true)) && (List.all (opsL (lmkOps n 3 true ns ln)) AV.noOwn && true && true && pb (FldOk 3 IntKind.i64 3 (opsL (lmkOps n 3 true ns ln)) (lmkM 3 ln) [AV.int IntKind.i64 (IntKind.wrap IntKind.i64 (IntKind.wrap IntKind.i64 ((↑(lmkM 3 ln) : Int) - (1 : Int)) - wi (IntKind.wrap IntKind.i64 (IntKind.wrap IntKind.i64 (Int.tdiv n (3 : Int)) + (0 : Int))) (min3 (lmkM 3 ln)))), AV.int IntKind.i64 (IntKind.wrap IntKind.i64 (IntKind.wrap IntKind.i64 ((↑(lmkM 3 ln) : Int) - (1 : Int)) - wi (IntKind.wrap IntKind.i64 (IntKind.wrap IntKind.i64 (Int.tdiv n (3 : Int)) + (1 : Int))) (min3 (lmkM 3 ln)))), AV.int IntKind.i64 (IntKind.wrap IntKind.i64 (IntKind.wrap IntKind.i64 ((↑(lmkM 3 ln) : Int) - (1 : Int)) - wi (IntKind.wrap IntKind.i64 (IntKind.wrap IntKind.i64 (Int.tdiv n (3 : Int)) + (2 : Int))) (min3 (lmkM 3 ln))))] 3 ∧ XsOk 3 [AV.flt (valV ms lm 0), AV.flt (valV ms lm 1), AV.flt (valV ms lm 2)] 3) && (pb (IntKind.i64 = IntKind.i64 ∧ LmkOk ns ln ∧ wi n (3 : Int) + (1 : Int) = (3 : Int)) && (List.all (opsL (lmkOps n 3 true ns ln)) AV.noOwn && true && true && (pb (AV.agg [AV.fn 149 [] [], AV.fn 150 [] [], AV.fn 151 [] [], AV.fn 152 [] [], AV.fn 153 [] []] = AV.agg [AV.fn 149 [] [], AV.fn 150 [] [], AV.fn 151 [] [], AV.fn 152 [] [], AV.fn 153 [] []] ∧ FldOk 3 IntKind.i64 3 (opsL (lmkOps n 3 true ns ln)) (lmkM 3 ln) [AV.int IntKind.i64 (IntKind.wrap IntKind.i64 (IntKind.wrap IntKind.i64 ((↑(lmkM 3 ln) : Int) - (1 : Int)) - wi (IntKind.wrap IntKind.i64 (IntKind.wrap IntKind.i64 (Int.tdiv n (3 : Int)) + (0 : Int))) (min3 (lmkM 3 ln)))), AV.int IntKind.i64 (IntKind.wrap IntKind.i64 (IntKind.wrap IntKind.i64 ((↑(lmkM 3 ln) : Int) - (1 : Int)) - wi (IntKind.wrap IntKind.i64 (IntKind.wrap IntKind.i64 (Int.tdiv n (3 : Int)) + (1 : Int))) (min3 (lmkM 3 ln)))), AV.int IntKind.i64 (IntKind.wrap IntKind.i64 (IntKind.wrap IntKind.i64 ((↑(lmkM 3 ln) : Int) - (1 : Int)) - wi (IntKind.wrap IntKind.i64 (IntKind.wrap IntKind.i64 (Int.tdiv n (3 : Int)) + (2 : Int))) (min3 (lmkM 3 ln))))] 3 ∧ XsOk 3 [AV.flt (valV ms lm 0), AV.flt (valV ms lm 1), AV.flt (valV ms lm 2)] 3) && true) && (List.all (opsL (lmkOps n 3 true ns ln)) AV.noOwn && true && true && (pb (AV.agg [AV.fn 149 [] [], AV.fn 150 [] [], AV.fn 151 [] [], AV.fn 152 [] [], AV.fn 153 [] []] = AV.agg [AV.fn 149 [] [], AV.fn 150 [] [], AV.fn 151 [] [], AV.fn 152 [] [], AV.fn 153 [] []] ∧ FldOk 3 IntKind.i64 3 (opsL (lmkOps n 3 true ns ln)) (lmkM 3 ln) [AV.int IntKind.i64 (IntKind.wrap IntKind.i64 (IntKind.wrap IntKind.i64 ((↑(lmkM 3 ln) : Int) - (1 : Int)) - wi (IntKind.wrap IntKind.i64 (IntKind.wrap IntKind.i64 (Int.tdiv n (3 : Int)) + (0 : Int))) (min3 (lmkM 3 ln)))), AV.int IntKind.i64 (IntKind.wrap IntKind.i64 (IntKind.wrap IntKind.i64 ((↑(lmkM 3 ln) : Int) - (1 : Int)) - wi (IntKind.wrap IntKind.i64 (IntKind.wrap IntKind.i64 (Int.tdiv n (3 : Int)) + (1 : Int))) (min3 (lmkM 3 ln)))), AV.int IntKind.i64 (IntKind.wrap IntKind.i64 (IntKind.wrap IntKind.i64 ((↑(lmkM 3 ln) : Int) - (1 : Int)) - wi (IntKind.wrap IntKind.i64 (IntKind.wrap IntKind.i64 (Int.tdiv n (3 : Int)) + (2 : Int))) (min3 (lmkM 3 ln))))] 3 ∧ XsOk 3 [AV.flt (valV ms lm 0), AV.flt (valV ms lm 1), AV.flt (valV ms lm 2)] 3) && true) && (pb (IntKind.i64 = IntKind.i64 ∧ (3 : Int) = (3 : Int) ∧ LmkOk ms lm) && (pb (IntKind.i64 = IntKind.i64 ∧ (3 : Int) = (3 : Int) ∧ LmkOk ms lm) && (pb (IntKind.i64 = IntKind.i64 ∧ LmkOk ns ln ∧ wi n (3 : Int) + (1 : Int) = (3 : Int)) && true)))))))))⟩) (by kernel_rfl) hok
end Go.Eng.Try
/- JacOwn, part 2: the law's contract. Condition: the numbers are rows of integers. -/
namespace Go.Eng
open Go Go.RowKit Go.Eng.Try

theorem and_t {a b : Bool} (ha : a = true) (hb : b = true) : (a && b) = true := by rw [ha, hb]; rfl
theorem lmkOk_ints {zs : List Int} {len : Nat} (h : len ≤ zs.length) : LmkOk (zs.map (AV.int .i64)) len := by
  refine ⟨by simpa using h, fun i hi => ?_⟩
  have h2 : i < zs.length := by simpa using hi
  simp [List.getD_eq_getElem?_getD, List.getElem?_eq_getElem h2, AV.isInt]
theorem wi3 (n : Int) : wi n 3 + 1 = (1 : Nat) ∨ wi n 3 + 1 = (2 : Nat) ∨ wi n 3 + 1 = (3 : Nat) := by
  have := wi_range n 3 (by omega) (by omega)
  omega

namespace Try
open Go.Proofs.Try

theorem con_jacOwn (n : Int) (zs : List Int) (len : Nat) (h : len ≤ zs.length) (ms : List Int) (lm : Nat) (hm : lm ≤ ms.length) (bt : Int) (nb : Nat) :
    Con prog 11 [.int .i64 n, .snap (zs.map (AV.int .i64)) len, .snap (ms.map (AV.int .i64)) lm, .int .i64 bt] nb (.bool true) [] := by
  have h1 := lmkOk_ints h
  have h2 := lmkOk_ints hm
  generalize zs.map (AV.int .i64) = ns at *
  generalize ms.map (AV.int .i64) = mc at *
  rcases wi3 n with hN | hN | hN
  · refine jacOwn1 n ns len mc lm bt nb ?_
    repeat' (with_reducible apply and_t)
    all_goals first
      | rfl
      | exact trivial
      | exact decide_eq_true rfl
      | exact opsL_noOwn _
      | exact intL_noOwn _
      | exact fltL_noOwn _
      | exact pb_of ⟨rfl, h1, hN⟩
      | exact pb_of ⟨rfl, rfl, h2⟩
      | exact pb_of ⟨rfl, fld_lmk n 1 (by omega) true ns len, xs_vals 1 mc lm⟩
      | exact pb_of ⟨fld_lmk n 1 (by omega) true ns len, xs_vals 1 mc lm⟩
  · refine jacOwn2 n ns len mc lm bt nb ?_
    repeat' (with_reducible apply and_t)
    all_goals first
      | rfl
      | exact trivial
      | exact decide_eq_true rfl
      | exact opsL_noOwn _
      | exact intL_noOwn _
      | exact fltL_noOwn _
      | exact pb_of ⟨rfl, h1, hN⟩
      | exact pb_of ⟨rfl, rfl, h2⟩
      | exact pb_of ⟨rfl, fld_lmk n 2 (by omega) true ns len, xs_vals 2 mc lm⟩
      | exact pb_of ⟨fld_lmk n 2 (by omega) true ns len, xs_vals 2 mc lm⟩
  · refine jacOwn3 n ns len mc lm bt nb ?_
    repeat' (with_reducible apply and_t)
    all_goals first
      | rfl
      | exact trivial
      | exact decide_eq_true rfl
      | exact opsL_noOwn _
      | exact intL_noOwn _
      | exact fltL_noOwn _
      | exact pb_of ⟨rfl, h1, hN⟩
      | exact pb_of ⟨rfl, rfl, h2⟩
      | exact pb_of ⟨rfl, fld_lmk n 3 (by omega) true ns len, xs_vals 3 mc lm⟩
      | exact pb_of ⟨fld_lmk n 3 (by omega) true ns len, xs_vals 3 mc lm⟩
end Try
end Go.Eng
/- JacSums, part 1: the law by pieces. Condition: as each piece says. Written by wip/tools/kg.py. -/
namespace Go.Eng.Try
open Go Go.Eng Go.RowKit Go.Proofs.Try
noncomputable def suC : Code := codeOf prog 8
noncomputable def suBody : Code := cL (cL (cR (cL (cR (cR (cR suC))))))

theorem suA1 (n : Int) (ns : List AV) (ln : Nat) (ms : List AV) (lm : Nat) (d : Bool) (w0 : World) (dec1 : List Bool) : Goes CO1 w0 200 (cL suC) (St0 [.int .i64 n, .snap ns ln, .snap ms lm, .bool d] []) Ex.normal (mk [0,1,2,3] [AV.int IntKind.i64 n, AV.snap ns ln, AV.snap ms lm, AV.bool d] [] dec1) :=
  goes_viewK' OO1 mixed (qs := []) (fuel := 8) [] (by kernel_rfl) rfl dec1
theorem suB1 (n : Int) (ns : List AV) (ln : Nat) (ms : List AV) (lm : Nat) (d : Bool) (w0 : World) (dec0 dec1 : List Bool) : Goes CO1 w0 200 (cL (cR suC)) (mk [0,1,2,3] [.int .i64 n, .snap ns ln, .snap ms lm, .bool d] [] dec0) Ex.normal (mk [0,1,2,3] [AV.int IntKind.i64 n, AV.snap ns ln, AV.snap ms lm, AV.bool d] [] dec1) :=
  goes_re (dec := []) (goes_viewK' OO1 mixed (qs := []) (fuel := 8) [] (by kernel_rfl) rfl dec1)
theorem suD1 (n : Int) (ns : List AV) (ln : Nat) (ms : List AV) (lm : Nat) (d : Bool) (w0 : World) (dec0 dec1 : List Bool) (hok : (((List.all (opsL (lmkOps n 1 false ns ln)) AV.noOwn) && true && (pb (IntKind.i64 = IntKind.i64 ∧ LmkOk ns ln ∧ wi n (3 : Int) + (1 : Int) = (1 : Int)) && true))) = true) : Goes CO1 w0 200 (cL (cR (cR suC))) (mk [0,1,2,3] [.int .i64 n, .snap ns ln, .snap ms lm, .bool d] [] dec0) Ex.normal (mk [2,3,9] [AV.snap ms lm, AV.bool d, AV.ptr 0 0] [ABlk.mk [AV.int IntKind.i64 1, AV.slc 1 0 (lmkM 1 ln), AV.slc 2 0 1] 53, ABlk.mk (opsL (lmkOps n 1 false ns ln)) 57, ABlk.mk [AV.int IntKind.i64 (IntKind.wrap IntKind.i64 (IntKind.wrap IntKind.i64 ((↑(lmkM 1 ln) : Int) - (1 : Int)) - wi (IntKind.wrap IntKind.i64 (IntKind.wrap IntKind.i64 (Int.tdiv n (3 : Int)) + (0 : Int))) (min3 (lmkM 1 ln))))] 3] dec1) :=
  goes_re (dec := []) (goes_viewK' OO1 mixed (qs := []) (fuel := 8) [.lit, .flat, .flat] (by kernel_rfl) hok dec1)
theorem suE1 (ms : List AV) (lm : Nat) (d : Bool) (ops : List TOp) (m : Nat) (u0 : Int) (w0 : World) (dec0 dec1 : List Bool) (hok : (((List.all (opsL ops) AV.noOwn) && true && true)) = true) : Goes CO1 w0 200 (cL (cL (cR (cR (cR suC))))) (mk [2,3,9] [.snap ms lm, .bool d, .ptr 0 0] [⟨[.int .i64 1, .slc 1 0 m, .slc 2 0 1], 53⟩, ⟨opsL ops, 57⟩, ⟨[.int .i64 u0], 3⟩] dec0) Ex.normal (mk [2,3,9,10] [AV.snap ms lm, AV.bool d, AV.ptr 0 0, AV.int IntKind.i64 0] [ABlk.mk [AV.int IntKind.i64 1, AV.slc 1 0 m, AV.slc 2 0 1] 53, ABlk.mk (opsL ops) 57, ABlk.mk [AV.int IntKind.i64 u0] 3] dec1) :=
  goes_re (dec := []) (goes_viewK' OO1 mixed (qs := []) (fuel := 8) [.lit, .flat, .lit] (by kernel_rfl) hok dec1)
theorem suI1 (ms : List AV) (lm : Nat) (d : Bool) (ops : List TOp) (m : Nat) (u0 : Int) (i : Nat) (ops1 : List TOp) (w0 : World) (dec0 dec1 : List Bool) (hok : ((pb (SubP true [] [0, 1, 2] 0 (setL (opsL ops) (0 + Int.toNat (↑i : Int) * 4 + 3) [AV.flt (fofint (fcut (AV.toFlt (List.getD (opsL ops) (0 + Int.toNat (↑i : Int) * 4 + 3) AV.undef))))]) (opsL ops1)) && true && (Nat.ble (0 + Int.toNat (↑i : Int) * 4 + 3 + 1) (List.length (opsL ops)) && true && (decide ((0 : Int) ≤ (↑i : Int) ∧ (↑i : Int) < (↑m : Int)) && (fcutOk IntKind.i64 (AV.toFlt (List.getD (opsL ops) (0 + Int.toNat (↑i : Int) * 4 + 3) AV.undef)) && (Nat.blt (0 + Int.toNat (↑i : Int) * 4 + 3) (List.length (opsL ops)) && AV.isFlt (List.getD (opsL ops) (0 + Int.toNat (↑i : Int) * 4 + 3) AV.undef) && (decide ((0 : Int) ≤ (↑i : Int) ∧ (↑i : Int) < (↑m : Int)) && (decide ((↑i : Int) < (↑m : Int)) && true)))))))) = true) : Goes CO1 w0 200 (suBody) (mk [2,3,9,10] [.snap ms lm, .bool d, .ptr 0 0, .int .i64 (i : Int)] [⟨[.int .i64 1, .slc 1 0 m, .slc 2 0 1], 53⟩, ⟨opsL ops, 57⟩, ⟨[.int .i64 u0], 3⟩] dec0) Ex.normal (mk [2,3,9,10] [AV.snap ms lm, AV.bool d, AV.ptr 0 0, AV.int IntKind.i64 (IntKind.wrap IntKind.i64 ((↑i : Int) + (1 : Int)))] [ABlk.mk [AV.int IntKind.i64 1, AV.slc 1 0 m, AV.slc 2 0 1] 53, ABlk.mk (opsL ops1) 57, ABlk.mk [AV.int IntKind.i64 u0] 3] dec1) :=
  goes_re (dec := [true]) (goes_viewK' OO1 mixed (qs := [30]) (fuel := 8) [.lit, .giv (opsL ops1) [], .lit] (by kernel_rfl) hok dec1)
theorem suX1 (ms : List AV) (lm : Nat) (d : Bool) (ops : List TOp) (m : Nat) (u0 : Int) (i : Nat) (w0 : World) (dec0 dec1 : List Bool) (hok : (((List.all (opsL ops) AV.noOwn) && true && (!decide ((↑i : Int) < (↑m : Int)) && true))) = true) : Goes CO1 w0 200 (suBody) (mk [2,3,9,10] [.snap ms lm, .bool d, .ptr 0 0, .int .i64 (i : Int)] [⟨[.int .i64 1, .slc 1 0 m, .slc 2 0 1], 53⟩, ⟨opsL ops, 57⟩, ⟨[.int .i64 u0], 3⟩] dec0) (Ex.exit 0) (mk [2,3,9] [AV.snap ms lm, AV.bool d, AV.ptr 0 0] [ABlk.mk [AV.int IntKind.i64 1, AV.slc 1 0 m, AV.slc 2 0 1] 53, ABlk.mk (opsL ops) 57, ABlk.mk [AV.int IntKind.i64 u0] 3] dec1) :=
  goes_re (dec := [false]) (goes_viewK' OO1 mixed (qs := [30]) (fuel := 8) [.lit, .flat, .lit] (by kernel_rfl) hok dec1)
theorem suZ1f (ms : List AV) (lm : Nat) (ops : List TOp) (m : Nat) (u0 : Int) (w0 : World) (dec0 dec1 : List Bool) (hok : ((decide (List.getD (jacD kF 0 1 [fofint (fcut (valV ms lm 0))] (unOps ([] ++ List.take (m * 4) (opsL ops) ++ [AV.int IntKind.i64 2, AV.int IntKind.i64 u0, AV.int IntKind.i64 u0, AV.flt 0])) (unInt [AV.int IntKind.i64 (↑(0 + m) : Int)]) 0) 0 0 = fadd (List.getD (jacD kF 0 1 [fofint (fcut (valV ms lm 0))] (unOps (opsL ops)) (unInt [AV.int IntKind.i64 u0]) 0) 0 0) (List.getD (jacD kF 0 1 [fofint (fcut (valV ms lm 0))] (unOps (opsL ops)) (unInt [AV.int IntKind.i64 u0]) 0) 0 0)) && (List.all ([] ++ List.take (m * 4) (opsL ops) ++ [AV.int IntKind.i64 2, AV.int IntKind.i64 u0, AV.int IntKind.i64 u0, AV.flt 0]) AV.noOwn && true && true && (pb (AV.agg [AV.fn 149 [] [], AV.fn 150 [] [], AV.fn 151 [] [], AV.fn 152 [] [], AV.fn 153 [] []] = AV.agg [AV.fn 149 [] [], AV.fn 150 [] [], AV.fn 151 [] [], AV.fn 152 [] [], AV.fn 153 [] []] ∧ FldOk 1 IntKind.i64 1 ([] ++ List.take (m * 4) (opsL ops) ++ [AV.int IntKind.i64 2, AV.int IntKind.i64 u0, AV.int IntKind.i64 u0, AV.flt 0]) (0 + m + 1) [AV.int IntKind.i64 (↑(0 + m) : Int)] 1 ∧ XsOk 1 [AV.flt (fofint (fcut (valV ms lm 0)))] 1) && true) && (List.all (opsL ops) AV.noOwn && true && true && (pb (AV.agg [AV.fn 149 [] [], AV.fn 150 [] [], AV.fn 151 [] [], AV.fn 152 [] [], AV.fn 153 [] []] = AV.agg [AV.fn 149 [] [], AV.fn 150 [] [], AV.fn 151 [] [], AV.fn 152 [] [], AV.fn 153 [] []] ∧ FldOk 1 IntKind.i64 1 (opsL ops) m [AV.int IntKind.i64 u0] 1 ∧ XsOk 1 [AV.flt (fofint (fcut (valV ms lm 0)))] 1) && true) && (fcutOk IntKind.i64 (valV ms lm 0) && (pb (IntKind.i64 = IntKind.i64 ∧ (1 : Int) = (1 : Int) ∧ LmkOk ms lm) && (decide (List.length ([] ++ List.take (m * 4) (opsL ops)) = (0 + m) * 4 ∧ (0 + m + 1) * 32 ≤ 140737488355328 ∧ 0 + m + 1 ≤ 9223372036854775807) && (Nat.ble (0 + m * 4) (List.length (opsL ops)) && List.all (List.take (m * 4) (opsL ops)) AV.one && decide (0 = 0 ∧ (0 + m) * 32 ≤ 140737488355328 ∧ 0 + m ≤ 9223372036854775807) && true)))))))) = true) : Goes CO1 w0 200 (cR (cR (cR (cR suC)))) (mk [2,3,9] [.snap ms lm, .bool false, .ptr 0 0] [⟨[.int .i64 1, .slc 1 0 m, .slc 2 0 1], 53⟩, ⟨opsL ops, 57⟩, ⟨[.int .i64 u0], 3⟩] dec0) Ex.ret (mk [8] [AV.bool true] [] dec1) :=
  goes_re (dec := []) (goes_viewK' OO1 mixed (qs := []) (fuel := 8) [] (by kernel_rfl) hok dec1)
theorem suZ1t (ms : List AV) (lm : Nat) (ops : List TOp) (m : Nat) (u0 : Int) (w0 : World) (dec0 dec1 : List Bool) (hok : ((decide (List.getD (jacD kF 0 1 [fofint (fcut (valV ms lm 0))] (unOps ([] ++ List.take (m * 4) (opsL ops) ++ [AV.int IntKind.i64 3, AV.int IntKind.i64 u0, AV.int IntKind.i64 u0, AV.flt 0])) (unInt [AV.int IntKind.i64 (↑(0 + m) : Int)]) 0) 0 0 = fsub (List.getD (jacD kF 0 1 [fofint (fcut (valV ms lm 0))] (unOps (opsL ops)) (unInt [AV.int IntKind.i64 u0]) 0) 0 0) (List.getD (jacD kF 0 1 [fofint (fcut (valV ms lm 0))] (unOps (opsL ops)) (unInt [AV.int IntKind.i64 u0]) 0) 0 0)) && (List.all ([] ++ List.take (m * 4) (opsL ops) ++ [AV.int IntKind.i64 3, AV.int IntKind.i64 u0, AV.int IntKind.i64 u0, AV.flt 0]) AV.noOwn && true && true && (pb (AV.agg [AV.fn 149 [] [], AV.fn 150 [] [], AV.fn 151 [] [], AV.fn 152 [] [], AV.fn 153 [] []] = AV.agg [AV.fn 149 [] [], AV.fn 150 [] [], AV.fn 151 [] [], AV.fn 152 [] [], AV.fn 153 [] []] ∧ FldOk 1 IntKind.i64 1 ([] ++ List.take (m * 4) (opsL ops) ++ [AV.int IntKind.i64 3, AV.int IntKind.i64 u0, AV.int IntKind.i64 u0, AV.flt 0]) (0 + m + 1) [AV.int IntKind.i64 (↑(0 + m) : Int)] 1 ∧ XsOk 1 [AV.flt (fofint (fcut (valV ms lm 0)))] 1) && true) && (List.all (opsL ops) AV.noOwn && true && true && (pb (AV.agg [AV.fn 149 [] [], AV.fn 150 [] [], AV.fn 151 [] [], AV.fn 152 [] [], AV.fn 153 [] []] = AV.agg [AV.fn 149 [] [], AV.fn 150 [] [], AV.fn 151 [] [], AV.fn 152 [] [], AV.fn 153 [] []] ∧ FldOk 1 IntKind.i64 1 (opsL ops) m [AV.int IntKind.i64 u0] 1 ∧ XsOk 1 [AV.flt (fofint (fcut (valV ms lm 0)))] 1) && true) && (fcutOk IntKind.i64 (valV ms lm 0) && (pb (IntKind.i64 = IntKind.i64 ∧ (1 : Int) = (1 : Int) ∧ LmkOk ms lm) && (decide (List.length ([] ++ List.take (m * 4) (opsL ops)) = (0 + m) * 4 ∧ (0 + m + 1) * 32 ≤ 140737488355328 ∧ 0 + m + 1 ≤ 9223372036854775807) && (Nat.ble (0 + m * 4) (List.length (opsL ops)) && List.all (List.take (m * 4) (opsL ops)) AV.one && decide (0 = 0 ∧ (0 + m) * 32 ≤ 140737488355328 ∧ 0 + m ≤ 9223372036854775807) && true)))))))) = true) : Goes CO1 w0 200 (cR (cR (cR (cR suC)))) (mk [2,3,9] [.snap ms lm, .bool true, .ptr 0 0] [⟨[.int .i64 1, .slc 1 0 m, .slc 2 0 1], 53⟩, ⟨opsL ops, 57⟩, ⟨[.int .i64 u0], 3⟩] dec0) Ex.ret (mk [8] [AV.bool true] [] dec1) :=
  goes_re (dec := []) (goes_viewK' OO1 mixed (qs := []) (fuel := 8) [] (by kernel_rfl) hok dec1)
theorem suA2 (n : Int) (ns : List AV) (ln : Nat) (ms : List AV) (lm : Nat) (d : Bool) (w0 : World) (dec1 : List Bool) : Goes CO2 w0 200 (cL suC) (St0 [.int .i64 n, .snap ns ln, .snap ms lm, .bool d] []) Ex.normal (mk [0,1,2,3] [AV.int IntKind.i64 n, AV.snap ns ln, AV.snap ms lm, AV.bool d] [] dec1) :=
  goes_viewK' OO2 mixed (qs := []) (fuel := 8) [] (by kernel_rfl) rfl dec1
theorem suB2 (n : Int) (ns : List AV) (ln : Nat) (ms : List AV) (lm : Nat) (d : Bool) (w0 : World) (dec0 dec1 : List Bool) : Goes CO2 w0 200 (cL (cR suC)) (mk [0,1,2,3] [.int .i64 n, .snap ns ln, .snap ms lm, .bool d] [] dec0) Ex.normal (mk [0,1,2,3] [AV.int IntKind.i64 n, AV.snap ns ln, AV.snap ms lm, AV.bool d] [] dec1) :=
  goes_re (dec := []) (goes_viewK' OO2 mixed (qs := []) (fuel := 8) [] (by kernel_rfl) rfl dec1)
theorem suD2 (n : Int) (ns : List AV) (ln : Nat) (ms : List AV) (lm : Nat) (d : Bool) (w0 : World) (dec0 dec1 : List Bool) (hok : (((List.all (opsL (lmkOps n 2 false ns ln)) AV.noOwn) && true && (pb (IntKind.i64 = IntKind.i64 ∧ LmkOk ns ln ∧ wi n (3 : Int) + (1 : Int) = (2 : Int)) && true))) = true) : Goes CO2 w0 200 (cL (cR (cR suC))) (mk [0,1,2,3] [.int .i64 n, .snap ns ln, .snap ms lm, .bool d] [] dec0) Ex.normal (mk [2,3,9] [AV.snap ms lm, AV.bool d, AV.ptr 0 0] [ABlk.mk [AV.int IntKind.i64 2, AV.slc 1 0 (lmkM 2 ln), AV.slc 2 0 2] 53, ABlk.mk (opsL (lmkOps n 2 false ns ln)) 57, ABlk.mk [AV.int IntKind.i64 (IntKind.wrap IntKind.i64 (IntKind.wrap IntKind.i64 ((↑(lmkM 2 ln) : Int) - (1 : Int)) - wi (IntKind.wrap IntKind.i64 (IntKind.wrap IntKind.i64 (Int.tdiv n (3 : Int)) + (0 : Int))) (min3 (lmkM 2 ln)))), AV.int IntKind.i64 (IntKind.wrap IntKind.i64 (IntKind.wrap IntKind.i64 ((↑(lmkM 2 ln) : Int) - (1 : Int)) - wi (IntKind.wrap IntKind.i64 (IntKind.wrap IntKind.i64 (Int.tdiv n (3 : Int)) + (1 : Int))) (min3 (lmkM 2 ln))))] 3] dec1) :=
  goes_re (dec := []) (goes_viewK' OO2 mixed (qs := []) (fuel := 8) [.lit, .flat, .flat] (by kernel_rfl) hok dec1)
theorem suE2 (ms : List AV) (lm : Nat) (d : Bool) (ops : List TOp) (m : Nat) (u0 u1 : Int) (w0 : World) (dec0 dec1 : List Bool) (hok : (((List.all (opsL ops) AV.noOwn) && true && true)) = true) : Goes CO2 w0 200 (cL (cL (cR (cR (cR suC))))) (mk [2,3,9] [.snap ms lm, .bool d, .ptr 0 0] [⟨[.int .i64 2, .slc 1 0 m, .slc 2 0 2], 53⟩, ⟨opsL ops, 57⟩, ⟨[.int .i64 u0, .int .i64 u1], 3⟩] dec0) Ex.normal (mk [2,3,9,10] [AV.snap ms lm, AV.bool d, AV.ptr 0 0, AV.int IntKind.i64 0] [ABlk.mk [AV.int IntKind.i64 2, AV.slc 1 0 m, AV.slc 2 0 2] 53, ABlk.mk (opsL ops) 57, ABlk.mk [AV.int IntKind.i64 u0, AV.int IntKind.i64 u1] 3] dec1) :=
  goes_re (dec := []) (goes_viewK' OO2 mixed (qs := []) (fuel := 8) [.lit, .flat, .lit] (by kernel_rfl) hok dec1)
theorem suI2 (ms : List AV) (lm : Nat) (d : Bool) (ops : List TOp) (m : Nat) (u0 u1 : Int) (i : Nat) (ops1 : List TOp) (w0 : World) (dec0 dec1 : List Bool) (hok : ((pb (SubP true [] [0, 1, 2] 0 (setL (opsL ops) (0 + Int.toNat (↑i : Int) * 4 + 3) [AV.flt (fofint (fcut (AV.toFlt (List.getD (opsL ops) (0 + Int.toNat (↑i : Int) * 4 + 3) AV.undef))))]) (opsL ops1)) && true && (Nat.ble (0 + Int.toNat (↑i : Int) * 4 + 3 + 1) (List.length (opsL ops)) && true && (decide ((0 : Int) ≤ (↑i : Int) ∧ (↑i : Int) < (↑m : Int)) && (fcutOk IntKind.i64 (AV.toFlt (List.getD (opsL ops) (0 + Int.toNat (↑i : Int) * 4 + 3) AV.undef)) && (Nat.blt (0 + Int.toNat (↑i : Int) * 4 + 3) (List.length (opsL ops)) && AV.isFlt (List.getD (opsL ops) (0 + Int.toNat (↑i : Int) * 4 + 3) AV.undef) && (decide ((0 : Int) ≤ (↑i : Int) ∧ (↑i : Int) < (↑m : Int)) && (decide ((↑i : Int) < (↑m : Int)) && true)))))))) = true) : Goes CO2 w0 200 (suBody) (mk [2,3,9,10] [.snap ms lm, .bool d, .ptr 0 0, .int .i64 (i : Int)] [⟨[.int .i64 2, .slc 1 0 m, .slc 2 0 2], 53⟩, ⟨opsL ops, 57⟩, ⟨[.int .i64 u0, .int .i64 u1], 3⟩] dec0) Ex.normal (mk [2,3,9,10] [AV.snap ms lm, AV.bool d, AV.ptr 0 0, AV.int IntKind.i64 (IntKind.wrap IntKind.i64 ((↑i : Int) + (1 : Int)))] [ABlk.mk [AV.int IntKind.i64 2, AV.slc 1 0 m, AV.slc 2 0 2] 53, ABlk.mk (opsL ops1) 57, ABlk.mk [AV.int IntKind.i64 u0, AV.int IntKind.i64 u1] 3] dec1) :=
  goes_re (dec := [true]) (goes_viewK' OO2 mixed (qs := [30]) (fuel := 8) [.lit, .giv (opsL ops1) [], .lit] (by kernel_rfl) hok dec1)
theorem suX2 (ms : List AV) (lm : Nat) (d : Bool) (ops : List TOp) (m : Nat) (u0 u1 : Int) (i : Nat) (w0 : World) (dec0 dec1 : List Bool) (hok : (((List.all (opsL ops) AV.noOwn) && true && (!decide ((↑i : Int) < (↑m : Int)) && true))) = true) : Goes CO2 w0 200 (suBody) (mk [2,3,9,10] [.snap ms lm, .bool d, .ptr 0 0, .int .i64 (i : Int)] [⟨[.int .i64 2, .slc 1 0 m, .slc 2 0 2], 53⟩, ⟨opsL ops, 57⟩, ⟨[.int .i64 u0, .int .i64 u1], 3⟩] dec0) (Ex.exit 0) (mk [2,3,9] [AV.snap ms lm, AV.bool d, AV.ptr 0 0] [ABlk.mk [AV.int IntKind.i64 2, AV.slc 1 0 m, AV.slc 2 0 2] 53, ABlk.mk (opsL ops) 57, ABlk.mk [AV.int IntKind.i64 u0, AV.int IntKind.i64 u1] 3] dec1) :=
  goes_re (dec := [false]) (goes_viewK' OO2 mixed (qs := [30]) (fuel := 8) [.lit, .flat, .lit] (by kernel_rfl) hok dec1)
theorem suZ2f (ms : List AV) (lm : Nat) (ops : List TOp) (m : Nat) (u0 u1 : Int) (w0 : World) (dec0 dec1 : List Bool) (hok : ((decide (List.getD (jacD kF 0 2 [fofint (fcut (valV ms lm 0)), fofint (fcut (valV ms lm 1))] (unOps ([] ++ List.take (m * 4) (opsL ops) ++ [AV.int IntKind.i64 2, AV.int IntKind.i64 u0, AV.int IntKind.i64 u1, AV.flt 0])) (unInt [AV.int IntKind.i64 (↑(0 + m) : Int), AV.int IntKind.i64 (↑(0 + m) : Int)]) 0) 1 0 = fadd (List.getD (jacD kF 0 2 [fofint (fcut (valV ms lm 0)), fofint (fcut (valV ms lm 1))] (unOps (opsL ops)) (unInt [AV.int IntKind.i64 u0, AV.int IntKind.i64 u1]) 0) 1 0) (List.getD (jacD kF 0 2 [fofint (fcut (valV ms lm 0)), fofint (fcut (valV ms lm 1))] (unOps (opsL ops)) (unInt [AV.int IntKind.i64 u0, AV.int IntKind.i64 u1]) 1) 1 0)) && (decide (List.getD (jacD kF 0 2 [fofint (fcut (valV ms lm 0)), fofint (fcut (valV ms lm 1))] (unOps ([] ++ List.take (m * 4) (opsL ops) ++ [AV.int IntKind.i64 2, AV.int IntKind.i64 u0, AV.int IntKind.i64 u1, AV.flt 0])) (unInt [AV.int IntKind.i64 (↑(0 + m) : Int), AV.int IntKind.i64 (↑(0 + m) : Int)]) 0) 0 0 = fadd (List.getD (jacD kF 0 2 [fofint (fcut (valV ms lm 0)), fofint (fcut (valV ms lm 1))] (unOps (opsL ops)) (unInt [AV.int IntKind.i64 u0, AV.int IntKind.i64 u1]) 0) 0 0) (List.getD (jacD kF 0 2 [fofint (fcut (valV ms lm 0)), fofint (fcut (valV ms lm 1))] (unOps (opsL ops)) (unInt [AV.int IntKind.i64 u0, AV.int IntKind.i64 u1]) 1) 0 0)) && (List.all ([] ++ List.take (m * 4) (opsL ops) ++ [AV.int IntKind.i64 2, AV.int IntKind.i64 u0, AV.int IntKind.i64 u1, AV.flt 0]) AV.noOwn && true && true && (pb (AV.agg [AV.fn 149 [] [], AV.fn 150 [] [], AV.fn 151 [] [], AV.fn 152 [] [], AV.fn 153 [] []] = AV.agg [AV.fn 149 [] [], AV.fn 150 [] [], AV.fn 151 [] [], AV.fn 152 [] [], AV.fn 153 [] []] ∧ FldOk 2 IntKind.i64 2 ([] ++ List.take (m * 4) (opsL ops) ++ [AV.int IntKind.i64 2, AV.int IntKind.i64 u0, AV.int IntKind.i64 u1, AV.flt 0]) (0 + m + 1) [AV.int IntKind.i64 (↑(0 + m) : Int), AV.int IntKind.i64 (↑(0 + m) : Int)] 2 ∧ XsOk 2 [AV.flt (fofint (fcut (valV ms lm 0))), AV.flt (fofint (fcut (valV ms lm 1)))] 2) && true) && (List.all (opsL ops) AV.noOwn && true && true && (pb (AV.agg [AV.fn 149 [] [], AV.fn 150 [] [], AV.fn 151 [] [], AV.fn 152 [] [], AV.fn 153 [] []] = AV.agg [AV.fn 149 [] [], AV.fn 150 [] [], AV.fn 151 [] [], AV.fn 152 [] [], AV.fn 153 [] []] ∧ FldOk 2 IntKind.i64 2 (opsL ops) m [AV.int IntKind.i64 u0, AV.int IntKind.i64 u1] 2 ∧ XsOk 2 [AV.flt (fofint (fcut (valV ms lm 0))), AV.flt (fofint (fcut (valV ms lm 1)))] 2) && true) && (fcutOk IntKind.i64 (valV ms lm 1) && (fcutOk IntKind.i64 (valV ms lm 0) && (pb (IntKind.i64 = IntKind.i64 ∧ (2 : Int) = (2 : Int) ∧ LmkOk ms lm) && (decide (List.length ([] ++ List.take (m * 4) (opsL ops)) = (0 + m) * 4 ∧ (0 + m + 1) * 32 ≤ 140737488355328 ∧ 0 + m + 1 ≤ 9223372036854775807) && (Nat.ble (0 + m * 4) (List.length (opsL ops)) && List.all (List.take (m * 4) (opsL ops)) AV.one && decide (0 = 0 ∧ (0 + m) * 32 ≤ 140737488355328 ∧ 0 + m ≤ 9223372036854775807) && true)))))))))) = true) : Goes CO2 w0 200 (cR (cR (cR (cR suC)))) (mk [2,3,9] [.snap ms lm, .bool false, .ptr 0 0] [⟨[.int .i64 2, .slc 1 0 m, .slc 2 0 2], 53⟩, ⟨opsL ops, 57⟩, ⟨[.int .i64 u0, .int .i64 u1], 3⟩] dec0) Ex.ret (mk [8] [AV.bool true] [] dec1) :=
  goes_re (dec := []) (goes_viewK' OO2 mixed (qs := []) (fuel := 8) [] (by kernel_rfl) hok dec1)
theorem suZ2t (ms : List AV) (lm : Nat) (ops : List TOp) (m : Nat) (u0 u1 : Int) (w0 : World) (dec0 dec1 : List Bool) (hok : ((decide (List.getD (jacD kF 0 2 [fofint (fcut (valV ms lm 0)), fofint (fcut (valV ms lm 1))] (unOps ([] ++ List.take (m * 4) (opsL ops) ++ [AV.int IntKind.i64 3, AV.int IntKind.i64 u0, AV.int IntKind.i64 u1, AV.flt 0])) (unInt [AV.int IntKind.i64 (↑(0 + m) : Int), AV.int IntKind.i64 (↑(0 + m) : Int)]) 0) 1 0 = fsub (List.getD (jacD kF 0 2 [fofint (fcut (valV ms lm 0)), fofint (fcut (valV ms lm 1))] (unOps (opsL ops)) (unInt [AV.int IntKind.i64 u0, AV.int IntKind.i64 u1]) 0) 1 0) (List.getD (jacD kF 0 2 [fofint (fcut (valV ms lm 0)), fofint (fcut (valV ms lm 1))] (unOps (opsL ops)) (unInt [AV.int IntKind.i64 u0, AV.int IntKind.i64 u1]) 1) 1 0)) && (decide (List.getD (jacD kF 0 2 [fofint (fcut (valV ms lm 0)), fofint (fcut (valV ms lm 1))] (unOps ([] ++ List.take (m * 4) (opsL ops) ++ [AV.int IntKind.i64 3, AV.int IntKind.i64 u0, AV.int IntKind.i64 u1, AV.flt 0])) (unInt [AV.int IntKind.i64 (↑(0 + m) : Int), AV.int IntKind.i64 (↑(0 + m) : Int)]) 0) 0 0 = fsub (List.getD (jacD kF 0 2 [fofint (fcut (valV ms lm 0)), fofint (fcut (valV ms lm 1))] (unOps (opsL ops)) (unInt [AV.int IntKind.i64 u0, AV.int IntKind.i64 u1]) 0) 0 0) (List.getD (jacD kF 0 2 [fofint (fcut (valV ms lm 0)), fofint (fcut (valV ms lm 1))] (unOps (opsL ops)) (unInt [AV.int IntKind.i64 u0, AV.int IntKind.i64 u1]) 1) 0 0)) && (List.all ([] ++ List.take (m * 4) (opsL ops) ++ [AV.int IntKind.i64 3, AV.int IntKind.i64 u0, AV.int IntKind.i64 u1, AV.flt 0]) AV.noOwn && true && true && (pb (AV.agg [AV.fn 149 [] [], AV.fn 150 [] [], AV.fn 151 [] [], AV.fn 152 [] [], AV.fn 153 [] []] = AV.agg [AV.fn 149 [] [], AV.fn 150 [] [], AV.fn 151 [] [], AV.fn 152 [] [], AV.fn 153 [] []] ∧ FldOk 2 IntKind.i64 2 ([] ++ List.take (m * 4) (opsL ops) ++ [AV.int IntKind.i64 3, AV.int IntKind.i64 u0, AV.int IntKind.i64 u1, AV.flt 0]) (0 + m + 1) [AV.int IntKind.i64 (↑(0 + m) : Int), AV.int IntKind.i64 (↑(0 + m) : Int)] 2 ∧ XsOk 2 [AV.flt (fofint (fcut (valV ms lm 0))), AV.flt (fofint (fcut (valV ms lm 1)))] 2) && true) && (List.all (opsL ops) AV.noOwn && true && true && (pb (AV.agg [AV.fn 149 [] [], AV.fn 150 [] [], AV.fn 151 [] [], AV.fn 152 [] [], AV.fn 153 [] []] = AV.agg [AV.fn 149 [] [], AV.fn 150 [] [], AV.fn 151 [] [], AV.fn 152 [] [], AV.fn 153 [] []] ∧ FldOk 2 IntKind.i64 2 (opsL ops) m [AV.int IntKind.i64 u0, AV.int IntKind.i64 u1] 2 ∧ XsOk 2 [AV.flt (fofint (fcut (valV ms lm 0))), AV.flt (fofint (fcut (valV ms lm 1)))] 2) && true) && (fcutOk IntKind.i64 (valV ms lm 1) && (fcutOk IntKind.i64 (valV ms lm 0) && (pb (IntKind.i64 = IntKind.i64 ∧ (2 : Int) = (2 : Int) ∧ LmkOk ms lm) && (decide (List.length ([] ++ List.take (m * 4) (opsL ops)) = (0 + m) * 4 ∧ (0 + m + 1) * 32 ≤ 140737488355328 ∧ 0 + m + 1 ≤ 9223372036854775807) && (Nat.ble (0 + m * 4) (List.length (opsL ops)) && List.all (List.take (m * 4) (opsL ops)) AV.one && decide (0 = 0 ∧ (0 + m) * 32 ≤ 140737488355328 ∧ 0 + m ≤ 9223372036854775807) && true)))))))))) = true) : Goes CO2 w0 200 (cR (cR (cR (cR suC)))) (mk [2,3,9] [.snap ms lm, .bool true, .ptr 0 0] [⟨[.int .i64 2, .slc 1 0 m, .slc 2 0 2], 53⟩, ⟨opsL ops, 57⟩, ⟨[.int .i64 u0, .int .i64 u1], 3⟩] dec0) Ex.ret (mk [8] [AV.bool true] [] dec1) :=
  goes_re (dec := []) (goes_viewK' OO2 mixed (qs := []) (fuel := 8) [] (by kernel_rfl) hok dec1)
theorem suA3 (n : Int) (ns : List AV) (ln : Nat) (ms : List AV) (lm : Nat) (d : Bool) (w0 : World) (dec1 : List Bool) : Goes CO3 w0 200 (cL suC) (St0 [.int .i64 n, .snap ns ln, .snap ms lm, .bool d] []) Ex.normal (mk [0,1,2,3] [AV.int IntKind.i64 n, AV.snap ns ln, AV.snap ms lm, AV.bool d] [] dec1) :=
  goes_viewK' OO3 mixed (qs := []) (fuel := 8) [] (by kernel_rfl) rfl dec1
theorem suB3 (n : Int) (ns : List AV) (ln : Nat) (ms : List AV) (lm : Nat) (d : Bool) (w0 : World) (dec0 dec1 : List Bool) : Goes CO3 w0 200 (cL (cR suC)) (mk [0,1,2,3] [.int .i64 n, .snap ns ln, .snap ms lm, .bool d] [] dec0) Ex.normal (mk [0,1,2,3] [AV.int IntKind.i64 n, AV.snap ns ln, AV.snap ms lm, AV.bool d] [] dec1) :=
  goes_re (dec := []) (goes_viewK' OO3 mixed (qs := []) (fuel := 8) [] (by kernel_rfl) rfl dec1)
theorem suD3 (n : Int) (ns : List AV) (ln : Nat) (ms : List AV) (lm : Nat) (d : Bool) (w0 : World) (dec0 dec1 : List Bool) (hok : (((List.all (opsL (lmkOps n 3 false ns ln)) AV.noOwn) && true && (pb (IntKind.i64 = IntKind.i64 ∧ LmkOk ns ln ∧ wi n (3 : Int) + (1 : Int) = (3 : Int)) && true))) = true) : Goes CO3 w0 200 (cL (cR (cR suC))) (mk [0,1,2,3] [.int .i64 n, .snap ns ln, .snap ms lm, .bool d] [] dec0) Ex.normal (mk [2,3,9] [AV.snap ms lm, AV.bool d, AV.ptr 0 0] [ABlk.mk [AV.int IntKind.i64 3, AV.slc 1 0 (lmkM 3 ln), AV.slc 2 0 3] 53, ABlk.mk (opsL (lmkOps n 3 false ns ln)) 57, ABlk.mk [AV.int IntKind.i64 (IntKind.wrap IntKind.i64 (IntKind.wrap IntKind.i64 ((↑(lmkM 3 ln) : Int) - (1 : Int)) - wi (IntKind.wrap IntKind.i64 (IntKind.wrap IntKind.i64 (Int.tdiv n (3 : Int)) + (0 : Int))) (min3 (lmkM 3 ln)))), AV.int IntKind.i64 (IntKind.wrap IntKind.i64 (IntKind.wrap IntKind.i64 ((↑(lmkM 3 ln) : Int) - (1 : Int)) - wi (IntKind.wrap IntKind.i64 (IntKind.wrap IntKind.i64 (Int.tdiv n (3 : Int)) + (1 : Int))) (min3 (lmkM 3 ln)))), AV.int IntKind.i64 (IntKind.wrap IntKind.i64 (IntKind.wrap IntKind.i64 ((↑(lmkM 3 ln) : Int) - (1 : Int)) - wi (IntKind.wrap IntKind.i64 (IntKind.wrap IntKind.i64 (Int.tdiv n (3 : Int)) + (2 : Int))) (min3 (lmkM 3 ln))))] 3] dec1) :=
  goes_re (dec := []) (goes_viewK' OO3 mixed (qs := []) (fuel := 8) [.lit, .flat, .flat] (by kernel_rfl) hok dec1)
theorem suE3 (ms : List AV) (lm : Nat) (d : Bool) (ops : List TOp) (m : Nat) (u0 u1 u2 : Int) (w0 : World) (dec0 dec1 : List Bool) (hok : (((List.all (opsL ops) AV.noOwn) && true && true)) = true) : Goes CO3 w0 200 (cL (cL (cR (cR (cR suC))))) (mk [2,3,9] [.snap ms lm, .bool d, .ptr 0 0] [⟨[.int .i64 3, .slc 1 0 m, .slc 2 0 3], 53⟩, ⟨opsL ops, 57⟩, ⟨[.int .i64 u0, .int .i64 u1, .int .i64 u2], 3⟩] dec0) Ex.normal (mk [2,3,9,10] [AV.snap ms lm, AV.bool d, AV.ptr 0 0, AV.int IntKind.i64 0] [ABlk.mk [AV.int IntKind.i64 3, AV.slc 1 0 m, AV.slc 2 0 3] 53, ABlk.mk (opsL ops) 57, ABlk.mk [AV.int IntKind.i64 u0, AV.int IntKind.i64 u1, AV.int IntKind.i64 u2] 3] dec1) :=
  goes_re (dec := []) (goes_viewK' OO3 mixed (qs := []) (fuel := 8) [.lit, .flat, .lit] (by kernel_rfl) hok dec1)
theorem suI3 (ms : List AV) (lm : Nat) (d : Bool) (ops : List TOp) (m : Nat) (u0 u1 u2 : Int) (i : Nat) (ops1 : List TOp) (w0 : World) (dec0 dec1 : List Bool) (hok : ((pb (SubP true [] [0, 1, 2] 0 (setL (opsL ops) (0 + Int.toNat (↑i : Int) * 4 + 3) [AV.flt (fofint (fcut (AV.toFlt (List.getD (opsL ops) (0 + Int.toNat (↑i : Int) * 4 + 3) AV.undef))))]) (opsL ops1)) && true && (Nat.ble (0 + Int.toNat (↑i : Int) * 4 + 3 + 1) (List.length (opsL ops)) && true && (decide ((0 : Int) ≤ (↑i : Int) ∧ (↑i : Int) < (↑m : Int)) && (fcutOk IntKind.i64 (AV.toFlt (List.getD (opsL ops) (0 + Int.toNat (↑i : Int) * 4 + 3) AV.undef)) && (Nat.blt (0 + Int.toNat (↑i : Int) * 4 + 3) (List.length (opsL ops)) && AV.isFlt (List.getD (opsL ops) (0 + Int.toNat (↑i : Int) * 4 + 3) AV.undef) && (decide ((0 : Int) ≤ (↑i : Int) ∧ (↑i : Int) < (↑m : Int)) && (decide ((↑i : Int) < (↑m : Int)) && true)))))))) = true) : Goes CO3 w0 200 (suBody) (mk [2,3,9,10] [.snap ms lm, .bool d, .ptr 0 0, .int .i64 (i : Int)] [⟨[.int .i64 3, .slc 1 0 m, .slc 2 0 3], 53⟩, ⟨opsL ops, 57⟩, ⟨[.int .i64 u0, .int .i64 u1, .int .i64 u2], 3⟩] dec0) Ex.normal (mk [2,3,9,10] [AV.snap ms lm, AV.bool d, AV.ptr 0 0, AV.int IntKind.i64 (IntKind.wrap IntKind.i64 ((↑i : Int) + (1 : Int)))] [ABlk.mk [AV.int IntKind.i64 3, AV.slc 1 0 m, AV.slc 2 0 3] 53, ABlk.mk (opsL ops1) 57, ABlk.mk [AV.int IntKind.i64 u0, AV.int IntKind.i64 u1, AV.int IntKind.i64 u2] 3] dec1) :=
  goes_re (dec := [true]) (goes_viewK' OO3 mixed (qs := [30]) (fuel := 8) [.lit, .giv (opsL ops1) [], .lit] (by kernel_rfl) hok dec1)
theorem suX3 (ms : List AV) (lm : Nat) (d : Bool) (ops : List TOp) (m : Nat) (u0 u1 u2 : Int) (i : Nat) (w0 : World) (dec0 dec1 : List Bool) (hok : (((List.all (opsL ops) AV.noOwn) && true && (!decide ((↑i : Int) < (↑m : Int)) && true))) = true) : Goes CO3 w0 200 (suBody) (mk [2,3,9,10] [.snap ms lm, .bool d, .ptr 0 0, .int .i64 (i : Int)] [⟨[.int .i64 3, .slc 1 0 m, .slc 2 0 3], 53⟩, ⟨opsL ops, 57⟩, ⟨[.int .i64 u0, .int .i64 u1, .int .i64 u2], 3⟩] dec0) (Ex.exit 0) (mk [2,3,9] [AV.snap ms lm, AV.bool d, AV.ptr 0 0] [ABlk.mk [AV.int IntKind.i64 3, AV.slc 1 0 m, AV.slc 2 0 3] 53, ABlk.mk (opsL ops) 57, ABlk.mk [AV.int IntKind.i64 u0, AV.int IntKind.i64 u1, AV.int IntKind.i64 u2] 3] dec1) :=
  goes_re (dec := [false]) (goes_viewK' OO3 mixed (qs := [30]) (fuel := 8) [.lit, .flat, .lit] (by kernel_rfl) hok dec1)
theorem suZ3f (ms : List AV) (lm : Nat) (ops : List TOp) (m : Nat) (u0 u1 u2 : Int) (w0 : World) (dec0 dec1 : List Bool) (hok : ((decide (List.getD (jacD kF 0 3 [fofint (fcut (valV ms lm 0)), fofint (fcut (valV ms lm 1)), fofint (fcut (valV ms lm 2))] (unOps ([] ++ List.take (m * 4) (opsL ops) ++ [AV.int IntKind.i64 2, AV.int IntKind.i64 u0, AV.int IntKind.i64 u2, AV.flt 0])) (unInt [AV.int IntKind.i64 (↑(0 + m) : Int), AV.int IntKind.i64 (↑(0 + m) : Int), AV.int IntKind.i64 (↑(0 + m) : Int)]) 0) 2 0 = fadd (List.getD (jacD kF 0 3 [fofint (fcut (valV ms lm 0)), fofint (fcut (valV ms lm 1)), fofint (fcut (valV ms lm 2))] (unOps (opsL ops)) (unInt [AV.int IntKind.i64 u0, AV.int IntKind.i64 u1, AV.int IntKind.i64 u2]) 0) 2 0) (List.getD (jacD kF 0 3 [fofint (fcut (valV ms lm 0)), fofint (fcut (valV ms lm 1)), fofint (fcut (valV ms lm 2))] (unOps (opsL ops)) (unInt [AV.int IntKind.i64 u0, AV.int IntKind.i64 u1, AV.int IntKind.i64 u2]) 2) 2 0)) && (decide (List.getD (jacD kF 0 3 [fofint (fcut (valV ms lm 0)), fofint (fcut (valV ms lm 1)), fofint (fcut (valV ms lm 2))] (unOps ([] ++ List.take (m * 4) (opsL ops) ++ [AV.int IntKind.i64 2, AV.int IntKind.i64 u0, AV.int IntKind.i64 u2, AV.flt 0])) (unInt [AV.int IntKind.i64 (↑(0 + m) : Int), AV.int IntKind.i64 (↑(0 + m) : Int), AV.int IntKind.i64 (↑(0 + m) : Int)]) 0) 1 0 = fadd (List.getD (jacD kF 0 3 [fofint (fcut (valV ms lm 0)), fofint (fcut (valV ms lm 1)), fofint (fcut (valV ms lm 2))] (unOps (opsL ops)) (unInt [AV.int IntKind.i64 u0, AV.int IntKind.i64 u1, AV.int IntKind.i64 u2]) 0) 1 0) (List.getD (jacD kF 0 3 [fofint (fcut (valV ms lm 0)), fofint (fcut (valV ms lm 1)), fofint (fcut (valV ms lm 2))] (unOps (opsL ops)) (unInt [AV.int IntKind.i64 u0, AV.int IntKind.i64 u1, AV.int IntKind.i64 u2]) 2) 1 0)) && (decide (List.getD (jacD kF 0 3 [fofint (fcut (valV ms lm 0)), fofint (fcut (valV ms lm 1)), fofint (fcut (valV ms lm 2))] (unOps ([] ++ List.take (m * 4) (opsL ops) ++ [AV.int IntKind.i64 2, AV.int IntKind.i64 u0, AV.int IntKind.i64 u2, AV.flt 0])) (unInt [AV.int IntKind.i64 (↑(0 + m) : Int), AV.int IntKind.i64 (↑(0 + m) : Int), AV.int IntKind.i64 (↑(0 + m) : Int)]) 0) 0 0 = fadd (List.getD (jacD kF 0 3 [fofint (fcut (valV ms lm 0)), fofint (fcut (valV ms lm 1)), fofint (fcut (valV ms lm 2))] (unOps (opsL ops)) (unInt [AV.int IntKind.i64 u0, AV.int IntKind.i64 u1, AV.int IntKind.i64 u2]) 0) 0 0) (List.getD (jacD kF 0 3 [fofint (fcut (valV ms lm 0)), fofint (fcut (valV ms lm 1)), fofint (fcut (valV ms lm 2))] (unOps (opsL ops)) (unInt [AV.int IntKind.i64 u0, AV.int IntKind.i64 u1, AV.int IntKind.i64 u2]) 2) 0 0)) && (List.all ([] ++ List.take (m * 4) (opsL ops) ++ [AV.int IntKind.i64 2, AV.int IntKind.i64 u0, AV.int IntKind.i64 u2, AV.flt 0]) AV.noOwn && true && true && (pb (AV.agg [AV.fn 149 [] [], AV.fn 150 [] [], AV.fn 151 [] [], AV.fn 152 [] [], AV.fn 153 [] []] = AV.agg [AV.fn 149 [] [], AV.fn 150 [] [], AV.fn 151 [] [], AV.fn 152 [] [], AV.fn 153 [] []] ∧ FldOk 3 IntKind.i64 3 ([] ++ List.take (m * 4) (opsL ops) ++ [AV.int IntKind.i64 2, AV.int IntKind.i64 u0, AV.int IntKind.i64 u2, AV.flt 0]) (0 + m + 1) [AV.int IntKind.i64 (↑(0 + m) : Int), AV.int IntKind.i64 (↑(0 + m) : Int), AV.int IntKind.i64 (↑(0 + m) : Int)] 3 ∧ XsOk 3 [AV.flt (fofint (fcut (valV ms lm 0))), AV.flt (fofint (fcut (valV ms lm 1))), AV.flt (fofint (fcut (valV ms lm 2)))] 3) && true) && (List.all (opsL ops) AV.noOwn && true && true && (pb (AV.agg [AV.fn 149 [] [], AV.fn 150 [] [], AV.fn 151 [] [], AV.fn 152 [] [], AV.fn 153 [] []] = AV.agg [AV.fn 149 [] [], AV.fn 150 [] [], AV.fn 151 [] [], AV.fn 152 [] [], AV.fn 153 [] []] ∧ FldOk 3 IntKind.i64 3 (opsL ops) m [AV.int IntKind.i64 u0, AV.int IntKind.i64 u1, AV.int IntKind.i64 u2] 3 ∧ XsOk 3 [AV.flt (fofint (fcut (valV ms lm 0))), AV.flt (fofint (fcut (valV ms lm 1))), AV.flt (fofint (fcut (valV ms lm 2)))] 3) && true) && (fcutOk IntKind.i64 (valV ms lm 2) && (fcutOk IntKind.i64 (valV ms lm 1) && (fcutOk IntKind.i64 (valV ms lm 0) && (pb (IntKind.i64 = IntKind.i64 ∧ (3 : Int) = (3 : Int) ∧ LmkOk ms lm) && (decide (List.length ([] ++ List.take (m * 4) (opsL ops)) = (0 + m) * 4 ∧ (0 + m + 1) * 32 ≤ 140737488355328 ∧ 0 + m + 1 ≤ 9223372036854775807) && (Nat.ble (0 + m * 4) (List.length (opsL ops)) && List.all (List.take (m * 4) (opsL ops)) AV.one && decide (0 = 0 ∧ (0 + m) * 32 ≤ 140737488355328 ∧ 0 + m ≤ 9223372036854775807) && true)))))))))))) = true) : Goes CO3 w0 200 (cR (cR (cR (cR suC)))) (mk [2,3,9] [.snap ms lm, .bool false, .ptr 0 0] [⟨[.int .i64 3, .slc 1 0 m, .slc 2 0 3], 53⟩, ⟨opsL ops, 57⟩, ⟨[.int .i64 u0, .int .i64 u1, .int .i64 u2], 3⟩] dec0) Ex.ret (mk [8] [AV.bool true] [] dec1) :=
  goes_re (dec := []) (goes_viewK' OO3 mixed (qs := []) (fuel := 8) [] (by kernel_rfl) hok dec1)
theorem suZ3t (ms : List AV) (lm : Nat) (ops : List TOp) (m : Nat) (u0 u1 u2 : Int) (w0 : World) (dec0 dec1 : List Bool) (hok : ((decide (List.getD (jacD kF 0 3 [fofint (fcut (valV ms lm 0)), fofint (fcut (valV ms lm 1)), fofint (fcut (valV ms lm 2))] (unOps ([] ++ List.take (m * 4) (opsL ops) ++ [AV.int IntKind.i64 3, AV.int IntKind.i64 u0, AV.int IntKind.i64 u2, AV.flt 0])) (unInt [AV.int IntKind.i64 (↑(0 + m) : Int), AV.int IntKind.i64 (↑(0 + m) : Int), AV.int IntKind.i64 (↑(0 + m) : Int)]) 0) 2 0 = fsub (List.getD (jacD kF 0 3 [fofint (fcut (valV ms lm 0)), fofint (fcut (valV ms lm 1)), fofint (fcut (valV ms lm 2))] (unOps (opsL ops)) (unInt [AV.int IntKind.i64 u0, AV.int IntKind.i64 u1, AV.int IntKind.i64 u2]) 0) 2 0) (List.getD (jacD kF 0 3 [fofint (fcut (valV ms lm 0)), fofint (fcut (valV ms lm 1)), fofint (fcut (valV ms lm 2))] (unOps (opsL ops)) (unInt [AV.int IntKind.i64 u0, AV.int IntKind.i64 u1, AV.int IntKind.i64 u2]) 2) 2 0)) && (decide (List.getD (jacD kF 0 3 [fofint (fcut (valV ms lm 0)), fofint (fcut (valV ms lm 1)), fofint (fcut (valV ms lm 2))] (unOps ([] ++ List.take (m * 4) (opsL ops) ++ [AV.int IntKind.i64 3, AV.int IntKind.i64 u0, AV.int IntKind.i64 u2, AV.flt 0])) (unInt [AV.int IntKind.i64 (↑(0 + m) : Int), AV.int IntKind.i64 (↑(0 + m) : Int), AV.int IntKind.i64 (↑(0 + m) : Int)]) 0) 1 0 = fsub (List.getD (jacD kF 0 3 [fofint (fcut (valV ms lm 0)), fofint (fcut (valV ms lm 1)), fofint (fcut (valV ms lm 2))] (unOps (opsL ops)) (unInt [AV.int IntKind.i64 u0, AV.int IntKind.i64 u1, AV.int IntKind.i64 u2]) 0) 1 0) (List.getD (jacD kF 0 3 [fofint (fcut (valV ms lm 0)), fofint (fcut (valV ms lm 1)), fofint (fcut (valV ms lm 2))] (unOps (opsL ops)) (unInt [AV.int IntKind.i64 u0, AV.int IntKind.i64 u1, AV.int IntKind.i64 u2]) 2) 1 0)) && (decide (List.getD (jacD kF 0 3 [fofint (fcut (valV ms lm 0)), fofint (fcut (valV ms lm 1)), fofint (fcut (valV ms lm 2))] (unOps ([] ++ List.take (m * 4) (opsL ops) ++ [AV.int IntKind.i64 3, AV.int IntKind.i64 u0, AV.int IntKind.i64 u2, AV.flt 0])) (unInt [AV.int IntKind.i64 (↑(0 + m) : Int), AV.int IntKind.i64 (↑(0 + m) : Int), AV.int IntKind.i64 (↑(0 + m) : Int)]) 0) 0 0 = fsub (List.getD (jacD kF 0 3 [fofint (fcut (valV ms lm 0)), fofint (fcut (valV ms lm 1)), fofint (fcut (valV ms lm 2))] (unOps (opsL ops)) (unInt [AV.int IntKind.i64 u0, AV.int IntKind.i64 u1, AV.int IntKind.i64 u2]) 0) 0 0) (List.getD (jacD kF 0 3 [fofint (fcut (valV ms lm 0)), fofint (fcut (valV ms lm 1)), fofint (fcut (valV ms lm 2))] (unOps (opsL ops)) (unInt [AV.int IntKind.i64 u0, AV.int IntKind.i64 u1, AV.int IntKind.i64 u2]) 2) 0 0)) && (List.all ([] ++ List.take (m * 4) (opsL ops) ++ [AV.int IntKind.i64 3, AV.int IntKind.i64 u0, AV.int IntKind.i64 u2, AV.flt 0]) AV.noOwn && true && true && (pb (AV.agg [AV.fn 149 [] [], AV.fn 150 [] [], AV.fn 151 [] [], AV.fn 152 [] [], AV.fn 153 [] []] = AV.agg [AV.fn 149 [] [], AV.fn 150 [] [], AV.fn 151 [] [], AV.fn 152 [] [], AV.fn 153 [] []] ∧ FldOk 3 IntKind.i64 3 ([] ++ List.take (m * 4) (opsL ops) ++ [AV.int IntKind.i64 3, AV.int IntKind.i64 u0, AV.int IntKind.i64 u2, AV.flt 0]) (0 + m + 1) [AV.int IntKind.i64 (↑(0 + m) : Int), AV.int IntKind.i64 (↑(0 + m) : Int), AV.int IntKind.i64 (↑(0 + m) : Int)] 3 ∧ XsOk 3 [AV.flt (fofint (fcut (valV ms lm 0))), AV.flt (fofint (fcut (valV ms lm 1))), AV.flt (fofint (fcut (valV ms lm 2)))] 3) && true) && (List.all (opsL ops) AV.noOwn && true && true && (pb (AV.agg [AV.fn 149 [] [], AV.fn 150 [] [], AV.fn 151 [] [], AV.fn 152 [] [], AV.fn 153 [] []] = AV.agg [AV.fn 149 [] [], AV.fn 150 [] [], AV.fn 151 [] [], AV.fn 152 [] [], AV.fn 153 [] []] ∧ FldOk 3 IntKind.i64 3 (opsL ops) m [AV.int IntKind.i64 u0, AV.int IntKind.i64 u1, AV.int IntKind.i64 u2] 3 ∧ XsOk 3 [AV.flt (fofint (fcut (valV ms lm 0))), AV.flt (fofint (fcut (valV ms lm 1))), AV.flt (fofint (fcut (valV ms lm 2)))] 3) && true) && (fcutOk IntKind.i64 (valV ms lm 2) && (fcutOk IntKind.i64 (valV ms lm 1) && (fcutOk IntKind.i64 (valV ms lm 0) && (pb (IntKind.i64 = IntKind.i64 ∧ (3 : Int) = (3 : Int) ∧ LmkOk ms lm) && (decide (List.length ([] ++ List.take (m * 4) (opsL ops)) = (0 + m) * 4 ∧ (0 + m + 1) * 32 ≤ 140737488355328 ∧ 0 + m + 1 ≤ 9223372036854775807) && (Nat.ble (0 + m * 4) (List.length (opsL ops)) && List.all (List.take (m * 4) (opsL ops)) AV.one && decide (0 = 0 ∧ (0 + m) * 32 ≤ 140737488355328 ∧ 0 + m ≤ 9223372036854775807) && true)))))))))))) = true) : Goes CO3 w0 200 (cR (cR (cR (cR suC)))) (mk [2,3,9] [.snap ms lm, .bool true, .ptr 0 0] [⟨[.int .i64 3, .slc 1 0 m, .slc 2 0 3], 53⟩, ⟨opsL ops, 57⟩, ⟨[.int .i64 u0, .int .i64 u1, .int .i64 u2], 3⟩] dec0) Ex.ret (mk [8] [AV.bool true] [] dec1) :=
  goes_re (dec := []) (goes_viewK' OO3 mixed (qs := []) (fuel := 8) [] (by kernel_rfl) hok dec1)
end Go.Eng.Try
/- JacSums, part 2: the law's contract. Condition: the numbers are rows of integers. Written by wip/tools/genS2.py. -/
namespace Go.Eng
open Go Go.RowKit Go.Eng.Try

/-! ### Constants cut to whole numbers -/
def icut (c : Nat) : Nat := fofint (fcut c)
theorem cst_cut : ∀ j : Fin 33, fcutOk .i64 (cst8 j.val) = true ∧ ∃ j' : Fin 33, icut (cst8 j.val) = cst8 j'.val := by decide +kernel
theorem CstOk.cut {c : Nat} (h : CstOk c) : fcutOk .i64 c = true ∧ CstOk (icut c) := by
  obtain ⟨j, hj, rfl⟩ := h
  obtain ⟨h1, j', h2⟩ := cst_cut ⟨j, hj⟩
  exact ⟨h1, j'.val, j'.isLt, h2⟩
theorem cut_zero : fcutOk .i64 0 = true ∧ icut 0 = 0 := by decide +kernel
theorem OpOk.cut {N i : Nat} {o : TOp} (h : OpOk N i o) : fcutOk .i64 o.c = true ∧ OpOk N i { o with c := icut o.c } := by
  rcases h with ⟨h1, h2, h3, h4⟩ | ⟨h1, h2, h3, h4, h5⟩ | ⟨h1, h2, h3, h4, h5, h6⟩
  · obtain ⟨g1, g2⟩ := h4.cut
    exact ⟨g1, .inl ⟨h1, h2, h3, g2⟩⟩
  · rw [h5]
    exact ⟨cut_zero.1, .inr (.inl ⟨h1, h2, h3, h4, cut_zero.2⟩)⟩
  · rw [h6]
    exact ⟨cut_zero.1, .inr (.inr ⟨h1, h2, h3, h4, h5, cut_zero.2⟩)⟩

theorem OpsOk.set {N : Nat} {ops : List TOp} (h : OpsOk N ops) {i : Nat} {o : TOp} (ho : OpOk N i o) : OpsOk N (ops.set i o) := by
  intro j hj
  simp only [List.length_set] at hj
  by_cases hij : i = j
  · subst hij
    rw [getD_set_self _ _ _ _ hj]
    exact ho
  · rw [getD_set_ne _ _ _ _ _ hij]
    exact h j hj

theorem opsL_setC (c : Nat) : ∀ (ops : List TOp) (i : Nat), i < ops.length → (opsL ops).set (4 * i + 3) (.flt c) = opsL (ops.set i { ops.getD i op0 with c := c })
  | [], i, h => by simp at h
  | o :: os, 0, _ => by simp [opsL]
  | o :: os, i + 1, h => by
    have ih := opsL_setC c os i (by simpa using h)
    rw [show 4 * (i + 1) + 3 = (4 * i + 3) + 4 by omega]
    simp [opsL, ih]

/-- The first operations' numbers turned. -/
def turnOps (g : Nat → Nat) (ops : List TOp) : Nat → List TOp
  | 0 => ops
  | i + 1 => (turnOps g ops i).set i { (turnOps g ops i).getD i op0 with c := g ((turnOps g ops i).getD i op0).c }
theorem turnOps_length (g : Nat → Nat) (ops : List TOp) : ∀ i, (turnOps g ops i).length = ops.length
  | 0 => rfl
  | i + 1 => by simp [turnOps, turnOps_length g ops i]
theorem cutOps_ok {N : Nat} {ops : List TOp} (h : OpsOk N ops) : ∀ i, i ≤ ops.length → OpsOk N (turnOps icut ops i)
  | 0, _ => h
  | i + 1, hi => (cutOps_ok h i (by omega)).set ((cutOps_ok h i (by omega)) i (by rw [turnOps_length]; omega)).cut.2

theorem runR_append {T : Type} (K : Kd T) (z : T) (N : Nat) (xs : List T) (ops ys : List TOp) : ∀ i, i ≤ ops.length → runR K z N xs (ops ++ ys) i = runR K z N xs ops i
  | 0, _ => rfl
  | i + 1, h => by
    simp only [runR]
    rw [runR_append K z N xs ops ys i (by omega), getD_append_left _ _ _ _ (by omega)]

theorem jacSums_eq {N : Nat} {xs : List Nat} {ops : List TOp} {kind u v : Int} (hk : kind = 2 ∨ kind = 3) {outs : List Int} (ho : outs.getD 0 0 = ops.length) {k : Nat} (hkN : k < N) :
    (jacD kF 0 N xs (ops ++ [⟨kind, u, v, 0⟩]) outs 0).getD k 0 = kF.op kind ((rAt 0 (runR kF 0 N xs ops ops.length) u).d.getD k 0) ((rAt 0 (runR kF 0 N xs ops ops.length) v).d.getD k 0) := by
  unfold jacD
  rw [ho]
  have e1 : runR kF 0 N xs (ops ++ [⟨kind, u, v, 0⟩]) (ops ++ [(⟨kind, u, v, 0⟩ : TOp)]).length = runR kF 0 N xs ops ops.length ++ [stepR kF 0 N xs (runR kF 0 N xs ops ops.length) ⟨kind, u, v, 0⟩] := by
    rw [List.length_append, List.length_singleton]
    simp only [runR]
    rw [runR_append _ _ _ _ _ _ _ (Nat.le_refl _), getD_append_one]
  rw [e1]
  have e2 : rAt 0 (runR kF 0 N xs ops ops.length ++ [stepR kF 0 N xs (runR kF 0 N xs ops ops.length) ⟨kind, u, v, 0⟩]) (ops.length : Int) = stepR kF 0 N xs (runR kF 0 N xs ops ops.length) ⟨kind, u, v, 0⟩ := by
    unfold rAt
    rw [Int.toNat_natCast]
    have := getD_append_one (runR kF 0 N xs ops ops.length) (stepR kF 0 N xs (runR kF 0 N xs ops ops.length) ⟨kind, u, v, 0⟩) ⟨0, []⟩
    rw [runR_length] at this
    exact this
  rw [e2]
  generalize runR kF 0 N xs ops ops.length = rs
  simp only [stepR]
  rw [List.getD_eq_getElem?_getD, List.getElem?_map, List.getElem?_range hkN]
  rcases hk with rfl | rfl <;> simp [slopeR, Kd.op]

theorem val_cut : ∀ w : Fin 65, fcutOk .i64 (fdiv (fofint ((w.val : Int) - 32)) 4620693217682128896) = true := by decide +kernel
theorem valV_cut (ms : List AV) (lm i : Nat) : fcutOk .i64 (valV ms lm i) = true := by
  unfold valV
  generalize (bif decide ((i : Int) < (lm : Int)) then nsAt ms i else (i : Int)) = k
  have h := wi_range k 65 (by omega) (by omega)
  rw [wrapI (by omega) (by omega)]
  have := val_cut ⟨(wi k 65).toNat, by omega⟩
  simp only [Int.toNat_of_nonneg h.1] at this
  exact this

namespace Try
open Go.Proofs.Try

def suS1 (ms : List AV) (lm : Nat) (d : Bool) (ops : List TOp) (u0 : Int) (i : Nat) : St :=
  mk [2,3,9,10] [.snap ms lm, .bool d, .ptr 0 0, .int .i64 (i : Int)] [⟨[.int .i64 1, .slc 1 0 ops.length, .slc 2 0 1], 53⟩, ⟨opsL ops, 57⟩, ⟨[.int .i64 u0], 3⟩] []

theorem suRound1 (ms : List AV) (lm : Nat) (d : Bool) (ops : List TOp) (u0 : Int) (i : Nat) (hi : i < ops.length) (hm : ops.length < 1000) (ho : OpsOk 1 ops) (w0 : World) :
    Goes CO1 w0 200 suBody (suS1 ms lm d ops u0 i) .normal (suS1 ms lm d (ops.set i { ops.getD i op0 with c := icut (ops.getD i op0).c }) u0 (i + 1)) := by
  have ew : IntKind.i64.wrap ((i : Int) + 1) = ((i + 1 : Nat) : Int) := by rw [wrapI (by omega) (by omega)]; rfl
  have g := (opsL_get ops i hi).2.2.2
  have hc := (ho i hi).cut
  have hlen := opsL_length ops
  have ei : 0 + (i : Int).toNat * 4 + 3 = 4 * i + 3 := by simp; omega
  refine goes_to (suI1 ms lm d ops ops.length u0 i (ops.set i { ops.getD i op0 with c := icut (ops.getD i op0).c }) w0 [] [] ?_) ?_
  · simp only [ei, g, AV.toFlt, setL]
    repeat' (with_reducible apply and_t)
    all_goals first
      | rfl
      | exact hc.1
      | (simp only [decide_eq_true_eq]; omega)
      | (simp only [Nat.blt_eq, Nat.ble_eq]; omega)
      | exact pb_of (by rw [← opsL_setC _ _ _ hi]; exact SubP.same (by rw [opsL_setC _ _ _ hi]; exact opsL_noOwn _))
  · unfold suS1
    rw [ew, List.length_set]

theorem suLoop1 (ms : List AV) (lm : Nat) (d : Bool) (ops : List TOp) (u0 : Int) (hm : ops.length < 1000) (ho : OpsOk 1 ops) (w0 : World) :
    Goes CO1 w0 200 (cL (cR (cR (cR suC)))) (mk [2,3,9] [.snap ms lm, .bool d, .ptr 0 0] [⟨[.int .i64 1, .slc 1 0 ops.length, .slc 2 0 1], 53⟩, ⟨opsL ops, 57⟩, ⟨[.int .i64 u0], 3⟩] []) .normal
      (mk [2,3,9] [.snap ms lm, .bool d, .ptr 0 0] [⟨[.int .i64 1, .slc 1 0 ops.length, .slc 2 0 1], 53⟩, ⟨opsL (turnOps icut ops ops.length), 57⟩, ⟨[.int .i64 u0], 3⟩] []) := by
  have hl := turnOps_length icut ops ops.length
  refine goes_seq (by kernel_rfl) (goes_to (suE1 ms lm d ops ops.length u0 w0 [] [] (by simp [opsL_noOwn])) ?_) (goes_block (id := 0) (by kernel_rfl) (goes_loop (by kernel_rfl) (fun h => by cases h) ops.length (fun i => suS1 ms lm d (turnOps icut ops i) u0 i) (s2 := _) ?_ ?_))
  · rfl
  · intro i hi
    exact suRound1 ms lm d (turnOps icut ops i) u0 i (by rw [turnOps_length]; exact hi) (by rw [turnOps_length]; exact hm) (cutOps_ok ho i (by omega)) w0
  · have := suX1 ms lm d (turnOps icut ops ops.length) (turnOps icut ops ops.length).length u0 ops.length w0 [] [] (by simp [opsL_noOwn, hl])
    rw [hl] at this
    show Goes CO1 w0 200 suBody (mk _ _ [⟨[_, .slc 1 0 (turnOps icut ops ops.length).length, _], 53⟩, _, _] []) _ _
    rw [hl]
    exact this

theorem suEnd1f (ms : List AV) (lm : Nat) (hms : LmkOk ms lm) (ops : List TOp) (u0 : Int) (hm : ops.length < 999) (ho : OpsOk 1 ops) (hu : OutsOk 1 ops.length [u0]) (w0 : World) :
    Goes CO1 w0 200 (cR (cR (cR (cR suC)))) (mk [2,3,9] [.snap ms lm, .bool false, .ptr 0 0] [⟨[.int .i64 1, .slc 1 0 ops.length, .slc 2 0 1], 53⟩, ⟨opsL ops, 57⟩, ⟨[.int .i64 u0], 3⟩] []) .ret (mk [8] [.bool true] [] []) := by
  refine suZ1f ms lm ops ops.length u0 w0 [] [] ?_
  have hlen := opsL_length ops
  have hT : List.take (ops.length * 4) (opsL ops) = opsL ops := List.take_of_length_le (by omega)
  have hA : opsL ops ++ [AV.int .i64 2, AV.int .i64 u0, AV.int .i64 u0, AV.flt 0] = opsL (ops ++ [⟨2, u0, u0, 0⟩]) := by rw [opsL_append]; rfl
  have hA2 := opsL_length (ops ++ [(⟨2, u0, u0, 0⟩ : TOp)])
  rw [List.length_append, List.length_singleton] at hA2
  have hu0 := hu.2 0 (by omega)
  have hu1 := hu.2 0 (by omega)
  have hou : OpsOk 1 (ops ++ [⟨2, u0, u0, 0⟩]) := ho.snoc (.inr (.inr ⟨by simp, hu0.1, hu0.2, hu1.1, hu1.2, rfl⟩))
  have hlu : (ops ++ [(⟨2, u0, u0, 0⟩ : TOp)]).length = ops.length + 1 := by simp
  have huu : OutsOk 1 (ops.length + 1) [(ops.length : Int)] := by
    refine ⟨rfl, fun j hj => ?_⟩
    have hj' : j = 0 := by omega
    rcases hj' with rfl <;> simp <;> omega
  simp only [hT, hA, List.nil_append, Nat.zero_add, unOps_ops]
  repeat' (with_reducible apply and_t)
  all_goals first
    | rfl
    | exact trivial
    | exact decide_eq_true ((jacSums_eq (by omega) rfl (by omega)).trans rfl)
    | exact valV_cut _ _ _
    | exact decide_eq_true ⟨by trivial, by omega, by omega⟩
    | exact opsL_noOwn _
    | exact opsL_one _
    | (simp only [Nat.blt_eq, Nat.ble_eq]; omega)
    | (simp only [decide_eq_true_eq]; omega)
    | exact pb_of ⟨by trivial, by trivial, hms⟩
    | exact pb_of ⟨by trivial, ⟨rfl, rfl, rfl, ops, [u0], rfl, rfl, rfl, by omega, ho, hu⟩, ⟨rfl, [icut (valV ms lm 0)], rfl, rfl⟩⟩
    | exact pb_of ⟨by trivial, ⟨rfl, rfl, rfl, ops ++ [⟨2, u0, u0, 0⟩], [(ops.length : Int)], rfl, hlu.symm, rfl, by omega, hou, huu⟩, ⟨rfl, [icut (valV ms lm 0)], rfl, rfl⟩⟩

theorem suEnd1t (ms : List AV) (lm : Nat) (hms : LmkOk ms lm) (ops : List TOp) (u0 : Int) (hm : ops.length < 999) (ho : OpsOk 1 ops) (hu : OutsOk 1 ops.length [u0]) (w0 : World) :
    Goes CO1 w0 200 (cR (cR (cR (cR suC)))) (mk [2,3,9] [.snap ms lm, .bool true, .ptr 0 0] [⟨[.int .i64 1, .slc 1 0 ops.length, .slc 2 0 1], 53⟩, ⟨opsL ops, 57⟩, ⟨[.int .i64 u0], 3⟩] []) .ret (mk [8] [.bool true] [] []) := by
  refine suZ1t ms lm ops ops.length u0 w0 [] [] ?_
  have hlen := opsL_length ops
  have hT : List.take (ops.length * 4) (opsL ops) = opsL ops := List.take_of_length_le (by omega)
  have hA : opsL ops ++ [AV.int .i64 3, AV.int .i64 u0, AV.int .i64 u0, AV.flt 0] = opsL (ops ++ [⟨3, u0, u0, 0⟩]) := by rw [opsL_append]; rfl
  have hA2 := opsL_length (ops ++ [(⟨3, u0, u0, 0⟩ : TOp)])
  rw [List.length_append, List.length_singleton] at hA2
  have hu0 := hu.2 0 (by omega)
  have hu1 := hu.2 0 (by omega)
  have hou : OpsOk 1 (ops ++ [⟨3, u0, u0, 0⟩]) := ho.snoc (.inr (.inr ⟨by simp, hu0.1, hu0.2, hu1.1, hu1.2, rfl⟩))
  have hlu : (ops ++ [(⟨3, u0, u0, 0⟩ : TOp)]).length = ops.length + 1 := by simp
  have huu : OutsOk 1 (ops.length + 1) [(ops.length : Int)] := by
    refine ⟨rfl, fun j hj => ?_⟩
    have hj' : j = 0 := by omega
    rcases hj' with rfl <;> simp <;> omega
  simp only [hT, hA, List.nil_append, Nat.zero_add, unOps_ops]
  repeat' (with_reducible apply and_t)
  all_goals first
    | rfl
    | exact trivial
    | exact decide_eq_true ((jacSums_eq (by omega) rfl (by omega)).trans rfl)
    | exact valV_cut _ _ _
    | exact decide_eq_true ⟨by trivial, by omega, by omega⟩
    | exact opsL_noOwn _
    | exact opsL_one _
    | (simp only [Nat.blt_eq, Nat.ble_eq]; omega)
    | (simp only [decide_eq_true_eq]; omega)
    | exact pb_of ⟨by trivial, by trivial, hms⟩
    | exact pb_of ⟨by trivial, ⟨rfl, rfl, rfl, ops, [u0], rfl, rfl, rfl, by omega, ho, hu⟩, ⟨rfl, [icut (valV ms lm 0)], rfl, rfl⟩⟩
    | exact pb_of ⟨by trivial, ⟨rfl, rfl, rfl, ops ++ [⟨3, u0, u0, 0⟩], [(ops.length : Int)], rfl, hlu.symm, rfl, by omega, hou, huu⟩, ⟨rfl, [icut (valV ms lm 0)], rfl, rfl⟩⟩

theorem con_sums1 (n : Int) (ns : List AV) (ln : Nat) (hns : LmkOk ns ln) (hN : wi n 3 + 1 = (1 : Nat)) (ms : List AV) (lm : Nat) (hms : LmkOk ms lm) (d : Bool) (nb : Nat) :
    Con prog 8 [.int .i64 n, .snap ns ln, .snap ms lm, .bool d] nb (.bool true) [] := by
  have hl := lmkOps_length n 1 (.inl rfl) false ns ln
  have ho := lmkOps_ok n 1 (.inl rfl) false ns ln
  have hM : lmkM 1 ln < 900 := by unfold lmkM; omega
  have hu := outsT_ok n 1 (lmkM 1 ln) (.inl rfl) (by unfold lmkM; omega) (by omega)
  refine con_goesKC (es := esO1) (d := 8) (deep := shallow [56, 107, 63]) 200 (by kernel_rfl) (dec := []) (e := .ret) (s := mk [8] [.bool true] [] []) [] (r := ⟨_, _, true⟩) (by kernel_rfl) rfl (.inl rfl) fun w0 => ?_
  refine goes_seq (by kernel_rfl) (suA1 n ns ln ms lm d w0 []) (goes_seq (by kernel_rfl) (suB1 n ns ln ms lm d w0 [] []) (goes_seq (by kernel_rfl) (suD1 n ns ln ms lm d w0 [] [] ?_) ?_))
  · rw [opsL_noOwn]
    simp only [Bool.true_and, Bool.and_true]
    exact pb_of ⟨by trivial, hns, hN⟩
  · rw [← hl]
    rw [← hl] at hM hu
    generalize lmkOps n 1 false ns ln = ops at *
    have e : ∀ j, outT n ops.length j = IntKind.wrap IntKind.i64 (IntKind.wrap IntKind.i64 ((ops.length : Int) - 1) - wi (IntKind.wrap IntKind.i64 (IntKind.wrap IntKind.i64 (Int.tdiv n 3) + (j : Int))) (min3 ops.length)) := fun _ => rfl
    have hl2 := turnOps_length icut ops ops.length
    refine goes_seq (by kernel_rfl) (suLoop1 ms lm d ops (outT n ops.length 0) (by omega) ho w0) ?_
    have ho2 := cutOps_ok ho _ (Nat.le_refl _)
    generalize turnOps icut ops ops.length = ops2 at *
    rw [← hl2] at hu ⊢
    cases d with
    | false => exact suEnd1f ms lm hms ops2 (outT n ops2.length 0) (by omega) ho2 hu w0
    | true => exact suEnd1t ms lm hms ops2 (outT n ops2.length 0) (by omega) ho2 hu w0

def suS2 (ms : List AV) (lm : Nat) (d : Bool) (ops : List TOp) (u0 u1 : Int) (i : Nat) : St :=
  mk [2,3,9,10] [.snap ms lm, .bool d, .ptr 0 0, .int .i64 (i : Int)] [⟨[.int .i64 2, .slc 1 0 ops.length, .slc 2 0 2], 53⟩, ⟨opsL ops, 57⟩, ⟨[.int .i64 u0, .int .i64 u1], 3⟩] []

theorem suRound2 (ms : List AV) (lm : Nat) (d : Bool) (ops : List TOp) (u0 u1 : Int) (i : Nat) (hi : i < ops.length) (hm : ops.length < 1000) (ho : OpsOk 2 ops) (w0 : World) :
    Goes CO2 w0 200 suBody (suS2 ms lm d ops u0 u1 i) .normal (suS2 ms lm d (ops.set i { ops.getD i op0 with c := icut (ops.getD i op0).c }) u0 u1 (i + 1)) := by
  have ew : IntKind.i64.wrap ((i : Int) + 1) = ((i + 1 : Nat) : Int) := by rw [wrapI (by omega) (by omega)]; rfl
  have g := (opsL_get ops i hi).2.2.2
  have hc := (ho i hi).cut
  have hlen := opsL_length ops
  have ei : 0 + (i : Int).toNat * 4 + 3 = 4 * i + 3 := by simp; omega
  refine goes_to (suI2 ms lm d ops ops.length u0 u1 i (ops.set i { ops.getD i op0 with c := icut (ops.getD i op0).c }) w0 [] [] ?_) ?_
  · simp only [ei, g, AV.toFlt, setL]
    repeat' (with_reducible apply and_t)
    all_goals first
      | rfl
      | exact hc.1
      | (simp only [decide_eq_true_eq]; omega)
      | (simp only [Nat.blt_eq, Nat.ble_eq]; omega)
      | exact pb_of (by rw [← opsL_setC _ _ _ hi]; exact SubP.same (by rw [opsL_setC _ _ _ hi]; exact opsL_noOwn _))
  · unfold suS2
    rw [ew, List.length_set]

theorem suLoop2 (ms : List AV) (lm : Nat) (d : Bool) (ops : List TOp) (u0 u1 : Int) (hm : ops.length < 1000) (ho : OpsOk 2 ops) (w0 : World) :
    Goes CO2 w0 200 (cL (cR (cR (cR suC)))) (mk [2,3,9] [.snap ms lm, .bool d, .ptr 0 0] [⟨[.int .i64 2, .slc 1 0 ops.length, .slc 2 0 2], 53⟩, ⟨opsL ops, 57⟩, ⟨[.int .i64 u0, .int .i64 u1], 3⟩] []) .normal
      (mk [2,3,9] [.snap ms lm, .bool d, .ptr 0 0] [⟨[.int .i64 2, .slc 1 0 ops.length, .slc 2 0 2], 53⟩, ⟨opsL (turnOps icut ops ops.length), 57⟩, ⟨[.int .i64 u0, .int .i64 u1], 3⟩] []) := by
  have hl := turnOps_length icut ops ops.length
  refine goes_seq (by kernel_rfl) (goes_to (suE2 ms lm d ops ops.length u0 u1 w0 [] [] (by simp [opsL_noOwn])) ?_) (goes_block (id := 0) (by kernel_rfl) (goes_loop (by kernel_rfl) (fun h => by cases h) ops.length (fun i => suS2 ms lm d (turnOps icut ops i) u0 u1 i) (s2 := _) ?_ ?_))
  · rfl
  · intro i hi
    exact suRound2 ms lm d (turnOps icut ops i) u0 u1 i (by rw [turnOps_length]; exact hi) (by rw [turnOps_length]; exact hm) (cutOps_ok ho i (by omega)) w0
  · have := suX2 ms lm d (turnOps icut ops ops.length) (turnOps icut ops ops.length).length u0 u1 ops.length w0 [] [] (by simp [opsL_noOwn, hl])
    rw [hl] at this
    show Goes CO2 w0 200 suBody (mk _ _ [⟨[_, .slc 1 0 (turnOps icut ops ops.length).length, _], 53⟩, _, _] []) _ _
    rw [hl]
    exact this

theorem suEnd2f (ms : List AV) (lm : Nat) (hms : LmkOk ms lm) (ops : List TOp) (u0 u1 : Int) (hm : ops.length < 999) (ho : OpsOk 2 ops) (hu : OutsOk 2 ops.length [u0, u1]) (w0 : World) :
    Goes CO2 w0 200 (cR (cR (cR (cR suC)))) (mk [2,3,9] [.snap ms lm, .bool false, .ptr 0 0] [⟨[.int .i64 2, .slc 1 0 ops.length, .slc 2 0 2], 53⟩, ⟨opsL ops, 57⟩, ⟨[.int .i64 u0, .int .i64 u1], 3⟩] []) .ret (mk [8] [.bool true] [] []) := by
  refine suZ2f ms lm ops ops.length u0 u1 w0 [] [] ?_
  have hlen := opsL_length ops
  have hT : List.take (ops.length * 4) (opsL ops) = opsL ops := List.take_of_length_le (by omega)
  have hA : opsL ops ++ [AV.int .i64 2, AV.int .i64 u0, AV.int .i64 u1, AV.flt 0] = opsL (ops ++ [⟨2, u0, u1, 0⟩]) := by rw [opsL_append]; rfl
  have hA2 := opsL_length (ops ++ [(⟨2, u0, u1, 0⟩ : TOp)])
  rw [List.length_append, List.length_singleton] at hA2
  have hu0 := hu.2 0 (by omega)
  have hu1 := hu.2 1 (by omega)
  have hou : OpsOk 2 (ops ++ [⟨2, u0, u1, 0⟩]) := ho.snoc (.inr (.inr ⟨by simp, hu0.1, hu0.2, hu1.1, hu1.2, rfl⟩))
  have hlu : (ops ++ [(⟨2, u0, u1, 0⟩ : TOp)]).length = ops.length + 1 := by simp
  have huu : OutsOk 2 (ops.length + 1) [(ops.length : Int), (ops.length : Int)] := by
    refine ⟨rfl, fun j hj => ?_⟩
    have hj' : j = 0 ∨ j = 1 := by omega
    rcases hj' with rfl | rfl <;> simp <;> omega
  simp only [hT, hA, List.nil_append, Nat.zero_add, unOps_ops]
  repeat' (with_reducible apply and_t)
  all_goals first
    | rfl
    | exact trivial
    | exact decide_eq_true ((jacSums_eq (by omega) rfl (by omega)).trans rfl)
    | exact valV_cut _ _ _
    | exact decide_eq_true ⟨by trivial, by omega, by omega⟩
    | exact opsL_noOwn _
    | exact opsL_one _
    | (simp only [Nat.blt_eq, Nat.ble_eq]; omega)
    | (simp only [decide_eq_true_eq]; omega)
    | exact pb_of ⟨by trivial, by trivial, hms⟩
    | exact pb_of ⟨by trivial, ⟨rfl, rfl, rfl, ops, [u0, u1], rfl, rfl, rfl, by omega, ho, hu⟩, ⟨rfl, [icut (valV ms lm 0), icut (valV ms lm 1)], rfl, rfl⟩⟩
    | exact pb_of ⟨by trivial, ⟨rfl, rfl, rfl, ops ++ [⟨2, u0, u1, 0⟩], [(ops.length : Int), (ops.length : Int)], rfl, hlu.symm, rfl, by omega, hou, huu⟩, ⟨rfl, [icut (valV ms lm 0), icut (valV ms lm 1)], rfl, rfl⟩⟩

theorem suEnd2t (ms : List AV) (lm : Nat) (hms : LmkOk ms lm) (ops : List TOp) (u0 u1 : Int) (hm : ops.length < 999) (ho : OpsOk 2 ops) (hu : OutsOk 2 ops.length [u0, u1]) (w0 : World) :
    Goes CO2 w0 200 (cR (cR (cR (cR suC)))) (mk [2,3,9] [.snap ms lm, .bool true, .ptr 0 0] [⟨[.int .i64 2, .slc 1 0 ops.length, .slc 2 0 2], 53⟩, ⟨opsL ops, 57⟩, ⟨[.int .i64 u0, .int .i64 u1], 3⟩] []) .ret (mk [8] [.bool true] [] []) := by
  refine suZ2t ms lm ops ops.length u0 u1 w0 [] [] ?_
  have hlen := opsL_length ops
  have hT : List.take (ops.length * 4) (opsL ops) = opsL ops := List.take_of_length_le (by omega)
  have hA : opsL ops ++ [AV.int .i64 3, AV.int .i64 u0, AV.int .i64 u1, AV.flt 0] = opsL (ops ++ [⟨3, u0, u1, 0⟩]) := by rw [opsL_append]; rfl
  have hA2 := opsL_length (ops ++ [(⟨3, u0, u1, 0⟩ : TOp)])
  rw [List.length_append, List.length_singleton] at hA2
  have hu0 := hu.2 0 (by omega)
  have hu1 := hu.2 1 (by omega)
  have hou : OpsOk 2 (ops ++ [⟨3, u0, u1, 0⟩]) := ho.snoc (.inr (.inr ⟨by simp, hu0.1, hu0.2, hu1.1, hu1.2, rfl⟩))
  have hlu : (ops ++ [(⟨3, u0, u1, 0⟩ : TOp)]).length = ops.length + 1 := by simp
  have huu : OutsOk 2 (ops.length + 1) [(ops.length : Int), (ops.length : Int)] := by
    refine ⟨rfl, fun j hj => ?_⟩
    have hj' : j = 0 ∨ j = 1 := by omega
    rcases hj' with rfl | rfl <;> simp <;> omega
  simp only [hT, hA, List.nil_append, Nat.zero_add, unOps_ops]
  repeat' (with_reducible apply and_t)
  all_goals first
    | rfl
    | exact trivial
    | exact decide_eq_true ((jacSums_eq (by omega) rfl (by omega)).trans rfl)
    | exact valV_cut _ _ _
    | exact decide_eq_true ⟨by trivial, by omega, by omega⟩
    | exact opsL_noOwn _
    | exact opsL_one _
    | (simp only [Nat.blt_eq, Nat.ble_eq]; omega)
    | (simp only [decide_eq_true_eq]; omega)
    | exact pb_of ⟨by trivial, by trivial, hms⟩
    | exact pb_of ⟨by trivial, ⟨rfl, rfl, rfl, ops, [u0, u1], rfl, rfl, rfl, by omega, ho, hu⟩, ⟨rfl, [icut (valV ms lm 0), icut (valV ms lm 1)], rfl, rfl⟩⟩
    | exact pb_of ⟨by trivial, ⟨rfl, rfl, rfl, ops ++ [⟨3, u0, u1, 0⟩], [(ops.length : Int), (ops.length : Int)], rfl, hlu.symm, rfl, by omega, hou, huu⟩, ⟨rfl, [icut (valV ms lm 0), icut (valV ms lm 1)], rfl, rfl⟩⟩

theorem con_sums2 (n : Int) (ns : List AV) (ln : Nat) (hns : LmkOk ns ln) (hN : wi n 3 + 1 = (2 : Nat)) (ms : List AV) (lm : Nat) (hms : LmkOk ms lm) (d : Bool) (nb : Nat) :
    Con prog 8 [.int .i64 n, .snap ns ln, .snap ms lm, .bool d] nb (.bool true) [] := by
  have hl := lmkOps_length n 2 (.inr (.inl rfl)) false ns ln
  have ho := lmkOps_ok n 2 (.inr (.inl rfl)) false ns ln
  have hM : lmkM 2 ln < 900 := by unfold lmkM; omega
  have hu := outsT_ok n 2 (lmkM 2 ln) (.inr (.inl rfl)) (by unfold lmkM; omega) (by omega)
  refine con_goesKC (es := esO2) (d := 8) (deep := shallow [56, 107, 63]) 200 (by kernel_rfl) (dec := []) (e := .ret) (s := mk [8] [.bool true] [] []) [] (r := ⟨_, _, true⟩) (by kernel_rfl) rfl (.inl rfl) fun w0 => ?_
  refine goes_seq (by kernel_rfl) (suA2 n ns ln ms lm d w0 []) (goes_seq (by kernel_rfl) (suB2 n ns ln ms lm d w0 [] []) (goes_seq (by kernel_rfl) (suD2 n ns ln ms lm d w0 [] [] ?_) ?_))
  · rw [opsL_noOwn]
    simp only [Bool.true_and, Bool.and_true]
    exact pb_of ⟨by trivial, hns, hN⟩
  · rw [← hl]
    rw [← hl] at hM hu
    generalize lmkOps n 2 false ns ln = ops at *
    have e : ∀ j, outT n ops.length j = IntKind.wrap IntKind.i64 (IntKind.wrap IntKind.i64 ((ops.length : Int) - 1) - wi (IntKind.wrap IntKind.i64 (IntKind.wrap IntKind.i64 (Int.tdiv n 3) + (j : Int))) (min3 ops.length)) := fun _ => rfl
    have hl2 := turnOps_length icut ops ops.length
    refine goes_seq (by kernel_rfl) (suLoop2 ms lm d ops (outT n ops.length 0) (outT n ops.length 1) (by omega) ho w0) ?_
    have ho2 := cutOps_ok ho _ (Nat.le_refl _)
    generalize turnOps icut ops ops.length = ops2 at *
    rw [← hl2] at hu ⊢
    cases d with
    | false => exact suEnd2f ms lm hms ops2 (outT n ops2.length 0) (outT n ops2.length 1) (by omega) ho2 hu w0
    | true => exact suEnd2t ms lm hms ops2 (outT n ops2.length 0) (outT n ops2.length 1) (by omega) ho2 hu w0

def suS3 (ms : List AV) (lm : Nat) (d : Bool) (ops : List TOp) (u0 u1 u2 : Int) (i : Nat) : St :=
  mk [2,3,9,10] [.snap ms lm, .bool d, .ptr 0 0, .int .i64 (i : Int)] [⟨[.int .i64 3, .slc 1 0 ops.length, .slc 2 0 3], 53⟩, ⟨opsL ops, 57⟩, ⟨[.int .i64 u0, .int .i64 u1, .int .i64 u2], 3⟩] []

theorem suRound3 (ms : List AV) (lm : Nat) (d : Bool) (ops : List TOp) (u0 u1 u2 : Int) (i : Nat) (hi : i < ops.length) (hm : ops.length < 1000) (ho : OpsOk 3 ops) (w0 : World) :
    Goes CO3 w0 200 suBody (suS3 ms lm d ops u0 u1 u2 i) .normal (suS3 ms lm d (ops.set i { ops.getD i op0 with c := icut (ops.getD i op0).c }) u0 u1 u2 (i + 1)) := by
  have ew : IntKind.i64.wrap ((i : Int) + 1) = ((i + 1 : Nat) : Int) := by rw [wrapI (by omega) (by omega)]; rfl
  have g := (opsL_get ops i hi).2.2.2
  have hc := (ho i hi).cut
  have hlen := opsL_length ops
  have ei : 0 + (i : Int).toNat * 4 + 3 = 4 * i + 3 := by simp; omega
  refine goes_to (suI3 ms lm d ops ops.length u0 u1 u2 i (ops.set i { ops.getD i op0 with c := icut (ops.getD i op0).c }) w0 [] [] ?_) ?_
  · simp only [ei, g, AV.toFlt, setL]
    repeat' (with_reducible apply and_t)
    all_goals first
      | rfl
      | exact hc.1
      | (simp only [decide_eq_true_eq]; omega)
      | (simp only [Nat.blt_eq, Nat.ble_eq]; omega)
      | exact pb_of (by rw [← opsL_setC _ _ _ hi]; exact SubP.same (by rw [opsL_setC _ _ _ hi]; exact opsL_noOwn _))
  · unfold suS3
    rw [ew, List.length_set]

theorem suLoop3 (ms : List AV) (lm : Nat) (d : Bool) (ops : List TOp) (u0 u1 u2 : Int) (hm : ops.length < 1000) (ho : OpsOk 3 ops) (w0 : World) :
    Goes CO3 w0 200 (cL (cR (cR (cR suC)))) (mk [2,3,9] [.snap ms lm, .bool d, .ptr 0 0] [⟨[.int .i64 3, .slc 1 0 ops.length, .slc 2 0 3], 53⟩, ⟨opsL ops, 57⟩, ⟨[.int .i64 u0, .int .i64 u1, .int .i64 u2], 3⟩] []) .normal
      (mk [2,3,9] [.snap ms lm, .bool d, .ptr 0 0] [⟨[.int .i64 3, .slc 1 0 ops.length, .slc 2 0 3], 53⟩, ⟨opsL (turnOps icut ops ops.length), 57⟩, ⟨[.int .i64 u0, .int .i64 u1, .int .i64 u2], 3⟩] []) := by
  have hl := turnOps_length icut ops ops.length
  refine goes_seq (by kernel_rfl) (goes_to (suE3 ms lm d ops ops.length u0 u1 u2 w0 [] [] (by simp [opsL_noOwn])) ?_) (goes_block (id := 0) (by kernel_rfl) (goes_loop (by kernel_rfl) (fun h => by cases h) ops.length (fun i => suS3 ms lm d (turnOps icut ops i) u0 u1 u2 i) (s2 := _) ?_ ?_))
  · rfl
  · intro i hi
    exact suRound3 ms lm d (turnOps icut ops i) u0 u1 u2 i (by rw [turnOps_length]; exact hi) (by rw [turnOps_length]; exact hm) (cutOps_ok ho i (by omega)) w0
  · have := suX3 ms lm d (turnOps icut ops ops.length) (turnOps icut ops ops.length).length u0 u1 u2 ops.length w0 [] [] (by simp [opsL_noOwn, hl])
    rw [hl] at this
    show Goes CO3 w0 200 suBody (mk _ _ [⟨[_, .slc 1 0 (turnOps icut ops ops.length).length, _], 53⟩, _, _] []) _ _
    rw [hl]
    exact this

theorem suEnd3f (ms : List AV) (lm : Nat) (hms : LmkOk ms lm) (ops : List TOp) (u0 u1 u2 : Int) (hm : ops.length < 999) (ho : OpsOk 3 ops) (hu : OutsOk 3 ops.length [u0, u1, u2]) (w0 : World) :
    Goes CO3 w0 200 (cR (cR (cR (cR suC)))) (mk [2,3,9] [.snap ms lm, .bool false, .ptr 0 0] [⟨[.int .i64 3, .slc 1 0 ops.length, .slc 2 0 3], 53⟩, ⟨opsL ops, 57⟩, ⟨[.int .i64 u0, .int .i64 u1, .int .i64 u2], 3⟩] []) .ret (mk [8] [.bool true] [] []) := by
  refine suZ3f ms lm ops ops.length u0 u1 u2 w0 [] [] ?_
  have hlen := opsL_length ops
  have hT : List.take (ops.length * 4) (opsL ops) = opsL ops := List.take_of_length_le (by omega)
  have hA : opsL ops ++ [AV.int .i64 2, AV.int .i64 u0, AV.int .i64 u2, AV.flt 0] = opsL (ops ++ [⟨2, u0, u2, 0⟩]) := by rw [opsL_append]; rfl
  have hA2 := opsL_length (ops ++ [(⟨2, u0, u2, 0⟩ : TOp)])
  rw [List.length_append, List.length_singleton] at hA2
  have hu0 := hu.2 0 (by omega)
  have hu1 := hu.2 2 (by omega)
  have hou : OpsOk 3 (ops ++ [⟨2, u0, u2, 0⟩]) := ho.snoc (.inr (.inr ⟨by simp, hu0.1, hu0.2, hu1.1, hu1.2, rfl⟩))
  have hlu : (ops ++ [(⟨2, u0, u2, 0⟩ : TOp)]).length = ops.length + 1 := by simp
  have huu : OutsOk 3 (ops.length + 1) [(ops.length : Int), (ops.length : Int), (ops.length : Int)] := by
    refine ⟨rfl, fun j hj => ?_⟩
    have hj' : j = 0 ∨ j = 1 ∨ j = 2 := by omega
    rcases hj' with rfl | rfl | rfl <;> simp <;> omega
  simp only [hT, hA, List.nil_append, Nat.zero_add, unOps_ops]
  repeat' (with_reducible apply and_t)
  all_goals first
    | rfl
    | exact trivial
    | exact decide_eq_true ((jacSums_eq (by omega) rfl (by omega)).trans rfl)
    | exact valV_cut _ _ _
    | exact decide_eq_true ⟨by trivial, by omega, by omega⟩
    | exact opsL_noOwn _
    | exact opsL_one _
    | (simp only [Nat.blt_eq, Nat.ble_eq]; omega)
    | (simp only [decide_eq_true_eq]; omega)
    | exact pb_of ⟨by trivial, by trivial, hms⟩
    | exact pb_of ⟨by trivial, ⟨rfl, rfl, rfl, ops, [u0, u1, u2], rfl, rfl, rfl, by omega, ho, hu⟩, ⟨rfl, [icut (valV ms lm 0), icut (valV ms lm 1), icut (valV ms lm 2)], rfl, rfl⟩⟩
    | exact pb_of ⟨by trivial, ⟨rfl, rfl, rfl, ops ++ [⟨2, u0, u2, 0⟩], [(ops.length : Int), (ops.length : Int), (ops.length : Int)], rfl, hlu.symm, rfl, by omega, hou, huu⟩, ⟨rfl, [icut (valV ms lm 0), icut (valV ms lm 1), icut (valV ms lm 2)], rfl, rfl⟩⟩

theorem suEnd3t (ms : List AV) (lm : Nat) (hms : LmkOk ms lm) (ops : List TOp) (u0 u1 u2 : Int) (hm : ops.length < 999) (ho : OpsOk 3 ops) (hu : OutsOk 3 ops.length [u0, u1, u2]) (w0 : World) :
    Goes CO3 w0 200 (cR (cR (cR (cR suC)))) (mk [2,3,9] [.snap ms lm, .bool true, .ptr 0 0] [⟨[.int .i64 3, .slc 1 0 ops.length, .slc 2 0 3], 53⟩, ⟨opsL ops, 57⟩, ⟨[.int .i64 u0, .int .i64 u1, .int .i64 u2], 3⟩] []) .ret (mk [8] [.bool true] [] []) := by
  refine suZ3t ms lm ops ops.length u0 u1 u2 w0 [] [] ?_
  have hlen := opsL_length ops
  have hT : List.take (ops.length * 4) (opsL ops) = opsL ops := List.take_of_length_le (by omega)
  have hA : opsL ops ++ [AV.int .i64 3, AV.int .i64 u0, AV.int .i64 u2, AV.flt 0] = opsL (ops ++ [⟨3, u0, u2, 0⟩]) := by rw [opsL_append]; rfl
  have hA2 := opsL_length (ops ++ [(⟨3, u0, u2, 0⟩ : TOp)])
  rw [List.length_append, List.length_singleton] at hA2
  have hu0 := hu.2 0 (by omega)
  have hu1 := hu.2 2 (by omega)
  have hou : OpsOk 3 (ops ++ [⟨3, u0, u2, 0⟩]) := ho.snoc (.inr (.inr ⟨by simp, hu0.1, hu0.2, hu1.1, hu1.2, rfl⟩))
  have hlu : (ops ++ [(⟨3, u0, u2, 0⟩ : TOp)]).length = ops.length + 1 := by simp
  have huu : OutsOk 3 (ops.length + 1) [(ops.length : Int), (ops.length : Int), (ops.length : Int)] := by
    refine ⟨rfl, fun j hj => ?_⟩
    have hj' : j = 0 ∨ j = 1 ∨ j = 2 := by omega
    rcases hj' with rfl | rfl | rfl <;> simp <;> omega
  simp only [hT, hA, List.nil_append, Nat.zero_add, unOps_ops]
  repeat' (with_reducible apply and_t)
  all_goals first
    | rfl
    | exact trivial
    | exact decide_eq_true ((jacSums_eq (by omega) rfl (by omega)).trans rfl)
    | exact valV_cut _ _ _
    | exact decide_eq_true ⟨by trivial, by omega, by omega⟩
    | exact opsL_noOwn _
    | exact opsL_one _
    | (simp only [Nat.blt_eq, Nat.ble_eq]; omega)
    | (simp only [decide_eq_true_eq]; omega)
    | exact pb_of ⟨by trivial, by trivial, hms⟩
    | exact pb_of ⟨by trivial, ⟨rfl, rfl, rfl, ops, [u0, u1, u2], rfl, rfl, rfl, by omega, ho, hu⟩, ⟨rfl, [icut (valV ms lm 0), icut (valV ms lm 1), icut (valV ms lm 2)], rfl, rfl⟩⟩
    | exact pb_of ⟨by trivial, ⟨rfl, rfl, rfl, ops ++ [⟨3, u0, u2, 0⟩], [(ops.length : Int), (ops.length : Int), (ops.length : Int)], rfl, hlu.symm, rfl, by omega, hou, huu⟩, ⟨rfl, [icut (valV ms lm 0), icut (valV ms lm 1), icut (valV ms lm 2)], rfl, rfl⟩⟩

theorem con_sums3 (n : Int) (ns : List AV) (ln : Nat) (hns : LmkOk ns ln) (hN : wi n 3 + 1 = (3 : Nat)) (ms : List AV) (lm : Nat) (hms : LmkOk ms lm) (d : Bool) (nb : Nat) :
    Con prog 8 [.int .i64 n, .snap ns ln, .snap ms lm, .bool d] nb (.bool true) [] := by
  have hl := lmkOps_length n 3 (.inr (.inr rfl)) false ns ln
  have ho := lmkOps_ok n 3 (.inr (.inr rfl)) false ns ln
  have hM : lmkM 3 ln < 900 := by unfold lmkM; omega
  have hu := outsT_ok n 3 (lmkM 3 ln) (.inr (.inr rfl)) (by unfold lmkM; omega) (by omega)
  refine con_goesKC (es := esO3) (d := 8) (deep := shallow [56, 107, 63]) 200 (by kernel_rfl) (dec := []) (e := .ret) (s := mk [8] [.bool true] [] []) [] (r := ⟨_, _, true⟩) (by kernel_rfl) rfl (.inl rfl) fun w0 => ?_
  refine goes_seq (by kernel_rfl) (suA3 n ns ln ms lm d w0 []) (goes_seq (by kernel_rfl) (suB3 n ns ln ms lm d w0 [] []) (goes_seq (by kernel_rfl) (suD3 n ns ln ms lm d w0 [] [] ?_) ?_))
  · rw [opsL_noOwn]
    simp only [Bool.true_and, Bool.and_true]
    exact pb_of ⟨by trivial, hns, hN⟩
  · rw [← hl]
    rw [← hl] at hM hu
    generalize lmkOps n 3 false ns ln = ops at *
    have e : ∀ j, outT n ops.length j = IntKind.wrap IntKind.i64 (IntKind.wrap IntKind.i64 ((ops.length : Int) - 1) - wi (IntKind.wrap IntKind.i64 (IntKind.wrap IntKind.i64 (Int.tdiv n 3) + (j : Int))) (min3 ops.length)) := fun _ => rfl
    have hl2 := turnOps_length icut ops ops.length
    refine goes_seq (by kernel_rfl) (suLoop3 ms lm d ops (outT n ops.length 0) (outT n ops.length 1) (outT n ops.length 2) (by omega) ho w0) ?_
    have ho2 := cutOps_ok ho _ (Nat.le_refl _)
    generalize turnOps icut ops ops.length = ops2 at *
    rw [← hl2] at hu ⊢
    cases d with
    | false => exact suEnd3f ms lm hms ops2 (outT n ops2.length 0) (outT n ops2.length 1) (outT n ops2.length 2) (by omega) ho2 hu w0
    | true => exact suEnd3t ms lm hms ops2 (outT n ops2.length 0) (outT n ops2.length 1) (outT n ops2.length 2) (by omega) ho2 hu w0

theorem con_jacSums (n : Int) (zs : List Int) (len : Nat) (h : len ≤ zs.length) (ms : List Int) (lm : Nat) (hm : lm ≤ ms.length) (d : Bool) (nb : Nat) :
    Con prog 8 [.int .i64 n, .snap (zs.map (AV.int .i64)) len, .snap (ms.map (AV.int .i64)) lm, .bool d] nb (.bool true) [] := by
  have h1 := lmkOk_ints h
  have h2 := lmkOk_ints hm
  rcases wi3 n with hN | hN | hN
  · exact con_sums1 n _ len h1 hN _ lm h2 d nb
  · exact con_sums2 n _ len h1 hN _ lm h2 d nb
  · exact con_sums3 n _ len h1 hN _ lm h2 d nb
end Try
end Go.Eng

/- ModelLine: of any two powers the law answers true, and what it was handed reads as before. No condition. Written by wip/tools/genW4.py. -/
import Derived.Test.YtcigcfneldipkaaB11
import Derived.Test.YtcigcfneldipkaaRows
import Derived.WalkKit
import Derived.ProofKit
import Derived.OpenShut
import Derived.ShutString
import Derived.ChangeOld
import Derived.Below
namespace Go.Eng.Try
open Go Go.Eng Go.RowKit Go.Proofs.Try

theorem lCases (a b : Int) (ha : 0 ≤ a ∧ a < 9) (hb : 0 ≤ b ∧ b < 9) : LCase a b := by
  obtain ⟨m, rfl⟩ := Int.eq_ofNat_of_zero_le ha.1
  obtain ⟨n, rfl⟩ := Int.eq_ofNat_of_zero_le hb.1
  match m, n, ha, hb with
  | 0, 0, _, _ => exact lc00
  | 0, 1, _, _ => exact lc01
  | 0, 2, _, _ => exact lc02
  | 0, 3, _, _ => exact lc03
  | 0, 4, _, _ => exact lc04
  | 0, 5, _, _ => exact lc05
  | 0, 6, _, _ => exact lc06
  | 0, 7, _, _ => exact lc07
  | 0, 8, _, _ => exact lc08
  | 1, 0, _, _ => exact lc10
  | 1, 1, _, _ => exact lc11
  | 1, 2, _, _ => exact lc12
  | 1, 3, _, _ => exact lc13
  | 1, 4, _, _ => exact lc14
  | 1, 5, _, _ => exact lc15
  | 1, 6, _, _ => exact lc16
  | 1, 7, _, _ => exact lc17
  | 1, 8, _, _ => exact lc18
  | 2, 0, _, _ => exact lc20
  | 2, 1, _, _ => exact lc21
  | 2, 2, _, _ => exact lc22
  | 2, 3, _, _ => exact lc23
  | 2, 4, _, _ => exact lc24
  | 2, 5, _, _ => exact lc25
  | 2, 6, _, _ => exact lc26
  | 2, 7, _, _ => exact lc27
  | 2, 8, _, _ => exact lc28
  | 3, 0, _, _ => exact lc30
  | 3, 1, _, _ => exact lc31
  | 3, 2, _, _ => exact lc32
  | 3, 3, _, _ => exact lc33
  | 3, 4, _, _ => exact lc34
  | 3, 5, _, _ => exact lc35
  | 3, 6, _, _ => exact lc36
  | 3, 7, _, _ => exact lc37
  | 3, 8, _, _ => exact lc38
  | 4, 0, _, _ => exact lc40
  | 4, 1, _, _ => exact lc41
  | 4, 2, _, _ => exact lc42
  | 4, 3, _, _ => exact lc43
  | 4, 4, _, _ => exact lc44
  | 4, 5, _, _ => exact lc45
  | 4, 6, _, _ => exact lc46
  | 4, 7, _, _ => exact lc47
  | 4, 8, _, _ => exact lc48
  | 5, 0, _, _ => exact lc50
  | 5, 1, _, _ => exact lc51
  | 5, 2, _, _ => exact lc52
  | 5, 3, _, _ => exact lc53
  | 5, 4, _, _ => exact lc54
  | 5, 5, _, _ => exact lc55
  | 5, 6, _, _ => exact lc56
  | 5, 7, _, _ => exact lc57
  | 5, 8, _, _ => exact lc58
  | 6, 0, _, _ => exact lc60
  | 6, 1, _, _ => exact lc61
  | 6, 2, _, _ => exact lc62
  | 6, 3, _, _ => exact lc63
  | 6, 4, _, _ => exact lc64
  | 6, 5, _, _ => exact lc65
  | 6, 6, _, _ => exact lc66
  | 6, 7, _, _ => exact lc67
  | 6, 8, _, _ => exact lc68
  | 7, 0, _, _ => exact lc70
  | 7, 1, _, _ => exact lc71
  | 7, 2, _, _ => exact lc72
  | 7, 3, _, _ => exact lc73
  | 7, 4, _, _ => exact lc74
  | 7, 5, _, _ => exact lc75
  | 7, 6, _, _ => exact lc76
  | 7, 7, _, _ => exact lc77
  | 7, 8, _, _ => exact lc78
  | 8, 0, _, _ => exact lc80
  | 8, 1, _, _ => exact lc81
  | 8, 2, _, _ => exact lc82
  | 8, 3, _, _ => exact lc83
  | 8, 4, _, _ => exact lc84
  | 8, 5, _, _ => exact lc85
  | 8, 6, _, _ => exact lc86
  | 8, 7, _, _ => exact lc87
  | 8, 8, _, _ => exact lc88
  | k + 9, _, h, _ => omega
  | _, k + 9, _, h => omega

theorem con_modelLine (i j : Int) (n : Nat) : Con prog 5 [.int .i64 i, .int .i64 j] n (.bool true) [] := by
  refine @con_goesC prog esM 8 5 94 _ (by kernel_rfl) [] .ret (mk [4] [.bool true] [] []) n ⟨.bool true, [], true⟩ (by kernel_rfl) rfl (.inl rfl) fun w0 => ?_
  exact lPre i j w0 (goes_view OX mixed (lCases (wi i 9) (wi j 9) (wi_range i 9 (by omega) (by omega)) (wi_range j 9 (by omega) (by omega))) rfl [])
end Go.Eng.Try

namespace Go.Proofs.Ytcigcfneldipkaa.modelLineDone
open Go.ChangeShapes Go.WideShapes Go.ChangeAt Go.RowKit
set_option linter.unusedVariables false

theorem own : ownKnob Try.prog.godebug = none := by kernel_rfl
theorem laidOut : laidOutB Try.prog = true := by kernel_rfl

theorem walk (a0 a1 : Int) (w : World) : Calls Try.prog 5 #[.int .i64 a0, .int .i64 a1] w fun e w' => e = .returned (.bool true) ∧ Below w.heap.size w w' :=
  Go.Eng.walk_of_con (by kernel_rfl) (Go.Eng.Try.con_modelLine a0 a1 0) (.cons _ _ _ _ _ (.int _ _ _) (.cons _ _ _ _ _ (.int _ _ _) (.nil _)))

set_option maxRecDepth 100000 in
theorem lifted (os : Os) (started : os.Started) (H : Type) (enc : TypeId × Value → H) :
    ReturnsInHanded {} Try.checked os 5 .any (Rows.modelLineSpec.pre6 enc Try.prog Try.f5 Rows.modelLineRow.domain false) (Rows.modelLineSpec.post enc Try.prog Try.f5 false true false false) := by
  refine returnsInHanded_of_change (C := Try.checked) own started (by kernel_rfl) Try.func5
    (ChangeSpec.witness6 (enc := enc) (C := Try.checked) false ⟨#[], #[.int .i64 0, .int .i64 0], []⟩ 8 (by kernel_rfl) (by kernel_rfl) (by kernel_rfl) (by kernel_rfl)) ?_
  intro W base args ds gs before hval0 hW hcnd _
  have hval : ∀ (j : Nat) t v, Try.f5.params[j]? = some t → args[j]? = some v → Value.okWide Try.prog W .any base t v := hval0
  have hW' := hW
  obtain ⟨p, q, hA0, hV, rfl, hfz, hnd⟩ := hW
  have hA : DataW.TrodAll enc Try.prog W 0 (fun _ => true) true Try.f5.params.toList args.toList ds p := hA0
  rw [Try.params5] at hA hval
  obtain ⟨v0, vs0, d0, ds0, p0, q0, hargs, rfl, rfl, h0, r0⟩ := trodAll_cons hA
  obtain ⟨v1, vs1, d1, ds1, p1, q1, rfl, rfl, rfl, h1, r1⟩ := trodAll_cons r0
  obtain ⟨rfl, rfl, rfl⟩ := trodAll_nil r1
  obtain rfl : args = #[v0, v1] := by cases args; simp_all
  obtain ⟨rfl, rfl⟩ := trodVars_none hV
  obtain ⟨a0, rfl, rfl, rfl, w0⟩ := open_int Try.underlying3 (hval 0 3 v0 rfl rfl) h0
  obtain ⟨a1, rfl, rfl, rfl, w1⟩ := open_int Try.underlying3 (hval 1 3 v1 rfl rfl) h1
  clear hA0 hval0
  refine (walk a0 a1 W).mono fun e W' ⟨he, bel⟩ => ?_
  subst he
  exact ⟨_, rfl, _, _, _, [], _, [], hW', trodAll_mk1 (shut_bool Try.underlying4 _), (trodAll_cons_mk (shut_int Try.underlying3 w0) (trodAll_cons_mk (shut_int Try.underlying3 w1) trodAll_mk0)), rfl, bel.frame _, fun h => by cases h⟩

theorem over : Rows.modelLineRow.holds Try.pinned (OpenSpec.ofChange Rows.modelLineSpec) :=
  OpenClaim.holds_of_wide 5 Try.f5 rfl rfl rfl rfl rfl rfl rfl ⟨rfl, rfl, rfl, rfl, rfl⟩ rfl rfl rfl rfl rfl (by kernel_rfl) Try.func5 (by kernel_rfl)
    (of_decide_eq_true (by kernel_rfl)) (by unfold Func.isWrapper; first | (rw [if_pos (by decide +kernel)]; kernel_rfl) | (rw [if_neg (by decide +kernel)]; exact ⟨rfl, rfl⟩))
    (fun os started H enc _ => lifted os started H enc)

theorem proved : Rows.ModelLineSaid := over
#print axioms proved
end Go.Proofs.Ytcigcfneldipkaa.modelLineDone

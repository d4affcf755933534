/- Part 6 of what the proof leans on: Tapes, part 3; Fields, part 7; Fields, part 8; The laws' own from-tos and rare numbers (envelopelaw1; The laws' own numbers (envelopelaw1; The laws' own from-tos (envelopelaw2; The laws' own from-tos; JacAll, part 1; JacAll, part 2. Conditions: as each theorem says. -/
import Derived.Test.YtcigcfneldipkaaA5
set_option linter.unusedVariables false
/- Tapes, part 3: the contract of the law's own tapes. Condition: the numbers are a row of integers, the shape is as told. -/
namespace Go.Eng.Try
open Go Go.RowKit Go.Proofs.Try

def mkSt (n : Int) (ns : List AV) (len : Nat) (d : Bool) (N : Int) (ops : List TOp) (m i : Nat) : St :=
  mk [0,1,2,6,7,9] [.int .i64 n, .snap ns len, .bool d, .ptr 0 0, .ptr 1 0, .int .i64 (i : Int)] [⟨[.int .i64 0, .nils, .nils], 53⟩, ⟨[.int .i64 N, .slc 2 0 m, .nils], 53⟩, ⟨opsL ops, 57⟩] []

section
variable (n : Int) (ns : List AV) (len : Nat) (N : Int)

theorem mkRound (d : Bool) (ops : List TOp) {m i : Nat} (hops : ops.length = m) (hm : m ≠ 0) (hm2 : m < 1000) (hi : i < len) (hi8 : i < 8) (hl : len ≤ ns.length) (hint : (ns.getD i .undef).isInt .i64 = true) (w0 : World) :
    Goes CM w0 120 mkL (mkSt n ns len d N ops m i) .normal (mkSt n ns len d N (ops ++ [mkOp d m (nsAt ns i)]) (m + 1) (i + 1)) := by
  have ew : IntKind.i64.wrap ((i : Int) + 1) = ((i + 1 : Nat) : Int) := by rw [wrapI (by omega) (by omega)]; rfl
  have hlt : i < ns.length := by omega
  have hm0 : ((m : Int) != 0) = true := by simpa using hm
  have e1 : (m + 1) * 32 ≤ 140737488355328 := by omega
  have e2 : m + 1 ≤ 9223372036854775807 := by omega
  have hi1 : decide ((i : Int) < 8) = true := by simp; omega
  have hi2 : decide ((i : Int) < (len : Int)) = true := by simp; omega
  cases h80 : wi (AV.toInt (ns.getD i .undef)) 11 == 0 with
  | true =>
    cases d with
    | false => exact goes_to (mkIf01 n ns len N ops m i w0 [] [] (by simp [-List.getD_eq_getElem?_getD, List.all_append, opsL_noOwn, AV.noOwn, opsL_length, hops, Nat.mul_comm, e1, e2, h80, hm0, hlt, hint, hi1, hi2, hi])) (by simp [-List.getD_eq_getElem?_getD, mkSt, mkOp, nsAt, opsL_append, opsL, h80, ew])
    | true =>
      cases h76 : wi (AV.toInt (ns.getD i .undef)) 7 == 0 with
      | true => exact goes_to (mkIt11 n ns len N ops m i w0 [] [] (by simp [-List.getD_eq_getElem?_getD, List.all_append, opsL_noOwn, AV.noOwn, opsL_length, hops, Nat.mul_comm, e1, e2, h80, h76, hm0, hlt, hint, hi1, hi2, hi])) (by simp [-List.getD_eq_getElem?_getD, mkSt, mkOp, nsAt, opsL_append, opsL, h80, h76, ew])
      | false => exact goes_to (mkIt01 n ns len N ops m i w0 [] [] (by simp [-List.getD_eq_getElem?_getD, List.all_append, opsL_noOwn, AV.noOwn, opsL_length, hops, Nat.mul_comm, e1, e2, h80, h76, hm0, hlt, hint, hi1, hi2, hi])) (by simp [-List.getD_eq_getElem?_getD, mkSt, mkOp, nsAt, opsL_append, opsL, h80, h76, ew])
  | false =>
    cases d with
    | false => exact goes_to (mkIf00 n ns len N ops m i w0 [] [] (by simp [-List.getD_eq_getElem?_getD, List.all_append, opsL_noOwn, AV.noOwn, opsL_length, hops, Nat.mul_comm, e1, e2, h80, hm0, hlt, hint, hi1, hi2, hi])) (by simp [-List.getD_eq_getElem?_getD, mkSt, mkOp, nsAt, opsL_append, opsL, h80, ew])
    | true =>
      cases h76 : wi (AV.toInt (ns.getD i .undef)) 7 == 0 with
      | true => exact goes_to (mkIt10 n ns len N ops m i w0 [] [] (by simp [-List.getD_eq_getElem?_getD, List.all_append, opsL_noOwn, AV.noOwn, opsL_length, hops, Nat.mul_comm, e1, e2, h80, h76, hm0, hlt, hint, hi1, hi2, hi])) (by simp [-List.getD_eq_getElem?_getD, mkSt, mkOp, nsAt, opsL_append, opsL, h80, h76, ew])
      | false => exact goes_to (mkIt00 n ns len N ops m i w0 [] [] (by simp [-List.getD_eq_getElem?_getD, List.all_append, opsL_noOwn, AV.noOwn, opsL_length, hops, Nat.mul_comm, e1, e2, h80, h76, hm0, hlt, hint, hi1, hi2, hi])) (by simp [-List.getD_eq_getElem?_getD, mkSt, mkOp, nsAt, opsL_append, opsL, h80, h76, ew])
end

/-- The conditions of a made tape. -/
def LmkOk (ns : List AV) (len : Nat) : Prop := len ≤ ns.length ∧ ∀ i, i < ns.length → (ns.getD i .undef).isInt .i64 = true
def lmkM (N len : Nat) : Nat := N + 1 + min len 8
def lmkOps (n : Int) (N : Nat) (d : Bool) (ns : List AV) (len : Nat) : List TOp := mkOps d (baseT n N) ns (min len 8)

theorem lmkOps_length (n : Int) (N : Nat) (hN : N = 1 ∨ N = 2 ∨ N = 3) (d : Bool) (ns : List AV) (len : Nat) : (lmkOps n N d ns len).length = lmkM N len := by
  unfold lmkOps lmkM
  rw [mkOps_length, (baseT_ok n N hN).2]
theorem lmkOps_ok (n : Int) (N : Nat) (hN : N = 1 ∨ N = 2 ∨ N = 3) (d : Bool) (ns : List AV) (len : Nat) : OpsOk N (lmkOps n N d ns len) := mkOps_ok n N hN d ns _ (by omega)

theorem mkLoop (n : Int) (ns : List AV) (len : Nat) (N : Nat) (hN : N = 1 ∨ N = 2 ∨ N = 3) (d : Bool) (h : LmkOk ns len) (w0 : World) :
    Goes CM w0 120 (cL (cL (cR (cR (cR (cR mkC)))))) (mk [0,1,2,6,7] [.int .i64 n, .snap ns len, .bool d, .ptr 0 0, .ptr 1 0] [⟨[.int .i64 0, .nils, .nils], 53⟩, ⟨[.int .i64 N, .slc 2 0 (N + 1), .nils], 53⟩, ⟨opsL (baseT n N), 57⟩] []) .normal (mkSt n ns len d N (baseT n N) (N + 1) 0) :=
  goes_to (mkF n ns len d N (baseT n N) (N + 1) w0 [] [] (by simp [opsL_noOwn])) rfl

theorem mkAll (n : Int) (ns : List AV) (len : Nat) (N : Nat) (hN : N = 1 ∨ N = 2 ∨ N = 3) (d : Bool) (h : LmkOk ns len) (w0 : World) :
    Goes CM w0 120 (cL (cR (cR (cR (cR mkC))))) (mk [0,1,2,6,7] [.int .i64 n, .snap ns len, .bool d, .ptr 0 0, .ptr 1 0] [⟨[.int .i64 0, .nils, .nils], 53⟩, ⟨[.int .i64 N, .slc 2 0 (N + 1), .nils], 53⟩, ⟨opsL (baseT n N), 57⟩] []) .normal
      (mk [0,1,2,6,7] [.int .i64 n, .snap ns len, .bool d, .ptr 0 0, .ptr 1 0] [⟨[.int .i64 0, .nils, .nils], 53⟩, ⟨[.int .i64 N, .slc 2 0 (lmkM N len), .nils], 53⟩, ⟨opsL (lmkOps n N d ns len), 57⟩] []) := by
  have hbl := (baseT_ok n N hN).2
  refine goes_seq (by kernel_rfl) (mkLoop n ns len N hN d h w0) (goes_block (id := 2) (by kernel_rfl) (goes_loop (by kernel_rfl) (fun h => by cases h) (min len 8) (fun i => mkSt n ns len d N (mkOps d (baseT n N) ns i) (N + 1 + i) i) (s2 := _) ?_ ?_))
  · intro i hi
    have hl : (mkOps d (baseT n N) ns i).length = N + 1 + i := by rw [mkOps_length, hbl]
    have := mkRound n ns len N d (mkOps d (baseT n N) ns i) hl (by omega) (by omega) (show i < len by omega) (by omega) h.1 (h.2 i (by have := h.1; omega)) w0
    refine goes_to this ?_
    show _ = mkSt n ns len d N (mkOps d (baseT n N) ns i ++ [mkOp d ((baseT n N).length + i) (nsAt ns i)]) (N + 1 + (i + 1)) (i + 1)
    rw [hbl]
    rfl
  · by_cases hc : len ≤ 8
    · have e : min len 8 = len := by omega
      refine goes_to (mkX1 n ns len d _ N _ _ w0 [] [] (by simp [opsL_noOwn, e])) ?_
      rfl
    · have e : min len 8 = 8 := by omega
      refine goes_to (mkX2 n ns len d _ N _ _ w0 [] [] (by simp [opsL_noOwn, e]; omega)) ?_
      rfl

theorem mkN (n : Int) (N : Nat) (h : wi n 3 + 1 = N) : IntKind.i64.wrap (1 + wi n 3) = N := by
  have := wi_range n 3 (by omega) (by omega)
  rw [wrapI (by omega) (by omega)]
  omega

theorem con_lmk1 (n : Int) (ns : List AV) (len : Nat) (d : Bool) (h : LmkOk ns len) (hN : wi n 3 + 1 = (1 : Nat)) (nb : Nat) : Con prog 41 [.int .i64 n, .snap ns len, .bool d] nb (.agg [.int .i64 1, .slc nb 0 (lmkM 1 len), .slc (nb + 1) 0 1]) [⟨opsL (lmkOps n 1 d ns len), 57⟩, ⟨intL (outsT n (lmkM 1 len) 1), 3⟩] := by
  obtain ⟨a1, a2, a3⟩ := min3_is (lmkM 1 len) (by unfold lmkM; omega)
  refine con_goesKC (es := es4) (d := 8) (deep := shallow []) 120 (by kernel_rfl) (dec := []) (e := .ret) (s := mk [6] [.ptr 0 0] [⟨[.int .i64 1, .slc 1 0 (lmkM 1 len), .slc 2 0 1], 53⟩, ⟨opsL (lmkOps n 1 d ns len), 57⟩, ⟨intL (outsT n (lmkM 1 len) 1), 3⟩] []) [.flat] (r := ⟨_, _, ((List.all (opsL (lmkOps n 1 d ns len)) AV.scal) && true) && true⟩) (by kernel_rfl) (by rw [opsL_scal]; rfl) (.inl rfl) fun w0 => ?_
  refine goes_seq (by kernel_rfl) (mkA n ns len d w0 []) (goes_seq (by kernel_rfl) (mkB n ns len d w0 [] []) ?_)
  rw [mkN n 1 hN]
  refine goes_seq (by kernel_rfl) (mkD1 n ns len d w0 [] []) (goes_seq (by kernel_rfl) (mkE n ns len d 1 [⟨1, 0, 0, 0⟩] 1 w0 [] [] ?_) (goes_seq (by kernel_rfl) (mkAll n ns len 1 (.inl rfl) d h w0) (mkG1 n ns len d (lmkOps n 1 d ns len) (lmkM 1 len) w0 [] [] ?_)))
  · rfl
  · have : (min3 (lmkM 1 len) != 0) = true := by simp; omega
    simp [opsL_noOwn, this]
theorem con_lmk2 (n : Int) (ns : List AV) (len : Nat) (d : Bool) (h : LmkOk ns len) (hN : wi n 3 + 1 = (2 : Nat)) (nb : Nat) : Con prog 41 [.int .i64 n, .snap ns len, .bool d] nb (.agg [.int .i64 2, .slc nb 0 (lmkM 2 len), .slc (nb + 1) 0 2]) [⟨opsL (lmkOps n 2 d ns len), 57⟩, ⟨intL (outsT n (lmkM 2 len) 2), 3⟩] := by
  obtain ⟨a1, a2, a3⟩ := min3_is (lmkM 2 len) (by unfold lmkM; omega)
  refine con_goesKC (es := es4) (d := 8) (deep := shallow []) 120 (by kernel_rfl) (dec := []) (e := .ret) (s := mk [6] [.ptr 0 0] [⟨[.int .i64 2, .slc 1 0 (lmkM 2 len), .slc 2 0 2], 53⟩, ⟨opsL (lmkOps n 2 d ns len), 57⟩, ⟨intL (outsT n (lmkM 2 len) 2), 3⟩] []) [.flat] (r := ⟨_, _, ((List.all (opsL (lmkOps n 2 d ns len)) AV.scal) && true) && true⟩) (by kernel_rfl) (by rw [opsL_scal]; rfl) (.inl rfl) fun w0 => ?_
  refine goes_seq (by kernel_rfl) (mkA n ns len d w0 []) (goes_seq (by kernel_rfl) (mkB n ns len d w0 [] []) ?_)
  rw [mkN n 2 hN]
  refine goes_seq (by kernel_rfl) (mkD2 n ns len d w0 [] []) (goes_seq (by kernel_rfl) (mkE n ns len d 2 [⟨1, 0, 0, 0⟩, ⟨1, 1, 0, 0⟩] 2 w0 [] [] ?_) (goes_seq (by kernel_rfl) (mkAll n ns len 2 (.inr (.inl rfl)) d h w0) (mkG2 n ns len d (lmkOps n 2 d ns len) (lmkM 2 len) w0 [] [] ?_)))
  · rfl
  · have : (min3 (lmkM 2 len) != 0) = true := by simp; omega
    simp [opsL_noOwn, this]
theorem con_lmk3 (n : Int) (ns : List AV) (len : Nat) (d : Bool) (h : LmkOk ns len) (hN : wi n 3 + 1 = (3 : Nat)) (nb : Nat) : Con prog 41 [.int .i64 n, .snap ns len, .bool d] nb (.agg [.int .i64 3, .slc nb 0 (lmkM 3 len), .slc (nb + 1) 0 3]) [⟨opsL (lmkOps n 3 d ns len), 57⟩, ⟨intL (outsT n (lmkM 3 len) 3), 3⟩] := by
  obtain ⟨a1, a2, a3⟩ := min3_is (lmkM 3 len) (by unfold lmkM; omega)
  refine con_goesKC (es := es4) (d := 8) (deep := shallow []) 120 (by kernel_rfl) (dec := []) (e := .ret) (s := mk [6] [.ptr 0 0] [⟨[.int .i64 3, .slc 1 0 (lmkM 3 len), .slc 2 0 3], 53⟩, ⟨opsL (lmkOps n 3 d ns len), 57⟩, ⟨intL (outsT n (lmkM 3 len) 3), 3⟩] []) [.flat] (r := ⟨_, _, ((List.all (opsL (lmkOps n 3 d ns len)) AV.scal) && true) && true⟩) (by kernel_rfl) (by rw [opsL_scal]; rfl) (.inl rfl) fun w0 => ?_
  refine goes_seq (by kernel_rfl) (mkA n ns len d w0 []) (goes_seq (by kernel_rfl) (mkB n ns len d w0 [] []) ?_)
  rw [mkN n 3 hN]
  refine goes_seq (by kernel_rfl) (mkD3 n ns len d w0 [] []) (goes_seq (by kernel_rfl) (mkE n ns len d 3 [⟨1, 0, 0, 0⟩, ⟨1, 1, 0, 0⟩, ⟨1, 2, 0, 0⟩] 3 w0 [] [] ?_) (goes_seq (by kernel_rfl) (mkAll n ns len 3 (.inr (.inr rfl)) d h w0) (mkG3 n ns len d (lmkOps n 3 d ns len) (lmkM 3 len) w0 [] [] ?_)))
  · rfl
  · have : (min3 (lmkM 3 len) != 0) = true := by simp; omega
    simp [opsL_noOwn, this]
end Go.Eng.Try
/- Fields, part 7: the laws' own numbers (envelopelaw3.Values), what the law knows (envelopelaw4.known): pieces. Condition: as each piece says. Written by wip/tools/kg.py. -/
namespace Go.Eng.Try
open Go Go.Eng Go.RowKit Go.Proofs.Try
theorem vls1_0 (ms : List AV) (len : Nat) (nb : Nat) (hok : ((!decide ((0 : Int) < (↑len : Int)) && true)) = true) : Con prog 46 [.int .i64 1, .snap ms len] nb (AV.slc nb 0 1) [ABlk.mk [.flt 13839561654909534208] 24] :=
  con_evF OM0 mixed (qs := [17]) (dec := [false]) (r := ⟨(AV.slc nb 0 1), [ABlk.mk [.flt 13839561654909534208] 24], (!decide ((0 : Int) < (↑len : Int)) && true)⟩) (by kernel_rfl) hok
theorem vls1_1 (ms : List AV) (len : Nat) (nb : Nat) (hok : ((Nat.blt 0 (List.length ms) && AV.isInt IntKind.i64 (List.getD ms 0 .undef) && (decide ((0 : Int) ≤ (0 : Int) ∧ (0 : Int) < (↑len : Int)) && (decide ((0 : Int) < (↑len : Int)) && true)))) = true) : Con prog 46 [.int .i64 1, .snap ms len] nb (AV.slc nb 0 1) [ABlk.mk [.flt (fdiv (fofint (IntKind.wrap IntKind.i64 (wi (AV.toInt (List.getD ms 0 .undef)) (65 : Int) - (32 : Int)))) 4620693217682128896)] 24] :=
  con_evF OM0 mixed (qs := [17]) (dec := [true]) (r := ⟨(AV.slc nb 0 1), [ABlk.mk [.flt (fdiv (fofint (IntKind.wrap IntKind.i64 (wi (AV.toInt (List.getD ms 0 .undef)) (65 : Int) - (32 : Int)))) 4620693217682128896)] 24], (Nat.blt 0 (List.length ms) && AV.isInt IntKind.i64 (List.getD ms 0 .undef) && (decide ((0 : Int) ≤ (0 : Int) ∧ (0 : Int) < (↑len : Int)) && (decide ((0 : Int) < (↑len : Int)) && true)))⟩) (by kernel_rfl) hok
theorem vls2_00 (ms : List AV) (len : Nat) (nb : Nat) (hok : ((!decide ((1 : Int) < (↑len : Int)) && (!decide ((0 : Int) < (↑len : Int)) && true))) = true) : Con prog 46 [.int .i64 2, .snap ms len] nb (AV.slc nb 0 2) [ABlk.mk [.flt 13839561654909534208, .flt 13839280179932823552] 24] :=
  con_evF OM0 mixed (qs := [17]) (dec := [false,false]) (r := ⟨(AV.slc nb 0 2), [ABlk.mk [.flt 13839561654909534208, .flt 13839280179932823552] 24], (!decide ((1 : Int) < (↑len : Int)) && (!decide ((0 : Int) < (↑len : Int)) && true))⟩) (by kernel_rfl) hok
theorem vls2_01 (ms : List AV) (len : Nat) (nb : Nat) (hok : ((Nat.blt 1 (List.length ms) && AV.isInt IntKind.i64 (List.getD ms 1 .undef) && (decide ((0 : Int) ≤ (1 : Int) ∧ (1 : Int) < (↑len : Int)) && (decide ((1 : Int) < (↑len : Int)) && (!decide ((0 : Int) < (↑len : Int)) && true))))) = true) : Con prog 46 [.int .i64 2, .snap ms len] nb (AV.slc nb 0 2) [ABlk.mk [.flt 13839561654909534208, .flt (fdiv (fofint (IntKind.wrap IntKind.i64 (wi (AV.toInt (List.getD ms 1 .undef)) (65 : Int) - (32 : Int)))) 4620693217682128896)] 24] :=
  con_evF OM0 mixed (qs := [17]) (dec := [false,true]) (r := ⟨(AV.slc nb 0 2), [ABlk.mk [.flt 13839561654909534208, .flt (fdiv (fofint (IntKind.wrap IntKind.i64 (wi (AV.toInt (List.getD ms 1 .undef)) (65 : Int) - (32 : Int)))) 4620693217682128896)] 24], (Nat.blt 1 (List.length ms) && AV.isInt IntKind.i64 (List.getD ms 1 .undef) && (decide ((0 : Int) ≤ (1 : Int) ∧ (1 : Int) < (↑len : Int)) && (decide ((1 : Int) < (↑len : Int)) && (!decide ((0 : Int) < (↑len : Int)) && true))))⟩) (by kernel_rfl) hok
theorem vls2_10 (ms : List AV) (len : Nat) (nb : Nat) (hok : ((!decide ((1 : Int) < (↑len : Int)) && (Nat.blt 0 (List.length ms) && AV.isInt IntKind.i64 (List.getD ms 0 .undef) && (decide ((0 : Int) ≤ (0 : Int) ∧ (0 : Int) < (↑len : Int)) && (decide ((0 : Int) < (↑len : Int)) && true))))) = true) : Con prog 46 [.int .i64 2, .snap ms len] nb (AV.slc nb 0 2) [ABlk.mk [.flt (fdiv (fofint (IntKind.wrap IntKind.i64 (wi (AV.toInt (List.getD ms 0 .undef)) (65 : Int) - (32 : Int)))) 4620693217682128896), .flt 13839280179932823552] 24] :=
  con_evF OM0 mixed (qs := [17]) (dec := [true,false]) (r := ⟨(AV.slc nb 0 2), [ABlk.mk [.flt (fdiv (fofint (IntKind.wrap IntKind.i64 (wi (AV.toInt (List.getD ms 0 .undef)) (65 : Int) - (32 : Int)))) 4620693217682128896), .flt 13839280179932823552] 24], (!decide ((1 : Int) < (↑len : Int)) && (Nat.blt 0 (List.length ms) && AV.isInt IntKind.i64 (List.getD ms 0 .undef) && (decide ((0 : Int) ≤ (0 : Int) ∧ (0 : Int) < (↑len : Int)) && (decide ((0 : Int) < (↑len : Int)) && true))))⟩) (by kernel_rfl) hok
theorem vls2_11 (ms : List AV) (len : Nat) (nb : Nat) (hok : ((Nat.blt 1 (List.length ms) && AV.isInt IntKind.i64 (List.getD ms 1 .undef) && (decide ((0 : Int) ≤ (1 : Int) ∧ (1 : Int) < (↑len : Int)) && (decide ((1 : Int) < (↑len : Int)) && (Nat.blt 0 (List.length ms) && AV.isInt IntKind.i64 (List.getD ms 0 .undef) && (decide ((0 : Int) ≤ (0 : Int) ∧ (0 : Int) < (↑len : Int)) && (decide ((0 : Int) < (↑len : Int)) && true))))))) = true) : Con prog 46 [.int .i64 2, .snap ms len] nb (AV.slc nb 0 2) [ABlk.mk [.flt (fdiv (fofint (IntKind.wrap IntKind.i64 (wi (AV.toInt (List.getD ms 0 .undef)) (65 : Int) - (32 : Int)))) 4620693217682128896), .flt (fdiv (fofint (IntKind.wrap IntKind.i64 (wi (AV.toInt (List.getD ms 1 .undef)) (65 : Int) - (32 : Int)))) 4620693217682128896)] 24] :=
  con_evF OM0 mixed (qs := [17]) (dec := [true,true]) (r := ⟨(AV.slc nb 0 2), [ABlk.mk [.flt (fdiv (fofint (IntKind.wrap IntKind.i64 (wi (AV.toInt (List.getD ms 0 .undef)) (65 : Int) - (32 : Int)))) 4620693217682128896), .flt (fdiv (fofint (IntKind.wrap IntKind.i64 (wi (AV.toInt (List.getD ms 1 .undef)) (65 : Int) - (32 : Int)))) 4620693217682128896)] 24], (Nat.blt 1 (List.length ms) && AV.isInt IntKind.i64 (List.getD ms 1 .undef) && (decide ((0 : Int) ≤ (1 : Int) ∧ (1 : Int) < (↑len : Int)) && (decide ((1 : Int) < (↑len : Int)) && (Nat.blt 0 (List.length ms) && AV.isInt IntKind.i64 (List.getD ms 0 .undef) && (decide ((0 : Int) ≤ (0 : Int) ∧ (0 : Int) < (↑len : Int)) && (decide ((0 : Int) < (↑len : Int)) && true))))))⟩) (by kernel_rfl) hok
theorem vls3_000 (ms : List AV) (len : Nat) (nb : Nat) (hok : ((!decide ((2 : Int) < (↑len : Int)) && (!decide ((1 : Int) < (↑len : Int)) && (!decide ((0 : Int) < (↑len : Int)) && true)))) = true) : Con prog 46 [.int .i64 3, .snap ms len] nb (AV.slc nb 0 3) [ABlk.mk [.flt 13839561654909534208, .flt 13839280179932823552, .flt 13838998704956112896] 24] :=
  con_evF OM0 mixed (qs := [17]) (dec := [false,false,false]) (r := ⟨(AV.slc nb 0 3), [ABlk.mk [.flt 13839561654909534208, .flt 13839280179932823552, .flt 13838998704956112896] 24], (!decide ((2 : Int) < (↑len : Int)) && (!decide ((1 : Int) < (↑len : Int)) && (!decide ((0 : Int) < (↑len : Int)) && true)))⟩) (by kernel_rfl) hok
theorem vls3_001 (ms : List AV) (len : Nat) (nb : Nat) (hok : ((Nat.blt 2 (List.length ms) && AV.isInt IntKind.i64 (List.getD ms 2 .undef) && (decide ((0 : Int) ≤ (2 : Int) ∧ (2 : Int) < (↑len : Int)) && (decide ((2 : Int) < (↑len : Int)) && (!decide ((1 : Int) < (↑len : Int)) && (!decide ((0 : Int) < (↑len : Int)) && true)))))) = true) : Con prog 46 [.int .i64 3, .snap ms len] nb (AV.slc nb 0 3) [ABlk.mk [.flt 13839561654909534208, .flt 13839280179932823552, .flt (fdiv (fofint (IntKind.wrap IntKind.i64 (wi (AV.toInt (List.getD ms 2 .undef)) (65 : Int) - (32 : Int)))) 4620693217682128896)] 24] :=
  con_evF OM0 mixed (qs := [17]) (dec := [false,false,true]) (r := ⟨(AV.slc nb 0 3), [ABlk.mk [.flt 13839561654909534208, .flt 13839280179932823552, .flt (fdiv (fofint (IntKind.wrap IntKind.i64 (wi (AV.toInt (List.getD ms 2 .undef)) (65 : Int) - (32 : Int)))) 4620693217682128896)] 24], (Nat.blt 2 (List.length ms) && AV.isInt IntKind.i64 (List.getD ms 2 .undef) && (decide ((0 : Int) ≤ (2 : Int) ∧ (2 : Int) < (↑len : Int)) && (decide ((2 : Int) < (↑len : Int)) && (!decide ((1 : Int) < (↑len : Int)) && (!decide ((0 : Int) < (↑len : Int)) && true)))))⟩) (by kernel_rfl) hok
theorem vls3_010 (ms : List AV) (len : Nat) (nb : Nat) (hok : ((!decide ((2 : Int) < (↑len : Int)) && (Nat.blt 1 (List.length ms) && AV.isInt IntKind.i64 (List.getD ms 1 .undef) && (decide ((0 : Int) ≤ (1 : Int) ∧ (1 : Int) < (↑len : Int)) && (decide ((1 : Int) < (↑len : Int)) && (!decide ((0 : Int) < (↑len : Int)) && true)))))) = true) : Con prog 46 [.int .i64 3, .snap ms len] nb (AV.slc nb 0 3) [ABlk.mk [.flt 13839561654909534208, .flt (fdiv (fofint (IntKind.wrap IntKind.i64 (wi (AV.toInt (List.getD ms 1 .undef)) (65 : Int) - (32 : Int)))) 4620693217682128896), .flt 13838998704956112896] 24] :=
  con_evF OM0 mixed (qs := [17]) (dec := [false,true,false]) (r := ⟨(AV.slc nb 0 3), [ABlk.mk [.flt 13839561654909534208, .flt (fdiv (fofint (IntKind.wrap IntKind.i64 (wi (AV.toInt (List.getD ms 1 .undef)) (65 : Int) - (32 : Int)))) 4620693217682128896), .flt 13838998704956112896] 24], (!decide ((2 : Int) < (↑len : Int)) && (Nat.blt 1 (List.length ms) && AV.isInt IntKind.i64 (List.getD ms 1 .undef) && (decide ((0 : Int) ≤ (1 : Int) ∧ (1 : Int) < (↑len : Int)) && (decide ((1 : Int) < (↑len : Int)) && (!decide ((0 : Int) < (↑len : Int)) && true)))))⟩) (by kernel_rfl) hok
theorem vls3_011 (ms : List AV) (len : Nat) (nb : Nat) (hok : ((Nat.blt 2 (List.length ms) && AV.isInt IntKind.i64 (List.getD ms 2 .undef) && (decide ((0 : Int) ≤ (2 : Int) ∧ (2 : Int) < (↑len : Int)) && (decide ((2 : Int) < (↑len : Int)) && (Nat.blt 1 (List.length ms) && AV.isInt IntKind.i64 (List.getD ms 1 .undef) && (decide ((0 : Int) ≤ (1 : Int) ∧ (1 : Int) < (↑len : Int)) && (decide ((1 : Int) < (↑len : Int)) && (!decide ((0 : Int) < (↑len : Int)) && true)))))))) = true) : Con prog 46 [.int .i64 3, .snap ms len] nb (AV.slc nb 0 3) [ABlk.mk [.flt 13839561654909534208, .flt (fdiv (fofint (IntKind.wrap IntKind.i64 (wi (AV.toInt (List.getD ms 1 .undef)) (65 : Int) - (32 : Int)))) 4620693217682128896), .flt (fdiv (fofint (IntKind.wrap IntKind.i64 (wi (AV.toInt (List.getD ms 2 .undef)) (65 : Int) - (32 : Int)))) 4620693217682128896)] 24] :=
  con_evF OM0 mixed (qs := [17]) (dec := [false,true,true]) (r := ⟨(AV.slc nb 0 3), [ABlk.mk [.flt 13839561654909534208, .flt (fdiv (fofint (IntKind.wrap IntKind.i64 (wi (AV.toInt (List.getD ms 1 .undef)) (65 : Int) - (32 : Int)))) 4620693217682128896), .flt (fdiv (fofint (IntKind.wrap IntKind.i64 (wi (AV.toInt (List.getD ms 2 .undef)) (65 : Int) - (32 : Int)))) 4620693217682128896)] 24], (Nat.blt 2 (List.length ms) && AV.isInt IntKind.i64 (List.getD ms 2 .undef) && (decide ((0 : Int) ≤ (2 : Int) ∧ (2 : Int) < (↑len : Int)) && (decide ((2 : Int) < (↑len : Int)) && (Nat.blt 1 (List.length ms) && AV.isInt IntKind.i64 (List.getD ms 1 .undef) && (decide ((0 : Int) ≤ (1 : Int) ∧ (1 : Int) < (↑len : Int)) && (decide ((1 : Int) < (↑len : Int)) && (!decide ((0 : Int) < (↑len : Int)) && true)))))))⟩) (by kernel_rfl) hok
theorem vls3_100 (ms : List AV) (len : Nat) (nb : Nat) (hok : ((!decide ((2 : Int) < (↑len : Int)) && (!decide ((1 : Int) < (↑len : Int)) && (Nat.blt 0 (List.length ms) && AV.isInt IntKind.i64 (List.getD ms 0 .undef) && (decide ((0 : Int) ≤ (0 : Int) ∧ (0 : Int) < (↑len : Int)) && (decide ((0 : Int) < (↑len : Int)) && true)))))) = true) : Con prog 46 [.int .i64 3, .snap ms len] nb (AV.slc nb 0 3) [ABlk.mk [.flt (fdiv (fofint (IntKind.wrap IntKind.i64 (wi (AV.toInt (List.getD ms 0 .undef)) (65 : Int) - (32 : Int)))) 4620693217682128896), .flt 13839280179932823552, .flt 13838998704956112896] 24] :=
  con_evF OM0 mixed (qs := [17]) (dec := [true,false,false]) (r := ⟨(AV.slc nb 0 3), [ABlk.mk [.flt (fdiv (fofint (IntKind.wrap IntKind.i64 (wi (AV.toInt (List.getD ms 0 .undef)) (65 : Int) - (32 : Int)))) 4620693217682128896), .flt 13839280179932823552, .flt 13838998704956112896] 24], (!decide ((2 : Int) < (↑len : Int)) && (!decide ((1 : Int) < (↑len : Int)) && (Nat.blt 0 (List.length ms) && AV.isInt IntKind.i64 (List.getD ms 0 .undef) && (decide ((0 : Int) ≤ (0 : Int) ∧ (0 : Int) < (↑len : Int)) && (decide ((0 : Int) < (↑len : Int)) && true)))))⟩) (by kernel_rfl) hok
theorem vls3_101 (ms : List AV) (len : Nat) (nb : Nat) (hok : ((Nat.blt 2 (List.length ms) && AV.isInt IntKind.i64 (List.getD ms 2 .undef) && (decide ((0 : Int) ≤ (2 : Int) ∧ (2 : Int) < (↑len : Int)) && (decide ((2 : Int) < (↑len : Int)) && (!decide ((1 : Int) < (↑len : Int)) && (Nat.blt 0 (List.length ms) && AV.isInt IntKind.i64 (List.getD ms 0 .undef) && (decide ((0 : Int) ≤ (0 : Int) ∧ (0 : Int) < (↑len : Int)) && (decide ((0 : Int) < (↑len : Int)) && true)))))))) = true) : Con prog 46 [.int .i64 3, .snap ms len] nb (AV.slc nb 0 3) [ABlk.mk [.flt (fdiv (fofint (IntKind.wrap IntKind.i64 (wi (AV.toInt (List.getD ms 0 .undef)) (65 : Int) - (32 : Int)))) 4620693217682128896), .flt 13839280179932823552, .flt (fdiv (fofint (IntKind.wrap IntKind.i64 (wi (AV.toInt (List.getD ms 2 .undef)) (65 : Int) - (32 : Int)))) 4620693217682128896)] 24] :=
  con_evF OM0 mixed (qs := [17]) (dec := [true,false,true]) (r := ⟨(AV.slc nb 0 3), [ABlk.mk [.flt (fdiv (fofint (IntKind.wrap IntKind.i64 (wi (AV.toInt (List.getD ms 0 .undef)) (65 : Int) - (32 : Int)))) 4620693217682128896), .flt 13839280179932823552, .flt (fdiv (fofint (IntKind.wrap IntKind.i64 (wi (AV.toInt (List.getD ms 2 .undef)) (65 : Int) - (32 : Int)))) 4620693217682128896)] 24], (Nat.blt 2 (List.length ms) && AV.isInt IntKind.i64 (List.getD ms 2 .undef) && (decide ((0 : Int) ≤ (2 : Int) ∧ (2 : Int) < (↑len : Int)) && (decide ((2 : Int) < (↑len : Int)) && (!decide ((1 : Int) < (↑len : Int)) && (Nat.blt 0 (List.length ms) && AV.isInt IntKind.i64 (List.getD ms 0 .undef) && (decide ((0 : Int) ≤ (0 : Int) ∧ (0 : Int) < (↑len : Int)) && (decide ((0 : Int) < (↑len : Int)) && true)))))))⟩) (by kernel_rfl) hok
theorem vls3_110 (ms : List AV) (len : Nat) (nb : Nat) (hok : ((!decide ((2 : Int) < (↑len : Int)) && (Nat.blt 1 (List.length ms) && AV.isInt IntKind.i64 (List.getD ms 1 .undef) && (decide ((0 : Int) ≤ (1 : Int) ∧ (1 : Int) < (↑len : Int)) && (decide ((1 : Int) < (↑len : Int)) && (Nat.blt 0 (List.length ms) && AV.isInt IntKind.i64 (List.getD ms 0 .undef) && (decide ((0 : Int) ≤ (0 : Int) ∧ (0 : Int) < (↑len : Int)) && (decide ((0 : Int) < (↑len : Int)) && true)))))))) = true) : Con prog 46 [.int .i64 3, .snap ms len] nb (AV.slc nb 0 3) [ABlk.mk [.flt (fdiv (fofint (IntKind.wrap IntKind.i64 (wi (AV.toInt (List.getD ms 0 .undef)) (65 : Int) - (32 : Int)))) 4620693217682128896), .flt (fdiv (fofint (IntKind.wrap IntKind.i64 (wi (AV.toInt (List.getD ms 1 .undef)) (65 : Int) - (32 : Int)))) 4620693217682128896), .flt 13838998704956112896] 24] :=
  con_evF OM0 mixed (qs := [17]) (dec := [true,true,false]) (r := ⟨(AV.slc nb 0 3), [ABlk.mk [.flt (fdiv (fofint (IntKind.wrap IntKind.i64 (wi (AV.toInt (List.getD ms 0 .undef)) (65 : Int) - (32 : Int)))) 4620693217682128896), .flt (fdiv (fofint (IntKind.wrap IntKind.i64 (wi (AV.toInt (List.getD ms 1 .undef)) (65 : Int) - (32 : Int)))) 4620693217682128896), .flt 13838998704956112896] 24], (!decide ((2 : Int) < (↑len : Int)) && (Nat.blt 1 (List.length ms) && AV.isInt IntKind.i64 (List.getD ms 1 .undef) && (decide ((0 : Int) ≤ (1 : Int) ∧ (1 : Int) < (↑len : Int)) && (decide ((1 : Int) < (↑len : Int)) && (Nat.blt 0 (List.length ms) && AV.isInt IntKind.i64 (List.getD ms 0 .undef) && (decide ((0 : Int) ≤ (0 : Int) ∧ (0 : Int) < (↑len : Int)) && (decide ((0 : Int) < (↑len : Int)) && true)))))))⟩) (by kernel_rfl) hok
theorem vls3_111 (ms : List AV) (len : Nat) (nb : Nat) (hok : ((Nat.blt 2 (List.length ms) && AV.isInt IntKind.i64 (List.getD ms 2 .undef) && (decide ((0 : Int) ≤ (2 : Int) ∧ (2 : Int) < (↑len : Int)) && (decide ((2 : Int) < (↑len : Int)) && (Nat.blt 1 (List.length ms) && AV.isInt IntKind.i64 (List.getD ms 1 .undef) && (decide ((0 : Int) ≤ (1 : Int) ∧ (1 : Int) < (↑len : Int)) && (decide ((1 : Int) < (↑len : Int)) && (Nat.blt 0 (List.length ms) && AV.isInt IntKind.i64 (List.getD ms 0 .undef) && (decide ((0 : Int) ≤ (0 : Int) ∧ (0 : Int) < (↑len : Int)) && (decide ((0 : Int) < (↑len : Int)) && true)))))))))) = true) : Con prog 46 [.int .i64 3, .snap ms len] nb (AV.slc nb 0 3) [ABlk.mk [.flt (fdiv (fofint (IntKind.wrap IntKind.i64 (wi (AV.toInt (List.getD ms 0 .undef)) (65 : Int) - (32 : Int)))) 4620693217682128896), .flt (fdiv (fofint (IntKind.wrap IntKind.i64 (wi (AV.toInt (List.getD ms 1 .undef)) (65 : Int) - (32 : Int)))) 4620693217682128896), .flt (fdiv (fofint (IntKind.wrap IntKind.i64 (wi (AV.toInt (List.getD ms 2 .undef)) (65 : Int) - (32 : Int)))) 4620693217682128896)] 24] :=
  con_evF OM0 mixed (qs := [17]) (dec := [true,true,true]) (r := ⟨(AV.slc nb 0 3), [ABlk.mk [.flt (fdiv (fofint (IntKind.wrap IntKind.i64 (wi (AV.toInt (List.getD ms 0 .undef)) (65 : Int) - (32 : Int)))) 4620693217682128896), .flt (fdiv (fofint (IntKind.wrap IntKind.i64 (wi (AV.toInt (List.getD ms 1 .undef)) (65 : Int) - (32 : Int)))) 4620693217682128896), .flt (fdiv (fofint (IntKind.wrap IntKind.i64 (wi (AV.toInt (List.getD ms 2 .undef)) (65 : Int) - (32 : Int)))) 4620693217682128896)] 24], (Nat.blt 2 (List.length ms) && AV.isInt IntKind.i64 (List.getD ms 2 .undef) && (decide ((0 : Int) ≤ (2 : Int) ∧ (2 : Int) < (↑len : Int)) && (decide ((2 : Int) < (↑len : Int)) && (Nat.blt 1 (List.length ms) && AV.isInt IntKind.i64 (List.getD ms 1 .undef) && (decide ((0 : Int) ≤ (1 : Int) ∧ (1 : Int) < (↑len : Int)) && (decide ((1 : Int) < (↑len : Int)) && (Nat.blt 0 (List.length ms) && AV.isInt IntKind.i64 (List.getD ms 0 .undef) && (decide ((0 : Int) ≤ (0 : Int) ∧ (0 : Int) < (↑len : Int)) && (decide ((0 : Int) < (↑len : Int)) && true)))))))))⟩) (by kernel_rfl) hok
theorem known4  (nb : Nat) : Con prog 55 [] nb (AV.bool true) [] :=
  con_evF OM0 mixed (qs := []) (dec := []) (r := ⟨(AV.bool true), [], true⟩) (by kernel_rfl) rfl
theorem known3  (nb : Nat) : Con prog 39 [] nb (AV.bool true) [] :=
  con_evF OM0 mixed (qs := []) (dec := []) (r := ⟨(AV.bool true), [], true⟩) (by kernel_rfl) rfl
theorem known5  (nb : Nat) : Con prog 33 [] nb (AV.bool true) [] :=
  con_evF OM0 mixed (qs := []) (dec := []) (r := ⟨(AV.bool true), [], true⟩) (by kernel_rfl) rfl
theorem known8  (nb : Nat) : Con prog 24 [] nb (AV.bool true) [] :=
  con_evF OM0 mixed (qs := []) (dec := []) (r := ⟨(AV.bool true), [], true⟩) (by kernel_rfl) rfl
end Go.Eng.Try
/- Fields, part 8: entries for fields of floats; the laws' numbers. Condition: as each entry says. Written by wip/tools/genR4.py. -/
namespace Go.Eng
open Go Go.RowKit

def valV (ms : List AV) (len i : Nat) : Nat := fdiv (fofint (IntKind.wrap IntKind.i64 (wi (bif decide ((i : Int) < (len : Int)) then nsAt ms i else (i : Int)) 65 - 32))) 4620693217682128896
theorem valV_t (ms : List AV) (len i : Nat) (h : decide ((i : Int) < (len : Int)) = true) : valV ms len i = fdiv (fofint (IntKind.wrap IntKind.i64 (wi (AV.toInt (ms.getD i .undef)) 65 - 32))) 4620693217682128896 := by
  unfold valV nsAt
  rw [h]
  rfl
def valC (i : Nat) : Nat := fdiv (fofint (IntKind.wrap IntKind.i64 (wi (i : Int) 65 - 32))) 4620693217682128896
theorem valV_f (ms : List AV) (len i : Nat) (h : decide ((i : Int) < (len : Int)) = false) : valV ms len i = valC i := by
  unfold valV valC
  rw [h]
  rfl
theorem valC0 : valC 0 = 13839561654909534208 := by decide +kernel
theorem valC1 : valC 1 = 13839280179932823552 := by decide +kernel
theorem valC2 : valC 2 = 13838998704956112896 := by decide +kernel
def xsV (N : Nat) (ms : List AV) (len : Nat) : List Nat := (List.range N).map (valV ms len)
theorem xsV_length (N : Nat) (ms : List AV) (len : Nat) : (xsV N ms len).length = N := by simp [xsV]

def unOps : List AV → List TOp
  | .int _ k :: .int _ a :: .int _ b :: .flt c :: rest => ⟨k, a, b, c⟩ :: unOps rest
  | _ => []
theorem unOps_ops (os : List TOp) : unOps (opsL os) = os := by
  induction os with
  | nil => rfl
  | cons o os ih => simp [opsL, unOps, ih]
def unInt (cs : List AV) : List Int := cs.map AV.toInt
theorem unInt_int (xs : List Int) : unInt (intL xs) = xs := by
  unfold unInt intL
  rw [List.map_map]
  have : (AV.toInt ∘ AV.int .i64) = id := by funext x; rfl
  rw [this, List.map_id]

/-- A field of N variables, and as many numbers. -/
def FldOk (N : Nat) (k : IntKind) (a : Int) (oc : List AV) (m : Nat) (uc : List AV) (u : Nat) : Prop :=
  k = .i64 ∧ a = N ∧ u = N ∧ ∃ ops outs, oc = opsL ops ∧ m = ops.length ∧ uc = intL outs ∧ m < 1000 ∧ OpsOk N ops ∧ OutsOk N m outs
def XsOk (N : Nat) (xc : List AV) (lx : Nat) : Prop := lx = N ∧ ∃ xs, xc = fltL xs ∧ xs.length = N

def jRows (N nb : Nat) (xs : List Nat) (ops : List TOp) (outs : List Int) : List ABlk :=
  ⟨(List.range N).map (fun i => .slc (nb + (i + 1)) 0 N), 34⟩ :: (List.range N).map (fun i => ⟨jRow N (jacD kF 0 N xs ops outs i), 24⟩)

namespace Try
open Go.Proofs.Try

theorem con_vals1 (ms : List AV) (len : Nat) (h : LmkOk ms len) (nb : Nat) : Con prog 46 [.int .i64 1, .snap ms len] nb (.slc nb 0 1) [⟨fltL (xsV 1 ms len), 24⟩] := by
  obtain ⟨hl, hi⟩ := h
  have e : fltL (xsV 1 ms len) = [.flt (valV ms len 0)] := rfl
  rw [e]
  cases h0 : decide (((0 : Nat) : Int) < (len : Int)) with
  | true =>
    have w0 : valV ms len 0 = _ := valV_t ms len 0 h0
    rw [w0]
    exact vls1_1 ms len nb (by
      simp only [Bool.and_eq_true]
      and_intros
      all_goals first
        | exact trivial
        | (rw [Nat.blt_eq]; simp only [decide_eq_true_eq] at *; omega)
        | (refine hi _ ?_; simp only [decide_eq_true_eq] at *; omega)
        | (simp only [decide_eq_true_eq] at *; omega)
        | (simp only [Bool.not_eq_true', decide_eq_false_iff_not, decide_eq_true_eq] at *; omega))
  | false =>
    have w0 : valV ms len 0 = _ := (valV_f ms len 0 h0).trans valC0
    rw [w0]
    exact vls1_0 ms len nb (by
      simp only [Bool.and_eq_true]
      and_intros
      all_goals first
        | exact trivial
        | (rw [Nat.blt_eq]; simp only [decide_eq_true_eq] at *; omega)
        | (refine hi _ ?_; simp only [decide_eq_true_eq] at *; omega)
        | (simp only [decide_eq_true_eq] at *; omega)
        | (simp only [Bool.not_eq_true', decide_eq_false_iff_not, decide_eq_true_eq] at *; omega))

theorem con_vals2 (ms : List AV) (len : Nat) (h : LmkOk ms len) (nb : Nat) : Con prog 46 [.int .i64 2, .snap ms len] nb (.slc nb 0 2) [⟨fltL (xsV 2 ms len), 24⟩] := by
  obtain ⟨hl, hi⟩ := h
  have e : fltL (xsV 2 ms len) = [.flt (valV ms len 0), .flt (valV ms len 1)] := rfl
  rw [e]
  cases h0 : decide (((0 : Nat) : Int) < (len : Int)) with
  | true =>
    cases h1 : decide (((1 : Nat) : Int) < (len : Int)) with
    | true =>
      have w0 : valV ms len 0 = _ := valV_t ms len 0 h0
      have w1 : valV ms len 1 = _ := valV_t ms len 1 h1
      rw [w0, w1]
      exact vls2_11 ms len nb (by
        simp only [Bool.and_eq_true]
        and_intros
        all_goals first
          | exact trivial
          | (rw [Nat.blt_eq]; simp only [decide_eq_true_eq] at *; omega)
          | (refine hi _ ?_; simp only [decide_eq_true_eq] at *; omega)
          | (simp only [decide_eq_true_eq] at *; omega)
          | (simp only [Bool.not_eq_true', decide_eq_false_iff_not, decide_eq_true_eq] at *; omega))
    | false =>
      have w0 : valV ms len 0 = _ := valV_t ms len 0 h0
      have w1 : valV ms len 1 = _ := (valV_f ms len 1 h1).trans valC1
      rw [w0, w1]
      exact vls2_10 ms len nb (by
        simp only [Bool.and_eq_true]
        and_intros
        all_goals first
          | exact trivial
          | (rw [Nat.blt_eq]; simp only [decide_eq_true_eq] at *; omega)
          | (refine hi _ ?_; simp only [decide_eq_true_eq] at *; omega)
          | (simp only [decide_eq_true_eq] at *; omega)
          | (simp only [Bool.not_eq_true', decide_eq_false_iff_not, decide_eq_true_eq] at *; omega))
  | false =>
    cases h1 : decide (((1 : Nat) : Int) < (len : Int)) with
    | true =>
      have w0 : valV ms len 0 = _ := (valV_f ms len 0 h0).trans valC0
      have w1 : valV ms len 1 = _ := valV_t ms len 1 h1
      rw [w0, w1]
      exact vls2_01 ms len nb (by
        simp only [Bool.and_eq_true]
        and_intros
        all_goals first
          | exact trivial
          | (rw [Nat.blt_eq]; simp only [decide_eq_true_eq] at *; omega)
          | (refine hi _ ?_; simp only [decide_eq_true_eq] at *; omega)
          | (simp only [decide_eq_true_eq] at *; omega)
          | (simp only [Bool.not_eq_true', decide_eq_false_iff_not, decide_eq_true_eq] at *; omega))
    | false =>
      have w0 : valV ms len 0 = _ := (valV_f ms len 0 h0).trans valC0
      have w1 : valV ms len 1 = _ := (valV_f ms len 1 h1).trans valC1
      rw [w0, w1]
      exact vls2_00 ms len nb (by
        simp only [Bool.and_eq_true]
        and_intros
        all_goals first
          | exact trivial
          | (rw [Nat.blt_eq]; simp only [decide_eq_true_eq] at *; omega)
          | (refine hi _ ?_; simp only [decide_eq_true_eq] at *; omega)
          | (simp only [decide_eq_true_eq] at *; omega)
          | (simp only [Bool.not_eq_true', decide_eq_false_iff_not, decide_eq_true_eq] at *; omega))

theorem con_vals3 (ms : List AV) (len : Nat) (h : LmkOk ms len) (nb : Nat) : Con prog 46 [.int .i64 3, .snap ms len] nb (.slc nb 0 3) [⟨fltL (xsV 3 ms len), 24⟩] := by
  obtain ⟨hl, hi⟩ := h
  have e : fltL (xsV 3 ms len) = [.flt (valV ms len 0), .flt (valV ms len 1), .flt (valV ms len 2)] := rfl
  rw [e]
  cases h0 : decide (((0 : Nat) : Int) < (len : Int)) with
  | true =>
    cases h1 : decide (((1 : Nat) : Int) < (len : Int)) with
    | true =>
      cases h2 : decide (((2 : Nat) : Int) < (len : Int)) with
      | true =>
        have w0 : valV ms len 0 = _ := valV_t ms len 0 h0
        have w1 : valV ms len 1 = _ := valV_t ms len 1 h1
        have w2 : valV ms len 2 = _ := valV_t ms len 2 h2
        rw [w0, w1, w2]
        exact vls3_111 ms len nb (by
          simp only [Bool.and_eq_true]
          and_intros
          all_goals first
            | exact trivial
            | (rw [Nat.blt_eq]; simp only [decide_eq_true_eq] at *; omega)
            | (refine hi _ ?_; simp only [decide_eq_true_eq] at *; omega)
            | (simp only [decide_eq_true_eq] at *; omega)
            | (simp only [Bool.not_eq_true', decide_eq_false_iff_not, decide_eq_true_eq] at *; omega))
      | false =>
        have w0 : valV ms len 0 = _ := valV_t ms len 0 h0
        have w1 : valV ms len 1 = _ := valV_t ms len 1 h1
        have w2 : valV ms len 2 = _ := (valV_f ms len 2 h2).trans valC2
        rw [w0, w1, w2]
        exact vls3_110 ms len nb (by
          simp only [Bool.and_eq_true]
          and_intros
          all_goals first
            | exact trivial
            | (rw [Nat.blt_eq]; simp only [decide_eq_true_eq] at *; omega)
            | (refine hi _ ?_; simp only [decide_eq_true_eq] at *; omega)
            | (simp only [decide_eq_true_eq] at *; omega)
            | (simp only [Bool.not_eq_true', decide_eq_false_iff_not, decide_eq_true_eq] at *; omega))
    | false =>
      cases h2 : decide (((2 : Nat) : Int) < (len : Int)) with
      | true =>
        have w0 : valV ms len 0 = _ := valV_t ms len 0 h0
        have w1 : valV ms len 1 = _ := (valV_f ms len 1 h1).trans valC1
        have w2 : valV ms len 2 = _ := valV_t ms len 2 h2
        rw [w0, w1, w2]
        exact vls3_101 ms len nb (by
          simp only [Bool.and_eq_true]
          and_intros
          all_goals first
            | exact trivial
            | (rw [Nat.blt_eq]; simp only [decide_eq_true_eq] at *; omega)
            | (refine hi _ ?_; simp only [decide_eq_true_eq] at *; omega)
            | (simp only [decide_eq_true_eq] at *; omega)
            | (simp only [Bool.not_eq_true', decide_eq_false_iff_not, decide_eq_true_eq] at *; omega))
      | false =>
        have w0 : valV ms len 0 = _ := valV_t ms len 0 h0
        have w1 : valV ms len 1 = _ := (valV_f ms len 1 h1).trans valC1
        have w2 : valV ms len 2 = _ := (valV_f ms len 2 h2).trans valC2
        rw [w0, w1, w2]
        exact vls3_100 ms len nb (by
          simp only [Bool.and_eq_true]
          and_intros
          all_goals first
            | exact trivial
            | (rw [Nat.blt_eq]; simp only [decide_eq_true_eq] at *; omega)
            | (refine hi _ ?_; simp only [decide_eq_true_eq] at *; omega)
            | (simp only [decide_eq_true_eq] at *; omega)
            | (simp only [Bool.not_eq_true', decide_eq_false_iff_not, decide_eq_true_eq] at *; omega))
  | false =>
    cases h1 : decide (((1 : Nat) : Int) < (len : Int)) with
    | true =>
      cases h2 : decide (((2 : Nat) : Int) < (len : Int)) with
      | true =>
        have w0 : valV ms len 0 = _ := (valV_f ms len 0 h0).trans valC0
        have w1 : valV ms len 1 = _ := valV_t ms len 1 h1
        have w2 : valV ms len 2 = _ := valV_t ms len 2 h2
        rw [w0, w1, w2]
        exact vls3_011 ms len nb (by
          simp only [Bool.and_eq_true]
          and_intros
          all_goals first
            | exact trivial
            | (rw [Nat.blt_eq]; simp only [decide_eq_true_eq] at *; omega)
            | (refine hi _ ?_; simp only [decide_eq_true_eq] at *; omega)
            | (simp only [decide_eq_true_eq] at *; omega)
            | (simp only [Bool.not_eq_true', decide_eq_false_iff_not, decide_eq_true_eq] at *; omega))
      | false =>
        have w0 : valV ms len 0 = _ := (valV_f ms len 0 h0).trans valC0
        have w1 : valV ms len 1 = _ := valV_t ms len 1 h1
        have w2 : valV ms len 2 = _ := (valV_f ms len 2 h2).trans valC2
        rw [w0, w1, w2]
        exact vls3_010 ms len nb (by
          simp only [Bool.and_eq_true]
          and_intros
          all_goals first
            | exact trivial
            | (rw [Nat.blt_eq]; simp only [decide_eq_true_eq] at *; omega)
            | (refine hi _ ?_; simp only [decide_eq_true_eq] at *; omega)
            | (simp only [decide_eq_true_eq] at *; omega)
            | (simp only [Bool.not_eq_true', decide_eq_false_iff_not, decide_eq_true_eq] at *; omega))
    | false =>
      cases h2 : decide (((2 : Nat) : Int) < (len : Int)) with
      | true =>
        have w0 : valV ms len 0 = _ := (valV_f ms len 0 h0).trans valC0
        have w1 : valV ms len 1 = _ := (valV_f ms len 1 h1).trans valC1
        have w2 : valV ms len 2 = _ := valV_t ms len 2 h2
        rw [w0, w1, w2]
        exact vls3_001 ms len nb (by
          simp only [Bool.and_eq_true]
          and_intros
          all_goals first
            | exact trivial
            | (rw [Nat.blt_eq]; simp only [decide_eq_true_eq] at *; omega)
            | (refine hi _ ?_; simp only [decide_eq_true_eq] at *; omega)
            | (simp only [decide_eq_true_eq] at *; omega)
            | (simp only [Bool.not_eq_true', decide_eq_false_iff_not, decide_eq_true_eq] at *; omega))
      | false =>
        have w0 : valV ms len 0 = _ := (valV_f ms len 0 h0).trans valC0
        have w1 : valV ms len 1 = _ := (valV_f ms len 1 h1).trans valC1
        have w2 : valV ms len 2 = _ := (valV_f ms len 2 h2).trans valC2
        rw [w0, w1, w2]
        exact vls3_000 ms len nb (by
          simp only [Bool.and_eq_true]
          and_intros
          all_goals first
            | exact trivial
            | (rw [Nat.blt_eq]; simp only [decide_eq_true_eq] at *; omega)
            | (refine hi _ ?_; simp only [decide_eq_true_eq] at *; omega)
            | (simp only [decide_eq_true_eq] at *; omega)
            | (simp only [Bool.not_eq_true', decide_eq_false_iff_not, decide_eq_true_eq] at *; omega))


noncomputable def eVals1 : Entry := ⟨46, fun ys nb => match ys with
  | [.int k a, .snap ms len] => some ⟨.slc nb 0 1, [⟨fltL (xsV 1 ms len), 24⟩], pb (k = .i64 ∧ a = 1 ∧ LmkOk ms len)⟩
  | _ => none⟩
theorem eVals1_ok : EntryOK prog eVals1 := by
  intro ys n r h hok
  simp only [eVals1] at h
  split at h
  · cases h
    obtain ⟨rfl, rfl, h⟩ := pb_is.1 hok
    exact con_vals1 _ _ h n
  · cases h
noncomputable def eJrun1 : Entry := ⟨107, fun ys nb => match ys with
  | [kk, .agg [.int k a, .snap oc m, .snap uc u], .snap xc lx] => some ⟨.slc nb 0 1, jRows 1 nb (unF xc) (unOps oc) (unInt uc), pb (kk = jKinds ∧ FldOk 1 k a oc m uc u ∧ XsOk 1 xc lx)⟩
  | _ => none⟩
theorem eJrun1_ok : EntryOK prog eJrun1 := by
  intro ys n r h hok
  simp only [eJrun1] at h
  split at h
  · cases h
    obtain ⟨rfl, ⟨rfl, rfl, rfl, ops, outs, rfl, rfl, rfl, hm, ho, hu⟩, rfl, xs, rfl, hx⟩ := pb_is.1 hok
    rw [unF_flt, unOps_ops, unInt_int]
    have := con_jrun1 xs ops outs hm (by rw [hx]; exact ho) hu n
    rw [hx] at this
    exact this
  · cases h
noncomputable def eEjac1 : Entry := ⟨63, fun ys nb => match ys with
  | [.agg [.int k a, .snap oc m, .snap uc u], .snap xc lx] => some ⟨.slc nb 0 1, jRows 1 nb (unF xc) (unOps oc) (unInt uc), pb (FldOk 1 k a oc m uc u ∧ XsOk 1 xc lx)⟩
  | _ => none⟩
theorem eEjac1_ok : EntryOK prog eEjac1 := by
  intro ys n r h hok
  simp only [eEjac1] at h
  split at h
  · cases h
    obtain ⟨⟨rfl, rfl, rfl, ops, outs, rfl, rfl, rfl, hm, ho, hu⟩, rfl, xs, rfl, hx⟩ := pb_is.1 hok
    rw [unF_flt, unOps_ops, unInt_int]
    have := con_ejac1 xs ops outs hm (by rw [hx]; exact ho) hx hu n
    rw [hx] at this
    exact this
  · cases h
noncomputable def eLmk1 : Entry := ⟨41, fun ys nb => match ys with
  | [.int k n, .snap ns len, .bool d] => some ⟨.agg [.int .i64 1, .slc nb 0 (lmkM 1 len), .slc (nb + 1) 0 1], [⟨opsL (lmkOps n 1 d ns len), 57⟩, ⟨intL (outsT n (lmkM 1 len) 1), 3⟩], pb (k = .i64 ∧ LmkOk ns len ∧ wi n 3 + 1 = (1 : Nat))⟩
  | _ => none⟩
theorem eLmk1_ok : EntryOK prog eLmk1 := by
  intro ys n r h hok
  simp only [eLmk1] at h
  split at h
  · cases h
    obtain ⟨rfl, h1, h2⟩ := pb_is.1 hok
    exact con_lmk1 _ _ _ _ h1 h2 n
  · cases h

noncomputable def eVals2 : Entry := ⟨46, fun ys nb => match ys with
  | [.int k a, .snap ms len] => some ⟨.slc nb 0 2, [⟨fltL (xsV 2 ms len), 24⟩], pb (k = .i64 ∧ a = 2 ∧ LmkOk ms len)⟩
  | _ => none⟩
theorem eVals2_ok : EntryOK prog eVals2 := by
  intro ys n r h hok
  simp only [eVals2] at h
  split at h
  · cases h
    obtain ⟨rfl, rfl, h⟩ := pb_is.1 hok
    exact con_vals2 _ _ h n
  · cases h
noncomputable def eJrun2 : Entry := ⟨107, fun ys nb => match ys with
  | [kk, .agg [.int k a, .snap oc m, .snap uc u], .snap xc lx] => some ⟨.slc nb 0 2, jRows 2 nb (unF xc) (unOps oc) (unInt uc), pb (kk = jKinds ∧ FldOk 2 k a oc m uc u ∧ XsOk 2 xc lx)⟩
  | _ => none⟩
theorem eJrun2_ok : EntryOK prog eJrun2 := by
  intro ys n r h hok
  simp only [eJrun2] at h
  split at h
  · cases h
    obtain ⟨rfl, ⟨rfl, rfl, rfl, ops, outs, rfl, rfl, rfl, hm, ho, hu⟩, rfl, xs, rfl, hx⟩ := pb_is.1 hok
    rw [unF_flt, unOps_ops, unInt_int]
    have := con_jrun2 xs ops outs hm (by rw [hx]; exact ho) hu n
    rw [hx] at this
    exact this
  · cases h
noncomputable def eEjac2 : Entry := ⟨63, fun ys nb => match ys with
  | [.agg [.int k a, .snap oc m, .snap uc u], .snap xc lx] => some ⟨.slc nb 0 2, jRows 2 nb (unF xc) (unOps oc) (unInt uc), pb (FldOk 2 k a oc m uc u ∧ XsOk 2 xc lx)⟩
  | _ => none⟩
theorem eEjac2_ok : EntryOK prog eEjac2 := by
  intro ys n r h hok
  simp only [eEjac2] at h
  split at h
  · cases h
    obtain ⟨⟨rfl, rfl, rfl, ops, outs, rfl, rfl, rfl, hm, ho, hu⟩, rfl, xs, rfl, hx⟩ := pb_is.1 hok
    rw [unF_flt, unOps_ops, unInt_int]
    have := con_ejac2 xs ops outs hm (by rw [hx]; exact ho) hx hu n
    rw [hx] at this
    exact this
  · cases h
noncomputable def eLmk2 : Entry := ⟨41, fun ys nb => match ys with
  | [.int k n, .snap ns len, .bool d] => some ⟨.agg [.int .i64 2, .slc nb 0 (lmkM 2 len), .slc (nb + 1) 0 2], [⟨opsL (lmkOps n 2 d ns len), 57⟩, ⟨intL (outsT n (lmkM 2 len) 2), 3⟩], pb (k = .i64 ∧ LmkOk ns len ∧ wi n 3 + 1 = (2 : Nat))⟩
  | _ => none⟩
theorem eLmk2_ok : EntryOK prog eLmk2 := by
  intro ys n r h hok
  simp only [eLmk2] at h
  split at h
  · cases h
    obtain ⟨rfl, h1, h2⟩ := pb_is.1 hok
    exact con_lmk2 _ _ _ _ h1 h2 n
  · cases h

noncomputable def eVals3 : Entry := ⟨46, fun ys nb => match ys with
  | [.int k a, .snap ms len] => some ⟨.slc nb 0 3, [⟨fltL (xsV 3 ms len), 24⟩], pb (k = .i64 ∧ a = 3 ∧ LmkOk ms len)⟩
  | _ => none⟩
theorem eVals3_ok : EntryOK prog eVals3 := by
  intro ys n r h hok
  simp only [eVals3] at h
  split at h
  · cases h
    obtain ⟨rfl, rfl, h⟩ := pb_is.1 hok
    exact con_vals3 _ _ h n
  · cases h
noncomputable def eJrun3 : Entry := ⟨107, fun ys nb => match ys with
  | [kk, .agg [.int k a, .snap oc m, .snap uc u], .snap xc lx] => some ⟨.slc nb 0 3, jRows 3 nb (unF xc) (unOps oc) (unInt uc), pb (kk = jKinds ∧ FldOk 3 k a oc m uc u ∧ XsOk 3 xc lx)⟩
  | _ => none⟩
theorem eJrun3_ok : EntryOK prog eJrun3 := by
  intro ys n r h hok
  simp only [eJrun3] at h
  split at h
  · cases h
    obtain ⟨rfl, ⟨rfl, rfl, rfl, ops, outs, rfl, rfl, rfl, hm, ho, hu⟩, rfl, xs, rfl, hx⟩ := pb_is.1 hok
    rw [unF_flt, unOps_ops, unInt_int]
    have := con_jrun3 xs ops outs hm (by rw [hx]; exact ho) hu n
    rw [hx] at this
    exact this
  · cases h
noncomputable def eEjac3 : Entry := ⟨63, fun ys nb => match ys with
  | [.agg [.int k a, .snap oc m, .snap uc u], .snap xc lx] => some ⟨.slc nb 0 3, jRows 3 nb (unF xc) (unOps oc) (unInt uc), pb (FldOk 3 k a oc m uc u ∧ XsOk 3 xc lx)⟩
  | _ => none⟩
theorem eEjac3_ok : EntryOK prog eEjac3 := by
  intro ys n r h hok
  simp only [eEjac3] at h
  split at h
  · cases h
    obtain ⟨⟨rfl, rfl, rfl, ops, outs, rfl, rfl, rfl, hm, ho, hu⟩, rfl, xs, rfl, hx⟩ := pb_is.1 hok
    rw [unF_flt, unOps_ops, unInt_int]
    have := con_ejac3 xs ops outs hm (by rw [hx]; exact ho) hx hu n
    rw [hx] at this
    exact this
  · cases h
noncomputable def eLmk3 : Entry := ⟨41, fun ys nb => match ys with
  | [.int k n, .snap ns len, .bool d] => some ⟨.agg [.int .i64 3, .slc nb 0 (lmkM 3 len), .slc (nb + 1) 0 3], [⟨opsL (lmkOps n 3 d ns len), 57⟩, ⟨intL (outsT n (lmkM 3 len) 3), 3⟩], pb (k = .i64 ∧ LmkOk ns len ∧ wi n 3 + 1 = (3 : Nat))⟩
  | _ => none⟩
theorem eLmk3_ok : EntryOK prog eLmk3 := by
  intro ys n r h hok
  simp only [eLmk3] at h
  split at h
  · cases h
    obtain ⟨rfl, h1, h2⟩ := pb_is.1 hok
    exact con_lmk3 _ _ _ _ h1 h2 n
  · cases h

def eKnown4 : Entry := ⟨55, fun ys nb => match ys with
  | [] => some ⟨.bool true, [], true⟩
  | _ => none⟩
theorem eKnown4_ok : EntryOK prog eKnown4 := by
  intro ys n r h hok
  simp only [eKnown4] at h
  split at h
  · cases h
    exact known4 n
  · cases h

def eKnown3 : Entry := ⟨39, fun ys nb => match ys with
  | [] => some ⟨.bool true, [], true⟩
  | _ => none⟩
theorem eKnown3_ok : EntryOK prog eKnown3 := by
  intro ys n r h hok
  simp only [eKnown3] at h
  split at h
  · cases h
    exact known3 n
  · cases h

def eKnown5 : Entry := ⟨33, fun ys nb => match ys with
  | [] => some ⟨.bool true, [], true⟩
  | _ => none⟩
theorem eKnown5_ok : EntryOK prog eKnown5 := by
  intro ys n r h hok
  simp only [eKnown5] at h
  split at h
  · cases h
    exact known5 n
  · cases h

def eKnown8 : Entry := ⟨24, fun ys nb => match ys with
  | [] => some ⟨.bool true, [], true⟩
  | _ => none⟩
theorem eKnown8_ok : EntryOK prog eKnown8 := by
  intro ys n r h hok
  simp only [eKnown8] at h
  split at h
  · cases h
    exact known8 n
  · cases h

theorem outsT_ok (n : Int) (N m : Nat) (hN : N = 1 ∨ N = 2 ∨ N = 3) (h2 : 2 ≤ m) (h3 : m < 1000) : OutsOk N m (outsT n m N) := by
  rcases hN with rfl | rfl | rfl
  · refine ⟨rfl, fun j hj => ?_⟩
    have : j = 0 := by omega
    subst this
    exact outT_range n m 0 h2 h3 (by omega)
  · refine ⟨rfl, fun j hj => ?_⟩
    have : j = 0 ∨ j = 1 := by omega
    rcases this with rfl | rfl
    · exact outT_range n m 0 h2 h3 (by omega)
    · exact outT_range n m 1 h2 h3 (by omega)
  · refine ⟨rfl, fun j hj => ?_⟩
    have : j = 0 ∨ j = 1 ∨ j = 2 := by omega
    rcases this with rfl | rfl | rfl
    · exact outT_range n m 0 h2 h3 (by omega)
    · exact outT_range n m 1 h2 h3 (by omega)
    · exact outT_range n m 2 h2 h3 (by omega)

theorem fld_lmk (n : Int) (N : Nat) (hN : N = 1 ∨ N = 2 ∨ N = 3) (d : Bool) (ns : List AV) (len : Nat) : FldOk N .i64 N (opsL (lmkOps n N d ns len)) (lmkM N len) (intL (outsT n (lmkM N len) N)) N :=
  ⟨rfl, rfl, rfl, _, _, rfl, (lmkOps_length n N hN d ns len).symm, rfl, by unfold lmkM; omega, lmkOps_ok n N hN d ns len, outsT_ok n N _ hN (by unfold lmkM; omega) (by unfold lmkM; omega)⟩
theorem xs_vals (N : Nat) (ms : List AV) (len : Nat) : XsOk N (fltL (xsV N ms len)) N := ⟨rfl, _, rfl, xsV_length _ _ _⟩
end Try

section
open Try
theorem and_t {a b : Bool} (ha : a = true) (hb : b = true) : (a && b) = true := by rw [ha, hb]; rfl
theorem lmkOk_ints {zs : List Int} {len : Nat} (h : len ≤ zs.length) : LmkOk (zs.map (AV.int .i64)) len := by
  refine ⟨by simpa using h, fun i hi => ?_⟩
  have h2 : i < zs.length := by simpa using hi
  simp [List.getD_eq_getElem?_getD, List.getElem?_eq_getElem h2, AV.isInt]
theorem wi3 (n : Int) : wi n 3 + 1 = (1 : Nat) ∨ wi n 3 + 1 = (2 : Nat) ∨ wi n 3 + 1 = (3 : Nat) := by
  have := wi_range n 3 (by omega) (by omega)
  omega

end
end Go.Eng
/- The laws' own from-tos and rare numbers (envelopelaw1.Num, Rare, envelopelaw2.Make): pieces. Condition: as each piece says. Written by wip/tools/kg.py. -/
namespace Go.Eng.Try
open Go Go.Eng Go.RowKit Go.Proofs.Try
def esN1 : List Entry := eLdexp :: es7
theorem esN1_ok : ∀ e ∈ esN1, EntryOK prog e := by
  intro e he
  rcases List.mem_cons.1 he with rfl | he
  · exact eLdexp_ok
  · exact es7_ok e he
noncomputable abbrev CN1 : Ctx := ctx prog esN1 8
theorem ON1 : OrcOK CN1.P CN1.orc := ctx_ok mixed esN1_ok 8

theorem nNum (m k : Int) (nb : Nat) (hok : ((!nanB (fofint (IntKind.wrap IntKind.i64 (wi m (9007199254740992 : Int) - (4503599627370496 : Int)))) && !nanB (normV (fofint (IntKind.wrap IntKind.i64 (wi m (9007199254740992 : Int) - (4503599627370496 : Int))))) && true && true)) = true) : Con prog 136 [.int .i64 m, .int .i64 k] nb (AV.flt (ldexpS (fofint (IntKind.wrap IntKind.i64 (wi m (9007199254740992 : Int) - (4503599627370496 : Int)))) (IntKind.wrap IntKind.i64 (wi k (80 : Int) - (80 : Int))))) [] :=
  con_evF ON1 mixed (qs := []) (dec := []) (r := ⟨(AV.flt (ldexpS (fofint (IntKind.wrap IntKind.i64 (wi m (9007199254740992 : Int) - (4503599627370496 : Int)))) (IntKind.wrap IntKind.i64 (wi k (80 : Int) - (80 : Int))))), [], (!nanB (fofint (IntKind.wrap IntKind.i64 (wi m (9007199254740992 : Int) - (4503599627370496 : Int)))) && !nanB (normV (fofint (IntKind.wrap IntKind.i64 (wi m (9007199254740992 : Int) - (4503599627370496 : Int))))) && true && true)⟩) (by kernel_rfl) hok
theorem nRare (n : Int) (nb : Nat) (hok : ((Nat.blt (0 + Int.toNat (wi n (10 : Int)) * 1) 10 && AV.isFlt (List.getD [.flt 9221120237041090561, .flt 9218868437227405312, .flt 18442240474082181120, .flt 0, .flt 1, .flt 18442240474082181119, .flt 9218868437227405311, .flt 4607182418800017408, .flt 4602678819172646912, .flt 13835058055282163712] (0 + Int.toNat (wi n (10 : Int)) * 1) .undef) && (decide ((0 : Int) ≤ wi n (10 : Int) ∧ wi n (10 : Int) < (10 : Int)) && true))) = true) : Con prog 45 [.int .i64 n] nb (AV.flt (AV.toFlt (List.getD [.flt 9221120237041090561, .flt 9218868437227405312, .flt 18442240474082181120, .flt 0, .flt 1, .flt 18442240474082181119, .flt 9218868437227405311, .flt 4607182418800017408, .flt 4602678819172646912, .flt 13835058055282163712] (0 + Int.toNat (wi n (10 : Int)) * 1) .undef))) [] :=
  con_evF ON1 mixed (qs := []) (dec := []) (r := ⟨(AV.flt (AV.toFlt (List.getD [.flt 9221120237041090561, .flt 9218868437227405312, .flt 18442240474082181120, .flt 0, .flt 1, .flt 18442240474082181119, .flt 9218868437227405311, .flt 4607182418800017408, .flt 4602678819172646912, .flt 13835058055282163712] (0 + Int.toNat (wi n (10 : Int)) * 1) .undef))), [], (Nat.blt (0 + Int.toNat (wi n (10 : Int)) * 1) 10 && AV.isFlt (List.getD [.flt 9221120237041090561, .flt 9218868437227405312, .flt 18442240474082181120, .flt 0, .flt 1, .flt 18442240474082181119, .flt 9218868437227405311, .flt 4607182418800017408, .flt 4602678819172646912, .flt 13835058055282163712] (0 + Int.toNat (wi n (10 : Int)) * 1) .undef) && (decide ((0 : Int) ≤ wi n (10 : Int) ∧ wi n (10 : Int) < (10 : Int)) && true))⟩) (by kernel_rfl) hok
end Go.Eng.Try
/- The laws' own numbers (envelopelaw1.Num, Rare): contracts; that a number is no NaN. No condition. -/
namespace Go.Eng
open Go Go.RowKit Go.Eng.Try

theorem wi_range2 (a n : Int) (hn : 0 < n) (hm : n ≤ 4611686018427387904) : 0 ≤ wi a n ∧ wi a n < n := by
  have h1 := Int.tmod_lt_of_pos a hn
  have h2 := Int.lt_tmod_of_pos a hn
  unfold wi
  by_cases h : a.tmod n < 0
  · simp only [h, decide_true, cond_true]
    rw [wrapI (by omega) (by omega)]
    omega
  · simp only [h, decide_false, cond_false]
    omega

/-! ### Bits of a float with another exponent -/
theorem wrapU {n : Int} (h0 : 0 ≤ n) (h1 : n < 18446744073709551616) : IntKind.u64.wrap n = n := by
  unfold IntKind.wrap
  simp [IntKind.bits, IntKind.signed]
  omega

theorem lt_of_bits {x n : Nat} (h : ∀ i, n ≤ i → x.testBit i = false) : x < 2 ^ n := Nat.lt_pow_two_of_testBit x h

theorem mask_bits : ∀ i : Fin 64, (BitVec.ofInt 64 9218868437227405312).getLsbD i.val = decide (52 ≤ i.val ∧ i.val < 63) := by decide +kernel
theorem sign_bits : ∀ i : Fin 64, (BitVec.ofInt 64 9223372036854775808).getLsbD i.val = decide (i.val = 63) := by decide +kernel

/-- What is left of bits without an exponent. -/
theorem noexp_lt (y : BitVec 64) : (y &&& ~~~BitVec.ofInt 64 9218868437227405312).toNat % 9223372036854775808 < 4503599627370496 := by
  refine lt_of_bits (n := 52) fun i hi => ?_
  rw [show (9223372036854775808 : Nat) = 2 ^ 63 from rfl, Nat.testBit_mod_two_pow]
  by_cases h : i < 63
  · have h64 : i < 64 := by omega
    have hm := mask_bits ⟨i, h64⟩
    have hm' : (BitVec.ofInt 64 9218868437227405312).getLsbD i = true := by rw [hm]; simp; omega
    have : (y &&& ~~~BitVec.ofInt 64 9218868437227405312).toNat.testBit i = (y &&& ~~~BitVec.ofInt 64 9218868437227405312).getLsbD i := rfl
    rw [this, BitVec.getLsbD_and, BitVec.getLsbD_not, hm']
    simp
  · simp [h]

theorem or_exp (A B : BitVec 64) (k : Nat) (hA : A.toNat % 9223372036854775808 < 4503599627370496) (hB : B.toNat = k * 4503599627370496) (hk : k < 2047) : (A ||| B).toNat % 9223372036854775808 < 9218868437227405312 := by
  rw [BitVec.toNat_or, show (9223372036854775808 : Nat) = 2 ^ 63 from rfl, Nat.or_mod_two_pow, ← show (9223372036854775808 : Nat) = 2 ^ 63 from rfl]
  have hB2 : B.toNat % 9223372036854775808 = k * 4503599627370496 := by rw [hB]; omega
  rw [hB2]
  have h := Nat.two_pow_add_eq_or_of_lt (i := 52) hA k
  rw [Nat.or_comm, Nat.mul_comm]
  have e : (2 : Nat) ^ 52 = 4503599627370496 := rfl
  rw [e] at h
  rw [← h]
  omega

theorem ofInt_toNat {n : Int} (h0 : 0 ≤ n) (h1 : n < 18446744073709551616) : (BitVec.ofInt 64 n).toNat = n.toNat := by
  rw [BitVec.toNat_ofInt]
  congr 1
  exact Int.emod_eq_of_lt h0 h1

theorem expB_fin (y : Nat) (e : Int) (h0 : 0 ≤ e + 1023) (h1 : e + 1023 < 2047) : Fin64 (expB y e).toNat := by
  unfold expB
  have w1 : IntKind.i64.wrap (e + 1023) = e + 1023 := wrapI (by omega) (by omega)
  have w2 : IntKind.u64.wrap (e + 1023) = e + 1023 := wrapU (by omega) (by omega)
  have w3 : min (52 : Int).toNat IntKind.u64.bits = 52 := rfl
  rw [w1, w2, w3, show (2 : Int) ^ 52 = 4503599627370496 from rfl]
  have w4 : IntKind.u64.wrap ((e + 1023) * 4503599627370496) = (e + 1023) * 4503599627370496 := wrapU (by omega) (by omega)
  rw [w4]
  generalize hA : (BitVec.ofInt 64 (y : Int) &&& ~~~BitVec.ofInt 64 9218868437227405312) = A
  have hAl : A.toNat % 9223372036854775808 < 4503599627370496 := by rw [← hA]; exact noexp_lt _
  have hA2 := A.isLt
  have hAw : BitVec.ofInt 64 (IntKind.u64.wrap (A.toNat : Int)) = A := by
    rw [wrapU (by omega) (by omega)]
    apply BitVec.eq_of_toNat_eq
    rw [ofInt_toNat (by omega) (by omega)]
    omega
  rw [hAw]
  have hB : (BitVec.ofInt 64 ((e + 1023) * 4503599627370496)).toNat = (e + 1023).toNat * 4503599627370496 := by
    rw [ofInt_toNat (by omega) (by omega)]
    omega
  have h := or_exp A _ (e + 1023).toNat hAl hB (by omega)
  generalize A ||| BitVec.ofInt 64 ((e + 1023) * 4503599627370496) = C at *
  have hC := C.isLt
  rw [wrapU (by omega) (by omega), Int.toNat_natCast]
  exact ⟨by omega, h⟩

theorem zeroB_fin (y : Nat) : Fin64 (zeroB y).toNat := by
  unfold zeroB
  generalize hA : (BitVec.ofInt 64 (y : Int) &&& BitVec.ofInt 64 9223372036854775808) = A
  have hA2 := A.isLt
  have hAw : BitVec.ofInt 64 (IntKind.u64.wrap (A.toNat : Int)) = A := by
    rw [wrapU (by omega) (by omega)]
    apply BitVec.eq_of_toNat_eq
    rw [ofInt_toNat (by omega) (by omega)]
    omega
  rw [hAw, show BitVec.ofInt 64 0 ||| A = A by simp]
  rw [wrapU (by omega) (by omega), Int.toNat_natCast]
  refine ⟨by omega, ?_⟩
  have : A.toNat % 9223372036854775808 < 2 ^ 0 := by
    refine lt_of_bits (n := 0) fun i _ => ?_
    rw [show (9223372036854775808 : Nat) = 2 ^ 63 from rfl, Nat.testBit_mod_two_pow]
    by_cases h : i < 63
    · have hm := sign_bits ⟨i, by omega⟩
      have hm' : (BitVec.ofInt 64 9223372036854775808).getLsbD i = false := by rw [hm]; simp; omega
      have h2 : A.toNat.testBit i = A.getLsbD i := rfl
      rw [h2, ← hA, BitVec.getLsbD_and, hm']
      simp
    · simp [h]
  omega

theorem Fin64.canon {x : Nat} (h : Fin64 x) : Eng.canon x = x := canon_of_not h.num.nan

theorem normV_num {x : Nat} (h : Fin64 x) : nanB (normV x) = false := by
  unfold normV
  cases normT x with
  | false => exact h.num.nan
  | true => exact (fmul_rd h (show Fin64 4841369599423283200 by unfold Fin64; omega)).num.nan

theorem ldexp_num {x : Nat} (h : Fin64 x) (e : Int) : nanB (ldexpS x e) = false := by
  unfold ldexpS
  cases feq x 0 with
  | true => exact h.num.nan
  | false =>
    cases fgt (fabsB x) 9218868437227405311 with
    | true => exact h.num.nan
    | false =>
      cases h3 : decide (ldE x e < -1075) with
      | true =>
        simp only [cond_true, cond_false]
        rw [(zeroB_fin _).canon]
        exact (zeroB_fin _).num.nan
      | false =>
        simp only [decide_eq_false_iff_not] at h3
        cases h4 : decide (ldE x e > 1023) with
        | true =>
          have i1 : nanB ninfB = false := by decide +kernel
          have i2 : nanB infB = false := by decide +kernel
          cases flt (normV x) 0 with
          | true => exact i1
          | false => exact i2
        | false =>
          simp only [decide_eq_false_iff_not] at h4
          cases h5 : decide (ldE x e < -1022) with
          | true =>
            simp only [decide_eq_true_eq] at h5
            simp only [cond_true, cond_false]
            rw [show IntKind.i64.wrap (ldE x e + 53) = ldE x e + 53 from wrapI (by omega) (by omega)]
            have f := expB_fin (normV x) (ldE x e + 53) (by omega) (by omega)
            rw [f.canon]
            exact (fmul_rd (show Fin64 4368491638549381120 by unfold Fin64; omega) f).num.nan
          | false =>
            simp only [decide_eq_false_iff_not] at h5
            simp only [cond_false]
            have f := expB_fin (normV x) (ldE x e) (by omega) (by omega)
            rw [f.canon]
            exact (fmul_rd (show Fin64 4607182418800017408 by unfold Fin64; omega) f).num.nan

/-- A number of two. -/
def numV (m k : Int) : Nat := ldexpS (fofint (IntKind.wrap IntKind.i64 (wi m 9007199254740992 - 4503599627370496))) (IntKind.wrap IntKind.i64 (wi k 80 - 80))
theorem numW_fin (m : Int) : Fin64 (fofint (IntKind.wrap IntKind.i64 (wi m 9007199254740992 - 4503599627370496))) := by
  have h := wi_range2 m 9007199254740992 (by omega) (by omega)
  rw [wrapI (by omega) (by omega)]
  exact (fofint_exact _ (by omega)).1
theorem numV_num (m k : Int) : nanB (numV m k) = false := ldexp_num (numW_fin m) _

def rareL : List AV := [AV.flt 9221120237041090561, AV.flt 9218868437227405312, AV.flt 18442240474082181120, AV.flt 0, AV.flt 1, AV.flt 18442240474082181119, AV.flt 9218868437227405311, AV.flt 4607182418800017408, AV.flt 4602678819172646912, AV.flt 13835058055282163712]
def rareV (n : Int) : Nat := AV.toFlt (rareL.getD (0 + Int.toNat (wi n 10) * 1) .undef)

namespace Try
open Go.Proofs.Try

theorem con_num (m k : Int) (nb : Nat) : Con prog 136 [.int .i64 m, .int .i64 k] nb (.flt (numV m k)) [] :=
  nNum m k nb (by rw [(numW_fin m).num.nan, normV_num (numW_fin m)]; rfl)
def eNum : Entry := ⟨136, fun ys _ => match ys with
  | [.int k1 m, .int k2 k] => bif decide (k1 = .i64) && decide (k2 = .i64) then some ⟨.flt (numV m k), [], true⟩ else none
  | _ => none⟩
theorem eNum_ok : EntryOK prog eNum := by
  intro ys n r h hok
  simp only [eNum] at h
  split at h
  · rename_i k1 m k2 k
    cases hk : (decide (k1 = .i64) && decide (k2 = .i64)) with
    | false => rw [hk] at h; cases h
    | true =>
      rw [hk] at h
      simp only [Bool.and_eq_true, decide_eq_true_eq] at hk
      obtain ⟨rfl, rfl⟩ := hk
      cases h
      exact con_num m k n
  · cases h

theorem con_rare (n : Int) (nb : Nat) : Con prog 45 [.int .i64 n] nb (.flt (rareV n)) [] := by
  refine nRare n nb ?_
  have h := wi_range n 10 (by omega) (by omega)
  obtain ⟨j, hj⟩ := Int.eq_ofNat_of_zero_le h.1
  rw [hj]
  rw [hj] at h
  have hj10 : j < 10 := by omega
  have hc : ∀ j : Fin 10, ((Nat.blt (0 + Int.toNat (j.val : Int) * 1) 10 && AV.isFlt (List.getD rareL (0 + Int.toNat (j.val : Int) * 1) AV.undef) && (decide ((0 : Int) ≤ (j.val : Int) ∧ (j.val : Int) < (10 : Int)) && true))) = true := by decide +kernel
  exact hc ⟨j, hj10⟩
def eRare : Entry := ⟨45, fun ys _ => match ys with
  | [.int k1 m] => bif decide (k1 = .i64) then some ⟨.flt (rareV m), [], true⟩ else none
  | _ => none⟩
theorem eRare_ok : EntryOK prog eRare := by
  intro ys n r h hok
  simp only [eRare] at h
  split at h
  · rename_i k1 m
    cases hk : decide (k1 = .i64) with
    | false => rw [hk] at h; cases h
    | true =>
      rw [hk] at h
      have := of_decide_eq_true hk
      subst this
      cases h
      exact con_rare m n
  · cases h

def esN2 : List Entry := [eNum, eRare] ++ esN1
theorem esN2_ok : ∀ e ∈ esN2, EntryOK prog e := by
  intro e he
  rcases List.mem_cons.1 he with rfl | he
  · exact eNum_ok
  rcases List.mem_cons.1 he with rfl | he
  · exact eRare_ok
  · exact esN1_ok e he
noncomputable abbrev CN2 : Ctx := ctx prog esN2 8
theorem ON2 : OrcOK CN2.P CN2.orc := ctx_ok mixed esN2_ok 8
end Try
end Go.Eng
/- The laws' own from-tos (envelopelaw2.Make): pieces. Condition: as each piece says. Written by wip/tools/kg.py. -/
namespace Go.Eng.Try
open Go Go.Eng Go.RowKit Go.Proofs.Try
theorem lMk0 (m k w : Int) (nb : Nat) (hok : ((wi w (5 : Int) == (0 : Int) && true)) = true) : Con prog 75 [.int .i64 m, .int .i64 k, .int .i64 w] nb (AV.agg [.flt (numV m k), .flt (numV m k)]) [] :=
  con_evF ON2 mixed (qs := [13,18,28,38]) (dec := [true]) (r := ⟨(AV.agg [.flt (numV m k), .flt (numV m k)]), [], (wi w (5 : Int) == (0 : Int) && true)⟩) (by kernel_rfl) hok
theorem lMk1 (m k w : Int) (nb : Nat) (hok : ((!nanB (numV w k) && (wi w (5 : Int) == (1 : Int) && (!wi w (5 : Int) == (0 : Int) && true)))) = true) : Con prog 75 [.int .i64 m, .int .i64 k, .int .i64 w] nb (AV.agg [.flt (numV m k), .flt (fadd (numV m k) (fabsB (numV w k)))]) [] :=
  con_evF ON2 mixed (qs := [13,18,28,38]) (dec := [false,true]) (r := ⟨(AV.agg [.flt (numV m k), .flt (fadd (numV m k) (fabsB (numV w k)))]), [], (!nanB (numV w k) && (wi w (5 : Int) == (1 : Int) && (!wi w (5 : Int) == (0 : Int) && true)))⟩) (by kernel_rfl) hok
theorem lMk2 (m k w : Int) (nb : Nat) (hok : ((!nanB (numV w m) && (!nanB (numV m k) && (wi w (5 : Int) == (2 : Int) && (!wi w (5 : Int) == (1 : Int) && (!wi w (5 : Int) == (0 : Int) && true)))))) = true) : Con prog 75 [.int .i64 m, .int .i64 k, .int .i64 w] nb (AV.agg [.flt (fsub 0 (fabsB (numV m k))), .flt (fabsB (numV w m))]) [] :=
  con_evF ON2 mixed (qs := [13,18,28,38]) (dec := [false,false,true]) (r := ⟨(AV.agg [.flt (fsub 0 (fabsB (numV m k))), .flt (fabsB (numV w m))]), [], (!nanB (numV w m) && (!nanB (numV m k) && (wi w (5 : Int) == (2 : Int) && (!wi w (5 : Int) == (1 : Int) && (!wi w (5 : Int) == (0 : Int) && true)))))⟩) (by kernel_rfl) hok
theorem lMk3 (m k w : Int) (nb : Nat) (hok : ((wi w (5 : Int) == (3 : Int) && (!wi w (5 : Int) == (2 : Int) && (!wi w (5 : Int) == (1 : Int) && (!wi w (5 : Int) == (0 : Int) && true))))) = true) : Con prog 75 [.int .i64 m, .int .i64 k, .int .i64 w] nb (AV.agg [.flt (fofint (IntKind.wrap IntKind.i64 (wi m (9 : Int) - (4 : Int)))), .flt (fofint (IntKind.wrap IntKind.i64 (IntKind.wrap IntKind.i64 (wi m (9 : Int) - (4 : Int)) + wi k (5 : Int))))]) [] :=
  con_evF ON2 mixed (qs := [13,18,28,38]) (dec := [false,false,false,true]) (r := ⟨(AV.agg [.flt (fofint (IntKind.wrap IntKind.i64 (wi m (9 : Int) - (4 : Int)))), .flt (fofint (IntKind.wrap IntKind.i64 (IntKind.wrap IntKind.i64 (wi m (9 : Int) - (4 : Int)) + wi k (5 : Int))))]), [], (wi w (5 : Int) == (3 : Int) && (!wi w (5 : Int) == (2 : Int) && (!wi w (5 : Int) == (1 : Int) && (!wi w (5 : Int) == (0 : Int) && true))))⟩) (by kernel_rfl) hok
theorem lMk4 (m k w : Int) (nb : Nat) (hok : ((!wi w (5 : Int) == (3 : Int) && (!wi w (5 : Int) == (2 : Int) && (!wi w (5 : Int) == (1 : Int) && (!wi w (5 : Int) == (0 : Int) && true))))) = true) : Con prog 75 [.int .i64 m, .int .i64 k, .int .i64 w] nb (AV.agg [.flt (numV m k), .flt (fadd (numV m k) 4607182418800017408)]) [] :=
  con_evF ON2 mixed (qs := [13,18,28,38]) (dec := [false,false,false,false]) (r := ⟨(AV.agg [.flt (numV m k), .flt (fadd (numV m k) 4607182418800017408)]), [], (!wi w (5 : Int) == (3 : Int) && (!wi w (5 : Int) == (2 : Int) && (!wi w (5 : Int) == (1 : Int) && (!wi w (5 : Int) == (0 : Int) && true))))⟩) (by kernel_rfl) hok
end Go.Eng.Try
/- The laws' own from-tos: contract; entries for fields of from-tos. Condition: as each entry says. Written by wip/tools/genU12.py. -/
namespace Go.Eng
open Go Go.RowKit Go.Eng.Try

def l2V (m k w : Int) : Nat × Nat :=
  bif wi w 5 == 0 then (numV m k, numV m k) else
  bif wi w 5 == 1 then (numV m k, fadd (numV m k) (fabsB (numV w k))) else
  bif wi w 5 == 2 then (fsub 0 (fabsB (numV m k)), fabsB (numV w m)) else
  bif wi w 5 == 3 then (fofint (IntKind.wrap IntKind.i64 (wi m 9 - 4)), fofint (IntKind.wrap IntKind.i64 (IntKind.wrap IntKind.i64 (wi m 9 - 4) + wi k 5))) else
  (numV m k, fadd (numV m k) 4607182418800017408)

/-- As many from-tos as variables. -/
def XsOkI (N : Nat) (xc : List AV) (lx : Nat) : Prop := lx = N ∧ ∃ xs, xc = ivL xs ∧ xs.length = N
def vRows (N nb : Nat) (xs : List (Nat × Nat)) (ops : List TOp) (outs : List Int) : List ABlk :=
  ⟨(List.range N).map (fun i => .slc (nb + (i + 1)) 0 N), 71⟩ :: (List.range N).map (fun i => ⟨ivRow N (jacD kI z2 N xs ops outs i), 26⟩)

namespace Try
open Go.Proofs.Try

theorem con_l2 (m k w : Int) (nb : Nat) : Con prog 75 [.int .i64 m, .int .i64 k, .int .i64 w] nb (ivV (l2V m k w)) [] := by
  unfold l2V
  have n1 := numV_num m k
  have n2 := numV_num w k
  have n3 := numV_num w m
  cases h0 : wi w 5 == 0 with
  | true => exact lMk0 m k w nb (by rw [h0]; rfl)
  | false =>
    cases h1 : wi w 5 == 1 with
    | true => exact lMk1 m k w nb (by rw [h0, h1, n2]; rfl)
    | false =>
      cases h2 : wi w 5 == 2 with
      | true => exact lMk2 m k w nb (by rw [h0, h1, h2, n1, n3]; rfl)
      | false =>
        cases h3 : wi w 5 == 3 with
        | true => exact lMk3 m k w nb (by rw [h0, h1, h2, h3]; rfl)
        | false => exact lMk4 m k w nb (by rw [h0, h1, h2, h3]; rfl)
def eL2 : Entry := ⟨75, fun ys _ => match ys with
  | [.int k1 m, .int k2 k, .int k3 w] => bif decide (k1 = .i64) && (decide (k2 = .i64) && decide (k3 = .i64)) then some ⟨ivV (l2V m k w), [], true⟩ else none
  | _ => none⟩
theorem eL2_ok : EntryOK prog eL2 := by
  intro ys n r h hok
  simp only [eL2] at h
  split at h
  · rename_i k1 m k2 k k3 w
    cases hk : (decide (k1 = .i64) && (decide (k2 = .i64) && decide (k3 = .i64))) with
    | false => rw [hk] at h; cases h
    | true =>
      rw [hk] at h
      simp only [Bool.and_eq_true, decide_eq_true_eq] at hk
      obtain ⟨rfl, rfl, rfl⟩ := hk
      cases h
      exact con_l2 m k w n
  · cases h

noncomputable def eVrun1 : Entry := ⟨109, fun ys nb => match ys with
  | [kk, .agg [.int k a, .snap oc m, .snap uc u], .snap xc lx] => some ⟨.slc nb 0 1, vRows 1 nb (unI xc) (unOps oc) (unInt uc), pb (kk = vKinds ∧ FldOk 1 k a oc m uc u ∧ XsOkI 1 xc lx)⟩
  | _ => none⟩
theorem eVrun1_ok : EntryOK prog eVrun1 := by
  intro ys n r h hok
  simp only [eVrun1] at h
  split at h
  · cases h
    obtain ⟨rfl, ⟨rfl, rfl, rfl, ops, outs, rfl, rfl, rfl, hm, ho, hu⟩, rfl, xs, rfl, hx⟩ := pb_is.1 hok
    rw [unI_iv, unOps_ops, unInt_int]
    have := con_vrun1 xs ops outs hm (by rw [hx]; exact ho) hu n
    rw [hx] at this
    exact this
  · cases h
noncomputable def eWjac1 : Entry := ⟨74, fun ys nb => match ys with
  | [.agg [.int k a, .snap oc m, .snap uc u], .snap xc lx] => some ⟨.slc nb 0 1, vRows 1 nb (unI xc) (unOps oc) (unInt uc), pb (FldOk 1 k a oc m uc u ∧ XsOkI 1 xc lx)⟩
  | _ => none⟩
theorem eWjac1_ok : EntryOK prog eWjac1 := by
  intro ys n r h hok
  simp only [eWjac1] at h
  split at h
  · cases h
    obtain ⟨⟨rfl, rfl, rfl, ops, outs, rfl, rfl, rfl, hm, ho, hu⟩, rfl, xs, rfl, hx⟩ := pb_is.1 hok
    rw [unI_iv, unOps_ops, unInt_int]
    have := con_wjac1 xs ops outs hm (by rw [hx]; exact ho) hx hu n
    rw [hx] at this
    exact this
  · cases h

noncomputable def eVrun2 : Entry := ⟨109, fun ys nb => match ys with
  | [kk, .agg [.int k a, .snap oc m, .snap uc u], .snap xc lx] => some ⟨.slc nb 0 2, vRows 2 nb (unI xc) (unOps oc) (unInt uc), pb (kk = vKinds ∧ FldOk 2 k a oc m uc u ∧ XsOkI 2 xc lx)⟩
  | _ => none⟩
theorem eVrun2_ok : EntryOK prog eVrun2 := by
  intro ys n r h hok
  simp only [eVrun2] at h
  split at h
  · cases h
    obtain ⟨rfl, ⟨rfl, rfl, rfl, ops, outs, rfl, rfl, rfl, hm, ho, hu⟩, rfl, xs, rfl, hx⟩ := pb_is.1 hok
    rw [unI_iv, unOps_ops, unInt_int]
    have := con_vrun2 xs ops outs hm (by rw [hx]; exact ho) hu n
    rw [hx] at this
    exact this
  · cases h
noncomputable def eWjac2 : Entry := ⟨74, fun ys nb => match ys with
  | [.agg [.int k a, .snap oc m, .snap uc u], .snap xc lx] => some ⟨.slc nb 0 2, vRows 2 nb (unI xc) (unOps oc) (unInt uc), pb (FldOk 2 k a oc m uc u ∧ XsOkI 2 xc lx)⟩
  | _ => none⟩
theorem eWjac2_ok : EntryOK prog eWjac2 := by
  intro ys n r h hok
  simp only [eWjac2] at h
  split at h
  · cases h
    obtain ⟨⟨rfl, rfl, rfl, ops, outs, rfl, rfl, rfl, hm, ho, hu⟩, rfl, xs, rfl, hx⟩ := pb_is.1 hok
    rw [unI_iv, unOps_ops, unInt_int]
    have := con_wjac2 xs ops outs hm (by rw [hx]; exact ho) hx hu n
    rw [hx] at this
    exact this
  · cases h

noncomputable def eVrun3 : Entry := ⟨109, fun ys nb => match ys with
  | [kk, .agg [.int k a, .snap oc m, .snap uc u], .snap xc lx] => some ⟨.slc nb 0 3, vRows 3 nb (unI xc) (unOps oc) (unInt uc), pb (kk = vKinds ∧ FldOk 3 k a oc m uc u ∧ XsOkI 3 xc lx)⟩
  | _ => none⟩
theorem eVrun3_ok : EntryOK prog eVrun3 := by
  intro ys n r h hok
  simp only [eVrun3] at h
  split at h
  · cases h
    obtain ⟨rfl, ⟨rfl, rfl, rfl, ops, outs, rfl, rfl, rfl, hm, ho, hu⟩, rfl, xs, rfl, hx⟩ := pb_is.1 hok
    rw [unI_iv, unOps_ops, unInt_int]
    have := con_vrun3 xs ops outs hm (by rw [hx]; exact ho) hu n
    rw [hx] at this
    exact this
  · cases h
noncomputable def eWjac3 : Entry := ⟨74, fun ys nb => match ys with
  | [.agg [.int k a, .snap oc m, .snap uc u], .snap xc lx] => some ⟨.slc nb 0 3, vRows 3 nb (unI xc) (unOps oc) (unInt uc), pb (FldOk 3 k a oc m uc u ∧ XsOkI 3 xc lx)⟩
  | _ => none⟩
theorem eWjac3_ok : EntryOK prog eWjac3 := by
  intro ys n r h hok
  simp only [eWjac3] at h
  split at h
  · cases h
    obtain ⟨⟨rfl, rfl, rfl, ops, outs, rfl, rfl, rfl, hm, ho, hu⟩, rfl, xs, rfl, hx⟩ := pb_is.1 hok
    rw [unI_iv, unOps_ops, unInt_int]
    have := con_wjac3 xs ops outs hm (by rw [hx]; exact ho) hx hu n
    rw [hx] at this
    exact this
  · cases h
end Try
end Go.Eng
/- JacAll, part 1: the law by pieces. Condition: as each piece says. Written by wip/tools/kg.py. -/
namespace Go.Eng.Try
open Go Go.Eng Go.RowKit Go.Proofs.Try
noncomputable def esA1 : List Entry := [eKnown4, eLmk1, eVals1, eJrun1, eEjac1, eVrun1, eWjac1, eSame, eL2] ++ esN2
noncomputable abbrev CA1 : Ctx := ctxD prog esA1 8 (shallow [56, 107, 63, 59, 109, 74])
theorem esA1_ok : ∀ e ∈ esA1, EntryOK prog e := by
  intro e he
  simp only [esA1, List.cons_append, List.nil_append, List.mem_cons] at he
  rcases he with rfl | rfl | rfl | rfl | rfl | rfl | rfl | rfl | rfl | he
  · exact eKnown4_ok
  · exact eLmk1_ok
  · exact eVals1_ok
  · exact eJrun1_ok
  · exact eEjac1_ok
  · exact eVrun1_ok
  · exact eWjac1_ok
  · exact eSame_ok
  · exact eL2_ok
  · exact esN2_ok e he
theorem OA1 : OrcOK CA1.P CA1.orc := ctxD_ok mixed esA1_ok 8 _

noncomputable def esA2 : List Entry := [eKnown4, eLmk2, eVals2, eJrun2, eEjac2, eVrun2, eWjac2, eSame, eL2] ++ esN2
noncomputable abbrev CA2 : Ctx := ctxD prog esA2 8 (shallow [56, 107, 63, 59, 109, 74])
theorem esA2_ok : ∀ e ∈ esA2, EntryOK prog e := by
  intro e he
  simp only [esA2, List.cons_append, List.nil_append, List.mem_cons] at he
  rcases he with rfl | rfl | rfl | rfl | rfl | rfl | rfl | rfl | rfl | he
  · exact eKnown4_ok
  · exact eLmk2_ok
  · exact eVals2_ok
  · exact eJrun2_ok
  · exact eEjac2_ok
  · exact eVrun2_ok
  · exact eWjac2_ok
  · exact eSame_ok
  · exact eL2_ok
  · exact esN2_ok e he
theorem OA2 : OrcOK CA2.P CA2.orc := ctxD_ok mixed esA2_ok 8 _

noncomputable def esA3 : List Entry := [eKnown4, eLmk3, eVals3, eJrun3, eEjac3, eVrun3, eWjac3, eSame, eL2] ++ esN2
noncomputable abbrev CA3 : Ctx := ctxD prog esA3 8 (shallow [56, 107, 63, 59, 109, 74])
theorem esA3_ok : ∀ e ∈ esA3, EntryOK prog e := by
  intro e he
  simp only [esA3, List.cons_append, List.nil_append, List.mem_cons] at he
  rcases he with rfl | rfl | rfl | rfl | rfl | rfl | rfl | rfl | rfl | he
  · exact eKnown4_ok
  · exact eLmk3_ok
  · exact eVals3_ok
  · exact eJrun3_ok
  · exact eEjac3_ok
  · exact eVrun3_ok
  · exact eWjac3_ok
  · exact eSame_ok
  · exact eL2_ok
  · exact esN2_ok e he
theorem OA3 : OrcOK CA3.P CA3.orc := ctxD_ok mixed esA3_ok 8 _

noncomputable def aaC : Code := codeOf prog 15
noncomputable def aaBody : Code := cL (cL (cR (cL (cR (cR (cR (cR (cR (cR aaC)))))))))

theorem aaA1 (n : Int) (ns : List AV) (ln : Nat) (d : Bool) (ms : List AV) (lm : Nat) (ra : List AV) (lr : Nat) (m k : Int) (w0 : World) (dec1 : List Bool) : Goes CA1 w0 85 (cL aaC) (St0 [.int .i64 n, .snap ns ln, .bool d, .snap ms lm, .snap ra lr, .int .i64 m, .int .i64 k] []) Ex.normal (mk [0,1,2,3,4,5,6] [.int .i64 n, .snap ns ln, .bool d, .snap ms lm, .snap ra lr, .int .i64 m, .int .i64 k] [] dec1) :=
  goes_viewK' OA1 mixed (qs := []) (fuel := 8) [] (by kernel_rfl) rfl dec1
theorem aaB1 (n : Int) (ns : List AV) (ln : Nat) (d : Bool) (ms : List AV) (lm : Nat) (ra : List AV) (lr : Nat) (m k : Int) (w0 : World) (dec0 dec1 : List Bool) : Goes CA1 w0 85 (cL (cR aaC)) (mk [0,1,2,3,4,5,6] [.int .i64 n, .snap ns ln, .bool d, .snap ms lm, .snap ra lr, .int .i64 m, .int .i64 k] [] dec0) Ex.normal (mk [0,1,2,3,4,5,6] [.int .i64 n, .snap ns ln, .bool d, .snap ms lm, .snap ra lr, .int .i64 m, .int .i64 k] [] dec1) :=
  goes_re (dec := []) (goes_viewK' OA1 mixed (qs := []) (fuel := 8) [] (by kernel_rfl) rfl dec1)
theorem aaD1 (n : Int) (ns : List AV) (ln : Nat) (d : Bool) (ms : List AV) (lm : Nat) (ra : List AV) (lr : Nat) (m k : Int) (w0 : World) (dec0 dec1 : List Bool) (hok : (((List.all (opsL (lmkOps n 1 d ns ln)) AV.noOwn) && true && (pb (IntKind.i64 = IntKind.i64 ∧ LmkOk ns ln ∧ wi n (3 : Int) + (1 : Int) = (1 : Int)) && true))) = true) : Goes CA1 w0 85 (cL (cR (cR aaC))) (mk [0,1,2,3,4,5,6] [.int .i64 n, .snap ns ln, .bool d, .snap ms lm, .snap ra lr, .int .i64 m, .int .i64 k] [] dec0) Ex.normal (mk [3,4,5,6,15] [.snap ms lm, .snap ra lr, .int .i64 m, .int .i64 k, .ptr 0 0] [ABlk.mk [.int .i64 1, .slc 1 0 (lmkM 1 ln), .slc 2 0 1] 53, ABlk.mk (opsL (lmkOps n 1 d ns ln)) 57, ABlk.mk [.int .i64 (IntKind.wrap IntKind.i64 (IntKind.wrap IntKind.i64 ((↑(lmkM 1 ln) : Int) - (1 : Int)) - wi (IntKind.wrap IntKind.i64 (IntKind.wrap IntKind.i64 (Int.tdiv n (3 : Int)) + (0 : Int))) (min3 (lmkM 1 ln))))] 3] dec1) :=
  goes_re (dec := []) (goes_viewK' OA1 mixed (qs := []) (fuel := 8) [.lit, .flat, .flat] (by kernel_rfl) hok dec1)
theorem aaE1 (ms : List AV) (lm : Nat) (ra : List AV) (lr : Nat) (m k : Int) (ops : List TOp) (M : Nat) (u0 : Int) (w0 : World) (dec0 dec1 : List Bool) (hok : (((List.all (opsL ops) AV.noOwn) && true && (pb (IntKind.i64 = IntKind.i64 ∧ (1 : Int) = (1 : Int) ∧ LmkOk ms lm) && true))) = true) : Goes CA1 w0 85 (cL (cR (cR (cR aaC)))) (mk [3,4,5,6,15] [.snap ms lm, .snap ra lr, .int .i64 m, .int .i64 k, .ptr 0 0] [⟨[.int .i64 1, .slc 1 0 M, .slc 2 0 1], 53⟩, ⟨opsL ops, 57⟩, ⟨[.int .i64 u0], 3⟩] dec0) Ex.normal (mk [4,5,6,15,16] [.snap ra lr, .int .i64 m, .int .i64 k, .ptr 0 0, .slc 3 0 1] [ABlk.mk [.int .i64 1, .slc 1 0 M, .slc 2 0 1] 53, ABlk.mk (opsL ops) 57, ABlk.mk [.int .i64 u0] 3, ABlk.mk [.flt (valV ms lm 0)] 24] dec1) :=
  goes_re (dec := []) (goes_viewK' OA1 mixed (qs := []) (fuel := 8) [.lit, .flat, .lit, .lit] (by kernel_rfl) hok dec1)
theorem aaF1 (ra : List AV) (lr : Nat) (m k : Int) (ops : List TOp) (M : Nat) (u0 : Int) (f0 : Nat) (w0 : World) (dec0 dec1 : List Bool) (hok : (((List.all (opsL ops) AV.noOwn) && true && (decide (List.getD (jacD kF 0 1 [f0] (unOps (opsL ops)) (unInt [.int .i64 u0]) 0) 0 0 = List.getD (jacD kF 0 1 [f0] (unOps (opsL ops)) (unInt [.int .i64 u0]) 0) 0 0) && true && true && (List.all (opsL ops) AV.noOwn && true && true && pb (FldOk 1 IntKind.i64 1 (opsL ops) M [.int .i64 u0] 1 ∧ XsOk 1 [.flt f0] 1) && (List.all (opsL ops) AV.noOwn && true && true && (pb (AV.agg [.fn 149 [] [], .fn 150 [] [], .fn 151 [] [], .fn 152 [] [], .fn 153 [] []] = AV.agg [.fn 149 [] [], .fn 150 [] [], .fn 151 [] [], .fn 152 [] [], .fn 153 [] []] ∧ FldOk 1 IntKind.i64 1 (opsL ops) M [.int .i64 u0] 1 ∧ XsOk 1 [.flt f0] 1) && true) && true))))) = true) : Goes CA1 w0 85 (cL (cR (cR (cR (cR aaC))))) (mk [4,5,6,15,16] [.snap ra lr, .int .i64 m, .int .i64 k, .ptr 0 0, .slc 3 0 1] [⟨[.int .i64 1, .slc 1 0 M, .slc 2 0 1], 53⟩, ⟨opsL ops, 57⟩, ⟨[.int .i64 u0], 3⟩, ⟨[.flt f0], 24⟩] dec0) Ex.normal (mk [4,5,6,15,16] [.snap ra lr, .int .i64 m, .int .i64 k, .ptr 0 0, .slc 3 0 1] [ABlk.mk [.int .i64 1, .slc 1 0 M, .slc 2 0 1] 53, ABlk.mk (opsL ops) 57, ABlk.mk [.int .i64 u0] 3, ABlk.mk [.flt f0] 24] dec1) :=
  goes_re (dec := []) (goes_viewK' OA1 mixed (qs := []) (fuel := 8) [.lit, .flat, .lit, .lit] (by kernel_rfl) hok dec1)
theorem aaG1 (ra : List AV) (lr : Nat) (m k : Int) (ops : List TOp) (M : Nat) (u0 : Int) (f0 : Nat) (w0 : World) (dec0 dec1 : List Bool) (hok : (((List.all (opsL ops) AV.noOwn) && true && true)) = true) : Goes CA1 w0 85 (cL (cR (cR (cR (cR (cR aaC)))))) (mk [4,5,6,15,16] [.snap ra lr, .int .i64 m, .int .i64 k, .ptr 0 0, .slc 3 0 1] [⟨[.int .i64 1, .slc 1 0 M, .slc 2 0 1], 53⟩, ⟨opsL ops, 57⟩, ⟨[.int .i64 u0], 3⟩, ⟨[.flt f0], 24⟩] dec0) Ex.normal (mk [4,5,6,15,16,17] [.snap ra lr, .int .i64 m, .int .i64 k, .ptr 0 0, .slc 3 0 1, .nils] [ABlk.mk [.int .i64 1, .slc 1 0 M, .slc 2 0 1] 53, ABlk.mk (opsL ops) 57, ABlk.mk [.int .i64 u0] 3, ABlk.mk [.flt f0] 24] dec1) :=
  goes_re (dec := []) (goes_viewK' OA1 mixed (qs := []) (fuel := 8) [.lit, .flat, .lit, .lit] (by kernel_rfl) hok dec1)
theorem aaH1 (ra : List AV) (lr : Nat) (m k : Int) (ops : List TOp) (M : Nat) (u0 : Int) (f0 : Nat) (w0 : World) (dec0 dec1 : List Bool) (hok : (((List.all (opsL ops) AV.noOwn) && true && true)) = true) : Goes CA1 w0 85 (cL (cL (cR (cR (cR (cR (cR (cR aaC)))))))) (mk [4,5,6,15,16,17] [.snap ra lr, .int .i64 m, .int .i64 k, .ptr 0 0, .slc 3 0 1, .nils] [⟨[.int .i64 1, .slc 1 0 M, .slc 2 0 1], 53⟩, ⟨opsL ops, 57⟩, ⟨[.int .i64 u0], 3⟩, ⟨[.flt f0], 24⟩] dec0) Ex.normal (mk [4,5,6,15,16,17,18] [.snap ra lr, .int .i64 m, .int .i64 k, .ptr 0 0, .slc 3 0 1, .nils, .int .i64 0] [ABlk.mk [.int .i64 1, .slc 1 0 M, .slc 2 0 1] 53, ABlk.mk (opsL ops) 57, ABlk.mk [.int .i64 u0] 3, ABlk.mk [.flt f0] 24] dec1) :=
  goes_re (dec := []) (goes_viewK' OA1 mixed (qs := []) (fuel := 8) [.lit, .flat, .lit, .lit] (by kernel_rfl) hok dec1)
theorem aaI1_0n (ra : List AV) (lr : Nat) (m k : Int) (ops : List TOp) (M : Nat) (u0 : Int) (f0 : Nat) (w0 : World) (dec0 dec1 : List Bool) (hok : (((List.all (opsL ops) AV.noOwn) && true && (!decide ((0 : Int) < (↑lr : Int)) && true))) = true) : Goes CA1 w0 85 (aaBody) (mk [4,5,6,15,16,17,18] [.snap ra lr, .int .i64 m, .int .i64 k, .ptr 0 0, .slc 3 0 1, .nils, .int .i64 0] [⟨[.int .i64 1, .slc 1 0 M, .slc 2 0 1], 53⟩, ⟨opsL ops, 57⟩, ⟨[.int .i64 u0], 3⟩, ⟨[.flt f0], 24⟩] dec0) Ex.normal (mk [4,5,6,15,16,17,18] [.snap ra lr, .int .i64 m, .int .i64 k, .ptr 0 0, .slc 3 0 1, .slc 4 0 1, .int .i64 1] [ABlk.mk [.int .i64 1, .slc 1 0 M, .slc 2 0 1] 53, ABlk.mk (opsL ops) 57, ABlk.mk [.int .i64 u0] 3, ABlk.mk [.flt f0] 24, ABlk.mk [.flt (Prod.fst (l2V (IntKind.wrap IntKind.i64 (m + (0 : Int))) k (3 : Int))), .flt (Prod.snd (l2V (IntKind.wrap IntKind.i64 (m + (0 : Int))) k (3 : Int)))] 26] dec1) :=
  goes_re (dec := [false]) (goes_viewK' OA1 mixed (qs := [47,54]) (fuel := 8) [.lit, .flat, .lit, .lit] (by kernel_rfl) hok dec1)
theorem aaI1_0f (ra : List AV) (lr : Nat) (m k : Int) (ops : List TOp) (M : Nat) (u0 : Int) (f0 : Nat) (w0 : World) (dec0 dec1 : List Bool) (hok : (((List.all (opsL ops) AV.noOwn) && true && (!wi (AV.toInt (List.getD ra 0 .undef)) (5 : Int) == (0 : Int) && (Nat.blt 0 (List.length ra) && AV.isInt IntKind.i64 (List.getD ra 0 .undef) && (decide ((0 : Int) ≤ (0 : Int) ∧ (0 : Int) < (↑lr : Int)) && (decide ((0 : Int) < (↑lr : Int)) && true)))))) = true) : Goes CA1 w0 85 (aaBody) (mk [4,5,6,15,16,17,18] [.snap ra lr, .int .i64 m, .int .i64 k, .ptr 0 0, .slc 3 0 1, .nils, .int .i64 0] [⟨[.int .i64 1, .slc 1 0 M, .slc 2 0 1], 53⟩, ⟨opsL ops, 57⟩, ⟨[.int .i64 u0], 3⟩, ⟨[.flt f0], 24⟩] dec0) Ex.normal (mk [4,5,6,15,16,17,18] [.snap ra lr, .int .i64 m, .int .i64 k, .ptr 0 0, .slc 3 0 1, .slc 4 0 1, .int .i64 1] [ABlk.mk [.int .i64 1, .slc 1 0 M, .slc 2 0 1] 53, ABlk.mk (opsL ops) 57, ABlk.mk [.int .i64 u0] 3, ABlk.mk [.flt f0] 24, ABlk.mk [.flt (Prod.fst (l2V (IntKind.wrap IntKind.i64 (m + (0 : Int))) k (AV.toInt (List.getD ra 0 .undef)))), .flt (Prod.snd (l2V (IntKind.wrap IntKind.i64 (m + (0 : Int))) k (AV.toInt (List.getD ra 0 .undef))))] 26] dec1) :=
  goes_re (dec := [true,false]) (goes_viewK' OA1 mixed (qs := [47,54]) (fuel := 8) [.lit, .flat, .lit, .lit] (by kernel_rfl) hok dec1)
theorem aaI1_0t (ra : List AV) (lr : Nat) (m k : Int) (ops : List TOp) (M : Nat) (u0 : Int) (f0 : Nat) (w0 : World) (dec0 dec1 : List Bool) (hok : (((List.all (opsL ops) AV.noOwn) && true && (wi (AV.toInt (List.getD ra 0 .undef)) (5 : Int) == (0 : Int) && (Nat.blt 0 (List.length ra) && AV.isInt IntKind.i64 (List.getD ra 0 .undef) && (decide ((0 : Int) ≤ (0 : Int) ∧ (0 : Int) < (↑lr : Int)) && (decide ((0 : Int) < (↑lr : Int)) && true)))))) = true) : Goes CA1 w0 85 (aaBody) (mk [4,5,6,15,16,17,18] [.snap ra lr, .int .i64 m, .int .i64 k, .ptr 0 0, .slc 3 0 1, .nils, .int .i64 0] [⟨[.int .i64 1, .slc 1 0 M, .slc 2 0 1], 53⟩, ⟨opsL ops, 57⟩, ⟨[.int .i64 u0], 3⟩, ⟨[.flt f0], 24⟩] dec0) Ex.normal (mk [4,5,6,15,16,17,18] [.snap ra lr, .int .i64 m, .int .i64 k, .ptr 0 0, .slc 3 0 1, .slc 4 0 1, .int .i64 1] [ABlk.mk [.int .i64 1, .slc 1 0 M, .slc 2 0 1] 53, ABlk.mk (opsL ops) 57, ABlk.mk [.int .i64 u0] 3, ABlk.mk [.flt (rareV (AV.toInt (List.getD ra 0 .undef)))] 24, ABlk.mk [.flt (Prod.fst (l2V (IntKind.wrap IntKind.i64 (m + (0 : Int))) k (AV.toInt (List.getD ra 0 .undef)))), .flt (Prod.snd (l2V (IntKind.wrap IntKind.i64 (m + (0 : Int))) k (AV.toInt (List.getD ra 0 .undef))))] 26] dec1) :=
  goes_re (dec := [true,true]) (goes_viewK' OA1 mixed (qs := [47,54]) (fuel := 8) [.lit, .flat, .lit, .lit] (by kernel_rfl) hok dec1)
theorem aaX1 (ra : List AV) (lr : Nat) (m k : Int) (ops : List TOp) (M : Nat) (u0 : Int) (f0 : Nat) (b0 : Nat × Nat) (w0 : World) (dec0 dec1 : List Bool) (hok : (((List.all (opsL ops) AV.noOwn) && true && true)) = true) : Goes CA1 w0 85 (aaBody) (mk [4,5,6,15,16,17,18] [.snap ra lr, .int .i64 m, .int .i64 k, .ptr 0 0, .slc 3 0 1, .slc 4 0 1, .int .i64 1] [⟨[.int .i64 1, .slc 1 0 M, .slc 2 0 1], 53⟩, ⟨opsL ops, 57⟩, ⟨[.int .i64 u0], 3⟩, ⟨[.flt f0], 24⟩, ⟨[.flt b0.1, .flt b0.2], 26⟩] dec0) (Ex.exit 0) (mk [15,16,17] [.ptr 0 0, .slc 3 0 1, .slc 4 0 1] [ABlk.mk [.int .i64 1, .slc 1 0 M, .slc 2 0 1] 53, ABlk.mk (opsL ops) 57, ABlk.mk [.int .i64 u0] 3, ABlk.mk [.flt f0] 24, ABlk.mk [.flt (Prod.fst b0), .flt (Prod.snd b0)] 26] dec1) :=
  goes_re (dec := []) (goes_viewK' OA1 mixed (qs := [47,54]) (fuel := 8) [.lit, .flat, .lit, .lit] (by kernel_rfl) hok dec1)
theorem aaZ1 (ops : List TOp) (M : Nat) (u0 : Int) (f0 : Nat) (b0 : Nat × Nat) (w0 : World) (dec0 dec1 : List Bool) (hok : ((decide (Prod.snd (List.getD (jacD kI z2 1 (unI [.flt (Prod.fst b0), .flt (Prod.snd b0)]) (unOps (opsL ops)) (unInt [.int .i64 u0]) 0) 0 z2) = Prod.snd (List.getD (jacD kI z2 1 (unI [.flt (Prod.fst b0), .flt (Prod.snd b0)]) (unOps (opsL ops)) (unInt [.int .i64 u0]) 0) 0 z2)) && (decide (Prod.fst (List.getD (jacD kI z2 1 (unI [.flt (Prod.fst b0), .flt (Prod.snd b0)]) (unOps (opsL ops)) (unInt [.int .i64 u0]) 0) 0 z2) = Prod.fst (List.getD (jacD kI z2 1 (unI [.flt (Prod.fst b0), .flt (Prod.snd b0)]) (unOps (opsL ops)) (unInt [.int .i64 u0]) 0) 0 z2)) && true) && true && true && (List.all (opsL ops) AV.noOwn && true && true && pb (FldOk 1 IntKind.i64 1 (opsL ops) M [.int .i64 u0] 1 ∧ XsOkI 1 [.flt (Prod.fst b0), .flt (Prod.snd b0)] 1) && (List.all (opsL ops) AV.noOwn && true && true && (pb (AV.agg [.fn 156 [] [], .fn 20 [] [], .fn 21 [] [], .fn 22 [] [], .fn 138 [] []] = AV.agg [.fn 156 [] [], .fn 20 [] [], .fn 21 [] [], .fn 22 [] [], .fn 138 [] []] ∧ FldOk 1 IntKind.i64 1 (opsL ops) M [.int .i64 u0] 1 ∧ XsOkI 1 [.flt (Prod.fst b0), .flt (Prod.snd b0)] 1) && true) && (decide (List.getD (jacD kF 0 1 [f0] (unOps (opsL ops)) (unInt [.int .i64 u0]) 0) 0 0 = List.getD (jacD kF 0 1 [f0] (unOps (opsL ops)) (unInt [.int .i64 u0]) 0) 0 0) && true && true && (List.all (opsL ops) AV.noOwn && true && true && pb (FldOk 1 IntKind.i64 1 (opsL ops) M [.int .i64 u0] 1 ∧ XsOk 1 [.flt f0] 1) && (List.all (opsL ops) AV.noOwn && true && true && (pb (AV.agg [.fn 149 [] [], .fn 150 [] [], .fn 151 [] [], .fn 152 [] [], .fn 153 [] []] = AV.agg [.fn 149 [] [], .fn 150 [] [], .fn 151 [] [], .fn 152 [] [], .fn 153 [] []] ∧ FldOk 1 IntKind.i64 1 (opsL ops) M [.int .i64 u0] 1 ∧ XsOk 1 [.flt f0] 1) && true) && true))))))) = true) : Goes CA1 w0 85 (cR (cR (cR (cR (cR (cR (cR aaC))))))) (mk [15,16,17] [.ptr 0 0, .slc 3 0 1, .slc 4 0 1] [⟨[.int .i64 1, .slc 1 0 M, .slc 2 0 1], 53⟩, ⟨opsL ops, 57⟩, ⟨[.int .i64 u0], 3⟩, ⟨[.flt f0], 24⟩, ⟨[.flt b0.1, .flt b0.2], 26⟩] dec0) Ex.ret (mk [14] [.bool true] [] dec1) :=
  goes_re (dec := []) (goes_viewK' OA1 mixed (qs := []) (fuel := 8) [] (by kernel_rfl) hok dec1)
theorem aaA2 (n : Int) (ns : List AV) (ln : Nat) (d : Bool) (ms : List AV) (lm : Nat) (ra : List AV) (lr : Nat) (m k : Int) (w0 : World) (dec1 : List Bool) : Goes CA2 w0 85 (cL aaC) (St0 [.int .i64 n, .snap ns ln, .bool d, .snap ms lm, .snap ra lr, .int .i64 m, .int .i64 k] []) Ex.normal (mk [0,1,2,3,4,5,6] [.int .i64 n, .snap ns ln, .bool d, .snap ms lm, .snap ra lr, .int .i64 m, .int .i64 k] [] dec1) :=
  goes_viewK' OA2 mixed (qs := []) (fuel := 8) [] (by kernel_rfl) rfl dec1
theorem aaB2 (n : Int) (ns : List AV) (ln : Nat) (d : Bool) (ms : List AV) (lm : Nat) (ra : List AV) (lr : Nat) (m k : Int) (w0 : World) (dec0 dec1 : List Bool) : Goes CA2 w0 85 (cL (cR aaC)) (mk [0,1,2,3,4,5,6] [.int .i64 n, .snap ns ln, .bool d, .snap ms lm, .snap ra lr, .int .i64 m, .int .i64 k] [] dec0) Ex.normal (mk [0,1,2,3,4,5,6] [.int .i64 n, .snap ns ln, .bool d, .snap ms lm, .snap ra lr, .int .i64 m, .int .i64 k] [] dec1) :=
  goes_re (dec := []) (goes_viewK' OA2 mixed (qs := []) (fuel := 8) [] (by kernel_rfl) rfl dec1)
theorem aaD2 (n : Int) (ns : List AV) (ln : Nat) (d : Bool) (ms : List AV) (lm : Nat) (ra : List AV) (lr : Nat) (m k : Int) (w0 : World) (dec0 dec1 : List Bool) (hok : (((List.all (opsL (lmkOps n 2 d ns ln)) AV.noOwn) && true && (pb (IntKind.i64 = IntKind.i64 ∧ LmkOk ns ln ∧ wi n (3 : Int) + (1 : Int) = (2 : Int)) && true))) = true) : Goes CA2 w0 85 (cL (cR (cR aaC))) (mk [0,1,2,3,4,5,6] [.int .i64 n, .snap ns ln, .bool d, .snap ms lm, .snap ra lr, .int .i64 m, .int .i64 k] [] dec0) Ex.normal (mk [3,4,5,6,15] [.snap ms lm, .snap ra lr, .int .i64 m, .int .i64 k, .ptr 0 0] [ABlk.mk [.int .i64 2, .slc 1 0 (lmkM 2 ln), .slc 2 0 2] 53, ABlk.mk (opsL (lmkOps n 2 d ns ln)) 57, ABlk.mk [.int .i64 (IntKind.wrap IntKind.i64 (IntKind.wrap IntKind.i64 ((↑(lmkM 2 ln) : Int) - (1 : Int)) - wi (IntKind.wrap IntKind.i64 (IntKind.wrap IntKind.i64 (Int.tdiv n (3 : Int)) + (0 : Int))) (min3 (lmkM 2 ln)))), .int .i64 (IntKind.wrap IntKind.i64 (IntKind.wrap IntKind.i64 ((↑(lmkM 2 ln) : Int) - (1 : Int)) - wi (IntKind.wrap IntKind.i64 (IntKind.wrap IntKind.i64 (Int.tdiv n (3 : Int)) + (1 : Int))) (min3 (lmkM 2 ln))))] 3] dec1) :=
  goes_re (dec := []) (goes_viewK' OA2 mixed (qs := []) (fuel := 8) [.lit, .flat, .flat] (by kernel_rfl) hok dec1)
theorem aaE2 (ms : List AV) (lm : Nat) (ra : List AV) (lr : Nat) (m k : Int) (ops : List TOp) (M : Nat) (u0 u1 : Int) (w0 : World) (dec0 dec1 : List Bool) (hok : (((List.all (opsL ops) AV.noOwn) && true && (pb (IntKind.i64 = IntKind.i64 ∧ (2 : Int) = (2 : Int) ∧ LmkOk ms lm) && true))) = true) : Goes CA2 w0 85 (cL (cR (cR (cR aaC)))) (mk [3,4,5,6,15] [.snap ms lm, .snap ra lr, .int .i64 m, .int .i64 k, .ptr 0 0] [⟨[.int .i64 2, .slc 1 0 M, .slc 2 0 2], 53⟩, ⟨opsL ops, 57⟩, ⟨[.int .i64 u0, .int .i64 u1], 3⟩] dec0) Ex.normal (mk [4,5,6,15,16] [.snap ra lr, .int .i64 m, .int .i64 k, .ptr 0 0, .slc 3 0 2] [ABlk.mk [.int .i64 2, .slc 1 0 M, .slc 2 0 2] 53, ABlk.mk (opsL ops) 57, ABlk.mk [.int .i64 u0, .int .i64 u1] 3, ABlk.mk [.flt (valV ms lm 0), .flt (valV ms lm 1)] 24] dec1) :=
  goes_re (dec := []) (goes_viewK' OA2 mixed (qs := []) (fuel := 8) [.lit, .flat, .lit, .lit] (by kernel_rfl) hok dec1)
theorem aaF2 (ra : List AV) (lr : Nat) (m k : Int) (ops : List TOp) (M : Nat) (u0 u1 : Int) (f0 f1 : Nat) (w0 : World) (dec0 dec1 : List Bool) (hok : (((List.all (opsL ops) AV.noOwn) && true && (decide (List.getD (jacD kF 0 2 [f0, f1] (unOps (opsL ops)) (unInt [.int .i64 u0, .int .i64 u1]) 1) 1 0 = List.getD (jacD kF 0 2 [f0, f1] (unOps (opsL ops)) (unInt [.int .i64 u0, .int .i64 u1]) 1) 1 0) && (decide (List.getD (jacD kF 0 2 [f0, f1] (unOps (opsL ops)) (unInt [.int .i64 u0, .int .i64 u1]) 1) 0 0 = List.getD (jacD kF 0 2 [f0, f1] (unOps (opsL ops)) (unInt [.int .i64 u0, .int .i64 u1]) 1) 0 0) && true) && (decide (List.getD (jacD kF 0 2 [f0, f1] (unOps (opsL ops)) (unInt [.int .i64 u0, .int .i64 u1]) 0) 1 0 = List.getD (jacD kF 0 2 [f0, f1] (unOps (opsL ops)) (unInt [.int .i64 u0, .int .i64 u1]) 0) 1 0) && (decide (List.getD (jacD kF 0 2 [f0, f1] (unOps (opsL ops)) (unInt [.int .i64 u0, .int .i64 u1]) 0) 0 0 = List.getD (jacD kF 0 2 [f0, f1] (unOps (opsL ops)) (unInt [.int .i64 u0, .int .i64 u1]) 0) 0 0) && true) && true) && (List.all (opsL ops) AV.noOwn && true && true && pb (FldOk 2 IntKind.i64 2 (opsL ops) M [.int .i64 u0, .int .i64 u1] 2 ∧ XsOk 2 [.flt f0, .flt f1] 2) && (List.all (opsL ops) AV.noOwn && true && true && (pb (AV.agg [.fn 149 [] [], .fn 150 [] [], .fn 151 [] [], .fn 152 [] [], .fn 153 [] []] = AV.agg [.fn 149 [] [], .fn 150 [] [], .fn 151 [] [], .fn 152 [] [], .fn 153 [] []] ∧ FldOk 2 IntKind.i64 2 (opsL ops) M [.int .i64 u0, .int .i64 u1] 2 ∧ XsOk 2 [.flt f0, .flt f1] 2) && true) && true))))) = true) : Goes CA2 w0 85 (cL (cR (cR (cR (cR aaC))))) (mk [4,5,6,15,16] [.snap ra lr, .int .i64 m, .int .i64 k, .ptr 0 0, .slc 3 0 2] [⟨[.int .i64 2, .slc 1 0 M, .slc 2 0 2], 53⟩, ⟨opsL ops, 57⟩, ⟨[.int .i64 u0, .int .i64 u1], 3⟩, ⟨[.flt f0, .flt f1], 24⟩] dec0) Ex.normal (mk [4,5,6,15,16] [.snap ra lr, .int .i64 m, .int .i64 k, .ptr 0 0, .slc 3 0 2] [ABlk.mk [.int .i64 2, .slc 1 0 M, .slc 2 0 2] 53, ABlk.mk (opsL ops) 57, ABlk.mk [.int .i64 u0, .int .i64 u1] 3, ABlk.mk [.flt f0, .flt f1] 24] dec1) :=
  goes_re (dec := []) (goes_viewK' OA2 mixed (qs := []) (fuel := 8) [.lit, .flat, .lit, .lit] (by kernel_rfl) hok dec1)
theorem aaG2 (ra : List AV) (lr : Nat) (m k : Int) (ops : List TOp) (M : Nat) (u0 u1 : Int) (f0 f1 : Nat) (w0 : World) (dec0 dec1 : List Bool) (hok : (((List.all (opsL ops) AV.noOwn) && true && true)) = true) : Goes CA2 w0 85 (cL (cR (cR (cR (cR (cR aaC)))))) (mk [4,5,6,15,16] [.snap ra lr, .int .i64 m, .int .i64 k, .ptr 0 0, .slc 3 0 2] [⟨[.int .i64 2, .slc 1 0 M, .slc 2 0 2], 53⟩, ⟨opsL ops, 57⟩, ⟨[.int .i64 u0, .int .i64 u1], 3⟩, ⟨[.flt f0, .flt f1], 24⟩] dec0) Ex.normal (mk [4,5,6,15,16,17] [.snap ra lr, .int .i64 m, .int .i64 k, .ptr 0 0, .slc 3 0 2, .nils] [ABlk.mk [.int .i64 2, .slc 1 0 M, .slc 2 0 2] 53, ABlk.mk (opsL ops) 57, ABlk.mk [.int .i64 u0, .int .i64 u1] 3, ABlk.mk [.flt f0, .flt f1] 24] dec1) :=
  goes_re (dec := []) (goes_viewK' OA2 mixed (qs := []) (fuel := 8) [.lit, .flat, .lit, .lit] (by kernel_rfl) hok dec1)
theorem aaH2 (ra : List AV) (lr : Nat) (m k : Int) (ops : List TOp) (M : Nat) (u0 u1 : Int) (f0 f1 : Nat) (w0 : World) (dec0 dec1 : List Bool) (hok : (((List.all (opsL ops) AV.noOwn) && true && true)) = true) : Goes CA2 w0 85 (cL (cL (cR (cR (cR (cR (cR (cR aaC)))))))) (mk [4,5,6,15,16,17] [.snap ra lr, .int .i64 m, .int .i64 k, .ptr 0 0, .slc 3 0 2, .nils] [⟨[.int .i64 2, .slc 1 0 M, .slc 2 0 2], 53⟩, ⟨opsL ops, 57⟩, ⟨[.int .i64 u0, .int .i64 u1], 3⟩, ⟨[.flt f0, .flt f1], 24⟩] dec0) Ex.normal (mk [4,5,6,15,16,17,18] [.snap ra lr, .int .i64 m, .int .i64 k, .ptr 0 0, .slc 3 0 2, .nils, .int .i64 0] [ABlk.mk [.int .i64 2, .slc 1 0 M, .slc 2 0 2] 53, ABlk.mk (opsL ops) 57, ABlk.mk [.int .i64 u0, .int .i64 u1] 3, ABlk.mk [.flt f0, .flt f1] 24] dec1) :=
  goes_re (dec := []) (goes_viewK' OA2 mixed (qs := []) (fuel := 8) [.lit, .flat, .lit, .lit] (by kernel_rfl) hok dec1)
theorem aaI2_0n (ra : List AV) (lr : Nat) (m k : Int) (ops : List TOp) (M : Nat) (u0 u1 : Int) (f0 f1 : Nat) (w0 : World) (dec0 dec1 : List Bool) (hok : (((List.all (opsL ops) AV.noOwn) && true && (!decide ((0 : Int) < (↑lr : Int)) && true))) = true) : Goes CA2 w0 85 (aaBody) (mk [4,5,6,15,16,17,18] [.snap ra lr, .int .i64 m, .int .i64 k, .ptr 0 0, .slc 3 0 2, .nils, .int .i64 0] [⟨[.int .i64 2, .slc 1 0 M, .slc 2 0 2], 53⟩, ⟨opsL ops, 57⟩, ⟨[.int .i64 u0, .int .i64 u1], 3⟩, ⟨[.flt f0, .flt f1], 24⟩] dec0) Ex.normal (mk [4,5,6,15,16,17,18] [.snap ra lr, .int .i64 m, .int .i64 k, .ptr 0 0, .slc 3 0 2, .slc 4 0 1, .int .i64 1] [ABlk.mk [.int .i64 2, .slc 1 0 M, .slc 2 0 2] 53, ABlk.mk (opsL ops) 57, ABlk.mk [.int .i64 u0, .int .i64 u1] 3, ABlk.mk [.flt f0, .flt f1] 24, ABlk.mk [.flt (Prod.fst (l2V (IntKind.wrap IntKind.i64 (m + (0 : Int))) k (3 : Int))), .flt (Prod.snd (l2V (IntKind.wrap IntKind.i64 (m + (0 : Int))) k (3 : Int)))] 26] dec1) :=
  goes_re (dec := [false]) (goes_viewK' OA2 mixed (qs := [47,54]) (fuel := 8) [.lit, .flat, .lit, .lit] (by kernel_rfl) hok dec1)
theorem aaI2_0f (ra : List AV) (lr : Nat) (m k : Int) (ops : List TOp) (M : Nat) (u0 u1 : Int) (f0 f1 : Nat) (w0 : World) (dec0 dec1 : List Bool) (hok : (((List.all (opsL ops) AV.noOwn) && true && (!wi (AV.toInt (List.getD ra 0 .undef)) (5 : Int) == (0 : Int) && (Nat.blt 0 (List.length ra) && AV.isInt IntKind.i64 (List.getD ra 0 .undef) && (decide ((0 : Int) ≤ (0 : Int) ∧ (0 : Int) < (↑lr : Int)) && (decide ((0 : Int) < (↑lr : Int)) && true)))))) = true) : Goes CA2 w0 85 (aaBody) (mk [4,5,6,15,16,17,18] [.snap ra lr, .int .i64 m, .int .i64 k, .ptr 0 0, .slc 3 0 2, .nils, .int .i64 0] [⟨[.int .i64 2, .slc 1 0 M, .slc 2 0 2], 53⟩, ⟨opsL ops, 57⟩, ⟨[.int .i64 u0, .int .i64 u1], 3⟩, ⟨[.flt f0, .flt f1], 24⟩] dec0) Ex.normal (mk [4,5,6,15,16,17,18] [.snap ra lr, .int .i64 m, .int .i64 k, .ptr 0 0, .slc 3 0 2, .slc 4 0 1, .int .i64 1] [ABlk.mk [.int .i64 2, .slc 1 0 M, .slc 2 0 2] 53, ABlk.mk (opsL ops) 57, ABlk.mk [.int .i64 u0, .int .i64 u1] 3, ABlk.mk [.flt f0, .flt f1] 24, ABlk.mk [.flt (Prod.fst (l2V (IntKind.wrap IntKind.i64 (m + (0 : Int))) k (AV.toInt (List.getD ra 0 .undef)))), .flt (Prod.snd (l2V (IntKind.wrap IntKind.i64 (m + (0 : Int))) k (AV.toInt (List.getD ra 0 .undef))))] 26] dec1) :=
  goes_re (dec := [true,false]) (goes_viewK' OA2 mixed (qs := [47,54]) (fuel := 8) [.lit, .flat, .lit, .lit] (by kernel_rfl) hok dec1)
theorem aaI2_0t (ra : List AV) (lr : Nat) (m k : Int) (ops : List TOp) (M : Nat) (u0 u1 : Int) (f0 f1 : Nat) (w0 : World) (dec0 dec1 : List Bool) (hok : (((List.all (opsL ops) AV.noOwn) && true && (wi (AV.toInt (List.getD ra 0 .undef)) (5 : Int) == (0 : Int) && (Nat.blt 0 (List.length ra) && AV.isInt IntKind.i64 (List.getD ra 0 .undef) && (decide ((0 : Int) ≤ (0 : Int) ∧ (0 : Int) < (↑lr : Int)) && (decide ((0 : Int) < (↑lr : Int)) && true)))))) = true) : Goes CA2 w0 85 (aaBody) (mk [4,5,6,15,16,17,18] [.snap ra lr, .int .i64 m, .int .i64 k, .ptr 0 0, .slc 3 0 2, .nils, .int .i64 0] [⟨[.int .i64 2, .slc 1 0 M, .slc 2 0 2], 53⟩, ⟨opsL ops, 57⟩, ⟨[.int .i64 u0, .int .i64 u1], 3⟩, ⟨[.flt f0, .flt f1], 24⟩] dec0) Ex.normal (mk [4,5,6,15,16,17,18] [.snap ra lr, .int .i64 m, .int .i64 k, .ptr 0 0, .slc 3 0 2, .slc 4 0 1, .int .i64 1] [ABlk.mk [.int .i64 2, .slc 1 0 M, .slc 2 0 2] 53, ABlk.mk (opsL ops) 57, ABlk.mk [.int .i64 u0, .int .i64 u1] 3, ABlk.mk [.flt (rareV (AV.toInt (List.getD ra 0 .undef))), .flt f1] 24, ABlk.mk [.flt (Prod.fst (l2V (IntKind.wrap IntKind.i64 (m + (0 : Int))) k (AV.toInt (List.getD ra 0 .undef)))), .flt (Prod.snd (l2V (IntKind.wrap IntKind.i64 (m + (0 : Int))) k (AV.toInt (List.getD ra 0 .undef))))] 26] dec1) :=
  goes_re (dec := [true,true]) (goes_viewK' OA2 mixed (qs := [47,54]) (fuel := 8) [.lit, .flat, .lit, .lit] (by kernel_rfl) hok dec1)
theorem aaI2_1n (ra : List AV) (lr : Nat) (m k : Int) (ops : List TOp) (M : Nat) (u0 u1 : Int) (f0 f1 : Nat) (b0 : Nat × Nat) (w0 : World) (dec0 dec1 : List Bool) (hok : (((List.all (opsL ops) AV.noOwn) && true && (!decide ((1 : Int) < (↑lr : Int)) && true))) = true) : Goes CA2 w0 85 (aaBody) (mk [4,5,6,15,16,17,18] [.snap ra lr, .int .i64 m, .int .i64 k, .ptr 0 0, .slc 3 0 2, .slc 4 0 1, .int .i64 1] [⟨[.int .i64 2, .slc 1 0 M, .slc 2 0 2], 53⟩, ⟨opsL ops, 57⟩, ⟨[.int .i64 u0, .int .i64 u1], 3⟩, ⟨[.flt f0, .flt f1], 24⟩, ⟨[.flt b0.1, .flt b0.2], 26⟩] dec0) Ex.normal (mk [4,5,6,15,16,17,18] [.snap ra lr, .int .i64 m, .int .i64 k, .ptr 0 0, .slc 3 0 2, .slc 4 0 2, .int .i64 2] [ABlk.mk [.int .i64 2, .slc 1 0 M, .slc 2 0 2] 53, ABlk.mk (opsL ops) 57, ABlk.mk [.int .i64 u0, .int .i64 u1] 3, ABlk.mk [.flt f0, .flt f1] 24, ABlk.mk [.flt (Prod.fst b0), .flt (Prod.snd b0), .flt (Prod.fst (l2V (IntKind.wrap IntKind.i64 (m + (1 : Int))) k (3 : Int))), .flt (Prod.snd (l2V (IntKind.wrap IntKind.i64 (m + (1 : Int))) k (3 : Int)))] 26] dec1) :=
  goes_re (dec := [false]) (goes_viewK' OA2 mixed (qs := [47,54]) (fuel := 8) [.lit, .flat, .lit, .lit] (by kernel_rfl) hok dec1)
theorem aaI2_1f (ra : List AV) (lr : Nat) (m k : Int) (ops : List TOp) (M : Nat) (u0 u1 : Int) (f0 f1 : Nat) (b0 : Nat × Nat) (w0 : World) (dec0 dec1 : List Bool) (hok : (((List.all (opsL ops) AV.noOwn) && true && (!wi (AV.toInt (List.getD ra 1 .undef)) (5 : Int) == (0 : Int) && (Nat.blt 1 (List.length ra) && AV.isInt IntKind.i64 (List.getD ra 1 .undef) && (decide ((0 : Int) ≤ (1 : Int) ∧ (1 : Int) < (↑lr : Int)) && (decide ((1 : Int) < (↑lr : Int)) && true)))))) = true) : Goes CA2 w0 85 (aaBody) (mk [4,5,6,15,16,17,18] [.snap ra lr, .int .i64 m, .int .i64 k, .ptr 0 0, .slc 3 0 2, .slc 4 0 1, .int .i64 1] [⟨[.int .i64 2, .slc 1 0 M, .slc 2 0 2], 53⟩, ⟨opsL ops, 57⟩, ⟨[.int .i64 u0, .int .i64 u1], 3⟩, ⟨[.flt f0, .flt f1], 24⟩, ⟨[.flt b0.1, .flt b0.2], 26⟩] dec0) Ex.normal (mk [4,5,6,15,16,17,18] [.snap ra lr, .int .i64 m, .int .i64 k, .ptr 0 0, .slc 3 0 2, .slc 4 0 2, .int .i64 2] [ABlk.mk [.int .i64 2, .slc 1 0 M, .slc 2 0 2] 53, ABlk.mk (opsL ops) 57, ABlk.mk [.int .i64 u0, .int .i64 u1] 3, ABlk.mk [.flt f0, .flt f1] 24, ABlk.mk [.flt (Prod.fst b0), .flt (Prod.snd b0), .flt (Prod.fst (l2V (IntKind.wrap IntKind.i64 (m + (1 : Int))) k (AV.toInt (List.getD ra 1 .undef)))), .flt (Prod.snd (l2V (IntKind.wrap IntKind.i64 (m + (1 : Int))) k (AV.toInt (List.getD ra 1 .undef))))] 26] dec1) :=
  goes_re (dec := [true,false]) (goes_viewK' OA2 mixed (qs := [47,54]) (fuel := 8) [.lit, .flat, .lit, .lit] (by kernel_rfl) hok dec1)
theorem aaI2_1t (ra : List AV) (lr : Nat) (m k : Int) (ops : List TOp) (M : Nat) (u0 u1 : Int) (f0 f1 : Nat) (b0 : Nat × Nat) (w0 : World) (dec0 dec1 : List Bool) (hok : (((List.all (opsL ops) AV.noOwn) && true && (wi (AV.toInt (List.getD ra 1 .undef)) (5 : Int) == (0 : Int) && (Nat.blt 1 (List.length ra) && AV.isInt IntKind.i64 (List.getD ra 1 .undef) && (decide ((0 : Int) ≤ (1 : Int) ∧ (1 : Int) < (↑lr : Int)) && (decide ((1 : Int) < (↑lr : Int)) && true)))))) = true) : Goes CA2 w0 85 (aaBody) (mk [4,5,6,15,16,17,18] [.snap ra lr, .int .i64 m, .int .i64 k, .ptr 0 0, .slc 3 0 2, .slc 4 0 1, .int .i64 1] [⟨[.int .i64 2, .slc 1 0 M, .slc 2 0 2], 53⟩, ⟨opsL ops, 57⟩, ⟨[.int .i64 u0, .int .i64 u1], 3⟩, ⟨[.flt f0, .flt f1], 24⟩, ⟨[.flt b0.1, .flt b0.2], 26⟩] dec0) Ex.normal (mk [4,5,6,15,16,17,18] [.snap ra lr, .int .i64 m, .int .i64 k, .ptr 0 0, .slc 3 0 2, .slc 4 0 2, .int .i64 2] [ABlk.mk [.int .i64 2, .slc 1 0 M, .slc 2 0 2] 53, ABlk.mk (opsL ops) 57, ABlk.mk [.int .i64 u0, .int .i64 u1] 3, ABlk.mk [.flt f0, .flt (rareV (AV.toInt (List.getD ra 1 .undef)))] 24, ABlk.mk [.flt (Prod.fst b0), .flt (Prod.snd b0), .flt (Prod.fst (l2V (IntKind.wrap IntKind.i64 (m + (1 : Int))) k (AV.toInt (List.getD ra 1 .undef)))), .flt (Prod.snd (l2V (IntKind.wrap IntKind.i64 (m + (1 : Int))) k (AV.toInt (List.getD ra 1 .undef))))] 26] dec1) :=
  goes_re (dec := [true,true]) (goes_viewK' OA2 mixed (qs := [47,54]) (fuel := 8) [.lit, .flat, .lit, .lit] (by kernel_rfl) hok dec1)
theorem aaX2 (ra : List AV) (lr : Nat) (m k : Int) (ops : List TOp) (M : Nat) (u0 u1 : Int) (f0 f1 : Nat) (b0 b1 : Nat × Nat) (w0 : World) (dec0 dec1 : List Bool) (hok : (((List.all (opsL ops) AV.noOwn) && true && true)) = true) : Goes CA2 w0 85 (aaBody) (mk [4,5,6,15,16,17,18] [.snap ra lr, .int .i64 m, .int .i64 k, .ptr 0 0, .slc 3 0 2, .slc 4 0 2, .int .i64 2] [⟨[.int .i64 2, .slc 1 0 M, .slc 2 0 2], 53⟩, ⟨opsL ops, 57⟩, ⟨[.int .i64 u0, .int .i64 u1], 3⟩, ⟨[.flt f0, .flt f1], 24⟩, ⟨[.flt b0.1, .flt b0.2, .flt b1.1, .flt b1.2], 26⟩] dec0) (Ex.exit 0) (mk [15,16,17] [.ptr 0 0, .slc 3 0 2, .slc 4 0 2] [ABlk.mk [.int .i64 2, .slc 1 0 M, .slc 2 0 2] 53, ABlk.mk (opsL ops) 57, ABlk.mk [.int .i64 u0, .int .i64 u1] 3, ABlk.mk [.flt f0, .flt f1] 24, ABlk.mk [.flt (Prod.fst b0), .flt (Prod.snd b0), .flt (Prod.fst b1), .flt (Prod.snd b1)] 26] dec1) :=
  goes_re (dec := []) (goes_viewK' OA2 mixed (qs := [47,54]) (fuel := 8) [.lit, .flat, .lit, .lit] (by kernel_rfl) hok dec1)
theorem aaZ2 (ops : List TOp) (M : Nat) (u0 u1 : Int) (f0 f1 : Nat) (b0 b1 : Nat × Nat) (w0 : World) (dec0 dec1 : List Bool) (hok : ((decide (Prod.snd (List.getD (jacD kI z2 2 (unI [.flt (Prod.fst b0), .flt (Prod.snd b0), .flt (Prod.fst b1), .flt (Prod.snd b1)]) (unOps (opsL ops)) (unInt [.int .i64 u0, .int .i64 u1]) 1) 1 z2) = Prod.snd (List.getD (jacD kI z2 2 (unI [.flt (Prod.fst b0), .flt (Prod.snd b0), .flt (Prod.fst b1), .flt (Prod.snd b1)]) (unOps (opsL ops)) (unInt [.int .i64 u0, .int .i64 u1]) 1) 1 z2)) && (decide (Prod.fst (List.getD (jacD kI z2 2 (unI [.flt (Prod.fst b0), .flt (Prod.snd b0), .flt (Prod.fst b1), .flt (Prod.snd b1)]) (unOps (opsL ops)) (unInt [.int .i64 u0, .int .i64 u1]) 1) 1 z2) = Prod.fst (List.getD (jacD kI z2 2 (unI [.flt (Prod.fst b0), .flt (Prod.snd b0), .flt (Prod.fst b1), .flt (Prod.snd b1)]) (unOps (opsL ops)) (unInt [.int .i64 u0, .int .i64 u1]) 1) 1 z2)) && true) && (decide (Prod.snd (List.getD (jacD kI z2 2 (unI [.flt (Prod.fst b0), .flt (Prod.snd b0), .flt (Prod.fst b1), .flt (Prod.snd b1)]) (unOps (opsL ops)) (unInt [.int .i64 u0, .int .i64 u1]) 1) 0 z2) = Prod.snd (List.getD (jacD kI z2 2 (unI [.flt (Prod.fst b0), .flt (Prod.snd b0), .flt (Prod.fst b1), .flt (Prod.snd b1)]) (unOps (opsL ops)) (unInt [.int .i64 u0, .int .i64 u1]) 1) 0 z2)) && (decide (Prod.fst (List.getD (jacD kI z2 2 (unI [.flt (Prod.fst b0), .flt (Prod.snd b0), .flt (Prod.fst b1), .flt (Prod.snd b1)]) (unOps (opsL ops)) (unInt [.int .i64 u0, .int .i64 u1]) 1) 0 z2) = Prod.fst (List.getD (jacD kI z2 2 (unI [.flt (Prod.fst b0), .flt (Prod.snd b0), .flt (Prod.fst b1), .flt (Prod.snd b1)]) (unOps (opsL ops)) (unInt [.int .i64 u0, .int .i64 u1]) 1) 0 z2)) && true) && true) && (decide (Prod.snd (List.getD (jacD kI z2 2 (unI [.flt (Prod.fst b0), .flt (Prod.snd b0), .flt (Prod.fst b1), .flt (Prod.snd b1)]) (unOps (opsL ops)) (unInt [.int .i64 u0, .int .i64 u1]) 0) 1 z2) = Prod.snd (List.getD (jacD kI z2 2 (unI [.flt (Prod.fst b0), .flt (Prod.snd b0), .flt (Prod.fst b1), .flt (Prod.snd b1)]) (unOps (opsL ops)) (unInt [.int .i64 u0, .int .i64 u1]) 0) 1 z2)) && (decide (Prod.fst (List.getD (jacD kI z2 2 (unI [.flt (Prod.fst b0), .flt (Prod.snd b0), .flt (Prod.fst b1), .flt (Prod.snd b1)]) (unOps (opsL ops)) (unInt [.int .i64 u0, .int .i64 u1]) 0) 1 z2) = Prod.fst (List.getD (jacD kI z2 2 (unI [.flt (Prod.fst b0), .flt (Prod.snd b0), .flt (Prod.fst b1), .flt (Prod.snd b1)]) (unOps (opsL ops)) (unInt [.int .i64 u0, .int .i64 u1]) 0) 1 z2)) && true) && (decide (Prod.snd (List.getD (jacD kI z2 2 (unI [.flt (Prod.fst b0), .flt (Prod.snd b0), .flt (Prod.fst b1), .flt (Prod.snd b1)]) (unOps (opsL ops)) (unInt [.int .i64 u0, .int .i64 u1]) 0) 0 z2) = Prod.snd (List.getD (jacD kI z2 2 (unI [.flt (Prod.fst b0), .flt (Prod.snd b0), .flt (Prod.fst b1), .flt (Prod.snd b1)]) (unOps (opsL ops)) (unInt [.int .i64 u0, .int .i64 u1]) 0) 0 z2)) && (decide (Prod.fst (List.getD (jacD kI z2 2 (unI [.flt (Prod.fst b0), .flt (Prod.snd b0), .flt (Prod.fst b1), .flt (Prod.snd b1)]) (unOps (opsL ops)) (unInt [.int .i64 u0, .int .i64 u1]) 0) 0 z2) = Prod.fst (List.getD (jacD kI z2 2 (unI [.flt (Prod.fst b0), .flt (Prod.snd b0), .flt (Prod.fst b1), .flt (Prod.snd b1)]) (unOps (opsL ops)) (unInt [.int .i64 u0, .int .i64 u1]) 0) 0 z2)) && true) && true) && true) && (List.all (opsL ops) AV.noOwn && true && true && pb (FldOk 2 IntKind.i64 2 (opsL ops) M [.int .i64 u0, .int .i64 u1] 2 ∧ XsOkI 2 [.flt (Prod.fst b0), .flt (Prod.snd b0), .flt (Prod.fst b1), .flt (Prod.snd b1)] 2) && (List.all (opsL ops) AV.noOwn && true && true && (pb (AV.agg [.fn 156 [] [], .fn 20 [] [], .fn 21 [] [], .fn 22 [] [], .fn 138 [] []] = AV.agg [.fn 156 [] [], .fn 20 [] [], .fn 21 [] [], .fn 22 [] [], .fn 138 [] []] ∧ FldOk 2 IntKind.i64 2 (opsL ops) M [.int .i64 u0, .int .i64 u1] 2 ∧ XsOkI 2 [.flt (Prod.fst b0), .flt (Prod.snd b0), .flt (Prod.fst b1), .flt (Prod.snd b1)] 2) && true) && (decide (List.getD (jacD kF 0 2 [f0, f1] (unOps (opsL ops)) (unInt [.int .i64 u0, .int .i64 u1]) 1) 1 0 = List.getD (jacD kF 0 2 [f0, f1] (unOps (opsL ops)) (unInt [.int .i64 u0, .int .i64 u1]) 1) 1 0) && (decide (List.getD (jacD kF 0 2 [f0, f1] (unOps (opsL ops)) (unInt [.int .i64 u0, .int .i64 u1]) 1) 0 0 = List.getD (jacD kF 0 2 [f0, f1] (unOps (opsL ops)) (unInt [.int .i64 u0, .int .i64 u1]) 1) 0 0) && true) && (decide (List.getD (jacD kF 0 2 [f0, f1] (unOps (opsL ops)) (unInt [.int .i64 u0, .int .i64 u1]) 0) 1 0 = List.getD (jacD kF 0 2 [f0, f1] (unOps (opsL ops)) (unInt [.int .i64 u0, .int .i64 u1]) 0) 1 0) && (decide (List.getD (jacD kF 0 2 [f0, f1] (unOps (opsL ops)) (unInt [.int .i64 u0, .int .i64 u1]) 0) 0 0 = List.getD (jacD kF 0 2 [f0, f1] (unOps (opsL ops)) (unInt [.int .i64 u0, .int .i64 u1]) 0) 0 0) && true) && true) && (List.all (opsL ops) AV.noOwn && true && true && pb (FldOk 2 IntKind.i64 2 (opsL ops) M [.int .i64 u0, .int .i64 u1] 2 ∧ XsOk 2 [.flt f0, .flt f1] 2) && (List.all (opsL ops) AV.noOwn && true && true && (pb (AV.agg [.fn 149 [] [], .fn 150 [] [], .fn 151 [] [], .fn 152 [] [], .fn 153 [] []] = AV.agg [.fn 149 [] [], .fn 150 [] [], .fn 151 [] [], .fn 152 [] [], .fn 153 [] []] ∧ FldOk 2 IntKind.i64 2 (opsL ops) M [.int .i64 u0, .int .i64 u1] 2 ∧ XsOk 2 [.flt f0, .flt f1] 2) && true) && true))))))) = true) : Goes CA2 w0 85 (cR (cR (cR (cR (cR (cR (cR aaC))))))) (mk [15,16,17] [.ptr 0 0, .slc 3 0 2, .slc 4 0 2] [⟨[.int .i64 2, .slc 1 0 M, .slc 2 0 2], 53⟩, ⟨opsL ops, 57⟩, ⟨[.int .i64 u0, .int .i64 u1], 3⟩, ⟨[.flt f0, .flt f1], 24⟩, ⟨[.flt b0.1, .flt b0.2, .flt b1.1, .flt b1.2], 26⟩] dec0) Ex.ret (mk [14] [.bool true] [] dec1) :=
  goes_re (dec := []) (goes_viewK' OA2 mixed (qs := []) (fuel := 8) [] (by kernel_rfl) hok dec1)
theorem aaA3 (n : Int) (ns : List AV) (ln : Nat) (d : Bool) (ms : List AV) (lm : Nat) (ra : List AV) (lr : Nat) (m k : Int) (w0 : World) (dec1 : List Bool) : Goes CA3 w0 85 (cL aaC) (St0 [.int .i64 n, .snap ns ln, .bool d, .snap ms lm, .snap ra lr, .int .i64 m, .int .i64 k] []) Ex.normal (mk [0,1,2,3,4,5,6] [.int .i64 n, .snap ns ln, .bool d, .snap ms lm, .snap ra lr, .int .i64 m, .int .i64 k] [] dec1) :=
  goes_viewK' OA3 mixed (qs := []) (fuel := 8) [] (by kernel_rfl) rfl dec1
theorem aaB3 (n : Int) (ns : List AV) (ln : Nat) (d : Bool) (ms : List AV) (lm : Nat) (ra : List AV) (lr : Nat) (m k : Int) (w0 : World) (dec0 dec1 : List Bool) : Goes CA3 w0 85 (cL (cR aaC)) (mk [0,1,2,3,4,5,6] [.int .i64 n, .snap ns ln, .bool d, .snap ms lm, .snap ra lr, .int .i64 m, .int .i64 k] [] dec0) Ex.normal (mk [0,1,2,3,4,5,6] [.int .i64 n, .snap ns ln, .bool d, .snap ms lm, .snap ra lr, .int .i64 m, .int .i64 k] [] dec1) :=
  goes_re (dec := []) (goes_viewK' OA3 mixed (qs := []) (fuel := 8) [] (by kernel_rfl) rfl dec1)
theorem aaD3 (n : Int) (ns : List AV) (ln : Nat) (d : Bool) (ms : List AV) (lm : Nat) (ra : List AV) (lr : Nat) (m k : Int) (w0 : World) (dec0 dec1 : List Bool) (hok : (((List.all (opsL (lmkOps n 3 d ns ln)) AV.noOwn) && true && (pb (IntKind.i64 = IntKind.i64 ∧ LmkOk ns ln ∧ wi n (3 : Int) + (1 : Int) = (3 : Int)) && true))) = true) : Goes CA3 w0 85 (cL (cR (cR aaC))) (mk [0,1,2,3,4,5,6] [.int .i64 n, .snap ns ln, .bool d, .snap ms lm, .snap ra lr, .int .i64 m, .int .i64 k] [] dec0) Ex.normal (mk [3,4,5,6,15] [.snap ms lm, .snap ra lr, .int .i64 m, .int .i64 k, .ptr 0 0] [ABlk.mk [.int .i64 3, .slc 1 0 (lmkM 3 ln), .slc 2 0 3] 53, ABlk.mk (opsL (lmkOps n 3 d ns ln)) 57, ABlk.mk [.int .i64 (IntKind.wrap IntKind.i64 (IntKind.wrap IntKind.i64 ((↑(lmkM 3 ln) : Int) - (1 : Int)) - wi (IntKind.wrap IntKind.i64 (IntKind.wrap IntKind.i64 (Int.tdiv n (3 : Int)) + (0 : Int))) (min3 (lmkM 3 ln)))), .int .i64 (IntKind.wrap IntKind.i64 (IntKind.wrap IntKind.i64 ((↑(lmkM 3 ln) : Int) - (1 : Int)) - wi (IntKind.wrap IntKind.i64 (IntKind.wrap IntKind.i64 (Int.tdiv n (3 : Int)) + (1 : Int))) (min3 (lmkM 3 ln)))), .int .i64 (IntKind.wrap IntKind.i64 (IntKind.wrap IntKind.i64 ((↑(lmkM 3 ln) : Int) - (1 : Int)) - wi (IntKind.wrap IntKind.i64 (IntKind.wrap IntKind.i64 (Int.tdiv n (3 : Int)) + (2 : Int))) (min3 (lmkM 3 ln))))] 3] dec1) :=
  goes_re (dec := []) (goes_viewK' OA3 mixed (qs := []) (fuel := 8) [.lit, .flat, .flat] (by kernel_rfl) hok dec1)
theorem aaE3 (ms : List AV) (lm : Nat) (ra : List AV) (lr : Nat) (m k : Int) (ops : List TOp) (M : Nat) (u0 u1 u2 : Int) (w0 : World) (dec0 dec1 : List Bool) (hok : (((List.all (opsL ops) AV.noOwn) && true && (pb (IntKind.i64 = IntKind.i64 ∧ (3 : Int) = (3 : Int) ∧ LmkOk ms lm) && true))) = true) : Goes CA3 w0 85 (cL (cR (cR (cR aaC)))) (mk [3,4,5,6,15] [.snap ms lm, .snap ra lr, .int .i64 m, .int .i64 k, .ptr 0 0] [⟨[.int .i64 3, .slc 1 0 M, .slc 2 0 3], 53⟩, ⟨opsL ops, 57⟩, ⟨[.int .i64 u0, .int .i64 u1, .int .i64 u2], 3⟩] dec0) Ex.normal (mk [4,5,6,15,16] [.snap ra lr, .int .i64 m, .int .i64 k, .ptr 0 0, .slc 3 0 3] [ABlk.mk [.int .i64 3, .slc 1 0 M, .slc 2 0 3] 53, ABlk.mk (opsL ops) 57, ABlk.mk [.int .i64 u0, .int .i64 u1, .int .i64 u2] 3, ABlk.mk [.flt (valV ms lm 0), .flt (valV ms lm 1), .flt (valV ms lm 2)] 24] dec1) :=
  goes_re (dec := []) (goes_viewK' OA3 mixed (qs := []) (fuel := 8) [.lit, .flat, .lit, .lit] (by kernel_rfl) hok dec1)
theorem aaF3 (ra : List AV) (lr : Nat) (m k : Int) (ops : List TOp) (M : Nat) (u0 u1 u2 : Int) (f0 f1 f2 : Nat) (w0 : World) (dec0 dec1 : List Bool) (hok : (((List.all (opsL ops) AV.noOwn) && true && (decide (List.getD (jacD kF 0 3 [f0, f1, f2] (unOps (opsL ops)) (unInt [.int .i64 u0, .int .i64 u1, .int .i64 u2]) 2) 2 0 = List.getD (jacD kF 0 3 [f0, f1, f2] (unOps (opsL ops)) (unInt [.int .i64 u0, .int .i64 u1, .int .i64 u2]) 2) 2 0) && (decide (List.getD (jacD kF 0 3 [f0, f1, f2] (unOps (opsL ops)) (unInt [.int .i64 u0, .int .i64 u1, .int .i64 u2]) 2) 1 0 = List.getD (jacD kF 0 3 [f0, f1, f2] (unOps (opsL ops)) (unInt [.int .i64 u0, .int .i64 u1, .int .i64 u2]) 2) 1 0) && (decide (List.getD (jacD kF 0 3 [f0, f1, f2] (unOps (opsL ops)) (unInt [.int .i64 u0, .int .i64 u1, .int .i64 u2]) 2) 0 0 = List.getD (jacD kF 0 3 [f0, f1, f2] (unOps (opsL ops)) (unInt [.int .i64 u0, .int .i64 u1, .int .i64 u2]) 2) 0 0) && true)) && (decide (List.getD (jacD kF 0 3 [f0, f1, f2] (unOps (opsL ops)) (unInt [.int .i64 u0, .int .i64 u1, .int .i64 u2]) 1) 2 0 = List.getD (jacD kF 0 3 [f0, f1, f2] (unOps (opsL ops)) (unInt [.int .i64 u0, .int .i64 u1, .int .i64 u2]) 1) 2 0) && (decide (List.getD (jacD kF 0 3 [f0, f1, f2] (unOps (opsL ops)) (unInt [.int .i64 u0, .int .i64 u1, .int .i64 u2]) 1) 1 0 = List.getD (jacD kF 0 3 [f0, f1, f2] (unOps (opsL ops)) (unInt [.int .i64 u0, .int .i64 u1, .int .i64 u2]) 1) 1 0) && (decide (List.getD (jacD kF 0 3 [f0, f1, f2] (unOps (opsL ops)) (unInt [.int .i64 u0, .int .i64 u1, .int .i64 u2]) 1) 0 0 = List.getD (jacD kF 0 3 [f0, f1, f2] (unOps (opsL ops)) (unInt [.int .i64 u0, .int .i64 u1, .int .i64 u2]) 1) 0 0) && true)) && (decide (List.getD (jacD kF 0 3 [f0, f1, f2] (unOps (opsL ops)) (unInt [.int .i64 u0, .int .i64 u1, .int .i64 u2]) 0) 2 0 = List.getD (jacD kF 0 3 [f0, f1, f2] (unOps (opsL ops)) (unInt [.int .i64 u0, .int .i64 u1, .int .i64 u2]) 0) 2 0) && (decide (List.getD (jacD kF 0 3 [f0, f1, f2] (unOps (opsL ops)) (unInt [.int .i64 u0, .int .i64 u1, .int .i64 u2]) 0) 1 0 = List.getD (jacD kF 0 3 [f0, f1, f2] (unOps (opsL ops)) (unInt [.int .i64 u0, .int .i64 u1, .int .i64 u2]) 0) 1 0) && (decide (List.getD (jacD kF 0 3 [f0, f1, f2] (unOps (opsL ops)) (unInt [.int .i64 u0, .int .i64 u1, .int .i64 u2]) 0) 0 0 = List.getD (jacD kF 0 3 [f0, f1, f2] (unOps (opsL ops)) (unInt [.int .i64 u0, .int .i64 u1, .int .i64 u2]) 0) 0 0) && true)) && true)) && (List.all (opsL ops) AV.noOwn && true && true && pb (FldOk 3 IntKind.i64 3 (opsL ops) M [.int .i64 u0, .int .i64 u1, .int .i64 u2] 3 ∧ XsOk 3 [.flt f0, .flt f1, .flt f2] 3) && (List.all (opsL ops) AV.noOwn && true && true && (pb (AV.agg [.fn 149 [] [], .fn 150 [] [], .fn 151 [] [], .fn 152 [] [], .fn 153 [] []] = AV.agg [.fn 149 [] [], .fn 150 [] [], .fn 151 [] [], .fn 152 [] [], .fn 153 [] []] ∧ FldOk 3 IntKind.i64 3 (opsL ops) M [.int .i64 u0, .int .i64 u1, .int .i64 u2] 3 ∧ XsOk 3 [.flt f0, .flt f1, .flt f2] 3) && true) && true))))) = true) : Goes CA3 w0 85 (cL (cR (cR (cR (cR aaC))))) (mk [4,5,6,15,16] [.snap ra lr, .int .i64 m, .int .i64 k, .ptr 0 0, .slc 3 0 3] [⟨[.int .i64 3, .slc 1 0 M, .slc 2 0 3], 53⟩, ⟨opsL ops, 57⟩, ⟨[.int .i64 u0, .int .i64 u1, .int .i64 u2], 3⟩, ⟨[.flt f0, .flt f1, .flt f2], 24⟩] dec0) Ex.normal (mk [4,5,6,15,16] [.snap ra lr, .int .i64 m, .int .i64 k, .ptr 0 0, .slc 3 0 3] [ABlk.mk [.int .i64 3, .slc 1 0 M, .slc 2 0 3] 53, ABlk.mk (opsL ops) 57, ABlk.mk [.int .i64 u0, .int .i64 u1, .int .i64 u2] 3, ABlk.mk [.flt f0, .flt f1, .flt f2] 24] dec1) :=
  goes_re (dec := []) (goes_viewK' OA3 mixed (qs := []) (fuel := 8) [.lit, .flat, .lit, .lit] (by kernel_rfl) hok dec1)
theorem aaG3 (ra : List AV) (lr : Nat) (m k : Int) (ops : List TOp) (M : Nat) (u0 u1 u2 : Int) (f0 f1 f2 : Nat) (w0 : World) (dec0 dec1 : List Bool) (hok : (((List.all (opsL ops) AV.noOwn) && true && true)) = true) : Goes CA3 w0 85 (cL (cR (cR (cR (cR (cR aaC)))))) (mk [4,5,6,15,16] [.snap ra lr, .int .i64 m, .int .i64 k, .ptr 0 0, .slc 3 0 3] [⟨[.int .i64 3, .slc 1 0 M, .slc 2 0 3], 53⟩, ⟨opsL ops, 57⟩, ⟨[.int .i64 u0, .int .i64 u1, .int .i64 u2], 3⟩, ⟨[.flt f0, .flt f1, .flt f2], 24⟩] dec0) Ex.normal (mk [4,5,6,15,16,17] [.snap ra lr, .int .i64 m, .int .i64 k, .ptr 0 0, .slc 3 0 3, .nils] [ABlk.mk [.int .i64 3, .slc 1 0 M, .slc 2 0 3] 53, ABlk.mk (opsL ops) 57, ABlk.mk [.int .i64 u0, .int .i64 u1, .int .i64 u2] 3, ABlk.mk [.flt f0, .flt f1, .flt f2] 24] dec1) :=
  goes_re (dec := []) (goes_viewK' OA3 mixed (qs := []) (fuel := 8) [.lit, .flat, .lit, .lit] (by kernel_rfl) hok dec1)
theorem aaH3 (ra : List AV) (lr : Nat) (m k : Int) (ops : List TOp) (M : Nat) (u0 u1 u2 : Int) (f0 f1 f2 : Nat) (w0 : World) (dec0 dec1 : List Bool) (hok : (((List.all (opsL ops) AV.noOwn) && true && true)) = true) : Goes CA3 w0 85 (cL (cL (cR (cR (cR (cR (cR (cR aaC)))))))) (mk [4,5,6,15,16,17] [.snap ra lr, .int .i64 m, .int .i64 k, .ptr 0 0, .slc 3 0 3, .nils] [⟨[.int .i64 3, .slc 1 0 M, .slc 2 0 3], 53⟩, ⟨opsL ops, 57⟩, ⟨[.int .i64 u0, .int .i64 u1, .int .i64 u2], 3⟩, ⟨[.flt f0, .flt f1, .flt f2], 24⟩] dec0) Ex.normal (mk [4,5,6,15,16,17,18] [.snap ra lr, .int .i64 m, .int .i64 k, .ptr 0 0, .slc 3 0 3, .nils, .int .i64 0] [ABlk.mk [.int .i64 3, .slc 1 0 M, .slc 2 0 3] 53, ABlk.mk (opsL ops) 57, ABlk.mk [.int .i64 u0, .int .i64 u1, .int .i64 u2] 3, ABlk.mk [.flt f0, .flt f1, .flt f2] 24] dec1) :=
  goes_re (dec := []) (goes_viewK' OA3 mixed (qs := []) (fuel := 8) [.lit, .flat, .lit, .lit] (by kernel_rfl) hok dec1)
theorem aaI3_0n (ra : List AV) (lr : Nat) (m k : Int) (ops : List TOp) (M : Nat) (u0 u1 u2 : Int) (f0 f1 f2 : Nat) (w0 : World) (dec0 dec1 : List Bool) (hok : (((List.all (opsL ops) AV.noOwn) && true && (!decide ((0 : Int) < (↑lr : Int)) && true))) = true) : Goes CA3 w0 85 (aaBody) (mk [4,5,6,15,16,17,18] [.snap ra lr, .int .i64 m, .int .i64 k, .ptr 0 0, .slc 3 0 3, .nils, .int .i64 0] [⟨[.int .i64 3, .slc 1 0 M, .slc 2 0 3], 53⟩, ⟨opsL ops, 57⟩, ⟨[.int .i64 u0, .int .i64 u1, .int .i64 u2], 3⟩, ⟨[.flt f0, .flt f1, .flt f2], 24⟩] dec0) Ex.normal (mk [4,5,6,15,16,17,18] [.snap ra lr, .int .i64 m, .int .i64 k, .ptr 0 0, .slc 3 0 3, .slc 4 0 1, .int .i64 1] [ABlk.mk [.int .i64 3, .slc 1 0 M, .slc 2 0 3] 53, ABlk.mk (opsL ops) 57, ABlk.mk [.int .i64 u0, .int .i64 u1, .int .i64 u2] 3, ABlk.mk [.flt f0, .flt f1, .flt f2] 24, ABlk.mk [.flt (Prod.fst (l2V (IntKind.wrap IntKind.i64 (m + (0 : Int))) k (3 : Int))), .flt (Prod.snd (l2V (IntKind.wrap IntKind.i64 (m + (0 : Int))) k (3 : Int)))] 26] dec1) :=
  goes_re (dec := [false]) (goes_viewK' OA3 mixed (qs := [47,54]) (fuel := 8) [.lit, .flat, .lit, .lit] (by kernel_rfl) hok dec1)
theorem aaI3_0f (ra : List AV) (lr : Nat) (m k : Int) (ops : List TOp) (M : Nat) (u0 u1 u2 : Int) (f0 f1 f2 : Nat) (w0 : World) (dec0 dec1 : List Bool) (hok : (((List.all (opsL ops) AV.noOwn) && true && (!wi (AV.toInt (List.getD ra 0 .undef)) (5 : Int) == (0 : Int) && (Nat.blt 0 (List.length ra) && AV.isInt IntKind.i64 (List.getD ra 0 .undef) && (decide ((0 : Int) ≤ (0 : Int) ∧ (0 : Int) < (↑lr : Int)) && (decide ((0 : Int) < (↑lr : Int)) && true)))))) = true) : Goes CA3 w0 85 (aaBody) (mk [4,5,6,15,16,17,18] [.snap ra lr, .int .i64 m, .int .i64 k, .ptr 0 0, .slc 3 0 3, .nils, .int .i64 0] [⟨[.int .i64 3, .slc 1 0 M, .slc 2 0 3], 53⟩, ⟨opsL ops, 57⟩, ⟨[.int .i64 u0, .int .i64 u1, .int .i64 u2], 3⟩, ⟨[.flt f0, .flt f1, .flt f2], 24⟩] dec0) Ex.normal (mk [4,5,6,15,16,17,18] [.snap ra lr, .int .i64 m, .int .i64 k, .ptr 0 0, .slc 3 0 3, .slc 4 0 1, .int .i64 1] [ABlk.mk [.int .i64 3, .slc 1 0 M, .slc 2 0 3] 53, ABlk.mk (opsL ops) 57, ABlk.mk [.int .i64 u0, .int .i64 u1, .int .i64 u2] 3, ABlk.mk [.flt f0, .flt f1, .flt f2] 24, ABlk.mk [.flt (Prod.fst (l2V (IntKind.wrap IntKind.i64 (m + (0 : Int))) k (AV.toInt (List.getD ra 0 .undef)))), .flt (Prod.snd (l2V (IntKind.wrap IntKind.i64 (m + (0 : Int))) k (AV.toInt (List.getD ra 0 .undef))))] 26] dec1) :=
  goes_re (dec := [true,false]) (goes_viewK' OA3 mixed (qs := [47,54]) (fuel := 8) [.lit, .flat, .lit, .lit] (by kernel_rfl) hok dec1)
theorem aaI3_0t (ra : List AV) (lr : Nat) (m k : Int) (ops : List TOp) (M : Nat) (u0 u1 u2 : Int) (f0 f1 f2 : Nat) (w0 : World) (dec0 dec1 : List Bool) (hok : (((List.all (opsL ops) AV.noOwn) && true && (wi (AV.toInt (List.getD ra 0 .undef)) (5 : Int) == (0 : Int) && (Nat.blt 0 (List.length ra) && AV.isInt IntKind.i64 (List.getD ra 0 .undef) && (decide ((0 : Int) ≤ (0 : Int) ∧ (0 : Int) < (↑lr : Int)) && (decide ((0 : Int) < (↑lr : Int)) && true)))))) = true) : Goes CA3 w0 85 (aaBody) (mk [4,5,6,15,16,17,18] [.snap ra lr, .int .i64 m, .int .i64 k, .ptr 0 0, .slc 3 0 3, .nils, .int .i64 0] [⟨[.int .i64 3, .slc 1 0 M, .slc 2 0 3], 53⟩, ⟨opsL ops, 57⟩, ⟨[.int .i64 u0, .int .i64 u1, .int .i64 u2], 3⟩, ⟨[.flt f0, .flt f1, .flt f2], 24⟩] dec0) Ex.normal (mk [4,5,6,15,16,17,18] [.snap ra lr, .int .i64 m, .int .i64 k, .ptr 0 0, .slc 3 0 3, .slc 4 0 1, .int .i64 1] [ABlk.mk [.int .i64 3, .slc 1 0 M, .slc 2 0 3] 53, ABlk.mk (opsL ops) 57, ABlk.mk [.int .i64 u0, .int .i64 u1, .int .i64 u2] 3, ABlk.mk [.flt (rareV (AV.toInt (List.getD ra 0 .undef))), .flt f1, .flt f2] 24, ABlk.mk [.flt (Prod.fst (l2V (IntKind.wrap IntKind.i64 (m + (0 : Int))) k (AV.toInt (List.getD ra 0 .undef)))), .flt (Prod.snd (l2V (IntKind.wrap IntKind.i64 (m + (0 : Int))) k (AV.toInt (List.getD ra 0 .undef))))] 26] dec1) :=
  goes_re (dec := [true,true]) (goes_viewK' OA3 mixed (qs := [47,54]) (fuel := 8) [.lit, .flat, .lit, .lit] (by kernel_rfl) hok dec1)
theorem aaI3_1n (ra : List AV) (lr : Nat) (m k : Int) (ops : List TOp) (M : Nat) (u0 u1 u2 : Int) (f0 f1 f2 : Nat) (b0 : Nat × Nat) (w0 : World) (dec0 dec1 : List Bool) (hok : (((List.all (opsL ops) AV.noOwn) && true && (!decide ((1 : Int) < (↑lr : Int)) && true))) = true) : Goes CA3 w0 85 (aaBody) (mk [4,5,6,15,16,17,18] [.snap ra lr, .int .i64 m, .int .i64 k, .ptr 0 0, .slc 3 0 3, .slc 4 0 1, .int .i64 1] [⟨[.int .i64 3, .slc 1 0 M, .slc 2 0 3], 53⟩, ⟨opsL ops, 57⟩, ⟨[.int .i64 u0, .int .i64 u1, .int .i64 u2], 3⟩, ⟨[.flt f0, .flt f1, .flt f2], 24⟩, ⟨[.flt b0.1, .flt b0.2], 26⟩] dec0) Ex.normal (mk [4,5,6,15,16,17,18] [.snap ra lr, .int .i64 m, .int .i64 k, .ptr 0 0, .slc 3 0 3, .slc 4 0 2, .int .i64 2] [ABlk.mk [.int .i64 3, .slc 1 0 M, .slc 2 0 3] 53, ABlk.mk (opsL ops) 57, ABlk.mk [.int .i64 u0, .int .i64 u1, .int .i64 u2] 3, ABlk.mk [.flt f0, .flt f1, .flt f2] 24, ABlk.mk [.flt (Prod.fst b0), .flt (Prod.snd b0), .flt (Prod.fst (l2V (IntKind.wrap IntKind.i64 (m + (1 : Int))) k (3 : Int))), .flt (Prod.snd (l2V (IntKind.wrap IntKind.i64 (m + (1 : Int))) k (3 : Int)))] 26] dec1) :=
  goes_re (dec := [false]) (goes_viewK' OA3 mixed (qs := [47,54]) (fuel := 8) [.lit, .flat, .lit, .lit] (by kernel_rfl) hok dec1)
theorem aaI3_1f (ra : List AV) (lr : Nat) (m k : Int) (ops : List TOp) (M : Nat) (u0 u1 u2 : Int) (f0 f1 f2 : Nat) (b0 : Nat × Nat) (w0 : World) (dec0 dec1 : List Bool) (hok : (((List.all (opsL ops) AV.noOwn) && true && (!wi (AV.toInt (List.getD ra 1 .undef)) (5 : Int) == (0 : Int) && (Nat.blt 1 (List.length ra) && AV.isInt IntKind.i64 (List.getD ra 1 .undef) && (decide ((0 : Int) ≤ (1 : Int) ∧ (1 : Int) < (↑lr : Int)) && (decide ((1 : Int) < (↑lr : Int)) && true)))))) = true) : Goes CA3 w0 85 (aaBody) (mk [4,5,6,15,16,17,18] [.snap ra lr, .int .i64 m, .int .i64 k, .ptr 0 0, .slc 3 0 3, .slc 4 0 1, .int .i64 1] [⟨[.int .i64 3, .slc 1 0 M, .slc 2 0 3], 53⟩, ⟨opsL ops, 57⟩, ⟨[.int .i64 u0, .int .i64 u1, .int .i64 u2], 3⟩, ⟨[.flt f0, .flt f1, .flt f2], 24⟩, ⟨[.flt b0.1, .flt b0.2], 26⟩] dec0) Ex.normal (mk [4,5,6,15,16,17,18] [.snap ra lr, .int .i64 m, .int .i64 k, .ptr 0 0, .slc 3 0 3, .slc 4 0 2, .int .i64 2] [ABlk.mk [.int .i64 3, .slc 1 0 M, .slc 2 0 3] 53, ABlk.mk (opsL ops) 57, ABlk.mk [.int .i64 u0, .int .i64 u1, .int .i64 u2] 3, ABlk.mk [.flt f0, .flt f1, .flt f2] 24, ABlk.mk [.flt (Prod.fst b0), .flt (Prod.snd b0), .flt (Prod.fst (l2V (IntKind.wrap IntKind.i64 (m + (1 : Int))) k (AV.toInt (List.getD ra 1 .undef)))), .flt (Prod.snd (l2V (IntKind.wrap IntKind.i64 (m + (1 : Int))) k (AV.toInt (List.getD ra 1 .undef))))] 26] dec1) :=
  goes_re (dec := [true,false]) (goes_viewK' OA3 mixed (qs := [47,54]) (fuel := 8) [.lit, .flat, .lit, .lit] (by kernel_rfl) hok dec1)
theorem aaI3_1t (ra : List AV) (lr : Nat) (m k : Int) (ops : List TOp) (M : Nat) (u0 u1 u2 : Int) (f0 f1 f2 : Nat) (b0 : Nat × Nat) (w0 : World) (dec0 dec1 : List Bool) (hok : (((List.all (opsL ops) AV.noOwn) && true && (wi (AV.toInt (List.getD ra 1 .undef)) (5 : Int) == (0 : Int) && (Nat.blt 1 (List.length ra) && AV.isInt IntKind.i64 (List.getD ra 1 .undef) && (decide ((0 : Int) ≤ (1 : Int) ∧ (1 : Int) < (↑lr : Int)) && (decide ((1 : Int) < (↑lr : Int)) && true)))))) = true) : Goes CA3 w0 85 (aaBody) (mk [4,5,6,15,16,17,18] [.snap ra lr, .int .i64 m, .int .i64 k, .ptr 0 0, .slc 3 0 3, .slc 4 0 1, .int .i64 1] [⟨[.int .i64 3, .slc 1 0 M, .slc 2 0 3], 53⟩, ⟨opsL ops, 57⟩, ⟨[.int .i64 u0, .int .i64 u1, .int .i64 u2], 3⟩, ⟨[.flt f0, .flt f1, .flt f2], 24⟩, ⟨[.flt b0.1, .flt b0.2], 26⟩] dec0) Ex.normal (mk [4,5,6,15,16,17,18] [.snap ra lr, .int .i64 m, .int .i64 k, .ptr 0 0, .slc 3 0 3, .slc 4 0 2, .int .i64 2] [ABlk.mk [.int .i64 3, .slc 1 0 M, .slc 2 0 3] 53, ABlk.mk (opsL ops) 57, ABlk.mk [.int .i64 u0, .int .i64 u1, .int .i64 u2] 3, ABlk.mk [.flt f0, .flt (rareV (AV.toInt (List.getD ra 1 .undef))), .flt f2] 24, ABlk.mk [.flt (Prod.fst b0), .flt (Prod.snd b0), .flt (Prod.fst (l2V (IntKind.wrap IntKind.i64 (m + (1 : Int))) k (AV.toInt (List.getD ra 1 .undef)))), .flt (Prod.snd (l2V (IntKind.wrap IntKind.i64 (m + (1 : Int))) k (AV.toInt (List.getD ra 1 .undef))))] 26] dec1) :=
  goes_re (dec := [true,true]) (goes_viewK' OA3 mixed (qs := [47,54]) (fuel := 8) [.lit, .flat, .lit, .lit] (by kernel_rfl) hok dec1)
theorem aaI3_2n (ra : List AV) (lr : Nat) (m k : Int) (ops : List TOp) (M : Nat) (u0 u1 u2 : Int) (f0 f1 f2 : Nat) (b0 b1 : Nat × Nat) (w0 : World) (dec0 dec1 : List Bool) (hok : (((List.all (opsL ops) AV.noOwn) && true && (!decide ((2 : Int) < (↑lr : Int)) && true))) = true) : Goes CA3 w0 85 (aaBody) (mk [4,5,6,15,16,17,18] [.snap ra lr, .int .i64 m, .int .i64 k, .ptr 0 0, .slc 3 0 3, .slc 4 0 2, .int .i64 2] [⟨[.int .i64 3, .slc 1 0 M, .slc 2 0 3], 53⟩, ⟨opsL ops, 57⟩, ⟨[.int .i64 u0, .int .i64 u1, .int .i64 u2], 3⟩, ⟨[.flt f0, .flt f1, .flt f2], 24⟩, ⟨[.flt b0.1, .flt b0.2, .flt b1.1, .flt b1.2], 26⟩] dec0) Ex.normal (mk [4,5,6,15,16,17,18] [.snap ra lr, .int .i64 m, .int .i64 k, .ptr 0 0, .slc 3 0 3, .slc 4 0 3, .int .i64 3] [ABlk.mk [.int .i64 3, .slc 1 0 M, .slc 2 0 3] 53, ABlk.mk (opsL ops) 57, ABlk.mk [.int .i64 u0, .int .i64 u1, .int .i64 u2] 3, ABlk.mk [.flt f0, .flt f1, .flt f2] 24, ABlk.mk [.flt (Prod.fst b0), .flt (Prod.snd b0), .flt (Prod.fst b1), .flt (Prod.snd b1), .flt (Prod.fst (l2V (IntKind.wrap IntKind.i64 (m + (2 : Int))) k (3 : Int))), .flt (Prod.snd (l2V (IntKind.wrap IntKind.i64 (m + (2 : Int))) k (3 : Int)))] 26] dec1) :=
  goes_re (dec := [false]) (goes_viewK' OA3 mixed (qs := [47,54]) (fuel := 8) [.lit, .flat, .lit, .lit] (by kernel_rfl) hok dec1)
theorem aaI3_2f (ra : List AV) (lr : Nat) (m k : Int) (ops : List TOp) (M : Nat) (u0 u1 u2 : Int) (f0 f1 f2 : Nat) (b0 b1 : Nat × Nat) (w0 : World) (dec0 dec1 : List Bool) (hok : (((List.all (opsL ops) AV.noOwn) && true && (!wi (AV.toInt (List.getD ra 2 .undef)) (5 : Int) == (0 : Int) && (Nat.blt 2 (List.length ra) && AV.isInt IntKind.i64 (List.getD ra 2 .undef) && (decide ((0 : Int) ≤ (2 : Int) ∧ (2 : Int) < (↑lr : Int)) && (decide ((2 : Int) < (↑lr : Int)) && true)))))) = true) : Goes CA3 w0 85 (aaBody) (mk [4,5,6,15,16,17,18] [.snap ra lr, .int .i64 m, .int .i64 k, .ptr 0 0, .slc 3 0 3, .slc 4 0 2, .int .i64 2] [⟨[.int .i64 3, .slc 1 0 M, .slc 2 0 3], 53⟩, ⟨opsL ops, 57⟩, ⟨[.int .i64 u0, .int .i64 u1, .int .i64 u2], 3⟩, ⟨[.flt f0, .flt f1, .flt f2], 24⟩, ⟨[.flt b0.1, .flt b0.2, .flt b1.1, .flt b1.2], 26⟩] dec0) Ex.normal (mk [4,5,6,15,16,17,18] [.snap ra lr, .int .i64 m, .int .i64 k, .ptr 0 0, .slc 3 0 3, .slc 4 0 3, .int .i64 3] [ABlk.mk [.int .i64 3, .slc 1 0 M, .slc 2 0 3] 53, ABlk.mk (opsL ops) 57, ABlk.mk [.int .i64 u0, .int .i64 u1, .int .i64 u2] 3, ABlk.mk [.flt f0, .flt f1, .flt f2] 24, ABlk.mk [.flt (Prod.fst b0), .flt (Prod.snd b0), .flt (Prod.fst b1), .flt (Prod.snd b1), .flt (Prod.fst (l2V (IntKind.wrap IntKind.i64 (m + (2 : Int))) k (AV.toInt (List.getD ra 2 .undef)))), .flt (Prod.snd (l2V (IntKind.wrap IntKind.i64 (m + (2 : Int))) k (AV.toInt (List.getD ra 2 .undef))))] 26] dec1) :=
  goes_re (dec := [true,false]) (goes_viewK' OA3 mixed (qs := [47,54]) (fuel := 8) [.lit, .flat, .lit, .lit] (by kernel_rfl) hok dec1)
theorem aaI3_2t (ra : List AV) (lr : Nat) (m k : Int) (ops : List TOp) (M : Nat) (u0 u1 u2 : Int) (f0 f1 f2 : Nat) (b0 b1 : Nat × Nat) (w0 : World) (dec0 dec1 : List Bool) (hok : (((List.all (opsL ops) AV.noOwn) && true && (wi (AV.toInt (List.getD ra 2 .undef)) (5 : Int) == (0 : Int) && (Nat.blt 2 (List.length ra) && AV.isInt IntKind.i64 (List.getD ra 2 .undef) && (decide ((0 : Int) ≤ (2 : Int) ∧ (2 : Int) < (↑lr : Int)) && (decide ((2 : Int) < (↑lr : Int)) && true)))))) = true) : Goes CA3 w0 85 (aaBody) (mk [4,5,6,15,16,17,18] [.snap ra lr, .int .i64 m, .int .i64 k, .ptr 0 0, .slc 3 0 3, .slc 4 0 2, .int .i64 2] [⟨[.int .i64 3, .slc 1 0 M, .slc 2 0 3], 53⟩, ⟨opsL ops, 57⟩, ⟨[.int .i64 u0, .int .i64 u1, .int .i64 u2], 3⟩, ⟨[.flt f0, .flt f1, .flt f2], 24⟩, ⟨[.flt b0.1, .flt b0.2, .flt b1.1, .flt b1.2], 26⟩] dec0) Ex.normal (mk [4,5,6,15,16,17,18] [.snap ra lr, .int .i64 m, .int .i64 k, .ptr 0 0, .slc 3 0 3, .slc 4 0 3, .int .i64 3] [ABlk.mk [.int .i64 3, .slc 1 0 M, .slc 2 0 3] 53, ABlk.mk (opsL ops) 57, ABlk.mk [.int .i64 u0, .int .i64 u1, .int .i64 u2] 3, ABlk.mk [.flt f0, .flt f1, .flt (rareV (AV.toInt (List.getD ra 2 .undef)))] 24, ABlk.mk [.flt (Prod.fst b0), .flt (Prod.snd b0), .flt (Prod.fst b1), .flt (Prod.snd b1), .flt (Prod.fst (l2V (IntKind.wrap IntKind.i64 (m + (2 : Int))) k (AV.toInt (List.getD ra 2 .undef)))), .flt (Prod.snd (l2V (IntKind.wrap IntKind.i64 (m + (2 : Int))) k (AV.toInt (List.getD ra 2 .undef))))] 26] dec1) :=
  goes_re (dec := [true,true]) (goes_viewK' OA3 mixed (qs := [47,54]) (fuel := 8) [.lit, .flat, .lit, .lit] (by kernel_rfl) hok dec1)
theorem aaX3 (ra : List AV) (lr : Nat) (m k : Int) (ops : List TOp) (M : Nat) (u0 u1 u2 : Int) (f0 f1 f2 : Nat) (b0 b1 b2 : Nat × Nat) (w0 : World) (dec0 dec1 : List Bool) (hok : (((List.all (opsL ops) AV.noOwn) && true && true)) = true) : Goes CA3 w0 85 (aaBody) (mk [4,5,6,15,16,17,18] [.snap ra lr, .int .i64 m, .int .i64 k, .ptr 0 0, .slc 3 0 3, .slc 4 0 3, .int .i64 3] [⟨[.int .i64 3, .slc 1 0 M, .slc 2 0 3], 53⟩, ⟨opsL ops, 57⟩, ⟨[.int .i64 u0, .int .i64 u1, .int .i64 u2], 3⟩, ⟨[.flt f0, .flt f1, .flt f2], 24⟩, ⟨[.flt b0.1, .flt b0.2, .flt b1.1, .flt b1.2, .flt b2.1, .flt b2.2], 26⟩] dec0) (Ex.exit 0) (mk [15,16,17] [.ptr 0 0, .slc 3 0 3, .slc 4 0 3] [ABlk.mk [.int .i64 3, .slc 1 0 M, .slc 2 0 3] 53, ABlk.mk (opsL ops) 57, ABlk.mk [.int .i64 u0, .int .i64 u1, .int .i64 u2] 3, ABlk.mk [.flt f0, .flt f1, .flt f2] 24, ABlk.mk [.flt (Prod.fst b0), .flt (Prod.snd b0), .flt (Prod.fst b1), .flt (Prod.snd b1), .flt (Prod.fst b2), .flt (Prod.snd b2)] 26] dec1) :=
  goes_re (dec := []) (goes_viewK' OA3 mixed (qs := [47,54]) (fuel := 8) [.lit, .flat, .lit, .lit] (by kernel_rfl) hok dec1)
theorem aaZ3 (ops : List TOp) (M : Nat) (u0 u1 u2 : Int) (f0 f1 f2 : Nat) (b0 b1 b2 : Nat × Nat) (w0 : World) (dec0 dec1 : List Bool) (hok : ((decide (Prod.snd (List.getD (jacD kI z2 3 (unI [.flt (Prod.fst b0), .flt (Prod.snd b0), .flt (Prod.fst b1), .flt (Prod.snd b1), .flt (Prod.fst b2), .flt (Prod.snd b2)]) (unOps (opsL ops)) (unInt [.int .i64 u0, .int .i64 u1, .int .i64 u2]) 2) 2 z2) = Prod.snd (List.getD (jacD kI z2 3 (unI [.flt (Prod.fst b0), .flt (Prod.snd b0), .flt (Prod.fst b1), .flt (Prod.snd b1), .flt (Prod.fst b2), .flt (Prod.snd b2)]) (unOps (opsL ops)) (unInt [.int .i64 u0, .int .i64 u1, .int .i64 u2]) 2) 2 z2)) && (decide (Prod.fst (List.getD (jacD kI z2 3 (unI [.flt (Prod.fst b0), .flt (Prod.snd b0), .flt (Prod.fst b1), .flt (Prod.snd b1), .flt (Prod.fst b2), .flt (Prod.snd b2)]) (unOps (opsL ops)) (unInt [.int .i64 u0, .int .i64 u1, .int .i64 u2]) 2) 2 z2) = Prod.fst (List.getD (jacD kI z2 3 (unI [.flt (Prod.fst b0), .flt (Prod.snd b0), .flt (Prod.fst b1), .flt (Prod.snd b1), .flt (Prod.fst b2), .flt (Prod.snd b2)]) (unOps (opsL ops)) (unInt [.int .i64 u0, .int .i64 u1, .int .i64 u2]) 2) 2 z2)) && true) && (decide (Prod.snd (List.getD (jacD kI z2 3 (unI [.flt (Prod.fst b0), .flt (Prod.snd b0), .flt (Prod.fst b1), .flt (Prod.snd b1), .flt (Prod.fst b2), .flt (Prod.snd b2)]) (unOps (opsL ops)) (unInt [.int .i64 u0, .int .i64 u1, .int .i64 u2]) 2) 1 z2) = Prod.snd (List.getD (jacD kI z2 3 (unI [.flt (Prod.fst b0), .flt (Prod.snd b0), .flt (Prod.fst b1), .flt (Prod.snd b1), .flt (Prod.fst b2), .flt (Prod.snd b2)]) (unOps (opsL ops)) (unInt [.int .i64 u0, .int .i64 u1, .int .i64 u2]) 2) 1 z2)) && (decide (Prod.fst (List.getD (jacD kI z2 3 (unI [.flt (Prod.fst b0), .flt (Prod.snd b0), .flt (Prod.fst b1), .flt (Prod.snd b1), .flt (Prod.fst b2), .flt (Prod.snd b2)]) (unOps (opsL ops)) (unInt [.int .i64 u0, .int .i64 u1, .int .i64 u2]) 2) 1 z2) = Prod.fst (List.getD (jacD kI z2 3 (unI [.flt (Prod.fst b0), .flt (Prod.snd b0), .flt (Prod.fst b1), .flt (Prod.snd b1), .flt (Prod.fst b2), .flt (Prod.snd b2)]) (unOps (opsL ops)) (unInt [.int .i64 u0, .int .i64 u1, .int .i64 u2]) 2) 1 z2)) && true) && (decide (Prod.snd (List.getD (jacD kI z2 3 (unI [.flt (Prod.fst b0), .flt (Prod.snd b0), .flt (Prod.fst b1), .flt (Prod.snd b1), .flt (Prod.fst b2), .flt (Prod.snd b2)]) (unOps (opsL ops)) (unInt [.int .i64 u0, .int .i64 u1, .int .i64 u2]) 2) 0 z2) = Prod.snd (List.getD (jacD kI z2 3 (unI [.flt (Prod.fst b0), .flt (Prod.snd b0), .flt (Prod.fst b1), .flt (Prod.snd b1), .flt (Prod.fst b2), .flt (Prod.snd b2)]) (unOps (opsL ops)) (unInt [.int .i64 u0, .int .i64 u1, .int .i64 u2]) 2) 0 z2)) && (decide (Prod.fst (List.getD (jacD kI z2 3 (unI [.flt (Prod.fst b0), .flt (Prod.snd b0), .flt (Prod.fst b1), .flt (Prod.snd b1), .flt (Prod.fst b2), .flt (Prod.snd b2)]) (unOps (opsL ops)) (unInt [.int .i64 u0, .int .i64 u1, .int .i64 u2]) 2) 0 z2) = Prod.fst (List.getD (jacD kI z2 3 (unI [.flt (Prod.fst b0), .flt (Prod.snd b0), .flt (Prod.fst b1), .flt (Prod.snd b1), .flt (Prod.fst b2), .flt (Prod.snd b2)]) (unOps (opsL ops)) (unInt [.int .i64 u0, .int .i64 u1, .int .i64 u2]) 2) 0 z2)) && true) && true)) && (decide (Prod.snd (List.getD (jacD kI z2 3 (unI [.flt (Prod.fst b0), .flt (Prod.snd b0), .flt (Prod.fst b1), .flt (Prod.snd b1), .flt (Prod.fst b2), .flt (Prod.snd b2)]) (unOps (opsL ops)) (unInt [.int .i64 u0, .int .i64 u1, .int .i64 u2]) 1) 2 z2) = Prod.snd (List.getD (jacD kI z2 3 (unI [.flt (Prod.fst b0), .flt (Prod.snd b0), .flt (Prod.fst b1), .flt (Prod.snd b1), .flt (Prod.fst b2), .flt (Prod.snd b2)]) (unOps (opsL ops)) (unInt [.int .i64 u0, .int .i64 u1, .int .i64 u2]) 1) 2 z2)) && (decide (Prod.fst (List.getD (jacD kI z2 3 (unI [.flt (Prod.fst b0), .flt (Prod.snd b0), .flt (Prod.fst b1), .flt (Prod.snd b1), .flt (Prod.fst b2), .flt (Prod.snd b2)]) (unOps (opsL ops)) (unInt [.int .i64 u0, .int .i64 u1, .int .i64 u2]) 1) 2 z2) = Prod.fst (List.getD (jacD kI z2 3 (unI [.flt (Prod.fst b0), .flt (Prod.snd b0), .flt (Prod.fst b1), .flt (Prod.snd b1), .flt (Prod.fst b2), .flt (Prod.snd b2)]) (unOps (opsL ops)) (unInt [.int .i64 u0, .int .i64 u1, .int .i64 u2]) 1) 2 z2)) && true) && (decide (Prod.snd (List.getD (jacD kI z2 3 (unI [.flt (Prod.fst b0), .flt (Prod.snd b0), .flt (Prod.fst b1), .flt (Prod.snd b1), .flt (Prod.fst b2), .flt (Prod.snd b2)]) (unOps (opsL ops)) (unInt [.int .i64 u0, .int .i64 u1, .int .i64 u2]) 1) 1 z2) = Prod.snd (List.getD (jacD kI z2 3 (unI [.flt (Prod.fst b0), .flt (Prod.snd b0), .flt (Prod.fst b1), .flt (Prod.snd b1), .flt (Prod.fst b2), .flt (Prod.snd b2)]) (unOps (opsL ops)) (unInt [.int .i64 u0, .int .i64 u1, .int .i64 u2]) 1) 1 z2)) && (decide (Prod.fst (List.getD (jacD kI z2 3 (unI [.flt (Prod.fst b0), .flt (Prod.snd b0), .flt (Prod.fst b1), .flt (Prod.snd b1), .flt (Prod.fst b2), .flt (Prod.snd b2)]) (unOps (opsL ops)) (unInt [.int .i64 u0, .int .i64 u1, .int .i64 u2]) 1) 1 z2) = Prod.fst (List.getD (jacD kI z2 3 (unI [.flt (Prod.fst b0), .flt (Prod.snd b0), .flt (Prod.fst b1), .flt (Prod.snd b1), .flt (Prod.fst b2), .flt (Prod.snd b2)]) (unOps (opsL ops)) (unInt [.int .i64 u0, .int .i64 u1, .int .i64 u2]) 1) 1 z2)) && true) && (decide (Prod.snd (List.getD (jacD kI z2 3 (unI [.flt (Prod.fst b0), .flt (Prod.snd b0), .flt (Prod.fst b1), .flt (Prod.snd b1), .flt (Prod.fst b2), .flt (Prod.snd b2)]) (unOps (opsL ops)) (unInt [.int .i64 u0, .int .i64 u1, .int .i64 u2]) 1) 0 z2) = Prod.snd (List.getD (jacD kI z2 3 (unI [.flt (Prod.fst b0), .flt (Prod.snd b0), .flt (Prod.fst b1), .flt (Prod.snd b1), .flt (Prod.fst b2), .flt (Prod.snd b2)]) (unOps (opsL ops)) (unInt [.int .i64 u0, .int .i64 u1, .int .i64 u2]) 1) 0 z2)) && (decide (Prod.fst (List.getD (jacD kI z2 3 (unI [.flt (Prod.fst b0), .flt (Prod.snd b0), .flt (Prod.fst b1), .flt (Prod.snd b1), .flt (Prod.fst b2), .flt (Prod.snd b2)]) (unOps (opsL ops)) (unInt [.int .i64 u0, .int .i64 u1, .int .i64 u2]) 1) 0 z2) = Prod.fst (List.getD (jacD kI z2 3 (unI [.flt (Prod.fst b0), .flt (Prod.snd b0), .flt (Prod.fst b1), .flt (Prod.snd b1), .flt (Prod.fst b2), .flt (Prod.snd b2)]) (unOps (opsL ops)) (unInt [.int .i64 u0, .int .i64 u1, .int .i64 u2]) 1) 0 z2)) && true) && true)) && (decide (Prod.snd (List.getD (jacD kI z2 3 (unI [.flt (Prod.fst b0), .flt (Prod.snd b0), .flt (Prod.fst b1), .flt (Prod.snd b1), .flt (Prod.fst b2), .flt (Prod.snd b2)]) (unOps (opsL ops)) (unInt [.int .i64 u0, .int .i64 u1, .int .i64 u2]) 0) 2 z2) = Prod.snd (List.getD (jacD kI z2 3 (unI [.flt (Prod.fst b0), .flt (Prod.snd b0), .flt (Prod.fst b1), .flt (Prod.snd b1), .flt (Prod.fst b2), .flt (Prod.snd b2)]) (unOps (opsL ops)) (unInt [.int .i64 u0, .int .i64 u1, .int .i64 u2]) 0) 2 z2)) && (decide (Prod.fst (List.getD (jacD kI z2 3 (unI [.flt (Prod.fst b0), .flt (Prod.snd b0), .flt (Prod.fst b1), .flt (Prod.snd b1), .flt (Prod.fst b2), .flt (Prod.snd b2)]) (unOps (opsL ops)) (unInt [.int .i64 u0, .int .i64 u1, .int .i64 u2]) 0) 2 z2) = Prod.fst (List.getD (jacD kI z2 3 (unI [.flt (Prod.fst b0), .flt (Prod.snd b0), .flt (Prod.fst b1), .flt (Prod.snd b1), .flt (Prod.fst b2), .flt (Prod.snd b2)]) (unOps (opsL ops)) (unInt [.int .i64 u0, .int .i64 u1, .int .i64 u2]) 0) 2 z2)) && true) && (decide (Prod.snd (List.getD (jacD kI z2 3 (unI [.flt (Prod.fst b0), .flt (Prod.snd b0), .flt (Prod.fst b1), .flt (Prod.snd b1), .flt (Prod.fst b2), .flt (Prod.snd b2)]) (unOps (opsL ops)) (unInt [.int .i64 u0, .int .i64 u1, .int .i64 u2]) 0) 1 z2) = Prod.snd (List.getD (jacD kI z2 3 (unI [.flt (Prod.fst b0), .flt (Prod.snd b0), .flt (Prod.fst b1), .flt (Prod.snd b1), .flt (Prod.fst b2), .flt (Prod.snd b2)]) (unOps (opsL ops)) (unInt [.int .i64 u0, .int .i64 u1, .int .i64 u2]) 0) 1 z2)) && (decide (Prod.fst (List.getD (jacD kI z2 3 (unI [.flt (Prod.fst b0), .flt (Prod.snd b0), .flt (Prod.fst b1), .flt (Prod.snd b1), .flt (Prod.fst b2), .flt (Prod.snd b2)]) (unOps (opsL ops)) (unInt [.int .i64 u0, .int .i64 u1, .int .i64 u2]) 0) 1 z2) = Prod.fst (List.getD (jacD kI z2 3 (unI [.flt (Prod.fst b0), .flt (Prod.snd b0), .flt (Prod.fst b1), .flt (Prod.snd b1), .flt (Prod.fst b2), .flt (Prod.snd b2)]) (unOps (opsL ops)) (unInt [.int .i64 u0, .int .i64 u1, .int .i64 u2]) 0) 1 z2)) && true) && (decide (Prod.snd (List.getD (jacD kI z2 3 (unI [.flt (Prod.fst b0), .flt (Prod.snd b0), .flt (Prod.fst b1), .flt (Prod.snd b1), .flt (Prod.fst b2), .flt (Prod.snd b2)]) (unOps (opsL ops)) (unInt [.int .i64 u0, .int .i64 u1, .int .i64 u2]) 0) 0 z2) = Prod.snd (List.getD (jacD kI z2 3 (unI [.flt (Prod.fst b0), .flt (Prod.snd b0), .flt (Prod.fst b1), .flt (Prod.snd b1), .flt (Prod.fst b2), .flt (Prod.snd b2)]) (unOps (opsL ops)) (unInt [.int .i64 u0, .int .i64 u1, .int .i64 u2]) 0) 0 z2)) && (decide (Prod.fst (List.getD (jacD kI z2 3 (unI [.flt (Prod.fst b0), .flt (Prod.snd b0), .flt (Prod.fst b1), .flt (Prod.snd b1), .flt (Prod.fst b2), .flt (Prod.snd b2)]) (unOps (opsL ops)) (unInt [.int .i64 u0, .int .i64 u1, .int .i64 u2]) 0) 0 z2) = Prod.fst (List.getD (jacD kI z2 3 (unI [.flt (Prod.fst b0), .flt (Prod.snd b0), .flt (Prod.fst b1), .flt (Prod.snd b1), .flt (Prod.fst b2), .flt (Prod.snd b2)]) (unOps (opsL ops)) (unInt [.int .i64 u0, .int .i64 u1, .int .i64 u2]) 0) 0 z2)) && true) && true)) && true)) && (List.all (opsL ops) AV.noOwn && true && true && pb (FldOk 3 IntKind.i64 3 (opsL ops) M [.int .i64 u0, .int .i64 u1, .int .i64 u2] 3 ∧ XsOkI 3 [.flt (Prod.fst b0), .flt (Prod.snd b0), .flt (Prod.fst b1), .flt (Prod.snd b1), .flt (Prod.fst b2), .flt (Prod.snd b2)] 3) && (List.all (opsL ops) AV.noOwn && true && true && (pb (AV.agg [.fn 156 [] [], .fn 20 [] [], .fn 21 [] [], .fn 22 [] [], .fn 138 [] []] = AV.agg [.fn 156 [] [], .fn 20 [] [], .fn 21 [] [], .fn 22 [] [], .fn 138 [] []] ∧ FldOk 3 IntKind.i64 3 (opsL ops) M [.int .i64 u0, .int .i64 u1, .int .i64 u2] 3 ∧ XsOkI 3 [.flt (Prod.fst b0), .flt (Prod.snd b0), .flt (Prod.fst b1), .flt (Prod.snd b1), .flt (Prod.fst b2), .flt (Prod.snd b2)] 3) && true) && (decide (List.getD (jacD kF 0 3 [f0, f1, f2] (unOps (opsL ops)) (unInt [.int .i64 u0, .int .i64 u1, .int .i64 u2]) 2) 2 0 = List.getD (jacD kF 0 3 [f0, f1, f2] (unOps (opsL ops)) (unInt [.int .i64 u0, .int .i64 u1, .int .i64 u2]) 2) 2 0) && (decide (List.getD (jacD kF 0 3 [f0, f1, f2] (unOps (opsL ops)) (unInt [.int .i64 u0, .int .i64 u1, .int .i64 u2]) 2) 1 0 = List.getD (jacD kF 0 3 [f0, f1, f2] (unOps (opsL ops)) (unInt [.int .i64 u0, .int .i64 u1, .int .i64 u2]) 2) 1 0) && (decide (List.getD (jacD kF 0 3 [f0, f1, f2] (unOps (opsL ops)) (unInt [.int .i64 u0, .int .i64 u1, .int .i64 u2]) 2) 0 0 = List.getD (jacD kF 0 3 [f0, f1, f2] (unOps (opsL ops)) (unInt [.int .i64 u0, .int .i64 u1, .int .i64 u2]) 2) 0 0) && true)) && (decide (List.getD (jacD kF 0 3 [f0, f1, f2] (unOps (opsL ops)) (unInt [.int .i64 u0, .int .i64 u1, .int .i64 u2]) 1) 2 0 = List.getD (jacD kF 0 3 [f0, f1, f2] (unOps (opsL ops)) (unInt [.int .i64 u0, .int .i64 u1, .int .i64 u2]) 1) 2 0) && (decide (List.getD (jacD kF 0 3 [f0, f1, f2] (unOps (opsL ops)) (unInt [.int .i64 u0, .int .i64 u1, .int .i64 u2]) 1) 1 0 = List.getD (jacD kF 0 3 [f0, f1, f2] (unOps (opsL ops)) (unInt [.int .i64 u0, .int .i64 u1, .int .i64 u2]) 1) 1 0) && (decide (List.getD (jacD kF 0 3 [f0, f1, f2] (unOps (opsL ops)) (unInt [.int .i64 u0, .int .i64 u1, .int .i64 u2]) 1) 0 0 = List.getD (jacD kF 0 3 [f0, f1, f2] (unOps (opsL ops)) (unInt [.int .i64 u0, .int .i64 u1, .int .i64 u2]) 1) 0 0) && true)) && (decide (List.getD (jacD kF 0 3 [f0, f1, f2] (unOps (opsL ops)) (unInt [.int .i64 u0, .int .i64 u1, .int .i64 u2]) 0) 2 0 = List.getD (jacD kF 0 3 [f0, f1, f2] (unOps (opsL ops)) (unInt [.int .i64 u0, .int .i64 u1, .int .i64 u2]) 0) 2 0) && (decide (List.getD (jacD kF 0 3 [f0, f1, f2] (unOps (opsL ops)) (unInt [.int .i64 u0, .int .i64 u1, .int .i64 u2]) 0) 1 0 = List.getD (jacD kF 0 3 [f0, f1, f2] (unOps (opsL ops)) (unInt [.int .i64 u0, .int .i64 u1, .int .i64 u2]) 0) 1 0) && (decide (List.getD (jacD kF 0 3 [f0, f1, f2] (unOps (opsL ops)) (unInt [.int .i64 u0, .int .i64 u1, .int .i64 u2]) 0) 0 0 = List.getD (jacD kF 0 3 [f0, f1, f2] (unOps (opsL ops)) (unInt [.int .i64 u0, .int .i64 u1, .int .i64 u2]) 0) 0 0) && true)) && true)) && (List.all (opsL ops) AV.noOwn && true && true && pb (FldOk 3 IntKind.i64 3 (opsL ops) M [.int .i64 u0, .int .i64 u1, .int .i64 u2] 3 ∧ XsOk 3 [.flt f0, .flt f1, .flt f2] 3) && (List.all (opsL ops) AV.noOwn && true && true && (pb (AV.agg [.fn 149 [] [], .fn 150 [] [], .fn 151 [] [], .fn 152 [] [], .fn 153 [] []] = AV.agg [.fn 149 [] [], .fn 150 [] [], .fn 151 [] [], .fn 152 [] [], .fn 153 [] []] ∧ FldOk 3 IntKind.i64 3 (opsL ops) M [.int .i64 u0, .int .i64 u1, .int .i64 u2] 3 ∧ XsOk 3 [.flt f0, .flt f1, .flt f2] 3) && true) && true))))))) = true) : Goes CA3 w0 85 (cR (cR (cR (cR (cR (cR (cR aaC))))))) (mk [15,16,17] [.ptr 0 0, .slc 3 0 3, .slc 4 0 3] [⟨[.int .i64 3, .slc 1 0 M, .slc 2 0 3], 53⟩, ⟨opsL ops, 57⟩, ⟨[.int .i64 u0, .int .i64 u1, .int .i64 u2], 3⟩, ⟨[.flt f0, .flt f1, .flt f2], 24⟩, ⟨[.flt b0.1, .flt b0.2, .flt b1.1, .flt b1.2, .flt b2.1, .flt b2.2], 26⟩] dec0) Ex.ret (mk [14] [.bool true] [] dec1) :=
  goes_re (dec := []) (goes_viewK' OA3 mixed (qs := []) (fuel := 8) [] (by kernel_rfl) hok dec1)
end Go.Eng.Try
/- JacAll, part 2: the law's contract. Condition: the numbers are rows of integers. Written by wip/tools/genU14.py. -/
namespace Go.Eng
open Go Go.RowKit Go.Eng.Try

def raW (ra : List AV) (lr i : Nat) : Int := bif decide ((i : Int) < (lr : Int)) then AV.toInt (ra.getD i .undef) else 3
def raF (ra : List AV) (lr i f : Nat) : Nat := bif decide ((i : Int) < (lr : Int)) then (bif wi (AV.toInt (ra.getD i .undef)) 5 == 0 then rareV (AV.toInt (ra.getD i .undef)) else f) else f
def raB (ra : List AV) (lr : Nat) (m k : Int) (i : Nat) : Nat × Nat := l2V (IntKind.wrap IntKind.i64 (m + (i : Int))) k (raW ra lr i)

theorem not_t {b : Bool} (h : b = false) : (!b) = true := by rw [h]; rfl

namespace Try
open Go.Proofs.Try

def aaS1 (ra : List AV) (lr : Nat) (m k : Int) (ops : List TOp) (u0 : Int) (f0 : Nat) : Nat → St
  | 0 => mk [4,5,6,15,16,17,18] [.snap ra lr, .int .i64 m, .int .i64 k, .ptr 0 0, .slc 3 0 1, .nils, .int .i64 0] [⟨[.int .i64 1, .slc 1 0 ops.length, .slc 2 0 1], 53⟩, ⟨opsL ops, 57⟩, ⟨[.int .i64 u0], 3⟩, ⟨[.flt f0], 24⟩] []
  | _ => mk [4,5,6,15,16,17,18] [.snap ra lr, .int .i64 m, .int .i64 k, .ptr 0 0, .slc 3 0 1, .slc 4 0 1, .int .i64 1] [⟨[.int .i64 1, .slc 1 0 ops.length, .slc 2 0 1], 53⟩, ⟨opsL ops, 57⟩, ⟨[.int .i64 u0], 3⟩, ⟨[.flt (raF ra lr 0 f0)], 24⟩, ⟨[.flt (raB ra lr m k 0).1, .flt (raB ra lr m k 0).2], 26⟩] []

theorem aaR1_0 (ra : List AV) (lr : Nat) (m k : Int) (ops : List TOp) (u0 : Int) (f0 : Nat) (hl : lr ≤ ra.length) (hra : ∀ i, i < ra.length → (ra.getD i .undef).isInt .i64 = true) (w0 : World) : Goes CA1 w0 85 aaBody (aaS1 ra lr m k ops u0 f0 0) .normal (aaS1 ra lr m k ops u0 f0 1) := by
  show Goes CA1 w0 85 aaBody (mk [4,5,6,15,16,17,18] [.snap ra lr, .int .i64 m, .int .i64 k, .ptr 0 0, .slc 3 0 1, .nils, .int .i64 0] [⟨[.int .i64 1, .slc 1 0 ops.length, .slc 2 0 1], 53⟩, ⟨opsL ops, 57⟩, ⟨[.int .i64 u0], 3⟩, ⟨[.flt f0], 24⟩] []) .normal (mk [4,5,6,15,16,17,18] [.snap ra lr, .int .i64 m, .int .i64 k, .ptr 0 0, .slc 3 0 1, .slc 4 0 1, .int .i64 1] [⟨[.int .i64 1, .slc 1 0 ops.length, .slc 2 0 1], 53⟩, ⟨opsL ops, 57⟩, ⟨[.int .i64 u0], 3⟩, ⟨[.flt (raF ra lr 0 f0)], 24⟩, ⟨[.flt (raB ra lr m k 0).1, .flt (raB ra lr m k 0).2], 26⟩] [])
  have eB : ∀ w : Int, raW ra lr 0 = w → raB ra lr m k 0 = l2V (IntKind.wrap IntKind.i64 (m + (0 : Int))) k w := fun w h => by subst h; rfl
  cases h1 : decide (((0 : Nat) : Int) < (lr : Int)) with
  | false =>
    have e1 : raW ra lr 0 = 3 := by unfold raW; rw [h1]; rfl
    have e2 : raF ra lr 0 f0 = f0 := by unfold raF; rw [h1]; rfl
    rw [e2, eB _ e1]
    exact aaI1_0n ra lr m k ops ops.length u0 f0  w0 [] [] (by
        repeat' (with_reducible apply and_t)
        all_goals first
          | rfl
          | exact opsL_noOwn _
          | (rw [Nat.blt_eq]; simp only [decide_eq_true_eq] at *; omega)
          | (refine hra _ ?_; simp only [decide_eq_true_eq] at *; omega)
          | exact h1
          | exact not_t h1
          | exact h2
          | exact not_t h2
          | (simp only [decide_eq_true_eq] at *; omega)
          | (simp only [*]; rfl))
  | true =>
    have e1 : raW ra lr 0 = AV.toInt (ra.getD 0 .undef) := by unfold raW; rw [h1]; rfl
    cases h2 : wi (AV.toInt (ra.getD 0 .undef)) 5 == 0 with
    | false =>
      have e2 : raF ra lr 0 f0 = f0 := by unfold raF; rw [h1, h2]; rfl
      rw [e2, eB _ e1]
      exact aaI1_0f ra lr m k ops ops.length u0 f0  w0 [] [] (by
        repeat' (with_reducible apply and_t)
        all_goals first
          | rfl
          | exact opsL_noOwn _
          | (rw [Nat.blt_eq]; simp only [decide_eq_true_eq] at *; omega)
          | (refine hra _ ?_; simp only [decide_eq_true_eq] at *; omega)
          | exact h1
          | exact not_t h1
          | exact h2
          | exact not_t h2
          | (simp only [decide_eq_true_eq] at *; omega)
          | (simp only [*]; rfl))
    | true =>
      have e2 : raF ra lr 0 f0 = rareV (AV.toInt (ra.getD 0 .undef)) := by unfold raF; rw [h1, h2]; rfl
      rw [e2, eB _ e1]
      exact aaI1_0t ra lr m k ops ops.length u0 f0  w0 [] [] (by
        repeat' (with_reducible apply and_t)
        all_goals first
          | rfl
          | exact opsL_noOwn _
          | (rw [Nat.blt_eq]; simp only [decide_eq_true_eq] at *; omega)
          | (refine hra _ ?_; simp only [decide_eq_true_eq] at *; omega)
          | exact h1
          | exact not_t h1
          | exact h2
          | exact not_t h2
          | (simp only [decide_eq_true_eq] at *; omega)
          | (simp only [*]; rfl))

theorem aaRest1 (ra : List AV) (lr : Nat) (m k : Int) (ops : List TOp) (u0 : Int) (f0 : Nat) (hl : lr ≤ ra.length) (hra : ∀ i, i < ra.length → (ra.getD i .undef).isInt .i64 = true) (hF : FldOk 1 .i64 1 (opsL ops) ops.length (intL [u0]) 1) (w0 : World) :
    Goes CA1 w0 85 (cR (cR (cR (cR aaC)))) (mk [4,5,6,15,16] [.snap ra lr, .int .i64 m, .int .i64 k, .ptr 0 0, .slc 3 0 1] [⟨[.int .i64 1, .slc 1 0 ops.length, .slc 2 0 1], 53⟩, ⟨opsL ops, 57⟩, ⟨[.int .i64 u0], 3⟩, ⟨[.flt f0], 24⟩] []) .ret (mk [14] [.bool true] [] []) := by
  refine goes_seq (by kernel_rfl) (aaF1 ra lr m k ops ops.length u0 f0 w0 [] [] ?_) (goes_seq (by kernel_rfl) (aaG1 ra lr m k ops ops.length u0 f0 w0 [] [] ?_) (goes_seq (by kernel_rfl) (goes_seq (by kernel_rfl) (aaH1 ra lr m k ops ops.length u0 f0 w0 [] [] ?_) (goes_block (id := 0) (by kernel_rfl) (goes_loop (by kernel_rfl) (fun h => by cases h) 1 (aaS1 ra lr m k ops u0 f0) (s2 := mk [15,16,17] [.ptr 0 0, .slc 3 0 1, .slc 4 0 1] [⟨[.int .i64 1, .slc 1 0 ops.length, .slc 2 0 1], 53⟩, ⟨opsL ops, 57⟩, ⟨[.int .i64 u0], 3⟩, ⟨[.flt (raF ra lr 0 f0)], 24⟩, ⟨[.flt (raB ra lr m k 0).1, .flt (raB ra lr m k 0).2], 26⟩] []) ?_ ?_))) (aaZ1 ops ops.length u0 (raF ra lr 0 f0) (raB ra lr m k 0) w0 [] [] ?_)))
  · repeat' (with_reducible apply and_t)
    all_goals first
      | rfl
      | exact decide_eq_true rfl
      | exact opsL_noOwn _
      | exact pb_of ⟨by trivial, hF, ⟨rfl, [f0], rfl, rfl⟩⟩
      | exact pb_of ⟨hF, ⟨rfl, [f0], rfl, rfl⟩⟩
      | exact pb_of ⟨by trivial, hF, ⟨rfl, [((raB ra lr m k 0).1, (raB ra lr m k 0).2)], rfl, rfl⟩⟩
      | exact pb_of ⟨hF, ⟨rfl, [((raB ra lr m k 0).1, (raB ra lr m k 0).2)], rfl, rfl⟩⟩
  · simp [opsL_noOwn]
  · simp [opsL_noOwn]
  · intro i hi
    match i, hi with
    | 0, _ => exact aaR1_0 ra lr m k ops u0 f0 hl hra w0
    | i + 1, h => omega
  · exact aaX1 ra lr m k ops ops.length u0 (raF ra lr 0 f0) (raB ra lr m k 0) w0 [] [] (by simp [opsL_noOwn])
  · repeat' (with_reducible apply and_t)
    all_goals first
      | rfl
      | exact decide_eq_true rfl
      | exact opsL_noOwn _
      | exact pb_of ⟨by trivial, hF, ⟨rfl, [raF ra lr 0 f0], rfl, rfl⟩⟩
      | exact pb_of ⟨hF, ⟨rfl, [raF ra lr 0 f0], rfl, rfl⟩⟩
      | exact pb_of ⟨by trivial, hF, ⟨rfl, [((raB ra lr m k 0).1, (raB ra lr m k 0).2)], rfl, rfl⟩⟩
      | exact pb_of ⟨hF, ⟨rfl, [((raB ra lr m k 0).1, (raB ra lr m k 0).2)], rfl, rfl⟩⟩

theorem con_all1 (n : Int) (ns : List AV) (ln : Nat) (hns : LmkOk ns ln) (hN : wi n 3 + 1 = (1 : Nat)) (d : Bool) (ms : List AV) (lm : Nat) (hms : LmkOk ms lm) (ra : List AV) (lr : Nat) (hra : LmkOk ra lr) (m k : Int) (nb : Nat) :
    Con prog 15 [.int .i64 n, .snap ns ln, .bool d, .snap ms lm, .snap ra lr, .int .i64 m, .int .i64 k] nb (.bool true) [] := by
  have hF := fld_lmk n 1 (.inl rfl) d ns ln
  have hl := lmkOps_length n 1 (.inl rfl) d ns ln
  refine con_goesKC (es := esA1) (d := 8) (deep := shallow [56, 107, 63, 59, 109, 74]) 85 (by kernel_rfl) (dec := []) (e := .ret) (s := mk [14] [.bool true] [] []) [] (r := ⟨_, _, true⟩) (by kernel_rfl) rfl (.inl rfl) fun w0 => ?_
  refine goes_seq (by kernel_rfl) (aaA1 n ns ln d ms lm ra lr m k w0 []) (goes_seq (by kernel_rfl) (aaB1 n ns ln d ms lm ra lr m k w0 [] []) (goes_seq (by kernel_rfl) (aaD1 n ns ln d ms lm ra lr m k w0 [] [] ?_) ?_))
  · rw [opsL_noOwn]
    simp only [Bool.true_and, Bool.and_true]
    exact pb_of ⟨by trivial, hns, hN⟩
  · rw [← hl]
    rw [← hl] at hF
    generalize lmkOps n 1 d ns ln = ops at *
    refine goes_seq (by kernel_rfl) (aaE1 ms lm ra lr m k ops ops.length (outT n ops.length 0) w0 [] [] ?_) (aaRest1 ra lr m k ops (outT n ops.length 0) (valV ms lm 0) hra.1 hra.2 hF w0)
    rw [opsL_noOwn]
    simp only [Bool.true_and, Bool.and_true]
    exact pb_of ⟨by trivial, by trivial, hms⟩

def aaS2 (ra : List AV) (lr : Nat) (m k : Int) (ops : List TOp) (u0 u1 : Int) (f0 f1 : Nat) : Nat → St
  | 0 => mk [4,5,6,15,16,17,18] [.snap ra lr, .int .i64 m, .int .i64 k, .ptr 0 0, .slc 3 0 2, .nils, .int .i64 0] [⟨[.int .i64 2, .slc 1 0 ops.length, .slc 2 0 2], 53⟩, ⟨opsL ops, 57⟩, ⟨[.int .i64 u0, .int .i64 u1], 3⟩, ⟨[.flt f0, .flt f1], 24⟩] []
  | 1 => mk [4,5,6,15,16,17,18] [.snap ra lr, .int .i64 m, .int .i64 k, .ptr 0 0, .slc 3 0 2, .slc 4 0 1, .int .i64 1] [⟨[.int .i64 2, .slc 1 0 ops.length, .slc 2 0 2], 53⟩, ⟨opsL ops, 57⟩, ⟨[.int .i64 u0, .int .i64 u1], 3⟩, ⟨[.flt (raF ra lr 0 f0), .flt f1], 24⟩, ⟨[.flt (raB ra lr m k 0).1, .flt (raB ra lr m k 0).2], 26⟩] []
  | _ => mk [4,5,6,15,16,17,18] [.snap ra lr, .int .i64 m, .int .i64 k, .ptr 0 0, .slc 3 0 2, .slc 4 0 2, .int .i64 2] [⟨[.int .i64 2, .slc 1 0 ops.length, .slc 2 0 2], 53⟩, ⟨opsL ops, 57⟩, ⟨[.int .i64 u0, .int .i64 u1], 3⟩, ⟨[.flt (raF ra lr 0 f0), .flt (raF ra lr 1 f1)], 24⟩, ⟨[.flt (raB ra lr m k 0).1, .flt (raB ra lr m k 0).2, .flt (raB ra lr m k 1).1, .flt (raB ra lr m k 1).2], 26⟩] []

theorem aaR2_0 (ra : List AV) (lr : Nat) (m k : Int) (ops : List TOp) (u0 u1 : Int) (f0 f1 : Nat) (hl : lr ≤ ra.length) (hra : ∀ i, i < ra.length → (ra.getD i .undef).isInt .i64 = true) (w0 : World) : Goes CA2 w0 85 aaBody (aaS2 ra lr m k ops u0 u1 f0 f1 0) .normal (aaS2 ra lr m k ops u0 u1 f0 f1 1) := by
  show Goes CA2 w0 85 aaBody (mk [4,5,6,15,16,17,18] [.snap ra lr, .int .i64 m, .int .i64 k, .ptr 0 0, .slc 3 0 2, .nils, .int .i64 0] [⟨[.int .i64 2, .slc 1 0 ops.length, .slc 2 0 2], 53⟩, ⟨opsL ops, 57⟩, ⟨[.int .i64 u0, .int .i64 u1], 3⟩, ⟨[.flt f0, .flt f1], 24⟩] []) .normal (mk [4,5,6,15,16,17,18] [.snap ra lr, .int .i64 m, .int .i64 k, .ptr 0 0, .slc 3 0 2, .slc 4 0 1, .int .i64 1] [⟨[.int .i64 2, .slc 1 0 ops.length, .slc 2 0 2], 53⟩, ⟨opsL ops, 57⟩, ⟨[.int .i64 u0, .int .i64 u1], 3⟩, ⟨[.flt (raF ra lr 0 f0), .flt f1], 24⟩, ⟨[.flt (raB ra lr m k 0).1, .flt (raB ra lr m k 0).2], 26⟩] [])
  have eB : ∀ w : Int, raW ra lr 0 = w → raB ra lr m k 0 = l2V (IntKind.wrap IntKind.i64 (m + (0 : Int))) k w := fun w h => by subst h; rfl
  cases h1 : decide (((0 : Nat) : Int) < (lr : Int)) with
  | false =>
    have e1 : raW ra lr 0 = 3 := by unfold raW; rw [h1]; rfl
    have e2 : raF ra lr 0 f0 = f0 := by unfold raF; rw [h1]; rfl
    rw [e2, eB _ e1]
    exact aaI2_0n ra lr m k ops ops.length u0 u1 f0 f1  w0 [] [] (by
        repeat' (with_reducible apply and_t)
        all_goals first
          | rfl
          | exact opsL_noOwn _
          | (rw [Nat.blt_eq]; simp only [decide_eq_true_eq] at *; omega)
          | (refine hra _ ?_; simp only [decide_eq_true_eq] at *; omega)
          | exact h1
          | exact not_t h1
          | exact h2
          | exact not_t h2
          | (simp only [decide_eq_true_eq] at *; omega)
          | (simp only [*]; rfl))
  | true =>
    have e1 : raW ra lr 0 = AV.toInt (ra.getD 0 .undef) := by unfold raW; rw [h1]; rfl
    cases h2 : wi (AV.toInt (ra.getD 0 .undef)) 5 == 0 with
    | false =>
      have e2 : raF ra lr 0 f0 = f0 := by unfold raF; rw [h1, h2]; rfl
      rw [e2, eB _ e1]
      exact aaI2_0f ra lr m k ops ops.length u0 u1 f0 f1  w0 [] [] (by
        repeat' (with_reducible apply and_t)
        all_goals first
          | rfl
          | exact opsL_noOwn _
          | (rw [Nat.blt_eq]; simp only [decide_eq_true_eq] at *; omega)
          | (refine hra _ ?_; simp only [decide_eq_true_eq] at *; omega)
          | exact h1
          | exact not_t h1
          | exact h2
          | exact not_t h2
          | (simp only [decide_eq_true_eq] at *; omega)
          | (simp only [*]; rfl))
    | true =>
      have e2 : raF ra lr 0 f0 = rareV (AV.toInt (ra.getD 0 .undef)) := by unfold raF; rw [h1, h2]; rfl
      rw [e2, eB _ e1]
      exact aaI2_0t ra lr m k ops ops.length u0 u1 f0 f1  w0 [] [] (by
        repeat' (with_reducible apply and_t)
        all_goals first
          | rfl
          | exact opsL_noOwn _
          | (rw [Nat.blt_eq]; simp only [decide_eq_true_eq] at *; omega)
          | (refine hra _ ?_; simp only [decide_eq_true_eq] at *; omega)
          | exact h1
          | exact not_t h1
          | exact h2
          | exact not_t h2
          | (simp only [decide_eq_true_eq] at *; omega)
          | (simp only [*]; rfl))

theorem aaR2_1 (ra : List AV) (lr : Nat) (m k : Int) (ops : List TOp) (u0 u1 : Int) (f0 f1 : Nat) (hl : lr ≤ ra.length) (hra : ∀ i, i < ra.length → (ra.getD i .undef).isInt .i64 = true) (w0 : World) : Goes CA2 w0 85 aaBody (aaS2 ra lr m k ops u0 u1 f0 f1 1) .normal (aaS2 ra lr m k ops u0 u1 f0 f1 2) := by
  show Goes CA2 w0 85 aaBody (mk [4,5,6,15,16,17,18] [.snap ra lr, .int .i64 m, .int .i64 k, .ptr 0 0, .slc 3 0 2, .slc 4 0 1, .int .i64 1] [⟨[.int .i64 2, .slc 1 0 ops.length, .slc 2 0 2], 53⟩, ⟨opsL ops, 57⟩, ⟨[.int .i64 u0, .int .i64 u1], 3⟩, ⟨[.flt (raF ra lr 0 f0), .flt f1], 24⟩, ⟨[.flt (raB ra lr m k 0).1, .flt (raB ra lr m k 0).2], 26⟩] []) .normal (mk [4,5,6,15,16,17,18] [.snap ra lr, .int .i64 m, .int .i64 k, .ptr 0 0, .slc 3 0 2, .slc 4 0 2, .int .i64 2] [⟨[.int .i64 2, .slc 1 0 ops.length, .slc 2 0 2], 53⟩, ⟨opsL ops, 57⟩, ⟨[.int .i64 u0, .int .i64 u1], 3⟩, ⟨[.flt (raF ra lr 0 f0), .flt (raF ra lr 1 f1)], 24⟩, ⟨[.flt (raB ra lr m k 0).1, .flt (raB ra lr m k 0).2, .flt (raB ra lr m k 1).1, .flt (raB ra lr m k 1).2], 26⟩] [])
  have eB : ∀ w : Int, raW ra lr 1 = w → raB ra lr m k 1 = l2V (IntKind.wrap IntKind.i64 (m + (1 : Int))) k w := fun w h => by subst h; rfl
  cases h1 : decide (((1 : Nat) : Int) < (lr : Int)) with
  | false =>
    have e1 : raW ra lr 1 = 3 := by unfold raW; rw [h1]; rfl
    have e2 : raF ra lr 1 f1 = f1 := by unfold raF; rw [h1]; rfl
    rw [e2, eB _ e1]
    exact aaI2_1n ra lr m k ops ops.length u0 u1 (raF ra lr 0 f0) f1 (raB ra lr m k 0) w0 [] [] (by
        repeat' (with_reducible apply and_t)
        all_goals first
          | rfl
          | exact opsL_noOwn _
          | (rw [Nat.blt_eq]; simp only [decide_eq_true_eq] at *; omega)
          | (refine hra _ ?_; simp only [decide_eq_true_eq] at *; omega)
          | exact h1
          | exact not_t h1
          | exact h2
          | exact not_t h2
          | (simp only [decide_eq_true_eq] at *; omega)
          | (simp only [*]; rfl))
  | true =>
    have e1 : raW ra lr 1 = AV.toInt (ra.getD 1 .undef) := by unfold raW; rw [h1]; rfl
    cases h2 : wi (AV.toInt (ra.getD 1 .undef)) 5 == 0 with
    | false =>
      have e2 : raF ra lr 1 f1 = f1 := by unfold raF; rw [h1, h2]; rfl
      rw [e2, eB _ e1]
      exact aaI2_1f ra lr m k ops ops.length u0 u1 (raF ra lr 0 f0) f1 (raB ra lr m k 0) w0 [] [] (by
        repeat' (with_reducible apply and_t)
        all_goals first
          | rfl
          | exact opsL_noOwn _
          | (rw [Nat.blt_eq]; simp only [decide_eq_true_eq] at *; omega)
          | (refine hra _ ?_; simp only [decide_eq_true_eq] at *; omega)
          | exact h1
          | exact not_t h1
          | exact h2
          | exact not_t h2
          | (simp only [decide_eq_true_eq] at *; omega)
          | (simp only [*]; rfl))
    | true =>
      have e2 : raF ra lr 1 f1 = rareV (AV.toInt (ra.getD 1 .undef)) := by unfold raF; rw [h1, h2]; rfl
      rw [e2, eB _ e1]
      exact aaI2_1t ra lr m k ops ops.length u0 u1 (raF ra lr 0 f0) f1 (raB ra lr m k 0) w0 [] [] (by
        repeat' (with_reducible apply and_t)
        all_goals first
          | rfl
          | exact opsL_noOwn _
          | (rw [Nat.blt_eq]; simp only [decide_eq_true_eq] at *; omega)
          | (refine hra _ ?_; simp only [decide_eq_true_eq] at *; omega)
          | exact h1
          | exact not_t h1
          | exact h2
          | exact not_t h2
          | (simp only [decide_eq_true_eq] at *; omega)
          | (simp only [*]; rfl))

theorem aaRest2 (ra : List AV) (lr : Nat) (m k : Int) (ops : List TOp) (u0 u1 : Int) (f0 f1 : Nat) (hl : lr ≤ ra.length) (hra : ∀ i, i < ra.length → (ra.getD i .undef).isInt .i64 = true) (hF : FldOk 2 .i64 2 (opsL ops) ops.length (intL [u0, u1]) 2) (w0 : World) :
    Goes CA2 w0 85 (cR (cR (cR (cR aaC)))) (mk [4,5,6,15,16] [.snap ra lr, .int .i64 m, .int .i64 k, .ptr 0 0, .slc 3 0 2] [⟨[.int .i64 2, .slc 1 0 ops.length, .slc 2 0 2], 53⟩, ⟨opsL ops, 57⟩, ⟨[.int .i64 u0, .int .i64 u1], 3⟩, ⟨[.flt f0, .flt f1], 24⟩] []) .ret (mk [14] [.bool true] [] []) := by
  refine goes_seq (by kernel_rfl) (aaF2 ra lr m k ops ops.length u0 u1 f0 f1 w0 [] [] ?_) (goes_seq (by kernel_rfl) (aaG2 ra lr m k ops ops.length u0 u1 f0 f1 w0 [] [] ?_) (goes_seq (by kernel_rfl) (goes_seq (by kernel_rfl) (aaH2 ra lr m k ops ops.length u0 u1 f0 f1 w0 [] [] ?_) (goes_block (id := 0) (by kernel_rfl) (goes_loop (by kernel_rfl) (fun h => by cases h) 2 (aaS2 ra lr m k ops u0 u1 f0 f1) (s2 := mk [15,16,17] [.ptr 0 0, .slc 3 0 2, .slc 4 0 2] [⟨[.int .i64 2, .slc 1 0 ops.length, .slc 2 0 2], 53⟩, ⟨opsL ops, 57⟩, ⟨[.int .i64 u0, .int .i64 u1], 3⟩, ⟨[.flt (raF ra lr 0 f0), .flt (raF ra lr 1 f1)], 24⟩, ⟨[.flt (raB ra lr m k 0).1, .flt (raB ra lr m k 0).2, .flt (raB ra lr m k 1).1, .flt (raB ra lr m k 1).2], 26⟩] []) ?_ ?_))) (aaZ2 ops ops.length u0 u1 (raF ra lr 0 f0) (raF ra lr 1 f1) (raB ra lr m k 0) (raB ra lr m k 1) w0 [] [] ?_)))
  · repeat' (with_reducible apply and_t)
    all_goals first
      | rfl
      | exact decide_eq_true rfl
      | exact opsL_noOwn _
      | exact pb_of ⟨by trivial, hF, ⟨rfl, [f0, f1], rfl, rfl⟩⟩
      | exact pb_of ⟨hF, ⟨rfl, [f0, f1], rfl, rfl⟩⟩
      | exact pb_of ⟨by trivial, hF, ⟨rfl, [((raB ra lr m k 0).1, (raB ra lr m k 0).2), ((raB ra lr m k 1).1, (raB ra lr m k 1).2)], rfl, rfl⟩⟩
      | exact pb_of ⟨hF, ⟨rfl, [((raB ra lr m k 0).1, (raB ra lr m k 0).2), ((raB ra lr m k 1).1, (raB ra lr m k 1).2)], rfl, rfl⟩⟩
  · simp [opsL_noOwn]
  · simp [opsL_noOwn]
  · intro i hi
    match i, hi with
    | 0, _ => exact aaR2_0 ra lr m k ops u0 u1 f0 f1 hl hra w0
    | 1, _ => exact aaR2_1 ra lr m k ops u0 u1 f0 f1 hl hra w0
    | i + 2, h => omega
  · exact aaX2 ra lr m k ops ops.length u0 u1 (raF ra lr 0 f0) (raF ra lr 1 f1) (raB ra lr m k 0) (raB ra lr m k 1) w0 [] [] (by simp [opsL_noOwn])
  · repeat' (with_reducible apply and_t)
    all_goals first
      | rfl
      | exact decide_eq_true rfl
      | exact opsL_noOwn _
      | exact pb_of ⟨by trivial, hF, ⟨rfl, [raF ra lr 0 f0, raF ra lr 1 f1], rfl, rfl⟩⟩
      | exact pb_of ⟨hF, ⟨rfl, [raF ra lr 0 f0, raF ra lr 1 f1], rfl, rfl⟩⟩
      | exact pb_of ⟨by trivial, hF, ⟨rfl, [((raB ra lr m k 0).1, (raB ra lr m k 0).2), ((raB ra lr m k 1).1, (raB ra lr m k 1).2)], rfl, rfl⟩⟩
      | exact pb_of ⟨hF, ⟨rfl, [((raB ra lr m k 0).1, (raB ra lr m k 0).2), ((raB ra lr m k 1).1, (raB ra lr m k 1).2)], rfl, rfl⟩⟩

theorem con_all2 (n : Int) (ns : List AV) (ln : Nat) (hns : LmkOk ns ln) (hN : wi n 3 + 1 = (2 : Nat)) (d : Bool) (ms : List AV) (lm : Nat) (hms : LmkOk ms lm) (ra : List AV) (lr : Nat) (hra : LmkOk ra lr) (m k : Int) (nb : Nat) :
    Con prog 15 [.int .i64 n, .snap ns ln, .bool d, .snap ms lm, .snap ra lr, .int .i64 m, .int .i64 k] nb (.bool true) [] := by
  have hF := fld_lmk n 2 (.inr (.inl rfl)) d ns ln
  have hl := lmkOps_length n 2 (.inr (.inl rfl)) d ns ln
  refine con_goesKC (es := esA2) (d := 8) (deep := shallow [56, 107, 63, 59, 109, 74]) 85 (by kernel_rfl) (dec := []) (e := .ret) (s := mk [14] [.bool true] [] []) [] (r := ⟨_, _, true⟩) (by kernel_rfl) rfl (.inl rfl) fun w0 => ?_
  refine goes_seq (by kernel_rfl) (aaA2 n ns ln d ms lm ra lr m k w0 []) (goes_seq (by kernel_rfl) (aaB2 n ns ln d ms lm ra lr m k w0 [] []) (goes_seq (by kernel_rfl) (aaD2 n ns ln d ms lm ra lr m k w0 [] [] ?_) ?_))
  · rw [opsL_noOwn]
    simp only [Bool.true_and, Bool.and_true]
    exact pb_of ⟨by trivial, hns, hN⟩
  · rw [← hl]
    rw [← hl] at hF
    generalize lmkOps n 2 d ns ln = ops at *
    refine goes_seq (by kernel_rfl) (aaE2 ms lm ra lr m k ops ops.length (outT n ops.length 0) (outT n ops.length 1) w0 [] [] ?_) (aaRest2 ra lr m k ops (outT n ops.length 0) (outT n ops.length 1) (valV ms lm 0) (valV ms lm 1) hra.1 hra.2 hF w0)
    rw [opsL_noOwn]
    simp only [Bool.true_and, Bool.and_true]
    exact pb_of ⟨by trivial, by trivial, hms⟩

def aaS3 (ra : List AV) (lr : Nat) (m k : Int) (ops : List TOp) (u0 u1 u2 : Int) (f0 f1 f2 : Nat) : Nat → St
  | 0 => mk [4,5,6,15,16,17,18] [.snap ra lr, .int .i64 m, .int .i64 k, .ptr 0 0, .slc 3 0 3, .nils, .int .i64 0] [⟨[.int .i64 3, .slc 1 0 ops.length, .slc 2 0 3], 53⟩, ⟨opsL ops, 57⟩, ⟨[.int .i64 u0, .int .i64 u1, .int .i64 u2], 3⟩, ⟨[.flt f0, .flt f1, .flt f2], 24⟩] []
  | 1 => mk [4,5,6,15,16,17,18] [.snap ra lr, .int .i64 m, .int .i64 k, .ptr 0 0, .slc 3 0 3, .slc 4 0 1, .int .i64 1] [⟨[.int .i64 3, .slc 1 0 ops.length, .slc 2 0 3], 53⟩, ⟨opsL ops, 57⟩, ⟨[.int .i64 u0, .int .i64 u1, .int .i64 u2], 3⟩, ⟨[.flt (raF ra lr 0 f0), .flt f1, .flt f2], 24⟩, ⟨[.flt (raB ra lr m k 0).1, .flt (raB ra lr m k 0).2], 26⟩] []
  | 2 => mk [4,5,6,15,16,17,18] [.snap ra lr, .int .i64 m, .int .i64 k, .ptr 0 0, .slc 3 0 3, .slc 4 0 2, .int .i64 2] [⟨[.int .i64 3, .slc 1 0 ops.length, .slc 2 0 3], 53⟩, ⟨opsL ops, 57⟩, ⟨[.int .i64 u0, .int .i64 u1, .int .i64 u2], 3⟩, ⟨[.flt (raF ra lr 0 f0), .flt (raF ra lr 1 f1), .flt f2], 24⟩, ⟨[.flt (raB ra lr m k 0).1, .flt (raB ra lr m k 0).2, .flt (raB ra lr m k 1).1, .flt (raB ra lr m k 1).2], 26⟩] []
  | _ => mk [4,5,6,15,16,17,18] [.snap ra lr, .int .i64 m, .int .i64 k, .ptr 0 0, .slc 3 0 3, .slc 4 0 3, .int .i64 3] [⟨[.int .i64 3, .slc 1 0 ops.length, .slc 2 0 3], 53⟩, ⟨opsL ops, 57⟩, ⟨[.int .i64 u0, .int .i64 u1, .int .i64 u2], 3⟩, ⟨[.flt (raF ra lr 0 f0), .flt (raF ra lr 1 f1), .flt (raF ra lr 2 f2)], 24⟩, ⟨[.flt (raB ra lr m k 0).1, .flt (raB ra lr m k 0).2, .flt (raB ra lr m k 1).1, .flt (raB ra lr m k 1).2, .flt (raB ra lr m k 2).1, .flt (raB ra lr m k 2).2], 26⟩] []

theorem aaR3_0 (ra : List AV) (lr : Nat) (m k : Int) (ops : List TOp) (u0 u1 u2 : Int) (f0 f1 f2 : Nat) (hl : lr ≤ ra.length) (hra : ∀ i, i < ra.length → (ra.getD i .undef).isInt .i64 = true) (w0 : World) : Goes CA3 w0 85 aaBody (aaS3 ra lr m k ops u0 u1 u2 f0 f1 f2 0) .normal (aaS3 ra lr m k ops u0 u1 u2 f0 f1 f2 1) := by
  show Goes CA3 w0 85 aaBody (mk [4,5,6,15,16,17,18] [.snap ra lr, .int .i64 m, .int .i64 k, .ptr 0 0, .slc 3 0 3, .nils, .int .i64 0] [⟨[.int .i64 3, .slc 1 0 ops.length, .slc 2 0 3], 53⟩, ⟨opsL ops, 57⟩, ⟨[.int .i64 u0, .int .i64 u1, .int .i64 u2], 3⟩, ⟨[.flt f0, .flt f1, .flt f2], 24⟩] []) .normal (mk [4,5,6,15,16,17,18] [.snap ra lr, .int .i64 m, .int .i64 k, .ptr 0 0, .slc 3 0 3, .slc 4 0 1, .int .i64 1] [⟨[.int .i64 3, .slc 1 0 ops.length, .slc 2 0 3], 53⟩, ⟨opsL ops, 57⟩, ⟨[.int .i64 u0, .int .i64 u1, .int .i64 u2], 3⟩, ⟨[.flt (raF ra lr 0 f0), .flt f1, .flt f2], 24⟩, ⟨[.flt (raB ra lr m k 0).1, .flt (raB ra lr m k 0).2], 26⟩] [])
  have eB : ∀ w : Int, raW ra lr 0 = w → raB ra lr m k 0 = l2V (IntKind.wrap IntKind.i64 (m + (0 : Int))) k w := fun w h => by subst h; rfl
  cases h1 : decide (((0 : Nat) : Int) < (lr : Int)) with
  | false =>
    have e1 : raW ra lr 0 = 3 := by unfold raW; rw [h1]; rfl
    have e2 : raF ra lr 0 f0 = f0 := by unfold raF; rw [h1]; rfl
    rw [e2, eB _ e1]
    exact aaI3_0n ra lr m k ops ops.length u0 u1 u2 f0 f1 f2  w0 [] [] (by
        repeat' (with_reducible apply and_t)
        all_goals first
          | rfl
          | exact opsL_noOwn _
          | (rw [Nat.blt_eq]; simp only [decide_eq_true_eq] at *; omega)
          | (refine hra _ ?_; simp only [decide_eq_true_eq] at *; omega)
          | exact h1
          | exact not_t h1
          | exact h2
          | exact not_t h2
          | (simp only [decide_eq_true_eq] at *; omega)
          | (simp only [*]; rfl))
  | true =>
    have e1 : raW ra lr 0 = AV.toInt (ra.getD 0 .undef) := by unfold raW; rw [h1]; rfl
    cases h2 : wi (AV.toInt (ra.getD 0 .undef)) 5 == 0 with
    | false =>
      have e2 : raF ra lr 0 f0 = f0 := by unfold raF; rw [h1, h2]; rfl
      rw [e2, eB _ e1]
      exact aaI3_0f ra lr m k ops ops.length u0 u1 u2 f0 f1 f2  w0 [] [] (by
        repeat' (with_reducible apply and_t)
        all_goals first
          | rfl
          | exact opsL_noOwn _
          | (rw [Nat.blt_eq]; simp only [decide_eq_true_eq] at *; omega)
          | (refine hra _ ?_; simp only [decide_eq_true_eq] at *; omega)
          | exact h1
          | exact not_t h1
          | exact h2
          | exact not_t h2
          | (simp only [decide_eq_true_eq] at *; omega)
          | (simp only [*]; rfl))
    | true =>
      have e2 : raF ra lr 0 f0 = rareV (AV.toInt (ra.getD 0 .undef)) := by unfold raF; rw [h1, h2]; rfl
      rw [e2, eB _ e1]
      exact aaI3_0t ra lr m k ops ops.length u0 u1 u2 f0 f1 f2  w0 [] [] (by
        repeat' (with_reducible apply and_t)
        all_goals first
          | rfl
          | exact opsL_noOwn _
          | (rw [Nat.blt_eq]; simp only [decide_eq_true_eq] at *; omega)
          | (refine hra _ ?_; simp only [decide_eq_true_eq] at *; omega)
          | exact h1
          | exact not_t h1
          | exact h2
          | exact not_t h2
          | (simp only [decide_eq_true_eq] at *; omega)
          | (simp only [*]; rfl))

theorem aaR3_1 (ra : List AV) (lr : Nat) (m k : Int) (ops : List TOp) (u0 u1 u2 : Int) (f0 f1 f2 : Nat) (hl : lr ≤ ra.length) (hra : ∀ i, i < ra.length → (ra.getD i .undef).isInt .i64 = true) (w0 : World) : Goes CA3 w0 85 aaBody (aaS3 ra lr m k ops u0 u1 u2 f0 f1 f2 1) .normal (aaS3 ra lr m k ops u0 u1 u2 f0 f1 f2 2) := by
  show Goes CA3 w0 85 aaBody (mk [4,5,6,15,16,17,18] [.snap ra lr, .int .i64 m, .int .i64 k, .ptr 0 0, .slc 3 0 3, .slc 4 0 1, .int .i64 1] [⟨[.int .i64 3, .slc 1 0 ops.length, .slc 2 0 3], 53⟩, ⟨opsL ops, 57⟩, ⟨[.int .i64 u0, .int .i64 u1, .int .i64 u2], 3⟩, ⟨[.flt (raF ra lr 0 f0), .flt f1, .flt f2], 24⟩, ⟨[.flt (raB ra lr m k 0).1, .flt (raB ra lr m k 0).2], 26⟩] []) .normal (mk [4,5,6,15,16,17,18] [.snap ra lr, .int .i64 m, .int .i64 k, .ptr 0 0, .slc 3 0 3, .slc 4 0 2, .int .i64 2] [⟨[.int .i64 3, .slc 1 0 ops.length, .slc 2 0 3], 53⟩, ⟨opsL ops, 57⟩, ⟨[.int .i64 u0, .int .i64 u1, .int .i64 u2], 3⟩, ⟨[.flt (raF ra lr 0 f0), .flt (raF ra lr 1 f1), .flt f2], 24⟩, ⟨[.flt (raB ra lr m k 0).1, .flt (raB ra lr m k 0).2, .flt (raB ra lr m k 1).1, .flt (raB ra lr m k 1).2], 26⟩] [])
  have eB : ∀ w : Int, raW ra lr 1 = w → raB ra lr m k 1 = l2V (IntKind.wrap IntKind.i64 (m + (1 : Int))) k w := fun w h => by subst h; rfl
  cases h1 : decide (((1 : Nat) : Int) < (lr : Int)) with
  | false =>
    have e1 : raW ra lr 1 = 3 := by unfold raW; rw [h1]; rfl
    have e2 : raF ra lr 1 f1 = f1 := by unfold raF; rw [h1]; rfl
    rw [e2, eB _ e1]
    exact aaI3_1n ra lr m k ops ops.length u0 u1 u2 (raF ra lr 0 f0) f1 f2 (raB ra lr m k 0) w0 [] [] (by
        repeat' (with_reducible apply and_t)
        all_goals first
          | rfl
          | exact opsL_noOwn _
          | (rw [Nat.blt_eq]; simp only [decide_eq_true_eq] at *; omega)
          | (refine hra _ ?_; simp only [decide_eq_true_eq] at *; omega)
          | exact h1
          | exact not_t h1
          | exact h2
          | exact not_t h2
          | (simp only [decide_eq_true_eq] at *; omega)
          | (simp only [*]; rfl))
  | true =>
    have e1 : raW ra lr 1 = AV.toInt (ra.getD 1 .undef) := by unfold raW; rw [h1]; rfl
    cases h2 : wi (AV.toInt (ra.getD 1 .undef)) 5 == 0 with
    | false =>
      have e2 : raF ra lr 1 f1 = f1 := by unfold raF; rw [h1, h2]; rfl
      rw [e2, eB _ e1]
      exact aaI3_1f ra lr m k ops ops.length u0 u1 u2 (raF ra lr 0 f0) f1 f2 (raB ra lr m k 0) w0 [] [] (by
        repeat' (with_reducible apply and_t)
        all_goals first
          | rfl
          | exact opsL_noOwn _
          | (rw [Nat.blt_eq]; simp only [decide_eq_true_eq] at *; omega)
          | (refine hra _ ?_; simp only [decide_eq_true_eq] at *; omega)
          | exact h1
          | exact not_t h1
          | exact h2
          | exact not_t h2
          | (simp only [decide_eq_true_eq] at *; omega)
          | (simp only [*]; rfl))
    | true =>
      have e2 : raF ra lr 1 f1 = rareV (AV.toInt (ra.getD 1 .undef)) := by unfold raF; rw [h1, h2]; rfl
      rw [e2, eB _ e1]
      exact aaI3_1t ra lr m k ops ops.length u0 u1 u2 (raF ra lr 0 f0) f1 f2 (raB ra lr m k 0) w0 [] [] (by
        repeat' (with_reducible apply and_t)
        all_goals first
          | rfl
          | exact opsL_noOwn _
          | (rw [Nat.blt_eq]; simp only [decide_eq_true_eq] at *; omega)
          | (refine hra _ ?_; simp only [decide_eq_true_eq] at *; omega)
          | exact h1
          | exact not_t h1
          | exact h2
          | exact not_t h2
          | (simp only [decide_eq_true_eq] at *; omega)
          | (simp only [*]; rfl))

theorem aaR3_2 (ra : List AV) (lr : Nat) (m k : Int) (ops : List TOp) (u0 u1 u2 : Int) (f0 f1 f2 : Nat) (hl : lr ≤ ra.length) (hra : ∀ i, i < ra.length → (ra.getD i .undef).isInt .i64 = true) (w0 : World) : Goes CA3 w0 85 aaBody (aaS3 ra lr m k ops u0 u1 u2 f0 f1 f2 2) .normal (aaS3 ra lr m k ops u0 u1 u2 f0 f1 f2 3) := by
  show Goes CA3 w0 85 aaBody (mk [4,5,6,15,16,17,18] [.snap ra lr, .int .i64 m, .int .i64 k, .ptr 0 0, .slc 3 0 3, .slc 4 0 2, .int .i64 2] [⟨[.int .i64 3, .slc 1 0 ops.length, .slc 2 0 3], 53⟩, ⟨opsL ops, 57⟩, ⟨[.int .i64 u0, .int .i64 u1, .int .i64 u2], 3⟩, ⟨[.flt (raF ra lr 0 f0), .flt (raF ra lr 1 f1), .flt f2], 24⟩, ⟨[.flt (raB ra lr m k 0).1, .flt (raB ra lr m k 0).2, .flt (raB ra lr m k 1).1, .flt (raB ra lr m k 1).2], 26⟩] []) .normal (mk [4,5,6,15,16,17,18] [.snap ra lr, .int .i64 m, .int .i64 k, .ptr 0 0, .slc 3 0 3, .slc 4 0 3, .int .i64 3] [⟨[.int .i64 3, .slc 1 0 ops.length, .slc 2 0 3], 53⟩, ⟨opsL ops, 57⟩, ⟨[.int .i64 u0, .int .i64 u1, .int .i64 u2], 3⟩, ⟨[.flt (raF ra lr 0 f0), .flt (raF ra lr 1 f1), .flt (raF ra lr 2 f2)], 24⟩, ⟨[.flt (raB ra lr m k 0).1, .flt (raB ra lr m k 0).2, .flt (raB ra lr m k 1).1, .flt (raB ra lr m k 1).2, .flt (raB ra lr m k 2).1, .flt (raB ra lr m k 2).2], 26⟩] [])
  have eB : ∀ w : Int, raW ra lr 2 = w → raB ra lr m k 2 = l2V (IntKind.wrap IntKind.i64 (m + (2 : Int))) k w := fun w h => by subst h; rfl
  cases h1 : decide (((2 : Nat) : Int) < (lr : Int)) with
  | false =>
    have e1 : raW ra lr 2 = 3 := by unfold raW; rw [h1]; rfl
    have e2 : raF ra lr 2 f2 = f2 := by unfold raF; rw [h1]; rfl
    rw [e2, eB _ e1]
    exact aaI3_2n ra lr m k ops ops.length u0 u1 u2 (raF ra lr 0 f0) (raF ra lr 1 f1) f2 (raB ra lr m k 0) (raB ra lr m k 1) w0 [] [] (by
        repeat' (with_reducible apply and_t)
        all_goals first
          | rfl
          | exact opsL_noOwn _
          | (rw [Nat.blt_eq]; simp only [decide_eq_true_eq] at *; omega)
          | (refine hra _ ?_; simp only [decide_eq_true_eq] at *; omega)
          | exact h1
          | exact not_t h1
          | exact h2
          | exact not_t h2
          | (simp only [decide_eq_true_eq] at *; omega)
          | (simp only [*]; rfl))
  | true =>
    have e1 : raW ra lr 2 = AV.toInt (ra.getD 2 .undef) := by unfold raW; rw [h1]; rfl
    cases h2 : wi (AV.toInt (ra.getD 2 .undef)) 5 == 0 with
    | false =>
      have e2 : raF ra lr 2 f2 = f2 := by unfold raF; rw [h1, h2]; rfl
      rw [e2, eB _ e1]
      exact aaI3_2f ra lr m k ops ops.length u0 u1 u2 (raF ra lr 0 f0) (raF ra lr 1 f1) f2 (raB ra lr m k 0) (raB ra lr m k 1) w0 [] [] (by
        repeat' (with_reducible apply and_t)
        all_goals first
          | rfl
          | exact opsL_noOwn _
          | (rw [Nat.blt_eq]; simp only [decide_eq_true_eq] at *; omega)
          | (refine hra _ ?_; simp only [decide_eq_true_eq] at *; omega)
          | exact h1
          | exact not_t h1
          | exact h2
          | exact not_t h2
          | (simp only [decide_eq_true_eq] at *; omega)
          | (simp only [*]; rfl))
    | true =>
      have e2 : raF ra lr 2 f2 = rareV (AV.toInt (ra.getD 2 .undef)) := by unfold raF; rw [h1, h2]; rfl
      rw [e2, eB _ e1]
      exact aaI3_2t ra lr m k ops ops.length u0 u1 u2 (raF ra lr 0 f0) (raF ra lr 1 f1) f2 (raB ra lr m k 0) (raB ra lr m k 1) w0 [] [] (by
        repeat' (with_reducible apply and_t)
        all_goals first
          | rfl
          | exact opsL_noOwn _
          | (rw [Nat.blt_eq]; simp only [decide_eq_true_eq] at *; omega)
          | (refine hra _ ?_; simp only [decide_eq_true_eq] at *; omega)
          | exact h1
          | exact not_t h1
          | exact h2
          | exact not_t h2
          | (simp only [decide_eq_true_eq] at *; omega)
          | (simp only [*]; rfl))

theorem aaRest3 (ra : List AV) (lr : Nat) (m k : Int) (ops : List TOp) (u0 u1 u2 : Int) (f0 f1 f2 : Nat) (hl : lr ≤ ra.length) (hra : ∀ i, i < ra.length → (ra.getD i .undef).isInt .i64 = true) (hF : FldOk 3 .i64 3 (opsL ops) ops.length (intL [u0, u1, u2]) 3) (w0 : World) :
    Goes CA3 w0 85 (cR (cR (cR (cR aaC)))) (mk [4,5,6,15,16] [.snap ra lr, .int .i64 m, .int .i64 k, .ptr 0 0, .slc 3 0 3] [⟨[.int .i64 3, .slc 1 0 ops.length, .slc 2 0 3], 53⟩, ⟨opsL ops, 57⟩, ⟨[.int .i64 u0, .int .i64 u1, .int .i64 u2], 3⟩, ⟨[.flt f0, .flt f1, .flt f2], 24⟩] []) .ret (mk [14] [.bool true] [] []) := by
  refine goes_seq (by kernel_rfl) (aaF3 ra lr m k ops ops.length u0 u1 u2 f0 f1 f2 w0 [] [] ?_) (goes_seq (by kernel_rfl) (aaG3 ra lr m k ops ops.length u0 u1 u2 f0 f1 f2 w0 [] [] ?_) (goes_seq (by kernel_rfl) (goes_seq (by kernel_rfl) (aaH3 ra lr m k ops ops.length u0 u1 u2 f0 f1 f2 w0 [] [] ?_) (goes_block (id := 0) (by kernel_rfl) (goes_loop (by kernel_rfl) (fun h => by cases h) 3 (aaS3 ra lr m k ops u0 u1 u2 f0 f1 f2) (s2 := mk [15,16,17] [.ptr 0 0, .slc 3 0 3, .slc 4 0 3] [⟨[.int .i64 3, .slc 1 0 ops.length, .slc 2 0 3], 53⟩, ⟨opsL ops, 57⟩, ⟨[.int .i64 u0, .int .i64 u1, .int .i64 u2], 3⟩, ⟨[.flt (raF ra lr 0 f0), .flt (raF ra lr 1 f1), .flt (raF ra lr 2 f2)], 24⟩, ⟨[.flt (raB ra lr m k 0).1, .flt (raB ra lr m k 0).2, .flt (raB ra lr m k 1).1, .flt (raB ra lr m k 1).2, .flt (raB ra lr m k 2).1, .flt (raB ra lr m k 2).2], 26⟩] []) ?_ ?_))) (aaZ3 ops ops.length u0 u1 u2 (raF ra lr 0 f0) (raF ra lr 1 f1) (raF ra lr 2 f2) (raB ra lr m k 0) (raB ra lr m k 1) (raB ra lr m k 2) w0 [] [] ?_)))
  · repeat' (with_reducible apply and_t)
    all_goals first
      | rfl
      | exact decide_eq_true rfl
      | exact opsL_noOwn _
      | exact pb_of ⟨by trivial, hF, ⟨rfl, [f0, f1, f2], rfl, rfl⟩⟩
      | exact pb_of ⟨hF, ⟨rfl, [f0, f1, f2], rfl, rfl⟩⟩
      | exact pb_of ⟨by trivial, hF, ⟨rfl, [((raB ra lr m k 0).1, (raB ra lr m k 0).2), ((raB ra lr m k 1).1, (raB ra lr m k 1).2), ((raB ra lr m k 2).1, (raB ra lr m k 2).2)], rfl, rfl⟩⟩
      | exact pb_of ⟨hF, ⟨rfl, [((raB ra lr m k 0).1, (raB ra lr m k 0).2), ((raB ra lr m k 1).1, (raB ra lr m k 1).2), ((raB ra lr m k 2).1, (raB ra lr m k 2).2)], rfl, rfl⟩⟩
  · simp [opsL_noOwn]
  · simp [opsL_noOwn]
  · intro i hi
    match i, hi with
    | 0, _ => exact aaR3_0 ra lr m k ops u0 u1 u2 f0 f1 f2 hl hra w0
    | 1, _ => exact aaR3_1 ra lr m k ops u0 u1 u2 f0 f1 f2 hl hra w0
    | 2, _ => exact aaR3_2 ra lr m k ops u0 u1 u2 f0 f1 f2 hl hra w0
    | i + 3, h => omega
  · exact aaX3 ra lr m k ops ops.length u0 u1 u2 (raF ra lr 0 f0) (raF ra lr 1 f1) (raF ra lr 2 f2) (raB ra lr m k 0) (raB ra lr m k 1) (raB ra lr m k 2) w0 [] [] (by simp [opsL_noOwn])
  · repeat' (with_reducible apply and_t)
    all_goals first
      | rfl
      | exact decide_eq_true rfl
      | exact opsL_noOwn _
      | exact pb_of ⟨by trivial, hF, ⟨rfl, [raF ra lr 0 f0, raF ra lr 1 f1, raF ra lr 2 f2], rfl, rfl⟩⟩
      | exact pb_of ⟨hF, ⟨rfl, [raF ra lr 0 f0, raF ra lr 1 f1, raF ra lr 2 f2], rfl, rfl⟩⟩
      | exact pb_of ⟨by trivial, hF, ⟨rfl, [((raB ra lr m k 0).1, (raB ra lr m k 0).2), ((raB ra lr m k 1).1, (raB ra lr m k 1).2), ((raB ra lr m k 2).1, (raB ra lr m k 2).2)], rfl, rfl⟩⟩
      | exact pb_of ⟨hF, ⟨rfl, [((raB ra lr m k 0).1, (raB ra lr m k 0).2), ((raB ra lr m k 1).1, (raB ra lr m k 1).2), ((raB ra lr m k 2).1, (raB ra lr m k 2).2)], rfl, rfl⟩⟩

theorem con_all3 (n : Int) (ns : List AV) (ln : Nat) (hns : LmkOk ns ln) (hN : wi n 3 + 1 = (3 : Nat)) (d : Bool) (ms : List AV) (lm : Nat) (hms : LmkOk ms lm) (ra : List AV) (lr : Nat) (hra : LmkOk ra lr) (m k : Int) (nb : Nat) :
    Con prog 15 [.int .i64 n, .snap ns ln, .bool d, .snap ms lm, .snap ra lr, .int .i64 m, .int .i64 k] nb (.bool true) [] := by
  have hF := fld_lmk n 3 (.inr (.inr rfl)) d ns ln
  have hl := lmkOps_length n 3 (.inr (.inr rfl)) d ns ln
  refine con_goesKC (es := esA3) (d := 8) (deep := shallow [56, 107, 63, 59, 109, 74]) 85 (by kernel_rfl) (dec := []) (e := .ret) (s := mk [14] [.bool true] [] []) [] (r := ⟨_, _, true⟩) (by kernel_rfl) rfl (.inl rfl) fun w0 => ?_
  refine goes_seq (by kernel_rfl) (aaA3 n ns ln d ms lm ra lr m k w0 []) (goes_seq (by kernel_rfl) (aaB3 n ns ln d ms lm ra lr m k w0 [] []) (goes_seq (by kernel_rfl) (aaD3 n ns ln d ms lm ra lr m k w0 [] [] ?_) ?_))
  · rw [opsL_noOwn]
    simp only [Bool.true_and, Bool.and_true]
    exact pb_of ⟨by trivial, hns, hN⟩
  · rw [← hl]
    rw [← hl] at hF
    generalize lmkOps n 3 d ns ln = ops at *
    refine goes_seq (by kernel_rfl) (aaE3 ms lm ra lr m k ops ops.length (outT n ops.length 0) (outT n ops.length 1) (outT n ops.length 2) w0 [] [] ?_) (aaRest3 ra lr m k ops (outT n ops.length 0) (outT n ops.length 1) (outT n ops.length 2) (valV ms lm 0) (valV ms lm 1) (valV ms lm 2) hra.1 hra.2 hF w0)
    rw [opsL_noOwn]
    simp only [Bool.true_and, Bool.and_true]
    exact pb_of ⟨by trivial, by trivial, hms⟩

theorem con_jacAll (n : Int) (zs : List Int) (len : Nat) (h : len ≤ zs.length) (d : Bool) (ms : List Int) (lm : Nat) (hm : lm ≤ ms.length) (ra : List Int) (lr : Nat) (hr : lr ≤ ra.length) (m k : Int) (nb : Nat) :
    Con prog 15 [.int .i64 n, .snap (zs.map (AV.int .i64)) len, .bool d, .snap (ms.map (AV.int .i64)) lm, .snap (ra.map (AV.int .i64)) lr, .int .i64 m, .int .i64 k] nb (.bool true) [] := by
  have h1 := lmkOk_ints h
  have h2 := lmkOk_ints hm
  have h3 := lmkOk_ints hr
  rcases wi3 n with hN | hN | hN
  · exact con_all1 n _ len h1 hN d _ lm h2 _ lr h3 m k nb
  · exact con_all2 n _ len h1 hN d _ lm h2 _ lr h3 m k nb
  · exact con_all3 n _ len h1 hN d _ lm h2 _ lr h3 m k nb
end Try
end Go.Eng

/- Part 5 of what the proof leans on: Models, part 7; Models; Models, part 8; ModelEvals, part 1; ModelEvals, part 2. Conditions: as each theorem says. -/
import Derived.Test.YtcigcfneldipkaaC4
set_option linter.unusedVariables false
/- Models, part 7: tapes of Models: contracts (model.Eval, enveloperef5.Eval). Condition: the tape may be. Written by wip/tools/genW18.py. -/
namespace Go.Eng
open Go Go.RowKit Go.Eng.Try

theorem ms_at {rs : List Mod} {a : Int} (h0 : 0 ≤ a) (h1 : a < rs.length) : etas ls20 (modsL rs) (a.toNat * 20) = modL (mAt rs a) ∧ etasOk ls20 (modsL rs) (a.toNat * 20) = true :=
  etas_mods rs a.toNat (by omega)
theorem rm_at {m : Nat} {rs : List Mod} {a : Int} (h0 : 0 ≤ a) (h1 : a < rs.length) : etas ls20 (rmC m rs) (a.toNat * 20) = modL (mAt rs a) ∧ etasOk ls20 (rmC m rs) (a.toNat * 20) = true := by
  have h := etas_mods (rs ++ List.replicate (m - rs.length) zM) a.toNat (by rw [List.length_append]; omega)
  rw [getD_append_left _ _ _ _ (by omega)] at h
  exact h
theorem rmC_length {m : Nat} {rs : List Mod} (h : rs.length ≤ m) : (rmC m rs).length = 20 * m := by
  unfold rmC
  rw [modsL_length, List.length_append, List.length_replicate]
  omega
theorem rmC_noOwn (m : Nat) (rs : List Mod) : (rmC m rs).all AV.noOwn = true := modsL_noOwn _
theorem rmC_set {m : Nat} {rs : List Mod} (h : rs.length < m) (x : Mod) : setL (rmC m rs) (rs.length * 20) (modL x) = rmC m (rs ++ [x]) := by
  unfold rmC
  rw [modsL_set _ _ _ (by rw [List.length_append, List.length_replicate]; omega), show m - rs.length = (m - (rs ++ [x]).length) + 1 by simp; omega, set_snoc]
theorem rmC_nil (m : Nat) : List.flatten (List.replicate m (modL zM)) = rmC m [] := by
  unfold rmC
  rw [List.nil_append, List.length_nil, Nat.sub_zero]
  induction m with
  | zero => rfl
  | succ m ih => rw [List.replicate_succ, List.flatten_cons, ih, List.replicate_succ]; rfl

namespace Try
open Go.Proofs.Try

def mqSt (N : Nat) (xs : List Mod) (ops : List TOp) (outs : List Int) (rs : List Mod) (i : Nat) : St :=
  mk [1,2,5,12,13,14] [.snap (modsL xs) xs.length, .ptr 0 0, .slc 1 0 i, .snap (opsL ops) ops.length, .int .i64 ops.length, .int .i64 (i : Int)] [⟨[.int .i64 N, .snap (opsL ops) ops.length, .snap (intL outs) N], 53⟩, ⟨modsL rs, 46⟩] []
def mrSt (N : Nat) (xs : List Mod) (ops : List TOp) (outs : List Int) (rs : List Mod) (i : Nat) : St :=
  mk [1,2,5,6] [.snap (modsL xs) xs.length, .ptr 0 0, .slc 1 0 ops.length, .int .i64 (i : Int)] [⟨[.int .i64 N, .snap (opsL ops) ops.length, .snap (intL outs) N], 53⟩, ⟨rmC ops.length rs, 46⟩] []

theorem mqRound (N : Nat) (xs : List Mod) (ops : List TOp) (outs : List Int) (rs : List Mod) (i : Nat) (hi : i < ops.length) (hm : ops.length < 1000) (hl : rs.length = i) (ho : OpsOk xs.length ops) (w0 : World) :
    Goes CY w0 124 mqBody (mqSt N xs ops outs rs i) .normal (mqSt N xs ops outs (rs ++ [stepM xs rs (ops.getD i op0)]) (i + 1)) := by
  have ew : IntKind.i64.wrap ((i : Int) + 1) = ((i + 1 : Nat) : Int) := by rw [wrapI (by omega) (by omega)]; rfl
  obtain ⟨g0, g1, g2, g3⟩ := opsL_at ops i hi
  rw [Int.toNat_natCast] at g0 g1 g2 g3
  have hop := ho i hi
  have hlen := opsL_length ops
  have hml := modsL_length rs
  have hxl := modsL_length xs
  have fin : ∀ o, mk [1,2,5,12,13,14] [.snap (modsL xs) xs.length, .ptr 0 0, .slc 1 0 (i + 1), .snap (opsL ops) ops.length, .int .i64 (ops.length : Int), .int .i64 (IntKind.wrap .i64 ((i : Int) + 1))] [⟨[.int .i64 (N : Int), .snap (opsL ops) ops.length, .snap (intL outs) N], 53⟩, ⟨modsL (rs ++ [stepM xs rs o]), 46⟩] [] = mqSt N xs ops outs (rs ++ [stepM xs rs o]) (i + 1) := fun o => by unfold mqSt; rw [← ew]
  generalize ops.getD i op0 = o at *
  obtain ⟨k, a, b, c⟩ := o
  dsimp only at g0 g1 g2 g3
  rcases hop with ⟨hk, _⟩ | ⟨hk, h0, h1, _⟩ | ⟨hk, h0, h1, h2, h3, _⟩
  · dsimp only at hk
    subst hk
    refine goes_to (mqI0 xs xs.length ops ops.length outs N rs i a b c w0 [] [] ?_) (fin _)
    simp only [Int.toNat_natCast, Nat.zero_add]
    simp only [Bool.and_eq_true]
    and_intros
    all_goals first
      | rfl
      | exact trivial
      | (simp only [decide_eq_true_eq, hml, Int.toNat_natCast]; omega)
      | (simp only [Nat.ble_eq, hml, hxl, hlen]; omega)
      | (simp only [etasOk, g0, g1, g2, g3]; rfl)
      | (apply pb_of; simp only [g0, g1, g2, g3, AV.toInt, AV.toFlt]; done)
      | exact pb_of (by rw [modsL_append]; exact SubP.append (SubP.same (modsL_noOwn _)) (SubP.same (A := modL (stepM xs rs ⟨0, a, b, c⟩) ++ []) rfl))
      | exact pb_of ⟨by trivial, by simp⟩
      | exact pb_of rfl
  · dsimp only at hk h0 h1
    subst hk
    have hx := ms_at (rs := xs) h0 h1
    refine goes_to (mqI1 xs xs.length ops ops.length outs N rs i a b c w0 [] [] ?_) (fin _)
    simp only [Int.toNat_natCast, Nat.zero_add]
    simp only [Bool.and_eq_true]
    and_intros
    all_goals first
      | rfl
      | exact trivial
      | (simp only [decide_eq_true_eq, hml, Int.toNat_natCast]; omega)
      | (simp only [Nat.ble_eq, hml, hxl, hlen]; omega)
      | (simp only [etasOk, g0, g1, g2, g3]; rfl)
      | (apply pb_of; simp only [g0, g1, g2, g3, AV.toInt, AV.toFlt]; done)
      | exact hx.2
      | exact pb_of (congrArg AV.agg hx.1)
      | exact pb_of (by rw [modsL_append]; exact SubP.append (SubP.same (modsL_noOwn _)) (SubP.same (A := modL (stepM xs rs ⟨1, a, b, c⟩) ++ []) rfl))
      | exact pb_of ⟨by trivial, by simp⟩
      | exact pb_of rfl
  · dsimp only at hk h0 h1 h2 h3
    have ha := ms_at h0 (show a < rs.length by omega)
    have hb := ms_at h2 (show b < rs.length by omega)
    rcases hk with hk | hk | hk | hk <;> subst hk
    · refine goes_to (mqI2 xs xs.length ops ops.length outs N rs i a b c w0 [] [] ?_) (fin _)
      simp only [Int.toNat_natCast, Nat.zero_add]
      simp only [Bool.and_eq_true]
      and_intros
      all_goals first
        | rfl
        | exact trivial
        | (simp only [decide_eq_true_eq, hml, Int.toNat_natCast]; omega)
        | (simp only [Nat.ble_eq, hml, hxl, hlen]; omega)
        | (simp only [etasOk, g0, g1, g2, g3]; rfl)
        | (apply pb_of; simp only [g0, g1, g2, g3, AV.toInt, AV.toFlt]; done)
        | exact ha.2
        | exact hb.2
        | exact pb_of (congrArg AV.agg ha.1)
        | exact pb_of (congrArg AV.agg hb.1)
        | exact pb_of (by rw [modsL_append]; exact SubP.append (SubP.same (modsL_noOwn _)) (SubP.same (A := modL (stepM xs rs ⟨2, a, b, c⟩) ++ []) rfl))
        | exact pb_of ⟨by trivial, by simp⟩
        | exact pb_of rfl
    · refine goes_to (mqI3 xs xs.length ops ops.length outs N rs i a b c w0 [] [] ?_) (fin _)
      simp only [Int.toNat_natCast, Nat.zero_add]
      simp only [Bool.and_eq_true]
      and_intros
      all_goals first
        | rfl
        | exact trivial
        | (simp only [decide_eq_true_eq, hml, Int.toNat_natCast]; omega)
        | (simp only [Nat.ble_eq, hml, hxl, hlen]; omega)
        | (simp only [etasOk, g0, g1, g2, g3]; rfl)
        | (apply pb_of; simp only [g0, g1, g2, g3, AV.toInt, AV.toFlt]; done)
        | exact ha.2
        | exact hb.2
        | exact pb_of (congrArg AV.agg ha.1)
        | exact pb_of (congrArg AV.agg hb.1)
        | exact pb_of (by rw [modsL_append]; exact SubP.append (SubP.same (modsL_noOwn _)) (SubP.same (A := modL (stepM xs rs ⟨3, a, b, c⟩) ++ []) rfl))
        | exact pb_of ⟨by trivial, by simp⟩
        | exact pb_of rfl
    · refine goes_to (mqI4 xs xs.length ops ops.length outs N rs i a b c w0 [] [] ?_) (fin _)
      simp only [Int.toNat_natCast, Nat.zero_add]
      simp only [Bool.and_eq_true]
      and_intros
      all_goals first
        | rfl
        | exact trivial
        | (simp only [decide_eq_true_eq, hml, Int.toNat_natCast]; omega)
        | (simp only [Nat.ble_eq, hml, hxl, hlen]; omega)
        | (simp only [etasOk, g0, g1, g2, g3]; rfl)
        | (apply pb_of; simp only [g0, g1, g2, g3, AV.toInt, AV.toFlt]; done)
        | exact ha.2
        | exact hb.2
        | exact pb_of (congrArg AV.agg ha.1)
        | exact pb_of (congrArg AV.agg hb.1)
        | exact pb_of (by rw [modsL_append]; exact SubP.append (SubP.same (modsL_noOwn _)) (SubP.same (A := modL (stepM xs rs ⟨4, a, b, c⟩) ++ []) rfl))
        | exact pb_of ⟨by trivial, by simp⟩
        | exact pb_of rfl
    · refine goes_to (mqI5 xs xs.length ops ops.length outs N rs i a b c w0 [] [] ?_) (fin _)
      simp only [Int.toNat_natCast, Nat.zero_add]
      simp only [Bool.and_eq_true]
      and_intros
      all_goals first
        | rfl
        | exact trivial
        | (simp only [decide_eq_true_eq, hml, Int.toNat_natCast]; omega)
        | (simp only [Nat.ble_eq, hml, hxl, hlen]; omega)
        | (simp only [etasOk, g0, g1, g2, g3]; rfl)
        | (apply pb_of; simp only [g0, g1, g2, g3, AV.toInt, AV.toFlt]; done)
        | exact ha.2
        | exact hb.2
        | exact pb_of (congrArg AV.agg ha.1)
        | exact pb_of (congrArg AV.agg hb.1)
        | exact pb_of (by rw [modsL_append]; exact SubP.append (SubP.same (modsL_noOwn _)) (SubP.same (A := modL (stepM xs rs ⟨5, a, b, c⟩) ++ []) rfl))
        | exact pb_of ⟨by trivial, by simp⟩
        | exact pb_of rfl

theorem mrRound (N : Nat) (xs : List Mod) (ops : List TOp) (outs : List Int) (rs : List Mod) (i : Nat) (hi : i < ops.length) (hm : ops.length < 1000) (hl : rs.length = i) (ho : OpsOk xs.length ops) (w0 : World) :
    Goes CY w0 81 mrBody (mrSt N xs ops outs rs i) .normal (mrSt N xs ops outs (rs ++ [stepM xs rs (ops.getD i op0)]) (i + 1)) := by
  have ew : IntKind.i64.wrap ((i : Int) + 1) = ((i + 1 : Nat) : Int) := by rw [wrapI (by omega) (by omega)]; rfl
  obtain ⟨g0, g1, g2, g3⟩ := opsL_at ops i hi
  rw [Int.toNat_natCast] at g0 g1 g2 g3
  have hop := ho i hi
  have hlen := opsL_length ops
  have hml := modsL_length rs
  have hxl := modsL_length xs
  have hrl : (rmC ops.length rs).length = 20 * ops.length := rmC_length (by omega)
  have hset : ∀ x, setL (rmC ops.length rs) (i * 20) (modL x) = rmC ops.length (rs ++ [x]) := fun x => by subst hl; exact rmC_set (by omega) x
  have fin : ∀ o, mk [1,2,5,6] [.snap (modsL xs) xs.length, .ptr 0 0, .slc 1 0 ops.length, .int .i64 (IntKind.wrap .i64 ((i : Int) + 1))] [⟨[.int .i64 (N : Int), .snap (opsL ops) ops.length, .snap (intL outs) N], 53⟩, ⟨rmC ops.length (rs ++ [stepM xs rs o]), 46⟩] [] = mrSt N xs ops outs (rs ++ [stepM xs rs o]) (i + 1) := fun o => by unfold mrSt; rw [← ew]
  generalize ops.getD i op0 = o at *
  obtain ⟨k, a, b, c⟩ := o
  dsimp only at g0 g1 g2 g3
  rcases hop with ⟨hk, _⟩ | ⟨hk, h0, h1, _⟩ | ⟨hk, h0, h1, h2, h3, _⟩
  · dsimp only at hk
    subst hk
    refine goes_to (mrI0 xs xs.length ops ops.length outs N rs i a b c w0 [] [] ?_) (fin _)
    simp only [Int.toNat_natCast, Nat.zero_add]
    simp only [Bool.and_eq_true]
    and_intros
    all_goals first
      | rfl
      | exact trivial
      | (simp only [decide_eq_true_eq]; omega)
      | (simp only [Nat.ble_eq, hrl, hxl, hlen]; omega)
      | (simp only [etasOk, g0, g1, g2, g3]; rfl)
      | (apply pb_of; simp only [g0, g1, g2, g3, AV.toInt, AV.toFlt]; done)
      | exact pb_of (by rw [← hset]; exact SubP.same (A := setL (rmC ops.length rs) (i * 20) (modL (stepM xs rs ⟨0, a, b, c⟩))) (by rw [hset]; exact rmC_noOwn _ _))
      | exact pb_of ⟨by trivial, by simp⟩
      | exact pb_of rfl
  · dsimp only at hk h0 h1
    subst hk
    have hx := ms_at (rs := xs) h0 h1
    refine goes_to (mrI1 xs xs.length ops ops.length outs N rs i a b c w0 [] [] ?_) (fin _)
    simp only [Int.toNat_natCast, Nat.zero_add]
    simp only [Bool.and_eq_true]
    and_intros
    all_goals first
      | rfl
      | exact trivial
      | (simp only [decide_eq_true_eq]; omega)
      | (simp only [Nat.ble_eq, hrl, hxl, hlen]; omega)
      | (simp only [etasOk, g0, g1, g2, g3]; rfl)
      | (apply pb_of; simp only [g0, g1, g2, g3, AV.toInt, AV.toFlt]; done)
      | exact hx.2
      | exact pb_of (congrArg AV.agg hx.1)
      | exact pb_of (by rw [← hset]; exact SubP.same (A := setL (rmC ops.length rs) (i * 20) (modL (stepM xs rs ⟨1, a, b, c⟩))) (by rw [hset]; exact rmC_noOwn _ _))
      | exact pb_of ⟨by trivial, by simp⟩
      | exact pb_of rfl
  · dsimp only at hk h0 h1 h2 h3
    have ha := rm_at (m := ops.length) h0 (show a < rs.length by omega)
    have hb := rm_at (m := ops.length) h2 (show b < rs.length by omega)
    rcases hk with hk | hk | hk | hk <;> subst hk
    · refine goes_to (mrI2 xs xs.length ops ops.length outs N rs i a b c w0 [] [] ?_) (fin _)
      simp only [Int.toNat_natCast, Nat.zero_add]
      simp only [Bool.and_eq_true]
      and_intros
      all_goals first
        | rfl
        | exact trivial
        | (simp only [decide_eq_true_eq]; omega)
        | (simp only [Nat.ble_eq, hrl, hxl, hlen]; omega)
        | (simp only [etasOk, g0, g1, g2, g3]; rfl)
        | (apply pb_of; simp only [g0, g1, g2, g3, AV.toInt, AV.toFlt]; done)
        | exact ha.2
        | exact hb.2
        | exact pb_of (congrArg AV.agg ha.1)
        | exact pb_of (congrArg AV.agg hb.1)
        | exact pb_of (by rw [← hset]; exact SubP.same (A := setL (rmC ops.length rs) (i * 20) (modL (stepM xs rs ⟨2, a, b, c⟩))) (by rw [hset]; exact rmC_noOwn _ _))
        | exact pb_of ⟨by trivial, by simp⟩
        | exact pb_of rfl
    · refine goes_to (mrI3 xs xs.length ops ops.length outs N rs i a b c w0 [] [] ?_) (fin _)
      simp only [Int.toNat_natCast, Nat.zero_add]
      simp only [Bool.and_eq_true]
      and_intros
      all_goals first
        | rfl
        | exact trivial
        | (simp only [decide_eq_true_eq]; omega)
        | (simp only [Nat.ble_eq, hrl, hxl, hlen]; omega)
        | (simp only [etasOk, g0, g1, g2, g3]; rfl)
        | (apply pb_of; simp only [g0, g1, g2, g3, AV.toInt, AV.toFlt]; done)
        | exact ha.2
        | exact hb.2
        | exact pb_of (congrArg AV.agg ha.1)
        | exact pb_of (congrArg AV.agg hb.1)
        | exact pb_of (by rw [← hset]; exact SubP.same (A := setL (rmC ops.length rs) (i * 20) (modL (stepM xs rs ⟨3, a, b, c⟩))) (by rw [hset]; exact rmC_noOwn _ _))
        | exact pb_of ⟨by trivial, by simp⟩
        | exact pb_of rfl
    · refine goes_to (mrI4 xs xs.length ops ops.length outs N rs i a b c w0 [] [] ?_) (fin _)
      simp only [Int.toNat_natCast, Nat.zero_add]
      simp only [Bool.and_eq_true]
      and_intros
      all_goals first
        | rfl
        | exact trivial
        | (simp only [decide_eq_true_eq]; omega)
        | (simp only [Nat.ble_eq, hrl, hxl, hlen]; omega)
        | (simp only [etasOk, g0, g1, g2, g3]; rfl)
        | (apply pb_of; simp only [g0, g1, g2, g3, AV.toInt, AV.toFlt]; done)
        | exact ha.2
        | exact hb.2
        | exact pb_of (congrArg AV.agg ha.1)
        | exact pb_of (congrArg AV.agg hb.1)
        | exact pb_of (by rw [← hset]; exact SubP.same (A := setL (rmC ops.length rs) (i * 20) (modL (stepM xs rs ⟨4, a, b, c⟩))) (by rw [hset]; exact rmC_noOwn _ _))
        | exact pb_of ⟨by trivial, by simp⟩
        | exact pb_of rfl
    · refine goes_to (mrI5 xs xs.length ops ops.length outs N rs i a b c w0 [] [] ?_) (fin _)
      simp only [Int.toNat_natCast, Nat.zero_add]
      simp only [Bool.and_eq_true]
      and_intros
      all_goals first
        | rfl
        | exact trivial
        | (simp only [decide_eq_true_eq]; omega)
        | (simp only [Nat.ble_eq, hrl, hxl, hlen]; omega)
        | (simp only [etasOk, g0, g1, g2, g3]; rfl)
        | (apply pb_of; simp only [g0, g1, g2, g3, AV.toInt, AV.toFlt]; done)
        | exact ha.2
        | exact hb.2
        | exact pb_of (congrArg AV.agg ha.1)
        | exact pb_of (congrArg AV.agg hb.1)
        | exact pb_of (by rw [← hset]; exact SubP.same (A := setL (rmC ops.length rs) (i * 20) (modL (stepM xs rs ⟨5, a, b, c⟩))) (by rw [hset]; exact rmC_noOwn _ _))
        | exact pb_of ⟨by trivial, by simp⟩
        | exact pb_of rfl

theorem con_mq1 (xs : List Mod) (ops : List TOp) (outs : List Int) (hm : ops.length < 1000) (ho : OpsOk xs.length ops) (hout : OutsOk 1 ops.length outs) (n : Nat) :
    Con prog 66 [.agg [.int .i64 1, .snap (opsL ops) ops.length, .snap (intL outs) 1], .snap (modsL xs) xs.length] n (.slc n 0 1) [⟨modsL [evM xs ops outs 0], 46⟩] := by
  have hrl : (runM xs ops ops.length).length = ops.length := runM_length _ _ _
  refine con_goesKC (es := esT) (d := 8) (deep := shallow []) 124 (by kernel_rfl) (dec := []) (e := .ret) (s := mk [4] [.slc 0 0 1] [⟨modsL [evM xs ops outs 0], 46⟩] []) [.flat] (r := ⟨_, _, true⟩) (by kernel_rfl) rfl (.inl rfl) fun w0 => ?_
  have hbl : (modsL (runM xs ops ops.length)).length = 20 * ops.length := by rw [modsL_length, hrl]
  refine goes_seq (by kernel_rfl) (mqA1 xs xs.length ops ops.length outs w0 []) (goes_seq (by kernel_rfl) (mqB xs xs.length ops ops.length outs 1 w0 [] []) (goes_seq (by kernel_rfl) (goes_seq (by kernel_rfl) (mqD xs xs.length ops ops.length outs 1 w0 [] []) ?_) (goes_to (mqE1 xs xs.length ops ops.length outs (runM xs ops ops.length) ops.length w0 [] [] ?_) rfl)))
  · refine goes_block (id := 0) (by kernel_rfl) (goes_nils (dec' := []) 2 46 rfl (goes_loop (by kernel_rfl) (fun h => by cases h) ops.length (fun i => mqSt 1 xs ops outs (runM xs ops i) i) (s2 := _) ?_ ?_))
    · intro i hi
      exact mqRound 1 xs ops outs (runM xs ops i) i hi hm (runM_length _ _ _) ho w0
    · exact mqX xs xs.length ops ops.length outs 1 (runM xs ops ops.length) ops.length w0 [] [] (by
        simp only [Bool.and_eq_true]
        and_intros
        all_goals first
          | rfl
          | exact trivial
          | exact modsL_noOwn _
          | simp)
  · have h0 := hout.2 0 (by omega)
    have o0 := intL_get (xs := outs) (i := 0) (by rw [hout.1]; omega)
    have m0 := ms_at (rs := runM xs ops ops.length) h0.1 (by rw [hrl]; exact h0.2)
    simp only [o0, AV.toInt]
    simp only [Bool.and_eq_true]
    and_intros
    all_goals first
      | rfl
      | exact trivial
      | exact m0.2
      | (simp only [Nat.blt_eq, Nat.ble_eq, intL_length, hbl, hout.1]; omega)
      | (simp only [decide_eq_true_eq]; omega)
      | (apply pb_of
         have hY : modsL [evM xs ops outs 0] = etas ls20 (modsL (runM xs ops ops.length)) ((outs.getD 0 0).toNat * 20) ++ ([]) := by
           simp only [modsL]
           rw [m0.1]
           rfl
         refine Eq.mp (congrArg (SubP true _ _ 0 _) hY.symm) ?_
         exact SubP.same (A := etas ls20 (modsL (runM xs ops ops.length)) ((outs.getD 0 0).toNat * 20) ++ ([])) rfl)

theorem con_mr1 (xs : List Mod) (ops : List TOp) (outs : List Int) (hm : ops.length < 1000) (ho : OpsOk xs.length ops) (hout : OutsOk 1 ops.length outs) (n : Nat) :
    Con prog 67 [.agg [.int .i64 1, .snap (opsL ops) ops.length, .snap (intL outs) 1], .snap (modsL xs) xs.length] n (.slc n 0 1) [⟨modsL [evM xs ops outs 0], 46⟩] := by
  have hrl : (runM xs ops ops.length).length = ops.length := runM_length _ _ _
  refine con_goesKC (es := esT) (d := 8) (deep := shallow []) 81 (by kernel_rfl) (dec := []) (e := .ret) (s := mk [4] [.slc 0 0 1] [⟨modsL [evM xs ops outs 0], 46⟩] []) [.flat] (r := ⟨_, _, true⟩) (by kernel_rfl) rfl (.inl rfl) fun w0 => ?_
  have hbl : (rmC ops.length (runM xs ops ops.length)).length = 20 * ops.length := rmC_length (by omega)
  refine goes_seq (by kernel_rfl) (mrA1 xs xs.length ops ops.length outs w0 []) (goes_seq (by kernel_rfl) (goes_to (mrB xs xs.length ops ops.length outs 1 w0 [] [] ?_) ?_) (goes_seq (by kernel_rfl) (goes_seq (by kernel_rfl) (mrD xs xs.length ops ops.length outs 1 [] w0 [] [] ?_) (goes_block (id := 0) (by kernel_rfl) (goes_loop (by kernel_rfl) (fun h => by cases h) ops.length (fun i => mrSt 1 xs ops outs (runM xs ops i) i) (s2 := _) ?_ ?_))) (goes_to (mrE1 xs xs.length ops ops.length outs (runM xs ops ops.length) ops.length w0 [] [] ?_) rfl)))
  · simp only [Bool.and_eq_true]
    and_intros
    all_goals first
      | rfl
      | exact trivial
      | (apply pb_of; rw [← rmC_nil, Int.toNat_natCast]; exact SubP.same (A := List.flatten (List.replicate ops.length (modL zM))) (by rw [rmC_nil]; exact rmC_noOwn _ _))
      | (simp only [decide_eq_true_eq]; omega)
  · simp only [Int.toNat_natCast]
  · simp [rmC_noOwn]
  · intro i hi
    exact mrRound 1 xs ops outs (runM xs ops i) i hi hm (runM_length _ _ _) ho w0
  · exact mrX xs xs.length ops ops.length outs 1 (runM xs ops ops.length) ops.length w0 [] [] (by
      simp only [Bool.and_eq_true]
      and_intros
      all_goals first
        | rfl
        | exact trivial
        | exact rmC_noOwn _ _
        | simp)
  · have h0 := hout.2 0 (by omega)
    have o0 := intL_get (xs := outs) (i := 0) (by rw [hout.1]; omega)
    have m0 := rm_at (m := ops.length) (rs := runM xs ops ops.length) h0.1 (by rw [hrl]; exact h0.2)
    simp only [o0, AV.toInt]
    simp only [Bool.and_eq_true]
    and_intros
    all_goals first
      | rfl
      | exact trivial
      | exact m0.2
      | (simp only [Nat.blt_eq, Nat.ble_eq, intL_length, hbl, hout.1]; omega)
      | (simp only [decide_eq_true_eq]; omega)
      | (apply pb_of
         have hY : modsL [evM xs ops outs 0] = etas ls20 (rmC ops.length (runM xs ops ops.length)) ((outs.getD 0 0).toNat * 20) ++ ([]) := by
           simp only [modsL]
           rw [m0.1]
           rfl
         refine Eq.mp (congrArg (SubP true _ _ 0 _) hY.symm) ?_
         exact SubP.same (A := etas ls20 (rmC ops.length (runM xs ops ops.length)) ((outs.getD 0 0).toNat * 20) ++ ([])) rfl)

theorem con_mq2 (xs : List Mod) (ops : List TOp) (outs : List Int) (hm : ops.length < 1000) (ho : OpsOk xs.length ops) (hout : OutsOk 2 ops.length outs) (n : Nat) :
    Con prog 66 [.agg [.int .i64 2, .snap (opsL ops) ops.length, .snap (intL outs) 2], .snap (modsL xs) xs.length] n (.slc n 0 2) [⟨modsL [evM xs ops outs 0, evM xs ops outs 1], 46⟩] := by
  have hrl : (runM xs ops ops.length).length = ops.length := runM_length _ _ _
  refine con_goesKC (es := esT) (d := 8) (deep := shallow []) 124 (by kernel_rfl) (dec := []) (e := .ret) (s := mk [4] [.slc 0 0 2] [⟨modsL [evM xs ops outs 0, evM xs ops outs 1], 46⟩] []) [.flat] (r := ⟨_, _, true⟩) (by kernel_rfl) rfl (.inl rfl) fun w0 => ?_
  have hbl : (modsL (runM xs ops ops.length)).length = 20 * ops.length := by rw [modsL_length, hrl]
  refine goes_seq (by kernel_rfl) (mqA2 xs xs.length ops ops.length outs w0 []) (goes_seq (by kernel_rfl) (mqB xs xs.length ops ops.length outs 2 w0 [] []) (goes_seq (by kernel_rfl) (goes_seq (by kernel_rfl) (mqD xs xs.length ops ops.length outs 2 w0 [] []) ?_) (goes_to (mqE2 xs xs.length ops ops.length outs (runM xs ops ops.length) ops.length w0 [] [] ?_) rfl)))
  · refine goes_block (id := 0) (by kernel_rfl) (goes_nils (dec' := []) 2 46 rfl (goes_loop (by kernel_rfl) (fun h => by cases h) ops.length (fun i => mqSt 2 xs ops outs (runM xs ops i) i) (s2 := _) ?_ ?_))
    · intro i hi
      exact mqRound 2 xs ops outs (runM xs ops i) i hi hm (runM_length _ _ _) ho w0
    · exact mqX xs xs.length ops ops.length outs 2 (runM xs ops ops.length) ops.length w0 [] [] (by
        simp only [Bool.and_eq_true]
        and_intros
        all_goals first
          | rfl
          | exact trivial
          | exact modsL_noOwn _
          | simp)
  · have h0 := hout.2 0 (by omega)
    have o0 := intL_get (xs := outs) (i := 0) (by rw [hout.1]; omega)
    have m0 := ms_at (rs := runM xs ops ops.length) h0.1 (by rw [hrl]; exact h0.2)
    have h1 := hout.2 1 (by omega)
    have o1 := intL_get (xs := outs) (i := 1) (by rw [hout.1]; omega)
    have m1 := ms_at (rs := runM xs ops ops.length) h1.1 (by rw [hrl]; exact h1.2)
    simp only [o0, o1, AV.toInt]
    simp only [Bool.and_eq_true]
    and_intros
    all_goals first
      | rfl
      | exact trivial
      | exact m0.2
      | exact m1.2
      | (simp only [Nat.blt_eq, Nat.ble_eq, intL_length, hbl, hout.1]; omega)
      | (simp only [decide_eq_true_eq]; omega)
      | (apply pb_of
         have hY : modsL [evM xs ops outs 0, evM xs ops outs 1] = etas ls20 (modsL (runM xs ops ops.length)) ((outs.getD 0 0).toNat * 20) ++ (etas ls20 (modsL (runM xs ops ops.length)) ((outs.getD 1 0).toNat * 20) ++ ([])) := by
           simp only [modsL]
           rw [m0.1, m1.1]
           rfl
         refine Eq.mp (congrArg (SubP true _ _ 0 _) hY.symm) ?_
         exact SubP.same (A := etas ls20 (modsL (runM xs ops ops.length)) ((outs.getD 0 0).toNat * 20) ++ (etas ls20 (modsL (runM xs ops ops.length)) ((outs.getD 1 0).toNat * 20) ++ ([]))) rfl)

theorem con_mr2 (xs : List Mod) (ops : List TOp) (outs : List Int) (hm : ops.length < 1000) (ho : OpsOk xs.length ops) (hout : OutsOk 2 ops.length outs) (n : Nat) :
    Con prog 67 [.agg [.int .i64 2, .snap (opsL ops) ops.length, .snap (intL outs) 2], .snap (modsL xs) xs.length] n (.slc n 0 2) [⟨modsL [evM xs ops outs 0, evM xs ops outs 1], 46⟩] := by
  have hrl : (runM xs ops ops.length).length = ops.length := runM_length _ _ _
  refine con_goesKC (es := esT) (d := 8) (deep := shallow []) 81 (by kernel_rfl) (dec := []) (e := .ret) (s := mk [4] [.slc 0 0 2] [⟨modsL [evM xs ops outs 0, evM xs ops outs 1], 46⟩] []) [.flat] (r := ⟨_, _, true⟩) (by kernel_rfl) rfl (.inl rfl) fun w0 => ?_
  have hbl : (rmC ops.length (runM xs ops ops.length)).length = 20 * ops.length := rmC_length (by omega)
  refine goes_seq (by kernel_rfl) (mrA2 xs xs.length ops ops.length outs w0 []) (goes_seq (by kernel_rfl) (goes_to (mrB xs xs.length ops ops.length outs 2 w0 [] [] ?_) ?_) (goes_seq (by kernel_rfl) (goes_seq (by kernel_rfl) (mrD xs xs.length ops ops.length outs 2 [] w0 [] [] ?_) (goes_block (id := 0) (by kernel_rfl) (goes_loop (by kernel_rfl) (fun h => by cases h) ops.length (fun i => mrSt 2 xs ops outs (runM xs ops i) i) (s2 := _) ?_ ?_))) (goes_to (mrE2 xs xs.length ops ops.length outs (runM xs ops ops.length) ops.length w0 [] [] ?_) rfl)))
  · simp only [Bool.and_eq_true]
    and_intros
    all_goals first
      | rfl
      | exact trivial
      | (apply pb_of; rw [← rmC_nil, Int.toNat_natCast]; exact SubP.same (A := List.flatten (List.replicate ops.length (modL zM))) (by rw [rmC_nil]; exact rmC_noOwn _ _))
      | (simp only [decide_eq_true_eq]; omega)
  · simp only [Int.toNat_natCast]
  · simp [rmC_noOwn]
  · intro i hi
    exact mrRound 2 xs ops outs (runM xs ops i) i hi hm (runM_length _ _ _) ho w0
  · exact mrX xs xs.length ops ops.length outs 2 (runM xs ops ops.length) ops.length w0 [] [] (by
      simp only [Bool.and_eq_true]
      and_intros
      all_goals first
        | rfl
        | exact trivial
        | exact rmC_noOwn _ _
        | simp)
  · have h0 := hout.2 0 (by omega)
    have o0 := intL_get (xs := outs) (i := 0) (by rw [hout.1]; omega)
    have m0 := rm_at (m := ops.length) (rs := runM xs ops ops.length) h0.1 (by rw [hrl]; exact h0.2)
    have h1 := hout.2 1 (by omega)
    have o1 := intL_get (xs := outs) (i := 1) (by rw [hout.1]; omega)
    have m1 := rm_at (m := ops.length) (rs := runM xs ops ops.length) h1.1 (by rw [hrl]; exact h1.2)
    simp only [o0, o1, AV.toInt]
    simp only [Bool.and_eq_true]
    and_intros
    all_goals first
      | rfl
      | exact trivial
      | exact m0.2
      | exact m1.2
      | (simp only [Nat.blt_eq, Nat.ble_eq, intL_length, hbl, hout.1]; omega)
      | (simp only [decide_eq_true_eq]; omega)
      | (apply pb_of
         have hY : modsL [evM xs ops outs 0, evM xs ops outs 1] = etas ls20 (rmC ops.length (runM xs ops ops.length)) ((outs.getD 0 0).toNat * 20) ++ (etas ls20 (rmC ops.length (runM xs ops ops.length)) ((outs.getD 1 0).toNat * 20) ++ ([])) := by
           simp only [modsL]
           rw [m0.1, m1.1]
           rfl
         refine Eq.mp (congrArg (SubP true _ _ 0 _) hY.symm) ?_
         exact SubP.same (A := etas ls20 (rmC ops.length (runM xs ops ops.length)) ((outs.getD 0 0).toNat * 20) ++ (etas ls20 (rmC ops.length (runM xs ops ops.length)) ((outs.getD 1 0).toNat * 20) ++ ([]))) rfl)

theorem con_mq3 (xs : List Mod) (ops : List TOp) (outs : List Int) (hm : ops.length < 1000) (ho : OpsOk xs.length ops) (hout : OutsOk 3 ops.length outs) (n : Nat) :
    Con prog 66 [.agg [.int .i64 3, .snap (opsL ops) ops.length, .snap (intL outs) 3], .snap (modsL xs) xs.length] n (.slc n 0 3) [⟨modsL [evM xs ops outs 0, evM xs ops outs 1, evM xs ops outs 2], 46⟩] := by
  have hrl : (runM xs ops ops.length).length = ops.length := runM_length _ _ _
  refine con_goesKC (es := esT) (d := 8) (deep := shallow []) 124 (by kernel_rfl) (dec := []) (e := .ret) (s := mk [4] [.slc 0 0 3] [⟨modsL [evM xs ops outs 0, evM xs ops outs 1, evM xs ops outs 2], 46⟩] []) [.flat] (r := ⟨_, _, true⟩) (by kernel_rfl) rfl (.inl rfl) fun w0 => ?_
  have hbl : (modsL (runM xs ops ops.length)).length = 20 * ops.length := by rw [modsL_length, hrl]
  refine goes_seq (by kernel_rfl) (mqA3 xs xs.length ops ops.length outs w0 []) (goes_seq (by kernel_rfl) (mqB xs xs.length ops ops.length outs 3 w0 [] []) (goes_seq (by kernel_rfl) (goes_seq (by kernel_rfl) (mqD xs xs.length ops ops.length outs 3 w0 [] []) ?_) (goes_to (mqE3 xs xs.length ops ops.length outs (runM xs ops ops.length) ops.length w0 [] [] ?_) rfl)))
  · refine goes_block (id := 0) (by kernel_rfl) (goes_nils (dec' := []) 2 46 rfl (goes_loop (by kernel_rfl) (fun h => by cases h) ops.length (fun i => mqSt 3 xs ops outs (runM xs ops i) i) (s2 := _) ?_ ?_))
    · intro i hi
      exact mqRound 3 xs ops outs (runM xs ops i) i hi hm (runM_length _ _ _) ho w0
    · exact mqX xs xs.length ops ops.length outs 3 (runM xs ops ops.length) ops.length w0 [] [] (by
        simp only [Bool.and_eq_true]
        and_intros
        all_goals first
          | rfl
          | exact trivial
          | exact modsL_noOwn _
          | simp)
  · have h0 := hout.2 0 (by omega)
    have o0 := intL_get (xs := outs) (i := 0) (by rw [hout.1]; omega)
    have m0 := ms_at (rs := runM xs ops ops.length) h0.1 (by rw [hrl]; exact h0.2)
    have h1 := hout.2 1 (by omega)
    have o1 := intL_get (xs := outs) (i := 1) (by rw [hout.1]; omega)
    have m1 := ms_at (rs := runM xs ops ops.length) h1.1 (by rw [hrl]; exact h1.2)
    have h2 := hout.2 2 (by omega)
    have o2 := intL_get (xs := outs) (i := 2) (by rw [hout.1]; omega)
    have m2 := ms_at (rs := runM xs ops ops.length) h2.1 (by rw [hrl]; exact h2.2)
    simp only [o0, o1, o2, AV.toInt]
    simp only [Bool.and_eq_true]
    and_intros
    all_goals first
      | rfl
      | exact trivial
      | exact m0.2
      | exact m1.2
      | exact m2.2
      | (simp only [Nat.blt_eq, Nat.ble_eq, intL_length, hbl, hout.1]; omega)
      | (simp only [decide_eq_true_eq]; omega)
      | (apply pb_of
         have hY : modsL [evM xs ops outs 0, evM xs ops outs 1, evM xs ops outs 2] = etas ls20 (modsL (runM xs ops ops.length)) ((outs.getD 0 0).toNat * 20) ++ (etas ls20 (modsL (runM xs ops ops.length)) ((outs.getD 1 0).toNat * 20) ++ (etas ls20 (modsL (runM xs ops ops.length)) ((outs.getD 2 0).toNat * 20) ++ ([]))) := by
           simp only [modsL]
           rw [m0.1, m1.1, m2.1]
           rfl
         refine Eq.mp (congrArg (SubP true _ _ 0 _) hY.symm) ?_
         exact SubP.same (A := etas ls20 (modsL (runM xs ops ops.length)) ((outs.getD 0 0).toNat * 20) ++ (etas ls20 (modsL (runM xs ops ops.length)) ((outs.getD 1 0).toNat * 20) ++ (etas ls20 (modsL (runM xs ops ops.length)) ((outs.getD 2 0).toNat * 20) ++ ([])))) rfl)

theorem con_mr3 (xs : List Mod) (ops : List TOp) (outs : List Int) (hm : ops.length < 1000) (ho : OpsOk xs.length ops) (hout : OutsOk 3 ops.length outs) (n : Nat) :
    Con prog 67 [.agg [.int .i64 3, .snap (opsL ops) ops.length, .snap (intL outs) 3], .snap (modsL xs) xs.length] n (.slc n 0 3) [⟨modsL [evM xs ops outs 0, evM xs ops outs 1, evM xs ops outs 2], 46⟩] := by
  have hrl : (runM xs ops ops.length).length = ops.length := runM_length _ _ _
  refine con_goesKC (es := esT) (d := 8) (deep := shallow []) 81 (by kernel_rfl) (dec := []) (e := .ret) (s := mk [4] [.slc 0 0 3] [⟨modsL [evM xs ops outs 0, evM xs ops outs 1, evM xs ops outs 2], 46⟩] []) [.flat] (r := ⟨_, _, true⟩) (by kernel_rfl) rfl (.inl rfl) fun w0 => ?_
  have hbl : (rmC ops.length (runM xs ops ops.length)).length = 20 * ops.length := rmC_length (by omega)
  refine goes_seq (by kernel_rfl) (mrA3 xs xs.length ops ops.length outs w0 []) (goes_seq (by kernel_rfl) (goes_to (mrB xs xs.length ops ops.length outs 3 w0 [] [] ?_) ?_) (goes_seq (by kernel_rfl) (goes_seq (by kernel_rfl) (mrD xs xs.length ops ops.length outs 3 [] w0 [] [] ?_) (goes_block (id := 0) (by kernel_rfl) (goes_loop (by kernel_rfl) (fun h => by cases h) ops.length (fun i => mrSt 3 xs ops outs (runM xs ops i) i) (s2 := _) ?_ ?_))) (goes_to (mrE3 xs xs.length ops ops.length outs (runM xs ops ops.length) ops.length w0 [] [] ?_) rfl)))
  · simp only [Bool.and_eq_true]
    and_intros
    all_goals first
      | rfl
      | exact trivial
      | (apply pb_of; rw [← rmC_nil, Int.toNat_natCast]; exact SubP.same (A := List.flatten (List.replicate ops.length (modL zM))) (by rw [rmC_nil]; exact rmC_noOwn _ _))
      | (simp only [decide_eq_true_eq]; omega)
  · simp only [Int.toNat_natCast]
  · simp [rmC_noOwn]
  · intro i hi
    exact mrRound 3 xs ops outs (runM xs ops i) i hi hm (runM_length _ _ _) ho w0
  · exact mrX xs xs.length ops ops.length outs 3 (runM xs ops ops.length) ops.length w0 [] [] (by
      simp only [Bool.and_eq_true]
      and_intros
      all_goals first
        | rfl
        | exact trivial
        | exact rmC_noOwn _ _
        | simp)
  · have h0 := hout.2 0 (by omega)
    have o0 := intL_get (xs := outs) (i := 0) (by rw [hout.1]; omega)
    have m0 := rm_at (m := ops.length) (rs := runM xs ops ops.length) h0.1 (by rw [hrl]; exact h0.2)
    have h1 := hout.2 1 (by omega)
    have o1 := intL_get (xs := outs) (i := 1) (by rw [hout.1]; omega)
    have m1 := rm_at (m := ops.length) (rs := runM xs ops ops.length) h1.1 (by rw [hrl]; exact h1.2)
    have h2 := hout.2 2 (by omega)
    have o2 := intL_get (xs := outs) (i := 2) (by rw [hout.1]; omega)
    have m2 := rm_at (m := ops.length) (rs := runM xs ops ops.length) h2.1 (by rw [hrl]; exact h2.2)
    simp only [o0, o1, o2, AV.toInt]
    simp only [Bool.and_eq_true]
    and_intros
    all_goals first
      | rfl
      | exact trivial
      | exact m0.2
      | exact m1.2
      | exact m2.2
      | (simp only [Nat.blt_eq, Nat.ble_eq, intL_length, hbl, hout.1]; omega)
      | (simp only [decide_eq_true_eq]; omega)
      | (apply pb_of
         have hY : modsL [evM xs ops outs 0, evM xs ops outs 1, evM xs ops outs 2] = etas ls20 (rmC ops.length (runM xs ops ops.length)) ((outs.getD 0 0).toNat * 20) ++ (etas ls20 (rmC ops.length (runM xs ops ops.length)) ((outs.getD 1 0).toNat * 20) ++ (etas ls20 (rmC ops.length (runM xs ops ops.length)) ((outs.getD 2 0).toNat * 20) ++ ([]))) := by
           simp only [modsL]
           rw [m0.1, m1.1, m2.1]
           rfl
         refine Eq.mp (congrArg (SubP true _ _ 0 _) hY.symm) ?_
         exact SubP.same (A := etas ls20 (rmC ops.length (runM xs ops ops.length)) ((outs.getD 0 0).toNat * 20) ++ (etas ls20 (rmC ops.length (runM xs ops ops.length)) ((outs.getD 1 0).toNat * 20) ++ (etas ls20 (rmC ops.length (runM xs ops ops.length)) ((outs.getD 2 0).toNat * 20) ++ ([])))) rfl)
end Try
end Go.Eng
/- Models: equal Models are the same. Condition: as told. Written by wip/tools/kg.py. -/
namespace Go.Eng.Try
open Go Go.Eng Go.RowKit Go.Proofs.Try
noncomputable abbrev CS6 : Ctx := ctx prog es6 8
theorem OS6 : OrcOK CS6.P CS6.orc := ctx_ok mixed es6_ok 8

theorem sameM (a : Mod) (nb : Nat) (hok : ((decide (Prod.snd (Mod.r a) = Prod.snd (Mod.r a)) && (decide (Prod.fst (Mod.r a) = Prod.fst (Mod.r a)) && true) && (decide (Prod.snd (Mod.c8 a) = Prod.snd (Mod.c8 a)) && (decide (Prod.fst (Mod.c8 a) = Prod.fst (Mod.c8 a)) && true) && (decide (Prod.snd (Mod.c7 a) = Prod.snd (Mod.c7 a)) && (decide (Prod.fst (Mod.c7 a) = Prod.fst (Mod.c7 a)) && true) && (decide (Prod.snd (Mod.c6 a) = Prod.snd (Mod.c6 a)) && (decide (Prod.fst (Mod.c6 a) = Prod.fst (Mod.c6 a)) && true) && (decide (Prod.snd (Mod.c5 a) = Prod.snd (Mod.c5 a)) && (decide (Prod.fst (Mod.c5 a) = Prod.fst (Mod.c5 a)) && true) && (decide (Prod.snd (Mod.c4 a) = Prod.snd (Mod.c4 a)) && (decide (Prod.fst (Mod.c4 a) = Prod.fst (Mod.c4 a)) && true) && (decide (Prod.snd (Mod.c3 a) = Prod.snd (Mod.c3 a)) && (decide (Prod.fst (Mod.c3 a) = Prod.fst (Mod.c3 a)) && true) && (decide (Prod.snd (Mod.c2 a) = Prod.snd (Mod.c2 a)) && (decide (Prod.fst (Mod.c2 a) = Prod.fst (Mod.c2 a)) && true) && (decide (Prod.snd (Mod.c1 a) = Prod.snd (Mod.c1 a)) && (decide (Prod.fst (Mod.c1 a) = Prod.fst (Mod.c1 a)) && true) && (decide (Prod.snd (Mod.c0 a) = Prod.snd (Mod.c0 a)) && (decide (Prod.fst (Mod.c0 a) = Prod.fst (Mod.c0 a)) && true) && true))))))))))) = true) : Con prog 116 [.agg (modL a), .agg (modL a)] nb (AV.bool true) [] :=
  con_evF OS6 mixed (qs := []) (dec := []) (r := ⟨(AV.bool true), [], (decide (Prod.snd (Mod.r a) = Prod.snd (Mod.r a)) && (decide (Prod.fst (Mod.r a) = Prod.fst (Mod.r a)) && true) && (decide (Prod.snd (Mod.c8 a) = Prod.snd (Mod.c8 a)) && (decide (Prod.fst (Mod.c8 a) = Prod.fst (Mod.c8 a)) && true) && (decide (Prod.snd (Mod.c7 a) = Prod.snd (Mod.c7 a)) && (decide (Prod.fst (Mod.c7 a) = Prod.fst (Mod.c7 a)) && true) && (decide (Prod.snd (Mod.c6 a) = Prod.snd (Mod.c6 a)) && (decide (Prod.fst (Mod.c6 a) = Prod.fst (Mod.c6 a)) && true) && (decide (Prod.snd (Mod.c5 a) = Prod.snd (Mod.c5 a)) && (decide (Prod.fst (Mod.c5 a) = Prod.fst (Mod.c5 a)) && true) && (decide (Prod.snd (Mod.c4 a) = Prod.snd (Mod.c4 a)) && (decide (Prod.fst (Mod.c4 a) = Prod.fst (Mod.c4 a)) && true) && (decide (Prod.snd (Mod.c3 a) = Prod.snd (Mod.c3 a)) && (decide (Prod.fst (Mod.c3 a) = Prod.fst (Mod.c3 a)) && true) && (decide (Prod.snd (Mod.c2 a) = Prod.snd (Mod.c2 a)) && (decide (Prod.fst (Mod.c2 a) = Prod.fst (Mod.c2 a)) && true) && (decide (Prod.snd (Mod.c1 a) = Prod.snd (Mod.c1 a)) && (decide (Prod.fst (Mod.c1 a) = Prod.fst (Mod.c1 a)) && true) && (decide (Prod.snd (Mod.c0 a) = Prod.snd (Mod.c0 a)) && (decide (Prod.fst (Mod.c0 a) = Prod.fst (Mod.c0 a)) && true) && true))))))))))⟩) (by kernel_rfl) hok
end Go.Eng.Try
/- Models, part 8: entries for tapes of Models; the law's own Models; equal Models are the same. Condition: as each entry says. Written by wip/tools/genW19.py. -/
namespace Go.Eng
open Go Go.RowKit Go.Eng.Try

/-! ### The law's own Models -/
noncomputable def l5lo (ns : List AV) (i : Nat) : Nat := fdiv (fofint (IntKind.wrap IntKind.i64 (wi (AV.toInt (List.getD ns i .undef)) (65 : Int) - (32 : Int)))) 4616189618054758400
noncomputable def l5c (ns : List AV) (len i : Nat) : Nat × Nat :=
  if i < len then (l5lo ns i, fadd (l5lo ns i) (fdiv (fofint (wi (IntKind.wrap IntKind.i64 (Int.tdiv (AV.toInt (List.getD ns i .undef)) (65 : Int))) (3 : Int))) 4616189618054758400)) else z0
noncomputable def l5V (ns : List AV) (len : Nat) (r : Int) : Mod :=
  ⟨l5c ns len 0, l5c ns len 1, l5c ns len 2, l5c ns len 3, l5c ns len 4, l5c ns len 5, l5c ns len 6, l5c ns len 7, l5c ns len 8, (fsub 0 (fdiv (fofint (wi r (9 : Int))) 4620693217682128896), fdiv (fofint (wi r (9 : Int))) 4620693217682128896)⟩
theorem l5V_nine (ns : List AV) (len : Nat) (r : Int) (h : 9 ≤ len) : l5V ns len r = l5V ns 9 r := by
  have q : ∀ i, i < 9 → l5c ns len i = l5c ns 9 i := fun i hi => by
    unfold l5c
    rw [if_pos (by omega), if_pos hi]
  unfold l5V
  rw [q 0 (by omega), q 1 (by omega), q 2 (by omega), q 3 (by omega), q 4 (by omega), q 5 (by omega), q 6 (by omega), q 7 (by omega), q 8 (by omega)]

/-! ### Models out of cells -/
def MsOk (N : Nat) (xc : List AV) (lx : Nat) : Prop := lx = N ∧ ∃ xs : List Mod, xc = modsL xs ∧ xs.length = N
open Classical in
noncomputable def unMs (xc : List AV) : List Mod := if h : ∃ xs : List Mod, xc = modsL xs then Classical.choose h else []
theorem unMs_is {N : Nat} {xc : List AV} (h : ∃ xs : List Mod, xc = modsL xs ∧ xs.length = N) : modsL (unMs xc) = xc ∧ (unMs xc).length = N := by
  obtain ⟨xs, hx, hl⟩ := h
  have e : ∃ xs : List Mod, xc = modsL xs := ⟨xs, hx⟩
  have h1 : modsL (unMs xc) = xc := by
    unfold unMs
    rw [dif_pos e]
    exact (Classical.choose_spec e).symm
  refine ⟨h1, ?_⟩
  have h2 := congrArg List.length h1
  rw [hx, modsL_length, modsL_length] at h2
  rw [hx]
  omega

namespace Try
open Go.Proofs.Try

theorem con_l5 (ns : List AV) (len : Nat) (r : Int) (h : LmkOk ns len) (nb : Nat) : Con prog 64 [.snap ns len, .int .i64 r] nb (.agg (modL (l5V ns len r))) [] := by
  obtain ⟨hl, hi⟩ := h
  have hc : len = 0 ∨ len = 1 ∨ len = 2 ∨ len = 3 ∨ len = 4 ∨ len = 5 ∨ len = 6 ∨ len = 7 ∨ len = 8 ∨ 9 ≤ len := by omega
  rcases hc with hc | hc | hc | hc | hc | hc | hc | hc | hc | hc
  · subst hc
    refine l5m0 ns 0 r nb ?_
    simp only [Bool.and_eq_true]
    and_intros
    all_goals first
      | exact trivial
      | rfl
      | (rw [Nat.blt_eq]; omega)
      | exact hi _ (by omega)
      | (simp only [decide_eq_true_eq]; omega)
      | (simp only [Bool.not_eq_true', decide_eq_false_iff_not]; omega)
  · subst hc
    refine l5m1 ns 1 r nb ?_
    simp only [Bool.and_eq_true]
    and_intros
    all_goals first
      | exact trivial
      | rfl
      | (rw [Nat.blt_eq]; omega)
      | exact hi _ (by omega)
      | (simp only [decide_eq_true_eq]; omega)
      | (simp only [Bool.not_eq_true', decide_eq_false_iff_not]; omega)
  · subst hc
    refine l5m2 ns 2 r nb ?_
    simp only [Bool.and_eq_true]
    and_intros
    all_goals first
      | exact trivial
      | rfl
      | (rw [Nat.blt_eq]; omega)
      | exact hi _ (by omega)
      | (simp only [decide_eq_true_eq]; omega)
      | (simp only [Bool.not_eq_true', decide_eq_false_iff_not]; omega)
  · subst hc
    refine l5m3 ns 3 r nb ?_
    simp only [Bool.and_eq_true]
    and_intros
    all_goals first
      | exact trivial
      | rfl
      | (rw [Nat.blt_eq]; omega)
      | exact hi _ (by omega)
      | (simp only [decide_eq_true_eq]; omega)
      | (simp only [Bool.not_eq_true', decide_eq_false_iff_not]; omega)
  · subst hc
    refine l5m4 ns 4 r nb ?_
    simp only [Bool.and_eq_true]
    and_intros
    all_goals first
      | exact trivial
      | rfl
      | (rw [Nat.blt_eq]; omega)
      | exact hi _ (by omega)
      | (simp only [decide_eq_true_eq]; omega)
      | (simp only [Bool.not_eq_true', decide_eq_false_iff_not]; omega)
  · subst hc
    refine l5m5 ns 5 r nb ?_
    simp only [Bool.and_eq_true]
    and_intros
    all_goals first
      | exact trivial
      | rfl
      | (rw [Nat.blt_eq]; omega)
      | exact hi _ (by omega)
      | (simp only [decide_eq_true_eq]; omega)
      | (simp only [Bool.not_eq_true', decide_eq_false_iff_not]; omega)
  · subst hc
    refine l5m6 ns 6 r nb ?_
    simp only [Bool.and_eq_true]
    and_intros
    all_goals first
      | exact trivial
      | rfl
      | (rw [Nat.blt_eq]; omega)
      | exact hi _ (by omega)
      | (simp only [decide_eq_true_eq]; omega)
      | (simp only [Bool.not_eq_true', decide_eq_false_iff_not]; omega)
  · subst hc
    refine l5m7 ns 7 r nb ?_
    simp only [Bool.and_eq_true]
    and_intros
    all_goals first
      | exact trivial
      | rfl
      | (rw [Nat.blt_eq]; omega)
      | exact hi _ (by omega)
      | (simp only [decide_eq_true_eq]; omega)
      | (simp only [Bool.not_eq_true', decide_eq_false_iff_not]; omega)
  · subst hc
    refine l5m8 ns 8 r nb ?_
    simp only [Bool.and_eq_true]
    and_intros
    all_goals first
      | exact trivial
      | rfl
      | (rw [Nat.blt_eq]; omega)
      | exact hi _ (by omega)
      | (simp only [decide_eq_true_eq]; omega)
      | (simp only [Bool.not_eq_true', decide_eq_false_iff_not]; omega)
  · rw [l5V_nine ns len r hc]
    refine l5m9 ns len r nb ?_
    simp only [Bool.and_eq_true]
    and_intros
    all_goals first
      | exact trivial
      | rfl
      | (rw [Nat.blt_eq]; omega)
      | exact hi _ (by omega)
      | (simp only [decide_eq_true_eq]; omega)
      | (simp only [Bool.not_eq_true', decide_eq_false_iff_not]; omega)
noncomputable def eL5 : Entry := ⟨64, fun ys _ => match ys with
  | [.snap ns len, .int k r] => some ⟨.agg (modL (l5V ns len r)), [], pb (k = .i64 ∧ LmkOk ns len)⟩
  | _ => none⟩
theorem eL5_ok : EntryOK prog eL5 := by
  intro ys n r h hok
  simp only [eL5] at h
  split at h
  · cases h
    obtain ⟨rfl, h1⟩ := pb_is.1 hok
    exact con_l5 _ _ _ h1 n
  · cases h
theorem con_sameM (a : Mod) (nb : Nat) : Con prog 116 [.agg (modL a), .agg (modL a)] nb (.bool true) [] :=
  sameM a nb (by simp)
noncomputable def eSameM : Entry := ⟨116, fun ys _ => match ys with
  | [.agg xs, .agg zs] => match unMod xs, unMod zs with
    | some a, some b => some ⟨.bool true, [], pb (a = b)⟩
    | _, _ => none
  | _ => none⟩
theorem eSameM_ok : EntryOK prog eSameM := by
  intro ys n r h hok
  simp only [eSameM] at h
  split at h
  · split at h
    · rename_i a b ha hb
      cases h
      rw [unMod_is ha, unMod_is hb, pb_is.1 hok]
      exact con_sameM b n
    · cases h
  · cases h
noncomputable def eMq1 : Entry := ⟨66, fun ys nb => match ys with
  | [.agg [.int k a, .snap oc m, .snap uc u], .snap xc lx] => some ⟨.slc nb 0 1, [⟨modsL [evM (unMs xc) (unOps oc) (unInt uc) 0], 46⟩], pb (FldOk 1 k a oc m uc u ∧ MsOk 1 xc lx)⟩
  | _ => none⟩
theorem eMq1_ok : EntryOK prog eMq1 := by
  intro ys n r h hok
  simp only [eMq1] at h
  split at h
  · cases h
    obtain ⟨⟨rfl, rfl, rfl, ops, outs, rfl, rfl, rfl, hm, ho, hu⟩, rfl, hx⟩ := pb_is.1 hok
    obtain ⟨e1, e2⟩ := unMs_is hx
    rw [unOps_ops, unInt_int]
    have := con_mq1 (unMs _) ops outs hm (by rw [e2]; exact ho) hu n
    rw [e2, e1] at this
    exact this
  · cases h
noncomputable def eMr1 : Entry := ⟨67, fun ys nb => match ys with
  | [.agg [.int k a, .snap oc m, .snap uc u], .snap xc lx] => some ⟨.slc nb 0 1, [⟨modsL [evM (unMs xc) (unOps oc) (unInt uc) 0], 46⟩], pb (FldOk 1 k a oc m uc u ∧ MsOk 1 xc lx)⟩
  | _ => none⟩
theorem eMr1_ok : EntryOK prog eMr1 := by
  intro ys n r h hok
  simp only [eMr1] at h
  split at h
  · cases h
    obtain ⟨⟨rfl, rfl, rfl, ops, outs, rfl, rfl, rfl, hm, ho, hu⟩, rfl, hx⟩ := pb_is.1 hok
    obtain ⟨e1, e2⟩ := unMs_is hx
    rw [unOps_ops, unInt_int]
    have := con_mr1 (unMs _) ops outs hm (by rw [e2]; exact ho) hu n
    rw [e2, e1] at this
    exact this
  · cases h
noncomputable def eMq2 : Entry := ⟨66, fun ys nb => match ys with
  | [.agg [.int k a, .snap oc m, .snap uc u], .snap xc lx] => some ⟨.slc nb 0 2, [⟨modsL [evM (unMs xc) (unOps oc) (unInt uc) 0, evM (unMs xc) (unOps oc) (unInt uc) 1], 46⟩], pb (FldOk 2 k a oc m uc u ∧ MsOk 2 xc lx)⟩
  | _ => none⟩
theorem eMq2_ok : EntryOK prog eMq2 := by
  intro ys n r h hok
  simp only [eMq2] at h
  split at h
  · cases h
    obtain ⟨⟨rfl, rfl, rfl, ops, outs, rfl, rfl, rfl, hm, ho, hu⟩, rfl, hx⟩ := pb_is.1 hok
    obtain ⟨e1, e2⟩ := unMs_is hx
    rw [unOps_ops, unInt_int]
    have := con_mq2 (unMs _) ops outs hm (by rw [e2]; exact ho) hu n
    rw [e2, e1] at this
    exact this
  · cases h
noncomputable def eMr2 : Entry := ⟨67, fun ys nb => match ys with
  | [.agg [.int k a, .snap oc m, .snap uc u], .snap xc lx] => some ⟨.slc nb 0 2, [⟨modsL [evM (unMs xc) (unOps oc) (unInt uc) 0, evM (unMs xc) (unOps oc) (unInt uc) 1], 46⟩], pb (FldOk 2 k a oc m uc u ∧ MsOk 2 xc lx)⟩
  | _ => none⟩
theorem eMr2_ok : EntryOK prog eMr2 := by
  intro ys n r h hok
  simp only [eMr2] at h
  split at h
  · cases h
    obtain ⟨⟨rfl, rfl, rfl, ops, outs, rfl, rfl, rfl, hm, ho, hu⟩, rfl, hx⟩ := pb_is.1 hok
    obtain ⟨e1, e2⟩ := unMs_is hx
    rw [unOps_ops, unInt_int]
    have := con_mr2 (unMs _) ops outs hm (by rw [e2]; exact ho) hu n
    rw [e2, e1] at this
    exact this
  · cases h
noncomputable def eMq3 : Entry := ⟨66, fun ys nb => match ys with
  | [.agg [.int k a, .snap oc m, .snap uc u], .snap xc lx] => some ⟨.slc nb 0 3, [⟨modsL [evM (unMs xc) (unOps oc) (unInt uc) 0, evM (unMs xc) (unOps oc) (unInt uc) 1, evM (unMs xc) (unOps oc) (unInt uc) 2], 46⟩], pb (FldOk 3 k a oc m uc u ∧ MsOk 3 xc lx)⟩
  | _ => none⟩
theorem eMq3_ok : EntryOK prog eMq3 := by
  intro ys n r h hok
  simp only [eMq3] at h
  split at h
  · cases h
    obtain ⟨⟨rfl, rfl, rfl, ops, outs, rfl, rfl, rfl, hm, ho, hu⟩, rfl, hx⟩ := pb_is.1 hok
    obtain ⟨e1, e2⟩ := unMs_is hx
    rw [unOps_ops, unInt_int]
    have := con_mq3 (unMs _) ops outs hm (by rw [e2]; exact ho) hu n
    rw [e2, e1] at this
    exact this
  · cases h
noncomputable def eMr3 : Entry := ⟨67, fun ys nb => match ys with
  | [.agg [.int k a, .snap oc m, .snap uc u], .snap xc lx] => some ⟨.slc nb 0 3, [⟨modsL [evM (unMs xc) (unOps oc) (unInt uc) 0, evM (unMs xc) (unOps oc) (unInt uc) 1, evM (unMs xc) (unOps oc) (unInt uc) 2], 46⟩], pb (FldOk 3 k a oc m uc u ∧ MsOk 3 xc lx)⟩
  | _ => none⟩
theorem eMr3_ok : EntryOK prog eMr3 := by
  intro ys n r h hok
  simp only [eMr3] at h
  split at h
  · cases h
    obtain ⟨⟨rfl, rfl, rfl, ops, outs, rfl, rfl, rfl, hm, ho, hu⟩, rfl, hx⟩ := pb_is.1 hok
    obtain ⟨e1, e2⟩ := unMs_is hx
    rw [unOps_ops, unInt_int]
    have := con_mr3 (unMs _) ops outs hm (by rw [e2]; exact ho) hu n
    rw [e2, e1] at this
    exact this
  · cases h
noncomputable def esY1 : List Entry := [eKnown5, eLmk1, eL5, eMq1, eMr1, eSameM] ++ es4
noncomputable abbrev CZ1 : Ctx := ctxD prog esY1 8 (shallow [66, 67])
theorem esY1_ok : ∀ e ∈ esY1, EntryOK prog e := by
  intro e he
  simp only [esY1, List.cons_append, List.nil_append, List.mem_cons] at he
  rcases he with rfl | rfl | rfl | rfl | rfl | rfl | he
  · exact eKnown5_ok
  · exact eLmk1_ok
  · exact eL5_ok
  · exact eMq1_ok
  · exact eMr1_ok
  · exact eSameM_ok
  · exact es4_ok e he
theorem OZ1 : OrcOK CZ1.P CZ1.orc := ctxD_ok mixed esY1_ok 8 _
noncomputable def esY2 : List Entry := [eKnown5, eLmk2, eL5, eMq2, eMr2, eSameM] ++ es4
noncomputable abbrev CZ2 : Ctx := ctxD prog esY2 8 (shallow [66, 67])
theorem esY2_ok : ∀ e ∈ esY2, EntryOK prog e := by
  intro e he
  simp only [esY2, List.cons_append, List.nil_append, List.mem_cons] at he
  rcases he with rfl | rfl | rfl | rfl | rfl | rfl | he
  · exact eKnown5_ok
  · exact eLmk2_ok
  · exact eL5_ok
  · exact eMq2_ok
  · exact eMr2_ok
  · exact eSameM_ok
  · exact es4_ok e he
theorem OZ2 : OrcOK CZ2.P CZ2.orc := ctxD_ok mixed esY2_ok 8 _
noncomputable def esY3 : List Entry := [eKnown5, eLmk3, eL5, eMq3, eMr3, eSameM] ++ es4
noncomputable abbrev CZ3 : Ctx := ctxD prog esY3 8 (shallow [66, 67])
theorem esY3_ok : ∀ e ∈ esY3, EntryOK prog e := by
  intro e he
  simp only [esY3, List.cons_append, List.nil_append, List.mem_cons] at he
  rcases he with rfl | rfl | rfl | rfl | rfl | rfl | he
  · exact eKnown5_ok
  · exact eLmk3_ok
  · exact eL5_ok
  · exact eMq3_ok
  · exact eMr3_ok
  · exact eSameM_ok
  · exact es4_ok e he
theorem OZ3 : OrcOK CZ3.P CZ3.orc := ctxD_ok mixed esY3_ok 8 _
end Try
end Go.Eng
/- ModelEvals, part 1: the law by pieces. Condition: as each piece says. Written by wip/tools/kg.py. -/
namespace Go.Eng.Try
open Go Go.Eng Go.RowKit Go.Proofs.Try
noncomputable def meC : Code := codeOf prog 12

theorem meA1 (n : Int) (ns : List AV) (ln : Nat) (d : Bool) (ms : List AV) (lm : Nat) (ks : List AV) (lk : Nat) (r : Int) (w0 : World) (dec1 : List Bool) : Goes CZ1 w0 49 (cL meC) (St0 [.int .i64 n, .snap ns ln, .bool d, .snap ms lm, .snap ks lk, .int .i64 r] []) Ex.normal (mk [0,1,2,3,4,5] [.int .i64 n, .snap ns ln, .bool d, .snap ms lm, .snap ks lk, .int .i64 r] [] dec1) :=
  goes_viewK' OZ1 mixed (qs := []) (fuel := 8) [] (by kernel_rfl) rfl dec1
theorem meB1 (n : Int) (ns : List AV) (ln : Nat) (d : Bool) (ms : List AV) (lm : Nat) (ks : List AV) (lk : Nat) (r : Int) (w0 : World) (dec0 dec1 : List Bool) : Goes CZ1 w0 49 (cL (cR meC)) (mk [0,1,2,3,4,5] [.int .i64 n, .snap ns ln, .bool d, .snap ms lm, .snap ks lk, .int .i64 r] [] dec0) Ex.normal (mk [0,1,2,3,4,5] [.int .i64 n, .snap ns ln, .bool d, .snap ms lm, .snap ks lk, .int .i64 r] [] dec1) :=
  goes_re (dec := []) (goes_viewK' OZ1 mixed (qs := []) (fuel := 8) [] (by kernel_rfl) rfl dec1)
theorem meD1 (n : Int) (ns : List AV) (ln : Nat) (d : Bool) (ms : List AV) (lm : Nat) (ks : List AV) (lk : Nat) (r : Int) (w0 : World) (dec0 dec1 : List Bool) (hok : (((List.all (opsL (lmkOps n 1 d ns ln)) AV.noOwn) && true && (pb (IntKind.i64 = IntKind.i64 ∧ LmkOk ns ln ∧ wi n (3 : Int) + (1 : Int) = (1 : Int)) && true))) = true) : Goes CZ1 w0 49 (cL (cR (cR meC))) (mk [0,1,2,3,4,5] [.int .i64 n, .snap ns ln, .bool d, .snap ms lm, .snap ks lk, .int .i64 r] [] dec0) Ex.normal (mk [3,4,5,13] [.snap ms lm, .snap ks lk, .int .i64 r, .ptr 0 0] [ABlk.mk [.int .i64 1, .slc 1 0 (lmkM 1 ln), .slc 2 0 1] 53, ABlk.mk (opsL (lmkOps n 1 d ns ln)) 57, ABlk.mk [.int .i64 (IntKind.wrap IntKind.i64 (IntKind.wrap IntKind.i64 ((↑(lmkM 1 ln) : Int) - (1 : Int)) - wi (IntKind.wrap IntKind.i64 (IntKind.wrap IntKind.i64 (Int.tdiv n (3 : Int)) + (0 : Int))) (min3 (lmkM 1 ln))))] 3] dec1) :=
  goes_re (dec := []) (goes_viewK' OZ1 mixed (qs := []) (fuel := 8) [.lit, .flat, .flat] (by kernel_rfl) hok dec1)
theorem meE1 (ms : List AV) (lm : Nat) (ks : List AV) (lk : Nat) (r : Int) (ops : List TOp) (m : Nat) (u0 : Int) (w0 : World) (dec0 dec1 : List Bool) (hok : (((List.all (opsL ops) AV.noOwn) && true && true)) = true) : Goes CZ1 w0 49 (cL (cR (cR (cR meC)))) (mk [3,4,5,13] [.snap ms lm, .snap ks lk, .int .i64 r, .ptr 0 0] [⟨[.int .i64 1, .slc 1 0 m, .slc 2 0 1], 53⟩, ⟨opsL ops, 57⟩, ⟨[.int .i64 u0], 3⟩] dec0) Ex.normal (mk [3,4,5,13,14] [.snap ms lm, .snap ks lk, .int .i64 r, .ptr 0 0, .nils] [ABlk.mk [.int .i64 1, .slc 1 0 m, .slc 2 0 1] 53, ABlk.mk (opsL ops) 57, ABlk.mk [.int .i64 u0] 3] dec1) :=
  goes_re (dec := []) (goes_viewK' OZ1 mixed (qs := []) (fuel := 8) [.lit, .flat, .lit] (by kernel_rfl) hok dec1)
theorem meG1 (ms : List AV) (lm : Nat) (ks : List AV) (lk : Nat) (r : Int) (ops : List TOp) (m : Nat) (u0 : Int) (w0 : World) (dec0 dec1 : List Bool) (hok : (((List.all (opsL ops) AV.noOwn) && (pb (SubP true [] [0, 1, 2, 1091] 0 [.flt (Prod.fst (Mod.c0 (l5V ms lm (IntKind.wrap IntKind.i64 (r + (0 : Int)))))), .flt (Prod.snd (Mod.c0 (l5V ms lm (IntKind.wrap IntKind.i64 (r + (0 : Int)))))), .flt (Prod.fst (Mod.c1 (l5V ms lm (IntKind.wrap IntKind.i64 (r + (0 : Int)))))), .flt (Prod.snd (Mod.c1 (l5V ms lm (IntKind.wrap IntKind.i64 (r + (0 : Int)))))), .flt (Prod.fst (Mod.c2 (l5V ms lm (IntKind.wrap IntKind.i64 (r + (0 : Int)))))), .flt (Prod.snd (Mod.c2 (l5V ms lm (IntKind.wrap IntKind.i64 (r + (0 : Int)))))), .flt (Prod.fst (Mod.c3 (l5V ms lm (IntKind.wrap IntKind.i64 (r + (0 : Int)))))), .flt (Prod.snd (Mod.c3 (l5V ms lm (IntKind.wrap IntKind.i64 (r + (0 : Int)))))), .flt (Prod.fst (Mod.c4 (l5V ms lm (IntKind.wrap IntKind.i64 (r + (0 : Int)))))), .flt (Prod.snd (Mod.c4 (l5V ms lm (IntKind.wrap IntKind.i64 (r + (0 : Int)))))), .flt (Prod.fst (Mod.c5 (l5V ms lm (IntKind.wrap IntKind.i64 (r + (0 : Int)))))), .flt (Prod.snd (Mod.c5 (l5V ms lm (IntKind.wrap IntKind.i64 (r + (0 : Int)))))), .flt (Prod.fst (Mod.c6 (l5V ms lm (IntKind.wrap IntKind.i64 (r + (0 : Int)))))), .flt (Prod.snd (Mod.c6 (l5V ms lm (IntKind.wrap IntKind.i64 (r + (0 : Int)))))), .flt (Prod.fst (Mod.c7 (l5V ms lm (IntKind.wrap IntKind.i64 (r + (0 : Int)))))), .flt (Prod.snd (Mod.c7 (l5V ms lm (IntKind.wrap IntKind.i64 (r + (0 : Int)))))), .flt (Prod.fst (Mod.c8 (l5V ms lm (IntKind.wrap IntKind.i64 (r + (0 : Int)))))), .flt (Prod.snd (Mod.c8 (l5V ms lm (IntKind.wrap IntKind.i64 (r + (0 : Int)))))), .flt (Prod.fst (Mod.r (l5V ms lm (IntKind.wrap IntKind.i64 (r + (0 : Int)))))), .flt (Prod.snd (Mod.r (l5V ms lm (IntKind.wrap IntKind.i64 (r + (0 : Int))))))] (modsL [l5V ms lm (IntKind.wrap IntKind.i64 (r + (0 : Int)))])) && true) && (pb (IntKind.i64 = IntKind.i64 ∧ LmkOk ms lm) && true))) = true) : Goes CZ1 w0 49 (cL (cR (cR (cR (cR meC))))) (mk [3,4,5,13,14] [.snap ms lm, .snap ks lk, .int .i64 r, .ptr 0 0, .nils] [⟨[.int .i64 1, .slc 1 0 m, .slc 2 0 1], 53⟩, ⟨opsL ops, 57⟩, ⟨[.int .i64 u0], 3⟩] dec0) Ex.normal (mk [13,14] [.ptr 0 0, .slc 3 0 1] [ABlk.mk [.int .i64 1, .slc 1 0 m, .slc 2 0 1] 53, ABlk.mk (opsL ops) 57, ABlk.mk [.int .i64 u0] 3, ABlk.mk (modsL [l5V ms lm (IntKind.wrap IntKind.i64 (r + (0 : Int)))]) 46] dec1) :=
  goes_re (dec := []) (goes_viewK' OZ1 mixed (qs := []) (fuel := 8) [.lit, .flat, .lit, .giv (modsL [l5V ms lm (IntKind.wrap IntKind.i64 (r + 0))]) []] (by kernel_rfl) hok dec1)
theorem meZ1 (ops : List TOp) (m : Nat) (u0 : Int) (xs : List Mod) (w0 : World) (dec0 dec1 : List Bool) (hok : ((pb (Mod.mk (Prod.fst (Mod.c0 (evM (unMs (modsL xs)) (unOps (opsL ops)) (unInt [.int .i64 u0]) 0)), Prod.snd (Mod.c0 (evM (unMs (modsL xs)) (unOps (opsL ops)) (unInt [.int .i64 u0]) 0))) (Prod.fst (Mod.c1 (evM (unMs (modsL xs)) (unOps (opsL ops)) (unInt [.int .i64 u0]) 0)), Prod.snd (Mod.c1 (evM (unMs (modsL xs)) (unOps (opsL ops)) (unInt [.int .i64 u0]) 0))) (Prod.fst (Mod.c2 (evM (unMs (modsL xs)) (unOps (opsL ops)) (unInt [.int .i64 u0]) 0)), Prod.snd (Mod.c2 (evM (unMs (modsL xs)) (unOps (opsL ops)) (unInt [.int .i64 u0]) 0))) (Prod.fst (Mod.c3 (evM (unMs (modsL xs)) (unOps (opsL ops)) (unInt [.int .i64 u0]) 0)), Prod.snd (Mod.c3 (evM (unMs (modsL xs)) (unOps (opsL ops)) (unInt [.int .i64 u0]) 0))) (Prod.fst (Mod.c4 (evM (unMs (modsL xs)) (unOps (opsL ops)) (unInt [.int .i64 u0]) 0)), Prod.snd (Mod.c4 (evM (unMs (modsL xs)) (unOps (opsL ops)) (unInt [.int .i64 u0]) 0))) (Prod.fst (Mod.c5 (evM (unMs (modsL xs)) (unOps (opsL ops)) (unInt [.int .i64 u0]) 0)), Prod.snd (Mod.c5 (evM (unMs (modsL xs)) (unOps (opsL ops)) (unInt [.int .i64 u0]) 0))) (Prod.fst (Mod.c6 (evM (unMs (modsL xs)) (unOps (opsL ops)) (unInt [.int .i64 u0]) 0)), Prod.snd (Mod.c6 (evM (unMs (modsL xs)) (unOps (opsL ops)) (unInt [.int .i64 u0]) 0))) (Prod.fst (Mod.c7 (evM (unMs (modsL xs)) (unOps (opsL ops)) (unInt [.int .i64 u0]) 0)), Prod.snd (Mod.c7 (evM (unMs (modsL xs)) (unOps (opsL ops)) (unInt [.int .i64 u0]) 0))) (Prod.fst (Mod.c8 (evM (unMs (modsL xs)) (unOps (opsL ops)) (unInt [.int .i64 u0]) 0)), Prod.snd (Mod.c8 (evM (unMs (modsL xs)) (unOps (opsL ops)) (unInt [.int .i64 u0]) 0))) (Prod.fst (Mod.r (evM (unMs (modsL xs)) (unOps (opsL ops)) (unInt [.int .i64 u0]) 0)), Prod.snd (Mod.r (evM (unMs (modsL xs)) (unOps (opsL ops)) (unInt [.int .i64 u0]) 0))) = Mod.mk (Prod.fst (Mod.c0 (evM (unMs (modsL xs)) (unOps (opsL ops)) (unInt [.int .i64 u0]) 0)), Prod.snd (Mod.c0 (evM (unMs (modsL xs)) (unOps (opsL ops)) (unInt [.int .i64 u0]) 0))) (Prod.fst (Mod.c1 (evM (unMs (modsL xs)) (unOps (opsL ops)) (unInt [.int .i64 u0]) 0)), Prod.snd (Mod.c1 (evM (unMs (modsL xs)) (unOps (opsL ops)) (unInt [.int .i64 u0]) 0))) (Prod.fst (Mod.c2 (evM (unMs (modsL xs)) (unOps (opsL ops)) (unInt [.int .i64 u0]) 0)), Prod.snd (Mod.c2 (evM (unMs (modsL xs)) (unOps (opsL ops)) (unInt [.int .i64 u0]) 0))) (Prod.fst (Mod.c3 (evM (unMs (modsL xs)) (unOps (opsL ops)) (unInt [.int .i64 u0]) 0)), Prod.snd (Mod.c3 (evM (unMs (modsL xs)) (unOps (opsL ops)) (unInt [.int .i64 u0]) 0))) (Prod.fst (Mod.c4 (evM (unMs (modsL xs)) (unOps (opsL ops)) (unInt [.int .i64 u0]) 0)), Prod.snd (Mod.c4 (evM (unMs (modsL xs)) (unOps (opsL ops)) (unInt [.int .i64 u0]) 0))) (Prod.fst (Mod.c5 (evM (unMs (modsL xs)) (unOps (opsL ops)) (unInt [.int .i64 u0]) 0)), Prod.snd (Mod.c5 (evM (unMs (modsL xs)) (unOps (opsL ops)) (unInt [.int .i64 u0]) 0))) (Prod.fst (Mod.c6 (evM (unMs (modsL xs)) (unOps (opsL ops)) (unInt [.int .i64 u0]) 0)), Prod.snd (Mod.c6 (evM (unMs (modsL xs)) (unOps (opsL ops)) (unInt [.int .i64 u0]) 0))) (Prod.fst (Mod.c7 (evM (unMs (modsL xs)) (unOps (opsL ops)) (unInt [.int .i64 u0]) 0)), Prod.snd (Mod.c7 (evM (unMs (modsL xs)) (unOps (opsL ops)) (unInt [.int .i64 u0]) 0))) (Prod.fst (Mod.c8 (evM (unMs (modsL xs)) (unOps (opsL ops)) (unInt [.int .i64 u0]) 0)), Prod.snd (Mod.c8 (evM (unMs (modsL xs)) (unOps (opsL ops)) (unInt [.int .i64 u0]) 0))) (Prod.fst (Mod.r (evM (unMs (modsL xs)) (unOps (opsL ops)) (unInt [.int .i64 u0]) 0)), Prod.snd (Mod.r (evM (unMs (modsL xs)) (unOps (opsL ops)) (unInt [.int .i64 u0]) 0)))) && true && (List.all (opsL ops) AV.noOwn && true && (List.all (modsL xs) AV.noOwn && true) && pb (FldOk 1 IntKind.i64 1 (opsL ops) m [.int .i64 u0] 1 ∧ MsOk 1 (modsL xs) 1) && (List.all (opsL ops) AV.noOwn && true && (List.all (modsL xs) AV.noOwn && true) && pb (FldOk 1 IntKind.i64 1 (opsL ops) m [.int .i64 u0] 1 ∧ MsOk 1 (modsL xs) 1) && true)))) = true) : Goes CZ1 w0 49 (cR (cR (cR (cR (cR meC))))) (mk [13,14] [.ptr 0 0, .slc 3 0 1] [⟨[.int .i64 1, .slc 1 0 m, .slc 2 0 1], 53⟩, ⟨opsL ops, 57⟩, ⟨[.int .i64 u0], 3⟩, ⟨modsL xs, 46⟩] dec0) Ex.ret (mk [12] [.bool true] [] dec1) :=
  goes_re (dec := []) (goes_viewK' OZ1 mixed (qs := []) (fuel := 8) [] (by kernel_rfl) hok dec1)
theorem meA2 (n : Int) (ns : List AV) (ln : Nat) (d : Bool) (ms : List AV) (lm : Nat) (ks : List AV) (lk : Nat) (r : Int) (w0 : World) (dec1 : List Bool) : Goes CZ2 w0 49 (cL meC) (St0 [.int .i64 n, .snap ns ln, .bool d, .snap ms lm, .snap ks lk, .int .i64 r] []) Ex.normal (mk [0,1,2,3,4,5] [.int .i64 n, .snap ns ln, .bool d, .snap ms lm, .snap ks lk, .int .i64 r] [] dec1) :=
  goes_viewK' OZ2 mixed (qs := []) (fuel := 8) [] (by kernel_rfl) rfl dec1
theorem meB2 (n : Int) (ns : List AV) (ln : Nat) (d : Bool) (ms : List AV) (lm : Nat) (ks : List AV) (lk : Nat) (r : Int) (w0 : World) (dec0 dec1 : List Bool) : Goes CZ2 w0 49 (cL (cR meC)) (mk [0,1,2,3,4,5] [.int .i64 n, .snap ns ln, .bool d, .snap ms lm, .snap ks lk, .int .i64 r] [] dec0) Ex.normal (mk [0,1,2,3,4,5] [.int .i64 n, .snap ns ln, .bool d, .snap ms lm, .snap ks lk, .int .i64 r] [] dec1) :=
  goes_re (dec := []) (goes_viewK' OZ2 mixed (qs := []) (fuel := 8) [] (by kernel_rfl) rfl dec1)
theorem meD2 (n : Int) (ns : List AV) (ln : Nat) (d : Bool) (ms : List AV) (lm : Nat) (ks : List AV) (lk : Nat) (r : Int) (w0 : World) (dec0 dec1 : List Bool) (hok : (((List.all (opsL (lmkOps n 2 d ns ln)) AV.noOwn) && true && (pb (IntKind.i64 = IntKind.i64 ∧ LmkOk ns ln ∧ wi n (3 : Int) + (1 : Int) = (2 : Int)) && true))) = true) : Goes CZ2 w0 49 (cL (cR (cR meC))) (mk [0,1,2,3,4,5] [.int .i64 n, .snap ns ln, .bool d, .snap ms lm, .snap ks lk, .int .i64 r] [] dec0) Ex.normal (mk [3,4,5,13] [.snap ms lm, .snap ks lk, .int .i64 r, .ptr 0 0] [ABlk.mk [.int .i64 2, .slc 1 0 (lmkM 2 ln), .slc 2 0 2] 53, ABlk.mk (opsL (lmkOps n 2 d ns ln)) 57, ABlk.mk [.int .i64 (IntKind.wrap IntKind.i64 (IntKind.wrap IntKind.i64 ((↑(lmkM 2 ln) : Int) - (1 : Int)) - wi (IntKind.wrap IntKind.i64 (IntKind.wrap IntKind.i64 (Int.tdiv n (3 : Int)) + (0 : Int))) (min3 (lmkM 2 ln)))), .int .i64 (IntKind.wrap IntKind.i64 (IntKind.wrap IntKind.i64 ((↑(lmkM 2 ln) : Int) - (1 : Int)) - wi (IntKind.wrap IntKind.i64 (IntKind.wrap IntKind.i64 (Int.tdiv n (3 : Int)) + (1 : Int))) (min3 (lmkM 2 ln))))] 3] dec1) :=
  goes_re (dec := []) (goes_viewK' OZ2 mixed (qs := []) (fuel := 8) [.lit, .flat, .flat] (by kernel_rfl) hok dec1)
theorem meE2 (ms : List AV) (lm : Nat) (ks : List AV) (lk : Nat) (r : Int) (ops : List TOp) (m : Nat) (u0 u1 : Int) (w0 : World) (dec0 dec1 : List Bool) (hok : (((List.all (opsL ops) AV.noOwn) && true && true)) = true) : Goes CZ2 w0 49 (cL (cR (cR (cR meC)))) (mk [3,4,5,13] [.snap ms lm, .snap ks lk, .int .i64 r, .ptr 0 0] [⟨[.int .i64 2, .slc 1 0 m, .slc 2 0 2], 53⟩, ⟨opsL ops, 57⟩, ⟨[.int .i64 u0, .int .i64 u1], 3⟩] dec0) Ex.normal (mk [3,4,5,13,14] [.snap ms lm, .snap ks lk, .int .i64 r, .ptr 0 0, .nils] [ABlk.mk [.int .i64 2, .slc 1 0 m, .slc 2 0 2] 53, ABlk.mk (opsL ops) 57, ABlk.mk [.int .i64 u0, .int .i64 u1] 3] dec1) :=
  goes_re (dec := []) (goes_viewK' OZ2 mixed (qs := []) (fuel := 8) [.lit, .flat, .lit] (by kernel_rfl) hok dec1)
theorem meG2 (ms : List AV) (lm : Nat) (ks : List AV) (lk : Nat) (r : Int) (ops : List TOp) (m : Nat) (u0 u1 : Int) (w0 : World) (dec0 dec1 : List Bool) (hok : (((List.all (opsL ops) AV.noOwn) && (pb (SubP true [] [0, 1, 2, 2563] 0 [.flt (Prod.fst (Mod.c0 (l5V ms lm (IntKind.wrap IntKind.i64 (r + (0 : Int)))))), .flt (Prod.snd (Mod.c0 (l5V ms lm (IntKind.wrap IntKind.i64 (r + (0 : Int)))))), .flt (Prod.fst (Mod.c1 (l5V ms lm (IntKind.wrap IntKind.i64 (r + (0 : Int)))))), .flt (Prod.snd (Mod.c1 (l5V ms lm (IntKind.wrap IntKind.i64 (r + (0 : Int)))))), .flt (Prod.fst (Mod.c2 (l5V ms lm (IntKind.wrap IntKind.i64 (r + (0 : Int)))))), .flt (Prod.snd (Mod.c2 (l5V ms lm (IntKind.wrap IntKind.i64 (r + (0 : Int)))))), .flt (Prod.fst (Mod.c3 (l5V ms lm (IntKind.wrap IntKind.i64 (r + (0 : Int)))))), .flt (Prod.snd (Mod.c3 (l5V ms lm (IntKind.wrap IntKind.i64 (r + (0 : Int)))))), .flt (Prod.fst (Mod.c4 (l5V ms lm (IntKind.wrap IntKind.i64 (r + (0 : Int)))))), .flt (Prod.snd (Mod.c4 (l5V ms lm (IntKind.wrap IntKind.i64 (r + (0 : Int)))))), .flt (Prod.fst (Mod.c5 (l5V ms lm (IntKind.wrap IntKind.i64 (r + (0 : Int)))))), .flt (Prod.snd (Mod.c5 (l5V ms lm (IntKind.wrap IntKind.i64 (r + (0 : Int)))))), .flt (Prod.fst (Mod.c6 (l5V ms lm (IntKind.wrap IntKind.i64 (r + (0 : Int)))))), .flt (Prod.snd (Mod.c6 (l5V ms lm (IntKind.wrap IntKind.i64 (r + (0 : Int)))))), .flt (Prod.fst (Mod.c7 (l5V ms lm (IntKind.wrap IntKind.i64 (r + (0 : Int)))))), .flt (Prod.snd (Mod.c7 (l5V ms lm (IntKind.wrap IntKind.i64 (r + (0 : Int)))))), .flt (Prod.fst (Mod.c8 (l5V ms lm (IntKind.wrap IntKind.i64 (r + (0 : Int)))))), .flt (Prod.snd (Mod.c8 (l5V ms lm (IntKind.wrap IntKind.i64 (r + (0 : Int)))))), .flt (Prod.fst (Mod.r (l5V ms lm (IntKind.wrap IntKind.i64 (r + (0 : Int)))))), .flt (Prod.snd (Mod.r (l5V ms lm (IntKind.wrap IntKind.i64 (r + (0 : Int)))))), .flt (Prod.fst (Mod.c0 (l5V ks lk (IntKind.wrap IntKind.i64 (r + (1 : Int)))))), .flt (Prod.snd (Mod.c0 (l5V ks lk (IntKind.wrap IntKind.i64 (r + (1 : Int)))))), .flt (Prod.fst (Mod.c1 (l5V ks lk (IntKind.wrap IntKind.i64 (r + (1 : Int)))))), .flt (Prod.snd (Mod.c1 (l5V ks lk (IntKind.wrap IntKind.i64 (r + (1 : Int)))))), .flt (Prod.fst (Mod.c2 (l5V ks lk (IntKind.wrap IntKind.i64 (r + (1 : Int)))))), .flt (Prod.snd (Mod.c2 (l5V ks lk (IntKind.wrap IntKind.i64 (r + (1 : Int)))))), .flt (Prod.fst (Mod.c3 (l5V ks lk (IntKind.wrap IntKind.i64 (r + (1 : Int)))))), .flt (Prod.snd (Mod.c3 (l5V ks lk (IntKind.wrap IntKind.i64 (r + (1 : Int)))))), .flt (Prod.fst (Mod.c4 (l5V ks lk (IntKind.wrap IntKind.i64 (r + (1 : Int)))))), .flt (Prod.snd (Mod.c4 (l5V ks lk (IntKind.wrap IntKind.i64 (r + (1 : Int)))))), .flt (Prod.fst (Mod.c5 (l5V ks lk (IntKind.wrap IntKind.i64 (r + (1 : Int)))))), .flt (Prod.snd (Mod.c5 (l5V ks lk (IntKind.wrap IntKind.i64 (r + (1 : Int)))))), .flt (Prod.fst (Mod.c6 (l5V ks lk (IntKind.wrap IntKind.i64 (r + (1 : Int)))))), .flt (Prod.snd (Mod.c6 (l5V ks lk (IntKind.wrap IntKind.i64 (r + (1 : Int)))))), .flt (Prod.fst (Mod.c7 (l5V ks lk (IntKind.wrap IntKind.i64 (r + (1 : Int)))))), .flt (Prod.snd (Mod.c7 (l5V ks lk (IntKind.wrap IntKind.i64 (r + (1 : Int)))))), .flt (Prod.fst (Mod.c8 (l5V ks lk (IntKind.wrap IntKind.i64 (r + (1 : Int)))))), .flt (Prod.snd (Mod.c8 (l5V ks lk (IntKind.wrap IntKind.i64 (r + (1 : Int)))))), .flt (Prod.fst (Mod.r (l5V ks lk (IntKind.wrap IntKind.i64 (r + (1 : Int)))))), .flt (Prod.snd (Mod.r (l5V ks lk (IntKind.wrap IntKind.i64 (r + (1 : Int))))))] (modsL [l5V ms lm (IntKind.wrap IntKind.i64 (r + (0 : Int))), l5V ks lk (IntKind.wrap IntKind.i64 (r + (1 : Int)))])) && true) && (pb (IntKind.i64 = IntKind.i64 ∧ LmkOk ks lk) && (pb (IntKind.i64 = IntKind.i64 ∧ LmkOk ms lm) && true)))) = true) : Goes CZ2 w0 49 (cL (cR (cR (cR (cR meC))))) (mk [3,4,5,13,14] [.snap ms lm, .snap ks lk, .int .i64 r, .ptr 0 0, .nils] [⟨[.int .i64 2, .slc 1 0 m, .slc 2 0 2], 53⟩, ⟨opsL ops, 57⟩, ⟨[.int .i64 u0, .int .i64 u1], 3⟩] dec0) Ex.normal (mk [13,14] [.ptr 0 0, .slc 3 0 2] [ABlk.mk [.int .i64 2, .slc 1 0 m, .slc 2 0 2] 53, ABlk.mk (opsL ops) 57, ABlk.mk [.int .i64 u0, .int .i64 u1] 3, ABlk.mk (modsL [l5V ms lm (IntKind.wrap IntKind.i64 (r + (0 : Int))), l5V ks lk (IntKind.wrap IntKind.i64 (r + (1 : Int)))]) 46] dec1) :=
  goes_re (dec := []) (goes_viewK' OZ2 mixed (qs := []) (fuel := 8) [.lit, .flat, .lit, .giv (modsL [l5V ms lm (IntKind.wrap IntKind.i64 (r + 0)), l5V ks lk (IntKind.wrap IntKind.i64 (r + 1))]) []] (by kernel_rfl) hok dec1)
theorem meZ2 (ops : List TOp) (m : Nat) (u0 u1 : Int) (xs : List Mod) (w0 : World) (dec0 dec1 : List Bool) (hok : ((pb (Mod.mk (Prod.fst (Mod.c0 (evM (unMs (modsL xs)) (unOps (opsL ops)) (unInt [.int .i64 u0, .int .i64 u1]) 1)), Prod.snd (Mod.c0 (evM (unMs (modsL xs)) (unOps (opsL ops)) (unInt [.int .i64 u0, .int .i64 u1]) 1))) (Prod.fst (Mod.c1 (evM (unMs (modsL xs)) (unOps (opsL ops)) (unInt [.int .i64 u0, .int .i64 u1]) 1)), Prod.snd (Mod.c1 (evM (unMs (modsL xs)) (unOps (opsL ops)) (unInt [.int .i64 u0, .int .i64 u1]) 1))) (Prod.fst (Mod.c2 (evM (unMs (modsL xs)) (unOps (opsL ops)) (unInt [.int .i64 u0, .int .i64 u1]) 1)), Prod.snd (Mod.c2 (evM (unMs (modsL xs)) (unOps (opsL ops)) (unInt [.int .i64 u0, .int .i64 u1]) 1))) (Prod.fst (Mod.c3 (evM (unMs (modsL xs)) (unOps (opsL ops)) (unInt [.int .i64 u0, .int .i64 u1]) 1)), Prod.snd (Mod.c3 (evM (unMs (modsL xs)) (unOps (opsL ops)) (unInt [.int .i64 u0, .int .i64 u1]) 1))) (Prod.fst (Mod.c4 (evM (unMs (modsL xs)) (unOps (opsL ops)) (unInt [.int .i64 u0, .int .i64 u1]) 1)), Prod.snd (Mod.c4 (evM (unMs (modsL xs)) (unOps (opsL ops)) (unInt [.int .i64 u0, .int .i64 u1]) 1))) (Prod.fst (Mod.c5 (evM (unMs (modsL xs)) (unOps (opsL ops)) (unInt [.int .i64 u0, .int .i64 u1]) 1)), Prod.snd (Mod.c5 (evM (unMs (modsL xs)) (unOps (opsL ops)) (unInt [.int .i64 u0, .int .i64 u1]) 1))) (Prod.fst (Mod.c6 (evM (unMs (modsL xs)) (unOps (opsL ops)) (unInt [.int .i64 u0, .int .i64 u1]) 1)), Prod.snd (Mod.c6 (evM (unMs (modsL xs)) (unOps (opsL ops)) (unInt [.int .i64 u0, .int .i64 u1]) 1))) (Prod.fst (Mod.c7 (evM (unMs (modsL xs)) (unOps (opsL ops)) (unInt [.int .i64 u0, .int .i64 u1]) 1)), Prod.snd (Mod.c7 (evM (unMs (modsL xs)) (unOps (opsL ops)) (unInt [.int .i64 u0, .int .i64 u1]) 1))) (Prod.fst (Mod.c8 (evM (unMs (modsL xs)) (unOps (opsL ops)) (unInt [.int .i64 u0, .int .i64 u1]) 1)), Prod.snd (Mod.c8 (evM (unMs (modsL xs)) (unOps (opsL ops)) (unInt [.int .i64 u0, .int .i64 u1]) 1))) (Prod.fst (Mod.r (evM (unMs (modsL xs)) (unOps (opsL ops)) (unInt [.int .i64 u0, .int .i64 u1]) 1)), Prod.snd (Mod.r (evM (unMs (modsL xs)) (unOps (opsL ops)) (unInt [.int .i64 u0, .int .i64 u1]) 1))) = Mod.mk (Prod.fst (Mod.c0 (evM (unMs (modsL xs)) (unOps (opsL ops)) (unInt [.int .i64 u0, .int .i64 u1]) 1)), Prod.snd (Mod.c0 (evM (unMs (modsL xs)) (unOps (opsL ops)) (unInt [.int .i64 u0, .int .i64 u1]) 1))) (Prod.fst (Mod.c1 (evM (unMs (modsL xs)) (unOps (opsL ops)) (unInt [.int .i64 u0, .int .i64 u1]) 1)), Prod.snd (Mod.c1 (evM (unMs (modsL xs)) (unOps (opsL ops)) (unInt [.int .i64 u0, .int .i64 u1]) 1))) (Prod.fst (Mod.c2 (evM (unMs (modsL xs)) (unOps (opsL ops)) (unInt [.int .i64 u0, .int .i64 u1]) 1)), Prod.snd (Mod.c2 (evM (unMs (modsL xs)) (unOps (opsL ops)) (unInt [.int .i64 u0, .int .i64 u1]) 1))) (Prod.fst (Mod.c3 (evM (unMs (modsL xs)) (unOps (opsL ops)) (unInt [.int .i64 u0, .int .i64 u1]) 1)), Prod.snd (Mod.c3 (evM (unMs (modsL xs)) (unOps (opsL ops)) (unInt [.int .i64 u0, .int .i64 u1]) 1))) (Prod.fst (Mod.c4 (evM (unMs (modsL xs)) (unOps (opsL ops)) (unInt [.int .i64 u0, .int .i64 u1]) 1)), Prod.snd (Mod.c4 (evM (unMs (modsL xs)) (unOps (opsL ops)) (unInt [.int .i64 u0, .int .i64 u1]) 1))) (Prod.fst (Mod.c5 (evM (unMs (modsL xs)) (unOps (opsL ops)) (unInt [.int .i64 u0, .int .i64 u1]) 1)), Prod.snd (Mod.c5 (evM (unMs (modsL xs)) (unOps (opsL ops)) (unInt [.int .i64 u0, .int .i64 u1]) 1))) (Prod.fst (Mod.c6 (evM (unMs (modsL xs)) (unOps (opsL ops)) (unInt [.int .i64 u0, .int .i64 u1]) 1)), Prod.snd (Mod.c6 (evM (unMs (modsL xs)) (unOps (opsL ops)) (unInt [.int .i64 u0, .int .i64 u1]) 1))) (Prod.fst (Mod.c7 (evM (unMs (modsL xs)) (unOps (opsL ops)) (unInt [.int .i64 u0, .int .i64 u1]) 1)), Prod.snd (Mod.c7 (evM (unMs (modsL xs)) (unOps (opsL ops)) (unInt [.int .i64 u0, .int .i64 u1]) 1))) (Prod.fst (Mod.c8 (evM (unMs (modsL xs)) (unOps (opsL ops)) (unInt [.int .i64 u0, .int .i64 u1]) 1)), Prod.snd (Mod.c8 (evM (unMs (modsL xs)) (unOps (opsL ops)) (unInt [.int .i64 u0, .int .i64 u1]) 1))) (Prod.fst (Mod.r (evM (unMs (modsL xs)) (unOps (opsL ops)) (unInt [.int .i64 u0, .int .i64 u1]) 1)), Prod.snd (Mod.r (evM (unMs (modsL xs)) (unOps (opsL ops)) (unInt [.int .i64 u0, .int .i64 u1]) 1)))) && (pb (Mod.mk (Prod.fst (Mod.c0 (evM (unMs (modsL xs)) (unOps (opsL ops)) (unInt [.int .i64 u0, .int .i64 u1]) 0)), Prod.snd (Mod.c0 (evM (unMs (modsL xs)) (unOps (opsL ops)) (unInt [.int .i64 u0, .int .i64 u1]) 0))) (Prod.fst (Mod.c1 (evM (unMs (modsL xs)) (unOps (opsL ops)) (unInt [.int .i64 u0, .int .i64 u1]) 0)), Prod.snd (Mod.c1 (evM (unMs (modsL xs)) (unOps (opsL ops)) (unInt [.int .i64 u0, .int .i64 u1]) 0))) (Prod.fst (Mod.c2 (evM (unMs (modsL xs)) (unOps (opsL ops)) (unInt [.int .i64 u0, .int .i64 u1]) 0)), Prod.snd (Mod.c2 (evM (unMs (modsL xs)) (unOps (opsL ops)) (unInt [.int .i64 u0, .int .i64 u1]) 0))) (Prod.fst (Mod.c3 (evM (unMs (modsL xs)) (unOps (opsL ops)) (unInt [.int .i64 u0, .int .i64 u1]) 0)), Prod.snd (Mod.c3 (evM (unMs (modsL xs)) (unOps (opsL ops)) (unInt [.int .i64 u0, .int .i64 u1]) 0))) (Prod.fst (Mod.c4 (evM (unMs (modsL xs)) (unOps (opsL ops)) (unInt [.int .i64 u0, .int .i64 u1]) 0)), Prod.snd (Mod.c4 (evM (unMs (modsL xs)) (unOps (opsL ops)) (unInt [.int .i64 u0, .int .i64 u1]) 0))) (Prod.fst (Mod.c5 (evM (unMs (modsL xs)) (unOps (opsL ops)) (unInt [.int .i64 u0, .int .i64 u1]) 0)), Prod.snd (Mod.c5 (evM (unMs (modsL xs)) (unOps (opsL ops)) (unInt [.int .i64 u0, .int .i64 u1]) 0))) (Prod.fst (Mod.c6 (evM (unMs (modsL xs)) (unOps (opsL ops)) (unInt [.int .i64 u0, .int .i64 u1]) 0)), Prod.snd (Mod.c6 (evM (unMs (modsL xs)) (unOps (opsL ops)) (unInt [.int .i64 u0, .int .i64 u1]) 0))) (Prod.fst (Mod.c7 (evM (unMs (modsL xs)) (unOps (opsL ops)) (unInt [.int .i64 u0, .int .i64 u1]) 0)), Prod.snd (Mod.c7 (evM (unMs (modsL xs)) (unOps (opsL ops)) (unInt [.int .i64 u0, .int .i64 u1]) 0))) (Prod.fst (Mod.c8 (evM (unMs (modsL xs)) (unOps (opsL ops)) (unInt [.int .i64 u0, .int .i64 u1]) 0)), Prod.snd (Mod.c8 (evM (unMs (modsL xs)) (unOps (opsL ops)) (unInt [.int .i64 u0, .int .i64 u1]) 0))) (Prod.fst (Mod.r (evM (unMs (modsL xs)) (unOps (opsL ops)) (unInt [.int .i64 u0, .int .i64 u1]) 0)), Prod.snd (Mod.r (evM (unMs (modsL xs)) (unOps (opsL ops)) (unInt [.int .i64 u0, .int .i64 u1]) 0))) = Mod.mk (Prod.fst (Mod.c0 (evM (unMs (modsL xs)) (unOps (opsL ops)) (unInt [.int .i64 u0, .int .i64 u1]) 0)), Prod.snd (Mod.c0 (evM (unMs (modsL xs)) (unOps (opsL ops)) (unInt [.int .i64 u0, .int .i64 u1]) 0))) (Prod.fst (Mod.c1 (evM (unMs (modsL xs)) (unOps (opsL ops)) (unInt [.int .i64 u0, .int .i64 u1]) 0)), Prod.snd (Mod.c1 (evM (unMs (modsL xs)) (unOps (opsL ops)) (unInt [.int .i64 u0, .int .i64 u1]) 0))) (Prod.fst (Mod.c2 (evM (unMs (modsL xs)) (unOps (opsL ops)) (unInt [.int .i64 u0, .int .i64 u1]) 0)), Prod.snd (Mod.c2 (evM (unMs (modsL xs)) (unOps (opsL ops)) (unInt [.int .i64 u0, .int .i64 u1]) 0))) (Prod.fst (Mod.c3 (evM (unMs (modsL xs)) (unOps (opsL ops)) (unInt [.int .i64 u0, .int .i64 u1]) 0)), Prod.snd (Mod.c3 (evM (unMs (modsL xs)) (unOps (opsL ops)) (unInt [.int .i64 u0, .int .i64 u1]) 0))) (Prod.fst (Mod.c4 (evM (unMs (modsL xs)) (unOps (opsL ops)) (unInt [.int .i64 u0, .int .i64 u1]) 0)), Prod.snd (Mod.c4 (evM (unMs (modsL xs)) (unOps (opsL ops)) (unInt [.int .i64 u0, .int .i64 u1]) 0))) (Prod.fst (Mod.c5 (evM (unMs (modsL xs)) (unOps (opsL ops)) (unInt [.int .i64 u0, .int .i64 u1]) 0)), Prod.snd (Mod.c5 (evM (unMs (modsL xs)) (unOps (opsL ops)) (unInt [.int .i64 u0, .int .i64 u1]) 0))) (Prod.fst (Mod.c6 (evM (unMs (modsL xs)) (unOps (opsL ops)) (unInt [.int .i64 u0, .int .i64 u1]) 0)), Prod.snd (Mod.c6 (evM (unMs (modsL xs)) (unOps (opsL ops)) (unInt [.int .i64 u0, .int .i64 u1]) 0))) (Prod.fst (Mod.c7 (evM (unMs (modsL xs)) (unOps (opsL ops)) (unInt [.int .i64 u0, .int .i64 u1]) 0)), Prod.snd (Mod.c7 (evM (unMs (modsL xs)) (unOps (opsL ops)) (unInt [.int .i64 u0, .int .i64 u1]) 0))) (Prod.fst (Mod.c8 (evM (unMs (modsL xs)) (unOps (opsL ops)) (unInt [.int .i64 u0, .int .i64 u1]) 0)), Prod.snd (Mod.c8 (evM (unMs (modsL xs)) (unOps (opsL ops)) (unInt [.int .i64 u0, .int .i64 u1]) 0))) (Prod.fst (Mod.r (evM (unMs (modsL xs)) (unOps (opsL ops)) (unInt [.int .i64 u0, .int .i64 u1]) 0)), Prod.snd (Mod.r (evM (unMs (modsL xs)) (unOps (opsL ops)) (unInt [.int .i64 u0, .int .i64 u1]) 0)))) && true) && (List.all (opsL ops) AV.noOwn && true && (List.all (modsL xs) AV.noOwn && true) && pb (FldOk 2 IntKind.i64 2 (opsL ops) m [.int .i64 u0, .int .i64 u1] 2 ∧ MsOk 2 (modsL xs) 2) && (List.all (opsL ops) AV.noOwn && true && (List.all (modsL xs) AV.noOwn && true) && pb (FldOk 2 IntKind.i64 2 (opsL ops) m [.int .i64 u0, .int .i64 u1] 2 ∧ MsOk 2 (modsL xs) 2) && true)))) = true) : Goes CZ2 w0 49 (cR (cR (cR (cR (cR meC))))) (mk [13,14] [.ptr 0 0, .slc 3 0 2] [⟨[.int .i64 2, .slc 1 0 m, .slc 2 0 2], 53⟩, ⟨opsL ops, 57⟩, ⟨[.int .i64 u0, .int .i64 u1], 3⟩, ⟨modsL xs, 46⟩] dec0) Ex.ret (mk [12] [.bool true] [] dec1) :=
  goes_re (dec := []) (goes_viewK' OZ2 mixed (qs := []) (fuel := 8) [] (by kernel_rfl) hok dec1)
theorem meA3 (n : Int) (ns : List AV) (ln : Nat) (d : Bool) (ms : List AV) (lm : Nat) (ks : List AV) (lk : Nat) (r : Int) (w0 : World) (dec1 : List Bool) : Goes CZ3 w0 49 (cL meC) (St0 [.int .i64 n, .snap ns ln, .bool d, .snap ms lm, .snap ks lk, .int .i64 r] []) Ex.normal (mk [0,1,2,3,4,5] [.int .i64 n, .snap ns ln, .bool d, .snap ms lm, .snap ks lk, .int .i64 r] [] dec1) :=
  goes_viewK' OZ3 mixed (qs := []) (fuel := 8) [] (by kernel_rfl) rfl dec1
theorem meB3 (n : Int) (ns : List AV) (ln : Nat) (d : Bool) (ms : List AV) (lm : Nat) (ks : List AV) (lk : Nat) (r : Int) (w0 : World) (dec0 dec1 : List Bool) : Goes CZ3 w0 49 (cL (cR meC)) (mk [0,1,2,3,4,5] [.int .i64 n, .snap ns ln, .bool d, .snap ms lm, .snap ks lk, .int .i64 r] [] dec0) Ex.normal (mk [0,1,2,3,4,5] [.int .i64 n, .snap ns ln, .bool d, .snap ms lm, .snap ks lk, .int .i64 r] [] dec1) :=
  goes_re (dec := []) (goes_viewK' OZ3 mixed (qs := []) (fuel := 8) [] (by kernel_rfl) rfl dec1)
theorem meD3 (n : Int) (ns : List AV) (ln : Nat) (d : Bool) (ms : List AV) (lm : Nat) (ks : List AV) (lk : Nat) (r : Int) (w0 : World) (dec0 dec1 : List Bool) (hok : (((List.all (opsL (lmkOps n 3 d ns ln)) AV.noOwn) && true && (pb (IntKind.i64 = IntKind.i64 ∧ LmkOk ns ln ∧ wi n (3 : Int) + (1 : Int) = (3 : Int)) && true))) = true) : Goes CZ3 w0 49 (cL (cR (cR meC))) (mk [0,1,2,3,4,5] [.int .i64 n, .snap ns ln, .bool d, .snap ms lm, .snap ks lk, .int .i64 r] [] dec0) Ex.normal (mk [3,4,5,13] [.snap ms lm, .snap ks lk, .int .i64 r, .ptr 0 0] [ABlk.mk [.int .i64 3, .slc 1 0 (lmkM 3 ln), .slc 2 0 3] 53, ABlk.mk (opsL (lmkOps n 3 d ns ln)) 57, ABlk.mk [.int .i64 (IntKind.wrap IntKind.i64 (IntKind.wrap IntKind.i64 ((↑(lmkM 3 ln) : Int) - (1 : Int)) - wi (IntKind.wrap IntKind.i64 (IntKind.wrap IntKind.i64 (Int.tdiv n (3 : Int)) + (0 : Int))) (min3 (lmkM 3 ln)))), .int .i64 (IntKind.wrap IntKind.i64 (IntKind.wrap IntKind.i64 ((↑(lmkM 3 ln) : Int) - (1 : Int)) - wi (IntKind.wrap IntKind.i64 (IntKind.wrap IntKind.i64 (Int.tdiv n (3 : Int)) + (1 : Int))) (min3 (lmkM 3 ln)))), .int .i64 (IntKind.wrap IntKind.i64 (IntKind.wrap IntKind.i64 ((↑(lmkM 3 ln) : Int) - (1 : Int)) - wi (IntKind.wrap IntKind.i64 (IntKind.wrap IntKind.i64 (Int.tdiv n (3 : Int)) + (2 : Int))) (min3 (lmkM 3 ln))))] 3] dec1) :=
  goes_re (dec := []) (goes_viewK' OZ3 mixed (qs := []) (fuel := 8) [.lit, .flat, .flat] (by kernel_rfl) hok dec1)
theorem meE3 (ms : List AV) (lm : Nat) (ks : List AV) (lk : Nat) (r : Int) (ops : List TOp) (m : Nat) (u0 u1 u2 : Int) (w0 : World) (dec0 dec1 : List Bool) (hok : (((List.all (opsL ops) AV.noOwn) && true && true)) = true) : Goes CZ3 w0 49 (cL (cR (cR (cR meC)))) (mk [3,4,5,13] [.snap ms lm, .snap ks lk, .int .i64 r, .ptr 0 0] [⟨[.int .i64 3, .slc 1 0 m, .slc 2 0 3], 53⟩, ⟨opsL ops, 57⟩, ⟨[.int .i64 u0, .int .i64 u1, .int .i64 u2], 3⟩] dec0) Ex.normal (mk [3,4,5,13,14] [.snap ms lm, .snap ks lk, .int .i64 r, .ptr 0 0, .nils] [ABlk.mk [.int .i64 3, .slc 1 0 m, .slc 2 0 3] 53, ABlk.mk (opsL ops) 57, ABlk.mk [.int .i64 u0, .int .i64 u1, .int .i64 u2] 3] dec1) :=
  goes_re (dec := []) (goes_viewK' OZ3 mixed (qs := []) (fuel := 8) [.lit, .flat, .lit] (by kernel_rfl) hok dec1)
theorem meG3 (ms : List AV) (lm : Nat) (ks : List AV) (lk : Nat) (r : Int) (ops : List TOp) (m : Nat) (u0 u1 u2 : Int) (w0 : World) (dec0 dec1 : List Bool) (hok : (((List.all (opsL ops) AV.noOwn) && (pb (SubP true [] [0, 1, 2, 3907] 0 [.flt (Prod.fst (Mod.c0 (l5V ms lm (IntKind.wrap IntKind.i64 (r + (0 : Int)))))), .flt (Prod.snd (Mod.c0 (l5V ms lm (IntKind.wrap IntKind.i64 (r + (0 : Int)))))), .flt (Prod.fst (Mod.c1 (l5V ms lm (IntKind.wrap IntKind.i64 (r + (0 : Int)))))), .flt (Prod.snd (Mod.c1 (l5V ms lm (IntKind.wrap IntKind.i64 (r + (0 : Int)))))), .flt (Prod.fst (Mod.c2 (l5V ms lm (IntKind.wrap IntKind.i64 (r + (0 : Int)))))), .flt (Prod.snd (Mod.c2 (l5V ms lm (IntKind.wrap IntKind.i64 (r + (0 : Int)))))), .flt (Prod.fst (Mod.c3 (l5V ms lm (IntKind.wrap IntKind.i64 (r + (0 : Int)))))), .flt (Prod.snd (Mod.c3 (l5V ms lm (IntKind.wrap IntKind.i64 (r + (0 : Int)))))), .flt (Prod.fst (Mod.c4 (l5V ms lm (IntKind.wrap IntKind.i64 (r + (0 : Int)))))), .flt (Prod.snd (Mod.c4 (l5V ms lm (IntKind.wrap IntKind.i64 (r + (0 : Int)))))), .flt (Prod.fst (Mod.c5 (l5V ms lm (IntKind.wrap IntKind.i64 (r + (0 : Int)))))), .flt (Prod.snd (Mod.c5 (l5V ms lm (IntKind.wrap IntKind.i64 (r + (0 : Int)))))), .flt (Prod.fst (Mod.c6 (l5V ms lm (IntKind.wrap IntKind.i64 (r + (0 : Int)))))), .flt (Prod.snd (Mod.c6 (l5V ms lm (IntKind.wrap IntKind.i64 (r + (0 : Int)))))), .flt (Prod.fst (Mod.c7 (l5V ms lm (IntKind.wrap IntKind.i64 (r + (0 : Int)))))), .flt (Prod.snd (Mod.c7 (l5V ms lm (IntKind.wrap IntKind.i64 (r + (0 : Int)))))), .flt (Prod.fst (Mod.c8 (l5V ms lm (IntKind.wrap IntKind.i64 (r + (0 : Int)))))), .flt (Prod.snd (Mod.c8 (l5V ms lm (IntKind.wrap IntKind.i64 (r + (0 : Int)))))), .flt (Prod.fst (Mod.r (l5V ms lm (IntKind.wrap IntKind.i64 (r + (0 : Int)))))), .flt (Prod.snd (Mod.r (l5V ms lm (IntKind.wrap IntKind.i64 (r + (0 : Int)))))), .flt (Prod.fst (Mod.c0 (l5V ks lk (IntKind.wrap IntKind.i64 (r + (1 : Int)))))), .flt (Prod.snd (Mod.c0 (l5V ks lk (IntKind.wrap IntKind.i64 (r + (1 : Int)))))), .flt (Prod.fst (Mod.c1 (l5V ks lk (IntKind.wrap IntKind.i64 (r + (1 : Int)))))), .flt (Prod.snd (Mod.c1 (l5V ks lk (IntKind.wrap IntKind.i64 (r + (1 : Int)))))), .flt (Prod.fst (Mod.c2 (l5V ks lk (IntKind.wrap IntKind.i64 (r + (1 : Int)))))), .flt (Prod.snd (Mod.c2 (l5V ks lk (IntKind.wrap IntKind.i64 (r + (1 : Int)))))), .flt (Prod.fst (Mod.c3 (l5V ks lk (IntKind.wrap IntKind.i64 (r + (1 : Int)))))), .flt (Prod.snd (Mod.c3 (l5V ks lk (IntKind.wrap IntKind.i64 (r + (1 : Int)))))), .flt (Prod.fst (Mod.c4 (l5V ks lk (IntKind.wrap IntKind.i64 (r + (1 : Int)))))), .flt (Prod.snd (Mod.c4 (l5V ks lk (IntKind.wrap IntKind.i64 (r + (1 : Int)))))), .flt (Prod.fst (Mod.c5 (l5V ks lk (IntKind.wrap IntKind.i64 (r + (1 : Int)))))), .flt (Prod.snd (Mod.c5 (l5V ks lk (IntKind.wrap IntKind.i64 (r + (1 : Int)))))), .flt (Prod.fst (Mod.c6 (l5V ks lk (IntKind.wrap IntKind.i64 (r + (1 : Int)))))), .flt (Prod.snd (Mod.c6 (l5V ks lk (IntKind.wrap IntKind.i64 (r + (1 : Int)))))), .flt (Prod.fst (Mod.c7 (l5V ks lk (IntKind.wrap IntKind.i64 (r + (1 : Int)))))), .flt (Prod.snd (Mod.c7 (l5V ks lk (IntKind.wrap IntKind.i64 (r + (1 : Int)))))), .flt (Prod.fst (Mod.c8 (l5V ks lk (IntKind.wrap IntKind.i64 (r + (1 : Int)))))), .flt (Prod.snd (Mod.c8 (l5V ks lk (IntKind.wrap IntKind.i64 (r + (1 : Int)))))), .flt (Prod.fst (Mod.r (l5V ks lk (IntKind.wrap IntKind.i64 (r + (1 : Int)))))), .flt (Prod.snd (Mod.r (l5V ks lk (IntKind.wrap IntKind.i64 (r + (1 : Int)))))), .flt (Prod.fst (Mod.c0 (l5V ms lm (IntKind.wrap IntKind.i64 (r + (2 : Int)))))), .flt (Prod.snd (Mod.c0 (l5V ms lm (IntKind.wrap IntKind.i64 (r + (2 : Int)))))), .flt (Prod.fst (Mod.c1 (l5V ms lm (IntKind.wrap IntKind.i64 (r + (2 : Int)))))), .flt (Prod.snd (Mod.c1 (l5V ms lm (IntKind.wrap IntKind.i64 (r + (2 : Int)))))), .flt (Prod.fst (Mod.c2 (l5V ms lm (IntKind.wrap IntKind.i64 (r + (2 : Int)))))), .flt (Prod.snd (Mod.c2 (l5V ms lm (IntKind.wrap IntKind.i64 (r + (2 : Int)))))), .flt (Prod.fst (Mod.c3 (l5V ms lm (IntKind.wrap IntKind.i64 (r + (2 : Int)))))), .flt (Prod.snd (Mod.c3 (l5V ms lm (IntKind.wrap IntKind.i64 (r + (2 : Int)))))), .flt (Prod.fst (Mod.c4 (l5V ms lm (IntKind.wrap IntKind.i64 (r + (2 : Int)))))), .flt (Prod.snd (Mod.c4 (l5V ms lm (IntKind.wrap IntKind.i64 (r + (2 : Int)))))), .flt (Prod.fst (Mod.c5 (l5V ms lm (IntKind.wrap IntKind.i64 (r + (2 : Int)))))), .flt (Prod.snd (Mod.c5 (l5V ms lm (IntKind.wrap IntKind.i64 (r + (2 : Int)))))), .flt (Prod.fst (Mod.c6 (l5V ms lm (IntKind.wrap IntKind.i64 (r + (2 : Int)))))), .flt (Prod.snd (Mod.c6 (l5V ms lm (IntKind.wrap IntKind.i64 (r + (2 : Int)))))), .flt (Prod.fst (Mod.c7 (l5V ms lm (IntKind.wrap IntKind.i64 (r + (2 : Int)))))), .flt (Prod.snd (Mod.c7 (l5V ms lm (IntKind.wrap IntKind.i64 (r + (2 : Int)))))), .flt (Prod.fst (Mod.c8 (l5V ms lm (IntKind.wrap IntKind.i64 (r + (2 : Int)))))), .flt (Prod.snd (Mod.c8 (l5V ms lm (IntKind.wrap IntKind.i64 (r + (2 : Int)))))), .flt (Prod.fst (Mod.r (l5V ms lm (IntKind.wrap IntKind.i64 (r + (2 : Int)))))), .flt (Prod.snd (Mod.r (l5V ms lm (IntKind.wrap IntKind.i64 (r + (2 : Int))))))] (modsL [l5V ms lm (IntKind.wrap IntKind.i64 (r + (0 : Int))), l5V ks lk (IntKind.wrap IntKind.i64 (r + (1 : Int))), l5V ms lm (IntKind.wrap IntKind.i64 (r + (2 : Int)))])) && true) && (pb (IntKind.i64 = IntKind.i64 ∧ LmkOk ms lm) && (pb (IntKind.i64 = IntKind.i64 ∧ LmkOk ks lk) && (pb (IntKind.i64 = IntKind.i64 ∧ LmkOk ms lm) && true))))) = true) : Goes CZ3 w0 49 (cL (cR (cR (cR (cR meC))))) (mk [3,4,5,13,14] [.snap ms lm, .snap ks lk, .int .i64 r, .ptr 0 0, .nils] [⟨[.int .i64 3, .slc 1 0 m, .slc 2 0 3], 53⟩, ⟨opsL ops, 57⟩, ⟨[.int .i64 u0, .int .i64 u1, .int .i64 u2], 3⟩] dec0) Ex.normal (mk [13,14] [.ptr 0 0, .slc 3 0 3] [ABlk.mk [.int .i64 3, .slc 1 0 m, .slc 2 0 3] 53, ABlk.mk (opsL ops) 57, ABlk.mk [.int .i64 u0, .int .i64 u1, .int .i64 u2] 3, ABlk.mk (modsL [l5V ms lm (IntKind.wrap IntKind.i64 (r + (0 : Int))), l5V ks lk (IntKind.wrap IntKind.i64 (r + (1 : Int))), l5V ms lm (IntKind.wrap IntKind.i64 (r + (2 : Int)))]) 46] dec1) :=
  goes_re (dec := []) (goes_viewK' OZ3 mixed (qs := []) (fuel := 8) [.lit, .flat, .lit, .giv (modsL [l5V ms lm (IntKind.wrap IntKind.i64 (r + 0)), l5V ks lk (IntKind.wrap IntKind.i64 (r + 1)), l5V ms lm (IntKind.wrap IntKind.i64 (r + 2))]) []] (by kernel_rfl) hok dec1)
theorem meZ3 (ops : List TOp) (m : Nat) (u0 u1 u2 : Int) (xs : List Mod) (w0 : World) (dec0 dec1 : List Bool) (hok : ((pb (Mod.mk (Prod.fst (Mod.c0 (evM (unMs (modsL xs)) (unOps (opsL ops)) (unInt [.int .i64 u0, .int .i64 u1, .int .i64 u2]) 2)), Prod.snd (Mod.c0 (evM (unMs (modsL xs)) (unOps (opsL ops)) (unInt [.int .i64 u0, .int .i64 u1, .int .i64 u2]) 2))) (Prod.fst (Mod.c1 (evM (unMs (modsL xs)) (unOps (opsL ops)) (unInt [.int .i64 u0, .int .i64 u1, .int .i64 u2]) 2)), Prod.snd (Mod.c1 (evM (unMs (modsL xs)) (unOps (opsL ops)) (unInt [.int .i64 u0, .int .i64 u1, .int .i64 u2]) 2))) (Prod.fst (Mod.c2 (evM (unMs (modsL xs)) (unOps (opsL ops)) (unInt [.int .i64 u0, .int .i64 u1, .int .i64 u2]) 2)), Prod.snd (Mod.c2 (evM (unMs (modsL xs)) (unOps (opsL ops)) (unInt [.int .i64 u0, .int .i64 u1, .int .i64 u2]) 2))) (Prod.fst (Mod.c3 (evM (unMs (modsL xs)) (unOps (opsL ops)) (unInt [.int .i64 u0, .int .i64 u1, .int .i64 u2]) 2)), Prod.snd (Mod.c3 (evM (unMs (modsL xs)) (unOps (opsL ops)) (unInt [.int .i64 u0, .int .i64 u1, .int .i64 u2]) 2))) (Prod.fst (Mod.c4 (evM (unMs (modsL xs)) (unOps (opsL ops)) (unInt [.int .i64 u0, .int .i64 u1, .int .i64 u2]) 2)), Prod.snd (Mod.c4 (evM (unMs (modsL xs)) (unOps (opsL ops)) (unInt [.int .i64 u0, .int .i64 u1, .int .i64 u2]) 2))) (Prod.fst (Mod.c5 (evM (unMs (modsL xs)) (unOps (opsL ops)) (unInt [.int .i64 u0, .int .i64 u1, .int .i64 u2]) 2)), Prod.snd (Mod.c5 (evM (unMs (modsL xs)) (unOps (opsL ops)) (unInt [.int .i64 u0, .int .i64 u1, .int .i64 u2]) 2))) (Prod.fst (Mod.c6 (evM (unMs (modsL xs)) (unOps (opsL ops)) (unInt [.int .i64 u0, .int .i64 u1, .int .i64 u2]) 2)), Prod.snd (Mod.c6 (evM (unMs (modsL xs)) (unOps (opsL ops)) (unInt [.int .i64 u0, .int .i64 u1, .int .i64 u2]) 2))) (Prod.fst (Mod.c7 (evM (unMs (modsL xs)) (unOps (opsL ops)) (unInt [.int .i64 u0, .int .i64 u1, .int .i64 u2]) 2)), Prod.snd (Mod.c7 (evM (unMs (modsL xs)) (unOps (opsL ops)) (unInt [.int .i64 u0, .int .i64 u1, .int .i64 u2]) 2))) (Prod.fst (Mod.c8 (evM (unMs (modsL xs)) (unOps (opsL ops)) (unInt [.int .i64 u0, .int .i64 u1, .int .i64 u2]) 2)), Prod.snd (Mod.c8 (evM (unMs (modsL xs)) (unOps (opsL ops)) (unInt [.int .i64 u0, .int .i64 u1, .int .i64 u2]) 2))) (Prod.fst (Mod.r (evM (unMs (modsL xs)) (unOps (opsL ops)) (unInt [.int .i64 u0, .int .i64 u1, .int .i64 u2]) 2)), Prod.snd (Mod.r (evM (unMs (modsL xs)) (unOps (opsL ops)) (unInt [.int .i64 u0, .int .i64 u1, .int .i64 u2]) 2))) = Mod.mk (Prod.fst (Mod.c0 (evM (unMs (modsL xs)) (unOps (opsL ops)) (unInt [.int .i64 u0, .int .i64 u1, .int .i64 u2]) 2)), Prod.snd (Mod.c0 (evM (unMs (modsL xs)) (unOps (opsL ops)) (unInt [.int .i64 u0, .int .i64 u1, .int .i64 u2]) 2))) (Prod.fst (Mod.c1 (evM (unMs (modsL xs)) (unOps (opsL ops)) (unInt [.int .i64 u0, .int .i64 u1, .int .i64 u2]) 2)), Prod.snd (Mod.c1 (evM (unMs (modsL xs)) (unOps (opsL ops)) (unInt [.int .i64 u0, .int .i64 u1, .int .i64 u2]) 2))) (Prod.fst (Mod.c2 (evM (unMs (modsL xs)) (unOps (opsL ops)) (unInt [.int .i64 u0, .int .i64 u1, .int .i64 u2]) 2)), Prod.snd (Mod.c2 (evM (unMs (modsL xs)) (unOps (opsL ops)) (unInt [.int .i64 u0, .int .i64 u1, .int .i64 u2]) 2))) (Prod.fst (Mod.c3 (evM (unMs (modsL xs)) (unOps (opsL ops)) (unInt [.int .i64 u0, .int .i64 u1, .int .i64 u2]) 2)), Prod.snd (Mod.c3 (evM (unMs (modsL xs)) (unOps (opsL ops)) (unInt [.int .i64 u0, .int .i64 u1, .int .i64 u2]) 2))) (Prod.fst (Mod.c4 (evM (unMs (modsL xs)) (unOps (opsL ops)) (unInt [.int .i64 u0, .int .i64 u1, .int .i64 u2]) 2)), Prod.snd (Mod.c4 (evM (unMs (modsL xs)) (unOps (opsL ops)) (unInt [.int .i64 u0, .int .i64 u1, .int .i64 u2]) 2))) (Prod.fst (Mod.c5 (evM (unMs (modsL xs)) (unOps (opsL ops)) (unInt [.int .i64 u0, .int .i64 u1, .int .i64 u2]) 2)), Prod.snd (Mod.c5 (evM (unMs (modsL xs)) (unOps (opsL ops)) (unInt [.int .i64 u0, .int .i64 u1, .int .i64 u2]) 2))) (Prod.fst (Mod.c6 (evM (unMs (modsL xs)) (unOps (opsL ops)) (unInt [.int .i64 u0, .int .i64 u1, .int .i64 u2]) 2)), Prod.snd (Mod.c6 (evM (unMs (modsL xs)) (unOps (opsL ops)) (unInt [.int .i64 u0, .int .i64 u1, .int .i64 u2]) 2))) (Prod.fst (Mod.c7 (evM (unMs (modsL xs)) (unOps (opsL ops)) (unInt [.int .i64 u0, .int .i64 u1, .int .i64 u2]) 2)), Prod.snd (Mod.c7 (evM (unMs (modsL xs)) (unOps (opsL ops)) (unInt [.int .i64 u0, .int .i64 u1, .int .i64 u2]) 2))) (Prod.fst (Mod.c8 (evM (unMs (modsL xs)) (unOps (opsL ops)) (unInt [.int .i64 u0, .int .i64 u1, .int .i64 u2]) 2)), Prod.snd (Mod.c8 (evM (unMs (modsL xs)) (unOps (opsL ops)) (unInt [.int .i64 u0, .int .i64 u1, .int .i64 u2]) 2))) (Prod.fst (Mod.r (evM (unMs (modsL xs)) (unOps (opsL ops)) (unInt [.int .i64 u0, .int .i64 u1, .int .i64 u2]) 2)), Prod.snd (Mod.r (evM (unMs (modsL xs)) (unOps (opsL ops)) (unInt [.int .i64 u0, .int .i64 u1, .int .i64 u2]) 2)))) && (pb (Mod.mk (Prod.fst (Mod.c0 (evM (unMs (modsL xs)) (unOps (opsL ops)) (unInt [.int .i64 u0, .int .i64 u1, .int .i64 u2]) 1)), Prod.snd (Mod.c0 (evM (unMs (modsL xs)) (unOps (opsL ops)) (unInt [.int .i64 u0, .int .i64 u1, .int .i64 u2]) 1))) (Prod.fst (Mod.c1 (evM (unMs (modsL xs)) (unOps (opsL ops)) (unInt [.int .i64 u0, .int .i64 u1, .int .i64 u2]) 1)), Prod.snd (Mod.c1 (evM (unMs (modsL xs)) (unOps (opsL ops)) (unInt [.int .i64 u0, .int .i64 u1, .int .i64 u2]) 1))) (Prod.fst (Mod.c2 (evM (unMs (modsL xs)) (unOps (opsL ops)) (unInt [.int .i64 u0, .int .i64 u1, .int .i64 u2]) 1)), Prod.snd (Mod.c2 (evM (unMs (modsL xs)) (unOps (opsL ops)) (unInt [.int .i64 u0, .int .i64 u1, .int .i64 u2]) 1))) (Prod.fst (Mod.c3 (evM (unMs (modsL xs)) (unOps (opsL ops)) (unInt [.int .i64 u0, .int .i64 u1, .int .i64 u2]) 1)), Prod.snd (Mod.c3 (evM (unMs (modsL xs)) (unOps (opsL ops)) (unInt [.int .i64 u0, .int .i64 u1, .int .i64 u2]) 1))) (Prod.fst (Mod.c4 (evM (unMs (modsL xs)) (unOps (opsL ops)) (unInt [.int .i64 u0, .int .i64 u1, .int .i64 u2]) 1)), Prod.snd (Mod.c4 (evM (unMs (modsL xs)) (unOps (opsL ops)) (unInt [.int .i64 u0, .int .i64 u1, .int .i64 u2]) 1))) (Prod.fst (Mod.c5 (evM (unMs (modsL xs)) (unOps (opsL ops)) (unInt [.int .i64 u0, .int .i64 u1, .int .i64 u2]) 1)), Prod.snd (Mod.c5 (evM (unMs (modsL xs)) (unOps (opsL ops)) (unInt [.int .i64 u0, .int .i64 u1, .int .i64 u2]) 1))) (Prod.fst (Mod.c6 (evM (unMs (modsL xs)) (unOps (opsL ops)) (unInt [.int .i64 u0, .int .i64 u1, .int .i64 u2]) 1)), Prod.snd (Mod.c6 (evM (unMs (modsL xs)) (unOps (opsL ops)) (unInt [.int .i64 u0, .int .i64 u1, .int .i64 u2]) 1))) (Prod.fst (Mod.c7 (evM (unMs (modsL xs)) (unOps (opsL ops)) (unInt [.int .i64 u0, .int .i64 u1, .int .i64 u2]) 1)), Prod.snd (Mod.c7 (evM (unMs (modsL xs)) (unOps (opsL ops)) (unInt [.int .i64 u0, .int .i64 u1, .int .i64 u2]) 1))) (Prod.fst (Mod.c8 (evM (unMs (modsL xs)) (unOps (opsL ops)) (unInt [.int .i64 u0, .int .i64 u1, .int .i64 u2]) 1)), Prod.snd (Mod.c8 (evM (unMs (modsL xs)) (unOps (opsL ops)) (unInt [.int .i64 u0, .int .i64 u1, .int .i64 u2]) 1))) (Prod.fst (Mod.r (evM (unMs (modsL xs)) (unOps (opsL ops)) (unInt [.int .i64 u0, .int .i64 u1, .int .i64 u2]) 1)), Prod.snd (Mod.r (evM (unMs (modsL xs)) (unOps (opsL ops)) (unInt [.int .i64 u0, .int .i64 u1, .int .i64 u2]) 1))) = Mod.mk (Prod.fst (Mod.c0 (evM (unMs (modsL xs)) (unOps (opsL ops)) (unInt [.int .i64 u0, .int .i64 u1, .int .i64 u2]) 1)), Prod.snd (Mod.c0 (evM (unMs (modsL xs)) (unOps (opsL ops)) (unInt [.int .i64 u0, .int .i64 u1, .int .i64 u2]) 1))) (Prod.fst (Mod.c1 (evM (unMs (modsL xs)) (unOps (opsL ops)) (unInt [.int .i64 u0, .int .i64 u1, .int .i64 u2]) 1)), Prod.snd (Mod.c1 (evM (unMs (modsL xs)) (unOps (opsL ops)) (unInt [.int .i64 u0, .int .i64 u1, .int .i64 u2]) 1))) (Prod.fst (Mod.c2 (evM (unMs (modsL xs)) (unOps (opsL ops)) (unInt [.int .i64 u0, .int .i64 u1, .int .i64 u2]) 1)), Prod.snd (Mod.c2 (evM (unMs (modsL xs)) (unOps (opsL ops)) (unInt [.int .i64 u0, .int .i64 u1, .int .i64 u2]) 1))) (Prod.fst (Mod.c3 (evM (unMs (modsL xs)) (unOps (opsL ops)) (unInt [.int .i64 u0, .int .i64 u1, .int .i64 u2]) 1)), Prod.snd (Mod.c3 (evM (unMs (modsL xs)) (unOps (opsL ops)) (unInt [.int .i64 u0, .int .i64 u1, .int .i64 u2]) 1))) (Prod.fst (Mod.c4 (evM (unMs (modsL xs)) (unOps (opsL ops)) (unInt [.int .i64 u0, .int .i64 u1, .int .i64 u2]) 1)), Prod.snd (Mod.c4 (evM (unMs (modsL xs)) (unOps (opsL ops)) (unInt [.int .i64 u0, .int .i64 u1, .int .i64 u2]) 1))) (Prod.fst (Mod.c5 (evM (unMs (modsL xs)) (unOps (opsL ops)) (unInt [.int .i64 u0, .int .i64 u1, .int .i64 u2]) 1)), Prod.snd (Mod.c5 (evM (unMs (modsL xs)) (unOps (opsL ops)) (unInt [.int .i64 u0, .int .i64 u1, .int .i64 u2]) 1))) (Prod.fst (Mod.c6 (evM (unMs (modsL xs)) (unOps (opsL ops)) (unInt [.int .i64 u0, .int .i64 u1, .int .i64 u2]) 1)), Prod.snd (Mod.c6 (evM (unMs (modsL xs)) (unOps (opsL ops)) (unInt [.int .i64 u0, .int .i64 u1, .int .i64 u2]) 1))) (Prod.fst (Mod.c7 (evM (unMs (modsL xs)) (unOps (opsL ops)) (unInt [.int .i64 u0, .int .i64 u1, .int .i64 u2]) 1)), Prod.snd (Mod.c7 (evM (unMs (modsL xs)) (unOps (opsL ops)) (unInt [.int .i64 u0, .int .i64 u1, .int .i64 u2]) 1))) (Prod.fst (Mod.c8 (evM (unMs (modsL xs)) (unOps (opsL ops)) (unInt [.int .i64 u0, .int .i64 u1, .int .i64 u2]) 1)), Prod.snd (Mod.c8 (evM (unMs (modsL xs)) (unOps (opsL ops)) (unInt [.int .i64 u0, .int .i64 u1, .int .i64 u2]) 1))) (Prod.fst (Mod.r (evM (unMs (modsL xs)) (unOps (opsL ops)) (unInt [.int .i64 u0, .int .i64 u1, .int .i64 u2]) 1)), Prod.snd (Mod.r (evM (unMs (modsL xs)) (unOps (opsL ops)) (unInt [.int .i64 u0, .int .i64 u1, .int .i64 u2]) 1)))) && (pb (Mod.mk (Prod.fst (Mod.c0 (evM (unMs (modsL xs)) (unOps (opsL ops)) (unInt [.int .i64 u0, .int .i64 u1, .int .i64 u2]) 0)), Prod.snd (Mod.c0 (evM (unMs (modsL xs)) (unOps (opsL ops)) (unInt [.int .i64 u0, .int .i64 u1, .int .i64 u2]) 0))) (Prod.fst (Mod.c1 (evM (unMs (modsL xs)) (unOps (opsL ops)) (unInt [.int .i64 u0, .int .i64 u1, .int .i64 u2]) 0)), Prod.snd (Mod.c1 (evM (unMs (modsL xs)) (unOps (opsL ops)) (unInt [.int .i64 u0, .int .i64 u1, .int .i64 u2]) 0))) (Prod.fst (Mod.c2 (evM (unMs (modsL xs)) (unOps (opsL ops)) (unInt [.int .i64 u0, .int .i64 u1, .int .i64 u2]) 0)), Prod.snd (Mod.c2 (evM (unMs (modsL xs)) (unOps (opsL ops)) (unInt [.int .i64 u0, .int .i64 u1, .int .i64 u2]) 0))) (Prod.fst (Mod.c3 (evM (unMs (modsL xs)) (unOps (opsL ops)) (unInt [.int .i64 u0, .int .i64 u1, .int .i64 u2]) 0)), Prod.snd (Mod.c3 (evM (unMs (modsL xs)) (unOps (opsL ops)) (unInt [.int .i64 u0, .int .i64 u1, .int .i64 u2]) 0))) (Prod.fst (Mod.c4 (evM (unMs (modsL xs)) (unOps (opsL ops)) (unInt [.int .i64 u0, .int .i64 u1, .int .i64 u2]) 0)), Prod.snd (Mod.c4 (evM (unMs (modsL xs)) (unOps (opsL ops)) (unInt [.int .i64 u0, .int .i64 u1, .int .i64 u2]) 0))) (Prod.fst (Mod.c5 (evM (unMs (modsL xs)) (unOps (opsL ops)) (unInt [.int .i64 u0, .int .i64 u1, .int .i64 u2]) 0)), Prod.snd (Mod.c5 (evM (unMs (modsL xs)) (unOps (opsL ops)) (unInt [.int .i64 u0, .int .i64 u1, .int .i64 u2]) 0))) (Prod.fst (Mod.c6 (evM (unMs (modsL xs)) (unOps (opsL ops)) (unInt [.int .i64 u0, .int .i64 u1, .int .i64 u2]) 0)), Prod.snd (Mod.c6 (evM (unMs (modsL xs)) (unOps (opsL ops)) (unInt [.int .i64 u0, .int .i64 u1, .int .i64 u2]) 0))) (Prod.fst (Mod.c7 (evM (unMs (modsL xs)) (unOps (opsL ops)) (unInt [.int .i64 u0, .int .i64 u1, .int .i64 u2]) 0)), Prod.snd (Mod.c7 (evM (unMs (modsL xs)) (unOps (opsL ops)) (unInt [.int .i64 u0, .int .i64 u1, .int .i64 u2]) 0))) (Prod.fst (Mod.c8 (evM (unMs (modsL xs)) (unOps (opsL ops)) (unInt [.int .i64 u0, .int .i64 u1, .int .i64 u2]) 0)), Prod.snd (Mod.c8 (evM (unMs (modsL xs)) (unOps (opsL ops)) (unInt [.int .i64 u0, .int .i64 u1, .int .i64 u2]) 0))) (Prod.fst (Mod.r (evM (unMs (modsL xs)) (unOps (opsL ops)) (unInt [.int .i64 u0, .int .i64 u1, .int .i64 u2]) 0)), Prod.snd (Mod.r (evM (unMs (modsL xs)) (unOps (opsL ops)) (unInt [.int .i64 u0, .int .i64 u1, .int .i64 u2]) 0))) = Mod.mk (Prod.fst (Mod.c0 (evM (unMs (modsL xs)) (unOps (opsL ops)) (unInt [.int .i64 u0, .int .i64 u1, .int .i64 u2]) 0)), Prod.snd (Mod.c0 (evM (unMs (modsL xs)) (unOps (opsL ops)) (unInt [.int .i64 u0, .int .i64 u1, .int .i64 u2]) 0))) (Prod.fst (Mod.c1 (evM (unMs (modsL xs)) (unOps (opsL ops)) (unInt [.int .i64 u0, .int .i64 u1, .int .i64 u2]) 0)), Prod.snd (Mod.c1 (evM (unMs (modsL xs)) (unOps (opsL ops)) (unInt [.int .i64 u0, .int .i64 u1, .int .i64 u2]) 0))) (Prod.fst (Mod.c2 (evM (unMs (modsL xs)) (unOps (opsL ops)) (unInt [.int .i64 u0, .int .i64 u1, .int .i64 u2]) 0)), Prod.snd (Mod.c2 (evM (unMs (modsL xs)) (unOps (opsL ops)) (unInt [.int .i64 u0, .int .i64 u1, .int .i64 u2]) 0))) (Prod.fst (Mod.c3 (evM (unMs (modsL xs)) (unOps (opsL ops)) (unInt [.int .i64 u0, .int .i64 u1, .int .i64 u2]) 0)), Prod.snd (Mod.c3 (evM (unMs (modsL xs)) (unOps (opsL ops)) (unInt [.int .i64 u0, .int .i64 u1, .int .i64 u2]) 0))) (Prod.fst (Mod.c4 (evM (unMs (modsL xs)) (unOps (opsL ops)) (unInt [.int .i64 u0, .int .i64 u1, .int .i64 u2]) 0)), Prod.snd (Mod.c4 (evM (unMs (modsL xs)) (unOps (opsL ops)) (unInt [.int .i64 u0, .int .i64 u1, .int .i64 u2]) 0))) (Prod.fst (Mod.c5 (evM (unMs (modsL xs)) (unOps (opsL ops)) (unInt [.int .i64 u0, .int .i64 u1, .int .i64 u2]) 0)), Prod.snd (Mod.c5 (evM (unMs (modsL xs)) (unOps (opsL ops)) (unInt [.int .i64 u0, .int .i64 u1, .int .i64 u2]) 0))) (Prod.fst (Mod.c6 (evM (unMs (modsL xs)) (unOps (opsL ops)) (unInt [.int .i64 u0, .int .i64 u1, .int .i64 u2]) 0)), Prod.snd (Mod.c6 (evM (unMs (modsL xs)) (unOps (opsL ops)) (unInt [.int .i64 u0, .int .i64 u1, .int .i64 u2]) 0))) (Prod.fst (Mod.c7 (evM (unMs (modsL xs)) (unOps (opsL ops)) (unInt [.int .i64 u0, .int .i64 u1, .int .i64 u2]) 0)), Prod.snd (Mod.c7 (evM (unMs (modsL xs)) (unOps (opsL ops)) (unInt [.int .i64 u0, .int .i64 u1, .int .i64 u2]) 0))) (Prod.fst (Mod.c8 (evM (unMs (modsL xs)) (unOps (opsL ops)) (unInt [.int .i64 u0, .int .i64 u1, .int .i64 u2]) 0)), Prod.snd (Mod.c8 (evM (unMs (modsL xs)) (unOps (opsL ops)) (unInt [.int .i64 u0, .int .i64 u1, .int .i64 u2]) 0))) (Prod.fst (Mod.r (evM (unMs (modsL xs)) (unOps (opsL ops)) (unInt [.int .i64 u0, .int .i64 u1, .int .i64 u2]) 0)), Prod.snd (Mod.r (evM (unMs (modsL xs)) (unOps (opsL ops)) (unInt [.int .i64 u0, .int .i64 u1, .int .i64 u2]) 0)))) && true)) && (List.all (opsL ops) AV.noOwn && true && (List.all (modsL xs) AV.noOwn && true) && pb (FldOk 3 IntKind.i64 3 (opsL ops) m [.int .i64 u0, .int .i64 u1, .int .i64 u2] 3 ∧ MsOk 3 (modsL xs) 3) && (List.all (opsL ops) AV.noOwn && true && (List.all (modsL xs) AV.noOwn && true) && pb (FldOk 3 IntKind.i64 3 (opsL ops) m [.int .i64 u0, .int .i64 u1, .int .i64 u2] 3 ∧ MsOk 3 (modsL xs) 3) && true)))) = true) : Goes CZ3 w0 49 (cR (cR (cR (cR (cR meC))))) (mk [13,14] [.ptr 0 0, .slc 3 0 3] [⟨[.int .i64 3, .slc 1 0 m, .slc 2 0 3], 53⟩, ⟨opsL ops, 57⟩, ⟨[.int .i64 u0, .int .i64 u1, .int .i64 u2], 3⟩, ⟨modsL xs, 46⟩] dec0) Ex.ret (mk [12] [.bool true] [] dec1) :=
  goes_re (dec := []) (goes_viewK' OZ3 mixed (qs := []) (fuel := 8) [] (by kernel_rfl) hok dec1)
end Go.Eng.Try
/- ModelEvals, part 2: the law's contract. Condition: the numbers are rows of integers. Written by wip/tools/genW21.py. -/
namespace Go.Eng.Try
open Go Go.Eng Go.RowKit Go.Proofs.Try

theorem meTail1 (ms : List AV) (lm : Nat) (hms : LmkOk ms lm) (ks : List AV) (lk : Nat) (hks : LmkOk ks lk) (r : Int) (ops : List TOp) (u0 : Int) (hm : ops.length < 999) (ho : OpsOk 1 ops) (hu : OutsOk 1 ops.length [u0]) (w0 : World) :
    Goes CZ1 w0 49 (cR (cR (cR meC))) (mk [3,4,5,13] [.snap ms lm, .snap ks lk, .int .i64 r, .ptr 0 0] [⟨[.int .i64 1, .slc 1 0 ops.length, .slc 2 0 1], 53⟩, ⟨opsL ops, 57⟩, ⟨[.int .i64 u0], 3⟩] []) .ret (mk [12] [.bool true] [] []) := by
  have hlen := opsL_length ops
  refine goes_seq (by kernel_rfl) (meE1 ms lm ks lk r ops ops.length u0 w0 [] [] (by simp [opsL_noOwn])) (goes_seq (by kernel_rfl) (meG1 ms lm ks lk r ops ops.length u0 w0 [] [] ?_) (meZ1 ops ops.length u0 [l5V ms lm (IntKind.wrap IntKind.i64 (r + 0))] w0 [] [] ?_))
  · repeat' (with_reducible apply and_t)
    all_goals first
      | rfl
      | exact trivial
      | exact opsL_noOwn _
      | exact pb_of (SubP.same (A := modsL [l5V ms lm (IntKind.wrap IntKind.i64 (r + 0))]) rfl)
      | exact pb_of ⟨by trivial, hms⟩
      | exact pb_of ⟨by trivial, hks⟩
      | (simp only [decide_eq_true_eq]; omega)
  · rw [unOps_ops]
    repeat' (with_reducible apply and_t)
    all_goals first
      | exact trivial
      | exact opsL_noOwn _
      | exact opsL_one _
      | exact modsL_noOwn _
      | exact modsL_one _
      | (simp only [Nat.blt_eq, Nat.ble_eq, hlen, modsL_length, List.length_cons, List.length_nil]; omega)
      | (simp only [decide_eq_true_eq]; omega)
      | exact pb_of ⟨⟨by trivial, rfl, rfl, ops, [u0], rfl, rfl, rfl, by omega, ho, hu⟩, ⟨rfl, [l5V ms lm (IntKind.wrap IntKind.i64 (r + 0))], rfl, rfl⟩⟩
      | exact pb_of rfl
      | rfl

theorem con_evals1 (n : Int) (ns : List AV) (ln : Nat) (hns : LmkOk ns ln) (hN : wi n 3 + 1 = (1 : Nat)) (d : Bool) (ms : List AV) (lm : Nat) (hms : LmkOk ms lm) (ks : List AV) (lk : Nat) (hks : LmkOk ks lk) (r : Int) (nb : Nat) :
    Con prog 12 [.int .i64 n, .snap ns ln, .bool d, .snap ms lm, .snap ks lk, .int .i64 r] nb (.bool true) [] := by
  have hl := lmkOps_length n 1 (.inl rfl) d ns ln
  have ho := lmkOps_ok n 1 (.inl rfl) d ns ln
  have hM : lmkM 1 ln < 900 := by unfold lmkM; omega
  have hu := outsT_ok n 1 (lmkM 1 ln) (.inl rfl) (by unfold lmkM; omega) (by omega)
  refine con_goesKC (es := esY1) (d := 8) (deep := shallow [66, 67]) 49 (by kernel_rfl) (dec := []) (e := .ret) (s := mk [12] [.bool true] [] []) [] (r := ⟨_, _, true⟩) (by kernel_rfl) rfl (.inl rfl) fun w0 => ?_
  refine goes_seq (by kernel_rfl) (meA1 n ns ln d ms lm ks lk r w0 []) (goes_seq (by kernel_rfl) (meB1 n ns ln d ms lm ks lk r w0 [] []) (goes_seq (by kernel_rfl) (meD1 n ns ln d ms lm ks lk r w0 [] [] ?_) ?_))
  · rw [opsL_noOwn]
    simp only [Bool.true_and, Bool.and_true]
    exact pb_of ⟨by trivial, hns, hN⟩
  · rw [← hl]
    rw [← hl] at hM hu
    generalize lmkOps n 1 d ns ln = ops at *
    exact meTail1 ms lm hms ks lk hks r ops (outT n ops.length 0) (by omega) ho hu w0

theorem meTail2 (ms : List AV) (lm : Nat) (hms : LmkOk ms lm) (ks : List AV) (lk : Nat) (hks : LmkOk ks lk) (r : Int) (ops : List TOp) (u0 u1 : Int) (hm : ops.length < 999) (ho : OpsOk 2 ops) (hu : OutsOk 2 ops.length [u0, u1]) (w0 : World) :
    Goes CZ2 w0 49 (cR (cR (cR meC))) (mk [3,4,5,13] [.snap ms lm, .snap ks lk, .int .i64 r, .ptr 0 0] [⟨[.int .i64 2, .slc 1 0 ops.length, .slc 2 0 2], 53⟩, ⟨opsL ops, 57⟩, ⟨[.int .i64 u0, .int .i64 u1], 3⟩] []) .ret (mk [12] [.bool true] [] []) := by
  have hlen := opsL_length ops
  refine goes_seq (by kernel_rfl) (meE2 ms lm ks lk r ops ops.length u0 u1 w0 [] [] (by simp [opsL_noOwn])) (goes_seq (by kernel_rfl) (meG2 ms lm ks lk r ops ops.length u0 u1 w0 [] [] ?_) (meZ2 ops ops.length u0 u1 [l5V ms lm (IntKind.wrap IntKind.i64 (r + 0)), l5V ks lk (IntKind.wrap IntKind.i64 (r + 1))] w0 [] [] ?_))
  · repeat' (with_reducible apply and_t)
    all_goals first
      | rfl
      | exact trivial
      | exact opsL_noOwn _
      | exact pb_of (SubP.same (A := modsL [l5V ms lm (IntKind.wrap IntKind.i64 (r + 0)), l5V ks lk (IntKind.wrap IntKind.i64 (r + 1))]) rfl)
      | exact pb_of ⟨by trivial, hms⟩
      | exact pb_of ⟨by trivial, hks⟩
      | (simp only [decide_eq_true_eq]; omega)
  · rw [unOps_ops]
    repeat' (with_reducible apply and_t)
    all_goals first
      | exact trivial
      | exact opsL_noOwn _
      | exact opsL_one _
      | exact modsL_noOwn _
      | exact modsL_one _
      | (simp only [Nat.blt_eq, Nat.ble_eq, hlen, modsL_length, List.length_cons, List.length_nil]; omega)
      | (simp only [decide_eq_true_eq]; omega)
      | exact pb_of ⟨⟨by trivial, rfl, rfl, ops, [u0, u1], rfl, rfl, rfl, by omega, ho, hu⟩, ⟨rfl, [l5V ms lm (IntKind.wrap IntKind.i64 (r + 0)), l5V ks lk (IntKind.wrap IntKind.i64 (r + 1))], rfl, rfl⟩⟩
      | exact pb_of rfl
      | rfl

theorem con_evals2 (n : Int) (ns : List AV) (ln : Nat) (hns : LmkOk ns ln) (hN : wi n 3 + 1 = (2 : Nat)) (d : Bool) (ms : List AV) (lm : Nat) (hms : LmkOk ms lm) (ks : List AV) (lk : Nat) (hks : LmkOk ks lk) (r : Int) (nb : Nat) :
    Con prog 12 [.int .i64 n, .snap ns ln, .bool d, .snap ms lm, .snap ks lk, .int .i64 r] nb (.bool true) [] := by
  have hl := lmkOps_length n 2 (.inr (.inl rfl)) d ns ln
  have ho := lmkOps_ok n 2 (.inr (.inl rfl)) d ns ln
  have hM : lmkM 2 ln < 900 := by unfold lmkM; omega
  have hu := outsT_ok n 2 (lmkM 2 ln) (.inr (.inl rfl)) (by unfold lmkM; omega) (by omega)
  refine con_goesKC (es := esY2) (d := 8) (deep := shallow [66, 67]) 49 (by kernel_rfl) (dec := []) (e := .ret) (s := mk [12] [.bool true] [] []) [] (r := ⟨_, _, true⟩) (by kernel_rfl) rfl (.inl rfl) fun w0 => ?_
  refine goes_seq (by kernel_rfl) (meA2 n ns ln d ms lm ks lk r w0 []) (goes_seq (by kernel_rfl) (meB2 n ns ln d ms lm ks lk r w0 [] []) (goes_seq (by kernel_rfl) (meD2 n ns ln d ms lm ks lk r w0 [] [] ?_) ?_))
  · rw [opsL_noOwn]
    simp only [Bool.true_and, Bool.and_true]
    exact pb_of ⟨by trivial, hns, hN⟩
  · rw [← hl]
    rw [← hl] at hM hu
    generalize lmkOps n 2 d ns ln = ops at *
    exact meTail2 ms lm hms ks lk hks r ops (outT n ops.length 0) (outT n ops.length 1) (by omega) ho hu w0

theorem meTail3 (ms : List AV) (lm : Nat) (hms : LmkOk ms lm) (ks : List AV) (lk : Nat) (hks : LmkOk ks lk) (r : Int) (ops : List TOp) (u0 u1 u2 : Int) (hm : ops.length < 999) (ho : OpsOk 3 ops) (hu : OutsOk 3 ops.length [u0, u1, u2]) (w0 : World) :
    Goes CZ3 w0 49 (cR (cR (cR meC))) (mk [3,4,5,13] [.snap ms lm, .snap ks lk, .int .i64 r, .ptr 0 0] [⟨[.int .i64 3, .slc 1 0 ops.length, .slc 2 0 3], 53⟩, ⟨opsL ops, 57⟩, ⟨[.int .i64 u0, .int .i64 u1, .int .i64 u2], 3⟩] []) .ret (mk [12] [.bool true] [] []) := by
  have hlen := opsL_length ops
  refine goes_seq (by kernel_rfl) (meE3 ms lm ks lk r ops ops.length u0 u1 u2 w0 [] [] (by simp [opsL_noOwn])) (goes_seq (by kernel_rfl) (meG3 ms lm ks lk r ops ops.length u0 u1 u2 w0 [] [] ?_) (meZ3 ops ops.length u0 u1 u2 [l5V ms lm (IntKind.wrap IntKind.i64 (r + 0)), l5V ks lk (IntKind.wrap IntKind.i64 (r + 1)), l5V ms lm (IntKind.wrap IntKind.i64 (r + 2))] w0 [] [] ?_))
  · repeat' (with_reducible apply and_t)
    all_goals first
      | rfl
      | exact trivial
      | exact opsL_noOwn _
      | exact pb_of (SubP.same (A := modsL [l5V ms lm (IntKind.wrap IntKind.i64 (r + 0)), l5V ks lk (IntKind.wrap IntKind.i64 (r + 1)), l5V ms lm (IntKind.wrap IntKind.i64 (r + 2))]) rfl)
      | exact pb_of ⟨by trivial, hms⟩
      | exact pb_of ⟨by trivial, hks⟩
      | (simp only [decide_eq_true_eq]; omega)
  · rw [unOps_ops]
    repeat' (with_reducible apply and_t)
    all_goals first
      | exact trivial
      | exact opsL_noOwn _
      | exact opsL_one _
      | exact modsL_noOwn _
      | exact modsL_one _
      | (simp only [Nat.blt_eq, Nat.ble_eq, hlen, modsL_length, List.length_cons, List.length_nil]; omega)
      | (simp only [decide_eq_true_eq]; omega)
      | exact pb_of ⟨⟨by trivial, rfl, rfl, ops, [u0, u1, u2], rfl, rfl, rfl, by omega, ho, hu⟩, ⟨rfl, [l5V ms lm (IntKind.wrap IntKind.i64 (r + 0)), l5V ks lk (IntKind.wrap IntKind.i64 (r + 1)), l5V ms lm (IntKind.wrap IntKind.i64 (r + 2))], rfl, rfl⟩⟩
      | exact pb_of rfl
      | rfl

theorem con_evals3 (n : Int) (ns : List AV) (ln : Nat) (hns : LmkOk ns ln) (hN : wi n 3 + 1 = (3 : Nat)) (d : Bool) (ms : List AV) (lm : Nat) (hms : LmkOk ms lm) (ks : List AV) (lk : Nat) (hks : LmkOk ks lk) (r : Int) (nb : Nat) :
    Con prog 12 [.int .i64 n, .snap ns ln, .bool d, .snap ms lm, .snap ks lk, .int .i64 r] nb (.bool true) [] := by
  have hl := lmkOps_length n 3 (.inr (.inr rfl)) d ns ln
  have ho := lmkOps_ok n 3 (.inr (.inr rfl)) d ns ln
  have hM : lmkM 3 ln < 900 := by unfold lmkM; omega
  have hu := outsT_ok n 3 (lmkM 3 ln) (.inr (.inr rfl)) (by unfold lmkM; omega) (by omega)
  refine con_goesKC (es := esY3) (d := 8) (deep := shallow [66, 67]) 49 (by kernel_rfl) (dec := []) (e := .ret) (s := mk [12] [.bool true] [] []) [] (r := ⟨_, _, true⟩) (by kernel_rfl) rfl (.inl rfl) fun w0 => ?_
  refine goes_seq (by kernel_rfl) (meA3 n ns ln d ms lm ks lk r w0 []) (goes_seq (by kernel_rfl) (meB3 n ns ln d ms lm ks lk r w0 [] []) (goes_seq (by kernel_rfl) (meD3 n ns ln d ms lm ks lk r w0 [] [] ?_) ?_))
  · rw [opsL_noOwn]
    simp only [Bool.true_and, Bool.and_true]
    exact pb_of ⟨by trivial, hns, hN⟩
  · rw [← hl]
    rw [← hl] at hM hu
    generalize lmkOps n 3 d ns ln = ops at *
    exact meTail3 ms lm hms ks lk hks r ops (outT n ops.length 0) (outT n ops.length 1) (outT n ops.length 2) (by omega) ho hu w0

theorem con_modelEvals (n : Int) (zs : List Int) (len : Nat) (h : len ≤ zs.length) (d : Bool) (ms : List Int) (lm : Nat) (hm : lm ≤ ms.length) (ks : List Int) (lk : Nat) (hk : lk ≤ ks.length) (r : Int) (nb : Nat) :
    Con prog 12 [.int .i64 n, .snap (zs.map (AV.int .i64)) len, .bool d, .snap (ms.map (AV.int .i64)) lm, .snap (ks.map (AV.int .i64)) lk, .int .i64 r] nb (.bool true) [] := by
  have h1 := lmkOk_ints h
  have h2 := lmkOk_ints hm
  have h3 := lmkOk_ints hk
  rcases wi3 n with hN | hN | hN
  · exact con_evals1 n _ len h1 hN d _ lm h2 _ lk h3 r nb
  · exact con_evals2 n _ len h1 hN d _ lm h2 _ lk h3 r nb
  · exact con_evals3 n _ len h1 hN d _ lm h2 _ lk h3 r nb
end Go.Eng.Try

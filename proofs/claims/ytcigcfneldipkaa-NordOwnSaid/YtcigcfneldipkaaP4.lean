/- NordOwn, part 4: up to where the shape is known; that what is asked of the numbers holds. No condition. Written by wip/tools/genP4.py. -/
import Derived.Test.YtcigcfneldipkaaP3
namespace Go.Eng.Try
open Go Go.RowKit Go.Proofs.Try

def es9 (k : Nat) : List Entry := (match k with | 1 => eMk1 | 2 => eMk2 | _ => eMk3) :: es8
theorem es9_ok (k : Nat) : ∀ e ∈ es9 k, EntryOK prog e := by
  intro e he
  rcases List.mem_cons.1 he with rfl | he
  · split
    · exact eMk1_ok
    · exact eMk2_ok
    · exact eMk3_ok
  · exact es8_ok e he
noncomputable abbrev C9 (k : Nat) : Ctx := ctx prog (es9 k) 8
theorem O9 (k : Nat) : OrcOK (C9 k).P (C9 k).orc := ctx_ok mixed (es9_ok k) 8

noncomputable def oC : Code := codeOf prog 4
noncomputable def oRest : Code := cR (cR (cR oC))

/-- What is asked of a number that is scaled. -/
def okX (x : Nat) : Bool := !nanB x && !nanB (normV x)
def okMk (cells : List AV) (len : Nat) (a k : Int) : Bool := decide (wi a 3 + 1 = k) && (Nat.ble len cells.length && cells.all fun x => x.isInt .i64)
def okEq (x : Nat) : Bool := decide (x = x)
def okUp (x : Nat) : Bool := ((okX x && true) && true) && true

theorem wrapQ (a m : Int) (h : wi a 5 + 1 = m) : IntKind.i64.wrap (1 + wi a 5) = m := by
  have := wi_range a 5 (by omega) (by omega)
  rw [wrapI (by omega) (by omega)]
  omega

theorem okX_val (w : Int) : okX (mkVal w) = true := by
  have h := wi_range w 201 (by omega) (by omega)
  obtain ⟨fx, _⟩ := fofint_exact (IntKind.i64.wrap (wi w 201 - 100)) (by rw [wrapI (by omega) (by omega)]; omega)
  have h2 : nanB (normV (mkVal w)) = false := by
    unfold normV
    cases normT (mkVal w) with
    | false => exact fx.num.nan
    | true => exact (fmul_rd fx (show Fin64 4841369599423283200 by unfold Fin64; omega)).num.nan
  unfold okX
  rw [h2, show nanB (mkVal w) = false from fx.num.nan]
  rfl
theorem okX_all (cells : List AV) (len k j i : Nat) : okX (mkV cells len k j i) = true := okX_val _
theorem okEq_all (x : Nat) : okEq x = true := by simp [okEq]
theorem okUp_all (cells : List AV) (len k j i : Nat) : okUp (mkV cells len k j i) = true := by unfold okUp; rw [okX_all]; rfl
end Go.Eng.Try

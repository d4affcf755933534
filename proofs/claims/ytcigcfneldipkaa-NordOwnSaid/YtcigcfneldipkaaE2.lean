/- Engine, part 2: constants, the heap's standing, float words. No condition. -/
import Derived.Test.YtcigcfneldipkaaE1
import Derived.Below
namespace Go.Eng
open Go Go.RowKit

/-! ### Constants -/
def ofConst0 : Value → Option AV
  | .bool b => some (.bool b)
  | .int k n => some (.int k n)
  | .float .f64 b => bif Nat.blt b 18446744073709551616 then some (.flt (canon b)) else none
  | .string s => some (.str s)
  | .pointer none => some .nilp
  | .slice none 0 0 => some .nils
  | .nilFunc => some .nilfn
  | .nilIface => some .nilif
  | .func (.func f) ⟨[]⟩ ⟨[]⟩ => some (.fn f [] [])
  | .tuple ⟨[]⟩ => some .undef
  | _ => none

def ofConsts : List Value → Option (List AV)
  | [] => some []
  | v :: vs => match ofConst0 v, ofConsts vs with
    | some x, some xs => some (x :: xs)
    | _, _ => none

def ofConst : Value → Option AV
  | .agg cs => (ofConsts cs.toList).map .agg
  | v => ofConst0 v

theorem ofConst0_V {φ : Phi} {im : Im} {v : Value} {x : AV} (h : ofConst0 v = some x) : V im φ x v := by
  unfold ofConst0 at h
  split at h
  · cases h; exact .bool _ _
  · cases h; exact .int _ _ _
  · rename_i b
    cases hb : Nat.blt b 18446744073709551616 with
    | true => rw [hb] at h; cases h; rw [Nat.blt_eq] at hb; exact .flt _ _ hb
    | false => rw [hb] at h; cases h
  · cases h; exact .str _ _
  · cases h; exact .nilp _
  · cases h; exact .nils _
  · cases h; exact .nilfn _
  · cases h; exact .nilif _
  · cases h; exact .fn _ _ _ _ _ _ (.nil _) (.nil _)
  · cases h; exact .undef _
  · cases h

theorem ofConsts_VL {φ : Phi} {im : Im} : ∀ {vs : List Value} {xs : List AV}, ofConsts vs = some xs → VL im φ xs vs
  | [], xs, h => by simp [ofConsts] at h; subst h; exact .nil _
  | v :: vs, xs, h => by
    unfold ofConsts at h
    split at h
    · rename_i x ys h1 h2
      cases h
      exact .cons _ _ _ _ _ (ofConst0_V h1) (ofConsts_VL h2)
    · cases h

theorem ofConst_V {φ : Phi} {im : Im} {v : Value} {x : AV} (h : ofConst v = some x) : V im φ x v := by
  unfold ofConst at h
  split at h
  · rename_i cs
    cases hc : ofConsts cs.toList with
    | none => rw [hc] at h; cases h
    | some xs => rw [hc] at h; cases h; exact .agg _ _ _ (ofConsts_VL hc)
  · exact ofConst0_V h

/-! ### A value's cells -/
def AV.cells : AV → List AV
  | .agg cs => cs
  | x => [x]

theorem V.cells {φ : Phi} {im : Im} {x : AV} {v : Value} (h : V im φ x v) : VL im φ x.cells v.cells.toList := by
  have h0 := h
  cases h
  case agg cs cs' h => exact h
  all_goals exact VL.cons _ _ _ _ _ h0 (.nil _)

end Go.Eng

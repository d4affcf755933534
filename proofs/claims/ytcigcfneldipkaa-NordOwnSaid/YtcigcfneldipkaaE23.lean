/- Engine, part 23: functions by their own text, called from one another to a depth. Condition: the text is the program's. -/
import Derived.Test.YtcigcfneldipkaaE22
namespace Go.Eng
open Go Go.RowKit

def nameOk (s : String) : Bool := !(s == "runtime.NumGoroutine")

/-- A call, evaluated by the text of what is called; at depth 0 by what is told beforehand. -/
def orcI (P : Program) (deep : FuncId → Bool) (qs : FuncId → List Nat) (base : Orc) (fuel : Nat) : Nat → Orc
  | 0 => base
  | d + 1 => fun f xs n => match base f xs n with
    | some r => some r
    | none => match P.funcs[f]? with
      | some fn => match fn.body with
        | some c => bif nameOk fn.name && Nat.ble xs.length fn.ntmps then
            (match evFnH ⟨P, orcI P deep qs base fuel d, deep⟩ fn.ntmps (qs f) fuel c fn.results.toList xs [] n with
              | some r => some ⟨r.val, r.blks, r.ok⟩
              | none => none)
          else none
        | none => none
      | none => none

theorem orcI_ok {P : Program} (hm : P.follows .mixedOrders = true) (deep : FuncId → Bool) (qs : FuncId → List Nat) (base : Orc) (fuel : Nat) (hb : OrcOK P base) : ∀ d, OrcOK P (orcI P deep qs base fuel d)
  | 0 => hb
  | d + 1 => by
    intro f xs n r h hok
    have ih := orcI_ok hm deep qs base fuel hb d
    unfold orcI at h
    split at h
    · rename_i r' hr
      cases h
      exact hb f xs n r hr hok
    · split at h
      · rename_i fn hfn
        split at h
        · rename_i c hc
          cases hg : (nameOk fn.name && Nat.ble xs.length fn.ntmps) with
          | false => rw [hg] at h; cases h
          | true =>
            rw [hg] at h
            simp only [cond_true] at h
            simp only [Bool.and_eq_true, Nat.ble_eq] at hg
            split at h
            · rename_i r' hev
              cases h
              exact con_ofH (C := ⟨P, orcI P deep qs base fuel d, deep⟩) ih hm hfn hc (by simpa [nameOk] using hg.1) rfl hg.2 hev hok
            · cases h
        · cases h
      · cases h
end Go.Eng

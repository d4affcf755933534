/- Leaves, part 3: the next float above, below. No condition. -/
import Derived.Test.YtcigcfneldipkaaL2
namespace Go.Eng
open Go Go.RowKit

def infB : Nat := 9218868437227405312
def ninfB : Nat := 18442240474082181120

def fup (x : Nat) : Nat := bif fne x x then qnan else bif feq x infB then x else bif feq x 0 then 1 else
  bif fgt infB x == fgt x 0 then canon (IntKind.u64.wrap ((x : Int) + 1)).toNat else canon (IntKind.u64.wrap ((x : Int) - 1)).toNat
def fdown (x : Nat) : Nat := bif fne x x then qnan else bif feq x ninfB then x else bif feq x 0 then 9223372036854775809 else
  bif fgt ninfB x == fgt x 0 then canon (IntKind.u64.wrap ((x : Int) + 1)).toNat else canon (IntKind.u64.wrap ((x : Int) - 1)).toNat

theorem fne_self (x : Nat) : fne x x = nanB x := by
  unfold fne
  rw [← isNaN_read]
  unfold Ieee.Format.order
  cases h : Ieee.double.read x with
  | nan n f => simp [Ieee.Datum.order, Ieee.Datum.isNaN]
  | infinity n => cases n <;> simp [Ieee.Datum.order, Ieee.Datum.isNaN]
  | number n m p => simp [Ieee.Datum.order, Ieee.Datum.isNaN]

theorem wrap_u64 (m : Int) : 0 ≤ IntKind.u64.wrap m ∧ IntKind.u64.wrap m < 18446744073709551616 := by
  unfold IntKind.wrap
  simp [IntKind.bits, IntKind.signed]
  omega

namespace Try
open Go.Proofs.Try

theorem con_up (x n : Nat) : Con prog 160 [.flt x, .flt infB] n (.flt (fup x)) [] := by
  have O := ctx_ok mixed es0_ok 5
  unfold fup
  cases h1 : fne x x with
  | true => exact con_evF O mixed (qs := [12,17,22,28]) (dec := [true]) (r := ⟨.flt qnan, [], fne x x && true⟩) (by kernel_rfl) (by simp [h1])
  | false =>
    cases h2 : feq x infB with
    | true => exact con_evF O mixed (qs := [12,17,22,28]) (dec := [false,true]) (r := ⟨.flt x, [], feq x infB && (!fne x x && true)⟩) (by kernel_rfl) (by simp [h1, h2])
    | false =>
      cases h3 : feq x 0 with
      | true => exact con_evF O mixed (qs := [12,17,22,28]) (dec := [false,false,true]) (r := ⟨.flt 1, [], feq x 0 && (!feq x infB && (!fne x x && true))⟩) (by kernel_rfl) (by simp [h1, h2, h3])
      | false =>
        have hn : nanB x = false := by rw [← fne_self]; exact h1
        cases h4 : (fgt infB x == fgt x 0) with
        | true => exact con_evF O mixed (qs := [12,17,22,28]) (dec := [false,false,false,true]) (r := ⟨.flt (canon (IntKind.u64.wrap ((x : Int) + 1)).toNat), [], u64B (IntKind.u64.wrap ((x : Int) + 1)) && (!nanB x && ((fgt infB x == fgt x 0) && (!feq x 0 && (!feq x infB && (!fne x x && true)))))⟩) (by kernel_rfl) (by simp [h1, h2, h3, h4, hn, u64B_of (wrap_u64 _)])
        | false => exact con_evF O mixed (qs := [12,17,22,28]) (dec := [false,false,false,false]) (r := ⟨.flt (canon (IntKind.u64.wrap ((x : Int) - 1)).toNat), [], u64B (IntKind.u64.wrap ((x : Int) - 1)) && (!nanB x && (!(fgt infB x == fgt x 0) && (!feq x 0 && (!feq x infB && (!fne x x && true)))))⟩) (by kernel_rfl) (by simp [h1, h2, h3, h4, hn, u64B_of (wrap_u64 _)])

theorem con_down (x n : Nat) : Con prog 160 [.flt x, .flt ninfB] n (.flt (fdown x)) [] := by
  have O := ctx_ok mixed es0_ok 5
  unfold fdown
  cases h1 : fne x x with
  | true => exact con_evF O mixed (qs := [12,17,22,28]) (dec := [true]) (r := ⟨.flt qnan, [], fne x x && true⟩) (by kernel_rfl) (by simp [h1])
  | false =>
    cases h2 : feq x ninfB with
    | true => exact con_evF O mixed (qs := [12,17,22,28]) (dec := [false,true]) (r := ⟨.flt x, [], feq x ninfB && (!fne x x && true)⟩) (by kernel_rfl) (by simp [h1, h2])
    | false =>
      cases h3 : feq x 0 with
      | true => exact con_evF O mixed (qs := [12,17,22,28]) (dec := [false,false,true]) (r := ⟨.flt 9223372036854775809, [], feq x 0 && (!feq x ninfB && (!fne x x && true))⟩) (by kernel_rfl) (by simp [h1, h2, h3])
      | false =>
        have hn : nanB x = false := by rw [← fne_self]; exact h1
        cases h4 : (fgt ninfB x == fgt x 0) with
        | true => exact con_evF O mixed (qs := [12,17,22,28]) (dec := [false,false,false,true]) (r := ⟨.flt (canon (IntKind.u64.wrap ((x : Int) + 1)).toNat), [], u64B (IntKind.u64.wrap ((x : Int) + 1)) && (!nanB x && ((fgt ninfB x == fgt x 0) && (!feq x 0 && (!feq x ninfB && (!fne x x && true)))))⟩) (by kernel_rfl) (by simp [h1, h2, h3, h4, hn, u64B_of (wrap_u64 _)])
        | false => exact con_evF O mixed (qs := [12,17,22,28]) (dec := [false,false,false,false]) (r := ⟨.flt (canon (IntKind.u64.wrap ((x : Int) - 1)).toNat), [], u64B (IntKind.u64.wrap ((x : Int) - 1)) && (!nanB x && (!(fgt ninfB x == fgt x 0) && (!feq x 0 && (!feq x ninfB && (!fne x x && true)))))⟩) (by kernel_rfl) (by simp [h1, h2, h3, h4, hn, u64B_of (wrap_u64 _)])

def eNext : Entry := ⟨160, fun xs _ => match xs with
  | [.flt x, .flt y] => bif Nat.beq y infB then some ⟨.flt (fup x), [], true⟩ else bif Nat.beq y ninfB then some ⟨.flt (fdown x), [], true⟩ else none
  | _ => none⟩
theorem eNext_ok : EntryOK prog eNext := by
  intro xs n r h hok
  simp only [eNext] at h
  split at h
  · rename_i x y
    cases h1 : Nat.beq y infB with
    | true =>
      have := Nat.eq_of_beq_eq_true h1
      subst this
      rw [h1] at h
      cases h
      exact con_up x n
    | false =>
      rw [h1] at h
      simp only [cond_false] at h
      cases h2 : Nat.beq y ninfB with
      | true =>
        have := Nat.eq_of_beq_eq_true h2
        subst this
        rw [h2] at h
        cases h
        exact con_down x n
      | false => rw [h2] at h; cases h
  · cases h
end Try
end Go.Eng

/- Leaves, part 9: the size of a float, a float times a power of two, two floats the same. Condition: no NaN where bits are asked for. -/
import Derived.Test.YtcigcfneldipkaaL8
namespace Go.Eng
open Go Go.RowKit

/-- The size of a float, by its bits. -/
def fabsB (x : Nat) : Nat := canon (IntKind.u64.wrap ((BitVec.ofInt 64 (x : Int) &&& ~~~BitVec.ofInt 64 9223372036854775808).toNat : Int)).toNat
def normT (x : Nat) : Bool := flt (fabsB x) 4503599627370496
def normV (x : Nat) : Nat := bif normT x then fmul x 4841369599423283200 else x
def normE (x : Nat) : Int := bif normT x then -52 else 0

theorem feq_self (x : Nat) : feq x x = !nanB x := by
  unfold feq
  rw [← isNaN_read]
  unfold Ieee.Format.order
  cases h : Ieee.double.read x with
  | nan n f => simp [Ieee.Datum.order, Ieee.Datum.isNaN]
  | infinity n => cases n <;> simp [Ieee.Datum.order, Ieee.Datum.isNaN]
  | number n m p => simp [Ieee.Datum.order, Ieee.Datum.isNaN]

namespace Try
open Go.Proofs.Try

theorem con_abs (x n : Nat) (h : nanB x = false) : Con prog 71 [.flt x] n (.flt (fabsB x)) [] :=
  con_evF O4 mixed (qs := []) (dec := []) (r := ⟨.flt (fabsB x), [], u64B (IntKind.u64.wrap ((BitVec.ofInt 64 (x : Int) &&& ~~~BitVec.ofInt 64 9223372036854775808).toNat : Int)) && (!nanB x && true)⟩) (by kernel_rfl) (by rw [u64B_of (wrap_u64 _), h]; rfl)
def eAbs : Entry := ⟨71, fun xs _ => match xs with
  | [.flt x] => some ⟨.flt (fabsB x), [], !nanB x⟩
  | _ => none⟩
theorem eAbs_ok : EntryOK prog eAbs := by
  intro xs n r h hok
  simp only [eAbs] at h
  split at h
  · cases h; exact con_abs _ n (by simpa using hok)
  · cases h

theorem con_same (x n : Nat) : Con prog 57 [.flt x, .flt x] n (.bool true) [] := by
  cases h : nanB x with
  | false =>
    have h1 : feq x x = true := by rw [feq_self, h]; rfl
    exact con_evF O4 mixed (qs := [8,12]) (dec := [true]) (r := ⟨.bool true, [], feq x x && true⟩) (by kernel_rfl) (by rw [h1]; rfl)
  | true =>
    have h1 : feq x x = false := by rw [feq_self, h]; rfl
    have h2 : fne x x = true := by rw [fne_self, h]
    have := con_evF O4 mixed (f := 57) (n := n) (xs := [.flt x, .flt x]) (qs := [8,12]) (dec := [false,true]) (r := ⟨.bool (fne x x), [], fne x x && (!feq x x && true)⟩) (by kernel_rfl) (by rw [h1, h2]; rfl)
    dsimp only at this
    rw [h2] at this
    exact this
def eSame : Entry := ⟨57, fun xs _ => match xs with
  | [.flt x, .flt y] => some ⟨.bool true, [], decide (x = y)⟩
  | _ => none⟩
theorem eSame_ok : EntryOK prog eSame := by
  intro xs n r h hok
  simp only [eSame] at h
  split at h
  · cases h
    have := of_decide_eq_true hok
    subst this
    exact con_same _ n
  · cases h

def es6 : List Entry := [eAbs, eSame] ++ es4
theorem es6_ok : ∀ e ∈ es6, EntryOK prog e := by
  intro e he
  rcases List.mem_cons.1 he with rfl | he
  · exact eAbs_ok
  rcases List.mem_cons.1 he with rfl | he
  · exact eSame_ok
  · exact es4_ok e he
theorem O6 : OrcOK (ctx prog es6 8).P (ctx prog es6 8).orc := ctx_ok mixed es6_ok 8

theorem con_norm (x n : Nat) (h : nanB x = false) : Con prog 190 [.flt x] n (.tup [.flt (normV x), .int .i64 (normE x)]) [] := by
  unfold normV normE
  cases h1 : normT x with
  | true => exact con_evF O6 mixed (qs := [6]) (dec := [true]) (r := ⟨.tup [.flt (fmul x 4841369599423283200), .int .i64 (-52)], [], flt (fabsB x) 4503599627370496 && (!nanB x && true)⟩) (by kernel_rfl) (by unfold normT at h1; rw [h1, h]; rfl)
  | false => exact con_evF O6 mixed (qs := [6]) (dec := [false]) (r := ⟨.tup [.flt x, .int .i64 0], [], !flt (fabsB x) 4503599627370496 && (!nanB x && true)⟩) (by kernel_rfl) (by unfold normT at h1; rw [h1, h]; rfl)
end Try
end Go.Eng

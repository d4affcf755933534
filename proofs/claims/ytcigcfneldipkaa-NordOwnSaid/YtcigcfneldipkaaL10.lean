/- Leaves, part 10: a float times a power of two. Condition: no NaN. -/
import Derived.Test.YtcigcfneldipkaaL9
namespace Go.Eng
open Go Go.RowKit

def ldE (x : Nat) (e : Int) : Int := IntKind.i64.wrap (IntKind.i64.wrap (e + normE x) + IntKind.i64.wrap (IntKind.i64.wrap ((BitVec.ofInt 64 (IntKind.i64.wrap ((normV x : Int).fdiv (2 ^ (min (52 : Int).toNat IntKind.u64.bits)))) &&& BitVec.ofInt 64 2047).toNat : Int) - 1023))
/-- A nought of a float's sign. -/
def zeroB (y : Nat) : Int := IntKind.u64.wrap ((BitVec.ofInt 64 0 ||| BitVec.ofInt 64 (IntKind.u64.wrap ((BitVec.ofInt 64 (y : Int) &&& BitVec.ofInt 64 9223372036854775808).toNat : Int))).toNat : Int)
/-- A float's bits with another exponent. -/
def expB (y : Nat) (e : Int) : Int := IntKind.u64.wrap ((BitVec.ofInt 64 (IntKind.u64.wrap ((BitVec.ofInt 64 (y : Int) &&& ~~~BitVec.ofInt 64 9218868437227405312).toNat : Int)) ||| BitVec.ofInt 64 (IntKind.u64.wrap (IntKind.u64.wrap (IntKind.i64.wrap (e + 1023)) * 2 ^ (min (52 : Int).toNat IntKind.u64.bits)))).toNat : Int)

def ldexpS (x : Nat) (e : Int) : Nat :=
  bif feq x 0 then x else
  bif fgt (fabsB x) 9218868437227405311 then x else
  bif decide (ldE x e < -1075) then canon (zeroB (normV x)).toNat else
  bif decide (ldE x e > 1023) then (bif flt (normV x) 0 then ninfB else infB) else
  bif decide (ldE x e < -1022) then fmul 4368491638549381120 (canon (expB (normV x) (IntKind.i64.wrap (ldE x e + 53))).toNat) else
  fmul 4607182418800017408 (canon (expB (normV x) (ldE x e)).toNat)

namespace Try
open Go.Proofs.Try

def eNorm : Entry := ⟨190, fun xs _ => match xs with
  | [.flt x] => some ⟨.tup [.flt (normV x), .int .i64 (normE x)], [], !nanB x⟩
  | _ => none⟩
theorem eNorm_ok : EntryOK prog eNorm := by
  intro xs n r h hok
  simp only [eNorm] at h
  split at h
  · cases h; exact con_norm _ n (by simpa using hok)
  · cases h
def es7 : List Entry := eNorm :: es6
theorem es7_ok : ∀ e ∈ es7, EntryOK prog e := by
  intro e he
  rcases List.mem_cons.1 he with rfl | he
  · exact eNorm_ok
  · exact es6_ok e he
theorem O7 : OrcOK (ctx prog es7 8).P (ctx prog es7 8).orc := ctx_ok mixed es7_ok 8

def ldOk (x : Nat) : Bool := !nanB (normV x) && (!nanB x && (!fne x x && (!fgt (fabsB x) 9218868437227405311 && ((!nanB x && true) && (!feq x 0 && true)))))

theorem con_ldexp (x : Nat) (e : Int) (n : Nat) (hx : nanB x = false) (hy : nanB (normV x) = false) : Con prog 183 [.flt x, .int .i64 e] n (.flt (ldexpS x e)) [] := by
  unfold ldexpS
  cases h1 : feq x 0 with
  | true => exact con_evF O7 mixed (qs := [8,15,12,38,42,44,48]) (dec := [true]) (r := ⟨.flt x, [], feq x 0 && true⟩) (by kernel_rfl) (by rw [h1]; rfl)
  | false =>
    cases h2 : fgt (fabsB x) 9218868437227405311 with
    | true => exact con_evF O7 mixed (qs := [8,15,12,38,42,44,48]) (dec := [false,true,true]) (r := ⟨.flt x, [], fgt (fabsB x) 9218868437227405311 && ((!nanB x && true) && (!feq x 0 && true))⟩) (by kernel_rfl) (by rw [h1, h2, hx]; rfl)
    | false =>
      have hn : fne x x = false := by rw [fne_self]; exact hx
      have hok : ldOk x = true := by unfold ldOk; rw [hy, hx, hn, h2, h1]; rfl
      cases h3 : decide (ldE x e < -1075) with
      | true => exact con_evF O7 mixed (qs := [8,15,12,38,42,44,48]) (dec := [false,false,false,true]) (r := ⟨.flt (canon (zeroB (normV x)).toNat), [], (u64B (zeroB (normV x)) && (!nanB (normV x) && true)) && (decide (ldE x e < -1075) && ldOk x)⟩) (by kernel_rfl) (by rw [hok, h3, hy]; rw [show u64B (zeroB (normV x)) = true from u64B_of (wrap_u64 _)]; rfl)
      | false =>
        cases h4 : decide (ldE x e > 1023) with
        | true =>
          cases h5 : flt (normV x) 0 with
          | true => exact con_evF O7 mixed (qs := [8,15,12,38,42,44,48]) (dec := [false,false,false,false,true,true]) (r := ⟨.flt ninfB, [], flt (normV x) 0 && (decide (ldE x e > 1023) && (!decide (ldE x e < -1075) && ldOk x))⟩) (by kernel_rfl) (by rw [hok, h3, h4, h5]; rfl)
          | false => exact con_evF O7 mixed (qs := [8,15,12,38,42,44,48]) (dec := [false,false,false,false,true,false]) (r := ⟨.flt infB, [], !flt (normV x) 0 && (decide (ldE x e > 1023) && (!decide (ldE x e < -1075) && ldOk x))⟩) (by kernel_rfl) (by rw [hok, h3, h4, h5]; rfl)
        | false =>
          cases h6 : decide (ldE x e < -1022) with
          | true => exact con_evF O7 mixed (qs := [8,15,12,38,42,44,48]) (dec := [false,false,false,false,false,true]) (r := ⟨.flt (fmul 4368491638549381120 (canon (expB (normV x) (IntKind.i64.wrap (ldE x e + 53))).toNat)), [], u64B (expB (normV x) (IntKind.i64.wrap (ldE x e + 53))) && (decide (ldE x e < -1022) && (!decide (ldE x e > 1023) && (!decide (ldE x e < -1075) && ldOk x)))⟩) (by kernel_rfl) (by rw [hok, h3, h4, h6]; rw [show u64B (expB (normV x) (IntKind.i64.wrap (ldE x e + 53))) = true from u64B_of (wrap_u64 _)]; rfl)
          | false => exact con_evF O7 mixed (qs := [8,15,12,38,42,44,48]) (dec := [false,false,false,false,false,false]) (r := ⟨.flt (fmul 4607182418800017408 (canon (expB (normV x) (ldE x e)).toNat)), [], u64B (expB (normV x) (ldE x e)) && (!decide (ldE x e < -1022) && (!decide (ldE x e > 1023) && (!decide (ldE x e < -1075) && ldOk x)))⟩) (by kernel_rfl) (by rw [hok, h3, h4, h6]; rw [show u64B (expB (normV x) (ldE x e)) = true from u64B_of (wrap_u64 _)]; rfl)
def eLdexp : Entry := ⟨183, fun xs _ => match xs with
  | [.flt x, .int k e] => bif decide (k = .i64) then some ⟨.flt (ldexpS x e), [], !nanB x && !nanB (normV x)⟩ else none
  | _ => none⟩
theorem eLdexp_ok : EntryOK prog eLdexp := by
  intro xs n r h hok
  simp only [eLdexp] at h
  split at h
  · rename_i x k e
    cases hk : decide (k = .i64) with
    | false => rw [hk] at h; cases h
    | true =>
      rw [hk] at h
      have := of_decide_eq_true hk
      subst this
      cases h
      simp only [Bool.and_eq_true, Bool.not_eq_true'] at hok
      exact con_ldexp x e n hok.1 hok.2
  · cases h
end Try
end Go.Eng

/- Leaves, part 2: oracles out of contracts that are proved. No condition. -/
import Derived.Test.YtcigcfneldipkaaE24
import Derived.Test.YtcigcfneldipkaaL1
namespace Go.Eng
open Go Go.RowKit

structure Entry where
  f : FuncId
  ans : List AV → Nat → Option ORes

def EntryOK (P : Program) (e : Entry) : Prop := ∀ xs n r, e.ans xs n = some r → r.ok = true → Con P e.f xs n r.val r.blks

def orcL : List Entry → Orc
  | [], _, _, _ => none
  | e :: es, f, xs, n => bif Nat.beq f e.f then e.ans xs n else orcL es f xs n

theorem orcL_ok {P : Program} : ∀ {es : List Entry}, (∀ e ∈ es, EntryOK P e) → OrcOK P (orcL es)
  | [], _ => fun f xs n r h => by cases h
  | e :: es, hes => fun f xs n r h hok => by
    simp only [orcL] at h
    cases hb : Nat.beq f e.f with
    | true =>
      rw [hb] at h
      have := Nat.eq_of_beq_eq_true hb
      subst this
      exact hes e (by simp) xs n r h hok
    | false =>
      rw [hb] at h
      exact orcL_ok (fun e' he' => hes e' (by simp [he'])) f xs n r h hok

/-- Calls by the text, but where there is an entry. -/
def ctx (P : Program) (es : List Entry) (d : Nat) : Ctx := ⟨P, orcI P (fun _ => true) (fun _ => []) (orcL es) 64 d, fun _ => true⟩

theorem ctx_ok {P : Program} (hm : P.follows .mixedOrders = true) {es : List Entry} (hes : ∀ e ∈ es, EntryOK P e) (d : Nat) : OrcOK (ctx P es d).P (ctx P es d).orc := orcI_ok hm _ _ _ _ (orcL_ok hes) d

/-- A function, evaluated by its number. -/
def evF (C : Ctx) (qs : List Nat) (f : FuncId) (xs : List AV) (dec : List Bool) (n : Nat) : Option HOut :=
  match C.P.funcs[f]? with
  | some fn => match fn.body with
    | some c => bif nameOk fn.name && Nat.ble xs.length fn.ntmps then evFnH C fn.ntmps qs 64 c fn.results.toList xs dec n else none
    | none => none
  | none => none

theorem con_evF {C : Ctx} (hO : OrcOK C.P C.orc) (hm : C.P.follows .mixedOrders = true) {qs : List Nat} {f : FuncId} {xs : List AV} {dec : List Bool} {n : Nat} {r : HOut} (h : evF C qs f xs dec n = some r) (hok : r.ok = true) : Con C.P f xs n r.val r.blks := by
  unfold evF at h
  split at h
  · rename_i fn hfn
    split at h
    · rename_i c hc
      cases hg : (nameOk fn.name && Nat.ble xs.length fn.ntmps) with
      | false => rw [hg] at h; cases h
      | true =>
        rw [hg] at h
        simp only [cond_true] at h
        simp only [Bool.and_eq_true, Nat.ble_eq] at hg
        exact con_ofH hO hm hfn hc (by simpa [nameOk] using hg.1) rfl hg.2 h hok
    · cases h
  · cases h

namespace Try
open Go.Proofs.Try

theorem mixed : prog.follows .mixedOrders = true := by kernel_rfl

def eBits : Entry := ⟨128, fun xs _ => match xs with
  | [.flt x] => some ⟨.int .u64 x, [], !nanB x⟩
  | _ => none⟩
def u64B : Int → Bool
  | .ofNat k => Nat.blt k 18446744073709551616
  | _ => false
theorem u64B_is {m : Int} (h : u64B m = true) : 0 ≤ m ∧ m < 18446744073709551616 := by
  cases m with
  | ofNat k => simp only [u64B, Nat.blt_eq] at h; exact ⟨Int.natCast_nonneg k, by have : (k : Int) < 18446744073709551616 := by omega
                                                                                  exact this⟩
  | negSucc k => cases h
theorem u64B_of {m : Int} (h : 0 ≤ m ∧ m < 18446744073709551616) : u64B m = true := by
  cases m with
  | ofNat k =>
    simp only [u64B, Nat.blt_eq]
    have : (k : Int) < 18446744073709551616 := h.2
    omega
  | negSucc k => omega
def eFrom : Entry := ⟨127, fun xs _ => match xs with
  | [.int k m] => bif decide (k = .u64) then some ⟨.flt (canon m.toNat), [], u64B m⟩ else none
  | _ => none⟩

theorem eBits_ok : EntryOK prog eBits := by
  intro xs n r h hok
  simp only [eBits] at h
  split at h
  · cases h
    exact con_bits _ (by simpa using hok) n
  · cases h
theorem eFrom_ok : EntryOK prog eFrom := by
  intro xs n r h hok
  simp only [eFrom] at h
  split at h
  · rename_i k m
    cases hk : decide (k = .u64) with
    | false => rw [hk] at h; cases h
    | true =>
      rw [hk] at h
      have := of_decide_eq_true hk
      subst this
      cases h
      have := u64B_is hok
      exact con_frombits m this.1 this.2 n
  · cases h

def es0 : List Entry := [eBits, eFrom]
theorem es0_ok : ∀ e ∈ es0, EntryOK prog e := by
  intro e he
  simp only [es0, List.mem_cons, List.not_mem_nil, or_false] at he
  rcases he with rfl | rfl
  · exact eBits_ok
  · exact eFrom_ok
end Try
end Go.Eng

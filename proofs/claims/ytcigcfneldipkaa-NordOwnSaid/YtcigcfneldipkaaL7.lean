/- Leaves, part 7: more entries; what a law's 'known' and 'within' answer. No condition. -/
import Derived.Test.YtcigcfneldipkaaL6
namespace Go.Eng
open Go Go.RowKit

/-- a modulo n, from 0 on, as the laws have it. -/
def wi (a n : Int) : Int := bif decide (a.tmod n < 0) then IntKind.i64.wrap (a.tmod n + n) else a.tmod n

namespace Try
open Go.Proofs.Try

def eAdd : Entry := ⟨20, fun xs _ => match xs with
  | [.agg [.flt a, .flt b], .agg [.flt c, .flt d]] => some ⟨ivA (outLo (fadd a c) (fadd b d)) (outHi (fadd a c) (fadd b d)), [], true⟩
  | _ => none⟩
theorem eAdd_ok : EntryOK prog eAdd := by
  intro xs n r h hok
  simp only [eAdd] at h
  split at h
  · cases h; exact con_add _ _ _ _ n
  · cases h
def eSub : Entry := ⟨21, fun xs _ => match xs with
  | [.agg [.flt a, .flt b], .agg [.flt c, .flt d]] => some ⟨ivA (outLo (fsub a d) (fsub b c)) (outHi (fsub a d) (fsub b c)), [], true⟩
  | _ => none⟩
theorem eSub_ok : EntryOK prog eSub := by
  intro xs n r h hok
  simp only [eSub] at h
  split at h
  · cases h; exact con_sub _ _ _ _ n
  · cases h
def eMul : Entry := ⟨22, fun xs _ => match xs with
  | [.agg [.flt a, .flt b], .agg [.flt c, .flt d]] => some ⟨ivA (mulLo a b c d) (mulHi a b c d), [], true⟩
  | _ => none⟩
theorem eMul_ok : EntryOK prog eMul := by
  intro xs n r h hok
  simp only [eMul] at h
  split at h
  · cases h; exact con_mul _ _ _ _ n
  · cases h
def eIn : Entry := ⟨23, fun xs _ => match xs with
  | [.flt x, .agg [.flt a, .flt b]] => some ⟨.bool (fle a x && fle x b), [], true⟩
  | _ => none⟩
theorem eIn_ok : EntryOK prog eIn := by
  intro xs n r h hok
  simp only [eIn] at h
  split at h
  · cases h; exact con_in _ _ _ n
  · cases h

theorem con_within (f : FuncId) (hf : f = 19 ∨ f = 25 ∨ f = 34 ∨ f = 44 ∨ f = 58 ∨ f = 101) (a m : Int) (hm : m ≠ 0) (n : Nat) : Con prog f [.int .i64 a, .int .i64 m] n (.int .i64 (wi a m)) [] := by
  unfold wi
  have hm' : (m != 0) = true := by simpa using hm
  cases h : decide (a.tmod m < 0) with
  | true =>
    rcases hf with rfl | rfl | rfl | rfl | rfl | rfl <;>
    exact con_evF O3 mixed (qs := [10]) (dec := [true]) (r := ⟨.int .i64 (IntKind.i64.wrap (a.tmod m + m)), [], decide (a.tmod m < 0) && ((m != 0) && true)⟩) (by kernel_rfl) (by rw [h, hm']; rfl)
  | false =>
    rcases hf with rfl | rfl | rfl | rfl | rfl | rfl <;>
    exact con_evF O3 mixed (qs := [10]) (dec := [false]) (r := ⟨.int .i64 (a.tmod m), [], !decide (a.tmod m < 0) && ((m != 0) && true)⟩) (by kernel_rfl) (by rw [h, hm']; rfl)

def eWithin (f : FuncId) : Entry := ⟨f, fun xs _ => match xs with
  | [.int k a, .int k' m] => bif decide (k = .i64) && decide (k' = .i64) then some ⟨.int .i64 (wi a m), [], m != 0⟩ else none
  | _ => none⟩
theorem eWithin_ok (f : FuncId) (hf : f = 19 ∨ f = 25 ∨ f = 34 ∨ f = 44 ∨ f = 58 ∨ f = 101) : EntryOK prog (eWithin f) := by
  intro xs n r h hok
  simp only [eWithin] at h
  split at h
  · rename_i k a k' m
    cases hk : (decide (k = .i64) && decide (k' = .i64)) with
    | false => rw [hk] at h; cases h
    | true =>
      rw [hk] at h
      simp only [Bool.and_eq_true, decide_eq_true_eq] at hk
      obtain ⟨rfl, rfl⟩ := hk
      cases h
      exact con_within f hf a m (by simpa using hok) n
  · cases h

def es4 : List Entry := [eAdd, eSub, eMul, eIn, eSpan, eMake, eNext, eBits, eFrom, eWithin 19, eWithin 25, eWithin 34, eWithin 44, eWithin 58, eWithin 101]
theorem es4_ok : ∀ e ∈ es4, EntryOK prog e := by
  intro e he
  simp only [es4, List.mem_cons, List.not_mem_nil, or_false] at he
  rcases he with rfl | rfl | rfl | rfl | rfl | rfl | rfl | rfl | rfl | rfl | rfl | rfl | rfl | rfl | rfl
  · exact eAdd_ok
  · exact eSub_ok
  · exact eMul_ok
  · exact eIn_ok
  · exact eSpan_ok
  · exact eMake_ok
  · exact eNext_ok
  · exact eBits_ok
  · exact eFrom_ok
  all_goals exact eWithin_ok _ (by simp)
noncomputable abbrev C4 : Ctx := ctx prog es4 8
theorem O4 : OrcOK C4.P C4.orc := ctx_ok mixed es4_ok 8

theorem con_known2 (n : Nat) : Con prog 17 [] n (.bool true) [] :=
  con_evF O4 mixed (qs := []) (dec := []) (r := ⟨.bool true, [], true⟩) (by kernel_rfl) rfl
def eKnown2 : Entry := ⟨17, fun xs _ => match xs with
  | [] => some ⟨.bool true, [], true⟩
  | _ => none⟩
theorem eKnown2_ok : EntryOK prog eKnown2 := by
  intro xs n r h hok
  simp only [eKnown2] at h
  split at h
  · cases h; exact con_known2 n
  · cases h
end Try
end Go.Eng

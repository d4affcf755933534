/- Leaves, part 5: from-tos: made, added, taken away, multiplied. No condition. -/
import Derived.Test.YtcigcfneldipkaaL4
namespace Go.Eng
open Go Go.RowKit

def ivA (lo hi : Nat) : AV := .agg [.flt lo, .flt hi]
def mkLo (lo hi : Nat) : Nat := bif fle lo hi then lo else ninfB
def mkHi (lo hi : Nat) : Nat := bif fle lo hi then hi else infB
def outLo (lo hi : Nat) : Nat := mkLo (fdown lo) (fup hi)
def outHi (lo hi : Nat) : Nat := mkHi (fdown lo) (fup hi)

namespace Try
open Go.Proofs.Try

def es1 : List Entry := [eNext, eBits, eFrom]
theorem es1_ok : ∀ e ∈ es1, EntryOK prog e := by
  intro e he
  simp only [es1, List.mem_cons, List.not_mem_nil, or_false] at he
  rcases he with rfl | rfl | rfl
  · exact eNext_ok
  · exact eBits_ok
  · exact eFrom_ok
theorem O1 : OrcOK (ctx prog es1 6).P (ctx prog es1 6).orc := ctx_ok mixed es1_ok 6

theorem con_make (lo hi n : Nat) : Con prog 18 [.flt lo, .flt hi] n (ivA (mkLo lo hi) (mkHi lo hi)) [] := by
  unfold mkLo mkHi
  cases h : fle lo hi with
  | true => exact con_evF O1 mixed (qs := [10]) (dec := [true]) (r := ⟨ivA lo hi, [], fle lo hi && true⟩) (by kernel_rfl) (by simp [h])
  | false => exact con_evF O1 mixed (qs := [10]) (dec := [false]) (r := ⟨ivA ninfB infB, [], !fle lo hi && true⟩) (by kernel_rfl) (by simp [h])

def eMake : Entry := ⟨18, fun xs _ => match xs with
  | [.flt lo, .flt hi] => some ⟨ivA (mkLo lo hi) (mkHi lo hi), [], true⟩
  | _ => none⟩
theorem eMake_ok : EntryOK prog eMake := by
  intro xs n r h hok
  simp only [eMake] at h
  split at h
  · cases h; exact con_make _ _ n
  · cases h

def es2 : List Entry := [eMake, eNext, eBits, eFrom]
theorem es2_ok : ∀ e ∈ es2, EntryOK prog e := by
  intro e he
  simp only [es2, List.mem_cons, List.not_mem_nil, or_false] at he
  rcases he with rfl | rfl | rfl | rfl
  · exact eMake_ok
  · exact eNext_ok
  · exact eBits_ok
  · exact eFrom_ok
theorem O2 : OrcOK (ctx prog es2 6).P (ctx prog es2 6).orc := ctx_ok mixed es2_ok 6


theorem con_add (a b c d n : Nat) : Con prog 20 [ivA a b, ivA c d] n (ivA (outLo (fadd a c) (fadd b d)) (outHi (fadd a c) (fadd b d))) [] :=
  con_evF O2 mixed (qs := []) (dec := []) (r := ⟨ivA (outLo (fadd a c) (fadd b d)) (outHi (fadd a c) (fadd b d)), [], true⟩) (by kernel_rfl) rfl
theorem con_sub (a b c d n : Nat) : Con prog 21 [ivA a b, ivA c d] n (ivA (outLo (fsub a d) (fsub b c)) (outHi (fsub a d) (fsub b c))) [] :=
  con_evF O2 mixed (qs := []) (dec := []) (r := ⟨ivA (outLo (fsub a d) (fsub b c)) (outHi (fsub a d) (fsub b c)), [], true⟩) (by kernel_rfl) rfl
end Try
end Go.Eng

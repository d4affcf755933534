/- Leaves, part 1: contracts of the float functions that have no text: the bits of a float, a float of bits. Condition: a float whose bits are asked for is not NaN. -/
import Derived.Test.YtcigcfneldipkaaE23
import Derived.Test.YtcigcfneldipkaaProg
namespace Go.Eng
open Go Go.RowKit

theorem con_extern {P : Program} {f : FuncId} {fn : Func} {e : Array Value → Sem Value} (hf : P.funcs[f]? = some fn) (hb : fn.body = none) (hname : (fn.name == "runtime.NumGoroutine") = false) (hn : Extern.findNext fn = none) (he : Extern.find fn = some e)
    {xs : List AV} {r : AV} (h : ∀ (im : Im) (w : World) (args : Array Value), VL im (fun _ => none) xs args.toList → ∃ v, (e args).run P w = .ok v w ∧ V (fun _ => none) (fun _ => none) r v) (n : Nat) : Con P f xs n r [] := by
  intro im w args him hv
  obtain ⟨v, h1, h2⟩ := h im w args hv
  refine ⟨.value v, w, ?_, .inl ⟨v, rfl, fun _ => none, fun _ => none, Below.refl _ _, fun i hi => absurd rfl hi, fun b cs hb => (by cases hb), ⟨fun b cs e => (by cases e), fun i k e => (by cases e), fun i j k k' l l' e => (by cases e)⟩, h2⟩⟩
  have hn' : ¬ fn.name = "runtime.NumGoroutine" := by simpa using hname
  unfold callFunc
  simp [program, Sem.run, hf, hb, hn', hn, he, mark, h1]

theorem VL_one {im : Im} {φ : Phi} {x : AV} {args : Array Value} (h : VL im φ [x] args.toList) : ∃ v, args = #[v] ∧ V im φ x v := by
  generalize hl : args.toList = l at h
  cases h with
  | cons _ _ v _ vs h1 h2 =>
    cases h2
    exact ⟨v, by rw [← Array.toList_inj]; simpa using hl, h1⟩

namespace Try
open Go.Proofs.Try

theorem con_bits (x : Nat) (hx : nanB x = false) (n : Nat) : Con prog 128 [.flt x] n (.int .u64 x) [] := by
  refine con_extern (fn := f128) (e := Extern.MathFloatBits.float64bits) (by kernel_rfl) (by kernel_rfl) (by kernel_rfl) (by kernel_rfl) (by kernel_rfl) ?_ n
  intro im w args hv
  obtain ⟨v, rfl, h⟩ := VL_one hv
  cases h with
  | flt _ b hb =>
    rw [nanB_canon] at hx
    rw [canon_of_not hx]
    exact ⟨_, rfl, .int _ _ _⟩

theorem con_frombits (m : Int) (h0 : 0 ≤ m) (h1 : m < 18446744073709551616) (n : Nat) : Con prog 127 [.int .u64 m] n (.flt (canon m.toNat)) [] := by
  refine con_extern (fn := f127) (e := Extern.MathFloatBits.float64frombits) (by kernel_rfl) (by kernel_rfl) (by kernel_rfl) (by kernel_rfl) (by kernel_rfl) ?_ n
  intro im w args hv
  obtain ⟨v, rfl, h⟩ := VL_one hv
  cases h
  exact ⟨_, rfl, .flt _ _ (by omega)⟩

end Try
end Go.Eng

/- Leaves, part 8: a law's contract is its row's walk; rows of integers that came in. Condition: the row reads as told. -/
import Derived.Test.YtcigcfneldipkaaL7
namespace Go.Eng
open Go Go.RowKit

/-- A slice of integers that came in: nil, or it leads to a row of 'cap' cells. -/
def IsRow (k : IntKind) (w : World) (a : Option Addr) (len cap : Nat) (zs : List Int) : Prop :=
  (a = none ∧ len = 0 ∧ cap = 0 ∧ zs = []) ∨
  ∃ x, a = some x ∧ len ≤ cap ∧ cap ≤ maxLen ∧ zs.length = cap ∧ (∀ i, i < zs.length → w.cell? (x.add i) = some (.int k (zs.getD i 0))) ∧ ∀ n ∈ zs, (Lit.int k n).wf = true

theorem VL_ints {im : Im} {φ : Phi} {k : IntKind} : ∀ (zs : List Int), VL im φ (zs.map (AV.int k)) (zs.map (Value.int k))
  | [] => .nil _
  | _ :: zs => .cons _ _ _ _ _ (.int _ _ _) (VL_ints zs)

theorem cell_none {w : World} {x : Addr} {v : Value} (h : w.cell? x = some v) : x.spot = none ∧ ∃ cs e g, w.heap[x.block]? = some (.cells cs e g) ∧ cs[x.off]? = some v := by
  have hs := World.cell?_spot h
  refine ⟨hs, ?_⟩
  obtain ⟨b, o, s⟩ := x
  dsimp only at hs
  subst hs
  unfold World.cell? at h
  split at h
  · rename_i cs e g hh
    exact ⟨cs, e, g, hh, by simpa using h⟩
  · cases h

theorem add_zero_is (x : Addr) : x.add 0 = x := by simp [Addr.add]
theorem addr_at (b o i : Nat) : (⟨b, o, none⟩ : Addr).add i = ⟨b, o + i, none⟩ := by
  unfold Addr.add
  by_cases h : i = 0
  · subst h; simp
  · simp [h]

/-- What came in, as the evaluator sees it. -/
theorem V_ints {k : IntKind} {w : World} {a : Option Addr} {len cap : Nat} {zs : List Int} (h : IsRow k w a len cap zs) : V (imOf w) (fun _ => none) (.snap (zs.map (AV.int k)) len) (.slice a len cap) := by
  rcases h with ⟨rfl, rfl, rfl, rfl⟩ | ⟨x, rfl, hl, hm, hz, hcell, hwz⟩
  · exact .snape _ _ _ _
  · cases hzs : zs with
    | nil =>
      subst hzs
      have : cap = 0 := by simpa using hz.symm
      have : len = 0 := by omega
      subst this
      exact .snape _ _ _ _
    | cons z zs' =>
      rw [← hzs]
      have h0 := hcell 0 (by rw [hzs]; simp)
      obtain ⟨s0, cs, e, g, hh, hc0⟩ := cell_none h0
      obtain ⟨b, o, s⟩ := x
      rw [add_zero_is] at s0 hh
      dsimp only at s0
      subst s0
      refine .snap _ _ _ b o cap cs (zs.map (Value.int k)) (imOf_of hh) ?_ (VL_ints zs) hl
      apply List.ext_getElem?
      intro i
      rw [List.getElem?_map, List.length_map, List.getElem?_take, List.getElem?_drop]
      by_cases hi : i < zs.length
      · rw [if_pos hi]
        have hci := hcell i hi
        obtain ⟨_, cs', e', g', hh', hc'⟩ := cell_none hci
        rw [addr_at] at hh' hc'
        rw [hh] at hh'
        cases hh'
        have hc2 : cs[o + i]? = some (Value.int k (zs.getD i 0)) := hc'
        have e1 : cs.toList[o + i]? = cs[o + i]? := Array.getElem?_toList
        rw [e1, hc2, List.getElem?_eq_getElem hi]
        simp [hi]
      · rw [if_neg hi, List.getElem?_eq_none (by omega)]
        rfl

theorem calls_of_con {P : Program} {f : FuncId} {xs : List AV} (h : okF P f 0 = true) {n : Nat} {r : AV} {N : List ABlk} (hc : Con P f xs n r N) {im : Im} {w : World} {args : Array Value} (him : ∀ b cs, im b = some cs → ∃ e g, w.heap[b]? = some (.cells cs e g)) (hv : VL im (fun _ => none) xs args.toList) :
    Calls P f args w fun e w' => ∃ v, e = .returned v ∧ Leaves P w n r N v w' := by
  unfold okF at h
  cases hf : P.funcs[f]? with
  | none => rw [hf] at h; cases h
  | some fn =>
    rw [hf] at h
    simp only [Bool.and_eq_true] at h
    obtain ⟨⟨h1, h2⟩, _⟩ := h
    cases hb : fn.body with
    | none => rw [hb] at h1; cases h1
    | some c =>
      have hr := run_callFunc hf hb (by simpa [nameOk] using h2) args w
      obtain ⟨nx, w1, g1, g2⟩ := hc im w args him hv
      rw [hr] at g1
      cases g1
      rcases g2 with ⟨v, e, _⟩ | ⟨g, ar, e, hcalls⟩
      · cases e
      · cases e
        exact hcalls

/-- A law that answers true: what its row's walk asks. -/
theorem walk_of_con {P : Program} {f : FuncId} {xs : List AV} (h : okF P f 0 = true) {n : Nat} (hc : Con P f xs n (.bool true) []) {w : World} {args : Array Value} (hv : VL (imOf w) (fun _ => none) xs args.toList) :
    Calls P f args w fun e w' => e = .returned (.bool true) ∧ Below w.heap.size w w' := by
  refine (calls_of_con h hc (fun b cs e => imOf_is e) hv).mono fun e w' ⟨v, he, hl⟩ => ?_
  obtain ⟨φ', im', hb, _, _, _, hV⟩ := hl
  cases hV
  exact ⟨he, hb⟩
end Go.Eng

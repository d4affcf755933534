/- Leaves, part 4: helpers to walk a function by pieces. Condition: the contracts that the evaluator leans on hold, the decisions are what the tests say. -/
import Derived.Test.YtcigcfneldipkaaL3
namespace Go.Eng
open Go Go.RowKit

def codeOf (P : Program) (f : FuncId) : Code := match P.funcs[f]? with | some fn => fn.body.getD .skip | none => .skip
def ntOf (P : Program) (f : FuncId) : Nat := match P.funcs[f]? with | some fn => fn.ntmps | none => 0
def resOf (P : Program) (f : FuncId) : List ResultVar := match P.funcs[f]? with | some fn => fn.results.toList | none => []
def okF (P : Program) (f : FuncId) (k : Nat) : Bool := match P.funcs[f]? with | some fn => fn.body.isSome && nameOk fn.name && Nat.ble k fn.ntmps | none => false

section
variable {C : Ctx} {w0 : World} {nt : Nat} {qs : List Nat} {fuel : Nat}

theorem goes_dec {c : Code} {s s' : St} {e : Ex} (h : Goes C w0 nt c s e s') {s1 : St} (he : s1.env = s.env) (hh : s1.heap = s.heap) (hx : s1.nx = s.nx) : Goes C w0 nt c s1 e s' := by
  exact ⟨fun {_ _} R => h.of ⟨by have := R.rel; rw [he, hh, hx] at this; exact this, by have := R.fh; rw [hh, hx] at this; exact this⟩⟩

/-- A state told otherwise, with other decisions. -/
theorem goes_re {c : Code} {ts : List Nat} {xs : List AV} {bs : List ABlk} {dec dec' : List Bool} {s' : St} {e : Ex} (h : Goes C w0 nt c (mk ts xs bs dec) e s') : Goes C w0 nt c (mk ts xs bs dec') e s' :=
  ⟨fun {_ _} R => h.of ⟨R.rel, R.fh⟩⟩

/-- The end of a piece, told with other decisions. -/
theorem goes_out {c : Code} {ts : List Nat} {xs : List AV} {bs : List ABlk} {dec dec' : List Bool} {s : St} {e : Ex} (h : Goes C w0 nt c s e (mk ts xs bs dec)) : Goes C w0 nt c s e (mk ts xs bs dec') := by
  exact ⟨fun {_ _} R => Go.wp_mono (h.of R) fun x a' w' ⟨hx, hR⟩ => ⟨hx, ⟨hR.rel, hR.fh⟩⟩⟩

theorem seq_view (hO : OrcOK C.P C.orc) (hm : C.P.follows .mixedOrders = true) {c : Code} {s s2 : St} {e : Ex} (ts : List Nat) {xs : List AV} {bs : List ABlk} {ok : Bool} {dec : List Bool} (hc : isSeq c = true) (h : view C nt qs fuel (cL c) s ts = some ⟨.normal, xs, bs, ok⟩) (hok : ok = true)
    (h2 : Goes C w0 nt (cR c) (mk ts xs bs dec) e s2) : Goes C w0 nt c s e s2 :=
  goes_seq hc (goes_view hO hm h hok dec) h2

theorem con_goesF {f : FuncId} {xs : List AV} (h : okF C.P f xs.length = true) {dec : List Bool} {e : Ex} {s : St} (hgo : ∀ w0, Goes C w0 (ntOf C.P f) (codeOf C.P f) (St0 xs dec) e s) (hre : e = .ret ∨ e = .normal) {n : Nat} {r : HOut} (hs : finH C.P s (resOf C.P f) n = some r) (hok : r.ok = true) : Con C.P f xs n r.val r.blks := by
  unfold okF at h
  unfold ntOf codeOf at hgo
  unfold resOf at hs
  cases hf : C.P.funcs[f]? with
  | none => rw [hf] at h; cases h
  | some fn =>
    rw [hf] at h hgo hs
    dsimp only at h hgo hs
    simp only [Bool.and_eq_true, Nat.ble_eq] at h
    obtain ⟨⟨h1, h2⟩, h3⟩ := h
    cases hb : fn.body with
    | none => rw [hb] at h1; cases h1
    | some c =>
      rw [hb] at hgo
      exact con_goes hf hb (by simpa [nameOk] using h2) rfl h3 hgo hre hs hok
theorem con_goesC {P : Program} {es : List Entry} {d : Nat} {f : FuncId} (nt : Nat) {xs : List AV} (h : (okF P f xs.length && Nat.beq (ntOf P f) nt) = true) {dec : List Bool} {e : Ex} {s : St} {n : Nat} {r : HOut} (hs : finH P s (resOf P f) n = some r) (hok : r.ok = true) (hre : e = .ret ∨ e = .normal)
    (hgo : ∀ w0, Goes (ctx P es d) w0 nt (codeOf P f) (St0 xs dec) e s) : Con P f xs n r.val r.blks := by
  simp only [Bool.and_eq_true] at h
  have hn := Nat.eq_of_beq_eq_true h.2
  subst hn
  exact con_goesF (C := ctx P es d) h.1 hgo hre hs hok
end
end Go.Eng

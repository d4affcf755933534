/- Engine, part 12: contracts of calls; one operation evaluated, and its soundness. Condition: the contracts that the evaluator leans on hold. -/
import Derived.Test.YtcigcfneldipkaaE11
namespace Go.Eng
open Go Go.RowKit

/-- A call of function f, whatever it is made of. -/
def CallX (P : Program) (f : FuncId) (args : Array Value) (w : World) (R : Value → World → Prop) : Prop :=
  ∃ nx w1, (callFunc f args).run P w = .ok nx w1 ∧
    ((∃ v, nx = .value v ∧ R v w1) ∨ (∃ g as, nx = .enter g as ∧ Calls P g as w1 fun e w' => ∃ v, e = .returned v ∧ R v w'))

def heapL (n : Nat) : List ABlk → AHeap
  | [] => fun _ => none
  | b :: bs => upd (heapL (n + 1) bs) n (some b)

/-- What a call leaves: a value, and memory of its own that it hands over. -/
def Leaves (P : Program) (w : World) (n : Nat) (r : AV) (N : List ABlk) (v : Value) (w' : World) : Prop :=
  ∃ φ' im', Below w.heap.size w w' ∧ (∀ i, φ' i ≠ none → n ≤ i ∧ i < n + 64) ∧ (∀ b cs, im' b = some cs → w.heap.size ≤ b) ∧ HRep P w.heap.size φ' im' (heapL n N) w' ∧ V im' φ' r v

/-- The contract of a function at abstract arguments: it answers r, and hands over blocks N (numbered from n on). -/
def Con (P : Program) (f : FuncId) (xs : List AV) (n : Nat) (r : AV) (N : List ABlk) : Prop :=
  ∀ (im : Im) (w : World) (args : Array Value), (∀ b cs, im b = some cs → ∃ e g, w.heap[b]? = some (.cells cs e g)) → VL im (fun _ => none) xs args.toList → CallX P f args w (Leaves P w n r N)

structure ORes where
  val : AV
  blks : List ABlk
  ok : Bool

/-- The answers of the functions that are known. -/
abbrev Orc := FuncId → List AV → Nat → Option ORes

def OrcOK (P : Program) (orc : Orc) : Prop := ∀ f xs n r, orc f xs n = some r → r.ok = true → Con P f xs n r.val r.blks

structure Ctx where
  P : Program
  orc : Orc
  deep : FuncId → Bool

/-! ### Arguments as the callee sees them -/
def AV.noOwn : AV → Bool
  | .ptr _ _ | .slc _ _ _ | .agg _ | .tup _ => false
  | .fn _ [] [] => true
  | .fn _ _ _ => false
  | _ => true

structure CV where
  val : AV
  rd : List Nat
  ok : Bool

mutual
def conv (h : AHeap) (deep : Bool) : Nat → AV → Option CV
  | 0, _ => none
  | d + 1, .slc i off len => match h i with
    | some b => bif deep then (match convL h deep d b.cells with
        | some (cs, rd, ok) => some ⟨.snap (cs.drop off) len, i :: rd, ok⟩
        | none => none) else some ⟨.snap (b.cells.drop off) len, [i], b.cells.all AV.noOwn⟩
    | none => none
  | d + 1, .agg cs => match convL h deep d cs with
    | some (cs, rd, ok) => some ⟨.agg cs, rd, ok⟩
    | none => none
  | d + 1, .fn f a c => match convL h deep d a, convL h deep d c with
    | some (a, r1, o1), some (c, r2, o2) => some ⟨.fn f a c, r1 ++ r2, o1 && o2⟩
    | _, _ => none
  | d + 1, .ptr i off => match h i with
    | some b => bif deep then (match convL h deep d b.cells with
        | some (cs, rd, ok) => some ⟨.sptr cs off, i :: rd, ok⟩
        | none => none) else some ⟨.sptr b.cells off, [i], b.cells.all AV.noOwn⟩
    | none => none
  | _ + 1, .tup _ => none
  | _ + 1, x => some ⟨x, [], true⟩
def convL (h : AHeap) (deep : Bool) : Nat → List AV → Option (List AV × List Nat × Bool)
  | 0, _ => none
  | _ + 1, [] => some ([], [], true)
  | d + 1, x :: xs => match conv h deep d x, convL h deep d xs with
    | some c, some (cs, rd, ok) => some (c.val :: cs, c.rd ++ rd, c.ok && ok)
    | _, _ => none
end

/-- All that memory holds. -/
def imOf (w : World) : Im := fun b => match w.heap[b]? with | some (.cells cs _ _) => some cs | _ => none

theorem imOf_is {w : World} {b : Nat} {cs : Array Value} (h : imOf w b = some cs) : ∃ e g, w.heap[b]? = some (.cells cs e g) := by
  unfold imOf at h
  split at h
  · rename_i c e g hh; cases h; exact ⟨e, g, hh⟩
  · cases h

theorem imOf_of {w : World} {b : Nat} {cs : Array Value} {e : TypeId} {g : Nat × Nat} (h : w.heap[b]? = some (.cells cs e g)) : imOf w b = some cs := by
  unfold imOf
  rw [h]

section
variable {P : Program} {base : Nat} {φ : Phi} {im : Im} {h : AHeap} {w : World} {lo hi : Nat}

theorem HRep.im_le (H : HRep P base φ im h w) : Im.le im (imOf w) := fun b cs e => by
  obtain ⟨t, g, hh⟩ := H.imh b cs e
  exact imOf_of hh

theorem noOwn_V {x : AV} {v : Value} (hx : V im φ x v) (hn : x.noOwn = true) : V im (fun _ => none) x v := by
  cases hx <;> first | (simp [AV.noOwn] at hn; done) | skip
  case fn f a c a' c' ha hc =>
    cases a with
    | cons _ _ => simp [AV.noOwn] at hn
    | nil => cases c with
      | cons _ _ => simp [AV.noOwn] at hn
      | nil =>
        have e1 : a'.toList = [] := List.eq_nil_of_length_eq_zero (by rw [← ha.length]; rfl)
        have e2 : c'.toList = [] := List.eq_nil_of_length_eq_zero (by rw [← hc.length]; rfl)
        exact .fn _ f [] [] a' c' (by rw [e1]; exact .nil _) (by rw [e2]; exact .nil _)
  all_goals constructor <;> assumption

theorem noOwns_V : ∀ {xs : List AV} {vs : List Value}, VL im φ xs vs → xs.all AV.noOwn = true → VL im (fun _ => none) xs vs
  | _, _, .nil _, _ => .nil _
  | _, _, .cons _ x v xs vs h hs, hn => by
    simp only [List.all_cons, Bool.and_eq_true] at hn
    exact .cons _ _ _ _ _ (noOwn_V h hn.1) (noOwns_V hs hn.2)

theorem own_snap (H : HRep P base φ im h w) {i off len : Nat} {b : ABlk} (hb : h i = some b) {cs : List AV} {v : Value} (hv : V im φ (.slc i off len) v)
    (hcs : cs.length = b.cells.length) (hc : ∀ vs, VL im φ b.cells vs → VL (imOf w) (fun _ => none) cs vs) : V (imOf w) (fun _ => none) (.snap (cs.drop off) len) v := by
  cases hv with
  | slc0 => exact .snape _ _ _ _
  | slc _ _ _ _ cap l hl hle hcap =>
    rcases H.own i b hb with ⟨a1, _⟩ | ⟨l', cs', a1, a2, a3, a4, a5, a6, a7⟩
    · rw [hl] at a1; cases a1
    rw [hl] at a1
    cases a1
    refine .snap _ _ _ l.blk off cap cs' ((cs'.toList.take b.cells.length).drop off) (imOf_of a2) ?_ ((hc _ a7).drop off) hle
    rw [List.length_drop, hcs, List.drop_take]

theorem own_sptr (H : HRep P base φ im h w) {i off : Nat} {b : ABlk} (hb : h i = some b) {cs : List AV} {v : Value} (hv : V im φ (.ptr i off) v)
    (hcs : cs.length = b.cells.length) (hc : ∀ vs, VL im φ b.cells vs → VL (imOf w) (fun _ => none) cs vs) : V (imOf w) (fun _ => none) (.sptr cs off) v := by
  cases hv with
  | ptr _ _ _ l hl =>
    rcases H.own i b hb with ⟨a1, _⟩ | ⟨l', cs', a1, a2, a3, a4, a5, a6, a7⟩
    · rw [hl] at a1; cases a1
    rw [hl] at a1
    cases a1
    have := V.sptr (im := imOf w) (fun _ => none) cs off l.blk 0 cs' (cs'.toList.take b.cells.length) (imOf_of a2) (by rw [List.drop_zero, hcs]) (hc _ a7)
    rwa [Nat.zero_add] at this

end
end Go.Eng

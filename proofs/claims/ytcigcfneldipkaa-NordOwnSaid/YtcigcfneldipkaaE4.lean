/- Engine, part 4: the abstract heap, how it stands to memory, and what each kind of step does to that. No condition. -/
import Derived.Test.YtcigcfneldipkaaE3
namespace Go.Eng
open Go Go.RowKit

structure ABlk where
  cells : List AV
  ety : TypeId

abbrev AHeap := Nat → Option ABlk
abbrev AEnv := Nat → Option AV

def upd {α : Type} (f : Nat → Option α) (n : Nat) (v : Option α) : Nat → Option α := fun k => bif Nat.beq k n then v else f k

theorem upd_same {α : Type} (f : Nat → Option α) (n : Nat) (v : Option α) : upd f n v n = v := by simp [upd]
theorem upd_other {α : Type} (f : Nat → Option α) (n : Nat) (v : Option α) {k : Nat} (h : k ≠ n) : upd f n v k = f k := by
  have : Nat.beq k n = false := by
    cases e : Nat.beq k n with
    | false => rfl
    | true => exact absurd (Nat.eq_of_beq_eq_true e) h
  simp [upd, this]

def esz (P : Program) (t : TypeId) : Nat := match P.info? t with | some i => i.size | none => 0

structure HRep (P : Program) (base : Nat) (φ : Phi) (im : Im) (h : AHeap) (w : World) : Prop where
  imh : ∀ b cs, im b = some cs → ∃ e f, w.heap[b]? = some (.cells cs e f)
  own : ∀ i k, h i = some k → (φ i = none ∧ k.cells = []) ∨ ∃ l cs, φ i = some l ∧ w.heap[l.blk]? = some (.cells cs k.ety (0, 0)) ∧ base ≤ l.blk ∧ im l.blk = none ∧ l.cap ≤ maxLen ∧ l.cap * esz P k.ety ≤ cs.size ∧
    VL im φ k.cells (cs.toList.take k.cells.length)
  apart : ∀ i j k k' l l', h i = some k → h j = some k' → φ i = some l → φ j = some l' → l.blk = l'.blk → i = j

section
variable {P : Program} {base : Nat} {φ φ' : Phi} {im im' : Im} {h : AHeap} {w w' : World}

theorem HRep.heap_eq (H : HRep P base φ im h w) (e : w'.heap = w.heap) : HRep P base φ im h w' :=
  ⟨by rw [e]; exact H.imh, by rw [e]; exact H.own, H.apart⟩

theorem HRep.drop (H : HRep P base φ im h w) (n : Nat) : HRep P base φ im (upd h n none) w := by
  have hk : ∀ i k, upd h n none i = some k → h i = some k := fun i k e => by
    by_cases hi : i = n
    · subst hi; rw [upd_same] at e; cases e
    · rwa [upd_other _ _ _ hi] at e
  exact ⟨H.imh, fun i k e => H.own i k (hk i k e), fun i j k k' l l' a b => H.apart i j k k' l l' (hk _ _ a) (hk _ _ b)⟩

theorem Phi.le_upd {n : Nat} (hn : φ n = none) (l : Loc) : Phi.le φ (upd φ n (some l)) := fun i l' hi => by
  rw [upd_other]
  · exact hi
  · intro e; subst e; rw [hn] at hi; cases hi

theorem Phi.none_le (φ : Phi) : Phi.le (fun _ => none) φ := fun _ _ h => by cases h
theorem Im.le_refl (im : Im) : Im.le im im := fun _ _ h => h
theorem Phi.le_refl (φ : Phi) : Phi.le φ φ := fun _ _ h => h
theorem Phi.le_trans {a b c : Phi} (h : Phi.le a b) (k : Phi.le b c) : Phi.le a c := fun i l e => k i l (h i l e)
theorem Im.le_trans {a b c : Im} (h : Im.le a b) (k : Im.le b c) : Im.le a c := fun i l e => k i l (h i l e)

/-- A place is filled: a new block in memory, or one that no other place has. -/
theorem HRep.put (H : HRep P base φ im h w) {n : Nat} (hn : φ n = none) {l : Loc} {cs : Array Value} {k : ABlk}
    (hw : ∀ b, b ≠ l.blk → b < w.heap.size → w'.heap[b]? = w.heap[b]?)
    (hl : w'.heap[l.blk]? = some (.cells cs k.ety (0, 0))) (hb : base ≤ l.blk) (hi : im l.blk = none) (hcap : l.cap ≤ maxLen) (hsz : l.cap * esz P k.ety ≤ cs.size)
    (hap : ∀ i k l', h i = some k → φ i = some l' → l'.blk ≠ l.blk)
    (hv : VL im φ k.cells (cs.toList.take k.cells.length)) : HRep P base (upd φ n (some l)) im (upd h n (some k)) w' := by
  have hle := Phi.le_upd hn l
  have hlt : ∀ b o, w.heap[b]? = some o → b < w.heap.size := fun b o e => (Array.getElem?_eq_some_iff.1 e).1
  refine ⟨fun b c e => ?_, fun i k' e => ?_, fun i j k1 k2 l1 l2 e1 e2 e3 e4 e5 => ?_⟩
  · obtain ⟨x, f, hx⟩ := H.imh b c e
    refine ⟨x, f, ?_⟩
    rw [hw b (fun e' => by subst e'; rw [hi] at e; cases e) (hlt _ _ hx)]
    exact hx
  · by_cases hin : i = n
    · subst hin
      rw [upd_same] at e
      cases e
      exact .inr ⟨l, cs, upd_same _ _ _, hl, hb, hi, hcap, hsz, hv.mono hle (Im.le_refl _)⟩
    · rw [upd_other _ _ _ hin] at e
      rcases H.own i k' e with ⟨a1, a2⟩ | ⟨l', cs', a1, a2, a3, a4, a5, a6, a7⟩
      · exact .inl ⟨by rw [upd_other _ _ _ hin]; exact a1, a2⟩
      · refine .inr ⟨l', cs', hle _ _ a1, ?_, a3, a4, a5, a6, a7.mono hle (Im.le_refl _)⟩
        rw [hw _ (hap i k' l' e a1) (hlt _ _ a2)]
        exact a2
  · by_cases h1 : i = n
    · by_cases h2 : j = n
      · rw [h1, h2]
      · rw [upd_other _ _ _ h2] at e2 e4
        subst h1
        rw [upd_same] at e3
        cases e3
        exact absurd e5.symm (hap j k2 l2 e2 e4)
    · rw [upd_other _ _ _ h1] at e1 e3
      by_cases h2 : j = n
      · subst h2
        rw [upd_same] at e4
        cases e4
        exact absurd e5 (hap i k1 l1 e1 e3)
      · rw [upd_other _ _ _ h2] at e2 e4
        exact H.apart i j k1 k2 l1 l2 e1 e2 e3 e4 e5

theorem HRep.lt_im (H : HRep P base φ im h w) {b : Nat} {cs : Array Value} (e : im b = some cs) : b < w.heap.size := by
  obtain ⟨x, f, hx⟩ := H.imh b cs e
  exact (Array.getElem?_eq_some_iff.1 hx).1

theorem HRep.new_im (H : HRep P base φ im h w) : im w.heap.size = none := by
  cases e : im w.heap.size with
  | none => rfl
  | some cs => exact absurd (H.lt_im e) (by omega)

/-- A new block. -/
theorem HRep.alloc (H : HRep P base φ im h w) {n : Nat} (hn : φ n = none) (cap : Nat) (cs : Array Value) (k : ABlk) (hbase : base ≤ w.heap.size)
    (hcap : cap ≤ maxLen) (hsz : cap * esz P k.ety ≤ cs.size) (hv : VL im φ k.cells (cs.toList.take k.cells.length)) :
    HRep P base (upd φ n (some ⟨w.heap.size, cap⟩)) im (upd h n (some k)) (w.alloc (.cells cs k.ety)) := by
  refine H.put hn (l := ⟨w.heap.size, cap⟩) (cs := cs) (fun b _ hb => Below.heap_alloc w _ b hb) (heap_alloc_new w _) hbase H.new_im hcap hsz (fun i k' l' hi hl e => ?_) hv
  rcases H.own i k' hi with ⟨a1, _⟩ | ⟨l2, cs', a1, a2, _⟩
  · rw [hl] at a1; cases a1
  rw [hl] at a1
  cases a1
  have := (Array.getElem?_eq_some_iff.1 a2).1
  simp at e
  omega

/-- What may be nil: nothing is there. -/
theorem HRep.nothing (H : HRep P base φ im h w) {n : Nat} (hn : φ n = none) (e : TypeId) : HRep P base φ im (upd h n (some ⟨[], e⟩)) w := by
  refine ⟨H.imh, fun i k e => ?_, fun i j k1 k2 l1 l2 e1 e2 e3 e4 e5 => ?_⟩
  · by_cases hi : i = n
    · subst hi; rw [upd_same] at e; cases e; exact .inl ⟨hn, rfl⟩
    · rw [upd_other _ _ _ hi] at e; exact H.own i k e
  · by_cases h1 : i = n
    · subst h1; rw [hn] at e3; cases e3
    · by_cases h2 : j = n
      · subst h2; rw [hn] at e4; cases e4
      · rw [upd_other _ _ _ h1] at e1
        rw [upd_other _ _ _ h2] at e2
        exact H.apart i j k1 k2 l1 l2 e1 e2 e3 e4 e5

/-- A block of one's own is written. -/
theorem HRep.store (H : HRep P base φ im h w) {i : Nat} {k k' : ABlk} (hi : h i = some k) {l : Loc} (hl : φ i = some l) {cs cs' : Array Value} (hc : w.heap[l.blk]? = some (.cells cs k.ety (0, 0)))
    (hw : ∀ b, b ≠ l.blk → w'.heap[b]? = w.heap[b]?) (hl' : w'.heap[l.blk]? = some (.cells cs' k'.ety (0, 0))) (hety : k'.ety = k.ety) (hsz : cs'.size = cs.size)
    (hv : VL im φ k'.cells (cs'.toList.take k'.cells.length)) : HRep P base φ im (upd h i (some k')) w' := by
  rcases H.own i k hi with ⟨a1, _⟩ | ⟨l0, cs0, a1, a2, a3, a4, a5, a6, a7⟩
  · rw [hl] at a1; cases a1
  rw [hl] at a1
  cases a1
  rw [hc] at a2
  cases a2
  have hk : ∀ j k2, upd h i (some k') j = some k2 → ∃ k3, h j = some k3 := fun j k2 e => by
    by_cases hj : j = i
    · subst hj; exact ⟨k, hi⟩
    · rw [upd_other _ _ _ hj] at e; exact ⟨k2, e⟩
  refine ⟨fun b c e => ?_, fun j k2 e => ?_, fun j1 j2 k1 k2 l1 l2 e1 e2 e3 e4 e5 => ?_⟩
  · obtain ⟨x, f, hx⟩ := H.imh b c e
    refine ⟨x, f, ?_⟩
    rw [hw b (fun e' => by subst e'; rw [a4] at e; cases e)]
    exact hx
  · by_cases hj : j = i
    · subst hj
      rw [upd_same] at e
      cases e
      exact .inr ⟨l, cs', hl, hl', a3, a4, a5, by rw [hety, hsz]; exact a6, hv⟩
    · rw [upd_other _ _ _ hj] at e
      rcases H.own j k2 e with b | ⟨l', cs2, b1, b2, b3, b4, b5, b6, b7⟩
      · exact .inl b
      · refine .inr ⟨l', cs2, b1, ?_, b3, b4, b5, b6, b7⟩
        rw [hw _ (fun e' => hj (H.apart j i k2 k l' l e hi b1 hl e'))]
        exact b2
  · obtain ⟨k3, e1'⟩ := hk _ _ e1
    obtain ⟨k4, e2'⟩ := hk _ _ e2
    exact H.apart j1 j2 k3 k4 l1 l2 e1' e2' e3 e4 e5
end

end Go.Eng

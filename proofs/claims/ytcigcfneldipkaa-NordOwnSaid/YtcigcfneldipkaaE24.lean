/- Engine, part 24: pieces of code put together: where each begins and ends, told by the few places that matter; loops. Condition: the contracts that the evaluator leans on hold, the decisions are what the tests say. -/
import Derived.Test.YtcigcfneldipkaaE23
namespace Go.Eng
open Go Go.RowKit

def cL : Code → Code
  | .seq a _ => a
  | .block _ b => b
  | .loop b => b
  | .cond _ x _ => x
  | c => c
def cR : Code → Code
  | .seq _ b => b
  | .cond _ _ y => y
  | c => c
def isSeq : Code → Bool | .seq _ _ => true | _ => false
def isLoop : Code → Bool | .loop _ => true | _ => false
def isBlock (id : Nat) : Code → Bool | .block j _ => Nat.beq j id | _ => false

def envZ : List Nat → List AV → AEnv
  | t :: ts, x :: xs => upd (envZ ts xs) t (some x)
  | _, _ => fun _ => none

/-- A state told by the few places that matter. -/
def mk (ts : List Nat) (xs : List AV) (bs : List ABlk) (dec : List Bool) : St := ⟨envZ ts xs, heapL 0 bs, bs.length, dec, true⟩

def getAll (env : AEnv) : List Nat → Option (List AV)
  | [] => some []
  | t :: ts => match env t, getAll env ts with
    | some x, some xs => some (x :: xs)
    | _, _ => none

structure View where
  ex : Ex
  xs : List AV
  bs : List ABlk
  ok : Bool

def view (C : Ctx) (nt : Nat) (qs : List Nat) (fuel : Nat) (c : Code) (s : St) (ts : List Nat) : Option View :=
  match evCode C nt qs fuel c s with
  | some (e, s1) => match getAll s1.env ts with
    | some ys =>
      let ids := reach s1.heap 4096 (idsL 4096 ys) []
      match renL true ids 0 4096 ys, renBlks true ids 0 s1.heap ids with
      | some xs, some bs => bif nodupB ids then some ⟨e, xs, bs, s1.ok⟩ else none
      | _, _ => none
    | none => none
  | none => none

section
variable {C : Ctx} {w0 : World} {nt : Nat} {qs : List Nat} {fuel : Nat}

theorem envZ_V {P : Program} {φ : Phi} {im : Im} {env : AEnv} {h : AHeap} {a : Act} {w : World} (RF : RelF P w0 nt φ im env h a w) {ids : List Nat} {n : Nat} : ∀ {ts : List Nat} {ys xs : List AV} {d : Nat}, getAll env ts = some ys → renL true ids n d ys = some xs →
    ∀ t x, envZ ts xs t = some x → ∃ v, a.tmps[t]? = some v ∧ V im (renPhi ids n φ) x v
  | [], ys, xs, d, _, _, t, x, e => by cases xs <;> cases e
  | u :: us, ys, xs, 0, _, h2, t, x, e => by simp [renL] at h2
  | u :: us, ys, xs, d + 1, h1, h2, t, x, e => by
    simp only [getAll] at h1
    split at h1
    · rename_i y ys' hy hys
      cases h1
      simp only [renL] at h2
      split at h2
      · rename_i z zs hz hzs
        cases h2
        simp only [envZ] at e
        by_cases htu : t = u
        · subst htu
          rw [upd_same] at e
          cases e
          obtain ⟨v, g1, g2⟩ := RF.env t y hy
          exact ⟨v, g1, ren_V (fun _ b c e => e) hz g2⟩
        · rw [upd_other _ _ _ htu] at e
          exact envZ_V RF hys hzs t x e
      · cases h2
    · cases h1

theorem goes_view (hO : OrcOK C.P C.orc) (hm : C.P.follows .mixedOrders = true) {c : Code} {s : St} {ts : List Nat} {v : View} (h : view C nt qs fuel c s ts = some v) (hok : v.ok = true) (dec : List Bool) : Goes C w0 nt c s v.ex (mk ts v.xs v.bs dec) := by
  unfold view at h
  split at h
  · rename_i e s1 he
    split at h
    · rename_i ys hys
      dsimp only at h
      split at h
      · rename_i xs bs hxs hbs
        cases hn : nodupB (reach s1.heap 4096 (idsL 4096 ys) []) with
        | false => rw [hn] at h; cases h
        | true =>
          rw [hn] at h
          cases h
          generalize hids : reach s1.heap 4096 (idsL 4096 ys) [] = ids at *
          obtain ⟨_, hgo⟩ := evCode_sound (w0 := w0) hO hm c s s1 e he hok
          refine ⟨fun {a w} R => Go.wp_mono (hgo.of R) fun x a' w' ⟨hx, hR⟩ => ⟨hx, ?_⟩⟩
          obtain ⟨⟨φ, im, RF, fφ⟩, fh⟩ := hR
          have hlen := (renBlks_is hbs).1
          refine ⟨⟨renPhi ids 0 φ, im, ⟨RF.hrep.ren hn hbs im (fun b cs e => e) (fun _ b c e => e), envZ_V RF hys hxs, RF.size, RF.defers, RF.below⟩, fun i hi => ?_⟩, fun i hi => ?_⟩
          · have hi' : bs.length ≤ i := hi
            unfold renPhi
            rw [if_pos (Nat.zero_le _), List.getElem?_eq_none (by omega)]
            rfl
          · have hi' : bs.length ≤ i := hi
            show heapL 0 bs i = none
            cases hp : heapL 0 bs i with
            | none => rfl
            | some k =>
              have := (heapL_is hp).2
              rw [List.getElem?_eq_none (by omega)] at this
              cases this
      · cases h
    · cases h
  · cases h

theorem goes_seq {c : Code} (hc : isSeq c = true) {s s1 s2 : St} {e : Ex} (h1 : Goes C w0 nt (cL c) s .normal s1) (h2 : Goes C w0 nt (cR c) s1 e s2) : Goes C w0 nt c s e s2 := by
  cases c <;> cases hc
  refine ⟨fun {a w} R => wp_seq (Go.wp_mono (h1.of R) fun x a' w' ⟨hx, hR⟩ => ?_)⟩
  subst hx
  exact h2.of hR

/-- The first of two does not end as it should: the second is not reached. -/
theorem goes_seq_out {c : Code} (hc : isSeq c = true) {s s1 : St} {e : Ex} (he : e ≠ .normal) (h1 : Goes C w0 nt (cL c) s e s1) : Goes C w0 nt c s e s1 := by
  cases c <;> cases hc
  refine ⟨fun {a w} R => wp_seq (Go.wp_mono (h1.of R) fun x a' w' ⟨hx, hR⟩ => ?_)⟩
  subst hx
  cases e with
  | normal => exact absurd rfl he
  | exit j => exact ⟨rfl, hR⟩
  | ret => exact ⟨rfl, hR⟩

theorem goes_block {id : Nat} {c : Code} (hc : isBlock id c = true) {s s1 : St} (h1 : Goes C w0 nt (cL c) s (.exit id) s1) : Goes C w0 nt c s .normal s1 := by
  cases c <;> simp [isBlock] at hc
  subst hc
  refine ⟨fun {a w} R => wp_block (Go.wp_mono (h1.of R) fun x a' w' ⟨hx, hR⟩ => ?_)⟩
  subst hx
  simp only [Ex.toExit, Exit.inBlock, if_true]
  exact ⟨trivial, hR⟩

theorem goes_block_normal {id : Nat} {c : Code} (hc : isBlock id c = true) {s s1 : St} (h1 : Goes C w0 nt (cL c) s .normal s1) : Goes C w0 nt c s .normal s1 := by
  cases c <;> simp [isBlock] at hc
  refine ⟨fun {a w} R => wp_block (Go.wp_mono (h1.of R) fun x a' w' ⟨hx, hR⟩ => ?_)⟩
  subst hx
  exact ⟨rfl, hR⟩

theorem goes_block_ret {id : Nat} {c : Code} (hc : isBlock id c = true) {s s1 : St} (h1 : Goes C w0 nt (cL c) s .ret s1) : Goes C w0 nt c s .ret s1 := by
  cases c <;> simp [isBlock] at hc
  refine ⟨fun {a w} R => wp_block (Go.wp_mono (h1.of R) fun x a' w' ⟨hx, hR⟩ => ?_)⟩
  subst hx
  exact ⟨rfl, hR⟩

theorem goes_loop {c : Code} (hc : isLoop c = true) {e : Ex} (he : e ≠ .normal) {s2 : St} (n : Nat) (S : Nat → St) (h1 : ∀ i, i < n → Goes C w0 nt (cL c) (S i) .normal (S (i + 1))) (h2 : Goes C w0 nt (cL c) (S n) e s2) : Goes C w0 nt c (S 0) e s2 := by
  cases c <;> cases hc
  rename_i b
  refine ⟨fun {a w} R => wp_loop_rounds (n + 1) ?_⟩
  have key : ∀ m i, i + m = n → ∀ {a : Act} {w : World}, RelS C.P w0 nt (S i) a w → Code.rounds C.P b (fun x a' w' => x = e.toExit ∧ RelS C.P w0 nt s2 a' w') (m + 1) a w := by
    intro m
    induction m with
    | zero =>
      intro i hi a w R
      have : i = n := by omega
      subst this
      rw [rounds_succ]
      refine Go.wp_mono (h2.of R) fun x a' w' ⟨hx, hR⟩ => ?_
      subst hx
      cases e with
      | normal => exact absurd rfl he
      | exit j => exact ⟨rfl, hR⟩
      | ret => exact ⟨rfl, hR⟩
    | succ m ih =>
      intro i hi a w R
      rw [rounds_succ]
      refine Go.wp_mono ((h1 i (by omega)).of R) fun x a' w' ⟨hx, hR⟩ => ?_
      subst hx
      exact ih (i + 1) (by omega) hR
  exact key n 0 (by omega) R
end
end Go.Eng
